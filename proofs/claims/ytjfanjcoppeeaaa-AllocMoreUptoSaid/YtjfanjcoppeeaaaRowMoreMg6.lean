/-
  anf.May at functions that return a number: it tells something. Conditions: none.
  Graphs that may be: what ssa.May's loop over blocks keeps. Conditions: none.
  Plans as in the fifteenth part, with one of three. Conditions: none.
  ssa.May: where it holds, each graph is one that may be. Conditions: none.
  How many parts graphs have: an int. Conditions: none.
-/
import Derived.Test.YtjfanjcoppeeaaaRowMoreMg5
import Derived.Test.YtjfanjcoppeeaaaRowMoreMg4
namespace Go.Fw
open Go Go.RowKit
set_option linter.unusedVariables false
section
variable {P : Program} {N : Nat} {l : List (Nat × Value)} {C : World → Prop} {d : Option Tmp} {T : TypeId} {pos : String} {af : Array Edge} {g : Option (Nat × Bool)}
theorem op_insertK {t kt e b : Nat} {kk : IntKind} {x y z : Operand} {ks : List Int} {k : Int} {w0 w : World} {M : Nat → Prop} {H H' : List It} [ht : TMp P t kt e] [hk : TIn P kt kk]
    (hx : ev l x = some (.map (some b))) (hy : ev l y = some (.int .i64 k)) (hz : ev l z = some (.bool true)) (hH : HS w0 M H w) (hr : Rp H (sk b ks) (sk b (sadd ks k)) H') :
    Op1 P N l ⟨d, .insert t x y z, T, pos, af, g⟩ w (fun _ w' => HS w0 M H' w') := by
  intro a hA K Q hK
  have h := op_addK (P := P) (N := N) (d := d) (T := T) (pos := pos) (af := af) (g := g) (t := t) hx hy hz hH hr a hA K Q hK
  exact h
inductive SzL (P : Program) : List (Nat × Nat) → List (Nat × Nat) → Prop
  | nil : SzL P [] []
  | cons {t o s : Nat} {fl szs : List (Nat × Nat)} (h : ∃ i, P.info? t = some i ∧ i.size = s) (k : SzL P fl szs) : SzL P ((t, o) :: fl) ((o, s) :: szs)
theorem run_szl {fl szs : List (Nat × Nat)} (h : SzL P fl szs) (w : World) : (fl.mapM (fun p => do pure (p.2, ← sizeOf p.1)) : Sem (List (Nat × Nat))).run P w = .ok szs w := by
  induction h with
  | nil => simp
  | @cons t o s fl szs h k ih =>
    obtain ⟨i, h1, h2⟩ := h
    rw [List.mapM_cons]
    have e1 : (sizeOf t : Sem Nat).run P w = .ok s w := by
      simp [sizeOf, typeInfo, h1, h2]
    simp only [Sem.run_bind, e1, Result.andThen_ok, Sem.run_pure, ih]
end
end Go.Fw
namespace Go.Proofs.Ytjfanjcoppeeaaa
open Go Go.Fw
set_option linter.unusedVariables false
def encF (o : Option Addr) (c : Int) : List Value := .int .i64 c :: encB o
theorem encF_len (o : Option Addr) (c : Int) : (encF o c).length = 12 := rfl
theorem own4 {w0 w : World} {H : List It} {T : Nat} {o : Option Addr} {a b c d : ByteArray} (h : HS w0 noM (own T 1 o 4 4 [.string a, .string b, .string c, .string d] :: H) w) : ∃ sl : List ByteArray, sl.length = 4 ∧ HS w0 noM (own T 1 o sl.length sl.length (flat encX sl) :: H) w := ⟨[a, b, c, d], rfl, h⟩
def kk0 (o : Option Addr) (n c : Nat) (g : Grs) : Kk := ⟨o, n, c, g, none, 0, 0, 0, none, none, none, none⟩
theorem cap_at {o : Option Addr} {l : List Int} {k : Nat} (h : k < l.length) : (flat (encF o) l)[k * 12 + 0]? = some (.int .i64 (l.getD k 0)) := by
  refine flat_get (off := 0) (encF_len o) (List.getElem?_eq_getElem h) ?_
  rw [List.getD_eq_getElem?_getD, List.getElem?_eq_getElem h]
  rfl
theorem flatI_s (l : List Int) (x : Int) : flat Fw.encI l ++ [.int .i64 x] = flat Fw.encI (l ++ [x]) := by rw [flat_snoc]; rfl
theorem sub_bd (o : Option Addr) (c : Int) (i : Nat) (v : Value) (h : (encB o)[i]? = some v) : (encF o c)[0 + 1 + i]? = some v := by rw [Nat.zero_add, Nat.add_comm]; exact h
set_option maxRecDepth 10000 attribute [local irreducible] Code.wp wpList Calls Ex Op1 sat bat blk cb own Go.Fw.mp Go.Fw.mpO Go.Fw.mpI Go.Fw.mpE Go.Fw.itr HS Rd Ret wkD Hp Cl Cls Exit.then Exit.inBlock Exit.noGoto bodyPost Go.Fw.flat wk2 Go.Fw.all Go.Fw.owns wpOp
attribute [local irreducible] sk mpK srt sko mvO entK geS

set_option maxHeartbeats 16000000 in
theorem anfMay_spec (w0 : World) (oF : Option Addr) (cF : Nat) (cs : List Int) (o : Option Addr) (g : Grs) (hF : Rd w0 oF (flat (encF o) cs)) (hr : Rd w0 o (encAt at0)) (hcl : cs.length ≤ 100000) (hls : RdV w0 encX g.ls) (hts : RdV w0 encX g.ts) (hxs : RdV w0 encX g.xs) (hss : RdV w0 encX g.ss) :
    Ret Try.prog 33 #[.agg (encP oF cs.length cF g).toArray] w0 (fun v w => ∃ b, v = .bool b ∧ Kp w0 noM w) := by
  have hH : HS w0 noM [] w0 := HS.init w0 noM
  have hspF : Sp oF cs.length := hF.sp (sz := 12) (flat_length (encF_len o) _) (by omega)
  (refine enter (N := 126) Try.func33 rfl Try.ntmps33 rfl ?_; intro a hA; dsimp only [sl0, Nat.reduceAdd] at hA)
  repeat' (first | (first | (refine GT ?_ ?_ <;> intro hg <;> clear hA a <;> intro a hA <;> (first | exact FA | replace hg := of_decide_eq_true hg | replace hg := of_decide_eq_false hg | skip)) | ((first | apply st_ex hA hH rfl rfl (by decide) | apply dr_ex hA rfl rfl rfl (by decide) | apply dr_exp hA rfl rfl rfl (by decide) | apply dr_ex3 hA hH rfl rfl rfl (by decide)); (first | (apply ex_load; rfl; refine cl_rd hF id (cap_at ?_); (show 0 < _); omega)); clear hA a; intro a hA) | (refine QT ?_; clear hA a; intro a hA) | (first | (refine BT ?_; clear hA hH; rintro _ w ⟨bN, rfl, hH⟩ a hA) | (refine LT ?_; clear hA hH; rintro _ w ⟨oN, rfl, hH⟩ a hA) | (refine AT ?_; clear hA; rintro _ w ⟨oN, cN, rfl, hH2⟩ a hA; clear hH; have hH := (hH2 _ (by (repeat constructor))).tail; clear hH2) | (refine S0T ?_; clear hH; rintro _ w hH) | (refine st_op hA rfl rfl (by decide) (op_call rfl rfl rfl (rising_spec _ g.ls (hls.keep hH.kp))) ?_; clear hA; rintro _ w ⟨b, rfl, hk⟩ a hA; replace hH := hH.keep hk; clear hk) | (refine st_op hA rfl rfl (by decide) (op_call rfl rfl rfl (rising_spec _ g.ts (hts.keep hH.kp))) ?_; clear hA; rintro _ w ⟨b, rfl, hk⟩ a hA; replace hH := hH.keep hk; clear hk) | (refine st_op hA rfl rfl (by decide) (op_call rfl rfl rfl (rising_spec _ g.xs (hxs.keep hH.kp))) ?_; clear hA; rintro _ w ⟨b, rfl, hk⟩ a hA; replace hH := hH.keep hk; clear hk))) | ((first | refine CT ?_ | (refine DT ?_ ?_ <;> intro hc <;> try (exfalso; omega))) <;> repeat' refine CT ?_) | (first | (refine DSK ?_; clear hA a; intro a hA) | (first | (refine DLT ?_; clear hA hH; rintro _ w ⟨oN, rfl, hH⟩; refine ⟨STT, ?_⟩; intro a hA) | (refine DAT ?_; clear hA; rintro _ w ⟨oN, cN, rfl, hH2⟩; clear hH; have hH := (hH2 _ (by (repeat constructor))).tail; clear hH2; refine ⟨STT, ?_⟩; intro a hA))) )
  all_goals first | exact rt1 (.inl rfl) rfl hA rfl ⟨_, rfl, hH.kp⟩ | skip
  obtain ⟨b1, hb1⟩ : ∃ x, x = bN := ⟨_, rfl⟩
  rw [← hb1] at hA hH
  clear hb1 bN
  have hcl2 : 1 ≤ cs.length := by omega
  have hcl4 : cs.length ≤ 4096 := by omega
  obtain ⟨sl, hsl, hH1⟩ := own4 hH
  clear hH
  have hH := hH1
  clear hH1
  have hA2 : Sl 126 [(48, .int .i64 (0 : Nat)), (47, .int .i64 sl.length), (46, .slice oN sl.length sl.length), (1, .pointer (some (bat b1 0)))] a := by rw [hsl]; exact (hA.sub (by (repeat (first | exact trivial | refine ⟨rfl, ?_⟩))))
  clear hA
  have hspS := hH.own_sp (T := 9) (o := oN) (.head _)
  refine wp_lpk (S := Nat) (fun i a w => i ≤ sl.length ∧ HS w0 noM [own 9 1 oN sl.length sl.length (flat encX sl), cb b1 88 (encP oF cs.length cF g)] w ∧ Sl 126 [(48, .int .i64 i), (47, .int .i64 sl.length), (46, .slice oN sl.length sl.length), (1, .pointer (some (bat b1 0)))] a) (fun i => sl.length - i)
    (fun a w => HS w0 noM [cb b1 88 (encP oF cs.length cF g)] w ∧ Sl 126 [(1, .pointer (some (bat b1 0)))] a) 0 ⟨Nat.zero_le _, hH, hA2⟩ ?_ ?_
  · clear hA2 hH
    rintro i a w ⟨hi, hH, hA⟩
    by_cases hlt : i < sl.length
    rotate_left
    · repeat' (first | (first | (refine GT ?_ ?_ <;> intro hg <;> clear hA a <;> intro a hA <;> (first | exact FA | replace hg := of_decide_eq_true hg | replace hg := of_decide_eq_false hg | skip)) | (refine QT ?_; clear hA a; intro a hA) | (first | (refine BT ?_; clear hA hH; rintro _ w ⟨bN, rfl, hH⟩ a hA) | (refine LT ?_; clear hA hH; rintro _ w ⟨oN, rfl, hH⟩ a hA) | (refine AT ?_; clear hA; rintro _ w ⟨oN, cN, rfl, hH2⟩ a hA; clear hH; have hH := (hH2 _ (by (repeat constructor))).tail; clear hH2) | (refine S0T ?_; clear hH; rintro _ w hH) )) | ((first | refine CT ?_ | (refine DT ?_ ?_ <;> intro hc <;> try (exfalso; omega))) <;> repeat' refine CT ?_) | (first | (refine DSK ?_; clear hA a; intro a hA) | (first | (refine DLT ?_; clear hA hH; rintro _ w ⟨oN, rfl, hH⟩; refine ⟨STT, ?_⟩; intro a hA) | (refine DAT ?_; clear hA; rintro _ w ⟨oN, cN, rfl, hH2⟩; clear hH; have hH := (hH2 _ (by (repeat constructor))).tail; clear hH2; refine ⟨STT, ?_⟩; intro a hA))) )
      exact ⟨hH.tail, (hA.sub (by (repeat (first | exact trivial | refine ⟨rfl, ?_⟩))))⟩
    have hv := strs_at hlt
    repeat' (first | (first | (refine GT ?_ ?_ <;> intro hg <;> clear hA a <;> intro a hA <;> (first | exact FA | replace hg := of_decide_eq_true hg | replace hg := of_decide_eq_false hg | skip)) | ((first | apply st_ex hA hH rfl rfl (by decide) | apply dr_ex hA rfl rfl rfl (by decide) | apply dr_exp hA rfl rfl rfl (by decide) | apply dr_ex3 hA hH rfl rfl rfl (by decide)); (first | (apply ex_indexAddr_nat; rfl; rfl; omega; exact hspS) | (apply ex_load; rfl; apply cl_own (T := 9); exact MEMT; exact hv)); clear hA a; intro a hA) | (refine QT ?_; clear hA a; intro a hA) | (first | (refine BT ?_; clear hA hH; rintro _ w ⟨bN, rfl, hH⟩ a hA) | (refine LT ?_; clear hA hH; rintro _ w ⟨oN, rfl, hH⟩ a hA) | (refine AT ?_; clear hA; rintro _ w ⟨oN, cN, rfl, hH2⟩ a hA; clear hH; have hH := (hH2 _ (by (repeat constructor))).tail; clear hH2) | (refine S0T ?_; clear hH; rintro _ w hH) )) | ((first | refine CT ?_ | (refine DT ?_ ?_ <;> intro hc <;> try (exfalso; omega))) <;> repeat' refine CT ?_) | (first | (refine DSK ?_; clear hA a; intro a hA) | (first | (refine DLT ?_; clear hA hH; rintro _ w ⟨oN, rfl, hH⟩; refine ⟨STT, ?_⟩; intro a hA) | (refine DAT ?_; clear hA; rintro _ w ⟨oN, cN, rfl, hH2⟩; clear hH; have hH := (hH2 _ (by (repeat constructor))).tail; clear hH2; refine ⟨STT, ?_⟩; intro a hA))) )
    (refine st_op hA rfl rfl (by decide) (op_call rfl rfl rfl (containsX_spec _ g.xs _ (hxs.keep hH.kp))) ?_; clear hA; rintro _ w ⟨b, rfl, hk⟩ a hA; replace hH := hH.keep hk; clear hk)
    repeat' (first | (first | (refine GT ?_ ?_ <;> intro hg <;> clear hA a <;> intro a hA <;> (first | exact FA | replace hg := of_decide_eq_true hg | replace hg := of_decide_eq_false hg | skip)) | (refine QT ?_; clear hA a; intro a hA) | (first | (refine BT ?_; clear hA hH; rintro _ w ⟨bN, rfl, hH⟩ a hA) | (refine LT ?_; clear hA hH; rintro _ w ⟨oN, rfl, hH⟩ a hA) | (refine AT ?_; clear hA; rintro _ w ⟨oN, cN, rfl, hH2⟩ a hA; clear hH; have hH := (hH2 _ (by (repeat constructor))).tail; clear hH2) | (refine S0T ?_; clear hH; rintro _ w hH) )) | ((first | refine CT ?_ | (refine DT ?_ ?_ <;> intro hc <;> try (exfalso; omega))) <;> repeat' refine CT ?_) | (first | (refine DSK ?_; clear hA a; intro a hA) | (first | (refine DLT ?_; clear hA hH; rintro _ w ⟨oN, rfl, hH⟩; refine ⟨STT, ?_⟩; intro a hA) | (refine DAT ?_; clear hA; rintro _ w ⟨oN, cN, rfl, hH2⟩; clear hH; have hH := (hH2 _ (by (repeat constructor))).tail; clear hH2; refine ⟨STT, ?_⟩; intro a hA))) )
    all_goals first | exact ⟨i + 1, ⟨hlt, hH, (hA.sub (by (repeat (first | exact trivial | refine ⟨rfl, ?_⟩))))⟩, by omega⟩ | exact rt1 (.inl rfl) rfl hA rfl ⟨_, rfl, hH.kp⟩ | skip
  clear hA2 hH
  rintro a w ⟨hH, hA⟩
  repeat' (first | (first | (refine GT ?_ ?_ <;> intro hg <;> clear hA a <;> intro a hA <;> (first | exact FA | replace hg := of_decide_eq_true hg | replace hg := of_decide_eq_false hg | skip)) | (refine QT ?_; clear hA a; intro a hA) | (first | (refine BT ?_; clear hA hH; rintro _ w ⟨bN, rfl, hH⟩ a hA) | (refine LT ?_; clear hA hH; rintro _ w ⟨oN, rfl, hH⟩ a hA) | (refine AT ?_; clear hA; rintro _ w ⟨oN, cN, rfl, hH2⟩ a hA; clear hH; have hH := (hH2 _ (by (repeat constructor))).tail; clear hH2) | (refine S0T ?_; clear hH; rintro _ w hH) )) | ((first | refine CT ?_ | (refine DT ?_ ?_ <;> intro hc <;> try (exfalso; omega))) <;> repeat' refine CT ?_) | (first | (refine DSK ?_; clear hA a; intro a hA) | (first | (refine DLT ?_; clear hA hH; rintro _ w ⟨oN, rfl, hH⟩; refine ⟨STT, ?_⟩; intro a hA) | (refine DAT ?_; clear hA; rintro _ w ⟨oN, cN, rfl, hH2⟩; clear hH; have hH := (hH2 _ (by (repeat constructor))).tail; clear hH2; refine ⟨STT, ?_⟩; intro a hA))) )
  (refine st_op hA rfl rfl (by decide) (op_call rfl rfl rfl (containsFX_spec _ g.ss (hss.keep hH.kp))) ?_; clear hA; rintro _ w ⟨b, rfl, hk⟩ a hA; replace hH := hH.keep hk; clear hk)
  repeat' (first | (first | (refine GT ?_ ?_ <;> intro hg <;> clear hA a <;> intro a hA <;> (first | exact FA | replace hg := of_decide_eq_true hg | replace hg := of_decide_eq_false hg | skip)) | ((first | apply st_ex hA hH rfl rfl (by decide) | apply dr_ex hA rfl rfl rfl (by decide) | apply dr_exp hA rfl rfl rfl (by decide) | apply dr_ex3 hA hH rfl rfl rfl (by decide)); (first | (apply ex_build (szs := [(0, 5), (5, 1), (6, 1), (7, 1), (8, 1), (9, 1), (10, 1), (11, 1)]) (cs := (encKk (kk0 oF cs.length cF g) 0).toArray); exact run_szl (by (repeat (first | exact SzL.nil | refine SzL.cons ⟨_, rfl, by decide⟩ ?_))); rfl; rfl)); clear hA a; intro a hA) | (refine QT ?_; clear hA a; intro a hA) | (first | (refine BT ?_; clear hA hH; rintro _ w ⟨bN, rfl, hH⟩ a hA) | (refine LT ?_; clear hA hH; rintro _ w ⟨oN, rfl, hH⟩ a hA) | (refine AT ?_; clear hA; rintro _ w ⟨oN, cN, rfl, hH2⟩ a hA; clear hH; have hH := (hH2 _ (by (repeat constructor))).tail; clear hH2) | (refine S0T ?_; clear hH; rintro _ w hH) )) | ((first | refine CT ?_ | (refine DT ?_ ?_ <;> intro hc <;> try (exfalso; omega))) <;> repeat' refine CT ?_) | (first | (refine DSK ?_; clear hA a; intro a hA) | (first | (refine DLT ?_; clear hA hH; rintro _ w ⟨oN, rfl, hH⟩; refine ⟨STT, ?_⟩; intro a hA) | (refine DAT ?_; clear hA; rintro _ w ⟨oN, cN, rfl, hH2⟩; clear hH; have hH := (hH2 _ (by (repeat constructor))).tail; clear hH2; refine ⟨STT, ?_⟩; intro a hA))) )
  all_goals first | exact rt1 (.inl rfl) rfl hA rfl ⟨_, rfl, hH.kp⟩ | skip
  obtain ⟨bK, hbK⟩ : ∃ x, x = bN := ⟨_, rfl⟩
  rw [← hbK] at hA hH
  clear hbK bN
  refine wp_lpk (S := Nat) (fun i a w => ∃ oA cA, i ≤ cs.length ∧ HS w0 noM [cb bK 113 (encKk ⟨oF, cs.length, cF, g, oA, i, cA, 0, none, none, none, none⟩ 0), own 3 1 oA i cA (flat Fw.encI (cs.take i)), cb b1 88 (encP oF cs.length cF g)] w ∧ Sl 126 [(67, .int .i64 i), (66, .int .i64 cs.length), (65, .slice oF cs.length cF), (5, .pointer (some (bat bK 0))), (1, .pointer (some (bat b1 0)))] a) (fun i => cs.length - i)
    (fun a w => ∃ oA nA cA, HS w0 noM [cb bK 113 (encKk ⟨oF, cs.length, cF, g, oA, nA, cA, 0, none, none, none, none⟩ 0), cb b1 88 (encP oF cs.length cF g)] w ∧ Sl 126 [(5, .pointer (some (bat bK 0))), (1, .pointer (some (bat b1 0)))] a) 0 ⟨none, 0, Nat.zero_le _, (by rw [List.take_zero]; exact (hH.nil_flat Fw.encI 3 1).perm (by (repeat (first | exact List.Perm.refl _ | exact List.Perm.nil | refine perm_pick 0 rfl ?_ | refine perm_pick 1 rfl ?_ | refine perm_pick 2 rfl ?_ | refine perm_pick 3 rfl ?_ | refine perm_pick 4 rfl ?_ | refine perm_pick 5 rfl ?_ | refine perm_pick 6 rfl ?_ | refine perm_pick 7 rfl ?_ | refine perm_pick 8 rfl ?_ | refine perm_pick 9 rfl ?_ | refine perm_pick 10 rfl ?_ | refine perm_pick 11 rfl ?_)))), (hA.sub (by (repeat (first | exact trivial | refine ⟨rfl, ?_⟩))))⟩ ?_ ?_
  · clear hA hH
    rintro i a w ⟨oA, cA, hi, hH, hA⟩
    by_cases hlt : i < cs.length
    rotate_left
    · repeat' (first | (first | (refine GT ?_ ?_ <;> intro hg <;> clear hA a <;> intro a hA <;> (first | exact FA | replace hg := of_decide_eq_true hg | replace hg := of_decide_eq_false hg | skip)) | (refine QT ?_; clear hA a; intro a hA) | (first | (refine BT ?_; clear hA hH; rintro _ w ⟨bN, rfl, hH⟩ a hA) | (refine LT ?_; clear hA hH; rintro _ w ⟨oN, rfl, hH⟩ a hA) | (refine AT ?_; clear hA; rintro _ w ⟨oN, cN, rfl, hH2⟩ a hA; clear hH; have hH := (hH2 _ (by (repeat constructor))).tail; clear hH2) | (refine S0T ?_; clear hH; rintro _ w hH) )) | ((first | refine CT ?_ | (refine DT ?_ ?_ <;> intro hc <;> try (exfalso; omega))) <;> repeat' refine CT ?_) | (first | (refine DSK ?_; clear hA a; intro a hA) | (first | (refine DLT ?_; clear hA hH; rintro _ w ⟨oN, rfl, hH⟩; refine ⟨STT, ?_⟩; intro a hA) | (refine DAT ?_; clear hA; rintro _ w ⟨oN, cN, rfl, hH2⟩; clear hH; have hH := (hH2 _ (by (repeat constructor))).tail; clear hH2; refine ⟨STT, ?_⟩; intro a hA))) )
      exact ⟨oA, i, cA, hH.rm 1, (hA.sub (by (repeat (first | exact trivial | refine ⟨rfl, ?_⟩))))⟩
    obtain ⟨x, hx⟩ : ∃ x, cs[i]? = some x := ⟨_, List.getElem?_eq_getElem hlt⟩
    have hvx := flat_all (encF_len o) hx
    repeat' (first | (first | (refine GT ?_ ?_ <;> intro hg <;> clear hA a <;> intro a hA <;> (first | exact FA | replace hg := of_decide_eq_true hg | replace hg := of_decide_eq_false hg | skip)) | ((first | apply st_ex hA hH rfl rfl (by decide) | apply dr_ex hA rfl rfl rfl (by decide) | apply dr_exp hA rfl rfl rfl (by decide) | apply dr_ex3 hA hH rfl rfl rfl (by decide)); (first | (apply ex_load_st (vs := encF o x); rfl; rfl; exact cls_rd hF id hvx) | (apply ex_indexAddr_nat; rfl; rfl; omega; exact hspF)); clear hA a; intro a hA) | (refine QT ?_; clear hA a; intro a hA) | (first | (refine BT ?_; clear hA hH; rintro _ w ⟨bN, rfl, hH⟩ a hA) | (refine LT ?_; clear hA hH; rintro _ w ⟨oN, rfl, hH⟩ a hA) | (refine AT ?_; clear hA; rintro _ w ⟨oN, cN, rfl, hH2⟩ a hA; clear hH; have hH := (hH2 _ (by (repeat constructor))).tail; clear hH2) | (refine S0T ?_; clear hH; rintro _ w hH) | (apply st_op0 hA rfl rfl; apply op_store_agg (vs := encF o x); rfl; rfl; exact hH; (repeat constructor); (repeat rfl); clear hH; rintro _ w hH))) | ((first | refine CT ?_ | (refine DT ?_ ?_ <;> intro hc <;> try (exfalso; omega))) <;> repeat' refine CT ?_) | (first | (refine DSK ?_; clear hA a; intro a hA) | (first | (refine DLT ?_; clear hA hH; rintro _ w ⟨oN, rfl, hH⟩; refine ⟨STT, ?_⟩; intro a hA) | (refine DAT ?_; clear hA; rintro _ w ⟨oN, cN, rfl, hH2⟩; clear hH; have hH := (hH2 _ (by (repeat constructor))).tail; clear hH2; refine ⟨STT, ?_⟩; intro a hA))) )
    have hST : HS w0 noM [cb bN 90 (encF o x), cb bK 113 (encKk ⟨oF, cs.length, cF, g, oA, i, cA, 0, none, none, none, none⟩ 0)] w := HS.left (H1 := [_, _]) hH
    (refine wp_draw2_HS (H := [_, _]) [(0, 1), (1, 1), (2, 1), (3, 1), (4, 1), (5, 1), (6, 1), (7, 0), (8, 0), (9, 1), (10, 1)] [11] mixed (by decide +kernel) (hST) ?_; replace hH := hH.drew)
    clear hST
    repeat' (first | (first | (refine GT ?_ ?_ <;> intro hg <;> clear hA a <;> intro a hA <;> (first | exact FA | replace hg := of_decide_eq_true hg | replace hg := of_decide_eq_false hg | skip)) | (refine QT ?_; clear hA a; intro a hA) | (first | (refine BT ?_; clear hA hH; rintro _ w ⟨bN, rfl, hH⟩ a hA) | (refine LT ?_; clear hA hH; rintro _ w ⟨oN, rfl, hH⟩ a hA) | (refine AT ?_; clear hA; rintro _ w ⟨oN, cN, rfl, hH2⟩ a hA; clear hH; have hH := (hH2 _ (by (repeat constructor))).tail; clear hH2) | (refine S0T ?_; clear hH; rintro _ w hH) )) | ((first | refine CT ?_ | (refine DT ?_ ?_ <;> intro hc <;> try (exfalso; omega))) <;> repeat' refine CT ?_) | (first | (refine DSK ?_; clear hA a; intro a hA) | (first | (refine DLT ?_; clear hA hH; rintro _ w ⟨oN, rfl, hH⟩; refine ⟨STT, ?_⟩; intro a hA) | (refine DAT ?_; clear hA; rintro _ w ⟨oN, cN, rfl, hH2⟩; clear hH; have hH := (hH2 _ (by (repeat constructor))).tail; clear hH2; refine ⟨STT, ?_⟩; intro a hA))) )
    (apply dr_op hA rfl rfl rfl (by decide); apply op_sliceLit; rfl; rfl; exact CATST; rfl; rfl; rfl; exact hH; clear hA hH; rintro _ w ⟨oN, rfl, hH⟩; refine ⟨HS.left (H1 := [_, _]) hH.tail, ?_⟩; intro a hA)
    dsimp only at hA
    (apply dr_op hA rfl rfl rfl (by decide); apply op_append; rfl; rfl; exact hH; exact MEMT; exact (hH.own_rd (List.Mem.head _)); exact rfl; rfl; decide; exact rfl; (unfold maxLen; omega); omega; clear hA; rintro _ w ⟨oN, cN, rfl, hH2⟩; clear hH; have hH := hH2 _ (by (repeat constructor)); clear hH2; refine ⟨HS.left (H1 := [_, _]) hH.tail, ?_⟩; intro a hA)
    rw [flatI_s, ← take_snoc hx] at hH
    repeat' (first | (first | (refine GT ?_ ?_ <;> intro hg <;> clear hA a <;> intro a hA <;> (first | exact FA | replace hg := of_decide_eq_true hg | replace hg := of_decide_eq_false hg | skip)) | (refine QT ?_; clear hA a; intro a hA) | (first | (refine BT ?_; clear hA hH; rintro _ w ⟨bN, rfl, hH⟩ a hA) | (refine LT ?_; clear hA hH; rintro _ w ⟨oN, rfl, hH⟩ a hA) | (refine AT ?_; clear hA; rintro _ w ⟨oN, cN, rfl, hH2⟩ a hA; clear hH; have hH := (hH2 _ (by (repeat constructor))).tail; clear hH2) | (refine S0T ?_; clear hH; rintro _ w hH) )) | ((first | refine CT ?_ | (refine DT ?_ ?_ <;> intro hc <;> try (exfalso; omega))) <;> repeat' refine CT ?_) | (first | (refine DSK ?_; clear hA a; intro a hA) | (first | (refine DLT ?_; clear hA hH; rintro _ w ⟨oN, rfl, hH⟩; refine ⟨STT, ?_⟩; intro a hA) | (refine DAT ?_; clear hA; rintro _ w ⟨oN, cN, rfl, hH2⟩; clear hH; have hH := (hH2 _ (by (repeat constructor))).tail; clear hH2; refine ⟨STT, ?_⟩; intro a hA))) )
    (apply dr_op03 hA rfl rfl rfl; apply op_store_fld (cs' := encKk ⟨oF, cs.length, cF, g, oN, i + 1, cN, 0, none, none, none, none⟩ 0); rfl; rfl; rfl; exact hH; (repeat constructor); clear hH; rintro _ w hH)
    repeat' (first | (first | (refine GT ?_ ?_ <;> intro hg <;> clear hA a <;> intro a hA <;> (first | exact FA | replace hg := of_decide_eq_true hg | replace hg := of_decide_eq_false hg | skip)) | (refine QT ?_; clear hA a; intro a hA) | (first | (refine BT ?_; clear hA hH; rintro _ w ⟨bN, rfl, hH⟩ a hA) | (refine LT ?_; clear hA hH; rintro _ w ⟨oN, rfl, hH⟩ a hA) | (refine AT ?_; clear hA; rintro _ w ⟨oN, cN, rfl, hH2⟩ a hA; clear hH; have hH := (hH2 _ (by (repeat constructor))).tail; clear hH2) | (refine S0T ?_; clear hH; rintro _ w hH) )) | ((first | refine CT ?_ | (refine DT ?_ ?_ <;> intro hc <;> try (exfalso; omega))) <;> repeat' refine CT ?_) | (first | (refine DSK ?_; clear hA a; intro a hA) | (first | (refine DLT ?_; clear hA hH; rintro _ w ⟨oN, rfl, hH⟩; refine ⟨STT, ?_⟩; intro a hA) | (refine DAT ?_; clear hA; rintro _ w ⟨oN, cN, rfl, hH2⟩; clear hH; have hH := (hH2 _ (by (repeat constructor))).tail; clear hH2; refine ⟨STT, ?_⟩; intro a hA))) )
    exact ⟨i + 1, ⟨oN, cN, hlt, (((hH.rm 0).rm 0).perm (by (repeat (first | exact List.Perm.refl _ | exact List.Perm.nil | refine perm_pick 0 rfl ?_ | refine perm_pick 1 rfl ?_ | refine perm_pick 2 rfl ?_ | refine perm_pick 3 rfl ?_ | refine perm_pick 4 rfl ?_ | refine perm_pick 5 rfl ?_ | refine perm_pick 6 rfl ?_ | refine perm_pick 7 rfl ?_ | refine perm_pick 8 rfl ?_ | refine perm_pick 9 rfl ?_ | refine perm_pick 10 rfl ?_ | refine perm_pick 11 rfl ?_)))), (hA.sub (by (repeat (first | exact trivial | refine ⟨rfl, ?_⟩))))⟩, by omega⟩
  clear hA hH
  rintro a w ⟨oA, nA, cA, hH, hA⟩
  repeat' (first | (first | (refine GT ?_ ?_ <;> intro hg <;> clear hA a <;> intro a hA <;> (first | exact FA | replace hg := of_decide_eq_true hg | replace hg := of_decide_eq_false hg | skip)) | (refine QT ?_; clear hA a; intro a hA) | (first | (refine BT ?_; clear hA hH; rintro _ w ⟨bN, rfl, hH⟩ a hA) | (refine LT ?_; clear hA hH; rintro _ w ⟨oN, rfl, hH⟩ a hA) | (refine AT ?_; clear hA; rintro _ w ⟨oN, cN, rfl, hH2⟩ a hA; clear hH; have hH := (hH2 _ (by (repeat constructor))).tail; clear hH2) | (refine S0T ?_; clear hH; rintro _ w hH) )) | ((first | refine CT ?_ | (refine DT ?_ ?_ <;> intro hc <;> try (exfalso; omega))) <;> repeat' refine CT ?_) | (first | (refine DSK ?_; clear hA a; intro a hA) | (first | (refine DLT ?_; clear hA hH; rintro _ w ⟨oN, rfl, hH⟩; refine ⟨STT, ?_⟩; intro a hA) | (refine DAT ?_; clear hA; rintro _ w ⟨oN, cN, rfl, hH2⟩; clear hH; have hH := (hH2 _ (by (repeat constructor))).tail; clear hH2; refine ⟨STT, ?_⟩; intro a hA))) )
  refine wp_lpk (S := Nat) (fun i a w => ∃ c p, (i ≤ cs.length ∧ 0 ≤ p ∧ p ≤ 2 * (i : Int)) ∧ HS w0 noM [cb bK 113 (encKk c p), cb b1 88 (encP oF cs.length cF g)] w ∧ Sl 126 [(86, .int .i64 i), (85, .int .i64 cs.length), (84, .slice oF cs.length cF), (5, .pointer (some (bat bK 0)))] a) (fun i => cs.length - i)
    (fun a w => HS w0 noM [] w ∧ Sl 126 [] a) 0 ⟨_, 0, ⟨Nat.zero_le _, Int.le_refl _, by omega⟩, hH, (hA.sub (by (repeat (first | exact trivial | refine ⟨rfl, ?_⟩))))⟩ ?_ ?_
  · clear hA hH
    rintro i a w ⟨c, p, ⟨hi, hp0, hp1⟩, hH, hA⟩
    by_cases hlt : i < cs.length
    rotate_left
    · repeat' (first | (first | (refine GT ?_ ?_ <;> intro hg <;> clear hA a <;> intro a hA <;> (first | exact FA | replace hg := of_decide_eq_true hg | replace hg := of_decide_eq_false hg | skip)) | (refine QT ?_; clear hA a; intro a hA) | (first | (refine BT ?_; clear hA hH; rintro _ w ⟨bN, rfl, hH⟩ a hA) | (refine LT ?_; clear hA hH; rintro _ w ⟨oN, rfl, hH⟩ a hA) | (refine AT ?_; clear hA; rintro _ w ⟨oN, cN, rfl, hH2⟩ a hA; clear hH; have hH := (hH2 _ (by (repeat constructor))).tail; clear hH2) | (refine S0T ?_; clear hH; rintro _ w hH) )) | ((first | refine CT ?_ | (refine DT ?_ ?_ <;> intro hc <;> try (exfalso; omega))) <;> repeat' refine CT ?_) | (first | (refine DSK ?_; clear hA a; intro a hA) | (first | (refine DLT ?_; clear hA hH; rintro _ w ⟨oN, rfl, hH⟩; refine ⟨STT, ?_⟩; intro a hA) | (refine DAT ?_; clear hA; rintro _ w ⟨oN, cN, rfl, hH2⟩; clear hH; have hH := (hH2 _ (by (repeat constructor))).tail; clear hH2; refine ⟨STT, ?_⟩; intro a hA))) )
      exact ⟨hH.tail.tail, (hA.sub (by (repeat (first | exact trivial | refine ⟨rfl, ?_⟩))))⟩
    obtain ⟨x, hx⟩ : ∃ x, cs[i]? = some x := ⟨_, List.getElem?_eq_getElem hlt⟩
    have hvx := flat_all (encF_len o) hx
    repeat' (first | (first | (refine GT ?_ ?_ <;> intro hg <;> clear hA a <;> intro a hA <;> (first | exact FA | replace hg := of_decide_eq_true hg | replace hg := of_decide_eq_false hg | skip)) | ((first | apply st_ex hA hH rfl rfl (by decide) | apply dr_ex hA rfl rfl rfl (by decide) | apply dr_exp hA rfl rfl rfl (by decide) | apply dr_ex3 hA hH rfl rfl rfl (by decide)); (first | (apply ex_load_st (vs := encF o x); rfl; rfl; exact cls_rd hF id hvx) | (apply ex_indexAddr_nat; rfl; rfl; omega; exact hspF)); clear hA a; intro a hA) | (refine QT ?_; clear hA a; intro a hA) | (first | (refine BT ?_; clear hA hH; rintro _ w ⟨bN, rfl, hH⟩ a hA) | (refine LT ?_; clear hA hH; rintro _ w ⟨oN, rfl, hH⟩ a hA) | (refine AT ?_; clear hA; rintro _ w ⟨oN, cN, rfl, hH2⟩ a hA; clear hH; have hH := (hH2 _ (by (repeat constructor))).tail; clear hH2) | (refine S0T ?_; clear hH; rintro _ w hH) | (apply st_op0 hA rfl rfl; apply op_store_agg (vs := encF o x); rfl; rfl; exact hH; (repeat constructor); (repeat rfl); clear hH; rintro _ w hH) | (apply st_op0 hA rfl rfl; apply op_store_fld (cs' := encKk { c with caps := x } p); rfl; rfl; rfl; exact hH; (repeat constructor); clear hH; rintro _ w hH))) | ((first | refine CT ?_ | (refine DT ?_ ?_ <;> intro hc <;> try (exfalso; omega))) <;> repeat' refine CT ?_) | (first | (refine DSK ?_; clear hA a; intro a hA) | (first | (refine DLT ?_; clear hA hH; rintro _ w ⟨oN, rfl, hH⟩; refine ⟨STT, ?_⟩; intro a hA) | (refine DAT ?_; clear hA; rintro _ w ⟨oN, cN, rfl, hH2⟩; clear hH; have hH := (hH2 _ (by (repeat constructor))).tail; clear hH2; refine ⟨STT, ?_⟩; intro a hA))) )
    all_goals first | exact rt1 (.inl rfl) rfl hA rfl ⟨_, rfl, hH.kp⟩ | skip
    (refine st_op hA rfl rfl (by decide) (op_makeMapK hH) ?_; clear hA hH; rintro _ w ⟨m1, rfl, hH⟩ a hA)
    (refine st_op hA rfl rfl (by decide) (op_makeMapK hH) ?_; clear hA hH; rintro _ w ⟨m2, rfl, hH⟩ a hA)
    repeat' (first | (first | (refine GT ?_ ?_ <;> intro hg <;> clear hA a <;> intro a hA <;> (first | exact FA | replace hg := of_decide_eq_true hg | replace hg := of_decide_eq_false hg | skip)) | (refine QT ?_; clear hA a; intro a hA) | (first | (refine BT ?_; clear hA hH; rintro _ w ⟨bN, rfl, hH⟩ a hA) | (refine LT ?_; clear hA hH; rintro _ w ⟨oN, rfl, hH⟩ a hA) | (refine AT ?_; clear hA; rintro _ w ⟨oN, cN, rfl, hH2⟩ a hA; clear hH; have hH := (hH2 _ (by (repeat constructor))).tail; clear hH2) | (refine S0T ?_; clear hH; rintro _ w hH) | (apply st_op0 hA rfl rfl; apply op_insertK; rfl; rfl; rfl; exact hH; (repeat constructor); clear hH; rintro _ w hH))) | ((first | refine CT ?_ | (refine DT ?_ ?_ <;> intro hc <;> try (exfalso; omega))) <;> repeat' refine CT ?_) | (first | (refine DSK ?_; clear hA a; intro a hA) | (first | (refine DLT ?_; clear hA hH; rintro _ w ⟨oN, rfl, hH⟩; refine ⟨STT, ?_⟩; intro a hA) | (refine DAT ?_; clear hA; rintro _ w ⟨oN, cN, rfl, hH2⟩; clear hH; have hH := (hH2 _ (by (repeat constructor))).tail; clear hH2; refine ⟨STT, ?_⟩; intro a hA))) )
    (refine st_op hA rfl rfl (by decide) (op_makeMapI hH) ?_; clear hA hH; rintro _ w ⟨m3, rfl, hH⟩ a hA)
    (refine st_op hA rfl rfl (by decide) (op_makeMapK hH) ?_; clear hA hH; rintro _ w ⟨m4, rfl, hH⟩ a hA)
    obtain ⟨ca, hca⟩ : ∃ y : Kk, y = { c with caps := x } := ⟨_, rfl⟩
    have hH5 := hH.rm 0 |>.rm 0 |>.rm 0 |>.rm 0
    clear hH
    dsimp only [List.eraseIdx_cons_succ, List.eraseIdx_cons_zero] at hH5
    have hH := hH5
    clear hH5
    rw [← hca] at hH
    obtain ⟨oP, nP, cP, g', oA', nA', cA', caps', e', n', j', o'⟩ := ca
    repeat' (first | (first | (refine GT ?_ ?_ <;> intro hg <;> clear hA a <;> intro a hA <;> (first | exact FA | replace hg := of_decide_eq_true hg | replace hg := of_decide_eq_false hg | skip)) | (refine QT ?_; clear hA a; intro a hA) | (first | (refine BT ?_; clear hA hH; rintro _ w ⟨bN, rfl, hH⟩ a hA) | (refine LT ?_; clear hA hH; rintro _ w ⟨oN, rfl, hH⟩ a hA) | (refine AT ?_; clear hA; rintro _ w ⟨oN, cN, rfl, hH2⟩ a hA; clear hH; have hH := (hH2 _ (by (repeat constructor))).tail; clear hH2) | (refine S0T ?_; clear hH; rintro _ w hH) | (apply st_op0 hA rfl rfl; apply op_store_fld (cs' := encKk ⟨oP, nP, cP, g', oA', nA', cA', caps', some m1, n', j', o'⟩ p); rfl; rfl; rfl; exact hH; (repeat constructor); clear hH; rintro _ w hH) | (apply st_op0 hA rfl rfl; apply op_store_fld (cs' := encKk ⟨oP, nP, cP, g', oA', nA', cA', caps', some m1, some m2, j', o'⟩ p); rfl; rfl; rfl; exact hH; (repeat constructor); clear hH; rintro _ w hH) | (apply st_op0 hA rfl rfl; apply op_store_fld (cs' := encKk ⟨oP, nP, cP, g', oA', nA', cA', caps', some m1, some m2, some m3, o'⟩ p); rfl; rfl; rfl; exact hH; (repeat constructor); clear hH; rintro _ w hH) | (apply st_op0 hA rfl rfl; apply op_store_fld (cs' := encKk ⟨oP, nP, cP, g', oA', nA', cA', caps', some m1, some m2, some m3, some m4⟩ p); rfl; rfl; rfl; exact hH; (repeat constructor); clear hH; rintro _ w hH))) | ((first | refine CT ?_ | (refine DT ?_ ?_ <;> intro hc <;> try (exfalso; omega))) <;> repeat' refine CT ?_) | (first | (refine DSK ?_; clear hA a; intro a hA) | (first | (refine DLT ?_; clear hA hH; rintro _ w ⟨oN, rfl, hH⟩; refine ⟨STT, ?_⟩; intro a hA) | (refine DAT ?_; clear hA; rintro _ w ⟨oN, cN, rfl, hH2⟩; clear hH; have hH := (hH2 _ (by (repeat constructor))).tail; clear hH2; refine ⟨STT, ?_⟩; intro a hA))) )
    repeat' (first | (first | (refine GT ?_ ?_ <;> intro hg <;> clear hA a <;> intro a hA <;> (first | exact FA | replace hg := of_decide_eq_true hg | replace hg := of_decide_eq_false hg | skip)) | ((first | apply st_ex hA hH rfl rfl (by decide) | apply dr_ex hA rfl rfl rfl (by decide) | apply dr_exp hA rfl rfl rfl (by decide) | apply dr_ex3 hA hH rfl rfl rfl (by decide)); (first | (apply ex_load_st (vs := encB o); rfl; rfl; exact cls_cb MEMT (sub_bd o x))); clear hA a; intro a hA) | (refine QT ?_; clear hA a; intro a hA) | (first | (refine BT ?_; clear hA hH; rintro _ w ⟨bN, rfl, hH⟩ a hA) | (refine LT ?_; clear hA hH; rintro _ w ⟨oN, rfl, hH⟩ a hA) | (refine AT ?_; clear hA; rintro _ w ⟨oN, cN, rfl, hH2⟩ a hA; clear hH; have hH := (hH2 _ (by (repeat constructor))).tail; clear hH2) | (refine S0T ?_; clear hH; rintro _ w hH) )) | ((first | refine CT ?_ | (refine DT ?_ ?_ <;> intro hc <;> try (exfalso; omega))) <;> repeat' refine CT ?_) | (first | (refine DSK ?_; clear hA a; intro a hA) | (first | (refine DLT ?_; clear hA hH; rintro _ w ⟨oN, rfl, hH⟩; refine ⟨STT, ?_⟩; intro a hA) | (refine DAT ?_; clear hA; rintro _ w ⟨oN, cN, rfl, hH2⟩; clear hH; have hH := (hH2 _ (by (repeat constructor))).tail; clear hH2; refine ⟨STT, ?_⟩; intro a hA))) )
    (refine st_op hA rfl rfl (by decide) (op_call rfl rfl rfl (body_spec w0 _ _ _ bK p o (hH.up 1 rfl) hr hp0 (by omega))) ?_; clear hA hH)
    rintro _ w ⟨b, p', rfl, hpa, hpb, hH⟩ a hA
    repeat' (first | (first | (refine GT ?_ ?_ <;> intro hg <;> clear hA a <;> intro a hA <;> (first | exact FA | replace hg := of_decide_eq_true hg | replace hg := of_decide_eq_false hg | skip)) | (refine QT ?_; clear hA a; intro a hA) | (first | (refine BT ?_; clear hA hH; rintro _ w ⟨bN, rfl, hH⟩ a hA) | (refine LT ?_; clear hA hH; rintro _ w ⟨oN, rfl, hH⟩ a hA) | (refine AT ?_; clear hA; rintro _ w ⟨oN, cN, rfl, hH2⟩ a hA; clear hH; have hH := (hH2 _ (by (repeat constructor))).tail; clear hH2) | (refine S0T ?_; clear hH; rintro _ w hH) )) | ((first | refine CT ?_ | (refine DT ?_ ?_ <;> intro hc <;> try (exfalso; omega))) <;> repeat' refine CT ?_) | (first | (refine DSK ?_; clear hA a; intro a hA) | (first | (refine DLT ?_; clear hA hH; rintro _ w ⟨oN, rfl, hH⟩; refine ⟨STT, ?_⟩; intro a hA) | (refine DAT ?_; clear hA; rintro _ w ⟨oN, cN, rfl, hH2⟩; clear hH; have hH := (hH2 _ (by (repeat constructor))).tail; clear hH2; refine ⟨STT, ?_⟩; intro a hA))) )
    all_goals first | exact ⟨i + 1, ⟨_, p', ⟨hlt, by omega, by omega⟩, hH.rm 1, (hA.sub (by (repeat (first | exact trivial | refine ⟨rfl, ?_⟩))))⟩, by omega⟩ | exact rt1 (.inl rfl) rfl hA rfl ⟨_, rfl, hH.kp⟩ | skip
  clear hA hH
  rintro a w ⟨hH, hA⟩
  repeat' (first | (first | (refine GT ?_ ?_ <;> intro hg <;> clear hA a <;> intro a hA <;> (first | exact FA | replace hg := of_decide_eq_true hg | replace hg := of_decide_eq_false hg | skip)) | (refine QT ?_; clear hA a; intro a hA) | (first | (refine BT ?_; clear hA hH; rintro _ w ⟨bN, rfl, hH⟩ a hA) | (refine LT ?_; clear hA hH; rintro _ w ⟨oN, rfl, hH⟩ a hA) | (refine AT ?_; clear hA; rintro _ w ⟨oN, cN, rfl, hH2⟩ a hA; clear hH; have hH := (hH2 _ (by (repeat constructor))).tail; clear hH2) | (refine S0T ?_; clear hH; rintro _ w hH) )) | ((first | refine CT ?_ | (refine DT ?_ ?_ <;> intro hc <;> try (exfalso; omega))) <;> repeat' refine CT ?_) | (first | (refine DSK ?_; clear hA a; intro a hA) | (first | (refine DLT ?_; clear hA hH; rintro _ w ⟨oN, rfl, hH⟩; refine ⟨STT, ?_⟩; intro a hA) | (refine DAT ?_; clear hA; rintro _ w ⟨oN, cN, rfl, hH2⟩; clear hH; have hH := (hH2 _ (by (repeat constructor))).tail; clear hH2; refine ⟨STT, ?_⟩; intro a hA))) )
  exact rt1 (.inl rfl) rfl hA rfl ⟨_, rfl, hH.kp⟩
end Go.Proofs.Ytjfanjcoppeeaaa
namespace Go.Proofs.Ytjfanjcoppeeaaa
open Go Go.Fw
set_option linter.unusedVariables false
def evs (f : Gr) (n : Nat) : List Int := (f.bs.l.take n).flatMap bvs
theorem evs_next {f : Gr} {n : Nat} {bl : Blc} (h : f.bs.l[n]? = some bl) : evs f (n + 1) = evs f n ++ bvs bl := by
  unfold evs
  rw [take_snoc h, List.flatMap_append]
  simp
/-- a graph that may be; B: what is there where a block begins -/
structure GOkB (g : Grs) (f : Gr) (B : Nat → List Int) : Prop where
  ne : 0 < f.bs.l.length
  b0 : B 0 = []
  blk : ∀ (n : Nat) (bl : Blc), f.bs.l[n]? = some bl → BlkOk g f n bl (B n)
  ev : EvOk (f.bs.l.flatMap bvs)
  flow : ∀ (n : Nat) (bl : Blc), f.bs.l[n]? = some bl → ∀ t ∈ bl.e.to.l, ∀ x ∈ B t.b.toNat, nowS (B n) bl bl.is.l.length x
  sub : ∀ n, n < f.bs.l.length → ∀ x ∈ B n, x ∈ evs f n
  pre : ∀ n : Nat, 0 < n → n < f.bs.l.length → ∃ (m : Nat) (bl : Blc), m < n ∧ f.bs.l[m]? = some bl ∧ ∃ t ∈ bl.e.to.l, t.b = (n : Int)
  size : 2 * f.bs.l.length + (f.bs.l.flatMap bvs).length ≤ 65536
def GOk (g : Grs) (f : Gr) : Prop := ∃ B, GOkB g f B
/-- n blocks are behind -/
structure LInv (g : Grs) (f : Gr) (n : Nat) (th : List (Option (Nat × List Int))) (p : Int) (B : Nat → List Int) : Prop where
  len : th.length = f.bs.l.length
  ev : EvOk (evs f n)
  size : 2 * n + ((evs f n).length : Int) ≤ p
  top : p ≤ 65536
  first : n = 0 → setA th 0 = [] ∧ isA th 0
  b0 : 0 < n → B 0 = []
  blk : ∀ (m : Nat) (bl : Blc), f.bs.l[m]? = some bl → m < n → BlkOk g f m bl (B m) ∧ (∀ x ∈ B m, x ∈ evs f m)
  flow : ∀ (m : Nat) (bl : Blc), f.bs.l[m]? = some bl → m < n → ∀ t ∈ bl.e.to.l, ∀ k : Nat, t.b = (k : Int) → (k < n → ∀ x ∈ B k, nowS (B m) bl bl.is.l.length x) ∧ (n ≤ k → isA th k ∧ ∀ x ∈ setA th k, nowS (B m) bl bl.is.l.length x)
  pre : ∀ k : Nat, 0 < k → k < n → ∃ (m : Nat) (bl : Blc), m < k ∧ f.bs.l[m]? = some bl ∧ ∃ t ∈ bl.e.to.l, t.b = (k : Int)
  from_ : ∀ k : Nat, n ≤ k → isA th k → k = 0 ∨ ∃ (m : Nat) (bl : Blc), m < n ∧ f.bs.l[m]? = some bl ∧ ∃ t ∈ bl.e.to.l, t.b = (k : Int)
  sub : ∀ k : Nat, n ≤ k → ∀ x ∈ setA th k, x ∈ evs f n
theorem isA_set_ne {th : List (Option (Nat × List Int))} {n k : Nat} (h : k ≠ n) : (isA (th.set n none) k ↔ isA th k) ∧ setA (th.set n none) k = setA th k := by
  unfold isA setA
  rw [List.getElem?_set_ne (fun e => h e.symm)]
  exact ⟨Iff.rfl, rfl⟩
theorem linv_next {g : Grs} {f : Gr} {n : Nat} {th th' : List (Option (Nat × List Int))} {p p' : Int} {B B' : Nat → List Int} {bl : Blc} (hB : ∀ m : Nat, m ≠ n → B' m = B m) (hBn : B' n = setA th n) (h : LInv g f n th p B) (hbl : f.bs.l[n]? = some bl) (hi : isA th n) (hb : BlkOk g f n bl (setA th n)) (hev : EvOk (evs f n ++ bvs bl))
    (hp : p + 2 + (bvs bl).length ≤ p') (hp2 : p' ≤ 65536) (hth : ThR (th.set n none) (nowS (setA th n) bl bl.is.l.length) bl.e.to.l th') : LInv g f (n + 1) th' p' B' := by
  have hnx := evs_next hbl
  refine ⟨by rw [hth.len, List.length_set]; exact h.len, by rw [hnx]; exact hev, ?_, hp2, fun h0 => by omega, fun _ => ?_, fun m b hm hlt => ?_, fun m b hm hlt t ht k hk => ?_, fun k hk hlt => ?_, fun k hk hik => ?_, fun k hk x hx => ?_⟩
  · rw [hnx, List.length_append]
    have := h.size
    omega
  · by_cases h0 : n = 0
    · subst h0
      rw [hBn]
      exact (h.first rfl).1
    · rw [hB 0 (by omega)]
      exact h.b0 (by omega)
  · by_cases hmn : m = n
    · subst hmn
      rw [hbl] at hm
      cases hm
      rw [hBn]
      exact ⟨hb, fun x hx => h.sub m (Nat.le_refl _) x hx⟩
    · rw [hB m hmn]
      exact h.blk m b hm (by omega)
  · by_cases hmn : m = n
    · subst hmn
      rw [hbl] at hm
      cases hm
      rw [hBn]
      have he := hb.edges t ht
      exact ⟨fun hk2 => by omega, fun _ => hth.come t ht k hk⟩
    · rw [hB m hmn]
      have h1 := h.flow m b hm (by omega) t ht k hk
      refine ⟨fun hk2 => ?_, fun hk2 => ?_⟩
      · by_cases hkn : k = n
        · subst hkn
          rw [hBn]
          exact (h1.2 (Nat.le_refl _)).2
        · rw [hB k hkn]
          exact h1.1 (by omega)
      · have h2 := h1.2 (by omega)
        have h3 := isA_set_ne (th := th) (n := n) (k := k) (by omega)
        refine ⟨hth.keep k (h3.1.2 h2.1), fun x hx => ?_⟩
        have h4 := (hth.sub k x hx).1 (h3.1.2 h2.1)
        rw [h3.2] at h4
        exact h2.2 x h4
  · by_cases hkn : k = n
    · subst hkn
      rcases h.from_ k (Nat.le_refl _) hi with h1 | ⟨m, b, h1, h2, h3⟩
      · omega
      · exact ⟨m, b, h1, h2, h3⟩
    · exact h.pre k hk (by omega)
  · rcases hth.from_ k hik with h1 | ⟨t, ht, h1⟩
    · have h3 := isA_set_ne (th := th) (n := n) (k := k) (by omega)
      rcases h.from_ k (by omega) (h3.1.1 h1) with h4 | ⟨m, b, h4, h5, h6⟩
      · exact .inl h4
      · exact .inr ⟨m, b, by omega, h5, h6⟩
    · exact .inr ⟨n, bl, by omega, hbl, t, ht, h1⟩
  · have h3 := isA_set_ne (th := th) (n := n) (k := k) (by omega)
    have h4 := hth.sub k x hx
    rw [hnx]
    by_cases hik : isA th k
    · have h5 := h4.1 (h3.1.2 hik)
      rw [h3.2] at h5
      exact List.mem_append_left _ (h.sub k (by omega) x h5)
    · have h5 := h4.2 (fun hc => hik (h3.1.1 hc))
      rcases h5 with h6 | h6
      · exact List.mem_append_left _ (h.sub n (Nat.le_refl _) x h6)
      · refine List.mem_append_right _ ?_
        unfold bvs
        rw [List.take_length] at h6
        exact List.mem_append.2 h6
theorem linv_end {g : Grs} {f : Gr} {th : List (Option (Nat × List Int))} {p : Int} {B : Nat → List Int} (h : LInv g f f.bs.l.length th p B) (hne : 0 < f.bs.l.length) : GOk g f := by
  have hev : evs f f.bs.l.length = f.bs.l.flatMap bvs := by unfold evs; rw [List.take_length]
  refine ⟨B, hne, h.b0 hne, fun n bl hb => (h.blk n bl hb (List.getElem?_eq_some_iff.1 hb).1).1, hev ▸ h.ev, fun n bl hb t ht x hx => ?_, fun n hn x hx => ?_, fun n h0 hn => h.pre n h0 hn, ?_⟩
  · have hnl := (List.getElem?_eq_some_iff.1 hb).1
    have he := (h.blk n bl hb hnl).1.edges t ht
    exact (h.flow n bl hb hnl t ht t.b.toNat (by omega)).1 (by omega) x hx
  · exact (h.blk n _ (List.getElem?_eq_getElem hn) hn).2 x hx
  · have h1 := h.size
    have h2 := h.top
    rw [hev] at h1
    omega
theorem linv_0 (g : Grs) (f : Gr) (b : Nat) (p : Int) (hp0 : 0 ≤ p) (hp1 : p ≤ 65536) (hne : 0 < f.bs.l.length) : LInv g f 0 ((List.replicate f.bs.l.length (none : Option (Nat × List Int))).set 0 (some (b, []))) p (fun _ => []) := by
  have hl : 0 < (List.replicate f.bs.l.length (none : Option (Nat × List Int))).length := by rw [List.length_replicate]; exact hne
  have hg := setA_set hl (some (b, []))
  have hr : ∀ k : Nat, k ≠ 0 → (((List.replicate f.bs.l.length (none : Option (Nat × List Int))).set 0 (some (b, [])))[k]?).getD none = none := fun k hk => by
    rw [hg, if_neg hk, List.getElem?_replicate]
    split <;> rfl
  refine ⟨by rw [List.length_set, List.length_replicate], ⟨List.nodup_nil, fun x hx => absurd hx List.not_mem_nil⟩, ?_, hp1, fun _ => ?_, fun h => by omega, fun m bl hm h => by omega, fun m bl hm h => by omega, fun k hk h => by omega, fun k hk hi => ?_, fun k hk x hx => ?_⟩
  · show (2 : Int) * 0 + 0 ≤ p
    omega
  · unfold setA isA
    rw [hg, if_pos rfl]
    exact ⟨rfl, rfl⟩
  · by_cases h0 : k = 0
    · exact .inl h0
    · unfold isA at hi
      rw [hr k h0] at hi
      cases hi
  · by_cases h0 : k = 0
    · subst h0
      unfold setA at hx
      rw [hg, if_pos rfl] at hx
      exact absurd hx List.not_mem_nil
    · unfold setA at hx
      rw [hr k h0] at hx
      exact absurd hx List.not_mem_nil
end Go.Proofs.Ytjfanjcoppeeaaa
namespace Go.Fw
open Go Go.RowKit
set_option linter.unusedVariables false
inductive Pl3 where
  | nil
  | q (i : Nat) (t : Pl3)
  | one (i : Nat) (t : Pl3)
  | two (i j : Nat) (t u : Pl3)
  | three (i j k : Nat) (t u v : Pl3)
def Pl3.len : Pl3 → Nat
  | .nil => 0
  | .q _ t => t.len + 1
  | .one _ t => t.len + 1
  | .two _ _ t _ => t.len + 1
  | .three _ _ _ t _ _ => t.len + 1
def qs3 : List Nat → Pl3 → Pl3
  | [], t => t
  | i :: l, t => .q i (qs3 l t)
def okT3 (ops : Array Oper) : Pl3 → Array Bool → Bool
  | .nil, listed => decide (Region.ready .any ops listed = [])
  | .q i t, listed => (Region.ready .any ops listed).contains i && Region.free .any ops listed i && okT3 ops t (listed.setIfInBounds i true)
  | .one i t, listed => decide (Region.ready .any ops listed = [i]) && okT3 ops t (listed.setIfInBounds i true)
  | .two i j t u, listed => Nat.beq t.len u.len && decide (Region.ready .any ops listed = [i, j]) && okT3 ops t (listed.setIfInBounds i true) && okT3 ops u (listed.setIfInBounds j true)
  | .three i j k t u v, listed => Nat.beq t.len u.len && Nat.beq t.len v.len && decide (Region.ready .any ops listed = [i, j, k]) && okT3 ops t (listed.setIfInBounds i true) && okT3 ops u (listed.setIfInBounds j true) && okT3 ops v (listed.setIfInBounds k true)
def wkT3 (P : Program) (ops : Array Oper) (S : World → Prop) (Q : Exit → Act → World → Prop) (K : Act → World → Prop) : Pl3 → Act → World → Prop
  | .nil, a, w => K a w
  | .q i t, a, w => ∃ o v, ops[i]? = some o ∧ YieldsIf P ops S o v a ∧ wkT3 P ops S Q K t (a.put o.dst v) w
  | .one i t, a, w => wpOp P ops (NoPanic Q) i (fun a' w' => S w' ∧ wkT3 P ops S Q K t a' w') a w
  | .two i j t u, a, w => wpOp P ops (NoPanic Q) i (fun a' w' => S w' ∧ wkT3 P ops S Q K t a' w') a w ∧ wpOp P ops (NoPanic Q) j (fun a' w' => S w' ∧ wkT3 P ops S Q K u a' w') a w
  | .three i j k t u v, a, w => wpOp P ops (NoPanic Q) i (fun a' w' => S w' ∧ wkT3 P ops S Q K t a' w') a w ∧ wpOp P ops (NoPanic Q) j (fun a' w' => S w' ∧ wkT3 P ops S Q K u a' w') a w ∧ wpOp P ops (NoPanic Q) k (fun a' w' => S w' ∧ wkT3 P ops S Q K v a' w') a w
section
variable {P : Program} {ops : Array Oper} {S : World → Prop} {Q : Exit → Act → World → Prop} {K : Act → World → Prop}
theorem wkT3_any (hs : Region.noSelect ops = true) (hK : ∀ a w, K a w → Q .normal a w) : ∀ (t : Pl3) (listed : Array Bool) (a : Act) (w : World),
    okT3 ops t listed = true → S w → wkT3 P ops S Q K t a w → wpAnyK P .any ops (NoPanic Q) S (fun _ => true) t.len listed a w
  | .nil, listed, a, w, hok, hS, h => ⟨of_decide_eq_true hok, hK a w h⟩
  | .q i t, listed, a, w, hok, hS, h => by
    simp only [okT3, Bool.and_eq_true] at hok
    obtain ⟨⟨hr, hf⟩, hok'⟩ := hok
    obtain ⟨o, v, hi, hy, hk⟩ := h
    exact wpAnyK.first hi (Region.noSelect_spec hs) (fun c a w h => h) _ listed a w (fun j hF => by cases hF) (Region.free_spec hi hf) (by simpa using hr) hy hS (wkT3_any hs hK t _ _ w hok' hS hk)
  | .one i t, listed, a, w, hok, hS, h => by
    simp only [okT3, Bool.and_eq_true, decide_eq_true_eq] at hok
    refine ⟨fun h0 => (by rw [hok.1] at h0; cases h0), fun j hj => ?_⟩
    rw [hok.1] at hj
    obtain rfl : j = i := by simpa using hj
    exact wpOp_mono (fun a' w' ⟨hS', h'⟩ => ⟨fun _ _ => hS', wkT3_any hs hK t _ a' w' hok.2 hS' h'⟩) h
  | .two i k t u, listed, a, w, hok, hS, h => by
    simp only [okT3, Bool.and_eq_true, decide_eq_true_eq] at hok
    obtain ⟨⟨⟨hl, hr⟩, ht⟩, hu⟩ := hok
    have hl := Nat.eq_of_beq_eq_true hl
    refine ⟨fun h0 => (by rw [hr] at h0; cases h0), fun j hj => ?_⟩
    rw [hr] at hj
    rcases (by simpa using hj : j = i ∨ j = k) with rfl | rfl
    · exact wpOp_mono (fun a' w' ⟨hS', h'⟩ => ⟨fun _ _ => hS', wkT3_any hs hK t _ a' w' ht hS' h'⟩) h.1
    · exact wpOp_mono (fun a' w' ⟨hS', h'⟩ => ⟨fun _ _ => hS', by rw [hl]; exact wkT3_any hs hK u _ a' w' hu hS' h'⟩) h.2
  | .three i k m t u v, listed, a, w, hok, hS, h => by
    simp only [okT3, Bool.and_eq_true, decide_eq_true_eq] at hok
    obtain ⟨⟨⟨⟨⟨hl, hl2⟩, hr⟩, ht⟩, hu⟩, hv⟩ := hok
    have hl := Nat.eq_of_beq_eq_true hl
    have hl2 := Nat.eq_of_beq_eq_true hl2
    refine ⟨fun h0 => (by rw [hr] at h0; cases h0), fun j hj => ?_⟩
    rw [hr] at hj
    rcases (by simpa using hj : j = i ∨ j = k ∨ j = m) with rfl | rfl | rfl
    · exact wpOp_mono (fun a' w' ⟨hS', h'⟩ => ⟨fun _ _ => hS', wkT3_any hs hK t _ a' w' ht hS' h'⟩) h.1
    · exact wpOp_mono (fun a' w' ⟨hS', h'⟩ => ⟨fun _ _ => hS', by rw [hl]; exact wkT3_any hs hK u _ a' w' hu hS' h'⟩) h.2.1
    · exact wpOp_mono (fun a' w' ⟨hS', h'⟩ => ⟨fun _ _ => hS', by rw [hl2]; exact wkT3_any hs hK v _ a' w' hv hS' h'⟩) h.2.2
end
/-- a region that draws, by a plan; behind it R holds -/
theorem wp_drawT3 {P : Program} {id : Nat} {ops : List Oper} {Q : Exit → Act → World → Prop} {a : Act} {w0 w : World} {M : Nat → Prop} {H : List It} (t : Pl3) (R : Act → World → Prop) (hm : P.follows .mixedOrders = true)
    (hok : (Region.noSelect ops.toArray && Nat.beq t.len ops.length && okT3 ops.toArray t (Array.replicate ops.length false)) = true) (hH : HS w0 M H w)
    (h : wkT3 P ops.toArray (HS w0 M H) Q R t a w.drew) (k : ∀ a w, R a w → Q .normal a w) : (Code.region id ops.toArray true).wp P Q a w := by
  simp only [Bool.and_eq_true] at hok
  obtain ⟨⟨hs, hl⟩, hok⟩ := hok
  have hl' : t.len = ops.toArray.size := by simpa using Nat.eq_of_beq_eq_true hl
  have := wkT3_any (P := P) (Q := Q) hs k t _ a w.drew hok hH.drew h
  rw [hl'] at this
  refine wp_region_noPanic (wp_region_any hm (wpAnyK.any (S := HS w0 M H) (F := fun _ => true) _ _ _ _ ?_))
  simpa using this
section
variable {P : Program} {N : Nat} {l : List (Nat × Value)} {a : Act} {Ds : List Deferred} {w : World} {ops : Array Oper} {S : World → Prop} {Q : Exit → Act → World → Prop} {K : Act → World → Prop} {i j m : Nat} {t u v : Pl3}
theorem d3_ex {o : Oper} {d : Nat} {v : Value} (hA : Sl N l a Ds) (hi : ops[i]? = some o) (hg : gd ops l o.guard = some true) (hd : o.dst = some d) (hdN : d < N)
    (h : Ex P N l S o v) (k' : ∀ a', Sl N ((d, v) :: l) a' Ds → wkT3 P ops S Q K t a' w) : wkT3 P ops S Q K (.q i t) a w := by
  refine ⟨o, v, hi, .inl ⟨hA.gd hg, fun w' hS => h a w' hA.toSl0 hS⟩, ?_⟩
  rw [hd]
  exact k' _ (hA.put hdN v)
theorem d3_op {o : Oper} {d : Nat} {R : Value → World → Prop} (hA : Sl N l a Ds) (hi : ops[i]? = some o) (hg : gd ops l o.guard = some true) (hd : o.dst = some d) (hdN : d < N)
    (h : Op1 P N l o w R) (k : ∀ v w', R v w' → S w' ∧ ∀ a', Sl N ((d, v) :: l) a' Ds → wkT3 P ops S Q K t a' w') : wkT3 P ops S Q K (.one i t) a w := by
  unfold wkT3 wpOp
  simp only [hi, hA.gd hg, if_true]
  refine .inl (h a hA.toSl0 _ _ fun v w' hR => ?_)
  rw [hd]
  exact ⟨(k v w' hR).1, (k v w' hR).2 _ (hA.put hdN v)⟩
theorem d3_op0 {o : Oper} {R : Value → World → Prop} (hA : Sl N l a Ds) (hi : ops[i]? = some o) (hg : gd ops l o.guard = some true) (hd : o.dst = none)
    (h : Op1 P N l o w R) (k : ∀ v w', R v w' → S w' ∧ wkT3 P ops S Q K t a w') : wkT3 P ops S Q K (.one i t) a w := by
  unfold wkT3 wpOp
  simp only [hi, hA.gd hg, if_true]
  refine .inl (h a hA.toSl0 _ _ fun v w' hR => ?_)
  rw [hd]
  exact k v w' hR
theorem d3_two (h1 : wkT3 P ops S Q K (.one i t) a w) (h2 : wkT3 P ops S Q K (.one j u) a w) : wkT3 P ops S Q K (.two i j t u) a w := ⟨h1, h2⟩
theorem d3_three (h1 : wkT3 P ops S Q K (.one i t) a w) (h2 : wkT3 P ops S Q K (.one j u) a w) (h3 : wkT3 P ops S Q K (.one m v) a w) : wkT3 P ops S Q K (.three i j m t u v) a w := ⟨h1, h2, h3⟩
end
end Go.Fw
namespace Go.Proofs.Ytjfanjcoppeeaaa
open Go Go.Fw
set_option linter.unusedVariables false
def gr00 : Gr := ⟨0, nilV⟩
/-- the cells of ssa's check, its maps perhaps nil -/
def encD (g : Grs) (f : Gr) (oA : Option Addr) (nA cA : Nat) (p : Int) (e : Option Nat) (oT : Option Addr) (nT cT : Nat) : List Value := [.slice g.fs.o g.fs.l.length g.fs.c, .slice g.ls.o g.ls.l.length g.ls.c, .slice g.ts.o g.ts.l.length g.ts.c, .slice g.xs.o g.xs.l.length g.xs.c, .slice g.ss.o g.ss.l.length g.ss.c,
  .int .i64 f.caps, .slice f.bs.o f.bs.l.length f.bs.c, .slice oA nA cA, .int .i64 p, .map e, .slice oT nT cT]
theorem encD_C (g : Grs) (f : Gr) (oA : Option Addr) (nA cA : Nat) (p : Int) (e : Nat) (oT : Option Addr) (nT cT : Nat) : encD g f oA nA cA p (some e) oT nT cT = encC ⟨g, f, oA, nA, cA, e, oT, nT, cT⟩ p := rfl
theorem map_caps_next {l : List Gr} {i : Nat} {f : Gr} (h : l[i]? = some f) : (l.take (i + 1)).map Gr.caps = (l.take i).map Gr.caps ++ [f.caps] := by rw [take_snoc h, List.map_append]; rfl
theorem map_caps_len {l : List Gr} {i : Nat} (h : i ≤ l.length) : ((l.take i).map Gr.caps).length = i := by rw [List.length_map, List.length_take]; omega
theorem flatF_snoc (o : Option Addr) (l : List Int) (c : Int) : flat (encF o) l ++ encF o c = flat (encF o) (l ++ [c]) := by rw [flat_snoc]
theorem fill_F (o : Option Addr) (c : Int) (z : Array Value) (hz : z.size = 12) : Instr.fill (([(0, 1), (1, 11)] : List (Nat × Nat))[·]?) z [(0, .int .i64 c), (1, .agg (encB o).toArray)] = some (encF o c).toArray := by
  obtain ⟨l⟩ := z
  match l, hz with
  | [z0, z1, z2, z3, z4, z5, z6, z7, z8, z9, z10, z11], _ =>
    simp [Instr.fill, encF, encB, Value.cells]
theorem rep_skb {w0 w : World} {M : Nat → Prop} {H : List It} (h : HS w0 M H w) (n : Nat) : HS w0 M (all ((List.replicate n (none : Option (Nat × List Int))).map sko) :: H) w := by
  refine HS.shut ?_
  induction n with
  | zero => exact h
  | succ n ih =>
    rw [List.replicate_succ, List.map_cons, List.cons_append]
    exact ih.nil_all
set_option maxRecDepth 10000 attribute [local irreducible] Code.wp wpList Calls Ex Op1 sat bat blk cb own Go.Fw.mp Go.Fw.mpO Go.Fw.mpI Go.Fw.mpE Go.Fw.itr HS Rd Ret wkD Hp Cl Cls Exit.then Exit.inBlock Exit.noGoto bodyPost Go.Fw.flat wk2 Go.Fw.all Go.Fw.owns wpOp
attribute [local irreducible] sk mpK srt sko mvO entK geS

set_option maxHeartbeats 16000000 in
theorem May_spec (w0 : World) (g : Grs) (hR : RdGs w0 g) (hl : g.fs.l.length ≤ 100000) (hbs : ∀ f ∈ g.fs.l, f.bs.l.length ≤ 1048576 ∧ ∀ bl ∈ f.bs.l, bl.e.to.l.length ≤ 1048576) :
    Ret Try.prog 18 #[.agg (encGs g).toArray] w0 (fun v w => ∃ b, v = .bool b ∧ Kp w0 noM w ∧ (b = true → ∀ f ∈ g.fs.l, GOk g f)) := by
  have hH : HS w0 noM [] w0 := HS.init w0 noM
  have hspF : Sp g.fs.o g.fs.l.length := hR.1.1.sp (sz := 2) (flat_length encG_len _) (by omega)
  (refine enter (N := 111) Try.func18 rfl Try.ntmps18 rfl ?_; intro a hA; dsimp only [sl0, Nat.reduceAdd] at hA)
  repeat' (first | (first | (refine GT ?_ ?_ <;> intro hg <;> clear hA a <;> intro a hA <;> (first | exact FA | replace hg := of_decide_eq_true hg | replace hg := of_decide_eq_false hg | skip)) | ((first | apply st_ex hA hH rfl rfl (by decide) | apply dr_ex hA rfl rfl rfl (by decide) | apply dr_exp hA rfl rfl rfl (by decide) | apply dr_ex3 hA hH rfl rfl rfl (by decide)); (first | (apply ex_build_p (cs := (encAt at0).toArray); rfl; (repeat (first | (intro _ h; exact absurd h (List.not_mem_nil)) | (refine List.forall_mem_cons.2 ⟨one_cell_of _ _, ?_⟩))); rfl)); clear hA a; intro a hA) | (refine QT ?_; clear hA a; intro a hA) | (first | (refine BT ?_; clear hA hH; rintro _ w ⟨bN, rfl, hH⟩ a hA) | (refine LT ?_; clear hA hH; rintro _ w ⟨oN, rfl, hH⟩ a hA) | (refine AT ?_; clear hA; rintro _ w ⟨oN, cN, rfl, hH2⟩ a hA; clear hH; have hH := (hH2 _ (by (repeat constructor))).tail; clear hH2) | (refine S0T ?_; clear hH; rintro _ w hH) | (apply st_op hA rfl rfl (by decide); apply op_sliceLit (xs := encAt at0) (vs := [.agg (encAt at0).toArray]); rfl; rfl; exact (Cats.cn (cs := encAt at0) Cats.nil); rfl; rfl; rfl; exact hH; clear hA hH; rintro _ w ⟨oN, rfl, hH⟩ a hA))) | ((first | refine CT ?_ | (refine DT ?_ ?_ <;> intro hc <;> try (exfalso; omega))) <;> repeat' refine CT ?_) | (first | (refine DSK ?_; clear hA a; intro a hA) | (first | (refine DLT ?_; clear hA hH; rintro _ w ⟨oN, rfl, hH⟩; refine ⟨STT, ?_⟩; intro a hA) | (refine DAT ?_; clear hA; rintro _ w ⟨oN, cN, rfl, hH2⟩; clear hH; have hH := (hH2 _ (by (repeat constructor))).tail; clear hH2; refine ⟨STT, ?_⟩; intro a hA))) )
  obtain ⟨oN0, hoN0⟩ : ∃ x, x = oN := ⟨_, rfl⟩
  rw [← hoN0] at hA hH
  clear hoN0 oN
  obtain ⟨b1, hb1⟩ : ∃ x, x = bN := ⟨_, rfl⟩
  rw [← hb1] at hA hH
  clear hb1 bN
  repeat' (first | (first | (refine GT ?_ ?_ <;> intro hg <;> clear hA a <;> intro a hA <;> (first | exact FA | replace hg := of_decide_eq_true hg | replace hg := of_decide_eq_false hg | skip)) | ((first | apply st_ex hA hH rfl rfl (by decide) | apply dr_ex hA rfl rfl rfl (by decide) | apply dr_exp hA rfl rfl rfl (by decide) | apply dr_ex3 hA hH rfl rfl rfl (by decide)); (first | (apply ex_build (szs := [(0, 1), (1, 1), (2, 1), (3, 1), (4, 1), (5, 4), (9, 1), (10, 1)]) (cs := (encB oN0).toArray); exact run_szl (by (repeat (first | exact SzL.nil | refine SzL.cons ⟨_, rfl, by decide⟩ ?_))); rfl; rfl)); clear hA a; intro a hA) | (refine QT ?_; clear hA a; intro a hA) | (first | (refine BT ?_; clear hA hH; rintro _ w ⟨bN, rfl, hH⟩ a hA) | (refine LT ?_; clear hA hH; rintro _ w ⟨oN, rfl, hH⟩ a hA) | (refine AT ?_; clear hA; rintro _ w ⟨oN, cN, rfl, hH2⟩ a hA; clear hH; have hH := (hH2 _ (by (repeat constructor))).tail; clear hH2) | (refine S0T ?_; clear hH; rintro _ w hH) | (apply st_op0 hA rfl rfl; apply op_store_agg (vs := encB oN0); rfl; rfl; exact hH; (repeat constructor); (repeat rfl); clear hH; rintro _ w hH))) | ((first | refine CT ?_ | (refine DT ?_ ?_ <;> intro hc <;> try (exfalso; omega))) <;> repeat' refine CT ?_) | (first | (refine DSK ?_; clear hA a; intro a hA) | (first | (refine DLT ?_; clear hA hH; rintro _ w ⟨oN, rfl, hH⟩; refine ⟨STT, ?_⟩; intro a hA) | (refine DAT ?_; clear hA; rintro _ w ⟨oN, cN, rfl, hH2⟩; clear hH; have hH := (hH2 _ (by (repeat constructor))).tail; clear hH2; refine ⟨STT, ?_⟩; intro a hA))) )
  obtain ⟨b3, hb3⟩ : ∃ x, x = bN := ⟨_, rfl⟩
  rw [← hb3] at hA hH
  clear hb3 bN
  repeat' (first | (first | (refine GT ?_ ?_ <;> intro hg <;> clear hA a <;> intro a hA <;> (first | exact FA | replace hg := of_decide_eq_true hg | replace hg := of_decide_eq_false hg | skip)) | ((first | apply st_ex hA hH rfl rfl (by decide) | apply dr_ex hA rfl rfl rfl (by decide) | apply dr_exp hA rfl rfl rfl (by decide) | apply dr_ex3 hA hH rfl rfl rfl (by decide)); (first | (apply ex_build_p (cs := (encP none 0 0 g).toArray); rfl; (repeat (first | (intro _ h; exact absurd h (List.not_mem_nil)) | (refine List.forall_mem_cons.2 ⟨one_cell_of _ _, ?_⟩))); rfl)); clear hA a; intro a hA) | (refine QT ?_; clear hA a; intro a hA) | (first | (refine BT ?_; clear hA hH; rintro _ w ⟨bN, rfl, hH⟩ a hA) | (refine LT ?_; clear hA hH; rintro _ w ⟨oN, rfl, hH⟩ a hA) | (refine AT ?_; clear hA; rintro _ w ⟨oN, cN, rfl, hH2⟩ a hA; clear hH; have hH := (hH2 _ (by (repeat constructor))).tail; clear hH2) | (refine S0T ?_; clear hH; rintro _ w hH) | (apply st_op0 hA rfl rfl; apply op_store_agg (vs := encP none 0 0 g); rfl; rfl; exact hH; (repeat constructor); (repeat rfl); clear hH; rintro _ w hH))) | ((first | refine CT ?_ | (refine DT ?_ ?_ <;> intro hc <;> try (exfalso; omega))) <;> repeat' refine CT ?_) | (first | (refine DSK ?_; clear hA a; intro a hA) | (first | (refine DLT ?_; clear hA hH; rintro _ w ⟨oN, rfl, hH⟩; refine ⟨STT, ?_⟩; intro a hA) | (refine DAT ?_; clear hA; rintro _ w ⟨oN, cN, rfl, hH2⟩; clear hH; have hH := (hH2 _ (by (repeat constructor))).tail; clear hH2; refine ⟨STT, ?_⟩; intro a hA))) )
  obtain ⟨b4, hb4⟩ : ∃ x, x = bN := ⟨_, rfl⟩
  rw [← hb4] at hA hH
  clear hb4 bN
  refine wp_lpk (S := Nat) (fun i a w => ∃ oF cF, i ≤ g.fs.l.length ∧ HS w0 noM [cb b4 88 (encP oF i cF g), own 90 12 oF i cF (flat (encF oN0) ((g.fs.l.take i).map Gr.caps)), cb b3 85 (encB oN0), own 63 2 oN0 1 1 (encAt at0), cb b1 25 (encGs g)] w ∧
      Sl 111 [(28, .int .i64 i), (27, .int .i64 g.fs.l.length), (26, .slice g.fs.o g.fs.l.length g.fs.c), (4, .pointer (some (bat b4 0))), (3, .pointer (some (bat b3 0))), (2, .bool false), (1, .pointer (some (bat b1 0)))] a) (fun i => g.fs.l.length - i)
    (fun a w => ∃ oF cF, HS w0 noM [cb b4 88 (encP oF g.fs.l.length cF g), own 90 12 oF g.fs.l.length cF (flat (encF oN0) ((g.fs.l.take g.fs.l.length).map Gr.caps)), cb b3 85 (encB oN0), own 63 2 oN0 1 1 (encAt at0), cb b1 25 (encGs g)] w ∧
      Sl 111 [(4, .pointer (some (bat b4 0))), (2, .bool false), (1, .pointer (some (bat b1 0)))] a) 0 ⟨none, 0, Nat.zero_le _, (by rw [List.take_zero]; exact (hH.nil_flat (encF oN0) 90 12).perm (by (repeat (first | exact List.Perm.refl _ | exact List.Perm.nil | refine perm_pick 0 rfl ?_ | refine perm_pick 1 rfl ?_ | refine perm_pick 2 rfl ?_ | refine perm_pick 3 rfl ?_ | refine perm_pick 4 rfl ?_ | refine perm_pick 5 rfl ?_ | refine perm_pick 6 rfl ?_ | refine perm_pick 7 rfl ?_ | refine perm_pick 8 rfl ?_ | refine perm_pick 9 rfl ?_ | refine perm_pick 10 rfl ?_ | refine perm_pick 11 rfl ?_)))), (hA.sub (by (repeat (first | exact trivial | refine ⟨rfl, ?_⟩))))⟩ ?_ ?_
  · clear hA hH
    rintro i a w ⟨oF, cF, hi, hH, hA⟩
    by_cases hlt : i < g.fs.l.length
    rotate_left
    · obtain rfl : i = g.fs.l.length := by omega
      repeat' (first | (first | (refine GT ?_ ?_ <;> intro hg <;> clear hA a <;> intro a hA <;> (first | exact FA | replace hg := of_decide_eq_true hg | replace hg := of_decide_eq_false hg | skip)) | (refine QT ?_; clear hA a; intro a hA) | (first | (refine BT ?_; clear hA hH; rintro _ w ⟨bN, rfl, hH⟩ a hA) | (refine LT ?_; clear hA hH; rintro _ w ⟨oN, rfl, hH⟩ a hA) | (refine AT ?_; clear hA; rintro _ w ⟨oN, cN, rfl, hH2⟩ a hA; clear hH; have hH := (hH2 _ (by (repeat constructor))).tail; clear hH2) | (refine S0T ?_; clear hH; rintro _ w hH) )) | ((first | refine CT ?_ | (refine DT ?_ ?_ <;> intro hc <;> try (exfalso; omega))) <;> repeat' refine CT ?_) | (first | (refine DSK ?_; clear hA a; intro a hA) | (first | (refine DLT ?_; clear hA hH; rintro _ w ⟨oN, rfl, hH⟩; refine ⟨STT, ?_⟩; intro a hA) | (refine DAT ?_; clear hA; rintro _ w ⟨oN, cN, rfl, hH2⟩; clear hH; have hH := (hH2 _ (by (repeat constructor))).tail; clear hH2; refine ⟨STT, ?_⟩; intro a hA))) )
      exact ⟨oF, cF, hH, (hA.sub (by (repeat (first | exact trivial | refine ⟨rfl, ?_⟩))))⟩
    obtain ⟨f, hf⟩ : ∃ x, g.fs.l[i]? = some x := ⟨_, List.getElem?_eq_getElem hlt⟩
    have hvf := flat_all encG_len hf
    have hcl := map_caps_len (l := g.fs.l) hi
    repeat' (first | (first | (refine GT ?_ ?_ <;> intro hg <;> clear hA a <;> intro a hA <;> (first | exact FA | replace hg := of_decide_eq_true hg | replace hg := of_decide_eq_false hg | skip)) | ((first | apply st_ex hA hH rfl rfl (by decide) | apply dr_ex hA rfl rfl rfl (by decide) | apply dr_exp hA rfl rfl rfl (by decide) | apply dr_ex3 hA hH rfl rfl rfl (by decide)); (first | (apply ex_load_st (vs := encG f); rfl; rfl; exact cls_rd hR.1.1 id hvf) | (apply ex_indexAddr_nat; rfl; rfl; omega; exact hspF)); clear hA a; intro a hA) | (refine QT ?_; clear hA a; intro a hA) | (first | (refine BT ?_; clear hA hH; rintro _ w ⟨bN, rfl, hH⟩ a hA) | (refine LT ?_; clear hA hH; rintro _ w ⟨oN, rfl, hH⟩ a hA) | (refine AT ?_; clear hA; rintro _ w ⟨oN, cN, rfl, hH2⟩ a hA; clear hH; have hH := (hH2 _ (by (repeat constructor))).tail; clear hH2) | (refine S0T ?_; clear hH; rintro _ w hH) | (apply st_op0 hA rfl rfl; apply op_store_agg (vs := encG f); rfl; rfl; exact hH; (repeat constructor); (repeat rfl); clear hH; rintro _ w hH))) | ((first | refine CT ?_ | (refine DT ?_ ?_ <;> intro hc <;> try (exfalso; omega))) <;> repeat' refine CT ?_) | (first | (refine DSK ?_; clear hA a; intro a hA) | (first | (refine DLT ?_; clear hA hH; rintro _ w ⟨oN, rfl, hH⟩; refine ⟨STT, ?_⟩; intro a hA) | (refine DAT ?_; clear hA; rintro _ w ⟨oN, cN, rfl, hH2⟩; clear hH; have hH := (hH2 _ (by (repeat constructor))).tail; clear hH2; refine ⟨STT, ?_⟩; intro a hA))) )
    (refine st_ex hA hH rfl rfl (by decide) (ex_build (szs := [(0, 1), (1, 11)]) (cs := (encF oN0 f.caps).toArray) (run_szl (.cons ⟨_, rfl, by decide⟩ (.cons ⟨_, rfl, by decide⟩ .nil))) rfl (fill_F oN0 f.caps _ rfl)) ?_; clear hA a; intro a hA)
    obtain ⟨fc, hfc⟩ : ∃ x, x = encF oN0 f.caps := ⟨_, rfl⟩
    have hfl : fc.length = 12 := by rw [hfc]; rfl
    have hfo : fc.all (·.oneCell') = true := by rw [hfc]; rfl
    rw [← hfc] at hA
    have hcats : Cats 12 [.agg fc.toArray] fc := by
      have h := Cats.cn (cs := fc) Cats.nil
      rw [hfl, List.append_nil] at h
      exact h
    (apply st_op hA rfl rfl (by decide); apply op_sliceLit (xs := fc) (vs := [.agg fc.toArray]); rfl; rfl; exact hcats; rfl; rfl; rfl; exact hH; clear hA hH; rintro _ w ⟨oL, rfl, hH⟩ a hA)
    (apply st_op hA rfl rfl (by decide); apply op_append; rfl; rfl; exact hH; exact MEMT; exact (hH.own_rd (List.Mem.head _)); exact hfl; rfl; decide; exact hfo; (unfold maxLen; omega); omega; clear hA; rintro _ w ⟨oN, cN, rfl, hH2⟩ a hA; clear hH; have hH := hH2 _ (by (repeat constructor)); clear hH2)
    rw [hfc, flatF_snoc, ← map_caps_next hf] at hH
    repeat' (first | (first | (refine GT ?_ ?_ <;> intro hg <;> clear hA a <;> intro a hA <;> (first | exact FA | replace hg := of_decide_eq_true hg | replace hg := of_decide_eq_false hg | skip)) | (refine QT ?_; clear hA a; intro a hA) | (first | (refine BT ?_; clear hA hH; rintro _ w ⟨bN, rfl, hH⟩ a hA) | (refine LT ?_; clear hA hH; rintro _ w ⟨oN, rfl, hH⟩ a hA) | (refine AT ?_; clear hA; rintro _ w ⟨oN, cN, rfl, hH2⟩ a hA; clear hH; have hH := (hH2 _ (by (repeat constructor))).tail; clear hH2) | (refine S0T ?_; clear hH; rintro _ w hH) | (apply st_op0 hA rfl rfl; apply op_store_fld (cs' := encP oN (i + 1) cN g); rfl; rfl; rfl; exact hH; (repeat constructor); clear hH; rintro _ w hH))) | ((first | refine CT ?_ | (refine DT ?_ ?_ <;> intro hc <;> try (exfalso; omega))) <;> repeat' refine CT ?_) | (first | (refine DSK ?_; clear hA a; intro a hA) | (first | (refine DLT ?_; clear hA hH; rintro _ w ⟨oN, rfl, hH⟩; refine ⟨STT, ?_⟩; intro a hA) | (refine DAT ?_; clear hA; rintro _ w ⟨oN, cN, rfl, hH2⟩; clear hH; have hH := (hH2 _ (by (repeat constructor))).tail; clear hH2; refine ⟨STT, ?_⟩; intro a hA))) )
    exact ⟨i + 1, ⟨oN, cN, hlt, (((hH.rm 0).rm 0).perm (by (repeat (first | exact List.Perm.refl _ | exact List.Perm.nil | refine perm_pick 0 rfl ?_ | refine perm_pick 1 rfl ?_ | refine perm_pick 2 rfl ?_ | refine perm_pick 3 rfl ?_ | refine perm_pick 4 rfl ?_ | refine perm_pick 5 rfl ?_ | refine perm_pick 6 rfl ?_ | refine perm_pick 7 rfl ?_ | refine perm_pick 8 rfl ?_ | refine perm_pick 9 rfl ?_ | refine perm_pick 10 rfl ?_ | refine perm_pick 11 rfl ?_)))), (hA.sub (by (repeat (first | exact trivial | refine ⟨rfl, ?_⟩))))⟩, by omega⟩
  clear hA hH
  rintro a w ⟨oF, cF, hH, hA⟩
  rw [List.take_length] at hH
  obtain ⟨cl, hcl⟩ : ∃ x, x = g.fs.l.map Gr.caps := ⟨_, rfl⟩
  have hcll : cl.length = g.fs.l.length := by rw [hcl, List.length_map]
  rw [← hcl, ← hcll] at hH
  repeat' (first | (first | (refine GT ?_ ?_ <;> intro hg <;> clear hA a <;> intro a hA <;> (first | exact FA | replace hg := of_decide_eq_true hg | replace hg := of_decide_eq_false hg | skip)) | (refine QT ?_; clear hA a; intro a hA) | (first | (refine BT ?_; clear hA hH; rintro _ w ⟨bN, rfl, hH⟩ a hA) | (refine LT ?_; clear hA hH; rintro _ w ⟨oN, rfl, hH⟩ a hA) | (refine AT ?_; clear hA; rintro _ w ⟨oN, cN, rfl, hH2⟩ a hA; clear hH; have hH := (hH2 _ (by (repeat constructor))).tail; clear hH2) | (refine S0T ?_; clear hH; rintro _ w hH) )) | ((first | refine CT ?_ | (refine DT ?_ ?_ <;> intro hc <;> try (exfalso; omega))) <;> repeat' refine CT ?_) | (first | (refine DSK ?_; clear hA a; intro a hA) | (first | (refine DLT ?_; clear hA hH; rintro _ w ⟨oN, rfl, hH⟩; refine ⟨STT, ?_⟩; intro a hA) | (refine DAT ?_; clear hA; rintro _ w ⟨oN, cN, rfl, hH2⟩; clear hH; have hH := (hH2 _ (by (repeat constructor))).tail; clear hH2; refine ⟨STT, ?_⟩; intro a hA))) )
  (refine st_op hA rfl rfl (by decide) (op_call rfl rfl rfl (anfMay_spec _ oF cF cl oN0 g (hH.own_rd (.tail _ (.head _))) (hH.own_rd (T := 63) (n := 1) (cap := 1) (sz := 2) (by exact MEMT)) (by omega) (hR.2.2.1.keep hH.kp) (hR.2.2.2.1.keep hH.kp) (hR.2.2.2.2.1.keep hH.kp) (hR.2.2.2.2.2.keep hH.kp))) ?_; clear hA; rintro _ w ⟨b, rfl, hk⟩ a hA; replace hH := hH.keep hk; clear hk)
  repeat' (first | (first | (refine GT ?_ ?_ <;> intro hg <;> clear hA a <;> intro a hA <;> (first | exact FA | replace hg := of_decide_eq_true hg | replace hg := of_decide_eq_false hg | skip)) | ((first | apply st_ex hA hH rfl rfl (by decide) | apply dr_ex hA rfl rfl rfl (by decide) | apply dr_exp hA rfl rfl rfl (by decide) | apply dr_ex3 hA hH rfl rfl rfl (by decide)); (first | (apply ex_build (szs := [(0, 5), (5, 2), (7, 1), (8, 1), (9, 1), (10, 1)]) (cs := (encD g gr00 none 0 0 0 none none 0 0).toArray); exact run_szl (by (repeat (first | exact SzL.nil | refine SzL.cons ⟨_, rfl, by decide⟩ ?_))); rfl; rfl)); clear hA a; intro a hA) | (refine QT ?_; clear hA a; intro a hA) | (first | (refine BT ?_; clear hA hH; rintro _ w ⟨bN, rfl, hH⟩ a hA) | (refine LT ?_; clear hA hH; rintro _ w ⟨oN, rfl, hH⟩ a hA) | (refine AT ?_; clear hA; rintro _ w ⟨oN, cN, rfl, hH2⟩ a hA; clear hH; have hH := (hH2 _ (by (repeat constructor))).tail; clear hH2) | (refine S0T ?_; clear hH; rintro _ w hH) )) | ((first | refine CT ?_ | (refine DT ?_ ?_ <;> intro hc <;> try (exfalso; omega))) <;> repeat' refine CT ?_) | (first | (refine DSK ?_; clear hA a; intro a hA) | (first | (refine DLT ?_; clear hA hH; rintro _ w ⟨oN, rfl, hH⟩; refine ⟨STT, ?_⟩; intro a hA) | (refine DAT ?_; clear hA; rintro _ w ⟨oN, cN, rfl, hH2⟩; clear hH; have hH := (hH2 _ (by (repeat constructor))).tail; clear hH2; refine ⟨STT, ?_⟩; intro a hA))) )
  all_goals first | exact rt1 (.inl rfl) rfl hA rfl ⟨_, rfl, hH.kp, fun h => by cases h⟩ | skip
  obtain ⟨bC, hbC⟩ : ∃ x, x = bN := ⟨_, rfl⟩
  rw [← hbC] at hA hH
  clear hbC bN
  refine wp_lpk (S := Nat) (fun i a w => ∃ oA cA, i ≤ g.fs.l.length ∧ HS w0 noM [cb bC 95 (encD g gr00 oA i cA 0 none none 0 0), own 3 1 oA i cA (flat Fw.encI ((g.fs.l.take i).map Gr.caps)), cb b1 25 (encGs g)] w ∧
      Sl 111 [(51, .int .i64 i), (50, .int .i64 g.fs.l.length), (49, .slice g.fs.o g.fs.l.length g.fs.c), (7, .pointer (some (bat bC 0))), (2, .bool false), (1, .pointer (some (bat b1 0)))] a) (fun i => g.fs.l.length - i)
    (fun a w => ∃ oA cA, HS w0 noM [cb bC 95 (encD g gr00 oA g.fs.l.length cA 0 none none 0 0), own 3 1 oA g.fs.l.length cA (flat Fw.encI ((g.fs.l.take g.fs.l.length).map Gr.caps)), cb b1 25 (encGs g)] w ∧
      Sl 111 [(7, .pointer (some (bat bC 0))), (2, .bool false), (1, .pointer (some (bat b1 0)))] a) 0 ⟨none, 0, Nat.zero_le _, (by rw [List.take_zero]; exact HS.left (H1 := [_, _, _]) ((hH.nil_flat Fw.encI 3 1).perm (by (repeat (first | exact List.Perm.refl _ | exact List.Perm.nil | refine perm_pick 0 rfl ?_ | refine perm_pick 1 rfl ?_ | refine perm_pick 2 rfl ?_ | refine perm_pick 3 rfl ?_ | refine perm_pick 4 rfl ?_ | refine perm_pick 5 rfl ?_ | refine perm_pick 6 rfl ?_ | refine perm_pick 7 rfl ?_ | refine perm_pick 8 rfl ?_ | refine perm_pick 9 rfl ?_ | refine perm_pick 10 rfl ?_ | refine perm_pick 11 rfl ?_))))), (hA.sub (by (repeat (first | exact trivial | refine ⟨rfl, ?_⟩))))⟩ ?_ ?_
  · clear hA hH
    rintro i a w ⟨oA, cA, hi, hH, hA⟩
    by_cases hlt : i < g.fs.l.length
    rotate_left
    · obtain rfl : i = g.fs.l.length := by omega
      repeat' (first | (first | (refine GT ?_ ?_ <;> intro hg <;> clear hA a <;> intro a hA <;> (first | exact FA | replace hg := of_decide_eq_true hg | replace hg := of_decide_eq_false hg | skip)) | (refine QT ?_; clear hA a; intro a hA) | (first | (refine BT ?_; clear hA hH; rintro _ w ⟨bN, rfl, hH⟩ a hA) | (refine LT ?_; clear hA hH; rintro _ w ⟨oN, rfl, hH⟩ a hA) | (refine AT ?_; clear hA; rintro _ w ⟨oN, cN, rfl, hH2⟩ a hA; clear hH; have hH := (hH2 _ (by (repeat constructor))).tail; clear hH2) | (refine S0T ?_; clear hH; rintro _ w hH) )) | ((first | refine CT ?_ | (refine DT ?_ ?_ <;> intro hc <;> try (exfalso; omega))) <;> repeat' refine CT ?_) | (first | (refine DSK ?_; clear hA a; intro a hA) | (first | (refine DLT ?_; clear hA hH; rintro _ w ⟨oN, rfl, hH⟩; refine ⟨STT, ?_⟩; intro a hA) | (refine DAT ?_; clear hA; rintro _ w ⟨oN, cN, rfl, hH2⟩; clear hH; have hH := (hH2 _ (by (repeat constructor))).tail; clear hH2; refine ⟨STT, ?_⟩; intro a hA))) )
      exact ⟨oA, cA, hH, (hA.sub (by (repeat (first | exact trivial | refine ⟨rfl, ?_⟩))))⟩
    obtain ⟨f, hf⟩ : ∃ x, g.fs.l[i]? = some x := ⟨_, List.getElem?_eq_getElem hlt⟩
    have hvf := flat_all encG_len hf
    repeat' (first | (first | (refine GT ?_ ?_ <;> intro hg <;> clear hA a <;> intro a hA <;> (first | exact FA | replace hg := of_decide_eq_true hg | replace hg := of_decide_eq_false hg | skip)) | ((first | apply st_ex hA hH rfl rfl (by decide) | apply dr_ex hA rfl rfl rfl (by decide) | apply dr_exp hA rfl rfl rfl (by decide) | apply dr_ex3 hA hH rfl rfl rfl (by decide)); (first | (apply ex_load_st (vs := encG f); rfl; rfl; exact cls_rd hR.1.1 id hvf) | (apply ex_indexAddr_nat; rfl; rfl; omega; exact hspF)); clear hA a; intro a hA) | (refine QT ?_; clear hA a; intro a hA) | (first | (refine BT ?_; clear hA hH; rintro _ w ⟨bN, rfl, hH⟩ a hA) | (refine LT ?_; clear hA hH; rintro _ w ⟨oN, rfl, hH⟩ a hA) | (refine AT ?_; clear hA; rintro _ w ⟨oN, cN, rfl, hH2⟩ a hA; clear hH; have hH := (hH2 _ (by (repeat constructor))).tail; clear hH2) | (refine S0T ?_; clear hH; rintro _ w hH) | (apply st_op0 hA rfl rfl; apply op_store_agg (vs := encG f); rfl; rfl; exact hH; (repeat constructor); (repeat rfl); clear hH; rintro _ w hH))) | ((first | refine CT ?_ | (refine DT ?_ ?_ <;> intro hc <;> try (exfalso; omega))) <;> repeat' refine CT ?_) | (first | (refine DSK ?_; clear hA a; intro a hA) | (first | (refine DLT ?_; clear hA hH; rintro _ w ⟨oN, rfl, hH⟩; refine ⟨STT, ?_⟩; intro a hA) | (refine DAT ?_; clear hA; rintro _ w ⟨oN, cN, rfl, hH2⟩; clear hH; have hH := (hH2 _ (by (repeat constructor))).tail; clear hH2; refine ⟨STT, ?_⟩; intro a hA))) )
    have hST : HS w0 noM [cb bN 30 (encG f), cb bC 95 (encD g gr00 oA i cA 0 none none 0 0)] w := HS.left (H1 := [_, _]) hH
    (refine wp_draw2_HS (H := [_, _]) [(0, 1), (1, 1), (2, 1), (3, 1), (4, 1), (5, 1), (6, 1), (7, 0), (8, 0), (9, 1), (10, 1)] [11] mixed (by decide +kernel) (hST) ?_; replace hH := hH.drew)
    clear hST
    repeat' (first | (first | (refine GT ?_ ?_ <;> intro hg <;> clear hA a <;> intro a hA <;> (first | exact FA | replace hg := of_decide_eq_true hg | replace hg := of_decide_eq_false hg | skip)) | (refine QT ?_; clear hA a; intro a hA) | (first | (refine BT ?_; clear hA hH; rintro _ w ⟨bN, rfl, hH⟩ a hA) | (refine LT ?_; clear hA hH; rintro _ w ⟨oN, rfl, hH⟩ a hA) | (refine AT ?_; clear hA; rintro _ w ⟨oN, cN, rfl, hH2⟩ a hA; clear hH; have hH := (hH2 _ (by (repeat constructor))).tail; clear hH2) | (refine S0T ?_; clear hH; rintro _ w hH) )) | ((first | refine CT ?_ | (refine DT ?_ ?_ <;> intro hc <;> try (exfalso; omega))) <;> repeat' refine CT ?_) | (first | (refine DSK ?_; clear hA a; intro a hA) | (first | (refine DLT ?_; clear hA hH; rintro _ w ⟨oN, rfl, hH⟩; refine ⟨STT, ?_⟩; intro a hA) | (refine DAT ?_; clear hA; rintro _ w ⟨oN, cN, rfl, hH2⟩; clear hH; have hH := (hH2 _ (by (repeat constructor))).tail; clear hH2; refine ⟨STT, ?_⟩; intro a hA))) )
    (apply dr_op hA rfl rfl rfl (by decide); apply op_sliceLit; rfl; rfl; exact CATST; rfl; rfl; rfl; exact hH; clear hA hH; rintro _ w ⟨oN, rfl, hH⟩; refine ⟨HS.left (H1 := [_, _]) hH.tail, ?_⟩; intro a hA)
    (apply dr_op hA rfl rfl rfl (by decide); apply op_append; rfl; rfl; exact hH; exact MEMT; exact (hH.own_rd (List.Mem.head _)); exact rfl; rfl; decide; exact rfl; (unfold maxLen; omega); omega; clear hA; rintro _ w ⟨oN, cN, rfl, hH2⟩; clear hH; have hH := hH2 _ (by (repeat constructor)); clear hH2; refine ⟨HS.left (H1 := [_, _]) hH.tail, ?_⟩; intro a hA)
    rw [flatI_s, ← map_caps_next hf] at hH
    repeat' (first | (first | (refine GT ?_ ?_ <;> intro hg <;> clear hA a <;> intro a hA <;> (first | exact FA | replace hg := of_decide_eq_true hg | replace hg := of_decide_eq_false hg | skip)) | (refine QT ?_; clear hA a; intro a hA) | (first | (refine BT ?_; clear hA hH; rintro _ w ⟨bN, rfl, hH⟩ a hA) | (refine LT ?_; clear hA hH; rintro _ w ⟨oN, rfl, hH⟩ a hA) | (refine AT ?_; clear hA; rintro _ w ⟨oN, cN, rfl, hH2⟩ a hA; clear hH; have hH := (hH2 _ (by (repeat constructor))).tail; clear hH2) | (refine S0T ?_; clear hH; rintro _ w hH) )) | ((first | refine CT ?_ | (refine DT ?_ ?_ <;> intro hc <;> try (exfalso; omega))) <;> repeat' refine CT ?_) | (first | (refine DSK ?_; clear hA a; intro a hA) | (first | (refine DLT ?_; clear hA hH; rintro _ w ⟨oN, rfl, hH⟩; refine ⟨STT, ?_⟩; intro a hA) | (refine DAT ?_; clear hA; rintro _ w ⟨oN, cN, rfl, hH2⟩; clear hH; have hH := (hH2 _ (by (repeat constructor))).tail; clear hH2; refine ⟨STT, ?_⟩; intro a hA))) )
    (apply dr_op03 hA rfl rfl rfl; apply op_store_fld (cs' := encD g gr00 oN (i + 1) cN 0 none none 0 0); rfl; rfl; rfl; exact hH; (repeat constructor); clear hH; rintro _ w hH)
    repeat' (first | (first | (refine GT ?_ ?_ <;> intro hg <;> clear hA a <;> intro a hA <;> (first | exact FA | replace hg := of_decide_eq_true hg | replace hg := of_decide_eq_false hg | skip)) | (refine QT ?_; clear hA a; intro a hA) | (first | (refine BT ?_; clear hA hH; rintro _ w ⟨bN, rfl, hH⟩ a hA) | (refine LT ?_; clear hA hH; rintro _ w ⟨oN, rfl, hH⟩ a hA) | (refine AT ?_; clear hA; rintro _ w ⟨oN, cN, rfl, hH2⟩ a hA; clear hH; have hH := (hH2 _ (by (repeat constructor))).tail; clear hH2) | (refine S0T ?_; clear hH; rintro _ w hH) )) | ((first | refine CT ?_ | (refine DT ?_ ?_ <;> intro hc <;> try (exfalso; omega))) <;> repeat' refine CT ?_) | (first | (refine DSK ?_; clear hA a; intro a hA) | (first | (refine DLT ?_; clear hA hH; rintro _ w ⟨oN, rfl, hH⟩; refine ⟨STT, ?_⟩; intro a hA) | (refine DAT ?_; clear hA; rintro _ w ⟨oN, cN, rfl, hH2⟩; clear hH; have hH := (hH2 _ (by (repeat constructor))).tail; clear hH2; refine ⟨STT, ?_⟩; intro a hA))) )
    exact ⟨i + 1, ⟨oN, cN, hlt, (((hH.rm 0).rm 0).perm (by (repeat (first | exact List.Perm.refl _ | exact List.Perm.nil | refine perm_pick 0 rfl ?_ | refine perm_pick 1 rfl ?_ | refine perm_pick 2 rfl ?_ | refine perm_pick 3 rfl ?_ | refine perm_pick 4 rfl ?_ | refine perm_pick 5 rfl ?_ | refine perm_pick 6 rfl ?_ | refine perm_pick 7 rfl ?_ | refine perm_pick 8 rfl ?_ | refine perm_pick 9 rfl ?_ | refine perm_pick 10 rfl ?_ | refine perm_pick 11 rfl ?_)))), (hA.sub (by (repeat (first | exact trivial | refine ⟨rfl, ?_⟩))))⟩, by omega⟩
  clear hA hH
  rintro a w ⟨oA, cA, hH, hA⟩
  rw [List.take_length, ← hcl, ← hcll] at hH
  repeat' (first | (first | (refine GT ?_ ?_ <;> intro hg <;> clear hA a <;> intro a hA <;> (first | exact FA | replace hg := of_decide_eq_true hg | replace hg := of_decide_eq_false hg | skip)) | (refine QT ?_; clear hA a; intro a hA) | (first | (refine BT ?_; clear hA hH; rintro _ w ⟨bN, rfl, hH⟩ a hA) | (refine LT ?_; clear hA hH; rintro _ w ⟨oN, rfl, hH⟩ a hA) | (refine AT ?_; clear hA; rintro _ w ⟨oN, cN, rfl, hH2⟩ a hA; clear hH; have hH := (hH2 _ (by (repeat constructor))).tail; clear hH2) | (refine S0T ?_; clear hH; rintro _ w hH) )) | ((first | refine CT ?_ | (refine DT ?_ ?_ <;> intro hc <;> try (exfalso; omega))) <;> repeat' refine CT ?_) | (first | (refine DSK ?_; clear hA a; intro a hA) | (first | (refine DLT ?_; clear hA hH; rintro _ w ⟨oN, rfl, hH⟩; refine ⟨STT, ?_⟩; intro a hA) | (refine DAT ?_; clear hA; rintro _ w ⟨oN, cN, rfl, hH2⟩; clear hH; have hH := (hH2 _ (by (repeat constructor))).tail; clear hH2; refine ⟨STT, ?_⟩; intro a hA))) )
  refine wp_lpk (S := Nat) (fun i a w => ∃ f e oT nT cT p, (i ≤ g.fs.l.length ∧ 0 ≤ p ∧ p ≤ 65536 ∧ ∀ k f, g.fs.l[k]? = some f → k < i → GOk g f) ∧ HS w0 noM [cb bC 95 (encD g f oA cl.length cA p e oT nT cT), own 3 1 oA cl.length cA (flat Fw.encI cl), cb b1 25 (encGs g)] w ∧
      Sl 111 [(70, .int .i64 i), (69, .int .i64 g.fs.l.length), (68, .slice g.fs.o g.fs.l.length g.fs.c), (7, .pointer (some (bat bC 0))), (2, .bool false), (1, .pointer (some (bat b1 0)))] a) (fun i => g.fs.l.length - i)
    (fun a w => (∀ f ∈ g.fs.l, GOk g f) ∧ HS w0 noM [] w ∧ Sl 111 [] a) 0 ⟨gr00, none, none, 0, 0, 0, ⟨Nat.zero_le _, Int.le_refl _, by decide, fun k f hk h => absurd h (Nat.not_lt_zero _)⟩, hH, (hA.sub (by (repeat (first | exact trivial | refine ⟨rfl, ?_⟩))))⟩ ?_ ?_
  · clear hA hH
    rintro i a w ⟨f0, e0, oT0, nT0, cT0, p, ⟨hi, hp0, hp1, hok⟩, hH, hA⟩
    by_cases hlt : i < g.fs.l.length
    rotate_left
    · obtain rfl : i = g.fs.l.length := by omega
      repeat' (first | (first | (refine GT ?_ ?_ <;> intro hg <;> clear hA a <;> intro a hA <;> (first | exact FA | replace hg := of_decide_eq_true hg | replace hg := of_decide_eq_false hg | skip)) | (refine QT ?_; clear hA a; intro a hA) | (first | (refine BT ?_; clear hA hH; rintro _ w ⟨bN, rfl, hH⟩ a hA) | (refine LT ?_; clear hA hH; rintro _ w ⟨oN, rfl, hH⟩ a hA) | (refine AT ?_; clear hA; rintro _ w ⟨oN, cN, rfl, hH2⟩ a hA; clear hH; have hH := (hH2 _ (by (repeat constructor))).tail; clear hH2) | (refine S0T ?_; clear hH; rintro _ w hH) )) | ((first | refine CT ?_ | (refine DT ?_ ?_ <;> intro hc <;> try (exfalso; omega))) <;> repeat' refine CT ?_) | (first | (refine DSK ?_; clear hA a; intro a hA) | (first | (refine DLT ?_; clear hA hH; rintro _ w ⟨oN, rfl, hH⟩; refine ⟨STT, ?_⟩; intro a hA) | (refine DAT ?_; clear hA; rintro _ w ⟨oN, cN, rfl, hH2⟩; clear hH; have hH := (hH2 _ (by (repeat constructor))).tail; clear hH2; refine ⟨STT, ?_⟩; intro a hA))) )
      refine ⟨fun f hf => ?_, hH.tail.tail.tail, (hA.sub (by (repeat (first | exact trivial | refine ⟨rfl, ?_⟩))))⟩
      obtain ⟨k, hk⟩ := List.getElem?_of_mem hf
      exact hok k f hk (List.getElem?_eq_some_iff.1 hk).1
    obtain ⟨f, hf⟩ : ∃ x, g.fs.l[i]? = some x := ⟨_, List.getElem?_eq_getElem hlt⟩
    have hfm := List.mem_of_getElem? hf
    have hRf := hR.2.1 f hfm
    obtain ⟨hfb, hto⟩ := hbs f hfm
    have hvf := flat_all encG_len hf
    repeat' (first | (first | (refine GT ?_ ?_ <;> intro hg <;> clear hA a <;> intro a hA <;> (first | exact FA | replace hg := of_decide_eq_true hg | replace hg := of_decide_eq_false hg | skip)) | ((first | apply st_ex hA hH rfl rfl (by decide) | apply dr_ex hA rfl rfl rfl (by decide) | apply dr_exp hA rfl rfl rfl (by decide) | apply dr_ex3 hA hH rfl rfl rfl (by decide)); (first | (apply ex_load_st (vs := encG f); rfl; rfl; exact cls_rd hR.1.1 id hvf) | (apply ex_indexAddr_nat; rfl; rfl; omega; exact hspF)); clear hA a; intro a hA) | (refine QT ?_; clear hA a; intro a hA) | (first | (refine BT ?_; clear hA hH; rintro _ w ⟨bN, rfl, hH⟩ a hA) | (refine LT ?_; clear hA hH; rintro _ w ⟨oN, rfl, hH⟩ a hA) | (refine AT ?_; clear hA; rintro _ w ⟨oN, cN, rfl, hH2⟩ a hA; clear hH; have hH := (hH2 _ (by (repeat constructor))).tail; clear hH2) | (refine S0T ?_; clear hH; rintro _ w hH) | (apply st_op0 hA rfl rfl; apply op_store_agg (vs := encG f); rfl; rfl; exact hH; (repeat constructor); (repeat rfl); clear hH; rintro _ w hH))) | ((first | refine CT ?_ | (refine DT ?_ ?_ <;> intro hc <;> try (exfalso; omega))) <;> repeat' refine CT ?_) | (first | (refine DSK ?_; clear hA a; intro a hA) | (first | (refine DLT ?_; clear hA hH; rintro _ w ⟨oN, rfl, hH⟩; refine ⟨STT, ?_⟩; intro a hA) | (refine DAT ?_; clear hA; rintro _ w ⟨oN, cN, rfl, hH2⟩; clear hH; have hH := (hH2 _ (by (repeat constructor))).tail; clear hH2; refine ⟨STT, ?_⟩; intro a hA))) )
    have hST : HS w0 noM [cb bN 30 (encG f)] w := HS.left (H1 := [_]) hH
    obtain ⟨b11, hb11⟩ : ∃ x, x = bN := ⟨_, rfl⟩
    rw [← hb11] at hA hH hST
    clear hb11 bN
    refine wp_drawT3 (qs3 [0, 1, 2, 3, 5, 6, 7] (.q 9 (.q 10 (.three 4 8 11 (.two 8 11 (.one 11 (.q 12 (.q 13 (.one 14 (.q 15 (.q 16 (.one 17 .nil))))))) (.q 12 (.q 13 (.two 8 14 (.one 14 (.q 15 (.q 16 (.one 17 .nil)))) (.one 8 (.q 15 (.q 16 (.one 17 .nil)))))))) (.two 4 11 (.one 11 (.q 12 (.q 13 (.one 14 (.q 15 (.q 16 (.one 17 .nil))))))) (.one 4 (.q 12 (.q 13 (.one 14 (.q 15 (.q 16 (.one 17 .nil)))))))) (.two 4 8 (.q 12 (.q 13 (.two 8 14 (.one 14 (.q 15 (.q 16 (.one 17 .nil)))) (.one 8 (.q 15 (.q 16 (.one 17 .nil))))))) (.one 4 (.q 12 (.q 13 (.one 14 (.q 15 (.q 16 (.one 17 .nil)))))))))))) (fun a w => ∃ bE oT, HS w0 noM [cb bC 95 (encD g f oA cl.length cA p (some bE) oT f.bs.l.length f.bs.l.length), sk bE [], own 71 1 oT f.bs.l.length f.bs.l.length (flat encO (List.replicate f.bs.l.length (none : Option (Nat × List Int)))), cb b11 30 (encG f), own 3 1 oA cl.length cA (flat Fw.encI cl), cb b1 25 (encGs g)] w ∧
      Sl 111 [(11, .pointer (some (bat b11 0))), (70, .int .i64 i), (69, .int .i64 g.fs.l.length), (68, .slice g.fs.o g.fs.l.length g.fs.c), (7, .pointer (some (bat bC 0))), (2, .bool false), (1, .pointer (some (bat b1 0)))] a) mixed (by decide +kernel) hST ?_ ?_
    · clear hST
      replace hH := hH.drew
      repeat' (first | apply d3_three | apply d3_two | (apply d3_ex hA rfl rfl rfl (by decide); exact EXT; clear hA a; intro a hA) | (refine d3_op hA rfl rfl rfl (by decide) (op_makeMapK hH) ?_; clear hA hH; rintro _ w ⟨bE, rfl, hH⟩; refine ⟨hH.pick (by exact MEMT), ?_⟩; intro a hA) | (apply d3_op hA rfl rfl rfl (by decide); apply op_make1 encO (none : Option (Nat × List Int)) (n := f.bs.l.length); rfl; rfl; omega; omega; (unfold maxLen; omega); omega; rfl; rfl; exact hH; clear hA hH; rintro _ w ⟨oT, rfl, hH⟩; refine ⟨hH.pick (by exact MEMT), ?_⟩; intro a hA) | (refine d3_op0 hA rfl rfl rfl (op_store_cb (vs := encG f) (cs' := encD g f oA cl.length cA p e0 oT0 nT0 cT0) rfl rfl hH (by (repeat constructor)) rfl rfl rfl (Nat.le_of_ble_eq_true rfl) rfl) ?_; clear hH; rintro _ w hH; refine ⟨hH.pick (by exact MEMT), ?_⟩) | (refine d3_op0 hA rfl rfl rfl (op_store_fld (cs' := encD g f oA cl.length cA p (some bE) oT0 nT0 cT0) rfl rfl rfl hH (by (repeat constructor)) rfl rfl) ?_; clear hH; rintro _ w hH; refine ⟨hH.pick (by exact MEMT), ?_⟩) | (refine d3_op0 hA rfl rfl rfl (op_store_fld (cs' := encD g f oA cl.length cA p (some bE) oT f.bs.l.length f.bs.l.length) rfl rfl rfl hH (by (repeat constructor)) rfl rfl) ?_; clear hH; rintro _ w hH; refine ⟨hH.pick (by exact MEMT), ?_⟩))
      all_goals exact ⟨_, _, hH.perm (by (repeat (first | exact List.Perm.refl _ | exact List.Perm.nil | refine perm_pick 0 rfl ?_ | refine perm_pick 1 rfl ?_ | refine perm_pick 2 rfl ?_ | refine perm_pick 3 rfl ?_ | refine perm_pick 4 rfl ?_ | refine perm_pick 5 rfl ?_ | refine perm_pick 6 rfl ?_ | refine perm_pick 7 rfl ?_ | refine perm_pick 8 rfl ?_ | refine perm_pick 9 rfl ?_ | refine perm_pick 10 rfl ?_ | refine perm_pick 11 rfl ?_))), (hA.sub (by (repeat (first | exact trivial | refine ⟨rfl, ?_⟩))))⟩
    clear hA hH hST
    rintro a w ⟨bE, oT, hH, hA⟩
    repeat' (first | (first | (refine GT ?_ ?_ <;> intro hg <;> clear hA a <;> intro a hA <;> (first | exact FA | replace hg := of_decide_eq_true hg | replace hg := of_decide_eq_false hg | skip)) | (refine QT ?_; clear hA a; intro a hA) | (first | (refine BT ?_; clear hA hH; rintro _ w ⟨bN, rfl, hH⟩ a hA) | (refine LT ?_; clear hA hH; rintro _ w ⟨oN, rfl, hH⟩ a hA) | (refine AT ?_; clear hA; rintro _ w ⟨oN, cN, rfl, hH2⟩ a hA; clear hH; have hH := (hH2 _ (by (repeat constructor))).tail; clear hH2) | (refine S0T ?_; clear hH; rintro _ w hH) )) | ((first | refine CT ?_ | (refine DT ?_ ?_ <;> intro hc <;> try (exfalso; omega))) <;> repeat' refine CT ?_) | (first | (refine DSK ?_; clear hA a; intro a hA) | (first | (refine DLT ?_; clear hA hH; rintro _ w ⟨oN, rfl, hH⟩; refine ⟨STT, ?_⟩; intro a hA) | (refine DAT ?_; clear hA; rintro _ w ⟨oN, cN, rfl, hH2⟩; clear hH; have hH := (hH2 _ (by (repeat constructor))).tail; clear hH2; refine ⟨STT, ?_⟩; intro a hA))) )
    · exact rt1 (.inl rfl) rfl hA rfl ⟨_, rfl, hH.kp, fun h => by cases h⟩
    have hne : 0 < f.bs.l.length := by omega
    have hspT : Sp oT f.bs.l.length := hH.own_sp (T := 71) (.tail _ (.tail _ (.head _)))
    (refine st_op hA rfl rfl (by decide) (op_makeMapK hH) ?_; clear hA hH; rintro _ w ⟨b0, rfl, hH⟩ a hA)
    repeat' (first | (first | (refine GT ?_ ?_ <;> intro hg <;> clear hA a <;> intro a hA <;> (first | exact FA | replace hg := of_decide_eq_true hg | replace hg := of_decide_eq_false hg | skip)) | ((first | apply st_ex hA hH rfl rfl (by decide) | apply dr_ex hA rfl rfl rfl (by decide) | apply dr_exp hA rfl rfl rfl (by decide) | apply dr_ex3 hA hH rfl rfl rfl (by decide)); (first | (apply ex_indexAddr; rfl; rfl; decide; omega; exact hspT)); clear hA a; intro a hA) | (refine QT ?_; clear hA a; intro a hA) | (first | (refine BT ?_; clear hA hH; rintro _ w ⟨bN, rfl, hH⟩ a hA) | (refine LT ?_; clear hA hH; rintro _ w ⟨oN, rfl, hH⟩ a hA) | (refine AT ?_; clear hA; rintro _ w ⟨oN, cN, rfl, hH2⟩ a hA; clear hH; have hH := (hH2 _ (by (repeat constructor))).tail; clear hH2) | (refine S0T ?_; clear hH; rintro _ w hH) | (apply st_op0 hA rfl rfl; apply op_set1 (enc := encO) (y0 := some (b0, [])); rfl; rfl; rfl; rfl; exact encO_len; exact hH; (repeat constructor); (rw [List.length_replicate]; exact hne); clear hH; rintro _ w hH))) | ((first | refine CT ?_ | (refine DT ?_ ?_ <;> intro hc <;> try (exfalso; omega))) <;> repeat' refine CT ?_) | (first | (refine DSK ?_; clear hA a; intro a hA) | (first | (refine DLT ?_; clear hA hH; rintro _ w ⟨oN, rfl, hH⟩; refine ⟨STT, ?_⟩; intro a hA) | (refine DAT ?_; clear hA; rintro _ w ⟨oN, cN, rfl, hH2⟩; clear hH; have hH := (hH2 _ (by (repeat constructor))).tail; clear hH2; refine ⟨STT, ?_⟩; intro a hA))) )
    obtain ⟨tc0, htc0⟩ : ∃ x, x = (List.replicate f.bs.l.length (none : Option (Nat × List Int))).set 0 (some (b0, [])) := ⟨_, rfl⟩
    have htz : Int.toNat 0 * 1 = 0 := rfl
    rw [htz, ← htc0] at hH
    have hl0 : 0 < ((List.replicate f.bs.l.length (none : Option (Nat × List Int))).map sko).length := by rw [List.length_map, List.length_replicate]; exact hne
    have hH1 := (rep_skb hH f.bs.l.length).openAt (List.getElem?_eq_getElem hl0)
    clear hH
    have hH := ((hH1.tail).perm (H' := sk b0 [] :: all (((List.replicate f.bs.l.length (none : Option (Nat × List Int))).map sko).eraseIdx 0) :: cb bC 95 (encD g f oA cl.length cA p (some bE) oT f.bs.l.length f.bs.l.length) :: sk bE [] :: own 71 1 oT f.bs.l.length f.bs.l.length (flat encO tc0) :: cb b11 30 (encG f) :: own 3 1 oA cl.length cA (flat Fw.encI cl) :: cb b1 25 (encGs g) :: []) (by (repeat (first | exact List.Perm.refl _ | exact List.Perm.nil | refine perm_pick 0 rfl ?_ | refine perm_pick 1 rfl ?_ | refine perm_pick 2 rfl ?_ | refine perm_pick 3 rfl ?_ | refine perm_pick 4 rfl ?_ | refine perm_pick 5 rfl ?_ | refine perm_pick 6 rfl ?_ | refine perm_pick 7 rfl ?_ | refine perm_pick 8 rfl ?_ | refine perm_pick 9 rfl ?_ | refine perm_pick 10 rfl ?_ | refine perm_pick 11 rfl ?_)))).shutAt hl0
    clear hH1
    rw [sko_sets, ← htc0, encD_C] at hH
    have hinv := linv_0 g f b0 p hp0 hp1 hne
    rw [← htc0] at hinv
    clear htc0 hp0 hp1
    obtain ⟨c, hcE⟩ : ∃ x : Ck, x = ⟨g, f, oA, cl.length, cA, bE, oT, f.bs.l.length, f.bs.l.length⟩ := ⟨_, rfl⟩
    rw [← hcE] at hH
    have hp0' := hinv.size
    refine wp_lpk (S := Nat) (fun n a w => ∃ tc th p B, (n ≤ f.bs.l.length ∧ LInv g f n th p B ∧ tc.length = th.length ∧ ∀ m, n ≤ m → tc[m]? = th[m]?) ∧ HS w0 noM [cb bC 95 (encC c p), sk bE (evs f n), own 71 1 oT f.bs.l.length f.bs.l.length (flat encO tc), all (th.map sko), cb b11 30 (encG f), own 3 1 oA cl.length cA (flat Fw.encI cl), cb b1 25 (encGs g)] w ∧
        Sl 111 [(102, .int .i64 n), (101, .int .i64 f.bs.l.length), (100, .slice f.bs.o f.bs.l.length f.bs.c), (70, .int .i64 i), (69, .int .i64 g.fs.l.length), (68, .slice g.fs.o g.fs.l.length g.fs.c), (7, .pointer (some (bat bC 0))), (2, .bool false), (1, .pointer (some (bat b1 0)))] a) (fun n => f.bs.l.length - n)
      (fun a w => ∃ p, (GOk g f ∧ 0 ≤ p ∧ p ≤ 65536) ∧ HS w0 noM [cb bC 95 (encC c p), own 3 1 oA cl.length cA (flat Fw.encI cl), cb b1 25 (encGs g)] w ∧
        Sl 111 [(70, .int .i64 i), (69, .int .i64 g.fs.l.length), (68, .slice g.fs.o g.fs.l.length g.fs.c), (7, .pointer (some (bat bC 0))), (2, .bool false), (1, .pointer (some (bat b1 0)))] a) 0
      ⟨tc0, tc0, p, _, ⟨Nat.zero_le _, hinv, rfl, fun m _ => rfl⟩, hH.perm (by (repeat (first | exact List.Perm.refl _ | exact List.Perm.nil | refine perm_pick 0 rfl ?_ | refine perm_pick 1 rfl ?_ | refine perm_pick 2 rfl ?_ | refine perm_pick 3 rfl ?_ | refine perm_pick 4 rfl ?_ | refine perm_pick 5 rfl ?_ | refine perm_pick 6 rfl ?_ | refine perm_pick 7 rfl ?_ | refine perm_pick 8 rfl ?_ | refine perm_pick 9 rfl ?_ | refine perm_pick 10 rfl ?_ | refine perm_pick 11 rfl ?_))), (hA.sub (by (repeat (first | exact trivial | refine ⟨rfl, ?_⟩))))⟩ ?_ ?_
    · clear hA hH hinv hp0' hl0
      rintro n a w ⟨tc, th, p, B, ⟨hn, hinv, htl, hag⟩, hH, hA⟩
      have hsz := hinv.size
      have htp := hinv.top
      by_cases hltn : n < f.bs.l.length
      rotate_left
      · obtain rfl : n = f.bs.l.length := by omega
        repeat' (first | (first | (refine GT ?_ ?_ <;> intro hg <;> clear hA a <;> intro a hA <;> (first | exact FA | replace hg := of_decide_eq_true hg | replace hg := of_decide_eq_false hg | skip)) | (refine QT ?_; clear hA a; intro a hA) | (first | (refine BT ?_; clear hA hH; rintro _ w ⟨bN, rfl, hH⟩ a hA) | (refine LT ?_; clear hA hH; rintro _ w ⟨oN, rfl, hH⟩ a hA) | (refine AT ?_; clear hA; rintro _ w ⟨oN, cN, rfl, hH2⟩ a hA; clear hH; have hH := (hH2 _ (by (repeat constructor))).tail; clear hH2) | (refine S0T ?_; clear hH; rintro _ w hH) )) | ((first | refine CT ?_ | (refine DT ?_ ?_ <;> intro hc <;> try (exfalso; omega))) <;> repeat' refine CT ?_) | (first | (refine DSK ?_; clear hA a; intro a hA) | (first | (refine DLT ?_; clear hA hH; rintro _ w ⟨oN, rfl, hH⟩; refine ⟨STT, ?_⟩; intro a hA) | (refine DAT ?_; clear hA; rintro _ w ⟨oN, cN, rfl, hH2⟩; clear hH; have hH := (hH2 _ (by (repeat constructor))).tail; clear hH2; refine ⟨STT, ?_⟩; intro a hA))) )
        exact ⟨p, ⟨linv_end hinv hne, by omega, htp⟩, ((hH.rm 1).rm 1).rm 1 |>.rm 1, (hA.sub (by (repeat (first | exact trivial | refine ⟨rfl, ?_⟩))))⟩
      obtain ⟨bl, hbl⟩ : ∃ bl, f.bs.l[n]? = some bl := ⟨_, List.getElem?_eq_getElem hltn⟩
      repeat' (first | (first | (refine GT ?_ ?_ <;> intro hg <;> clear hA a <;> intro a hA <;> (first | exact FA | replace hg := of_decide_eq_true hg | replace hg := of_decide_eq_false hg | skip)) | (refine QT ?_; clear hA a; intro a hA) | (first | (refine BT ?_; clear hA hH; rintro _ w ⟨bN, rfl, hH⟩ a hA) | (refine LT ?_; clear hA hH; rintro _ w ⟨oN, rfl, hH⟩ a hA) | (refine AT ?_; clear hA; rintro _ w ⟨oN, cN, rfl, hH2⟩ a hA; clear hH; have hH := (hH2 _ (by (repeat constructor))).tail; clear hH2) | (refine S0T ?_; clear hH; rintro _ w hH) )) | ((first | refine CT ?_ | (refine DT ?_ ?_ <;> intro hc <;> try (exfalso; omega))) <;> repeat' refine CT ?_) | (first | (refine DSK ?_; clear hA a; intro a hA) | (first | (refine DLT ?_; clear hA hH; rintro _ w ⟨oN, rfl, hH⟩; refine ⟨STT, ?_⟩; intro a hA) | (refine DAT ?_; clear hA; rintro _ w ⟨oN, cN, rfl, hH2⟩; clear hH; have hH := (hH2 _ (by (repeat constructor))).tail; clear hH2; refine ⟨STT, ?_⟩; intro a hA))) )
      have hcf : c.f = f := by rw [hcE]
      have hcg : c.g = g := by rw [hcE]
      have hbs2 := block_spec w0 w [cb b11 30 (encG f), own 3 1 oA cl.length cA (flat Fw.encI cl), cb b1 25 (encGs g)] c bC n p (evs f n) cl tc th bl (by subst hcE; exact hH) (by subst hcE; exact .tail _ (.head _)) (by subst hcE; rfl) (by omega) (by rw [hcf]; exact hRf) (by rw [hcf]; exact hbl) (hto bl (List.mem_of_getElem? hbl)) (by subst hcE; exact hinv.len.symm) htl (by rw [hcf]; exact hinv.len) hag (by omega) htp hinv.ev
      (refine st_op hA rfl rfl (by decide) (op_call rfl rfl rfl hbs2) ?_; clear hA hH hbs2)
      rintro _ w (⟨rfl, hH⟩ | ⟨rfl, k0, tc', th', p', hi0, rfl, hblk, hev, hpa, hpb, hthr, htcl, hag', hH⟩) a hA
      · repeat' (first | (first | (refine GT ?_ ?_ <;> intro hg <;> clear hA a <;> intro a hA <;> (first | exact FA | replace hg := of_decide_eq_true hg | replace hg := of_decide_eq_false hg | skip)) | (refine QT ?_; clear hA a; intro a hA) | (first | (refine BT ?_; clear hA hH; rintro _ w ⟨bN, rfl, hH⟩ a hA) | (refine LT ?_; clear hA hH; rintro _ w ⟨oN, rfl, hH⟩ a hA) | (refine AT ?_; clear hA; rintro _ w ⟨oN, cN, rfl, hH2⟩ a hA; clear hH; have hH := (hH2 _ (by (repeat constructor))).tail; clear hH2) | (refine S0T ?_; clear hH; rintro _ w hH) )) | ((first | refine CT ?_ | (refine DT ?_ ?_ <;> intro hc <;> try (exfalso; omega))) <;> repeat' refine CT ?_) | (first | (refine DSK ?_; clear hA a; intro a hA) | (first | (refine DLT ?_; clear hA hH; rintro _ w ⟨oN, rfl, hH⟩; refine ⟨STT, ?_⟩; intro a hA) | (refine DAT ?_; clear hA; rintro _ w ⟨oN, cN, rfl, hH2⟩; clear hH; have hH := (hH2 _ (by (repeat constructor))).tail; clear hH2; refine ⟨STT, ?_⟩; intro a hA))) )
        exact rt1 (.inl rfl) rfl hA rfl ⟨_, rfl, hH.kp, fun h => by cases h⟩
      rw [hcf, hcg] at hblk
      have hinv2 := linv_next (B' := fun m => if m = n then setA th n else B m) (fun m hm => if_neg hm) (if_pos rfl) hinv hbl hi0 hblk hev hpa hpb hthr
      repeat' (first | (first | (refine GT ?_ ?_ <;> intro hg <;> clear hA a <;> intro a hA <;> (first | exact FA | replace hg := of_decide_eq_true hg | replace hg := of_decide_eq_false hg | skip)) | (refine QT ?_; clear hA a; intro a hA) | (first | (refine BT ?_; clear hA hH; rintro _ w ⟨bN, rfl, hH⟩ a hA) | (refine LT ?_; clear hA hH; rintro _ w ⟨oN, rfl, hH⟩ a hA) | (refine AT ?_; clear hA; rintro _ w ⟨oN, cN, rfl, hH2⟩ a hA; clear hH; have hH := (hH2 _ (by (repeat constructor))).tail; clear hH2) | (refine S0T ?_; clear hH; rintro _ w hH) )) | ((first | refine CT ?_ | (refine DT ?_ ?_ <;> intro hc <;> try (exfalso; omega))) <;> repeat' refine CT ?_) | (first | (refine DSK ?_; clear hA a; intro a hA) | (first | (refine DLT ?_; clear hA hH; rintro _ w ⟨oN, rfl, hH⟩; refine ⟨STT, ?_⟩; intro a hA) | (refine DAT ?_; clear hA; rintro _ w ⟨oN, cN, rfl, hH2⟩; clear hH; have hH := (hH2 _ (by (repeat constructor))).tail; clear hH2; refine ⟨STT, ?_⟩; intro a hA))) )
      have e5 : c.bE = bE := by rw [hcE]
      have e6 : c.oT = oT := by rw [hcE]
      have e7 : c.nT = f.bs.l.length := by rw [hcE]
      have e8 : c.cT = f.bs.l.length := by rw [hcE]
      rw [e5, e6, e7, e8, ← evs_next hbl] at hH
      exact ⟨n + 1, ⟨tc', th', p', _, ⟨hltn, hinv2, by rw [htcl, htl, hinv2.len, hinv.len], fun m hm => hag' m (by omega)⟩, hH, (hA.sub (by (repeat (first | exact trivial | refine ⟨rfl, ?_⟩))))⟩, by omega⟩
    clear hA hH hinv hp0'
    rintro a w ⟨p', ⟨hg, hp0, hp1⟩, hH, hA⟩
    subst hcE
    rw [← encD_C] at hH
    repeat' (first | (first | (refine GT ?_ ?_ <;> intro hg <;> clear hA a <;> intro a hA <;> (first | exact FA | replace hg := of_decide_eq_true hg | replace hg := of_decide_eq_false hg | skip)) | (refine QT ?_; clear hA a; intro a hA) | (first | (refine BT ?_; clear hA hH; rintro _ w ⟨bN, rfl, hH⟩ a hA) | (refine LT ?_; clear hA hH; rintro _ w ⟨oN, rfl, hH⟩ a hA) | (refine AT ?_; clear hA; rintro _ w ⟨oN, cN, rfl, hH2⟩ a hA; clear hH; have hH := (hH2 _ (by (repeat constructor))).tail; clear hH2) | (refine S0T ?_; clear hH; rintro _ w hH) )) | ((first | refine CT ?_ | (refine DT ?_ ?_ <;> intro hc <;> try (exfalso; omega))) <;> repeat' refine CT ?_) | (first | (refine DSK ?_; clear hA a; intro a hA) | (first | (refine DLT ?_; clear hA hH; rintro _ w ⟨oN, rfl, hH⟩; refine ⟨STT, ?_⟩; intro a hA) | (refine DAT ?_; clear hA; rintro _ w ⟨oN, cN, rfl, hH2⟩; clear hH; have hH := (hH2 _ (by (repeat constructor))).tail; clear hH2; refine ⟨STT, ?_⟩; intro a hA))) )
    exact ⟨i + 1, ⟨f, some bE, oT, _, _, p', ⟨hlt, hp0, hp1, fun k f' hk hlt2 => (by
      by_cases hki : k = i
      · subst hki
        rw [hf] at hk
        cases hk
        exact hg
      · exact hok k f' hk (by omega))⟩, hH, (hA.sub (by (repeat (first | exact trivial | refine ⟨rfl, ?_⟩))))⟩, by omega⟩
  clear hA hH
  rintro a w ⟨hall, hH, hA⟩
  repeat' (first | (first | (refine GT ?_ ?_ <;> intro hg <;> clear hA a <;> intro a hA <;> (first | exact FA | replace hg := of_decide_eq_true hg | replace hg := of_decide_eq_false hg | skip)) | (refine QT ?_; clear hA a; intro a hA) | (first | (refine BT ?_; clear hA hH; rintro _ w ⟨bN, rfl, hH⟩ a hA) | (refine LT ?_; clear hA hH; rintro _ w ⟨oN, rfl, hH⟩ a hA) | (refine AT ?_; clear hA; rintro _ w ⟨oN, cN, rfl, hH2⟩ a hA; clear hH; have hH := (hH2 _ (by (repeat constructor))).tail; clear hH2) | (refine S0T ?_; clear hH; rintro _ w hH) )) | ((first | refine CT ?_ | (refine DT ?_ ?_ <;> intro hc <;> try (exfalso; omega))) <;> repeat' refine CT ?_) | (first | (refine DSK ?_; clear hA a; intro a hA) | (first | (refine DLT ?_; clear hA hH; rintro _ w ⟨oN, rfl, hH⟩; refine ⟨STT, ?_⟩; intro a hA) | (refine DAT ?_; clear hA; rintro _ w ⟨oN, cN, rfl, hH2⟩; clear hH; have hH := (hH2 _ (by (repeat constructor))).tail; clear hH2; refine ⟨STT, ?_⟩; intro a hA))) )
  exact rt1 (.inl rfl) rfl hA rfl ⟨_, rfl, hH.kp, fun _ => hall⟩
end Go.Proofs.Ytjfanjcoppeeaaa
namespace Go.Proofs.Ytjfanjcoppeeaaa
open Go Go.Fw
set_option linter.unusedVariables false
set_option maxRecDepth 10000 attribute [local irreducible] Code.wp wpList Calls Ex Op1 sat bat blk cb own Go.Fw.mp Go.Fw.mpO Go.Fw.mpI Go.Fw.mpE Go.Fw.itr HS Rd Ret wkD Hp Cl Cls Exit.then Exit.inBlock Exit.noGoto bodyPost Go.Fw.flat wk2 Go.Fw.all Go.Fw.owns wpOp
attribute [local irreducible] sk mpK srt sko mvO entK geS

set_option maxHeartbeats 16000000 in
theorem Parts_spec (w0 : World) (g : Grs) (m : Int) (hR : RdGs w0 g) : Ret Try.prog 17 #[.agg (encGs g).toArray, .int .i64 m] w0 (fun v w => ∃ n, v = .int .i64 n ∧ Kp w0 noM w) := by
  have hH : HS w0 noM [] w0 := HS.init w0 noM
  have hle := hR.1.le
  have hspF : Sp g.fs.o g.fs.l.length := hR.1.1.sp (sz := 2) (flat_length encG_len _) (by omega)
  (refine enter (N := 107) Try.func17 rfl Try.ntmps17 rfl ?_; intro a hA; dsimp only [sl0, Nat.reduceAdd] at hA)
  repeat' (first | (first | (refine GT ?_ ?_ <;> intro hg <;> clear hA a <;> intro a hA <;> (first | exact FA | replace hg := of_decide_eq_true hg | replace hg := of_decide_eq_false hg | skip)) | (refine QT ?_; clear hA a; intro a hA) | (first | (refine BT ?_; clear hA hH; rintro _ w ⟨bN, rfl, hH⟩ a hA) | (refine LT ?_; clear hA hH; rintro _ w ⟨oN, rfl, hH⟩ a hA) | (refine AT ?_; clear hA; rintro _ w ⟨oN, cN, rfl, hH2⟩ a hA; clear hH; have hH := (hH2 _ (by (repeat constructor))).tail; clear hH2) | (refine S0T ?_; clear hH; rintro _ w hH) )) | ((first | refine CT ?_ | (refine DT ?_ ?_ <;> intro hc <;> try (exfalso; omega))) <;> repeat' refine CT ?_) | (first | (refine DSK ?_; clear hA a; intro a hA) | (first | (refine DLT ?_; clear hA hH; rintro _ w ⟨oN, rfl, hH⟩; refine ⟨STT, ?_⟩; intro a hA) | (refine DAT ?_; clear hA; rintro _ w ⟨oN, cN, rfl, hH2⟩; clear hH; have hH := (hH2 _ (by (repeat constructor))).tail; clear hH2; refine ⟨STT, ?_⟩; intro a hA))) )
  obtain ⟨b1, hb1⟩ : ∃ x, x = bN := ⟨_, rfl⟩
  rw [← hb1] at hA hH
  clear hb1 bN
  refine wp_lpk (S := Nat) (fun i a w => ∃ n, i ≤ g.fs.l.length ∧ HS w0 noM [cb b1 25 (encGs g)] w ∧ Sl 107 [(6, .int .i64 i), (5, .int .i64 n), (2, .pointer (some (bat b1 0))), (1, .int .i64 m)] a) (fun i => g.fs.l.length - i)
    (fun a w => ∃ n, HS w0 noM [] w ∧ Sl 107 [(5, .int .i64 n)] a) 0 ⟨0, Nat.zero_le _, hH, (hA.sub (by (repeat (first | exact trivial | refine ⟨rfl, ?_⟩))))⟩ ?_ ?_
  · clear hA hH
    rintro i a w ⟨n, hi, hH, hA⟩
    by_cases hlt : i < g.fs.l.length
    rotate_left
    · repeat' (first | (first | (refine GT ?_ ?_ <;> intro hg <;> clear hA a <;> intro a hA <;> (first | exact FA | replace hg := of_decide_eq_true hg | replace hg := of_decide_eq_false hg | skip)) | (refine QT ?_; clear hA a; intro a hA) | (first | (refine BT ?_; clear hA hH; rintro _ w ⟨bN, rfl, hH⟩ a hA) | (refine LT ?_; clear hA hH; rintro _ w ⟨oN, rfl, hH⟩ a hA) | (refine AT ?_; clear hA; rintro _ w ⟨oN, cN, rfl, hH2⟩ a hA; clear hH; have hH := (hH2 _ (by (repeat constructor))).tail; clear hH2) | (refine S0T ?_; clear hH; rintro _ w hH) )) | ((first | refine CT ?_ | (refine DT ?_ ?_ <;> intro hc <;> try (exfalso; omega))) <;> repeat' refine CT ?_) | (first | (refine DSK ?_; clear hA a; intro a hA) | (first | (refine DLT ?_; clear hA hH; rintro _ w ⟨oN, rfl, hH⟩; refine ⟨STT, ?_⟩; intro a hA) | (refine DAT ?_; clear hA; rintro _ w ⟨oN, cN, rfl, hH2⟩; clear hH; have hH := (hH2 _ (by (repeat constructor))).tail; clear hH2; refine ⟨STT, ?_⟩; intro a hA))) )
      all_goals exact ⟨_, hH.tail, (hA.sub (by (repeat (first | exact trivial | refine ⟨rfl, ?_⟩))))⟩
    obtain ⟨f, hf⟩ : ∃ x, g.fs.l[i]? = some x := ⟨_, List.getElem?_eq_getElem hlt⟩
    have hfm := List.mem_of_getElem? hf
    have hRf := hR.2.1 f hfm
    have hlf := hRf.1.le
    have hspB : Sp f.bs.o f.bs.l.length := hRf.1.1.sp (sz := 6) (flat_length encBl_len _) (by omega)
    have hvf : (flat encG g.fs.l)[i * 2 + 1]? = some (.slice f.bs.o f.bs.l.length f.bs.c) := flat_get (off := 1) encG_len hf rfl
    repeat' (first | (first | (refine GT ?_ ?_ <;> intro hg <;> clear hA a <;> intro a hA <;> (first | exact FA | replace hg := of_decide_eq_true hg | replace hg := of_decide_eq_false hg | skip)) | (refine QT ?_; clear hA a; intro a hA) | (first | (refine BT ?_; clear hA hH; rintro _ w ⟨bN, rfl, hH⟩ a hA) | (refine LT ?_; clear hA hH; rintro _ w ⟨oN, rfl, hH⟩ a hA) | (refine AT ?_; clear hA; rintro _ w ⟨oN, cN, rfl, hH2⟩ a hA; clear hH; have hH := (hH2 _ (by (repeat constructor))).tail; clear hH2) | (refine S0T ?_; clear hH; rintro _ w hH) )) | ((first | refine CT ?_ | (refine DT ?_ ?_ <;> intro hc <;> try (exfalso; omega))) <;> repeat' refine CT ?_) | (first | (refine DSK ?_; clear hA a; intro a hA) | (first | (refine DLT ?_; clear hA hH; rintro _ w ⟨oN, rfl, hH⟩; refine ⟨STT, ?_⟩; intro a hA) | (refine DAT ?_; clear hA; rintro _ w ⟨oN, cN, rfl, hH2⟩; clear hH; have hH := (hH2 _ (by (repeat constructor))).tail; clear hH2; refine ⟨STT, ?_⟩; intro a hA))) )
    rotate_left
    · exact ⟨_, hH.tail, (hA.sub (by (repeat (first | exact trivial | refine ⟨rfl, ?_⟩))))⟩
    refine wp_lpk (S := Nat) (fun k a w => ∃ n, k ≤ f.bs.l.length ∧ HS w0 noM [cb b1 25 (encGs g)] w ∧ Sl 107 [(7, .int .i64 k), (6, .int .i64 i), (5, .int .i64 n), (2, .pointer (some (bat b1 0))), (1, .int .i64 m)] a) (fun k => f.bs.l.length - k)
      (fun a w => ∃ n, HS w0 noM [cb b1 25 (encGs g)] w ∧ Sl 107 [(6, .int .i64 i), (5, .int .i64 n), (2, .pointer (some (bat b1 0))), (1, .int .i64 m)] a) 0 ⟨n, Nat.zero_le _, hH, (hA.sub (by (repeat (first | exact trivial | refine ⟨rfl, ?_⟩))))⟩ ?_ ?_
    · clear hA hH
      rintro k a w ⟨n, hk, hH, hA⟩
      by_cases hltk : k < f.bs.l.length
      rotate_left
      · repeat' (first | (first | (refine GT ?_ ?_ <;> intro hg <;> clear hA a <;> intro a hA <;> (first | exact FA | replace hg := of_decide_eq_true hg | replace hg := of_decide_eq_false hg | skip)) | ((first | apply st_ex hA hH rfl rfl (by decide) | apply dr_ex hA rfl rfl rfl (by decide) | apply dr_exp hA rfl rfl rfl (by decide) | apply dr_ex3 hA hH rfl rfl rfl (by decide)); (first | (apply ex_load; rfl; exact cl_rd hR.1.1 id hvf)); clear hA a; intro a hA) | (refine QT ?_; clear hA a; intro a hA) | (first | (refine BT ?_; clear hA hH; rintro _ w ⟨bN, rfl, hH⟩ a hA) | (refine LT ?_; clear hA hH; rintro _ w ⟨oN, rfl, hH⟩ a hA) | (refine AT ?_; clear hA; rintro _ w ⟨oN, cN, rfl, hH2⟩ a hA; clear hH; have hH := (hH2 _ (by (repeat constructor))).tail; clear hH2) | (refine S0T ?_; clear hH; rintro _ w hH) )) | ((first | refine CT ?_ | (refine DT ?_ ?_ <;> intro hc <;> try (exfalso; omega))) <;> repeat' refine CT ?_) | (first | (refine DSK ?_; clear hA a; intro a hA) | (first | (refine DLT ?_; clear hA hH; rintro _ w ⟨oN, rfl, hH⟩; refine ⟨STT, ?_⟩; intro a hA) | (refine DAT ?_; clear hA; rintro _ w ⟨oN, cN, rfl, hH2⟩; clear hH; have hH := (hH2 _ (by (repeat constructor))).tail; clear hH2; refine ⟨STT, ?_⟩; intro a hA))) )
        all_goals exact ⟨_, hH, (hA.sub (by (repeat (first | exact trivial | refine ⟨rfl, ?_⟩))))⟩
      obtain ⟨bl, hbl⟩ : ∃ x, f.bs.l[k]? = some x := ⟨_, List.getElem?_eq_getElem hltk⟩
      have hbR := hRf.2 bl (List.mem_of_getElem? hbl)
      have hvb := flat_all encBl_len hbl
      have hli := hbR.2.1.le
      have hlt2 := hbR.2.2.2.2.2.1.le
      have hspI : Sp bl.is.o bl.is.l.length := hbR.2.1.1.sp (sz := 5) (flat_length encIn_len _) (by omega)
      have hspE : Sp bl.e.to.o bl.e.to.l.length := hbR.2.2.2.2.2.1.1.sp (sz := 2) (flat_length encEd_len _) (by omega)
      repeat' (first | (first | (refine GT ?_ ?_ <;> intro hg <;> clear hA a <;> intro a hA <;> (first | exact FA | replace hg := of_decide_eq_true hg | replace hg := of_decide_eq_false hg | skip)) | ((first | apply st_ex hA hH rfl rfl (by decide) | apply dr_ex hA rfl rfl rfl (by decide) | apply dr_exp hA rfl rfl rfl (by decide) | apply dr_ex3 hA hH rfl rfl rfl (by decide)); (first | (apply ex_load; rfl; exact cl_rd hR.1.1 id hvf) | (apply ex_load_st (vs := encBl bl); rfl; rfl; exact cls_rd hRf.1.1 id hvb) | (apply ex_addW; rfl; rfl)); clear hA a; intro a hA) | (refine QT ?_; clear hA a; intro a hA) | (first | (refine BT ?_; clear hA hH; rintro _ w ⟨bN, rfl, hH⟩ a hA) | (refine LT ?_; clear hA hH; rintro _ w ⟨oN, rfl, hH⟩ a hA) | (refine AT ?_; clear hA; rintro _ w ⟨oN, cN, rfl, hH2⟩ a hA; clear hH; have hH := (hH2 _ (by (repeat constructor))).tail; clear hH2) | (refine S0T ?_; clear hH; rintro _ w hH) | (apply st_op0 hA rfl rfl; apply op_store_agg (vs := encBl bl); rfl; rfl; exact hH; (repeat constructor); (repeat rfl); clear hH; rintro _ w hH))) | ((first | refine CT ?_ | (refine DT ?_ ?_ <;> intro hc <;> try (exfalso; omega))) <;> repeat' refine CT ?_) | (first | (refine DSK ?_; clear hA a; intro a hA) | (first | (refine DLT ?_; clear hA hH; rintro _ w ⟨oN, rfl, hH⟩; refine ⟨STT, ?_⟩; intro a hA) | (refine DAT ?_; clear hA; rintro _ w ⟨oN, cN, rfl, hH2⟩; clear hH; have hH := (hH2 _ (by (repeat constructor))).tail; clear hH2; refine ⟨STT, ?_⟩; intro a hA))) )
      rotate_left
      · exact ⟨_, hH, (hA.sub (by (repeat (first | exact trivial | refine ⟨rfl, ?_⟩))))⟩
      obtain ⟨b8, hb8⟩ : ∃ x, x = bN := ⟨_, rfl⟩
      rw [← hb8] at hA hH
      clear hb8 bN
      refine wp_lpk (S := Nat) (fun j a w => ∃ n, j ≤ bl.is.l.length ∧ HS w0 noM [cb b8 52 (encBl bl), cb b1 25 (encGs g)] w ∧ Sl 107 [(9, .int .i64 j), (8, .pointer (some (bat b8 0))), (7, .int .i64 k), (6, .int .i64 i), (5, .int .i64 n), (2, .pointer (some (bat b1 0))), (1, .int .i64 m)] a) (fun j => bl.is.l.length - j)
        (fun a w => ∃ n, HS w0 noM [cb b8 52 (encBl bl), cb b1 25 (encGs g)] w ∧ Sl 107 [(8, .pointer (some (bat b8 0))), (7, .int .i64 k), (6, .int .i64 i), (5, .int .i64 n), (2, .pointer (some (bat b1 0))), (1, .int .i64 m)] a) 0 ⟨_, Nat.zero_le _, hH, (hA.sub (by (repeat (first | exact trivial | refine ⟨rfl, ?_⟩))))⟩ ?_ ?_
      · clear hA hH
        rintro j a w ⟨n, hj, hH, hA⟩
        by_cases hltj : j < bl.is.l.length
        rotate_left
        · repeat' (first | (first | (refine GT ?_ ?_ <;> intro hg <;> clear hA a <;> intro a hA <;> (first | exact FA | replace hg := of_decide_eq_true hg | replace hg := of_decide_eq_false hg | skip)) | (refine QT ?_; clear hA a; intro a hA) | (first | (refine BT ?_; clear hA hH; rintro _ w ⟨bN, rfl, hH⟩ a hA) | (refine LT ?_; clear hA hH; rintro _ w ⟨oN, rfl, hH⟩ a hA) | (refine AT ?_; clear hA; rintro _ w ⟨oN, cN, rfl, hH2⟩ a hA; clear hH; have hH := (hH2 _ (by (repeat constructor))).tail; clear hH2) | (refine S0T ?_; clear hH; rintro _ w hH) )) | ((first | refine CT ?_ | (refine DT ?_ ?_ <;> intro hc <;> try (exfalso; omega))) <;> repeat' refine CT ?_) | (first | (refine DSK ?_; clear hA a; intro a hA) | (first | (refine DLT ?_; clear hA hH; rintro _ w ⟨oN, rfl, hH⟩; refine ⟨STT, ?_⟩; intro a hA) | (refine DAT ?_; clear hA; rintro _ w ⟨oN, cN, rfl, hH2⟩; clear hH; have hH := (hH2 _ (by (repeat constructor))).tail; clear hH2; refine ⟨STT, ?_⟩; intro a hA))) )
          all_goals exact ⟨_, hH, (hA.sub (by (repeat (first | exact trivial | refine ⟨rfl, ?_⟩))))⟩
        obtain ⟨ins, hins⟩ : ∃ x, bl.is.l[j]? = some x := ⟨_, List.getElem?_eq_getElem hltj⟩
        have hva : (flat encIn bl.is.l)[j * 5 + 1 + 3]? = some (.slice ins.r.a.o ins.r.a.l.length ins.r.a.c) := flat_get (off := 4) encIn_len hins rfl
        repeat' (first | (first | (refine GT ?_ ?_ <;> intro hg <;> clear hA a <;> intro a hA <;> (first | exact FA | replace hg := of_decide_eq_true hg | replace hg := of_decide_eq_false hg | skip)) | ((first | apply st_ex hA hH rfl rfl (by decide) | apply dr_ex hA rfl rfl rfl (by decide) | apply dr_exp hA rfl rfl rfl (by decide) | apply dr_ex3 hA hH rfl rfl rfl (by decide)); (first | (apply ex_load; rfl; exact cl_rd hbR.2.1.1 id hva) | (apply ex_succ; rfl; rfl; omega) | (apply ex_addW; rfl; rfl)); clear hA a; intro a hA) | (refine QT ?_; clear hA a; intro a hA) | (first | (refine BT ?_; clear hA hH; rintro _ w ⟨bN, rfl, hH⟩ a hA) | (refine LT ?_; clear hA hH; rintro _ w ⟨oN, rfl, hH⟩ a hA) | (refine AT ?_; clear hA; rintro _ w ⟨oN, cN, rfl, hH2⟩ a hA; clear hH; have hH := (hH2 _ (by (repeat constructor))).tail; clear hH2) | (refine S0T ?_; clear hH; rintro _ w hH) )) | ((first | refine CT ?_ | (refine DT ?_ ?_ <;> intro hc <;> try (exfalso; omega))) <;> repeat' refine CT ?_) | (first | (refine DSK ?_; clear hA a; intro a hA) | (first | (refine DLT ?_; clear hA hH; rintro _ w ⟨oN, rfl, hH⟩; refine ⟨STT, ?_⟩; intro a hA) | (refine DAT ?_; clear hA; rintro _ w ⟨oN, cN, rfl, hH2⟩; clear hH; have hH := (hH2 _ (by (repeat constructor))).tail; clear hH2; refine ⟨STT, ?_⟩; intro a hA))) )
        · exact ⟨j + 1, ⟨_, hltj, hH, (hA.sub (by (repeat (first | exact trivial | refine ⟨rfl, ?_⟩))))⟩, by omega⟩
        · exact ⟨_, hH, (hA.sub (by (repeat (first | exact trivial | refine ⟨rfl, ?_⟩))))⟩
      clear hA hH
      rintro a w ⟨n, hH, hA⟩
      repeat' (first | (first | (refine GT ?_ ?_ <;> intro hg <;> clear hA a <;> intro a hA <;> (first | exact FA | replace hg := of_decide_eq_true hg | replace hg := of_decide_eq_false hg | skip)) | (refine QT ?_; clear hA a; intro a hA) | (first | (refine BT ?_; clear hA hH; rintro _ w ⟨bN, rfl, hH⟩ a hA) | (refine LT ?_; clear hA hH; rintro _ w ⟨oN, rfl, hH⟩ a hA) | (refine AT ?_; clear hA; rintro _ w ⟨oN, cN, rfl, hH2⟩ a hA; clear hH; have hH := (hH2 _ (by (repeat constructor))).tail; clear hH2) | (refine S0T ?_; clear hH; rintro _ w hH) )) | ((first | refine CT ?_ | (refine DT ?_ ?_ <;> intro hc <;> try (exfalso; omega))) <;> repeat' refine CT ?_) | (first | (refine DSK ?_; clear hA a; intro a hA) | (first | (refine DLT ?_; clear hA hH; rintro _ w ⟨oN, rfl, hH⟩; refine ⟨STT, ?_⟩; intro a hA) | (refine DAT ?_; clear hA; rintro _ w ⟨oN, cN, rfl, hH2⟩; clear hH; have hH := (hH2 _ (by (repeat constructor))).tail; clear hH2; refine ⟨STT, ?_⟩; intro a hA))) )
      refine wp_lpk (S := Nat) (fun j a w => ∃ n, j ≤ bl.e.to.l.length ∧ HS w0 noM [cb b8 52 (encBl bl), cb b1 25 (encGs g)] w ∧ Sl 107 [(10, .int .i64 j), (8, .pointer (some (bat b8 0))), (7, .int .i64 k), (6, .int .i64 i), (5, .int .i64 n), (2, .pointer (some (bat b1 0))), (1, .int .i64 m)] a) (fun j => bl.e.to.l.length - j)
        (fun a w => ∃ n, HS w0 noM [cb b8 52 (encBl bl), cb b1 25 (encGs g)] w ∧ Sl 107 [(7, .int .i64 k), (6, .int .i64 i), (5, .int .i64 n), (2, .pointer (some (bat b1 0))), (1, .int .i64 m)] a) 0 ⟨_, Nat.zero_le _, hH, (hA.sub (by (repeat (first | exact trivial | refine ⟨rfl, ?_⟩))))⟩ ?_ ?_
      · clear hA hH
        rintro j a w ⟨n, hj, hH, hA⟩
        by_cases hltj : j < bl.e.to.l.length
        rotate_left
        · repeat' (first | (first | (refine GT ?_ ?_ <;> intro hg <;> clear hA a <;> intro a hA <;> (first | exact FA | replace hg := of_decide_eq_true hg | replace hg := of_decide_eq_false hg | skip)) | (refine QT ?_; clear hA a; intro a hA) | (first | (refine BT ?_; clear hA hH; rintro _ w ⟨bN, rfl, hH⟩ a hA) | (refine LT ?_; clear hA hH; rintro _ w ⟨oN, rfl, hH⟩ a hA) | (refine AT ?_; clear hA; rintro _ w ⟨oN, cN, rfl, hH2⟩ a hA; clear hH; have hH := (hH2 _ (by (repeat constructor))).tail; clear hH2) | (refine S0T ?_; clear hH; rintro _ w hH) )) | ((first | refine CT ?_ | (refine DT ?_ ?_ <;> intro hc <;> try (exfalso; omega))) <;> repeat' refine CT ?_) | (first | (refine DSK ?_; clear hA a; intro a hA) | (first | (refine DLT ?_; clear hA hH; rintro _ w ⟨oN, rfl, hH⟩; refine ⟨STT, ?_⟩; intro a hA) | (refine DAT ?_; clear hA; rintro _ w ⟨oN, cN, rfl, hH2⟩; clear hH; have hH := (hH2 _ (by (repeat constructor))).tail; clear hH2; refine ⟨STT, ?_⟩; intro a hA))) )
          all_goals exact ⟨_, hH, (hA.sub (by (repeat (first | exact trivial | refine ⟨rfl, ?_⟩))))⟩
        obtain ⟨t, ht⟩ : ∃ x, bl.e.to.l[j]? = some x := ⟨_, List.getElem?_eq_getElem hltj⟩
        have hva : (flat encEd bl.e.to.l)[j * 2 + 1]? = some (.slice t.a.o t.a.l.length t.a.c) := flat_get (off := 1) encEd_len ht rfl
        repeat' (first | (first | (refine GT ?_ ?_ <;> intro hg <;> clear hA a <;> intro a hA <;> (first | exact FA | replace hg := of_decide_eq_true hg | replace hg := of_decide_eq_false hg | skip)) | ((first | apply st_ex hA hH rfl rfl (by decide) | apply dr_ex hA rfl rfl rfl (by decide) | apply dr_exp hA rfl rfl rfl (by decide) | apply dr_ex3 hA hH rfl rfl rfl (by decide)); (first | (apply ex_load; rfl; exact cl_rd hbR.2.2.2.2.2.1.1 id hva) | (apply ex_succ; rfl; rfl; omega) | (apply ex_addW; rfl; rfl)); clear hA a; intro a hA) | (refine QT ?_; clear hA a; intro a hA) | (first | (refine BT ?_; clear hA hH; rintro _ w ⟨bN, rfl, hH⟩ a hA) | (refine LT ?_; clear hA hH; rintro _ w ⟨oN, rfl, hH⟩ a hA) | (refine AT ?_; clear hA; rintro _ w ⟨oN, cN, rfl, hH2⟩ a hA; clear hH; have hH := (hH2 _ (by (repeat constructor))).tail; clear hH2) | (refine S0T ?_; clear hH; rintro _ w hH) )) | ((first | refine CT ?_ | (refine DT ?_ ?_ <;> intro hc <;> try (exfalso; omega))) <;> repeat' refine CT ?_) | (first | (refine DSK ?_; clear hA a; intro a hA) | (first | (refine DLT ?_; clear hA hH; rintro _ w ⟨oN, rfl, hH⟩; refine ⟨STT, ?_⟩; intro a hA) | (refine DAT ?_; clear hA; rintro _ w ⟨oN, cN, rfl, hH2⟩; clear hH; have hH := (hH2 _ (by (repeat constructor))).tail; clear hH2; refine ⟨STT, ?_⟩; intro a hA))) )
        · exact ⟨j + 1, ⟨_, hltj, hH, (hA.sub (by (repeat (first | exact trivial | refine ⟨rfl, ?_⟩))))⟩, by omega⟩
        · exact ⟨_, hH, (hA.sub (by (repeat (first | exact trivial | refine ⟨rfl, ?_⟩))))⟩
      clear hA hH
      rintro a w ⟨n, hH, hA⟩
      repeat' (first | (first | (refine GT ?_ ?_ <;> intro hg <;> clear hA a <;> intro a hA <;> (first | exact FA | replace hg := of_decide_eq_true hg | replace hg := of_decide_eq_false hg | skip)) | (refine QT ?_; clear hA a; intro a hA) | (first | (refine BT ?_; clear hA hH; rintro _ w ⟨bN, rfl, hH⟩ a hA) | (refine LT ?_; clear hA hH; rintro _ w ⟨oN, rfl, hH⟩ a hA) | (refine AT ?_; clear hA; rintro _ w ⟨oN, cN, rfl, hH2⟩ a hA; clear hH; have hH := (hH2 _ (by (repeat constructor))).tail; clear hH2) | (refine S0T ?_; clear hH; rintro _ w hH) )) | ((first | refine CT ?_ | (refine DT ?_ ?_ <;> intro hc <;> try (exfalso; omega))) <;> repeat' refine CT ?_) | (first | (refine DSK ?_; clear hA a; intro a hA) | (first | (refine DLT ?_; clear hA hH; rintro _ w ⟨oN, rfl, hH⟩; refine ⟨STT, ?_⟩; intro a hA) | (refine DAT ?_; clear hA; rintro _ w ⟨oN, cN, rfl, hH2⟩; clear hH; have hH := (hH2 _ (by (repeat constructor))).tail; clear hH2; refine ⟨STT, ?_⟩; intro a hA))) )
      exact ⟨k + 1, ⟨_, hltk, hH.tail, (hA.sub (by (repeat (first | exact trivial | refine ⟨rfl, ?_⟩))))⟩, by omega⟩
    clear hA hH
    rintro a w ⟨n, hH, hA⟩
    repeat' (first | (first | (refine GT ?_ ?_ <;> intro hg <;> clear hA a <;> intro a hA <;> (first | exact FA | replace hg := of_decide_eq_true hg | replace hg := of_decide_eq_false hg | skip)) | (refine QT ?_; clear hA a; intro a hA) | (first | (refine BT ?_; clear hA hH; rintro _ w ⟨bN, rfl, hH⟩ a hA) | (refine LT ?_; clear hA hH; rintro _ w ⟨oN, rfl, hH⟩ a hA) | (refine AT ?_; clear hA; rintro _ w ⟨oN, cN, rfl, hH2⟩ a hA; clear hH; have hH := (hH2 _ (by (repeat constructor))).tail; clear hH2) | (refine S0T ?_; clear hH; rintro _ w hH) )) | ((first | refine CT ?_ | (refine DT ?_ ?_ <;> intro hc <;> try (exfalso; omega))) <;> repeat' refine CT ?_) | (first | (refine DSK ?_; clear hA a; intro a hA) | (first | (refine DLT ?_; clear hA hH; rintro _ w ⟨oN, rfl, hH⟩; refine ⟨STT, ?_⟩; intro a hA) | (refine DAT ?_; clear hA; rintro _ w ⟨oN, cN, rfl, hH2⟩; clear hH; have hH := (hH2 _ (by (repeat constructor))).tail; clear hH2; refine ⟨STT, ?_⟩; intro a hA))) )
    exact ⟨i + 1, ⟨_, hlt, hH, (hA.sub (by (repeat (first | exact trivial | refine ⟨rfl, ?_⟩))))⟩, by omega⟩
  clear hA hH
  rintro a w ⟨n, hH, hA⟩
  repeat' (first | (first | (refine GT ?_ ?_ <;> intro hg <;> clear hA a <;> intro a hA <;> (first | exact FA | replace hg := of_decide_eq_true hg | replace hg := of_decide_eq_false hg | skip)) | (refine QT ?_; clear hA a; intro a hA) | (first | (refine BT ?_; clear hA hH; rintro _ w ⟨bN, rfl, hH⟩ a hA) | (refine LT ?_; clear hA hH; rintro _ w ⟨oN, rfl, hH⟩ a hA) | (refine AT ?_; clear hA; rintro _ w ⟨oN, cN, rfl, hH2⟩ a hA; clear hH; have hH := (hH2 _ (by (repeat constructor))).tail; clear hH2) | (refine S0T ?_; clear hH; rintro _ w hH) )) | ((first | refine CT ?_ | (refine DT ?_ ?_ <;> intro hc <;> try (exfalso; omega))) <;> repeat' refine CT ?_) | (first | (refine DSK ?_; clear hA a; intro a hA) | (first | (refine DLT ?_; clear hA hH; rintro _ w ⟨oN, rfl, hH⟩; refine ⟨STT, ?_⟩; intro a hA) | (refine DAT ?_; clear hA; rintro _ w ⟨oN, cN, rfl, hH2⟩; clear hH; have hH := (hH2 _ (by (repeat constructor))).tail; clear hH2; refine ⟨STT, ?_⟩; intro a hA))) )
  exact rt1 (.inl rfl) rfl hA rfl ⟨_, rfl, hH.kp⟩
end Go.Proofs.Ytjfanjcoppeeaaa
