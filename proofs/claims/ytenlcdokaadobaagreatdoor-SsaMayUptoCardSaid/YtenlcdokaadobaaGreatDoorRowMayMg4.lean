/-
  The document's check of a program whose functions return a number. Conditions: none.
  The document's May of a program whose functions return a number, exactly. Conditions: none.
  Graphs that may be: what ssa.May's loop over blocks keeps, exactly. Conditions: none.
  The document's check of graphs: ways that avoid what binds a variable. Conditions: none.
  What graphs come to (plain): values, a step that calls nothing. Conditions: none.
  What graphs come to (plain): the machine, step by step. Conditions: none.
  Values whose type is told with them: made, asked for their type, held against nil; texts one behind the other. Conditions: none.
  What is made once and then only read (frozen); values, what is written, as they lie in memory. Conditions: none.
  Operations on numbers. Conditions: none.
-/
import Derived.Test.YtenlcdokaadobaaGreatDoorRowMayMg3
import Derived.Test.YtenlcdokaadobaaGreatDoorRowMayMg2
namespace Go.Proofs.YtenlcdokaadobaaGreatDoor
open Go Go.Fw
set_option linter.unusedVariables false
structure Lk where
  oP : Option Addr
  nP : Nat
  cP : Nat
  g : Grs
  oA : Option Addr
  nA : Nat
  cA : Nat
  caps : Int
  oE : Option Addr
  nE : Nat
  cE : Nat
def encLk (k : Lk) (p : Int) (bad : Bool) : List Value := [.slice k.oP k.nP k.cP, .slice k.g.ls.o k.g.ls.l.length k.g.ls.c, .slice k.g.ts.o k.g.ts.l.length k.g.ts.c, .slice k.g.xs.o k.g.xs.l.length k.g.xs.c, .slice k.g.ss.o k.g.ss.l.length k.g.ss.c,
  .slice k.oA k.nA k.cA, .int .i64 p, .int .i64 k.caps, .slice k.oE k.nE k.cE, .slice none 0 0, .bool bad]
set_option maxRecDepth 10000 attribute [local irreducible] Code.wp wpList Calls Ex Op1 sat bat blk cb own Go.Fw.mp Go.Fw.mpO Go.Fw.mpI Go.Fw.mpE Go.Fw.itr HS Rd Ret wkD Hp Cl Cls Exit.then Exit.inBlock Exit.noGoto bodyPost Go.Fw.flat wk2 Go.Fw.all Go.Fw.owns wpOp
attribute [local irreducible] sk mpK sko mvO entK geS idxF

set_option maxHeartbeats 8000000 in
theorem form0_spec (w0 : World) (o : Option Addr) : Ret Tryz.prog 105 #[.agg (encB o).toArray] w0 (fun r w' => r = .bool true ∧ Kp w0 noM w') := by
  have hH : HS w0 noM [] w0 := HS.init w0 noM
  (refine enter (N := 224) Tryz.func105 rfl Tryz.ntmps105 rfl ?_; intro a hA; dsimp only [sl0, Nat.reduceAdd] at hA)
  repeat' (first | (refine GT ?_ ?_ <;> intro hg <;> clear hA a <;> intro a hA <;> (first | exact FA | replace hg := of_decide_eq_true hg | replace hg := of_decide_eq_false hg | skip)) | (refine QT ?_; clear hA a; intro a hA) | (refine BT ?_; clear hA hH; rintro _ w ⟨bN, rfl, hH⟩ a hA) | (refine CT ?_ <;> repeat' refine CT ?_) | fail)
  exact rt1 (.inl rfl) rfl hA rfl ⟨rfl, hH.kp⟩
set_option maxHeartbeats 8000000 in
theorem atoms0_spec (w0 w : World) (H : List It) (c : Lk) (bK : Nat) (p : Int) (o oN : Option Addr) (nN cN : Nat) (hH : HS w0 noM (cb bK 163 (encLk c (p) false) :: H) w) (hr : Rd w0 o (encAt at0)) (hp0 : 0 ≤ p) (hp1 : p ≤ 60001) :
    Ret Tryz.prog 106 #[.pointer (some (bat bK 0)), .slice o 1 1, .slice oN nN cN] w (fun r w' => r = .tuple #[] ∧ HS w0 noM (cb bK 163 (encLk c (p + 1) false) :: H) w') := by
  have hsp : Sp o 1 := hr.sp (sz := 2) rfl (by omega)
  (refine enter (N := 90) Tryz.func106 rfl Tryz.ntmps106 rfl ?_; intro a hA; dsimp only [sl0, Nat.reduceAdd] at hA)
  repeat' (first | (refine QT ?_; clear hA a; intro a hA) | (refine CT ?_ <;> repeat' refine CT ?_) | fail)
  refine wp_lpk (S := Nat) (fun i a w => i ≤ 1 ∧ HS w0 noM (cb bK 163 (encLk c (p + (i : Int)) false) :: H) w ∧ Sl 90 [(6, .int .i64 i), (1, .slice o 1 1), (0, .pointer (some (bat bK 0)))] a) (fun i => 1 - i)
    (fun a w => HS w0 noM (cb bK 163 (encLk c (p + 1) false) :: H) w ∧ Sl 90 [] a) 0 ⟨by omega, (by rw [show p + ((0 : Nat) : Int) = p by omega]; exact hH), (hA.sub SBT)⟩ ?_ ?_
  · clear hA hH
    rintro i a w ⟨hi, hH, hA⟩
    by_cases hlt : i < 1
    rotate_left
    · obtain rfl : i = 1 := by omega
      repeat' (first | (refine GT ?_ ?_ <;> intro hg <;> clear hA a <;> intro a hA <;> (first | exact FA | replace hg := of_decide_eq_true hg | replace hg := of_decide_eq_false hg | skip)) | (refine QT ?_; clear hA a; intro a hA) | (refine CT ?_ <;> repeat' refine CT ?_) | fail)
      exact ⟨hH, (hA.sub SBT)⟩
    obtain rfl : i = 0 := by omega
    rw [show p + ((0 : Nat) : Int) = p by omega] at hH
    repeat' (first | (refine GT ?_ ?_ <;> intro hg <;> clear hA a <;> intro a hA <;> (first | exact FA | replace hg := of_decide_eq_true hg | replace hg := of_decide_eq_false hg | skip)) | (refine XT ?_; apply XE; (first | (apply ex_load_st (vs := encAt at0); rfl; rfl; exact cls_rd hr id (fun i v h => (by rw [Nat.zero_mul, Nat.zero_add]; exact h))) | (apply ex_indexAddr_nat; rfl; rfl; omega; exact hsp)); clear hA a; intro a hA) | (refine QT ?_; clear hA a; intro a hA) | (refine BT ?_; clear hA hH; rintro _ w ⟨bN, rfl, hH⟩ a hA) | (apply st_op0 hA rfl rfl; apply op_store_agg (vs := encAt at0); rfl; rfl; exact hH; (repeat constructor); (repeat rfl); clear hH; rintro _ w hH) | (apply st_op0 hA rfl rfl; apply op_store_fld (cs' := encLk c (p + 1) false); rfl; rfl; rfl; exact hH; (repeat constructor); clear hH; rintro _ w hH) | ((first | refine CT ?_ | (refine DT ?_ ?_ <;> intro hc <;> try (exfalso; omega))) <;> repeat' refine CT ?_) | fail)
    exact ⟨1, ⟨by omega, hH.tail, (hA.sub SBT)⟩, by omega⟩
  clear hA hH
  rintro a w ⟨hH, hA⟩
  repeat' (first | (refine QT ?_; clear hA a; intro a hA) | fail)
  exact rt0 (.inr rfl) rfl hA ⟨rfl, hH⟩
set_option maxHeartbeats 16000000 in
theorem body0_spec (w0 w : World) (H : List It) (c : Lk) (bK : Nat) (p : Int) (bad : Bool) (o oN : Option Addr) (nN cN : Nat) (hH : HS w0 noM (cb bK 163 (encLk c (p) bad) :: H) w) (hr : Rd w0 o (encAt at0)) (hp0 : 0 ≤ p) (hp1 : p ≤ 60000) :
    Ret Tryz.prog 66 #[.pointer (some (bat bK 0)), .agg (encB o).toArray, .slice oN nN cN, .slice none 0 0, .int .i64 1] w (fun r w' => r = .tuple #[] ∧ ∃ p', (p ≤ p' ∧ p' ≤ p + 2) ∧ HS w0 noM (cb bK 163 (encLk c (p') bad) :: H) w') := by
  (refine enter (N := 194) Tryz.func66 rfl Tryz.ntmps66 rfl ?_; intro a hA; dsimp only [sl0, Nat.reduceAdd] at hA)
  cases bad with
  | true =>
    repeat' (first | (refine GT ?_ ?_ <;> intro hg <;> clear hA a <;> intro a hA <;> (first | exact FA | replace hg := of_decide_eq_true hg | replace hg := of_decide_eq_false hg | skip)) | (refine QT ?_; clear hA a; intro a hA) | (refine BT ?_; clear hA hH; rintro _ w ⟨bN, rfl, hH⟩ a hA) | (apply st_op0 hA rfl rfl; apply op_store_fld (cs' := encLk c (p + 1) true); rfl; rfl; rfl; exact hH; (repeat constructor); clear hH; rintro _ w hH) | (refine CT ?_ <;> repeat' refine CT ?_) | fail)
    exact rt0 (.inl rfl) rfl hA ⟨rfl, p + 1, by omega, hH.tail⟩
  | false =>
  repeat' (first | (refine GT ?_ ?_ <;> intro hg <;> clear hA a <;> intro a hA <;> (first | exact FA | replace hg := of_decide_eq_true hg | replace hg := of_decide_eq_false hg | skip)) | (refine XT ?_; apply XE; (first | (apply ex_load_st (vs := encB o); rfl; rfl; exact cls_cb_all MEMT)); clear hA a; intro a hA) | (refine QT ?_; clear hA a; intro a hA) | (refine BT ?_; clear hA hH; rintro _ w ⟨bN, rfl, hH⟩ a hA) | (apply st_op0 hA rfl rfl; apply op_store_fld (cs' := encLk c (p + 1) false); rfl; rfl; rfl; exact hH; (repeat constructor); clear hH; rintro _ w hH) | (refine st_op hA rfl rfl (by decide) (op_call rfl rfl rfl (form0_spec _ o)) ?_; clear hA; rintro _ w ⟨rfl, hk⟩ a hA; replace hH := hH.keep hk; clear hk) | (refine CT ?_ <;> repeat' refine CT ?_) | fail)
  replace hH := hH.up 1 rfl
  dsimp only [List.eraseIdx_cons_succ, List.eraseIdx_cons_zero] at hH
  (refine st_op hA rfl rfl (by decide) (op_call rfl rfl rfl (atoms0_spec w0 _ _ c bK (p + 1) o oN nN cN hH hr (by omega) (by omega))) ?_; clear hA hH)
  rintro _ w ⟨rfl, hH⟩ a hA
  repeat' (first | (refine QT ?_; clear hA a; intro a hA) | (refine CT ?_ <;> repeat' refine CT ?_) | fail)
  refine wp_lpk (S := Unit) (fun _ a w => HS w0 noM (cb bK 163 (encLk c (p + 1 + 1) false) :: cb bN 70 (encB o) :: H) w ∧ Sl 194 [(11, .int .i64 0), (6, .pointer (some (bat bN 0)))] a) (fun _ => 0)
    (fun a w => HS w0 noM (cb bK 163 (encLk c (p + 1 + 1) false) :: cb bN 70 (encB o) :: H) w ∧ Sl 194 [] a) () ⟨hH, (hA.sub SBT)⟩ ?_ ?_
  · clear hA hH
    rintro _ a w ⟨hH, hA⟩
    repeat' (first | (refine QT ?_; clear hA a; intro a hA) | (refine CT ?_ <;> repeat' refine CT ?_) | fail)
    exact ⟨hH, (hA.sub SBT)⟩
  clear hA hH
  rintro a w ⟨hH, hA⟩
  repeat' (first | (refine QT ?_; clear hA a; intro a hA) | fail)
  exact rt0 (.inr rfl) rfl hA ⟨rfl, p + 1 + 1, by omega, hH.rm 1⟩
end Go.Proofs.YtenlcdokaadobaaGreatDoor
namespace Go.Proofs.YtenlcdokaadobaaGreatDoor
open Go Go.Fw
set_option linter.unusedVariables false
def encF2 (p : Option Addr × Int) : List Value := encF p.1 p.2
theorem encF2_len (p : Option Addr × Int) : (encF2 p).length = 12 := rfl
theorem eqS_comm (a b : ByteArray) : eqS a b = eqS b a := by
  unfold eqS
  rw [Bool.eq_iff_iff, beq_iff_eq, beq_iff_eq]
  exact eq_comm
theorem hasS_iff {l : List ByteArray} {s : ByteArray} : hasS l s ↔ ∃ k, k < l.length ∧ eqS (l.getD k default) s = true := by
  unfold hasS
  constructor
  · intro h
    refine Classical.byContradiction fun hc => ?_
    rw [idx_none (fun k hk => by
      cases he : eqS s (l.getD k default) with
      | false => rfl
      | true => exact absurd ⟨k, hk, by rw [eqS_comm]; exact he⟩ hc)] at h
    omega
  · rintro ⟨k, hk, he⟩
    refine Classical.byContradiction fun hc => ?_
    have hn : ∀ n, n ≤ l.length → ∀ j, j < n → eqS s (l.getD j default) = false := fun n => by
      induction n with
      | zero => exact fun _ j hj => absurd hj (Nat.not_lt_zero _)
      | succ n ih =>
        intro hn j hj
        have ih2 := ih (by omega)
        by_cases e : j = n
        · subst e
          cases h2 : eqS s (l.getD j default) with
          | false => rfl
          | true => exact absurd (by rw [idx_at ih2 (by omega) h2]; omega) hc
        · exact ih2 j (by omega)
    have := hn l.length (Nat.le_refl _) k hk
    rw [eqS_comm, he] at this
    cases this
theorem cap_at2 {l : List (Option Addr × Int)} {k : Nat} {p : Option Addr × Int} (h : l[k]? = some p) : (flat encF2 l)[k * 12 + 0]? = some (.int .i64 p.2) := flat_get (off := 0) encF2_len h rfl
theorem snd_at {l : List (Option Addr × Int)} {k : Nat} (h : k < l.length) : (flat encF2 l)[k * 12 + 0]? = some (.int .i64 ((l.map Prod.snd).getD k 0)) := by
  rw [cap_at2 (List.getElem?_eq_getElem h), List.getD_eq_getElem?_getD, List.getElem?_map, List.getElem?_eq_getElem h]
  rfl
theorem body_at {l : List (Option Addr × Int)} {k : Nat} {p : Option Addr × Int} (h : l[k]? = some p) (i : Nat) (v : Value) (hv : (encB p.1)[i]? = some v) : (flat encF2 l)[k * 12 + 1 + i]? = some v := by
  rw [Nat.add_assoc]
  refine flat_get (off := 1 + i) encF2_len h ?_
  rw [Nat.add_comm]
  exact hv
set_option maxRecDepth 10000 attribute [local irreducible] Code.wp wpList Calls Ex Op1 sat bat blk cb own Go.Fw.mp Go.Fw.mpO Go.Fw.mpI Go.Fw.mpE Go.Fw.itr HS Rd Ret wkD Hp Cl Cls Exit.then Exit.inBlock Exit.noGoto bodyPost Go.Fw.flat wk2 Go.Fw.all Go.Fw.owns wpOp
attribute [local irreducible] sk mpK sko mvO entK geS idxF

set_option maxHeartbeats 16000000 in
theorem refMay0_spec (w0 : World) (oF : Option Addr) (cF : Nat) (fs : List (Option Addr × Int)) (g : Grs) (hF : Rd w0 oF (flat encF2 fs)) (hr : ∀ p ∈ fs, Rd w0 p.1 (encAt at0)) (hcl : fs.length ≤ 100000) (hls : RdV w0 encX g.ls) (hts : RdV w0 encX g.ts) (hxs : RdV w0 encX g.xs) (hss : RdV w0 encX g.ss) :
    Ret Tryz.prog 34 #[.agg (encP oF fs.length cF g).toArray] w0 (fun v w => ∃ b, v = .bool b ∧ (b = true ↔ AnfP (fs.map Prod.snd) g) ∧ Kp w0 noM w) := by
  have hH : HS w0 noM [] w0 := HS.init w0 noM
  have hspF : Sp oF fs.length := hF.sp (sz := 12) (flat_length encF2_len _) (by omega)
  obtain ⟨cs, hcs⟩ : ∃ cs, cs = fs.map Prod.snd := ⟨_, rfl⟩
  have hcsl : cs.length = fs.length := by rw [hcs, List.length_map]
  have hsnd : ∀ k, k < fs.length → (flat encF2 fs)[k * 12 + 0]? = some (.int .i64 (cs.getD k 0)) := fun k hk => by rw [hcs]; exact snd_at hk
  rw [← hcs]
  (refine enter (N := 174) Tryz.func34 rfl Tryz.ntmps34 rfl ?_; intro a hA; dsimp only [sl0, Nat.reduceAdd] at hA)
  repeat' (first | (refine GT ?_ ?_ <;> intro hg <;> clear hA a <;> intro a hA <;> (first | exact FA | replace hg := of_decide_eq_true hg | replace hg := of_decide_eq_false hg | skip)) | (refine XT ?_; apply XE; (first | (apply ex_load; rfl; refine cl_rd hF id (hsnd _ ?_); (show 0 < _); omega)); clear hA a; intro a hA) | (refine QT ?_; clear hA a; intro a hA) | (refine BT ?_; clear hA hH; rintro _ w ⟨bN, rfl, hH⟩ a hA) | (refine LT ?_; clear hA hH; rintro _ w ⟨oN, rfl, hH⟩ a hA) | (refine st_op hA rfl rfl (by decide) (op_call rfl rfl rfl (rises_spec _ g.ls (hls.keep hH.kp))) ?_; clear hA; rintro _ w ⟨b, rfl, hb1, hk⟩ a hA; replace hH := hH.keep hk; clear hk) | (refine st_op hA rfl rfl (by decide) (op_call rfl rfl rfl (rises_spec _ g.ts (hts.keep hH.kp))) ?_; clear hA; rintro _ w ⟨b, rfl, hb2, hk⟩ a hA; replace hH := hH.keep hk; clear hk) | (refine st_op hA rfl rfl (by decide) (op_call rfl rfl rfl (rises_spec _ g.xs (hxs.keep hH.kp))) ?_; clear hA; rintro _ w ⟨b, rfl, hb3, hk⟩ a hA; replace hH := hH.keep hk; clear hk) | ((first | refine CT ?_ | (refine DT ?_ ?_ <;> intro hc <;> try (exfalso; omega))) <;> repeat' refine CT ?_) | fail)
  · exact rt1 (.inl rfl) rfl hA rfl ⟨_, rfl, anf_no (fun h => (by have := h.pos; omega)), hH.kp⟩
  · exact rt1 (.inl rfl) rfl hA rfl ⟨_, rfl, anf_no (fun h => (by have := h.top; omega)), hH.kp⟩
  · exact rt1 (.inl rfl) rfl hA rfl ⟨_, rfl, anf_no (fun h => (by assumption : cs.getD (Int.toNat 0) 0 ≠ 0) h.c0), hH.kp⟩
  · exact rt1 (.inl rfl) rfl hA rfl ⟨_, rfl, anf_no (fun h => nb_no hb1 (by assumption) h.ls), hH.kp⟩
  · exact rt1 (.inl rfl) rfl hA rfl ⟨_, rfl, anf_no (fun h => nb_no hb2 (by assumption) h.ts), hH.kp⟩
  · exact rt1 (.inl rfl) rfl hA rfl ⟨_, rfl, anf_no (fun h => nb_no hb3 (by assumption) h.xs), hH.kp⟩
  have hp1 := nb_yes hb1 (by assumption)
  have hp2 := nb_yes hb2 (by assumption)
  have hp3 := nb_yes hb3 (by assumption)
  have hc0 : cs.getD 0 0 = 0 := Decidable.not_not.1 (by assumption : ¬ cs.getD (Int.toNat 0) 0 ≠ 0)
  clear hb1 hb2 hb3
  have hcl2 : 1 ≤ cs.length := by omega
  have hcl4 : cs.length ≤ 4096 := by omega
  obtain ⟨sl, hsl0, hsl, hH1⟩ := own4 hH
  have hsl4 : sl = four := hsl0.trans rfl
  clear hsl0 hH
  obtain ⟨b1, hH, hA2⟩ : ∃ b1, HS w0 noM [own 9 1 oN sl.length sl.length (flat encX sl), cb b1 34 (encP oF fs.length cF g)] w ∧ Sl 174 [(4, .int .i64 (0 : Nat)), (3, .slice oN sl.length sl.length), (1, .pointer (some (bat b1 0))), (2, .bool false)] a := ⟨_, hH1, (by rw [hsl]; exact (hA.sub SBT))⟩
  clear hA hH1
  have hspS := hH.own_sp (T := 9) (o := oN) (.head _)
  have hspX : Sp g.xs.o g.xs.l.length := hxs.1.sp (sz := 1) (flat_length encX_len _) (by have := hxs.le; omega)
  have hspT : Sp g.ss.o g.ss.l.length := hss.1.sp (sz := 1) (flat_length encX_len _) (by have := hss.le; omega)
  have hlx := hxs.le
  have hlss := hss.le
  refine wp_lpk (S := Nat) (fun i a w => (i ≤ sl.length ∧ ∀ k, k < i → hasS g.xs.l (sl.getD k default)) ∧ HS w0 noM [own 9 1 oN sl.length sl.length (flat encX sl), cb b1 34 (encP oF fs.length cF g)] w ∧ Sl 174 [(4, .int .i64 i), (3, .slice oN sl.length sl.length), (1, .pointer (some (bat b1 0))), (2, .bool false)] a) (fun i => sl.length - i)
    (fun a w => (∀ k, k < sl.length → hasS g.xs.l (sl.getD k default)) ∧ HS w0 noM [cb b1 34 (encP oF fs.length cF g)] w ∧ Sl 174 [(1, .pointer (some (bat b1 0))), (2, .bool false)] a) 0 ⟨⟨Nat.zero_le _, fun k h => absurd h (Nat.not_lt_zero _)⟩, hH, hA2⟩ ?_ ?_
  · clear hA2 hH
    rintro i a w ⟨⟨hi, hhas⟩, hH, hA⟩
    by_cases hlt : i < sl.length
    rotate_left
    · obtain rfl : i = sl.length := by omega
      repeat' (first | (refine QT ?_; clear hA a; intro a hA) | ((first | refine CT ?_ | (refine DT ?_ ?_ <;> intro hc <;> try (exfalso; omega))) <;> repeat' refine CT ?_) | fail)
      exact ⟨hhas, hH.tail, (hA.sub SBT)⟩
    have hv := strs_at hlt
    repeat' (first | (refine QT ?_; clear hA a; intro a hA) | ((first | refine CT ?_ | (refine DT ?_ ?_ <;> intro hc <;> try (exfalso; omega))) <;> repeat' refine CT ?_) | fail)
    refine wp_lpk (S := Nat) (fun j a w => ∃ fd, (j ≤ g.xs.l.length ∧ (fd = true ↔ ∃ k, k < j ∧ eqS (g.xs.l.getD k default) (sl.getD i default) = true)) ∧ HS w0 noM [own 9 1 oN sl.length sl.length (flat encX sl), cb b1 34 (encP oF fs.length cF g)] w ∧ Sl 174 [(6, .int .i64 j), (5, .bool fd), (4, .int .i64 i), (3, .slice oN sl.length sl.length), (1, .pointer (some (bat b1 0))), (2, .bool false)] a) (fun j => g.xs.l.length - j)
      (fun a w => ∃ fd, (fd = true ↔ hasS g.xs.l (sl.getD i default)) ∧ HS w0 noM [own 9 1 oN sl.length sl.length (flat encX sl), cb b1 34 (encP oF fs.length cF g)] w ∧ Sl 174 [(5, .bool fd), (4, .int .i64 i), (3, .slice oN sl.length sl.length), (1, .pointer (some (bat b1 0))), (2, .bool false)] a) 0 ⟨false, ⟨Nat.zero_le _, ⟨fun h => (by cases h), fun ⟨k, hk, _⟩ => absurd hk (Nat.not_lt_zero _)⟩⟩, hH, (hA.sub SBT)⟩ ?_ ?_
    · clear hA hH
      rintro j a w ⟨fd, ⟨hj, hfd⟩, hH, hA⟩
      by_cases hjl : j < g.xs.l.length
      rotate_left
      · obtain rfl : j = g.xs.l.length := by omega
        repeat' (first | (refine QT ?_; clear hA a; intro a hA) | ((first | refine CT ?_ | (refine DT ?_ ?_ <;> intro hc <;> try (exfalso; omega))) <;> repeat' refine CT ?_) | fail)
        exact ⟨fd, hfd.trans hasS_iff.symm, hH, (hA.sub SBT)⟩
      have hvj := strs_at hjl
      repeat' (first | (refine QT ?_; clear hA a; intro a hA) | ((first | refine CT ?_ | (refine DT ?_ ?_ <;> intro hc <;> try (exfalso; omega))) <;> repeat' refine CT ?_) | fail)
      (refine wp_draw_HS [(0, 1), (1, 1), (2, 1), (3, 1), (4, 1), (5, 1), (6, 1), (7, 1), (8, 1), (9, 1), (10, 1), (11, 1), (12, 1), (13, 1)] mixed (by decide +kernel) hH ?_; replace hH := hH.drew)
      cases fd with
      | true =>
        repeat' (first | (refine GT ?_ ?_ <;> intro hg <;> clear hA a <;> intro a hA <;> (first | exact FA | replace hg := of_decide_eq_true hg | replace hg := of_decide_eq_false hg | skip)) | (refine QT ?_; clear hA a; intro a hA) | (refine CT ?_ <;> repeat' refine CT ?_) | fail)
        exact ⟨j + 1, ⟨true, ⟨hjl, iff_of_true rfl (by obtain ⟨k, hk, he⟩ := hfd.1 rfl; exact ⟨k, by omega, he⟩)⟩, hH, (hA.sub SBT)⟩, by omega⟩
      | false =>
      repeat' (first | (refine GT ?_ ?_ <;> intro hg <;> clear hA a <;> intro a hA <;> (first | exact FA | replace hg := of_decide_eq_true hg | replace hg := of_decide_eq_false hg | skip)) | (refine XT ?_; apply XE; (first | (apply ex_eqlS; rfl; rfl) | (apply ex_indexAddr_nat; rfl; rfl; omega; first | exact hspX | exact hspS) | (apply ex_load; rfl; exact cl_rd hxs.1 id hvj) | (apply ex_load; rfl; apply cl_own (T := 9); exact MEMT; exact hv)); clear hA a; intro a hA) | (refine QT ?_; clear hA a; intro a hA) | (refine CT ?_ <;> repeat' refine CT ?_) | fail)
      exact ⟨j + 1, ⟨_, ⟨hjl, ⟨fun h => ⟨j, by omega, h⟩, fun ⟨k, hk, he⟩ => (by
        by_cases e : k = j
        · exact e ▸ he
        · exact absurd (hfd.2 ⟨k, by omega, he⟩) (by decide))⟩⟩, hH, (hA.sub SBT)⟩, by omega⟩
    clear hA hH
    rintro a w ⟨fd, hfd, hH, hA⟩
    cases fd with
    | false =>
      repeat' (first | (refine QT ?_; clear hA a; intro a hA) | (refine CT ?_ <;> repeat' refine CT ?_) | fail)
      exact rt1 (.inl rfl) rfl hA rfl ⟨_, rfl, anf_no (fun h => (by cases hfd.2 (has4 h _ (hsl4 ▸ getD_mem hlt)))), hH.kp⟩
    | true =>
    repeat' (first | (refine QT ?_; clear hA a; intro a hA) | (refine CT ?_ <;> repeat' refine CT ?_) | fail)
    exact ⟨i + 1, ⟨⟨hlt, lt_next (p := fun k => hasS g.xs.l (sl.getD k default)) hhas (hfd.1 rfl)⟩, hH, (hA.sub SBT)⟩, by omega⟩
  clear hA2 hH
  rintro a w ⟨hhas, hH, hA⟩
  rw [hsl4] at hhas
  have hx4 := has4_of hhas
  clear hhas hsl hsl4 hspS
  repeat' (first | (refine QT ?_; clear hA a; intro a hA) | (refine CT ?_ <;> repeat' refine CT ?_) | fail)
  refine wp_lpk (S := Nat) (fun i a w => (i ≤ g.ss.l.length ∧ ∀ k, k < i → ¬ 4096 < (g.ss.l.getD k default).size) ∧ HS w0 noM [cb b1 34 (encP oF fs.length cF g)] w ∧ Sl 174 [(7, .int .i64 i), (1, .pointer (some (bat b1 0))), (2, .bool false)] a) (fun i => g.ss.l.length - i)
    (fun a w => (∀ s ∈ g.ss.l, s.size ≤ 4096) ∧ HS w0 noM [cb b1 34 (encP oF fs.length cF g)] w ∧ Sl 174 [(1, .pointer (some (bat b1 0))), (2, .bool false)] a) 0 ⟨⟨Nat.zero_le _, fun k h => absurd h (Nat.not_lt_zero _)⟩, hH, (hA.sub SBT)⟩ ?_ ?_
  · clear hA hH
    rintro i a w ⟨⟨hi, hss0⟩, hH, hA⟩
    by_cases hlt : i < g.ss.l.length
    rotate_left
    · obtain rfl : i = g.ss.l.length := by omega
      repeat' (first | (refine QT ?_; clear hA a; intro a hA) | ((first | refine CT ?_ | (refine DT ?_ ?_ <;> intro hc <;> try (exfalso; omega))) <;> repeat' refine CT ?_) | fail)
      exact ⟨longS_yes hss0, hH, (hA.sub SBT)⟩
    have hv := strs_at hlt
    have hbl := bts_len (g.ss.l.getD i default)
    repeat' (first | (refine XT ?_; apply XE; (first | (apply ex_indexAddr_nat; rfl; rfl; omega; exact hspT) | (apply ex_load; rfl; exact cl_rd hss.1 id hv) | (apply ex_len_string; rfl)); clear hA a; intro a hA) | (refine QT ?_; clear hA a; intro a hA) | ((first | refine CT ?_ | (refine DT ?_ ?_ <;> intro hc <;> try (exfalso; omega))) <;> repeat' refine CT ?_) | fail)
    · exact rt1 (.inl rfl) rfl hA rfl ⟨_, rfl, anf_no (fun h => longS_no hlt (by omega) h.ss), hH.kp⟩
    · exact ⟨i + 1, ⟨⟨hlt, lt_next hss0 (by omega)⟩, hH, (hA.sub SBT)⟩, by omega⟩
  clear hA hH
  rintro a w ⟨hss4, hH, hA⟩
  repeat' (first | (refine XT ?_; apply XE; (first | (apply ex_load_st (vs := encP oF fs.length cF g); rfl; rfl; exact cls_cb_all MEMT) | (apply ex_build (szs := [(0, 5), (5, 1), (6, 1), (7, 1), (8, 1), (9, 1), (10, 1)]) (cs := (encLk ⟨oF, fs.length, cF, g, none, 0, 0, 0, none, 0, 0⟩ 0 false).toArray); exact run_szl (by (repeat (first | exact SzL.nil | refine SzL.cons ⟨_, rfl, by decide⟩ ?_))); rfl; rfl)); clear hA a; intro a hA) | (refine QT ?_; clear hA a; intro a hA) | (refine BT ?_; clear hA hH; rintro _ w ⟨bN, rfl, hH⟩ a hA) | (refine CT ?_ <;> repeat' refine CT ?_) | fail)
  obtain ⟨bK, hbK⟩ : ∃ x, x = bN := ⟨_, rfl⟩
  rw [← hbK] at hA hH
  clear hbK bN
  refine wp_lpk (S := Nat) (fun i a w => ∃ oA cA, i ≤ fs.length ∧ HS w0 noM [cb bK 163 (encLk ⟨oF, fs.length, cF, g, oA, i, cA, 0, none, 0, 0⟩ 0 false), own 3 1 oA i cA (flat Fw.encI (cs.take i)), cb b1 34 (encP oF fs.length cF g)] w ∧ Sl 174 [(9, .int .i64 i), (8, .pointer (some (bat bK 0))), (1, .pointer (some (bat b1 0))), (2, .bool false)] a) (fun i => fs.length - i)
    (fun a w => ∃ oA nA cA, HS w0 noM [cb bK 163 (encLk ⟨oF, fs.length, cF, g, oA, nA, cA, 0, none, 0, 0⟩ 0 false), cb b1 34 (encP oF fs.length cF g)] w ∧ Sl 174 [(8, .pointer (some (bat bK 0))), (1, .pointer (some (bat b1 0))), (2, .bool false)] a) 0 ⟨none, 0, Nat.zero_le _, (by rw [List.take_zero]; exact (hH.nil_flat Fw.encI 3 1).perm PMT), (hA.sub SBT)⟩ ?_ ?_
  · clear hA hH
    rintro i a w ⟨oA, cA, hi, hH, hA⟩
    by_cases hlt : i < fs.length
    rotate_left
    · repeat' (first | (refine QT ?_; clear hA a; intro a hA) | ((first | refine CT ?_ | (refine DT ?_ ?_ <;> intro hc <;> try (exfalso; omega))) <;> repeat' refine CT ?_) | fail)
      exact ⟨oA, i, cA, hH.rm 1, (hA.sub SBT)⟩
    obtain ⟨x, hx⟩ : ∃ x, cs[i]? = some x := ⟨_, List.getElem?_eq_getElem (by omega)⟩
    have hxd : cs.getD i 0 = x := by rw [List.getD_eq_getElem?_getD, hx]; rfl
    have hvx := hsnd i hlt
    rw [hxd] at hvx
    have htl : (cs.take i).length = i := by rw [List.length_take]; omega
    repeat' (first | (refine QT ?_; clear hA a; intro a hA) | ((first | refine CT ?_ | (refine DT ?_ ?_ <;> intro hc <;> try (exfalso; omega))) <;> repeat' refine CT ?_) | fail)
    have hST : HS w0 noM [cb bK 163 (encLk ⟨oF, fs.length, cF, g, oA, i, cA, 0, none, 0, 0⟩ 0 false), cb b1 34 (encP oF fs.length cF g)] w := HS.left (H1 := [_, _]) (hH.perm (H' := cb bK 163 (encLk ⟨oF, fs.length, cF, g, oA, i, cA, 0, none, 0, 0⟩ 0 false) :: cb b1 34 (encP oF fs.length cF g) :: own 3 1 oA i cA (flat Fw.encI (cs.take i)) :: []) PMT)
    replace hH := hH.perm (H' := cb bK 163 (encLk ⟨oF, fs.length, cF, g, oA, i, cA, 0, none, 0, 0⟩ 0 false) :: cb b1 34 (encP oF fs.length cF g) :: own 3 1 oA i cA (flat Fw.encI (cs.take i)) :: []) PMT
    (refine wp_draw2_HS (H := [_, _]) [(0, 1), (1, 1), (2, 1), (3, 1), (4, 1), (5, 1), (6, 1), (7, 1), (8, 1), (9, 1), (10, 1), (11, 0), (12, 0), (13, 1), (14, 1)] [15] mixed (by decide +kernel) (hST) ?_; replace hH := hH.drew)
    clear hST
    repeat' (first | (refine XT ?_; apply XE; (first | (apply ex_indexAddr_nat; rfl; rfl; omega; exact hspF) | (apply ex_load; rfl; exact cl_rd hF id hvx)); clear hA a; intro a hA) | (refine QT ?_; clear hA a; intro a hA) | (refine DLT ?_; clear hA hH; rintro _ w ⟨oN, rfl, hH⟩; refine ⟨STT, ?_⟩; intro a hA) | fail)
    (apply dr_op hA rfl rfl rfl (by decide); apply op_sliceLit (xs := [.int .i64 x]) (vs := [.int .i64 x]); rfl; rfl; exact CATST; rfl; rfl; rfl; exact hH; clear hA hH; rintro _ w ⟨oN, rfl, hH⟩; refine ⟨HS.left (H1 := [_, _]) hH.tail, ?_⟩; intro a hA)
    dsimp only at hA
    (apply dr_op hA rfl rfl rfl (by decide); apply op_append; rfl; rfl; exact hH; exact MEMT; exact (hH.own_rd (List.Mem.head _)); exact rfl; rfl; decide; exact rfl; (unfold maxLen; omega); omega; clear hA; rintro _ w ⟨oN, cN, rfl, hH2⟩; clear hH; have hH := hH2 _ (by (repeat constructor)); clear hH2; refine ⟨HS.left (H1 := [_, _]) hH.tail, ?_⟩; intro a hA)
    rw [flatI_s, ← take_snoc hx] at hH
    repeat' (first | (refine QT ?_; clear hA a; intro a hA) | (apply dr_op03 hA rfl rfl rfl; apply op_store_fld (cs' := encLk ⟨oF, fs.length, cF, g, oN, i + 1, cN, 0, none, 0, 0⟩ 0 false); rfl; rfl; rfl; exact hH; (repeat constructor); clear hH; rintro _ w hH) | (refine CT ?_ <;> repeat' refine CT ?_) | fail)
    exact ⟨i + 1, ⟨oN, cN, hlt, ((hH.tail).perm PMT), (hA.sub SBT)⟩, by omega⟩
  clear hA hH
  rintro a w ⟨oA, nA, cA, hH, hA⟩
  repeat' (first | (refine QT ?_; clear hA a; intro a hA) | (refine CT ?_ <;> repeat' refine CT ?_) | fail)
  refine wp_lpk (S := Nat) (fun i a w => ∃ cc oE nE cE p bad, (i ≤ fs.length ∧ 0 ≤ p ∧ p ≤ 2 * (i : Int) ∧ (bad = false → ∀ c ∈ cs.take i, 0 ≤ c ∧ c ≤ 4096) ∧ (bad = true → ¬ ∀ c ∈ cs, 0 ≤ c ∧ c ≤ 4096)) ∧ HS w0 noM [cb bK 163 (encLk ⟨oF, fs.length, cF, g, oA, nA, cA, cc, oE, nE, cE⟩ p bad), cb b1 34 (encP oF fs.length cF g)] w ∧ Sl 174 [(10, .int .i64 i), (8, .pointer (some (bat bK 0))), (1, .pointer (some (bat b1 0))), (2, .bool false)] a) (fun i => fs.length - i)
    (fun a w => ∃ cc oE nE cE p bad, (bad = false ↔ ∀ c ∈ cs, 0 ≤ c ∧ c ≤ 4096) ∧ HS w0 noM [cb bK 163 (encLk ⟨oF, fs.length, cF, g, oA, nA, cA, cc, oE, nE, cE⟩ p bad)] w ∧ Sl 174 [(8, .pointer (some (bat bK 0))), (2, .bool false)] a) 0 ⟨0, none, 0, 0, 0, false, ⟨Nat.zero_le _, Int.le_refl _, by omega, fun _ => (by rw [List.take_zero]; exact fun c h => absurd h List.not_mem_nil), fun h => (by cases h)⟩, hH, (hA.sub SBT)⟩ ?_ ?_
  · clear hA hH
    rintro i a w ⟨cc, oE, nE, cE, p, bad, ⟨hi, hp0, hp1, hcap, hbad⟩, hH, hA⟩
    by_cases hlt : i < fs.length
    rotate_left
    · obtain rfl : i = fs.length := by omega
      rw [← hcsl, List.take_length] at hcap
      repeat' (first | (refine GT ?_ ?_ <;> intro hg <;> clear hA a <;> intro a hA <;> (first | exact FA | replace hg := of_decide_eq_true hg | replace hg := of_decide_eq_false hg | skip)) | (refine QT ?_; clear hA a; intro a hA) | (refine CT ?_ <;> repeat' refine CT ?_) | fail)
      exact ⟨cc, oE, nE, cE, p, bad, ⟨hcap, fun h => (by cases bad with | false => rfl | true => exact absurd h (hbad rfl))⟩, hH.rm 1, (hA.sub SBT)⟩
    cases bad with
    | true =>
      repeat' (first | (refine GT ?_ ?_ <;> intro hg <;> clear hA a <;> intro a hA <;> (first | exact FA | replace hg := of_decide_eq_true hg | replace hg := of_decide_eq_false hg | skip)) | (refine QT ?_; clear hA a; intro a hA) | (refine CT ?_ <;> repeat' refine CT ?_) | fail)
      exact ⟨cc, oE, nE, cE, p, true, ⟨fun h => (by cases h), fun h => absurd h (hbad rfl)⟩, hH.rm 1, (hA.sub SBT)⟩
    | false =>
    obtain ⟨q, hq⟩ : ∃ x, fs[i]? = some x := ⟨_, List.getElem?_eq_getElem hlt⟩
    have hx : cs[i]? = some q.2 := by rw [hcs, List.getElem?_map, hq]; rfl
    have hvx := cap_at2 hq
    have hbd := body_at hq
    have hro := hr q (List.mem_of_getElem? hq)
    repeat' (first | (refine GT ?_ ?_ <;> intro hg <;> clear hA a <;> intro a hA <;> (first | exact FA | replace hg := of_decide_eq_true hg | replace hg := of_decide_eq_false hg | skip)) | (refine XT ?_; apply XE; (first | (apply ex_indexAddr_nat; rfl; rfl; omega; exact hspF) | (apply ex_load; rfl; exact cl_rd hF id hvx) | (apply ex_load_st (vs := encB q.1); rfl; rfl; exact cls_rd hF id hbd)); clear hA a; intro a hA) | (refine QT ?_; clear hA a; intro a hA) | (refine LT ?_; clear hA hH; rintro _ w ⟨oN, rfl, hH⟩ a hA) | (apply st_op0 hA rfl rfl; apply op_store_fld (cs' := encLk ⟨oF, fs.length, cF, g, oA, nA, cA, q.2, oE, nE, cE⟩ p false); rfl; rfl; rfl; exact hH; (repeat constructor); clear hH; rintro _ w hH) | (apply st_op0 hA rfl rfl; apply op_store_fld (cs' := encLk ⟨oF, fs.length, cF, g, oA, nA, cA, q.2, oN, 2, 2⟩ p false); rfl; rfl; rfl; exact hH; (repeat constructor); clear hH; rintro _ w hH) | (refine CT ?_ <;> repeat' refine CT ?_) | fail)
    all_goals
      obtain ⟨o3, ho3⟩ : ∃ x, x = oN := ⟨_, rfl⟩
      subst ho3
    · have hq0 : q.2 < 0 := by assumption
      repeat' (first | (refine XT ?_; apply XE; (first | (apply ex_indexAddr_nat; rfl; rfl; omega; exact hspF) | (apply ex_load_st (vs := encB q.1); rfl; rfl; exact cls_rd hF id hbd)); clear hA a; intro a hA) | (refine QT ?_; clear hA a; intro a hA) | (refine LT ?_; clear hA hH; rintro _ w ⟨oN, rfl, hH⟩ a hA) | (apply st_op0 hA rfl rfl; apply op_store_fld (cs' := encLk ⟨oF, fs.length, cF, g, oA, nA, cA, q.2, o3, 2, 2⟩ p true); rfl; rfl; rfl; exact hH; (repeat constructor); clear hH; rintro _ w hH) | (refine CT ?_ <;> repeat' refine CT ?_) | fail)
      replace hH := hH.up 2 rfl
      dsimp only [List.eraseIdx_cons_succ, List.eraseIdx_cons_zero] at hH
      (refine st_op hA rfl rfl (by decide) (op_call rfl rfl rfl (body0_spec w0 _ _ ⟨oF, fs.length, cF, g, oA, nA, cA, q.2, o3, 2, 2⟩ bK p true q.1 oN 2 2 hH hro hp0 (by omega))) ?_; clear hA hH)
      rintro _ w ⟨rfl, p', hpp, hH⟩ a hA
      repeat' (first | (refine QT ?_; clear hA a; intro a hA) | (refine CT ?_ <;> repeat' refine CT ?_) | fail)
      exact ⟨i + 1, ⟨q.2, o3, 2, 2, p', true, ⟨hlt, by omega, by omega, fun h => (by cases h), fun _ h => (by have := h q.2 (List.mem_of_getElem? hx); omega)⟩, (hH.rm 1).rm 1, (hA.sub SBT)⟩, by omega⟩
    · have hq0 : ¬ q.2 < 0 := by assumption
      repeat' (first | (refine XT ?_; apply XE; (first | (apply ex_indexAddr_nat; rfl; rfl; omega; exact hspF) | (apply ex_load_st (vs := encB q.1); rfl; rfl; exact cls_rd hF id hbd)); clear hA a; intro a hA) | (refine QT ?_; clear hA a; intro a hA) | (refine LT ?_; clear hA hH; rintro _ w ⟨oN, rfl, hH⟩ a hA) | (apply st_op0 hA rfl rfl; apply op_store_fld (cs' := encLk ⟨oF, fs.length, cF, g, oA, nA, cA, q.2, o3, 2, 2⟩ p (decide (4096 < q.2))); rfl; rfl; rfl; exact hH; (repeat constructor); clear hH; rintro _ w hH) | (refine CT ?_ <;> repeat' refine CT ?_) | fail)
      replace hH := hH.up 2 rfl
      dsimp only [List.eraseIdx_cons_succ, List.eraseIdx_cons_zero] at hH
      (refine st_op hA rfl rfl (by decide) (op_call rfl rfl rfl (body0_spec w0 _ _ ⟨oF, fs.length, cF, g, oA, nA, cA, q.2, o3, 2, 2⟩ bK p (decide (4096 < q.2)) q.1 oN 2 2 hH hro hp0 (by omega))) ?_; clear hA hH)
      rintro _ w ⟨rfl, p', hpp, hH⟩ a hA
      repeat' (first | (refine QT ?_; clear hA a; intro a hA) | (refine CT ?_ <;> repeat' refine CT ?_) | fail)
      exact ⟨i + 1, ⟨q.2, o3, 2, 2, p', _, ⟨hlt, by omega, by omega, fun h c hc => (by
        rw [take_snoc hx] at hc
        rcases List.mem_append.1 hc with hc | hc
        · exact hcap rfl c hc
        · rw [List.mem_singleton] at hc
          have := of_decide_eq_false h
          subst hc
          constructor <;> omega), fun h h2 => (by have := of_decide_eq_true h; have := h2 q.2 (List.mem_of_getElem? hx); omega)⟩, (hH.rm 1).rm 1, (hA.sub SBT)⟩, by omega⟩
  clear hA hH
  rintro a w ⟨cc, oE, nE, cE, p, bad, hbad, hH, hA⟩
  repeat' (first | (refine QT ?_; clear hA a; intro a hA) | (refine CT ?_ <;> repeat' refine CT ?_) | fail)
  refine rt1 (.inl rfl) rfl hA rfl ⟨_, rfl, ?_, hH.kp⟩
  cases bad with
  | true => exact anf_no (fun h => (by cases hbad.2 h.caps))
  | false => exact iff_of_true rfl ⟨hcl2, hcl4, hc0, hp1, hp2, hp3, hx4, hss4, hbad.1 rfl⟩
end Go.Proofs.YtenlcdokaadobaaGreatDoor
namespace Go.Proofs.YtenlcdokaadobaaGreatDoor
open Go Go.Fw
set_option linter.unusedVariables false
def evs (f : Gr) (n : Nat) : List Int := (f.bs.l.take n).flatMap bvs
theorem evs_next {f : Gr} {n : Nat} {bl : Blc} (h : f.bs.l[n]? = some bl) : evs f (n + 1) = evs f n ++ bvs bl := by
  unfold evs
  rw [take_snoc h, List.flatMap_append]
  simp
theorem evs_all (f : Gr) : evs f f.bs.l.length = f.bs.l.flatMap bvs := by unfold evs; rw [List.take_length]
theorem EvOk.pre {a b : List Int} (h : EvOk (a ++ b)) : EvOk a := ⟨(List.nodup_append.1 h.nd).1, fun x hx => h.rg x (List.mem_append_left _ hx)⟩
theorem evs_pre (f : Gr) (n : Nat) : ∃ t, f.bs.l.flatMap bvs = evs f n ++ t := ⟨(f.bs.l.drop n).flatMap bvs, by unfold evs; rw [← List.flatMap_append, List.take_append_drop]⟩
def blkS (f : Gr) (n : Nat) : Nat := ((f.bs.l.take n).map blkN).sum
theorem blkS_next {f : Gr} {n : Nat} {bl : Blc} (h : f.bs.l[n]? = some bl) : blkS f (n + 1) = blkS f n + blkN bl := by
  unfold blkS
  rw [take_snoc h, List.map_append, List.sum_append]
  simp
theorem blkS_le (f : Gr) (n : Nat) : blkS f n ≤ grN f := by
  unfold blkS grN
  rw [List.map_take]
  exact sum_take_le _ _
theorem blkS_all (f : Gr) : blkS f f.bs.l.length = grN f := by unfold blkS grN; rw [List.take_length]
def BSn (f : Gr) (n k : Nat) (x : Int) : Prop := 0 < k ∧ ∀ m, m < n → ∀ bl, f.bs.l[m]? = some bl → goes bl k → x ∈ bvs bl ∨ BS f m x
theorem BS_eq (f : Gr) (k : Nat) (x : Int) : BS f k x ↔ BSn f k k x := by
  rw [BS]
  exact Iff.rfl
theorem isA_set_ne {th : List (Option (Nat × List Int))} {n k : Nat} (h : k ≠ n) : (isA (th.set n none) k ↔ isA th k) ∧ setA (th.set n none) k = setA th k := by
  unfold isA setA
  rw [List.getElem?_set_ne (fun e => h e.symm)]
  exact ⟨Iff.rfl, rfl⟩
structure LInv (g : Grs) (f : Gr) (la : List Int) (p0 : Int) (n : Nat) (th : List (Option (Nat × List Int))) (p : Int) : Prop where
  len : th.length = f.bs.l.length
  ev : EvOk (evs f n)
  size : p = p0 + blkS f n
  top : p ≤ 65536
  blk : ∀ (m : Nat) (bl : Blc), f.bs.l[m]? = some bl → m < n → come f m ∧ BlkP g f la m bl (BS f m)
  is_ : ∀ k : Nat, n ≤ k → (isA th k ↔ k = 0 ∨ ∃ (m : Nat) (bl : Blc), m < n ∧ f.bs.l[m]? = some bl ∧ goes bl k)
  set_ : ∀ (k : Nat) (x : Int), n ≤ k → isA th k → (x ∈ setA th k ↔ BSn f n k x)
theorem LInv.come {g : Grs} {f : Gr} {la : List Int} {p0 p : Int} {n : Nat} {th : List (Option (Nat × List Int))} (h : LInv g f la p0 n th p) : isA th n ↔ come f n := h.is_ n (Nat.le_refl _)
theorem LInv.S {g : Grs} {f : Gr} {la : List Int} {p0 p : Int} {n : Nat} {th : List (Option (Nat × List Int))} (h : LInv g f la p0 n th p) (hi : isA th n) : Sk (setA th n) = BS f n := by
  funext x
  exact propext ((h.set_ n x (Nat.le_refl _) hi).trans (BS_eq f n x).symm)
theorem nowS_end {S : Int → Prop} {bl : Blc} {x : Int} : nowS S bl bl.is.l.length x ↔ x ∈ bvs bl ∨ S x := by
  unfold nowS bvs
  rw [List.take_length, List.mem_append]
  exact or_comm
theorem linv_next {g : Grs} {f : Gr} {la : List Int} {n : Nat} {th th' : List (Option (Nat × List Int))} {p0 p : Int} {bl : Blc} (h : LInv g f la p0 n th p) (hbl : f.bs.l[n]? = some bl) (hc : BlkC g f la n bl th (evs f n) p)
    (hth : ThR (th.set n none) (nowS (Sk (setA th n)) bl bl.is.l.length) bl.e.to.l th') : LInv g f la p0 (n + 1) th' (p + (blkN bl : Int)) := by
  have hS := h.S hc.come
  rw [hS] at hth
  have hsz := h.size
  refine ⟨by rw [hth.len, List.length_set]; exact h.len, by rw [evs_next hbl]; exact hc.ev, by rw [blkS_next hbl]; omega, hc.size, fun m b hm hlt => ?_, fun k hk => ?_, fun k x hk hi => ?_⟩
  · by_cases hmn : m = n
    · subst hmn
      rw [hbl] at hm
      cases hm
      exact ⟨h.come.1 hc.come, hS ▸ hc.blk⟩
    · exact h.blk m b hm (by omega)
  · have h3 := isA_set_ne (th := th) (n := n) (k := k) (by omega)
    constructor
    · intro hi
      rcases hth.from_ k hi with h1 | ⟨t, ht, h1⟩
      · rcases (h.is_ k (by omega)).1 (h3.1.1 h1) with h4 | ⟨m, b, h4, h5⟩
        · exact .inl h4
        · exact .inr ⟨m, b, by omega, h5⟩
      · exact .inr ⟨n, bl, by omega, hbl, t, ht, h1⟩
    · rintro (h1 | ⟨m, b, h1, h2, h4⟩)
      · omega
      · by_cases hmn : m = n
        · subst hmn
          rw [hbl] at h2
          cases h2
          obtain ⟨t, ht, h5⟩ := h4
          exact (hth.come t ht k h5).1
        · exact hth.keep k (h3.1.2 ((h.is_ k (by omega)).2 (.inr ⟨m, b, by omega, h2, h4⟩)))
  · have h3 := isA_set_ne (th := th) (n := n) (k := k) (by omega)
    constructor
    · intro hx
      refine ⟨by omega, fun m hm b hb hg => ?_⟩
      by_cases hmn : m = n
      · subst hmn
        rw [hbl] at hb
        cases hb
        obtain ⟨t, ht, h5⟩ := hg
        exact nowS_end.1 ((hth.come t ht k h5).2 x hx)
      · have hik : isA th k := (h.is_ k (by omega)).2 (.inr ⟨m, b, by omega, hb, hg⟩)
        have h4 := (hth.sub k x hx).1 (h3.1.2 hik)
        rw [h3.2] at h4
        exact ((h.set_ k x (by omega) hik).1 h4).2 m (by omega) b hb hg
    · rintro ⟨h1, h2⟩
      refine hth.all_ k x hi (fun hik => ?_) fun ⟨t, ht, h5⟩ => nowS_end.2 (h2 n (by omega) bl hbl ⟨t, ht, h5⟩)
      rw [h3.2]
      exact (h.set_ k x (by omega) (h3.1.1 hik)).2 ⟨h1, fun m hm b hb hg => h2 m (by omega) b hb hg⟩
theorem linv_end {g : Grs} {f : Gr} {la : List Int} {p0 p : Int} {th : List (Option (Nat × List Int))} (h : LInv g f la p0 f.bs.l.length th p) (hne : 0 < f.bs.l.length) : GrP g la f ∧ p = p0 + grN f :=
  ⟨⟨hne, fun n bl hb => h.blk n bl hb (List.getElem?_eq_some_iff.1 hb).1, evs_all f ▸ h.ev⟩, by rw [← blkS_all]; exact h.size⟩
theorem linv_no {g : Grs} {f : Gr} {la : List Int} {p0 p : Int} {n : Nat} {th : List (Option (Nat × List Int))} {bl : Blc} (h : LInv g f la p0 n th p) (hbl : f.bs.l[n]? = some bl) (hc : ¬ BlkC g f la n bl th (evs f n) p) : ¬ (GrP g la f ∧ p0 + grN f ≤ 65536) := by
  rintro ⟨hg, hp⟩
  have h1 := hg.blk n bl hbl
  have hi := h.come.2 h1.1
  refine hc ⟨hi, by rw [h.S hi]; exact h1.2, ?_, ?_⟩
  · obtain ⟨t, ht⟩ := evs_pre f (n + 1)
    have h2 := hg.ev
    rw [ht] at h2
    rw [← evs_next hbl]
    exact h2.pre
  · have h2 := blkS_next hbl
    have h3 := blkS_le f (n + 1)
    have h4 := h.size
    omega
theorem linv_0 (g : Grs) (f : Gr) (la : List Int) (b : Nat) (p : Int) (hp1 : p ≤ 65536) (hne : 0 < f.bs.l.length) : LInv g f la p 0 ((List.replicate f.bs.l.length (none : Option (Nat × List Int))).set 0 (some (b, []))) p := by
  have hl : 0 < (List.replicate f.bs.l.length (none : Option (Nat × List Int))).length := by rw [List.length_replicate]; exact hne
  have hg := setA_set hl (some (b, []))
  have hr : ∀ k : Nat, k ≠ 0 → (((List.replicate f.bs.l.length (none : Option (Nat × List Int))).set 0 (some (b, [])))[k]?).getD none = none := fun k hk => by
    rw [hg, if_neg hk, List.getElem?_replicate]
    split <;> rfl
  have hi : ∀ k : Nat, isA ((List.replicate f.bs.l.length (none : Option (Nat × List Int))).set 0 (some (b, []))) k ↔ k = 0 := fun k => by
    by_cases h0 : k = 0
    · subst h0
      unfold isA
      rw [hg, if_pos rfl]
      exact ⟨fun _ => rfl, fun _ => rfl⟩
    · unfold isA
      rw [hr k h0]
      exact ⟨fun h => (by cases h), fun h => absurd h h0⟩
  refine ⟨by rw [List.length_set, List.length_replicate], ⟨List.nodup_nil, fun x hx => absurd hx List.not_mem_nil⟩, ?_, hp1, fun m bl hm h => by omega, fun k hk => ?_, fun k x hk hik => ?_⟩
  · show p = p + ((0 : Nat) : Int)
    omega
  · rw [hi]
    exact ⟨.inl, fun h => h.elim id fun ⟨m, b, h1, _⟩ => by omega⟩
  · obtain rfl := (hi k).1 hik
    constructor
    · intro hx
      unfold setA at hx
      rw [hg, if_pos rfl] at hx
      exact absurd hx List.not_mem_nil
    · rintro ⟨h1, _⟩
      omega
def grS (g : Grs) (i : Nat) : Nat := ((g.fs.l.take i).map grN).sum
theorem grS_next {g : Grs} {i : Nat} {f : Gr} (h : g.fs.l[i]? = some f) : grS g (i + 1) = grS g i + grN f := by
  unfold grS
  rw [take_snoc h, List.map_append, List.sum_append]
  simp
theorem grS_le (g : Grs) (i : Nat) : grS g i ≤ grsN g := by
  unfold grS grsN
  rw [List.map_take]
  exact sum_take_le _ _
theorem grS_all (g : Grs) : grS g g.fs.l.length = grsN g := by unfold grS grsN; rw [List.take_length]
theorem may_no {g : Grs} (h : ¬ MayP g) : false = true ↔ MayP g := ⟨fun e => (by cases e), fun e => absurd e h⟩
theorem may_gr_no {g : Grs} {i : Nat} {f : Gr} {p : Int} (hf : g.fs.l[i]? = some f) (hp : p = grS g i) (h : ¬ (GrP g (g.fs.l.map Gr.caps) f ∧ p + grN f ≤ 65536)) : ¬ MayP g := fun hm => h ⟨hm.gr f (List.mem_of_getElem? hf), by
  have h1 := hm.size
  have h2 := grS_next hf
  have h3 := grS_le g (i + 1)
  omega⟩
end Go.Proofs.YtenlcdokaadobaaGreatDoor
namespace Go.Proofs.YtenlcdokaadobaaGreatDoor
open Go Go.Fw
set_option linter.unusedVariables false
def EdgS (f : Gr) : Prop := ∀ (m : Nat) (bl : Blc), f.bs.l[m]? = some bl → ∀ t ∈ bl.e.to.l, (m : Int) < t.b ∧ t.b < f.bs.l.length
def avS (f : Gr) (x : Int) (i k : Nat) : Prop := k = 0 ∨ ∃ m bl, m < i ∧ f.bs.l[m]? = some bl ∧ goes bl k ∧ ¬ x ∈ bvs bl ∧ ¬ BS f m x
theorem av_bs {f : Gr} (hE : EdgS f) (x : Int) {i k : Nat} (h : k ≤ i) : avS f x i k ↔ ¬ BS f k x := by
  rw [BS]
  constructor
  · rintro (rfl | ⟨m, bl, hm, hbl, hg, hx, hb⟩) ⟨h0, hall⟩
    · exact absurd h0 (Nat.lt_irrefl _)
    · obtain ⟨t, ht, he⟩ := hg
      have := (hE m bl hbl t ht).1
      rcases hall m (by omega) bl hbl ⟨t, ht, he⟩ with h1 | h1
      · exact hx h1
      · exact hb h1
  · intro hn
    by_cases h0 : k = 0
    · exact .inl h0
    refine .inr (Classical.byContradiction fun hc => hn ⟨by omega, fun m hm bl hbl hg => ?_⟩)
    refine Classical.byContradiction fun h2 => hc ⟨m, bl, by omega, hbl, hg, fun h => h2 (.inl h), fun h => h2 (.inr h)⟩
theorem av_skip {f : Gr} {x : Int} {i : Nat} {bl : Blc} (hbl : f.bs.l[i]? = some bl) (h : x ∈ bvs bl ∨ BS f i x) (k : Nat) : avS f x (i + 1) k ↔ avS f x i k := by
  constructor
  · rintro (h0 | ⟨m, b, hm, hb, hg, hx, hs⟩)
    · exact .inl h0
    · by_cases e : m = i
      · subst e
        rw [hbl] at hb; cases hb
        exact absurd h (fun h => h.elim hx hs)
      · exact .inr ⟨m, b, by omega, hb, hg, hx, hs⟩
  · rintro (h0 | ⟨m, b, hm, hb, hg, hx, hs⟩)
    · exact .inl h0
    · exact .inr ⟨m, b, by omega, hb, hg, hx, hs⟩
theorem av_go {f : Gr} {x : Int} {i : Nat} {bl : Blc} (hbl : f.bs.l[i]? = some bl) (hx : ¬ x ∈ bvs bl) (hb : ¬ BS f i x) (k : Nat) : avS f x (i + 1) k ↔ avS f x i k ∨ ∃ t ∈ bl.e.to.l.take bl.e.to.l.length, t.b = (k : Int) := by
  rw [List.take_length]
  constructor
  · rintro (h0 | ⟨m, b, hm, hb1, hg, hx1, hs⟩)
    · exact .inl (.inl h0)
    · by_cases e : m = i
      · subst e
        rw [hbl] at hb1; cases hb1
        exact .inr hg
      · exact .inl (.inr ⟨m, b, by omega, hb1, hg, hx1, hs⟩)
  · rintro ((h0 | ⟨m, b, hm, hb1, hg, hx1, hs⟩) | hg)
    · exact .inl h0
    · exact .inr ⟨m, b, by omega, hb1, hg, hx1, hs⟩
    · exact .inr ⟨i, bl, by omega, hbl, hg, hx, hb⟩
def ComeB (cs : List Bool) (p : Nat → Prop) : Prop := ∀ k, k < cs.length → (cs.getD k false = true ↔ p k)
theorem come_set {cs : List Bool} {p : Nat → Prop} {j : Nat} (h : ComeB cs p) : ComeB (cs.set j true) (fun k => p k ∨ k = j) := fun k hk => by
  rw [List.length_set] at hk
  rw [List.getD_eq_getElem?_getD, List.getElem?_set]
  by_cases e : j = k
  · rw [if_pos e, if_pos (e ▸ hk)]
    exact iff_of_true rfl (.inr e.symm)
  · rw [if_neg e, ← List.getD_eq_getElem?_getD, h k hk]
    exact ⟨.inl, fun h => h.resolve_right (fun h => e h.symm)⟩
theorem come_imp {cs : List Bool} {p q : Nat → Prop} (h : ComeB cs p) (hpq : ∀ k, k < cs.length → (p k ↔ q k)) : ComeB cs q := fun k hk => (h k hk).trans (hpq k hk)
theorem come_0 (n : Nat) : ComeB ((List.replicate n false).set 0 true) (fun k => k = 0) := come_imp (come_set (p := fun _ => False) (fun k hk => by
  rw [List.length_replicate] at hk
  rw [List.getD_eq_getElem?_getD, List.getElem?_replicate, if_pos hk]
  exact ⟨fun h => (by cases h), False.elim⟩)) (fun k hk => ⟨fun h => h.resolve_left id, .inr⟩)
theorem encB_len1 (b : Bool) : (Fw.encB b).length = 1 := rfl
theorem flag_at {cs : List Bool} {k : Nat} (h : k < cs.length) : (flat Fw.encB cs)[k * 1]? = some (.bool (cs.getD k false)) := by
  refine flat_get (off := 0) encB_len1 (List.getElem?_eq_getElem h) ?_
  rw [List.getD_eq_getElem?_getD, List.getElem?_eq_getElem h]
  rfl
theorem flag_put {cs : List Bool} {j : Nat} (h : j < cs.length) : Fw.put (flat Fw.encB cs) (j * 1) [.bool true] = flat Fw.encB (cs.set j true) := by
  rw [Nat.mul_one]
  exact flat_set1 encB_len1 h true
theorem take_t {l : List Edg} {i : Nat} {t : Edg} (h : l[i]? = some t) (k : Int) : (∃ s ∈ l.take (i + 1), s.b = k) ↔ (∃ s ∈ l.take i, s.b = k) ∨ k = t.b := by
  rw [take_snoc h]
  constructor
  · rintro ⟨s, hs, e⟩
    rcases List.mem_append.1 hs with h1 | h1
    · exact .inl ⟨s, h1, e⟩
    · rw [List.mem_singleton.1 h1] at e; exact .inr e.symm
  · rintro (⟨s, hs, e⟩ | e)
    · exact ⟨s, List.mem_append_left _ hs, e⟩
    · exact ⟨t, List.mem_append_right _ (List.mem_singleton.2 rfl), e.symm⟩
set_option maxRecDepth 10000 attribute [local irreducible] Code.wp wpList Calls Ex Op1 sat bat blk cb own Go.Fw.mp Go.Fw.mpO Go.Fw.mpI Go.Fw.mpE Go.Fw.itr HS Rd Ret wkD Hp Cl Cls Exit.then Exit.inBlock Exit.noGoto bodyPost Go.Fw.flat wk2 Go.Fw.all Go.Fw.owns wpOp
attribute [local irreducible] sk mpK sko mvO entK geS idxF

set_option maxHeartbeats 8000000 in
theorem avoids_spec (w0 : World) (f : Gr) (n : Nat) (x : Int) (hR : RdG w0 f) (hE : EdgS f) (hn : n < f.bs.l.length) (hl : f.bs.l.length ≤ 1048576) (hlt : ∀ bl ∈ f.bs.l, bl.e.to.l.length ≤ 1048576) : Ret Tryz.prog 71 #[.agg (encG f).toArray, .int .i64 n, .int .i64 x] w0 (fun v w => ∃ b, v = .bool b ∧ (b = true ↔ ¬ BS f n x) ∧ Kp w0 noM w) := by
  have hH : HS w0 noM [] w0 := HS.init w0 noM
  have hspB : Sp f.bs.o f.bs.l.length := hR.1.1.sp (sz := 6) (flat_length encBl_len _) (by omega)
  (refine enter (N := 71) Tryz.func71 rfl Tryz.ntmps71 rfl ?_; intro a hA; dsimp only [sl0, Nat.reduceAdd] at hA)
  repeat' (first | (refine QT ?_; clear hA a; intro a hA) | (refine BT ?_; clear hA hH; rintro _ w ⟨bN, rfl, hH⟩ a hA) | (apply st_op hA rfl rfl (by decide); apply op_make1 Fw.encB false (n := f.bs.l.length); rfl; rfl; omega; omega; (unfold maxLen; omega); omega; rfl; rfl; exact hH; clear hA hH; rintro _ w ⟨oC, rfl, hH⟩ a hA) | (refine CT ?_ <;> repeat' refine CT ?_) | fail)
  obtain ⟨b3, hb3⟩ : ∃ x, x = bN := ⟨_, rfl⟩
  rw [← hb3] at hA hH
  clear hb3 bN
  have hput0 : Fw.put (flat Fw.encB (List.replicate f.bs.l.length false)) (Int.toNat 0 * 1) [.bool true] = flat Fw.encB ((List.replicate f.bs.l.length false).set 0 true) := flag_put (by rw [List.length_replicate]; omega)
  repeat' (first | (refine QT ?_; clear hA a; intro a hA) | (apply st_op0 hA rfl rfl; apply op_store_own1; rfl; rfl; rfl; exact hH; (repeat constructor); (rw [flat_length encB_len1, List.length_replicate]; show 0 * 1 < _; omega); exact hput0; clear hH; rintro _ w hH) | (refine CT ?_ <;> repeat' refine CT ?_) | fail)
  have hcome0 := come_0 f.bs.l.length
  obtain ⟨cs0, hcs0⟩ : ∃ cs, cs = (List.replicate f.bs.l.length false).set 0 true := ⟨_, rfl⟩
  rw [← hcs0] at hH hcome0
  have hlen0 : cs0.length = f.bs.l.length := by rw [hcs0, List.length_set, List.length_replicate]
  clear hcs0
  refine wp_lpk (S := Nat) (fun i a w => ∃ cs, (i ≤ n ∧ cs.length = f.bs.l.length ∧ ComeB cs (avS f x i)) ∧ HS w0 noM [own 4 1 oC f.bs.l.length f.bs.l.length (flat Fw.encB cs), cb b3 44 (encG f)] w ∧ Sl 71 [(8, .int .i64 i), (7, .slice oC f.bs.l.length f.bs.l.length), (3, .pointer (some (bat b3 0))), (1, .int .i64 n), (2, .int .i64 x), (6, .bool false)] a) (fun i => n - i)
    (fun a w => ∃ cs, (cs.length = f.bs.l.length ∧ ComeB cs (avS f x n)) ∧ HS w0 noM [own 4 1 oC f.bs.l.length f.bs.l.length (flat Fw.encB cs)] w ∧ Sl 71 [(7, .slice oC f.bs.l.length f.bs.l.length), (1, .int .i64 n), (6, .bool false)] a) 0
    ⟨cs0, ⟨Nat.zero_le _, hlen0, come_imp hcome0 (fun k hk => ⟨.inl, fun h => h.elim id (fun ⟨m, bl, hm, _⟩ => absurd hm (Nat.not_lt_zero _))⟩)⟩, hH, (hA.sub SBT)⟩ ?_ ?_
  · clear hA hH hcome0 hlen0
    rintro i a w ⟨cs, ⟨hi, hcl, hcs⟩, hH, hA⟩
    by_cases hlt2 : i < n
    rotate_left
    · obtain rfl : i = n := by omega
      repeat' (first | (refine QT ?_; clear hA a; intro a hA) | ((first | refine CT ?_ | (refine DT ?_ ?_ <;> intro hc <;> try (exfalso; omega))) <;> repeat' refine CT ?_) | fail)
      exact ⟨cs, ⟨hcl, hcs⟩, hH.rm 1, (hA.sub SBT)⟩
    obtain ⟨bl, hbl⟩ : ∃ x, f.bs.l[i]? = some x := ⟨_, List.getElem?_eq_getElem (by omega)⟩
    have hblm := List.mem_of_getElem? hbl
    have hRb := hR.2 bl hblm
    have hlt3 := hlt bl hblm
    have hvb := flat_all encBl_len hbl
    have hflag := flag_at (cs := cs) (k := i) (by omega)
    have hii := (hcs i (by omega)).trans (av_bs hE x (Nat.le_refl i))
    obtain ⟨fl, hfl⟩ : ∃ b, b = cs.getD i false := ⟨_, rfl⟩
    rw [← hfl] at hflag hii
    clear hfl
    repeat' (first | (refine QT ?_; clear hA a; intro a hA) | ((first | refine CT ?_ | (refine DT ?_ ?_ <;> intro hc <;> try (exfalso; omega))) <;> repeat' refine CT ?_) | fail)
    (refine wp_draw_HS [(0, 1), (1, 1), (2, 1), (3, 1), (4, 1), (5, 1), (6, 1), (7, 1), (8, 1), (9, 1), (10, 1), (11, 1), (12, 1), (13, 1), (14, 1), (15, 1), (16, 1), (17, 1), (18, 1), (19, 0), (20, 1)] mixed (by decide +kernel) hH ?_; replace hH := hH.drew)
    cases fl with
    | false =>
      repeat' (first | (refine GT ?_ ?_ <;> intro hg <;> clear hA a <;> intro a hA <;> (first | exact FA | replace hg := of_decide_eq_true hg | replace hg := of_decide_eq_false hg | skip)) | (refine XT ?_; apply XE; (first | (apply ex_load; rfl; apply cl_own; exact MEMT; exact hflag)); clear hA a; intro a hA) | (refine QT ?_; clear hA a; intro a hA) | (refine CT ?_ <;> repeat' refine CT ?_) | (refine DSK ?_; clear hA a; intro a hA) | fail)
      have hbs : BS f i x := Classical.not_not.1 fun h => (by cases hii.2 h)
      exact ⟨i + 1, ⟨cs, ⟨hlt2, hcl, come_imp hcs fun k hk => (av_skip hbl (.inr hbs) k).symm⟩, hH, (hA.sub SBT)⟩, by omega⟩
    | true =>
    have hbs : ¬ BS f i x := hii.1 rfl
    have hvi : (flat encBl f.bs.l)[i * 6 + 1]? = some (.slice bl.is.o bl.is.l.length bl.is.c) := flat_get (off := 1) encBl_len hbl rfl
    have hvt : (flat encBl f.bs.l)[i * 6 + 2 + 3]? = some (.slice bl.e.to.o bl.e.to.l.length bl.e.to.c) := flat_get (off := 5) encBl_len hbl rfl
    have hspT : Sp bl.e.to.o bl.e.to.l.length := hRb.2.2.2.2.2.1.1.sp (sz := 2) (flat_length encEd_len _) (by omega)
    repeat' (first | (refine GT ?_ ?_ <;> intro hg <;> clear hA a <;> intro a hA <;> (first | exact FA | replace hg := of_decide_eq_true hg | replace hg := of_decide_eq_false hg | skip)) | (refine XT ?_; apply XE; (first | (apply ex_load; rfl; apply cl_own; exact MEMT; exact hflag) | (apply ex_indexAddr_nat; rfl; rfl; omega; exact hspB) | (apply ex_load_st (vs := encBl bl); rfl; rfl; exact cls_rd hR.1.1 id hvb) | (apply ex_load; rfl; exact cl_rd hR.1.1 id hvi)); clear hA a; intro a hA) | (refine QT ?_; clear hA a; intro a hA) | fail)
    (refine dr_op hA rfl rfl rfl (by decide) (op_call rfl rfl rfl (binds_spec _ bl x bl.is.l.length (hRb.1.keep hH.kp) (hRb.2.1.keep hH.kp))) ?_; clear hA; rintro _ w ⟨bb, rfl, hbb, hk⟩; replace hH := hH.keep hk; clear hk; refine ⟨STT, ?_⟩; intro a hA)
    rw [List.take_length] at hbb
    have hbv : bb = true ↔ x ∈ bvs bl := hbb.trans List.mem_append.symm
    clear hbb
    cases bb with
    | true =>
      repeat' (first | (refine QT ?_; clear hA a; intro a hA) | (refine CT ?_ <;> repeat' refine CT ?_) | fail)
      exact ⟨i + 1, ⟨cs, ⟨hlt2, hcl, come_imp hcs fun k hk => (av_skip hbl (.inl (hbv.1 rfl)) k).symm⟩, hH, (hA.sub SBT)⟩, by omega⟩
    | false =>
    have hxb : ¬ x ∈ bvs bl := fun h => (by cases hbv.2 h)
    repeat' (first | (refine QT ?_; clear hA a; intro a hA) | (refine CT ?_ <;> repeat' refine CT ?_) | fail)
    refine wp_lpk (S := Nat) (fun j a w => ∃ cs, (j ≤ bl.e.to.l.length ∧ cs.length = f.bs.l.length ∧ ComeB cs (fun k => avS f x i k ∨ ∃ t ∈ bl.e.to.l.take j, t.b = (k : Int))) ∧ HS w0 noM [own 4 1 oC f.bs.l.length f.bs.l.length (flat Fw.encB cs), cb b3 44 (encG f)] w ∧ Sl 71 [(9, .int .i64 j), (8, .int .i64 i), (7, .slice oC f.bs.l.length f.bs.l.length), (3, .pointer (some (bat b3 0))), (1, .int .i64 n), (2, .int .i64 x), (6, .bool false)] a) (fun j => bl.e.to.l.length - j)
      (fun a w => ∃ cs, (cs.length = f.bs.l.length ∧ ComeB cs (avS f x (i + 1))) ∧ HS w0 noM [own 4 1 oC f.bs.l.length f.bs.l.length (flat Fw.encB cs), cb b3 44 (encG f)] w ∧ Sl 71 [(8, .int .i64 i), (7, .slice oC f.bs.l.length f.bs.l.length), (3, .pointer (some (bat b3 0))), (1, .int .i64 n), (2, .int .i64 x), (6, .bool false)] a) 0
      ⟨cs, ⟨Nat.zero_le _, hcl, come_imp hcs fun k hk => ⟨.inl, fun h => h.elim id (fun ⟨t, ht, _⟩ => absurd ht (by rw [List.take_zero]; exact List.not_mem_nil))⟩⟩, hH, (hA.sub SBT)⟩ ?_ ?_
    · clear hA hH hcs hcl
      rintro j a w ⟨cs, ⟨hj, hcl, hcs⟩, hH, hA⟩
      by_cases hjl : j < bl.e.to.l.length
      rotate_left
      · obtain rfl : j = bl.e.to.l.length := by omega
        repeat' (first | (refine XT ?_; apply XE; (first | (apply ex_indexAddr_nat; rfl; rfl; omega; exact hspB) | (apply ex_load; rfl; exact cl_rd hR.1.1 id hvt)); clear hA a; intro a hA) | (refine QT ?_; clear hA a; intro a hA) | ((first | refine CT ?_ | (refine DT ?_ ?_ <;> intro hc <;> try (exfalso; omega))) <;> repeat' refine CT ?_) | fail)
        exact ⟨cs, ⟨hcl, come_imp hcs fun k hk => (av_go hbl hxb hbs k).symm⟩, hH, (hA.sub SBT)⟩
      obtain ⟨t, ht⟩ : ∃ x, bl.e.to.l[j]? = some x := ⟨_, List.getElem?_eq_getElem hjl⟩
      obtain ⟨ht1, ht2⟩ := hE i bl hbl t (List.mem_of_getElem? ht)
      have hvb2 : (flat encEd bl.e.to.l)[j * 2 + 0]? = some (.int .i64 t.b) := flat_get (off := 0) encEd_len ht rfl
      have htn : t.b.toNat < cs.length := by omega
      have hput := flag_put htn
      repeat' (first | (refine XT ?_; apply XE; (first | (apply ex_indexAddr_nat; rfl; rfl; omega; exact hspB) | (apply ex_indexAddr_nat; rfl; rfl; omega; exact hspT) | (apply ex_load; rfl; exact cl_rd hR.1.1 id hvt) | (apply ex_load; rfl; exact cl_rd hRb.2.2.2.2.2.1.1 id hvb2)); clear hA a; intro a hA) | (refine QT ?_; clear hA a; intro a hA) | (apply st_op0 hA rfl rfl; apply op_store_own1; rfl; rfl; rfl; exact hH; (repeat constructor); (rw [flat_length encB_len1]; omega); exact hput; clear hH; rintro _ w hH) | ((first | refine CT ?_ | (refine DT ?_ ?_ <;> intro hc <;> try (exfalso; omega))) <;> repeat' refine CT ?_) | fail)
      exact ⟨j + 1, ⟨_, ⟨hjl, by rw [List.length_set]; exact hcl, come_imp (come_set hcs) fun k hk => ⟨fun h => h.elim (fun h => h.elim .inl (fun h => .inr ((take_t ht k).2 (.inl h)))) (fun h => .inr ((take_t ht k).2 (.inr (by omega)))), fun h => h.elim (fun h => .inl (.inl h)) (fun h => ((take_t ht k).1 h).elim (fun h => .inl (.inr h)) (fun h => .inr (by omega)))⟩⟩, hH, (hA.sub SBT)⟩, by omega⟩
    clear hA hH hcs hcl
    rintro a w ⟨cs, ⟨hcl, hcs⟩, hH, hA⟩
    repeat' (first | (refine QT ?_; clear hA a; intro a hA) | (refine CT ?_ <;> repeat' refine CT ?_) | fail)
    exact ⟨i + 1, ⟨cs, ⟨hlt2, hcl, hcs⟩, hH, (hA.sub SBT)⟩, by omega⟩
  clear hA hH
  rintro a w ⟨cs, ⟨hcl, hcs⟩, hH, hA⟩
  have hflag := flag_at (cs := cs) (k := n) (by omega)
  have hnn := (hcs n (by omega)).trans (av_bs hE x (Nat.le_refl n))
  repeat' (first | (refine XT ?_; apply XE; (first | (apply ex_load; rfl; apply cl_own; exact MEMT; exact hflag)); clear hA a; intro a hA) | (refine QT ?_; clear hA a; intro a hA) | (refine CT ?_ <;> repeat' refine CT ?_) | fail)
  exact rt1 (.inl rfl) rfl hA rfl ⟨_, rfl, hnn, hH.kp⟩
end Go.Proofs.YtenlcdokaadobaaGreatDoor
namespace Go.Proofs.YtenlcdokaadobaaGreatDoor
open Go Go.Fw
set_option linter.unusedVariables false
inductive Vl
  | nil
  | num (n : Int)
  | txt (s : ByteArray)
  | fn (f : Int) (l : List Vl)
  | rc (ns : List Int) (l : List Vl)
  | tg (n : Int) (x : Vl)
  | cl (i : Nat)
  | ar (i : Nat)
def asNum : Vl → Option Int
  | .num n => some n
  | _ => none
def asTxt : Vl → Option ByteArray
  | .txt s => some s
  | _ => none
def asFn : Vl → Option (Int × List Vl)
  | .fn f l => some (f, l)
  | _ => none
def asRc : Vl → Option (List Int × List Vl)
  | .rc ns l => some (ns, l)
  | _ => none
def asTg : Vl → Option (Int × Vl)
  | .tg n x => some (n, x)
  | _ => none
def asCl : Vl → Option Nat
  | .cl i => some i
  | _ => none
def asAr : Vl → Option Nat
  | .ar i => some i
  | _ => none
structure Wd where
  inp : ByteArray
  out : List Nat
  st : List (List Vl)
def i64w (n : Int) : Int := IntKind.i64.wrap n
def w63 (n : Int) : Int := shrK .i64 (shlK .i64 n 1) 1
def tru (b : Bool) : Int := if b then 1 else 0
def opG (op a b : Int) : Int :=
  if op = 1 then i64w (a + b) else if op = 2 then i64w (a - b) else if op = 3 then i64w (a * b) else if op = 4 then i64w (Int.tdiv a b) else if op = 5 then Int.tmod a b
  else if op = 6 then i64w (-a) else if op = 7 then tru (decide (a = b)) else if op = 8 then tru (decide (a < b)) else tru (decide (a = 0))
def doF (op a b : Int) : Option Int := if op < 1 ∨ 9 < op then none else if w63 b = 0 ∧ (op = 4 ∨ op = 5) then none else some (w63 (opG op (w63 a) (w63 b)))
def bsL (l : List Int) (x : Int) (i j : Nat) : Nat :=
  if i < j then (if l.getD ((i + j) / 2) 0 < x then bsL l x ((i + j) / 2 + 1) j else bsL l x i ((i + j) / 2)) else i
termination_by j - i
def bsI (l : List Int) (x : Int) : Nat := bsL l x 0 l.length
def bsB (l : List Int) (x : Int) : Bool := decide (bsI l x < l.length ∧ l.getD (bsI l x) 0 = x)
theorem bsL_le (l : List Int) (x : Int) (i j : Nat) (h : i ≤ j) : i ≤ bsL l x i j ∧ bsL l x i j ≤ j := by
  fun_induction bsL l x i j with
  | case1 i j h1 h2 ih => have := ih (by omega); omega
  | case2 i j h1 h2 ih => have := ih (by omega); omega
  | case3 i j h1 => omega
theorem bsI_le (l : List Int) (x : Int) : bsI l x ≤ l.length := (bsL_le l x 0 l.length (Nat.zero_le _)).2
inductive Rs
  | val (v : Vl) (w : Wd)
  | exn (s : ByteArray)
def nth0 (l : List Vl) (i : Nat) : Vl := l.getD i .nil
def stk (w : Wd) : Rs := .val .nil w
def textsF (op : Int) (l : List Vl) (w : Wd) : Rs :=
  match asTxt (nth0 l 0) with
  | some s =>
    if op = 17 then .val (.num (bts s).length) w
    else if op = 19 then
      match asTxt (nth0 l 1) with
      | some t => if 4096 < (bts s).length + (bts t).length then .exn exnS else .val (.txt (s ++ t)) w
      | none => stk w
    else
      match asNum (nth0 l 1) with
      | some i => if i < 0 ∨ ((bts s).length : Int) ≤ i then .exn exnB else .val (.num ((bts s).getD i.toNat 0)) w
      | none => stk w
  | none => stk w
def arraysF (op : Int) (l : List Vl) (w : Wd) : Rs :=
  if op = 13 then
    match asNum (nth0 l 0) with
    | some n => if n < 0 ∨ 256 < n then .exn exnS else .val (.ar w.st.length) { w with st := w.st ++ [List.replicate n.toNat (nth0 l 1)] }
    | none => stk w
  else
    match asAr (nth0 l 0) with
    | some p =>
      if op = 16 then .val (.num (w.st.getD p []).length) w
      else
        match asNum (nth0 l 1) with
        | some i =>
          if i < 0 ∨ ((w.st.getD p []).length : Int) ≤ i then .exn exnB
          else if op = 14 then .val (nth0 (w.st.getD p []) i.toNat) w
          else .val (.num 0) { w with st := w.st.set p ((w.st.getD p []).set i.toNat (nth0 l 2)) }
        | none => stk w
    | none => stk w
def opF (op : Int) (l : List Vl) (w : Wd) : Rs :=
  if op = 10 then .val (.cl w.st.length) { w with st := w.st ++ [[nth0 l 0]] }
  else if op = 11 then
    match asCl (nth0 l 0) with
    | some p => .val (nth0 (w.st.getD p []) 0) w
    | none => stk w
  else if op = 12 then
    match asCl (nth0 l 0) with
    | some p => .val (.num 0) { w with st := w.st.set p [nth0 l 1] }
    | none => stk w
  else if op = 17 ∨ op = 18 ∨ op = 19 then textsF op l w
  else if op = 13 ∨ op = 14 ∨ op = 15 ∨ op = 16 then arraysF op l w
  else
    match asNum (nth0 l 0), (if 1 < l.length then asNum (nth0 l 1) else some 0) with
    | some a, some b =>
      if op = 20 then (if eqS w.inp empS = true then .val (.num (-1)) w else .val (.num ((bts w.inp).getD 0 0)) { w with inp := w.inp.extract 1 w.inp.size })
      else if op = 21 then .val (.num 0) { w with out := w.out ++ [(IntKind.u8.wrap a).toNat] }
      else match doF op a b with
        | some n => .val (.num n) w
        | none => .exn exnD
    | _, _ => stk w
def plainF (r : Stp) (l : List Vl) (cs : List Vl) (w : Wd) : Rs :=
  if r.k = 1 then .val (nth0 l 0) w
  else if r.k = 2 then opF r.n l w
  else if r.k = 4 then .val (.fn r.n l) w
  else if r.k = 5 then .val (nth0 cs r.n.toNat) w
  else if r.k = 6 then .val (.rc r.ns.l l) w
  else if r.k = 7 then
    match asRc (nth0 l 0) with
    | some (ns, xs) => if bsB ns r.n then .val (.rc ns (xs.set (bsI ns r.n) (nth0 l 1))) w else .val (.rc (ns.insertIdx (bsI ns r.n) r.n) (xs.insertIdx (bsI ns r.n) (nth0 l 1))) w
    | none => stk w
  else if r.k = 8 then
    match asRc (nth0 l 0) with
    | some (ns, xs) => if bsB ns r.n then .val (nth0 xs (bsI ns r.n)) w else stk w
    | none => stk w
  else if r.k = 9 then .val (.tg r.n (nth0 l 0)) w
  else if r.k = 10 then
    match asTg (nth0 l 0) with
    | some (n, x) => .val (.num n) w
    | none => stk w
  else if r.k = 11 then
    match asTg (nth0 l 0) with
    | some (n, x) => .val x w
    | none => stk w
  else if r.k = 12 then
    match asTxt (nth0 l 0), asTxt (nth0 l 1) with
    | some s, some t => .val (.num (tru (eqS s t))) w
    | _, _ => stk w
  else stk w
end Go.Proofs.YtenlcdokaadobaaGreatDoor
namespace Go.Proofs.YtenlcdokaadobaaGreatDoor
open Go Go.Fw
set_option linter.unusedVariables false
def pset (m : List (Int × Vl)) (k : Int) (v : Vl) : List (Int × Vl) :=
  if (m.find? (fun e => e.1 == k)).isSome then m.map (fun e => if e.1 == k then (k, v) else e) else m ++ [(k, v)]
def pget (m : List (Int × Vl)) (k : Int) : Vl := ((m.find? (fun e => e.1 == k)).map (·.2)).getD .nil
abbrev Clo := Int × List Vl
structure Fm where
  c : Clo
  vs : List (Int × Vl)
  b : Nat
  i : Nat
  h : Option Clo
structure Mc where
  wd : Wd
  sk : List Fm
  fm : Fm
inductive Sr
  | go (m : Mc)
  | stop (kind : Int) (res : ByteArray) (wd : Wd)
def stuckF (w : Wd) : Sr := .stop 4 ⟨#[]⟩ w
def blkOf (g : Grs) (f : Int) (b : Nat) : Blc := (g.fs.l.getD f.toNat gr0).bs.l.getD b blc0
def curB (g : Grs) (m : Fm) : Blc := blkOf g m.c.1 m.b
def getF (g : Grs) (fm : Fm) (a : Atm) : Vl := if a.k = 1 then pget fm.vs a.n else if a.k = 3 then .txt (g.ss.l.getD a.n.toNat default) else .num a.n
def allF (g : Grs) (fm : Fm) (l : List Atm) : List Vl := l.map (getF g fm)
def newF (c : Clo) (x : Vl) : Fm := ⟨c, [(0, .fn c.1 c.2), (1, x)], 0, 0, none⟩
def enterF (f x : Vl) (w : Wd) (sk : List Fm) : Sr :=
  match asFn f with
  | some c => .go ⟨w, sk, newF c x⟩
  | none => stuckF w
def raiseL (n : Int) (w : Wd) : List Fm → Option (List Fm × Clo)
  | [] => none
  | f :: r => match f.h with
    | some c => some ({ f with h := none } :: r, c)
    | none => raiseL n w r
def raiseB : ByteArray := ⟨#[114, 97, 105, 115, 101, 32]⟩
def raiseF (g : Grs) (n : Int) (w : Wd) (sk : List Fm) : Sr :=
  if n < 0 ∨ (g.xs.l.length : Int) ≤ n then stuckF w
  else match raiseL n w sk with
    | some (sk', c) => .go ⟨w, sk', newF c (.num n)⟩
    | none => .stop 1 (raiseB ++ g.xs.l.getD n.toNat default) w
end Go.Proofs.YtenlcdokaadobaaGreatDoor
namespace Go.Fw
open Go Go.RowKit
set_option linter.unusedVariables false
class TNi (P : Program) (t : TypeId) : Prop where
  eq : ∃ d, P.underlying t = some d ∧ (match d with | .interface _ => true | _ => false) = false
class TIc (P : Program) (t : TypeId) : Prop where
  eq : ∃ ms, P.underlying t = some (.interface ms)
section
variable {P : Program} {N : Nat} {l : List (Nat × Value)} {C : World → Prop} {d : Option Tmp} {T : TypeId} {pos : String} {af : Array Edge} {g : Option (Nat × Bool)}
theorem ex_iface {t : TypeId} {x : Operand} {v : Value} [h : TNi P t] (hx : ev l x = some v) : Ex P N l C ⟨d, .makeInterface t x, T, pos, af, g⟩ (.iface t v) := by
  intro a w hA _
  obtain ⟨u, h1, h2⟩ := h.eq
  cases u <;> simp_all [execOp, hA.ev hx, Instr.makeInterface, run_underlying h1]
theorem ex_assertY {xt t : TypeId} {x : Operand} {v : Value} [h : TNi P t] (hx : ev l x = some (.iface t v)) : Ex P N l C ⟨d, .typeAssert x xt t true, T, pos, af, g⟩ (.tuple #[v, .bool true]) := by
  intro a w hA _
  obtain ⟨u, h1, h2⟩ := h.eq
  cases u <;> simp_all [execOp, hA.ev hx, Instr.typeAssert, run_underlying h1]
theorem ex_assertN {xt t s sz by_ : Nat} {z : Value} {zs : List Value} {x : Operand} {v : Value} [h : TNi P t] [hi : TIf P t z zs sz by_] (hx : ev l x = some (.iface s v)) (hne : Nat.beq s t = false) : Ex P N l C ⟨d, .typeAssert x xt t true, T, pos, af, g⟩ (.tuple #[z, .bool false]) := by
  intro a w hA _
  obtain ⟨u, h1, h2⟩ := h.eq
  obtain ⟨ti, h3, h4, h5, h6⟩ := hi.eq
  have hst : s ≠ t := fun e => by subst e; simp at hne
  cases u <;> simp_all [execOp, hA.ev hx, Instr.typeAssert, run_underlying h1, zeroValue, typeInfo]
theorem ex_assert0 {xt t sz by_ : Nat} {z : Value} {zs : List Value} {x : Operand} [h : TNi P t] [hi : TIf P t z zs sz by_] (hx : ev l x = some .nilIface) : Ex P N l C ⟨d, .typeAssert x xt t true, T, pos, af, g⟩ (.tuple #[z, .bool false]) := by
  intro a w hA _
  obtain ⟨u, h1, h2⟩ := h.eq
  obtain ⟨ti, h3, h4, h5, h6⟩ := hi.eq
  cases u <;> simp_all [execOp, hA.ev hx, Instr.typeAssert, run_underlying h1, zeroValue, typeInfo]
theorem run_eqlI0 (w : World) (D : Nat) (t : TypeId) {ms : Array (String × TypeId)} (h : P.underlying t = some (.interface ms)) : (Op.equalIn (D + 1) t .nilIface .nilIface).run P w = .ok true w := by
  simp [Op.equalIn, run_underlying h]
theorem run_eqlI1 (w : World) (D : Nat) (t s : TypeId) (v : Value) {ms : Array (String × TypeId)} (h : P.underlying t = some (.interface ms)) : (Op.equalIn (D + 1) t (.iface s v) .nilIface).run P w = .ok false w := by
  simp [Op.equalIn, run_underlying h]
theorem ex_eqlI0 {t ty : TypeId} {x : Operand} [h : TIc P t] (hx : ev l x = some .nilIface) : Ex P N l C ⟨d, .binOp .eql t x (.const .nilIface) ty, T, pos, af, g⟩ (.bool true) := by
  intro a w hA _
  obtain ⟨ms, h1⟩ := h.eq
  have e : a.eval (.const .nilIface) = .nilIface := rfl
  have e2 : (Op.equal t .nilIface .nilIface).run P w = .ok true w := run_eqlI0 w 9999 t h1
  simp [execOp, hA.ev hx, e, eqGuard_nil_constR, binOp, e2]
theorem ex_eqlI1 {t ty s : TypeId} {v : Value} {x : Operand} [h : TIc P t] (hx : ev l x = some (.iface s v)) : Ex P N l C ⟨d, .binOp .eql t x (.const .nilIface) ty, T, pos, af, g⟩ (.bool false) := by
  intro a w hA _
  obtain ⟨ms, h1⟩ := h.eq
  have e : a.eval (.const .nilIface) = .nilIface := rfl
  have e2 : (Op.equal t (.iface s v) .nilIface).run P w = .ok false w := run_eqlI1 w 9999 t s v h1
  simp [execOp, hA.ev hx, e, eqGuard_at_iface, binOp, e2]
theorem ex_addS {t ty : TypeId} {x y : Operand} {m n : ByteArray} [h : TSr P t] (hx : ev l x = some (.string m)) (hy : ev l y = some (.string n)) (hs : m.size + n.size ≤ 9223372036854775807) : Ex P N l C ⟨d, .binOp .add t x y ty, T, pos, af, g⟩ (.string (m ++ n)) := by
  intro a w hA _
  have h1 : ¬ ((m.size + n.size : Nat) : Int) > IntKind.i64.max := by
    have : IntKind.i64.max = 9223372036854775807 := by decide
    rw [this]; omega
  simp only [execOp, hA.ev hx, hA.ev hy, eqGuard_at_string, binOp, Op.stringOp, if_neg h1]
  rfl
theorem ex_slice_string_lo {t : TypeId} {x y : Operand} {s : ByteArray} {kd : IntKind} {m : Int} {i : Nat} [ht : TSr P t] (hx : ev l x = some (.string s)) (hy : ev l y = some (.int kd m)) (hk : m = (i : Int)) (hij : i ≤ s.size) :
    Ex P N l C ⟨d, .slice t x (some y) none none, T, pos, af, g⟩ (.string (s.extract i s.size)) := by
  intro a w hA _
  subst hk
  have h2 : (i : Int) ≤ (s.size : Int) := by omega
  simp only [execOp, hA.ev hx, Instr.sliceAt, Sem.run_bind, run_underlying ht.eq, Result.andThen_ok, Instr.slice, Instr.sliceBounds, Option.map_some, Option.map_none, Sem.run_pure, hA.ev hy, Instr.sliceBound, asIntOf]
  simp [hij]
end
end Go.Fw
namespace Go.Fw
open Go Go.RowKit
set_option linter.unusedVariables false
def frz (w0 : World) (K : World → Prop) : It where
  sat w F := (∀ b, F b → b < w.heap.size) ∧ ∀ w' : World, Kp w0 noM w' → (∀ b, F b → w'.heap[b]? = w.heap[b]?) → K w'
  loc := fun {w w' F} ⟨h1, h2⟩ he => ⟨fun b hb => by
    have h3 := he b hb
    rw [Array.getElem?_eq_getElem (h1 b hb)] at h3
    exact lt_of_heap h3, fun w2 hk h3 => h2 w2 hk fun b hb => (h3 b hb).trans (he b hb)⟩
  lt := fun ⟨h1, _⟩ b hb => h1 b hb
  ext := fun ⟨h1, h2⟩ he => ⟨fun b hb => h1 b ((he b).2 hb), fun w' hk h3 => h2 w' hk fun b hb => h3 b ((he b).1 hb)⟩
section
variable {w0 w w' : World} {H L : List It} {K K1 K2 : World → Prop}
theorem HS.frz (h : HS w0 noM H w) (hm : Go.Fw.frz w0 K ∈ H) : K w :=
  let ⟨_, h1, h2⟩ := h.sat hm
  h2 w h.kp fun _ _ => rfl
theorem HS.frz_nil (h : HS w0 noM H w) (hK : ∀ w, Kp w0 noM w → K w) : HS w0 noM (Go.Fw.frz w0 K :: H) w := by
  obtain ⟨hk, F, hF, ho⟩ := h
  exact ⟨hk, F, ⟨fun _ => False, F, fun b => by simp, fun b hb => hb.elim, ⟨fun b hb => hb.elim, fun w' hk _ => hK w' hk⟩, hF⟩, ho⟩
theorem HS.frz_all (h : HS w0 noM (all (L ++ [Go.Fw.frz w0 K]) :: H) w) (hK : ∀ w F, Hp w L F → K1 w) : HS w0 noM (Go.Fw.frz w0 (fun w => K1 w ∧ K w) :: H) w :=
  h.conv .here fun F h1 => ⟨fun b hb => Hp.lt h1 b hb, fun w' hk h3 => by
    obtain ⟨F1, F2, hF, hd, h4, h5⟩ := Hp.append (Hp.loc h1 h3)
    obtain ⟨F3, F4, hG, hd', h6, h7⟩ := h5
    exact ⟨hK w' F1 h4, h6.2 w' hk fun _ _ => rfl⟩⟩
theorem HS.frz_it {it : It} (h : HS w0 noM (it :: Go.Fw.frz w0 K :: H) w) (hK : ∀ w F, it.sat w F → K1 w) : HS w0 noM (Go.Fw.frz w0 (fun w => K1 w ∧ K w) :: H) w := by
  have h1 : HS w0 noM (all ([it] ++ [Go.Fw.frz w0 K]) :: H) w := HS.shut (L := [it] ++ [Go.Fw.frz w0 K]) h
  exact h1.frz_all fun w F ⟨F1, F2, hF, hd, h2, h3⟩ => hK w F1 h2
theorem HS.frz_own {T sz : Nat} {o : Option Addr} {n c : Nat} {xs : List Value} (h : HS w0 noM (own T sz o n c xs :: Go.Fw.frz w0 K :: H) w) : HS w0 noM (Go.Fw.frz w0 (fun w => Rd w o xs ∧ K w) :: H) w :=
  h.frz_it fun w F h1 => Fw.own_rd h1
theorem cl_frz {j : Nat} {o : Option Addr} {xs : List Value} {v : Value} (hm : frz w0 K ∈ H) (hr : ∀ w, K w → Rd w o xs) (hv : xs[j]? = some v) : Cl (HS w0 noM H) (sat o j) v :=
  fun w hH => (hr w (hH.frz hm)).2 j v hv
end
def RdB (w : World) (p : Nat) (cs : List Value) : Prop := ∀ j u, cs[j]? = some u → w.cell? (bat p j) = some u
section
variable {w0 w w' : World} {H L : List It} {K K1 K2 : World → Prop}
theorem RdB.of_blk {p T : Nat} {cs : List Value} (h : w.heap[p]? = some (.cells cs.toArray T (0, 0))) : RdB w p cs := fun j u hj => by
  rw [bat, cell_of_cells h]
  simpa using hj
theorem HS.frz_cb {b T : Nat} {cs : List Value} (h : HS w0 noM (cb b T cs :: Go.Fw.frz w0 K :: H) w) : HS w0 noM (Go.Fw.frz w0 (fun w => RdB w b cs ∧ K w) :: H) w :=
  h.frz_it fun w F ⟨_, h1⟩ => RdB.of_blk h1
theorem cl_frzB {p j : Nat} {cs : List Value} {v : Value} (hm : frz w0 K ∈ H) (hr : ∀ w, K w → RdB w p cs) (hv : nth cs j = some v) : Cl (HS w0 noM H) (bat p j) v :=
  fun w hH => hr w (hH.frz hm) j v (by rw [← nth_eq]; exact hv)
end
end Go.Fw
namespace Go.Proofs.YtenlcdokaadobaaGreatDoor
open Go Go.Fw
set_option linter.unusedVariables false
structure Cx where
  K : World → Prop
  ad : List (Nat × Bool)
  bd : Nat
  nf : Nat
def iok (n : Int) : Prop := -9223372036854775808 ≤ n ∧ n ≤ 9223372036854775807
def ptrV (T p : Nat) : Value := .iface T (.pointer (some (bat p 0)))
mutual
def RV (c : Cx) : Vl → Value → Prop
  | .nil, v => v = .nilIface
  | .num n, v => v = .iface 2 (.int .i64 n) ∧ iok n
  | .txt s, v => v = .iface 9 (.string s) ∧ s.size ≤ 4096
  | .fn f l, v => ∃ p o k vs, v = ptrV 79 p ∧ (0 ≤ f ∧ f < c.nf) ∧ (∀ w, c.K w → RdB w p [.int .i64 f, .slice o l.length k]) ∧ (∀ w, c.K w → Rd w o vs) ∧ RVs c l vs
  | .rc ns l, v => ∃ p on cn ol cl vs, v = ptrV 194 p ∧ (ns.length = l.length ∧ ns.length ≤ c.bd ∧ ns.length ≤ cn ∧ cn ≤ maxLen ∧ l.length ≤ cl ∧ cl ≤ maxLen) ∧ (∀ w, c.K w → RdB w p [.slice on ns.length cn, .slice ol l.length cl]) ∧ (∀ w, c.K w → Rd w on (flat Fw.encI ns)) ∧ (∀ w, c.K w → Rd w ol vs) ∧ RVs c l vs
  | .tg n x, v => ∃ p u, v = ptrV 202 p ∧ iok n ∧ (∀ w, c.K w → RdB w p [.int .i64 n, u]) ∧ RV c x u
  | .cl i, v => ∃ p, v = ptrV 232 p ∧ c.ad[i]? = some (p, true)
  | .ar i, v => ∃ p, v = ptrV 243 p ∧ c.ad[i]? = some (p, false)
def RVs (c : Cx) : List Vl → List Value → Prop
  | [], vs => vs = []
  | x :: l, vs => ∃ v r, vs = v :: r ∧ RV c x v ∧ RVs c l r
end
structure Cx.le (c d : Cx) : Prop where
  K : ∀ w, d.K w → c.K w
  ad : ∃ t, d.ad = c.ad ++ t
  bd : c.bd ≤ d.bd
  nf : c.nf = d.nf
theorem Cx.le_refl (c : Cx) : c.le c := ⟨fun _ h => h, ⟨[], by simp⟩, Nat.le_refl _, rfl⟩
theorem Cx.le.trans {c d e : Cx} (h : c.le d) (h' : d.le e) : c.le e := by
  obtain ⟨t, ht⟩ := h.ad
  obtain ⟨t', ht'⟩ := h'.ad
  exact ⟨fun w hw => h.K w (h'.K w hw), ⟨t ++ t', by rw [ht', ht, List.append_assoc]⟩, Nat.le_trans h.bd h'.bd, h.nf.trans h'.nf⟩
theorem Cx.le.at {c d : Cx} (h : c.le d) {i : Nat} {e : Nat × Bool} (hi : c.ad[i]? = some e) : d.ad[i]? = some e := by
  obtain ⟨t, ht⟩ := h.ad
  rw [ht, List.getElem?_append_left (List.getElem?_eq_some_iff.1 hi).1]
  exact hi
mutual
theorem RV.mono {c d : Cx} (h : c.le d) : ∀ (x : Vl) (v : Value), RV c x v → RV d x v
  | .nil, v, hv => by rw [RV] at hv ⊢; exact hv
  | .num n, v, hv => by rw [RV] at hv ⊢; exact hv
  | .txt s, v, hv => by rw [RV] at hv ⊢; exact hv
  | .fn f l, v, hv => by
    rw [RV] at hv ⊢
    obtain ⟨p, o, k, vs, h1, h2, h3, h4, h5⟩ := hv
    exact ⟨p, o, k, vs, h1, h.nf ▸ h2, fun w hw => h3 w (h.K w hw), fun w hw => h4 w (h.K w hw), RVs.mono h l vs h5⟩
  | .rc ns l, v, hv => by
    rw [RV] at hv ⊢
    obtain ⟨p, on, cn, ol, cl, vs, h1, h2, h3, h4, h5, h6⟩ := hv
    exact ⟨p, on, cn, ol, cl, vs, h1, ⟨h2.1, Nat.le_trans h2.2.1 h.bd, h2.2.2⟩, fun w hw => h3 w (h.K w hw), fun w hw => h4 w (h.K w hw), fun w hw => h5 w (h.K w hw), RVs.mono h l vs h6⟩
  | .tg n x, v, hv => by
    rw [RV] at hv ⊢
    obtain ⟨p, u, h1, h2, h3, h4⟩ := hv
    exact ⟨p, u, h1, h2, fun w hw => h3 w (h.K w hw), RV.mono h x u h4⟩
  | .cl i, v, hv => by
    rw [RV] at hv ⊢
    obtain ⟨p, h1, h2⟩ := hv
    exact ⟨p, h1, h.at h2⟩
  | .ar i, v, hv => by
    rw [RV] at hv ⊢
    obtain ⟨p, h1, h2⟩ := hv
    exact ⟨p, h1, h.at h2⟩
theorem RVs.mono {c d : Cx} (h : c.le d) : ∀ (l : List Vl) (vs : List Value), RVs c l vs → RVs d l vs
  | [], vs, hv => by rw [RVs] at hv ⊢; exact hv
  | x :: l, vs, hv => by
    rw [RVs] at hv ⊢
    obtain ⟨v, r, h1, h2, h3⟩ := hv
    exact ⟨v, r, h1, RV.mono h x v h2, RVs.mono h l r h3⟩
end
theorem RV.one {c : Cx} {x : Vl} {v : Value} (h : RV c x v) : v.oneCell' = true := by
  cases x <;> rw [RV] at h
  · rw [h]; rfl
  · rw [h.1]; rfl
  · rw [h.1]; rfl
  · obtain ⟨p, o, k, vs, h1, _⟩ := h; rw [h1]; rfl
  · obtain ⟨p, on, cn, ol, cl, vs, h1, _⟩ := h; rw [h1]; rfl
  · obtain ⟨p, u, h1, _⟩ := h; rw [h1]; rfl
  · obtain ⟨p, h1, _⟩ := h; rw [h1]; rfl
  · obtain ⟨p, h1, _⟩ := h; rw [h1]; rfl
def NotT (T : TypeId) (v : Value) : Prop := v = .nilIface ∨ ∃ s u, v = .iface s u ∧ Nat.beq s T = false
instance : TNi Tryz.prog 2 := ⟨_, Tryz.underlying2, rfl⟩
instance : TNi Tryz.prog 9 := ⟨_, Tryz.underlying9, rfl⟩
instance : TNi Tryz.prog 79 := ⟨_, Tryz.underlying79, rfl⟩
instance : TNi Tryz.prog 194 := ⟨_, Tryz.underlying194, rfl⟩
instance : TNi Tryz.prog 202 := ⟨_, Tryz.underlying202, rfl⟩
instance : TNi Tryz.prog 232 := ⟨_, Tryz.underlying232, rfl⟩
instance : TNi Tryz.prog 243 := ⟨_, Tryz.underlying243, rfl⟩
instance : TIc Tryz.prog 137 := ⟨_, Tryz.underlying137⟩
theorem ex_assertX {P : Program} {N : Nat} {l : List (Nat × Value)} {C : World → Prop} {d : Option Tmp} {T : TypeId} {pos : String} {af : Array Edge} {g : Option (Nat × Bool)} {xt t sz by_ : Nat} {z : Value} {zs : List Value} {x : Operand} {v : Value} [h : TNi P t] [hi : TIf P t z zs sz by_] (hx : ev l x = some v) (hn : NotT t v) :
    Ex P N l C ⟨d, .typeAssert x xt t true, T, pos, af, g⟩ (.tuple #[z, .bool false]) := by
  rcases hn with rfl | ⟨s, u, rfl, hb⟩
  · exact ex_assert0 hx
  · exact ex_assertN hx hb
theorem RV.asNum {c : Cx} {x : Vl} {v : Value} (h : RV c x v) : (∃ n, asNum x = some n ∧ v = .iface 2 (.int .i64 n) ∧ iok n) ∨ (asNum x = none ∧ NotT 2 v) := by
  cases x <;> rw [RV] at h
  · exact .inr ⟨rfl, .inl h⟩
  · exact .inl ⟨_, rfl, h⟩
  · exact .inr ⟨rfl, .inr ⟨_, _, h.1, rfl⟩⟩
  · obtain ⟨p, o, k, vs, h1, _⟩ := h; exact .inr ⟨rfl, .inr ⟨_, _, h1, rfl⟩⟩
  · obtain ⟨p, on, cn, ol, cl, vs, h1, _⟩ := h; exact .inr ⟨rfl, .inr ⟨_, _, h1, rfl⟩⟩
  · obtain ⟨p, u, h1, _⟩ := h; exact .inr ⟨rfl, .inr ⟨_, _, h1, rfl⟩⟩
  · obtain ⟨p, h1, _⟩ := h; exact .inr ⟨rfl, .inr ⟨_, _, h1, rfl⟩⟩
  · obtain ⟨p, h1, _⟩ := h; exact .inr ⟨rfl, .inr ⟨_, _, h1, rfl⟩⟩
theorem RV.asTxt {c : Cx} {x : Vl} {v : Value} (h : RV c x v) : (∃ s, asTxt x = some s ∧ v = .iface 9 (.string s) ∧ s.size ≤ 4096) ∨ (asTxt x = none ∧ NotT 9 v) := by
  cases x <;> rw [RV] at h
  · exact .inr ⟨rfl, .inl h⟩
  · exact .inr ⟨rfl, .inr ⟨_, _, h.1, rfl⟩⟩
  · exact .inl ⟨_, rfl, h⟩
  · obtain ⟨p, o, k, vs, h1, _⟩ := h; exact .inr ⟨rfl, .inr ⟨_, _, h1, rfl⟩⟩
  · obtain ⟨p, on, cn, ol, cl, vs, h1, _⟩ := h; exact .inr ⟨rfl, .inr ⟨_, _, h1, rfl⟩⟩
  · obtain ⟨p, u, h1, _⟩ := h; exact .inr ⟨rfl, .inr ⟨_, _, h1, rfl⟩⟩
  · obtain ⟨p, h1, _⟩ := h; exact .inr ⟨rfl, .inr ⟨_, _, h1, rfl⟩⟩
  · obtain ⟨p, h1, _⟩ := h; exact .inr ⟨rfl, .inr ⟨_, _, h1, rfl⟩⟩
def FnR (c : Cx) (f : Int) (l : List Vl) (p : Nat) : Prop := ∃ o k vs, (0 ≤ f ∧ f < c.nf) ∧ (∀ w, c.K w → RdB w p [.int .i64 f, .slice o l.length k]) ∧ (∀ w, c.K w → Rd w o vs) ∧ RVs c l vs
theorem FnR.rv {c : Cx} {f : Int} {l : List Vl} {p : Nat} (h : FnR c f l p) : RV c (.fn f l) (ptrV 79 p) := by
  obtain ⟨o, k, vs, h1, h2, h3, h4⟩ := h
  rw [RV]
  exact ⟨p, o, k, vs, rfl, h1, h2, h3, h4⟩
theorem FnR.mono {c d : Cx} (h : c.le d) {f : Int} {l : List Vl} {p : Nat} (hf : FnR c f l p) : FnR d f l p := by
  obtain ⟨o, k, vs, h1, h2, h3, h4⟩ := hf
  exact ⟨o, k, vs, h.nf ▸ h1, fun w hw => h2 w (h.K w hw), fun w hw => h3 w (h.K w hw), RVs.mono h _ _ h4⟩
theorem RV.asFn {c : Cx} {x : Vl} {v : Value} (h : RV c x v) : (∃ f l p, asFn x = some (f, l) ∧ v = ptrV 79 p ∧ FnR c f l p) ∨ (asFn x = none ∧ NotT 79 v) := by
  cases x <;> rw [RV] at h
  · exact .inr ⟨rfl, .inl h⟩
  · exact .inr ⟨rfl, .inr ⟨_, _, h.1, rfl⟩⟩
  · exact .inr ⟨rfl, .inr ⟨_, _, h.1, rfl⟩⟩
  · obtain ⟨p, o, k, vs, h1, h2⟩ := h; exact .inl ⟨_, _, p, rfl, h1, o, k, vs, h2⟩
  · obtain ⟨p, on, cn, ol, cl, vs, h1, _⟩ := h; exact .inr ⟨rfl, .inr ⟨_, _, h1, rfl⟩⟩
  · obtain ⟨p, u, h1, _⟩ := h; exact .inr ⟨rfl, .inr ⟨_, _, h1, rfl⟩⟩
  · obtain ⟨p, h1, _⟩ := h; exact .inr ⟨rfl, .inr ⟨_, _, h1, rfl⟩⟩
  · obtain ⟨p, h1, _⟩ := h; exact .inr ⟨rfl, .inr ⟨_, _, h1, rfl⟩⟩
theorem RV.asRc {c : Cx} {x : Vl} {v : Value} (h : RV c x v) : (∃ ns l p on cn ol cl vs, asRc x = some (ns, l) ∧ v = ptrV 194 p ∧ (ns.length = l.length ∧ ns.length ≤ c.bd ∧ ns.length ≤ cn ∧ cn ≤ maxLen ∧ l.length ≤ cl ∧ cl ≤ maxLen) ∧ (∀ w, c.K w → RdB w p [.slice on ns.length cn, .slice ol l.length cl]) ∧ (∀ w, c.K w → Rd w on (flat Fw.encI ns)) ∧ (∀ w, c.K w → Rd w ol vs) ∧ RVs c l vs) ∨ (asRc x = none ∧ NotT 194 v) := by
  cases x <;> rw [RV] at h
  · exact .inr ⟨rfl, .inl h⟩
  · exact .inr ⟨rfl, .inr ⟨_, _, h.1, rfl⟩⟩
  · exact .inr ⟨rfl, .inr ⟨_, _, h.1, rfl⟩⟩
  · obtain ⟨p, o, k, vs, h1, h2⟩ := h; exact .inr ⟨rfl, .inr ⟨_, _, h1, rfl⟩⟩
  · obtain ⟨p, on, cn, ol, cl, vs, h1, h2⟩ := h; exact .inl ⟨_, _, p, on, cn, ol, cl, vs, rfl, h1, h2⟩
  · obtain ⟨p, u, h1, _⟩ := h; exact .inr ⟨rfl, .inr ⟨_, _, h1, rfl⟩⟩
  · obtain ⟨p, h1, _⟩ := h; exact .inr ⟨rfl, .inr ⟨_, _, h1, rfl⟩⟩
  · obtain ⟨p, h1, _⟩ := h; exact .inr ⟨rfl, .inr ⟨_, _, h1, rfl⟩⟩
theorem RV.asTg {c : Cx} {x : Vl} {v : Value} (h : RV c x v) : (∃ n y p u, asTg x = some (n, y) ∧ v = ptrV 202 p ∧ iok n ∧ (∀ w, c.K w → RdB w p [.int .i64 n, u]) ∧ RV c y u) ∨ (asTg x = none ∧ NotT 202 v) := by
  cases x <;> rw [RV] at h
  · exact .inr ⟨rfl, .inl h⟩
  · exact .inr ⟨rfl, .inr ⟨_, _, h.1, rfl⟩⟩
  · exact .inr ⟨rfl, .inr ⟨_, _, h.1, rfl⟩⟩
  · obtain ⟨p, o, k, vs, h1, h2⟩ := h; exact .inr ⟨rfl, .inr ⟨_, _, h1, rfl⟩⟩
  · obtain ⟨p, on, cn, ol, cl, vs, h1, h2⟩ := h; exact .inr ⟨rfl, .inr ⟨_, _, h1, rfl⟩⟩
  · obtain ⟨p, u, h1, h2⟩ := h; exact .inl ⟨_, _, p, u, rfl, h1, h2⟩
  · obtain ⟨p, h1, _⟩ := h; exact .inr ⟨rfl, .inr ⟨_, _, h1, rfl⟩⟩
  · obtain ⟨p, h1, _⟩ := h; exact .inr ⟨rfl, .inr ⟨_, _, h1, rfl⟩⟩
theorem RV.asCl {c : Cx} {x : Vl} {v : Value} (h : RV c x v) : (∃ i p, asCl x = some i ∧ v = ptrV 232 p ∧ c.ad[i]? = some (p, true)) ∨ (asCl x = none ∧ NotT 232 v) := by
  cases x <;> rw [RV] at h
  · exact .inr ⟨rfl, .inl h⟩
  · exact .inr ⟨rfl, .inr ⟨_, _, h.1, rfl⟩⟩
  · exact .inr ⟨rfl, .inr ⟨_, _, h.1, rfl⟩⟩
  · obtain ⟨p, o, k, vs, h1, h2⟩ := h; exact .inr ⟨rfl, .inr ⟨_, _, h1, rfl⟩⟩
  · obtain ⟨p, on, cn, ol, cl, vs, h1, h2⟩ := h; exact .inr ⟨rfl, .inr ⟨_, _, h1, rfl⟩⟩
  · obtain ⟨p, u, h1, h2⟩ := h; exact .inr ⟨rfl, .inr ⟨_, _, h1, rfl⟩⟩
  · obtain ⟨p, h1, h2⟩ := h; exact .inl ⟨_, p, rfl, h1, h2⟩
  · obtain ⟨p, h1, _⟩ := h; exact .inr ⟨rfl, .inr ⟨_, _, h1, rfl⟩⟩
theorem RV.asAr {c : Cx} {x : Vl} {v : Value} (h : RV c x v) : (∃ i p, asAr x = some i ∧ v = ptrV 243 p ∧ c.ad[i]? = some (p, false)) ∨ (asAr x = none ∧ NotT 243 v) := by
  cases x <;> rw [RV] at h
  · exact .inr ⟨rfl, .inl h⟩
  · exact .inr ⟨rfl, .inr ⟨_, _, h.1, rfl⟩⟩
  · exact .inr ⟨rfl, .inr ⟨_, _, h.1, rfl⟩⟩
  · obtain ⟨p, o, k, vs, h1, h2⟩ := h; exact .inr ⟨rfl, .inr ⟨_, _, h1, rfl⟩⟩
  · obtain ⟨p, on, cn, ol, cl, vs, h1, h2⟩ := h; exact .inr ⟨rfl, .inr ⟨_, _, h1, rfl⟩⟩
  · obtain ⟨p, u, h1, h2⟩ := h; exact .inr ⟨rfl, .inr ⟨_, _, h1, rfl⟩⟩
  · obtain ⟨p, h1, h2⟩ := h; exact .inr ⟨rfl, .inr ⟨_, _, h1, rfl⟩⟩
  · obtain ⟨p, h1, h2⟩ := h; exact .inl ⟨_, p, rfl, h1, h2⟩
def RsV (c : Cx) (r : Rs) (v : Value) : Prop :=
  match r with
  | .val x _ => ∃ u, RV c x u ∧ v = .tuple #[u, .string empS]
  | .exn s => v = .tuple #[.nilIface, .string s]
theorem RVs.len {c : Cx} : ∀ {l : List Vl} {vs : List Value}, RVs c l vs → vs.length = l.length
  | [], vs, h => by rw [RVs] at h; rw [h]; rfl
  | x :: l, vs, h => by
    rw [RVs] at h
    obtain ⟨v, r, h1, h2, h3⟩ := h
    rw [h1, List.length_cons, List.length_cons, h3.len]
theorem RVs.at {c : Cx} : ∀ {l : List Vl} {vs : List Value} {i : Nat} {x : Vl}, RVs c l vs → l[i]? = some x → ∃ v, vs[i]? = some v ∧ RV c x v
  | [], vs, i, x, h, hi => by simp at hi
  | y :: l, vs, i, x, h, hi => by
    rw [RVs] at h
    obtain ⟨v, r, rfl, h2, h3⟩ := h
    cases i with
    | zero => obtain rfl : y = x := by simpa using hi
              exact ⟨v, rfl, h2⟩
    | succ i => exact h3.at (i := i) (by simpa using hi)
theorem RVs.get0 {c : Cx} {l : List Vl} {vs : List Value} {i : Nat} (h : RVs c l vs) (hi : i < l.length) : ∃ v, vs[i]? = some v ∧ RV c (nth0 l i) v := by
  have h1 : l[i]? = some (nth0 l i) := by
    unfold nth0
    rw [List.getD_eq_getElem?_getD, List.getElem?_eq_getElem hi]
    rfl
  exact h.at h1
theorem RVs.all {c : Cx} {l : List Vl} {vs : List Value} (h : RVs c l vs) : vs.all (·.oneCell') = true := by
  induction l generalizing vs with
  | nil => rw [RVs] at h; rw [h]; rfl
  | cons x l ih =>
    rw [RVs] at h
    obtain ⟨v, r, rfl, h2, h3⟩ := h
    rw [List.all_cons, h2.one, ih h3]
    rfl
theorem RVs.append {c : Cx} : ∀ {l l' : List Vl} {vs vs' : List Value}, RVs c l vs → RVs c l' vs' → RVs c (l ++ l') (vs ++ vs')
  | [], l', vs, vs', h, h' => by rw [RVs] at h; rw [h]; exact h'
  | x :: l, l', vs, vs', h, h' => by
    rw [RVs] at h
    obtain ⟨v, r, rfl, h2, h3⟩ := h
    rw [List.cons_append, List.cons_append, RVs]
    exact ⟨v, r ++ vs', rfl, h2, h3.append h'⟩
theorem RVs.nil {c : Cx} : RVs c [] [] := by rw [RVs]
theorem RVs.one_ {c : Cx} {x : Vl} {v : Value} (h : RV c x v) : RVs c [x] [v] := by rw [RVs]; exact ⟨v, [], rfl, h, RVs.nil⟩
theorem RVs.mk {c : Cx} : ∀ {l : List Vl} {vs : List Value}, vs.length = l.length → (∀ (i : Nat) (x : Vl) (v : Value), l[i]? = some x → vs[i]? = some v → RV c x v) → RVs c l vs
  | [], vs, hl, h => by rw [RVs]; exact List.length_eq_zero_iff.1 hl
  | x :: l, [], hl, h => by simp at hl
  | x :: l, v :: r, hl, h => by
    rw [RVs]
    exact ⟨v, r, rfl, h 0 x v rfl rfl, RVs.mk (by simpa using hl) fun i y u hi hu => h (i + 1) y u (by simpa using hi) (by simpa using hu)⟩
theorem RVs.set {c : Cx} {l : List Vl} {vs : List Value} {i : Nat} {x : Vl} {v : Value} (h : RVs c l vs) (hx : RV c x v) : RVs c (l.set i x) (vs.set i v) := by
  refine RVs.mk (by rw [List.length_set, List.length_set, h.len]) fun j y u hy hu => ?_
  by_cases e : i = j
  · subst e
    rw [List.getElem?_set] at hy hu
    simp only [if_true] at hy hu
    split at hy
    · split at hu
      · cases hy; cases hu; exact hx
      · cases hu
    · cases hy
  · rw [List.getElem?_set_ne e] at hy hu
    obtain ⟨u', h1, h2⟩ := h.at hy
    rw [hu] at h1
    cases h1
    exact h2
theorem ins_eq {α : Type} (x : α) : ∀ (l : List α) (i : Nat), i ≤ l.length → l.insertIdx i x = l.take i ++ [x] ++ l.drop i
  | l, 0, _ => by simp
  | [], i + 1, h => by simp at h
  | y :: l, i + 1, h => by
    have := ins_eq x l i (by simpa using h)
    simp only [List.insertIdx_succ_cons, this, List.take_succ_cons, List.drop_succ_cons, List.cons_append]
theorem RVs.ins {c : Cx} {l : List Vl} {vs : List Value} {i : Nat} {x : Vl} {v : Value} (h : RVs c l vs) (hx : RV c x v) (hi : i ≤ l.length) : RVs c (l.insertIdx i x) (vs.take i ++ [v] ++ vs.drop i) := by
  rw [ins_eq x l i hi]
  refine RVs.append (RVs.append ?_ (RVs.one_ hx)) ?_
  · refine RVs.mk (by rw [List.length_take, List.length_take, h.len]) fun j y u hy hu => ?_
    rw [List.getElem?_take] at hy hu
    split at hy
    · rename_i hlt
      rw [if_pos hlt] at hu
      obtain ⟨u', h1, h2⟩ := h.at hy
      rw [hu] at h1
      cases h1
      exact h2
    · cases hy
  · refine RVs.mk (by rw [List.length_drop, List.length_drop, h.len]) fun j y u hy hu => ?_
    rw [List.getElem?_drop] at hy hu
    obtain ⟨u', h1, h2⟩ := h.at hy
    rw [hu] at h1
    cases h1
    exact h2
theorem RVs.rep {c : Cx} {x : Vl} {v : Value} (h : RV c x v) (n : Nat) : RVs c (List.replicate n x) (List.replicate n v) :=
  RVs.mk (by simp) fun i y u hy hu => by
    rw [List.getElem?_replicate] at hy hu
    split at hy
    · rename_i hlt
      rw [if_pos hlt] at hu
      cases hy; cases hu
      exact h
    · cases hy
inductive Ob
  | cell (v : Value)
  | arr (o : Option Addr) (c : Nat) (vs : List Value)
def Ob.one : Ob → Bool
  | .cell _ => true
  | .arr .. => false
def obI (e : Nat × Ob) : It :=
  match e.2 with
  | .cell v => cb e.1 234 [v]
  | .arr o c vs => all [cb e.1 246 [.slice o vs.length c], own 137 1 o vs.length c vs]
abbrev Sx := List (Nat × Ob)
def adr (sx : Sx) : List (Nat × Bool) := sx.map fun e => (e.1, e.2.one)
def ObR (c : Cx) : Ob → List Vl → Prop
  | .cell v, l => ∃ x, l = [x] ∧ RV c x v
  | .arr _ _ vs, l => RVs c l vs
theorem ObR.mono {c d : Cx} (h : c.le d) {ob : Ob} {l : List Vl} (ho : ObR c ob l) : ObR d ob l := by
  cases ob with
  | cell v => obtain ⟨x, h1, h2⟩ := ho; exact ⟨x, h1, RV.mono h _ _ h2⟩
  | arr o k vs => exact RVs.mono h _ _ ho
structure StR (c : Cx) (sx : Sx) (st : List (List Vl)) : Prop where
  ad : c.ad = adr sx
  len : sx.length = st.length
  at_ : ∀ (i : Nat) (e : Nat × Ob) (l : List Vl), sx[i]? = some e → st[i]? = some l → ObR c e.2 l
theorem adr_set {sx : Sx} {i p : Nat} {ob ob' : Ob} (h : sx[i]? = some (p, ob)) (ho : ob.one = ob'.one) : adr (sx.set i (p, ob')) = adr sx := by
  unfold adr
  rw [List.map_set]
  refine set_same ?_
  rw [List.getElem?_map, h, ← ho]
  rfl
theorem StR.set {c : Cx} {sx : Sx} {st : List (List Vl)} {i p : Nat} {ob ob' : Ob} {l : List Vl} (h : StR c sx st) (hi : sx[i]? = some (p, ob)) (ho : ob.one = ob'.one) (hl : ObR c ob' l) : StR c (sx.set i (p, ob')) (st.set i l) := by
  refine ⟨by rw [adr_set hi ho]; exact h.ad, by rw [List.length_set, List.length_set]; exact h.len, fun j e l' he hl' => ?_⟩
  by_cases e1 : i = j
  · subst e1
    rw [List.getElem?_set] at he hl'
    simp only [if_true] at he hl'
    split at he
    · split at hl'
      · cases he; cases hl'; exact hl
      · cases hl'
    · cases he
  · rw [List.getElem?_set_ne e1] at he hl'
    exact h.at_ j e l' he hl'
theorem StR.add {c : Cx} {sx : Sx} {st : List (List Vl)} {p : Nat} {ob : Ob} {l : List Vl} (h : StR c sx st) (hl : ObR c ob l) : c.le { c with ad := c.ad ++ [(p, ob.one)] } ∧ StR { c with ad := c.ad ++ [(p, ob.one)] } (sx ++ [(p, ob)]) (st ++ [l]) := by
  have hle : c.le { c with ad := c.ad ++ [(p, ob.one)] } := ⟨fun _ h => h, ⟨_, rfl⟩, Nat.le_refl _, rfl⟩
  refine ⟨hle, by show c.ad ++ _ = _; rw [h.ad]; unfold adr; rw [List.map_append]; rfl, by rw [List.length_append, List.length_append, h.len]; rfl, fun j e l' he hl' => ?_⟩
  have hj := h.len
  by_cases e1 : j < sx.length
  · rw [List.getElem?_append_left e1] at he
    rw [List.getElem?_append_left (by omega)] at hl'
    exact (h.at_ j e l' he hl').mono hle
  · rw [List.getElem?_append_right (by omega)] at he hl'
    rw [hj] at he
    by_cases e2 : j - st.length = 0
    · rw [e2] at he hl'
      cases he; cases hl'
      exact hl.mono hle
    · rw [List.getElem?_eq_none_iff.2 (by simp; omega)] at he
      cases he
theorem StR.le {c d : Cx} {sx : Sx} {st : List (List Vl)} (h : StR c sx st) (hl : c.le d) (ha : d.ad = c.ad) : StR d sx st :=
  ⟨ha.trans h.ad, h.len, fun i e l he hs => (h.at_ i e l he hs).mono hl⟩
theorem StR.place {c : Cx} {sx : Sx} {st : List (List Vl)} {i p : Nat} {b : Bool} (h : StR c sx st) (hi : c.ad[i]? = some (p, b)) : ∃ ob l, sx[i]? = some (p, ob) ∧ ob.one = b ∧ st[i]? = some l ∧ ObR c ob l := by
  rw [h.ad] at hi
  unfold adr at hi
  rw [List.getElem?_map] at hi
  obtain ⟨e, he, h1⟩ := Option.map_eq_some_iff.1 hi
  have hlt := (List.getElem?_eq_some_iff.1 he).1
  have hl := h.len
  obtain ⟨l, hs⟩ : ∃ l, st[i]? = some l := ⟨_, List.getElem?_eq_getElem (by omega)⟩
  obtain ⟨q, ob⟩ := e
  simp only [Prod.mk.injEq] at h1
  obtain ⟨rfl, rfl⟩ := h1
  exact ⟨ob, l, he, rfl, hs, h.at_ i _ l he hs⟩
end Go.Proofs.YtenlcdokaadobaaGreatDoor
namespace Go.Fw
open Go Go.RowKit
set_option linter.unusedVariables false
section
variable {P : Program} {N : Nat} {l : List (Nat × Value)} {C : World → Prop} {d : Option Tmp} {T : TypeId} {pos : String} {af : Array Edge} {g : Option (Nat × Bool)}
theorem ex_neg {t : TypeId} {x : Operand} {k : IntKind} {m v : Int} (hx : ev l x = some (.int k m)) (h : k.wrap (-m) = v) : Ex P N l C ⟨d, .unOp .neg t x, T, pos, af, g⟩ (.int k v) := by
  intro a w hA _
  subst h
  simp [execOp, hA.ev hx, Op.unary, Op.intArith]
theorem ex_lookupU {t kt e sz by_ b : Nat} {kk : IntKind} {z u : Value} {zs : List Value} {x y : Operand} {m : List (Int × Value)} {k : Int} {ok : Bool} {w0 : World} {M : Nat → Prop} {H : List It} [ht : TMp P t kt e] [hk : TIn P kt kk] [hi : TIf P e z zs sz by_]
    (hx : ev l x = some (.map (some b))) (hy : ev l y = some (.int .i64 k)) (hm : mp b m ∈ H) (h1 : (mv m k).getD z = u) (h2 : (mv m k).isSome = ok) : Ex P N l (HS w0 M H) ⟨d, .lookup t x y true, T, pos, af, g⟩ (.tuple #[u, .bool ok]) := by
  rw [← h1, ← h2]
  exact ex_lookup_ok hx hy hm
end
end Go.Fw
namespace Go.Proofs.YtenlcdokaadobaaGreatDoor
open Go Go.Fw
set_option linter.unusedVariables false
def opK (op : Int) : Nat :=
  if op = 1 then 142 else if op = 2 then 143 else if op = 3 then 144 else if op = 4 then 145 else if op = 5 then 146
  else if op = 6 then 147 else if op = 7 then 148 else if op = 8 then 150 else 151
def fnV (k : Nat) : Value := .func (.func k) #[] #[]
def opM : List (Int × Value) := [(1, fnV (opK 1)), (2, fnV (opK 2)), (3, fnV (opK 3)), (4, fnV (opK 4)), (5, fnV (opK 5)), (6, fnV (opK 6)), (7, fnV (opK 7)), (8, fnV (opK 8)), (9, fnV (opK 9))]
theorem opM_at (op : Int) : (1 ≤ op ∧ op ≤ 9 ∧ mv opM op = some (fnV (opK op))) ∨ (¬ (1 ≤ op ∧ op ≤ 9) ∧ mv opM op = none) := by
  by_cases h : 1 ≤ op ∧ op ≤ 9
  · refine .inl ⟨h.1, h.2, ?_⟩
    have : op = 1 ∨ op = 2 ∨ op = 3 ∨ op = 4 ∨ op = 5 ∨ op = 6 ∨ op = 7 ∨ op = 8 ∨ op = 9 := by omega
    rcases this with rfl | rfl | rfl | rfl | rfl | rfl | rfl | rfl | rfl <;> rfl
  · refine .inr ⟨h, ?_⟩
    have h1 : ¬ (1 : Int) = op := by omega
    have h2 : ¬ (2 : Int) = op := by omega
    have h3 : ¬ (3 : Int) = op := by omega
    have h4 : ¬ (4 : Int) = op := by omega
    have h5 : ¬ (5 : Int) = op := by omega
    have h6 : ¬ (6 : Int) = op := by omega
    have h7 : ¬ (7 : Int) = op := by omega
    have h8 : ¬ (8 : Int) = op := by omega
    have h9 : ¬ (9 : Int) = op := by omega
    simp [mv, opM, List.find?_cons, h1, h2, h3, h4, h5, h6, h7, h8, h9]
theorem opM_fold : mset (mset (mset (mset (mset (mset (mset (mset (mset [] 1 (.func (.func 142) #[] #[])) 2 (.func (.func 143) #[] #[])) 3 (.func (.func 144) #[] #[])) 4 (.func (.func 145) #[] #[])) 5 (.func (.func 146) #[] #[])) 6 (.func (.func 147) #[] #[])) 7 (.func (.func 148) #[] #[])) 8 (.func (.func 150) #[] #[])) 9 (.func (.func 151) #[] #[]) = opM := rfl
set_option maxRecDepth 10000 attribute [local irreducible] Code.wp wpList Calls Ex Op1 sat bat blk cb own Go.Fw.mp Go.Fw.mpO Go.Fw.mpI Go.Fw.mpE Go.Fw.itr HS Rd Ret wkD Hp Cl Cls Exit.then Exit.inBlock Exit.noGoto bodyPost Go.Fw.flat wk2 Go.Fw.all Go.Fw.owns wpOp
attribute [local irreducible] sk mpK sko mvO entK opM Go.Fw.mset Go.Fw.mv opK w63

set_option maxHeartbeats 4000000 in
theorem Wrap_spec (w0 : World) (n : Int) : Ret Tryz.prog 130 #[.int .i64 n] w0 (fun v w => v = .int .i64 (w63 n) ∧ Kp w0 noM w) := by
  have hH : HS w0 noM [] w0 := HS.init w0 noM
  (refine enter (N := 6) Tryz.func130 rfl Tryz.ntmps130 rfl ?_; intro a hA; dsimp only [sl0, Nat.reduceAdd] at hA)
  repeat' (first | (refine XT ?_; apply XE; (first | (apply ex_shl; rfl; rfl; decide; rfl) | (apply ex_shr; rfl; rfl; decide; rfl)); clear hA a; intro a hA) | (refine QT ?_; clear hA a; intro a hA) | (refine CT ?_ <;> repeat' refine CT ?_) | fail)
  exact rt1 (.inl rfl) rfl hA rfl ⟨by unfold w63; rfl, hH.kp⟩
set_option maxHeartbeats 4000000 in
theorem truth_spec (w0 : World) (b : Bool) : Ret Tryz.prog 149 #[.bool b] w0 (fun v w => v = .int .i64 (tru b) ∧ Kp w0 noM w) := by
  have hH : HS w0 noM [] w0 := HS.init w0 noM
  (refine enter (N := 4) Tryz.func149 rfl Tryz.ntmps149 rfl ?_; intro a hA; dsimp only [sl0, Nat.reduceAdd] at hA)
  cases b
  · repeat' (first | (refine QT ?_; clear hA a; intro a hA) | (refine CT ?_ <;> repeat' refine CT ?_) | fail)
    exact rt1 (.inl rfl) rfl hA rfl ⟨rfl, hH.kp⟩
  · repeat' (first | (refine QT ?_; clear hA a; intro a hA) | (refine CT ?_ <;> repeat' refine CT ?_) | fail)
    exact rt1 (.inl rfl) rfl hA rfl ⟨rfl, hH.kp⟩
set_option maxHeartbeats 4000000 in
theorem Truth_spec (w0 : World) (b : Bool) : Ret Tryz.prog 56 #[.bool b] w0 (fun v w => v = .int .i64 (tru b) ∧ Kp w0 noM w) := by
  have hH : HS w0 noM [] w0 := HS.init w0 noM
  (refine enter (N := 4) Tryz.func56 rfl Tryz.ntmps56 rfl ?_; intro a hA; dsimp only [sl0, Nat.reduceAdd] at hA)
  cases b
  · repeat' (first | (refine QT ?_; clear hA a; intro a hA) | (refine CT ?_ <;> repeat' refine CT ?_) | fail)
    exact rt1 (.inl rfl) rfl hA rfl ⟨rfl, hH.kp⟩
  · repeat' (first | (refine QT ?_; clear hA a; intro a hA) | (refine CT ?_ <;> repeat' refine CT ?_) | fail)
    exact rt1 (.inl rfl) rfl hA rfl ⟨rfl, hH.kp⟩
set_option maxHeartbeats 4000000 in
theorem op1_spec (w0 : World) (m n : Int) : Ret Tryz.prog 142 #[.int .i64 m, .int .i64 n] w0 (fun v w => v = .int .i64 (opG 1 m n) ∧ Kp w0 noM w) := by
  have hH : HS w0 noM [] w0 := HS.init w0 noM
  (refine enter (N := 8) Tryz.func142 rfl Tryz.ntmps142 rfl ?_; intro a hA; dsimp only [sl0, Nat.reduceAdd] at hA)
  repeat' (first | (refine XT ?_; apply XE; (first | (apply ex_addK; rfl; rfl; rfl)); clear hA a; intro a hA) | (refine QT ?_; clear hA a; intro a hA) | (refine CT ?_ <;> repeat' refine CT ?_) | fail)
  exact rt1 (.inl rfl) rfl hA rfl ⟨rfl, hH.kp⟩
set_option maxHeartbeats 4000000 in
theorem op2_spec (w0 : World) (m n : Int) : Ret Tryz.prog 143 #[.int .i64 m, .int .i64 n] w0 (fun v w => v = .int .i64 (opG 2 m n) ∧ Kp w0 noM w) := by
  have hH : HS w0 noM [] w0 := HS.init w0 noM
  (refine enter (N := 8) Tryz.func143 rfl Tryz.ntmps143 rfl ?_; intro a hA; dsimp only [sl0, Nat.reduceAdd] at hA)
  repeat' (first | (refine XT ?_; apply XE; (first | (apply ex_subK; rfl; rfl; rfl)); clear hA a; intro a hA) | (refine QT ?_; clear hA a; intro a hA) | (refine CT ?_ <;> repeat' refine CT ?_) | fail)
  exact rt1 (.inl rfl) rfl hA rfl ⟨rfl, hH.kp⟩
set_option maxHeartbeats 4000000 in
theorem op3_spec (w0 : World) (m n : Int) : Ret Tryz.prog 144 #[.int .i64 m, .int .i64 n] w0 (fun v w => v = .int .i64 (opG 3 m n) ∧ Kp w0 noM w) := by
  have hH : HS w0 noM [] w0 := HS.init w0 noM
  (refine enter (N := 8) Tryz.func144 rfl Tryz.ntmps144 rfl ?_; intro a hA; dsimp only [sl0, Nat.reduceAdd] at hA)
  repeat' (first | (refine XT ?_; apply XE; (first | (apply ex_mulK; rfl; rfl; rfl)); clear hA a; intro a hA) | (refine QT ?_; clear hA a; intro a hA) | (refine CT ?_ <;> repeat' refine CT ?_) | fail)
  exact rt1 (.inl rfl) rfl hA rfl ⟨rfl, hH.kp⟩
set_option maxHeartbeats 4000000 in
theorem op4_spec (w0 : World) (m n : Int) (hn : n ≠ 0) : Ret Tryz.prog 145 #[.int .i64 m, .int .i64 n] w0 (fun v w => v = .int .i64 (opG 4 m n) ∧ Kp w0 noM w) := by
  have hH : HS w0 noM [] w0 := HS.init w0 noM
  (refine enter (N := 8) Tryz.func145 rfl Tryz.ntmps145 rfl ?_; intro a hA; dsimp only [sl0, Nat.reduceAdd] at hA)
  repeat' (first | (refine XT ?_; apply XE; (first | (apply ex_quo; rfl; rfl; exact hn)); clear hA a; intro a hA) | (refine QT ?_; clear hA a; intro a hA) | (refine CT ?_ <;> repeat' refine CT ?_) | fail)
  exact rt1 (.inl rfl) rfl hA rfl ⟨rfl, hH.kp⟩
set_option maxHeartbeats 4000000 in
theorem op5_spec (w0 : World) (m n : Int) (hn : n ≠ 0) : Ret Tryz.prog 146 #[.int .i64 m, .int .i64 n] w0 (fun v w => v = .int .i64 (opG 5 m n) ∧ Kp w0 noM w) := by
  have hH : HS w0 noM [] w0 := HS.init w0 noM
  (refine enter (N := 8) Tryz.func146 rfl Tryz.ntmps146 rfl ?_; intro a hA; dsimp only [sl0, Nat.reduceAdd] at hA)
  repeat' (first | (refine XT ?_; apply XE; (first | (apply ex_rem; rfl; rfl; exact hn)); clear hA a; intro a hA) | (refine QT ?_; clear hA a; intro a hA) | (refine CT ?_ <;> repeat' refine CT ?_) | fail)
  exact rt1 (.inl rfl) rfl hA rfl ⟨rfl, hH.kp⟩
set_option maxHeartbeats 4000000 in
theorem op6_spec (w0 : World) (m n : Int) : Ret Tryz.prog 147 #[.int .i64 m, .int .i64 n] w0 (fun v w => v = .int .i64 (opG 6 m n) ∧ Kp w0 noM w) := by
  have hH : HS w0 noM [] w0 := HS.init w0 noM
  (refine enter (N := 7) Tryz.func147 rfl Tryz.ntmps147 rfl ?_; intro a hA; dsimp only [sl0, Nat.reduceAdd] at hA)
  repeat' (first | (refine XT ?_; apply XE; (first | (apply ex_neg; rfl; rfl)); clear hA a; intro a hA) | (refine QT ?_; clear hA a; intro a hA) | (refine CT ?_ <;> repeat' refine CT ?_) | fail)
  exact rt1 (.inl rfl) rfl hA rfl ⟨rfl, hH.kp⟩
set_option maxHeartbeats 4000000 in
theorem op7_spec (w0 : World) (m n : Int) : Ret Tryz.prog 148 #[.int .i64 m, .int .i64 n] w0 (fun v w => v = .int .i64 (opG 7 m n) ∧ Kp w0 noM w) := by
  have hH : HS w0 noM [] w0 := HS.init w0 noM
  (refine enter (N := 9) Tryz.func148 rfl Tryz.ntmps148 rfl ?_; intro a hA; dsimp only [sl0, Nat.reduceAdd] at hA)
  repeat' (first | (refine QT ?_; clear hA a; intro a hA) | (refine st_op hA rfl rfl (by decide) (op_call rfl rfl rfl (truth_spec _ _)) ?_; clear hA; rintro _ w ⟨rfl, hk⟩ a hA; replace hH := hH.keep hk; clear hk) | (refine CT ?_ <;> repeat' refine CT ?_) | fail)
  exact rt1 (.inl rfl) rfl hA rfl ⟨rfl, hH.kp⟩
set_option maxHeartbeats 4000000 in
theorem op8_spec (w0 : World) (m n : Int) : Ret Tryz.prog 150 #[.int .i64 m, .int .i64 n] w0 (fun v w => v = .int .i64 (opG 8 m n) ∧ Kp w0 noM w) := by
  have hH : HS w0 noM [] w0 := HS.init w0 noM
  (refine enter (N := 9) Tryz.func150 rfl Tryz.ntmps150 rfl ?_; intro a hA; dsimp only [sl0, Nat.reduceAdd] at hA)
  repeat' (first | (refine QT ?_; clear hA a; intro a hA) | (refine st_op hA rfl rfl (by decide) (op_call rfl rfl rfl (truth_spec _ _)) ?_; clear hA; rintro _ w ⟨rfl, hk⟩ a hA; replace hH := hH.keep hk; clear hk) | (refine CT ?_ <;> repeat' refine CT ?_) | fail)
  exact rt1 (.inl rfl) rfl hA rfl ⟨rfl, hH.kp⟩
set_option maxHeartbeats 4000000 in
theorem op9_spec (w0 : World) (m n : Int) : Ret Tryz.prog 151 #[.int .i64 m, .int .i64 n] w0 (fun v w => v = .int .i64 (opG 9 m n) ∧ Kp w0 noM w) := by
  have hH : HS w0 noM [] w0 := HS.init w0 noM
  (refine enter (N := 8) Tryz.func151 rfl Tryz.ntmps151 rfl ?_; intro a hA; dsimp only [sl0, Nat.reduceAdd] at hA)
  repeat' (first | (refine QT ?_; clear hA a; intro a hA) | (refine st_op hA rfl rfl (by decide) (op_call rfl rfl rfl (truth_spec _ _)) ?_; clear hA; rintro _ w ⟨rfl, hk⟩ a hA; replace hH := hH.keep hk; clear hk) | (refine CT ?_ <;> repeat' refine CT ?_) | fail)
  exact rt1 (.inl rfl) rfl hA rfl ⟨rfl, hH.kp⟩
theorem op_fn (op : Int) (h1 : 1 ≤ op) (h9 : op ≤ 9) : FnB Tryz.prog (opK op) ∧ ∀ (w0 : World) (m n : Int), (n ≠ 0 ∨ ¬ (op = 4 ∨ op = 5)) → Ret Tryz.prog (opK op) #[.int .i64 m, .int .i64 n] w0 (fun v w => v = .int .i64 (opG op m n) ∧ Kp w0 noM w) := by
  have : op = 1 ∨ op = 2 ∨ op = 3 ∨ op = 4 ∨ op = 5 ∨ op = 6 ∨ op = 7 ∨ op = 8 ∨ op = 9 := by omega
  unfold opK
  rcases this with rfl | rfl | rfl | rfl | rfl | rfl | rfl | rfl | rfl
  · exact ⟨inferInstanceAs (FnB Tryz.prog 142), fun w0 m n _ => op1_spec w0 m n⟩
  · exact ⟨inferInstanceAs (FnB Tryz.prog 143), fun w0 m n _ => op2_spec w0 m n⟩
  · exact ⟨inferInstanceAs (FnB Tryz.prog 144), fun w0 m n _ => op3_spec w0 m n⟩
  · exact ⟨inferInstanceAs (FnB Tryz.prog 145), fun w0 m n h => op4_spec w0 m n (h.resolve_right (by decide))⟩
  · exact ⟨inferInstanceAs (FnB Tryz.prog 146), fun w0 m n h => op5_spec w0 m n (h.resolve_right (by decide))⟩
  · exact ⟨inferInstanceAs (FnB Tryz.prog 147), fun w0 m n _ => op6_spec w0 m n⟩
  · exact ⟨inferInstanceAs (FnB Tryz.prog 148), fun w0 m n _ => op7_spec w0 m n⟩
  · exact ⟨inferInstanceAs (FnB Tryz.prog 150), fun w0 m n _ => op8_spec w0 m n⟩
  · exact ⟨inferInstanceAs (FnB Tryz.prog 151), fun w0 m n _ => op9_spec w0 m n⟩
set_option maxHeartbeats 4000000 in
theorem operations_spec (w0 : World) : Ret Tryz.prog 131 #[] w0 (fun v w => ∃ b, v = .map (some b) ∧ HS w0 noM [mp b opM] w) := by
  have hH : HS w0 noM [] w0 := HS.init w0 noM
  (refine enter (N := 3) Tryz.func131 rfl Tryz.ntmps131 rfl ?_; intro a hA; dsimp only [sl0, Nat.reduceAdd] at hA)
  repeat' (first | (refine QT ?_; clear hA a; intro a hA) | (refine CT ?_ <;> repeat' refine CT ?_) | fail)
  (refine st_op hA rfl rfl (by decide) (op_makeMap hH) ?_; clear hA hH; rintro _ w ⟨b, rfl, hH⟩ a hA)
  repeat' (first | (refine QT ?_; clear hA a; intro a hA) | (apply st_op0 hA rfl rfl; apply op_insertV; rfl; rfl; rfl; exact hH; (repeat constructor); clear hH; rintro _ w hH) | (refine CT ?_ <;> repeat' refine CT ?_) | fail)
  refine rt1 (.inl rfl) rfl hA rfl ⟨_, rfl, ?_⟩
  rw [← opM_fold]
  exact hH
theorem doF_no {op a b : Int} (h : ¬ (1 ≤ op ∧ op ≤ 9)) : doF op a b = none := if_pos (by omega)
theorem doF_z {op a b : Int} (h : 1 ≤ op ∧ op ≤ 9) (hz : w63 b = 0) (h2 : op = 4 ∨ op = 5) : doF op a b = none := by
  unfold doF
  rw [if_neg (by omega), if_pos ⟨hz, h2⟩]
theorem doF_y {op a b : Int} (h : 1 ≤ op ∧ op ≤ 9) (hz : w63 b ≠ 0 ∨ ¬ (op = 4 ∨ op = 5)) : doF op a b = some (w63 (opG op (w63 a) (w63 b))) := by
  unfold doF
  rw [if_neg (by omega), if_neg (fun hc => hz.elim (fun h => h hc.1) (fun h => h hc.2))]
set_option maxHeartbeats 8000000 in
theorem Do_spec (w0 : World) (op m n : Int) : Ret Tryz.prog 117 #[.int .i64 op, .int .i64 m, .int .i64 n] w0 (fun v w => Kp w0 noM w ∧
    ((∃ x, doF op m n = some x ∧ v = .tuple #[.int .i64 x, .int .i64 0]) ∨ (∃ e : Int, e ≠ 0 ∧ doF op m n = none ∧ v = .tuple #[.int .i64 0, .int .i64 e]))) := by
  have hH : HS w0 noM [] w0 := HS.init w0 noM
  (refine enter (N := 39) Tryz.func117 rfl Tryz.ntmps117 rfl ?_; intro a hA; dsimp only [sl0, Nat.reduceAdd] at hA)
  repeat' (first | (refine QT ?_; clear hA a; intro a hA) | (refine st_op hA rfl rfl (by decide) (op_call rfl rfl rfl (Wrap_spec _ _)) ?_; clear hA; rintro _ w ⟨rfl, hk⟩ a hA; replace hH := hH.keep hk; clear hk) | (refine CT ?_ <;> repeat' refine CT ?_) | fail)
  (refine st_op hA rfl rfl (by decide) (op_call rfl rfl rfl (operations_spec _)) ?_; clear hA; rintro _ w ⟨bM, rfl, hj⟩ a hA; replace hH := hH.join hj; clear hj)
  rw [List.append_nil] at hH
  repeat' (first | (refine QT ?_; clear hA a; intro a hA) | fail)
  rcases opM_at op with ⟨h1, h2, h3⟩ | ⟨h1, h2⟩
  rotate_left
  · (refine st_ex hA hH rfl rfl (by decide) (ex_lookupU (m := opM) (k := op) (u := .nilFunc) (ok := false) rfl rfl (by exact MEMT) (by rw [h2]; rfl) (by rw [h2]; rfl)) ?_; clear hA a; intro a hA)
    repeat' (first | (refine QT ?_; clear hA a; intro a hA) | (refine CT ?_ <;> repeat' refine CT ?_) | fail)
    exact rt2 (.inl rfl) rfl hA rfl rfl ⟨hH.kp, .inr ⟨1, by decide, doF_no h1, rfl⟩⟩
  (refine st_ex hA hH rfl rfl (by decide) (ex_lookupU (m := opM) (k := op) (u := fnV (opK op)) (ok := true) rfl rfl (by exact MEMT) (by rw [h3]; rfl) (by rw [h3]; rfl)) ?_; clear hA a; intro a hA)
  repeat' (first | (refine GT ?_ ?_ <;> intro hg <;> clear hA a <;> intro a hA <;> (first | exact FA | replace hg := of_decide_eq_true hg | replace hg := of_decide_eq_false hg | skip)) | (refine QT ?_; clear hA a; intro a hA) | ((first | refine CT ?_ | (refine DT ?_ ?_ <;> intro hc <;> try (exfalso; omega))) <;> repeat' refine CT ?_) | fail)
  · exact rt2 (.inl rfl) rfl hA rfl rfl ⟨hH.kp, .inr ⟨2, by decide, doF_z ⟨h1, h2⟩ (by assumption) (.inl (by assumption)), rfl⟩⟩
  · exact rt2 (.inl rfl) rfl hA rfl rfl ⟨hH.kp, .inr ⟨2, by decide, doF_z ⟨h1, h2⟩ (by assumption) (.inr (by assumption)), rfl⟩⟩
  all_goals
    obtain ⟨hfb, hfn⟩ := op_fn op h1 h2
    have hz : w63 n ≠ 0 ∨ ¬ (op = 4 ∨ op = 5) := by omega
    (refine st_op hA rfl rfl (by decide) (op_call (hk := hfb) rfl rfl rfl (hfn _ _ _ hz)) ?_; clear hA; rintro _ w ⟨rfl, hk⟩ a hA; replace hH := hH.keep hk; clear hk)
    repeat' (first | (refine QT ?_; clear hA a; intro a hA) | (refine st_op hA rfl rfl (by decide) (op_call rfl rfl rfl (Wrap_spec _ _)) ?_; clear hA; rintro _ w ⟨rfl, hk⟩ a hA; replace hH := hH.keep hk; clear hk) | (refine CT ?_ <;> repeat' refine CT ?_) | fail)
    exact rt2 (.inl rfl) rfl hA rfl rfl ⟨hH.kp, .inl ⟨_, doF_y ⟨h1, h2⟩ hz, rfl⟩⟩
end Go.Proofs.YtenlcdokaadobaaGreatDoor
