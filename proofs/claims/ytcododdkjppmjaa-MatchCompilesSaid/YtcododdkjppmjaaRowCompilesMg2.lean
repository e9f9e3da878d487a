/-
  Walks over slices.ContainsFunc of patterns, and over a pattern's form. Conditions: none.
  The walk over a pattern's form. Conditions: none.
  The walk over the document's form of a pattern. Conditions: none.
  What is made once and then only read, known together with what there was; rows as they lie in memory; rows made plain (plain). Conditions: none.
-/
import Derived.Test.YtcododdkjppmjaaRowCompilesMg1
namespace Go.Fw
open Go Go.RowKit
theorem size0 {m : ByteArray} : m = ⟨#[]⟩ ↔ m.size = 0 := by
  constructor
  · intro h; rw [h]; rfl
  · intro h
    cases m with
    | mk d =>
      congr 1
      exact Array.eq_empty_of_size_eq_zero h
section
variable {P : Program} {N : Nat} {l : List (Nat × Value)} {C : World → Prop} {d : Option Tmp} {T : TypeId} {pos : String} {af : Array Edge} {g : Option (Nat × Bool)}
theorem ex_eql0 {t ty : TypeId} {x y : Operand} {m : ByteArray} [h : TSr P t] (hx : ev l x = some (.string m)) (hy : ev l y = some (.string ⟨#[]⟩)) : Ex P N l C ⟨d, .binOp .eql t x y ty, T, pos, af, g⟩ (.bool (decide ((m.size : Int) = 0))) := by
  have h1 := ex_eqlX (N := N) (C := C) (d := d) (T := T) (pos := pos) (af := af) (g := g) (ty := ty) (h := h) hx hy
  have e : decide (m = ⟨#[]⟩) = decide ((m.size : Int) = 0) := by rw [decide_eq_decide, size0]; omega
  rwa [e] at h1
theorem ex_neq0 {t ty : TypeId} {x y : Operand} {m : ByteArray} [h : TSr P t] (hx : ev l x = some (.string m)) (hy : ev l y = some (.string ⟨#[]⟩)) : Ex P N l C ⟨d, .binOp .neq t x y ty, T, pos, af, g⟩ (.bool (decide ((m.size : Int) ≠ 0))) := by
  have h1 := ex_neqX (N := N) (C := C) (d := d) (T := T) (pos := pos) (af := af) (g := g) (ty := ty) (h := h) hx hy
  have e : decide (m ≠ ⟨#[]⟩) = decide ((m.size : Int) ≠ 0) := by rw [decide_eq_decide, ne_eq, size0]; omega
  rwa [e] at h1
theorem ex_len_sz {t : TypeId} {x : Operand} {s : ByteArray} [ht : TSr P t] (hx : ev l x = some (.string s)) :
    Ex P N l C ⟨d, .call ⟨.builtin .len, #[x], #[t]⟩, T, pos, af, g⟩ (.int .i64 s.size) := by
  have := ex_len_string (N := N) (C := C) (d := d) (T := T) (pos := pos) (af := af) (g := g) (ht := ht) hx
  rwa [bts_len] at this
end
/-- in a region: what holds behind it; then the rest -/
theorem st_cutR {P : Program} {ops : Array Oper} {ls : List Oper} {a : Act} {w : World} {K : Act → World → Prop} {Q : Exit → Act → World → Prop} (R : Act → World → Prop)
    (h : wpList P ops (Exit.then R Q) ls a w) (k : ∀ a w, R a w → K a w) : wpList P ops (Exit.then K Q) ls a w := by
  induction ls generalizing a w with
  | nil => exact then_mono k .normal a w h
  | cons o rest ih =>
    unfold wpList at h ⊢
    split
    · rename_i hw
      rw [if_pos hw] at h
      rcases h with h | ⟨h1, h2⟩
      · refine .inl (Oper.wp_mono (K := wpList P ops (Exit.then R Q) rest) (fun a w h => ih h) ?_)
        unfold Oper.wp at *
        generalize (execOp a.eval o).run P w = r at *
        cases r with
        | ok n w' => cases n <;> simp only [Oper.upon] at h ⊢ <;> exact h
        | halt x w' => cases x <;> simp only [Oper.upon] at h ⊢ <;> exact h
      · exact .inr ⟨h1, by obtain ⟨a', w3, h3⟩ := h2; exact ⟨a', w3, h3⟩⟩
    · rename_i hw
      rw [if_neg hw] at h
      exact ih h
end Go.Fw
namespace Go.Proofs.Ytcododdkjppmjaa
open Go Go.Fw
set_option linter.unusedVariables false
theorem formP_eq (p : AP) : formP p = (decide (Shape p.k p.v p.n p.s.size p.ls.length p.ps.length) && labsP [] p.ls && formL p.ps) := by cases p; rw [formP]; rfl
theorem form_no {p : AP} (h : ¬ Shape p.k p.v p.n p.s.size p.ls.length p.ps.length) : formP p = false := by rw [formP_eq, decide_eq_false h]; rfl
theorem formL_all : ∀ (ps : List AP), formL ps = ps.all formP
  | [] => rfl
  | a :: ps => by rw [formL, List.all_cons, formL_all ps]
theorem form_yes {p : AP} (h : Shape p.k p.v p.n p.s.size p.ls.length p.ps.length) (h2 : labsP [] p.ls = true) : formP p = !(p.ps.any fun x => !formP x) := by
  rw [formP_eq, decide_eq_true h, h2, formL_all]
  simp [List.all_eq_not_any_not]
theorem labs_snoc : ∀ (ls pre : List ByteArray) (x : ByteArray) (rest : List ByteArray), labsP pre (ls ++ x :: rest) = (labsP pre ls && (!(x.size == 0) && !hasX (pre ++ ls) x) && labsP (pre ++ ls ++ [x]) rest)
  | [], pre, x, rest => by simp [labsP]
  | y :: ls, pre, x, rest => by
    rw [List.cons_append, labsP, labsP, labs_snoc ls (pre ++ [y]) x rest]
    simp [Bool.and_assoc]
theorem labs_bad {ls : List ByteArray} {i : Nat} {x : ByteArray} (hx : ls[i]? = some x) (h : x.size = 0 ∨ hasX (ls.take i) x = true) : labsP [] ls = false := by
  have h1 := labs_snoc (ls.take i) [] x (ls.drop (i + 1))
  obtain ⟨hi, he⟩ := List.getElem?_eq_some_iff.1 hx
  have e : ls.take i ++ x :: ls.drop (i + 1) = ls := by rw [← he, ← List.drop_eq_getElem_cons hi, List.take_append_drop]
  rw [e] at h1
  rw [h1, List.nil_append]
  rcases h with h | h <;> simp [h]
theorem labs_next {ls : List ByteArray} {i : Nat} {x : ByteArray} (hx : ls[i]? = some x) (h0 : labsP [] (ls.take i) = true) (h1 : x.size ≠ 0) (h2 : hasX (ls.take i) x = false) : labsP [] (ls.take (i + 1)) = true := by
  rw [take_next hx, labs_snoc]
  simp [h0, h1, h2, labsP]
set_option maxRecDepth 10000 attribute [local irreducible] Code.wp wpList Calls Ex Op1 sat bat blk cb own Go.Fw.mp Go.Fw.mpO Go.Fw.mpI Go.Fw.mpE Go.Fw.itr HS Rd Ret wkD Hp Cl Cls Exit.then Exit.inBlock Exit.noGoto bodyPost Go.Fw.flat wk2 Go.Fw.all Go.Fw.owns wpOp
attribute [local irreducible] encA partsP partsL idxX formP formL labsP Shape hasX

set_option maxHeartbeats 4000000 in
theorem indexA_spec (w0 : World) (o : Option Addr) (c : Nat) (l : List AP) (fk : FuncId) (first cap : Array Value) [hk : FnB Try.prog fk] (f : AP → Bool) (hr : Rd w0 o (flat encA l)) (hl : l.length ≤ maxLen)
    (hf : ∀ x ∈ l, ∀ w, Kp w0 noM w → Ret Try.prog fk (first ++ #[.agg #[.int .i64 x.k, .int .i64 x.v, .int .i64 x.n, .string x.s, .slice x.ol x.ls.length x.cl, .slice x.oa x.ps.length x.ca]] ++ cap) w (fun v w' => v = .bool (f x) ∧ Kp w noM w')) :
    Ret Try.prog 34 #[.slice o l.length c, .func (.func fk) first cap] w0 (fun v w => ∃ i : Int, v = .int .i64 i ∧ decide (0 ≤ i) = l.any f ∧ Kp w0 noM w) := by
  have hH : HS w0 noM [] w0 := HS.init w0 noM
  unfold maxLen at hl
  have hsp : Sp o l.length := hr.sp (sz := 6) (flat_length encA_len l) (by omega)
  (refine enter (N := 19) Try.func34 rfl Try.ntmps34 rfl ?_; intro a hA; dsimp only [sl0, Nat.reduceAdd] at hA)
  repeat' (first | (first | (refine GT ?_ ?_ <;> intro hg <;> clear hA a <;> intro a hA <;> (first | exact FA | replace hg := of_decide_eq_true hg | replace hg := of_decide_eq_false hg | skip)) | (refine QT ?_; clear hA a; intro a hA) | (first | (refine BT ?_; clear hA hH; rintro _ w ⟨bN, rfl, hH⟩ a hA) | (refine LT ?_; clear hA hH; rintro _ w ⟨oN, rfl, hH⟩ a hA) | (refine AT ?_; clear hA; rintro _ w ⟨oN, cN, rfl, hH2⟩ a hA; clear hH; have hH := (hH2 _ (by (repeat constructor))).tail; clear hH2) | (refine S0T ?_; clear hH; rintro _ w hH) )) | ((first | refine CT ?_ | (refine DT ?_ ?_ <;> intro hc <;> try (exfalso; omega))) <;> repeat' refine CT ?_) | (first | (refine DSK ?_; clear hA a; intro a hA) | (first | (refine DLT ?_; clear hA hH; rintro _ w ⟨oN, rfl, hH⟩; refine ⟨STT, ?_⟩; intro a hA) | (refine DAT ?_; clear hA; rintro _ w ⟨oN, cN, rfl, hH2⟩; clear hH; have hH := (hH2 _ (by (repeat constructor))).tail; clear hH2; refine ⟨STT, ?_⟩; intro a hA))) )
  refine wp_lpj (S := Nat) (fun i a w => (i ≤ l.length ∧ (l.take i).any f = false) ∧ HS w0 noM [] w ∧ Sl 19 [(0, .slice o l.length c), (1, .func (.func fk) first cap), (7, .int .i64 l.length), (8, .int .i64 i)] a) (fun i => l.length - i)
    (fun a w => l.any f = false ∧ HS w0 noM [] w ∧ Sl 19 [] a) 0 ⟨⟨Nat.zero_le _, rfl⟩, hH, (hA.sub (by (repeat (first | exact trivial | refine ⟨rfl, ?_⟩))))⟩ ?_ ?_
  rotate_left
  · clear hA hH
    rintro a w ⟨hn, hH, hA⟩
    repeat' (first | (first | (refine GT ?_ ?_ <;> intro hg <;> clear hA a <;> intro a hA <;> (first | exact FA | replace hg := of_decide_eq_true hg | replace hg := of_decide_eq_false hg | skip)) | (refine QT ?_; clear hA a; intro a hA) | (first | (refine BT ?_; clear hA hH; rintro _ w ⟨bN, rfl, hH⟩ a hA) | (refine LT ?_; clear hA hH; rintro _ w ⟨oN, rfl, hH⟩ a hA) | (refine AT ?_; clear hA; rintro _ w ⟨oN, cN, rfl, hH2⟩ a hA; clear hH; have hH := (hH2 _ (by (repeat constructor))).tail; clear hH2) | (refine S0T ?_; clear hH; rintro _ w hH) )) | ((first | refine CT ?_ | (refine DT ?_ ?_ <;> intro hc <;> try (exfalso; omega))) <;> repeat' refine CT ?_) | (first | (refine DSK ?_; clear hA a; intro a hA) | (first | (refine DLT ?_; clear hA hH; rintro _ w ⟨oN, rfl, hH⟩; refine ⟨STT, ?_⟩; intro a hA) | (refine DAT ?_; clear hA; rintro _ w ⟨oN, cN, rfl, hH2⟩; clear hH; have hH := (hH2 _ (by (repeat constructor))).tail; clear hH2; refine ⟨STT, ?_⟩; intro a hA))) )
    exact rt1 (.inl rfl) rfl hA rfl ⟨-1, rfl, by rw [hn]; rfl, hH.kp⟩
  clear hA hH
  rintro i a w ⟨⟨hi, hn⟩, hH, hA⟩
  by_cases hlt : i < l.length
  rotate_left
  · obtain rfl : i = l.length := by omega
    rw [List.take_length] at hn
    repeat' (first | (first | (refine GT ?_ ?_ <;> intro hg <;> clear hA a <;> intro a hA <;> (first | exact FA | replace hg := of_decide_eq_true hg | replace hg := of_decide_eq_false hg | skip)) | (refine QT ?_; clear hA a; intro a hA) | (first | (refine BT ?_; clear hA hH; rintro _ w ⟨bN, rfl, hH⟩ a hA) | (refine LT ?_; clear hA hH; rintro _ w ⟨oN, rfl, hH⟩ a hA) | (refine AT ?_; clear hA; rintro _ w ⟨oN, cN, rfl, hH2⟩ a hA; clear hH; have hH := (hH2 _ (by (repeat constructor))).tail; clear hH2) | (refine S0T ?_; clear hH; rintro _ w hH) )) | ((first | refine CT ?_ | (refine DT ?_ ?_ <;> intro hc <;> try (exfalso; omega))) <;> repeat' refine CT ?_) | (first | (refine DSK ?_; clear hA a; intro a hA) | (first | (refine DLT ?_; clear hA hH; rintro _ w ⟨oN, rfl, hH⟩; refine ⟨STT, ?_⟩; intro a hA) | (refine DAT ?_; clear hA; rintro _ w ⟨oN, cN, rfl, hH2⟩; clear hH; have hH := (hH2 _ (by (repeat constructor))).tail; clear hH2; refine ⟨STT, ?_⟩; intro a hA))) )
    exact ⟨hn, hH, (hA.sub (by (repeat (first | exact trivial | refine ⟨rfl, ?_⟩))))⟩
  obtain ⟨x, hx⟩ : ∃ x, l[i]? = some x := ⟨_, List.getElem?_eq_getElem hlt⟩
  have hxm := List.mem_of_getElem? hx
  have hvs := flat_all encA_len hx
  rw [encA_eq] at hvs
  repeat' (first | (first | (refine GT ?_ ?_ <;> intro hg <;> clear hA a <;> intro a hA <;> (first | exact FA | replace hg := of_decide_eq_true hg | replace hg := of_decide_eq_false hg | skip)) | ((first | apply st_ex hA hH rfl rfl (by decide) | apply dr_ex hA rfl rfl rfl (by decide) | apply dr_exp hA rfl rfl rfl (by decide) | apply dr_ex3 hA hH rfl rfl rfl (by decide)); (first | (apply ex_load_st (vs := [.int .i64 x.k, .int .i64 x.v, .int .i64 x.n, .string x.s, .slice x.ol x.ls.length x.cl, .slice x.oa x.ps.length x.ca]); rfl; rfl; exact cls_rd hr id hvs)); clear hA a; intro a hA) | (refine QT ?_; clear hA a; intro a hA) | (first | (refine BT ?_; clear hA hH; rintro _ w ⟨bN, rfl, hH⟩ a hA) | (refine LT ?_; clear hA hH; rintro _ w ⟨oN, rfl, hH⟩ a hA) | (refine AT ?_; clear hA; rintro _ w ⟨oN, cN, rfl, hH2⟩ a hA; clear hH; have hH := (hH2 _ (by (repeat constructor))).tail; clear hH2) | (refine S0T ?_; clear hH; rintro _ w hH) )) | ((first | refine CT ?_ | (refine DT ?_ ?_ <;> intro hc <;> try (exfalso; omega))) <;> repeat' refine CT ?_) | (first | (refine DSK ?_; clear hA a; intro a hA) | (first | (refine DLT ?_; clear hA hH; rintro _ w ⟨oN, rfl, hH⟩; refine ⟨STT, ?_⟩; intro a hA) | (refine DAT ?_; clear hA; rintro _ w ⟨oN, cN, rfl, hH2⟩; clear hH; have hH := (hH2 _ (by (repeat constructor))).tail; clear hH2; refine ⟨STT, ?_⟩; intro a hA))) )
  (refine st_op hA rfl rfl (by decide) (op_call rfl rfl rfl (hf x hxm _ hH.kp)) ?_; clear hA; rintro _ w ⟨rfl, hk⟩ a hA; replace hH := hH.keep hk; clear hk)
  cases hfx : f x with
  | true =>
    rw [hfx] at hA
    repeat' (first | (first | (refine GT ?_ ?_ <;> intro hg <;> clear hA a <;> intro a hA <;> (first | exact FA | replace hg := of_decide_eq_true hg | replace hg := of_decide_eq_false hg | skip)) | (refine QT ?_; clear hA a; intro a hA) | (first | (refine BT ?_; clear hA hH; rintro _ w ⟨bN, rfl, hH⟩ a hA) | (refine LT ?_; clear hA hH; rintro _ w ⟨oN, rfl, hH⟩ a hA) | (refine AT ?_; clear hA; rintro _ w ⟨oN, cN, rfl, hH2⟩ a hA; clear hH; have hH := (hH2 _ (by (repeat constructor))).tail; clear hH2) | (refine S0T ?_; clear hH; rintro _ w hH) )) | ((first | refine CT ?_ | (refine DT ?_ ?_ <;> intro hc <;> try (exfalso; omega))) <;> repeat' refine CT ?_) | (first | (refine DSK ?_; clear hA a; intro a hA) | (first | (refine DLT ?_; clear hA hH; rintro _ w ⟨oN, rfl, hH⟩; refine ⟨STT, ?_⟩; intro a hA) | (refine DAT ?_; clear hA; rintro _ w ⟨oN, cN, rfl, hH2⟩; clear hH; have hH := (hH2 _ (by (repeat constructor))).tail; clear hH2; refine ⟨STT, ?_⟩; intro a hA))) )
    exact rt1 (.inl rfl) rfl hA rfl ⟨(i : Int), rfl, by rw [decide_eq_true (by omega)]; exact (List.any_eq_true.2 ⟨x, hxm, hfx⟩).symm, hH.kp⟩
  | false =>
    rw [hfx] at hA
    repeat' (first | (first | (refine GT ?_ ?_ <;> intro hg <;> clear hA a <;> intro a hA <;> (first | exact FA | replace hg := of_decide_eq_true hg | replace hg := of_decide_eq_false hg | skip)) | (refine QT ?_; clear hA a; intro a hA) | (first | (refine BT ?_; clear hA hH; rintro _ w ⟨bN, rfl, hH⟩ a hA) | (refine LT ?_; clear hA hH; rintro _ w ⟨oN, rfl, hH⟩ a hA) | (refine AT ?_; clear hA; rintro _ w ⟨oN, cN, rfl, hH2⟩ a hA; clear hH; have hH := (hH2 _ (by (repeat constructor))).tail; clear hH2) | (refine S0T ?_; clear hH; rintro _ w hH) )) | ((first | refine CT ?_ | (refine DT ?_ ?_ <;> intro hc <;> try (exfalso; omega))) <;> repeat' refine CT ?_) | (first | (refine DSK ?_; clear hA a; intro a hA) | (first | (refine DLT ?_; clear hA hH; rintro _ w ⟨oN, rfl, hH⟩; refine ⟨STT, ?_⟩; intro a hA) | (refine DAT ?_; clear hA; rintro _ w ⟨oN, cN, rfl, hH2⟩; clear hH; have hH := (hH2 _ (by (repeat constructor))).tail; clear hH2; refine ⟨STT, ?_⟩; intro a hA))) )
    exact ⟨i + 1, ⟨⟨hlt, by rw [take_next hx, List.any_append, hn]; simp [hfx]⟩, hH, (hA.sub (by (repeat (first | exact trivial | refine ⟨rfl, ?_⟩))))⟩, by omega⟩
theorem containsA_spec (w0 : World) (o : Option Addr) (c : Nat) (l : List AP) (fk : FuncId) (first cap : Array Value) [hk : FnB Try.prog fk] (f : AP → Bool) (hr : Rd w0 o (flat encA l)) (hl : l.length ≤ maxLen)
    (hf : ∀ x ∈ l, ∀ w, Kp w0 noM w → Ret Try.prog fk (first ++ #[.agg #[.int .i64 x.k, .int .i64 x.v, .int .i64 x.n, .string x.s, .slice x.ol x.ls.length x.cl, .slice x.oa x.ps.length x.ca]] ++ cap) w (fun v w' => v = .bool (f x) ∧ Kp w noM w')) :
    Ret Try.prog 15 #[.slice o l.length c, .func (.func fk) first cap] w0 (fun v w => v = .bool (l.any f) ∧ Kp w0 noM w) := by
  have hH : HS w0 noM [] w0 := HS.init w0 noM
  (refine enter (N := 9) Try.func15 rfl Try.ntmps15 rfl ?_; intro a hA; dsimp only [sl0, Nat.reduceAdd] at hA)
  repeat' (first | (first | (refine GT ?_ ?_ <;> intro hg <;> clear hA a <;> intro a hA <;> (first | exact FA | replace hg := of_decide_eq_true hg | replace hg := of_decide_eq_false hg | skip)) | (refine QT ?_; clear hA a; intro a hA) | (first | (refine BT ?_; clear hA hH; rintro _ w ⟨bN, rfl, hH⟩ a hA) | (refine LT ?_; clear hA hH; rintro _ w ⟨oN, rfl, hH⟩ a hA) | (refine AT ?_; clear hA; rintro _ w ⟨oN, cN, rfl, hH2⟩ a hA; clear hH; have hH := (hH2 _ (by (repeat constructor))).tail; clear hH2) | (refine S0T ?_; clear hH; rintro _ w hH) )) | ((first | refine CT ?_ | (refine DT ?_ ?_ <;> intro hc <;> try (exfalso; omega))) <;> repeat' refine CT ?_) | (first | (refine DSK ?_; clear hA a; intro a hA) | (first | (refine DLT ?_; clear hA hH; rintro _ w ⟨oN, rfl, hH⟩; refine ⟨STT, ?_⟩; intro a hA) | (refine DAT ?_; clear hA; rintro _ w ⟨oN, cN, rfl, hH2⟩; clear hH; have hH := (hH2 _ (by (repeat constructor))).tail; clear hH2; refine ⟨STT, ?_⟩; intro a hA))) )
  (refine st_op hA rfl rfl (by decide) (op_call rfl rfl rfl (indexA_spec _ o c l fk first cap f (hH.rd hr id) hl (fun x hx w hw => hf x hx w (hH.kp.trans hw (fun b hb => hb.elim))))) ?_; clear hA; rintro _ w ⟨i, rfl, hi, hk⟩ a hA; replace hH := hH.keep hk; clear hk)
  repeat' (first | (first | (refine GT ?_ ?_ <;> intro hg <;> clear hA a <;> intro a hA <;> (first | exact FA | replace hg := of_decide_eq_true hg | replace hg := of_decide_eq_false hg | skip)) | (refine QT ?_; clear hA a; intro a hA) | (first | (refine BT ?_; clear hA hH; rintro _ w ⟨bN, rfl, hH⟩ a hA) | (refine LT ?_; clear hA hH; rintro _ w ⟨oN, rfl, hH⟩ a hA) | (refine AT ?_; clear hA; rintro _ w ⟨oN, cN, rfl, hH2⟩ a hA; clear hH; have hH := (hH2 _ (by (repeat constructor))).tail; clear hH2) | (refine S0T ?_; clear hH; rintro _ w hH) )) | ((first | refine CT ?_ | (refine DT ?_ ?_ <;> intro hc <;> try (exfalso; omega))) <;> repeat' refine CT ?_) | (first | (refine DSK ?_; clear hA a; intro a hA) | (first | (refine DLT ?_; clear hA hH; rintro _ w ⟨oN, rfl, hH⟩; refine ⟨STT, ?_⟩; intro a hA) | (refine DAT ?_; clear hA; rintro _ w ⟨oN, cN, rfl, hH2⟩; clear hH; have hH := (hH2 _ (by (repeat constructor))).tail; clear hH2; refine ⟨STT, ?_⟩; intro a hA))) )
  exact rt1 (.inl rfl) rfl hA rfl ⟨by rw [hi], hH.kp⟩
end Go.Proofs.Ytcododdkjppmjaa
namespace Go.Fw
open Go Go.RowKit
section
variable {P : Program} {N : Nat} {l : List (Nat × Value)} {C : World → Prop} {d : Option Tmp} {T : TypeId} {pos : String} {af : Array Edge} {g : Option (Nat × Bool)}
theorem ex_neqBD {t ty : TypeId} {x y : Operand} {P1 P2 : Prop} {i1 : Decidable P1} {i2 : Decidable P2} [h : TBo P t] (hx : ev l x = some (.bool (decide P1))) (hy : ev l y = some (.bool (decide P2))) : Ex P N l C ⟨d, .binOp .neq t x y ty, T, pos, af, g⟩ (.bool (decide (P1 ↔ ¬ P2))) := by
  have h1 := ex_neqB (N := N) (C := C) (d := d) (T := T) (pos := pos) (af := af) (g := g) (t := t) (ty := ty) (h := h) hx hy
  have e : (decide P1 != decide P2) = decide (P1 ↔ ¬ P2) := by
    by_cases h1 : P1 <;> by_cases h2 : P2 <;> simp [h1, h2]
  rwa [e] at h1
theorem ex_neqBf {t ty : TypeId} {x y : Operand} {P1 : Prop} {i1 : Decidable P1} [h : TBo P t] (hx : ev l x = some (.bool (decide P1))) (hy : ev l y = some (.bool false)) : Ex P N l C ⟨d, .binOp .neq t x y ty, T, pos, af, g⟩ (.bool (decide P1)) := by
  have h1 := ex_neqB (N := N) (C := C) (d := d) (T := T) (pos := pos) (af := af) (g := g) (t := t) (ty := ty) (h := h) hx hy
  have e : (decide P1 != false) = decide P1 := by cases decide P1 <;> rfl
  rwa [e] at h1
end
end Go.Fw
namespace Go.Proofs.Ytcododdkjppmjaa
open Go Go.Fw
set_option linter.unusedVariables false
theorem shape_of {k v n : Int} {sz nl na : Nat} (h : Shape k v n sz nl na) : 1 ≤ k ∧ k ≤ 9 ∧ (k = 8 → na = 1) ∧ (k = 9 → na = nl) ∧ (k ≠ 8 ∧ k ≠ 9 → na = 0) ∧ (k ≠ 9 → nl = 0) ∧ (v = 0 ∨ k = 2) ∧ (k = 7 ∨ k = 8 → sz ≠ 0) ∧ (k = 4 → sz ≤ 4096) ∧ (k ≠ 4 ∧ k ≠ 7 ∧ k ≠ 8 → sz = 0) ∧ (k = 3 → -4611686018427387904 ≤ n ∧ n ≤ 4611686018427387903) ∧ (k = 5 → n = 0 ∨ n = 1) ∧ (k ≠ 3 ∧ k ≠ 5 → n = 0) := h
theorem no_shape {p : AP} (h : ¬ (1 ≤ p.k ∧ p.k ≤ 9 ∧ (p.k = 8 → p.ps.length = 1) ∧ (p.k = 9 → p.ps.length = p.ls.length) ∧ (p.k ≠ 8 ∧ p.k ≠ 9 → p.ps.length = 0) ∧ (p.k ≠ 9 → p.ls.length = 0) ∧ (p.v = 0 ∨ p.k = 2) ∧ (p.k = 7 ∨ p.k = 8 → p.s.size ≠ 0) ∧ (p.k = 4 → p.s.size ≤ 4096) ∧ (p.k ≠ 4 ∧ p.k ≠ 7 ∧ p.k ≠ 8 → p.s.size = 0) ∧ (p.k = 3 → -4611686018427387904 ≤ p.n ∧ p.n ≤ 4611686018427387903) ∧ (p.k = 5 → p.n = 0 ∨ p.n = 1) ∧ (p.k ≠ 3 ∧ p.k ≠ 5 → p.n = 0))) : formP p = false := form_no h
theorem shape_mk {k v n : Int} {sz nl na : Nat} (h : 1 ≤ k ∧ k ≤ 9 ∧ (k = 8 → na = 1) ∧ (k = 9 → na = nl) ∧ (k ≠ 8 ∧ k ≠ 9 → na = 0) ∧ (k ≠ 9 → nl = 0) ∧ (v = 0 ∨ k = 2) ∧ (k = 7 ∨ k = 8 → sz ≠ 0) ∧ (k = 4 → sz ≤ 4096) ∧ (k ≠ 4 ∧ k ≠ 7 ∧ k ≠ 8 → sz = 0) ∧ (k = 3 → -4611686018427387904 ≤ n ∧ n ≤ 4611686018427387903) ∧ (k = 5 → n = 0 ∨ n = 1) ∧ (k ≠ 3 ∧ k ≠ 5 → n = 0)) : Shape k v n sz nl na := h
theorem labs_0 (ls : List ByteArray) : labsP [] (ls.take 0) = true := rfl
set_option maxRecDepth 10000 attribute [local irreducible] Code.wp wpList Calls Ex Op1 sat bat blk cb own Go.Fw.mp Go.Fw.mpO Go.Fw.mpI Go.Fw.mpE Go.Fw.itr HS Rd Ret wkD Hp Cl Cls Exit.then Exit.inBlock Exit.noGoto bodyPost Go.Fw.flat wk2 Go.Fw.all Go.Fw.owns wpOp
attribute [local irreducible] encA partsP partsL idxX formP formL labsP Shape hasX

set_option maxHeartbeats 8000000 in
theorem form_spec : ∀ (z : Nat) (p : AP), SizeOf.sizeOf p < z → ∀ (w0 : World), RdA w0 p →
    Ret Try.prog 19 #[.agg #[.int .i64 p.k, .int .i64 p.v, .int .i64 p.n, .string p.s, .slice p.ol p.ls.length p.cl, .slice p.oa p.ps.length p.ca]] w0 (fun v w => v = .bool (formP p) ∧ Kp w0 noM w)
  | 0, p, hz, _, _ => absurd hz (Nat.not_lt_zero _)
  | z + 1, p, hz, w0, hR => by
    have hH : HS w0 noM [] w0 := HS.init w0 noM
    have hra := hR.a
    have hrl := hR.l
    have hc := hR.c
    have hcl : ∀ x ∈ p.ps, ∀ w, Kp w0 noM w → Ret Try.prog 36 (#[] ++ #[.agg #[.int .i64 x.k, .int .i64 x.v, .int .i64 x.n, .string x.s, .slice x.ol x.ls.length x.cl, .slice x.oa x.ps.length x.ca]] ++ #[]) w (fun v w' => v = .bool (!formP x) ∧ Kp w noM w') := by
      intro x hx w hk
      have hRx := (hR.s x hx).keep hk
      have hH : HS w noM [] w := HS.init w noM
      (refine enter (N := 6) Try.func36 rfl Try.ntmps36 rfl ?_; intro a hA; dsimp only [sl0, Nat.reduceAdd] at hA)
      repeat' (first | (first | (refine GT ?_ ?_ <;> intro hg <;> clear hA a <;> intro a hA <;> (first | exact FA | replace hg := of_decide_eq_true hg | replace hg := of_decide_eq_false hg | skip)) | (refine QT ?_; clear hA a; intro a hA) | (first | (refine BT ?_; clear hA hH; rintro _ w ⟨bN, rfl, hH⟩ a hA) | (refine LT ?_; clear hA hH; rintro _ w ⟨oN, rfl, hH⟩ a hA) | (refine AT ?_; clear hA; rintro _ w ⟨oN, cN, rfl, hH2⟩ a hA; clear hH; have hH := (hH2 _ (by (repeat constructor))).tail; clear hH2) | (refine S0T ?_; clear hH; rintro _ w hH) )) | ((first | refine CT ?_ | (refine DT ?_ ?_ <;> intro hc <;> try (exfalso; omega))) <;> repeat' refine CT ?_) | (first | (refine DSK ?_; clear hA a; intro a hA) | (first | (refine DLT ?_; clear hA hH; rintro _ w ⟨oN, rfl, hH⟩; refine ⟨STT, ?_⟩; intro a hA) | (refine DAT ?_; clear hA; rintro _ w ⟨oN, cN, rfl, hH2⟩; clear hH; have hH := (hH2 _ (by (repeat constructor))).tail; clear hH2; refine ⟨STT, ?_⟩; intro a hA))) )
      (refine st_op hA rfl rfl (by decide) (op_call rfl rfl rfl (form_spec z x (by have := as_lt hx; omega) _ (hRx.keep hH.kp))) ?_; clear hA; rintro _ w ⟨rfl, hk⟩ a hA; replace hH := hH.keep hk; clear hk)
      repeat' (first | (first | (refine GT ?_ ?_ <;> intro hg <;> clear hA a <;> intro a hA <;> (first | exact FA | replace hg := of_decide_eq_true hg | replace hg := of_decide_eq_false hg | skip)) | (refine QT ?_; clear hA a; intro a hA) | (first | (refine BT ?_; clear hA hH; rintro _ w ⟨bN, rfl, hH⟩ a hA) | (refine LT ?_; clear hA hH; rintro _ w ⟨oN, rfl, hH⟩ a hA) | (refine AT ?_; clear hA; rintro _ w ⟨oN, cN, rfl, hH2⟩ a hA; clear hH; have hH := (hH2 _ (by (repeat constructor))).tail; clear hH2) | (refine S0T ?_; clear hH; rintro _ w hH) )) | ((first | refine CT ?_ | (refine DT ?_ ?_ <;> intro hc <;> try (exfalso; omega))) <;> repeat' refine CT ?_) | (first | (refine DSK ?_; clear hA a; intro a hA) | (first | (refine DLT ?_; clear hA hH; rintro _ w ⟨oN, rfl, hH⟩; refine ⟨STT, ?_⟩; intro a hA) | (refine DAT ?_; clear hA; rintro _ w ⟨oN, cN, rfl, hH2⟩; clear hH; have hH := (hH2 _ (by (repeat constructor))).tail; clear hH2; refine ⟨STT, ?_⟩; intro a hA))) )
      exact rt1 (.inl rfl) rfl hA rfl ⟨rfl, hH.kp⟩
    have hspL : Sp p.ol p.ls.length := hrl.sp (sz := 1) (flat_length encX_len p.ls) (by omega)
    have hno := @no_shape p
    have hmx := hc
    unfold maxLen at hmx
    (refine enter (N := 129) Try.func19 rfl Try.ntmps19 rfl ?_; intro a hA; dsimp only [sl0, Nat.reduceAdd] at hA)
    repeat refine CT ?_
    (refine BT ?_; clear hA hH; rintro _ w ⟨bP, rfl, hH⟩ a hA)
    have hX := hH; replace hH := hH.drop_
    repeat' (first | (first | (refine GT ?_ ?_ <;> intro hg <;> clear hA a <;> intro a hA <;> (first | exact FA | replace hg := of_decide_eq_true hg | replace hg := of_decide_eq_false hg | skip)) | (refine QT ?_; clear hA a; intro a hA) | (first | (refine BT ?_; clear hA hH; rintro _ w ⟨bN, rfl, hH⟩ a hA) | (refine LT ?_; clear hA hH; rintro _ w ⟨oN, rfl, hH⟩ a hA) | (refine AT ?_; clear hA; rintro _ w ⟨oN, cN, rfl, hH2⟩ a hA; clear hH; have hH := (hH2 _ (by (repeat constructor))).tail; clear hH2) | (refine S0T ?_; clear hH; rintro _ w hH) )) | ((first | refine CT ?_ | (refine DT ?_ ?_ <;> intro hc <;> try (exfalso; omega))) <;> repeat' refine CT ?_) | (first | (refine DSK ?_; clear hA a; intro a hA) | (first | (refine DLT ?_; clear hA hH; rintro _ w ⟨oN, rfl, hH⟩; refine ⟨STT, ?_⟩; intro a hA) | (refine DAT ?_; clear hA; rintro _ w ⟨oN, cN, rfl, hH2⟩; clear hH; have hH := (hH2 _ (by (repeat constructor))).tail; clear hH2; refine ⟨STT, ?_⟩; intro a hA))) )
    clear hH; have hH := hX; clear hX
    refine st_cutR (fun a w => HS w0 noM [cb bP 38 [.int .i64 p.k, .int .i64 p.v, .int .i64 p.n, .string p.s, .slice p.ol p.ls.length p.cl, .slice p.oa p.ps.length p.ca]] w ∧ Sl 129 [(1, .pointer (some (bat bP 0))), (2, .bool false), (3, .int .i64 0), (4, .int .i64 0), (5, .bool (decide (p.k = 7 ∨ p.k = 8)))] a) ?_ ?_
    · repeat' (first | (first | (refine GT ?_ ?_ <;> intro hg <;> clear hA a <;> intro a hA <;> (first | exact FA | replace hg := of_decide_eq_true hg | replace hg := of_decide_eq_false hg | skip)) | (refine QT ?_; clear hA a; intro a hA) | (first | (refine BT ?_; clear hA hH; rintro _ w ⟨bN, rfl, hH⟩ a hA) | (refine LT ?_; clear hA hH; rintro _ w ⟨oN, rfl, hH⟩ a hA) | (refine AT ?_; clear hA; rintro _ w ⟨oN, cN, rfl, hH2⟩ a hA; clear hH; have hH := (hH2 _ (by (repeat constructor))).tail; clear hH2) | (refine S0T ?_; clear hH; rintro _ w hH) )) | ((first | refine CT ?_ | (refine DT ?_ ?_ <;> intro hc <;> try (exfalso; omega))) <;> repeat' refine CT ?_) | (first | (refine DSK ?_; clear hA a; intro a hA) | (first | (refine DLT ?_; clear hA hH; rintro _ w ⟨oN, rfl, hH⟩; refine ⟨STT, ?_⟩; intro a hA) | (refine DAT ?_; clear hA; rintro _ w ⟨oN, cN, rfl, hH2⟩; clear hH; have hH := (hH2 _ (by (repeat constructor))).tail; clear hH2; refine ⟨STT, ?_⟩; intro a hA))) )
      · exact ⟨hH, by rw [decide_eq_true (show p.k = 7 ∨ p.k = 8 by omega)]; exact (hA.sub (by (repeat (first | exact trivial | refine ⟨rfl, ?_⟩))))⟩
      · exact ⟨hH, by rw [show decide (p.k = 7 ∨ p.k = 8) = decide (p.k = 8) by rw [decide_eq_decide]; omega]; exact (hA.sub (by (repeat (first | exact trivial | refine ⟨rfl, ?_⟩))))⟩
    clear hA hH
    rintro a w ⟨hH, hA⟩
    have hX := hH; replace hH := hH.drop_
    repeat' (first | (first | (refine GT ?_ ?_ <;> intro hg <;> clear hA a <;> intro a hA <;> (first | exact FA | replace hg := of_decide_eq_true hg | replace hg := of_decide_eq_false hg | skip)) | (refine QT ?_; clear hA a; intro a hA) | (first | (refine BT ?_; clear hA hH; rintro _ w ⟨bN, rfl, hH⟩ a hA) | (refine LT ?_; clear hA hH; rintro _ w ⟨oN, rfl, hH⟩ a hA) | (refine AT ?_; clear hA; rintro _ w ⟨oN, cN, rfl, hH2⟩ a hA; clear hH; have hH := (hH2 _ (by (repeat constructor))).tail; clear hH2) | (refine S0T ?_; clear hH; rintro _ w hH) )) | ((first | refine CT ?_ | (refine DT ?_ ?_ <;> intro hc <;> try (exfalso; omega))) <;> repeat' refine CT ?_) | (first | (refine DSK ?_; clear hA a; intro a hA) | (first | (refine DLT ?_; clear hA hH; rintro _ w ⟨oN, rfl, hH⟩; refine ⟨STT, ?_⟩; intro a hA) | (refine DAT ?_; clear hA; rintro _ w ⟨oN, cN, rfl, hH2⟩; clear hH; have hH := (hH2 _ (by (repeat constructor))).tail; clear hH2; refine ⟨STT, ?_⟩; intro a hA))) )
    clear hH; have hH := hX; clear hX
    refine st_join (fun a w => ∃ ar lb : Int, (1 ≤ p.k ∧ p.k ≤ 9 ∧ (p.k = 8 → ar = 1) ∧ (p.k = 9 → ar = p.ls.length) ∧ (p.k ≠ 8 ∧ p.k ≠ 9 → ar = 0) ∧ (p.k = 9 → lb = p.ls.length) ∧ (p.k ≠ 9 → lb = 0)) ∧ HS w0 noM [cb bP 38 [.int .i64 p.k, .int .i64 p.v, .int .i64 p.n, .string p.s, .slice p.ol p.ls.length p.cl, .slice p.oa p.ps.length p.ca]] w ∧ Sl 129 [(1, .pointer (some (bat bP 0))), (2, .bool false), (3, .int .i64 ar), (4, .int .i64 lb), (5, .bool (decide (p.k = 7 ∨ p.k = 8)))] a) ?_ ?_
    · repeat' (first | (first | (refine GT ?_ ?_ <;> intro hg <;> clear hA a <;> intro a hA <;> (first | exact FA | replace hg := of_decide_eq_true hg | replace hg := of_decide_eq_false hg | skip)) | (refine QT ?_; clear hA a; intro a hA) | (first | (refine BT ?_; clear hA hH; rintro _ w ⟨bN, rfl, hH⟩ a hA) | (refine LT ?_; clear hA hH; rintro _ w ⟨oN, rfl, hH⟩ a hA) | (refine AT ?_; clear hA; rintro _ w ⟨oN, cN, rfl, hH2⟩ a hA; clear hH; have hH := (hH2 _ (by (repeat constructor))).tail; clear hH2) | (refine S0T ?_; clear hH; rintro _ w hH) )) | ((first | refine CT ?_ | (refine DT ?_ ?_ <;> intro hc <;> try (exfalso; omega))) <;> repeat' refine CT ?_) | (first | (refine DSK ?_; clear hA a; intro a hA) | (first | (refine DLT ?_; clear hA hH; rintro _ w ⟨oN, rfl, hH⟩; refine ⟨STT, ?_⟩; intro a hA) | (refine DAT ?_; clear hA; rintro _ w ⟨oN, cN, rfl, hH2⟩; clear hH; have hH := (hH2 _ (by (repeat constructor))).tail; clear hH2; refine ⟨STT, ?_⟩; intro a hA))) )
      all_goals (first | exact rt1 (.inl rfl) rfl hA rfl ⟨by rw [hno (by omega)], hH.kp⟩ | exact ⟨0, 0, by omega, hH, (hA.sub (by (repeat (first | exact trivial | refine ⟨rfl, ?_⟩))))⟩ | exact ⟨1, 0, by omega, hH, (hA.sub (by (repeat (first | exact trivial | refine ⟨rfl, ?_⟩))))⟩ | skip)
      (refine wp_draw_HS [(0, 1), (1, 1), (2, 1), (3, 1), (4, 1), (5, 1), (6, 1), (7, 1)] mixed (by decide +kernel) hH ?_; replace hH := hH.drew)
      repeat' (first | (first | (refine GT ?_ ?_ <;> intro hg <;> clear hA a <;> intro a hA <;> (first | exact FA | replace hg := of_decide_eq_true hg | replace hg := of_decide_eq_false hg | skip)) | (refine QT ?_; clear hA a; intro a hA) | (first | (refine BT ?_; clear hA hH; rintro _ w ⟨bN, rfl, hH⟩ a hA) | (refine LT ?_; clear hA hH; rintro _ w ⟨oN, rfl, hH⟩ a hA) | (refine AT ?_; clear hA; rintro _ w ⟨oN, cN, rfl, hH2⟩ a hA; clear hH; have hH := (hH2 _ (by (repeat constructor))).tail; clear hH2) | (refine S0T ?_; clear hH; rintro _ w hH) )) | ((first | refine CT ?_ | (refine DT ?_ ?_ <;> intro hc <;> try (exfalso; omega))) <;> repeat' refine CT ?_) | (first | (refine DSK ?_; clear hA a; intro a hA) | (first | (refine DLT ?_; clear hA hH; rintro _ w ⟨oN, rfl, hH⟩; refine ⟨STT, ?_⟩; intro a hA) | (refine DAT ?_; clear hA; rintro _ w ⟨oN, cN, rfl, hH2⟩; clear hH; have hH := (hH2 _ (by (repeat constructor))).tail; clear hH2; refine ⟨STT, ?_⟩; intro a hA))) )
      exact ⟨p.ls.length, p.ls.length, by omega, hH, (hA.sub (by (repeat (first | exact trivial | refine ⟨rfl, ?_⟩))))⟩
    clear hA hH
    rintro a w ⟨ar, lb, ⟨f1, f2, f3, f4, f5, f6, f7⟩, hH, hA⟩
    have hX := hH; replace hH := hH.drop_
    repeat' (first | (first | (refine GT ?_ ?_ <;> intro hg <;> clear hA a <;> intro a hA <;> (first | exact FA | replace hg := of_decide_eq_true hg | replace hg := of_decide_eq_false hg | skip)) | (refine QT ?_; clear hA a; intro a hA) | (first | (refine BT ?_; clear hA hH; rintro _ w ⟨bN, rfl, hH⟩ a hA) | (refine LT ?_; clear hA hH; rintro _ w ⟨oN, rfl, hH⟩ a hA) | (refine AT ?_; clear hA; rintro _ w ⟨oN, cN, rfl, hH2⟩ a hA; clear hH; have hH := (hH2 _ (by (repeat constructor))).tail; clear hH2) | (refine S0T ?_; clear hH; rintro _ w hH) )) | ((first | refine CT ?_ | (refine DT ?_ ?_ <;> intro hc <;> try (exfalso; omega))) <;> repeat' refine CT ?_) | (first | (refine DSK ?_; clear hA a; intro a hA) | (first | (refine DLT ?_; clear hA hH; rintro _ w ⟨oN, rfl, hH⟩; refine ⟨STT, ?_⟩; intro a hA) | (refine DAT ?_; clear hA; rintro _ w ⟨oN, cN, rfl, hH2⟩; clear hH; have hH := (hH2 _ (by (repeat constructor))).tail; clear hH2; refine ⟨STT, ?_⟩; intro a hA))) )
    clear hH; have hH := hX; clear hX
    refine st_join (fun a w => ((p.ps.length : Int) = ar ∧ (p.ls.length : Int) = lb ∧ (p.v = 0 ∨ p.k = 2) ∧ (p.k = 7 ∨ p.k = 8 → p.s.size ≠ 0) ∧ (p.k = 4 → p.s.size ≤ 4096) ∧ (p.k ≠ 4 ∧ p.k ≠ 7 ∧ p.k ≠ 8 → p.s.size = 0)) ∧ HS w0 noM [cb bP 38 [.int .i64 p.k, .int .i64 p.v, .int .i64 p.n, .string p.s, .slice p.ol p.ls.length p.cl, .slice p.oa p.ps.length p.ca]] w ∧ Sl 129 [(1, .pointer (some (bat bP 0))), (2, .bool false)] a) ?_ ?_
    · repeat' (first | (first | (refine GT ?_ ?_ <;> intro hg <;> clear hA a <;> intro a hA <;> (first | exact FA | replace hg := of_decide_eq_true hg | replace hg := of_decide_eq_false hg | skip)) | ((first | apply st_ex hA hH rfl rfl (by decide) | apply dr_ex hA rfl rfl rfl (by decide) | apply dr_exp hA rfl rfl rfl (by decide) | apply dr_ex3 hA hH rfl rfl rfl (by decide)); (first | (apply ex_eql0; rfl; rfl) | (apply ex_neq0; rfl; rfl) | (apply ex_len_sz; rfl) | (apply ex_neqBf; rfl; rfl) | (apply ex_neqBD; rfl; rfl)); clear hA a; intro a hA) | (refine QT ?_; clear hA a; intro a hA) | (first | (refine BT ?_; clear hA hH; rintro _ w ⟨bN, rfl, hH⟩ a hA) | (refine LT ?_; clear hA hH; rintro _ w ⟨oN, rfl, hH⟩ a hA) | (refine AT ?_; clear hA; rintro _ w ⟨oN, cN, rfl, hH2⟩ a hA; clear hH; have hH := (hH2 _ (by (repeat constructor))).tail; clear hH2) | (refine S0T ?_; clear hH; rintro _ w hH) )) | ((first | refine CT ?_ | (refine DT ?_ ?_ <;> intro hc <;> try (exfalso; omega))) <;> repeat' refine CT ?_) | (first | (refine DSK ?_; clear hA a; intro a hA) | (first | (refine DLT ?_; clear hA hH; rintro _ w ⟨oN, rfl, hH⟩; refine ⟨STT, ?_⟩; intro a hA) | (refine DAT ?_; clear hA; rintro _ w ⟨oN, cN, rfl, hH2⟩; clear hH; have hH := (hH2 _ (by (repeat constructor))).tail; clear hH2; refine ⟨STT, ?_⟩; intro a hA))) )
      all_goals (first | exact rt1 (.inl rfl) rfl hA rfl ⟨by rw [hno (by omega)], hH.kp⟩ | exact ⟨by omega, hH, (hA.sub (by (repeat (first | exact trivial | refine ⟨rfl, ?_⟩))))⟩)
    clear hA hH
    rintro a w ⟨⟨e1, e2, e3, e4, e5, e6⟩, hH, hA⟩
    have hX := hH; replace hH := hH.drop_
    repeat' (first | (first | (refine GT ?_ ?_ <;> intro hg <;> clear hA a <;> intro a hA <;> (first | exact FA | replace hg := of_decide_eq_true hg | replace hg := of_decide_eq_false hg | skip)) | (refine QT ?_; clear hA a; intro a hA) | (first | (refine BT ?_; clear hA hH; rintro _ w ⟨bN, rfl, hH⟩ a hA) | (refine LT ?_; clear hA hH; rintro _ w ⟨oN, rfl, hH⟩ a hA) | (refine AT ?_; clear hA; rintro _ w ⟨oN, cN, rfl, hH2⟩ a hA; clear hH; have hH := (hH2 _ (by (repeat constructor))).tail; clear hH2) | (refine S0T ?_; clear hH; rintro _ w hH) )) | ((first | refine CT ?_ | (refine DT ?_ ?_ <;> intro hc <;> try (exfalso; omega))) <;> repeat' refine CT ?_) | (first | (refine DSK ?_; clear hA a; intro a hA) | (first | (refine DLT ?_; clear hA hH; rintro _ w ⟨oN, rfl, hH⟩; refine ⟨STT, ?_⟩; intro a hA) | (refine DAT ?_; clear hA; rintro _ w ⟨oN, cN, rfl, hH2⟩; clear hH; have hH := (hH2 _ (by (repeat constructor))).tail; clear hH2; refine ⟨STT, ?_⟩; intro a hA))) )
    clear hH; have hH := hX; clear hX
    refine st_join (fun a w => ((p.k = 3 → -4611686018427387904 ≤ p.n ∧ p.n ≤ 4611686018427387903) ∧ (p.k = 5 → p.n = 0 ∨ p.n = 1) ∧ (p.k ≠ 3 ∧ p.k ≠ 5 → p.n = 0)) ∧ HS w0 noM [cb bP 38 [.int .i64 p.k, .int .i64 p.v, .int .i64 p.n, .string p.s, .slice p.ol p.ls.length p.cl, .slice p.oa p.ps.length p.ca]] w ∧ Sl 129 [(1, .pointer (some (bat bP 0))), (2, .bool false)] a) ?_ ?_
    · repeat' (first | (first | (refine GT ?_ ?_ <;> intro hg <;> clear hA a <;> intro a hA <;> (first | exact FA | replace hg := of_decide_eq_true hg | replace hg := of_decide_eq_false hg | skip)) | (refine QT ?_; clear hA a; intro a hA) | (first | (refine BT ?_; clear hA hH; rintro _ w ⟨bN, rfl, hH⟩ a hA) | (refine LT ?_; clear hA hH; rintro _ w ⟨oN, rfl, hH⟩ a hA) | (refine AT ?_; clear hA; rintro _ w ⟨oN, cN, rfl, hH2⟩ a hA; clear hH; have hH := (hH2 _ (by (repeat constructor))).tail; clear hH2) | (refine S0T ?_; clear hH; rintro _ w hH) )) | ((first | refine CT ?_ | (refine DT ?_ ?_ <;> intro hc <;> try (exfalso; omega))) <;> repeat' refine CT ?_) | (first | (refine DSK ?_; clear hA a; intro a hA) | (first | (refine DLT ?_; clear hA hH; rintro _ w ⟨oN, rfl, hH⟩; refine ⟨STT, ?_⟩; intro a hA) | (refine DAT ?_; clear hA; rintro _ w ⟨oN, cN, rfl, hH2⟩; clear hH; have hH := (hH2 _ (by (repeat constructor))).tail; clear hH2; refine ⟨STT, ?_⟩; intro a hA))) )
      all_goals (first | exact rt1 (.inl rfl) rfl hA rfl ⟨by rw [hno (by omega)], hH.kp⟩ | exact ⟨by omega, hH, (hA.sub (by (repeat (first | exact trivial | refine ⟨rfl, ?_⟩))))⟩)
    clear hA hH
    rintro a w ⟨⟨g1, g2, g3⟩, hH, hA⟩
    have hshape : Shape p.k p.v p.n p.s.size p.ls.length p.ps.length := shape_mk (by omega)
    repeat' (first | (first | (refine GT ?_ ?_ <;> intro hg <;> clear hA a <;> intro a hA <;> (first | exact FA | replace hg := of_decide_eq_true hg | replace hg := of_decide_eq_false hg | skip)) | (refine QT ?_; clear hA a; intro a hA) | (first | (refine BT ?_; clear hA hH; rintro _ w ⟨bN, rfl, hH⟩ a hA) | (refine LT ?_; clear hA hH; rintro _ w ⟨oN, rfl, hH⟩ a hA) | (refine AT ?_; clear hA; rintro _ w ⟨oN, cN, rfl, hH2⟩ a hA; clear hH; have hH := (hH2 _ (by (repeat constructor))).tail; clear hH2) | (refine S0T ?_; clear hH; rintro _ w hH) )) | ((first | refine CT ?_ | (refine DT ?_ ?_ <;> intro hc <;> try (exfalso; omega))) <;> repeat' refine CT ?_) | (first | (refine DSK ?_; clear hA a; intro a hA) | (first | (refine DLT ?_; clear hA hH; rintro _ w ⟨oN, rfl, hH⟩; refine ⟨STT, ?_⟩; intro a hA) | (refine DAT ?_; clear hA; rintro _ w ⟨oN, cN, rfl, hH2⟩; clear hH; have hH := (hH2 _ (by (repeat constructor))).tail; clear hH2; refine ⟨STT, ?_⟩; intro a hA))) )
    refine wp_lpj (S := Nat) (fun i a w => (i ≤ p.ls.length ∧ labsP [] (p.ls.take i) = true) ∧ HS w0 noM [cb bP 38 [.int .i64 p.k, .int .i64 p.v, .int .i64 p.n, .string p.s, .slice p.ol p.ls.length p.cl, .slice p.oa p.ps.length p.ca]] w ∧ Sl 129 [(1, .pointer (some (bat bP 0))), (107, .slice p.ol p.ls.length p.cl), (108, .int .i64 p.ls.length), (109, .int .i64 i)] a) (fun i => p.ls.length - i)
      (fun a w => labsP [] p.ls = true ∧ HS w0 noM [cb bP 38 [.int .i64 p.k, .int .i64 p.v, .int .i64 p.n, .string p.s, .slice p.ol p.ls.length p.cl, .slice p.oa p.ps.length p.ca]] w ∧ Sl 129 [(1, .pointer (some (bat bP 0)))] a) 0 ⟨⟨Nat.zero_le _, labs_0 p.ls⟩, hH, (hA.sub (by (repeat (first | exact trivial | refine ⟨rfl, ?_⟩))))⟩ ?_ ?_
    · clear hA hH
      rintro i a w ⟨⟨hi, hn⟩, hH, hA⟩
      by_cases hlt : i < p.ls.length
      rotate_left
      · obtain rfl : i = p.ls.length := by omega
        rw [List.take_length] at hn
        repeat' (first | (first | (refine GT ?_ ?_ <;> intro hg <;> clear hA a <;> intro a hA <;> (first | exact FA | replace hg := of_decide_eq_true hg | replace hg := of_decide_eq_false hg | skip)) | (refine QT ?_; clear hA a; intro a hA) | (first | (refine BT ?_; clear hA hH; rintro _ w ⟨bN, rfl, hH⟩ a hA) | (refine LT ?_; clear hA hH; rintro _ w ⟨oN, rfl, hH⟩ a hA) | (refine AT ?_; clear hA; rintro _ w ⟨oN, cN, rfl, hH2⟩ a hA; clear hH; have hH := (hH2 _ (by (repeat constructor))).tail; clear hH2) | (refine S0T ?_; clear hH; rintro _ w hH) )) | ((first | refine CT ?_ | (refine DT ?_ ?_ <;> intro hc <;> try (exfalso; omega))) <;> repeat' refine CT ?_) | (first | (refine DSK ?_; clear hA a; intro a hA) | (first | (refine DLT ?_; clear hA hH; rintro _ w ⟨oN, rfl, hH⟩; refine ⟨STT, ?_⟩; intro a hA) | (refine DAT ?_; clear hA; rintro _ w ⟨oN, cN, rfl, hH2⟩; clear hH; have hH := (hH2 _ (by (repeat constructor))).tail; clear hH2; refine ⟨STT, ?_⟩; intro a hA))) )
        exact ⟨hn, hH, (hA.sub (by (repeat (first | exact trivial | refine ⟨rfl, ?_⟩))))⟩
      obtain ⟨x, hx⟩ : ∃ x, p.ls[i]? = some x := ⟨_, List.getElem?_eq_getElem hlt⟩
      have hcx := encX_at hx
      repeat' (first | (first | (refine GT ?_ ?_ <;> intro hg <;> clear hA a <;> intro a hA <;> (first | exact FA | replace hg := of_decide_eq_true hg | replace hg := of_decide_eq_false hg | skip)) | ((first | apply st_ex hA hH rfl rfl (by decide) | apply dr_ex hA rfl rfl rfl (by decide) | apply dr_exp hA rfl rfl rfl (by decide) | apply dr_ex3 hA hH rfl rfl rfl (by decide)); (first | (apply ex_eql0; rfl; rfl) | (apply ex_neq0; rfl; rfl) | (apply ex_len_sz; rfl) | (apply ex_neqBf; rfl; rfl) | (apply ex_neqBD; rfl; rfl) | (apply ex_slice_hi (k := i); rfl; rfl; rfl; omega)); clear hA a; intro a hA) | (refine QT ?_; clear hA a; intro a hA) | (first | (refine BT ?_; clear hA hH; rintro _ w ⟨bN, rfl, hH⟩ a hA) | (refine LT ?_; clear hA hH; rintro _ w ⟨oN, rfl, hH⟩ a hA) | (refine AT ?_; clear hA; rintro _ w ⟨oN, cN, rfl, hH2⟩ a hA; clear hH; have hH := (hH2 _ (by (repeat constructor))).tail; clear hH2) | (refine S0T ?_; clear hH; rintro _ w hH) )) | ((first | refine CT ?_ | (refine DT ?_ ?_ <;> intro hc <;> try (exfalso; omega))) <;> repeat' refine CT ?_) | (first | (refine DSK ?_; clear hA a; intro a hA) | (first | (refine DLT ?_; clear hA hH; rintro _ w ⟨oN, rfl, hH⟩; refine ⟨STT, ?_⟩; intro a hA) | (refine DAT ?_; clear hA; rintro _ w ⟨oN, cN, rfl, hH2⟩; clear hH; have hH := (hH2 _ (by (repeat constructor))).tail; clear hH2; refine ⟨STT, ?_⟩; intro a hA))) )
      · exact rt1 (.inl rfl) rfl hA rfl ⟨by rw [formP_eq, labs_bad hx (.inl (by omega))]; simp, hH.kp⟩
      rw [show i = (p.ls.take i).length by rw [List.length_take]; omega] at hA
      (refine st_op hA rfl rfl (by decide) (op_call rfl rfl rfl (containsX_spec _ p.ol p.cl (p.ls.take i) x (by rw [← flat_take encX_len, Nat.mul_one]; exact (hH.rd hrl id).take i) (by rw [List.length_take]; unfold maxLen; omega))) ?_; clear hA; rintro _ w ⟨rfl, hk⟩ a hA; replace hH := hH.keep hk; clear hk)
      rw [show (p.ls.take i).length = i by rw [List.length_take]; omega] at hA
      cases hfx : hasX (p.ls.take i) x with
      | true =>
        rw [hfx] at hA
        repeat' (first | (first | (refine GT ?_ ?_ <;> intro hg <;> clear hA a <;> intro a hA <;> (first | exact FA | replace hg := of_decide_eq_true hg | replace hg := of_decide_eq_false hg | skip)) | (refine QT ?_; clear hA a; intro a hA) | (first | (refine BT ?_; clear hA hH; rintro _ w ⟨bN, rfl, hH⟩ a hA) | (refine LT ?_; clear hA hH; rintro _ w ⟨oN, rfl, hH⟩ a hA) | (refine AT ?_; clear hA; rintro _ w ⟨oN, cN, rfl, hH2⟩ a hA; clear hH; have hH := (hH2 _ (by (repeat constructor))).tail; clear hH2) | (refine S0T ?_; clear hH; rintro _ w hH) )) | ((first | refine CT ?_ | (refine DT ?_ ?_ <;> intro hc <;> try (exfalso; omega))) <;> repeat' refine CT ?_) | (first | (refine DSK ?_; clear hA a; intro a hA) | (first | (refine DLT ?_; clear hA hH; rintro _ w ⟨oN, rfl, hH⟩; refine ⟨STT, ?_⟩; intro a hA) | (refine DAT ?_; clear hA; rintro _ w ⟨oN, cN, rfl, hH2⟩; clear hH; have hH := (hH2 _ (by (repeat constructor))).tail; clear hH2; refine ⟨STT, ?_⟩; intro a hA))) )
        exact rt1 (.inl rfl) rfl hA rfl ⟨by rw [formP_eq, labs_bad hx (.inr hfx)]; simp, hH.kp⟩
      | false =>
        rw [hfx] at hA
        repeat' (first | (first | (refine GT ?_ ?_ <;> intro hg <;> clear hA a <;> intro a hA <;> (first | exact FA | replace hg := of_decide_eq_true hg | replace hg := of_decide_eq_false hg | skip)) | (refine QT ?_; clear hA a; intro a hA) | (first | (refine BT ?_; clear hA hH; rintro _ w ⟨bN, rfl, hH⟩ a hA) | (refine LT ?_; clear hA hH; rintro _ w ⟨oN, rfl, hH⟩ a hA) | (refine AT ?_; clear hA; rintro _ w ⟨oN, cN, rfl, hH2⟩ a hA; clear hH; have hH := (hH2 _ (by (repeat constructor))).tail; clear hH2) | (refine S0T ?_; clear hH; rintro _ w hH) )) | ((first | refine CT ?_ | (refine DT ?_ ?_ <;> intro hc <;> try (exfalso; omega))) <;> repeat' refine CT ?_) | (first | (refine DSK ?_; clear hA a; intro a hA) | (first | (refine DLT ?_; clear hA hH; rintro _ w ⟨oN, rfl, hH⟩; refine ⟨STT, ?_⟩; intro a hA) | (refine DAT ?_; clear hA; rintro _ w ⟨oN, cN, rfl, hH2⟩; clear hH; have hH := (hH2 _ (by (repeat constructor))).tail; clear hH2; refine ⟨STT, ?_⟩; intro a hA))) )
        exact ⟨i + 1, ⟨⟨hlt, labs_next hx hn (by omega) hfx⟩, hH, (hA.sub (by (repeat (first | exact trivial | refine ⟨rfl, ?_⟩))))⟩, by omega⟩
    clear hA hH
    rintro a w ⟨hlb, hH, hA⟩
    repeat' (first | (first | (refine GT ?_ ?_ <;> intro hg <;> clear hA a <;> intro a hA <;> (first | exact FA | replace hg := of_decide_eq_true hg | replace hg := of_decide_eq_false hg | skip)) | (refine QT ?_; clear hA a; intro a hA) | (first | (refine BT ?_; clear hA hH; rintro _ w ⟨bN, rfl, hH⟩ a hA) | (refine LT ?_; clear hA hH; rintro _ w ⟨oN, rfl, hH⟩ a hA) | (refine AT ?_; clear hA; rintro _ w ⟨oN, cN, rfl, hH2⟩ a hA; clear hH; have hH := (hH2 _ (by (repeat constructor))).tail; clear hH2) | (refine S0T ?_; clear hH; rintro _ w hH) )) | ((first | refine CT ?_ | (refine DT ?_ ?_ <;> intro hc <;> try (exfalso; omega))) <;> repeat' refine CT ?_) | (first | (refine DSK ?_; clear hA a; intro a hA) | (first | (refine DLT ?_; clear hA hH; rintro _ w ⟨oN, rfl, hH⟩; refine ⟨STT, ?_⟩; intro a hA) | (refine DAT ?_; clear hA; rintro _ w ⟨oN, cN, rfl, hH2⟩; clear hH; have hH := (hH2 _ (by (repeat constructor))).tail; clear hH2; refine ⟨STT, ?_⟩; intro a hA))) )
    (refine st_op hA rfl rfl (by decide) (op_call rfl rfl rfl (containsA_spec _ p.oa p.ca p.ps 36 #[] #[] (fun x => !formP x) (hH.rd hra id) (by unfold maxLen; omega) (fun x hx w hw => hcl x hx w (hH.kp.trans hw (fun b hb => hb.elim))))) ?_; clear hA; rintro _ w ⟨rfl, hk⟩ a hA; replace hH := hH.keep hk; clear hk)
    repeat' (first | (first | (refine GT ?_ ?_ <;> intro hg <;> clear hA a <;> intro a hA <;> (first | exact FA | replace hg := of_decide_eq_true hg | replace hg := of_decide_eq_false hg | skip)) | (refine QT ?_; clear hA a; intro a hA) | (first | (refine BT ?_; clear hA hH; rintro _ w ⟨bN, rfl, hH⟩ a hA) | (refine LT ?_; clear hA hH; rintro _ w ⟨oN, rfl, hH⟩ a hA) | (refine AT ?_; clear hA; rintro _ w ⟨oN, cN, rfl, hH2⟩ a hA; clear hH; have hH := (hH2 _ (by (repeat constructor))).tail; clear hH2) | (refine S0T ?_; clear hH; rintro _ w hH) )) | ((first | refine CT ?_ | (refine DT ?_ ?_ <;> intro hc <;> try (exfalso; omega))) <;> repeat' refine CT ?_) | (first | (refine DSK ?_; clear hA a; intro a hA) | (first | (refine DLT ?_; clear hA hH; rintro _ w ⟨oN, rfl, hH⟩; refine ⟨STT, ?_⟩; intro a hA) | (refine DAT ?_; clear hA; rintro _ w ⟨oN, cN, rfl, hH2⟩; clear hH; have hH := (hH2 _ (by (repeat constructor))).tail; clear hH2; refine ⟨STT, ?_⟩; intro a hA))) )
    exact rt1 (.inl rfl) rfl hA rfl ⟨by rw [form_yes hshape hlb], hH.kp⟩
end Go.Proofs.Ytcododdkjppmjaa
namespace Go.Proofs.Ytcododdkjppmjaa
open Go Go.Fw
set_option linter.unusedVariables false
theorem formL_bad {p : AP} {i : Nat} {x : AP} (hx : p.ps[i]? = some x) (h : formP x = false) : formP p = false := by
  rw [formP_eq, formL_all]
  have : p.ps.all formP = false := by rw [List.all_eq_false]; exact ⟨x, List.mem_of_getElem? hx, by simp [h]⟩
  simp [this]
theorem form_end {p : AP} (h : Shape p.k p.v p.n p.s.size p.ls.length p.ps.length) (h2 : labsP [] p.ls = true) (h3 : p.ps.all formP = true) : formP p = true := by
  rw [formP_eq, decide_eq_true h, h2, formL_all, h3]; rfl
theorem labs_no {p : AP} {i : Nat} {x : ByteArray} (hx : p.ls[i]? = some x) (h : x.size = 0 ∨ hasX (p.ls.take i) x = true) : formP p = false := by
  rw [formP_eq, labs_bad hx h]; simp
theorem hasX_next {l : List ByteArray} {i : Nat} {x y : ByteArray} (hx : l[i]? = some y) (h : hasX (l.take i) x = false) (hn : x ≠ y) : hasX (l.take (i + 1)) x = false := by
  rw [take_next hx]
  unfold hasX at *
  rw [List.any_append, h]
  simp [Ne.symm hn]
theorem hasX_at {l : List ByteArray} {i n : Nat} {x : ByteArray} (hx : l[i]? = some x) (h : i < n) : hasX (l.take n) x = true := by
  rw [hasX_iff]
  apply List.mem_of_getElem? (i := i)
  rw [List.getElem?_take_of_lt h, hx]
set_option maxRecDepth 10000 attribute [local irreducible] Code.wp wpList Calls Ex Op1 sat bat blk cb own Go.Fw.mp Go.Fw.mpO Go.Fw.mpI Go.Fw.mpE Go.Fw.itr HS Rd Ret wkD Hp Cl Cls Exit.then Exit.inBlock Exit.noGoto bodyPost Go.Fw.flat wk2 Go.Fw.all Go.Fw.owns wpOp
attribute [local irreducible] encA partsP partsL idxX formP formL labsP Shape hasX

set_option maxHeartbeats 8000000 in
theorem rform_spec : ∀ (z : Nat) (p : AP), SizeOf.sizeOf p < z → ∀ (w0 : World), RdA w0 p →
    Ret Try.prog 24 #[.agg #[.int .i64 p.k, .int .i64 p.v, .int .i64 p.n, .string p.s, .slice p.ol p.ls.length p.cl, .slice p.oa p.ps.length p.ca]] w0 (fun v w => v = .bool (formP p) ∧ Kp w0 noM w)
  | 0, p, hz, _, _ => absurd hz (Nat.not_lt_zero _)
  | z + 1, p, hz, w0, hR => by
    have hH : HS w0 noM [] w0 := HS.init w0 noM
    have hra := hR.a
    have hrl := hR.l
    have hc := hR.c
    have hspL : Sp p.ol p.ls.length := hrl.sp (sz := 1) (flat_length encX_len p.ls) (by omega)
    have hspA : Sp p.oa p.ps.length := hra.sp (sz := 6) (flat_length encA_len p.ps) (by omega)
    have hno := @no_shape p
    have hmx := hc
    unfold maxLen at hmx
    (refine enter (N := 150) Try.func24 rfl Try.ntmps24 rfl ?_; intro a hA; dsimp only [sl0, Nat.reduceAdd] at hA)
    repeat refine CT ?_
    (refine BT ?_; clear hA hH; rintro _ w ⟨bP, rfl, hH⟩ a hA)
    have hX := hH; replace hH := hH.drop_
    repeat' (first | (first | (refine GT ?_ ?_ <;> intro hg <;> clear hA a <;> intro a hA <;> (first | exact FA | replace hg := of_decide_eq_true hg | replace hg := of_decide_eq_false hg | skip)) | (refine QT ?_; clear hA a; intro a hA) | (first | (refine BT ?_; clear hA hH; rintro _ w ⟨bN, rfl, hH⟩ a hA) | (refine LT ?_; clear hA hH; rintro _ w ⟨oN, rfl, hH⟩ a hA) | (refine AT ?_; clear hA; rintro _ w ⟨oN, cN, rfl, hH2⟩ a hA; clear hH; have hH := (hH2 _ (by (repeat constructor))).tail; clear hH2) | (refine S0T ?_; clear hH; rintro _ w hH) )) | ((first | refine CT ?_ | (refine DT ?_ ?_ <;> intro hc <;> try (exfalso; omega))) <;> repeat' refine CT ?_) | (first | (refine DSK ?_; clear hA a; intro a hA) | (first | (refine DLT ?_; clear hA hH; rintro _ w ⟨oN, rfl, hH⟩; refine ⟨STT, ?_⟩; intro a hA) | (refine DAT ?_; clear hA; rintro _ w ⟨oN, cN, rfl, hH2⟩; clear hH; have hH := (hH2 _ (by (repeat constructor))).tail; clear hH2; refine ⟨STT, ?_⟩; intro a hA))) )
    clear hH; have hH := hX; clear hX
    refine st_join (fun a w => (1 ≤ p.k ∧ p.k ≤ 9 ∧ (p.v = 0 ∨ p.k = 2)) ∧ HS w0 noM [cb bP 38 [.int .i64 p.k, .int .i64 p.v, .int .i64 p.n, .string p.s, .slice p.ol p.ls.length p.cl, .slice p.oa p.ps.length p.ca]] w ∧ Sl 150 [(1, .pointer (some (bat bP 0)))] a) ?_ ?_
    · repeat' (first | (first | (refine GT ?_ ?_ <;> intro hg <;> clear hA a <;> intro a hA <;> (first | exact FA | replace hg := of_decide_eq_true hg | replace hg := of_decide_eq_false hg | skip)) | (refine QT ?_; clear hA a; intro a hA) | (first | (refine BT ?_; clear hA hH; rintro _ w ⟨bN, rfl, hH⟩ a hA) | (refine LT ?_; clear hA hH; rintro _ w ⟨oN, rfl, hH⟩ a hA) | (refine AT ?_; clear hA; rintro _ w ⟨oN, cN, rfl, hH2⟩ a hA; clear hH; have hH := (hH2 _ (by (repeat constructor))).tail; clear hH2) | (refine S0T ?_; clear hH; rintro _ w hH) )) | ((first | refine CT ?_ | (refine DT ?_ ?_ <;> intro hc <;> try (exfalso; omega))) <;> repeat' refine CT ?_) | (first | (refine DSK ?_; clear hA a; intro a hA) | (first | (refine DLT ?_; clear hA hH; rintro _ w ⟨oN, rfl, hH⟩; refine ⟨STT, ?_⟩; intro a hA) | (refine DAT ?_; clear hA; rintro _ w ⟨oN, cN, rfl, hH2⟩; clear hH; have hH := (hH2 _ (by (repeat constructor))).tail; clear hH2; refine ⟨STT, ?_⟩; intro a hA))) )
      all_goals (first | exact rt1 (.inl rfl) rfl hA rfl ⟨by rw [hno (by omega)], hH.kp⟩ | exact ⟨by omega, hH, (hA.sub (by (repeat (first | exact trivial | refine ⟨rfl, ?_⟩))))⟩)
    clear hA hH
    rintro a w ⟨e1, hH, hA⟩
    have hX := hH; replace hH := hH.drop_
    repeat' (first | (first | (refine GT ?_ ?_ <;> intro hg <;> clear hA a <;> intro a hA <;> (first | exact FA | replace hg := of_decide_eq_true hg | replace hg := of_decide_eq_false hg | skip)) | (refine QT ?_; clear hA a; intro a hA) | (first | (refine BT ?_; clear hA hH; rintro _ w ⟨bN, rfl, hH⟩ a hA) | (refine LT ?_; clear hA hH; rintro _ w ⟨oN, rfl, hH⟩ a hA) | (refine AT ?_; clear hA; rintro _ w ⟨oN, cN, rfl, hH2⟩ a hA; clear hH; have hH := (hH2 _ (by (repeat constructor))).tail; clear hH2) | (refine S0T ?_; clear hH; rintro _ w hH) )) | ((first | refine CT ?_ | (refine DT ?_ ?_ <;> intro hc <;> try (exfalso; omega))) <;> repeat' refine CT ?_) | (first | (refine DSK ?_; clear hA a; intro a hA) | (first | (refine DLT ?_; clear hA hH; rintro _ w ⟨oN, rfl, hH⟩; refine ⟨STT, ?_⟩; intro a hA) | (refine DAT ?_; clear hA; rintro _ w ⟨oN, cN, rfl, hH2⟩; clear hH; have hH := (hH2 _ (by (repeat constructor))).tail; clear hH2; refine ⟨STT, ?_⟩; intro a hA))) )
    clear hH; have hH := hX; clear hX
    refine st_join (fun a w => ((p.k = 3 → -4611686018427387904 ≤ p.n ∧ p.n ≤ 4611686018427387903) ∧ (p.k = 5 → p.n = 0 ∨ p.n = 1) ∧ (p.k ≠ 3 ∧ p.k ≠ 5 → p.n = 0)) ∧ HS w0 noM [cb bP 38 [.int .i64 p.k, .int .i64 p.v, .int .i64 p.n, .string p.s, .slice p.ol p.ls.length p.cl, .slice p.oa p.ps.length p.ca]] w ∧ Sl 150 [(1, .pointer (some (bat bP 0)))] a) ?_ ?_
    · repeat' (first | (first | (refine GT ?_ ?_ <;> intro hg <;> clear hA a <;> intro a hA <;> (first | exact FA | replace hg := of_decide_eq_true hg | replace hg := of_decide_eq_false hg | skip)) | (refine QT ?_; clear hA a; intro a hA) | (first | (refine BT ?_; clear hA hH; rintro _ w ⟨bN, rfl, hH⟩ a hA) | (refine LT ?_; clear hA hH; rintro _ w ⟨oN, rfl, hH⟩ a hA) | (refine AT ?_; clear hA; rintro _ w ⟨oN, cN, rfl, hH2⟩ a hA; clear hH; have hH := (hH2 _ (by (repeat constructor))).tail; clear hH2) | (refine S0T ?_; clear hH; rintro _ w hH) )) | ((first | refine CT ?_ | (refine DT ?_ ?_ <;> intro hc <;> try (exfalso; omega))) <;> repeat' refine CT ?_) | (first | (refine DSK ?_; clear hA a; intro a hA) | (first | (refine DLT ?_; clear hA hH; rintro _ w ⟨oN, rfl, hH⟩; refine ⟨STT, ?_⟩; intro a hA) | (refine DAT ?_; clear hA; rintro _ w ⟨oN, cN, rfl, hH2⟩; clear hH; have hH := (hH2 _ (by (repeat constructor))).tail; clear hH2; refine ⟨STT, ?_⟩; intro a hA))) )
      all_goals (first | exact rt1 (.inl rfl) rfl hA rfl ⟨by rw [hno (by omega)], hH.kp⟩ | exact ⟨by omega, hH, (hA.sub (by (repeat (first | exact trivial | refine ⟨rfl, ?_⟩))))⟩)
    clear hA hH
    rintro a w ⟨e2, hH, hA⟩
    have hX := hH; replace hH := hH.drop_
    repeat' (first | (first | (refine GT ?_ ?_ <;> intro hg <;> clear hA a <;> intro a hA <;> (first | exact FA | replace hg := of_decide_eq_true hg | replace hg := of_decide_eq_false hg | skip)) | (refine QT ?_; clear hA a; intro a hA) | (first | (refine BT ?_; clear hA hH; rintro _ w ⟨bN, rfl, hH⟩ a hA) | (refine LT ?_; clear hA hH; rintro _ w ⟨oN, rfl, hH⟩ a hA) | (refine AT ?_; clear hA; rintro _ w ⟨oN, cN, rfl, hH2⟩ a hA; clear hH; have hH := (hH2 _ (by (repeat constructor))).tail; clear hH2) | (refine S0T ?_; clear hH; rintro _ w hH) )) | ((first | refine CT ?_ | (refine DT ?_ ?_ <;> intro hc <;> try (exfalso; omega))) <;> repeat' refine CT ?_) | (first | (refine DSK ?_; clear hA a; intro a hA) | (first | (refine DLT ?_; clear hA hH; rintro _ w ⟨oN, rfl, hH⟩; refine ⟨STT, ?_⟩; intro a hA) | (refine DAT ?_; clear hA; rintro _ w ⟨oN, cN, rfl, hH2⟩; clear hH; have hH := (hH2 _ (by (repeat constructor))).tail; clear hH2; refine ⟨STT, ?_⟩; intro a hA))) )
    clear hH; have hH := hX; clear hX
    refine st_join (fun a w => ((p.k = 7 ∨ p.k = 8 → p.s.size ≠ 0) ∧ (p.k = 4 → p.s.size ≤ 4096) ∧ (p.k ≠ 4 ∧ p.k ≠ 7 ∧ p.k ≠ 8 → p.s.size = 0)) ∧ HS w0 noM [cb bP 38 [.int .i64 p.k, .int .i64 p.v, .int .i64 p.n, .string p.s, .slice p.ol p.ls.length p.cl, .slice p.oa p.ps.length p.ca]] w ∧ Sl 150 [(1, .pointer (some (bat bP 0)))] a) ?_ ?_
    · repeat' (first | (first | (refine GT ?_ ?_ <;> intro hg <;> clear hA a <;> intro a hA <;> (first | exact FA | replace hg := of_decide_eq_true hg | replace hg := of_decide_eq_false hg | skip)) | ((first | apply st_ex hA hH rfl rfl (by decide) | apply dr_ex hA rfl rfl rfl (by decide) | apply dr_exp hA rfl rfl rfl (by decide) | apply dr_ex3 hA hH rfl rfl rfl (by decide)); (first | (apply ex_eql0; rfl; rfl) | (apply ex_neq0; rfl; rfl) | (apply ex_len_sz; rfl) | (apply ex_neqBf; rfl; rfl) | (apply ex_neqBD; rfl; rfl)); clear hA a; intro a hA) | (refine QT ?_; clear hA a; intro a hA) | (first | (refine BT ?_; clear hA hH; rintro _ w ⟨bN, rfl, hH⟩ a hA) | (refine LT ?_; clear hA hH; rintro _ w ⟨oN, rfl, hH⟩ a hA) | (refine AT ?_; clear hA; rintro _ w ⟨oN, cN, rfl, hH2⟩ a hA; clear hH; have hH := (hH2 _ (by (repeat constructor))).tail; clear hH2) | (refine S0T ?_; clear hH; rintro _ w hH) )) | ((first | refine CT ?_ | (refine DT ?_ ?_ <;> intro hc <;> try (exfalso; omega))) <;> repeat' refine CT ?_) | (first | (refine DSK ?_; clear hA a; intro a hA) | (first | (refine DLT ?_; clear hA hH; rintro _ w ⟨oN, rfl, hH⟩; refine ⟨STT, ?_⟩; intro a hA) | (refine DAT ?_; clear hA; rintro _ w ⟨oN, cN, rfl, hH2⟩; clear hH; have hH := (hH2 _ (by (repeat constructor))).tail; clear hH2; refine ⟨STT, ?_⟩; intro a hA))) )
      all_goals (first | exact rt1 (.inl rfl) rfl hA rfl ⟨by rw [hno (by omega)], hH.kp⟩ | exact ⟨by omega, hH, (hA.sub (by (repeat (first | exact trivial | refine ⟨rfl, ?_⟩))))⟩)
    clear hA hH
    rintro a w ⟨e3, hH, hA⟩
    have hX := hH; replace hH := hH.drop_
    repeat' (first | (first | (refine GT ?_ ?_ <;> intro hg <;> clear hA a <;> intro a hA <;> (first | exact FA | replace hg := of_decide_eq_true hg | replace hg := of_decide_eq_false hg | skip)) | (refine QT ?_; clear hA a; intro a hA) | (first | (refine BT ?_; clear hA hH; rintro _ w ⟨bN, rfl, hH⟩ a hA) | (refine LT ?_; clear hA hH; rintro _ w ⟨oN, rfl, hH⟩ a hA) | (refine AT ?_; clear hA; rintro _ w ⟨oN, cN, rfl, hH2⟩ a hA; clear hH; have hH := (hH2 _ (by (repeat constructor))).tail; clear hH2) | (refine S0T ?_; clear hH; rintro _ w hH) )) | ((first | refine CT ?_ | (refine DT ?_ ?_ <;> intro hc <;> try (exfalso; omega))) <;> repeat' refine CT ?_) | (first | (refine DSK ?_; clear hA a; intro a hA) | (first | (refine DLT ?_; clear hA hH; rintro _ w ⟨oN, rfl, hH⟩; refine ⟨STT, ?_⟩; intro a hA) | (refine DAT ?_; clear hA; rintro _ w ⟨oN, cN, rfl, hH2⟩; clear hH; have hH := (hH2 _ (by (repeat constructor))).tail; clear hH2; refine ⟨STT, ?_⟩; intro a hA))) )
    clear hH; have hH := hX; clear hX
    refine st_join (fun a w => ∃ ar : Int, ((p.k = 8 → ar = 1) ∧ (p.k ≠ 8 → ar = 0)) ∧ HS w0 noM [cb bP 38 [.int .i64 p.k, .int .i64 p.v, .int .i64 p.n, .string p.s, .slice p.ol p.ls.length p.cl, .slice p.oa p.ps.length p.ca]] w ∧ Sl 150 [(1, .pointer (some (bat bP 0))), (3, .int .i64 ar)] a) ?_ ?_
    · repeat' (first | (first | (refine GT ?_ ?_ <;> intro hg <;> clear hA a <;> intro a hA <;> (first | exact FA | replace hg := of_decide_eq_true hg | replace hg := of_decide_eq_false hg | skip)) | (refine QT ?_; clear hA a; intro a hA) | (first | (refine BT ?_; clear hA hH; rintro _ w ⟨bN, rfl, hH⟩ a hA) | (refine LT ?_; clear hA hH; rintro _ w ⟨oN, rfl, hH⟩ a hA) | (refine AT ?_; clear hA; rintro _ w ⟨oN, cN, rfl, hH2⟩ a hA; clear hH; have hH := (hH2 _ (by (repeat constructor))).tail; clear hH2) | (refine S0T ?_; clear hH; rintro _ w hH) )) | ((first | refine CT ?_ | (refine DT ?_ ?_ <;> intro hc <;> try (exfalso; omega))) <;> repeat' refine CT ?_) | (first | (refine DSK ?_; clear hA a; intro a hA) | (first | (refine DLT ?_; clear hA hH; rintro _ w ⟨oN, rfl, hH⟩; refine ⟨STT, ?_⟩; intro a hA) | (refine DAT ?_; clear hA; rintro _ w ⟨oN, cN, rfl, hH2⟩; clear hH; have hH := (hH2 _ (by (repeat constructor))).tail; clear hH2; refine ⟨STT, ?_⟩; intro a hA))) )
      all_goals (first | exact ⟨1, by omega, hH, (hA.sub (by (repeat (first | exact trivial | refine ⟨rfl, ?_⟩))))⟩ | exact ⟨0, by omega, hH, (hA.sub (by (repeat (first | exact trivial | refine ⟨rfl, ?_⟩))))⟩)
    clear hA hH
    rintro a w ⟨ar, e4, hH, hA⟩
    have hX := hH; replace hH := hH.drop_
    repeat' (first | (first | (refine GT ?_ ?_ <;> intro hg <;> clear hA a <;> intro a hA <;> (first | exact FA | replace hg := of_decide_eq_true hg | replace hg := of_decide_eq_false hg | skip)) | (refine QT ?_; clear hA a; intro a hA) | (first | (refine BT ?_; clear hA hH; rintro _ w ⟨bN, rfl, hH⟩ a hA) | (refine LT ?_; clear hA hH; rintro _ w ⟨oN, rfl, hH⟩ a hA) | (refine AT ?_; clear hA; rintro _ w ⟨oN, cN, rfl, hH2⟩ a hA; clear hH; have hH := (hH2 _ (by (repeat constructor))).tail; clear hH2) | (refine S0T ?_; clear hH; rintro _ w hH) )) | ((first | refine CT ?_ | (refine DT ?_ ?_ <;> intro hc <;> try (exfalso; omega))) <;> repeat' refine CT ?_) | (first | (refine DSK ?_; clear hA a; intro a hA) | (first | (refine DLT ?_; clear hA hH; rintro _ w ⟨oN, rfl, hH⟩; refine ⟨STT, ?_⟩; intro a hA) | (refine DAT ?_; clear hA; rintro _ w ⟨oN, cN, rfl, hH2⟩; clear hH; have hH := (hH2 _ (by (repeat constructor))).tail; clear hH2; refine ⟨STT, ?_⟩; intro a hA))) )
    clear hH; have hH := hX; clear hX
    refine st_join (fun a w => ∃ ar : Int, ((p.k = 8 → ar = 1) ∧ (p.k = 9 → ar = p.ls.length) ∧ (p.k ≠ 8 ∧ p.k ≠ 9 → ar = 0) ∧ (p.k ≠ 9 → p.ls.length = 0)) ∧ HS w0 noM [cb bP 38 [.int .i64 p.k, .int .i64 p.v, .int .i64 p.n, .string p.s, .slice p.ol p.ls.length p.cl, .slice p.oa p.ps.length p.ca]] w ∧ Sl 150 [(1, .pointer (some (bat bP 0))), (3, .int .i64 ar)] a) ?_ ?_
    · repeat' (first | (first | (refine GT ?_ ?_ <;> intro hg <;> clear hA a <;> intro a hA <;> (first | exact FA | replace hg := of_decide_eq_true hg | replace hg := of_decide_eq_false hg | skip)) | (refine QT ?_; clear hA a; intro a hA) | (first | (refine BT ?_; clear hA hH; rintro _ w ⟨bN, rfl, hH⟩ a hA) | (refine LT ?_; clear hA hH; rintro _ w ⟨oN, rfl, hH⟩ a hA) | (refine AT ?_; clear hA; rintro _ w ⟨oN, cN, rfl, hH2⟩ a hA; clear hH; have hH := (hH2 _ (by (repeat constructor))).tail; clear hH2) | (refine S0T ?_; clear hH; rintro _ w hH) )) | ((first | refine CT ?_ | (refine DT ?_ ?_ <;> intro hc <;> try (exfalso; omega))) <;> repeat' refine CT ?_) | (first | (refine DSK ?_; clear hA a; intro a hA) | (first | (refine DLT ?_; clear hA hH; rintro _ w ⟨oN, rfl, hH⟩; refine ⟨STT, ?_⟩; intro a hA) | (refine DAT ?_; clear hA; rintro _ w ⟨oN, cN, rfl, hH2⟩; clear hH; have hH := (hH2 _ (by (repeat constructor))).tail; clear hH2; refine ⟨STT, ?_⟩; intro a hA))) )
      all_goals (first | exact rt1 (.inl rfl) rfl hA rfl ⟨by rw [hno (by omega)], hH.kp⟩ | exact ⟨p.ls.length, by omega, hH, (hA.sub (by (repeat (first | exact trivial | refine ⟨rfl, ?_⟩))))⟩ | exact ⟨ar, by omega, hH, (hA.sub (by (repeat (first | exact trivial | refine ⟨rfl, ?_⟩))))⟩)
    clear hA hH e4
    rintro a w ⟨ar, e4, hH, hA⟩
    repeat' (first | (first | (refine GT ?_ ?_ <;> intro hg <;> clear hA a <;> intro a hA <;> (first | exact FA | replace hg := of_decide_eq_true hg | replace hg := of_decide_eq_false hg | skip)) | (refine QT ?_; clear hA a; intro a hA) | (first | (refine BT ?_; clear hA hH; rintro _ w ⟨bN, rfl, hH⟩ a hA) | (refine LT ?_; clear hA hH; rintro _ w ⟨oN, rfl, hH⟩ a hA) | (refine AT ?_; clear hA; rintro _ w ⟨oN, cN, rfl, hH2⟩ a hA; clear hH; have hH := (hH2 _ (by (repeat constructor))).tail; clear hH2) | (refine S0T ?_; clear hH; rintro _ w hH) )) | ((first | refine CT ?_ | (refine DT ?_ ?_ <;> intro hc <;> try (exfalso; omega))) <;> repeat' refine CT ?_) | (first | (refine DSK ?_; clear hA a; intro a hA) | (first | (refine DLT ?_; clear hA hH; rintro _ w ⟨oN, rfl, hH⟩; refine ⟨STT, ?_⟩; intro a hA) | (refine DAT ?_; clear hA; rintro _ w ⟨oN, cN, rfl, hH2⟩; clear hH; have hH := (hH2 _ (by (repeat constructor))).tail; clear hH2; refine ⟨STT, ?_⟩; intro a hA))) )
    · exact rt1 (.inl rfl) rfl hA rfl ⟨by rw [hno (by omega)], hH.kp⟩
    have hshape : Shape p.k p.v p.n p.s.size p.ls.length p.ps.length := shape_mk (by omega)
    clear hno
    refine wp_lpj (S := Nat) (fun i a w => (i ≤ p.ls.length ∧ labsP [] (p.ls.take i) = true) ∧ HS w0 noM [cb bP 38 [.int .i64 p.k, .int .i64 p.v, .int .i64 p.n, .string p.s, .slice p.ol p.ls.length p.cl, .slice p.oa p.ps.length p.ca]] w ∧ Sl 150 [(1, .pointer (some (bat bP 0))), (4, .int .i64 i)] a) (fun i => p.ls.length - i)
      (fun a w => labsP [] p.ls = true ∧ HS w0 noM [cb bP 38 [.int .i64 p.k, .int .i64 p.v, .int .i64 p.n, .string p.s, .slice p.ol p.ls.length p.cl, .slice p.oa p.ps.length p.ca]] w ∧ Sl 150 [(1, .pointer (some (bat bP 0)))] a) 0 ⟨⟨Nat.zero_le _, labs_0 p.ls⟩, hH, (hA.sub (by (repeat (first | exact trivial | refine ⟨rfl, ?_⟩))))⟩ ?_ ?_
    · clear hA hH
      rintro i a w ⟨⟨hi, hn⟩, hH, hA⟩
      by_cases hlt : i < p.ls.length
      rotate_left
      · obtain rfl : i = p.ls.length := by omega
        rw [List.take_length] at hn
        repeat' (first | (first | (refine GT ?_ ?_ <;> intro hg <;> clear hA a <;> intro a hA <;> (first | exact FA | replace hg := of_decide_eq_true hg | replace hg := of_decide_eq_false hg | skip)) | (refine QT ?_; clear hA a; intro a hA) | (first | (refine BT ?_; clear hA hH; rintro _ w ⟨bN, rfl, hH⟩ a hA) | (refine LT ?_; clear hA hH; rintro _ w ⟨oN, rfl, hH⟩ a hA) | (refine AT ?_; clear hA; rintro _ w ⟨oN, cN, rfl, hH2⟩ a hA; clear hH; have hH := (hH2 _ (by (repeat constructor))).tail; clear hH2) | (refine S0T ?_; clear hH; rintro _ w hH) )) | ((first | refine CT ?_ | (refine DT ?_ ?_ <;> intro hc <;> try (exfalso; omega))) <;> repeat' refine CT ?_) | (first | (refine DSK ?_; clear hA a; intro a hA) | (first | (refine DLT ?_; clear hA hH; rintro _ w ⟨oN, rfl, hH⟩; refine ⟨STT, ?_⟩; intro a hA) | (refine DAT ?_; clear hA; rintro _ w ⟨oN, cN, rfl, hH2⟩; clear hH; have hH := (hH2 _ (by (repeat constructor))).tail; clear hH2; refine ⟨STT, ?_⟩; intro a hA))) )
        exact ⟨hn, hH, (hA.sub (by (repeat (first | exact trivial | refine ⟨rfl, ?_⟩))))⟩
      obtain ⟨x, hx⟩ : ∃ x, p.ls[i]? = some x := ⟨_, List.getElem?_eq_getElem hlt⟩
      have hcx := encX_at hx
      repeat' (first | (first | (refine GT ?_ ?_ <;> intro hg <;> clear hA a <;> intro a hA <;> (first | exact FA | replace hg := of_decide_eq_true hg | replace hg := of_decide_eq_false hg | skip)) | ((first | apply st_ex hA hH rfl rfl (by decide) | apply dr_ex hA rfl rfl rfl (by decide) | apply dr_exp hA rfl rfl rfl (by decide) | apply dr_ex3 hA hH rfl rfl rfl (by decide)); (first | (apply ex_eql0; rfl; rfl) | (apply ex_neq0; rfl; rfl) | (apply ex_len_sz; rfl) | (apply ex_neqBf; rfl; rfl) | (apply ex_neqBD; rfl; rfl)); clear hA a; intro a hA) | (refine QT ?_; clear hA a; intro a hA) | (first | (refine BT ?_; clear hA hH; rintro _ w ⟨bN, rfl, hH⟩ a hA) | (refine LT ?_; clear hA hH; rintro _ w ⟨oN, rfl, hH⟩ a hA) | (refine AT ?_; clear hA; rintro _ w ⟨oN, cN, rfl, hH2⟩ a hA; clear hH; have hH := (hH2 _ (by (repeat constructor))).tail; clear hH2) | (refine S0T ?_; clear hH; rintro _ w hH) )) | ((first | refine CT ?_ | (refine DT ?_ ?_ <;> intro hc <;> try (exfalso; omega))) <;> repeat' refine CT ?_) | (first | (refine DSK ?_; clear hA a; intro a hA) | (first | (refine DLT ?_; clear hA hH; rintro _ w ⟨oN, rfl, hH⟩; refine ⟨STT, ?_⟩; intro a hA) | (refine DAT ?_; clear hA; rintro _ w ⟨oN, cN, rfl, hH2⟩; clear hH; have hH := (hH2 _ (by (repeat constructor))).tail; clear hH2; refine ⟨STT, ?_⟩; intro a hA))) )
      · exact rt1 (.inl rfl) rfl hA rfl ⟨by rw [labs_no hx (.inl (by omega))], hH.kp⟩
      rename_i h0
      refine wp_lpk (S := Nat) (fun j a w => (j ≤ i ∧ hasX (p.ls.take j) x = false) ∧ HS w0 noM [cb bP 38 [.int .i64 p.k, .int .i64 p.v, .int .i64 p.n, .string p.s, .slice p.ol p.ls.length p.cl, .slice p.oa p.ps.length p.ca]] w ∧ Sl 150 [(1, .pointer (some (bat bP 0))), (4, .int .i64 i), (5, .int .i64 j)] a) (fun j => i - j)
        (fun a w => hasX (p.ls.take i) x = false ∧ HS w0 noM [cb bP 38 [.int .i64 p.k, .int .i64 p.v, .int .i64 p.n, .string p.s, .slice p.ol p.ls.length p.cl, .slice p.oa p.ps.length p.ca]] w ∧ Sl 150 [(1, .pointer (some (bat bP 0))), (4, .int .i64 i)] a) 0 ⟨⟨Nat.zero_le _, by unfold hasX; rfl⟩, hH, (hA.sub (by (repeat (first | exact trivial | refine ⟨rfl, ?_⟩))))⟩ ?_ ?_
      · clear hA hH
        rintro j a w ⟨⟨hj, hm⟩, hH, hA⟩
        by_cases hlj : j < i
        rotate_left
        · obtain rfl : j = i := by omega
          repeat' (first | (first | (refine GT ?_ ?_ <;> intro hg <;> clear hA a <;> intro a hA <;> (first | exact FA | replace hg := of_decide_eq_true hg | replace hg := of_decide_eq_false hg | skip)) | (refine QT ?_; clear hA a; intro a hA) | (first | (refine BT ?_; clear hA hH; rintro _ w ⟨bN, rfl, hH⟩ a hA) | (refine LT ?_; clear hA hH; rintro _ w ⟨oN, rfl, hH⟩ a hA) | (refine AT ?_; clear hA; rintro _ w ⟨oN, cN, rfl, hH2⟩ a hA; clear hH; have hH := (hH2 _ (by (repeat constructor))).tail; clear hH2) | (refine S0T ?_; clear hH; rintro _ w hH) )) | ((first | refine CT ?_ | (refine DT ?_ ?_ <;> intro hc <;> try (exfalso; omega))) <;> repeat' refine CT ?_) | (first | (refine DSK ?_; clear hA a; intro a hA) | (first | (refine DLT ?_; clear hA hH; rintro _ w ⟨oN, rfl, hH⟩; refine ⟨STT, ?_⟩; intro a hA) | (refine DAT ?_; clear hA; rintro _ w ⟨oN, cN, rfl, hH2⟩; clear hH; have hH := (hH2 _ (by (repeat constructor))).tail; clear hH2; refine ⟨STT, ?_⟩; intro a hA))) )
          exact ⟨hm, hH, (hA.sub (by (repeat (first | exact trivial | refine ⟨rfl, ?_⟩))))⟩
        obtain ⟨y, hy⟩ : ∃ y, p.ls[j]? = some y := ⟨_, List.getElem?_eq_getElem (by omega)⟩
        have hcy := encX_at hy
        repeat' (first | (first | (refine GT ?_ ?_ <;> intro hg <;> clear hA a <;> intro a hA <;> (first | exact FA | replace hg := of_decide_eq_true hg | replace hg := of_decide_eq_false hg | skip)) | (refine QT ?_; clear hA a; intro a hA) | (first | (refine BT ?_; clear hA hH; rintro _ w ⟨bN, rfl, hH⟩ a hA) | (refine LT ?_; clear hA hH; rintro _ w ⟨oN, rfl, hH⟩ a hA) | (refine AT ?_; clear hA; rintro _ w ⟨oN, cN, rfl, hH2⟩ a hA; clear hH; have hH := (hH2 _ (by (repeat constructor))).tail; clear hH2) | (refine S0T ?_; clear hH; rintro _ w hH) )) | ((first | refine CT ?_ | (refine DT ?_ ?_ <;> intro hc <;> try (exfalso; omega))) <;> repeat' refine CT ?_) | (first | (refine DSK ?_; clear hA a; intro a hA) | (first | (refine DLT ?_; clear hA hH; rintro _ w ⟨oN, rfl, hH⟩; refine ⟨STT, ?_⟩; intro a hA) | (refine DAT ?_; clear hA; rintro _ w ⟨oN, cN, rfl, hH2⟩; clear hH; have hH := (hH2 _ (by (repeat constructor))).tail; clear hH2; refine ⟨STT, ?_⟩; intro a hA))) )
        (refine wp_draw_HS [(0, 1), (1, 1), (2, 1), (3, 1), (4, 1), (5, 1), (6, 1), (7, 1), (8, 1), (9, 1), (10, 1)] mixed (by decide +kernel) hH ?_; replace hH := hH.drew)
        by_cases hxy : x = y
        · subst hxy
          repeat' (first | (first | (refine GT ?_ ?_ <;> intro hg <;> clear hA a <;> intro a hA <;> (first | exact FA | replace hg := of_decide_eq_true hg | replace hg := of_decide_eq_false hg | skip)) | ((first | apply st_ex hA hH rfl rfl (by decide) | apply dr_ex hA rfl rfl rfl (by decide) | apply dr_exp hA rfl rfl rfl (by decide) | apply dr_ex3 hA hH rfl rfl rfl (by decide)); (first | (apply ex_eqlX; rfl; rfl) | (apply ex_neqX; rfl; rfl)); clear hA a; intro a hA) | (refine QT ?_; clear hA a; intro a hA) | (first | (refine BT ?_; clear hA hH; rintro _ w ⟨bN, rfl, hH⟩ a hA) | (refine LT ?_; clear hA hH; rintro _ w ⟨oN, rfl, hH⟩ a hA) | (refine AT ?_; clear hA; rintro _ w ⟨oN, cN, rfl, hH2⟩ a hA; clear hH; have hH := (hH2 _ (by (repeat constructor))).tail; clear hH2) | (refine S0T ?_; clear hH; rintro _ w hH) )) | ((first | refine CT ?_ | (refine DT ?_ ?_ <;> intro hc <;> try (exfalso; omega))) <;> repeat' refine CT ?_) | (first | (refine DSK ?_; clear hA a; intro a hA) | (first | (refine DLT ?_; clear hA hH; rintro _ w ⟨oN, rfl, hH⟩; refine ⟨STT, ?_⟩; intro a hA) | (refine DAT ?_; clear hA; rintro _ w ⟨oN, cN, rfl, hH2⟩; clear hH; have hH := (hH2 _ (by (repeat constructor))).tail; clear hH2; refine ⟨STT, ?_⟩; intro a hA))) )
          all_goals (first | exact rt1 (.inl rfl) rfl hA rfl ⟨by rw [labs_no hx (.inr (hasX_at hy hlj))], hH.kp⟩ | exact absurd rfl (by assumption))
        · repeat' (first | (first | (refine GT ?_ ?_ <;> intro hg <;> clear hA a <;> intro a hA <;> (first | exact FA | replace hg := of_decide_eq_true hg | replace hg := of_decide_eq_false hg | skip)) | ((first | apply st_ex hA hH rfl rfl (by decide) | apply dr_ex hA rfl rfl rfl (by decide) | apply dr_exp hA rfl rfl rfl (by decide) | apply dr_ex3 hA hH rfl rfl rfl (by decide)); (first | (apply ex_eqlX; rfl; rfl) | (apply ex_neqX; rfl; rfl)); clear hA a; intro a hA) | (refine QT ?_; clear hA a; intro a hA) | (first | (refine BT ?_; clear hA hH; rintro _ w ⟨bN, rfl, hH⟩ a hA) | (refine LT ?_; clear hA hH; rintro _ w ⟨oN, rfl, hH⟩ a hA) | (refine AT ?_; clear hA; rintro _ w ⟨oN, cN, rfl, hH2⟩ a hA; clear hH; have hH := (hH2 _ (by (repeat constructor))).tail; clear hH2) | (refine S0T ?_; clear hH; rintro _ w hH) )) | ((first | refine CT ?_ | (refine DT ?_ ?_ <;> intro hc <;> try (exfalso; omega))) <;> repeat' refine CT ?_) | (first | (refine DSK ?_; clear hA a; intro a hA) | (first | (refine DLT ?_; clear hA hH; rintro _ w ⟨oN, rfl, hH⟩; refine ⟨STT, ?_⟩; intro a hA) | (refine DAT ?_; clear hA; rintro _ w ⟨oN, cN, rfl, hH2⟩; clear hH; have hH := (hH2 _ (by (repeat constructor))).tail; clear hH2; refine ⟨STT, ?_⟩; intro a hA))) )
          all_goals (first | exact ⟨j + 1, ⟨⟨hlj, hasX_next hy hm hxy⟩, hH, (hA.sub (by (repeat (first | exact trivial | refine ⟨rfl, ?_⟩))))⟩, by omega⟩ | exact absurd (by assumption) hxy)
      clear hA hH
      rintro a w ⟨hm, hH, hA⟩
      repeat' (first | (first | (refine GT ?_ ?_ <;> intro hg <;> clear hA a <;> intro a hA <;> (first | exact FA | replace hg := of_decide_eq_true hg | replace hg := of_decide_eq_false hg | skip)) | (refine QT ?_; clear hA a; intro a hA) | (first | (refine BT ?_; clear hA hH; rintro _ w ⟨bN, rfl, hH⟩ a hA) | (refine LT ?_; clear hA hH; rintro _ w ⟨oN, rfl, hH⟩ a hA) | (refine AT ?_; clear hA; rintro _ w ⟨oN, cN, rfl, hH2⟩ a hA; clear hH; have hH := (hH2 _ (by (repeat constructor))).tail; clear hH2) | (refine S0T ?_; clear hH; rintro _ w hH) )) | ((first | refine CT ?_ | (refine DT ?_ ?_ <;> intro hc <;> try (exfalso; omega))) <;> repeat' refine CT ?_) | (first | (refine DSK ?_; clear hA a; intro a hA) | (first | (refine DLT ?_; clear hA hH; rintro _ w ⟨oN, rfl, hH⟩; refine ⟨STT, ?_⟩; intro a hA) | (refine DAT ?_; clear hA; rintro _ w ⟨oN, cN, rfl, hH2⟩; clear hH; have hH := (hH2 _ (by (repeat constructor))).tail; clear hH2; refine ⟨STT, ?_⟩; intro a hA))) )
      exact ⟨i + 1, ⟨⟨hlt, labs_next hx hn (by omega) hm⟩, hH, (hA.sub (by (repeat (first | exact trivial | refine ⟨rfl, ?_⟩))))⟩, by omega⟩
    clear hA hH
    rintro a w ⟨hlb, hH, hA⟩
    repeat' (first | (first | (refine GT ?_ ?_ <;> intro hg <;> clear hA a <;> intro a hA <;> (first | exact FA | replace hg := of_decide_eq_true hg | replace hg := of_decide_eq_false hg | skip)) | (refine QT ?_; clear hA a; intro a hA) | (first | (refine BT ?_; clear hA hH; rintro _ w ⟨bN, rfl, hH⟩ a hA) | (refine LT ?_; clear hA hH; rintro _ w ⟨oN, rfl, hH⟩ a hA) | (refine AT ?_; clear hA; rintro _ w ⟨oN, cN, rfl, hH2⟩ a hA; clear hH; have hH := (hH2 _ (by (repeat constructor))).tail; clear hH2) | (refine S0T ?_; clear hH; rintro _ w hH) )) | ((first | refine CT ?_ | (refine DT ?_ ?_ <;> intro hc <;> try (exfalso; omega))) <;> repeat' refine CT ?_) | (first | (refine DSK ?_; clear hA a; intro a hA) | (first | (refine DLT ?_; clear hA hH; rintro _ w ⟨oN, rfl, hH⟩; refine ⟨STT, ?_⟩; intro a hA) | (refine DAT ?_; clear hA; rintro _ w ⟨oN, cN, rfl, hH2⟩; clear hH; have hH := (hH2 _ (by (repeat constructor))).tail; clear hH2; refine ⟨STT, ?_⟩; intro a hA))) )
    refine wp_lpj (S := Nat) (fun i a w => (i ≤ p.ps.length ∧ (p.ps.take i).all formP = true) ∧ HS w0 noM [cb bP 38 [.int .i64 p.k, .int .i64 p.v, .int .i64 p.n, .string p.s, .slice p.ol p.ls.length p.cl, .slice p.oa p.ps.length p.ca]] w ∧ Sl 150 [(1, .pointer (some (bat bP 0))), (6, .int .i64 i)] a) (fun i => p.ps.length - i)
      (fun a w => p.ps.all formP = true ∧ HS w0 noM [cb bP 38 [.int .i64 p.k, .int .i64 p.v, .int .i64 p.n, .string p.s, .slice p.ol p.ls.length p.cl, .slice p.oa p.ps.length p.ca]] w ∧ Sl 150 [] a) 0 ⟨⟨Nat.zero_le _, rfl⟩, hH, (hA.sub (by (repeat (first | exact trivial | refine ⟨rfl, ?_⟩))))⟩ ?_ ?_
    rotate_left
    · clear hA hH
      rintro a w ⟨hn, hH, hA⟩
      repeat' (first | (first | (refine GT ?_ ?_ <;> intro hg <;> clear hA a <;> intro a hA <;> (first | exact FA | replace hg := of_decide_eq_true hg | replace hg := of_decide_eq_false hg | skip)) | (refine QT ?_; clear hA a; intro a hA) | (first | (refine BT ?_; clear hA hH; rintro _ w ⟨bN, rfl, hH⟩ a hA) | (refine LT ?_; clear hA hH; rintro _ w ⟨oN, rfl, hH⟩ a hA) | (refine AT ?_; clear hA; rintro _ w ⟨oN, cN, rfl, hH2⟩ a hA; clear hH; have hH := (hH2 _ (by (repeat constructor))).tail; clear hH2) | (refine S0T ?_; clear hH; rintro _ w hH) )) | ((first | refine CT ?_ | (refine DT ?_ ?_ <;> intro hc <;> try (exfalso; omega))) <;> repeat' refine CT ?_) | (first | (refine DSK ?_; clear hA a; intro a hA) | (first | (refine DLT ?_; clear hA hH; rintro _ w ⟨oN, rfl, hH⟩; refine ⟨STT, ?_⟩; intro a hA) | (refine DAT ?_; clear hA; rintro _ w ⟨oN, cN, rfl, hH2⟩; clear hH; have hH := (hH2 _ (by (repeat constructor))).tail; clear hH2; refine ⟨STT, ?_⟩; intro a hA))) )
      exact rt1 (.inl rfl) rfl hA rfl ⟨by rw [form_end hshape hlb hn], hH.kp⟩
    clear hA hH
    rintro i a w ⟨⟨hi, hn⟩, hH, hA⟩
    by_cases hlt : i < p.ps.length
    rotate_left
    · obtain rfl : i = p.ps.length := by omega
      rw [List.take_length] at hn
      repeat' (first | (first | (refine GT ?_ ?_ <;> intro hg <;> clear hA a <;> intro a hA <;> (first | exact FA | replace hg := of_decide_eq_true hg | replace hg := of_decide_eq_false hg | skip)) | (refine QT ?_; clear hA a; intro a hA) | (first | (refine BT ?_; clear hA hH; rintro _ w ⟨bN, rfl, hH⟩ a hA) | (refine LT ?_; clear hA hH; rintro _ w ⟨oN, rfl, hH⟩ a hA) | (refine AT ?_; clear hA; rintro _ w ⟨oN, cN, rfl, hH2⟩ a hA; clear hH; have hH := (hH2 _ (by (repeat constructor))).tail; clear hH2) | (refine S0T ?_; clear hH; rintro _ w hH) )) | ((first | refine CT ?_ | (refine DT ?_ ?_ <;> intro hc <;> try (exfalso; omega))) <;> repeat' refine CT ?_) | (first | (refine DSK ?_; clear hA a; intro a hA) | (first | (refine DLT ?_; clear hA hH; rintro _ w ⟨oN, rfl, hH⟩; refine ⟨STT, ?_⟩; intro a hA) | (refine DAT ?_; clear hA; rintro _ w ⟨oN, cN, rfl, hH2⟩; clear hH; have hH := (hH2 _ (by (repeat constructor))).tail; clear hH2; refine ⟨STT, ?_⟩; intro a hA))) )
      exact ⟨hn, hH, (hA.sub (by (repeat (first | exact trivial | refine ⟨rfl, ?_⟩))))⟩
    obtain ⟨x, hx⟩ : ∃ x, p.ps[i]? = some x := ⟨_, List.getElem?_eq_getElem hlt⟩
    have hxm := List.mem_of_getElem? hx
    have hvs := flat_all encA_len hx
    rw [encA_eq] at hvs
    repeat' (first | (first | (refine GT ?_ ?_ <;> intro hg <;> clear hA a <;> intro a hA <;> (first | exact FA | replace hg := of_decide_eq_true hg | replace hg := of_decide_eq_false hg | skip)) | ((first | apply st_ex hA hH rfl rfl (by decide) | apply dr_ex hA rfl rfl rfl (by decide) | apply dr_exp hA rfl rfl rfl (by decide) | apply dr_ex3 hA hH rfl rfl rfl (by decide)); (first | (apply ex_load_st (vs := [.int .i64 x.k, .int .i64 x.v, .int .i64 x.n, .string x.s, .slice x.ol x.ls.length x.cl, .slice x.oa x.ps.length x.ca]); rfl; rfl; exact cls_rd hra id hvs)); clear hA a; intro a hA) | (refine QT ?_; clear hA a; intro a hA) | (first | (refine BT ?_; clear hA hH; rintro _ w ⟨bN, rfl, hH⟩ a hA) | (refine LT ?_; clear hA hH; rintro _ w ⟨oN, rfl, hH⟩ a hA) | (refine AT ?_; clear hA; rintro _ w ⟨oN, cN, rfl, hH2⟩ a hA; clear hH; have hH := (hH2 _ (by (repeat constructor))).tail; clear hH2) | (refine S0T ?_; clear hH; rintro _ w hH) )) | ((first | refine CT ?_ | (refine DT ?_ ?_ <;> intro hc <;> try (exfalso; omega))) <;> repeat' refine CT ?_) | (first | (refine DSK ?_; clear hA a; intro a hA) | (first | (refine DLT ?_; clear hA hH; rintro _ w ⟨oN, rfl, hH⟩; refine ⟨STT, ?_⟩; intro a hA) | (refine DAT ?_; clear hA; rintro _ w ⟨oN, cN, rfl, hH2⟩; clear hH; have hH := (hH2 _ (by (repeat constructor))).tail; clear hH2; refine ⟨STT, ?_⟩; intro a hA))) )
    (refine st_op hA rfl rfl (by decide) (op_call rfl rfl rfl (rform_spec z x (by have := as_lt hxm; omega) _ ((hR.s x hxm).keep hH.kp))) ?_; clear hA; rintro _ w ⟨rfl, hk⟩ a hA; replace hH := hH.keep hk; clear hk)
    cases hfx : formP x with
    | true =>
      rw [hfx] at hA
      repeat' (first | (first | (refine GT ?_ ?_ <;> intro hg <;> clear hA a <;> intro a hA <;> (first | exact FA | replace hg := of_decide_eq_true hg | replace hg := of_decide_eq_false hg | skip)) | (refine QT ?_; clear hA a; intro a hA) | (first | (refine BT ?_; clear hA hH; rintro _ w ⟨bN, rfl, hH⟩ a hA) | (refine LT ?_; clear hA hH; rintro _ w ⟨oN, rfl, hH⟩ a hA) | (refine AT ?_; clear hA; rintro _ w ⟨oN, cN, rfl, hH2⟩ a hA; clear hH; have hH := (hH2 _ (by (repeat constructor))).tail; clear hH2) | (refine S0T ?_; clear hH; rintro _ w hH) )) | ((first | refine CT ?_ | (refine DT ?_ ?_ <;> intro hc <;> try (exfalso; omega))) <;> repeat' refine CT ?_) | (first | (refine DSK ?_; clear hA a; intro a hA) | (first | (refine DLT ?_; clear hA hH; rintro _ w ⟨oN, rfl, hH⟩; refine ⟨STT, ?_⟩; intro a hA) | (refine DAT ?_; clear hA; rintro _ w ⟨oN, cN, rfl, hH2⟩; clear hH; have hH := (hH2 _ (by (repeat constructor))).tail; clear hH2; refine ⟨STT, ?_⟩; intro a hA))) )
      exact ⟨i + 1, ⟨⟨hlt, by rw [take_next hx, List.all_append, hn]; simp [hfx]⟩, hH, (hA.sub (by (repeat (first | exact trivial | refine ⟨rfl, ?_⟩))))⟩, by omega⟩
    | false =>
      rw [hfx] at hA
      repeat' (first | (first | (refine GT ?_ ?_ <;> intro hg <;> clear hA a <;> intro a hA <;> (first | exact FA | replace hg := of_decide_eq_true hg | replace hg := of_decide_eq_false hg | skip)) | (refine QT ?_; clear hA a; intro a hA) | (first | (refine BT ?_; clear hA hH; rintro _ w ⟨bN, rfl, hH⟩ a hA) | (refine LT ?_; clear hA hH; rintro _ w ⟨oN, rfl, hH⟩ a hA) | (refine AT ?_; clear hA; rintro _ w ⟨oN, cN, rfl, hH2⟩ a hA; clear hH; have hH := (hH2 _ (by (repeat constructor))).tail; clear hH2) | (refine S0T ?_; clear hH; rintro _ w hH) )) | ((first | refine CT ?_ | (refine DT ?_ ?_ <;> intro hc <;> try (exfalso; omega))) <;> repeat' refine CT ?_) | (first | (refine DSK ?_; clear hA a; intro a hA) | (first | (refine DLT ?_; clear hA hH; rintro _ w ⟨oN, rfl, hH⟩; refine ⟨STT, ?_⟩; intro a hA) | (refine DAT ?_; clear hA; rintro _ w ⟨oN, cN, rfl, hH2⟩; clear hH; have hH := (hH2 _ (by (repeat constructor))).tail; clear hH2; refine ⟨STT, ?_⟩; intro a hA))) )
      exact rt1 (.inl rfl) rfl hA rfl ⟨by rw [formL_bad hx hfx], hH.kp⟩
end Go.Proofs.Ytcododdkjppmjaa
namespace Go.Fw
open Go Go.RowKit
set_option linter.unusedVariables false
/-- blocks of which, with what there was ahead, so much is known -/
def frz (w0 : World) (K : World → Prop) : It where
  sat w F := (∀ b, F b → b < w.heap.size) ∧ ∀ w' : World, Kp w0 noM w' → (∀ b, F b → w'.heap[b]? = w.heap[b]?) → K w'
  loc := fun {w w' F} ⟨h1, h2⟩ he => ⟨fun b hb => by
    have h3 := he b hb
    rw [Array.getElem?_eq_getElem (h1 b hb)] at h3
    exact lt_of_heap h3, fun w2 hk h3 => h2 w2 hk fun b hb => (h3 b hb).trans (he b hb)⟩
  lt := fun ⟨h1, _⟩ b hb => h1 b hb
  ext := fun ⟨h1, h2⟩ he => ⟨fun b hb => h1 b ((he b).2 hb), fun w' hk h3 => h2 w' hk fun b hb => h3 b ((he b).1 hb)⟩
section
variable {w0 w w' : World} {H L : List It} {K K1 K2 : World → Prop}
theorem HS.frz (h : HS w0 noM H w) (hm : Go.Fw.frz w0 K ∈ H) : K w :=
  let ⟨_, h1, h2⟩ := h.sat hm
  h2 w h.kp fun _ _ => rfl
theorem HS.frz_mono (h : HS w0 noM (Go.Fw.frz w0 K1 :: H) w) (hK : ∀ w, K1 w → K2 w) : HS w0 noM (Go.Fw.frz w0 K2 :: H) w :=
  h.conv .here fun F ⟨h1, h2⟩ => ⟨h1, fun w' hk h3 => hK _ (h2 w' hk h3)⟩
theorem HS.frz_nil (h : HS w0 noM H w) (hK : ∀ w, Kp w0 noM w → K w) : HS w0 noM (Go.Fw.frz w0 K :: H) w := by
  obtain ⟨hk, F, hF, ho⟩ := h
  exact ⟨hk, F, ⟨fun _ => False, F, fun b => by simp, fun b hb => hb.elim, ⟨fun b hb => hb.elim, fun w' hk _ => hK w' hk⟩, hF⟩, ho⟩
theorem HS.frz_all (h : HS w0 noM (all (L ++ [Go.Fw.frz w0 K]) :: H) w) (hK : ∀ w F, Hp w L F → K1 w) : HS w0 noM (Go.Fw.frz w0 (fun w => K1 w ∧ K w) :: H) w :=
  h.conv .here fun F h1 => ⟨fun b hb => Hp.lt h1 b hb, fun w' hk h3 => by
    obtain ⟨F1, F2, hF, hd, h4, h5⟩ := Hp.append (Hp.loc h1 h3)
    obtain ⟨F3, F4, hG, hd', h6, h7⟩ := h5
    exact ⟨hK w' F1 h4, h6.2 w' hk fun _ _ => rfl⟩⟩
theorem HS.frz_it {it : It} (h : HS w0 noM (it :: Go.Fw.frz w0 K :: H) w) (hK : ∀ w F, it.sat w F → K1 w) : HS w0 noM (Go.Fw.frz w0 (fun w => K1 w ∧ K w) :: H) w := by
  have h1 : HS w0 noM (all ([it] ++ [Go.Fw.frz w0 K]) :: H) w := HS.shut (L := [it] ++ [Go.Fw.frz w0 K]) h
  exact h1.frz_all fun w F ⟨F1, F2, hF, hd, h2, h3⟩ => hK w F1 h2
theorem HS.frz_own {T sz : Nat} {o : Option Addr} {n c : Nat} {xs : List Value} (h : HS w0 noM (own T sz o n c xs :: Go.Fw.frz w0 K :: H) w) : HS w0 noM (Go.Fw.frz w0 (fun w => Rd w o xs ∧ K w) :: H) w :=
  h.frz_it fun w F h1 => Fw.own_rd h1
theorem HS.dropH (h : HS w0 noM (L ++ H) w) : HS w0 noM L w := by
  obtain ⟨hk, F, hF, ho⟩ := h
  obtain ⟨F1, F2, hG, hd, h1, h2⟩ := hF.append
  exact ⟨hk, F1, h1, fun b hb => ho b ((hG b).2 (.inl hb))⟩
theorem cls_frz {j : Nat} {o : Option Addr} {xs vs : List Value} (hm : frz w0 K ∈ H) (hr : ∀ w, K w → Rd w o xs) (hv : ∀ i v, vs[i]? = some v → xs[j + i]? = some v) : Cls (HS w0 noM H) (sat o j) vs := by
  intro w hH i v hi
  rw [sat_add]
  exact (hr w (hH.frz hm)).2 (j + i) v (hv i v hi)
theorem cl_frz {j : Nat} {o : Option Addr} {xs : List Value} {v : Value} (hm : frz w0 K ∈ H) (hr : ∀ w, K w → Rd w o xs) (hv : xs[j]? = some v) : Cl (HS w0 noM H) (sat o j) v :=
  fun w hH => (hr w (hH.frz hm)).2 j v hv
end
end Go.Fw
namespace Go.Proofs.Ytcododdkjppmjaa
open Go Go.Fw
set_option linter.unusedVariables false
abbrev Pth := List ByteArray
/-- a condition, a binding, a row as they lie in memory -/
structure MC where
  o : Option Addr
  c : Nat
  q : Pth
  p : AP
structure MB where
  v : Int
  o : Option Addr
  c : Nat
  q : Pth
structure ML where
  n : Int
  oc : Option Addr
  cc : Nat
  cs : List MC
  ob : Option Addr
  cb : Nat
  bs : List MB
def encC (m : MC) : List Value := .slice m.o m.q.length m.c :: encA m.p
def encB (m : MB) : List Value := [.int .i64 m.v, .slice m.o m.q.length m.c]
def encL (m : ML) : List Value := [.int .i64 m.n, .slice m.oc m.cs.length m.cc, .slice m.ob m.bs.length m.cb]
theorem encC_len (m : MC) : (encC m).length = 7 := by unfold encC; rw [List.length_cons, encA_len]
theorem encB_len (m : MB) : (encB m).length = 2 := rfl
theorem encL_len (m : ML) : (encL m).length = 3 := rfl
theorem encC_eq (m : MC) : encC m = [.slice m.o m.q.length m.c, .int .i64 m.p.k, .int .i64 m.p.v, .int .i64 m.p.n, .string m.p.s, .slice m.p.ol m.p.ls.length m.p.cl, .slice m.p.oa m.p.ps.length m.p.ca] := by unfold encC; rw [encA_eq]
abbrev Cnd := Pth × AP
abbrev Bnd := Int × Pth
def MC.un (m : MC) : Cnd := (m.q, m.p)
def MB.un (m : MB) : Bnd := (m.v, m.q)
structure Ln where
  n : Int
  cs : List Cnd
  bs : List Bnd
def ML.un (m : ML) : Ln := ⟨m.n, m.cs.map MC.un, m.bs.map MB.un⟩
def RdQ (w : World) (o : Option Addr) (c : Nat) (q : Pth) : Prop := Rd w o (flat encX q) ∧ q.length ≤ c ∧ c ≤ maxLen
def RdC (w : World) (m : MC) : Prop := RdQ w m.o m.c m.q ∧ RdA w m.p
def RdB (w : World) (m : MB) : Prop := RdQ w m.o m.c m.q
def RdCs (w : World) (o : Option Addr) (c : Nat) (l : List MC) : Prop := Rd w o (flat encC l) ∧ l.length ≤ c ∧ c ≤ maxLen ∧ ∀ m ∈ l, RdC w m
def RdBs (w : World) (o : Option Addr) (c : Nat) (l : List MB) : Prop := Rd w o (flat encB l) ∧ l.length ≤ c ∧ c ≤ maxLen ∧ ∀ m ∈ l, RdB w m
def RdL (w : World) (m : ML) : Prop := RdCs w m.oc m.cc m.cs ∧ RdBs w m.ob m.cb m.bs
mutual
/-- a condition made plain: conditions, bindings -/
def plP (q : Pth) : AP → List Cnd × List Bnd
  | .mk k v n s ol cl ls oa ca ps => if k = 1 ∨ k = 6 then ([], []) else if k = 2 then ([], [(v, q)]) else if k = 9 then plL q ls ps else ([(q, .mk k v n s ol cl ls oa ca ps)], [])
def plL (q : Pth) : List ByteArray → List AP → List Cnd × List Bnd
  | x :: ls, a :: ps => ((plP (q ++ [x]) a).1 ++ (plL q ls ps).1, (plP (q ++ [x]) a).2 ++ (plL q ls ps).2)
  | [], _ => ([], [])
  | _ :: _, [] => ([], [])
end
def plC (l : List Cnd) : List Cnd × List Bnd := (l.flatMap fun c => (plP c.1 c.2).1, l.flatMap fun c => (plP c.1 c.2).2)
def plain (n : Int) (bs : List Bnd) (cs : List Cnd) : Ln := ⟨n, (plC cs).1, bs ++ (plC cs).2⟩
mutual
/-- how many parts -/
def szA : AP → Nat
  | .mk _ _ _ _ _ _ _ _ _ ps => szL ps + 1
def szL : List AP → Nat
  | [] => 0
  | a :: ps => szA a + szL ps
end
theorem szA_eq (p : AP) : szA p = szL p.ps + 1 := by cases p; rfl
theorem szA_pos (p : AP) : 1 ≤ szA p := by rw [szA_eq]; omega
theorem szL_mem {a : AP} : ∀ {ps : List AP}, a ∈ ps → szA a ≤ szL ps
  | b :: ps, h => by
    rw [szL]
    rcases List.mem_cons.1 h with rfl | h
    · omega
    · have := szL_mem h; omega
mutual
theorem sz_parts : ∀ (p : AP) (most : Int), partsP p most ≤ most → partsP p most = szA p
  | .mk k v n s ol cl ls oa ca ps, most, h => by
    rw [partsP] at h ⊢
    rw [sz_partsL ps most 1 h, szA]; omega
theorem sz_partsL : ∀ (ps : List AP) (most n : Int), partsL ps most n ≤ most → partsL ps most n = n + szL ps
  | [], most, n, _ => by rw [partsL, szL]; omega
  | a :: ps, most, n, h => by
    rw [partsL] at h ⊢
    by_cases hn : n ≤ most
    · rw [if_pos hn] at h ⊢
      have h1 := partsL_pos ps most (n + partsP a (most - n))
      rw [sz_partsL ps most _ h, sz_parts a (most - n) (by omega), szL]
      omega
    · rw [if_neg hn, partsL_le ps most n (by omega)] at h
      omega
end
def szC (l : List Cnd) : Nat := (l.map fun c => szA c.2).sum
theorem szC_append (a b : List Cnd) : szC (a ++ b) = szC a + szC b := by unfold szC; rw [List.map_append, List.sum_append]
theorem szC_len (l : List Cnd) : l.length ≤ szC l := by
  induction l with
  | nil => exact Nat.zero_le _
  | cons c l ih => unfold szC at *; rw [List.length_cons, List.map_cons, List.sum_cons]; have := szA_pos c.2; omega
mutual
/-- what is made plain is no more -/
theorem pl_sz : ∀ (q : Pth) (p : AP), szC (plP q p).1 + (plP q p).2.length ≤ szA p
  | q, .mk k v n s ol cl ls oa ca ps => by
    rw [plP]
    split
    · exact Nat.zero_le _
    · split
      · rw [szA]; show 0 + 1 ≤ _; omega
      · split
        · have := plL_sz q ls ps
          rw [szA]; omega
        · exact Nat.le_of_eq (show szA (AP.mk k v n s ol cl ls oa ca ps) + 0 + 0 = _ from rfl)
theorem plL_sz : ∀ (q : Pth) (ls : List ByteArray) (ps : List AP), szC (plL q ls ps).1 + (plL q ls ps).2.length ≤ szL ps
  | q, x :: ls, a :: ps => by
    rw [plL, szC_append, List.length_append, szL]
    have := pl_sz (q ++ [x]) a
    have := plL_sz q ls ps
    omega
  | q, [], _ => by rw [plL]; exact Nat.zero_le _
  | q, _ :: _, [] => by rw [plL]; exact Nat.zero_le _
end
mutual
/-- paths are short: what is below them counts with them -/
theorem pl_path : ∀ (q : Pth) (p : AP), (∀ c ∈ (plP q p).1, c.1.length + szA c.2 ≤ q.length + szA p) ∧ ∀ b ∈ (plP q p).2, b.2.length + 1 ≤ q.length + szA p
  | q, .mk k v n s ol cl ls oa ca ps => by
    rw [plP]
    split
    · exact ⟨fun c h => absurd h (List.not_mem_nil), fun b h => absurd h (List.not_mem_nil)⟩
    · split
      · refine ⟨fun c h => absurd h (List.not_mem_nil), fun b h => ?_⟩
        rw [List.mem_singleton] at h
        subst h
        rw [szA]; show q.length + 1 ≤ _; omega
      · split
        · have := plL_path q ls ps
          rw [szA]
          exact ⟨fun c h => by have := this.1 c h; omega, fun b h => by have := this.2 b h; omega⟩
        · refine ⟨fun c h => ?_, fun b h => absurd h (List.not_mem_nil)⟩
          rw [List.mem_singleton] at h
          subst h
          exact Nat.le_refl _
theorem plL_path : ∀ (q : Pth) (ls : List ByteArray) (ps : List AP), (∀ c ∈ (plL q ls ps).1, c.1.length + szA c.2 ≤ q.length + szL ps + 1) ∧ ∀ b ∈ (plL q ls ps).2, b.2.length + 1 ≤ q.length + szL ps + 1
  | q, x :: ls, a :: ps => by
    rw [plL, szL]
    have h1 := pl_path (q ++ [x]) a
    have h2 := plL_path q ls ps
    rw [List.length_append] at h1
    constructor
    · intro c h
      rcases List.mem_append.1 h with h | h
      · have := h1.1 c h; simp at this; omega
      · have := h2.1 c h; omega
    · intro c h
      rcases List.mem_append.1 h with h | h
      · have := h1.2 c h; simp at this; omega
      · have := h2.2 c h; omega
  | q, [], _ => by rw [plL]; exact ⟨fun c h => absurd h (List.not_mem_nil), fun b h => absurd h (List.not_mem_nil)⟩
  | q, _ :: _, [] => by rw [plL]; exact ⟨fun c h => absurd h (List.not_mem_nil), fun b h => absurd h (List.not_mem_nil)⟩
end
end Go.Proofs.Ytcododdkjppmjaa
