/-
  The walk over a pattern's form. Conditions: none.
  The walk over the document's form of a pattern. Conditions: none.
  What is made once and then only read, known together with what there was; rows as they lie in memory; rows made plain (plain). Conditions: none.
  Walks over what Go's library gives Match, and over small functions: slices.Clone, Clip, Equal, to, longer, same, is, equal, head. Conditions: none.
  The walk over a row's condition of a path. Conditions: none.
-/
import Derived.Test.YtcododdkjppmjaaRowLastMg1
namespace Go.Fw
open Go Go.RowKit
section
variable {P : Program} {N : Nat} {l : List (Nat × Value)} {C : World → Prop} {d : Option Tmp} {T : TypeId} {pos : String} {af : Array Edge} {g : Option (Nat × Bool)}
theorem ex_neqBD {t ty : TypeId} {x y : Operand} {P1 P2 : Prop} {i1 : Decidable P1} {i2 : Decidable P2} [h : TBo P t] (hx : ev l x = some (.bool (decide P1))) (hy : ev l y = some (.bool (decide P2))) : Ex P N l C ⟨d, .binOp .neq t x y ty, T, pos, af, g⟩ (.bool (decide (P1 ↔ ¬ P2))) := by
  have h1 := ex_neqB (N := N) (C := C) (d := d) (T := T) (pos := pos) (af := af) (g := g) (t := t) (ty := ty) (h := h) hx hy
  have e : (decide P1 != decide P2) = decide (P1 ↔ ¬ P2) := by
    by_cases h1 : P1 <;> by_cases h2 : P2 <;> simp [h1, h2]
  rwa [e] at h1
theorem ex_neqBf {t ty : TypeId} {x y : Operand} {P1 : Prop} {i1 : Decidable P1} [h : TBo P t] (hx : ev l x = some (.bool (decide P1))) (hy : ev l y = some (.bool false)) : Ex P N l C ⟨d, .binOp .neq t x y ty, T, pos, af, g⟩ (.bool (decide P1)) := by
  have h1 := ex_neqB (N := N) (C := C) (d := d) (T := T) (pos := pos) (af := af) (g := g) (t := t) (ty := ty) (h := h) hx hy
  have e : (decide P1 != false) = decide P1 := by cases decide P1 <;> rfl
  rwa [e] at h1
end
end Go.Fw
namespace Go.Proofs.Ytcododdkjppmjaa
open Go Go.Fw
set_option linter.unusedVariables false
theorem shape_of {k v n : Int} {sz nl na : Nat} (h : Shape k v n sz nl na) : 1 ≤ k ∧ k ≤ 9 ∧ (k = 8 → na = 1) ∧ (k = 9 → na = nl) ∧ (k ≠ 8 ∧ k ≠ 9 → na = 0) ∧ (k ≠ 9 → nl = 0) ∧ (v = 0 ∨ k = 2) ∧ (k = 7 ∨ k = 8 → sz ≠ 0) ∧ (k = 4 → sz ≤ 4096) ∧ (k ≠ 4 ∧ k ≠ 7 ∧ k ≠ 8 → sz = 0) ∧ (k = 3 → -4611686018427387904 ≤ n ∧ n ≤ 4611686018427387903) ∧ (k = 5 → n = 0 ∨ n = 1) ∧ (k ≠ 3 ∧ k ≠ 5 → n = 0) := h
theorem no_shape {p : AP} (h : ¬ (1 ≤ p.k ∧ p.k ≤ 9 ∧ (p.k = 8 → p.ps.length = 1) ∧ (p.k = 9 → p.ps.length = p.ls.length) ∧ (p.k ≠ 8 ∧ p.k ≠ 9 → p.ps.length = 0) ∧ (p.k ≠ 9 → p.ls.length = 0) ∧ (p.v = 0 ∨ p.k = 2) ∧ (p.k = 7 ∨ p.k = 8 → p.s.size ≠ 0) ∧ (p.k = 4 → p.s.size ≤ 4096) ∧ (p.k ≠ 4 ∧ p.k ≠ 7 ∧ p.k ≠ 8 → p.s.size = 0) ∧ (p.k = 3 → -4611686018427387904 ≤ p.n ∧ p.n ≤ 4611686018427387903) ∧ (p.k = 5 → p.n = 0 ∨ p.n = 1) ∧ (p.k ≠ 3 ∧ p.k ≠ 5 → p.n = 0))) : formP p = false := form_no h
theorem shape_mk {k v n : Int} {sz nl na : Nat} (h : 1 ≤ k ∧ k ≤ 9 ∧ (k = 8 → na = 1) ∧ (k = 9 → na = nl) ∧ (k ≠ 8 ∧ k ≠ 9 → na = 0) ∧ (k ≠ 9 → nl = 0) ∧ (v = 0 ∨ k = 2) ∧ (k = 7 ∨ k = 8 → sz ≠ 0) ∧ (k = 4 → sz ≤ 4096) ∧ (k ≠ 4 ∧ k ≠ 7 ∧ k ≠ 8 → sz = 0) ∧ (k = 3 → -4611686018427387904 ≤ n ∧ n ≤ 4611686018427387903) ∧ (k = 5 → n = 0 ∨ n = 1) ∧ (k ≠ 3 ∧ k ≠ 5 → n = 0)) : Shape k v n sz nl na := h
theorem labs_0 (ls : List ByteArray) : labsP [] (ls.take 0) = true := rfl
set_option maxRecDepth 10000 attribute [local irreducible] Code.wp wpList Calls Ex Op1 sat bat blk cb own Go.Fw.mp Go.Fw.mpO Go.Fw.mpI Go.Fw.mpE Go.Fw.itr HS Rd Ret wkD Hp Cl Cls Exit.then Exit.inBlock Exit.noGoto bodyPost Go.Fw.flat wk2 Go.Fw.all Go.Fw.owns wpOp
attribute [local irreducible] encA partsP partsL idxX formP formL labsP Shape hasX

set_option maxHeartbeats 8000000 in
theorem form_spec : ∀ (z : Nat) (p : AP), SizeOf.sizeOf p < z → ∀ (w0 : World), RdA w0 p →
    Ret Try.prog 19 #[.agg #[.int .i64 p.k, .int .i64 p.v, .int .i64 p.n, .string p.s, .slice p.ol p.ls.length p.cl, .slice p.oa p.ps.length p.ca]] w0 (fun v w => v = .bool (formP p) ∧ Kp w0 noM w)
  | 0, p, hz, _, _ => absurd hz (Nat.not_lt_zero _)
  | z + 1, p, hz, w0, hR => by
    have hH : HS w0 noM [] w0 := HS.init w0 noM
    have hra := hR.a
    have hrl := hR.l
    have hc := hR.c
    have hcl : ∀ x ∈ p.ps, ∀ w, Kp w0 noM w → Ret Try.prog 36 (#[] ++ #[.agg #[.int .i64 x.k, .int .i64 x.v, .int .i64 x.n, .string x.s, .slice x.ol x.ls.length x.cl, .slice x.oa x.ps.length x.ca]] ++ #[]) w (fun v w' => v = .bool (!formP x) ∧ Kp w noM w') := by
      intro x hx w hk
      have hRx := (hR.s x hx).keep hk
      have hH : HS w noM [] w := HS.init w noM
      (refine enter (N := 6) Try.func36 rfl Try.ntmps36 rfl ?_; intro a hA; dsimp only [sl0, Nat.reduceAdd] at hA)
      repeat' (first | (first | (refine GT ?_ ?_ <;> intro hg <;> clear hA a <;> intro a hA <;> (first | exact FA | replace hg := of_decide_eq_true hg | replace hg := of_decide_eq_false hg | skip)) | (refine QT ?_; clear hA a; intro a hA) | (first | (refine BT ?_; clear hA hH; rintro _ w ⟨bN, rfl, hH⟩ a hA) | (refine LT ?_; clear hA hH; rintro _ w ⟨oN, rfl, hH⟩ a hA) | (refine AT ?_; clear hA; rintro _ w ⟨oN, cN, rfl, hH2⟩ a hA; clear hH; have hH := (hH2 _ (by (repeat constructor))).tail; clear hH2) | (refine S0T ?_; clear hH; rintro _ w hH) )) | ((first | refine CT ?_ | (refine DT ?_ ?_ <;> intro hc <;> try (exfalso; omega))) <;> repeat' refine CT ?_) | (first | (refine DSK ?_; clear hA a; intro a hA) | (first | (refine DLT ?_; clear hA hH; rintro _ w ⟨oN, rfl, hH⟩; refine ⟨STT, ?_⟩; intro a hA) | (refine DAT ?_; clear hA; rintro _ w ⟨oN, cN, rfl, hH2⟩; clear hH; have hH := (hH2 _ (by (repeat constructor))).tail; clear hH2; refine ⟨STT, ?_⟩; intro a hA))) )
      (refine st_op hA rfl rfl (by decide) (op_call rfl rfl rfl (form_spec z x (by have := as_lt hx; omega) _ (hRx.keep hH.kp))) ?_; clear hA; rintro _ w ⟨rfl, hk⟩ a hA; replace hH := hH.keep hk; clear hk)
      repeat' (first | (first | (refine GT ?_ ?_ <;> intro hg <;> clear hA a <;> intro a hA <;> (first | exact FA | replace hg := of_decide_eq_true hg | replace hg := of_decide_eq_false hg | skip)) | (refine QT ?_; clear hA a; intro a hA) | (first | (refine BT ?_; clear hA hH; rintro _ w ⟨bN, rfl, hH⟩ a hA) | (refine LT ?_; clear hA hH; rintro _ w ⟨oN, rfl, hH⟩ a hA) | (refine AT ?_; clear hA; rintro _ w ⟨oN, cN, rfl, hH2⟩ a hA; clear hH; have hH := (hH2 _ (by (repeat constructor))).tail; clear hH2) | (refine S0T ?_; clear hH; rintro _ w hH) )) | ((first | refine CT ?_ | (refine DT ?_ ?_ <;> intro hc <;> try (exfalso; omega))) <;> repeat' refine CT ?_) | (first | (refine DSK ?_; clear hA a; intro a hA) | (first | (refine DLT ?_; clear hA hH; rintro _ w ⟨oN, rfl, hH⟩; refine ⟨STT, ?_⟩; intro a hA) | (refine DAT ?_; clear hA; rintro _ w ⟨oN, cN, rfl, hH2⟩; clear hH; have hH := (hH2 _ (by (repeat constructor))).tail; clear hH2; refine ⟨STT, ?_⟩; intro a hA))) )
      exact rt1 (.inl rfl) rfl hA rfl ⟨rfl, hH.kp⟩
    have hspL : Sp p.ol p.ls.length := hrl.sp (sz := 1) (flat_length encX_len p.ls) (by omega)
    have hno := @no_shape p
    have hmx := hc
    unfold maxLen at hmx
    (refine enter (N := 129) Try.func19 rfl Try.ntmps19 rfl ?_; intro a hA; dsimp only [sl0, Nat.reduceAdd] at hA)
    repeat refine CT ?_
    (refine BT ?_; clear hA hH; rintro _ w ⟨bP, rfl, hH⟩ a hA)
    have hX := hH; replace hH := hH.drop_
    repeat' (first | (first | (refine GT ?_ ?_ <;> intro hg <;> clear hA a <;> intro a hA <;> (first | exact FA | replace hg := of_decide_eq_true hg | replace hg := of_decide_eq_false hg | skip)) | (refine QT ?_; clear hA a; intro a hA) | (first | (refine BT ?_; clear hA hH; rintro _ w ⟨bN, rfl, hH⟩ a hA) | (refine LT ?_; clear hA hH; rintro _ w ⟨oN, rfl, hH⟩ a hA) | (refine AT ?_; clear hA; rintro _ w ⟨oN, cN, rfl, hH2⟩ a hA; clear hH; have hH := (hH2 _ (by (repeat constructor))).tail; clear hH2) | (refine S0T ?_; clear hH; rintro _ w hH) )) | ((first | refine CT ?_ | (refine DT ?_ ?_ <;> intro hc <;> try (exfalso; omega))) <;> repeat' refine CT ?_) | (first | (refine DSK ?_; clear hA a; intro a hA) | (first | (refine DLT ?_; clear hA hH; rintro _ w ⟨oN, rfl, hH⟩; refine ⟨STT, ?_⟩; intro a hA) | (refine DAT ?_; clear hA; rintro _ w ⟨oN, cN, rfl, hH2⟩; clear hH; have hH := (hH2 _ (by (repeat constructor))).tail; clear hH2; refine ⟨STT, ?_⟩; intro a hA))) )
    clear hH; have hH := hX; clear hX
    refine st_cutR (fun a w => HS w0 noM [cb bP 38 [.int .i64 p.k, .int .i64 p.v, .int .i64 p.n, .string p.s, .slice p.ol p.ls.length p.cl, .slice p.oa p.ps.length p.ca]] w ∧ Sl 129 [(1, .pointer (some (bat bP 0))), (2, .bool false), (3, .int .i64 0), (4, .int .i64 0), (5, .bool (decide (p.k = 7 ∨ p.k = 8)))] a) ?_ ?_
    · repeat' (first | (first | (refine GT ?_ ?_ <;> intro hg <;> clear hA a <;> intro a hA <;> (first | exact FA | replace hg := of_decide_eq_true hg | replace hg := of_decide_eq_false hg | skip)) | (refine QT ?_; clear hA a; intro a hA) | (first | (refine BT ?_; clear hA hH; rintro _ w ⟨bN, rfl, hH⟩ a hA) | (refine LT ?_; clear hA hH; rintro _ w ⟨oN, rfl, hH⟩ a hA) | (refine AT ?_; clear hA; rintro _ w ⟨oN, cN, rfl, hH2⟩ a hA; clear hH; have hH := (hH2 _ (by (repeat constructor))).tail; clear hH2) | (refine S0T ?_; clear hH; rintro _ w hH) )) | ((first | refine CT ?_ | (refine DT ?_ ?_ <;> intro hc <;> try (exfalso; omega))) <;> repeat' refine CT ?_) | (first | (refine DSK ?_; clear hA a; intro a hA) | (first | (refine DLT ?_; clear hA hH; rintro _ w ⟨oN, rfl, hH⟩; refine ⟨STT, ?_⟩; intro a hA) | (refine DAT ?_; clear hA; rintro _ w ⟨oN, cN, rfl, hH2⟩; clear hH; have hH := (hH2 _ (by (repeat constructor))).tail; clear hH2; refine ⟨STT, ?_⟩; intro a hA))) )
      · exact ⟨hH, by rw [decide_eq_true (show p.k = 7 ∨ p.k = 8 by omega)]; exact (hA.sub (by (repeat (first | exact trivial | refine ⟨rfl, ?_⟩))))⟩
      · exact ⟨hH, by rw [show decide (p.k = 7 ∨ p.k = 8) = decide (p.k = 8) by rw [decide_eq_decide]; omega]; exact (hA.sub (by (repeat (first | exact trivial | refine ⟨rfl, ?_⟩))))⟩
    clear hA hH
    rintro a w ⟨hH, hA⟩
    have hX := hH; replace hH := hH.drop_
    repeat' (first | (first | (refine GT ?_ ?_ <;> intro hg <;> clear hA a <;> intro a hA <;> (first | exact FA | replace hg := of_decide_eq_true hg | replace hg := of_decide_eq_false hg | skip)) | (refine QT ?_; clear hA a; intro a hA) | (first | (refine BT ?_; clear hA hH; rintro _ w ⟨bN, rfl, hH⟩ a hA) | (refine LT ?_; clear hA hH; rintro _ w ⟨oN, rfl, hH⟩ a hA) | (refine AT ?_; clear hA; rintro _ w ⟨oN, cN, rfl, hH2⟩ a hA; clear hH; have hH := (hH2 _ (by (repeat constructor))).tail; clear hH2) | (refine S0T ?_; clear hH; rintro _ w hH) )) | ((first | refine CT ?_ | (refine DT ?_ ?_ <;> intro hc <;> try (exfalso; omega))) <;> repeat' refine CT ?_) | (first | (refine DSK ?_; clear hA a; intro a hA) | (first | (refine DLT ?_; clear hA hH; rintro _ w ⟨oN, rfl, hH⟩; refine ⟨STT, ?_⟩; intro a hA) | (refine DAT ?_; clear hA; rintro _ w ⟨oN, cN, rfl, hH2⟩; clear hH; have hH := (hH2 _ (by (repeat constructor))).tail; clear hH2; refine ⟨STT, ?_⟩; intro a hA))) )
    clear hH; have hH := hX; clear hX
    refine st_join (fun a w => ∃ ar lb : Int, (1 ≤ p.k ∧ p.k ≤ 9 ∧ (p.k = 8 → ar = 1) ∧ (p.k = 9 → ar = p.ls.length) ∧ (p.k ≠ 8 ∧ p.k ≠ 9 → ar = 0) ∧ (p.k = 9 → lb = p.ls.length) ∧ (p.k ≠ 9 → lb = 0)) ∧ HS w0 noM [cb bP 38 [.int .i64 p.k, .int .i64 p.v, .int .i64 p.n, .string p.s, .slice p.ol p.ls.length p.cl, .slice p.oa p.ps.length p.ca]] w ∧ Sl 129 [(1, .pointer (some (bat bP 0))), (2, .bool false), (3, .int .i64 ar), (4, .int .i64 lb), (5, .bool (decide (p.k = 7 ∨ p.k = 8)))] a) ?_ ?_
    · repeat' (first | (first | (refine GT ?_ ?_ <;> intro hg <;> clear hA a <;> intro a hA <;> (first | exact FA | replace hg := of_decide_eq_true hg | replace hg := of_decide_eq_false hg | skip)) | (refine QT ?_; clear hA a; intro a hA) | (first | (refine BT ?_; clear hA hH; rintro _ w ⟨bN, rfl, hH⟩ a hA) | (refine LT ?_; clear hA hH; rintro _ w ⟨oN, rfl, hH⟩ a hA) | (refine AT ?_; clear hA; rintro _ w ⟨oN, cN, rfl, hH2⟩ a hA; clear hH; have hH := (hH2 _ (by (repeat constructor))).tail; clear hH2) | (refine S0T ?_; clear hH; rintro _ w hH) )) | ((first | refine CT ?_ | (refine DT ?_ ?_ <;> intro hc <;> try (exfalso; omega))) <;> repeat' refine CT ?_) | (first | (refine DSK ?_; clear hA a; intro a hA) | (first | (refine DLT ?_; clear hA hH; rintro _ w ⟨oN, rfl, hH⟩; refine ⟨STT, ?_⟩; intro a hA) | (refine DAT ?_; clear hA; rintro _ w ⟨oN, cN, rfl, hH2⟩; clear hH; have hH := (hH2 _ (by (repeat constructor))).tail; clear hH2; refine ⟨STT, ?_⟩; intro a hA))) )
      all_goals (first | exact rt1 (.inl rfl) rfl hA rfl ⟨by rw [hno (by omega)], hH.kp⟩ | exact ⟨0, 0, by omega, hH, (hA.sub (by (repeat (first | exact trivial | refine ⟨rfl, ?_⟩))))⟩ | exact ⟨1, 0, by omega, hH, (hA.sub (by (repeat (first | exact trivial | refine ⟨rfl, ?_⟩))))⟩ | skip)
      (refine wp_draw_HS [(0, 1), (1, 1), (2, 1), (3, 1), (4, 1), (5, 1), (6, 1), (7, 1)] mixed (by decide +kernel) hH ?_; replace hH := hH.drew)
      repeat' (first | (first | (refine GT ?_ ?_ <;> intro hg <;> clear hA a <;> intro a hA <;> (first | exact FA | replace hg := of_decide_eq_true hg | replace hg := of_decide_eq_false hg | skip)) | (refine QT ?_; clear hA a; intro a hA) | (first | (refine BT ?_; clear hA hH; rintro _ w ⟨bN, rfl, hH⟩ a hA) | (refine LT ?_; clear hA hH; rintro _ w ⟨oN, rfl, hH⟩ a hA) | (refine AT ?_; clear hA; rintro _ w ⟨oN, cN, rfl, hH2⟩ a hA; clear hH; have hH := (hH2 _ (by (repeat constructor))).tail; clear hH2) | (refine S0T ?_; clear hH; rintro _ w hH) )) | ((first | refine CT ?_ | (refine DT ?_ ?_ <;> intro hc <;> try (exfalso; omega))) <;> repeat' refine CT ?_) | (first | (refine DSK ?_; clear hA a; intro a hA) | (first | (refine DLT ?_; clear hA hH; rintro _ w ⟨oN, rfl, hH⟩; refine ⟨STT, ?_⟩; intro a hA) | (refine DAT ?_; clear hA; rintro _ w ⟨oN, cN, rfl, hH2⟩; clear hH; have hH := (hH2 _ (by (repeat constructor))).tail; clear hH2; refine ⟨STT, ?_⟩; intro a hA))) )
      exact ⟨p.ls.length, p.ls.length, by omega, hH, (hA.sub (by (repeat (first | exact trivial | refine ⟨rfl, ?_⟩))))⟩
    clear hA hH
    rintro a w ⟨ar, lb, ⟨f1, f2, f3, f4, f5, f6, f7⟩, hH, hA⟩
    have hX := hH; replace hH := hH.drop_
    repeat' (first | (first | (refine GT ?_ ?_ <;> intro hg <;> clear hA a <;> intro a hA <;> (first | exact FA | replace hg := of_decide_eq_true hg | replace hg := of_decide_eq_false hg | skip)) | (refine QT ?_; clear hA a; intro a hA) | (first | (refine BT ?_; clear hA hH; rintro _ w ⟨bN, rfl, hH⟩ a hA) | (refine LT ?_; clear hA hH; rintro _ w ⟨oN, rfl, hH⟩ a hA) | (refine AT ?_; clear hA; rintro _ w ⟨oN, cN, rfl, hH2⟩ a hA; clear hH; have hH := (hH2 _ (by (repeat constructor))).tail; clear hH2) | (refine S0T ?_; clear hH; rintro _ w hH) )) | ((first | refine CT ?_ | (refine DT ?_ ?_ <;> intro hc <;> try (exfalso; omega))) <;> repeat' refine CT ?_) | (first | (refine DSK ?_; clear hA a; intro a hA) | (first | (refine DLT ?_; clear hA hH; rintro _ w ⟨oN, rfl, hH⟩; refine ⟨STT, ?_⟩; intro a hA) | (refine DAT ?_; clear hA; rintro _ w ⟨oN, cN, rfl, hH2⟩; clear hH; have hH := (hH2 _ (by (repeat constructor))).tail; clear hH2; refine ⟨STT, ?_⟩; intro a hA))) )
    clear hH; have hH := hX; clear hX
    refine st_join (fun a w => ((p.ps.length : Int) = ar ∧ (p.ls.length : Int) = lb ∧ (p.v = 0 ∨ p.k = 2) ∧ (p.k = 7 ∨ p.k = 8 → p.s.size ≠ 0) ∧ (p.k = 4 → p.s.size ≤ 4096) ∧ (p.k ≠ 4 ∧ p.k ≠ 7 ∧ p.k ≠ 8 → p.s.size = 0)) ∧ HS w0 noM [cb bP 38 [.int .i64 p.k, .int .i64 p.v, .int .i64 p.n, .string p.s, .slice p.ol p.ls.length p.cl, .slice p.oa p.ps.length p.ca]] w ∧ Sl 129 [(1, .pointer (some (bat bP 0))), (2, .bool false)] a) ?_ ?_
    · repeat' (first | (first | (refine GT ?_ ?_ <;> intro hg <;> clear hA a <;> intro a hA <;> (first | exact FA | replace hg := of_decide_eq_true hg | replace hg := of_decide_eq_false hg | skip)) | ((first | apply st_ex hA hH rfl rfl (by decide) | apply dr_ex hA rfl rfl rfl (by decide) | apply dr_exp hA rfl rfl rfl (by decide) | apply dr_ex3 hA hH rfl rfl rfl (by decide)); (first | (apply ex_eql0; rfl; rfl) | (apply ex_neq0; rfl; rfl) | (apply ex_len_sz; rfl) | (apply ex_neqBf; rfl; rfl) | (apply ex_neqBD; rfl; rfl)); clear hA a; intro a hA) | (refine QT ?_; clear hA a; intro a hA) | (first | (refine BT ?_; clear hA hH; rintro _ w ⟨bN, rfl, hH⟩ a hA) | (refine LT ?_; clear hA hH; rintro _ w ⟨oN, rfl, hH⟩ a hA) | (refine AT ?_; clear hA; rintro _ w ⟨oN, cN, rfl, hH2⟩ a hA; clear hH; have hH := (hH2 _ (by (repeat constructor))).tail; clear hH2) | (refine S0T ?_; clear hH; rintro _ w hH) )) | ((first | refine CT ?_ | (refine DT ?_ ?_ <;> intro hc <;> try (exfalso; omega))) <;> repeat' refine CT ?_) | (first | (refine DSK ?_; clear hA a; intro a hA) | (first | (refine DLT ?_; clear hA hH; rintro _ w ⟨oN, rfl, hH⟩; refine ⟨STT, ?_⟩; intro a hA) | (refine DAT ?_; clear hA; rintro _ w ⟨oN, cN, rfl, hH2⟩; clear hH; have hH := (hH2 _ (by (repeat constructor))).tail; clear hH2; refine ⟨STT, ?_⟩; intro a hA))) )
      all_goals (first | exact rt1 (.inl rfl) rfl hA rfl ⟨by rw [hno (by omega)], hH.kp⟩ | exact ⟨by omega, hH, (hA.sub (by (repeat (first | exact trivial | refine ⟨rfl, ?_⟩))))⟩)
    clear hA hH
    rintro a w ⟨⟨e1, e2, e3, e4, e5, e6⟩, hH, hA⟩
    have hX := hH; replace hH := hH.drop_
    repeat' (first | (first | (refine GT ?_ ?_ <;> intro hg <;> clear hA a <;> intro a hA <;> (first | exact FA | replace hg := of_decide_eq_true hg | replace hg := of_decide_eq_false hg | skip)) | (refine QT ?_; clear hA a; intro a hA) | (first | (refine BT ?_; clear hA hH; rintro _ w ⟨bN, rfl, hH⟩ a hA) | (refine LT ?_; clear hA hH; rintro _ w ⟨oN, rfl, hH⟩ a hA) | (refine AT ?_; clear hA; rintro _ w ⟨oN, cN, rfl, hH2⟩ a hA; clear hH; have hH := (hH2 _ (by (repeat constructor))).tail; clear hH2) | (refine S0T ?_; clear hH; rintro _ w hH) )) | ((first | refine CT ?_ | (refine DT ?_ ?_ <;> intro hc <;> try (exfalso; omega))) <;> repeat' refine CT ?_) | (first | (refine DSK ?_; clear hA a; intro a hA) | (first | (refine DLT ?_; clear hA hH; rintro _ w ⟨oN, rfl, hH⟩; refine ⟨STT, ?_⟩; intro a hA) | (refine DAT ?_; clear hA; rintro _ w ⟨oN, cN, rfl, hH2⟩; clear hH; have hH := (hH2 _ (by (repeat constructor))).tail; clear hH2; refine ⟨STT, ?_⟩; intro a hA))) )
    clear hH; have hH := hX; clear hX
    refine st_join (fun a w => ((p.k = 3 → -4611686018427387904 ≤ p.n ∧ p.n ≤ 4611686018427387903) ∧ (p.k = 5 → p.n = 0 ∨ p.n = 1) ∧ (p.k ≠ 3 ∧ p.k ≠ 5 → p.n = 0)) ∧ HS w0 noM [cb bP 38 [.int .i64 p.k, .int .i64 p.v, .int .i64 p.n, .string p.s, .slice p.ol p.ls.length p.cl, .slice p.oa p.ps.length p.ca]] w ∧ Sl 129 [(1, .pointer (some (bat bP 0))), (2, .bool false)] a) ?_ ?_
    · repeat' (first | (first | (refine GT ?_ ?_ <;> intro hg <;> clear hA a <;> intro a hA <;> (first | exact FA | replace hg := of_decide_eq_true hg | replace hg := of_decide_eq_false hg | skip)) | (refine QT ?_; clear hA a; intro a hA) | (first | (refine BT ?_; clear hA hH; rintro _ w ⟨bN, rfl, hH⟩ a hA) | (refine LT ?_; clear hA hH; rintro _ w ⟨oN, rfl, hH⟩ a hA) | (refine AT ?_; clear hA; rintro _ w ⟨oN, cN, rfl, hH2⟩ a hA; clear hH; have hH := (hH2 _ (by (repeat constructor))).tail; clear hH2) | (refine S0T ?_; clear hH; rintro _ w hH) )) | ((first | refine CT ?_ | (refine DT ?_ ?_ <;> intro hc <;> try (exfalso; omega))) <;> repeat' refine CT ?_) | (first | (refine DSK ?_; clear hA a; intro a hA) | (first | (refine DLT ?_; clear hA hH; rintro _ w ⟨oN, rfl, hH⟩; refine ⟨STT, ?_⟩; intro a hA) | (refine DAT ?_; clear hA; rintro _ w ⟨oN, cN, rfl, hH2⟩; clear hH; have hH := (hH2 _ (by (repeat constructor))).tail; clear hH2; refine ⟨STT, ?_⟩; intro a hA))) )
      all_goals (first | exact rt1 (.inl rfl) rfl hA rfl ⟨by rw [hno (by omega)], hH.kp⟩ | exact ⟨by omega, hH, (hA.sub (by (repeat (first | exact trivial | refine ⟨rfl, ?_⟩))))⟩)
    clear hA hH
    rintro a w ⟨⟨g1, g2, g3⟩, hH, hA⟩
    have hshape : Shape p.k p.v p.n p.s.size p.ls.length p.ps.length := shape_mk (by omega)
    repeat' (first | (first | (refine GT ?_ ?_ <;> intro hg <;> clear hA a <;> intro a hA <;> (first | exact FA | replace hg := of_decide_eq_true hg | replace hg := of_decide_eq_false hg | skip)) | (refine QT ?_; clear hA a; intro a hA) | (first | (refine BT ?_; clear hA hH; rintro _ w ⟨bN, rfl, hH⟩ a hA) | (refine LT ?_; clear hA hH; rintro _ w ⟨oN, rfl, hH⟩ a hA) | (refine AT ?_; clear hA; rintro _ w ⟨oN, cN, rfl, hH2⟩ a hA; clear hH; have hH := (hH2 _ (by (repeat constructor))).tail; clear hH2) | (refine S0T ?_; clear hH; rintro _ w hH) )) | ((first | refine CT ?_ | (refine DT ?_ ?_ <;> intro hc <;> try (exfalso; omega))) <;> repeat' refine CT ?_) | (first | (refine DSK ?_; clear hA a; intro a hA) | (first | (refine DLT ?_; clear hA hH; rintro _ w ⟨oN, rfl, hH⟩; refine ⟨STT, ?_⟩; intro a hA) | (refine DAT ?_; clear hA; rintro _ w ⟨oN, cN, rfl, hH2⟩; clear hH; have hH := (hH2 _ (by (repeat constructor))).tail; clear hH2; refine ⟨STT, ?_⟩; intro a hA))) )
    refine wp_lpj (S := Nat) (fun i a w => (i ≤ p.ls.length ∧ labsP [] (p.ls.take i) = true) ∧ HS w0 noM [cb bP 38 [.int .i64 p.k, .int .i64 p.v, .int .i64 p.n, .string p.s, .slice p.ol p.ls.length p.cl, .slice p.oa p.ps.length p.ca]] w ∧ Sl 129 [(1, .pointer (some (bat bP 0))), (107, .slice p.ol p.ls.length p.cl), (108, .int .i64 p.ls.length), (109, .int .i64 i)] a) (fun i => p.ls.length - i)
      (fun a w => labsP [] p.ls = true ∧ HS w0 noM [cb bP 38 [.int .i64 p.k, .int .i64 p.v, .int .i64 p.n, .string p.s, .slice p.ol p.ls.length p.cl, .slice p.oa p.ps.length p.ca]] w ∧ Sl 129 [(1, .pointer (some (bat bP 0)))] a) 0 ⟨⟨Nat.zero_le _, labs_0 p.ls⟩, hH, (hA.sub (by (repeat (first | exact trivial | refine ⟨rfl, ?_⟩))))⟩ ?_ ?_
    · clear hA hH
      rintro i a w ⟨⟨hi, hn⟩, hH, hA⟩
      by_cases hlt : i < p.ls.length
      rotate_left
      · obtain rfl : i = p.ls.length := by omega
        rw [List.take_length] at hn
        repeat' (first | (first | (refine GT ?_ ?_ <;> intro hg <;> clear hA a <;> intro a hA <;> (first | exact FA | replace hg := of_decide_eq_true hg | replace hg := of_decide_eq_false hg | skip)) | (refine QT ?_; clear hA a; intro a hA) | (first | (refine BT ?_; clear hA hH; rintro _ w ⟨bN, rfl, hH⟩ a hA) | (refine LT ?_; clear hA hH; rintro _ w ⟨oN, rfl, hH⟩ a hA) | (refine AT ?_; clear hA; rintro _ w ⟨oN, cN, rfl, hH2⟩ a hA; clear hH; have hH := (hH2 _ (by (repeat constructor))).tail; clear hH2) | (refine S0T ?_; clear hH; rintro _ w hH) )) | ((first | refine CT ?_ | (refine DT ?_ ?_ <;> intro hc <;> try (exfalso; omega))) <;> repeat' refine CT ?_) | (first | (refine DSK ?_; clear hA a; intro a hA) | (first | (refine DLT ?_; clear hA hH; rintro _ w ⟨oN, rfl, hH⟩; refine ⟨STT, ?_⟩; intro a hA) | (refine DAT ?_; clear hA; rintro _ w ⟨oN, cN, rfl, hH2⟩; clear hH; have hH := (hH2 _ (by (repeat constructor))).tail; clear hH2; refine ⟨STT, ?_⟩; intro a hA))) )
        exact ⟨hn, hH, (hA.sub (by (repeat (first | exact trivial | refine ⟨rfl, ?_⟩))))⟩
      obtain ⟨x, hx⟩ : ∃ x, p.ls[i]? = some x := ⟨_, List.getElem?_eq_getElem hlt⟩
      have hcx := encX_at hx
      repeat' (first | (first | (refine GT ?_ ?_ <;> intro hg <;> clear hA a <;> intro a hA <;> (first | exact FA | replace hg := of_decide_eq_true hg | replace hg := of_decide_eq_false hg | skip)) | ((first | apply st_ex hA hH rfl rfl (by decide) | apply dr_ex hA rfl rfl rfl (by decide) | apply dr_exp hA rfl rfl rfl (by decide) | apply dr_ex3 hA hH rfl rfl rfl (by decide)); (first | (apply ex_eql0; rfl; rfl) | (apply ex_neq0; rfl; rfl) | (apply ex_len_sz; rfl) | (apply ex_neqBf; rfl; rfl) | (apply ex_neqBD; rfl; rfl) | (apply ex_slice_hi (k := i); rfl; rfl; rfl; omega)); clear hA a; intro a hA) | (refine QT ?_; clear hA a; intro a hA) | (first | (refine BT ?_; clear hA hH; rintro _ w ⟨bN, rfl, hH⟩ a hA) | (refine LT ?_; clear hA hH; rintro _ w ⟨oN, rfl, hH⟩ a hA) | (refine AT ?_; clear hA; rintro _ w ⟨oN, cN, rfl, hH2⟩ a hA; clear hH; have hH := (hH2 _ (by (repeat constructor))).tail; clear hH2) | (refine S0T ?_; clear hH; rintro _ w hH) )) | ((first | refine CT ?_ | (refine DT ?_ ?_ <;> intro hc <;> try (exfalso; omega))) <;> repeat' refine CT ?_) | (first | (refine DSK ?_; clear hA a; intro a hA) | (first | (refine DLT ?_; clear hA hH; rintro _ w ⟨oN, rfl, hH⟩; refine ⟨STT, ?_⟩; intro a hA) | (refine DAT ?_; clear hA; rintro _ w ⟨oN, cN, rfl, hH2⟩; clear hH; have hH := (hH2 _ (by (repeat constructor))).tail; clear hH2; refine ⟨STT, ?_⟩; intro a hA))) )
      · exact rt1 (.inl rfl) rfl hA rfl ⟨by rw [formP_eq, labs_bad hx (.inl (by omega))]; simp, hH.kp⟩
      rw [show i = (p.ls.take i).length by rw [List.length_take]; omega] at hA
      (refine st_op hA rfl rfl (by decide) (op_call rfl rfl rfl (containsX_spec _ p.ol p.cl (p.ls.take i) x (by rw [← flat_take encX_len, Nat.mul_one]; exact (hH.rd hrl id).take i) (by rw [List.length_take]; unfold maxLen; omega))) ?_; clear hA; rintro _ w ⟨rfl, hk⟩ a hA; replace hH := hH.keep hk; clear hk)
      rw [show (p.ls.take i).length = i by rw [List.length_take]; omega] at hA
      cases hfx : hasX (p.ls.take i) x with
      | true =>
        rw [hfx] at hA
        repeat' (first | (first | (refine GT ?_ ?_ <;> intro hg <;> clear hA a <;> intro a hA <;> (first | exact FA | replace hg := of_decide_eq_true hg | replace hg := of_decide_eq_false hg | skip)) | (refine QT ?_; clear hA a; intro a hA) | (first | (refine BT ?_; clear hA hH; rintro _ w ⟨bN, rfl, hH⟩ a hA) | (refine LT ?_; clear hA hH; rintro _ w ⟨oN, rfl, hH⟩ a hA) | (refine AT ?_; clear hA; rintro _ w ⟨oN, cN, rfl, hH2⟩ a hA; clear hH; have hH := (hH2 _ (by (repeat constructor))).tail; clear hH2) | (refine S0T ?_; clear hH; rintro _ w hH) )) | ((first | refine CT ?_ | (refine DT ?_ ?_ <;> intro hc <;> try (exfalso; omega))) <;> repeat' refine CT ?_) | (first | (refine DSK ?_; clear hA a; intro a hA) | (first | (refine DLT ?_; clear hA hH; rintro _ w ⟨oN, rfl, hH⟩; refine ⟨STT, ?_⟩; intro a hA) | (refine DAT ?_; clear hA; rintro _ w ⟨oN, cN, rfl, hH2⟩; clear hH; have hH := (hH2 _ (by (repeat constructor))).tail; clear hH2; refine ⟨STT, ?_⟩; intro a hA))) )
        exact rt1 (.inl rfl) rfl hA rfl ⟨by rw [formP_eq, labs_bad hx (.inr hfx)]; simp, hH.kp⟩
      | false =>
        rw [hfx] at hA
        repeat' (first | (first | (refine GT ?_ ?_ <;> intro hg <;> clear hA a <;> intro a hA <;> (first | exact FA | replace hg := of_decide_eq_true hg | replace hg := of_decide_eq_false hg | skip)) | (refine QT ?_; clear hA a; intro a hA) | (first | (refine BT ?_; clear hA hH; rintro _ w ⟨bN, rfl, hH⟩ a hA) | (refine LT ?_; clear hA hH; rintro _ w ⟨oN, rfl, hH⟩ a hA) | (refine AT ?_; clear hA; rintro _ w ⟨oN, cN, rfl, hH2⟩ a hA; clear hH; have hH := (hH2 _ (by (repeat constructor))).tail; clear hH2) | (refine S0T ?_; clear hH; rintro _ w hH) )) | ((first | refine CT ?_ | (refine DT ?_ ?_ <;> intro hc <;> try (exfalso; omega))) <;> repeat' refine CT ?_) | (first | (refine DSK ?_; clear hA a; intro a hA) | (first | (refine DLT ?_; clear hA hH; rintro _ w ⟨oN, rfl, hH⟩; refine ⟨STT, ?_⟩; intro a hA) | (refine DAT ?_; clear hA; rintro _ w ⟨oN, cN, rfl, hH2⟩; clear hH; have hH := (hH2 _ (by (repeat constructor))).tail; clear hH2; refine ⟨STT, ?_⟩; intro a hA))) )
        exact ⟨i + 1, ⟨⟨hlt, labs_next hx hn (by omega) hfx⟩, hH, (hA.sub (by (repeat (first | exact trivial | refine ⟨rfl, ?_⟩))))⟩, by omega⟩
    clear hA hH
    rintro a w ⟨hlb, hH, hA⟩
    repeat' (first | (first | (refine GT ?_ ?_ <;> intro hg <;> clear hA a <;> intro a hA <;> (first | exact FA | replace hg := of_decide_eq_true hg | replace hg := of_decide_eq_false hg | skip)) | (refine QT ?_; clear hA a; intro a hA) | (first | (refine BT ?_; clear hA hH; rintro _ w ⟨bN, rfl, hH⟩ a hA) | (refine LT ?_; clear hA hH; rintro _ w ⟨oN, rfl, hH⟩ a hA) | (refine AT ?_; clear hA; rintro _ w ⟨oN, cN, rfl, hH2⟩ a hA; clear hH; have hH := (hH2 _ (by (repeat constructor))).tail; clear hH2) | (refine S0T ?_; clear hH; rintro _ w hH) )) | ((first | refine CT ?_ | (refine DT ?_ ?_ <;> intro hc <;> try (exfalso; omega))) <;> repeat' refine CT ?_) | (first | (refine DSK ?_; clear hA a; intro a hA) | (first | (refine DLT ?_; clear hA hH; rintro _ w ⟨oN, rfl, hH⟩; refine ⟨STT, ?_⟩; intro a hA) | (refine DAT ?_; clear hA; rintro _ w ⟨oN, cN, rfl, hH2⟩; clear hH; have hH := (hH2 _ (by (repeat constructor))).tail; clear hH2; refine ⟨STT, ?_⟩; intro a hA))) )
    (refine st_op hA rfl rfl (by decide) (op_call rfl rfl rfl (containsA_spec _ p.oa p.ca p.ps 36 #[] #[] (fun x => !formP x) (hH.rd hra id) (by unfold maxLen; omega) (fun x hx w hw => hcl x hx w (hH.kp.trans hw (fun b hb => hb.elim))))) ?_; clear hA; rintro _ w ⟨rfl, hk⟩ a hA; replace hH := hH.keep hk; clear hk)
    repeat' (first | (first | (refine GT ?_ ?_ <;> intro hg <;> clear hA a <;> intro a hA <;> (first | exact FA | replace hg := of_decide_eq_true hg | replace hg := of_decide_eq_false hg | skip)) | (refine QT ?_; clear hA a; intro a hA) | (first | (refine BT ?_; clear hA hH; rintro _ w ⟨bN, rfl, hH⟩ a hA) | (refine LT ?_; clear hA hH; rintro _ w ⟨oN, rfl, hH⟩ a hA) | (refine AT ?_; clear hA; rintro _ w ⟨oN, cN, rfl, hH2⟩ a hA; clear hH; have hH := (hH2 _ (by (repeat constructor))).tail; clear hH2) | (refine S0T ?_; clear hH; rintro _ w hH) )) | ((first | refine CT ?_ | (refine DT ?_ ?_ <;> intro hc <;> try (exfalso; omega))) <;> repeat' refine CT ?_) | (first | (refine DSK ?_; clear hA a; intro a hA) | (first | (refine DLT ?_; clear hA hH; rintro _ w ⟨oN, rfl, hH⟩; refine ⟨STT, ?_⟩; intro a hA) | (refine DAT ?_; clear hA; rintro _ w ⟨oN, cN, rfl, hH2⟩; clear hH; have hH := (hH2 _ (by (repeat constructor))).tail; clear hH2; refine ⟨STT, ?_⟩; intro a hA))) )
    exact rt1 (.inl rfl) rfl hA rfl ⟨by rw [form_yes hshape hlb], hH.kp⟩
end Go.Proofs.Ytcododdkjppmjaa
namespace Go.Proofs.Ytcododdkjppmjaa
open Go Go.Fw
set_option linter.unusedVariables false
set_option maxRecDepth 10000 attribute [local irreducible] Code.wp wpList Calls Ex Op1 sat bat blk cb own Go.Fw.mp Go.Fw.mpO Go.Fw.mpI Go.Fw.mpE Go.Fw.itr HS Rd Ret wkD Hp Cl Cls Exit.then Exit.inBlock Exit.noGoto bodyPost Go.Fw.flat wk2 Go.Fw.all Go.Fw.owns wpOp
attribute [local irreducible] encA partsP partsL idxX formP formL labsP Shape hasX

end Go.Proofs.Ytcododdkjppmjaa
namespace Go.Fw
open Go Go.RowKit
set_option linter.unusedVariables false
/-- blocks of which, with what there was ahead, so much is known -/
def frz (w0 : World) (K : World → Prop) : It where
  sat w F := (∀ b, F b → b < w.heap.size) ∧ ∀ w' : World, Kp w0 noM w' → (∀ b, F b → w'.heap[b]? = w.heap[b]?) → K w'
  loc := fun {w w' F} ⟨h1, h2⟩ he => ⟨fun b hb => by
    have h3 := he b hb
    rw [Array.getElem?_eq_getElem (h1 b hb)] at h3
    exact lt_of_heap h3, fun w2 hk h3 => h2 w2 hk fun b hb => (h3 b hb).trans (he b hb)⟩
  lt := fun ⟨h1, _⟩ b hb => h1 b hb
  ext := fun ⟨h1, h2⟩ he => ⟨fun b hb => h1 b ((he b).2 hb), fun w' hk h3 => h2 w' hk fun b hb => h3 b ((he b).1 hb)⟩
section
variable {w0 w w' : World} {H L : List It} {K K1 K2 : World → Prop}
theorem HS.frz (h : HS w0 noM H w) (hm : Go.Fw.frz w0 K ∈ H) : K w :=
  let ⟨_, h1, h2⟩ := h.sat hm
  h2 w h.kp fun _ _ => rfl
theorem HS.frz_nil (h : HS w0 noM H w) (hK : ∀ w, Kp w0 noM w → K w) : HS w0 noM (Go.Fw.frz w0 K :: H) w := by
  obtain ⟨hk, F, hF, ho⟩ := h
  exact ⟨hk, F, ⟨fun _ => False, F, fun b => by simp, fun b hb => hb.elim, ⟨fun b hb => hb.elim, fun w' hk _ => hK w' hk⟩, hF⟩, ho⟩
theorem HS.frz_all (h : HS w0 noM (all (L ++ [Go.Fw.frz w0 K]) :: H) w) (hK : ∀ w F, Hp w L F → K1 w) : HS w0 noM (Go.Fw.frz w0 (fun w => K1 w ∧ K w) :: H) w :=
  h.conv .here fun F h1 => ⟨fun b hb => Hp.lt h1 b hb, fun w' hk h3 => by
    obtain ⟨F1, F2, hF, hd, h4, h5⟩ := Hp.append (Hp.loc h1 h3)
    obtain ⟨F3, F4, hG, hd', h6, h7⟩ := h5
    exact ⟨hK w' F1 h4, h6.2 w' hk fun _ _ => rfl⟩⟩
theorem HS.frz_it {it : It} (h : HS w0 noM (it :: Go.Fw.frz w0 K :: H) w) (hK : ∀ w F, it.sat w F → K1 w) : HS w0 noM (Go.Fw.frz w0 (fun w => K1 w ∧ K w) :: H) w := by
  have h1 : HS w0 noM (all ([it] ++ [Go.Fw.frz w0 K]) :: H) w := HS.shut (L := [it] ++ [Go.Fw.frz w0 K]) h
  exact h1.frz_all fun w F ⟨F1, F2, hF, hd, h2, h3⟩ => hK w F1 h2
theorem HS.frz_own {T sz : Nat} {o : Option Addr} {n c : Nat} {xs : List Value} (h : HS w0 noM (own T sz o n c xs :: Go.Fw.frz w0 K :: H) w) : HS w0 noM (Go.Fw.frz w0 (fun w => Rd w o xs ∧ K w) :: H) w :=
  h.frz_it fun w F h1 => Fw.own_rd h1
theorem HS.dropH (h : HS w0 noM (L ++ H) w) : HS w0 noM L w := by
  obtain ⟨hk, F, hF, ho⟩ := h
  obtain ⟨F1, F2, hG, hd, h1, h2⟩ := hF.append
  exact ⟨hk, F1, h1, fun b hb => ho b ((hG b).2 (.inl hb))⟩
theorem cls_frz {j : Nat} {o : Option Addr} {xs vs : List Value} (hm : frz w0 K ∈ H) (hr : ∀ w, K w → Rd w o xs) (hv : ∀ i v, vs[i]? = some v → xs[j + i]? = some v) : Cls (HS w0 noM H) (sat o j) vs := by
  intro w hH i v hi
  rw [sat_add]
  exact (hr w (hH.frz hm)).2 (j + i) v (hv i v hi)
theorem cl_frz {j : Nat} {o : Option Addr} {xs : List Value} {v : Value} (hm : frz w0 K ∈ H) (hr : ∀ w, K w → Rd w o xs) (hv : xs[j]? = some v) : Cl (HS w0 noM H) (sat o j) v :=
  fun w hH => (hr w (hH.frz hm)).2 j v hv
end
end Go.Fw
namespace Go.Proofs.Ytcododdkjppmjaa
open Go Go.Fw
set_option linter.unusedVariables false
abbrev Pth := List ByteArray
/-- a condition, a binding, a row as they lie in memory -/
structure MC where
  o : Option Addr
  c : Nat
  q : Pth
  p : AP
structure MB where
  v : Int
  o : Option Addr
  c : Nat
  q : Pth
structure ML where
  n : Int
  oc : Option Addr
  cc : Nat
  cs : List MC
  ob : Option Addr
  cb : Nat
  bs : List MB
def encC (m : MC) : List Value := .slice m.o m.q.length m.c :: encA m.p
def encB (m : MB) : List Value := [.int .i64 m.v, .slice m.o m.q.length m.c]
def encL (m : ML) : List Value := [.int .i64 m.n, .slice m.oc m.cs.length m.cc, .slice m.ob m.bs.length m.cb]
theorem encC_len (m : MC) : (encC m).length = 7 := by unfold encC; rw [List.length_cons, encA_len]
theorem encB_len (m : MB) : (encB m).length = 2 := rfl
theorem encL_len (m : ML) : (encL m).length = 3 := rfl
theorem encC_eq (m : MC) : encC m = [.slice m.o m.q.length m.c, .int .i64 m.p.k, .int .i64 m.p.v, .int .i64 m.p.n, .string m.p.s, .slice m.p.ol m.p.ls.length m.p.cl, .slice m.p.oa m.p.ps.length m.p.ca] := by unfold encC; rw [encA_eq]
abbrev Cnd := Pth × AP
abbrev Bnd := Int × Pth
def MC.un (m : MC) : Cnd := (m.q, m.p)
def MB.un (m : MB) : Bnd := (m.v, m.q)
structure Ln where
  n : Int
  cs : List Cnd
  bs : List Bnd
def ML.un (m : ML) : Ln := ⟨m.n, m.cs.map MC.un, m.bs.map MB.un⟩
def RdQ (w : World) (o : Option Addr) (c : Nat) (q : Pth) : Prop := Rd w o (flat encX q) ∧ q.length ≤ c ∧ c ≤ maxLen
def RdC (w : World) (m : MC) : Prop := RdQ w m.o m.c m.q ∧ RdA w m.p
def RdB (w : World) (m : MB) : Prop := RdQ w m.o m.c m.q
def RdCs (w : World) (o : Option Addr) (c : Nat) (l : List MC) : Prop := Rd w o (flat encC l) ∧ l.length ≤ c ∧ c ≤ maxLen ∧ ∀ m ∈ l, RdC w m
def RdBs (w : World) (o : Option Addr) (c : Nat) (l : List MB) : Prop := Rd w o (flat encB l) ∧ l.length ≤ c ∧ c ≤ maxLen ∧ ∀ m ∈ l, RdB w m
def RdL (w : World) (m : ML) : Prop := RdCs w m.oc m.cc m.cs ∧ RdBs w m.ob m.cb m.bs
mutual
/-- a condition made plain: conditions, bindings -/
def plP (q : Pth) : AP → List Cnd × List Bnd
  | .mk k v n s ol cl ls oa ca ps => if k = 1 ∨ k = 6 then ([], []) else if k = 2 then ([], [(v, q)]) else if k = 9 then plL q ls ps else ([(q, .mk k v n s ol cl ls oa ca ps)], [])
def plL (q : Pth) : List ByteArray → List AP → List Cnd × List Bnd
  | x :: ls, a :: ps => ((plP (q ++ [x]) a).1 ++ (plL q ls ps).1, (plP (q ++ [x]) a).2 ++ (plL q ls ps).2)
  | [], _ => ([], [])
  | _ :: _, [] => ([], [])
end
def plC (l : List Cnd) : List Cnd × List Bnd := (l.flatMap fun c => (plP c.1 c.2).1, l.flatMap fun c => (plP c.1 c.2).2)
def plain (n : Int) (bs : List Bnd) (cs : List Cnd) : Ln := ⟨n, (plC cs).1, bs ++ (plC cs).2⟩
mutual
/-- how many parts -/
def szA : AP → Nat
  | .mk _ _ _ _ _ _ _ _ _ ps => szL ps + 1
def szL : List AP → Nat
  | [] => 0
  | a :: ps => szA a + szL ps
end
theorem szA_eq (p : AP) : szA p = szL p.ps + 1 := by cases p; rfl
theorem szA_pos (p : AP) : 1 ≤ szA p := by rw [szA_eq]; omega
mutual
theorem sz_parts : ∀ (p : AP) (most : Int), partsP p most ≤ most → partsP p most = szA p
  | .mk k v n s ol cl ls oa ca ps, most, h => by
    rw [partsP] at h ⊢
    rw [sz_partsL ps most 1 h, szA]; omega
theorem sz_partsL : ∀ (ps : List AP) (most n : Int), partsL ps most n ≤ most → partsL ps most n = n + szL ps
  | [], most, n, _ => by rw [partsL, szL]; omega
  | a :: ps, most, n, h => by
    rw [partsL] at h ⊢
    by_cases hn : n ≤ most
    · rw [if_pos hn] at h ⊢
      have h1 := partsL_pos ps most (n + partsP a (most - n))
      rw [sz_partsL ps most _ h, sz_parts a (most - n) (by omega), szL]
      omega
    · rw [if_neg hn, partsL_le ps most n (by omega)] at h
      omega
end
def szC (l : List Cnd) : Nat := (l.map fun c => szA c.2).sum
theorem szC_append (a b : List Cnd) : szC (a ++ b) = szC a + szC b := by unfold szC; rw [List.map_append, List.sum_append]
theorem szC_len (l : List Cnd) : l.length ≤ szC l := by
  induction l with
  | nil => exact Nat.zero_le _
  | cons c l ih => unfold szC at *; rw [List.length_cons, List.map_cons, List.sum_cons]; have := szA_pos c.2; omega
mutual
/-- what is made plain is no more -/
theorem pl_sz : ∀ (q : Pth) (p : AP), szC (plP q p).1 + (plP q p).2.length ≤ szA p
  | q, .mk k v n s ol cl ls oa ca ps => by
    rw [plP]
    split
    · exact Nat.zero_le _
    · split
      · rw [szA]; show 0 + 1 ≤ _; omega
      · split
        · have := plL_sz q ls ps
          rw [szA]; omega
        · exact Nat.le_of_eq (show szA (AP.mk k v n s ol cl ls oa ca ps) + 0 + 0 = _ from rfl)
theorem plL_sz : ∀ (q : Pth) (ls : List ByteArray) (ps : List AP), szC (plL q ls ps).1 + (plL q ls ps).2.length ≤ szL ps
  | q, x :: ls, a :: ps => by
    rw [plL, szC_append, List.length_append, szL]
    have := pl_sz (q ++ [x]) a
    have := plL_sz q ls ps
    omega
  | q, [], _ => by rw [plL]; exact Nat.zero_le _
  | q, _ :: _, [] => by rw [plL]; exact Nat.zero_le _
end
mutual
/-- paths are short: what is below them counts with them -/
theorem pl_path : ∀ (q : Pth) (p : AP), (∀ c ∈ (plP q p).1, c.1.length + szA c.2 ≤ q.length + szA p) ∧ ∀ b ∈ (plP q p).2, b.2.length + 1 ≤ q.length + szA p
  | q, .mk k v n s ol cl ls oa ca ps => by
    rw [plP]
    split
    · exact ⟨fun c h => absurd h (List.not_mem_nil), fun b h => absurd h (List.not_mem_nil)⟩
    · split
      · refine ⟨fun c h => absurd h (List.not_mem_nil), fun b h => ?_⟩
        rw [List.mem_singleton] at h
        subst h
        rw [szA]; show q.length + 1 ≤ _; omega
      · split
        · have := plL_path q ls ps
          rw [szA]
          exact ⟨fun c h => by have := this.1 c h; omega, fun b h => by have := this.2 b h; omega⟩
        · refine ⟨fun c h => ?_, fun b h => absurd h (List.not_mem_nil)⟩
          rw [List.mem_singleton] at h
          subst h
          exact Nat.le_refl _
theorem plL_path : ∀ (q : Pth) (ls : List ByteArray) (ps : List AP), (∀ c ∈ (plL q ls ps).1, c.1.length + szA c.2 ≤ q.length + szL ps + 1) ∧ ∀ b ∈ (plL q ls ps).2, b.2.length + 1 ≤ q.length + szL ps + 1
  | q, x :: ls, a :: ps => by
    rw [plL, szL]
    have h1 := pl_path (q ++ [x]) a
    have h2 := plL_path q ls ps
    rw [List.length_append] at h1
    constructor
    · intro c h
      rcases List.mem_append.1 h with h | h
      · have := h1.1 c h; simp at this; omega
      · have := h2.1 c h; omega
    · intro c h
      rcases List.mem_append.1 h with h | h
      · have := h1.2 c h; simp at this; omega
      · have := h2.2 c h; omega
  | q, [], _ => by rw [plL]; exact ⟨fun c h => absurd h (List.not_mem_nil), fun b h => absurd h (List.not_mem_nil)⟩
  | q, _ :: _, [] => by rw [plL]; exact ⟨fun c h => absurd h (List.not_mem_nil), fun b h => absurd h (List.not_mem_nil)⟩
end
end Go.Proofs.Ytcododdkjppmjaa
namespace Go.Fw
open Go Go.RowKit
section
variable {P : Program} {N : Nat} {l : List (Nat × Value)} {C : World → Prop} {d : Option Tmp} {T : TypeId} {pos : String} {af : Array Edge} {g : Option (Nat × Bool)}
/-- s[:j:k] -/
theorem ex_slice_hm {t e sz by_ j k n c : Nat} {z : Value} {zs : List Value} {x y2 y3 : Operand} {o : Option Addr} {kd2 kd3 : IntKind} {m2 m3 : Int} [ht : TSl P t e] [hi : TIf P e z zs sz by_]
    (hx : ev l x = some (.slice o n c)) (hy2 : ev l y2 = some (.int kd2 m2)) (hy3 : ev l y3 = some (.int kd3 m3)) (hk2 : m2 = (j : Int)) (hk3 : m3 = (k : Int)) (hjk : j ≤ k) (hkc : k ≤ c) :
    Ex P N l C ⟨d, .slice t x none (some y2) (some y3), T, pos, af, g⟩ (.slice o j k) := by
  intro a w hA _
  subst hk2; subst hk3
  obtain ⟨ti, h3, h4, h5, h6⟩ := hi.eq
  have h0 : (k : Int) ≤ (c : Int) := by omega
  have h1 : (j : Int) ≤ (k : Int) := by omega
  have ho : Option.map (fun x : Addr => x.add 0) o = o := by cases o <;> simp [Addr.add]
  simp only [execOp, hA.ev hx, Instr.sliceAt, Sem.run_bind, run_underlying ht.eq, Result.andThen_ok, Instr.slice, Instr.sliceBounds, Option.map_some, Option.map_none, Sem.run_pure, hA.ev hy2, hA.ev hy3, Instr.sliceBound, asIntOf]
  simp [h0, h1, hjk, hkc, sizeOf, typeInfo, h3, h5]
  exact fun _ => ho
end
theorem HS.own_none {w0 w : World} {M : Nat → Prop} {H : List It} {T sz n c : Nat} {xs : List Value} (h : HS w0 M H w) (hm : own T sz none n c xs ∈ H) : n = 0 ∧ c = 0 ∧ xs = [] := by
  obtain ⟨F, hF⟩ := h.sat hm
  rcases hF with ⟨_, h1, h2, h3, _⟩ | ⟨b, spare, h1, _⟩
  · exact ⟨h1, h2, h3⟩
  · cases h1
/-- a struct result out of its cell -/
theorem rt1c {P : Program} {N : Nat} {l : List (Nat × Value)} {a : Act} {w : World} {C : World → Prop} {fn : Func} {R : Value → World → Prop} {p : Tmp} {ty sz by_ : Nat} {z : Value} {zs : List Value} {fl : List (Nat × Nat)} {q : Addr} {vs : List Value} {e : Exit} [h0 : TSt P ty fl] [hi : TIf P ty z zs sz by_] (he : e = .ret ∨ e = .normal) (hr : fn.results = #[.cell p ty]) (hA : Sl N l a)
    (hp : lk l p = some (.pointer (some q))) (hl : vs.length = sz) (hC : C w) (hc : Cls C q vs) (h : R (.agg vs.toArray) w) : bodyPost P fn (fun e w' => ∃ v, e = .returned v ∧ R v w') e a w := by
  have hg : a.tmps.getD p undef = .pointer (some q) := by simp [Array.getD_eq_getD_getElem?, hA.get p _ hp]
  obtain ⟨ti, h3, h4, h5, h6⟩ := hi.eq
  have hrun : (results fn a.tmps).run P w = .ok (.agg vs.toArray) w := by
    have hg' : a.tmps[p]?.getD undef = .pointer (some q) := by simpa using hg
    simp [results, hr, hg', asAddr, loadVar, run_isAgg_st, sizeOf, typeInfo, h3, h5, ← hl, run_loadCells_list w q vs (hc w hC), Result.andThen]
  rcases he with rfl | rfl
  · exact bodyPost_ret hrun hA.defers ⟨_, rfl, h⟩
  · exact bodyPost_end hrun hA.defers ⟨_, rfl, h⟩
/-- the sizes of a struct's fields -/
def Szs (P : Program) : List (Nat × Nat) → List (Nat × Nat) → Prop
  | [], [] => True
  | p :: fl, s :: szs => (s.1 = p.2 ∧ ∃ i, P.info? p.1 = some i ∧ i.size = s.2) ∧ Szs P fl szs
  | _, _ => False
theorem size_of (P : Program) (a : Nat) {z : Value} {zs : List Value} {sz by_ : Nat} [hi : TIf P a z zs sz by_] (b : Nat) : (b = b) ∧ ∃ i, P.info? a = some i ∧ i.size = sz :=
  let ⟨i, h1, _, h3, _⟩ := hi.eq
  ⟨rfl, i, h1, h3⟩
section
variable {P : Program} {N : Nat} {l : List (Nat × Value)} {C : World → Prop} {d : Option Tmp} {T : TypeId} {pos : String} {af : Array Edge} {g : Option (Nat × Bool)}
theorem ex_build_g {t sz by_ : Nat} {z : Value} {zs : List Value} {fl : List (Nat × Nat)} {ps : Array (Nat × Operand)} {vs : List Value} (szs : List (Nat × Nat)) (cs : Array Value) [h : TSt P t fl] [hi : TIf P t z zs sz by_]
    (hv : evL l (ps.toList.map (·.2)) = some vs) (hsz : Szs P fl szs) (hf : Instr.fill (szs[·]?) zs.toArray ((ps.toList.map (·.1)).zip vs) = some cs) :
    Ex P N l C ⟨d, .build t ps, T, pos, af, g⟩ (.agg cs) := by
  have hrun : ∀ (fl szs : List (Nat × Nat)) (w : World), Szs P fl szs → (fl.mapM (fun p => do pure (p.2, ← sizeOf p.1)) : Sem (List (Nat × Nat))).run P w = .ok szs w := by
    intro fl
    induction fl with
    | nil =>
      intro szs w hs
      cases szs with
      | nil => simp
      | cons => exact hs.elim
    | cons p fl ih =>
      intro szs w hs
      cases szs with
      | nil => exact hs.elim
      | cons s szs =>
        obtain ⟨⟨h1, i, h2, h3⟩, h4⟩ := hs
        have := ih szs w h4
        simp only [List.mapM_cons, Sem.run_bind, sizeOf, typeInfo, run_program, Result.andThen_ok, h2, Sem.run_pure, h3] at this ⊢
        rw [this]
        simp [← h1]
  have hzc : z.cells = zs.toArray := by apply Array.ext'; simpa using hi.zc
  exact ex_build (szs := szs) (fun w => hrun fl szs w hsz) hv (by rw [hzc]; exact hf)
theorem fold_put : ∀ (us zs done pre post : List Value), us.length = zs.length → ((us.zipIdx done.length).foldl (fun (acc : Array Value) (x : Value × Nat) => acc.setIfInBounds (pre.length + x.2) x.1) (pre ++ (done ++ (zs ++ post))).toArray) = (pre ++ (done ++ (us ++ post))).toArray
  | [], zs, done, pre, post, h => by
    obtain rfl : zs = [] := by simpa using h.symm
    simp
  | c :: us, [], done, pre, post, h => by simp at h
  | c :: us, z :: zs, done, pre, post, h => by
    have ih := fold_put us zs (done ++ [c]) pre post (by simpa using h)
    simp only [List.length_append, List.length_cons, List.length_nil] at ih
    simp only [List.zipIdx_cons, List.foldl_cons]
    have e : (pre ++ (done ++ (z :: zs ++ post))).toArray.setIfInBounds (pre.length + done.length) c = (pre ++ (done ++ [c] ++ (zs ++ post))).toArray := by
      apply Array.ext'
      simp [List.set_append]
    rw [e, ih]
    simp
theorem fill_seg {place : Nat → Option (Nat × Nat)} {pre zs post us : List Value} {v : Value} {i : Nat} {rest : List (Nat × Value)} (hv : v.cells = us.toArray) (hp : place i = some (pre.length, us.length)) (hz : zs.length = us.length) :
    Instr.fill place (pre ++ (zs ++ post)).toArray ((i, v) :: rest) = Instr.fill place (pre ++ (us ++ post)).toArray rest := by
  have h1 := fold_put us zs [] pre post hz.symm
  have hc : v.cells.size = us.length := by rw [hv]; simp
  rw [Instr.fill, hp]
  simp only
  rw [if_neg (by
    rw [hc]
    simp
    omega)]
  congr 1
  rw [hv, ← Array.foldl_toList]
  simpa using h1
/-- a struct literal of two fields: one cell, and many -/
theorem ex_build_12 {t n by_ : Nat} {z : Value} {z0 : Value} {zs : List Value} {fl : List (Nat × Nat)} {x y : Operand} {v : Value} {us : List Value} [h : TSt P t fl] [hi : TIf P t z (z0 :: zs) (n + 1) by_]
    (hx : ev l x = some v) (hy : ev l y = some (.agg us.toArray)) (h1 : v.oneCell' = true) (hn : us.length = n) (hzn : zs.length = n) (hsz : Szs P fl [(0, 1), (1, n)]) :
    Ex P N l C ⟨d, .build t #[(0, x), (1, y)], T, pos, af, g⟩ (.agg (v :: us).toArray) := by
  subst hn
  refine ex_build_g (vs := [v, .agg us.toArray]) [(0, 1), (1, us.length)] (v :: us).toArray ?_ hsz ?_
  · show evL l [x, y] = _
    simp [evL, hx, hy]
  · show Instr.fill _ (z0 :: zs).toArray [(0, v), (1, .agg us.toArray)] = _
    have e1 := fill_seg (place := (([(0, 1), (1, us.length)] : List (Nat × Nat))[·]?)) (pre := []) (zs := [z0]) (post := zs) (us := [v]) (v := v) (i := 0) (rest := [(1, .agg us.toArray)]) (one_cells h1) rfl rfl
    have e2 := fill_seg (place := (([(0, 1), (1, us.length)] : List (Nat × Nat))[·]?)) (pre := [v]) (zs := zs) (post := []) (us := us) (v := .agg us.toArray) (i := 1) (rest := []) rfl rfl hzn
    simp only [List.nil_append, List.cons_append, List.append_nil] at e1 e2
    rw [e1, e2]
    rfl
end
end Go.Fw
namespace Go.Proofs.Ytcododdkjppmjaa
open Go Go.Fw
set_option linter.unusedVariables false
structure Hd where
  k : Int
  n : Int
  s : ByteArray
deriving DecidableEq
def AP.hd (p : AP) : Hd := ⟨p.k, p.n, p.s⟩
def Hd.ap (h : Hd) : AP := .mk h.k 0 h.n h.s none 0 [] none 0 []
theorem isP_yes {a b : AP} (h1 : a.k = b.k) (h2 : a.n = b.n) (h3 : a.s = b.s) : a.hd = b.hd := by unfold AP.hd; rw [h1, h2, h3]
theorem isP_k {a b : AP} (h1 : a.k ≠ b.k) : a.hd ≠ b.hd := fun h => h1 (congrArg Hd.k h)
theorem isP_n {a b : AP} (h1 : a.n ≠ b.n) : a.hd ≠ b.hd := fun h => h1 (congrArg Hd.n h)
theorem encX_one (l : List ByteArray) : (flat encX l).all (·.oneCell') = true := flat_one_cell (fun _ => rfl) l
set_option maxRecDepth 10000 attribute [local irreducible] Code.wp wpList Calls Ex Op1 sat bat blk cb own Go.Fw.mp Go.Fw.mpO Go.Fw.mpI Go.Fw.mpE Go.Fw.itr HS Rd Ret wkD Hp Cl Cls Exit.then Exit.inBlock Exit.noGoto bodyPost Go.Fw.flat wk2 Go.Fw.all Go.Fw.owns wpOp
attribute [local irreducible] encA

theorem cloneX_spec (w0 : World) (o : Option Addr) (n c : Nat) (xs : List Value) (hr : Rd w0 o xs) (hl : xs.length = n * 1) (h1 : xs.all (·.oneCell') = true) (ho : o = none → n = 0) (hn : n ≤ 1048576) :
    Ret Try.prog 40 #[.slice o n c] w0 (fun v w => ∃ o' c', v = .slice o' n c' ∧ HS w0 noM [own 9 1 o' n c' xs] w) := by
  have hH : HS w0 noM [] w0 := HS.init w0 noM
  (refine enter (N := 8) Try.func40 rfl Try.ntmps40 rfl ?_; intro a hA; dsimp only [sl0, Nat.reduceAdd] at hA)
  cases o with
  | none =>
    obtain rfl := ho rfl
    have hx : xs = [] := List.length_eq_zero_iff.1 (by simpa using hl)
    subst hx
    repeat' (first | (first | (refine GT ?_ ?_ <;> intro hg <;> clear hA a <;> intro a hA <;> (first | exact FA | replace hg := of_decide_eq_true hg | replace hg := of_decide_eq_false hg | skip)) | ((first | apply st_ex hA hH rfl rfl (by decide) | apply dr_ex hA rfl rfl rfl (by decide) | apply dr_exp hA rfl rfl rfl (by decide) | apply dr_ex3 hA hH rfl rfl rfl (by decide)); (first | (apply ex_eqlNil; rfl; rfl)); clear hA a; intro a hA) | (refine QT ?_; clear hA a; intro a hA) | (first | (refine BT ?_; clear hA hH; rintro _ w ⟨bN, rfl, hH⟩ a hA) | (refine LT ?_; clear hA hH; rintro _ w ⟨oN, rfl, hH⟩ a hA) | (refine AT ?_; clear hA; rintro _ w ⟨oN, cN, rfl, hH2⟩ a hA; clear hH; have hH := (hH2 _ (by (repeat constructor))).tail; clear hH2) | (refine S0T ?_; clear hH; rintro _ w hH) )) | ((first | refine CT ?_ | (refine DT ?_ ?_ <;> intro hc <;> try (exfalso; omega))) <;> repeat' refine CT ?_) | (first | (refine DSK ?_; clear hA a; intro a hA) | (first | (refine DLT ?_; clear hA hH; rintro _ w ⟨oN, rfl, hH⟩; refine ⟨STT, ?_⟩; intro a hA) | (refine DAT ?_; clear hA; rintro _ w ⟨oN, cN, rfl, hH2⟩; clear hH; have hH := (hH2 _ (by (repeat constructor))).tail; clear hH2; refine ⟨STT, ?_⟩; intro a hA))) )
    exact rt1 (.inl rfl) rfl hA rfl ⟨none, 0, rfl, hH.nil_own 9 1⟩
  | some ad =>
    repeat' (first | (first | (refine GT ?_ ?_ <;> intro hg <;> clear hA a <;> intro a hA <;> (first | exact FA | replace hg := of_decide_eq_true hg | replace hg := of_decide_eq_false hg | skip)) | ((first | apply st_ex hA hH rfl rfl (by decide) | apply dr_ex hA rfl rfl rfl (by decide) | apply dr_exp hA rfl rfl rfl (by decide) | apply dr_ex3 hA hH rfl rfl rfl (by decide)); (first | (apply ex_eqlNil; rfl; rfl)); clear hA a; intro a hA) | (refine QT ?_; clear hA a; intro a hA) | (first | (refine BT ?_; clear hA hH; rintro _ w ⟨bN, rfl, hH⟩ a hA) | (refine LT ?_; clear hA hH; rintro _ w ⟨oN, rfl, hH⟩ a hA) | (refine AT ?_; clear hA; rintro _ w ⟨oN, cN, rfl, hH2⟩ a hA; clear hH; have hH := (hH2 _ (by (repeat constructor))).tail; clear hH2) | (refine S0T ?_; clear hH; rintro _ w hH) | (apply st_op hA rfl rfl (by decide); apply op_append; rfl; rfl; exact hH; exact MEMT; exact hH.rd hr id; exact hl; rfl; decide; exact h1; (unfold maxLen; omega); omega; clear hA; rintro _ w ⟨oN, cN, rfl, hH2⟩ a hA; clear hH; have hH := hH2 _ (by (repeat constructor)); clear hH2))) | ((first | refine CT ?_ | (refine DT ?_ ?_ <;> intro hc <;> try (exfalso; omega))) <;> repeat' refine CT ?_) | (first | (refine DSK ?_; clear hA a; intro a hA) | (first | (refine DLT ?_; clear hA hH; rintro _ w ⟨oN, rfl, hH⟩; refine ⟨STT, ?_⟩; intro a hA) | (refine DAT ?_; clear hA; rintro _ w ⟨oN, cN, rfl, hH2⟩; clear hH; have hH := (hH2 _ (by (repeat constructor))).tail; clear hH2; refine ⟨STT, ?_⟩; intro a hA))) )
    rw [List.nil_append, Nat.zero_add] at hH
    rw [Nat.zero_add] at hA
    exact rt1 (.inl rfl) rfl hA rfl ⟨_, _, rfl, hH⟩

theorem cloneA_spec (w0 : World) (o : Option Addr) (n c : Nat) (xs : List Value) (hr : Rd w0 o xs) (hl : xs.length = n * 6) (h1 : xs.all (·.oneCell') = true) (ho : o = none → n = 0) (hn : n ≤ 1048576) :
    Ret Try.prog 51 #[.slice o n c] w0 (fun v w => ∃ o' c', v = .slice o' n c' ∧ HS w0 noM [own 38 6 o' n c' xs] w) := by
  have hH : HS w0 noM [] w0 := HS.init w0 noM
  (refine enter (N := 8) Try.func51 rfl Try.ntmps51 rfl ?_; intro a hA; dsimp only [sl0, Nat.reduceAdd] at hA)
  cases o with
  | none =>
    obtain rfl := ho rfl
    have hx : xs = [] := List.length_eq_zero_iff.1 (by simpa using hl)
    subst hx
    repeat' (first | (first | (refine GT ?_ ?_ <;> intro hg <;> clear hA a <;> intro a hA <;> (first | exact FA | replace hg := of_decide_eq_true hg | replace hg := of_decide_eq_false hg | skip)) | ((first | apply st_ex hA hH rfl rfl (by decide) | apply dr_ex hA rfl rfl rfl (by decide) | apply dr_exp hA rfl rfl rfl (by decide) | apply dr_ex3 hA hH rfl rfl rfl (by decide)); (first | (apply ex_eqlNil; rfl; rfl)); clear hA a; intro a hA) | (refine QT ?_; clear hA a; intro a hA) | (first | (refine BT ?_; clear hA hH; rintro _ w ⟨bN, rfl, hH⟩ a hA) | (refine LT ?_; clear hA hH; rintro _ w ⟨oN, rfl, hH⟩ a hA) | (refine AT ?_; clear hA; rintro _ w ⟨oN, cN, rfl, hH2⟩ a hA; clear hH; have hH := (hH2 _ (by (repeat constructor))).tail; clear hH2) | (refine S0T ?_; clear hH; rintro _ w hH) )) | ((first | refine CT ?_ | (refine DT ?_ ?_ <;> intro hc <;> try (exfalso; omega))) <;> repeat' refine CT ?_) | (first | (refine DSK ?_; clear hA a; intro a hA) | (first | (refine DLT ?_; clear hA hH; rintro _ w ⟨oN, rfl, hH⟩; refine ⟨STT, ?_⟩; intro a hA) | (refine DAT ?_; clear hA; rintro _ w ⟨oN, cN, rfl, hH2⟩; clear hH; have hH := (hH2 _ (by (repeat constructor))).tail; clear hH2; refine ⟨STT, ?_⟩; intro a hA))) )
    exact rt1 (.inl rfl) rfl hA rfl ⟨none, 0, rfl, hH.nil_own 38 6⟩
  | some ad =>
    repeat' (first | (first | (refine GT ?_ ?_ <;> intro hg <;> clear hA a <;> intro a hA <;> (first | exact FA | replace hg := of_decide_eq_true hg | replace hg := of_decide_eq_false hg | skip)) | ((first | apply st_ex hA hH rfl rfl (by decide) | apply dr_ex hA rfl rfl rfl (by decide) | apply dr_exp hA rfl rfl rfl (by decide) | apply dr_ex3 hA hH rfl rfl rfl (by decide)); (first | (apply ex_eqlNil; rfl; rfl)); clear hA a; intro a hA) | (refine QT ?_; clear hA a; intro a hA) | (first | (refine BT ?_; clear hA hH; rintro _ w ⟨bN, rfl, hH⟩ a hA) | (refine LT ?_; clear hA hH; rintro _ w ⟨oN, rfl, hH⟩ a hA) | (refine AT ?_; clear hA; rintro _ w ⟨oN, cN, rfl, hH2⟩ a hA; clear hH; have hH := (hH2 _ (by (repeat constructor))).tail; clear hH2) | (refine S0T ?_; clear hH; rintro _ w hH) | (apply st_op hA rfl rfl (by decide); apply op_append; rfl; rfl; exact hH; exact MEMT; exact hH.rd hr id; exact hl; rfl; decide; exact h1; (unfold maxLen; omega); omega; clear hA; rintro _ w ⟨oN, cN, rfl, hH2⟩ a hA; clear hH; have hH := hH2 _ (by (repeat constructor)); clear hH2))) | ((first | refine CT ?_ | (refine DT ?_ ?_ <;> intro hc <;> try (exfalso; omega))) <;> repeat' refine CT ?_) | (first | (refine DSK ?_; clear hA a; intro a hA) | (first | (refine DLT ?_; clear hA hH; rintro _ w ⟨oN, rfl, hH⟩; refine ⟨STT, ?_⟩; intro a hA) | (refine DAT ?_; clear hA; rintro _ w ⟨oN, cN, rfl, hH2⟩; clear hH; have hH := (hH2 _ (by (repeat constructor))).tail; clear hH2; refine ⟨STT, ?_⟩; intro a hA))) )
    rw [List.nil_append, Nat.zero_add] at hH
    rw [Nat.zero_add] at hA
    exact rt1 (.inl rfl) rfl hA rfl ⟨_, _, rfl, hH⟩

theorem cloneC_spec (w0 : World) (o : Option Addr) (n c : Nat) (xs : List Value) (hr : Rd w0 o xs) (hl : xs.length = n * 7) (h1 : xs.all (·.oneCell') = true) (ho : o = none → n = 0) (hn : n ≤ 1048576) :
    Ret Try.prog 56 #[.slice o n c] w0 (fun v w => ∃ o' c', v = .slice o' n c' ∧ HS w0 noM [own 55 7 o' n c' xs] w) := by
  have hH : HS w0 noM [] w0 := HS.init w0 noM
  (refine enter (N := 8) Try.func56 rfl Try.ntmps56 rfl ?_; intro a hA; dsimp only [sl0, Nat.reduceAdd] at hA)
  cases o with
  | none =>
    obtain rfl := ho rfl
    have hx : xs = [] := List.length_eq_zero_iff.1 (by simpa using hl)
    subst hx
    repeat' (first | (first | (refine GT ?_ ?_ <;> intro hg <;> clear hA a <;> intro a hA <;> (first | exact FA | replace hg := of_decide_eq_true hg | replace hg := of_decide_eq_false hg | skip)) | ((first | apply st_ex hA hH rfl rfl (by decide) | apply dr_ex hA rfl rfl rfl (by decide) | apply dr_exp hA rfl rfl rfl (by decide) | apply dr_ex3 hA hH rfl rfl rfl (by decide)); (first | (apply ex_eqlNil; rfl; rfl)); clear hA a; intro a hA) | (refine QT ?_; clear hA a; intro a hA) | (first | (refine BT ?_; clear hA hH; rintro _ w ⟨bN, rfl, hH⟩ a hA) | (refine LT ?_; clear hA hH; rintro _ w ⟨oN, rfl, hH⟩ a hA) | (refine AT ?_; clear hA; rintro _ w ⟨oN, cN, rfl, hH2⟩ a hA; clear hH; have hH := (hH2 _ (by (repeat constructor))).tail; clear hH2) | (refine S0T ?_; clear hH; rintro _ w hH) )) | ((first | refine CT ?_ | (refine DT ?_ ?_ <;> intro hc <;> try (exfalso; omega))) <;> repeat' refine CT ?_) | (first | (refine DSK ?_; clear hA a; intro a hA) | (first | (refine DLT ?_; clear hA hH; rintro _ w ⟨oN, rfl, hH⟩; refine ⟨STT, ?_⟩; intro a hA) | (refine DAT ?_; clear hA; rintro _ w ⟨oN, cN, rfl, hH2⟩; clear hH; have hH := (hH2 _ (by (repeat constructor))).tail; clear hH2; refine ⟨STT, ?_⟩; intro a hA))) )
    exact rt1 (.inl rfl) rfl hA rfl ⟨none, 0, rfl, hH.nil_own 55 7⟩
  | some ad =>
    repeat' (first | (first | (refine GT ?_ ?_ <;> intro hg <;> clear hA a <;> intro a hA <;> (first | exact FA | replace hg := of_decide_eq_true hg | replace hg := of_decide_eq_false hg | skip)) | ((first | apply st_ex hA hH rfl rfl (by decide) | apply dr_ex hA rfl rfl rfl (by decide) | apply dr_exp hA rfl rfl rfl (by decide) | apply dr_ex3 hA hH rfl rfl rfl (by decide)); (first | (apply ex_eqlNil; rfl; rfl)); clear hA a; intro a hA) | (refine QT ?_; clear hA a; intro a hA) | (first | (refine BT ?_; clear hA hH; rintro _ w ⟨bN, rfl, hH⟩ a hA) | (refine LT ?_; clear hA hH; rintro _ w ⟨oN, rfl, hH⟩ a hA) | (refine AT ?_; clear hA; rintro _ w ⟨oN, cN, rfl, hH2⟩ a hA; clear hH; have hH := (hH2 _ (by (repeat constructor))).tail; clear hH2) | (refine S0T ?_; clear hH; rintro _ w hH) | (apply st_op hA rfl rfl (by decide); apply op_append; rfl; rfl; exact hH; exact MEMT; exact hH.rd hr id; exact hl; rfl; decide; exact h1; (unfold maxLen; omega); omega; clear hA; rintro _ w ⟨oN, cN, rfl, hH2⟩ a hA; clear hH; have hH := hH2 _ (by (repeat constructor)); clear hH2))) | ((first | refine CT ?_ | (refine DT ?_ ?_ <;> intro hc <;> try (exfalso; omega))) <;> repeat' refine CT ?_) | (first | (refine DSK ?_; clear hA a; intro a hA) | (first | (refine DLT ?_; clear hA hH; rintro _ w ⟨oN, rfl, hH⟩; refine ⟨STT, ?_⟩; intro a hA) | (refine DAT ?_; clear hA; rintro _ w ⟨oN, cN, rfl, hH2⟩; clear hH; have hH := (hH2 _ (by (repeat constructor))).tail; clear hH2; refine ⟨STT, ?_⟩; intro a hA))) )
    rw [List.nil_append, Nat.zero_add] at hH
    rw [Nat.zero_add] at hA
    exact rt1 (.inl rfl) rfl hA rfl ⟨_, _, rfl, hH⟩

theorem cloneB_spec (w0 : World) (o : Option Addr) (n c : Nat) (xs : List Value) (hr : Rd w0 o xs) (hl : xs.length = n * 2) (h1 : xs.all (·.oneCell') = true) (ho : o = none → n = 0) (hn : n ≤ 1048576) :
    Ret Try.prog 37 #[.slice o n c] w0 (fun v w => ∃ o' c', v = .slice o' n c' ∧ HS w0 noM [own 72 2 o' n c' xs] w) := by
  have hH : HS w0 noM [] w0 := HS.init w0 noM
  (refine enter (N := 8) Try.func37 rfl Try.ntmps37 rfl ?_; intro a hA; dsimp only [sl0, Nat.reduceAdd] at hA)
  cases o with
  | none =>
    obtain rfl := ho rfl
    have hx : xs = [] := List.length_eq_zero_iff.1 (by simpa using hl)
    subst hx
    repeat' (first | (first | (refine GT ?_ ?_ <;> intro hg <;> clear hA a <;> intro a hA <;> (first | exact FA | replace hg := of_decide_eq_true hg | replace hg := of_decide_eq_false hg | skip)) | ((first | apply st_ex hA hH rfl rfl (by decide) | apply dr_ex hA rfl rfl rfl (by decide) | apply dr_exp hA rfl rfl rfl (by decide) | apply dr_ex3 hA hH rfl rfl rfl (by decide)); (first | (apply ex_eqlNil; rfl; rfl)); clear hA a; intro a hA) | (refine QT ?_; clear hA a; intro a hA) | (first | (refine BT ?_; clear hA hH; rintro _ w ⟨bN, rfl, hH⟩ a hA) | (refine LT ?_; clear hA hH; rintro _ w ⟨oN, rfl, hH⟩ a hA) | (refine AT ?_; clear hA; rintro _ w ⟨oN, cN, rfl, hH2⟩ a hA; clear hH; have hH := (hH2 _ (by (repeat constructor))).tail; clear hH2) | (refine S0T ?_; clear hH; rintro _ w hH) )) | ((first | refine CT ?_ | (refine DT ?_ ?_ <;> intro hc <;> try (exfalso; omega))) <;> repeat' refine CT ?_) | (first | (refine DSK ?_; clear hA a; intro a hA) | (first | (refine DLT ?_; clear hA hH; rintro _ w ⟨oN, rfl, hH⟩; refine ⟨STT, ?_⟩; intro a hA) | (refine DAT ?_; clear hA; rintro _ w ⟨oN, cN, rfl, hH2⟩; clear hH; have hH := (hH2 _ (by (repeat constructor))).tail; clear hH2; refine ⟨STT, ?_⟩; intro a hA))) )
    exact rt1 (.inl rfl) rfl hA rfl ⟨none, 0, rfl, hH.nil_own 72 2⟩
  | some ad =>
    repeat' (first | (first | (refine GT ?_ ?_ <;> intro hg <;> clear hA a <;> intro a hA <;> (first | exact FA | replace hg := of_decide_eq_true hg | replace hg := of_decide_eq_false hg | skip)) | ((first | apply st_ex hA hH rfl rfl (by decide) | apply dr_ex hA rfl rfl rfl (by decide) | apply dr_exp hA rfl rfl rfl (by decide) | apply dr_ex3 hA hH rfl rfl rfl (by decide)); (first | (apply ex_eqlNil; rfl; rfl)); clear hA a; intro a hA) | (refine QT ?_; clear hA a; intro a hA) | (first | (refine BT ?_; clear hA hH; rintro _ w ⟨bN, rfl, hH⟩ a hA) | (refine LT ?_; clear hA hH; rintro _ w ⟨oN, rfl, hH⟩ a hA) | (refine AT ?_; clear hA; rintro _ w ⟨oN, cN, rfl, hH2⟩ a hA; clear hH; have hH := (hH2 _ (by (repeat constructor))).tail; clear hH2) | (refine S0T ?_; clear hH; rintro _ w hH) | (apply st_op hA rfl rfl (by decide); apply op_append; rfl; rfl; exact hH; exact MEMT; exact hH.rd hr id; exact hl; rfl; decide; exact h1; (unfold maxLen; omega); omega; clear hA; rintro _ w ⟨oN, cN, rfl, hH2⟩ a hA; clear hH; have hH := hH2 _ (by (repeat constructor)); clear hH2))) | ((first | refine CT ?_ | (refine DT ?_ ?_ <;> intro hc <;> try (exfalso; omega))) <;> repeat' refine CT ?_) | (first | (refine DSK ?_; clear hA a; intro a hA) | (first | (refine DLT ?_; clear hA hH; rintro _ w ⟨oN, rfl, hH⟩; refine ⟨STT, ?_⟩; intro a hA) | (refine DAT ?_; clear hA; rintro _ w ⟨oN, cN, rfl, hH2⟩; clear hH; have hH := (hH2 _ (by (repeat constructor))).tail; clear hH2; refine ⟨STT, ?_⟩; intro a hA))) )
    rw [List.nil_append, Nat.zero_add] at hH
    rw [Nat.zero_add] at hA
    exact rt1 (.inl rfl) rfl hA rfl ⟨_, _, rfl, hH⟩

theorem clip_spec (w0 : World) (o : Option Addr) (n c : Nat) (h : n ≤ c) : Ret Try.prog 52 #[.slice o n c] w0 (fun v w => v = .slice o n n ∧ Kp w0 noM w) := by
  have hH : HS w0 noM [] w0 := HS.init w0 noM
  (refine enter (N := 9) Try.func52 rfl Try.ntmps52 rfl ?_; intro a hA; dsimp only [sl0, Nat.reduceAdd] at hA)
  repeat' (first | (first | (refine GT ?_ ?_ <;> intro hg <;> clear hA a <;> intro a hA <;> (first | exact FA | replace hg := of_decide_eq_true hg | replace hg := of_decide_eq_false hg | skip)) | ((first | apply st_ex hA hH rfl rfl (by decide) | apply dr_ex hA rfl rfl rfl (by decide) | apply dr_exp hA rfl rfl rfl (by decide) | apply dr_ex3 hA hH rfl rfl rfl (by decide)); (first | (apply ex_slice_hm (j := n) (k := n); rfl; rfl; rfl; rfl; rfl; omega; exact h)); clear hA a; intro a hA) | (refine QT ?_; clear hA a; intro a hA) | (first | (refine BT ?_; clear hA hH; rintro _ w ⟨bN, rfl, hH⟩ a hA) | (refine LT ?_; clear hA hH; rintro _ w ⟨oN, rfl, hH⟩ a hA) | (refine AT ?_; clear hA; rintro _ w ⟨oN, cN, rfl, hH2⟩ a hA; clear hH; have hH := (hH2 _ (by (repeat constructor))).tail; clear hH2) | (refine S0T ?_; clear hH; rintro _ w hH) )) | ((first | refine CT ?_ | (refine DT ?_ ?_ <;> intro hc <;> try (exfalso; omega))) <;> repeat' refine CT ?_) | (first | (refine DSK ?_; clear hA a; intro a hA) | (first | (refine DLT ?_; clear hA hH; rintro _ w ⟨oN, rfl, hH⟩; refine ⟨STT, ?_⟩; intro a hA) | (refine DAT ?_; clear hA; rintro _ w ⟨oN, cN, rfl, hH2⟩; clear hH; have hH := (hH2 _ (by (repeat constructor))).tail; clear hH2; refine ⟨STT, ?_⟩; intro a hA))) )
  exact rt1 (.inl rfl) rfl hA rfl ⟨rfl, hH.kp⟩
theorem to_spec (w0 : World) (o : Option Addr) (c : Nat) (q : Pth) (x : ByteArray) (hq : RdQ w0 o c q) (hn : q.length ≤ 100000) :
    Ret Try.prog 39 #[.slice o q.length c, .string x] w0 (fun v w => ∃ o' c', v = .slice o' (q ++ [x]).length c' ∧ HS w0 noM [own 9 1 o' (q ++ [x]).length c' (flat encX (q ++ [x]))] w) := by
  have hH : HS w0 noM [] w0 := HS.init w0 noM
  obtain ⟨hr, hc1, hc2⟩ := hq
  have hl := flat_length encX_len q
  have hsp : Sp o q.length := hr.sp (sz := 1) hl (by omega)
  (refine enter (N := 11) Try.func39 rfl Try.ntmps39 rfl ?_; intro a hA; dsimp only [sl0, Nat.reduceAdd] at hA)
  repeat' (first | (first | (refine GT ?_ ?_ <;> intro hg <;> clear hA a <;> intro a hA <;> (first | exact FA | replace hg := of_decide_eq_true hg | replace hg := of_decide_eq_false hg | skip)) | (refine QT ?_; clear hA a; intro a hA) | (first | (refine BT ?_; clear hA hH; rintro _ w ⟨bN, rfl, hH⟩ a hA) | (refine LT ?_; clear hA hH; rintro _ w ⟨oN, rfl, hH⟩ a hA) | (refine AT ?_; clear hA; rintro _ w ⟨oN, cN, rfl, hH2⟩ a hA; clear hH; have hH := (hH2 _ (by (repeat constructor))).tail; clear hH2) | (refine S0T ?_; clear hH; rintro _ w hH) )) | ((first | refine CT ?_ | (refine DT ?_ ?_ <;> intro hc <;> try (exfalso; omega))) <;> repeat' refine CT ?_) | (first | (refine DSK ?_; clear hA a; intro a hA) | (first | (refine DLT ?_; clear hA hH; rintro _ w ⟨oN, rfl, hH⟩; refine ⟨STT, ?_⟩; intro a hA) | (refine DAT ?_; clear hA; rintro _ w ⟨oN, cN, rfl, hH2⟩; clear hH; have hH := (hH2 _ (by (repeat constructor))).tail; clear hH2; refine ⟨STT, ?_⟩; intro a hA))) )
  (refine st_op hA rfl rfl (by decide) (op_call rfl rfl rfl (cloneX_spec _ o q.length c (flat encX q) (hH.rd hr id) hl (encX_one q) (fun h => by subst h; rcases Nat.eq_zero_or_pos q.length with h | h; exact h; obtain ⟨b, off, h2⟩ := hsp h; cases h2) (by omega))) ?_; clear hA; rintro _ w ⟨o1, c1, rfl, hj⟩ a hA; replace hH := hH.join hj; clear hj)
  have hle := hH.own_le (.head _)
  (refine st_op hA rfl rfl (by decide) (op_call rfl rfl rfl (clip_spec _ o1 q.length c1 hle.1)) ?_; clear hA; rintro _ w ⟨rfl, hk⟩ a hA; replace hH := hH.keep hk; clear hk)
  rw [List.length_append, List.length_singleton, flat_snoc]
  cases o1 with
  | none =>
    obtain ⟨h1, h2, h3⟩ := hH.own_none (.head _)
    rw [h3, h1, h2] at hH
    rw [h1] at hA
    rw [h1, h3]
    repeat' (first | (first | (refine GT ?_ ?_ <;> intro hg <;> clear hA a <;> intro a hA <;> (first | exact FA | replace hg := of_decide_eq_true hg | replace hg := of_decide_eq_false hg | skip)) | (refine QT ?_; clear hA a; intro a hA) | (first | (refine BT ?_; clear hA hH; rintro _ w ⟨bN, rfl, hH⟩ a hA) | (refine LT ?_; clear hA hH; rintro _ w ⟨oN, rfl, hH⟩ a hA) | (refine AT ?_; clear hA; rintro _ w ⟨oN, cN, rfl, hH2⟩ a hA; clear hH; have hH := (hH2 _ (by (repeat constructor))).tail; clear hH2) | (refine S0T ?_; clear hH; rintro _ w hH) )) | ((first | refine CT ?_ | (refine DT ?_ ?_ <;> intro hc <;> try (exfalso; omega))) <;> repeat' refine CT ?_) | (first | (refine DSK ?_; clear hA a; intro a hA) | (first | (refine DLT ?_; clear hA hH; rintro _ w ⟨oN, rfl, hH⟩; refine ⟨STT, ?_⟩; intro a hA) | (refine DAT ?_; clear hA; rintro _ w ⟨oN, cN, rfl, hH2⟩; clear hH; have hH := (hH2 _ (by (repeat constructor))).tail; clear hH2; refine ⟨STT, ?_⟩; intro a hA))) )
    exact rt1 (.inl rfl) rfl hA rfl ⟨_, _, rfl, hH.head⟩
  | some a1 =>
    repeat' (first | (first | (refine GT ?_ ?_ <;> intro hg <;> clear hA a <;> intro a hA <;> (first | exact FA | replace hg := of_decide_eq_true hg | replace hg := of_decide_eq_false hg | skip)) | (refine QT ?_; clear hA a; intro a hA) | (first | (refine BT ?_; clear hA hH; rintro _ w ⟨bN, rfl, hH⟩ a hA) | (refine LT ?_; clear hA hH; rintro _ w ⟨oN, rfl, hH⟩ a hA) | (refine AT ?_; clear hA; rintro _ w ⟨oN, cN, rfl, hH2⟩ a hA; clear hH; have hH := (hH2 _ (by (repeat constructor))).tail; clear hH2) | (refine S0T ?_; clear hH; rintro _ w hH) )) | ((first | refine CT ?_ | (refine DT ?_ ?_ <;> intro hc <;> try (exfalso; omega))) <;> repeat' refine CT ?_) | (first | (refine DSK ?_; clear hA a; intro a hA) | (first | (refine DLT ?_; clear hA hH; rintro _ w ⟨oN, rfl, hH⟩; refine ⟨STT, ?_⟩; intro a hA) | (refine DAT ?_; clear hA; rintro _ w ⟨oN, cN, rfl, hH2⟩; clear hH; have hH := (hH2 _ (by (repeat constructor))).tail; clear hH2; refine ⟨STT, ?_⟩; intro a hA))) )
    cases oN with
    | none => exact absurd (hH.own_none (.head _)).1 (by decide)
    | some a2 =>
      have hr1 := hH.own_rd (xs := flat encX q) (by exact MEMT)
      (apply st_op hA rfl rfl (by decide); apply op_append_new (xs := flat encX q) (news := encX x) (n := q.length) (cap := q.length) (m := 1) (c := 1); rfl; rfl; exact hH; exact hr1.news; exact hl; exact (hH.own_rd (xs := encX x) (List.Mem.head _)).news; rfl; rfl; omega; (unfold maxLen; omega); omega; omega; clear hA hH; rintro _ w ⟨oN, cN, rfl, hH⟩ a hA)
      repeat' (first | (first | (refine GT ?_ ?_ <;> intro hg <;> clear hA a <;> intro a hA <;> (first | exact FA | replace hg := of_decide_eq_true hg | replace hg := of_decide_eq_false hg | skip)) | (refine QT ?_; clear hA a; intro a hA) | (first | (refine BT ?_; clear hA hH; rintro _ w ⟨bN, rfl, hH⟩ a hA) | (refine LT ?_; clear hA hH; rintro _ w ⟨oN, rfl, hH⟩ a hA) | (refine AT ?_; clear hA; rintro _ w ⟨oN, cN, rfl, hH2⟩ a hA; clear hH; have hH := (hH2 _ (by (repeat constructor))).tail; clear hH2) | (refine S0T ?_; clear hH; rintro _ w hH) )) | ((first | refine CT ?_ | (refine DT ?_ ?_ <;> intro hc <;> try (exfalso; omega))) <;> repeat' refine CT ?_) | (first | (refine DSK ?_; clear hA a; intro a hA) | (first | (refine DLT ?_; clear hA hH; rintro _ w ⟨oN, rfl, hH⟩; refine ⟨STT, ?_⟩; intro a hA) | (refine DAT ?_; clear hA; rintro _ w ⟨oN, cN, rfl, hH2⟩; clear hH; have hH := (hH2 _ (by (repeat constructor))).tail; clear hH2; refine ⟨STT, ?_⟩; intro a hA))) )
      exact rt1 (.inl rfl) rfl hA rfl ⟨_, _, rfl, hH.head⟩
set_option maxHeartbeats 4000000 in
theorem equalX_spec (w0 : World) (o1 o2 : Option Addr) (c1 c2 : Nat) (l1 l2 : Pth) (h1 : Rd w0 o1 (flat encX l1)) (h2 : Rd w0 o2 (flat encX l2)) (hn : l1.length ≤ 1000000) :
    Ret Try.prog 55 #[.slice o1 l1.length c1, .slice o2 l2.length c2] w0 (fun v w => v = .bool (decide (l1 = l2)) ∧ Kp w0 noM w) := by
  have hH : HS w0 noM [] w0 := HS.init w0 noM
  have hs1 : Sp o1 l1.length := h1.sp (sz := 1) (flat_length encX_len l1) (by omega)
  have hs2 : Sp o2 l2.length := h2.sp (sz := 1) (flat_length encX_len l2) (by omega)
  (refine enter (N := 26) Try.func55 rfl Try.ntmps55 rfl ?_; intro a hA; dsimp only [sl0, Nat.reduceAdd] at hA)
  repeat' (first | (first | (refine GT ?_ ?_ <;> intro hg <;> clear hA a <;> intro a hA <;> (first | exact FA | replace hg := of_decide_eq_true hg | replace hg := of_decide_eq_false hg | skip)) | (refine QT ?_; clear hA a; intro a hA) | (first | (refine BT ?_; clear hA hH; rintro _ w ⟨bN, rfl, hH⟩ a hA) | (refine LT ?_; clear hA hH; rintro _ w ⟨oN, rfl, hH⟩ a hA) | (refine AT ?_; clear hA; rintro _ w ⟨oN, cN, rfl, hH2⟩ a hA; clear hH; have hH := (hH2 _ (by (repeat constructor))).tail; clear hH2) | (refine S0T ?_; clear hH; rintro _ w hH) )) | ((first | refine CT ?_ | (refine DT ?_ ?_ <;> intro hc <;> try (exfalso; omega))) <;> repeat' refine CT ?_) | (first | (refine DSK ?_; clear hA a; intro a hA) | (first | (refine DLT ?_; clear hA hH; rintro _ w ⟨oN, rfl, hH⟩; refine ⟨STT, ?_⟩; intro a hA) | (refine DAT ?_; clear hA; rintro _ w ⟨oN, cN, rfl, hH2⟩; clear hH; have hH := (hH2 _ (by (repeat constructor))).tail; clear hH2; refine ⟨STT, ?_⟩; intro a hA))) )
  · exact rt1 (.inl rfl) rfl hA rfl ⟨by rw [decide_eq_false]; intro h; have := congrArg List.length h; omega, hH.kp⟩
  have hab : l1.length = l2.length := by omega
  refine wp_lpj (S := Nat) (fun i ac w => (i ≤ l1.length ∧ l1.take i = l2.take i) ∧ HS w0 noM [] w ∧ Sl 26 [(0, .slice o1 l1.length c1), (1, .slice o2 l2.length c2), (12, .int .i64 l1.length), (13, .int .i64 i)] ac) (fun i => l1.length - i)
    (fun ac w => l1 = l2 ∧ HS w0 noM [] w ∧ Sl 26 [] ac) 0 ⟨⟨Nat.zero_le _, rfl⟩, hH, (hA.sub (by (repeat (first | exact trivial | refine ⟨rfl, ?_⟩))))⟩ ?_ ?_
  rotate_left
  · clear hA hH
    rintro ac w ⟨hn, hH, hA⟩
    repeat' (first | (first | (refine GT ?_ ?_ <;> intro hg <;> clear hA a <;> intro a hA <;> (first | exact FA | replace hg := of_decide_eq_true hg | replace hg := of_decide_eq_false hg | skip)) | (refine QT ?_; clear hA a; intro a hA) | (first | (refine BT ?_; clear hA hH; rintro _ w ⟨bN, rfl, hH⟩ a hA) | (refine LT ?_; clear hA hH; rintro _ w ⟨oN, rfl, hH⟩ a hA) | (refine AT ?_; clear hA; rintro _ w ⟨oN, cN, rfl, hH2⟩ a hA; clear hH; have hH := (hH2 _ (by (repeat constructor))).tail; clear hH2) | (refine S0T ?_; clear hH; rintro _ w hH) )) | ((first | refine CT ?_ | (refine DT ?_ ?_ <;> intro hc <;> try (exfalso; omega))) <;> repeat' refine CT ?_) | (first | (refine DSK ?_; clear hA a; intro a hA) | (first | (refine DLT ?_; clear hA hH; rintro _ w ⟨oN, rfl, hH⟩; refine ⟨STT, ?_⟩; intro a hA) | (refine DAT ?_; clear hA; rintro _ w ⟨oN, cN, rfl, hH2⟩; clear hH; have hH := (hH2 _ (by (repeat constructor))).tail; clear hH2; refine ⟨STT, ?_⟩; intro a hA))) )
    exact rt1 (.inl rfl) rfl hA rfl ⟨by rw [decide_eq_true hn], hH.kp⟩
  clear hA hH
  rintro i ac w ⟨⟨hi, hp⟩, hH, hA⟩
  by_cases hlt : i < l1.length
  rotate_left
  · repeat' (first | (first | (refine GT ?_ ?_ <;> intro hg <;> clear hA a <;> intro a hA <;> (first | exact FA | replace hg := of_decide_eq_true hg | replace hg := of_decide_eq_false hg | skip)) | (refine QT ?_; clear hA a; intro a hA) | (first | (refine BT ?_; clear hA hH; rintro _ w ⟨bN, rfl, hH⟩ a hA) | (refine LT ?_; clear hA hH; rintro _ w ⟨oN, rfl, hH⟩ a hA) | (refine AT ?_; clear hA; rintro _ w ⟨oN, cN, rfl, hH2⟩ a hA; clear hH; have hH := (hH2 _ (by (repeat constructor))).tail; clear hH2) | (refine S0T ?_; clear hH; rintro _ w hH) )) | ((first | refine CT ?_ | (refine DT ?_ ?_ <;> intro hc <;> try (exfalso; omega))) <;> repeat' refine CT ?_) | (first | (refine DSK ?_; clear hA a; intro a hA) | (first | (refine DLT ?_; clear hA hH; rintro _ w ⟨oN, rfl, hH⟩; refine ⟨STT, ?_⟩; intro a hA) | (refine DAT ?_; clear hA; rintro _ w ⟨oN, cN, rfl, hH2⟩; clear hH; have hH := (hH2 _ (by (repeat constructor))).tail; clear hH2; refine ⟨STT, ?_⟩; intro a hA))) )
    exact ⟨by rw [List.take_of_length_le (by omega), List.take_of_length_le (by omega)] at hp; exact hp, hH, (hA.sub (by (repeat (first | exact trivial | refine ⟨rfl, ?_⟩))))⟩
  obtain ⟨x, hx⟩ : ∃ x, l1[i]? = some x := ⟨_, List.getElem?_eq_getElem hlt⟩
  obtain ⟨y, hy⟩ : ∃ y, l2[i]? = some y := ⟨_, List.getElem?_eq_getElem (by omega)⟩
  have hcx := encX_at hx
  have hcy := encX_at hy
  repeat' (first | (first | (refine GT ?_ ?_ <;> intro hg <;> clear hA a <;> intro a hA <;> (first | exact FA | replace hg := of_decide_eq_true hg | replace hg := of_decide_eq_false hg | skip)) | (refine QT ?_; clear hA a; intro a hA) | (first | (refine BT ?_; clear hA hH; rintro _ w ⟨bN, rfl, hH⟩ a hA) | (refine LT ?_; clear hA hH; rintro _ w ⟨oN, rfl, hH⟩ a hA) | (refine AT ?_; clear hA; rintro _ w ⟨oN, cN, rfl, hH2⟩ a hA; clear hH; have hH := (hH2 _ (by (repeat constructor))).tail; clear hH2) | (refine S0T ?_; clear hH; rintro _ w hH) )) | ((first | refine CT ?_ | (refine DT ?_ ?_ <;> intro hc <;> try (exfalso; omega))) <;> repeat' refine CT ?_) | (first | (refine DSK ?_; clear hA a; intro a hA) | (first | (refine DLT ?_; clear hA hH; rintro _ w ⟨oN, rfl, hH⟩; refine ⟨STT, ?_⟩; intro a hA) | (refine DAT ?_; clear hA; rintro _ w ⟨oN, cN, rfl, hH2⟩; clear hH; have hH := (hH2 _ (by (repeat constructor))).tail; clear hH2; refine ⟨STT, ?_⟩; intro a hA))) )
  (refine wp_draw_HS [(0, 1), (1, 1), (2, 1), (3, 1), (4, 1), (5, 1), (6, 1), (7, 1), (8, 1)] mixed (by decide +kernel) hH ?_; replace hH := hH.drew)
  by_cases hxy : x = y
  · repeat' (first | (first | (refine GT ?_ ?_ <;> intro hg <;> clear hA a <;> intro a hA <;> (first | exact FA | replace hg := of_decide_eq_true hg | replace hg := of_decide_eq_false hg | skip)) | ((first | apply st_ex hA hH rfl rfl (by decide) | apply dr_ex hA rfl rfl rfl (by decide) | apply dr_exp hA rfl rfl rfl (by decide) | apply dr_ex3 hA hH rfl rfl rfl (by decide)); (first | (apply ex_eqlX; rfl; rfl) | (apply ex_neqX; rfl; rfl)); clear hA a; intro a hA) | (refine QT ?_; clear hA a; intro a hA) | (first | (refine BT ?_; clear hA hH; rintro _ w ⟨bN, rfl, hH⟩ a hA) | (refine LT ?_; clear hA hH; rintro _ w ⟨oN, rfl, hH⟩ a hA) | (refine AT ?_; clear hA; rintro _ w ⟨oN, cN, rfl, hH2⟩ a hA; clear hH; have hH := (hH2 _ (by (repeat constructor))).tail; clear hH2) | (refine S0T ?_; clear hH; rintro _ w hH) )) | ((first | refine CT ?_ | (refine DT ?_ ?_ <;> intro hc <;> try (exfalso; omega))) <;> repeat' refine CT ?_) | (first | (refine DSK ?_; clear hA a; intro a hA) | (first | (refine DLT ?_; clear hA hH; rintro _ w ⟨oN, rfl, hH⟩; refine ⟨STT, ?_⟩; intro a hA) | (refine DAT ?_; clear hA; rintro _ w ⟨oN, cN, rfl, hH2⟩; clear hH; have hH := (hH2 _ (by (repeat constructor))).tail; clear hH2; refine ⟨STT, ?_⟩; intro a hA))) )
    all_goals (first | exact ⟨i + 1, ⟨⟨hlt, by rw [take_next hx, take_next hy, hp, hxy]⟩, hH, (hA.sub (by (repeat (first | exact trivial | refine ⟨rfl, ?_⟩))))⟩, by omega⟩ | exact absurd hxy (by assumption))
  · repeat' (first | (first | (refine GT ?_ ?_ <;> intro hg <;> clear hA a <;> intro a hA <;> (first | exact FA | replace hg := of_decide_eq_true hg | replace hg := of_decide_eq_false hg | skip)) | ((first | apply st_ex hA hH rfl rfl (by decide) | apply dr_ex hA rfl rfl rfl (by decide) | apply dr_exp hA rfl rfl rfl (by decide) | apply dr_ex3 hA hH rfl rfl rfl (by decide)); (first | (apply ex_eqlX; rfl; rfl) | (apply ex_neqX; rfl; rfl)); clear hA a; intro a hA) | (refine QT ?_; clear hA a; intro a hA) | (first | (refine BT ?_; clear hA hH; rintro _ w ⟨bN, rfl, hH⟩ a hA) | (refine LT ?_; clear hA hH; rintro _ w ⟨oN, rfl, hH⟩ a hA) | (refine AT ?_; clear hA; rintro _ w ⟨oN, cN, rfl, hH2⟩ a hA; clear hH; have hH := (hH2 _ (by (repeat constructor))).tail; clear hH2) | (refine S0T ?_; clear hH; rintro _ w hH) )) | ((first | refine CT ?_ | (refine DT ?_ ?_ <;> intro hc <;> try (exfalso; omega))) <;> repeat' refine CT ?_) | (first | (refine DSK ?_; clear hA a; intro a hA) | (first | (refine DLT ?_; clear hA hH; rintro _ w ⟨oN, rfl, hH⟩; refine ⟨STT, ?_⟩; intro a hA) | (refine DAT ?_; clear hA; rintro _ w ⟨oN, cN, rfl, hH2⟩; clear hH; have hH := (hH2 _ (by (repeat constructor))).tail; clear hH2; refine ⟨STT, ?_⟩; intro a hA))) )
    all_goals (first | exact rt1 (.inl rfl) rfl hA rfl ⟨by rw [decide_eq_false]; intro h; subst h; rw [hx] at hy; exact hxy (Option.some.inj hy), hH.kp⟩ | exact absurd (by assumption) hxy | exact absurd hxy (by assumption))
theorem is_spec (w0 : World) (p1 p2 : AP) : Ret Try.prog 32 #[.agg #[.int .i64 p1.k, .int .i64 p1.v, .int .i64 p1.n, .string p1.s, .slice p1.ol p1.ls.length p1.cl, .slice p1.oa p1.ps.length p1.ca], .agg #[.int .i64 p2.k, .int .i64 p2.v, .int .i64 p2.n, .string p2.s, .slice p2.ol p2.ls.length p2.cl, .slice p2.oa p2.ps.length p2.ca]] w0 (fun v w => v = .bool (decide (p1.hd = p2.hd)) ∧ Kp w0 noM w) := by
  have hH : HS w0 noM [] w0 := HS.init w0 noM
  (refine enter (N := 24) Try.func32 rfl Try.ntmps32 rfl ?_; intro a hA; dsimp only [sl0, Nat.reduceAdd] at hA)
  repeat' (first | (first | (refine GT ?_ ?_ <;> intro hg <;> clear hA a <;> intro a hA <;> (first | exact FA | replace hg := of_decide_eq_true hg | replace hg := of_decide_eq_false hg | skip)) | ((first | apply st_ex hA hH rfl rfl (by decide) | apply dr_ex hA rfl rfl rfl (by decide) | apply dr_exp hA rfl rfl rfl (by decide) | apply dr_ex3 hA hH rfl rfl rfl (by decide)); (first | (apply ex_eqlX; rfl; rfl) | (apply ex_neqX; rfl; rfl)); clear hA a; intro a hA) | (refine QT ?_; clear hA a; intro a hA) | (first | (refine BT ?_; clear hA hH; rintro _ w ⟨bN, rfl, hH⟩ a hA) | (refine LT ?_; clear hA hH; rintro _ w ⟨oN, rfl, hH⟩ a hA) | (refine AT ?_; clear hA; rintro _ w ⟨oN, cN, rfl, hH2⟩ a hA; clear hH; have hH := (hH2 _ (by (repeat constructor))).tail; clear hH2) | (refine S0T ?_; clear hH; rintro _ w hH) )) | ((first | refine CT ?_ | (refine DT ?_ ?_ <;> intro hc <;> try (exfalso; omega))) <;> repeat' refine CT ?_) | (first | (refine DSK ?_; clear hA a; intro a hA) | (first | (refine DLT ?_; clear hA hH; rintro _ w ⟨oN, rfl, hH⟩; refine ⟨STT, ?_⟩; intro a hA) | (refine DAT ?_; clear hA; rintro _ w ⟨oN, cN, rfl, hH2⟩; clear hH; have hH := (hH2 _ (by (repeat constructor))).tail; clear hH2; refine ⟨STT, ?_⟩; intro a hA))) )
  all_goals (first
    | exact rt1 (.inl rfl) rfl hA rfl ⟨by rw [decide_eq_false (isP_k (by assumption))], hH.kp⟩
    | exact rt1 (.inl rfl) rfl hA rfl ⟨by rw [decide_eq_false (isP_n (by assumption))], hH.kp⟩
    | skip)
  refine rt1 (.inl rfl) rfl hA rfl ⟨?_, hH.kp⟩
  congr 1
  rw [decide_eq_decide]
  exact ⟨fun h => isP_yes (by assumption) (by assumption) h, fun h => congrArg Hd.s h⟩
end Go.Proofs.Ytcododdkjppmjaa
namespace Go.Fw
open Go Go.RowKit
theorem HS.cb_kp {w0 w w' : World} {M : Nat → Prop} {H : List It} {b j T : Nat} {cs : List Value} {v : Value} (h : HS w0 M H w) (hm : cb b T cs ∈ H) (hv : nth cs j = some v) (hk : Kp w noM w') : w'.cell? (bat b j) = some v := cl_cb hm hv _ (h.keep hk)
end Go.Fw
namespace Go.Proofs.Ytcododdkjppmjaa
open Go Go.Fw
set_option linter.unusedVariables false
def idxF {α : Type} (f : α → Bool) (l : List α) : Int := match l.findIdx? f with
  | some i => (i : Int)
  | none => -1
theorem idxF_at {α : Type} {f : α → Bool} {l : List α} {i : Nat} {x : α} (h : l[i]? = some x) (hf : f x = true) (hn : ∀ (k : Nat) (x : α), k < i → l[k]? = some x → f x = false) : idxF f l = (i : Int) := by
  unfold idxF
  have : l.findIdx? f = some i := by
    rw [List.findIdx?_eq_some_iff_getElem]
    obtain ⟨h1, h2⟩ := List.getElem?_eq_some_iff.1 h
    exact ⟨h1, by simp [h2, hf], fun j hj => by have := hn j _ hj (List.getElem?_eq_getElem (by omega)); simpa using this⟩
  rw [this]
theorem idxF_no {α : Type} {f : α → Bool} {l : List α} (hn : ∀ (k : Nat) (x : α), l[k]? = some x → f x = false) : idxF f l = -1 := by
  unfold idxF
  have : l.findIdx? f = none := by
    rw [List.findIdx?_eq_none_iff]
    intro x hx
    obtain ⟨k, hk⟩ := List.getElem?_of_mem hx
    simpa using hn k x hk
  rw [this]
theorem idxF_some {α : Type} {f : α → Bool} {l : List α} {i : Nat} (h : idxF f l = (i : Int)) : ∃ x, l[i]? = some x ∧ f x = true ∧ ∀ (k : Nat) (x : α), k < i → l[k]? = some x → f x = false := by
  unfold idxF at h
  split at h
  · rename_i j hj
    obtain rfl : j = i := by omega
    rw [List.findIdx?_eq_some_iff_getElem] at hj
    obtain ⟨h1, h2, h3⟩ := hj
    refine ⟨_, List.getElem?_eq_getElem h1, h2, fun k x hk hx => ?_⟩
    obtain ⟨h4, h5⟩ := List.getElem?_eq_some_iff.1 hx
    have := h3 k hk
    rw [h5] at this
    simpa using this
  · omega
theorem idxF_nil {α : Type} {f : α → Bool} {l : List α} (h : idxF f l < 0) : ∀ x ∈ l, f x = false := by
  unfold idxF at h
  split at h
  · omega
  · rename_i hj
    intro x hx
    have := List.findIdx?_eq_none_iff.1 hj x hx
    simpa using this
theorem idxF_ge {α : Type} (f : α → Bool) (l : List α) : -1 ≤ idxF f l := by
  unfold idxF
  split <;> omega
theorem idxF_lt {α : Type} (f : α → Bool) (l : List α) : idxF f l < l.length ∨ idxF f l = -1 := by
  unfold idxF
  split
  · rename_i i hi
    rw [List.findIdx?_eq_some_iff_getElem] at hi
    exact .inl (by have := hi.1; omega)
  · exact .inr rfl
/-- which of a row's conditions is of a path -/
def atI (l : List MC) (q : Pth) : Int := idxF (fun m => decide (m.q = q)) l
set_option maxRecDepth 10000 attribute [local irreducible] Code.wp wpList Calls Ex Op1 sat bat blk cb own Go.Fw.mp Go.Fw.mpO Go.Fw.mpI Go.Fw.mpE Go.Fw.itr HS Rd Ret wkD Hp Cl Cls Exit.then Exit.inBlock Exit.noGoto bodyPost Go.Fw.flat wk2 Go.Fw.all Go.Fw.owns wpOp
attribute [local irreducible] encA encC idxF

set_option maxHeartbeats 4000000 in
theorem indexC_spec (w0 : World) (o : Option Addr) (c : Nat) (l : List MC) (fk : FuncId) (first cap : Array Value) [hk : FnB Try.prog fk] (f : MC → Bool) (hr : Rd w0 o (flat encC l)) (hl : l.length ≤ 1000000)
    (hf : ∀ x ∈ l, ∀ w, Kp w0 noM w → Ret Try.prog fk (first ++ #[.agg #[.slice x.o x.q.length x.c, .int .i64 x.p.k, .int .i64 x.p.v, .int .i64 x.p.n, .string x.p.s, .slice x.p.ol x.p.ls.length x.p.cl, .slice x.p.oa x.p.ps.length x.p.ca]] ++ cap) w (fun v w' => v = .bool (f x) ∧ Kp w noM w')) :
    Ret Try.prog 53 #[.slice o l.length c, .func (.func fk) first cap] w0 (fun v w => v = .int .i64 (idxF f l) ∧ Kp w0 noM w) := by
  have hH : HS w0 noM [] w0 := HS.init w0 noM
  have hsp : Sp o l.length := hr.sp (sz := 7) (flat_length encC_len l) (by omega)
  (refine enter (N := 19) Try.func53 rfl Try.ntmps53 rfl ?_; intro a hA; dsimp only [sl0, Nat.reduceAdd] at hA)
  repeat' (first | (first | (refine GT ?_ ?_ <;> intro hg <;> clear hA a <;> intro a hA <;> (first | exact FA | replace hg := of_decide_eq_true hg | replace hg := of_decide_eq_false hg | skip)) | (refine QT ?_; clear hA a; intro a hA) | (first | (refine BT ?_; clear hA hH; rintro _ w ⟨bN, rfl, hH⟩ a hA) | (refine LT ?_; clear hA hH; rintro _ w ⟨oN, rfl, hH⟩ a hA) | (refine AT ?_; clear hA; rintro _ w ⟨oN, cN, rfl, hH2⟩ a hA; clear hH; have hH := (hH2 _ (by (repeat constructor))).tail; clear hH2) | (refine S0T ?_; clear hH; rintro _ w hH) )) | ((first | refine CT ?_ | (refine DT ?_ ?_ <;> intro hc <;> try (exfalso; omega))) <;> repeat' refine CT ?_) | (first | (refine DSK ?_; clear hA a; intro a hA) | (first | (refine DLT ?_; clear hA hH; rintro _ w ⟨oN, rfl, hH⟩; refine ⟨STT, ?_⟩; intro a hA) | (refine DAT ?_; clear hA; rintro _ w ⟨oN, cN, rfl, hH2⟩; clear hH; have hH := (hH2 _ (by (repeat constructor))).tail; clear hH2; refine ⟨STT, ?_⟩; intro a hA))) )
  refine wp_lpj (S := Nat) (fun i a w => (i ≤ l.length ∧ ∀ (k : Nat) (x : MC), k < i → l[k]? = some x → f x = false) ∧ HS w0 noM [] w ∧ Sl 19 [(0, .slice o l.length c), (1, .func (.func fk) first cap), (7, .int .i64 l.length), (8, .int .i64 i)] a) (fun i => l.length - i)
    (fun a w => (∀ (k : Nat) (x : MC), l[k]? = some x → f x = false) ∧ HS w0 noM [] w ∧ Sl 19 [] a) 0 ⟨⟨Nat.zero_le _, fun k x hk => absurd hk (Nat.not_lt_zero _)⟩, hH, (hA.sub (by (repeat (first | exact trivial | refine ⟨rfl, ?_⟩))))⟩ ?_ ?_
  rotate_left
  · clear hA hH
    rintro a w ⟨hn, hH, hA⟩
    repeat' (first | (first | (refine GT ?_ ?_ <;> intro hg <;> clear hA a <;> intro a hA <;> (first | exact FA | replace hg := of_decide_eq_true hg | replace hg := of_decide_eq_false hg | skip)) | (refine QT ?_; clear hA a; intro a hA) | (first | (refine BT ?_; clear hA hH; rintro _ w ⟨bN, rfl, hH⟩ a hA) | (refine LT ?_; clear hA hH; rintro _ w ⟨oN, rfl, hH⟩ a hA) | (refine AT ?_; clear hA; rintro _ w ⟨oN, cN, rfl, hH2⟩ a hA; clear hH; have hH := (hH2 _ (by (repeat constructor))).tail; clear hH2) | (refine S0T ?_; clear hH; rintro _ w hH) )) | ((first | refine CT ?_ | (refine DT ?_ ?_ <;> intro hc <;> try (exfalso; omega))) <;> repeat' refine CT ?_) | (first | (refine DSK ?_; clear hA a; intro a hA) | (first | (refine DLT ?_; clear hA hH; rintro _ w ⟨oN, rfl, hH⟩; refine ⟨STT, ?_⟩; intro a hA) | (refine DAT ?_; clear hA; rintro _ w ⟨oN, cN, rfl, hH2⟩; clear hH; have hH := (hH2 _ (by (repeat constructor))).tail; clear hH2; refine ⟨STT, ?_⟩; intro a hA))) )
    exact rt1 (.inl rfl) rfl hA rfl ⟨by rw [idxF_no hn], hH.kp⟩
  clear hA hH
  rintro i a w ⟨⟨hi, hn⟩, hH, hA⟩
  by_cases hlt : i < l.length
  rotate_left
  · repeat' (first | (first | (refine GT ?_ ?_ <;> intro hg <;> clear hA a <;> intro a hA <;> (first | exact FA | replace hg := of_decide_eq_true hg | replace hg := of_decide_eq_false hg | skip)) | (refine QT ?_; clear hA a; intro a hA) | (first | (refine BT ?_; clear hA hH; rintro _ w ⟨bN, rfl, hH⟩ a hA) | (refine LT ?_; clear hA hH; rintro _ w ⟨oN, rfl, hH⟩ a hA) | (refine AT ?_; clear hA; rintro _ w ⟨oN, cN, rfl, hH2⟩ a hA; clear hH; have hH := (hH2 _ (by (repeat constructor))).tail; clear hH2) | (refine S0T ?_; clear hH; rintro _ w hH) )) | ((first | refine CT ?_ | (refine DT ?_ ?_ <;> intro hc <;> try (exfalso; omega))) <;> repeat' refine CT ?_) | (first | (refine DSK ?_; clear hA a; intro a hA) | (first | (refine DLT ?_; clear hA hH; rintro _ w ⟨oN, rfl, hH⟩; refine ⟨STT, ?_⟩; intro a hA) | (refine DAT ?_; clear hA; rintro _ w ⟨oN, cN, rfl, hH2⟩; clear hH; have hH := (hH2 _ (by (repeat constructor))).tail; clear hH2; refine ⟨STT, ?_⟩; intro a hA))) )
    exact ⟨fun k x hk => hn k x (by have := (List.getElem?_eq_some_iff.1 hk).1; omega) hk, hH, (hA.sub (by (repeat (first | exact trivial | refine ⟨rfl, ?_⟩))))⟩
  obtain ⟨x, hx⟩ : ∃ x, l[i]? = some x := ⟨_, List.getElem?_eq_getElem hlt⟩
  have hxm := List.mem_of_getElem? hx
  have hvs := flat_all encC_len hx
  rw [encC_eq] at hvs
  repeat' (first | (first | (refine GT ?_ ?_ <;> intro hg <;> clear hA a <;> intro a hA <;> (first | exact FA | replace hg := of_decide_eq_true hg | replace hg := of_decide_eq_false hg | skip)) | ((first | apply st_ex hA hH rfl rfl (by decide) | apply dr_ex hA rfl rfl rfl (by decide) | apply dr_exp hA rfl rfl rfl (by decide) | apply dr_ex3 hA hH rfl rfl rfl (by decide)); (first | (apply ex_load_st (vs := [.slice x.o x.q.length x.c, .int .i64 x.p.k, .int .i64 x.p.v, .int .i64 x.p.n, .string x.p.s, .slice x.p.ol x.p.ls.length x.p.cl, .slice x.p.oa x.p.ps.length x.p.ca]); rfl; rfl; exact cls_rd hr id hvs)); clear hA a; intro a hA) | (refine QT ?_; clear hA a; intro a hA) | (first | (refine BT ?_; clear hA hH; rintro _ w ⟨bN, rfl, hH⟩ a hA) | (refine LT ?_; clear hA hH; rintro _ w ⟨oN, rfl, hH⟩ a hA) | (refine AT ?_; clear hA; rintro _ w ⟨oN, cN, rfl, hH2⟩ a hA; clear hH; have hH := (hH2 _ (by (repeat constructor))).tail; clear hH2) | (refine S0T ?_; clear hH; rintro _ w hH) )) | ((first | refine CT ?_ | (refine DT ?_ ?_ <;> intro hc <;> try (exfalso; omega))) <;> repeat' refine CT ?_) | (first | (refine DSK ?_; clear hA a; intro a hA) | (first | (refine DLT ?_; clear hA hH; rintro _ w ⟨oN, rfl, hH⟩; refine ⟨STT, ?_⟩; intro a hA) | (refine DAT ?_; clear hA; rintro _ w ⟨oN, cN, rfl, hH2⟩; clear hH; have hH := (hH2 _ (by (repeat constructor))).tail; clear hH2; refine ⟨STT, ?_⟩; intro a hA))) )
  (refine st_op hA rfl rfl (by decide) (op_call rfl rfl rfl (hf x hxm _ hH.kp)) ?_; clear hA; rintro _ w ⟨rfl, hk⟩ a hA; replace hH := hH.keep hk; clear hk)
  cases hfx : f x with
  | true =>
    rw [hfx] at hA
    repeat' (first | (first | (refine GT ?_ ?_ <;> intro hg <;> clear hA a <;> intro a hA <;> (first | exact FA | replace hg := of_decide_eq_true hg | replace hg := of_decide_eq_false hg | skip)) | (refine QT ?_; clear hA a; intro a hA) | (first | (refine BT ?_; clear hA hH; rintro _ w ⟨bN, rfl, hH⟩ a hA) | (refine LT ?_; clear hA hH; rintro _ w ⟨oN, rfl, hH⟩ a hA) | (refine AT ?_; clear hA; rintro _ w ⟨oN, cN, rfl, hH2⟩ a hA; clear hH; have hH := (hH2 _ (by (repeat constructor))).tail; clear hH2) | (refine S0T ?_; clear hH; rintro _ w hH) )) | ((first | refine CT ?_ | (refine DT ?_ ?_ <;> intro hc <;> try (exfalso; omega))) <;> repeat' refine CT ?_) | (first | (refine DSK ?_; clear hA a; intro a hA) | (first | (refine DLT ?_; clear hA hH; rintro _ w ⟨oN, rfl, hH⟩; refine ⟨STT, ?_⟩; intro a hA) | (refine DAT ?_; clear hA; rintro _ w ⟨oN, cN, rfl, hH2⟩; clear hH; have hH := (hH2 _ (by (repeat constructor))).tail; clear hH2; refine ⟨STT, ?_⟩; intro a hA))) )
    exact rt1 (.inl rfl) rfl hA rfl ⟨by rw [idxF_at hx hfx hn], hH.kp⟩
  | false =>
    rw [hfx] at hA
    repeat' (first | (first | (refine GT ?_ ?_ <;> intro hg <;> clear hA a <;> intro a hA <;> (first | exact FA | replace hg := of_decide_eq_true hg | replace hg := of_decide_eq_false hg | skip)) | (refine QT ?_; clear hA a; intro a hA) | (first | (refine BT ?_; clear hA hH; rintro _ w ⟨bN, rfl, hH⟩ a hA) | (refine LT ?_; clear hA hH; rintro _ w ⟨oN, rfl, hH⟩ a hA) | (refine AT ?_; clear hA; rintro _ w ⟨oN, cN, rfl, hH2⟩ a hA; clear hH; have hH := (hH2 _ (by (repeat constructor))).tail; clear hH2) | (refine S0T ?_; clear hH; rintro _ w hH) )) | ((first | refine CT ?_ | (refine DT ?_ ?_ <;> intro hc <;> try (exfalso; omega))) <;> repeat' refine CT ?_) | (first | (refine DSK ?_; clear hA a; intro a hA) | (first | (refine DLT ?_; clear hA hH; rintro _ w ⟨oN, rfl, hH⟩; refine ⟨STT, ?_⟩; intro a hA) | (refine DAT ?_; clear hA; rintro _ w ⟨oN, cN, rfl, hH2⟩; clear hH; have hH := (hH2 _ (by (repeat constructor))).tail; clear hH2; refine ⟨STT, ?_⟩; intro a hA))) )
    exact ⟨i + 1, ⟨⟨hlt, fun k y hk hy => by
      by_cases hki : k = i
      · subst hki
        rw [hx] at hy
        obtain rfl := Option.some.inj hy
        exact hfx
      · exact hn k y (by omega) hy⟩, hH, (hA.sub (by (repeat (first | exact trivial | refine ⟨rfl, ?_⟩))))⟩, by omega⟩
theorem at1_spec (w0 : World) (m : MC) (b : Nat) (o : Option Addr) (c : Nat) (q : Pth) (hm : RdC w0 m) (hq : RdQ w0 o c q) (hml : m.q.length ≤ 1000000) (hcz : w0.cell? (bat b 0) = some (.slice o q.length c)) :
    Ret Try.prog 54 #[.agg #[.slice m.o m.q.length m.c, .int .i64 m.p.k, .int .i64 m.p.v, .int .i64 m.p.n, .string m.p.s, .slice m.p.ol m.p.ls.length m.p.cl, .slice m.p.oa m.p.ps.length m.p.ca], .pointer (some (bat b 0))] w0 (fun v w => v = .bool (decide (m.q = q)) ∧ Kp w0 noM w) := by
  have hH : HS w0 noM [] w0 := HS.init w0 noM
  (refine enter (N := 8) Try.func54 rfl Try.ntmps54 rfl ?_; intro a hA; dsimp only [sl0, Nat.reduceAdd] at hA)
  repeat' (first | (first | (refine GT ?_ ?_ <;> intro hg <;> clear hA a <;> intro a hA <;> (first | exact FA | replace hg := of_decide_eq_true hg | replace hg := of_decide_eq_false hg | skip)) | ((first | apply st_ex hA hH rfl rfl (by decide) | apply dr_ex hA rfl rfl rfl (by decide) | apply dr_exp hA rfl rfl rfl (by decide) | apply dr_ex3 hA hH rfl rfl rfl (by decide)); (first | (apply ex_load; rfl; exact cl_w hcz id)); clear hA a; intro a hA) | (refine QT ?_; clear hA a; intro a hA) | (first | (refine BT ?_; clear hA hH; rintro _ w ⟨bN, rfl, hH⟩ a hA) | (refine LT ?_; clear hA hH; rintro _ w ⟨oN, rfl, hH⟩ a hA) | (refine AT ?_; clear hA; rintro _ w ⟨oN, cN, rfl, hH2⟩ a hA; clear hH; have hH := (hH2 _ (by (repeat constructor))).tail; clear hH2) | (refine S0T ?_; clear hH; rintro _ w hH) )) | ((first | refine CT ?_ | (refine DT ?_ ?_ <;> intro hc <;> try (exfalso; omega))) <;> repeat' refine CT ?_) | (first | (refine DSK ?_; clear hA a; intro a hA) | (first | (refine DLT ?_; clear hA hH; rintro _ w ⟨oN, rfl, hH⟩; refine ⟨STT, ?_⟩; intro a hA) | (refine DAT ?_; clear hA; rintro _ w ⟨oN, cN, rfl, hH2⟩; clear hH; have hH := (hH2 _ (by (repeat constructor))).tail; clear hH2; refine ⟨STT, ?_⟩; intro a hA))) )
  (refine st_op hA rfl rfl (by decide) (op_call rfl rfl rfl (equalX_spec _ m.o o m.c c m.q q (hH.rd hm.1.1 id) (hH.rd hq.1 id) hml)) ?_; clear hA; rintro _ w ⟨rfl, hk⟩ a hA; replace hH := hH.keep hk; clear hk)
  repeat' (first | (first | (refine GT ?_ ?_ <;> intro hg <;> clear hA a <;> intro a hA <;> (first | exact FA | replace hg := of_decide_eq_true hg | replace hg := of_decide_eq_false hg | skip)) | (refine QT ?_; clear hA a; intro a hA) | (first | (refine BT ?_; clear hA hH; rintro _ w ⟨bN, rfl, hH⟩ a hA) | (refine LT ?_; clear hA hH; rintro _ w ⟨oN, rfl, hH⟩ a hA) | (refine AT ?_; clear hA; rintro _ w ⟨oN, cN, rfl, hH2⟩ a hA; clear hH; have hH := (hH2 _ (by (repeat constructor))).tail; clear hH2) | (refine S0T ?_; clear hH; rintro _ w hH) )) | ((first | refine CT ?_ | (refine DT ?_ ?_ <;> intro hc <;> try (exfalso; omega))) <;> repeat' refine CT ?_) | (first | (refine DSK ?_; clear hA a; intro a hA) | (first | (refine DLT ?_; clear hA hH; rintro _ w ⟨oN, rfl, hH⟩; refine ⟨STT, ?_⟩; intro a hA) | (refine DAT ?_; clear hA; rintro _ w ⟨oN, cN, rfl, hH2⟩; clear hH; have hH := (hH2 _ (by (repeat constructor))).tail; clear hH2; refine ⟨STT, ?_⟩; intro a hA))) )
  exact rt1 (.inl rfl) rfl hA rfl ⟨rfl, hH.kp⟩
theorem RdQ.keep {w w' : World} {o : Option Addr} {c : Nat} {q : Pth} (h : RdQ w o c q) (hk : Kp w noM w') : RdQ w' o c q := ⟨((HS.init w noM).keep hk).rd h.1 id, h.2⟩
theorem RdC.keep {w w' : World} {m : MC} (h : RdC w m) (hk : Kp w noM w') : RdC w' m := ⟨h.1.keep hk, h.2.keep hk⟩
theorem RdCs.keep {w w' : World} {o : Option Addr} {c : Nat} {l : List MC} (h : RdCs w o c l) (hk : Kp w noM w') : RdCs w' o c l := ⟨((HS.init w noM).keep hk).rd h.1 id, h.2.1, h.2.2.1, fun m hm => (h.2.2.2 m hm).keep hk⟩
theorem RdBs.keep {w w' : World} {o : Option Addr} {c : Nat} {l : List MB} (h : RdBs w o c l) (hk : Kp w noM w') : RdBs w' o c l := ⟨((HS.init w noM).keep hk).rd h.1 id, h.2.1, h.2.2.1, fun m hm => RdQ.keep (h.2.2.2 m hm) hk⟩
theorem RdL.keep {w w' : World} {m : ML} (h : RdL w m) (hk : Kp w noM w') : RdL w' m := ⟨h.1.keep hk, h.2.keep hk⟩
theorem at_spec (w0 : World) (m : ML) (o : Option Addr) (c : Nat) (q : Pth) (hm : RdCs w0 m.oc m.cc m.cs) (hq : RdQ w0 o c q) (hn : m.cs.length ≤ 1000000) (hml : ∀ x ∈ m.cs, x.q.length ≤ 1000000) :
    Ret Try.prog 41 #[.agg #[.int .i64 m.n, .slice m.oc m.cs.length m.cc, .slice m.ob m.bs.length m.cb], .slice o q.length c] w0 (fun v w => v = .int .i64 (atI m.cs q) ∧ Kp w0 noM w) := by
  have hH : HS w0 noM [] w0 := HS.init w0 noM
  (refine enter (N := 9) Try.func41 rfl Try.ntmps41 rfl ?_; intro a hA; dsimp only [sl0, Nat.reduceAdd] at hA)
  repeat' (first | (first | (refine GT ?_ ?_ <;> intro hg <;> clear hA a <;> intro a hA <;> (first | exact FA | replace hg := of_decide_eq_true hg | replace hg := of_decide_eq_false hg | skip)) | (refine QT ?_; clear hA a; intro a hA) | (first | (refine BT ?_; clear hA hH; rintro _ w ⟨bN, rfl, hH⟩ a hA) | (refine LT ?_; clear hA hH; rintro _ w ⟨oN, rfl, hH⟩ a hA) | (refine AT ?_; clear hA; rintro _ w ⟨oN, cN, rfl, hH2⟩ a hA; clear hH; have hH := (hH2 _ (by (repeat constructor))).tail; clear hH2) | (refine S0T ?_; clear hH; rintro _ w hH) )) | ((first | refine CT ?_ | (refine DT ?_ ?_ <;> intro hc <;> try (exfalso; omega))) <;> repeat' refine CT ?_) | (first | (refine DSK ?_; clear hA a; intro a hA) | (first | (refine DLT ?_; clear hA hH; rintro _ w ⟨oN, rfl, hH⟩; refine ⟨STT, ?_⟩; intro a hA) | (refine DAT ?_; clear hA; rintro _ w ⟨oN, cN, rfl, hH2⟩; clear hH; have hH := (hH2 _ (by (repeat constructor))).tail; clear hH2; refine ⟨STT, ?_⟩; intro a hA))) )
  have hcz : ∀ w2, Kp w noM w2 → w2.cell? (bat bN 0) = some (.slice o q.length c) := fun w2 hk2 => hH.cb_kp (T := 25) (cs := [.slice o q.length c]) (by exact MEMT) rfl hk2
  have hk0 := hH.kp
  have hcl : ∀ x ∈ m.cs, ∀ w2, Kp w noM w2 → Ret Try.prog 54 (#[] ++ #[.agg #[.slice x.o x.q.length x.c, .int .i64 x.p.k, .int .i64 x.p.v, .int .i64 x.p.n, .string x.p.s, .slice x.p.ol x.p.ls.length x.p.cl, .slice x.p.oa x.p.ps.length x.p.ca]] ++ #[.pointer (some (bat bN 0))]) w2 (fun v w' => v = .bool (decide (x.q = q)) ∧ Kp w2 noM w') := fun x hx w2 hk2 =>
    at1_spec w2 x bN o c q ((hm.2.2.2 x hx).keep (hk0.trans hk2 fun b hb => hb.elim)) (hq.keep (hk0.trans hk2 fun b hb => hb.elim)) (hml x hx) (hcz w2 hk2)
  (refine st_op hA rfl rfl (by decide) (op_call rfl rfl rfl (indexC_spec _ m.oc m.cc m.cs 54 #[] #[.pointer (some (bat bN 0))] (fun x => decide (x.q = q)) (hH.rd hm.1 id) hn hcl)) ?_; clear hA; rintro _ w ⟨rfl, hk⟩ a hA; replace hH := hH.keep hk; clear hk)
  repeat' (first | (first | (refine GT ?_ ?_ <;> intro hg <;> clear hA a <;> intro a hA <;> (first | exact FA | replace hg := of_decide_eq_true hg | replace hg := of_decide_eq_false hg | skip)) | (refine QT ?_; clear hA a; intro a hA) | (first | (refine BT ?_; clear hA hH; rintro _ w ⟨bN, rfl, hH⟩ a hA) | (refine LT ?_; clear hA hH; rintro _ w ⟨oN, rfl, hH⟩ a hA) | (refine AT ?_; clear hA; rintro _ w ⟨oN, cN, rfl, hH2⟩ a hA; clear hH; have hH := (hH2 _ (by (repeat constructor))).tail; clear hH2) | (refine S0T ?_; clear hH; rintro _ w hH) )) | ((first | refine CT ?_ | (refine DT ?_ ?_ <;> intro hc <;> try (exfalso; omega))) <;> repeat' refine CT ?_) | (first | (refine DSK ?_; clear hA a; intro a hA) | (first | (refine DLT ?_; clear hA hH; rintro _ w ⟨oN, rfl, hH⟩; refine ⟨STT, ?_⟩; intro a hA) | (refine DAT ?_; clear hA; rintro _ w ⟨oN, cN, rfl, hH2⟩; clear hH; have hH := (hH2 _ (by (repeat constructor))).tail; clear hH2; refine ⟨STT, ?_⟩; intro a hA))) )
  exact rt1 (.inl rfl) rfl hA rfl ⟨rfl, hH.kp⟩
end Go.Proofs.Ytcododdkjppmjaa
