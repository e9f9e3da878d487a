/-
  The walk over the Set of the document's store; framed calls. Conditions: none.
  What the store's laws are handed: rows of steps, read. Conditions: none.
  The walk over StoreCycles. Conditions: none.
  The walk over StoreFull. Conditions: none.
-/
import Derived.Test.YtdfhajdejlhamaaRowFullMg10
import Derived.Test.YtdfhajdejlhamaaRowFullMg7
import Derived.Test.YtdfhajdejlhamaaRowFullMg8
import Derived.Test.YtdfhajdejlhamaaRows
import Derived.ChangeSlices
import Derived.WideShapes
import Derived.Test.YtdfhajdejlhamaaRowFullMg9
namespace Go.Proofs.Ytdfhajdejlhamaa
open Go Go.Fw
set_option linter.unusedVariables false
theorem reach_at (L : List Ob) (x : Int) : reachA L x = atA L x := rfl
set_option maxRecDepth 10000 attribute [local irreducible] Code.wp wpList Calls Ex Op1 sat bat blk cb own Go.Fw.mp Go.Fw.mpO Go.Fw.mpI Go.Fw.mpE Go.Fw.itr HS Rd Ret wkD Hp Cl Cls Exit.then Exit.inBlock Exit.noGoto bodyPost Go.Fw.flat wk2 Go.Fw.all Go.Fw.owns wpOp
attribute [local irreducible] hdA gaps isA nextA allocA freeA sizeA kindA setA getA whiteZ numW addrW shadeG gcI hpI stepG beginG writeG allocG mu atA endS finG rfI gdI AtT allocS tryS reachA

theorem dsset_spec (w0 : World) (M : Nat → Prop) (bm N : Nat) (g : SS) (x i y : Int) (hok : GOk N g.s) (hU : U x) (hH : HS w0 M [sdI bm N g] w0) :
    Ret Try.prog 15 #[.pointer (some (bat bm 0)), .int .u64 x, .int .i64 i, .int .u64 y] w0 (fun v w => v = .int .i64 (writeS g (atA g.s.L x : Nat) i y).1 ∧ HS w0 M [sdI bm N (writeS g (atA g.s.L x : Nat) i y).2] w) := by
  obtain ⟨bd, b2, hH2⟩ := sd_open hH
  clear hH
  have hH : HS w0 M [gdI bd b2 g.s, rfI b2 N g.s.L, cb bm 51 [.pointer (some (bat bd 0)), .int .i64 g.cy]] w0 := hH2
  clear hH2
  (refine enter (N := 25) Try.func15 rfl Try.ntmps15 rfl ?_; intro a hA; dsimp only [sl0, Nat.reduceAdd] at hA)
  repeat' (first | (first | (refine GT ?_ ?_ <;> intro hg <;> clear hA a <;> intro a hA <;> (first | exact FA | replace hg := of_decide_eq_true hg | replace hg := of_decide_eq_false hg | skip)) | (refine QT ?_; clear hA a; intro a hA) | (first | (refine BT ?_; clear hA hH; rintro _ w ⟨bN, rfl, hH⟩ a hA) | (refine LT ?_; clear hA hH; rintro _ w ⟨oN, rfl, hH⟩ a hA) | (refine AT ?_; clear hA; rintro _ w ⟨oN, cN, rfl, hH2⟩ a hA; clear hH; have hH := (hH2 _ (by (repeat constructor))).tail; clear hH2) | (refine S0T ?_; clear hH; rintro _ w hH) )) | ((first | refine CT ?_ | (refine DT ?_ ?_ <;> intro hc <;> try (exfalso; omega))) <;> repeat' refine CT ?_) | (first | (refine DSK ?_; clear hA a; intro a hA) | (first | (refine DLT ?_; clear hA hH; rintro _ w ⟨oN, rfl, hH⟩; refine ⟨STT, ?_⟩; intro a hA) | (refine DAT ?_; clear hA; rintro _ w ⟨oN, cN, rfl, hH2⟩; clear hH; have hH := (hH2 _ (by (repeat constructor))).tail; clear hH2; refine ⟨STT, ?_⟩; intro a hA))) )
  (refine wp_draw3_HS 6 [(4, 2), (5, 2), (6, 2), (7, 1), (8, 1), (9, 1), (10, 1), (0, 1), (1, 1), (2, 1), (3, 1), (11, 1), (13, 1), (14, 1), (12, 0)] [15,16] mixed (by decide +kernel) hH ?_; replace hH := hH.drew)
  repeat' (first | (first | (refine GT ?_ ?_ <;> intro hg <;> clear hA a <;> intro a hA <;> (first | exact FA | replace hg := of_decide_eq_true hg | replace hg := of_decide_eq_false hg | skip)) | ((first | apply st_ex hA hH rfl rfl (by decide) | apply dr_ex hA rfl rfl rfl (by decide) | apply dr_exp hA rfl rfl rfl (by decide) | apply dr_ex3 hA hH rfl rfl rfl (by decide)); (first | (apply ex_load; rfl; exact dcl_h MEMT) | (apply ex_load; rfl; exact dcl_p MEMT)); clear hA a; intro a hA) | (refine QT ?_; clear hA a; intro a hA) | (first | (refine BT ?_; clear hA hH; rintro _ w ⟨bN, rfl, hH⟩ a hA) | (refine LT ?_; clear hA hH; rintro _ w ⟨oN, rfl, hH⟩ a hA) | (refine AT ?_; clear hA; rintro _ w ⟨oN, cN, rfl, hH2⟩ a hA; clear hH; have hH := (hH2 _ (by (repeat constructor))).tail; clear hH2) | (refine S0T ?_; clear hH; rintro _ w hH) )) | ((first | refine CT ?_ | (refine DT ?_ ?_ <;> intro hc <;> try (exfalso; omega))) <;> repeat' refine CT ?_) | (first | (refine DSK ?_; clear hA a; intro a hA) | (first | (refine DLT ?_; clear hA hH; rintro _ w ⟨oN, rfl, hH⟩; refine ⟨STT, ?_⟩; intro a hA) | (refine DAT ?_; clear hA; rintro _ w ⟨oN, cN, rfl, hH2⟩; clear hH; have hH := (hH2 _ (by (repeat constructor))).tail; clear hH2; refine ⟨STT, ?_⟩; intro a hA))) )
  (refine dr_op hA rfl rfl rfl (by decide) (op_call rfl rfl rfl (reaches_spec _ b2 N g.s.L x hU (Ok.len ⟨hok.n2, hok.lay, hok.kd⟩) (rf_readM hH (by exact MEMT)))) ?_; clear hA; rintro _ w ⟨rfl, hk⟩; replace hH := hH.keep hk; clear hk; refine ⟨STT, ?_⟩; intro a hA)
  rw [reach_at] at hA
  repeat' (first | (first | (refine GT ?_ ?_ <;> intro hg <;> clear hA a <;> intro a hA <;> (first | exact FA | replace hg := of_decide_eq_true hg | replace hg := of_decide_eq_false hg | skip)) | (refine QT ?_; clear hA a; intro a hA) | (first | (refine BT ?_; clear hA hH; rintro _ w ⟨bN, rfl, hH⟩ a hA) | (refine LT ?_; clear hA hH; rintro _ w ⟨oN, rfl, hH⟩ a hA) | (refine AT ?_; clear hA; rintro _ w ⟨oN, cN, rfl, hH2⟩ a hA; clear hH; have hH := (hH2 _ (by (repeat constructor))).tail; clear hH2) | (refine S0T ?_; clear hH; rintro _ w hH) )) | ((first | refine CT ?_ | (refine DT ?_ ?_ <;> intro hc <;> try (exfalso; omega))) <;> repeat' refine CT ?_) | (first | (refine DSK ?_; clear hA a; intro a hA) | (first | (refine DLT ?_; clear hA hH; rintro _ w ⟨oN, rfl, hH⟩; refine ⟨STT, ?_⟩; intro a hA) | (refine DAT ?_; clear hA; rintro _ w ⟨oN, cN, rfl, hH2⟩; clear hH; have hH := (hH2 _ (by (repeat constructor))).tail; clear hH2; refine ⟨STT, ?_⟩; intro a hA))) )
  (refine dr_op3 hA rfl rfl rfl (by decide) (op_call rfl rfl rfl (dwrite_f hH hok rfl)) ?_; clear hA hH; rintro _ w ⟨rfl, hH⟩; intro a hA)
  repeat' (first | (first | (refine GT ?_ ?_ <;> intro hg <;> clear hA a <;> intro a hA <;> (first | exact FA | replace hg := of_decide_eq_true hg | replace hg := of_decide_eq_false hg | skip)) | (refine QT ?_; clear hA a; intro a hA) | (first | (refine BT ?_; clear hA hH; rintro _ w ⟨bN, rfl, hH⟩ a hA) | (refine LT ?_; clear hA hH; rintro _ w ⟨oN, rfl, hH⟩ a hA) | (refine AT ?_; clear hA; rintro _ w ⟨oN, cN, rfl, hH2⟩ a hA; clear hH; have hH := (hH2 _ (by (repeat constructor))).tail; clear hH2) | (refine S0T ?_; clear hH; rintro _ w hH) )) | ((first | refine CT ?_ | (refine DT ?_ ?_ <;> intro hc <;> try (exfalso; omega))) <;> repeat' refine CT ?_) | (first | (refine DSK ?_; clear hA a; intro a hA) | (first | (refine DLT ?_; clear hA hH; rintro _ w ⟨oN, rfl, hH⟩; refine ⟨STT, ?_⟩; intro a hA) | (refine DAT ?_; clear hA; rintro _ w ⟨oN, cN, rfl, hH2⟩; clear hH; have hH := (hH2 _ (by (repeat constructor))).tail; clear hH2; refine ⟨STT, ?_⟩; intro a hA))) )
  exact rt1 (.inl rfl) rfl hA rfl ⟨rfl, sd_shut (g := (writeS g (atA g.s.L x : Nat) i y).2) bd b2 hH⟩
section
variable {w0 w : World} {M : Nat → Prop} {H : List It} {bm N : Nat} {g : SS}
theorem dsset_f {x i y : Int} (hH : HS w0 M (sdI bm N g :: H) w) (hok : GOk N g.s) (hU : U x) :
    Ret Try.prog 15 #[.pointer (some (bat bm 0)), .int .u64 x, .int .i64 i, .int .u64 y] w (fun v w' => v = .int .i64 (writeS g (atA g.s.L x : Nat) i y).1 ∧ HS w0 M (sdI bm N (writeS g (atA g.s.L x : Nat) i y).2 :: H) w') := by
  obtain ⟨Mc, h1, -, h2⟩ := HS.frame (Hc := [sdI bm N g]) (Hf := H) hH
  exact (dsset_spec w Mc bm N g x i y hok hU h1).mono fun v w' ⟨h3, h4⟩ => ⟨h3, h2 _ _ h4⟩
theorem dsalloc_f {k z : Int} {roots : List Int} {oR : Option Addr} {cR : Nat} (hH : HS w0 M (sdI bm N g :: H) w) (hok : GOk N g.s) (hcy : g.cy ≤ 1000000) (hU : ∀ x ∈ roots, U x) (hl : roots.length ≤ 140737488355328) (hrd : ∀ Hc w', HS w0 M (Hc ++ H) w' → Rd w' oR (flat encW roots)) :
    Ret Try.prog 13 #[.pointer (some (bat bm 0)), .int .i64 k, .int .i64 z, .slice oR roots.length cR] w (fun v w' => v = .tuple #[.int .u64 (allocS N g k z roots).1, .int .i64 (allocS N g k z roots).2.1] ∧ HS w0 M (sdI bm N (allocS N g k z roots).2.2 :: H) w') := by
  obtain ⟨Mc, h1, -, h2⟩ := HS.frame (Hc := [sdI bm N g]) (Hf := H) hH
  exact (dsalloc_spec w Mc bm N g k z roots oR cR hok hcy hU hl (fun H' w' hw => hrd _ _ (h2 _ _ hw)) h1).mono fun v w' ⟨h3, h4⟩ => ⟨h3, h2 _ _ h4⟩
theorem dspick_f {roots : List Int} {oR : Option Addr} {cR : Nat} (hH : HS w0 M (sdI bm N g :: H) w) (hok : GOk N g.s) (hcy : g.cy ≤ 1000000) (hU : ∀ x ∈ roots, U x) (hl : roots.length ≤ 140737488355328) (hrd : ∀ Hc w', HS w0 M (Hc ++ H) w' → Rd w' oR (flat encW roots)) :
    Ret Try.prog 19 #[.pointer (some (bat bm 0)), .slice oR roots.length cR] w (fun v w' => HS w0 M (sdI bm N (pickS g roots) :: H) w') := by
  obtain ⟨Mc, h1, -, h2⟩ := HS.frame (Hc := [sdI bm N g]) (Hf := H) hH
  exact (dspick_spec w Mc bm N g roots oR cR hok hcy hU hl (fun H' w' hw => hrd _ _ (h2 _ _ hw)) h1).mono fun v w' h4 => h2 _ _ h4
end
end Go.Proofs.Ytdfhajdejlhamaa
namespace Go.Proofs.Ytdfhajdejlhamaa
open Go Go.Fw Go.ChangeShapes Go.WideShapes Go.ChangeAt Go.RowKit Go.Deep
set_option linter.unusedVariables false
/-- a step: Kind, A, B, N, M, and a text -/
abbrev Stp := (Int × Int × Int × Int × Int) × ByteArray
def encT (x : Stp) : List Value := [.int .i64 x.1.1, .int .i64 x.1.2.1, .int .i64 x.1.2.2.1, .int .i64 x.1.2.2.2.1, .int .i64 x.1.2.2.2.2, .string x.2]
theorem encT_len (x : Stp) : (encT x).length = 6 := rfl
def R64 (z : Int) : Prop := -9223372036854775808 ≤ z ∧ z ≤ 9223372036854775807
def StpR (x : Stp) : Prop := R64 x.1.1 ∧ R64 x.1.2.1 ∧ R64 x.1.2.2.1 ∧ R64 x.1.2.2.2.1 ∧ R64 x.1.2.2.2.2
section
variable {ls : List Stp} {i : Nat} {x : Stp}
theorem t60 (h : ls[i]? = some x) : (flat encT ls)[i * 6 + 0]? = some (.int .i64 x.1.1) := flat_get encT_len (off := 0) h rfl
theorem t61 (h : ls[i]? = some x) : (flat encT ls)[i * 6 + 1]? = some (.int .i64 x.1.2.1) := flat_get encT_len (off := 1) h rfl
theorem t62 (h : ls[i]? = some x) : (flat encT ls)[i * 6 + 2]? = some (.int .i64 x.1.2.2.1) := flat_get encT_len (off := 2) h rfl
theorem t64 (h : ls[i]? = some x) : (flat encT ls)[i * 6 + 4]? = some (.int .i64 x.1.2.2.2.2) := flat_get encT_len (off := 4) h rfl
theorem t65 (h : ls[i]? = some x) : (flat encT ls)[i * 6 + 5]? = some (.string x.2) := flat_get encT_len (off := 5) h rfl
end
theorem wf_i64 {z : Int} (h : (Lit.int .i64 z).wf = true) : R64 z := by
  simp only [Lit.wf, Bool.and_eq_true, decide_eq_true_eq] at h
  have m1 : IntKind.i64.min = -9223372036854775808 := by decide
  have m2 : IntKind.i64.max = 9223372036854775807 := by decide
  rw [m1, m2] at h
  exact h
section
variable {H : Type} {enc : TypeId × Value → H} {P : Program} {w : World} {base : Nat} {spare : Nat → Bool} {held : Bool}
/-- a slice of structs of five numbers and a text, read -/
theorem open_stps {t e : TypeId} {f0 f1 f2 f3 f4 f5 : Field} {v : Value} {d : DataW H} {p : List MemPlace} {r : Reach} {b0 : Nat} (ht : P.underlying t = some (.slice e)) (he : P.underlying e = some (.struct #[f0, f1, f2, f3, f4, f5]))
    (hone : oneCellFields P #[f0, f1, f2, f3, f4, f5] = true) (hC : P.cellsOf e = 6) (h0 : P.underlying f0.type = some (.int .i64)) (h1 : P.underlying f1.type = some (.int .i64)) (h2 : P.underlying f2.type = some (.int .i64)) (h3 : P.underlying f3.type = some (.int .i64))
    (h4 : P.underlying f4.type = some (.int .i64)) (h5 : P.underlying f5.type = some .string) (hv : Value.okWide P w r b0 t v) (h : DataW.Trod enc P w base spare held t v d p) :
    ∃ (o : Option Addr) (c : Nat) (l : List Stp), v = .slice o l.length c ∧ Rd w o (flat encT l) ∧ l.length ≤ 9223372036854775807 ∧ ∀ x ∈ l, StpR x ∧ x.2.size ≤ maxLen := by
  obtain ⟨a0, len0, cap0, rfl⟩ := okWide_slice ht hv
  obtain ⟨fuel, hf⟩ := h
  rcases open_rows ht he hone hC hf with hcs | ⟨a, len, cap, hcs, hl, hi⟩
  · simp [Value.cells] at hcs
    obtain ⟨rfl, rfl, rfl⟩ := hcs
    exact ⟨none, 0, [], rfl, ⟨fun h => absurd h (by simp [flat]), fun j u hj => by simp [flat] at hj⟩, by simp, fun x hx => absurd hx (List.not_mem_nil)⟩
  · simp [Value.cells] at hcs
    obtain ⟨rfl, rfl, rfl⟩ := hcs
    obtain ⟨l, hll, hp⟩ := choose_list (fun i (x : Stp) => (∀ j v, (encT x)[j]? = some v → w.cell? (a.add (i * 6 + j)) = some v) ∧ StpR x ∧ x.2.size ≤ maxLen) len0 (fun i hil => by
      obtain ⟨v0, y0, n0, hc0, hy0⟩ := hi i hil 0 f0 rfl
      obtain ⟨v1, y1, n1, hc1, hy1⟩ := hi i hil 1 f1 rfl
      obtain ⟨v2, y2, n2, hc2, hy2⟩ := hi i hil 2 f2 rfl
      obtain ⟨v3, y3, n3, hc3, hy3⟩ := hi i hil 3 f3 rfl
      obtain ⟨v4, y4, n4, hc4, hy4⟩ := hi i hil 4 f4 rfl
      obtain ⟨v5, y5, n5, hc5, hy5⟩ := hi i hil 5 f5 rfl
      obtain ⟨z0, e0, -, g0⟩ := DataW.trod_int h0 hy0
      obtain ⟨z1, e1, -, g1⟩ := DataW.trod_int h1 hy1
      obtain ⟨z2, e2, -, g2⟩ := DataW.trod_int h2 hy2
      obtain ⟨z3, e3, -, g3⟩ := DataW.trod_int h3 hy3
      obtain ⟨z4, e4, -, g4⟩ := DataW.trod_int h4 hy4
      obtain ⟨s5, e5, -, g5⟩ := DataW.trod_string h5 hy5
      obtain rfl : v0 = .int .i64 z0 := by simpa using e0
      obtain rfl : v1 = .int .i64 z1 := by simpa using e1
      obtain rfl : v2 = .int .i64 z2 := by simpa using e2
      obtain rfl : v3 = .int .i64 z3 := by simpa using e3
      obtain rfl : v4 = .int .i64 z4 := by simpa using e4
      obtain rfl : v5 = .string s5 := by simpa using e5
      refine ⟨((z0, z1, z2, z3, z4), s5), fun j v hv => ?_, ⟨wf_i64 g0, wf_i64 g1, wf_i64 g2, wf_i64 g3, wf_i64 g4⟩, g5⟩
      match j, hv with
      | 0, hv => obtain rfl := Option.some.inj hv; exact hc0
      | 1, hv => obtain rfl := Option.some.inj hv; exact hc1
      | 2, hv => obtain rfl := Option.some.inj hv; exact hc2
      | 3, hv => obtain rfl := Option.some.inj hv; exact hc3
      | 4, hv => obtain rfl := Option.some.inj hv; exact hc4
      | 5, hv => obtain rfl := Option.some.inj hv; exact hc5
      | j + 6, hv => cases hv)
    subst hll
    refine ⟨some a, cap0, l, rfl, ?_, by unfold maxLen at hl; omega, fun x hx => ?_⟩
    rotate_left
    · obtain ⟨i, hi⟩ := List.getElem?_of_mem hx
      exact (hp i x hi).2
    cases l with
    | nil => exact ⟨fun h => absurd h (by simp [flat]), fun j u hj => by simp [flat] at hj⟩
    | cons x0 l0 =>
      obtain ⟨b, off, spot⟩ := a
      have hspot : spot = none := by simpa [Addr.add] using World.cell?_spot ((hp 0 x0 rfl).1 0 _ rfl)
      subst hspot
      refine ⟨fun _ => ⟨b, off, rfl⟩, fun j u hj => ?_⟩
      have hjl := (List.getElem?_eq_some_iff.1 hj).1
      rw [flat_length encT_len] at hjl
      have hadd : ∀ k, (⟨b, off, none⟩ : Addr).add k = sat (some ⟨b, off, none⟩) k := fun k => by
        simp only [sat, blkO, offO, Addr.add]
        split <;> simp_all
      obtain ⟨x, hx⟩ : ∃ x, (x0 :: l0)[j / 6]? = some x := ⟨_, List.getElem?_eq_getElem (by omega)⟩
      obtain ⟨v, hv⟩ : ∃ v, (encT x)[j % 6]? = some v := ⟨_, List.getElem?_eq_getElem (by rw [encT_len]; omega)⟩
      have h7 := (hp _ _ hx).1 _ _ hv
      have h8 := flat_get encT_len hx hv
      rw [show j / 6 * 6 + j % 6 = j by omega] at h7 h8
      rw [h8] at hj
      obtain rfl := Option.some.inj hj
      rw [← hadd]
      exact h7
end
section
variable {H : Type} {enc : TypeId × Value → H}
set_option maxRecDepth 10000 in
theorem argT {W : World} {base : Nat} {v : Value} {d : DataW H} {p : List MemPlace} {held : Bool} (hv : Value.okWide Try.prog W .any base 22 v) (h : DataW.Trod enc Try.prog W 0 (fun _ => true) held 22 v d p) :
    ∃ (o : Option Addr) (c : Nat) (l : List Stp), v = .slice o l.length c ∧ Rd W o (flat encT l) ∧ l.length ≤ 9223372036854775807 ∧ ∀ x ∈ l, StpR x ∧ x.2.size ≤ maxLen :=
  open_stps Try.underlying22 Try.underlying30 (by kernel_rfl) (by kernel_rfl) Try.underlying3 Try.underlying3 Try.underlying3 Try.underlying3 Try.underlying3 Try.underlying9 hv h
set_option maxRecDepth 10000 in
theorem own_ : ownKnob Try.prog.godebug = none := by kernel_rfl
set_option maxRecDepth 10000 in
theorem laidOut : laidOutB Try.prog = true := by kernel_rfl
end
end Go.Proofs.Ytdfhajdejlhamaa
namespace Go.Proofs.Ytdfhajdejlhamaa
open Go Go.Fw
set_option linter.unusedVariables false
theorem eight_ones : ([.int .u64 1, .int .u64 1, .int .u64 1, .int .u64 1, .int .u64 1, .int .u64 1, .int .u64 1, .int .u64 1] : List Value) = flat encW [1, 1, 1, 1, 1, 1, 1, 1] := rfl
theorem ones8_U : ∀ r ∈ ([1, 1, 1, 1, 1, 1, 1, 1] : List Int), U r := fun r hr => by
  have : r = 1 := by simpa using hr
  subst this
  exact U1
theorem mem_setW {l : List Int} {i : Nat} {y x : Int} (h : x ∈ l.set i y) : x ∈ l ∨ x = y := List.mem_or_eq_of_mem_set h
theorem live_add {L : List Ob} {held : List Nat} {i a : Nat} (h : held[i]? = some a) : liveN L (held.take (i + 1)) = liveN L (held.take i) + (1 + (fsA L a).length) := by
  unfold liveN
  rw [List.take_add_one, h]
  simp
theorem live_le {L : List Ob} : ∀ {held : List Nat}, (∀ a ∈ held, (fsA L a).length ≤ 65536) → liveN L held ≤ 65537 * held.length
  | [], _ => Nat.le_refl _
  | a :: l, h => by
    have h1 := live_le (L := L) (held := l) fun b hb => h b (List.mem_cons_of_mem _ hb)
    have h2 := h a (List.mem_cons_self ..)
    show 1 + (fsA L a).length + liveN L l ≤ 65537 * (l.length + 1)
    omega
theorem live_zero_i (L : List Ob) (held : List Nat) : ((liveN L (held.take 0) : Nat) : Int) = 0 := rfl
theorem writeS_ok {N : Nat} {g : SS} {z i y : Int} (h : GOk N g.s) (hU : U y) : GOk N (writeS g z i y).2.s := (write_ok h z i hU).1
/-- picks, from the beginning -/
def Pq (N : Nat) (g0 : SS) (held : List Nat) (n : Nat) (g : SS) : Prop := (n = 0 ∧ g = g0) ∨ (1 ≤ n ∧ Pk N g0.s.L held n g)
theorem Pq.ok {N : Nat} {g0 g : SS} {held : List Nat} {n : Nat} (h : Pq N g0 held n g) (h0 : GOk N g0.s) (hcy : g0.cy = 0) : GOk N g.s ∧ ((g.cy = 0 ∧ n ≤ 2 * N + 3) ∨ (g.cy = 1 ∧ g.s.ph = 0 ∧ Cyc N g0.s.L held g.s)) := by
  rcases h with ⟨h1, h2⟩ | ⟨h1, h2⟩
  · subst h2
    exact ⟨h0, .inl ⟨hcy, by omega⟩⟩
  · refine ⟨h2.cyc.ok, ?_⟩
    rcases h2.st with ⟨h3, h4, h5⟩ | ⟨h3, h4⟩
    · exact .inl ⟨h3, by omega⟩
    · exact .inr ⟨h3, h4, h2.cyc⟩
theorem Pq.next {N : Nat} {g0 g : SS} {held : List Nat} {n : Nat} {regs : List Int} (h : Pq N g0 held n g) (h0 : GOk N g0.s) (hph : g0.s.ph = 0) (hcy : g0.cy = 0) (hC : Clo g0.s.L regs held) (hc : g.cy = 0) : Pq N g0 held (n + 1) (pickS g regs) := by
  rcases h with ⟨h1, h2⟩ | ⟨h1, h2⟩
  · subst h2; subst h1
    exact .inr ⟨by omega, Pk.first h0 hph hcy hC⟩
  · exact .inr ⟨by omega, h2.next hc⟩
theorem gokOk {N : Nat} {s : GS} (h : GOk N s) : Ok N s.L := ⟨h.n2, h.lay, h.kd⟩
set_option maxRecDepth 10000 attribute [local irreducible] Code.wp wpList Calls Ex Op1 sat bat blk cb own Go.Fw.mp Go.Fw.mpO Go.Fw.mpI Go.Fw.mpE Go.Fw.itr HS Rd Ret wkD Hp Cl Cls Exit.then Exit.inBlock Exit.noGoto bodyPost Go.Fw.flat wk2 Go.Fw.all Go.Fw.owns wpOp
attribute [local irreducible] hdA gaps isA nextA allocA freeA sizeA kindA setA getA whiteZ numW addrW shadeG gcI hpI stepG beginG writeG allocG mu atA endS finG allocS setF txt wrd chunk bts orK shlK numV bytS strS textS stI pickS writeS st0 rfI liveN regN findI

end Go.Proofs.Ytdfhajdejlhamaa
namespace Go.Proofs.Ytdfhajdejlhamaa
open Go Go.Fw
set_option linter.unusedVariables false
theorem umod6b (x : Int) : ∃ k : Nat, k < 6 ∧ (IntKind.u64.wrap x).tmod 6 = (k : Int) ∧ IntKind.i64.wrap (k : Int) = (k : Int) := by
  have h0 : 0 ≤ IntKind.u64.wrap x := by
    rw [u64_mod]
    exact Int.emod_nonneg _ (by decide)
  have h1 := Int.tmod_nonneg (6 : Int) h0
  have h2 := Int.tmod_lt_of_pos (IntKind.u64.wrap x) (show (0 : Int) < 6 by decide)
  exact ⟨((IntKind.u64.wrap x).tmod 6).toNat, by omega, by omega, wrap_i64 ⟨by omega, by omega⟩⟩
theorem HS.cutN {w0 w : World} {M : Nat → Prop} {p q r s : It} (h : HS w0 M [p, q, r, s] w) : HS w0 M [p, q, r] w := HS.left (H1 := [p, q, r]) (H2 := [s]) h
/-- what a round comes to -/
def RndF (N n : Nat) (g : SS) (regs : List Int) : Prop := GOk N g.s ∧ Sf g.s regs ∧ g.cy ≤ 2 * n ∧ (∀ r ∈ regs, U r) ∧ regs.length = 8
theorem writeS_cy (g : SS) (z i y : Int) : (writeS g z i y).2.cy = g.cy := rfl
set_option maxRecDepth 10000 attribute [local irreducible] Code.wp wpList Calls Ex Op1 sat bat blk cb own Go.Fw.mp Go.Fw.mpO Go.Fw.mpI Go.Fw.mpE Go.Fw.itr HS Rd Ret wkD Hp Cl Cls Exit.then Exit.inBlock Exit.noGoto bodyPost Go.Fw.flat wk2 Go.Fw.all Go.Fw.owns wpOp
attribute [local irreducible] hdA gaps isA nextA allocA freeA sizeA kindA setA getA whiteZ numW addrW shadeG gcI hpI stepG beginG writeG allocG mu atA endS finG allocS setF txt wrd chunk bts orK shlK numV bytS strS textS stI sdI pickS writeS st0 rfI gdI liveN regN findI

set_option maxHeartbeats 8000000 in
theorem StoreFull_spec (w0 : World) (words : Int) (o2 : Option Addr) (c2 : Nat) (ls : List Stp) (size : Int) (hr : Rd w0 o2 (flat encT ls)) (hll : ls.length ≤ 9223372036854775807) :
    Ret Try.prog 4 #[.int .i64 words, .slice o2 ls.length c2, .int .i64 size] w0 (LawR w0) := by
  have hH : HS w0 noM [] w0 := HS.init w0 noM
  have hsp : Sp o2 ls.length := hr.sp (sz := 6) (flat_length encT_len ls) (by omega)
  (refine enter (N := 214) Try.func4 rfl Try.ntmps4 rfl ?_; intro a hA; dsimp only [sl0, Nat.reduceAdd] at hA)
  repeat' (first | (first | (refine GT ?_ ?_ <;> intro hg <;> clear hA a <;> intro a hA <;> (first | exact FA | replace hg := of_decide_eq_true hg | replace hg := of_decide_eq_false hg | skip)) | (refine QT ?_; clear hA a; intro a hA) | (first | (refine BT ?_; clear hA hH; rintro _ w ⟨bN, rfl, hH⟩ a hA) | (refine LT ?_; clear hA hH; rintro _ w ⟨oN, rfl, hH⟩ a hA) | (refine AT ?_; clear hA; rintro _ w ⟨oN, cN, rfl, hH2⟩ a hA; clear hH; have hH := (hH2 _ (by (repeat constructor))).tail; clear hH2) | (refine S0T ?_; clear hH; rintro _ w hH) )) | ((first | refine CT ?_ | (refine DT ?_ ?_ <;> intro hc <;> try (exfalso; omega))) <;> repeat' refine CT ?_) | (first | (refine DSK ?_; clear hA a; intro a hA) | (first | (refine DLT ?_; clear hA hH; rintro _ w ⟨oN, rfl, hH⟩; refine ⟨STT, ?_⟩; intro a hA) | (refine DAT ?_; clear hA; rintro _ w ⟨oN, cN, rfl, hH2⟩; clear hH; have hH := (hH2 _ (by (repeat constructor))).tail; clear hH2; refine ⟨STT, ?_⟩; intro a hA))) )
  (refine st_op hA rfl rfl (by decide) (op_call rfl rfl rfl (awake_spec _)) ?_; clear hA; rintro _ w ⟨rfl, hk⟩ a hA; replace hH := hH.keep hk; clear hk)
  repeat' (first | (first | (refine GT ?_ ?_ <;> intro hg <;> clear hA a <;> intro a hA <;> (first | exact FA | replace hg := of_decide_eq_true hg | replace hg := of_decide_eq_false hg | skip)) | (refine QT ?_; clear hA a; intro a hA) | (first | (refine BT ?_; clear hA hH; rintro _ w ⟨bN, rfl, hH⟩ a hA) | (refine LT ?_; clear hA hH; rintro _ w ⟨oN, rfl, hH⟩ a hA) | (refine AT ?_; clear hA; rintro _ w ⟨oN, cN, rfl, hH2⟩ a hA; clear hH; have hH := (hH2 _ (by (repeat constructor))).tail; clear hH2) | (refine S0T ?_; clear hH; rintro _ w hH) )) | ((first | refine CT ?_ | (refine DT ?_ ?_ <;> intro hc <;> try (exfalso; omega))) <;> repeat' refine CT ?_) | (first | (refine DSK ?_; clear hA a; intro a hA) | (first | (refine DLT ?_; clear hA hH; rintro _ w ⟨oN, rfl, hH⟩; refine ⟨STT, ?_⟩; intro a hA) | (refine DAT ?_; clear hA; rintro _ w ⟨oN, cN, rfl, hH2⟩; clear hH; have hH := (hH2 _ (by (repeat constructor))).tail; clear hH2; refine ⟨STT, ?_⟩; intro a hA))) )
  (refine st_op hA rfl rfl (by decide) (op_call rfl rfl rfl (new_st hH)) ?_; clear hA hH; rintro _ w (⟨rfl, h, hH⟩ | ⟨h, bs, rfl, hH⟩) a hA)
  · repeat' (first | (first | (refine GT ?_ ?_ <;> intro hg <;> clear hA a <;> intro a hA <;> (first | exact FA | replace hg := of_decide_eq_true hg | replace hg := of_decide_eq_false hg | skip)) | ((first | apply st_ex hA hH rfl rfl (by decide) | apply dr_ex hA rfl rfl rfl (by decide) | apply dr_exp hA rfl rfl rfl (by decide) | apply dr_ex3 hA hH rfl rfl rfl (by decide)); (first | (apply ex_eqlPf; rfl; rfl) | (apply ex_eqlPt; rfl; rfl) | (apply ex_neqPt; rfl; rfl) | (apply ex_neqPf; rfl; rfl)); clear hA a; intro a hA) | (refine QT ?_; clear hA a; intro a hA) | (first | (refine BT ?_; clear hA hH; rintro _ w ⟨bN, rfl, hH⟩ a hA) | (refine LT ?_; clear hA hH; rintro _ w ⟨oN, rfl, hH⟩ a hA) | (refine AT ?_; clear hA; rintro _ w ⟨oN, cN, rfl, hH2⟩ a hA; clear hH; have hH := (hH2 _ (by (repeat constructor))).tail; clear hH2) | (refine S0T ?_; clear hH; rintro _ w hH) )) | ((first | refine CT ?_ | (refine DT ?_ ?_ <;> intro hc <;> try (exfalso; omega))) <;> repeat' refine CT ?_) | (first | (refine DSK ?_; clear hA a; intro a hA) | (first | (refine DLT ?_; clear hA hH; rintro _ w ⟨oN, rfl, hH⟩; refine ⟨STT, ?_⟩; intro a hA) | (refine DAT ?_; clear hA; rintro _ w ⟨oN, cN, rfl, hH2⟩; clear hH; have hH := (hH2 _ (by (repeat constructor))).tail; clear hH2; refine ⟨STT, ?_⟩; intro a hA))) )
    (refine st_op hA rfl rfl (by decide) (op_call rfl rfl rfl (dsnew_f hH)) ?_; clear hA hH; rintro _ w (⟨rfl, h2, hH⟩ | ⟨h2, bm, rfl, hH⟩) a hA)
    rotate_left
    · exact absurd h2 h
    repeat' (first | (first | (refine GT ?_ ?_ <;> intro hg <;> clear hA a <;> intro a hA <;> (first | exact FA | replace hg := of_decide_eq_true hg | replace hg := of_decide_eq_false hg | skip)) | ((first | apply st_ex hA hH rfl rfl (by decide) | apply dr_ex hA rfl rfl rfl (by decide) | apply dr_exp hA rfl rfl rfl (by decide) | apply dr_ex3 hA hH rfl rfl rfl (by decide)); (first | (apply ex_eqlPf; rfl; rfl) | (apply ex_eqlPt; rfl; rfl) | (apply ex_neqPt; rfl; rfl) | (apply ex_neqPf; rfl; rfl)); clear hA a; intro a hA) | (refine QT ?_; clear hA a; intro a hA) | (first | (refine BT ?_; clear hA hH; rintro _ w ⟨bN, rfl, hH⟩ a hA) | (refine LT ?_; clear hA hH; rintro _ w ⟨oN, rfl, hH⟩ a hA) | (refine AT ?_; clear hA; rintro _ w ⟨oN, cN, rfl, hH2⟩ a hA; clear hH; have hH := (hH2 _ (by (repeat constructor))).tail; clear hH2) | (refine S0T ?_; clear hH; rintro _ w hH) )) | ((first | refine CT ?_ | (refine DT ?_ ?_ <;> intro hc <;> try (exfalso; omega))) <;> repeat' refine CT ?_) | (first | (refine DSK ?_; clear hA a; intro a hA) | (first | (refine DLT ?_; clear hA hH; rintro _ w ⟨oN, rfl, hH⟩; refine ⟨STT, ?_⟩; intro a hA) | (refine DAT ?_; clear hA; rintro _ w ⟨oN, cN, rfl, hH2⟩; clear hH; have hH := (hH2 _ (by (repeat constructor))).tail; clear hH2; refine ⟨STT, ?_⟩; intro a hA))) )
    exact rt1 (.inl rfl) rfl hA rfl ⟨rfl, hH.kp⟩
  obtain ⟨N, rfl⟩ : ∃ N : Nat, words = N := ⟨words.toNat, by omega⟩
  rw [Int.toNat_natCast, st0_n] at hH
  repeat' (first | (first | (refine GT ?_ ?_ <;> intro hg <;> clear hA a <;> intro a hA <;> (first | exact FA | replace hg := of_decide_eq_true hg | replace hg := of_decide_eq_false hg | skip)) | ((first | apply st_ex hA hH rfl rfl (by decide) | apply dr_ex hA rfl rfl rfl (by decide) | apply dr_exp hA rfl rfl rfl (by decide) | apply dr_ex3 hA hH rfl rfl rfl (by decide)); (first | (apply ex_eqlPf; rfl; rfl) | (apply ex_eqlPt; rfl; rfl) | (apply ex_neqPt; rfl; rfl) | (apply ex_neqPf; rfl; rfl)); clear hA a; intro a hA) | (refine QT ?_; clear hA a; intro a hA) | (first | (refine BT ?_; clear hA hH; rintro _ w ⟨bN, rfl, hH⟩ a hA) | (refine LT ?_; clear hA hH; rintro _ w ⟨oN, rfl, hH⟩ a hA) | (refine AT ?_; clear hA; rintro _ w ⟨oN, cN, rfl, hH2⟩ a hA; clear hH; have hH := (hH2 _ (by (repeat constructor))).tail; clear hH2) | (refine S0T ?_; clear hH; rintro _ w hH) )) | ((first | refine CT ?_ | (refine DT ?_ ?_ <;> intro hc <;> try (exfalso; omega))) <;> repeat' refine CT ?_) | (first | (refine DSK ?_; clear hA a; intro a hA) | (first | (refine DLT ?_; clear hA hH; rintro _ w ⟨oN, rfl, hH⟩; refine ⟨STT, ?_⟩; intro a hA) | (refine DAT ?_; clear hA; rintro _ w ⟨oN, cN, rfl, hH2⟩; clear hH; have hH := (hH2 _ (by (repeat constructor))).tail; clear hH2; refine ⟨STT, ?_⟩; intro a hA))) )
  (refine st_op hA rfl rfl (by decide) (op_call rfl rfl rfl (dsnew_f hH)) ?_; clear hA hH; rintro _ w (⟨rfl, h2, hH⟩ | ⟨h2, bm, rfl, hH⟩) a hA)
  · exact absurd h h2
  clear h2
  rw [Int.toNat_natCast, st0_n] at hH
  by_cases hbig : (N : Int) ≤ 2048
  rotate_left
  · repeat' (first | (first | (refine GT ?_ ?_ <;> intro hg <;> clear hA a <;> intro a hA <;> (first | exact FA | replace hg := of_decide_eq_true hg | replace hg := of_decide_eq_false hg | skip)) | ((first | apply st_ex hA hH rfl rfl (by decide) | apply dr_ex hA rfl rfl rfl (by decide) | apply dr_exp hA rfl rfl rfl (by decide) | apply dr_ex3 hA hH rfl rfl rfl (by decide)); (first | (apply ex_eqlPf; rfl; rfl) | (apply ex_eqlPt; rfl; rfl) | (apply ex_neqPt; rfl; rfl) | (apply ex_neqPf; rfl; rfl)); clear hA a; intro a hA) | (refine QT ?_; clear hA a; intro a hA) | (first | (refine BT ?_; clear hA hH; rintro _ w ⟨bN, rfl, hH⟩ a hA) | (refine LT ?_; clear hA hH; rintro _ w ⟨oN, rfl, hH⟩ a hA) | (refine AT ?_; clear hA; rintro _ w ⟨oN, cN, rfl, hH2⟩ a hA; clear hH; have hH := (hH2 _ (by (repeat constructor))).tail; clear hH2) | (refine S0T ?_; clear hH; rintro _ w hH) )) | ((first | refine CT ?_ | (refine DT ?_ ?_ <;> intro hc <;> try (exfalso; omega))) <;> repeat' refine CT ?_) | (first | (refine DSK ?_; clear hA a; intro a hA) | (first | (refine DLT ?_; clear hA hH; rintro _ w ⟨oN, rfl, hH⟩; refine ⟨STT, ?_⟩; intro a hA) | (refine DAT ?_; clear hA; rintro _ w ⟨oN, cN, rfl, hH2⟩; clear hH; have hH := (hH2 _ (by (repeat constructor))).tail; clear hH2; refine ⟨STT, ?_⟩; intro a hA))) )
    exact rt1 (.inl rfl) rfl hA rfl ⟨rfl, hH.kp⟩
  by_cases hz1 : 0 ≤ size
  rotate_left
  · repeat' (first | (first | (refine GT ?_ ?_ <;> intro hg <;> clear hA a <;> intro a hA <;> (first | exact FA | replace hg := of_decide_eq_true hg | replace hg := of_decide_eq_false hg | skip)) | ((first | apply st_ex hA hH rfl rfl (by decide) | apply dr_ex hA rfl rfl rfl (by decide) | apply dr_exp hA rfl rfl rfl (by decide) | apply dr_ex3 hA hH rfl rfl rfl (by decide)); (first | (apply ex_eqlPf; rfl; rfl) | (apply ex_eqlPt; rfl; rfl) | (apply ex_neqPt; rfl; rfl) | (apply ex_neqPf; rfl; rfl)); clear hA a; intro a hA) | (refine QT ?_; clear hA a; intro a hA) | (first | (refine BT ?_; clear hA hH; rintro _ w ⟨bN, rfl, hH⟩ a hA) | (refine LT ?_; clear hA hH; rintro _ w ⟨oN, rfl, hH⟩ a hA) | (refine AT ?_; clear hA; rintro _ w ⟨oN, cN, rfl, hH2⟩ a hA; clear hH; have hH := (hH2 _ (by (repeat constructor))).tail; clear hH2) | (refine S0T ?_; clear hH; rintro _ w hH) )) | ((first | refine CT ?_ | (refine DT ?_ ?_ <;> intro hc <;> try (exfalso; omega))) <;> repeat' refine CT ?_) | (first | (refine DSK ?_; clear hA a; intro a hA) | (first | (refine DLT ?_; clear hA hH; rintro _ w ⟨oN, rfl, hH⟩; refine ⟨STT, ?_⟩; intro a hA) | (refine DAT ?_; clear hA; rintro _ w ⟨oN, cN, rfl, hH2⟩; clear hH; have hH := (hH2 _ (by (repeat constructor))).tail; clear hH2; refine ⟨STT, ?_⟩; intro a hA))) )
    exact rt1 (.inl rfl) rfl hA rfl ⟨rfl, hH.kp⟩
  by_cases hz2 : size ≤ 4096
  rotate_left
  · repeat' (first | (first | (refine GT ?_ ?_ <;> intro hg <;> clear hA a <;> intro a hA <;> (first | exact FA | replace hg := of_decide_eq_true hg | replace hg := of_decide_eq_false hg | skip)) | ((first | apply st_ex hA hH rfl rfl (by decide) | apply dr_ex hA rfl rfl rfl (by decide) | apply dr_exp hA rfl rfl rfl (by decide) | apply dr_ex3 hA hH rfl rfl rfl (by decide)); (first | (apply ex_eqlPf; rfl; rfl) | (apply ex_eqlPt; rfl; rfl) | (apply ex_neqPt; rfl; rfl) | (apply ex_neqPf; rfl; rfl)); clear hA a; intro a hA) | (refine QT ?_; clear hA a; intro a hA) | (first | (refine BT ?_; clear hA hH; rintro _ w ⟨bN, rfl, hH⟩ a hA) | (refine LT ?_; clear hA hH; rintro _ w ⟨oN, rfl, hH⟩ a hA) | (refine AT ?_; clear hA; rintro _ w ⟨oN, cN, rfl, hH2⟩ a hA; clear hH; have hH := (hH2 _ (by (repeat constructor))).tail; clear hH2) | (refine S0T ?_; clear hH; rintro _ w hH) )) | ((first | refine CT ?_ | (refine DT ?_ ?_ <;> intro hc <;> try (exfalso; omega))) <;> repeat' refine CT ?_) | (first | (refine DSK ?_; clear hA a; intro a hA) | (first | (refine DLT ?_; clear hA hH; rintro _ w ⟨oN, rfl, hH⟩; refine ⟨STT, ?_⟩; intro a hA) | (refine DAT ?_; clear hA; rintro _ w ⟨oN, cN, rfl, hH2⟩; clear hH; have hH := (hH2 _ (by (repeat constructor))).tail; clear hH2; refine ⟨STT, ?_⟩; intro a hA))) )
    exact rt1 (.inl rfl) rfl hA rfl ⟨rfl, hH.kp⟩
  have hok0 := st0_ok (N := N) (by omega)
  repeat' (first | (first | (refine GT ?_ ?_ <;> intro hg <;> clear hA a <;> intro a hA <;> (first | exact FA | replace hg := of_decide_eq_true hg | replace hg := of_decide_eq_false hg | skip)) | ((first | apply st_ex hA hH rfl rfl (by decide) | apply dr_ex hA rfl rfl rfl (by decide) | apply dr_exp hA rfl rfl rfl (by decide) | apply dr_ex3 hA hH rfl rfl rfl (by decide)); (first | (apply ex_eqlPf; rfl; rfl) | (apply ex_eqlPt; rfl; rfl) | (apply ex_neqPt; rfl; rfl) | (apply ex_neqPf; rfl; rfl)); clear hA a; intro a hA) | (refine QT ?_; clear hA a; intro a hA) | (first | (refine BT ?_; clear hA hH; rintro _ w ⟨bN, rfl, hH⟩ a hA) | (refine LT ?_; clear hA hH; rintro _ w ⟨oN, rfl, hH⟩ a hA) | (refine AT ?_; clear hA; rintro _ w ⟨oN, cN, rfl, hH2⟩ a hA; clear hH; have hH := (hH2 _ (by (repeat constructor))).tail; clear hH2) | (refine S0T ?_; clear hH; rintro _ w hH) )) | ((first | refine CT ?_ | (refine DT ?_ ?_ <;> intro hc <;> try (exfalso; omega))) <;> repeat' refine CT ?_) | (first | (refine DSK ?_; clear hA a; intro a hA) | (first | (refine DLT ?_; clear hA hH; rintro _ w ⟨oN, rfl, hH⟩; refine ⟨STT, ?_⟩; intro a hA) | (refine DAT ?_; clear hA; rintro _ w ⟨oN, cN, rfl, hH2⟩; clear hH; have hH := (hH2 _ (by (repeat constructor))).tail; clear hH2; refine ⟨STT, ?_⟩; intro a hA))) )
  rw [eight_ones] at hH
  replace hH : HS w0 noM [stI bs N (st0 N), sdI bm N (st0 N), own 33 1 oN 8 8 (flat encW [1, 1, 1, 1, 1, 1, 1, 1])] w := hH.perm (by (repeat (first | exact List.Perm.nil | refine perm_pick 0 rfl ?_ | refine perm_pick 1 rfl ?_ | refine perm_pick 2 rfl ?_ | refine perm_pick 3 rfl ?_ | refine perm_pick 4 rfl ?_ | refine perm_pick 5 rfl ?_ | refine perm_pick 6 rfl ?_ | refine perm_pick 7 rfl ?_ | refine perm_pick 8 rfl ?_ | refine perm_pick 9 rfl ?_ | refine perm_pick 10 rfl ?_ | refine perm_pick 11 rfl ?_)))
  refine wp_lpj (S := Nat × SS × List Int) (fun q a w => (q.1 ≤ ls.length ∧ q.1 ≤ 200 ∧ RndF N q.1 q.2.1 q.2.2) ∧ HS w0 noM [stI bs N q.2.1, sdI bm N q.2.1, own 33 1 oN 8 8 (flat encW q.2.2)] w ∧ Sl 214 [(0, .int .i64 N), (1, .slice o2 ls.length c2), (2, .int .i64 size), (7, .pointer (some (bat bs 0))), (8, .pointer (some (bat bm 0))), (9, .slice oN 8 8), (10, .int .i64 q.1)] a) (fun q => ls.length - q.1)
    (fun a w => ∃ (g : SS) (regs : List Int), RndF N 200 g regs ∧ HS w0 noM [stI bs N g, sdI bm N g, own 33 1 oN 8 8 (flat encW regs)] w ∧ Sl 214 [(0, .int .i64 N), (2, .int .i64 size), (7, .pointer (some (bat bs 0))), (8, .pointer (some (bat bm 0))), (9, .slice oN 8 8)] a) (0, st0 N, [1, 1, 1, 1, 1, 1, 1, 1]) ⟨⟨Nat.zero_le _, Nat.zero_le _, hok0, Sf_st0 N, by rw [st0_cy]; exact Nat.zero_le _, ones8_U, rfl⟩, hH, (hA.sub (by (repeat (first | exact trivial | refine ⟨rfl, ?_⟩))))⟩ ?_ ?_
  · clear hA hH
    rintro ⟨i, g, regs⟩ a w ⟨⟨hi, hi2, hok, hSf, hcy, hUr, hrl⟩, hH, hA⟩
    dsimp only at hi hi2 hok hSf hcy hUr hrl hH hA
    by_cases hlt : i < ls.length ∧ i < 200
    rotate_left
    · repeat' (first | (first | (refine GT ?_ ?_ <;> intro hg <;> clear hA a <;> intro a hA <;> (first | exact FA | replace hg := of_decide_eq_true hg | replace hg := of_decide_eq_false hg | skip)) | (refine QT ?_; clear hA a; intro a hA) | (first | (refine BT ?_; clear hA hH; rintro _ w ⟨bN, rfl, hH⟩ a hA) | (refine LT ?_; clear hA hH; rintro _ w ⟨oN, rfl, hH⟩ a hA) | (refine AT ?_; clear hA; rintro _ w ⟨oN, cN, rfl, hH2⟩ a hA; clear hH; have hH := (hH2 _ (by (repeat constructor))).tail; clear hH2) | (refine S0T ?_; clear hH; rintro _ w hH) )) | ((first | refine CT ?_ | (refine DT ?_ ?_ <;> intro hc <;> try (exfalso; omega))) <;> repeat' refine CT ?_) | (first | (refine DSK ?_; clear hA a; intro a hA) | (first | (refine DLT ?_; clear hA hH; rintro _ w ⟨oN, rfl, hH⟩; refine ⟨STT, ?_⟩; intro a hA) | (refine DAT ?_; clear hA; rintro _ w ⟨oN, cN, rfl, hH2⟩; clear hH; have hH := (hH2 _ (by (repeat constructor))).tail; clear hH2; refine ⟨STT, ?_⟩; intro a hA))) )
      all_goals exact ⟨g, regs, ⟨hok, hSf, by omega, hUr, hrl⟩, hH, (hA.sub (by (repeat (first | exact trivial | refine ⟨rfl, ?_⟩))))⟩
    obtain ⟨hlt, h200⟩ := hlt
    obtain ⟨⟨⟨x0, x1, x2, x3, x4⟩, xt⟩, hx⟩ : ∃ x, ls[i]? = some x := ⟨_, List.getElem?_eq_getElem hlt⟩
    have hvs := flat_all encT_len hx
    have hp8 := (reg_facts x1).2.1
    have hq8 := (reg_facts x2).2.1
    obtain ⟨n, hn6, hn, hni⟩ := umod6b x4
    obtain ⟨rp, hrp⟩ : ∃ r, regs[regN x1]? = some r := ⟨_, List.getElem?_eq_getElem (by omega)⟩
    obtain ⟨rq, hrq⟩ : ∃ r, regs[regN x2]? = some r := ⟨_, List.getElem?_eq_getElem (by omega)⟩
    have hcp : (flat encW regs)[regN x1 * 1]? = some (.int .u64 rp) := flat_get0 encW_len hrp rfl
    have hcq : (flat encW regs)[regN x2 * 1]? = some (.int .u64 rq) := flat_get0 encW_len hrq rfl
    have hUp := hUr rp (List.mem_of_getElem? hrp)
    have hUq := hUr rq (List.mem_of_getElem? hrq)
    have hGp := hSf.gd rp (List.mem_of_getElem? hrp)
    have hGq := hSf.gd rq (List.mem_of_getElem? hrq)
    have hspR : Sp oN 8 := hH.own_sp (o := oN) (by exact MEMT)
    repeat' (first | (first | (refine GT ?_ ?_ <;> intro hg <;> clear hA a <;> intro a hA <;> (first | exact FA | replace hg := of_decide_eq_true hg | replace hg := of_decide_eq_false hg | skip)) | ((first | apply st_ex hA hH rfl rfl (by decide) | apply dr_ex hA rfl rfl rfl (by decide) | apply dr_exp hA rfl rfl rfl (by decide) | apply dr_ex3 hA hH rfl rfl rfl (by decide)); (first | (apply ex_load_st (vs := [.int .i64 x0, .int .i64 x1, .int .i64 x2, .int .i64 x3, .int .i64 x4, .string xt]); rfl; rfl; exact cls_rd hr id hvs)); clear hA a; intro a hA) | (refine QT ?_; clear hA a; intro a hA) | (first | (refine BT ?_; clear hA hH; rintro _ w ⟨bN, rfl, hH⟩ a hA) | (refine LT ?_; clear hA hH; rintro _ w ⟨oN, rfl, hH⟩ a hA) | (refine AT ?_; clear hA; rintro _ w ⟨oN, cN, rfl, hH2⟩ a hA; clear hH; have hH := (hH2 _ (by (repeat constructor))).tail; clear hH2) | (refine S0T ?_; clear hH; rintro _ w hH) | (apply st_op0 hA rfl rfl; apply op_store_agg (vs := [.int .i64 x0, .int .i64 x1, .int .i64 x2, .int .i64 x3, .int .i64 x4, .string xt]); rfl; rfl; exact hH; (repeat constructor); (repeat rfl); clear hH; rintro _ w hH))) | ((first | refine CT ?_ | (refine DT ?_ ?_ <;> intro hc <;> try (exfalso; omega))) <;> repeat' refine CT ?_) | (first | (refine DSK ?_; clear hA a; intro a hA) | (first | (refine DLT ?_; clear hA hH; rintro _ w ⟨oN, rfl, hH⟩; refine ⟨STT, ?_⟩; intro a hA) | (refine DAT ?_; clear hA; rintro _ w ⟨oN, cN, rfl, hH2⟩; clear hH; have hH := (hH2 _ (by (repeat constructor))).tail; clear hH2; refine ⟨STT, ?_⟩; intro a hA))) )
    replace hH : HS w0 noM [stI bs N g, sdI bm N g, own 33 1 oN 8 8 (flat encW regs), cb bN 30 [.int .i64 x0, .int .i64 x1, .int .i64 x2, .int .i64 x3, .int .i64 x4, .string xt]] w := hH.perm (by (repeat (first | exact List.Perm.nil | refine perm_pick 0 rfl ?_ | refine perm_pick 1 rfl ?_ | refine perm_pick 2 rfl ?_ | refine perm_pick 3 rfl ?_ | refine perm_pick 4 rfl ?_ | refine perm_pick 5 rfl ?_ | refine perm_pick 6 rfl ?_ | refine perm_pick 7 rfl ?_ | refine perm_pick 8 rfl ?_ | refine perm_pick 9 rfl ?_ | refine perm_pick 10 rfl ?_ | refine perm_pick 11 rfl ?_)))
    (refine wp_draw_HS [(0, 1), (1, 1), (3, 1), (4, 1), (2, 0), (5, 0), (6, 1), (7, 1)] mixed (by decide +kernel) hH ?_; replace hH := hH.drew)
    repeat' (first | (first | (refine GT ?_ ?_ <;> intro hg <;> clear hA a <;> intro a hA <;> (first | exact FA | replace hg := of_decide_eq_true hg | replace hg := of_decide_eq_false hg | skip)) | (refine QT ?_; clear hA a; intro a hA) | (first | (refine BT ?_; clear hA hH; rintro _ w ⟨bN, rfl, hH⟩ a hA) | (refine LT ?_; clear hA hH; rintro _ w ⟨oN, rfl, hH⟩ a hA) | (refine AT ?_; clear hA; rintro _ w ⟨oN, cN, rfl, hH2⟩ a hA; clear hH; have hH := (hH2 _ (by (repeat constructor))).tail; clear hH2) | (refine S0T ?_; clear hH; rintro _ w hH) )) | ((first | refine CT ?_ | (refine DT ?_ ?_ <;> intro hc <;> try (exfalso; omega))) <;> repeat' refine CT ?_) | (first | (refine DSK ?_; clear hA a; intro a hA) | (first | (refine DLT ?_; clear hA hH; rintro _ w ⟨oN, rfl, hH⟩; refine ⟨STT, ?_⟩; intro a hA) | (refine DAT ?_; clear hA; rintro _ w ⟨oN, cN, rfl, hH2⟩; clear hH; have hH := (hH2 _ (by (repeat constructor))).tail; clear hH2; refine ⟨STT, ?_⟩; intro a hA))) )
    (refine dr_op hA rfl rfl rfl (by decide) (op_call rfl rfl rfl (reg_spec _ x1)) ?_; clear hA; rintro _ w ⟨rfl, hk⟩; replace hH := hH.keep hk; clear hk; refine ⟨STT, ?_⟩; intro a hA)
    repeat' (first | (first | (refine GT ?_ ?_ <;> intro hg <;> clear hA a <;> intro a hA <;> (first | exact FA | replace hg := of_decide_eq_true hg | replace hg := of_decide_eq_false hg | skip)) | (refine QT ?_; clear hA a; intro a hA) | (first | (refine BT ?_; clear hA hH; rintro _ w ⟨bN, rfl, hH⟩ a hA) | (refine LT ?_; clear hA hH; rintro _ w ⟨oN, rfl, hH⟩ a hA) | (refine AT ?_; clear hA; rintro _ w ⟨oN, cN, rfl, hH2⟩ a hA; clear hH; have hH := (hH2 _ (by (repeat constructor))).tail; clear hH2) | (refine S0T ?_; clear hH; rintro _ w hH) )) | ((first | refine CT ?_ | (refine DT ?_ ?_ <;> intro hc <;> try (exfalso; omega))) <;> repeat' refine CT ?_) | (first | (refine DSK ?_; clear hA a; intro a hA) | (first | (refine DLT ?_; clear hA hH; rintro _ w ⟨oN, rfl, hH⟩; refine ⟨STT, ?_⟩; intro a hA) | (refine DAT ?_; clear hA; rintro _ w ⟨oN, cN, rfl, hH2⟩; clear hH; have hH := (hH2 _ (by (repeat constructor))).tail; clear hH2; refine ⟨STT, ?_⟩; intro a hA))) )
    (refine dr_op hA rfl rfl rfl (by decide) (op_call rfl rfl rfl (reg_spec _ x2)) ?_; clear hA; rintro _ w ⟨rfl, hk⟩; replace hH := hH.keep hk; clear hk; refine ⟨STT, ?_⟩; intro a hA)
    generalize regN x1 = p at *
    generalize regN x2 = q at *
    repeat' (first | (first | (refine GT ?_ ?_ <;> intro hg <;> clear hA a <;> intro a hA <;> (first | exact FA | replace hg := of_decide_eq_true hg | replace hg := of_decide_eq_false hg | skip)) | ((first | apply st_ex hA hH rfl rfl (by decide) | apply dr_ex hA rfl rfl rfl (by decide) | apply dr_exp hA rfl rfl rfl (by decide) | apply dr_ex3 hA hH rfl rfl rfl (by decide)); (first | (apply ex_convert (v := IntKind.u64.wrap x4); rfl; rfl) | (apply ex_convert (v := (n : Int)); rfl; (rw [hn]; exact hni))); clear hA a; intro a hA) | (refine QT ?_; clear hA a; intro a hA) | (first | (refine BT ?_; clear hA hH; rintro _ w ⟨bN, rfl, hH⟩ a hA) | (refine LT ?_; clear hA hH; rintro _ w ⟨oN, rfl, hH⟩ a hA) | (refine AT ?_; clear hA; rintro _ w ⟨oN, cN, rfl, hH2⟩ a hA; clear hH; have hH := (hH2 _ (by (repeat constructor))).tail; clear hH2) | (refine S0T ?_; clear hH; rintro _ w hH) | (apply st_op0 hA rfl rfl; apply op_set1 (enc := encW) (y0 := 1) (j := p * 1); rfl; rfl; rfl; rfl; exact encW_len; exact hH; (repeat constructor); omega; clear hH; rintro _ w hH))) | ((first | refine CT ?_ | (refine DT ?_ ?_ <;> intro hc <;> try (exfalso; omega))) <;> repeat' refine CT ?_) | (first | (refine DSK ?_; clear hA a; intro a hA) | (first | (refine DLT ?_; clear hA hH; rintro _ w ⟨oN, rfl, hH⟩; refine ⟨STT, ?_⟩; intro a hA) | (refine DAT ?_; clear hA; rintro _ w ⟨oN, cN, rfl, hH2⟩; clear hH; have hH := (hH2 _ (by (repeat constructor))).tail; clear hH2; refine ⟨STT, ?_⟩; intro a hA))) )
    · -- Alloc
      have hal := salloc_f (k := 6) (z := n) (roots := regs) (oR := oN) (cR := 8) hH hok (by omega) hUr (by omega) (fun Hc w2 h => h.own_rd (List.mem_append_right _ (.tail _ (.head _))))
      rw [hrl] at hal
      (refine st_op hA rfl rfl (by decide) (op_call rfl rfl rfl (hal)) ?_; clear hA hH; rintro _ w ⟨rfl, hH⟩ a hA)
      repeat' (first | (first | (refine GT ?_ ?_ <;> intro hg <;> clear hA a <;> intro a hA <;> (first | exact FA | replace hg := of_decide_eq_true hg | replace hg := of_decide_eq_false hg | skip)) | ((first | apply st_ex hA hH rfl rfl (by decide) | apply dr_ex hA rfl rfl rfl (by decide) | apply dr_exp hA rfl rfl rfl (by decide) | apply dr_ex3 hA hH rfl rfl rfl (by decide)); (first | (apply ex_convert (v := IntKind.u64.wrap x4); rfl; rfl) | (apply ex_convert (v := (n : Int)); rfl; (rw [hn]; exact hni))); clear hA a; intro a hA) | (refine QT ?_; clear hA a; intro a hA) | (first | (refine BT ?_; clear hA hH; rintro _ w ⟨bN, rfl, hH⟩ a hA) | (refine LT ?_; clear hA hH; rintro _ w ⟨oN, rfl, hH⟩ a hA) | (refine AT ?_; clear hA; rintro _ w ⟨oN, cN, rfl, hH2⟩ a hA; clear hH; have hH := (hH2 _ (by (repeat constructor))).tail; clear hH2) | (refine S0T ?_; clear hH; rintro _ w hH) )) | ((first | refine CT ?_ | (refine DT ?_ ?_ <;> intro hc <;> try (exfalso; omega))) <;> repeat' refine CT ?_) | (first | (refine DSK ?_; clear hA a; intro a hA) | (first | (refine DLT ?_; clear hA hH; rintro _ w ⟨oN, rfl, hH⟩; refine ⟨STT, ?_⟩; intro a hA) | (refine DAT ?_; clear hA; rintro _ w ⟨oN, cN, rfl, hH2⟩; clear hH; have hH := (hH2 _ (by (repeat constructor))).tail; clear hH2; refine ⟨STT, ?_⟩; intro a hA))) )
      replace hH := hH.perm (.swap _ _ _)
      have hal2 := dsalloc_f (k := 6) (z := n) (roots := regs) (oR := oN) (cR := 8) hH hok (by omega) hUr (by omega) (fun Hc w2 h => h.own_rd (List.mem_append_right _ (.tail _ (.head _))))
      rw [hrl] at hal2
      (refine st_op hA rfl rfl (by decide) (op_call rfl rfl rfl (hal2)) ?_; clear hA hH; rintro _ w ⟨rfl, hH⟩ a hA)
      replace hH := hH.perm (.swap _ _ _)
      have hokr := allocS_ok hok 6 n regs
      have hUw := allocS_U hok 6 n regs
      have hcyr := allocS_cy (N := N) (g := g) (k := 6) (z := n) (roots := regs)
      obtain ⟨hSr, hGr⟩ := allocS_Sf hok hSf n
      generalize allocS N g 6 n regs = r at *
      repeat' (first | (first | (refine GT ?_ ?_ <;> intro hg <;> clear hA a <;> intro a hA <;> (first | exact FA | replace hg := of_decide_eq_true hg | replace hg := of_decide_eq_false hg | skip)) | (refine QT ?_; clear hA a; intro a hA) | (first | (refine BT ?_; clear hA hH; rintro _ w ⟨bN, rfl, hH⟩ a hA) | (refine LT ?_; clear hA hH; rintro _ w ⟨oN, rfl, hH⟩ a hA) | (refine AT ?_; clear hA; rintro _ w ⟨oN, cN, rfl, hH2⟩ a hA; clear hH; have hH := (hH2 _ (by (repeat constructor))).tail; clear hH2) | (refine S0T ?_; clear hH; rintro _ w hH) | (apply st_op0 hA rfl rfl; apply op_set1 (enc := encW) (y0 := r.1) (j := p * 1); rfl; rfl; rfl; rfl; exact encW_len; exact hH; (repeat constructor); omega; clear hH; rintro _ w hH))) | ((first | refine CT ?_ | (refine DT ?_ ?_ <;> intro hc <;> try (exfalso; omega))) <;> repeat' refine CT ?_) | (first | (refine DSK ?_; clear hA a; intro a hA) | (first | (refine DLT ?_; clear hA hH; rintro _ w ⟨oN, rfl, hH⟩; refine ⟨STT, ?_⟩; intro a hA) | (refine DAT ?_; clear hA; rintro _ w ⟨oN, cN, rfl, hH2⟩; clear hH; have hH := (hH2 _ (by (repeat constructor))).tail; clear hH2; refine ⟨STT, ?_⟩; intro a hA))) )
      · rw [Nat.mul_one] at hH
        exact ⟨(i + 1, r.2.2, regs.set p r.1), ⟨⟨hlt, h200, hokr, Sf_setR hSr (hGr (by assumption)), by dsimp only; omega, fun y hy => (by rcases mem_setW hy with h | h; exact hUr y h; subst h; exact hUw), by rw [List.length_set]; exact hrl⟩, HS.cutN hH, (hA.sub (by (repeat (first | exact trivial | refine ⟨rfl, ?_⟩))))⟩, by show ls.length - (i + 1) < ls.length - i; omega⟩
      · exact ⟨(i + 1, r.2.2, regs), ⟨⟨hlt, h200, hokr, hSr, by dsimp only; omega, hUr, hrl⟩, HS.cutN hH, (hA.sub (by (repeat (first | exact trivial | refine ⟨rfl, ?_⟩))))⟩, by show ls.length - (i + 1) < ls.length - i; omega⟩
    · -- Set
      have hokW := writeS_ok (z := (atA g.s.L rp : Nat)) (i := x4) hok hUq
      have hSw := writeS_Sf (i := x4) hok hSf hGp hGq
      (refine wp_draw2_HS [(0, 1), (1, 1), (2, 1), (3, 1), (4, 1), (5, 1), (6, 1), (7, 1), (8, 1), (9, 1), (10, 1)] [11] mixed (by decide +kernel) hH ?_; replace hH := hH.drew)
      repeat' (first | (first | (refine GT ?_ ?_ <;> intro hg <;> clear hA a <;> intro a hA <;> (first | exact FA | replace hg := of_decide_eq_true hg | replace hg := of_decide_eq_false hg | skip)) | (refine QT ?_; clear hA a; intro a hA) | (first | (refine BT ?_; clear hA hH; rintro _ w ⟨bN, rfl, hH⟩ a hA) | (refine LT ?_; clear hA hH; rintro _ w ⟨oN, rfl, hH⟩ a hA) | (refine AT ?_; clear hA; rintro _ w ⟨oN, cN, rfl, hH2⟩ a hA; clear hH; have hH := (hH2 _ (by (repeat constructor))).tail; clear hH2) | (refine S0T ?_; clear hH; rintro _ w hH) )) | ((first | refine CT ?_ | (refine DT ?_ ?_ <;> intro hc <;> try (exfalso; omega))) <;> repeat' refine CT ?_) | (first | (refine DSK ?_; clear hA a; intro a hA) | (first | (refine DLT ?_; clear hA hH; rintro _ w ⟨oN, rfl, hH⟩; refine ⟨STT, ?_⟩; intro a hA) | (refine DAT ?_; clear hA; rintro _ w ⟨oN, cN, rfl, hH2⟩; clear hH; have hH := (hH2 _ (by (repeat constructor))).tail; clear hH2; refine ⟨STT, ?_⟩; intro a hA))) )
      (refine dr_op3 hA rfl rfl rfl (by decide) (op_call rfl rfl rfl (sset_f hH hok hUp)) ?_; clear hA hH; rintro _ w ⟨rfl, hH⟩; intro a hA)
      repeat' (first | (first | (refine GT ?_ ?_ <;> intro hg <;> clear hA a <;> intro a hA <;> (first | exact FA | replace hg := of_decide_eq_true hg | replace hg := of_decide_eq_false hg | skip)) | (refine QT ?_; clear hA a; intro a hA) | (first | (refine BT ?_; clear hA hH; rintro _ w ⟨bN, rfl, hH⟩ a hA) | (refine LT ?_; clear hA hH; rintro _ w ⟨oN, rfl, hH⟩ a hA) | (refine AT ?_; clear hA; rintro _ w ⟨oN, cN, rfl, hH2⟩ a hA; clear hH; have hH := (hH2 _ (by (repeat constructor))).tail; clear hH2) | (refine S0T ?_; clear hH; rintro _ w hH) )) | ((first | refine CT ?_ | (refine DT ?_ ?_ <;> intro hc <;> try (exfalso; omega))) <;> repeat' refine CT ?_) | (first | (refine DSK ?_; clear hA a; intro a hA) | (first | (refine DLT ?_; clear hA hH; rintro _ w ⟨oN, rfl, hH⟩; refine ⟨STT, ?_⟩; intro a hA) | (refine DAT ?_; clear hA; rintro _ w ⟨oN, cN, rfl, hH2⟩; clear hH; have hH := (hH2 _ (by (repeat constructor))).tail; clear hH2; refine ⟨STT, ?_⟩; intro a hA))) )
      replace hH := hH.perm (.swap _ _ _)
      (refine wp_draw2_HS [(0, 1), (1, 1), (2, 1), (3, 1), (4, 1), (5, 1), (6, 1), (7, 1), (8, 1), (9, 1), (10, 1)] [11] mixed (by decide +kernel) hH ?_; replace hH := hH.drew)
      repeat' (first | (first | (refine GT ?_ ?_ <;> intro hg <;> clear hA a <;> intro a hA <;> (first | exact FA | replace hg := of_decide_eq_true hg | replace hg := of_decide_eq_false hg | skip)) | (refine QT ?_; clear hA a; intro a hA) | (first | (refine BT ?_; clear hA hH; rintro _ w ⟨bN, rfl, hH⟩ a hA) | (refine LT ?_; clear hA hH; rintro _ w ⟨oN, rfl, hH⟩ a hA) | (refine AT ?_; clear hA; rintro _ w ⟨oN, cN, rfl, hH2⟩ a hA; clear hH; have hH := (hH2 _ (by (repeat constructor))).tail; clear hH2) | (refine S0T ?_; clear hH; rintro _ w hH) )) | ((first | refine CT ?_ | (refine DT ?_ ?_ <;> intro hc <;> try (exfalso; omega))) <;> repeat' refine CT ?_) | (first | (refine DSK ?_; clear hA a; intro a hA) | (first | (refine DLT ?_; clear hA hH; rintro _ w ⟨oN, rfl, hH⟩; refine ⟨STT, ?_⟩; intro a hA) | (refine DAT ?_; clear hA; rintro _ w ⟨oN, cN, rfl, hH2⟩; clear hH; have hH := (hH2 _ (by (repeat constructor))).tail; clear hH2; refine ⟨STT, ?_⟩; intro a hA))) )
      (refine dr_op3 hA rfl rfl rfl (by decide) (op_call rfl rfl rfl (dsset_f hH hok hUp)) ?_; clear hA hH; rintro _ w ⟨rfl, hH⟩; intro a hA)
      replace hH := hH.perm (.swap _ _ _)
      have hcw := writeS_cy g (atA g.s.L rp : Nat) x4 rq
      generalize (writeS g (atA g.s.L rp : Nat) x4 rq).2 = g' at *
      repeat' (first | (first | (refine GT ?_ ?_ <;> intro hg <;> clear hA a <;> intro a hA <;> (first | exact FA | replace hg := of_decide_eq_true hg | replace hg := of_decide_eq_false hg | skip)) | (refine QT ?_; clear hA a; intro a hA) | (first | (refine BT ?_; clear hA hH; rintro _ w ⟨bN, rfl, hH⟩ a hA) | (refine LT ?_; clear hA hH; rintro _ w ⟨oN, rfl, hH⟩ a hA) | (refine AT ?_; clear hA; rintro _ w ⟨oN, cN, rfl, hH2⟩ a hA; clear hH; have hH := (hH2 _ (by (repeat constructor))).tail; clear hH2) | (refine S0T ?_; clear hH; rintro _ w hH) )) | ((first | refine CT ?_ | (refine DT ?_ ?_ <;> intro hc <;> try (exfalso; omega))) <;> repeat' refine CT ?_) | (first | (refine DSK ?_; clear hA a; intro a hA) | (first | (refine DLT ?_; clear hA hH; rintro _ w ⟨oN, rfl, hH⟩; refine ⟨STT, ?_⟩; intro a hA) | (refine DAT ?_; clear hA; rintro _ w ⟨oN, cN, rfl, hH2⟩; clear hH; have hH := (hH2 _ (by (repeat constructor))).tail; clear hH2; refine ⟨STT, ?_⟩; intro a hA))) )
      exact ⟨(i + 1, g', regs), ⟨⟨hlt, h200, hokW, hSw, by dsimp only; omega, hUr, hrl⟩, HS.cutN hH, (hA.sub (by (repeat (first | exact trivial | refine ⟨rfl, ?_⟩))))⟩, by show ls.length - (i + 1) < ls.length - i; omega⟩
    · -- Pick
      have hpk := spick_f (roots := regs) (oR := oN) (cR := 8) hH hok (by omega) hUr (by omega) (fun Hc w2 h => h.own_rd (List.mem_append_right _ (.tail _ (.head _))))
      rw [hrl] at hpk
      (refine st_op hA rfl rfl (by decide) (op_call rfl rfl rfl (hpk)) ?_; clear hA hH; rintro _ w hH a hA)
      repeat' (first | (first | (refine GT ?_ ?_ <;> intro hg <;> clear hA a <;> intro a hA <;> (first | exact FA | replace hg := of_decide_eq_true hg | replace hg := of_decide_eq_false hg | skip)) | (refine QT ?_; clear hA a; intro a hA) | (first | (refine BT ?_; clear hA hH; rintro _ w ⟨bN, rfl, hH⟩ a hA) | (refine LT ?_; clear hA hH; rintro _ w ⟨oN, rfl, hH⟩ a hA) | (refine AT ?_; clear hA; rintro _ w ⟨oN, cN, rfl, hH2⟩ a hA; clear hH; have hH := (hH2 _ (by (repeat constructor))).tail; clear hH2) | (refine S0T ?_; clear hH; rintro _ w hH) )) | ((first | refine CT ?_ | (refine DT ?_ ?_ <;> intro hc <;> try (exfalso; omega))) <;> repeat' refine CT ?_) | (first | (refine DSK ?_; clear hA a; intro a hA) | (first | (refine DLT ?_; clear hA hH; rintro _ w ⟨oN, rfl, hH⟩; refine ⟨STT, ?_⟩; intro a hA) | (refine DAT ?_; clear hA; rintro _ w ⟨oN, cN, rfl, hH2⟩; clear hH; have hH := (hH2 _ (by (repeat constructor))).tail; clear hH2; refine ⟨STT, ?_⟩; intro a hA))) )
      replace hH := hH.perm (.swap _ _ _)
      have hpk2 := dspick_f (roots := regs) (oR := oN) (cR := 8) hH hok (by omega) hUr (by omega) (fun Hc w2 h => h.own_rd (List.mem_append_right _ (.tail _ (.head _))))
      rw [hrl] at hpk2
      (refine st_op hA rfl rfl (by decide) (op_call rfl rfl rfl (hpk2)) ?_; clear hA hH; rintro _ w hH a hA)
      replace hH := hH.perm (.swap _ _ _)
      have hokP := pickS_ok hok regs
      have hSP := pickS_Sf hok hSf
      have hcyP := pick_cy (g := g) (roots := regs)
      generalize pickS g regs = g' at *
      repeat' (first | (first | (refine GT ?_ ?_ <;> intro hg <;> clear hA a <;> intro a hA <;> (first | exact FA | replace hg := of_decide_eq_true hg | replace hg := of_decide_eq_false hg | skip)) | (refine QT ?_; clear hA a; intro a hA) | (first | (refine BT ?_; clear hA hH; rintro _ w ⟨bN, rfl, hH⟩ a hA) | (refine LT ?_; clear hA hH; rintro _ w ⟨oN, rfl, hH⟩ a hA) | (refine AT ?_; clear hA; rintro _ w ⟨oN, cN, rfl, hH2⟩ a hA; clear hH; have hH := (hH2 _ (by (repeat constructor))).tail; clear hH2) | (refine S0T ?_; clear hH; rintro _ w hH) )) | ((first | refine CT ?_ | (refine DT ?_ ?_ <;> intro hc <;> try (exfalso; omega))) <;> repeat' refine CT ?_) | (first | (refine DSK ?_; clear hA a; intro a hA) | (first | (refine DLT ?_; clear hA hH; rintro _ w ⟨oN, rfl, hH⟩; refine ⟨STT, ?_⟩; intro a hA) | (refine DAT ?_; clear hA; rintro _ w ⟨oN, cN, rfl, hH2⟩; clear hH; have hH := (hH2 _ (by (repeat constructor))).tail; clear hH2; refine ⟨STT, ?_⟩; intro a hA))) )
      exact ⟨(i + 1, g', regs), ⟨⟨hlt, h200, hokP, hSP, by dsimp only; omega, hUr, hrl⟩, HS.cutN hH, (hA.sub (by (repeat (first | exact trivial | refine ⟨rfl, ?_⟩))))⟩, by show ls.length - (i + 1) < ls.length - i; omega⟩
    · rw [Nat.mul_one] at hH
      exact ⟨(i + 1, g, regs.set p 1), ⟨⟨hlt, h200, hok, Sf_setR hSf (.inl num1), by dsimp only; omega, fun y hy => (by rcases mem_setW hy with h | h; exact hUr y h; subst h; exact U1), by rw [List.length_set]; exact hrl⟩, HS.cutN hH, (hA.sub (by (repeat (first | exact trivial | refine ⟨rfl, ?_⟩))))⟩, by show ls.length - (i + 1) < ls.length - i; omega⟩
  clear hA hH
  rintro a w ⟨g, regs, ⟨hok, hSf, hcy, hUr, hrl⟩, hH, hA⟩
  obtain ⟨bd, b2, hH2⟩ := sd_open (hH.perm (H' := [sdI bm N g, stI bs N g, own 33 1 oN 8 8 (flat encW regs)]) (by (repeat (first | exact List.Perm.nil | refine perm_pick 0 rfl ?_ | refine perm_pick 1 rfl ?_ | refine perm_pick 2 rfl ?_ | refine perm_pick 3 rfl ?_ | refine perm_pick 4 rfl ?_ | refine perm_pick 5 rfl ?_ | refine perm_pick 6 rfl ?_ | refine perm_pick 7 rfl ?_ | refine perm_pick 8 rfl ?_ | refine perm_pick 9 rfl ?_ | refine perm_pick 10 rfl ?_ | refine perm_pick 11 rfl ?_))))
  clear hH
  have hH : HS w0 noM [gdI bd b2 g.s, rfI b2 N g.s.L, cb bm 51 [.pointer (some (bat bd 0)), .int .i64 g.cy], stI bs N g, own 33 1 oN 8 8 (flat encW regs)] w := hH2
  clear hH2
  have hl := hok.lay
  have hRR : Rd w oN (flat encW regs) := hH.own_rd (.tail _ (.tail _ (.tail _ (.tail _ (.head _)))))
  have hspR : Sp oN 8 := hH.own_sp (o := oN) (by exact MEMT)
  have hclo := Closure_spec w b2 N g.s.L oN 8 regs (gokOk hok) hok.us (rf_readM hH (by exact MEMT)) hRR hUr (by omega)
  rw [hrl] at hclo
  repeat' (first | (first | (refine GT ?_ ?_ <;> intro hg <;> clear hA a <;> intro a hA <;> (first | exact FA | replace hg := of_decide_eq_true hg | replace hg := of_decide_eq_false hg | skip)) | ((first | apply st_ex hA hH rfl rfl (by decide) | apply dr_ex hA rfl rfl rfl (by decide) | apply dr_exp hA rfl rfl rfl (by decide) | apply dr_ex3 hA hH rfl rfl rfl (by decide)); (first | (apply ex_load; rfl; exact dcl_h MEMT) | (apply ex_load; rfl; exact dcl_p MEMT)); clear hA a; intro a hA) | (refine QT ?_; clear hA a; intro a hA) | (first | (refine BT ?_; clear hA hH; rintro _ w ⟨bN, rfl, hH⟩ a hA) | (refine LT ?_; clear hA hH; rintro _ w ⟨oN, rfl, hH⟩ a hA) | (refine AT ?_; clear hA; rintro _ w ⟨oN, cN, rfl, hH2⟩ a hA; clear hH; have hH := (hH2 _ (by (repeat constructor))).tail; clear hH2) | (refine S0T ?_; clear hH; rintro _ w hH) )) | ((first | refine CT ?_ | (refine DT ?_ ?_ <;> intro hc <;> try (exfalso; omega))) <;> repeat' refine CT ?_) | (first | (refine DSK ?_; clear hA a; intro a hA) | (first | (refine DLT ?_; clear hA hH; rintro _ w ⟨oN, rfl, hH⟩; refine ⟨STT, ?_⟩; intro a hA) | (refine DAT ?_; clear hA; rintro _ w ⟨oN, cN, rfl, hH2⟩; clear hH; have hH := (hH2 _ (by (repeat constructor))).tail; clear hH2; refine ⟨STT, ?_⟩; intro a hA))) )
  (refine st_op hA rfl rfl (by decide) (op_call rfl rfl rfl (hclo)) ?_; clear hA; rintro _ w ⟨oh, ch, held, hClo, rfl, hj⟩ a hA; replace hH := hH.join hj; clear hj)
  have hhl : held.length ≤ N := hClo.c0.len hl
  have hfs : ∀ a ∈ held, (fsA g.s.L a).length ≤ 4096 := fun a ha => by
    obtain ⟨o, ho, rfl⟩ := hClo.c0.ob a ha
    rw [(fsA_at hl ho).1]
    exact (hok.kd o ho).2
  have hlv : ∀ k, liveN g.s.L (held.take k) ≤ 65537 * N := fun k => by
    have h1 := live_le (L := g.s.L) (held := held.take k) fun a ha => by have := hfs a (List.mem_of_mem_take ha); omega
    have h2 : (held.take k).length ≤ N := by rw [List.length_take]; omega
    have h3 := Nat.mul_le_mul_left 65537 h2
    omega
  replace hH : HS w0 noM [rfI b2 N g.s.L, gdI bd b2 g.s, cb bm 51 [.pointer (some (bat bd 0)), .int .i64 g.cy], stI bs N g, own 3 1 oh held.length ch (flat encN held), own 33 1 oN 8 8 (flat encW regs)] w := hH.perm (by (repeat (first | exact List.Perm.nil | refine perm_pick 0 rfl ?_ | refine perm_pick 1 rfl ?_ | refine perm_pick 2 rfl ?_ | refine perm_pick 3 rfl ?_ | refine perm_pick 4 rfl ?_ | refine perm_pick 5 rfl ?_ | refine perm_pick 6 rfl ?_ | refine perm_pick 7 rfl ?_ | refine perm_pick 8 rfl ?_ | refine perm_pick 9 rfl ?_ | refine perm_pick 10 rfl ?_ | refine perm_pick 11 rfl ?_)))
  repeat' (first | (first | (refine GT ?_ ?_ <;> intro hg <;> clear hA a <;> intro a hA <;> (first | exact FA | replace hg := of_decide_eq_true hg | replace hg := of_decide_eq_false hg | skip)) | (refine QT ?_; clear hA a; intro a hA) | (first | (refine BT ?_; clear hA hH; rintro _ w ⟨bN, rfl, hH⟩ a hA) | (refine LT ?_; clear hA hH; rintro _ w ⟨oN, rfl, hH⟩ a hA) | (refine AT ?_; clear hA; rintro _ w ⟨oN, cN, rfl, hH2⟩ a hA; clear hH; have hH := (hH2 _ (by (repeat constructor))).tail; clear hH2) | (refine S0T ?_; clear hH; rintro _ w hH) )) | ((first | refine CT ?_ | (refine DT ?_ ?_ <;> intro hc <;> try (exfalso; omega))) <;> repeat' refine CT ?_) | (first | (refine DSK ?_; clear hA a; intro a hA) | (first | (refine DLT ?_; clear hA hH; rintro _ w ⟨oN, rfl, hH⟩; refine ⟨STT, ?_⟩; intro a hA) | (refine DAT ?_; clear hA; rintro _ w ⟨oN, cN, rfl, hH2⟩; clear hH; have hH := (hH2 _ (by (repeat constructor))).tail; clear hH2; refine ⟨STT, ?_⟩; intro a hA))) )
  refine wp_lpj (S := Nat) (fun i a w => i ≤ held.length ∧ HS w0 noM [rfI b2 N g.s.L, gdI bd b2 g.s, cb bm 51 [.pointer (some (bat bd 0)), .int .i64 g.cy], stI bs N g, own 3 1 oh held.length ch (flat encN held), own 33 1 oN 8 8 (flat encW regs)] w ∧ Sl 214 [(0, .int .i64 N), (2, .int .i64 size), (7, .pointer (some (bat bs 0))), (8, .pointer (some (bat bm 0))), (9, .slice oN 8 8), (18, .int .i64 (liveN g.s.L (held.take i) : Nat)), (19, .slice oh held.length ch), (155, .int .i64 held.length), (156, .int .i64 i)] a) (fun i => held.length - i)
    (fun a w => HS w0 noM [stI bs N g, own 33 1 oN 8 8 (flat encW regs)] w ∧ Sl 214 [(0, .int .i64 N), (2, .int .i64 size), (7, .pointer (some (bat bs 0))), (9, .slice oN 8 8), (18, .int .i64 (liveN g.s.L held : Nat)), (19, .slice oh held.length ch)] a) 0 ⟨Nat.zero_le _, hH, by rw [live_zero_i]; exact (hA.sub (by (repeat (first | exact trivial | refine ⟨rfl, ?_⟩))))⟩ ?_ ?_
  · clear hA hH
    rintro i a w ⟨hi, hH, hA⟩
    by_cases hlt : i < held.length
    rotate_left
    · obtain rfl : i = held.length := by omega
      rw [List.take_length] at hA
      repeat' (first | (first | (refine GT ?_ ?_ <;> intro hg <;> clear hA a <;> intro a hA <;> (first | exact FA | replace hg := of_decide_eq_true hg | replace hg := of_decide_eq_false hg | skip)) | (refine QT ?_; clear hA a; intro a hA) | (first | (refine BT ?_; clear hA hH; rintro _ w ⟨bN, rfl, hH⟩ a hA) | (refine LT ?_; clear hA hH; rintro _ w ⟨oN, rfl, hH⟩ a hA) | (refine AT ?_; clear hA; rintro _ w ⟨oN, cN, rfl, hH2⟩ a hA; clear hH; have hH := (hH2 _ (by (repeat constructor))).tail; clear hH2) | (refine S0T ?_; clear hH; rintro _ w hH) )) | ((first | refine CT ?_ | (refine DT ?_ ?_ <;> intro hc <;> try (exfalso; omega))) <;> repeat' refine CT ?_) | (first | (refine DSK ?_; clear hA a; intro a hA) | (first | (refine DLT ?_; clear hA hH; rintro _ w ⟨oN, rfl, hH⟩; refine ⟨STT, ?_⟩; intro a hA) | (refine DAT ?_; clear hA; rintro _ w ⟨oN, cN, rfl, hH2⟩; clear hH; have hH := (hH2 _ (by (repeat constructor))).tail; clear hH2; refine ⟨STT, ?_⟩; intro a hA))) )
      exact ⟨(hH.perm (H' := [stI bs N g, own 33 1 oN 8 8 (flat encW regs), rfI b2 N g.s.L, gdI bd b2 g.s, cb bm 51 [.pointer (some (bat bd 0)), .int .i64 g.cy], own 3 1 oh held.length ch (flat encN held)]) (by (repeat (first | exact List.Perm.nil | refine perm_pick 0 rfl ?_ | refine perm_pick 1 rfl ?_ | refine perm_pick 2 rfl ?_ | refine perm_pick 3 rfl ?_ | refine perm_pick 4 rfl ?_ | refine perm_pick 5 rfl ?_ | refine perm_pick 6 rfl ?_ | refine perm_pick 7 rfl ?_ | refine perm_pick 8 rfl ?_ | refine perm_pick 9 rfl ?_ | refine perm_pick 10 rfl ?_ | refine perm_pick 11 rfl ?_)))).left (H1 := [_, _]), (hA.sub (by (repeat (first | exact trivial | refine ⟨rfl, ?_⟩))))⟩
    obtain ⟨x, hx⟩ : ∃ x, held[i]? = some x := ⟨_, List.getElem?_eq_getElem hlt⟩
    have hcx := encN_at hx
    obtain ⟨j, o, hj1, hj2, hja, hjo⟩ := find_is hl (hClo.c0.ob x (List.mem_of_getElem? hx))
    have hadd := live_add (L := g.s.L) hx
    have hfx := (fsA_at hl hjo).1
    rw [hja] at hfx
    rw [hfx] at hadd
    have hod := (hok.kd o hjo).2
    have hlv1 := hlv i
    have hlv2 := hlv (i + 1)
    have hn2 := hok.n2
    have hjl := (List.getElem?_eq_some_iff.1 hj2).1
    obtain ⟨rq, hpq, hH⟩ := rf_open hH
    have hRQ := rfQ_read hpq hH
    obtain ⟨d0, dc, -, -, -, -, hc3⟩ := hRQ.at hj2
    have hspQ := hRQ.sp
    have hspH : Sp oh held.length := hH.own_sp (o := oh) (by exact MEMT)
    replace hH : HS w0 noM [cb b2 56 [.int .i64 N, .slice rq.o g.s.L.length rq.c], own 53 3 rq.o g.s.L.length rq.c (flat encO (g.s.L.zip rq.ds)), all (owns 33 1 encW rq.ds (g.s.L.map (·.fs))), gdI bd b2 g.s, cb bm 51 [.pointer (some (bat bd 0)), .int .i64 g.cy], stI bs N g, own 3 1 oh held.length ch (flat encN held), own 33 1 oN 8 8 (flat encW regs)] w := hH
    repeat' (first | (first | (refine GT ?_ ?_ <;> intro hg <;> clear hA a <;> intro a hA <;> (first | exact FA | replace hg := of_decide_eq_true hg | replace hg := of_decide_eq_false hg | skip)) | (refine QT ?_; clear hA a; intro a hA) | (first | (refine BT ?_; clear hA hH; rintro _ w ⟨bN, rfl, hH⟩ a hA) | (refine LT ?_; clear hA hH; rintro _ w ⟨oN, rfl, hH⟩ a hA) | (refine AT ?_; clear hA; rintro _ w ⟨oN, cN, rfl, hH2⟩ a hA; clear hH; have hH := (hH2 _ (by (repeat constructor))).tail; clear hH2) | (refine S0T ?_; clear hH; rintro _ w hH) )) | ((first | refine CT ?_ | (refine DT ?_ ?_ <;> intro hc <;> try (exfalso; omega))) <;> repeat' refine CT ?_) | (first | (refine DSK ?_; clear hA a; intro a hA) | (first | (refine DLT ?_; clear hA hH; rintro _ w ⟨oN, rfl, hH⟩; refine ⟨STT, ?_⟩; intro a hA) | (refine DAT ?_; clear hA; rintro _ w ⟨oN, cN, rfl, hH2⟩; clear hH; have hH := (hH2 _ (by (repeat constructor))).tail; clear hH2; refine ⟨STT, ?_⟩; intro a hA))) )
    (refine wp_draw_HS [(0, 1), (1, 1), (2, 1), (3, 1), (4, 1), (5, 1), (6, 1), (7, 1), (8, 1), (9, 1), (10, 1), (11, 1), (12, 1), (13, 1), (14, 1), (15, 1), (16, 1), (17, 1), (18, 1), (19, 1), (20, 1), (21, 1), (22, 0), (23, 1), (24, 1), (25, 1), (26, 1), (27, 1), (28, 1), (29, 1)] mixed (by decide +kernel) hH ?_; replace hH := hH.drew)
    repeat' (first | (first | (refine GT ?_ ?_ <;> intro hg <;> clear hA a <;> intro a hA <;> (first | exact FA | replace hg := of_decide_eq_true hg | replace hg := of_decide_eq_false hg | skip)) | ((first | apply st_ex hA hH rfl rfl (by decide) | apply dr_ex hA rfl rfl rfl (by decide) | apply dr_exp hA rfl rfl rfl (by decide) | apply dr_ex3 hA hH rfl rfl rfl (by decide)); (first | (apply ex_load; rfl; exact dcl_h MEMT) | (apply ex_load; rfl; exact dcl_p MEMT)); clear hA a; intro a hA) | (refine QT ?_; clear hA a; intro a hA) | (first | (refine BT ?_; clear hA hH; rintro _ w ⟨bN, rfl, hH⟩ a hA) | (refine LT ?_; clear hA hH; rintro _ w ⟨oN, rfl, hH⟩ a hA) | (refine AT ?_; clear hA; rintro _ w ⟨oN, cN, rfl, hH2⟩ a hA; clear hH; have hH := (hH2 _ (by (repeat constructor))).tail; clear hH2) | (refine S0T ?_; clear hH; rintro _ w hH) )) | ((first | refine CT ?_ | (refine DT ?_ ?_ <;> intro hc <;> try (exfalso; omega))) <;> repeat' refine CT ?_) | (first | (refine DSK ?_; clear hA a; intro a hA) | (first | (refine DLT ?_; clear hA hH; rintro _ w ⟨oN, rfl, hH⟩; refine ⟨STT, ?_⟩; intro a hA) | (refine DAT ?_; clear hA; rintro _ w ⟨oN, cN, rfl, hH2⟩; clear hH; have hH := (hH2 _ (by (repeat constructor))).tail; clear hH2; refine ⟨STT, ?_⟩; intro a hA))) )
    (refine dr_op hA rfl rfl rfl (by decide) (op_call rfl rfl rfl (rfind_spec _ b2 N g.s.L x (gokOk hok).len ⟨rq, rfQ_read hpq hH⟩)) ?_; clear hA; rintro _ w ⟨rfl, hk⟩; replace hH := hH.keep hk; clear hk; refine ⟨STT, ?_⟩; intro a hA)
    rw [hj1] at hA
    repeat' (first | (first | (refine GT ?_ ?_ <;> intro hg <;> clear hA a <;> intro a hA <;> (first | exact FA | replace hg := of_decide_eq_true hg | replace hg := of_decide_eq_false hg | skip)) | (refine QT ?_; clear hA a; intro a hA) | (first | (refine BT ?_; clear hA hH; rintro _ w ⟨bN, rfl, hH⟩ a hA) | (refine LT ?_; clear hA hH; rintro _ w ⟨oN, rfl, hH⟩ a hA) | (refine AT ?_; clear hA; rintro _ w ⟨oN, cN, rfl, hH2⟩ a hA; clear hH; have hH := (hH2 _ (by (repeat constructor))).tail; clear hH2) | (refine S0T ?_; clear hH; rintro _ w hH) )) | ((first | refine CT ?_ | (refine DT ?_ ?_ <;> intro hc <;> try (exfalso; omega))) <;> repeat' refine CT ?_) | (first | (refine DSK ?_; clear hA a; intro a hA) | (first | (refine DLT ?_; clear hA hH; rintro _ w ⟨oN, rfl, hH⟩; refine ⟨STT, ?_⟩; intro a hA) | (refine DAT ?_; clear hA; rintro _ w ⟨oN, cN, rfl, hH2⟩; clear hH; have hH := (hH2 _ (by (repeat constructor))).tail; clear hH2; refine ⟨STT, ?_⟩; intro a hA))) )
    rw [show ((liveN g.s.L (held.take i) : Nat) : Int) + (1 + (o.fs.length : Int)) = ((liveN g.s.L (held.take (i + 1)) : Nat) : Int) by omega] at hA
    exact ⟨i + 1, ⟨hlt, rf_shut rq hpq hH, (hA.sub (by (repeat (first | exact trivial | refine ⟨rfl, ?_⟩))))⟩, by omega⟩
  clear hA hH
  rintro a w ⟨hH, hA⟩
  have hn2 := hok.n2
  have hlv9 := hlv held.length
  rw [List.take_length] at hlv9
  repeat' (first | (first | (refine GT ?_ ?_ <;> intro hg <;> clear hA a <;> intro a hA <;> (first | exact FA | replace hg := of_decide_eq_true hg | replace hg := of_decide_eq_false hg | skip)) | (refine QT ?_; clear hA a; intro a hA) | (first | (refine BT ?_; clear hA hH; rintro _ w ⟨bN, rfl, hH⟩ a hA) | (refine LT ?_; clear hA hH; rintro _ w ⟨oN, rfl, hH⟩ a hA) | (refine AT ?_; clear hA; rintro _ w ⟨oN, cN, rfl, hH2⟩ a hA; clear hH; have hH := (hH2 _ (by (repeat constructor))).tail; clear hH2) | (refine S0T ?_; clear hH; rintro _ w hH) )) | ((first | refine CT ?_ | (refine DT ?_ ?_ <;> intro hc <;> try (exfalso; omega))) <;> repeat' refine CT ?_) | (first | (refine DSK ?_; clear hA a; intro a hA) | (first | (refine DLT ?_; clear hA hH; rintro _ w ⟨oN, rfl, hH⟩; refine ⟨STT, ?_⟩; intro a hA) | (refine DAT ?_; clear hA; rintro _ w ⟨oN, cN, rfl, hH2⟩; clear hH; have hH := (hH2 _ (by (repeat constructor))).tail; clear hH2; refine ⟨STT, ?_⟩; intro a hA))) )
  have hal := salloc_f (k := 6) (z := size) (roots := regs) (oR := oN) (cR := 8) hH hok (by omega) hUr (by omega) (fun Hc w2 h => h.own_rd (List.mem_append_right _ (.head _)))
  rw [hrl] at hal
  (refine st_op hA rfl rfl (by decide) (op_call rfl rfl rfl (hal)) ?_; clear hA hH; rintro _ w ⟨rfl, hH⟩ a hA)
  have hlaw := full_law hok hSf hClo ⟨hz1, hz2⟩
  have hP1 : 0 ≤ ((held.length : Int) + 1) * size := Int.mul_nonneg (by omega) hz1
  have hP2 : ((held.length : Int) + 1) * size ≤ 2049 * 4096 := Int.mul_le_mul (by omega) hz2 hz1 (by decide)
  generalize hPe : ((held.length : Int) + 1) * size = P at *
  generalize allocS N g 6 size regs = r at *
  have hPe2 : ((held.length + 1 : Nat) : Int) * size = P := by rw [← hPe]; simp
  rcases hlaw with h0 | ⟨h6, hle⟩
  · rw [h0] at hA
    repeat' (first | (first | (refine GT ?_ ?_ <;> intro hg <;> clear hA a <;> intro a hA <;> (first | exact FA | replace hg := of_decide_eq_true hg | replace hg := of_decide_eq_false hg | skip)) | (refine QT ?_; clear hA a; intro a hA) | (first | (refine BT ?_; clear hA hH; rintro _ w ⟨bN, rfl, hH⟩ a hA) | (refine LT ?_; clear hA hH; rintro _ w ⟨oN, rfl, hH⟩ a hA) | (refine AT ?_; clear hA; rintro _ w ⟨oN, cN, rfl, hH2⟩ a hA; clear hH; have hH := (hH2 _ (by (repeat constructor))).tail; clear hH2) | (refine S0T ?_; clear hH; rintro _ w hH) )) | ((first | refine CT ?_ | (refine DT ?_ ?_ <;> intro hc <;> try (exfalso; omega))) <;> repeat' refine CT ?_) | (first | (refine DSK ?_; clear hA a; intro a hA) | (first | (refine DLT ?_; clear hA hH; rintro _ w ⟨oN, rfl, hH⟩; refine ⟨STT, ?_⟩; intro a hA) | (refine DAT ?_; clear hA; rintro _ w ⟨oN, cN, rfl, hH2⟩; clear hH; have hH := (hH2 _ (by (repeat constructor))).tail; clear hH2; refine ⟨STT, ?_⟩; intro a hA))) )
    exact rt1 (.inl rfl) rfl hA rfl ⟨rfl, hH.kp⟩
  · rw [h6] at hA
    repeat' (first | (first | (refine GT ?_ ?_ <;> intro hg <;> clear hA a <;> intro a hA <;> (first | exact FA | replace hg := of_decide_eq_true hg | replace hg := of_decide_eq_false hg | skip)) | ((first | apply st_ex hA hH rfl rfl (by decide) | apply dr_ex hA rfl rfl rfl (by decide) | apply dr_exp hA rfl rfl rfl (by decide) | apply dr_ex3 hA hH rfl rfl rfl (by decide)); (first | (apply ex_mulK (v := P); rfl; rfl; rw [hPe2]; exact wrap_i64 ⟨by omega, by omega⟩)); clear hA a; intro a hA) | (refine QT ?_; clear hA a; intro a hA) | (first | (refine BT ?_; clear hA hH; rintro _ w ⟨bN, rfl, hH⟩ a hA) | (refine LT ?_; clear hA hH; rintro _ w ⟨oN, rfl, hH⟩ a hA) | (refine AT ?_; clear hA; rintro _ w ⟨oN, cN, rfl, hH2⟩ a hA; clear hH; have hH := (hH2 _ (by (repeat constructor))).tail; clear hH2) | (refine S0T ?_; clear hH; rintro _ w hH) )) | ((first | refine CT ?_ | (refine DT ?_ ?_ <;> intro hc <;> try (exfalso; omega))) <;> repeat' refine CT ?_) | (first | (refine DSK ?_; clear hA a; intro a hA) | (first | (refine DLT ?_; clear hA hH; rintro _ w ⟨oN, rfl, hH⟩; refine ⟨STT, ?_⟩; intro a hA) | (refine DAT ?_; clear hA; rintro _ w ⟨oN, cN, rfl, hH2⟩; clear hH; have hH := (hH2 _ (by (repeat constructor))).tail; clear hH2; refine ⟨STT, ?_⟩; intro a hA))) )
    exact rt1 (.inl rfl) rfl hA rfl ⟨by rw [decide_eq_true (by omega)], hH.kp⟩
end Go.Proofs.Ytdfhajdejlhamaa
