/-
  Walks over what Go's library gives Match, and over small functions: slices.Clone, Clip, Equal, to, longer, same, is, equal, head. Conditions: none.
  The walk over a row's condition of a path. Conditions: none.
  The walk over a condition made plain (the program's). Conditions: none.
  The walk over a row made plain (the program's). Conditions: none.
-/
import Derived.Test.YtcododdkjppmjaaRowCompilesMg2
namespace Go.Fw
open Go Go.RowKit
section
variable {P : Program} {N : Nat} {l : List (Nat × Value)} {C : World → Prop} {d : Option Tmp} {T : TypeId} {pos : String} {af : Array Edge} {g : Option (Nat × Bool)}
/-- s[:j:k] -/
theorem ex_slice_hm {t e sz by_ j k n c : Nat} {z : Value} {zs : List Value} {x y2 y3 : Operand} {o : Option Addr} {kd2 kd3 : IntKind} {m2 m3 : Int} [ht : TSl P t e] [hi : TIf P e z zs sz by_]
    (hx : ev l x = some (.slice o n c)) (hy2 : ev l y2 = some (.int kd2 m2)) (hy3 : ev l y3 = some (.int kd3 m3)) (hk2 : m2 = (j : Int)) (hk3 : m3 = (k : Int)) (hjk : j ≤ k) (hkc : k ≤ c) :
    Ex P N l C ⟨d, .slice t x none (some y2) (some y3), T, pos, af, g⟩ (.slice o j k) := by
  intro a w hA _
  subst hk2; subst hk3
  obtain ⟨ti, h3, h4, h5, h6⟩ := hi.eq
  have h0 : (k : Int) ≤ (c : Int) := by omega
  have h1 : (j : Int) ≤ (k : Int) := by omega
  have ho : Option.map (fun x : Addr => x.add 0) o = o := by cases o <;> simp [Addr.add]
  simp only [execOp, hA.ev hx, Instr.sliceAt, Sem.run_bind, run_underlying ht.eq, Result.andThen_ok, Instr.slice, Instr.sliceBounds, Option.map_some, Option.map_none, Sem.run_pure, hA.ev hy2, hA.ev hy3, Instr.sliceBound, asIntOf]
  simp [h0, h1, hjk, hkc, sizeOf, typeInfo, h3, h5]
  exact fun _ => ho
end
theorem HS.own_none {w0 w : World} {M : Nat → Prop} {H : List It} {T sz n c : Nat} {xs : List Value} (h : HS w0 M H w) (hm : own T sz none n c xs ∈ H) : n = 0 ∧ c = 0 ∧ xs = [] := by
  obtain ⟨F, hF⟩ := h.sat hm
  rcases hF with ⟨_, h1, h2, h3, _⟩ | ⟨b, spare, h1, _⟩
  · exact ⟨h1, h2, h3⟩
  · cases h1
/-- a struct result out of its cell -/
theorem rt1c {P : Program} {N : Nat} {l : List (Nat × Value)} {a : Act} {w : World} {C : World → Prop} {fn : Func} {R : Value → World → Prop} {p : Tmp} {ty sz by_ : Nat} {z : Value} {zs : List Value} {fl : List (Nat × Nat)} {q : Addr} {vs : List Value} {e : Exit} [h0 : TSt P ty fl] [hi : TIf P ty z zs sz by_] (he : e = .ret ∨ e = .normal) (hr : fn.results = #[.cell p ty]) (hA : Sl N l a)
    (hp : lk l p = some (.pointer (some q))) (hl : vs.length = sz) (hC : C w) (hc : Cls C q vs) (h : R (.agg vs.toArray) w) : bodyPost P fn (fun e w' => ∃ v, e = .returned v ∧ R v w') e a w := by
  have hg : a.tmps.getD p undef = .pointer (some q) := by simp [Array.getD_eq_getD_getElem?, hA.get p _ hp]
  obtain ⟨ti, h3, h4, h5, h6⟩ := hi.eq
  have hrun : (results fn a.tmps).run P w = .ok (.agg vs.toArray) w := by
    have hg' : a.tmps[p]?.getD undef = .pointer (some q) := by simpa using hg
    simp [results, hr, hg', asAddr, loadVar, run_isAgg_st, sizeOf, typeInfo, h3, h5, ← hl, run_loadCells_list w q vs (hc w hC), Result.andThen]
  rcases he with rfl | rfl
  · exact bodyPost_ret hrun hA.defers ⟨_, rfl, h⟩
  · exact bodyPost_end hrun hA.defers ⟨_, rfl, h⟩
/-- the sizes of a struct's fields -/
def Szs (P : Program) : List (Nat × Nat) → List (Nat × Nat) → Prop
  | [], [] => True
  | p :: fl, s :: szs => (s.1 = p.2 ∧ ∃ i, P.info? p.1 = some i ∧ i.size = s.2) ∧ Szs P fl szs
  | _, _ => False
theorem size_of (P : Program) (a : Nat) {z : Value} {zs : List Value} {sz by_ : Nat} [hi : TIf P a z zs sz by_] (b : Nat) : (b = b) ∧ ∃ i, P.info? a = some i ∧ i.size = sz :=
  let ⟨i, h1, _, h3, _⟩ := hi.eq
  ⟨rfl, i, h1, h3⟩
section
variable {P : Program} {N : Nat} {l : List (Nat × Value)} {C : World → Prop} {d : Option Tmp} {T : TypeId} {pos : String} {af : Array Edge} {g : Option (Nat × Bool)}
theorem ex_build_g {t sz by_ : Nat} {z : Value} {zs : List Value} {fl : List (Nat × Nat)} {ps : Array (Nat × Operand)} {vs : List Value} (szs : List (Nat × Nat)) (cs : Array Value) [h : TSt P t fl] [hi : TIf P t z zs sz by_]
    (hv : evL l (ps.toList.map (·.2)) = some vs) (hsz : Szs P fl szs) (hf : Instr.fill (szs[·]?) zs.toArray ((ps.toList.map (·.1)).zip vs) = some cs) :
    Ex P N l C ⟨d, .build t ps, T, pos, af, g⟩ (.agg cs) := by
  have hrun : ∀ (fl szs : List (Nat × Nat)) (w : World), Szs P fl szs → (fl.mapM (fun p => do pure (p.2, ← sizeOf p.1)) : Sem (List (Nat × Nat))).run P w = .ok szs w := by
    intro fl
    induction fl with
    | nil =>
      intro szs w hs
      cases szs with
      | nil => simp
      | cons => exact hs.elim
    | cons p fl ih =>
      intro szs w hs
      cases szs with
      | nil => exact hs.elim
      | cons s szs =>
        obtain ⟨⟨h1, i, h2, h3⟩, h4⟩ := hs
        have := ih szs w h4
        simp only [List.mapM_cons, Sem.run_bind, sizeOf, typeInfo, run_program, Result.andThen_ok, h2, Sem.run_pure, h3] at this ⊢
        rw [this]
        simp [← h1]
  have hzc : z.cells = zs.toArray := by apply Array.ext'; simpa using hi.zc
  exact ex_build (szs := szs) (fun w => hrun fl szs w hsz) hv (by rw [hzc]; exact hf)
theorem fold_put : ∀ (us zs done pre post : List Value), us.length = zs.length → ((us.zipIdx done.length).foldl (fun (acc : Array Value) (x : Value × Nat) => acc.setIfInBounds (pre.length + x.2) x.1) (pre ++ (done ++ (zs ++ post))).toArray) = (pre ++ (done ++ (us ++ post))).toArray
  | [], zs, done, pre, post, h => by
    obtain rfl : zs = [] := by simpa using h.symm
    simp
  | c :: us, [], done, pre, post, h => by simp at h
  | c :: us, z :: zs, done, pre, post, h => by
    have ih := fold_put us zs (done ++ [c]) pre post (by simpa using h)
    simp only [List.length_append, List.length_cons, List.length_nil] at ih
    simp only [List.zipIdx_cons, List.foldl_cons]
    have e : (pre ++ (done ++ (z :: zs ++ post))).toArray.setIfInBounds (pre.length + done.length) c = (pre ++ (done ++ [c] ++ (zs ++ post))).toArray := by
      apply Array.ext'
      simp [List.set_append]
    rw [e, ih]
    simp
theorem fill_seg {place : Nat → Option (Nat × Nat)} {pre zs post us : List Value} {v : Value} {i : Nat} {rest : List (Nat × Value)} (hv : v.cells = us.toArray) (hp : place i = some (pre.length, us.length)) (hz : zs.length = us.length) :
    Instr.fill place (pre ++ (zs ++ post)).toArray ((i, v) :: rest) = Instr.fill place (pre ++ (us ++ post)).toArray rest := by
  have h1 := fold_put us zs [] pre post hz.symm
  have hc : v.cells.size = us.length := by rw [hv]; simp
  rw [Instr.fill, hp]
  simp only
  rw [if_neg (by
    rw [hc]
    simp
    omega)]
  congr 1
  rw [hv, ← Array.foldl_toList]
  simpa using h1
/-- a struct literal of two fields: one cell, and many -/
theorem ex_build_12 {t n by_ : Nat} {z : Value} {z0 : Value} {zs : List Value} {fl : List (Nat × Nat)} {x y : Operand} {v : Value} {us : List Value} [h : TSt P t fl] [hi : TIf P t z (z0 :: zs) (n + 1) by_]
    (hx : ev l x = some v) (hy : ev l y = some (.agg us.toArray)) (h1 : v.oneCell' = true) (hn : us.length = n) (hzn : zs.length = n) (hsz : Szs P fl [(0, 1), (1, n)]) :
    Ex P N l C ⟨d, .build t #[(0, x), (1, y)], T, pos, af, g⟩ (.agg (v :: us).toArray) := by
  subst hn
  refine ex_build_g (vs := [v, .agg us.toArray]) [(0, 1), (1, us.length)] (v :: us).toArray ?_ hsz ?_
  · show evL l [x, y] = _
    simp [evL, hx, hy]
  · show Instr.fill _ (z0 :: zs).toArray [(0, v), (1, .agg us.toArray)] = _
    have e1 := fill_seg (place := (([(0, 1), (1, us.length)] : List (Nat × Nat))[·]?)) (pre := []) (zs := [z0]) (post := zs) (us := [v]) (v := v) (i := 0) (rest := [(1, .agg us.toArray)]) (one_cells h1) rfl rfl
    have e2 := fill_seg (place := (([(0, 1), (1, us.length)] : List (Nat × Nat))[·]?)) (pre := [v]) (zs := zs) (post := []) (us := us) (v := .agg us.toArray) (i := 1) (rest := []) rfl rfl hzn
    simp only [List.nil_append, List.cons_append, List.append_nil] at e1 e2
    rw [e1, e2]
    rfl
end
end Go.Fw
namespace Go.Proofs.Ytcododdkjppmjaa
open Go Go.Fw
set_option linter.unusedVariables false
structure Hd where
  k : Int
  n : Int
  s : ByteArray
deriving DecidableEq
def AP.hd (p : AP) : Hd := ⟨p.k, p.n, p.s⟩
def Hd.ap (h : Hd) : AP := .mk h.k 0 h.n h.s none 0 [] none 0 []
theorem isP_yes {a b : AP} (h1 : a.k = b.k) (h2 : a.n = b.n) (h3 : a.s = b.s) : a.hd = b.hd := by unfold AP.hd; rw [h1, h2, h3]
theorem isP_k {a b : AP} (h1 : a.k ≠ b.k) : a.hd ≠ b.hd := fun h => h1 (congrArg Hd.k h)
theorem isP_n {a b : AP} (h1 : a.n ≠ b.n) : a.hd ≠ b.hd := fun h => h1 (congrArg Hd.n h)
theorem encX_one (l : List ByteArray) : (flat encX l).all (·.oneCell') = true := flat_one_cell (fun _ => rfl) l
set_option maxRecDepth 10000 attribute [local irreducible] Code.wp wpList Calls Ex Op1 sat bat blk cb own Go.Fw.mp Go.Fw.mpO Go.Fw.mpI Go.Fw.mpE Go.Fw.itr HS Rd Ret wkD Hp Cl Cls Exit.then Exit.inBlock Exit.noGoto bodyPost Go.Fw.flat wk2 Go.Fw.all Go.Fw.owns wpOp
attribute [local irreducible] encA

theorem cloneX_spec (w0 : World) (o : Option Addr) (n c : Nat) (xs : List Value) (hr : Rd w0 o xs) (hl : xs.length = n * 1) (h1 : xs.all (·.oneCell') = true) (ho : o = none → n = 0) (hn : n ≤ 1048576) :
    Ret Try.prog 40 #[.slice o n c] w0 (fun v w => ∃ o' c', v = .slice o' n c' ∧ HS w0 noM [own 9 1 o' n c' xs] w) := by
  have hH : HS w0 noM [] w0 := HS.init w0 noM
  (refine enter (N := 8) Try.func40 rfl Try.ntmps40 rfl ?_; intro a hA; dsimp only [sl0, Nat.reduceAdd] at hA)
  cases o with
  | none =>
    obtain rfl := ho rfl
    have hx : xs = [] := List.length_eq_zero_iff.1 (by simpa using hl)
    subst hx
    repeat' (first | (first | (refine GT ?_ ?_ <;> intro hg <;> clear hA a <;> intro a hA <;> (first | exact FA | replace hg := of_decide_eq_true hg | replace hg := of_decide_eq_false hg | skip)) | ((first | apply st_ex hA hH rfl rfl (by decide) | apply dr_ex hA rfl rfl rfl (by decide) | apply dr_exp hA rfl rfl rfl (by decide) | apply dr_ex3 hA hH rfl rfl rfl (by decide)); (first | (apply ex_eqlNil; rfl; rfl)); clear hA a; intro a hA) | (refine QT ?_; clear hA a; intro a hA) | (first | (refine BT ?_; clear hA hH; rintro _ w ⟨bN, rfl, hH⟩ a hA) | (refine LT ?_; clear hA hH; rintro _ w ⟨oN, rfl, hH⟩ a hA) | (refine AT ?_; clear hA; rintro _ w ⟨oN, cN, rfl, hH2⟩ a hA; clear hH; have hH := (hH2 _ (by (repeat constructor))).tail; clear hH2) | (refine S0T ?_; clear hH; rintro _ w hH) )) | ((first | refine CT ?_ | (refine DT ?_ ?_ <;> intro hc <;> try (exfalso; omega))) <;> repeat' refine CT ?_) | (first | (refine DSK ?_; clear hA a; intro a hA) | (first | (refine DLT ?_; clear hA hH; rintro _ w ⟨oN, rfl, hH⟩; refine ⟨STT, ?_⟩; intro a hA) | (refine DAT ?_; clear hA; rintro _ w ⟨oN, cN, rfl, hH2⟩; clear hH; have hH := (hH2 _ (by (repeat constructor))).tail; clear hH2; refine ⟨STT, ?_⟩; intro a hA))) )
    exact rt1 (.inl rfl) rfl hA rfl ⟨none, 0, rfl, hH.nil_own 9 1⟩
  | some ad =>
    repeat' (first | (first | (refine GT ?_ ?_ <;> intro hg <;> clear hA a <;> intro a hA <;> (first | exact FA | replace hg := of_decide_eq_true hg | replace hg := of_decide_eq_false hg | skip)) | ((first | apply st_ex hA hH rfl rfl (by decide) | apply dr_ex hA rfl rfl rfl (by decide) | apply dr_exp hA rfl rfl rfl (by decide) | apply dr_ex3 hA hH rfl rfl rfl (by decide)); (first | (apply ex_eqlNil; rfl; rfl)); clear hA a; intro a hA) | (refine QT ?_; clear hA a; intro a hA) | (first | (refine BT ?_; clear hA hH; rintro _ w ⟨bN, rfl, hH⟩ a hA) | (refine LT ?_; clear hA hH; rintro _ w ⟨oN, rfl, hH⟩ a hA) | (refine AT ?_; clear hA; rintro _ w ⟨oN, cN, rfl, hH2⟩ a hA; clear hH; have hH := (hH2 _ (by (repeat constructor))).tail; clear hH2) | (refine S0T ?_; clear hH; rintro _ w hH) | (apply st_op hA rfl rfl (by decide); apply op_append; rfl; rfl; exact hH; exact MEMT; exact hH.rd hr id; exact hl; rfl; decide; exact h1; (unfold maxLen; omega); omega; clear hA; rintro _ w ⟨oN, cN, rfl, hH2⟩ a hA; clear hH; have hH := hH2 _ (by (repeat constructor)); clear hH2))) | ((first | refine CT ?_ | (refine DT ?_ ?_ <;> intro hc <;> try (exfalso; omega))) <;> repeat' refine CT ?_) | (first | (refine DSK ?_; clear hA a; intro a hA) | (first | (refine DLT ?_; clear hA hH; rintro _ w ⟨oN, rfl, hH⟩; refine ⟨STT, ?_⟩; intro a hA) | (refine DAT ?_; clear hA; rintro _ w ⟨oN, cN, rfl, hH2⟩; clear hH; have hH := (hH2 _ (by (repeat constructor))).tail; clear hH2; refine ⟨STT, ?_⟩; intro a hA))) )
    rw [List.nil_append, Nat.zero_add] at hH
    rw [Nat.zero_add] at hA
    exact rt1 (.inl rfl) rfl hA rfl ⟨_, _, rfl, hH⟩

theorem cloneA_spec (w0 : World) (o : Option Addr) (n c : Nat) (xs : List Value) (hr : Rd w0 o xs) (hl : xs.length = n * 6) (h1 : xs.all (·.oneCell') = true) (ho : o = none → n = 0) (hn : n ≤ 1048576) :
    Ret Try.prog 51 #[.slice o n c] w0 (fun v w => ∃ o' c', v = .slice o' n c' ∧ HS w0 noM [own 38 6 o' n c' xs] w) := by
  have hH : HS w0 noM [] w0 := HS.init w0 noM
  (refine enter (N := 8) Try.func51 rfl Try.ntmps51 rfl ?_; intro a hA; dsimp only [sl0, Nat.reduceAdd] at hA)
  cases o with
  | none =>
    obtain rfl := ho rfl
    have hx : xs = [] := List.length_eq_zero_iff.1 (by simpa using hl)
    subst hx
    repeat' (first | (first | (refine GT ?_ ?_ <;> intro hg <;> clear hA a <;> intro a hA <;> (first | exact FA | replace hg := of_decide_eq_true hg | replace hg := of_decide_eq_false hg | skip)) | ((first | apply st_ex hA hH rfl rfl (by decide) | apply dr_ex hA rfl rfl rfl (by decide) | apply dr_exp hA rfl rfl rfl (by decide) | apply dr_ex3 hA hH rfl rfl rfl (by decide)); (first | (apply ex_eqlNil; rfl; rfl)); clear hA a; intro a hA) | (refine QT ?_; clear hA a; intro a hA) | (first | (refine BT ?_; clear hA hH; rintro _ w ⟨bN, rfl, hH⟩ a hA) | (refine LT ?_; clear hA hH; rintro _ w ⟨oN, rfl, hH⟩ a hA) | (refine AT ?_; clear hA; rintro _ w ⟨oN, cN, rfl, hH2⟩ a hA; clear hH; have hH := (hH2 _ (by (repeat constructor))).tail; clear hH2) | (refine S0T ?_; clear hH; rintro _ w hH) )) | ((first | refine CT ?_ | (refine DT ?_ ?_ <;> intro hc <;> try (exfalso; omega))) <;> repeat' refine CT ?_) | (first | (refine DSK ?_; clear hA a; intro a hA) | (first | (refine DLT ?_; clear hA hH; rintro _ w ⟨oN, rfl, hH⟩; refine ⟨STT, ?_⟩; intro a hA) | (refine DAT ?_; clear hA; rintro _ w ⟨oN, cN, rfl, hH2⟩; clear hH; have hH := (hH2 _ (by (repeat constructor))).tail; clear hH2; refine ⟨STT, ?_⟩; intro a hA))) )
    exact rt1 (.inl rfl) rfl hA rfl ⟨none, 0, rfl, hH.nil_own 38 6⟩
  | some ad =>
    repeat' (first | (first | (refine GT ?_ ?_ <;> intro hg <;> clear hA a <;> intro a hA <;> (first | exact FA | replace hg := of_decide_eq_true hg | replace hg := of_decide_eq_false hg | skip)) | ((first | apply st_ex hA hH rfl rfl (by decide) | apply dr_ex hA rfl rfl rfl (by decide) | apply dr_exp hA rfl rfl rfl (by decide) | apply dr_ex3 hA hH rfl rfl rfl (by decide)); (first | (apply ex_eqlNil; rfl; rfl)); clear hA a; intro a hA) | (refine QT ?_; clear hA a; intro a hA) | (first | (refine BT ?_; clear hA hH; rintro _ w ⟨bN, rfl, hH⟩ a hA) | (refine LT ?_; clear hA hH; rintro _ w ⟨oN, rfl, hH⟩ a hA) | (refine AT ?_; clear hA; rintro _ w ⟨oN, cN, rfl, hH2⟩ a hA; clear hH; have hH := (hH2 _ (by (repeat constructor))).tail; clear hH2) | (refine S0T ?_; clear hH; rintro _ w hH) | (apply st_op hA rfl rfl (by decide); apply op_append; rfl; rfl; exact hH; exact MEMT; exact hH.rd hr id; exact hl; rfl; decide; exact h1; (unfold maxLen; omega); omega; clear hA; rintro _ w ⟨oN, cN, rfl, hH2⟩ a hA; clear hH; have hH := hH2 _ (by (repeat constructor)); clear hH2))) | ((first | refine CT ?_ | (refine DT ?_ ?_ <;> intro hc <;> try (exfalso; omega))) <;> repeat' refine CT ?_) | (first | (refine DSK ?_; clear hA a; intro a hA) | (first | (refine DLT ?_; clear hA hH; rintro _ w ⟨oN, rfl, hH⟩; refine ⟨STT, ?_⟩; intro a hA) | (refine DAT ?_; clear hA; rintro _ w ⟨oN, cN, rfl, hH2⟩; clear hH; have hH := (hH2 _ (by (repeat constructor))).tail; clear hH2; refine ⟨STT, ?_⟩; intro a hA))) )
    rw [List.nil_append, Nat.zero_add] at hH
    rw [Nat.zero_add] at hA
    exact rt1 (.inl rfl) rfl hA rfl ⟨_, _, rfl, hH⟩

theorem cloneC_spec (w0 : World) (o : Option Addr) (n c : Nat) (xs : List Value) (hr : Rd w0 o xs) (hl : xs.length = n * 7) (h1 : xs.all (·.oneCell') = true) (ho : o = none → n = 0) (hn : n ≤ 1048576) :
    Ret Try.prog 56 #[.slice o n c] w0 (fun v w => ∃ o' c', v = .slice o' n c' ∧ HS w0 noM [own 55 7 o' n c' xs] w) := by
  have hH : HS w0 noM [] w0 := HS.init w0 noM
  (refine enter (N := 8) Try.func56 rfl Try.ntmps56 rfl ?_; intro a hA; dsimp only [sl0, Nat.reduceAdd] at hA)
  cases o with
  | none =>
    obtain rfl := ho rfl
    have hx : xs = [] := List.length_eq_zero_iff.1 (by simpa using hl)
    subst hx
    repeat' (first | (first | (refine GT ?_ ?_ <;> intro hg <;> clear hA a <;> intro a hA <;> (first | exact FA | replace hg := of_decide_eq_true hg | replace hg := of_decide_eq_false hg | skip)) | ((first | apply st_ex hA hH rfl rfl (by decide) | apply dr_ex hA rfl rfl rfl (by decide) | apply dr_exp hA rfl rfl rfl (by decide) | apply dr_ex3 hA hH rfl rfl rfl (by decide)); (first | (apply ex_eqlNil; rfl; rfl)); clear hA a; intro a hA) | (refine QT ?_; clear hA a; intro a hA) | (first | (refine BT ?_; clear hA hH; rintro _ w ⟨bN, rfl, hH⟩ a hA) | (refine LT ?_; clear hA hH; rintro _ w ⟨oN, rfl, hH⟩ a hA) | (refine AT ?_; clear hA; rintro _ w ⟨oN, cN, rfl, hH2⟩ a hA; clear hH; have hH := (hH2 _ (by (repeat constructor))).tail; clear hH2) | (refine S0T ?_; clear hH; rintro _ w hH) )) | ((first | refine CT ?_ | (refine DT ?_ ?_ <;> intro hc <;> try (exfalso; omega))) <;> repeat' refine CT ?_) | (first | (refine DSK ?_; clear hA a; intro a hA) | (first | (refine DLT ?_; clear hA hH; rintro _ w ⟨oN, rfl, hH⟩; refine ⟨STT, ?_⟩; intro a hA) | (refine DAT ?_; clear hA; rintro _ w ⟨oN, cN, rfl, hH2⟩; clear hH; have hH := (hH2 _ (by (repeat constructor))).tail; clear hH2; refine ⟨STT, ?_⟩; intro a hA))) )
    exact rt1 (.inl rfl) rfl hA rfl ⟨none, 0, rfl, hH.nil_own 55 7⟩
  | some ad =>
    repeat' (first | (first | (refine GT ?_ ?_ <;> intro hg <;> clear hA a <;> intro a hA <;> (first | exact FA | replace hg := of_decide_eq_true hg | replace hg := of_decide_eq_false hg | skip)) | ((first | apply st_ex hA hH rfl rfl (by decide) | apply dr_ex hA rfl rfl rfl (by decide) | apply dr_exp hA rfl rfl rfl (by decide) | apply dr_ex3 hA hH rfl rfl rfl (by decide)); (first | (apply ex_eqlNil; rfl; rfl)); clear hA a; intro a hA) | (refine QT ?_; clear hA a; intro a hA) | (first | (refine BT ?_; clear hA hH; rintro _ w ⟨bN, rfl, hH⟩ a hA) | (refine LT ?_; clear hA hH; rintro _ w ⟨oN, rfl, hH⟩ a hA) | (refine AT ?_; clear hA; rintro _ w ⟨oN, cN, rfl, hH2⟩ a hA; clear hH; have hH := (hH2 _ (by (repeat constructor))).tail; clear hH2) | (refine S0T ?_; clear hH; rintro _ w hH) | (apply st_op hA rfl rfl (by decide); apply op_append; rfl; rfl; exact hH; exact MEMT; exact hH.rd hr id; exact hl; rfl; decide; exact h1; (unfold maxLen; omega); omega; clear hA; rintro _ w ⟨oN, cN, rfl, hH2⟩ a hA; clear hH; have hH := hH2 _ (by (repeat constructor)); clear hH2))) | ((first | refine CT ?_ | (refine DT ?_ ?_ <;> intro hc <;> try (exfalso; omega))) <;> repeat' refine CT ?_) | (first | (refine DSK ?_; clear hA a; intro a hA) | (first | (refine DLT ?_; clear hA hH; rintro _ w ⟨oN, rfl, hH⟩; refine ⟨STT, ?_⟩; intro a hA) | (refine DAT ?_; clear hA; rintro _ w ⟨oN, cN, rfl, hH2⟩; clear hH; have hH := (hH2 _ (by (repeat constructor))).tail; clear hH2; refine ⟨STT, ?_⟩; intro a hA))) )
    rw [List.nil_append, Nat.zero_add] at hH
    rw [Nat.zero_add] at hA
    exact rt1 (.inl rfl) rfl hA rfl ⟨_, _, rfl, hH⟩

theorem cloneB_spec (w0 : World) (o : Option Addr) (n c : Nat) (xs : List Value) (hr : Rd w0 o xs) (hl : xs.length = n * 2) (h1 : xs.all (·.oneCell') = true) (ho : o = none → n = 0) (hn : n ≤ 1048576) :
    Ret Try.prog 37 #[.slice o n c] w0 (fun v w => ∃ o' c', v = .slice o' n c' ∧ HS w0 noM [own 72 2 o' n c' xs] w) := by
  have hH : HS w0 noM [] w0 := HS.init w0 noM
  (refine enter (N := 8) Try.func37 rfl Try.ntmps37 rfl ?_; intro a hA; dsimp only [sl0, Nat.reduceAdd] at hA)
  cases o with
  | none =>
    obtain rfl := ho rfl
    have hx : xs = [] := List.length_eq_zero_iff.1 (by simpa using hl)
    subst hx
    repeat' (first | (first | (refine GT ?_ ?_ <;> intro hg <;> clear hA a <;> intro a hA <;> (first | exact FA | replace hg := of_decide_eq_true hg | replace hg := of_decide_eq_false hg | skip)) | ((first | apply st_ex hA hH rfl rfl (by decide) | apply dr_ex hA rfl rfl rfl (by decide) | apply dr_exp hA rfl rfl rfl (by decide) | apply dr_ex3 hA hH rfl rfl rfl (by decide)); (first | (apply ex_eqlNil; rfl; rfl)); clear hA a; intro a hA) | (refine QT ?_; clear hA a; intro a hA) | (first | (refine BT ?_; clear hA hH; rintro _ w ⟨bN, rfl, hH⟩ a hA) | (refine LT ?_; clear hA hH; rintro _ w ⟨oN, rfl, hH⟩ a hA) | (refine AT ?_; clear hA; rintro _ w ⟨oN, cN, rfl, hH2⟩ a hA; clear hH; have hH := (hH2 _ (by (repeat constructor))).tail; clear hH2) | (refine S0T ?_; clear hH; rintro _ w hH) )) | ((first | refine CT ?_ | (refine DT ?_ ?_ <;> intro hc <;> try (exfalso; omega))) <;> repeat' refine CT ?_) | (first | (refine DSK ?_; clear hA a; intro a hA) | (first | (refine DLT ?_; clear hA hH; rintro _ w ⟨oN, rfl, hH⟩; refine ⟨STT, ?_⟩; intro a hA) | (refine DAT ?_; clear hA; rintro _ w ⟨oN, cN, rfl, hH2⟩; clear hH; have hH := (hH2 _ (by (repeat constructor))).tail; clear hH2; refine ⟨STT, ?_⟩; intro a hA))) )
    exact rt1 (.inl rfl) rfl hA rfl ⟨none, 0, rfl, hH.nil_own 72 2⟩
  | some ad =>
    repeat' (first | (first | (refine GT ?_ ?_ <;> intro hg <;> clear hA a <;> intro a hA <;> (first | exact FA | replace hg := of_decide_eq_true hg | replace hg := of_decide_eq_false hg | skip)) | ((first | apply st_ex hA hH rfl rfl (by decide) | apply dr_ex hA rfl rfl rfl (by decide) | apply dr_exp hA rfl rfl rfl (by decide) | apply dr_ex3 hA hH rfl rfl rfl (by decide)); (first | (apply ex_eqlNil; rfl; rfl)); clear hA a; intro a hA) | (refine QT ?_; clear hA a; intro a hA) | (first | (refine BT ?_; clear hA hH; rintro _ w ⟨bN, rfl, hH⟩ a hA) | (refine LT ?_; clear hA hH; rintro _ w ⟨oN, rfl, hH⟩ a hA) | (refine AT ?_; clear hA; rintro _ w ⟨oN, cN, rfl, hH2⟩ a hA; clear hH; have hH := (hH2 _ (by (repeat constructor))).tail; clear hH2) | (refine S0T ?_; clear hH; rintro _ w hH) | (apply st_op hA rfl rfl (by decide); apply op_append; rfl; rfl; exact hH; exact MEMT; exact hH.rd hr id; exact hl; rfl; decide; exact h1; (unfold maxLen; omega); omega; clear hA; rintro _ w ⟨oN, cN, rfl, hH2⟩ a hA; clear hH; have hH := hH2 _ (by (repeat constructor)); clear hH2))) | ((first | refine CT ?_ | (refine DT ?_ ?_ <;> intro hc <;> try (exfalso; omega))) <;> repeat' refine CT ?_) | (first | (refine DSK ?_; clear hA a; intro a hA) | (first | (refine DLT ?_; clear hA hH; rintro _ w ⟨oN, rfl, hH⟩; refine ⟨STT, ?_⟩; intro a hA) | (refine DAT ?_; clear hA; rintro _ w ⟨oN, cN, rfl, hH2⟩; clear hH; have hH := (hH2 _ (by (repeat constructor))).tail; clear hH2; refine ⟨STT, ?_⟩; intro a hA))) )
    rw [List.nil_append, Nat.zero_add] at hH
    rw [Nat.zero_add] at hA
    exact rt1 (.inl rfl) rfl hA rfl ⟨_, _, rfl, hH⟩

theorem clip_spec (w0 : World) (o : Option Addr) (n c : Nat) (h : n ≤ c) : Ret Try.prog 52 #[.slice o n c] w0 (fun v w => v = .slice o n n ∧ Kp w0 noM w) := by
  have hH : HS w0 noM [] w0 := HS.init w0 noM
  (refine enter (N := 9) Try.func52 rfl Try.ntmps52 rfl ?_; intro a hA; dsimp only [sl0, Nat.reduceAdd] at hA)
  repeat' (first | (first | (refine GT ?_ ?_ <;> intro hg <;> clear hA a <;> intro a hA <;> (first | exact FA | replace hg := of_decide_eq_true hg | replace hg := of_decide_eq_false hg | skip)) | ((first | apply st_ex hA hH rfl rfl (by decide) | apply dr_ex hA rfl rfl rfl (by decide) | apply dr_exp hA rfl rfl rfl (by decide) | apply dr_ex3 hA hH rfl rfl rfl (by decide)); (first | (apply ex_slice_hm (j := n) (k := n); rfl; rfl; rfl; rfl; rfl; omega; exact h)); clear hA a; intro a hA) | (refine QT ?_; clear hA a; intro a hA) | (first | (refine BT ?_; clear hA hH; rintro _ w ⟨bN, rfl, hH⟩ a hA) | (refine LT ?_; clear hA hH; rintro _ w ⟨oN, rfl, hH⟩ a hA) | (refine AT ?_; clear hA; rintro _ w ⟨oN, cN, rfl, hH2⟩ a hA; clear hH; have hH := (hH2 _ (by (repeat constructor))).tail; clear hH2) | (refine S0T ?_; clear hH; rintro _ w hH) )) | ((first | refine CT ?_ | (refine DT ?_ ?_ <;> intro hc <;> try (exfalso; omega))) <;> repeat' refine CT ?_) | (first | (refine DSK ?_; clear hA a; intro a hA) | (first | (refine DLT ?_; clear hA hH; rintro _ w ⟨oN, rfl, hH⟩; refine ⟨STT, ?_⟩; intro a hA) | (refine DAT ?_; clear hA; rintro _ w ⟨oN, cN, rfl, hH2⟩; clear hH; have hH := (hH2 _ (by (repeat constructor))).tail; clear hH2; refine ⟨STT, ?_⟩; intro a hA))) )
  exact rt1 (.inl rfl) rfl hA rfl ⟨rfl, hH.kp⟩
theorem to_spec (w0 : World) (o : Option Addr) (c : Nat) (q : Pth) (x : ByteArray) (hq : RdQ w0 o c q) (hn : q.length ≤ 100000) :
    Ret Try.prog 39 #[.slice o q.length c, .string x] w0 (fun v w => ∃ o' c', v = .slice o' (q ++ [x]).length c' ∧ HS w0 noM [own 9 1 o' (q ++ [x]).length c' (flat encX (q ++ [x]))] w) := by
  have hH : HS w0 noM [] w0 := HS.init w0 noM
  obtain ⟨hr, hc1, hc2⟩ := hq
  have hl := flat_length encX_len q
  have hsp : Sp o q.length := hr.sp (sz := 1) hl (by omega)
  (refine enter (N := 11) Try.func39 rfl Try.ntmps39 rfl ?_; intro a hA; dsimp only [sl0, Nat.reduceAdd] at hA)
  repeat' (first | (first | (refine GT ?_ ?_ <;> intro hg <;> clear hA a <;> intro a hA <;> (first | exact FA | replace hg := of_decide_eq_true hg | replace hg := of_decide_eq_false hg | skip)) | (refine QT ?_; clear hA a; intro a hA) | (first | (refine BT ?_; clear hA hH; rintro _ w ⟨bN, rfl, hH⟩ a hA) | (refine LT ?_; clear hA hH; rintro _ w ⟨oN, rfl, hH⟩ a hA) | (refine AT ?_; clear hA; rintro _ w ⟨oN, cN, rfl, hH2⟩ a hA; clear hH; have hH := (hH2 _ (by (repeat constructor))).tail; clear hH2) | (refine S0T ?_; clear hH; rintro _ w hH) )) | ((first | refine CT ?_ | (refine DT ?_ ?_ <;> intro hc <;> try (exfalso; omega))) <;> repeat' refine CT ?_) | (first | (refine DSK ?_; clear hA a; intro a hA) | (first | (refine DLT ?_; clear hA hH; rintro _ w ⟨oN, rfl, hH⟩; refine ⟨STT, ?_⟩; intro a hA) | (refine DAT ?_; clear hA; rintro _ w ⟨oN, cN, rfl, hH2⟩; clear hH; have hH := (hH2 _ (by (repeat constructor))).tail; clear hH2; refine ⟨STT, ?_⟩; intro a hA))) )
  (refine st_op hA rfl rfl (by decide) (op_call rfl rfl rfl (cloneX_spec _ o q.length c (flat encX q) (hH.rd hr id) hl (encX_one q) (fun h => by subst h; rcases Nat.eq_zero_or_pos q.length with h | h; exact h; obtain ⟨b, off, h2⟩ := hsp h; cases h2) (by omega))) ?_; clear hA; rintro _ w ⟨o1, c1, rfl, hj⟩ a hA; replace hH := hH.join hj; clear hj)
  have hle := hH.own_le (.head _)
  (refine st_op hA rfl rfl (by decide) (op_call rfl rfl rfl (clip_spec _ o1 q.length c1 hle.1)) ?_; clear hA; rintro _ w ⟨rfl, hk⟩ a hA; replace hH := hH.keep hk; clear hk)
  rw [List.length_append, List.length_singleton, flat_snoc]
  cases o1 with
  | none =>
    obtain ⟨h1, h2, h3⟩ := hH.own_none (.head _)
    rw [h3, h1, h2] at hH
    rw [h1] at hA
    rw [h1, h3]
    repeat' (first | (first | (refine GT ?_ ?_ <;> intro hg <;> clear hA a <;> intro a hA <;> (first | exact FA | replace hg := of_decide_eq_true hg | replace hg := of_decide_eq_false hg | skip)) | (refine QT ?_; clear hA a; intro a hA) | (first | (refine BT ?_; clear hA hH; rintro _ w ⟨bN, rfl, hH⟩ a hA) | (refine LT ?_; clear hA hH; rintro _ w ⟨oN, rfl, hH⟩ a hA) | (refine AT ?_; clear hA; rintro _ w ⟨oN, cN, rfl, hH2⟩ a hA; clear hH; have hH := (hH2 _ (by (repeat constructor))).tail; clear hH2) | (refine S0T ?_; clear hH; rintro _ w hH) )) | ((first | refine CT ?_ | (refine DT ?_ ?_ <;> intro hc <;> try (exfalso; omega))) <;> repeat' refine CT ?_) | (first | (refine DSK ?_; clear hA a; intro a hA) | (first | (refine DLT ?_; clear hA hH; rintro _ w ⟨oN, rfl, hH⟩; refine ⟨STT, ?_⟩; intro a hA) | (refine DAT ?_; clear hA; rintro _ w ⟨oN, cN, rfl, hH2⟩; clear hH; have hH := (hH2 _ (by (repeat constructor))).tail; clear hH2; refine ⟨STT, ?_⟩; intro a hA))) )
    exact rt1 (.inl rfl) rfl hA rfl ⟨_, _, rfl, hH.head⟩
  | some a1 =>
    repeat' (first | (first | (refine GT ?_ ?_ <;> intro hg <;> clear hA a <;> intro a hA <;> (first | exact FA | replace hg := of_decide_eq_true hg | replace hg := of_decide_eq_false hg | skip)) | (refine QT ?_; clear hA a; intro a hA) | (first | (refine BT ?_; clear hA hH; rintro _ w ⟨bN, rfl, hH⟩ a hA) | (refine LT ?_; clear hA hH; rintro _ w ⟨oN, rfl, hH⟩ a hA) | (refine AT ?_; clear hA; rintro _ w ⟨oN, cN, rfl, hH2⟩ a hA; clear hH; have hH := (hH2 _ (by (repeat constructor))).tail; clear hH2) | (refine S0T ?_; clear hH; rintro _ w hH) )) | ((first | refine CT ?_ | (refine DT ?_ ?_ <;> intro hc <;> try (exfalso; omega))) <;> repeat' refine CT ?_) | (first | (refine DSK ?_; clear hA a; intro a hA) | (first | (refine DLT ?_; clear hA hH; rintro _ w ⟨oN, rfl, hH⟩; refine ⟨STT, ?_⟩; intro a hA) | (refine DAT ?_; clear hA; rintro _ w ⟨oN, cN, rfl, hH2⟩; clear hH; have hH := (hH2 _ (by (repeat constructor))).tail; clear hH2; refine ⟨STT, ?_⟩; intro a hA))) )
    cases oN with
    | none => exact absurd (hH.own_none (.head _)).1 (by decide)
    | some a2 =>
      have hr1 := hH.own_rd (xs := flat encX q) (by exact MEMT)
      (apply st_op hA rfl rfl (by decide); apply op_append_new (xs := flat encX q) (news := encX x) (n := q.length) (cap := q.length) (m := 1) (c := 1); rfl; rfl; exact hH; exact hr1.news; exact hl; exact (hH.own_rd (xs := encX x) (List.Mem.head _)).news; rfl; rfl; omega; (unfold maxLen; omega); omega; omega; clear hA hH; rintro _ w ⟨oN, cN, rfl, hH⟩ a hA)
      repeat' (first | (first | (refine GT ?_ ?_ <;> intro hg <;> clear hA a <;> intro a hA <;> (first | exact FA | replace hg := of_decide_eq_true hg | replace hg := of_decide_eq_false hg | skip)) | (refine QT ?_; clear hA a; intro a hA) | (first | (refine BT ?_; clear hA hH; rintro _ w ⟨bN, rfl, hH⟩ a hA) | (refine LT ?_; clear hA hH; rintro _ w ⟨oN, rfl, hH⟩ a hA) | (refine AT ?_; clear hA; rintro _ w ⟨oN, cN, rfl, hH2⟩ a hA; clear hH; have hH := (hH2 _ (by (repeat constructor))).tail; clear hH2) | (refine S0T ?_; clear hH; rintro _ w hH) )) | ((first | refine CT ?_ | (refine DT ?_ ?_ <;> intro hc <;> try (exfalso; omega))) <;> repeat' refine CT ?_) | (first | (refine DSK ?_; clear hA a; intro a hA) | (first | (refine DLT ?_; clear hA hH; rintro _ w ⟨oN, rfl, hH⟩; refine ⟨STT, ?_⟩; intro a hA) | (refine DAT ?_; clear hA; rintro _ w ⟨oN, cN, rfl, hH2⟩; clear hH; have hH := (hH2 _ (by (repeat constructor))).tail; clear hH2; refine ⟨STT, ?_⟩; intro a hA))) )
      exact rt1 (.inl rfl) rfl hA rfl ⟨_, _, rfl, hH.head⟩
set_option maxHeartbeats 4000000 in
theorem equalX_spec (w0 : World) (o1 o2 : Option Addr) (c1 c2 : Nat) (l1 l2 : Pth) (h1 : Rd w0 o1 (flat encX l1)) (h2 : Rd w0 o2 (flat encX l2)) (hn : l1.length ≤ 1000000) :
    Ret Try.prog 55 #[.slice o1 l1.length c1, .slice o2 l2.length c2] w0 (fun v w => v = .bool (decide (l1 = l2)) ∧ Kp w0 noM w) := by
  have hH : HS w0 noM [] w0 := HS.init w0 noM
  have hs1 : Sp o1 l1.length := h1.sp (sz := 1) (flat_length encX_len l1) (by omega)
  have hs2 : Sp o2 l2.length := h2.sp (sz := 1) (flat_length encX_len l2) (by omega)
  (refine enter (N := 26) Try.func55 rfl Try.ntmps55 rfl ?_; intro a hA; dsimp only [sl0, Nat.reduceAdd] at hA)
  repeat' (first | (first | (refine GT ?_ ?_ <;> intro hg <;> clear hA a <;> intro a hA <;> (first | exact FA | replace hg := of_decide_eq_true hg | replace hg := of_decide_eq_false hg | skip)) | (refine QT ?_; clear hA a; intro a hA) | (first | (refine BT ?_; clear hA hH; rintro _ w ⟨bN, rfl, hH⟩ a hA) | (refine LT ?_; clear hA hH; rintro _ w ⟨oN, rfl, hH⟩ a hA) | (refine AT ?_; clear hA; rintro _ w ⟨oN, cN, rfl, hH2⟩ a hA; clear hH; have hH := (hH2 _ (by (repeat constructor))).tail; clear hH2) | (refine S0T ?_; clear hH; rintro _ w hH) )) | ((first | refine CT ?_ | (refine DT ?_ ?_ <;> intro hc <;> try (exfalso; omega))) <;> repeat' refine CT ?_) | (first | (refine DSK ?_; clear hA a; intro a hA) | (first | (refine DLT ?_; clear hA hH; rintro _ w ⟨oN, rfl, hH⟩; refine ⟨STT, ?_⟩; intro a hA) | (refine DAT ?_; clear hA; rintro _ w ⟨oN, cN, rfl, hH2⟩; clear hH; have hH := (hH2 _ (by (repeat constructor))).tail; clear hH2; refine ⟨STT, ?_⟩; intro a hA))) )
  · exact rt1 (.inl rfl) rfl hA rfl ⟨by rw [decide_eq_false]; intro h; have := congrArg List.length h; omega, hH.kp⟩
  have hab : l1.length = l2.length := by omega
  refine wp_lpj (S := Nat) (fun i ac w => (i ≤ l1.length ∧ l1.take i = l2.take i) ∧ HS w0 noM [] w ∧ Sl 26 [(0, .slice o1 l1.length c1), (1, .slice o2 l2.length c2), (12, .int .i64 l1.length), (13, .int .i64 i)] ac) (fun i => l1.length - i)
    (fun ac w => l1 = l2 ∧ HS w0 noM [] w ∧ Sl 26 [] ac) 0 ⟨⟨Nat.zero_le _, rfl⟩, hH, (hA.sub (by (repeat (first | exact trivial | refine ⟨rfl, ?_⟩))))⟩ ?_ ?_
  rotate_left
  · clear hA hH
    rintro ac w ⟨hn, hH, hA⟩
    repeat' (first | (first | (refine GT ?_ ?_ <;> intro hg <;> clear hA a <;> intro a hA <;> (first | exact FA | replace hg := of_decide_eq_true hg | replace hg := of_decide_eq_false hg | skip)) | (refine QT ?_; clear hA a; intro a hA) | (first | (refine BT ?_; clear hA hH; rintro _ w ⟨bN, rfl, hH⟩ a hA) | (refine LT ?_; clear hA hH; rintro _ w ⟨oN, rfl, hH⟩ a hA) | (refine AT ?_; clear hA; rintro _ w ⟨oN, cN, rfl, hH2⟩ a hA; clear hH; have hH := (hH2 _ (by (repeat constructor))).tail; clear hH2) | (refine S0T ?_; clear hH; rintro _ w hH) )) | ((first | refine CT ?_ | (refine DT ?_ ?_ <;> intro hc <;> try (exfalso; omega))) <;> repeat' refine CT ?_) | (first | (refine DSK ?_; clear hA a; intro a hA) | (first | (refine DLT ?_; clear hA hH; rintro _ w ⟨oN, rfl, hH⟩; refine ⟨STT, ?_⟩; intro a hA) | (refine DAT ?_; clear hA; rintro _ w ⟨oN, cN, rfl, hH2⟩; clear hH; have hH := (hH2 _ (by (repeat constructor))).tail; clear hH2; refine ⟨STT, ?_⟩; intro a hA))) )
    exact rt1 (.inl rfl) rfl hA rfl ⟨by rw [decide_eq_true hn], hH.kp⟩
  clear hA hH
  rintro i ac w ⟨⟨hi, hp⟩, hH, hA⟩
  by_cases hlt : i < l1.length
  rotate_left
  · repeat' (first | (first | (refine GT ?_ ?_ <;> intro hg <;> clear hA a <;> intro a hA <;> (first | exact FA | replace hg := of_decide_eq_true hg | replace hg := of_decide_eq_false hg | skip)) | (refine QT ?_; clear hA a; intro a hA) | (first | (refine BT ?_; clear hA hH; rintro _ w ⟨bN, rfl, hH⟩ a hA) | (refine LT ?_; clear hA hH; rintro _ w ⟨oN, rfl, hH⟩ a hA) | (refine AT ?_; clear hA; rintro _ w ⟨oN, cN, rfl, hH2⟩ a hA; clear hH; have hH := (hH2 _ (by (repeat constructor))).tail; clear hH2) | (refine S0T ?_; clear hH; rintro _ w hH) )) | ((first | refine CT ?_ | (refine DT ?_ ?_ <;> intro hc <;> try (exfalso; omega))) <;> repeat' refine CT ?_) | (first | (refine DSK ?_; clear hA a; intro a hA) | (first | (refine DLT ?_; clear hA hH; rintro _ w ⟨oN, rfl, hH⟩; refine ⟨STT, ?_⟩; intro a hA) | (refine DAT ?_; clear hA; rintro _ w ⟨oN, cN, rfl, hH2⟩; clear hH; have hH := (hH2 _ (by (repeat constructor))).tail; clear hH2; refine ⟨STT, ?_⟩; intro a hA))) )
    exact ⟨by rw [List.take_of_length_le (by omega), List.take_of_length_le (by omega)] at hp; exact hp, hH, (hA.sub (by (repeat (first | exact trivial | refine ⟨rfl, ?_⟩))))⟩
  obtain ⟨x, hx⟩ : ∃ x, l1[i]? = some x := ⟨_, List.getElem?_eq_getElem hlt⟩
  obtain ⟨y, hy⟩ : ∃ y, l2[i]? = some y := ⟨_, List.getElem?_eq_getElem (by omega)⟩
  have hcx := encX_at hx
  have hcy := encX_at hy
  repeat' (first | (first | (refine GT ?_ ?_ <;> intro hg <;> clear hA a <;> intro a hA <;> (first | exact FA | replace hg := of_decide_eq_true hg | replace hg := of_decide_eq_false hg | skip)) | (refine QT ?_; clear hA a; intro a hA) | (first | (refine BT ?_; clear hA hH; rintro _ w ⟨bN, rfl, hH⟩ a hA) | (refine LT ?_; clear hA hH; rintro _ w ⟨oN, rfl, hH⟩ a hA) | (refine AT ?_; clear hA; rintro _ w ⟨oN, cN, rfl, hH2⟩ a hA; clear hH; have hH := (hH2 _ (by (repeat constructor))).tail; clear hH2) | (refine S0T ?_; clear hH; rintro _ w hH) )) | ((first | refine CT ?_ | (refine DT ?_ ?_ <;> intro hc <;> try (exfalso; omega))) <;> repeat' refine CT ?_) | (first | (refine DSK ?_; clear hA a; intro a hA) | (first | (refine DLT ?_; clear hA hH; rintro _ w ⟨oN, rfl, hH⟩; refine ⟨STT, ?_⟩; intro a hA) | (refine DAT ?_; clear hA; rintro _ w ⟨oN, cN, rfl, hH2⟩; clear hH; have hH := (hH2 _ (by (repeat constructor))).tail; clear hH2; refine ⟨STT, ?_⟩; intro a hA))) )
  (refine wp_draw_HS [(0, 1), (1, 1), (2, 1), (3, 1), (4, 1), (5, 1), (6, 1), (7, 1), (8, 1)] mixed (by decide +kernel) hH ?_; replace hH := hH.drew)
  by_cases hxy : x = y
  · repeat' (first | (first | (refine GT ?_ ?_ <;> intro hg <;> clear hA a <;> intro a hA <;> (first | exact FA | replace hg := of_decide_eq_true hg | replace hg := of_decide_eq_false hg | skip)) | ((first | apply st_ex hA hH rfl rfl (by decide) | apply dr_ex hA rfl rfl rfl (by decide) | apply dr_exp hA rfl rfl rfl (by decide) | apply dr_ex3 hA hH rfl rfl rfl (by decide)); (first | (apply ex_eqlX; rfl; rfl) | (apply ex_neqX; rfl; rfl)); clear hA a; intro a hA) | (refine QT ?_; clear hA a; intro a hA) | (first | (refine BT ?_; clear hA hH; rintro _ w ⟨bN, rfl, hH⟩ a hA) | (refine LT ?_; clear hA hH; rintro _ w ⟨oN, rfl, hH⟩ a hA) | (refine AT ?_; clear hA; rintro _ w ⟨oN, cN, rfl, hH2⟩ a hA; clear hH; have hH := (hH2 _ (by (repeat constructor))).tail; clear hH2) | (refine S0T ?_; clear hH; rintro _ w hH) )) | ((first | refine CT ?_ | (refine DT ?_ ?_ <;> intro hc <;> try (exfalso; omega))) <;> repeat' refine CT ?_) | (first | (refine DSK ?_; clear hA a; intro a hA) | (first | (refine DLT ?_; clear hA hH; rintro _ w ⟨oN, rfl, hH⟩; refine ⟨STT, ?_⟩; intro a hA) | (refine DAT ?_; clear hA; rintro _ w ⟨oN, cN, rfl, hH2⟩; clear hH; have hH := (hH2 _ (by (repeat constructor))).tail; clear hH2; refine ⟨STT, ?_⟩; intro a hA))) )
    all_goals (first | exact ⟨i + 1, ⟨⟨hlt, by rw [take_next hx, take_next hy, hp, hxy]⟩, hH, (hA.sub (by (repeat (first | exact trivial | refine ⟨rfl, ?_⟩))))⟩, by omega⟩ | exact absurd hxy (by assumption))
  · repeat' (first | (first | (refine GT ?_ ?_ <;> intro hg <;> clear hA a <;> intro a hA <;> (first | exact FA | replace hg := of_decide_eq_true hg | replace hg := of_decide_eq_false hg | skip)) | ((first | apply st_ex hA hH rfl rfl (by decide) | apply dr_ex hA rfl rfl rfl (by decide) | apply dr_exp hA rfl rfl rfl (by decide) | apply dr_ex3 hA hH rfl rfl rfl (by decide)); (first | (apply ex_eqlX; rfl; rfl) | (apply ex_neqX; rfl; rfl)); clear hA a; intro a hA) | (refine QT ?_; clear hA a; intro a hA) | (first | (refine BT ?_; clear hA hH; rintro _ w ⟨bN, rfl, hH⟩ a hA) | (refine LT ?_; clear hA hH; rintro _ w ⟨oN, rfl, hH⟩ a hA) | (refine AT ?_; clear hA; rintro _ w ⟨oN, cN, rfl, hH2⟩ a hA; clear hH; have hH := (hH2 _ (by (repeat constructor))).tail; clear hH2) | (refine S0T ?_; clear hH; rintro _ w hH) )) | ((first | refine CT ?_ | (refine DT ?_ ?_ <;> intro hc <;> try (exfalso; omega))) <;> repeat' refine CT ?_) | (first | (refine DSK ?_; clear hA a; intro a hA) | (first | (refine DLT ?_; clear hA hH; rintro _ w ⟨oN, rfl, hH⟩; refine ⟨STT, ?_⟩; intro a hA) | (refine DAT ?_; clear hA; rintro _ w ⟨oN, cN, rfl, hH2⟩; clear hH; have hH := (hH2 _ (by (repeat constructor))).tail; clear hH2; refine ⟨STT, ?_⟩; intro a hA))) )
    all_goals (first | exact rt1 (.inl rfl) rfl hA rfl ⟨by rw [decide_eq_false]; intro h; subst h; rw [hx] at hy; exact hxy (Option.some.inj hy), hH.kp⟩ | exact absurd (by assumption) hxy | exact absurd hxy (by assumption))
set_option maxHeartbeats 4000000 in
theorem sameX_spec (w0 : World) (o1 o2 : Option Addr) (c1 c2 : Nat) (l1 l2 : Pth) (h1 : Rd w0 o1 (flat encX l1)) (h2 : Rd w0 o2 (flat encX l2)) (hn : l1.length ≤ 1000000) :
    Ret Try.prog 27 #[.slice o1 l1.length c1, .slice o2 l2.length c2] w0 (fun v w => v = .bool (decide (l1 = l2)) ∧ Kp w0 noM w) := by
  have hH : HS w0 noM [] w0 := HS.init w0 noM
  have hs1 : Sp o1 l1.length := h1.sp (sz := 1) (flat_length encX_len l1) (by omega)
  have hs2 : Sp o2 l2.length := h2.sp (sz := 1) (flat_length encX_len l2) (by omega)
  (refine enter (N := 26) Try.func27 rfl Try.ntmps27 rfl ?_; intro a hA; dsimp only [sl0, Nat.reduceAdd] at hA)
  repeat' (first | (first | (refine GT ?_ ?_ <;> intro hg <;> clear hA a <;> intro a hA <;> (first | exact FA | replace hg := of_decide_eq_true hg | replace hg := of_decide_eq_false hg | skip)) | (refine QT ?_; clear hA a; intro a hA) | (first | (refine BT ?_; clear hA hH; rintro _ w ⟨bN, rfl, hH⟩ a hA) | (refine LT ?_; clear hA hH; rintro _ w ⟨oN, rfl, hH⟩ a hA) | (refine AT ?_; clear hA; rintro _ w ⟨oN, cN, rfl, hH2⟩ a hA; clear hH; have hH := (hH2 _ (by (repeat constructor))).tail; clear hH2) | (refine S0T ?_; clear hH; rintro _ w hH) )) | ((first | refine CT ?_ | (refine DT ?_ ?_ <;> intro hc <;> try (exfalso; omega))) <;> repeat' refine CT ?_) | (first | (refine DSK ?_; clear hA a; intro a hA) | (first | (refine DLT ?_; clear hA hH; rintro _ w ⟨oN, rfl, hH⟩; refine ⟨STT, ?_⟩; intro a hA) | (refine DAT ?_; clear hA; rintro _ w ⟨oN, cN, rfl, hH2⟩; clear hH; have hH := (hH2 _ (by (repeat constructor))).tail; clear hH2; refine ⟨STT, ?_⟩; intro a hA))) )
  · exact rt1 (.inl rfl) rfl hA rfl ⟨by rw [decide_eq_false]; intro h; have := congrArg List.length h; omega, hH.kp⟩
  have hab : l1.length = l2.length := by omega
  refine wp_lpj (S := Nat) (fun i ac w => (i ≤ l1.length ∧ l1.take i = l2.take i) ∧ HS w0 noM [] w ∧ Sl 26 [(0, .slice o1 l1.length c1), (1, .slice o2 l2.length c2), (5, .int .i64 i)] ac) (fun i => l1.length - i)
    (fun ac w => l1 = l2 ∧ HS w0 noM [] w ∧ Sl 26 [] ac) 0 ⟨⟨Nat.zero_le _, rfl⟩, hH, (hA.sub (by (repeat (first | exact trivial | refine ⟨rfl, ?_⟩))))⟩ ?_ ?_
  rotate_left
  · clear hA hH
    rintro ac w ⟨hn, hH, hA⟩
    repeat' (first | (first | (refine GT ?_ ?_ <;> intro hg <;> clear hA a <;> intro a hA <;> (first | exact FA | replace hg := of_decide_eq_true hg | replace hg := of_decide_eq_false hg | skip)) | (refine QT ?_; clear hA a; intro a hA) | (first | (refine BT ?_; clear hA hH; rintro _ w ⟨bN, rfl, hH⟩ a hA) | (refine LT ?_; clear hA hH; rintro _ w ⟨oN, rfl, hH⟩ a hA) | (refine AT ?_; clear hA; rintro _ w ⟨oN, cN, rfl, hH2⟩ a hA; clear hH; have hH := (hH2 _ (by (repeat constructor))).tail; clear hH2) | (refine S0T ?_; clear hH; rintro _ w hH) )) | ((first | refine CT ?_ | (refine DT ?_ ?_ <;> intro hc <;> try (exfalso; omega))) <;> repeat' refine CT ?_) | (first | (refine DSK ?_; clear hA a; intro a hA) | (first | (refine DLT ?_; clear hA hH; rintro _ w ⟨oN, rfl, hH⟩; refine ⟨STT, ?_⟩; intro a hA) | (refine DAT ?_; clear hA; rintro _ w ⟨oN, cN, rfl, hH2⟩; clear hH; have hH := (hH2 _ (by (repeat constructor))).tail; clear hH2; refine ⟨STT, ?_⟩; intro a hA))) )
    exact rt1 (.inl rfl) rfl hA rfl ⟨by rw [decide_eq_true hn], hH.kp⟩
  clear hA hH
  rintro i ac w ⟨⟨hi, hp⟩, hH, hA⟩
  by_cases hlt : i < l1.length
  rotate_left
  · repeat' (first | (first | (refine GT ?_ ?_ <;> intro hg <;> clear hA a <;> intro a hA <;> (first | exact FA | replace hg := of_decide_eq_true hg | replace hg := of_decide_eq_false hg | skip)) | (refine QT ?_; clear hA a; intro a hA) | (first | (refine BT ?_; clear hA hH; rintro _ w ⟨bN, rfl, hH⟩ a hA) | (refine LT ?_; clear hA hH; rintro _ w ⟨oN, rfl, hH⟩ a hA) | (refine AT ?_; clear hA; rintro _ w ⟨oN, cN, rfl, hH2⟩ a hA; clear hH; have hH := (hH2 _ (by (repeat constructor))).tail; clear hH2) | (refine S0T ?_; clear hH; rintro _ w hH) )) | ((first | refine CT ?_ | (refine DT ?_ ?_ <;> intro hc <;> try (exfalso; omega))) <;> repeat' refine CT ?_) | (first | (refine DSK ?_; clear hA a; intro a hA) | (first | (refine DLT ?_; clear hA hH; rintro _ w ⟨oN, rfl, hH⟩; refine ⟨STT, ?_⟩; intro a hA) | (refine DAT ?_; clear hA; rintro _ w ⟨oN, cN, rfl, hH2⟩; clear hH; have hH := (hH2 _ (by (repeat constructor))).tail; clear hH2; refine ⟨STT, ?_⟩; intro a hA))) )
    exact ⟨by rw [List.take_of_length_le (by omega), List.take_of_length_le (by omega)] at hp; exact hp, hH, (hA.sub (by (repeat (first | exact trivial | refine ⟨rfl, ?_⟩))))⟩
  obtain ⟨x, hx⟩ : ∃ x, l1[i]? = some x := ⟨_, List.getElem?_eq_getElem hlt⟩
  obtain ⟨y, hy⟩ : ∃ y, l2[i]? = some y := ⟨_, List.getElem?_eq_getElem (by omega)⟩
  have hcx := encX_at hx
  have hcy := encX_at hy
  repeat' (first | (first | (refine GT ?_ ?_ <;> intro hg <;> clear hA a <;> intro a hA <;> (first | exact FA | replace hg := of_decide_eq_true hg | replace hg := of_decide_eq_false hg | skip)) | (refine QT ?_; clear hA a; intro a hA) | (first | (refine BT ?_; clear hA hH; rintro _ w ⟨bN, rfl, hH⟩ a hA) | (refine LT ?_; clear hA hH; rintro _ w ⟨oN, rfl, hH⟩ a hA) | (refine AT ?_; clear hA; rintro _ w ⟨oN, cN, rfl, hH2⟩ a hA; clear hH; have hH := (hH2 _ (by (repeat constructor))).tail; clear hH2) | (refine S0T ?_; clear hH; rintro _ w hH) )) | ((first | refine CT ?_ | (refine DT ?_ ?_ <;> intro hc <;> try (exfalso; omega))) <;> repeat' refine CT ?_) | (first | (refine DSK ?_; clear hA a; intro a hA) | (first | (refine DLT ?_; clear hA hH; rintro _ w ⟨oN, rfl, hH⟩; refine ⟨STT, ?_⟩; intro a hA) | (refine DAT ?_; clear hA; rintro _ w ⟨oN, cN, rfl, hH2⟩; clear hH; have hH := (hH2 _ (by (repeat constructor))).tail; clear hH2; refine ⟨STT, ?_⟩; intro a hA))) )
  (refine wp_draw_HS [(0, 1), (1, 1), (2, 1), (3, 1), (4, 1), (5, 1), (6, 1), (7, 1), (8, 1)] mixed (by decide +kernel) hH ?_; replace hH := hH.drew)
  by_cases hxy : x = y
  · repeat' (first | (first | (refine GT ?_ ?_ <;> intro hg <;> clear hA a <;> intro a hA <;> (first | exact FA | replace hg := of_decide_eq_true hg | replace hg := of_decide_eq_false hg | skip)) | ((first | apply st_ex hA hH rfl rfl (by decide) | apply dr_ex hA rfl rfl rfl (by decide) | apply dr_exp hA rfl rfl rfl (by decide) | apply dr_ex3 hA hH rfl rfl rfl (by decide)); (first | (apply ex_eqlX; rfl; rfl) | (apply ex_neqX; rfl; rfl)); clear hA a; intro a hA) | (refine QT ?_; clear hA a; intro a hA) | (first | (refine BT ?_; clear hA hH; rintro _ w ⟨bN, rfl, hH⟩ a hA) | (refine LT ?_; clear hA hH; rintro _ w ⟨oN, rfl, hH⟩ a hA) | (refine AT ?_; clear hA; rintro _ w ⟨oN, cN, rfl, hH2⟩ a hA; clear hH; have hH := (hH2 _ (by (repeat constructor))).tail; clear hH2) | (refine S0T ?_; clear hH; rintro _ w hH) )) | ((first | refine CT ?_ | (refine DT ?_ ?_ <;> intro hc <;> try (exfalso; omega))) <;> repeat' refine CT ?_) | (first | (refine DSK ?_; clear hA a; intro a hA) | (first | (refine DLT ?_; clear hA hH; rintro _ w ⟨oN, rfl, hH⟩; refine ⟨STT, ?_⟩; intro a hA) | (refine DAT ?_; clear hA; rintro _ w ⟨oN, cN, rfl, hH2⟩; clear hH; have hH := (hH2 _ (by (repeat constructor))).tail; clear hH2; refine ⟨STT, ?_⟩; intro a hA))) )
    all_goals (first | exact ⟨i + 1, ⟨⟨hlt, by rw [take_next hx, take_next hy, hp, hxy]⟩, hH, (hA.sub (by (repeat (first | exact trivial | refine ⟨rfl, ?_⟩))))⟩, by omega⟩ | exact absurd hxy (by assumption))
  · repeat' (first | (first | (refine GT ?_ ?_ <;> intro hg <;> clear hA a <;> intro a hA <;> (first | exact FA | replace hg := of_decide_eq_true hg | replace hg := of_decide_eq_false hg | skip)) | ((first | apply st_ex hA hH rfl rfl (by decide) | apply dr_ex hA rfl rfl rfl (by decide) | apply dr_exp hA rfl rfl rfl (by decide) | apply dr_ex3 hA hH rfl rfl rfl (by decide)); (first | (apply ex_eqlX; rfl; rfl) | (apply ex_neqX; rfl; rfl)); clear hA a; intro a hA) | (refine QT ?_; clear hA a; intro a hA) | (first | (refine BT ?_; clear hA hH; rintro _ w ⟨bN, rfl, hH⟩ a hA) | (refine LT ?_; clear hA hH; rintro _ w ⟨oN, rfl, hH⟩ a hA) | (refine AT ?_; clear hA; rintro _ w ⟨oN, cN, rfl, hH2⟩ a hA; clear hH; have hH := (hH2 _ (by (repeat constructor))).tail; clear hH2) | (refine S0T ?_; clear hH; rintro _ w hH) )) | ((first | refine CT ?_ | (refine DT ?_ ?_ <;> intro hc <;> try (exfalso; omega))) <;> repeat' refine CT ?_) | (first | (refine DSK ?_; clear hA a; intro a hA) | (first | (refine DLT ?_; clear hA hH; rintro _ w ⟨oN, rfl, hH⟩; refine ⟨STT, ?_⟩; intro a hA) | (refine DAT ?_; clear hA; rintro _ w ⟨oN, cN, rfl, hH2⟩; clear hH; have hH := (hH2 _ (by (repeat constructor))).tail; clear hH2; refine ⟨STT, ?_⟩; intro a hA))) )
    all_goals (first | exact rt1 (.inl rfl) rfl hA rfl ⟨by rw [decide_eq_false]; intro h; subst h; rw [hx] at hy; exact hxy (Option.some.inj hy), hH.kp⟩ | exact absurd (by assumption) hxy | exact absurd hxy (by assumption))
theorem is_spec (w0 : World) (p1 p2 : AP) : Ret Try.prog 32 #[.agg #[.int .i64 p1.k, .int .i64 p1.v, .int .i64 p1.n, .string p1.s, .slice p1.ol p1.ls.length p1.cl, .slice p1.oa p1.ps.length p1.ca], .agg #[.int .i64 p2.k, .int .i64 p2.v, .int .i64 p2.n, .string p2.s, .slice p2.ol p2.ls.length p2.cl, .slice p2.oa p2.ps.length p2.ca]] w0 (fun v w => v = .bool (decide (p1.hd = p2.hd)) ∧ Kp w0 noM w) := by
  have hH : HS w0 noM [] w0 := HS.init w0 noM
  (refine enter (N := 24) Try.func32 rfl Try.ntmps32 rfl ?_; intro a hA; dsimp only [sl0, Nat.reduceAdd] at hA)
  repeat' (first | (first | (refine GT ?_ ?_ <;> intro hg <;> clear hA a <;> intro a hA <;> (first | exact FA | replace hg := of_decide_eq_true hg | replace hg := of_decide_eq_false hg | skip)) | ((first | apply st_ex hA hH rfl rfl (by decide) | apply dr_ex hA rfl rfl rfl (by decide) | apply dr_exp hA rfl rfl rfl (by decide) | apply dr_ex3 hA hH rfl rfl rfl (by decide)); (first | (apply ex_eqlX; rfl; rfl) | (apply ex_neqX; rfl; rfl)); clear hA a; intro a hA) | (refine QT ?_; clear hA a; intro a hA) | (first | (refine BT ?_; clear hA hH; rintro _ w ⟨bN, rfl, hH⟩ a hA) | (refine LT ?_; clear hA hH; rintro _ w ⟨oN, rfl, hH⟩ a hA) | (refine AT ?_; clear hA; rintro _ w ⟨oN, cN, rfl, hH2⟩ a hA; clear hH; have hH := (hH2 _ (by (repeat constructor))).tail; clear hH2) | (refine S0T ?_; clear hH; rintro _ w hH) )) | ((first | refine CT ?_ | (refine DT ?_ ?_ <;> intro hc <;> try (exfalso; omega))) <;> repeat' refine CT ?_) | (first | (refine DSK ?_; clear hA a; intro a hA) | (first | (refine DLT ?_; clear hA hH; rintro _ w ⟨oN, rfl, hH⟩; refine ⟨STT, ?_⟩; intro a hA) | (refine DAT ?_; clear hA; rintro _ w ⟨oN, cN, rfl, hH2⟩; clear hH; have hH := (hH2 _ (by (repeat constructor))).tail; clear hH2; refine ⟨STT, ?_⟩; intro a hA))) )
  all_goals (first
    | exact rt1 (.inl rfl) rfl hA rfl ⟨by rw [decide_eq_false (isP_k (by assumption))], hH.kp⟩
    | exact rt1 (.inl rfl) rfl hA rfl ⟨by rw [decide_eq_false (isP_n (by assumption))], hH.kp⟩
    | skip)
  refine rt1 (.inl rfl) rfl hA rfl ⟨?_, hH.kp⟩
  congr 1
  rw [decide_eq_decide]
  exact ⟨fun h => isP_yes (by assumption) (by assumption) h, fun h => congrArg Hd.s h⟩
theorem equal_spec (w0 : World) (p1 p2 : AP) : Ret Try.prog 47 #[.agg #[.int .i64 p1.k, .int .i64 p1.v, .int .i64 p1.n, .string p1.s, .slice p1.ol p1.ls.length p1.cl, .slice p1.oa p1.ps.length p1.ca], .agg #[.int .i64 p2.k, .int .i64 p2.v, .int .i64 p2.n, .string p2.s, .slice p2.ol p2.ls.length p2.cl, .slice p2.oa p2.ps.length p2.ca]] w0 (fun v w => v = .bool (decide (p1.hd = p2.hd)) ∧ Kp w0 noM w) := by
  have hH : HS w0 noM [] w0 := HS.init w0 noM
  (refine enter (N := 24) Try.func47 rfl Try.ntmps47 rfl ?_; intro a hA; dsimp only [sl0, Nat.reduceAdd] at hA)
  repeat' (first | (first | (refine GT ?_ ?_ <;> intro hg <;> clear hA a <;> intro a hA <;> (first | exact FA | replace hg := of_decide_eq_true hg | replace hg := of_decide_eq_false hg | skip)) | ((first | apply st_ex hA hH rfl rfl (by decide) | apply dr_ex hA rfl rfl rfl (by decide) | apply dr_exp hA rfl rfl rfl (by decide) | apply dr_ex3 hA hH rfl rfl rfl (by decide)); (first | (apply ex_eqlX; rfl; rfl) | (apply ex_neqX; rfl; rfl)); clear hA a; intro a hA) | (refine QT ?_; clear hA a; intro a hA) | (first | (refine BT ?_; clear hA hH; rintro _ w ⟨bN, rfl, hH⟩ a hA) | (refine LT ?_; clear hA hH; rintro _ w ⟨oN, rfl, hH⟩ a hA) | (refine AT ?_; clear hA; rintro _ w ⟨oN, cN, rfl, hH2⟩ a hA; clear hH; have hH := (hH2 _ (by (repeat constructor))).tail; clear hH2) | (refine S0T ?_; clear hH; rintro _ w hH) )) | ((first | refine CT ?_ | (refine DT ?_ ?_ <;> intro hc <;> try (exfalso; omega))) <;> repeat' refine CT ?_) | (first | (refine DSK ?_; clear hA a; intro a hA) | (first | (refine DLT ?_; clear hA hH; rintro _ w ⟨oN, rfl, hH⟩; refine ⟨STT, ?_⟩; intro a hA) | (refine DAT ?_; clear hA; rintro _ w ⟨oN, cN, rfl, hH2⟩; clear hH; have hH := (hH2 _ (by (repeat constructor))).tail; clear hH2; refine ⟨STT, ?_⟩; intro a hA))) )
  all_goals (first
    | exact rt1 (.inl rfl) rfl hA rfl ⟨by rw [decide_eq_false (isP_k (by assumption))], hH.kp⟩
    | exact rt1 (.inl rfl) rfl hA rfl ⟨by rw [decide_eq_false (isP_n (by assumption))], hH.kp⟩
    | skip)
  refine rt1 (.inl rfl) rfl hA rfl ⟨?_, hH.kp⟩
  congr 1
  rw [decide_eq_decide]
  exact ⟨fun h => isP_yes (by assumption) (by assumption) h, fun h => congrArg Hd.s h⟩
theorem head_spec (w0 : World) (p : AP) : Ret Try.prog 48 #[.agg #[.int .i64 p.k, .int .i64 p.v, .int .i64 p.n, .string p.s, .slice p.ol p.ls.length p.cl, .slice p.oa p.ps.length p.ca]] w0 (fun v w => v = .agg #[.int .i64 p.hd.ap.k, .int .i64 p.hd.ap.v, .int .i64 p.hd.ap.n, .string p.hd.ap.s, .slice p.hd.ap.ol p.hd.ap.ls.length p.hd.ap.cl, .slice p.hd.ap.oa p.hd.ap.ps.length p.hd.ap.ca] ∧ Kp w0 noM w) := by
  have hH : HS w0 noM [] w0 := HS.init w0 noM
  (refine enter (N := 10) Try.func48 rfl Try.ntmps48 rfl ?_; intro a hA; dsimp only [sl0, Nat.reduceAdd] at hA)
  repeat' (first | (first | (refine GT ?_ ?_ <;> intro hg <;> clear hA a <;> intro a hA <;> (first | exact FA | replace hg := of_decide_eq_true hg | replace hg := of_decide_eq_false hg | skip)) | ((first | apply st_ex hA hH rfl rfl (by decide) | apply dr_ex hA rfl rfl rfl (by decide) | apply dr_exp hA rfl rfl rfl (by decide) | apply dr_ex3 hA hH rfl rfl rfl (by decide)); (first | (apply ex_build_p #[.int .i64 p.hd.ap.k, .int .i64 p.hd.ap.v, .int .i64 p.hd.ap.n, .string p.hd.ap.s, .slice p.hd.ap.ol p.hd.ap.ls.length p.hd.ap.cl, .slice p.hd.ap.oa p.hd.ap.ps.length p.hd.ap.ca]; rfl; (repeat (first | (intro _ h; exact absurd h (List.not_mem_nil)) | (refine List.forall_mem_cons.2 ⟨one_cell_of _ _, ?_⟩))); rfl)); clear hA a; intro a hA) | (refine QT ?_; clear hA a; intro a hA) | (first | (refine BT ?_; clear hA hH; rintro _ w ⟨bN, rfl, hH⟩ a hA) | (refine LT ?_; clear hA hH; rintro _ w ⟨oN, rfl, hH⟩ a hA) | (refine AT ?_; clear hA; rintro _ w ⟨oN, cN, rfl, hH2⟩ a hA; clear hH; have hH := (hH2 _ (by (repeat constructor))).tail; clear hH2) | (refine S0T ?_; clear hH; rintro _ w hH) | (apply st_op0 hA rfl rfl; apply op_store_agg (vs := [.int .i64 p.hd.ap.k, .int .i64 p.hd.ap.v, .int .i64 p.hd.ap.n, .string p.hd.ap.s, .slice p.hd.ap.ol p.hd.ap.ls.length p.hd.ap.cl, .slice p.hd.ap.oa p.hd.ap.ps.length p.hd.ap.ca]); rfl; rfl; exact hH; (repeat constructor); (repeat rfl); clear hH; rintro _ w hH))) | ((first | refine CT ?_ | (refine DT ?_ ?_ <;> intro hc <;> try (exfalso; omega))) <;> repeat' refine CT ?_) | (first | (refine DSK ?_; clear hA a; intro a hA) | (first | (refine DLT ?_; clear hA hH; rintro _ w ⟨oN, rfl, hH⟩; refine ⟨STT, ?_⟩; intro a hA) | (refine DAT ?_; clear hA; rintro _ w ⟨oN, cN, rfl, hH2⟩; clear hH; have hH := (hH2 _ (by (repeat constructor))).tail; clear hH2; refine ⟨STT, ?_⟩; intro a hA))) )
  exact rt1c (vs := [.int .i64 p.hd.ap.k, .int .i64 p.hd.ap.v, .int .i64 p.hd.ap.n, .string p.hd.ap.s, .slice p.hd.ap.ol p.hd.ap.ls.length p.hd.ap.cl, .slice p.hd.ap.oa p.hd.ap.ps.length p.hd.ap.ca]) (.inl rfl) rfl hA rfl rfl hH (cls_cb_all (by exact MEMT)) ⟨rfl, hH.kp⟩
end Go.Proofs.Ytcododdkjppmjaa
namespace Go.Fw
open Go Go.RowKit
theorem HS.cb_kp {w0 w w' : World} {M : Nat → Prop} {H : List It} {b j T : Nat} {cs : List Value} {v : Value} (h : HS w0 M H w) (hm : cb b T cs ∈ H) (hv : nth cs j = some v) (hk : Kp w noM w') : w'.cell? (bat b j) = some v := cl_cb hm hv _ (h.keep hk)
end Go.Fw
namespace Go.Proofs.Ytcododdkjppmjaa
open Go Go.Fw
set_option linter.unusedVariables false
def idxF {α : Type} (f : α → Bool) (l : List α) : Int := match l.findIdx? f with
  | some i => (i : Int)
  | none => -1
theorem idxF_at {α : Type} {f : α → Bool} {l : List α} {i : Nat} {x : α} (h : l[i]? = some x) (hf : f x = true) (hn : ∀ (k : Nat) (x : α), k < i → l[k]? = some x → f x = false) : idxF f l = (i : Int) := by
  unfold idxF
  have : l.findIdx? f = some i := by
    rw [List.findIdx?_eq_some_iff_getElem]
    obtain ⟨h1, h2⟩ := List.getElem?_eq_some_iff.1 h
    exact ⟨h1, by simp [h2, hf], fun j hj => by have := hn j _ hj (List.getElem?_eq_getElem (by omega)); simpa using this⟩
  rw [this]
theorem idxF_no {α : Type} {f : α → Bool} {l : List α} (hn : ∀ (k : Nat) (x : α), l[k]? = some x → f x = false) : idxF f l = -1 := by
  unfold idxF
  have : l.findIdx? f = none := by
    rw [List.findIdx?_eq_none_iff]
    intro x hx
    obtain ⟨k, hk⟩ := List.getElem?_of_mem hx
    simpa using hn k x hk
  rw [this]
theorem idxF_some {α : Type} {f : α → Bool} {l : List α} {i : Nat} (h : idxF f l = (i : Int)) : ∃ x, l[i]? = some x ∧ f x = true ∧ ∀ (k : Nat) (x : α), k < i → l[k]? = some x → f x = false := by
  unfold idxF at h
  split at h
  · rename_i j hj
    obtain rfl : j = i := by omega
    rw [List.findIdx?_eq_some_iff_getElem] at hj
    obtain ⟨h1, h2, h3⟩ := hj
    refine ⟨_, List.getElem?_eq_getElem h1, h2, fun k x hk hx => ?_⟩
    obtain ⟨h4, h5⟩ := List.getElem?_eq_some_iff.1 hx
    have := h3 k hk
    rw [h5] at this
    simpa using this
  · omega
theorem idxF_nil {α : Type} {f : α → Bool} {l : List α} (h : idxF f l < 0) : ∀ x ∈ l, f x = false := by
  unfold idxF at h
  split at h
  · omega
  · rename_i hj
    intro x hx
    have := List.findIdx?_eq_none_iff.1 hj x hx
    simpa using this
theorem idxF_ge {α : Type} (f : α → Bool) (l : List α) : -1 ≤ idxF f l := by
  unfold idxF
  split <;> omega
theorem idxF_lt {α : Type} (f : α → Bool) (l : List α) : idxF f l < l.length ∨ idxF f l = -1 := by
  unfold idxF
  split
  · rename_i i hi
    rw [List.findIdx?_eq_some_iff_getElem] at hi
    exact .inl (by have := hi.1; omega)
  · exact .inr rfl
/-- which of a row's conditions is of a path -/
def atI (l : List MC) (q : Pth) : Int := idxF (fun m => decide (m.q = q)) l
set_option maxRecDepth 10000 attribute [local irreducible] Code.wp wpList Calls Ex Op1 sat bat blk cb own Go.Fw.mp Go.Fw.mpO Go.Fw.mpI Go.Fw.mpE Go.Fw.itr HS Rd Ret wkD Hp Cl Cls Exit.then Exit.inBlock Exit.noGoto bodyPost Go.Fw.flat wk2 Go.Fw.all Go.Fw.owns wpOp
attribute [local irreducible] encA encC idxF

set_option maxHeartbeats 4000000 in
theorem indexC_spec (w0 : World) (o : Option Addr) (c : Nat) (l : List MC) (fk : FuncId) (first cap : Array Value) [hk : FnB Try.prog fk] (f : MC → Bool) (hr : Rd w0 o (flat encC l)) (hl : l.length ≤ 1000000)
    (hf : ∀ x ∈ l, ∀ w, Kp w0 noM w → Ret Try.prog fk (first ++ #[.agg #[.slice x.o x.q.length x.c, .int .i64 x.p.k, .int .i64 x.p.v, .int .i64 x.p.n, .string x.p.s, .slice x.p.ol x.p.ls.length x.p.cl, .slice x.p.oa x.p.ps.length x.p.ca]] ++ cap) w (fun v w' => v = .bool (f x) ∧ Kp w noM w')) :
    Ret Try.prog 53 #[.slice o l.length c, .func (.func fk) first cap] w0 (fun v w => v = .int .i64 (idxF f l) ∧ Kp w0 noM w) := by
  have hH : HS w0 noM [] w0 := HS.init w0 noM
  have hsp : Sp o l.length := hr.sp (sz := 7) (flat_length encC_len l) (by omega)
  (refine enter (N := 19) Try.func53 rfl Try.ntmps53 rfl ?_; intro a hA; dsimp only [sl0, Nat.reduceAdd] at hA)
  repeat' (first | (first | (refine GT ?_ ?_ <;> intro hg <;> clear hA a <;> intro a hA <;> (first | exact FA | replace hg := of_decide_eq_true hg | replace hg := of_decide_eq_false hg | skip)) | (refine QT ?_; clear hA a; intro a hA) | (first | (refine BT ?_; clear hA hH; rintro _ w ⟨bN, rfl, hH⟩ a hA) | (refine LT ?_; clear hA hH; rintro _ w ⟨oN, rfl, hH⟩ a hA) | (refine AT ?_; clear hA; rintro _ w ⟨oN, cN, rfl, hH2⟩ a hA; clear hH; have hH := (hH2 _ (by (repeat constructor))).tail; clear hH2) | (refine S0T ?_; clear hH; rintro _ w hH) )) | ((first | refine CT ?_ | (refine DT ?_ ?_ <;> intro hc <;> try (exfalso; omega))) <;> repeat' refine CT ?_) | (first | (refine DSK ?_; clear hA a; intro a hA) | (first | (refine DLT ?_; clear hA hH; rintro _ w ⟨oN, rfl, hH⟩; refine ⟨STT, ?_⟩; intro a hA) | (refine DAT ?_; clear hA; rintro _ w ⟨oN, cN, rfl, hH2⟩; clear hH; have hH := (hH2 _ (by (repeat constructor))).tail; clear hH2; refine ⟨STT, ?_⟩; intro a hA))) )
  refine wp_lpj (S := Nat) (fun i a w => (i ≤ l.length ∧ ∀ (k : Nat) (x : MC), k < i → l[k]? = some x → f x = false) ∧ HS w0 noM [] w ∧ Sl 19 [(0, .slice o l.length c), (1, .func (.func fk) first cap), (7, .int .i64 l.length), (8, .int .i64 i)] a) (fun i => l.length - i)
    (fun a w => (∀ (k : Nat) (x : MC), l[k]? = some x → f x = false) ∧ HS w0 noM [] w ∧ Sl 19 [] a) 0 ⟨⟨Nat.zero_le _, fun k x hk => absurd hk (Nat.not_lt_zero _)⟩, hH, (hA.sub (by (repeat (first | exact trivial | refine ⟨rfl, ?_⟩))))⟩ ?_ ?_
  rotate_left
  · clear hA hH
    rintro a w ⟨hn, hH, hA⟩
    repeat' (first | (first | (refine GT ?_ ?_ <;> intro hg <;> clear hA a <;> intro a hA <;> (first | exact FA | replace hg := of_decide_eq_true hg | replace hg := of_decide_eq_false hg | skip)) | (refine QT ?_; clear hA a; intro a hA) | (first | (refine BT ?_; clear hA hH; rintro _ w ⟨bN, rfl, hH⟩ a hA) | (refine LT ?_; clear hA hH; rintro _ w ⟨oN, rfl, hH⟩ a hA) | (refine AT ?_; clear hA; rintro _ w ⟨oN, cN, rfl, hH2⟩ a hA; clear hH; have hH := (hH2 _ (by (repeat constructor))).tail; clear hH2) | (refine S0T ?_; clear hH; rintro _ w hH) )) | ((first | refine CT ?_ | (refine DT ?_ ?_ <;> intro hc <;> try (exfalso; omega))) <;> repeat' refine CT ?_) | (first | (refine DSK ?_; clear hA a; intro a hA) | (first | (refine DLT ?_; clear hA hH; rintro _ w ⟨oN, rfl, hH⟩; refine ⟨STT, ?_⟩; intro a hA) | (refine DAT ?_; clear hA; rintro _ w ⟨oN, cN, rfl, hH2⟩; clear hH; have hH := (hH2 _ (by (repeat constructor))).tail; clear hH2; refine ⟨STT, ?_⟩; intro a hA))) )
    exact rt1 (.inl rfl) rfl hA rfl ⟨by rw [idxF_no hn], hH.kp⟩
  clear hA hH
  rintro i a w ⟨⟨hi, hn⟩, hH, hA⟩
  by_cases hlt : i < l.length
  rotate_left
  · repeat' (first | (first | (refine GT ?_ ?_ <;> intro hg <;> clear hA a <;> intro a hA <;> (first | exact FA | replace hg := of_decide_eq_true hg | replace hg := of_decide_eq_false hg | skip)) | (refine QT ?_; clear hA a; intro a hA) | (first | (refine BT ?_; clear hA hH; rintro _ w ⟨bN, rfl, hH⟩ a hA) | (refine LT ?_; clear hA hH; rintro _ w ⟨oN, rfl, hH⟩ a hA) | (refine AT ?_; clear hA; rintro _ w ⟨oN, cN, rfl, hH2⟩ a hA; clear hH; have hH := (hH2 _ (by (repeat constructor))).tail; clear hH2) | (refine S0T ?_; clear hH; rintro _ w hH) )) | ((first | refine CT ?_ | (refine DT ?_ ?_ <;> intro hc <;> try (exfalso; omega))) <;> repeat' refine CT ?_) | (first | (refine DSK ?_; clear hA a; intro a hA) | (first | (refine DLT ?_; clear hA hH; rintro _ w ⟨oN, rfl, hH⟩; refine ⟨STT, ?_⟩; intro a hA) | (refine DAT ?_; clear hA; rintro _ w ⟨oN, cN, rfl, hH2⟩; clear hH; have hH := (hH2 _ (by (repeat constructor))).tail; clear hH2; refine ⟨STT, ?_⟩; intro a hA))) )
    exact ⟨fun k x hk => hn k x (by have := (List.getElem?_eq_some_iff.1 hk).1; omega) hk, hH, (hA.sub (by (repeat (first | exact trivial | refine ⟨rfl, ?_⟩))))⟩
  obtain ⟨x, hx⟩ : ∃ x, l[i]? = some x := ⟨_, List.getElem?_eq_getElem hlt⟩
  have hxm := List.mem_of_getElem? hx
  have hvs := flat_all encC_len hx
  rw [encC_eq] at hvs
  repeat' (first | (first | (refine GT ?_ ?_ <;> intro hg <;> clear hA a <;> intro a hA <;> (first | exact FA | replace hg := of_decide_eq_true hg | replace hg := of_decide_eq_false hg | skip)) | ((first | apply st_ex hA hH rfl rfl (by decide) | apply dr_ex hA rfl rfl rfl (by decide) | apply dr_exp hA rfl rfl rfl (by decide) | apply dr_ex3 hA hH rfl rfl rfl (by decide)); (first | (apply ex_load_st (vs := [.slice x.o x.q.length x.c, .int .i64 x.p.k, .int .i64 x.p.v, .int .i64 x.p.n, .string x.p.s, .slice x.p.ol x.p.ls.length x.p.cl, .slice x.p.oa x.p.ps.length x.p.ca]); rfl; rfl; exact cls_rd hr id hvs)); clear hA a; intro a hA) | (refine QT ?_; clear hA a; intro a hA) | (first | (refine BT ?_; clear hA hH; rintro _ w ⟨bN, rfl, hH⟩ a hA) | (refine LT ?_; clear hA hH; rintro _ w ⟨oN, rfl, hH⟩ a hA) | (refine AT ?_; clear hA; rintro _ w ⟨oN, cN, rfl, hH2⟩ a hA; clear hH; have hH := (hH2 _ (by (repeat constructor))).tail; clear hH2) | (refine S0T ?_; clear hH; rintro _ w hH) )) | ((first | refine CT ?_ | (refine DT ?_ ?_ <;> intro hc <;> try (exfalso; omega))) <;> repeat' refine CT ?_) | (first | (refine DSK ?_; clear hA a; intro a hA) | (first | (refine DLT ?_; clear hA hH; rintro _ w ⟨oN, rfl, hH⟩; refine ⟨STT, ?_⟩; intro a hA) | (refine DAT ?_; clear hA; rintro _ w ⟨oN, cN, rfl, hH2⟩; clear hH; have hH := (hH2 _ (by (repeat constructor))).tail; clear hH2; refine ⟨STT, ?_⟩; intro a hA))) )
  (refine st_op hA rfl rfl (by decide) (op_call rfl rfl rfl (hf x hxm _ hH.kp)) ?_; clear hA; rintro _ w ⟨rfl, hk⟩ a hA; replace hH := hH.keep hk; clear hk)
  cases hfx : f x with
  | true =>
    rw [hfx] at hA
    repeat' (first | (first | (refine GT ?_ ?_ <;> intro hg <;> clear hA a <;> intro a hA <;> (first | exact FA | replace hg := of_decide_eq_true hg | replace hg := of_decide_eq_false hg | skip)) | (refine QT ?_; clear hA a; intro a hA) | (first | (refine BT ?_; clear hA hH; rintro _ w ⟨bN, rfl, hH⟩ a hA) | (refine LT ?_; clear hA hH; rintro _ w ⟨oN, rfl, hH⟩ a hA) | (refine AT ?_; clear hA; rintro _ w ⟨oN, cN, rfl, hH2⟩ a hA; clear hH; have hH := (hH2 _ (by (repeat constructor))).tail; clear hH2) | (refine S0T ?_; clear hH; rintro _ w hH) )) | ((first | refine CT ?_ | (refine DT ?_ ?_ <;> intro hc <;> try (exfalso; omega))) <;> repeat' refine CT ?_) | (first | (refine DSK ?_; clear hA a; intro a hA) | (first | (refine DLT ?_; clear hA hH; rintro _ w ⟨oN, rfl, hH⟩; refine ⟨STT, ?_⟩; intro a hA) | (refine DAT ?_; clear hA; rintro _ w ⟨oN, cN, rfl, hH2⟩; clear hH; have hH := (hH2 _ (by (repeat constructor))).tail; clear hH2; refine ⟨STT, ?_⟩; intro a hA))) )
    exact rt1 (.inl rfl) rfl hA rfl ⟨by rw [idxF_at hx hfx hn], hH.kp⟩
  | false =>
    rw [hfx] at hA
    repeat' (first | (first | (refine GT ?_ ?_ <;> intro hg <;> clear hA a <;> intro a hA <;> (first | exact FA | replace hg := of_decide_eq_true hg | replace hg := of_decide_eq_false hg | skip)) | (refine QT ?_; clear hA a; intro a hA) | (first | (refine BT ?_; clear hA hH; rintro _ w ⟨bN, rfl, hH⟩ a hA) | (refine LT ?_; clear hA hH; rintro _ w ⟨oN, rfl, hH⟩ a hA) | (refine AT ?_; clear hA; rintro _ w ⟨oN, cN, rfl, hH2⟩ a hA; clear hH; have hH := (hH2 _ (by (repeat constructor))).tail; clear hH2) | (refine S0T ?_; clear hH; rintro _ w hH) )) | ((first | refine CT ?_ | (refine DT ?_ ?_ <;> intro hc <;> try (exfalso; omega))) <;> repeat' refine CT ?_) | (first | (refine DSK ?_; clear hA a; intro a hA) | (first | (refine DLT ?_; clear hA hH; rintro _ w ⟨oN, rfl, hH⟩; refine ⟨STT, ?_⟩; intro a hA) | (refine DAT ?_; clear hA; rintro _ w ⟨oN, cN, rfl, hH2⟩; clear hH; have hH := (hH2 _ (by (repeat constructor))).tail; clear hH2; refine ⟨STT, ?_⟩; intro a hA))) )
    exact ⟨i + 1, ⟨⟨hlt, fun k y hk hy => by
      by_cases hki : k = i
      · subst hki
        rw [hx] at hy
        obtain rfl := Option.some.inj hy
        exact hfx
      · exact hn k y (by omega) hy⟩, hH, (hA.sub (by (repeat (first | exact trivial | refine ⟨rfl, ?_⟩))))⟩, by omega⟩
theorem at1_spec (w0 : World) (m : MC) (b : Nat) (o : Option Addr) (c : Nat) (q : Pth) (hm : RdC w0 m) (hq : RdQ w0 o c q) (hml : m.q.length ≤ 1000000) (hcz : w0.cell? (bat b 0) = some (.slice o q.length c)) :
    Ret Try.prog 54 #[.agg #[.slice m.o m.q.length m.c, .int .i64 m.p.k, .int .i64 m.p.v, .int .i64 m.p.n, .string m.p.s, .slice m.p.ol m.p.ls.length m.p.cl, .slice m.p.oa m.p.ps.length m.p.ca], .pointer (some (bat b 0))] w0 (fun v w => v = .bool (decide (m.q = q)) ∧ Kp w0 noM w) := by
  have hH : HS w0 noM [] w0 := HS.init w0 noM
  (refine enter (N := 8) Try.func54 rfl Try.ntmps54 rfl ?_; intro a hA; dsimp only [sl0, Nat.reduceAdd] at hA)
  repeat' (first | (first | (refine GT ?_ ?_ <;> intro hg <;> clear hA a <;> intro a hA <;> (first | exact FA | replace hg := of_decide_eq_true hg | replace hg := of_decide_eq_false hg | skip)) | ((first | apply st_ex hA hH rfl rfl (by decide) | apply dr_ex hA rfl rfl rfl (by decide) | apply dr_exp hA rfl rfl rfl (by decide) | apply dr_ex3 hA hH rfl rfl rfl (by decide)); (first | (apply ex_load; rfl; exact cl_w hcz id)); clear hA a; intro a hA) | (refine QT ?_; clear hA a; intro a hA) | (first | (refine BT ?_; clear hA hH; rintro _ w ⟨bN, rfl, hH⟩ a hA) | (refine LT ?_; clear hA hH; rintro _ w ⟨oN, rfl, hH⟩ a hA) | (refine AT ?_; clear hA; rintro _ w ⟨oN, cN, rfl, hH2⟩ a hA; clear hH; have hH := (hH2 _ (by (repeat constructor))).tail; clear hH2) | (refine S0T ?_; clear hH; rintro _ w hH) )) | ((first | refine CT ?_ | (refine DT ?_ ?_ <;> intro hc <;> try (exfalso; omega))) <;> repeat' refine CT ?_) | (first | (refine DSK ?_; clear hA a; intro a hA) | (first | (refine DLT ?_; clear hA hH; rintro _ w ⟨oN, rfl, hH⟩; refine ⟨STT, ?_⟩; intro a hA) | (refine DAT ?_; clear hA; rintro _ w ⟨oN, cN, rfl, hH2⟩; clear hH; have hH := (hH2 _ (by (repeat constructor))).tail; clear hH2; refine ⟨STT, ?_⟩; intro a hA))) )
  (refine st_op hA rfl rfl (by decide) (op_call rfl rfl rfl (equalX_spec _ m.o o m.c c m.q q (hH.rd hm.1.1 id) (hH.rd hq.1 id) hml)) ?_; clear hA; rintro _ w ⟨rfl, hk⟩ a hA; replace hH := hH.keep hk; clear hk)
  repeat' (first | (first | (refine GT ?_ ?_ <;> intro hg <;> clear hA a <;> intro a hA <;> (first | exact FA | replace hg := of_decide_eq_true hg | replace hg := of_decide_eq_false hg | skip)) | (refine QT ?_; clear hA a; intro a hA) | (first | (refine BT ?_; clear hA hH; rintro _ w ⟨bN, rfl, hH⟩ a hA) | (refine LT ?_; clear hA hH; rintro _ w ⟨oN, rfl, hH⟩ a hA) | (refine AT ?_; clear hA; rintro _ w ⟨oN, cN, rfl, hH2⟩ a hA; clear hH; have hH := (hH2 _ (by (repeat constructor))).tail; clear hH2) | (refine S0T ?_; clear hH; rintro _ w hH) )) | ((first | refine CT ?_ | (refine DT ?_ ?_ <;> intro hc <;> try (exfalso; omega))) <;> repeat' refine CT ?_) | (first | (refine DSK ?_; clear hA a; intro a hA) | (first | (refine DLT ?_; clear hA hH; rintro _ w ⟨oN, rfl, hH⟩; refine ⟨STT, ?_⟩; intro a hA) | (refine DAT ?_; clear hA; rintro _ w ⟨oN, cN, rfl, hH2⟩; clear hH; have hH := (hH2 _ (by (repeat constructor))).tail; clear hH2; refine ⟨STT, ?_⟩; intro a hA))) )
  exact rt1 (.inl rfl) rfl hA rfl ⟨rfl, hH.kp⟩
theorem RdQ.keep {w w' : World} {o : Option Addr} {c : Nat} {q : Pth} (h : RdQ w o c q) (hk : Kp w noM w') : RdQ w' o c q := ⟨((HS.init w noM).keep hk).rd h.1 id, h.2⟩
theorem RdC.keep {w w' : World} {m : MC} (h : RdC w m) (hk : Kp w noM w') : RdC w' m := ⟨h.1.keep hk, h.2.keep hk⟩
theorem RdCs.keep {w w' : World} {o : Option Addr} {c : Nat} {l : List MC} (h : RdCs w o c l) (hk : Kp w noM w') : RdCs w' o c l := ⟨((HS.init w noM).keep hk).rd h.1 id, h.2.1, h.2.2.1, fun m hm => (h.2.2.2 m hm).keep hk⟩
theorem RdBs.keep {w w' : World} {o : Option Addr} {c : Nat} {l : List MB} (h : RdBs w o c l) (hk : Kp w noM w') : RdBs w' o c l := ⟨((HS.init w noM).keep hk).rd h.1 id, h.2.1, h.2.2.1, fun m hm => RdQ.keep (h.2.2.2 m hm) hk⟩
theorem RdL.keep {w w' : World} {m : ML} (h : RdL w m) (hk : Kp w noM w') : RdL w' m := ⟨h.1.keep hk, h.2.keep hk⟩
theorem at_spec (w0 : World) (m : ML) (o : Option Addr) (c : Nat) (q : Pth) (hm : RdCs w0 m.oc m.cc m.cs) (hq : RdQ w0 o c q) (hn : m.cs.length ≤ 1000000) (hml : ∀ x ∈ m.cs, x.q.length ≤ 1000000) :
    Ret Try.prog 41 #[.agg #[.int .i64 m.n, .slice m.oc m.cs.length m.cc, .slice m.ob m.bs.length m.cb], .slice o q.length c] w0 (fun v w => v = .int .i64 (atI m.cs q) ∧ Kp w0 noM w) := by
  have hH : HS w0 noM [] w0 := HS.init w0 noM
  (refine enter (N := 9) Try.func41 rfl Try.ntmps41 rfl ?_; intro a hA; dsimp only [sl0, Nat.reduceAdd] at hA)
  repeat' (first | (first | (refine GT ?_ ?_ <;> intro hg <;> clear hA a <;> intro a hA <;> (first | exact FA | replace hg := of_decide_eq_true hg | replace hg := of_decide_eq_false hg | skip)) | (refine QT ?_; clear hA a; intro a hA) | (first | (refine BT ?_; clear hA hH; rintro _ w ⟨bN, rfl, hH⟩ a hA) | (refine LT ?_; clear hA hH; rintro _ w ⟨oN, rfl, hH⟩ a hA) | (refine AT ?_; clear hA; rintro _ w ⟨oN, cN, rfl, hH2⟩ a hA; clear hH; have hH := (hH2 _ (by (repeat constructor))).tail; clear hH2) | (refine S0T ?_; clear hH; rintro _ w hH) )) | ((first | refine CT ?_ | (refine DT ?_ ?_ <;> intro hc <;> try (exfalso; omega))) <;> repeat' refine CT ?_) | (first | (refine DSK ?_; clear hA a; intro a hA) | (first | (refine DLT ?_; clear hA hH; rintro _ w ⟨oN, rfl, hH⟩; refine ⟨STT, ?_⟩; intro a hA) | (refine DAT ?_; clear hA; rintro _ w ⟨oN, cN, rfl, hH2⟩; clear hH; have hH := (hH2 _ (by (repeat constructor))).tail; clear hH2; refine ⟨STT, ?_⟩; intro a hA))) )
  have hcz : ∀ w2, Kp w noM w2 → w2.cell? (bat bN 0) = some (.slice o q.length c) := fun w2 hk2 => hH.cb_kp (T := 25) (cs := [.slice o q.length c]) (by exact MEMT) rfl hk2
  have hk0 := hH.kp
  have hcl : ∀ x ∈ m.cs, ∀ w2, Kp w noM w2 → Ret Try.prog 54 (#[] ++ #[.agg #[.slice x.o x.q.length x.c, .int .i64 x.p.k, .int .i64 x.p.v, .int .i64 x.p.n, .string x.p.s, .slice x.p.ol x.p.ls.length x.p.cl, .slice x.p.oa x.p.ps.length x.p.ca]] ++ #[.pointer (some (bat bN 0))]) w2 (fun v w' => v = .bool (decide (x.q = q)) ∧ Kp w2 noM w') := fun x hx w2 hk2 =>
    at1_spec w2 x bN o c q ((hm.2.2.2 x hx).keep (hk0.trans hk2 fun b hb => hb.elim)) (hq.keep (hk0.trans hk2 fun b hb => hb.elim)) (hml x hx) (hcz w2 hk2)
  (refine st_op hA rfl rfl (by decide) (op_call rfl rfl rfl (indexC_spec _ m.oc m.cc m.cs 54 #[] #[.pointer (some (bat bN 0))] (fun x => decide (x.q = q)) (hH.rd hm.1 id) hn hcl)) ?_; clear hA; rintro _ w ⟨rfl, hk⟩ a hA; replace hH := hH.keep hk; clear hk)
  repeat' (first | (first | (refine GT ?_ ?_ <;> intro hg <;> clear hA a <;> intro a hA <;> (first | exact FA | replace hg := of_decide_eq_true hg | replace hg := of_decide_eq_false hg | skip)) | (refine QT ?_; clear hA a; intro a hA) | (first | (refine BT ?_; clear hA hH; rintro _ w ⟨bN, rfl, hH⟩ a hA) | (refine LT ?_; clear hA hH; rintro _ w ⟨oN, rfl, hH⟩ a hA) | (refine AT ?_; clear hA; rintro _ w ⟨oN, cN, rfl, hH2⟩ a hA; clear hH; have hH := (hH2 _ (by (repeat constructor))).tail; clear hH2) | (refine S0T ?_; clear hH; rintro _ w hH) )) | ((first | refine CT ?_ | (refine DT ?_ ?_ <;> intro hc <;> try (exfalso; omega))) <;> repeat' refine CT ?_) | (first | (refine DSK ?_; clear hA a; intro a hA) | (first | (refine DLT ?_; clear hA hH; rintro _ w ⟨oN, rfl, hH⟩; refine ⟨STT, ?_⟩; intro a hA) | (refine DAT ?_; clear hA; rintro _ w ⟨oN, cN, rfl, hH2⟩; clear hH; have hH := (hH2 _ (by (repeat constructor))).tail; clear hH2; refine ⟨STT, ?_⟩; intro a hA))) )
  exact rt1 (.inl rfl) rfl hA rfl ⟨rfl, hH.kp⟩
end Go.Proofs.Ytcododdkjppmjaa
namespace Go.Fw
open Go Go.RowKit
theorem HS.er {w0 w : World} {M : Nat → Prop} : ∀ {H : List It} (i : Nat), HS w0 M H w → HS w0 M (H.eraseIdx i) w
  | H, i, h => by
    by_cases hi : i < H.length
    · exact (h.perm (perm_pick0 i (List.getElem?_eq_getElem hi))).tail
    · rw [List.eraseIdx_of_length_le (by omega)]; exact h
theorem HS.frz_w {w0 w : World} {H : List It} {K : World → Prop} (h : HS w0 noM H w) (hm : Go.Fw.frz w0 K ∈ H) {p : World → Prop} (hp : ∀ w, K w → p w) : p w := hp w (h.frz hm)
theorem HS.pk {w0 w : World} {M : Nat → Prop} {H : List It} {x : It} (h : HS w0 M H w) (i : Nat) (hi : H[i]? = some x) : HS w0 M (x :: H.eraseIdx i) w := h.perm (perm_pick0 i hi)
end Go.Fw
namespace Go.Proofs.Ytcododdkjppmjaa
open Go Go.Fw
set_option linter.unusedVariables false
theorem plP_0 {p : AP} (q : Pth) (h : p.k = 1 ∨ p.k = 6) : plP q p = ([], []) := by
  cases p with
  | mk k v n s ol cl ls oa ca ps =>
    have hk : k = 1 ∨ k = 6 := h
    rw [plP, if_pos hk]
theorem plP_v {p : AP} (q : Pth) (h : p.k = 2) : plP q p = ([], [(p.v, q)]) := by
  cases p with
  | mk k v n s ol cl ls oa ca ps =>
    have hk : k = 2 := h
    rw [plP, if_neg (by omega), if_pos hk]; rfl
theorem plP_r {p : AP} (q : Pth) (h : p.k = 9) : plP q p = plL q p.ls p.ps := by
  cases p with
  | mk k v n s ol cl ls oa ca ps =>
    have hk : k = 9 := h
    rw [plP, if_neg (by omega), if_neg (by omega), if_pos hk]; rfl
theorem plP_c {p : AP} (q : Pth) (h1 : p.k ≠ 1) (h2 : p.k ≠ 6) (h3 : p.k ≠ 2) (h4 : p.k ≠ 9) : plP q p = ([(q, p)], []) := by
  cases p with
  | mk k v n s ol cl ls oa ca ps =>
    have g1 : k ≠ 1 := h1
    have g2 : k ≠ 6 := h2
    have g3 : k ≠ 2 := h3
    have g4 : k ≠ 9 := h4
    rw [plP, if_neg (by omega), if_neg (by omega), if_neg (by omega)]
theorem plL_snoc : ∀ (q : Pth) (ls : List ByteArray) (ps : List AP) (x : ByteArray) (p : AP), ls.length = ps.length → plL q (ls ++ [x]) (ps ++ [p]) = ((plL q ls ps).1 ++ (plP (q ++ [x]) p).1, (plL q ls ps).2 ++ (plP (q ++ [x]) p).2)
  | q, [], [], x, p, _ => by
    show plL q [x] [p] = ((plL q [] []).1 ++ _, (plL q [] []).2 ++ _)
    rw [plL, plL]; simp
  | q, y :: ls, b :: ps, x, p, h => by
    show plL q (y :: (ls ++ [x])) (b :: (ps ++ [p])) = _
    rw [plL, plL_snoc q ls ps x p (by simpa using h), plL]
    simp
  | q, [], _ :: _, _, _, h => by simp at h
  | q, _ :: _, [], _, _, h => by simp at h
theorem form_k {p : AP} (h : formP p = true) : (p.k = 8 → p.ps.length = 1) ∧ (p.k = 9 → p.ps.length = p.ls.length) ∧ ∀ a ∈ p.ps, formP a = true := by
  rw [formP_eq, Bool.and_eq_true, Bool.and_eq_true, formL_all] at h
  have h1 := shape_of (of_decide_eq_true h.1.1)
  exact ⟨h1.2.2.1, h1.2.2.2.1, fun a ha => List.all_eq_true.1 h.2 a ha⟩
theorem szL_take {ps : List AP} {i : Nat} {x : AP} (h : ps[i]? = some x) : szL (ps.take i) + szA x ≤ szL ps := by
  induction ps generalizing i with
  | nil => simp at h
  | cons b ps ih =>
    cases i with
    | zero =>
      simp at h
      subst h
      rw [List.take_zero, szL, szL]; omega
    | succ i =>
      rw [List.take_succ_cons, szL, szL]
      have := ih (by simpa using h)
      omega
theorem encB_mk (v : Int) (o : Option Addr) (c : Nat) (q : Pth) : encB ⟨v, o, c, q⟩ = [.int .i64 v, .slice o q.length c] := rfl
set_option maxRecDepth 10000 attribute [local irreducible] Code.wp wpList Calls Ex Op1 sat bat blk cb own Go.Fw.mp Go.Fw.mpO Go.Fw.mpI Go.Fw.mpE Go.Fw.itr HS Rd Ret wkD Hp Cl Cls Exit.then Exit.inBlock Exit.noGoto bodyPost Go.Fw.flat wk2 Go.Fw.all Go.Fw.owns wpOp
attribute [local irreducible] encA encC encB formP formL partsP partsL plP plL szA szL

set_option maxHeartbeats 8000000 in
theorem go1_spec : ∀ (z : Nat) (m : MC), SizeOf.sizeOf m.p < z → ∀ (w0 w : World) (H : List It) (K : World → Prop) (bO bG : Nat) (n : Int) (oc ob : Option Addr) (cx bx : Nat) (cs : List MC) (bs : List MB),
    HS w0 noM (cb bO 52 [.int .i64 n, .slice oc cs.length cx, .slice ob bs.length bx] :: own 55 7 oc cs.length cx (flat encC cs) :: own 72 2 ob bs.length bx (flat encB bs) :: cb bG 84 [.func (.func 38) #[] #[.pointer (some (bat bO 0)), .pointer (some (bat bG 0))]] :: frz w0 K :: H) w → (∀ w, K w → RdC w m) → formP m.p = true → m.q.length + szA m.p ≤ 1000 → cs.length + bs.length + szA m.p ≤ 1000 →
    Ret Try.prog 38 #[.agg #[.slice m.o m.q.length m.c, .int .i64 m.p.k, .int .i64 m.p.v, .int .i64 m.p.n, .string m.p.s, .slice m.p.ol m.p.ls.length m.p.cl, .slice m.p.oa m.p.ps.length m.p.ca], .pointer (some (bat bO 0)), .pointer (some (bat bG 0))] w (fun v w' => ∃ (K' : World → Prop) (oc' ob' : Option Addr) (cx' bx' : Nat) (nc : List MC) (nb : List MB),
      (∀ w, K' w → K w ∧ (∀ c ∈ nc, RdC w c) ∧ ∀ b ∈ nb, RdB w b) ∧ nc.map MC.un = (plP m.q m.p).1 ∧ nb.map MB.un = (plP m.q m.p).2 ∧ HS w0 noM (cb bO 52 [.int .i64 n, .slice oc' (cs ++ nc).length cx', .slice ob' (bs ++ nb).length bx'] :: own 55 7 oc' (cs ++ nc).length cx' (flat encC (cs ++ nc)) :: own 72 2 ob' (bs ++ nb).length bx' (flat encB (bs ++ nb)) :: cb bG 84 [.func (.func 38) #[] #[.pointer (some (bat bO 0)), .pointer (some (bat bG 0))]] :: frz w0 K' :: H) w')
  | 0, p, hz, _, _, _, _, _, _, _, _, _, _, _, _, _, _, _, _, _, _ => absurd hz (Nat.not_lt_zero _)
  | z + 1, m, hz, w0, w, H, K, bO, bG, n, oc, ob, cx, bx, cs, bs, hH, hR, hf, hq, hs => by
    have hK0 := hH.frz_w (.tail _ (.tail _ (.tail _ (.tail _ (.head _))))) hR
    have hle := hK0.1.2
    have hlp := hK0.2.c
    unfold maxLen at hlp
    have hspA : Sp m.p.oa m.p.ps.length := hK0.2.a.sp (sz := 6) (flat_length encA_len m.p.ps) (by omega)
    have hspL : Sp m.p.ol m.p.ls.length := hK0.2.l.sp (sz := 1) (flat_length encX_len m.p.ls) (by omega)
    clear hK0
    have hfk := form_k hf
    have hnil : ∀ {x : MC}, x ∈ ([] : List MC) → False := fun h => absurd h List.not_mem_nil
    have hszp := szA_eq m.p
    (refine enter (N := 56) Try.func38 rfl Try.ntmps38 rfl ?_; intro a hA; dsimp only [sl0, Nat.reduceAdd] at hA)
    have end0 : ∀ (w : World), (m.p.k = 1 ∨ m.p.k = 6) → HS w0 noM (cb bO 52 [.int .i64 n, .slice oc cs.length cx, .slice ob bs.length bx] :: own 55 7 oc cs.length cx (flat encC cs) :: own 72 2 ob bs.length bx (flat encB bs) :: cb bG 84 [.func (.func 38) #[] #[.pointer (some (bat bO 0)), .pointer (some (bat bG 0))]] :: frz w0 K :: H) w → ∃ (K' : World → Prop) (oc' ob' : Option Addr) (cx' bx' : Nat) (nc : List MC) (nb : List MB),
      (∀ w, K' w → K w ∧ (∀ c ∈ nc, RdC w c) ∧ ∀ b ∈ nb, RdB w b) ∧ nc.map MC.un = (plP m.q m.p).1 ∧ nb.map MB.un = (plP m.q m.p).2 ∧ HS w0 noM (cb bO 52 [.int .i64 n, .slice oc' (cs ++ nc).length cx', .slice ob' (bs ++ nb).length bx'] :: own 55 7 oc' (cs ++ nc).length cx' (flat encC (cs ++ nc)) :: own 72 2 ob' (bs ++ nb).length bx' (flat encB (bs ++ nb)) :: cb bG 84 [.func (.func 38) #[] #[.pointer (some (bat bO 0)), .pointer (some (bat bG 0))]] :: frz w0 K' :: H) w := fun w h hH =>
      ⟨K, oc, ob, cx, bx, [], [], fun w hK => ⟨hK, fun c h => absurd h List.not_mem_nil, fun c h => absurd h List.not_mem_nil⟩, by rw [plP_0 m.q h]; rfl, by rw [plP_0 m.q h]; rfl, by rw [List.append_nil, List.append_nil]; exact hH⟩
    repeat' (first | (first | (refine GT ?_ ?_ <;> intro hg <;> clear hA a <;> intro a hA <;> (first | exact FA | replace hg := of_decide_eq_true hg | replace hg := of_decide_eq_false hg | skip)) | (refine QT ?_; clear hA a; intro a hA) | (first | (refine BT ?_; clear hA hH; rintro _ w ⟨bN, rfl, hH⟩ a hA) | (refine LT ?_; clear hA hH; rintro _ w ⟨oN, rfl, hH⟩ a hA) | (refine AT ?_; clear hA; rintro _ w ⟨oN, cN, rfl, hH2⟩ a hA; clear hH; have hH := (hH2 _ (by (repeat constructor))).tail; clear hH2) | (refine S0T ?_; clear hH; rintro _ w hH) )) | ((first | refine CT ?_ | (refine DT ?_ ?_ <;> intro hc <;> try (exfalso; omega))) <;> repeat' refine CT ?_) | (first | (refine DSK ?_; clear hA a; intro a hA) | (first | (refine DLT ?_; clear hA hH; rintro _ w ⟨oN, rfl, hH⟩; refine ⟨STT, ?_⟩; intro a hA) | (refine DAT ?_; clear hA; rintro _ w ⟨oN, cN, rfl, hH2⟩; clear hH; have hH := (hH2 _ (by (repeat constructor))).tail; clear hH2; refine ⟨STT, ?_⟩; intro a hA))) )
    all_goals (try (obtain ⟨bP, hbP⟩ : ∃ b, b = bN := ⟨_, rfl⟩; rw [← hbP] at hA hH; clear hbP bN))
    · exact rt0 (.inr rfl) rfl hA (end0 _ (.inl (by assumption)) hH.tail)
    · exact rt0 (.inr rfl) rfl hA (end0 _ (.inr (by assumption)) hH.tail)
    · (apply st_op0 hA rfl rfl; apply op_store_fld (cs' := [.int .i64 n, .slice oc cs.length cx, .slice oN (bs.length + 1) cN]); rfl; rfl; rfl; exact hH; (repeat constructor); clear hH; rintro _ w hH)
      repeat' (first | (first | (refine GT ?_ ?_ <;> intro hg <;> clear hA a <;> intro a hA <;> (first | exact FA | replace hg := of_decide_eq_true hg | replace hg := of_decide_eq_false hg | skip)) | (refine QT ?_; clear hA a; intro a hA) | (first | (refine BT ?_; clear hA hH; rintro _ w ⟨bN, rfl, hH⟩ a hA) | (refine LT ?_; clear hA hH; rintro _ w ⟨oN, rfl, hH⟩ a hA) | (refine AT ?_; clear hA; rintro _ w ⟨oN, cN, rfl, hH2⟩ a hA; clear hH; have hH := (hH2 _ (by (repeat constructor))).tail; clear hH2) | (refine S0T ?_; clear hH; rintro _ w hH) )) | ((first | refine CT ?_ | (refine DT ?_ ?_ <;> intro hc <;> try (exfalso; omega))) <;> repeat' refine CT ?_) | (first | (refine DSK ?_; clear hA a; intro a hA) | (first | (refine DLT ?_; clear hA hH; rintro _ w ⟨oN, rfl, hH⟩; refine ⟨STT, ?_⟩; intro a hA) | (refine DAT ?_; clear hA; rintro _ w ⟨oN, cN, rfl, hH2⟩; clear hH; have hH := (hH2 _ (by (repeat constructor))).tail; clear hH2; refine ⟨STT, ?_⟩; intro a hA))) )
      refine rt0 (.inr rfl) rfl hA ⟨fun w => K w, oc, oN, cx, cN, [], [⟨m.p.v, m.o, m.c, m.q⟩], fun w hK => ⟨hK, fun c h => absurd h List.not_mem_nil, fun b hb => ?_⟩, ?_, ?_, ?_⟩
      · rw [List.mem_singleton] at hb; subst hb; exact (hR w hK).1
      · rw [plP_v m.q (by assumption)]; rfl
      · rw [plP_v m.q (by assumption)]; rfl
      · rw [List.append_nil, flat_snoc, List.length_append]
        rw [encB_mk]; exact hH.tail
    · refine wp_lpk (S := Nat) (fun i a w => ∃ (K' : World → Prop) (oc' ob' : Option Addr) (cx' bx' : Nat) (nc : List MC) (nb : List MB), (i ≤ m.p.ps.length ∧ (∀ w, K' w → K w ∧ (∀ c ∈ nc, RdC w c) ∧ ∀ b ∈ nb, RdB w b) ∧ nc.map MC.un = (plL m.q (m.p.ls.take i) (m.p.ps.take i)).1 ∧ nb.map MB.un = (plL m.q (m.p.ls.take i) (m.p.ps.take i)).2) ∧
          HS w0 noM (cb bO 52 [.int .i64 n, .slice oc' (cs ++ nc).length cx', .slice ob' (bs ++ nb).length bx'] :: own 55 7 oc' (cs ++ nc).length cx' (flat encC (cs ++ nc)) :: own 72 2 ob' (bs ++ nb).length bx' (flat encB (bs ++ nb)) :: cb bG 84 [.func (.func 38) #[] #[.pointer (some (bat bO 0)), .pointer (some (bat bG 0))]] :: frz w0 K' :: Go.Fw.cb bP 55 [.slice m.o m.q.length m.c, .int .i64 m.p.k, .int .i64 m.p.v, .int .i64 m.p.n, .string m.p.s, .slice m.p.ol m.p.ls.length m.p.cl, .slice m.p.oa m.p.ps.length m.p.ca] :: H) w ∧ Sl 56 [(1, .pointer (some (bat bO 0))), (2, .pointer (some (bat bG 0))), (3, .pointer (some (bat bP 0))), (35, .slice m.p.oa m.p.ps.length m.p.ca), (36, .int .i64 m.p.ps.length), (37, .int .i64 i)] a)
        (fun i => m.p.ps.length - i)
        (fun a w => (∃ (K' : World → Prop) (oc' ob' : Option Addr) (cx' bx' : Nat) (nc : List MC) (nb : List MB),
          (∀ w, K' w → K w ∧ (∀ c ∈ nc, RdC w c) ∧ ∀ b ∈ nb, RdB w b) ∧ nc.map MC.un = (plP m.q m.p).1 ∧ nb.map MB.un = (plP m.q m.p).2 ∧ HS w0 noM (cb bO 52 [.int .i64 n, .slice oc' (cs ++ nc).length cx', .slice ob' (bs ++ nb).length bx'] :: own 55 7 oc' (cs ++ nc).length cx' (flat encC (cs ++ nc)) :: own 72 2 ob' (bs ++ nb).length bx' (flat encB (bs ++ nb)) :: cb bG 84 [.func (.func 38) #[] #[.pointer (some (bat bO 0)), .pointer (some (bat bG 0))]] :: frz w0 K' :: H) w) ∧ Sl 56 [] a) 0
        ⟨K, oc, ob, cx, bx, [], [], ⟨Nat.zero_le _, fun w hK => ⟨hK, fun c h => absurd h List.not_mem_nil, fun c h => absurd h List.not_mem_nil⟩, by rw [List.take_zero, List.take_zero, plL]; rfl, by rw [List.take_zero, List.take_zero, plL]; rfl⟩, by rw [List.append_nil, List.append_nil]; exact hH.perm (by (repeat (first | exact List.Perm.refl _ | exact List.Perm.nil | refine perm_pick 0 rfl ?_ | refine perm_pick 1 rfl ?_ | refine perm_pick 2 rfl ?_ | refine perm_pick 3 rfl ?_ | refine perm_pick 4 rfl ?_ | refine perm_pick 5 rfl ?_ | refine perm_pick 6 rfl ?_ | refine perm_pick 7 rfl ?_ | refine perm_pick 8 rfl ?_ | refine perm_pick 9 rfl ?_ | refine perm_pick 10 rfl ?_ | refine perm_pick 11 rfl ?_))), (hA.sub (by (repeat (first | exact trivial | refine ⟨rfl, ?_⟩))))⟩ ?_ ?_
      rotate_left
      · clear hA hH
        rintro a w ⟨hE, hA⟩
        exact inB_normal (rt0 (.inr rfl) rfl hA hE)
      clear hA hH
      rintro i a w ⟨K', oc', ob', cx', bx', nc, nb, ⟨hi, hK', hnc, hnb⟩, hH, hA⟩
      have h9 : m.p.k = 9 := by assumption
      have hpl := hfk.2.1 h9
      by_cases hlt : i < m.p.ps.length
      rotate_left
      · obtain rfl : i = m.p.ps.length := by omega
        rw [List.take_length, hpl, List.take_length, ← plP_r m.q h9] at hnc hnb
        repeat' (first | (first | (refine GT ?_ ?_ <;> intro hg <;> clear hA a <;> intro a hA <;> (first | exact FA | replace hg := of_decide_eq_true hg | replace hg := of_decide_eq_false hg | skip)) | (refine QT ?_; clear hA a; intro a hA) | (first | (refine BT ?_; clear hA hH; rintro _ w ⟨bN, rfl, hH⟩ a hA) | (refine LT ?_; clear hA hH; rintro _ w ⟨oN, rfl, hH⟩ a hA) | (refine AT ?_; clear hA; rintro _ w ⟨oN, cN, rfl, hH2⟩ a hA; clear hH; have hH := (hH2 _ (by (repeat constructor))).tail; clear hH2) | (refine S0T ?_; clear hH; rintro _ w hH) )) | ((first | refine CT ?_ | (refine DT ?_ ?_ <;> intro hc <;> try (exfalso; omega))) <;> repeat' refine CT ?_) | (first | (refine DSK ?_; clear hA a; intro a hA) | (first | (refine DLT ?_; clear hA hH; rintro _ w ⟨oN, rfl, hH⟩; refine ⟨STT, ?_⟩; intro a hA) | (refine DAT ?_; clear hA; rintro _ w ⟨oN, cN, rfl, hH2⟩; clear hH; have hH := (hH2 _ (by (repeat constructor))).tail; clear hH2; refine ⟨STT, ?_⟩; intro a hA))) )
        exact ⟨⟨K', oc', ob', cx', bx', nc, nb, hK', hnc, hnb, hH.er 5⟩, (hA.sub (by (repeat (first | exact trivial | refine ⟨rfl, ?_⟩))))⟩
      obtain ⟨x, hx⟩ : ∃ x, m.p.ps[i]? = some x := ⟨_, List.getElem?_eq_getElem hlt⟩
      obtain ⟨lb, hlb⟩ : ∃ x, m.p.ls[i]? = some x := ⟨_, List.getElem?_eq_getElem (by omega)⟩
      have hxm := List.mem_of_getElem? hx
      have hvs := flat_all encA_len hx
      rw [encA_eq] at hvs
      have hcx := encX_at hlb
      have hrA : ∀ w, K' w → Rd w m.p.oa (flat encA m.p.ps) := fun w h => (hR w (hK' w h).1).2.a
      have hrL : ∀ w, K' w → Rd w m.p.ol (flat encX m.p.ls) := fun w h => (hR w (hK' w h).1).2.l
      have hszx := szL_take hx
      have hszn := plL_sz m.q (m.p.ls.take i) (m.p.ps.take i)
      have hlc : nc.length + nb.length ≤ szL (m.p.ps.take i) := by
        have e1 := congrArg List.length hnc
        have e2 := congrArg List.length hnb
        rw [List.length_map] at e1 e2
        have := szC_len (plL m.q (m.p.ls.take i) (m.p.ps.take i)).1
        omega
      repeat' (first | (first | (refine GT ?_ ?_ <;> intro hg <;> clear hA a <;> intro a hA <;> (first | exact FA | replace hg := of_decide_eq_true hg | replace hg := of_decide_eq_false hg | skip)) | ((first | apply st_ex hA hH rfl rfl (by decide) | apply dr_ex hA rfl rfl rfl (by decide) | apply dr_exp hA rfl rfl rfl (by decide) | apply dr_ex3 hA hH rfl rfl rfl (by decide)); (first | (apply ex_load_st (vs := [.int .i64 x.k, .int .i64 x.v, .int .i64 x.n, .string x.s, .slice x.ol x.ls.length x.cl, .slice x.oa x.ps.length x.ca]); rfl; rfl; exact cls_frz MEMT hrA hvs)); clear hA a; intro a hA) | (refine QT ?_; clear hA a; intro a hA) | (first | (refine BT ?_; clear hA hH; rintro _ w ⟨bN, rfl, hH⟩ a hA) | (refine LT ?_; clear hA hH; rintro _ w ⟨oN, rfl, hH⟩ a hA) | (refine AT ?_; clear hA; rintro _ w ⟨oN, cN, rfl, hH2⟩ a hA; clear hH; have hH := (hH2 _ (by (repeat constructor))).tail; clear hH2) | (refine S0T ?_; clear hH; rintro _ w hH) | (apply st_op0 hA rfl rfl; apply op_store_agg (vs := [.int .i64 x.k, .int .i64 x.v, .int .i64 x.n, .string x.s, .slice x.ol x.ls.length x.cl, .slice x.oa x.ps.length x.ca]); rfl; rfl; exact hH; (repeat constructor); (repeat rfl); clear hH; rintro _ w hH))) | ((first | refine CT ?_ | (refine DT ?_ ?_ <;> intro hc <;> try (exfalso; omega))) <;> repeat' refine CT ?_) | (first | (refine DSK ?_; clear hA a; intro a hA) | (first | (refine DLT ?_; clear hA hH; rintro _ w ⟨oN, rfl, hH⟩; refine ⟨STT, ?_⟩; intro a hA) | (refine DAT ?_; clear hA; rintro _ w ⟨oN, cN, rfl, hH2⟩; clear hH; have hH := (hH2 _ (by (repeat constructor))).tail; clear hH2; refine ⟨STT, ?_⟩; intro a hA))) )
      (refine wp_draw2_HS [(0, 1), (1, 1), (2, 1), (3, 2), (4, 2), (5, 1), (6, 1), (7, 1), (8, 1), (10, 1), (9, 0), (11, 2)] [12] mixed (by decide +kernel) hH ?_; replace hH := hH.drew)
      repeat' (first | (first | (refine GT ?_ ?_ <;> intro hg <;> clear hA a <;> intro a hA <;> (first | exact FA | replace hg := of_decide_eq_true hg | replace hg := of_decide_eq_false hg | skip)) | ((first | apply st_ex hA hH rfl rfl (by decide) | apply dr_ex hA rfl rfl rfl (by decide) | apply dr_exp hA rfl rfl rfl (by decide) | apply dr_ex3 hA hH rfl rfl rfl (by decide)); (first | (apply ex_load; rfl; exact cl_frz MEMT hrL hcx)); clear hA a; intro a hA) | (refine QT ?_; clear hA a; intro a hA) | (first | (refine BT ?_; clear hA hH; rintro _ w ⟨bN, rfl, hH⟩ a hA) | (refine LT ?_; clear hA hH; rintro _ w ⟨oN, rfl, hH⟩ a hA) | (refine AT ?_; clear hA; rintro _ w ⟨oN, cN, rfl, hH2⟩ a hA; clear hH; have hH := (hH2 _ (by (repeat constructor))).tail; clear hH2) | (refine S0T ?_; clear hH; rintro _ w hH) )) | ((first | refine CT ?_ | (refine DT ?_ ?_ <;> intro hc <;> try (exfalso; omega))) <;> repeat' refine CT ?_) | (first | (refine DSK ?_; clear hA a; intro a hA) | (first | (refine DLT ?_; clear hA hH; rintro _ w ⟨oN, rfl, hH⟩; refine ⟨STT, ?_⟩; intro a hA) | (refine DAT ?_; clear hA; rintro _ w ⟨oN, cN, rfl, hH2⟩; clear hH; have hH := (hH2 _ (by (repeat constructor))).tail; clear hH2; refine ⟨STT, ?_⟩; intro a hA))) )
      (refine dr_op hA rfl rfl rfl (by decide) (op_call rfl rfl rfl (to_spec _ m.o m.c m.q lb ((hR _ (hK' _ (hH.frz MEMT)).1).1) (by omega))) ?_; clear hA; rintro _ w ⟨o1, c1, rfl, hj⟩; replace hH := hH.join hj; clear hj; refine ⟨hH.tail, ?_⟩; intro a hA)
      repeat' (first | (first | (refine GT ?_ ?_ <;> intro hg <;> clear hA a <;> intro a hA <;> (first | exact FA | replace hg := of_decide_eq_true hg | replace hg := of_decide_eq_false hg | skip)) | ((first | apply st_ex hA hH rfl rfl (by decide) | apply dr_ex hA rfl rfl rfl (by decide) | apply dr_exp hA rfl rfl rfl (by decide) | apply dr_ex3 hA hH rfl rfl rfl (by decide)); (first | (apply ex_build_12 (us := [.int .i64 x.k, .int .i64 x.v, .int .i64 x.n, .string x.s, .slice x.ol x.ls.length x.cl, .slice x.oa x.ps.length x.ca]); rfl; rfl; rfl; rfl; rfl; exact ⟨size_of _ _ _, size_of _ _ _, trivial⟩)); clear hA a; intro a hA) | (refine QT ?_; clear hA a; intro a hA) | (first | (refine BT ?_; clear hA hH; rintro _ w ⟨bN, rfl, hH⟩ a hA) | (refine LT ?_; clear hA hH; rintro _ w ⟨oN, rfl, hH⟩ a hA) | (refine AT ?_; clear hA; rintro _ w ⟨oN, cN, rfl, hH2⟩ a hA; clear hH; have hH := (hH2 _ (by (repeat constructor))).tail; clear hH2) | (refine S0T ?_; clear hH; rintro _ w hH) )) | ((first | refine CT ?_ | (refine DT ?_ ?_ <;> intro hc <;> try (exfalso; omega))) <;> repeat' refine CT ?_) | (first | (refine DSK ?_; clear hA a; intro a hA) | (first | (refine DLT ?_; clear hA hH; rintro _ w ⟨oN, rfl, hH⟩; refine ⟨STT, ?_⟩; intro a hA) | (refine DAT ?_; clear hA; rintro _ w ⟨oN, cN, rfl, hH2⟩; clear hH; have hH := (hH2 _ (by (repeat constructor))).tail; clear hH2; refine ⟨STT, ?_⟩; intro a hA))) )
      have hle1 := hH.own_le (.head _)
      have h2 := (hH.pk 6 rfl)
      have h3 := (h2.pk 1 rfl).frz_own
      have hR2 : ∀ w, Rd w o1 (flat encX (m.q ++ [lb])) ∧ K' w → RdC w (MC.mk o1 c1 (m.q ++ [lb]) x) := fun w h => ⟨⟨h.1, hle1⟩, (hR w (hK' w h.2).1).2.s x hxm⟩
      have hlen1 : (m.q ++ [lb]).length = m.q.length + 1 := by simp
      (refine dr_op3 hA rfl rfl rfl (by decide) (op_call rfl rfl rfl (go1_spec z (MC.mk o1 c1 (m.q ++ [lb]) x) (by have := as_lt hxm; show SizeOf.sizeOf x < z; omega) w0 _ (Go.Fw.cb bP 55 [.slice m.o m.q.length m.c, .int .i64 m.p.k, .int .i64 m.p.v, .int .i64 m.p.n, .string m.p.s, .slice m.p.ol m.p.ls.length m.p.cl, .slice m.p.oa m.p.ps.length m.p.ca] :: Go.Fw.cb bN 38 [.int .i64 x.k, .int .i64 x.v, .int .i64 x.n, .string x.s, .slice x.ol x.ls.length x.cl, .slice x.oa x.ps.length x.ca] :: H) _ bO bG n oc' ob' cx' bx' (cs ++ nc) (bs ++ nb) (h3.perm (by (repeat (first | exact List.Perm.refl _ | exact List.Perm.nil | refine perm_pick 0 rfl ?_ | refine perm_pick 1 rfl ?_ | refine perm_pick 2 rfl ?_ | refine perm_pick 3 rfl ?_ | refine perm_pick 4 rfl ?_ | refine perm_pick 5 rfl ?_ | refine perm_pick 6 rfl ?_ | refine perm_pick 7 rfl ?_ | refine perm_pick 8 rfl ?_ | refine perm_pick 9 rfl ?_ | refine perm_pick 10 rfl ?_ | refine perm_pick 11 rfl ?_)))) hR2 (hfk.2.2 x hxm) (by show (m.q ++ [lb]).length + szA x ≤ 1000; omega) (by rw [List.length_append, List.length_append]; show _ + _ + szA x ≤ 1000; omega))) ?_; clear hA hH h2 h3; rintro _ w ⟨K2, oc2, ob2, cx2, bx2, nc2, nb2, hK2, hnc2, hnb2, hH⟩ a hA)
      rw [List.append_assoc, List.append_assoc] at hH
      have hsn := plL_snoc m.q (m.p.ls.take i) (m.p.ps.take i) lb x (by rw [List.length_take, List.length_take]; omega)
      rw [← take_next hx, ← take_next hlb] at hsn
      repeat' (first | (first | (refine GT ?_ ?_ <;> intro hg <;> clear hA a <;> intro a hA <;> (first | exact FA | replace hg := of_decide_eq_true hg | replace hg := of_decide_eq_false hg | skip)) | (refine QT ?_; clear hA a; intro a hA) | (first | (refine BT ?_; clear hA hH; rintro _ w ⟨bN, rfl, hH⟩ a hA) | (refine LT ?_; clear hA hH; rintro _ w ⟨oN, rfl, hH⟩ a hA) | (refine AT ?_; clear hA; rintro _ w ⟨oN, cN, rfl, hH2⟩ a hA; clear hH; have hH := (hH2 _ (by (repeat constructor))).tail; clear hH2) | (refine S0T ?_; clear hH; rintro _ w hH) )) | ((first | refine CT ?_ | (refine DT ?_ ?_ <;> intro hc <;> try (exfalso; omega))) <;> repeat' refine CT ?_) | (first | (refine DSK ?_; clear hA a; intro a hA) | (first | (refine DLT ?_; clear hA hH; rintro _ w ⟨oN, rfl, hH⟩; refine ⟨STT, ?_⟩; intro a hA) | (refine DAT ?_; clear hA; rintro _ w ⟨oN, cN, rfl, hH2⟩; clear hH; have hH := (hH2 _ (by (repeat constructor))).tail; clear hH2; refine ⟨STT, ?_⟩; intro a hA))) )
      exact ⟨i + 1, ⟨K2, oc2, ob2, cx2, bx2, nc ++ nc2, nb ++ nb2, ⟨hlt, fun w h => ⟨(hK' w (hK2 w h).1.2).1, fun c hc => by
        rcases List.mem_append.1 hc with hc | hc
        · exact (hK' w (hK2 w h).1.2).2.1 c hc
        · exact (hK2 w h).2.1 c hc, fun c hc => by
        rcases List.mem_append.1 hc with hc | hc
        · exact (hK' w (hK2 w h).1.2).2.2 c hc
        · exact (hK2 w h).2.2 c hc⟩, by rw [hsn, List.map_append, hnc, hnc2], by rw [hsn, List.map_append, hnb, hnb2]⟩, hH.er 6, (hA.sub (by (repeat (first | exact trivial | refine ⟨rfl, ?_⟩))))⟩, by omega⟩
    · (apply st_op hA rfl rfl (by decide); apply op_sliceLit (xs := [.slice m.o m.q.length m.c, .int .i64 m.p.k, .int .i64 m.p.v, .int .i64 m.p.n, .string m.p.s, .slice m.p.ol m.p.ls.length m.p.cl, .slice m.p.oa m.p.ps.length m.p.ca]) (vs := [.agg #[.slice m.o m.q.length m.c, .int .i64 m.p.k, .int .i64 m.p.v, .int .i64 m.p.n, .string m.p.s, .slice m.p.ol m.p.ls.length m.p.cl, .slice m.p.oa m.p.ps.length m.p.ca]]); rfl; rfl; exact (Cats.cn (cs := [.slice m.o m.q.length m.c, .int .i64 m.p.k, .int .i64 m.p.v, .int .i64 m.p.n, .string m.p.s, .slice m.p.ol m.p.ls.length m.p.cl, .slice m.p.oa m.p.ps.length m.p.ca]) Cats.nil); rfl; rfl; rfl; exact hH; clear hA hH; rintro _ w ⟨oN, rfl, hH⟩ a hA)
      repeat' (first | (first | (refine GT ?_ ?_ <;> intro hg <;> clear hA a <;> intro a hA <;> (first | exact FA | replace hg := of_decide_eq_true hg | replace hg := of_decide_eq_false hg | skip)) | (refine QT ?_; clear hA a; intro a hA) | (first | (refine BT ?_; clear hA hH; rintro _ w ⟨bN, rfl, hH⟩ a hA) | (refine LT ?_; clear hA hH; rintro _ w ⟨oN, rfl, hH⟩ a hA) | (refine AT ?_; clear hA; rintro _ w ⟨oN, cN, rfl, hH2⟩ a hA; clear hH; have hH := (hH2 _ (by (repeat constructor))).tail; clear hH2) | (refine S0T ?_; clear hH; rintro _ w hH) )) | ((first | refine CT ?_ | (refine DT ?_ ?_ <;> intro hc <;> try (exfalso; omega))) <;> repeat' refine CT ?_) | (first | (refine DSK ?_; clear hA a; intro a hA) | (first | (refine DLT ?_; clear hA hH; rintro _ w ⟨oN, rfl, hH⟩; refine ⟨STT, ?_⟩; intro a hA) | (refine DAT ?_; clear hA; rintro _ w ⟨oN, cN, rfl, hH2⟩; clear hH; have hH := (hH2 _ (by (repeat constructor))).tail; clear hH2; refine ⟨STT, ?_⟩; intro a hA))) )
      (apply st_op0 hA rfl rfl; apply op_store_fld (cs' := [.int .i64 n, .slice oN (cs.length + 1) cN, .slice ob bs.length bx]); rfl; rfl; rfl; exact hH; (repeat constructor); clear hH; rintro _ w hH)
      repeat' (first | (first | (refine GT ?_ ?_ <;> intro hg <;> clear hA a <;> intro a hA <;> (first | exact FA | replace hg := of_decide_eq_true hg | replace hg := of_decide_eq_false hg | skip)) | (refine QT ?_; clear hA a; intro a hA) | (first | (refine BT ?_; clear hA hH; rintro _ w ⟨bN, rfl, hH⟩ a hA) | (refine LT ?_; clear hA hH; rintro _ w ⟨oN, rfl, hH⟩ a hA) | (refine AT ?_; clear hA; rintro _ w ⟨oN, cN, rfl, hH2⟩ a hA; clear hH; have hH := (hH2 _ (by (repeat constructor))).tail; clear hH2) | (refine S0T ?_; clear hH; rintro _ w hH) )) | ((first | refine CT ?_ | (refine DT ?_ ?_ <;> intro hc <;> try (exfalso; omega))) <;> repeat' refine CT ?_) | (first | (refine DSK ?_; clear hA a; intro a hA) | (first | (refine DLT ?_; clear hA hH; rintro _ w ⟨oN, rfl, hH⟩; refine ⟨STT, ?_⟩; intro a hA) | (refine DAT ?_; clear hA; rintro _ w ⟨oN, cN, rfl, hH2⟩; clear hH; have hH := (hH2 _ (by (repeat constructor))).tail; clear hH2; refine ⟨STT, ?_⟩; intro a hA))) )
      have hpc := plP_c (p := m.p) m.q (by assumption) (by assumption) (by assumption) (by assumption)
      refine rt0 (.inr rfl) rfl hA ⟨fun w => K w, oN, ob, cN, bx, [m], [], fun w hK => ⟨hK, fun c hc => by rw [List.mem_singleton] at hc; subst hc; exact hR w hK, fun b hb => absurd hb List.not_mem_nil⟩, ?_, ?_, ?_⟩
      · rw [hpc]; rfl
      · rw [hpc]; rfl
      · rw [List.append_nil, flat_snoc, List.length_append, encC_eq]
        exact hH.tail
end Go.Proofs.Ytcododdkjppmjaa
namespace Go.Proofs.Ytcododdkjppmjaa
open Go Go.Fw
set_option linter.unusedVariables false
theorem plC_nil : plC [] = ([], []) := rfl
theorem plC_snoc (l : List Cnd) (c : Cnd) : plC (l ++ [c]) = ((plC l).1 ++ (plP c.1 c.2).1, (plC l).2 ++ (plP c.1 c.2).2) := by
  unfold plC
  simp
theorem plC_append (l r : List Cnd) : plC (l ++ r) = ((plC l).1 ++ (plC r).1, (plC l).2 ++ (plC r).2) := by
  unfold plC
  simp
theorem szC_cons (c : Cnd) (l : List Cnd) : szC (c :: l) = szA c.2 + szC l := by unfold szC; rw [List.map_cons, List.sum_cons]
theorem plC_sz : ∀ (l : List Cnd), szC (plC l).1 + (plC l).2.length ≤ szC l
  | [] => Nat.le_refl _
  | c :: l => by
    have h1 := plC_sz l
    have h2 := pl_sz c.1 c.2
    have e : plC (c :: l) = ((plP c.1 c.2).1 ++ (plC l).1, (plP c.1 c.2).2 ++ (plC l).2) := by unfold plC; simp
    rw [e, szC_append, List.length_append, szC_cons]
    omega
theorem szC_take {l : List Cnd} {i : Nat} {x : Cnd} (h : l[i]? = some x) : szC (l.take i) + szA x.2 ≤ szC l := by
  induction l generalizing i with
  | nil => simp at h
  | cons b l ih =>
    cases i with
    | zero =>
      simp at h
      subst h
      rw [List.take_zero, szC_cons]; show 0 + _ ≤ _; omega
    | succ i =>
      rw [List.take_succ_cons, szC_cons, szC_cons]
      have := ih (by simpa using h)
      omega
theorem encB_one (l : List MB) : (flat encB l).all (·.oneCell') = true := flat_one_cell (fun _ => rfl) l
theorem encC_one (l : List MC) : (flat encC l).all (·.oneCell') = true := flat_one_cell (fun x => by rw [encC_eq]; rfl) l
set_option maxRecDepth 10000 attribute [local irreducible] Code.wp wpList Calls Ex Op1 sat bat blk cb own Go.Fw.mp Go.Fw.mpO Go.Fw.mpI Go.Fw.mpE Go.Fw.itr HS Rd Ret wkD Hp Cl Cls Exit.then Exit.inBlock Exit.noGoto bodyPost Go.Fw.flat wk2 Go.Fw.all Go.Fw.owns wpOp
attribute [local irreducible] encA encC encB formP formL partsP partsL plP plL plC szA szL szC

set_option maxHeartbeats 8000000 in
theorem plain_spec (w0 w : World) (H : List It) (K : World → Prop) (m : ML) (o : Option Addr) (c : Nat) (l : List MC)
    (hH : HS w0 noM (frz w0 K :: H) w) (hR : ∀ w, K w → RdBs w m.ob m.cb m.bs ∧ RdCs w o c l) (hf : ∀ x ∈ l, formP x.p = true) (hq : ∀ x ∈ l, x.q.length + szA x.p ≤ 1000) (hs : szC (l.map MC.un) + m.bs.length ≤ 1000) :
    Ret Try.prog 20 #[.agg #[.int .i64 m.n, .slice m.oc m.cs.length m.cc, .slice m.ob m.bs.length m.cb], .slice o l.length c] w (fun v w' => ∃ (K' : World → Prop) (m' : ML), v = .agg #[.int .i64 m'.n, .slice m'.oc m'.cs.length m'.cc, .slice m'.ob m'.bs.length m'.cb] ∧
      (∀ w, K' w → K w ∧ RdL w m') ∧ m'.un = plain m.n (m.bs.map MB.un) (l.map MC.un) ∧ HS w0 noM (frz w0 K' :: H) w') := by
  have hK0 := hH.frz_w (.head _) hR
  have hle := hK0.2.2.1
  have hleB := hK0.1.2
  unfold maxLen at hle
  have hln : l.length ≤ 1000 := by
    have := szC_len (l.map MC.un)
    rw [List.length_map] at this
    omega
  have hspC : Sp o l.length := hK0.2.1.sp (sz := 7) (flat_length encC_len l) (by omega)
  have hspB : Sp m.ob m.bs.length := hK0.1.1.sp (sz := 2) (flat_length encB_len m.bs) (by omega)
  have hnB : m.ob = none → m.bs.length = 0 := fun h => by
    rcases Nat.eq_zero_or_pos m.bs.length with h1 | h1
    · exact h1
    · obtain ⟨b, off, h2⟩ := hspB h1
      rw [h] at h2; cases h2
  have hrC : ∀ w, K w → Rd w o (flat encC l) := fun w h => (hR w h).2.1
  clear hK0
  (refine enter (N := 27) Try.func20 rfl Try.ntmps20 rfl ?_; intro a hA; dsimp only [sl0, Nat.reduceAdd] at hA)
  repeat' (first | (first | (refine GT ?_ ?_ <;> intro hg <;> clear hA a <;> intro a hA <;> (first | exact FA | replace hg := of_decide_eq_true hg | replace hg := of_decide_eq_false hg | skip)) | (refine QT ?_; clear hA a; intro a hA) | (first | (refine BT ?_; clear hA hH; rintro _ w ⟨bN, rfl, hH⟩ a hA) | (refine LT ?_; clear hA hH; rintro _ w ⟨oN, rfl, hH⟩ a hA) | (refine AT ?_; clear hA; rintro _ w ⟨oN, cN, rfl, hH2⟩ a hA; clear hH; have hH := (hH2 _ (by (repeat constructor))).tail; clear hH2) | (refine S0T ?_; clear hH; rintro _ w hH) )) | ((first | refine CT ?_ | (refine DT ?_ ?_ <;> intro hc <;> try (exfalso; omega))) <;> repeat' refine CT ?_) | (first | (refine DSK ?_; clear hA a; intro a hA) | (first | (refine DLT ?_; clear hA hH; rintro _ w ⟨oN, rfl, hH⟩; refine ⟨STT, ?_⟩; intro a hA) | (refine DAT ?_; clear hA; rintro _ w ⟨oN, cN, rfl, hH2⟩; clear hH; have hH := (hH2 _ (by (repeat constructor))).tail; clear hH2; refine ⟨STT, ?_⟩; intro a hA))) )
  refine wp_drawT (qs [0, 1, 2, 3] (.two 4 6 (.q 5 (.one 6 (.one 7 .nil))) (.one 4 (.q 5 (.one 7 .nil))))) (fun a w => ∃ b4 b5 ob cb_, HS w0 noM (Go.Fw.cb b5 52 [.int .i64 m.n, .slice none 0 0, .slice ob m.bs.length cb_] :: own 72 2 ob m.bs.length cb_ (flat encB m.bs) :: Go.Fw.cb b4 52 [.int .i64 0, .slice none 0 0, .slice none 0 0] :: frz w0 K :: H) w ∧
    Sl 27 [(1, .slice o l.length c), (4, .pointer (some (bat b4 0))), (5, .pointer (some (bat b5 0)))] a) mixed (by decide +kernel) hH ?_ ?_
  · replace hH := hH.drew
    (repeat (apply dt_ex hA rfl rfl rfl (by decide); (first | exact EXT | exact EXT2 ); clear hA a; intro a hA))
    apply dt_two
    · (refine dt_op hA rfl rfl rfl (by decide) (op_call rfl rfl rfl (cloneB_spec _ m.ob m.bs.length m.cb (flat encB m.bs) ((hR _ (hH.frz MEMT)).1.1) (flat_length encB_len _) (encB_one _) hnB (by omega))) ?_; clear hA; rintro _ w ⟨o1, c1, rfl, hj⟩; replace hH := hH.join hj; clear hj; refine ⟨(by (first | exact hH | exact hH.tail | exact hH.tail.tail | exact hH.tail.tail.tail | exact hH.tail.tail.tail.tail)), ?_⟩; intro a hA)
      (repeat (apply dt_ex hA rfl rfl rfl (by decide); (first | exact EXT | exact EXT2 | (apply ex_build_p #[.int .i64 m.n, .slice none 0 0, .slice o1 m.bs.length c1]; rfl; (repeat (first | (intro _ h; exact absurd h (List.not_mem_nil)) | (refine List.forall_mem_cons.2 ⟨one_cell_of _ _, ?_⟩))); rfl)); clear hA a; intro a hA))
      (apply dt_op hA rfl rfl rfl (by decide); apply op_alloc; exact hH; clear hA hH; rintro _ w ⟨bN, rfl, hH⟩; refine ⟨(by (first | exact hH | exact hH.tail | exact hH.tail.tail | exact hH.tail.tail.tail | exact hH.tail.tail.tail.tail)), ?_⟩; intro a hA)
      (apply dt_op0 hA rfl rfl rfl; apply op_store_agg (vs := [.int .i64 m.n, .slice none 0 0, .slice o1 m.bs.length c1]); rfl; rfl; exact hH; (repeat constructor); (repeat rfl); clear hH; rintro _ w hH; refine ⟨(by (first | exact hH | exact hH.tail | exact hH.tail.tail | exact hH.tail.tail.tail | exact hH.tail.tail.tail.tail)), ?_⟩; apply dt_nil)
      exact ⟨_, _, _, _, hH.er 3, (hA.sub (by (repeat (first | exact trivial | refine ⟨rfl, ?_⟩))))⟩
    · (apply dt_op hA rfl rfl rfl (by decide); apply op_alloc; exact hH; clear hA hH; rintro _ w ⟨bN, rfl, hH⟩; refine ⟨(by (first | exact hH | exact hH.tail | exact hH.tail.tail | exact hH.tail.tail.tail | exact hH.tail.tail.tail.tail)), ?_⟩; intro a hA)
      (refine dt_op hA rfl rfl rfl (by decide) (op_call rfl rfl rfl (cloneB_spec _ m.ob m.bs.length m.cb (flat encB m.bs) ((hR _ (hH.frz MEMT)).1.1) (flat_length encB_len _) (encB_one _) hnB (by omega))) ?_; clear hA; rintro _ w ⟨o1, c1, rfl, hj⟩; replace hH := hH.join hj; clear hj; refine ⟨(by (first | exact hH | exact hH.tail | exact hH.tail.tail | exact hH.tail.tail.tail | exact hH.tail.tail.tail.tail)), ?_⟩; intro a hA)
      (repeat (apply dt_ex hA rfl rfl rfl (by decide); (first | exact EXT | exact EXT2 | (apply ex_build_p #[.int .i64 m.n, .slice none 0 0, .slice o1 m.bs.length c1]; rfl; (repeat (first | (intro _ h; exact absurd h (List.not_mem_nil)) | (refine List.forall_mem_cons.2 ⟨one_cell_of _ _, ?_⟩))); rfl)); clear hA a; intro a hA))
      (apply dt_op0 hA rfl rfl rfl; apply op_store_agg (vs := [.int .i64 m.n, .slice none 0 0, .slice o1 m.bs.length c1]); rfl; rfl; exact hH; (repeat constructor); (repeat rfl); clear hH; rintro _ w hH; refine ⟨(by (first | exact hH | exact hH.tail | exact hH.tail.tail | exact hH.tail.tail.tail | exact hH.tail.tail.tail.tail)), ?_⟩; apply dt_nil)
      exact ⟨_, _, _, _, ((hH.er 3).perm (.swap _ _ _)), (hA.sub (by (repeat (first | exact trivial | refine ⟨rfl, ?_⟩))))⟩
  clear hA hH
  rintro a w ⟨b4, bO, ob, bx, hH, hA⟩
  repeat' (first | (first | (refine GT ?_ ?_ <;> intro hg <;> clear hA a <;> intro a hA <;> (first | exact FA | replace hg := of_decide_eq_true hg | replace hg := of_decide_eq_false hg | skip)) | (refine QT ?_; clear hA a; intro a hA) | (first | (refine BT ?_; clear hA hH; rintro _ w ⟨bN, rfl, hH⟩ a hA) | (refine LT ?_; clear hA hH; rintro _ w ⟨oN, rfl, hH⟩ a hA) | (refine AT ?_; clear hA; rintro _ w ⟨oN, cN, rfl, hH2⟩ a hA; clear hH; have hH := (hH2 _ (by (repeat constructor))).tail; clear hH2) | (refine S0T ?_; clear hH; rintro _ w hH) )) | ((first | refine CT ?_ | (refine DT ?_ ?_ <;> intro hc <;> try (exfalso; omega))) <;> repeat' refine CT ?_) | (first | (refine DSK ?_; clear hA a; intro a hA) | (first | (refine DLT ?_; clear hA hH; rintro _ w ⟨oN, rfl, hH⟩; refine ⟨STT, ?_⟩; intro a hA) | (refine DAT ?_; clear hA; rintro _ w ⟨oN, cN, rfl, hH2⟩; clear hH; have hH := (hH2 _ (by (repeat constructor))).tail; clear hH2; refine ⟨STT, ?_⟩; intro a hA))) )
  obtain ⟨bG, hbG⟩ : ∃ b, b = bN := ⟨_, rfl⟩
  rw [← hbG] at hA hH
  clear hbG bN
  refine wp_lpk (S := Nat) (fun i a w => ∃ (K' : World → Prop) (oc ob : Option Addr) (cx bx : Nat) (nc : List MC) (nb : List MB), (i ≤ l.length ∧ (∀ w, K' w → K w ∧ (∀ c ∈ nc, RdC w c) ∧ ∀ b ∈ nb, RdB w b) ∧ nc.map MC.un = (plC ((l.take i).map MC.un)).1 ∧ nb.map MB.un = (plC ((l.take i).map MC.un)).2) ∧
      HS w0 noM (cb bO 52 [.int .i64 m.n, .slice oc nc.length cx, .slice ob (m.bs ++ nb).length bx] :: own 55 7 oc nc.length cx (flat encC nc) :: own 72 2 ob (m.bs ++ nb).length bx (flat encB (m.bs ++ nb)) :: cb bG 84 [.func (.func 38) #[] #[.pointer (some (bat bO 0)), .pointer (some (bat bG 0))]] :: frz w0 K' :: Go.Fw.cb b4 52 [.int .i64 0, .slice none 0 0, .slice none 0 0] :: H) w ∧ Sl 27 [(4, .pointer (some (bat b4 0))), (5, .pointer (some (bat bO 0))), (6, .pointer (some (bat bG 0))), (16, .slice o l.length c), (17, .int .i64 l.length), (18, .int .i64 i)] a)
    (fun i => l.length - i)
    (fun a w => ∃ (K' : World → Prop) (oc ob : Option Addr) (cx bx : Nat) (nc : List MC) (nb : List MB), ((∀ w, K' w → K w ∧ (∀ c ∈ nc, RdC w c) ∧ ∀ b ∈ nb, RdB w b) ∧ nc.map MC.un = (plC (l.map MC.un)).1 ∧ nb.map MB.un = (plC (l.map MC.un)).2) ∧
      HS w0 noM (cb bO 52 [.int .i64 m.n, .slice oc nc.length cx, .slice ob (m.bs ++ nb).length bx] :: own 55 7 oc nc.length cx (flat encC nc) :: own 72 2 ob (m.bs ++ nb).length bx (flat encB (m.bs ++ nb)) :: cb bG 84 [.func (.func 38) #[] #[.pointer (some (bat bO 0)), .pointer (some (bat bG 0))]] :: frz w0 K' :: Go.Fw.cb b4 52 [.int .i64 0, .slice none 0 0, .slice none 0 0] :: H) w ∧ Sl 27 [(4, .pointer (some (bat b4 0))), (5, .pointer (some (bat bO 0)))] a) 0
    ⟨K, none, ob, 0, bx, [], [], ⟨Nat.zero_le _, fun w hK => ⟨hK, fun c h => absurd h List.not_mem_nil, fun c h => absurd h List.not_mem_nil⟩, by rw [List.take_zero]; simp only [List.map_nil, plC_nil], by rw [List.take_zero]; simp only [List.map_nil, plC_nil]⟩, by
      rw [List.append_nil]; exact (hH.nil_flat encC 55 7).perm (by (repeat (first | exact List.Perm.refl _ | exact List.Perm.nil | refine perm_pick 0 rfl ?_ | refine perm_pick 1 rfl ?_ | refine perm_pick 2 rfl ?_ | refine perm_pick 3 rfl ?_ | refine perm_pick 4 rfl ?_ | refine perm_pick 5 rfl ?_ | refine perm_pick 6 rfl ?_ | refine perm_pick 7 rfl ?_ | refine perm_pick 8 rfl ?_ | refine perm_pick 9 rfl ?_ | refine perm_pick 10 rfl ?_ | refine perm_pick 11 rfl ?_))), (hA.sub (by (repeat (first | exact trivial | refine ⟨rfl, ?_⟩))))⟩ ?_ ?_
  · clear hA hH
    rintro i a w ⟨K', oc, ob, cx, bx, nc, nb, ⟨hi, hK', hnc, hnb⟩, hH, hA⟩
    by_cases hlt : i < l.length
    rotate_left
    · obtain rfl : i = l.length := by omega
      rw [List.take_length] at hnc hnb
      repeat' (first | (first | (refine GT ?_ ?_ <;> intro hg <;> clear hA a <;> intro a hA <;> (first | exact FA | replace hg := of_decide_eq_true hg | replace hg := of_decide_eq_false hg | skip)) | (refine QT ?_; clear hA a; intro a hA) | (first | (refine BT ?_; clear hA hH; rintro _ w ⟨bN, rfl, hH⟩ a hA) | (refine LT ?_; clear hA hH; rintro _ w ⟨oN, rfl, hH⟩ a hA) | (refine AT ?_; clear hA; rintro _ w ⟨oN, cN, rfl, hH2⟩ a hA; clear hH; have hH := (hH2 _ (by (repeat constructor))).tail; clear hH2) | (refine S0T ?_; clear hH; rintro _ w hH) )) | ((first | refine CT ?_ | (refine DT ?_ ?_ <;> intro hc <;> try (exfalso; omega))) <;> repeat' refine CT ?_) | (first | (refine DSK ?_; clear hA a; intro a hA) | (first | (refine DLT ?_; clear hA hH; rintro _ w ⟨oN, rfl, hH⟩; refine ⟨STT, ?_⟩; intro a hA) | (refine DAT ?_; clear hA; rintro _ w ⟨oN, cN, rfl, hH2⟩; clear hH; have hH := (hH2 _ (by (repeat constructor))).tail; clear hH2; refine ⟨STT, ?_⟩; intro a hA))) )
      exact ⟨K', oc, ob, cx, bx, nc, nb, ⟨hK', hnc, hnb⟩, hH, (hA.sub (by (repeat (first | exact trivial | refine ⟨rfl, ?_⟩))))⟩
    obtain ⟨x, hx⟩ : ∃ x, l[i]? = some x := ⟨_, List.getElem?_eq_getElem hlt⟩
    have hxm := List.mem_of_getElem? hx
    have hvs := flat_all encC_len hx
    rw [encC_eq] at hvs
    have hrC2 : ∀ w, K' w → Rd w o (flat encC l) := fun w h => hrC w (hK' w h).1
    have hR2 : ∀ w, K' w → RdC w x := fun w h => (hR w (hK' w h).1).2.2.2.2 x hxm
    have hxu : (l.map MC.un)[i]? = some x.un := by rw [List.getElem?_map, hx]; rfl
    have hsn := plC_snoc ((l.map MC.un).take i) x.un
    rw [← take_next hxu, ← List.map_take, ← List.map_take] at hsn
    have hb1 := szC_take hxu
    rw [← List.map_take] at hb1
    have hb2 := plC_sz ((l.take i).map MC.un)
    have hb3 := szC_len (plC ((l.take i).map MC.un)).1
    have e1 := congrArg List.length hnc
    have e2 := congrArg List.length hnb
    rw [List.length_map] at e1 e2
    have hb4 : szA x.un.2 = szA x.p := rfl
    repeat' (first | (first | (refine GT ?_ ?_ <;> intro hg <;> clear hA a <;> intro a hA <;> (first | exact FA | replace hg := of_decide_eq_true hg | replace hg := of_decide_eq_false hg | skip)) | ((first | apply st_ex hA hH rfl rfl (by decide) | apply dr_ex hA rfl rfl rfl (by decide) | apply dr_exp hA rfl rfl rfl (by decide) | apply dr_ex3 hA hH rfl rfl rfl (by decide)); (first | (apply ex_load_st (vs := [.slice x.o x.q.length x.c, .int .i64 x.p.k, .int .i64 x.p.v, .int .i64 x.p.n, .string x.p.s, .slice x.p.ol x.p.ls.length x.p.cl, .slice x.p.oa x.p.ps.length x.p.ca]); rfl; rfl; exact cls_frz MEMT hrC2 hvs)); clear hA a; intro a hA) | (refine QT ?_; clear hA a; intro a hA) | (first | (refine BT ?_; clear hA hH; rintro _ w ⟨bN, rfl, hH⟩ a hA) | (refine LT ?_; clear hA hH; rintro _ w ⟨oN, rfl, hH⟩ a hA) | (refine AT ?_; clear hA; rintro _ w ⟨oN, cN, rfl, hH2⟩ a hA; clear hH; have hH := (hH2 _ (by (repeat constructor))).tail; clear hH2) | (refine S0T ?_; clear hH; rintro _ w hH) | (apply st_op0 hA rfl rfl; apply op_store_agg (vs := [.slice x.o x.q.length x.c, .int .i64 x.p.k, .int .i64 x.p.v, .int .i64 x.p.n, .string x.p.s, .slice x.p.ol x.p.ls.length x.p.cl, .slice x.p.oa x.p.ps.length x.p.ca]); rfl; rfl; exact hH; (repeat constructor); (repeat rfl); clear hH; rintro _ w hH))) | ((first | refine CT ?_ | (refine DT ?_ ?_ <;> intro hc <;> try (exfalso; omega))) <;> repeat' refine CT ?_) | (first | (refine DSK ?_; clear hA a; intro a hA) | (first | (refine DLT ?_; clear hA hH; rintro _ w ⟨oN, rfl, hH⟩; refine ⟨STT, ?_⟩; intro a hA) | (refine DAT ?_; clear hA; rintro _ w ⟨oN, cN, rfl, hH2⟩; clear hH; have hH := (hH2 _ (by (repeat constructor))).tail; clear hH2; refine ⟨STT, ?_⟩; intro a hA))) )
    (refine st_op hA rfl rfl (by decide) (op_call rfl rfl rfl (go1_spec _ x (Nat.lt_succ_self _) w0 _ (Go.Fw.cb b4 52 [.int .i64 0, .slice none 0 0, .slice none 0 0] :: Go.Fw.cb bN 55 [.slice x.o x.q.length x.c, .int .i64 x.p.k, .int .i64 x.p.v, .int .i64 x.p.n, .string x.p.s, .slice x.p.ol x.p.ls.length x.p.cl, .slice x.p.oa x.p.ps.length x.p.ca] :: H) K' bO bG m.n oc ob cx bx nc (m.bs ++ nb) (hH.perm (by (repeat (first | exact List.Perm.refl _ | exact List.Perm.nil | refine perm_pick 0 rfl ?_ | refine perm_pick 1 rfl ?_ | refine perm_pick 2 rfl ?_ | refine perm_pick 3 rfl ?_ | refine perm_pick 4 rfl ?_ | refine perm_pick 5 rfl ?_ | refine perm_pick 6 rfl ?_ | refine perm_pick 7 rfl ?_ | refine perm_pick 8 rfl ?_ | refine perm_pick 9 rfl ?_ | refine perm_pick 10 rfl ?_ | refine perm_pick 11 rfl ?_)))) hR2 (hf x hxm) (hq x hxm) (by rw [List.length_append]; omega))) ?_; clear hA hH; rintro _ w ⟨K2, oc2, ob2, cx2, bx2, nc2, nb2, hK2, hnc2, hnb2, hH⟩ a hA)
    rw [List.append_assoc] at hH
    repeat' (first | (first | (refine GT ?_ ?_ <;> intro hg <;> clear hA a <;> intro a hA <;> (first | exact FA | replace hg := of_decide_eq_true hg | replace hg := of_decide_eq_false hg | skip)) | (refine QT ?_; clear hA a; intro a hA) | (first | (refine BT ?_; clear hA hH; rintro _ w ⟨bN, rfl, hH⟩ a hA) | (refine LT ?_; clear hA hH; rintro _ w ⟨oN, rfl, hH⟩ a hA) | (refine AT ?_; clear hA; rintro _ w ⟨oN, cN, rfl, hH2⟩ a hA; clear hH; have hH := (hH2 _ (by (repeat constructor))).tail; clear hH2) | (refine S0T ?_; clear hH; rintro _ w hH) )) | ((first | refine CT ?_ | (refine DT ?_ ?_ <;> intro hc <;> try (exfalso; omega))) <;> repeat' refine CT ?_) | (first | (refine DSK ?_; clear hA a; intro a hA) | (first | (refine DLT ?_; clear hA hH; rintro _ w ⟨oN, rfl, hH⟩; refine ⟨STT, ?_⟩; intro a hA) | (refine DAT ?_; clear hA; rintro _ w ⟨oN, cN, rfl, hH2⟩; clear hH; have hH := (hH2 _ (by (repeat constructor))).tail; clear hH2; refine ⟨STT, ?_⟩; intro a hA))) )
    exact ⟨i + 1, ⟨K2, oc2, ob2, cx2, bx2, nc ++ nc2, nb ++ nb2, ⟨hlt, fun w h => ⟨(hK' w (hK2 w h).1).1, fun c hc => by
        rcases List.mem_append.1 hc with hc | hc
        · exact (hK' w (hK2 w h).1).2.1 c hc
        · exact (hK2 w h).2.1 c hc, fun c hc => by
        rcases List.mem_append.1 hc with hc | hc
        · exact (hK' w (hK2 w h).1).2.2 c hc
        · exact (hK2 w h).2.2 c hc⟩, by rw [hsn, List.map_append, hnc, hnc2]; rfl, by rw [hsn, List.map_append, hnb, hnb2]; rfl⟩, hH.er 6, (hA.sub (by (repeat (first | exact trivial | refine ⟨rfl, ?_⟩))))⟩, by omega⟩
  clear hA hH
  rintro a w ⟨K', oc, ob, cx, bx, nc, nb, ⟨hK', hnc, hnb⟩, hH, hA⟩
  repeat' (first | (first | (refine GT ?_ ?_ <;> intro hg <;> clear hA a <;> intro a hA <;> (first | exact FA | replace hg := of_decide_eq_true hg | replace hg := of_decide_eq_false hg | skip)) | (refine QT ?_; clear hA a; intro a hA) | (first | (refine BT ?_; clear hA hH; rintro _ w ⟨bN, rfl, hH⟩ a hA) | (refine LT ?_; clear hA hH; rintro _ w ⟨oN, rfl, hH⟩ a hA) | (refine AT ?_; clear hA; rintro _ w ⟨oN, cN, rfl, hH2⟩ a hA; clear hH; have hH := (hH2 _ (by (repeat constructor))).tail; clear hH2) | (refine S0T ?_; clear hH; rintro _ w hH) | (apply st_op0 hA rfl rfl; apply op_store_agg (vs := [.int .i64 (ML.mk m.n oc cx nc ob bx (m.bs ++ nb)).n, .slice (ML.mk m.n oc cx nc ob bx (m.bs ++ nb)).oc (ML.mk m.n oc cx nc ob bx (m.bs ++ nb)).cs.length (ML.mk m.n oc cx nc ob bx (m.bs ++ nb)).cc, .slice (ML.mk m.n oc cx nc ob bx (m.bs ++ nb)).ob (ML.mk m.n oc cx nc ob bx (m.bs ++ nb)).bs.length (ML.mk m.n oc cx nc ob bx (m.bs ++ nb)).cb]); rfl; rfl; exact hH; (repeat constructor); (repeat rfl); clear hH; rintro _ w hH))) | ((first | refine CT ?_ | (refine DT ?_ ?_ <;> intro hc <;> try (exfalso; omega))) <;> repeat' refine CT ?_) | (first | (refine DSK ?_; clear hA a; intro a hA) | (first | (refine DLT ?_; clear hA hH; rintro _ w ⟨oN, rfl, hH⟩; refine ⟨STT, ?_⟩; intro a hA) | (refine DAT ?_; clear hA; rintro _ w ⟨oN, cN, rfl, hH2⟩; clear hH; have hH := (hH2 _ (by (repeat constructor))).tail; clear hH2; refine ⟨STT, ?_⟩; intro a hA))) )
  have hleC := hH.own_le (T := 55) (xs := flat encC nc) (by exact MEMT)
  have hleB := hH.own_le (T := 72) (xs := flat encB (m.bs ++ nb)) (by exact MEMT)
  have hF := (((((hH.pk 4 rfl).pk 2 rfl).frz_own.pk 2 rfl).frz_own.er 1).er 1).er 1
  refine rt1c (vs := [.int .i64 (ML.mk m.n oc cx nc ob bx (m.bs ++ nb)).n, .slice (ML.mk m.n oc cx nc ob bx (m.bs ++ nb)).oc (ML.mk m.n oc cx nc ob bx (m.bs ++ nb)).cs.length (ML.mk m.n oc cx nc ob bx (m.bs ++ nb)).cc, .slice (ML.mk m.n oc cx nc ob bx (m.bs ++ nb)).ob (ML.mk m.n oc cx nc ob bx (m.bs ++ nb)).bs.length (ML.mk m.n oc cx nc ob bx (m.bs ++ nb)).cb]) (.inl rfl) rfl hA rfl rfl hH (cls_cb_all (by exact MEMT)) ⟨_, ML.mk m.n oc cx nc ob bx (m.bs ++ nb), rfl, ?_, ?_, hF⟩
  · rintro w ⟨h1, h2, h3⟩
    have h4 := hK' w h3
    refine ⟨h4.1, ⟨h2, hleC.1, hleC.2, h4.2.1⟩, ⟨h1, hleB.1, hleB.2, fun b hb => ?_⟩⟩
    rcases List.mem_append.1 hb with hb | hb
    · exact (hR w h4.1).1.2.2.2 b hb
    · exact h4.2.2 b hb
  · unfold ML.un plain
    rw [List.map_append, ← hnb, ← hnc]
end Go.Proofs.Ytcododdkjppmjaa
