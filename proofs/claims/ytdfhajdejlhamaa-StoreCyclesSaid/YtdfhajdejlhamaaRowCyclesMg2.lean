/-
  The frame for walks, fourth part: calls, code, loops, regions that draw their order. It names no program. Conditions: none.
  The frame for walks, fifth part: maps with int keys; cuts of slices; lists of one shape. It names no program. Conditions: none.
-/
import Derived.Test.YtdfhajdejlhamaaRowCyclesMg1
import Derived.Deep.RegionHeld3
namespace Go.Fw
open Go Go.RowKit
set_option linter.unusedVariables false

/-! ## calls -/
/-- the call returns, and R holds of what it returns -/
def Ret (P : Program) (k : FuncId) (args : Array Value) (w : World) (R : Value → World → Prop) : Prop :=
  Calls P k args w fun e w' => ∃ v, e = .returned v ∧ R v w'
theorem Ret.mono {P : Program} {k : FuncId} {args : Array Value} {w : World} {R R' : Value → World → Prop} (h : Ret P k args w R) (hr : ∀ v w', R v w' → R' v w') : Ret P k args w R' :=
  Calls.mono h fun e w' ⟨v, he, hR⟩ => ⟨v, he, hr v w' hR⟩

class FnB (P : Program) (k : FuncId) : Prop where
  eq : ∃ fn, P.funcs[k]? = some fn ∧ fn.body.isSome = true ∧ (fn.name == "runtime.NumGoroutine") = false

section
variable {P : Program} {N : Nat} {l : List (Nat × Value)} {a : Act} {w : World} {d : Option Tmp} {T : TypeId} {pos : String} {af : Array Edge} {g : Option (Nat × Bool)}

theorem op_call {f : Operand} {k : FuncId} {first captured args A : Array _} {ats : Array TypeId} {vs : List Value} {R : Value → World → Prop} [hk : FnB P k]
    (hf : ev l f = some (.func (.func k) first captured)) (hv : evL l args.toList = some vs) (hA' : first ++ vs.toArray ++ captured = A) (h : Ret P k A w R) :
    Op1 P N l ⟨d, .call ⟨.value f, args, ats⟩, T, pos, af, g⟩ w R := by
  intro a hA K Q hK
  subst hA'
  obtain ⟨fn, h1, h2, h3⟩ := hk.eq
  have hvs : args.map a.eval = vs.toArray := by
    have := hA.evL hv
    apply Array.ext'
    simpa using this
  have h2' : fn.body.isNone = false := by cases hb : fn.body <;> simp_all
  unfold Oper.wp
  simp only [execOp, resolve, hvs, hA.ev hf, Deferred.ofValue, Sem.run_bind, Sem.run_pure, Result.andThen_ok, invoke, callFunc, run_program, h1, h3, h2', Bool.false_eq_true, if_false, Oper.upon]
  refine Calls.mono h fun e w' ⟨v, he, hR⟩ => ?_
  subst he
  exact hK v w' hR
end

/-! ## code -/
section
variable {P : Program} {N : Nat} {l : List (Nat × Value)} {a : Act} {w : World} {K : Act → World → Prop} {Q : Exit → Act → World → Prop}
theorem then_normal (h : K a w) : Exit.then K Q .normal a w := h
theorem then_ret (h : Q .ret a w) : Exit.then K Q .ret a w := h
theorem then_exit {i : Nat} (h : Q (.exit i) a w) : Exit.then K Q (.exit i) a w := h
theorem inB_normal {i : Nat} (h : Q .normal a w) : Exit.inBlock i Q .normal a w := h
theorem inB_ret {i : Nat} (h : Q .ret a w) : Exit.inBlock i Q .ret a w := h
theorem inB_eq {i : Nat} (h : Q .normal a w) : Exit.inBlock i Q (.exit i) a w := by simpa [Exit.inBlock] using h
theorem inB_ne {i j : Nat} (hij : Nat.beq j i = false) (h : Q (.exit j) a w) : Exit.inBlock i Q (.exit j) a w := by
  have : j ≠ i := fun h => by subst h; simp at hij
  simpa [Exit.inBlock, this] using h
theorem st_nil {ops : Array Oper} (h : Q .normal a w) : wpList P ops Q [] a w := h

theorem st_cond {c : Operand} {x y : Code} {t : Bool} (hA : Sl N l a) (hc : ev l c = some (.bool t)) (h1 : t = true → x.wp P Q a w) (h2 : t = false → y.wp P Q a w) : (Code.cond c x y).wp P Q a w :=
  wp_cond_split (hA.ev hc) h1 h2
theorem st_cond_d {c : Operand} {x y : Code} {p : Prop} [Decidable p] (hA : Sl N l a) (hc : ev l c = some (.bool (decide p))) (h1 : p → x.wp P Q a w) (h2 : ¬ p → y.wp P Q a w) : (Code.cond c x y).wp P Q a w :=
  wp_cond_split (hA.ev hc) (fun h => h1 (of_decide_eq_true h)) (fun h => h2 (of_decide_eq_false h))
theorem st_cond_nd {c : Operand} {x y : Code} {p : Prop} [Decidable p] (hA : Sl N l a) (hc : ev l c = some (.bool (!decide p))) (h1 : ¬ p → x.wp P Q a w) (h2 : p → y.wp P Q a w) : (Code.cond c x y).wp P Q a w :=
  wp_cond_split (hA.ev hc) (fun h => h1 (by simpa using h)) (fun h => h2 (by simpa using h))
theorem st_cond_t {c : Operand} {x y : Code} (hA : Sl N l a) (hc : ev l c = some (.bool true)) (h : x.wp P Q a w) : (Code.cond c x y).wp P Q a w := wp_cond_true (hA.ev hc) h
theorem st_cond_f {c : Operand} {x y : Code} (hA : Sl N l a) (hc : ev l c = some (.bool false)) (h : y.wp P Q a w) : (Code.cond c x y).wp P Q a w := wp_cond_false (hA.ev hc) h

/-- what holds where a piece of code ends normally is enough for what follows -/
theorem st_mid {x y : Code} (R : Act → World → Prop) (h : x.wp P (Exit.then R Q) a w) (k : ∀ a w, R a w → y.wp P Q a w) : (Code.seq x y).wp P Q a w :=
  wp_seq (Code.wp_mono (fun e a w q => by cases e <;> first | exact k a w q | exact q) h)

theorem wp_lp {c : Code} {S : Type} (I : S → Act → World → Prop) (μ : S → Nat) (s : S) (h₀ : I s a w)
    (round : ∀ s a w, I s a w → c.wp P (Exit.then (fun a' w' => ∃ s', I s' a' w' ∧ μ s' < μ s) Q) a w) : (Code.loop c).wp P Q a w := by
  intro b k cs
  have key : ∀ n s a w, μ s = n → I s a w →
      ∃ e a' w', Q e a' w' ∧ Arrives P (lone (b.at a (.code c :: .inLoop c :: k)) cs w) b k cs e a' w' := by
    intro n
    induction n using Nat.strongRecOn with
    | _ n ih =>
      intro s a w hn hI
      obtain ⟨e, a₁, w₁, hq, harr⟩ := round s a w hI b (.inLoop c :: k) cs
      cases e with
      | normal =>
        obtain ⟨s', hI₁, hlt⟩ := hq
        obtain ⟨e₂, a₂, w₂, hq₂, harr₂⟩ := ih (μ s') (hn ▸ hlt) s' a₁ w₁ rfl hI₁
        exact ⟨e₂, a₂, w₂, hq₂, .of_steps (Steps.trans harr (.one step_inLoop)) harr₂⟩
      | exit id => exact ⟨_, a₁, w₁, hq, .pass (x := .inLoop c) rfl (fun _ _ => .inl (by simp)) harr⟩
      | goto l => exact ⟨_, a₁, w₁, hq, .pass (x := .inLoop c) rfl (fun _ _ => .inl (by simp)) harr⟩
      | ret => exact ⟨_, a₁, w₁, hq, .pass (x := .inLoop c) rfl (fun _ _ => .inl (by simp)) harr⟩
      | panic ch => exact ⟨_, a₁, w₁, hq, .pass (x := .inLoop c) rfl (fun _ _ => .inl (by simp)) harr⟩
      | outgrown => exact ⟨_, a₁, w₁, hq, .pass (x := .inLoop c) rfl (fun _ _ => .inl (by simp)) harr⟩
  obtain ⟨e, a', w', hq, harr⟩ := key _ s a w rfl h₀
  exact ⟨e, a', w', hq, .of_steps (.one step_loop) harr⟩

/-! ## in and out -/
def sl0 : Nat → List Value → List (Nat × Value)
  | _, [] => []
  | i, v :: r => (i, v) :: sl0 (i + 1) r
theorem lk_sl0 : ∀ (vs : List Value) (k i : Nat) (v : Value), lk (sl0 k vs) i = some v → k ≤ i ∧ vs[i - k]? = some v
  | [], k, i, v, h => by simp [sl0, lk] at h
  | u :: r, k, i, v, h => by
    simp only [sl0, lk] at h
    by_cases hki : k = i
    · subst hki
      simp at h
      exact ⟨Nat.le_refl _, by simp [h]⟩
    · have hb : Nat.beq k i = false := by
        cases hb : Nat.beq k i with
        | false => rfl
        | true => exact absurd (Nat.eq_of_beq_eq_true hb) hki
      simp only [hb, cond_false] at h
      obtain ⟨h1, h2⟩ := lk_sl0 r (k + 1) i v h
      refine ⟨by omega, ?_⟩
      rw [show i - k = (i - (k + 1)) + 1 by omega]
      simpa using h2

theorem enter {k : FuncId} {fn : Func} {c : Code} {args : List Value} {R : Value → World → Prop} (hf : P.funcs[k]? = some fn) (hb : fn.body = some c) (hn : fn.ntmps = N) (hle0 : Nat.ble args.length N = true)
    (h : ∀ a, Sl N (sl0 0 args) a → c.wp P (bodyPost P fn fun e w' => ∃ v, e = .returned v ∧ R v w') a w) : Ret P k args.toArray w R := by
  have hle := Nat.le_of_ble_eq_true hle0
  refine calls_of_wp hf hb (h _ ⟨rfl, ?_, fun i v hi => ?_⟩)
  · simp [hn]; omega
  · obtain ⟨_, h2⟩ := lk_sl0 args 0 i v hi
    have hlt : i < args.length := (List.getElem?_eq_some_iff.1 h2).1
    rw [Array.getElem?_append_left (by simpa using hlt)]
    simpa using h2

theorem rt1 {fn : Func} {R : Value → World → Prop} {t : Tmp} {v : Value} {e : Exit} (he : e = .ret ∨ e = .normal) (hr : fn.results = #[.tmp t]) (hA : Sl N l a) (hv : lk l t = some v) (h : R v w) :
    bodyPost P fn (fun e w' => ∃ v, e = .returned v ∧ R v w') e a w := by
  have hg : a.tmps.getD t undef = v := by simp [Array.getD_eq_getD_getElem?, hA.get t v hv]
  rcases he with rfl | rfl
  · exact bodyPost_ret (results_tmp hr _ _ _) hA.defers ⟨v, by rw [hg], h⟩
  · exact bodyPost_end (results_tmp hr _ _ _) hA.defers ⟨v, by rw [hg], h⟩
theorem rt2 {fn : Func} {R : Value → World → Prop} {t u : Tmp} {v v2 : Value} {e : Exit} (he : e = .ret ∨ e = .normal) (hr : fn.results = #[.tmp t, .tmp u]) (hA : Sl N l a) (hv : lk l t = some v) (hv2 : lk l u = some v2) (h : R (.tuple #[v, v2]) w) :
    bodyPost P fn (fun e w' => ∃ v, e = .returned v ∧ R v w') e a w := by
  have hg : a.tmps.getD t undef = v := by simp [Array.getD_eq_getD_getElem?, hA.get t v hv]
  have hg2 : a.tmps.getD u undef = v2 := by simp [Array.getD_eq_getD_getElem?, hA.get u v2 hv2]
  rcases he with rfl | rfl
  · exact bodyPost_ret (results_tmp2 hr _ _ _) hA.defers ⟨_, by rw [hg, hg2], h⟩
  · exact bodyPost_end (results_tmp2 hr _ _ _) hA.defers ⟨_, by rw [hg, hg2], h⟩
theorem rt3 {fn : Func} {R : Value → World → Prop} {t u s : Tmp} {v v2 v3 : Value} {e : Exit} (he : e = .ret ∨ e = .normal) (hr : fn.results = #[.tmp t, .tmp u, .tmp s]) (hA : Sl N l a) (hv : lk l t = some v) (hv2 : lk l u = some v2) (hv3 : lk l s = some v3) (h : R (.tuple #[v, v2, v3]) w) :
    bodyPost P fn (fun e w' => ∃ v, e = .returned v ∧ R v w') e a w := by
  have hg : a.tmps.getD t undef = v := by simp [Array.getD_eq_getD_getElem?, hA.get t v hv]
  have hg2 : a.tmps.getD u undef = v2 := by simp [Array.getD_eq_getD_getElem?, hA.get u v2 hv2]
  have hg3 : a.tmps.getD s undef = v3 := by simp [Array.getD_eq_getD_getElem?, hA.get s v3 hv3]
  have hrun : (results fn a.tmps).run P w = .ok (.tuple #[v, v2, v3]) w := by simp [results, hr, ← hg, ← hg2, ← hg3]
  rcases he with rfl | rfl
  · exact bodyPost_ret hrun hA.defers ⟨_, rfl, h⟩
  · exact bodyPost_end hrun hA.defers ⟨_, rfl, h⟩
theorem rt0 {fn : Func} {R : Value → World → Prop} {e : Exit} (he : e = .ret ∨ e = .normal) (hr : fn.results = #[]) (hA : Sl N l a) (h : R (.tuple #[]) w) :
    bodyPost P fn (fun e w' => ∃ v, e = .returned v ∧ R v w') e a w := by
  rcases he with rfl | rfl
  · exact bodyPost_ret (results_none hr _ _ _) hA.defers ⟨_, rfl, h⟩
  · exact bodyPost_end (results_none hr _ _ _) hA.defers ⟨_, rfl, h⟩
end

/-! ## regions that draw their order -/
/-- some operations come last, one behind the other: behind them nothing is asked of the world -/
def aft (ops : Array Oper) (j i : Nat) : Bool := match ops[j]? with
  | some o => o.after.any fun e => Region.binds .any e && Nat.beq e.on i
  | none => false
/-- j comes behind i, by some that have not come -/
def beh (ops : Array Oper) (listed : Array Bool) (i : Nat) : Nat → Nat → Bool
  | 0, j => aft ops j i
  | n + 1, j => aft ops j i || (List.range ops.size).any fun k => !(listed.getD k true) && (aft ops j k && beh ops listed i n k)
def late (ops : Array Oper) (π2 : List Nat) (listed : Array Bool) (i : Nat) : Bool :=
  π2.all fun j => beh ops listed i 3 j
def okL (ops : Array Oper) : List Nat → Array Bool → Bool
  | [], listed => (Region.ready .any ops listed).isEmpty
  | i :: π, listed => decide (Region.ready .any ops listed = [i]) && okL ops π (listed.setIfInBounds i true)
/-- kinds: 0 turns memory, 1 looks at memory, else neither -/
def okD (ops : Array Oper) (π2 : List Nat) : List (Nat × Nat) → Array Bool → Bool
  | [], listed => okL ops π2 listed
  | (i, 0) :: π, listed => decide (Region.ready .any ops listed = [i]) && okD ops π2 π (listed.setIfInBounds i true)
  | (i, 1) :: π, listed => (Region.ready .any ops listed).contains i && Region.free .any ops listed i && late ops π2 listed i && okD ops π2 π (listed.setIfInBounds i true)
  | (i, _ + 2) :: π, listed => (Region.ready .any ops listed).contains i && Region.free .any ops listed i && okD ops π2 π (listed.setIfInBounds i true)

def wk2 (P : Program) (ops : Array Oper) (Q : Exit → Act → World → Prop) : List Nat → Act → World → Prop
  | [], a, w => Q .normal a w
  | i :: π, a, w => wpOp P ops (NoPanic Q) i (fun a' w' => wk2 P ops Q π a' w') a w
def wkD (P : Program) (ops : Array Oper) (S : World → Prop) (Q : Exit → Act → World → Prop) (π2 : List Nat) : List (Nat × Nat) → Act → World → Prop
  | [], a, w => wk2 P ops Q π2 a w
  | (i, 0) :: π, a, w => wpOp P ops (NoPanic Q) i (fun a' w' => S w' ∧ wkD P ops S Q π2 π a' w') a w
  | (i, 1) :: π, a, w => ∃ o v, ops[i]? = some o ∧ YieldsIf P ops S o v a ∧ wkD P ops S Q π2 π (a.put o.dst v) w
  | (i, _ + 2) :: π, a, w => ∃ o v, ops[i]? = some o ∧ YieldsIf P ops (fun _ => True) o v a ∧ wkD P ops S Q π2 π (a.put o.dst v) w

section
variable {P : Program} {ops : Array Oper} {Q : Exit → Act → World → Prop} {md : Region.Mode} {S : World → Prop} {F : Nat → Bool}
/-- whichever comes up; behind those of the first part the world is of the class -/
def wpAnyK (P : Program) (md : Region.Mode) (ops : Array Oper) (Q : Exit → Act → World → Prop) (S : World → Prop) (F : Nat → Bool) : Nat → Array Bool → Act → World → Prop
  | 0, listed, a, w => Region.ready md ops listed = [] ∧ Q .normal a w
  | n + 1, listed, a, w => (Region.ready md ops listed = [] → Q .normal a w) ∧
    ∀ i ∈ Region.ready md ops listed, wpOp P ops Q i (fun a' w' => (F i = true → S w → S w') ∧ wpAnyK P md ops Q S F n (listed.setIfInBounds i true) a' w') a w
theorem wpAnyK.any : ∀ (n : Nat) (listed : Array Bool) (a : Act) (w : World), wpAnyK P md ops Q S F n listed a w → wpAny P md ops Q n listed a w
  | 0, _, _, _, h => h
  | n + 1, _, _, _, h => ⟨h.1, fun i hi => wpOp_mono (fun a' w' h' => wpAnyK.any n _ a' w' h'.2) (h.2 i hi)⟩
def AftP (md : Region.Mode) (ops : Array Oper) (j i : Nat) : Prop := ∃ oj, ops[j]? = some oj ∧ ∃ e ∈ oj.after, Region.binds md e = true ∧ e.on = i
inductive Rch (md : Region.Mode) (ops : Array Oper) (listed : Array Bool) (i : Nat) : Nat → Prop
  | base {j : Nat} : AftP md ops j i → Rch md ops listed i j
  | step {j k : Nat} : listed.getD k true = false → AftP md ops j k → Rch md ops listed i k → Rch md ops listed i j
theorem wpAnyK.first {i : Nat} {o : Oper} {v : Value} (hi : ops[i]? = some o) (hsel : ∀ (j : Nat) (o : Oper) cs b, ops[j]? = some o → o.op ≠ .select cs b) (hQ : ∀ c a w, Q (.panic c) (a.put o.dst v) w → Q (.panic c) a w) :
    ∀ (n : Nat) (listed : Array Bool) (a : Act) (w : World),
      (∀ j, F j = false → Rch md ops listed i j) → (∀ j oj, ops[j]? = some oj → j ≠ i → listed.getD j true = false → (∀ e ∈ oj.after, Region.binds md e = true → e.on ≠ i) → o.apart ops oj = true) →
      i ∈ Region.ready md ops listed → YieldsIf P ops S o v a → S w → wpAnyK P md ops Q S F n (listed.setIfInBounds i true) (a.put o.dst v) w → wpAnyK P md ops Q S F (n + 1) listed a w := by
  intro n
  induction n with
  | zero =>
    intro listed a w _ _ hr hy hS H
    refine ⟨fun h => (by rw [h] at hr; cases hr), fun j hj => ?_⟩
    by_cases hji : j = i
    · subst hji; exact hy.wpOp hi hS ⟨fun _ h => h, H⟩
    · have := ready_mono hj hji
      rw [H.1] at this
      cases this
  | succ n ih =>
    intro listed a w hF hfree hr hy hS H
    refine ⟨fun h => (by rw [h] at hr; cases hr), fun j hj => ?_⟩
    by_cases hji : j = i
    · subst hji; exact hy.wpOp hi hS ⟨fun _ h => h, H⟩
    have h1 := H.2 j (ready_mono hj hji)
    obtain ⟨hjun, oj, hoj, hall⟩ := mem_ready.1 hj
    have h0 := (mem_ready.1 hr).1
    have hnot : ∀ e ∈ oj.after, Region.binds md e = true → e.on ≠ i := by
      intro e he hb heq
      have h1 := hall e he hb
      rw [heq] at h1
      rcases Nat.lt_or_ge i listed.size with h' | h'
      · simp [h'] at h0 h1; rw [h0] at h1; cases h1
      · simp [Array.getElem?_eq_none h'] at h1
    have hnr : ¬ Rch md ops listed i j := by
      intro h9
      cases h9 with
      | base h =>
        obtain ⟨oj', hoj', e, he, hb, heq⟩ := h
        obtain rfl : oj = oj' := by rw [hoj] at hoj'; exact Option.some.inj hoj'
        exact absurd heq (hnot e he hb)
      | step hk h1 h2 =>
        obtain ⟨oj', hoj', e, he, hb, heq⟩ := h1
        obtain rfl : oj = oj' := by rw [hoj] at hoj'; exact Option.some.inj hoj'
        have h9 := hall e he hb
        subst heq
        rw [Array.getD_eq_getD_getElem?] at hk h9
        cases hq : listed[e.on]? with
        | none => rw [hq] at hk; cases hk
        | some bb => rw [hq] at hk h9; simp at hk h9; rw [hk] at h9; cases h9
    have hFj : F j = true := by
      cases hf : F j with
      | true => rfl
      | false =>
        exact (hnr (hF j hf)).elim
    have hF' : ∀ l, F l = false → Rch md ops (listed.setIfInBounds j true) i l := by
      intro l hl
      have h9 := hF l hl
      clear hl
      induction h9 with
      | base h => exact .base h
      | step hk h1 h2 ih9 =>
        refine .step ?_ h1 ih9
        rename_i j9 k9
        have hjk : j ≠ k9 := by
          rintro rfl
          exact hnr h2
        rw [getD_set_ne true hjk]
        exact hk
    have h2 := wpOp_putIf hoj (hfree j oj hoj hji hjun hnot) (fun cs b => hsel i o cs b hi) (fun cs b => hsel j oj cs b hoj) hQ hy h1
    have hfree' : ∀ k ok, ops[k]? = some ok → k ≠ i → (listed.setIfInBounds j true).getD k true = false → (∀ e ∈ ok.after, Region.binds md e = true → e.on ≠ i) → o.apart ops ok = true := by
      intro k ok hk hki hun hno
      refine hfree k ok hk hki ?_ hno
      by_cases hjk : j = k
      · subst hjk; exact hjun
      · rw [getD_set_ne true hjk] at hun; exact hun
    refine wpOp_mono (fun a' w' h3 => ⟨fun _ _ => h3.2.1 hFj hS, ih (listed.setIfInBounds j true) a' w' hF' hfree' (ready_mono hr (Ne.symm hji)) h3.1 (h3.2.1 hFj hS) ?_⟩) h2
    rw [Array.setIfInBounds_comm _ _ hji]
    exact h3.2.2
theorem wpAnyK.firstp {i : Nat} {o : Oper} {v : Value} (hi : ops[i]? = some o) (hsel : ∀ (j : Nat) (o : Oper) cs b, ops[j]? = some o → o.op ≠ .select cs b) (hQ : ∀ c a w, Q (.panic c) (a.put o.dst v) w → Q (.panic c) a w) :
    ∀ (n : Nat) (listed : Array Bool) (a : Act) (w : World),
      (∀ j oj, ops[j]? = some oj → j ≠ i → listed.getD j true = false → (∀ e ∈ oj.after, Region.binds md e = true → e.on ≠ i) → o.apart ops oj = true) →
      i ∈ Region.ready md ops listed → YieldsIf P ops (fun _ => True) o v a → wpAnyK P md ops Q S F n (listed.setIfInBounds i true) (a.put o.dst v) w → wpAnyK P md ops Q S F (n + 1) listed a w := by
  intro n
  induction n with
  | zero =>
    intro listed a w _ hr hy H
    refine ⟨fun h => (by rw [h] at hr; cases hr), fun j hj => ?_⟩
    by_cases hji : j = i
    · subst hji; exact hy.wpOp hi trivial ⟨fun _ h => h, H⟩
    · have := ready_mono hj hji
      rw [H.1] at this
      cases this
  | succ n ih =>
    intro listed a w hfree hr hy H
    refine ⟨fun h => (by rw [h] at hr; cases hr), fun j hj => ?_⟩
    by_cases hji : j = i
    · subst hji; exact hy.wpOp hi trivial ⟨fun _ h => h, H⟩
    have h1 := H.2 j (ready_mono hj hji)
    obtain ⟨hjun, oj, hoj, hall⟩ := mem_ready.1 hj
    have h0 := (mem_ready.1 hr).1
    have hnot : ∀ e ∈ oj.after, Region.binds md e = true → e.on ≠ i := by
      intro e he hb heq
      have h1 := hall e he hb
      rw [heq] at h1
      rcases Nat.lt_or_ge i listed.size with h' | h'
      · simp [h'] at h0 h1; rw [h0] at h1; cases h1
      · simp [Array.getElem?_eq_none h'] at h1
    have h2 := wpOp_putIf hoj (hfree j oj hoj hji hjun hnot) (fun cs b => hsel i o cs b hi) (fun cs b => hsel j oj cs b hoj) hQ hy h1
    have hfree' : ∀ k ok, ops[k]? = some ok → k ≠ i → (listed.setIfInBounds j true).getD k true = false → (∀ e ∈ ok.after, Region.binds md e = true → e.on ≠ i) → o.apart ops ok = true := by
      intro k ok hk hki hun hno
      refine hfree k ok hk hki ?_ hno
      by_cases hjk : j = k
      · subst hjk; exact hjun
      · rw [getD_set_ne true hjk] at hun; exact hun
    refine wpOp_mono (fun a' w' h3 => ⟨h3.2.1, ih (listed.setIfInBounds j true) a' w' hfree' (ready_mono hr (Ne.symm hji)) h3.1 ?_⟩) h2
    rw [Array.setIfInBounds_comm _ _ hji]
    exact h3.2.2
end

theorem aft_spec {ops : Array Oper} {j i : Nat} (h : aft ops j i = true) : AftP .any ops j i := by
  unfold aft at h
  split at h
  · rename_i o ho
    rw [Array.any_eq_true'] at h
    obtain ⟨e, he, h2⟩ := h
    simp only [Bool.and_eq_true] at h2
    exact ⟨o, ho, e, he, h2.1, Nat.eq_of_beq_eq_true h2.2⟩
  · cases h
theorem beh_spec {ops : Array Oper} {listed : Array Bool} {i : Nat} : ∀ (n j : Nat), beh ops listed i n j = true → Rch .any ops listed i j
  | 0, j, h => .base (aft_spec h)
  | n + 1, j, h => by
    rcases Bool.or_eq_true_iff.1 h with h1 | h1
    · exact .base (aft_spec h1)
    · obtain ⟨k, hk, h2⟩ := List.any_eq_true.1 h1
      simp only [Bool.and_eq_true] at h2
      exact .step (by simpa using h2.1) (aft_spec h2.2.1) (beh_spec n k h2.2.2)
theorem late_spec {ops : Array Oper} {π2 : List Nat} {listed : Array Bool} {i : Nat} (h : late ops π2 listed i = true) : ∀ j, (!π2.contains j) = false → Rch .any ops listed i j := by
  intro j hc
  have hm : j ∈ π2 := by simpa using hc
  exact beh_spec 3 j (List.all_eq_true.1 h j hm)
theorem wk2_any {P : Program} {ops : Array Oper} {S : World → Prop} {Q : Exit → Act → World → Prop} {F : Nat → Bool} : ∀ (π : List Nat) (listed : Array Bool) (a : Act) (w : World), (∀ i ∈ π, F i = false) →
    okL ops π listed = true → wk2 P ops Q π a w → wpAnyK P .any ops (NoPanic Q) S F π.length listed a w
  | [], listed, a, w, hF, hok, h => ⟨by simpa [okL] using hok, h⟩
  | i :: π, listed, a, w, hF, hok, h => by
    simp only [okL, Bool.and_eq_true, decide_eq_true_eq] at hok
    refine ⟨fun h0 => (by rw [hok.1] at h0; cases h0), fun j hj => ?_⟩
    rw [hok.1] at hj
    obtain rfl : j = i := by simpa using hj
    refine wpOp_mono (fun a' w' h' => ⟨fun hf => ?_, wk2_any π _ a' w' (fun i hi => hF i (List.mem_cons_of_mem _ hi)) hok.2 h'⟩) h
    rw [hF j (List.mem_cons_self ..)] at hf
    cases hf
theorem wpAny_wkD {P : Program} {ops : Array Oper} {S : World → Prop} {Q : Exit → Act → World → Prop} (hs : Region.noSelect ops = true) (π2 : List Nat) : ∀ (π : List (Nat × Nat)) (listed : Array Bool) (a : Act) (w : World),
    okD ops π2 π listed = true → S w → wkD P ops S Q π2 π a w → wpAnyK P .any ops (NoPanic Q) S (fun j => !π2.contains j) (π.length + π2.length) listed a w
  | [], listed, a, w, hok, hS, h => by
    have := wk2_any (S := S) (F := fun j => !π2.contains j) π2 listed a w (fun i hi => by simpa using hi) hok h
    simpa using this
  | (i, 1) :: π, listed, a, w, hok, hS, h => by
    simp only [okD, Bool.and_eq_true] at hok
    obtain ⟨⟨⟨hr, hf⟩, hl⟩, hok'⟩ := hok
    obtain ⟨o, v, hi, hy, hk⟩ := h
    have := wpAny_wkD hs π2 π _ _ w hok' hS hk
    have e : ((i, 1) :: π).length + π2.length = (π.length + π2.length) + 1 := by simp; omega
    rw [e]
    exact wpAnyK.first hi (Region.noSelect_spec hs) (fun c a w h => h) _ listed a w (late_spec hl) (Region.free_spec hi hf) (by simpa using hr) hy hS this
  | (i, k + 2) :: π, listed, a, w, hok, hS, h => by
    simp only [okD, Bool.and_eq_true] at hok
    obtain ⟨⟨hr, hf⟩, hok'⟩ := hok
    obtain ⟨o, v, hi, hy, hk⟩ := h
    have := wpAny_wkD hs π2 π _ _ w hok' hS hk
    have e : ((i, k + 2) :: π).length + π2.length = (π.length + π2.length) + 1 := by simp; omega
    rw [e]
    exact wpAnyK.firstp hi (Region.noSelect_spec hs) (fun c a w h => h) _ listed a w (Region.free_spec hi hf) (by simpa using hr) hy this
  | (i, 0) :: π, listed, a, w, hok, hS, h => by
    simp only [okD, Bool.and_eq_true, decide_eq_true_eq] at hok
    have e : ((i, 0) :: π).length + π2.length = (π.length + π2.length) + 1 := by simp; omega
    rw [e]
    refine ⟨fun h0 => (by rw [hok.1] at h0; cases h0), fun j hj => ?_⟩
    rw [hok.1] at hj
    obtain rfl : j = i := by simpa using hj
    exact wpOp_mono (fun a' w' ⟨hS', h'⟩ => ⟨fun _ _ => hS', wpAny_wkD hs π2 π _ a' w' hok.2 hS' h'⟩) h

theorem wp_draw {P : Program} {id : Nat} {ops : List Oper} {Q : Exit → Act → World → Prop} {a : Act} {w : World} (π : List (Nat × Nat)) (π2 : List Nat) (S : World → Prop) (hm : P.follows .mixedOrders = true)
    (hok : (Region.noSelect ops.toArray && Nat.beq (π.length + π2.length) ops.length && okD ops.toArray π2 π (Array.replicate ops.length false)) = true) (hS : S w.drew) (h : wkD P ops.toArray S Q π2 π a w.drew) : (Code.region id ops.toArray true).wp P Q a w := by
  simp only [Bool.and_eq_true] at hok
  obtain ⟨⟨hs, hl⟩, hok⟩ := hok
  have hl' : π.length + π2.length = ops.toArray.size := by simpa using Nat.eq_of_beq_eq_true hl
  have := wpAny_wkD hs π2 π (Array.replicate ops.length false) a w.drew hok hS h
  rw [hl'] at this
  refine wp_region_noPanic (wp_region_any hm (wpAnyK.any (S := S) (F := fun j => !π2.contains j) _ _ _ _ ?_))
  simpa using this

theorem wp_draw_HS {P : Program} {id : Nat} {ops : List Oper} {Q : Exit → Act → World → Prop} {a : Act} {w0 w : World} {M : Nat → Prop} {H : List It} (π : List (Nat × Nat)) (hm : P.follows .mixedOrders = true)
    (hok : (Region.noSelect ops.toArray && Nat.beq (π.length + ([] : List Nat).length) ops.length && okD ops.toArray [] π (Array.replicate ops.length false)) = true) (hH : HS w0 M H w) (h : wkD P ops.toArray (HS w0 M H) Q [] π a w.drew) : (Code.region id ops.toArray true).wp P Q a w :=
  wp_draw π [] (HS w0 M H) hm hok hH.drew h
/-- some come last -/
theorem wp_draw2_HS {P : Program} {id : Nat} {ops : List Oper} {Q : Exit → Act → World → Prop} {a : Act} {w0 w : World} {M : Nat → Prop} {H : List It} (π : List (Nat × Nat)) (π2 : List Nat) (hm : P.follows .mixedOrders = true)
    (hok : (Region.noSelect ops.toArray && Nat.beq (π.length + π2.length) ops.length && okD ops.toArray π2 π (Array.replicate ops.length false)) = true) (hH : HS w0 M H w) (h : wkD P ops.toArray (HS w0 M H) Q π2 π a w.drew) : (Code.region id ops.toArray true).wp P Q a w :=
  wp_draw π π2 (HS w0 M H) hm hok hH.drew h

section
variable {P : Program} {N : Nat} {l : List (Nat × Value)} {a : Act} {w : World} {ops : Array Oper} {S : World → Prop} {Q : Exit → Act → World → Prop} {i : Nat} {π : List (Nat × Nat)} {π2 π3 : List Nat}
theorem dr_nil (h : Q .normal a w) : wkD P ops S Q [] [] a w := h
theorem dr_late (h : wk2 P ops Q (i :: π3) a w) : wkD P ops S Q (i :: π3) [] a w := h
theorem dr_nil2 (h : Q .normal a w) : wk2 P ops Q [] a w := h
theorem dr_ex3 {C : World → Prop} {o : Oper} {d : Nat} {v : Value} (hA : Sl N l a) (hC : C w) (hi : ops[i]? = some o) (hg : gd ops l o.guard = some true) (hd : o.dst = some d) (hdN : d < N)
    (h : Ex P N l C o v) (k : ∀ a', Sl N ((d, v) :: l) a' → wk2 P ops Q π3 a' w) : wk2 P ops Q (i :: π3) a w := by
  unfold wk2 wpOp
  simp only [hi, hA.gd hg, if_true]
  refine .inl (h.op1 hC a hA _ _ fun v' w' ⟨hv, hw⟩ => ?_)
  subst hv; subst hw
  rw [hd]
  exact k _ (hA.put hdN _)
theorem dr_op3 {o : Oper} {d : Nat} {R : Value → World → Prop} (hA : Sl N l a) (hi : ops[i]? = some o) (hg : gd ops l o.guard = some true) (hd : o.dst = some d) (hdN : d < N)
    (h : Op1 P N l o w R) (k : ∀ v w', R v w' → ∀ a', Sl N ((d, v) :: l) a' → wk2 P ops Q π3 a' w') : wk2 P ops Q (i :: π3) a w := by
  unfold wk2 wpOp
  simp only [hi, hA.gd hg, if_true]
  refine .inl (h a hA _ _ fun v w' hR => ?_)
  rw [hd]
  exact k v w' hR _ (hA.put hdN v)
theorem dr_op03 {o : Oper} {R : Value → World → Prop} (hA : Sl N l a) (hi : ops[i]? = some o) (hg : gd ops l o.guard = some true) (hd : o.dst = none)
    (h : Op1 P N l o w R) (k : ∀ v w', R v w' → wk2 P ops Q π3 a w') : wk2 P ops Q (i :: π3) a w := by
  unfold wk2 wpOp
  simp only [hi, hA.gd hg, if_true]
  refine .inl (h a hA _ _ fun v w' hR => ?_)
  rw [hd]
  exact k v w' hR
theorem dr_skip3 {o : Oper} {d : Nat} (hA : Sl N l a) (hi : ops[i]? = some o) (hg : gd ops l o.guard = some false) (hd : o.dst = some d) (hdN : d < N)
    (k : ∀ a', Sl N ((d, undef) :: l) a' → wk2 P ops Q π3 a' w) : wk2 P ops Q (i :: π3) a w := by
  unfold wk2 wpOp
  simp only [hi, hA.gd hg, Bool.false_eq_true, if_false]
  rw [hd]
  exact k _ (hA.put hdN _)
theorem dr_ex {o : Oper} {d : Nat} {v : Value} (hA : Sl N l a) (hi : ops[i]? = some o) (hg : gd ops l o.guard = some true) (hd : o.dst = some d) (hdN : d < N)
    (h : Ex P N l S o v) (k : ∀ a', Sl N ((d, v) :: l) a' → wkD P ops S Q π2 π a' w) : wkD P ops S Q π2 ((i, 1) :: π) a w := by
  refine ⟨o, v, hi, .inl ⟨hA.gd hg, fun w' hS => h a w' hA hS⟩, ?_⟩
  rw [hd]
  exact k _ (hA.put hdN v)
theorem dr_exb {o : Oper} {d : Nat} {b : Bool} (hA : Sl N l a) (hi : ops[i]? = some o) (hg : gd ops l o.guard = some true) (hd : o.dst = some d) (hdN : d < N) (hG : isG ops d = true)
    (h : Ex P N l S o (.bool b)) (kt : b = true → ∀ a', Sl N ((d, .bool true) :: l) a' → wkD P ops S Q π2 π a' w) (kf : b = false → ∀ a', Sl N ((d, .bool false) :: l) a' → wkD P ops S Q π2 π a' w) :
    wkD P ops S Q π2 ((i, 1) :: π) a w :=
  dr_ex hA hi hg hd hdN h fun a' hA' => by
    cases hb : b with
    | true => exact kt hb a' (hb ▸ hA')
    | false => exact kf hb a' (hb ▸ hA')
theorem dr_exp {o : Oper} {d k : Nat} {v : Value} (hA : Sl N l a) (hi : ops[i]? = some o) (hg : gd ops l o.guard = some true) (hd : o.dst = some d) (hdN : d < N)
    (h : Ex P N l (fun _ => True) o v) (kk : ∀ a', Sl N ((d, v) :: l) a' → wkD P ops S Q π2 π a' w) : wkD P ops S Q π2 ((i, k + 2) :: π) a w := by
  refine ⟨o, v, hi, .inl ⟨hA.gd hg, fun w' hS => h a w' hA hS⟩, ?_⟩
  rw [hd]
  exact kk _ (hA.put hdN v)
theorem dr_skip {o : Oper} {d : Nat} (hA : Sl N l a) (hi : ops[i]? = some o) (hg : gd ops l o.guard = some false) (hd : o.dst = some d) (hdN : d < N)
    (k : ∀ a', Sl N ((d, undef) :: l) a' → wkD P ops S Q π2 π a' w) : wkD P ops S Q π2 ((i, 1) :: π) a w := by
  refine ⟨o, undef, hi, .inr ⟨hA.gd hg, rfl⟩, ?_⟩
  rw [hd]
  exact k _ (hA.put hdN _)
theorem dr_op {o : Oper} {d : Nat} {R : Value → World → Prop} (hA : Sl N l a) (hi : ops[i]? = some o) (hg : gd ops l o.guard = some true) (hd : o.dst = some d) (hdN : d < N)
    (h : Op1 P N l o w R) (k : ∀ v w', R v w' → S w' ∧ ∀ a', Sl N ((d, v) :: l) a' → wkD P ops S Q π2 π a' w') : wkD P ops S Q π2 ((i, 0) :: π) a w := by
  unfold wkD wpOp
  simp only [hi, hA.gd hg, if_true]
  refine .inl (h a hA _ _ fun v w' hR => ?_)
  rw [hd]
  exact ⟨(k v w' hR).1, (k v w' hR).2 _ (hA.put hdN v)⟩
theorem dr_op0 {o : Oper} {R : Value → World → Prop} (hA : Sl N l a) (hi : ops[i]? = some o) (hg : gd ops l o.guard = some true) (hd : o.dst = none)
    (h : Op1 P N l o w R) (k : ∀ v w', R v w' → S w' ∧ wkD P ops S Q π2 π a w') : wkD P ops S Q π2 ((i, 0) :: π) a w := by
  unfold wkD wpOp
  simp only [hi, hA.gd hg, if_true]
  refine .inl (h a hA _ _ fun v w' hR => ?_)
  rw [hd]
  exact k v w' hR
theorem dr_opskip {o : Oper} {d : Nat} (hA : Sl N l a) (hi : ops[i]? = some o) (hg : gd ops l o.guard = some false) (hd : o.dst = some d) (hdN : d < N) (hS : S w)
    (k : ∀ a', Sl N ((d, undef) :: l) a' → wkD P ops S Q π2 π a' w) : wkD P ops S Q π2 ((i, 0) :: π) a w := by
  unfold wkD wpOp
  simp only [hi, hA.gd hg, Bool.false_eq_true, if_false]
  rw [hd]
  exact ⟨hS, k _ (hA.put hdN _)⟩
end
end Go.Fw
namespace Go.Fw
open Go Go.RowKit
set_option linter.unusedVariables false

/-! ## lists of one shape -/
def flat {α : Type} (enc : α → List Value) (l : List α) : List Value := l.flatMap enc
def encI (z : Int) : List Value := [.int .i64 z]
def encP (p : Int × Int) : List Value := [.int .i64 p.1, .int .i64 p.2]
theorem encI_len (z : Int) : (encI z).length = 1 := rfl
theorem encP_len (p : Int × Int) : (encP p).length = 2 := rfl
theorem flat_nil {α : Type} (enc : α → List Value) : flat enc [] = [] := rfl
theorem HS.nil_flat {α : Type} (enc : α → List Value) {w0 w : World} {M : Nat → Prop} {H : List It} (h : HS w0 M H w) (T sz : Nat) : HS w0 M (own T sz none 0 0 (flat enc []) :: H) w := h.nil_own T sz
theorem flat_length {α : Type} {enc : α → List Value} {sz : Nat} (henc : ∀ x, (enc x).length = sz) (l : List α) : (flat enc l).length = l.length * sz := by
  induction l with
  | nil => simp [flat]
  | cons x l ih => simp only [flat, List.flatMap_cons, List.length_append, henc, List.length_cons, Nat.add_mul] at ih ⊢; omega
theorem flat_get {α : Type} {enc : α → List Value} {sz : Nat} (henc : ∀ x, (enc x).length = sz) : ∀ {l : List α} {i off : Nat} {x : α} {v : Value}, l[i]? = some x → (enc x)[off]? = some v → (flat enc l)[i * sz + off]? = some v
  | [], i, off, x, v, hi, hv => by simp at hi
  | y :: l, 0, off, x, v, hi, hv => by
    obtain rfl : y = x := by simpa using hi
    have : off < (enc y).length := (List.getElem?_eq_some_iff.1 hv).1
    simp [flat, List.getElem?_append_left this, hv]
  | y :: l, i + 1, off, x, v, hi, hv => by
    have ih := flat_get henc (l := l) (i := i) (by simpa using hi) hv
    simp only [flat, List.flatMap_cons] at ih ⊢
    rw [List.getElem?_append_right (by rw [henc, Nat.add_mul]; omega), henc, ← ih]
    congr 1
    rw [Nat.add_mul]; omega
theorem flat_get0 {α : Type} {enc : α → List Value} {sz : Nat} (henc : ∀ x, (enc x).length = sz) {l : List α} {i : Nat} {x : α} {v : Value} (hi : l[i]? = some x) (hv : (enc x)[0]? = some v) : (flat enc l)[i * sz]? = some v :=
  flat_get henc (off := 0) hi hv
/-- a whole element -/
theorem flat_all {α : Type} {enc : α → List Value} {sz : Nat} (henc : ∀ x, (enc x).length = sz) {l : List α} {i : Nat} {x : α} (hi : l[i]? = some x) : ∀ k v, (enc x)[k]? = some v → (flat enc l)[i * sz + k]? = some v :=
  fun k v hv => flat_get henc hi hv
theorem flat_append {α : Type} (enc : α → List Value) (l r : List α) : flat enc (l ++ r) = flat enc l ++ flat enc r := by simp [flat]
theorem flat_one {α : Type} (enc : α → List Value) (x : α) : flat enc [x] = enc x := by simp [flat]
theorem flat_snoc {α : Type} (enc : α → List Value) (l : List α) (x : α) : flat enc (l ++ [x]) = flat enc l ++ enc x := by simp [flat]
theorem flat_take {α : Type} {enc : α → List Value} {sz : Nat} (henc : ∀ x, (enc x).length = sz) : ∀ (l : List α) (k : Nat), (flat enc l).take (k * sz) = flat enc (l.take k)
  | [], k => by simp [flat]
  | x :: l, 0 => by simp [flat]
  | x :: l, k + 1 => by
    have ih := flat_take henc l k
    simp only [flat, List.flatMap_cons, List.take_succ_cons] at ih ⊢
    rw [List.take_append, henc, show (k + 1) * sz - sz = k * sz by rw [Nat.add_mul]; omega, ih, List.take_of_length_le (by rw [henc, Nat.add_mul]; omega)]
theorem flat_drop {α : Type} {enc : α → List Value} {sz : Nat} (henc : ∀ x, (enc x).length = sz) : ∀ (l : List α) (k : Nat), (flat enc l).drop (k * sz) = flat enc (l.drop k)
  | [], k => by simp [flat]
  | x :: l, 0 => by simp [flat]
  | x :: l, k + 1 => by
    have ih := flat_drop henc l k
    simp only [flat, List.flatMap_cons, List.drop_succ_cons] at ih ⊢
    rw [List.drop_append, henc, show (k + 1) * sz - sz = k * sz by rw [Nat.add_mul]; omega, ih, List.drop_of_length_le (by rw [henc, Nat.add_mul]; omega)]
    simp
theorem put_mid (A E B vs : List Value) (off : Nat) (h : off + vs.length ≤ E.length) : Fw.put (A ++ (E ++ B)) (A.length + off) vs = A ++ (Fw.put E off vs ++ B) := by
  unfold Fw.put
  have h1 : (A ++ (E ++ B)).take (A.length + off) = A ++ E.take off := by
    rw [List.take_append, List.take_of_length_le (by omega), show A.length + off - A.length = off by omega, List.take_append_of_le_length (by omega)]
  have h2 : (A ++ (E ++ B)).drop (A.length + off + vs.length) = E.drop (off + vs.length) ++ B := by
    rw [List.drop_append, List.drop_of_length_le (by omega), show A.length + off + vs.length - A.length = off + vs.length by omega, List.drop_append_of_le_length (by omega)]
    simp
  rw [h1, h2]
  simp [List.append_assoc]
theorem flat_put {α : Type} {enc : α → List Value} {sz : Nat} (henc : ∀ x, (enc x).length = sz) {l : List α} {i : Nat} {x y : α} {off : Nat} {vs : List Value} (hi : l[i]? = some x) (hy : Fw.put (enc x) off vs = enc y) (hle : off + vs.length ≤ sz) :
    Fw.put (flat enc l) (i * sz + off) vs = flat enc (l.set i y) := by
  have hlt : i < l.length := (List.getElem?_eq_some_iff.1 hi).1
  have hx : l[i] = x := (List.getElem?_eq_some_iff.1 hi).2
  have e : l = l.take i ++ x :: l.drop (i + 1) := by rw [← hx]; simp
  have e2 : l.set i y = l.take i ++ y :: l.drop (i + 1) := List.set_eq_take_append_cons_drop.trans (if_pos hlt)
  have hta : (flat enc (l.take i)).length = i * sz := by rw [flat_length henc, List.length_take, Nat.min_eq_left (by omega)]
  rw [e2]
  conv => lhs; rw [e]
  simp only [flat_append, show ∀ (z : α) (r : List α), flat enc (z :: r) = enc z ++ flat enc r from fun z r => by simp [flat]]
  rw [← hy, ← hta]
  exact put_mid _ _ _ _ _ (by rw [henc]; exact hle)
theorem flat_one_cell {α : Type} {enc : α → List Value} (h : ∀ x, (enc x).all (·.oneCell') = true) (l : List α) : (flat enc l).all (·.oneCell') = true := by
  simp only [flat, List.all_flatMap, List.all_eq_true]
  exact fun x _ => List.all_eq_true.1 (h x)

/-! ## cuts of slices -/
section
variable {P : Program} {N : Nat} {l : List (Nat × Value)} {C : World → Prop} {d : Option Tmp} {T : TypeId} {pos : String} {af : Array Edge} {g : Option (Nat × Bool)}

/-- s[:k] -/
theorem ex_slice_hi {t e sz by_ k n c : Nat} {z : Value} {zs : List Value} {x y : Operand} {o : Option Addr} {kd : IntKind} {m : Int} [ht : TSl P t e] [hi : TIf P e z zs sz by_]
    (hx : ev l x = some (.slice o n c)) (hy : ev l y = some (.int kd m)) (hk : m = (k : Int)) (hkc : k ≤ c) : Ex P N l C ⟨d, .slice t x none (some y) none, T, pos, af, g⟩ (.slice o k c) := by
  intro a w hA _
  subst hk
  obtain ⟨ti, h3, h4, h5, h6⟩ := hi.eq
  have ho : Option.map (fun x : Addr => x.add 0) o = o := by cases o <;> simp [Addr.add]
  have hkc' : (k : Int) ≤ (c : Int) := by omega
  simp only [execOp, hA.ev hx, Instr.sliceAt, Sem.run_bind, run_underlying ht.eq, Result.andThen_ok, Instr.slice, Instr.sliceBounds, Option.map_some, Option.map_none, Sem.run_pure, hA.ev hy, Instr.sliceBound, asIntOf]
  simp [hkc', sizeOf, typeInfo, h3, h5]
  exact fun _ => ho
/-- s[k:]: the head of what is left -/
def subO (o : Option Addr) (c k sz : Nat) : Option Addr := if c = k then o else o.map (·.add (k * sz))
theorem ex_slice_lo {t e sz by_ k n c : Nat} {z : Value} {zs : List Value} {x y : Operand} {o : Option Addr} {kd : IntKind} {m : Int} [ht : TSl P t e] [hi : TIf P e z zs sz by_]
    (hx : ev l x = some (.slice o n c)) (hy : ev l y = some (.int kd m)) (hk : m = (k : Int)) (hkn : k ≤ n) : Ex P N l C ⟨d, .slice t x (some y) none none, T, pos, af, g⟩ (.slice (subO o c k sz) (n - k) (c - k)) := by
  intro a w hA _
  subst hk
  obtain ⟨ti, h3, h4, h5, h6⟩ := hi.eq
  have hkc' : (k : Int) ≤ (n : Int) := by omega
  simp only [execOp, hA.ev hx, Instr.sliceAt, Sem.run_bind, run_underlying ht.eq, Result.andThen_ok, Instr.slice, Instr.sliceBounds, Option.map_some, Option.map_none, Sem.run_pure, hA.ev hy, Instr.sliceBound, asIntOf]
  simp [hkc', sizeOf, typeInfo, h3, h5, subO]
theorem Rd.sub {w : World} {o : Option Addr} {xs : List Value} {n c k sz : Nat} (h : Rd w o xs) (hl : xs.length = n * sz) (hkn : k ≤ n) (hnc : n ≤ c) : Rd w (subO o c k sz) (xs.drop (k * sz)) := by
  by_cases hck : c = k
  · obtain rfl : n = k := by omega
    have : xs.drop (n * sz) = [] := by rw [← hl]; simp
    rw [this]
    exact ⟨fun h => by simp at h, fun j u h => by simp at h⟩
  · refine ⟨fun hp => ?_, fun j u hj => ?_⟩
    · obtain ⟨b, off, rfl⟩ := h.1 (by simp at hp; omega)
      by_cases hz : k * sz = 0
      · exact ⟨b, off, by simp [subO, hck, Addr.add, hz]⟩
      · exact ⟨b, off + k * sz, by simp [subO, hck, Addr.add, hz]⟩
    · rw [List.getElem?_drop] at hj
      have hlt : 0 < xs.length := by have := (List.getElem?_eq_some_iff.1 hj).1; omega
      obtain ⟨b, off, rfl⟩ := h.1 hlt
      have := h.2 _ u hj
      rw [← this]
      congr 1
      simp only [subO, hck, if_false, Option.map_some, sat, blkO, offO]
      unfold Addr.add
      split <;> simp_all [Nat.add_assoc]
theorem own_cut {w : World} {F : Nat → Prop} {T sz n cap k : Nat} {o : Option Addr} {xs : List Value} (h : (own T sz o n cap xs).sat w F) (hk : k ≤ n) : (own T sz o k cap (xs.take (k * sz))).sat w F := by
  rcases h with ⟨rfl, rfl, rfl, rfl, h⟩ | ⟨b, spare, rfl, h2, h3, h4, h5, h6, h7⟩
  · obtain rfl : k = 0 := by omega
    exact .inl ⟨rfl, rfl, rfl, by simp, h⟩
  · have hle := Nat.mul_le_mul_right sz hk
    refine .inr ⟨b, xs.drop (k * sz) ++ spare, rfl, h2, by rw [List.length_take]; omega, by omega, h5, by rw [List.length_take, List.length_append, List.length_drop]; omega, ?_⟩
    rw [← List.append_assoc, List.take_append_drop]
    exact h7

/-! ## maps with int keys -/
def mkE (e : Int × Value × Nat) : MapEntry := ⟨.int .i64 e.1, e.2.1, e.2.2⟩
structure EsOk (es : List (Int × Value × Nat)) (clock : Nat) : Prop where
  keys : (es.map (·.1)).Nodup
  borns : (es.map (·.2.2)).Nodup
  lt : ∀ e ∈ es, e.2.2 < clock
def mpO (b : Nat) (es : List (Int × Value × Nat)) (clock : Nat) : It := blk b (.map (es.map mkE).toArray clock)
/-- a map: its keys and values, in some order -/
def mp (b : Nat) (m : List (Int × Value)) : It where
  sat w F := ∃ es clock, es.map (fun e => (e.1, e.2.1)) = m ∧ EsOk es clock ∧ (mpO b es clock).sat w F
  loc := by
    rintro w w' F ⟨es, clock, h1, h2, h3⟩ he
    exact ⟨es, clock, h1, h2, (mpO b es clock).loc h3 he⟩
  lt := by
    rintro w F ⟨es, clock, h1, h2, h3⟩
    exact (mpO b es clock).lt h3
  ext := by
    rintro w F F' ⟨es, clock, h1, h2, h3⟩ he
    exact ⟨es, clock, h1, h2, (mpO b es clock).ext h3 he⟩

def mv (m : List (Int × Value)) (k : Int) : Option Value := (m.find? (fun e => e.1 == k)).map (·.2)
def mset (m : List (Int × Value)) (k : Int) (v : Value) : List (Int × Value) := if (mv m k).isSome then m.map (fun e => if e.1 == k then (k, v) else e) else m ++ [(k, v)]
def mdel (m : List (Int × Value)) (k : Int) : List (Int × Value) := m.filter (fun e => !(e.1 == k))

def fnd (k : Int) : List (Int × Value × Nat) → Nat → Option (Nat × Value)
  | [], _ => none
  | e :: es, i => if k == e.1 then some (i, e.2.1) else fnd k es (i + 1)
theorem findNow_int (kk : IntKind) (k : Int) : ∀ (es : List (Int × Value × Nat)) (i : Nat), Instr.findNow (.int kk) (.int .i64 k) (es.map mkE) i = some (fnd k es i)
  | [], i => rfl
  | e :: es, i => by
    simp only [List.map_cons, Instr.findNow, Instr.sameNow, mkE, if_true, fnd]
    cases h : (k == e.1) with
    | true => simp
    | false => simpa using findNow_int kk k es (i + 1)
theorem fnd_mv (k : Int) : ∀ (es : List (Int × Value × Nat)) (i : Nat), (fnd k es i).map (·.2) = mv (es.map (fun e => (e.1, e.2.1))) k
  | [], i => rfl
  | e :: es, i => by
    simp only [fnd, List.map_cons, mv, List.find?_cons]
    by_cases h : k = e.1
    · subst h; simp
    · have h1 : (k == e.1) = false := by simpa using h
      have h2 : (e.1 == k) = false := by simpa using fun h' => h h'.symm
      simp only [h1, h2, Bool.false_eq_true, if_false]
      exact fnd_mv k es (i + 1)
theorem fnd_some (k : Int) : ∀ (es : List (Int × Value × Nat)) (i j : Nat) (v : Value), fnd k es i = some (j, v) → i ≤ j ∧ ∃ born, es[j - i]? = some (k, v, born)
  | [], i, j, v, h => by simp [fnd] at h
  | e :: es, i, j, v, h => by
    simp only [fnd] at h
    by_cases hk : k = e.1
    · subst hk
      simp at h
      obtain ⟨rfl, rfl⟩ := h
      exact ⟨Nat.le_refl _, e.2.2, by simp⟩
    · have h1 : (k == e.1) = false := by simpa using hk
      simp only [h1, Bool.false_eq_true, if_false] at h
      obtain ⟨h2, born, h3⟩ := fnd_some k es (i + 1) j v h
      refine ⟨by omega, born, ?_⟩
      rw [show j - i = (j - (i + 1)) + 1 by omega]
      simpa using h3
theorem fnd_none (k : Int) : ∀ (es : List (Int × Value × Nat)) (i : Nat), fnd k es i = none → ∀ e ∈ es, e.1 ≠ k
  | [], i, h => by simp
  | e :: es, i, h => by
    simp only [fnd] at h
    by_cases hk : k = e.1
    · subst hk; simp at h
    · have h1 : (k == e.1) = false := by simpa using hk
      simp only [h1, Bool.false_eq_true, if_false] at h
      intro e' he'
      rcases List.mem_cons.1 he' with rfl | he'
      · exact fun h => hk h.symm
      · exact fnd_none k es (i + 1) h e' he'

theorem run_findKey {w : World} {kt : TypeId} {kk : IntKind} [hk : TIn P kt kk] (k : Int) (es : List (Int × Value × Nat)) : (Instr.findKey kt (.int .i64 k) (es.map mkE)).run P w = .ok (fnd k es 0) w := by
  simp [Instr.findKey, run_underlying hk.eq, findNow_int]
theorem run_checkKey {w : World} {kt : TypeId} {kk : IntKind} [hk : TIn P kt kk] (em : Bool) (k : Int) : (Instr.checkKey em 10000 kt (.int .i64 k)).run P w = .ok () w := by
  rw [show (10000 : Nat) = 9999 + 1 from rfl, Instr.checkKey, Sem.run_bind, run_underlying hk.eq]
  rfl
theorem run_getObj_map {w : World} {b : Nat} {es : Array MapEntry} {c : Nat} (h : w.heap[b]? = some (.map es c)) : (getObj b).run P w = .ok (.map es c) w := by
  simp [getObj, Sem.run, h]
theorem run_setObj_map {w : World} {b : Nat} {es : Array MapEntry} {c : Nat} (h : w.heap[b]? = some (.map es c)) (o : Obj) : (setObj b o).run P w = .ok () { w with heap := w.heap.setIfInBounds b o } := by
  simp [setObj, Sem.run, h]

theorem run_lookup {w : World} {t kt e sz by_ : Nat} {kk : IntKind} {z : Value} {zs : List Value} {b c : Nat} {es : List (Int × Value × Nat)} {k : Int} {ok : Bool} [ht : TMp P t kt e] [hk : TIn P kt kk] [hi : TIf P e z zs sz by_] (h : w.heap[b]? = some (.map (es.map mkE).toArray c)) :
    (Instr.lookup t (.map (some b)) (.int .i64 k) ok).run P w = .ok (if ok then .tuple #[((fnd k es 0).map (·.2)).getD z, .bool (fnd k es 0).isSome] else ((fnd k es 0).map (·.2)).getD z) w := by
  obtain ⟨ti, h3, h4, h5, h6⟩ := hi.eq
  simp only [Instr.lookup, Sem.run_bind, run_underlying ht.eq, Result.andThen_ok, run_getObj_map h, Sem.run_pure, run_checkKey, run_findKey]
  cases hf : fnd k es 0 with
  | none => cases ok <;> simp [zeroValue, typeInfo, h3, h4]
  | some p => cases ok <;> simp

theorem ex_lookup_ok {t kt e sz by_ b : Nat} {kk : IntKind} {z : Value} {zs : List Value} {x y : Operand} {m : List (Int × Value)} {k : Int} {w0 : World} {M : Nat → Prop} {H : List It} [ht : TMp P t kt e] [hk : TIn P kt kk] [hi : TIf P e z zs sz by_]
    (hx : ev l x = some (.map (some b))) (hy : ev l y = some (.int .i64 k)) (hm : mp b m ∈ H) : Ex P N l (HS w0 M H) ⟨d, .lookup t x y true, T, pos, af, g⟩ (.tuple #[(mv m k).getD z, .bool (mv m k).isSome]) := by
  intro a w hA hH
  obtain ⟨F, es, clock, rfl, h2, h3, h4⟩ := hH.sat hm
  simp only [execOp, hA.ev hx, hA.ev hy, Sem.run_bind, run_lookup (t := t) h4, if_true, Result.andThen_ok, Sem.run_pure]
  rw [fnd_mv, ← fnd_mv k es 0]
  simp
theorem ex_lookup {t kt e sz by_ b : Nat} {kk : IntKind} {z : Value} {zs : List Value} {x y : Operand} {m : List (Int × Value)} {k : Int} {w0 : World} {M : Nat → Prop} {H : List It} [ht : TMp P t kt e] [hk : TIn P kt kk] [hi : TIf P e z zs sz by_]
    (hx : ev l x = some (.map (some b))) (hy : ev l y = some (.int .i64 k)) (hm : mp b m ∈ H) : Ex P N l (HS w0 M H) ⟨d, .lookup t x y false, T, pos, af, g⟩ ((mv m k).getD z) := by
  intro a w hA hH
  obtain ⟨F, es, clock, rfl, h2, h3, h4⟩ := hH.sat hm
  simp only [execOp, hA.ev hx, hA.ev hy, Sem.run_bind, run_lookup (t := t) h4, Bool.false_eq_true, if_false, Result.andThen_ok, Sem.run_pure]
  rw [fnd_mv]

theorem setObj_kp {w : World} {b : Nat} {o : Obj} {F : Nat → Prop} (hb : F b) : Kp w F { w with heap := w.heap.setIfInBounds b o } := by
  refine ⟨rfl, rfl, rfl, by simp, fun i hi hn => ?_⟩
  have hib : b ≠ i := fun h => hn (h ▸ hb)
  simp [Array.getElem?_setIfInBounds, hib]
theorem setObj_at {w : World} {b : Nat} {o o' : Obj} (h : w.heap[b]? = some o') : ({ w with heap := w.heap.setIfInBounds b o } : World).heap[b]? = some o := by
  have := lt_of_heap h
  simp [Array.getElem?_setIfInBounds, this]

theorem mset_mem {es : List (Int × Value × Nat)} {k : Int} {v v0 : Value} {j born : Nat} (hok : (es.map (·.1)).Nodup) (hj : es[j]? = some (k, v0, born)) :
    (es.modify j (fun e => (k, v, e.2.2))).map (fun e => (e.1, e.2.1)) = (es.map (fun e => (e.1, e.2.1))).map (fun e => if e.1 == k then (k, v) else e) := by
  apply List.ext_getElem?
  intro i
  simp only [List.getElem?_map, List.getElem?_modify]
  by_cases hij : j = i
  · subst hij; simp [hj]
  · cases he : es[i]? with
    | none => simp [hij]
    | some e =>
      have : e.1 ≠ k := by
        intro hek
        have h1 : (es.map (·.1))[i]? = some k := by simp [he, hek]
        have h2 : (es.map (·.1))[j]? = some k := by simp [hj]
        have hi : i < (es.map (·.1)).length := (List.getElem?_eq_some_iff.1 h1).1
        exact hij ((List.getElem?_inj (List.getElem?_eq_some_iff.1 h2).1 hok).1 (h2.trans h1.symm))
      simp [hij, this]

theorem op_mapUpdate {t kt e b : Nat} {kk : IntKind} {x y z : Operand} {m : List (Int × Value)} {k : Int} {v : Value} {w0 w : World} {M : Nat → Prop} {H H' : List It} [ht : TMp P t kt e] [hk : TIn P kt kk]
    (hx : ev l x = some (.map (some b))) (hy : ev l y = some (.int .i64 k)) (hz : ev l z = some v) (hH : HS w0 M H w) (hr : Rp H (mp b m) (mp b (mset m k v)) H') :
    Op1 P N l ⟨d, .mapUpdate t x y z, T, pos, af, g⟩ w (fun _ w' => HS w0 M H' w') := by
  intro a hA K Q hK
  obtain ⟨R, p, _⟩ := hr.split
  obtain ⟨F, es, clock, rfl, hok, h3, h4⟩ := hH.sat (p.symm.subset (List.mem_cons_self))
  unfold Oper.wp
  simp only [execOp, hA.ev hx, hA.ev hy, hA.ev hz, Instr.mapUpdate, Sem.run_bind, run_underlying ht.eq, Result.andThen_ok, run_getObj_map h4, run_checkKey, run_findKey]
  cases hf : fnd k es 0 with
  | some q =>
    obtain ⟨j, v0⟩ := q
    obtain ⟨_, born, hj⟩ := fnd_some k es 0 j v0 hf
    simp only [Nat.sub_zero] at hj
    have hkey : (((es.map mkE).toArray[j]?).map (·.key)).getD (.int .i64 k) = .int .i64 k := by simp [hj, mkE]
    have hkts : (Instr.keyThatStays (.int .i64 k) (.int .i64 k)).run P w = .ok (.int .i64 k) w := by simp [Instr.keyThatStays, Instr.sameBits]
    have hmod : ((es.map mkE).toArray.modify j fun e => { e with key := .int .i64 k, val := v }) = ((es.modify j (fun e => (k, v, e.2.2))).map mkE).toArray := by
      apply Array.ext'
      simp only [Array.toList_modify]
      apply List.ext_getElem?
      intro i
      simp only [List.getElem?_map, List.getElem?_modify]
      by_cases hij : j = i
      · subst hij; simp [hj, mkE]
      · simp [hij]
    have hkey' : (Option.map (fun x : MapEntry => x.key) ((List.map mkE es).toArray)[j]?).getD (Value.int IntKind.i64 k) = Value.int IntKind.i64 k := hkey
    simp only [Sem.run_bind, hkey', hkts, Result.andThen_ok, run_setObj_map h4, Oper.upon, hmod, Sem.run_pure]
    refine hK undef _ (hH.turn hr fun F' hF' => ⟨setObj_kp ((by obtain ⟨_, _, _, _, h, _⟩ := hF'; exact (h b).2 rfl)), F', ⟨es.modify j (fun e => (k, v, e.2.2)), clock, ?_, ⟨?_, ?_, ?_⟩, by obtain ⟨_, _, _, _, h, _⟩ := hF'; exact h, setObj_at h4⟩, fun b hb => .inr hb⟩)
    · have hs : (mv (es.map (fun e => (e.1, e.2.1))) k).isSome = true := by rw [← fnd_mv k es 0, hf]; rfl
      rw [mset, if_pos hs]
      exact mset_mem hok.keys hj
    · have e1 : (es.modify j (fun e => (k, v, e.2.2))).map (·.1) = es.map (·.1) := by
        apply List.ext_getElem?
        intro i
        simp only [List.getElem?_map, List.getElem?_modify]
        by_cases hij : j = i
        · subst hij; simp [hj]
        · simp [hij]
      rw [e1]; exact hok.keys
    · have e1 : (es.modify j (fun e => (k, v, e.2.2))).map (·.2.2) = es.map (·.2.2) := by
        apply List.ext_getElem?
        intro i
        simp only [List.getElem?_map, List.getElem?_modify]
        by_cases hij : j = i
        · subst hij; simp [hj]
        · simp [hij]
      rw [e1]; exact hok.borns
    · intro e he
      obtain ⟨i, hi⟩ := List.getElem?_of_mem he
      simp only [List.getElem?_modify] at hi
      by_cases hij : j = i
      · subst hij
        simp [hj] at hi
        subst hi
        exact hok.lt (k, v0, born) (List.mem_of_getElem? hj)
      · simp [hij] at hi
        exact hok.lt _ (List.mem_of_getElem? hi)
  | none =>
    have hne := fnd_none k es 0 hf
    have hpush : ((es.map mkE).toArray.push { key := .int .i64 k, val := v, born := clock }) = ((es ++ [(k, v, clock)]).map mkE).toArray := by simp [mkE]
    simp only [run_setObj_map h4, Result.andThen_ok, Oper.upon, hpush, Sem.run_pure]
    refine hK undef _ (hH.turn hr fun F' hF' => ⟨setObj_kp ((by obtain ⟨_, _, _, _, h, _⟩ := hF'; exact (h b).2 rfl)), F', ⟨es ++ [(k, v, clock)], clock + 1, ?_, ⟨?_, ?_, ?_⟩, by obtain ⟨_, _, _, _, h, _⟩ := hF'; exact h, setObj_at h4⟩, fun b hb => .inr hb⟩)
    · have hs : ¬ (mv (es.map (fun e => (e.1, e.2.1))) k).isSome = true := by rw [← fnd_mv k es 0, hf]; simp
      rw [mset, if_neg hs]
      simp
    · rw [List.map_append, List.nodup_append]
      refine ⟨hok.keys, by simp, fun x hx y hy => ?_⟩
      obtain ⟨e, he, rfl⟩ := List.mem_map.1 hx
      simp at hy; subst hy
      exact hne e he
    · rw [List.map_append, List.nodup_append]
      refine ⟨hok.borns, by simp, fun x hx y hy => ?_⟩
      obtain ⟨e, he, rfl⟩ := List.mem_map.1 hx
      simp at hy; subst hy
      exact Nat.ne_of_lt (hok.lt e he)
    · intro e he
      rcases List.mem_append.1 he with he | he
      · have := hok.lt e he; omega
      · simp at he; subst he; exact Nat.lt_succ_self _

theorem eraseIdx_map' {α β : Type} (f : α → β) : ∀ (l : List α) (j : Nat), (l.map f).eraseIdx j = (l.eraseIdx j).map f
  | [], j => rfl
  | x :: l, 0 => rfl
  | x :: l, j + 1 => by simp [eraseIdx_map' f l j]
theorem eraseIdx_fnd {es : List (Int × Value × Nat)} {k : Int} {j born : Nat} {v : Value} (hok : (es.map (·.1)).Nodup) (hj : es[j]? = some (k, v, born)) : es.eraseIdx j = es.filter (fun e => !(e.1 == k)) := by
  induction es generalizing j with
  | nil => simp at hj
  | cons e es ih =>
    simp only [List.map_cons, List.nodup_cons] at hok
    cases j with
    | zero =>
      obtain rfl : e = (k, v, born) := by simpa using hj
      simp only [List.eraseIdx_cons_zero, List.filter_cons, BEq.rfl, Bool.not_true, Bool.false_eq_true, if_false]
      refine (List.filter_eq_self.2 fun e' he' => ?_).symm
      have : e'.1 ≠ k := fun h => hok.1 (h ▸ List.mem_map.2 ⟨e', he', rfl⟩)
      simpa using this
    | succ j =>
      have hj' : es[j]? = some (k, v, born) := by simpa using hj
      have : e.1 ≠ k := fun h => hok.1 (h ▸ List.mem_map.2 ⟨_, List.mem_of_getElem? hj', rfl⟩)
      have h1 : (e.1 == k) = false := by simpa using this
      simp only [List.eraseIdx_cons_succ, List.filter_cons, h1, Bool.not_false, if_true]
      rw [ih hok.2 hj']
theorem mdel_map (es : List (Int × Value × Nat)) (k : Int) : (es.filter (fun e => !(e.1 == k))).map (fun e => (e.1, e.2.1)) = mdel (es.map (fun e => (e.1, e.2.1))) k := by
  simp [mdel, List.filter_map, Function.comp_def]
theorem EsOk.filter {es : List (Int × Value × Nat)} {clock : Nat} (h : EsOk es clock) (p : Int × Value × Nat → Bool) : EsOk (es.filter p) clock :=
  ⟨h.keys.sublist ((List.filter_sublist).map _), h.borns.sublist ((List.filter_sublist).map _), fun e he => h.lt e (List.mem_filter.1 he).1⟩

/-- delete(m, k) -/
theorem op_delete {t kt e b : Nat} {kk : IntKind} {x y : Operand} {u : TypeId} {m : List (Int × Value)} {k : Int} {w0 w : World} {M : Nat → Prop} {H H' : List It} [ht : TMp P t kt e] [hk : TIn P kt kk]
    (hx : ev l x = some (.map (some b))) (hy : ev l y = some (.int .i64 k)) (hH : HS w0 M H w) (hr : Rp H (mp b m) (mp b (mdel m k)) H') :
    Op1 P N l ⟨d, .call ⟨.builtin .delete, #[x, y], #[t, u]⟩, T, pos, af, g⟩ w (fun v w' => v = .tuple #[] ∧ HS w0 M H' w') := by
  intro a hA K Q hK
  obtain ⟨R, p, _⟩ := hr.split
  obtain ⟨F, es, clock, rfl, hok, h3, h4⟩ := hH.sat (p.symm.subset (List.mem_cons_self))
  unfold Oper.wp
  simp only [execOp, resolve, invoke, builtin, List.map_toArray, List.map_cons, List.map_nil, hA.ev hx, hA.ev hy, Builtin.delete_, Sem.run_bind, Sem.run_pure, Result.andThen_ok, List.getElem?_toArray, List.getElem?_cons_zero, List.getElem?_cons_succ,
    run_underlying ht.eq, run_getObj_map h4, run_checkKey, run_findKey]
  cases hf : fnd k es 0 with
  | some q =>
    obtain ⟨j, v0⟩ := q
    obtain ⟨_, born, hj⟩ := fnd_some k es 0 j v0 hf
    simp only [Nat.sub_zero] at hj
    have hlt : j < es.length := (List.getElem?_eq_some_iff.1 hj).1
    have herase : (es.map mkE).toArray.eraseIdxIfInBounds j = ((es.filter (fun e => !(e.1 == k))).map mkE).toArray := by
      apply Array.ext'
      rw [← eraseIdx_fnd hok.keys hj]
      simp [Array.eraseIdxIfInBounds, hlt, eraseIdx_map']
    simp only [Sem.run_bind, run_setObj_map h4, Result.andThen_ok, herase, Sem.run_pure, Oper.upon]
    exact hK _ _ ⟨rfl, hH.turn hr fun F' hF' => ⟨setObj_kp ((by obtain ⟨_, _, _, _, h, _⟩ := hF'; exact (h b).2 rfl)), F', ⟨_, clock, mdel_map es k, hok.filter _, by obtain ⟨_, _, _, _, h, _⟩ := hF'; exact h, setObj_at h4⟩, fun b hb => .inr hb⟩⟩
  | none =>
    have hne := fnd_none k es 0 hf
    have hself : mdel (es.map (fun e => (e.1, e.2.1))) k = es.map (fun e => (e.1, e.2.1)) := by
      unfold mdel
      refine List.filter_eq_self.2 fun e he => ?_
      obtain ⟨e', he', rfl⟩ := List.mem_map.1 he
      simpa using hne e' he'
    simp only [Sem.run_bind, run_setObj_map h4, Result.andThen_ok, Sem.run_pure, Oper.upon]
    exact hK _ _ ⟨rfl, hH.turn hr fun F' hF' => ⟨setObj_kp ((by obtain ⟨_, _, _, _, h, _⟩ := hF'; exact (h b).2 rfl)), F', ⟨es, clock, hself.symm, hok, by obtain ⟨_, _, _, _, h, _⟩ := hF'; exact h, setObj_at h4⟩, fun b hb => .inr hb⟩⟩

theorem op_makeMap {t : Nat} {w0 w : World} {M : Nat → Prop} {H : List It} (hH : HS w0 M H w) :
    Op1 P N l ⟨d, .makeMap t none, T, pos, af, g⟩ w (fun v w' => ∃ b, v = .map (some b) ∧ HS w0 M (mp b [] :: H) w') := by
  intro a hA K Q hK
  unfold Oper.wp
  simp only [execOp, Instr.makeMap, Option.map_none, Sem.run_bind, Sem.run_pure, run_newObj, World.alloc_eq, Result.andThen_ok, Oper.upon]
  exact hK _ _ ⟨w.heap.size, rfl, hH.come (alloc_kp w _) (F' := fun x => x = w.heap.size) ⟨[], 0, rfl, ⟨by simp, by simp, by simp⟩, fun x => Iff.rfl, heap_alloc_new w _⟩ fun b hb => by omega⟩

theorem ex_makeFunc {fn : Fn} {first captured : Array Operand} {fs cs : List Value} (hf : evL l first.toList = some fs) (hc : evL l captured.toList = some cs) :
    Ex P N l C ⟨d, .makeFunc fn first captured, T, pos, af, g⟩ (.func fn fs.toArray cs.toArray) := by
  intro a w hA _
  have e1 : first.map a.eval = fs.toArray := by
    have := hA.evL hf
    apply Array.ext'
    simpa using this
  have e2 : captured.map a.eval = cs.toArray := by
    have := hA.evL hc
    apply Array.ext'
    simpa using this
  simp only [execOp, Instr.makeFunc, e1, e2, Sem.run_bind, Sem.run_pure, Result.andThen_ok]

/-! ## ranging over a map -/
/-- who goes through map b; seen: whom he met -/
def itr (r b clock : Nat) (seen : List Nat) : It := blk r (.mapIter (some b) clock seen.toArray clock)
theorem op_range {t kt e b clock : Nat} {es : List (Int × Value × Nat)} {x : Operand} {w0 w : World} {M : Nat → Prop} {H : List It} [ht : TMp P t kt e] (hx : ev l x = some (.map (some b))) (hH : HS w0 M H w) (hm : mpO b es clock ∈ H) :
    Op1 P N l ⟨d, .range t x, T, pos, af, g⟩ w (fun v w' => ∃ r, v = .pointer (some (bat r 0)) ∧ HS w0 M (itr r b clock [] :: H) w') := by
  intro a hA K Q hK
  obtain ⟨F, h3, h4⟩ := hH.sat hm
  unfold Oper.wp
  simp only [execOp, hA.ev hx, Instr.range, Sem.run_bind, run_underlying ht.eq, Result.andThen_ok, run_getObj_map h4, Sem.run_pure, run_newObj, World.alloc_eq, Oper.upon]
  exact hK _ _ ⟨w.heap.size, rfl, hH.come_blk _⟩
theorem run_getObj_iter {w : World} {r : Nat} {o : Option Nat} {s st : Nat} {seen : Array Nat} (h : w.heap[r]? = some (.mapIter o s seen st)) : (getObj r).run P w = .ok (.mapIter o s seen st) w := by
  simp [getObj, Sem.run, h]
theorem run_setObj_iter {w : World} {r : Nat} {o : Option Nat} {s st : Nat} {seen : Array Nat} (h : w.heap[r]? = some (.mapIter o s seen st)) (x : Obj) : (setObj r x).run P w = .ok () { w with heap := w.heap.setIfInBounds r x } := by
  simp [setObj, Sem.run, h]

theorem op_next {r b clock : Nat} {seen : List Nat} {es : List (Int × Value × Nat)} {x : Operand} {w0 w : World} {M : Nat → Prop} {H : List It}
    (hx : ev l x = some (.pointer (some (bat r 0)))) (hH : HS w0 M H w) (hi : itr r b clock seen ∈ H) (hm : mpO b es clock ∈ H) (hok : EsOk es clock) :
    Op1 P N l ⟨d, .next x false, T, pos, af, g⟩ w (fun v w' =>
      ((∀ e ∈ es, e.2.2 ∈ seen) ∧ v = .tuple #[.bool false] ∧ HS w0 M H w') ∨
      (∃ e ∈ es, e.2.2 ∉ seen ∧ v = .tuple #[.bool true, .int .i64 e.1, e.2.1] ∧ ∀ H', Rp H (itr r b clock seen) (itr r b clock (seen ++ [e.2.2])) H' → HS w0 M H' w')) := by
  intro a hA K Q hK
  obtain ⟨F, h3, h4⟩ := hH.sat hm
  obtain ⟨F2, h5, h6⟩ := hH.sat hi
  have hcheck : (!seen.toArray.isEmpty && !(es.map mkE).toArray.isEmpty && (es.map mkE).toArray.all (fun x => decide (x.born ≥ clock))) = false := by
    cases hes : es with
    | nil => simp
    | cons e es' =>
      have := hok.lt e (by simp [hes])
      simp [mkE]
      intro _ hle
      omega
  have hleft : ((es.map mkE).toArray.filter (fun e => !seen.toArray.contains e.born)) = ((es.filter (fun e => !seen.contains e.2.2)).map mkE).toArray := by
    apply Array.ext'
    simp [List.filter_map, Function.comp_def, mkE]
    rfl
  have hold : ((((es.filter (fun e => !seen.contains e.2.2)).map mkE).toArray).filter (fun x => decide (x.born < clock))) = ((es.filter (fun e => !seen.contains e.2.2)).map mkE).toArray := by
    rw [Array.filter_eq_self]
    intro x hx
    simp only [List.mem_toArray, List.mem_map] at hx
    obtain ⟨e, he, rfl⟩ := hx
    exact decide_eq_true (hok.lt e (List.mem_filter.1 he).1)
  have hnew : ((((es.filter (fun e => !seen.contains e.2.2)).map mkE).toArray).filter (fun x => decide (x.born ≥ clock))) = #[] := by
    rw [Array.filter_eq_empty_iff]
    intro x hx
    simp only [List.mem_toArray, List.mem_map] at hx
    obtain ⟨e, he, rfl⟩ := hx
    have := hok.lt e (List.mem_filter.1 he).1
    simp [mkE]; omega
  unfold Oper.wp
  simp only [execOp, hA.ev hx, bat, Instr.next, Sem.run_bind, run_getObj_iter h6, Result.andThen_ok, run_getObj_map h4, hcheck, Bool.false_eq_true, if_false, hleft, hold, hnew, Sem.run_pure, Array.append_empty]
  generalize hL : es.filter (fun e => !seen.contains e.2.2) = L
  have hLm : ∀ e, e ∈ L → e ∈ es ∧ e.2.2 ∉ seen := fun e he => by
    rw [← hL] at he
    have := List.mem_filter.1 he
    exact ⟨this.1, by simpa using this.2⟩
  cases L with
  | nil =>
    have hall : ∀ e ∈ es, e.2.2 ∈ seen := fun e he => by
      have := List.filter_eq_nil_iff.1 hL e he
      simpa using this
    simp only [List.map_nil, Array.map_empty, Array.isEmpty_empty, if_true, Array.append_empty]
    simp [Question.forced, run_choose]
    simp only [Oper.upon]
    exact hK _ _ (.inl ⟨hall, rfl, hH⟩)
  | cons e0 L' =>
    have hne : ((List.map mkE (e0 :: L')).toArray).isEmpty = false := by simp
    simp only [hne, Bool.false_eq_true, if_false]
    have hch : ∀ n : Nat, 0 < n → ∃ i w1, i < n ∧ (choose (.mapNext n)).run P w = .ok i w1 ∧ w1.heap = w.heap ∧ Kp w noM w1 := by
      intro n hn
      by_cases hf : n ≤ 1
      · refine ⟨0, w, hn, ?_, rfl, Kp.refl _ _⟩
        simp [run_choose, Question.forced, hf]
      · refine ⟨(Question.mapNext n).cut (w.tape w.drawn (.mapNext n)), w.drew, by simpa [Question.cut] using Nat.mod_lt _ hn, ?_, rfl, Kp.drew _ _⟩
        simp [run_choose, Question.forced, hf]
    obtain ⟨i, w1, hi1, hrun, hheap, hkp⟩ := hch (#[] ++ ((List.map mkE (e0 :: L')).toArray.map some)).size (by simp)
    simp only [hrun, Result.andThen_ok]
    have hi2 : i < (e0 :: L').length := by simpa using hi1
    have hget : (#[] ++ ((List.map mkE (e0 :: L')).toArray.map some))[i]? = some (some (mkE (e0 :: L')[i])) := by
      have : (List.map (some ∘ mkE) (e0 :: L'))[i]? = some (some (mkE (e0 :: L')[i])) := by rw [List.getElem?_map, List.getElem?_eq_getElem hi2]; rfl
      simpa using this
    simp only [hget]
    obtain ⟨he1, he2⟩ := hLm _ (List.getElem_mem hi2)
    have h6' : w1.heap[r]? = some (.mapIter (some b) clock seen.toArray clock) := by rw [hheap]; exact h6
    simp only [Sem.run_bind, run_setObj_iter h6', Result.andThen_ok, Sem.run_pure, Oper.upon]
    refine hK _ _ (.inr ⟨_, he1, he2, rfl, fun H' hrp => ?_⟩)
    refine (hH.keep hkp).turn hrp fun F' hF' => ⟨setObj_kp ((hF'.1 r).2 rfl), F', ⟨hF'.1, ?_⟩, fun b hb => .inr hb⟩
    have := setObj_at (o := .mapIter (some b) clock (seen.toArray.push (mkE (e0 :: L')[i]).born) clock) h6'
    simpa [mkE] using this

theorem ex_entry {r b clock : Nat} {seen : List Nat} {es : List (Int × Value × Nat)} {x : Operand} {e : Int × Value × Nat} {w0 : World} {M : Nat → Prop} {H : List It}
    (hx : ev l x = some (.pointer (some (bat r 0)))) (hi : itr r b clock (seen ++ [e.2.2]) ∈ H) (hm : mpO b es clock ∈ H) (hok : (es.map (·.2.2)).Nodup) (he : e ∈ es) :
    Ex P N l (HS w0 M H) ⟨d, .entry x, T, pos, af, g⟩ (.tuple #[.int .i64 e.1, e.2.1]) := by
  intro a w hA hH
  obtain ⟨F, h3, h4⟩ := hH.sat hm
  obtain ⟨F2, h5, h6⟩ := hH.sat hi
  have hf : (es.map mkE).toArray.find? (fun x => x.born == e.2.2) = some (mkE e) := by
    rw [List.find?_toArray, List.find?_map, Option.map_eq_some_iff]
    refine ⟨e, ?_, rfl⟩
    simp only [Function.comp_def, mkE]
    clear h4 hm h3
    induction es with
    | nil => simp at he
    | cons e' es ih =>
      simp only [List.map_cons, List.nodup_cons] at hok
      rw [List.find?_cons]
      rcases List.mem_cons.1 he with rfl | he'
      · simp
      · have hne : e'.2.2 ≠ e.2.2 := fun h => hok.1 (h ▸ List.mem_map.2 ⟨e, he', rfl⟩)
        have hb : (e'.2.2 == e.2.2) = false := by simpa using hne
        simp only [hb]
        exact ih hok.2 he'
  simp only [execOp, hA.ev hx, bat, Instr.entry, Sem.run_bind, run_getObj_iter h6, Result.andThen_ok]
  have hb : (seen ++ [e.2.2]).toArray.back? = some e.2.2 := by simp
  simp only [hb, Sem.run_bind, run_getObj_map h4, Result.andThen_ok]
  simp [hf, mkE]

/-! ## maps from ints to ints -/
def encM (m : List (Int × Int)) : List (Int × Value) := m.map fun p => (p.1, .int .i64 p.2)
def mpI (b : Nat) (m : List (Int × Int)) : It := mp b (encM m)
def lkI (m : List (Int × Int)) (k : Int) : Option Int := (m.find? (fun e => e.1 == k)).map (·.2)
def setI (m : List (Int × Int)) (k v : Int) : List (Int × Int) := if (lkI m k).isSome then m.map (fun e => if e.1 == k then (k, v) else e) else m ++ [(k, v)]
def delI (m : List (Int × Int)) (k : Int) : List (Int × Int) := m.filter (fun e => !(e.1 == k))
theorem mv_encM (m : List (Int × Int)) (k : Int) : mv (encM m) k = (lkI m k).map (.int .i64) := by
  simp [mv, encM, lkI, List.find?_map, Function.comp_def]
theorem mset_encM (m : List (Int × Int)) (k v : Int) : mset (encM m) k (.int .i64 v) = encM (setI m k v) := by
  unfold mset setI
  rw [mv_encM, Option.isSome_map]
  split
  · simp only [encM, List.map_map]
    apply List.map_congr_left
    intro e he
    simp only [Function.comp_def]
    split <;> rfl
  · simp [encM]
theorem mdel_encM (m : List (Int × Int)) (k : Int) : mdel (encM m) k = encM (delI m k) := by
  simp [mdel, encM, delI, List.filter_map, Function.comp_def]
theorem getD_encM (m : List (Int × Int)) (k : Int) : (mv (encM m) k).getD (.int .i64 0) = .int .i64 ((lkI m k).getD 0) := by
  rw [mv_encM]; cases lkI m k <;> rfl
theorem ex_lookupI_ok {t kt e sz by_ b : Nat} {kk : IntKind} {zs : List Value} {x y : Operand} {m : List (Int × Int)} {k : Int} {w0 : World} {M : Nat → Prop} {H : List It} [ht : TMp P t kt e] [hk : TIn P kt kk] [hi : TIf P e (.int .i64 0) zs sz by_]
    (hx : ev l x = some (.map (some b))) (hy : ev l y = some (.int .i64 k)) (hm : mpI b m ∈ H) : Ex P N l (HS w0 M H) ⟨d, .lookup t x y true, T, pos, af, g⟩ (.tuple #[.int .i64 ((lkI m k).getD 0), .bool (lkI m k).isSome]) := by
  have := ex_lookup_ok (P := P) (N := N) (l := l) (d := d) (T := T) (pos := pos) (af := af) (g := g) (t := t) (w0 := w0) (M := M) hx hy hm
  rw [getD_encM, mv_encM, Option.isSome_map] at this
  exact this
theorem ex_lookupI {t kt e sz by_ b : Nat} {kk : IntKind} {zs : List Value} {x y : Operand} {m : List (Int × Int)} {k : Int} {w0 : World} {M : Nat → Prop} {H : List It} [ht : TMp P t kt e] [hk : TIn P kt kk] [hi : TIf P e (.int .i64 0) zs sz by_]
    (hx : ev l x = some (.map (some b))) (hy : ev l y = some (.int .i64 k)) (hm : mpI b m ∈ H) : Ex P N l (HS w0 M H) ⟨d, .lookup t x y false, T, pos, af, g⟩ (.int .i64 ((lkI m k).getD 0)) := by
  have := ex_lookup (P := P) (N := N) (l := l) (d := d) (T := T) (pos := pos) (af := af) (g := g) (t := t) (w0 := w0) (M := M) hx hy hm
  rw [getD_encM] at this
  exact this
theorem op_makeMapI {t : Nat} {w0 w : World} {M : Nat → Prop} {H : List It} (hH : HS w0 M H w) :
    Op1 P N l ⟨d, .makeMap t none, T, pos, af, g⟩ w (fun v w' => ∃ b, v = .map (some b) ∧ HS w0 M (mpI b [] :: H) w') := op_makeMap hH
theorem op_mapUpdateI {t kt e b : Nat} {kk : IntKind} {x y z : Operand} {m : List (Int × Int)} {k v : Int} {w0 w : World} {M : Nat → Prop} {H H' : List It} [ht : TMp P t kt e] [hk : TIn P kt kk]
    (hx : ev l x = some (.map (some b))) (hy : ev l y = some (.int .i64 k)) (hz : ev l z = some (.int .i64 v)) (hH : HS w0 M H w) (hr : Rp H (mpI b m) (mpI b (setI m k v)) H') :
    Op1 P N l ⟨d, .mapUpdate t x y z, T, pos, af, g⟩ w (fun _ w' => HS w0 M H' w') := by
  unfold mpI at hr
  rw [← mset_encM] at hr
  exact op_mapUpdate hx hy hz hH hr
theorem op_deleteI {t kt e b : Nat} {kk : IntKind} {x y : Operand} {u : TypeId} {m : List (Int × Int)} {k : Int} {w0 w : World} {M : Nat → Prop} {H H' : List It} [ht : TMp P t kt e] [hk : TIn P kt kk]
    (hx : ev l x = some (.map (some b))) (hy : ev l y = some (.int .i64 k)) (hH : HS w0 M H w) (hr : Rp H (mpI b m) (mpI b (delI m k)) H') :
    Op1 P N l ⟨d, .call ⟨.builtin .delete, #[x, y], #[t, u]⟩, T, pos, af, g⟩ w (fun v w' => v = .tuple #[] ∧ HS w0 M H' w') := by
  unfold mpI at hr
  rw [← mdel_encM] at hr
  exact op_delete hx hy hH hr
theorem one_cell_of (a b : Nat) {z : Value} {zs : List Value} {by_ : Nat} [hi : TIf P a z zs 1 by_] : ∃ i, P.info? (a, b).1 = some i ∧ i.size = 1 :=
  let ⟨i, h1, _, h3, _⟩ := hi.eq
  ⟨i, h1, h3⟩

/-! ## a map with its entries in sight, from ints to ints -/
def encE (e : Int × Int × Nat) : Int × Value × Nat := (e.1, .int .i64 e.2.1, e.2.2)
structure ElOk (el : List (Int × Int × Nat)) (clock : Nat) : Prop where
  keys : (el.map (·.1)).Nodup
  borns : (el.map (·.2.2)).Nodup
  lt : ∀ e ∈ el, e.2.2 < clock
def mpE (b : Nat) (el : List (Int × Int × Nat)) (clock : Nat) : It := mpO b (el.map encE) clock
theorem ElOk.es {el : List (Int × Int × Nat)} {clock : Nat} (h : ElOk el clock) : EsOk (el.map encE) clock :=
  ⟨by simpa [encE, Function.comp_def] using h.keys, by simpa [encE, Function.comp_def] using h.borns, fun e he => by
    obtain ⟨e', he', rfl⟩ := List.mem_map.1 he
    exact h.lt e' he'⟩
theorem HS.openI {w0 w : World} {M : Nat → Prop} {H : List It} {b : Nat} {m : List (Int × Int)} (h : HS w0 M H w) (hm : mpI b m ∈ H) :
    ∃ el clock, el.map (fun e => (e.1, e.2.1)) = m ∧ ElOk el clock ∧ ∀ H', Rp H (mpI b m) (mpE b el clock) H' → HS w0 M H' w := by
  obtain ⟨F, es, clock, h1, h2, h3⟩ := h.sat hm
  have hel : ∃ el : List (Int × Int × Nat), el.map encE = es ∧ el.map (fun e => (e.1, e.2.1)) = m := by
    clear h2 h3 hm
    induction m generalizing es with
    | nil =>
      obtain rfl : es = [] := by simpa [encM] using h1
      exact ⟨[], rfl, rfl⟩
    | cons p m ih =>
      cases es with
      | nil => simp [encM] at h1
      | cons e es =>
        simp only [encM, List.map_cons, List.cons.injEq, Prod.mk.injEq] at h1
        obtain ⟨el, h4, h5⟩ := ih es h1.2
        refine ⟨(p.1, p.2, e.2.2) :: el, ?_, by simp [h5]⟩
        simp only [List.map_cons, h4, encE]
        rw [← h1.1.1, ← h1.1.2]
  obtain ⟨el, rfl, h5⟩ := hel
  refine ⟨el, clock, h5, ⟨by simpa [encE, Function.comp_def] using h2.keys, by simpa [encE, Function.comp_def] using h2.borns, fun e he => h2.lt (encE e) (List.mem_map.2 ⟨e, he, rfl⟩)⟩, fun H' hr => ?_⟩
  refine h.turn hr fun F' hF' => ⟨Kp.refl _ _, F', ?_, fun b hb => .inr hb⟩
  obtain ⟨es', clock', g1, g2, g3⟩ := hF'
  refine ⟨g3.1, ?_⟩
  exact h3.2
theorem HS.shutI {w0 w : World} {M : Nat → Prop} {H H' : List It} {b clock : Nat} {el : List (Int × Int × Nat)} (h : HS w0 M H w) (hok : ElOk el clock) (hr : Rp H (mpE b el clock) (mpI b (el.map (fun e => (e.1, e.2.1)))) H') : HS w0 M H' w :=
  h.conv hr fun F hF => ⟨el.map encE, clock, by simp [encE, encM], hok.es, hF⟩
theorem ex_lookupE {t kt e sz by_ b clock : Nat} {kk : IntKind} {zs : List Value} {x y : Operand} {el : List (Int × Int × Nat)} {k : Int} {w0 : World} {M : Nat → Prop} {H : List It} [ht : TMp P t kt e] [hk : TIn P kt kk] [hi : TIf P e (.int .i64 0) zs sz by_]
    (hx : ev l x = some (.map (some b))) (hy : ev l y = some (.int .i64 k)) (hm : mpE b el clock ∈ H) : Ex P N l (HS w0 M H) ⟨d, .lookup t x y false, T, pos, af, g⟩ (.int .i64 ((lkI (el.map (fun e => (e.1, e.2.1))) k).getD 0)) := by
  intro a w hA hH
  obtain ⟨F, h3, h4⟩ := hH.sat hm
  simp only [execOp, hA.ev hx, hA.ev hy, Sem.run_bind, run_lookup (t := t) h4, Bool.false_eq_true, if_false, Result.andThen_ok, Sem.run_pure]
  rw [fnd_mv]
  have e1 : (el.map encE).map (fun e => (e.1, e.2.1)) = encM (el.map (fun e => (e.1, e.2.1))) := by simp [encE, encM]
  rw [e1, getD_encM]
/-- m[k] = v, where k is there -/
theorem op_mapUpdateE {t kt e b clock : Nat} {kk : IntKind} {x y z : Operand} {el : List (Int × Int × Nat)} {k v : Int} {w0 w : World} {M : Nat → Prop} {H H' : List It} [ht : TMp P t kt e] [hk : TIn P kt kk]
    (hx : ev l x = some (.map (some b))) (hy : ev l y = some (.int .i64 k)) (hz : ev l z = some (.int .i64 v)) (hH : HS w0 M H w) (hok : ElOk el clock) (hin : k ∈ el.map (·.1))
    (hr : Rp H (mpE b el clock) (mpE b (el.map (fun e => if e.1 = k then (k, v, e.2.2) else e)) clock) H') :
    Op1 P N l ⟨d, .mapUpdate t x y z, T, pos, af, g⟩ w (fun _ w' => HS w0 M H' w') := by
  intro a hA K Q hK
  obtain ⟨R, p, _⟩ := hr.split
  obtain ⟨F, h3, h4⟩ := hH.sat (p.symm.subset (List.mem_cons_self))
  unfold Oper.wp
  simp only [execOp, hA.ev hx, hA.ev hy, hA.ev hz, Instr.mapUpdate, Sem.run_bind, run_underlying ht.eq, Result.andThen_ok, run_getObj_map h4, run_checkKey, run_findKey]
  cases hf : fnd k (el.map encE) 0 with
  | none =>
    obtain ⟨e0, he0, rfl⟩ := List.mem_map.1 hin
    exact absurd rfl (fnd_none _ _ 0 hf (encE e0) (List.mem_map.2 ⟨e0, he0, rfl⟩))
  | some q =>
    obtain ⟨j, v0⟩ := q
    obtain ⟨_, born, hj⟩ := fnd_some k _ 0 j v0 hf
    simp only [Nat.sub_zero] at hj
    have hkey : (Option.map (fun x : MapEntry => x.key) ((List.map mkE (el.map encE)).toArray)[j]?).getD (Value.int IntKind.i64 k) = Value.int IntKind.i64 k := by
      have : ((List.map mkE (el.map encE)).toArray)[j]? = some (mkE (k, v0, born)) := by
        rw [List.getElem?_toArray, List.getElem?_map, hj]; rfl
      rw [this]; rfl
    have hkts : (Instr.keyThatStays (.int .i64 k) (.int .i64 k)).run P w = .ok (.int .i64 k) w := by simp [Instr.keyThatStays, Instr.sameBits]
    have hmod : (((el.map encE).map mkE).toArray.modify j fun e => { e with key := .int .i64 k, val := .int .i64 v }) = (((el.map (fun e => if e.1 = k then (k, v, e.2.2) else e)).map encE).map mkE).toArray := by
      apply Array.ext'
      simp only [Array.toList_modify]
      apply List.ext_getElem?
      intro i
      simp only [List.getElem?_map, List.getElem?_modify] at hj ⊢
      obtain ⟨ej, hej, hej2⟩ := Option.map_eq_some_iff.1 hj
      have hejk : ej.1 = k := by have := congrArg Prod.fst hej2; simpa [encE] using this
      by_cases hij : j = i
      · subst hij
        simp [hej, hejk, encE, mkE]
      · cases hei : el[i]? with
        | none => simp [hij]
        | some ei =>
          have hne : ei.1 ≠ k := by
            intro hek
            have h1 : (el.map (·.1))[i]? = some k := by simp [hei, hek]
            have h2 : (el.map (·.1))[j]? = some k := by simp [hej, hejk]
            exact hij ((List.getElem?_inj (List.getElem?_eq_some_iff.1 h2).1 hok.keys).1 (h2.trans h1.symm))
          simp [hij, hne]
    simp only [Sem.run_bind, hkey, hkts, Result.andThen_ok, run_setObj_map h4, Oper.upon, hmod, Sem.run_pure]
    exact hK undef _ (hH.turn hr fun F' hF' => ⟨setObj_kp ((hF'.1 b).2 rfl), F', ⟨hF'.1, setObj_at h4⟩, fun b hb => .inr hb⟩)
theorem ElOk.upd {el : List (Int × Int × Nat)} {clock : Nat} (h : ElOk el clock) (f : Int × Int × Nat → Int × Int × Nat) (h1 : ∀ e, (f e).1 = e.1) (h2 : ∀ e, (f e).2.2 = e.2.2) : ElOk (el.map f) clock :=
  ⟨by simpa [Function.comp_def, h1] using h.keys, by simpa [Function.comp_def, h2] using h.borns, fun e he => by
    obtain ⟨e', he', rfl⟩ := List.mem_map.1 he
    rw [h2]; exact h.lt e' he'⟩

theorem op_rangeE {t kt e b clock : Nat} {el : List (Int × Int × Nat)} {x : Operand} {w0 w : World} {M : Nat → Prop} {H : List It} [ht : TMp P t kt e] (hx : ev l x = some (.map (some b))) (hH : HS w0 M H w) (hm : mpE b el clock ∈ H) :
    Op1 P N l ⟨d, .range t x, T, pos, af, g⟩ w (fun v w' => ∃ r, v = .pointer (some (bat r 0)) ∧ HS w0 M (itr r b clock [] :: H) w') := op_range hx hH hm
theorem op_nextE {r b clock : Nat} {seen : List Nat} {el : List (Int × Int × Nat)} {x : Operand} {w0 w : World} {M : Nat → Prop} {H : List It}
    (hx : ev l x = some (.pointer (some (bat r 0)))) (hH : HS w0 M H w) (hi : itr r b clock seen ∈ H) (hm : mpE b el clock ∈ H) (hok : ElOk el clock) :
    Op1 P N l ⟨d, .next x false, T, pos, af, g⟩ w (fun v w' =>
      ((∀ e ∈ el, e.2.2 ∈ seen) ∧ v = .tuple #[.bool false] ∧ HS w0 M H w') ∨
      (∃ e ∈ el, e.2.2 ∉ seen ∧ v = .tuple #[.bool true, .int .i64 e.1, .int .i64 e.2.1] ∧ ∀ H', Rp H (itr r b clock seen) (itr r b clock (seen ++ [e.2.2])) H' → HS w0 M H' w')) := by
  intro a hA K Q hK
  refine op_next hx hH hi hm hok.es a hA K Q fun v w' h => hK v w' ?_
  rcases h with ⟨h1, h2, h3⟩ | ⟨e, he, h1, h2, h3⟩
  · exact .inl ⟨fun e he => h1 (encE e) (List.mem_map.2 ⟨e, he, rfl⟩), h2, h3⟩
  · obtain ⟨e', he', rfl⟩ := List.mem_map.1 he
    exact .inr ⟨e', he', h1, h2, h3⟩
theorem ex_entryE {r b clock : Nat} {seen : List Nat} {el : List (Int × Int × Nat)} {x : Operand} {e : Int × Int × Nat} {w0 : World} {M : Nat → Prop} {H : List It}
    (hx : ev l x = some (.pointer (some (bat r 0)))) (hi : itr r b clock (seen ++ [e.2.2]) ∈ H) (hm : mpE b el clock ∈ H) (hok : ElOk el clock) (he : e ∈ el) :
    Ex P N l (HS w0 M H) ⟨d, .entry x, T, pos, af, g⟩ (.tuple #[.int .i64 e.1, .int .i64 e.2.1]) :=
  ex_entry (e := encE e) hx hi hm hok.es.borns (List.mem_map.2 ⟨e, he, rfl⟩)
end
end Go.Fw
