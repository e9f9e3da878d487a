/-
  The frame for walks, fourth part: calls, code, loops, regions that draw their order. It names no program. Conditions: none.
-/
import Derived.Test.YtejpcidfigmnkaaFw3
import Derived.Deep.RegionHeld3
namespace Go.Fw
open Go Go.RowKit
set_option linter.unusedVariables false

/-! ## calls -/
/-- the call returns, and R holds of what it returns -/
def Ret (P : Program) (k : FuncId) (args : Array Value) (w : World) (R : Value → World → Prop) : Prop :=
  Calls P k args w fun e w' => ∃ v, e = .returned v ∧ R v w'
theorem Ret.mono {P : Program} {k : FuncId} {args : Array Value} {w : World} {R R' : Value → World → Prop} (h : Ret P k args w R) (hr : ∀ v w', R v w' → R' v w') : Ret P k args w R' :=
  Calls.mono h fun e w' ⟨v, he, hR⟩ => ⟨v, he, hr v w' hR⟩

class FnB (P : Program) (k : FuncId) : Prop where
  eq : ∃ fn, P.funcs[k]? = some fn ∧ fn.body.isSome = true ∧ (fn.name == "runtime.NumGoroutine") = false

section
variable {P : Program} {N : Nat} {l : List (Nat × Value)} {a : Act} {w : World} {d : Option Tmp} {T : TypeId} {pos : String} {af : Array Edge} {g : Option (Nat × Bool)}

theorem op_call {f : Operand} {k : FuncId} {first captured args A : Array _} {ats : Array TypeId} {vs : List Value} {R : Value → World → Prop} [hk : FnB P k]
    (hf : ev l f = some (.func (.func k) first captured)) (hv : evL l args.toList = some vs) (hA' : first ++ vs.toArray ++ captured = A) (h : Ret P k A w R) :
    Op1 P N l ⟨d, .call ⟨.value f, args, ats⟩, T, pos, af, g⟩ w R := by
  intro a hA K Q hK
  subst hA'
  obtain ⟨fn, h1, h2, h3⟩ := hk.eq
  have hvs : args.map a.eval = vs.toArray := by
    have := hA.evL hv
    apply Array.ext'
    simpa using this
  have h2' : fn.body.isNone = false := by cases hb : fn.body <;> simp_all
  unfold Oper.wp
  simp only [execOp, resolve, hvs, hA.ev hf, Deferred.ofValue, Sem.run_bind, Sem.run_pure, Result.andThen_ok, invoke, callFunc, run_program, h1, h3, h2', Bool.false_eq_true, if_false, Oper.upon]
  refine Calls.mono h fun e w' ⟨v, he, hR⟩ => ?_
  subst he
  exact hK v w' hR
end

/-! ## code -/
section
variable {P : Program} {N : Nat} {l : List (Nat × Value)} {a : Act} {w : World} {K : Act → World → Prop} {Q : Exit → Act → World → Prop}
theorem then_normal (h : K a w) : Exit.then K Q .normal a w := h
theorem then_ret (h : Q .ret a w) : Exit.then K Q .ret a w := h
theorem then_exit {i : Nat} (h : Q (.exit i) a w) : Exit.then K Q (.exit i) a w := h
theorem inB_normal {i : Nat} (h : Q .normal a w) : Exit.inBlock i Q .normal a w := h
theorem inB_ret {i : Nat} (h : Q .ret a w) : Exit.inBlock i Q .ret a w := h
theorem inB_eq {i : Nat} (h : Q .normal a w) : Exit.inBlock i Q (.exit i) a w := by simpa [Exit.inBlock] using h
theorem inB_ne {i j : Nat} (hij : Nat.beq j i = false) (h : Q (.exit j) a w) : Exit.inBlock i Q (.exit j) a w := by
  have : j ≠ i := fun h => by subst h; simp at hij
  simpa [Exit.inBlock, this] using h
theorem st_nil {ops : Array Oper} (h : Q .normal a w) : wpList P ops Q [] a w := h

theorem st_cond {c : Operand} {x y : Code} {t : Bool} (hA : Sl N l a) (hc : ev l c = some (.bool t)) (h1 : t = true → x.wp P Q a w) (h2 : t = false → y.wp P Q a w) : (Code.cond c x y).wp P Q a w :=
  wp_cond_split (hA.ev hc) h1 h2
theorem st_cond_d {c : Operand} {x y : Code} {p : Prop} [Decidable p] (hA : Sl N l a) (hc : ev l c = some (.bool (decide p))) (h1 : p → x.wp P Q a w) (h2 : ¬ p → y.wp P Q a w) : (Code.cond c x y).wp P Q a w :=
  wp_cond_split (hA.ev hc) (fun h => h1 (of_decide_eq_true h)) (fun h => h2 (of_decide_eq_false h))
theorem st_cond_nd {c : Operand} {x y : Code} {p : Prop} [Decidable p] (hA : Sl N l a) (hc : ev l c = some (.bool (!decide p))) (h1 : ¬ p → x.wp P Q a w) (h2 : p → y.wp P Q a w) : (Code.cond c x y).wp P Q a w :=
  wp_cond_split (hA.ev hc) (fun h => h1 (by simpa using h)) (fun h => h2 (by simpa using h))
theorem st_cond_t {c : Operand} {x y : Code} (hA : Sl N l a) (hc : ev l c = some (.bool true)) (h : x.wp P Q a w) : (Code.cond c x y).wp P Q a w := wp_cond_true (hA.ev hc) h
theorem st_cond_f {c : Operand} {x y : Code} (hA : Sl N l a) (hc : ev l c = some (.bool false)) (h : y.wp P Q a w) : (Code.cond c x y).wp P Q a w := wp_cond_false (hA.ev hc) h

/-- what holds where a piece of code ends normally is enough for what follows -/
theorem st_mid {x y : Code} (R : Act → World → Prop) (h : x.wp P (Exit.then R Q) a w) (k : ∀ a w, R a w → y.wp P Q a w) : (Code.seq x y).wp P Q a w :=
  wp_seq (Code.wp_mono (fun e a w q => by cases e <;> first | exact k a w q | exact q) h)

theorem wp_lp {c : Code} {S : Type} (I : S → Act → World → Prop) (μ : S → Nat) (s : S) (h₀ : I s a w)
    (round : ∀ s a w, I s a w → c.wp P (Exit.then (fun a' w' => ∃ s', I s' a' w' ∧ μ s' < μ s) Q) a w) : (Code.loop c).wp P Q a w := by
  intro b k cs
  have key : ∀ n s a w, μ s = n → I s a w →
      ∃ e a' w', Q e a' w' ∧ Arrives P (lone (b.at a (.code c :: .inLoop c :: k)) cs w) b k cs e a' w' := by
    intro n
    induction n using Nat.strongRecOn with
    | _ n ih =>
      intro s a w hn hI
      obtain ⟨e, a₁, w₁, hq, harr⟩ := round s a w hI b (.inLoop c :: k) cs
      cases e with
      | normal =>
        obtain ⟨s', hI₁, hlt⟩ := hq
        obtain ⟨e₂, a₂, w₂, hq₂, harr₂⟩ := ih (μ s') (hn ▸ hlt) s' a₁ w₁ rfl hI₁
        exact ⟨e₂, a₂, w₂, hq₂, .of_steps (Steps.trans harr (.one step_inLoop)) harr₂⟩
      | exit id => exact ⟨_, a₁, w₁, hq, .pass (x := .inLoop c) rfl (fun _ _ => .inl (by simp)) harr⟩
      | goto l => exact ⟨_, a₁, w₁, hq, .pass (x := .inLoop c) rfl (fun _ _ => .inl (by simp)) harr⟩
      | ret => exact ⟨_, a₁, w₁, hq, .pass (x := .inLoop c) rfl (fun _ _ => .inl (by simp)) harr⟩
      | panic ch => exact ⟨_, a₁, w₁, hq, .pass (x := .inLoop c) rfl (fun _ _ => .inl (by simp)) harr⟩
      | outgrown => exact ⟨_, a₁, w₁, hq, .pass (x := .inLoop c) rfl (fun _ _ => .inl (by simp)) harr⟩
  obtain ⟨e, a', w', hq, harr⟩ := key _ s a w rfl h₀
  exact ⟨e, a', w', hq, .of_steps (.one step_loop) harr⟩

/-! ## in and out -/
def sl0 : Nat → List Value → List (Nat × Value)
  | _, [] => []
  | i, v :: r => (i, v) :: sl0 (i + 1) r
theorem lk_sl0 : ∀ (vs : List Value) (k i : Nat) (v : Value), lk (sl0 k vs) i = some v → k ≤ i ∧ vs[i - k]? = some v
  | [], k, i, v, h => by simp [sl0, lk] at h
  | u :: r, k, i, v, h => by
    simp only [sl0, lk] at h
    by_cases hki : k = i
    · subst hki
      simp at h
      exact ⟨Nat.le_refl _, by simp [h]⟩
    · have hb : Nat.beq k i = false := by
        cases hb : Nat.beq k i with
        | false => rfl
        | true => exact absurd (Nat.eq_of_beq_eq_true hb) hki
      simp only [hb, cond_false] at h
      obtain ⟨h1, h2⟩ := lk_sl0 r (k + 1) i v h
      refine ⟨by omega, ?_⟩
      rw [show i - k = (i - (k + 1)) + 1 by omega]
      simpa using h2

theorem enter {k : FuncId} {fn : Func} {c : Code} {args : List Value} {R : Value → World → Prop} (hf : P.funcs[k]? = some fn) (hb : fn.body = some c) (hn : fn.ntmps = N) (hle0 : Nat.ble args.length N = true)
    (h : ∀ a, Sl N (sl0 0 args) a → c.wp P (bodyPost P fn fun e w' => ∃ v, e = .returned v ∧ R v w') a w) : Ret P k args.toArray w R := by
  have hle := Nat.le_of_ble_eq_true hle0
  refine calls_of_wp hf hb (h _ ⟨rfl, ?_, fun i v hi => ?_⟩)
  · simp [hn]; omega
  · obtain ⟨_, h2⟩ := lk_sl0 args 0 i v hi
    have hlt : i < args.length := (List.getElem?_eq_some_iff.1 h2).1
    rw [Array.getElem?_append_left (by simpa using hlt)]
    simpa using h2

theorem rt1 {fn : Func} {R : Value → World → Prop} {t : Tmp} {v : Value} {e : Exit} (he : e = .ret ∨ e = .normal) (hr : fn.results = #[.tmp t]) (hA : Sl N l a) (hv : lk l t = some v) (h : R v w) :
    bodyPost P fn (fun e w' => ∃ v, e = .returned v ∧ R v w') e a w := by
  have hg : a.tmps.getD t undef = v := by simp [Array.getD_eq_getD_getElem?, hA.get t v hv]
  rcases he with rfl | rfl
  · exact bodyPost_ret (results_tmp hr _ _ _) hA.defers ⟨v, by rw [hg], h⟩
  · exact bodyPost_end (results_tmp hr _ _ _) hA.defers ⟨v, by rw [hg], h⟩
theorem rt2 {fn : Func} {R : Value → World → Prop} {t u : Tmp} {v v2 : Value} {e : Exit} (he : e = .ret ∨ e = .normal) (hr : fn.results = #[.tmp t, .tmp u]) (hA : Sl N l a) (hv : lk l t = some v) (hv2 : lk l u = some v2) (h : R (.tuple #[v, v2]) w) :
    bodyPost P fn (fun e w' => ∃ v, e = .returned v ∧ R v w') e a w := by
  have hg : a.tmps.getD t undef = v := by simp [Array.getD_eq_getD_getElem?, hA.get t v hv]
  have hg2 : a.tmps.getD u undef = v2 := by simp [Array.getD_eq_getD_getElem?, hA.get u v2 hv2]
  rcases he with rfl | rfl
  · exact bodyPost_ret (results_tmp2 hr _ _ _) hA.defers ⟨_, by rw [hg, hg2], h⟩
  · exact bodyPost_end (results_tmp2 hr _ _ _) hA.defers ⟨_, by rw [hg, hg2], h⟩
theorem rt3 {fn : Func} {R : Value → World → Prop} {t u s : Tmp} {v v2 v3 : Value} {e : Exit} (he : e = .ret ∨ e = .normal) (hr : fn.results = #[.tmp t, .tmp u, .tmp s]) (hA : Sl N l a) (hv : lk l t = some v) (hv2 : lk l u = some v2) (hv3 : lk l s = some v3) (h : R (.tuple #[v, v2, v3]) w) :
    bodyPost P fn (fun e w' => ∃ v, e = .returned v ∧ R v w') e a w := by
  have hg : a.tmps.getD t undef = v := by simp [Array.getD_eq_getD_getElem?, hA.get t v hv]
  have hg2 : a.tmps.getD u undef = v2 := by simp [Array.getD_eq_getD_getElem?, hA.get u v2 hv2]
  have hg3 : a.tmps.getD s undef = v3 := by simp [Array.getD_eq_getD_getElem?, hA.get s v3 hv3]
  have hrun : (results fn a.tmps).run P w = .ok (.tuple #[v, v2, v3]) w := by simp [results, hr, ← hg, ← hg2, ← hg3]
  rcases he with rfl | rfl
  · exact bodyPost_ret hrun hA.defers ⟨_, rfl, h⟩
  · exact bodyPost_end hrun hA.defers ⟨_, rfl, h⟩
theorem rt0 {fn : Func} {R : Value → World → Prop} {e : Exit} (he : e = .ret ∨ e = .normal) (hr : fn.results = #[]) (hA : Sl N l a) (h : R (.tuple #[]) w) :
    bodyPost P fn (fun e w' => ∃ v, e = .returned v ∧ R v w') e a w := by
  rcases he with rfl | rfl
  · exact bodyPost_ret (results_none hr _ _ _) hA.defers ⟨_, rfl, h⟩
  · exact bodyPost_end (results_none hr _ _ _) hA.defers ⟨_, rfl, h⟩
end

/-! ## regions that draw their order -/
/-- some operations come last, one behind the other: behind them nothing is asked of the world -/
def aft (ops : Array Oper) (j i : Nat) : Bool := match ops[j]? with
  | some o => o.after.any fun e => Region.binds .any e && Nat.beq e.on i
  | none => false
/-- j comes behind i, by some that have not come -/
def beh (ops : Array Oper) (listed : Array Bool) (i : Nat) : Nat → Nat → Bool
  | 0, j => aft ops j i
  | n + 1, j => aft ops j i || (List.range ops.size).any fun k => !(listed.getD k true) && (aft ops j k && beh ops listed i n k)
def late (ops : Array Oper) (π2 : List Nat) (listed : Array Bool) (i : Nat) : Bool :=
  π2.all fun j => beh ops listed i 3 j
def okL (ops : Array Oper) : List Nat → Array Bool → Bool
  | [], listed => (Region.ready .any ops listed).isEmpty
  | i :: π, listed => decide (Region.ready .any ops listed = [i]) && okL ops π (listed.setIfInBounds i true)
/-- kinds: 0 turns memory, 1 looks at memory, else neither -/
def okD (ops : Array Oper) (π2 : List Nat) : List (Nat × Nat) → Array Bool → Bool
  | [], listed => okL ops π2 listed
  | (i, 0) :: π, listed => decide (Region.ready .any ops listed = [i]) && okD ops π2 π (listed.setIfInBounds i true)
  | (i, 1) :: π, listed => (Region.ready .any ops listed).contains i && Region.free .any ops listed i && late ops π2 listed i && okD ops π2 π (listed.setIfInBounds i true)
  | (i, _ + 2) :: π, listed => (Region.ready .any ops listed).contains i && Region.free .any ops listed i && okD ops π2 π (listed.setIfInBounds i true)

def wk2 (P : Program) (ops : Array Oper) (Q : Exit → Act → World → Prop) : List Nat → Act → World → Prop
  | [], a, w => Q .normal a w
  | i :: π, a, w => wpOp P ops (NoPanic Q) i (fun a' w' => wk2 P ops Q π a' w') a w
def wkD (P : Program) (ops : Array Oper) (S : World → Prop) (Q : Exit → Act → World → Prop) (π2 : List Nat) : List (Nat × Nat) → Act → World → Prop
  | [], a, w => wk2 P ops Q π2 a w
  | (i, 0) :: π, a, w => wpOp P ops (NoPanic Q) i (fun a' w' => S w' ∧ wkD P ops S Q π2 π a' w') a w
  | (i, 1) :: π, a, w => ∃ o v, ops[i]? = some o ∧ YieldsIf P ops S o v a ∧ wkD P ops S Q π2 π (a.put o.dst v) w
  | (i, _ + 2) :: π, a, w => ∃ o v, ops[i]? = some o ∧ YieldsIf P ops (fun _ => True) o v a ∧ wkD P ops S Q π2 π (a.put o.dst v) w

section
variable {P : Program} {ops : Array Oper} {Q : Exit → Act → World → Prop} {md : Region.Mode} {S : World → Prop} {F : Nat → Bool}
/-- whichever comes up; behind those of the first part the world is of the class -/
def wpAnyK (P : Program) (md : Region.Mode) (ops : Array Oper) (Q : Exit → Act → World → Prop) (S : World → Prop) (F : Nat → Bool) : Nat → Array Bool → Act → World → Prop
  | 0, listed, a, w => Region.ready md ops listed = [] ∧ Q .normal a w
  | n + 1, listed, a, w => (Region.ready md ops listed = [] → Q .normal a w) ∧
    ∀ i ∈ Region.ready md ops listed, wpOp P ops Q i (fun a' w' => (F i = true → S w → S w') ∧ wpAnyK P md ops Q S F n (listed.setIfInBounds i true) a' w') a w
theorem wpAnyK.any : ∀ (n : Nat) (listed : Array Bool) (a : Act) (w : World), wpAnyK P md ops Q S F n listed a w → wpAny P md ops Q n listed a w
  | 0, _, _, _, h => h
  | n + 1, _, _, _, h => ⟨h.1, fun i hi => wpOp_mono (fun a' w' h' => wpAnyK.any n _ a' w' h'.2) (h.2 i hi)⟩
def AftP (md : Region.Mode) (ops : Array Oper) (j i : Nat) : Prop := ∃ oj, ops[j]? = some oj ∧ ∃ e ∈ oj.after, Region.binds md e = true ∧ e.on = i
inductive Rch (md : Region.Mode) (ops : Array Oper) (listed : Array Bool) (i : Nat) : Nat → Prop
  | base {j : Nat} : AftP md ops j i → Rch md ops listed i j
  | step {j k : Nat} : listed.getD k true = false → AftP md ops j k → Rch md ops listed i k → Rch md ops listed i j
theorem wpAnyK.first {i : Nat} {o : Oper} {v : Value} (hi : ops[i]? = some o) (hsel : ∀ (j : Nat) (o : Oper) cs b, ops[j]? = some o → o.op ≠ .select cs b) (hQ : ∀ c a w, Q (.panic c) (a.put o.dst v) w → Q (.panic c) a w) :
    ∀ (n : Nat) (listed : Array Bool) (a : Act) (w : World),
      (∀ j, F j = false → Rch md ops listed i j) → (∀ j oj, ops[j]? = some oj → j ≠ i → listed.getD j true = false → (∀ e ∈ oj.after, Region.binds md e = true → e.on ≠ i) → o.apart ops oj = true) →
      i ∈ Region.ready md ops listed → YieldsIf P ops S o v a → S w → wpAnyK P md ops Q S F n (listed.setIfInBounds i true) (a.put o.dst v) w → wpAnyK P md ops Q S F (n + 1) listed a w := by
  intro n
  induction n with
  | zero =>
    intro listed a w _ _ hr hy hS H
    refine ⟨fun h => (by rw [h] at hr; cases hr), fun j hj => ?_⟩
    by_cases hji : j = i
    · subst hji; exact hy.wpOp hi hS ⟨fun _ h => h, H⟩
    · have := ready_mono hj hji
      rw [H.1] at this
      cases this
  | succ n ih =>
    intro listed a w hF hfree hr hy hS H
    refine ⟨fun h => (by rw [h] at hr; cases hr), fun j hj => ?_⟩
    by_cases hji : j = i
    · subst hji; exact hy.wpOp hi hS ⟨fun _ h => h, H⟩
    have h1 := H.2 j (ready_mono hj hji)
    obtain ⟨hjun, oj, hoj, hall⟩ := mem_ready.1 hj
    have h0 := (mem_ready.1 hr).1
    have hnot : ∀ e ∈ oj.after, Region.binds md e = true → e.on ≠ i := by
      intro e he hb heq
      have h1 := hall e he hb
      rw [heq] at h1
      rcases Nat.lt_or_ge i listed.size with h' | h'
      · simp [h'] at h0 h1; rw [h0] at h1; cases h1
      · simp [Array.getElem?_eq_none h'] at h1
    have hnr : ¬ Rch md ops listed i j := by
      intro h9
      cases h9 with
      | base h =>
        obtain ⟨oj', hoj', e, he, hb, heq⟩ := h
        obtain rfl : oj = oj' := by rw [hoj] at hoj'; exact Option.some.inj hoj'
        exact absurd heq (hnot e he hb)
      | step hk h1 h2 =>
        obtain ⟨oj', hoj', e, he, hb, heq⟩ := h1
        obtain rfl : oj = oj' := by rw [hoj] at hoj'; exact Option.some.inj hoj'
        have h9 := hall e he hb
        subst heq
        rw [Array.getD_eq_getD_getElem?] at hk h9
        cases hq : listed[e.on]? with
        | none => rw [hq] at hk; cases hk
        | some bb => rw [hq] at hk h9; simp at hk h9; rw [hk] at h9; cases h9
    have hFj : F j = true := by
      cases hf : F j with
      | true => rfl
      | false =>
        exact (hnr (hF j hf)).elim
    have hF' : ∀ l, F l = false → Rch md ops (listed.setIfInBounds j true) i l := by
      intro l hl
      have h9 := hF l hl
      clear hl
      induction h9 with
      | base h => exact .base h
      | step hk h1 h2 ih9 =>
        refine .step ?_ h1 ih9
        rename_i j9 k9
        have hjk : j ≠ k9 := by
          rintro rfl
          exact hnr h2
        rw [getD_set_ne true hjk]
        exact hk
    have h2 := wpOp_putIf hoj (hfree j oj hoj hji hjun hnot) (fun cs b => hsel i o cs b hi) (fun cs b => hsel j oj cs b hoj) hQ hy h1
    have hfree' : ∀ k ok, ops[k]? = some ok → k ≠ i → (listed.setIfInBounds j true).getD k true = false → (∀ e ∈ ok.after, Region.binds md e = true → e.on ≠ i) → o.apart ops ok = true := by
      intro k ok hk hki hun hno
      refine hfree k ok hk hki ?_ hno
      by_cases hjk : j = k
      · subst hjk; exact hjun
      · rw [getD_set_ne true hjk] at hun; exact hun
    refine wpOp_mono (fun a' w' h3 => ⟨fun _ _ => h3.2.1 hFj hS, ih (listed.setIfInBounds j true) a' w' hF' hfree' (ready_mono hr (Ne.symm hji)) h3.1 (h3.2.1 hFj hS) ?_⟩) h2
    rw [Array.setIfInBounds_comm _ _ hji]
    exact h3.2.2
theorem wpAnyK.firstp {i : Nat} {o : Oper} {v : Value} (hi : ops[i]? = some o) (hsel : ∀ (j : Nat) (o : Oper) cs b, ops[j]? = some o → o.op ≠ .select cs b) (hQ : ∀ c a w, Q (.panic c) (a.put o.dst v) w → Q (.panic c) a w) :
    ∀ (n : Nat) (listed : Array Bool) (a : Act) (w : World),
      (∀ j oj, ops[j]? = some oj → j ≠ i → listed.getD j true = false → (∀ e ∈ oj.after, Region.binds md e = true → e.on ≠ i) → o.apart ops oj = true) →
      i ∈ Region.ready md ops listed → YieldsIf P ops (fun _ => True) o v a → wpAnyK P md ops Q S F n (listed.setIfInBounds i true) (a.put o.dst v) w → wpAnyK P md ops Q S F (n + 1) listed a w := by
  intro n
  induction n with
  | zero =>
    intro listed a w _ hr hy H
    refine ⟨fun h => (by rw [h] at hr; cases hr), fun j hj => ?_⟩
    by_cases hji : j = i
    · subst hji; exact hy.wpOp hi trivial ⟨fun _ h => h, H⟩
    · have := ready_mono hj hji
      rw [H.1] at this
      cases this
  | succ n ih =>
    intro listed a w hfree hr hy H
    refine ⟨fun h => (by rw [h] at hr; cases hr), fun j hj => ?_⟩
    by_cases hji : j = i
    · subst hji; exact hy.wpOp hi trivial ⟨fun _ h => h, H⟩
    have h1 := H.2 j (ready_mono hj hji)
    obtain ⟨hjun, oj, hoj, hall⟩ := mem_ready.1 hj
    have h0 := (mem_ready.1 hr).1
    have hnot : ∀ e ∈ oj.after, Region.binds md e = true → e.on ≠ i := by
      intro e he hb heq
      have h1 := hall e he hb
      rw [heq] at h1
      rcases Nat.lt_or_ge i listed.size with h' | h'
      · simp [h'] at h0 h1; rw [h0] at h1; cases h1
      · simp [Array.getElem?_eq_none h'] at h1
    have h2 := wpOp_putIf hoj (hfree j oj hoj hji hjun hnot) (fun cs b => hsel i o cs b hi) (fun cs b => hsel j oj cs b hoj) hQ hy h1
    have hfree' : ∀ k ok, ops[k]? = some ok → k ≠ i → (listed.setIfInBounds j true).getD k true = false → (∀ e ∈ ok.after, Region.binds md e = true → e.on ≠ i) → o.apart ops ok = true := by
      intro k ok hk hki hun hno
      refine hfree k ok hk hki ?_ hno
      by_cases hjk : j = k
      · subst hjk; exact hjun
      · rw [getD_set_ne true hjk] at hun; exact hun
    refine wpOp_mono (fun a' w' h3 => ⟨h3.2.1, ih (listed.setIfInBounds j true) a' w' hfree' (ready_mono hr (Ne.symm hji)) h3.1 ?_⟩) h2
    rw [Array.setIfInBounds_comm _ _ hji]
    exact h3.2.2
end

theorem aft_spec {ops : Array Oper} {j i : Nat} (h : aft ops j i = true) : AftP .any ops j i := by
  unfold aft at h
  split at h
  · rename_i o ho
    rw [Array.any_eq_true'] at h
    obtain ⟨e, he, h2⟩ := h
    simp only [Bool.and_eq_true] at h2
    exact ⟨o, ho, e, he, h2.1, Nat.eq_of_beq_eq_true h2.2⟩
  · cases h
theorem beh_spec {ops : Array Oper} {listed : Array Bool} {i : Nat} : ∀ (n j : Nat), beh ops listed i n j = true → Rch .any ops listed i j
  | 0, j, h => .base (aft_spec h)
  | n + 1, j, h => by
    rcases Bool.or_eq_true_iff.1 h with h1 | h1
    · exact .base (aft_spec h1)
    · obtain ⟨k, hk, h2⟩ := List.any_eq_true.1 h1
      simp only [Bool.and_eq_true] at h2
      exact .step (by simpa using h2.1) (aft_spec h2.2.1) (beh_spec n k h2.2.2)
theorem late_spec {ops : Array Oper} {π2 : List Nat} {listed : Array Bool} {i : Nat} (h : late ops π2 listed i = true) : ∀ j, (!π2.contains j) = false → Rch .any ops listed i j := by
  intro j hc
  have hm : j ∈ π2 := by simpa using hc
  exact beh_spec 3 j (List.all_eq_true.1 h j hm)
theorem wk2_any {P : Program} {ops : Array Oper} {S : World → Prop} {Q : Exit → Act → World → Prop} {F : Nat → Bool} : ∀ (π : List Nat) (listed : Array Bool) (a : Act) (w : World), (∀ i ∈ π, F i = false) →
    okL ops π listed = true → wk2 P ops Q π a w → wpAnyK P .any ops (NoPanic Q) S F π.length listed a w
  | [], listed, a, w, hF, hok, h => ⟨by simpa [okL] using hok, h⟩
  | i :: π, listed, a, w, hF, hok, h => by
    simp only [okL, Bool.and_eq_true, decide_eq_true_eq] at hok
    refine ⟨fun h0 => (by rw [hok.1] at h0; cases h0), fun j hj => ?_⟩
    rw [hok.1] at hj
    obtain rfl : j = i := by simpa using hj
    refine wpOp_mono (fun a' w' h' => ⟨fun hf => ?_, wk2_any π _ a' w' (fun i hi => hF i (List.mem_cons_of_mem _ hi)) hok.2 h'⟩) h
    rw [hF j (List.mem_cons_self ..)] at hf
    cases hf
theorem wpAny_wkD {P : Program} {ops : Array Oper} {S : World → Prop} {Q : Exit → Act → World → Prop} (hs : Region.noSelect ops = true) (π2 : List Nat) : ∀ (π : List (Nat × Nat)) (listed : Array Bool) (a : Act) (w : World),
    okD ops π2 π listed = true → S w → wkD P ops S Q π2 π a w → wpAnyK P .any ops (NoPanic Q) S (fun j => !π2.contains j) (π.length + π2.length) listed a w
  | [], listed, a, w, hok, hS, h => by
    have := wk2_any (S := S) (F := fun j => !π2.contains j) π2 listed a w (fun i hi => by simpa using hi) hok h
    simpa using this
  | (i, 1) :: π, listed, a, w, hok, hS, h => by
    simp only [okD, Bool.and_eq_true] at hok
    obtain ⟨⟨⟨hr, hf⟩, hl⟩, hok'⟩ := hok
    obtain ⟨o, v, hi, hy, hk⟩ := h
    have := wpAny_wkD hs π2 π _ _ w hok' hS hk
    have e : ((i, 1) :: π).length + π2.length = (π.length + π2.length) + 1 := by simp; omega
    rw [e]
    exact wpAnyK.first hi (Region.noSelect_spec hs) (fun c a w h => h) _ listed a w (late_spec hl) (Region.free_spec hi hf) (by simpa using hr) hy hS this
  | (i, k + 2) :: π, listed, a, w, hok, hS, h => by
    simp only [okD, Bool.and_eq_true] at hok
    obtain ⟨⟨hr, hf⟩, hok'⟩ := hok
    obtain ⟨o, v, hi, hy, hk⟩ := h
    have := wpAny_wkD hs π2 π _ _ w hok' hS hk
    have e : ((i, k + 2) :: π).length + π2.length = (π.length + π2.length) + 1 := by simp; omega
    rw [e]
    exact wpAnyK.firstp hi (Region.noSelect_spec hs) (fun c a w h => h) _ listed a w (Region.free_spec hi hf) (by simpa using hr) hy this
  | (i, 0) :: π, listed, a, w, hok, hS, h => by
    simp only [okD, Bool.and_eq_true, decide_eq_true_eq] at hok
    have e : ((i, 0) :: π).length + π2.length = (π.length + π2.length) + 1 := by simp; omega
    rw [e]
    refine ⟨fun h0 => (by rw [hok.1] at h0; cases h0), fun j hj => ?_⟩
    rw [hok.1] at hj
    obtain rfl : j = i := by simpa using hj
    exact wpOp_mono (fun a' w' ⟨hS', h'⟩ => ⟨fun _ _ => hS', wpAny_wkD hs π2 π _ a' w' hok.2 hS' h'⟩) h

theorem wp_draw {P : Program} {id : Nat} {ops : List Oper} {Q : Exit → Act → World → Prop} {a : Act} {w : World} (π : List (Nat × Nat)) (π2 : List Nat) (S : World → Prop) (hm : P.follows .mixedOrders = true)
    (hok : (Region.noSelect ops.toArray && Nat.beq (π.length + π2.length) ops.length && okD ops.toArray π2 π (Array.replicate ops.length false)) = true) (hS : S w.drew) (h : wkD P ops.toArray S Q π2 π a w.drew) : (Code.region id ops.toArray true).wp P Q a w := by
  simp only [Bool.and_eq_true] at hok
  obtain ⟨⟨hs, hl⟩, hok⟩ := hok
  have hl' : π.length + π2.length = ops.toArray.size := by simpa using Nat.eq_of_beq_eq_true hl
  have := wpAny_wkD hs π2 π (Array.replicate ops.length false) a w.drew hok hS h
  rw [hl'] at this
  refine wp_region_noPanic (wp_region_any hm (wpAnyK.any (S := S) (F := fun j => !π2.contains j) _ _ _ _ ?_))
  simpa using this

theorem wp_draw_HS {P : Program} {id : Nat} {ops : List Oper} {Q : Exit → Act → World → Prop} {a : Act} {w0 w : World} {M : Nat → Prop} {H : List It} (π : List (Nat × Nat)) (hm : P.follows .mixedOrders = true)
    (hok : (Region.noSelect ops.toArray && Nat.beq (π.length + ([] : List Nat).length) ops.length && okD ops.toArray [] π (Array.replicate ops.length false)) = true) (hH : HS w0 M H w) (h : wkD P ops.toArray (HS w0 M H) Q [] π a w.drew) : (Code.region id ops.toArray true).wp P Q a w :=
  wp_draw π [] (HS w0 M H) hm hok hH.drew h
/-- some come last -/
theorem wp_draw2_HS {P : Program} {id : Nat} {ops : List Oper} {Q : Exit → Act → World → Prop} {a : Act} {w0 w : World} {M : Nat → Prop} {H : List It} (π : List (Nat × Nat)) (π2 : List Nat) (hm : P.follows .mixedOrders = true)
    (hok : (Region.noSelect ops.toArray && Nat.beq (π.length + π2.length) ops.length && okD ops.toArray π2 π (Array.replicate ops.length false)) = true) (hH : HS w0 M H w) (h : wkD P ops.toArray (HS w0 M H) Q π2 π a w.drew) : (Code.region id ops.toArray true).wp P Q a w :=
  wp_draw π π2 (HS w0 M H) hm hok hH.drew h

section
variable {P : Program} {N : Nat} {l : List (Nat × Value)} {a : Act} {w : World} {ops : Array Oper} {S : World → Prop} {Q : Exit → Act → World → Prop} {i : Nat} {π : List (Nat × Nat)} {π2 π3 : List Nat}
theorem dr_nil (h : Q .normal a w) : wkD P ops S Q [] [] a w := h
theorem dr_late (h : wk2 P ops Q (i :: π3) a w) : wkD P ops S Q (i :: π3) [] a w := h
theorem dr_nil2 (h : Q .normal a w) : wk2 P ops Q [] a w := h
theorem dr_ex3 {C : World → Prop} {o : Oper} {d : Nat} {v : Value} (hA : Sl N l a) (hC : C w) (hi : ops[i]? = some o) (hg : gd ops l o.guard = some true) (hd : o.dst = some d) (hdN : d < N)
    (h : Ex P N l C o v) (k : ∀ a', Sl N ((d, v) :: l) a' → wk2 P ops Q π3 a' w) : wk2 P ops Q (i :: π3) a w := by
  unfold wk2 wpOp
  simp only [hi, hA.gd hg, if_true]
  refine .inl (h.op1 hC a hA _ _ fun v' w' ⟨hv, hw⟩ => ?_)
  subst hv; subst hw
  rw [hd]
  exact k _ (hA.put hdN _)
theorem dr_op3 {o : Oper} {d : Nat} {R : Value → World → Prop} (hA : Sl N l a) (hi : ops[i]? = some o) (hg : gd ops l o.guard = some true) (hd : o.dst = some d) (hdN : d < N)
    (h : Op1 P N l o w R) (k : ∀ v w', R v w' → ∀ a', Sl N ((d, v) :: l) a' → wk2 P ops Q π3 a' w') : wk2 P ops Q (i :: π3) a w := by
  unfold wk2 wpOp
  simp only [hi, hA.gd hg, if_true]
  refine .inl (h a hA _ _ fun v w' hR => ?_)
  rw [hd]
  exact k v w' hR _ (hA.put hdN v)
theorem dr_op03 {o : Oper} {R : Value → World → Prop} (hA : Sl N l a) (hi : ops[i]? = some o) (hg : gd ops l o.guard = some true) (hd : o.dst = none)
    (h : Op1 P N l o w R) (k : ∀ v w', R v w' → wk2 P ops Q π3 a w') : wk2 P ops Q (i :: π3) a w := by
  unfold wk2 wpOp
  simp only [hi, hA.gd hg, if_true]
  refine .inl (h a hA _ _ fun v w' hR => ?_)
  rw [hd]
  exact k v w' hR
theorem dr_skip3 {o : Oper} {d : Nat} (hA : Sl N l a) (hi : ops[i]? = some o) (hg : gd ops l o.guard = some false) (hd : o.dst = some d) (hdN : d < N)
    (k : ∀ a', Sl N ((d, undef) :: l) a' → wk2 P ops Q π3 a' w) : wk2 P ops Q (i :: π3) a w := by
  unfold wk2 wpOp
  simp only [hi, hA.gd hg, Bool.false_eq_true, if_false]
  rw [hd]
  exact k _ (hA.put hdN _)
theorem dr_ex {o : Oper} {d : Nat} {v : Value} (hA : Sl N l a) (hi : ops[i]? = some o) (hg : gd ops l o.guard = some true) (hd : o.dst = some d) (hdN : d < N)
    (h : Ex P N l S o v) (k : ∀ a', Sl N ((d, v) :: l) a' → wkD P ops S Q π2 π a' w) : wkD P ops S Q π2 ((i, 1) :: π) a w := by
  refine ⟨o, v, hi, .inl ⟨hA.gd hg, fun w' hS => h a w' hA hS⟩, ?_⟩
  rw [hd]
  exact k _ (hA.put hdN v)
theorem dr_exb {o : Oper} {d : Nat} {b : Bool} (hA : Sl N l a) (hi : ops[i]? = some o) (hg : gd ops l o.guard = some true) (hd : o.dst = some d) (hdN : d < N) (hG : isG ops d = true)
    (h : Ex P N l S o (.bool b)) (kt : b = true → ∀ a', Sl N ((d, .bool true) :: l) a' → wkD P ops S Q π2 π a' w) (kf : b = false → ∀ a', Sl N ((d, .bool false) :: l) a' → wkD P ops S Q π2 π a' w) :
    wkD P ops S Q π2 ((i, 1) :: π) a w :=
  dr_ex hA hi hg hd hdN h fun a' hA' => by
    cases hb : b with
    | true => exact kt hb a' (hb ▸ hA')
    | false => exact kf hb a' (hb ▸ hA')
theorem dr_exp {o : Oper} {d k : Nat} {v : Value} (hA : Sl N l a) (hi : ops[i]? = some o) (hg : gd ops l o.guard = some true) (hd : o.dst = some d) (hdN : d < N)
    (h : Ex P N l (fun _ => True) o v) (kk : ∀ a', Sl N ((d, v) :: l) a' → wkD P ops S Q π2 π a' w) : wkD P ops S Q π2 ((i, k + 2) :: π) a w := by
  refine ⟨o, v, hi, .inl ⟨hA.gd hg, fun w' hS => h a w' hA hS⟩, ?_⟩
  rw [hd]
  exact kk _ (hA.put hdN v)
theorem dr_skip {o : Oper} {d : Nat} (hA : Sl N l a) (hi : ops[i]? = some o) (hg : gd ops l o.guard = some false) (hd : o.dst = some d) (hdN : d < N)
    (k : ∀ a', Sl N ((d, undef) :: l) a' → wkD P ops S Q π2 π a' w) : wkD P ops S Q π2 ((i, 1) :: π) a w := by
  refine ⟨o, undef, hi, .inr ⟨hA.gd hg, rfl⟩, ?_⟩
  rw [hd]
  exact k _ (hA.put hdN _)
theorem dr_op {o : Oper} {d : Nat} {R : Value → World → Prop} (hA : Sl N l a) (hi : ops[i]? = some o) (hg : gd ops l o.guard = some true) (hd : o.dst = some d) (hdN : d < N)
    (h : Op1 P N l o w R) (k : ∀ v w', R v w' → S w' ∧ ∀ a', Sl N ((d, v) :: l) a' → wkD P ops S Q π2 π a' w') : wkD P ops S Q π2 ((i, 0) :: π) a w := by
  unfold wkD wpOp
  simp only [hi, hA.gd hg, if_true]
  refine .inl (h a hA _ _ fun v w' hR => ?_)
  rw [hd]
  exact ⟨(k v w' hR).1, (k v w' hR).2 _ (hA.put hdN v)⟩
theorem dr_op0 {o : Oper} {R : Value → World → Prop} (hA : Sl N l a) (hi : ops[i]? = some o) (hg : gd ops l o.guard = some true) (hd : o.dst = none)
    (h : Op1 P N l o w R) (k : ∀ v w', R v w' → S w' ∧ wkD P ops S Q π2 π a w') : wkD P ops S Q π2 ((i, 0) :: π) a w := by
  unfold wkD wpOp
  simp only [hi, hA.gd hg, if_true]
  refine .inl (h a hA _ _ fun v w' hR => ?_)
  rw [hd]
  exact k v w' hR
theorem dr_opskip {o : Oper} {d : Nat} (hA : Sl N l a) (hi : ops[i]? = some o) (hg : gd ops l o.guard = some false) (hd : o.dst = some d) (hdN : d < N) (hS : S w)
    (k : ∀ a', Sl N ((d, undef) :: l) a' → wkD P ops S Q π2 π a' w) : wkD P ops S Q π2 ((i, 0) :: π) a w := by
  unfold wkD wpOp
  simp only [hi, hA.gd hg, Bool.false_eq_true, if_false]
  rw [hd]
  exact ⟨hS, k _ (hA.put hdN _)⟩
end
end Go.Fw
