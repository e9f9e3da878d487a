/-
  A region whose operations come up in one of several orders: a plan, with ways. Conditions: none.
-/
import Derived.Test.YtejpcidfigmnkaaFw14
namespace Go.Fw
open Go Go.RowKit
set_option linter.unusedVariables false
/-- a plan: one that may come first whatever else may come; the only one that may come; one of two -/
inductive Pl where
  | nil
  | q (i : Nat) (t : Pl)
  | one (i : Nat) (t : Pl)
  | two (i j : Nat) (t u : Pl)
def Pl.len : Pl → Nat
  | .nil => 0
  | .q _ t => t.len + 1
  | .one _ t => t.len + 1
  | .two _ _ t _ => t.len + 1
def qs : List Nat → Pl → Pl
  | [], t => t
  | i :: l, t => .q i (qs l t)
def okT (ops : Array Oper) : Pl → Array Bool → Bool
  | .nil, listed => decide (Region.ready .any ops listed = [])
  | .q i t, listed => (Region.ready .any ops listed).contains i && Region.free .any ops listed i && okT ops t (listed.setIfInBounds i true)
  | .one i t, listed => decide (Region.ready .any ops listed = [i]) && okT ops t (listed.setIfInBounds i true)
  | .two i j t u, listed => Nat.beq t.len u.len && decide (Region.ready .any ops listed = [i, j]) && okT ops t (listed.setIfInBounds i true) && okT ops u (listed.setIfInBounds j true)
def wkT (P : Program) (ops : Array Oper) (S : World → Prop) (Q : Exit → Act → World → Prop) (K : Act → World → Prop) : Pl → Act → World → Prop
  | .nil, a, w => K a w
  | .q i t, a, w => ∃ o v, ops[i]? = some o ∧ YieldsIf P ops S o v a ∧ wkT P ops S Q K t (a.put o.dst v) w
  | .one i t, a, w => wpOp P ops (NoPanic Q) i (fun a' w' => S w' ∧ wkT P ops S Q K t a' w') a w
  | .two i j t u, a, w => wpOp P ops (NoPanic Q) i (fun a' w' => S w' ∧ wkT P ops S Q K t a' w') a w ∧ wpOp P ops (NoPanic Q) j (fun a' w' => S w' ∧ wkT P ops S Q K u a' w') a w
section
variable {P : Program} {ops : Array Oper} {S : World → Prop} {Q : Exit → Act → World → Prop} {K : Act → World → Prop}
theorem wkT_any (hs : Region.noSelect ops = true) (hK : ∀ a w, K a w → Q .normal a w) : ∀ (t : Pl) (listed : Array Bool) (a : Act) (w : World),
    okT ops t listed = true → S w → wkT P ops S Q K t a w → wpAnyK P .any ops (NoPanic Q) S (fun _ => true) t.len listed a w
  | .nil, listed, a, w, hok, hS, h => ⟨of_decide_eq_true hok, hK a w h⟩
  | .q i t, listed, a, w, hok, hS, h => by
    simp only [okT, Bool.and_eq_true] at hok
    obtain ⟨⟨hr, hf⟩, hok'⟩ := hok
    obtain ⟨o, v, hi, hy, hk⟩ := h
    exact wpAnyK.first hi (Region.noSelect_spec hs) (fun c a w h => h) _ listed a w (fun j hF => by cases hF) (Region.free_spec hi hf) (by simpa using hr) hy hS (wkT_any hs hK t _ _ w hok' hS hk)
  | .one i t, listed, a, w, hok, hS, h => by
    simp only [okT, Bool.and_eq_true, decide_eq_true_eq] at hok
    refine ⟨fun h0 => (by rw [hok.1] at h0; cases h0), fun j hj => ?_⟩
    rw [hok.1] at hj
    obtain rfl : j = i := by simpa using hj
    exact wpOp_mono (fun a' w' ⟨hS', h'⟩ => ⟨fun _ _ => hS', wkT_any hs hK t _ a' w' hok.2 hS' h'⟩) h
  | .two i k t u, listed, a, w, hok, hS, h => by
    simp only [okT, Bool.and_eq_true, decide_eq_true_eq] at hok
    obtain ⟨⟨⟨hl, hr⟩, ht⟩, hu⟩ := hok
    have hl := Nat.eq_of_beq_eq_true hl
    refine ⟨fun h0 => (by rw [hr] at h0; cases h0), fun j hj => ?_⟩
    rw [hr] at hj
    rcases (by simpa using hj : j = i ∨ j = k) with rfl | rfl
    · exact wpOp_mono (fun a' w' ⟨hS', h'⟩ => ⟨fun _ _ => hS', wkT_any hs hK t _ a' w' ht hS' h'⟩) h.1
    · exact wpOp_mono (fun a' w' ⟨hS', h'⟩ => ⟨fun _ _ => hS', by rw [hl]; exact wkT_any hs hK u _ a' w' hu hS' h'⟩) h.2
end
/-- a region that draws, by a plan; behind it R holds -/
theorem wp_drawT {P : Program} {id : Nat} {ops : List Oper} {Q : Exit → Act → World → Prop} {a : Act} {w0 w : World} {M : Nat → Prop} {H : List It} (t : Pl) (R : Act → World → Prop) (hm : P.follows .mixedOrders = true)
    (hok : (Region.noSelect ops.toArray && Nat.beq t.len ops.length && okT ops.toArray t (Array.replicate ops.length false)) = true) (hH : HS w0 M H w)
    (h : wkT P ops.toArray (HS w0 M H) Q R t a w.drew) (k : ∀ a w, R a w → Q .normal a w) : (Code.region id ops.toArray true).wp P Q a w := by
  simp only [Bool.and_eq_true] at hok
  obtain ⟨⟨hs, hl⟩, hok⟩ := hok
  have hl' : t.len = ops.toArray.size := by simpa using Nat.eq_of_beq_eq_true hl
  have := wkT_any (P := P) (Q := Q) hs k t _ a w.drew hok hH.drew h
  rw [hl'] at this
  refine wp_region_noPanic (wp_region_any hm (wpAnyK.any (S := HS w0 M H) (F := fun _ => true) _ _ _ _ ?_))
  simpa using this
section
variable {P : Program} {N : Nat} {l : List (Nat × Value)} {a : Act} {w : World} {ops : Array Oper} {S : World → Prop} {Q : Exit → Act → World → Prop} {K : Act → World → Prop} {i j : Nat} {t u : Pl}
theorem dt_nil (h : K a w) : wkT P ops S Q K .nil a w := h
theorem dt_ex {o : Oper} {d : Nat} {v : Value} (hA : Sl N l a) (hi : ops[i]? = some o) (hg : gd ops l o.guard = some true) (hd : o.dst = some d) (hdN : d < N)
    (h : Ex P N l S o v) (k' : ∀ a', Sl N ((d, v) :: l) a' → wkT P ops S Q K t a' w) : wkT P ops S Q K (.q i t) a w := by
  refine ⟨o, v, hi, .inl ⟨hA.gd hg, fun w' hS => h a w' hA hS⟩, ?_⟩
  rw [hd]
  exact k' _ (hA.put hdN v)
theorem dt_op {o : Oper} {d : Nat} {R : Value → World → Prop} (hA : Sl N l a) (hi : ops[i]? = some o) (hg : gd ops l o.guard = some true) (hd : o.dst = some d) (hdN : d < N)
    (h : Op1 P N l o w R) (k : ∀ v w', R v w' → S w' ∧ ∀ a', Sl N ((d, v) :: l) a' → wkT P ops S Q K t a' w') : wkT P ops S Q K (.one i t) a w := by
  unfold wkT wpOp
  simp only [hi, hA.gd hg, if_true]
  refine .inl (h a hA _ _ fun v w' hR => ?_)
  rw [hd]
  exact ⟨(k v w' hR).1, (k v w' hR).2 _ (hA.put hdN v)⟩
theorem dt_op0 {o : Oper} {R : Value → World → Prop} (hA : Sl N l a) (hi : ops[i]? = some o) (hg : gd ops l o.guard = some true) (hd : o.dst = none)
    (h : Op1 P N l o w R) (k : ∀ v w', R v w' → S w' ∧ wkT P ops S Q K t a w') : wkT P ops S Q K (.one i t) a w := by
  unfold wkT wpOp
  simp only [hi, hA.gd hg, if_true]
  refine .inl (h a hA _ _ fun v w' hR => ?_)
  rw [hd]
  exact k v w' hR
/-- one of two: each as if it were the only one -/
theorem dt_two (h1 : wkT P ops S Q K (.one i t) a w) (h2 : wkT P ops S Q K (.one j u) a w) : wkT P ops S Q K (.two i j t u) a w := ⟨h1, h2⟩
end
end Go.Fw
