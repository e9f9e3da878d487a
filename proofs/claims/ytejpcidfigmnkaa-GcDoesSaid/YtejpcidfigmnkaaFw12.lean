/-
  A region in which several operations that bring something of their own come up in any order. Conditions: none.
-/
import Derived.Test.YtejpcidfigmnkaaFw11
namespace Go.Fw
open Go Go.RowKit
set_option linter.unusedVariables false
/-- a first part, where nothing comes last -/
def okE (ops : Array Oper) (k : Array Bool → Bool) : List (Nat × Nat) → Array Bool → Bool
  | [], listed => k listed
  | (i, 0) :: π, listed => decide (Region.ready .any ops listed = [i]) && okE ops k π (listed.setIfInBounds i true)
  | (i, _ + 1) :: π, listed => (Region.ready .any ops listed).contains i && Region.free .any ops listed i && okE ops k π (listed.setIfInBounds i true)
/-- whichever order they come in -/
def okG (ops : Array Oper) (k : Array Bool → Bool) : Nat → List Nat → Array Bool → Bool
  | 0, _, listed => k listed
  | n + 1, G, listed => decide (Region.ready .any ops listed = G) && G.all fun i => okG ops k n (G.erase i) (listed.setIfInBounds i true)
def wkE (P : Program) (ops : Array Oper) (S : World → Prop) (Q : Exit → Act → World → Prop) (K : Act → World → Prop) : List (Nat × Nat) → Act → World → Prop
  | [], a, w => K a w
  | (i, 0) :: π, a, w => wpOp P ops (NoPanic Q) i (fun a' w' => S w' ∧ wkE P ops S Q K π a' w') a w
  | (i, _ + 1) :: π, a, w => ∃ o v, ops[i]? = some o ∧ YieldsIf P ops S o v a ∧ wkE P ops S Q K π (a.put o.dst v) w
def wkO (P : Program) (ops : Array Oper) (S : World → Prop) (Q : Exit → Act → World → Prop) (K : Act → World → Prop) : Nat → List Nat → Act → World → Prop
  | 0, _, a, w => K a w
  | n + 1, G, a, w => ∀ i ∈ G, wpOp P ops (NoPanic Q) i (fun a' w' => S w' ∧ wkO P ops S Q K n (G.erase i) a' w') a w
section
variable {P : Program} {ops : Array Oper} {S : World → Prop} {Q : Exit → Act → World → Prop} {K : Act → World → Prop} {k : Array Bool → Bool} {m : Nat}
theorem wkO_any (hk : ∀ listed a w, k listed = true → S w → K a w → wpAnyK P .any ops (NoPanic Q) S (fun _ => true) m listed a w) : ∀ (n : Nat) (G : List Nat) (listed : Array Bool) (a : Act) (w : World), G.length = n →
    okG ops k n G listed = true → S w → wkO P ops S Q K n G a w → wpAnyK P .any ops (NoPanic Q) S (fun _ => true) (n + m) listed a w
  | 0, G, listed, a, w, hl, hok, hS, h => by rw [Nat.zero_add]; exact hk listed a w hok hS h
  | n + 1, G, listed, a, w, hl, hok, hS, h => by
    simp only [okG, Bool.and_eq_true, decide_eq_true_eq] at hok
    rw [show n + 1 + m = (n + m) + 1 by omega]
    refine ⟨fun h0 => (by rw [hok.1] at h0; rw [h0] at hl; cases hl), fun j hj => ?_⟩
    rw [hok.1] at hj
    exact wpOp_mono (fun a' w' ⟨hS', h'⟩ => ⟨fun _ _ => hS', wkO_any hk n _ _ a' w' (by rw [List.length_erase_of_mem hj]; omega) (List.all_eq_true.1 hok.2 j hj) hS' h'⟩) (h j hj)
theorem wkE_any (hs : Region.noSelect ops = true) (hk : ∀ listed a w, k listed = true → S w → K a w → wpAnyK P .any ops (NoPanic Q) S (fun _ => true) m listed a w) : ∀ (π : List (Nat × Nat)) (listed : Array Bool) (a : Act) (w : World),
    okE ops k π listed = true → S w → wkE P ops S Q K π a w → wpAnyK P .any ops (NoPanic Q) S (fun _ => true) (π.length + m) listed a w
  | [], listed, a, w, hok, hS, h => by rw [List.length_nil, Nat.zero_add]; exact hk listed a w hok hS h
  | (i, 0) :: π, listed, a, w, hok, hS, h => by
    simp only [okE, Bool.and_eq_true, decide_eq_true_eq] at hok
    rw [show ((i, 0) :: π).length + m = (π.length + m) + 1 by simp; omega]
    refine ⟨fun h0 => (by rw [hok.1] at h0; cases h0), fun j hj => ?_⟩
    rw [hok.1] at hj
    obtain rfl : j = i := by simpa using hj
    exact wpOp_mono (fun a' w' ⟨hS', h'⟩ => ⟨fun _ _ => hS', wkE_any hs hk π _ a' w' hok.2 hS' h'⟩) h
  | (i, q + 1) :: π, listed, a, w, hok, hS, h => by
    simp only [okE, Bool.and_eq_true] at hok
    obtain ⟨⟨hr, hf⟩, hok'⟩ := hok
    obtain ⟨o, v, hi, hy, hkk⟩ := h
    have := wkE_any hs hk π _ _ w hok' hS hkk
    rw [show ((i, q + 1) :: π).length + m = (π.length + m) + 1 by simp; omega]
    exact wpAnyK.first hi (Region.noSelect_spec hs) (fun c a w h => h) _ listed a w (fun j hF => by cases hF) (Region.free_spec hi hf) (by simpa using hr) hy hS this
end
/-- a region that draws: a first part, some in any order, a second part -/
theorem wp_drawG {P : Program} {id : Nat} {ops : List Oper} {Q : Exit → Act → World → Prop} {a : Act} {w0 w : World} {M : Nat → Prop} {H : List It} (π : List (Nat × Nat)) (G : List Nat) (π1 : List (Nat × Nat)) (hm : P.follows .mixedOrders = true)
    (hok : (Region.noSelect ops.toArray && Nat.beq (π.length + (G.length + π1.length)) ops.length && okE ops.toArray (okG ops.toArray (okD ops.toArray [] π1) G.length G) π (Array.replicate ops.length false)) = true) (hH : HS w0 M H w)
    (h : wkE P ops.toArray (HS w0 M H) Q (fun a' w' => wkO P ops.toArray (HS w0 M H) Q (fun a2 w2 => wkD P ops.toArray (HS w0 M H) Q [] π1 a2 w2) G.length G a' w') π a w.drew) : (Code.region id ops.toArray true).wp P Q a w := by
  simp only [Bool.and_eq_true] at hok
  obtain ⟨⟨hs, hl⟩, hok⟩ := hok
  have hl' : π.length + (G.length + π1.length) = ops.toArray.size := by simpa using Nat.eq_of_beq_eq_true hl
  have k2 : ∀ (π : List (Nat × Nat)) listed a w, okD ops.toArray [] π listed = true → HS w0 M H w → wkD P ops.toArray (HS w0 M H) Q [] π a w → wpAnyK P .any ops.toArray (NoPanic Q) (HS w0 M H) (fun _ => true) π.length listed a w := fun π listed a w h1 h2 h3 => wpAny_wkD hs [] π listed a w h1 h2 h3
  have k3 := fun (n : Nat) (G : List Nat) listed a w hg h1 h2 h3 => wkO_any (P := P) (Q := Q) (k2 π1) n G listed a w hg h1 h2 h3
  have := wkE_any (P := P) (Q := Q) hs (fun listed a w h1 h2 h3 => k3 G.length G listed a w rfl h1 h2 h3) π _ a w.drew hok hH.drew h
  rw [hl'] at this
  refine wp_region_noPanic (wp_region_any hm (wpAnyK.any (S := HS w0 M H) (F := fun _ => true) _ _ _ _ ?_))
  simpa using this

theorem Op1.mono {P : Program} {N : Nat} {l : List (Nat × Value)} {o : Oper} {w : World} {R R' : Value → World → Prop} (h : Op1 P N l o w R) (hr : ∀ v w', R v w' → R' v w') : Op1 P N l o w R' :=
  fun a hA K Q hK => h a hA K Q fun v w' h' => hK v w' (hr v w' h')

/-! ## what comes, in whichever order -/
structure Ent where
  i : Nat
  d : Nat
  R : Value → It → Prop
structure Dn where
  e : Ent
  v : Value
  it : It
theorem lk_append (l r : List (Nat × Value)) (i : Nat) : lk (l ++ r) i = match lk l i with | some v => some v | none => lk r i := by
  induction l with
  | nil => rfl
  | cons x l ih =>
    obtain ⟨j, v⟩ := x
    simp only [List.cons_append, lk]
    cases Nat.beq j i with
    | true => rfl
    | false => simpa using ih
theorem lk_perm {l r : List (Nat × Value)} (p : l.Perm r) (i : Nat) (hn : (l.map (·.1)).Nodup) : lk l i = lk r i := by
  induction p with
  | nil => rfl
  | cons x p ih =>
    obtain ⟨j, v⟩ := x
    simp only [lk, ih (List.nodup_cons.1 hn).2]
  | swap x y l =>
    obtain ⟨j, v⟩ := x
    obtain ⟨k, u⟩ := y
    have hne : k ≠ j := by
      simp only [List.map_cons, List.nodup_cons, List.mem_cons] at hn
      exact fun h => hn.1 (.inl h)
    simp only [lk]
    cases hj : Nat.beq j i with
    | false => cases Nat.beq k i <;> rfl
    | true =>
      cases hk : Nat.beq k i with
      | false => rfl
      | true => exact absurd ((Nat.eq_of_beq_eq_true hk).trans (Nat.eq_of_beq_eq_true hj).symm) hne
  | trans p1 p2 ih1 ih2 => exact (ih1 hn).trans (ih2 ((p1.map _).nodup_iff.1 hn))
theorem perm_lift {E : List Ent} : ∀ {D : List Dn}, (D.map (·.e)).Perm E → ∃ D', D.Perm D' ∧ D'.map (·.e) = E := by
  induction E with
  | nil =>
    intro D h
    have : D = [] := by simpa using h.length_eq
    exact ⟨[], by rw [this], rfl⟩
  | cons g E ih =>
    intro D h
    obtain ⟨x, hx, he⟩ := List.mem_map.1 (h.symm.subset (List.mem_cons_self ..))
    obtain ⟨A, B, rfl⟩ := List.append_of_mem hx
    have h2 : ((A ++ B).map (·.e)).Perm E := by
      have h3 : ((A ++ x :: B).map (·.e)).Perm (x.e :: (A ++ B).map (·.e)) := List.Perm.map Dn.e (List.perm_middle)
      rw [he] at h3
      exact (List.perm_cons g).1 (h3.symm.trans h)
    obtain ⟨D', p, e⟩ := ih h2
    exact ⟨x :: D', List.perm_middle.trans (p.cons x), by rw [List.map_cons, e, he]⟩
section
variable {P : Program} {N : Nat} {l : List (Nat × Value)} {ops : Array Oper} {Q : Exit → Act → World → Prop} {K : Act → World → Prop} {w0 : World} {M : Nat → Prop} {H : List It}
def EntOk (P : Program) (N : Nat) (l : List (Nat × Value)) (ops : Array Oper) (w0 : World) (M : Nat → Prop) (H : List It) (e : Ent) : Prop :=
  lk l e.d = none ∧ e.d < N ∧ ∃ o : Oper, ops[e.i]? = some o ∧ gd ops l o.guard = some true ∧ o.dst = some e.d ∧ ∀ He w, HS w0 M (He ++ H) w → Op1 P N l o w (fun v w' => ∃ it, e.R v it ∧ HS w0 M (it :: (He ++ H)) w')
theorem wkO_come {E : List Ent} (hE : ∀ e ∈ E, EntOk P N l ops w0 M H e) (hd : (E.map (·.d)).Nodup) (hi : (E.map (·.i)).Nodup)
    (hK : ∀ (D : List Dn) a w, D.map (·.e) = E → (∀ x ∈ D, x.e.R x.v x.it) → HS w0 M (D.map (·.it) ++ H) w → Sl N (D.map (fun x => (x.e.d, x.v)) ++ l) a → K a w) :
    ∀ (n : Nat) (R : List Ent) (D : List Dn) (a : Act) (w : World), R.length = n → (D.map (·.e) ++ R).Perm E → (∀ x ∈ D, x.e.R x.v x.it) → HS w0 M (D.map (·.it) ++ H) w → Sl N (D.map (fun x => (x.e.d, x.v)) ++ l) a →
      wkO P ops (HS w0 M H) Q K n (R.map (·.i)) a w := by
  intro n
  induction n with
  | zero =>
    intro R D a w hn p hR hH hA
    obtain rfl : R = [] := List.length_eq_zero_iff.1 hn
    rw [List.append_nil] at p
    obtain ⟨D', p1, e⟩ := perm_lift p
    refine hK D' a w e (fun x hx => hR x (p1.symm.subset hx)) (hH.perm ((p1.map _).append_right _)) ?_
    have hnd : ((D.map (fun x => (x.e.d, x.v))).map (·.1)).Nodup := by
      rw [List.map_map]
      have h1 := (p.map (·.d)).nodup_iff.2 hd
      rw [List.map_map] at h1
      exact h1
    refine ⟨hA.defers, hA.size, fun i v h => hA.get i v ?_⟩
    rw [lk_append] at h ⊢
    rw [lk_perm (p1.map (fun x : Dn => (x.e.d, x.v))) i hnd]
    exact h
  | succ n ih =>
    intro R D a w hn p hR hH hA
    intro i hiR
    obtain ⟨e, he, rfl⟩ := List.mem_map.1 hiR
    obtain ⟨A, B, rfl⟩ := List.append_of_mem he
    have heE : e ∈ E := p.subset (List.mem_append_right _ he)
    obtain ⟨h5, h4, o, h1, h2, h3, h6⟩ := hE e heE
    have hnR : ((A ++ e :: B).map (·.i)).Nodup := by
      have h7 := (p.map (·.i)).nodup_iff.2 hi
      rw [List.map_append] at h7
      exact (List.nodup_append.1 h7).2.1
    have her : ((A ++ e :: B).map (·.i)).erase e.i = (A ++ B).map (·.i) := by
      rw [List.map_append, List.map_cons]
      have hnA : e.i ∉ A.map (·.i) := by
        rw [List.map_append, List.map_cons] at hnR
        intro hc
        exact (List.nodup_append.1 hnR).2.2 _ hc _ (List.mem_cons_self ..) rfl
      rw [List.erase_append_right _ hnA, List.erase_cons_head, List.map_append]
    rw [her]
    have hnd : ∀ x ∈ D, x.e.d ≠ e.d := by
      intro x hx hc
      have h7 := (p.map (·.d)).nodup_iff.2 hd
      rw [List.map_append] at h7
      exact (List.nodup_append.1 h7).2.2 _ (List.mem_map.2 ⟨x.e, List.mem_map.2 ⟨x, hx, rfl⟩, rfl⟩) _ (List.mem_map.2 ⟨e, he, rfl⟩) hc
    have hfree : ∀ x ∈ D, lk l x.e.d = none := by
      intro x hx
      exact (hE x.e (p.subset (List.mem_append_left _ (List.mem_map.2 ⟨x, hx, rfl⟩)))).1
    have hAl : Sl N l a := by
      refine ⟨hA.defers, hA.size, fun j v h => hA.get j v ?_⟩
      rw [lk_append]
      have : lk (D.map (fun x => (x.e.d, x.v))) j = none := by
        clear hA hH p hR ih hnd
        induction D with
        | nil => rfl
        | cons x D ihD =>
          have hx := hfree x (List.mem_cons_self ..)
          simp only [List.map_cons, lk]
          cases hj : Nat.beq x.e.d j with
          | false => simpa using ihD (fun y hy => hfree y (List.mem_cons_of_mem _ hy))
          | true =>
            have := Nat.eq_of_beq_eq_true hj
            rw [this, h] at hx
            cases hx
      rw [this]
      exact h
    unfold wpOp
    simp only [h1, hAl.gd h2, if_true]
    refine .inl (h6 _ w hH a hAl _ _ fun v w' ⟨it, hr, hw⟩ => ⟨?_, ?_⟩)
    · exact (HS.right (H1 := it :: D.map Dn.it) hw)
    · rw [h3]
      refine ih (A ++ B) (⟨e, v, it⟩ :: D) _ w' ?_ ?_ ?_ hw ?_
      · simp only [List.length_append, List.length_cons] at hn ⊢; omega
      · refine List.Perm.trans ?_ p
        show (e :: (D.map (·.e) ++ (A ++ B))).Perm _
        rw [← List.append_assoc, ← List.append_assoc]
        exact (List.perm_middle (l₁ := D.map (·.e) ++ A) (l₂ := B)).symm
      · intro x hx
        rcases List.mem_cons.1 hx with rfl | hx
        · exact hr
        · exact hR x hx
      · exact hA.put h4 v
/-- three of them -/
theorem wkO_three {e1 e2 e3 : Ent} {a : Act} {w : World} (hA : Sl N l a) (hH : HS w0 M H w) (h1 : EntOk P N l ops w0 M H e1) (h2 : EntOk P N l ops w0 M H e2) (h3 : EntOk P N l ops w0 M H e3)
    (hd : [e1.d, e2.d, e3.d].Nodup) (hi : [e1.i, e2.i, e3.i].Nodup)
    (hK : ∀ v1 it1 v2 it2 v3 it3 w' a', e1.R v1 it1 → e2.R v2 it2 → e3.R v3 it3 → HS w0 M (it1 :: it2 :: it3 :: H) w' → Sl N ((e1.d, v1) :: (e2.d, v2) :: (e3.d, v3) :: l) a' → K a' w') :
    wkO P ops (HS w0 M H) Q K 3 [e1.i, e2.i, e3.i] a w := by
  refine wkO_come (E := [e1, e2, e3]) (fun e he => ?_) hd hi (fun D a' w' hD hR hH' hA' => ?_) 3 [e1, e2, e3] [] a w rfl (.refl _) (fun x hx => absurd hx (List.not_mem_nil)) hH hA
  · simp only [List.mem_cons, List.not_mem_nil, or_false] at he
    rcases he with rfl | rfl | rfl
    · exact h1
    · exact h2
    · exact h3
  · obtain ⟨x1, D, rfl⟩ : ∃ x D', D = x :: D' := by cases D with | nil => cases hD | cons x D => exact ⟨x, D, rfl⟩
    obtain ⟨x2, D, rfl⟩ : ∃ x D', D = x :: D' := by cases D with | nil => cases hD | cons x D => exact ⟨x, D, rfl⟩
    obtain ⟨x3, D, rfl⟩ : ∃ x D', D = x :: D' := by cases D with | nil => cases hD | cons x D => exact ⟨x, D, rfl⟩
    obtain rfl : D = [] := by cases D with | nil => rfl | cons x D => cases hD
    injection hD with g1 hD
    injection hD with g2 hD
    injection hD with g3 hD
    subst g1; subst g2; subst g3
    exact hK _ _ _ _ _ _ w' a' (hR _ (.head _)) (hR _ (.tail _ (.head _))) (hR _ (.tail _ (.tail _ (.head _)))) hH' hA'
/-- two of them -/
theorem wkO_two {e1 e2 : Ent} {a : Act} {w : World} (hA : Sl N l a) (hH : HS w0 M H w) (h1 : EntOk P N l ops w0 M H e1) (h2 : EntOk P N l ops w0 M H e2)
    (hd : [e1.d, e2.d].Nodup) (hi : [e1.i, e2.i].Nodup)
    (hK : ∀ v1 it1 v2 it2 w' a', e1.R v1 it1 → e2.R v2 it2 → HS w0 M (it1 :: it2 :: H) w' → Sl N ((e1.d, v1) :: (e2.d, v2) :: l) a' → K a' w') :
    wkO P ops (HS w0 M H) Q K 2 [e1.i, e2.i] a w := by
  refine wkO_come (E := [e1, e2]) (fun e he => ?_) hd hi (fun D a' w' hD hR hH' hA' => ?_) 2 [e1, e2] [] a w rfl (.refl _) (fun x hx => absurd hx (List.not_mem_nil)) hH hA
  · simp only [List.mem_cons, List.not_mem_nil, or_false] at he
    rcases he with rfl | rfl
    · exact h1
    · exact h2
  · obtain ⟨x1, D, rfl⟩ : ∃ x D', D = x :: D' := by cases D with | nil => cases hD | cons x D => exact ⟨x, D, rfl⟩
    obtain ⟨x2, D, rfl⟩ : ∃ x D', D = x :: D' := by cases D with | nil => cases hD | cons x D => exact ⟨x, D, rfl⟩
    obtain rfl : D = [] := by cases D with | nil => rfl | cons x D => cases hD
    injection hD with g1 hD
    injection hD with g2 hD
    subst g1; subst g2
    exact hK _ _ _ _ w' a' (hR _ (.head _)) (hR _ (.tail _ (.head _))) hH' hA'
end
section
variable {P : Program} {N : Nat} {l : List (Nat × Value)} {a : Act} {w : World} {ops : Array Oper} {S : World → Prop} {Q : Exit → Act → World → Prop} {K : Act → World → Prop} {i : Nat} {π : List (Nat × Nat)}
theorem de_nil (h : K a w) : wkE P ops S Q K [] a w := h
theorem de_ex {k : Nat} {o : Oper} {d : Nat} {v : Value} (hA : Sl N l a) (hi : ops[i]? = some o) (hg : gd ops l o.guard = some true) (hd : o.dst = some d) (hdN : d < N)
    (h : Ex P N l S o v) (k' : ∀ a', Sl N ((d, v) :: l) a' → wkE P ops S Q K π a' w) : wkE P ops S Q K ((i, k + 1) :: π) a w := by
  refine ⟨o, v, hi, .inl ⟨hA.gd hg, fun w' hS => h a w' hA hS⟩, ?_⟩
  rw [hd]
  exact k' _ (hA.put hdN v)
theorem de_op {o : Oper} {d : Nat} {R : Value → World → Prop} (hA : Sl N l a) (hi : ops[i]? = some o) (hg : gd ops l o.guard = some true) (hd : o.dst = some d) (hdN : d < N)
    (h : Op1 P N l o w R) (k : ∀ v w', R v w' → S w' ∧ ∀ a', Sl N ((d, v) :: l) a' → wkE P ops S Q K π a' w') : wkE P ops S Q K ((i, 0) :: π) a w := by
  unfold wkE wpOp
  simp only [hi, hA.gd hg, if_true]
  refine .inl (h a hA _ _ fun v w' hR => ?_)
  rw [hd]
  exact ⟨(k v w' hR).1, (k v w' hR).2 _ (hA.put hdN v)⟩
end
/-- two steps, behind which R holds; then the rest -/
theorem wp_join2 {P : Program} {c1 c2 c3 : Code} {Q : Exit → Act → World → Prop} {a : Act} {w : World} (R : Act → World → Prop) (h : c1.wp P (Exit.then (c2.wp P (Exit.then R Q)) Q) a w) (k : ∀ a w, R a w → c3.wp P Q a w) :
    c1.wp P (Exit.then ((Code.seq c2 c3).wp P Q) Q) a w := by
  refine Code.wp_mono (fun e a w he => ?_) h
  cases e with
  | normal =>
    refine wp_seq (Code.wp_mono (fun e' a' w' he' => ?_) (show c2.wp P (Exit.then R Q) a w from he))
    cases e' with
    | normal => exact k _ _ he'
    | _ => exact he'
  | _ => exact he
/-- one step, behind which R holds; then the rest -/
theorem wp_join1 {P : Program} {c1 c2 : Code} {Q : Exit → Act → World → Prop} {a : Act} {w : World} (R : Act → World → Prop) (h : c1.wp P (Exit.then R Q) a w) (k : ∀ a w, R a w → c2.wp P Q a w) :
    (Code.seq c1 c2).wp P Q a w := by
  refine wp_seq (Code.wp_mono (fun e' a' w' he' => ?_) h)
  cases e' with
  | normal => exact k _ _ he'
  | _ => exact he'
theorem then_mono {K R : Act → World → Prop} {Q : Exit → Act → World → Prop} (k : ∀ a w, R a w → K a w) : ∀ e a w, Exit.then R Q e a w → Exit.then K Q e a w := by
  intro e a w h
  cases e with
  | normal => exact k _ _ h
  | _ => exact h
/-- two steps, behind which R holds (the other nesting) -/
theorem wp_join3 {P : Program} {c1 c2 : Code} {K : Act → World → Prop} {Q : Exit → Act → World → Prop} {a : Act} {w : World} (R : Act → World → Prop) (h : c1.wp P (Exit.then (c2.wp P (Exit.then R Q)) (Exit.then R Q)) a w) (k : ∀ a w, R a w → K a w) :
    c1.wp P (Exit.then (c2.wp P (Exit.then K Q)) (Exit.then K Q)) a w := by
  refine Code.wp_mono (fun e a w he => ?_) h
  cases e with
  | normal => exact Code.wp_mono (then_mono k) (show c2.wp P (Exit.then R Q) a w from he)
  | _ => exact he
end Go.Fw
