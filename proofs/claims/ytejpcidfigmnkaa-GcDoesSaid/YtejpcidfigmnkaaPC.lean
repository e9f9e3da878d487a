/-
  What a heap's memory says when an object comes, goes, or a field is set (plain law). Conditions: none.
-/
import Derived.Test.YtejpcidfigmnkaaPB
namespace Go.Proofs.Ytejpcidfigmnkaa
set_option linter.unusedVariables false
section
variable {N : Nat} {L A B : List Ob} {cs cs' : List Int} {hs : List (Int × Int)}
theorem mapid {α : Type} (f : α → α) : ∀ {l : List α}, (∀ x ∈ l, f x = x) → l.map f = l
  | [], _ => rfl
  | x :: l, h => by rw [List.map_cons, h x (List.mem_cons_self ..), mapid f fun y hy => h y (List.mem_cons_of_mem _ hy)]
theorem lay_sides {p : Nat} {o : Ob} (h : Lay N p (A ++ o :: B)) : (∀ x ∈ A, x.fin ≤ o.a) ∧ (∀ x ∈ B, o.fin ≤ x.a) ∧ o.fin ≤ N := by
  obtain ⟨h1, h2⟩ := h.split
  refine ⟨fun x hx => ?_, fun x hx => (h2.2.mem x hx).1, h2.2.le⟩
  have := (h1.mem x hx).2
  have := h2.1
  omega
theorem findA_skip {o : Ob} {i : Nat} (hi : i ≠ o.a) : findA (A ++ o :: B) i = findA (A ++ B) i := by
  unfold findA
  rw [List.find?_append, List.find?_append, List.find?_cons_of_neg (by simp; omega)]
theorem hdA_skip {o : Ob} {i : Nat} (hi : i ≠ o.a) : hdA (A ++ o :: B) i = hdA (A ++ B) i := by
  unfold hdA
  rw [findA_skip hi]
theorem hdA_gone {p : Nat} {o : Ob} (h : Lay N p (A ++ o :: B)) : hdA (A ++ B) o.a = (0, 0) := by
  obtain ⟨h1, h2, h3⟩ := lay_sides h
  unfold hdA
  cases hf : findA (A ++ B) o.a with
  | none => rfl
  | some x =>
    obtain ⟨hx, he⟩ := findA_some hf
    rcases List.mem_append.1 hx with hx | hx
    · have := h1 x hx
      unfold Ob.fin at this
      omega
    · have := h2 x hx
      unfold Ob.fin at this
      omega
theorem hdA_at {p : Nat} {o : Ob} (h : Lay N p L) (ho : o ∈ L) : hdA L o.a = ((o.kind : Int), (o.fs.length : Int)) := by
  unfold hdA
  rw [findA_mem h ho]
/-- an object goes -/
theorem rep_free {o : Ob} (h : Rep N (A ++ o :: B) cs hs) : Rep N (A ++ B) cs (hs.set o.a (0, 0)) where
  n2 := h.n2
  cl := h.cl
  hl := by rw [List.length_set]; exact h.hl
  lay := (free_law h.lay).2.2.1
  hd := fun i hi => by
    rw [List.getElem?_set]
    split
    · rename_i he
      subst he
      rw [if_pos (by rw [h.hl]; exact hi), hdA_gone h.lay]
    · rename_i he
      rw [h.hd i hi, hdA_skip (by omega)]
  fd := fun x hx => h.fd x (by rcases List.mem_append.1 hx with hx | hx <;> simp [hx])
  kd := fun x hx => h.kd x (by rcases List.mem_append.1 hx with hx | hx <;> simp [hx])
/-- an object comes -/
theorem rep_alloc {o : Ob} (h : Rep N (A ++ B) cs hs) (hl : Lay N 1 (A ++ o :: B)) (hk : 1 ≤ o.kind ∧ o.fs.length ≤ 4096) (hc : cs'.length = N) (hc1 : ∀ (j : Nat) (x : Int), o.fs[j]? = some x → cs'[o.a + 1 + j]? = some x)
    (hc2 : ∀ i, ¬ (o.a + 1 ≤ i ∧ i < o.fin) → cs'[i]? = cs[i]?) : Rep N (A ++ o :: B) cs' (hs.set o.a ((o.kind : Int), (o.fs.length : Int))) where
  n2 := h.n2
  cl := hc
  hl := by rw [List.length_set]; exact h.hl
  lay := hl
  hd := fun i hi => by
    rw [List.getElem?_set]
    split
    · rename_i he
      subst he
      rw [if_pos (by rw [h.hl]; exact hi), hdA_at hl (List.mem_append_right _ (List.mem_cons_self ..))]
    · rename_i he
      rw [h.hd i hi, hdA_skip (by omega)]
  fd := fun x hx j y hy => by
    obtain ⟨s1, s2, s3⟩ := lay_sides hl
    have hjl := (List.getElem?_eq_some_iff.1 hy).1
    rcases List.mem_append.1 hx with hx | hx
    · have h1 := s1 x hx
      rw [hc2 _ (by unfold Ob.fin at h1 ⊢; omega)]
      exact h.fd x (List.mem_append_left _ hx) j y hy
    · rcases List.mem_cons.1 hx with rfl | hx
      · exact hc1 j y hy
      · have h1 := s2 x hx
        rw [hc2 _ (by unfold Ob.fin at h1 ⊢; omega)]
        exact h.fd x (List.mem_append_right _ hx) j y hy
  kd := fun x hx => by
    rcases List.mem_append.1 hx with hx | hx
    · exact h.kd x (List.mem_append_left _ hx)
    · rcases List.mem_cons.1 hx with rfl | hx
      · exact hk
      · exact h.kd x (List.mem_append_right _ hx)
/-- objects turned, each where it was, of the same size -/
def setL (L : List Ob) (z : Int) (j : Nat) (x : Int) : List Ob := L.map fun o => if (o.a : Int) = z then { o with fs := o.fs.set j x } else o
structure Alike (f : Ob → Ob) : Prop where
  a : ∀ o, (f o).a = o.a
  k : ∀ o, (f o).kind = o.kind
  l : ∀ o, (f o).fs.length = o.fs.length
theorem alike_set (z : Int) (j : Nat) (x : Int) : Alike (fun o => if (o.a : Int) = z then { o with fs := o.fs.set j x } else o) :=
  ⟨fun o => by split <;> rfl, fun o => by split <;> rfl, fun o => by split <;> simp⟩
theorem Alike.fin {f : Ob → Ob} (h : Alike f) (o : Ob) : (f o).fin = o.fin := by unfold Ob.fin; rw [h.a, h.l]
theorem Alike.lay {f : Ob → Ob} (h : Alike f) : ∀ {L : List Ob} {p : Nat}, Lay N p (L.map f) ↔ Lay N p L
  | [], p => Iff.rfl
  | o :: L, p => by
    show (p ≤ (f o).a ∧ Lay N (f o).fin (L.map f)) ↔ (p ≤ o.a ∧ Lay N o.fin L)
    rw [h.a, h.fin, Alike.lay h]
theorem Alike.gaps {f : Ob → Ob} (h : Alike f) : ∀ (L : List Ob) (p : Nat), gaps N p (L.map f) = gaps N p L
  | [], p => rfl
  | o :: L, p => by
    rw [List.map_cons, gaps_cons, gaps_cons, h.a, h.fin, Alike.gaps h]
theorem Alike.hd {f : Ob → Ob} (h : Alike f) (L : List Ob) (i : Nat) : hdA (L.map f) i = hdA L i := by
  unfold hdA findA
  rw [List.find?_map]
  have e : ((fun o : Ob => o.a == i) ∘ f) = fun o => o.a == i := by funext o; simp [h.a]
  rw [e]
  cases L.find? (fun o => o.a == i) with
  | none => rfl
  | some o => simp only [Option.map_some]; rw [h.k, h.l]
theorem rep_set {o : Ob} {j : Nat} {x : Int} (h : Rep N L cs hs) (ho : o ∈ L) (hj : j < o.fs.length) : Rep N (setL L o.a j x) (cs.set (o.a + 1 + j) x) hs where
  n2 := h.n2
  cl := by rw [List.length_set]; exact h.cl
  hl := h.hl
  lay := (alike_set _ _ _).lay.2 h.lay
  hd := fun i hi => by
    rw [h.hd i hi]
    exact congrArg some ((alike_set _ _ _).hd L i).symm
  fd := fun y hy k v hv => by
    obtain ⟨y0, hy0, rfl⟩ := List.mem_map.1 hy
    have hoN := h.lay.mem o ho
    by_cases he : (y0.a : Int) = (o.a : Int)
    · obtain rfl : y0 = o := h.lay.inj y0 hy0 o ho (by omega)
      rw [if_pos rfl] at hv ⊢
      show (cs.set (y0.a + 1 + j) x)[y0.a + 1 + k]? = some v
      rw [List.getElem?_set]
      change (y0.fs.set j x)[k]? = some v at hv
      rw [List.getElem?_set] at hv
      by_cases hk : j = k
      · rw [if_pos hk, if_pos hj] at hv
        rw [if_pos (by omega), if_pos (by rw [h.cl]; unfold Ob.fin at hoN; omega), hv]
      · rw [if_neg hk] at hv
        rw [if_neg (by omega)]
        exact h.fd y0 hy0 k v hv
    · rw [if_neg he] at hv ⊢
      have hkl := (List.getElem?_eq_some_iff.1 hv).1
      have hne : ¬ (o.a + 1 + j = y0.a + 1 + k) := by
        intro hc
        obtain ⟨C, D, hCD⟩ := List.append_of_mem ho
        have hl := h.lay
        rw [hCD] at hy0 hl
        obtain ⟨s1, s2, s3⟩ := lay_sides hl
        rcases List.mem_append.1 hy0 with h1 | h1
        · have := s1 y0 h1
          unfold Ob.fin at this
          omega
        · rcases List.mem_cons.1 h1 with h1 | h1
          · subst h1; exact he rfl
          · have := s2 y0 h1
            unfold Ob.fin at this
            omega
      rw [List.getElem?_set, if_neg hne]
      exact h.fd y0 hy0 k v hv
  kd := fun y hy => by
    obtain ⟨y0, hy0, rfl⟩ := List.mem_map.1 hy
    rw [(alike_set _ _ _).k, (alike_set _ _ _).l]
    exact h.kd y0 hy0
theorem gaps_mid (A B : List Ob) {o o' : Ob} (ha : o.a = o'.a) (hl : o.fs.length = o'.fs.length) (p : Nat) : gaps N p (A ++ o :: B) = gaps N p (A ++ o' :: B) := by
  have hf : o.fin = o'.fin := by unfold Ob.fin; rw [ha, hl]
  rw [gaps_append, gaps_append, gaps_cons, gaps_cons, ha, hf]
theorem lay_mid {A B : List Ob} {o o' : Ob} (ha : o.a = o'.a) (hl : o.fs.length = o'.fs.length) {p : Nat} (h : Lay N p (A ++ o :: B)) : Lay N p (A ++ o' :: B) := by
  have hf : o.fin = o'.fin := by unfold Ob.fin; rw [ha, hl]
  obtain ⟨h1, h2⟩ := h.split
  exact Lay.join h1 ⟨by rw [← ha]; exact h2.1, by rw [← hf]; exact h2.2⟩
theorem setL_mid {p : Nat} {o : Ob} (h : Lay N p (A ++ o :: B)) (j : Nat) (x : Int) : setL (A ++ o :: B) o.a j x = A ++ { o with fs := o.fs.set j x } :: B := by
  obtain ⟨s1, s2, s3⟩ := lay_sides h
  unfold setL
  rw [List.map_append, List.map_cons, if_pos rfl]
  congr 1
  · refine mapid _ fun y hy => ?_
    have := s1 y hy
    unfold Ob.fin at this
    rw [if_neg (by omega)]
  · congr 1
    refine mapid _ fun y hy => ?_
    have := s2 y hy
    unfold Ob.fin at this
    rw [if_neg (by omega)]
theorem gaps_set (p : Nat) (z : Int) (j : Nat) (x : Int) : gaps N p (setL L z j x) = gaps N p L := (alike_set z j x).gaps L p
/-- what Set does -/
def setA (L : List Ob) (z i x : Int) : Int × List Ob := match objA L z with
  | none => (7, L)
  | some o => if 0 ≤ i ∧ i < (o.fs.length : Int) then (0, setL L z i.toNat x) else (2, L)
/-- what Alloc does -/
def newO (kind size : Nat) (p : Nat) : Ob := ⟨p, kind, List.replicate size 1⟩
def allocA (N : Nat) (L : List Ob) (kind size : Int) : Int × Int × List Ob :=
  if kind < 1 ∨ 6 < kind then (0, 8, L) else if size < 0 ∨ 4096 < size then (0, 2, L) else
  match insA N size.toNat (newO kind.toNat size.toNat) 1 L with
  | none => (0, 6, L)
  | some (p, L') => ((p : Int), 0, L')
/-- what Free does -/
def freeA (L : List Ob) (z : Int) : Int × List Ob := match objA L z with
  | none => (7, L)
  | some o => (0, L.filter fun o => !decide ((o.a : Int) = z))
theorem filter_free {p : Nat} {o : Ob} (h : Lay N p (A ++ o :: B)) : ((A ++ o :: B).filter fun x => !decide ((x.a : Int) = (o.a : Int))) = A ++ B := by
  obtain ⟨s1, s2, s3⟩ := lay_sides h
  rw [List.filter_append, List.filter_cons_of_neg (by simp), List.filter_eq_self.2, List.filter_eq_self.2]
  · intro x hx
    have := s2 x hx
    unfold Ob.fin at this
    simp
    omega
  · intro x hx
    have := s1 x hx
    unfold Ob.fin at this
    simp
    omega
theorem gtl_mem {p : Nat} {o : Ob} (h : Lay N p (A ++ o :: B)) : ∀ r ∈ gtl N B, ((nxt N B : Nat) : Int) < r.1 := by
  intro r hr
  obtain ⟨h1, h2⟩ := h.split
  cases B with
  | nil => exact absurd hr (List.not_mem_nil)
  | cons b B =>
    have := (gaps_mem h2.2.2 r hr).1
    unfold Ob.fin at this
    show (b.a : Int) < r.1
    omega
theorem left_mem {p : Nat} {o : Ob} (h : Lay N p (A ++ o :: B)) : ∀ r ∈ gin p A ++ gap1 (endA p A) o.a, r.1 < (o.a : Int) := by
  intro r hr
  obtain ⟨h1, h2⟩ := h.split
  rcases List.mem_append.1 hr with hr | hr
  · have h3 := gin_mem h1 r hr
    have := h2.1
    omega
  · unfold gap1 at hr
    split at hr
    · obtain rfl := List.mem_singleton.1 hr
      dsimp only
      omega
    · exact absurd hr (List.not_mem_nil)
theorem right_mem {p : Nat} {o : Ob} (h : Lay N p (A ++ o :: B)) : ∀ r ∈ gap1 o.fin (nxt N B) ++ gtl N B, (o.fin : Int) ≤ r.1 := by
  intro r hr
  have h4 := (free_law h).2.2.2.2.1
  rcases List.mem_append.1 hr with hr | hr
  · unfold gap1 at hr
    split at hr
    · obtain rfl := List.mem_singleton.1 hr
      exact Int.le_refl _
    · exact absurd hr (List.not_mem_nil)
  · have := gtl_mem h r hr
    omega
theorem gaps_pair : ∀ {L : List Ob} {p : Nat}, Lay N p L → (gaps N p L).Pairwise (fun r r' => r.1 < r'.1)
  | [], p, h => by
    unfold gaps gap1
    split
    · exact List.pairwise_singleton ..
    · exact .nil
  | o :: L, p, h => by
    rw [gaps_cons]
    refine List.pairwise_append.2 ⟨?_, gaps_pair h.2, ?_⟩
    · unfold gap1
      split
      · exact List.pairwise_singleton ..
      · exact .nil
    · intro r hr r' hr'
      have h1 := (gaps_mem h.2 r' hr').1
      have h2 := h.1
      unfold Ob.fin at h1
      unfold gap1 at hr
      split at hr
      · obtain rfl := List.mem_singleton.1 hr
        dsimp only
        omega
      · exact absurd hr (List.not_mem_nil)
end
end Go.Proofs.Ytejpcidfigmnkaa
