/-
  What a heap's memory says of its objects (plain law). Conditions: none.
-/
import Derived.Test.YtejpcidfigmnkaaPA
namespace Go.Proofs.Ytejpcidfigmnkaa
set_option linter.unusedVariables false
def findA (L : List Ob) (i : Nat) : Option Ob := L.find? fun o => o.a == i
def hdA (L : List Ob) (i : Nat) : Int × Int := match findA L i with
  | some o => ((o.kind : Int), (o.fs.length : Int))
  | none => (0, 0)
structure Rep (N : Nat) (L : List Ob) (cs : List Int) (hs : List (Int × Int)) : Prop where
  n2 : 2 ≤ N ∧ N ≤ 65536
  cl : cs.length = N
  hl : hs.length = N
  lay : Lay N 1 L
  hd : ∀ i, i < N → hs[i]? = some (hdA L i)
  fd : ∀ o ∈ L, ∀ (j : Nat) (x : Int), o.fs[j]? = some x → cs[o.a + 1 + j]? = some x
  kd : ∀ o ∈ L, 1 ≤ o.kind ∧ o.fs.length ≤ 4096
/-- is an object there? -/
def isA (L : List Ob) (z : Int) : Bool := L.any fun o => decide ((o.a : Int) = z)
section
variable {N : Nat} {L : List Ob} {cs : List Int} {hs : List (Int × Int)}
theorem Lay.mem : ∀ {L : List Ob} {p : Nat}, Lay N p L → ∀ o ∈ L, p ≤ o.a ∧ o.fin ≤ N
  | o :: L, p, h, x, hx => by
    rcases List.mem_cons.1 hx with rfl | hx
    · exact ⟨h.1, h.2.le⟩
    · have := Lay.mem h.2 x hx
      have h1 := h.1
      unfold Ob.fin at this ⊢
      exact ⟨by omega, this.2⟩
theorem Lay.inj : ∀ {L : List Ob} {p : Nat}, Lay N p L → ∀ o ∈ L, ∀ o' ∈ L, o.a = o'.a → o = o'
  | x :: L, p, h, o, ho, o', ho', he => by
    rcases List.mem_cons.1 ho with h1 | h1
    · rcases List.mem_cons.1 ho' with h2 | h2
      · rw [h1, h2]
      · have := (h.2.mem o' h2).1
        rw [h1] at he
        unfold Ob.fin at this
        omega
    · rcases List.mem_cons.1 ho' with h2 | h2
      · have := (h.2.mem o h1).1
        rw [h2] at he
        unfold Ob.fin at this
        omega
      · exact Lay.inj h.2 o h1 o' h2 he
theorem findA_some {i : Nat} {o : Ob} (h : findA L i = some o) : o ∈ L ∧ o.a = i := by
  refine ⟨List.mem_of_find?_eq_some h, ?_⟩
  have := List.find?_some h
  simpa using this
theorem findA_mem {p : Nat} (hl : Lay N p L) {o : Ob} (h : o ∈ L) : findA L o.a = some o := by
  cases hf : findA L o.a with
  | none =>
    have := List.find?_eq_none.1 hf o h
    simp at this
  | some o' =>
    obtain ⟨h1, h2⟩ := findA_some hf
    rw [hl.inj o' h1 o h h2]
theorem isA_iff {z : Int} : isA L z = true ↔ ∃ o ∈ L, (o.a : Int) = z := by simp [isA]
theorem isA_find {i : Nat} : isA L (i : Int) = (findA L i).isSome := by
  cases hf : findA L i with
  | none =>
    rw [Option.isSome_none]
    cases h : isA L (i : Int) with
    | false => rfl
    | true =>
      obtain ⟨o, ho, he⟩ := isA_iff.1 h
      have := List.find?_eq_none.1 hf o ho
      simp at this
      omega
  | some o =>
    obtain ⟨h1, h2⟩ := findA_some hf
    rw [Option.isSome_some]
    exact isA_iff.2 ⟨o, h1, by omega⟩
theorem Rep.is_ (h : Rep N L cs hs) {i : Nat} (hi : i < N) : isA L (i : Int) = decide (0 < (hdA L i).1) := by
  rw [isA_find]
  unfold hdA
  cases hf : findA L i with
  | none => rfl
  | some o =>
    have := (h.kd o (findA_some hf).1).1
    rw [Option.isSome_some, eq_comm, decide_eq_true_iff]
    dsimp only
    omega
theorem Rep.out (h : Rep N L cs hs) {z : Int} (hz : z ≤ 0 ∨ (N : Int) ≤ z) : isA L z = false := by
  cases hi : isA L z with
  | false => rfl
  | true =>
    obtain ⟨o, ho, he⟩ := isA_iff.1 hi
    have := h.lay.mem o ho
    unfold Ob.fin at this
    omega
/-- the object at an address -/
def objA (L : List Ob) (z : Int) : Option Ob := L.find? fun o => decide ((o.a : Int) = z)
theorem objA_some {z : Int} {o : Ob} (h : objA L z = some o) : o ∈ L ∧ (o.a : Int) = z := by
  refine ⟨List.mem_of_find?_eq_some h, ?_⟩
  have := List.find?_some h
  simpa using this
theorem objA_none {z : Int} (h : objA L z = none) : isA L z = false := by
  cases hi : isA L z with
  | false => rfl
  | true =>
    obtain ⟨o, ho, he⟩ := isA_iff.1 hi
    have := List.find?_eq_none.1 h o ho
    simp [he] at this
theorem objA_is {z : Int} {o : Ob} (h : objA L z = some o) : isA L z = true := isA_iff.2 ⟨o, (objA_some h).1, (objA_some h).2⟩
theorem objA_mem {p : Nat} (hl : Lay N p L) {o : Ob} (h : o ∈ L) : objA L (o.a : Int) = some o := by
  cases hf : objA L (o.a : Int) with
  | none =>
    have := List.find?_eq_none.1 hf o h
    simp at this
  | some o' =>
    obtain ⟨h1, h2⟩ := objA_some hf
    rw [hl.inj o' h1 o h (by omega)]
def getA (L : List Ob) (z i : Int) : Int × Int := match objA L z with
  | none => (0, 7)
  | some o => if 0 ≤ i ∧ i < (o.fs.length : Int) then (o.fs.getD i.toNat 0, 0) else (0, 2)
/-- the next object's address -/
def nextA (L : List Ob) (z : Int) : Int := match L.find? fun o => decide (z ≤ (o.a : Int)) with
  | some o => o.a
  | none => 0
theorem next_first : ∀ {L : List Ob} {p : Nat}, Lay N p L → ∀ {z : Int} {o o' : Ob}, (L.find? fun o => decide (z ≤ (o.a : Int))) = some o → o' ∈ L → z ≤ (o'.a : Int) → o.a ≤ o'.a
  | x :: L, p, h, z, o, o', hf, ho', hz => by
    rw [List.find?_cons] at hf
    split at hf
    · obtain rfl := Option.some.inj hf
      rcases List.mem_cons.1 ho' with rfl | ho'
      · exact Nat.le_refl _
      · have := (h.2.mem o' ho').1
        unfold Ob.fin at this
        omega
    · rename_i hx
      rcases List.mem_cons.1 ho' with rfl | ho'
      · simp at hx
        omega
      · exact next_first h.2 hf ho' hz
theorem next_at {p : Nat} (hl : Lay N p L) {z : Int} {i : Nat} (hzi : z ≤ i) (hi : isA L (i : Int) = true) (hno : ∀ k : Nat, z ≤ k → k < i → isA L (k : Int) = false) : nextA L z = i := by
  obtain ⟨o', ho', he⟩ := isA_iff.1 hi
  unfold nextA
  cases hf : L.find? fun o => decide (z ≤ (o.a : Int)) with
  | none =>
    have := List.find?_eq_none.1 hf o' ho'
    simp at this
    omega
  | some o =>
    have h1 := next_first hl hf ho' (by omega)
    have h2 := List.mem_of_find?_eq_some hf
    have h3 := List.find?_some hf
    simp only [decide_eq_true_eq] at h3
    dsimp only
    rcases Nat.lt_or_ge o.a i with h | h
    · have := hno o.a h3 h
      rw [isA_iff.2 ⟨o, h2, rfl⟩] at this
      cases this
    · omega
theorem next_none {z : Int} (hno : ∀ o ∈ L, ¬ z ≤ (o.a : Int)) : nextA L z = 0 := by
  unfold nextA
  have : (L.find? fun o => decide (z ≤ (o.a : Int))) = none := List.find?_eq_none.2 fun o ho => by simpa using hno o ho
  rw [this]
def roomA (fr : List (Int × Int)) : Int := (fr.map (·.2)).sum
def longA (fr : List (Int × Int)) : Int := fr.foldl (fun n r => if r.2 > n then r.2 else n) 0
theorem gap1_sum (p e : Nat) (h : p ≤ e) : roomA (gap1 p e) = ((e - p : Nat) : Int) := by
  unfold roomA gap1
  split
  · simp
  · simp; omega
def usedA : List Ob → Nat
  | [] => 0
  | o :: L => o.fs.length + 1 + usedA L
theorem room_used : ∀ {L : List Ob} {p : Nat}, Lay N p L → roomA (gaps N p L) + usedA L = N - p
  | [], p, h => by
    have h' : p ≤ N := h
    show roomA (gap1 p N) + (0 : Nat) = _
    rw [gap1_sum p N h']
    omega
  | o :: L, p, h => by
    have h1 := h.1
    have h2 := room_used h.2
    rw [gaps_cons]
    have e : roomA (gap1 p o.a ++ gaps N o.fin L) = roomA (gap1 p o.a) + roomA (gaps N o.fin L) := by simp [roomA]
    rw [e, gap1_sum _ _ h1]
    show _ + ((o.fs.length + 1 + usedA L : Nat) : Int) = _
    unfold Ob.fin at h2 ⊢
    omega
theorem roomA_append (a b : List (Int × Int)) : roomA (a ++ b) = roomA a + roomA b := by simp [roomA]
theorem roomA_snoc (l : List (Int × Int)) (r : Int × Int) : roomA (l ++ [r]) = roomA l + r.2 := by simp [roomA]
theorem longA_snoc (l : List (Int × Int)) (r : Int × Int) : longA (l ++ [r]) = if r.2 > longA l then r.2 else longA l := by simp [longA]
theorem room_part {l : List (Int × Int)} (h : ∀ r ∈ l, 0 < r.2) : ∀ k, 0 ≤ roomA (l.take k) ∧ roomA (l.take k) ≤ roomA l := by
  have pos : ∀ l : List (Int × Int), (∀ r ∈ l, 0 < r.2) → 0 ≤ roomA l := by
    intro l
    induction l with
    | nil => intro _; exact Int.le_refl _
    | cons x r ih =>
      intro h
      have h1 := ih (fun y hy => h y (List.mem_cons_of_mem _ hy))
      have h2 := h x (List.mem_cons_self ..)
      have : roomA (x :: r) = x.2 + roomA r := by simp [roomA]
      omega
  intro k
  have e : roomA l = roomA (l.take k) + roomA (l.drop k) := by
    rw [← roomA_append, List.take_append_drop]
  have h1 := pos (l.take k) (fun r hr => h r (List.mem_of_mem_take hr))
  have h2 := pos (l.drop k) (fun r hr => h r (List.mem_of_mem_drop hr))
  omega
end
end Go.Proofs.Ytejpcidfigmnkaa
