/-
  The tree that is made pass by pass, and why it comes to be right (plain law). Conditions: none.
-/
import Derived.Test.YtkhhcodpggnchaaPA
namespace Go.Proofs.Ytkhhcodpggnchaa
set_option linter.unusedVariables false
/-- a is p, or stands above p -/
inductive Anc (f : Nat → Option Int) (a : Nat) : Nat → Prop
  | refl : Anc f a a
  | up {q p : Nat} : f p = some (q : Int) → Anc f a q → Anc f a p
theorem Anc.trans {f : Nat → Option Int} {a b c : Nat} (h : Anc f a b) (h' : Anc f b c) : Anc f a c := by
  induction h' with
  | refl => exact h
  | up hq _ ih => exact .up hq ih
/-- what holds of a tree on its way -/
structure TI (next : List (List Int)) (l : List Nat) (t : List Int) : Prop where
  len : t.length = next.length
  z : t[0]? = some 0
  out : ∀ m v, m ∉ l → t[m]? = some v → v = -1
  inn : ∀ m, m ∈ l → m ≠ 0 → t[m]? = some (-1) ∨ ∃ q : Nat, t[m]? = some (q : Int) ∧ q ∈ l ∧ rk l q < rk l m ∧ (∃ v : Nat, t[q]? = some (v : Int)) ∧ ∀ d, d ≠ m → Dm next d m → Dm next d q
/-- is m's place known? -/
def Kn (t : List Int) (m : Nat) : Prop := ∃ v : Nat, t[m]? = some (v : Int)
def mix (l : List Nat) (told tnew : List Int) (j p : Nat) : Option Int := if rk l p < j then tnew[p]? else told[p]?
/-- nodes up to the i-th have been looked at -/
def PassTo (next : List (List Int)) (l : List Nat) (told tnew : List Int) (i : Nat) : Prop :=
  ∀ j n, 1 ≤ j → j < i → l[j]? = some n → ∃ y : Nat, tnew[n]? = some (y : Int) ∧ ∀ p ∈ l, Ed next p n → (∃ v : Nat, mix l told tnew j p = some (v : Int)) → Anc (mix l told tnew j) y p
/-- n is come to without wo by k edges, of which at most r lead back -/
inductive Rr (next : List (List Int)) (l : List Nat) (wo : Int) : Nat → Nat → Nat → Prop
  | z {r : Nat} : 0 < next.length → wo ≠ 0 → Rr next l wo r 0 0
  | f {r k a b : Nat} : Rr next l wo r k a → Ed next a b → rk l a < rk l b → (b : Int) ≠ wo → Rr next l wo r (k + 1) b
  | b {r k a b : Nat} : Rr next l wo r k a → Ed next a b → (b : Int) ≠ wo → Rr next l wo (r + 1) (k + 1) b
/-- whoever is come to without a, with fewer than k edges back, doesn't hang under a -/
def Claim (next : List (List Int)) (l : List Nat) (k : Nat) (t : List Int) : Prop := ∀ (a n r m : Nat), Rr next l a r m n → r + 1 ≤ k → ¬ Anc (fun p => t[p]?) a n
section
variable {next : List (List Int)} {l : List Nat}
theorem Rr.split {wo : Int} {r k x : Nat} (h : Rr next l wo r k x) (y : Nat) : Rr next l y r k x ∨ ∃ r' j, Rr next l wo r' j y ∧ j ≤ k ∧ r' ≤ r := by
  induction h with
  | @z r h h0 =>
    by_cases hy : y = 0
    · subst hy; exact .inr ⟨r, 0, .z h h0, Nat.le_refl _, Nat.le_refl _⟩
    · exact .inl (.z h (by omega))
  | @f r k a b hp he hr hw ih =>
    by_cases hb : b = y
    · subst hb; exact .inr ⟨r, k + 1, .f hp he hr hw, Nat.le_refl _, Nat.le_refl _⟩
    · rcases ih with ih | ⟨r', j, hj, hl, hl2⟩
      · exact .inl (.f ih he hr (by omega))
      · exact .inr ⟨r', j, hj, by omega, hl2⟩
  | @b r k a b hp he hw ih =>
    by_cases hb : b = y
    · subst hb; exact .inr ⟨r + 1, k + 1, .b hp he hw, Nat.le_refl _, Nat.le_refl _⟩
    · rcases ih with ih | ⟨r', j, hj, hl, hl2⟩
      · exact .inl (.b ih he (by omega))
      · exact .inr ⟨r', j, hj, by omega, by omega⟩
theorem Rn.rr {wo : Int} {k n : Nat} (h : Rn next wo k n) : Rr next l wo k k n := by
  induction h with
  | z h h0 => exact .z h h0
  | s _ he hw ih => exact .b ih he hw
theorem Rr.rn {wo : Int} {r k n : Nat} (h : Rr next l wo r k n) : Rn next wo k n := by
  induction h with
  | z h h0 => exact .z h h0
  | f _ he _ hw ih => exact .s ih he hw
  | b _ he hw ih => exact .s ih he hw

variable {t told tnew : List Int}
theorem TI.anc0 (h : TI next l t) {a : Nat} (ha : Anc (fun p => t[p]?) a 0) : a = 0 := by
  have key : ∀ z, Anc (fun p => t[p]?) a z → z = 0 → a = 0 := by
    intro z ha
    induction ha with
    | refl => exact id
    | @up q p hq _ ih =>
      intro hz
      subst hz
      have h1 : t[0]? = some (q : Int) := hq
      rw [h.z] at h1
      have : (0 : Int) = q := Option.some.inj h1
      exact ih (by omega)
  exact key 0 ha rfl
/-- from a known node of the walk one step goes to a known node of lower rank -/
theorem TI.step (h : TI next l t) {m q : Nat} (hm : m ∈ l) (h0 : m ≠ 0) (hq : t[m]? = some (q : Int)) : q ∈ l ∧ rk l q < rk l m ∧ Kn t q ∧ ∀ d, d ≠ m → Dm next d m → Dm next d q := by
  rcases h.inn m hm h0 with h1 | ⟨q', h1, h2, h3, h4, h5⟩
  · rw [h1] at hq
    have := Option.some.inj hq
    omega
  · rw [h1] at hq
    have : (q' : Int) = q := Option.some.inj hq
    obtain rfl : q' = q := by omega
    exact ⟨h2, h3, h4, h5⟩
theorem TI.anc_rk (h : TI next l t) (ho : Ord next l) {a p : Nat} (ha : Anc (fun p => t[p]?) a p) : p ∈ l → a ∈ l ∧ rk l a ≤ rk l p := by
  induction ha with
  | refl => exact fun hp => ⟨hp, Nat.le_refl _⟩
  | @up q p hq h1 ih =>
    intro hp
    by_cases h0 : p = 0
    · subst h0
      have h2 : t[0]? = some (q : Int) := hq
      rw [h.z] at h2
      have : (0 : Int) = q := Option.some.inj h2
      obtain rfl : q = 0 := by omega
      exact ih hp
    · obtain ⟨hq1, hq2, _⟩ := h.step hp h0 hq
      obtain ⟨h3, h4⟩ := ih hq1
      exact ⟨h3, by omega⟩
theorem anc_new (hT : TI next l tnew) (ho : Ord next l) {j y p : Nat} (h : Anc (mix l told tnew j) y p) : p ∈ l → rk l p < j → Anc (fun p => tnew[p]?) y p := by
  induction h with
  | refl => exact fun _ _ => .refl
  | @up q p hq _ ih =>
    intro hp hr
    unfold mix at hq
    rw [if_pos hr] at hq
    have hq' : rk l q ≤ rk l p ∧ q ∈ l := by
      obtain ⟨h1, h2⟩ := hT.anc_rk ho (Anc.up (q := q) hq .refl) hp
      exact ⟨h2, h1⟩
    exact .up hq (ih hq'.2 (by omega))
theorem anc_mix (hO : TI next l told) (hT : TI next l tnew) (ho : Ord next l) {j y p : Nat} (h : Anc (mix l told tnew j) y p) : p ∈ l → ∃ c, c ∈ l ∧ Anc (fun p => told[p]?) c p ∧ Anc (fun p => tnew[p]?) y c := by
  induction h with
  | refl => exact fun hp => ⟨_, hp, .refl, .refl⟩
  | @up q p hq h1 ih =>
    intro hp
    by_cases hr : rk l p < j
    · exact ⟨p, hp, .refl, anc_new hT ho (.up hq h1) hp hr⟩
    · unfold mix at hq
      rw [if_neg hr] at hq
      obtain ⟨hq1, _⟩ := hO.anc_rk ho (Anc.up (q := q) hq .refl) hp
      obtain ⟨c, hc, h2, h3⟩ := ih hq1
      exact ⟨c, hc, .up hq h2, h3⟩
/-- one pass more: one edge back more -/
theorem claim_step (hg : Good next) (ho : Ord next l) (hO : TI next l told) (hT : TI next l tnew) (k : Nat) (hko : 1 ≤ k → ∀ p ∈ l, Kn told p) (hkn : ∀ p ∈ l, Kn tnew p)
    (hc : Claim next l k told) (hp : PassTo next l told tnew l.length) : Claim next l (k + 1) tnew := by
  intro a n r m
  induction m using Nat.strongRecOn generalizing n r with
  | ind m ih =>
    intro h hr ha
    have key : ∀ (p k' : Nat), Ed next p n → Rr next l a r k' p → k' < m → rk l p < rk l n → (n : Int) ≠ a → False := by
      intro p k' he h' hk' hrk hne
      have hpl : p ∈ l := (ho.mem p).2 ⟨k', h'.rn.weak⟩
      have hnl : n ∈ l := (ho.mem n).2 ⟨m, h.rn.weak⟩
      cases ha with
      | refl => exact hne rfl
      | @up y _ hy hay =>
        obtain ⟨y', hy', hall⟩ := hp (rk l n) n (by omega) (rk_lt hnl) (rk_get hnl)
        have hyy : tnew[n]? = some (y : Int) := hy
        rw [hy'] at hyy
        have : (y' : Int) = y := Option.some.inj hyy
        obtain rfl : y' = y := by omega
        have h1 := hall p hpl he (by unfold mix; rw [if_pos hrk]; exact hkn p hpl)
        exact ih k' hk' p r h' hr (hay.trans (anc_new hT ho h1 hpl hrk))
    cases h with
    | z h h0 => exact h0 (by have := hT.anc0 ha; omega)
    | f hp' he hrk hne => exact key _ _ he hp' (Nat.lt_succ_self _) hrk hne
    | @b r k' p _ hp' he hne =>
      have hpl : p ∈ l := (ho.mem p).2 ⟨k', hp'.rn.weak⟩
      have hnl : n ∈ l := (ho.mem n).2 ⟨k' + 1, .s hp'.rn.weak he (by omega)⟩
      by_cases hn0 : n = 0
      · subst hn0
        exact hne (by have := hT.anc0 ha; omega)
      cases ha with
      | refl => exact hne rfl
      | @up y _ hy hay =>
        obtain ⟨y', hy', hall⟩ := hp (rk l n) n (ho.ne0 hnl hn0) (rk_lt hnl) (rk_get hnl)
        have hyy : tnew[n]? = some (y : Int) := hy
        rw [hy'] at hyy
        have : (y' : Int) = y := Option.some.inj hyy
        obtain rfl : y' = y := by omega
        have h1 := hall p hpl he (by
          unfold mix; split
          · exact hkn p hpl
          · exact hko (by omega) p hpl)
        obtain ⟨c, hcl, hc1, hc2⟩ := anc_mix hO hT ho h1 hpl
        rcases hp'.split c with hs | ⟨r', k'', hs, hk'', hr'⟩
        · exact hc c p r k' hs (by omega) hc1
        · exact ih k'' (by omega) c r' hs (by omega) (hay.trans hc2)
/-- all that rules n stands above it -/
theorem dm_anc (hn : 0 < next.length) (ho : Ord next l) (hT : TI next l t) (hk : ∀ p ∈ l, Kn t p) {d : Nat} : ∀ (i n : Nat), n ∈ l → rk l n = i → Dm next d n → Anc (fun p => t[p]?) d n := by
  intro i
  induction i using Nat.strongRecOn with
  | ind i ih =>
    intro n hnl hi hd
    by_cases hdn : d = n
    · subst hdn; exact .refl
    · have hn0 : n ≠ 0 := by rintro rfl; exact hdn (hd.zero hn)
      obtain ⟨q, hq⟩ := hk n hnl
      obtain ⟨h1, h2, h3, h4⟩ := hT.step hnl hn0 hq
      exact .up hq (ih _ (by omega) q h1 rfl (h4 d hdn hd))
/-- where what stands above is just what rules, the tree is right -/
theorem right_of (hn : 0 < next.length) (ho : Ord next l) (hT : TI next l t) (hk : ∀ p ∈ l, Kn t p) (hc : ∀ a n, n ∈ l → Anc (fun p => t[p]?) a n → ¬ Rc next (a : Int) n) {n : Nat} (hnl : n ∈ l) (hn0 : n ≠ 0) :
    ∃ y : Nat, t[n]? = some (y : Int) ∧ y ∈ l ∧ Id next y n ∧ rk l y < rk l n := by
  obtain ⟨q, hq⟩ := hk n hnl
  obtain ⟨h1, h2, h3, h4⟩ := hT.step hnl hn0 hq
  refine ⟨q, hq, h1, ⟨by rintro rfl; omega, ⟨(ho.mem q).1 h1, (ho.mem n).1 hnl, .inr (hc q n hnl (.up hq .refl))⟩, h4⟩, h2⟩
/-- with fewer edges than K all is come to that is come to at all -/
theorem bound_all (next : List (List Int)) : ∃ K, ∀ a n : Nat, a < next.length → n < next.length → Rc next (a : Int) n → ∃ k, k ≤ K ∧ Rn next (a : Int) k n := by
  have h1 : ∀ (a m : Nat), ∃ K, ∀ n, n < m → Rc next (a : Int) n → ∃ k, k ≤ K ∧ Rn next (a : Int) k n := by
    intro a m
    induction m with
    | zero => exact ⟨0, fun n h => absurd h (Nat.not_lt_zero _)⟩
    | succ m ih =>
      obtain ⟨K, hK⟩ := ih
      by_cases hm : Rc next (a : Int) m
      · obtain ⟨k, hk⟩ := hm
        refine ⟨max K k, fun n hlt hr => ?_⟩
        rcases Nat.lt_or_ge n m with h | h
        · obtain ⟨k', hk', h'⟩ := hK n h hr
          exact ⟨k', Nat.le_trans hk' (Nat.le_max_left _ _), h'⟩
        · obtain rfl : n = m := by omega
          exact ⟨k, Nat.le_max_right _ _, hk⟩
      · refine ⟨K, fun n hlt hr => ?_⟩
        rcases Nat.lt_or_ge n m with h | h
        · exact hK n h hr
        · obtain rfl : n = m := by omega
          exact absurd hr hm
  have h2 : ∀ (m N : Nat), ∃ K, ∀ a n : Nat, a < m → n < N → Rc next (a : Int) n → ∃ k, k ≤ K ∧ Rn next (a : Int) k n := by
    intro m N
    induction m with
    | zero => exact ⟨0, fun a n h => absurd h (Nat.not_lt_zero _)⟩
    | succ m ih =>
      obtain ⟨K, hK⟩ := ih
      obtain ⟨K', hK'⟩ := h1 m N
      refine ⟨max K K', fun a n ha hn hr => ?_⟩
      rcases Nat.lt_or_ge a m with h | h
      · obtain ⟨k', hk', h'⟩ := hK a n h hn hr
        exact ⟨k', Nat.le_trans hk' (Nat.le_max_left _ _), h'⟩
      · obtain rfl : a = m := by omega
        obtain ⟨k', hk', h'⟩ := hK' n hn hr
        exact ⟨k', Nat.le_trans hk' (Nat.le_max_right _ _), h'⟩
  exact h2 next.length next.length
theorem right_by_bound (hg : Good next) (hn : 0 < next.length) (ho : Ord next l) (hT : TI next l t) (hk : ∀ p ∈ l, Kn t p) {K k : Nat}
    (hK : ∀ a n : Nat, a < next.length → n < next.length → Rc next (a : Int) n → ∃ k, k ≤ K ∧ Rn next (a : Int) k n) (hc : Claim next l k t) (hkK : K + 1 ≤ k) {n : Nat} (hnl : n ∈ l) (hn0 : n ≠ 0) :
    ∃ y : Nat, t[n]? = some (y : Int) ∧ y ∈ l ∧ Id next y n ∧ rk l y < rk l n := by
  refine right_of hn ho hT hk (fun a n hnl ha hr => ?_) hnl hn0
  have hal := (hT.anc_rk ho ha hnl).1
  obtain ⟨m, hm, h⟩ := hK a n (((ho.mem a).1 hal).lt hg) (((ho.mem n).1 hnl).lt hg) hr
  exact hc a n m m h.rr (by omega) ha
/-- where a pass changes nothing, the tree is right -/
theorem right_by_stay (hg : Good next) (hn : 0 < next.length) (ho : Ord next l) (hT : TI next l t) (hk : ∀ p ∈ l, Kn t p) (hp : PassTo next l t t l.length) {n : Nat} (hnl : n ∈ l) (hn0 : n ≠ 0) :
    ∃ y : Nat, t[n]? = some (y : Int) ∧ y ∈ l ∧ Id next y n ∧ rk l y < rk l n := by
  refine right_of hn ho hT hk (fun a n hnl ha hr => ?_) hnl hn0
  obtain ⟨k, h⟩ := hr
  have hmix : ∀ j, mix l t t j = fun p => t[p]? := fun j => by funext p; unfold mix; split <;> rfl
  have key : ∀ (k n : Nat), Rn next (a : Int) k n → ¬ Anc (fun p => t[p]?) a n := by
    intro k n h
    induction h with
    | z h h0 => intro ha; exact h0 (by have := hT.anc0 ha; omega)
    | @s k p n h1 he hne ih =>
      intro ha
      have hpl : p ∈ l := (ho.mem p).2 ⟨k, h1.weak⟩
      have hnl : n ∈ l := (ho.mem n).2 ⟨k + 1, .s h1.weak he (by omega)⟩
      by_cases hn0 : n = 0
      · subst hn0
        exact hne (by have := hT.anc0 ha; omega)
      cases ha with
      | refl => exact hne rfl
      | @up y _ hy hay =>
        obtain ⟨y', hy', hall⟩ := hp (rk l n) n (ho.ne0 hnl hn0) (rk_lt hnl) (rk_get hnl)
        have hyy : t[n]? = some (y : Int) := hy
        rw [hy'] at hyy
        have : (y' : Int) = y := Option.some.inj hyy
        obtain rfl : y' = y := by omega
        have h2 := hall p hpl he (by rw [hmix]; exact hk p hpl)
        rw [hmix] at h2
        exact ih (hay.trans h2)
  exact key k n h ha
end
end Go.Proofs.Ytkhhcodpggnchaa
