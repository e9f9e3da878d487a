/-
  The passes, step by step (plain law). Conditions: none.
-/
import Derived.Test.YtkhhcodpggnchaaPC
namespace Go.Proofs.Ytkhhcodpggnchaa
set_option linter.unusedVariables false
/-- in a pass: told is the tree ahead of it, i how far it has come -/
structure PI (next : List (List Int)) (l : List Nat) (told t : List Int) (i : Nat) (chg : Bool) : Prop where
  ti : TI next l t
  to : TI next l told
  k1 : ∀ j n, j < i → l[j]? = some n → Kn t n
  pt : PassTo next l told t i
  same : ∀ p, i ≤ rk l p → t[p]? = told[p]?
  c0 : chg = false → t = told
  c1 : chg = true → ∃ n, n ∈ l ∧ n ≠ 0 ∧ t[n]? ≠ told[n]?
/-- what best tells, ahead of the m-th -/
def BI (next : List (List Int)) (l : List Nat) (t : List Int) (n : Nat) (f : List Int) (best : Int) : Prop :=
  (best = -1 ∧ ∀ p : Nat, (p : Int) ∈ f → ¬ Kn t p) ∨
  ∃ y : Nat, best = y ∧ y ∈ l ∧ Kn t y ∧ (∀ d, d ≠ n → Dm next d n → Dm next d y) ∧ ∀ p : Nat, (p : Int) ∈ f → Kn t p → Anc (fun p => t[p]?) y p
/-- on the way up from y and from p -/
structure AB (next : List (List Int)) (l : List Nat) (t : List Int) (n y p a b : Nat) : Prop where
  al : a ∈ l
  bl : b ∈ l
  ka : Kn t a
  kb : Kn t b
  ay : Anc (fun p => t[p]?) a y
  bp : Anc (fun p => t[p]?) b p
  da : ∀ d, d ≠ n → Dm next d n → Dm next d a
  db : ∀ d, d ≠ n → Dm next d n → Dm next d b
section
variable {next : List (List Int)} {l : List Nat} {told t : List Int}
theorem AB.up (hn : 0 < next.length) (ho : Ord next l) (hT : TI next l t) {n y p a b q : Nat} (h : AB next l t n y p a b) (hne : a ≠ b) (hr : rk l b < rk l a) (hq : t[a]? = some (q : Int)) :
    AB next l t n y p q b ∧ rk l q < rk l a := by
  have ha0 : a ≠ 0 := by rintro rfl; rw [ho.rk0] at hr; omega
  obtain ⟨h1, h2, h3, h4⟩ := hT.step h.al ha0 hq
  refine ⟨⟨h1, h.bl, h3, h.kb, (Anc.up hq .refl).trans h.ay, h.bp, fun d hd hdm => ?_, h.db⟩, h2⟩
  by_cases hda : d = a
  · subst hda
    have := ho.sd hn h.bl (h.db d hd hdm) hne
    omega
  · exact h4 d hda (h.da d hd hdm)
theorem AB.swap {n y p a b : Nat} (h : AB next l t n y p a b) : AB next l t n p y b a := ⟨h.bl, h.al, h.kb, h.ka, h.bp, h.ay, h.db, h.da⟩
theorem AB.init {n y p : Nat} (hyl : y ∈ l) (hky : Kn t y) (hdy : ∀ d, d ≠ n → Dm next d n → Dm next d y) (hp : p ∈ l) (hkp : Kn t p) (ho : Ord next l) (he : Ed next p n) : AB next l t n y p y p :=
  ⟨hyl, hp, hky, hkp, .refl, .refl, hdy, fun d hd hdm => hdm.edge hd he ((ho.mem p).1 hp)⟩
theorem BI.nil {n : Nat} : BI next l t n [] (-1) := .inl ⟨rfl, fun p hp => by simp at hp⟩
theorem BI.skip {n p : Nat} {f : List Int} {best : Int} (h : BI next l t n f best) (hk : ¬ Kn t p) : BI next l t n (f ++ [(p : Int)]) best := by
  have hm : ∀ q : Nat, (q : Int) ∈ f ++ [(p : Int)] → (q : Int) ∈ f ∨ q = p := fun q hq => by
    rcases List.mem_append.1 hq with h | h
    · exact .inl h
    · have : (q : Int) = p := by simpa using h
      exact .inr (by omega)
  rcases h with ⟨h1, h2⟩ | ⟨y, h1, h2, h3, h4, h5⟩
  · refine .inl ⟨h1, fun q hq => ?_⟩
    rcases hm q hq with h | rfl
    · exact h2 q h
    · exact hk
  · refine .inr ⟨y, h1, h2, h3, h4, fun q hq hkq => ?_⟩
    rcases hm q hq with h | rfl
    · exact h5 q h hkq
    · exact absurd hkq hk
theorem BI.first {n p : Nat} {f : List Int} (h : BI next l t n f (-1)) (hp : p ∈ l) (hkp : Kn t p) (ho : Ord next l) (he : Ed next p n) : BI next l t n (f ++ [(p : Int)]) p := by
  refine .inr ⟨p, rfl, hp, hkp, fun d hd hdm => hdm.edge hd he ((ho.mem p).1 hp), fun q hq hkq => ?_⟩
  rcases h with ⟨_, h2⟩ | ⟨y, h1, _⟩
  · rcases List.mem_append.1 hq with h | h
    · exact absurd hkq (h2 q h)
    · have : (q : Int) = p := by simpa using h
      obtain rfl : q = p := by omega
      exact .refl
  · omega
theorem BI.next_ {n p y a : Nat} {f : List Int} (h : BI next l t n f y) (hab : AB next l t n y p a a) : BI next l t n (f ++ [(p : Int)]) a := by
  rcases h with ⟨h1, _⟩ | ⟨y', h1, h2, h3, h4, h5⟩
  · omega
  · obtain rfl : y = y' := by omega
    refine .inr ⟨a, rfl, hab.al, hab.ka, hab.da, fun q hq hkq => ?_⟩
    rcases List.mem_append.1 hq with h | h
    · exact hab.ay.trans (h5 q h hkq)
    · have : (q : Int) = p := by simpa using h
      obtain rfl : q = p := by omega
      exact hab.bp
/-- one node's turn -/
theorem PI.turn (hn : 0 < next.length) (ho : Ord next l) {i n : Nat} {chg : Bool} {best : Int} {f : List Int} (h : PI next l told t i chg) (hi : 1 ≤ i) (hli : l[i]? = some n)
    (hf : ∀ p ∈ l, Ed next p n → (p : Int) ∈ f) (hb : BI next l t n f best) :
    ∃ y : Nat, best = y ∧ n ≠ 0 ∧ (t[n]? = some best → PI next l told t (i + 1) chg) ∧ (t[n]? ≠ some best → PI next l told (t.set n best) (i + 1) true) := by
  have hnl : n ∈ l := List.mem_of_getElem? hli
  have hrk : rk l n = i := rk_at ho.nd hli
  have hn0 : n ≠ 0 := by rintro rfl; rw [ho.rk0] at hrk; omega
  obtain ⟨p0, hp0, hr0, he0⟩ := ho.pred hnl hn0
  have hk0 : Kn t p0 := h.k1 (rk l p0) p0 (by omega) (rk_get hp0)
  rcases hb with ⟨h1, h2⟩ | ⟨y, h1, h2, h3, h4, h5⟩
  · exact absurd hk0 (h2 p0 (hf p0 hp0 he0))
  have hry : rk l y < rk l n := by
    have := (h.ti.anc_rk ho (h5 p0 (hf p0 hp0 he0) hk0) hp0).2
    omega
  subst h1
  have hyn : y ≠ n := by rintro rfl; omega
  have hmixI : ∀ tc : List Int, (∀ p, p ≠ n → tc[p]? = t[p]?) → mix l told tc i = fun p => t[p]? := fun tc htc => by
    funext p
    unfold mix
    split
    · rename_i hlt
      exact htc p (by rintro rfl; omega)
    · rename_i hge
      exact (h.same p (by omega)).symm
  have hmixJ : ∀ (tc : List Int) (j : Nat), j < i → (∀ p, p ≠ n → tc[p]? = t[p]?) → mix l told tc j = mix l told t j := fun tc j hj htc => by
    funext p
    unfold mix
    split
    · rename_i hlt
      exact htc p (by rintro rfl; omega)
    · rfl
  have pt : ∀ tc : List Int, (∀ p, p ≠ n → tc[p]? = t[p]?) → tc[n]? = some (y : Int) → PassTo next l told tc (i + 1) := fun tc htc hy j m hj hji hm => by
    rcases Nat.lt_or_ge j i with hlt | hge
    · obtain ⟨y', hy', hall⟩ := h.pt j m hj hlt hm
      have hmn : m ≠ n := by
        rintro rfl
        have := rk_at ho.nd hm
        omega
      refine ⟨y', by rw [htc m hmn]; exact hy', ?_⟩
      rw [hmixJ tc j hlt htc]
      exact hall
    · obtain rfl : j = i := by omega
      rw [hli] at hm
      obtain rfl := Option.some.inj hm
      refine ⟨y, hy, fun p hp he hk => ?_⟩
      rw [hmixI tc htc] at hk ⊢
      exact h5 p (hf p hp he) hk
  refine ⟨y, rfl, hn0, fun hty => ?_, fun hty => ?_⟩
  · refine ⟨h.ti, h.to, fun j m hj hm => ?_, pt t (fun p _ => rfl) hty, fun p hp => h.same p (by omega), h.c0, h.c1⟩
    rcases Nat.lt_or_ge j i with hlt | hge
    · exact h.k1 j m hlt hm
    · obtain rfl : j = i := by omega
      rw [hli] at hm
      obtain rfl := Option.some.inj hm
      exact ⟨y, hty⟩
  · have hnt : n < t.length := by
      rcases h.ti.inn n hnl hn0 with h | ⟨q, h, _⟩ <;> exact (List.getElem?_eq_some_iff.1 h).1
    have hne : ∀ p, p ≠ n → (t.set n (y : Int))[p]? = t[p]? := fun p hp => List.getElem?_set_ne (Ne.symm hp)
    have hself : (t.set n (y : Int))[n]? = some (y : Int) := List.getElem?_set_self hnt
    have hkn : ∀ p, Kn t p → Kn (t.set n (y : Int)) p := fun p ⟨v, hv⟩ => by
      by_cases hpn : p = n
      · subst hpn; exact ⟨y, hself⟩
      · exact ⟨v, by rw [hne p hpn]; exact hv⟩
    refine ⟨⟨by simp [h.ti.len], by rw [hne 0 (Ne.symm hn0)]; exact h.ti.z, fun m v hm hv => ?_, fun m hm hm0 => ?_⟩, h.to, fun j m hj hm => ?_, pt _ hne hself, fun p hp => ?_, fun hc => (by cases hc), fun _ => ⟨n, hnl, hn0, ?_⟩⟩
    · have hmn : m ≠ n := by rintro rfl; exact hm hnl
      exact h.ti.out m v hm (by rw [← hne m hmn]; exact hv)
    · by_cases hmn : m = n
      · subst hmn
        exact .inr ⟨y, hself, h2, hry, hkn y h3, h4⟩
      · rw [hne m hmn]
        rcases h.ti.inn m hm hm0 with h6 | ⟨q, h6, h7, h8, h9, h10⟩
        · exact .inl h6
        · exact .inr ⟨q, h6, h7, h8, hkn q h9, h10⟩
    · rcases Nat.lt_or_ge j i with hlt | hge
      · exact hkn m (h.k1 j m hlt hm)
      · obtain rfl : j = i := by omega
        rw [hli] at hm
        obtain rfl := Option.some.inj hm
        exact ⟨y, hself⟩
    · have hpn : p ≠ n := by rintro rfl; omega
      rw [hne p hpn]
      exact h.same p (by omega)
    · rw [hself]
      have := h.same n (by omega)
      rw [← this]
      exact fun h => hty h.symm
/-- a pass begins -/
theorem PI.start (ho : Ord next l) (h : TI next l t) : PI next l t t 1 false where
  ti := h
  to := h
  k1 j n hj hn := by
    obtain rfl : j = 0 := by omega
    rw [ho.h0] at hn
    obtain rfl := Option.some.inj hn
    exact ⟨0, h.z⟩
  pt j n hj hj2 := by omega
  same p _ := rfl
  c0 _ := rfl
  c1 h := by cases h
/-- ahead of all passes -/
theorem TI.start (hg : Good next) (hn : 0 < next.length) (ho : Ord next l) : TI next l ((List.replicate next.length (-1)).set 0 0) where
  len := by simp
  z := by rw [List.getElem?_set_self (by simpa using hn)]
  out m v hm hv := by
    have hm0 : m ≠ 0 := by rintro rfl; exact hm ho.mem0
    rw [List.getElem?_set_ne (Ne.symm hm0), List.getElem?_replicate] at hv
    split at hv
    · exact (Option.some.inj hv).symm
    · cases hv
  inn m hm hm0 := .inl (by
    rw [List.getElem?_set_ne (Ne.symm hm0), List.getElem?_replicate, if_pos (((ho.mem m).1 hm).lt hg)])
/-- what holds between passes, k of which are done -/
structure PK (next : List (List Int)) (l : List Nat) (k : Nat) (t : List Int) : Prop where
  ti : TI next l t
  kn : 1 ≤ k → ∀ p ∈ l, Kn t p
  cl : Claim next l k t
theorem PK.start (hg : Good next) (hn : 0 < next.length) (ho : Ord next l) (h : TI next l t) : PK next l 0 t := ⟨h, fun h => by omega, fun a n r m h hr => by omega⟩
theorem PK.next_ (hg : Good next) (ho : Ord next l) {k : Nat} {chg : Bool} (h : PK next l k told) (hp : PI next l told t l.length chg) : PK next l (k + 1) t := by
  have hk : ∀ p ∈ l, Kn t p := fun p hp' => hp.k1 _ p (rk_lt hp') (rk_get hp')
  exact ⟨hp.ti, fun _ => hk, claim_step hg ho h.ti hp.ti k h.kn hk h.cl hp.pt⟩
/-- what the tree is to be -/
structure TreeOk (next : List (List Int)) (t : List Int) : Prop where
  len : t.length = next.length
  z : 0 < next.length → t[0]? = some (-1)
  no : ∀ b, b < next.length → ¬ Rc next (-1) b → t[b]? = some (-1)
  rk : ∃ r : Nat → Nat, ∀ b, Rc next (-1) b → r b < next.length ∧ (b ≠ 0 → ∃ a : Nat, t[b]? = some (a : Int) ∧ Id next a b ∧ r a < r b)
theorem tree_ok (hg : Good next) (hn : 0 < next.length) (ho : Ord next l) (hT : TI next l t) (hr : ∀ n, n ∈ l → n ≠ 0 → ∃ y : Nat, t[n]? = some (y : Int) ∧ y ∈ l ∧ Id next y n ∧ rk l y < rk l n) : TreeOk next (t.set 0 (-1)) where
  len := by simp [hT.len]
  z _ := by rw [List.getElem?_set_self (by rw [hT.len]; exact hn)]
  no b hb hr := by
    by_cases hb0 : b = 0
    · subst hb0; exact absurd (Rc.zero hn (by decide)) hr
    · rw [List.getElem?_set_ne (Ne.symm hb0)]
      have hbl : ¬ b ∈ l := fun h => hr ((ho.mem b).1 h)
      obtain ⟨v, hv⟩ : ∃ v, t[b]? = some v := ⟨_, List.getElem?_eq_getElem (by rw [hT.len]; exact hb)⟩
      rw [hv, hT.out b v hbl hv]
  rk := ⟨Go.Proofs.Ytkhhcodpggnchaa.rk l, fun b hb => by
    have hbl := (ho.mem b).2 hb
    refine ⟨?_, fun hb0 => ?_⟩
    · have h1 := rk_lt hbl
      have h2 := nodup_bound _ l ho.nd (fun x hx => ((ho.mem x).1 hx).lt hg)
      omega
    · obtain ⟨y, h1, h2, h3, h4⟩ := hr b hbl hb0
      exact ⟨y, by rw [List.getElem?_set_ne (Ne.symm hb0)]; exact h1, h3, h4⟩⟩
/-- where a pass changed nothing, all is right -/
theorem PK.stay (hg : Good next) (hn : 0 < next.length) (ho : Ord next l) {k : Nat} (h : PK next l k t) (hk : 1 ≤ k) (hp : PassTo next l t t l.length) : TreeOk next (t.set 0 (-1)) :=
  tree_ok hg hn ho h.ti fun n hnl hn0 => right_by_stay hg hn ho h.ti (h.kn hk) hp hnl hn0
/-- behind so many passes nothing turns -/
theorem PK.end_ (hg : Good next) (hn : 0 < next.length) (ho : Ord next l) {K k : Nat} (hK : ∀ a n : Nat, a < next.length → n < next.length → Rc next (a : Int) n → ∃ k, k ≤ K ∧ Rn next (a : Int) k n)
    (h : PK next l k told) (hk : K + 1 ≤ k) (hp : PI next l told t l.length true) : False := by
  have h' := h.next_ hg ho hp
  obtain ⟨n, hnl, hn0, hne⟩ := hp.c1 rfl
  obtain ⟨y, h1, _, h2, _⟩ := right_by_bound hg hn ho h.ti (h.kn (by omega)) hK h.cl hk hnl hn0
  obtain ⟨y', h1', _, h2', _⟩ := right_by_bound hg hn ho h'.ti (h'.kn (by omega)) hK h'.cl (by omega) hnl hn0
  rw [h1, h1', h2.uniq h2'] at hne
  exact hne rfl
end
end Go.Proofs.Ytkhhcodpggnchaa
