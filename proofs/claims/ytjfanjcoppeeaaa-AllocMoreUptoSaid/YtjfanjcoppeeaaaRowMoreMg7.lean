/-
  What is asked at each place where variables are bound: of registers that are held against it. Conditions: none.
  What is asked at each place where variables are bound: a register for each. Conditions: none.
  All places at which variables are bound: the walk over each. Conditions: none.
-/
import Derived.Test.YtjfanjcoppeeaaaRowMoreMg3
namespace Go.Proofs.Ytjfanjcoppeeaaa
open Go Go.Fw
set_option linter.unusedVariables false
/-- a place: what is bound, what lives with it, whether a block begins there -/
structure Pl where
  bs : List Int
  ks : List Int
  b : Bool
/-- what a function that is called at each place does to what it keeps -/
def AtOk {S : Type} (w0 : World) (gf : Nat) (cap : Array Value) (inv : S → It) (at_ : S → Pl → Option S) : Prop :=
  ∀ (HH : List It) (s : S) (st : Option (Nat × List Int)) (o : Option Addr) (c : Nat) (bs : List Int) (b : Bool) (w : World), HS w0 noM (inv s :: sko st :: HH) w → (∀ w', HS w0 noM HH w' → Rd w' o (flat Fw.encI bs)) → Sp o bs.length → bs.length ≤ 1000000 → (kso st).length ≤ 1000000 →
    Ret Try.prog gf (#[.slice o bs.length c, mvO st, .bool b] ++ cap) w (fun r w' => (∃ s', at_ s ⟨bs, kso st, b⟩ = some s' ∧ r = .bool true ∧ HS w0 noM (inv s' :: sko st :: HH) w') ∨ (at_ s ⟨bs, kso st, b⟩ = none ∧ r = .bool false ∧ HS w0 noM HH w'))
theorem cl_x {w0 : World} {H HH : List It} {o : Option Addr} {xs : List Value} {j : Nat} {v : Value} (hB : ∀ w', HS w0 noM HH w' → Rd w' o xs) (hs : ∀ w', HS w0 noM H w' → HS w0 noM HH w') (hv : xs[j]? = some v) : Cl (HS w0 noM H) (sat o j) v :=
  fun w hH => (cl_rd (w0 := w) (M := noM) (H := []) (hB w (hs w hH)) id hv) w (HS.init w noM)
/-- the register of a variable -/
def rgM (m : List (Int × Int)) (x : Int) : Int := (lkI m x).getD 0
theorem rgM_eq (m : List (Int × Int)) (x : Int) : (lkI m x).getD 0 = rgM m x := rfl
/-- registers are right at a place -/
def okPl (m : List (Int × Int)) (p : Pl) : Prop := (p.b = true → (p.ks.map (rgM m)).Nodup) ∧ (p.bs.map (rgM m)).Nodup ∧ ∀ x ∈ p.bs, rgM m x ∉ p.ks.map (rgM m)
open Classical in
noncomputable def atR (m : List (Int × Int)) (_ : Unit) (p : Pl) : Option Unit := if okPl m p then some () else none
theorem tk_add {f : Int → Int} {l : List Int} {x : Int} {tk : List Int} (h : ∀ y, y ∈ tk ↔ y ∈ l.map f) (y : Int) : y ∈ sadd tk (f x) ↔ y ∈ (l ++ [x]).map f := by
  rw [mem_sadd, h, List.map_append, List.mem_append]
  exact or_congr Iff.rfl (by simp)
theorem nodup_add {f : Int → Int} {l : List Int} {x : Int} (h : (l.map f).Nodup) (hx : f x ∉ l.map f) : ((l ++ [x]).map f).Nodup := by
  rw [List.map_append]
  refine List.nodup_append.2 ⟨h, List.nodup_cons.2 ⟨List.not_mem_nil, List.nodup_nil⟩, fun a ha b hb => ?_⟩
  rw [List.map_cons, List.map_nil, List.mem_singleton] at hb
  subst hb
  exact fun e => hx (e ▸ ha)
theorem nodup_map_ne {f : Int → Int} : ∀ {m : List Int}, (m.map f).Nodup → ∀ {x y : Int}, y ∈ m → x ∈ m → y ≠ x → f y ≠ f x
  | z :: m, h, x, y, hy, hx, hne, he => by
    rw [List.map_cons, List.nodup_cons] at h
    rcases List.mem_cons.1 hy with h1 | h1 <;> rcases List.mem_cons.1 hx with h2 | h2
    · exact hne (h1.trans h2.symm)
    · exact h.1 (h1 ▸ he ▸ List.mem_map_of_mem h2)
    · exact h.1 (h2 ▸ he ▸ List.mem_map_of_mem h1)
    · exact nodup_map_ne h.2 h1 h2 hne he
theorem nodup_pre {f : Int → Int} {l : List Int} {x : Int} {m : List Int} (h : (m.map f).Nodup) (hl : l.Nodup) (hs : ∀ y ∈ l, y ∈ m) (hm : x ∈ m) (hx : x ∉ l) : f x ∉ l.map f := by
  intro hc
  obtain ⟨y, hy, he⟩ := List.mem_map.1 hc
  have hne : y ≠ x := fun e => hx (e ▸ hy)
  have := nodup_map_ne h (hs y hy) hm hne
  exact this he
theorem dn_at {el dn : List (Int × Nat)} {ks : List Int} (hel : el.map (·.1) = ks) (hk : (el.map (·.1)).Nodup) (hd : ∀ e ∈ dn, e ∈ el) {e : Int × Nat} (he : e ∈ el) (hs : e ∉ dn) : e.1 ∈ ks ∧ e.1 ∉ dn.map (·.1) := by
  refine ⟨hel ▸ List.mem_map.2 ⟨e, he, rfl⟩, fun h => ?_⟩
  obtain ⟨e', he', h2⟩ := List.mem_map.1 h
  exact hs (fst_inj hk e' (hd e' he') e he h2 ▸ he')
theorem dn_perm {el dn : List (Int × Nat)} {ks : List Int} (hel : el.map (·.1) = ks) (hk : (el.map (·.1)).Nodup) (hn : dn.Nodup) (hd : ∀ e ∈ dn, e ∈ el) (hall : ∀ e ∈ el, e ∈ dn) : (dn.map (·.1)).Perm ks := by
  have h1 := dn_nodup hk hn hd
  have h2 := dn_mem hel hd hall
  exact (List.perm_ext_iff_of_nodup h1 (hel ▸ hk)).2 h2
/-- at a place's set: none met twice -/
theorem dn_bad {m : List (Int × Int)} {el dn : List (Int × Nat)} {ks bs tk : List Int} {b : Bool} (hel : el.map (·.1) = ks) (hk : (el.map (·.1)).Nodup) (hn : dn.Nodup) (hd : ∀ e ∈ dn, e ∈ el) {e : Int × Nat} (he : e ∈ el) (hs : e ∉ dn) (hb : b = true)
    (htk : ∀ y, y ∈ tk ↔ y ∈ (dn.map (·.1)).map (rgM m)) (hx : rgM m e.1 ∈ tk) : atR m () ⟨bs, ks, b⟩ = none := by
  unfold atR
  rw [if_neg]
  intro ⟨h1, _, _⟩
  have h3 := dn_at hel hk hd he hs
  exact nodup_pre (h1 hb) (dn_nodup hk hn hd) (fun y hy => by obtain ⟨e', he', rfl⟩ := List.mem_map.1 hy; exact hel ▸ List.mem_map.2 ⟨e', hd e' he', rfl⟩) h3.1 h3.2 ((htk _).1 hx)
theorem at_bad {m : List (Int × Int)} {ks bs tk : List Int} {b : Bool} {i : Nat} {x : Int} (hx : bs[i]? = some x) (htk : ∀ y, y ∈ tk ↔ y ∈ ks.map (rgM m) ∨ y ∈ (bs.take i).map (rgM m)) (hc : rgM m x ∈ tk) : atR m () ⟨bs, ks, b⟩ = none := by
  unfold atR
  rw [if_neg]
  intro ⟨_, h2, h3⟩
  rcases (htk _).1 hc with h | h
  · exact h3 x (List.mem_of_getElem? hx) h
  · have e1 : bs.take (i + 1) = bs.take i ++ [x] := take_snoc hx
    have h4 : ((bs.take (i + 1)).map (rgM m)).Nodup := by
      have := List.Nodup.sublist (l₁ := (bs.take (i + 1)).map (rgM m)) ((List.take_sublist _ _).map _) h2
      exact this
    rw [e1, List.map_append] at h4
    exact (List.nodup_append.1 h4).2.2 _ h _ (by simp) rfl
theorem at_good {m : List (Int × Int)} {ks bs : List Int} {b : Bool} (h1 : b = true → (ks.map (rgM m)).Nodup) (h2 : (bs.map (rgM m)).Nodup) (h3 : ∀ x ∈ bs, rgM m x ∉ ks.map (rgM m)) : atR m () ⟨bs, ks, b⟩ = some () := by
  unfold atR
  rw [if_pos ⟨h1, h2, h3⟩]
theorem b_no {b : Bool} {p : Prop} (h : b = true) (h2 : b = false) : p := by rw [h] at h2; cases h2
theorem tk_dn {f : Int → Int} {dn : List (Int × Nat)} {e : Int × Nat} {tk : List Int} (h : ∀ y, y ∈ tk ↔ y ∈ (dn.map (·.1)).map f) (y : Int) : y ∈ sadd tk (f e.1) ↔ y ∈ ((dn ++ [e]).map (·.1)).map f := by
  rw [List.map_append]
  exact tk_add h y
theorem nd_dn {f : Int → Int} {dn : List (Int × Nat)} {e : Int × Nat} (h : ((dn.map (·.1)).map f).Nodup) (hx : f e.1 ∉ (dn.map (·.1)).map f) : (((dn ++ [e]).map (·.1)).map f).Nodup := by
  rw [List.map_append]
  exact nodup_add h hx
theorem tk_bs {f : Int → Int} {ks bs : List Int} {i : Nat} {x : Int} {tk : List Int} (hx : bs[i]? = some x) (h : ∀ y, y ∈ tk ↔ y ∈ ks.map f ∨ y ∈ (bs.take i).map f) (y : Int) : y ∈ sadd tk (f x) ↔ y ∈ ks.map f ∨ y ∈ (bs.take (i + 1)).map f := by
  rw [mem_sadd, h, take_snoc hx, List.map_append, List.mem_append, or_assoc]
  exact or_congr Iff.rfl (or_congr Iff.rfl (by simp))
set_option maxRecDepth 10000 attribute [local irreducible] Code.wp wpList Calls Ex Op1 sat bat blk cb own Go.Fw.mp Go.Fw.mpO Go.Fw.mpI Go.Fw.mpE Go.Fw.itr HS Rd Ret wkD Hp Cl Cls Exit.then Exit.inBlock Exit.noGoto bodyPost Go.Fw.flat wk2 Go.Fw.all Go.Fw.owns wpOp
attribute [local irreducible] sk mpK srt sko itS mpS mvO rgM atR

set_option maxHeartbeats 4000000 in
theorem atR_spec (w0 : World) (bR mR : Nat) (m : List (Int × Int)) : AtOk w0 23 #[.pointer (some (bat bR 0))] (fun _ : Unit => all [cb bR 67 [.map (some mR)], mpI mR m]) (atR m) := by
  intro HH s st o c bs b w hH hB hsp hbl hkl
  have hH := hH.open_
  show Ret _ _ #[.slice o bs.length c, mvO st, .bool b, .pointer (some (bat bR 0))] _ _
  (refine enter (N := 47) Try.func23 rfl Try.ntmps23 rfl ?_; intro a hA; dsimp only [sl0, Nat.reduceAdd] at hA)
  repeat' (first | (first | (refine GT ?_ ?_ <;> intro hg <;> clear hA a <;> intro a hA <;> (first | exact FA | replace hg := of_decide_eq_true hg | replace hg := of_decide_eq_false hg | skip)) | (refine QT ?_; clear hA a; intro a hA) | (first | (refine BT ?_; clear hA hH; rintro _ w ⟨bN, rfl, hH⟩ a hA) | (refine LT ?_; clear hA hH; rintro _ w ⟨oN, rfl, hH⟩ a hA) | (refine AT ?_; clear hA; rintro _ w ⟨oN, cN, rfl, hH2⟩ a hA; clear hH; have hH := (hH2 _ (by (repeat constructor))).tail; clear hH2) | (refine S0T ?_; clear hH; rintro _ w hH) | (refine st_op hA rfl rfl (by decide) (op_makeMapK hH) ?_; clear hA hH; rintro _ w ⟨bT, rfl, hH⟩ a hA))) | ((first | refine CT ?_ | (refine DT ?_ ?_ <;> intro hc <;> try (exfalso; omega))) <;> repeat' refine CT ?_) | (first | (refine DSK ?_; clear hA a; intro a hA) | (first | (refine DLT ?_; clear hA hH; rintro _ w ⟨oN, rfl, hH⟩; refine ⟨STT, ?_⟩; intro a hA) | (refine DAT ?_; clear hA; rintro _ w ⟨oN, cN, rfl, hH2⟩; clear hH; have hH := (hH2 _ (by (repeat constructor))).tail; clear hH2; refine ⟨STT, ?_⟩; intro a hA))) )
  obtain ⟨el, clock, hel, hok, hop⟩ := HS.openS (st := st) hH (by exact MEMT)
  replace hH := hop _ (by (repeat constructor))
  clear hop
  have hell : el.length = (kso st).length := by rw [← hel, List.length_map]
  (refine st_op hA rfl rfl (by decide) (op_rangeS (st := st) rfl hH (by exact MEMT)) ?_; clear hA hH; rintro _ w ⟨r, rfl, hH⟩ a hA)
  repeat' (first | (first | (refine GT ?_ ?_ <;> intro hg <;> clear hA a <;> intro a hA <;> (first | exact FA | replace hg := of_decide_eq_true hg | replace hg := of_decide_eq_false hg | skip)) | (refine QT ?_; clear hA a; intro a hA) | (first | (refine BT ?_; clear hA hH; rintro _ w ⟨bN, rfl, hH⟩ a hA) | (refine LT ?_; clear hA hH; rintro _ w ⟨oN, rfl, hH⟩ a hA) | (refine AT ?_; clear hA; rintro _ w ⟨oN, cN, rfl, hH2⟩ a hA; clear hH; have hH := (hH2 _ (by (repeat constructor))).tail; clear hH2) | (refine S0T ?_; clear hH; rintro _ w hH) )) | ((first | refine CT ?_ | (refine DT ?_ ?_ <;> intro hc <;> try (exfalso; omega))) <;> repeat' refine CT ?_) | (first | (refine DSK ?_; clear hA a; intro a hA) | (first | (refine DLT ?_; clear hA hH; rintro _ w ⟨oN, rfl, hH⟩; refine ⟨STT, ?_⟩; intro a hA) | (refine DAT ?_; clear hA; rintro _ w ⟨oN, cN, rfl, hH2⟩; clear hH; have hH := (hH2 _ (by (repeat constructor))).tail; clear hH2; refine ⟨STT, ?_⟩; intro a hA))) )
  refine wp_lpk (S := List (Int × Nat)) (fun dn a w => ∃ tk, (dn.Nodup ∧ (∀ e ∈ dn, e ∈ el) ∧ (∀ y, y ∈ tk ↔ y ∈ (dn.map (·.1)).map (rgM m)) ∧ (b = true → ((dn.map (·.1)).map (rgM m)).Nodup)) ∧ HS w0 noM (sk bT tk :: itS r st clock dn :: mpS st el clock :: cb bR 67 [.map (some mR)] :: mpI mR m :: HH) w ∧
      Sl 47 [(14, .pointer (some (bat r 0))), (8, .map (some bT)), (0, .slice o bs.length c), (2, .bool b), (3, .pointer (some (bat bR 0)))] a) (fun dn => el.length - dn.length)
    (fun a w => ∃ tk, ((∀ y, y ∈ tk ↔ y ∈ (kso st).map (rgM m)) ∧ (b = true → ((kso st).map (rgM m)).Nodup)) ∧ HS w0 noM (sk bT tk :: sko st :: cb bR 67 [.map (some mR)] :: mpI mR m :: HH) w ∧
      Sl 47 [(8, .map (some bT)), (0, .slice o bs.length c), (3, .pointer (some (bat bR 0)))] a) [] ⟨[], ⟨List.nodup_nil, fun e he => absurd he List.not_mem_nil, fun y => Iff.rfl, fun _ => List.nodup_nil⟩, hH.perm (by (repeat (first | exact List.Perm.refl _ | exact List.Perm.nil | refine perm_pick 0 rfl ?_ | refine perm_pick 1 rfl ?_ | refine perm_pick 2 rfl ?_ | refine perm_pick 3 rfl ?_ | refine perm_pick 4 rfl ?_ | refine perm_pick 5 rfl ?_ | refine perm_pick 6 rfl ?_ | refine perm_pick 7 rfl ?_ | refine perm_pick 8 rfl ?_ | refine perm_pick 9 rfl ?_ | refine perm_pick 10 rfl ?_ | refine perm_pick 11 rfl ?_))), (hA.sub (by (repeat (first | exact trivial | refine ⟨rfl, ?_⟩))))⟩ ?_ ?_
  · clear hA hH
    rintro dn a w ⟨tk, ⟨hn, hd, htk, hnd⟩, hH, hA⟩
    repeat' (first | (first | (refine GT ?_ ?_ <;> intro hg <;> clear hA a <;> intro a hA <;> (first | exact FA | replace hg := of_decide_eq_true hg | replace hg := of_decide_eq_false hg | skip)) | (refine QT ?_; clear hA a; intro a hA) | (first | (refine BT ?_; clear hA hH; rintro _ w ⟨bN, rfl, hH⟩ a hA) | (refine LT ?_; clear hA hH; rintro _ w ⟨oN, rfl, hH⟩ a hA) | (refine AT ?_; clear hA; rintro _ w ⟨oN, cN, rfl, hH2⟩ a hA; clear hH; have hH := (hH2 _ (by (repeat constructor))).tail; clear hH2) | (refine S0T ?_; clear hH; rintro _ w hH) )) | ((first | refine CT ?_ | (refine DT ?_ ?_ <;> intro hc <;> try (exfalso; omega))) <;> repeat' refine CT ?_) | (first | (refine DSK ?_; clear hA a; intro a hA) | (first | (refine DLT ?_; clear hA hH; rintro _ w ⟨oN, rfl, hH⟩; refine ⟨STT, ?_⟩; intro a hA) | (refine DAT ?_; clear hA; rintro _ w ⟨oN, cN, rfl, hH2⟩; clear hH; have hH := (hH2 _ (by (repeat constructor))).tail; clear hH2; refine ⟨STT, ?_⟩; intro a hA))) )
    refine st_op hA rfl rfl (by decide) (op_nextS (st := st) rfl hH (by exact MEMT) (by exact MEMT) hel hok hd) ?_
    clear hA
    rintro _ w2 (⟨hall, rfl, hH⟩ | ⟨e, he, hs, rfl, hup⟩) a hA
    · repeat' (first | (first | (refine GT ?_ ?_ <;> intro hg <;> clear hA a <;> intro a hA <;> (first | exact FA | replace hg := of_decide_eq_true hg | replace hg := of_decide_eq_false hg | skip)) | (refine QT ?_; clear hA a; intro a hA) | (first | (refine BT ?_; clear hA hH; rintro _ w ⟨bN, rfl, hH⟩ a hA) | (refine LT ?_; clear hA hH; rintro _ w ⟨oN, rfl, hH⟩ a hA) | (refine AT ?_; clear hA; rintro _ w ⟨oN, cN, rfl, hH2⟩ a hA; clear hH; have hH := (hH2 _ (by (repeat constructor))).tail; clear hH2) | (refine S0T ?_; clear hH; rintro _ w hH) )) | ((first | refine CT ?_ | (refine DT ?_ ?_ <;> intro hc <;> try (exfalso; omega))) <;> repeat' refine CT ?_) | (first | (refine DSK ?_; clear hA a; intro a hA) | (first | (refine DLT ?_; clear hA hH; rintro _ w ⟨oN, rfl, hH⟩; refine ⟨STT, ?_⟩; intro a hA) | (refine DAT ?_; clear hA; rintro _ w ⟨oN, cN, rfl, hH2⟩; clear hH; have hH := (hH2 _ (by (repeat constructor))).tail; clear hH2; refine ⟨STT, ?_⟩; intro a hA))) )
      replace hH := HS.shutS (st := st) hH hel hok (by (repeat constructor))
      have hp := (dn_perm hel hok.keys hn hd hall).map (rgM m)
      exact ⟨tk, ⟨fun y => (htk y).trans hp.mem_iff, fun h => hp.nodup_iff.1 (hnd h)⟩, hH.rm 1, (hA.sub (by (repeat (first | exact trivial | refine ⟨rfl, ?_⟩))))⟩
    · have hlt := done_lt hn hd he hs
      clear hH
      have hH := hup _ (by (repeat constructor))
      clear hup
      have ha := dn_add (ks := []) (ks' := dn.map (·.1)) hn hd he hs (fun x => by simp)
      repeat' (first | (first | (refine GT ?_ ?_ <;> intro hg <;> clear hA a <;> intro a hA <;> (first | exact FA | replace hg := of_decide_eq_true hg | replace hg := of_decide_eq_false hg | skip)) | ((first | apply st_ex hA hH rfl rfl (by decide) | apply dr_ex hA rfl rfl rfl (by decide) | apply dr_exp hA rfl rfl rfl (by decide) | apply dr_ex3 hA hH rfl rfl rfl (by decide)); (first | (apply ex_entryS (st := st); rfl; exact MEMT; exact MEMT; exact hel; exact hok; exact he) | (apply ex_hasK; rfl; rfl; exact MEMT)); clear hA a; intro a hA) | (refine QT ?_; clear hA a; intro a hA) | (first | (refine BT ?_; clear hA hH; rintro _ w ⟨bN, rfl, hH⟩ a hA) | (refine LT ?_; clear hA hH; rintro _ w ⟨oN, rfl, hH⟩ a hA) | (refine AT ?_; clear hA; rintro _ w ⟨oN, cN, rfl, hH2⟩ a hA; clear hH; have hH := (hH2 _ (by (repeat constructor))).tail; clear hH2) | (refine S0T ?_; clear hH; rintro _ w hH) | (apply st_op0 hA rfl rfl; apply op_addK; rfl; rfl; rfl; exact hH; (repeat constructor); clear hH; rintro _ w hH))) | ((first | refine CT ?_ | (refine DT ?_ ?_ <;> intro hc <;> try (exfalso; omega))) <;> repeat' refine CT ?_) | (first | (refine DSK ?_; clear hA a; intro a hA) | (first | (refine DLT ?_; clear hA hH; rintro _ w ⟨oN, rfl, hH⟩; refine ⟨STT, ?_⟩; intro a hA) | (refine DAT ?_; clear hA; rintro _ w ⟨oN, cN, rfl, hH2⟩; clear hH; have hH := (hH2 _ (by (repeat constructor))).tail; clear hH2; refine ⟨STT, ?_⟩; intro a hA))) )
      · rw [rgM_eq] at *
        exact rt1 (.inl rfl) rfl hA rfl (.inr ⟨dn_bad hel hok.keys hn hd he hs (by assumption) htk (by assumption), rfl, hH.tail.tail.tail.tail.tail⟩)
      · have hl : (dn ++ [e]).length = dn.length + 1 := by rw [List.length_append]; rfl
        rw [rgM_eq] at *
        exact ⟨dn ++ [e], ⟨_, ⟨ha.1, ha.2.1, tk_dn htk, fun h => nd_dn (hnd h) fun hc => (by assumption : ¬ rgM m e.1 ∈ tk) ((htk _).2 hc)⟩, hH, (hA.sub (by (repeat (first | exact trivial | refine ⟨rfl, ?_⟩))))⟩, by omega⟩
      · have hl : (dn ++ [e]).length = dn.length + 1 := by rw [List.length_append]; rfl
        rw [rgM_eq] at *
        exact ⟨dn ++ [e], ⟨_, ⟨ha.1, ha.2.1, tk_dn htk, fun h => b_no h (by assumption)⟩, hH, (hA.sub (by (repeat (first | exact trivial | refine ⟨rfl, ?_⟩))))⟩, by omega⟩
  clear hA hH
  rintro a w ⟨tk, ⟨htk, hnd⟩, hH, hA⟩
  repeat' (first | (first | (refine GT ?_ ?_ <;> intro hg <;> clear hA a <;> intro a hA <;> (first | exact FA | replace hg := of_decide_eq_true hg | replace hg := of_decide_eq_false hg | skip)) | (refine QT ?_; clear hA a; intro a hA) | (first | (refine BT ?_; clear hA hH; rintro _ w ⟨bN, rfl, hH⟩ a hA) | (refine LT ?_; clear hA hH; rintro _ w ⟨oN, rfl, hH⟩ a hA) | (refine AT ?_; clear hA; rintro _ w ⟨oN, cN, rfl, hH2⟩ a hA; clear hH; have hH := (hH2 _ (by (repeat constructor))).tail; clear hH2) | (refine S0T ?_; clear hH; rintro _ w hH) )) | ((first | refine CT ?_ | (refine DT ?_ ?_ <;> intro hc <;> try (exfalso; omega))) <;> repeat' refine CT ?_) | (first | (refine DSK ?_; clear hA a; intro a hA) | (first | (refine DLT ?_; clear hA hH; rintro _ w ⟨oN, rfl, hH⟩; refine ⟨STT, ?_⟩; intro a hA) | (refine DAT ?_; clear hA; rintro _ w ⟨oN, cN, rfl, hH2⟩; clear hH; have hH := (hH2 _ (by (repeat constructor))).tail; clear hH2; refine ⟨STT, ?_⟩; intro a hA))) )
  refine wp_lpk (S := Nat) (fun i a w => ∃ tk, (i ≤ bs.length ∧ (∀ y, y ∈ tk ↔ y ∈ (kso st).map (rgM m) ∨ y ∈ (bs.take i).map (rgM m)) ∧ ((bs.take i).map (rgM m)).Nodup ∧ ∀ x ∈ bs.take i, rgM m x ∉ (kso st).map (rgM m)) ∧ HS w0 noM (sk bT tk :: sko st :: cb bR 67 [.map (some mR)] :: mpI mR m :: HH) w ∧
      Sl 47 [(33, .int .i64 i), (32, .int .i64 bs.length), (31, .slice o bs.length c), (8, .map (some bT)), (3, .pointer (some (bat bR 0)))] a) (fun i => bs.length - i)
    (fun a w => ((bs.map (rgM m)).Nodup ∧ ∀ x ∈ bs, rgM m x ∉ (kso st).map (rgM m)) ∧ HS w0 noM (sko st :: cb bR 67 [.map (some mR)] :: mpI mR m :: HH) w ∧ Sl 47 [] a) 0 ⟨tk, ⟨Nat.zero_le _, fun y => by simp [htk], List.nodup_nil, fun x hx => absurd hx List.not_mem_nil⟩, hH, (hA.sub (by (repeat (first | exact trivial | refine ⟨rfl, ?_⟩))))⟩ ?_ ?_
  · clear hA hH htk
    rintro i a w ⟨tk, ⟨hi, htk, hn2, hn3⟩, hH, hA⟩
    by_cases hlt : i < bs.length
    rotate_left
    · obtain rfl : i = bs.length := by omega
      rw [List.take_length] at hn2 hn3
      repeat' (first | (first | (refine GT ?_ ?_ <;> intro hg <;> clear hA a <;> intro a hA <;> (first | exact FA | replace hg := of_decide_eq_true hg | replace hg := of_decide_eq_false hg | skip)) | (refine QT ?_; clear hA a; intro a hA) | (first | (refine BT ?_; clear hA hH; rintro _ w ⟨bN, rfl, hH⟩ a hA) | (refine LT ?_; clear hA hH; rintro _ w ⟨oN, rfl, hH⟩ a hA) | (refine AT ?_; clear hA; rintro _ w ⟨oN, cN, rfl, hH2⟩ a hA; clear hH; have hH := (hH2 _ (by (repeat constructor))).tail; clear hH2) | (refine S0T ?_; clear hH; rintro _ w hH) )) | ((first | refine CT ?_ | (refine DT ?_ ?_ <;> intro hc <;> try (exfalso; omega))) <;> repeat' refine CT ?_) | (first | (refine DSK ?_; clear hA a; intro a hA) | (first | (refine DLT ?_; clear hA hH; rintro _ w ⟨oN, rfl, hH⟩; refine ⟨STT, ?_⟩; intro a hA) | (refine DAT ?_; clear hA; rintro _ w ⟨oN, cN, rfl, hH2⟩; clear hH; have hH := (hH2 _ (by (repeat constructor))).tail; clear hH2; refine ⟨STT, ?_⟩; intro a hA))) )
      exact ⟨⟨hn2, hn3⟩, hH.tail, (hA.sub (by (repeat (first | exact trivial | refine ⟨rfl, ?_⟩))))⟩
    obtain ⟨x, hx⟩ : ∃ x, bs[i]? = some x := ⟨_, List.getElem?_eq_getElem hlt⟩
    have hv : (flat Fw.encI bs)[i * 1]? = some (.int .i64 x) := flat_get (off := 0) Fw.encI_len hx rfl
    repeat' (first | (first | (refine GT ?_ ?_ <;> intro hg <;> clear hA a <;> intro a hA <;> (first | exact FA | replace hg := of_decide_eq_true hg | replace hg := of_decide_eq_false hg | skip)) | ((first | apply st_ex hA hH rfl rfl (by decide) | apply dr_ex hA rfl rfl rfl (by decide) | apply dr_exp hA rfl rfl rfl (by decide) | apply dr_ex3 hA hH rfl rfl rfl (by decide)); (first | (apply ex_hasK; rfl; rfl; exact MEMT) | (apply ex_indexAddr_nat; rfl; rfl; omega; exact hsp) | (apply ex_load; rfl; exact cl_x hB (fun w h => h.tail.tail.tail.tail) hv)); clear hA a; intro a hA) | (refine QT ?_; clear hA a; intro a hA) | (first | (refine BT ?_; clear hA hH; rintro _ w ⟨bN, rfl, hH⟩ a hA) | (refine LT ?_; clear hA hH; rintro _ w ⟨oN, rfl, hH⟩ a hA) | (refine AT ?_; clear hA; rintro _ w ⟨oN, cN, rfl, hH2⟩ a hA; clear hH; have hH := (hH2 _ (by (repeat constructor))).tail; clear hH2) | (refine S0T ?_; clear hH; rintro _ w hH) | (apply st_op0 hA rfl rfl; apply op_addK; rfl; rfl; rfl; exact hH; (repeat constructor); clear hH; rintro _ w hH))) | ((first | refine CT ?_ | (refine DT ?_ ?_ <;> intro hc <;> try (exfalso; omega))) <;> repeat' refine CT ?_) | (first | (refine DSK ?_; clear hA a; intro a hA) | (first | (refine DLT ?_; clear hA hH; rintro _ w ⟨oN, rfl, hH⟩; refine ⟨STT, ?_⟩; intro a hA) | (refine DAT ?_; clear hA; rintro _ w ⟨oN, cN, rfl, hH2⟩; clear hH; have hH := (hH2 _ (by (repeat constructor))).tail; clear hH2; refine ⟨STT, ?_⟩; intro a hA))) )
    · rw [rgM_eq] at *
      exact rt1 (.inl rfl) rfl hA rfl (.inr ⟨at_bad hx htk (by assumption), rfl, hH.tail.tail.tail.tail⟩)
    · rw [rgM_eq] at *
      have hnx : ¬ rgM m x ∈ tk := by assumption
      rw [htk, not_or] at hnx
      refine ⟨i + 1, ⟨_, ⟨hlt, tk_bs hx htk, nd_next hx hn2 hnx.2, fun y hy => ?_⟩, hH, (hA.sub (by (repeat (first | exact trivial | refine ⟨rfl, ?_⟩))))⟩, by omega⟩
      rw [take_snoc hx] at hy
      rcases List.mem_append.1 hy with h | h
      · exact hn3 y h
      · rw [List.mem_singleton] at h
        exact h ▸ hnx.1
  clear hA hH htk
  rintro a w ⟨⟨hn2, hn3⟩, hH, hA⟩
  repeat' (first | (first | (refine GT ?_ ?_ <;> intro hg <;> clear hA a <;> intro a hA <;> (first | exact FA | replace hg := of_decide_eq_true hg | replace hg := of_decide_eq_false hg | skip)) | (refine QT ?_; clear hA a; intro a hA) | (first | (refine BT ?_; clear hA hH; rintro _ w ⟨bN, rfl, hH⟩ a hA) | (refine LT ?_; clear hA hH; rintro _ w ⟨oN, rfl, hH⟩ a hA) | (refine AT ?_; clear hA; rintro _ w ⟨oN, cN, rfl, hH2⟩ a hA; clear hH; have hH := (hH2 _ (by (repeat constructor))).tail; clear hH2) | (refine S0T ?_; clear hH; rintro _ w hH) )) | ((first | refine CT ?_ | (refine DT ?_ ?_ <;> intro hc <;> try (exfalso; omega))) <;> repeat' refine CT ?_) | (first | (refine DSK ?_; clear hA a; intro a hA) | (first | (refine DLT ?_; clear hA hH; rintro _ w ⟨oN, rfl, hH⟩; refine ⟨STT, ?_⟩; intro a hA) | (refine DAT ?_; clear hA; rintro _ w ⟨oN, cN, rfl, hH2⟩; clear hH; have hH := (hH2 _ (by (repeat constructor))).tail; clear hH2; refine ⟨STT, ?_⟩; intro a hA))) )
  exact rt1 (.inl rfl) rfl hA rfl (.inl ⟨(), at_good hnd hn2 hn3, rfl, HS.shut (L := [_, _]) ((hH.up 2 rfl).up 2 rfl)⟩)
end Go.Proofs.Ytjfanjcoppeeaaa
namespace Go.Proofs.Ytjfanjcoppeeaaa
open Go Go.Fw
set_option linter.unusedVariables false
theorem nodup_sub : ∀ {l m : List Int}, l.Nodup → (∀ x ∈ l, x ∈ m) → l.length ≤ m.length
  | [], m, _, _ => Nat.zero_le _
  | x :: l, m, hn, hs => by
    have hx := hs x (.head _)
    have := nodup_sub (l := l) (m := m.erase x) (List.nodup_cons.1 hn).2 fun y hy => (List.mem_erase_of_ne fun (e : y = x) => (List.nodup_cons.1 hn).1 (e ▸ hy)).2 (hs y (.tail _ hy))
    rw [List.length_erase_of_mem hx] at this
    have := List.length_pos_of_mem hx
    rw [List.length_cons]
    omega
theorem range_nodup (n : Nat) : ((List.range n).map fun k : Nat => (k : Int)).Nodup := by
  unfold List.Nodup
  rw [List.pairwise_map]
  exact List.nodup_range.imp fun h e => h (by omega)
/-- the least number that isn't taken -/
def IsLst (tk : List Int) (r : Nat) : Prop := (r : Int) ∉ tk ∧ ∀ k : Nat, k < r → (k : Int) ∈ tk
theorem lst_le {tk : List Int} {r : Nat} (h : ∀ k : Nat, k < r → (k : Int) ∈ tk) : r ≤ tk.length := by
  have := nodup_sub (range_nodup r) (m := tk) fun x hx => by
    obtain ⟨k, hk, rfl⟩ := List.mem_map.1 hx
    exact h k (List.mem_range.1 hk)
  simpa using this
theorem lst_ex (tk : List Int) : ∃ r, IsLst tk r := by
  have key : ∀ n r : Nat, n + r = tk.length + 1 → (∀ k : Nat, k < r → (k : Int) ∈ tk) → ∃ r, IsLst tk r := by
    intro n
    induction n with
    | zero =>
      intro r hr h
      have := lst_le h
      omega
    | succ n ih =>
      intro r hr h
      by_cases hm : (r : Int) ∈ tk
      · refine ih (r + 1) (by omega) fun k hk => ?_
        by_cases hkr : k = r
        · subst hkr; exact hm
        · exact h k (by omega)
      · exact ⟨r, hm, h⟩
  exact key (tk.length + 1) 0 (by omega) fun k hk => by omega
noncomputable def lst (tk : List Int) : Nat := (lst_ex tk).choose
theorem lst_is (tk : List Int) : IsLst tk (lst tk) := (lst_ex tk).choose_spec
/-- a variable takes the least register free -/
noncomputable def asg (s : List (Int × Int) × List Int) (x : Int) : List (Int × Int) × List Int := (setI s.1 x (lst s.2 : Nat), s.2 ++ [(lst s.2 : Int)])
noncomputable def asgs (m : List (Int × Int)) (ks bs : List Int) : List (Int × Int) × List Int := bs.foldl asg (m, ks.map (rgM m))
noncomputable def atC (s : Nat × List (Int × Int)) (p : Pl) : Option (Nat × List (Int × Int)) := some (max s.1 (p.bs.length + p.ks.length), (asgs s.2 p.ks p.bs).1)
theorem asgs_snoc (m : List (Int × Int)) (ks : List Int) {bs : List Int} {i : Nat} {x : Int} (hx : bs[i]? = some x) : asgs m ks (bs.take (i + 1)) = asg (asgs m ks (bs.take i)) x := by
  unfold asgs
  rw [take_snoc hx, List.foldl_append]
  rfl
theorem asgs_nil (m : List (Int × Int)) (ks : List Int) : asgs m ks [] = (m, ks.map (rgM m)) := rfl
theorem asg_len (s : List (Int × Int) × List Int) (x : Int) : (asg s x).2.length = s.2.length + 1 := by simp [asg]
theorem asgs_len (m : List (Int × Int)) (ks bs : List Int) : (asgs m ks bs).2.length = ks.length + bs.length := by
  unfold asgs
  have key : ∀ (bs : List Int) (s : List (Int × Int) × List Int), (bs.foldl asg s).2.length = s.2.length + bs.length := by
    intro bs
    induction bs with
    | nil => intro s; rfl
    | cons x bs ih =>
      intro s
      rw [List.foldl_cons, ih, asg_len, List.length_cons]
      omega
  rw [key, List.length_map]
theorem asg_tk {s : List (Int × Int) × List Int} {tk : List Int} {r : Nat} {x : Int} (h : ∀ y, y ∈ tk ↔ y ∈ s.2) (hr : r = lst s.2) (y : Int) : y ∈ sadd tk (r : Int) ↔ y ∈ (asg s x).2 := by
  subst hr
  rw [mem_sadd, h]
  unfold asg
  rw [List.mem_append, List.mem_singleton]
theorem asg_m {s : List (Int × Int) × List Int} {r : Nat} {x : Int} (hr : r = lst s.2) : setI s.1 x (r : Int) = (asg s x).1 := by subst hr; rfl
theorem max_if (a b : Nat) : (if (b : Int) > (a : Int) then (b : Int) else (a : Int)) = ((max a b : Nat) : Int) := by
  split <;> omega
set_option maxRecDepth 10000 attribute [local irreducible] Code.wp wpList Calls Ex Op1 sat bat blk cb own Go.Fw.mp Go.Fw.mpO Go.Fw.mpI Go.Fw.mpE Go.Fw.itr HS Rd Ret wkD Hp Cl Cls Exit.then Exit.inBlock Exit.noGoto bodyPost Go.Fw.flat wk2 Go.Fw.all Go.Fw.owns wpOp
attribute [local irreducible] sk mpK srt sko itS mpS mvO rgM asgs asg

set_option maxHeartbeats 4000000 in
theorem atC_spec (w0 : World) (bP bR mR : Nat) : AtOk w0 30 #[.pointer (some (bat bP 0)), .pointer (some (bat bR 0))]
    (fun s : Nat × List (Int × Int) => facI (s.1 ≤ 2000000) (all [cb bP 3 [.int .i64 s.1], cb bR 67 [.map (some mR)], mpI mR s.2])) atC := by
  intro HH s st o c bs b w hH hB hsp hbl hkl
  obtain ⟨pr, m⟩ := s
  obtain ⟨hpr, hH⟩ := hH.facI_open
  have hH := hH.open_
  dsimp only at hpr hH
  refine Ret.mono (R := fun r w' => r = .bool true ∧ HS w0 noM (cb bP 3 [.int .i64 (max pr (bs.length + (kso st).length) : Nat)] :: cb bR 67 [.map (some mR)] :: mpI mR (asgs m (kso st) bs).1 :: sko st :: HH) w') ?_ ?_
  rotate_left
  · rintro r w' ⟨rfl, h⟩
    exact .inl ⟨_, rfl, rfl, HS.facI_shut (by dsimp only; omega) (HS.shut (L := [_, _, _]) h)⟩
  show Ret _ _ #[.slice o bs.length c, mvO st, .bool b, .pointer (some (bat bP 0)), .pointer (some (bat bR 0))] _ _
  (refine enter (N := 49) Try.func30 rfl Try.ntmps30 rfl ?_; intro a hA; dsimp only [sl0, Nat.reduceAdd] at hA)
  repeat' (first | (first | (refine GT ?_ ?_ <;> intro hg <;> clear hA a <;> intro a hA <;> (first | exact FA | replace hg := of_decide_eq_true hg | replace hg := of_decide_eq_false hg | skip)) | ((first | apply st_ex hA hH rfl rfl (by decide) | apply dr_ex hA rfl rfl rfl (by decide) | apply dr_exp hA rfl rfl rfl (by decide) | apply dr_ex3 hA hH rfl rfl rfl (by decide)); (first | (apply ex_lenS (st := st); rfl; exact MEMT)); clear hA a; intro a hA) | (refine QT ?_; clear hA a; intro a hA) | (first | (refine BT ?_; clear hA hH; rintro _ w ⟨bN, rfl, hH⟩ a hA) | (refine LT ?_; clear hA hH; rintro _ w ⟨oN, rfl, hH⟩ a hA) | (refine AT ?_; clear hA; rintro _ w ⟨oN, cN, rfl, hH2⟩ a hA; clear hH; have hH := (hH2 _ (by (repeat constructor))).tail; clear hH2) | (refine S0T ?_; clear hH; rintro _ w hH) | (refine st_op hA rfl rfl (by decide) (op_makeMapK hH) ?_; clear hA hH; rintro _ w ⟨bT, rfl, hH⟩ a hA))) | ((first | refine CT ?_ | (refine DT ?_ ?_ <;> intro hc <;> try (exfalso; omega))) <;> repeat' refine CT ?_) | (first | (refine DSK ?_; clear hA a; intro a hA) | (first | (refine DLT ?_; clear hA hH; rintro _ w ⟨oN, rfl, hH⟩; refine ⟨STT, ?_⟩; intro a hA) | (refine DAT ?_; clear hA; rintro _ w ⟨oN, cN, rfl, hH2⟩; clear hH; have hH := (hH2 _ (by (repeat constructor))).tail; clear hH2; refine ⟨STT, ?_⟩; intro a hA))) )
  rw [show (bs.length : Int) + ((kso st).length : Int) = ((bs.length + (kso st).length : Nat) : Int) by omega, max_if] at hA hH
  obtain ⟨el, clock, hel, hok, hop⟩ := HS.openS (st := st) hH (by exact MEMT)
  replace hH := hop _ (by (repeat constructor))
  clear hop
  have hell : el.length = (kso st).length := by rw [← hel, List.length_map]
  (refine st_op hA rfl rfl (by decide) (op_rangeS (st := st) rfl hH (by exact MEMT)) ?_; clear hA hH; rintro _ w ⟨r, rfl, hH⟩ a hA)
  obtain ⟨np, hnp⟩ : ∃ x, x = max pr (bs.length + (kso st).length) := ⟨_, rfl⟩
  rw [← hnp] at hH ⊢
  repeat' (first | (first | (refine GT ?_ ?_ <;> intro hg <;> clear hA a <;> intro a hA <;> (first | exact FA | replace hg := of_decide_eq_true hg | replace hg := of_decide_eq_false hg | skip)) | (refine QT ?_; clear hA a; intro a hA) | (first | (refine BT ?_; clear hA hH; rintro _ w ⟨bN, rfl, hH⟩ a hA) | (refine LT ?_; clear hA hH; rintro _ w ⟨oN, rfl, hH⟩ a hA) | (refine AT ?_; clear hA; rintro _ w ⟨oN, cN, rfl, hH2⟩ a hA; clear hH; have hH := (hH2 _ (by (repeat constructor))).tail; clear hH2) | (refine S0T ?_; clear hH; rintro _ w hH) )) | ((first | refine CT ?_ | (refine DT ?_ ?_ <;> intro hc <;> try (exfalso; omega))) <;> repeat' refine CT ?_) | (first | (refine DSK ?_; clear hA a; intro a hA) | (first | (refine DLT ?_; clear hA hH; rintro _ w ⟨oN, rfl, hH⟩; refine ⟨STT, ?_⟩; intro a hA) | (refine DAT ?_; clear hA; rintro _ w ⟨oN, cN, rfl, hH2⟩; clear hH; have hH := (hH2 _ (by (repeat constructor))).tail; clear hH2; refine ⟨STT, ?_⟩; intro a hA))) )
  refine wp_lpk (S := List (Int × Nat)) (fun dn a w => ∃ tk, (dn.Nodup ∧ (∀ e ∈ dn, e ∈ el) ∧ (∀ y, y ∈ tk ↔ y ∈ (dn.map (·.1)).map (rgM m))) ∧ HS w0 noM (sk bT tk :: itS r st clock dn :: mpS st el clock :: cb bP 3 [.int .i64 np] :: cb bR 67 [.map (some mR)] :: mpI mR m :: HH) w ∧
      Sl 49 [(23, .pointer (some (bat r 0))), (9, .map (some bT)), (0, .slice o bs.length c), (3, .pointer (some (bat bP 0))), (4, .pointer (some (bat bR 0)))] a) (fun dn => el.length - dn.length)
    (fun a w => ∃ tk, (∀ y, y ∈ tk ↔ y ∈ (kso st).map (rgM m)) ∧ HS w0 noM (sk bT tk :: sko st :: cb bP 3 [.int .i64 np] :: cb bR 67 [.map (some mR)] :: mpI mR m :: HH) w ∧
      Sl 49 [(9, .map (some bT)), (0, .slice o bs.length c), (4, .pointer (some (bat bR 0)))] a) [] ⟨[], ⟨List.nodup_nil, fun e he => absurd he List.not_mem_nil, fun y => Iff.rfl⟩, hH.perm (by (repeat (first | exact List.Perm.refl _ | exact List.Perm.nil | refine perm_pick 0 rfl ?_ | refine perm_pick 1 rfl ?_ | refine perm_pick 2 rfl ?_ | refine perm_pick 3 rfl ?_ | refine perm_pick 4 rfl ?_ | refine perm_pick 5 rfl ?_ | refine perm_pick 6 rfl ?_ | refine perm_pick 7 rfl ?_ | refine perm_pick 8 rfl ?_ | refine perm_pick 9 rfl ?_ | refine perm_pick 10 rfl ?_ | refine perm_pick 11 rfl ?_))), (hA.sub (by (repeat (first | exact trivial | refine ⟨rfl, ?_⟩))))⟩ ?_ ?_
  · clear hA hH
    rintro dn a w ⟨tk, ⟨hn, hd, htk⟩, hH, hA⟩
    repeat' (first | (first | (refine GT ?_ ?_ <;> intro hg <;> clear hA a <;> intro a hA <;> (first | exact FA | replace hg := of_decide_eq_true hg | replace hg := of_decide_eq_false hg | skip)) | (refine QT ?_; clear hA a; intro a hA) | (first | (refine BT ?_; clear hA hH; rintro _ w ⟨bN, rfl, hH⟩ a hA) | (refine LT ?_; clear hA hH; rintro _ w ⟨oN, rfl, hH⟩ a hA) | (refine AT ?_; clear hA; rintro _ w ⟨oN, cN, rfl, hH2⟩ a hA; clear hH; have hH := (hH2 _ (by (repeat constructor))).tail; clear hH2) | (refine S0T ?_; clear hH; rintro _ w hH) )) | ((first | refine CT ?_ | (refine DT ?_ ?_ <;> intro hc <;> try (exfalso; omega))) <;> repeat' refine CT ?_) | (first | (refine DSK ?_; clear hA a; intro a hA) | (first | (refine DLT ?_; clear hA hH; rintro _ w ⟨oN, rfl, hH⟩; refine ⟨STT, ?_⟩; intro a hA) | (refine DAT ?_; clear hA; rintro _ w ⟨oN, cN, rfl, hH2⟩; clear hH; have hH := (hH2 _ (by (repeat constructor))).tail; clear hH2; refine ⟨STT, ?_⟩; intro a hA))) )
    refine st_op hA rfl rfl (by decide) (op_nextS (st := st) rfl hH (by exact MEMT) (by exact MEMT) hel hok hd) ?_
    clear hA
    rintro _ w2 (⟨hall, rfl, hH⟩ | ⟨e, he, hs, rfl, hup⟩) a hA
    · repeat' (first | (first | (refine GT ?_ ?_ <;> intro hg <;> clear hA a <;> intro a hA <;> (first | exact FA | replace hg := of_decide_eq_true hg | replace hg := of_decide_eq_false hg | skip)) | (refine QT ?_; clear hA a; intro a hA) | (first | (refine BT ?_; clear hA hH; rintro _ w ⟨bN, rfl, hH⟩ a hA) | (refine LT ?_; clear hA hH; rintro _ w ⟨oN, rfl, hH⟩ a hA) | (refine AT ?_; clear hA; rintro _ w ⟨oN, cN, rfl, hH2⟩ a hA; clear hH; have hH := (hH2 _ (by (repeat constructor))).tail; clear hH2) | (refine S0T ?_; clear hH; rintro _ w hH) )) | ((first | refine CT ?_ | (refine DT ?_ ?_ <;> intro hc <;> try (exfalso; omega))) <;> repeat' refine CT ?_) | (first | (refine DSK ?_; clear hA a; intro a hA) | (first | (refine DLT ?_; clear hA hH; rintro _ w ⟨oN, rfl, hH⟩; refine ⟨STT, ?_⟩; intro a hA) | (refine DAT ?_; clear hA; rintro _ w ⟨oN, cN, rfl, hH2⟩; clear hH; have hH := (hH2 _ (by (repeat constructor))).tail; clear hH2; refine ⟨STT, ?_⟩; intro a hA))) )
      replace hH := HS.shutS (st := st) hH hel hok (by (repeat constructor))
      have hp := (dn_perm hel hok.keys hn hd hall).map (rgM m)
      exact ⟨tk, fun y => (htk y).trans hp.mem_iff, hH.rm 1, (hA.sub (by (repeat (first | exact trivial | refine ⟨rfl, ?_⟩))))⟩
    · have hlt := done_lt hn hd he hs
      clear hH
      have hH := hup _ (by (repeat constructor))
      clear hup
      have ha := dn_add (ks := []) (ks' := dn.map (·.1)) hn hd he hs (fun x => by simp)
      repeat' (first | (first | (refine GT ?_ ?_ <;> intro hg <;> clear hA a <;> intro a hA <;> (first | exact FA | replace hg := of_decide_eq_true hg | replace hg := of_decide_eq_false hg | skip)) | ((first | apply st_ex hA hH rfl rfl (by decide) | apply dr_ex hA rfl rfl rfl (by decide) | apply dr_exp hA rfl rfl rfl (by decide) | apply dr_ex3 hA hH rfl rfl rfl (by decide)); (first | (apply ex_entryS (st := st); rfl; exact MEMT; exact MEMT; exact hel; exact hok; exact he) | (apply ex_hasK; rfl; rfl; exact MEMT)); clear hA a; intro a hA) | (refine QT ?_; clear hA a; intro a hA) | (first | (refine BT ?_; clear hA hH; rintro _ w ⟨bN, rfl, hH⟩ a hA) | (refine LT ?_; clear hA hH; rintro _ w ⟨oN, rfl, hH⟩ a hA) | (refine AT ?_; clear hA; rintro _ w ⟨oN, cN, rfl, hH2⟩ a hA; clear hH; have hH := (hH2 _ (by (repeat constructor))).tail; clear hH2) | (refine S0T ?_; clear hH; rintro _ w hH) | (apply st_op0 hA rfl rfl; apply op_addK; rfl; rfl; rfl; exact hH; (repeat constructor); clear hH; rintro _ w hH))) | ((first | refine CT ?_ | (refine DT ?_ ?_ <;> intro hc <;> try (exfalso; omega))) <;> repeat' refine CT ?_) | (first | (refine DSK ?_; clear hA a; intro a hA) | (first | (refine DLT ?_; clear hA hH; rintro _ w ⟨oN, rfl, hH⟩; refine ⟨STT, ?_⟩; intro a hA) | (refine DAT ?_; clear hA; rintro _ w ⟨oN, cN, rfl, hH2⟩; clear hH; have hH := (hH2 _ (by (repeat constructor))).tail; clear hH2; refine ⟨STT, ?_⟩; intro a hA))) )
      have hl : (dn ++ [e]).length = dn.length + 1 := by rw [List.length_append]; rfl
      rw [rgM_eq] at *
      exact ⟨dn ++ [e], ⟨_, ⟨ha.1, ha.2.1, tk_dn htk⟩, hH, (hA.sub (by (repeat (first | exact trivial | refine ⟨rfl, ?_⟩))))⟩, by omega⟩
  clear hA hH
  rintro a w ⟨tk, htk, hH, hA⟩
  repeat' (first | (first | (refine GT ?_ ?_ <;> intro hg <;> clear hA a <;> intro a hA <;> (first | exact FA | replace hg := of_decide_eq_true hg | replace hg := of_decide_eq_false hg | skip)) | (refine QT ?_; clear hA a; intro a hA) | (first | (refine BT ?_; clear hA hH; rintro _ w ⟨bN, rfl, hH⟩ a hA) | (refine LT ?_; clear hA hH; rintro _ w ⟨oN, rfl, hH⟩ a hA) | (refine AT ?_; clear hA; rintro _ w ⟨oN, cN, rfl, hH2⟩ a hA; clear hH; have hH := (hH2 _ (by (repeat constructor))).tail; clear hH2) | (refine S0T ?_; clear hH; rintro _ w hH) )) | ((first | refine CT ?_ | (refine DT ?_ ?_ <;> intro hc <;> try (exfalso; omega))) <;> repeat' refine CT ?_) | (first | (refine DSK ?_; clear hA a; intro a hA) | (first | (refine DLT ?_; clear hA hH; rintro _ w ⟨oN, rfl, hH⟩; refine ⟨STT, ?_⟩; intro a hA) | (refine DAT ?_; clear hA; rintro _ w ⟨oN, cN, rfl, hH2⟩; clear hH; have hH := (hH2 _ (by (repeat constructor))).tail; clear hH2; refine ⟨STT, ?_⟩; intro a hA))) )
  refine wp_lpk (S := Nat) (fun i a w => ∃ tk, (i ≤ bs.length ∧ (∀ y, y ∈ tk ↔ y ∈ (asgs m (kso st) (bs.take i)).2)) ∧ HS w0 noM (sk bT tk :: sko st :: cb bP 3 [.int .i64 np] :: cb bR 67 [.map (some mR)] :: mpI mR (asgs m (kso st) (bs.take i)).1 :: HH) w ∧
      Sl 49 [(34, .int .i64 i), (33, .int .i64 bs.length), (32, .slice o bs.length c), (9, .map (some bT)), (4, .pointer (some (bat bR 0)))] a) (fun i => bs.length - i)
    (fun a w => HS w0 noM (sko st :: cb bP 3 [.int .i64 np] :: cb bR 67 [.map (some mR)] :: mpI mR (asgs m (kso st) bs).1 :: HH) w ∧ Sl 49 [] a) 0 ⟨tk, ⟨Nat.zero_le _, fun y => by rw [List.take_zero, asgs_nil]; exact htk y⟩, (by rw [List.take_zero, asgs_nil]; exact hH), (hA.sub (by (repeat (first | exact trivial | refine ⟨rfl, ?_⟩))))⟩ ?_ ?_
  · clear hA hH htk
    rintro i a w ⟨tk, ⟨hi, htk⟩, hH, hA⟩
    by_cases hlt : i < bs.length
    rotate_left
    · obtain rfl : i = bs.length := by omega
      rw [List.take_length] at hH
      repeat' (first | (first | (refine GT ?_ ?_ <;> intro hg <;> clear hA a <;> intro a hA <;> (first | exact FA | replace hg := of_decide_eq_true hg | replace hg := of_decide_eq_false hg | skip)) | (refine QT ?_; clear hA a; intro a hA) | (first | (refine BT ?_; clear hA hH; rintro _ w ⟨bN, rfl, hH⟩ a hA) | (refine LT ?_; clear hA hH; rintro _ w ⟨oN, rfl, hH⟩ a hA) | (refine AT ?_; clear hA; rintro _ w ⟨oN, cN, rfl, hH2⟩ a hA; clear hH; have hH := (hH2 _ (by (repeat constructor))).tail; clear hH2) | (refine S0T ?_; clear hH; rintro _ w hH) )) | ((first | refine CT ?_ | (refine DT ?_ ?_ <;> intro hc <;> try (exfalso; omega))) <;> repeat' refine CT ?_) | (first | (refine DSK ?_; clear hA a; intro a hA) | (first | (refine DLT ?_; clear hA hH; rintro _ w ⟨oN, rfl, hH⟩; refine ⟨STT, ?_⟩; intro a hA) | (refine DAT ?_; clear hA; rintro _ w ⟨oN, cN, rfl, hH2⟩; clear hH; have hH := (hH2 _ (by (repeat constructor))).tail; clear hH2; refine ⟨STT, ?_⟩; intro a hA))) )
      exact ⟨hH.tail, (hA.sub (by (repeat (first | exact trivial | refine ⟨rfl, ?_⟩))))⟩
    obtain ⟨x, hx⟩ : ∃ x, bs[i]? = some x := ⟨_, List.getElem?_eq_getElem hlt⟩
    have hv : (flat Fw.encI bs)[i * 1]? = some (.int .i64 x) := flat_get (off := 0) Fw.encI_len hx rfl
    repeat' (first | (first | (refine GT ?_ ?_ <;> intro hg <;> clear hA a <;> intro a hA <;> (first | exact FA | replace hg := of_decide_eq_true hg | replace hg := of_decide_eq_false hg | skip)) | ((first | apply st_ex hA hH rfl rfl (by decide) | apply dr_ex hA rfl rfl rfl (by decide) | apply dr_exp hA rfl rfl rfl (by decide) | apply dr_ex3 hA hH rfl rfl rfl (by decide)); (first | (apply ex_indexAddr_nat; rfl; rfl; omega; exact hsp) | (apply ex_load; rfl; exact cl_x hB (fun w h => h.tail.tail.tail.tail.tail) hv)); clear hA a; intro a hA) | (refine QT ?_; clear hA a; intro a hA) | (first | (refine BT ?_; clear hA hH; rintro _ w ⟨bN, rfl, hH⟩ a hA) | (refine LT ?_; clear hA hH; rintro _ w ⟨oN, rfl, hH⟩ a hA) | (refine AT ?_; clear hA; rintro _ w ⟨oN, cN, rfl, hH2⟩ a hA; clear hH; have hH := (hH2 _ (by (repeat constructor))).tail; clear hH2) | (refine S0T ?_; clear hH; rintro _ w hH) )) | ((first | refine CT ?_ | (refine DT ?_ ?_ <;> intro hc <;> try (exfalso; omega))) <;> repeat' refine CT ?_) | (first | (refine DSK ?_; clear hA a; intro a hA) | (first | (refine DLT ?_; clear hA hH; rintro _ w ⟨oN, rfl, hH⟩; refine ⟨STT, ?_⟩; intro a hA) | (refine DAT ?_; clear hA; rintro _ w ⟨oN, cN, rfl, hH2⟩; clear hH; have hH := (hH2 _ (by (repeat constructor))).tail; clear hH2; refine ⟨STT, ?_⟩; intro a hA))) )
    obtain ⟨ma, hma⟩ : ∃ x, x = (asgs m (kso st) (bs.take i)) := ⟨_, rfl⟩
    have hml : ma.2.length ≤ 2000000 := by rw [hma, asgs_len, List.length_take]; omega
    have hlst : lst ma.2 ≤ ma.2.length := lst_le (lst_is _).2
    rw [← hma] at hH htk
    refine wp_lpk (S := Nat) (fun r a w => (r ≤ lst ma.2) ∧ HS w0 noM (sk bT tk :: sko st :: cb bP 3 [.int .i64 np] :: cb bR 67 [.map (some mR)] :: mpI mR ma.1 :: HH) w ∧
        Sl 49 [(13, .int .i64 r), (12, .int .i64 x), (34, .int .i64 i), (33, .int .i64 bs.length), (32, .slice o bs.length c), (9, .map (some bT)), (4, .pointer (some (bat bR 0)))] a) (fun r => lst ma.2 - r)
      (fun a w => HS w0 noM (sk bT tk :: sko st :: cb bP 3 [.int .i64 np] :: cb bR 67 [.map (some mR)] :: mpI mR ma.1 :: HH) w ∧
        Sl 49 [(13, .int .i64 (lst ma.2 : Nat)), (12, .int .i64 x), (34, .int .i64 i), (33, .int .i64 bs.length), (32, .slice o bs.length c), (9, .map (some bT)), (4, .pointer (some (bat bR 0)))] a) 0 ⟨Nat.zero_le _, hH, (hA.sub (by (repeat (first | exact trivial | refine ⟨rfl, ?_⟩))))⟩ ?_ ?_
    · clear hA hH
      rintro r a w ⟨hr, hH, hA⟩
      repeat' (first | (first | (refine GT ?_ ?_ <;> intro hg <;> clear hA a <;> intro a hA <;> (first | exact FA | replace hg := of_decide_eq_true hg | replace hg := of_decide_eq_false hg | skip)) | ((first | apply st_ex hA hH rfl rfl (by decide) | apply dr_ex hA rfl rfl rfl (by decide) | apply dr_exp hA rfl rfl rfl (by decide) | apply dr_ex3 hA hH rfl rfl rfl (by decide)); (first | (apply ex_hasK; rfl; rfl; exact MEMT)); clear hA a; intro a hA) | (refine QT ?_; clear hA a; intro a hA) | (first | (refine BT ?_; clear hA hH; rintro _ w ⟨bN, rfl, hH⟩ a hA) | (refine LT ?_; clear hA hH; rintro _ w ⟨oN, rfl, hH⟩ a hA) | (refine AT ?_; clear hA; rintro _ w ⟨oN, cN, rfl, hH2⟩ a hA; clear hH; have hH := (hH2 _ (by (repeat constructor))).tail; clear hH2) | (refine S0T ?_; clear hH; rintro _ w hH) )) | ((first | refine CT ?_ | (refine DT ?_ ?_ <;> intro hc <;> try (exfalso; omega))) <;> repeat' refine CT ?_) | (first | (refine DSK ?_; clear hA a; intro a hA) | (first | (refine DLT ?_; clear hA hH; rintro _ w ⟨oN, rfl, hH⟩; refine ⟨STT, ?_⟩; intro a hA) | (refine DAT ?_; clear hA; rintro _ w ⟨oN, cN, rfl, hH2⟩; clear hH; have hH := (hH2 _ (by (repeat constructor))).tail; clear hH2; refine ⟨STT, ?_⟩; intro a hA))) )
      · have hrl : r < lst ma.2 := by
          rcases Nat.lt_or_ge r (lst ma.2) with h | h
          · exact h
          · obtain rfl : r = lst ma.2 := by omega
            exact absurd ((htk _).1 (by assumption)) (lst_is _).1
        exact ⟨r + 1, ⟨hrl, hH, (hA.sub (by (repeat (first | exact trivial | refine ⟨rfl, ?_⟩))))⟩, by omega⟩
      · have hrl : r = lst ma.2 := by
          rcases Nat.lt_or_ge r (lst ma.2) with h | h
          · exact absurd ((htk _).2 ((lst_is _).2 r h)) (by assumption)
          · omega
        subst hrl
        exact ⟨hH, (hA.sub (by (repeat (first | exact trivial | refine ⟨rfl, ?_⟩))))⟩
    clear hA hH
    rintro a w ⟨hH, hA⟩
    repeat' (first | (first | (refine GT ?_ ?_ <;> intro hg <;> clear hA a <;> intro a hA <;> (first | exact FA | replace hg := of_decide_eq_true hg | replace hg := of_decide_eq_false hg | skip)) | (refine QT ?_; clear hA a; intro a hA) | (first | (refine BT ?_; clear hA hH; rintro _ w ⟨bN, rfl, hH⟩ a hA) | (refine LT ?_; clear hA hH; rintro _ w ⟨oN, rfl, hH⟩ a hA) | (refine AT ?_; clear hA; rintro _ w ⟨oN, cN, rfl, hH2⟩ a hA; clear hH; have hH := (hH2 _ (by (repeat constructor))).tail; clear hH2) | (refine S0T ?_; clear hH; rintro _ w hH) | (apply st_op0 hA rfl rfl; apply op_mapUpdateI; rfl; rfl; rfl; exact hH; (repeat constructor); clear hH; rintro _ w hH) | (apply st_op0 hA rfl rfl; apply op_addK; rfl; rfl; rfl; exact hH; (repeat constructor); clear hH; rintro _ w hH))) | ((first | refine CT ?_ | (refine DT ?_ ?_ <;> intro hc <;> try (exfalso; omega))) <;> repeat' refine CT ?_) | (first | (refine DSK ?_; clear hA a; intro a hA) | (first | (refine DLT ?_; clear hA hH; rintro _ w ⟨oN, rfl, hH⟩; refine ⟨STT, ?_⟩; intro a hA) | (refine DAT ?_; clear hA; rintro _ w ⟨oN, cN, rfl, hH2⟩; clear hH; have hH := (hH2 _ (by (repeat constructor))).tail; clear hH2; refine ⟨STT, ?_⟩; intro a hA))) )
    rw [asg_m rfl, hma, ← asgs_snoc m (kso st) hx] at hH
    refine ⟨i + 1, ⟨_, ⟨hlt, fun y => ?_⟩, hH, (hA.sub (by (repeat (first | exact trivial | refine ⟨rfl, ?_⟩))))⟩, by omega⟩
    rw [asgs_snoc m (kso st) hx, ← hma]
    exact asg_tk htk (by rw [hma]) y
  clear hA hH htk
  rintro a w ⟨hH, hA⟩
  repeat' (first | (first | (refine GT ?_ ?_ <;> intro hg <;> clear hA a <;> intro a hA <;> (first | exact FA | replace hg := of_decide_eq_true hg | replace hg := of_decide_eq_false hg | skip)) | (refine QT ?_; clear hA a; intro a hA) | (first | (refine BT ?_; clear hA hH; rintro _ w ⟨bN, rfl, hH⟩ a hA) | (refine LT ?_; clear hA hH; rintro _ w ⟨oN, rfl, hH⟩ a hA) | (refine AT ?_; clear hA; rintro _ w ⟨oN, cN, rfl, hH2⟩ a hA; clear hH; have hH := (hH2 _ (by (repeat constructor))).tail; clear hH2) | (refine S0T ?_; clear hH; rintro _ w hH) )) | ((first | refine CT ?_ | (refine DT ?_ ?_ <;> intro hc <;> try (exfalso; omega))) <;> repeat' refine CT ?_) | (first | (refine DSK ?_; clear hA a; intro a hA) | (first | (refine DLT ?_; clear hA hH; rintro _ w ⟨oN, rfl, hH⟩; refine ⟨STT, ?_⟩; intro a hA) | (refine DAT ?_; clear hA; rintro _ w ⟨oN, cN, rfl, hH2⟩; clear hH; have hH := (hH2 _ (by (repeat constructor))).tail; clear hH2; refine ⟨STT, ?_⟩; intro a hA))) )
  exact rt1 (.inl rfl) rfl hA rfl ⟨rfl, hH.perm (by (repeat (first | exact List.Perm.refl _ | exact List.Perm.nil | refine perm_pick 0 rfl ?_ | refine perm_pick 1 rfl ?_ | refine perm_pick 2 rfl ?_ | refine perm_pick 3 rfl ?_ | refine perm_pick 4 rfl ?_ | refine perm_pick 5 rfl ?_ | refine perm_pick 6 rfl ?_ | refine perm_pick 7 rfl ?_ | refine perm_pick 8 rfl ?_ | refine perm_pick 9 rfl ?_ | refine perm_pick 10 rfl ?_ | refine perm_pick 11 rfl ?_)))⟩
end Go.Proofs.Ytjfanjcoppeeaaa
namespace Go.Proofs.Ytjfanjcoppeeaaa
open Go Go.Fw
set_option linter.unusedVariables false
def isLen (f : Gr) (n : Nat) : Nat := match f.bs.l[n]? with
  | some bl => bl.is.l.length
  | none => 0
/-- block n's places: its beginning, i of its Ins -/
def slotB (n i : Nat) : List (Nat × Option Nat) := (n, none) :: (List.range i).map fun k => (n, some k)
def slots (f : Gr) (N : Nat) : List (Nat × Option Nat) := (List.range N).flatMap fun n => slotB n (isLen f n)
theorem slots_snoc (f : Gr) (n : Nat) : slots f (n + 1) = slots f n ++ slotB n (isLen f n) := by
  unfold slots
  rw [List.range_succ, List.flatMap_append]
  simp
theorem slotB_snoc (n i : Nat) : slotB n (i + 1) = slotB n i ++ [(n, some i)] := by
  unfold slotB
  rw [List.range_succ, List.map_append]
  rfl
/-- a place as it is at a slot -/
def IsAt (f : Gr) (ss : List (Option (Nat × List Int))) (sl : Nat × Option Nat) (p : Pl) : Prop :=
  ∃ bl, f.bs.l[sl.1]? = some bl ∧ p.ks.Nodup ∧ match sl.2 with
    | none => p.bs = bl.ps.l ∧ p.b = true ∧ ∀ x, x ∈ p.ks ↔ x ∈ setAt ss sl.1
    | some i => ∃ ins, bl.is.l[i]? = some ins ∧ p.bs = [ins.x] ∧ p.b = false ∧ ∀ x, x ∈ p.ks ↔ x ≠ ins.x ∧ insP (bl.is.l.drop (i + 1)) (lastP bl.e ss) x
def goes {S : Type} (at_ : S → Pl → Option S) : S → List Pl → Option S
  | s, [] => some s
  | s, p :: pl => (at_ s p).bind fun s' => goes at_ s' pl
theorem goes_snoc {S : Type} {at_ : S → Pl → Option S} : ∀ {pl : List Pl} {s s1 s2 : S} {p : Pl}, goes at_ s pl = some s1 → at_ s1 p = some s2 → goes at_ s (pl ++ [p]) = some s2
  | [], s, s1, s2, p, h1, h2 => by
    cases h1
    show (at_ s p).bind _ = _
    rw [h2]
    rfl
  | q :: pl, s, s1, s2, p, h1, h2 => by
    show (at_ s q).bind _ = _
    change (at_ s q).bind _ = _ at h1
    cases h : at_ s q with
    | none => rw [h] at h1; cases h1
    | some s' =>
      rw [h] at h1
      exact goes_snoc (s := s') h1 h2
inductive FA2 {α β : Type} (R : α → β → Prop) : List α → List β → Prop
  | nil : FA2 R [] []
  | cons {x : α} {y : β} {l : List α} {m : List β} (h : R x y) (h2 : FA2 R l m) : FA2 R (x :: l) (y :: m)
theorem fa2_snoc {α β : Type} {R : α → β → Prop} {l : List α} {m : List β} {x : α} {y : β} (h : FA2 R l m) (h2 : R x y) : FA2 R (l ++ [x]) (m ++ [y]) := by
  induction h with
  | nil => exact .cons h2 .nil
  | cons h1 _ ih => exact .cons h1 ih
/-- copies of what lives behind the Ins from j on -/
def CloneOk (bl : Blc) (ss bs : List (Option (Nat × List Int))) (j : Nat) : Prop :=
  bs.length = bl.is.l.length ∧ ∀ i, j ≤ i → i < bl.is.l.length → ∃ p, bs[i]? = some (some p) ∧ ∀ x, x ∈ p.2 ↔ insP (bl.is.l.drop (i + 1)) (lastP bl.e ss) x
theorem clone_set {bl : Blc} {ss bs : List (Option (Nat × List Int))} {j b : Nat} {ks ks0 : List Int} (h : CloneOk bl ss bs (j + 1)) (hj : j < bl.is.l.length) (hk0 : ∀ x, x ∈ ks0 ↔ insP (bl.is.l.drop (j + 1)) (lastP bl.e ss) x) (hk : ∀ x, x ∈ ks ↔ x ∈ ks0) : CloneOk bl ss (bs.set j (some (b, ks))) j := by
  refine ⟨by rw [List.length_set]; exact h.1, fun i h1 h2 => ?_⟩
  by_cases hij : j = i
  · subst hij
    exact ⟨(b, ks), by rw [List.getElem?_set_self (by rw [h.1]; exact hj)], fun x => (hk x).trans (hk0 x)⟩
  · obtain ⟨p, h3, h4⟩ := h.2 i (by omega) h2
    exact ⟨p, by rw [List.getElem?_set_ne hij]; exact h3, h4⟩
theorem clone_keep {bl : Blc} {ss bs : List (Option (Nat × List Int))} {i : Nat} {y : Option (Nat × List Int)} (h : CloneOk bl ss bs i) : CloneOk bl ss (bs.set i y) (i + 1) := by
  refine ⟨by rw [List.length_set]; exact h.1, fun k h1 h2 => ?_⟩
  obtain ⟨p, h3, h4⟩ := h.2 k (by omega) h2
  exact ⟨p, by rw [List.getElem?_set_ne (by omega)]; exact h3, h4⟩
theorem flat_encO_set {bs : List (Option (Nat × List Int))} {i b : Nat} {ks ks' : List Int} (h : bs[i]? = some (some (b, ks))) : flat encO (bs.set i (some (b, ks'))) = flat encO bs := by
  have key : ∀ (bs : List (Option (Nat × List Int))) (i : Nat), bs[i]? = some (some (b, ks)) → (bs.set i (some (b, ks'))).map encO = bs.map encO := by
    intro bs i h
    rw [List.map_set]
    exact set_same (by rw [List.getElem?_map, h]; rfl)
  unfold Fw.flat
  rw [List.flatMap_def, List.flatMap_def, key bs i h]
theorem map_sko_set (bs : List (Option (Nat × List Int))) (j b : Nat) (ks : List Int) : (bs.map sko).set j (sk b ks) = (bs.set j (some (b, ks))).map sko := by rw [List.map_set]; rfl
theorem sko_some (b : Nat) (ks : List Int) : sko (some (b, ks)) = sk b ks := rfl
theorem len_set (bs : List (Option (Nat × List Int))) (j : Nat) (y : Option (Nat × List Int)) : bs.length = (bs.set j y).length := by rw [List.length_set]
theorem mvO_some (b : Nat) (ks : List Int) : mvO (some (b, ks)) = .map (some b) := rfl
theorem flatI_one (x : Int) : flat Fw.encI [x] = [.int .i64 x] := rfl
theorem isAt_n {f : Gr} {ss : List (Option (Nat × List Int))} {n : Nat} {bl : Blc} {st : Option (Nat × List Int)} (hbl : f.bs.l[n]? = some bl) (hst : ss[n]? = some st) (hn : (kso st).Nodup) : IsAt f ss (n, none) ⟨bl.ps.l, kso st, true⟩ := by
  refine ⟨bl, hbl, hn, rfl, rfl, fun x => ?_⟩
  unfold setAt
  rw [hst]
  rfl
theorem isAt_i {f : Gr} {ss : List (Option (Nat × List Int))} {n i : Nat} {bl : Blc} {ins : Ins} {p : Nat × List Int} (hbl : f.bs.l[n]? = some bl) (hi : bl.is.l[i]? = some ins) (hp : ∀ x, x ∈ p.2 ↔ insP (bl.is.l.drop (i + 1)) (lastP bl.e ss) x) {b : Nat} (hn : (sdel p.2 ins.x).Nodup) :
    IsAt f ss (n, some i) ⟨[ins.x], kso (some (b, sdel p.2 ins.x)), false⟩ := by
  refine ⟨bl, hbl, hn, ins, hi, rfl, rfl, fun x => ?_⟩
  show x ∈ sdel p.2 ins.x ↔ _
  rw [mem_sdel, hp, and_comm]
theorem slot_mem {f : Gr} {n : Nat} {bl : Blc} (hbl : f.bs.l[n]? = some bl) {sl : Nat × Option Nat} (h : sl ∈ slotB n bl.is.l.length) : sl ∈ slots f f.bs.l.length := by
  have hn := (List.getElem?_eq_some_iff.1 hbl).1
  unfold slots
  refine List.mem_flatMap.2 ⟨n, List.mem_range.2 hn, ?_⟩
  unfold isLen
  rw [hbl]
  exact h
theorem slot_none (n i : Nat) : (n, none) ∈ slotB n i := .head _
theorem slot_some {n i k : Nat} (h : k < i) : (n, some k) ∈ slotB n i := .tail _ (List.mem_map.2 ⟨k, List.mem_range.2 h, rfl⟩)
theorem slots_next {f : Gr} {n : Nat} {bl : Blc} (hbl : f.bs.l[n]? = some bl) : slots f (n + 1) = slots f n ++ slotB n bl.is.l.length := by
  rw [slots_snoc]
  unfold isLen
  rw [hbl]
set_option maxRecDepth 10000 attribute [local irreducible] Code.wp wpList Calls Ex Op1 sat bat blk cb own Go.Fw.mp Go.Fw.mpO Go.Fw.mpI Go.Fw.mpE Go.Fw.itr HS Rd Ret wkD Hp Cl Cls Exit.then Exit.inBlock Exit.noGoto bodyPost Go.Fw.flat wk2 Go.Fw.all Go.Fw.owns wpOp
attribute [local irreducible] sk mpK srt sko mvO insP blkP skP goes slots slotB

set_option maxHeartbeats 8000000 in
theorem each_spec {S : Type} (gf : Nat) [hgf : FnB Try.prog gf] (cap : Array Value) (inv : S → It) (at_ : S → Pl → Option S) (w0 w : World) (H : List It) (f : Gr) (s0 : S) (hat : AtOk w0 gf cap inv at_) (hH : HS w0 noM (inv s0 :: H) w) (hR : RdG w0 f) (hU : Up f) (hB : f.bs.l.length ≤ 100000)
    (hP : ∀ bl ∈ f.bs.l, bl.ps.l.length ≤ 1000000 ∧ bl.is.l.length ≤ 1000000) (hK : ∀ ss, ss.length = f.bs.l.length → (∀ n, FixAt f ss n) → ∀ sl p, IsAt f ss sl p → p.ks.length ≤ 1000000) :
    Ret Try.prog 22 #[.agg (encG f).toArray, .func (.func gf) #[] cap] w (fun r w' => ∃ ss, ss.length = f.bs.l.length ∧ (∀ n, FixAt f ss n) ∧
      ((∃ pl s1, FA2 (IsAt f ss) (slots f f.bs.l.length) pl ∧ goes at_ s0 pl = some s1 ∧ r = .bool true ∧ HS w0 noM (inv s1 :: H) w') ∨
       (∃ sl p s1, sl ∈ slots f f.bs.l.length ∧ IsAt f ss sl p ∧ at_ s1 p = none ∧ r = .bool false ∧ HS w0 noM H w'))) := by
  have hsp : Sp f.bs.o f.bs.l.length := hR.1.1.sp (sz := 6) (flat_length encBl_len _) (by omega)
  (refine enterM (N := 79) Try.func22 rfl Try.ntmps22 rfl ?_; intro a hA; dsimp only [sl0, Nat.reduceAdd] at hA)
  repeat' (first | (first | (refine GT ?_ ?_ <;> intro hg <;> clear hA a <;> intro a hA <;> (first | exact FA | replace hg := of_decide_eq_true hg | replace hg := of_decide_eq_false hg | skip)) | (refine QT ?_; clear hA a; intro a hA) | (first | (refine BT ?_; clear hA hH; rintro _ w ⟨bN, rfl, hH⟩ a hA) | (refine LT ?_; clear hA hH; rintro _ w ⟨oN, rfl, hH⟩ a hA) | (refine AT ?_; clear hA; rintro _ w ⟨oN, cN, rfl, hH2⟩ a hA; clear hH; have hH := (hH2 _ (by (repeat constructor))).tail; clear hH2) | (refine S0T ?_; clear hH; rintro _ w hH) )) | ((first | refine CT ?_ | (refine DT ?_ ?_ <;> intro hc <;> try (exfalso; omega))) <;> repeat' refine CT ?_) | (first | (refine DSK ?_; clear hA a; intro a hA) | (first | (refine DLT ?_; clear hA hH; rintro _ w ⟨oN, rfl, hH⟩; refine ⟨STT, ?_⟩; intro a hA) | (refine DAT ?_; clear hA; rintro _ w ⟨oN, cN, rfl, hH2⟩; clear hH; have hH := (hH2 _ (by (repeat constructor))).tail; clear hH2; refine ⟨STT, ?_⟩; intro a hA))) )
  obtain ⟨bF, hbF⟩ : ∃ x, x = bN := ⟨_, rfl⟩
  rw [← hbF] at hA hH
  clear hbF bN
  (refine st_op hA rfl rfl (by decide) (op_call rfl rfl rfl (live_spec w0 _ _ f hH hR hU hB)) ?_; clear hA hH; rintro _ w ⟨oI, cI, ss, rfl, hsl, hF, hH⟩ a hA)
  replace hK := hK ss hsl hF
  repeat' (first | (first | (refine GT ?_ ?_ <;> intro hg <;> clear hA a <;> intro a hA <;> (first | exact FA | replace hg := of_decide_eq_true hg | replace hg := of_decide_eq_false hg | skip)) | (refine QT ?_; clear hA a; intro a hA) | (first | (refine BT ?_; clear hA hH; rintro _ w ⟨bN, rfl, hH⟩ a hA) | (refine LT ?_; clear hA hH; rintro _ w ⟨oN, rfl, hH⟩ a hA) | (refine AT ?_; clear hA; rintro _ w ⟨oN, cN, rfl, hH2⟩ a hA; clear hH; have hH := (hH2 _ (by (repeat constructor))).tail; clear hH2) | (refine S0T ?_; clear hH; rintro _ w hH) )) | ((first | refine CT ?_ | (refine DT ?_ ?_ <;> intro hc <;> try (exfalso; omega))) <;> repeat' refine CT ?_) | (first | (refine DSK ?_; clear hA a; intro a hA) | (first | (refine DLT ?_; clear hA hH; rintro _ w ⟨oN, rfl, hH⟩; refine ⟨STT, ?_⟩; intro a hA) | (refine DAT ?_; clear hA; rintro _ w ⟨oN, cN, rfl, hH2⟩; clear hH; have hH := (hH2 _ (by (repeat constructor))).tail; clear hH2; refine ⟨STT, ?_⟩; intro a hA))) )
  have hspI := hH.own_sp (T := 72) (o := oI) (.head _)
  have hH1 : HS w0 noM (all (([] : List Nat).map dfi) :: inv s0 :: own 72 1 oI ss.length cI (flat encO ss) :: all (ss.map sko) :: cb bF 30 (encG f) :: H) w := (hH.perm (by (repeat (first | exact List.Perm.refl _ | exact List.Perm.nil | refine perm_pick 0 rfl ?_ | refine perm_pick 1 rfl ?_ | refine perm_pick 2 rfl ?_ | refine perm_pick 3 rfl ?_ | refine perm_pick 4 rfl ?_ | refine perm_pick 5 rfl ?_ | refine perm_pick 6 rfl ?_ | refine perm_pick 7 rfl ?_ | refine perm_pick 8 rfl ?_ | refine perm_pick 9 rfl ?_ | refine perm_pick 10 rfl ?_ | refine perm_pick 11 rfl ?_)))).nil_all
  have hA1 : Sl 79 [(19, .int .i64 0), (18, .int .i64 f.bs.l.length), (17, .slice f.bs.o f.bs.l.length f.bs.c), (5, .slice oI ss.length cI), (2, .pointer (some (bat bF 0))), (1, .func (.func gf) #[] cap)] a (([] : List Nat).map dmk) := (hA.sub (by (repeat (first | exact trivial | refine ⟨rfl, ?_⟩))))
  clear hA hH
  refine wp_lpk (S := Nat) (fun n a w => ∃ (L : List Nat) (pl : List Pl) (s1 : S), (n ≤ f.bs.l.length ∧ FA2 (IsAt f ss) (slots f n) pl ∧ goes at_ s0 pl = some s1) ∧
      HS w0 noM (all (L.map dfi) :: inv s1 :: own 72 1 oI ss.length cI (flat encO ss) :: all (ss.map sko) :: cb bF 30 (encG f) :: H) w ∧ Sl 79 [(19, .int .i64 n), (18, .int .i64 f.bs.l.length), (17, .slice f.bs.o f.bs.l.length f.bs.c), (5, .slice oI ss.length cI), (2, .pointer (some (bat bF 0))), (1, .func (.func gf) #[] cap)] a (L.map dmk)) (fun n => f.bs.l.length - n)
    (fun a w => ∃ (L : List Nat) (pl : List Pl) (s1 : S), (FA2 (IsAt f ss) (slots f f.bs.l.length) pl ∧ goes at_ s0 pl = some s1) ∧
      HS w0 noM (all (L.map dfi) :: inv s1 :: H) w ∧ Sl 79 [] a (L.map dmk)) 0
    ⟨[], [], s0, ⟨Nat.zero_le _, (by unfold slots; exact .nil), (by unfold goes; rfl)⟩, hH1, hA1⟩ ?_ ?_
  · clear hA1 hH1
    rintro n a w ⟨L, pl, s1, ⟨hn, hpl, hgo⟩, hH, hA⟩
    by_cases hlt : n < f.bs.l.length
    rotate_left
    · obtain rfl : n = f.bs.l.length := by omega
      repeat' (first | (first | (refine GT ?_ ?_ <;> intro hg <;> clear hA a <;> intro a hA <;> (first | exact FA | replace hg := of_decide_eq_true hg | replace hg := of_decide_eq_false hg | skip)) | (refine QT ?_; clear hA a; intro a hA) | (first | (refine BT ?_; clear hA hH; rintro _ w ⟨bN, rfl, hH⟩ a hA) | (refine LT ?_; clear hA hH; rintro _ w ⟨oN, rfl, hH⟩ a hA) | (refine AT ?_; clear hA; rintro _ w ⟨oN, cN, rfl, hH2⟩ a hA; clear hH; have hH := (hH2 _ (by (repeat constructor))).tail; clear hH2) | (refine S0T ?_; clear hH; rintro _ w hH) )) | ((first | refine CT ?_ | (refine DT ?_ ?_ <;> intro hc <;> try (exfalso; omega))) <;> repeat' refine CT ?_) | (first | (refine DSK ?_; clear hA a; intro a hA) | (first | (refine DLT ?_; clear hA hH; rintro _ w ⟨oN, rfl, hH⟩; refine ⟨STT, ?_⟩; intro a hA) | (refine DAT ?_; clear hA; rintro _ w ⟨oN, cN, rfl, hH2⟩; clear hH; have hH := (hH2 _ (by (repeat constructor))).tail; clear hH2; refine ⟨STT, ?_⟩; intro a hA))) )
      exact ⟨L, pl, s1, ⟨hpl, hgo⟩, ((hH.rm 2).rm 2).rm 2, (hA.sub (by (repeat (first | exact trivial | refine ⟨rfl, ?_⟩))))⟩
    obtain ⟨bl, hbl⟩ : ∃ bl, f.bs.l[n]? = some bl := ⟨_, List.getElem?_eq_getElem hlt⟩
    obtain ⟨st, hst⟩ : ∃ st, ss[n]? = some st := ⟨_, List.getElem?_eq_getElem (by omega)⟩
    have hbR := hR.2 bl (List.mem_of_getElem? hbl)
    obtain ⟨hpsl, hisl⟩ := hP bl (List.mem_of_getElem? hbl)
    have hspP : Sp bl.ps.o bl.ps.l.length := hbR.1.1.sp (sz := 1) (flat_length Fw.encI_len _) (by omega)
    have hspIs : Sp bl.is.o bl.is.l.length := hbR.2.1.1.sp (sz := 5) (flat_length encIn_len _) (by omega)
    have hvs := flat_all encBl_len hbl
    have hvI : (flat encO ss)[n * 1]? = some (mvO st) := flat_get (off := 0) encO_len hst (by rw [encO_eq]; rfl)
    have hsm : (ss.map sko)[n]? = some (sko st) := by rw [List.getElem?_map, hst]; rfl
    repeat' (first | (first | (refine GT ?_ ?_ <;> intro hg <;> clear hA a <;> intro a hA <;> (first | exact FA | replace hg := of_decide_eq_true hg | replace hg := of_decide_eq_false hg | skip)) | ((first | apply st_ex hA hH rfl rfl (by decide) | apply dr_ex hA rfl rfl rfl (by decide) | apply dr_exp hA rfl rfl rfl (by decide) | apply dr_ex3 hA hH rfl rfl rfl (by decide)); (first | (apply ex_load_st (vs := encBl bl); rfl; rfl; exact cls_rd hR.1.1 id hvs)); clear hA a; intro a hA) | (refine QT ?_; clear hA a; intro a hA) | (first | (refine BT ?_; clear hA hH; rintro _ w ⟨bN, rfl, hH⟩ a hA) | (refine LT ?_; clear hA hH; rintro _ w ⟨oN, rfl, hH⟩ a hA) | (refine AT ?_; clear hA; rintro _ w ⟨oN, cN, rfl, hH2⟩ a hA; clear hH; have hH := (hH2 _ (by (repeat constructor))).tail; clear hH2) | (refine S0T ?_; clear hH; rintro _ w hH) | (apply st_op0 hA rfl rfl; apply op_store_agg (vs := encBl bl); rfl; rfl; exact hH; (repeat constructor); (repeat rfl); clear hH; rintro _ w hH))) | ((first | refine CT ?_ | (refine DT ?_ ?_ <;> intro hc <;> try (exfalso; omega))) <;> repeat' refine CT ?_) | (first | (refine DSK ?_; clear hA a; intro a hA) | (first | (refine DLT ?_; clear hA hH; rintro _ w ⟨oN, rfl, hH⟩; refine ⟨STT, ?_⟩; intro a hA) | (refine DAT ?_; clear hA; rintro _ w ⟨oN, cN, rfl, hH2⟩; clear hH; have hH := (hH2 _ (by (repeat constructor))).tail; clear hH2; refine ⟨STT, ?_⟩; intro a hA))) )
    obtain ⟨b7, hb7⟩ : ∃ x, x = bN := ⟨_, rfl⟩
    rw [← hb7] at hA hH
    clear hb7 bN
    replace hH := (hH.up 4 rfl).openAt hsm
    dsimp only [List.eraseIdx_cons_succ, List.eraseIdx_cons_zero] at hH
    replace hH := hH.up 4 rfl
    dsimp only [List.eraseIdx_cons_succ, List.eraseIdx_cons_zero] at hH
    have hstn := sko_nodup (st := st) hH (.tail _ (.head _))
    have hIs := isAt_n hbl hst hstn
    have hstl := hK _ _ hIs
    have hST : HS w0 noM [cb b7 52 (encBl bl), own 72 1 oI ss.length cI (flat encO ss)] w := HS.left (H1 := [_, _]) (H2 := inv s1 :: sko st :: all ((ss.map sko).eraseIdx n) :: all (L.map dfi) :: cb bF 30 (encG f) :: H) (hH.perm (by (repeat (first | exact List.Perm.refl _ | exact List.Perm.nil | refine perm_pick 0 rfl ?_ | refine perm_pick 1 rfl ?_ | refine perm_pick 2 rfl ?_ | refine perm_pick 3 rfl ?_ | refine perm_pick 4 rfl ?_ | refine perm_pick 5 rfl ?_ | refine perm_pick 6 rfl ?_ | refine perm_pick 7 rfl ?_ | refine perm_pick 8 rfl ?_ | refine perm_pick 9 rfl ?_ | refine perm_pick 10 rfl ?_ | refine perm_pick 11 rfl ?_))))
    (refine wp_draw_HS (H := [cb b7 52 (encBl bl), own 72 1 oI ss.length cI (flat encO ss)]) [(0, 1), (1, 1), (2, 1), (3, 1), (4, 1), (5, 1), (6, 1), (7, 0), (8, 1)] mixed (by decide +kernel) (hST) ?_; replace hH := hH.drew)
    clear hST
    repeat' (first | (first | (refine GT ?_ ?_ <;> intro hg <;> clear hA a <;> intro a hA <;> (first | exact FA | replace hg := of_decide_eq_true hg | replace hg := of_decide_eq_false hg | skip)) | ((first | apply st_ex hA hH rfl rfl (by decide) | apply dr_ex hA rfl rfl rfl (by decide) | apply dr_exp hA rfl rfl rfl (by decide) | apply dr_ex3 hA hH rfl rfl rfl (by decide)); (first | (apply ex_indexAddr_nat; rfl; rfl; omega; exact hspI) | (apply ex_load; rfl; apply cl_own (T := 72); exact MEMT; exact hvI)); clear hA a; intro a hA) | (refine QT ?_; clear hA a; intro a hA) | (first | (refine BT ?_; clear hA hH; rintro _ w ⟨bN, rfl, hH⟩ a hA) | (refine LT ?_; clear hA hH; rintro _ w ⟨oN, rfl, hH⟩ a hA) | (refine AT ?_; clear hA; rintro _ w ⟨oN, cN, rfl, hH2⟩ a hA; clear hH; have hH := (hH2 _ (by (repeat constructor))).tail; clear hH2) | (refine S0T ?_; clear hH; rintro _ w hH) )) | ((first | refine CT ?_ | (refine DT ?_ ?_ <;> intro hc <;> try (exfalso; omega))) <;> repeat' refine CT ?_) | (first | (refine DSK ?_; clear hA a; intro a hA) | (first | (refine DLT ?_; clear hA hH; rintro _ w ⟨oN, rfl, hH⟩; refine ⟨STT, ?_⟩; intro a hA) | (refine DAT ?_; clear hA; rintro _ w ⟨oN, cN, rfl, hH2⟩; clear hH; have hH := (hH2 _ (by (repeat constructor))).tail; clear hH2; refine ⟨STT, ?_⟩; intro a hA))) )
    (refine dr_op hA rfl rfl rfl (by decide) (op_call rfl rfl (by simp) (hat _ s1 st bl.ps.o bl.ps.c bl.ps.l true _ hH (fun w' h => h.rd hbR.1.1 id) hspP hpsl hstl)) ?_; clear hA hH)
    rintro _ w (⟨s2, hs2, rfl, hH⟩ | ⟨hno, rfl, hH⟩)
    rotate_left
    · refine ⟨HS.left (H1 := [_, _]) (H2 := all ((ss.map sko).eraseIdx n) :: all (L.map dfi) :: cb bF 30 (encG f) :: H) (hH.perm (by (repeat (first | exact List.Perm.refl _ | exact List.Perm.nil | refine perm_pick 0 rfl ?_ | refine perm_pick 1 rfl ?_ | refine perm_pick 2 rfl ?_ | refine perm_pick 3 rfl ?_ | refine perm_pick 4 rfl ?_ | refine perm_pick 5 rfl ?_ | refine perm_pick 6 rfl ?_ | refine perm_pick 7 rfl ?_ | refine perm_pick 8 rfl ?_ | refine perm_pick 9 rfl ?_ | refine perm_pick 10 rfl ?_ | refine perm_pick 11 rfl ?_)))), ?_⟩
      intro a hA
      repeat' (first | (first | (refine GT ?_ ?_ <;> intro hg <;> clear hA a <;> intro a hA <;> (first | exact FA | replace hg := of_decide_eq_true hg | replace hg := of_decide_eq_false hg | skip)) | (refine QT ?_; clear hA a; intro a hA) | (first | (refine BT ?_; clear hA hH; rintro _ w ⟨bN, rfl, hH⟩ a hA) | (refine LT ?_; clear hA hH; rintro _ w ⟨oN, rfl, hH⟩ a hA) | (refine AT ?_; clear hA; rintro _ w ⟨oN, cN, rfl, hH2⟩ a hA; clear hH; have hH := (hH2 _ (by (repeat constructor))).tail; clear hH2) | (refine S0T ?_; clear hH; rintro _ w hH) )) | ((first | refine CT ?_ | (refine DT ?_ ?_ <;> intro hc <;> try (exfalso; omega))) <;> repeat' refine CT ?_) | (first | (refine DSK ?_; clear hA a; intro a hA) | (first | (refine DLT ?_; clear hA hH; rintro _ w ⟨oN, rfl, hH⟩; refine ⟨STT, ?_⟩; intro a hA) | (refine DAT ?_; clear hA; rintro _ w ⟨oN, cN, rfl, hH2⟩; clear hH; have hH := (hH2 _ (by (repeat constructor))).tail; clear hH2; refine ⟨STT, ?_⟩; intro a hA))) )
      refine rt1M (.inl rfl) rfl hA rfl (hH.up 2 rfl) fun w hH => ⟨ss, hsl, hF, .inr ⟨_, _, s1, slot_mem hbl (slot_none _ _), hIs, hno, rfl, hH.tail.tail.tail.tail⟩⟩
    have hpl1 := fa2_snoc hpl hIs
    have hgo1 := goes_snoc hgo hs2
    clear hpl hgo
    refine ⟨HS.left (H1 := [_, _]) (H2 := inv s2 :: sko st :: all ((ss.map sko).eraseIdx n) :: all (L.map dfi) :: cb bF 30 (encG f) :: H) (hH.perm (by (repeat (first | exact List.Perm.refl _ | exact List.Perm.nil | refine perm_pick 0 rfl ?_ | refine perm_pick 1 rfl ?_ | refine perm_pick 2 rfl ?_ | refine perm_pick 3 rfl ?_ | refine perm_pick 4 rfl ?_ | refine perm_pick 5 rfl ?_ | refine perm_pick 6 rfl ?_ | refine perm_pick 7 rfl ?_ | refine perm_pick 8 rfl ?_ | refine perm_pick 9 rfl ?_ | refine perm_pick 10 rfl ?_ | refine perm_pick 11 rfl ?_)))), ?_⟩
    intro a hA
    replace hH := (hH.up 1 rfl).perm (H' := sko st :: all ((ss.map sko).eraseIdx n) :: inv s2 :: cb b7 52 (encBl bl) :: all (L.map dfi) :: own 72 1 oI ss.length cI (flat encO ss) :: cb bF 30 (encG f) :: H) (by (repeat (first | exact List.Perm.refl _ | exact List.Perm.nil | refine perm_pick 0 rfl ?_ | refine perm_pick 1 rfl ?_ | refine perm_pick 2 rfl ?_ | refine perm_pick 3 rfl ?_ | refine perm_pick 4 rfl ?_ | refine perm_pick 5 rfl ?_ | refine perm_pick 6 rfl ?_ | refine perm_pick 7 rfl ?_ | refine perm_pick 8 rfl ?_ | refine perm_pick 9 rfl ?_ | refine perm_pick 10 rfl ?_ | refine perm_pick 11 rfl ?_)))
    replace hH := hH.shutAt (x := sko st) (by rw [List.length_map]; omega)
    rw [set_same hsm] at hH
    repeat' (first | (first | (refine GT ?_ ?_ <;> intro hg <;> clear hA a <;> intro a hA <;> (first | exact FA | replace hg := of_decide_eq_true hg | replace hg := of_decide_eq_false hg | skip)) | (refine QT ?_; clear hA a; intro a hA) | (first | (refine BT ?_; clear hA hH; rintro _ w ⟨bN, rfl, hH⟩ a hA) | (refine LT ?_; clear hA hH; rintro _ w ⟨oN, rfl, hH⟩ a hA) | (refine AT ?_; clear hA; rintro _ w ⟨oN, cN, rfl, hH2⟩ a hA; clear hH; have hH := (hH2 _ (by (repeat constructor))).tail; clear hH2) | (refine S0T ?_; clear hH; rintro _ w hH) | (apply st_op hA rfl rfl (by decide); apply op_make1 (encO) ((none : Option (Nat × List Int))) (n := bl.is.l.length); rfl; rfl; omega; omega; (unfold maxLen; omega); omega; rfl; rfl; exact hH; clear hA hH; rintro _ w ⟨oN, rfl, hH⟩ a hA))) | ((first | refine CT ?_ | (refine DT ?_ ?_ <;> intro hc <;> try (exfalso; omega))) <;> repeat' refine CT ?_) | (first | (refine DSK ?_; clear hA a; intro a hA) | (first | (refine DLT ?_; clear hA hH; rintro _ w ⟨oN, rfl, hH⟩; refine ⟨STT, ?_⟩; intro a hA) | (refine DAT ?_; clear hA; rintro _ w ⟨oN, cN, rfl, hH2⟩; clear hH; have hH := (hH2 _ (by (repeat constructor))).tail; clear hH2; refine ⟨STT, ?_⟩; intro a hA))) )
    obtain ⟨b8, hb8⟩ : ∃ x, x = bN := ⟨_, rfl⟩
    obtain ⟨oB, hoB⟩ : ∃ x, x = oN := ⟨_, rfl⟩
    rw [← hb8, ← hoB] at hA hH
    clear hb8 bN hoB oN
    obtain ⟨cB, hcB⟩ : ∃ x, x = bl.is.l.length := ⟨_, rfl⟩
    obtain ⟨bs0, hbs0⟩ : ∃ x, x = List.replicate bl.is.l.length (none : Option (Nat × List Int)) := ⟨_, rfl⟩
    have hbl0 : bs0.length = bl.is.l.length := by rw [hbs0, List.length_replicate]
    have hC0 : CloneOk bl ss bs0 bl.is.l.length := ⟨hbl0, fun i h1 h2 => by omega⟩
    have hH0 : HS w0 noM (own 72 1 oI ss.length cI (flat encO ss) :: all (ss.map sko) :: all [own 72 1 oB bs0.length cB (flat encO bs0), all (bs0.map sko)] :: cb b8 80 [.slice oB bl.is.l.length cB] :: inv s2 :: cb b7 52 (encBl bl) :: all (L.map dfi) :: cb bF 30 (encG f) :: H) w := by
      have h1 := rep_sko hH bl.is.l.length
      rw [← hbs0] at h1
      rw [hbl0, hcB]
      have h2 : HS w0 noM (own 72 1 oB bl.is.l.length bl.is.l.length (flat encO bs0) :: all (bs0.map sko) :: own 72 1 oI ss.length cI (flat encO ss) :: all (ss.map sko) :: cb b8 80 [.slice oB bl.is.l.length bl.is.l.length] :: inv s2 :: cb b7 52 (encBl bl) :: all (L.map dfi) :: cb bF 30 (encG f) :: H) w := by
        rw [hbs0] at h1 ⊢
        exact h1.perm (by (repeat (first | exact List.Perm.refl _ | exact List.Perm.nil | refine perm_pick 0 rfl ?_ | refine perm_pick 1 rfl ?_ | refine perm_pick 2 rfl ?_ | refine perm_pick 3 rfl ?_ | refine perm_pick 4 rfl ?_ | refine perm_pick 5 rfl ?_ | refine perm_pick 6 rfl ?_ | refine perm_pick 7 rfl ?_ | refine perm_pick 8 rfl ?_ | refine perm_pick 9 rfl ?_ | refine perm_pick 10 rfl ?_ | refine perm_pick 11 rfl ?_)))
      exact (HS.shut (L := [_, _]) h2).perm (by (repeat (first | exact List.Perm.refl _ | exact List.Perm.nil | refine perm_pick 0 rfl ?_ | refine perm_pick 1 rfl ?_ | refine perm_pick 2 rfl ?_ | refine perm_pick 3 rfl ?_ | refine perm_pick 4 rfl ?_ | refine perm_pick 5 rfl ?_ | refine perm_pick 6 rfl ?_ | refine perm_pick 7 rfl ?_ | refine perm_pick 8 rfl ?_ | refine perm_pick 9 rfl ?_ | refine perm_pick 10 rfl ?_ | refine perm_pick 11 rfl ?_)))
    have hA0 : Sl 79 [(38, .slice oI ss.length cI), (37, .agg (encBl bl).toArray), (8, .pointer (some (bat b8 0))), (7, .pointer (some (bat b7 0))), (6, .int .i64 n), (19, .int .i64 n), (18, .int .i64 f.bs.l.length), (17, .slice f.bs.o f.bs.l.length f.bs.c), (5, .slice oI ss.length cI), (2, .pointer (some (bat bF 0))), (1, .func (.func gf) #[] cap)] a (L.map dmk) := (hA.sub (by (repeat (first | exact trivial | refine ⟨rfl, ?_⟩))))
    clear hA hH
    have hA := hA0
    have hH := hH0
    clear hA0 hH0 hbs0
    (refine st_op hA rfl rfl (by decide) (op_call rfl rfl rfl (last_spec w0 _ _ bl oI cI ss hH hbR)) ?_; clear hA hH; rintro _ w ⟨b, ks, rfl, hks, hH⟩ a hA)
    repeat' (first | (first | (refine GT ?_ ?_ <;> intro hg <;> clear hA a <;> intro a hA <;> (first | exact FA | replace hg := of_decide_eq_true hg | replace hg := of_decide_eq_false hg | skip)) | (refine QT ?_; clear hA a; intro a hA) | (first | (refine BT ?_; clear hA hH; rintro _ w ⟨bN, rfl, hH⟩ a hA) | (refine LT ?_; clear hA hH; rintro _ w ⟨oN, rfl, hH⟩ a hA) | (refine AT ?_; clear hA; rintro _ w ⟨oN, cN, rfl, hH2⟩ a hA; clear hH; have hH := (hH2 _ (by (repeat constructor))).tail; clear hH2) | (refine S0T ?_; clear hH; rintro _ w hH) )) | ((first | refine CT ?_ | (refine DT ?_ ?_ <;> intro hc <;> try (exfalso; omega))) <;> repeat' refine CT ?_) | (first | (refine DSK ?_; clear hA a; intro a hA) | (first | (refine DLT ?_; clear hA hH; rintro _ w ⟨oN, rfl, hH⟩; refine ⟨STT, ?_⟩; intro a hA) | (refine DAT ?_; clear hA; rintro _ w ⟨oN, cN, rfl, hH2⟩; clear hH; have hH := (hH2 _ (by (repeat constructor))).tail; clear hH2; refine ⟨STT, ?_⟩; intro a hA))) )
    obtain ⟨b9, hb9⟩ : ∃ x, x = bN := ⟨_, rfl⟩
    rw [← hb9] at hA hH
    clear hb9 bN
    (refine st_op hA rfl rfl (by decide) (op_call rfl rfl rfl (backward_spec _ bl.is)) ?_; clear hA; rintro _ w ⟨bI, rfl, hj⟩ a hA; replace hH := hH.join hj; clear hj)
    repeat' (first | (first | (refine GT ?_ ?_ <;> intro hg <;> clear hA a <;> intro a hA <;> (first | exact FA | replace hg := of_decide_eq_true hg | replace hg := of_decide_eq_false hg | skip)) | (refine QT ?_; clear hA a; intro a hA) | (first | (refine BT ?_; clear hA hH; rintro _ w ⟨bN, rfl, hH⟩ a hA) | (refine LT ?_; clear hA hH; rintro _ w ⟨oN, rfl, hH⟩ a hA) | (refine AT ?_; clear hA; rintro _ w ⟨oN, cN, rfl, hH2⟩ a hA; clear hH; have hH := (hH2 _ (by (repeat constructor))).tail; clear hH2) | (refine S0T ?_; clear hH; rintro _ w hH) )) | ((first | refine CT ?_ | (refine DT ?_ ?_ <;> intro hc <;> try (exfalso; omega))) <;> repeat' refine CT ?_) | (first | (refine DSK ?_; clear hA a; intro a hA) | (first | (refine DLT ?_; clear hA hH; rintro _ w ⟨oN, rfl, hH⟩; refine ⟨STT, ?_⟩; intro a hA) | (refine DAT ?_; clear hA; rintro _ w ⟨oN, cN, rfl, hH2⟩; clear hH; have hH := (hH2 _ (by (repeat constructor))).tail; clear hH2; refine ⟨STT, ?_⟩; intro a hA))) )
    refine wp_range (gf := 64) (lb := #[.pointer (some (bat bI 0))])
      (fun j => skP b (insP (bl.is.l.drop j) (lastP bl.e ss)) :: exI (fun bs => facI (CloneOk bl ss bs j) (all [own 72 1 oB bs.length cB (flat encO bs), all (bs.map sko)])) :: cb bI 45 [.slice bl.is.o bl.is.l.length bl.is.c] :: cb b8 80 [.slice oB bl.is.l.length cB] :: cb b9 72 [.map (some b)] :: inv s2 :: own 72 1 oI ss.length cI (flat encO ss) :: all (ss.map sko) :: cb b7 52 (encBl bl) :: all (L.map dfi) :: cb bF 30 (encG f) :: H)
      (fun j => #[.int .i64 j, .agg (encIn (bl.is.l.getD j ins0)).toArray]) bl.is.l.length hA rfl (fun _ => rfl) ?_ (fun l X Y W hY hW => back_spec w0 bl.is bI (fun j => skP b (insP (bl.is.l.drop j) (lastP bl.e ss)) :: exI (fun bs => facI (CloneOk bl ss bs j) (all [own 72 1 oB bs.length cB (flat encO bs), all (bs.map sko)])) :: cb bI 45 [.slice bl.is.o bl.is.l.length bl.is.c] :: cb b8 80 [.slice oB bl.is.l.length cB] :: cb b9 72 [.map (some b)] :: inv s2 :: own 72 1 oI ss.length cI (flat encO ss) :: all (ss.map sko) :: cb b7 52 (encBl bl) :: all (L.map dfi) :: cb bF 30 (encG f) :: H) (fun i => .tail _ (.tail _ (.head _))) hbR.2.1 l X Y W hY hW) ?_ ?_
    · replace hH := HS.exI_shut (f := fun bs => facI (CloneOk bl ss bs bl.is.l.length) (all [own 72 1 oB bs.length cB (flat encO bs), all (bs.map sko)])) bs0 (HS.facI_shut hC0 (hH.up 5 rfl))
      dsimp only [List.eraseIdx_cons_succ, List.eraseIdx_cons_zero, List.cons_append, List.nil_append] at hH
      exact HS.shutP (ks := ks) (hH.perm (by (repeat (first | exact List.Perm.refl _ | exact List.Perm.nil | refine perm_pick 0 rfl ?_ | refine perm_pick 1 rfl ?_ | refine perm_pick 2 rfl ?_ | refine perm_pick 3 rfl ?_ | refine perm_pick 4 rfl ?_ | refine perm_pick 5 rfl ?_ | refine perm_pick 6 rfl ?_ | refine perm_pick 7 rfl ?_ | refine perm_pick 8 rfl ?_ | refine perm_pick 9 rfl ?_ | refine perm_pick 10 rfl ?_ | refine perm_pick 11 rfl ?_)))) (by rw [insP_end]; exact hks)
    · clear hH
      rintro l X Y j W hj hH
      have hA0 := rd_slots2 (p := 43) (q := 44) (v1 := .int .i64 j) (v2 := .agg (encIn (bl.is.l.getD j ins0)).toArray) hA (by decide) (by decide)
      clear hA
      generalize ({ tmps := _, defers := [] } : Act) = a0 at hA0 ⊢
      rename _ => hA
      apply wpIn_seq
      refine rd_region rfl ?_
      repeat' (first | (first | (refine GT ?_ ?_ <;> intro hg <;> clear hA a <;> intro a hA <;> (first | exact FA | replace hg := of_decide_eq_true hg | replace hg := of_decide_eq_false hg | skip)) | (refine QT ?_; clear hA a; intro a hA) | (first | (refine BT ?_; clear hA hH; rintro _ w ⟨bN, rfl, hH⟩ a hA) | (refine LT ?_; clear hA hH; rintro _ w ⟨oN, rfl, hH⟩ a hA) | (refine AT ?_; clear hA; rintro _ w ⟨oN, cN, rfl, hH2⟩ a hA; clear hH; have hH := (hH2 _ (by (repeat constructor))).tail; clear hH2) | (refine S0T ?_; clear hH; rintro _ w hH) )) | ((first | refine CT ?_ | (refine DT ?_ ?_ <;> intro hc <;> try (exfalso; omega))) <;> repeat' refine CT ?_) | (first | (refine DSK ?_; clear hA a; intro a hA) | (first | (refine DLT ?_; clear hA hH; rintro _ w ⟨oN, rfl, hH⟩; refine ⟨STT, ?_⟩; intro a hA) | (refine DAT ?_; clear hA; rintro _ w ⟨oN, cN, rfl, hH2⟩; clear hH; have hH := (hH2 _ (by (repeat constructor))).tail; clear hH2; refine ⟨STT, ?_⟩; intro a hA))) )
      refine rd_region rfl ?_
      repeat' (first | (first | (refine GT ?_ ?_ <;> intro hg <;> clear hA a <;> intro a hA <;> (first | exact FA | replace hg := of_decide_eq_true hg | replace hg := of_decide_eq_false hg | skip)) | (refine QT ?_; clear hA a; intro a hA) | (first | (refine BT ?_; clear hA hH; rintro _ w ⟨bN, rfl, hH⟩ a hA) | (refine LT ?_; clear hA hH; rintro _ w ⟨oN, rfl, hH⟩ a hA) | (refine AT ?_; clear hA; rintro _ w ⟨oN, cN, rfl, hH2⟩ a hA; clear hH; have hH := (hH2 _ (by (repeat constructor))).tail; clear hH2) | (refine S0T ?_; clear hH; rintro _ w hH) | (apply st_op0 hA rfl rfl; apply op_store_agg (vs := encIn (bl.is.l.getD j ins0)); rfl; rfl; exact hH; (repeat constructor); (repeat rfl); clear hH; rintro _ w hH))) | ((first | refine CT ?_ | (refine DT ?_ ?_ <;> intro hc <;> try (exfalso; omega))) <;> repeat' refine CT ?_) | (first | (refine DSK ?_; clear hA a; intro a hA) | (first | (refine DLT ?_; clear hA hH; rintro _ w ⟨oN, rfl, hH⟩; refine ⟨STT, ?_⟩; intro a hA) | (refine DAT ?_; clear hA; rintro _ w ⟨oN, cN, rfl, hH2⟩; clear hH; have hH := (hH2 _ (by (repeat constructor))).tail; clear hH2; refine ⟨STT, ?_⟩; intro a hA))) )
      refine ⟨_, hH.up 1 rfl, fun X' W2 hH => ?_⟩
      dsimp only [List.eraseIdx_cons_succ, List.eraseIdx_cons_zero] at hH
      apply wpIn_block
      have hls : (bl.is.l.getD j ins0) ∈ bl.is.l := getD_mem hj
      replace hH := hH.up 3 rfl
      dsimp only [List.eraseIdx_cons_succ, List.eraseIdx_cons_zero] at hH
      obtain ⟨ks1, hks1, hH1⟩ := hH.openP
      clear hH
      have hH := hH1.up 4 rfl
      clear hH1
      dsimp only [List.eraseIdx_cons_succ, List.eraseIdx_cons_zero] at hH
      obtain ⟨bs, hH1⟩ := hH.exI_open
      clear hH
      obtain ⟨hC, hH2⟩ := hH1.facI_open
      clear hH1
      have hspB := (hH2.open_).own_sp (T := 72) (o := oB) (n := bs.length) (.head _)
      rw [hC.1] at hspB
      have hH := (hH2.up 1 rfl)
      clear hH2
      dsimp only [List.eraseIdx_cons_succ, List.eraseIdx_cons_zero] at hH
      apply wpIn_seq
      refine rd_draw (H := [cb b8 80 [.slice oB bl.is.l.length cB], cb b9 72 [.map (some b)]]) [(0, 1), (1, 1), (2, 1), (3, 0), (4, 1), (5, 0)] mixed rfl (by decide +kernel) (HS.left (H1 := [_, _]) (H2 := _ :: _ :: _ :: _ :: _ :: _ :: _ :: _ :: _ :: _ :: _ :: _ :: H) (hH.perm (by (repeat (first | exact List.Perm.refl _ | exact List.Perm.nil | refine perm_pick 0 rfl ?_ | refine perm_pick 1 rfl ?_ | refine perm_pick 2 rfl ?_ | refine perm_pick 3 rfl ?_ | refine perm_pick 4 rfl ?_ | refine perm_pick 5 rfl ?_ | refine perm_pick 6 rfl ?_ | refine perm_pick 7 rfl ?_ | refine perm_pick 8 rfl ?_ | refine perm_pick 9 rfl ?_ | refine perm_pick 10 rfl ?_ | refine perm_pick 11 rfl ?_))))) ?_
      replace hH := hH.drew
      repeat' (first | (first | (refine GT ?_ ?_ <;> intro hg <;> clear hA a <;> intro a hA <;> (first | exact FA | replace hg := of_decide_eq_true hg | replace hg := of_decide_eq_false hg | skip)) | (refine QT ?_; clear hA a; intro a hA) | (first | (refine BT ?_; clear hA hH; rintro _ w ⟨bN, rfl, hH⟩ a hA) | (refine LT ?_; clear hA hH; rintro _ w ⟨oN, rfl, hH⟩ a hA) | (refine AT ?_; clear hA; rintro _ w ⟨oN, cN, rfl, hH2⟩ a hA; clear hH; have hH := (hH2 _ (by (repeat constructor))).tail; clear hH2) | (refine S0T ?_; clear hH; rintro _ w hH) )) | ((first | refine CT ?_ | (refine DT ?_ ?_ <;> intro hc <;> try (exfalso; omega))) <;> repeat' refine CT ?_) | (first | (refine DSK ?_; clear hA a; intro a hA) | (first | (refine DLT ?_; clear hA hH; rintro _ w ⟨oN, rfl, hH⟩; refine ⟨STT, ?_⟩; intro a hA) | (refine DAT ?_; clear hA; rintro _ w ⟨oN, cN, rfl, hH2⟩; clear hH; have hH := (hH2 _ (by (repeat constructor))).tail; clear hH2; refine ⟨STT, ?_⟩; intro a hA))) )
      (refine dr_op hA rfl rfl rfl (by decide) (op_call rfl rfl rfl (clone_spec w0 _ _ b ks1 hH)) ?_; clear hA hH; rintro _ w ⟨bC, ksC, rfl, hkC, hH⟩; refine ⟨HS.left (H1 := [_, _]) hH.tail.tail.tail.tail.tail.tail.tail, ?_⟩; intro a hA)
      replace hH := (hH.up 2 rfl).open_
      dsimp only [List.eraseIdx_cons_succ, List.eraseIdx_cons_zero, List.cons_append, List.nil_append] at hH
      have hjb : j * 1 < bs.length := by rw [hC.1]; omega
      repeat' (first | (first | (refine GT ?_ ?_ <;> intro hg <;> clear hA a <;> intro a hA <;> (first | exact FA | replace hg := of_decide_eq_true hg | replace hg := of_decide_eq_false hg | skip)) | ((first | apply st_ex hA hH rfl rfl (by decide) | apply dr_ex hA rfl rfl rfl (by decide) | apply dr_exp hA rfl rfl rfl (by decide) | apply dr_ex3 hA hH rfl rfl rfl (by decide)); (first | (apply ex_indexAddr_nat; rfl; rfl; omega; exact hspB)); clear hA a; intro a hA) | (refine QT ?_; clear hA a; intro a hA) | (first | (refine BT ?_; clear hA hH; rintro _ w ⟨bN, rfl, hH⟩ a hA) | (refine LT ?_; clear hA hH; rintro _ w ⟨oN, rfl, hH⟩ a hA) | (refine AT ?_; clear hA; rintro _ w ⟨oN, cN, rfl, hH2⟩ a hA; clear hH; have hH := (hH2 _ (by (repeat constructor))).tail; clear hH2) | (refine S0T ?_; clear hH; rintro _ w hH) )) | ((first | refine CT ?_ | (refine DT ?_ ?_ <;> intro hc <;> try (exfalso; omega))) <;> repeat' refine CT ?_) | (first | (refine DSK ?_; clear hA a; intro a hA) | (first | (refine DLT ?_; clear hA hH; rintro _ w ⟨oN, rfl, hH⟩; refine ⟨STT, ?_⟩; intro a hA) | (refine DAT ?_; clear hA; rintro _ w ⟨oN, cN, rfl, hH2⟩; clear hH; have hH := (hH2 _ (by (repeat constructor))).tail; clear hH2; refine ⟨STT, ?_⟩; intro a hA))) )
      (apply dr_op0 hA rfl rfl rfl; apply op_set1 (enc := encO) (y0 := some (bC, ksC)); rfl; rfl; rfl; rfl; exact encO_len; exact hH; (repeat constructor); exact hjb; clear hH; rintro _ w hH; refine ⟨HS.left (H1 := [_, _]) hH.tail.tail.tail.tail.tail.tail.tail.tail, ?_⟩)
      rw [Nat.mul_one] at hH
      have hC2 := clone_set (b := bC) (ks := ksC) hC hj hks1 hkC
      apply dr_nil
      show Exit.then _ _ _ _ _
      refine then_normal ?_
      refine rd_region rfl ?_
      repeat' (first | (first | (refine GT ?_ ?_ <;> intro hg <;> clear hA a <;> intro a hA <;> (first | exact FA | replace hg := of_decide_eq_true hg | replace hg := of_decide_eq_false hg | skip)) | (refine QT ?_; clear hA a; intro a hA) | (first | (refine BT ?_; clear hA hH; rintro _ w ⟨bN, rfl, hH⟩ a hA) | (refine LT ?_; clear hA hH; rintro _ w ⟨oN, rfl, hH⟩ a hA) | (refine AT ?_; clear hA; rintro _ w ⟨oN, cN, rfl, hH2⟩ a hA; clear hH; have hH := (hH2 _ (by (repeat constructor))).tail; clear hH2) | (refine S0T ?_; clear hH; rintro _ w hH) )) | ((first | refine CT ?_ | (refine DT ?_ ?_ <;> intro hc <;> try (exfalso; omega))) <;> repeat' refine CT ?_) | (first | (refine DSK ?_; clear hA a; intro a hA) | (first | (refine DLT ?_; clear hA hH; rintro _ w ⟨oN, rfl, hH⟩; refine ⟨STT, ?_⟩; intro a hA) | (refine DAT ?_; clear hA; rintro _ w ⟨oN, cN, rfl, hH2⟩; clear hH; have hH := (hH2 _ (by (repeat constructor))).tail; clear hH2; refine ⟨STT, ?_⟩; intro a hA))) )
      have hjm : j < (bs.map sko).length := by rw [List.length_map]; omega
      replace hH := (hH.up 1 rfl).openAt (List.getElem?_eq_getElem hjm)
      dsimp only [List.eraseIdx_cons_succ, List.eraseIdx_cons_zero] at hH
      replace hH := (hH.tail.up 2 rfl).shutAt (x := sk bC ksC) hjm
      dsimp only [List.eraseIdx_cons_succ, List.eraseIdx_cons_zero] at hH
      rw [map_sko_set, len_set bs j (some (bC, ksC))] at hH
      generalize bs.set j (some (bC, ksC)) = bs1 at hH hC2
      replace hH := hH.up 2 rfl
      dsimp only [List.eraseIdx_cons_succ, List.eraseIdx_cons_zero] at hH
      (refine st_op hA rfl rfl (by decide) (op_call rfl rfl rfl (step_spec w0 _ _ b ks1 (bl.is.l.getD j ins0) hH (hbR.2.2.1 _ (getD_mem hj)))) ?_; clear hA hH; rintro _ w ⟨ks2, hks2, hH⟩ a hA)
      repeat' (first | (first | (refine GT ?_ ?_ <;> intro hg <;> clear hA a <;> intro a hA <;> (first | exact FA | replace hg := of_decide_eq_true hg | replace hg := of_decide_eq_false hg | skip)) | (refine QT ?_; clear hA a; intro a hA) | (first | (refine BT ?_; clear hA hH; rintro _ w ⟨bN, rfl, hH⟩ a hA) | (refine LT ?_; clear hA hH; rintro _ w ⟨oN, rfl, hH⟩ a hA) | (refine AT ?_; clear hA; rintro _ w ⟨oN, cN, rfl, hH2⟩ a hA; clear hH; have hH := (hH2 _ (by (repeat constructor))).tail; clear hH2) | (refine S0T ?_; clear hH; rintro _ w hH) )) | ((first | refine CT ?_ | (refine DT ?_ ?_ <;> intro hc <;> try (exfalso; omega))) <;> repeat' refine CT ?_) | (first | (refine DSK ?_; clear hA a; intro a hA) | (first | (refine DLT ?_; clear hA hH; rintro _ w ⟨oN, rfl, hH⟩; refine ⟨STT, ?_⟩; intro a hA) | (refine DAT ?_; clear hA; rintro _ w ⟨oN, cN, rfl, hH2⟩; clear hH; have hH := (hH2 _ (by (repeat constructor))).tail; clear hH2; refine ⟨STT, ?_⟩; intro a hA))) )
      replace hH := HS.exI_shut (f := fun bs => facI (CloneOk bl ss bs j) (all [own 72 1 oB bs.length cB (flat encO bs), all (bs.map sko)])) bs1 (HS.facI_shut hC2 (HS.shut (L := [_, _]) ((hH.up 1 rfl).up 2 rfl)))
      dsimp only [List.eraseIdx_cons_succ, List.eraseIdx_cons_zero] at hH
      replace hH := HS.shutP (hH.up 1 rfl) (insP_at hj hks1 hks2)
      dsimp only [List.eraseIdx_cons_succ, List.eraseIdx_cons_zero] at hH
      exact (hH.rm 3).perm (by (repeat (first | exact List.Perm.refl _ | exact List.Perm.nil | refine perm_pick 0 rfl ?_ | refine perm_pick 1 rfl ?_ | refine perm_pick 2 rfl ?_ | refine perm_pick 3 rfl ?_ | refine perm_pick 4 rfl ?_ | refine perm_pick 5 rfl ?_ | refine perm_pick 6 rfl ?_ | refine perm_pick 7 rfl ?_ | refine perm_pick 8 rfl ?_ | refine perm_pick 9 rfl ?_ | refine perm_pick 10 rfl ?_ | refine perm_pick 11 rfl ?_)))
    clear hA hH
    intro D a w hA hH
    rw [List.drop_zero] at hH
    repeat' (first | (first | (refine GT ?_ ?_ <;> intro hg <;> clear hA a <;> intro a hA <;> (first | exact FA | replace hg := of_decide_eq_true hg | replace hg := of_decide_eq_false hg | skip)) | (refine QT ?_; clear hA a; intro a hA) | (first | (refine BT ?_; clear hA hH; rintro _ w ⟨bN, rfl, hH⟩ a hA) | (refine LT ?_; clear hA hH; rintro _ w ⟨oN, rfl, hH⟩ a hA) | (refine AT ?_; clear hA; rintro _ w ⟨oN, cN, rfl, hH2⟩ a hA; clear hH; have hH := (hH2 _ (by (repeat constructor))).tail; clear hH2) | (refine S0T ?_; clear hH; rintro _ w hH) )) | ((first | refine CT ?_ | (refine DT ?_ ?_ <;> intro hc <;> try (exfalso; omega))) <;> repeat' refine CT ?_) | (first | (refine DSK ?_; clear hA a; intro a hA) | (first | (refine DLT ?_; clear hA hH; rintro _ w ⟨oN, rfl, hH⟩; refine ⟨STT, ?_⟩; intro a hA) | (refine DAT ?_; clear hA; rintro _ w ⟨oN, cN, rfl, hH2⟩; clear hH; have hH := (hH2 _ (by (repeat constructor))).tail; clear hH2; refine ⟨STT, ?_⟩; intro a hA))) )
    replace hH := hH.up 1 rfl
    dsimp only [List.eraseIdx_cons_succ, List.eraseIdx_cons_zero] at hH
    obtain ⟨ksx, _, hH1⟩ := hH.openP
    clear hH
    have hH := hH1.tail.up 1 rfl
    clear hH1
    dsimp only [List.eraseIdx_cons_succ, List.eraseIdx_cons_zero] at hH
    obtain ⟨bs, hH1⟩ := hH.exI_open
    clear hH
    obtain ⟨hC, hH2⟩ := hH1.facI_open
    clear hH1
    have hH := dfi_cons (hH2.perm (H' := all (L.map dfi) :: dfi D :: all [own 72 1 oB bs.length cB (flat encO bs), all (bs.map sko)] :: inv s2 :: own 72 1 oI ss.length cI (flat encO ss) :: all (ss.map sko) :: cb b7 52 (encBl bl) :: cb bF 30 (encG f) :: cb b8 80 [.slice oB bl.is.l.length cB] :: cb bI 45 [.slice bl.is.o bl.is.l.length bl.is.c] :: cb b9 72 [.map (some b)] :: H) (by (repeat (first | exact List.Perm.refl _ | exact List.Perm.nil | refine perm_pick 0 rfl ?_ | refine perm_pick 1 rfl ?_ | refine perm_pick 2 rfl ?_ | refine perm_pick 3 rfl ?_ | refine perm_pick 4 rfl ?_ | refine perm_pick 5 rfl ?_ | refine perm_pick 6 rfl ?_ | refine perm_pick 7 rfl ?_ | refine perm_pick 8 rfl ?_ | refine perm_pick 9 rfl ?_ | refine perm_pick 10 rfl ?_ | refine perm_pick 11 rfl ?_))))
    clear hH2
    have hH3 := (hH.up 1 rfl).open_
    clear hH
    dsimp only [List.eraseIdx_cons_succ, List.eraseIdx_cons_zero, List.cons_append, List.nil_append] at hH3
    have hspB := hH3.own_sp (T := 72) (o := oB) (n := bs.length) (.head _)
    rw [hC.1] at hspB
    have hH := (hH3.rm 9).rm 9
    clear hH3
    dsimp only [List.eraseIdx_cons_succ, List.eraseIdx_cons_zero] at hH
    refine wp_lpk (S := Nat) (fun i a w => ∃ (pl : List Pl) (s1 : S) (bs : List (Option (Nat × List Int))), (i ≤ bl.is.l.length ∧ FA2 (IsAt f ss) (slots f n ++ slotB n i) pl ∧ goes at_ s0 pl = some s1 ∧ CloneOk bl ss bs i) ∧
        HS w0 noM (cb b8 80 [.slice oB bl.is.l.length cB] :: own 72 1 oB bs.length cB (flat encO bs) :: all (bs.map sko) :: inv s1 :: all ((D :: L).map dfi) :: own 72 1 oI ss.length cI (flat encO ss) :: all (ss.map sko) :: cb b7 52 (encBl bl) :: cb bF 30 (encG f) :: H) w ∧
        Sl 79 [(56, .int .i64 i), (55, .int .i64 bl.is.l.length), (54, .slice bl.is.o bl.is.l.length bl.is.c), (8, .pointer (some (bat b8 0))), (19, .int .i64 n), (18, .int .i64 f.bs.l.length), (17, .slice f.bs.o f.bs.l.length f.bs.c), (5, .slice oI ss.length cI), (2, .pointer (some (bat bF 0))), (1, .func (.func gf) #[] cap)] a ((D :: L).map dmk)) (fun i => bl.is.l.length - i)
      (fun a w => ∃ (pl : List Pl) (s1 : S), (FA2 (IsAt f ss) (slots f n ++ slotB n bl.is.l.length) pl ∧ goes at_ s0 pl = some s1) ∧
        HS w0 noM (inv s1 :: all ((D :: L).map dfi) :: own 72 1 oI ss.length cI (flat encO ss) :: all (ss.map sko) :: cb b7 52 (encBl bl) :: cb bF 30 (encG f) :: H) w ∧
        Sl 79 [(19, .int .i64 n), (18, .int .i64 f.bs.l.length), (17, .slice f.bs.o f.bs.l.length f.bs.c), (5, .slice oI ss.length cI), (2, .pointer (some (bat bF 0))), (1, .func (.func gf) #[] cap)] a ((D :: L).map dmk)) 0
      ⟨_, s2, bs, ⟨Nat.zero_le _, (by unfold slotB; exact hpl1), hgo1, hC⟩, hH.perm (by (repeat (first | exact List.Perm.refl _ | exact List.Perm.nil | refine perm_pick 0 rfl ?_ | refine perm_pick 1 rfl ?_ | refine perm_pick 2 rfl ?_ | refine perm_pick 3 rfl ?_ | refine perm_pick 4 rfl ?_ | refine perm_pick 5 rfl ?_ | refine perm_pick 6 rfl ?_ | refine perm_pick 7 rfl ?_ | refine perm_pick 8 rfl ?_ | refine perm_pick 9 rfl ?_ | refine perm_pick 10 rfl ?_ | refine perm_pick 11 rfl ?_))), (hA.sub (by (repeat (first | exact trivial | refine ⟨rfl, ?_⟩))))⟩ ?_ ?_
    · clear hA hH hC hpl1 hgo1 hs2 hks
      rintro i a w ⟨pl, s1, bs, ⟨hi, hpl, hgo, hC⟩, hH, hA⟩
      by_cases hlti : i < bl.is.l.length
      rotate_left
      · obtain rfl : i = bl.is.l.length := by omega
        repeat' (first | (first | (refine GT ?_ ?_ <;> intro hg <;> clear hA a <;> intro a hA <;> (first | exact FA | replace hg := of_decide_eq_true hg | replace hg := of_decide_eq_false hg | skip)) | (refine QT ?_; clear hA a; intro a hA) | (first | (refine BT ?_; clear hA hH; rintro _ w ⟨bN, rfl, hH⟩ a hA) | (refine LT ?_; clear hA hH; rintro _ w ⟨oN, rfl, hH⟩ a hA) | (refine AT ?_; clear hA; rintro _ w ⟨oN, cN, rfl, hH2⟩ a hA; clear hH; have hH := (hH2 _ (by (repeat constructor))).tail; clear hH2) | (refine S0T ?_; clear hH; rintro _ w hH) )) | ((first | refine CT ?_ | (refine DT ?_ ?_ <;> intro hc <;> try (exfalso; omega))) <;> repeat' refine CT ?_) | (first | (refine DSK ?_; clear hA a; intro a hA) | (first | (refine DLT ?_; clear hA hH; rintro _ w ⟨oN, rfl, hH⟩; refine ⟨STT, ?_⟩; intro a hA) | (refine DAT ?_; clear hA; rintro _ w ⟨oN, cN, rfl, hH2⟩; clear hH; have hH := (hH2 _ (by (repeat constructor))).tail; clear hH2; refine ⟨STT, ?_⟩; intro a hA))) )
        exact ⟨pl, s1, ⟨hpl, hgo⟩, hH.tail.tail.tail, (hA.sub (by (repeat (first | exact trivial | refine ⟨rfl, ?_⟩))))⟩
      obtain ⟨ins, hins⟩ : ∃ x, bl.is.l[i]? = some x := ⟨_, List.getElem?_eq_getElem hlti⟩
      have hvi := flat_all encIn_len hins
      obtain ⟨p, hbp, hpk⟩ := hC.2 i (Nat.le_refl _) hlti
      have hvB : (flat encO bs)[i * 1]? = some (.map (some p.1)) := flat_get (off := 0) encO_len hbp rfl
      have hsmB : (bs.map sko)[i]? = some (sk p.1 p.2) := by rw [List.getElem?_map, hbp]; exact congrArg some (sko_some _ _)
      have hib : i < (bs.map sko).length := by rw [List.length_map, hC.1]; omega
      repeat' (first | (first | (refine GT ?_ ?_ <;> intro hg <;> clear hA a <;> intro a hA <;> (first | exact FA | replace hg := of_decide_eq_true hg | replace hg := of_decide_eq_false hg | skip)) | ((first | apply st_ex hA hH rfl rfl (by decide) | apply dr_ex hA rfl rfl rfl (by decide) | apply dr_exp hA rfl rfl rfl (by decide) | apply dr_ex3 hA hH rfl rfl rfl (by decide)); (first | (apply ex_load_st (vs := encIn ins); rfl; rfl; exact cls_rd hbR.2.1.1 id hvi) | (apply ex_indexAddr_nat; rfl; rfl; omega; exact hspIs)); clear hA a; intro a hA) | (refine QT ?_; clear hA a; intro a hA) | (first | (refine BT ?_; clear hA hH; rintro _ w ⟨bN, rfl, hH⟩ a hA) | (refine LT ?_; clear hA hH; rintro _ w ⟨oN, rfl, hH⟩ a hA) | (refine AT ?_; clear hA; rintro _ w ⟨oN, cN, rfl, hH2⟩ a hA; clear hH; have hH := (hH2 _ (by (repeat constructor))).tail; clear hH2) | (refine S0T ?_; clear hH; rintro _ w hH) | (apply st_op0 hA rfl rfl; apply op_store_agg (vs := encIn ins); rfl; rfl; exact hH; (repeat constructor); (repeat rfl); clear hH; rintro _ w hH))) | ((first | refine CT ?_ | (refine DT ?_ ?_ <;> intro hc <;> try (exfalso; omega))) <;> repeat' refine CT ?_) | (first | (refine DSK ?_; clear hA a; intro a hA) | (first | (refine DLT ?_; clear hA hH; rintro _ w ⟨oN, rfl, hH⟩; refine ⟨STT, ?_⟩; intro a hA) | (refine DAT ?_; clear hA; rintro _ w ⟨oN, cN, rfl, hH2⟩; clear hH; have hH := (hH2 _ (by (repeat constructor))).tail; clear hH2; refine ⟨STT, ?_⟩; intro a hA))) )
      replace hH := (hH.up 3 rfl).openAt hsmB
      dsimp only [List.eraseIdx_cons_succ, List.eraseIdx_cons_zero] at hH
      have hnp := hH.sk_nodup (b := p.1) (ks := p.2) (.head _)
      replace hH := hH.perm (H' := cb bN 58 (encIn ins) :: cb b8 80 [.slice oB bl.is.l.length cB] :: own 72 1 oB bs.length cB (flat encO bs) :: sk p.1 p.2 :: all ((bs.map sko).eraseIdx i) :: inv s1 :: all ((D :: L).map dfi) :: own 72 1 oI ss.length cI (flat encO ss) :: all (ss.map sko) :: cb b7 52 (encBl bl) :: cb bF 30 (encG f) :: H) (by (repeat (first | exact List.Perm.refl _ | exact List.Perm.nil | refine perm_pick 0 rfl ?_ | refine perm_pick 1 rfl ?_ | refine perm_pick 2 rfl ?_ | refine perm_pick 3 rfl ?_ | refine perm_pick 4 rfl ?_ | refine perm_pick 5 rfl ?_ | refine perm_pick 6 rfl ?_ | refine perm_pick 7 rfl ?_ | refine perm_pick 8 rfl ?_ | refine perm_pick 9 rfl ?_ | refine perm_pick 10 rfl ?_ | refine perm_pick 11 rfl ?_)))
      have hST := HS.left (H1 := [_, _, _]) hH
      (refine wp_draw_HS (H := [_, _, _]) [(0, 1), (1, 1), (2, 1), (3, 1), (4, 1), (5, 1), (6, 0)] mixed (by decide +kernel) (hST) ?_; replace hH := hH.drew)
      clear hST
      repeat' (first | (first | (refine GT ?_ ?_ <;> intro hg <;> clear hA a <;> intro a hA <;> (first | exact FA | replace hg := of_decide_eq_true hg | replace hg := of_decide_eq_false hg | skip)) | ((first | apply st_ex hA hH rfl rfl (by decide) | apply dr_ex hA rfl rfl rfl (by decide) | apply dr_exp hA rfl rfl rfl (by decide) | apply dr_ex3 hA hH rfl rfl rfl (by decide)); (first | (apply ex_indexAddr_nat; rfl; rfl; omega; exact hspB) | (apply ex_load; rfl; apply cl_own (T := 72); exact MEMT; exact hvB)); clear hA a; intro a hA) | (refine QT ?_; clear hA a; intro a hA) | (first | (refine BT ?_; clear hA hH; rintro _ w ⟨bN, rfl, hH⟩ a hA) | (refine LT ?_; clear hA hH; rintro _ w ⟨oN, rfl, hH⟩ a hA) | (refine AT ?_; clear hA; rintro _ w ⟨oN, cN, rfl, hH2⟩ a hA; clear hH; have hH := (hH2 _ (by (repeat constructor))).tail; clear hH2) | (refine S0T ?_; clear hH; rintro _ w hH) )) | ((first | refine CT ?_ | (refine DT ?_ ?_ <;> intro hc <;> try (exfalso; omega))) <;> repeat' refine CT ?_) | (first | (refine DSK ?_; clear hA a; intro a hA) | (first | (refine DLT ?_; clear hA hH; rintro _ w ⟨oN, rfl, hH⟩; refine ⟨STT, ?_⟩; intro a hA) | (refine DAT ?_; clear hA; rintro _ w ⟨oN, cN, rfl, hH2⟩; clear hH; have hH := (hH2 _ (by (repeat constructor))).tail; clear hH2; refine ⟨STT, ?_⟩; intro a hA))) )
      (first | (apply dr_op0 hA rfl rfl rfl; apply op_delK; rfl; rfl; exact hH; (repeat constructor); clear hH; rintro _ w ⟨_, hH⟩; refine ⟨HS.left (H1 := [_, _, _]) hH, ?_⟩) | (apply dr_op hA rfl rfl rfl (by decide); apply op_delK; rfl; rfl; exact hH; (repeat constructor); clear hA hH; rintro _ w ⟨rfl, hH⟩; refine ⟨HS.left (H1 := [_, _, _]) hH, ?_⟩; intro a hA))
      repeat' (first | (first | (refine GT ?_ ?_ <;> intro hg <;> clear hA a <;> intro a hA <;> (first | exact FA | replace hg := of_decide_eq_true hg | replace hg := of_decide_eq_false hg | skip)) | (refine QT ?_; clear hA a; intro a hA) | (first | (refine BT ?_; clear hA hH; rintro _ w ⟨bN, rfl, hH⟩ a hA) | (refine LT ?_; clear hA hH; rintro _ w ⟨oN, rfl, hH⟩ a hA) | (refine AT ?_; clear hA; rintro _ w ⟨oN, cN, rfl, hH2⟩ a hA; clear hH; have hH := (hH2 _ (by (repeat constructor))).tail; clear hH2) | (refine S0T ?_; clear hH; rintro _ w hH) )) | ((first | refine CT ?_ | (refine DT ?_ ?_ <;> intro hc <;> try (exfalso; omega))) <;> repeat' refine CT ?_) | (first | (refine DSK ?_; clear hA a; intro a hA) | (first | (refine DLT ?_; clear hA hH; rintro _ w ⟨oN, rfl, hH⟩; refine ⟨STT, ?_⟩; intro a hA) | (refine DAT ?_; clear hA; rintro _ w ⟨oN, cN, rfl, hH2⟩; clear hH; have hH := (hH2 _ (by (repeat constructor))).tail; clear hH2; refine ⟨STT, ?_⟩; intro a hA))) )
      have hnd := hH.sk_nodup (b := p.1) (ks := sdel p.2 ins.x) (.tail _ (.tail _ (.tail _ (.head _))))
      have hIs := isAt_i (b := p.1) hbl hins hpk hnd
      have hkl := hK _ _ hIs
      rw [← sko_some] at hH
      have hST := HS.left (H1 := [_, _, _]) hH
      (refine wp_draw_HS (H := [_, _, _]) [(0, 1), (1, 1), (2, 1), (4, 1), (5, 1), (6, 1), (7, 1), (3, 0), (8, 0), (9, 1)] mixed (by decide +kernel) (hST) ?_; replace hH := hH.drew)
      clear hST
      repeat' (first | (first | (refine GT ?_ ?_ <;> intro hg <;> clear hA a <;> intro a hA <;> (first | exact FA | replace hg := of_decide_eq_true hg | replace hg := of_decide_eq_false hg | skip)) | ((first | apply st_ex hA hH rfl rfl (by decide) | apply dr_ex hA rfl rfl rfl (by decide) | apply dr_exp hA rfl rfl rfl (by decide) | apply dr_ex3 hA hH rfl rfl rfl (by decide)); (first | (apply ex_indexAddr_nat; rfl; rfl; omega; exact hspB) | (apply ex_load; rfl; apply cl_own (T := 72); exact MEMT; exact hvB)); clear hA a; intro a hA) | (refine QT ?_; clear hA a; intro a hA) | (first | (refine BT ?_; clear hA hH; rintro _ w ⟨bN, rfl, hH⟩ a hA) | (refine LT ?_; clear hA hH; rintro _ w ⟨oN, rfl, hH⟩ a hA) | (refine AT ?_; clear hA; rintro _ w ⟨oN, cN, rfl, hH2⟩ a hA; clear hH; have hH := (hH2 _ (by (repeat constructor))).tail; clear hH2) | (refine S0T ?_; clear hH; rintro _ w hH) )) | ((first | refine CT ?_ | (refine DT ?_ ?_ <;> intro hc <;> try (exfalso; omega))) <;> repeat' refine CT ?_) | (first | (refine DSK ?_; clear hA a; intro a hA) | (first | (refine DLT ?_; clear hA hH; rintro _ w ⟨oN, rfl, hH⟩; refine ⟨STT, ?_⟩; intro a hA) | (refine DAT ?_; clear hA; rintro _ w ⟨oN, cN, rfl, hH2⟩; clear hH; have hH := (hH2 _ (by (repeat constructor))).tail; clear hH2; refine ⟨STT, ?_⟩; intro a hA))) )
      (apply dr_op hA rfl rfl rfl (by decide); apply op_sliceLit; rfl; rfl; exact CATST; rfl; rfl; rfl; exact hH; clear hA hH; rintro _ w ⟨oN, rfl, hH⟩; refine ⟨HS.left (H1 := [_, _, _]) hH.tail, ?_⟩; intro a hA)
      rw [← flatI_one] at hH
      replace hH := hH.perm (H' := inv s1 :: sko (some (p.1, sdel p.2 ins.x)) :: cb bN 58 (encIn ins) :: cb b8 80 [.slice oB bl.is.l.length cB] :: own 72 1 oB bs.length cB (flat encO bs) :: own 3 1 oN 1 1 (flat Fw.encI [ins.x]) :: all ((bs.map sko).eraseIdx i) :: all ((D :: L).map dfi) :: own 72 1 oI ss.length cI (flat encO ss) :: all (ss.map sko) :: cb b7 52 (encBl bl) :: cb bF 30 (encG f) :: H) (by (repeat (first | exact List.Perm.refl _ | exact List.Perm.nil | refine perm_pick 0 rfl ?_ | refine perm_pick 1 rfl ?_ | refine perm_pick 2 rfl ?_ | refine perm_pick 3 rfl ?_ | refine perm_pick 4 rfl ?_ | refine perm_pick 5 rfl ?_ | refine perm_pick 6 rfl ?_ | refine perm_pick 7 rfl ?_ | refine perm_pick 8 rfl ?_ | refine perm_pick 9 rfl ?_ | refine perm_pick 10 rfl ?_ | refine perm_pick 11 rfl ?_)))
      (refine dr_op hA rfl rfl rfl (by decide) (op_call rfl rfl (by simp [mvO_some]) (hat _ s1 (some (p.1, sdel p.2 ins.x)) oN 1 [ins.x] false _ hH (fun w' h => h.own_rd (T := 3) (n := 1) (cap := 1) (sz := 1) (by exact MEMT)) (hH.own_sp (T := 3) (n := 1) (cap := 1) (by exact MEMT)) (by show 1 ≤ _; omega) hkl)) ?_; clear hA hH)
      rintro _ w (⟨s2', hs2', rfl, hH⟩ | ⟨hno, rfl, hH⟩)
      rotate_left
      · refine ⟨HS.left (H1 := [_, _, _]) hH, ?_⟩
        intro a hA
        repeat' (first | (first | (refine GT ?_ ?_ <;> intro hg <;> clear hA a <;> intro a hA <;> (first | exact FA | replace hg := of_decide_eq_true hg | replace hg := of_decide_eq_false hg | skip)) | (refine QT ?_; clear hA a; intro a hA) | (first | (refine BT ?_; clear hA hH; rintro _ w ⟨bN, rfl, hH⟩ a hA) | (refine LT ?_; clear hA hH; rintro _ w ⟨oN, rfl, hH⟩ a hA) | (refine AT ?_; clear hA; rintro _ w ⟨oN, cN, rfl, hH2⟩ a hA; clear hH; have hH := (hH2 _ (by (repeat constructor))).tail; clear hH2) | (refine S0T ?_; clear hH; rintro _ w hH) )) | ((first | refine CT ?_ | (refine DT ?_ ?_ <;> intro hc <;> try (exfalso; omega))) <;> repeat' refine CT ?_) | (first | (refine DSK ?_; clear hA a; intro a hA) | (first | (refine DLT ?_; clear hA hH; rintro _ w ⟨oN, rfl, hH⟩; refine ⟨STT, ?_⟩; intro a hA) | (refine DAT ?_; clear hA; rintro _ w ⟨oN, cN, rfl, hH2⟩; clear hH; have hH := (hH2 _ (by (repeat constructor))).tail; clear hH2; refine ⟨STT, ?_⟩; intro a hA))) )
        refine rt1M (.inl rfl) rfl hA rfl (hH.up 5 rfl) fun w hH => ⟨ss, hsl, hF, .inr ⟨_, _, s1, slot_mem hbl (slot_some hlti), hIs, hno, rfl, hH.tail.tail.tail.tail.tail.tail.tail.tail.tail⟩⟩
      have hpl1 := fa2_snoc hpl hIs
      rw [List.append_assoc, ← slotB_snoc] at hpl1
      have hgo1 := goes_snoc hgo hs2'
      clear hpl hgo
      refine ⟨HS.left (H1 := [_, _, _]) hH.tail.tail, ?_⟩
      intro a hA
      repeat' (first | (first | (refine GT ?_ ?_ <;> intro hg <;> clear hA a <;> intro a hA <;> (first | exact FA | replace hg := of_decide_eq_true hg | replace hg := of_decide_eq_false hg | skip)) | (refine QT ?_; clear hA a; intro a hA) | (first | (refine BT ?_; clear hA hH; rintro _ w ⟨bN, rfl, hH⟩ a hA) | (refine LT ?_; clear hA hH; rintro _ w ⟨oN, rfl, hH⟩ a hA) | (refine AT ?_; clear hA; rintro _ w ⟨oN, cN, rfl, hH2⟩ a hA; clear hH; have hH := (hH2 _ (by (repeat constructor))).tail; clear hH2) | (refine S0T ?_; clear hH; rintro _ w hH) )) | ((first | refine CT ?_ | (refine DT ?_ ?_ <;> intro hc <;> try (exfalso; omega))) <;> repeat' refine CT ?_) | (first | (refine DSK ?_; clear hA a; intro a hA) | (first | (refine DLT ?_; clear hA hH; rintro _ w ⟨oN, rfl, hH⟩; refine ⟨STT, ?_⟩; intro a hA) | (refine DAT ?_; clear hA; rintro _ w ⟨oN, cN, rfl, hH2⟩; clear hH; have hH := (hH2 _ (by (repeat constructor))).tail; clear hH2; refine ⟨STT, ?_⟩; intro a hA))) )
      have hH2 := hH.perm (H' := sko (some (p.1, sdel p.2 ins.x)) :: all ((bs.map sko).eraseIdx i) :: cb b8 80 [.slice oB bl.is.l.length cB] :: own 72 1 oB bs.length cB (flat encO bs) :: inv s2' :: all ((D :: L).map dfi) :: own 72 1 oI ss.length cI (flat encO ss) :: all (ss.map sko) :: cb b7 52 (encBl bl) :: cb bF 30 (encG f) :: cb bN 58 (encIn ins) :: own 3 1 oN 1 1 (flat Fw.encI [ins.x]) :: H) (by (repeat (first | exact List.Perm.refl _ | exact List.Perm.nil | refine perm_pick 0 rfl ?_ | refine perm_pick 1 rfl ?_ | refine perm_pick 2 rfl ?_ | refine perm_pick 3 rfl ?_ | refine perm_pick 4 rfl ?_ | refine perm_pick 5 rfl ?_ | refine perm_pick 6 rfl ?_ | refine perm_pick 7 rfl ?_ | refine perm_pick 8 rfl ?_ | refine perm_pick 9 rfl ?_ | refine perm_pick 10 rfl ?_ | refine perm_pick 11 rfl ?_)))
      clear hH
      have hH := ((hH2.shutAt (x := sko (some (p.1, sdel p.2 ins.x))) hib).rm 9).rm 9
      clear hH2
      dsimp only [List.eraseIdx_cons_succ, List.eraseIdx_cons_zero] at hH
      rw [sko_some, map_sko_set, len_set bs i (some (p.1, sdel p.2 ins.x)), ← flat_encO_set (ks' := sdel p.2 ins.x) hbp] at hH
      exact ⟨i + 1, ⟨_, s2', bs.set i (some (p.1, sdel p.2 ins.x)), ⟨hlti, hpl1, hgo1, clone_keep hC⟩, hH.perm (by (repeat (first | exact List.Perm.refl _ | exact List.Perm.nil | refine perm_pick 0 rfl ?_ | refine perm_pick 1 rfl ?_ | refine perm_pick 2 rfl ?_ | refine perm_pick 3 rfl ?_ | refine perm_pick 4 rfl ?_ | refine perm_pick 5 rfl ?_ | refine perm_pick 6 rfl ?_ | refine perm_pick 7 rfl ?_ | refine perm_pick 8 rfl ?_ | refine perm_pick 9 rfl ?_ | refine perm_pick 10 rfl ?_ | refine perm_pick 11 rfl ?_))), (hA.sub (by (repeat (first | exact trivial | refine ⟨rfl, ?_⟩))))⟩, by omega⟩
    clear hA hH hC hpl1 hgo1 hs2 hks
    rintro a w ⟨pl, s1, ⟨hpl, hgo⟩, hH, hA⟩
    rw [← slots_next hbl] at hpl
    repeat' (first | (first | (refine GT ?_ ?_ <;> intro hg <;> clear hA a <;> intro a hA <;> (first | exact FA | replace hg := of_decide_eq_true hg | replace hg := of_decide_eq_false hg | skip)) | (refine QT ?_; clear hA a; intro a hA) | (first | (refine BT ?_; clear hA hH; rintro _ w ⟨bN, rfl, hH⟩ a hA) | (refine LT ?_; clear hA hH; rintro _ w ⟨oN, rfl, hH⟩ a hA) | (refine AT ?_; clear hA; rintro _ w ⟨oN, cN, rfl, hH2⟩ a hA; clear hH; have hH := (hH2 _ (by (repeat constructor))).tail; clear hH2) | (refine S0T ?_; clear hH; rintro _ w hH) )) | ((first | refine CT ?_ | (refine DT ?_ ?_ <;> intro hc <;> try (exfalso; omega))) <;> repeat' refine CT ?_) | (first | (refine DSK ?_; clear hA a; intro a hA) | (first | (refine DLT ?_; clear hA hH; rintro _ w ⟨oN, rfl, hH⟩; refine ⟨STT, ?_⟩; intro a hA) | (refine DAT ?_; clear hA; rintro _ w ⟨oN, cN, rfl, hH2⟩; clear hH; have hH := (hH2 _ (by (repeat constructor))).tail; clear hH2; refine ⟨STT, ?_⟩; intro a hA))) )
    exact ⟨n + 1, ⟨D :: L, pl, s1, ⟨hlt, hpl, hgo⟩, (hH.rm 4).perm (by (repeat (first | exact List.Perm.refl _ | exact List.Perm.nil | refine perm_pick 0 rfl ?_ | refine perm_pick 1 rfl ?_ | refine perm_pick 2 rfl ?_ | refine perm_pick 3 rfl ?_ | refine perm_pick 4 rfl ?_ | refine perm_pick 5 rfl ?_ | refine perm_pick 6 rfl ?_ | refine perm_pick 7 rfl ?_ | refine perm_pick 8 rfl ?_ | refine perm_pick 9 rfl ?_ | refine perm_pick 10 rfl ?_ | refine perm_pick 11 rfl ?_))), (hA.sub (by (repeat (first | exact trivial | refine ⟨rfl, ?_⟩))))⟩, by omega⟩
  clear hA1 hH1
  rintro a w ⟨L, pl, s1, ⟨hpl, hgo⟩, hH, hA⟩
  repeat' (first | (first | (refine GT ?_ ?_ <;> intro hg <;> clear hA a <;> intro a hA <;> (first | exact FA | replace hg := of_decide_eq_true hg | replace hg := of_decide_eq_false hg | skip)) | (refine QT ?_; clear hA a; intro a hA) | (first | (refine BT ?_; clear hA hH; rintro _ w ⟨bN, rfl, hH⟩ a hA) | (refine LT ?_; clear hA hH; rintro _ w ⟨oN, rfl, hH⟩ a hA) | (refine AT ?_; clear hA; rintro _ w ⟨oN, cN, rfl, hH2⟩ a hA; clear hH; have hH := (hH2 _ (by (repeat constructor))).tail; clear hH2) | (refine S0T ?_; clear hH; rintro _ w hH) )) | ((first | refine CT ?_ | (refine DT ?_ ?_ <;> intro hc <;> try (exfalso; omega))) <;> repeat' refine CT ?_) | (first | (refine DSK ?_; clear hA a; intro a hA) | (first | (refine DLT ?_; clear hA hH; rintro _ w ⟨oN, rfl, hH⟩; refine ⟨STT, ?_⟩; intro a hA) | (refine DAT ?_; clear hA; rintro _ w ⟨oN, cN, rfl, hH2⟩; clear hH; have hH := (hH2 _ (by (repeat constructor))).tail; clear hH2; refine ⟨STT, ?_⟩; intro a hA))) )
  exact rt1M (.inl rfl) rfl hA rfl hH fun w hH => ⟨ss, hsl, hF, .inl ⟨pl, s1, hpl, hgo, rfl, hH⟩⟩
end Go.Proofs.Ytjfanjcoppeeaaa
