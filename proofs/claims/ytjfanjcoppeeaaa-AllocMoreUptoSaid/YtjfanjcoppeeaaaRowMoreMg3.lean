/-
  What lives ahead of a step; ahead of a block's end. Conditions: none.
  What lives into blocks: the sets, plain; sets told by what is in them. Conditions: none.
  What lives into each block: the walk over live. Conditions: none.
  A set in order; all variables; what lives, in order. Conditions: none.
  All variables, in order. Conditions: none.
  The document's: in, has, reg, unlike. Conditions: none.
  The document's: unlike, insert. Conditions: none.
  The document's insert. Conditions: none.
  The document's variables. Conditions: none.
  The document's lives: a way is followed to a use. Conditions: none.
  The document's Lives. Conditions: none.
  The document's Into: which variables live into a block. Conditions: none.
  The document's Behind: which variables but its X live behind an Ins. Conditions: none.
  A range over a set or over nil; what a set holds, sorted. Conditions: none.
-/
import Derived.Test.YtjfanjcoppeeaaaRowMoreMg2
namespace Go.Proofs.Ytjfanjcoppeeaaa
open Go Go.Fw
set_option linter.unusedVariables false
/-- is a variable used by a step? -/
def insUse (i : Ins) (x : Int) : Prop := uses i.r.a.l x = true ∨ i.r.k = 5 ∧ x = 0
/-- sets in a row: nil, or a map -/
def kso : Option (Nat × List Int) → List Int
  | none => []
  | some p => p.2
def encO : Option (Nat × List Int) → List Value
  | none => [.map none]
  | some p => [.map (some p.1)]
def sko : Option (Nat × List Int) → It
  | none => all []
  | some p => sk p.1 p.2
theorem encO_len (s : Option (Nat × List Int)) : (encO s).length = 1 := by cases s <;> rfl
/-- what lives ahead of an end, where it is known what lives into blocks -/
def edgeP (ss : List (Option (Nat × List Int))) (t : Edg) (x : Int) : Prop := uses t.a.l x = true ∨ 0 ≤ t.b ∧ ∃ s, ss[t.b.toNat]? = some s ∧ x ∈ kso s
def lastP (e : En) (ss : List (Option (Nat × List Int))) (x : Int) : Prop := uses e.a.l x = true ∨ ∃ t ∈ e.to.l, edgeP ss t x
theorem last_nil {e : En} {ss : List (Option (Nat × List Int))} {ks : List Int} (h : ∀ x, x ∈ ks ↔ x ∈ ([] : List Int) ∨ uses e.a.l x = true) (x : Int) : x ∈ ks ↔ uses e.a.l x = true ∨ ∃ t ∈ e.to.l.take 0, edgeP ss t x := by
  rw [h]
  constructor
  · rintro (h | h)
    · exact absurd h List.not_mem_nil
    · exact .inl h
  · rintro (h | ⟨t, ht, _⟩)
    · exact .inr h
    · rw [List.take_zero] at ht; exact absurd ht List.not_mem_nil
theorem last_next {e : En} {ss : List (Option (Nat × List Int))} {i : Nat} {t : Edg} (ht : e.to.l[i]? = some t) (x : Int) : (uses e.a.l x = true ∨ ∃ t ∈ e.to.l.take (i + 1), edgeP ss t x) ↔ (uses e.a.l x = true ∨ ∃ t ∈ e.to.l.take i, edgeP ss t x) ∨ edgeP ss t x := by
  rw [take_snoc ht]
  constructor
  · rintro (h | ⟨s, hs, h⟩)
    · exact .inl (.inl h)
    · rcases List.mem_append.1 hs with hs | hs
      · exact .inl (.inr ⟨s, hs, h⟩)
      · rw [List.mem_singleton] at hs; rw [hs] at h; exact .inr h
  · rintro ((h | ⟨s, hs, h⟩) | h)
    · exact .inl h
    · exact .inr ⟨s, List.mem_append_left _ hs, h⟩
    · exact .inr ⟨t, List.mem_append_right _ (List.mem_singleton.2 rfl), h⟩
theorem last_no {e : En} {ss : List (Option (Nat × List Int))} {i : Nat} {t : Edg} {ks ks1 : List Int} (ht : e.to.l[i]? = some t) (hks : ∀ x, x ∈ ks ↔ uses e.a.l x = true ∨ ∃ t ∈ e.to.l.take i, edgeP ss t x) (hks1 : ∀ x, x ∈ ks1 ↔ x ∈ ks ∨ uses t.a.l x = true)
    (h : ¬ (0 ≤ t.b ∧ t.b < ss.length)) (x : Int) : x ∈ ks1 ↔ uses e.a.l x = true ∨ ∃ t ∈ e.to.l.take (i + 1), edgeP ss t x := by
  rw [last_next ht, hks1, hks]
  refine or_congr Iff.rfl ?_
  unfold edgeP
  constructor
  · exact .inl
  · rintro (h1 | ⟨h1, s, h2, _⟩)
    · exact h1
    · have := (List.getElem?_eq_some_iff.1 h2).1
      exact absurd ⟨h1, by omega⟩ h
theorem last_yes {e : En} {ss : List (Option (Nat × List Int))} {i : Nat} {t : Edg} {ks ks1 ks2 : List Int} {s : Option (Nat × List Int)} (ht : e.to.l[i]? = some t) (hks : ∀ x, x ∈ ks ↔ uses e.a.l x = true ∨ ∃ t ∈ e.to.l.take i, edgeP ss t x) (hks1 : ∀ x, x ∈ ks1 ↔ x ∈ ks ∨ uses t.a.l x = true)
    (h0 : 0 ≤ t.b) (hs : ss[t.b.toNat]? = some s) (hks2 : ∀ x, x ∈ ks2 ↔ x ∈ ks1 ∨ x ∈ kso s) (x : Int) : x ∈ ks2 ↔ uses e.a.l x = true ∨ ∃ t ∈ e.to.l.take (i + 1), edgeP ss t x := by
  rw [last_next ht, hks2, hks1, hks, or_assoc]
  refine or_congr Iff.rfl ?_
  unfold edgeP
  refine or_congr Iff.rfl ⟨fun h => ⟨h0, s, hs, h⟩, ?_⟩
  rintro ⟨_, s', h2, h⟩
  rw [hs] at h2
  cases h2
  exact h
theorem set_same {α : Type} {l : List α} {i : Nat} {x : α} (h : l[i]? = some x) : l.set i x = l := by
  obtain ⟨hi, rfl⟩ := List.getElem?_eq_some_iff.1 h
  exact List.set_getElem_self hi
theorem dn_add {dn el : List (Int × Nat)} {e : Int × Nat} {ks ks' : List Int} (hn : dn.Nodup) (hd : ∀ e ∈ dn, e ∈ el) (he : e ∈ el) (hs : e ∉ dn) (hks : ∀ x, x ∈ ks' ↔ x ∈ ks ∨ x ∈ dn.map (·.1)) :
    (dn ++ [e]).Nodup ∧ (∀ e' ∈ dn ++ [e], e' ∈ el) ∧ ∀ x, x ∈ sadd ks' e.1 ↔ x ∈ ks ∨ x ∈ (dn ++ [e]).map (·.1) := by
  refine ⟨List.nodup_append.2 ⟨hn, List.nodup_cons.2 ⟨List.not_mem_nil, List.nodup_nil⟩, fun a ha b hb => by rw [List.mem_singleton] at hb; subst hb; exact fun e => hs (e ▸ ha)⟩, fun e' h => ?_, fun x => ?_⟩
  · rcases List.mem_append.1 h with h | h
    · exact hd e' h
    · rw [List.mem_singleton] at h; rw [h]; exact he
  · rw [mem_sadd, hks, List.map_append, List.mem_append, or_assoc]
    exact or_congr Iff.rfl (or_congr Iff.rfl List.mem_singleton.symm)
theorem dn_all {dn el : List (Int × Nat)} {ks ks' kl : List Int} (hel : el.map (·.1) = kl) (hd : ∀ e ∈ dn, e ∈ el) (hall : ∀ e ∈ el, e ∈ dn) (hks : ∀ x, x ∈ ks' ↔ x ∈ ks ∨ x ∈ dn.map (·.1)) (x : Int) : x ∈ ks' ↔ x ∈ ks ∨ x ∈ kl := by
  rw [hks, ← hel]
  refine or_congr Iff.rfl ⟨fun h => ?_, fun h => ?_⟩
  · obtain ⟨e, he, rfl⟩ := List.mem_map.1 h; exact List.mem_map.2 ⟨e, hd e he, rfl⟩
  · obtain ⟨e, he, rfl⟩ := List.mem_map.1 h; exact List.mem_map.2 ⟨e, hall e he, rfl⟩
theorem step_t {i : Ins} {ks ks' : List Int} (hks : ∀ x, x ∈ ks' ↔ x ∈ sdel ks i.x ∨ uses i.r.a.l x = true) (hk : i.r.k = 5) (x : Int) : x ∈ sadd ks' 0 ↔ insUse i x ∨ (x ∈ ks ∧ x ≠ i.x) := by
  rw [mem_sadd, hks, mem_sdel]
  unfold insUse
  constructor
  · rintro ((h | h) | h)
    · exact .inr h
    · exact .inl (.inl h)
    · exact .inl (.inr ⟨hk, h⟩)
  · rintro ((h | ⟨_, h⟩) | h)
    · exact .inl (.inr h)
    · exact .inr h
    · exact .inl (.inl h)
theorem step_f {i : Ins} {ks ks' : List Int} (hks : ∀ x, x ∈ ks' ↔ x ∈ sdel ks i.x ∨ uses i.r.a.l x = true) (hk : ¬ i.r.k = 5) (x : Int) : x ∈ ks' ↔ insUse i x ∨ (x ∈ ks ∧ x ≠ i.x) := by
  rw [hks, mem_sdel]
  unfold insUse
  constructor
  · rintro (h | h)
    · exact .inr h
    · exact .inl (.inl h)
  · rintro ((h | ⟨h, _⟩) | h)
    · exact .inr h
    · exact absurd h hk
    · exact .inl h
set_option maxRecDepth 10000 attribute [local irreducible] Code.wp wpList Calls Ex Op1 sat bat blk cb own Go.Fw.mp Go.Fw.mpO Go.Fw.mpI Go.Fw.mpE Go.Fw.itr HS Rd Ret wkD Hp Cl Cls Exit.then Exit.inBlock Exit.noGoto bodyPost Go.Fw.flat wk2 Go.Fw.all Go.Fw.owns wpOp
attribute [local irreducible] sk mpK

set_option maxHeartbeats 2000000 in
theorem step_spec (w0 w : World) (H : List It) (b : Nat) (ks : List Int) (i : Ins) (hH : HS w0 noM (sk b ks :: H) w) (hR : RdIn w0 i) :
    Ret Try.prog 40 #[.map (some b), .agg (encIn i).toArray] w (fun _ w' => ∃ ks', (∀ x, x ∈ ks' ↔ insUse i x ∨ (x ∈ ks ∧ x ≠ i.x)) ∧ HS w0 noM (sk b ks' :: H) w') := by
  (refine enter (N := 17) Try.func40 rfl Try.ntmps40 rfl ?_; intro a hA; dsimp only [sl0, Nat.reduceAdd] at hA)
  repeat' (first | (first | (refine GT ?_ ?_ <;> intro hg <;> clear hA a <;> intro a hA <;> (first | exact FA | replace hg := of_decide_eq_true hg | replace hg := of_decide_eq_false hg | skip)) | (refine QT ?_; clear hA a; intro a hA) | (first | (refine BT ?_; clear hA hH; rintro _ w ⟨bN, rfl, hH⟩ a hA) | (refine LT ?_; clear hA hH; rintro _ w ⟨oN, rfl, hH⟩ a hA) | (refine AT ?_; clear hA; rintro _ w ⟨oN, cN, rfl, hH2⟩ a hA; clear hH; have hH := (hH2 _ (by (repeat constructor))).tail; clear hH2) | (refine S0T ?_; clear hH; rintro _ w hH) | (first | (apply st_op0 hA rfl rfl; apply op_delK; rfl; rfl; exact hH; (repeat constructor); clear hH; rintro _ w ⟨_, hH⟩) | (apply st_op hA rfl rfl (by decide); apply op_delK; rfl; rfl; exact hH; (repeat constructor); clear hA hH; rintro _ w ⟨rfl, hH⟩ a hA)))) | ((first | refine CT ?_ | (refine DT ?_ ?_ <;> intro hc <;> try (exfalso; omega))) <;> repeat' refine CT ?_) | (first | (refine DSK ?_; clear hA a; intro a hA) | (first | (refine DLT ?_; clear hA hH; rintro _ w ⟨oN, rfl, hH⟩; refine ⟨STT, ?_⟩; intro a hA) | (refine DAT ?_; clear hA; rintro _ w ⟨oN, cN, rfl, hH2⟩; clear hH; have hH := (hH2 _ (by (repeat constructor))).tail; clear hH2; refine ⟨STT, ?_⟩; intro a hA))) )
  (refine st_op hA rfl rfl (by decide) (op_call rfl rfl rfl (use_spec w0 _ _ b (sdel ks i.x) i.r.a (hH.up 1 rfl) hR.2)) ?_; clear hA hH; rintro _ w ⟨ks', hks, hH⟩ a hA)
  repeat' (first | (first | (refine GT ?_ ?_ <;> intro hg <;> clear hA a <;> intro a hA <;> (first | exact FA | replace hg := of_decide_eq_true hg | replace hg := of_decide_eq_false hg | skip)) | (refine QT ?_; clear hA a; intro a hA) | (first | (refine BT ?_; clear hA hH; rintro _ w ⟨bN, rfl, hH⟩ a hA) | (refine LT ?_; clear hA hH; rintro _ w ⟨oN, rfl, hH⟩ a hA) | (refine AT ?_; clear hA; rintro _ w ⟨oN, cN, rfl, hH2⟩ a hA; clear hH; have hH := (hH2 _ (by (repeat constructor))).tail; clear hH2) | (refine S0T ?_; clear hH; rintro _ w hH) | (apply st_op0 hA rfl rfl; apply op_addK; rfl; rfl; rfl; exact hH; (repeat constructor); clear hH; rintro _ w hH))) | ((first | refine CT ?_ | (refine DT ?_ ?_ <;> intro hc <;> try (exfalso; omega))) <;> repeat' refine CT ?_) | (first | (refine DSK ?_; clear hA a; intro a hA) | (first | (refine DLT ?_; clear hA hH; rintro _ w ⟨oN, rfl, hH⟩; refine ⟨STT, ?_⟩; intro a hA) | (refine DAT ?_; clear hA; rintro _ w ⟨oN, cN, rfl, hH2⟩; clear hH; have hH := (hH2 _ (by (repeat constructor))).tail; clear hH2; refine ⟨STT, ?_⟩; intro a hA))) )
  · exact rt0 (.inr rfl) rfl hA ⟨_, step_t hks (by assumption), (hH.rm 1)⟩
  · exact rt0 (.inr rfl) rfl hA ⟨_, step_f hks (by assumption), (hH.rm 1)⟩
set_option maxHeartbeats 4000000 in
theorem last_spec (w0 w : World) (H : List It) (bl : Blc) (oI : Option Addr) (cI : Nat) (ss : List (Option (Nat × List Int))) (hH : HS w0 noM (own 72 1 oI ss.length cI (flat encO ss) :: all (ss.map sko) :: H) w) (hR : RdBl w0 bl) :
    Ret Try.prog 37 #[.agg (encBl bl).toArray, .slice oI ss.length cI] w (fun r w' => ∃ b ks, r = .map (some b) ∧ (∀ x, x ∈ ks ↔ lastP bl.e ss x) ∧ HS w0 noM (sk b ks :: own 72 1 oI ss.length cI (flat encO ss) :: all (ss.map sko) :: H) w') := by
  have hE := hR.2.2.2
  have hle := hE.2.2.1.le
  have hsp : Sp bl.e.to.o bl.e.to.l.length := hE.2.2.1.1.sp (sz := 2) (flat_length encEd_len _) (by omega)
  (refine enter (N := 51) Try.func37 rfl Try.ntmps37 rfl ?_; intro a hA; dsimp only [sl0, Nat.reduceAdd] at hA)
  repeat' (first | (first | (refine GT ?_ ?_ <;> intro hg <;> clear hA a <;> intro a hA <;> (first | exact FA | replace hg := of_decide_eq_true hg | replace hg := of_decide_eq_false hg | skip)) | (refine QT ?_; clear hA a; intro a hA) | (first | (refine BT ?_; clear hA hH; rintro _ w ⟨bN, rfl, hH⟩ a hA) | (refine LT ?_; clear hA hH; rintro _ w ⟨oN, rfl, hH⟩ a hA) | (refine AT ?_; clear hA; rintro _ w ⟨oN, cN, rfl, hH2⟩ a hA; clear hH; have hH := (hH2 _ (by (repeat constructor))).tail; clear hH2) | (refine S0T ?_; clear hH; rintro _ w hH) | (refine st_op hA rfl rfl (by decide) (op_makeMapK hH) ?_; clear hA hH; rintro _ w ⟨b, rfl, hH⟩ a hA))) | ((first | refine CT ?_ | (refine DT ?_ ?_ <;> intro hc <;> try (exfalso; omega))) <;> repeat' refine CT ?_) | (first | (refine DSK ?_; clear hA a; intro a hA) | (first | (refine DLT ?_; clear hA hH; rintro _ w ⟨oN, rfl, hH⟩; refine ⟨STT, ?_⟩; intro a hA) | (refine DAT ?_; clear hA; rintro _ w ⟨oN, cN, rfl, hH2⟩; clear hH; have hH := (hH2 _ (by (repeat constructor))).tail; clear hH2; refine ⟨STT, ?_⟩; intro a hA))) )
  (refine st_op hA rfl rfl (by decide) (op_call rfl rfl rfl (use_spec w0 _ _ b [] bl.e.a hH hE.1)) ?_; clear hA hH; rintro _ w ⟨ks0, hks0, hH⟩ a hA)
  repeat' (first | (first | (refine GT ?_ ?_ <;> intro hg <;> clear hA a <;> intro a hA <;> (first | exact FA | replace hg := of_decide_eq_true hg | replace hg := of_decide_eq_false hg | skip)) | (refine QT ?_; clear hA a; intro a hA) | (first | (refine BT ?_; clear hA hH; rintro _ w ⟨bN, rfl, hH⟩ a hA) | (refine LT ?_; clear hA hH; rintro _ w ⟨oN, rfl, hH⟩ a hA) | (refine AT ?_; clear hA; rintro _ w ⟨oN, cN, rfl, hH2⟩ a hA; clear hH; have hH := (hH2 _ (by (repeat constructor))).tail; clear hH2) | (refine S0T ?_; clear hH; rintro _ w hH) )) | ((first | refine CT ?_ | (refine DT ?_ ?_ <;> intro hc <;> try (exfalso; omega))) <;> repeat' refine CT ?_) | (first | (refine DSK ?_; clear hA a; intro a hA) | (first | (refine DLT ?_; clear hA hH; rintro _ w ⟨oN, rfl, hH⟩; refine ⟨STT, ?_⟩; intro a hA) | (refine DAT ?_; clear hA; rintro _ w ⟨oN, cN, rfl, hH2⟩; clear hH; have hH := (hH2 _ (by (repeat constructor))).tail; clear hH2; refine ⟨STT, ?_⟩; intro a hA))) )
  obtain ⟨bB, hbB⟩ : ∃ x, x = bN := ⟨_, rfl⟩
  rw [← hbB] at hA hH
  clear hbB bN
  refine wp_lpk (S := Nat) (fun i a w => ∃ ks, (i ≤ bl.e.to.l.length ∧ ∀ x, x ∈ ks ↔ uses bl.e.a.l x = true ∨ ∃ t ∈ bl.e.to.l.take i, edgeP ss t x) ∧ HS w0 noM (sk b ks :: own 72 1 oI ss.length cI (flat encO ss) :: all (ss.map sko) :: H) w ∧ Sl 51 [(19, .int .i64 i), (18, .int .i64 bl.e.to.l.length), (17, .slice bl.e.to.o bl.e.to.l.length bl.e.to.c), (5, .map (some b)), (1, .slice oI ss.length cI)] a) (fun i => bl.e.to.l.length - i)
    (fun a w => ∃ ks, (∀ x, x ∈ ks ↔ lastP bl.e ss x) ∧ HS w0 noM (sk b ks :: own 72 1 oI ss.length cI (flat encO ss) :: all (ss.map sko) :: H) w ∧ Sl 51 [(5, .map (some b))] a) 0 ⟨ks0, ⟨Nat.zero_le _, last_nil hks0⟩, hH.rm 1, (hA.sub (by (repeat (first | exact trivial | refine ⟨rfl, ?_⟩))))⟩ ?_ ?_
  · clear hA hH hks0
    rintro i a w ⟨ks, ⟨hi, hks⟩, hH, hA⟩
    by_cases hlt : i < bl.e.to.l.length
    rotate_left
    · obtain rfl : i = bl.e.to.l.length := by omega
      rw [List.take_length] at hks
      repeat' (first | (first | (refine GT ?_ ?_ <;> intro hg <;> clear hA a <;> intro a hA <;> (first | exact FA | replace hg := of_decide_eq_true hg | replace hg := of_decide_eq_false hg | skip)) | (refine QT ?_; clear hA a; intro a hA) | (first | (refine BT ?_; clear hA hH; rintro _ w ⟨bN, rfl, hH⟩ a hA) | (refine LT ?_; clear hA hH; rintro _ w ⟨oN, rfl, hH⟩ a hA) | (refine AT ?_; clear hA; rintro _ w ⟨oN, cN, rfl, hH2⟩ a hA; clear hH; have hH := (hH2 _ (by (repeat constructor))).tail; clear hH2) | (refine S0T ?_; clear hH; rintro _ w hH) )) | ((first | refine CT ?_ | (refine DT ?_ ?_ <;> intro hc <;> try (exfalso; omega))) <;> repeat' refine CT ?_) | (first | (refine DSK ?_; clear hA a; intro a hA) | (first | (refine DLT ?_; clear hA hH; rintro _ w ⟨oN, rfl, hH⟩; refine ⟨STT, ?_⟩; intro a hA) | (refine DAT ?_; clear hA; rintro _ w ⟨oN, cN, rfl, hH2⟩; clear hH; have hH := (hH2 _ (by (repeat constructor))).tail; clear hH2; refine ⟨STT, ?_⟩; intro a hA))) )
      exact ⟨ks, hks, hH, (hA.sub (by (repeat (first | exact trivial | refine ⟨rfl, ?_⟩))))⟩
    obtain ⟨t, ht⟩ : ∃ t, bl.e.to.l[i]? = some t := ⟨_, List.getElem?_eq_getElem hlt⟩
    have hvs := flat_all encEd_len ht
    repeat' (first | (first | (refine GT ?_ ?_ <;> intro hg <;> clear hA a <;> intro a hA <;> (first | exact FA | replace hg := of_decide_eq_true hg | replace hg := of_decide_eq_false hg | skip)) | ((first | apply st_ex hA hH rfl rfl (by decide) | apply dr_ex hA rfl rfl rfl (by decide) | apply dr_exp hA rfl rfl rfl (by decide) | apply dr_ex3 hA hH rfl rfl rfl (by decide)); (first | (apply ex_load_st (vs := encEd t); rfl; rfl; exact cls_rd hE.2.2.1.1 id hvs)); clear hA a; intro a hA) | (refine QT ?_; clear hA a; intro a hA) | (first | (refine BT ?_; clear hA hH; rintro _ w ⟨bN, rfl, hH⟩ a hA) | (refine LT ?_; clear hA hH; rintro _ w ⟨oN, rfl, hH⟩ a hA) | (refine AT ?_; clear hA; rintro _ w ⟨oN, cN, rfl, hH2⟩ a hA; clear hH; have hH := (hH2 _ (by (repeat constructor))).tail; clear hH2) | (refine S0T ?_; clear hH; rintro _ w hH) | (apply st_op0 hA rfl rfl; apply op_store_agg (vs := encEd t); rfl; rfl; exact hH; (repeat constructor); (repeat rfl); clear hH; rintro _ w hH))) | ((first | refine CT ?_ | (refine DT ?_ ?_ <;> intro hc <;> try (exfalso; omega))) <;> repeat' refine CT ?_) | (first | (refine DSK ?_; clear hA a; intro a hA) | (first | (refine DLT ?_; clear hA hH; rintro _ w ⟨oN, rfl, hH⟩; refine ⟨STT, ?_⟩; intro a hA) | (refine DAT ?_; clear hA; rintro _ w ⟨oN, cN, rfl, hH2⟩; clear hH; have hH := (hH2 _ (by (repeat constructor))).tail; clear hH2; refine ⟨STT, ?_⟩; intro a hA))) )
    (refine st_op hA rfl rfl (by decide) (op_call rfl rfl rfl (use_spec w0 _ _ b ks t.a (hH.up 1 rfl) (hE.2.2.2 t (List.mem_of_getElem? ht)))) ?_; clear hA hH; rintro _ w ⟨ks1, hks1, hH⟩ a hA)
    dsimp only [List.eraseIdx_cons_succ, List.eraseIdx_cons_zero] at hH
    repeat' (first | (first | (refine GT ?_ ?_ <;> intro hg <;> clear hA a <;> intro a hA <;> (first | exact FA | replace hg := of_decide_eq_true hg | replace hg := of_decide_eq_false hg | skip)) | (refine QT ?_; clear hA a; intro a hA) | (first | (refine BT ?_; clear hA hH; rintro _ w ⟨bN, rfl, hH⟩ a hA) | (refine LT ?_; clear hA hH; rintro _ w ⟨oN, rfl, hH⟩ a hA) | (refine AT ?_; clear hA; rintro _ w ⟨oN, cN, rfl, hH2⟩ a hA; clear hH; have hH := (hH2 _ (by (repeat constructor))).tail; clear hH2) | (refine S0T ?_; clear hH; rintro _ w hH) )) | ((first | refine CT ?_ | (refine DT ?_ ?_ <;> intro hc <;> try (exfalso; omega))) <;> repeat' refine CT ?_) | (first | (refine DSK ?_; clear hA a; intro a hA) | (first | (refine DLT ?_; clear hA hH; rintro _ w ⟨oN, rfl, hH⟩; refine ⟨STT, ?_⟩; intro a hA) | (refine DAT ?_; clear hA; rintro _ w ⟨oN, cN, rfl, hH2⟩; clear hH; have hH := (hH2 _ (by (repeat constructor))).tail; clear hH2; refine ⟨STT, ?_⟩; intro a hA))) )
    rotate_left
    · exact ⟨i + 1, ⟨_, ⟨hlt, last_no ht hks hks1 (by omega)⟩, hH.rm 1, (hA.sub (by (repeat (first | exact trivial | refine ⟨rfl, ?_⟩))))⟩, by omega⟩
    · exact ⟨i + 1, ⟨_, ⟨hlt, last_no ht hks hks1 (by omega)⟩, hH.rm 1, (hA.sub (by (repeat (first | exact trivial | refine ⟨rfl, ?_⟩))))⟩, by omega⟩
    have hb0 : 0 ≤ t.b := by assumption
    have hbl : t.b < ss.length := by assumption
    obtain ⟨s, hs⟩ : ∃ s, ss[t.b.toNat]? = some s := ⟨_, List.getElem?_eq_getElem (by omega)⟩
    rcases s with _ | p
    · have hv : (flat encO ss)[t.b.toNat * 1]? = some (.map none) := flat_get (off := 0) encO_len hs rfl
      repeat' (first | (first | (refine GT ?_ ?_ <;> intro hg <;> clear hA a <;> intro a hA <;> (first | exact FA | replace hg := of_decide_eq_true hg | replace hg := of_decide_eq_false hg | skip)) | ((first | apply st_ex hA hH rfl rfl (by decide) | apply dr_ex hA rfl rfl rfl (by decide) | apply dr_exp hA rfl rfl rfl (by decide) | apply dr_ex3 hA hH rfl rfl rfl (by decide)); (first | (apply ex_indexAddr; rfl; rfl; exact hb0; exact hbl; exact hH.own_sp (T := 72) (by exact MEMT)) | (apply ex_load; rfl; apply cl_own (T := 72); exact MEMT; exact hv)); clear hA a; intro a hA) | (refine QT ?_; clear hA a; intro a hA) | (first | (refine BT ?_; clear hA hH; rintro _ w ⟨bN, rfl, hH⟩ a hA) | (refine LT ?_; clear hA hH; rintro _ w ⟨oN, rfl, hH⟩ a hA) | (refine AT ?_; clear hA; rintro _ w ⟨oN, cN, rfl, hH2⟩ a hA; clear hH; have hH := (hH2 _ (by (repeat constructor))).tail; clear hH2) | (refine S0T ?_; clear hH; rintro _ w hH) )) | ((first | refine CT ?_ | (refine DT ?_ ?_ <;> intro hc <;> try (exfalso; omega))) <;> repeat' refine CT ?_) | (first | (refine DSK ?_; clear hA a; intro a hA) | (first | (refine DLT ?_; clear hA hH; rintro _ w ⟨oN, rfl, hH⟩; refine ⟨STT, ?_⟩; intro a hA) | (refine DAT ?_; clear hA; rintro _ w ⟨oN, cN, rfl, hH2⟩; clear hH; have hH := (hH2 _ (by (repeat constructor))).tail; clear hH2; refine ⟨STT, ?_⟩; intro a hA))) )
      (refine st_op hA rfl rfl (by decide) (op_rangeN rfl hH) ?_; clear hA hH; rintro _ w ⟨r, rfl, hH⟩ a hA)
      repeat' (first | (first | (refine GT ?_ ?_ <;> intro hg <;> clear hA a <;> intro a hA <;> (first | exact FA | replace hg := of_decide_eq_true hg | replace hg := of_decide_eq_false hg | skip)) | (refine QT ?_; clear hA a; intro a hA) | (first | (refine BT ?_; clear hA hH; rintro _ w ⟨bN, rfl, hH⟩ a hA) | (refine LT ?_; clear hA hH; rintro _ w ⟨oN, rfl, hH⟩ a hA) | (refine AT ?_; clear hA; rintro _ w ⟨oN, cN, rfl, hH2⟩ a hA; clear hH; have hH := (hH2 _ (by (repeat constructor))).tail; clear hH2) | (refine S0T ?_; clear hH; rintro _ w hH) )) | ((first | refine CT ?_ | (refine DT ?_ ?_ <;> intro hc <;> try (exfalso; omega))) <;> repeat' refine CT ?_) | (first | (refine DSK ?_; clear hA a; intro a hA) | (first | (refine DLT ?_; clear hA hH; rintro _ w ⟨oN, rfl, hH⟩; refine ⟨STT, ?_⟩; intro a hA) | (refine DAT ?_; clear hA; rintro _ w ⟨oN, cN, rfl, hH2⟩; clear hH; have hH := (hH2 _ (by (repeat constructor))).tail; clear hH2; refine ⟨STT, ?_⟩; intro a hA))) )
      refine wp_lpk (S := Nat) (fun _ a w => HS w0 noM (itr0 r :: sk b ks1 :: cb bN 54 (encEd t) :: own 72 1 oI ss.length cI (flat encO ss) :: all (ss.map sko) :: H) w ∧ Sl 51 [(42, .pointer (some (bat r 0))), (19, .int .i64 i), (18, .int .i64 bl.e.to.l.length), (17, .slice bl.e.to.o bl.e.to.l.length bl.e.to.c), (5, .map (some b)), (1, .slice oI ss.length cI)] a) (fun _ => 0)
        (fun a w => HS w0 noM (sk b ks1 :: own 72 1 oI ss.length cI (flat encO ss) :: all (ss.map sko) :: H) w ∧ Sl 51 [(19, .int .i64 i), (18, .int .i64 bl.e.to.l.length), (17, .slice bl.e.to.o bl.e.to.l.length bl.e.to.c), (5, .map (some b)), (1, .slice oI ss.length cI)] a) 0 ⟨hH, (hA.sub (by (repeat (first | exact trivial | refine ⟨rfl, ?_⟩))))⟩ ?_ ?_
      · clear hA hH
        rintro _ a w ⟨hH, hA⟩
        repeat' (first | (first | (refine GT ?_ ?_ <;> intro hg <;> clear hA a <;> intro a hA <;> (first | exact FA | replace hg := of_decide_eq_true hg | replace hg := of_decide_eq_false hg | skip)) | ((first | apply st_ex hA hH rfl rfl (by decide) | apply dr_ex hA rfl rfl rfl (by decide) | apply dr_exp hA rfl rfl rfl (by decide) | apply dr_ex3 hA hH rfl rfl rfl (by decide)); (first | (apply ex_nextN; rfl; exact MEMT)); clear hA a; intro a hA) | (refine QT ?_; clear hA a; intro a hA) | (first | (refine BT ?_; clear hA hH; rintro _ w ⟨bN, rfl, hH⟩ a hA) | (refine LT ?_; clear hA hH; rintro _ w ⟨oN, rfl, hH⟩ a hA) | (refine AT ?_; clear hA; rintro _ w ⟨oN, cN, rfl, hH2⟩ a hA; clear hH; have hH := (hH2 _ (by (repeat constructor))).tail; clear hH2) | (refine S0T ?_; clear hH; rintro _ w hH) )) | ((first | refine CT ?_ | (refine DT ?_ ?_ <;> intro hc <;> try (exfalso; omega))) <;> repeat' refine CT ?_) | (first | (refine DSK ?_; clear hA a; intro a hA) | (first | (refine DLT ?_; clear hA hH; rintro _ w ⟨oN, rfl, hH⟩; refine ⟨STT, ?_⟩; intro a hA) | (refine DAT ?_; clear hA; rintro _ w ⟨oN, cN, rfl, hH2⟩; clear hH; have hH := (hH2 _ (by (repeat constructor))).tail; clear hH2; refine ⟨STT, ?_⟩; intro a hA))) )
        exact ⟨(hH.tail).rm 1, (hA.sub (by (repeat (first | exact trivial | refine ⟨rfl, ?_⟩))))⟩
      clear hA hH
      rintro a w ⟨hH, hA⟩
      repeat' (first | (first | (refine GT ?_ ?_ <;> intro hg <;> clear hA a <;> intro a hA <;> (first | exact FA | replace hg := of_decide_eq_true hg | replace hg := of_decide_eq_false hg | skip)) | (refine QT ?_; clear hA a; intro a hA) | (first | (refine BT ?_; clear hA hH; rintro _ w ⟨bN, rfl, hH⟩ a hA) | (refine LT ?_; clear hA hH; rintro _ w ⟨oN, rfl, hH⟩ a hA) | (refine AT ?_; clear hA; rintro _ w ⟨oN, cN, rfl, hH2⟩ a hA; clear hH; have hH := (hH2 _ (by (repeat constructor))).tail; clear hH2) | (refine S0T ?_; clear hH; rintro _ w hH) )) | ((first | refine CT ?_ | (refine DT ?_ ?_ <;> intro hc <;> try (exfalso; omega))) <;> repeat' refine CT ?_) | (first | (refine DSK ?_; clear hA a; intro a hA) | (first | (refine DLT ?_; clear hA hH; rintro _ w ⟨oN, rfl, hH⟩; refine ⟨STT, ?_⟩; intro a hA) | (refine DAT ?_; clear hA; rintro _ w ⟨oN, cN, rfl, hH2⟩; clear hH; have hH := (hH2 _ (by (repeat constructor))).tail; clear hH2; refine ⟨STT, ?_⟩; intro a hA))) )
      exact ⟨i + 1, ⟨_, ⟨hlt, last_yes ht hks hks1 hb0 hs fun x => by rw [show kso none = [] from rfl]; simp⟩, hH, (hA.sub (by (repeat (first | exact trivial | refine ⟨rfl, ?_⟩))))⟩, by omega⟩
    · have hv : (flat encO ss)[t.b.toNat * 1]? = some (.map (some p.1)) := flat_get (off := 0) encO_len hs rfl
      repeat' (first | (first | (refine GT ?_ ?_ <;> intro hg <;> clear hA a <;> intro a hA <;> (first | exact FA | replace hg := of_decide_eq_true hg | replace hg := of_decide_eq_false hg | skip)) | ((first | apply st_ex hA hH rfl rfl (by decide) | apply dr_ex hA rfl rfl rfl (by decide) | apply dr_exp hA rfl rfl rfl (by decide) | apply dr_ex3 hA hH rfl rfl rfl (by decide)); (first | (apply ex_indexAddr; rfl; rfl; exact hb0; exact hbl; exact hH.own_sp (T := 72) (by exact MEMT)) | (apply ex_load; rfl; apply cl_own (T := 72); exact MEMT; exact hv)); clear hA a; intro a hA) | (refine QT ?_; clear hA a; intro a hA) | (first | (refine BT ?_; clear hA hH; rintro _ w ⟨bN, rfl, hH⟩ a hA) | (refine LT ?_; clear hA hH; rintro _ w ⟨oN, rfl, hH⟩ a hA) | (refine AT ?_; clear hA; rintro _ w ⟨oN, cN, rfl, hH2⟩ a hA; clear hH; have hH := (hH2 _ (by (repeat constructor))).tail; clear hH2) | (refine S0T ?_; clear hH; rintro _ w hH) )) | ((first | refine CT ?_ | (refine DT ?_ ?_ <;> intro hc <;> try (exfalso; omega))) <;> repeat' refine CT ?_) | (first | (refine DSK ?_; clear hA a; intro a hA) | (first | (refine DLT ?_; clear hA hH; rintro _ w ⟨oN, rfl, hH⟩; refine ⟨STT, ?_⟩; intro a hA) | (refine DAT ?_; clear hA; rintro _ w ⟨oN, cN, rfl, hH2⟩; clear hH; have hH := (hH2 _ (by (repeat constructor))).tail; clear hH2; refine ⟨STT, ?_⟩; intro a hA))) )
      have hsm : (ss.map sko)[t.b.toNat]? = some (sk p.1 p.2) := by rw [List.getElem?_map, hs]; rfl
      replace hH := (hH.up 3 rfl).openAt hsm
      obtain ⟨el, clock, hel, hok, hop⟩ := hH.openK (b := p.1) (ks := p.2) (by exact MEMT)
      replace hH := hop _ (by (repeat constructor))
      clear hop
      (refine st_op hA rfl rfl (by decide) (op_rangeK rfl hH (by exact MEMT)) ?_; clear hA hH; rintro _ w ⟨r, rfl, hH⟩ a hA)
      dsimp only [List.eraseIdx_cons_succ, List.eraseIdx_cons_zero] at hH
      repeat' (first | (first | (refine GT ?_ ?_ <;> intro hg <;> clear hA a <;> intro a hA <;> (first | exact FA | replace hg := of_decide_eq_true hg | replace hg := of_decide_eq_false hg | skip)) | (refine QT ?_; clear hA a; intro a hA) | (first | (refine BT ?_; clear hA hH; rintro _ w ⟨bN, rfl, hH⟩ a hA) | (refine LT ?_; clear hA hH; rintro _ w ⟨oN, rfl, hH⟩ a hA) | (refine AT ?_; clear hA; rintro _ w ⟨oN, cN, rfl, hH2⟩ a hA; clear hH; have hH := (hH2 _ (by (repeat constructor))).tail; clear hH2) | (refine S0T ?_; clear hH; rintro _ w hH) )) | ((first | refine CT ?_ | (refine DT ?_ ?_ <;> intro hc <;> try (exfalso; omega))) <;> repeat' refine CT ?_) | (first | (refine DSK ?_; clear hA a; intro a hA) | (first | (refine DLT ?_; clear hA hH; rintro _ w ⟨oN, rfl, hH⟩; refine ⟨STT, ?_⟩; intro a hA) | (refine DAT ?_; clear hA; rintro _ w ⟨oN, cN, rfl, hH2⟩; clear hH; have hH := (hH2 _ (by (repeat constructor))).tail; clear hH2; refine ⟨STT, ?_⟩; intro a hA))) )
      refine wp_lpk (S := List (Int × Nat)) (fun dn a w => ∃ ks2, (dn.Nodup ∧ (∀ e ∈ dn, e ∈ el) ∧ ∀ x, x ∈ ks2 ↔ x ∈ ks1 ∨ x ∈ dn.map (·.1)) ∧ HS w0 noM (itr r p.1 clock (dn.map (·.2)) :: mpK p.1 el clock :: all ((ss.map sko).eraseIdx t.b.toNat) :: sk b ks2 :: cb bN 54 (encEd t) :: own 72 1 oI ss.length cI (flat encO ss) :: H) w ∧ Sl 51 [(42, .pointer (some (bat r 0))), (19, .int .i64 i), (18, .int .i64 bl.e.to.l.length), (17, .slice bl.e.to.o bl.e.to.l.length bl.e.to.c), (5, .map (some b)), (1, .slice oI ss.length cI)] a) (fun dn => el.length - dn.length)
        (fun a w => ∃ ks2, (∀ x, x ∈ ks2 ↔ x ∈ ks1 ∨ x ∈ p.2) ∧ HS w0 noM (sk b ks2 :: own 72 1 oI ss.length cI (flat encO ss) :: all (ss.map sko) :: H) w ∧ Sl 51 [(19, .int .i64 i), (18, .int .i64 bl.e.to.l.length), (17, .slice bl.e.to.o bl.e.to.l.length bl.e.to.c), (5, .map (some b)), (1, .slice oI ss.length cI)] a) []
        ⟨ks1, ⟨List.nodup_nil, fun e he => absurd he List.not_mem_nil, fun x => by simp⟩, hH, (hA.sub (by (repeat (first | exact trivial | refine ⟨rfl, ?_⟩))))⟩ ?_ ?_
      · clear hA hH
        rintro dn a w ⟨ks2, ⟨hn, hd, hks2⟩, hH, hA⟩
        repeat' (first | (first | (refine GT ?_ ?_ <;> intro hg <;> clear hA a <;> intro a hA <;> (first | exact FA | replace hg := of_decide_eq_true hg | replace hg := of_decide_eq_false hg | skip)) | (refine QT ?_; clear hA a; intro a hA) | (first | (refine BT ?_; clear hA hH; rintro _ w ⟨bN, rfl, hH⟩ a hA) | (refine LT ?_; clear hA hH; rintro _ w ⟨oN, rfl, hH⟩ a hA) | (refine AT ?_; clear hA; rintro _ w ⟨oN, cN, rfl, hH2⟩ a hA; clear hH; have hH := (hH2 _ (by (repeat constructor))).tail; clear hH2) | (refine S0T ?_; clear hH; rintro _ w hH) )) | ((first | refine CT ?_ | (refine DT ?_ ?_ <;> intro hc <;> try (exfalso; omega))) <;> repeat' refine CT ?_) | (first | (refine DSK ?_; clear hA a; intro a hA) | (first | (refine DLT ?_; clear hA hH; rintro _ w ⟨oN, rfl, hH⟩; refine ⟨STT, ?_⟩; intro a hA) | (refine DAT ?_; clear hA; rintro _ w ⟨oN, cN, rfl, hH2⟩; clear hH; have hH := (hH2 _ (by (repeat constructor))).tail; clear hH2; refine ⟨STT, ?_⟩; intro a hA))) )
        refine st_op hA rfl rfl (by decide) (op_nextK rfl hH (by exact MEMT) (by exact MEMT) hok hd) ?_
        clear hA
        rintro _ w2 (⟨hall, rfl, hH⟩ | ⟨e, he, hs', rfl, hup⟩) a hA
        · repeat' (first | (first | (refine GT ?_ ?_ <;> intro hg <;> clear hA a <;> intro a hA <;> (first | exact FA | replace hg := of_decide_eq_true hg | replace hg := of_decide_eq_false hg | skip)) | (refine QT ?_; clear hA a; intro a hA) | (first | (refine BT ?_; clear hA hH; rintro _ w ⟨bN, rfl, hH⟩ a hA) | (refine LT ?_; clear hA hH; rintro _ w ⟨oN, rfl, hH⟩ a hA) | (refine AT ?_; clear hA; rintro _ w ⟨oN, cN, rfl, hH2⟩ a hA; clear hH; have hH := (hH2 _ (by (repeat constructor))).tail; clear hH2) | (refine S0T ?_; clear hH; rintro _ w hH) )) | ((first | refine CT ?_ | (refine DT ?_ ?_ <;> intro hc <;> try (exfalso; omega))) <;> repeat' refine CT ?_) | (first | (refine DSK ?_; clear hA a; intro a hA) | (first | (refine DLT ?_; clear hA hH; rintro _ w ⟨oN, rfl, hH⟩; refine ⟨STT, ?_⟩; intro a hA) | (refine DAT ?_; clear hA; rintro _ w ⟨oN, cN, rfl, hH2⟩; clear hH; have hH := (hH2 _ (by (repeat constructor))).tail; clear hH2; refine ⟨STT, ?_⟩; intro a hA))) )
          replace hH := hH.shutK (b := p.1) hok (by (repeat constructor))
          rw [hel] at hH
          replace hH := hH.tail.shutAt (x := sk p.1 p.2) (by rw [List.length_map]; omega)
          rw [set_same hsm] at hH
          refine ⟨ks2, dn_all hel hd hall hks2, ((hH.rm 2).up 2 rfl).perm (by (repeat (first | exact List.Perm.refl _ | exact List.Perm.nil | refine perm_pick 0 rfl ?_ | refine perm_pick 1 rfl ?_ | refine perm_pick 2 rfl ?_ | refine perm_pick 3 rfl ?_ | refine perm_pick 4 rfl ?_ | refine perm_pick 5 rfl ?_ | refine perm_pick 6 rfl ?_ | refine perm_pick 7 rfl ?_ | refine perm_pick 8 rfl ?_ | refine perm_pick 9 rfl ?_ | refine perm_pick 10 rfl ?_ | refine perm_pick 11 rfl ?_))), (hA.sub (by (repeat (first | exact trivial | refine ⟨rfl, ?_⟩))))⟩
        · have hlt2 := done_lt hn hd he hs'
          clear hH
          have hH := hup _ (by (repeat constructor))
          clear hup
          repeat' (first | (first | (refine GT ?_ ?_ <;> intro hg <;> clear hA a <;> intro a hA <;> (first | exact FA | replace hg := of_decide_eq_true hg | replace hg := of_decide_eq_false hg | skip)) | ((first | apply st_ex hA hH rfl rfl (by decide) | apply dr_ex hA rfl rfl rfl (by decide) | apply dr_exp hA rfl rfl rfl (by decide) | apply dr_ex3 hA hH rfl rfl rfl (by decide)); (first | (apply ex_entryK; rfl; exact MEMT; exact MEMT; exact hok; exact he)); clear hA a; intro a hA) | (refine QT ?_; clear hA a; intro a hA) | (first | (refine BT ?_; clear hA hH; rintro _ w ⟨bN, rfl, hH⟩ a hA) | (refine LT ?_; clear hA hH; rintro _ w ⟨oN, rfl, hH⟩ a hA) | (refine AT ?_; clear hA; rintro _ w ⟨oN, cN, rfl, hH2⟩ a hA; clear hH; have hH := (hH2 _ (by (repeat constructor))).tail; clear hH2) | (refine S0T ?_; clear hH; rintro _ w hH) | (apply st_op0 hA rfl rfl; apply op_addK; rfl; rfl; rfl; exact hH; (repeat constructor); clear hH; rintro _ w hH))) | ((first | refine CT ?_ | (refine DT ?_ ?_ <;> intro hc <;> try (exfalso; omega))) <;> repeat' refine CT ?_) | (first | (refine DSK ?_; clear hA a; intro a hA) | (first | (refine DLT ?_; clear hA hH; rintro _ w ⟨oN, rfl, hH⟩; refine ⟨STT, ?_⟩; intro a hA) | (refine DAT ?_; clear hA; rintro _ w ⟨oN, cN, rfl, hH2⟩; clear hH; have hH := (hH2 _ (by (repeat constructor))).tail; clear hH2; refine ⟨STT, ?_⟩; intro a hA))) )
          refine ⟨dn ++ [e], ⟨_, dn_add hn hd he hs' hks2, hH, (hA.sub (by (repeat (first | exact trivial | refine ⟨rfl, ?_⟩))))⟩, ?_⟩
          rw [List.length_append]
          show el.length - (dn.length + 1) < _
          omega
      clear hA hH
      rintro a w ⟨ks2, hks2, hH, hA⟩
      repeat' (first | (first | (refine GT ?_ ?_ <;> intro hg <;> clear hA a <;> intro a hA <;> (first | exact FA | replace hg := of_decide_eq_true hg | replace hg := of_decide_eq_false hg | skip)) | (refine QT ?_; clear hA a; intro a hA) | (first | (refine BT ?_; clear hA hH; rintro _ w ⟨bN, rfl, hH⟩ a hA) | (refine LT ?_; clear hA hH; rintro _ w ⟨oN, rfl, hH⟩ a hA) | (refine AT ?_; clear hA; rintro _ w ⟨oN, cN, rfl, hH2⟩ a hA; clear hH; have hH := (hH2 _ (by (repeat constructor))).tail; clear hH2) | (refine S0T ?_; clear hH; rintro _ w hH) )) | ((first | refine CT ?_ | (refine DT ?_ ?_ <;> intro hc <;> try (exfalso; omega))) <;> repeat' refine CT ?_) | (first | (refine DSK ?_; clear hA a; intro a hA) | (first | (refine DLT ?_; clear hA hH; rintro _ w ⟨oN, rfl, hH⟩; refine ⟨STT, ?_⟩; intro a hA) | (refine DAT ?_; clear hA; rintro _ w ⟨oN, cN, rfl, hH2⟩; clear hH; have hH := (hH2 _ (by (repeat constructor))).tail; clear hH2; refine ⟨STT, ?_⟩; intro a hA))) )
      exact ⟨i + 1, ⟨_, ⟨hlt, last_yes ht hks hks1 hb0 hs hks2⟩, hH, (hA.sub (by (repeat (first | exact trivial | refine ⟨rfl, ?_⟩))))⟩, by omega⟩
  clear hA hH
  rintro a w ⟨ks, hks, hH, hA⟩
  repeat' (first | (first | (refine GT ?_ ?_ <;> intro hg <;> clear hA a <;> intro a hA <;> (first | exact FA | replace hg := of_decide_eq_true hg | replace hg := of_decide_eq_false hg | skip)) | (refine QT ?_; clear hA a; intro a hA) | (first | (refine BT ?_; clear hA hH; rintro _ w ⟨bN, rfl, hH⟩ a hA) | (refine LT ?_; clear hA hH; rintro _ w ⟨oN, rfl, hH⟩ a hA) | (refine AT ?_; clear hA; rintro _ w ⟨oN, cN, rfl, hH2⟩ a hA; clear hH; have hH := (hH2 _ (by (repeat constructor))).tail; clear hH2) | (refine S0T ?_; clear hH; rintro _ w hH) )) | ((first | refine CT ?_ | (refine DT ?_ ?_ <;> intro hc <;> try (exfalso; omega))) <;> repeat' refine CT ?_) | (first | (refine DSK ?_; clear hA a; intro a hA) | (first | (refine DLT ?_; clear hA hH; rintro _ w ⟨oN, rfl, hH⟩; refine ⟨STT, ?_⟩; intro a hA) | (refine DAT ?_; clear hA; rintro _ w ⟨oN, cN, rfl, hH2⟩; clear hH; have hH := (hH2 _ (by (repeat constructor))).tail; clear hH2; refine ⟨STT, ?_⟩; intro a hA))) )
  exact rt1 (.inl rfl) rfl hA rfl ⟨b, ks, rfl, hks, hH⟩
end Go.Proofs.Ytjfanjcoppeeaaa
namespace Go.Proofs.Ytjfanjcoppeeaaa
open Go Go.Fw
set_option linter.unusedVariables false
/-- ahead of steps, where P lives behind them -/
def insP : List Ins → (Int → Prop) → Int → Prop
  | [], P => P
  | i :: is, P => fun x => insUse i x ∨ (insP is P x ∧ x ≠ i.x)
def blkP (bl : Blc) (ss : List (Option (Nat × List Int))) (x : Int) : Prop := insP bl.is.l (lastP bl.e ss) x ∧ x ∉ bl.ps.l
def setAt (ss : List (Option (Nat × List Int))) (n : Nat) : List Int := kso ((ss[n]?).getD none)
/-- block n's set is right -/
def FixAt (f : Gr) (ss : List (Option (Nat × List Int))) (n : Nat) : Prop := ∀ bl, f.bs.l[n]? = some bl → ∀ x, x ∈ setAt ss n ↔ blkP bl ss x
/-- edges go to greater blocks -/
def Up (f : Gr) : Prop := ∀ (n : Nat) (bl : Blc), f.bs.l[n]? = some bl → ∀ t ∈ bl.e.to.l, (n : Int) < t.b ∧ t.b < f.bs.l.length
theorem insP_congr {P Q : Int → Prop} (h : ∀ x, P x ↔ Q x) : ∀ (l : List Ins) (x : Int), insP l P x ↔ insP l Q x
  | [], x => h x
  | i :: l, x => or_congr Iff.rfl (and_congr (insP_congr h l x) Iff.rfl)
theorem lastP_congr {e : En} {ss ss' : List (Option (Nat × List Int))} (h : ∀ t ∈ e.to.l, ss[t.b.toNat]? = ss'[t.b.toNat]?) (x : Int) : lastP e ss x ↔ lastP e ss' x := by
  unfold lastP edgeP
  refine or_congr Iff.rfl ⟨fun ⟨t, ht, h1⟩ => ⟨t, ht, ?_⟩, fun ⟨t, ht, h1⟩ => ⟨t, ht, ?_⟩⟩
  · rw [← h t ht]; exact h1
  · rw [h t ht]; exact h1
theorem blkP_set {f : Gr} (hU : Up f) {n m : Nat} {bl : Blc} {ss : List (Option (Nat × List Int))} {s : Option (Nat × List Int)} (hb : f.bs.l[n]? = some bl) (hm : m ≤ n) (x : Int) : blkP bl (ss.set m s) x ↔ blkP bl ss x := by
  unfold blkP
  refine and_congr (insP_congr (lastP_congr fun t ht => ?_) _ x) Iff.rfl
  have := hU n bl hb t ht
  rw [List.getElem?_set_ne (by omega)]
theorem fix_set {f : Gr} (hU : Up f) {n : Nat} {bl : Blc} {ss : List (Option (Nat × List Int))} {s : Option (Nat × List Int)} (hb : f.bs.l[n]? = some bl) (hn : n < ss.length) (hs : ∀ x, x ∈ kso s ↔ blkP bl ss x) (hF : ∀ m, n < m → FixAt f ss m) :
    ∀ m, n ≤ m → FixAt f (ss.set n s) m := by
  intro m hm bm hbm x
  rw [blkP_set hU hbm hm]
  by_cases h : n = m
  · subst h
    rw [hb] at hbm
    cases hbm
    unfold setAt
    rw [List.getElem?_set_self hn]
    exact hs x
  · have h2 := hF m (by omega) bm hbm x
    unfold setAt at h2 ⊢
    rw [List.getElem?_set_ne h]
    exact h2
theorem nodup_len {l m : List Int} (hl : l.Nodup) (hm : m.Nodup) (h : ∀ x, x ∈ l ↔ x ∈ m) : l.length = m.length := by
  have key : ∀ (l m : List Int), l.Nodup → (∀ x ∈ l, x ∈ m) → l.length ≤ m.length := by
    intro l
    induction l with
    | nil => intro m _ _; exact Nat.zero_le _
    | cons x l ih =>
      intro m hn hs
      have hx := hs x (.head _)
      have := ih (m.erase x) (List.nodup_cons.1 hn).2 fun y hy => (List.mem_erase_of_ne fun (e : y = x) => (List.nodup_cons.1 hn).1 (e ▸ hy)).2 (hs y (.tail _ hy))
      rw [List.length_erase_of_mem hx] at this
      have := List.length_pos_of_mem hx
      rw [List.length_cons]
      omega
  exact Nat.le_antisymm (key l m hl fun x hx => (h x).1 hx) (key m l hm fun x hx => (h x).2 hx)
end Go.Proofs.Ytjfanjcoppeeaaa
namespace Go.Fw
open Go
/-- a set, told by what is in it -/
def skP (b : Nat) (P : Int → Prop) : It where
  sat w F := ∃ ks, (∀ x, x ∈ ks ↔ P x) ∧ (sk b ks).sat w F
  loc := by
    rintro w w' F ⟨ks, h1, h2⟩ he
    exact ⟨ks, h1, (sk b ks).loc h2 he⟩
  lt := by
    rintro w F ⟨ks, h1, h2⟩
    exact (sk b ks).lt h2
  ext := by
    rintro w F F' ⟨ks, h1, h2⟩ he
    exact ⟨ks, h1, (sk b ks).ext h2 he⟩
theorem HS.shutP {w0 w : World} {M : Nat → Prop} {H : List It} {b : Nat} {ks : List Int} {P : Int → Prop} (h : HS w0 M (sk b ks :: H) w) (hp : ∀ x, x ∈ ks ↔ P x) : HS w0 M (skP b P :: H) w :=
  h.conv .here fun F hF => ⟨ks, hp, hF⟩
theorem HS.openP {w0 w : World} {M : Nat → Prop} {H : List It} {b : Nat} {P : Int → Prop} (h : HS w0 M (skP b P :: H) w) : ∃ ks, (∀ x, x ∈ ks ↔ P x) ∧ HS w0 M (sk b ks :: H) w := by
  obtain ⟨hk, F, ⟨F1, F2, hF, hd, ⟨ks, h1, h2⟩, h3⟩, ho⟩ := h
  exact ⟨ks, h1, hk, F, ⟨F1, F2, hF, hd, h2, h3⟩, ho⟩
theorem rd_slots2 {N : Nat} {l : List (Nat × Value)} {a : Act} {Ds : List Deferred} {p q : Nat} {v1 v2 : Value} (hA : Sl N l a Ds) (hp : p < N) (hq : q < N) :
    Sl N ((q, v2) :: (p, v1) :: l) { tmps := ((#[p, q] : Array Tmp).zip #[v1, v2]).foldl (fun t (p, v) => t.setIfInBounds p v) a.tmps, defers := [] } := by
  have h0 : Sl N l { tmps := a.tmps, defers := [] } [] := ⟨⟨hA.size, hA.get⟩, rfl⟩
  have h2 := (h0.put hp v1).put hq v2
  have e : ((#[p, q] : Array Tmp).zip #[v1, v2]).foldl (fun t (p, v) => t.setIfInBounds p v) a.tmps = (a.tmps.setIfInBounds p v1).setIfInBounds q v2 := by simp
  rw [e]
  exact h2
end Go.Fw
namespace Go.Proofs.Ytjfanjcoppeeaaa
open Go Go.Fw
set_option linter.unusedVariables false
theorem rep_sko {w0 w : World} {M : Nat → Prop} {H : List It} (h : HS w0 M H w) (n : Nat) : HS w0 M (all ((List.replicate n (none : Option (Nat × List Int))).map sko) :: H) w := by
  refine HS.shut ?_
  induction n with
  | zero => exact h
  | succ n ih =>
    rw [List.replicate_succ, List.map_cons, List.cons_append]
    exact ih.nil_all
theorem dfi_cons {w0 w : World} {M : Nat → Prop} {H : List It} {D : Nat} {L : List Nat} (h : HS w0 M (all (L.map dfi) :: dfi D :: H) w) : HS w0 M (all ((D :: L).map dfi) :: H) w := by
  rw [List.map_cons]
  refine HS.shut (L := dfi D :: L.map dfi) ?_
  exact h.open_.perm List.perm_middle
theorem del_nil {P : Int → Prop} {ks l : List Int} (h : ∀ x, x ∈ ks ↔ P x) (x : Int) : x ∈ ks ↔ P x ∧ x ∉ l.take 0 := by
  rw [h, List.take_zero]
  exact ⟨fun h => ⟨h, List.not_mem_nil⟩, And.left⟩
theorem del_next {P : Int → Prop} {ks l : List Int} {i : Nat} {y : Int} (hy : l[i]? = some y) (h : ∀ x, x ∈ ks ↔ P x ∧ x ∉ l.take i) (x : Int) : x ∈ sdel ks y ↔ P x ∧ x ∉ l.take (i + 1) := by
  rw [mem_sdel, h, take_snoc hy, List.mem_append, List.mem_singleton, not_or, and_assoc]
theorem blk_of {bl : Blc} {ss : List (Option (Nat × List Int))} {ks : List Int} (h : ∀ x, x ∈ ks ↔ insP bl.is.l (lastP bl.e ss) x ∧ x ∉ bl.ps.l) (x : Int) : x ∈ ks ↔ blkP bl ss x := h x
theorem into_set {w0 w : World} {M : Nat → Prop} {H : List It} {ss : List (Option (Nat × List Int))} {i b : Nat} {ks : List Int} {A B C E F : It} (h : HS w0 M (all ((ss.map sko).eraseIdx i) :: sk b ks :: A :: B :: C :: E :: F :: H) w) (hi : i < ss.length) :
    HS w0 M (A :: C :: all ((ss.set i (some (b, ks))).map sko) :: F :: H) w := by
  have h1 := (h.up 1 rfl).shutAt (by rw [List.length_map]; exact hi)
  have e : (ss.map sko).set i (sk b ks) = (ss.set i (some (b, ks))).map sko := by rw [List.map_set]; rfl
  rw [e] at h1
  dsimp only [List.eraseIdx_cons_succ, List.eraseIdx_cons_zero] at h1
  have h2 : HS w0 M (all ((ss.set i (some (b, ks))).map sko) :: A :: C :: F :: H) w := (h1.rm 2).rm 3
  exact h2.perm ((List.Perm.swap _ _ _).trans (List.Perm.cons _ (List.Perm.swap _ _ _)))
theorem pass_set {f : Gr} (hU : Up f) {i k b : Nat} {bl : Blc} {ss : List (Option (Nat × List Int))} {ks : List Int} (hbl : f.bs.l[i]? = some bl) (hsl : ss.length = f.bs.l.length) (hks : ∀ x, x ∈ ks ↔ blkP bl ss x) (hge : ∀ m, i + 1 ≤ m → FixAt f ss m)
    (hlt0 : k = 0 → ∀ m, m < i + 1 → setAt ss m = []) (hno : k ≠ 0 → False) {c : Bool} :
    i ≤ f.bs.l.length ∧ (ss.set i (some (b, ks))).length = f.bs.l.length ∧ (∀ m, i ≤ m → FixAt f (ss.set i (some (b, ks))) m) ∧ (k = 0 → ∀ m, m < i → setAt (ss.set i (some (b, ks))) m = []) ∧ (k ≠ 0 → c = false ∧ ∀ n, FixAt f (ss.set i (some (b, ks))) n) := by
  have hi := (List.getElem?_eq_some_iff.1 hbl).1
  refine ⟨by omega, by rw [List.length_set]; exact hsl, fix_set hU hbl (by omega) hks (fun m hm => hge m hm), fun h m hm => ?_, fun h => (hno h).elim⟩
  have := hlt0 h m (by omega)
  unfold setAt at this ⊢
  rw [List.getElem?_set_ne (by omega)]
  exact this
theorem pass_keep {f : Gr} {i k : Nat} {bl : Blc} {ss : List (Option (Nat × List Int))} {ks : List Int} (hbl : f.bs.l[i]? = some bl) (hsl : ss.length = f.bs.l.length) (hks : ∀ x, x ∈ ks ↔ blkP bl ss x) (hge : ∀ m, i + 1 ≤ m → FixAt f ss m)
    (hlt0 : k = 0 → ∀ m, m < i + 1 → setAt ss m = []) {c : Bool} (hm1 : k ≠ 0 → c = false ∧ ∀ n, FixAt f ss n) (hle : ks.length ≤ (setAt ss i).length) :
    i ≤ f.bs.l.length ∧ ss.length = f.bs.l.length ∧ (∀ m, i ≤ m → FixAt f ss m) ∧ (k = 0 → ∀ m, m < i → setAt ss m = []) ∧ (k ≠ 0 → c = false ∧ ∀ n, FixAt f ss n) := by
  have hi := (List.getElem?_eq_some_iff.1 hbl).1
  refine ⟨by omega, hsl, fun m hm => ?_, fun h m hm => hlt0 h m (by omega), hm1⟩
  by_cases hmi : i = m
  · subst hmi
    by_cases hk : k = 0
    · have h0 := hlt0 hk i (by omega)
      rw [h0] at hle
      have : ks = [] := List.length_eq_zero_iff.1 (by simpa using hle)
      intro bl' hb' x
      rw [hbl] at hb'
      cases hb'
      rw [h0, ← hks, this]
    · exact (hm1 hk).2 i
  · exact hge m (by omega)
theorem pass_no {f : Gr} {i k : Nat} {bl : Blc} {ss : List (Option (Nat × List Int))} {ks : List Int} (hbl : f.bs.l[i]? = some bl) (hks : ∀ x, x ∈ ks ↔ blkP bl ss x) {c : Bool} (hm1 : k ≠ 0 → c = false ∧ ∀ n, FixAt f ss n) (hn1 : ks.Nodup) (hn2 : (setAt ss i).Nodup) (hgt : (setAt ss i).length < ks.length) (hk : k ≠ 0) : False := by
  have := nodup_len hn1 hn2 fun x => by rw [hks, (hm1 hk).2 i bl hbl x]
  omega
theorem insP_end (l : List Ins) (P : Int → Prop) : insP (l.drop l.length) P = P := by rw [List.drop_length]; rfl
theorem insP_at {l : List Ins} {j : Nat} (hj : j < l.length) {P : Int → Prop} {ks ks' : List Int} (h : ∀ x, x ∈ ks ↔ insP (l.drop (j + 1)) P x) (h' : ∀ x, x ∈ ks' ↔ insUse (l.getD j ins0) x ∨ (x ∈ ks ∧ x ≠ (l.getD j ins0).x)) (x : Int) : x ∈ ks' ↔ insP (l.drop j) P x := by
  rw [List.drop_eq_getElem_cons hj, h', h]
  have : l.getD j ins0 = l[j] := by rw [List.getD_eq_getElem?_getD, List.getElem?_eq_getElem hj]; rfl
  rw [this]
  rfl
theorem getD_mem {l : List Ins} {j : Nat} (hj : j < l.length) : l.getD j ins0 ∈ l := by
  rw [List.getD_eq_getElem?_getD, List.getElem?_eq_getElem hj]
  exact List.getElem_mem hj
set_option maxRecDepth 10000 attribute [local irreducible] Code.wp wpList Calls Ex Op1 sat bat blk cb own Go.Fw.mp Go.Fw.mpO Go.Fw.mpI Go.Fw.mpE Go.Fw.itr HS Rd Ret wkD Hp Cl Cls Exit.then Exit.inBlock Exit.noGoto bodyPost Go.Fw.flat wk2 Go.Fw.all Go.Fw.owns wpOp
attribute [local irreducible] sk mpK skP insP blkP

set_option maxHeartbeats 8000000 in
theorem live_spec (w0 w : World) (H : List It) (f : Gr) (hH : HS w0 noM H w) (hR : RdG w0 f) (hU : Up f) (hB : f.bs.l.length ≤ 100000) :
    Ret Try.prog 31 #[.agg (encG f).toArray] w (fun r w' => ∃ oI cI ss, r = .slice oI ss.length cI ∧ ss.length = f.bs.l.length ∧ (∀ n, FixAt f ss n) ∧ HS w0 noM (own 72 1 oI ss.length cI (flat encO ss) :: all (ss.map sko) :: H) w') := by
  have hsp : Sp f.bs.o f.bs.l.length := hR.1.1.sp (sz := 6) (flat_length encBl_len _) (by omega)
  (refine enterM (N := 64) Try.func31 rfl Try.ntmps31 rfl ?_; intro a hA; dsimp only [sl0, Nat.reduceAdd] at hA)
  repeat' (first | (first | (refine GT ?_ ?_ <;> intro hg <;> clear hA a <;> intro a hA <;> (first | exact FA | replace hg := of_decide_eq_true hg | replace hg := of_decide_eq_false hg | skip)) | (refine QT ?_; clear hA a; intro a hA) | (first | (refine BT ?_; clear hA hH; rintro _ w ⟨bN, rfl, hH⟩ a hA) | (refine LT ?_; clear hA hH; rintro _ w ⟨oN, rfl, hH⟩ a hA) | (refine AT ?_; clear hA; rintro _ w ⟨oN, cN, rfl, hH2⟩ a hA; clear hH; have hH := (hH2 _ (by (repeat constructor))).tail; clear hH2) | (refine S0T ?_; clear hH; rintro _ w hH) | (apply st_op hA rfl rfl (by decide); apply op_make1 (encO) ((none : Option (Nat × List Int))) (n := f.bs.l.length); rfl; rfl; omega; omega; (unfold maxLen; omega); omega; rfl; rfl; exact hH; clear hA hH; rintro _ w ⟨oN, rfl, hH⟩ a hA))) | ((first | refine CT ?_ | (refine DT ?_ ?_ <;> intro hc <;> try (exfalso; omega))) <;> repeat' refine CT ?_) | (first | (refine DSK ?_; clear hA a; intro a hA) | (first | (refine DLT ?_; clear hA hH; rintro _ w ⟨oN, rfl, hH⟩; refine ⟨STT, ?_⟩; intro a hA) | (refine DAT ?_; clear hA; rintro _ w ⟨oN, cN, rfl, hH2⟩; clear hH; have hH := (hH2 _ (by (repeat constructor))).tail; clear hH2; refine ⟨STT, ?_⟩; intro a hA))) )
  obtain ⟨bF, hbF⟩ : ∃ x, x = bN := ⟨_, rfl⟩
  obtain ⟨oI, hoI⟩ : ∃ x, x = oN := ⟨_, rfl⟩
  rw [← hbF, ← hoI] at hA hH
  clear hbF bN hoI oN
  obtain ⟨cI, hcI⟩ : ∃ x, x = f.bs.l.length := ⟨_, rfl⟩
  obtain ⟨ss0, hss0⟩ : ∃ x, x = List.replicate f.bs.l.length (none : Option (Nat × List Int)) := ⟨_, rfl⟩
  have hsl0 : ss0.length = f.bs.l.length := by rw [hss0, List.length_replicate]
  have hse0 : ∀ m, setAt ss0 m = [] := fun m => by
    unfold setAt
    rw [hss0, List.getElem?_replicate]
    split <;> rfl
  have hH1 : HS w0 noM (all (([] : List Nat).map dfi) :: own 72 1 oI ss0.length cI (flat encO ss0) :: all (ss0.map sko) :: cb bF 30 (encG f) :: H) w := by
    rw [hsl0, hss0, hcI]
    exact ((rep_sko hH f.bs.l.length).perm (by (repeat (first | exact List.Perm.refl _ | exact List.Perm.nil | refine perm_pick 0 rfl ?_ | refine perm_pick 1 rfl ?_ | refine perm_pick 2 rfl ?_ | refine perm_pick 3 rfl ?_ | refine perm_pick 4 rfl ?_ | refine perm_pick 5 rfl ?_ | refine perm_pick 6 rfl ?_ | refine perm_pick 7 rfl ?_ | refine perm_pick 8 rfl ?_ | refine perm_pick 9 rfl ?_ | refine perm_pick 10 rfl ?_ | refine perm_pick 11 rfl ?_)))).nil_all
  have hA1 : Sl 64 [(1, .pointer (some (bat bF 0))), (3, .slice oI ss0.length cI), (4, .bool true)] a (([] : List Nat).map dmk) := by
    rw [hsl0, hcI]
    exact (hA.sub (by (repeat (first | exact trivial | refine ⟨rfl, ?_⟩))))
  clear hA hH hss0
  refine wp_lpk (S := Nat) (fun k a w => ∃ (c : Bool) (ss : List (Option (Nat × List Int))) (L : List Nat), (k ≤ 2 ∧ ss.length = f.bs.l.length ∧ (k = 0 → c = true ∧ ∀ m, setAt ss m = []) ∧ (k ≠ 0 → ∀ n, FixAt f ss n) ∧ (k = 2 → c = false)) ∧
      HS w0 noM (all (L.map dfi) :: own 72 1 oI ss.length cI (flat encO ss) :: all (ss.map sko) :: cb bF 30 (encG f) :: H) w ∧ Sl 64 [(1, .pointer (some (bat bF 0))), (3, .slice oI ss.length cI), (4, .bool c)] a (L.map dmk)) (fun k => 2 - k)
    (fun a w => ∃ (ss : List (Option (Nat × List Int))) (L : List Nat), (ss.length = f.bs.l.length ∧ ∀ n, FixAt f ss n) ∧
      HS w0 noM (all (L.map dfi) :: own 72 1 oI ss.length cI (flat encO ss) :: all (ss.map sko) :: cb bF 30 (encG f) :: H) w ∧ Sl 64 [(1, .pointer (some (bat bF 0))), (3, .slice oI ss.length cI)] a (L.map dmk)) 0
    ⟨true, ss0, [], ⟨by omega, hsl0, fun _ => ⟨rfl, hse0⟩, fun h => absurd rfl h, fun h => by omega⟩, hH1, hA1⟩ ?_ ?_
  · clear hA1 hH1 hse0 hsl0 ss0
    rintro k a w ⟨c, ss, L, ⟨hk, hsl, hk0, hk1, hk2⟩, hH, hA⟩
    rcases c with _ | _
    · have hk3 : k ≠ 0 := fun h => by have := (hk0 h).1; cases this
      repeat' (first | (first | (refine GT ?_ ?_ <;> intro hg <;> clear hA a <;> intro a hA <;> (first | exact FA | replace hg := of_decide_eq_true hg | replace hg := of_decide_eq_false hg | skip)) | (refine QT ?_; clear hA a; intro a hA) | (first | (refine BT ?_; clear hA hH; rintro _ w ⟨bN, rfl, hH⟩ a hA) | (refine LT ?_; clear hA hH; rintro _ w ⟨oN, rfl, hH⟩ a hA) | (refine AT ?_; clear hA; rintro _ w ⟨oN, cN, rfl, hH2⟩ a hA; clear hH; have hH := (hH2 _ (by (repeat constructor))).tail; clear hH2) | (refine S0T ?_; clear hH; rintro _ w hH) )) | ((first | refine CT ?_ | (refine DT ?_ ?_ <;> intro hc <;> try (exfalso; omega))) <;> repeat' refine CT ?_) | (first | (refine DSK ?_; clear hA a; intro a hA) | (first | (refine DLT ?_; clear hA hH; rintro _ w ⟨oN, rfl, hH⟩; refine ⟨STT, ?_⟩; intro a hA) | (refine DAT ?_; clear hA; rintro _ w ⟨oN, cN, rfl, hH2⟩; clear hH; have hH := (hH2 _ (by (repeat constructor))).tail; clear hH2; refine ⟨STT, ?_⟩; intro a hA))) )
      exact ⟨ss, L, ⟨hsl, hk1 hk3⟩, hH, (hA.sub (by (repeat (first | exact trivial | refine ⟨rfl, ?_⟩))))⟩
    have hk3 : k ≠ 2 := fun h => by have := hk2 h; cases this
    repeat' (first | (first | (refine GT ?_ ?_ <;> intro hg <;> clear hA a <;> intro a hA <;> (first | exact FA | replace hg := of_decide_eq_true hg | replace hg := of_decide_eq_false hg | skip)) | (refine QT ?_; clear hA a; intro a hA) | (first | (refine BT ?_; clear hA hH; rintro _ w ⟨bN, rfl, hH⟩ a hA) | (refine LT ?_; clear hA hH; rintro _ w ⟨oN, rfl, hH⟩ a hA) | (refine AT ?_; clear hA; rintro _ w ⟨oN, cN, rfl, hH2⟩ a hA; clear hH; have hH := (hH2 _ (by (repeat constructor))).tail; clear hH2) | (refine S0T ?_; clear hH; rintro _ w hH) )) | ((first | refine CT ?_ | (refine DT ?_ ?_ <;> intro hc <;> try (exfalso; omega))) <;> repeat' refine CT ?_) | (first | (refine DSK ?_; clear hA a; intro a hA) | (first | (refine DLT ?_; clear hA hH; rintro _ w ⟨oN, rfl, hH⟩; refine ⟨STT, ?_⟩; intro a hA) | (refine DAT ?_; clear hA; rintro _ w ⟨oN, cN, rfl, hH2⟩; clear hH; have hH := (hH2 _ (by (repeat constructor))).tail; clear hH2; refine ⟨STT, ?_⟩; intro a hA))) )
    refine wp_lpk (S := Nat) (fun i a w => ∃ (c : Bool) (ss : List (Option (Nat × List Int))) (L : List Nat), (i ≤ f.bs.l.length ∧ ss.length = f.bs.l.length ∧ (∀ m, i ≤ m → FixAt f ss m) ∧ (k = 0 → ∀ m, m < i → setAt ss m = []) ∧ (k ≠ 0 → c = false ∧ ∀ n, FixAt f ss n)) ∧
        HS w0 noM (all (L.map dfi) :: own 72 1 oI ss.length cI (flat encO ss) :: all (ss.map sko) :: cb bF 30 (encG f) :: H) w ∧ Sl 64 [(1, .pointer (some (bat bF 0))), (3, .slice oI ss.length cI), (4, .bool c), (5, .int .i64 ((i : Int) - 1))] a (L.map dmk)) (fun i => i)
      (fun a w => ∃ (c : Bool) (ss : List (Option (Nat × List Int))) (L : List Nat), (ss.length = f.bs.l.length ∧ (∀ n, FixAt f ss n) ∧ (k ≠ 0 → c = false)) ∧
        HS w0 noM (all (L.map dfi) :: own 72 1 oI ss.length cI (flat encO ss) :: all (ss.map sko) :: cb bF 30 (encG f) :: H) w ∧ Sl 64 [(1, .pointer (some (bat bF 0))), (3, .slice oI ss.length cI), (4, .bool c)] a (L.map dmk)) f.bs.l.length
      ⟨false, ss, L, ⟨Nat.le_refl _, hsl, fun m hm bl hb => (by have := (List.getElem?_eq_some_iff.1 hb).1; omega), fun h m _ => (hk0 h).2 m, fun h => ⟨rfl, hk1 h⟩⟩, hH, (hA.sub (by (repeat (first | exact trivial | refine ⟨rfl, ?_⟩))))⟩ ?_ ?_
    · clear hA hH hk0 hk1 hk2 hsl ss L
      rintro i a w ⟨c, ss, L, ⟨hi, hsl, hge, hlt0, hm1⟩, hH, hA⟩
      rcases i with _ | i
      · repeat' (first | (first | (refine GT ?_ ?_ <;> intro hg <;> clear hA a <;> intro a hA <;> (first | exact FA | replace hg := of_decide_eq_true hg | replace hg := of_decide_eq_false hg | skip)) | (refine QT ?_; clear hA a; intro a hA) | (first | (refine BT ?_; clear hA hH; rintro _ w ⟨bN, rfl, hH⟩ a hA) | (refine LT ?_; clear hA hH; rintro _ w ⟨oN, rfl, hH⟩ a hA) | (refine AT ?_; clear hA; rintro _ w ⟨oN, cN, rfl, hH2⟩ a hA; clear hH; have hH := (hH2 _ (by (repeat constructor))).tail; clear hH2) | (refine S0T ?_; clear hH; rintro _ w hH) )) | ((first | refine CT ?_ | (refine DT ?_ ?_ <;> intro hc <;> try (exfalso; omega))) <;> repeat' refine CT ?_) | (first | (refine DSK ?_; clear hA a; intro a hA) | (first | (refine DLT ?_; clear hA hH; rintro _ w ⟨oN, rfl, hH⟩; refine ⟨STT, ?_⟩; intro a hA) | (refine DAT ?_; clear hA; rintro _ w ⟨oN, cN, rfl, hH2⟩; clear hH; have hH := (hH2 _ (by (repeat constructor))).tail; clear hH2; refine ⟨STT, ?_⟩; intro a hA))) )
        exact ⟨c, ss, L, ⟨hsl, fun n => hge n (Nat.zero_le _), fun h => (hm1 h).1⟩, hH, (hA.sub (by (repeat (first | exact trivial | refine ⟨rfl, ?_⟩))))⟩
      have e1 : ((i + 1 : Nat) : Int) - 1 = i := by omega
      rw [e1] at hA
      obtain ⟨bl, hbl⟩ : ∃ bl, f.bs.l[i]? = some bl := ⟨_, List.getElem?_eq_getElem (by omega)⟩
      have hbR := hR.2 bl (List.mem_of_getElem? hbl)
      have hvs := flat_all encBl_len hbl
      repeat' (first | (first | (refine GT ?_ ?_ <;> intro hg <;> clear hA a <;> intro a hA <;> (first | exact FA | replace hg := of_decide_eq_true hg | replace hg := of_decide_eq_false hg | skip)) | ((first | apply st_ex hA hH rfl rfl (by decide) | apply dr_ex hA rfl rfl rfl (by decide) | apply dr_exp hA rfl rfl rfl (by decide) | apply dr_ex3 hA hH rfl rfl rfl (by decide)); (first | (apply ex_load_st (vs := encBl bl); rfl; rfl; exact cls_rd hR.1.1 id hvs)); clear hA a; intro a hA) | (refine QT ?_; clear hA a; intro a hA) | (first | (refine BT ?_; clear hA hH; rintro _ w ⟨bN, rfl, hH⟩ a hA) | (refine LT ?_; clear hA hH; rintro _ w ⟨oN, rfl, hH⟩ a hA) | (refine AT ?_; clear hA; rintro _ w ⟨oN, cN, rfl, hH2⟩ a hA; clear hH; have hH := (hH2 _ (by (repeat constructor))).tail; clear hH2) | (refine S0T ?_; clear hH; rintro _ w hH) | (apply st_op0 hA rfl rfl; apply op_store_agg (vs := encBl bl); rfl; rfl; exact hH; (repeat constructor); (repeat rfl); clear hH; rintro _ w hH))) | ((first | refine CT ?_ | (refine DT ?_ ?_ <;> intro hc <;> try (exfalso; omega))) <;> repeat' refine CT ?_) | (first | (refine DSK ?_; clear hA a; intro a hA) | (first | (refine DLT ?_; clear hA hH; rintro _ w ⟨oN, rfl, hH⟩; refine ⟨STT, ?_⟩; intro a hA) | (refine DAT ?_; clear hA; rintro _ w ⟨oN, cN, rfl, hH2⟩; clear hH; have hH := (hH2 _ (by (repeat constructor))).tail; clear hH2; refine ⟨STT, ?_⟩; intro a hA))) )
      obtain ⟨b6, hb6⟩ : ∃ x, x = bN := ⟨_, rfl⟩
      rw [← hb6] at hA hH
      clear hb6 bN
      (refine st_op hA rfl rfl (by decide) (op_call rfl rfl rfl (last_spec w0 _ _ bl oI cI ss ((hH.up 3 rfl).up 3 rfl) hbR)) ?_; clear hA hH; rintro _ w ⟨b, ks, rfl, hks, hH⟩ a hA)
      dsimp only [List.eraseIdx_cons_succ, List.eraseIdx_cons_zero] at hH
      repeat' (first | (first | (refine GT ?_ ?_ <;> intro hg <;> clear hA a <;> intro a hA <;> (first | exact FA | replace hg := of_decide_eq_true hg | replace hg := of_decide_eq_false hg | skip)) | (refine QT ?_; clear hA a; intro a hA) | (first | (refine BT ?_; clear hA hH; rintro _ w ⟨bN, rfl, hH⟩ a hA) | (refine LT ?_; clear hA hH; rintro _ w ⟨oN, rfl, hH⟩ a hA) | (refine AT ?_; clear hA; rintro _ w ⟨oN, cN, rfl, hH2⟩ a hA; clear hH; have hH := (hH2 _ (by (repeat constructor))).tail; clear hH2) | (refine S0T ?_; clear hH; rintro _ w hH) )) | ((first | refine CT ?_ | (refine DT ?_ ?_ <;> intro hc <;> try (exfalso; omega))) <;> repeat' refine CT ?_) | (first | (refine DSK ?_; clear hA a; intro a hA) | (first | (refine DLT ?_; clear hA hH; rintro _ w ⟨oN, rfl, hH⟩; refine ⟨STT, ?_⟩; intro a hA) | (refine DAT ?_; clear hA; rintro _ w ⟨oN, cN, rfl, hH2⟩; clear hH; have hH := (hH2 _ (by (repeat constructor))).tail; clear hH2; refine ⟨STT, ?_⟩; intro a hA))) )
      (refine st_op hA rfl rfl (by decide) (op_call rfl rfl rfl (backward_spec _ bl.is)) ?_; clear hA; rintro _ w ⟨bI, rfl, hj⟩ a hA; replace hH := hH.join hj; clear hj)
      obtain ⟨b7, hb7⟩ : ∃ x, x = bN := ⟨_, rfl⟩
      rw [← hb7] at hA hH
      clear hb7 bN
      repeat' (first | (first | (refine GT ?_ ?_ <;> intro hg <;> clear hA a <;> intro a hA <;> (first | exact FA | replace hg := of_decide_eq_true hg | replace hg := of_decide_eq_false hg | skip)) | (refine QT ?_; clear hA a; intro a hA) | (first | (refine BT ?_; clear hA hH; rintro _ w ⟨bN, rfl, hH⟩ a hA) | (refine LT ?_; clear hA hH; rintro _ w ⟨oN, rfl, hH⟩ a hA) | (refine AT ?_; clear hA; rintro _ w ⟨oN, cN, rfl, hH2⟩ a hA; clear hH; have hH := (hH2 _ (by (repeat constructor))).tail; clear hH2) | (refine S0T ?_; clear hH; rintro _ w hH) )) | ((first | refine CT ?_ | (refine DT ?_ ?_ <;> intro hc <;> try (exfalso; omega))) <;> repeat' refine CT ?_) | (first | (refine DSK ?_; clear hA a; intro a hA) | (first | (refine DLT ?_; clear hA hH; rintro _ w ⟨oN, rfl, hH⟩; refine ⟨STT, ?_⟩; intro a hA) | (refine DAT ?_; clear hA; rintro _ w ⟨oN, cN, rfl, hH2⟩; clear hH; have hH := (hH2 _ (by (repeat constructor))).tail; clear hH2; refine ⟨STT, ?_⟩; intro a hA))) )
      refine wp_range (gf := 64) (lb := #[.pointer (some (bat bI 0))])
        (fun j => skP b (insP (bl.is.l.drop j) (lastP bl.e ss)) :: cb bI 45 [.slice bl.is.o bl.is.l.length bl.is.c] :: cb b7 72 [.map (some b)] :: own 72 1 oI ss.length cI (flat encO ss) :: all (ss.map sko) :: cb b6 52 (encBl bl) :: all (L.map dfi) :: cb bF 30 (encG f) :: H)
        (fun j => #[.int .i64 j, .agg (encIn (bl.is.l.getD j ins0)).toArray]) bl.is.l.length hA rfl (fun _ => rfl) (HS.shutP (hH.up 2 rfl) (by rw [insP_end]; exact hks)) (fun l X Y W hY hW => back_spec w0 bl.is bI (fun j => skP b (insP (bl.is.l.drop j) (lastP bl.e ss)) :: cb bI 45 [.slice bl.is.o bl.is.l.length bl.is.c] :: cb b7 72 [.map (some b)] :: own 72 1 oI ss.length cI (flat encO ss) :: all (ss.map sko) :: cb b6 52 (encBl bl) :: all (L.map dfi) :: cb bF 30 (encG f) :: H) (fun i => .tail _ (.head _)) hbR.2.1 l X Y W hY hW) ?_ ?_
      · clear hH
        rintro l X Y j W hj hH
        have hA0 := rd_slots2 (p := 36) (q := 37) (v1 := .int .i64 j) (v2 := .agg (encIn (bl.is.l.getD j ins0)).toArray) hA (by decide) (by decide)
        clear hA
        generalize ({ tmps := _, defers := [] } : Act) = a0 at hA0 ⊢
        rename _ => hA
        refine rd_region rfl ?_
        repeat' (first | (first | (refine GT ?_ ?_ <;> intro hg <;> clear hA a <;> intro a hA <;> (first | exact FA | replace hg := of_decide_eq_true hg | replace hg := of_decide_eq_false hg | skip)) | (refine QT ?_; clear hA a; intro a hA) | (first | (refine BT ?_; clear hA hH; rintro _ w ⟨bN, rfl, hH⟩ a hA) | (refine LT ?_; clear hA hH; rintro _ w ⟨oN, rfl, hH⟩ a hA) | (refine AT ?_; clear hA; rintro _ w ⟨oN, cN, rfl, hH2⟩ a hA; clear hH; have hH := (hH2 _ (by (repeat constructor))).tail; clear hH2) | (refine S0T ?_; clear hH; rintro _ w hH) | (apply st_op0 hA rfl rfl; apply op_store_agg (vs := encIn (bl.is.l.getD j ins0)); rfl; rfl; exact hH; (repeat constructor); (repeat rfl); clear hH; rintro _ w hH))) | ((first | refine CT ?_ | (refine DT ?_ ?_ <;> intro hc <;> try (exfalso; omega))) <;> repeat' refine CT ?_) | (first | (refine DSK ?_; clear hA a; intro a hA) | (first | (refine DLT ?_; clear hA hH; rintro _ w ⟨oN, rfl, hH⟩; refine ⟨STT, ?_⟩; intro a hA) | (refine DAT ?_; clear hA; rintro _ w ⟨oN, cN, rfl, hH2⟩; clear hH; have hH := (hH2 _ (by (repeat constructor))).tail; clear hH2; refine ⟨STT, ?_⟩; intro a hA))) )
        refine ⟨_, hH.up 1 rfl, fun X' W2 hH => ?_⟩
        dsimp only [List.eraseIdx_cons_succ, List.eraseIdx_cons_zero] at hH
        apply wpIn_block
        refine rd_region rfl ?_
        replace hH := hH.up 3 rfl
        dsimp only [List.eraseIdx_cons_succ, List.eraseIdx_cons_zero] at hH
        obtain ⟨ks1, hks1, hH1⟩ := hH.openP
        clear hH
        have hH := hH1
        clear hH1
        repeat' (first | (first | (refine GT ?_ ?_ <;> intro hg <;> clear hA a <;> intro a hA <;> (first | exact FA | replace hg := of_decide_eq_true hg | replace hg := of_decide_eq_false hg | skip)) | (refine QT ?_; clear hA a; intro a hA) | (first | (refine BT ?_; clear hA hH; rintro _ w ⟨bN, rfl, hH⟩ a hA) | (refine LT ?_; clear hA hH; rintro _ w ⟨oN, rfl, hH⟩ a hA) | (refine AT ?_; clear hA; rintro _ w ⟨oN, cN, rfl, hH2⟩ a hA; clear hH; have hH := (hH2 _ (by (repeat constructor))).tail; clear hH2) | (refine S0T ?_; clear hH; rintro _ w hH) )) | ((first | refine CT ?_ | (refine DT ?_ ?_ <;> intro hc <;> try (exfalso; omega))) <;> repeat' refine CT ?_) | (first | (refine DSK ?_; clear hA a; intro a hA) | (first | (refine DLT ?_; clear hA hH; rintro _ w ⟨oN, rfl, hH⟩; refine ⟨STT, ?_⟩; intro a hA) | (refine DAT ?_; clear hA; rintro _ w ⟨oN, cN, rfl, hH2⟩; clear hH; have hH := (hH2 _ (by (repeat constructor))).tail; clear hH2; refine ⟨STT, ?_⟩; intro a hA))) )
        (refine st_op hA rfl rfl (by decide) (op_call rfl rfl rfl (step_spec w0 _ _ b ks1 (bl.is.l.getD j ins0) hH (hbR.2.2.1 _ (getD_mem hj)))) ?_; clear hA hH; rintro _ w ⟨ks2, hks2, hH⟩ a hA)
        repeat' (first | (first | (refine GT ?_ ?_ <;> intro hg <;> clear hA a <;> intro a hA <;> (first | exact FA | replace hg := of_decide_eq_true hg | replace hg := of_decide_eq_false hg | skip)) | (refine QT ?_; clear hA a; intro a hA) | (first | (refine BT ?_; clear hA hH; rintro _ w ⟨bN, rfl, hH⟩ a hA) | (refine LT ?_; clear hA hH; rintro _ w ⟨oN, rfl, hH⟩ a hA) | (refine AT ?_; clear hA; rintro _ w ⟨oN, cN, rfl, hH2⟩ a hA; clear hH; have hH := (hH2 _ (by (repeat constructor))).tail; clear hH2) | (refine S0T ?_; clear hH; rintro _ w hH) )) | ((first | refine CT ?_ | (refine DT ?_ ?_ <;> intro hc <;> try (exfalso; omega))) <;> repeat' refine CT ?_) | (first | (refine DSK ?_; clear hA a; intro a hA) | (first | (refine DLT ?_; clear hA hH; rintro _ w ⟨oN, rfl, hH⟩; refine ⟨STT, ?_⟩; intro a hA) | (refine DAT ?_; clear hA; rintro _ w ⟨oN, cN, rfl, hH2⟩; clear hH; have hH := (hH2 _ (by (repeat constructor))).tail; clear hH2; refine ⟨STT, ?_⟩; intro a hA))) )
        exact ((HS.shutP hH (insP_at hj hks1 hks2)).rm 2).perm (by (repeat (first | exact List.Perm.refl _ | exact List.Perm.nil | refine perm_pick 0 rfl ?_ | refine perm_pick 1 rfl ?_ | refine perm_pick 2 rfl ?_ | refine perm_pick 3 rfl ?_ | refine perm_pick 4 rfl ?_ | refine perm_pick 5 rfl ?_ | refine perm_pick 6 rfl ?_ | refine perm_pick 7 rfl ?_ | refine perm_pick 8 rfl ?_ | refine perm_pick 9 rfl ?_ | refine perm_pick 10 rfl ?_ | refine perm_pick 11 rfl ?_)))
      · clear hA hH
        intro D a w hA hH
        rw [List.drop_zero] at hH
        repeat' (first | (first | (refine GT ?_ ?_ <;> intro hg <;> clear hA a <;> intro a hA <;> (first | exact FA | replace hg := of_decide_eq_true hg | replace hg := of_decide_eq_false hg | skip)) | (refine QT ?_; clear hA a; intro a hA) | (first | (refine BT ?_; clear hA hH; rintro _ w ⟨bN, rfl, hH⟩ a hA) | (refine LT ?_; clear hA hH; rintro _ w ⟨oN, rfl, hH⟩ a hA) | (refine AT ?_; clear hA; rintro _ w ⟨oN, cN, rfl, hH2⟩ a hA; clear hH; have hH := (hH2 _ (by (repeat constructor))).tail; clear hH2) | (refine S0T ?_; clear hH; rintro _ w hH) )) | ((first | refine CT ?_ | (refine DT ?_ ?_ <;> intro hc <;> try (exfalso; omega))) <;> repeat' refine CT ?_) | (first | (refine DSK ?_; clear hA a; intro a hA) | (first | (refine DLT ?_; clear hA hH; rintro _ w ⟨oN, rfl, hH⟩; refine ⟨STT, ?_⟩; intro a hA) | (refine DAT ?_; clear hA; rintro _ w ⟨oN, cN, rfl, hH2⟩; clear hH; have hH := (hH2 _ (by (repeat constructor))).tail; clear hH2; refine ⟨STT, ?_⟩; intro a hA))) )
        have hspP : Sp bl.ps.o bl.ps.l.length := hbR.1.1.sp (sz := 1) (flat_length Fw.encI_len _) (by omega)
        have hleP := hbR.1.le
        replace hH := hH.up 7 rfl
        dsimp only [List.eraseIdx_cons_succ, List.eraseIdx_cons_zero] at hH
        replace hH := dfi_cons hH
        replace hH := (hH.rm 2).up 1 rfl
        dsimp only [List.eraseIdx_cons_succ, List.eraseIdx_cons_zero] at hH
        obtain ⟨ks1, hks1, hH1⟩ := hH.openP
        clear hH
        refine wp_lpk (S := Nat) (fun j a w => ∃ ks, (j ≤ bl.ps.l.length ∧ ∀ x, x ∈ ks ↔ insP bl.is.l (lastP bl.e ss) x ∧ x ∉ bl.ps.l.take j) ∧ HS w0 noM (sk b ks :: all ((D :: L).map dfi) :: cb b7 72 [.map (some b)] :: own 72 1 oI ss.length cI (flat encO ss) :: all (ss.map sko) :: cb b6 52 (encBl bl) :: cb bF 30 (encG f) :: H) w ∧
            Sl 64 [(44, .int .i64 j), (43, .int .i64 bl.ps.l.length), (42, .slice bl.ps.o bl.ps.l.length bl.ps.c), (7, .pointer (some (bat b7 0))), (1, .pointer (some (bat bF 0))), (3, .slice oI ss.length cI), (4, .bool c), (5, .int .i64 i)] a ((D :: L).map dmk)) (fun j => bl.ps.l.length - j)
          (fun a w => ∃ ks, (∀ x, x ∈ ks ↔ blkP bl ss x) ∧ HS w0 noM (sk b ks :: all ((D :: L).map dfi) :: cb b7 72 [.map (some b)] :: own 72 1 oI ss.length cI (flat encO ss) :: all (ss.map sko) :: cb b6 52 (encBl bl) :: cb bF 30 (encG f) :: H) w ∧
            Sl 64 [(7, .pointer (some (bat b7 0))), (1, .pointer (some (bat bF 0))), (3, .slice oI ss.length cI), (4, .bool c), (5, .int .i64 i)] a ((D :: L).map dmk)) 0
          ⟨ks1, ⟨Nat.zero_le _, del_nil hks1⟩, hH1, (hA.sub (by (repeat (first | exact trivial | refine ⟨rfl, ?_⟩))))⟩ ?_ ?_
        · clear hA hH1 hks1 hks ks ks1
          rintro j a w ⟨ks, ⟨hj, hks⟩, hH, hA⟩
          by_cases hlt : j < bl.ps.l.length
          rotate_left
          · obtain rfl : j = bl.ps.l.length := by omega
            rw [List.take_length] at hks
            repeat' (first | (first | (refine GT ?_ ?_ <;> intro hg <;> clear hA a <;> intro a hA <;> (first | exact FA | replace hg := of_decide_eq_true hg | replace hg := of_decide_eq_false hg | skip)) | (refine QT ?_; clear hA a; intro a hA) | (first | (refine BT ?_; clear hA hH; rintro _ w ⟨bN, rfl, hH⟩ a hA) | (refine LT ?_; clear hA hH; rintro _ w ⟨oN, rfl, hH⟩ a hA) | (refine AT ?_; clear hA; rintro _ w ⟨oN, cN, rfl, hH2⟩ a hA; clear hH; have hH := (hH2 _ (by (repeat constructor))).tail; clear hH2) | (refine S0T ?_; clear hH; rintro _ w hH) )) | ((first | refine CT ?_ | (refine DT ?_ ?_ <;> intro hc <;> try (exfalso; omega))) <;> repeat' refine CT ?_) | (first | (refine DSK ?_; clear hA a; intro a hA) | (first | (refine DLT ?_; clear hA hH; rintro _ w ⟨oN, rfl, hH⟩; refine ⟨STT, ?_⟩; intro a hA) | (refine DAT ?_; clear hA; rintro _ w ⟨oN, cN, rfl, hH2⟩; clear hH; have hH := (hH2 _ (by (repeat constructor))).tail; clear hH2; refine ⟨STT, ?_⟩; intro a hA))) )
            exact ⟨ks, blk_of hks, hH, (hA.sub (by (repeat (first | exact trivial | refine ⟨rfl, ?_⟩))))⟩
          obtain ⟨y, hy⟩ : ∃ y, bl.ps.l[j]? = some y := ⟨_, List.getElem?_eq_getElem hlt⟩
          have hyv : (flat Fw.encI bl.ps.l)[j * 1]? = some (.int .i64 y) := flat_get (off := 0) Fw.encI_len hy rfl
          repeat' (first | (first | (refine GT ?_ ?_ <;> intro hg <;> clear hA a <;> intro a hA <;> (first | exact FA | replace hg := of_decide_eq_true hg | replace hg := of_decide_eq_false hg | skip)) | ((first | apply st_ex hA hH rfl rfl (by decide) | apply dr_ex hA rfl rfl rfl (by decide) | apply dr_exp hA rfl rfl rfl (by decide) | apply dr_ex3 hA hH rfl rfl rfl (by decide)); (first | (apply ex_load; rfl; exact cl_rd hbR.1.1 id hyv)); clear hA a; intro a hA) | (refine QT ?_; clear hA a; intro a hA) | (first | (refine BT ?_; clear hA hH; rintro _ w ⟨bN, rfl, hH⟩ a hA) | (refine LT ?_; clear hA hH; rintro _ w ⟨oN, rfl, hH⟩ a hA) | (refine AT ?_; clear hA; rintro _ w ⟨oN, cN, rfl, hH2⟩ a hA; clear hH; have hH := (hH2 _ (by (repeat constructor))).tail; clear hH2) | (refine S0T ?_; clear hH; rintro _ w hH) | (first | (apply st_op0 hA rfl rfl; apply op_delK; rfl; rfl; exact hH; (repeat constructor); clear hH; rintro _ w ⟨_, hH⟩) | (apply st_op hA rfl rfl (by decide); apply op_delK; rfl; rfl; exact hH; (repeat constructor); clear hA hH; rintro _ w ⟨rfl, hH⟩ a hA)))) | ((first | refine CT ?_ | (refine DT ?_ ?_ <;> intro hc <;> try (exfalso; omega))) <;> repeat' refine CT ?_) | (first | (refine DSK ?_; clear hA a; intro a hA) | (first | (refine DLT ?_; clear hA hH; rintro _ w ⟨oN, rfl, hH⟩; refine ⟨STT, ?_⟩; intro a hA) | (refine DAT ?_; clear hA; rintro _ w ⟨oN, cN, rfl, hH2⟩; clear hH; have hH := (hH2 _ (by (repeat constructor))).tail; clear hH2; refine ⟨STT, ?_⟩; intro a hA))) )
          exact ⟨j + 1, ⟨_, ⟨hlt, del_next hy hks⟩, hH, (hA.sub (by (repeat (first | exact trivial | refine ⟨rfl, ?_⟩))))⟩, by omega⟩
        clear hA hH1 hks1 hks ks ks1
        rintro a w ⟨ks, hks, hH, hA⟩
        obtain ⟨s, hs⟩ : ∃ s, ss[i]? = some s := ⟨_, List.getElem?_eq_getElem (by omega)⟩
        have hsa : setAt ss i = kso s := by unfold setAt; rw [hs]; rfl
        rcases s with _ | p
        · have hv : (flat encO ss)[i * 1]? = some (.map none) := flat_get (off := 0) encO_len hs rfl
          have hsm : (ss.map sko)[i]? = some (all []) := by rw [List.getElem?_map, hs]; rfl
          repeat' (first | (first | (refine GT ?_ ?_ <;> intro hg <;> clear hA a <;> intro a hA <;> (first | exact FA | replace hg := of_decide_eq_true hg | replace hg := of_decide_eq_false hg | skip)) | (refine QT ?_; clear hA a; intro a hA) | (first | (refine BT ?_; clear hA hH; rintro _ w ⟨bN, rfl, hH⟩ a hA) | (refine LT ?_; clear hA hH; rintro _ w ⟨oN, rfl, hH⟩ a hA) | (refine AT ?_; clear hA; rintro _ w ⟨oN, cN, rfl, hH2⟩ a hA; clear hH; have hH := (hH2 _ (by (repeat constructor))).tail; clear hH2) | (refine S0T ?_; clear hH; rintro _ w hH) )) | ((first | refine CT ?_ | (refine DT ?_ ?_ <;> intro hc <;> try (exfalso; omega))) <;> repeat' refine CT ?_) | (first | (refine DSK ?_; clear hA a; intro a hA) | (first | (refine DLT ?_; clear hA hH; rintro _ w ⟨oN, rfl, hH⟩; refine ⟨STT, ?_⟩; intro a hA) | (refine DAT ?_; clear hA; rintro _ w ⟨oN, cN, rfl, hH2⟩; clear hH; have hH := (hH2 _ (by (repeat constructor))).tail; clear hH2; refine ⟨STT, ?_⟩; intro a hA))) )
          (refine wp_draw_HS [(0, 1), (1, 1), (2, 1), (3, 1), (4, 1), (5, 1), (6, 1), (7, 1)] mixed (by decide +kernel) hH ?_; replace hH := hH.drew)
          repeat' (first | (first | (refine GT ?_ ?_ <;> intro hg <;> clear hA a <;> intro a hA <;> (first | exact FA | replace hg := of_decide_eq_true hg | replace hg := of_decide_eq_false hg | skip)) | ((first | apply st_ex hA hH rfl rfl (by decide) | apply dr_ex hA rfl rfl rfl (by decide) | apply dr_exp hA rfl rfl rfl (by decide) | apply dr_ex3 hA hH rfl rfl rfl (by decide)); (first | (apply ex_lenK; rfl; exact MEMT) | (apply ex_lenK0; rfl) | (apply ex_indexAddr_nat; rfl; rfl; omega; exact hH.own_sp (T := 72) (by exact MEMT)) | (apply ex_load; rfl; apply cl_own (T := 72); exact MEMT; exact hv)); clear hA a; intro a hA) | (refine QT ?_; clear hA a; intro a hA) | (first | (refine BT ?_; clear hA hH; rintro _ w ⟨bN, rfl, hH⟩ a hA) | (refine LT ?_; clear hA hH; rintro _ w ⟨oN, rfl, hH⟩ a hA) | (refine AT ?_; clear hA; rintro _ w ⟨oN, cN, rfl, hH2⟩ a hA; clear hH; have hH := (hH2 _ (by (repeat constructor))).tail; clear hH2) | (refine S0T ?_; clear hH; rintro _ w hH) | (apply st_op0 hA rfl rfl; apply op_set1 (enc := encO) (y0 := some (b, ks)); rfl; rfl; rfl; rfl; exact encO_len; exact hH; (repeat constructor); omega; clear hH; rintro _ w hH))) | ((first | refine CT ?_ | (refine DT ?_ ?_ <;> intro hc <;> try (exfalso; omega))) <;> repeat' refine CT ?_) | (first | (refine DSK ?_; clear hA a; intro a hA) | (first | (refine DLT ?_; clear hA hH; rintro _ w ⟨oN, rfl, hH⟩; refine ⟨STT, ?_⟩; intro a hA) | (refine DAT ?_; clear hA; rintro _ w ⟨oN, cN, rfl, hH2⟩; clear hH; have hH := (hH2 _ (by (repeat constructor))).tail; clear hH2; refine ⟨STT, ?_⟩; intro a hA))) )
          · have hnk := hH.sk_nodup (b := b) (.head _)
            have hp := pass_set (b := b) (c := true) hU hbl hsl hks hge hlt0 (pass_no hbl hks hm1 hnk (by rw [hsa]; exact List.nodup_nil) (by rw [hsa]; show 0 < _; omega))
            rw [Nat.mul_one] at hH
            refine ⟨i, ⟨true, ss.set i (some (b, ks)), D :: L, hp, ?_, ?_⟩, by omega⟩
            · rw [List.length_set]
              exact into_set ((hH.up 4 rfl).openAt hsm).tail (by omega)
            · rw [List.length_set]
              exact (hA.sub (by (repeat (first | exact trivial | refine ⟨rfl, ?_⟩))))
          · have hp := pass_keep (c := c) hbl hsl hks hge hlt0 hm1 (by rw [hsa]; show _ ≤ 0; omega)
            exact ⟨i, ⟨c, ss, D :: L, hp, ((hH.tail).rm 1).rm 3, (hA.sub (by (repeat (first | exact trivial | refine ⟨rfl, ?_⟩))))⟩, by omega⟩
        · have hv : (flat encO ss)[i * 1]? = some (.map (some p.1)) := flat_get (off := 0) encO_len hs rfl
          have hsm : (ss.map sko)[i]? = some (sk p.1 p.2) := by rw [List.getElem?_map, hs]; rfl
          replace hH := (hH.up 4 rfl).openAt hsm
          dsimp only [List.eraseIdx_cons_succ, List.eraseIdx_cons_zero] at hH
          have hnk := hH.sk_nodup (b := b) (ks := ks) (.tail _ (.tail _ (.head _)))
          have hnp := hH.sk_nodup (b := p.1) (.head _)
          repeat' (first | (first | (refine GT ?_ ?_ <;> intro hg <;> clear hA a <;> intro a hA <;> (first | exact FA | replace hg := of_decide_eq_true hg | replace hg := of_decide_eq_false hg | skip)) | (refine QT ?_; clear hA a; intro a hA) | (first | (refine BT ?_; clear hA hH; rintro _ w ⟨bN, rfl, hH⟩ a hA) | (refine LT ?_; clear hA hH; rintro _ w ⟨oN, rfl, hH⟩ a hA) | (refine AT ?_; clear hA; rintro _ w ⟨oN, cN, rfl, hH2⟩ a hA; clear hH; have hH := (hH2 _ (by (repeat constructor))).tail; clear hH2) | (refine S0T ?_; clear hH; rintro _ w hH) )) | ((first | refine CT ?_ | (refine DT ?_ ?_ <;> intro hc <;> try (exfalso; omega))) <;> repeat' refine CT ?_) | (first | (refine DSK ?_; clear hA a; intro a hA) | (first | (refine DLT ?_; clear hA hH; rintro _ w ⟨oN, rfl, hH⟩; refine ⟨STT, ?_⟩; intro a hA) | (refine DAT ?_; clear hA; rintro _ w ⟨oN, cN, rfl, hH2⟩; clear hH; have hH := (hH2 _ (by (repeat constructor))).tail; clear hH2; refine ⟨STT, ?_⟩; intro a hA))) )
          (refine wp_draw_HS [(0, 1), (1, 1), (2, 1), (3, 1), (4, 1), (5, 1), (6, 1), (7, 1)] mixed (by decide +kernel) hH ?_; replace hH := hH.drew)
          repeat' (first | (first | (refine GT ?_ ?_ <;> intro hg <;> clear hA a <;> intro a hA <;> (first | exact FA | replace hg := of_decide_eq_true hg | replace hg := of_decide_eq_false hg | skip)) | ((first | apply st_ex hA hH rfl rfl (by decide) | apply dr_ex hA rfl rfl rfl (by decide) | apply dr_exp hA rfl rfl rfl (by decide) | apply dr_ex3 hA hH rfl rfl rfl (by decide)); (first | (apply ex_lenK; rfl; exact MEMT) | (apply ex_indexAddr_nat; rfl; rfl; omega; exact hH.own_sp (T := 72) (by exact MEMT)) | (apply ex_load; rfl; apply cl_own (T := 72); exact MEMT; exact hv)); clear hA a; intro a hA) | (refine QT ?_; clear hA a; intro a hA) | (first | (refine BT ?_; clear hA hH; rintro _ w ⟨bN, rfl, hH⟩ a hA) | (refine LT ?_; clear hA hH; rintro _ w ⟨oN, rfl, hH⟩ a hA) | (refine AT ?_; clear hA; rintro _ w ⟨oN, cN, rfl, hH2⟩ a hA; clear hH; have hH := (hH2 _ (by (repeat constructor))).tail; clear hH2) | (refine S0T ?_; clear hH; rintro _ w hH) | (apply st_op0 hA rfl rfl; apply op_set1 (enc := encO) (y0 := some (b, ks)); rfl; rfl; rfl; rfl; exact encO_len; exact hH; (repeat constructor); omega; clear hH; rintro _ w hH))) | ((first | refine CT ?_ | (refine DT ?_ ?_ <;> intro hc <;> try (exfalso; omega))) <;> repeat' refine CT ?_) | (first | (refine DSK ?_; clear hA a; intro a hA) | (first | (refine DLT ?_; clear hA hH; rintro _ w ⟨oN, rfl, hH⟩; refine ⟨STT, ?_⟩; intro a hA) | (refine DAT ?_; clear hA; rintro _ w ⟨oN, cN, rfl, hH2⟩; clear hH; have hH := (hH2 _ (by (repeat constructor))).tail; clear hH2; refine ⟨STT, ?_⟩; intro a hA))) )
          · have hgt : p.2.length < ks.length := by omega
            have hp := pass_set (b := b) (c := true) hU hbl hsl hks hge hlt0 (pass_no hbl hks hm1 hnk (by rw [hsa]; exact hnp) (by rw [hsa]; exact hgt))
            rw [Nat.mul_one] at hH
            refine ⟨i, ⟨true, ss.set i (some (b, ks)), D :: L, hp, ?_, ?_⟩, by omega⟩
            · rw [List.length_set]
              exact into_set hH.tail (by omega)
            · rw [List.length_set]
              exact (hA.sub (by (repeat (first | exact trivial | refine ⟨rfl, ?_⟩))))
          · have hle : ks.length ≤ p.2.length := by omega
            have hp := pass_keep (c := c) hbl hsl hks hge hlt0 hm1 (by rw [hsa]; exact hle)
            replace hH := hH.shutAt (x := sk p.1 p.2) (by rw [List.length_map]; omega)
            rw [set_same hsm] at hH
            exact ⟨i, ⟨c, ss, D :: L, hp, (((hH.rm 1).rm 2).rm 3).perm (by (repeat (first | exact List.Perm.refl _ | exact List.Perm.nil | refine perm_pick 0 rfl ?_ | refine perm_pick 1 rfl ?_ | refine perm_pick 2 rfl ?_ | refine perm_pick 3 rfl ?_ | refine perm_pick 4 rfl ?_ | refine perm_pick 5 rfl ?_ | refine perm_pick 6 rfl ?_ | refine perm_pick 7 rfl ?_ | refine perm_pick 8 rfl ?_ | refine perm_pick 9 rfl ?_ | refine perm_pick 10 rfl ?_ | refine perm_pick 11 rfl ?_))), (hA.sub (by (repeat (first | exact trivial | refine ⟨rfl, ?_⟩))))⟩, by omega⟩
    clear hA hH
    rintro a w ⟨c, ss, L, ⟨hsl, hfix, hc⟩, hH, hA⟩
    repeat' (first | (first | (refine GT ?_ ?_ <;> intro hg <;> clear hA a <;> intro a hA <;> (first | exact FA | replace hg := of_decide_eq_true hg | replace hg := of_decide_eq_false hg | skip)) | (refine QT ?_; clear hA a; intro a hA) | (first | (refine BT ?_; clear hA hH; rintro _ w ⟨bN, rfl, hH⟩ a hA) | (refine LT ?_; clear hA hH; rintro _ w ⟨oN, rfl, hH⟩ a hA) | (refine AT ?_; clear hA; rintro _ w ⟨oN, cN, rfl, hH2⟩ a hA; clear hH; have hH := (hH2 _ (by (repeat constructor))).tail; clear hH2) | (refine S0T ?_; clear hH; rintro _ w hH) )) | ((first | refine CT ?_ | (refine DT ?_ ?_ <;> intro hc <;> try (exfalso; omega))) <;> repeat' refine CT ?_) | (first | (refine DSK ?_; clear hA a; intro a hA) | (first | (refine DLT ?_; clear hA hH; rintro _ w ⟨oN, rfl, hH⟩; refine ⟨STT, ?_⟩; intro a hA) | (refine DAT ?_; clear hA; rintro _ w ⟨oN, cN, rfl, hH2⟩; clear hH; have hH := (hH2 _ (by (repeat constructor))).tail; clear hH2; refine ⟨STT, ?_⟩; intro a hA))) )
    refine ⟨k + 1, ⟨c, ss, L, ⟨by omega, hsl, fun h => by omega, fun _ => hfix, fun h => hc (by omega)⟩, hH, (hA.sub (by (repeat (first | exact trivial | refine ⟨rfl, ?_⟩))))⟩, by omega⟩
  clear hA1 hH1
  rintro a w ⟨ss, L, ⟨hsl, hfix⟩, hH, hA⟩
  repeat' (first | (first | (refine GT ?_ ?_ <;> intro hg <;> clear hA a <;> intro a hA <;> (first | exact FA | replace hg := of_decide_eq_true hg | replace hg := of_decide_eq_false hg | skip)) | (refine QT ?_; clear hA a; intro a hA) | (first | (refine BT ?_; clear hA hH; rintro _ w ⟨bN, rfl, hH⟩ a hA) | (refine LT ?_; clear hA hH; rintro _ w ⟨oN, rfl, hH⟩ a hA) | (refine AT ?_; clear hA; rintro _ w ⟨oN, cN, rfl, hH2⟩ a hA; clear hH; have hH := (hH2 _ (by (repeat constructor))).tail; clear hH2) | (refine S0T ?_; clear hH; rintro _ w hH) )) | ((first | refine CT ?_ | (refine DT ?_ ?_ <;> intro hc <;> try (exfalso; omega))) <;> repeat' refine CT ?_) | (first | (refine DSK ?_; clear hA a; intro a hA) | (first | (refine DLT ?_; clear hA hH; rintro _ w ⟨oN, rfl, hH⟩; refine ⟨STT, ?_⟩; intro a hA) | (refine DAT ?_; clear hA; rintro _ w ⟨oN, cN, rfl, hH2⟩; clear hH; have hH := (hH2 _ (by (repeat constructor))).tail; clear hH2; refine ⟨STT, ?_⟩; intro a hA))) )
  refine rt1M (.inl rfl) rfl hA rfl hH fun w hH => ⟨oI, cI, ss, rfl, hsl, hfix, hH.rm 2⟩
end Go.Proofs.Ytjfanjcoppeeaaa
namespace Go.Proofs.Ytjfanjcoppeeaaa
open Go Go.Fw
set_option linter.unusedVariables false
theorem mem_srt {l : List Int} {x : Int} : x ∈ srt l ↔ x ∈ l := List.mem_mergeSort
theorem srt_len (l : List Int) : (srt l).length = l.length := List.length_mergeSort l
theorem srt_perm (l : List Int) : (srt l).Perm l := List.mergeSort_perm ..
theorem srt_sorted (l : List Int) : (srt l).Pairwise (· ≤ ·) := by
  have := List.pairwise_mergeSort (le := fun x y : Int => decide (x ≤ y)) (fun a b c h1 h2 => by simp at *; omega) (fun a b => by simp; omega) l
  exact this.imp fun h => of_decide_eq_true h
theorem flatI_snoc (l : List Int) (x : Int) : flat Fw.encI l ++ [.int .i64 x] = flat Fw.encI (l ++ [x]) := by rw [flat_snoc]; rfl
theorem flatI_nil : flat Fw.encI [] = [] := rfl
theorem fst_inj : ∀ {el : List (Int × Nat)}, (el.map (·.1)).Nodup → ∀ e ∈ el, ∀ e' ∈ el, e.1 = e'.1 → e = e'
  | x :: el, hn, e, he, e', he', h => by
    rw [List.map_cons, List.nodup_cons] at hn
    rcases List.mem_cons.1 he with rfl | h5 <;> rcases List.mem_cons.1 he' with rfl | h6
    · rfl
    · exact absurd (List.mem_map.2 ⟨e', h6, h.symm⟩ : e.1 ∈ el.map (·.1)) hn.1
    · exact absurd (List.mem_map.2 ⟨e, h5, h⟩ : e'.1 ∈ el.map (·.1)) hn.1
    · exact fst_inj hn.2 e h5 e' h6 h
theorem dn_nodup {el dn : List (Int × Nat)} (hk : (el.map (·.1)).Nodup) (hn : dn.Nodup) (hd : ∀ e ∈ dn, e ∈ el) : (dn.map (·.1)).Nodup := by
  unfold List.Nodup
  rw [List.pairwise_map]
  exact hn.imp_of_mem fun {a b} ha hb hne h => hne (fst_inj hk a (hd a ha) b (hd b hb) h)
theorem dn_mem {el dn : List (Int × Nat)} {ks : List Int} (hel : el.map (·.1) = ks) (hd : ∀ e ∈ dn, e ∈ el) (hall : ∀ e ∈ el, e ∈ dn) (x : Int) : x ∈ dn.map (·.1) ↔ x ∈ ks := by
  have := dn_all (ks := []) (ks' := dn.map (·.1)) hel hd hall (fun x => by simp) x
  simpa using this
set_option maxRecDepth 10000 attribute [local irreducible] Code.wp wpList Calls Ex Op1 sat bat blk cb own Go.Fw.mp Go.Fw.mpO Go.Fw.mpI Go.Fw.mpE Go.Fw.itr HS Rd Ret wkD Hp Cl Cls Exit.then Exit.inBlock Exit.noGoto bodyPost Go.Fw.flat wk2 Go.Fw.all Go.Fw.owns wpOp
attribute [local irreducible] sk mpK srt

end Go.Proofs.Ytjfanjcoppeeaaa
namespace Go.Proofs.Ytjfanjcoppeeaaa
open Go Go.Fw
set_option linter.unusedVariables false
def bvars (b : Blc) : List Int := b.ps.l ++ b.is.l.map Ins.x
def varsL (bs : List Blc) : List Int := [0, 1] ++ bs.flatMap bvars
theorem varsL_next {bs : List Blc} {i : Nat} {b : Blc} (h : bs[i]? = some b) : varsL (bs.take (i + 1)) = varsL (bs.take i) ++ b.ps.l ++ b.is.l.map Ins.x := by
  unfold varsL
  rw [take_snoc h, List.flatMap_append, List.append_assoc, List.append_assoc]
  simp [bvars]
theorem varsL_le (bs : List Blc) (i : Nat) : (varsL (bs.take i)).length ≤ (varsL bs).length := by
  have : varsL bs = varsL (bs.take i) ++ (bs.drop i).flatMap bvars := by
    unfold varsL
    rw [List.append_assoc, ← List.flatMap_append, List.take_append_drop]
  rw [this, List.length_append]
  omega
theorem flatI_app (a b : List Int) : flat Fw.encI a ++ flat Fw.encI b = flat Fw.encI (a ++ b) := (flat_append _ a b).symm
theorem map_x_next {l : List Ins} {j : Nat} {x : Ins} (h : l[j]? = some x) : (l.take (j + 1)).map Ins.x = (l.take j).map Ins.x ++ [x.x] := by rw [take_snoc h, List.map_append]; rfl
theorem varsL_0 (bs : List Blc) : flat Fw.encI (varsL (bs.take 0)) = [.int .i64 0, .int .i64 1] := by rw [List.take_zero]; rfl
theorem varsL_0l (bs : List Blc) : (varsL (bs.take 0)).length = 2 := by rw [List.take_zero]; rfl
set_option maxRecDepth 10000 attribute [local irreducible] Code.wp wpList Calls Ex Op1 sat bat blk cb own Go.Fw.mp Go.Fw.mpO Go.Fw.mpI Go.Fw.mpE Go.Fw.itr HS Rd Ret wkD Hp Cl Cls Exit.then Exit.inBlock Exit.noGoto bodyPost Go.Fw.flat wk2 Go.Fw.all Go.Fw.owns wpOp
attribute [local irreducible] sk mpK srt varsL

set_option maxHeartbeats 4000000 in
theorem variables_spec (w0 w : World) (H : List It) (f : Gr) (hH : HS w0 noM H w) (hR : RdG w0 f) (hb : (varsL f.bs.l).length ≤ 1000000) :
    Ret Try.prog 21 #[.agg (encG f).toArray] w (fun r w' => ∃ o c, r = .slice o (srt (varsL f.bs.l)).length c ∧ HS w0 noM (own 3 1 o (srt (varsL f.bs.l)).length c (flat Fw.encI (srt (varsL f.bs.l))) :: H) w') := by
  have hle := hR.1.le
  have hsp : Sp f.bs.o f.bs.l.length := hR.1.1.sp (sz := 6) (flat_length encBl_len _) (by omega)
  (refine enter (N := 37) Try.func21 rfl Try.ntmps21 rfl ?_; intro a hA; dsimp only [sl0, Nat.reduceAdd] at hA)
  repeat' (first | (first | (refine GT ?_ ?_ <;> intro hg <;> clear hA a <;> intro a hA <;> (first | exact FA | replace hg := of_decide_eq_true hg | replace hg := of_decide_eq_false hg | skip)) | (refine QT ?_; clear hA a; intro a hA) | (first | (refine BT ?_; clear hA hH; rintro _ w ⟨bN, rfl, hH⟩ a hA) | (refine LT ?_; clear hA hH; rintro _ w ⟨oN, rfl, hH⟩ a hA) | (refine AT ?_; clear hA; rintro _ w ⟨oN, cN, rfl, hH2⟩ a hA; clear hH; have hH := (hH2 _ (by (repeat constructor))).tail; clear hH2) | (refine S0T ?_; clear hH; rintro _ w hH) )) | ((first | refine CT ?_ | (refine DT ?_ ?_ <;> intro hc <;> try (exfalso; omega))) <;> repeat' refine CT ?_) | (first | (refine DSK ?_; clear hA a; intro a hA) | (first | (refine DLT ?_; clear hA hH; rintro _ w ⟨oN, rfl, hH⟩; refine ⟨STT, ?_⟩; intro a hA) | (refine DAT ?_; clear hA; rintro _ w ⟨oN, cN, rfl, hH2⟩; clear hH; have hH := (hH2 _ (by (repeat constructor))).tail; clear hH2; refine ⟨STT, ?_⟩; intro a hA))) )
  refine wp_lpk (S := Nat) (fun i a w => ∃ o c, i ≤ f.bs.l.length ∧ HS w0 noM (own 3 1 o (varsL (f.bs.l.take i)).length c (flat Fw.encI (varsL (f.bs.l.take i))) :: H) w ∧ Sl 37 [(12, .int .i64 i), (11, .int .i64 f.bs.l.length), (10, .slice f.bs.o f.bs.l.length f.bs.c), (3, .slice o (varsL (f.bs.l.take i)).length c)] a) (fun i => f.bs.l.length - i)
    (fun a w => ∃ o c, HS w0 noM (own 3 1 o (varsL f.bs.l).length c (flat Fw.encI (varsL f.bs.l)) :: H) w ∧ Sl 37 [(3, .slice o (varsL f.bs.l).length c)] a) 0 ⟨oN, 2, Nat.zero_le _, (by rw [varsL_0, varsL_0l]; exact hH.rm 1), (by rw [varsL_0l]; exact (hA.sub (by (repeat (first | exact trivial | refine ⟨rfl, ?_⟩)))))⟩ ?_ ?_
  · clear hA hH
    rintro i a w ⟨o, c, hi, hH, hA⟩
    by_cases hlt : i < f.bs.l.length
    rotate_left
    · obtain rfl : i = f.bs.l.length := by omega
      rw [List.take_length] at hA hH
      repeat' (first | (first | (refine GT ?_ ?_ <;> intro hg <;> clear hA a <;> intro a hA <;> (first | exact FA | replace hg := of_decide_eq_true hg | replace hg := of_decide_eq_false hg | skip)) | (refine QT ?_; clear hA a; intro a hA) | (first | (refine BT ?_; clear hA hH; rintro _ w ⟨bN, rfl, hH⟩ a hA) | (refine LT ?_; clear hA hH; rintro _ w ⟨oN, rfl, hH⟩ a hA) | (refine AT ?_; clear hA; rintro _ w ⟨oN, cN, rfl, hH2⟩ a hA; clear hH; have hH := (hH2 _ (by (repeat constructor))).tail; clear hH2) | (refine S0T ?_; clear hH; rintro _ w hH) )) | ((first | refine CT ?_ | (refine DT ?_ ?_ <;> intro hc <;> try (exfalso; omega))) <;> repeat' refine CT ?_) | (first | (refine DSK ?_; clear hA a; intro a hA) | (first | (refine DLT ?_; clear hA hH; rintro _ w ⟨oN, rfl, hH⟩; refine ⟨STT, ?_⟩; intro a hA) | (refine DAT ?_; clear hA; rintro _ w ⟨oN, cN, rfl, hH2⟩; clear hH; have hH := (hH2 _ (by (repeat constructor))).tail; clear hH2; refine ⟨STT, ?_⟩; intro a hA))) )
      exact ⟨o, c, hH, (hA.sub (by (repeat (first | exact trivial | refine ⟨rfl, ?_⟩))))⟩
    obtain ⟨bl, hbl⟩ : ∃ bl, f.bs.l[i]? = some bl := ⟨_, List.getElem?_eq_getElem hlt⟩
    have hbR := hR.2 bl (List.mem_of_getElem? hbl)
    have hvs := flat_all encBl_len hbl
    have hsp2 : Sp bl.is.o bl.is.l.length := hbR.2.1.1.sp (sz := 5) (flat_length encIn_len _) (by have := hbR.2.1.le; omega)
    have hle2 := hbR.2.1.le
    have htot : (varsL (f.bs.l.take i)).length + bl.ps.l.length + bl.is.l.length ≤ 1000000 := by
      have h1 := varsL_le f.bs.l (i + 1)
      rw [varsL_next hbl, List.length_append, List.length_append, List.length_map] at h1
      omega
    repeat' (first | (first | (refine GT ?_ ?_ <;> intro hg <;> clear hA a <;> intro a hA <;> (first | exact FA | replace hg := of_decide_eq_true hg | replace hg := of_decide_eq_false hg | skip)) | ((first | apply st_ex hA hH rfl rfl (by decide) | apply dr_ex hA rfl rfl rfl (by decide) | apply dr_exp hA rfl rfl rfl (by decide) | apply dr_ex3 hA hH rfl rfl rfl (by decide)); (first | (apply ex_load_st (vs := encBl bl); rfl; rfl; exact cls_rd hR.1.1 id hvs)); clear hA a; intro a hA) | (refine QT ?_; clear hA a; intro a hA) | (first | (refine BT ?_; clear hA hH; rintro _ w ⟨bN, rfl, hH⟩ a hA) | (refine LT ?_; clear hA hH; rintro _ w ⟨oN, rfl, hH⟩ a hA) | (refine AT ?_; clear hA; rintro _ w ⟨oN, cN, rfl, hH2⟩ a hA; clear hH; have hH := (hH2 _ (by (repeat constructor))).tail; clear hH2) | (refine S0T ?_; clear hH; rintro _ w hH) | (apply st_op0 hA rfl rfl; apply op_store_agg (vs := encBl bl); rfl; rfl; exact hH; (repeat constructor); (repeat rfl); clear hH; rintro _ w hH) | (apply st_op hA rfl rfl (by decide); apply op_append; rfl; rfl; exact hH; exact MEMT; exact (hH.rd hbR.1.1 id); exact flat_length Fw.encI_len _; rfl; decide; exact flat_one_cell (fun _ => rfl) _; (unfold maxLen; omega); omega; clear hA; rintro _ w ⟨oN, cN, rfl, hH2⟩ a hA; clear hH; have hH := hH2 _ (by (repeat constructor)); clear hH2))) | ((first | refine CT ?_ | (refine DT ?_ ?_ <;> intro hc <;> try (exfalso; omega))) <;> repeat' refine CT ?_) | (first | (refine DSK ?_; clear hA a; intro a hA) | (first | (refine DLT ?_; clear hA hH; rintro _ w ⟨oN, rfl, hH⟩; refine ⟨STT, ?_⟩; intro a hA) | (refine DAT ?_; clear hA; rintro _ w ⟨oN, cN, rfl, hH2⟩; clear hH; have hH := (hH2 _ (by (repeat constructor))).tail; clear hH2; refine ⟨STT, ?_⟩; intro a hA))) )
    obtain ⟨bB, hbB⟩ : ∃ x, x = bN := ⟨_, rfl⟩
    rw [← hbB] at hA hH
    rw [flatI_app] at hH
    clear hbB bN
    obtain ⟨q, hq⟩ : ∃ q, q = varsL (f.bs.l.take i) ++ bl.ps.l := ⟨_, rfl⟩
    have hql : q.length = (varsL (f.bs.l.take i)).length + bl.ps.l.length := by rw [hq, List.length_append]
    rw [← hq, ← hql] at hH
    rw [← hql] at hA
    have hq0 : q ++ (bl.is.l.take 0).map Ins.x = q := by rw [List.take_zero, List.map_nil, List.append_nil]
    refine wp_lpk (S := Nat) (fun j a w => ∃ o c, j ≤ bl.is.l.length ∧ HS w0 noM (cb bB 52 (encBl bl) :: own 3 1 o (q ++ (bl.is.l.take j).map Ins.x).length c (flat Fw.encI (q ++ (bl.is.l.take j).map Ins.x)) :: H) w ∧ Sl 37 [(23, .int .i64 j), (22, .int .i64 bl.is.l.length), (21, .slice bl.is.o bl.is.l.length bl.is.c), (12, .int .i64 i), (11, .int .i64 f.bs.l.length), (10, .slice f.bs.o f.bs.l.length f.bs.c), (3, .slice o (q ++ (bl.is.l.take j).map Ins.x).length c)] a) (fun j => bl.is.l.length - j)
      (fun a w => ∃ o c, HS w0 noM (own 3 1 o (varsL (f.bs.l.take (i + 1))).length c (flat Fw.encI (varsL (f.bs.l.take (i + 1)))) :: H) w ∧ Sl 37 [(12, .int .i64 i), (11, .int .i64 f.bs.l.length), (10, .slice f.bs.o f.bs.l.length f.bs.c), (3, .slice o (varsL (f.bs.l.take (i + 1))).length c)] a) 0 ⟨oN, cN, Nat.zero_le _, (by rw [hq0]; exact hH), (by rw [hq0]; exact (hA.sub (by (repeat (first | exact trivial | refine ⟨rfl, ?_⟩)))))⟩ ?_ ?_
    · clear hA hH
      rintro j a w ⟨o, c, hj, hH, hA⟩
      by_cases hlj : j < bl.is.l.length
      rotate_left
      · obtain rfl : j = bl.is.l.length := by omega
        rw [List.take_length, hq, ← varsL_next hbl] at hA hH
        repeat' (first | (first | (refine GT ?_ ?_ <;> intro hg <;> clear hA a <;> intro a hA <;> (first | exact FA | replace hg := of_decide_eq_true hg | replace hg := of_decide_eq_false hg | skip)) | (refine QT ?_; clear hA a; intro a hA) | (first | (refine BT ?_; clear hA hH; rintro _ w ⟨bN, rfl, hH⟩ a hA) | (refine LT ?_; clear hA hH; rintro _ w ⟨oN, rfl, hH⟩ a hA) | (refine AT ?_; clear hA; rintro _ w ⟨oN, cN, rfl, hH2⟩ a hA; clear hH; have hH := (hH2 _ (by (repeat constructor))).tail; clear hH2) | (refine S0T ?_; clear hH; rintro _ w hH) )) | ((first | refine CT ?_ | (refine DT ?_ ?_ <;> intro hc <;> try (exfalso; omega))) <;> repeat' refine CT ?_) | (first | (refine DSK ?_; clear hA a; intro a hA) | (first | (refine DLT ?_; clear hA hH; rintro _ w ⟨oN, rfl, hH⟩; refine ⟨STT, ?_⟩; intro a hA) | (refine DAT ?_; clear hA; rintro _ w ⟨oN, cN, rfl, hH2⟩; clear hH; have hH := (hH2 _ (by (repeat constructor))).tail; clear hH2; refine ⟨STT, ?_⟩; intro a hA))) )
        exact ⟨o, c, hH.tail, (hA.sub (by (repeat (first | exact trivial | refine ⟨rfl, ?_⟩))))⟩
      obtain ⟨x, hx⟩ : ∃ x, bl.is.l[j]? = some x := ⟨_, List.getElem?_eq_getElem hlj⟩
      have hvx := flat_all encIn_len hx
      have hql2 : (q ++ (bl.is.l.take j).map Ins.x).length + 1 ≤ 1000000 := by
        rw [List.length_append, List.length_map, List.length_take]
        omega
      have hnx : q ++ (bl.is.l.take (j + 1)).map Ins.x = q ++ (bl.is.l.take j).map Ins.x ++ [x.x] := by rw [map_x_next hx, List.append_assoc]
      have hnl : (q ++ (bl.is.l.take (j + 1)).map Ins.x).length = (q ++ (bl.is.l.take j).map Ins.x).length + 1 := by rw [hnx, List.length_append (bs := [x.x])]; rfl
      repeat' (first | (first | (refine GT ?_ ?_ <;> intro hg <;> clear hA a <;> intro a hA <;> (first | exact FA | replace hg := of_decide_eq_true hg | replace hg := of_decide_eq_false hg | skip)) | ((first | apply st_ex hA hH rfl rfl (by decide) | apply dr_ex hA rfl rfl rfl (by decide) | apply dr_exp hA rfl rfl rfl (by decide) | apply dr_ex3 hA hH rfl rfl rfl (by decide)); (first | (apply ex_load_st (vs := encIn x); rfl; rfl; exact cls_rd hbR.2.1.1 id hvx)); clear hA a; intro a hA) | (refine QT ?_; clear hA a; intro a hA) | (first | (refine BT ?_; clear hA hH; rintro _ w ⟨bN, rfl, hH⟩ a hA) | (refine LT ?_; clear hA hH; rintro _ w ⟨oN, rfl, hH⟩ a hA) | (refine AT ?_; clear hA; rintro _ w ⟨oN, cN, rfl, hH2⟩ a hA; clear hH; have hH := (hH2 _ (by (repeat constructor))).tail; clear hH2) | (refine S0T ?_; clear hH; rintro _ w hH) | (apply st_op0 hA rfl rfl; apply op_store_agg (vs := encIn x); rfl; rfl; exact hH; (repeat constructor); (repeat rfl); clear hH; rintro _ w hH))) | ((first | refine CT ?_ | (refine DT ?_ ?_ <;> intro hc <;> try (exfalso; omega))) <;> repeat' refine CT ?_) | (first | (refine DSK ?_; clear hA a; intro a hA) | (first | (refine DLT ?_; clear hA hH; rintro _ w ⟨oN, rfl, hH⟩; refine ⟨STT, ?_⟩; intro a hA) | (refine DAT ?_; clear hA; rintro _ w ⟨oN, cN, rfl, hH2⟩; clear hH; have hH := (hH2 _ (by (repeat constructor))).tail; clear hH2; refine ⟨STT, ?_⟩; intro a hA))) )
      refine ⟨j + 1, ⟨oN, cN, hlj, ?_, ?_⟩, by omega⟩
      · rw [hnl, hnx, ← flatI_snoc]
        exact (hH.rm 0).perm (by (repeat (first | exact List.Perm.refl _ | exact List.Perm.nil | refine perm_pick 0 rfl ?_ | refine perm_pick 1 rfl ?_ | refine perm_pick 2 rfl ?_ | refine perm_pick 3 rfl ?_ | refine perm_pick 4 rfl ?_ | refine perm_pick 5 rfl ?_ | refine perm_pick 6 rfl ?_ | refine perm_pick 7 rfl ?_ | refine perm_pick 8 rfl ?_ | refine perm_pick 9 rfl ?_ | refine perm_pick 10 rfl ?_ | refine perm_pick 11 rfl ?_)))
      · rw [hnl]
        exact (hA.sub (by (repeat (first | exact trivial | refine ⟨rfl, ?_⟩))))
    clear hA hH
    rintro a w ⟨o, c, hH, hA⟩
    repeat' (first | (first | (refine GT ?_ ?_ <;> intro hg <;> clear hA a <;> intro a hA <;> (first | exact FA | replace hg := of_decide_eq_true hg | replace hg := of_decide_eq_false hg | skip)) | (refine QT ?_; clear hA a; intro a hA) | (first | (refine BT ?_; clear hA hH; rintro _ w ⟨bN, rfl, hH⟩ a hA) | (refine LT ?_; clear hA hH; rintro _ w ⟨oN, rfl, hH⟩ a hA) | (refine AT ?_; clear hA; rintro _ w ⟨oN, cN, rfl, hH2⟩ a hA; clear hH; have hH := (hH2 _ (by (repeat constructor))).tail; clear hH2) | (refine S0T ?_; clear hH; rintro _ w hH) )) | ((first | refine CT ?_ | (refine DT ?_ ?_ <;> intro hc <;> try (exfalso; omega))) <;> repeat' refine CT ?_) | (first | (refine DSK ?_; clear hA a; intro a hA) | (first | (refine DLT ?_; clear hA hH; rintro _ w ⟨oN, rfl, hH⟩; refine ⟨STT, ?_⟩; intro a hA) | (refine DAT ?_; clear hA; rintro _ w ⟨oN, cN, rfl, hH2⟩; clear hH; have hH := (hH2 _ (by (repeat constructor))).tail; clear hH2; refine ⟨STT, ?_⟩; intro a hA))) )
    exact ⟨i + 1, ⟨o, c, hlt, hH, (hA.sub (by (repeat (first | exact trivial | refine ⟨rfl, ?_⟩))))⟩, by omega⟩
  clear hA hH
  rintro a w ⟨o, c, hH, hA⟩
  repeat' (first | (first | (refine GT ?_ ?_ <;> intro hg <;> clear hA a <;> intro a hA <;> (first | exact FA | replace hg := of_decide_eq_true hg | replace hg := of_decide_eq_false hg | skip)) | (refine QT ?_; clear hA a; intro a hA) | (first | (refine BT ?_; clear hA hH; rintro _ w ⟨bN, rfl, hH⟩ a hA) | (refine LT ?_; clear hA hH; rintro _ w ⟨oN, rfl, hH⟩ a hA) | (refine AT ?_; clear hA; rintro _ w ⟨oN, cN, rfl, hH2⟩ a hA; clear hH; have hH := (hH2 _ (by (repeat constructor))).tail; clear hH2) | (refine S0T ?_; clear hH; rintro _ w hH) )) | ((first | refine CT ?_ | (refine DT ?_ ?_ <;> intro hc <;> try (exfalso; omega))) <;> repeat' refine CT ?_) | (first | (refine DSK ?_; clear hA a; intro a hA) | (first | (refine DLT ?_; clear hA hH; rintro _ w ⟨oN, rfl, hH⟩; refine ⟨STT, ?_⟩; intro a hA) | (refine DAT ?_; clear hA; rintro _ w ⟨oN, cN, rfl, hH2⟩; clear hH; have hH := (hH2 _ (by (repeat constructor))).tail; clear hH2; refine ⟨STT, ?_⟩; intro a hA))) )
  (refine st_op hA rfl rfl (by decide) (op_call rfl rfl rfl (sort_spec w0 _ noM _ o c (varsL f.bs.l) hH (.head _) (by omega))) ?_; clear hA; rintro _ w ⟨rfl, hup⟩ a hA; clear hH; have hH := hup _ .here; clear hup)
  rw [← srt_len (varsL f.bs.l)] at hA hH
  repeat' (first | (first | (refine GT ?_ ?_ <;> intro hg <;> clear hA a <;> intro a hA <;> (first | exact FA | replace hg := of_decide_eq_true hg | replace hg := of_decide_eq_false hg | skip)) | (refine QT ?_; clear hA a; intro a hA) | (first | (refine BT ?_; clear hA hH; rintro _ w ⟨bN, rfl, hH⟩ a hA) | (refine LT ?_; clear hA hH; rintro _ w ⟨oN, rfl, hH⟩ a hA) | (refine AT ?_; clear hA; rintro _ w ⟨oN, cN, rfl, hH2⟩ a hA; clear hH; have hH := (hH2 _ (by (repeat constructor))).tail; clear hH2) | (refine S0T ?_; clear hH; rintro _ w hH) )) | ((first | refine CT ?_ | (refine DT ?_ ?_ <;> intro hc <;> try (exfalso; omega))) <;> repeat' refine CT ?_) | (first | (refine DSK ?_; clear hA a; intro a hA) | (first | (refine DLT ?_; clear hA hH; rintro _ w ⟨oN, rfl, hH⟩; refine ⟨STT, ?_⟩; intro a hA) | (refine DAT ?_; clear hA; rintro _ w ⟨oN, cN, rfl, hH2⟩; clear hH; have hH := (hH2 _ (by (repeat constructor))).tail; clear hH2; refine ⟨STT, ?_⟩; intro a hA))) )
  exact rt1 (.inl rfl) rfl hA rfl ⟨o, c, rfl, hH⟩
end Go.Proofs.Ytjfanjcoppeeaaa
namespace Go.Proofs.Ytjfanjcoppeeaaa
open Go Go.Fw
set_option linter.unusedVariables false
def regOf : List Rg → Int → Int
  | [], _ => -1
  | r :: l, x => if r.v = x then r.r else regOf l x
set_option maxRecDepth 10000 attribute [local irreducible] Code.wp wpList Calls Ex Op1 sat bat blk cb own Go.Fw.mp Go.Fw.mpO Go.Fw.mpI Go.Fw.mpE Go.Fw.itr HS Rd Ret wkD Hp Cl Cls Exit.then Exit.inBlock Exit.noGoto bodyPost Go.Fw.flat wk2 Go.Fw.all Go.Fw.owns wpOp
attribute [local irreducible] sk mpK srt varsL

end Go.Proofs.Ytjfanjcoppeeaaa
namespace Go.Proofs.Ytjfanjcoppeeaaa
open Go Go.Fw
set_option linter.unusedVariables false
theorem nd_next {f : Int → Int} {l : List Int} {i : Nat} {x : Int} (hx : l[i]? = some x) (h : ((l.take i).map f).Nodup) (hn : f x ∉ (l.take i).map f) : ((l.take (i + 1)).map f).Nodup := by
  rw [take_snoc hx, List.map_append]
  refine List.nodup_append.2 ⟨h, List.nodup_cons.2 ⟨List.not_mem_nil, List.nodup_nil⟩, fun a ha b hb e => ?_⟩
  rw [List.map_cons, List.map_nil, List.mem_singleton] at hb
  exact hn (by rw [← hb, ← e]; exact ha)
set_option maxRecDepth 10000 attribute [local irreducible] Code.wp wpList Calls Ex Op1 sat bat blk cb own Go.Fw.mp Go.Fw.mpO Go.Fw.mpI Go.Fw.mpE Go.Fw.itr HS Rd Ret wkD Hp Cl Cls Exit.then Exit.inBlock Exit.noGoto bodyPost Go.Fw.flat wk2 Go.Fw.all Go.Fw.owns wpOp
attribute [local irreducible] sk mpK srt varsL regOf

end Go.Proofs.Ytjfanjcoppeeaaa
namespace Go.Proofs.Ytjfanjcoppeeaaa
open Go Go.Fw
set_option linter.unusedVariables false
def insF : List Int → Int → List Int
  | [], x => [x]
  | y :: l, x => if x < y then x :: y :: l else y :: insF l x
theorem mem_insF {y : Int} : ∀ {l : List Int} {x : Int}, y ∈ insF l x ↔ y = x ∨ y ∈ l
  | [], x => by rw [insF]; simp
  | z :: l, x => by
    rw [insF]
    split
    · simp
    · rw [List.mem_cons, mem_insF, List.mem_cons]
      exact ⟨fun h => h.elim (fun h => .inr (.inl h)) fun h => h.elim .inl fun h => .inr (.inr h), fun h => h.elim (fun h => .inr (.inl h)) fun h => h.elim .inl fun h => .inr (.inr h)⟩
theorem lenS (l : List Int) (x : Int) : (l ++ [x]).length = l.length + 1 := by rw [List.length_append]; rfl
set_option maxRecDepth 10000 attribute [local irreducible] Code.wp wpList Calls Ex Op1 sat bat blk cb own Go.Fw.mp Go.Fw.mpO Go.Fw.mpI Go.Fw.mpE Go.Fw.itr HS Rd Ret wkD Hp Cl Cls Exit.then Exit.inBlock Exit.noGoto bodyPost Go.Fw.flat wk2 Go.Fw.all Go.Fw.owns wpOp
attribute [local irreducible] sk mpK srt varsL regOf insF

end Go.Proofs.Ytjfanjcoppeeaaa
namespace Go.Proofs.Ytjfanjcoppeeaaa
open Go Go.Fw
set_option linter.unusedVariables false
def insL (q : List Int) : List Int := q.foldl insF [0, 1]
def vpre (bs : List Blc) (i : Nat) : List Int := (bs.take i).flatMap bvars
set_option maxRecDepth 10000 attribute [local irreducible] Code.wp wpList Calls Ex Op1 sat bat blk cb own Go.Fw.mp Go.Fw.mpO Go.Fw.mpI Go.Fw.mpE Go.Fw.itr HS Rd Ret wkD Hp Cl Cls Exit.then Exit.inBlock Exit.noGoto bodyPost Go.Fw.flat wk2 Go.Fw.all Go.Fw.owns wpOp
attribute [local irreducible] sk mpK srt varsL regOf insF insL vpre

end Go.Proofs.Ytjfanjcoppeeaaa
namespace Go.Proofs.Ytjfanjcoppeeaaa
open Go Go.Fw
set_option linter.unusedVariables false
/-- does x live in a block ahead of its Ins of a number? -/
def LvAt (ss : List (Option (Nat × List Int))) (bl : Blc) (n : Nat) (x : Int) : Prop := insP (bl.is.l.drop n) (lastP bl.e ss) x
theorem lvAt_end {ss : List (Option (Nat × List Int))} {bl : Blc} {x : Int} : LvAt ss bl bl.is.l.length x ↔ lastP bl.e ss x := by
  unfold LvAt
  rw [List.drop_length]
  exact Iff.rfl
theorem lvAt_at {ss : List (Option (Nat × List Int))} {bl : Blc} {j : Nat} {i : Ins} {x : Int} (h : bl.is.l[j]? = some i) : LvAt ss bl j x ↔ insUse i x ∨ (LvAt ss bl (j + 1) x ∧ x ≠ i.x) := by
  unfold LvAt
  obtain ⟨hi, rfl⟩ := List.getElem?_eq_some_iff.1 h
  rw [List.drop_eq_getElem_cons hi]
  exact Iff.rfl
theorem blk_ps {bl : Blc} {ss : List (Option (Nat × List Int))} {x : Int} (h : blkP bl ss x) : x ∉ bl.ps.l := h.2
theorem blk_mk {bl : Blc} {ss : List (Option (Nat × List Int))} {x : Int} (h : LvAt ss bl 0 x) (hp : x ∉ bl.ps.l) : blkP bl ss x := ⟨h, hp⟩
theorem blk_lv {bl : Blc} {ss : List (Option (Nat × List Int))} {x : Int} (h : blkP bl ss x) : LvAt ss bl 0 x := h.1
set_option maxRecDepth 10000 attribute [local irreducible] Code.wp wpList Calls Ex Op1 sat bat blk cb own Go.Fw.mp Go.Fw.mpO Go.Fw.mpI Go.Fw.mpE Go.Fw.itr HS Rd Ret wkD Hp Cl Cls Exit.then Exit.inBlock Exit.noGoto bodyPost Go.Fw.flat wk2 Go.Fw.all Go.Fw.owns wpOp
attribute [local irreducible] sk mpK srt varsL regOf insF insL vpre insP uses

end Go.Proofs.Ytjfanjcoppeeaaa
namespace Go.Proofs.Ytjfanjcoppeeaaa
open Go Go.Fw
set_option linter.unusedVariables false
set_option maxRecDepth 10000 attribute [local irreducible] Code.wp wpList Calls Ex Op1 sat bat blk cb own Go.Fw.mp Go.Fw.mpO Go.Fw.mpI Go.Fw.mpE Go.Fw.itr HS Rd Ret wkD Hp Cl Cls Exit.then Exit.inBlock Exit.noGoto bodyPost Go.Fw.flat wk2 Go.Fw.all Go.Fw.owns wpOp
attribute [local irreducible] sk mpK srt varsL regOf insF insL vpre insP uses LvAt

end Go.Proofs.Ytjfanjcoppeeaaa
namespace Go.Proofs.Ytjfanjcoppeeaaa
open Go Go.Fw
set_option linter.unusedVariables false
/-- all variables, by the document -/
def vrs (f : Gr) : List Int := insL (vpre f.bs.l f.bs.l.length)
def intoF (f : Gr) (ss : List (Option (Nat × List Int))) (n : Nat) (l : List Int) : List Int := l.filter fun x => decide (x ∈ setAt ss n)
theorem nd_t {p : Prop} [Decidable p] (h : (!decide p) = true) : ¬ p := by simpa using h
theorem nd_f {p : Prop} [Decidable p] (h : (!decide p) = false) : p := by simpa using h
set_option maxRecDepth 10000 attribute [local irreducible] Code.wp wpList Calls Ex Op1 sat bat blk cb own Go.Fw.mp Go.Fw.mpO Go.Fw.mpI Go.Fw.mpE Go.Fw.itr HS Rd Ret wkD Hp Cl Cls Exit.then Exit.inBlock Exit.noGoto bodyPost Go.Fw.flat wk2 Go.Fw.all Go.Fw.owns wpOp
attribute [local irreducible] sk mpK srt varsL regOf insF insL vpre insP uses LvAt intoF vrs

end Go.Proofs.Ytjfanjcoppeeaaa
namespace Go.Proofs.Ytjfanjcoppeeaaa
open Go Go.Fw
set_option linter.unusedVariables false
/-- those that p tells of -/
def filF (p : Int → Bool) (l : List Int) : List Int := l.filter p
set_option maxRecDepth 10000 attribute [local irreducible] Code.wp wpList Calls Ex Op1 sat bat blk cb own Go.Fw.mp Go.Fw.mpO Go.Fw.mpI Go.Fw.mpE Go.Fw.itr HS Rd Ret wkD Hp Cl Cls Exit.then Exit.inBlock Exit.noGoto bodyPost Go.Fw.flat wk2 Go.Fw.all Go.Fw.owns wpOp
attribute [local irreducible] sk mpK srt varsL regOf insF insL vpre insP uses LvAt filF vrs

end Go.Proofs.Ytjfanjcoppeeaaa
namespace Go.Proofs.Ytjfanjcoppeeaaa
open Go Go.Fw
set_option linter.unusedVariables false
def mvO (st : Option (Nat × List Int)) : Value := .map (st.map (·.1))
theorem encO_eq (st : Option (Nat × List Int)) : encO st = [mvO st] := by cases st <;> rfl
def itS (r : Nat) (st : Option (Nat × List Int)) (clock : Nat) (dn : List (Int × Nat)) : It :=
  match st with
  | none => itr0 r
  | some p => itr r p.1 clock (dn.map (·.2))
def mpS (st : Option (Nat × List Int)) (el : List (Int × Nat)) (clock : Nat) : It :=
  match st with
  | none => all []
  | some p => mpK p.1 el clock
theorem HS.openS {w0 w : World} {M : Nat → Prop} {H : List It} {st : Option (Nat × List Int)} (h : HS w0 M H w) (hm : sko st ∈ H) :
    ∃ el clock, el.map (·.1) = kso st ∧ ElK el clock ∧ ∀ H', Rp H (sko st) (mpS st el clock) H' → HS w0 M H' w := by
  cases st with
  | none => exact ⟨[], 0, rfl, ⟨List.nodup_nil, List.nodup_nil, fun e he => absurd he List.not_mem_nil⟩, fun H' hr => h.conv hr fun F hF => hF⟩
  | some p => exact h.openK hm
theorem HS.shutS {w0 w : World} {M : Nat → Prop} {H H' : List It} {st : Option (Nat × List Int)} {clock : Nat} {el : List (Int × Nat)} (h : HS w0 M H w) (hel : el.map (·.1) = kso st) (hok : ElK el clock) (hr : Rp H (mpS st el clock) (sko st) H') : HS w0 M H' w := by
  cases st with
  | none => exact h.conv hr fun F hF => hF
  | some p =>
    refine h.shutK (b := p.1) (el := el) hok ?_
    rw [hel]
    exact hr
theorem sko_nodup {w0 w : World} {M : Nat → Prop} {H : List It} {st : Option (Nat × List Int)} (h : HS w0 M H w) (hm : sko st ∈ H) : (kso st).Nodup := by
  cases st with
  | none => exact List.nodup_nil
  | some p => exact h.sk_nodup hm
section
variable {P : Program} {N : Nat} {l : List (Nat × Value)} {a : Act} {d : Option Tmp} {T : TypeId} {pos : String} {af : Array Edge} {g : Option (Nat × Bool)} {st : Option (Nat × List Int)}
theorem op_rangeS {t kt e clock : Nat} {el : List (Int × Nat)} {x : Operand} {w0 w : World} {M : Nat → Prop} {H : List It} [ht : TMp P t kt e] (hx : ev l x = some (mvO st)) (hH : HS w0 M H w) (hm : mpS st el clock ∈ H) :
    Op1 P N l ⟨d, .range t x, T, pos, af, g⟩ w (fun v w' => ∃ r, v = .pointer (some (bat r 0)) ∧ HS w0 M (itS r st clock [] :: H) w') := by
  cases st with
  | none => exact op_rangeN hx hH
  | some p => exact op_rangeK hx hH hm
theorem op_nextS {r clock : Nat} {el done : List (Int × Nat)} {x : Operand} {w0 w : World} {M : Nat → Prop} {H : List It}
    (hx : ev l x = some (.pointer (some (bat r 0)))) (hH : HS w0 M H w) (hi : itS r st clock done ∈ H) (hm : mpS st el clock ∈ H) (hel : el.map (·.1) = kso st) (hok : ElK el clock) (hd : ∀ e ∈ done, e ∈ el) :
    Op1 P N l ⟨d, .next x false, T, pos, af, g⟩ w (fun v w' =>
      ((∀ e ∈ el, e ∈ done) ∧ v = .tuple #[.bool false] ∧ HS w0 M H w') ∨
      (∃ e ∈ el, e ∉ done ∧ v = .tuple #[.bool true, .int .i64 e.1, .bool true] ∧ ∀ H', Rp H (itS r st clock done) (itS r st clock (done ++ [e])) H' → HS w0 M H' w')) := by
  cases st with
  | none =>
    intro a hA K Q hK
    obtain rfl : el = [] := by simpa [kso] using hel
    have hev := ex_nextN (P := P) (d := d) (T := T) (pos := pos) (af := af) (g := g) (N := N) (l := l) hx hi a w hA hH
    unfold Oper.wp
    simp only [hev, Oper.upon]
    exact hK _ _ (.inl ⟨fun e he => absurd he List.not_mem_nil, rfl, hH⟩)
  | some p => exact op_nextK hx hH hi hm hok hd
theorem ex_entryS {r clock : Nat} {el done : List (Int × Nat)} {x : Operand} {e : Int × Nat} {w0 : World} {M : Nat → Prop} {H : List It}
    (hx : ev l x = some (.pointer (some (bat r 0)))) (hi : itS r st clock (done ++ [e]) ∈ H) (hm : mpS st el clock ∈ H) (hel : el.map (·.1) = kso st) (hok : ElK el clock) (he : e ∈ el) :
    Ex P N l (HS w0 M H) ⟨d, .entry x, T, pos, af, g⟩ (.tuple #[.int .i64 e.1, .bool true]) := by
  cases st with
  | none =>
    obtain rfl : el = [] := by simpa [kso] using hel
    exact absurd he List.not_mem_nil
  | some p => exact ex_entryK hx hi hm hok he
theorem ex_lenS {t kt e : Nat} {x : Operand} {w0 : World} {M : Nat → Prop} {H : List It} [ht : TMp P t kt e] (hx : ev l x = some (mvO st)) (hm : sko st ∈ H) :
    Ex P N l (HS w0 M H) ⟨d, .call ⟨.builtin .len, #[x], #[t]⟩, T, pos, af, g⟩ (.int .i64 (kso st).length) := by
  cases st with
  | none => exact ex_lenK0 hx
  | some p => exact ex_lenK hx hm
end
set_option maxRecDepth 10000 attribute [local irreducible] Code.wp wpList Calls Ex Op1 sat bat blk cb own Go.Fw.mp Go.Fw.mpO Go.Fw.mpI Go.Fw.mpE Go.Fw.itr HS Rd Ret wkD Hp Cl Cls Exit.then Exit.inBlock Exit.noGoto bodyPost Go.Fw.flat wk2 Go.Fw.all Go.Fw.owns wpOp
attribute [local irreducible] sk mpK srt sko itS mpS mvO

set_option maxHeartbeats 2000000 in
theorem sortedS_spec (w0 w : World) (H : List It) (st : Option (Nat × List Int)) (hH : HS w0 noM (sko st :: H) w) (hb : (kso st).length ≤ 1000000) :
    Ret Try.prog 32 #[mvO st] w (fun r w' => ∃ o c l, r = .slice o l.length c ∧ (∀ x, x ∈ l ↔ x ∈ kso st) ∧ l.Pairwise (· ≤ ·) ∧ l.Nodup ∧ HS w0 noM (own 3 1 o l.length c (flat Fw.encI l) :: sko st :: H) w') := by
  (refine enter (N := 18) Try.func32 rfl Try.ntmps32 rfl ?_; intro a hA; dsimp only [sl0, Nat.reduceAdd] at hA)
  repeat' (first | (first | (refine GT ?_ ?_ <;> intro hg <;> clear hA a <;> intro a hA <;> (first | exact FA | replace hg := of_decide_eq_true hg | replace hg := of_decide_eq_false hg | skip)) | (refine QT ?_; clear hA a; intro a hA) | (first | (refine BT ?_; clear hA hH; rintro _ w ⟨bN, rfl, hH⟩ a hA) | (refine LT ?_; clear hA hH; rintro _ w ⟨oN, rfl, hH⟩ a hA) | (refine AT ?_; clear hA; rintro _ w ⟨oN, cN, rfl, hH2⟩ a hA; clear hH; have hH := (hH2 _ (by (repeat constructor))).tail; clear hH2) | (refine S0T ?_; clear hH; rintro _ w hH) )) | ((first | refine CT ?_ | (refine DT ?_ ?_ <;> intro hc <;> try (exfalso; omega))) <;> repeat' refine CT ?_) | (first | (refine DSK ?_; clear hA a; intro a hA) | (first | (refine DLT ?_; clear hA hH; rintro _ w ⟨oN, rfl, hH⟩; refine ⟨STT, ?_⟩; intro a hA) | (refine DAT ?_; clear hA; rintro _ w ⟨oN, cN, rfl, hH2⟩; clear hH; have hH := (hH2 _ (by (repeat constructor))).tail; clear hH2; refine ⟨STT, ?_⟩; intro a hA))) )
  obtain ⟨el, clock, hel, hok, hop⟩ := HS.openS (st := st) hH (by exact MEMT)
  replace hH := hop _ (by (repeat constructor))
  clear hop
  have hell : el.length = (kso st).length := by rw [← hel, List.length_map]
  (refine st_op hA rfl rfl (by decide) (op_rangeS (st := st) rfl hH (by exact MEMT)) ?_; clear hA hH; rintro _ w ⟨r, rfl, hH⟩ a hA)
  replace hH := hH.nil_own 3 1
  repeat' (first | (first | (refine GT ?_ ?_ <;> intro hg <;> clear hA a <;> intro a hA <;> (first | exact FA | replace hg := of_decide_eq_true hg | replace hg := of_decide_eq_false hg | skip)) | (refine QT ?_; clear hA a; intro a hA) | (first | (refine BT ?_; clear hA hH; rintro _ w ⟨bN, rfl, hH⟩ a hA) | (refine LT ?_; clear hA hH; rintro _ w ⟨oN, rfl, hH⟩ a hA) | (refine AT ?_; clear hA; rintro _ w ⟨oN, cN, rfl, hH2⟩ a hA; clear hH; have hH := (hH2 _ (by (repeat constructor))).tail; clear hH2) | (refine S0T ?_; clear hH; rintro _ w hH) )) | ((first | refine CT ?_ | (refine DT ?_ ?_ <;> intro hc <;> try (exfalso; omega))) <;> repeat' refine CT ?_) | (first | (refine DSK ?_; clear hA a; intro a hA) | (first | (refine DLT ?_; clear hA hH; rintro _ w ⟨oN, rfl, hH⟩; refine ⟨STT, ?_⟩; intro a hA) | (refine DAT ?_; clear hA; rintro _ w ⟨oN, cN, rfl, hH2⟩; clear hH; have hH := (hH2 _ (by (repeat constructor))).tail; clear hH2; refine ⟨STT, ?_⟩; intro a hA))) )
  refine wp_lpk (S := List (Int × Nat)) (fun dn a w => ∃ o c, (dn.Nodup ∧ (∀ e ∈ dn, e ∈ el)) ∧ HS w0 noM (own 3 1 o dn.length c (flat Fw.encI (dn.map (·.1))) :: itS r st clock dn :: mpS st el clock :: H) w ∧ Sl 18 [(6, .pointer (some (bat r 0))), (3, .slice o dn.length c)] a) (fun dn => el.length - dn.length)
    (fun a w => ∃ o c dn, ((∀ x, x ∈ dn ↔ x ∈ kso st) ∧ dn.Nodup) ∧ HS w0 noM (own 3 1 o dn.length c (flat Fw.encI dn) :: sko st :: H) w ∧ Sl 18 [(3, .slice o dn.length c)] a) [] ⟨none, 0, ⟨List.nodup_nil, fun e he => absurd he List.not_mem_nil⟩, (by rw [List.map_nil, flatI_nil]; exact hH), (hA.sub (by (repeat (first | exact trivial | refine ⟨rfl, ?_⟩))))⟩ ?_ ?_
  · clear hA hH
    rintro dn a w ⟨o, c, ⟨hn, hd⟩, hH, hA⟩
    repeat' (first | (first | (refine GT ?_ ?_ <;> intro hg <;> clear hA a <;> intro a hA <;> (first | exact FA | replace hg := of_decide_eq_true hg | replace hg := of_decide_eq_false hg | skip)) | (refine QT ?_; clear hA a; intro a hA) | (first | (refine BT ?_; clear hA hH; rintro _ w ⟨bN, rfl, hH⟩ a hA) | (refine LT ?_; clear hA hH; rintro _ w ⟨oN, rfl, hH⟩ a hA) | (refine AT ?_; clear hA; rintro _ w ⟨oN, cN, rfl, hH2⟩ a hA; clear hH; have hH := (hH2 _ (by (repeat constructor))).tail; clear hH2) | (refine S0T ?_; clear hH; rintro _ w hH) )) | ((first | refine CT ?_ | (refine DT ?_ ?_ <;> intro hc <;> try (exfalso; omega))) <;> repeat' refine CT ?_) | (first | (refine DSK ?_; clear hA a; intro a hA) | (first | (refine DLT ?_; clear hA hH; rintro _ w ⟨oN, rfl, hH⟩; refine ⟨STT, ?_⟩; intro a hA) | (refine DAT ?_; clear hA; rintro _ w ⟨oN, cN, rfl, hH2⟩; clear hH; have hH := (hH2 _ (by (repeat constructor))).tail; clear hH2; refine ⟨STT, ?_⟩; intro a hA))) )
    refine st_op hA rfl rfl (by decide) (op_nextS (st := st) rfl hH (by exact MEMT) (by exact MEMT) hel hok hd) ?_
    clear hA
    rintro _ w2 (⟨hall, rfl, hH⟩ | ⟨e, he, hs, rfl, hup⟩) a hA
    · repeat' (first | (first | (refine GT ?_ ?_ <;> intro hg <;> clear hA a <;> intro a hA <;> (first | exact FA | replace hg := of_decide_eq_true hg | replace hg := of_decide_eq_false hg | skip)) | (refine QT ?_; clear hA a; intro a hA) | (first | (refine BT ?_; clear hA hH; rintro _ w ⟨bN, rfl, hH⟩ a hA) | (refine LT ?_; clear hA hH; rintro _ w ⟨oN, rfl, hH⟩ a hA) | (refine AT ?_; clear hA; rintro _ w ⟨oN, cN, rfl, hH2⟩ a hA; clear hH; have hH := (hH2 _ (by (repeat constructor))).tail; clear hH2) | (refine S0T ?_; clear hH; rintro _ w hH) )) | ((first | refine CT ?_ | (refine DT ?_ ?_ <;> intro hc <;> try (exfalso; omega))) <;> repeat' refine CT ?_) | (first | (refine DSK ?_; clear hA a; intro a hA) | (first | (refine DLT ?_; clear hA hH; rintro _ w ⟨oN, rfl, hH⟩; refine ⟨STT, ?_⟩; intro a hA) | (refine DAT ?_; clear hA; rintro _ w ⟨oN, cN, rfl, hH2⟩; clear hH; have hH := (hH2 _ (by (repeat constructor))).tail; clear hH2; refine ⟨STT, ?_⟩; intro a hA))) )
      replace hH := HS.shutS (st := st) hH hel hok (by (repeat constructor))
      rw [← List.length_map (f := fun x : Int × Nat => x.1)] at hH
      rw [← List.length_map (f := fun x : Int × Nat => x.1)] at hA
      exact ⟨o, c, dn.map (fun x : Int × Nat => x.1), ⟨dn_mem hel hd hall, dn_nodup hok.keys hn hd⟩, hH.rm 1, (hA.sub (by (repeat (first | exact trivial | refine ⟨rfl, ?_⟩))))⟩
    · have hlt := done_lt hn hd he hs
      clear hH
      have hH := hup _ (by (repeat constructor))
      clear hup
      repeat' (first | (first | (refine GT ?_ ?_ <;> intro hg <;> clear hA a <;> intro a hA <;> (first | exact FA | replace hg := of_decide_eq_true hg | replace hg := of_decide_eq_false hg | skip)) | ((first | apply st_ex hA hH rfl rfl (by decide) | apply dr_ex hA rfl rfl rfl (by decide) | apply dr_exp hA rfl rfl rfl (by decide) | apply dr_ex3 hA hH rfl rfl rfl (by decide)); (first | (apply ex_entryS (st := st); rfl; exact MEMT; exact MEMT; exact hel; exact hok; exact he)); clear hA a; intro a hA) | (refine QT ?_; clear hA a; intro a hA) | (first | (refine BT ?_; clear hA hH; rintro _ w ⟨bN, rfl, hH⟩ a hA) | (refine LT ?_; clear hA hH; rintro _ w ⟨oN, rfl, hH⟩ a hA) | (refine AT ?_; clear hA; rintro _ w ⟨oN, cN, rfl, hH2⟩ a hA; clear hH; have hH := (hH2 _ (by (repeat constructor))).tail; clear hH2) | (refine S0T ?_; clear hH; rintro _ w hH) )) | ((first | refine CT ?_ | (refine DT ?_ ?_ <;> intro hc <;> try (exfalso; omega))) <;> repeat' refine CT ?_) | (first | (refine DSK ?_; clear hA a; intro a hA) | (first | (refine DLT ?_; clear hA hH; rintro _ w ⟨oN, rfl, hH⟩; refine ⟨STT, ?_⟩; intro a hA) | (refine DAT ?_; clear hA; rintro _ w ⟨oN, cN, rfl, hH2⟩; clear hH; have hH := (hH2 _ (by (repeat constructor))).tail; clear hH2; refine ⟨STT, ?_⟩; intro a hA))) )
      have ha := dn_add (ks := []) (ks' := dn.map (·.1)) hn hd he hs (fun x => by simp)
      have hl : (dn ++ [e]).length = dn.length + 1 := by rw [List.length_append]; rfl
      refine ⟨dn ++ [e], ⟨oN, cN, ⟨ha.1, ha.2.1⟩, ?_, ?_⟩, by omega⟩
      · rw [hl, List.map_append, List.map_cons, List.map_nil, ← flatI_snoc]
        exact hH
      · rw [hl]
        exact (hA.sub (by (repeat (first | exact trivial | refine ⟨rfl, ?_⟩))))
  clear hA hH
  rintro a w ⟨o, c, dn, ⟨hdn, hnd⟩, hH, hA⟩
  have hdl : dn.length ≤ 1000000 := by rw [nodup_len hnd (sko_nodup (st := st) hH (.tail _ (.head _))) hdn]; exact hb
  repeat' (first | (first | (refine GT ?_ ?_ <;> intro hg <;> clear hA a <;> intro a hA <;> (first | exact FA | replace hg := of_decide_eq_true hg | replace hg := of_decide_eq_false hg | skip)) | (refine QT ?_; clear hA a; intro a hA) | (first | (refine BT ?_; clear hA hH; rintro _ w ⟨bN, rfl, hH⟩ a hA) | (refine LT ?_; clear hA hH; rintro _ w ⟨oN, rfl, hH⟩ a hA) | (refine AT ?_; clear hA; rintro _ w ⟨oN, cN, rfl, hH2⟩ a hA; clear hH; have hH := (hH2 _ (by (repeat constructor))).tail; clear hH2) | (refine S0T ?_; clear hH; rintro _ w hH) )) | ((first | refine CT ?_ | (refine DT ?_ ?_ <;> intro hc <;> try (exfalso; omega))) <;> repeat' refine CT ?_) | (first | (refine DSK ?_; clear hA a; intro a hA) | (first | (refine DLT ?_; clear hA hH; rintro _ w ⟨oN, rfl, hH⟩; refine ⟨STT, ?_⟩; intro a hA) | (refine DAT ?_; clear hA; rintro _ w ⟨oN, cN, rfl, hH2⟩; clear hH; have hH := (hH2 _ (by (repeat constructor))).tail; clear hH2; refine ⟨STT, ?_⟩; intro a hA))) )
  (refine st_op hA rfl rfl (by decide) (op_call rfl rfl rfl (sort_spec w0 _ noM _ o c dn hH (.head _) (by omega))) ?_; clear hA; rintro _ w ⟨rfl, hup⟩ a hA; clear hH; have hH := hup _ .here; clear hup)
  rw [← srt_len dn] at hA hH
  repeat' (first | (first | (refine GT ?_ ?_ <;> intro hg <;> clear hA a <;> intro a hA <;> (first | exact FA | replace hg := of_decide_eq_true hg | replace hg := of_decide_eq_false hg | skip)) | (refine QT ?_; clear hA a; intro a hA) | (first | (refine BT ?_; clear hA hH; rintro _ w ⟨bN, rfl, hH⟩ a hA) | (refine LT ?_; clear hA hH; rintro _ w ⟨oN, rfl, hH⟩ a hA) | (refine AT ?_; clear hA; rintro _ w ⟨oN, cN, rfl, hH2⟩ a hA; clear hH; have hH := (hH2 _ (by (repeat constructor))).tail; clear hH2) | (refine S0T ?_; clear hH; rintro _ w hH) )) | ((first | refine CT ?_ | (refine DT ?_ ?_ <;> intro hc <;> try (exfalso; omega))) <;> repeat' refine CT ?_) | (first | (refine DSK ?_; clear hA a; intro a hA) | (first | (refine DLT ?_; clear hA hH; rintro _ w ⟨oN, rfl, hH⟩; refine ⟨STT, ?_⟩; intro a hA) | (refine DAT ?_; clear hA; rintro _ w ⟨oN, cN, rfl, hH2⟩; clear hH; have hH := (hH2 _ (by (repeat constructor))).tail; clear hH2; refine ⟨STT, ?_⟩; intro a hA))) )
  exact rt1 (.inl rfl) rfl hA rfl ⟨o, c, srt dn, rfl, fun x => mem_srt.trans (hdn x), srt_sorted dn, (srt_perm dn).nodup_iff.2 hnd, hH⟩
end Go.Proofs.Ytjfanjcoppeeaaa
