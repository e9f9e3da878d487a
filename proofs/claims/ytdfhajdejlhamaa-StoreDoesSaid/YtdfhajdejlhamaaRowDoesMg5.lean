/-
  The document's heap in memory; the walks over what only looks at it. Conditions: none.
  The walks over the document's heap where it turns: Free, Set, Alloc. Conditions: none.
  The document's heap as it is called. Conditions: none.
-/
import Derived.Test.YtdfhajdejlhamaaRowDoesMg4
namespace Go.Proofs.Ytdfhajdejlhamaa
open Go Go.Fw
set_option linter.unusedVariables false
def encO (x : Ob × Sd) : List Value := [.int .i64 x.1.a, .int .i64 x.1.kind, .slice x.2.1 x.2.2.1 x.2.2.2]
theorem encO_len (x : Ob × Sd) : (encO x).length = 3 := rfl
structure RQ where
  o : Option Addr
  c : Nat
  ds : List Sd
def rfQ (b N : Nat) (L : List Ob) (q : RQ) : List It :=
  [cb b 56 [.int .i64 N, .slice q.o L.length q.c], own 53 3 q.o L.length q.c (flat encO (L.zip q.ds)), all (owns 33 1 encW q.ds (L.map (·.fs)))]
/-- the document's heap: of so many cells, with these objects -/
def rfI (b N : Nat) (L : List Ob) : It := exI fun q => facI (q.ds.length = L.length) (all (rfQ b N L q))
structure RfQ (w : World) (b N : Nat) (L : List Ob) (q : RQ) : Prop where
  len : q.ds.length = L.length
  c0 : w.cell? (bat b 0) = some (.int .i64 N)
  c1 : w.cell? (bat b 1) = some (.slice q.o L.length q.c)
  rO : Rd w q.o (flat encO (L.zip q.ds))
  rF : RdR encW w q.ds (L.map (·.fs))
  nO : L.length ≤ q.c
def RfR (w : World) (b N : Nat) (L : List Ob) : Prop := ∃ q, RfQ w b N L q
theorem rf_open {w0 w : World} {M : Nat → Prop} {H : List It} {b N : Nat} {L : List Ob} (h : HS w0 M (rfI b N L :: H) w) : ∃ q, q.ds.length = L.length ∧ HS w0 M (rfQ b N L q ++ H) w := by
  obtain ⟨q, h1⟩ := h.exI_open
  obtain ⟨hp, h2⟩ := h1.facI_open
  exact ⟨q, hp, h2.open_⟩
theorem rf_shut {w0 w : World} {M : Nat → Prop} {H : List It} {b N : Nat} {L : List Ob} (q : RQ) (hp : q.ds.length = L.length) (h : HS w0 M (rfQ b N L q ++ H) w) : HS w0 M (rfI b N L :: H) w :=
  HS.exI_shut q (HS.facI_shut hp h.shut)
theorem rfQ_read {w0 w : World} {M : Nat → Prop} {H : List It} {b N : Nat} {L : List Ob} {q : RQ} (hp : q.ds.length = L.length) (h1 : HS w0 M (rfQ b N L q ++ H) w) : RfQ w b N L q := by
  refine ⟨hp, h1.cell (b := b) (j := 0) (List.mem_cons_self ..) rfl, h1.cell (b := b) (j := 1) (List.mem_cons_self ..) rfl, h1.own_rd (o := q.o) MEMT, ?_, (h1.own_le (o := q.o) (xs := flat encO (L.zip q.ds)) (by exact .tail _ (.head _))).1⟩
  exact h1.owns_rdR (T := 33) (sz := 1) (by exact .tail _ (.tail _ (.head _))) (by rw [List.length_map, hp]) encW_len (by omega)
theorem rf_read {w0 w : World} {M : Nat → Prop} {H : List It} {b N : Nat} {L : List Ob} (h : HS w0 M (rfI b N L :: H) w) : RfR w b N L := by
  obtain ⟨q, hp, h1⟩ := rf_open h
  exact ⟨q, rfQ_read hp h1⟩
theorem RfQ.keep {w w' : World} {b N : Nat} {L : List Ob} {q : RQ} (h : RfQ w b N L q) (hk : Kp w noM w') : RfQ w' b N L q := by
  have hH : HS w noM [] w' := (HS.init w noM).keep hk
  exact ⟨h.len, hH.cellw h.c0 id, hH.cellw h.c1 id, hH.rd h.rO id, hH.rdR h.rF rfl, h.nO⟩
theorem RfR.keep {w w' : World} {b N : Nat} {L : List Ob} (h : RfR w b N L) (hk : Kp w noM w') : RfR w' b N L :=
  let ⟨q, hq⟩ := h
  ⟨q, hq.keep hk⟩
theorem zip_at {L : List Ob} {ds : List Sd} {i : Nat} {o : Ob} {d : Sd} (h : L[i]? = some o) (hd : ds[i]? = some d) : (L.zip ds)[i]? = some (o, d) := by
  rw [List.getElem?_zip_eq_some]
  exact ⟨h, hd⟩
theorem RfQ.at {w : World} {b N : Nat} {L : List Ob} {q : RQ} (h : RfQ w b N L q) {i : Nat} {o : Ob} (ho : L[i]? = some o) :
    ∃ d c, q.ds[i]? = some (d, o.fs.length, c) ∧ Rd w d (flat encW o.fs) ∧ (flat encO (L.zip q.ds))[i * 3 + 0]? = some (.int .i64 o.a) ∧ (flat encO (L.zip q.ds))[i * 3 + 1]? = some (.int .i64 o.kind) ∧
      (flat encO (L.zip q.ds))[i * 3 + 2]? = some (.slice d o.fs.length c) := by
  obtain ⟨d, c, hd, hr⟩ := h.rF.at (i := i) (r := o.fs) (by rw [List.getElem?_map, ho]; rfl)
  have hz := zip_at ho hd
  exact ⟨d, c, hd, hr, flat_get encO_len (off := 0) hz rfl, flat_get encO_len (off := 1) hz rfl, flat_get encO_len (off := 2) hz rfl⟩
theorem RfQ.sp {w : World} {b N : Nat} {L : List Ob} {q : RQ} (h : RfQ w b N L q) : Sp q.o L.length := h.rO.sp (sz := 3) (by rw [flat_length encO_len, List.length_zip, h.len]; simp) (by omega)
/-- the place of an object -/
def findI (L : List Ob) (z : Int) : Int := match L.findIdx? fun o => decide ((o.a : Int) = z) with
  | some i => i
  | none => -1
theorem findI_obj (L : List Ob) (z : Int) : (objA L z = none ∧ findI L z = -1) ∨ ∃ (i : Nat) (o : Ob), objA L z = some o ∧ findI L z = i ∧ L[i]? = some o := by
  unfold findI objA
  induction L with
  | nil => left; exact ⟨rfl, rfl⟩
  | cons x L ih =>
    rw [List.find?_cons, List.findIdx?_cons]
    by_cases hx : (x.a : Int) = z
    · right
      simp only [hx, decide_true, if_true]
      exact ⟨0, x, rfl, rfl, rfl⟩
    · simp only [hx, decide_false, Bool.false_eq_true, if_false]
      rcases ih with ⟨h1, h2⟩ | ⟨i, o, h1, h2, h3⟩
      · left
        refine ⟨h1, ?_⟩
        cases hf : L.findIdx? fun o => decide ((o.a : Int) = z) with
        | none => rfl
        | some i => rw [hf] at h2; dsimp only at h2; omega
      · right
        refine ⟨i + 1, o, h1, ?_, by simpa using h3⟩
        cases hf : L.findIdx? fun o => decide ((o.a : Int) = z) with
        | none => rw [hf] at h2; dsimp only at h2; omega
        | some j => rw [hf] at h2; dsimp only at h2; simp only [Option.map_some]; omega
theorem findI_at {L : List Ob} {z : Int} {i : Nat} {o : Ob} (h : L[i]? = some o) (ho : (o.a : Int) = z) (hno : ∀ (k : Nat) (x : Ob), k < i → L[k]? = some x → (x.a : Int) ≠ z) : findI L z = i := by
  unfold findI
  have : L.findIdx? (fun o => decide ((o.a : Int) = z)) = some i := by
    rw [List.findIdx?_eq_some_iff_getElem]
    obtain ⟨hi, he⟩ := List.getElem?_eq_some_iff.1 h
    refine ⟨hi, by rw [he]; simpa using ho, fun j hj => ?_⟩
    have := hno j _ hj (List.getElem?_eq_getElem (by omega))
    simpa using this
  rw [this]
theorem findI_no {L : List Ob} {z : Int} (hno : ∀ (k : Nat) (x : Ob), L[k]? = some x → (x.a : Int) ≠ z) : findI L z = -1 := by
  unfold findI
  have : L.findIdx? (fun o => decide ((o.a : Int) = z)) = none := by
    rw [List.findIdx?_eq_none_iff]
    intro x hx
    obtain ⟨k, hk⟩ := List.getElem?_of_mem hx
    simpa using hno k x hk
  rw [this]
theorem nextI_at {L : List Ob} {z : Int} {i : Nat} {o : Ob} (h : L[i]? = some o) (ho : z ≤ (o.a : Int)) (hno : ∀ (k : Nat) (x : Ob), k < i → L[k]? = some x → ¬ z ≤ (x.a : Int)) : nextA L z = o.a := by
  obtain ⟨hi, he⟩ := List.getElem?_eq_some_iff.1 h
  have hs : L = L.take i ++ o :: L.drop (i + 1) := by rw [← he, ← List.drop_eq_getElem_cons hi, List.take_append_drop]
  unfold nextA
  rw [hs, List.find?_append, List.find?_eq_none.2, List.find?_cons_of_pos (by simpa using ho)]
  · rfl
  · intro x hx
    obtain ⟨k, hk⟩ := List.getElem?_of_mem hx
    have hk1 := (List.getElem?_eq_some_iff.1 hk).1
    rw [List.length_take] at hk1
    rw [List.getElem?_take_of_lt (by omega)] at hk
    simpa using hno k x (by omega) hk
theorem nextI_no {L : List Ob} {z : Int} (hno : ∀ (k : Nat) (x : Ob), L[k]? = some x → ¬ z ≤ (x.a : Int)) : nextA L z = 0 := next_none fun o ho => by
  obtain ⟨k, hk⟩ := List.getElem?_of_mem ho
  exact hno k o hk
theorem endA_snoc (A : List Ob) (o : Ob) (p : Nat) : endA p (A ++ [o]) = o.fin := by
  induction A generalizing p with
  | nil => rfl
  | cons a A ih => exact ih _
theorem gin_snoc (A : List Ob) (o : Ob) (p : Nat) : gin p (A ++ [o]) = gin p A ++ gap1 (endA p A) o.a := by
  induction A generalizing p with
  | nil => simp [gin, endA]
  | cons a A ih => rw [List.cons_append]; simp only [gin, endA]; rw [ih, List.append_assoc]
theorem gaps_gin {N : Nat} (L : List Ob) (p : Nat) : gaps N p L = gin p L ++ gap1 (endA p L) N := by
  have := gaps_append (N := N) L [] p
  rw [List.append_nil] at this
  rw [this]
  rfl
/-- the gaps ahead of place i -/
def gapT (N : Nat) (L : List Ob) (i : Nat) : List (Int × Int) := if i ≤ L.length then gin 1 (L.take i) else gaps N 1 L
theorem gapT_succ {N : Nat} {L : List Ob} {i : Nat} (hi : i ≤ L.length) : gapT N L (i + 1) = gapT N L i ++ gap1 (endA 1 (L.take i)) (nxt N (L.drop i)) := by
  unfold gapT
  rw [if_pos hi]
  by_cases h : i < L.length
  · rw [if_pos (by omega), List.take_add_one, List.getElem?_eq_getElem h]
    simp only [Option.toList_some]
    rw [gin_snoc, List.drop_eq_getElem_cons h]
    rfl
  · rw [if_neg (by omega), List.take_of_length_le (by omega), List.drop_of_length_le (by omega), gaps_gin]
    rfl
theorem room_gap1 {p e : Nat} (h : p ≤ e) (l : List (Int × Int)) : roomA (l ++ gap1 p e) = roomA l + ((e : Int) - p) := by
  rw [roomA_append, gap1_sum p e h]
  omega
theorem long_gap1 {p e : Nat} (h : p ≤ e) {l : List (Int × Int)} (hl : 0 ≤ longA l) : longA (l ++ gap1 p e) = if (e : Int) - p > longA l then (e : Int) - p else longA l := by
  unfold gap1
  split
  · rw [longA_snoc]
    dsimp only
    rw [show ((e - p : Nat) : Int) = (e : Int) - p by omega]
  · rw [List.append_nil, if_neg (by omega)]
theorem longA_nonneg (l : List (Int × Int)) : 0 ≤ longA l := by
  have key : ∀ (l : List (Int × Int)) (n : Int), 0 ≤ n → 0 ≤ l.foldl (fun n r => if r.2 > n then r.2 else n) n := by
    intro l
    induction l with
    | nil => intro n h; exact h
    | cons x l ih =>
      intro n h
      rw [List.foldl_cons]
      refine ih _ ?_
      split <;> omega
  exact key l 0 (Int.le_refl _)
/-- what holds of a heap's objects -/
structure Ok (N : Nat) (L : List Ob) : Prop where
  n2 : 2 ≤ N ∧ N ≤ 65536
  lay : Lay N 1 L
  kd : ∀ o ∈ L, 1 ≤ o.kind ∧ o.fs.length ≤ 4096
theorem Rep.ok {N : Nat} {L : List Ob} {cs : List Int} {hs : List (Int × Int)} (h : Rep N L cs hs) : Ok N L := ⟨h.n2, h.lay, h.kd⟩
theorem Ok.len {N : Nat} {L : List Ob} (h : Ok N L) : L.length ≤ 65536 := by
  have := h.lay.len
  have := h.n2
  omega
theorem Ok.split {N : Nat} {A B : List Ob} (h : Ok N (A ++ B)) : endA 1 A ≤ nxt N B ∧ nxt N B ≤ N := nxt_le h.lay.split.2
set_option maxRecDepth 10000 attribute [local irreducible] Code.wp wpList Calls Ex Op1 sat bat blk cb own Go.Fw.mp Go.Fw.mpO Go.Fw.mpI Go.Fw.mpE Go.Fw.itr HS Rd Ret wkD Hp Cl Cls Exit.then Exit.inBlock Exit.noGoto bodyPost Go.Fw.flat wk2 Go.Fw.all Go.Fw.owns wpOp
attribute [local irreducible] hdA gaps isA roomA longA nextA gapT findI objA

theorem rfind_spec (w0 : World) (b N : Nat) (L : List Ob) (z : Int) (hL : L.length ≤ 65536) (hR : RfR w0 b N L) :
    Ret Try.prog 24 #[.pointer (some (bat b 0)), .int .i64 z] w0 (fun v w => v = .int .i64 (findI L z) ∧ Kp w0 noM w) := by
  have hH : HS w0 noM [] w0 := HS.init w0 noM
  obtain ⟨q, hq⟩ := hR
  have hsp := hq.sp
  (refine enter (N := 26) Try.func24 rfl Try.ntmps24 rfl ?_; intro a hA; dsimp only [sl0, Nat.reduceAdd] at hA)
  repeat' (first | (first | (refine GT ?_ ?_ <;> intro hg <;> clear hA a <;> intro a hA <;> (first | exact FA | replace hg := of_decide_eq_true hg | replace hg := of_decide_eq_false hg | skip)) | (refine QT0 ?_; clear hA a; intro a hA) | (first | (refine BT ?_; clear hA hH; rintro _ w ⟨bN, rfl, hH⟩ a hA) | (refine LT ?_; clear hA hH; rintro _ w ⟨oN, rfl, hH⟩ a hA) | (refine AT ?_; clear hA; rintro _ w ⟨oN, cN, rfl, hH2⟩ a hA; clear hH; have hH := (hH2 _ (by (repeat constructor))).tail; clear hH2) | (refine S0T ?_; clear hH; rintro _ w hH) )) | ((first | refine CT ?_ | (refine DT ?_ ?_ <;> intro hc <;> try (exfalso; omega))) <;> repeat' refine CT ?_) | (first | (refine DSK ?_; clear hA a; intro a hA) | (first | (refine DLT ?_; clear hA hH; rintro _ w ⟨oN, rfl, hH⟩; refine ⟨STT, ?_⟩; intro a hA) | (refine DAT ?_; clear hA; rintro _ w ⟨oN, cN, rfl, hH2⟩; clear hH; have hH := (hH2 _ (by (repeat constructor))).tail; clear hH2; refine ⟨STT, ?_⟩; intro a hA))) )
  refine wp_lpj (S := Nat) (fun i a w => (i ≤ L.length ∧ ∀ (k : Nat) (x : Ob), k < i → L[k]? = some x → (x.a : Int) ≠ z) ∧ HS w0 noM [] w ∧ Sl 26 [(0, .pointer (some (bat b 0))), (1, .int .i64 z), (5, .int .i64 i)] a) (fun i => L.length - i)
    (fun a w => (∀ (k : Nat) (x : Ob), L[k]? = some x → (x.a : Int) ≠ z) ∧ HS w0 noM [] w ∧ Sl 26 [] a) 0 ⟨⟨Nat.zero_le _, fun k x hk => by omega⟩, hH, (hA.sub (by (repeat (first | exact trivial | refine ⟨rfl, ?_⟩))))⟩ ?_ ?_
  · clear hA hH
    rintro i a w ⟨⟨hi, hno⟩, hH, hA⟩
    by_cases hlt : i < L.length
    · obtain ⟨o, ho⟩ : ∃ o, L[i]? = some o := ⟨_, List.getElem?_eq_getElem hlt⟩
      obtain ⟨d, c, hd, hrd, ca, ck, cf⟩ := hq.at ho
      repeat' (first | (first | (refine GT ?_ ?_ <;> intro hg <;> clear hA a <;> intro a hA <;> (first | exact FA | replace hg := of_decide_eq_true hg | replace hg := of_decide_eq_false hg | skip)) | ((first | apply st_ex hA hH rfl rfl (by decide) | apply dr_ex hA rfl rfl rfl (by decide) | apply dr_exp hA rfl rfl rfl (by decide) | apply dr_ex3 hA hH rfl rfl rfl (by decide)); (first | (apply ex_load; rfl; exact cl_w hq.c1 id) | (apply ex_load; rfl; exact cl_rd hq.rO id ca)); clear hA a; intro a hA) | (refine QT0 ?_; clear hA a; intro a hA) | (first | (refine BT ?_; clear hA hH; rintro _ w ⟨bN, rfl, hH⟩ a hA) | (refine LT ?_; clear hA hH; rintro _ w ⟨oN, rfl, hH⟩ a hA) | (refine AT ?_; clear hA; rintro _ w ⟨oN, cN, rfl, hH2⟩ a hA; clear hH; have hH := (hH2 _ (by (repeat constructor))).tail; clear hH2) | (refine S0T ?_; clear hH; rintro _ w hH) )) | ((first | refine CT ?_ | (refine DT ?_ ?_ <;> intro hc <;> try (exfalso; omega))) <;> repeat' refine CT ?_) | (first | (refine DSK ?_; clear hA a; intro a hA) | (first | (refine DLT ?_; clear hA hH; rintro _ w ⟨oN, rfl, hH⟩; refine ⟨STT, ?_⟩; intro a hA) | (refine DAT ?_; clear hA; rintro _ w ⟨oN, cN, rfl, hH2⟩; clear hH; have hH := (hH2 _ (by (repeat constructor))).tail; clear hH2; refine ⟨STT, ?_⟩; intro a hA))) )
      · exact rt1 (.inl rfl) rfl hA rfl ⟨by rw [findI_at ho (by assumption) hno], hH.kp⟩
      · refine ⟨i + 1, ⟨⟨hlt, fun k x hk hx => ?_⟩, hH, (hA.sub (by (repeat (first | exact trivial | refine ⟨rfl, ?_⟩))))⟩, by omega⟩
        rcases Nat.lt_or_ge k i with h | h
        · exact hno k x h hx
        · obtain rfl : k = i := by omega
          rw [ho] at hx
          obtain rfl := Option.some.inj hx
          assumption
    · repeat' (first | (first | (refine GT ?_ ?_ <;> intro hg <;> clear hA a <;> intro a hA <;> (first | exact FA | replace hg := of_decide_eq_true hg | replace hg := of_decide_eq_false hg | skip)) | ((first | apply st_ex hA hH rfl rfl (by decide) | apply dr_ex hA rfl rfl rfl (by decide) | apply dr_exp hA rfl rfl rfl (by decide) | apply dr_ex3 hA hH rfl rfl rfl (by decide)); (first | (apply ex_load; rfl; exact cl_w hq.c1 id)); clear hA a; intro a hA) | (refine QT0 ?_; clear hA a; intro a hA) | (first | (refine BT ?_; clear hA hH; rintro _ w ⟨bN, rfl, hH⟩ a hA) | (refine LT ?_; clear hA hH; rintro _ w ⟨oN, rfl, hH⟩ a hA) | (refine AT ?_; clear hA; rintro _ w ⟨oN, cN, rfl, hH2⟩ a hA; clear hH; have hH := (hH2 _ (by (repeat constructor))).tail; clear hH2) | (refine S0T ?_; clear hH; rintro _ w hH) )) | ((first | refine CT ?_ | (refine DT ?_ ?_ <;> intro hc <;> try (exfalso; omega))) <;> repeat' refine CT ?_) | (first | (refine DSK ?_; clear hA a; intro a hA) | (first | (refine DLT ?_; clear hA hH; rintro _ w ⟨oN, rfl, hH⟩; refine ⟨STT, ?_⟩; intro a hA) | (refine DAT ?_; clear hA; rintro _ w ⟨oN, cN, rfl, hH2⟩; clear hH; have hH := (hH2 _ (by (repeat constructor))).tail; clear hH2; refine ⟨STT, ?_⟩; intro a hA))) )
      exact ⟨fun k x hx => hno k x (by have := (List.getElem?_eq_some_iff.1 hx).1; omega) hx, hH, (hA.sub (by (repeat (first | exact trivial | refine ⟨rfl, ?_⟩))))⟩
  · clear hA hH
    rintro a w ⟨hno, hH, hA⟩
    repeat' (first | (first | (refine GT ?_ ?_ <;> intro hg <;> clear hA a <;> intro a hA <;> (first | exact FA | replace hg := of_decide_eq_true hg | replace hg := of_decide_eq_false hg | skip)) | (refine QT0 ?_; clear hA a; intro a hA) | (first | (refine BT ?_; clear hA hH; rintro _ w ⟨bN, rfl, hH⟩ a hA) | (refine LT ?_; clear hA hH; rintro _ w ⟨oN, rfl, hH⟩ a hA) | (refine AT ?_; clear hA; rintro _ w ⟨oN, cN, rfl, hH2⟩ a hA; clear hH; have hH := (hH2 _ (by (repeat constructor))).tail; clear hH2) | (refine S0T ?_; clear hH; rintro _ w hH) )) | ((first | refine CT ?_ | (refine DT ?_ ?_ <;> intro hc <;> try (exfalso; omega))) <;> repeat' refine CT ?_) | (first | (refine DSK ?_; clear hA a; intro a hA) | (first | (refine DLT ?_; clear hA hH; rintro _ w ⟨oN, rfl, hH⟩; refine ⟨STT, ?_⟩; intro a hA) | (refine DAT ?_; clear hA; rintro _ w ⟨oN, cN, rfl, hH2⟩; clear hH; have hH := (hH2 _ (by (repeat constructor))).tail; clear hH2; refine ⟨STT, ?_⟩; intro a hA))) )
    exact rt1 (.inl rfl) rfl hA rfl ⟨by rw [findI_no hno], hH.kp⟩

theorem rnext_spec (w0 : World) (b N : Nat) (L : List Ob) (z : Int) (hL : L.length ≤ 65536) (hR : RfR w0 b N L) :
    Ret Try.prog 83 #[.pointer (some (bat b 0)), .int .i64 z] w0 (fun v w => v = .int .i64 (nextA L z) ∧ Kp w0 noM w) := by
  have hH : HS w0 noM [] w0 := HS.init w0 noM
  obtain ⟨q, hq⟩ := hR
  have hsp := hq.sp
  (refine enter (N := 33) Try.func83 rfl Try.ntmps83 rfl ?_; intro a hA; dsimp only [sl0, Nat.reduceAdd] at hA)
  repeat' (first | (first | (refine GT ?_ ?_ <;> intro hg <;> clear hA a <;> intro a hA <;> (first | exact FA | replace hg := of_decide_eq_true hg | replace hg := of_decide_eq_false hg | skip)) | (refine QT0 ?_; clear hA a; intro a hA) | (first | (refine BT ?_; clear hA hH; rintro _ w ⟨bN, rfl, hH⟩ a hA) | (refine LT ?_; clear hA hH; rintro _ w ⟨oN, rfl, hH⟩ a hA) | (refine AT ?_; clear hA; rintro _ w ⟨oN, cN, rfl, hH2⟩ a hA; clear hH; have hH := (hH2 _ (by (repeat constructor))).tail; clear hH2) | (refine S0T ?_; clear hH; rintro _ w hH) )) | ((first | refine CT ?_ | (refine DT ?_ ?_ <;> intro hc <;> try (exfalso; omega))) <;> repeat' refine CT ?_) | (first | (refine DSK ?_; clear hA a; intro a hA) | (first | (refine DLT ?_; clear hA hH; rintro _ w ⟨oN, rfl, hH⟩; refine ⟨STT, ?_⟩; intro a hA) | (refine DAT ?_; clear hA; rintro _ w ⟨oN, cN, rfl, hH2⟩; clear hH; have hH := (hH2 _ (by (repeat constructor))).tail; clear hH2; refine ⟨STT, ?_⟩; intro a hA))) )
  refine wp_lpj (S := Nat) (fun i a w => (i ≤ L.length ∧ ∀ (k : Nat) (x : Ob), k < i → L[k]? = some x → ¬ z ≤ (x.a : Int)) ∧ HS w0 noM [] w ∧ Sl 33 [(0, .pointer (some (bat b 0))), (1, .int .i64 z), (5, .int .i64 i)] a) (fun i => L.length - i)
    (fun a w => (∀ (k : Nat) (x : Ob), L[k]? = some x → ¬ z ≤ (x.a : Int)) ∧ HS w0 noM [] w ∧ Sl 33 [] a) 0 ⟨⟨Nat.zero_le _, fun k x hk => by omega⟩, hH, (hA.sub (by (repeat (first | exact trivial | refine ⟨rfl, ?_⟩))))⟩ ?_ ?_
  · clear hA hH
    rintro i a w ⟨⟨hi, hno⟩, hH, hA⟩
    by_cases hlt : i < L.length
    · obtain ⟨o, ho⟩ : ∃ o, L[i]? = some o := ⟨_, List.getElem?_eq_getElem hlt⟩
      obtain ⟨d, c, hd, hrd, ca, ck, cf⟩ := hq.at ho
      repeat' (first | (first | (refine GT ?_ ?_ <;> intro hg <;> clear hA a <;> intro a hA <;> (first | exact FA | replace hg := of_decide_eq_true hg | replace hg := of_decide_eq_false hg | skip)) | ((first | apply st_ex hA hH rfl rfl (by decide) | apply dr_ex hA rfl rfl rfl (by decide) | apply dr_exp hA rfl rfl rfl (by decide) | apply dr_ex3 hA hH rfl rfl rfl (by decide)); (first | (apply ex_load; rfl; exact cl_w hq.c1 id) | (apply ex_load; rfl; exact cl_rd hq.rO id ca)); clear hA a; intro a hA) | (refine QT0 ?_; clear hA a; intro a hA) | (first | (refine BT ?_; clear hA hH; rintro _ w ⟨bN, rfl, hH⟩ a hA) | (refine LT ?_; clear hA hH; rintro _ w ⟨oN, rfl, hH⟩ a hA) | (refine AT ?_; clear hA; rintro _ w ⟨oN, cN, rfl, hH2⟩ a hA; clear hH; have hH := (hH2 _ (by (repeat constructor))).tail; clear hH2) | (refine S0T ?_; clear hH; rintro _ w hH) )) | ((first | refine CT ?_ | (refine DT ?_ ?_ <;> intro hc <;> try (exfalso; omega))) <;> repeat' refine CT ?_) | (first | (refine DSK ?_; clear hA a; intro a hA) | (first | (refine DLT ?_; clear hA hH; rintro _ w ⟨oN, rfl, hH⟩; refine ⟨STT, ?_⟩; intro a hA) | (refine DAT ?_; clear hA; rintro _ w ⟨oN, cN, rfl, hH2⟩; clear hH; have hH := (hH2 _ (by (repeat constructor))).tail; clear hH2; refine ⟨STT, ?_⟩; intro a hA))) )
      · exact rt1 (.inl rfl) rfl hA rfl ⟨by rw [nextI_at ho (by assumption) hno], hH.kp⟩
      · refine ⟨i + 1, ⟨⟨hlt, fun k x hk hx => ?_⟩, hH, (hA.sub (by (repeat (first | exact trivial | refine ⟨rfl, ?_⟩))))⟩, by omega⟩
        rcases Nat.lt_or_ge k i with h | h
        · exact hno k x h hx
        · obtain rfl : k = i := by omega
          rw [ho] at hx
          obtain rfl := Option.some.inj hx
          assumption
    · repeat' (first | (first | (refine GT ?_ ?_ <;> intro hg <;> clear hA a <;> intro a hA <;> (first | exact FA | replace hg := of_decide_eq_true hg | replace hg := of_decide_eq_false hg | skip)) | ((first | apply st_ex hA hH rfl rfl (by decide) | apply dr_ex hA rfl rfl rfl (by decide) | apply dr_exp hA rfl rfl rfl (by decide) | apply dr_ex3 hA hH rfl rfl rfl (by decide)); (first | (apply ex_load; rfl; exact cl_w hq.c1 id)); clear hA a; intro a hA) | (refine QT0 ?_; clear hA a; intro a hA) | (first | (refine BT ?_; clear hA hH; rintro _ w ⟨bN, rfl, hH⟩ a hA) | (refine LT ?_; clear hA hH; rintro _ w ⟨oN, rfl, hH⟩ a hA) | (refine AT ?_; clear hA; rintro _ w ⟨oN, cN, rfl, hH2⟩ a hA; clear hH; have hH := (hH2 _ (by (repeat constructor))).tail; clear hH2) | (refine S0T ?_; clear hH; rintro _ w hH) )) | ((first | refine CT ?_ | (refine DT ?_ ?_ <;> intro hc <;> try (exfalso; omega))) <;> repeat' refine CT ?_) | (first | (refine DSK ?_; clear hA a; intro a hA) | (first | (refine DLT ?_; clear hA hH; rintro _ w ⟨oN, rfl, hH⟩; refine ⟨STT, ?_⟩; intro a hA) | (refine DAT ?_; clear hA; rintro _ w ⟨oN, cN, rfl, hH2⟩; clear hH; have hH := (hH2 _ (by (repeat constructor))).tail; clear hH2; refine ⟨STT, ?_⟩; intro a hA))) )
      exact ⟨fun k x hx => hno k x (by have := (List.getElem?_eq_some_iff.1 hx).1; omega) hx, hH, (hA.sub (by (repeat (first | exact trivial | refine ⟨rfl, ?_⟩))))⟩
  · clear hA hH
    rintro a w ⟨hno, hH, hA⟩
    repeat' (first | (first | (refine GT ?_ ?_ <;> intro hg <;> clear hA a <;> intro a hA <;> (first | exact FA | replace hg := of_decide_eq_true hg | replace hg := of_decide_eq_false hg | skip)) | (refine QT0 ?_; clear hA a; intro a hA) | (first | (refine BT ?_; clear hA hH; rintro _ w ⟨bN, rfl, hH⟩ a hA) | (refine LT ?_; clear hA hH; rintro _ w ⟨oN, rfl, hH⟩ a hA) | (refine AT ?_; clear hA; rintro _ w ⟨oN, cN, rfl, hH2⟩ a hA; clear hH; have hH := (hH2 _ (by (repeat constructor))).tail; clear hH2) | (refine S0T ?_; clear hH; rintro _ w hH) )) | ((first | refine CT ?_ | (refine DT ?_ ?_ <;> intro hc <;> try (exfalso; omega))) <;> repeat' refine CT ?_) | (first | (refine DSK ?_; clear hA a; intro a hA) | (first | (refine DLT ?_; clear hA hH; rintro _ w ⟨oN, rfl, hH⟩; refine ⟨STT, ?_⟩; intro a hA) | (refine DAT ?_; clear hA; rintro _ w ⟨oN, cN, rfl, hH2⟩; clear hH; have hH := (hH2 _ (by (repeat constructor))).tail; clear hH2; refine ⟨STT, ?_⟩; intro a hA))) )
    exact rt1 (.inl rfl) rfl hA rfl ⟨by rw [nextI_no hno], hH.kp⟩

theorem rget_spec (w0 : World) (b N : Nat) (L : List Ob) (z i : Int) (hok : Ok N L) (hR : RfR w0 b N L) :
    Ret Try.prog 55 #[.pointer (some (bat b 0)), .int .i64 z, .int .i64 i] w0 (fun v w => v = .tuple #[.int .u64 (getA L z i).1, .int .i64 (getA L z i).2] ∧ Kp w0 noM w) := by
  have hH : HS w0 noM [] w0 := HS.init w0 noM
  have hL := hok.len
  (refine enter (N := 40) Try.func55 rfl Try.ntmps55 rfl ?_; intro a hA; dsimp only [sl0, Nat.reduceAdd] at hA)
  repeat' (first | (first | (refine GT ?_ ?_ <;> intro hg <;> clear hA a <;> intro a hA <;> (first | exact FA | replace hg := of_decide_eq_true hg | replace hg := of_decide_eq_false hg | skip)) | (refine QT0 ?_; clear hA a; intro a hA) | (first | (refine BT ?_; clear hA hH; rintro _ w ⟨bN, rfl, hH⟩ a hA) | (refine LT ?_; clear hA hH; rintro _ w ⟨oN, rfl, hH⟩ a hA) | (refine AT ?_; clear hA; rintro _ w ⟨oN, cN, rfl, hH2⟩ a hA; clear hH; have hH := (hH2 _ (by (repeat constructor))).tail; clear hH2) | (refine S0T ?_; clear hH; rintro _ w hH) )) | ((first | refine CT ?_ | (refine DT ?_ ?_ <;> intro hc <;> try (exfalso; omega))) <;> repeat' refine CT ?_) | (first | (refine DSK ?_; clear hA a; intro a hA) | (first | (refine DLT ?_; clear hA hH; rintro _ w ⟨oN, rfl, hH⟩; refine ⟨STT, ?_⟩; intro a hA) | (refine DAT ?_; clear hA; rintro _ w ⟨oN, cN, rfl, hH2⟩; clear hH; have hH := (hH2 _ (by (repeat constructor))).tail; clear hH2; refine ⟨STT, ?_⟩; intro a hA))) )
  (refine st_op hA rfl rfl (by decide) (op_call rfl rfl rfl (rfind_spec _ b N L z hL hR)) ?_; clear hA; rintro _ w ⟨rfl, hk⟩ a hA)
  replace hH := hH.keep hk
  clear hk
  obtain ⟨q, hq⟩ := hR
  have hsp := hq.sp
  rcases findI_obj L z with ⟨h1, h2⟩ | ⟨k, o, h1, h2, h3⟩
  · rw [h2] at hA
    repeat' (first | (first | (refine GT ?_ ?_ <;> intro hg <;> clear hA a <;> intro a hA <;> (first | exact FA | replace hg := of_decide_eq_true hg | replace hg := of_decide_eq_false hg | skip)) | (refine QT0 ?_; clear hA a; intro a hA) | (first | (refine BT ?_; clear hA hH; rintro _ w ⟨bN, rfl, hH⟩ a hA) | (refine LT ?_; clear hA hH; rintro _ w ⟨oN, rfl, hH⟩ a hA) | (refine AT ?_; clear hA; rintro _ w ⟨oN, cN, rfl, hH2⟩ a hA; clear hH; have hH := (hH2 _ (by (repeat constructor))).tail; clear hH2) | (refine S0T ?_; clear hH; rintro _ w hH) )) | ((first | refine CT ?_ | (refine DT ?_ ?_ <;> intro hc <;> try (exfalso; omega))) <;> repeat' refine CT ?_) | (first | (refine DSK ?_; clear hA a; intro a hA) | (first | (refine DLT ?_; clear hA hH; rintro _ w ⟨oN, rfl, hH⟩; refine ⟨STT, ?_⟩; intro a hA) | (refine DAT ?_; clear hA; rintro _ w ⟨oN, cN, rfl, hH2⟩; clear hH; have hH := (hH2 _ (by (repeat constructor))).tail; clear hH2; refine ⟨STT, ?_⟩; intro a hA))) )
    exact rt2 (.inl rfl) rfl hA rfl rfl ⟨by simp [getA, h1], hH.kp⟩
  rw [h2] at hA
  have hkl := (List.getElem?_eq_some_iff.1 h3).1
  obtain ⟨d, c, hd, hrd, ca, ck, cf⟩ := hq.at h3
  have hm := (hok.kd o (List.mem_of_getElem? h3)).2
  have hspd : Sp d o.fs.length := hrd.sp (sz := 1) (flat_length encW_len _) (by omega)
  by_cases hir : 0 ≤ i ∧ i < (o.fs.length : Int)
  rotate_left
  · have hgA : getA L z i = (0, 2) := by simp only [getA, h1]; rw [if_neg hir]
    repeat' (first | (first | (refine GT ?_ ?_ <;> intro hg <;> clear hA a <;> intro a hA <;> (first | exact FA | replace hg := of_decide_eq_true hg | replace hg := of_decide_eq_false hg | skip)) | ((first | apply st_ex hA hH rfl rfl (by decide) | apply dr_ex hA rfl rfl rfl (by decide) | apply dr_exp hA rfl rfl rfl (by decide) | apply dr_ex3 hA hH rfl rfl rfl (by decide)); (first | (apply ex_load; rfl; exact cl_w hq.c1 id) | (apply ex_load; rfl; exact cl_rd hq.rO id cf)); clear hA a; intro a hA) | (refine QT0 ?_; clear hA a; intro a hA) | (first | (refine BT ?_; clear hA hH; rintro _ w ⟨bN, rfl, hH⟩ a hA) | (refine LT ?_; clear hA hH; rintro _ w ⟨oN, rfl, hH⟩ a hA) | (refine AT ?_; clear hA; rintro _ w ⟨oN, cN, rfl, hH2⟩ a hA; clear hH; have hH := (hH2 _ (by (repeat constructor))).tail; clear hH2) | (refine S0T ?_; clear hH; rintro _ w hH) )) | ((first | refine CT ?_ | (refine DT ?_ ?_ <;> intro hc <;> try (exfalso; omega))) <;> repeat' refine CT ?_) | (first | (refine DSK ?_; clear hA a; intro a hA) | (first | (refine DLT ?_; clear hA hH; rintro _ w ⟨oN, rfl, hH⟩; refine ⟨STT, ?_⟩; intro a hA) | (refine DAT ?_; clear hA; rintro _ w ⟨oN, cN, rfl, hH2⟩; clear hH; have hH := (hH2 _ (by (repeat constructor))).tail; clear hH2; refine ⟨STT, ?_⟩; intro a hA))) )
    all_goals exact rt2 (.inl rfl) rfl hA rfl rfl ⟨by rw [hgA], hH.kp⟩
  obtain ⟨j, rfl⟩ : ∃ j : Nat, i = j := ⟨i.toNat, by omega⟩
  obtain ⟨y, hy⟩ : ∃ y, o.fs[j]? = some y := ⟨_, List.getElem?_eq_getElem (by omega)⟩
  have hgA : getA L z j = (y, 0) := by simp only [getA, h1]; rw [if_pos hir]; simp [List.getD, hy]
  have cy : (flat encW o.fs)[j * 1]? = some (.int .u64 y) := flat_get0 encW_len hy rfl
  repeat' (first | (first | (refine GT ?_ ?_ <;> intro hg <;> clear hA a <;> intro a hA <;> (first | exact FA | replace hg := of_decide_eq_true hg | replace hg := of_decide_eq_false hg | skip)) | ((first | apply st_ex hA hH rfl rfl (by decide) | apply dr_ex hA rfl rfl rfl (by decide) | apply dr_exp hA rfl rfl rfl (by decide) | apply dr_ex3 hA hH rfl rfl rfl (by decide)); (first | (apply ex_load; rfl; exact cl_w hq.c1 id) | (apply ex_load; rfl; exact cl_rd hq.rO id cf) | (apply ex_load; rfl; exact cl_rd hrd id cy)); clear hA a; intro a hA) | (refine QT0 ?_; clear hA a; intro a hA) | (first | (refine BT ?_; clear hA hH; rintro _ w ⟨bN, rfl, hH⟩ a hA) | (refine LT ?_; clear hA hH; rintro _ w ⟨oN, rfl, hH⟩ a hA) | (refine AT ?_; clear hA; rintro _ w ⟨oN, cN, rfl, hH2⟩ a hA; clear hH; have hH := (hH2 _ (by (repeat constructor))).tail; clear hH2) | (refine S0T ?_; clear hH; rintro _ w hH) )) | ((first | refine CT ?_ | (refine DT ?_ ?_ <;> intro hc <;> try (exfalso; omega))) <;> repeat' refine CT ?_) | (first | (refine DSK ?_; clear hA a; intro a hA) | (first | (refine DLT ?_; clear hA hH; rintro _ w ⟨oN, rfl, hH⟩; refine ⟨STT, ?_⟩; intro a hA) | (refine DAT ?_; clear hA; rintro _ w ⟨oN, cN, rfl, hH2⟩; clear hH; have hH := (hH2 _ (by (repeat constructor))).tail; clear hH2; refine ⟨STT, ?_⟩; intro a hA))) )
  exact rt2 (.inl rfl) rfl hA rfl rfl ⟨by rw [hgA], hH.kp⟩

theorem gap_spec (w0 : World) (b N : Nat) (A B : List Ob) (n : Nat) (hn : n = A.length) (hok : Ok N (A ++ B)) (hR : RfR w0 b N (A ++ B)) :
    Ret Try.prog 66 #[.pointer (some (bat b 0)), .int .i64 n] w0 (fun v w => v = .tuple #[.int .i64 (endA 1 A : Nat), .int .i64 ((nxt N B : Nat) - (endA 1 A : Nat))] ∧ Kp w0 noM w) := by
  have hH : HS w0 noM [] w0 := HS.init w0 noM
  have hL := hok.len
  obtain ⟨q, hq⟩ := hR
  have hsp := hq.sp
  have hn2 := hok.n2
  have hs := hok.split
  have hAB : (A ++ B).length = A.length + B.length := List.length_append
  have hB : B = [] ∧ nxt N B = N ∨ ∃ o B', B = o :: B' ∧ nxt N B = o.a ∧ (A ++ B)[n]? = some o := by
    cases B with
    | nil => exact .inl ⟨rfl, rfl⟩
    | cons o B => exact .inr ⟨o, B, rfl, rfl, by rw [List.getElem?_append_right (by omega), hn, Nat.sub_self]; rfl⟩
  have hBl : B = [] → B.length = 0 := fun h => by rw [h]; rfl
  have hBc : ∀ o B', B = o :: B' → 0 < B.length := fun o B' h => by rw [h]; simp
  have hA1 : (A = [] ∧ n = 0 ∧ endA 1 A = 1) ∨ ∃ k o, n = k + 1 ∧ (A ++ B)[k]? = some o ∧ endA 1 A = o.a + 1 + o.fs.length := by
    rcases List.eq_nil_or_concat A with rfl | ⟨A', o, rfl⟩
    · exact .inl ⟨rfl, hn, rfl⟩
    · rw [List.concat_eq_append] at *
      refine .inr ⟨A'.length, o, by simpa using hn, ?_, endA_snoc A' o 1⟩
      rw [List.getElem?_append_left (by simp)]
      simp
  generalize nxt N B = e2 at *
  generalize endA 1 A = e1 at *
  generalize A ++ B = L at *
  clear hok
  (refine enter (N := 54) Try.func66 rfl Try.ntmps66 rfl ?_; intro a hA; dsimp only [sl0, Nat.reduceAdd] at hA)
  rcases hA1 with ⟨hA0, rfl, rfl⟩ | ⟨k, o, rfl, ho, rfl⟩
  · rcases hB with ⟨hB, rfl⟩ | ⟨o2, B', hB, rfl, ho2⟩
    · have := hBl hB
      repeat' (first | (first | (refine GT ?_ ?_ <;> intro hg <;> clear hA a <;> intro a hA <;> (first | exact FA | replace hg := of_decide_eq_true hg | replace hg := of_decide_eq_false hg | skip)) | ((first | apply st_ex hA hH rfl rfl (by decide) | apply dr_ex hA rfl rfl rfl (by decide) | apply dr_exp hA rfl rfl rfl (by decide) | apply dr_ex3 hA hH rfl rfl rfl (by decide)); (first | (apply ex_load; rfl; exact cl_w hq.c1 id) | (apply ex_load; rfl; exact cl_w hq.c0 id)); clear hA a; intro a hA) | (refine QT0 ?_; clear hA a; intro a hA) | (first | (refine BT ?_; clear hA hH; rintro _ w ⟨bN, rfl, hH⟩ a hA) | (refine LT ?_; clear hA hH; rintro _ w ⟨oN, rfl, hH⟩ a hA) | (refine AT ?_; clear hA; rintro _ w ⟨oN, cN, rfl, hH2⟩ a hA; clear hH; have hH := (hH2 _ (by (repeat constructor))).tail; clear hH2) | (refine S0T ?_; clear hH; rintro _ w hH) )) | ((first | refine CT ?_ | (refine DT ?_ ?_ <;> intro hc <;> try (exfalso; omega))) <;> repeat' refine CT ?_) | (first | (refine DSK ?_; clear hA a; intro a hA) | (first | (refine DLT ?_; clear hA hH; rintro _ w ⟨oN, rfl, hH⟩; refine ⟨STT, ?_⟩; intro a hA) | (refine DAT ?_; clear hA; rintro _ w ⟨oN, cN, rfl, hH2⟩; clear hH; have hH := (hH2 _ (by (repeat constructor))).tail; clear hH2; refine ⟨STT, ?_⟩; intro a hA))) )
      exact rt2 (.inl rfl) rfl hA rfl rfl ⟨rfl, hH.kp⟩
    · have := hBc _ _ hB
      obtain ⟨d2, c2, hd2, hrd2, ca2, ck2, cf2⟩ := hq.at ho2
      repeat' (first | (first | (refine GT ?_ ?_ <;> intro hg <;> clear hA a <;> intro a hA <;> (first | exact FA | replace hg := of_decide_eq_true hg | replace hg := of_decide_eq_false hg | skip)) | ((first | apply st_ex hA hH rfl rfl (by decide) | apply dr_ex hA rfl rfl rfl (by decide) | apply dr_exp hA rfl rfl rfl (by decide) | apply dr_ex3 hA hH rfl rfl rfl (by decide)); (first | (apply ex_load; rfl; exact cl_w hq.c1 id) | (apply ex_load; rfl; exact cl_w hq.c0 id) | (apply ex_load; rfl; exact cl_rd hq.rO id ca2)); clear hA a; intro a hA) | (refine QT0 ?_; clear hA a; intro a hA) | (first | (refine BT ?_; clear hA hH; rintro _ w ⟨bN, rfl, hH⟩ a hA) | (refine LT ?_; clear hA hH; rintro _ w ⟨oN, rfl, hH⟩ a hA) | (refine AT ?_; clear hA; rintro _ w ⟨oN, cN, rfl, hH2⟩ a hA; clear hH; have hH := (hH2 _ (by (repeat constructor))).tail; clear hH2) | (refine S0T ?_; clear hH; rintro _ w hH) )) | ((first | refine CT ?_ | (refine DT ?_ ?_ <;> intro hc <;> try (exfalso; omega))) <;> repeat' refine CT ?_) | (first | (refine DSK ?_; clear hA a; intro a hA) | (first | (refine DLT ?_; clear hA hH; rintro _ w ⟨oN, rfl, hH⟩; refine ⟨STT, ?_⟩; intro a hA) | (refine DAT ?_; clear hA; rintro _ w ⟨oN, cN, rfl, hH2⟩; clear hH; have hH := (hH2 _ (by (repeat constructor))).tail; clear hH2; refine ⟨STT, ?_⟩; intro a hA))) )
      exact rt2 (.inl rfl) rfl hA rfl rfl ⟨rfl, hH.kp⟩
  · obtain ⟨d, c, hd, hrd, ca, ck, cf⟩ := hq.at ho
    repeat' (first | (first | (refine GT ?_ ?_ <;> intro hg <;> clear hA a <;> intro a hA <;> (first | exact FA | replace hg := of_decide_eq_true hg | replace hg := of_decide_eq_false hg | skip)) | (refine QT0 ?_; clear hA a; intro a hA) | (first | (refine BT ?_; clear hA hH; rintro _ w ⟨bN, rfl, hH⟩ a hA) | (refine LT ?_; clear hA hH; rintro _ w ⟨oN, rfl, hH⟩ a hA) | (refine AT ?_; clear hA; rintro _ w ⟨oN, cN, rfl, hH2⟩ a hA; clear hH; have hH := (hH2 _ (by (repeat constructor))).tail; clear hH2) | (refine S0T ?_; clear hH; rintro _ w hH) )) | ((first | refine CT ?_ | (refine DT ?_ ?_ <;> intro hc <;> try (exfalso; omega))) <;> repeat' refine CT ?_) | (first | (refine DSK ?_; clear hA a; intro a hA) | (first | (refine DLT ?_; clear hA hH; rintro _ w ⟨oN, rfl, hH⟩; refine ⟨STT, ?_⟩; intro a hA) | (refine DAT ?_; clear hA; rintro _ w ⟨oN, cN, rfl, hH2⟩; clear hH; have hH := (hH2 _ (by (repeat constructor))).tail; clear hH2; refine ⟨STT, ?_⟩; intro a hA))) )
    (refine wp_draw_HS [(0, 1), (1, 1), (2, 1), (3, 1), (4, 1), (5, 1), (6, 1), (7, 1), (8, 1), (9, 1), (10, 1), (11, 1), (12, 1), (13, 1), (14, 1), (15, 1), (16, 1), (17, 1), (18, 1), (19, 1), (20, 1), (21, 1)] mixed (by decide +kernel) hH ?_; replace hH := hH.drew)
    have ee : ((o.a + 1 : Nat) : Int) + (o.fs.length : Int) = ((o.a + 1 + o.fs.length : Nat) : Int) := by omega
    rcases hB with ⟨hB, rfl⟩ | ⟨o2, B', hB, rfl, ho2⟩
    · have := hBl hB
      repeat' (first | (first | (refine GT ?_ ?_ <;> intro hg <;> clear hA a <;> intro a hA <;> (first | exact FA | replace hg := of_decide_eq_true hg | replace hg := of_decide_eq_false hg | skip)) | ((first | apply st_ex hA hH rfl rfl (by decide) | apply dr_ex hA rfl rfl rfl (by decide) | apply dr_exp hA rfl rfl rfl (by decide) | apply dr_ex3 hA hH rfl rfl rfl (by decide)); (first | (apply ex_load; rfl; exact cl_w hq.c1 id) | (apply ex_load; rfl; exact cl_w hq.c0 id) | (apply ex_load; rfl; exact cl_rd hq.rO id ca) | (apply ex_load; rfl; exact cl_rd hq.rO id cf)); clear hA a; intro a hA) | (refine QT0 ?_; clear hA a; intro a hA) | (first | (refine BT ?_; clear hA hH; rintro _ w ⟨bN, rfl, hH⟩ a hA) | (refine LT ?_; clear hA hH; rintro _ w ⟨oN, rfl, hH⟩ a hA) | (refine AT ?_; clear hA; rintro _ w ⟨oN, cN, rfl, hH2⟩ a hA; clear hH; have hH := (hH2 _ (by (repeat constructor))).tail; clear hH2) | (refine S0T ?_; clear hH; rintro _ w hH) )) | ((first | refine CT ?_ | (refine DT ?_ ?_ <;> intro hc <;> try (exfalso; omega))) <;> repeat' refine CT ?_) | (first | (refine DSK ?_; clear hA a; intro a hA) | (first | (refine DLT ?_; clear hA hH; rintro _ w ⟨oN, rfl, hH⟩; refine ⟨STT, ?_⟩; intro a hA) | (refine DAT ?_; clear hA; rintro _ w ⟨oN, cN, rfl, hH2⟩; clear hH; have hH := (hH2 _ (by (repeat constructor))).tail; clear hH2; refine ⟨STT, ?_⟩; intro a hA))) )
      rw [ee] at hA
      exact rt2 (.inl rfl) rfl hA rfl rfl ⟨rfl, hH.kp⟩
    · have := hBc _ _ hB
      obtain ⟨d2, c2, hd2, hrd2, ca2, ck2, cf2⟩ := hq.at ho2
      repeat' (first | (first | (refine GT ?_ ?_ <;> intro hg <;> clear hA a <;> intro a hA <;> (first | exact FA | replace hg := of_decide_eq_true hg | replace hg := of_decide_eq_false hg | skip)) | ((first | apply st_ex hA hH rfl rfl (by decide) | apply dr_ex hA rfl rfl rfl (by decide) | apply dr_exp hA rfl rfl rfl (by decide) | apply dr_ex3 hA hH rfl rfl rfl (by decide)); (first | (apply ex_load; rfl; exact cl_w hq.c1 id) | (apply ex_load; rfl; exact cl_w hq.c0 id) | (apply ex_load; rfl; exact cl_rd hq.rO id ca) | (apply ex_load; rfl; exact cl_rd hq.rO id cf) | (apply ex_load; rfl; exact cl_rd hq.rO id ca2)); clear hA a; intro a hA) | (refine QT0 ?_; clear hA a; intro a hA) | (first | (refine BT ?_; clear hA hH; rintro _ w ⟨bN, rfl, hH⟩ a hA) | (refine LT ?_; clear hA hH; rintro _ w ⟨oN, rfl, hH⟩ a hA) | (refine AT ?_; clear hA; rintro _ w ⟨oN, cN, rfl, hH2⟩ a hA; clear hH; have hH := (hH2 _ (by (repeat constructor))).tail; clear hH2) | (refine S0T ?_; clear hH; rintro _ w hH) )) | ((first | refine CT ?_ | (refine DT ?_ ?_ <;> intro hc <;> try (exfalso; omega))) <;> repeat' refine CT ?_) | (first | (refine DSK ?_; clear hA a; intro a hA) | (first | (refine DLT ?_; clear hA hH; rintro _ w ⟨oN, rfl, hH⟩; refine ⟨STT, ?_⟩; intro a hA) | (refine DAT ?_; clear hA; rintro _ w ⟨oN, cN, rfl, hH2⟩; clear hH; have hH := (hH2 _ (by (repeat constructor))).tail; clear hH2; refine ⟨STT, ?_⟩; intro a hA))) )
      rw [ee] at hA
      exact rt2 (.inl rfl) rfl hA rfl rfl ⟨rfl, hH.kp⟩

theorem rroom_spec (w0 : World) (b N : Nat) (L : List Ob) (hok : Ok N L) (hR : RfR w0 b N L) :
    Ret Try.prog 59 #[.pointer (some (bat b 0))] w0 (fun v w => v = .tuple #[.int .i64 (roomA (gaps N 1 L)), .int .i64 (longA (gaps N 1 L))] ∧ Kp w0 noM w) := by
  have hH : HS w0 noM [] w0 := HS.init w0 noM
  have hL := hok.len
  have hn2 := hok.n2
  have hu := room_used hok.lay
  have hpos : ∀ i, 0 ≤ roomA (gapT N L i) ∧ roomA (gapT N L i) ≤ roomA (gaps N 1 L) := fun i => by
    unfold gapT
    split
    · have h1 : roomA (gaps N 1 L) = roomA (gin 1 (L.take i)) + roomA (gaps N (endA 1 (L.take i)) (L.drop i)) := by
        rw [← roomA_append, ← gaps_append, List.take_append_drop]
      have hlay := hok.lay
      rw [← List.take_append_drop i L] at hlay
      have h2 := roomA_nonneg (l := gin 1 (L.take i)) fun r hr => (gin_mem hlay.split.1 r hr).2.1
      have h3 := roomA_nonneg (l := gaps N (endA 1 (L.take i)) (L.drop i)) fun r hr => (gaps_mem hlay.split.2 r hr).2.1
      omega
    · have := roomA_nonneg (l := gaps N 1 L) fun r hr => (gaps_mem hok.lay r hr).2.1
      omega
  have h00 : gapT N L 0 = [] := by unfold gapT; rw [if_pos (Nat.zero_le _)]; rfl
  have hlast : gapT N L (L.length + 1) = gaps N 1 L := by unfold gapT; rw [if_neg (by omega)]
  have hstep : ∀ i, i ≤ L.length → endA 1 (L.take i) ≤ nxt N (L.drop i) ∧ nxt N (L.drop i) ≤ N ∧ roomA (gapT N L (i + 1)) = roomA (gapT N L i) + (((nxt N (L.drop i) : Nat) : Int) - (endA 1 (L.take i) : Nat)) ∧
      longA (gapT N L (i + 1)) = if (((nxt N (L.drop i) : Nat) : Int) - (endA 1 (L.take i) : Nat)) > longA (gapT N L i) then (((nxt N (L.drop i) : Nat) : Int) - (endA 1 (L.take i) : Nat)) else longA (gapT N L i) := fun i hi => by
    have h1 := hok
    rw [← List.take_append_drop i L] at h1
    have h2 := h1.split
    refine ⟨h2.1, h2.2, ?_, ?_⟩
    · rw [gapT_succ hi, room_gap1 h2.1]
    · rw [gapT_succ hi, long_gap1 h2.1 (longA_nonneg _)]
  have hr0 : roomA (gapT N L 0) = 0 := by rw [h00]; unfold roomA; rfl
  have hl0 : longA (gapT N L 0) = 0 := by rw [h00]; unfold longA; rfl
  have hgap : ∀ (w : World) (i : Nat), Kp w0 noM w → i ≤ L.length → Ret Try.prog 66 #[.pointer (some (bat b 0)), .int .i64 i] w (fun v w' => v = .tuple #[.int .i64 (endA 1 (L.take i) : Nat), .int .i64 ((nxt N (L.drop i) : Nat) - (endA 1 (L.take i) : Nat))] ∧ Kp w noM w') := fun w i hk hi =>
    gap_spec w b N (L.take i) (L.drop i) i (by rw [List.length_take]; omega) (by rw [List.take_append_drop]; exact hok) (by rw [List.take_append_drop]; exact hR.keep hk)
  obtain ⟨q, hq⟩ := hR
  (refine enter (N := 33) Try.func59 rfl Try.ntmps59 rfl ?_; intro a hA; dsimp only [sl0, Nat.reduceAdd] at hA)
  repeat' (first | (first | (refine GT ?_ ?_ <;> intro hg <;> clear hA a <;> intro a hA <;> (first | exact FA | replace hg := of_decide_eq_true hg | replace hg := of_decide_eq_false hg | skip)) | (refine QT0 ?_; clear hA a; intro a hA) | (first | (refine BT ?_; clear hA hH; rintro _ w ⟨bN, rfl, hH⟩ a hA) | (refine LT ?_; clear hA hH; rintro _ w ⟨oN, rfl, hH⟩ a hA) | (refine AT ?_; clear hA; rintro _ w ⟨oN, cN, rfl, hH2⟩ a hA; clear hH; have hH := (hH2 _ (by (repeat constructor))).tail; clear hH2) | (refine S0T ?_; clear hH; rintro _ w hH) )) | ((first | refine CT ?_ | (refine DT ?_ ?_ <;> intro hc <;> try (exfalso; omega))) <;> repeat' refine CT ?_) | (first | (refine DSK ?_; clear hA a; intro a hA) | (first | (refine DLT ?_; clear hA hH; rintro _ w ⟨oN, rfl, hH⟩; refine ⟨STT, ?_⟩; intro a hA) | (refine DAT ?_; clear hA; rintro _ w ⟨oN, cN, rfl, hH2⟩; clear hH; have hH := (hH2 _ (by (repeat constructor))).tail; clear hH2; refine ⟨STT, ?_⟩; intro a hA))) )
  rw [show (4, Value.int .i64 0) = (4, Value.int .i64 (roomA (gapT N L 0))) by rw [hr0], show (5, Value.int .i64 0) = (5, Value.int .i64 (longA (gapT N L 0))) by rw [hl0]] at hA
  refine wp_lpj (S := Nat) (fun i a w => i ≤ L.length + 1 ∧ HS w0 noM [] w ∧ Sl 33 [(0, .pointer (some (bat b 0))), (4, .int .i64 (roomA (gapT N L i))), (5, .int .i64 (longA (gapT N L i))), (6, .int .i64 i)] a) (fun i => L.length + 1 - i)
    (fun a w => HS w0 noM [] w ∧ Sl 33 [(4, .int .i64 (roomA (gaps N 1 L))), (5, .int .i64 (longA (gaps N 1 L)))] a) 0 ⟨Nat.zero_le _, hH, (hA.sub (by (repeat (first | exact trivial | refine ⟨rfl, ?_⟩))))⟩ ?_ ?_
  · clear hA hH
    rintro i a w ⟨hi, hH, hA⟩
    by_cases hlt : i ≤ L.length
    · obtain ⟨h1, h2, h3, h4⟩ := hstep i hlt
      have hp := hpos (i + 1)
      have hp0 := hpos i
      have hg := hgap
      generalize hx1 : nxt N (L.drop i) = e2 at *
      generalize hx2 : endA 1 (L.take i) = e1 at *
      repeat' (first | (first | (refine GT ?_ ?_ <;> intro hg <;> clear hA a <;> intro a hA <;> (first | exact FA | replace hg := of_decide_eq_true hg | replace hg := of_decide_eq_false hg | skip)) | ((first | apply st_ex hA hH rfl rfl (by decide) | apply dr_ex hA rfl rfl rfl (by decide) | apply dr_exp hA rfl rfl rfl (by decide) | apply dr_ex3 hA hH rfl rfl rfl (by decide)); (first | (apply ex_load; rfl; exact cl_w hq.c1 id)); clear hA a; intro a hA) | (refine QT0 ?_; clear hA a; intro a hA) | (first | (refine BT ?_; clear hA hH; rintro _ w ⟨bN, rfl, hH⟩ a hA) | (refine LT ?_; clear hA hH; rintro _ w ⟨oN, rfl, hH⟩ a hA) | (refine AT ?_; clear hA; rintro _ w ⟨oN, cN, rfl, hH2⟩ a hA; clear hH; have hH := (hH2 _ (by (repeat constructor))).tail; clear hH2) | (refine S0T ?_; clear hH; rintro _ w hH) )) | ((first | refine CT ?_ | (refine DT ?_ ?_ <;> intro hc <;> try (exfalso; omega))) <;> repeat' refine CT ?_) | (first | (refine DSK ?_; clear hA a; intro a hA) | (first | (refine DLT ?_; clear hA hH; rintro _ w ⟨oN, rfl, hH⟩; refine ⟨STT, ?_⟩; intro a hA) | (refine DAT ?_; clear hA; rintro _ w ⟨oN, cN, rfl, hH2⟩; clear hH; have hH := (hH2 _ (by (repeat constructor))).tail; clear hH2; refine ⟨STT, ?_⟩; intro a hA))) )
      (refine st_op hA rfl rfl (by decide) (op_call rfl rfl rfl (hgap _ i hH.kp hlt)) ?_; clear hA; rintro _ w ⟨rfl, hk⟩ a hA)
      rw [hx1, hx2] at hA
      replace hH := hH.keep hk
      clear hk
      rw [h3] at hp
      repeat' (first | (first | (refine GT ?_ ?_ <;> intro hg <;> clear hA a <;> intro a hA <;> (first | exact FA | replace hg := of_decide_eq_true hg | replace hg := of_decide_eq_false hg | skip)) | (refine QT0 ?_; clear hA a; intro a hA) | (first | (refine BT ?_; clear hA hH; rintro _ w ⟨bN, rfl, hH⟩ a hA) | (refine LT ?_; clear hA hH; rintro _ w ⟨oN, rfl, hH⟩ a hA) | (refine AT ?_; clear hA; rintro _ w ⟨oN, cN, rfl, hH2⟩ a hA; clear hH; have hH := (hH2 _ (by (repeat constructor))).tail; clear hH2) | (refine S0T ?_; clear hH; rintro _ w hH) )) | ((first | refine CT ?_ | (refine DT ?_ ?_ <;> intro hc <;> try (exfalso; omega))) <;> repeat' refine CT ?_) | (first | (refine DSK ?_; clear hA a; intro a hA) | (first | (refine DLT ?_; clear hA hH; rintro _ w ⟨oN, rfl, hH⟩; refine ⟨STT, ?_⟩; intro a hA) | (refine DAT ?_; clear hA; rintro _ w ⟨oN, cN, rfl, hH2⟩; clear hH; have hH := (hH2 _ (by (repeat constructor))).tail; clear hH2; refine ⟨STT, ?_⟩; intro a hA))) )
      · rw [← h3] at hA
        rw [if_pos (by assumption)] at h4
        rw [← h4] at hA
        exact ⟨i + 1, ⟨by omega, hH, (hA.sub (by (repeat (first | exact trivial | refine ⟨rfl, ?_⟩))))⟩, by omega⟩
      · rw [← h3] at hA
        rw [if_neg (by assumption)] at h4
        rw [← h4] at hA
        exact ⟨i + 1, ⟨by omega, hH, (hA.sub (by (repeat (first | exact trivial | refine ⟨rfl, ?_⟩))))⟩, by omega⟩
    · obtain rfl : i = L.length + 1 := by omega
      rw [hlast] at hA
      repeat' (first | (first | (refine GT ?_ ?_ <;> intro hg <;> clear hA a <;> intro a hA <;> (first | exact FA | replace hg := of_decide_eq_true hg | replace hg := of_decide_eq_false hg | skip)) | ((first | apply st_ex hA hH rfl rfl (by decide) | apply dr_ex hA rfl rfl rfl (by decide) | apply dr_exp hA rfl rfl rfl (by decide) | apply dr_ex3 hA hH rfl rfl rfl (by decide)); (first | (apply ex_load; rfl; exact cl_w hq.c1 id)); clear hA a; intro a hA) | (refine QT0 ?_; clear hA a; intro a hA) | (first | (refine BT ?_; clear hA hH; rintro _ w ⟨bN, rfl, hH⟩ a hA) | (refine LT ?_; clear hA hH; rintro _ w ⟨oN, rfl, hH⟩ a hA) | (refine AT ?_; clear hA; rintro _ w ⟨oN, cN, rfl, hH2⟩ a hA; clear hH; have hH := (hH2 _ (by (repeat constructor))).tail; clear hH2) | (refine S0T ?_; clear hH; rintro _ w hH) )) | ((first | refine CT ?_ | (refine DT ?_ ?_ <;> intro hc <;> try (exfalso; omega))) <;> repeat' refine CT ?_) | (first | (refine DSK ?_; clear hA a; intro a hA) | (first | (refine DLT ?_; clear hA hH; rintro _ w ⟨oN, rfl, hH⟩; refine ⟨STT, ?_⟩; intro a hA) | (refine DAT ?_; clear hA; rintro _ w ⟨oN, cN, rfl, hH2⟩; clear hH; have hH := (hH2 _ (by (repeat constructor))).tail; clear hH2; refine ⟨STT, ?_⟩; intro a hA))) )
      exact ⟨hH, (hA.sub (by (repeat (first | exact trivial | refine ⟨rfl, ?_⟩))))⟩
  · clear hA hH
    rintro a w ⟨hH, hA⟩
    repeat' (first | (first | (refine GT ?_ ?_ <;> intro hg <;> clear hA a <;> intro a hA <;> (first | exact FA | replace hg := of_decide_eq_true hg | replace hg := of_decide_eq_false hg | skip)) | (refine QT0 ?_; clear hA a; intro a hA) | (first | (refine BT ?_; clear hA hH; rintro _ w ⟨bN, rfl, hH⟩ a hA) | (refine LT ?_; clear hA hH; rintro _ w ⟨oN, rfl, hH⟩ a hA) | (refine AT ?_; clear hA; rintro _ w ⟨oN, cN, rfl, hH2⟩ a hA; clear hH; have hH := (hH2 _ (by (repeat constructor))).tail; clear hH2) | (refine S0T ?_; clear hH; rintro _ w hH) )) | ((first | refine CT ?_ | (refine DT ?_ ?_ <;> intro hc <;> try (exfalso; omega))) <;> repeat' refine CT ?_) | (first | (refine DSK ?_; clear hA a; intro a hA) | (first | (refine DLT ?_; clear hA hH; rintro _ w ⟨oN, rfl, hH⟩; refine ⟨STT, ?_⟩; intro a hA) | (refine DAT ?_; clear hA; rintro _ w ⟨oN, cN, rfl, hH2⟩; clear hH; have hH := (hH2 _ (by (repeat constructor))).tail; clear hH2; refine ⟨STT, ?_⟩; intro a hA))) )
    exact rt2 (.inl rfl) rfl hA rfl rfl ⟨rfl, hH.kp⟩
end Go.Proofs.Ytdfhajdejlhamaa
namespace Go.Proofs.Ytdfhajdejlhamaa
open Go Go.Fw
set_option linter.unusedVariables false
theorem zip_mid {A B : List Ob} {dA dB : List Sd} {o : Ob} {d : Sd} (h : A.length = dA.length) : (A ++ o :: B).zip (dA ++ d :: dB) = A.zip dA ++ (o, d) :: B.zip dB := by
  rw [List.zip_append h]
  rfl
theorem zip_two {A B : List Ob} {dA dB : List Sd} (h : A.length = dA.length) : (A ++ B).zip (dA ++ dB) = A.zip dA ++ B.zip dB := List.zip_append h
theorem flat_two {α : Type} (enc : α → List Value) (a b : List α) : flat enc a ++ flat enc b = flat enc (a ++ b) := (flat_append enc a b).symm
theorem rd_take {α : Type} {enc : α → List Value} {sz : Nat} (henc : ∀ x, (enc x).length = sz) {w : World} {o : Option Addr} {A B : List α} (h : Rd w o (flat enc (A ++ B))) : Rd w o (flat enc A) := by
  have := h.take (A.length * sz)
  rwa [flat_take henc, List.take_left] at this
theorem rd_drop {α : Type} {enc : α → List Value} {sz : Nat} (henc : ∀ x, (enc x).length = sz) {w : World} {o : Option Addr} {A B : List α} {c k n : Nat} (h : Rd w o (flat enc (A ++ B))) (hk : k = A.length) (hn : (A ++ B).length = n) (hc : n ≤ c) : Rd w (subO o c k sz) (flat enc B) := by
  subst hk
  have := h.sub (n := n) (c := c) (k := A.length) (sz := sz) (by rw [flat_length henc, hn]) (by rw [← hn, List.length_append]; omega) hc
  rwa [flat_drop henc, List.drop_left] at this
theorem free_of {N : Nat} {A B : List Ob} {o : Ob} {z : Int} (h : Lay N 1 (A ++ o :: B)) (hz : (o.a : Int) = z) (ho : objA (A ++ o :: B) z = some o) : freeA (A ++ o :: B) z = (0, A ++ B) := by
  subst hz
  simp only [freeA, ho]
  rw [filter_free h]
section
variable {w0 w : World} {M : Nat → Prop} {p q r s x : It} {A B : List It}
theorem HS.re1 (h : HS w0 M [p, q, r, all (A ++ x :: B)] w) : HS w0 M [q, p, all (A ++ B)] w := by
  have h1 := h.perm (H' := [all (A ++ x :: B), q, p, r]) (by (repeat (first | exact List.Perm.nil | refine perm_pick 0 rfl ?_ | refine perm_pick 1 rfl ?_ | refine perm_pick 2 rfl ?_ | refine perm_pick 3 rfl ?_ | refine perm_pick 4 rfl ?_ | refine perm_pick 5 rfl ?_ | refine perm_pick 6 rfl ?_ | refine perm_pick 7 rfl ?_ | refine perm_pick 8 rfl ?_ | refine perm_pick 9 rfl ?_ | refine perm_pick 10 rfl ?_ | refine perm_pick 11 rfl ?_)))
  have h3 := h1.all_out.tail
  exact (h3.perm (H' := [r, q, p, all (A ++ B)]) (by (repeat (first | exact List.Perm.nil | refine perm_pick 0 rfl ?_ | refine perm_pick 1 rfl ?_ | refine perm_pick 2 rfl ?_ | refine perm_pick 3 rfl ?_ | refine perm_pick 4 rfl ?_ | refine perm_pick 5 rfl ?_ | refine perm_pick 6 rfl ?_ | refine perm_pick 7 rfl ?_ | refine perm_pick 8 rfl ?_ | refine perm_pick 9 rfl ?_ | refine perm_pick 10 rfl ?_ | refine perm_pick 11 rfl ?_)))).tail
theorem HS.re3 {c : It} (h : HS w0 M [p, x, c, q, r, all (A ++ B)] w) : HS w0 M [q, p, all (A ++ x :: B)] w := by
  have h1 := h.perm (H' := [c, r, x, all (A ++ B), q, p]) (by (repeat (first | exact List.Perm.nil | refine perm_pick 0 rfl ?_ | refine perm_pick 1 rfl ?_ | refine perm_pick 2 rfl ?_ | refine perm_pick 3 rfl ?_ | refine perm_pick 4 rfl ?_ | refine perm_pick 5 rfl ?_ | refine perm_pick 6 rfl ?_ | refine perm_pick 7 rfl ?_ | refine perm_pick 8 rfl ?_ | refine perm_pick 9 rfl ?_ | refine perm_pick 10 rfl ?_ | refine perm_pick 11 rfl ?_)))
  exact h1.tail.tail.all_in.perm (by (repeat (first | exact List.Perm.nil | refine perm_pick 0 rfl ?_ | refine perm_pick 1 rfl ?_ | refine perm_pick 2 rfl ?_ | refine perm_pick 3 rfl ?_ | refine perm_pick 4 rfl ?_ | refine perm_pick 5 rfl ?_ | refine perm_pick 6 rfl ?_ | refine perm_pick 7 rfl ?_ | refine perm_pick 8 rfl ?_ | refine perm_pick 9 rfl ?_ | refine perm_pick 10 rfl ?_ | refine perm_pick 11 rfl ?_)))
theorem HS.re2 (h : HS w0 M [x, q, p, all (A ++ s :: B)] w) : HS w0 M [q, p, all (A ++ x :: B)] w := by
  have h1 := h.perm (H' := [all (A ++ s :: B), x, q, p]) (by (repeat (first | exact List.Perm.nil | refine perm_pick 0 rfl ?_ | refine perm_pick 1 rfl ?_ | refine perm_pick 2 rfl ?_ | refine perm_pick 3 rfl ?_ | refine perm_pick 4 rfl ?_ | refine perm_pick 5 rfl ?_ | refine perm_pick 6 rfl ?_ | refine perm_pick 7 rfl ?_ | refine perm_pick 8 rfl ?_ | refine perm_pick 9 rfl ?_ | refine perm_pick 10 rfl ?_ | refine perm_pick 11 rfl ?_)))
  have h3 := h1.all_out.tail
  have h4 := h3.perm (H' := [x, all (A ++ B), q, p]) (by (repeat (first | exact List.Perm.nil | refine perm_pick 0 rfl ?_ | refine perm_pick 1 rfl ?_ | refine perm_pick 2 rfl ?_ | refine perm_pick 3 rfl ?_ | refine perm_pick 4 rfl ?_ | refine perm_pick 5 rfl ?_ | refine perm_pick 6 rfl ?_ | refine perm_pick 7 rfl ?_ | refine perm_pick 8 rfl ?_ | refine perm_pick 9 rfl ?_ | refine perm_pick 10 rfl ?_ | refine perm_pick 11 rfl ?_)))
  exact h4.all_in.perm (by (repeat (first | exact List.Perm.nil | refine perm_pick 0 rfl ?_ | refine perm_pick 1 rfl ?_ | refine perm_pick 2 rfl ?_ | refine perm_pick 3 rfl ?_ | refine perm_pick 4 rfl ?_ | refine perm_pick 5 rfl ?_ | refine perm_pick 6 rfl ?_ | refine perm_pick 7 rfl ?_ | refine perm_pick 8 rfl ?_ | refine perm_pick 9 rfl ?_ | refine perm_pick 10 rfl ?_ | refine perm_pick 11 rfl ?_)))
end
theorem rf_close {w0 w : World} {M : Nat → Prop} {b N : Nat} {A B : List Ob} {dA dB : List Sd} {oN : Option Addr} {cN : Nat} (hl : dA.length = A.length) (hl2 : dB.length = B.length)
    (h : HS w0 M [cb b 56 [.int .i64 N, .slice oN (A ++ B).length cN], own 53 3 oN (A ++ B).length cN (flat encO ((A ++ B).zip (dA ++ dB))), all (owns 33 1 encW dA (A.map (·.fs)) ++ owns 33 1 encW dB (B.map (·.fs)))] w) : HS w0 M [rfI b N (A ++ B)] w := by
  refine rf_shut ⟨oN, cN, dA ++ dB⟩ (by simp [hl, hl2]) ?_
  unfold rfQ
  rw [List.map_append, owns_split (by rw [List.length_map]; exact hl)]
  exact h
theorem rf_close0 {w0 w : World} {M : Nat → Prop} {b N : Nat} (h : HS w0 M [cb b 56 [.int .i64 N, .slice none 0 0], own 53 3 none 0 0 [], all []] w) : HS w0 M [rfI b N []] w :=
  rf_shut ⟨none, 0, []⟩ rfl h
theorem set_mid {α : Type} (X Y : List α) (y y' : α) : (X ++ y :: Y).set X.length y' = X ++ y' :: Y := by simp
theorem flat_set2 {L : List Ob} {ds : List Sd} {k : Nat} {o o' : Ob} {d d' : Sd} (h : (L.zip ds)[k]? = some (o, d)) (ha : o'.a = o.a) (hk : o'.kind = o.kind) : put (flat encO (L.zip ds)) (k * 3 + 2) [.slice d'.1 d'.2.1 d'.2.2] = flat encO ((L.zip ds).set k (o', d')) :=
  flat_put encO_len h (by unfold encO; dsimp only; rw [ha, hk]; rfl) (by simp)
theorem rf_close2 {w0 w : World} {M : Nat → Prop} {b N : Nat} {A B : List Ob} {dA dB : List Sd} {o : Ob} {d : Sd} {oN : Option Addr} {cN : Nat} (hl : dA.length = A.length) (hl2 : dB.length = B.length)
    (h : HS w0 M [cb b 56 [.int .i64 N, .slice oN (A ++ o :: B).length cN], own 53 3 oN (A ++ o :: B).length cN (flat encO (A.zip dA ++ (o, d) :: B.zip dB)), all (owns 33 1 encW dA (A.map (·.fs)) ++ own 33 1 d.1 d.2.1 d.2.2 (flat encW o.fs) :: owns 33 1 encW dB (B.map (·.fs)))] w) : HS w0 M [rfI b N (A ++ o :: B)] w := by
  refine rf_shut ⟨oN, cN, dA ++ d :: dB⟩ (by simp [hl, hl2]) ?_
  unfold rfQ
  rw [List.map_append, owns_split (by rw [List.length_map]; exact hl), List.map_cons, owns_cons, zip_mid hl.symm]
  exact h
theorem flat_new (Z1 Z2 : List (Ob × Sd)) (x : Ob × Sd) : flat encO Z1 ++ [.int .i64 x.1.a, .int .i64 x.1.kind, .slice x.2.1 x.2.2.1 x.2.2.2] ++ flat encO Z2 = flat encO (Z1 ++ x :: Z2) := by
  rw [flat_append, show flat encO (x :: Z2) = encO x ++ flat encO Z2 by simp [flat]]
  simp [encO]
theorem insA_at {N size : Nat} {new : Nat → Ob} {B : List Ob} : ∀ {A : List Ob} {p : Nat}, Sm size p A → size < nxt N B - endA p A → insA N size new p (A ++ B) = some (endA p A, A ++ new (endA p A) :: B) := by
  intro A
  induction A with
  | nil =>
    intro p _ h
    cases B with
    | nil => exact if_pos h
    | cons o B => exact if_pos h
  | cons a A ih =>
    intro p h1 h2
    have := ih (p := a.fin) h1.2 h2
    show insA N size new p (a :: (A ++ B)) = _
    simp only [insA]
    rw [if_neg h1.1, this]
    rfl
theorem insA_no {N size : Nat} {new : Nat → Ob} : ∀ {A : List Ob} {p : Nat}, Sm size p A → ¬ size < N - endA p A → insA N size new p A = none := by
  intro A
  induction A with
  | nil => intro p _ h; exact if_neg h
  | cons a A ih =>
    intro p h1 h2
    have := ih (p := a.fin) h1.2 h2
    simp only [insA]
    rw [if_neg h1.1, this]
    rfl
theorem Sm.snoc {size : Nat} {o : Ob} : ∀ {A : List Ob} {p : Nat}, Sm size p A → ¬ size < o.a - endA p A → Sm size p (A ++ [o]) := by
  intro A
  induction A with
  | nil => intro p _ h; exact ⟨h, trivial⟩
  | cons a A ih => intro p h1 h2; exact ⟨h1.1, ih (p := a.fin) h1.2 h2⟩
set_option maxRecDepth 10000 attribute [local irreducible] Code.wp wpList Calls Ex Op1 sat bat blk cb own Go.Fw.mp Go.Fw.mpO Go.Fw.mpI Go.Fw.mpE Go.Fw.itr HS Rd Ret wkD Hp Cl Cls Exit.then Exit.inBlock Exit.noGoto bodyPost Go.Fw.flat wk2 Go.Fw.all Go.Fw.owns wpOp
attribute [local irreducible] hdA gaps isA roomA longA nextA gapT findI objA

theorem rfree_spec (w0 : World) (M : Nat → Prop) (b N : Nat) (L : List Ob) (z : Int) (hok : Ok N L) (hH : HS w0 M [rfI b N L] w0) :
    Ret Try.prog 85 #[.pointer (some (bat b 0)), .int .i64 z] w0 (fun v w => v = .int .i64 (freeA L z).1 ∧ HS w0 M [rfI b N (freeA L z).2] w) := by
  have hL := hok.len
  (refine enter (N := 32) Try.func85 rfl Try.ntmps85 rfl ?_; intro a hA; dsimp only [sl0, Nat.reduceAdd] at hA)
  repeat' (first | (first | (refine GT ?_ ?_ <;> intro hg <;> clear hA a <;> intro a hA <;> (first | exact FA | replace hg := of_decide_eq_true hg | replace hg := of_decide_eq_false hg | skip)) | (refine QT0 ?_; clear hA a; intro a hA) | (first | (refine BT ?_; clear hA hH; rintro _ w ⟨bN, rfl, hH⟩ a hA) | (refine LT ?_; clear hA hH; rintro _ w ⟨oN, rfl, hH⟩ a hA) | (refine AT ?_; clear hA; rintro _ w ⟨oN, cN, rfl, hH2⟩ a hA; clear hH; have hH := (hH2 _ (by (repeat constructor))).tail; clear hH2) | (refine S0T ?_; clear hH; rintro _ w hH) )) | ((first | refine CT ?_ | (refine DT ?_ ?_ <;> intro hc <;> try (exfalso; omega))) <;> repeat' refine CT ?_) | (first | (refine DSK ?_; clear hA a; intro a hA) | (first | (refine DLT ?_; clear hA hH; rintro _ w ⟨oN, rfl, hH⟩; refine ⟨STT, ?_⟩; intro a hA) | (refine DAT ?_; clear hA; rintro _ w ⟨oN, cN, rfl, hH2⟩; clear hH; have hH := (hH2 _ (by (repeat constructor))).tail; clear hH2; refine ⟨STT, ?_⟩; intro a hA))) )
  (refine st_op hA rfl rfl (by decide) (op_call rfl rfl rfl (rfind_spec _ b N L z hL (rf_read hH))) ?_; clear hA; rintro _ w ⟨rfl, hk⟩ a hA)
  replace hH := hH.keep hk
  clear hk
  rcases findI_obj L z with ⟨h1, h2⟩ | ⟨k, o, h1, h2, h3⟩
  · have hf : freeA L z = (7, L) := by simp only [freeA, h1]
    rw [h2] at hA
    rw [hf]
    repeat' (first | (first | (refine GT ?_ ?_ <;> intro hg <;> clear hA a <;> intro a hA <;> (first | exact FA | replace hg := of_decide_eq_true hg | replace hg := of_decide_eq_false hg | skip)) | (refine QT0 ?_; clear hA a; intro a hA) | (first | (refine BT ?_; clear hA hH; rintro _ w ⟨bN, rfl, hH⟩ a hA) | (refine LT ?_; clear hA hH; rintro _ w ⟨oN, rfl, hH⟩ a hA) | (refine AT ?_; clear hA; rintro _ w ⟨oN, cN, rfl, hH2⟩ a hA; clear hH; have hH := (hH2 _ (by (repeat constructor))).tail; clear hH2) | (refine S0T ?_; clear hH; rintro _ w hH) )) | ((first | refine CT ?_ | (refine DT ?_ ?_ <;> intro hc <;> try (exfalso; omega))) <;> repeat' refine CT ?_) | (first | (refine DSK ?_; clear hA a; intro a hA) | (first | (refine DLT ?_; clear hA hH; rintro _ w ⟨oN, rfl, hH⟩; refine ⟨STT, ?_⟩; intro a hA) | (refine DAT ?_; clear hA; rintro _ w ⟨oN, cN, rfl, hH2⟩; clear hH; have hH := (hH2 _ (by (repeat constructor))).tail; clear hH2; refine ⟨STT, ?_⟩; intro a hA))) )
    exact rt1 (.inl rfl) rfl hA rfl ⟨rfl, hH⟩
  rw [h2] at hA
  obtain ⟨q, hql, hH2⟩ := rf_open hH
  have hq := rfQ_read hql hH2
  clear hH
  have hH := hH2
  clear hH2
  have hsp := hq.sp
  obtain ⟨d, c, hd, hrd, ca, ck, cf⟩ := hq.at h3
  obtain ⟨qo, qc, ds⟩ := q
  dsimp only at hd hql
  obtain ⟨e1, e2⟩ := split_at h3
  obtain ⟨e3, e4⟩ := split_at hd
  generalize L.take k = A at *
  generalize L.drop (k + 1) = B at *
  generalize ds.take k = dA at *
  generalize ds.drop (k + 1) = dB at *
  subst e1
  subst e3
  subst e2
  have hz := (objA_some h1).2
  rw [free_of hok.lay hz h1]
  unfold rfQ at hH
  dsimp only at hH
  rw [zip_mid e4.symm] at hH
  have hlen : (A ++ o :: B).length = A.length + (B.length + 1) := by rw [List.length_append, List.length_cons]
  have hql2 : B.length = dB.length := by simp at hql; omega
  have hz1 : (A.zip dA).length = A.length := by rw [List.length_zip]; omega
  have hz2 : (B.zip dB).length = B.length := by rw [List.length_zip]; omega
  have hk1 : A.length + 1 = (A.zip dA ++ [(o, d, o.fs.length, c)]).length := by rw [List.length_append, hz1]; rfl
  have hk2 : ((A.zip dA ++ [(o, d, o.fs.length, c)]) ++ B.zip dB).length = A.length + (B.length + 1) := by rw [List.length_append, ← hk1, hz2]; omega
  have hqc := hq.nO
  dsimp only at hqc hsp
  rw [hlen] at hqc
  rw [hlen] at hL
  repeat' (first | (first | (refine GT ?_ ?_ <;> intro hg <;> clear hA a <;> intro a hA <;> (first | exact FA | replace hg := of_decide_eq_true hg | replace hg := of_decide_eq_false hg | skip)) | ((first | apply st_ex hA hH rfl rfl (by decide) | apply dr_ex hA rfl rfl rfl (by decide) | apply dr_exp hA rfl rfl rfl (by decide) | apply dr_ex3 hA hH rfl rfl rfl (by decide)); (first | (apply ex_slice_hi (k := A.length); rfl; rfl; rfl; omega)); clear hA a; intro a hA) | (refine QT0 ?_; clear hA a; intro a hA) | (first | (refine BT ?_; clear hA hH; rintro _ w ⟨bN, rfl, hH⟩ a hA) | (refine LT ?_; clear hA hH; rintro _ w ⟨oN, rfl, hH⟩ a hA) | (refine AT ?_; clear hA; rintro _ w ⟨oN, cN, rfl, hH2⟩ a hA; clear hH; have hH := (hH2 _ (by (repeat constructor))).tail; clear hH2) | (refine S0T ?_; clear hH; rintro _ w hH) | (apply st_op hA rfl rfl (by decide); apply op_append; rfl; rfl; exact hH; exact MEMT; exact rd_take encO_len (hH.own_rd (o := qo) (by exact MEMT)); exact (by rw [flat_length encO_len, hz1]); rfl; decide; exact flat_one_cell (fun _ => rfl) _; (unfold maxLen; omega); omega; clear hA; rintro _ w ⟨oN, cN, rfl, hH2⟩ a hA; clear hH; have hH := hH2 _ (by (repeat constructor)); clear hH2))) | ((first | refine CT ?_ | (refine DT ?_ ?_ <;> intro hc <;> try (exfalso; omega))) <;> repeat' refine CT ?_) | (first | (refine DSK ?_; clear hA a; intro a hA) | (first | (refine DLT ?_; clear hA hH; rintro _ w ⟨oN, rfl, hH⟩; refine ⟨STT, ?_⟩; intro a hA) | (refine DAT ?_; clear hA; rintro _ w ⟨oN, cN, rfl, hH2⟩; clear hH; have hH := (hH2 _ (by (repeat constructor))).tail; clear hH2; refine ⟨STT, ?_⟩; intro a hA))) )
  simp only [Nat.zero_add, List.nil_append] at hH hA
  rw [hlen] at hA
  repeat' (first | (first | (refine GT ?_ ?_ <;> intro hg <;> clear hA a <;> intro a hA <;> (first | exact FA | replace hg := of_decide_eq_true hg | replace hg := of_decide_eq_false hg | skip)) | ((first | apply st_ex hA hH rfl rfl (by decide) | apply dr_ex hA rfl rfl rfl (by decide) | apply dr_exp hA rfl rfl rfl (by decide) | apply dr_ex3 hA hH rfl rfl rfl (by decide)); (first | (apply ex_slice_lo (k := A.length + 1); rfl; rfl; rfl; omega)); clear hA a; intro a hA) | (refine QT0 ?_; clear hA a; intro a hA) | (first | (refine BT ?_; clear hA hH; rintro _ w ⟨bN, rfl, hH⟩ a hA) | (refine LT ?_; clear hA hH; rintro _ w ⟨oN, rfl, hH⟩ a hA) | (refine AT ?_; clear hA; rintro _ w ⟨oN, cN, rfl, hH2⟩ a hA; clear hH; have hH := (hH2 _ (by (repeat constructor))).tail; clear hH2) | (refine S0T ?_; clear hH; rintro _ w hH) | (apply st_op hA rfl rfl (by decide); apply op_append; rfl; rfl; exact hH; exact MEMT; exact rd_drop encO_len (A := A.zip dA ++ [(o, d, o.fs.length, c)]) (B := B.zip dB) (k := A.length + 1) (n := A.length + (B.length + 1)) (by rw [List.append_assoc]; exact hH.own_rd (o := qo) (by exact MEMT)) hk1 hk2 (by omega); exact (by rw [flat_length encO_len, hz2]; omega); rfl; decide; exact flat_one_cell (fun _ => rfl) _; (unfold maxLen; omega); omega; clear hA; rintro _ w ⟨oN, cN, rfl, hH2⟩ a hA; clear hH; have hH := hH2 _ (by (repeat constructor)); clear hH2) | (apply st_op0 hA rfl rfl; apply op_store_fld; rfl; rfl; rfl; exact hH; (repeat constructor); (repeat rfl); clear hH; rintro _ w hH))) | ((first | refine CT ?_ | (refine DT ?_ ?_ <;> intro hc <;> try (exfalso; omega))) <;> repeat' refine CT ?_) | (first | (refine DSK ?_; clear hA a; intro a hA) | (first | (refine DLT ?_; clear hA hH; rintro _ w ⟨oN, rfl, hH⟩; refine ⟨STT, ?_⟩; intro a hA) | (refine DAT ?_; clear hA; rintro _ w ⟨oN, cN, rfl, hH2⟩; clear hH; have hH := (hH2 _ (by (repeat constructor))).tail; clear hH2; refine ⟨STT, ?_⟩; intro a hA))) )
  have en : A.length + (A.length + (B.length + 1) - (A.length + 1)) = (A ++ B).length := by rw [List.length_append]; omega
  rw [en, flat_two, ← zip_two e4.symm] at hH
  refine rt1 (.inl rfl) rfl hA rfl ⟨rfl, ?_⟩
  rw [List.map_append, List.map_cons, owns_split (by rw [List.length_map]; exact e4), owns_cons] at hH
  exact rf_close e4 hql2.symm (HS.re1 hH)

theorem rset_spec (w0 : World) (M : Nat → Prop) (b N : Nat) (L : List Ob) (z i x : Int) (hok : Ok N L) (hH : HS w0 M [rfI b N L] w0) :
    Ret Try.prog 31 #[.pointer (some (bat b 0)), .int .i64 z, .int .i64 i, .int .u64 x] w0 (fun v w => v = .int .i64 (setA L z i x).1 ∧ HS w0 M [rfI b N (setA L z i x).2] w) := by
  have hL := hok.len
  (refine enter (N := 53) Try.func31 rfl Try.ntmps31 rfl ?_; intro a hA; dsimp only [sl0, Nat.reduceAdd] at hA)
  repeat' (first | (first | (refine GT ?_ ?_ <;> intro hg <;> clear hA a <;> intro a hA <;> (first | exact FA | replace hg := of_decide_eq_true hg | replace hg := of_decide_eq_false hg | skip)) | (refine QT0 ?_; clear hA a; intro a hA) | (first | (refine BT ?_; clear hA hH; rintro _ w ⟨bN, rfl, hH⟩ a hA) | (refine LT ?_; clear hA hH; rintro _ w ⟨oN, rfl, hH⟩ a hA) | (refine AT ?_; clear hA; rintro _ w ⟨oN, cN, rfl, hH2⟩ a hA; clear hH; have hH := (hH2 _ (by (repeat constructor))).tail; clear hH2) | (refine S0T ?_; clear hH; rintro _ w hH) )) | ((first | refine CT ?_ | (refine DT ?_ ?_ <;> intro hc <;> try (exfalso; omega))) <;> repeat' refine CT ?_) | (first | (refine DSK ?_; clear hA a; intro a hA) | (first | (refine DLT ?_; clear hA hH; rintro _ w ⟨oN, rfl, hH⟩; refine ⟨STT, ?_⟩; intro a hA) | (refine DAT ?_; clear hA; rintro _ w ⟨oN, cN, rfl, hH2⟩; clear hH; have hH := (hH2 _ (by (repeat constructor))).tail; clear hH2; refine ⟨STT, ?_⟩; intro a hA))) )
  (refine st_op hA rfl rfl (by decide) (op_call rfl rfl rfl (rfind_spec _ b N L z hL (rf_read hH))) ?_; clear hA; rintro _ w ⟨rfl, hk⟩ a hA)
  replace hH := hH.keep hk
  clear hk
  rcases findI_obj L z with ⟨h1, h2⟩ | ⟨k, o, h1, h2, h3⟩
  · have hf : setA L z i x = (7, L) := by simp only [setA, h1]
    rw [h2] at hA
    rw [hf]
    repeat' (first | (first | (refine GT ?_ ?_ <;> intro hg <;> clear hA a <;> intro a hA <;> (first | exact FA | replace hg := of_decide_eq_true hg | replace hg := of_decide_eq_false hg | skip)) | (refine QT0 ?_; clear hA a; intro a hA) | (first | (refine BT ?_; clear hA hH; rintro _ w ⟨bN, rfl, hH⟩ a hA) | (refine LT ?_; clear hA hH; rintro _ w ⟨oN, rfl, hH⟩ a hA) | (refine AT ?_; clear hA; rintro _ w ⟨oN, cN, rfl, hH2⟩ a hA; clear hH; have hH := (hH2 _ (by (repeat constructor))).tail; clear hH2) | (refine S0T ?_; clear hH; rintro _ w hH) )) | ((first | refine CT ?_ | (refine DT ?_ ?_ <;> intro hc <;> try (exfalso; omega))) <;> repeat' refine CT ?_) | (first | (refine DSK ?_; clear hA a; intro a hA) | (first | (refine DLT ?_; clear hA hH; rintro _ w ⟨oN, rfl, hH⟩; refine ⟨STT, ?_⟩; intro a hA) | (refine DAT ?_; clear hA; rintro _ w ⟨oN, cN, rfl, hH2⟩; clear hH; have hH := (hH2 _ (by (repeat constructor))).tail; clear hH2; refine ⟨STT, ?_⟩; intro a hA))) )
    exact rt1 (.inl rfl) rfl hA rfl ⟨rfl, hH⟩
  rw [h2] at hA
  have hkL := (List.getElem?_eq_some_iff.1 h3).1
  have hm := (hok.kd o (List.mem_of_getElem? h3)).2
  by_cases hir : 0 ≤ i ∧ i < (o.fs.length : Int)
  rotate_left
  · have hf : setA L z i x = (2, L) := by simp only [setA, h1]; rw [if_neg hir]
    rw [hf]
    obtain ⟨q, hql, hH2⟩ := rf_open hH
    have hq := rfQ_read hql hH2
    have hsp := hq.sp
    obtain ⟨d, c, hd, hrd, ca, ck, cf⟩ := hq.at h3
    clear hH
    have hH := hH2
    clear hH2
    unfold rfQ at hH
    repeat' (first | (first | (refine GT ?_ ?_ <;> intro hg <;> clear hA a <;> intro a hA <;> (first | exact FA | replace hg := of_decide_eq_true hg | replace hg := of_decide_eq_false hg | skip)) | ((first | apply st_ex hA hH rfl rfl (by decide) | apply dr_ex hA rfl rfl rfl (by decide) | apply dr_exp hA rfl rfl rfl (by decide) | apply dr_ex3 hA hH rfl rfl rfl (by decide)); (first | (apply ex_load; rfl; apply cl_own; exact MEMT; exact cf)); clear hA a; intro a hA) | (refine QT0 ?_; clear hA a; intro a hA) | (first | (refine BT ?_; clear hA hH; rintro _ w ⟨bN, rfl, hH⟩ a hA) | (refine LT ?_; clear hA hH; rintro _ w ⟨oN, rfl, hH⟩ a hA) | (refine AT ?_; clear hA; rintro _ w ⟨oN, cN, rfl, hH2⟩ a hA; clear hH; have hH := (hH2 _ (by (repeat constructor))).tail; clear hH2) | (refine S0T ?_; clear hH; rintro _ w hH) )) | ((first | refine CT ?_ | (refine DT ?_ ?_ <;> intro hc <;> try (exfalso; omega))) <;> repeat' refine CT ?_) | (first | (refine DSK ?_; clear hA a; intro a hA) | (first | (refine DLT ?_; clear hA hH; rintro _ w ⟨oN, rfl, hH⟩; refine ⟨STT, ?_⟩; intro a hA) | (refine DAT ?_; clear hA; rintro _ w ⟨oN, cN, rfl, hH2⟩; clear hH; have hH := (hH2 _ (by (repeat constructor))).tail; clear hH2; refine ⟨STT, ?_⟩; intro a hA))) )
    all_goals exact rt1 (.inl rfl) rfl hA rfl ⟨rfl, rf_shut q hql hH⟩
  obtain ⟨j, rfl⟩ : ∃ j : Nat, i = j := ⟨i.toNat, by omega⟩
  have hj : j < o.fs.length := by omega
  obtain ⟨q, hql, hH2⟩ := rf_open hH
  have hq := rfQ_read hql hH2
  clear hH
  have hH := hH2
  clear hH2
  have hsp := hq.sp
  obtain ⟨d, c, hd, hrd, ca, ck, cf⟩ := hq.at h3
  obtain ⟨qo, qc, ds⟩ := q
  dsimp only at hd hql ca ck cf
  have hzL : (L.zip ds)[k]? = some (o, (d, o.fs.length, c)) := zip_at h3 hd
  have hzl : (L.zip ds).length = L.length := by rw [List.length_zip, hql]; omega
  have hfs : setA L z j x = (0, setL L o.a j x) := by
    have := (objA_some h1).2
    subst this
    simp only [setA, h1]; rw [if_pos hir]; rfl
  rw [hfs]
  unfold rfQ at hH
  dsimp only at hH
  repeat' (first | (first | (refine GT ?_ ?_ <;> intro hg <;> clear hA a <;> intro a hA <;> (first | exact FA | replace hg := of_decide_eq_true hg | replace hg := of_decide_eq_false hg | skip)) | ((first | apply st_ex hA hH rfl rfl (by decide) | apply dr_ex hA rfl rfl rfl (by decide) | apply dr_exp hA rfl rfl rfl (by decide) | apply dr_ex3 hA hH rfl rfl rfl (by decide)); (first | (apply ex_load; rfl; apply cl_own; exact MEMT; exact cf)); clear hA a; intro a hA) | (refine QT0 ?_; clear hA a; intro a hA) | (first | (refine BT ?_; clear hA hH; rintro _ w ⟨bN, rfl, hH⟩ a hA) | (refine LT ?_; clear hA hH; rintro _ w ⟨oN, rfl, hH⟩ a hA) | (refine AT ?_; clear hA; rintro _ w ⟨oN, cN, rfl, hH2⟩ a hA; clear hH; have hH := (hH2 _ (by (repeat constructor))).tail; clear hH2) | (refine S0T ?_; clear hH; rintro _ w hH) )) | ((first | refine CT ?_ | (refine DT ?_ ?_ <;> intro hc <;> try (exfalso; omega))) <;> repeat' refine CT ?_) | (first | (refine DSK ?_; clear hA a; intro a hA) | (first | (refine DLT ?_; clear hA hH; rintro _ w ⟨oN, rfl, hH⟩; refine ⟨STT, ?_⟩; intro a hA) | (refine DAT ?_; clear hA; rintro _ w ⟨oN, cN, rfl, hH2⟩; clear hH; have hH := (hH2 _ (by (repeat constructor))).tail; clear hH2; refine ⟨STT, ?_⟩; intro a hA))) )
  have hrow : (L.map (·.fs))[k]? = some o.fs := by rw [List.getElem?_map, h3]; rfl
  repeat' (first | (first | (refine GT ?_ ?_ <;> intro hg <;> clear hA a <;> intro a hA <;> (first | exact FA | replace hg := of_decide_eq_true hg | replace hg := of_decide_eq_false hg | skip)) | ((first | apply st_ex hA hH rfl rfl (by decide) | apply dr_ex hA rfl rfl rfl (by decide) | apply dr_exp hA rfl rfl rfl (by decide) | apply dr_ex3 hA hH rfl rfl rfl (by decide)); (first | (apply ex_load; rfl; apply cl_own; exact MEMT; exact cf)); clear hA a; intro a hA) | (refine QT0 ?_; clear hA a; intro a hA) | (first | (refine BT ?_; clear hA hH; rintro _ w ⟨bN, rfl, hH⟩ a hA) | (refine LT ?_; clear hA hH; rintro _ w ⟨oN, rfl, hH⟩ a hA) | (refine AT ?_; clear hA; rintro _ w ⟨oN, cN, rfl, hH2⟩ a hA; clear hH; have hH := (hH2 _ (by (repeat constructor))).tail; clear hH2) | (refine S0T ?_; clear hH; rintro _ w hH) | (apply st_op hA rfl rfl (by decide); apply op_append; rfl; rfl; exact hH; exact MEMT; exact (hH.owns_rd (by exact MEMT) hd hrow).1; exact (flat_length encW_len _); rfl; decide; exact flat_one_cell (fun _ => rfl) _; (unfold maxLen; omega); omega; clear hA; rintro _ w ⟨oN, cN, rfl, hH2⟩ a hA; clear hH; have hH := hH2 _ (by (repeat constructor)); clear hH2))) | ((first | refine CT ?_ | (refine DT ?_ ?_ <;> intro hc <;> try (exfalso; omega))) <;> repeat' refine CT ?_) | (first | (refine DSK ?_; clear hA a; intro a hA) | (first | (refine DLT ?_; clear hA hH; rintro _ w ⟨oN, rfl, hH⟩; refine ⟨STT, ?_⟩; intro a hA) | (refine DAT ?_; clear hA; rintro _ w ⟨oN, cN, rfl, hH2⟩; clear hH; have hH := (hH2 _ (by (repeat constructor))).tail; clear hH2; refine ⟨STT, ?_⟩; intro a hA))) )
  simp only [Nat.zero_add, List.nil_append] at hH hA
  have hspN : Sp oN o.fs.length := hH.own_sp (by exact MEMT)
  repeat' (first | (first | (refine GT ?_ ?_ <;> intro hg <;> clear hA a <;> intro a hA <;> (first | exact FA | replace hg := of_decide_eq_true hg | replace hg := of_decide_eq_false hg | skip)) | ((first | apply st_ex hA hH rfl rfl (by decide) | apply dr_ex hA rfl rfl rfl (by decide) | apply dr_exp hA rfl rfl rfl (by decide) | apply dr_ex3 hA hH rfl rfl rfl (by decide)); (first | (apply ex_load; rfl; apply cl_own; exact MEMT; exact cf)); clear hA a; intro a hA) | (refine QT0 ?_; clear hA a; intro a hA) | (first | (refine BT ?_; clear hA hH; rintro _ w ⟨bN, rfl, hH⟩ a hA) | (refine LT ?_; clear hA hH; rintro _ w ⟨oN, rfl, hH⟩ a hA) | (refine AT ?_; clear hA; rintro _ w ⟨oN, cN, rfl, hH2⟩ a hA; clear hH; have hH := (hH2 _ (by (repeat constructor))).tail; clear hH2) | (refine S0T ?_; clear hH; rintro _ w hH) | (apply st_op0 hA rfl rfl; apply op_set1 (enc := encW) (y0 := x) (j := j * 1); rfl; rfl; rfl; rfl; exact encW_len; exact hH; (repeat constructor); omega; clear hH; rintro _ w hH) | (apply st_op0 hA rfl rfl; apply op_store_own1 (o := qo); rfl; rfl; rfl; exact hH; (repeat constructor); (rw [flat_length encO_len, hzl]; omega); exact flat_set2 (d' := (oN, o.fs.length, cN)) (o' := { o with fs := o.fs.set j x }) hzL rfl rfl; clear hH; rintro _ w hH))) | ((first | refine CT ?_ | (refine DT ?_ ?_ <;> intro hc <;> try (exfalso; omega))) <;> repeat' refine CT ?_) | (first | (refine DSK ?_; clear hA a; intro a hA) | (first | (refine DLT ?_; clear hA hH; rintro _ w ⟨oN, rfl, hH⟩; refine ⟨STT, ?_⟩; intro a hA) | (refine DAT ?_; clear hA; rintro _ w ⟨oN, cN, rfl, hH2⟩; clear hH; have hH := (hH2 _ (by (repeat constructor))).tail; clear hH2; refine ⟨STT, ?_⟩; intro a hA))) )
  refine rt1 (.inl rfl) rfl hA rfl ⟨rfl, ?_⟩
  obtain ⟨e1, e2⟩ := split_at h3
  obtain ⟨e3, e4⟩ := split_at hd
  generalize L.take k = A at *
  generalize L.drop (k + 1) = B at *
  generalize ds.take k = dA at *
  generalize ds.drop (k + 1) = dB at *
  subst e1
  subst e3
  subst e2
  have hz1 : (A.zip dA).length = A.length := by rw [List.length_zip]; omega
  have hlB : dB.length = B.length := by simp at hql; omega
  rw [setL_mid hok.lay]
  have hset : ((A ++ o :: B).zip (dA ++ (d, o.fs.length, c) :: dB)).set A.length ({ o with fs := o.fs.set j x }, ((oN, o.fs.length, cN) : Sd)) = A.zip dA ++ ({ o with fs := o.fs.set j x }, ((oN, o.fs.length, cN) : Sd)) :: B.zip dB := by
    rw [zip_mid e4.symm, ← hz1, set_mid]
  rw [hset, Nat.mul_one, List.map_append, owns_split (by rw [List.length_map]; exact e4), List.map_cons, owns_cons] at hH
  have hl2 : (A ++ o :: B).length = (A ++ { o with fs := o.fs.set j x } :: B).length := by simp
  have hl3 : o.fs.length = (o.fs.set j x).length := by simp
  rw [hl2] at hH
  exact rf_close2 (d := (oN, o.fs.length, cN)) e4 hlB (HS.re2 hH)

theorem ralloc_spec (w0 : World) (M : Nat → Prop) (b N : Nat) (L : List Ob) (k s : Int) (hok : Ok N L) (hH : HS w0 M [rfI b N L] w0) :
    Ret Try.prog 28 #[.pointer (some (bat b 0)), .int .i64 k, .int .i64 s] w0 (fun v w => v = .tuple #[.int .i64 (allocA N L k s).1, .int .i64 (allocA N L k s).2.1] ∧ HS w0 M [rfI b N (allocA N L k s).2.2] w) := by
  have hL := hok.len
  have hn2 := hok.n2
  (refine enter (N := 81) Try.func28 rfl Try.ntmps28 rfl ?_; intro a hA; dsimp only [sl0, Nat.reduceAdd] at hA)
  by_cases hk : k < 1 ∨ 6 < k
  · have hf : allocA N L k s = (0, 8, L) := if_pos hk
    rw [hf]
    repeat' (first | (first | (refine GT ?_ ?_ <;> intro hg <;> clear hA a <;> intro a hA <;> (first | exact FA | replace hg := of_decide_eq_true hg | replace hg := of_decide_eq_false hg | skip)) | (refine QT0 ?_; clear hA a; intro a hA) | (first | (refine BT ?_; clear hA hH; rintro _ w ⟨bN, rfl, hH⟩ a hA) | (refine LT ?_; clear hA hH; rintro _ w ⟨oN, rfl, hH⟩ a hA) | (refine AT ?_; clear hA; rintro _ w ⟨oN, cN, rfl, hH2⟩ a hA; clear hH; have hH := (hH2 _ (by (repeat constructor))).tail; clear hH2) | (refine S0T ?_; clear hH; rintro _ w hH) )) | ((first | refine CT ?_ | (refine DT ?_ ?_ <;> intro hc <;> try (exfalso; omega))) <;> repeat' refine CT ?_) | (first | (refine DSK ?_; clear hA a; intro a hA) | (first | (refine DLT ?_; clear hA hH; rintro _ w ⟨oN, rfl, hH⟩; refine ⟨STT, ?_⟩; intro a hA) | (refine DAT ?_; clear hA; rintro _ w ⟨oN, cN, rfl, hH2⟩; clear hH; have hH := (hH2 _ (by (repeat constructor))).tail; clear hH2; refine ⟨STT, ?_⟩; intro a hA))) )
    all_goals exact rt2 (.inl rfl) rfl hA rfl rfl ⟨rfl, hH⟩
  by_cases hs : s < 0 ∨ 4096 < s
  · have hf : allocA N L k s = (0, 2, L) := by unfold allocA; rw [if_neg hk, if_pos hs]
    rw [hf]
    repeat' (first | (first | (refine GT ?_ ?_ <;> intro hg <;> clear hA a <;> intro a hA <;> (first | exact FA | replace hg := of_decide_eq_true hg | replace hg := of_decide_eq_false hg | skip)) | (refine QT0 ?_; clear hA a; intro a hA) | (first | (refine BT ?_; clear hA hH; rintro _ w ⟨bN, rfl, hH⟩ a hA) | (refine LT ?_; clear hA hH; rintro _ w ⟨oN, rfl, hH⟩ a hA) | (refine AT ?_; clear hA; rintro _ w ⟨oN, cN, rfl, hH2⟩ a hA; clear hH; have hH := (hH2 _ (by (repeat constructor))).tail; clear hH2) | (refine S0T ?_; clear hH; rintro _ w hH) )) | ((first | refine CT ?_ | (refine DT ?_ ?_ <;> intro hc <;> try (exfalso; omega))) <;> repeat' refine CT ?_) | (first | (refine DSK ?_; clear hA a; intro a hA) | (first | (refine DLT ?_; clear hA hH; rintro _ w ⟨oN, rfl, hH⟩; refine ⟨STT, ?_⟩; intro a hA) | (refine DAT ?_; clear hA; rintro _ w ⟨oN, cN, rfl, hH2⟩; clear hH; have hH := (hH2 _ (by (repeat constructor))).tail; clear hH2; refine ⟨STT, ?_⟩; intro a hA))) )
    all_goals exact rt2 (.inl rfl) rfl hA rfl rfl ⟨rfl, hH⟩
  obtain ⟨kd, rfl⟩ : ∃ n : Nat, k = n := ⟨k.toNat, by omega⟩
  obtain ⟨sz, rfl⟩ : ∃ n : Nat, s = n := ⟨s.toNat, by omega⟩
  have hf : allocA N L kd sz = match insA N sz (newO kd sz) 1 L with
    | none => (0, 6, L)
    | some (p, L') => ((p : Int), 0, L') := by
    unfold allocA
    rw [if_neg hk, if_neg hs]
    rfl
  rw [hf]
  obtain ⟨q, hql, hH2⟩ := rf_open hH
  clear hH
  have hH := hH2
  clear hH2
  unfold rfQ at hH
  repeat' (first | (first | (refine GT ?_ ?_ <;> intro hg <;> clear hA a <;> intro a hA <;> (first | exact FA | replace hg := of_decide_eq_true hg | replace hg := of_decide_eq_false hg | skip)) | (refine QT0 ?_; clear hA a; intro a hA) | (first | (refine BT ?_; clear hA hH; rintro _ w ⟨bN, rfl, hH⟩ a hA) | (refine LT ?_; clear hA hH; rintro _ w ⟨oN, rfl, hH⟩ a hA) | (refine AT ?_; clear hA; rintro _ w ⟨oN, cN, rfl, hH2⟩ a hA; clear hH; have hH := (hH2 _ (by (repeat constructor))).tail; clear hH2) | (refine S0T ?_; clear hH; rintro _ w hH) )) | ((first | refine CT ?_ | (refine DT ?_ ?_ <;> intro hc <;> try (exfalso; omega))) <;> repeat' refine CT ?_) | (first | (refine DSK ?_; clear hA a; intro a hA) | (first | (refine DLT ?_; clear hA hH; rintro _ w ⟨oN, rfl, hH⟩; refine ⟨STT, ?_⟩; intro a hA) | (refine DAT ?_; clear hA; rintro _ w ⟨oN, cN, rfl, hH2⟩; clear hH; have hH := (hH2 _ (by (repeat constructor))).tail; clear hH2; refine ⟨STT, ?_⟩; intro a hA))) )
  refine wp_lpj (S := Nat) (fun i a w => i ≤ L.length + 1 ∧ (i ≤ L.length → Sm sz 1 (L.take i)) ∧ (i = L.length + 1 → insA N sz (newO kd sz) 1 L = none) ∧ HS w0 M (rfQ b N L q ++ []) w ∧ Sl 81 [(0, .pointer (some (bat b 0))), (1, .int .i64 kd), (2, .int .i64 sz), (8, .int .i64 i)] a) (fun i => L.length + 1 - i)
    (fun a w => insA N sz (newO kd sz) 1 L = none ∧ HS w0 M (rfQ b N L q ++ []) w ∧ Sl 81 [] a) 0 ⟨by omega, fun _ => trivial, fun h => by omega, hH, (hA.sub (by (repeat (first | exact trivial | refine ⟨rfl, ?_⟩))))⟩ ?_ ?_
  rotate_left
  · clear hA hH
    rintro a w ⟨hno, hH, hA⟩
    rw [hno]
    repeat' (first | (first | (refine GT ?_ ?_ <;> intro hg <;> clear hA a <;> intro a hA <;> (first | exact FA | replace hg := of_decide_eq_true hg | replace hg := of_decide_eq_false hg | skip)) | (refine QT0 ?_; clear hA a; intro a hA) | (first | (refine BT ?_; clear hA hH; rintro _ w ⟨bN, rfl, hH⟩ a hA) | (refine LT ?_; clear hA hH; rintro _ w ⟨oN, rfl, hH⟩ a hA) | (refine AT ?_; clear hA; rintro _ w ⟨oN, cN, rfl, hH2⟩ a hA; clear hH; have hH := (hH2 _ (by (repeat constructor))).tail; clear hH2) | (refine S0T ?_; clear hH; rintro _ w hH) )) | ((first | refine CT ?_ | (refine DT ?_ ?_ <;> intro hc <;> try (exfalso; omega))) <;> repeat' refine CT ?_) | (first | (refine DSK ?_; clear hA a; intro a hA) | (first | (refine DLT ?_; clear hA hH; rintro _ w ⟨oN, rfl, hH⟩; refine ⟨STT, ?_⟩; intro a hA) | (refine DAT ?_; clear hA; rintro _ w ⟨oN, cN, rfl, hH2⟩; clear hH; have hH := (hH2 _ (by (repeat constructor))).tail; clear hH2; refine ⟨STT, ?_⟩; intro a hA))) )
    exact rt2 (.inl rfl) rfl hA rfl rfl ⟨rfl, rf_shut q hql hH⟩
  clear hA hH
  rintro i a w ⟨hi, hs1, hs2, hH, hA⟩
  by_cases hlt : i ≤ L.length
  rotate_left
  · obtain rfl : i = L.length + 1 := by omega
    unfold rfQ at hH
    repeat' (first | (first | (refine GT ?_ ?_ <;> intro hg <;> clear hA a <;> intro a hA <;> (first | exact FA | replace hg := of_decide_eq_true hg | replace hg := of_decide_eq_false hg | skip)) | (refine QT0 ?_; clear hA a; intro a hA) | (first | (refine BT ?_; clear hA hH; rintro _ w ⟨bN, rfl, hH⟩ a hA) | (refine LT ?_; clear hA hH; rintro _ w ⟨oN, rfl, hH⟩ a hA) | (refine AT ?_; clear hA; rintro _ w ⟨oN, cN, rfl, hH2⟩ a hA; clear hH; have hH := (hH2 _ (by (repeat constructor))).tail; clear hH2) | (refine S0T ?_; clear hH; rintro _ w hH) )) | ((first | refine CT ?_ | (refine DT ?_ ?_ <;> intro hc <;> try (exfalso; omega))) <;> repeat' refine CT ?_) | (first | (refine DSK ?_; clear hA a; intro a hA) | (first | (refine DLT ?_; clear hA hH; rintro _ w ⟨oN, rfl, hH⟩; refine ⟨STT, ?_⟩; intro a hA) | (refine DAT ?_; clear hA; rintro _ w ⟨oN, cN, rfl, hH2⟩; clear hH; have hH := (hH2 _ (by (repeat constructor))).tail; clear hH2; refine ⟨STT, ?_⟩; intro a hA))) )
    exact ⟨hs2 rfl, hH, (hA.sub (by (repeat (first | exact trivial | refine ⟨rfl, ?_⟩))))⟩
  have hsm := hs1 hlt
  have hq := rfQ_read hql hH
  have hsp := hq.sp
  have hqc := hq.nO
  have hok2 := hok
  rw [← List.take_append_drop i L] at hok2
  have hgp := hok2.split
  have hgap := fun w (h : RfR w b N L) => gap_spec w b N (L.take i) (L.drop i) i (by rw [List.length_take]; omega) hok2 (by rw [List.take_append_drop]; exact h)
  unfold rfQ at hH
  repeat' (first | (first | (refine GT ?_ ?_ <;> intro hg <;> clear hA a <;> intro a hA <;> (first | exact FA | replace hg := of_decide_eq_true hg | replace hg := of_decide_eq_false hg | skip)) | (refine QT0 ?_; clear hA a; intro a hA) | (first | (refine BT ?_; clear hA hH; rintro _ w ⟨bN, rfl, hH⟩ a hA) | (refine LT ?_; clear hA hH; rintro _ w ⟨oN, rfl, hH⟩ a hA) | (refine AT ?_; clear hA; rintro _ w ⟨oN, cN, rfl, hH2⟩ a hA; clear hH; have hH := (hH2 _ (by (repeat constructor))).tail; clear hH2) | (refine S0T ?_; clear hH; rintro _ w hH) )) | ((first | refine CT ?_ | (refine DT ?_ ?_ <;> intro hc <;> try (exfalso; omega))) <;> repeat' refine CT ?_) | (first | (refine DSK ?_; clear hA a; intro a hA) | (first | (refine DLT ?_; clear hA hH; rintro _ w ⟨oN, rfl, hH⟩; refine ⟨STT, ?_⟩; intro a hA) | (refine DAT ?_; clear hA; rintro _ w ⟨oN, cN, rfl, hH2⟩; clear hH; have hH := (hH2 _ (by (repeat constructor))).tail; clear hH2; refine ⟨STT, ?_⟩; intro a hA))) )
  (refine st_op hA rfl rfl (by decide) (op_call rfl rfl rfl (hgap _ ⟨q, hq⟩)) ?_; clear hA; rintro _ w ⟨rfl, hk⟩ a hA)
  replace hH := hH.keep hk
  clear hk hgap
  repeat' (first | (first | (refine GT ?_ ?_ <;> intro hg <;> clear hA a <;> intro a hA <;> (first | exact FA | replace hg := of_decide_eq_true hg | replace hg := of_decide_eq_false hg | skip)) | (refine QT0 ?_; clear hA a; intro a hA) | (first | (refine BT ?_; clear hA hH; rintro _ w ⟨bN, rfl, hH⟩ a hA) | (refine LT ?_; clear hA hH; rintro _ w ⟨oN, rfl, hH⟩ a hA) | (refine AT ?_; clear hA; rintro _ w ⟨oN, cN, rfl, hH2⟩ a hA; clear hH; have hH := (hH2 _ (by (repeat constructor))).tail; clear hH2) | (refine S0T ?_; clear hH; rintro _ w hH) )) | ((first | refine CT ?_ | (refine DT ?_ ?_ <;> intro hc <;> try (exfalso; omega))) <;> repeat' refine CT ?_) | (first | (refine DSK ?_; clear hA a; intro a hA) | (first | (refine DLT ?_; clear hA hH; rintro _ w ⟨oN, rfl, hH⟩; refine ⟨STT, ?_⟩; intro a hA) | (refine DAT ?_; clear hA; rintro _ w ⟨oN, cN, rfl, hH2⟩; clear hH; have hH := (hH2 _ (by (repeat constructor))).tail; clear hH2; refine ⟨STT, ?_⟩; intro a hA))) )
  rotate_left
  · -- too small
    refine ⟨i + 1, ⟨by omega, fun h => ?_, fun h => ?_, hH, (hA.sub (by (repeat (first | exact trivial | refine ⟨rfl, ?_⟩))))⟩, by omega⟩
    · rw [List.take_add_one, List.getElem?_eq_getElem (by omega)]
      refine hsm.snoc ?_
      rw [List.drop_eq_getElem_cons (by omega)] at *
      simp only [nxt] at *
      omega
    · obtain rfl : i = L.length := by omega
      rw [List.take_of_length_le (Nat.le_refl _), List.drop_of_length_le (Nat.le_refl _)] at *
      refine insA_no hsm ?_
      simp only [nxt] at *
      omega
  have hins := insA_at (N := N) (new := newO kd sz) (B := L.drop i) hsm (by omega)
  rw [List.take_append_drop] at hins
  rw [hins]
  dsimp only
  have eL : L = L.take i ++ L.drop i := (List.take_append_drop i L).symm
  have eD : q.ds = q.ds.take i ++ q.ds.drop i := (List.take_append_drop i q.ds).symm
  have lA : (L.take i).length = i := by rw [List.length_take]; omega
  have ldA : (q.ds.take i).length = i := by rw [List.length_take]; omega
  have ldB : (q.ds.drop i).length = (L.drop i).length := by rw [List.length_drop, List.length_drop]; omega
  have lB : L.length = i + (L.drop i).length := by rw [List.length_drop]; omega
  generalize L.take i = A at *
  generalize L.drop i = B at *
  generalize q.ds.take i = dA at *
  generalize q.ds.drop i = dB at *
  have hz1 : (A.zip dA).length = i := by rw [List.length_zip]; omega
  have hz2 : (B.zip dB).length = B.length := by rw [List.length_zip]; omega
  have hZ : L.zip q.ds = A.zip dA ++ B.zip dB := by
    rw [eD]
    conv => lhs; rw [eL]
    exact zip_two (by omega)
  rw [hZ] at hH
  generalize he1 : endA 1 A = e1 at *
  generalize q.o = qo at *
  generalize q.c = qc at *
  repeat' (first | (first | (refine GT ?_ ?_ <;> intro hg <;> clear hA a <;> intro a hA <;> (first | exact FA | replace hg := of_decide_eq_true hg | replace hg := of_decide_eq_false hg | skip)) | ((first | apply st_ex hA hH rfl rfl (by decide) | apply dr_ex hA rfl rfl rfl (by decide) | apply dr_exp hA rfl rfl rfl (by decide) | apply dr_ex3 hA hH rfl rfl rfl (by decide)); (first | (apply ex_build_p #[.int .i64 (e1 : Int), .int .i64 (kd : Int), .slice none 0 0]; rfl; (repeat (first | (intro _ h; exact absurd h (List.not_mem_nil)) | (refine List.forall_mem_cons.2 ⟨one_cell_of _ _, ?_⟩))); rfl)); clear hA a; intro a hA) | (refine QT0 ?_; clear hA a; intro a hA) | (first | (refine BT ?_; clear hA hH; rintro _ w ⟨bN, rfl, hH⟩ a hA) | (refine LT ?_; clear hA hH; rintro _ w ⟨oN, rfl, hH⟩ a hA) | (refine AT ?_; clear hA; rintro _ w ⟨oN, cN, rfl, hH2⟩ a hA; clear hH; have hH := (hH2 _ (by (repeat constructor))).tail; clear hH2) | (refine S0T ?_; clear hH; rintro _ w hH) | (apply st_op0 hA rfl rfl; apply op_store_agg (vs := [.int .i64 (e1 : Int), .int .i64 (kd : Int), .slice none 0 0]); rfl; rfl; exact hH; (repeat constructor); (repeat rfl); clear hH; rintro _ w hH))) | ((first | refine CT ?_ | (refine DT ?_ ?_ <;> intro hc <;> try (exfalso; omega))) <;> repeat' refine CT ?_) | (first | (refine DSK ?_; clear hA a; intro a hA) | (first | (refine DLT ?_; clear hA hH; rintro _ w ⟨oN, rfl, hH⟩; refine ⟨STT, ?_⟩; intro a hA) | (refine DAT ?_; clear hA; rintro _ w ⟨oN, cN, rfl, hH2⟩; clear hH; have hH := (hH2 _ (by (repeat constructor))).tail; clear hH2; refine ⟨STT, ?_⟩; intro a hA))) )
  replace hH := hH.nil_own 33 1
  rw [own_nil0 33 1 none 0 0 ones_zero] at hH
  refine wp_lpj (S := Nat × Option Addr × Nat) (fun s a w => s.1 ≤ sz ∧ HS w0 M [own 33 1 s.2.1 s.1 s.2.2 (flat encW (List.replicate s.1 1)), cb bN 53 [.int .i64 (e1 : Int), .int .i64 (kd : Int), .slice s.2.1 s.1 s.2.2],
      cb b 56 [.int .i64 N, .slice qo L.length qc], own 53 3 qo L.length qc (flat encO (A.zip dA ++ B.zip dB)), all (owns 33 1 encW q.ds (L.map (·.fs)))] w ∧
      Sl 81 [(0, .pointer (some (bat b 0))), (2, .int .i64 sz), (8, .int .i64 i), (9, .int .i64 e1), (11, .pointer (some (bat bN 0))), (12, .int .i64 s.1)] a) (fun s => sz - s.1)
    (fun a w => ∃ oW cW, HS w0 M [own 33 1 oW sz cW (flat encW (List.replicate sz 1)), cb bN 53 [.int .i64 (e1 : Int), .int .i64 (kd : Int), .slice oW sz cW],
      cb b 56 [.int .i64 N, .slice qo L.length qc], own 53 3 qo L.length qc (flat encO (A.zip dA ++ B.zip dB)), all (owns 33 1 encW q.ds (L.map (·.fs)))] w ∧
      Sl 81 [(0, .pointer (some (bat b 0))), (8, .int .i64 i), (9, .int .i64 e1), (11, .pointer (some (bat bN 0)))] a) (0, none, 0) ⟨Nat.zero_le _, hH, (hA.sub (by (repeat (first | exact trivial | refine ⟨rfl, ?_⟩))))⟩ ?_ ?_
  · clear hA hH
    rintro ⟨k2, oW, cW⟩ a w ⟨hk2, hH, hA⟩
    dsimp only at hk2 hH hA
    by_cases hlt2 : k2 < sz
    rotate_left
    · obtain rfl : k2 = sz := by omega
      repeat' (first | (first | (refine GT ?_ ?_ <;> intro hg <;> clear hA a <;> intro a hA <;> (first | exact FA | replace hg := of_decide_eq_true hg | replace hg := of_decide_eq_false hg | skip)) | (refine QT0 ?_; clear hA a; intro a hA) | (first | (refine BT ?_; clear hA hH; rintro _ w ⟨bN, rfl, hH⟩ a hA) | (refine LT ?_; clear hA hH; rintro _ w ⟨oN, rfl, hH⟩ a hA) | (refine AT ?_; clear hA; rintro _ w ⟨oN, cN, rfl, hH2⟩ a hA; clear hH; have hH := (hH2 _ (by (repeat constructor))).tail; clear hH2) | (refine S0T ?_; clear hH; rintro _ w hH) )) | ((first | refine CT ?_ | (refine DT ?_ ?_ <;> intro hc <;> try (exfalso; omega))) <;> repeat' refine CT ?_) | (first | (refine DSK ?_; clear hA a; intro a hA) | (first | (refine DLT ?_; clear hA hH; rintro _ w ⟨oN, rfl, hH⟩; refine ⟨STT, ?_⟩; intro a hA) | (refine DAT ?_; clear hA; rintro _ w ⟨oN, cN, rfl, hH2⟩; clear hH; have hH := (hH2 _ (by (repeat constructor))).tail; clear hH2; refine ⟨STT, ?_⟩; intro a hA))) )
      exact ⟨oW, cW, hH, (hA.sub (by (repeat (first | exact trivial | refine ⟨rfl, ?_⟩))))⟩
    repeat' (first | (first | (refine GT ?_ ?_ <;> intro hg <;> clear hA a <;> intro a hA <;> (first | exact FA | replace hg := of_decide_eq_true hg | replace hg := of_decide_eq_false hg | skip)) | (refine QT0 ?_; clear hA a; intro a hA) | (first | (refine BT ?_; clear hA hH; rintro _ w ⟨bN, rfl, hH⟩ a hA) | (refine LT ?_; clear hA hH; rintro _ w ⟨oN, rfl, hH⟩ a hA) | (refine AT ?_; clear hA; rintro _ w ⟨oN, cN, rfl, hH2⟩ a hA; clear hH; have hH := (hH2 _ (by (repeat constructor))).tail; clear hH2) | (refine S0T ?_; clear hH; rintro _ w hH) | (apply st_op0 hA rfl rfl; apply op_store_fld; rfl; rfl; rfl; exact hH; (repeat constructor); (repeat rfl); clear hH; rintro _ w hH))) | ((first | refine CT ?_ | (refine DT ?_ ?_ <;> intro hc <;> try (exfalso; omega))) <;> repeat' refine CT ?_) | (first | (refine DSK ?_; clear hA a; intro a hA) | (first | (refine DLT ?_; clear hA hH; rintro _ w ⟨oN, rfl, hH⟩; refine ⟨STT, ?_⟩; intro a hA) | (refine DAT ?_; clear hA; rintro _ w ⟨oN, cN, rfl, hH2⟩; clear hH; have hH := (hH2 _ (by (repeat constructor))).tail; clear hH2; refine ⟨STT, ?_⟩; intro a hA))) )
    simp only [Nat.zero_add] at hA hH
    rw [ones_snoc] at hH
    exact ⟨(k2 + 1, _, _), ⟨hlt2, hH, (hA.sub (by (repeat (first | exact trivial | refine ⟨rfl, ?_⟩))))⟩, by show sz - (k2 + 1) < sz - k2; omega⟩
  clear hA hH
  rintro a w ⟨oW, cW, hH, hA⟩
  repeat' (first | (first | (refine GT ?_ ?_ <;> intro hg <;> clear hA a <;> intro a hA <;> (first | exact FA | replace hg := of_decide_eq_true hg | replace hg := of_decide_eq_false hg | skip)) | ((first | apply st_ex hA hH rfl rfl (by decide) | apply dr_ex hA rfl rfl rfl (by decide) | apply dr_exp hA rfl rfl rfl (by decide) | apply dr_ex3 hA hH rfl rfl rfl (by decide)); (first | (apply ex_slice_hi (k := i); rfl; rfl; rfl; omega)); clear hA a; intro a hA) | (refine QT0 ?_; clear hA a; intro a hA) | (first | (refine BT ?_; clear hA hH; rintro _ w ⟨bN, rfl, hH⟩ a hA) | (refine LT ?_; clear hA hH; rintro _ w ⟨oN, rfl, hH⟩ a hA) | (refine AT ?_; clear hA; rintro _ w ⟨oN, cN, rfl, hH2⟩ a hA; clear hH; have hH := (hH2 _ (by (repeat constructor))).tail; clear hH2) | (refine S0T ?_; clear hH; rintro _ w hH) | (apply st_op hA rfl rfl (by decide); apply op_append; rfl; rfl; exact hH; exact MEMT; exact rd_take encO_len (hH.own_rd (o := qo) (by exact MEMT)); exact (by rw [flat_length encO_len, hz1]); rfl; decide; exact flat_one_cell (fun _ => rfl) _; (unfold maxLen; omega); omega; clear hA; rintro _ w ⟨oN, cN, rfl, hH2⟩ a hA; clear hH; have hH := hH2 _ (by (repeat constructor)); clear hH2))) | ((first | refine CT ?_ | (refine DT ?_ ?_ <;> intro hc <;> try (exfalso; omega))) <;> repeat' refine CT ?_) | (first | (refine DSK ?_; clear hA a; intro a hA) | (first | (refine DLT ?_; clear hA hH; rintro _ w ⟨oN, rfl, hH⟩; refine ⟨STT, ?_⟩; intro a hA) | (refine DAT ?_; clear hA; rintro _ w ⟨oN, cN, rfl, hH2⟩; clear hH; have hH := (hH2 _ (by (repeat constructor))).tail; clear hH2; refine ⟨STT, ?_⟩; intro a hA))) )
  simp only [Nat.zero_add, List.nil_append] at hH hA
  repeat' (first | (first | (refine GT ?_ ?_ <;> intro hg <;> clear hA a <;> intro a hA <;> (first | exact FA | replace hg := of_decide_eq_true hg | replace hg := of_decide_eq_false hg | skip)) | ((first | apply st_ex hA hH rfl rfl (by decide) | apply dr_ex hA rfl rfl rfl (by decide) | apply dr_exp hA rfl rfl rfl (by decide) | apply dr_ex3 hA hH rfl rfl rfl (by decide)); (first | (apply ex_slice_lo (k := i); rfl; rfl; rfl; omega)); clear hA a; intro a hA) | (refine QT0 ?_; clear hA a; intro a hA) | (first | (refine BT ?_; clear hA hH; rintro _ w ⟨bN, rfl, hH⟩ a hA) | (refine LT ?_; clear hA hH; rintro _ w ⟨oN, rfl, hH⟩ a hA) | (refine AT ?_; clear hA; rintro _ w ⟨oN, cN, rfl, hH2⟩ a hA; clear hH; have hH := (hH2 _ (by (repeat constructor))).tail; clear hH2) | (refine S0T ?_; clear hH; rintro _ w hH) | (apply st_op hA rfl rfl (by decide); apply op_append; rfl; rfl; exact hH; exact MEMT; exact rd_drop encO_len (A := A.zip dA) (B := B.zip dB) (k := i) (n := L.length) (hH.own_rd (o := qo) (by exact MEMT)) hz1.symm (by rw [List.length_append, hz1, hz2]; omega) (by omega); exact (by rw [flat_length encO_len, hz2]; omega); rfl; decide; exact flat_one_cell (fun _ => rfl) _; (unfold maxLen; omega); omega; clear hA; rintro _ w ⟨oN, cN, rfl, hH2⟩ a hA; clear hH; have hH := hH2 _ (by (repeat constructor)); clear hH2) | (apply st_op0 hA rfl rfl; apply op_store_fld; rfl; rfl; rfl; exact hH; (repeat constructor); (repeat rfl); clear hH; rintro _ w hH))) | ((first | refine CT ?_ | (refine DT ?_ ?_ <;> intro hc <;> try (exfalso; omega))) <;> repeat' refine CT ?_) | (first | (refine DSK ?_; clear hA a; intro a hA) | (first | (refine DLT ?_; clear hA hH; rintro _ w ⟨oN, rfl, hH⟩; refine ⟨STT, ?_⟩; intro a hA) | (refine DAT ?_; clear hA; rintro _ w ⟨oN, cN, rfl, hH2⟩; clear hH; have hH := (hH2 _ (by (repeat constructor))).tail; clear hH2; refine ⟨STT, ?_⟩; intro a hA))) )
  have en : i + 1 + (L.length - i) = (A ++ newO kd sz e1 :: B).length := by rw [List.length_append, List.length_cons]; omega
  have hnew := flat_new (A.zip dA) (B.zip dB) (newO kd sz e1, ((oW, sz, cW) : Sd))
  have hnl : L.map (·.fs) = A.map (·.fs) ++ B.map (·.fs) := by rw [eL, List.map_append]
  rw [show (newO kd sz e1).a = e1 from rfl, show (newO kd sz e1).kind = kd from rfl] at hnew
  dsimp only at hnew
  rw [en, hnew, eD, hnl, owns_split (by rw [List.length_map]; omega)] at hH
  refine rt2 (.inl rfl) rfl hA rfl rfl ⟨rfl, ?_⟩
  exact rf_close2 (d := (oW, sz, cW)) (by omega) ldB (HS.re3 hH)
end Go.Proofs.Ytdfhajdejlhamaa
namespace Go.Proofs.Ytdfhajdejlhamaa
open Go Go.Fw
set_option linter.unusedVariables false
section
variable {w0 w : World} {M : Nat → Prop} {H : List It} {b N : Nat} {L : List Ob}
theorem rf_readM (hH : HS w0 M H w) (hm : rfI b N L ∈ H) : RfR w b N L := rf_read (hH.pick hm)
theorem rget_f {z i : Int} (hH : HS w0 M H w) (hm : rfI b N L ∈ H) (hok : Ok N L) : Ret Try.prog 55 #[.pointer (some (bat b 0)), .int .i64 z, .int .i64 i] w (fun v w' => v = .tuple #[.int .u64 (getA L z i).1, .int .i64 (getA L z i).2] ∧ HS w0 M H w') :=
  (rget_spec w b N L z i hok (rf_readM hH hm)).mono fun v w' ⟨h1, h2⟩ => ⟨h1, hH.keep h2⟩
theorem rnext_f {z : Int} (hH : HS w0 M H w) (hm : rfI b N L ∈ H) (hok : Ok N L) : Ret Try.prog 83 #[.pointer (some (bat b 0)), .int .i64 z] w (fun v w' => v = .int .i64 (nextA L z) ∧ HS w0 M H w') :=
  (rnext_spec w b N L z hok.len (rf_readM hH hm)).mono fun v w' ⟨h1, h2⟩ => ⟨h1, hH.keep h2⟩
theorem rset_f {z i x : Int} (hH : HS w0 M (rfI b N L :: H) w) (hok : Ok N L) : Ret Try.prog 31 #[.pointer (some (bat b 0)), .int .i64 z, .int .i64 i, .int .u64 x] w (fun v w' => v = .int .i64 (setA L z i x).1 ∧ HS w0 M (rfI b N (setA L z i x).2 :: H) w') := by
  obtain ⟨Mc, h1, -, h2⟩ := HS.frame (Hc := [rfI b N L]) (Hf := H) hH
  exact (rset_spec w Mc b N L z i x hok h1).mono fun v w' ⟨h3, h4⟩ => ⟨h3, h2 _ _ h4⟩
theorem ralloc_f {k s : Int} (hH : HS w0 M (rfI b N L :: H) w) (hok : Ok N L) : Ret Try.prog 28 #[.pointer (some (bat b 0)), .int .i64 k, .int .i64 s] w (fun v w' => v = .tuple #[.int .i64 (allocA N L k s).1, .int .i64 (allocA N L k s).2.1] ∧ HS w0 M (rfI b N (allocA N L k s).2.2 :: H) w') := by
  obtain ⟨Mc, h1, -, h2⟩ := HS.frame (Hc := [rfI b N L]) (Hf := H) hH
  exact (ralloc_spec w Mc b N L k s hok h1).mono fun v w' ⟨h3, h4⟩ => ⟨h3, h2 _ _ h4⟩
theorem rfree_f {z : Int} (hH : HS w0 M (rfI b N L :: H) w) (hok : Ok N L) : Ret Try.prog 85 #[.pointer (some (bat b 0)), .int .i64 z] w (fun v w' => v = .int .i64 (freeA L z).1 ∧ HS w0 M (rfI b N (freeA L z).2 :: H) w') := by
  obtain ⟨Mc, h1, -, h2⟩ := HS.frame (Hc := [rfI b N L]) (Hf := H) hH
  exact (rfree_spec w Mc b N L z hok h1).mono fun v w' ⟨h3, h4⟩ => ⟨h3, h2 _ _ h4⟩
end
set_option maxRecDepth 10000 attribute [local irreducible] Code.wp wpList Calls Ex Op1 sat bat blk cb own Go.Fw.mp Go.Fw.mpO Go.Fw.mpI Go.Fw.mpE Go.Fw.itr HS Rd Ret wkD Hp Cl Cls Exit.then Exit.inBlock Exit.noGoto bodyPost Go.Fw.flat wk2 Go.Fw.all Go.Fw.owns wpOp
attribute [local irreducible] hdA gaps isA roomA longA nextA allocA freeA sizeA kindA usedA setA getA findI objA

theorem rnew_spec (w0 : World) (z : Int) :
    Ret Try.prog 26 #[.int .i64 z] w0 (fun v w => (v = .pointer none ∧ ¬ (2 ≤ z ∧ z ≤ 65536) ∧ Kp w0 noM w) ∨ ((2 ≤ z ∧ z ≤ 65536) ∧ ∃ b, v = .pointer (some (bat b 0)) ∧ HS w0 noM [rfI b z.toNat []] w)) := by
  have hH : HS w0 noM [] w0 := HS.init w0 noM
  (refine enter (N := 12) Try.func26 rfl Try.ntmps26 rfl ?_; intro a hA; dsimp only [sl0, Nat.reduceAdd] at hA)
  by_cases hz : 2 ≤ z ∧ z ≤ 65536
  · obtain ⟨N, rfl⟩ : ∃ N : Nat, z = N := ⟨z.toNat, by omega⟩
    repeat' (first | (first | (refine GT ?_ ?_ <;> intro hg <;> clear hA a <;> intro a hA <;> (first | exact FA | replace hg := of_decide_eq_true hg | replace hg := of_decide_eq_false hg | skip)) | ((first | apply st_ex hA hH rfl rfl (by decide) | apply dr_ex hA rfl rfl rfl (by decide) | apply dr_exp hA rfl rfl rfl (by decide) | apply dr_ex3 hA hH rfl rfl rfl (by decide)); (first | (apply ex_build_p #[.int .i64 (N : Int), .slice none 0 0]; rfl; (repeat (first | (intro _ h; exact absurd h (List.not_mem_nil)) | (refine List.forall_mem_cons.2 ⟨one_cell_of _ _, ?_⟩))); rfl)); clear hA a; intro a hA) | (refine QT0 ?_; clear hA a; intro a hA) | (first | (refine BT ?_; clear hA hH; rintro _ w ⟨bN, rfl, hH⟩ a hA) | (refine LT ?_; clear hA hH; rintro _ w ⟨oN, rfl, hH⟩ a hA) | (refine AT ?_; clear hA; rintro _ w ⟨oN, cN, rfl, hH2⟩ a hA; clear hH; have hH := (hH2 _ (by (repeat constructor))).tail; clear hH2) | (refine S0T ?_; clear hH; rintro _ w hH) )) | ((first | refine CT ?_ | (refine DT ?_ ?_ <;> intro hc <;> try (exfalso; omega))) <;> repeat' refine CT ?_) | (first | (refine DSK ?_; clear hA a; intro a hA) | (first | (refine DLT ?_; clear hA hH; rintro _ w ⟨oN, rfl, hH⟩; refine ⟨STT, ?_⟩; intro a hA) | (refine DAT ?_; clear hA; rintro _ w ⟨oN, cN, rfl, hH2⟩; clear hH; have hH := (hH2 _ (by (repeat constructor))).tail; clear hH2; refine ⟨STT, ?_⟩; intro a hA))) )
    replace hH := ((hH.nil_all).nil_own 53 3).perm (H' := [cb bN 56 [.int .i64 (N : Int), .slice none 0 0], own 53 3 none 0 0 [], all []]) (by (repeat (first | exact List.Perm.nil | refine perm_pick 0 rfl ?_ | refine perm_pick 1 rfl ?_ | refine perm_pick 2 rfl ?_ | refine perm_pick 3 rfl ?_ | refine perm_pick 4 rfl ?_ | refine perm_pick 5 rfl ?_ | refine perm_pick 6 rfl ?_ | refine perm_pick 7 rfl ?_ | refine perm_pick 8 rfl ?_ | refine perm_pick 9 rfl ?_ | refine perm_pick 10 rfl ?_ | refine perm_pick 11 rfl ?_)))
    refine rt1 (.inl rfl) rfl hA rfl (Or.inr ⟨hz, bN, rfl, ?_⟩)
    rw [Int.toNat_natCast]
    exact rf_close0 hH
  · repeat' (first | (first | (refine GT ?_ ?_ <;> intro hg <;> clear hA a <;> intro a hA <;> (first | exact FA | replace hg := of_decide_eq_true hg | replace hg := of_decide_eq_false hg | skip)) | (refine QT0 ?_; clear hA a; intro a hA) | (first | (refine BT ?_; clear hA hH; rintro _ w ⟨bN, rfl, hH⟩ a hA) | (refine LT ?_; clear hA hH; rintro _ w ⟨oN, rfl, hH⟩ a hA) | (refine AT ?_; clear hA; rintro _ w ⟨oN, cN, rfl, hH2⟩ a hA; clear hH; have hH := (hH2 _ (by (repeat constructor))).tail; clear hH2) | (refine S0T ?_; clear hH; rintro _ w hH) )) | ((first | refine CT ?_ | (refine DT ?_ ?_ <;> intro hc <;> try (exfalso; omega))) <;> repeat' refine CT ?_) | (first | (refine DSK ?_; clear hA a; intro a hA) | (first | (refine DLT ?_; clear hA hH; rintro _ w ⟨oN, rfl, hH⟩; refine ⟨STT, ?_⟩; intro a hA) | (refine DAT ?_; clear hA; rintro _ w ⟨oN, cN, rfl, hH2⟩; clear hH; have hH := (hH2 _ (by (repeat constructor))).tail; clear hH2; refine ⟨STT, ?_⟩; intro a hA))) )
    all_goals exact rt1 (.inl rfl) rfl hA rfl (Or.inl ⟨rfl, hz, hH.kp⟩)
theorem rnew_f {w0 w : World} {M : Nat → Prop} {H : List It} {z : Int} (hH : HS w0 M H w) : Ret Try.prog 26 #[.int .i64 z] w (fun v w' => (v = .pointer none ∧ ¬ (2 ≤ z ∧ z ≤ 65536) ∧ HS w0 M H w') ∨ ((2 ≤ z ∧ z ≤ 65536) ∧ ∃ b, v = .pointer (some (bat b 0)) ∧ HS w0 M (rfI b z.toNat [] :: H) w')) :=
  (rnew_spec w z).mono fun v w' h => by
    rcases h with ⟨h1, h2, h3⟩ | ⟨h1, b', h2, h3⟩
    · exact .inl ⟨h1, h2, hH.keep h3⟩
    · exact .inr ⟨h1, b', h2, hH.join h3⟩

end Go.Proofs.Ytdfhajdejlhamaa
