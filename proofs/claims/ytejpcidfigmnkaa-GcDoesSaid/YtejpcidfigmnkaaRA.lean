/-
  The document's heap in memory; the walks over what only looks at it. Conditions: none.
-/
import Derived.Test.YtejpcidfigmnkaaHX
namespace Go.Proofs.Ytejpcidfigmnkaa
open Go Go.Fw
set_option linter.unusedVariables false
def encO (x : Ob × Sd) : List Value := [.int .i64 x.1.a, .int .i64 x.1.kind, .slice x.2.1 x.2.2.1 x.2.2.2]
theorem encO_len (x : Ob × Sd) : (encO x).length = 3 := rfl
structure RQ where
  o : Option Addr
  c : Nat
  ds : List Sd
def rfQ (b N : Nat) (L : List Ob) (q : RQ) : List It :=
  [cb b 73 [.int .i64 N, .slice q.o L.length q.c], own 70 3 q.o L.length q.c (flat encO (L.zip q.ds)), all (owns 33 1 encW q.ds (L.map (·.fs)))]
/-- the document's heap: of so many cells, with these objects -/
def rfI (b N : Nat) (L : List Ob) : It := exI fun q => facI (q.ds.length = L.length) (all (rfQ b N L q))
structure RfQ (w : World) (b N : Nat) (L : List Ob) (q : RQ) : Prop where
  len : q.ds.length = L.length
  c0 : w.cell? (bat b 0) = some (.int .i64 N)
  c1 : w.cell? (bat b 1) = some (.slice q.o L.length q.c)
  rO : Rd w q.o (flat encO (L.zip q.ds))
  rF : RdR encW w q.ds (L.map (·.fs))
  nO : L.length ≤ q.c
def RfR (w : World) (b N : Nat) (L : List Ob) : Prop := ∃ q, RfQ w b N L q
theorem rf_open {w0 w : World} {M : Nat → Prop} {H : List It} {b N : Nat} {L : List Ob} (h : HS w0 M (rfI b N L :: H) w) : ∃ q, q.ds.length = L.length ∧ HS w0 M (rfQ b N L q ++ H) w := by
  obtain ⟨q, h1⟩ := h.exI_open
  obtain ⟨hp, h2⟩ := h1.facI_open
  exact ⟨q, hp, h2.open_⟩
theorem rf_shut {w0 w : World} {M : Nat → Prop} {H : List It} {b N : Nat} {L : List Ob} (q : RQ) (hp : q.ds.length = L.length) (h : HS w0 M (rfQ b N L q ++ H) w) : HS w0 M (rfI b N L :: H) w :=
  HS.exI_shut q (HS.facI_shut hp h.shut)
theorem rfQ_read {w0 w : World} {M : Nat → Prop} {H : List It} {b N : Nat} {L : List Ob} {q : RQ} (hp : q.ds.length = L.length) (h1 : HS w0 M (rfQ b N L q ++ H) w) : RfQ w b N L q := by
  refine ⟨hp, h1.cell (b := b) (j := 0) (List.mem_cons_self ..) rfl, h1.cell (b := b) (j := 1) (List.mem_cons_self ..) rfl, h1.own_rd (o := q.o) MEMT, ?_, (h1.own_le (o := q.o) (xs := flat encO (L.zip q.ds)) (by exact .tail _ (.head _))).1⟩
  exact h1.owns_rdR (T := 33) (sz := 1) (by exact .tail _ (.tail _ (.head _))) (by rw [List.length_map, hp]) encW_len (by omega)
theorem rf_read {w0 w : World} {M : Nat → Prop} {H : List It} {b N : Nat} {L : List Ob} (h : HS w0 M (rfI b N L :: H) w) : RfR w b N L := by
  obtain ⟨q, hp, h1⟩ := rf_open h
  exact ⟨q, rfQ_read hp h1⟩
theorem RfQ.keep {w w' : World} {b N : Nat} {L : List Ob} {q : RQ} (h : RfQ w b N L q) (hk : Kp w noM w') : RfQ w' b N L q := by
  have hH : HS w noM [] w' := (HS.init w noM).keep hk
  exact ⟨h.len, hH.cellw h.c0 id, hH.cellw h.c1 id, hH.rd h.rO id, hH.rdR h.rF rfl, h.nO⟩
theorem RfR.keep {w w' : World} {b N : Nat} {L : List Ob} (h : RfR w b N L) (hk : Kp w noM w') : RfR w' b N L :=
  let ⟨q, hq⟩ := h
  ⟨q, hq.keep hk⟩
theorem zip_at {L : List Ob} {ds : List Sd} {i : Nat} {o : Ob} {d : Sd} (h : L[i]? = some o) (hd : ds[i]? = some d) : (L.zip ds)[i]? = some (o, d) := by
  rw [List.getElem?_zip_eq_some]
  exact ⟨h, hd⟩
theorem RfQ.at {w : World} {b N : Nat} {L : List Ob} {q : RQ} (h : RfQ w b N L q) {i : Nat} {o : Ob} (ho : L[i]? = some o) :
    ∃ d c, q.ds[i]? = some (d, o.fs.length, c) ∧ Rd w d (flat encW o.fs) ∧ (flat encO (L.zip q.ds))[i * 3 + 0]? = some (.int .i64 o.a) ∧ (flat encO (L.zip q.ds))[i * 3 + 1]? = some (.int .i64 o.kind) ∧
      (flat encO (L.zip q.ds))[i * 3 + 2]? = some (.slice d o.fs.length c) := by
  obtain ⟨d, c, hd, hr⟩ := h.rF.at (i := i) (r := o.fs) (by rw [List.getElem?_map, ho]; rfl)
  have hz := zip_at ho hd
  exact ⟨d, c, hd, hr, flat_get encO_len (off := 0) hz rfl, flat_get encO_len (off := 1) hz rfl, flat_get encO_len (off := 2) hz rfl⟩
theorem RfQ.sp {w : World} {b N : Nat} {L : List Ob} {q : RQ} (h : RfQ w b N L q) : Sp q.o L.length := h.rO.sp (sz := 3) (by rw [flat_length encO_len, List.length_zip, h.len]; simp) (by omega)
/-- the place of an object -/
def findI (L : List Ob) (z : Int) : Int := match L.findIdx? fun o => decide ((o.a : Int) = z) with
  | some i => i
  | none => -1
theorem findI_obj (L : List Ob) (z : Int) : (objA L z = none ∧ findI L z = -1) ∨ ∃ (i : Nat) (o : Ob), objA L z = some o ∧ findI L z = i ∧ L[i]? = some o := by
  unfold findI objA
  induction L with
  | nil => left; exact ⟨rfl, rfl⟩
  | cons x L ih =>
    rw [List.find?_cons, List.findIdx?_cons]
    by_cases hx : (x.a : Int) = z
    · right
      simp only [hx, decide_true, if_true]
      exact ⟨0, x, rfl, rfl, rfl⟩
    · simp only [hx, decide_false, Bool.false_eq_true, if_false]
      rcases ih with ⟨h1, h2⟩ | ⟨i, o, h1, h2, h3⟩
      · left
        refine ⟨h1, ?_⟩
        cases hf : L.findIdx? fun o => decide ((o.a : Int) = z) with
        | none => rfl
        | some i => rw [hf] at h2; dsimp only at h2; omega
      · right
        refine ⟨i + 1, o, h1, ?_, by simpa using h3⟩
        cases hf : L.findIdx? fun o => decide ((o.a : Int) = z) with
        | none => rw [hf] at h2; dsimp only at h2; omega
        | some j => rw [hf] at h2; dsimp only at h2; simp only [Option.map_some]; omega
theorem findI_at {L : List Ob} {z : Int} {i : Nat} {o : Ob} (h : L[i]? = some o) (ho : (o.a : Int) = z) (hno : ∀ (k : Nat) (x : Ob), k < i → L[k]? = some x → (x.a : Int) ≠ z) : findI L z = i := by
  unfold findI
  have : L.findIdx? (fun o => decide ((o.a : Int) = z)) = some i := by
    rw [List.findIdx?_eq_some_iff_getElem]
    obtain ⟨hi, he⟩ := List.getElem?_eq_some_iff.1 h
    refine ⟨hi, by rw [he]; simpa using ho, fun j hj => ?_⟩
    have := hno j _ hj (List.getElem?_eq_getElem (by omega))
    simpa using this
  rw [this]
theorem findI_no {L : List Ob} {z : Int} (hno : ∀ (k : Nat) (x : Ob), L[k]? = some x → (x.a : Int) ≠ z) : findI L z = -1 := by
  unfold findI
  have : L.findIdx? (fun o => decide ((o.a : Int) = z)) = none := by
    rw [List.findIdx?_eq_none_iff]
    intro x hx
    obtain ⟨k, hk⟩ := List.getElem?_of_mem hx
    simpa using hno k x hk
  rw [this]
theorem nextI_at {L : List Ob} {z : Int} {i : Nat} {o : Ob} (h : L[i]? = some o) (ho : z ≤ (o.a : Int)) (hno : ∀ (k : Nat) (x : Ob), k < i → L[k]? = some x → ¬ z ≤ (x.a : Int)) : nextA L z = o.a := by
  obtain ⟨hi, he⟩ := List.getElem?_eq_some_iff.1 h
  have hs : L = L.take i ++ o :: L.drop (i + 1) := by rw [← he, ← List.drop_eq_getElem_cons hi, List.take_append_drop]
  unfold nextA
  rw [hs, List.find?_append, List.find?_eq_none.2, List.find?_cons_of_pos (by simpa using ho)]
  · rfl
  · intro x hx
    obtain ⟨k, hk⟩ := List.getElem?_of_mem hx
    have hk1 := (List.getElem?_eq_some_iff.1 hk).1
    rw [List.length_take] at hk1
    rw [List.getElem?_take_of_lt (by omega)] at hk
    simpa using hno k x (by omega) hk
theorem nextI_no {L : List Ob} {z : Int} (hno : ∀ (k : Nat) (x : Ob), L[k]? = some x → ¬ z ≤ (x.a : Int)) : nextA L z = 0 := next_none fun o ho => by
  obtain ⟨k, hk⟩ := List.getElem?_of_mem ho
  exact hno k o hk
theorem endA_snoc (A : List Ob) (o : Ob) (p : Nat) : endA p (A ++ [o]) = o.fin := by
  induction A generalizing p with
  | nil => rfl
  | cons a A ih => exact ih _
theorem gin_snoc (A : List Ob) (o : Ob) (p : Nat) : gin p (A ++ [o]) = gin p A ++ gap1 (endA p A) o.a := by
  induction A generalizing p with
  | nil => simp [gin, endA]
  | cons a A ih => rw [List.cons_append]; simp only [gin, endA]; rw [ih, List.append_assoc]
theorem gaps_gin {N : Nat} (L : List Ob) (p : Nat) : gaps N p L = gin p L ++ gap1 (endA p L) N := by
  have := gaps_append (N := N) L [] p
  rw [List.append_nil] at this
  rw [this]
  rfl
/-- the gaps ahead of place i -/
def gapT (N : Nat) (L : List Ob) (i : Nat) : List (Int × Int) := if i ≤ L.length then gin 1 (L.take i) else gaps N 1 L
theorem gapT_succ {N : Nat} {L : List Ob} {i : Nat} (hi : i ≤ L.length) : gapT N L (i + 1) = gapT N L i ++ gap1 (endA 1 (L.take i)) (nxt N (L.drop i)) := by
  unfold gapT
  rw [if_pos hi]
  by_cases h : i < L.length
  · rw [if_pos (by omega), List.take_add_one, List.getElem?_eq_getElem h]
    simp only [Option.toList_some]
    rw [gin_snoc, List.drop_eq_getElem_cons h]
    rfl
  · rw [if_neg (by omega), List.take_of_length_le (by omega), List.drop_of_length_le (by omega), gaps_gin]
    rfl
theorem room_gap1 {p e : Nat} (h : p ≤ e) (l : List (Int × Int)) : roomA (l ++ gap1 p e) = roomA l + ((e : Int) - p) := by
  rw [roomA_append, gap1_sum p e h]
  omega
theorem long_gap1 {p e : Nat} (h : p ≤ e) {l : List (Int × Int)} (hl : 0 ≤ longA l) : longA (l ++ gap1 p e) = if (e : Int) - p > longA l then (e : Int) - p else longA l := by
  unfold gap1
  split
  · rw [longA_snoc]
    dsimp only
    rw [show ((e - p : Nat) : Int) = (e : Int) - p by omega]
  · rw [List.append_nil, if_neg (by omega)]
theorem longA_nonneg (l : List (Int × Int)) : 0 ≤ longA l := by
  have key : ∀ (l : List (Int × Int)) (n : Int), 0 ≤ n → 0 ≤ l.foldl (fun n r => if r.2 > n then r.2 else n) n := by
    intro l
    induction l with
    | nil => intro n h; exact h
    | cons x l ih =>
      intro n h
      rw [List.foldl_cons]
      refine ih _ ?_
      split <;> omega
  exact key l 0 (Int.le_refl _)
/-- what holds of a heap's objects -/
structure Ok (N : Nat) (L : List Ob) : Prop where
  n2 : 2 ≤ N ∧ N ≤ 65536
  lay : Lay N 1 L
  kd : ∀ o ∈ L, 1 ≤ o.kind ∧ o.fs.length ≤ 4096
theorem Rep.ok {N : Nat} {L : List Ob} {cs : List Int} {hs : List (Int × Int)} (h : Rep N L cs hs) : Ok N L := ⟨h.n2, h.lay, h.kd⟩
theorem Ok.len {N : Nat} {L : List Ob} (h : Ok N L) : L.length ≤ 65536 := by
  have := h.lay.len
  have := h.n2
  omega
theorem Ok.split {N : Nat} {A B : List Ob} (h : Ok N (A ++ B)) : endA 1 A ≤ nxt N B ∧ nxt N B ≤ N := nxt_le h.lay.split.2
theorem Ok.objM {N : Nat} {L : List Ob} (h : Ok N L) {z : Int} {o : Ob} (ho : objA L z = some o) : 1 ≤ o.a ∧ o.a + 1 + o.fs.length ≤ N := h.lay.mem o (objA_some ho).1
set_option maxRecDepth 10000 attribute [local irreducible] Code.wp wpList Calls Ex Op1 sat bat blk cb own Go.Fw.mp Go.Fw.mpO Go.Fw.mpI Go.Fw.mpE Go.Fw.itr HS Rd Ret wkD Hp Cl Cls Exit.then Exit.inBlock Exit.noGoto bodyPost Go.Fw.flat wk2 Go.Fw.all Go.Fw.owns wpOp
attribute [local irreducible] hdA gaps isA roomA longA nextA gapT findI objA

theorem rfind_spec (w0 : World) (b N : Nat) (L : List Ob) (z : Int) (hL : L.length ≤ 65536) (hR : RfR w0 b N L) :
    Ret Try.prog 47 #[.pointer (some (bat b 0)), .int .i64 z] w0 (fun v w => v = .int .i64 (findI L z) ∧ Kp w0 noM w) := by
  have hH : HS w0 noM [] w0 := HS.init w0 noM
  obtain ⟨q, hq⟩ := hR
  have hsp := hq.sp
  (refine enter (N := 26) Try.func47 rfl Try.ntmps47 rfl ?_; intro a hA; dsimp only [sl0, Nat.reduceAdd] at hA)
  repeat' (first | (first | (refine GT ?_ ?_ <;> intro hg <;> clear hA a <;> intro a hA <;> (first | exact FA | replace hg := of_decide_eq_true hg | replace hg := of_decide_eq_false hg | skip)) | (refine QT0 ?_; clear hA a; intro a hA) | (first | (refine BT ?_; clear hA hH; rintro _ w ⟨bN, rfl, hH⟩ a hA) | (refine LT ?_; clear hA hH; rintro _ w ⟨oN, rfl, hH⟩ a hA) | (refine AT ?_; clear hA; rintro _ w ⟨oN, cN, rfl, hH2⟩ a hA; clear hH; have hH := (hH2 _ (by (repeat constructor))).tail; clear hH2) | (refine S0T ?_; clear hH; rintro _ w hH) )) | ((first | refine CT ?_ | (refine DT ?_ ?_ <;> intro hc <;> try (exfalso; omega))) <;> repeat' refine CT ?_) | (first | (refine DSK ?_; clear hA a; intro a hA) | (first | (refine DLT ?_; clear hA hH; rintro _ w ⟨oN, rfl, hH⟩; refine ⟨STT, ?_⟩; intro a hA) | (refine DAT ?_; clear hA; rintro _ w ⟨oN, cN, rfl, hH2⟩; clear hH; have hH := (hH2 _ (by (repeat constructor))).tail; clear hH2; refine ⟨STT, ?_⟩; intro a hA))) )
  refine wp_lpj (S := Nat) (fun i a w => (i ≤ L.length ∧ ∀ (k : Nat) (x : Ob), k < i → L[k]? = some x → (x.a : Int) ≠ z) ∧ HS w0 noM [] w ∧ Sl 26 [(0, .pointer (some (bat b 0))), (1, .int .i64 z), (5, .int .i64 i)] a) (fun i => L.length - i)
    (fun a w => (∀ (k : Nat) (x : Ob), L[k]? = some x → (x.a : Int) ≠ z) ∧ HS w0 noM [] w ∧ Sl 26 [] a) 0 ⟨⟨Nat.zero_le _, fun k x hk => by omega⟩, hH, (hA.sub (by (repeat (first | exact trivial | refine ⟨rfl, ?_⟩))))⟩ ?_ ?_
  · clear hA hH
    rintro i a w ⟨⟨hi, hno⟩, hH, hA⟩
    by_cases hlt : i < L.length
    · obtain ⟨o, ho⟩ : ∃ o, L[i]? = some o := ⟨_, List.getElem?_eq_getElem hlt⟩
      obtain ⟨d, c, hd, hrd, ca, ck, cf⟩ := hq.at ho
      repeat' (first | (first | (refine GT ?_ ?_ <;> intro hg <;> clear hA a <;> intro a hA <;> (first | exact FA | replace hg := of_decide_eq_true hg | replace hg := of_decide_eq_false hg | skip)) | ((first | apply st_ex hA hH rfl rfl (by decide) | apply dr_ex hA rfl rfl rfl (by decide) | apply dr_exp hA rfl rfl rfl (by decide) | apply dr_ex3 hA hH rfl rfl rfl (by decide)); (first | (apply ex_load; rfl; exact cl_w hq.c1 id) | (apply ex_load; rfl; exact cl_rd hq.rO id ca)); clear hA a; intro a hA) | (refine QT0 ?_; clear hA a; intro a hA) | (first | (refine BT ?_; clear hA hH; rintro _ w ⟨bN, rfl, hH⟩ a hA) | (refine LT ?_; clear hA hH; rintro _ w ⟨oN, rfl, hH⟩ a hA) | (refine AT ?_; clear hA; rintro _ w ⟨oN, cN, rfl, hH2⟩ a hA; clear hH; have hH := (hH2 _ (by (repeat constructor))).tail; clear hH2) | (refine S0T ?_; clear hH; rintro _ w hH) )) | ((first | refine CT ?_ | (refine DT ?_ ?_ <;> intro hc <;> try (exfalso; omega))) <;> repeat' refine CT ?_) | (first | (refine DSK ?_; clear hA a; intro a hA) | (first | (refine DLT ?_; clear hA hH; rintro _ w ⟨oN, rfl, hH⟩; refine ⟨STT, ?_⟩; intro a hA) | (refine DAT ?_; clear hA; rintro _ w ⟨oN, cN, rfl, hH2⟩; clear hH; have hH := (hH2 _ (by (repeat constructor))).tail; clear hH2; refine ⟨STT, ?_⟩; intro a hA))) )
      · exact rt1 (.inl rfl) rfl hA rfl ⟨by rw [findI_at ho (by assumption) hno], hH.kp⟩
      · refine ⟨i + 1, ⟨⟨hlt, fun k x hk hx => ?_⟩, hH, (hA.sub (by (repeat (first | exact trivial | refine ⟨rfl, ?_⟩))))⟩, by omega⟩
        rcases Nat.lt_or_ge k i with h | h
        · exact hno k x h hx
        · obtain rfl : k = i := by omega
          rw [ho] at hx
          obtain rfl := Option.some.inj hx
          assumption
    · repeat' (first | (first | (refine GT ?_ ?_ <;> intro hg <;> clear hA a <;> intro a hA <;> (first | exact FA | replace hg := of_decide_eq_true hg | replace hg := of_decide_eq_false hg | skip)) | ((first | apply st_ex hA hH rfl rfl (by decide) | apply dr_ex hA rfl rfl rfl (by decide) | apply dr_exp hA rfl rfl rfl (by decide) | apply dr_ex3 hA hH rfl rfl rfl (by decide)); (first | (apply ex_load; rfl; exact cl_w hq.c1 id)); clear hA a; intro a hA) | (refine QT0 ?_; clear hA a; intro a hA) | (first | (refine BT ?_; clear hA hH; rintro _ w ⟨bN, rfl, hH⟩ a hA) | (refine LT ?_; clear hA hH; rintro _ w ⟨oN, rfl, hH⟩ a hA) | (refine AT ?_; clear hA; rintro _ w ⟨oN, cN, rfl, hH2⟩ a hA; clear hH; have hH := (hH2 _ (by (repeat constructor))).tail; clear hH2) | (refine S0T ?_; clear hH; rintro _ w hH) )) | ((first | refine CT ?_ | (refine DT ?_ ?_ <;> intro hc <;> try (exfalso; omega))) <;> repeat' refine CT ?_) | (first | (refine DSK ?_; clear hA a; intro a hA) | (first | (refine DLT ?_; clear hA hH; rintro _ w ⟨oN, rfl, hH⟩; refine ⟨STT, ?_⟩; intro a hA) | (refine DAT ?_; clear hA; rintro _ w ⟨oN, cN, rfl, hH2⟩; clear hH; have hH := (hH2 _ (by (repeat constructor))).tail; clear hH2; refine ⟨STT, ?_⟩; intro a hA))) )
      exact ⟨fun k x hx => hno k x (by have := (List.getElem?_eq_some_iff.1 hx).1; omega) hx, hH, (hA.sub (by (repeat (first | exact trivial | refine ⟨rfl, ?_⟩))))⟩
  · clear hA hH
    rintro a w ⟨hno, hH, hA⟩
    repeat' (first | (first | (refine GT ?_ ?_ <;> intro hg <;> clear hA a <;> intro a hA <;> (first | exact FA | replace hg := of_decide_eq_true hg | replace hg := of_decide_eq_false hg | skip)) | (refine QT0 ?_; clear hA a; intro a hA) | (first | (refine BT ?_; clear hA hH; rintro _ w ⟨bN, rfl, hH⟩ a hA) | (refine LT ?_; clear hA hH; rintro _ w ⟨oN, rfl, hH⟩ a hA) | (refine AT ?_; clear hA; rintro _ w ⟨oN, cN, rfl, hH2⟩ a hA; clear hH; have hH := (hH2 _ (by (repeat constructor))).tail; clear hH2) | (refine S0T ?_; clear hH; rintro _ w hH) )) | ((first | refine CT ?_ | (refine DT ?_ ?_ <;> intro hc <;> try (exfalso; omega))) <;> repeat' refine CT ?_) | (first | (refine DSK ?_; clear hA a; intro a hA) | (first | (refine DLT ?_; clear hA hH; rintro _ w ⟨oN, rfl, hH⟩; refine ⟨STT, ?_⟩; intro a hA) | (refine DAT ?_; clear hA; rintro _ w ⟨oN, cN, rfl, hH2⟩; clear hH; have hH := (hH2 _ (by (repeat constructor))).tail; clear hH2; refine ⟨STT, ?_⟩; intro a hA))) )
    exact rt1 (.inl rfl) rfl hA rfl ⟨by rw [findI_no hno], hH.kp⟩

theorem rnext_spec (w0 : World) (b N : Nat) (L : List Ob) (z : Int) (hL : L.length ≤ 65536) (hR : RfR w0 b N L) :
    Ret Try.prog 51 #[.pointer (some (bat b 0)), .int .i64 z] w0 (fun v w => v = .int .i64 (nextA L z) ∧ Kp w0 noM w) := by
  have hH : HS w0 noM [] w0 := HS.init w0 noM
  obtain ⟨q, hq⟩ := hR
  have hsp := hq.sp
  (refine enter (N := 33) Try.func51 rfl Try.ntmps51 rfl ?_; intro a hA; dsimp only [sl0, Nat.reduceAdd] at hA)
  repeat' (first | (first | (refine GT ?_ ?_ <;> intro hg <;> clear hA a <;> intro a hA <;> (first | exact FA | replace hg := of_decide_eq_true hg | replace hg := of_decide_eq_false hg | skip)) | (refine QT0 ?_; clear hA a; intro a hA) | (first | (refine BT ?_; clear hA hH; rintro _ w ⟨bN, rfl, hH⟩ a hA) | (refine LT ?_; clear hA hH; rintro _ w ⟨oN, rfl, hH⟩ a hA) | (refine AT ?_; clear hA; rintro _ w ⟨oN, cN, rfl, hH2⟩ a hA; clear hH; have hH := (hH2 _ (by (repeat constructor))).tail; clear hH2) | (refine S0T ?_; clear hH; rintro _ w hH) )) | ((first | refine CT ?_ | (refine DT ?_ ?_ <;> intro hc <;> try (exfalso; omega))) <;> repeat' refine CT ?_) | (first | (refine DSK ?_; clear hA a; intro a hA) | (first | (refine DLT ?_; clear hA hH; rintro _ w ⟨oN, rfl, hH⟩; refine ⟨STT, ?_⟩; intro a hA) | (refine DAT ?_; clear hA; rintro _ w ⟨oN, cN, rfl, hH2⟩; clear hH; have hH := (hH2 _ (by (repeat constructor))).tail; clear hH2; refine ⟨STT, ?_⟩; intro a hA))) )
  refine wp_lpj (S := Nat) (fun i a w => (i ≤ L.length ∧ ∀ (k : Nat) (x : Ob), k < i → L[k]? = some x → ¬ z ≤ (x.a : Int)) ∧ HS w0 noM [] w ∧ Sl 33 [(0, .pointer (some (bat b 0))), (1, .int .i64 z), (5, .int .i64 i)] a) (fun i => L.length - i)
    (fun a w => (∀ (k : Nat) (x : Ob), L[k]? = some x → ¬ z ≤ (x.a : Int)) ∧ HS w0 noM [] w ∧ Sl 33 [] a) 0 ⟨⟨Nat.zero_le _, fun k x hk => by omega⟩, hH, (hA.sub (by (repeat (first | exact trivial | refine ⟨rfl, ?_⟩))))⟩ ?_ ?_
  · clear hA hH
    rintro i a w ⟨⟨hi, hno⟩, hH, hA⟩
    by_cases hlt : i < L.length
    · obtain ⟨o, ho⟩ : ∃ o, L[i]? = some o := ⟨_, List.getElem?_eq_getElem hlt⟩
      obtain ⟨d, c, hd, hrd, ca, ck, cf⟩ := hq.at ho
      repeat' (first | (first | (refine GT ?_ ?_ <;> intro hg <;> clear hA a <;> intro a hA <;> (first | exact FA | replace hg := of_decide_eq_true hg | replace hg := of_decide_eq_false hg | skip)) | ((first | apply st_ex hA hH rfl rfl (by decide) | apply dr_ex hA rfl rfl rfl (by decide) | apply dr_exp hA rfl rfl rfl (by decide) | apply dr_ex3 hA hH rfl rfl rfl (by decide)); (first | (apply ex_load; rfl; exact cl_w hq.c1 id) | (apply ex_load; rfl; exact cl_rd hq.rO id ca)); clear hA a; intro a hA) | (refine QT0 ?_; clear hA a; intro a hA) | (first | (refine BT ?_; clear hA hH; rintro _ w ⟨bN, rfl, hH⟩ a hA) | (refine LT ?_; clear hA hH; rintro _ w ⟨oN, rfl, hH⟩ a hA) | (refine AT ?_; clear hA; rintro _ w ⟨oN, cN, rfl, hH2⟩ a hA; clear hH; have hH := (hH2 _ (by (repeat constructor))).tail; clear hH2) | (refine S0T ?_; clear hH; rintro _ w hH) )) | ((first | refine CT ?_ | (refine DT ?_ ?_ <;> intro hc <;> try (exfalso; omega))) <;> repeat' refine CT ?_) | (first | (refine DSK ?_; clear hA a; intro a hA) | (first | (refine DLT ?_; clear hA hH; rintro _ w ⟨oN, rfl, hH⟩; refine ⟨STT, ?_⟩; intro a hA) | (refine DAT ?_; clear hA; rintro _ w ⟨oN, cN, rfl, hH2⟩; clear hH; have hH := (hH2 _ (by (repeat constructor))).tail; clear hH2; refine ⟨STT, ?_⟩; intro a hA))) )
      · exact rt1 (.inl rfl) rfl hA rfl ⟨by rw [nextI_at ho (by assumption) hno], hH.kp⟩
      · refine ⟨i + 1, ⟨⟨hlt, fun k x hk hx => ?_⟩, hH, (hA.sub (by (repeat (first | exact trivial | refine ⟨rfl, ?_⟩))))⟩, by omega⟩
        rcases Nat.lt_or_ge k i with h | h
        · exact hno k x h hx
        · obtain rfl : k = i := by omega
          rw [ho] at hx
          obtain rfl := Option.some.inj hx
          assumption
    · repeat' (first | (first | (refine GT ?_ ?_ <;> intro hg <;> clear hA a <;> intro a hA <;> (first | exact FA | replace hg := of_decide_eq_true hg | replace hg := of_decide_eq_false hg | skip)) | ((first | apply st_ex hA hH rfl rfl (by decide) | apply dr_ex hA rfl rfl rfl (by decide) | apply dr_exp hA rfl rfl rfl (by decide) | apply dr_ex3 hA hH rfl rfl rfl (by decide)); (first | (apply ex_load; rfl; exact cl_w hq.c1 id)); clear hA a; intro a hA) | (refine QT0 ?_; clear hA a; intro a hA) | (first | (refine BT ?_; clear hA hH; rintro _ w ⟨bN, rfl, hH⟩ a hA) | (refine LT ?_; clear hA hH; rintro _ w ⟨oN, rfl, hH⟩ a hA) | (refine AT ?_; clear hA; rintro _ w ⟨oN, cN, rfl, hH2⟩ a hA; clear hH; have hH := (hH2 _ (by (repeat constructor))).tail; clear hH2) | (refine S0T ?_; clear hH; rintro _ w hH) )) | ((first | refine CT ?_ | (refine DT ?_ ?_ <;> intro hc <;> try (exfalso; omega))) <;> repeat' refine CT ?_) | (first | (refine DSK ?_; clear hA a; intro a hA) | (first | (refine DLT ?_; clear hA hH; rintro _ w ⟨oN, rfl, hH⟩; refine ⟨STT, ?_⟩; intro a hA) | (refine DAT ?_; clear hA; rintro _ w ⟨oN, cN, rfl, hH2⟩; clear hH; have hH := (hH2 _ (by (repeat constructor))).tail; clear hH2; refine ⟨STT, ?_⟩; intro a hA))) )
      exact ⟨fun k x hx => hno k x (by have := (List.getElem?_eq_some_iff.1 hx).1; omega) hx, hH, (hA.sub (by (repeat (first | exact trivial | refine ⟨rfl, ?_⟩))))⟩
  · clear hA hH
    rintro a w ⟨hno, hH, hA⟩
    repeat' (first | (first | (refine GT ?_ ?_ <;> intro hg <;> clear hA a <;> intro a hA <;> (first | exact FA | replace hg := of_decide_eq_true hg | replace hg := of_decide_eq_false hg | skip)) | (refine QT0 ?_; clear hA a; intro a hA) | (first | (refine BT ?_; clear hA hH; rintro _ w ⟨bN, rfl, hH⟩ a hA) | (refine LT ?_; clear hA hH; rintro _ w ⟨oN, rfl, hH⟩ a hA) | (refine AT ?_; clear hA; rintro _ w ⟨oN, cN, rfl, hH2⟩ a hA; clear hH; have hH := (hH2 _ (by (repeat constructor))).tail; clear hH2) | (refine S0T ?_; clear hH; rintro _ w hH) )) | ((first | refine CT ?_ | (refine DT ?_ ?_ <;> intro hc <;> try (exfalso; omega))) <;> repeat' refine CT ?_) | (first | (refine DSK ?_; clear hA a; intro a hA) | (first | (refine DLT ?_; clear hA hH; rintro _ w ⟨oN, rfl, hH⟩; refine ⟨STT, ?_⟩; intro a hA) | (refine DAT ?_; clear hA; rintro _ w ⟨oN, cN, rfl, hH2⟩; clear hH; have hH := (hH2 _ (by (repeat constructor))).tail; clear hH2; refine ⟨STT, ?_⟩; intro a hA))) )
    exact rt1 (.inl rfl) rfl hA rfl ⟨by rw [nextI_no hno], hH.kp⟩

theorem rget_spec (w0 : World) (b N : Nat) (L : List Ob) (z i : Int) (hok : Ok N L) (hR : RfR w0 b N L) :
    Ret Try.prog 46 #[.pointer (some (bat b 0)), .int .i64 z, .int .i64 i] w0 (fun v w => v = .tuple #[.int .u64 (getA L z i).1, .int .i64 (getA L z i).2] ∧ Kp w0 noM w) := by
  have hH : HS w0 noM [] w0 := HS.init w0 noM
  have hL := hok.len
  (refine enter (N := 40) Try.func46 rfl Try.ntmps46 rfl ?_; intro a hA; dsimp only [sl0, Nat.reduceAdd] at hA)
  repeat' (first | (first | (refine GT ?_ ?_ <;> intro hg <;> clear hA a <;> intro a hA <;> (first | exact FA | replace hg := of_decide_eq_true hg | replace hg := of_decide_eq_false hg | skip)) | (refine QT0 ?_; clear hA a; intro a hA) | (first | (refine BT ?_; clear hA hH; rintro _ w ⟨bN, rfl, hH⟩ a hA) | (refine LT ?_; clear hA hH; rintro _ w ⟨oN, rfl, hH⟩ a hA) | (refine AT ?_; clear hA; rintro _ w ⟨oN, cN, rfl, hH2⟩ a hA; clear hH; have hH := (hH2 _ (by (repeat constructor))).tail; clear hH2) | (refine S0T ?_; clear hH; rintro _ w hH) )) | ((first | refine CT ?_ | (refine DT ?_ ?_ <;> intro hc <;> try (exfalso; omega))) <;> repeat' refine CT ?_) | (first | (refine DSK ?_; clear hA a; intro a hA) | (first | (refine DLT ?_; clear hA hH; rintro _ w ⟨oN, rfl, hH⟩; refine ⟨STT, ?_⟩; intro a hA) | (refine DAT ?_; clear hA; rintro _ w ⟨oN, cN, rfl, hH2⟩; clear hH; have hH := (hH2 _ (by (repeat constructor))).tail; clear hH2; refine ⟨STT, ?_⟩; intro a hA))) )
  (refine st_op hA rfl rfl (by decide) (op_call rfl rfl rfl (rfind_spec _ b N L z hL hR)) ?_; clear hA; rintro _ w ⟨rfl, hk⟩ a hA)
  replace hH := hH.keep hk
  clear hk
  obtain ⟨q, hq⟩ := hR
  have hsp := hq.sp
  rcases findI_obj L z with ⟨h1, h2⟩ | ⟨k, o, h1, h2, h3⟩
  · rw [h2] at hA
    repeat' (first | (first | (refine GT ?_ ?_ <;> intro hg <;> clear hA a <;> intro a hA <;> (first | exact FA | replace hg := of_decide_eq_true hg | replace hg := of_decide_eq_false hg | skip)) | (refine QT0 ?_; clear hA a; intro a hA) | (first | (refine BT ?_; clear hA hH; rintro _ w ⟨bN, rfl, hH⟩ a hA) | (refine LT ?_; clear hA hH; rintro _ w ⟨oN, rfl, hH⟩ a hA) | (refine AT ?_; clear hA; rintro _ w ⟨oN, cN, rfl, hH2⟩ a hA; clear hH; have hH := (hH2 _ (by (repeat constructor))).tail; clear hH2) | (refine S0T ?_; clear hH; rintro _ w hH) )) | ((first | refine CT ?_ | (refine DT ?_ ?_ <;> intro hc <;> try (exfalso; omega))) <;> repeat' refine CT ?_) | (first | (refine DSK ?_; clear hA a; intro a hA) | (first | (refine DLT ?_; clear hA hH; rintro _ w ⟨oN, rfl, hH⟩; refine ⟨STT, ?_⟩; intro a hA) | (refine DAT ?_; clear hA; rintro _ w ⟨oN, cN, rfl, hH2⟩; clear hH; have hH := (hH2 _ (by (repeat constructor))).tail; clear hH2; refine ⟨STT, ?_⟩; intro a hA))) )
    exact rt2 (.inl rfl) rfl hA rfl rfl ⟨by simp [getA, h1], hH.kp⟩
  rw [h2] at hA
  have hkl := (List.getElem?_eq_some_iff.1 h3).1
  obtain ⟨d, c, hd, hrd, ca, ck, cf⟩ := hq.at h3
  have hm := (hok.kd o (List.mem_of_getElem? h3)).2
  have hspd : Sp d o.fs.length := hrd.sp (sz := 1) (flat_length encW_len _) (by omega)
  by_cases hir : 0 ≤ i ∧ i < (o.fs.length : Int)
  rotate_left
  · have hgA : getA L z i = (0, 2) := by simp only [getA, h1]; rw [if_neg hir]
    repeat' (first | (first | (refine GT ?_ ?_ <;> intro hg <;> clear hA a <;> intro a hA <;> (first | exact FA | replace hg := of_decide_eq_true hg | replace hg := of_decide_eq_false hg | skip)) | ((first | apply st_ex hA hH rfl rfl (by decide) | apply dr_ex hA rfl rfl rfl (by decide) | apply dr_exp hA rfl rfl rfl (by decide) | apply dr_ex3 hA hH rfl rfl rfl (by decide)); (first | (apply ex_load; rfl; exact cl_w hq.c1 id) | (apply ex_load; rfl; exact cl_rd hq.rO id cf)); clear hA a; intro a hA) | (refine QT0 ?_; clear hA a; intro a hA) | (first | (refine BT ?_; clear hA hH; rintro _ w ⟨bN, rfl, hH⟩ a hA) | (refine LT ?_; clear hA hH; rintro _ w ⟨oN, rfl, hH⟩ a hA) | (refine AT ?_; clear hA; rintro _ w ⟨oN, cN, rfl, hH2⟩ a hA; clear hH; have hH := (hH2 _ (by (repeat constructor))).tail; clear hH2) | (refine S0T ?_; clear hH; rintro _ w hH) )) | ((first | refine CT ?_ | (refine DT ?_ ?_ <;> intro hc <;> try (exfalso; omega))) <;> repeat' refine CT ?_) | (first | (refine DSK ?_; clear hA a; intro a hA) | (first | (refine DLT ?_; clear hA hH; rintro _ w ⟨oN, rfl, hH⟩; refine ⟨STT, ?_⟩; intro a hA) | (refine DAT ?_; clear hA; rintro _ w ⟨oN, cN, rfl, hH2⟩; clear hH; have hH := (hH2 _ (by (repeat constructor))).tail; clear hH2; refine ⟨STT, ?_⟩; intro a hA))) )
    all_goals exact rt2 (.inl rfl) rfl hA rfl rfl ⟨by rw [hgA], hH.kp⟩
  obtain ⟨j, rfl⟩ : ∃ j : Nat, i = j := ⟨i.toNat, by omega⟩
  obtain ⟨y, hy⟩ : ∃ y, o.fs[j]? = some y := ⟨_, List.getElem?_eq_getElem (by omega)⟩
  have hgA : getA L z j = (y, 0) := by simp only [getA, h1]; rw [if_pos hir]; simp [List.getD, hy]
  have cy : (flat encW o.fs)[j * 1]? = some (.int .u64 y) := flat_get0 encW_len hy rfl
  repeat' (first | (first | (refine GT ?_ ?_ <;> intro hg <;> clear hA a <;> intro a hA <;> (first | exact FA | replace hg := of_decide_eq_true hg | replace hg := of_decide_eq_false hg | skip)) | ((first | apply st_ex hA hH rfl rfl (by decide) | apply dr_ex hA rfl rfl rfl (by decide) | apply dr_exp hA rfl rfl rfl (by decide) | apply dr_ex3 hA hH rfl rfl rfl (by decide)); (first | (apply ex_load; rfl; exact cl_w hq.c1 id) | (apply ex_load; rfl; exact cl_rd hq.rO id cf) | (apply ex_load; rfl; exact cl_rd hrd id cy)); clear hA a; intro a hA) | (refine QT0 ?_; clear hA a; intro a hA) | (first | (refine BT ?_; clear hA hH; rintro _ w ⟨bN, rfl, hH⟩ a hA) | (refine LT ?_; clear hA hH; rintro _ w ⟨oN, rfl, hH⟩ a hA) | (refine AT ?_; clear hA; rintro _ w ⟨oN, cN, rfl, hH2⟩ a hA; clear hH; have hH := (hH2 _ (by (repeat constructor))).tail; clear hH2) | (refine S0T ?_; clear hH; rintro _ w hH) )) | ((first | refine CT ?_ | (refine DT ?_ ?_ <;> intro hc <;> try (exfalso; omega))) <;> repeat' refine CT ?_) | (first | (refine DSK ?_; clear hA a; intro a hA) | (first | (refine DLT ?_; clear hA hH; rintro _ w ⟨oN, rfl, hH⟩; refine ⟨STT, ?_⟩; intro a hA) | (refine DAT ?_; clear hA; rintro _ w ⟨oN, cN, rfl, hH2⟩; clear hH; have hH := (hH2 _ (by (repeat constructor))).tail; clear hH2; refine ⟨STT, ?_⟩; intro a hA))) )
  exact rt2 (.inl rfl) rfl hA rfl rfl ⟨by rw [hgA], hH.kp⟩

theorem gap_spec (w0 : World) (b N : Nat) (A B : List Ob) (n : Nat) (hn : n = A.length) (hok : Ok N (A ++ B)) (hR : RfR w0 b N (A ++ B)) :
    Ret Try.prog 61 #[.pointer (some (bat b 0)), .int .i64 n] w0 (fun v w => v = .tuple #[.int .i64 (endA 1 A : Nat), .int .i64 ((nxt N B : Nat) - (endA 1 A : Nat))] ∧ Kp w0 noM w) := by
  have hH : HS w0 noM [] w0 := HS.init w0 noM
  have hL := hok.len
  obtain ⟨q, hq⟩ := hR
  have hsp := hq.sp
  have hn2 := hok.n2
  have hs := hok.split
  have hAB : (A ++ B).length = A.length + B.length := List.length_append
  have hB : B = [] ∧ nxt N B = N ∨ ∃ o B', B = o :: B' ∧ nxt N B = o.a ∧ (A ++ B)[n]? = some o := by
    cases B with
    | nil => exact .inl ⟨rfl, rfl⟩
    | cons o B => exact .inr ⟨o, B, rfl, rfl, by rw [List.getElem?_append_right (by omega), hn, Nat.sub_self]; rfl⟩
  have hBl : B = [] → B.length = 0 := fun h => by rw [h]; rfl
  have hBc : ∀ o B', B = o :: B' → 0 < B.length := fun o B' h => by rw [h]; simp
  have hA1 : (A = [] ∧ n = 0 ∧ endA 1 A = 1) ∨ ∃ k o, n = k + 1 ∧ (A ++ B)[k]? = some o ∧ endA 1 A = o.a + 1 + o.fs.length := by
    rcases List.eq_nil_or_concat A with rfl | ⟨A', o, rfl⟩
    · exact .inl ⟨rfl, hn, rfl⟩
    · rw [List.concat_eq_append] at *
      refine .inr ⟨A'.length, o, by simpa using hn, ?_, endA_snoc A' o 1⟩
      rw [List.getElem?_append_left (by simp)]
      simp
  generalize nxt N B = e2 at *
  generalize endA 1 A = e1 at *
  generalize A ++ B = L at *
  clear hok
  (refine enter (N := 54) Try.func61 rfl Try.ntmps61 rfl ?_; intro a hA; dsimp only [sl0, Nat.reduceAdd] at hA)
  rcases hA1 with ⟨hA0, rfl, rfl⟩ | ⟨k, o, rfl, ho, rfl⟩
  · rcases hB with ⟨hB, rfl⟩ | ⟨o2, B', hB, rfl, ho2⟩
    · have := hBl hB
      repeat' (first | (first | (refine GT ?_ ?_ <;> intro hg <;> clear hA a <;> intro a hA <;> (first | exact FA | replace hg := of_decide_eq_true hg | replace hg := of_decide_eq_false hg | skip)) | ((first | apply st_ex hA hH rfl rfl (by decide) | apply dr_ex hA rfl rfl rfl (by decide) | apply dr_exp hA rfl rfl rfl (by decide) | apply dr_ex3 hA hH rfl rfl rfl (by decide)); (first | (apply ex_load; rfl; exact cl_w hq.c1 id) | (apply ex_load; rfl; exact cl_w hq.c0 id)); clear hA a; intro a hA) | (refine QT0 ?_; clear hA a; intro a hA) | (first | (refine BT ?_; clear hA hH; rintro _ w ⟨bN, rfl, hH⟩ a hA) | (refine LT ?_; clear hA hH; rintro _ w ⟨oN, rfl, hH⟩ a hA) | (refine AT ?_; clear hA; rintro _ w ⟨oN, cN, rfl, hH2⟩ a hA; clear hH; have hH := (hH2 _ (by (repeat constructor))).tail; clear hH2) | (refine S0T ?_; clear hH; rintro _ w hH) )) | ((first | refine CT ?_ | (refine DT ?_ ?_ <;> intro hc <;> try (exfalso; omega))) <;> repeat' refine CT ?_) | (first | (refine DSK ?_; clear hA a; intro a hA) | (first | (refine DLT ?_; clear hA hH; rintro _ w ⟨oN, rfl, hH⟩; refine ⟨STT, ?_⟩; intro a hA) | (refine DAT ?_; clear hA; rintro _ w ⟨oN, cN, rfl, hH2⟩; clear hH; have hH := (hH2 _ (by (repeat constructor))).tail; clear hH2; refine ⟨STT, ?_⟩; intro a hA))) )
      exact rt2 (.inl rfl) rfl hA rfl rfl ⟨rfl, hH.kp⟩
    · have := hBc _ _ hB
      obtain ⟨d2, c2, hd2, hrd2, ca2, ck2, cf2⟩ := hq.at ho2
      repeat' (first | (first | (refine GT ?_ ?_ <;> intro hg <;> clear hA a <;> intro a hA <;> (first | exact FA | replace hg := of_decide_eq_true hg | replace hg := of_decide_eq_false hg | skip)) | ((first | apply st_ex hA hH rfl rfl (by decide) | apply dr_ex hA rfl rfl rfl (by decide) | apply dr_exp hA rfl rfl rfl (by decide) | apply dr_ex3 hA hH rfl rfl rfl (by decide)); (first | (apply ex_load; rfl; exact cl_w hq.c1 id) | (apply ex_load; rfl; exact cl_w hq.c0 id) | (apply ex_load; rfl; exact cl_rd hq.rO id ca2)); clear hA a; intro a hA) | (refine QT0 ?_; clear hA a; intro a hA) | (first | (refine BT ?_; clear hA hH; rintro _ w ⟨bN, rfl, hH⟩ a hA) | (refine LT ?_; clear hA hH; rintro _ w ⟨oN, rfl, hH⟩ a hA) | (refine AT ?_; clear hA; rintro _ w ⟨oN, cN, rfl, hH2⟩ a hA; clear hH; have hH := (hH2 _ (by (repeat constructor))).tail; clear hH2) | (refine S0T ?_; clear hH; rintro _ w hH) )) | ((first | refine CT ?_ | (refine DT ?_ ?_ <;> intro hc <;> try (exfalso; omega))) <;> repeat' refine CT ?_) | (first | (refine DSK ?_; clear hA a; intro a hA) | (first | (refine DLT ?_; clear hA hH; rintro _ w ⟨oN, rfl, hH⟩; refine ⟨STT, ?_⟩; intro a hA) | (refine DAT ?_; clear hA; rintro _ w ⟨oN, cN, rfl, hH2⟩; clear hH; have hH := (hH2 _ (by (repeat constructor))).tail; clear hH2; refine ⟨STT, ?_⟩; intro a hA))) )
      exact rt2 (.inl rfl) rfl hA rfl rfl ⟨rfl, hH.kp⟩
  · obtain ⟨d, c, hd, hrd, ca, ck, cf⟩ := hq.at ho
    repeat' (first | (first | (refine GT ?_ ?_ <;> intro hg <;> clear hA a <;> intro a hA <;> (first | exact FA | replace hg := of_decide_eq_true hg | replace hg := of_decide_eq_false hg | skip)) | (refine QT0 ?_; clear hA a; intro a hA) | (first | (refine BT ?_; clear hA hH; rintro _ w ⟨bN, rfl, hH⟩ a hA) | (refine LT ?_; clear hA hH; rintro _ w ⟨oN, rfl, hH⟩ a hA) | (refine AT ?_; clear hA; rintro _ w ⟨oN, cN, rfl, hH2⟩ a hA; clear hH; have hH := (hH2 _ (by (repeat constructor))).tail; clear hH2) | (refine S0T ?_; clear hH; rintro _ w hH) )) | ((first | refine CT ?_ | (refine DT ?_ ?_ <;> intro hc <;> try (exfalso; omega))) <;> repeat' refine CT ?_) | (first | (refine DSK ?_; clear hA a; intro a hA) | (first | (refine DLT ?_; clear hA hH; rintro _ w ⟨oN, rfl, hH⟩; refine ⟨STT, ?_⟩; intro a hA) | (refine DAT ?_; clear hA; rintro _ w ⟨oN, cN, rfl, hH2⟩; clear hH; have hH := (hH2 _ (by (repeat constructor))).tail; clear hH2; refine ⟨STT, ?_⟩; intro a hA))) )
    (refine wp_draw_HS [(0, 1), (1, 1), (2, 1), (3, 1), (4, 1), (5, 1), (6, 1), (7, 1), (8, 1), (9, 1), (10, 1), (11, 1), (12, 1), (13, 1), (14, 1), (15, 1), (16, 1), (17, 1), (18, 1), (19, 1), (20, 1), (21, 1)] mixed (by decide +kernel) hH ?_; replace hH := hH.drew)
    have ee : ((o.a + 1 : Nat) : Int) + (o.fs.length : Int) = ((o.a + 1 + o.fs.length : Nat) : Int) := by omega
    rcases hB with ⟨hB, rfl⟩ | ⟨o2, B', hB, rfl, ho2⟩
    · have := hBl hB
      repeat' (first | (first | (refine GT ?_ ?_ <;> intro hg <;> clear hA a <;> intro a hA <;> (first | exact FA | replace hg := of_decide_eq_true hg | replace hg := of_decide_eq_false hg | skip)) | ((first | apply st_ex hA hH rfl rfl (by decide) | apply dr_ex hA rfl rfl rfl (by decide) | apply dr_exp hA rfl rfl rfl (by decide) | apply dr_ex3 hA hH rfl rfl rfl (by decide)); (first | (apply ex_load; rfl; exact cl_w hq.c1 id) | (apply ex_load; rfl; exact cl_w hq.c0 id) | (apply ex_load; rfl; exact cl_rd hq.rO id ca) | (apply ex_load; rfl; exact cl_rd hq.rO id cf)); clear hA a; intro a hA) | (refine QT0 ?_; clear hA a; intro a hA) | (first | (refine BT ?_; clear hA hH; rintro _ w ⟨bN, rfl, hH⟩ a hA) | (refine LT ?_; clear hA hH; rintro _ w ⟨oN, rfl, hH⟩ a hA) | (refine AT ?_; clear hA; rintro _ w ⟨oN, cN, rfl, hH2⟩ a hA; clear hH; have hH := (hH2 _ (by (repeat constructor))).tail; clear hH2) | (refine S0T ?_; clear hH; rintro _ w hH) )) | ((first | refine CT ?_ | (refine DT ?_ ?_ <;> intro hc <;> try (exfalso; omega))) <;> repeat' refine CT ?_) | (first | (refine DSK ?_; clear hA a; intro a hA) | (first | (refine DLT ?_; clear hA hH; rintro _ w ⟨oN, rfl, hH⟩; refine ⟨STT, ?_⟩; intro a hA) | (refine DAT ?_; clear hA; rintro _ w ⟨oN, cN, rfl, hH2⟩; clear hH; have hH := (hH2 _ (by (repeat constructor))).tail; clear hH2; refine ⟨STT, ?_⟩; intro a hA))) )
      rw [ee] at hA
      exact rt2 (.inl rfl) rfl hA rfl rfl ⟨rfl, hH.kp⟩
    · have := hBc _ _ hB
      obtain ⟨d2, c2, hd2, hrd2, ca2, ck2, cf2⟩ := hq.at ho2
      repeat' (first | (first | (refine GT ?_ ?_ <;> intro hg <;> clear hA a <;> intro a hA <;> (first | exact FA | replace hg := of_decide_eq_true hg | replace hg := of_decide_eq_false hg | skip)) | ((first | apply st_ex hA hH rfl rfl (by decide) | apply dr_ex hA rfl rfl rfl (by decide) | apply dr_exp hA rfl rfl rfl (by decide) | apply dr_ex3 hA hH rfl rfl rfl (by decide)); (first | (apply ex_load; rfl; exact cl_w hq.c1 id) | (apply ex_load; rfl; exact cl_w hq.c0 id) | (apply ex_load; rfl; exact cl_rd hq.rO id ca) | (apply ex_load; rfl; exact cl_rd hq.rO id cf) | (apply ex_load; rfl; exact cl_rd hq.rO id ca2)); clear hA a; intro a hA) | (refine QT0 ?_; clear hA a; intro a hA) | (first | (refine BT ?_; clear hA hH; rintro _ w ⟨bN, rfl, hH⟩ a hA) | (refine LT ?_; clear hA hH; rintro _ w ⟨oN, rfl, hH⟩ a hA) | (refine AT ?_; clear hA; rintro _ w ⟨oN, cN, rfl, hH2⟩ a hA; clear hH; have hH := (hH2 _ (by (repeat constructor))).tail; clear hH2) | (refine S0T ?_; clear hH; rintro _ w hH) )) | ((first | refine CT ?_ | (refine DT ?_ ?_ <;> intro hc <;> try (exfalso; omega))) <;> repeat' refine CT ?_) | (first | (refine DSK ?_; clear hA a; intro a hA) | (first | (refine DLT ?_; clear hA hH; rintro _ w ⟨oN, rfl, hH⟩; refine ⟨STT, ?_⟩; intro a hA) | (refine DAT ?_; clear hA; rintro _ w ⟨oN, cN, rfl, hH2⟩; clear hH; have hH := (hH2 _ (by (repeat constructor))).tail; clear hH2; refine ⟨STT, ?_⟩; intro a hA))) )
      rw [ee] at hA
      exact rt2 (.inl rfl) rfl hA rfl rfl ⟨rfl, hH.kp⟩

end Go.Proofs.Ytejpcidfigmnkaa
