/-
  The frame for walks, third part: slices that are made and grown; calls; code. It names no program. Conditions: none.
-/
import Derived.Test.YtejpcidfigmnkaaFw2
namespace Go.Fw
open Go Go.RowKit
set_option linter.unusedVariables false

/-! ## own slices and the library's word for them -/
theorem own_to {w : World} {F : Nat → Prop} {T sz n cap : Nat} {o : Option Addr} {xs : List Value} (h : (own T sz o n cap xs).sat w F) : w.ownsRow 0 T sz (.slice o n cap) n xs := by
  refine ⟨own_len h, ?_⟩
  rcases h with ⟨rfl, rfl, rfl, rfl, _⟩ | ⟨b, spare, rfl, h2, h3, h4, h5, h6, h7⟩
  · exact .inl ⟨rfl, rfl⟩
  · exact .inr ⟨b, cap, _, rfl, Nat.zero_le _, h7, h4, h5, by simpa using h6, by simp [h3]⟩
theorem own_of {w : World} {T sz n : Nat} {v : Value} {xs : List Value} (h : w.ownsRow 0 T sz v n xs) :
    ∃ o cap, v = .slice o n cap ∧ (own T sz o n cap xs).sat w (fun b => v.ownBlock = some b) := by
  obtain ⟨hl, h⟩ := h
  rcases h with ⟨rfl, rfl⟩ | ⟨b, cap, cur, rfl, _, h7, h4, h5, h6, h8⟩
  · obtain rfl : xs = [] := by simpa using hl
    exact ⟨none, 0, rfl, .inl ⟨rfl, rfl, rfl, rfl, fun b hb => by simp [Value.ownBlock] at hb⟩⟩
  · refine ⟨_, cap, rfl, .inr ⟨b, cur.toList.drop (n * sz), rfl, fun x => by simp [Value.ownBlock, eq_comm], hl, h4, h5, ?_, ?_⟩⟩
    · have hle := Nat.mul_le_mul_right sz h4
      rw [← h8]
      simp only [List.length_take, List.length_drop, Array.length_toList, h6]
      omega
    · rw [← h8, List.take_append_drop]; simpa using h7
theorem add_eq_sat (b off j : Nat) : (⟨b, off, none⟩ : Addr).add j = sat (some ⟨b, off, none⟩) j := by
  unfold sat Addr.add blkO offO
  by_cases hj : j = 0
  · subst hj; simp
  · simp [hj]
theorem HS.nil_own {w0 w : World} {M : Nat → Prop} {H : List It} (h : HS w0 M H w) (T sz : Nat) : HS w0 M (own T sz none 0 0 [] :: H) w :=
  h.come (Kp.refl _ _) (F' := fun _ => False) (.inl ⟨rfl, rfl, rfl, rfl, fun b hb => hb⟩) fun b hb => hb.elim
theorem grown_kp {w w' : World} {row : Option Nat} {F : Nat → Prop} (h : w.grownBy w' row) (hF : ∀ b, row = some b → F b) : Kp w F w' :=
  ⟨h.os, h.tape, h.output, h.size, fun b hb hn => h.block b hb fun he => hn (hF b he.symm)⟩

section
variable {P : Program} {N : Nat} {l : List (Nat × Value)} {C : World → Prop} {d : Option Tmp} {T : TypeId} {pos : String} {af : Array Edge} {g : Option (Nat × Bool)}

theorem run_append_of_nil {w : World} (t ty e : TypeId) (i : TypeInfo) (size : Nat) (ht : P.underlying t = some (.slice e)) (hi : P.info? e = some i)
    (v : Value) (n : Nat) (xs : List Value) (hown : w.ownsRow 0 e size v n xs) (c : Nat) : (Builtin.append_ #[t, t] ty #[v, .slice none 0 c]).run P w = .ok v w := by
  rcases hown.2 with ⟨rfl, rfl⟩ | ⟨g, cap, cur, rfl, _, _, hnc, _⟩
  · simp [Builtin.append_, run_underlying ht, sizeOf, typeInfo, hi, Builtin.lenOf, Builtin.firstCells]
  · simp [Builtin.append_, run_underlying ht, sizeOf, typeInfo, hi, Builtin.lenOf, Builtin.firstCells, hnc, storeCells]

/-- append onto a slice of one's own, of whatever can be read -/
theorem op_append {t e sz by_ n cap m c : Nat} {z : Value} {zs : List Value} {o ox : Option Addr} {x y : Operand} {xs news : List Value} {w0 w : World} {M : Nat → Prop} {H : List It} [ht : TSl P t e] [hi : TIf P e z zs sz by_]
    (hx : ev l x = some (.slice o n cap)) (hy : ev l y = some (.slice ox m c)) (hH : HS w0 M H w) (hm : own e sz o n cap xs ∈ H) (hr : Rd w ox news) (hl : news.length = m * sz)
    (hzs0 : zs.length = sz) (hsz : 0 < sz) (h1 : news.all (·.oneCell') = true) (h63 : n + m ≤ maxLen) (hby : (n + m) * by_ ≤ 140737488355328) :
    Op1 P N l ⟨d, .call ⟨.builtin .append, #[x, y], #[t, t]⟩, T, pos, af, g⟩ w (fun v w' => ∃ o' cap', v = .slice o' (n + m) cap' ∧ ∀ H', Rp H (own e sz o n cap xs) (own e sz o' (n + m) cap' (xs ++ news)) H' → HS w0 M H' w') := by
  intro a hA K Q hK
  obtain ⟨ti, h3, h4, h5, h6⟩ := hi.eq
  have hzs : z.cells.size = sz := by rw [← hzs0, ← hi.zc]; simp
  obtain ⟨F, hF⟩ := hH.sat hm
  have hown := own_to hF
  have key : ∃ v' w', (Builtin.append_ #[t, t] T #[.slice o n cap, .slice ox m c]).run P w = .ok v' w' ∧ w'.ownsRow 0 e sz v' (n + m) (xs ++ news) ∧ w.grownBy w' (Value.slice o n cap).ownBlock ∧
      (v'.ownBlock = (Value.slice o n cap).ownBlock ∨ v'.ownBlock = some w.heap.size) := by
    rcases ox with _ | ad
    · have hm0 : news = [] := by
        cases hn : news with
        | nil => rfl
        | cons u r => obtain ⟨b, off, h⟩ := hr.1 (by simp [hn]); cases h
      subst hm0
      have hm1 : m = 0 := by
        rcases Nat.eq_zero_or_pos m with h | h
        · exact h
        · have := Nat.mul_pos h hsz; simp at hl; omega
      subst hm1
      exact ⟨_, w, run_append_of_nil t T e ti sz ht.eq h3 _ n xs hown c, by simpa using hown, World.grownBy.refl w _, .inl rfl⟩
    · have hcells : ∀ j u, news[j]? = some u → w.cell? (ad.add j) = some u := by
        intro j u hu
        have hj : j < news.length := (List.getElem?_eq_some_iff.1 hu).1
        obtain ⟨b, off, h⟩ := hr.1 (by omega)
        obtain rfl : ad = ⟨b, off, none⟩ := by simpa using h
        have := hr.2 j u hu
        rw [← add_eq_sat] at this
        exact this
      obtain ⟨v', w', hrun, q2, q3, _, q5⟩ := run_append_own_at (P := P) w 0 t T e ti z sz by_ ht.eq h3 h4 h5 h6 hzs hsz _ n xs hown ad m c news hl hcells (fun u hu => List.all_eq_true.1 h1 u hu) h63 hby (Nat.zero_le _)
      exact ⟨v', w', hrun, q2, q3, q5⟩
  obtain ⟨v', w', hrun, q2, q3, q5⟩ := key
  obtain ⟨o', cap', rfl, hs'⟩ := own_of q2
  unfold Oper.wp
  simp only [execOp, resolve, invoke, builtin, Sem.run_bind, Sem.run_pure, Result.andThen_ok, List.map_toArray, List.map_cons, List.map_nil, hA.ev hx, hA.ev hy, hrun, Oper.upon]
  refine hK _ _ ⟨o', cap', rfl, fun H' hrp => hH.turn hrp fun F' hF' => ?_⟩
  have hFo : ∀ b, (Value.slice o n cap).ownBlock = some b → F' b := by
    intro b hb
    rcases hF' with ⟨rfl, _⟩ | ⟨b', spare', rfl, g2, _⟩
    · simp [Value.ownBlock] at hb
    · have : b' = b := by simpa [Value.ownBlock] using hb
      subst this
      exact (g2 _).2 rfl
  refine ⟨grown_kp q3 hFo, _, hs', fun b hb => ?_⟩
  rcases q5 with h | h
  · exact .inr (hFo b (h ▸ hb))
  · rw [h] at hb; simp at hb; exact .inl (by omega)

theorem op_buildSlice {t e sz by_ n : Nat} {z : Value} {zs : List Value} {ps : Array (Nat × Operand)} {vs : List Value} {xs : List Value} {w0 w : World} {M : Nat → Prop} {H : List It} [ht : TSl P t e] [hi : TIf P e z zs sz by_]
    (hv : evL l (ps.toList.map (·.2)) = some vs) (hf : (Instr.fill (fun i => some (i * sz, sz)) ((Array.range (n * sz)).map (z.cells[· % z.cells.size]!)) ((ps.toList.map (·.1)).zip vs)).map Array.toList = some xs)
    (hl : xs.length = n * sz) (hn : n * sz ≤ 1000000) (hn2 : n ≤ maxLen) (hH : HS w0 M H w) :
    Op1 P N l ⟨d, .buildSlice t n ps, T, pos, af, g⟩ w (fun v w' => ∃ o, v = .slice o n n ∧ HS w0 M (own e sz o n n xs :: H) w') := by
  intro a hA K Q hK
  obtain ⟨ti, h3, h4, h5, h6⟩ := hi.eq
  have hvs := hA.evL hv
  have hps : (Array.map (fun x : Nat × Operand => match x with | (i, x) => (i, a.eval x)) ps).toList = (ps.toList.map (·.1)).zip vs := by
    rw [← hvs, List.map_map]
    simp [List.zip_map', Function.comp_def]
  obtain ⟨cs, hf1, hf2⟩ := Option.map_eq_some_iff.1 hf
  have hbig : ¬ (n * sz > 2 ^ 24) := by omega
  have hrun : (Instr.buildSlice t n (ps.map (fun x : Nat × Operand => match x with | (i, x) => (i, a.eval x)))).run P w = .ok (.slice (some ⟨w.heap.size, 0, none⟩) n n) (w.alloc (.cells cs e)) := by
    by_cases h0 : n * sz = 0
    · have hz : ∀ f : Nat → Value, (Array.range 0).map f = #[] := fun f => by simp
      have hbig0 : ¬ ((0 : Nat) > 2 ^ 24) := by omega
      rw [h0, hz] at hf1
      simp only [Instr.buildSlice, Sem.run_bind, run_underlying ht.eq, Result.andThen_ok, sizeOf, typeInfo, run_program, h3, Sem.run_pure, h5, hbig0, if_false, h0, if_true, hps, hz, hf1]
      simp [newRow]
    · simp only [Instr.buildSlice, Sem.run_bind, run_underlying ht.eq, Result.andThen_ok, sizeOf, typeInfo, run_program, h3, Sem.run_pure, h5, hbig, if_false, h0, hps, zeroValue, h4, hf1]
      simp [newRow]
  unfold Oper.wp
  simp only [execOp, Sem.run_bind, hrun, Result.andThen_ok, Sem.run_pure, Oper.upon]
  subst hf2
  have := hH.come_own e sz n n cs.toList [] hl (Nat.le_refl _) hn2 (by simpa using hl)
  exact hK _ _ ⟨_, rfl, by simpa using this⟩

theorem madeCells_scalar (z : Value) (h : z.cells = #[z]) (n : Nat) : madeCells z.cells n = (List.replicate n z).toArray := by
  rw [h]
  simp only [madeCells]
  apply Array.ext'
  simp only [Array.toList_map, Array.toList_range, List.size_toArray, List.length_cons, List.length_nil]
  rw [List.eq_replicate_iff]
  refine ⟨by simp, fun b hb => ?_⟩
  obtain ⟨i, _, rfl⟩ := List.mem_map.1 hb
  simp [Nat.mod_one]

/-- make([]T, len, cap) -/
theorem op_makeSlice {t e sz by_ : Nat} {z : Value} {zs : List Value} {x y : Operand} {kl kc : IntKind} {n c : Nat} {w0 w : World} {M : Nat → Prop} {H : List It} [ht : TSl P t e] [hi : TIf P e z zs sz by_]
    (hx : ev l x = some (.int kl n)) (hy : ev l y = some (.int kc c)) (hnc : n ≤ c) (hc : c ≤ maxLen) (hb : by_ * c ≤ 140737488355328) (hH : HS w0 M H w) :
    Op1 P N l ⟨d, .makeSlice t x y, T, pos, af, g⟩ w (fun v w' => ∃ o, v = .slice o n c ∧ HS w0 M (own e sz o n c ((madeCells z.cells (c * sz)).toList.take (n * sz)) :: H) w') := by
  intro a hA K Q hK
  obtain ⟨ti, h3, h4, h5, h6⟩ := hi.eq
  have hml : maxLen = 2 ^ 63 - 1 := rfl
  have hbi : (ti.bytes : Int) * (c : Int) ≤ 281474976710656 := by rw [h6, ← Int.natCast_mul]; omega
  have hrun := run_make (P := P) w t e ti z ht.eq h3 h4 kl kc (n : Int) (c : Int) (by omega) (by omega) hbi (by omega)
  rw [h5] at hrun
  simp only [Int.toNat_natCast] at hrun
  unfold Oper.wp
  simp only [execOp, hA.ev hx, hA.ev hy, Sem.run_bind, hrun, Result.andThen_ok, Sem.run_pure, Oper.upon]
  have hle : n * sz ≤ c * sz := Nat.mul_le_mul_right _ hnc
  have := hH.come_own e sz n c ((madeCells z.cells (c * sz)).toList.take (n * sz)) ((madeCells z.cells (c * sz)).toList.drop (n * sz)) (by simp only [List.length_take, Array.length_toList, size_madeCells]; omega) hnc hc (by simp only [List.length_take, List.length_drop, Array.length_toList, size_madeCells]; omega)
  refine hK _ _ ⟨_, rfl, by simpa using this⟩

/-- the cells of values that stand one behind the other, each of so many cells -/
inductive Cats : Nat → List Value → List Value → Prop
  | nil {n : Nat} : Cats n [] []
  | c1 {v : Value} {r xs : List Value} : v.oneCell' = true → Cats 1 r xs → Cats 1 (v :: r) (v :: xs)
  | c2 {a b : Value} {r xs : List Value} : Cats 2 r xs → Cats 2 (.agg #[a, b] :: r) (a :: b :: xs)
  | c3 {a b c : Value} {r xs : List Value} : Cats 3 r xs → Cats 3 (.agg #[a, b, c] :: r) (a :: b :: c :: xs)
  | c4 {a b c d : Value} {r xs : List Value} : Cats 4 r xs → Cats 4 (.agg #[a, b, c, d] :: r) (a :: b :: c :: d :: xs)
  | cn {cs r xs : List Value} : Cats cs.length r xs → Cats cs.length (.agg cs.toArray :: r) (cs ++ xs)
theorem Cats.fill {sz : Nat} {vs xs : List Value} (h : Cats sz vs xs) : xs.length = vs.length * sz ∧ ∀ (k : Nat) (pre zs : List Value), pre.length = k * sz → zs.length = xs.length →
    Instr.fill (fun i => some (i * sz, sz)) (pre ++ zs).toArray ((List.range' k vs.length).zip vs) = some (pre ++ xs).toArray := by
  have step : ∀ (sz : Nat) (v : Value) (cs r xs : List Value), v.cells = cs.toArray → cs.length = sz → (xs.length = r.length * sz ∧ ∀ (k : Nat) (pre zs : List Value), pre.length = k * sz → zs.length = xs.length →
      Instr.fill (fun i => some (i * sz, sz)) (pre ++ zs).toArray ((List.range' k r.length).zip r) = some (pre ++ xs).toArray) →
      (cs ++ xs).length = (v :: r).length * sz ∧ ∀ (k : Nat) (pre zs : List Value), pre.length = k * sz → zs.length = (cs ++ xs).length →
      Instr.fill (fun i => some (i * sz, sz)) (pre ++ zs).toArray ((List.range' k (v :: r).length).zip (v :: r)) = some (pre ++ (cs ++ xs)).toArray := by
    intro sz v cs r xs hv hc ⟨hl, ih⟩
    refine ⟨by simp [hl, hc, Nat.add_mul]; omega, fun k pre zs hp hz => ?_⟩
    rw [List.length_append] at hz
    have e1 : zs = zs.take sz ++ zs.drop sz := by simp
    have ih' := ih (k + 1) (pre ++ cs) (zs.drop sz) (by simp [hp, hc, Nat.add_mul]) (by simp; omega)
    have hfold : ∀ (cs zs1 : List Value) (pre zs2 : List Value), cs.length = zs1.length → (cs.toArray.zipIdx.foldl (fun acc x => match x with | (c, j) => acc.setIfInBounds (pre.length + j) c) (pre ++ (zs1 ++ zs2)).toArray) = (pre ++ (cs ++ zs2)).toArray := by
      intro cs
      have gen : ∀ (cs zs1 : List Value) (pre zs2 : List Value) (i : Nat), cs.length = zs1.length → ((cs.zipIdx i).foldl (fun acc x => match x with | (c, j) => acc.setIfInBounds (pre.length + j) c) (pre ++ (zs1 ++ zs2)).toArray) =
          ((cs.zipIdx i).foldl (fun acc x => match x with | (c, j) => acc.setIfInBounds (pre.length + j) c) (pre ++ (zs1 ++ zs2)).toArray) := fun _ _ _ _ _ _ => rfl
      clear gen
      have gen : ∀ (cs zs1 done pre zs2 : List Value), cs.length = zs1.length → ((cs.zipIdx done.length).foldl (fun (acc : Array Value) (x : Value × Nat) => acc.setIfInBounds (pre.length + x.2) x.1) (pre ++ (done ++ (zs1 ++ zs2))).toArray) = (pre ++ (done ++ (cs ++ zs2))).toArray := by
        intro cs
        induction cs with
        | nil => intro zs1 done pre zs2 h; obtain rfl : zs1 = [] := by simpa using h.symm
                 simp
        | cons c cs ih =>
          intro zs1 done pre zs2 h
          cases zs1 with
          | nil => simp at h
          | cons z1 zs1 =>
            have := ih zs1 (done ++ [c]) pre zs2 (by simpa using h)
            simp only [List.length_append, List.length_cons, List.length_nil] at this
            simp only [List.zipIdx_cons, List.foldl_cons]
            have e : (pre ++ (done ++ (z1 :: zs1 ++ zs2))).toArray.setIfInBounds (pre.length + done.length) c = (pre ++ (done ++ [c] ++ (zs1 ++ zs2))).toArray := by
              apply Array.ext'
              simp [List.set_append]
            rw [e, this]
            simp
      intro zs1 pre zs2 h
      have := gen cs zs1 [] pre zs2 h
      rw [← Array.foldl_toList]
      simpa using this
    have hsz1 : (zs.take sz).length = cs.length := by simp; omega
    have hf := hfold cs (zs.take sz) pre (zs.drop sz) hsz1.symm
    rw [← e1] at hf
    have hcell : v.cells.size = sz := by rw [hv]; simpa using hc
    have hno : (v.cells.size ≠ sz || decide (k * sz + v.cells.size > (pre ++ zs).toArray.size)) = false := by
      simp [hcell, hp]; omega
    have hno' : (decide (v.cells.size ≠ sz) || decide (k * sz + v.cells.size > (pre ++ zs).toArray.size)) = false := hno
    simp only [List.length_cons, List.range'_succ, List.zip_cons_cons, Instr.fill, hno', Bool.false_eq_true, if_false]
    rw [hv, ← hp, hf]
    rw [← List.append_assoc pre cs, ih']
    simp
  induction h with
  | nil => exact ⟨by simp, fun k pre zs hp hz => by
      obtain rfl : zs = [] := by simpa using hz
      simp [Instr.fill]⟩
  | c1 h1 _ ih => exact step 1 _ [_] _ _ (by rw [one_cells h1]) rfl ih
  | c2 _ ih => exact step 2 _ [_, _] _ _ rfl rfl ih
  | c3 _ ih => exact step 3 _ [_, _, _] _ _ rfl rfl ih
  | c4 _ ih => exact step 4 _ [_, _, _, _] _ _ rfl rfl ih
  | cn _ ih => exact step _ _ _ _ _ rfl rfl ih

/-- a slice literal, each element given in its turn -/
theorem op_sliceLit {t e sz by_ n : Nat} {z : Value} {zs : List Value} {ps : Array (Nat × Operand)} {vs : List Value} {xs : List Value} {w0 w : World} {M : Nat → Prop} {H : List It} [ht : TSl P t e] [hi : TIf P e z zs sz by_]
    (hv : evL l (ps.toList.map (·.2)) = some vs) (hk : ps.toList.map (·.1) = List.range' 0 n) (hc : Cats sz vs xs) (hvn : vs.length = n) (hn : Nat.ble (n * sz) 1000000 = true) (hn2 : Nat.ble n 1000000 = true) (hH : HS w0 M H w) :
    Op1 P N l ⟨d, .buildSlice t n ps, T, pos, af, g⟩ w (fun v w' => ∃ o, v = .slice o n n ∧ HS w0 M (own e sz o n n xs :: H) w') := by
  obtain ⟨h1, h2⟩ := hc.fill
  have hn' := Nat.le_of_ble_eq_true hn
  have hn2' := Nat.le_of_ble_eq_true hn2
  refine op_buildSlice hv ?_ (by rw [h1, hvn]) hn' (by unfold maxLen; omega) hH
  have hlen : ((Array.range (n * sz)).map (z.cells[· % z.cells.size]!)).toList.length = xs.length := by simp [h1, hvn]
  have := h2 0 [] ((Array.range (n * sz)).map (z.cells[· % z.cells.size]!)).toList (by simp) hlen
  rw [hk, ← hvn]
  simp only [List.nil_append, Array.toArray_toList] at this
  rw [hvn] at this ⊢
  rw [this]
  simp
end
end Go.Fw
