/-
  The frame for walks, third part: slices that are made and grown; calls; code. It names no program. Conditions: none.
  The frame for walks, fourth part: calls, code, loops, regions that draw their order. It names no program. Conditions: none.
-/
import Derived.Test.YtenlcdokaadobaaGreatDoorRowFuelMg0
import Derived.Deep.RegionHeld3
namespace Go.Fw
open Go Go.RowKit
set_option linter.unusedVariables false

theorem own_to {w : World} {F : Nat → Prop} {T sz n cap : Nat} {o : Option Addr} {xs : List Value} (h : (own T sz o n cap xs).sat w F) : w.ownsRow 0 T sz (.slice o n cap) n xs := by
  refine ⟨own_len h, ?_⟩
  rcases h with ⟨rfl, rfl, rfl, rfl, _⟩ | ⟨b, spare, rfl, h2, h3, h4, h5, h6, h7⟩
  · exact .inl ⟨rfl, rfl⟩
  · exact .inr ⟨b, cap, _, rfl, Nat.zero_le _, h7, h4, h5, by simpa using h6, by simp [h3]⟩
theorem own_of {w : World} {T sz n : Nat} {v : Value} {xs : List Value} (h : w.ownsRow 0 T sz v n xs) :
    ∃ o cap, v = .slice o n cap ∧ (own T sz o n cap xs).sat w (fun b => v.ownBlock = some b) := by
  obtain ⟨hl, h⟩ := h
  rcases h with ⟨rfl, rfl⟩ | ⟨b, cap, cur, rfl, _, h7, h4, h5, h6, h8⟩
  · obtain rfl : xs = [] := by simpa using hl
    exact ⟨none, 0, rfl, .inl ⟨rfl, rfl, rfl, rfl, fun b hb => by simp [Value.ownBlock] at hb⟩⟩
  · refine ⟨_, cap, rfl, .inr ⟨b, cur.toList.drop (n * sz), rfl, fun x => by simp [Value.ownBlock, eq_comm], hl, h4, h5, ?_, ?_⟩⟩
    · have hle := Nat.mul_le_mul_right sz h4
      rw [← h8]
      simp only [List.length_take, List.length_drop, Array.length_toList, h6]
      omega
    · rw [← h8, List.take_append_drop]; simpa using h7
theorem add_eq_sat (b off j : Nat) : (⟨b, off, none⟩ : Addr).add j = sat (some ⟨b, off, none⟩) j := by
  unfold sat Addr.add blkO offO
  by_cases hj : j = 0
  · subst hj; simp
  · simp [hj]
theorem HS.nil_own {w0 w : World} {M : Nat → Prop} {H : List It} (h : HS w0 M H w) (T sz : Nat) : HS w0 M (own T sz none 0 0 [] :: H) w :=
  h.come (Kp.refl _ _) (F' := fun _ => False) (.inl ⟨rfl, rfl, rfl, rfl, fun b hb => hb⟩) fun b hb => hb.elim
theorem grown_kp {w w' : World} {row : Option Nat} {F : Nat → Prop} (h : w.grownBy w' row) (hF : ∀ b, row = some b → F b) : Kp w F w' :=
  ⟨h.os, h.tape, h.output, h.size, fun b hb hn => h.block b hb fun he => hn (hF b he.symm)⟩

section
variable {P : Program} {N : Nat} {l : List (Nat × Value)} {C : World → Prop} {d : Option Tmp} {T : TypeId} {pos : String} {af : Array Edge} {g : Option (Nat × Bool)}

theorem run_append_of_nil {w : World} (t ty e : TypeId) (i : TypeInfo) (size : Nat) (ht : P.underlying t = some (.slice e)) (hi : P.info? e = some i)
    (v : Value) (n : Nat) (xs : List Value) (hown : w.ownsRow 0 e size v n xs) (c : Nat) : (Builtin.append_ #[t, t] ty #[v, .slice none 0 c]).run P w = .ok v w := by
  rcases hown.2 with ⟨rfl, rfl⟩ | ⟨g, cap, cur, rfl, _, _, hnc, _⟩
  · simp [Builtin.append_, run_underlying ht, sizeOf, typeInfo, hi, Builtin.lenOf, Builtin.firstCells]
  · simp [Builtin.append_, run_underlying ht, sizeOf, typeInfo, hi, Builtin.lenOf, Builtin.firstCells, hnc, storeCells]

theorem op_append {t e sz by_ n cap m c : Nat} {z : Value} {zs : List Value} {o ox : Option Addr} {x y : Operand} {xs news : List Value} {w0 w : World} {M : Nat → Prop} {H : List It} [ht : TSl P t e] [hi : TIf P e z zs sz by_]
    (hx : ev l x = some (.slice o n cap)) (hy : ev l y = some (.slice ox m c)) (hH : HS w0 M H w) (hm : own e sz o n cap xs ∈ H) (hr : Rd w ox news) (hl : news.length = m * sz)
    (hzs0 : zs.length = sz) (hsz : 0 < sz) (h1 : news.all (·.oneCell') = true) (h63 : n + m ≤ maxLen) (hby : (n + m) * by_ ≤ 140737488355328) :
    Op1 P N l ⟨d, .call ⟨.builtin .append, #[x, y], #[t, t]⟩, T, pos, af, g⟩ w (fun v w' => ∃ o' cap', v = .slice o' (n + m) cap' ∧ ∀ H', Rp H (own e sz o n cap xs) (own e sz o' (n + m) cap' (xs ++ news)) H' → HS w0 M H' w') := by
  intro a hA K Q hK
  obtain ⟨ti, h3, h4, h5, h6⟩ := hi.eq
  have hzs : z.cells.size = sz := by rw [← hzs0, ← hi.zc]; simp
  obtain ⟨F, hF⟩ := hH.sat hm
  have hown := own_to hF
  have key : ∃ v' w', (Builtin.append_ #[t, t] T #[.slice o n cap, .slice ox m c]).run P w = .ok v' w' ∧ w'.ownsRow 0 e sz v' (n + m) (xs ++ news) ∧ w.grownBy w' (Value.slice o n cap).ownBlock ∧
      (v'.ownBlock = (Value.slice o n cap).ownBlock ∨ v'.ownBlock = some w.heap.size) := by
    rcases ox with _ | ad
    · have hm0 : news = [] := by
        cases hn : news with
        | nil => rfl
        | cons u r => obtain ⟨b, off, h⟩ := hr.1 (by simp [hn]); cases h
      subst hm0
      have hm1 : m = 0 := by
        rcases Nat.eq_zero_or_pos m with h | h
        · exact h
        · have := Nat.mul_pos h hsz; simp at hl; omega
      subst hm1
      exact ⟨_, w, run_append_of_nil t T e ti sz ht.eq h3 _ n xs hown c, by simpa using hown, World.grownBy.refl w _, .inl rfl⟩
    · have hcells : ∀ j u, news[j]? = some u → w.cell? (ad.add j) = some u := by
        intro j u hu
        have hj : j < news.length := (List.getElem?_eq_some_iff.1 hu).1
        obtain ⟨b, off, h⟩ := hr.1 (by omega)
        obtain rfl : ad = ⟨b, off, none⟩ := by simpa using h
        have := hr.2 j u hu
        rw [← add_eq_sat] at this
        exact this
      obtain ⟨v', w', hrun, q2, q3, _, q5⟩ := run_append_own_at (P := P) w 0 t T e ti z sz by_ ht.eq h3 h4 h5 h6 hzs hsz _ n xs hown ad m c news hl hcells (fun u hu => List.all_eq_true.1 h1 u hu) h63 hby (Nat.zero_le _)
      exact ⟨v', w', hrun, q2, q3, q5⟩
  obtain ⟨v', w', hrun, q2, q3, q5⟩ := key
  obtain ⟨o', cap', rfl, hs'⟩ := own_of q2
  unfold Oper.wp
  simp only [execOp, resolve, invoke, builtin, Sem.run_bind, Sem.run_pure, Result.andThen_ok, List.map_toArray, List.map_cons, List.map_nil, hA.ev hx, hA.ev hy, hrun, Oper.upon]
  refine hK _ _ ⟨o', cap', rfl, fun H' hrp => hH.turn hrp fun F' hF' => ?_⟩
  have hFo : ∀ b, (Value.slice o n cap).ownBlock = some b → F' b := by
    intro b hb
    rcases hF' with ⟨rfl, _⟩ | ⟨b', spare', rfl, g2, _⟩
    · simp [Value.ownBlock] at hb
    · have : b' = b := by simpa [Value.ownBlock] using hb
      subst this
      exact (g2 _).2 rfl
  refine ⟨grown_kp q3 hFo, _, hs', fun b hb => ?_⟩
  rcases q5 with h | h
  · exact .inr (hFo b (h ▸ hb))
  · rw [h] at hb; simp at hb; exact .inl (by omega)

theorem op_buildSlice {t e sz by_ n : Nat} {z : Value} {zs : List Value} {ps : Array (Nat × Operand)} {vs : List Value} {xs : List Value} {w0 w : World} {M : Nat → Prop} {H : List It} [ht : TSl P t e] [hi : TIf P e z zs sz by_]
    (hv : evL l (ps.toList.map (·.2)) = some vs) (hf : (Instr.fill (fun i => some (i * sz, sz)) ((Array.range (n * sz)).map (z.cells[· % z.cells.size]!)) ((ps.toList.map (·.1)).zip vs)).map Array.toList = some xs)
    (hl : xs.length = n * sz) (hn : n * sz ≤ 1000000) (hn2 : n ≤ maxLen) (hH : HS w0 M H w) :
    Op1 P N l ⟨d, .buildSlice t n ps, T, pos, af, g⟩ w (fun v w' => ∃ o, v = .slice o n n ∧ HS w0 M (own e sz o n n xs :: H) w') := by
  intro a hA K Q hK
  obtain ⟨ti, h3, h4, h5, h6⟩ := hi.eq
  have hvs := hA.evL hv
  have hps : (Array.map (fun x : Nat × Operand => match x with | (i, x) => (i, a.eval x)) ps).toList = (ps.toList.map (·.1)).zip vs := by
    rw [← hvs, List.map_map]
    simp [List.zip_map', Function.comp_def]
  obtain ⟨cs, hf1, hf2⟩ := Option.map_eq_some_iff.1 hf
  have hbig : ¬ (n * sz > 2 ^ 24) := by omega
  have hrun : (Instr.buildSlice t n (ps.map (fun x : Nat × Operand => match x with | (i, x) => (i, a.eval x)))).run P w = .ok (.slice (some ⟨w.heap.size, 0, none⟩) n n) (w.alloc (.cells cs e)) := by
    by_cases h0 : n * sz = 0
    · have hz : ∀ f : Nat → Value, (Array.range 0).map f = #[] := fun f => by simp
      have hbig0 : ¬ ((0 : Nat) > 2 ^ 24) := by omega
      rw [h0, hz] at hf1
      simp only [Instr.buildSlice, Sem.run_bind, run_underlying ht.eq, Result.andThen_ok, sizeOf, typeInfo, run_program, h3, Sem.run_pure, h5, hbig0, if_false, h0, if_true, hps, hz, hf1]
      simp [newRow]
    · simp only [Instr.buildSlice, Sem.run_bind, run_underlying ht.eq, Result.andThen_ok, sizeOf, typeInfo, run_program, h3, Sem.run_pure, h5, hbig, if_false, h0, hps, zeroValue, h4, hf1]
      simp [newRow]
  unfold Oper.wp
  simp only [execOp, Sem.run_bind, hrun, Result.andThen_ok, Sem.run_pure, Oper.upon]
  subst hf2
  have := hH.come_own e sz n n cs.toList [] hl (Nat.le_refl _) hn2 (by simpa using hl)
  exact hK _ _ ⟨_, rfl, by simpa using this⟩

theorem madeCells_scalar (z : Value) (h : z.cells = #[z]) (n : Nat) : madeCells z.cells n = (List.replicate n z).toArray := by
  rw [h]
  simp only [madeCells]
  apply Array.ext'
  simp only [Array.toList_map, Array.toList_range, List.size_toArray, List.length_cons, List.length_nil]
  rw [List.eq_replicate_iff]
  refine ⟨by simp, fun b hb => ?_⟩
  obtain ⟨i, _, rfl⟩ := List.mem_map.1 hb
  simp [Nat.mod_one]

theorem op_makeSlice {t e sz by_ : Nat} {z : Value} {zs : List Value} {x y : Operand} {kl kc : IntKind} {n c : Nat} {w0 w : World} {M : Nat → Prop} {H : List It} [ht : TSl P t e] [hi : TIf P e z zs sz by_]
    (hx : ev l x = some (.int kl n)) (hy : ev l y = some (.int kc c)) (hnc : n ≤ c) (hc : c ≤ maxLen) (hb : by_ * c ≤ 140737488355328) (hH : HS w0 M H w) :
    Op1 P N l ⟨d, .makeSlice t x y, T, pos, af, g⟩ w (fun v w' => ∃ o, v = .slice o n c ∧ HS w0 M (own e sz o n c ((madeCells z.cells (c * sz)).toList.take (n * sz)) :: H) w') := by
  intro a hA K Q hK
  obtain ⟨ti, h3, h4, h5, h6⟩ := hi.eq
  have hml : maxLen = 2 ^ 63 - 1 := rfl
  have hbi : (ti.bytes : Int) * (c : Int) ≤ 281474976710656 := by rw [h6, ← Int.natCast_mul]; omega
  have hrun := run_make (P := P) w t e ti z ht.eq h3 h4 kl kc (n : Int) (c : Int) (by omega) (by omega) hbi (by omega)
  rw [h5] at hrun
  simp only [Int.toNat_natCast] at hrun
  unfold Oper.wp
  simp only [execOp, hA.ev hx, hA.ev hy, Sem.run_bind, hrun, Result.andThen_ok, Sem.run_pure, Oper.upon]
  have hle : n * sz ≤ c * sz := Nat.mul_le_mul_right _ hnc
  have := hH.come_own e sz n c ((madeCells z.cells (c * sz)).toList.take (n * sz)) ((madeCells z.cells (c * sz)).toList.drop (n * sz)) (by simp only [List.length_take, Array.length_toList, size_madeCells]; omega) hnc hc (by simp only [List.length_take, List.length_drop, Array.length_toList, size_madeCells]; omega)
  refine hK _ _ ⟨_, rfl, by simpa using this⟩

inductive Cats : Nat → List Value → List Value → Prop
  | nil {n : Nat} : Cats n [] []
  | c1 {v : Value} {r xs : List Value} : v.oneCell' = true → Cats 1 r xs → Cats 1 (v :: r) (v :: xs)
  | c2 {a b : Value} {r xs : List Value} : Cats 2 r xs → Cats 2 (.agg #[a, b] :: r) (a :: b :: xs)
  | c3 {a b c : Value} {r xs : List Value} : Cats 3 r xs → Cats 3 (.agg #[a, b, c] :: r) (a :: b :: c :: xs)
  | c4 {a b c d : Value} {r xs : List Value} : Cats 4 r xs → Cats 4 (.agg #[a, b, c, d] :: r) (a :: b :: c :: d :: xs)
  | cn {cs r xs : List Value} : Cats cs.length r xs → Cats cs.length (.agg cs.toArray :: r) (cs ++ xs)
theorem Cats.fill {sz : Nat} {vs xs : List Value} (h : Cats sz vs xs) : xs.length = vs.length * sz ∧ ∀ (k : Nat) (pre zs : List Value), pre.length = k * sz → zs.length = xs.length →
    Instr.fill (fun i => some (i * sz, sz)) (pre ++ zs).toArray ((List.range' k vs.length).zip vs) = some (pre ++ xs).toArray := by
  have step : ∀ (sz : Nat) (v : Value) (cs r xs : List Value), v.cells = cs.toArray → cs.length = sz → (xs.length = r.length * sz ∧ ∀ (k : Nat) (pre zs : List Value), pre.length = k * sz → zs.length = xs.length →
      Instr.fill (fun i => some (i * sz, sz)) (pre ++ zs).toArray ((List.range' k r.length).zip r) = some (pre ++ xs).toArray) →
      (cs ++ xs).length = (v :: r).length * sz ∧ ∀ (k : Nat) (pre zs : List Value), pre.length = k * sz → zs.length = (cs ++ xs).length →
      Instr.fill (fun i => some (i * sz, sz)) (pre ++ zs).toArray ((List.range' k (v :: r).length).zip (v :: r)) = some (pre ++ (cs ++ xs)).toArray := by
    intro sz v cs r xs hv hc ⟨hl, ih⟩
    refine ⟨by simp [hl, hc, Nat.add_mul]; omega, fun k pre zs hp hz => ?_⟩
    rw [List.length_append] at hz
    have e1 : zs = zs.take sz ++ zs.drop sz := by simp
    have ih' := ih (k + 1) (pre ++ cs) (zs.drop sz) (by simp [hp, hc, Nat.add_mul]) (by simp; omega)
    have hfold : ∀ (cs zs1 : List Value) (pre zs2 : List Value), cs.length = zs1.length → (cs.toArray.zipIdx.foldl (fun acc x => match x with | (c, j) => acc.setIfInBounds (pre.length + j) c) (pre ++ (zs1 ++ zs2)).toArray) = (pre ++ (cs ++ zs2)).toArray := by
      intro cs
      have gen : ∀ (cs zs1 : List Value) (pre zs2 : List Value) (i : Nat), cs.length = zs1.length → ((cs.zipIdx i).foldl (fun acc x => match x with | (c, j) => acc.setIfInBounds (pre.length + j) c) (pre ++ (zs1 ++ zs2)).toArray) =
          ((cs.zipIdx i).foldl (fun acc x => match x with | (c, j) => acc.setIfInBounds (pre.length + j) c) (pre ++ (zs1 ++ zs2)).toArray) := fun _ _ _ _ _ _ => rfl
      clear gen
      have gen : ∀ (cs zs1 done pre zs2 : List Value), cs.length = zs1.length → ((cs.zipIdx done.length).foldl (fun (acc : Array Value) (x : Value × Nat) => acc.setIfInBounds (pre.length + x.2) x.1) (pre ++ (done ++ (zs1 ++ zs2))).toArray) = (pre ++ (done ++ (cs ++ zs2))).toArray := by
        intro cs
        induction cs with
        | nil => intro zs1 done pre zs2 h; obtain rfl : zs1 = [] := by simpa using h.symm
                 simp
        | cons c cs ih =>
          intro zs1 done pre zs2 h
          cases zs1 with
          | nil => simp at h
          | cons z1 zs1 =>
            have := ih zs1 (done ++ [c]) pre zs2 (by simpa using h)
            simp only [List.length_append, List.length_cons, List.length_nil] at this
            simp only [List.zipIdx_cons, List.foldl_cons]
            have e : (pre ++ (done ++ (z1 :: zs1 ++ zs2))).toArray.setIfInBounds (pre.length + done.length) c = (pre ++ (done ++ [c] ++ (zs1 ++ zs2))).toArray := by
              apply Array.ext'
              simp [List.set_append]
            rw [e, this]
            simp
      intro zs1 pre zs2 h
      have := gen cs zs1 [] pre zs2 h
      rw [← Array.foldl_toList]
      simpa using this
    have hsz1 : (zs.take sz).length = cs.length := by simp; omega
    have hf := hfold cs (zs.take sz) pre (zs.drop sz) hsz1.symm
    rw [← e1] at hf
    have hcell : v.cells.size = sz := by rw [hv]; simpa using hc
    have hno : (v.cells.size ≠ sz || decide (k * sz + v.cells.size > (pre ++ zs).toArray.size)) = false := by
      simp [hcell, hp]; omega
    have hno' : (decide (v.cells.size ≠ sz) || decide (k * sz + v.cells.size > (pre ++ zs).toArray.size)) = false := hno
    simp only [List.length_cons, List.range'_succ, List.zip_cons_cons, Instr.fill, hno', Bool.false_eq_true, if_false]
    rw [hv, ← hp, hf]
    rw [← List.append_assoc pre cs, ih']
    simp
  induction h with
  | nil => exact ⟨by simp, fun k pre zs hp hz => by
      obtain rfl : zs = [] := by simpa using hz
      simp [Instr.fill]⟩
  | c1 h1 _ ih => exact step 1 _ [_] _ _ (by rw [one_cells h1]) rfl ih
  | c2 _ ih => exact step 2 _ [_, _] _ _ rfl rfl ih
  | c3 _ ih => exact step 3 _ [_, _, _] _ _ rfl rfl ih
  | c4 _ ih => exact step 4 _ [_, _, _, _] _ _ rfl rfl ih
  | cn _ ih => exact step _ _ _ _ _ rfl rfl ih

theorem op_sliceLit {t e sz by_ n : Nat} {z : Value} {zs : List Value} {ps : Array (Nat × Operand)} {vs : List Value} {xs : List Value} {w0 w : World} {M : Nat → Prop} {H : List It} [ht : TSl P t e] [hi : TIf P e z zs sz by_]
    (hv : evL l (ps.toList.map (·.2)) = some vs) (hk : ps.toList.map (·.1) = List.range' 0 n) (hc : Cats sz vs xs) (hvn : vs.length = n) (hn : Nat.ble (n * sz) 1000000 = true) (hn2 : Nat.ble n 1000000 = true) (hH : HS w0 M H w) :
    Op1 P N l ⟨d, .buildSlice t n ps, T, pos, af, g⟩ w (fun v w' => ∃ o, v = .slice o n n ∧ HS w0 M (own e sz o n n xs :: H) w') := by
  obtain ⟨h1, h2⟩ := hc.fill
  have hn' := Nat.le_of_ble_eq_true hn
  have hn2' := Nat.le_of_ble_eq_true hn2
  refine op_buildSlice hv ?_ (by rw [h1, hvn]) hn' (by unfold maxLen; omega) hH
  have hlen : ((Array.range (n * sz)).map (z.cells[· % z.cells.size]!)).toList.length = xs.length := by simp [h1, hvn]
  have := h2 0 [] ((Array.range (n * sz)).map (z.cells[· % z.cells.size]!)).toList (by simp) hlen
  rw [hk, ← hvn]
  simp only [List.nil_append, Array.toArray_toList] at this
  rw [hvn] at this ⊢
  rw [this]
  simp
end
end Go.Fw
namespace Go.Fw
open Go Go.RowKit
set_option linter.unusedVariables false

def Ret (P : Program) (k : FuncId) (args : Array Value) (w : World) (R : Value → World → Prop) : Prop :=
  Calls P k args w fun e w' => ∃ v, e = .returned v ∧ R v w'
theorem Ret.mono {P : Program} {k : FuncId} {args : Array Value} {w : World} {R R' : Value → World → Prop} (h : Ret P k args w R) (hr : ∀ v w', R v w' → R' v w') : Ret P k args w R' :=
  Calls.mono h fun e w' ⟨v, he, hR⟩ => ⟨v, he, hr v w' hR⟩

class FnB (P : Program) (k : FuncId) : Prop where
  eq : ∃ fn, P.funcs[k]? = some fn ∧ fn.body.isSome = true ∧ (fn.name == "runtime.NumGoroutine") = false

section
variable {P : Program} {N : Nat} {l : List (Nat × Value)} {a : Act} {w : World} {d : Option Tmp} {T : TypeId} {pos : String} {af : Array Edge} {g : Option (Nat × Bool)}

theorem op_call {f : Operand} {k : FuncId} {first captured args A : Array _} {ats : Array TypeId} {vs : List Value} {R : Value → World → Prop} [hk : FnB P k]
    (hf : ev l f = some (.func (.func k) first captured)) (hv : evL l args.toList = some vs) (hA' : first ++ vs.toArray ++ captured = A) (h : Ret P k A w R) :
    Op1 P N l ⟨d, .call ⟨.value f, args, ats⟩, T, pos, af, g⟩ w R := by
  intro a hA K Q hK
  subst hA'
  obtain ⟨fn, h1, h2, h3⟩ := hk.eq
  have hvs : args.map a.eval = vs.toArray := by
    have := hA.evL hv
    apply Array.ext'
    simpa using this
  have h2' : fn.body.isNone = false := by cases hb : fn.body <;> simp_all
  unfold Oper.wp
  simp only [execOp, resolve, hvs, hA.ev hf, Deferred.ofValue, Sem.run_bind, Sem.run_pure, Result.andThen_ok, invoke, callFunc, run_program, h1, h3, h2', Bool.false_eq_true, if_false, Oper.upon]
  refine Calls.mono h fun e w' ⟨v, he, hR⟩ => ?_
  subst he
  exact hK v w' hR
end

section
variable {P : Program} {N : Nat} {l : List (Nat × Value)} {a : Act} {Ds : List Deferred} {w : World} {K : Act → World → Prop} {Q : Exit → Act → World → Prop}
theorem then_normal (h : K a w) : Exit.then K Q .normal a w := h
theorem then_ret (h : Q .ret a w) : Exit.then K Q .ret a w := h
theorem then_exit {i : Nat} (h : Q (.exit i) a w) : Exit.then K Q (.exit i) a w := h
theorem inB_normal {i : Nat} (h : Q .normal a w) : Exit.inBlock i Q .normal a w := h
theorem inB_ret {i : Nat} (h : Q .ret a w) : Exit.inBlock i Q .ret a w := h
theorem inB_eq {i : Nat} (h : Q .normal a w) : Exit.inBlock i Q (.exit i) a w := by simpa [Exit.inBlock] using h
theorem inB_ne {i j : Nat} (hij : Nat.beq j i = false) (h : Q (.exit j) a w) : Exit.inBlock i Q (.exit j) a w := by
  have : j ≠ i := fun h => by subst h; simp at hij
  simpa [Exit.inBlock, this] using h
theorem st_nil {ops : Array Oper} (h : Q .normal a w) : wpList P ops Q [] a w := h

theorem st_cond {c : Operand} {x y : Code} {t : Bool} (hA : Sl N l a Ds) (hc : ev l c = some (.bool t)) (h1 : t = true → x.wp P Q a w) (h2 : t = false → y.wp P Q a w) : (Code.cond c x y).wp P Q a w :=
  wp_cond_split (hA.ev hc) h1 h2
theorem st_cond_d {c : Operand} {x y : Code} {p : Prop} [Decidable p] (hA : Sl N l a Ds) (hc : ev l c = some (.bool (decide p))) (h1 : p → x.wp P Q a w) (h2 : ¬ p → y.wp P Q a w) : (Code.cond c x y).wp P Q a w :=
  wp_cond_split (hA.ev hc) (fun h => h1 (of_decide_eq_true h)) (fun h => h2 (of_decide_eq_false h))
theorem st_cond_nd {c : Operand} {x y : Code} {p : Prop} [Decidable p] (hA : Sl N l a Ds) (hc : ev l c = some (.bool (!decide p))) (h1 : ¬ p → x.wp P Q a w) (h2 : p → y.wp P Q a w) : (Code.cond c x y).wp P Q a w :=
  wp_cond_split (hA.ev hc) (fun h => h1 (by simpa using h)) (fun h => h2 (by simpa using h))
theorem st_cond_t {c : Operand} {x y : Code} (hA : Sl N l a Ds) (hc : ev l c = some (.bool true)) (h : x.wp P Q a w) : (Code.cond c x y).wp P Q a w := wp_cond_true (hA.ev hc) h
theorem st_cond_f {c : Operand} {x y : Code} (hA : Sl N l a Ds) (hc : ev l c = some (.bool false)) (h : y.wp P Q a w) : (Code.cond c x y).wp P Q a w := wp_cond_false (hA.ev hc) h

theorem wp_lp {c : Code} {S : Type} (I : S → Act → World → Prop) (μ : S → Nat) (s : S) (h₀ : I s a w)
    (round : ∀ s a w, I s a w → c.wp P (Exit.then (fun a' w' => ∃ s', I s' a' w' ∧ μ s' < μ s) Q) a w) : (Code.loop c).wp P Q a w := by
  intro b k cs
  have key : ∀ n s a w, μ s = n → I s a w →
      ∃ e a' w', Q e a' w' ∧ Arrives P (lone (b.at a (.code c :: .inLoop c :: k)) cs w) b k cs e a' w' := by
    intro n
    induction n using Nat.strongRecOn with
    | _ n ih =>
      intro s a w hn hI
      obtain ⟨e, a₁, w₁, hq, harr⟩ := round s a w hI b (.inLoop c :: k) cs
      cases e with
      | normal =>
        obtain ⟨s', hI₁, hlt⟩ := hq
        obtain ⟨e₂, a₂, w₂, hq₂, harr₂⟩ := ih (μ s') (hn ▸ hlt) s' a₁ w₁ rfl hI₁
        exact ⟨e₂, a₂, w₂, hq₂, .of_steps (Steps.trans harr (.one step_inLoop)) harr₂⟩
      | exit id => exact ⟨_, a₁, w₁, hq, .pass (x := .inLoop c) rfl (fun _ _ => .inl (by simp)) harr⟩
      | goto l => exact ⟨_, a₁, w₁, hq, .pass (x := .inLoop c) rfl (fun _ _ => .inl (by simp)) harr⟩
      | ret => exact ⟨_, a₁, w₁, hq, .pass (x := .inLoop c) rfl (fun _ _ => .inl (by simp)) harr⟩
      | panic ch => exact ⟨_, a₁, w₁, hq, .pass (x := .inLoop c) rfl (fun _ _ => .inl (by simp)) harr⟩
      | outgrown => exact ⟨_, a₁, w₁, hq, .pass (x := .inLoop c) rfl (fun _ _ => .inl (by simp)) harr⟩
  obtain ⟨e, a', w', hq, harr⟩ := key _ s a w rfl h₀
  exact ⟨e, a', w', hq, .of_steps (.one step_loop) harr⟩

def sl0 : Nat → List Value → List (Nat × Value)
  | _, [] => []
  | i, v :: r => (i, v) :: sl0 (i + 1) r
theorem lk_sl0 : ∀ (vs : List Value) (k i : Nat) (v : Value), lk (sl0 k vs) i = some v → k ≤ i ∧ vs[i - k]? = some v
  | [], k, i, v, h => by simp [sl0, lk] at h
  | u :: r, k, i, v, h => by
    simp only [sl0, lk] at h
    by_cases hki : k = i
    · subst hki
      simp at h
      exact ⟨Nat.le_refl _, by simp [h]⟩
    · have hb : Nat.beq k i = false := by
        cases hb : Nat.beq k i with
        | false => rfl
        | true => exact absurd (Nat.eq_of_beq_eq_true hb) hki
      simp only [hb, cond_false] at h
      obtain ⟨h1, h2⟩ := lk_sl0 r (k + 1) i v h
      refine ⟨by omega, ?_⟩
      rw [show i - k = (i - (k + 1)) + 1 by omega]
      simpa using h2

theorem enter {k : FuncId} {fn : Func} {c : Code} {args : List Value} {R : Value → World → Prop} (hf : P.funcs[k]? = some fn) (hb : fn.body = some c) (hn : fn.ntmps = N) (hle0 : Nat.ble args.length N = true)
    (h : ∀ a, Sl N (sl0 0 args) a → c.wp P (bodyPost P fn fun e w' => ∃ v, e = .returned v ∧ R v w') a w) : Ret P k args.toArray w R := by
  have hle := Nat.le_of_ble_eq_true hle0
  refine calls_of_wp hf hb (h _ ⟨⟨?_, fun i v hi => ?_⟩, rfl⟩)
  · simp [hn]; omega
  · obtain ⟨_, h2⟩ := lk_sl0 args 0 i v hi
    have hlt : i < args.length := (List.getElem?_eq_some_iff.1 h2).1
    rw [Array.getElem?_append_left (by simpa using hlt)]
    simpa using h2

theorem rt1 {fn : Func} {R : Value → World → Prop} {t : Tmp} {v : Value} {e : Exit} (he : e = .ret ∨ e = .normal) (hr : fn.results = #[.tmp t]) (hA : Sl N l a) (hv : lk l t = some v) (h : R v w) :
    bodyPost P fn (fun e w' => ∃ v, e = .returned v ∧ R v w') e a w := by
  have hg : a.tmps.getD t undef = v := by simp [Array.getD_eq_getD_getElem?, hA.get t v hv]
  rcases he with rfl | rfl
  · exact bodyPost_ret (results_tmp hr _ _ _) hA.defers ⟨v, by rw [hg], h⟩
  · exact bodyPost_end (results_tmp hr _ _ _) hA.defers ⟨v, by rw [hg], h⟩
theorem rt2 {fn : Func} {R : Value → World → Prop} {t u : Tmp} {v v2 : Value} {e : Exit} (he : e = .ret ∨ e = .normal) (hr : fn.results = #[.tmp t, .tmp u]) (hA : Sl N l a) (hv : lk l t = some v) (hv2 : lk l u = some v2) (h : R (.tuple #[v, v2]) w) :
    bodyPost P fn (fun e w' => ∃ v, e = .returned v ∧ R v w') e a w := by
  have hg : a.tmps.getD t undef = v := by simp [Array.getD_eq_getD_getElem?, hA.get t v hv]
  have hg2 : a.tmps.getD u undef = v2 := by simp [Array.getD_eq_getD_getElem?, hA.get u v2 hv2]
  rcases he with rfl | rfl
  · exact bodyPost_ret (results_tmp2 hr _ _ _) hA.defers ⟨_, by rw [hg, hg2], h⟩
  · exact bodyPost_end (results_tmp2 hr _ _ _) hA.defers ⟨_, by rw [hg, hg2], h⟩
theorem rt0 {fn : Func} {R : Value → World → Prop} {e : Exit} (he : e = .ret ∨ e = .normal) (hr : fn.results = #[]) (hA : Sl N l a) (h : R (.tuple #[]) w) :
    bodyPost P fn (fun e w' => ∃ v, e = .returned v ∧ R v w') e a w := by
  rcases he with rfl | rfl
  · exact bodyPost_ret (results_none hr _ _ _) hA.defers ⟨_, rfl, h⟩
  · exact bodyPost_end (results_none hr _ _ _) hA.defers ⟨_, rfl, h⟩
end

def aft (ops : Array Oper) (j i : Nat) : Bool := match ops[j]? with
  | some o => o.after.any fun e => Region.binds .any e && Nat.beq e.on i
  | none => false
def beh (ops : Array Oper) (listed : Array Bool) (i : Nat) : Nat → Nat → Bool
  | 0, j => aft ops j i
  | n + 1, j => aft ops j i || (List.range ops.size).any fun k => !(listed.getD k true) && (aft ops j k && beh ops listed i n k)
def late (ops : Array Oper) (π2 : List Nat) (listed : Array Bool) (i : Nat) : Bool :=
  π2.all fun j => beh ops listed i 3 j
def okL (ops : Array Oper) : List Nat → Array Bool → Bool
  | [], listed => (Region.ready .any ops listed).isEmpty
  | i :: π, listed => decide (Region.ready .any ops listed = [i]) && okL ops π (listed.setIfInBounds i true)
def okD (ops : Array Oper) (π2 : List Nat) : List (Nat × Nat) → Array Bool → Bool
  | [], listed => okL ops π2 listed
  | (i, 0) :: π, listed => decide (Region.ready .any ops listed = [i]) && okD ops π2 π (listed.setIfInBounds i true)
  | (i, 1) :: π, listed => (Region.ready .any ops listed).contains i && Region.free .any ops listed i && late ops π2 listed i && okD ops π2 π (listed.setIfInBounds i true)
  | (i, _ + 2) :: π, listed => (Region.ready .any ops listed).contains i && Region.free .any ops listed i && okD ops π2 π (listed.setIfInBounds i true)

def wk2 (P : Program) (ops : Array Oper) (Q : Exit → Act → World → Prop) : List Nat → Act → World → Prop
  | [], a, w => Q .normal a w
  | i :: π, a, w => wpOp P ops (NoPanic Q) i (fun a' w' => wk2 P ops Q π a' w') a w
def wkD (P : Program) (ops : Array Oper) (S : World → Prop) (Q : Exit → Act → World → Prop) (π2 : List Nat) : List (Nat × Nat) → Act → World → Prop
  | [], a, w => wk2 P ops Q π2 a w
  | (i, 0) :: π, a, w => wpOp P ops (NoPanic Q) i (fun a' w' => S w' ∧ wkD P ops S Q π2 π a' w') a w
  | (i, 1) :: π, a, w => ∃ o v, ops[i]? = some o ∧ YieldsIf P ops S o v a ∧ wkD P ops S Q π2 π (a.put o.dst v) w
  | (i, _ + 2) :: π, a, w => ∃ o v, ops[i]? = some o ∧ YieldsIf P ops (fun _ => True) o v a ∧ wkD P ops S Q π2 π (a.put o.dst v) w

section
variable {P : Program} {ops : Array Oper} {Q : Exit → Act → World → Prop} {md : Region.Mode} {S : World → Prop} {F : Nat → Bool}
def wpAnyK (P : Program) (md : Region.Mode) (ops : Array Oper) (Q : Exit → Act → World → Prop) (S : World → Prop) (F : Nat → Bool) : Nat → Array Bool → Act → World → Prop
  | 0, listed, a, w => Region.ready md ops listed = [] ∧ Q .normal a w
  | n + 1, listed, a, w => (Region.ready md ops listed = [] → Q .normal a w) ∧
    ∀ i ∈ Region.ready md ops listed, wpOp P ops Q i (fun a' w' => (F i = true → S w → S w') ∧ wpAnyK P md ops Q S F n (listed.setIfInBounds i true) a' w') a w
theorem wpAnyK.any : ∀ (n : Nat) (listed : Array Bool) (a : Act) (w : World), wpAnyK P md ops Q S F n listed a w → wpAny P md ops Q n listed a w
  | 0, _, _, _, h => h
  | n + 1, _, _, _, h => ⟨h.1, fun i hi => wpOp_mono (fun a' w' h' => wpAnyK.any n _ a' w' h'.2) (h.2 i hi)⟩
def AftP (md : Region.Mode) (ops : Array Oper) (j i : Nat) : Prop := ∃ oj, ops[j]? = some oj ∧ ∃ e ∈ oj.after, Region.binds md e = true ∧ e.on = i
inductive Rch (md : Region.Mode) (ops : Array Oper) (listed : Array Bool) (i : Nat) : Nat → Prop
  | base {j : Nat} : AftP md ops j i → Rch md ops listed i j
  | step {j k : Nat} : listed.getD k true = false → AftP md ops j k → Rch md ops listed i k → Rch md ops listed i j
theorem wpAnyK.first {i : Nat} {o : Oper} {v : Value} (hi : ops[i]? = some o) (hsel : ∀ (j : Nat) (o : Oper) cs b, ops[j]? = some o → o.op ≠ .select cs b) (hQ : ∀ c a w, Q (.panic c) (a.put o.dst v) w → Q (.panic c) a w) :
    ∀ (n : Nat) (listed : Array Bool) (a : Act) (w : World),
      (∀ j, F j = false → Rch md ops listed i j) → (∀ j oj, ops[j]? = some oj → j ≠ i → listed.getD j true = false → (∀ e ∈ oj.after, Region.binds md e = true → e.on ≠ i) → o.apart ops oj = true) →
      i ∈ Region.ready md ops listed → YieldsIf P ops S o v a → S w → wpAnyK P md ops Q S F n (listed.setIfInBounds i true) (a.put o.dst v) w → wpAnyK P md ops Q S F (n + 1) listed a w := by
  intro n
  induction n with
  | zero =>
    intro listed a w _ _ hr hy hS H
    refine ⟨fun h => (by rw [h] at hr; cases hr), fun j hj => ?_⟩
    by_cases hji : j = i
    · subst hji; exact hy.wpOp hi hS ⟨fun _ h => h, H⟩
    · have := ready_mono hj hji
      rw [H.1] at this
      cases this
  | succ n ih =>
    intro listed a w hF hfree hr hy hS H
    refine ⟨fun h => (by rw [h] at hr; cases hr), fun j hj => ?_⟩
    by_cases hji : j = i
    · subst hji; exact hy.wpOp hi hS ⟨fun _ h => h, H⟩
    have h1 := H.2 j (ready_mono hj hji)
    obtain ⟨hjun, oj, hoj, hall⟩ := mem_ready.1 hj
    have h0 := (mem_ready.1 hr).1
    have hnot : ∀ e ∈ oj.after, Region.binds md e = true → e.on ≠ i := by
      intro e he hb heq
      have h1 := hall e he hb
      rw [heq] at h1
      rcases Nat.lt_or_ge i listed.size with h' | h'
      · simp [h'] at h0 h1; rw [h0] at h1; cases h1
      · simp [Array.getElem?_eq_none h'] at h1
    have hnr : ¬ Rch md ops listed i j := by
      intro h9
      cases h9 with
      | base h =>
        obtain ⟨oj', hoj', e, he, hb, heq⟩ := h
        obtain rfl : oj = oj' := by rw [hoj] at hoj'; exact Option.some.inj hoj'
        exact absurd heq (hnot e he hb)
      | step hk h1 h2 =>
        obtain ⟨oj', hoj', e, he, hb, heq⟩ := h1
        obtain rfl : oj = oj' := by rw [hoj] at hoj'; exact Option.some.inj hoj'
        have h9 := hall e he hb
        subst heq
        rw [Array.getD_eq_getD_getElem?] at hk h9
        cases hq : listed[e.on]? with
        | none => rw [hq] at hk; cases hk
        | some bb => rw [hq] at hk h9; simp at hk h9; rw [hk] at h9; cases h9
    have hFj : F j = true := by
      cases hf : F j with
      | true => rfl
      | false =>
        exact (hnr (hF j hf)).elim
    have hF' : ∀ l, F l = false → Rch md ops (listed.setIfInBounds j true) i l := by
      intro l hl
      have h9 := hF l hl
      clear hl
      induction h9 with
      | base h => exact .base h
      | step hk h1 h2 ih9 =>
        refine .step ?_ h1 ih9
        rename_i j9 k9
        have hjk : j ≠ k9 := by
          rintro rfl
          exact hnr h2
        rw [getD_set_ne true hjk]
        exact hk
    have h2 := wpOp_putIf hoj (hfree j oj hoj hji hjun hnot) (fun cs b => hsel i o cs b hi) (fun cs b => hsel j oj cs b hoj) hQ hy h1
    have hfree' : ∀ k ok, ops[k]? = some ok → k ≠ i → (listed.setIfInBounds j true).getD k true = false → (∀ e ∈ ok.after, Region.binds md e = true → e.on ≠ i) → o.apart ops ok = true := by
      intro k ok hk hki hun hno
      refine hfree k ok hk hki ?_ hno
      by_cases hjk : j = k
      · subst hjk; exact hjun
      · rw [getD_set_ne true hjk] at hun; exact hun
    refine wpOp_mono (fun a' w' h3 => ⟨fun _ _ => h3.2.1 hFj hS, ih (listed.setIfInBounds j true) a' w' hF' hfree' (ready_mono hr (Ne.symm hji)) h3.1 (h3.2.1 hFj hS) ?_⟩) h2
    rw [Array.setIfInBounds_comm _ _ hji]
    exact h3.2.2
theorem wpAnyK.firstp {i : Nat} {o : Oper} {v : Value} (hi : ops[i]? = some o) (hsel : ∀ (j : Nat) (o : Oper) cs b, ops[j]? = some o → o.op ≠ .select cs b) (hQ : ∀ c a w, Q (.panic c) (a.put o.dst v) w → Q (.panic c) a w) :
    ∀ (n : Nat) (listed : Array Bool) (a : Act) (w : World),
      (∀ j oj, ops[j]? = some oj → j ≠ i → listed.getD j true = false → (∀ e ∈ oj.after, Region.binds md e = true → e.on ≠ i) → o.apart ops oj = true) →
      i ∈ Region.ready md ops listed → YieldsIf P ops (fun _ => True) o v a → wpAnyK P md ops Q S F n (listed.setIfInBounds i true) (a.put o.dst v) w → wpAnyK P md ops Q S F (n + 1) listed a w := by
  intro n
  induction n with
  | zero =>
    intro listed a w _ hr hy H
    refine ⟨fun h => (by rw [h] at hr; cases hr), fun j hj => ?_⟩
    by_cases hji : j = i
    · subst hji; exact hy.wpOp hi trivial ⟨fun _ h => h, H⟩
    · have := ready_mono hj hji
      rw [H.1] at this
      cases this
  | succ n ih =>
    intro listed a w hfree hr hy H
    refine ⟨fun h => (by rw [h] at hr; cases hr), fun j hj => ?_⟩
    by_cases hji : j = i
    · subst hji; exact hy.wpOp hi trivial ⟨fun _ h => h, H⟩
    have h1 := H.2 j (ready_mono hj hji)
    obtain ⟨hjun, oj, hoj, hall⟩ := mem_ready.1 hj
    have h0 := (mem_ready.1 hr).1
    have hnot : ∀ e ∈ oj.after, Region.binds md e = true → e.on ≠ i := by
      intro e he hb heq
      have h1 := hall e he hb
      rw [heq] at h1
      rcases Nat.lt_or_ge i listed.size with h' | h'
      · simp [h'] at h0 h1; rw [h0] at h1; cases h1
      · simp [Array.getElem?_eq_none h'] at h1
    have h2 := wpOp_putIf hoj (hfree j oj hoj hji hjun hnot) (fun cs b => hsel i o cs b hi) (fun cs b => hsel j oj cs b hoj) hQ hy h1
    have hfree' : ∀ k ok, ops[k]? = some ok → k ≠ i → (listed.setIfInBounds j true).getD k true = false → (∀ e ∈ ok.after, Region.binds md e = true → e.on ≠ i) → o.apart ops ok = true := by
      intro k ok hk hki hun hno
      refine hfree k ok hk hki ?_ hno
      by_cases hjk : j = k
      · subst hjk; exact hjun
      · rw [getD_set_ne true hjk] at hun; exact hun
    refine wpOp_mono (fun a' w' h3 => ⟨h3.2.1, ih (listed.setIfInBounds j true) a' w' hfree' (ready_mono hr (Ne.symm hji)) h3.1 ?_⟩) h2
    rw [Array.setIfInBounds_comm _ _ hji]
    exact h3.2.2
end

theorem aft_spec {ops : Array Oper} {j i : Nat} (h : aft ops j i = true) : AftP .any ops j i := by
  unfold aft at h
  split at h
  · rename_i o ho
    rw [Array.any_eq_true'] at h
    obtain ⟨e, he, h2⟩ := h
    simp only [Bool.and_eq_true] at h2
    exact ⟨o, ho, e, he, h2.1, Nat.eq_of_beq_eq_true h2.2⟩
  · cases h
theorem beh_spec {ops : Array Oper} {listed : Array Bool} {i : Nat} : ∀ (n j : Nat), beh ops listed i n j = true → Rch .any ops listed i j
  | 0, j, h => .base (aft_spec h)
  | n + 1, j, h => by
    rcases Bool.or_eq_true_iff.1 h with h1 | h1
    · exact .base (aft_spec h1)
    · obtain ⟨k, hk, h2⟩ := List.any_eq_true.1 h1
      simp only [Bool.and_eq_true] at h2
      exact .step (by simpa using h2.1) (aft_spec h2.2.1) (beh_spec n k h2.2.2)
theorem late_spec {ops : Array Oper} {π2 : List Nat} {listed : Array Bool} {i : Nat} (h : late ops π2 listed i = true) : ∀ j, (!π2.contains j) = false → Rch .any ops listed i j := by
  intro j hc
  have hm : j ∈ π2 := by simpa using hc
  exact beh_spec 3 j (List.all_eq_true.1 h j hm)
theorem wk2_any {P : Program} {ops : Array Oper} {S : World → Prop} {Q : Exit → Act → World → Prop} {F : Nat → Bool} : ∀ (π : List Nat) (listed : Array Bool) (a : Act) (w : World), (∀ i ∈ π, F i = false) →
    okL ops π listed = true → wk2 P ops Q π a w → wpAnyK P .any ops (NoPanic Q) S F π.length listed a w
  | [], listed, a, w, hF, hok, h => ⟨by simpa [okL] using hok, h⟩
  | i :: π, listed, a, w, hF, hok, h => by
    simp only [okL, Bool.and_eq_true, decide_eq_true_eq] at hok
    refine ⟨fun h0 => (by rw [hok.1] at h0; cases h0), fun j hj => ?_⟩
    rw [hok.1] at hj
    obtain rfl : j = i := by simpa using hj
    refine wpOp_mono (fun a' w' h' => ⟨fun hf => ?_, wk2_any π _ a' w' (fun i hi => hF i (List.mem_cons_of_mem _ hi)) hok.2 h'⟩) h
    rw [hF j (List.mem_cons_self ..)] at hf
    cases hf
theorem wpAny_wkD {P : Program} {ops : Array Oper} {S : World → Prop} {Q : Exit → Act → World → Prop} (hs : Region.noSelect ops = true) (π2 : List Nat) : ∀ (π : List (Nat × Nat)) (listed : Array Bool) (a : Act) (w : World),
    okD ops π2 π listed = true → S w → wkD P ops S Q π2 π a w → wpAnyK P .any ops (NoPanic Q) S (fun j => !π2.contains j) (π.length + π2.length) listed a w
  | [], listed, a, w, hok, hS, h => by
    have := wk2_any (S := S) (F := fun j => !π2.contains j) π2 listed a w (fun i hi => by simpa using hi) hok h
    simpa using this
  | (i, 1) :: π, listed, a, w, hok, hS, h => by
    simp only [okD, Bool.and_eq_true] at hok
    obtain ⟨⟨⟨hr, hf⟩, hl⟩, hok'⟩ := hok
    obtain ⟨o, v, hi, hy, hk⟩ := h
    have := wpAny_wkD hs π2 π _ _ w hok' hS hk
    have e : ((i, 1) :: π).length + π2.length = (π.length + π2.length) + 1 := by simp; omega
    rw [e]
    exact wpAnyK.first hi (Region.noSelect_spec hs) (fun c a w h => h) _ listed a w (late_spec hl) (Region.free_spec hi hf) (by simpa using hr) hy hS this
  | (i, k + 2) :: π, listed, a, w, hok, hS, h => by
    simp only [okD, Bool.and_eq_true] at hok
    obtain ⟨⟨hr, hf⟩, hok'⟩ := hok
    obtain ⟨o, v, hi, hy, hk⟩ := h
    have := wpAny_wkD hs π2 π _ _ w hok' hS hk
    have e : ((i, k + 2) :: π).length + π2.length = (π.length + π2.length) + 1 := by simp; omega
    rw [e]
    exact wpAnyK.firstp hi (Region.noSelect_spec hs) (fun c a w h => h) _ listed a w (Region.free_spec hi hf) (by simpa using hr) hy this
  | (i, 0) :: π, listed, a, w, hok, hS, h => by
    simp only [okD, Bool.and_eq_true, decide_eq_true_eq] at hok
    have e : ((i, 0) :: π).length + π2.length = (π.length + π2.length) + 1 := by simp; omega
    rw [e]
    refine ⟨fun h0 => (by rw [hok.1] at h0; cases h0), fun j hj => ?_⟩
    rw [hok.1] at hj
    obtain rfl : j = i := by simpa using hj
    exact wpOp_mono (fun a' w' ⟨hS', h'⟩ => ⟨fun _ _ => hS', wpAny_wkD hs π2 π _ a' w' hok.2 hS' h'⟩) h

theorem wp_draw {P : Program} {id : Nat} {ops : List Oper} {Q : Exit → Act → World → Prop} {a : Act} {w : World} (π : List (Nat × Nat)) (π2 : List Nat) (S : World → Prop) (hm : P.follows .mixedOrders = true)
    (hok : (Region.noSelect ops.toArray && Nat.beq (π.length + π2.length) ops.length && okD ops.toArray π2 π (Array.replicate ops.length false)) = true) (hS : S w.drew) (h : wkD P ops.toArray S Q π2 π a w.drew) : (Code.region id ops.toArray true).wp P Q a w := by
  simp only [Bool.and_eq_true] at hok
  obtain ⟨⟨hs, hl⟩, hok⟩ := hok
  have hl' : π.length + π2.length = ops.toArray.size := by simpa using Nat.eq_of_beq_eq_true hl
  have := wpAny_wkD hs π2 π (Array.replicate ops.length false) a w.drew hok hS h
  rw [hl'] at this
  refine wp_region_noPanic (wp_region_any hm (wpAnyK.any (S := S) (F := fun j => !π2.contains j) _ _ _ _ ?_))
  simpa using this

theorem wp_draw_HS {P : Program} {id : Nat} {ops : List Oper} {Q : Exit → Act → World → Prop} {a : Act} {w0 w : World} {M : Nat → Prop} {H : List It} (π : List (Nat × Nat)) (hm : P.follows .mixedOrders = true)
    (hok : (Region.noSelect ops.toArray && Nat.beq (π.length + ([] : List Nat).length) ops.length && okD ops.toArray [] π (Array.replicate ops.length false)) = true) (hH : HS w0 M H w) (h : wkD P ops.toArray (HS w0 M H) Q [] π a w.drew) : (Code.region id ops.toArray true).wp P Q a w :=
  wp_draw π [] (HS w0 M H) hm hok hH.drew h
theorem wp_draw2_HS {P : Program} {id : Nat} {ops : List Oper} {Q : Exit → Act → World → Prop} {a : Act} {w0 w : World} {M : Nat → Prop} {H : List It} (π : List (Nat × Nat)) (π2 : List Nat) (hm : P.follows .mixedOrders = true)
    (hok : (Region.noSelect ops.toArray && Nat.beq (π.length + π2.length) ops.length && okD ops.toArray π2 π (Array.replicate ops.length false)) = true) (hH : HS w0 M H w) (h : wkD P ops.toArray (HS w0 M H) Q π2 π a w.drew) : (Code.region id ops.toArray true).wp P Q a w :=
  wp_draw π π2 (HS w0 M H) hm hok hH.drew h

section
variable {P : Program} {N : Nat} {l : List (Nat × Value)} {a : Act} {Ds : List Deferred} {w : World} {ops : Array Oper} {S : World → Prop} {Q : Exit → Act → World → Prop} {i : Nat} {π : List (Nat × Nat)} {π2 π3 : List Nat}
theorem dr_nil (h : Q .normal a w) : wkD P ops S Q [] [] a w := h
theorem dr_late (h : wk2 P ops Q (i :: π3) a w) : wkD P ops S Q (i :: π3) [] a w := h
theorem dr_nil2 (h : Q .normal a w) : wk2 P ops Q [] a w := h
theorem dr_ex3 {C : World → Prop} {o : Oper} {d : Nat} {v : Value} (hA : Sl N l a Ds) (hC : C w) (hi : ops[i]? = some o) (hg : gd ops l o.guard = some true) (hd : o.dst = some d) (hdN : d < N)
    (h : Ex P N l C o v) (k : ∀ a', Sl N ((d, v) :: l) a' Ds → wk2 P ops Q π3 a' w) : wk2 P ops Q (i :: π3) a w := by
  unfold wk2 wpOp
  simp only [hi, hA.gd hg, if_true]
  refine .inl (h.op1 hC a hA.toSl0 _ _ fun v' w' ⟨hv, hw⟩ => ?_)
  subst hv; subst hw
  rw [hd]
  exact k _ (hA.put hdN _)
theorem dr_op3 {o : Oper} {d : Nat} {R : Value → World → Prop} (hA : Sl N l a Ds) (hi : ops[i]? = some o) (hg : gd ops l o.guard = some true) (hd : o.dst = some d) (hdN : d < N)
    (h : Op1 P N l o w R) (k : ∀ v w', R v w' → ∀ a', Sl N ((d, v) :: l) a' Ds → wk2 P ops Q π3 a' w') : wk2 P ops Q (i :: π3) a w := by
  unfold wk2 wpOp
  simp only [hi, hA.gd hg, if_true]
  refine .inl (h a hA.toSl0 _ _ fun v w' hR => ?_)
  rw [hd]
  exact k v w' hR _ (hA.put hdN v)
theorem dr_op03 {o : Oper} {R : Value → World → Prop} (hA : Sl N l a Ds) (hi : ops[i]? = some o) (hg : gd ops l o.guard = some true) (hd : o.dst = none)
    (h : Op1 P N l o w R) (k : ∀ v w', R v w' → wk2 P ops Q π3 a w') : wk2 P ops Q (i :: π3) a w := by
  unfold wk2 wpOp
  simp only [hi, hA.gd hg, if_true]
  refine .inl (h a hA.toSl0 _ _ fun v w' hR => ?_)
  rw [hd]
  exact k v w' hR
theorem dr_skip3 {o : Oper} {d : Nat} (hA : Sl N l a Ds) (hi : ops[i]? = some o) (hg : gd ops l o.guard = some false) (hd : o.dst = some d) (hdN : d < N)
    (k : ∀ a', Sl N ((d, undef) :: l) a' Ds → wk2 P ops Q π3 a' w) : wk2 P ops Q (i :: π3) a w := by
  unfold wk2 wpOp
  simp only [hi, hA.gd hg, Bool.false_eq_true, if_false]
  rw [hd]
  exact k _ (hA.put hdN _)
theorem dr_ex {o : Oper} {d : Nat} {v : Value} (hA : Sl N l a Ds) (hi : ops[i]? = some o) (hg : gd ops l o.guard = some true) (hd : o.dst = some d) (hdN : d < N)
    (h : Ex P N l S o v) (k : ∀ a', Sl N ((d, v) :: l) a' Ds → wkD P ops S Q π2 π a' w) : wkD P ops S Q π2 ((i, 1) :: π) a w := by
  refine ⟨o, v, hi, .inl ⟨hA.gd hg, fun w' hS => h a w' hA.toSl0 hS⟩, ?_⟩
  rw [hd]
  exact k _ (hA.put hdN v)
theorem dr_exb {o : Oper} {d : Nat} {b : Bool} (hA : Sl N l a Ds) (hi : ops[i]? = some o) (hg : gd ops l o.guard = some true) (hd : o.dst = some d) (hdN : d < N) (hG : isG ops d = true)
    (h : Ex P N l S o (.bool b)) (kt : b = true → ∀ a', Sl N ((d, .bool true) :: l) a' Ds → wkD P ops S Q π2 π a' w) (kf : b = false → ∀ a', Sl N ((d, .bool false) :: l) a' Ds → wkD P ops S Q π2 π a' w) :
    wkD P ops S Q π2 ((i, 1) :: π) a w :=
  dr_ex hA hi hg hd hdN h fun a' hA' => by
    cases hb : b with
    | true => exact kt hb a' (hb ▸ hA')
    | false => exact kf hb a' (hb ▸ hA')
theorem dr_exp {o : Oper} {d k : Nat} {v : Value} (hA : Sl N l a Ds) (hi : ops[i]? = some o) (hg : gd ops l o.guard = some true) (hd : o.dst = some d) (hdN : d < N)
    (h : Ex P N l (fun _ => True) o v) (kk : ∀ a', Sl N ((d, v) :: l) a' Ds → wkD P ops S Q π2 π a' w) : wkD P ops S Q π2 ((i, k + 2) :: π) a w := by
  refine ⟨o, v, hi, .inl ⟨hA.gd hg, fun w' hS => h a w' hA.toSl0 hS⟩, ?_⟩
  rw [hd]
  exact kk _ (hA.put hdN v)
theorem dr_skip {o : Oper} {d : Nat} (hA : Sl N l a Ds) (hi : ops[i]? = some o) (hg : gd ops l o.guard = some false) (hd : o.dst = some d) (hdN : d < N)
    (k : ∀ a', Sl N ((d, undef) :: l) a' Ds → wkD P ops S Q π2 π a' w) : wkD P ops S Q π2 ((i, 1) :: π) a w := by
  refine ⟨o, undef, hi, .inr ⟨hA.gd hg, rfl⟩, ?_⟩
  rw [hd]
  exact k _ (hA.put hdN _)
theorem dr_op {o : Oper} {d : Nat} {R : Value → World → Prop} (hA : Sl N l a Ds) (hi : ops[i]? = some o) (hg : gd ops l o.guard = some true) (hd : o.dst = some d) (hdN : d < N)
    (h : Op1 P N l o w R) (k : ∀ v w', R v w' → S w' ∧ ∀ a', Sl N ((d, v) :: l) a' Ds → wkD P ops S Q π2 π a' w') : wkD P ops S Q π2 ((i, 0) :: π) a w := by
  unfold wkD wpOp
  simp only [hi, hA.gd hg, if_true]
  refine .inl (h a hA.toSl0 _ _ fun v w' hR => ?_)
  rw [hd]
  exact ⟨(k v w' hR).1, (k v w' hR).2 _ (hA.put hdN v)⟩
theorem dr_op0 {o : Oper} {R : Value → World → Prop} (hA : Sl N l a Ds) (hi : ops[i]? = some o) (hg : gd ops l o.guard = some true) (hd : o.dst = none)
    (h : Op1 P N l o w R) (k : ∀ v w', R v w' → S w' ∧ wkD P ops S Q π2 π a w') : wkD P ops S Q π2 ((i, 0) :: π) a w := by
  unfold wkD wpOp
  simp only [hi, hA.gd hg, if_true]
  refine .inl (h a hA.toSl0 _ _ fun v w' hR => ?_)
  rw [hd]
  exact k v w' hR
end
end Go.Fw
