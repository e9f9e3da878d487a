/-
  ssa.May's check: step, end, exactly. Conditions: none.
  ssa.May's check: meet. Conditions: none.
-/
import Derived.Test.YtenlcdokaadobaaGreatDoorRowFuelMg7
namespace Go.Proofs.YtenlcdokaadobaaGreatDoor
open Go Go.Fw
set_option linter.unusedVariables false
instance : TAr Tryz.prog 217 2 3 := ⟨Tryz.underlying217⟩
theorem ex_lookup2 {P : Program} {N : Nat} {l : List (Nat × Value)} {d : Option Tmp} {T : TypeId} {pos : String} {af : Array Edge} {g : Option (Nat × Bool)} {t kt e sz by_ b : Nat} {kk : IntKind} {z u v : Value} {zs : List Value} {x y : Operand} {m : List (Int × Value)} {k : Int} {ok : Bool} {w0 : World} {M : Nat → Prop} {H : List It} [ht : TMp P t kt e] [hk : TIn P kt kk] [hi : TIf P e z zs sz by_]
    (hx : ev l x = some (.map (some b))) (hy : ev l y = some (.int .i64 k)) (hm : mp b m ∈ H) (h1 : (mv m k).getD z = .agg #[u, v]) (h2 : (mv m k).isSome = ok) : Ex P N l (HS w0 M H) ⟨d, .lookup t x y true, T, pos, af, g⟩ (.tuple #[.agg #[u, v], .bool ok]) := by
  rw [← h1, ← h2]
  exact ex_lookup_ok hx hy hm
def pairV (a b : Int) : Value := .agg #[.int .i64 a, .int .i64 b]
def endM (n : Int) : List (Int × Value) := mset (mset (mset (mset (mset (mset [] 1 (pairV 1 0)) 2 (pairV 2 0)) 3 (pairV 1 0)) 4 (pairV 0 1)) 5 (pairV 1 2)) 6 (pairV 1 n)
theorem endM_eq (n : Int) : endM n = [(1, pairV 1 0), (2, pairV 2 0), (3, pairV 1 0), (4, pairV 0 1), (5, pairV 1 2), (6, pairV 1 n)] := rfl
theorem endM_fold (n : Int) : mset (mset (mset (mset (mset (mset [] 1 (.agg #[.int .i64 1, .int .i64 0])) 2 (.agg #[.int .i64 2, .int .i64 0])) 3 (.agg #[.int .i64 1, .int .i64 0])) 4 (.agg #[.int .i64 0, .int .i64 1])) 5 (.agg #[.int .i64 1, .int .i64 2])) 6 (.agg #[.int .i64 1, .int .i64 n]) = endM n := rfl
theorem endM_mv (n k : Int) : (1 ≤ k ∧ k ≤ 6 ∧ mv (endM n) k = some (pairV (endA k) (endT n k))) ∨ (¬ (1 ≤ k ∧ k ≤ 6) ∧ mv (endM n) k = none) := by
  rw [endM_eq]
  by_cases h : 1 ≤ k ∧ k ≤ 6
  · refine .inl ⟨h.1, h.2, ?_⟩
    have : k = 1 ∨ k = 2 ∨ k = 3 ∨ k = 4 ∨ k = 5 ∨ k = 6 := by omega
    rcases this with rfl | rfl | rfl | rfl | rfl | rfl <;> rfl
  · refine .inr ⟨h, ?_⟩
    have h1 : ¬ (1 : Int) = k := by omega
    have h2 : ¬ (2 : Int) = k := by omega
    have h3 : ¬ (3 : Int) = k := by omega
    have h4 : ¬ (4 : Int) = k := by omega
    have h5 : ¬ (5 : Int) = k := by omega
    have h6 : ¬ (6 : Int) = k := by omega
    simp [mv, List.find?_cons, h1, h2, h3, h4, h5, h6]
theorem up_next {l : List Int} {i : Nat} (h : ∀ k, k < i → upAt l k) (ha : upAt l i) : ∀ k, k < i + 1 → upAt l k := fun k hk => by
  by_cases e : k = i
  · exact e ▸ ha
  · exact h k (by omega)
theorem end_no {e : En} (h : ¬ EndP e) : false = true ↔ EndP e := ⟨fun e => (by cases e), fun e => absurd e h⟩
set_option maxRecDepth 10000 attribute [local irreducible] Code.wp wpList Calls Ex Op1 sat bat blk cb own Go.Fw.mp Go.Fw.mpO Go.Fw.mpI Go.Fw.mpE Go.Fw.itr HS Rd Ret wkD Hp Cl Cls Exit.then Exit.inBlock Exit.noGoto bodyPost Go.Fw.flat wk2 Go.Fw.all Go.Fw.owns wpOp
attribute [local irreducible] sk mpK sko mvO entK endM Go.Fw.mset Go.Fw.mv

set_option maxHeartbeats 8000000 in
theorem end_spec (w0 : World) (e : En) (hN : RdV w0 Fw.encI e.ns) : Ret Tryz.prog 63 #[.agg (encEn e).toArray] w0 (fun v w => ∃ b, v = .bool b ∧ (b = true ↔ EndP e) ∧ Kp w0 noM w) := by
  have hH : HS w0 noM [] w0 := HS.init w0 noM
  have hle := hN.le
  have hspN : Sp e.ns.o e.ns.l.length := hN.1.sp (sz := 1) (flat_length Fw.encI_len _) (by omega)
  (refine enter (N := 77) Tryz.func63 rfl Tryz.ntmps63 rfl ?_; intro a hA; dsimp only [sl0, Nat.reduceAdd] at hA)
  repeat' (first | (refine QT ?_; clear hA a; intro a hA) | (refine BT ?_; clear hA hH; rintro _ w ⟨bN, rfl, hH⟩ a hA) | (refine CT ?_ <;> repeat' refine CT ?_))
  obtain ⟨b1, hb1⟩ : ∃ x, x = bN := ⟨_, rfl⟩
  rw [← hb1] at hA hH
  clear hb1 bN
  (refine st_op hA rfl rfl (by decide) (op_makeMap hH) ?_; clear hA hH; rintro _ w ⟨bM, rfl, hH⟩ a hA)
  repeat' (first | ((first | apply st_ex hA hH rfl rfl (by decide) | apply dr_ex hA rfl rfl rfl (by decide) | apply dr_exp hA rfl rfl rfl (by decide) | apply dr_ex3 hA hH rfl rfl rfl (by decide)); (first | (apply ex_build2; rfl; rfl; rfl; rfl; rfl) | (apply ex_addW; rfl; rfl)); clear hA a; intro a hA) | (refine QT ?_; clear hA a; intro a hA) | (apply st_op0 hA rfl rfl; apply op_insertV; rfl; rfl; rfl; exact hH; (repeat constructor); clear hH; rintro _ w hH) | (refine CT ?_ <;> repeat' refine CT ?_))
  rw [endM_fold] at hH
  obtain ⟨n, hn⟩ : ∃ x, x = IntKind.i64.wrap (e.ns.l.length + 1) := ⟨_, rfl⟩
  rw [← hn] at hA hH
  have hev : ∃ (h0 h1 : Int) (ok : Bool), (mv (endM n) e.k).getD (.agg #[.int .i64 0, .int .i64 0]) = .agg #[.int .i64 h0, .int .i64 h1] ∧ (mv (endM n) e.k).isSome = ok ∧ (ok = true → 1 ≤ e.k ∧ e.k ≤ 6 ∧ h0 = endA e.k ∧ h1 = endT n e.k) ∧ (ok = false → ¬ (1 ≤ e.k ∧ e.k ≤ 6)) := by
    rcases endM_mv n e.k with ⟨h1, h2, h3⟩ | ⟨h1, h2⟩
    · exact ⟨_, _, true, by rw [h3]; rfl, by rw [h3]; rfl, fun _ => ⟨h1, h2, rfl, rfl⟩, fun h => (by cases h)⟩
    · exact ⟨0, 0, false, by rw [h2]; rfl, by rw [h2]; rfl, fun h => (by cases h), fun _ => h1⟩
  obtain ⟨h0, h1, ok, hv, hok, hyes, hno⟩ := hev
  (refine st_ex hA hH rfl rfl (by decide) (ex_lookup2 (m := endM n) (k := e.k) rfl rfl (by exact MEMT) hv hok) ?_; clear hA a; intro a hA)
  clear hv hok
  cases ok with
  | false =>
    repeat' (first | (refine GT ?_ ?_ <;> intro hg <;> clear hA a <;> intro a hA <;> (first | exact FA | replace hg := of_decide_eq_true hg | replace hg := of_decide_eq_false hg | skip)) | ((first | apply st_ex hA hH rfl rfl (by decide) | apply dr_ex hA rfl rfl rfl (by decide) | apply dr_exp hA rfl rfl rfl (by decide) | apply dr_ex3 hA hH rfl rfl rfl (by decide)); (first | (apply ex_indexArr; rfl; rfl; decide)); clear hA a; intro a hA) | (refine QT ?_; clear hA a; intro a hA) | (refine BT ?_; clear hA hH; rintro _ w ⟨bN, rfl, hH⟩ a hA) | (apply st_op0 hA rfl rfl; apply op_store_agg (vs := [.int .i64 h0, .int .i64 h1]); rfl; rfl; exact hH; (repeat constructor); (repeat rfl); clear hH; rintro _ w hH) | (refine CT ?_ <;> repeat' refine CT ?_))
    all_goals exact rt1 (.inl rfl) rfl hA rfl ⟨_, rfl, end_no (fun h => hno rfl ⟨h.lo, h.hi⟩), hH.kp⟩
  | true =>
  obtain ⟨hk1, hk2, ha0, ht0⟩ := hyes rfl
  clear hyes hno
  repeat' (first | (refine GT ?_ ?_ <;> intro hg <;> clear hA a <;> intro a hA <;> (first | exact FA | replace hg := of_decide_eq_true hg | replace hg := of_decide_eq_false hg | skip)) | ((first | apply st_ex hA hH rfl rfl (by decide) | apply dr_ex hA rfl rfl rfl (by decide) | apply dr_exp hA rfl rfl rfl (by decide) | apply dr_ex3 hA hH rfl rfl rfl (by decide)); (first | (apply ex_indexArr; rfl; rfl; decide)); clear hA a; intro a hA) | (refine QT ?_; clear hA a; intro a hA) | (refine BT ?_; clear hA hH; rintro _ w ⟨bN, rfl, hH⟩ a hA) | (apply st_op0 hA rfl rfl; apply op_store_agg (vs := [.int .i64 h0, .int .i64 h1]); rfl; rfl; exact hH; (repeat constructor); (repeat rfl); clear hH; rintro _ w hH) | ((first | refine CT ?_ | (refine DT ?_ ?_ <;> intro hc <;> try (exfalso; omega))) <;> repeat' refine CT ?_))
  · exact rt1 (.inl rfl) rfl hA rfl ⟨_, rfl, end_no (fun h => by have := h.a; omega), hH.kp⟩
  · exact rt1 (.inl rfl) rfl hA rfl ⟨_, rfl, end_no (fun h => by have := h.to; rw [← hn] at this; omega), hH.kp⟩
  · exact rt1 (.inl rfl) rfl hA rfl ⟨_, rfl, end_no (fun h => (by assumption : ¬ decide (e.k = 6) = decide (0 < (e.ns.l.length : Int))) (decide_eq_decide.2 ⟨fun h6 => (by have := h.ns.1 h6; omega), fun h6 => h.ns.2 (by omega)⟩)), hH.kp⟩
  have hns : e.k = 6 ↔ 0 < e.ns.l.length := (decide_eq_decide.1 (by assumption : decide (e.k = 6) = decide (0 < (e.ns.l.length : Int)))).trans (by omega)
  have ha1 : (e.a.l.length : Int) = endA e.k := by omega
  have ht1 : (e.to.l.length : Int) = endT (IntKind.i64.wrap ((e.ns.l.length : Int) + 1)) e.k := by rw [← hn]; omega
  refine wp_lpk (S := Nat) (fun i a w => (i ≤ e.ns.l.length ∧ ∀ k, k < i → upAt e.ns.l k) ∧ HS w0 noM [cb b1 51 (encEn e)] w ∧ Sl 77 [(57, .int .i64 i), (56, .int .i64 e.ns.l.length), (1, .pointer (some (bat b1 0)))] a) (fun i => e.ns.l.length - i)
    (fun a w => upP e.ns.l ∧ HS w0 noM [] w ∧ Sl 77 [] a) 0 ⟨⟨Nat.zero_le _, fun k h => absurd h (Nat.not_lt_zero _)⟩, hH.tail.tail, (hA.sub (by (repeat (first | exact trivial | refine ⟨rfl, ?_⟩)); first | done | fail "sub"))⟩ ?_ ?_
  · clear hA hH
    rintro i a w ⟨⟨hi, hup⟩, hH, hA⟩
    by_cases hlt : i < e.ns.l.length
    rotate_left
    · obtain rfl : i = e.ns.l.length := by omega
      repeat' (first | (refine QT ?_; clear hA a; intro a hA) | ((first | refine CT ?_ | (refine DT ?_ ?_ <;> intro hc <;> try (exfalso; omega))) <;> repeat' refine CT ?_))
      exact ⟨hup, hH.tail, (hA.sub (by (repeat (first | exact trivial | refine ⟨rfl, ?_⟩)); first | done | fail "sub"))⟩
    have e1 : ((i : Int) - 1).toNat = i - 1 := by omega
    repeat' (first | (refine QT ?_; clear hA a; intro a hA) | ((first | refine CT ?_ | (refine DT ?_ ?_ <;> intro hc <;> try (exfalso; omega))) <;> repeat' refine CT ?_))
    (refine wp_draw_HS [(0, 1), (1, 1), (2, 1), (3, 1), (4, 1), (5, 1), (6, 1), (7, 1), (8, 1), (9, 1), (10, 1), (11, 1), (12, 1), (13, 1), (14, 1), (15, 1)] mixed (by decide +kernel) hH ?_; replace hH := hH.drew)
    repeat' (first | (refine GT ?_ ?_ <;> intro hg <;> clear hA a <;> intro a hA <;> (first | exact FA | replace hg := of_decide_eq_true hg | replace hg := of_decide_eq_false hg | skip)) | ((first | apply st_ex hA hH rfl rfl (by decide) | apply dr_ex hA rfl rfl rfl (by decide) | apply dr_exp hA rfl rfl rfl (by decide) | apply dr_ex3 hA hH rfl rfl rfl (by decide)); (first | (apply ex_indexAddr_nat; rfl; rfl; omega; exact hspN) | (apply ex_indexAddr; rfl; rfl; omega; omega; exact hspN) | (apply ex_load; rfl; refine cl_rd hN.1 id (ints_at ?_); omega)); clear hA a; intro a hA) | (refine QT ?_; clear hA a; intro a hA) | ((first | refine CT ?_ | (refine DT ?_ ?_ <;> intro hc <;> try (exfalso; omega))) <;> repeat' refine CT ?_))
    all_goals first
      | exact ⟨i + 1, ⟨⟨hlt, up_next hup (fun h0 => (by omega))⟩, hH, (hA.sub (by (repeat (first | exact trivial | refine ⟨rfl, ?_⟩)); first | done | fail "sub"))⟩, by omega⟩
      | exact ⟨i + 1, ⟨⟨hlt, up_next hup (fun h0 => (by rw [← e1]; omega))⟩, hH, (hA.sub (by (repeat (first | exact trivial | refine ⟨rfl, ?_⟩)); first | done | fail "sub"))⟩, by omega⟩
      | exact rt1 (.inl rfl) rfl hA rfl ⟨_, rfl, end_no (fun h => (by have h1 := h.up i hlt (by omega); rw [← e1] at h1; omega)), hH.kp⟩
  clear hA hH
  rintro a w ⟨hup, hH, hA⟩
  repeat' (first | (refine QT ?_; clear hA a; intro a hA) | (refine CT ?_ <;> repeat' refine CT ?_))
  exact rt1 (.inl rfl) rfl hA rfl ⟨_, rfl, iff_of_true rfl ⟨hk1, hk2, ha1, ht1, hns, hup⟩, hH.kp⟩

set_option maxHeartbeats 4000000 in
theorem step2_spec (w0 w : World) (H : List It) (c : Ck) (bC : Nat) (p : Int) (la : List Int) (r : Stp) (hH : HS w0 noM (cb bC 112 (encC c p) :: H) w) (hm : own 3 1 c.oA c.nA c.cA (flat Fw.encI la) ∈ H) (hn : c.nA = la.length) (hla : la.length ≤ 9223372036854775807) (hN : RdV w0 Fw.encI r.ns) :
    Ret Tryz.prog 61 #[.pointer (some (bat bC 0)), .agg (encSt r).toArray] w (fun v w' => ∃ b, v = .bool b ∧ (b = true ↔ FormP c.g la c.f.caps r) ∧ HS w0 noM (cb bC 112 (encC c p) :: H) w') := by
  (refine enter (N := 39) Tryz.func61 rfl Tryz.ntmps61 rfl ?_; intro a hA; dsimp only [sl0, Nat.reduceAdd] at hA)
  repeat' (first | (refine QT ?_; clear hA a; intro a hA) | (refine BT ?_; clear hA hH; rintro _ w ⟨bN, rfl, hH⟩ a hA) | (refine CT ?_ <;> repeat' refine CT ?_))
  obtain ⟨b3, hb3⟩ : ∃ x, x = bN := ⟨_, rfl⟩
  rw [← hb3] at hA hH
  clear hb3 bN
  (refine wp_draw_HS [(0, 1), (1, 1), (2, 1), (3, 1), (4, 1), (5, 1), (6, 1), (7, 1), (8, 1), (9, 1), (10, 1), (11, 1), (12, 1), (13, 1), (14, 1), (15, 1), (16, 1), (17, 1), (18, 1), (19, 1), (20, 1), (21, 0), (22, 0)] mixed (by decide +kernel) hH ?_; replace hH := hH.drew)
  repeat' (first | ((first | apply st_ex hA hH rfl rfl (by decide) | apply dr_ex hA rfl rfl rfl (by decide) | apply dr_exp hA rfl rfl rfl (by decide) | apply dr_ex3 hA hH rfl rfl rfl (by decide)); (first | (apply ex_build_p (cs := (encP none 0 0 c.g).toArray); rfl; (repeat (first | (intro _ h; exact absurd h (List.not_mem_nil)) | (refine List.forall_mem_cons.2 ⟨one_cell_of _ _, ?_⟩))); rfl)); clear hA a; intro a hA) | (refine QT ?_; clear hA a; intro a hA))
  (apply dr_op hA rfl rfl rfl (by decide); apply op_alloc; exact hH; clear hA hH; rintro _ w ⟨bN, rfl, hH⟩; refine ⟨hH.tail, ?_⟩; intro a hA)
  (apply dr_op0 hA rfl rfl rfl; apply op_store_agg (vs := encP none 0 0 c.g); rfl; rfl; exact hH; (repeat constructor); (repeat rfl); clear hH; rintro _ w hH; refine ⟨hH.tail, ?_⟩)
  repeat' (first | (refine QT ?_; clear hA a; intro a hA) | (refine CT ?_ <;> repeat' refine CT ?_))
  (refine wp_draw_HS [(0, 1), (1, 1), (2, 1), (3, 1), (4, 1), (5, 1), (6, 1), (7, 1), (8, 1), (9, 1), (10, 1), (11, 0), (12, 1)] mixed (by decide +kernel) hH ?_; replace hH := hH.drew)
  repeat' (first | (refine QT ?_; clear hA a; intro a hA))
  have hS := Step_spec _ none 0 0 c.g c.oA c.cA la c.f.caps r (hH.own_rd (T := 3) (n := c.nA) (cap := c.cA) (sz := 1) (.tail _ (.tail _ (.tail _ hm)))) hla (hN.keep hH.kp)
  rw [← hn] at hS
  (refine dr_op hA rfl rfl rfl (by decide) (op_call rfl rfl rfl (hS)) ?_; clear hA; rintro _ w ⟨b, rfl, hbF, hk⟩; refine ⟨hH.keep hk, ?_⟩; intro a hA)
  replace hH := hH.keep hk
  repeat' (first | (refine QT ?_; clear hA a; intro a hA) | (refine CT ?_ <;> repeat' refine CT ?_))
  exact rt1 (.inl rfl) rfl hA rfl ⟨_, rfl, hbF, hH.tail.tail⟩
end Go.Proofs.YtenlcdokaadobaaGreatDoor
namespace Go.Fw
open Go Go.RowKit
set_option linter.unusedVariables false
section
variable {P : Program} {N : Nat} {l : List (Nat × Value)} {a : Act} {d : Option Tmp} {T : TypeId} {pos : String} {af : Array Edge} {g : Option (Nat × Bool)}
theorem op_delEl {t kt e b : Nat} {kk : IntKind} {x y : Operand} {u : TypeId} {el : List (Int × Nat)} {clock : Nat} {k : Int} {w0 w : World} {M : Nat → Prop} {H H' : List It} [ht : TMp P t kt e] [hk : TIn P kt kk]
    (hx : ev l x = some (.map (some b))) (hy : ev l y = some (.int .i64 k)) (hH : HS w0 M H w) (hok : ElK el clock) (hr : Rp H (mpK b el clock) (mpK b (el.filter fun e => !(e.1 == k)) clock) H') :
    Op1 P N l ⟨d, .call ⟨.builtin .delete, #[x, y], #[t, u]⟩, T, pos, af, g⟩ w (fun v w' => v = .tuple #[] ∧ HS w0 M H' w') := by
  intro a hA K Q hK
  obtain ⟨R, p, _⟩ := hr.split
  obtain ⟨F, h3, h4⟩ := hH.sat (p.symm.subset (List.mem_cons_self))
  have hfm : ((el.map mkK).filter fun e => !(e.1 == k)) = (el.filter fun e => !(e.1 == k)).map mkK := by
    rw [List.filter_map]
    rfl
  unfold Oper.wp
  simp only [execOp, resolve, invoke, builtin, List.map_toArray, List.map_cons, List.map_nil, hA.ev hx, hA.ev hy, Builtin.delete_, Sem.run_bind, Sem.run_pure, Result.andThen_ok, List.getElem?_toArray, List.getElem?_cons_zero, List.getElem?_cons_succ,
    run_underlying ht.eq, run_getObj_map h4, run_checkKey, run_findKey]
  cases hf : fnd k (el.map mkK) 0 with
  | some q =>
    obtain ⟨j, v0⟩ := q
    obtain ⟨_, born, hj⟩ := fnd_some k _ 0 j v0 hf
    simp only [Nat.sub_zero] at hj
    have hlt : j < (el.map mkK).length := (List.getElem?_eq_some_iff.1 hj).1
    have herase : ((el.map mkK).map mkE).toArray.eraseIdxIfInBounds j = (((el.filter fun e => !(e.1 == k)).map mkK).map mkE).toArray := by
      apply Array.ext'
      rw [← hfm, ← eraseIdx_fnd hok.es.keys hj]
      simp only [List.eraseIdxIfInBounds_toArray, eraseIdx_map']
    simp only [Sem.run_bind, run_setObj_map h4, Result.andThen_ok, herase, Sem.run_pure, Oper.upon]
    refine hK _ _ ⟨rfl, hH.turn hr fun F' hF' => ?_⟩
    obtain ⟨hF1, hF2⟩ := hF'
    exact ⟨setObj_kp ((hF1 b).2 rfl), F', ⟨hF1, setObj_at h4⟩, fun b hb => .inr hb⟩
  | none =>
    have hne := fnd_none k _ 0 hf
    have hself : (el.filter fun e => !(e.1 == k)) = el := by
      refine List.filter_eq_self.2 fun e he => ?_
      have := hne (mkK e) (List.mem_map.2 ⟨e, he, rfl⟩)
      simpa [mkK] using this
    rw [hself] at hr
    simp only [Sem.run_bind, run_setObj_map h4, Result.andThen_ok, Sem.run_pure, Oper.upon]
    refine hK _ _ ⟨rfl, hH.turn hr fun F' hF' => ?_⟩
    obtain ⟨hF1, hF2⟩ := hF'
    exact ⟨setObj_kp ((hF1 b).2 rfl), F', ⟨hF1, setObj_at h4⟩, fun b hb => .inr hb⟩
theorem op_nextKd {r b clock : Nat} {el el0 done : List (Int × Nat)} {x : Operand} {w0 w : World} {M : Nat → Prop} {H : List It}
    (hx : ev l x = some (.pointer (some (bat r 0)))) (hH : HS w0 M H w) (hi : itr r b clock (done.map (·.2)) ∈ H) (hm : mpK b el clock ∈ H) (hok : ElK el clock) (hok0 : ElK el0 clock) (hs : ∀ e ∈ el, e ∈ el0) (hd : ∀ e ∈ done, e ∈ el0) :
    Op1 P N l ⟨d, .next x false, T, pos, af, g⟩ w (fun v w' =>
      ((∀ e ∈ el, e ∈ done) ∧ v = .tuple #[.bool false] ∧ HS w0 M H w') ∨
      (∃ e ∈ el, e ∉ done ∧ v = .tuple #[.bool true, .int .i64 e.1, .bool true] ∧ ∀ H', Rp H (itr r b clock (done.map (·.2))) (itr r b clock ((done ++ [e]).map (·.2))) H' → HS w0 M H' w')) := by
  intro a hA K Q hK
  have hinj : ∀ e ∈ el0, ∀ e' ∈ el0, e.2 = e'.2 → e = e' := fun e he e' he' h2 => by
    have hn := hok0.borns
    clear hm hd hi hH hK hs hok
    induction el0 with
    | nil => cases he
    | cons x el ih =>
      rw [List.map_cons, List.nodup_cons] at hn
      rcases List.mem_cons.1 he with rfl | h5 <;> rcases List.mem_cons.1 he' with rfl | h6
      · rfl
      · exact absurd (List.mem_map.2 ⟨e', h6, h2.symm⟩ : e.2 ∈ el.map (·.2)) hn.1
      · exact absurd (List.mem_map.2 ⟨e, h5, h2⟩ : e'.2 ∈ el.map (·.2)) hn.1
      · exact ih ⟨(List.nodup_cons.1 hok0.keys).2, hn.2, fun e he => hok0.lt e (.tail _ he)⟩ h5 h6 hn.2
  refine op_next hx hH hi hm hok.es a hA K Q fun v w' h => hK v w' ?_
  rcases h with ⟨h1, h2, h3⟩ | ⟨e, he, h1, h2, h3⟩
  · refine .inl ⟨fun e he => ?_, h2, h3⟩
    obtain ⟨e', he', h4⟩ := List.mem_map.1 (h1 (mkK e) (List.mem_map.2 ⟨e, he, rfl⟩))
    exact hinj e' (hd e' he') e (hs e he) h4 ▸ he'
  · obtain ⟨e', he', rfl⟩ := List.mem_map.1 he
    refine .inr ⟨e', he', fun h4 => h1 (List.mem_map.2 ⟨e', h4, rfl⟩), h2, fun H' hr => h3 H' ?_⟩
    rw [List.map_append] at hr
    exact hr
end
end Go.Fw
namespace Go.Proofs.YtenlcdokaadobaaGreatDoor
open Go Go.Fw
set_option linter.unusedVariables false
theorem flat_set_ids (tc : List (Option (Nat × List Int))) (t b : Nat) (k1 k2 : List Int) : flat encO (tc.set t (some (b, k1))) = flat encO (tc.set t (some (b, k2))) := by
  unfold Fw.flat
  rw [List.flatMap_def, List.flatMap_def, List.map_set, List.map_set]
  rfl
def elL (el0 dn : List (Int × Nat)) (ks : List Int) (el : List (Int × Nat)) : Prop := ∀ e, e ∈ el ↔ e ∈ el0 ∧ (e ∉ dn ∨ e.1 ∈ ks)
theorem elL_keep {el0 dn el : List (Int × Nat)} {ks : List Int} (h : elL el0 dn ks el) {e : Int × Nat} (he : e.1 ∈ ks) : elL el0 (dn ++ [e]) ks el := by
  intro e'
  rw [h, List.mem_append, List.mem_singleton, not_or]
  refine and_congr_right fun _ => ⟨?_, ?_⟩
  · rintro (h1 | h1)
    · by_cases h2 : e' = e
      · exact .inr (h2 ▸ he)
      · exact .inl ⟨h1, h2⟩
    · exact .inr h1
  · rintro (h1 | h1)
    · exact .inl h1.1
    · exact .inr h1
theorem elL_del {el0 dn el : List (Int × Nat)} {ks : List Int} (h : elL el0 dn ks el) (hk : (el0.map (·.1)).Nodup) {e : Int × Nat} (h0 : e ∈ el0) (he : e.1 ∉ ks) : elL el0 (dn ++ [e]) ks (el.filter fun x => !(x.1 == e.1)) := by
  intro e'
  rw [List.mem_filter, h, List.mem_append, List.mem_singleton, not_or]
  have hb : ((!(e'.1 == e.1)) = true) ↔ e'.1 ≠ e.1 := by simp
  rw [hb]
  constructor
  · rintro ⟨⟨h1, h2⟩, h3⟩
    refine ⟨h1, h2.imp (fun h4 => ⟨h4, fun h5 => h3 (h5 ▸ rfl)⟩) id⟩
  · rintro ⟨h1, h2⟩
    refine ⟨⟨h1, h2.imp And.left id⟩, fun h3 => ?_⟩
    have := fst_inj hk e' h1 e h0 h3
    rcases h2 with h2 | h2
    · exact h2.2 this
    · exact he (this ▸ h2)
theorem elL_ok {el0 dn el : List (Int × Nat)} {ks : List Int} {clock : Nat} (h : elL el0 dn ks el) (hok0 : ElK el0 clock) (hok : ElK el clock) (k : Int) : ElK (el.filter fun x => !(x.1 == k)) clock :=
  ⟨List.Nodup.sublist (List.filter_sublist.map _) hok.keys, List.Nodup.sublist (List.filter_sublist.map _) hok.borns, fun e he => hok.lt e (List.mem_filter.1 he).1⟩
theorem elL_all {el0 dn el : List (Int × Nat)} {ks k0 : List Int} (h : elL el0 dn ks el) (hel : el0.map (·.1) = k0) (hall : ∀ e ∈ el, e ∈ dn) (x : Int) : x ∈ el.map (·.1) ↔ x ∈ ks ∧ x ∈ k0 := by
  rw [← hel, List.mem_map, List.mem_map]
  constructor
  · rintro ⟨e, he, rfl⟩
    have h1 := (h e).1 he
    exact ⟨h1.2.resolve_left fun h2 => h2 (hall e he), e, h1.1, rfl⟩
  · rintro ⟨h1, e, he, rfl⟩
    exact ⟨e, (h e).2 ⟨he, .inr h1⟩, rfl⟩
theorem elL_0 (el0 : List (Int × Nat)) (ks : List Int) : elL el0 [] ks el0 := fun e => ⟨fun h => ⟨h, .inl List.not_mem_nil⟩, And.left⟩
theorem flat_set_at (tc : List (Option (Nat × List Int))) {t b : Nat} {k1 : List Int} (h : t < tc.length) : (flat encO (tc.set t (some (b, k1))))[t * 1]? = some (.map (some b)) :=
  flat_get (off := 0) encO_len (List.getElem?_set_self h) rfl
theorem flat_set_same {tc : List (Option (Nat × List Int))} {t b : Nat} {k1 : List Int} (ht : t < tc.length) (h : (flat encO tc)[t * 1]? = some (.map (some b))) : flat encO (tc.set t (some (b, k1))) = flat encO tc := by
  have h1 : tc[t]? = some tc[t] := List.getElem?_eq_getElem ht
  have h2 : (flat encO tc)[t * 1]? = some (mvO tc[t]) := flat_get (off := 0) encO_len h1 (by rw [encO_eq]; rfl)
  rw [h] at h2
  have h3 : encO (some (b, k1)) = encO tc[t] := by
    rw [encO_eq, encO_eq, ← Option.some.inj h2]
    rfl
  unfold Fw.flat
  rw [List.flatMap_def, List.flatMap_def, List.map_set, h3]
  congr 1
  exact set_same (by rw [List.getElem?_map, h1]; rfl)
theorem mvO_n : mvO none = .map none := rfl
theorem mvO_s (b : Nat) (ks : List Int) : mvO (some (b, ks)) = .map (some b) := rfl
theorem sko_s (b : Nat) (ks : List Int) : sko (some (b, ks)) = sk b ks := rfl
theorem sko_sets (bs : List (Option (Nat × List Int))) (j b : Nat) (ks : List Int) : (bs.map sko).set j (sk b ks) = (bs.set j (some (b, ks))).map sko := by rw [List.map_set]; rfl
theorem mset_a {k1 k2 ks : List Int} (h : ∀ x, x ∈ k1 ↔ x ∈ ks) (x : Int) : x ∈ k1 ↔ x ∈ ks ∧ ((none : Option (Nat × List Int)) = none ∨ x ∈ k2) := by
  rw [h]
  exact ⟨fun h => ⟨h, .inl rfl⟩, And.left⟩
set_option maxRecDepth 10000 attribute [local irreducible] Code.wp wpList Calls Ex Op1 sat bat blk cb own Go.Fw.mp Go.Fw.mpO Go.Fw.mpI Go.Fw.mpE Go.Fw.itr HS Rd Ret wkD Hp Cl Cls Exit.then Exit.inBlock Exit.noGoto bodyPost Go.Fw.flat wk2 Go.Fw.all Go.Fw.owns wpOp
attribute [local irreducible] sk mpK sko mvO entK

set_option maxHeartbeats 4000000 in
theorem meet_spec (w0 w : World) (H : List It) (c : Ck) (bC bW t : Nat) (p : Int) (ks : List Int) (tc th : List (Option (Nat × List Int))) (st : Option (Nat × List Int))
    (hH : HS w0 noM (cb bC 112 (encC c p) :: own 109 1 c.oT c.nT c.cT (flat encO (tc)) :: all (th.map sko) :: sk bW ks :: H) w) (hn : c.nT = th.length) (hn2 : tc.length = th.length) (ht : t < th.length) (hst : th[t]? = some st) (hc : (flat encO tc)[t * 1]? = some (mvO st)) :
    Ret Tryz.prog 64 #[.pointer (some (bat bC 0)), .int .i64 t, .map (some bW)] w (fun v w' => ∃ b' ks', (∀ x, x ∈ ks' ↔ x ∈ ks ∧ (st = none ∨ x ∈ kso st)) ∧
      HS w0 noM (cb bC 112 (encC c p) :: own 109 1 c.oT c.nT c.cT (flat encO (tc.set t (some (b', ks')))) :: all ((th.set t (some (b', ks'))).map sko) :: sk bW ks :: H) w') := by
  have hspT : Sp c.oT c.nT := hH.own_sp (T := 109) (.tail _ (.head _))
  have htm : t < (th.map sko).length := by rw [List.length_map]; exact ht
  have hsm : (th.map sko)[t]? = some (sko st) := by rw [List.getElem?_map, hst]; rfl
  have hH1 := (hH.up 2 rfl).openAt hsm
  clear hH
  dsimp only [List.eraseIdx_cons_succ, List.eraseIdx_cons_zero] at hH1
  rcases st with _ | ⟨b0, k0⟩
  · rw [mvO_n] at hc
    have hH := hH1.tail
    clear hH1
    (refine enter (N := 61) Tryz.func64 rfl Tryz.ntmps64 rfl ?_; intro a hA; dsimp only [sl0, Nat.reduceAdd] at hA)
    repeat' (first | ((first | apply st_ex hA hH rfl rfl (by decide) | apply dr_ex hA rfl rfl rfl (by decide) | apply dr_exp hA rfl rfl rfl (by decide) | apply dr_ex3 hA hH rfl rfl rfl (by decide)); (first | (apply ex_eqlMapT; rfl; rfl) | (apply ex_indexAddr_nat; rfl; rfl; omega; exact hspT) | (apply ex_load; rfl; apply cl_own (T := 109); exact MEMT; exact hc)); clear hA a; intro a hA) | (refine QT ?_; clear hA a; intro a hA) | (refine CT ?_ <;> repeat' refine CT ?_))
    (refine st_op hA rfl rfl (by decide) (op_makeMapK hH) ?_; clear hA hH; rintro _ w ⟨b', rfl, hH⟩ a hA)
    have htb : t * 1 < tc.length := by omega
    repeat' (first | ((first | apply st_ex hA hH rfl rfl (by decide) | apply dr_ex hA rfl rfl rfl (by decide) | apply dr_exp hA rfl rfl rfl (by decide) | apply dr_ex3 hA hH rfl rfl rfl (by decide)); (first | (apply ex_indexAddr_nat; rfl; rfl; omega; exact hspT)); clear hA a; intro a hA) | (refine QT ?_; clear hA a; intro a hA) | (apply st_op0 hA rfl rfl; apply op_set1 (enc := encO) (y0 := some (b', [])); rfl; rfl; rfl; rfl; exact encO_len; exact hH; (repeat constructor); exact htb; clear hH; rintro _ w hH) | (refine CT ?_ <;> repeat' refine CT ?_))
    rw [Nat.mul_one] at hH
    have hv := flat_set_at tc (b := b') (k1 := []) (show t < tc.length by omega)
    have hsk : sk bW ks ∈ sk b' [] :: all ((th.map sko).eraseIdx t) :: cb bC 112 (encC c p) :: own 109 1 c.oT c.nT c.cT (flat encO (tc.set t (some (b', [])))) :: sk bW ks :: H := by exact MEMT
    obtain ⟨el, clock, hel, hok, hop⟩ := hH.openK hsk
    replace hH := hop _ (by (repeat constructor))
    clear hop hsk
    (refine st_op hA rfl rfl (by decide) (op_rangeK rfl hH (by exact MEMT)) ?_; clear hA hH; rintro _ w ⟨r, rfl, hH⟩ a hA)
    repeat' (first | (refine QT ?_; clear hA a; intro a hA) | (refine CT ?_ <;> repeat' refine CT ?_))
    refine wp_lpk (S := List (Int × Nat)) (fun dn a w => ∃ ks', (dn.Nodup ∧ (∀ e ∈ dn, e ∈ el) ∧ ∀ x, x ∈ ks' ↔ x ∈ dn.map (·.1)) ∧ HS w0 noM (sk b' ks' :: itr r bW clock (dn.map (·.2)) :: mpK bW el clock :: cb bC 112 (encC c p) :: own 109 1 c.oT c.nT c.cT (flat encO (tc.set t (some (b', [])))) :: all ((th.map sko).eraseIdx t) :: H) w ∧
        Sl 61 [(24, .pointer (some (bat r 0))), (0, .pointer (some (bat bC 0))), (1, .int .i64 t)] a) (fun dn => el.length - dn.length)
      (fun a w => ∃ ks', (∀ x, x ∈ ks' ↔ x ∈ ks) ∧ HS w0 noM (sk b' ks' :: sk bW ks :: cb bC 112 (encC c p) :: own 109 1 c.oT c.nT c.cT (flat encO (tc.set t (some (b', [])))) :: all ((th.map sko).eraseIdx t) :: H) w ∧ Sl 61 [] a) [] ⟨[], ⟨List.nodup_nil, fun e he => absurd he List.not_mem_nil, fun x => Iff.rfl⟩, hH.perm (by (repeat (first | exact List.Perm.refl _ | exact List.Perm.nil | refine perm_pick 0 rfl ?_ | refine perm_pick 1 rfl ?_ | refine perm_pick 2 rfl ?_ | refine perm_pick 3 rfl ?_ | refine perm_pick 4 rfl ?_ | refine perm_pick 5 rfl ?_ | refine perm_pick 6 rfl ?_ | refine perm_pick 7 rfl ?_ | refine perm_pick 8 rfl ?_ | refine perm_pick 9 rfl ?_ | refine perm_pick 10 rfl ?_ | refine perm_pick 11 rfl ?_))), (hA.sub (by (repeat (first | exact trivial | refine ⟨rfl, ?_⟩)); first | done | fail "sub"))⟩ ?_ ?_
    · clear hA hH
      rintro dn a w ⟨ks', ⟨hdn, hd, hks⟩, hH, hA⟩
      repeat' (first | (refine QT ?_; clear hA a; intro a hA) | (refine CT ?_ <;> repeat' refine CT ?_))
      refine st_op hA rfl rfl (by decide) (op_nextK rfl hH (by exact MEMT) (by exact MEMT) hok hd) ?_
      clear hA
      rintro _ w2 (⟨hall, rfl, hH⟩ | ⟨e, he, hs, rfl, hup⟩) a hA
      · repeat' (first | (refine QT ?_; clear hA a; intro a hA) | (refine CT ?_ <;> repeat' refine CT ?_))
        replace hH := hH.shutK (b := bW) hok (by (repeat constructor))
        rw [hel] at hH
        exact ⟨ks', fun x => (hks x).trans (dn_mem hel hd hall x), hH.rm 1, (hA.sub (by (repeat (first | exact trivial | refine ⟨rfl, ?_⟩)); first | done | fail "sub"))⟩
      · have hlt := done_lt hdn hd he hs
        clear hH
        have hH := hup _ (by (repeat constructor))
        clear hup
        have ha := dn_add (ks := []) (ks' := ks') hdn hd he hs (fun x => by rw [hks]; simp)
        repeat' (first | ((first | apply st_ex hA hH rfl rfl (by decide) | apply dr_ex hA rfl rfl rfl (by decide) | apply dr_exp hA rfl rfl rfl (by decide) | apply dr_ex3 hA hH rfl rfl rfl (by decide)); (first | (apply ex_entryK; rfl; exact MEMT; exact MEMT; exact hok; exact he) | (apply ex_indexAddr_nat; rfl; rfl; omega; exact hspT) | (apply ex_load; rfl; apply cl_own (T := 109); exact MEMT; exact hv)); clear hA a; intro a hA) | (refine QT ?_; clear hA a; intro a hA) | (apply st_op0 hA rfl rfl; apply op_addK; rfl; rfl; rfl; exact hH; (repeat constructor); clear hH; rintro _ w hH) | (refine CT ?_ <;> repeat' refine CT ?_))
        have hl : (dn ++ [e]).length = dn.length + 1 := by rw [List.length_append]; rfl
        exact ⟨dn ++ [e], ⟨_, ⟨ha.1, ha.2.1, fun x => by rw [ha.2.2]; simp⟩, hH, (hA.sub (by (repeat (first | exact trivial | refine ⟨rfl, ?_⟩)); first | done | fail "sub"))⟩, by omega⟩
    clear hA hH
    rintro a w ⟨ks', hks, hH, hA⟩
    repeat' (first | (refine QT ?_; clear hA a; intro a hA) | (refine CT ?_ <;> repeat' refine CT ?_))
    refine rt0 (.inl rfl) rfl hA ⟨b', ks', mset_a hks, ?_⟩
    rw [flat_set_ids tc t b' ks' []]
    have hH2 := (hH.perm (H' := sk b' ks' :: all ((th.map sko).eraseIdx t) :: cb bC 112 (encC c p) :: own 109 1 c.oT c.nT c.cT (flat encO (tc.set t (some (b', [])))) :: sk bW ks :: H) (by (repeat (first | exact List.Perm.refl _ | exact List.Perm.nil | refine perm_pick 0 rfl ?_ | refine perm_pick 1 rfl ?_ | refine perm_pick 2 rfl ?_ | refine perm_pick 3 rfl ?_ | refine perm_pick 4 rfl ?_ | refine perm_pick 5 rfl ?_ | refine perm_pick 6 rfl ?_ | refine perm_pick 7 rfl ?_ | refine perm_pick 8 rfl ?_ | refine perm_pick 9 rfl ?_ | refine perm_pick 10 rfl ?_ | refine perm_pick 11 rfl ?_)))).shutAt htm
    rw [sko_sets] at hH2
    exact hH2.perm (by (repeat (first | exact List.Perm.refl _ | exact List.Perm.nil | refine perm_pick 0 rfl ?_ | refine perm_pick 1 rfl ?_ | refine perm_pick 2 rfl ?_ | refine perm_pick 3 rfl ?_ | refine perm_pick 4 rfl ?_ | refine perm_pick 5 rfl ?_ | refine perm_pick 6 rfl ?_ | refine perm_pick 7 rfl ?_ | refine perm_pick 8 rfl ?_ | refine perm_pick 9 rfl ?_ | refine perm_pick 10 rfl ?_ | refine perm_pick 11 rfl ?_)))
  · rw [mvO_s] at hc
    rw [sko_s] at hH1
    have hH := hH1
    clear hH1
    have hfs := fun k1 => flat_set_same (k1 := k1) (show t < tc.length by omega) hc
    (refine enter (N := 61) Tryz.func64 rfl Tryz.ntmps64 rfl ?_; intro a hA; dsimp only [sl0, Nat.reduceAdd] at hA)
    repeat' (first | ((first | apply st_ex hA hH rfl rfl (by decide) | apply dr_ex hA rfl rfl rfl (by decide) | apply dr_exp hA rfl rfl rfl (by decide) | apply dr_ex3 hA hH rfl rfl rfl (by decide)); (first | (apply ex_eqlMapF; rfl; rfl) | (apply ex_indexAddr_nat; rfl; rfl; omega; exact hspT) | (apply ex_load; rfl; apply cl_own (T := 109); exact MEMT; exact hc)); clear hA a; intro a hA) | (refine QT ?_; clear hA a; intro a hA) | (refine CT ?_ <;> repeat' refine CT ?_))
    obtain ⟨el0, clock, hel, hok0, hop⟩ := hH.openK (b := b0) (ks := k0) (.head _)
    replace hH := hop _ (by (repeat constructor))
    clear hop
    (refine st_op hA rfl rfl (by decide) (op_rangeK rfl hH (by exact MEMT)) ?_; clear hA hH; rintro _ w ⟨r, rfl, hH⟩ a hA)
    repeat' (first | (refine QT ?_; clear hA a; intro a hA) | (refine CT ?_ <;> repeat' refine CT ?_))
    refine wp_lpk (S := List (Int × Nat)) (fun dn a w => ∃ el, (dn.Nodup ∧ (∀ e ∈ dn, e ∈ el0) ∧ elL el0 dn ks el ∧ ElK el clock) ∧ HS w0 noM (mpK b0 el clock :: itr r b0 clock (dn.map (·.2)) :: sk bW ks :: cb bC 112 (encC c p) :: own 109 1 c.oT c.nT c.cT (flat encO (tc)) :: all ((th.map sko).eraseIdx t) :: H) w ∧
        Sl 61 [(44, .pointer (some (bat r 0))), (0, .pointer (some (bat bC 0))), (1, .int .i64 t), (2, .map (some bW))] a) (fun dn => el0.length - dn.length)
      (fun a w => ∃ ks', (∀ x, x ∈ ks' ↔ x ∈ ks ∧ x ∈ k0) ∧ HS w0 noM (sk b0 ks' :: sk bW ks :: cb bC 112 (encC c p) :: own 109 1 c.oT c.nT c.cT (flat encO (tc)) :: all ((th.map sko).eraseIdx t) :: H) w ∧ Sl 61 [] a) [] ⟨el0, ⟨List.nodup_nil, fun e he => absurd he List.not_mem_nil, elL_0 _ _, hok0⟩, hH.perm (by (repeat (first | exact List.Perm.refl _ | exact List.Perm.nil | refine perm_pick 0 rfl ?_ | refine perm_pick 1 rfl ?_ | refine perm_pick 2 rfl ?_ | refine perm_pick 3 rfl ?_ | refine perm_pick 4 rfl ?_ | refine perm_pick 5 rfl ?_ | refine perm_pick 6 rfl ?_ | refine perm_pick 7 rfl ?_ | refine perm_pick 8 rfl ?_ | refine perm_pick 9 rfl ?_ | refine perm_pick 10 rfl ?_ | refine perm_pick 11 rfl ?_))), (hA.sub (by (repeat (first | exact trivial | refine ⟨rfl, ?_⟩)); first | done | fail "sub"))⟩ ?_ ?_
    · clear hA hH
      rintro dn a w ⟨el, ⟨hdn, hd, hll, hok⟩, hH, hA⟩
      repeat' (first | (refine QT ?_; clear hA a; intro a hA) | (refine CT ?_ <;> repeat' refine CT ?_))
      refine st_op hA rfl rfl (by decide) (op_nextKd rfl hH (by exact MEMT) (by exact MEMT) hok hok0 (fun e he => ((hll e).1 he).1) hd) ?_
      clear hA
      rintro _ w2 (⟨hall, rfl, hH⟩ | ⟨e, he, hs, rfl, hup⟩) a hA
      · repeat' (first | (refine QT ?_; clear hA a; intro a hA) | (refine CT ?_ <;> repeat' refine CT ?_))
        replace hH := hH.shutK (b := b0) hok (by (repeat constructor))
        exact ⟨_, elL_all hll hel hall, hH.rm 1, (hA.sub (by (repeat (first | exact trivial | refine ⟨rfl, ?_⟩)); first | done | fail "sub"))⟩
      · have he0 := ((hll e).1 he).1
        have hlt := done_lt hdn hd he0 hs
        clear hH
        have hH := hup _ (by (repeat constructor))
        clear hup
        have ha := dn_add (ks := []) (ks' := dn.map (·.1)) hdn hd he0 hs (fun x => by simp)
        have hl : (dn ++ [e]).length = dn.length + 1 := by rw [List.length_append]; rfl
        repeat' (first | ((first | apply st_ex hA hH rfl rfl (by decide) | apply dr_ex hA rfl rfl rfl (by decide) | apply dr_exp hA rfl rfl rfl (by decide) | apply dr_ex3 hA hH rfl rfl rfl (by decide)); (first | (apply ex_entryK; rfl; exact MEMT; exact MEMT; exact hok; exact he) | (apply ex_hasK; rfl; rfl; exact MEMT) | (apply ex_indexAddr_nat; rfl; rfl; omega; exact hspT) | (apply ex_load; rfl; apply cl_own (T := 109); exact MEMT; exact hc)); clear hA a; intro a hA) | (refine QT ?_; clear hA a; intro a hA) | (first | (apply st_op0 hA rfl rfl; apply op_delEl; rfl; rfl; exact hH; exact hok; (repeat constructor); clear hH; rintro _ w ⟨_, hH⟩) | (apply st_op hA rfl rfl (by decide); apply op_delEl; rfl; rfl; exact hH; exact hok; (repeat constructor); clear hA hH; rintro _ w ⟨rfl, hH⟩ a hA)) | ((first | refine CT ?_ | (refine DT ?_ ?_ <;> intro hc <;> try (exfalso; omega))) <;> repeat' refine CT ?_))
        · have hni : ¬ e.1 ∈ ks := by assumption
          exact ⟨dn ++ [e], ⟨_, ⟨ha.1, ha.2.1, elL_del hll hok0.keys he0 hni, elL_ok hll hok0 hok _⟩, hH, (hA.sub (by (repeat (first | exact trivial | refine ⟨rfl, ?_⟩)); first | done | fail "sub"))⟩, by omega⟩
        · have hi : e.1 ∈ ks := by assumption
          exact ⟨dn ++ [e], ⟨_, ⟨ha.1, ha.2.1, elL_keep hll hi, hok⟩, hH, (hA.sub (by (repeat (first | exact trivial | refine ⟨rfl, ?_⟩)); first | done | fail "sub"))⟩, by omega⟩
    clear hA hH
    rintro a w ⟨ks', hks, hH, hA⟩
    repeat' (first | (refine QT ?_; clear hA a; intro a hA))
    refine rt0 (.inr rfl) rfl hA ⟨b0, ks', fun x => (hks x).trans (and_congr_right fun _ => ⟨.inr, fun h => h.resolve_left (fun h => by cases h)⟩), ?_⟩
    rw [hfs ks']
    have hH2 := (hH.perm (H' := sk b0 ks' :: all ((th.map sko).eraseIdx t) :: cb bC 112 (encC c p) :: own 109 1 c.oT c.nT c.cT (flat encO (tc)) :: sk bW ks :: H) (by (repeat (first | exact List.Perm.refl _ | exact List.Perm.nil | refine perm_pick 0 rfl ?_ | refine perm_pick 1 rfl ?_ | refine perm_pick 2 rfl ?_ | refine perm_pick 3 rfl ?_ | refine perm_pick 4 rfl ?_ | refine perm_pick 5 rfl ?_ | refine perm_pick 6 rfl ?_ | refine perm_pick 7 rfl ?_ | refine perm_pick 8 rfl ?_ | refine perm_pick 9 rfl ?_ | refine perm_pick 10 rfl ?_ | refine perm_pick 11 rfl ?_)))).shutAt htm
    rw [sko_sets] at hH2
    exact hH2.perm (by (repeat (first | exact List.Perm.refl _ | exact List.Perm.nil | refine perm_pick 0 rfl ?_ | refine perm_pick 1 rfl ?_ | refine perm_pick 2 rfl ?_ | refine perm_pick 3 rfl ?_ | refine perm_pick 4 rfl ?_ | refine perm_pick 5 rfl ?_ | refine perm_pick 6 rfl ?_ | refine perm_pick 7 rfl ?_ | refine perm_pick 8 rfl ?_ | refine perm_pick 9 rfl ?_ | refine perm_pick 10 rfl ?_ | refine perm_pick 11 rfl ?_)))
end Go.Proofs.YtenlcdokaadobaaGreatDoor
