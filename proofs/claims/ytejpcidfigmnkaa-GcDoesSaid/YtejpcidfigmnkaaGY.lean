/-
  The walk over the document's Step, where something is grey. Conditions: none.
-/
import Derived.Test.YtejpcidfigmnkaaGX
namespace Go.Proofs.Ytejpcidfigmnkaa
open Go Go.Fw
set_option linter.unusedVariables false
theorem last_min {l g : List Nat} {a : Nat} (h : l.Pairwise (· > ·)) (hl : l = g ++ [a]) : ∀ y ∈ l, a ≤ y := by
  subst hl
  rw [List.pairwise_append] at h
  intro y hy
  rcases List.mem_append.1 hy with hy | hy
  · have := h.2.2 y hy a (by simp)
    omega
  · rw [List.mem_singleton.1 hy]
    exact Nat.le_refl _
theorem Rd.cls {w0 : World} {M : Nat → Prop} {H : List It} {j : Nat} {o : Option Addr} {xs vs : List Value} (hr : ∀ w', HS w0 M H w' → Rd w' o xs) (hv : ∀ i v, vs[i]? = some v → xs[j + i]? = some v) : Cls (HS w0 M H) (sat o j) vs := by
  intro w hH i v hi
  rw [sat_add]
  exact (hr w hH).2 _ v (hv i v hi)
theorem mark_is {N : Nat} {s : GS} (hok : GOk N s) {o : Ob} (ho : o ∈ s.L) : markG s o.a = if o.kind = 1 then blackG s o.a else o.fs.foldl shadeG (blackG s o.a) := by
  unfold markG
  rw [(fsA_at hok.lay ho).1, (fsA_at hok.lay ho).2]
theorem take_fold {l : List Int} {i : Nat} {x : Int} (h : l[i]? = some x) (s : GS) : (l.take (i + 1)).foldl shadeG s = shadeG ((l.take i).foldl shadeG s) x := by
  rw [List.take_add_one, h]
  simp
theorem black_ph (s : GS) (a : Nat) : (blackG s a).ph = s.ph ∧ (blackG s a).pl = s.pl ∧ (blackG s a).L = s.L := ⟨rfl, rfl, rfl⟩
set_option maxRecDepth 10000 attribute [local irreducible] Code.wp wpList Calls Ex Op1 sat bat blk cb own Go.Fw.mp Go.Fw.mpO Go.Fw.mpI Go.Fw.mpE Go.Fw.itr HS Rd Ret wkD Hp Cl Cls Exit.then Exit.inBlock Exit.noGoto bodyPost Go.Fw.flat wk2 Go.Fw.all Go.Fw.owns wpOp
attribute [local irreducible] hdA gaps isA nextA allocA freeA sizeA kindA setA getA whiteZ numW addrW shadeG gcI hpI stepG beginG writeG allocG mu rfI inL findI objA reachA wo gdI markG blackG

set_option maxHeartbeats 4000000 in
theorem dmark_spec (w0 : World) (M : Nat → Prop) (bd b2 N : Nat) (s : GS) (q2 : RQ) (a0 : Nat) (hok : GOk N s) (h0 : s.ph = 1) (ha : s.gr.getLast? = some a0) (hrq : ∀ H' w', HS w0 M H' w' → RfQ w' b2 N s.L q2) (hH : HS w0 M [gdI bd b2 s] w0) :
    Ret Try.prog 19 #[.pointer (some (bat bd 0))] w0 (fun v w => v = .bool false ∧ HS w0 M [gdI bd b2 (markG s a0)] w) := by
  have hn2 := hok.n2
  have hlen := hok.lay.len
  have hrf : ∀ H' w', HS w0 M H' w' → RfR w' b2 N s.L := fun H' w' h => ⟨q2, hrq _ _ h⟩
  obtain ⟨hokB, hc1, hcB⟩ := black_ok hok h0 ha
  obtain ⟨g, hg⟩ := List.getLast?_eq_some_iff.1 ha
  have hmin := last_min hok.grs hg
  have hO := hok.obj a0 (by omega)
  have hlt0 := hok.lt hO
  obtain ⟨j, o, hj, hLj, rfl, ho⟩ := find_is hok.lay hO
  have hm := mark_is hok ho
  have hq0 := hrq _ _ hH
  obtain ⟨d, cd, hd1, hrd0, ca, ck, cf⟩ := hq0.at hLj
  have hkd := hok.kd o ho
  have hspq := hq0.sp
  have hjl := (List.getElem?_eq_some_iff.1 hLj).1
  have hspd : Sp d o.fs.length := hrd0.sp (sz := 1) (flat_length encW_len o.fs) (by omega)
  have hrd : ∀ H' w', HS w0 M H' w' → Rd w' d (flat encW o.fs) := fun H' w' h => by
    obtain ⟨d', c', h1, h2, _⟩ := (hrq _ _ h).at hLj
    rw [hd1] at h1
    simp only [Option.some.injEq, Prod.mk.injEq] at h1
    rw [h1.1]
    exact h2
  have hvs := flat_all encO_len (zip_at hLj hd1)
  obtain ⟨q, hd, hH2⟩ := gd_open hH
  clear hH
  have hH := hH2
  clear hH2
  unfold gdQ at hH
  have hGle := hd.Gle hok
  have hBle := hd.Ble hok
  have hgm : o.a ∈ q.G := (hd.mG _).2 hc1
  have hGpos : 0 < q.G.length := List.length_pos_of_mem hgm
  have hminG : ∀ y ∈ q.G, o.a ≤ y := fun y hy => hmin y ((hok.grm y).2 ((hd.mG y).1 hy))
  obtain ⟨g0, hg0⟩ : ∃ x, q.G[0]? = some x := ⟨_, List.getElem?_eq_getElem hGpos⟩
  have hcg0 : (flat encN q.G)[0]? = some (.int .i64 (g0 : Int)) := encN_at hg0
  have hspG : Sp q.oG q.G.length := hH.own_sp (o := q.oG) (by exact MEMT)
  (refine enter (N := 158) Try.func19 rfl Try.ntmps19 rfl ?_; intro a hA; dsimp only [sl0, Nat.reduceAdd] at hA)
  repeat' (first | (first | (refine GT ?_ ?_ <;> intro hg <;> clear hA a <;> intro a hA <;> (first | exact FA | replace hg := of_decide_eq_true hg | replace hg := of_decide_eq_false hg | skip)) | (refine QT ?_; clear hA a; intro a hA) | (first | (refine BT ?_; clear hA hH; rintro _ w ⟨bN, rfl, hH⟩ a hA) | (refine LT ?_; clear hA hH; rintro _ w ⟨oN, rfl, hH⟩ a hA) | (refine AT ?_; clear hA; rintro _ w ⟨oN, cN, rfl, hH2⟩ a hA; clear hH; have hH := (hH2 _ (by (repeat constructor))).tail; clear hH2) | (refine S0T ?_; clear hH; rintro _ w hH) )) | ((first | refine CT ?_ | (refine DT ?_ ?_ <;> intro hc <;> try (exfalso; omega))) <;> repeat' refine CT ?_) | (first | (refine DSK ?_; clear hA a; intro a hA) | (first | (refine DLT ?_; clear hA hH; rintro _ w ⟨oN, rfl, hH⟩; refine ⟨STT, ?_⟩; intro a hA) | (refine DAT ?_; clear hA; rintro _ w ⟨oN, cN, rfl, hH2⟩; clear hH; have hH := (hH2 _ (by (repeat constructor))).tail; clear hH2; refine ⟨STT, ?_⟩; intro a hA))) )
  rw [List.append_nil] at hH
  refine wp_lpk (S := Nat × Nat) (fun p a w => (p.1 ≤ q.G.length ∧ p.2 ∈ q.G ∧ ∀ (k y : Nat), k < p.1 → q.G[k]? = some y → p.2 ≤ y) ∧ HS w0 M (gdQ bd b2 s q) w ∧ Sl 158 [(0, .pointer (some (bat bd 0))), (3, .int .i64 (p.2 : Nat)), (4, .int .i64 p.1)] a) (fun p => q.G.length - p.1)
    (fun a w => HS w0 M (gdQ bd b2 s q) w ∧ Sl 158 [(0, .pointer (some (bat bd 0))), (3, .int .i64 (o.a : Nat))] a) (0, g0) ⟨⟨Nat.zero_le _, List.mem_of_getElem? hg0, fun k y hk => absurd hk (Nat.not_lt_zero _)⟩, hH, (hA.sub (by (repeat (first | exact trivial | refine ⟨rfl, ?_⟩))))⟩ ?_ ?_
  · clear hA hH
    rintro ⟨i, m⟩ a w ⟨⟨hi, hmm, hle⟩, hH, hA⟩
    dsimp only at hi hmm hle hH hA
    unfold gdQ at hH
    by_cases hlt : i < q.G.length
    rotate_left
    · have hma : m = o.a := Nat.le_antisymm (by obtain ⟨k, hk⟩ := List.getElem?_of_mem hgm; exact hle k _ (by have := (List.getElem?_eq_some_iff.1 hk).1; omega) hk) (hminG m hmm)
      subst hma
      repeat' (first | (first | (refine GT ?_ ?_ <;> intro hg <;> clear hA a <;> intro a hA <;> (first | exact FA | replace hg := of_decide_eq_true hg | replace hg := of_decide_eq_false hg | skip)) | (refine QT ?_; clear hA a; intro a hA) | (first | (refine BT ?_; clear hA hH; rintro _ w ⟨bN, rfl, hH⟩ a hA) | (refine LT ?_; clear hA hH; rintro _ w ⟨oN, rfl, hH⟩ a hA) | (refine AT ?_; clear hA; rintro _ w ⟨oN, cN, rfl, hH2⟩ a hA; clear hH; have hH := (hH2 _ (by (repeat constructor))).tail; clear hH2) | (refine S0T ?_; clear hH; rintro _ w hH) )) | ((first | refine CT ?_ | (refine DT ?_ ?_ <;> intro hc <;> try (exfalso; omega))) <;> repeat' refine CT ?_) | (first | (refine DSK ?_; clear hA a; intro a hA) | (first | (refine DLT ?_; clear hA hH; rintro _ w ⟨oN, rfl, hH⟩; refine ⟨STT, ?_⟩; intro a hA) | (refine DAT ?_; clear hA; rintro _ w ⟨oN, cN, rfl, hH2⟩; clear hH; have hH := (hH2 _ (by (repeat constructor))).tail; clear hH2; refine ⟨STT, ?_⟩; intro a hA))) )
      exact ⟨hH, (hA.sub (by (repeat (first | exact trivial | refine ⟨rfl, ?_⟩))))⟩
    obtain ⟨y, hy⟩ : ∃ x, q.G[i]? = some x := ⟨_, List.getElem?_eq_getElem hlt⟩
    have hcy := encN_at hy
    have hym := List.mem_of_getElem? hy
    repeat' (first | (first | (refine GT ?_ ?_ <;> intro hg <;> clear hA a <;> intro a hA <;> (first | exact FA | replace hg := of_decide_eq_true hg | replace hg := of_decide_eq_false hg | skip)) | (refine QT ?_; clear hA a; intro a hA) | (first | (refine BT ?_; clear hA hH; rintro _ w ⟨bN, rfl, hH⟩ a hA) | (refine LT ?_; clear hA hH; rintro _ w ⟨oN, rfl, hH⟩ a hA) | (refine AT ?_; clear hA; rintro _ w ⟨oN, cN, rfl, hH2⟩ a hA; clear hH; have hH := (hH2 _ (by (repeat constructor))).tail; clear hH2) | (refine S0T ?_; clear hH; rintro _ w hH) )) | ((first | refine CT ?_ | (refine DT ?_ ?_ <;> intro hc <;> try (exfalso; omega))) <;> repeat' refine CT ?_) | (first | (refine DSK ?_; clear hA a; intro a hA) | (first | (refine DLT ?_; clear hA hH; rintro _ w ⟨oN, rfl, hH⟩; refine ⟨STT, ?_⟩; intro a hA) | (refine DAT ?_; clear hA; rintro _ w ⟨oN, cN, rfl, hH2⟩; clear hH; have hH := (hH2 _ (by (repeat constructor))).tail; clear hH2; refine ⟨STT, ?_⟩; intro a hA))) )
    · refine ⟨(i + 1, y), ⟨⟨hlt, hym, fun k z hk hz => ?_⟩, hH, (hA.sub (by (repeat (first | exact trivial | refine ⟨rfl, ?_⟩))))⟩, by show q.G.length - (i + 1) < q.G.length - i; omega⟩
      dsimp only at hk ⊢
      rcases Nat.lt_or_ge k i with h | h
      · have := hle k z h hz; omega
      · obtain rfl : k = i := by omega
        rw [hy] at hz
        obtain rfl := Option.some.inj hz
        exact Nat.le_refl _
    · refine ⟨(i + 1, m), ⟨⟨hlt, hmm, fun k z hk hz => ?_⟩, hH, (hA.sub (by (repeat (first | exact trivial | refine ⟨rfl, ?_⟩))))⟩, by show q.G.length - (i + 1) < q.G.length - i; omega⟩
      dsimp only at hk ⊢
      rcases Nat.lt_or_ge k i with h | h
      · exact hle k z h hz
      · obtain rfl : k = i := by omega
        rw [hy] at hz
        obtain rfl := Option.some.inj hz
        omega
  clear hA hH
  rintro a w ⟨hH, hA⟩
  unfold gdQ at hH
  have hdB := hd.black hok hc1 hcB
  have hwl := @wo_le q.G (o.a : Int)
  have hl1 : q.B.length + 1 = (q.B ++ [o.a]).length := by rw [List.length_append]; rfl
  repeat' (first | (first | (refine GT ?_ ?_ <;> intro hg <;> clear hA a <;> intro a hA <;> (first | exact FA | replace hg := of_decide_eq_true hg | replace hg := of_decide_eq_false hg | skip)) | (refine QT ?_; clear hA a; intro a hA) | (first | (refine BT ?_; clear hA hH; rintro _ w ⟨bN, rfl, hH⟩ a hA) | (refine LT ?_; clear hA hH; rintro _ w ⟨oN, rfl, hH⟩ a hA) | (refine AT ?_; clear hA; rintro _ w ⟨oN, cN, rfl, hH2⟩ a hA; clear hH; have hH := (hH2 _ (by (repeat constructor))).tail; clear hH2) | (refine S0T ?_; clear hH; rintro _ w hH) )) | ((first | refine CT ?_ | (refine DT ?_ ?_ <;> intro hc <;> try (exfalso; omega))) <;> repeat' refine CT ?_) | (first | (refine DSK ?_; clear hA a; intro a hA) | (first | (refine DLT ?_; clear hA hH; rintro _ w ⟨oN, rfl, hH⟩; refine ⟨STT, ?_⟩; intro a hA) | (refine DAT ?_; clear hA; rintro _ w ⟨oN, cN, rfl, hH2⟩; clear hH; have hH := (hH2 _ (by (repeat constructor))).tail; clear hH2; refine ⟨STT, ?_⟩; intro a hA))) )
  (refine st_op hA rfl rfl (by decide) (op_call rfl rfl rfl (without_spec _ q.oG q.cG q.G (o.a : Int) (hH.own_rd (by exact MEMT)) (by omega))) ?_; clear hA; rintro _ w ⟨oW, cW, rfl, hj⟩ a hA; replace hH := hH.join hj; clear hj)
  repeat' (first | (first | (refine GT ?_ ?_ <;> intro hg <;> clear hA a <;> intro a hA <;> (first | exact FA | replace hg := of_decide_eq_true hg | replace hg := of_decide_eq_false hg | skip)) | (refine QT ?_; clear hA a; intro a hA) | (first | (refine BT ?_; clear hA hH; rintro _ w ⟨bN, rfl, hH⟩ a hA) | (refine LT ?_; clear hA hH; rintro _ w ⟨oN, rfl, hH⟩ a hA) | (refine AT ?_; clear hA; rintro _ w ⟨oN, cN, rfl, hH2⟩ a hA; clear hH; have hH := (hH2 _ (by (repeat constructor))).tail; clear hH2) | (refine S0T ?_; clear hH; rintro _ w hH) | (apply st_op0 hA rfl rfl; apply op_store_fld; rfl; rfl; rfl; exact hH; (repeat constructor); (repeat rfl); clear hH; rintro _ w hH))) | ((first | refine CT ?_ | (refine DT ?_ ?_ <;> intro hc <;> try (exfalso; omega))) <;> repeat' refine CT ?_) | (first | (refine DSK ?_; clear hA a; intro a hA) | (first | (refine DLT ?_; clear hA hH; rintro _ w ⟨oN, rfl, hH⟩; refine ⟨STT, ?_⟩; intro a hA) | (refine DAT ?_; clear hA; rintro _ w ⟨oN, cN, rfl, hH2⟩; clear hH; have hH := (hH2 _ (by (repeat constructor))).tail; clear hH2; refine ⟨STT, ?_⟩; intro a hA))) )
  rw [snocN, hl1] at hH
  replace hH : HS w0 M [gdI bd b2 (blackG s o.a)] w := by
    refine gd_shut ⟨wo q.G (o.a : Int), q.B ++ [o.a], oW, cW, oN, cN⟩ hdB ?_
    unfold gdQ
    rw [(black_ph s o.a).1, (black_ph s o.a).2.1]
    exact HS.left (H2 := [own 3 1 q.oG q.G.length q.cG (flat encN q.G)]) (hH.perm (by (repeat (first | exact List.Perm.nil | refine perm_pick 0 rfl ?_ | refine perm_pick 1 rfl ?_ | refine perm_pick 2 rfl ?_ | refine perm_pick 3 rfl ?_ | refine perm_pick 4 rfl ?_ | refine perm_pick 5 rfl ?_ | refine perm_pick 6 rfl ?_ | refine perm_pick 7 rfl ?_ | refine perm_pick 8 rfl ?_ | refine perm_pick 9 rfl ?_ | refine perm_pick 10 rfl ?_ | refine perm_pick 11 rfl ?_))))
  have hsh : ∀ k, GOk N ((o.fs.take k).foldl shadeG (blackG s o.a)) ∧ ((o.fs.take k).foldl shadeG (blackG s o.a)).L = s.L := fun k => by
    obtain ⟨g1, g2, _⟩ := shades_ok (s := blackG s o.a) (by rw [(black_ph s o.a).1]; exact h0) hokB (o.fs.take k)
    exact ⟨g1, by rw [g2]; exact (black_ph s o.a).2.2⟩
  have hclL : ∀ H, Cl (HS w0 M H) (bat b2 1) (.slice q2.o s.L.length q2.c) := fun H => cl_of fun w h => (hrq _ _ h).c1
  have hclO : ∀ H, Cls (HS w0 M H) (sat q2.o (j * 3)) (encO (o, (d, o.fs.length, cd))) := fun H => Rd.cls (fun w h => (hrq _ _ h).rO) hvs
  refine wp_drawT (qs [0, 1, 2, 3, 4, 5, 6, 7, 8, 9, 10, 11] (.two 12 15 (.q 13 (.q 14 (.one 15 (.one 16 .nil)))) (.one 12 (.q 13 (.q 14 (.one 16 .nil)))))) (fun a w => ∃ bN, HS w0 M [cb bN 70 [.int .i64 o.a, .int .i64 o.kind, .slice d o.fs.length cd], gdI bd b2 (blackG s o.a)] w ∧ Sl 158 [(0, .pointer (some (bat bd 0))), (5, .pointer (some (bat bN 0)))] a) mixed (by decide +kernel) hH ?_ ?_
  · replace hH := hH.drew
    (repeat (apply dt_ex hA rfl rfl rfl (by decide); (first | exact EXT | exact EXT2 | (apply ex_load; rfl; exact dcl_h MEMT) | (apply ex_load; rfl; exact hclL _)); clear hA a; intro a hA))
    apply dt_two
    · (refine dt_op hA rfl rfl rfl (by decide) (op_call rfl rfl rfl (rfind_spec _ b2 N s.L _ (by omega) (hrf _ _ hH))) ?_; clear hA; rintro _ w ⟨rfl, hk⟩; replace hH := hH.keep hk; clear hk; refine ⟨(by first | exact hH | exact hH.tail), ?_⟩; intro a hA)
      rw [hj] at hA
      (repeat (apply dt_ex hA rfl rfl rfl (by decide); (first | exact EXT | exact EXT2 | exact ex_load_st (vs := encO (o, (d, o.fs.length, cd))) rfl rfl (hclO _)); clear hA a; intro a hA))
      (apply dt_op hA rfl rfl rfl (by decide); apply op_alloc; exact hH; clear hA hH; rintro _ w ⟨bN, rfl, hH⟩; refine ⟨hH.tail, ?_⟩; intro a hA)
      (apply dt_op0 hA rfl rfl rfl; (first | (apply op_store1; rfl; rfl; rfl; exact hH; (repeat constructor)) | (apply op_store_agg; rfl; rfl; exact hH; (repeat constructor); (repeat rfl))); clear hH; rintro _ w hH; refine ⟨hH.tail, ?_⟩; apply dt_nil)
      exact ⟨bN, hH, (hA.sub (by (repeat (first | exact trivial | refine ⟨rfl, ?_⟩))))⟩
    · (apply dt_op hA rfl rfl rfl (by decide); apply op_alloc; exact hH; clear hA hH; rintro _ w ⟨bN, rfl, hH⟩; refine ⟨hH.tail, ?_⟩; intro a hA)
      (refine dt_op hA rfl rfl rfl (by decide) (op_call rfl rfl rfl (rfind_spec _ b2 N s.L _ (by omega) (hrf _ _ hH))) ?_; clear hA; rintro _ w ⟨rfl, hk⟩; replace hH := hH.keep hk; clear hk; refine ⟨(by first | exact hH | exact hH.tail), ?_⟩; intro a hA)
      rw [hj] at hA
      (repeat (apply dt_ex hA rfl rfl rfl (by decide); (first | exact EXT | exact EXT2 | exact ex_load_st (vs := encO (o, (d, o.fs.length, cd))) rfl rfl (hclO _)); clear hA a; intro a hA))
      (apply dt_op0 hA rfl rfl rfl; (first | (apply op_store1; rfl; rfl; rfl; exact hH; (repeat constructor)) | (apply op_store_agg; rfl; rfl; exact hH; (repeat constructor); (repeat rfl))); clear hH; rintro _ w hH; refine ⟨hH.tail, ?_⟩; apply dt_nil)
      exact ⟨bN, hH, (hA.sub (by (repeat (first | exact trivial | refine ⟨rfl, ?_⟩))))⟩
  clear hA hH
  rintro a w ⟨bN, hH, hA⟩
  replace hH := hH.perm (.swap _ _ _)
  repeat' (first | (first | (refine GT ?_ ?_ <;> intro hg <;> clear hA a <;> intro a hA <;> (first | exact FA | replace hg := of_decide_eq_true hg | replace hg := of_decide_eq_false hg | skip)) | (refine QT ?_; clear hA a; intro a hA) | (first | (refine BT ?_; clear hA hH; rintro _ w ⟨bN, rfl, hH⟩ a hA) | (refine LT ?_; clear hA hH; rintro _ w ⟨oN, rfl, hH⟩ a hA) | (refine AT ?_; clear hA; rintro _ w ⟨oN, cN, rfl, hH2⟩ a hA; clear hH; have hH := (hH2 _ (by (repeat constructor))).tail; clear hH2) | (refine S0T ?_; clear hH; rintro _ w hH) )) | ((first | refine CT ?_ | (refine DT ?_ ?_ <;> intro hc <;> try (exfalso; omega))) <;> repeat' refine CT ?_) | (first | (refine DSK ?_; clear hA a; intro a hA) | (first | (refine DLT ?_; clear hA hH; rintro _ w ⟨oN, rfl, hH⟩; refine ⟨STT, ?_⟩; intro a hA) | (refine DAT ?_; clear hA; rintro _ w ⟨oN, cN, rfl, hH2⟩; clear hH; have hH := (hH2 _ (by (repeat constructor))).tail; clear hH2; refine ⟨STT, ?_⟩; intro a hA))) )
  refine wp_lpk (S := Nat) (fun k a w => (k ≤ o.fs.length ∧ (o.kind = 1 → k = 0)) ∧ HS w0 M [gdI bd b2 ((o.fs.take k).foldl shadeG (blackG s o.a)), cb bN 70 [.int .i64 o.a, .int .i64 o.kind, .slice d o.fs.length cd]] w ∧ Sl 158 [(0, .pointer (some (bat bd 0))), (5, .pointer (some (bat bN 0))), (6, .int .i64 k)] a) (fun k => o.fs.length - k)
    (fun a w => HS w0 M [gdI bd b2 (markG s o.a)] w ∧ Sl 158 [] a) 0 ⟨⟨Nat.zero_le _, fun _ => rfl⟩, hH, (hA.sub (by (repeat (first | exact trivial | refine ⟨rfl, ?_⟩))))⟩ ?_ ?_
  · clear hA hH
    rintro k a w ⟨⟨hk, hk1⟩, hH, hA⟩
    by_cases hkk : k < o.fs.length ∧ o.kind ≠ 1
    rotate_left
    · have hmk : markG s o.a = (o.fs.take k).foldl shadeG (blackG s o.a) := by
        rw [hm]
        split
        · rename_i h1; rw [hk1 h1]; rfl
        · rw [List.take_of_length_le (by omega)]
      rw [hmk]
      repeat' (first | (first | (refine GT ?_ ?_ <;> intro hg <;> clear hA a <;> intro a hA <;> (first | exact FA | replace hg := of_decide_eq_true hg | replace hg := of_decide_eq_false hg | skip)) | (refine QT ?_; clear hA a; intro a hA) | (first | (refine BT ?_; clear hA hH; rintro _ w ⟨bN, rfl, hH⟩ a hA) | (refine LT ?_; clear hA hH; rintro _ w ⟨oN, rfl, hH⟩ a hA) | (refine AT ?_; clear hA; rintro _ w ⟨oN, cN, rfl, hH2⟩ a hA; clear hH; have hH := (hH2 _ (by (repeat constructor))).tail; clear hH2) | (refine S0T ?_; clear hH; rintro _ w hH) )) | ((first | refine CT ?_ | (refine DT ?_ ?_ <;> intro hc <;> try (exfalso; omega))) <;> repeat' refine CT ?_) | (first | (refine DSK ?_; clear hA a; intro a hA) | (first | (refine DLT ?_; clear hA hH; rintro _ w ⟨oN, rfl, hH⟩; refine ⟨STT, ?_⟩; intro a hA) | (refine DAT ?_; clear hA; rintro _ w ⟨oN, cN, rfl, hH2⟩; clear hH; have hH := (hH2 _ (by (repeat constructor))).tail; clear hH2; refine ⟨STT, ?_⟩; intro a hA))) )
      all_goals exact ⟨hH.head, (hA.sub (by (repeat (first | exact trivial | refine ⟨rfl, ?_⟩))))⟩
    obtain ⟨hkl, hkn⟩ := hkk
    obtain ⟨x, hx⟩ : ∃ x, o.fs[k]? = some x := ⟨_, List.getElem?_eq_getElem hkl⟩
    have hst := take_fold hx (blackG s o.a)
    have hclx : ∀ H, Cl (HS w0 M H) (sat d (k * 1)) (.int .u64 x) := fun H => cl_rdH hrd (flat_get0 encW_len hx rfl)
    repeat' (first | (first | (refine GT ?_ ?_ <;> intro hg <;> clear hA a <;> intro a hA <;> (first | exact FA | replace hg := of_decide_eq_true hg | replace hg := of_decide_eq_false hg | skip)) | ((first | apply st_ex hA hH rfl rfl (by decide) | apply dr_ex hA rfl rfl rfl (by decide) | apply dr_exp hA rfl rfl rfl (by decide) | apply dr_ex3 hA hH rfl rfl rfl (by decide)); (first | (apply ex_load; rfl; exact hclx _)); clear hA a; intro a hA) | (refine QT ?_; clear hA a; intro a hA) | (first | (refine BT ?_; clear hA hH; rintro _ w ⟨bN, rfl, hH⟩ a hA) | (refine LT ?_; clear hA hH; rintro _ w ⟨oN, rfl, hH⟩ a hA) | (refine AT ?_; clear hA; rintro _ w ⟨oN, cN, rfl, hH2⟩ a hA; clear hH; have hH := (hH2 _ (by (repeat constructor))).tail; clear hH2) | (refine S0T ?_; clear hH; rintro _ w hH) )) | ((first | refine CT ?_ | (refine DT ?_ ?_ <;> intro hc <;> try (exfalso; omega))) <;> repeat' refine CT ?_) | (first | (refine DSK ?_; clear hA a; intro a hA) | (first | (refine DLT ?_; clear hA hH; rintro _ w ⟨oN, rfl, hH⟩; refine ⟨STT, ?_⟩; intro a hA) | (refine DAT ?_; clear hA; rintro _ w ⟨oN, cN, rfl, hH2⟩; clear hH; have hH := (hH2 _ (by (repeat constructor))).tail; clear hH2; refine ⟨STT, ?_⟩; intro a hA))) )
    (refine st_op hA rfl rfl (by decide) (op_call rfl rfl rfl (dshade_g hH hrf (hsh k).1 (hok.us o ho x (List.mem_of_getElem? hx)) (hsh k).2)) ?_; clear hA hH; rintro _ w hH a hA)
    rw [← hst] at hH
    repeat' (first | (first | (refine GT ?_ ?_ <;> intro hg <;> clear hA a <;> intro a hA <;> (first | exact FA | replace hg := of_decide_eq_true hg | replace hg := of_decide_eq_false hg | skip)) | (refine QT ?_; clear hA a; intro a hA) | (first | (refine BT ?_; clear hA hH; rintro _ w ⟨bN, rfl, hH⟩ a hA) | (refine LT ?_; clear hA hH; rintro _ w ⟨oN, rfl, hH⟩ a hA) | (refine AT ?_; clear hA; rintro _ w ⟨oN, cN, rfl, hH2⟩ a hA; clear hH; have hH := (hH2 _ (by (repeat constructor))).tail; clear hH2) | (refine S0T ?_; clear hH; rintro _ w hH) )) | ((first | refine CT ?_ | (refine DT ?_ ?_ <;> intro hc <;> try (exfalso; omega))) <;> repeat' refine CT ?_) | (first | (refine DSK ?_; clear hA a; intro a hA) | (first | (refine DLT ?_; clear hA hH; rintro _ w ⟨oN, rfl, hH⟩; refine ⟨STT, ?_⟩; intro a hA) | (refine DAT ?_; clear hA; rintro _ w ⟨oN, cN, rfl, hH2⟩; clear hH; have hH := (hH2 _ (by (repeat constructor))).tail; clear hH2; refine ⟨STT, ?_⟩; intro a hA))) )
    exact ⟨k + 1, ⟨⟨hkl, fun h => absurd h hkn⟩, hH, (hA.sub (by (repeat (first | exact trivial | refine ⟨rfl, ?_⟩))))⟩, by omega⟩
  clear hA hH
  rintro a w ⟨hH, hA⟩
  repeat' (first | (first | (refine GT ?_ ?_ <;> intro hg <;> clear hA a <;> intro a hA <;> (first | exact FA | replace hg := of_decide_eq_true hg | replace hg := of_decide_eq_false hg | skip)) | (refine QT ?_; clear hA a; intro a hA) | (first | (refine BT ?_; clear hA hH; rintro _ w ⟨bN, rfl, hH⟩ a hA) | (refine LT ?_; clear hA hH; rintro _ w ⟨oN, rfl, hH⟩ a hA) | (refine AT ?_; clear hA; rintro _ w ⟨oN, cN, rfl, hH2⟩ a hA; clear hH; have hH := (hH2 _ (by (repeat constructor))).tail; clear hH2) | (refine S0T ?_; clear hH; rintro _ w hH) )) | ((first | refine CT ?_ | (refine DT ?_ ?_ <;> intro hc <;> try (exfalso; omega))) <;> repeat' refine CT ?_) | (first | (refine DSK ?_; clear hA a; intro a hA) | (first | (refine DLT ?_; clear hA hH; rintro _ w ⟨oN, rfl, hH⟩; refine ⟨STT, ?_⟩; intro a hA) | (refine DAT ?_; clear hA; rintro _ w ⟨oN, cN, rfl, hH2⟩; clear hH; have hH := (hH2 _ (by (repeat constructor))).tail; clear hH2; refine ⟨STT, ?_⟩; intro a hA))) )
  exact rt1 (.inl rfl) rfl hA rfl ⟨rfl, hH⟩
end Go.Proofs.Ytejpcidfigmnkaa
