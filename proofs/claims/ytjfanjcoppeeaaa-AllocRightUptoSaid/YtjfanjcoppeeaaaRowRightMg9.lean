/-
  The program's Right, by its parts; slices.Equal; maps' len and literals. Conditions: none.
  The program's Colour and Live. Conditions: none.
  The program's Live. Conditions: none.
  The document's Press. Conditions: none.
  The document's Right, by its parts. Conditions: none.
  Graphs that may be: edges rise, they are small, what lives is bound before. Conditions: none.
-/
import Derived.Test.YtjfanjcoppeeaaaRowRightMg8
import Derived.Test.YtjfanjcoppeeaaaRowRightMg7
namespace Go.Proofs.Ytjfanjcoppeeaaa
open Go Go.Fw
set_option linter.unusedVariables false
section
variable {P : Program} {N : Nat} {l : List (Nat × Value)} {a : Act} {d : Option Tmp} {T : TypeId} {pos : String} {af : Array Edge} {g : Option (Nat × Bool)}
theorem ex_lenI {t kt e b : Nat} {x : Operand} {m : List (Int × Int)} {w0 : World} {M : Nat → Prop} {H : List It} [ht : TMp P t kt e] (hx : ev l x = some (.map (some b))) (hm : mpI b m ∈ H) :
    Ex P N l (HS w0 M H) ⟨d, .call ⟨.builtin .len, #[x], #[t]⟩, T, pos, af, g⟩ (.int .i64 m.length) := by
  intro a w hA hH
  obtain ⟨F, es, clock, h1, h2, h3, h4⟩ := hH.sat hm
  have hl : es.length = m.length := by
    have := congrArg List.length h1
    simpa [encM] using this
  simp [execOp, resolve, invoke, builtin, Builtin.len_, hA.ev hx, run_underlying ht.eq, Go.Fw.run_getObj_map h4, goInt, hl]
theorem op_insertI {t kt e b : Nat} {kk : IntKind} {x y z : Operand} {m : List (Int × Int)} {k v : Int} {w0 w : World} {M : Nat → Prop} {H H' : List It} [ht : TMp P t kt e] [hk : TIn P kt kk]
    (hx : ev l x = some (.map (some b))) (hy : ev l y = some (.int .i64 k)) (hz : ev l z = some (.int .i64 v)) (hH : HS w0 M H w) (hr : Rp H (mpI b m) (mpI b (setI m k v)) H') :
    Op1 P N l ⟨d, .insert t x y z, T, pos, af, g⟩ w (fun _ w' => HS w0 M H' w') := by
  intro a hA K Q hK
  have h := op_mapUpdateI (P := P) (N := N) (d := d) (T := T) (pos := pos) (af := af) (g := g) (t := t) hx hy hz hH hr a hA K Q hK
  exact h
end
/-- the map of registers -/
def mkM (l : List Rg) : List (Int × Int) := l.foldl (fun m r => setI m r.v r.r) []
theorem mkM_next {l : List Rg} {i : Nat} {r : Rg} (h : l[i]? = some r) : mkM (l.take (i + 1)) = setI (mkM (l.take i)) r.v r.r := by
  unfold mkM
  rw [take_snoc h, List.foldl_append]
  rfl
theorem mkM_nil (l : List Rg) : mkM (l.take 0) = [] := by rw [List.take_zero]; rfl
theorem map_v_next {l : List Rg} {j : Nat} {x : Rg} (h : l[j]? = some x) : (l.take (j + 1)).map Rg.v = (l.take j).map Rg.v ++ [x.v] := by rw [take_snoc h, List.map_append]; rfl
theorem ge_next {l : List Rg} {i : Nat} {r : Rg} (h : l[i]? = some r) (hp : ∀ r ∈ l.take i, 0 ≤ r.r) (hr : ¬ r.r < 0) : ∀ r ∈ l.take (i + 1), 0 ≤ r.r := by
  intro s hs
  rw [take_snoc h] at hs
  rcases List.mem_append.1 hs with h1 | h1
  · exact hp s h1
  · rw [List.mem_singleton] at h1
    subst h1
    omega
/-! ## sets are told by what the graph says -/
theorem fix_uniq {f : Gr} (hU : Up f) {ss s2 : List (Option (Nat × List Int))} (h1 : ∀ n, FixAt f ss n) (h2 : ∀ n, FixAt f s2 n) (hl1 : ss.length = f.bs.l.length) (hl2 : s2.length = f.bs.l.length) :
    ∀ k n x, n + k = f.bs.l.length → (x ∈ setAt ss n ↔ x ∈ setAt s2 n) := by
  intro k
  induction k using Nat.strongRecOn with
  | _ k ih =>
    intro n x hk
    cases hb : f.bs.l[n]? with
    | none =>
      have := List.getElem?_eq_none_iff.1 hb
      have e1 : ss[n]? = none := List.getElem?_eq_none_iff.2 (by omega)
      have e2 : s2[n]? = none := List.getElem?_eq_none_iff.2 (by omega)
      unfold setAt
      rw [e1, e2]
    | some bl =>
      rw [h1 n bl hb, h2 n bl hb]
      unfold blkP
      refine and_congr (insP_congr (fun y => ?_) _ x) Iff.rfl
      unfold lastP
      refine or_congr Iff.rfl (exists_congr fun t => and_congr_right fun ht => ?_)
      unfold edgeP
      refine or_congr Iff.rfl (and_congr_right fun h0 => ?_)
      have hu := hU n bl hb t ht
      have hnl : n < f.bs.l.length := (List.getElem?_eq_some_iff.1 hb).1
      have := ih (f.bs.l.length - t.b.toNat) (by omega) t.b.toNat y (by omega)
      unfold setAt at this
      have e1 : ss[t.b.toNat]? = some (ss[t.b.toNat]'(by omega)) := List.getElem?_eq_getElem _
      have e2 : s2[t.b.toNat]? = some (s2[t.b.toNat]'(by omega)) := List.getElem?_eq_getElem _
      rw [e1, e2] at this ⊢
      simp only [Option.getD_some] at this
      simp only [Option.some.injEq, exists_eq_left']
      exact this
theorem setAt_uniq {f : Gr} (hU : Up f) {ss s2 : List (Option (Nat × List Int))} (h1 : ∀ n, FixAt f ss n) (h2 : ∀ n, FixAt f s2 n) (hl1 : ss.length = f.bs.l.length) (hl2 : s2.length = f.bs.l.length) (n : Nat) (x : Int) : x ∈ setAt ss n ↔ x ∈ setAt s2 n := by
  by_cases h : n ≤ f.bs.l.length
  · exact fix_uniq hU h1 h2 hl1 hl2 (f.bs.l.length - n) n x (by omega)
  · have e1 : ss[n]? = none := List.getElem?_eq_none_iff.2 (by omega)
    have e2 : s2[n]? = none := List.getElem?_eq_none_iff.2 (by omega)
    unfold setAt
    rw [e1, e2]
theorem lastP_uniq {ss s2 : List (Option (Nat × List Int))} (h : ∀ n x, x ∈ setAt ss n ↔ x ∈ setAt s2 n) (hl : ss.length = s2.length) (e : En) (x : Int) : lastP e ss x ↔ lastP e s2 x := by
  have key : ∀ n : Nat, (∃ s, ss[n]? = some s ∧ x ∈ kso s) ↔ (∃ s, s2[n]? = some s ∧ x ∈ kso s) := by
    intro n
    have := h n x
    unfold setAt at this
    by_cases hn : n < ss.length
    · rw [List.getElem?_eq_getElem hn, List.getElem?_eq_getElem (hl ▸ hn)] at this ⊢
      simpa using this
    · rw [List.getElem?_eq_none_iff.2 (by omega), List.getElem?_eq_none_iff.2 (by omega)]
  unfold lastP edgeP
  refine or_congr Iff.rfl (exists_congr fun t => and_congr_right fun ht => or_congr Iff.rfl (and_congr_right fun h0 => key _))
theorem isAt_uniq {f : Gr} {ss s2 : List (Option (Nat × List Int))} (h : ∀ n x, x ∈ setAt ss n ↔ x ∈ setAt s2 n) (hl : ss.length = s2.length) {sl : Nat × Option Nat} {p q : Pl} (hp : IsAt f ss sl p) (hq : IsAt f s2 sl q) : p.bs = q.bs ∧ p.b = q.b ∧ p.ks.Perm q.ks := by
  obtain ⟨n, o⟩ := sl
  obtain ⟨bl, hb, hn, hp⟩ := hp
  obtain ⟨bl', hb', hn', hq⟩ := hq
  rw [hb] at hb'
  cases hb'
  cases o with
  | none =>
    obtain ⟨h1, h2, h3⟩ := hp
    obtain ⟨g1, g2, g3⟩ := hq
    refine ⟨h1.trans g1.symm, h2.trans g2.symm, (List.perm_ext_iff_of_nodup hn hn').2 fun x => ?_⟩
    rw [h3, g3]
    exact h _ x
  | some i =>
    obtain ⟨ins, hi, h1, h2, h3⟩ := hp
    obtain ⟨ins', hi', g1, g2, g3⟩ := hq
    rw [hi] at hi'
    cases hi'
    refine ⟨h1.trans g1.symm, h2.trans g2.symm, (List.perm_ext_iff_of_nodup hn hn').2 fun x => ?_⟩
    rw [h3, g3]
    exact and_congr_right fun _ => insP_congr (lastP_uniq h hl _) _ x
theorem okPl_perm {m : List (Int × Int)} {p q : Pl} (h : p.bs = q.bs ∧ p.b = q.b ∧ p.ks.Perm q.ks) (hp : okPl m p) : okPl m q := by
  obtain ⟨h1, h2, h3⟩ := h
  obtain ⟨g1, g2, g3⟩ := hp
  have hm := h3.map (rgM m)
  refine ⟨fun hb => hm.nodup_iff.1 (g1 (h2.trans hb)), h1 ▸ g2, fun x hx hc => ?_⟩
  exact g3 x (h1.symm ▸ hx) (hm.mem_iff.2 hc)
/-- all places are right -/
def AllOk (f : Gr) (m : List (Int × Int)) : Prop := ∀ ss, ss.length = f.bs.l.length → (∀ n, FixAt f ss n) → ∀ sl ∈ slots f f.bs.l.length, ∀ p, IsAt f ss sl p → okPl m p
theorem goesR {m : List (Int × Int)} : ∀ {pl : List Pl} {s s' : Unit}, goes (atR m) s pl = some s' → ∀ p ∈ pl, okPl m p
  | q :: pl, s, s', h, p, hp => by
    change (atR m s q).bind _ = _ at h
    by_cases hq : okPl m q
    · have e : atR m s q = some () := by unfold atR; rw [if_pos hq]
      rw [e] at h
      rcases List.mem_cons.1 hp with rfl | hp
      · exact hq
      · exact goesR (s := ()) h p hp
    · have e : atR m s q = none := by unfold atR; rw [if_neg hq]
      rw [e] at h
      cases h
theorem fa2_mem {α β : Type} {R : α → β → Prop} {l : List α} {m : List β} (h : FA2 R l m) {x : α} (hx : x ∈ l) : ∃ y ∈ m, R x y := by
  induction h with
  | nil => cases hx
  | cons h1 _ ih =>
    rcases List.mem_cons.1 hx with rfl | hx
    · exact ⟨_, .head _, h1⟩
    · obtain ⟨y, hy, hr⟩ := ih hx
      exact ⟨y, .tail _ hy, hr⟩
theorem allOk_yes {f : Gr} (hU : Up f) {ss : List (Option (Nat × List Int))} (hl : ss.length = f.bs.l.length) (hF : ∀ n, FixAt f ss n) {m : List (Int × Int)} {pl : List Pl} (h : FA2 (IsAt f ss) (slots f f.bs.l.length) pl) {s s' : Unit} (hg : goes (atR m) s pl = some s') : AllOk f m := by
  intro s2 hl2 hF2 sl hsl p hp
  obtain ⟨q, hq, hr⟩ := fa2_mem h hsl
  exact okPl_perm (isAt_uniq (setAt_uniq hU hF hF2 hl hl2) (by omega) hr hp) (goesR hg q hq)
theorem allOk_no {f : Gr} {ss : List (Option (Nat × List Int))} (hl : ss.length = f.bs.l.length) (hF : ∀ n, FixAt f ss n) {m : List (Int × Int)} {sl : Nat × Option Nat} {p : Pl} (hs : sl ∈ slots f f.bs.l.length) (hp : IsAt f ss sl p) {s : Unit} (h : atR m s p = none) : ¬ AllOk f m := by
  intro ha
  have := ha ss hl hF sl hs p hp
  unfold atR at h
  rw [if_pos this] at h
  cases h
/-- what the program's Right asks -/
def RightP (f : Gr) (l : List Rg) : Prop := (∀ r ∈ l, 0 ≤ r.r) ∧ srt (l.map Rg.v) = srt (varsL f.bs.l) ∧ (mkM l).length = l.length ∧ rgM (mkM l) 0 = 0 ∧ rgM (mkM l) 1 = 1 ∧ AllOk f (mkM l)
/-- a graph that is small -/
structure Small (f : Gr) : Prop where
  bs : f.bs.l.length ≤ 100000
  vs : (varsL f.bs.l).length ≤ 1000000
  each : ∀ bl ∈ f.bs.l, bl.ps.l.length ≤ 1000000 ∧ bl.is.l.length ≤ 1000000
  sets : ∀ ss, ss.length = f.bs.l.length → (∀ n, FixAt f ss n) → ∀ sl p, IsAt f ss sl p → p.ks.length ≤ 1000000
theorem encR_at {l : List Rg} {i : Nat} {r : Rg} (h : l[i]? = some r) : (flat encR l)[i * 2 + 0]? = some (.int .i64 r.v) ∧ (flat encR l)[i * 2 + 1]? = some (.int .i64 r.r) :=
  ⟨flat_get (off := 0) encR_len h rfl, flat_get (off := 1) encR_len h rfl⟩
theorem eq_take {l m : List Int} {i : Nat} {x y : Int} (hx : l[i]? = some x) (hy : m[i]? = some y) (h : l.take i = m.take i) (he : x = y) : l.take (i + 1) = m.take (i + 1) := by
  rw [take_snoc hx, take_snoc hy, h, he]
theorem no_iff {p : Prop} (h : ¬ p) : (false = true ↔ p) := ⟨fun h => (by cases h), fun hp => absurd hp h⟩
theorem yes_iff {p : Prop} (h : p) : (true = true ↔ p) := ⟨fun _ => h, fun _ => rfl⟩
set_option maxRecDepth 10000 attribute [local irreducible] Code.wp wpList Calls Ex Op1 sat bat blk cb own Go.Fw.mp Go.Fw.mpO Go.Fw.mpI Go.Fw.mpE Go.Fw.itr HS Rd Ret wkD Hp Cl Cls Exit.then Exit.inBlock Exit.noGoto bodyPost Go.Fw.flat wk2 Go.Fw.all Go.Fw.owns wpOp
attribute [local irreducible] sk mpK srt sko mvO insP blkP skP goes slots slotB varsL mkM AllOk rgM

set_option maxHeartbeats 4000000 in
theorem equalI_spec (w0 : World) (o1 o2 : Option Addr) (c1 c2 : Nat) (l1 l2 : List Int) (h1 : Rd w0 o1 (flat Fw.encI l1)) (h2 : Rd w0 o2 (flat Fw.encI l2)) (hl1 : l1.length ≤ 9223372036854775807) (hl2 : l2.length ≤ 9223372036854775807) :
    Ret Try.prog 20 #[.slice o1 l1.length c1, .slice o2 l2.length c2] w0 (fun v w => v = .bool (decide (l1 = l2)) ∧ Kp w0 noM w) := by
  have hH : HS w0 noM [] w0 := HS.init w0 noM
  have hsp1 : Sp o1 l1.length := h1.sp (sz := 1) (flat_length Fw.encI_len _) (by omega)
  have hsp2 : Sp o2 l2.length := h2.sp (sz := 1) (flat_length Fw.encI_len _) (by omega)
  (refine enter (N := 26) Try.func20 rfl Try.ntmps20 rfl ?_; intro a hA; dsimp only [sl0, Nat.reduceAdd] at hA)
  repeat' (first | (first | (refine GT ?_ ?_ <;> intro hg <;> clear hA a <;> intro a hA <;> (first | exact FA | replace hg := of_decide_eq_true hg | replace hg := of_decide_eq_false hg | skip)) | (refine QT ?_; clear hA a; intro a hA) | (first | (refine BT ?_; clear hA hH; rintro _ w ⟨bN, rfl, hH⟩ a hA) | (refine LT ?_; clear hA hH; rintro _ w ⟨oN, rfl, hH⟩ a hA) | (refine AT ?_; clear hA; rintro _ w ⟨oN, cN, rfl, hH2⟩ a hA; clear hH; have hH := (hH2 _ (by (repeat constructor))).tail; clear hH2) | (refine S0T ?_; clear hH; rintro _ w hH) )) | ((first | refine CT ?_ | (refine DT ?_ ?_ <;> intro hc <;> try (exfalso; omega))) <;> repeat' refine CT ?_) | (first | (refine DSK ?_; clear hA a; intro a hA) | (first | (refine DLT ?_; clear hA hH; rintro _ w ⟨oN, rfl, hH⟩; refine ⟨STT, ?_⟩; intro a hA) | (refine DAT ?_; clear hA; rintro _ w ⟨oN, cN, rfl, hH2⟩; clear hH; have hH := (hH2 _ (by (repeat constructor))).tail; clear hH2; refine ⟨STT, ?_⟩; intro a hA))) )
  · exact rt1 (.inl rfl) rfl hA rfl ⟨by rw [decide_eq_false]; intro h; subst h; omega, hH.kp⟩
  have hll : l1.length = l2.length := by omega
  refine wp_lpk (S := Nat) (fun i a w => (i ≤ l1.length ∧ l1.take i = l2.take i) ∧ HS w0 noM [] w ∧ Sl 26 [(13, .int .i64 i), (12, .int .i64 l1.length), (0, .slice o1 l1.length c1), (1, .slice o2 l2.length c2)] a) (fun i => l1.length - i)
    (fun a w => l1 = l2 ∧ HS w0 noM [] w ∧ Sl 26 [] a) 0 ⟨⟨Nat.zero_le _, by rw [List.take_zero, List.take_zero]⟩, hH, (hA.sub (by (repeat (first | exact trivial | refine ⟨rfl, ?_⟩))))⟩ ?_ ?_
  · clear hA hH
    rintro i a w ⟨⟨hi, hp⟩, hH, hA⟩
    by_cases hlt : i < l1.length
    rotate_left
    · repeat' (first | (first | (refine GT ?_ ?_ <;> intro hg <;> clear hA a <;> intro a hA <;> (first | exact FA | replace hg := of_decide_eq_true hg | replace hg := of_decide_eq_false hg | skip)) | (refine QT ?_; clear hA a; intro a hA) | (first | (refine BT ?_; clear hA hH; rintro _ w ⟨bN, rfl, hH⟩ a hA) | (refine LT ?_; clear hA hH; rintro _ w ⟨oN, rfl, hH⟩ a hA) | (refine AT ?_; clear hA; rintro _ w ⟨oN, cN, rfl, hH2⟩ a hA; clear hH; have hH := (hH2 _ (by (repeat constructor))).tail; clear hH2) | (refine S0T ?_; clear hH; rintro _ w hH) )) | ((first | refine CT ?_ | (refine DT ?_ ?_ <;> intro hc <;> try (exfalso; omega))) <;> repeat' refine CT ?_) | (first | (refine DSK ?_; clear hA a; intro a hA) | (first | (refine DLT ?_; clear hA hH; rintro _ w ⟨oN, rfl, hH⟩; refine ⟨STT, ?_⟩; intro a hA) | (refine DAT ?_; clear hA; rintro _ w ⟨oN, cN, rfl, hH2⟩; clear hH; have hH := (hH2 _ (by (repeat constructor))).tail; clear hH2; refine ⟨STT, ?_⟩; intro a hA))) )
      exact ⟨by rw [List.take_of_length_le (by omega), List.take_of_length_le (by omega)] at hp; exact hp, hH, (hA.sub (by (repeat (first | exact trivial | refine ⟨rfl, ?_⟩))))⟩
    obtain ⟨x, hx⟩ : ∃ x, l1[i]? = some x := ⟨_, List.getElem?_eq_getElem hlt⟩
    obtain ⟨y, hy⟩ : ∃ y, l2[i]? = some y := ⟨_, List.getElem?_eq_getElem (by omega)⟩
    have hcx : (flat Fw.encI l1)[i * 1]? = some (.int .i64 x) := flat_get (off := 0) Fw.encI_len hx rfl
    have hcy : (flat Fw.encI l2)[i * 1]? = some (.int .i64 y) := flat_get (off := 0) Fw.encI_len hy rfl
    repeat' (first | (first | (refine GT ?_ ?_ <;> intro hg <;> clear hA a <;> intro a hA <;> (first | exact FA | replace hg := of_decide_eq_true hg | replace hg := of_decide_eq_false hg | skip)) | (refine QT ?_; clear hA a; intro a hA) | (first | (refine BT ?_; clear hA hH; rintro _ w ⟨bN, rfl, hH⟩ a hA) | (refine LT ?_; clear hA hH; rintro _ w ⟨oN, rfl, hH⟩ a hA) | (refine AT ?_; clear hA; rintro _ w ⟨oN, cN, rfl, hH2⟩ a hA; clear hH; have hH := (hH2 _ (by (repeat constructor))).tail; clear hH2) | (refine S0T ?_; clear hH; rintro _ w hH) )) | ((first | refine CT ?_ | (refine DT ?_ ?_ <;> intro hc <;> try (exfalso; omega))) <;> repeat' refine CT ?_) | (first | (refine DSK ?_; clear hA a; intro a hA) | (first | (refine DLT ?_; clear hA hH; rintro _ w ⟨oN, rfl, hH⟩; refine ⟨STT, ?_⟩; intro a hA) | (refine DAT ?_; clear hA; rintro _ w ⟨oN, cN, rfl, hH2⟩; clear hH; have hH := (hH2 _ (by (repeat constructor))).tail; clear hH2; refine ⟨STT, ?_⟩; intro a hA))) )
    (refine wp_draw_HS [(0, 1), (1, 1), (2, 1), (3, 1), (4, 1), (5, 1), (6, 1), (7, 1), (8, 1)] mixed (by decide +kernel) hH ?_; replace hH := hH.drew)
    repeat' (first | (first | (refine GT ?_ ?_ <;> intro hg <;> clear hA a <;> intro a hA <;> (first | exact FA | replace hg := of_decide_eq_true hg | replace hg := of_decide_eq_false hg | skip)) | ((first | apply st_ex hA hH rfl rfl (by decide) | apply dr_ex hA rfl rfl rfl (by decide) | apply dr_exp hA rfl rfl rfl (by decide) | apply dr_ex3 hA hH rfl rfl rfl (by decide)); (first | (apply ex_load; rfl; exact cl_rd h1 id hcx) | (apply ex_load; rfl; exact cl_rd h2 id hcy)); clear hA a; intro a hA) | (refine QT ?_; clear hA a; intro a hA) | (first | (refine BT ?_; clear hA hH; rintro _ w ⟨bN, rfl, hH⟩ a hA) | (refine LT ?_; clear hA hH; rintro _ w ⟨oN, rfl, hH⟩ a hA) | (refine AT ?_; clear hA; rintro _ w ⟨oN, cN, rfl, hH2⟩ a hA; clear hH; have hH := (hH2 _ (by (repeat constructor))).tail; clear hH2) | (refine S0T ?_; clear hH; rintro _ w hH) )) | ((first | refine CT ?_ | (refine DT ?_ ?_ <;> intro hc <;> try (exfalso; omega))) <;> repeat' refine CT ?_) | (first | (refine DSK ?_; clear hA a; intro a hA) | (first | (refine DLT ?_; clear hA hH; rintro _ w ⟨oN, rfl, hH⟩; refine ⟨STT, ?_⟩; intro a hA) | (refine DAT ?_; clear hA; rintro _ w ⟨oN, cN, rfl, hH2⟩; clear hH; have hH := (hH2 _ (by (repeat constructor))).tail; clear hH2; refine ⟨STT, ?_⟩; intro a hA))) )
    · exact rt1 (.inl rfl) rfl hA rfl ⟨by rw [decide_eq_false]; intro h; subst h; rw [hx] at hy; exact absurd (Option.some.inj hy) (by assumption), hH.kp⟩
    · exact ⟨i + 1, ⟨⟨hlt, eq_take hx hy hp (by omega)⟩, hH, (hA.sub (by (repeat (first | exact trivial | refine ⟨rfl, ?_⟩))))⟩, by omega⟩
  clear hA hH
  rintro a w ⟨he, hH, hA⟩
  repeat' (first | (first | (refine GT ?_ ?_ <;> intro hg <;> clear hA a <;> intro a hA <;> (first | exact FA | replace hg := of_decide_eq_true hg | replace hg := of_decide_eq_false hg | skip)) | (refine QT ?_; clear hA a; intro a hA) | (first | (refine BT ?_; clear hA hH; rintro _ w ⟨bN, rfl, hH⟩ a hA) | (refine LT ?_; clear hA hH; rintro _ w ⟨oN, rfl, hH⟩ a hA) | (refine AT ?_; clear hA; rintro _ w ⟨oN, cN, rfl, hH2⟩ a hA; clear hH; have hH := (hH2 _ (by (repeat constructor))).tail; clear hH2) | (refine S0T ?_; clear hH; rintro _ w hH) )) | ((first | refine CT ?_ | (refine DT ?_ ?_ <;> intro hc <;> try (exfalso; omega))) <;> repeat' refine CT ?_) | (first | (refine DSK ?_; clear hA a; intro a hA) | (first | (refine DLT ?_; clear hA hH; rintro _ w ⟨oN, rfl, hH⟩; refine ⟨STT, ?_⟩; intro a hA) | (refine DAT ?_; clear hA; rintro _ w ⟨oN, cN, rfl, hH2⟩; clear hH; have hH := (hH2 _ (by (repeat constructor))).tail; clear hH2; refine ⟨STT, ?_⟩; intro a hA))) )
  exact rt1 (.inl rfl) rfl hA rfl ⟨by rw [decide_eq_true he], hH.kp⟩
set_option maxHeartbeats 8000000 in
theorem Right_spec (w0 : World) (f : Gr) (oL : Option Addr) (cL : Nat) (l : List Rg) (hR : RdG w0 f) (hU : Up f) (hS : Small f) (hL : Rd w0 oL (flat encR l)) (hll : l.length ≤ 1000000) :
    Ret Try.prog 10 #[.agg (encG f).toArray, .slice oL l.length cL] w0 (fun v w => ∃ b, v = .bool b ∧ (b = true ↔ RightP f l) ∧ Kp w0 noM w) := by
  have hH : HS w0 noM [] w0 := HS.init w0 noM
  have hspL : Sp oL l.length := hL.sp (sz := 2) (flat_length encR_len _) (by omega)
  (refine enter (N := 57) Try.func10 rfl Try.ntmps10 rfl ?_; intro a hA; dsimp only [sl0, Nat.reduceAdd] at hA)
  repeat' (first | (first | (refine GT ?_ ?_ <;> intro hg <;> clear hA a <;> intro a hA <;> (first | exact FA | replace hg := of_decide_eq_true hg | replace hg := of_decide_eq_false hg | skip)) | (refine QT ?_; clear hA a; intro a hA) | (first | (refine BT ?_; clear hA hH; rintro _ w ⟨bN, rfl, hH⟩ a hA) | (refine LT ?_; clear hA hH; rintro _ w ⟨oN, rfl, hH⟩ a hA) | (refine AT ?_; clear hA; rintro _ w ⟨oN, cN, rfl, hH2⟩ a hA; clear hH; have hH := (hH2 _ (by (repeat constructor))).tail; clear hH2) | (refine S0T ?_; clear hH; rintro _ w hH) )) | ((first | refine CT ?_ | (refine DT ?_ ?_ <;> intro hc <;> try (exfalso; omega))) <;> repeat' refine CT ?_) | (first | (refine DSK ?_; clear hA a; intro a hA) | (first | (refine DLT ?_; clear hA hH; rintro _ w ⟨oN, rfl, hH⟩; refine ⟨STT, ?_⟩; intro a hA) | (refine DAT ?_; clear hA; rintro _ w ⟨oN, cN, rfl, hH2⟩; clear hH; have hH := (hH2 _ (by (repeat constructor))).tail; clear hH2; refine ⟨STT, ?_⟩; intro a hA))) )
  obtain ⟨bF, hbF⟩ : ∃ x, x = bN := ⟨_, rfl⟩
  rw [← hbF] at hA hH
  clear hbF bN
  (refine st_op hA rfl rfl (by decide) (op_makeMapI hH) ?_; clear hA hH; rintro _ w ⟨mR, rfl, hH⟩ a hA)
  repeat' (first | (first | (refine GT ?_ ?_ <;> intro hg <;> clear hA a <;> intro a hA <;> (first | exact FA | replace hg := of_decide_eq_true hg | replace hg := of_decide_eq_false hg | skip)) | (refine QT ?_; clear hA a; intro a hA) | (first | (refine BT ?_; clear hA hH; rintro _ w ⟨bN, rfl, hH⟩ a hA) | (refine LT ?_; clear hA hH; rintro _ w ⟨oN, rfl, hH⟩ a hA) | (refine AT ?_; clear hA; rintro _ w ⟨oN, cN, rfl, hH2⟩ a hA; clear hH; have hH := (hH2 _ (by (repeat constructor))).tail; clear hH2) | (refine S0T ?_; clear hH; rintro _ w hH) )) | ((first | refine CT ?_ | (refine DT ?_ ?_ <;> intro hc <;> try (exfalso; omega))) <;> repeat' refine CT ?_) | (first | (refine DSK ?_; clear hA a; intro a hA) | (first | (refine DLT ?_; clear hA hH; rintro _ w ⟨oN, rfl, hH⟩; refine ⟨STT, ?_⟩; intro a hA) | (refine DAT ?_; clear hA; rintro _ w ⟨oN, cN, rfl, hH2⟩; clear hH; have hH := (hH2 _ (by (repeat constructor))).tail; clear hH2; refine ⟨STT, ?_⟩; intro a hA))) )
  obtain ⟨bR, hbR⟩ : ∃ x, x = bN := ⟨_, rfl⟩
  rw [← hbR] at hA hH
  clear hbR bN
  refine wp_lpk (S := Nat) (fun i a w => ∃ o c, (i ≤ l.length ∧ ∀ r ∈ l.take i, 0 ≤ r.r) ∧ HS w0 noM [own 3 1 o ((l.take i).map Rg.v).length c (flat Fw.encI ((l.take i).map Rg.v)), cb bR 67 [.map (some mR)], mpI mR (mkM (l.take i)), cb bF 30 (encG f)] w ∧
      Sl 57 [(12, .int .i64 i), (11, .int .i64 l.length), (10, .slice oL l.length cL), (6, .pointer (some (bat bR 0))), (5, .slice o ((l.take i).map Rg.v).length c), (2, .pointer (some (bat bF 0))), (1, .slice oL l.length cL)] a) (fun i => l.length - i)
    (fun a w => ∃ o c, (∀ r ∈ l, 0 ≤ r.r) ∧ HS w0 noM [own 3 1 o (l.map Rg.v).length c (flat Fw.encI (l.map Rg.v)), cb bR 67 [.map (some mR)], mpI mR (mkM l), cb bF 30 (encG f)] w ∧
      Sl 57 [(6, .pointer (some (bat bR 0))), (5, .slice o (l.map Rg.v).length c), (2, .pointer (some (bat bF 0))), (1, .slice oL l.length cL)] a) 0 ⟨none, 0, ⟨Nat.zero_le _, (by rw [List.take_zero]; exact fun r hr => absurd hr List.not_mem_nil)⟩, (by rw [mkM_nil, List.take_zero, List.map_nil, flatI_nil]; exact (hH.nil_own 3 1)), (by rw [List.take_zero, List.map_nil]; exact (hA.sub (by (repeat (first | exact trivial | refine ⟨rfl, ?_⟩)))))⟩ ?_ ?_
  · clear hA hH
    rintro i a w ⟨o, c, ⟨hi, hp⟩, hH, hA⟩
    by_cases hlt : i < l.length
    rotate_left
    · obtain rfl : i = l.length := by omega
      rw [List.take_length] at hA hH hp
      repeat' (first | (first | (refine GT ?_ ?_ <;> intro hg <;> clear hA a <;> intro a hA <;> (first | exact FA | replace hg := of_decide_eq_true hg | replace hg := of_decide_eq_false hg | skip)) | (refine QT ?_; clear hA a; intro a hA) | (first | (refine BT ?_; clear hA hH; rintro _ w ⟨bN, rfl, hH⟩ a hA) | (refine LT ?_; clear hA hH; rintro _ w ⟨oN, rfl, hH⟩ a hA) | (refine AT ?_; clear hA; rintro _ w ⟨oN, cN, rfl, hH2⟩ a hA; clear hH; have hH := (hH2 _ (by (repeat constructor))).tail; clear hH2) | (refine S0T ?_; clear hH; rintro _ w hH) )) | ((first | refine CT ?_ | (refine DT ?_ ?_ <;> intro hc <;> try (exfalso; omega))) <;> repeat' refine CT ?_) | (first | (refine DSK ?_; clear hA a; intro a hA) | (first | (refine DLT ?_; clear hA hH; rintro _ w ⟨oN, rfl, hH⟩; refine ⟨STT, ?_⟩; intro a hA) | (refine DAT ?_; clear hA; rintro _ w ⟨oN, cN, rfl, hH2⟩; clear hH; have hH := (hH2 _ (by (repeat constructor))).tail; clear hH2; refine ⟨STT, ?_⟩; intro a hA))) )
      exact ⟨o, c, hp, hH, (hA.sub (by (repeat (first | exact trivial | refine ⟨rfl, ?_⟩))))⟩
    obtain ⟨r, hr⟩ : ∃ x, l[i]? = some x := ⟨_, List.getElem?_eq_getElem hlt⟩
    have hvr := flat_all encR_len hr
    have hml : ((l.take i).map Rg.v).length ≤ 1000000 := by rw [List.length_map, List.length_take]; omega
    repeat' (first | (first | (refine GT ?_ ?_ <;> intro hg <;> clear hA a <;> intro a hA <;> (first | exact FA | replace hg := of_decide_eq_true hg | replace hg := of_decide_eq_false hg | skip)) | ((first | apply st_ex hA hH rfl rfl (by decide) | apply dr_ex hA rfl rfl rfl (by decide) | apply dr_exp hA rfl rfl rfl (by decide) | apply dr_ex3 hA hH rfl rfl rfl (by decide)); (first | (apply ex_load_st (vs := encR r); rfl; rfl; exact cls_rd hL id hvr) | (apply ex_indexAddr_nat; rfl; rfl; omega; exact hspL)); clear hA a; intro a hA) | (refine QT ?_; clear hA a; intro a hA) | (first | (refine BT ?_; clear hA hH; rintro _ w ⟨bN, rfl, hH⟩ a hA) | (refine LT ?_; clear hA hH; rintro _ w ⟨oN, rfl, hH⟩ a hA) | (refine AT ?_; clear hA; rintro _ w ⟨oN, cN, rfl, hH2⟩ a hA; clear hH; have hH := (hH2 _ (by (repeat constructor))).tail; clear hH2) | (refine S0T ?_; clear hH; rintro _ w hH) | (apply st_op0 hA rfl rfl; apply op_store_agg (vs := encR r); rfl; rfl; exact hH; (repeat constructor); (repeat rfl); clear hH; rintro _ w hH) | (apply st_op0 hA rfl rfl; apply op_mapUpdateI; rfl; rfl; rfl; exact hH; (repeat constructor); clear hH; rintro _ w hH))) | ((first | refine CT ?_ | (refine DT ?_ ?_ <;> intro hc <;> try (exfalso; omega))) <;> repeat' refine CT ?_) | (first | (refine DSK ?_; clear hA a; intro a hA) | (first | (refine DLT ?_; clear hA hH; rintro _ w ⟨oN, rfl, hH⟩; refine ⟨STT, ?_⟩; intro a hA) | (refine DAT ?_; clear hA; rintro _ w ⟨oN, cN, rfl, hH2⟩; clear hH; have hH := (hH2 _ (by (repeat constructor))).tail; clear hH2; refine ⟨STT, ?_⟩; intro a hA))) )
    · have hneg : r.r < 0 := by assumption
      exact rt1 (.inl rfl) rfl hA rfl ⟨false, rfl, no_iff (fun h => (by have := h.1 r (List.mem_of_getElem? hr); omega)), hH.kp⟩
    · rw [flatI_snoc, ← lenS ((l.take i).map Rg.v) r.v, ← map_v_next hr, ← mkM_next hr] at hH
      rw [← lenS ((l.take i).map Rg.v) r.v, ← map_v_next hr] at hA
      exact ⟨i + 1, ⟨oN, cN, ⟨hlt, ge_next hr hp (by omega)⟩, hH.tail, (hA.sub (by (repeat (first | exact trivial | refine ⟨rfl, ?_⟩))))⟩, by omega⟩
  clear hA hH
  rintro a w ⟨o, c, hge, hH, hA⟩
  obtain ⟨vl, hvl⟩ : ∃ x, x = l.map Rg.v := ⟨_, rfl⟩
  rw [← hvl] at hA hH
  have hvll : vl.length = l.length := by rw [hvl, List.length_map]
  repeat' (first | (first | (refine GT ?_ ?_ <;> intro hg <;> clear hA a <;> intro a hA <;> (first | exact FA | replace hg := of_decide_eq_true hg | replace hg := of_decide_eq_false hg | skip)) | (refine QT ?_; clear hA a; intro a hA) | (first | (refine BT ?_; clear hA hH; rintro _ w ⟨bN, rfl, hH⟩ a hA) | (refine LT ?_; clear hA hH; rintro _ w ⟨oN, rfl, hH⟩ a hA) | (refine AT ?_; clear hA; rintro _ w ⟨oN, cN, rfl, hH2⟩ a hA; clear hH; have hH := (hH2 _ (by (repeat constructor))).tail; clear hH2) | (refine S0T ?_; clear hH; rintro _ w hH) )) | ((first | refine CT ?_ | (refine DT ?_ ?_ <;> intro hc <;> try (exfalso; omega))) <;> repeat' refine CT ?_) | (first | (refine DSK ?_; clear hA a; intro a hA) | (first | (refine DLT ?_; clear hA hH; rintro _ w ⟨oN, rfl, hH⟩; refine ⟨STT, ?_⟩; intro a hA) | (refine DAT ?_; clear hA; rintro _ w ⟨oN, cN, rfl, hH2⟩; clear hH; have hH := (hH2 _ (by (repeat constructor))).tail; clear hH2; refine ⟨STT, ?_⟩; intro a hA))) )
  (refine st_op hA rfl rfl (by decide) (op_call rfl rfl rfl (sort_spec w0 _ noM _ o c vl hH (.head _) (by omega))) ?_; clear hA; rintro _ w ⟨rfl, hup⟩ a hA; clear hH; have hH := hup _ .here; clear hup)
  rw [← srt_len vl] at hA hH
  repeat' (first | (first | (refine GT ?_ ?_ <;> intro hg <;> clear hA a <;> intro a hA <;> (first | exact FA | replace hg := of_decide_eq_true hg | replace hg := of_decide_eq_false hg | skip)) | (refine QT ?_; clear hA a; intro a hA) | (first | (refine BT ?_; clear hA hH; rintro _ w ⟨bN, rfl, hH⟩ a hA) | (refine LT ?_; clear hA hH; rintro _ w ⟨oN, rfl, hH⟩ a hA) | (refine AT ?_; clear hA; rintro _ w ⟨oN, cN, rfl, hH2⟩ a hA; clear hH; have hH := (hH2 _ (by (repeat constructor))).tail; clear hH2) | (refine S0T ?_; clear hH; rintro _ w hH) )) | ((first | refine CT ?_ | (refine DT ?_ ?_ <;> intro hc <;> try (exfalso; omega))) <;> repeat' refine CT ?_) | (first | (refine DSK ?_; clear hA a; intro a hA) | (first | (refine DLT ?_; clear hA hH; rintro _ w ⟨oN, rfl, hH⟩; refine ⟨STT, ?_⟩; intro a hA) | (refine DAT ?_; clear hA; rintro _ w ⟨oN, cN, rfl, hH2⟩; clear hH; have hH := (hH2 _ (by (repeat constructor))).tail; clear hH2; refine ⟨STT, ?_⟩; intro a hA))) )
  (refine st_op hA rfl rfl (by decide) (op_call rfl rfl rfl (variables_spec w0 _ _ f hH hR hS.vs)) ?_; clear hA hH; rintro _ w ⟨oV, cV, rfl, hH⟩ a hA)
  (refine st_op hA rfl rfl (by decide) (op_call rfl rfl rfl (equalI_spec _ o oV c cV (srt vl) (srt (varsL f.bs.l)) (hH.own_rd (T := 3) (n := (srt vl).length) (cap := c) (sz := 1) (by exact MEMT)) (hH.own_rd (T := 3) (n := (srt (varsL f.bs.l)).length) (cap := cV) (sz := 1) (by exact MEMT)) (by rw [srt_len]; omega) (by rw [srt_len]; have := hS.vs; omega))) ?_; clear hA; rintro _ w ⟨rfl, hk⟩ a hA; replace hH := hH.keep hk; clear hk)
  repeat' (first | (first | (refine GT ?_ ?_ <;> intro hg <;> clear hA a <;> intro a hA <;> (first | exact FA | replace hg := of_decide_eq_true hg | replace hg := of_decide_eq_false hg | skip)) | ((first | apply st_ex hA hH rfl rfl (by decide) | apply dr_ex hA rfl rfl rfl (by decide) | apply dr_exp hA rfl rfl rfl (by decide) | apply dr_ex3 hA hH rfl rfl rfl (by decide)); (first | (apply ex_lenI; rfl; exact MEMT)); clear hA a; intro a hA) | (refine QT ?_; clear hA a; intro a hA) | (first | (refine BT ?_; clear hA hH; rintro _ w ⟨bN, rfl, hH⟩ a hA) | (refine LT ?_; clear hA hH; rintro _ w ⟨oN, rfl, hH⟩ a hA) | (refine AT ?_; clear hA; rintro _ w ⟨oN, cN, rfl, hH2⟩ a hA; clear hH; have hH := (hH2 _ (by (repeat constructor))).tail; clear hH2) | (refine S0T ?_; clear hH; rintro _ w hH) )) | ((first | refine CT ?_ | (refine DT ?_ ?_ <;> intro hc <;> try (exfalso; omega))) <;> repeat' refine CT ?_) | (first | (refine DSK ?_; clear hA a; intro a hA) | (first | (refine DLT ?_; clear hA hH; rintro _ w ⟨oN, rfl, hH⟩; refine ⟨STT, ?_⟩; intro a hA) | (refine DAT ?_; clear hA; rintro _ w ⟨oN, cN, rfl, hH2⟩; clear hH; have hH := (hH2 _ (by (repeat constructor))).tail; clear hH2; refine ⟨STT, ?_⟩; intro a hA))) )
  · have hne : ¬ srt vl = srt (varsL f.bs.l) := nd_t (by assumption)
    exact rt1 (.inl rfl) rfl hA rfl ⟨false, rfl, no_iff (fun h => hne (hvl ▸ h.2.1)), hH.kp⟩
  · have hne : ((mkM l).length : Int) ≠ (l.length : Int) := by assumption
    exact rt1 (.inl rfl) rfl hA rfl ⟨false, rfl, no_iff (fun h => hne (by rw [h.2.2.1])), hH.kp⟩
  · have hne : (lkI (mkM l) 0).getD 0 ≠ 0 := by assumption
    exact rt1 (.inl rfl) rfl hA rfl ⟨false, rfl, no_iff (fun h => hne ((rgM_eq _ _).trans h.2.2.2.1)), hH.kp⟩
  · have hne : (lkI (mkM l) 1).getD 0 ≠ 1 := by assumption
    exact rt1 (.inl rfl) rfl hA rfl ⟨false, rfl, no_iff (fun h => hne ((rgM_eq _ _).trans h.2.2.2.2.1)), hH.kp⟩
  have h1 : srt vl = srt (varsL f.bs.l) := nd_f (by assumption)
  have h2 : (mkM l).length = l.length := by
    have : ¬ ((mkM l).length : Int) ≠ (l.length : Int) := by assumption
    omega
  have h3 : rgM (mkM l) 0 = 0 := by
    have : ¬ (lkI (mkM l) 0).getD 0 ≠ 0 := by assumption
    rw [← rgM_eq]
    omega
  have h4 : rgM (mkM l) 1 = 1 := by
    have : ¬ (lkI (mkM l) 1).getD 0 ≠ 1 := by assumption
    rw [← rgM_eq]
    omega
  (refine st_op hA rfl rfl (by decide) (op_call rfl rfl rfl (each_spec 23 #[.pointer (some (bat bR 0))] _ _ w0 _ _ f () (atR_spec w0 bR mR (mkM l)) (HS.shut (L := [_, _]) ((hH.up 2 rfl).up 3 rfl |>.perm (by (repeat (first | exact List.Perm.refl _ | exact List.Perm.nil | refine perm_pick 0 rfl ?_ | refine perm_pick 1 rfl ?_ | refine perm_pick 2 rfl ?_ | refine perm_pick 3 rfl ?_ | refine perm_pick 4 rfl ?_ | refine perm_pick 5 rfl ?_ | refine perm_pick 6 rfl ?_ | refine perm_pick 7 rfl ?_ | refine perm_pick 8 rfl ?_ | refine perm_pick 9 rfl ?_ | refine perm_pick 10 rfl ?_ | refine perm_pick 11 rfl ?_))))) hR hU hS.bs hS.each hS.sets)) ?_; clear hA hH; rintro _ w ⟨ss, hsl, hF, h⟩ a hA)
  have h5 : srt (l.map Rg.v) = srt (varsL f.bs.l) := hvl ▸ h1
  rcases h with ⟨pl, s1, hpl, hgo, rfl, hH⟩ | ⟨sl, p, s1, hsl2, hp, hno, rfl, hH⟩
  · repeat' (first | (first | (refine GT ?_ ?_ <;> intro hg <;> clear hA a <;> intro a hA <;> (first | exact FA | replace hg := of_decide_eq_true hg | replace hg := of_decide_eq_false hg | skip)) | (refine QT ?_; clear hA a; intro a hA) | (first | (refine BT ?_; clear hA hH; rintro _ w ⟨bN, rfl, hH⟩ a hA) | (refine LT ?_; clear hA hH; rintro _ w ⟨oN, rfl, hH⟩ a hA) | (refine AT ?_; clear hA; rintro _ w ⟨oN, cN, rfl, hH2⟩ a hA; clear hH; have hH := (hH2 _ (by (repeat constructor))).tail; clear hH2) | (refine S0T ?_; clear hH; rintro _ w hH) )) | ((first | refine CT ?_ | (refine DT ?_ ?_ <;> intro hc <;> try (exfalso; omega))) <;> repeat' refine CT ?_) | (first | (refine DSK ?_; clear hA a; intro a hA) | (first | (refine DLT ?_; clear hA hH; rintro _ w ⟨oN, rfl, hH⟩; refine ⟨STT, ?_⟩; intro a hA) | (refine DAT ?_; clear hA; rintro _ w ⟨oN, cN, rfl, hH2⟩; clear hH; have hH := (hH2 _ (by (repeat constructor))).tail; clear hH2; refine ⟨STT, ?_⟩; intro a hA))) )
    exact rt1 (.inl rfl) rfl hA rfl ⟨true, rfl, yes_iff ⟨hge, h5, h2, h3, h4, allOk_yes hU hsl hF hpl hgo⟩, hH.kp⟩
  · repeat' (first | (first | (refine GT ?_ ?_ <;> intro hg <;> clear hA a <;> intro a hA <;> (first | exact FA | replace hg := of_decide_eq_true hg | replace hg := of_decide_eq_false hg | skip)) | (refine QT ?_; clear hA a; intro a hA) | (first | (refine BT ?_; clear hA hH; rintro _ w ⟨bN, rfl, hH⟩ a hA) | (refine LT ?_; clear hA hH; rintro _ w ⟨oN, rfl, hH⟩ a hA) | (refine AT ?_; clear hA; rintro _ w ⟨oN, cN, rfl, hH2⟩ a hA; clear hH; have hH := (hH2 _ (by (repeat constructor))).tail; clear hH2) | (refine S0T ?_; clear hH; rintro _ w hH) )) | ((first | refine CT ?_ | (refine DT ?_ ?_ <;> intro hc <;> try (exfalso; omega))) <;> repeat' refine CT ?_) | (first | (refine DSK ?_; clear hA a; intro a hA) | (first | (refine DLT ?_; clear hA hH; rintro _ w ⟨oN, rfl, hH⟩; refine ⟨STT, ?_⟩; intro a hA) | (refine DAT ?_; clear hA; rintro _ w ⟨oN, cN, rfl, hH2⟩; clear hH; have hH := (hH2 _ (by (repeat constructor))).tail; clear hH2; refine ⟨STT, ?_⟩; intro a hA))) )
    exact rt1 (.inl rfl) rfl hA rfl ⟨false, rfl, no_iff (fun h => allOk_no hsl hF hsl2 hp hno h.2.2.2.2.2), hH.kp⟩
end Go.Proofs.Ytjfanjcoppeeaaa
namespace Go.Proofs.Ytjfanjcoppeeaaa
open Go Go.Fw
set_option linter.unusedVariables false
def regsOf (vs : List Int) (m : List (Int × Int)) : List Rg := vs.map fun x => ⟨x, rgM m x⟩
theorem regsOf_next {vs : List Int} {i : Nat} {x : Int} {m : List (Int × Int)} (h : vs[i]? = some x) : regsOf (vs.take (i + 1)) m = regsOf (vs.take i) m ++ [⟨x, rgM m x⟩] := by
  unfold regsOf
  rw [take_snoc h, List.map_append]
  rfl
theorem regsOf_len (vs : List Int) (m : List (Int × Int)) : (regsOf vs m).length = vs.length := List.length_map _
theorem regsOf_0 (vs : List Int) (m : List (Int × Int)) : regsOf (vs.take 0) m = [] := by rw [List.take_zero]; rfl
theorem flatR_snoc (l : List Rg) (x : Int) (r : Int) : flat encR l ++ [.int .i64 x, .int .i64 r] = flat encR (l ++ [⟨x, r⟩]) := by rw [flat_snoc]; rfl
theorem regsOf_next_len {vs : List Int} {i : Nat} {x : Int} {m : List (Int × Int)} (h : vs[i]? = some x) : (regsOf (vs.take i) m).length + 1 = (regsOf (vs.take (i + 1)) m).length := by rw [regsOf_next h, List.length_append]; rfl
theorem flatR_nil : flat encR [] = [] := rfl
def m01 : List (Int × Int) := setI (setI [] 0 0) 1 1
theorem atC_some (s : Nat × List (Int × Int)) (p : Pl) : atC s p ≠ none := by unfold atC; exact fun h => by cases h
set_option maxRecDepth 10000 attribute [local irreducible] Code.wp wpList Calls Ex Op1 sat bat blk cb own Go.Fw.mp Go.Fw.mpO Go.Fw.mpI Go.Fw.mpE Go.Fw.itr HS Rd Ret wkD Hp Cl Cls Exit.then Exit.inBlock Exit.noGoto bodyPost Go.Fw.flat wk2 Go.Fw.all Go.Fw.owns wpOp
attribute [local irreducible] sk mpK srt sko mvO insP blkP skP goes slots slotB varsL mkM AllOk rgM atC regsOf

set_option maxHeartbeats 8000000 in
theorem Colour_spec (w0 : World) (f : Gr) (k : Int) (hR : RdG w0 f) (hU : Up f) (hS : Small f) :
    Ret Try.prog 12 #[.agg (encG f).toArray, .int .i64 k] w0 (fun v w => ∃ ss pl s1, ss.length = f.bs.l.length ∧ (∀ n, FixAt f ss n) ∧ FA2 (IsAt f ss) (slots f f.bs.l.length) pl ∧ goes atC (2, m01) pl = some s1 ∧
      ((k < (s1.1 : Nat) ∧ v = .tuple #[.slice none 0 0, .int .i64 3] ∧ Kp w0 noM w) ∨
       ((s1.1 : Nat) ≤ k ∧ ∃ o c, v = .tuple #[.slice o (regsOf (srt (varsL f.bs.l)) s1.2).length c, .int .i64 0] ∧ HS w0 noM [own 40 2 o (regsOf (srt (varsL f.bs.l)) s1.2).length c (flat encR (regsOf (srt (varsL f.bs.l)) s1.2))] w))) := by
  have hH : HS w0 noM [] w0 := HS.init w0 noM
  (refine enter (N := 36) Try.func12 rfl Try.ntmps12 rfl ?_; intro a hA; dsimp only [sl0, Nat.reduceAdd] at hA)
  repeat' (first | (first | (refine GT ?_ ?_ <;> intro hg <;> clear hA a <;> intro a hA <;> (first | exact FA | replace hg := of_decide_eq_true hg | replace hg := of_decide_eq_false hg | skip)) | (refine QT ?_; clear hA a; intro a hA) | (first | (refine BT ?_; clear hA hH; rintro _ w ⟨bN, rfl, hH⟩ a hA) | (refine LT ?_; clear hA hH; rintro _ w ⟨oN, rfl, hH⟩ a hA) | (refine AT ?_; clear hA; rintro _ w ⟨oN, cN, rfl, hH2⟩ a hA; clear hH; have hH := (hH2 _ (by (repeat constructor))).tail; clear hH2) | (refine S0T ?_; clear hH; rintro _ w hH) )) | ((first | refine CT ?_ | (refine DT ?_ ?_ <;> intro hc <;> try (exfalso; omega))) <;> repeat' refine CT ?_) | (first | (refine DSK ?_; clear hA a; intro a hA) | (first | (refine DLT ?_; clear hA hH; rintro _ w ⟨oN, rfl, hH⟩; refine ⟨STT, ?_⟩; intro a hA) | (refine DAT ?_; clear hA; rintro _ w ⟨oN, cN, rfl, hH2⟩; clear hH; have hH := (hH2 _ (by (repeat constructor))).tail; clear hH2; refine ⟨STT, ?_⟩; intro a hA))) )
  obtain ⟨bP, hbP⟩ : ∃ x, x = bN := ⟨_, rfl⟩
  rw [← hbP] at hA hH
  clear hbP bN
  (refine st_op hA rfl rfl (by decide) (op_makeMapI hH) ?_; clear hA hH; rintro _ w ⟨mR, rfl, hH⟩ a hA)
  repeat' (first | (first | (refine GT ?_ ?_ <;> intro hg <;> clear hA a <;> intro a hA <;> (first | exact FA | replace hg := of_decide_eq_true hg | replace hg := of_decide_eq_false hg | skip)) | (refine QT ?_; clear hA a; intro a hA) | (first | (refine BT ?_; clear hA hH; rintro _ w ⟨bN, rfl, hH⟩ a hA) | (refine LT ?_; clear hA hH; rintro _ w ⟨oN, rfl, hH⟩ a hA) | (refine AT ?_; clear hA; rintro _ w ⟨oN, cN, rfl, hH2⟩ a hA; clear hH; have hH := (hH2 _ (by (repeat constructor))).tail; clear hH2) | (refine S0T ?_; clear hH; rintro _ w hH) | (apply st_op0 hA rfl rfl; apply op_insertI; rfl; rfl; rfl; exact hH; (repeat constructor); clear hH; rintro _ w hH))) | ((first | refine CT ?_ | (refine DT ?_ ?_ <;> intro hc <;> try (exfalso; omega))) <;> repeat' refine CT ?_) | (first | (refine DSK ?_; clear hA a; intro a hA) | (first | (refine DLT ?_; clear hA hH; rintro _ w ⟨oN, rfl, hH⟩; refine ⟨STT, ?_⟩; intro a hA) | (refine DAT ?_; clear hA; rintro _ w ⟨oN, cN, rfl, hH2⟩; clear hH; have hH := (hH2 _ (by (repeat constructor))).tail; clear hH2; refine ⟨STT, ?_⟩; intro a hA))) )
  obtain ⟨bR, hbR⟩ : ∃ x, x = bN := ⟨_, rfl⟩
  rw [← hbR] at hA hH
  clear hbR bN
  (refine st_op hA rfl rfl (by decide) (op_call rfl rfl rfl (each_spec 30 #[.pointer (some (bat bP 0)), .pointer (some (bat bR 0))] _ _ w0 _ _ f (2, m01) (atC_spec w0 bP bR mR) (HS.facI_shut (by decide) (HS.shut (L := [_, _, _]) (hH.up 2 rfl))) hR hU hS.bs hS.each hS.sets)) ?_; clear hA hH; rintro _ w ⟨ss, hsl, hF, h⟩ a hA)
  rcases h with ⟨pl, s1, hpl, hgo, rfl, hH⟩ | ⟨sl, p, s1, hsl2, hp, hno, rfl, hH⟩
  rotate_left
  · exact absurd hno (atC_some _ _)
  obtain ⟨hpr, hH⟩ := hH.facI_open
  replace hH := hH.open_
  dsimp only [List.cons_append, List.nil_append] at hH hpr
  repeat' (first | (first | (refine GT ?_ ?_ <;> intro hg <;> clear hA a <;> intro a hA <;> (first | exact FA | replace hg := of_decide_eq_true hg | replace hg := of_decide_eq_false hg | skip)) | (refine QT ?_; clear hA a; intro a hA) | (first | (refine BT ?_; clear hA hH; rintro _ w ⟨bN, rfl, hH⟩ a hA) | (refine LT ?_; clear hA hH; rintro _ w ⟨oN, rfl, hH⟩ a hA) | (refine AT ?_; clear hA; rintro _ w ⟨oN, cN, rfl, hH2⟩ a hA; clear hH; have hH := (hH2 _ (by (repeat constructor))).tail; clear hH2) | (refine S0T ?_; clear hH; rintro _ w hH) )) | ((first | refine CT ?_ | (refine DT ?_ ?_ <;> intro hc <;> try (exfalso; omega))) <;> repeat' refine CT ?_) | (first | (refine DSK ?_; clear hA a; intro a hA) | (first | (refine DLT ?_; clear hA hH; rintro _ w ⟨oN, rfl, hH⟩; refine ⟨STT, ?_⟩; intro a hA) | (refine DAT ?_; clear hA; rintro _ w ⟨oN, cN, rfl, hH2⟩; clear hH; have hH := (hH2 _ (by (repeat constructor))).tail; clear hH2; refine ⟨STT, ?_⟩; intro a hA))) )
  · exact rt2 (.inl rfl) rfl hA rfl rfl ⟨ss, pl, s1, hsl, hF, hpl, hgo, .inl ⟨by omega, rfl, hH.kp⟩⟩
  have hge : (s1.1 : Int) ≤ k := by omega
  (refine st_op hA rfl rfl (by decide) (op_call rfl rfl rfl (variables_spec w0 _ _ f hH hR hS.vs)) ?_; clear hA hH; rintro _ w ⟨oV, cV, rfl, hH⟩ a hA)
  obtain ⟨vs, hvs⟩ : ∃ x, x = srt (varsL f.bs.l) := ⟨_, rfl⟩
  have hvl : vs.length ≤ 1000000 := by rw [hvs, srt_len]; exact hS.vs
  rw [← hvs] at hA hH ⊢
  have hspV := hH.own_sp (T := 3) (o := oV) (.head _)
  repeat' (first | (first | (refine GT ?_ ?_ <;> intro hg <;> clear hA a <;> intro a hA <;> (first | exact FA | replace hg := of_decide_eq_true hg | replace hg := of_decide_eq_false hg | skip)) | (refine QT ?_; clear hA a; intro a hA) | (first | (refine BT ?_; clear hA hH; rintro _ w ⟨bN, rfl, hH⟩ a hA) | (refine LT ?_; clear hA hH; rintro _ w ⟨oN, rfl, hH⟩ a hA) | (refine AT ?_; clear hA; rintro _ w ⟨oN, cN, rfl, hH2⟩ a hA; clear hH; have hH := (hH2 _ (by (repeat constructor))).tail; clear hH2) | (refine S0T ?_; clear hH; rintro _ w hH) )) | ((first | refine CT ?_ | (refine DT ?_ ?_ <;> intro hc <;> try (exfalso; omega))) <;> repeat' refine CT ?_) | (first | (refine DSK ?_; clear hA a; intro a hA) | (first | (refine DLT ?_; clear hA hH; rintro _ w ⟨oN, rfl, hH⟩; refine ⟨STT, ?_⟩; intro a hA) | (refine DAT ?_; clear hA; rintro _ w ⟨oN, cN, rfl, hH2⟩; clear hH; have hH := (hH2 _ (by (repeat constructor))).tail; clear hH2; refine ⟨STT, ?_⟩; intro a hA))) )
  refine wp_lpk (S := Nat) (fun i a w => ∃ o c, (i ≤ vs.length) ∧ HS w0 noM [own 40 2 o (regsOf (vs.take i) s1.2).length c (flat encR (regsOf (vs.take i) s1.2)), own 3 1 oV vs.length cV (flat Fw.encI vs), cb bR 67 [.map (some mR)], mpI mR s1.2] w ∧
      Sl 36 [(22, .int .i64 i), (21, .int .i64 vs.length), (20, .slice oV vs.length cV), (7, .pointer (some (bat bR 0))), (8, .slice o (regsOf (vs.take i) s1.2).length c)] a) (fun i => vs.length - i)
    (fun a w => ∃ o c, HS w0 noM [own 40 2 o (regsOf vs s1.2).length c (flat encR (regsOf vs s1.2))] w ∧ Sl 36 [(8, .slice o (regsOf vs s1.2).length c)] a) 0 ⟨none, 0, Nat.zero_le _, (by rw [regsOf_0, flatR_nil]; exact HS.left (H1 := [_, _, _, _]) ((hH.nil_own 40 2).perm (by (repeat (first | exact List.Perm.refl _ | exact List.Perm.nil | refine perm_pick 0 rfl ?_ | refine perm_pick 1 rfl ?_ | refine perm_pick 2 rfl ?_ | refine perm_pick 3 rfl ?_ | refine perm_pick 4 rfl ?_ | refine perm_pick 5 rfl ?_ | refine perm_pick 6 rfl ?_ | refine perm_pick 7 rfl ?_ | refine perm_pick 8 rfl ?_ | refine perm_pick 9 rfl ?_ | refine perm_pick 10 rfl ?_ | refine perm_pick 11 rfl ?_))))), (by rw [regsOf_0]; exact (hA.sub (by (repeat (first | exact trivial | refine ⟨rfl, ?_⟩)))))⟩ ?_ ?_
  · clear hA hH
    rintro i a w ⟨o, c, hi, hH, hA⟩
    by_cases hlt : i < vs.length
    rotate_left
    · obtain rfl : i = vs.length := by omega
      rw [List.take_length] at hA hH
      repeat' (first | (first | (refine GT ?_ ?_ <;> intro hg <;> clear hA a <;> intro a hA <;> (first | exact FA | replace hg := of_decide_eq_true hg | replace hg := of_decide_eq_false hg | skip)) | (refine QT ?_; clear hA a; intro a hA) | (first | (refine BT ?_; clear hA hH; rintro _ w ⟨bN, rfl, hH⟩ a hA) | (refine LT ?_; clear hA hH; rintro _ w ⟨oN, rfl, hH⟩ a hA) | (refine AT ?_; clear hA; rintro _ w ⟨oN, cN, rfl, hH2⟩ a hA; clear hH; have hH := (hH2 _ (by (repeat constructor))).tail; clear hH2) | (refine S0T ?_; clear hH; rintro _ w hH) )) | ((first | refine CT ?_ | (refine DT ?_ ?_ <;> intro hc <;> try (exfalso; omega))) <;> repeat' refine CT ?_) | (first | (refine DSK ?_; clear hA a; intro a hA) | (first | (refine DLT ?_; clear hA hH; rintro _ w ⟨oN, rfl, hH⟩; refine ⟨STT, ?_⟩; intro a hA) | (refine DAT ?_; clear hA; rintro _ w ⟨oN, cN, rfl, hH2⟩; clear hH; have hH := (hH2 _ (by (repeat constructor))).tail; clear hH2; refine ⟨STT, ?_⟩; intro a hA))) )
      exact ⟨o, c, hH.head, (hA.sub (by (repeat (first | exact trivial | refine ⟨rfl, ?_⟩))))⟩
    obtain ⟨x, hx⟩ : ∃ x, vs[i]? = some x := ⟨_, List.getElem?_eq_getElem hlt⟩
    have hv : (flat Fw.encI vs)[i * 1]? = some (.int .i64 x) := flat_get (off := 0) Fw.encI_len hx rfl
    have hml : (regsOf (vs.take i) s1.2).length ≤ 1000000 := by rw [regsOf_len, List.length_take]; omega
    repeat' (first | (first | (refine GT ?_ ?_ <;> intro hg <;> clear hA a <;> intro a hA <;> (first | exact FA | replace hg := of_decide_eq_true hg | replace hg := of_decide_eq_false hg | skip)) | ((first | apply st_ex hA hH rfl rfl (by decide) | apply dr_ex hA rfl rfl rfl (by decide) | apply dr_exp hA rfl rfl rfl (by decide) | apply dr_ex3 hA hH rfl rfl rfl (by decide)); (first | (apply ex_indexAddr_nat; rfl; rfl; omega; exact hspV) | (apply ex_load; rfl; apply cl_own (T := 3); exact MEMT; exact hv)); clear hA a; intro a hA) | (refine QT ?_; clear hA a; intro a hA) | (first | (refine BT ?_; clear hA hH; rintro _ w ⟨bN, rfl, hH⟩ a hA) | (refine LT ?_; clear hA hH; rintro _ w ⟨oN, rfl, hH⟩ a hA) | (refine AT ?_; clear hA; rintro _ w ⟨oN, cN, rfl, hH2⟩ a hA; clear hH; have hH := (hH2 _ (by (repeat constructor))).tail; clear hH2) | (refine S0T ?_; clear hH; rintro _ w hH) )) | ((first | refine CT ?_ | (refine DT ?_ ?_ <;> intro hc <;> try (exfalso; omega))) <;> repeat' refine CT ?_) | (first | (refine DSK ?_; clear hA a; intro a hA) | (first | (refine DLT ?_; clear hA hH; rintro _ w ⟨oN, rfl, hH⟩; refine ⟨STT, ?_⟩; intro a hA) | (refine DAT ?_; clear hA; rintro _ w ⟨oN, cN, rfl, hH2⟩; clear hH; have hH := (hH2 _ (by (repeat constructor))).tail; clear hH2; refine ⟨STT, ?_⟩; intro a hA))) )
    rw [rgM_eq, flatR_snoc, ← regsOf_next hx, regsOf_next_len hx] at hH
    rw [regsOf_next_len hx] at hA
    exact ⟨i + 1, ⟨oN, cN, hlt, hH, (hA.sub (by (repeat (first | exact trivial | refine ⟨rfl, ?_⟩))))⟩, by omega⟩
  clear hA hH
  rintro a w ⟨o, c, hH, hA⟩
  repeat' (first | (first | (refine GT ?_ ?_ <;> intro hg <;> clear hA a <;> intro a hA <;> (first | exact FA | replace hg := of_decide_eq_true hg | replace hg := of_decide_eq_false hg | skip)) | (refine QT ?_; clear hA a; intro a hA) | (first | (refine BT ?_; clear hA hH; rintro _ w ⟨bN, rfl, hH⟩ a hA) | (refine LT ?_; clear hA hH; rintro _ w ⟨oN, rfl, hH⟩ a hA) | (refine AT ?_; clear hA; rintro _ w ⟨oN, cN, rfl, hH2⟩ a hA; clear hH; have hH := (hH2 _ (by (repeat constructor))).tail; clear hH2) | (refine S0T ?_; clear hH; rintro _ w hH) )) | ((first | refine CT ?_ | (refine DT ?_ ?_ <;> intro hc <;> try (exfalso; omega))) <;> repeat' refine CT ?_) | (first | (refine DSK ?_; clear hA a; intro a hA) | (first | (refine DLT ?_; clear hA hH; rintro _ w ⟨oN, rfl, hH⟩; refine ⟨STT, ?_⟩; intro a hA) | (refine DAT ?_; clear hA; rintro _ w ⟨oN, cN, rfl, hH2⟩; clear hH; have hH := (hH2 _ (by (repeat constructor))).tail; clear hH2; refine ⟨STT, ?_⟩; intro a hA))) )
  exact rt2 (.inl rfl) rfl hA rfl rfl ⟨ss, pl, s1, hsl, hF, hpl, hgo, .inr ⟨hge, o, c, rfl, hH⟩⟩
end Go.Proofs.Ytjfanjcoppeeaaa
namespace Go.Proofs.Ytjfanjcoppeeaaa
open Go Go.Fw
set_option linter.unusedVariables false
/-- row n holds what lives into block n, rising -/
def LiveOk (ss : List (Option (Nat × List Int))) (rows : List (List Int)) : Prop := ∀ (n : Nat) (r : List Int), rows[n]? = some r → (∀ x, x ∈ r ↔ x ∈ setAt ss n) ∧ r.Pairwise (· ≤ ·) ∧ r.Nodup
theorem live_add {ss : List (Option (Nat × List Int))} {rows : List (List Int)} {i : Nat} {st : Option (Nat × List Int)} {r : List Int} (h : LiveOk ss rows) (hl : rows.length = i) (hs : ss[i]? = some st) (h1 : ∀ x, x ∈ r ↔ x ∈ kso st) (h2 : r.Pairwise (· ≤ ·)) (h3 : r.Nodup) : LiveOk ss (rows ++ [r]) := by
  intro n s hn
  rcases Nat.lt_or_ge n rows.length with h4 | h4
  · rw [List.getElem?_append_left h4] at hn
    exact h n s hn
  · rw [List.getElem?_append_right h4] at hn
    have h5 := (List.getElem?_eq_some_iff.1 hn).1
    have h6 : n = i := by
      have : n - rows.length < 1 := by simpa using h5
      omega
    subst h6
    rw [hl, Nat.sub_self] at hn
    cases hn
    refine ⟨fun x => (h1 x).trans ?_, h2, h3⟩
    unfold setAt
    rw [hs]
    rfl
theorem flatS_snoc (l : List Sd) (o : Option Addr) (n c : Nat) : flat Fw.encS l ++ [.slice o n c] = flat Fw.encS (l ++ [(o, n, c)]) := by rw [flat_snoc]; rfl
theorem lenD (l : List Sd) (x : Sd) : (l ++ [x]).length = l.length + 1 := by rw [List.length_append]; rfl
set_option maxRecDepth 10000 attribute [local irreducible] Code.wp wpList Calls Ex Op1 sat bat blk cb own Go.Fw.mp Go.Fw.mpO Go.Fw.mpI Go.Fw.mpE Go.Fw.itr HS Rd Ret wkD Hp Cl Cls Exit.then Exit.inBlock Exit.noGoto bodyPost Go.Fw.flat wk2 Go.Fw.all Go.Fw.owns wpOp
attribute [local irreducible] sk mpK srt sko mvO insP blkP skP varsL

set_option maxHeartbeats 8000000 in
theorem Live_spec (w0 : World) (f : Gr) (hR : RdG w0 f) (hU : Up f) (hS : Small f) :
    Ret Try.prog 14 #[.agg (encG f).toArray] w0 (fun v w => ∃ ss ds rows o c, ss.length = f.bs.l.length ∧ (∀ n, FixAt f ss n) ∧ rows.length = f.bs.l.length ∧ ds.length = rows.length ∧ LiveOk ss rows ∧ v = .slice o ds.length c ∧
      HS w0 noM [own 44 1 o ds.length c (flat Fw.encS ds), all (owns 3 1 Fw.encI ds rows)] w) := by
  have hH : HS w0 noM [] w0 := HS.init w0 noM
  (refine enter (N := 20) Try.func14 rfl Try.ntmps14 rfl ?_; intro a hA; dsimp only [sl0, Nat.reduceAdd] at hA)
  repeat' (first | (first | (refine GT ?_ ?_ <;> intro hg <;> clear hA a <;> intro a hA <;> (first | exact FA | replace hg := of_decide_eq_true hg | replace hg := of_decide_eq_false hg | skip)) | (refine QT ?_; clear hA a; intro a hA) | (first | (refine BT ?_; clear hA hH; rintro _ w ⟨bN, rfl, hH⟩ a hA) | (refine LT ?_; clear hA hH; rintro _ w ⟨oN, rfl, hH⟩ a hA) | (refine AT ?_; clear hA; rintro _ w ⟨oN, cN, rfl, hH2⟩ a hA; clear hH; have hH := (hH2 _ (by (repeat constructor))).tail; clear hH2) | (refine S0T ?_; clear hH; rintro _ w hH) )) | ((first | refine CT ?_ | (refine DT ?_ ?_ <;> intro hc <;> try (exfalso; omega))) <;> repeat' refine CT ?_) | (first | (refine DSK ?_; clear hA a; intro a hA) | (first | (refine DLT ?_; clear hA hH; rintro _ w ⟨oN, rfl, hH⟩; refine ⟨STT, ?_⟩; intro a hA) | (refine DAT ?_; clear hA; rintro _ w ⟨oN, cN, rfl, hH2⟩; clear hH; have hH := (hH2 _ (by (repeat constructor))).tail; clear hH2; refine ⟨STT, ?_⟩; intro a hA))) )
  obtain ⟨bF, hbF⟩ : ∃ x, x = bN := ⟨_, rfl⟩
  rw [← hbF] at hA hH
  clear hbF bN
  (refine st_op hA rfl rfl (by decide) (op_call rfl rfl rfl (live_spec w0 _ _ f hH hR hU hS.bs)) ?_; clear hA hH; rintro _ w ⟨oI, cI, ss, rfl, hsl, hF, hH⟩ a hA)
  repeat' (first | (first | (refine GT ?_ ?_ <;> intro hg <;> clear hA a <;> intro a hA <;> (first | exact FA | replace hg := of_decide_eq_true hg | replace hg := of_decide_eq_false hg | skip)) | (refine QT ?_; clear hA a; intro a hA) | (first | (refine BT ?_; clear hA hH; rintro _ w ⟨bN, rfl, hH⟩ a hA) | (refine LT ?_; clear hA hH; rintro _ w ⟨oN, rfl, hH⟩ a hA) | (refine AT ?_; clear hA; rintro _ w ⟨oN, cN, rfl, hH2⟩ a hA; clear hH; have hH := (hH2 _ (by (repeat constructor))).tail; clear hH2) | (refine S0T ?_; clear hH; rintro _ w hH) )) | ((first | refine CT ?_ | (refine DT ?_ ?_ <;> intro hc <;> try (exfalso; omega))) <;> repeat' refine CT ?_) | (first | (refine DSK ?_; clear hA a; intro a hA) | (first | (refine DLT ?_; clear hA hH; rintro _ w ⟨oN, rfl, hH⟩; refine ⟨STT, ?_⟩; intro a hA) | (refine DAT ?_; clear hA; rintro _ w ⟨oN, cN, rfl, hH2⟩; clear hH; have hH := (hH2 _ (by (repeat constructor))).tail; clear hH2; refine ⟨STT, ?_⟩; intro a hA))) )
  have hspI := hH.own_sp (T := 72) (o := oI) (.head _)
  refine wp_lpk (S := Nat) (fun i a w => ∃ ds rows o c, (i ≤ f.bs.l.length ∧ rows.length = i ∧ ds.length = rows.length ∧ LiveOk ss rows) ∧ HS w0 noM [own 44 1 o ds.length c (flat Fw.encS ds), all (owns 3 1 Fw.encI ds rows), own 72 1 oI ss.length cI (flat encO ss), all (ss.map sko), cb bF 30 (encG f)] w ∧
      Sl 20 [(9, .int .i64 i), (8, .int .i64 ss.length), (7, .slice oI ss.length cI), (3, .slice o ds.length c)] a) (fun i => f.bs.l.length - i)
    (fun a w => ∃ ds rows o c, (rows.length = f.bs.l.length ∧ ds.length = rows.length ∧ LiveOk ss rows) ∧ HS w0 noM [own 44 1 o ds.length c (flat Fw.encS ds), all (owns 3 1 Fw.encI ds rows)] w ∧ Sl 20 [(3, .slice o ds.length c)] a) 0 ⟨[], [], none, 0, ⟨Nat.zero_le _, rfl, rfl, fun n r h => by cases h⟩, ((HS.owns_nil 3 1 Fw.encI 0 hH).nil_flat Fw.encS 44 1).perm (by (repeat (first | exact List.Perm.refl _ | exact List.Perm.nil | refine perm_pick 0 rfl ?_ | refine perm_pick 1 rfl ?_ | refine perm_pick 2 rfl ?_ | refine perm_pick 3 rfl ?_ | refine perm_pick 4 rfl ?_ | refine perm_pick 5 rfl ?_ | refine perm_pick 6 rfl ?_ | refine perm_pick 7 rfl ?_ | refine perm_pick 8 rfl ?_ | refine perm_pick 9 rfl ?_ | refine perm_pick 10 rfl ?_ | refine perm_pick 11 rfl ?_))), (hA.sub (by (repeat (first | exact trivial | refine ⟨rfl, ?_⟩))))⟩ ?_ ?_
  · clear hA hH
    rintro i a w ⟨ds, rows, o, c, ⟨hi, hrl, hdl, hok⟩, hH, hA⟩
    by_cases hlt : i < f.bs.l.length
    rotate_left
    · obtain rfl : i = f.bs.l.length := by omega
      repeat' (first | (first | (refine GT ?_ ?_ <;> intro hg <;> clear hA a <;> intro a hA <;> (first | exact FA | replace hg := of_decide_eq_true hg | replace hg := of_decide_eq_false hg | skip)) | (refine QT ?_; clear hA a; intro a hA) | (first | (refine BT ?_; clear hA hH; rintro _ w ⟨bN, rfl, hH⟩ a hA) | (refine LT ?_; clear hA hH; rintro _ w ⟨oN, rfl, hH⟩ a hA) | (refine AT ?_; clear hA; rintro _ w ⟨oN, cN, rfl, hH2⟩ a hA; clear hH; have hH := (hH2 _ (by (repeat constructor))).tail; clear hH2) | (refine S0T ?_; clear hH; rintro _ w hH) )) | ((first | refine CT ?_ | (refine DT ?_ ?_ <;> intro hc <;> try (exfalso; omega))) <;> repeat' refine CT ?_) | (first | (refine DSK ?_; clear hA a; intro a hA) | (first | (refine DLT ?_; clear hA hH; rintro _ w ⟨oN, rfl, hH⟩; refine ⟨STT, ?_⟩; intro a hA) | (refine DAT ?_; clear hA; rintro _ w ⟨oN, cN, rfl, hH2⟩; clear hH; have hH := (hH2 _ (by (repeat constructor))).tail; clear hH2; refine ⟨STT, ?_⟩; intro a hA))) )
      exact ⟨ds, rows, o, c, ⟨hrl, hdl, hok⟩, HS.left (H1 := [_, _]) hH, (hA.sub (by (repeat (first | exact trivial | refine ⟨rfl, ?_⟩))))⟩
    obtain ⟨st, hst⟩ : ∃ st, ss[i]? = some st := ⟨_, List.getElem?_eq_getElem (by omega)⟩
    have hbl := List.getElem?_eq_getElem hlt
    have hSb := hS.bs
    have hvI : (flat encO ss)[i * 1]? = some (mvO st) := flat_get (off := 0) encO_len hst (by rw [encO_eq]; rfl)
    have hsm : (ss.map sko)[i]? = some (sko st) := by rw [List.getElem?_map, hst]; rfl
    repeat' (first | (first | (refine GT ?_ ?_ <;> intro hg <;> clear hA a <;> intro a hA <;> (first | exact FA | replace hg := of_decide_eq_true hg | replace hg := of_decide_eq_false hg | skip)) | ((first | apply st_ex hA hH rfl rfl (by decide) | apply dr_ex hA rfl rfl rfl (by decide) | apply dr_exp hA rfl rfl rfl (by decide) | apply dr_ex3 hA hH rfl rfl rfl (by decide)); (first | (apply ex_indexAddr_nat; rfl; rfl; omega; exact hspI) | (apply ex_load; rfl; apply cl_own (T := 72); exact MEMT; exact hvI)); clear hA a; intro a hA) | (refine QT ?_; clear hA a; intro a hA) | (first | (refine BT ?_; clear hA hH; rintro _ w ⟨bN, rfl, hH⟩ a hA) | (refine LT ?_; clear hA hH; rintro _ w ⟨oN, rfl, hH⟩ a hA) | (refine AT ?_; clear hA; rintro _ w ⟨oN, cN, rfl, hH2⟩ a hA; clear hH; have hH := (hH2 _ (by (repeat constructor))).tail; clear hH2) | (refine S0T ?_; clear hH; rintro _ w hH) )) | ((first | refine CT ?_ | (refine DT ?_ ?_ <;> intro hc <;> try (exfalso; omega))) <;> repeat' refine CT ?_) | (first | (refine DSK ?_; clear hA a; intro a hA) | (first | (refine DLT ?_; clear hA hH; rintro _ w ⟨oN, rfl, hH⟩; refine ⟨STT, ?_⟩; intro a hA) | (refine DAT ?_; clear hA; rintro _ w ⟨oN, cN, rfl, hH2⟩; clear hH; have hH := (hH2 _ (by (repeat constructor))).tail; clear hH2; refine ⟨STT, ?_⟩; intro a hA))) )
    replace hH := (hH.up 3 rfl).openAt hsm
    dsimp only [List.eraseIdx_cons_succ, List.eraseIdx_cons_zero] at hH
    have hkl := hS.sets ss hsl hF _ _ (isAt_n hbl hst (sko_nodup (st := st) hH (.head _)))
    (refine st_op hA rfl rfl (by decide) (op_call rfl rfl rfl (sortedS_spec w0 _ _ st hH hkl)) ?_; clear hA hH; rintro _ w ⟨oR, cR, row, rfl, hr1, hr2, hr3, hH⟩ a hA)
    replace hH := (hH.up 1 rfl).perm (H' := sko st :: all ((ss.map sko).eraseIdx i) :: own 3 1 oR row.length cR (flat Fw.encI row) :: own 44 1 o ds.length c (flat Fw.encS ds) :: all (owns 3 1 Fw.encI ds rows) :: own 72 1 oI ss.length cI (flat encO ss) :: cb bF 30 (encG f) :: []) (by (repeat (first | exact List.Perm.refl _ | exact List.Perm.nil | refine perm_pick 0 rfl ?_ | refine perm_pick 1 rfl ?_ | refine perm_pick 2 rfl ?_ | refine perm_pick 3 rfl ?_ | refine perm_pick 4 rfl ?_ | refine perm_pick 5 rfl ?_ | refine perm_pick 6 rfl ?_ | refine perm_pick 7 rfl ?_ | refine perm_pick 8 rfl ?_ | refine perm_pick 9 rfl ?_ | refine perm_pick 10 rfl ?_ | refine perm_pick 11 rfl ?_)))
    replace hH := hH.shutAt (x := sko st) (by rw [List.length_map]; omega)
    rw [set_same hsm] at hH
    replace hH := (HS.pushA (hH.perm (H' := own 3 1 oR row.length cR (flat Fw.encI row) :: all (owns 3 1 Fw.encI ds rows) :: own 44 1 o ds.length c (flat Fw.encS ds) :: own 72 1 oI ss.length cI (flat encO ss) :: all (ss.map sko) :: cb bF 30 (encG f) :: []) (by (repeat (first | exact List.Perm.refl _ | exact List.Perm.nil | refine perm_pick 0 rfl ?_ | refine perm_pick 1 rfl ?_ | refine perm_pick 2 rfl ?_ | refine perm_pick 3 rfl ?_ | refine perm_pick 4 rfl ?_ | refine perm_pick 5 rfl ?_ | refine perm_pick 6 rfl ?_ | refine perm_pick 7 rfl ?_ | refine perm_pick 8 rfl ?_ | refine perm_pick 9 rfl ?_ | refine perm_pick 10 rfl ?_ | refine perm_pick 11 rfl ?_)))))
    rw [← owns_snoc (enc := Fw.encI) hdl (oR, row.length, cR) row] at hH
    repeat' (first | (first | (refine GT ?_ ?_ <;> intro hg <;> clear hA a <;> intro a hA <;> (first | exact FA | replace hg := of_decide_eq_true hg | replace hg := of_decide_eq_false hg | skip)) | (refine QT ?_; clear hA a; intro a hA) | (first | (refine BT ?_; clear hA hH; rintro _ w ⟨bN, rfl, hH⟩ a hA) | (refine LT ?_; clear hA hH; rintro _ w ⟨oN, rfl, hH⟩ a hA) | (refine AT ?_; clear hA; rintro _ w ⟨oN, cN, rfl, hH2⟩ a hA; clear hH; have hH := (hH2 _ (by (repeat constructor))).tail; clear hH2) | (refine S0T ?_; clear hH; rintro _ w hH) )) | ((first | refine CT ?_ | (refine DT ?_ ?_ <;> intro hc <;> try (exfalso; omega))) <;> repeat' refine CT ?_) | (first | (refine DSK ?_; clear hA a; intro a hA) | (first | (refine DLT ?_; clear hA hH; rintro _ w ⟨oN, rfl, hH⟩; refine ⟨STT, ?_⟩; intro a hA) | (refine DAT ?_; clear hA; rintro _ w ⟨oN, cN, rfl, hH2⟩; clear hH; have hH := (hH2 _ (by (repeat constructor))).tail; clear hH2; refine ⟨STT, ?_⟩; intro a hA))) )
    rw [flatS_snoc, ← lenD ds (oR, row.length, cR)] at hH
    rw [← lenD ds (oR, row.length, cR)] at hA
    exact ⟨i + 1, ⟨ds ++ [(oR, row.length, cR)], rows ++ [row], oN, cN, ⟨hlt, by rw [List.length_append, hrl]; rfl, by rw [List.length_append, List.length_append, hdl]; rfl, live_add hok hrl hst hr1 hr2 hr3⟩, hH.perm (by (repeat (first | exact List.Perm.refl _ | exact List.Perm.nil | refine perm_pick 0 rfl ?_ | refine perm_pick 1 rfl ?_ | refine perm_pick 2 rfl ?_ | refine perm_pick 3 rfl ?_ | refine perm_pick 4 rfl ?_ | refine perm_pick 5 rfl ?_ | refine perm_pick 6 rfl ?_ | refine perm_pick 7 rfl ?_ | refine perm_pick 8 rfl ?_ | refine perm_pick 9 rfl ?_ | refine perm_pick 10 rfl ?_ | refine perm_pick 11 rfl ?_))), (hA.sub (by (repeat (first | exact trivial | refine ⟨rfl, ?_⟩))))⟩, by omega⟩
  clear hA hH
  rintro a w ⟨ds, rows, o, c, ⟨hrl, hdl, hok⟩, hH, hA⟩
  repeat' (first | (first | (refine GT ?_ ?_ <;> intro hg <;> clear hA a <;> intro a hA <;> (first | exact FA | replace hg := of_decide_eq_true hg | replace hg := of_decide_eq_false hg | skip)) | (refine QT ?_; clear hA a; intro a hA) | (first | (refine BT ?_; clear hA hH; rintro _ w ⟨bN, rfl, hH⟩ a hA) | (refine LT ?_; clear hA hH; rintro _ w ⟨oN, rfl, hH⟩ a hA) | (refine AT ?_; clear hA; rintro _ w ⟨oN, cN, rfl, hH2⟩ a hA; clear hH; have hH := (hH2 _ (by (repeat constructor))).tail; clear hH2) | (refine S0T ?_; clear hH; rintro _ w hH) )) | ((first | refine CT ?_ | (refine DT ?_ ?_ <;> intro hc <;> try (exfalso; omega))) <;> repeat' refine CT ?_) | (first | (refine DSK ?_; clear hA a; intro a hA) | (first | (refine DLT ?_; clear hA hH; rintro _ w ⟨oN, rfl, hH⟩; refine ⟨STT, ?_⟩; intro a hA) | (refine DAT ?_; clear hA; rintro _ w ⟨oN, cN, rfl, hH2⟩; clear hH; have hH := (hH2 _ (by (repeat constructor))).tail; clear hH2; refine ⟨STT, ?_⟩; intro a hA))) )
  exact rt1 (.inl rfl) rfl hA rfl ⟨ss, ds, rows, o, c, hsl, hF, hrl, hdl, hok, rfl, hH⟩
end Go.Proofs.Ytjfanjcoppeeaaa
namespace Go.Proofs.Ytjfanjcoppeeaaa
open Go Go.Fw
set_option linter.unusedVariables false
open Classical in
/-- what lives behind an Ins, by the document -/
noncomputable def bhB (ss : List (Option (Nat × List Int))) (bl : Blc) (k : Nat) (x : Int) : Bool := decide (x ≠ (bl.is.l.getD k ins0).x ∧ LvAt ss bl (k + 1) x)
noncomputable def bhF (f : Gr) (ss : List (Option (Nat × List Int))) (bl : Blc) (k : Nat) : List Int := filF (bhB ss bl k) (vrs f)
theorem getD_at {l : List Ins} {k : Nat} {i : Ins} (h : l[k]? = some i) : l.getD k ins0 = i := by
  rw [List.getD_eq_getElem?_getD, h]
  rfl
open Classical in
theorem bhB_iff {ss : List (Option (Nat × List Int))} {bl : Blc} {k : Nat} {ins : Ins} (h : bl.is.l[k]? = some ins) (x : Int) : bhB ss bl k x = true ↔ x ≠ ins.x ∧ LvAt ss bl (k + 1) x := by
  unfold bhB
  rw [getD_at h]
  exact ⟨fun h => of_decide_eq_true h, fun h => decide_eq_true h⟩
noncomputable def cnt (f : Gr) (ss : List (Option (Nat × List Int))) (sl : Nat × Option Nat) : Nat :=
  let bl := f.bs.l.getD sl.1 blc0
  match sl.2 with
  | none => bl.ps.l.length + (intoF f ss sl.1 (vrs f)).length
  | some k => 1 + (bhF f ss bl k).length
noncomputable def prs (f : Gr) (ss : List (Option (Nat × List Int))) (sls : List (Nat × Option Nat)) : Nat := (sls.map (cnt f ss)).foldl max 2
theorem blD {f : Gr} {n : Nat} {bl : Blc} (h : f.bs.l[n]? = some bl) : f.bs.l.getD n blc0 = bl := by
  rw [List.getD_eq_getElem?_getD, h]
  rfl
theorem cnt_n {f : Gr} {ss : List (Option (Nat × List Int))} {n : Nat} {bl : Blc} (h : f.bs.l[n]? = some bl) : cnt f ss (n, none) = bl.ps.l.length + (intoF f ss n (vrs f)).length := by
  unfold cnt
  rw [blD h]
theorem cnt_i {f : Gr} {ss : List (Option (Nat × List Int))} {n k : Nat} {bl : Blc} (h : f.bs.l[n]? = some bl) : cnt f ss (n, some k) = 1 + (bhF f ss bl k).length := by
  unfold cnt
  rw [blD h]
theorem bhF_eq (f : Gr) (ss : List (Option (Nat × List Int))) (bl : Blc) (k : Nat) : bhF f ss bl k = filF (bhB ss bl k) (vrs f) := rfl
theorem slotB_0 (n : Nat) : slotB n 0 = [(n, none)] := rfl
theorem slots_0 (f : Gr) : slots f 0 = [] := rfl
theorem vrs_le {f : Gr} (hb : (varsL f.bs.l).length ≤ 1000000) : (vrs f).length ≤ 1000000 := by rw [vrs_len]; exact hb
set_option maxRecDepth 10000 attribute [local irreducible] Code.wp wpList Calls Ex Op1 sat bat blk cb own Go.Fw.mp Go.Fw.mpO Go.Fw.mpI Go.Fw.mpE Go.Fw.itr HS Rd Ret wkD Hp Cl Cls Exit.then Exit.inBlock Exit.noGoto bodyPost Go.Fw.flat wk2 Go.Fw.all Go.Fw.owns wpOp
attribute [local irreducible] sk mpK srt sko mvO insP blkP skP varsL vrs intoF filF bhF cnt prs slots slotB

end Go.Proofs.Ytjfanjcoppeeaaa
namespace Go.Proofs.Ytjfanjcoppeeaaa
open Go Go.Fw
set_option linter.unusedVariables false
def hvL (q : List Int) : List Int := q.foldl insF []
theorem hvL_snoc (q : List Int) (x : Int) : insF (hvL q) x = hvL (q ++ [x]) := by unfold hvL; rw [List.foldl_append]; rfl
theorem hvL_len (q : List Int) : (hvL q).length = q.length := by
  have : ∀ (q s : List Int), (q.foldl insF s).length = q.length + s.length := by
    intro q
    induction q with
    | nil => intro s; exact (Nat.zero_add _).symm
    | cons x q ih =>
      intro s
      rw [List.foldl_cons, ih, insF_len, List.length_cons]
      omega
  exact this q []
theorem mem_hvL {q : List Int} {y : Int} : y ∈ hvL q ↔ y ∈ q := by
  have : ∀ (q s : List Int), y ∈ q.foldl insF s ↔ y ∈ q ∨ y ∈ s := by
    intro q
    induction q with
    | nil => intro s; simp
    | cons x q ih =>
      intro s
      rw [List.foldl_cons, ih, mem_insF, List.mem_cons]
      constructor
      · rintro (h | h | h)
        · exact .inl (.inr h)
        · exact .inl (.inl h)
        · exact .inr h
      · rintro ((h | h) | h)
        · exact .inr (.inl h)
        · exact .inl h
        · exact .inr (.inr h)
  have h := this q []
  unfold hvL
  simpa using h
/-- registers are right at a slot, by the document -/
def okS (f : Gr) (ss : List (Option (Nat × List Int))) (l : List Rg) (sl : Nat × Option Nat) : Prop :=
  ∀ bl, f.bs.l[sl.1]? = some bl → match sl.2 with
    | none => ((bl.ps.l ++ intoF f ss sl.1 (vrs f)).map (regOf l)).Nodup
    | some k => ∀ ins, bl.is.l[k]? = some ins → ∀ x ∈ bhF f ss bl k, regOf l x ≠ regOf l ins.x
def RefP (f : Gr) (ss : List (Option (Nat × List Int))) (l : List Rg) : Prop :=
  (∀ r ∈ l, 0 ≤ r.r) ∧ (l.map Rg.v).Nodup ∧ hvL (l.map Rg.v) = vrs f ∧ regOf l 0 = 0 ∧ regOf l 1 = 1 ∧ ∀ sl ∈ slots f f.bs.l.length, okS f ss l sl
theorem okS_n {f : Gr} {ss : List (Option (Nat × List Int))} {l : List Rg} {n : Nat} {bl : Blc} (hbl : f.bs.l[n]? = some bl) : okS f ss l (n, none) ↔ ((bl.ps.l ++ intoF f ss n (vrs f)).map (regOf l)).Nodup := by
  constructor
  · intro h
    exact h bl hbl
  · intro h b hb
    rw [hbl] at hb
    cases hb
    exact h
theorem okS_i {f : Gr} {ss : List (Option (Nat × List Int))} {l : List Rg} {n k : Nat} {bl : Blc} {ins : Ins} (hbl : f.bs.l[n]? = some bl) (hi : bl.is.l[k]? = some ins) : okS f ss l (n, some k) ↔ ∀ x ∈ bhF f ss bl k, regOf l x ≠ regOf l ins.x := by
  constructor
  · intro h
    exact h bl hbl ins hi
  · intro h b hb i hi'
    rw [hbl] at hb
    cases hb
    rw [hi] at hi'
    cases hi'
    exact h
theorem all_snoc {α : Type} {P : α → Prop} {l : List α} {x : α} (h : ∀ y ∈ l, P y) (hx : P x) : ∀ y ∈ l ++ [x], P y := by
  intro y hy
  rcases List.mem_append.1 hy with h1 | h1
  · exact h y h1
  · rw [List.mem_singleton] at h1
    exact h1 ▸ hx
theorem nd_snoc {l : List Int} {x : Int} (h : l.Nodup) (hx : x ∉ l) : (l ++ [x]).Nodup :=
  List.nodup_append.2 ⟨h, List.nodup_cons.2 ⟨List.not_mem_nil, List.nodup_nil⟩, fun a ha b hb e => by rw [List.mem_singleton] at hb; subst hb; exact hx (e ▸ ha)⟩
theorem nd_not {l : List Rg} {i : Nat} {r : Rg} (hr : l[i]? = some r) (h : r.v ∈ (l.take i).map Rg.v) : ¬ (l.map Rg.v).Nodup := by
  intro hn
  have h4 : ((l.take (i + 1)).map Rg.v).Nodup := List.Nodup.sublist ((List.take_sublist _ _).map _) hn
  rw [map_v_next hr] at h4
  exact (List.nodup_append.1 h4).2.2 _ h _ (.head _) rfl
theorem hvL_nil (l : List Rg) : hvL ((l.take 0).map Rg.v) = [] := by rw [List.take_zero]; rfl
theorem nd_nil (l : List Rg) : ((l.take 0).map Rg.v).Nodup := by rw [List.take_zero]; exact List.nodup_nil
set_option maxRecDepth 10000 attribute [local irreducible] Code.wp wpList Calls Ex Op1 sat bat blk cb own Go.Fw.mp Go.Fw.mpO Go.Fw.mpI Go.Fw.mpE Go.Fw.itr HS Rd Ret wkD Hp Cl Cls Exit.then Exit.inBlock Exit.noGoto bodyPost Go.Fw.flat wk2 Go.Fw.all Go.Fw.owns wpOp
attribute [local irreducible] sk mpK srt sko mvO insP blkP skP varsL vrs intoF filF bhF cnt prs slots slotB hvL regOf

set_option maxHeartbeats 8000000 in
theorem refRight_spec (f : Gr) (ss : List (Option (Nat × List Int))) (hF : ∀ n, FixAt f ss n) (hU : Up f) (hsl : ss.length = f.bs.l.length) (hS : Small f) (w0 : World) (oL : Option Addr) (cL : Nat) (l : List Rg) (hL : Rd w0 oL (flat encR l)) (hll : l.length ≤ 1000000) (hR : RdG w0 f) :
    Ret Try.prog 11 #[.agg (encG f).toArray, .slice oL l.length cL] w0 (fun v w => ∃ b, v = .bool b ∧ (b = true ↔ RefP f ss l) ∧ Kp w0 noM w) := by
  have hH : HS w0 noM [] w0 := HS.init w0 noM
  have hSb := hS.bs
  have hll9 : l.length ≤ 9223372036854775807 := by omega
  have hsp : Sp f.bs.o f.bs.l.length := hR.1.1.sp (sz := 6) (flat_length encBl_len _) (by omega)
  have hspL : Sp oL l.length := hL.sp (sz := 2) (flat_length encR_len _) (by omega)
  (refine enter (N := 126) Try.func11 rfl Try.ntmps11 rfl ?_; intro a hA; dsimp only [sl0, Nat.reduceAdd] at hA)
  repeat' (first | (first | (refine GT ?_ ?_ <;> intro hg <;> clear hA a <;> intro a hA <;> (first | exact FA | replace hg := of_decide_eq_true hg | replace hg := of_decide_eq_false hg | skip)) | (refine QT ?_; clear hA a; intro a hA) | (first | (refine BT ?_; clear hA hH; rintro _ w ⟨bN, rfl, hH⟩ a hA) | (refine LT ?_; clear hA hH; rintro _ w ⟨oN, rfl, hH⟩ a hA) | (refine AT ?_; clear hA; rintro _ w ⟨oN, cN, rfl, hH2⟩ a hA; clear hH; have hH := (hH2 _ (by (repeat constructor))).tail; clear hH2) | (refine S0T ?_; clear hH; rintro _ w hH) )) | ((first | refine CT ?_ | (refine DT ?_ ?_ <;> intro hc <;> try (exfalso; omega))) <;> repeat' refine CT ?_) | (first | (refine DSK ?_; clear hA a; intro a hA) | (first | (refine DLT ?_; clear hA hH; rintro _ w ⟨oN, rfl, hH⟩; refine ⟨STT, ?_⟩; intro a hA) | (refine DAT ?_; clear hA; rintro _ w ⟨oN, cN, rfl, hH2⟩; clear hH; have hH := (hH2 _ (by (repeat constructor))).tail; clear hH2; refine ⟨STT, ?_⟩; intro a hA))) )
  obtain ⟨bF, hbF⟩ : ∃ x, x = bN := ⟨_, rfl⟩
  rw [← hbF] at hA hH
  clear hbF bN
  refine wp_lpk (S := Nat) (fun i a w => ∃ o c, (i ≤ l.length ∧ (∀ r ∈ l.take i, 0 ≤ r.r) ∧ ((l.take i).map Rg.v).Nodup) ∧ HS w0 noM [own 3 1 o (hvL ((l.take i).map Rg.v)).length c (flat Fw.encI (hvL ((l.take i).map Rg.v))), cb bF 30 (encG f)] w ∧
      Sl 126 [(6, .int .i64 i), (5, .slice o (hvL ((l.take i).map Rg.v)).length c), (2, .pointer (some (bat bF 0))), (1, .slice oL l.length cL)] a) (fun i => l.length - i)
    (fun a w => ∃ o c, ((∀ r ∈ l, 0 ≤ r.r) ∧ (l.map Rg.v).Nodup) ∧ HS w0 noM [own 3 1 o (hvL (l.map Rg.v)).length c (flat Fw.encI (hvL (l.map Rg.v))), cb bF 30 (encG f)] w ∧
      Sl 126 [(5, .slice o (hvL (l.map Rg.v)).length c), (2, .pointer (some (bat bF 0))), (1, .slice oL l.length cL)] a) 0 ⟨oN, 0, ⟨Nat.zero_le _, (by rw [List.take_zero]; exact fun r hr => absurd hr List.not_mem_nil), nd_nil l⟩, (by rw [hvL_nil, flatI_nil]; exact hH), (by rw [hvL_nil]; exact (hA.sub (by (repeat (first | exact trivial | refine ⟨rfl, ?_⟩)))))⟩ ?_ ?_
  · clear hA hH
    rintro i a w ⟨o, c, ⟨hi, hp, hn⟩, hH, hA⟩
    by_cases hlt : i < l.length
    rotate_left
    · obtain rfl : i = l.length := by omega
      rw [List.take_length] at hA hH hp hn
      repeat' (first | (first | (refine GT ?_ ?_ <;> intro hg <;> clear hA a <;> intro a hA <;> (first | exact FA | replace hg := of_decide_eq_true hg | replace hg := of_decide_eq_false hg | skip)) | (refine QT ?_; clear hA a; intro a hA) | (first | (refine BT ?_; clear hA hH; rintro _ w ⟨bN, rfl, hH⟩ a hA) | (refine LT ?_; clear hA hH; rintro _ w ⟨oN, rfl, hH⟩ a hA) | (refine AT ?_; clear hA; rintro _ w ⟨oN, cN, rfl, hH2⟩ a hA; clear hH; have hH := (hH2 _ (by (repeat constructor))).tail; clear hH2) | (refine S0T ?_; clear hH; rintro _ w hH) )) | ((first | refine CT ?_ | (refine DT ?_ ?_ <;> intro hc <;> try (exfalso; omega))) <;> repeat' refine CT ?_) | (first | (refine DSK ?_; clear hA a; intro a hA) | (first | (refine DLT ?_; clear hA hH; rintro _ w ⟨oN, rfl, hH⟩; refine ⟨STT, ?_⟩; intro a hA) | (refine DAT ?_; clear hA; rintro _ w ⟨oN, cN, rfl, hH2⟩; clear hH; have hH := (hH2 _ (by (repeat constructor))).tail; clear hH2; refine ⟨STT, ?_⟩; intro a hA))) )
      exact ⟨o, c, ⟨hp, hn⟩, hH, (hA.sub (by (repeat (first | exact trivial | refine ⟨rfl, ?_⟩))))⟩
    obtain ⟨r, hr⟩ : ∃ x, l[i]? = some x := ⟨_, List.getElem?_eq_getElem hlt⟩
    obtain ⟨hv0, hv1⟩ := encR_at hr
    have hml : (hvL ((l.take i).map Rg.v)).length ≤ 1000000 := by rw [hvL_len, List.length_map, List.length_take]; omega
    have hml9 : (hvL ((l.take i).map Rg.v)).length ≤ 9223372036854775807 := by omega
    repeat' (first | (first | (refine GT ?_ ?_ <;> intro hg <;> clear hA a <;> intro a hA <;> (first | exact FA | replace hg := of_decide_eq_true hg | replace hg := of_decide_eq_false hg | skip)) | ((first | apply st_ex hA hH rfl rfl (by decide) | apply dr_ex hA rfl rfl rfl (by decide) | apply dr_exp hA rfl rfl rfl (by decide) | apply dr_ex3 hA hH rfl rfl rfl (by decide)); (first | (apply ex_load; rfl; exact cl_rd hL id hv0) | (apply ex_load; rfl; exact cl_rd hL id hv1) | (apply ex_indexAddr_nat; rfl; rfl; omega; exact hspL)); clear hA a; intro a hA) | (refine QT ?_; clear hA a; intro a hA) | (first | (refine BT ?_; clear hA hH; rintro _ w ⟨bN, rfl, hH⟩ a hA) | (refine LT ?_; clear hA hH; rintro _ w ⟨oN, rfl, hH⟩ a hA) | (refine AT ?_; clear hA; rintro _ w ⟨oN, cN, rfl, hH2⟩ a hA; clear hH; have hH := (hH2 _ (by (repeat constructor))).tail; clear hH2) | (refine S0T ?_; clear hH; rintro _ w hH) )) | ((first | refine CT ?_ | (refine DT ?_ ?_ <;> intro hc <;> try (exfalso; omega))) <;> repeat' refine CT ?_) | (first | (refine DSK ?_; clear hA a; intro a hA) | (first | (refine DLT ?_; clear hA hH; rintro _ w ⟨oN, rfl, hH⟩; refine ⟨STT, ?_⟩; intro a hA) | (refine DAT ?_; clear hA; rintro _ w ⟨oN, cN, rfl, hH2⟩; clear hH; have hH := (hH2 _ (by (repeat constructor))).tail; clear hH2; refine ⟨STT, ?_⟩; intro a hA))) )
    · have hneg : r.r < 0 := by assumption
      exact rt1 (.inl rfl) rfl hA rfl ⟨false, rfl, no_iff (fun h => (by have := h.1 r (List.mem_of_getElem? hr); omega)), hH.kp⟩
    (refine st_op hA rfl rfl (by decide) (op_call rfl rfl rfl (in_spec _ o c _ r.v (hH.own_rd (.head _)) hml9)) ?_; clear hA; rintro _ w ⟨rfl, hk⟩ a hA; replace hH := hH.keep hk; clear hk)
    repeat' (first | (first | (refine GT ?_ ?_ <;> intro hg <;> clear hA a <;> intro a hA <;> (first | exact FA | replace hg := of_decide_eq_true hg | replace hg := of_decide_eq_false hg | skip)) | ((first | apply st_ex hA hH rfl rfl (by decide) | apply dr_ex hA rfl rfl rfl (by decide) | apply dr_exp hA rfl rfl rfl (by decide) | apply dr_ex3 hA hH rfl rfl rfl (by decide)); (first | (apply ex_load; rfl; exact cl_rd hL id hv0) | (apply ex_indexAddr_nat; rfl; rfl; omega; exact hspL)); clear hA a; intro a hA) | (refine QT ?_; clear hA a; intro a hA) | (first | (refine BT ?_; clear hA hH; rintro _ w ⟨bN, rfl, hH⟩ a hA) | (refine LT ?_; clear hA hH; rintro _ w ⟨oN, rfl, hH⟩ a hA) | (refine AT ?_; clear hA; rintro _ w ⟨oN, cN, rfl, hH2⟩ a hA; clear hH; have hH := (hH2 _ (by (repeat constructor))).tail; clear hH2) | (refine S0T ?_; clear hH; rintro _ w hH) )) | ((first | refine CT ?_ | (refine DT ?_ ?_ <;> intro hc <;> try (exfalso; omega))) <;> repeat' refine CT ?_) | (first | (refine DSK ?_; clear hA a; intro a hA) | (first | (refine DLT ?_; clear hA hH; rintro _ w ⟨oN, rfl, hH⟩; refine ⟨STT, ?_⟩; intro a hA) | (refine DAT ?_; clear hA; rintro _ w ⟨oN, cN, rfl, hH2⟩; clear hH; have hH := (hH2 _ (by (repeat constructor))).tail; clear hH2; refine ⟨STT, ?_⟩; intro a hA))) )
    · have hin : r.v ∈ hvL ((l.take i).map Rg.v) := by assumption
      exact rt1 (.inl rfl) rfl hA rfl ⟨false, rfl, no_iff (fun h => nd_not hr (mem_hvL.1 hin) h.2.1), hH.kp⟩
    have hin : ¬ r.v ∈ hvL ((l.take i).map Rg.v) := by assumption
    (refine st_op hA rfl rfl (by decide) (op_call rfl rfl rfl (insert_spec _ o c _ r.v (hH.own_rd (.head _)) hml)) ?_; clear hA; rintro _ w ⟨o2, c2, rfl, hj2⟩ a hA; replace hH := hH.join hj2; clear hj2)
    repeat' (first | (first | (refine GT ?_ ?_ <;> intro hg <;> clear hA a <;> intro a hA <;> (first | exact FA | replace hg := of_decide_eq_true hg | replace hg := of_decide_eq_false hg | skip)) | (refine QT ?_; clear hA a; intro a hA) | (first | (refine BT ?_; clear hA hH; rintro _ w ⟨bN, rfl, hH⟩ a hA) | (refine LT ?_; clear hA hH; rintro _ w ⟨oN, rfl, hH⟩ a hA) | (refine AT ?_; clear hA; rintro _ w ⟨oN, cN, rfl, hH2⟩ a hA; clear hH; have hH := (hH2 _ (by (repeat constructor))).tail; clear hH2) | (refine S0T ?_; clear hH; rintro _ w hH) )) | ((first | refine CT ?_ | (refine DT ?_ ?_ <;> intro hc <;> try (exfalso; omega))) <;> repeat' refine CT ?_) | (first | (refine DSK ?_; clear hA a; intro a hA) | (first | (refine DLT ?_; clear hA hH; rintro _ w ⟨oN, rfl, hH⟩; refine ⟨STT, ?_⟩; intro a hA) | (refine DAT ?_; clear hA; rintro _ w ⟨oN, cN, rfl, hH2⟩; clear hH; have hH := (hH2 _ (by (repeat constructor))).tail; clear hH2; refine ⟨STT, ?_⟩; intro a hA))) )
    rw [hvL_snoc, ← map_v_next hr] at hA hH
    exact ⟨i + 1, ⟨o2, c2, ⟨hlt, ge_next hr hp (by omega), by rw [map_v_next hr]; exact nd_snoc hn (fun h => hin (mem_hvL.2 h))⟩, hH.rm 1, (hA.sub (by (repeat (first | exact trivial | refine ⟨rfl, ?_⟩))))⟩, by omega⟩
  clear hA hH
  rintro a w ⟨o, c, ⟨hge, hnd⟩, hH, hA⟩
  obtain ⟨hv, hhv⟩ : ∃ x, x = hvL (l.map Rg.v) := ⟨_, rfl⟩
  have hvl : hv.length ≤ 1000000 := by rw [hhv, hvL_len, List.length_map]; omega
  rw [← hhv] at hA hH
  repeat' (first | (first | (refine GT ?_ ?_ <;> intro hg <;> clear hA a <;> intro a hA <;> (first | exact FA | replace hg := of_decide_eq_true hg | replace hg := of_decide_eq_false hg | skip)) | (refine QT ?_; clear hA a; intro a hA) | (first | (refine BT ?_; clear hA hH; rintro _ w ⟨bN, rfl, hH⟩ a hA) | (refine LT ?_; clear hA hH; rintro _ w ⟨oN, rfl, hH⟩ a hA) | (refine AT ?_; clear hA; rintro _ w ⟨oN, cN, rfl, hH2⟩ a hA; clear hH; have hH := (hH2 _ (by (repeat constructor))).tail; clear hH2) | (refine S0T ?_; clear hH; rintro _ w hH) )) | ((first | refine CT ?_ | (refine DT ?_ ?_ <;> intro hc <;> try (exfalso; omega))) <;> repeat' refine CT ?_) | (first | (refine DSK ?_; clear hA a; intro a hA) | (first | (refine DLT ?_; clear hA hH; rintro _ w ⟨oN, rfl, hH⟩; refine ⟨STT, ?_⟩; intro a hA) | (refine DAT ?_; clear hA; rintro _ w ⟨oN, cN, rfl, hH2⟩; clear hH; have hH := (hH2 _ (by (repeat constructor))).tail; clear hH2; refine ⟨STT, ?_⟩; intro a hA))) )
  (refine st_op hA rfl rfl (by decide) (op_call rfl rfl rfl (vars_spec _ f (hR.keep hH.kp) hS.vs)) ?_; clear hA; rintro _ w ⟨oV, cV, rfl, hj⟩ a hA; replace hH := hH.join hj; clear hj)
  have hvv := vrs_le hS.vs
  rw [← vrs_eq] at hA hH
  repeat' (first | (first | (refine GT ?_ ?_ <;> intro hg <;> clear hA a <;> intro a hA <;> (first | exact FA | replace hg := of_decide_eq_true hg | replace hg := of_decide_eq_false hg | skip)) | (refine QT ?_; clear hA a; intro a hA) | (first | (refine BT ?_; clear hA hH; rintro _ w ⟨bN, rfl, hH⟩ a hA) | (refine LT ?_; clear hA hH; rintro _ w ⟨oN, rfl, hH⟩ a hA) | (refine AT ?_; clear hA; rintro _ w ⟨oN, cN, rfl, hH2⟩ a hA; clear hH; have hH := (hH2 _ (by (repeat constructor))).tail; clear hH2) | (refine S0T ?_; clear hH; rintro _ w hH) )) | ((first | refine CT ?_ | (refine DT ?_ ?_ <;> intro hc <;> try (exfalso; omega))) <;> repeat' refine CT ?_) | (first | (refine DSK ?_; clear hA a; intro a hA) | (first | (refine DLT ?_; clear hA hH; rintro _ w ⟨oN, rfl, hH⟩; refine ⟨STT, ?_⟩; intro a hA) | (refine DAT ?_; clear hA; rintro _ w ⟨oN, cN, rfl, hH2⟩; clear hH; have hH := (hH2 _ (by (repeat constructor))).tail; clear hH2; refine ⟨STT, ?_⟩; intro a hA))) )
  · exact rt1 (.inl rfl) rfl hA rfl ⟨false, rfl, no_iff (fun h => (by have h1 := congrArg List.length (hhv.trans h.2.2.1); omega)), hH.kp⟩
  have hlv : hv.length = (vrs f).length := by omega
  replace hH : HS w0 noM [own 3 1 oV (vrs f).length cV (flat Fw.encI (vrs f)), own 3 1 o hv.length c (flat Fw.encI hv), cb bF 30 (encG f)] w := hH
  have hspV := hH.own_sp (T := 3) (o := oV) (.head _)
  have hspH := hH.own_sp (T := 3) (o := o) (.tail _ (.head _))
  refine wp_lpk (S := Nat) (fun i a w => (i ≤ hv.length ∧ hv.take i = (vrs f).take i) ∧ HS w0 noM [own 3 1 oV (vrs f).length cV (flat Fw.encI (vrs f)), own 3 1 o hv.length c (flat Fw.encI hv), cb bF 30 (encG f)] w ∧
      Sl 126 [(8, .int .i64 i), (7, .slice oV (vrs f).length cV), (5, .slice o hv.length c), (2, .pointer (some (bat bF 0))), (1, .slice oL l.length cL)] a) (fun i => hv.length - i)
    (fun a w => hv = vrs f ∧ HS w0 noM [cb bF 30 (encG f)] w ∧
      Sl 126 [(2, .pointer (some (bat bF 0))), (1, .slice oL l.length cL)] a) 0 ⟨⟨Nat.zero_le _, by rw [List.take_zero, List.take_zero]⟩, hH, (hA.sub (by (repeat (first | exact trivial | refine ⟨rfl, ?_⟩))))⟩ ?_ ?_
  · clear hA hH
    rintro i a w ⟨⟨hi, hp⟩, hH, hA⟩
    by_cases hlt : i < hv.length
    rotate_left
    · repeat' (first | (first | (refine GT ?_ ?_ <;> intro hg <;> clear hA a <;> intro a hA <;> (first | exact FA | replace hg := of_decide_eq_true hg | replace hg := of_decide_eq_false hg | skip)) | (refine QT ?_; clear hA a; intro a hA) | (first | (refine BT ?_; clear hA hH; rintro _ w ⟨bN, rfl, hH⟩ a hA) | (refine LT ?_; clear hA hH; rintro _ w ⟨oN, rfl, hH⟩ a hA) | (refine AT ?_; clear hA; rintro _ w ⟨oN, cN, rfl, hH2⟩ a hA; clear hH; have hH := (hH2 _ (by (repeat constructor))).tail; clear hH2) | (refine S0T ?_; clear hH; rintro _ w hH) )) | ((first | refine CT ?_ | (refine DT ?_ ?_ <;> intro hc <;> try (exfalso; omega))) <;> repeat' refine CT ?_) | (first | (refine DSK ?_; clear hA a; intro a hA) | (first | (refine DLT ?_; clear hA hH; rintro _ w ⟨oN, rfl, hH⟩; refine ⟨STT, ?_⟩; intro a hA) | (refine DAT ?_; clear hA; rintro _ w ⟨oN, cN, rfl, hH2⟩; clear hH; have hH := (hH2 _ (by (repeat constructor))).tail; clear hH2; refine ⟨STT, ?_⟩; intro a hA))) )
      exact ⟨by rw [List.take_of_length_le (by omega), List.take_of_length_le (by omega)] at hp; exact hp, hH.tail.tail, (hA.sub (by (repeat (first | exact trivial | refine ⟨rfl, ?_⟩))))⟩
    obtain ⟨x, hx⟩ : ∃ x, hv[i]? = some x := ⟨_, List.getElem?_eq_getElem hlt⟩
    obtain ⟨y, hy⟩ : ∃ y, (vrs f)[i]? = some y := ⟨_, List.getElem?_eq_getElem (by omega)⟩
    have hcx : (flat Fw.encI hv)[i * 1]? = some (.int .i64 x) := flat_get (off := 0) Fw.encI_len hx rfl
    have hcy : (flat Fw.encI (vrs f))[i * 1]? = some (.int .i64 y) := flat_get (off := 0) Fw.encI_len hy rfl
    repeat' (first | (first | (refine GT ?_ ?_ <;> intro hg <;> clear hA a <;> intro a hA <;> (first | exact FA | replace hg := of_decide_eq_true hg | replace hg := of_decide_eq_false hg | skip)) | (refine QT ?_; clear hA a; intro a hA) | (first | (refine BT ?_; clear hA hH; rintro _ w ⟨bN, rfl, hH⟩ a hA) | (refine LT ?_; clear hA hH; rintro _ w ⟨oN, rfl, hH⟩ a hA) | (refine AT ?_; clear hA; rintro _ w ⟨oN, cN, rfl, hH2⟩ a hA; clear hH; have hH := (hH2 _ (by (repeat constructor))).tail; clear hH2) | (refine S0T ?_; clear hH; rintro _ w hH) )) | ((first | refine CT ?_ | (refine DT ?_ ?_ <;> intro hc <;> try (exfalso; omega))) <;> repeat' refine CT ?_) | (first | (refine DSK ?_; clear hA a; intro a hA) | (first | (refine DLT ?_; clear hA hH; rintro _ w ⟨oN, rfl, hH⟩; refine ⟨STT, ?_⟩; intro a hA) | (refine DAT ?_; clear hA; rintro _ w ⟨oN, cN, rfl, hH2⟩; clear hH; have hH := (hH2 _ (by (repeat constructor))).tail; clear hH2; refine ⟨STT, ?_⟩; intro a hA))) )
    (refine wp_draw_HS [(0, 1), (1, 1), (2, 1), (3, 1), (4, 1), (5, 1), (6, 1), (7, 1), (8, 1)] mixed (by decide +kernel) hH ?_; replace hH := hH.drew)
    repeat' (first | (first | (refine GT ?_ ?_ <;> intro hg <;> clear hA a <;> intro a hA <;> (first | exact FA | replace hg := of_decide_eq_true hg | replace hg := of_decide_eq_false hg | skip)) | ((first | apply st_ex hA hH rfl rfl (by decide) | apply dr_ex hA rfl rfl rfl (by decide) | apply dr_exp hA rfl rfl rfl (by decide) | apply dr_ex3 hA hH rfl rfl rfl (by decide)); (first | (apply ex_indexAddr_nat; rfl; rfl; omega; exact hspV) | (apply ex_indexAddr_nat; rfl; rfl; omega; exact hspH) | (apply ex_load; rfl; apply cl_own (T := 3) (o := o); exact MEMT; exact hcx) | (apply ex_load; rfl; apply cl_own (T := 3) (o := oV); exact MEMT; exact hcy)); clear hA a; intro a hA) | (refine QT ?_; clear hA a; intro a hA) | (first | (refine BT ?_; clear hA hH; rintro _ w ⟨bN, rfl, hH⟩ a hA) | (refine LT ?_; clear hA hH; rintro _ w ⟨oN, rfl, hH⟩ a hA) | (refine AT ?_; clear hA; rintro _ w ⟨oN, cN, rfl, hH2⟩ a hA; clear hH; have hH := (hH2 _ (by (repeat constructor))).tail; clear hH2) | (refine S0T ?_; clear hH; rintro _ w hH) )) | ((first | refine CT ?_ | (refine DT ?_ ?_ <;> intro hc <;> try (exfalso; omega))) <;> repeat' refine CT ?_) | (first | (refine DSK ?_; clear hA a; intro a hA) | (first | (refine DLT ?_; clear hA hH; rintro _ w ⟨oN, rfl, hH⟩; refine ⟨STT, ?_⟩; intro a hA) | (refine DAT ?_; clear hA; rintro _ w ⟨oN, cN, rfl, hH2⟩; clear hH; have hH := (hH2 _ (by (repeat constructor))).tail; clear hH2; refine ⟨STT, ?_⟩; intro a hA))) )
    · have hxy : x ≠ y := by assumption
      exact rt1 (.inl rfl) rfl hA rfl ⟨false, rfl, no_iff (fun h => hxy (by rw [hhv, h.2.2.1, hy] at hx; exact (Option.some.inj hx).symm)), hH.kp⟩
    · exact ⟨i + 1, ⟨⟨hlt, eq_take hx hy hp (by omega)⟩, hH, (hA.sub (by (repeat (first | exact trivial | refine ⟨rfl, ?_⟩))))⟩, by omega⟩
  clear hA hH
  rintro a w ⟨heq, hH, hA⟩
  have hpre : hvL (l.map Rg.v) = vrs f := hhv.symm.trans heq
  repeat' (first | (first | (refine GT ?_ ?_ <;> intro hg <;> clear hA a <;> intro a hA <;> (first | exact FA | replace hg := of_decide_eq_true hg | replace hg := of_decide_eq_false hg | skip)) | (refine QT ?_; clear hA a; intro a hA) | (first | (refine BT ?_; clear hA hH; rintro _ w ⟨bN, rfl, hH⟩ a hA) | (refine LT ?_; clear hA hH; rintro _ w ⟨oN, rfl, hH⟩ a hA) | (refine AT ?_; clear hA; rintro _ w ⟨oN, cN, rfl, hH2⟩ a hA; clear hH; have hH := (hH2 _ (by (repeat constructor))).tail; clear hH2) | (refine S0T ?_; clear hH; rintro _ w hH) )) | ((first | refine CT ?_ | (refine DT ?_ ?_ <;> intro hc <;> try (exfalso; omega))) <;> repeat' refine CT ?_) | (first | (refine DSK ?_; clear hA a; intro a hA) | (first | (refine DLT ?_; clear hA hH; rintro _ w ⟨oN, rfl, hH⟩; refine ⟨STT, ?_⟩; intro a hA) | (refine DAT ?_; clear hA; rintro _ w ⟨oN, cN, rfl, hH2⟩; clear hH; have hH := (hH2 _ (by (repeat constructor))).tail; clear hH2; refine ⟨STT, ?_⟩; intro a hA))) )
  (refine st_op hA rfl rfl (by decide) (op_call rfl rfl rfl (reg_spec _ oL cL l 0 (hH.rd hL id) hll9)) ?_; clear hA; rintro _ w ⟨rfl, hk⟩ a hA; replace hH := hH.keep hk; clear hk)
  repeat' (first | (first | (refine GT ?_ ?_ <;> intro hg <;> clear hA a <;> intro a hA <;> (first | exact FA | replace hg := of_decide_eq_true hg | replace hg := of_decide_eq_false hg | skip)) | (refine QT ?_; clear hA a; intro a hA) | (first | (refine BT ?_; clear hA hH; rintro _ w ⟨bN, rfl, hH⟩ a hA) | (refine LT ?_; clear hA hH; rintro _ w ⟨oN, rfl, hH⟩ a hA) | (refine AT ?_; clear hA; rintro _ w ⟨oN, cN, rfl, hH2⟩ a hA; clear hH; have hH := (hH2 _ (by (repeat constructor))).tail; clear hH2) | (refine S0T ?_; clear hH; rintro _ w hH) )) | ((first | refine CT ?_ | (refine DT ?_ ?_ <;> intro hc <;> try (exfalso; omega))) <;> repeat' refine CT ?_) | (first | (refine DSK ?_; clear hA a; intro a hA) | (first | (refine DLT ?_; clear hA hH; rintro _ w ⟨oN, rfl, hH⟩; refine ⟨STT, ?_⟩; intro a hA) | (refine DAT ?_; clear hA; rintro _ w ⟨oN, cN, rfl, hH2⟩; clear hH; have hH := (hH2 _ (by (repeat constructor))).tail; clear hH2; refine ⟨STT, ?_⟩; intro a hA))) )
  · have hne : regOf l 0 ≠ 0 := by assumption
    exact rt1 (.inl rfl) rfl hA rfl ⟨false, rfl, no_iff (fun h => hne h.2.2.2.1), hH.kp⟩
  have hr0 : regOf l 0 = 0 := by
    have : ¬ regOf l 0 ≠ 0 := by assumption
    omega
  (refine st_op hA rfl rfl (by decide) (op_call rfl rfl rfl (reg_spec _ oL cL l 1 (hH.rd hL id) hll9)) ?_; clear hA; rintro _ w ⟨rfl, hk⟩ a hA; replace hH := hH.keep hk; clear hk)
  repeat' (first | (first | (refine GT ?_ ?_ <;> intro hg <;> clear hA a <;> intro a hA <;> (first | exact FA | replace hg := of_decide_eq_true hg | replace hg := of_decide_eq_false hg | skip)) | (refine QT ?_; clear hA a; intro a hA) | (first | (refine BT ?_; clear hA hH; rintro _ w ⟨bN, rfl, hH⟩ a hA) | (refine LT ?_; clear hA hH; rintro _ w ⟨oN, rfl, hH⟩ a hA) | (refine AT ?_; clear hA; rintro _ w ⟨oN, cN, rfl, hH2⟩ a hA; clear hH; have hH := (hH2 _ (by (repeat constructor))).tail; clear hH2) | (refine S0T ?_; clear hH; rintro _ w hH) )) | ((first | refine CT ?_ | (refine DT ?_ ?_ <;> intro hc <;> try (exfalso; omega))) <;> repeat' refine CT ?_) | (first | (refine DSK ?_; clear hA a; intro a hA) | (first | (refine DLT ?_; clear hA hH; rintro _ w ⟨oN, rfl, hH⟩; refine ⟨STT, ?_⟩; intro a hA) | (refine DAT ?_; clear hA; rintro _ w ⟨oN, cN, rfl, hH2⟩; clear hH; have hH := (hH2 _ (by (repeat constructor))).tail; clear hH2; refine ⟨STT, ?_⟩; intro a hA))) )
  · have hne : regOf l 1 ≠ 1 := by assumption
    exact rt1 (.inl rfl) rfl hA rfl ⟨false, rfl, no_iff (fun h => hne h.2.2.2.2.1), hH.kp⟩
  have hr1 : regOf l 1 = 1 := by
    have : ¬ regOf l 1 ≠ 1 := by assumption
    omega
  refine wp_lpk (S := Nat) (fun n a w => (n ≤ f.bs.l.length ∧ ∀ sl ∈ slots f n, okS f ss l sl) ∧ HS w0 noM [cb bF 30 (encG f)] w ∧ Sl 126 [(9, .int .i64 n), (2, .pointer (some (bat bF 0))), (1, .slice oL l.length cL)] a) (fun n => f.bs.l.length - n)
    (fun a w => (∀ sl ∈ slots f f.bs.l.length, okS f ss l sl) ∧ HS w0 noM [] w ∧ Sl 126 [] a) 0 ⟨⟨Nat.zero_le _, (by rw [slots_0]; exact fun sl h => absurd h List.not_mem_nil)⟩, hH, (hA.sub (by (repeat (first | exact trivial | refine ⟨rfl, ?_⟩))))⟩ ?_ ?_
  · clear hA hH
    rintro n a w ⟨⟨hn, hok⟩, hH, hA⟩
    by_cases hlt : n < f.bs.l.length
    rotate_left
    · obtain rfl : n = f.bs.l.length := by omega
      repeat' (first | (first | (refine GT ?_ ?_ <;> intro hg <;> clear hA a <;> intro a hA <;> (first | exact FA | replace hg := of_decide_eq_true hg | replace hg := of_decide_eq_false hg | skip)) | (refine QT ?_; clear hA a; intro a hA) | (first | (refine BT ?_; clear hA hH; rintro _ w ⟨bN, rfl, hH⟩ a hA) | (refine LT ?_; clear hA hH; rintro _ w ⟨oN, rfl, hH⟩ a hA) | (refine AT ?_; clear hA; rintro _ w ⟨oN, cN, rfl, hH2⟩ a hA; clear hH; have hH := (hH2 _ (by (repeat constructor))).tail; clear hH2) | (refine S0T ?_; clear hH; rintro _ w hH) )) | ((first | refine CT ?_ | (refine DT ?_ ?_ <;> intro hc <;> try (exfalso; omega))) <;> repeat' refine CT ?_) | (first | (refine DSK ?_; clear hA a; intro a hA) | (first | (refine DLT ?_; clear hA hH; rintro _ w ⟨oN, rfl, hH⟩; refine ⟨STT, ?_⟩; intro a hA) | (refine DAT ?_; clear hA; rintro _ w ⟨oN, cN, rfl, hH2⟩; clear hH; have hH := (hH2 _ (by (repeat constructor))).tail; clear hH2; refine ⟨STT, ?_⟩; intro a hA))) )
      exact ⟨hok, hH.tail, (hA.sub (by (repeat (first | exact trivial | refine ⟨rfl, ?_⟩))))⟩
    obtain ⟨bl, hbl⟩ : ∃ bl, f.bs.l[n]? = some bl := ⟨_, List.getElem?_eq_getElem hlt⟩
    have hbR := hR.2 bl (List.mem_of_getElem? hbl)
    have hvs := flat_all encBl_len hbl
    obtain ⟨hpsl, hisl⟩ := hS.each bl (List.mem_of_getElem? hbl)
    have hspI : Sp bl.is.o bl.is.l.length := hbR.2.1.1.sp (sz := 5) (flat_length encIn_len _) (by omega)
    have hil := intoF_len f ss n (vrs f)
    have hvl := vrs_le hS.vs
    repeat' (first | (first | (refine GT ?_ ?_ <;> intro hg <;> clear hA a <;> intro a hA <;> (first | exact FA | replace hg := of_decide_eq_true hg | replace hg := of_decide_eq_false hg | skip)) | ((first | apply st_ex hA hH rfl rfl (by decide) | apply dr_ex hA rfl rfl rfl (by decide) | apply dr_exp hA rfl rfl rfl (by decide) | apply dr_ex3 hA hH rfl rfl rfl (by decide)); (first | (apply ex_load_st (vs := encBl bl); rfl; rfl; exact cls_rd hR.1.1 id hvs)); clear hA a; intro a hA) | (refine QT ?_; clear hA a; intro a hA) | (first | (refine BT ?_; clear hA hH; rintro _ w ⟨bN, rfl, hH⟩ a hA) | (refine LT ?_; clear hA hH; rintro _ w ⟨oN, rfl, hH⟩ a hA) | (refine AT ?_; clear hA; rintro _ w ⟨oN, cN, rfl, hH2⟩ a hA; clear hH; have hH := (hH2 _ (by (repeat constructor))).tail; clear hH2) | (refine S0T ?_; clear hH; rintro _ w hH) | (apply st_op0 hA rfl rfl; apply op_store_agg (vs := encBl bl); rfl; rfl; exact hH; (repeat constructor); (repeat rfl); clear hH; rintro _ w hH))) | ((first | refine CT ?_ | (refine DT ?_ ?_ <;> intro hc <;> try (exfalso; omega))) <;> repeat' refine CT ?_) | (first | (refine DSK ?_; clear hA a; intro a hA) | (first | (refine DLT ?_; clear hA hH; rintro _ w ⟨oN, rfl, hH⟩; refine ⟨STT, ?_⟩; intro a hA) | (refine DAT ?_; clear hA; rintro _ w ⟨oN, cN, rfl, hH2⟩; clear hH; have hH := (hH2 _ (by (repeat constructor))).tail; clear hH2; refine ⟨STT, ?_⟩; intro a hA))) )
    obtain ⟨bB, hbB⟩ : ∃ x, x = bN := ⟨_, rfl⟩
    rw [← hbB] at hA hH
    clear hbB bN
    (refine wp_draw_HS [(0, 1), (2, 1), (3, 1), (5, 1), (6, 1), (1, 0), (4, 0), (7, 0), (8, 0), (9, 0), (10, 1)] mixed (by decide +kernel) hH ?_; replace hH := hH.drew)
    repeat' (first | (first | (refine GT ?_ ?_ <;> intro hg <;> clear hA a <;> intro a hA <;> (first | exact FA | replace hg := of_decide_eq_true hg | replace hg := of_decide_eq_false hg | skip)) | (refine QT ?_; clear hA a; intro a hA) | (first | (refine BT ?_; clear hA hH; rintro _ w ⟨bN, rfl, hH⟩ a hA) | (refine LT ?_; clear hA hH; rintro _ w ⟨oN, rfl, hH⟩ a hA) | (refine AT ?_; clear hA; rintro _ w ⟨oN, cN, rfl, hH2⟩ a hA; clear hH; have hH := (hH2 _ (by (repeat constructor))).tail; clear hH2) | (refine S0T ?_; clear hH; rintro _ w hH) )) | ((first | refine CT ?_ | (refine DT ?_ ?_ <;> intro hc <;> try (exfalso; omega))) <;> repeat' refine CT ?_) | (first | (refine DSK ?_; clear hA a; intro a hA) | (first | (refine DLT ?_; clear hA hH; rintro _ w ⟨oN, rfl, hH⟩; refine ⟨STT, ?_⟩; intro a hA) | (refine DAT ?_; clear hA; rintro _ w ⟨oN, cN, rfl, hH2⟩; clear hH; have hH := (hH2 _ (by (repeat constructor))).tail; clear hH2; refine ⟨STT, ?_⟩; intro a hA))) )
    (apply dr_op hA rfl rfl rfl (by decide); apply op_sliceLit; rfl; rfl; exact CATST; rfl; rfl; rfl; exact hH; clear hA hH; rintro _ w ⟨oA, rfl, hH⟩; refine ⟨hH.tail, ?_⟩; intro a hA)
    (apply dr_op hA rfl rfl rfl (by decide); apply op_append; rfl; rfl; exact hH; exact MEMT; exact (hH.rd hbR.1.1 id); exact flat_length Fw.encI_len _; rfl; decide; exact flat_one_cell (fun _ => rfl) _; (unfold maxLen; omega); omega; clear hA; rintro _ w ⟨oN, cN, rfl, hH2⟩; clear hH; have hH := hH2 _ (by (repeat constructor)); clear hH2; refine ⟨hH.tail, ?_⟩; intro a hA)
    (refine dr_op hA rfl rfl rfl (by decide) (op_call rfl rfl rfl (into_spec f ss hF hU hsl hSb hS.vs n _ bl hbl (hR.keep hH.kp))) ?_; clear hA; rintro _ w ⟨oV, cV, rfl, hj⟩; refine ⟨(hH.join hj).tail.tail, ?_⟩; intro a hA)
    replace hH := hH.join hj
    clear hj
    rw [List.nil_append, Nat.zero_add] at hH
    rw [Nat.zero_add] at hA
    replace hH : HS w0 noM [own 3 1 oV (intoF f ss n (vrs f)).length cV (flat Fw.encI (intoF f ss n (vrs f))), own 3 1 oN bl.ps.l.length cN (flat Fw.encI bl.ps.l), cb bB 52 (encBl bl), cb bF 30 (encG f)] w := hH
    (apply dr_op hA rfl rfl rfl (by decide); apply op_append; rfl; rfl; exact hH; exact MEMT; exact (hH.own_rd (.head _)); exact flat_length Fw.encI_len _; rfl; decide; exact flat_one_cell (fun _ => rfl) _; (unfold maxLen; omega); omega; clear hA; rintro _ w ⟨oN, cN, rfl, hH2⟩; clear hH; have hH := hH2 _ (by (repeat constructor)); clear hH2; refine ⟨hH.tail.tail, ?_⟩; intro a hA)
    rw [flatI_app, ← List.length_append] at hH
    rw [← List.length_append] at hA
    have hal : (bl.ps.l ++ intoF f ss n (vrs f)).length ≤ 9223372036854775807 := by rw [List.length_append]; omega
    (refine dr_op hA rfl rfl rfl (by decide) (op_call rfl rfl rfl (unlike_spec _ oL cL l _ _ (bl.ps.l ++ intoF f ss n (vrs f)) (hH.rd hL id) hll9 (hH.own_rd (.tail _ (.head _))) hal)) ?_; clear hA; rintro _ w ⟨rfl, hk⟩; refine ⟨(hH.keep hk).tail.tail, ?_⟩; intro a hA)
    replace hH := (hH.keep hk).tail.tail
    clear hk
    repeat' (first | (first | (refine GT ?_ ?_ <;> intro hg <;> clear hA a <;> intro a hA <;> (first | exact FA | replace hg := of_decide_eq_true hg | replace hg := of_decide_eq_false hg | skip)) | (refine QT ?_; clear hA a; intro a hA) | (first | (refine BT ?_; clear hA hH; rintro _ w ⟨bN, rfl, hH⟩ a hA) | (refine LT ?_; clear hA hH; rintro _ w ⟨oN, rfl, hH⟩ a hA) | (refine AT ?_; clear hA; rintro _ w ⟨oN, cN, rfl, hH2⟩ a hA; clear hH; have hH := (hH2 _ (by (repeat constructor))).tail; clear hH2) | (refine S0T ?_; clear hH; rintro _ w hH) )) | ((first | refine CT ?_ | (refine DT ?_ ?_ <;> intro hc <;> try (exfalso; omega))) <;> repeat' refine CT ?_) | (first | (refine DSK ?_; clear hA a; intro a hA) | (first | (refine DLT ?_; clear hA hH; rintro _ w ⟨oN, rfl, hH⟩; refine ⟨STT, ?_⟩; intro a hA) | (refine DAT ?_; clear hA; rintro _ w ⟨oN, cN, rfl, hH2⟩; clear hH; have hH := (hH2 _ (by (repeat constructor))).tail; clear hH2; refine ⟨STT, ?_⟩; intro a hA))) )
    · have hno : ¬ ((bl.ps.l ++ intoF f ss n (vrs f)).map (regOf l)).Nodup := by assumption
      exact rt1 (.inl rfl) rfl hA rfl ⟨false, rfl, no_iff (fun h => hno ((okS_n hbl).1 (h.2.2.2.2.2 _ (slot_mem hbl (slot_none _ _))))), hH.kp⟩
    have hyes : okS f ss l (n, none) := (okS_n hbl).2 (by assumption)
    refine wp_lpk (S := Nat) (fun i a w => (i ≤ bl.is.l.length ∧ ∀ sl ∈ slots f n ++ slotB n i, okS f ss l sl) ∧ HS w0 noM [cb bB 52 (encBl bl), cb bF 30 (encG f)] w ∧ Sl 126 [(11, .int .i64 i), (10, .pointer (some (bat bB 0))), (9, .int .i64 n), (2, .pointer (some (bat bF 0))), (1, .slice oL l.length cL)] a) (fun i => bl.is.l.length - i)
      (fun a w => (∀ sl ∈ slots f n ++ slotB n bl.is.l.length, okS f ss l sl) ∧ HS w0 noM [cb bF 30 (encG f)] w ∧ Sl 126 [(9, .int .i64 n), (2, .pointer (some (bat bF 0))), (1, .slice oL l.length cL)] a) 0 ⟨⟨Nat.zero_le _, (by rw [slotB_0]; exact all_snoc hok hyes)⟩, hH, (hA.sub (by (repeat (first | exact trivial | refine ⟨rfl, ?_⟩))))⟩ ?_ ?_
    · clear hA hH hyes hok
      rintro i a w ⟨⟨hi, hok⟩, hH, hA⟩
      by_cases hlti : i < bl.is.l.length
      rotate_left
      · obtain rfl : i = bl.is.l.length := by omega
        repeat' (first | (first | (refine GT ?_ ?_ <;> intro hg <;> clear hA a <;> intro a hA <;> (first | exact FA | replace hg := of_decide_eq_true hg | replace hg := of_decide_eq_false hg | skip)) | (refine QT ?_; clear hA a; intro a hA) | (first | (refine BT ?_; clear hA hH; rintro _ w ⟨bN, rfl, hH⟩ a hA) | (refine LT ?_; clear hA hH; rintro _ w ⟨oN, rfl, hH⟩ a hA) | (refine AT ?_; clear hA; rintro _ w ⟨oN, cN, rfl, hH2⟩ a hA; clear hH; have hH := (hH2 _ (by (repeat constructor))).tail; clear hH2) | (refine S0T ?_; clear hH; rintro _ w hH) )) | ((first | refine CT ?_ | (refine DT ?_ ?_ <;> intro hc <;> try (exfalso; omega))) <;> repeat' refine CT ?_) | (first | (refine DSK ?_; clear hA a; intro a hA) | (first | (refine DLT ?_; clear hA hH; rintro _ w ⟨oN, rfl, hH⟩; refine ⟨STT, ?_⟩; intro a hA) | (refine DAT ?_; clear hA; rintro _ w ⟨oN, cN, rfl, hH2⟩; clear hH; have hH := (hH2 _ (by (repeat constructor))).tail; clear hH2; refine ⟨STT, ?_⟩; intro a hA))) )
        exact ⟨hok, hH.tail, (hA.sub (by (repeat (first | exact trivial | refine ⟨rfl, ?_⟩))))⟩
      obtain ⟨ins, hins⟩ : ∃ x, bl.is.l[i]? = some x := ⟨_, List.getElem?_eq_getElem hlti⟩
      have hbhl := filF_len (bhB ss bl i) (vrs f)
      have hvx : (flat encIn bl.is.l)[i * 5 + 0]? = some (.int .i64 ins.x) := flat_get (off := 0) encIn_len hins rfl
      repeat' (first | (first | (refine GT ?_ ?_ <;> intro hg <;> clear hA a <;> intro a hA <;> (first | exact FA | replace hg := of_decide_eq_true hg | replace hg := of_decide_eq_false hg | skip)) | (refine QT ?_; clear hA a; intro a hA) | (first | (refine BT ?_; clear hA hH; rintro _ w ⟨bN, rfl, hH⟩ a hA) | (refine LT ?_; clear hA hH; rintro _ w ⟨oN, rfl, hH⟩ a hA) | (refine AT ?_; clear hA; rintro _ w ⟨oN, cN, rfl, hH2⟩ a hA; clear hH; have hH := (hH2 _ (by (repeat constructor))).tail; clear hH2) | (refine S0T ?_; clear hH; rintro _ w hH) )) | ((first | refine CT ?_ | (refine DT ?_ ?_ <;> intro hc <;> try (exfalso; omega))) <;> repeat' refine CT ?_) | (first | (refine DSK ?_; clear hA a; intro a hA) | (first | (refine DLT ?_; clear hA hH; rintro _ w ⟨oN, rfl, hH⟩; refine ⟨STT, ?_⟩; intro a hA) | (refine DAT ?_; clear hA; rintro _ w ⟨oN, cN, rfl, hH2⟩; clear hH; have hH := (hH2 _ (by (repeat constructor))).tail; clear hH2; refine ⟨STT, ?_⟩; intro a hA))) )
      (refine st_op hA rfl rfl (by decide) (op_call rfl rfl rfl (behind_spec f ss hF hU hsl hSb hS.vs n i _ bl ins hbl hins (hR.keep hH.kp) (bhB ss bl i) (bhB_iff hins))) ?_; clear hA; rintro _ w ⟨oV, cV, rfl, hj⟩ a hA; replace hH := hH.join hj; clear hj)
      obtain ⟨bh, hbh⟩ : ∃ x, x = filF (bhB ss bl i) (vrs f) := ⟨_, rfl⟩
      rw [← hbh] at hA hH hbhl
      replace hH : HS w0 noM [own 3 1 oV bh.length cV (flat Fw.encI bh), cb bB 52 (encBl bl), cb bF 30 (encG f)] w := hH
      have hspV := hH.own_sp (T := 3) (o := oV) (.head _)
      repeat' (first | (first | (refine GT ?_ ?_ <;> intro hg <;> clear hA a <;> intro a hA <;> (first | exact FA | replace hg := of_decide_eq_true hg | replace hg := of_decide_eq_false hg | skip)) | (refine QT ?_; clear hA a; intro a hA) | (first | (refine BT ?_; clear hA hH; rintro _ w ⟨bN, rfl, hH⟩ a hA) | (refine LT ?_; clear hA hH; rintro _ w ⟨oN, rfl, hH⟩ a hA) | (refine AT ?_; clear hA; rintro _ w ⟨oN, cN, rfl, hH2⟩ a hA; clear hH; have hH := (hH2 _ (by (repeat constructor))).tail; clear hH2) | (refine S0T ?_; clear hH; rintro _ w hH) )) | ((first | refine CT ?_ | (refine DT ?_ ?_ <;> intro hc <;> try (exfalso; omega))) <;> repeat' refine CT ?_) | (first | (refine DSK ?_; clear hA a; intro a hA) | (first | (refine DLT ?_; clear hA hH; rintro _ w ⟨oN, rfl, hH⟩; refine ⟨STT, ?_⟩; intro a hA) | (refine DAT ?_; clear hA; rintro _ w ⟨oN, cN, rfl, hH2⟩; clear hH; have hH := (hH2 _ (by (repeat constructor))).tail; clear hH2; refine ⟨STT, ?_⟩; intro a hA))) )
      refine wp_lpk (S := Nat) (fun k a w => (k ≤ bh.length ∧ ∀ x ∈ bh.take k, regOf l x ≠ regOf l ins.x) ∧ HS w0 noM [own 3 1 oV bh.length cV (flat Fw.encI bh), cb bB 52 (encBl bl), cb bF 30 (encG f)] w ∧ Sl 126 [(13, .int .i64 k), (12, .slice oV bh.length cV), (11, .int .i64 i), (10, .pointer (some (bat bB 0))), (9, .int .i64 n), (2, .pointer (some (bat bF 0))), (1, .slice oL l.length cL)] a) (fun k => bh.length - k)
        (fun a w => (∀ x ∈ bh, regOf l x ≠ regOf l ins.x) ∧ HS w0 noM [cb bB 52 (encBl bl), cb bF 30 (encG f)] w ∧ Sl 126 [(11, .int .i64 i), (10, .pointer (some (bat bB 0))), (9, .int .i64 n), (2, .pointer (some (bat bF 0))), (1, .slice oL l.length cL)] a) 0 ⟨⟨Nat.zero_le _, (by rw [List.take_zero]; exact fun x h => absurd h List.not_mem_nil)⟩, hH, (hA.sub (by (repeat (first | exact trivial | refine ⟨rfl, ?_⟩))))⟩ ?_ ?_
      · clear hA hH
        rintro k a w ⟨⟨hk, hall⟩, hH, hA⟩
        by_cases hltk : k < bh.length
        rotate_left
        · obtain rfl : k = bh.length := by omega
          rw [List.take_length] at hall
          repeat' (first | (first | (refine GT ?_ ?_ <;> intro hg <;> clear hA a <;> intro a hA <;> (first | exact FA | replace hg := of_decide_eq_true hg | replace hg := of_decide_eq_false hg | skip)) | (refine QT ?_; clear hA a; intro a hA) | (first | (refine BT ?_; clear hA hH; rintro _ w ⟨bN, rfl, hH⟩ a hA) | (refine LT ?_; clear hA hH; rintro _ w ⟨oN, rfl, hH⟩ a hA) | (refine AT ?_; clear hA; rintro _ w ⟨oN, cN, rfl, hH2⟩ a hA; clear hH; have hH := (hH2 _ (by (repeat constructor))).tail; clear hH2) | (refine S0T ?_; clear hH; rintro _ w hH) )) | ((first | refine CT ?_ | (refine DT ?_ ?_ <;> intro hc <;> try (exfalso; omega))) <;> repeat' refine CT ?_) | (first | (refine DSK ?_; clear hA a; intro a hA) | (first | (refine DLT ?_; clear hA hH; rintro _ w ⟨oN, rfl, hH⟩; refine ⟨STT, ?_⟩; intro a hA) | (refine DAT ?_; clear hA; rintro _ w ⟨oN, cN, rfl, hH2⟩; clear hH; have hH := (hH2 _ (by (repeat constructor))).tail; clear hH2; refine ⟨STT, ?_⟩; intro a hA))) )
          exact ⟨hall, hH.tail, (hA.sub (by (repeat (first | exact trivial | refine ⟨rfl, ?_⟩))))⟩
        obtain ⟨x, hx⟩ : ∃ x, bh[k]? = some x := ⟨_, List.getElem?_eq_getElem hltk⟩
        have hcx : (flat Fw.encI bh)[k * 1]? = some (.int .i64 x) := flat_get (off := 0) Fw.encI_len hx rfl
        repeat' (first | (first | (refine GT ?_ ?_ <;> intro hg <;> clear hA a <;> intro a hA <;> (first | exact FA | replace hg := of_decide_eq_true hg | replace hg := of_decide_eq_false hg | skip)) | (refine QT ?_; clear hA a; intro a hA) | (first | (refine BT ?_; clear hA hH; rintro _ w ⟨bN, rfl, hH⟩ a hA) | (refine LT ?_; clear hA hH; rintro _ w ⟨oN, rfl, hH⟩ a hA) | (refine AT ?_; clear hA; rintro _ w ⟨oN, cN, rfl, hH2⟩ a hA; clear hH; have hH := (hH2 _ (by (repeat constructor))).tail; clear hH2) | (refine S0T ?_; clear hH; rintro _ w hH) )) | ((first | refine CT ?_ | (refine DT ?_ ?_ <;> intro hc <;> try (exfalso; omega))) <;> repeat' refine CT ?_) | (first | (refine DSK ?_; clear hA a; intro a hA) | (first | (refine DLT ?_; clear hA hH; rintro _ w ⟨oN, rfl, hH⟩; refine ⟨STT, ?_⟩; intro a hA) | (refine DAT ?_; clear hA; rintro _ w ⟨oN, cN, rfl, hH2⟩; clear hH; have hH := (hH2 _ (by (repeat constructor))).tail; clear hH2; refine ⟨STT, ?_⟩; intro a hA))) )
        (refine wp_draw_HS [(0, 1), (1, 1), (2, 1), (3, 1), (4, 1), (6, 1), (7, 1), (8, 1), (9, 1), (10, 1), (11, 1), (12, 1), (5, 0), (13, 0), (14, 1)] mixed (by decide +kernel) hH ?_; replace hH := hH.drew)
        repeat' (first | (first | (refine GT ?_ ?_ <;> intro hg <;> clear hA a <;> intro a hA <;> (first | exact FA | replace hg := of_decide_eq_true hg | replace hg := of_decide_eq_false hg | skip)) | ((first | apply st_ex hA hH rfl rfl (by decide) | apply dr_ex hA rfl rfl rfl (by decide) | apply dr_exp hA rfl rfl rfl (by decide) | apply dr_ex3 hA hH rfl rfl rfl (by decide)); (first | (apply ex_indexAddr_nat; rfl; rfl; omega; exact hspV) | (apply ex_indexAddr_nat; rfl; rfl; omega; exact hspI) | (apply ex_load; rfl; exact cl_rd hbR.2.1.1 id hvx) | (apply ex_load; rfl; apply cl_own (T := 3) (o := oV); exact MEMT; exact hcx)); clear hA a; intro a hA) | (refine QT ?_; clear hA a; intro a hA) | (first | (refine BT ?_; clear hA hH; rintro _ w ⟨bN, rfl, hH⟩ a hA) | (refine LT ?_; clear hA hH; rintro _ w ⟨oN, rfl, hH⟩ a hA) | (refine AT ?_; clear hA; rintro _ w ⟨oN, cN, rfl, hH2⟩ a hA; clear hH; have hH := (hH2 _ (by (repeat constructor))).tail; clear hH2) | (refine S0T ?_; clear hH; rintro _ w hH) )) | ((first | refine CT ?_ | (refine DT ?_ ?_ <;> intro hc <;> try (exfalso; omega))) <;> repeat' refine CT ?_) | (first | (refine DSK ?_; clear hA a; intro a hA) | (first | (refine DLT ?_; clear hA hH; rintro _ w ⟨oN, rfl, hH⟩; refine ⟨STT, ?_⟩; intro a hA) | (refine DAT ?_; clear hA; rintro _ w ⟨oN, cN, rfl, hH2⟩; clear hH; have hH := (hH2 _ (by (repeat constructor))).tail; clear hH2; refine ⟨STT, ?_⟩; intro a hA))) )
        (refine dr_op hA rfl rfl rfl (by decide) (op_call rfl rfl rfl (reg_spec _ oL cL l x (hH.rd hL id) hll9)) ?_; clear hA; rintro _ w ⟨rfl, hk⟩; refine ⟨hH.keep hk, ?_⟩; intro a hA)
        replace hH := hH.keep hk
        clear hk
        (refine dr_op hA rfl rfl rfl (by decide) (op_call rfl rfl rfl (reg_spec _ oL cL l ins.x (hH.rd hL id) hll9)) ?_; clear hA; rintro _ w ⟨rfl, hk⟩; refine ⟨hH.keep hk, ?_⟩; intro a hA)
        replace hH := hH.keep hk
        clear hk
        repeat' (first | (first | (refine GT ?_ ?_ <;> intro hg <;> clear hA a <;> intro a hA <;> (first | exact FA | replace hg := of_decide_eq_true hg | replace hg := of_decide_eq_false hg | skip)) | (refine QT ?_; clear hA a; intro a hA) | (first | (refine BT ?_; clear hA hH; rintro _ w ⟨bN, rfl, hH⟩ a hA) | (refine LT ?_; clear hA hH; rintro _ w ⟨oN, rfl, hH⟩ a hA) | (refine AT ?_; clear hA; rintro _ w ⟨oN, cN, rfl, hH2⟩ a hA; clear hH; have hH := (hH2 _ (by (repeat constructor))).tail; clear hH2) | (refine S0T ?_; clear hH; rintro _ w hH) )) | ((first | refine CT ?_ | (refine DT ?_ ?_ <;> intro hc <;> try (exfalso; omega))) <;> repeat' refine CT ?_) | (first | (refine DSK ?_; clear hA a; intro a hA) | (first | (refine DLT ?_; clear hA hH; rintro _ w ⟨oN, rfl, hH⟩; refine ⟨STT, ?_⟩; intro a hA) | (refine DAT ?_; clear hA; rintro _ w ⟨oN, cN, rfl, hH2⟩; clear hH; have hH := (hH2 _ (by (repeat constructor))).tail; clear hH2; refine ⟨STT, ?_⟩; intro a hA))) )
        · have he : regOf l x = regOf l ins.x := by assumption
          exact rt1 (.inl rfl) rfl hA rfl ⟨false, rfl, no_iff (fun h => (okS_i hbl hins).1 (h.2.2.2.2.2 _ (slot_mem hbl (slot_some hlti))) x (by rw [bhF_eq, ← hbh]; exact List.mem_of_getElem? hx) he), hH.kp⟩
        · exact ⟨k + 1, ⟨⟨hltk, by rw [take_snoc hx]; exact all_snoc hall (by assumption)⟩, hH, (hA.sub (by (repeat (first | exact trivial | refine ⟨rfl, ?_⟩))))⟩, by omega⟩
      clear hA hH
      rintro a w ⟨hall, hH, hA⟩
      have hyes : okS f ss l (n, some i) := (okS_i hbl hins).2 (by rw [bhF_eq, ← hbh]; exact hall)
      repeat' (first | (first | (refine GT ?_ ?_ <;> intro hg <;> clear hA a <;> intro a hA <;> (first | exact FA | replace hg := of_decide_eq_true hg | replace hg := of_decide_eq_false hg | skip)) | (refine QT ?_; clear hA a; intro a hA) | (first | (refine BT ?_; clear hA hH; rintro _ w ⟨bN, rfl, hH⟩ a hA) | (refine LT ?_; clear hA hH; rintro _ w ⟨oN, rfl, hH⟩ a hA) | (refine AT ?_; clear hA; rintro _ w ⟨oN, cN, rfl, hH2⟩ a hA; clear hH; have hH := (hH2 _ (by (repeat constructor))).tail; clear hH2) | (refine S0T ?_; clear hH; rintro _ w hH) )) | ((first | refine CT ?_ | (refine DT ?_ ?_ <;> intro hc <;> try (exfalso; omega))) <;> repeat' refine CT ?_) | (first | (refine DSK ?_; clear hA a; intro a hA) | (first | (refine DLT ?_; clear hA hH; rintro _ w ⟨oN, rfl, hH⟩; refine ⟨STT, ?_⟩; intro a hA) | (refine DAT ?_; clear hA; rintro _ w ⟨oN, cN, rfl, hH2⟩; clear hH; have hH := (hH2 _ (by (repeat constructor))).tail; clear hH2; refine ⟨STT, ?_⟩; intro a hA))) )
      exact ⟨i + 1, ⟨⟨hlti, by rw [slotB_snoc, ← List.append_assoc]; exact all_snoc hok hyes⟩, hH, (hA.sub (by (repeat (first | exact trivial | refine ⟨rfl, ?_⟩))))⟩, by omega⟩
    clear hA hH hyes hok
    rintro a w ⟨hok, hH, hA⟩
    rw [← slots_next hbl] at hok
    repeat' (first | (first | (refine GT ?_ ?_ <;> intro hg <;> clear hA a <;> intro a hA <;> (first | exact FA | replace hg := of_decide_eq_true hg | replace hg := of_decide_eq_false hg | skip)) | (refine QT ?_; clear hA a; intro a hA) | (first | (refine BT ?_; clear hA hH; rintro _ w ⟨bN, rfl, hH⟩ a hA) | (refine LT ?_; clear hA hH; rintro _ w ⟨oN, rfl, hH⟩ a hA) | (refine AT ?_; clear hA; rintro _ w ⟨oN, cN, rfl, hH2⟩ a hA; clear hH; have hH := (hH2 _ (by (repeat constructor))).tail; clear hH2) | (refine S0T ?_; clear hH; rintro _ w hH) )) | ((first | refine CT ?_ | (refine DT ?_ ?_ <;> intro hc <;> try (exfalso; omega))) <;> repeat' refine CT ?_) | (first | (refine DSK ?_; clear hA a; intro a hA) | (first | (refine DLT ?_; clear hA hH; rintro _ w ⟨oN, rfl, hH⟩; refine ⟨STT, ?_⟩; intro a hA) | (refine DAT ?_; clear hA; rintro _ w ⟨oN, cN, rfl, hH2⟩; clear hH; have hH := (hH2 _ (by (repeat constructor))).tail; clear hH2; refine ⟨STT, ?_⟩; intro a hA))) )
    exact ⟨n + 1, ⟨⟨hlt, hok⟩, hH, (hA.sub (by (repeat (first | exact trivial | refine ⟨rfl, ?_⟩))))⟩, by omega⟩
  clear hA hH
  rintro a w ⟨hok, hH, hA⟩
  repeat' (first | (first | (refine GT ?_ ?_ <;> intro hg <;> clear hA a <;> intro a hA <;> (first | exact FA | replace hg := of_decide_eq_true hg | replace hg := of_decide_eq_false hg | skip)) | (refine QT ?_; clear hA a; intro a hA) | (first | (refine BT ?_; clear hA hH; rintro _ w ⟨bN, rfl, hH⟩ a hA) | (refine LT ?_; clear hA hH; rintro _ w ⟨oN, rfl, hH⟩ a hA) | (refine AT ?_; clear hA; rintro _ w ⟨oN, cN, rfl, hH2⟩ a hA; clear hH; have hH := (hH2 _ (by (repeat constructor))).tail; clear hH2) | (refine S0T ?_; clear hH; rintro _ w hH) )) | ((first | refine CT ?_ | (refine DT ?_ ?_ <;> intro hc <;> try (exfalso; omega))) <;> repeat' refine CT ?_) | (first | (refine DSK ?_; clear hA a; intro a hA) | (first | (refine DLT ?_; clear hA hH; rintro _ w ⟨oN, rfl, hH⟩; refine ⟨STT, ?_⟩; intro a hA) | (refine DAT ?_; clear hA; rintro _ w ⟨oN, cN, rfl, hH2⟩; clear hH; have hH := (hH2 _ (by (repeat constructor))).tail; clear hH2; refine ⟨STT, ?_⟩; intro a hA))) )
  exact rt1 (.inl rfl) rfl hA rfl ⟨true, rfl, yes_iff ⟨hge, hnd, hpre, hr0, hr1, hok⟩, hH.kp⟩
end Go.Proofs.Ytjfanjcoppeeaaa
namespace Go.Proofs.Ytjfanjcoppeeaaa
open Go Go.Fw
set_option linter.unusedVariables false
theorem up_of {g : Grs} {f : Gr} {B : Nat → List Int} (h : GOkB g f B) : Up f := fun n bl hb t ht => by
  have := (h.blk n bl hb).edges t ht
  exact ⟨this.1, this.2.1⟩
theorem uses_at {l : List Atm} {x : Int} (h : uses l x = true) : ∃ a ∈ l, a.k = 1 ∧ a.n = x := by
  unfold uses at h
  obtain ⟨a, ha, h⟩ := List.any_eq_true.1 h
  rw [Bool.and_eq_true, decide_eq_true_iff, decide_eq_true_iff] at h
  exact ⟨a, ha, h.1, h.2⟩
theorem atS_var {g : Grs} {S : Int → Prop} {a : Atm} (h : atS g S a) (hk : a.k = 1) : a.n = 0 ∨ a.n = 1 ∨ S a.n := by
  rcases h with ⟨_, h1, h2, h3⟩ | ⟨h1, _⟩ | ⟨h1, _⟩
  · rcases h3 with h3 | h3
    · by_cases h0 : a.n = 0
      · exact .inl h0
      · exact .inr (.inl (by omega))
    · exact .inr (.inr h3)
  · omega
  · omega
/-- what lives ahead of an Ins is there -/
theorem lv_now {g : Grs} {f : Gr} {B : Nat → List Int} (h : GOkB g f B) {ss : List (Option (Nat × List Int))} {n : Nat} {bl : Blc} (hb : f.bs.l[n]? = some bl) (ht : ∀ t ∈ bl.e.to.l, ∀ x, x ∈ setAt ss t.b.toNat → x = 0 ∨ x = 1 ∨ x ∈ B t.b.toNat) :
    ∀ k i x, i + k = bl.is.l.length → LvAt ss bl i x → x = 0 ∨ x = 1 ∨ nowS (B n) bl i x := by
  have hB := h.blk n bl hb
  intro k
  induction k with
  | zero =>
    intro i x hk hl
    obtain rfl : i = bl.is.l.length := by omega
    rw [lvAt_end] at hl
    rcases hl with hl | ⟨t, htm, hl | ⟨h0, s, hs, hx⟩⟩
    · obtain ⟨a, ha, h1, rfl⟩ := uses_at hl
      exact atS_var (hB.ends a ha) h1
    · obtain ⟨a, ha, h1, rfl⟩ := uses_at hl
      exact atS_var ((hB.edges t htm).2.2 a ha) h1
    · have hx2 : x ∈ setAt ss t.b.toNat := by
        unfold setAt
        rw [hs]
        exact hx
      rcases ht t htm x hx2 with h1 | h1 | h1
      · exact .inl h1
      · exact .inr (.inl h1)
      · exact .inr (.inr (h.flow n bl hb t htm x h1))
  | succ k ih =>
    intro i x hk hl
    obtain ⟨ins, hi⟩ : ∃ y, bl.is.l[i]? = some y := ⟨_, List.getElem?_eq_getElem (by omega)⟩
    rw [lvAt_at hi] at hl
    rcases hl with (hl | ⟨_, hl⟩) | ⟨hl, hne⟩
    · obtain ⟨a, ha, h1, rfl⟩ := uses_at hl
      exact atS_var (hB.ins i ins hi a ha) h1
    · exact .inl hl
    · rcases ih (i + 1) x (by omega) hl with h1 | h1 | h1
      · exact .inl h1
      · exact .inr (.inl h1)
      · refine .inr (.inr ?_)
        unfold nowS at h1 ⊢
        rw [map_x_snoc hi, List.mem_append, List.mem_singleton] at h1
        rcases h1 with h1 | h1 | h1 | h1
        · exact .inl h1
        · exact .inr (.inl h1)
        · exact .inr (.inr h1)
        · exact absurd h1 hne
theorem live_B {g : Grs} {f : Gr} {B : Nat → List Int} (h : GOkB g f B) {ss : List (Option (Nat × List Int))} (hF : ∀ n, FixAt f ss n) (hsl : ss.length = f.bs.l.length) : ∀ k n x, n + k = f.bs.l.length → x ∈ setAt ss n → x = 0 ∨ x = 1 ∨ x ∈ B n := by
  intro k
  induction k using Nat.strongRecOn with
  | _ k ih =>
    intro n x hk hx
    cases hb : f.bs.l[n]? with
    | none =>
      have h1 := List.getElem?_eq_none_iff.1 hb
      unfold setAt at hx
      rw [List.getElem?_eq_none_iff.2 (by omega)] at hx
      exact absurd hx List.not_mem_nil
    | some bl =>
      have hnl := (List.getElem?_eq_some_iff.1 hb).1
      have hbl := (hF n bl hb x).1 hx
      have ht : ∀ t ∈ bl.e.to.l, ∀ x, x ∈ setAt ss t.b.toNat → x = 0 ∨ x = 1 ∨ x ∈ B t.b.toNat := fun t ht x hx => by
        have he := (h.blk n bl hb).edges t ht
        exact ih (f.bs.l.length - t.b.toNat) (by omega) t.b.toNat x (by omega) hx
      rcases lv_now h hb ht bl.is.l.length 0 x (by omega) (blk_lv hbl) with h1 | h1 | h1
      · exact .inl h1
      · exact .inr (.inl h1)
      · refine .inr (.inr ?_)
        rcases h1 with h1 | h1 | h1
        · exact h1
        · exact absurd h1 (blk_ps hbl)
        · rw [List.take_zero] at h1
          exact absurd h1 List.not_mem_nil
theorem live_B2 {g : Grs} {f : Gr} {B : Nat → List Int} (h : GOkB g f B) {ss : List (Option (Nat × List Int))} (hF : ∀ n, FixAt f ss n) (hsl : ss.length = f.bs.l.length) (n : Nat) (x : Int) (hx : x ∈ setAt ss n) : x = 0 ∨ x = 1 ∨ x ∈ B n := by
  by_cases hn : n ≤ f.bs.l.length
  · exact live_B h hF hsl (f.bs.l.length - n) n x (by omega) hx
  · unfold setAt at hx
    rw [List.getElem?_eq_none_iff.2 (by omega)] at hx
    exact absurd hx List.not_mem_nil
/-- what is bound ahead of a slot -/
def bef (f : Gr) (sl : Nat × Option Nat) : List Int :=
  match sl.2 with
  | none => evs f sl.1
  | some i => evs f sl.1 ++ (f.bs.l.getD sl.1 blc0).ps.l ++ ((f.bs.l.getD sl.1 blc0).is.l.take i).map Ins.x
theorem ks_bef {g : Grs} {f : Gr} {B : Nat → List Int} (h : GOkB g f B) {ss : List (Option (Nat × List Int))} (hF : ∀ n, FixAt f ss n) (hsl : ss.length = f.bs.l.length) {sl : Nat × Option Nat} {p : Pl} (hp : IsAt f ss sl p) {x : Int} (hx : x ∈ p.ks) : x = 0 ∨ x = 1 ∨ x ∈ bef f sl := by
  obtain ⟨n, o⟩ := sl
  obtain ⟨bl, hb, hn, hp⟩ := hp
  have hnl := (List.getElem?_eq_some_iff.1 hb).1
  cases o with
  | none =>
    obtain ⟨_, _, h3⟩ := hp
    rcases live_B2 h hF hsl n x ((h3 x).1 hx) with h1 | h1 | h1
    · exact .inl h1
    · exact .inr (.inl h1)
    · exact .inr (.inr (h.sub n hnl x h1))
  | some i =>
    obtain ⟨ins, hi, _, _, h3⟩ := hp
    have h4 := (h3 x).1 hx
    have hil := (List.getElem?_eq_some_iff.1 hi).1
    rcases lv_now h hb (fun t ht x hx => live_B2 h hF hsl _ x hx) (bl.is.l.length - (i + 1)) (i + 1) x (by omega) h4.2 with h1 | h1 | h1
    · exact .inl h1
    · exact .inr (.inl h1)
    · refine .inr (.inr ?_)
      unfold bef
      dsimp only
      rw [blD hb]
      rcases h1 with h1 | h1 | h1
      · exact List.mem_append_left _ (List.mem_append_left _ (h.sub n hnl x h1))
      · exact List.mem_append_left _ (List.mem_append_right _ h1)
      · rw [map_x_snoc hi, List.mem_append, List.mem_singleton] at h1
        rcases h1 with h1 | h1
        · exact List.mem_append_right _ h1
        · exact absurd h1 h4.1
theorem evs_le (f : Gr) (n : Nat) : ∀ x ∈ evs f n, x ∈ f.bs.l.flatMap bvs := fun x hx => by
  unfold evs at hx
  obtain ⟨b, hb, hx⟩ := List.mem_flatMap.1 hx
  exact List.mem_flatMap.2 ⟨b, List.mem_of_mem_take hb, hx⟩
theorem bef_le (f : Gr) {sl : Nat × Option Nat} (h : sl.1 < f.bs.l.length) {x : Int} (hx : x ∈ bef f sl) : x ∈ f.bs.l.flatMap bvs := by
  obtain ⟨n, o⟩ := sl
  have hb : f.bs.l[n]? = some f.bs.l[n] := List.getElem?_eq_getElem h
  cases o with
  | none => exact evs_le f n x hx
  | some i =>
    unfold bef at hx
    dsimp only at hx
    rw [blD hb] at hx
    rcases List.mem_append.1 hx with h1 | h1
    · rcases List.mem_append.1 h1 with h1 | h1
      · exact evs_le f n x h1
      · exact List.mem_flatMap.2 ⟨_, List.mem_of_getElem? hb, List.mem_append_left _ h1⟩
    · refine List.mem_flatMap.2 ⟨_, List.mem_of_getElem? hb, List.mem_append_right _ ?_⟩
      obtain ⟨y, hy, rfl⟩ := List.mem_map.1 h1
      exact List.mem_map.2 ⟨y, List.mem_of_mem_take hy, rfl⟩
theorem bvs_eq (l : List Blc) : varsL l = [0, 1] ++ l.flatMap bvs := rfl
theorem isAt_lt {f : Gr} {ss : List (Option (Nat × List Int))} {sl : Nat × Option Nat} {p : Pl} (hp : IsAt f ss sl p) : sl.1 < f.bs.l.length := by
  obtain ⟨bl, hb, _⟩ := hp
  exact (List.getElem?_eq_some_iff.1 hb).1
theorem ks_vars {g : Grs} {f : Gr} {B : Nat → List Int} (h : GOkB g f B) {ss : List (Option (Nat × List Int))} (hF : ∀ n, FixAt f ss n) (hsl : ss.length = f.bs.l.length) {sl : Nat × Option Nat} {p : Pl} (hp : IsAt f ss sl p) {x : Int} (hx : x ∈ p.ks) : x ∈ varsL f.bs.l := by
  rw [bvs_eq]
  rcases ks_bef h hF hsl hp hx with h1 | h1 | h1
  · exact List.mem_append_left _ (h1 ▸ .head _)
  · exact List.mem_append_left _ (h1 ▸ .tail _ (.head _))
  · exact List.mem_append_right _ (bef_le f (isAt_lt hp) h1)
theorem bvs_sub {l : List Blc} {b : Blc} (h : b ∈ l) : b.ps.l.length + b.is.l.length ≤ (l.flatMap bvs).length := by
  induction l with
  | nil => cases h
  | cons c l ih =>
    rw [List.flatMap_cons, List.length_append]
    rcases List.mem_cons.1 h with rfl | h
    · have : (bvs b).length = b.ps.l.length + b.is.l.length := by unfold bvs; rw [List.length_append, List.length_map]
      omega
    · have := ih h
      omega
theorem small_of {g : Grs} {f : Gr} {B : Nat → List Int} (h : GOkB g f B) : Small f := by
  have hs := h.size
  have hv : (varsL f.bs.l).length = 2 + (f.bs.l.flatMap bvs).length := by rw [bvs_eq, List.length_append]; rfl
  refine ⟨by omega, by omega, fun bl hb => ?_, fun ss hsl hF sl p hp => ?_⟩
  · have := bvs_sub hb
    omega
  · have hnd : p.ks.Nodup := by
      obtain ⟨bl, _, hn, _⟩ := hp
      exact hn
    have := nodup_sub hnd (m := varsL f.bs.l) fun x hx => ks_vars h hF hsl hp hx
    omega
end Go.Proofs.Ytjfanjcoppeeaaa
