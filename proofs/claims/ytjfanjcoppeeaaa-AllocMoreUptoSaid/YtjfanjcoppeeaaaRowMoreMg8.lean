/-
  The program's Right, by its parts; slices.Equal; maps' len and literals. Conditions: none.
  The program's Colour and Live. Conditions: none.
  The program's Live. Conditions: none.
  The document's Press. Conditions: none.
  The document's Right, by its parts. Conditions: none.
  Graphs that may be: edges rise, they are small, what lives is bound before. Conditions: none.
  What the program's Right asks is what the document's asks. Conditions: none.
  Registers found in order are right, and as few as the press. Conditions: none.
  Colours: the press suffices, and they are right. Conditions: none.
  The law's v and fits. Conditions: none.
  The law's own graph. Conditions: none.
-/
import Derived.Test.YtjfanjcoppeeaaaRowMoreMg7
import Derived.Test.YtjfanjcoppeeaaaRowMoreMg6
namespace Go.Proofs.Ytjfanjcoppeeaaa
open Go Go.Fw
set_option linter.unusedVariables false
section
variable {P : Program} {N : Nat} {l : List (Nat × Value)} {a : Act} {d : Option Tmp} {T : TypeId} {pos : String} {af : Array Edge} {g : Option (Nat × Bool)}
theorem ex_lenI {t kt e b : Nat} {x : Operand} {m : List (Int × Int)} {w0 : World} {M : Nat → Prop} {H : List It} [ht : TMp P t kt e] (hx : ev l x = some (.map (some b))) (hm : mpI b m ∈ H) :
    Ex P N l (HS w0 M H) ⟨d, .call ⟨.builtin .len, #[x], #[t]⟩, T, pos, af, g⟩ (.int .i64 m.length) := by
  intro a w hA hH
  obtain ⟨F, es, clock, h1, h2, h3, h4⟩ := hH.sat hm
  have hl : es.length = m.length := by
    have := congrArg List.length h1
    simpa [encM] using this
  simp [execOp, resolve, invoke, builtin, Builtin.len_, hA.ev hx, run_underlying ht.eq, Go.Fw.run_getObj_map h4, goInt, hl]
theorem op_insertI {t kt e b : Nat} {kk : IntKind} {x y z : Operand} {m : List (Int × Int)} {k v : Int} {w0 w : World} {M : Nat → Prop} {H H' : List It} [ht : TMp P t kt e] [hk : TIn P kt kk]
    (hx : ev l x = some (.map (some b))) (hy : ev l y = some (.int .i64 k)) (hz : ev l z = some (.int .i64 v)) (hH : HS w0 M H w) (hr : Rp H (mpI b m) (mpI b (setI m k v)) H') :
    Op1 P N l ⟨d, .insert t x y z, T, pos, af, g⟩ w (fun _ w' => HS w0 M H' w') := by
  intro a hA K Q hK
  have h := op_mapUpdateI (P := P) (N := N) (d := d) (T := T) (pos := pos) (af := af) (g := g) (t := t) hx hy hz hH hr a hA K Q hK
  exact h
end
/-- the map of registers -/
def mkM (l : List Rg) : List (Int × Int) := l.foldl (fun m r => setI m r.v r.r) []
theorem mkM_next {l : List Rg} {i : Nat} {r : Rg} (h : l[i]? = some r) : mkM (l.take (i + 1)) = setI (mkM (l.take i)) r.v r.r := by
  unfold mkM
  rw [take_snoc h, List.foldl_append]
  rfl
theorem mkM_nil (l : List Rg) : mkM (l.take 0) = [] := by rw [List.take_zero]; rfl
theorem map_v_next {l : List Rg} {j : Nat} {x : Rg} (h : l[j]? = some x) : (l.take (j + 1)).map Rg.v = (l.take j).map Rg.v ++ [x.v] := by rw [take_snoc h, List.map_append]; rfl
theorem ge_next {l : List Rg} {i : Nat} {r : Rg} (h : l[i]? = some r) (hp : ∀ r ∈ l.take i, 0 ≤ r.r) (hr : ¬ r.r < 0) : ∀ r ∈ l.take (i + 1), 0 ≤ r.r := by
  intro s hs
  rw [take_snoc h] at hs
  rcases List.mem_append.1 hs with h1 | h1
  · exact hp s h1
  · rw [List.mem_singleton] at h1
    subst h1
    omega
/-! ## sets are told by what the graph says -/
theorem fix_uniq {f : Gr} (hU : Up f) {ss s2 : List (Option (Nat × List Int))} (h1 : ∀ n, FixAt f ss n) (h2 : ∀ n, FixAt f s2 n) (hl1 : ss.length = f.bs.l.length) (hl2 : s2.length = f.bs.l.length) :
    ∀ k n x, n + k = f.bs.l.length → (x ∈ setAt ss n ↔ x ∈ setAt s2 n) := by
  intro k
  induction k using Nat.strongRecOn with
  | _ k ih =>
    intro n x hk
    cases hb : f.bs.l[n]? with
    | none =>
      have := List.getElem?_eq_none_iff.1 hb
      have e1 : ss[n]? = none := List.getElem?_eq_none_iff.2 (by omega)
      have e2 : s2[n]? = none := List.getElem?_eq_none_iff.2 (by omega)
      unfold setAt
      rw [e1, e2]
    | some bl =>
      rw [h1 n bl hb, h2 n bl hb]
      unfold blkP
      refine and_congr (insP_congr (fun y => ?_) _ x) Iff.rfl
      unfold lastP
      refine or_congr Iff.rfl (exists_congr fun t => and_congr_right fun ht => ?_)
      unfold edgeP
      refine or_congr Iff.rfl (and_congr_right fun h0 => ?_)
      have hu := hU n bl hb t ht
      have hnl : n < f.bs.l.length := (List.getElem?_eq_some_iff.1 hb).1
      have := ih (f.bs.l.length - t.b.toNat) (by omega) t.b.toNat y (by omega)
      unfold setAt at this
      have e1 : ss[t.b.toNat]? = some (ss[t.b.toNat]'(by omega)) := List.getElem?_eq_getElem _
      have e2 : s2[t.b.toNat]? = some (s2[t.b.toNat]'(by omega)) := List.getElem?_eq_getElem _
      rw [e1, e2] at this ⊢
      simp only [Option.getD_some] at this
      simp only [Option.some.injEq, exists_eq_left']
      exact this
theorem setAt_uniq {f : Gr} (hU : Up f) {ss s2 : List (Option (Nat × List Int))} (h1 : ∀ n, FixAt f ss n) (h2 : ∀ n, FixAt f s2 n) (hl1 : ss.length = f.bs.l.length) (hl2 : s2.length = f.bs.l.length) (n : Nat) (x : Int) : x ∈ setAt ss n ↔ x ∈ setAt s2 n := by
  by_cases h : n ≤ f.bs.l.length
  · exact fix_uniq hU h1 h2 hl1 hl2 (f.bs.l.length - n) n x (by omega)
  · have e1 : ss[n]? = none := List.getElem?_eq_none_iff.2 (by omega)
    have e2 : s2[n]? = none := List.getElem?_eq_none_iff.2 (by omega)
    unfold setAt
    rw [e1, e2]
theorem lastP_uniq {ss s2 : List (Option (Nat × List Int))} (h : ∀ n x, x ∈ setAt ss n ↔ x ∈ setAt s2 n) (hl : ss.length = s2.length) (e : En) (x : Int) : lastP e ss x ↔ lastP e s2 x := by
  have key : ∀ n : Nat, (∃ s, ss[n]? = some s ∧ x ∈ kso s) ↔ (∃ s, s2[n]? = some s ∧ x ∈ kso s) := by
    intro n
    have := h n x
    unfold setAt at this
    by_cases hn : n < ss.length
    · rw [List.getElem?_eq_getElem hn, List.getElem?_eq_getElem (hl ▸ hn)] at this ⊢
      simpa using this
    · rw [List.getElem?_eq_none_iff.2 (by omega), List.getElem?_eq_none_iff.2 (by omega)]
  unfold lastP edgeP
  refine or_congr Iff.rfl (exists_congr fun t => and_congr_right fun ht => or_congr Iff.rfl (and_congr_right fun h0 => key _))
theorem isAt_uniq {f : Gr} {ss s2 : List (Option (Nat × List Int))} (h : ∀ n x, x ∈ setAt ss n ↔ x ∈ setAt s2 n) (hl : ss.length = s2.length) {sl : Nat × Option Nat} {p q : Pl} (hp : IsAt f ss sl p) (hq : IsAt f s2 sl q) : p.bs = q.bs ∧ p.b = q.b ∧ p.ks.Perm q.ks := by
  obtain ⟨n, o⟩ := sl
  obtain ⟨bl, hb, hn, hp⟩ := hp
  obtain ⟨bl', hb', hn', hq⟩ := hq
  rw [hb] at hb'
  cases hb'
  cases o with
  | none =>
    obtain ⟨h1, h2, h3⟩ := hp
    obtain ⟨g1, g2, g3⟩ := hq
    refine ⟨h1.trans g1.symm, h2.trans g2.symm, (List.perm_ext_iff_of_nodup hn hn').2 fun x => ?_⟩
    rw [h3, g3]
    exact h _ x
  | some i =>
    obtain ⟨ins, hi, h1, h2, h3⟩ := hp
    obtain ⟨ins', hi', g1, g2, g3⟩ := hq
    rw [hi] at hi'
    cases hi'
    refine ⟨h1.trans g1.symm, h2.trans g2.symm, (List.perm_ext_iff_of_nodup hn hn').2 fun x => ?_⟩
    rw [h3, g3]
    exact and_congr_right fun _ => insP_congr (lastP_uniq h hl _) _ x
theorem okPl_perm {m : List (Int × Int)} {p q : Pl} (h : p.bs = q.bs ∧ p.b = q.b ∧ p.ks.Perm q.ks) (hp : okPl m p) : okPl m q := by
  obtain ⟨h1, h2, h3⟩ := h
  obtain ⟨g1, g2, g3⟩ := hp
  have hm := h3.map (rgM m)
  refine ⟨fun hb => hm.nodup_iff.1 (g1 (h2.trans hb)), h1 ▸ g2, fun x hx hc => ?_⟩
  exact g3 x (h1.symm ▸ hx) (hm.mem_iff.2 hc)
/-- all places are right -/
def AllOk (f : Gr) (m : List (Int × Int)) : Prop := ∀ ss, ss.length = f.bs.l.length → (∀ n, FixAt f ss n) → ∀ sl ∈ slots f f.bs.l.length, ∀ p, IsAt f ss sl p → okPl m p
theorem goesR {m : List (Int × Int)} : ∀ {pl : List Pl} {s s' : Unit}, goes (atR m) s pl = some s' → ∀ p ∈ pl, okPl m p
  | q :: pl, s, s', h, p, hp => by
    change (atR m s q).bind _ = _ at h
    by_cases hq : okPl m q
    · have e : atR m s q = some () := by unfold atR; rw [if_pos hq]
      rw [e] at h
      rcases List.mem_cons.1 hp with rfl | hp
      · exact hq
      · exact goesR (s := ()) h p hp
    · have e : atR m s q = none := by unfold atR; rw [if_neg hq]
      rw [e] at h
      cases h
theorem fa2_mem {α β : Type} {R : α → β → Prop} {l : List α} {m : List β} (h : FA2 R l m) {x : α} (hx : x ∈ l) : ∃ y ∈ m, R x y := by
  induction h with
  | nil => cases hx
  | cons h1 _ ih =>
    rcases List.mem_cons.1 hx with rfl | hx
    · exact ⟨_, .head _, h1⟩
    · obtain ⟨y, hy, hr⟩ := ih hx
      exact ⟨y, .tail _ hy, hr⟩
theorem allOk_yes {f : Gr} (hU : Up f) {ss : List (Option (Nat × List Int))} (hl : ss.length = f.bs.l.length) (hF : ∀ n, FixAt f ss n) {m : List (Int × Int)} {pl : List Pl} (h : FA2 (IsAt f ss) (slots f f.bs.l.length) pl) {s s' : Unit} (hg : goes (atR m) s pl = some s') : AllOk f m := by
  intro s2 hl2 hF2 sl hsl p hp
  obtain ⟨q, hq, hr⟩ := fa2_mem h hsl
  exact okPl_perm (isAt_uniq (setAt_uniq hU hF hF2 hl hl2) (by omega) hr hp) (goesR hg q hq)
theorem allOk_no {f : Gr} {ss : List (Option (Nat × List Int))} (hl : ss.length = f.bs.l.length) (hF : ∀ n, FixAt f ss n) {m : List (Int × Int)} {sl : Nat × Option Nat} {p : Pl} (hs : sl ∈ slots f f.bs.l.length) (hp : IsAt f ss sl p) {s : Unit} (h : atR m s p = none) : ¬ AllOk f m := by
  intro ha
  have := ha ss hl hF sl hs p hp
  unfold atR at h
  rw [if_pos this] at h
  cases h
/-- what the program's Right asks -/
def RightP (f : Gr) (l : List Rg) : Prop := (∀ r ∈ l, 0 ≤ r.r) ∧ srt (l.map Rg.v) = srt (varsL f.bs.l) ∧ (mkM l).length = l.length ∧ rgM (mkM l) 0 = 0 ∧ rgM (mkM l) 1 = 1 ∧ AllOk f (mkM l)
/-- a graph that is small -/
structure Small (f : Gr) : Prop where
  bs : f.bs.l.length ≤ 100000
  vs : (varsL f.bs.l).length ≤ 1000000
  each : ∀ bl ∈ f.bs.l, bl.ps.l.length ≤ 1000000 ∧ bl.is.l.length ≤ 1000000
  sets : ∀ ss, ss.length = f.bs.l.length → (∀ n, FixAt f ss n) → ∀ sl p, IsAt f ss sl p → p.ks.length ≤ 1000000
theorem encR_at {l : List Rg} {i : Nat} {r : Rg} (h : l[i]? = some r) : (flat encR l)[i * 2 + 0]? = some (.int .i64 r.v) ∧ (flat encR l)[i * 2 + 1]? = some (.int .i64 r.r) :=
  ⟨flat_get (off := 0) encR_len h rfl, flat_get (off := 1) encR_len h rfl⟩
theorem eq_take {l m : List Int} {i : Nat} {x y : Int} (hx : l[i]? = some x) (hy : m[i]? = some y) (h : l.take i = m.take i) (he : x = y) : l.take (i + 1) = m.take (i + 1) := by
  rw [take_snoc hx, take_snoc hy, h, he]
theorem no_iff {p : Prop} (h : ¬ p) : (false = true ↔ p) := ⟨fun h => (by cases h), fun hp => absurd hp h⟩
theorem yes_iff {p : Prop} (h : p) : (true = true ↔ p) := ⟨fun _ => h, fun _ => rfl⟩
set_option maxRecDepth 10000 attribute [local irreducible] Code.wp wpList Calls Ex Op1 sat bat blk cb own Go.Fw.mp Go.Fw.mpO Go.Fw.mpI Go.Fw.mpE Go.Fw.itr HS Rd Ret wkD Hp Cl Cls Exit.then Exit.inBlock Exit.noGoto bodyPost Go.Fw.flat wk2 Go.Fw.all Go.Fw.owns wpOp
attribute [local irreducible] sk mpK srt sko mvO insP blkP skP goes slots slotB varsL mkM AllOk rgM

set_option maxHeartbeats 4000000 in
theorem equalI_spec (w0 : World) (o1 o2 : Option Addr) (c1 c2 : Nat) (l1 l2 : List Int) (h1 : Rd w0 o1 (flat Fw.encI l1)) (h2 : Rd w0 o2 (flat Fw.encI l2)) (hl1 : l1.length ≤ 9223372036854775807) (hl2 : l2.length ≤ 9223372036854775807) :
    Ret Try.prog 20 #[.slice o1 l1.length c1, .slice o2 l2.length c2] w0 (fun v w => v = .bool (decide (l1 = l2)) ∧ Kp w0 noM w) := by
  have hH : HS w0 noM [] w0 := HS.init w0 noM
  have hsp1 : Sp o1 l1.length := h1.sp (sz := 1) (flat_length Fw.encI_len _) (by omega)
  have hsp2 : Sp o2 l2.length := h2.sp (sz := 1) (flat_length Fw.encI_len _) (by omega)
  (refine enter (N := 26) Try.func20 rfl Try.ntmps20 rfl ?_; intro a hA; dsimp only [sl0, Nat.reduceAdd] at hA)
  repeat' (first | (first | (refine GT ?_ ?_ <;> intro hg <;> clear hA a <;> intro a hA <;> (first | exact FA | replace hg := of_decide_eq_true hg | replace hg := of_decide_eq_false hg | skip)) | (refine QT ?_; clear hA a; intro a hA) | (first | (refine BT ?_; clear hA hH; rintro _ w ⟨bN, rfl, hH⟩ a hA) | (refine LT ?_; clear hA hH; rintro _ w ⟨oN, rfl, hH⟩ a hA) | (refine AT ?_; clear hA; rintro _ w ⟨oN, cN, rfl, hH2⟩ a hA; clear hH; have hH := (hH2 _ (by (repeat constructor))).tail; clear hH2) | (refine S0T ?_; clear hH; rintro _ w hH) )) | ((first | refine CT ?_ | (refine DT ?_ ?_ <;> intro hc <;> try (exfalso; omega))) <;> repeat' refine CT ?_) | (first | (refine DSK ?_; clear hA a; intro a hA) | (first | (refine DLT ?_; clear hA hH; rintro _ w ⟨oN, rfl, hH⟩; refine ⟨STT, ?_⟩; intro a hA) | (refine DAT ?_; clear hA; rintro _ w ⟨oN, cN, rfl, hH2⟩; clear hH; have hH := (hH2 _ (by (repeat constructor))).tail; clear hH2; refine ⟨STT, ?_⟩; intro a hA))) )
  · exact rt1 (.inl rfl) rfl hA rfl ⟨by rw [decide_eq_false]; intro h; subst h; omega, hH.kp⟩
  have hll : l1.length = l2.length := by omega
  refine wp_lpk (S := Nat) (fun i a w => (i ≤ l1.length ∧ l1.take i = l2.take i) ∧ HS w0 noM [] w ∧ Sl 26 [(13, .int .i64 i), (12, .int .i64 l1.length), (0, .slice o1 l1.length c1), (1, .slice o2 l2.length c2)] a) (fun i => l1.length - i)
    (fun a w => l1 = l2 ∧ HS w0 noM [] w ∧ Sl 26 [] a) 0 ⟨⟨Nat.zero_le _, by rw [List.take_zero, List.take_zero]⟩, hH, (hA.sub (by (repeat (first | exact trivial | refine ⟨rfl, ?_⟩))))⟩ ?_ ?_
  · clear hA hH
    rintro i a w ⟨⟨hi, hp⟩, hH, hA⟩
    by_cases hlt : i < l1.length
    rotate_left
    · repeat' (first | (first | (refine GT ?_ ?_ <;> intro hg <;> clear hA a <;> intro a hA <;> (first | exact FA | replace hg := of_decide_eq_true hg | replace hg := of_decide_eq_false hg | skip)) | (refine QT ?_; clear hA a; intro a hA) | (first | (refine BT ?_; clear hA hH; rintro _ w ⟨bN, rfl, hH⟩ a hA) | (refine LT ?_; clear hA hH; rintro _ w ⟨oN, rfl, hH⟩ a hA) | (refine AT ?_; clear hA; rintro _ w ⟨oN, cN, rfl, hH2⟩ a hA; clear hH; have hH := (hH2 _ (by (repeat constructor))).tail; clear hH2) | (refine S0T ?_; clear hH; rintro _ w hH) )) | ((first | refine CT ?_ | (refine DT ?_ ?_ <;> intro hc <;> try (exfalso; omega))) <;> repeat' refine CT ?_) | (first | (refine DSK ?_; clear hA a; intro a hA) | (first | (refine DLT ?_; clear hA hH; rintro _ w ⟨oN, rfl, hH⟩; refine ⟨STT, ?_⟩; intro a hA) | (refine DAT ?_; clear hA; rintro _ w ⟨oN, cN, rfl, hH2⟩; clear hH; have hH := (hH2 _ (by (repeat constructor))).tail; clear hH2; refine ⟨STT, ?_⟩; intro a hA))) )
      exact ⟨by rw [List.take_of_length_le (by omega), List.take_of_length_le (by omega)] at hp; exact hp, hH, (hA.sub (by (repeat (first | exact trivial | refine ⟨rfl, ?_⟩))))⟩
    obtain ⟨x, hx⟩ : ∃ x, l1[i]? = some x := ⟨_, List.getElem?_eq_getElem hlt⟩
    obtain ⟨y, hy⟩ : ∃ y, l2[i]? = some y := ⟨_, List.getElem?_eq_getElem (by omega)⟩
    have hcx : (flat Fw.encI l1)[i * 1]? = some (.int .i64 x) := flat_get (off := 0) Fw.encI_len hx rfl
    have hcy : (flat Fw.encI l2)[i * 1]? = some (.int .i64 y) := flat_get (off := 0) Fw.encI_len hy rfl
    repeat' (first | (first | (refine GT ?_ ?_ <;> intro hg <;> clear hA a <;> intro a hA <;> (first | exact FA | replace hg := of_decide_eq_true hg | replace hg := of_decide_eq_false hg | skip)) | (refine QT ?_; clear hA a; intro a hA) | (first | (refine BT ?_; clear hA hH; rintro _ w ⟨bN, rfl, hH⟩ a hA) | (refine LT ?_; clear hA hH; rintro _ w ⟨oN, rfl, hH⟩ a hA) | (refine AT ?_; clear hA; rintro _ w ⟨oN, cN, rfl, hH2⟩ a hA; clear hH; have hH := (hH2 _ (by (repeat constructor))).tail; clear hH2) | (refine S0T ?_; clear hH; rintro _ w hH) )) | ((first | refine CT ?_ | (refine DT ?_ ?_ <;> intro hc <;> try (exfalso; omega))) <;> repeat' refine CT ?_) | (first | (refine DSK ?_; clear hA a; intro a hA) | (first | (refine DLT ?_; clear hA hH; rintro _ w ⟨oN, rfl, hH⟩; refine ⟨STT, ?_⟩; intro a hA) | (refine DAT ?_; clear hA; rintro _ w ⟨oN, cN, rfl, hH2⟩; clear hH; have hH := (hH2 _ (by (repeat constructor))).tail; clear hH2; refine ⟨STT, ?_⟩; intro a hA))) )
    (refine wp_draw_HS [(0, 1), (1, 1), (2, 1), (3, 1), (4, 1), (5, 1), (6, 1), (7, 1), (8, 1)] mixed (by decide +kernel) hH ?_; replace hH := hH.drew)
    repeat' (first | (first | (refine GT ?_ ?_ <;> intro hg <;> clear hA a <;> intro a hA <;> (first | exact FA | replace hg := of_decide_eq_true hg | replace hg := of_decide_eq_false hg | skip)) | ((first | apply st_ex hA hH rfl rfl (by decide) | apply dr_ex hA rfl rfl rfl (by decide) | apply dr_exp hA rfl rfl rfl (by decide) | apply dr_ex3 hA hH rfl rfl rfl (by decide)); (first | (apply ex_load; rfl; exact cl_rd h1 id hcx) | (apply ex_load; rfl; exact cl_rd h2 id hcy)); clear hA a; intro a hA) | (refine QT ?_; clear hA a; intro a hA) | (first | (refine BT ?_; clear hA hH; rintro _ w ⟨bN, rfl, hH⟩ a hA) | (refine LT ?_; clear hA hH; rintro _ w ⟨oN, rfl, hH⟩ a hA) | (refine AT ?_; clear hA; rintro _ w ⟨oN, cN, rfl, hH2⟩ a hA; clear hH; have hH := (hH2 _ (by (repeat constructor))).tail; clear hH2) | (refine S0T ?_; clear hH; rintro _ w hH) )) | ((first | refine CT ?_ | (refine DT ?_ ?_ <;> intro hc <;> try (exfalso; omega))) <;> repeat' refine CT ?_) | (first | (refine DSK ?_; clear hA a; intro a hA) | (first | (refine DLT ?_; clear hA hH; rintro _ w ⟨oN, rfl, hH⟩; refine ⟨STT, ?_⟩; intro a hA) | (refine DAT ?_; clear hA; rintro _ w ⟨oN, cN, rfl, hH2⟩; clear hH; have hH := (hH2 _ (by (repeat constructor))).tail; clear hH2; refine ⟨STT, ?_⟩; intro a hA))) )
    · exact rt1 (.inl rfl) rfl hA rfl ⟨by rw [decide_eq_false]; intro h; subst h; rw [hx] at hy; exact absurd (Option.some.inj hy) (by assumption), hH.kp⟩
    · exact ⟨i + 1, ⟨⟨hlt, eq_take hx hy hp (by omega)⟩, hH, (hA.sub (by (repeat (first | exact trivial | refine ⟨rfl, ?_⟩))))⟩, by omega⟩
  clear hA hH
  rintro a w ⟨he, hH, hA⟩
  repeat' (first | (first | (refine GT ?_ ?_ <;> intro hg <;> clear hA a <;> intro a hA <;> (first | exact FA | replace hg := of_decide_eq_true hg | replace hg := of_decide_eq_false hg | skip)) | (refine QT ?_; clear hA a; intro a hA) | (first | (refine BT ?_; clear hA hH; rintro _ w ⟨bN, rfl, hH⟩ a hA) | (refine LT ?_; clear hA hH; rintro _ w ⟨oN, rfl, hH⟩ a hA) | (refine AT ?_; clear hA; rintro _ w ⟨oN, cN, rfl, hH2⟩ a hA; clear hH; have hH := (hH2 _ (by (repeat constructor))).tail; clear hH2) | (refine S0T ?_; clear hH; rintro _ w hH) )) | ((first | refine CT ?_ | (refine DT ?_ ?_ <;> intro hc <;> try (exfalso; omega))) <;> repeat' refine CT ?_) | (first | (refine DSK ?_; clear hA a; intro a hA) | (first | (refine DLT ?_; clear hA hH; rintro _ w ⟨oN, rfl, hH⟩; refine ⟨STT, ?_⟩; intro a hA) | (refine DAT ?_; clear hA; rintro _ w ⟨oN, cN, rfl, hH2⟩; clear hH; have hH := (hH2 _ (by (repeat constructor))).tail; clear hH2; refine ⟨STT, ?_⟩; intro a hA))) )
  exact rt1 (.inl rfl) rfl hA rfl ⟨by rw [decide_eq_true he], hH.kp⟩
set_option maxHeartbeats 8000000 in
theorem Right_spec (w0 : World) (f : Gr) (oL : Option Addr) (cL : Nat) (l : List Rg) (hR : RdG w0 f) (hU : Up f) (hS : Small f) (hL : Rd w0 oL (flat encR l)) (hll : l.length ≤ 1000000) :
    Ret Try.prog 10 #[.agg (encG f).toArray, .slice oL l.length cL] w0 (fun v w => ∃ b, v = .bool b ∧ (b = true ↔ RightP f l) ∧ Kp w0 noM w) := by
  have hH : HS w0 noM [] w0 := HS.init w0 noM
  have hspL : Sp oL l.length := hL.sp (sz := 2) (flat_length encR_len _) (by omega)
  (refine enter (N := 57) Try.func10 rfl Try.ntmps10 rfl ?_; intro a hA; dsimp only [sl0, Nat.reduceAdd] at hA)
  repeat' (first | (first | (refine GT ?_ ?_ <;> intro hg <;> clear hA a <;> intro a hA <;> (first | exact FA | replace hg := of_decide_eq_true hg | replace hg := of_decide_eq_false hg | skip)) | (refine QT ?_; clear hA a; intro a hA) | (first | (refine BT ?_; clear hA hH; rintro _ w ⟨bN, rfl, hH⟩ a hA) | (refine LT ?_; clear hA hH; rintro _ w ⟨oN, rfl, hH⟩ a hA) | (refine AT ?_; clear hA; rintro _ w ⟨oN, cN, rfl, hH2⟩ a hA; clear hH; have hH := (hH2 _ (by (repeat constructor))).tail; clear hH2) | (refine S0T ?_; clear hH; rintro _ w hH) )) | ((first | refine CT ?_ | (refine DT ?_ ?_ <;> intro hc <;> try (exfalso; omega))) <;> repeat' refine CT ?_) | (first | (refine DSK ?_; clear hA a; intro a hA) | (first | (refine DLT ?_; clear hA hH; rintro _ w ⟨oN, rfl, hH⟩; refine ⟨STT, ?_⟩; intro a hA) | (refine DAT ?_; clear hA; rintro _ w ⟨oN, cN, rfl, hH2⟩; clear hH; have hH := (hH2 _ (by (repeat constructor))).tail; clear hH2; refine ⟨STT, ?_⟩; intro a hA))) )
  obtain ⟨bF, hbF⟩ : ∃ x, x = bN := ⟨_, rfl⟩
  rw [← hbF] at hA hH
  clear hbF bN
  (refine st_op hA rfl rfl (by decide) (op_makeMapI hH) ?_; clear hA hH; rintro _ w ⟨mR, rfl, hH⟩ a hA)
  repeat' (first | (first | (refine GT ?_ ?_ <;> intro hg <;> clear hA a <;> intro a hA <;> (first | exact FA | replace hg := of_decide_eq_true hg | replace hg := of_decide_eq_false hg | skip)) | (refine QT ?_; clear hA a; intro a hA) | (first | (refine BT ?_; clear hA hH; rintro _ w ⟨bN, rfl, hH⟩ a hA) | (refine LT ?_; clear hA hH; rintro _ w ⟨oN, rfl, hH⟩ a hA) | (refine AT ?_; clear hA; rintro _ w ⟨oN, cN, rfl, hH2⟩ a hA; clear hH; have hH := (hH2 _ (by (repeat constructor))).tail; clear hH2) | (refine S0T ?_; clear hH; rintro _ w hH) )) | ((first | refine CT ?_ | (refine DT ?_ ?_ <;> intro hc <;> try (exfalso; omega))) <;> repeat' refine CT ?_) | (first | (refine DSK ?_; clear hA a; intro a hA) | (first | (refine DLT ?_; clear hA hH; rintro _ w ⟨oN, rfl, hH⟩; refine ⟨STT, ?_⟩; intro a hA) | (refine DAT ?_; clear hA; rintro _ w ⟨oN, cN, rfl, hH2⟩; clear hH; have hH := (hH2 _ (by (repeat constructor))).tail; clear hH2; refine ⟨STT, ?_⟩; intro a hA))) )
  obtain ⟨bR, hbR⟩ : ∃ x, x = bN := ⟨_, rfl⟩
  rw [← hbR] at hA hH
  clear hbR bN
  refine wp_lpk (S := Nat) (fun i a w => ∃ o c, (i ≤ l.length ∧ ∀ r ∈ l.take i, 0 ≤ r.r) ∧ HS w0 noM [own 3 1 o ((l.take i).map Rg.v).length c (flat Fw.encI ((l.take i).map Rg.v)), cb bR 67 [.map (some mR)], mpI mR (mkM (l.take i)), cb bF 30 (encG f)] w ∧
      Sl 57 [(12, .int .i64 i), (11, .int .i64 l.length), (10, .slice oL l.length cL), (6, .pointer (some (bat bR 0))), (5, .slice o ((l.take i).map Rg.v).length c), (2, .pointer (some (bat bF 0))), (1, .slice oL l.length cL)] a) (fun i => l.length - i)
    (fun a w => ∃ o c, (∀ r ∈ l, 0 ≤ r.r) ∧ HS w0 noM [own 3 1 o (l.map Rg.v).length c (flat Fw.encI (l.map Rg.v)), cb bR 67 [.map (some mR)], mpI mR (mkM l), cb bF 30 (encG f)] w ∧
      Sl 57 [(6, .pointer (some (bat bR 0))), (5, .slice o (l.map Rg.v).length c), (2, .pointer (some (bat bF 0))), (1, .slice oL l.length cL)] a) 0 ⟨none, 0, ⟨Nat.zero_le _, (by rw [List.take_zero]; exact fun r hr => absurd hr List.not_mem_nil)⟩, (by rw [mkM_nil, List.take_zero, List.map_nil, flatI_nil]; exact (hH.nil_own 3 1)), (by rw [List.take_zero, List.map_nil]; exact (hA.sub (by (repeat (first | exact trivial | refine ⟨rfl, ?_⟩)))))⟩ ?_ ?_
  · clear hA hH
    rintro i a w ⟨o, c, ⟨hi, hp⟩, hH, hA⟩
    by_cases hlt : i < l.length
    rotate_left
    · obtain rfl : i = l.length := by omega
      rw [List.take_length] at hA hH hp
      repeat' (first | (first | (refine GT ?_ ?_ <;> intro hg <;> clear hA a <;> intro a hA <;> (first | exact FA | replace hg := of_decide_eq_true hg | replace hg := of_decide_eq_false hg | skip)) | (refine QT ?_; clear hA a; intro a hA) | (first | (refine BT ?_; clear hA hH; rintro _ w ⟨bN, rfl, hH⟩ a hA) | (refine LT ?_; clear hA hH; rintro _ w ⟨oN, rfl, hH⟩ a hA) | (refine AT ?_; clear hA; rintro _ w ⟨oN, cN, rfl, hH2⟩ a hA; clear hH; have hH := (hH2 _ (by (repeat constructor))).tail; clear hH2) | (refine S0T ?_; clear hH; rintro _ w hH) )) | ((first | refine CT ?_ | (refine DT ?_ ?_ <;> intro hc <;> try (exfalso; omega))) <;> repeat' refine CT ?_) | (first | (refine DSK ?_; clear hA a; intro a hA) | (first | (refine DLT ?_; clear hA hH; rintro _ w ⟨oN, rfl, hH⟩; refine ⟨STT, ?_⟩; intro a hA) | (refine DAT ?_; clear hA; rintro _ w ⟨oN, cN, rfl, hH2⟩; clear hH; have hH := (hH2 _ (by (repeat constructor))).tail; clear hH2; refine ⟨STT, ?_⟩; intro a hA))) )
      exact ⟨o, c, hp, hH, (hA.sub (by (repeat (first | exact trivial | refine ⟨rfl, ?_⟩))))⟩
    obtain ⟨r, hr⟩ : ∃ x, l[i]? = some x := ⟨_, List.getElem?_eq_getElem hlt⟩
    have hvr := flat_all encR_len hr
    have hml : ((l.take i).map Rg.v).length ≤ 1000000 := by rw [List.length_map, List.length_take]; omega
    repeat' (first | (first | (refine GT ?_ ?_ <;> intro hg <;> clear hA a <;> intro a hA <;> (first | exact FA | replace hg := of_decide_eq_true hg | replace hg := of_decide_eq_false hg | skip)) | ((first | apply st_ex hA hH rfl rfl (by decide) | apply dr_ex hA rfl rfl rfl (by decide) | apply dr_exp hA rfl rfl rfl (by decide) | apply dr_ex3 hA hH rfl rfl rfl (by decide)); (first | (apply ex_load_st (vs := encR r); rfl; rfl; exact cls_rd hL id hvr) | (apply ex_indexAddr_nat; rfl; rfl; omega; exact hspL)); clear hA a; intro a hA) | (refine QT ?_; clear hA a; intro a hA) | (first | (refine BT ?_; clear hA hH; rintro _ w ⟨bN, rfl, hH⟩ a hA) | (refine LT ?_; clear hA hH; rintro _ w ⟨oN, rfl, hH⟩ a hA) | (refine AT ?_; clear hA; rintro _ w ⟨oN, cN, rfl, hH2⟩ a hA; clear hH; have hH := (hH2 _ (by (repeat constructor))).tail; clear hH2) | (refine S0T ?_; clear hH; rintro _ w hH) | (apply st_op0 hA rfl rfl; apply op_store_agg (vs := encR r); rfl; rfl; exact hH; (repeat constructor); (repeat rfl); clear hH; rintro _ w hH) | (apply st_op0 hA rfl rfl; apply op_mapUpdateI; rfl; rfl; rfl; exact hH; (repeat constructor); clear hH; rintro _ w hH))) | ((first | refine CT ?_ | (refine DT ?_ ?_ <;> intro hc <;> try (exfalso; omega))) <;> repeat' refine CT ?_) | (first | (refine DSK ?_; clear hA a; intro a hA) | (first | (refine DLT ?_; clear hA hH; rintro _ w ⟨oN, rfl, hH⟩; refine ⟨STT, ?_⟩; intro a hA) | (refine DAT ?_; clear hA; rintro _ w ⟨oN, cN, rfl, hH2⟩; clear hH; have hH := (hH2 _ (by (repeat constructor))).tail; clear hH2; refine ⟨STT, ?_⟩; intro a hA))) )
    · have hneg : r.r < 0 := by assumption
      exact rt1 (.inl rfl) rfl hA rfl ⟨false, rfl, no_iff (fun h => (by have := h.1 r (List.mem_of_getElem? hr); omega)), hH.kp⟩
    · rw [flatI_snoc, ← lenS ((l.take i).map Rg.v) r.v, ← map_v_next hr, ← mkM_next hr] at hH
      rw [← lenS ((l.take i).map Rg.v) r.v, ← map_v_next hr] at hA
      exact ⟨i + 1, ⟨oN, cN, ⟨hlt, ge_next hr hp (by omega)⟩, hH.tail, (hA.sub (by (repeat (first | exact trivial | refine ⟨rfl, ?_⟩))))⟩, by omega⟩
  clear hA hH
  rintro a w ⟨o, c, hge, hH, hA⟩
  obtain ⟨vl, hvl⟩ : ∃ x, x = l.map Rg.v := ⟨_, rfl⟩
  rw [← hvl] at hA hH
  have hvll : vl.length = l.length := by rw [hvl, List.length_map]
  repeat' (first | (first | (refine GT ?_ ?_ <;> intro hg <;> clear hA a <;> intro a hA <;> (first | exact FA | replace hg := of_decide_eq_true hg | replace hg := of_decide_eq_false hg | skip)) | (refine QT ?_; clear hA a; intro a hA) | (first | (refine BT ?_; clear hA hH; rintro _ w ⟨bN, rfl, hH⟩ a hA) | (refine LT ?_; clear hA hH; rintro _ w ⟨oN, rfl, hH⟩ a hA) | (refine AT ?_; clear hA; rintro _ w ⟨oN, cN, rfl, hH2⟩ a hA; clear hH; have hH := (hH2 _ (by (repeat constructor))).tail; clear hH2) | (refine S0T ?_; clear hH; rintro _ w hH) )) | ((first | refine CT ?_ | (refine DT ?_ ?_ <;> intro hc <;> try (exfalso; omega))) <;> repeat' refine CT ?_) | (first | (refine DSK ?_; clear hA a; intro a hA) | (first | (refine DLT ?_; clear hA hH; rintro _ w ⟨oN, rfl, hH⟩; refine ⟨STT, ?_⟩; intro a hA) | (refine DAT ?_; clear hA; rintro _ w ⟨oN, cN, rfl, hH2⟩; clear hH; have hH := (hH2 _ (by (repeat constructor))).tail; clear hH2; refine ⟨STT, ?_⟩; intro a hA))) )
  (refine st_op hA rfl rfl (by decide) (op_call rfl rfl rfl (sort_spec w0 _ noM _ o c vl hH (.head _) (by omega))) ?_; clear hA; rintro _ w ⟨rfl, hup⟩ a hA; clear hH; have hH := hup _ .here; clear hup)
  rw [← srt_len vl] at hA hH
  repeat' (first | (first | (refine GT ?_ ?_ <;> intro hg <;> clear hA a <;> intro a hA <;> (first | exact FA | replace hg := of_decide_eq_true hg | replace hg := of_decide_eq_false hg | skip)) | (refine QT ?_; clear hA a; intro a hA) | (first | (refine BT ?_; clear hA hH; rintro _ w ⟨bN, rfl, hH⟩ a hA) | (refine LT ?_; clear hA hH; rintro _ w ⟨oN, rfl, hH⟩ a hA) | (refine AT ?_; clear hA; rintro _ w ⟨oN, cN, rfl, hH2⟩ a hA; clear hH; have hH := (hH2 _ (by (repeat constructor))).tail; clear hH2) | (refine S0T ?_; clear hH; rintro _ w hH) )) | ((first | refine CT ?_ | (refine DT ?_ ?_ <;> intro hc <;> try (exfalso; omega))) <;> repeat' refine CT ?_) | (first | (refine DSK ?_; clear hA a; intro a hA) | (first | (refine DLT ?_; clear hA hH; rintro _ w ⟨oN, rfl, hH⟩; refine ⟨STT, ?_⟩; intro a hA) | (refine DAT ?_; clear hA; rintro _ w ⟨oN, cN, rfl, hH2⟩; clear hH; have hH := (hH2 _ (by (repeat constructor))).tail; clear hH2; refine ⟨STT, ?_⟩; intro a hA))) )
  (refine st_op hA rfl rfl (by decide) (op_call rfl rfl rfl (variables_spec w0 _ _ f hH hR hS.vs)) ?_; clear hA hH; rintro _ w ⟨oV, cV, rfl, hH⟩ a hA)
  (refine st_op hA rfl rfl (by decide) (op_call rfl rfl rfl (equalI_spec _ o oV c cV (srt vl) (srt (varsL f.bs.l)) (hH.own_rd (T := 3) (n := (srt vl).length) (cap := c) (sz := 1) (by exact MEMT)) (hH.own_rd (T := 3) (n := (srt (varsL f.bs.l)).length) (cap := cV) (sz := 1) (by exact MEMT)) (by rw [srt_len]; omega) (by rw [srt_len]; have := hS.vs; omega))) ?_; clear hA; rintro _ w ⟨rfl, hk⟩ a hA; replace hH := hH.keep hk; clear hk)
  repeat' (first | (first | (refine GT ?_ ?_ <;> intro hg <;> clear hA a <;> intro a hA <;> (first | exact FA | replace hg := of_decide_eq_true hg | replace hg := of_decide_eq_false hg | skip)) | ((first | apply st_ex hA hH rfl rfl (by decide) | apply dr_ex hA rfl rfl rfl (by decide) | apply dr_exp hA rfl rfl rfl (by decide) | apply dr_ex3 hA hH rfl rfl rfl (by decide)); (first | (apply ex_lenI; rfl; exact MEMT)); clear hA a; intro a hA) | (refine QT ?_; clear hA a; intro a hA) | (first | (refine BT ?_; clear hA hH; rintro _ w ⟨bN, rfl, hH⟩ a hA) | (refine LT ?_; clear hA hH; rintro _ w ⟨oN, rfl, hH⟩ a hA) | (refine AT ?_; clear hA; rintro _ w ⟨oN, cN, rfl, hH2⟩ a hA; clear hH; have hH := (hH2 _ (by (repeat constructor))).tail; clear hH2) | (refine S0T ?_; clear hH; rintro _ w hH) )) | ((first | refine CT ?_ | (refine DT ?_ ?_ <;> intro hc <;> try (exfalso; omega))) <;> repeat' refine CT ?_) | (first | (refine DSK ?_; clear hA a; intro a hA) | (first | (refine DLT ?_; clear hA hH; rintro _ w ⟨oN, rfl, hH⟩; refine ⟨STT, ?_⟩; intro a hA) | (refine DAT ?_; clear hA; rintro _ w ⟨oN, cN, rfl, hH2⟩; clear hH; have hH := (hH2 _ (by (repeat constructor))).tail; clear hH2; refine ⟨STT, ?_⟩; intro a hA))) )
  · have hne : ¬ srt vl = srt (varsL f.bs.l) := nd_t (by assumption)
    exact rt1 (.inl rfl) rfl hA rfl ⟨false, rfl, no_iff (fun h => hne (hvl ▸ h.2.1)), hH.kp⟩
  · have hne : ((mkM l).length : Int) ≠ (l.length : Int) := by assumption
    exact rt1 (.inl rfl) rfl hA rfl ⟨false, rfl, no_iff (fun h => hne (by rw [h.2.2.1])), hH.kp⟩
  · have hne : (lkI (mkM l) 0).getD 0 ≠ 0 := by assumption
    exact rt1 (.inl rfl) rfl hA rfl ⟨false, rfl, no_iff (fun h => hne ((rgM_eq _ _).trans h.2.2.2.1)), hH.kp⟩
  · have hne : (lkI (mkM l) 1).getD 0 ≠ 1 := by assumption
    exact rt1 (.inl rfl) rfl hA rfl ⟨false, rfl, no_iff (fun h => hne ((rgM_eq _ _).trans h.2.2.2.2.1)), hH.kp⟩
  have h1 : srt vl = srt (varsL f.bs.l) := nd_f (by assumption)
  have h2 : (mkM l).length = l.length := by
    have : ¬ ((mkM l).length : Int) ≠ (l.length : Int) := by assumption
    omega
  have h3 : rgM (mkM l) 0 = 0 := by
    have : ¬ (lkI (mkM l) 0).getD 0 ≠ 0 := by assumption
    rw [← rgM_eq]
    omega
  have h4 : rgM (mkM l) 1 = 1 := by
    have : ¬ (lkI (mkM l) 1).getD 0 ≠ 1 := by assumption
    rw [← rgM_eq]
    omega
  (refine st_op hA rfl rfl (by decide) (op_call rfl rfl rfl (each_spec 23 #[.pointer (some (bat bR 0))] _ _ w0 _ _ f () (atR_spec w0 bR mR (mkM l)) (HS.shut (L := [_, _]) ((hH.up 2 rfl).up 3 rfl |>.perm (by (repeat (first | exact List.Perm.refl _ | exact List.Perm.nil | refine perm_pick 0 rfl ?_ | refine perm_pick 1 rfl ?_ | refine perm_pick 2 rfl ?_ | refine perm_pick 3 rfl ?_ | refine perm_pick 4 rfl ?_ | refine perm_pick 5 rfl ?_ | refine perm_pick 6 rfl ?_ | refine perm_pick 7 rfl ?_ | refine perm_pick 8 rfl ?_ | refine perm_pick 9 rfl ?_ | refine perm_pick 10 rfl ?_ | refine perm_pick 11 rfl ?_))))) hR hU hS.bs hS.each hS.sets)) ?_; clear hA hH; rintro _ w ⟨ss, hsl, hF, h⟩ a hA)
  have h5 : srt (l.map Rg.v) = srt (varsL f.bs.l) := hvl ▸ h1
  rcases h with ⟨pl, s1, hpl, hgo, rfl, hH⟩ | ⟨sl, p, s1, hsl2, hp, hno, rfl, hH⟩
  · repeat' (first | (first | (refine GT ?_ ?_ <;> intro hg <;> clear hA a <;> intro a hA <;> (first | exact FA | replace hg := of_decide_eq_true hg | replace hg := of_decide_eq_false hg | skip)) | (refine QT ?_; clear hA a; intro a hA) | (first | (refine BT ?_; clear hA hH; rintro _ w ⟨bN, rfl, hH⟩ a hA) | (refine LT ?_; clear hA hH; rintro _ w ⟨oN, rfl, hH⟩ a hA) | (refine AT ?_; clear hA; rintro _ w ⟨oN, cN, rfl, hH2⟩ a hA; clear hH; have hH := (hH2 _ (by (repeat constructor))).tail; clear hH2) | (refine S0T ?_; clear hH; rintro _ w hH) )) | ((first | refine CT ?_ | (refine DT ?_ ?_ <;> intro hc <;> try (exfalso; omega))) <;> repeat' refine CT ?_) | (first | (refine DSK ?_; clear hA a; intro a hA) | (first | (refine DLT ?_; clear hA hH; rintro _ w ⟨oN, rfl, hH⟩; refine ⟨STT, ?_⟩; intro a hA) | (refine DAT ?_; clear hA; rintro _ w ⟨oN, cN, rfl, hH2⟩; clear hH; have hH := (hH2 _ (by (repeat constructor))).tail; clear hH2; refine ⟨STT, ?_⟩; intro a hA))) )
    exact rt1 (.inl rfl) rfl hA rfl ⟨true, rfl, yes_iff ⟨hge, h5, h2, h3, h4, allOk_yes hU hsl hF hpl hgo⟩, hH.kp⟩
  · repeat' (first | (first | (refine GT ?_ ?_ <;> intro hg <;> clear hA a <;> intro a hA <;> (first | exact FA | replace hg := of_decide_eq_true hg | replace hg := of_decide_eq_false hg | skip)) | (refine QT ?_; clear hA a; intro a hA) | (first | (refine BT ?_; clear hA hH; rintro _ w ⟨bN, rfl, hH⟩ a hA) | (refine LT ?_; clear hA hH; rintro _ w ⟨oN, rfl, hH⟩ a hA) | (refine AT ?_; clear hA; rintro _ w ⟨oN, cN, rfl, hH2⟩ a hA; clear hH; have hH := (hH2 _ (by (repeat constructor))).tail; clear hH2) | (refine S0T ?_; clear hH; rintro _ w hH) )) | ((first | refine CT ?_ | (refine DT ?_ ?_ <;> intro hc <;> try (exfalso; omega))) <;> repeat' refine CT ?_) | (first | (refine DSK ?_; clear hA a; intro a hA) | (first | (refine DLT ?_; clear hA hH; rintro _ w ⟨oN, rfl, hH⟩; refine ⟨STT, ?_⟩; intro a hA) | (refine DAT ?_; clear hA; rintro _ w ⟨oN, cN, rfl, hH2⟩; clear hH; have hH := (hH2 _ (by (repeat constructor))).tail; clear hH2; refine ⟨STT, ?_⟩; intro a hA))) )
    exact rt1 (.inl rfl) rfl hA rfl ⟨false, rfl, no_iff (fun h => allOk_no hsl hF hsl2 hp hno h.2.2.2.2.2), hH.kp⟩
end Go.Proofs.Ytjfanjcoppeeaaa
namespace Go.Proofs.Ytjfanjcoppeeaaa
open Go Go.Fw
set_option linter.unusedVariables false
def regsOf (vs : List Int) (m : List (Int × Int)) : List Rg := vs.map fun x => ⟨x, rgM m x⟩
theorem regsOf_next {vs : List Int} {i : Nat} {x : Int} {m : List (Int × Int)} (h : vs[i]? = some x) : regsOf (vs.take (i + 1)) m = regsOf (vs.take i) m ++ [⟨x, rgM m x⟩] := by
  unfold regsOf
  rw [take_snoc h, List.map_append]
  rfl
theorem regsOf_len (vs : List Int) (m : List (Int × Int)) : (regsOf vs m).length = vs.length := List.length_map _
theorem regsOf_0 (vs : List Int) (m : List (Int × Int)) : regsOf (vs.take 0) m = [] := by rw [List.take_zero]; rfl
theorem flatR_snoc (l : List Rg) (x : Int) (r : Int) : flat encR l ++ [.int .i64 x, .int .i64 r] = flat encR (l ++ [⟨x, r⟩]) := by rw [flat_snoc]; rfl
theorem regsOf_next_len {vs : List Int} {i : Nat} {x : Int} {m : List (Int × Int)} (h : vs[i]? = some x) : (regsOf (vs.take i) m).length + 1 = (regsOf (vs.take (i + 1)) m).length := by rw [regsOf_next h, List.length_append]; rfl
theorem flatR_nil : flat encR [] = [] := rfl
def m01 : List (Int × Int) := setI (setI [] 0 0) 1 1
theorem atC_some (s : Nat × List (Int × Int)) (p : Pl) : atC s p ≠ none := by unfold atC; exact fun h => by cases h
set_option maxRecDepth 10000 attribute [local irreducible] Code.wp wpList Calls Ex Op1 sat bat blk cb own Go.Fw.mp Go.Fw.mpO Go.Fw.mpI Go.Fw.mpE Go.Fw.itr HS Rd Ret wkD Hp Cl Cls Exit.then Exit.inBlock Exit.noGoto bodyPost Go.Fw.flat wk2 Go.Fw.all Go.Fw.owns wpOp
attribute [local irreducible] sk mpK srt sko mvO insP blkP skP goes slots slotB varsL mkM AllOk rgM atC regsOf

set_option maxHeartbeats 8000000 in
theorem Colour_spec (w0 : World) (f : Gr) (k : Int) (hR : RdG w0 f) (hU : Up f) (hS : Small f) :
    Ret Try.prog 12 #[.agg (encG f).toArray, .int .i64 k] w0 (fun v w => ∃ ss pl s1, ss.length = f.bs.l.length ∧ (∀ n, FixAt f ss n) ∧ FA2 (IsAt f ss) (slots f f.bs.l.length) pl ∧ goes atC (2, m01) pl = some s1 ∧
      ((k < (s1.1 : Nat) ∧ v = .tuple #[.slice none 0 0, .int .i64 3] ∧ Kp w0 noM w) ∨
       ((s1.1 : Nat) ≤ k ∧ ∃ o c, v = .tuple #[.slice o (regsOf (srt (varsL f.bs.l)) s1.2).length c, .int .i64 0] ∧ HS w0 noM [own 40 2 o (regsOf (srt (varsL f.bs.l)) s1.2).length c (flat encR (regsOf (srt (varsL f.bs.l)) s1.2))] w))) := by
  have hH : HS w0 noM [] w0 := HS.init w0 noM
  (refine enter (N := 36) Try.func12 rfl Try.ntmps12 rfl ?_; intro a hA; dsimp only [sl0, Nat.reduceAdd] at hA)
  repeat' (first | (first | (refine GT ?_ ?_ <;> intro hg <;> clear hA a <;> intro a hA <;> (first | exact FA | replace hg := of_decide_eq_true hg | replace hg := of_decide_eq_false hg | skip)) | (refine QT ?_; clear hA a; intro a hA) | (first | (refine BT ?_; clear hA hH; rintro _ w ⟨bN, rfl, hH⟩ a hA) | (refine LT ?_; clear hA hH; rintro _ w ⟨oN, rfl, hH⟩ a hA) | (refine AT ?_; clear hA; rintro _ w ⟨oN, cN, rfl, hH2⟩ a hA; clear hH; have hH := (hH2 _ (by (repeat constructor))).tail; clear hH2) | (refine S0T ?_; clear hH; rintro _ w hH) )) | ((first | refine CT ?_ | (refine DT ?_ ?_ <;> intro hc <;> try (exfalso; omega))) <;> repeat' refine CT ?_) | (first | (refine DSK ?_; clear hA a; intro a hA) | (first | (refine DLT ?_; clear hA hH; rintro _ w ⟨oN, rfl, hH⟩; refine ⟨STT, ?_⟩; intro a hA) | (refine DAT ?_; clear hA; rintro _ w ⟨oN, cN, rfl, hH2⟩; clear hH; have hH := (hH2 _ (by (repeat constructor))).tail; clear hH2; refine ⟨STT, ?_⟩; intro a hA))) )
  obtain ⟨bP, hbP⟩ : ∃ x, x = bN := ⟨_, rfl⟩
  rw [← hbP] at hA hH
  clear hbP bN
  (refine st_op hA rfl rfl (by decide) (op_makeMapI hH) ?_; clear hA hH; rintro _ w ⟨mR, rfl, hH⟩ a hA)
  repeat' (first | (first | (refine GT ?_ ?_ <;> intro hg <;> clear hA a <;> intro a hA <;> (first | exact FA | replace hg := of_decide_eq_true hg | replace hg := of_decide_eq_false hg | skip)) | (refine QT ?_; clear hA a; intro a hA) | (first | (refine BT ?_; clear hA hH; rintro _ w ⟨bN, rfl, hH⟩ a hA) | (refine LT ?_; clear hA hH; rintro _ w ⟨oN, rfl, hH⟩ a hA) | (refine AT ?_; clear hA; rintro _ w ⟨oN, cN, rfl, hH2⟩ a hA; clear hH; have hH := (hH2 _ (by (repeat constructor))).tail; clear hH2) | (refine S0T ?_; clear hH; rintro _ w hH) | (apply st_op0 hA rfl rfl; apply op_insertI; rfl; rfl; rfl; exact hH; (repeat constructor); clear hH; rintro _ w hH))) | ((first | refine CT ?_ | (refine DT ?_ ?_ <;> intro hc <;> try (exfalso; omega))) <;> repeat' refine CT ?_) | (first | (refine DSK ?_; clear hA a; intro a hA) | (first | (refine DLT ?_; clear hA hH; rintro _ w ⟨oN, rfl, hH⟩; refine ⟨STT, ?_⟩; intro a hA) | (refine DAT ?_; clear hA; rintro _ w ⟨oN, cN, rfl, hH2⟩; clear hH; have hH := (hH2 _ (by (repeat constructor))).tail; clear hH2; refine ⟨STT, ?_⟩; intro a hA))) )
  obtain ⟨bR, hbR⟩ : ∃ x, x = bN := ⟨_, rfl⟩
  rw [← hbR] at hA hH
  clear hbR bN
  (refine st_op hA rfl rfl (by decide) (op_call rfl rfl rfl (each_spec 30 #[.pointer (some (bat bP 0)), .pointer (some (bat bR 0))] _ _ w0 _ _ f (2, m01) (atC_spec w0 bP bR mR) (HS.facI_shut (by decide) (HS.shut (L := [_, _, _]) (hH.up 2 rfl))) hR hU hS.bs hS.each hS.sets)) ?_; clear hA hH; rintro _ w ⟨ss, hsl, hF, h⟩ a hA)
  rcases h with ⟨pl, s1, hpl, hgo, rfl, hH⟩ | ⟨sl, p, s1, hsl2, hp, hno, rfl, hH⟩
  rotate_left
  · exact absurd hno (atC_some _ _)
  obtain ⟨hpr, hH⟩ := hH.facI_open
  replace hH := hH.open_
  dsimp only [List.cons_append, List.nil_append] at hH hpr
  repeat' (first | (first | (refine GT ?_ ?_ <;> intro hg <;> clear hA a <;> intro a hA <;> (first | exact FA | replace hg := of_decide_eq_true hg | replace hg := of_decide_eq_false hg | skip)) | (refine QT ?_; clear hA a; intro a hA) | (first | (refine BT ?_; clear hA hH; rintro _ w ⟨bN, rfl, hH⟩ a hA) | (refine LT ?_; clear hA hH; rintro _ w ⟨oN, rfl, hH⟩ a hA) | (refine AT ?_; clear hA; rintro _ w ⟨oN, cN, rfl, hH2⟩ a hA; clear hH; have hH := (hH2 _ (by (repeat constructor))).tail; clear hH2) | (refine S0T ?_; clear hH; rintro _ w hH) )) | ((first | refine CT ?_ | (refine DT ?_ ?_ <;> intro hc <;> try (exfalso; omega))) <;> repeat' refine CT ?_) | (first | (refine DSK ?_; clear hA a; intro a hA) | (first | (refine DLT ?_; clear hA hH; rintro _ w ⟨oN, rfl, hH⟩; refine ⟨STT, ?_⟩; intro a hA) | (refine DAT ?_; clear hA; rintro _ w ⟨oN, cN, rfl, hH2⟩; clear hH; have hH := (hH2 _ (by (repeat constructor))).tail; clear hH2; refine ⟨STT, ?_⟩; intro a hA))) )
  · exact rt2 (.inl rfl) rfl hA rfl rfl ⟨ss, pl, s1, hsl, hF, hpl, hgo, .inl ⟨by omega, rfl, hH.kp⟩⟩
  have hge : (s1.1 : Int) ≤ k := by omega
  (refine st_op hA rfl rfl (by decide) (op_call rfl rfl rfl (variables_spec w0 _ _ f hH hR hS.vs)) ?_; clear hA hH; rintro _ w ⟨oV, cV, rfl, hH⟩ a hA)
  obtain ⟨vs, hvs⟩ : ∃ x, x = srt (varsL f.bs.l) := ⟨_, rfl⟩
  have hvl : vs.length ≤ 1000000 := by rw [hvs, srt_len]; exact hS.vs
  rw [← hvs] at hA hH ⊢
  have hspV := hH.own_sp (T := 3) (o := oV) (.head _)
  repeat' (first | (first | (refine GT ?_ ?_ <;> intro hg <;> clear hA a <;> intro a hA <;> (first | exact FA | replace hg := of_decide_eq_true hg | replace hg := of_decide_eq_false hg | skip)) | (refine QT ?_; clear hA a; intro a hA) | (first | (refine BT ?_; clear hA hH; rintro _ w ⟨bN, rfl, hH⟩ a hA) | (refine LT ?_; clear hA hH; rintro _ w ⟨oN, rfl, hH⟩ a hA) | (refine AT ?_; clear hA; rintro _ w ⟨oN, cN, rfl, hH2⟩ a hA; clear hH; have hH := (hH2 _ (by (repeat constructor))).tail; clear hH2) | (refine S0T ?_; clear hH; rintro _ w hH) )) | ((first | refine CT ?_ | (refine DT ?_ ?_ <;> intro hc <;> try (exfalso; omega))) <;> repeat' refine CT ?_) | (first | (refine DSK ?_; clear hA a; intro a hA) | (first | (refine DLT ?_; clear hA hH; rintro _ w ⟨oN, rfl, hH⟩; refine ⟨STT, ?_⟩; intro a hA) | (refine DAT ?_; clear hA; rintro _ w ⟨oN, cN, rfl, hH2⟩; clear hH; have hH := (hH2 _ (by (repeat constructor))).tail; clear hH2; refine ⟨STT, ?_⟩; intro a hA))) )
  refine wp_lpk (S := Nat) (fun i a w => ∃ o c, (i ≤ vs.length) ∧ HS w0 noM [own 40 2 o (regsOf (vs.take i) s1.2).length c (flat encR (regsOf (vs.take i) s1.2)), own 3 1 oV vs.length cV (flat Fw.encI vs), cb bR 67 [.map (some mR)], mpI mR s1.2] w ∧
      Sl 36 [(22, .int .i64 i), (21, .int .i64 vs.length), (20, .slice oV vs.length cV), (7, .pointer (some (bat bR 0))), (8, .slice o (regsOf (vs.take i) s1.2).length c)] a) (fun i => vs.length - i)
    (fun a w => ∃ o c, HS w0 noM [own 40 2 o (regsOf vs s1.2).length c (flat encR (regsOf vs s1.2))] w ∧ Sl 36 [(8, .slice o (regsOf vs s1.2).length c)] a) 0 ⟨none, 0, Nat.zero_le _, (by rw [regsOf_0, flatR_nil]; exact HS.left (H1 := [_, _, _, _]) ((hH.nil_own 40 2).perm (by (repeat (first | exact List.Perm.refl _ | exact List.Perm.nil | refine perm_pick 0 rfl ?_ | refine perm_pick 1 rfl ?_ | refine perm_pick 2 rfl ?_ | refine perm_pick 3 rfl ?_ | refine perm_pick 4 rfl ?_ | refine perm_pick 5 rfl ?_ | refine perm_pick 6 rfl ?_ | refine perm_pick 7 rfl ?_ | refine perm_pick 8 rfl ?_ | refine perm_pick 9 rfl ?_ | refine perm_pick 10 rfl ?_ | refine perm_pick 11 rfl ?_))))), (by rw [regsOf_0]; exact (hA.sub (by (repeat (first | exact trivial | refine ⟨rfl, ?_⟩)))))⟩ ?_ ?_
  · clear hA hH
    rintro i a w ⟨o, c, hi, hH, hA⟩
    by_cases hlt : i < vs.length
    rotate_left
    · obtain rfl : i = vs.length := by omega
      rw [List.take_length] at hA hH
      repeat' (first | (first | (refine GT ?_ ?_ <;> intro hg <;> clear hA a <;> intro a hA <;> (first | exact FA | replace hg := of_decide_eq_true hg | replace hg := of_decide_eq_false hg | skip)) | (refine QT ?_; clear hA a; intro a hA) | (first | (refine BT ?_; clear hA hH; rintro _ w ⟨bN, rfl, hH⟩ a hA) | (refine LT ?_; clear hA hH; rintro _ w ⟨oN, rfl, hH⟩ a hA) | (refine AT ?_; clear hA; rintro _ w ⟨oN, cN, rfl, hH2⟩ a hA; clear hH; have hH := (hH2 _ (by (repeat constructor))).tail; clear hH2) | (refine S0T ?_; clear hH; rintro _ w hH) )) | ((first | refine CT ?_ | (refine DT ?_ ?_ <;> intro hc <;> try (exfalso; omega))) <;> repeat' refine CT ?_) | (first | (refine DSK ?_; clear hA a; intro a hA) | (first | (refine DLT ?_; clear hA hH; rintro _ w ⟨oN, rfl, hH⟩; refine ⟨STT, ?_⟩; intro a hA) | (refine DAT ?_; clear hA; rintro _ w ⟨oN, cN, rfl, hH2⟩; clear hH; have hH := (hH2 _ (by (repeat constructor))).tail; clear hH2; refine ⟨STT, ?_⟩; intro a hA))) )
      exact ⟨o, c, hH.head, (hA.sub (by (repeat (first | exact trivial | refine ⟨rfl, ?_⟩))))⟩
    obtain ⟨x, hx⟩ : ∃ x, vs[i]? = some x := ⟨_, List.getElem?_eq_getElem hlt⟩
    have hv : (flat Fw.encI vs)[i * 1]? = some (.int .i64 x) := flat_get (off := 0) Fw.encI_len hx rfl
    have hml : (regsOf (vs.take i) s1.2).length ≤ 1000000 := by rw [regsOf_len, List.length_take]; omega
    repeat' (first | (first | (refine GT ?_ ?_ <;> intro hg <;> clear hA a <;> intro a hA <;> (first | exact FA | replace hg := of_decide_eq_true hg | replace hg := of_decide_eq_false hg | skip)) | ((first | apply st_ex hA hH rfl rfl (by decide) | apply dr_ex hA rfl rfl rfl (by decide) | apply dr_exp hA rfl rfl rfl (by decide) | apply dr_ex3 hA hH rfl rfl rfl (by decide)); (first | (apply ex_indexAddr_nat; rfl; rfl; omega; exact hspV) | (apply ex_load; rfl; apply cl_own (T := 3); exact MEMT; exact hv)); clear hA a; intro a hA) | (refine QT ?_; clear hA a; intro a hA) | (first | (refine BT ?_; clear hA hH; rintro _ w ⟨bN, rfl, hH⟩ a hA) | (refine LT ?_; clear hA hH; rintro _ w ⟨oN, rfl, hH⟩ a hA) | (refine AT ?_; clear hA; rintro _ w ⟨oN, cN, rfl, hH2⟩ a hA; clear hH; have hH := (hH2 _ (by (repeat constructor))).tail; clear hH2) | (refine S0T ?_; clear hH; rintro _ w hH) )) | ((first | refine CT ?_ | (refine DT ?_ ?_ <;> intro hc <;> try (exfalso; omega))) <;> repeat' refine CT ?_) | (first | (refine DSK ?_; clear hA a; intro a hA) | (first | (refine DLT ?_; clear hA hH; rintro _ w ⟨oN, rfl, hH⟩; refine ⟨STT, ?_⟩; intro a hA) | (refine DAT ?_; clear hA; rintro _ w ⟨oN, cN, rfl, hH2⟩; clear hH; have hH := (hH2 _ (by (repeat constructor))).tail; clear hH2; refine ⟨STT, ?_⟩; intro a hA))) )
    rw [rgM_eq, flatR_snoc, ← regsOf_next hx, regsOf_next_len hx] at hH
    rw [regsOf_next_len hx] at hA
    exact ⟨i + 1, ⟨oN, cN, hlt, hH, (hA.sub (by (repeat (first | exact trivial | refine ⟨rfl, ?_⟩))))⟩, by omega⟩
  clear hA hH
  rintro a w ⟨o, c, hH, hA⟩
  repeat' (first | (first | (refine GT ?_ ?_ <;> intro hg <;> clear hA a <;> intro a hA <;> (first | exact FA | replace hg := of_decide_eq_true hg | replace hg := of_decide_eq_false hg | skip)) | (refine QT ?_; clear hA a; intro a hA) | (first | (refine BT ?_; clear hA hH; rintro _ w ⟨bN, rfl, hH⟩ a hA) | (refine LT ?_; clear hA hH; rintro _ w ⟨oN, rfl, hH⟩ a hA) | (refine AT ?_; clear hA; rintro _ w ⟨oN, cN, rfl, hH2⟩ a hA; clear hH; have hH := (hH2 _ (by (repeat constructor))).tail; clear hH2) | (refine S0T ?_; clear hH; rintro _ w hH) )) | ((first | refine CT ?_ | (refine DT ?_ ?_ <;> intro hc <;> try (exfalso; omega))) <;> repeat' refine CT ?_) | (first | (refine DSK ?_; clear hA a; intro a hA) | (first | (refine DLT ?_; clear hA hH; rintro _ w ⟨oN, rfl, hH⟩; refine ⟨STT, ?_⟩; intro a hA) | (refine DAT ?_; clear hA; rintro _ w ⟨oN, cN, rfl, hH2⟩; clear hH; have hH := (hH2 _ (by (repeat constructor))).tail; clear hH2; refine ⟨STT, ?_⟩; intro a hA))) )
  exact rt2 (.inl rfl) rfl hA rfl rfl ⟨ss, pl, s1, hsl, hF, hpl, hgo, .inr ⟨hge, o, c, rfl, hH⟩⟩
end Go.Proofs.Ytjfanjcoppeeaaa
namespace Go.Proofs.Ytjfanjcoppeeaaa
open Go Go.Fw
set_option linter.unusedVariables false
/-- row n holds what lives into block n, rising -/
def LiveOk (ss : List (Option (Nat × List Int))) (rows : List (List Int)) : Prop := ∀ (n : Nat) (r : List Int), rows[n]? = some r → (∀ x, x ∈ r ↔ x ∈ setAt ss n) ∧ r.Pairwise (· ≤ ·) ∧ r.Nodup
theorem live_add {ss : List (Option (Nat × List Int))} {rows : List (List Int)} {i : Nat} {st : Option (Nat × List Int)} {r : List Int} (h : LiveOk ss rows) (hl : rows.length = i) (hs : ss[i]? = some st) (h1 : ∀ x, x ∈ r ↔ x ∈ kso st) (h2 : r.Pairwise (· ≤ ·)) (h3 : r.Nodup) : LiveOk ss (rows ++ [r]) := by
  intro n s hn
  rcases Nat.lt_or_ge n rows.length with h4 | h4
  · rw [List.getElem?_append_left h4] at hn
    exact h n s hn
  · rw [List.getElem?_append_right h4] at hn
    have h5 := (List.getElem?_eq_some_iff.1 hn).1
    have h6 : n = i := by
      have : n - rows.length < 1 := by simpa using h5
      omega
    subst h6
    rw [hl, Nat.sub_self] at hn
    cases hn
    refine ⟨fun x => (h1 x).trans ?_, h2, h3⟩
    unfold setAt
    rw [hs]
    rfl
theorem flatS_snoc (l : List Sd) (o : Option Addr) (n c : Nat) : flat Fw.encS l ++ [.slice o n c] = flat Fw.encS (l ++ [(o, n, c)]) := by rw [flat_snoc]; rfl
theorem lenD (l : List Sd) (x : Sd) : (l ++ [x]).length = l.length + 1 := by rw [List.length_append]; rfl
set_option maxRecDepth 10000 attribute [local irreducible] Code.wp wpList Calls Ex Op1 sat bat blk cb own Go.Fw.mp Go.Fw.mpO Go.Fw.mpI Go.Fw.mpE Go.Fw.itr HS Rd Ret wkD Hp Cl Cls Exit.then Exit.inBlock Exit.noGoto bodyPost Go.Fw.flat wk2 Go.Fw.all Go.Fw.owns wpOp
attribute [local irreducible] sk mpK srt sko mvO insP blkP skP varsL

set_option maxHeartbeats 8000000 in
theorem Live_spec (w0 : World) (f : Gr) (hR : RdG w0 f) (hU : Up f) (hS : Small f) :
    Ret Try.prog 14 #[.agg (encG f).toArray] w0 (fun v w => ∃ ss ds rows o c, ss.length = f.bs.l.length ∧ (∀ n, FixAt f ss n) ∧ rows.length = f.bs.l.length ∧ ds.length = rows.length ∧ LiveOk ss rows ∧ v = .slice o ds.length c ∧
      HS w0 noM [own 44 1 o ds.length c (flat Fw.encS ds), all (owns 3 1 Fw.encI ds rows)] w) := by
  have hH : HS w0 noM [] w0 := HS.init w0 noM
  (refine enter (N := 20) Try.func14 rfl Try.ntmps14 rfl ?_; intro a hA; dsimp only [sl0, Nat.reduceAdd] at hA)
  repeat' (first | (first | (refine GT ?_ ?_ <;> intro hg <;> clear hA a <;> intro a hA <;> (first | exact FA | replace hg := of_decide_eq_true hg | replace hg := of_decide_eq_false hg | skip)) | (refine QT ?_; clear hA a; intro a hA) | (first | (refine BT ?_; clear hA hH; rintro _ w ⟨bN, rfl, hH⟩ a hA) | (refine LT ?_; clear hA hH; rintro _ w ⟨oN, rfl, hH⟩ a hA) | (refine AT ?_; clear hA; rintro _ w ⟨oN, cN, rfl, hH2⟩ a hA; clear hH; have hH := (hH2 _ (by (repeat constructor))).tail; clear hH2) | (refine S0T ?_; clear hH; rintro _ w hH) )) | ((first | refine CT ?_ | (refine DT ?_ ?_ <;> intro hc <;> try (exfalso; omega))) <;> repeat' refine CT ?_) | (first | (refine DSK ?_; clear hA a; intro a hA) | (first | (refine DLT ?_; clear hA hH; rintro _ w ⟨oN, rfl, hH⟩; refine ⟨STT, ?_⟩; intro a hA) | (refine DAT ?_; clear hA; rintro _ w ⟨oN, cN, rfl, hH2⟩; clear hH; have hH := (hH2 _ (by (repeat constructor))).tail; clear hH2; refine ⟨STT, ?_⟩; intro a hA))) )
  obtain ⟨bF, hbF⟩ : ∃ x, x = bN := ⟨_, rfl⟩
  rw [← hbF] at hA hH
  clear hbF bN
  (refine st_op hA rfl rfl (by decide) (op_call rfl rfl rfl (live_spec w0 _ _ f hH hR hU hS.bs)) ?_; clear hA hH; rintro _ w ⟨oI, cI, ss, rfl, hsl, hF, hH⟩ a hA)
  repeat' (first | (first | (refine GT ?_ ?_ <;> intro hg <;> clear hA a <;> intro a hA <;> (first | exact FA | replace hg := of_decide_eq_true hg | replace hg := of_decide_eq_false hg | skip)) | (refine QT ?_; clear hA a; intro a hA) | (first | (refine BT ?_; clear hA hH; rintro _ w ⟨bN, rfl, hH⟩ a hA) | (refine LT ?_; clear hA hH; rintro _ w ⟨oN, rfl, hH⟩ a hA) | (refine AT ?_; clear hA; rintro _ w ⟨oN, cN, rfl, hH2⟩ a hA; clear hH; have hH := (hH2 _ (by (repeat constructor))).tail; clear hH2) | (refine S0T ?_; clear hH; rintro _ w hH) )) | ((first | refine CT ?_ | (refine DT ?_ ?_ <;> intro hc <;> try (exfalso; omega))) <;> repeat' refine CT ?_) | (first | (refine DSK ?_; clear hA a; intro a hA) | (first | (refine DLT ?_; clear hA hH; rintro _ w ⟨oN, rfl, hH⟩; refine ⟨STT, ?_⟩; intro a hA) | (refine DAT ?_; clear hA; rintro _ w ⟨oN, cN, rfl, hH2⟩; clear hH; have hH := (hH2 _ (by (repeat constructor))).tail; clear hH2; refine ⟨STT, ?_⟩; intro a hA))) )
  have hspI := hH.own_sp (T := 72) (o := oI) (.head _)
  refine wp_lpk (S := Nat) (fun i a w => ∃ ds rows o c, (i ≤ f.bs.l.length ∧ rows.length = i ∧ ds.length = rows.length ∧ LiveOk ss rows) ∧ HS w0 noM [own 44 1 o ds.length c (flat Fw.encS ds), all (owns 3 1 Fw.encI ds rows), own 72 1 oI ss.length cI (flat encO ss), all (ss.map sko), cb bF 30 (encG f)] w ∧
      Sl 20 [(9, .int .i64 i), (8, .int .i64 ss.length), (7, .slice oI ss.length cI), (3, .slice o ds.length c)] a) (fun i => f.bs.l.length - i)
    (fun a w => ∃ ds rows o c, (rows.length = f.bs.l.length ∧ ds.length = rows.length ∧ LiveOk ss rows) ∧ HS w0 noM [own 44 1 o ds.length c (flat Fw.encS ds), all (owns 3 1 Fw.encI ds rows)] w ∧ Sl 20 [(3, .slice o ds.length c)] a) 0 ⟨[], [], none, 0, ⟨Nat.zero_le _, rfl, rfl, fun n r h => by cases h⟩, ((HS.owns_nil 3 1 Fw.encI 0 hH).nil_flat Fw.encS 44 1).perm (by (repeat (first | exact List.Perm.refl _ | exact List.Perm.nil | refine perm_pick 0 rfl ?_ | refine perm_pick 1 rfl ?_ | refine perm_pick 2 rfl ?_ | refine perm_pick 3 rfl ?_ | refine perm_pick 4 rfl ?_ | refine perm_pick 5 rfl ?_ | refine perm_pick 6 rfl ?_ | refine perm_pick 7 rfl ?_ | refine perm_pick 8 rfl ?_ | refine perm_pick 9 rfl ?_ | refine perm_pick 10 rfl ?_ | refine perm_pick 11 rfl ?_))), (hA.sub (by (repeat (first | exact trivial | refine ⟨rfl, ?_⟩))))⟩ ?_ ?_
  · clear hA hH
    rintro i a w ⟨ds, rows, o, c, ⟨hi, hrl, hdl, hok⟩, hH, hA⟩
    by_cases hlt : i < f.bs.l.length
    rotate_left
    · obtain rfl : i = f.bs.l.length := by omega
      repeat' (first | (first | (refine GT ?_ ?_ <;> intro hg <;> clear hA a <;> intro a hA <;> (first | exact FA | replace hg := of_decide_eq_true hg | replace hg := of_decide_eq_false hg | skip)) | (refine QT ?_; clear hA a; intro a hA) | (first | (refine BT ?_; clear hA hH; rintro _ w ⟨bN, rfl, hH⟩ a hA) | (refine LT ?_; clear hA hH; rintro _ w ⟨oN, rfl, hH⟩ a hA) | (refine AT ?_; clear hA; rintro _ w ⟨oN, cN, rfl, hH2⟩ a hA; clear hH; have hH := (hH2 _ (by (repeat constructor))).tail; clear hH2) | (refine S0T ?_; clear hH; rintro _ w hH) )) | ((first | refine CT ?_ | (refine DT ?_ ?_ <;> intro hc <;> try (exfalso; omega))) <;> repeat' refine CT ?_) | (first | (refine DSK ?_; clear hA a; intro a hA) | (first | (refine DLT ?_; clear hA hH; rintro _ w ⟨oN, rfl, hH⟩; refine ⟨STT, ?_⟩; intro a hA) | (refine DAT ?_; clear hA; rintro _ w ⟨oN, cN, rfl, hH2⟩; clear hH; have hH := (hH2 _ (by (repeat constructor))).tail; clear hH2; refine ⟨STT, ?_⟩; intro a hA))) )
      exact ⟨ds, rows, o, c, ⟨hrl, hdl, hok⟩, HS.left (H1 := [_, _]) hH, (hA.sub (by (repeat (first | exact trivial | refine ⟨rfl, ?_⟩))))⟩
    obtain ⟨st, hst⟩ : ∃ st, ss[i]? = some st := ⟨_, List.getElem?_eq_getElem (by omega)⟩
    have hbl := List.getElem?_eq_getElem hlt
    have hSb := hS.bs
    have hvI : (flat encO ss)[i * 1]? = some (mvO st) := flat_get (off := 0) encO_len hst (by rw [encO_eq]; rfl)
    have hsm : (ss.map sko)[i]? = some (sko st) := by rw [List.getElem?_map, hst]; rfl
    repeat' (first | (first | (refine GT ?_ ?_ <;> intro hg <;> clear hA a <;> intro a hA <;> (first | exact FA | replace hg := of_decide_eq_true hg | replace hg := of_decide_eq_false hg | skip)) | ((first | apply st_ex hA hH rfl rfl (by decide) | apply dr_ex hA rfl rfl rfl (by decide) | apply dr_exp hA rfl rfl rfl (by decide) | apply dr_ex3 hA hH rfl rfl rfl (by decide)); (first | (apply ex_indexAddr_nat; rfl; rfl; omega; exact hspI) | (apply ex_load; rfl; apply cl_own (T := 72); exact MEMT; exact hvI)); clear hA a; intro a hA) | (refine QT ?_; clear hA a; intro a hA) | (first | (refine BT ?_; clear hA hH; rintro _ w ⟨bN, rfl, hH⟩ a hA) | (refine LT ?_; clear hA hH; rintro _ w ⟨oN, rfl, hH⟩ a hA) | (refine AT ?_; clear hA; rintro _ w ⟨oN, cN, rfl, hH2⟩ a hA; clear hH; have hH := (hH2 _ (by (repeat constructor))).tail; clear hH2) | (refine S0T ?_; clear hH; rintro _ w hH) )) | ((first | refine CT ?_ | (refine DT ?_ ?_ <;> intro hc <;> try (exfalso; omega))) <;> repeat' refine CT ?_) | (first | (refine DSK ?_; clear hA a; intro a hA) | (first | (refine DLT ?_; clear hA hH; rintro _ w ⟨oN, rfl, hH⟩; refine ⟨STT, ?_⟩; intro a hA) | (refine DAT ?_; clear hA; rintro _ w ⟨oN, cN, rfl, hH2⟩; clear hH; have hH := (hH2 _ (by (repeat constructor))).tail; clear hH2; refine ⟨STT, ?_⟩; intro a hA))) )
    replace hH := (hH.up 3 rfl).openAt hsm
    dsimp only [List.eraseIdx_cons_succ, List.eraseIdx_cons_zero] at hH
    have hkl := hS.sets ss hsl hF _ _ (isAt_n hbl hst (sko_nodup (st := st) hH (.head _)))
    (refine st_op hA rfl rfl (by decide) (op_call rfl rfl rfl (sortedS_spec w0 _ _ st hH hkl)) ?_; clear hA hH; rintro _ w ⟨oR, cR, row, rfl, hr1, hr2, hr3, hH⟩ a hA)
    replace hH := (hH.up 1 rfl).perm (H' := sko st :: all ((ss.map sko).eraseIdx i) :: own 3 1 oR row.length cR (flat Fw.encI row) :: own 44 1 o ds.length c (flat Fw.encS ds) :: all (owns 3 1 Fw.encI ds rows) :: own 72 1 oI ss.length cI (flat encO ss) :: cb bF 30 (encG f) :: []) (by (repeat (first | exact List.Perm.refl _ | exact List.Perm.nil | refine perm_pick 0 rfl ?_ | refine perm_pick 1 rfl ?_ | refine perm_pick 2 rfl ?_ | refine perm_pick 3 rfl ?_ | refine perm_pick 4 rfl ?_ | refine perm_pick 5 rfl ?_ | refine perm_pick 6 rfl ?_ | refine perm_pick 7 rfl ?_ | refine perm_pick 8 rfl ?_ | refine perm_pick 9 rfl ?_ | refine perm_pick 10 rfl ?_ | refine perm_pick 11 rfl ?_)))
    replace hH := hH.shutAt (x := sko st) (by rw [List.length_map]; omega)
    rw [set_same hsm] at hH
    replace hH := (HS.pushA (hH.perm (H' := own 3 1 oR row.length cR (flat Fw.encI row) :: all (owns 3 1 Fw.encI ds rows) :: own 44 1 o ds.length c (flat Fw.encS ds) :: own 72 1 oI ss.length cI (flat encO ss) :: all (ss.map sko) :: cb bF 30 (encG f) :: []) (by (repeat (first | exact List.Perm.refl _ | exact List.Perm.nil | refine perm_pick 0 rfl ?_ | refine perm_pick 1 rfl ?_ | refine perm_pick 2 rfl ?_ | refine perm_pick 3 rfl ?_ | refine perm_pick 4 rfl ?_ | refine perm_pick 5 rfl ?_ | refine perm_pick 6 rfl ?_ | refine perm_pick 7 rfl ?_ | refine perm_pick 8 rfl ?_ | refine perm_pick 9 rfl ?_ | refine perm_pick 10 rfl ?_ | refine perm_pick 11 rfl ?_)))))
    rw [← owns_snoc (enc := Fw.encI) hdl (oR, row.length, cR) row] at hH
    repeat' (first | (first | (refine GT ?_ ?_ <;> intro hg <;> clear hA a <;> intro a hA <;> (first | exact FA | replace hg := of_decide_eq_true hg | replace hg := of_decide_eq_false hg | skip)) | (refine QT ?_; clear hA a; intro a hA) | (first | (refine BT ?_; clear hA hH; rintro _ w ⟨bN, rfl, hH⟩ a hA) | (refine LT ?_; clear hA hH; rintro _ w ⟨oN, rfl, hH⟩ a hA) | (refine AT ?_; clear hA; rintro _ w ⟨oN, cN, rfl, hH2⟩ a hA; clear hH; have hH := (hH2 _ (by (repeat constructor))).tail; clear hH2) | (refine S0T ?_; clear hH; rintro _ w hH) )) | ((first | refine CT ?_ | (refine DT ?_ ?_ <;> intro hc <;> try (exfalso; omega))) <;> repeat' refine CT ?_) | (first | (refine DSK ?_; clear hA a; intro a hA) | (first | (refine DLT ?_; clear hA hH; rintro _ w ⟨oN, rfl, hH⟩; refine ⟨STT, ?_⟩; intro a hA) | (refine DAT ?_; clear hA; rintro _ w ⟨oN, cN, rfl, hH2⟩; clear hH; have hH := (hH2 _ (by (repeat constructor))).tail; clear hH2; refine ⟨STT, ?_⟩; intro a hA))) )
    rw [flatS_snoc, ← lenD ds (oR, row.length, cR)] at hH
    rw [← lenD ds (oR, row.length, cR)] at hA
    exact ⟨i + 1, ⟨ds ++ [(oR, row.length, cR)], rows ++ [row], oN, cN, ⟨hlt, by rw [List.length_append, hrl]; rfl, by rw [List.length_append, List.length_append, hdl]; rfl, live_add hok hrl hst hr1 hr2 hr3⟩, hH.perm (by (repeat (first | exact List.Perm.refl _ | exact List.Perm.nil | refine perm_pick 0 rfl ?_ | refine perm_pick 1 rfl ?_ | refine perm_pick 2 rfl ?_ | refine perm_pick 3 rfl ?_ | refine perm_pick 4 rfl ?_ | refine perm_pick 5 rfl ?_ | refine perm_pick 6 rfl ?_ | refine perm_pick 7 rfl ?_ | refine perm_pick 8 rfl ?_ | refine perm_pick 9 rfl ?_ | refine perm_pick 10 rfl ?_ | refine perm_pick 11 rfl ?_))), (hA.sub (by (repeat (first | exact trivial | refine ⟨rfl, ?_⟩))))⟩, by omega⟩
  clear hA hH
  rintro a w ⟨ds, rows, o, c, ⟨hrl, hdl, hok⟩, hH, hA⟩
  repeat' (first | (first | (refine GT ?_ ?_ <;> intro hg <;> clear hA a <;> intro a hA <;> (first | exact FA | replace hg := of_decide_eq_true hg | replace hg := of_decide_eq_false hg | skip)) | (refine QT ?_; clear hA a; intro a hA) | (first | (refine BT ?_; clear hA hH; rintro _ w ⟨bN, rfl, hH⟩ a hA) | (refine LT ?_; clear hA hH; rintro _ w ⟨oN, rfl, hH⟩ a hA) | (refine AT ?_; clear hA; rintro _ w ⟨oN, cN, rfl, hH2⟩ a hA; clear hH; have hH := (hH2 _ (by (repeat constructor))).tail; clear hH2) | (refine S0T ?_; clear hH; rintro _ w hH) )) | ((first | refine CT ?_ | (refine DT ?_ ?_ <;> intro hc <;> try (exfalso; omega))) <;> repeat' refine CT ?_) | (first | (refine DSK ?_; clear hA a; intro a hA) | (first | (refine DLT ?_; clear hA hH; rintro _ w ⟨oN, rfl, hH⟩; refine ⟨STT, ?_⟩; intro a hA) | (refine DAT ?_; clear hA; rintro _ w ⟨oN, cN, rfl, hH2⟩; clear hH; have hH := (hH2 _ (by (repeat constructor))).tail; clear hH2; refine ⟨STT, ?_⟩; intro a hA))) )
  exact rt1 (.inl rfl) rfl hA rfl ⟨ss, ds, rows, o, c, hsl, hF, hrl, hdl, hok, rfl, hH⟩
end Go.Proofs.Ytjfanjcoppeeaaa
namespace Go.Proofs.Ytjfanjcoppeeaaa
open Go Go.Fw
set_option linter.unusedVariables false
open Classical in
/-- what lives behind an Ins, by the document -/
noncomputable def bhB (ss : List (Option (Nat × List Int))) (bl : Blc) (k : Nat) (x : Int) : Bool := decide (x ≠ (bl.is.l.getD k ins0).x ∧ LvAt ss bl (k + 1) x)
noncomputable def bhF (f : Gr) (ss : List (Option (Nat × List Int))) (bl : Blc) (k : Nat) : List Int := filF (bhB ss bl k) (vrs f)
theorem getD_at {l : List Ins} {k : Nat} {i : Ins} (h : l[k]? = some i) : l.getD k ins0 = i := by
  rw [List.getD_eq_getElem?_getD, h]
  rfl
open Classical in
theorem bhB_iff {ss : List (Option (Nat × List Int))} {bl : Blc} {k : Nat} {ins : Ins} (h : bl.is.l[k]? = some ins) (x : Int) : bhB ss bl k x = true ↔ x ≠ ins.x ∧ LvAt ss bl (k + 1) x := by
  unfold bhB
  rw [getD_at h]
  exact ⟨fun h => of_decide_eq_true h, fun h => decide_eq_true h⟩
noncomputable def cnt (f : Gr) (ss : List (Option (Nat × List Int))) (sl : Nat × Option Nat) : Nat :=
  let bl := f.bs.l.getD sl.1 blc0
  match sl.2 with
  | none => bl.ps.l.length + (intoF f ss sl.1 (vrs f)).length
  | some k => 1 + (bhF f ss bl k).length
noncomputable def prs (f : Gr) (ss : List (Option (Nat × List Int))) (sls : List (Nat × Option Nat)) : Nat := (sls.map (cnt f ss)).foldl max 2
theorem blD {f : Gr} {n : Nat} {bl : Blc} (h : f.bs.l[n]? = some bl) : f.bs.l.getD n blc0 = bl := by
  rw [List.getD_eq_getElem?_getD, h]
  rfl
theorem cnt_n {f : Gr} {ss : List (Option (Nat × List Int))} {n : Nat} {bl : Blc} (h : f.bs.l[n]? = some bl) : cnt f ss (n, none) = bl.ps.l.length + (intoF f ss n (vrs f)).length := by
  unfold cnt
  rw [blD h]
theorem cnt_i {f : Gr} {ss : List (Option (Nat × List Int))} {n k : Nat} {bl : Blc} (h : f.bs.l[n]? = some bl) : cnt f ss (n, some k) = 1 + (bhF f ss bl k).length := by
  unfold cnt
  rw [blD h]
theorem bhF_eq (f : Gr) (ss : List (Option (Nat × List Int))) (bl : Blc) (k : Nat) : bhF f ss bl k = filF (bhB ss bl k) (vrs f) := rfl
theorem slotB_0 (n : Nat) : slotB n 0 = [(n, none)] := rfl
theorem slots_0 (f : Gr) : slots f 0 = [] := rfl
set_option maxRecDepth 10000 attribute [local irreducible] Code.wp wpList Calls Ex Op1 sat bat blk cb own Go.Fw.mp Go.Fw.mpO Go.Fw.mpI Go.Fw.mpE Go.Fw.itr HS Rd Ret wkD Hp Cl Cls Exit.then Exit.inBlock Exit.noGoto bodyPost Go.Fw.flat wk2 Go.Fw.all Go.Fw.owns wpOp
attribute [local irreducible] sk mpK srt sko mvO insP blkP skP varsL vrs intoF filF bhF cnt prs slots slotB

end Go.Proofs.Ytjfanjcoppeeaaa
namespace Go.Proofs.Ytjfanjcoppeeaaa
open Go Go.Fw
set_option linter.unusedVariables false
/-- registers are right at a slot, by the document -/
def okS (f : Gr) (ss : List (Option (Nat × List Int))) (l : List Rg) (sl : Nat × Option Nat) : Prop :=
  ∀ bl, f.bs.l[sl.1]? = some bl → match sl.2 with
    | none => ((bl.ps.l ++ intoF f ss sl.1 (vrs f)).map (regOf l)).Nodup
    | some k => ∀ ins, bl.is.l[k]? = some ins → ∀ x ∈ bhF f ss bl k, regOf l x ≠ regOf l ins.x
theorem okS_n {f : Gr} {ss : List (Option (Nat × List Int))} {l : List Rg} {n : Nat} {bl : Blc} (hbl : f.bs.l[n]? = some bl) : okS f ss l (n, none) ↔ ((bl.ps.l ++ intoF f ss n (vrs f)).map (regOf l)).Nodup := by
  constructor
  · intro h
    exact h bl hbl
  · intro h b hb
    rw [hbl] at hb
    cases hb
    exact h
theorem okS_i {f : Gr} {ss : List (Option (Nat × List Int))} {l : List Rg} {n k : Nat} {bl : Blc} {ins : Ins} (hbl : f.bs.l[n]? = some bl) (hi : bl.is.l[k]? = some ins) : okS f ss l (n, some k) ↔ ∀ x ∈ bhF f ss bl k, regOf l x ≠ regOf l ins.x := by
  constructor
  · intro h
    exact h bl hbl ins hi
  · intro h b hb i hi'
    rw [hbl] at hb
    cases hb
    rw [hi] at hi'
    cases hi'
    exact h
set_option maxRecDepth 10000 attribute [local irreducible] Code.wp wpList Calls Ex Op1 sat bat blk cb own Go.Fw.mp Go.Fw.mpO Go.Fw.mpI Go.Fw.mpE Go.Fw.itr HS Rd Ret wkD Hp Cl Cls Exit.then Exit.inBlock Exit.noGoto bodyPost Go.Fw.flat wk2 Go.Fw.all Go.Fw.owns wpOp
attribute [local irreducible] sk mpK srt sko mvO insP blkP skP varsL vrs intoF filF bhF cnt prs slots slotB regOf

end Go.Proofs.Ytjfanjcoppeeaaa
namespace Go.Proofs.Ytjfanjcoppeeaaa
open Go Go.Fw
set_option linter.unusedVariables false
theorem up_of {g : Grs} {f : Gr} {B : Nat → List Int} (h : GOkB g f B) : Up f := fun n bl hb t ht => by
  have := (h.blk n bl hb).edges t ht
  exact ⟨this.1, this.2.1⟩
theorem uses_at {l : List Atm} {x : Int} (h : uses l x = true) : ∃ a ∈ l, a.k = 1 ∧ a.n = x := by
  unfold uses at h
  obtain ⟨a, ha, h⟩ := List.any_eq_true.1 h
  rw [Bool.and_eq_true, decide_eq_true_iff, decide_eq_true_iff] at h
  exact ⟨a, ha, h.1, h.2⟩
theorem atS_var {g : Grs} {S : Int → Prop} {a : Atm} (h : atS g S a) (hk : a.k = 1) : a.n = 0 ∨ a.n = 1 ∨ S a.n := by
  rcases h with ⟨_, h1, h2, h3⟩ | ⟨h1, _⟩ | ⟨h1, _⟩
  · rcases h3 with h3 | h3
    · by_cases h0 : a.n = 0
      · exact .inl h0
      · exact .inr (.inl (by omega))
    · exact .inr (.inr h3)
  · omega
  · omega
/-- what lives ahead of an Ins is there -/
theorem lv_now {g : Grs} {f : Gr} {B : Nat → List Int} (h : GOkB g f B) {ss : List (Option (Nat × List Int))} {n : Nat} {bl : Blc} (hb : f.bs.l[n]? = some bl) (ht : ∀ t ∈ bl.e.to.l, ∀ x, x ∈ setAt ss t.b.toNat → x = 0 ∨ x = 1 ∨ x ∈ B t.b.toNat) :
    ∀ k i x, i + k = bl.is.l.length → LvAt ss bl i x → x = 0 ∨ x = 1 ∨ nowS (B n) bl i x := by
  have hB := h.blk n bl hb
  intro k
  induction k with
  | zero =>
    intro i x hk hl
    obtain rfl : i = bl.is.l.length := by omega
    rw [lvAt_end] at hl
    rcases hl with hl | ⟨t, htm, hl | ⟨h0, s, hs, hx⟩⟩
    · obtain ⟨a, ha, h1, rfl⟩ := uses_at hl
      exact atS_var (hB.ends a ha) h1
    · obtain ⟨a, ha, h1, rfl⟩ := uses_at hl
      exact atS_var ((hB.edges t htm).2.2 a ha) h1
    · have hx2 : x ∈ setAt ss t.b.toNat := by
        unfold setAt
        rw [hs]
        exact hx
      rcases ht t htm x hx2 with h1 | h1 | h1
      · exact .inl h1
      · exact .inr (.inl h1)
      · exact .inr (.inr (h.flow n bl hb t htm x h1))
  | succ k ih =>
    intro i x hk hl
    obtain ⟨ins, hi⟩ : ∃ y, bl.is.l[i]? = some y := ⟨_, List.getElem?_eq_getElem (by omega)⟩
    rw [lvAt_at hi] at hl
    rcases hl with (hl | ⟨_, hl⟩) | ⟨hl, hne⟩
    · obtain ⟨a, ha, h1, rfl⟩ := uses_at hl
      exact atS_var (hB.ins i ins hi a ha) h1
    · exact .inl hl
    · rcases ih (i + 1) x (by omega) hl with h1 | h1 | h1
      · exact .inl h1
      · exact .inr (.inl h1)
      · refine .inr (.inr ?_)
        unfold nowS at h1 ⊢
        rw [map_x_snoc hi, List.mem_append, List.mem_singleton] at h1
        rcases h1 with h1 | h1 | h1 | h1
        · exact .inl h1
        · exact .inr (.inl h1)
        · exact .inr (.inr h1)
        · exact absurd h1 hne
theorem live_B {g : Grs} {f : Gr} {B : Nat → List Int} (h : GOkB g f B) {ss : List (Option (Nat × List Int))} (hF : ∀ n, FixAt f ss n) (hsl : ss.length = f.bs.l.length) : ∀ k n x, n + k = f.bs.l.length → x ∈ setAt ss n → x = 0 ∨ x = 1 ∨ x ∈ B n := by
  intro k
  induction k using Nat.strongRecOn with
  | _ k ih =>
    intro n x hk hx
    cases hb : f.bs.l[n]? with
    | none =>
      have h1 := List.getElem?_eq_none_iff.1 hb
      unfold setAt at hx
      rw [List.getElem?_eq_none_iff.2 (by omega)] at hx
      exact absurd hx List.not_mem_nil
    | some bl =>
      have hnl := (List.getElem?_eq_some_iff.1 hb).1
      have hbl := (hF n bl hb x).1 hx
      have ht : ∀ t ∈ bl.e.to.l, ∀ x, x ∈ setAt ss t.b.toNat → x = 0 ∨ x = 1 ∨ x ∈ B t.b.toNat := fun t ht x hx => by
        have he := (h.blk n bl hb).edges t ht
        exact ih (f.bs.l.length - t.b.toNat) (by omega) t.b.toNat x (by omega) hx
      rcases lv_now h hb ht bl.is.l.length 0 x (by omega) (blk_lv hbl) with h1 | h1 | h1
      · exact .inl h1
      · exact .inr (.inl h1)
      · refine .inr (.inr ?_)
        rcases h1 with h1 | h1 | h1
        · exact h1
        · exact absurd h1 (blk_ps hbl)
        · rw [List.take_zero] at h1
          exact absurd h1 List.not_mem_nil
theorem live_B2 {g : Grs} {f : Gr} {B : Nat → List Int} (h : GOkB g f B) {ss : List (Option (Nat × List Int))} (hF : ∀ n, FixAt f ss n) (hsl : ss.length = f.bs.l.length) (n : Nat) (x : Int) (hx : x ∈ setAt ss n) : x = 0 ∨ x = 1 ∨ x ∈ B n := by
  by_cases hn : n ≤ f.bs.l.length
  · exact live_B h hF hsl (f.bs.l.length - n) n x (by omega) hx
  · unfold setAt at hx
    rw [List.getElem?_eq_none_iff.2 (by omega)] at hx
    exact absurd hx List.not_mem_nil
/-- what is bound ahead of a slot -/
def bef (f : Gr) (sl : Nat × Option Nat) : List Int :=
  match sl.2 with
  | none => evs f sl.1
  | some i => evs f sl.1 ++ (f.bs.l.getD sl.1 blc0).ps.l ++ ((f.bs.l.getD sl.1 blc0).is.l.take i).map Ins.x
theorem ks_bef {g : Grs} {f : Gr} {B : Nat → List Int} (h : GOkB g f B) {ss : List (Option (Nat × List Int))} (hF : ∀ n, FixAt f ss n) (hsl : ss.length = f.bs.l.length) {sl : Nat × Option Nat} {p : Pl} (hp : IsAt f ss sl p) {x : Int} (hx : x ∈ p.ks) : x = 0 ∨ x = 1 ∨ x ∈ bef f sl := by
  obtain ⟨n, o⟩ := sl
  obtain ⟨bl, hb, hn, hp⟩ := hp
  have hnl := (List.getElem?_eq_some_iff.1 hb).1
  cases o with
  | none =>
    obtain ⟨_, _, h3⟩ := hp
    rcases live_B2 h hF hsl n x ((h3 x).1 hx) with h1 | h1 | h1
    · exact .inl h1
    · exact .inr (.inl h1)
    · exact .inr (.inr (h.sub n hnl x h1))
  | some i =>
    obtain ⟨ins, hi, _, _, h3⟩ := hp
    have h4 := (h3 x).1 hx
    have hil := (List.getElem?_eq_some_iff.1 hi).1
    rcases lv_now h hb (fun t ht x hx => live_B2 h hF hsl _ x hx) (bl.is.l.length - (i + 1)) (i + 1) x (by omega) h4.2 with h1 | h1 | h1
    · exact .inl h1
    · exact .inr (.inl h1)
    · refine .inr (.inr ?_)
      unfold bef
      dsimp only
      rw [blD hb]
      rcases h1 with h1 | h1 | h1
      · exact List.mem_append_left _ (List.mem_append_left _ (h.sub n hnl x h1))
      · exact List.mem_append_left _ (List.mem_append_right _ h1)
      · rw [map_x_snoc hi, List.mem_append, List.mem_singleton] at h1
        rcases h1 with h1 | h1
        · exact List.mem_append_right _ h1
        · exact absurd h1 h4.1
theorem evs_le (f : Gr) (n : Nat) : ∀ x ∈ evs f n, x ∈ f.bs.l.flatMap bvs := fun x hx => by
  unfold evs at hx
  obtain ⟨b, hb, hx⟩ := List.mem_flatMap.1 hx
  exact List.mem_flatMap.2 ⟨b, List.mem_of_mem_take hb, hx⟩
theorem bef_le (f : Gr) {sl : Nat × Option Nat} (h : sl.1 < f.bs.l.length) {x : Int} (hx : x ∈ bef f sl) : x ∈ f.bs.l.flatMap bvs := by
  obtain ⟨n, o⟩ := sl
  have hb : f.bs.l[n]? = some f.bs.l[n] := List.getElem?_eq_getElem h
  cases o with
  | none => exact evs_le f n x hx
  | some i =>
    unfold bef at hx
    dsimp only at hx
    rw [blD hb] at hx
    rcases List.mem_append.1 hx with h1 | h1
    · rcases List.mem_append.1 h1 with h1 | h1
      · exact evs_le f n x h1
      · exact List.mem_flatMap.2 ⟨_, List.mem_of_getElem? hb, List.mem_append_left _ h1⟩
    · refine List.mem_flatMap.2 ⟨_, List.mem_of_getElem? hb, List.mem_append_right _ ?_⟩
      obtain ⟨y, hy, rfl⟩ := List.mem_map.1 h1
      exact List.mem_map.2 ⟨y, List.mem_of_mem_take hy, rfl⟩
theorem bvs_eq (l : List Blc) : varsL l = [0, 1] ++ l.flatMap bvs := rfl
theorem isAt_lt {f : Gr} {ss : List (Option (Nat × List Int))} {sl : Nat × Option Nat} {p : Pl} (hp : IsAt f ss sl p) : sl.1 < f.bs.l.length := by
  obtain ⟨bl, hb, _⟩ := hp
  exact (List.getElem?_eq_some_iff.1 hb).1
theorem ks_vars {g : Grs} {f : Gr} {B : Nat → List Int} (h : GOkB g f B) {ss : List (Option (Nat × List Int))} (hF : ∀ n, FixAt f ss n) (hsl : ss.length = f.bs.l.length) {sl : Nat × Option Nat} {p : Pl} (hp : IsAt f ss sl p) {x : Int} (hx : x ∈ p.ks) : x ∈ varsL f.bs.l := by
  rw [bvs_eq]
  rcases ks_bef h hF hsl hp hx with h1 | h1 | h1
  · exact List.mem_append_left _ (h1 ▸ .head _)
  · exact List.mem_append_left _ (h1 ▸ .tail _ (.head _))
  · exact List.mem_append_right _ (bef_le f (isAt_lt hp) h1)
theorem bvs_sub {l : List Blc} {b : Blc} (h : b ∈ l) : b.ps.l.length + b.is.l.length ≤ (l.flatMap bvs).length := by
  induction l with
  | nil => cases h
  | cons c l ih =>
    rw [List.flatMap_cons, List.length_append]
    rcases List.mem_cons.1 h with rfl | h
    · have : (bvs b).length = b.ps.l.length + b.is.l.length := by unfold bvs; rw [List.length_append, List.length_map]
      omega
    · have := ih h
      omega
theorem small_of {g : Grs} {f : Gr} {B : Nat → List Int} (h : GOkB g f B) : Small f := by
  have hs := h.size
  have hv : (varsL f.bs.l).length = 2 + (f.bs.l.flatMap bvs).length := by rw [bvs_eq, List.length_append]; rfl
  refine ⟨by omega, by omega, fun bl hb => ?_, fun ss hsl hF sl p hp => ?_⟩
  · have := bvs_sub hb
    omega
  · have hnd : p.ks.Nodup := by
      obtain ⟨bl, _, hn, _⟩ := hp
      exact hn
    have := nodup_sub hnd (m := varsL f.bs.l) fun x hx => ks_vars h hF hsl hp hx
    omega
end Go.Proofs.Ytjfanjcoppeeaaa
namespace Go.Proofs.Ytjfanjcoppeeaaa
open Go Go.Fw
set_option linter.unusedVariables false
theorem sorted_uniq : ∀ {l m : List Int}, l.Pairwise (· ≤ ·) → m.Pairwise (· ≤ ·) → l.Perm m → l = m
  | [], m, _, _, h => h.nil_eq.symm ▸ rfl
  | x :: l, [], _, _, h => absurd h.length_eq (by simp)
  | x :: l, y :: m, h1, h2, h => by
    have hxy : x = y := by
      have hx : x ∈ y :: m := h.mem_iff.1 (.head _)
      have hy : y ∈ x :: l := h.mem_iff.2 (.head _)
      rcases List.mem_cons.1 hx with hx | hx
      · exact hx
      rcases List.mem_cons.1 hy with hy | hy
      · exact hy.symm
      have h3 := (List.pairwise_cons.1 h1).1 y hy
      have h4 := (List.pairwise_cons.1 h2).1 x hx
      omega
    subst hxy
    rw [sorted_uniq (List.pairwise_cons.1 h1).2 (List.pairwise_cons.1 h2).2 h.cons_inv]
theorem insF_perm : ∀ (l : List Int) (x : Int), (insF l x).Perm (x :: l)
  | [], x => .refl _
  | y :: l, x => by
    unfold insF
    split
    · exact .refl _
    · exact ((insF_perm l x).cons y).trans (.swap _ _ _)
theorem insF_sorted : ∀ {l : List Int} {x : Int}, l.Pairwise (· ≤ ·) → (insF l x).Pairwise (· ≤ ·)
  | [], x, _ => List.pairwise_singleton _ _
  | y :: l, x, h => by
    unfold insF
    split
    · rename_i hxy
      refine List.pairwise_cons.2 ⟨fun z hz => ?_, h⟩
      rcases List.mem_cons.1 hz with rfl | hz
      · omega
      · have := (List.pairwise_cons.1 h).1 z hz
        omega
    · rename_i hxy
      refine List.pairwise_cons.2 ⟨fun z hz => ?_, insF_sorted (List.pairwise_cons.1 h).2⟩
      rcases mem_insF.1 hz with rfl | hz
      · omega
      · exact (List.pairwise_cons.1 h).1 z hz
theorem foldI_sorted : ∀ (q s : List Int), s.Pairwise (· ≤ ·) → (q.foldl insF s).Pairwise (· ≤ ·)
  | [], s, h => h
  | x :: q, s, h => foldI_sorted q _ (insF_sorted h)
theorem foldI_perm : ∀ (q s : List Int), (q.foldl insF s).Perm (q ++ s)
  | [], s => .refl _
  | x :: q, s => (foldI_perm q _).trans (((insF_perm s x).append_left q).trans List.perm_middle)
theorem vrs_srt (f : Gr) : vrs f = srt (varsL f.bs.l) := by
  refine sorted_uniq (foldI_sorted _ _ (by simp)) (srt_sorted _) (((foldI_perm _ _).trans List.perm_append_comm).trans ?_)
  refine .trans ?_ (srt_perm _).symm
  unfold vpre
  rw [List.take_length]
  exact .refl _
theorem vars_nodup {g : Grs} {f : Gr} {B : Nat → List Int} (h : GOkB g f B) : (varsL f.bs.l).Nodup := by
  rw [bvs_eq]
  refine List.nodup_append.2 ⟨by simp, h.ev.nd, fun a ha b hb e => ?_⟩
  subst e
  have := (h.ev.rg a hb).1
  simp at ha
  omega
theorem vrs_nodup {g : Grs} {f : Gr} {B : Nat → List Int} (h : GOkB g f B) : (vrs f).Nodup := by
  rw [vrs_srt]
  exact (srt_perm _).nodup_iff.2 (vars_nodup h)
theorem mem_vrs {f : Gr} {x : Int} : x ∈ vrs f ↔ x ∈ varsL f.bs.l := by rw [vrs_srt, mem_srt]
/-! ## the map of registers -/
def prR (r : Rg) : Int × Int := (r.v, r.r)
theorem mkM_eq : ∀ (l : List Rg), (l.map Rg.v).Nodup → mkM l = l.map prR := by
  have key : ∀ (l : List Rg) (m : List (Int × Int)), (l.map Rg.v).Nodup → (∀ r ∈ l, lkI m r.v = none) → l.foldl (fun m r => setI m r.v r.r) m = m ++ l.map prR := by
    intro l
    induction l with
    | nil => intro m _ _; simp
    | cons r l ih =>
      intro m hn hm
      rw [List.map_cons, List.nodup_cons] at hn
      have hs : setI m r.v r.r = m ++ [(r.v, r.r)] := by
        unfold setI
        rw [hm r (.head _)]
        rfl
      rw [List.foldl_cons, hs, ih _ hn.2 fun s hs => ?_]
      · rw [List.append_assoc]
        rfl
      · have h1 := hm s (.tail _ hs)
        unfold lkI at h1 ⊢
        rw [Option.map_eq_none_iff] at h1 ⊢
        rw [List.find?_append, h1]
        have hne : (r.v == s.v) = false := by
          have : r.v ≠ s.v := fun e => hn.1 (e ▸ List.mem_map.2 ⟨s, hs, rfl⟩)
          simpa using this
        simp [hne]
  intro l h
  have := key l [] h fun r hr => rfl
  exact this
theorem rgM_reg : ∀ {l : List Rg} {x : Int}, x ∈ l.map Rg.v → rgM (l.map prR) x = regOf l x
  | r :: l, x, h => by
    unfold rgM lkI
    rw [List.map_cons, List.find?_cons]
    by_cases hx : r.v = x
    · have : ((prR r).1 == x) = true := by simp [prR, hx]
      rw [this, regOf, if_pos hx]
      rfl
    · have : ((prR r).1 == x) = false := by simpa [prR] using hx
      rw [this, regOf, if_neg hx]
      rw [List.map_cons] at h
      rcases List.mem_cons.1 h with h | h
      · exact absurd h.symm hx
      · exact rgM_reg h
/-! ## places as the document has them -/
theorem into_vars {g : Grs} {f : Gr} {B : Nat → List Int} (h : GOkB g f B) {ss : List (Option (Nat × List Int))} (hF : ∀ n, FixAt f ss n) (hsl : ss.length = f.bs.l.length) {n : Nat} (hn : n < f.bs.l.length) {x : Int} (hx : x ∈ setAt ss n) : x ∈ varsL f.bs.l := by
  rw [bvs_eq]
  rcases live_B2 h hF hsl n x hx with h1 | h1 | h1
  · exact List.mem_append_left _ (h1 ▸ .head _)
  · exact List.mem_append_left _ (h1 ▸ .tail _ (.head _))
  · exact List.mem_append_right _ (evs_le f n x (h.sub n hn x h1))
theorem bh_vars {g : Grs} {f : Gr} {B : Nat → List Int} (h : GOkB g f B) {ss : List (Option (Nat × List Int))} (hF : ∀ n, FixAt f ss n) (hsl : ss.length = f.bs.l.length) {n i : Nat} {bl : Blc} {ins : Ins} (hb : f.bs.l[n]? = some bl) (hi : bl.is.l[i]? = some ins) {x : Int} (hx : LvAt ss bl (i + 1) x) : x ∈ varsL f.bs.l := by
  have hnl := (List.getElem?_eq_some_iff.1 hb).1
  have hil := (List.getElem?_eq_some_iff.1 hi).1
  rw [bvs_eq]
  rcases lv_now h hb (fun t ht x hx => live_B2 h hF hsl _ x hx) (bl.is.l.length - (i + 1)) (i + 1) x (by omega) hx with h1 | h1 | h1
  · exact List.mem_append_left _ (h1 ▸ .head _)
  · exact List.mem_append_left _ (h1 ▸ .tail _ (.head _))
  · refine List.mem_append_right _ ?_
    have hm := List.mem_of_getElem? hb
    rcases h1 with h1 | h1 | h1
    · exact evs_le f n x (h.sub n hnl x h1)
    · exact List.mem_flatMap.2 ⟨bl, hm, List.mem_append_left _ h1⟩
    · refine List.mem_flatMap.2 ⟨bl, hm, List.mem_append_right _ ?_⟩
      obtain ⟨y, hy, rfl⟩ := List.mem_map.1 h1
      exact List.mem_map.2 ⟨y, List.mem_of_mem_take hy, rfl⟩
theorem mem_into {g : Grs} {f : Gr} {B : Nat → List Int} (h : GOkB g f B) {ss : List (Option (Nat × List Int))} (hF : ∀ n, FixAt f ss n) (hsl : ss.length = f.bs.l.length) {n : Nat} (hn : n < f.bs.l.length) {x : Int} : x ∈ intoF f ss n (vrs f) ↔ x ∈ setAt ss n := by
  unfold intoF
  rw [List.mem_filter, decide_eq_true_iff]
  exact ⟨And.right, fun hx => ⟨mem_vrs.2 (into_vars h hF hsl hn hx), hx⟩⟩
theorem mem_bh {g : Grs} {f : Gr} {B : Nat → List Int} (h : GOkB g f B) {ss : List (Option (Nat × List Int))} (hF : ∀ n, FixAt f ss n) (hsl : ss.length = f.bs.l.length) {n i : Nat} {bl : Blc} {ins : Ins} (hb : f.bs.l[n]? = some bl) (hi : bl.is.l[i]? = some ins) {x : Int} : x ∈ bhF f ss bl i ↔ x ≠ ins.x ∧ LvAt ss bl (i + 1) x := by
  unfold bhF filF
  rw [List.mem_filter, bhB_iff hi]
  exact ⟨And.right, fun hx => ⟨mem_vrs.2 (bh_vars h hF hsl hb hi hx.2), hx⟩⟩
theorem isAt_N {g : Grs} {f : Gr} {B : Nat → List Int} (h : GOkB g f B) {ss : List (Option (Nat × List Int))} (hF : ∀ n, FixAt f ss n) (hsl : ss.length = f.bs.l.length) {n : Nat} {bl : Blc} (hb : f.bs.l[n]? = some bl) : IsAt f ss (n, none) ⟨bl.ps.l, intoF f ss n (vrs f), true⟩ :=
  ⟨bl, hb, List.Nodup.sublist List.filter_sublist (vrs_nodup h), rfl, rfl, fun x => mem_into h hF hsl (List.getElem?_eq_some_iff.1 hb).1⟩
theorem isAt_I {g : Grs} {f : Gr} {B : Nat → List Int} (h : GOkB g f B) {ss : List (Option (Nat × List Int))} (hF : ∀ n, FixAt f ss n) (hsl : ss.length = f.bs.l.length) {n i : Nat} {bl : Blc} {ins : Ins} (hb : f.bs.l[n]? = some bl) (hi : bl.is.l[i]? = some ins) : IsAt f ss (n, some i) ⟨[ins.x], bhF f ss bl i, false⟩ :=
  ⟨bl, hb, List.Nodup.sublist List.filter_sublist (vrs_nodup h), ins, hi, rfl, rfl, fun x => mem_bh h hF hsl hb hi⟩
theorem map_congr_on {f g : Int → Int} {l : List Int} (h : ∀ x ∈ l, f x = g x) : l.map f = l.map g := List.map_congr_left h
theorem slot_cases {f : Gr} {sl : Nat × Option Nat} (h : sl ∈ slots f f.bs.l.length) : ∃ n bl, f.bs.l[n]? = some bl ∧ (sl = (n, none) ∨ ∃ i ins, bl.is.l[i]? = some ins ∧ sl = (n, some i)) := by
  unfold slots at h
  obtain ⟨n, hn, h⟩ := List.mem_flatMap.1 h
  have hnl := List.mem_range.1 hn
  have hb : f.bs.l[n]? = some f.bs.l[n] := List.getElem?_eq_getElem hnl
  refine ⟨n, _, hb, ?_⟩
  unfold slotB isLen at h
  rw [hb] at h
  rcases List.mem_cons.1 h with h | h
  · exact .inl h
  · obtain ⟨i, hi, rfl⟩ := List.mem_map.1 h
    exact .inr ⟨i, _, List.getElem?_eq_getElem (List.mem_range.1 hi), rfl⟩
/-- registers agree on all variables -/
theorem all_okS {g : Grs} {f : Gr} {B : Nat → List Int} (h : GOkB g f B) {ss : List (Option (Nat × List Int))} (hF : ∀ n, FixAt f ss n) (hsl : ss.length = f.bs.l.length) {l : List Rg} {m : List (Int × Int)} (hm : ∀ x ∈ varsL f.bs.l, rgM m x = regOf l x) :
    AllOk f m ↔ ∀ sl ∈ slots f f.bs.l.length, okS f ss l sl := by
  have hps : ∀ {n : Nat} {bl : Blc}, f.bs.l[n]? = some bl → ∀ x ∈ bl.ps.l, x ∈ varsL f.bs.l := fun hb x hx => by
    rw [bvs_eq]
    exact List.mem_append_right _ (List.mem_flatMap.2 ⟨_, List.mem_of_getElem? hb, List.mem_append_left _ hx⟩)
  have hxs : ∀ {n i : Nat} {bl : Blc} {ins : Ins}, f.bs.l[n]? = some bl → bl.is.l[i]? = some ins → ins.x ∈ varsL f.bs.l := fun hb hi => by
    rw [bvs_eq]
    exact List.mem_append_right _ (List.mem_flatMap.2 ⟨_, List.mem_of_getElem? hb, List.mem_append_right _ (List.mem_map.2 ⟨_, List.mem_of_getElem? hi, rfl⟩)⟩)
  have eN : ∀ {n : Nat} {bl : Blc}, f.bs.l[n]? = some bl → (okPl m ⟨bl.ps.l, intoF f ss n (vrs f), true⟩ ↔ okS f ss l (n, none)) := fun {n bl} hb => by
    have hn := (List.getElem?_eq_some_iff.1 hb).1
    rw [okS_n hb, List.map_append]
    unfold okPl
    dsimp only
    rw [map_congr_on (f := rgM m) (g := regOf l) fun x hx => hm x (into_vars h hF hsl hn ((mem_into h hF hsl hn).1 hx)), map_congr_on (f := rgM m) (g := regOf l) fun x hx => hm x (hps hb x hx), List.nodup_append]
    constructor
    · rintro ⟨h1, h2, h3⟩
      refine ⟨h2, h1 rfl, fun a ha b hb2 e => ?_⟩
      obtain ⟨x, hx, rfl⟩ := List.mem_map.1 ha
      exact h3 x hx (by rw [hm x (hps hb x hx), e]; exact hb2)
    · rintro ⟨h1, h2, h3⟩
      refine ⟨fun _ => h2, h1, fun x hx hc => ?_⟩
      rw [hm x (hps hb x hx)] at hc
      exact h3 _ (List.mem_map.2 ⟨x, hx, rfl⟩) _ hc rfl
  have eI : ∀ {n i : Nat} {bl : Blc} {ins : Ins}, f.bs.l[n]? = some bl → bl.is.l[i]? = some ins → (okPl m ⟨[ins.x], bhF f ss bl i, false⟩ ↔ okS f ss l (n, some i)) := fun {n i bl ins} hb hi => by
    rw [okS_i hb hi]
    unfold okPl
    dsimp only
    rw [map_congr_on (f := rgM m) (g := regOf l) fun x hx => hm x (bh_vars h hF hsl hb hi ((mem_bh h hF hsl hb hi).1 hx).2)]
    constructor
    · rintro ⟨_, _, h3⟩ x hx e
      have := h3 ins.x (.head _)
      rw [hm _ (hxs hb hi), ← e] at this
      exact this (List.mem_map.2 ⟨x, hx, rfl⟩)
    · intro h3
      refine ⟨fun hc => (by cases hc), List.nodup_cons.2 ⟨List.not_mem_nil, List.nodup_nil⟩, fun x hx hc => ?_⟩
      rw [List.mem_singleton] at hx
      subst hx
      rw [hm _ (hxs hb hi)] at hc
      obtain ⟨y, hy, e⟩ := List.mem_map.1 hc
      exact h3 y hy e
  have hU := up_of h
  constructor
  · intro ha sl hs
    obtain ⟨n, bl, hb, rfl | ⟨i, ins, hi, rfl⟩⟩ := slot_cases hs
    · exact (eN hb).1 (ha ss hsl hF _ hs _ (isAt_N h hF hsl hb))
    · exact (eI hb hi).1 (ha ss hsl hF _ hs _ (isAt_I h hF hsl hb hi))
  · intro ha s2 hl2 hF2 sl hs p hp
    obtain ⟨n, bl, hb, rfl | ⟨i, ins, hi, rfl⟩⟩ := slot_cases hs
    · exact okPl_perm (isAt_uniq (setAt_uniq hU hF hF2 hsl hl2) (by omega) (isAt_N h hF hsl hb) hp) ((eN hb).2 (ha _ hs))
    · exact okPl_perm (isAt_uniq (setAt_uniq hU hF hF2 hsl hl2) (by omega) (isAt_I h hF hsl hb hi) hp) ((eI hb hi).2 (ha _ hs))
theorem mem01 (f : Gr) : (0 : Int) ∈ varsL f.bs.l ∧ (1 : Int) ∈ varsL f.bs.l := by
  rw [bvs_eq]
  exact ⟨.head _, .tail _ (.head _)⟩
end Go.Proofs.Ytjfanjcoppeeaaa
namespace Go.Proofs.Ytjfanjcoppeeaaa
open Go Go.Fw
set_option linter.unusedVariables false
theorem lkI_set (m : List (Int × Int)) (k v p : Int) : lkI (setI m k v) p = if p = k then some v else lkI m p := by
  unfold setI
  split
  · rename_i hs
    induction m with
    | nil => simp [lkI] at hs
    | cons e m ih =>
      by_cases hek : e.1 = k
      · have hb : (e.1 == k) = true := by simpa using hek
        simp only [List.map_cons, hb, if_true, lkI, List.find?_cons]
        by_cases hpk : p = k
        · subst hpk; simp
        · have h1 : (k == p) = false := by simpa using fun h => hpk h.symm
          have h2 : (e.1 == p) = false := by rw [hek]; exact h1
          rw [if_neg hpk, h1, h2]
          have key : ∀ l : List (Int × Int), (l.map (fun e => if e.1 == k then (k, v) else e)).find? (fun e => e.1 == p) = l.find? (fun e => e.1 == p) := by
            intro l
            induction l with
            | nil => rfl
            | cons d l ihl =>
              rw [List.map_cons, List.find?_cons, List.find?_cons]
              by_cases hd : d.1 = k
              · have hd1 : (d.1 == k) = true := by simpa using hd
                have hd2 : (d.1 == p) = false := by rw [hd]; exact h1
                simp only [hd1, if_true, h1, hd2, ihl]
              · have hd1 : (d.1 == k) = false := by simpa using hd
                simp only [hd1, Bool.false_eq_true, if_false, ihl]
          simp only [key]
      · have hb : (e.1 == k) = false := by simpa using hek
        have hs' : (lkI m k).isSome = true := by
          unfold lkI at hs ⊢
          rw [List.find?_cons, hb] at hs
          exact hs
        have := ih hs'
        unfold lkI at this ⊢
        simp only [List.map_cons, hb, Bool.false_eq_true, if_false, List.find?_cons]
        by_cases hep : e.1 = p
        · have h1 : (e.1 == p) = true := by simpa using hep
          have hpk : ¬ p = k := fun h => hek (hep.trans h)
          simp only [h1, if_neg hpk]
        · have h1 : (e.1 == p) = false := by simpa using hep
          simp only [h1]
          exact this
  · rename_i hs
    have hs2 : lkI m k = none := by simpa using hs
    unfold lkI at hs2 ⊢
    rw [List.find?_append]
    by_cases hpk : p = k
    · subst hpk
      rw [Option.map_eq_none_iff] at hs2
      rw [hs2, if_pos rfl]
      simp
    · rw [if_neg hpk]
      have h1 : (k == p) = false := by simpa using fun h => hpk h.symm
      cases h2 : m.find? (fun e => e.1 == p) with
      | none => simp [h1]
      | some e => simp
theorem rgM_set_ne {m : List (Int × Int)} {k v p : Int} (h : p ≠ k) : rgM (setI m k v) p = rgM m p := by
  unfold rgM
  rw [lkI_set, if_neg h]
theorem rgM_set_eq {m : List (Int × Int)} {k v : Int} : rgM (setI m k v) k = v := by
  unfold rgM
  rw [lkI_set, if_pos rfl]
  rfl
/-- what stands when some are bound at a place -/
structure AsgOk (m : List (Int × Int)) (ks bs : List Int) (s : List (Int × Int) × List Int) : Prop where
  tl : s.2 = ks.map (rgM m) ++ bs.map (rgM s.1)
  ne : ∀ y, y ∉ bs → lkI s.1 y = lkI m y
  nd : (bs.map (rgM s.1)).Nodup
  off : ∀ x ∈ bs, rgM s.1 x ∉ ks.map (rgM m)
  some_ : ∀ x ∈ bs, (lkI s.1 x).isSome = true
  lt : ∀ x ∈ bs, 0 ≤ rgM s.1 x ∧ rgM s.1 x < ks.length + bs.length
theorem asgs_ok (m : List (Int × Int)) (ks bs : List Int) (hn : bs.Nodup) : ∀ i, i ≤ bs.length → AsgOk m ks (bs.take i) (asgs m ks (bs.take i)) := by
  intro i
  induction i with
  | zero =>
    intro _
    rw [List.take_zero, asgs_nil]
    exact ⟨by simp, fun y _ => rfl, List.nodup_nil, fun x h => absurd h List.not_mem_nil, fun x h => absurd h List.not_mem_nil, fun x h => absurd h List.not_mem_nil⟩
  | succ i ih =>
    intro hi
    have h := ih (by omega)
    obtain ⟨x, hx⟩ : ∃ x, bs[i]? = some x := ⟨_, List.getElem?_eq_getElem hi⟩
    rw [asgs_snoc m ks hx]
    generalize asgs m ks (bs.take i) = s at h
    have hxn : x ∉ bs.take i := by
      have h4 : (bs.take (i + 1)).Nodup := List.Nodup.sublist (List.take_sublist _ _) hn
      rw [take_snoc hx] at h4
      exact fun hc => (List.nodup_append.1 h4).2.2 x hc x (.head _) rfl
    have hl := lst_is s.2
    have hll : lst s.2 ≤ s.2.length := lst_le hl.2
    have hlen : s.2.length = ks.length + i := by
      rw [h.tl, List.length_append, List.length_map, List.length_map, List.length_take]
      omega
    have hlt : (bs.take (i + 1)).length = i + 1 := by rw [List.length_take]; omega
    have hlt0 : (bs.take i).length = i := by rw [List.length_take]; omega
    have hmap : (bs.take i).map (rgM (asg s x).1) = (bs.take i).map (rgM s.1) := List.map_congr_left fun y hy => rgM_set_ne (fun e : y = x => hxn (e ▸ hy))
    have hrx : rgM (asg s x).1 x = (lst s.2 : Int) := rgM_set_eq
    rw [take_snoc hx]
    have hin1 : ∀ z, z ∈ ks.map (rgM m) → z ∈ s.2 := fun z hz => by
      have := List.mem_append_left ((bs.take i).map (rgM s.1)) hz
      rwa [← h.tl] at this
    have hin2 : ∀ z, z ∈ (bs.take i).map (rgM s.1) → z ∈ s.2 := fun z hz => by
      have := List.mem_append_right (ks.map (rgM m)) hz
      rwa [← h.tl] at this
    have hoff : (lst s.2 : Int) ∉ ks.map (rgM m) := fun hc => hl.1 (hin1 _ hc)
    refine ⟨?_, fun y hy => ?_, ?_, fun y hy => ?_, fun y hy => ?_, fun y hy => ?_⟩
    · rw [List.map_append, hmap, List.map_cons, List.map_nil, hrx, ← List.append_assoc, ← h.tl]
      rfl
    · rw [List.mem_append, List.mem_singleton, not_or] at hy
      show lkI (setI s.1 x _) y = _
      rw [lkI_set, if_neg hy.2]
      exact h.ne y hy.1
    · rw [List.map_append, hmap, List.map_cons, List.map_nil, hrx]
      refine List.nodup_append.2 ⟨h.nd, List.nodup_cons.2 ⟨List.not_mem_nil, List.nodup_nil⟩, fun a ha b hb e => ?_⟩
      rw [List.mem_singleton] at hb
      subst hb
      subst e
      exact hl.1 (hin2 _ ha)
    · rcases List.mem_append.1 hy with hy | hy
      · show rgM (setI s.1 x _) y ∉ _
        rw [rgM_set_ne (fun e : y = x => hxn (e ▸ hy))]
        exact h.off y hy
      · rw [List.mem_singleton] at hy
        subst hy
        rw [hrx]
        exact hoff
    · show (lkI (setI s.1 x _) y).isSome = true
      rw [lkI_set]
      split
      · rfl
      · rename_i hne
        rcases List.mem_append.1 hy with hy | hy
        · exact h.some_ y hy
        · rw [List.mem_singleton] at hy
          exact absurd hy hne
    · rw [List.length_append]
      show _ ∧ _ < (ks.length : Int) + (((bs.take i).length + 1 : Nat) : Int)
      rcases List.mem_append.1 hy with hy | hy
      · show 0 ≤ rgM (setI s.1 x _) y ∧ rgM (setI s.1 x _) y < _
        rw [rgM_set_ne (fun e : y = x => hxn (e ▸ hy))]
        have := h.lt y hy
        omega
      · rw [List.mem_singleton] at hy
        subst hy
        rw [hrx, hlt0]
        omega
theorem asgs_all (m : List (Int × Int)) (ks bs : List Int) (hn : bs.Nodup) : AsgOk m ks bs (asgs m ks bs) := by
  have := asgs_ok m ks bs hn bs.length (Nat.le_refl _)
  rwa [List.take_length] at this
/-- places in order: what lives is bound, what is bound is new -/
inductive Chain : List Int → List Pl → Prop
  | nil {A : List Int} : Chain A []
  | cons {A : List Int} {p : Pl} {pl : List Pl} (h1 : ∀ x ∈ p.ks, x = 0 ∨ x = 1 ∨ x ∈ A) (h2 : p.bs.Nodup) (h3 : ∀ x ∈ p.bs, x ≠ 0 ∧ x ≠ 1 ∧ x ∉ A) (h4 : Chain (A ++ p.bs) pl) : Chain A (p :: pl)
/-- a place whose bound ones are unlike each other and what lives -/
def okB (m : List (Int × Int)) (p : Pl) : Prop := (p.bs.map (rgM m)).Nodup ∧ ∀ x ∈ p.bs, rgM m x ∉ p.ks.map (rgM m)
structure StOk (A : List Int) (s : Nat × List (Int × Int)) : Prop where
  two : 2 ≤ s.1
  z : lkI s.2 0 = some 0
  o : lkI s.2 1 = some 1
  all : ∀ x ∈ A, (lkI s.2 x).isSome = true ∧ 0 ≤ rgM s.2 x ∧ rgM s.2 x < s.1
theorem greedy : ∀ {pl : List Pl} {A : List Int} {s s1 : Nat × List (Int × Int)}, Chain A pl → StOk A s → goes atC s pl = some s1 →
    StOk (A ++ pl.flatMap Pl.bs) s1 ∧ (∀ y, y ∉ pl.flatMap Pl.bs → lkI s1.2 y = lkI s.2 y) ∧ (∀ p ∈ pl, okB s1.2 p) ∧ s1.1 = (pl.map fun p => p.bs.length + p.ks.length).foldl max s.1
  | [], A, s, s1, hc, hs, hg => by
    cases hg
    rw [List.flatMap_nil, List.append_nil]
    exact ⟨hs, fun y _ => rfl, fun p hp => absurd hp List.not_mem_nil, rfl⟩
  | p :: pl, A, s, s1, hc, hs, hg => by
    cases hc with
    | cons h1 h2 h3 h4 =>
    have ha := asgs_all s.2 p.ks p.bs h2
    obtain ⟨s2, hs2⟩ : ∃ x, x = (max s.1 (p.bs.length + p.ks.length), (asgs s.2 p.ks p.bs).1) := ⟨_, rfl⟩
    have hg2 : goes atC s2 pl = some s1 := by rw [hs2]; exact hg
    have h21 : s2.1 = max s.1 (p.bs.length + p.ks.length) := by rw [hs2]
    have h22 : s2.2 = (asgs s.2 p.ks p.bs).1 := by rw [hs2]
    have hne : ∀ y, y ∉ p.bs → lkI s2.2 y = lkI s.2 y := by rw [h22]; exact ha.ne
    have hand : (p.bs.map (rgM s2.2)).Nodup := by rw [h22]; exact ha.nd
    have haoff : ∀ x ∈ p.bs, rgM s2.2 x ∉ p.ks.map (rgM s.2) := by rw [h22]; exact ha.off
    have hasome : ∀ x ∈ p.bs, (lkI s2.2 x).isSome = true := by rw [h22]; exact ha.some_
    have halt : ∀ x ∈ p.bs, 0 ≤ rgM s2.2 x ∧ rgM s2.2 x < p.ks.length + p.bs.length := by rw [h22]; exact ha.lt
    clear ha h22
    have hA : ∀ x ∈ A, x ∉ p.bs := fun x hx hc => (h3 x hc).2.2 hx
    have hst : StOk (A ++ p.bs) s2 := by
      refine ⟨by have := hs.two; omega, ?_, ?_, fun x hx => ?_⟩
      · rw [hne 0 fun hc => (h3 0 hc).1 rfl]; exact hs.z
      · rw [hne 1 fun hc => (h3 1 hc).2.1 rfl]; exact hs.o
      · rcases List.mem_append.1 hx with hx | hx
        · have h5 := hs.all x hx
          have e : lkI s2.2 x = lkI s.2 x := hne x (hA x hx)
          have e2 : rgM s2.2 x = rgM s.2 x := by unfold rgM; rw [e]
          rw [e, e2]
          exact ⟨h5.1, h5.2.1, by omega⟩
        · have h5 := halt x hx
          exact ⟨hasome x hx, h5.1, by omega⟩
    obtain ⟨g1, g2, g3, g4⟩ := greedy h4 hst hg2
    have hfresh : ∀ y, y ∈ A ∨ y ∈ p.bs ∨ y = 0 ∨ y = 1 → y ∉ pl.flatMap Pl.bs := by
      clear hg hg2 g1 g2 g3 g4
      have key : ∀ {pl : List Pl} {A : List Int}, Chain A pl → ∀ y, (y ∈ A ∨ y = 0 ∨ y = 1) → y ∉ pl.flatMap Pl.bs := by
        intro pl
        induction pl with
        | nil => intro A _ y _; exact List.not_mem_nil
        | cons q pl ih =>
          intro A hc y hy
          cases hc with
          | cons k1 k2 k3 k4 =>
            rw [List.flatMap_cons, List.mem_append]
            rintro (h | h)
            · have := k3 y h
              rcases hy with hy | hy | hy
              · exact this.2.2 hy
              · exact this.1 hy
              · exact this.2.1 hy
            · exact ih k4 y (hy.imp (fun h => List.mem_append_left _ h) id) h
      intro y hy
      refine key h4 y ?_
      rcases hy with h | h | h | h
      · exact .inl (List.mem_append_left _ h)
      · exact .inl (List.mem_append_right _ h)
      · exact .inr (.inl h)
      · exact .inr (.inr h)
    have hst2 : ∀ y, y ∈ A ∨ y ∈ p.bs ∨ y = 0 ∨ y = 1 → rgM s1.2 y = rgM s2.2 y := fun y hy => by
      unfold rgM
      rw [g2 y (hfresh y hy)]
    refine ⟨?_, fun y hy => ?_, fun q hq => ?_, ?_⟩
    · rw [List.flatMap_cons, ← List.append_assoc]
      exact g1
    · rw [List.flatMap_cons, List.mem_append, not_or] at hy
      rw [g2 y hy.2, hne y hy.1]
    · rcases List.mem_cons.1 hq with rfl | hq
      · have e1 : q.bs.map (rgM s1.2) = q.bs.map (rgM s2.2) := List.map_congr_left fun y hy => hst2 y (.inr (.inl hy))
        have e2 : q.ks.map (rgM s1.2) = q.ks.map (rgM s.2) := List.map_congr_left fun y hy => by
          have h5 := h1 y hy
          rw [hst2 y (h5.elim (fun h => .inr (.inr (.inl h))) fun h => h.elim (fun h => .inr (.inr (.inr h))) .inl)]
          unfold rgM
          rw [hne y fun hc => ?_]
          have h6 := h3 y hc
          rcases h5 with h5 | h5 | h5
          · exact h6.1 h5
          · exact h6.2.1 h5
          · exact h6.2.2 h5
        refine ⟨by rw [e1]; exact hand, fun x hx => ?_⟩
        rw [e2, hst2 x (.inr (.inl hx))]
        exact haoff x hx
      · exact g3 q hq
    · rw [g4, List.map_cons, List.foldl_cons, h21]
end Go.Proofs.Ytjfanjcoppeeaaa
namespace Go.Proofs.Ytjfanjcoppeeaaa
open Go Go.Fw
set_option linter.unusedVariables false
theorem chain_app : ∀ {p1 : List Pl} {A : List Int} {p2 : List Pl}, Chain A p1 → Chain (A ++ p1.flatMap Pl.bs) p2 → Chain A (p1 ++ p2)
  | [], A, p2, _, h => by rw [List.flatMap_nil, List.append_nil] at h; exact h
  | p :: p1, A, p2, h1, h2 => by
    cases h1 with
    | cons a b c d =>
      refine .cons a b c (chain_app d ?_)
      rw [List.flatMap_cons, ← List.append_assoc] at h2
      exact h2
theorem fa2_split {α β : Type} {R : α → β → Prop} : ∀ {l1 l2 : List α} {m : List β}, FA2 R (l1 ++ l2) m → ∃ m1 m2, m = m1 ++ m2 ∧ FA2 R l1 m1 ∧ FA2 R l2 m2
  | [], l2, m, h => ⟨[], m, rfl, .nil, h⟩
  | x :: l1, l2, m, h => by
    cases h with
    | cons h1 h2 =>
      obtain ⟨m1, m2, rfl, h3, h4⟩ := fa2_split h2
      exact ⟨_ :: m1, m2, rfl, .cons h1 h3, h4⟩
theorem evs_nodup {g : Grs} {f : Gr} {B : Nat → List Int} (h : GOkB g f B) (n : Nat) : (evs f n).Nodup := by
  have h1 := h.ev.nd
  have : f.bs.l.flatMap bvs = evs f n ++ (f.bs.l.drop n).flatMap bvs := by
    unfold evs
    rw [← List.flatMap_append, List.take_append_drop]
  rw [this] at h1
  exact (List.nodup_append.1 h1).1
theorem evs_ge {g : Grs} {f : Gr} {B : Nat → List Int} (h : GOkB g f B) {n : Nat} {x : Int} (hx : x ∈ evs f n) : x ≠ 0 ∧ x ≠ 1 := by
  have := (h.ev.rg x (evs_le f n x hx)).1
  exact ⟨by omega, by omega⟩
theorem chain_blk {g : Grs} {f : Gr} {B : Nat → List Int} (h : GOkB g f B) {ss : List (Option (Nat × List Int))} (hF : ∀ n, FixAt f ss n) (hsl : ss.length = f.bs.l.length) {n : Nat} {bl : Blc} (hb : f.bs.l[n]? = some bl) :
    ∀ i, i ≤ bl.is.l.length → ∀ {pl : List Pl}, FA2 (IsAt f ss) (slotB n i) pl → Chain (evs f n) pl ∧ pl.flatMap Pl.bs = bl.ps.l ++ (bl.is.l.take i).map Ins.x := by
  have hnd := evs_nodup h (n + 1)
  rw [evs_next hb] at hnd
  obtain ⟨_, hn2, hn3⟩ := List.nodup_append.1 hnd
  have hge : ∀ x ∈ bvs bl, x ≠ 0 ∧ x ≠ 1 := fun x hx => evs_ge h (n := n + 1) (by rw [evs_next hb]; exact List.mem_append_right _ hx)
  have hnb : (bl.ps.l ++ bl.is.l.map Ins.x).Nodup := hn2
  intro i
  induction i with
  | zero =>
    intro _ pl hpl
    rw [slotB_0] at hpl
    cases hpl with
    | cons hp hr =>
    cases hr
    rename_i p
    have hk := fun x hx => ks_bef h hF hsl hp (x := x) hx
    obtain ⟨bl', hb', _, h1, _, _⟩ := hp
    rw [hb] at hb'
    cases hb'
    refine ⟨.cons hk (by rw [h1]; exact (List.nodup_append.1 hnb).1) (fun x hx => ?_) .nil, ?_⟩
    · rw [h1] at hx
      have hx2 : x ∈ bvs bl := List.mem_append_left _ hx
      exact ⟨(hge x hx2).1, (hge x hx2).2, fun hc => hn3 x hc x hx2 rfl⟩
    · rw [List.take_zero, List.flatMap_cons, List.flatMap_nil, h1]
      simp
  | succ i ih =>
    intro hi pl hpl
    rw [slotB_snoc] at hpl
    obtain ⟨p1, p2, rfl, hp1, hp2⟩ := fa2_split hpl
    obtain ⟨hc, he⟩ := ih (by omega) hp1
    cases hp2 with
    | cons hp hr =>
    cases hr
    rename_i p
    have hk := fun x hx => ks_bef h hF hsl hp (x := x) hx
    obtain ⟨bl', hb', _, ins, hins, h1, _, _⟩ := hp
    rw [hb] at hb'
    cases hb'
    have hx2 : ins.x ∈ bvs bl := List.mem_append_right _ (List.mem_map.2 ⟨ins, List.mem_of_getElem? hins, rfl⟩)
    have hsn := map_x_snoc hins
    have hnb2 : (bl.ps.l ++ ((bl.is.l.take i).map Ins.x ++ [ins.x])).Nodup := by
      rw [← hsn]
      exact List.Nodup.sublist ((List.Sublist.refl _).append ((List.take_sublist _ _).map _)) hnb
    rw [← List.append_assoc] at hnb2
    refine ⟨chain_app hc (.cons (fun x hx => ?_) (by rw [h1]; simp) (fun x hx => ?_) .nil), ?_⟩
    · rcases hk x hx with h2 | h2 | h2
      · exact .inl h2
      · exact .inr (.inl h2)
      · refine .inr (.inr ?_)
        rw [he]
        unfold bef at h2
        dsimp only at h2
        rw [blD hb, List.append_assoc] at h2
        exact h2
    · rw [h1, List.mem_singleton] at hx
      subst hx
      refine ⟨(hge _ hx2).1, (hge _ hx2).2, fun hcc => ?_⟩
      rcases List.mem_append.1 hcc with h2 | h2
      · exact hn3 _ h2 _ hx2 rfl
      · rw [he] at h2
        exact (List.nodup_append.1 hnb2).2.2 _ h2 _ (.head _) rfl
    · rw [List.flatMap_append, he, List.flatMap_cons, List.flatMap_nil, h1, hsn]
      simp
theorem chain_all {g : Grs} {f : Gr} {B : Nat → List Int} (h : GOkB g f B) {ss : List (Option (Nat × List Int))} (hF : ∀ n, FixAt f ss n) (hsl : ss.length = f.bs.l.length) :
    ∀ n, n ≤ f.bs.l.length → ∀ {pl : List Pl}, FA2 (IsAt f ss) (slots f n) pl → Chain [] pl ∧ pl.flatMap Pl.bs = evs f n := by
  intro n
  induction n with
  | zero =>
    intro _ pl hpl
    rw [slots_0] at hpl
    cases hpl
    exact ⟨.nil, rfl⟩
  | succ n ih =>
    intro hn pl hpl
    have hb : f.bs.l[n]? = some f.bs.l[n] := List.getElem?_eq_getElem hn
    rw [slots_next hb] at hpl
    obtain ⟨p1, p2, rfl, hp1, hp2⟩ := fa2_split hpl
    obtain ⟨hc, he⟩ := ih (by omega) hp1
    obtain ⟨hc2, he2⟩ := chain_blk h hF hsl hb _ (Nat.le_refl _) hp2
    refine ⟨chain_app hc (by rw [he]; exact hc2), ?_⟩
    rw [List.flatMap_append, he, he2, evs_next hb, List.take_length]
    rfl
/-! ## what lives at one time is unlike -/
theorem nodup_inj {f : Int → Int} : ∀ {l : List Int}, l.Nodup → (∀ x ∈ l, ∀ y ∈ l, x ≠ y → f x ≠ f y) → (l.map f).Nodup
  | [], _, _ => List.nodup_nil
  | x :: l, hn, h => by
    rw [List.nodup_cons] at hn
    rw [List.map_cons, List.nodup_cons]
    refine ⟨fun hc => ?_, nodup_inj hn.2 fun a ha b hb => h a (.tail _ ha) b (.tail _ hb)⟩
    obtain ⟨y, hy, e⟩ := List.mem_map.1 hc
    exact h y (.tail _ hy) x (.head _) (fun e2 => hn.1 (e2 ▸ hy)) e
theorem inj_live {g : Grs} {f : Gr} {B : Nat → List Int} (h : GOkB g f B) {ss : List (Option (Nat × List Int))} (hF : ∀ n, FixAt f ss n) (hsl : ss.length = f.bs.l.length) {m : List (Int × Int)} (hz : rgM m 0 = 0) (ho : rgM m 1 = 1)
    (hok : ∀ sl ∈ slots f f.bs.l.length, ∃ p, IsAt f ss sl p ∧ okB m p) : ∀ n, n < f.bs.l.length → ∀ x y, x ∈ setAt ss n → y ∈ setAt ss n → x ≠ y → rgM m x ≠ rgM m y := by
  intro n
  induction n using Nat.strongRecOn with
  | _ n ih =>
    intro hn x y hx hy hne
    by_cases h0 : n = 0
    · subst h0
      have hx1 := live_B2 h hF hsl 0 x hx
      have hy1 := live_B2 h hF hsl 0 y hy
      rw [h.b0] at hx1 hy1
      rcases hx1 with rfl | rfl | hx1 <;> rcases hy1 with rfl | rfl | hy1 <;> first | exact absurd rfl hne | (rw [hz, ho]; decide) | (rw [ho, hz]; decide) | exact absurd hx1 List.not_mem_nil | exact absurd hy1 List.not_mem_nil
    · obtain ⟨k, bl, hk, hb, t, ht, htb⟩ := h.pre n (by omega) hn
      have hend : ∀ x, x ∈ setAt ss n → LvAt ss bl bl.is.l.length x := fun x hx => by
        rw [lvAt_end]
        refine .inr ⟨t, ht, .inr ⟨by omega, ?_⟩⟩
        have e : t.b.toNat = n := by omega
        have hs : ss[n]? = some (ss[n]'(by omega)) := List.getElem?_eq_getElem _
        rw [e, hs]
        unfold setAt at hx
        rw [hs] at hx
        exact ⟨_, rfl, hx⟩
      have hkl := (List.getElem?_eq_some_iff.1 hb).1
      have key : ∀ i, i ≤ bl.is.l.length → ∀ x y, LvAt ss bl i x → LvAt ss bl i y → x ≠ y → rgM m x ≠ rgM m y := by
        intro i
        induction i with
        | zero =>
          intro _ x y hx hy hne
          obtain ⟨p, hp, hpo⟩ := hok (k, none) (slot_mem hb (slot_none _ _))
          obtain ⟨bl', hb', _, h1, _, h3⟩ := hp
          rw [hb] at hb'
          cases hb'
          have hsp : ∀ z, LvAt ss bl 0 z → z ∈ bl.ps.l ∨ z ∈ setAt ss k := fun z hz => by
            by_cases hzp : z ∈ bl.ps.l
            · exact .inl hzp
            · exact .inr ((hF k bl hb z).2 (blk_mk hz hzp))
          unfold okB at hpo
          rw [h1] at hpo
          rcases hsp x hx with hx1 | hx1 <;> rcases hsp y hy with hy1 | hy1
          · exact nodup_map_ne hpo.1 hx1 hy1 hne
          · exact fun e => hpo.2 x hx1 (e ▸ List.mem_map.2 ⟨y, (h3 y).2 hy1, rfl⟩)
          · exact fun e => hpo.2 y hy1 (e ▸ List.mem_map.2 ⟨x, (h3 x).2 hx1, rfl⟩)
          · exact ih k hk hkl x y hx1 hy1 hne
        | succ i ihi =>
          intro hi x y hx hy hne
          obtain ⟨ins, hins⟩ : ∃ z, bl.is.l[i]? = some z := ⟨_, List.getElem?_eq_getElem hi⟩
          obtain ⟨p, hp, hpo⟩ := hok (k, some i) (slot_mem hb (slot_some hi))
          obtain ⟨bl', hb', _, ins', hins', h1, _, h3⟩ := hp
          rw [hb] at hb'
          cases hb'
          rw [hins] at hins'
          cases hins'
          unfold okB at hpo
          rw [h1] at hpo
          by_cases hxd : x = ins.x
          · subst hxd
            exact fun e => hpo.2 _ (.head _) (e ▸ List.mem_map.2 ⟨y, (h3 y).2 ⟨fun e => hne e.symm, hy⟩, rfl⟩)
          · by_cases hyd : y = ins.x
            · subst hyd
              exact fun e => hpo.2 _ (.head _) (e ▸ List.mem_map.2 ⟨x, (h3 x).2 ⟨hxd, hx⟩, rfl⟩)
            · exact ihi (by omega) x y ((lvAt_at hins).2 (.inr ⟨hx, hxd⟩)) ((lvAt_at hins).2 (.inr ⟨hy, hyd⟩)) hne
      exact key _ (Nat.le_refl _) x y (hend x hx) (hend y hy) hne
theorem allOk_of {g : Grs} {f : Gr} {B : Nat → List Int} (h : GOkB g f B) {ss : List (Option (Nat × List Int))} (hF : ∀ n, FixAt f ss n) (hsl : ss.length = f.bs.l.length) {m : List (Int × Int)} (hz : rgM m 0 = 0) (ho : rgM m 1 = 1)
    (hok : ∀ sl ∈ slots f f.bs.l.length, ∃ p, IsAt f ss sl p ∧ okB m p) : AllOk f m := by
  intro s2 hl2 hF2 sl hs q hq
  obtain ⟨p, hp, hpo⟩ := hok sl hs
  refine okPl_perm (isAt_uniq (setAt_uniq (up_of h) hF hF2 hsl hl2) (by omega) hp hq) ⟨fun hb => ?_, hpo.1, hpo.2⟩
  obtain ⟨n, o⟩ := sl
  obtain ⟨bl, hb', hn, hp⟩ := hp
  cases o with
  | none =>
    have hnl := (List.getElem?_eq_some_iff.1 hb').1
    exact nodup_inj hn fun x hx y hy hne => inj_live h hF hsl hz ho hok n hnl x y ((hp.2.2 x).1 hx) ((hp.2.2 y).1 hy) hne
  | some i =>
    obtain ⟨_, _, _, hb2, _⟩ := hp
    rw [hb2] at hb
    cases hb
/-! ## the press -/
theorem cnt_eq {g : Grs} {f : Gr} {B : Nat → List Int} (h : GOkB g f B) {ss : List (Option (Nat × List Int))} (hF : ∀ n, FixAt f ss n) (hsl : ss.length = f.bs.l.length) {sl : Nat × Option Nat} {p : Pl} (hp : IsAt f ss sl p) : p.bs.length + p.ks.length = cnt f ss sl := by
  have hu := setAt_uniq (up_of h) hF hF hsl hsl
  obtain ⟨n, o⟩ := sl
  have hp' := hp
  obtain ⟨bl, hb, _, hp2⟩ := hp
  cases o with
  | none =>
    have := isAt_uniq hu rfl hp' (isAt_N h hF hsl hb)
    rw [cnt_n hb, this.1, this.2.2.length_eq]
  | some i =>
    obtain ⟨ins, hi, _⟩ := hp2
    have := isAt_uniq hu rfl hp' (isAt_I h hF hsl hb hi)
    rw [cnt_i hb, this.1, this.2.2.length_eq]
    rfl
theorem fa2_map {α β γ : Type} {R : α → β → Prop} {u : α → γ} {v : β → γ} : ∀ {l : List α} {m : List β}, FA2 R l m → (∀ x y, R x y → v y = u x) → m.map v = l.map u
  | [], m, h, _ => by cases h; rfl
  | x :: l, m, h, hv => by
    cases h with
    | cons h1 h2 => rw [List.map_cons, List.map_cons, hv _ _ h1, fa2_map h2 hv]
theorem regOf_of {vs : List Int} {m : List (Int × Int)} : ∀ {x : Int}, x ∈ vs → regOf (regsOf vs m) x = rgM m x := by
  induction vs with
  | nil => intro x h; cases h
  | cons y vs ih =>
    intro x hx
    show (if y = x then rgM m y else regOf (regsOf vs m) x) = _
    by_cases hyx : y = x
    · rw [if_pos hyx, hyx]
    · rw [if_neg hyx]
      rcases List.mem_cons.1 hx with h | h
      · exact absurd h.symm hyx
      · exact ih h
theorem regsOf_v (vs : List Int) (m : List (Int × Int)) : (regsOf vs m).map Rg.v = vs := by
  unfold regsOf
  rw [List.map_map]
  exact List.map_id _
/-- all of it -/
theorem colour_ok {g : Grs} {f : Gr} {B : Nat → List Int} (h : GOkB g f B) {ss : List (Option (Nat × List Int))} (hF : ∀ n, FixAt f ss n) (hsl : ss.length = f.bs.l.length) {pl : List Pl} {s1 : Nat × List (Int × Int)} (hpl : FA2 (IsAt f ss) (slots f f.bs.l.length) pl) (hg : goes atC (2, m01) pl = some s1) :
    s1.1 = prs f ss (slots f f.bs.l.length) ∧ RightP f (regsOf (srt (varsL f.bs.l)) s1.2) ∧ ∀ r ∈ regsOf (srt (varsL f.bs.l)) s1.2, r.r < s1.1 := by
  obtain ⟨hc, hbs⟩ := chain_all h hF hsl _ (Nat.le_refl _) hpl
  obtain ⟨g1, g2, g3, g4⟩ := greedy hc (⟨Nat.le_refl _, rfl, rfl, fun x hx => absurd hx List.not_mem_nil⟩ : StOk [] (2, m01)) hg
  have hev : evs f f.bs.l.length = f.bs.l.flatMap bvs := by unfold evs; rw [List.take_length]
  rw [List.nil_append, hbs, hev] at g1
  have hz : rgM s1.2 0 = 0 := by unfold rgM; rw [g1.z]; rfl
  have ho : rgM s1.2 1 = 1 := by unfold rgM; rw [g1.o]; rfl
  have hrange : ∀ x ∈ varsL f.bs.l, 0 ≤ rgM s1.2 x ∧ rgM s1.2 x < s1.1 := fun x hx => by
    rw [bvs_eq] at hx
    have h2 := g1.two
    rcases List.mem_append.1 hx with hx | hx
    · simp only [List.mem_cons, List.not_mem_nil, or_false] at hx
      rcases hx with rfl | rfl
      · rw [hz]; omega
      · rw [ho]; omega
    · exact (g1.all x hx).2
  have hall : AllOk f s1.2 := allOk_of h hF hsl hz ho fun sl hs => by
    obtain ⟨p, hp, hi⟩ := fa2_mem hpl hs
    exact ⟨p, hi, g3 p hp⟩
  have hm1 : ∀ x ∈ varsL f.bs.l, rgM s1.2 x = regOf (regsOf (srt (varsL f.bs.l)) s1.2) x := fun x hx => (regOf_of (mem_srt.2 hx)).symm
  have hnd : ((regsOf (srt (varsL f.bs.l)) s1.2).map Rg.v).Nodup := by
    rw [regsOf_v]
    exact (srt_perm _).nodup_iff.2 (vars_nodup h)
  have hm2 : ∀ x ∈ varsL f.bs.l, rgM (mkM (regsOf (srt (varsL f.bs.l)) s1.2)) x = regOf (regsOf (srt (varsL f.bs.l)) s1.2) x := fun x hx => by
    rw [mkM_eq _ hnd]
    exact rgM_reg (by rw [regsOf_v]; exact mem_srt.2 hx)
  refine ⟨?_, ⟨fun r hr => ?_, ?_, ?_, ?_, ?_, ?_⟩, fun r hr => ?_⟩
  · rw [g4, fa2_map hpl (u := cnt f ss) fun sl p hp => cnt_eq h hF hsl hp]
    rfl
  · obtain ⟨x, hx, rfl⟩ := List.mem_map.1 hr
    exact (hrange x (mem_srt.1 hx)).1
  · rw [regsOf_v]
    exact sorted_uniq (srt_sorted _) (srt_sorted _) (srt_perm _)
  · rw [mkM_eq _ hnd, List.length_map]
  · rw [hm2 0 (mem01 f).1, ← hm1 0 (mem01 f).1]; exact hz
  · rw [hm2 1 (mem01 f).2, ← hm1 1 (mem01 f).2]; exact ho
  · exact (all_okS h hF hsl hm2).2 ((all_okS h hF hsl hm1).1 hall)
  · obtain ⟨x, hx, rfl⟩ := List.mem_map.1 hr
    exact (hrange x (mem_srt.1 hx)).2
end Go.Proofs.Ytjfanjcoppeeaaa
namespace Go.Fw
open Go Go.RowKit
theorem rt1c {P : Program} {N : Nat} {l : List (Nat × Value)} {a : Act} {w : World} {C : World → Prop} {fn : Func} {R : Value → World → Prop} {p : Tmp} {ty sz by_ : Nat} {z : Value} {zs : List Value} {fl : List (Nat × Nat)} {q : Addr} {vs : List Value} {e : Exit} [h0 : TSt P ty fl] [hi : TIf P ty z zs sz by_] (he : e = .ret ∨ e = .normal) (hr : fn.results = #[.cell p ty]) (hA : Sl N l a)
    (hp : lk l p = some (.pointer (some q))) (hl : vs.length = sz) (hC : C w) (hc : Cls C q vs) (h : R (.agg vs.toArray) w) : bodyPost P fn (fun e w' => ∃ v, e = .returned v ∧ R v w') e a w := by
  have hg : a.tmps.getD p undef = .pointer (some q) := by simp [Array.getD_eq_getD_getElem?, hA.get p _ hp]
  obtain ⟨ti, h3, h4, h5, h6⟩ := hi.eq
  have hrun : (results fn a.tmps).run P w = .ok (.agg vs.toArray) w := by
    have e1 : (results fn a.tmps).run P w = ((asAddr (a.tmps.getD p undef)).run P w).andThen fun b w₁ => (loadVar ty b).run P w₁ := by
      simp only [results, hr]
      simp [Sem.run_bind, Result.andThen]
    rw [e1, hg]
    simp [asAddr, loadVar, run_isAgg_st, sizeOf, typeInfo, h3, h5, ← hl, run_loadCells_list w q vs (hc w hC), Result.andThen]
  rcases he with rfl | rfl
  · exact bodyPost_ret hrun hA.defers ⟨_, rfl, h⟩
  · exact bodyPost_end hrun hA.defers ⟨_, rfl, h⟩
end Go.Fw
namespace Go.Proofs.Ytjfanjcoppeeaaa
open Go Go.Fw
set_option linter.unusedVariables false
theorem gr_at {l : List Gr} {k : Nat} (h : k < l.length) : l[k]? = some (l.getD k gr00) := by
  rw [List.getD_eq_getElem?_getD, List.getElem?_eq_getElem h]
  rfl
set_option maxRecDepth 10000 attribute [local irreducible] Code.wp wpList Calls Ex Op1 sat bat blk cb own Go.Fw.mp Go.Fw.mpO Go.Fw.mpI Go.Fw.mpE Go.Fw.itr HS Rd Ret wkD Hp Cl Cls Exit.then Exit.inBlock Exit.noGoto bodyPost Go.Fw.flat wk2 Go.Fw.all Go.Fw.owns wpOp
attribute [local irreducible] sk mpK srt sko mvO entK geS GOk

set_option maxHeartbeats 4000000 in
theorem v_spec (w0 : World) (n : Int) : Ret Try.prog 16 #[.int .i64 n] w0 (fun v w => v = .agg #[.int .i64 1, .int .i64 n] ∧ Kp w0 noM w) := by
  have hH : HS w0 noM [] w0 := HS.init w0 noM
  (refine enter (N := 5) Try.func16 rfl Try.ntmps16 rfl ?_; intro a hA; dsimp only [sl0, Nat.reduceAdd] at hA)
  repeat' (first | (first | (refine GT ?_ ?_ <;> intro hg <;> clear hA a <;> intro a hA <;> (first | exact FA | replace hg := of_decide_eq_true hg | replace hg := of_decide_eq_false hg | skip)) | (refine QT ?_; clear hA a; intro a hA) | (first | (refine BT ?_; clear hA hH; rintro _ w ⟨bN, rfl, hH⟩ a hA) | (refine LT ?_; clear hA hH; rintro _ w ⟨oN, rfl, hH⟩ a hA) | (refine AT ?_; clear hA; rintro _ w ⟨oN, cN, rfl, hH2⟩ a hA; clear hH; have hH := (hH2 _ (by (repeat constructor))).tail; clear hH2) | (refine S0T ?_; clear hH; rintro _ w hH) | (apply st_op0 hA rfl rfl; apply op_store_agg (vs := [.int .i64 1, .int .i64 n]); rfl; rfl; exact hH; (repeat constructor); (repeat rfl); clear hH; rintro _ w hH))) | ((first | refine CT ?_ | (refine DT ?_ ?_ <;> intro hc <;> try (exfalso; omega))) <;> repeat' refine CT ?_) | (first | (refine DSK ?_; clear hA a; intro a hA) | (first | (refine DLT ?_; clear hA hH; rintro _ w ⟨oN, rfl, hH⟩; refine ⟨STT, ?_⟩; intro a hA) | (refine DAT ?_; clear hA; rintro _ w ⟨oN, cN, rfl, hH2⟩; clear hH; have hH := (hH2 _ (by (repeat constructor))).tail; clear hH2; refine ⟨STT, ?_⟩; intro a hA))) )
  exact rt1c (vs := [.int .i64 1, .int .i64 n]) (.inl rfl) rfl hA rfl rfl hH (cls_cb_all (by exact MEMT)) ⟨rfl, hH.kp⟩
set_option maxHeartbeats 4000000 in
theorem fits_spec (w0 : World) (g : Grs) (k : Int) (hR : RdGs w0 g) (hbs : ∀ f ∈ g.fs.l, f.bs.l.length ≤ 1048576 ∧ ∀ bl ∈ f.bs.l, bl.e.to.l.length ≤ 1048576) :
    Ret Try.prog 9 #[.agg (encGs g).toArray, .int .i64 k] w0 (fun v w => ∃ f b, v = .tuple #[.agg (encG f).toArray, .bool b] ∧ Kp w0 noM w ∧ (b = true → f ∈ g.fs.l ∧ GOk g f)) := by
  have hH : HS w0 noM [] w0 := HS.init w0 noM
  have hle := hR.1.le
  have hspF : Sp g.fs.o g.fs.l.length := hR.1.1.sp (sz := 2) (flat_length encG_len _) (by omega)
  (refine enter (N := 37) Try.func9 rfl Try.ntmps9 rfl ?_; intro a hA; dsimp only [sl0, Nat.reduceAdd] at hA)
  repeat' (first | (first | (refine GT ?_ ?_ <;> intro hg <;> clear hA a <;> intro a hA <;> (first | exact FA | replace hg := of_decide_eq_true hg | replace hg := of_decide_eq_false hg | skip)) | ((first | apply st_ex hA hH rfl rfl (by decide) | apply dr_ex hA rfl rfl rfl (by decide) | apply dr_exp hA rfl rfl rfl (by decide) | apply dr_ex3 hA hH rfl rfl rfl (by decide)); (first | (apply ex_build_p (cs := (encG gr00).toArray); rfl; (repeat (first | (intro _ h; exact absurd h (List.not_mem_nil)) | (refine List.forall_mem_cons.2 ⟨one_cell_of _ _, ?_⟩))); rfl) | (apply ex_load_st (vs := encG (g.fs.l.getD k.toNat gr00)); rfl; rfl; refine cls_rd hR.1.1 id (flat_all encG_len (gr_at ?_)); omega)); clear hA a; intro a hA) | (refine QT ?_; clear hA a; intro a hA) | (first | (refine BT ?_; clear hA hH; rintro _ w ⟨bN, rfl, hH⟩ a hA) | (refine LT ?_; clear hA hH; rintro _ w ⟨oN, rfl, hH⟩ a hA) | (refine AT ?_; clear hA; rintro _ w ⟨oN, cN, rfl, hH2⟩ a hA; clear hH; have hH := (hH2 _ (by (repeat constructor))).tail; clear hH2) | (refine S0T ?_; clear hH; rintro _ w hH) | (apply st_op0 hA rfl rfl; apply op_store_agg (vs := encG gr00); rfl; rfl; exact hH; (repeat constructor); (repeat rfl); clear hH; rintro _ w hH) | (apply st_op0 hA rfl rfl; apply op_store_agg (vs := encG (g.fs.l.getD k.toNat gr00)); rfl; rfl; exact hH; (repeat constructor); (repeat rfl); clear hH; rintro _ w hH) | (refine st_op hA rfl rfl (by decide) (op_call rfl rfl rfl (Parts_spec _ g _ (hR.keep hH.kp))) ?_; clear hA; rintro _ w ⟨n, rfl, hk⟩ a hA; replace hH := hH.keep hk; clear hk) | (refine st_op hA rfl rfl (by decide) (op_call rfl rfl rfl (May_spec _ g (hR.keep hH.kp) (by omega) hbs)) ?_; clear hA; rintro _ w ⟨b, rfl, hk, hb⟩ a hA; replace hH := hH.keep hk; clear hk))) | ((first | refine CT ?_ | (refine DT ?_ ?_ <;> intro hc <;> try (exfalso; omega))) <;> repeat' refine CT ?_) | (first | (refine DSK ?_; clear hA a; intro a hA) | (first | (refine DLT ?_; clear hA hH; rintro _ w ⟨oN, rfl, hH⟩; refine ⟨STT, ?_⟩; intro a hA) | (refine DAT ?_; clear hA; rintro _ w ⟨oN, cN, rfl, hH2⟩; clear hH; have hH := (hH2 _ (by (repeat constructor))).tail; clear hH2; refine ⟨STT, ?_⟩; intro a hA))) )
  all_goals first
    | exact rt2c (vs := encG gr00) (.inl rfl) rfl hA rfl rfl rfl hH (cls_cb_all (by exact MEMT)) ⟨_, _, rfl, hH.kp, fun h => by cases h⟩
    | skip
  have hbt : b = true := by
    have : (!b) = false := by assumption
    cases b <;> first | rfl | cases this
  have hk1 : k.toNat < g.fs.l.length := by omega
  have hm : g.fs.l.getD k.toNat gr00 ∈ g.fs.l := List.mem_of_getElem? (gr_at hk1)
  have hgo := hb hbt _ hm
  exact rt2c (vs := encG (g.fs.l.getD k.toNat gr00)) (.inl rfl) rfl hA rfl rfl rfl hH (cls_cb_all (by exact MEMT)) ⟨_, _, rfl, hH.kp, fun _ => ⟨hm, hgo⟩⟩
end Go.Proofs.Ytjfanjcoppeeaaa
namespace Go.Proofs.Ytjfanjcoppeeaaa
open Go Go.Fw
set_option linter.unusedVariables false
def ins00 (oA : Option Addr) : Ins := ⟨2, ⟨2, 1, nilV, ⟨oA, 2, [⟨1, 1⟩, ⟨1, 1⟩]⟩⟩⟩
def blk00 (oI oA oE : Option Addr) : Blc := ⟨nilV, ⟨oI, 1, [ins00 oA]⟩, ⟨4, nilV, nilV, ⟨oE, 1, [⟨1, nilV⟩]⟩⟩⟩
def blk01 (oR : Option Addr) : Blc := ⟨nilV, nilV, ⟨1, ⟨oR, 1, [⟨1, 2⟩]⟩, nilV, nilV⟩⟩
def grA (oB oI oA oE oR : Option Addr) : Gr := ⟨0, ⟨oB, 2, [blk00 oI oA oE, blk01 oR]⟩⟩
def grs0 : Grs := ⟨nilV, nilV, nilV, nilV, nilV⟩
def BA (n : Nat) : List Int := if n = 1 then [2] else []
section
variable {oB oI oA oE oR : Option Addr}
theorem grA_at {n : Nat} {bl : Blc} (h : (grA oB oI oA oE oR).bs.l[n]? = some bl) : (n = 0 ∧ bl = blk00 oI oA oE) ∨ (n = 1 ∧ bl = blk01 oR) := by
  match n, h with
  | 0, h => cases h; exact .inl ⟨rfl, rfl⟩
  | 1, h => cases h; exact .inr ⟨rfl, rfl⟩
  | n + 2, h => cases h
theorem grA_ok : GOkB grs0 (grA oB oI oA oE oR) BA := by
  refine ⟨(show 0 < 2 by decide), rfl, fun n bl hb => ?_, ?_, fun n bl hb t ht x hx => ?_, fun n hn x hx => ?_, fun n h0 hn => ?_, by show 2 * 2 + 1 ≤ 65536; decide⟩
  · rcases grA_at hb with ⟨rfl, rfl⟩ | ⟨rfl, rfl⟩
    · refine ⟨fun _ => rfl, fun i x hi a ha => ?_, fun a ha => absurd ha List.not_mem_nil, fun t ht => ?_⟩
      · match i, hi with
        | 0, hi =>
          cases hi
          have ha2 : a = ⟨1, 1⟩ := by
            have : a ∈ [(⟨1, 1⟩ : Atm), ⟨1, 1⟩] := ha
            simpa using this
          subst ha2
          exact .inl ⟨rfl, by decide, by decide, .inl (by decide)⟩
        | i + 1, hi => cases hi
      · have ht2 : t = ⟨1, nilV⟩ := by
          have : t ∈ [(⟨1, nilV⟩ : Edg)] := ht
          simpa using this
        subst ht2
        exact ⟨by decide, by show (1 : Int) < ((2 : Nat) : Int); decide, fun a ha => absurd ha List.not_mem_nil⟩
    · refine ⟨fun h => absurd h (by decide), fun i x hi a ha => (by cases hi), fun a ha => ?_, fun t ht => absurd ht List.not_mem_nil⟩
      have ha2 : a = ⟨1, 2⟩ := by
        have : a ∈ [(⟨1, 2⟩ : Atm)] := ha
        simpa using this
      subst ha2
      exact .inl ⟨rfl, by decide, by decide, .inr (.inl (by show (2 : Int) ∈ [2]; exact .head _))⟩
  · show EvOk [2]
    exact ⟨by simp, fun x hx => by rw [List.mem_singleton] at hx; subst hx; decide⟩
  · rcases grA_at hb with ⟨rfl, rfl⟩ | ⟨rfl, rfl⟩
    · have ht2 : t = ⟨1, nilV⟩ := by
        have : t ∈ [(⟨1, nilV⟩ : Edg)] := ht
        simpa using this
      subst ht2
      have hx2 : x ∈ [(2 : Int)] := hx
      rw [List.mem_singleton] at hx2
      subst hx2
      exact .inr (.inr (.head _))
    · exact absurd ht List.not_mem_nil
  · match n, hn with
    | 0, _ => exact absurd hx List.not_mem_nil
    | 1, _ =>
      show x ∈ [(2 : Int)]
      exact hx
    | n + 2, hn => exact absurd hn (by show ¬ n + 2 < 2; omega)
  · match n, hn with
    | 0, _ => omega
    | 1, _ => exact ⟨0, _, by decide, rfl, ⟨1, nilV⟩, .head _, rfl⟩
    | n + 2, hn => exact absurd hn (by show ¬ n + 2 < 2; omega)
theorem uses1 (n x : Int) (l : List Atm) : uses (⟨1, n⟩ :: l) x = true ↔ n = x ∨ uses l x = true := by
  unfold uses
  rw [List.any_cons, Bool.or_eq_true]
  simp
theorem uses0 (x : Int) : uses [] x = true ↔ False := by simp [uses]
variable {ss : List (Option (Nat × List Int))}
theorem grA_1 (hF : ∀ n, FixAt (grA oB oI oA oE oR) ss n) (x : Int) : x ∈ setAt ss 1 ↔ x = 2 := by
  rw [hF 1 _ rfl x]
  show (uses [⟨1, 2⟩] x = true ∨ ∃ t ∈ ([] : List Edg), edgeP ss t x) ∧ x ∉ ([] : List Int) ↔ _
  rw [uses1, uses0]
  constructor
  · rintro ⟨(h | h) | ⟨t, ht, _⟩, _⟩
    · exact h.symm
    · exact h.elim
    · exact absurd ht List.not_mem_nil
  · intro h
    exact ⟨.inl (.inl h.symm), List.not_mem_nil⟩
theorem grA_last (hF : ∀ n, FixAt (grA oB oI oA oE oR) ss n) (hsl : ss.length = 2) (x : Int) : lastP (blk00 oI oA oE).e ss x ↔ x = 2 := by
  have h1 : ss[1]? = some ss[1] := List.getElem?_eq_getElem (by omega)
  have h2 := grA_1 hF x
  unfold setAt at h2
  rw [h1] at h2
  show (uses [] x = true ∨ ∃ t ∈ [(⟨1, nilV⟩ : Edg)], uses t.a.l x = true ∨ 0 ≤ t.b ∧ ∃ s, ss[t.b.toNat]? = some s ∧ x ∈ kso s) ↔ _
  rw [← h2]
  constructor
  · rintro (h | ⟨t, ht, h⟩)
    · exact ((uses0 x).1 h).elim
    · rw [List.mem_singleton] at ht
      subst ht
      rcases h with h | ⟨_, s, hs, hx⟩
      · exact ((uses0 x).1 h).elim
      · have hs2 : ss[1]? = some s := hs
        rw [h1] at hs2
        cases hs2
        exact hx
  · intro h
    exact .inr ⟨_, .head _, .inr ⟨by decide, _, h1, h⟩⟩
theorem grA_0 (hF : ∀ n, FixAt (grA oB oI oA oE oR) ss n) (hsl : ss.length = 2) (x : Int) : x ∈ setAt ss 0 ↔ x = 1 := by
  rw [hF 0 _ rfl x]
  show ((uses [⟨1, 1⟩, ⟨1, 1⟩] x = true ∨ (2 : Int) = 5 ∧ x = 0) ∨ (lastP (blk00 oI oA oE).e ss x ∧ x ≠ 2)) ∧ x ∉ ([] : List Int) ↔ _
  rw [uses1, uses1, uses0, grA_last hF hsl]
  constructor
  · rintro ⟨((h | h | h) | ⟨h, _⟩) | ⟨h1, h2⟩, _⟩
    · exact h.symm
    · exact h.symm
    · exact h.elim
    · exact absurd h (by decide)
    · exact absurd h1 h2
  · intro h
    exact ⟨.inl (.inl (.inl h.symm)), List.not_mem_nil⟩
theorem one_list {l : List Int} {a : Int} (hn : l.Nodup) (h : ∀ x, x ∈ l ↔ x = a) : l = [a] := by
  match l, hn, h with
  | [], _, h => exact absurd ((h a).2 rfl) List.not_mem_nil
  | [b], _, h => rw [(h b).1 (.head _)]
  | b :: c :: l, hn, h =>
    have h1 := (h b).1 (.head _)
    have h2 := (h c).1 (.tail _ (.head _))
    rw [List.nodup_cons] at hn
    exact absurd (h1.trans h2.symm ▸ .head _) hn.1
theorem nil_list {l : List Int} (h : ∀ x, x ∉ l) : l = [] := List.eq_nil_iff_forall_not_mem.2 h
theorem grA_prs (hF : ∀ n, FixAt (grA oB oI oA oE oR) ss n) (hsl : ss.length = 2) : prs (grA oB oI oA oE oR) ss (slots (grA oB oI oA oE oR) (grA oB oI oA oE oR).bs.l.length) = 2 := by
  have h := grA_ok (oB := oB) (oI := oI) (oA := oA) (oE := oE) (oR := oR)
  have e0 : intoF (grA oB oI oA oE oR) ss 0 (vrs (grA oB oI oA oE oR)) = [1] := one_list (List.Nodup.sublist List.filter_sublist (vrs_nodup h)) fun x => (mem_into h hF hsl (show 0 < 2 by decide)).trans (grA_0 hF hsl x)
  have e1 : intoF (grA oB oI oA oE oR) ss 1 (vrs (grA oB oI oA oE oR)) = [2] := one_list (List.Nodup.sublist List.filter_sublist (vrs_nodup h)) fun x => (mem_into h hF hsl (show 1 < 2 by decide)).trans (grA_1 hF x)
  have e2 : bhF (grA oB oI oA oE oR) ss (blk00 oI oA oE) 0 = [] := nil_list fun x hx => by
    have h1 := (mem_bh h hF hsl (n := 0) (i := 0) (bl := blk00 oI oA oE) (ins := ins00 oA) rfl rfl).1 hx
    exact h1.1 ((grA_last hF hsl x).1 h1.2)
  have hs : slots (grA oB oI oA oE oR) (grA oB oI oA oE oR).bs.l.length = [(0, none), (0, some 0), (1, none)] := rfl
  have c0 : cnt (grA oB oI oA oE oR) ss (0, none) = 1 := by rw [cnt_n (bl := blk00 oI oA oE) rfl, e0]; rfl
  have c1 : cnt (grA oB oI oA oE oR) ss (0, some 0) = 1 := by rw [cnt_i (bl := blk00 oI oA oE) rfl, e2]; rfl
  have c2 : cnt (grA oB oI oA oE oR) ss (1, none) = 1 := by rw [cnt_n (bl := blk01 oR) rfl, e1]; rfl
  rw [hs]
  unfold prs
  simp only [List.map_cons, List.map_nil, c0, c1, c2]
  rfl
theorem grA_vars : varsL (grA oB oI oA oE oR).bs.l = [0, 1, 2] := rfl
theorem grA_nil : ¬ RightP (grA oB oI oA oE oR) [] := fun h => by
  have h2 := congrArg List.length h.2.1
  rw [srt_len, srt_len, grA_vars] at h2
  cases h2
end
end Go.Proofs.Ytjfanjcoppeeaaa
