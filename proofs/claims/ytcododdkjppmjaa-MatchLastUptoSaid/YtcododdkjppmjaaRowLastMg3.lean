/-
  The walk over a condition made plain (the program's). Conditions: none.
  The walk over a row made plain (the program's). Conditions: none.
  Rows of a match: what is left of them where something is known; what stays true of rows (plain). Conditions: none.
  The walk over the rows that are left where something is known (the program's). Conditions: none.
  Decision trees, plain and as they lie in memory (plain). Conditions: none.
-/
import Derived.Test.YtcododdkjppmjaaRowLastMg2
namespace Go.Fw
open Go Go.RowKit
theorem HS.er {w0 w : World} {M : Nat → Prop} : ∀ {H : List It} (i : Nat), HS w0 M H w → HS w0 M (H.eraseIdx i) w
  | H, i, h => by
    by_cases hi : i < H.length
    · exact (h.perm (perm_pick0 i (List.getElem?_eq_getElem hi))).tail
    · rw [List.eraseIdx_of_length_le (by omega)]; exact h
theorem HS.frz_w {w0 w : World} {H : List It} {K : World → Prop} (h : HS w0 noM H w) (hm : Go.Fw.frz w0 K ∈ H) {p : World → Prop} (hp : ∀ w, K w → p w) : p w := hp w (h.frz hm)
theorem HS.pk {w0 w : World} {M : Nat → Prop} {H : List It} {x : It} (h : HS w0 M H w) (i : Nat) (hi : H[i]? = some x) : HS w0 M (x :: H.eraseIdx i) w := h.perm (perm_pick0 i hi)
end Go.Fw
namespace Go.Proofs.Ytcododdkjppmjaa
open Go Go.Fw
set_option linter.unusedVariables false
theorem plP_0 {p : AP} (q : Pth) (h : p.k = 1 ∨ p.k = 6) : plP q p = ([], []) := by
  cases p with
  | mk k v n s ol cl ls oa ca ps =>
    have hk : k = 1 ∨ k = 6 := h
    rw [plP, if_pos hk]
theorem plP_v {p : AP} (q : Pth) (h : p.k = 2) : plP q p = ([], [(p.v, q)]) := by
  cases p with
  | mk k v n s ol cl ls oa ca ps =>
    have hk : k = 2 := h
    rw [plP, if_neg (by omega), if_pos hk]; rfl
theorem plP_r {p : AP} (q : Pth) (h : p.k = 9) : plP q p = plL q p.ls p.ps := by
  cases p with
  | mk k v n s ol cl ls oa ca ps =>
    have hk : k = 9 := h
    rw [plP, if_neg (by omega), if_neg (by omega), if_pos hk]; rfl
theorem plP_c {p : AP} (q : Pth) (h1 : p.k ≠ 1) (h2 : p.k ≠ 6) (h3 : p.k ≠ 2) (h4 : p.k ≠ 9) : plP q p = ([(q, p)], []) := by
  cases p with
  | mk k v n s ol cl ls oa ca ps =>
    have g1 : k ≠ 1 := h1
    have g2 : k ≠ 6 := h2
    have g3 : k ≠ 2 := h3
    have g4 : k ≠ 9 := h4
    rw [plP, if_neg (by omega), if_neg (by omega), if_neg (by omega)]
theorem plL_snoc : ∀ (q : Pth) (ls : List ByteArray) (ps : List AP) (x : ByteArray) (p : AP), ls.length = ps.length → plL q (ls ++ [x]) (ps ++ [p]) = ((plL q ls ps).1 ++ (plP (q ++ [x]) p).1, (plL q ls ps).2 ++ (plP (q ++ [x]) p).2)
  | q, [], [], x, p, _ => by
    show plL q [x] [p] = ((plL q [] []).1 ++ _, (plL q [] []).2 ++ _)
    rw [plL, plL]; simp
  | q, y :: ls, b :: ps, x, p, h => by
    show plL q (y :: (ls ++ [x])) (b :: (ps ++ [p])) = _
    rw [plL, plL_snoc q ls ps x p (by simpa using h), plL]
    simp
  | q, [], _ :: _, _, _, h => by simp at h
  | q, _ :: _, [], _, _, h => by simp at h
theorem form_k {p : AP} (h : formP p = true) : (p.k = 8 → p.ps.length = 1) ∧ (p.k = 9 → p.ps.length = p.ls.length) ∧ ∀ a ∈ p.ps, formP a = true := by
  rw [formP_eq, Bool.and_eq_true, Bool.and_eq_true, formL_all] at h
  have h1 := shape_of (of_decide_eq_true h.1.1)
  exact ⟨h1.2.2.1, h1.2.2.2.1, fun a ha => List.all_eq_true.1 h.2 a ha⟩
theorem szL_take {ps : List AP} {i : Nat} {x : AP} (h : ps[i]? = some x) : szL (ps.take i) + szA x ≤ szL ps := by
  induction ps generalizing i with
  | nil => simp at h
  | cons b ps ih =>
    cases i with
    | zero =>
      simp at h
      subst h
      rw [List.take_zero, szL, szL]; omega
    | succ i =>
      rw [List.take_succ_cons, szL, szL]
      have := ih (by simpa using h)
      omega
theorem encB_mk (v : Int) (o : Option Addr) (c : Nat) (q : Pth) : encB ⟨v, o, c, q⟩ = [.int .i64 v, .slice o q.length c] := rfl
set_option maxRecDepth 10000 attribute [local irreducible] Code.wp wpList Calls Ex Op1 sat bat blk cb own Go.Fw.mp Go.Fw.mpO Go.Fw.mpI Go.Fw.mpE Go.Fw.itr HS Rd Ret wkD Hp Cl Cls Exit.then Exit.inBlock Exit.noGoto bodyPost Go.Fw.flat wk2 Go.Fw.all Go.Fw.owns wpOp
attribute [local irreducible] encA encC encB formP formL partsP partsL plP plL szA szL

set_option maxHeartbeats 8000000 in
theorem go1_spec : ∀ (z : Nat) (m : MC), SizeOf.sizeOf m.p < z → ∀ (w0 w : World) (H : List It) (K : World → Prop) (bO bG : Nat) (n : Int) (oc ob : Option Addr) (cx bx : Nat) (cs : List MC) (bs : List MB),
    HS w0 noM (cb bO 52 [.int .i64 n, .slice oc cs.length cx, .slice ob bs.length bx] :: own 55 7 oc cs.length cx (flat encC cs) :: own 72 2 ob bs.length bx (flat encB bs) :: cb bG 84 [.func (.func 38) #[] #[.pointer (some (bat bO 0)), .pointer (some (bat bG 0))]] :: frz w0 K :: H) w → (∀ w, K w → RdC w m) → formP m.p = true → m.q.length + szA m.p ≤ 1000 → cs.length + bs.length + szA m.p ≤ 1000 →
    Ret Try.prog 38 #[.agg #[.slice m.o m.q.length m.c, .int .i64 m.p.k, .int .i64 m.p.v, .int .i64 m.p.n, .string m.p.s, .slice m.p.ol m.p.ls.length m.p.cl, .slice m.p.oa m.p.ps.length m.p.ca], .pointer (some (bat bO 0)), .pointer (some (bat bG 0))] w (fun v w' => ∃ (K' : World → Prop) (oc' ob' : Option Addr) (cx' bx' : Nat) (nc : List MC) (nb : List MB),
      (∀ w, K' w → K w ∧ (∀ c ∈ nc, RdC w c) ∧ ∀ b ∈ nb, RdB w b) ∧ nc.map MC.un = (plP m.q m.p).1 ∧ nb.map MB.un = (plP m.q m.p).2 ∧ HS w0 noM (cb bO 52 [.int .i64 n, .slice oc' (cs ++ nc).length cx', .slice ob' (bs ++ nb).length bx'] :: own 55 7 oc' (cs ++ nc).length cx' (flat encC (cs ++ nc)) :: own 72 2 ob' (bs ++ nb).length bx' (flat encB (bs ++ nb)) :: cb bG 84 [.func (.func 38) #[] #[.pointer (some (bat bO 0)), .pointer (some (bat bG 0))]] :: frz w0 K' :: H) w')
  | 0, p, hz, _, _, _, _, _, _, _, _, _, _, _, _, _, _, _, _, _, _ => absurd hz (Nat.not_lt_zero _)
  | z + 1, m, hz, w0, w, H, K, bO, bG, n, oc, ob, cx, bx, cs, bs, hH, hR, hf, hq, hs => by
    have hK0 := hH.frz_w (.tail _ (.tail _ (.tail _ (.tail _ (.head _))))) hR
    have hle := hK0.1.2
    have hlp := hK0.2.c
    unfold maxLen at hlp
    have hspA : Sp m.p.oa m.p.ps.length := hK0.2.a.sp (sz := 6) (flat_length encA_len m.p.ps) (by omega)
    have hspL : Sp m.p.ol m.p.ls.length := hK0.2.l.sp (sz := 1) (flat_length encX_len m.p.ls) (by omega)
    clear hK0
    have hfk := form_k hf
    have hnil : ∀ {x : MC}, x ∈ ([] : List MC) → False := fun h => absurd h List.not_mem_nil
    have hszp := szA_eq m.p
    (refine enter (N := 56) Try.func38 rfl Try.ntmps38 rfl ?_; intro a hA; dsimp only [sl0, Nat.reduceAdd] at hA)
    have end0 : ∀ (w : World), (m.p.k = 1 ∨ m.p.k = 6) → HS w0 noM (cb bO 52 [.int .i64 n, .slice oc cs.length cx, .slice ob bs.length bx] :: own 55 7 oc cs.length cx (flat encC cs) :: own 72 2 ob bs.length bx (flat encB bs) :: cb bG 84 [.func (.func 38) #[] #[.pointer (some (bat bO 0)), .pointer (some (bat bG 0))]] :: frz w0 K :: H) w → ∃ (K' : World → Prop) (oc' ob' : Option Addr) (cx' bx' : Nat) (nc : List MC) (nb : List MB),
      (∀ w, K' w → K w ∧ (∀ c ∈ nc, RdC w c) ∧ ∀ b ∈ nb, RdB w b) ∧ nc.map MC.un = (plP m.q m.p).1 ∧ nb.map MB.un = (plP m.q m.p).2 ∧ HS w0 noM (cb bO 52 [.int .i64 n, .slice oc' (cs ++ nc).length cx', .slice ob' (bs ++ nb).length bx'] :: own 55 7 oc' (cs ++ nc).length cx' (flat encC (cs ++ nc)) :: own 72 2 ob' (bs ++ nb).length bx' (flat encB (bs ++ nb)) :: cb bG 84 [.func (.func 38) #[] #[.pointer (some (bat bO 0)), .pointer (some (bat bG 0))]] :: frz w0 K' :: H) w := fun w h hH =>
      ⟨K, oc, ob, cx, bx, [], [], fun w hK => ⟨hK, fun c h => absurd h List.not_mem_nil, fun c h => absurd h List.not_mem_nil⟩, by rw [plP_0 m.q h]; rfl, by rw [plP_0 m.q h]; rfl, by rw [List.append_nil, List.append_nil]; exact hH⟩
    repeat' (first | (first | (refine GT ?_ ?_ <;> intro hg <;> clear hA a <;> intro a hA <;> (first | exact FA | replace hg := of_decide_eq_true hg | replace hg := of_decide_eq_false hg | skip)) | (refine QT ?_; clear hA a; intro a hA) | (first | (refine BT ?_; clear hA hH; rintro _ w ⟨bN, rfl, hH⟩ a hA) | (refine LT ?_; clear hA hH; rintro _ w ⟨oN, rfl, hH⟩ a hA) | (refine AT ?_; clear hA; rintro _ w ⟨oN, cN, rfl, hH2⟩ a hA; clear hH; have hH := (hH2 _ (by (repeat constructor))).tail; clear hH2) | (refine S0T ?_; clear hH; rintro _ w hH) )) | ((first | refine CT ?_ | (refine DT ?_ ?_ <;> intro hc <;> try (exfalso; omega))) <;> repeat' refine CT ?_) | (first | (refine DSK ?_; clear hA a; intro a hA) | (first | (refine DLT ?_; clear hA hH; rintro _ w ⟨oN, rfl, hH⟩; refine ⟨STT, ?_⟩; intro a hA) | (refine DAT ?_; clear hA; rintro _ w ⟨oN, cN, rfl, hH2⟩; clear hH; have hH := (hH2 _ (by (repeat constructor))).tail; clear hH2; refine ⟨STT, ?_⟩; intro a hA))) )
    all_goals (try (obtain ⟨bP, hbP⟩ : ∃ b, b = bN := ⟨_, rfl⟩; rw [← hbP] at hA hH; clear hbP bN))
    · exact rt0 (.inr rfl) rfl hA (end0 _ (.inl (by assumption)) hH.tail)
    · exact rt0 (.inr rfl) rfl hA (end0 _ (.inr (by assumption)) hH.tail)
    · (apply st_op0 hA rfl rfl; apply op_store_fld (cs' := [.int .i64 n, .slice oc cs.length cx, .slice oN (bs.length + 1) cN]); rfl; rfl; rfl; exact hH; (repeat constructor); clear hH; rintro _ w hH)
      repeat' (first | (first | (refine GT ?_ ?_ <;> intro hg <;> clear hA a <;> intro a hA <;> (first | exact FA | replace hg := of_decide_eq_true hg | replace hg := of_decide_eq_false hg | skip)) | (refine QT ?_; clear hA a; intro a hA) | (first | (refine BT ?_; clear hA hH; rintro _ w ⟨bN, rfl, hH⟩ a hA) | (refine LT ?_; clear hA hH; rintro _ w ⟨oN, rfl, hH⟩ a hA) | (refine AT ?_; clear hA; rintro _ w ⟨oN, cN, rfl, hH2⟩ a hA; clear hH; have hH := (hH2 _ (by (repeat constructor))).tail; clear hH2) | (refine S0T ?_; clear hH; rintro _ w hH) )) | ((first | refine CT ?_ | (refine DT ?_ ?_ <;> intro hc <;> try (exfalso; omega))) <;> repeat' refine CT ?_) | (first | (refine DSK ?_; clear hA a; intro a hA) | (first | (refine DLT ?_; clear hA hH; rintro _ w ⟨oN, rfl, hH⟩; refine ⟨STT, ?_⟩; intro a hA) | (refine DAT ?_; clear hA; rintro _ w ⟨oN, cN, rfl, hH2⟩; clear hH; have hH := (hH2 _ (by (repeat constructor))).tail; clear hH2; refine ⟨STT, ?_⟩; intro a hA))) )
      refine rt0 (.inr rfl) rfl hA ⟨fun w => K w, oc, oN, cx, cN, [], [⟨m.p.v, m.o, m.c, m.q⟩], fun w hK => ⟨hK, fun c h => absurd h List.not_mem_nil, fun b hb => ?_⟩, ?_, ?_, ?_⟩
      · rw [List.mem_singleton] at hb; subst hb; exact (hR w hK).1
      · rw [plP_v m.q (by assumption)]; rfl
      · rw [plP_v m.q (by assumption)]; rfl
      · rw [List.append_nil, flat_snoc, List.length_append]
        rw [encB_mk]; exact hH.tail
    · refine wp_lpk (S := Nat) (fun i a w => ∃ (K' : World → Prop) (oc' ob' : Option Addr) (cx' bx' : Nat) (nc : List MC) (nb : List MB), (i ≤ m.p.ps.length ∧ (∀ w, K' w → K w ∧ (∀ c ∈ nc, RdC w c) ∧ ∀ b ∈ nb, RdB w b) ∧ nc.map MC.un = (plL m.q (m.p.ls.take i) (m.p.ps.take i)).1 ∧ nb.map MB.un = (plL m.q (m.p.ls.take i) (m.p.ps.take i)).2) ∧
          HS w0 noM (cb bO 52 [.int .i64 n, .slice oc' (cs ++ nc).length cx', .slice ob' (bs ++ nb).length bx'] :: own 55 7 oc' (cs ++ nc).length cx' (flat encC (cs ++ nc)) :: own 72 2 ob' (bs ++ nb).length bx' (flat encB (bs ++ nb)) :: cb bG 84 [.func (.func 38) #[] #[.pointer (some (bat bO 0)), .pointer (some (bat bG 0))]] :: frz w0 K' :: Go.Fw.cb bP 55 [.slice m.o m.q.length m.c, .int .i64 m.p.k, .int .i64 m.p.v, .int .i64 m.p.n, .string m.p.s, .slice m.p.ol m.p.ls.length m.p.cl, .slice m.p.oa m.p.ps.length m.p.ca] :: H) w ∧ Sl 56 [(1, .pointer (some (bat bO 0))), (2, .pointer (some (bat bG 0))), (3, .pointer (some (bat bP 0))), (35, .slice m.p.oa m.p.ps.length m.p.ca), (36, .int .i64 m.p.ps.length), (37, .int .i64 i)] a)
        (fun i => m.p.ps.length - i)
        (fun a w => (∃ (K' : World → Prop) (oc' ob' : Option Addr) (cx' bx' : Nat) (nc : List MC) (nb : List MB),
          (∀ w, K' w → K w ∧ (∀ c ∈ nc, RdC w c) ∧ ∀ b ∈ nb, RdB w b) ∧ nc.map MC.un = (plP m.q m.p).1 ∧ nb.map MB.un = (plP m.q m.p).2 ∧ HS w0 noM (cb bO 52 [.int .i64 n, .slice oc' (cs ++ nc).length cx', .slice ob' (bs ++ nb).length bx'] :: own 55 7 oc' (cs ++ nc).length cx' (flat encC (cs ++ nc)) :: own 72 2 ob' (bs ++ nb).length bx' (flat encB (bs ++ nb)) :: cb bG 84 [.func (.func 38) #[] #[.pointer (some (bat bO 0)), .pointer (some (bat bG 0))]] :: frz w0 K' :: H) w) ∧ Sl 56 [] a) 0
        ⟨K, oc, ob, cx, bx, [], [], ⟨Nat.zero_le _, fun w hK => ⟨hK, fun c h => absurd h List.not_mem_nil, fun c h => absurd h List.not_mem_nil⟩, by rw [List.take_zero, List.take_zero, plL]; rfl, by rw [List.take_zero, List.take_zero, plL]; rfl⟩, by rw [List.append_nil, List.append_nil]; exact hH.perm (by (repeat (first | exact List.Perm.refl _ | exact List.Perm.nil | refine perm_pick 0 rfl ?_ | refine perm_pick 1 rfl ?_ | refine perm_pick 2 rfl ?_ | refine perm_pick 3 rfl ?_ | refine perm_pick 4 rfl ?_ | refine perm_pick 5 rfl ?_ | refine perm_pick 6 rfl ?_ | refine perm_pick 7 rfl ?_ | refine perm_pick 8 rfl ?_ | refine perm_pick 9 rfl ?_ | refine perm_pick 10 rfl ?_ | refine perm_pick 11 rfl ?_))), (hA.sub (by (repeat (first | exact trivial | refine ⟨rfl, ?_⟩))))⟩ ?_ ?_
      rotate_left
      · clear hA hH
        rintro a w ⟨hE, hA⟩
        exact inB_normal (rt0 (.inr rfl) rfl hA hE)
      clear hA hH
      rintro i a w ⟨K', oc', ob', cx', bx', nc, nb, ⟨hi, hK', hnc, hnb⟩, hH, hA⟩
      have h9 : m.p.k = 9 := by assumption
      have hpl := hfk.2.1 h9
      by_cases hlt : i < m.p.ps.length
      rotate_left
      · obtain rfl : i = m.p.ps.length := by omega
        rw [List.take_length, hpl, List.take_length, ← plP_r m.q h9] at hnc hnb
        repeat' (first | (first | (refine GT ?_ ?_ <;> intro hg <;> clear hA a <;> intro a hA <;> (first | exact FA | replace hg := of_decide_eq_true hg | replace hg := of_decide_eq_false hg | skip)) | (refine QT ?_; clear hA a; intro a hA) | (first | (refine BT ?_; clear hA hH; rintro _ w ⟨bN, rfl, hH⟩ a hA) | (refine LT ?_; clear hA hH; rintro _ w ⟨oN, rfl, hH⟩ a hA) | (refine AT ?_; clear hA; rintro _ w ⟨oN, cN, rfl, hH2⟩ a hA; clear hH; have hH := (hH2 _ (by (repeat constructor))).tail; clear hH2) | (refine S0T ?_; clear hH; rintro _ w hH) )) | ((first | refine CT ?_ | (refine DT ?_ ?_ <;> intro hc <;> try (exfalso; omega))) <;> repeat' refine CT ?_) | (first | (refine DSK ?_; clear hA a; intro a hA) | (first | (refine DLT ?_; clear hA hH; rintro _ w ⟨oN, rfl, hH⟩; refine ⟨STT, ?_⟩; intro a hA) | (refine DAT ?_; clear hA; rintro _ w ⟨oN, cN, rfl, hH2⟩; clear hH; have hH := (hH2 _ (by (repeat constructor))).tail; clear hH2; refine ⟨STT, ?_⟩; intro a hA))) )
        exact ⟨⟨K', oc', ob', cx', bx', nc, nb, hK', hnc, hnb, hH.er 5⟩, (hA.sub (by (repeat (first | exact trivial | refine ⟨rfl, ?_⟩))))⟩
      obtain ⟨x, hx⟩ : ∃ x, m.p.ps[i]? = some x := ⟨_, List.getElem?_eq_getElem hlt⟩
      obtain ⟨lb, hlb⟩ : ∃ x, m.p.ls[i]? = some x := ⟨_, List.getElem?_eq_getElem (by omega)⟩
      have hxm := List.mem_of_getElem? hx
      have hvs := flat_all encA_len hx
      rw [encA_eq] at hvs
      have hcx := encX_at hlb
      have hrA : ∀ w, K' w → Rd w m.p.oa (flat encA m.p.ps) := fun w h => (hR w (hK' w h).1).2.a
      have hrL : ∀ w, K' w → Rd w m.p.ol (flat encX m.p.ls) := fun w h => (hR w (hK' w h).1).2.l
      have hszx := szL_take hx
      have hszn := plL_sz m.q (m.p.ls.take i) (m.p.ps.take i)
      have hlc : nc.length + nb.length ≤ szL (m.p.ps.take i) := by
        have e1 := congrArg List.length hnc
        have e2 := congrArg List.length hnb
        rw [List.length_map] at e1 e2
        have := szC_len (plL m.q (m.p.ls.take i) (m.p.ps.take i)).1
        omega
      repeat' (first | (first | (refine GT ?_ ?_ <;> intro hg <;> clear hA a <;> intro a hA <;> (first | exact FA | replace hg := of_decide_eq_true hg | replace hg := of_decide_eq_false hg | skip)) | ((first | apply st_ex hA hH rfl rfl (by decide) | apply dr_ex hA rfl rfl rfl (by decide) | apply dr_exp hA rfl rfl rfl (by decide) | apply dr_ex3 hA hH rfl rfl rfl (by decide)); (first | (apply ex_load_st (vs := [.int .i64 x.k, .int .i64 x.v, .int .i64 x.n, .string x.s, .slice x.ol x.ls.length x.cl, .slice x.oa x.ps.length x.ca]); rfl; rfl; exact cls_frz MEMT hrA hvs)); clear hA a; intro a hA) | (refine QT ?_; clear hA a; intro a hA) | (first | (refine BT ?_; clear hA hH; rintro _ w ⟨bN, rfl, hH⟩ a hA) | (refine LT ?_; clear hA hH; rintro _ w ⟨oN, rfl, hH⟩ a hA) | (refine AT ?_; clear hA; rintro _ w ⟨oN, cN, rfl, hH2⟩ a hA; clear hH; have hH := (hH2 _ (by (repeat constructor))).tail; clear hH2) | (refine S0T ?_; clear hH; rintro _ w hH) | (apply st_op0 hA rfl rfl; apply op_store_agg (vs := [.int .i64 x.k, .int .i64 x.v, .int .i64 x.n, .string x.s, .slice x.ol x.ls.length x.cl, .slice x.oa x.ps.length x.ca]); rfl; rfl; exact hH; (repeat constructor); (repeat rfl); clear hH; rintro _ w hH))) | ((first | refine CT ?_ | (refine DT ?_ ?_ <;> intro hc <;> try (exfalso; omega))) <;> repeat' refine CT ?_) | (first | (refine DSK ?_; clear hA a; intro a hA) | (first | (refine DLT ?_; clear hA hH; rintro _ w ⟨oN, rfl, hH⟩; refine ⟨STT, ?_⟩; intro a hA) | (refine DAT ?_; clear hA; rintro _ w ⟨oN, cN, rfl, hH2⟩; clear hH; have hH := (hH2 _ (by (repeat constructor))).tail; clear hH2; refine ⟨STT, ?_⟩; intro a hA))) )
      (refine wp_draw2_HS [(0, 1), (1, 1), (2, 1), (3, 2), (4, 2), (5, 1), (6, 1), (7, 1), (8, 1), (10, 1), (9, 0), (11, 2)] [12] mixed (by decide +kernel) hH ?_; replace hH := hH.drew)
      repeat' (first | (first | (refine GT ?_ ?_ <;> intro hg <;> clear hA a <;> intro a hA <;> (first | exact FA | replace hg := of_decide_eq_true hg | replace hg := of_decide_eq_false hg | skip)) | ((first | apply st_ex hA hH rfl rfl (by decide) | apply dr_ex hA rfl rfl rfl (by decide) | apply dr_exp hA rfl rfl rfl (by decide) | apply dr_ex3 hA hH rfl rfl rfl (by decide)); (first | (apply ex_load; rfl; exact cl_frz MEMT hrL hcx)); clear hA a; intro a hA) | (refine QT ?_; clear hA a; intro a hA) | (first | (refine BT ?_; clear hA hH; rintro _ w ⟨bN, rfl, hH⟩ a hA) | (refine LT ?_; clear hA hH; rintro _ w ⟨oN, rfl, hH⟩ a hA) | (refine AT ?_; clear hA; rintro _ w ⟨oN, cN, rfl, hH2⟩ a hA; clear hH; have hH := (hH2 _ (by (repeat constructor))).tail; clear hH2) | (refine S0T ?_; clear hH; rintro _ w hH) )) | ((first | refine CT ?_ | (refine DT ?_ ?_ <;> intro hc <;> try (exfalso; omega))) <;> repeat' refine CT ?_) | (first | (refine DSK ?_; clear hA a; intro a hA) | (first | (refine DLT ?_; clear hA hH; rintro _ w ⟨oN, rfl, hH⟩; refine ⟨STT, ?_⟩; intro a hA) | (refine DAT ?_; clear hA; rintro _ w ⟨oN, cN, rfl, hH2⟩; clear hH; have hH := (hH2 _ (by (repeat constructor))).tail; clear hH2; refine ⟨STT, ?_⟩; intro a hA))) )
      (refine dr_op hA rfl rfl rfl (by decide) (op_call rfl rfl rfl (to_spec _ m.o m.c m.q lb ((hR _ (hK' _ (hH.frz MEMT)).1).1) (by omega))) ?_; clear hA; rintro _ w ⟨o1, c1, rfl, hj⟩; replace hH := hH.join hj; clear hj; refine ⟨hH.tail, ?_⟩; intro a hA)
      repeat' (first | (first | (refine GT ?_ ?_ <;> intro hg <;> clear hA a <;> intro a hA <;> (first | exact FA | replace hg := of_decide_eq_true hg | replace hg := of_decide_eq_false hg | skip)) | ((first | apply st_ex hA hH rfl rfl (by decide) | apply dr_ex hA rfl rfl rfl (by decide) | apply dr_exp hA rfl rfl rfl (by decide) | apply dr_ex3 hA hH rfl rfl rfl (by decide)); (first | (apply ex_build_12 (us := [.int .i64 x.k, .int .i64 x.v, .int .i64 x.n, .string x.s, .slice x.ol x.ls.length x.cl, .slice x.oa x.ps.length x.ca]); rfl; rfl; rfl; rfl; rfl; exact ⟨size_of _ _ _, size_of _ _ _, trivial⟩)); clear hA a; intro a hA) | (refine QT ?_; clear hA a; intro a hA) | (first | (refine BT ?_; clear hA hH; rintro _ w ⟨bN, rfl, hH⟩ a hA) | (refine LT ?_; clear hA hH; rintro _ w ⟨oN, rfl, hH⟩ a hA) | (refine AT ?_; clear hA; rintro _ w ⟨oN, cN, rfl, hH2⟩ a hA; clear hH; have hH := (hH2 _ (by (repeat constructor))).tail; clear hH2) | (refine S0T ?_; clear hH; rintro _ w hH) )) | ((first | refine CT ?_ | (refine DT ?_ ?_ <;> intro hc <;> try (exfalso; omega))) <;> repeat' refine CT ?_) | (first | (refine DSK ?_; clear hA a; intro a hA) | (first | (refine DLT ?_; clear hA hH; rintro _ w ⟨oN, rfl, hH⟩; refine ⟨STT, ?_⟩; intro a hA) | (refine DAT ?_; clear hA; rintro _ w ⟨oN, cN, rfl, hH2⟩; clear hH; have hH := (hH2 _ (by (repeat constructor))).tail; clear hH2; refine ⟨STT, ?_⟩; intro a hA))) )
      have hle1 := hH.own_le (.head _)
      have h2 := (hH.pk 6 rfl)
      have h3 := (h2.pk 1 rfl).frz_own
      have hR2 : ∀ w, Rd w o1 (flat encX (m.q ++ [lb])) ∧ K' w → RdC w (MC.mk o1 c1 (m.q ++ [lb]) x) := fun w h => ⟨⟨h.1, hle1⟩, (hR w (hK' w h.2).1).2.s x hxm⟩
      have hlen1 : (m.q ++ [lb]).length = m.q.length + 1 := by simp
      (refine dr_op3 hA rfl rfl rfl (by decide) (op_call rfl rfl rfl (go1_spec z (MC.mk o1 c1 (m.q ++ [lb]) x) (by have := as_lt hxm; show SizeOf.sizeOf x < z; omega) w0 _ (Go.Fw.cb bP 55 [.slice m.o m.q.length m.c, .int .i64 m.p.k, .int .i64 m.p.v, .int .i64 m.p.n, .string m.p.s, .slice m.p.ol m.p.ls.length m.p.cl, .slice m.p.oa m.p.ps.length m.p.ca] :: Go.Fw.cb bN 38 [.int .i64 x.k, .int .i64 x.v, .int .i64 x.n, .string x.s, .slice x.ol x.ls.length x.cl, .slice x.oa x.ps.length x.ca] :: H) _ bO bG n oc' ob' cx' bx' (cs ++ nc) (bs ++ nb) (h3.perm (by (repeat (first | exact List.Perm.refl _ | exact List.Perm.nil | refine perm_pick 0 rfl ?_ | refine perm_pick 1 rfl ?_ | refine perm_pick 2 rfl ?_ | refine perm_pick 3 rfl ?_ | refine perm_pick 4 rfl ?_ | refine perm_pick 5 rfl ?_ | refine perm_pick 6 rfl ?_ | refine perm_pick 7 rfl ?_ | refine perm_pick 8 rfl ?_ | refine perm_pick 9 rfl ?_ | refine perm_pick 10 rfl ?_ | refine perm_pick 11 rfl ?_)))) hR2 (hfk.2.2 x hxm) (by show (m.q ++ [lb]).length + szA x ≤ 1000; omega) (by rw [List.length_append, List.length_append]; show _ + _ + szA x ≤ 1000; omega))) ?_; clear hA hH h2 h3; rintro _ w ⟨K2, oc2, ob2, cx2, bx2, nc2, nb2, hK2, hnc2, hnb2, hH⟩ a hA)
      rw [List.append_assoc, List.append_assoc] at hH
      have hsn := plL_snoc m.q (m.p.ls.take i) (m.p.ps.take i) lb x (by rw [List.length_take, List.length_take]; omega)
      rw [← take_next hx, ← take_next hlb] at hsn
      repeat' (first | (first | (refine GT ?_ ?_ <;> intro hg <;> clear hA a <;> intro a hA <;> (first | exact FA | replace hg := of_decide_eq_true hg | replace hg := of_decide_eq_false hg | skip)) | (refine QT ?_; clear hA a; intro a hA) | (first | (refine BT ?_; clear hA hH; rintro _ w ⟨bN, rfl, hH⟩ a hA) | (refine LT ?_; clear hA hH; rintro _ w ⟨oN, rfl, hH⟩ a hA) | (refine AT ?_; clear hA; rintro _ w ⟨oN, cN, rfl, hH2⟩ a hA; clear hH; have hH := (hH2 _ (by (repeat constructor))).tail; clear hH2) | (refine S0T ?_; clear hH; rintro _ w hH) )) | ((first | refine CT ?_ | (refine DT ?_ ?_ <;> intro hc <;> try (exfalso; omega))) <;> repeat' refine CT ?_) | (first | (refine DSK ?_; clear hA a; intro a hA) | (first | (refine DLT ?_; clear hA hH; rintro _ w ⟨oN, rfl, hH⟩; refine ⟨STT, ?_⟩; intro a hA) | (refine DAT ?_; clear hA; rintro _ w ⟨oN, cN, rfl, hH2⟩; clear hH; have hH := (hH2 _ (by (repeat constructor))).tail; clear hH2; refine ⟨STT, ?_⟩; intro a hA))) )
      exact ⟨i + 1, ⟨K2, oc2, ob2, cx2, bx2, nc ++ nc2, nb ++ nb2, ⟨hlt, fun w h => ⟨(hK' w (hK2 w h).1.2).1, fun c hc => by
        rcases List.mem_append.1 hc with hc | hc
        · exact (hK' w (hK2 w h).1.2).2.1 c hc
        · exact (hK2 w h).2.1 c hc, fun c hc => by
        rcases List.mem_append.1 hc with hc | hc
        · exact (hK' w (hK2 w h).1.2).2.2 c hc
        · exact (hK2 w h).2.2 c hc⟩, by rw [hsn, List.map_append, hnc, hnc2], by rw [hsn, List.map_append, hnb, hnb2]⟩, hH.er 6, (hA.sub (by (repeat (first | exact trivial | refine ⟨rfl, ?_⟩))))⟩, by omega⟩
    · (apply st_op hA rfl rfl (by decide); apply op_sliceLit (xs := [.slice m.o m.q.length m.c, .int .i64 m.p.k, .int .i64 m.p.v, .int .i64 m.p.n, .string m.p.s, .slice m.p.ol m.p.ls.length m.p.cl, .slice m.p.oa m.p.ps.length m.p.ca]) (vs := [.agg #[.slice m.o m.q.length m.c, .int .i64 m.p.k, .int .i64 m.p.v, .int .i64 m.p.n, .string m.p.s, .slice m.p.ol m.p.ls.length m.p.cl, .slice m.p.oa m.p.ps.length m.p.ca]]); rfl; rfl; exact (Cats.cn (cs := [.slice m.o m.q.length m.c, .int .i64 m.p.k, .int .i64 m.p.v, .int .i64 m.p.n, .string m.p.s, .slice m.p.ol m.p.ls.length m.p.cl, .slice m.p.oa m.p.ps.length m.p.ca]) Cats.nil); rfl; rfl; rfl; exact hH; clear hA hH; rintro _ w ⟨oN, rfl, hH⟩ a hA)
      repeat' (first | (first | (refine GT ?_ ?_ <;> intro hg <;> clear hA a <;> intro a hA <;> (first | exact FA | replace hg := of_decide_eq_true hg | replace hg := of_decide_eq_false hg | skip)) | (refine QT ?_; clear hA a; intro a hA) | (first | (refine BT ?_; clear hA hH; rintro _ w ⟨bN, rfl, hH⟩ a hA) | (refine LT ?_; clear hA hH; rintro _ w ⟨oN, rfl, hH⟩ a hA) | (refine AT ?_; clear hA; rintro _ w ⟨oN, cN, rfl, hH2⟩ a hA; clear hH; have hH := (hH2 _ (by (repeat constructor))).tail; clear hH2) | (refine S0T ?_; clear hH; rintro _ w hH) )) | ((first | refine CT ?_ | (refine DT ?_ ?_ <;> intro hc <;> try (exfalso; omega))) <;> repeat' refine CT ?_) | (first | (refine DSK ?_; clear hA a; intro a hA) | (first | (refine DLT ?_; clear hA hH; rintro _ w ⟨oN, rfl, hH⟩; refine ⟨STT, ?_⟩; intro a hA) | (refine DAT ?_; clear hA; rintro _ w ⟨oN, cN, rfl, hH2⟩; clear hH; have hH := (hH2 _ (by (repeat constructor))).tail; clear hH2; refine ⟨STT, ?_⟩; intro a hA))) )
      (apply st_op0 hA rfl rfl; apply op_store_fld (cs' := [.int .i64 n, .slice oN (cs.length + 1) cN, .slice ob bs.length bx]); rfl; rfl; rfl; exact hH; (repeat constructor); clear hH; rintro _ w hH)
      repeat' (first | (first | (refine GT ?_ ?_ <;> intro hg <;> clear hA a <;> intro a hA <;> (first | exact FA | replace hg := of_decide_eq_true hg | replace hg := of_decide_eq_false hg | skip)) | (refine QT ?_; clear hA a; intro a hA) | (first | (refine BT ?_; clear hA hH; rintro _ w ⟨bN, rfl, hH⟩ a hA) | (refine LT ?_; clear hA hH; rintro _ w ⟨oN, rfl, hH⟩ a hA) | (refine AT ?_; clear hA; rintro _ w ⟨oN, cN, rfl, hH2⟩ a hA; clear hH; have hH := (hH2 _ (by (repeat constructor))).tail; clear hH2) | (refine S0T ?_; clear hH; rintro _ w hH) )) | ((first | refine CT ?_ | (refine DT ?_ ?_ <;> intro hc <;> try (exfalso; omega))) <;> repeat' refine CT ?_) | (first | (refine DSK ?_; clear hA a; intro a hA) | (first | (refine DLT ?_; clear hA hH; rintro _ w ⟨oN, rfl, hH⟩; refine ⟨STT, ?_⟩; intro a hA) | (refine DAT ?_; clear hA; rintro _ w ⟨oN, cN, rfl, hH2⟩; clear hH; have hH := (hH2 _ (by (repeat constructor))).tail; clear hH2; refine ⟨STT, ?_⟩; intro a hA))) )
      have hpc := plP_c (p := m.p) m.q (by assumption) (by assumption) (by assumption) (by assumption)
      refine rt0 (.inr rfl) rfl hA ⟨fun w => K w, oN, ob, cN, bx, [m], [], fun w hK => ⟨hK, fun c hc => by rw [List.mem_singleton] at hc; subst hc; exact hR w hK, fun b hb => absurd hb List.not_mem_nil⟩, ?_, ?_, ?_⟩
      · rw [hpc]; rfl
      · rw [hpc]; rfl
      · rw [List.append_nil, flat_snoc, List.length_append, encC_eq]
        exact hH.tail
end Go.Proofs.Ytcododdkjppmjaa
namespace Go.Proofs.Ytcododdkjppmjaa
open Go Go.Fw
set_option linter.unusedVariables false
theorem plC_nil : plC [] = ([], []) := rfl
theorem plC_snoc (l : List Cnd) (c : Cnd) : plC (l ++ [c]) = ((plC l).1 ++ (plP c.1 c.2).1, (plC l).2 ++ (plP c.1 c.2).2) := by
  unfold plC
  simp
theorem szC_cons (c : Cnd) (l : List Cnd) : szC (c :: l) = szA c.2 + szC l := by unfold szC; rw [List.map_cons, List.sum_cons]
theorem plC_sz : ∀ (l : List Cnd), szC (plC l).1 + (plC l).2.length ≤ szC l
  | [] => Nat.le_refl _
  | c :: l => by
    have h1 := plC_sz l
    have h2 := pl_sz c.1 c.2
    have e : plC (c :: l) = ((plP c.1 c.2).1 ++ (plC l).1, (plP c.1 c.2).2 ++ (plC l).2) := by unfold plC; simp
    rw [e, szC_append, List.length_append, szC_cons]
    omega
theorem szC_take {l : List Cnd} {i : Nat} {x : Cnd} (h : l[i]? = some x) : szC (l.take i) + szA x.2 ≤ szC l := by
  induction l generalizing i with
  | nil => simp at h
  | cons b l ih =>
    cases i with
    | zero =>
      simp at h
      subst h
      rw [List.take_zero, szC_cons]; show 0 + _ ≤ _; omega
    | succ i =>
      rw [List.take_succ_cons, szC_cons, szC_cons]
      have := ih (by simpa using h)
      omega
theorem encB_one (l : List MB) : (flat encB l).all (·.oneCell') = true := flat_one_cell (fun _ => rfl) l
theorem encC_one (l : List MC) : (flat encC l).all (·.oneCell') = true := flat_one_cell (fun x => by rw [encC_eq]; rfl) l
set_option maxRecDepth 10000 attribute [local irreducible] Code.wp wpList Calls Ex Op1 sat bat blk cb own Go.Fw.mp Go.Fw.mpO Go.Fw.mpI Go.Fw.mpE Go.Fw.itr HS Rd Ret wkD Hp Cl Cls Exit.then Exit.inBlock Exit.noGoto bodyPost Go.Fw.flat wk2 Go.Fw.all Go.Fw.owns wpOp
attribute [local irreducible] encA encC encB formP formL partsP partsL plP plL plC szA szL szC

set_option maxHeartbeats 8000000 in
theorem plain_spec (w0 w : World) (H : List It) (K : World → Prop) (m : ML) (o : Option Addr) (c : Nat) (l : List MC)
    (hH : HS w0 noM (frz w0 K :: H) w) (hR : ∀ w, K w → RdBs w m.ob m.cb m.bs ∧ RdCs w o c l) (hf : ∀ x ∈ l, formP x.p = true) (hq : ∀ x ∈ l, x.q.length + szA x.p ≤ 1000) (hs : szC (l.map MC.un) + m.bs.length ≤ 1000) :
    Ret Try.prog 20 #[.agg #[.int .i64 m.n, .slice m.oc m.cs.length m.cc, .slice m.ob m.bs.length m.cb], .slice o l.length c] w (fun v w' => ∃ (K' : World → Prop) (m' : ML), v = .agg #[.int .i64 m'.n, .slice m'.oc m'.cs.length m'.cc, .slice m'.ob m'.bs.length m'.cb] ∧
      (∀ w, K' w → K w ∧ RdL w m') ∧ m'.un = plain m.n (m.bs.map MB.un) (l.map MC.un) ∧ HS w0 noM (frz w0 K' :: H) w') := by
  have hK0 := hH.frz_w (.head _) hR
  have hle := hK0.2.2.1
  have hleB := hK0.1.2
  unfold maxLen at hle
  have hln : l.length ≤ 1000 := by
    have := szC_len (l.map MC.un)
    rw [List.length_map] at this
    omega
  have hspC : Sp o l.length := hK0.2.1.sp (sz := 7) (flat_length encC_len l) (by omega)
  have hspB : Sp m.ob m.bs.length := hK0.1.1.sp (sz := 2) (flat_length encB_len m.bs) (by omega)
  have hnB : m.ob = none → m.bs.length = 0 := fun h => by
    rcases Nat.eq_zero_or_pos m.bs.length with h1 | h1
    · exact h1
    · obtain ⟨b, off, h2⟩ := hspB h1
      rw [h] at h2; cases h2
  have hrC : ∀ w, K w → Rd w o (flat encC l) := fun w h => (hR w h).2.1
  clear hK0
  (refine enter (N := 27) Try.func20 rfl Try.ntmps20 rfl ?_; intro a hA; dsimp only [sl0, Nat.reduceAdd] at hA)
  repeat' (first | (first | (refine GT ?_ ?_ <;> intro hg <;> clear hA a <;> intro a hA <;> (first | exact FA | replace hg := of_decide_eq_true hg | replace hg := of_decide_eq_false hg | skip)) | (refine QT ?_; clear hA a; intro a hA) | (first | (refine BT ?_; clear hA hH; rintro _ w ⟨bN, rfl, hH⟩ a hA) | (refine LT ?_; clear hA hH; rintro _ w ⟨oN, rfl, hH⟩ a hA) | (refine AT ?_; clear hA; rintro _ w ⟨oN, cN, rfl, hH2⟩ a hA; clear hH; have hH := (hH2 _ (by (repeat constructor))).tail; clear hH2) | (refine S0T ?_; clear hH; rintro _ w hH) )) | ((first | refine CT ?_ | (refine DT ?_ ?_ <;> intro hc <;> try (exfalso; omega))) <;> repeat' refine CT ?_) | (first | (refine DSK ?_; clear hA a; intro a hA) | (first | (refine DLT ?_; clear hA hH; rintro _ w ⟨oN, rfl, hH⟩; refine ⟨STT, ?_⟩; intro a hA) | (refine DAT ?_; clear hA; rintro _ w ⟨oN, cN, rfl, hH2⟩; clear hH; have hH := (hH2 _ (by (repeat constructor))).tail; clear hH2; refine ⟨STT, ?_⟩; intro a hA))) )
  refine wp_drawT (qs [0, 1, 2, 3] (.two 4 6 (.q 5 (.one 6 (.one 7 .nil))) (.one 4 (.q 5 (.one 7 .nil))))) (fun a w => ∃ b4 b5 ob cb_, HS w0 noM (Go.Fw.cb b5 52 [.int .i64 m.n, .slice none 0 0, .slice ob m.bs.length cb_] :: own 72 2 ob m.bs.length cb_ (flat encB m.bs) :: Go.Fw.cb b4 52 [.int .i64 0, .slice none 0 0, .slice none 0 0] :: frz w0 K :: H) w ∧
    Sl 27 [(1, .slice o l.length c), (4, .pointer (some (bat b4 0))), (5, .pointer (some (bat b5 0)))] a) mixed (by decide +kernel) hH ?_ ?_
  · replace hH := hH.drew
    (repeat (apply dt_ex hA rfl rfl rfl (by decide); (first | exact EXT | exact EXT2 ); clear hA a; intro a hA))
    apply dt_two
    · (refine dt_op hA rfl rfl rfl (by decide) (op_call rfl rfl rfl (cloneB_spec _ m.ob m.bs.length m.cb (flat encB m.bs) ((hR _ (hH.frz MEMT)).1.1) (flat_length encB_len _) (encB_one _) hnB (by omega))) ?_; clear hA; rintro _ w ⟨o1, c1, rfl, hj⟩; replace hH := hH.join hj; clear hj; refine ⟨(by (first | exact hH | exact hH.tail | exact hH.tail.tail | exact hH.tail.tail.tail | exact hH.tail.tail.tail.tail)), ?_⟩; intro a hA)
      (repeat (apply dt_ex hA rfl rfl rfl (by decide); (first | exact EXT | exact EXT2 | (apply ex_build_p #[.int .i64 m.n, .slice none 0 0, .slice o1 m.bs.length c1]; rfl; (repeat (first | (intro _ h; exact absurd h (List.not_mem_nil)) | (refine List.forall_mem_cons.2 ⟨one_cell_of _ _, ?_⟩))); rfl)); clear hA a; intro a hA))
      (apply dt_op hA rfl rfl rfl (by decide); apply op_alloc; exact hH; clear hA hH; rintro _ w ⟨bN, rfl, hH⟩; refine ⟨(by (first | exact hH | exact hH.tail | exact hH.tail.tail | exact hH.tail.tail.tail | exact hH.tail.tail.tail.tail)), ?_⟩; intro a hA)
      (apply dt_op0 hA rfl rfl rfl; apply op_store_agg (vs := [.int .i64 m.n, .slice none 0 0, .slice o1 m.bs.length c1]); rfl; rfl; exact hH; (repeat constructor); (repeat rfl); clear hH; rintro _ w hH; refine ⟨(by (first | exact hH | exact hH.tail | exact hH.tail.tail | exact hH.tail.tail.tail | exact hH.tail.tail.tail.tail)), ?_⟩; apply dt_nil)
      exact ⟨_, _, _, _, hH.er 3, (hA.sub (by (repeat (first | exact trivial | refine ⟨rfl, ?_⟩))))⟩
    · (apply dt_op hA rfl rfl rfl (by decide); apply op_alloc; exact hH; clear hA hH; rintro _ w ⟨bN, rfl, hH⟩; refine ⟨(by (first | exact hH | exact hH.tail | exact hH.tail.tail | exact hH.tail.tail.tail | exact hH.tail.tail.tail.tail)), ?_⟩; intro a hA)
      (refine dt_op hA rfl rfl rfl (by decide) (op_call rfl rfl rfl (cloneB_spec _ m.ob m.bs.length m.cb (flat encB m.bs) ((hR _ (hH.frz MEMT)).1.1) (flat_length encB_len _) (encB_one _) hnB (by omega))) ?_; clear hA; rintro _ w ⟨o1, c1, rfl, hj⟩; replace hH := hH.join hj; clear hj; refine ⟨(by (first | exact hH | exact hH.tail | exact hH.tail.tail | exact hH.tail.tail.tail | exact hH.tail.tail.tail.tail)), ?_⟩; intro a hA)
      (repeat (apply dt_ex hA rfl rfl rfl (by decide); (first | exact EXT | exact EXT2 | (apply ex_build_p #[.int .i64 m.n, .slice none 0 0, .slice o1 m.bs.length c1]; rfl; (repeat (first | (intro _ h; exact absurd h (List.not_mem_nil)) | (refine List.forall_mem_cons.2 ⟨one_cell_of _ _, ?_⟩))); rfl)); clear hA a; intro a hA))
      (apply dt_op0 hA rfl rfl rfl; apply op_store_agg (vs := [.int .i64 m.n, .slice none 0 0, .slice o1 m.bs.length c1]); rfl; rfl; exact hH; (repeat constructor); (repeat rfl); clear hH; rintro _ w hH; refine ⟨(by (first | exact hH | exact hH.tail | exact hH.tail.tail | exact hH.tail.tail.tail | exact hH.tail.tail.tail.tail)), ?_⟩; apply dt_nil)
      exact ⟨_, _, _, _, ((hH.er 3).perm (.swap _ _ _)), (hA.sub (by (repeat (first | exact trivial | refine ⟨rfl, ?_⟩))))⟩
  clear hA hH
  rintro a w ⟨b4, bO, ob, bx, hH, hA⟩
  repeat' (first | (first | (refine GT ?_ ?_ <;> intro hg <;> clear hA a <;> intro a hA <;> (first | exact FA | replace hg := of_decide_eq_true hg | replace hg := of_decide_eq_false hg | skip)) | (refine QT ?_; clear hA a; intro a hA) | (first | (refine BT ?_; clear hA hH; rintro _ w ⟨bN, rfl, hH⟩ a hA) | (refine LT ?_; clear hA hH; rintro _ w ⟨oN, rfl, hH⟩ a hA) | (refine AT ?_; clear hA; rintro _ w ⟨oN, cN, rfl, hH2⟩ a hA; clear hH; have hH := (hH2 _ (by (repeat constructor))).tail; clear hH2) | (refine S0T ?_; clear hH; rintro _ w hH) )) | ((first | refine CT ?_ | (refine DT ?_ ?_ <;> intro hc <;> try (exfalso; omega))) <;> repeat' refine CT ?_) | (first | (refine DSK ?_; clear hA a; intro a hA) | (first | (refine DLT ?_; clear hA hH; rintro _ w ⟨oN, rfl, hH⟩; refine ⟨STT, ?_⟩; intro a hA) | (refine DAT ?_; clear hA; rintro _ w ⟨oN, cN, rfl, hH2⟩; clear hH; have hH := (hH2 _ (by (repeat constructor))).tail; clear hH2; refine ⟨STT, ?_⟩; intro a hA))) )
  obtain ⟨bG, hbG⟩ : ∃ b, b = bN := ⟨_, rfl⟩
  rw [← hbG] at hA hH
  clear hbG bN
  refine wp_lpk (S := Nat) (fun i a w => ∃ (K' : World → Prop) (oc ob : Option Addr) (cx bx : Nat) (nc : List MC) (nb : List MB), (i ≤ l.length ∧ (∀ w, K' w → K w ∧ (∀ c ∈ nc, RdC w c) ∧ ∀ b ∈ nb, RdB w b) ∧ nc.map MC.un = (plC ((l.take i).map MC.un)).1 ∧ nb.map MB.un = (plC ((l.take i).map MC.un)).2) ∧
      HS w0 noM (cb bO 52 [.int .i64 m.n, .slice oc nc.length cx, .slice ob (m.bs ++ nb).length bx] :: own 55 7 oc nc.length cx (flat encC nc) :: own 72 2 ob (m.bs ++ nb).length bx (flat encB (m.bs ++ nb)) :: cb bG 84 [.func (.func 38) #[] #[.pointer (some (bat bO 0)), .pointer (some (bat bG 0))]] :: frz w0 K' :: Go.Fw.cb b4 52 [.int .i64 0, .slice none 0 0, .slice none 0 0] :: H) w ∧ Sl 27 [(4, .pointer (some (bat b4 0))), (5, .pointer (some (bat bO 0))), (6, .pointer (some (bat bG 0))), (16, .slice o l.length c), (17, .int .i64 l.length), (18, .int .i64 i)] a)
    (fun i => l.length - i)
    (fun a w => ∃ (K' : World → Prop) (oc ob : Option Addr) (cx bx : Nat) (nc : List MC) (nb : List MB), ((∀ w, K' w → K w ∧ (∀ c ∈ nc, RdC w c) ∧ ∀ b ∈ nb, RdB w b) ∧ nc.map MC.un = (plC (l.map MC.un)).1 ∧ nb.map MB.un = (plC (l.map MC.un)).2) ∧
      HS w0 noM (cb bO 52 [.int .i64 m.n, .slice oc nc.length cx, .slice ob (m.bs ++ nb).length bx] :: own 55 7 oc nc.length cx (flat encC nc) :: own 72 2 ob (m.bs ++ nb).length bx (flat encB (m.bs ++ nb)) :: cb bG 84 [.func (.func 38) #[] #[.pointer (some (bat bO 0)), .pointer (some (bat bG 0))]] :: frz w0 K' :: Go.Fw.cb b4 52 [.int .i64 0, .slice none 0 0, .slice none 0 0] :: H) w ∧ Sl 27 [(4, .pointer (some (bat b4 0))), (5, .pointer (some (bat bO 0)))] a) 0
    ⟨K, none, ob, 0, bx, [], [], ⟨Nat.zero_le _, fun w hK => ⟨hK, fun c h => absurd h List.not_mem_nil, fun c h => absurd h List.not_mem_nil⟩, by rw [List.take_zero]; simp only [List.map_nil, plC_nil], by rw [List.take_zero]; simp only [List.map_nil, plC_nil]⟩, by
      rw [List.append_nil]; exact (hH.nil_flat encC 55 7).perm (by (repeat (first | exact List.Perm.refl _ | exact List.Perm.nil | refine perm_pick 0 rfl ?_ | refine perm_pick 1 rfl ?_ | refine perm_pick 2 rfl ?_ | refine perm_pick 3 rfl ?_ | refine perm_pick 4 rfl ?_ | refine perm_pick 5 rfl ?_ | refine perm_pick 6 rfl ?_ | refine perm_pick 7 rfl ?_ | refine perm_pick 8 rfl ?_ | refine perm_pick 9 rfl ?_ | refine perm_pick 10 rfl ?_ | refine perm_pick 11 rfl ?_))), (hA.sub (by (repeat (first | exact trivial | refine ⟨rfl, ?_⟩))))⟩ ?_ ?_
  · clear hA hH
    rintro i a w ⟨K', oc, ob, cx, bx, nc, nb, ⟨hi, hK', hnc, hnb⟩, hH, hA⟩
    by_cases hlt : i < l.length
    rotate_left
    · obtain rfl : i = l.length := by omega
      rw [List.take_length] at hnc hnb
      repeat' (first | (first | (refine GT ?_ ?_ <;> intro hg <;> clear hA a <;> intro a hA <;> (first | exact FA | replace hg := of_decide_eq_true hg | replace hg := of_decide_eq_false hg | skip)) | (refine QT ?_; clear hA a; intro a hA) | (first | (refine BT ?_; clear hA hH; rintro _ w ⟨bN, rfl, hH⟩ a hA) | (refine LT ?_; clear hA hH; rintro _ w ⟨oN, rfl, hH⟩ a hA) | (refine AT ?_; clear hA; rintro _ w ⟨oN, cN, rfl, hH2⟩ a hA; clear hH; have hH := (hH2 _ (by (repeat constructor))).tail; clear hH2) | (refine S0T ?_; clear hH; rintro _ w hH) )) | ((first | refine CT ?_ | (refine DT ?_ ?_ <;> intro hc <;> try (exfalso; omega))) <;> repeat' refine CT ?_) | (first | (refine DSK ?_; clear hA a; intro a hA) | (first | (refine DLT ?_; clear hA hH; rintro _ w ⟨oN, rfl, hH⟩; refine ⟨STT, ?_⟩; intro a hA) | (refine DAT ?_; clear hA; rintro _ w ⟨oN, cN, rfl, hH2⟩; clear hH; have hH := (hH2 _ (by (repeat constructor))).tail; clear hH2; refine ⟨STT, ?_⟩; intro a hA))) )
      exact ⟨K', oc, ob, cx, bx, nc, nb, ⟨hK', hnc, hnb⟩, hH, (hA.sub (by (repeat (first | exact trivial | refine ⟨rfl, ?_⟩))))⟩
    obtain ⟨x, hx⟩ : ∃ x, l[i]? = some x := ⟨_, List.getElem?_eq_getElem hlt⟩
    have hxm := List.mem_of_getElem? hx
    have hvs := flat_all encC_len hx
    rw [encC_eq] at hvs
    have hrC2 : ∀ w, K' w → Rd w o (flat encC l) := fun w h => hrC w (hK' w h).1
    have hR2 : ∀ w, K' w → RdC w x := fun w h => (hR w (hK' w h).1).2.2.2.2 x hxm
    have hxu : (l.map MC.un)[i]? = some x.un := by rw [List.getElem?_map, hx]; rfl
    have hsn := plC_snoc ((l.map MC.un).take i) x.un
    rw [← take_next hxu, ← List.map_take, ← List.map_take] at hsn
    have hb1 := szC_take hxu
    rw [← List.map_take] at hb1
    have hb2 := plC_sz ((l.take i).map MC.un)
    have hb3 := szC_len (plC ((l.take i).map MC.un)).1
    have e1 := congrArg List.length hnc
    have e2 := congrArg List.length hnb
    rw [List.length_map] at e1 e2
    have hb4 : szA x.un.2 = szA x.p := rfl
    repeat' (first | (first | (refine GT ?_ ?_ <;> intro hg <;> clear hA a <;> intro a hA <;> (first | exact FA | replace hg := of_decide_eq_true hg | replace hg := of_decide_eq_false hg | skip)) | ((first | apply st_ex hA hH rfl rfl (by decide) | apply dr_ex hA rfl rfl rfl (by decide) | apply dr_exp hA rfl rfl rfl (by decide) | apply dr_ex3 hA hH rfl rfl rfl (by decide)); (first | (apply ex_load_st (vs := [.slice x.o x.q.length x.c, .int .i64 x.p.k, .int .i64 x.p.v, .int .i64 x.p.n, .string x.p.s, .slice x.p.ol x.p.ls.length x.p.cl, .slice x.p.oa x.p.ps.length x.p.ca]); rfl; rfl; exact cls_frz MEMT hrC2 hvs)); clear hA a; intro a hA) | (refine QT ?_; clear hA a; intro a hA) | (first | (refine BT ?_; clear hA hH; rintro _ w ⟨bN, rfl, hH⟩ a hA) | (refine LT ?_; clear hA hH; rintro _ w ⟨oN, rfl, hH⟩ a hA) | (refine AT ?_; clear hA; rintro _ w ⟨oN, cN, rfl, hH2⟩ a hA; clear hH; have hH := (hH2 _ (by (repeat constructor))).tail; clear hH2) | (refine S0T ?_; clear hH; rintro _ w hH) | (apply st_op0 hA rfl rfl; apply op_store_agg (vs := [.slice x.o x.q.length x.c, .int .i64 x.p.k, .int .i64 x.p.v, .int .i64 x.p.n, .string x.p.s, .slice x.p.ol x.p.ls.length x.p.cl, .slice x.p.oa x.p.ps.length x.p.ca]); rfl; rfl; exact hH; (repeat constructor); (repeat rfl); clear hH; rintro _ w hH))) | ((first | refine CT ?_ | (refine DT ?_ ?_ <;> intro hc <;> try (exfalso; omega))) <;> repeat' refine CT ?_) | (first | (refine DSK ?_; clear hA a; intro a hA) | (first | (refine DLT ?_; clear hA hH; rintro _ w ⟨oN, rfl, hH⟩; refine ⟨STT, ?_⟩; intro a hA) | (refine DAT ?_; clear hA; rintro _ w ⟨oN, cN, rfl, hH2⟩; clear hH; have hH := (hH2 _ (by (repeat constructor))).tail; clear hH2; refine ⟨STT, ?_⟩; intro a hA))) )
    (refine st_op hA rfl rfl (by decide) (op_call rfl rfl rfl (go1_spec _ x (Nat.lt_succ_self _) w0 _ (Go.Fw.cb b4 52 [.int .i64 0, .slice none 0 0, .slice none 0 0] :: Go.Fw.cb bN 55 [.slice x.o x.q.length x.c, .int .i64 x.p.k, .int .i64 x.p.v, .int .i64 x.p.n, .string x.p.s, .slice x.p.ol x.p.ls.length x.p.cl, .slice x.p.oa x.p.ps.length x.p.ca] :: H) K' bO bG m.n oc ob cx bx nc (m.bs ++ nb) (hH.perm (by (repeat (first | exact List.Perm.refl _ | exact List.Perm.nil | refine perm_pick 0 rfl ?_ | refine perm_pick 1 rfl ?_ | refine perm_pick 2 rfl ?_ | refine perm_pick 3 rfl ?_ | refine perm_pick 4 rfl ?_ | refine perm_pick 5 rfl ?_ | refine perm_pick 6 rfl ?_ | refine perm_pick 7 rfl ?_ | refine perm_pick 8 rfl ?_ | refine perm_pick 9 rfl ?_ | refine perm_pick 10 rfl ?_ | refine perm_pick 11 rfl ?_)))) hR2 (hf x hxm) (hq x hxm) (by rw [List.length_append]; omega))) ?_; clear hA hH; rintro _ w ⟨K2, oc2, ob2, cx2, bx2, nc2, nb2, hK2, hnc2, hnb2, hH⟩ a hA)
    rw [List.append_assoc] at hH
    repeat' (first | (first | (refine GT ?_ ?_ <;> intro hg <;> clear hA a <;> intro a hA <;> (first | exact FA | replace hg := of_decide_eq_true hg | replace hg := of_decide_eq_false hg | skip)) | (refine QT ?_; clear hA a; intro a hA) | (first | (refine BT ?_; clear hA hH; rintro _ w ⟨bN, rfl, hH⟩ a hA) | (refine LT ?_; clear hA hH; rintro _ w ⟨oN, rfl, hH⟩ a hA) | (refine AT ?_; clear hA; rintro _ w ⟨oN, cN, rfl, hH2⟩ a hA; clear hH; have hH := (hH2 _ (by (repeat constructor))).tail; clear hH2) | (refine S0T ?_; clear hH; rintro _ w hH) )) | ((first | refine CT ?_ | (refine DT ?_ ?_ <;> intro hc <;> try (exfalso; omega))) <;> repeat' refine CT ?_) | (first | (refine DSK ?_; clear hA a; intro a hA) | (first | (refine DLT ?_; clear hA hH; rintro _ w ⟨oN, rfl, hH⟩; refine ⟨STT, ?_⟩; intro a hA) | (refine DAT ?_; clear hA; rintro _ w ⟨oN, cN, rfl, hH2⟩; clear hH; have hH := (hH2 _ (by (repeat constructor))).tail; clear hH2; refine ⟨STT, ?_⟩; intro a hA))) )
    exact ⟨i + 1, ⟨K2, oc2, ob2, cx2, bx2, nc ++ nc2, nb ++ nb2, ⟨hlt, fun w h => ⟨(hK' w (hK2 w h).1).1, fun c hc => by
        rcases List.mem_append.1 hc with hc | hc
        · exact (hK' w (hK2 w h).1).2.1 c hc
        · exact (hK2 w h).2.1 c hc, fun c hc => by
        rcases List.mem_append.1 hc with hc | hc
        · exact (hK' w (hK2 w h).1).2.2 c hc
        · exact (hK2 w h).2.2 c hc⟩, by rw [hsn, List.map_append, hnc, hnc2]; rfl, by rw [hsn, List.map_append, hnb, hnb2]; rfl⟩, hH.er 6, (hA.sub (by (repeat (first | exact trivial | refine ⟨rfl, ?_⟩))))⟩, by omega⟩
  clear hA hH
  rintro a w ⟨K', oc, ob, cx, bx, nc, nb, ⟨hK', hnc, hnb⟩, hH, hA⟩
  repeat' (first | (first | (refine GT ?_ ?_ <;> intro hg <;> clear hA a <;> intro a hA <;> (first | exact FA | replace hg := of_decide_eq_true hg | replace hg := of_decide_eq_false hg | skip)) | (refine QT ?_; clear hA a; intro a hA) | (first | (refine BT ?_; clear hA hH; rintro _ w ⟨bN, rfl, hH⟩ a hA) | (refine LT ?_; clear hA hH; rintro _ w ⟨oN, rfl, hH⟩ a hA) | (refine AT ?_; clear hA; rintro _ w ⟨oN, cN, rfl, hH2⟩ a hA; clear hH; have hH := (hH2 _ (by (repeat constructor))).tail; clear hH2) | (refine S0T ?_; clear hH; rintro _ w hH) | (apply st_op0 hA rfl rfl; apply op_store_agg (vs := [.int .i64 (ML.mk m.n oc cx nc ob bx (m.bs ++ nb)).n, .slice (ML.mk m.n oc cx nc ob bx (m.bs ++ nb)).oc (ML.mk m.n oc cx nc ob bx (m.bs ++ nb)).cs.length (ML.mk m.n oc cx nc ob bx (m.bs ++ nb)).cc, .slice (ML.mk m.n oc cx nc ob bx (m.bs ++ nb)).ob (ML.mk m.n oc cx nc ob bx (m.bs ++ nb)).bs.length (ML.mk m.n oc cx nc ob bx (m.bs ++ nb)).cb]); rfl; rfl; exact hH; (repeat constructor); (repeat rfl); clear hH; rintro _ w hH))) | ((first | refine CT ?_ | (refine DT ?_ ?_ <;> intro hc <;> try (exfalso; omega))) <;> repeat' refine CT ?_) | (first | (refine DSK ?_; clear hA a; intro a hA) | (first | (refine DLT ?_; clear hA hH; rintro _ w ⟨oN, rfl, hH⟩; refine ⟨STT, ?_⟩; intro a hA) | (refine DAT ?_; clear hA; rintro _ w ⟨oN, cN, rfl, hH2⟩; clear hH; have hH := (hH2 _ (by (repeat constructor))).tail; clear hH2; refine ⟨STT, ?_⟩; intro a hA))) )
  have hleC := hH.own_le (T := 55) (xs := flat encC nc) (by exact MEMT)
  have hleB := hH.own_le (T := 72) (xs := flat encB (m.bs ++ nb)) (by exact MEMT)
  have hF := (((((hH.pk 4 rfl).pk 2 rfl).frz_own.pk 2 rfl).frz_own.er 1).er 1).er 1
  refine rt1c (vs := [.int .i64 (ML.mk m.n oc cx nc ob bx (m.bs ++ nb)).n, .slice (ML.mk m.n oc cx nc ob bx (m.bs ++ nb)).oc (ML.mk m.n oc cx nc ob bx (m.bs ++ nb)).cs.length (ML.mk m.n oc cx nc ob bx (m.bs ++ nb)).cc, .slice (ML.mk m.n oc cx nc ob bx (m.bs ++ nb)).ob (ML.mk m.n oc cx nc ob bx (m.bs ++ nb)).bs.length (ML.mk m.n oc cx nc ob bx (m.bs ++ nb)).cb]) (.inl rfl) rfl hA rfl rfl hH (cls_cb_all (by exact MEMT)) ⟨_, ML.mk m.n oc cx nc ob bx (m.bs ++ nb), rfl, ?_, ?_, hF⟩
  · rintro w ⟨h1, h2, h3⟩
    have h4 := hK' w h3
    refine ⟨h4.1, ⟨h2, hleC.1, hleC.2, h4.2.1⟩, ⟨h1, hleB.1, hleB.2, fun b hb => ?_⟩⟩
    rcases List.mem_append.1 hb with hb | hb
    · exact (hR w h4.1).1.2.2.2 b hb
    · exact h4.2.2 b hb
  · unfold ML.un plain
    rw [List.map_append, ← hnb, ← hnc]
end Go.Proofs.Ytcododdkjppmjaa
namespace Go.Proofs.Ytcododdkjppmjaa
open Go Go.Fw
set_option linter.unusedVariables false
def emp : ByteArray := ⟨#[]⟩
/-- neither is a beginning of the other -/
def Inc (a b : Pth) : Prop := ¬ a <+: b ∧ ¬ b <+: a
theorem Inc.symm {a b : Pth} (h : Inc a b) : Inc b a := ⟨h.2, h.1⟩
theorem Inc.ne {a b : Pth} (h : Inc a b) : a ≠ b := fun e => h.1 (e ▸ List.prefix_refl _)
theorem pre_total {a b c : Pth} (h1 : a <+: c) (h2 : b <+: c) : a <+: b ∨ b <+: a := by
  rcases Nat.le_total a.length b.length with h | h
  · exact .inl (List.prefix_of_prefix_length_le h1 h2 h)
  · exact .inr (List.prefix_of_prefix_length_le h2 h1 h)
theorem Inc.ext {a b x y : Pth} (h : Inc a b) (hx : a <+: x) (hy : b <+: y) : Inc x y :=
  ⟨fun hp => (pre_total (hx.trans hp) hy).elim h.1 h.2, fun hp => (pre_total hx (hy.trans hp)).elim h.1 h.2⟩
theorem inc_labels {q : Pth} {x y : ByteArray} (h : x ≠ y) : Inc (q ++ [x]) (q ++ [y]) := by
  constructor
  · intro hp
    have := hp.eq_of_length (by simp)
    simp at this
    exact h this
  · intro hp
    have := hp.eq_of_length (by simp)
    simp at this
    exact h this.symm
/-- conditions apart -/
def Ap (l : List Cnd) : Prop := l.Pairwise fun a b => Inc a.1 b.1
theorem labs_nodup : ∀ (ls pre : List ByteArray), labsP pre ls = true → ls.Nodup ∧ ∀ x ∈ ls, x ∉ pre
  | [], pre, _ => ⟨List.nodup_nil, fun x h => absurd h List.not_mem_nil⟩
  | x :: ls, pre, h => by
    rw [labsP] at h
    simp only [Bool.and_eq_true, Bool.not_eq_true'] at h
    obtain ⟨⟨h1, h2⟩, h3⟩ := h
    have ih := labs_nodup ls (pre ++ [x]) h3
    have hx : x ∉ pre := fun hc => by rw [hasX_iff.2 hc] at h2; cases h2
    refine ⟨List.nodup_cons.2 ⟨fun hc => ih.2 x hc (by simp), ih.1⟩, fun y hy => ?_⟩
    rcases List.mem_cons.1 hy with rfl | hy
    · exact hx
    · exact fun hc => ih.2 y hy (List.mem_append_left _ hc)
theorem formP_labs {p : AP} (h : formP p = true) : p.ls.Nodup ∧ ∀ a ∈ p.ps, formP a = true := by
  rw [formP_eq, Bool.and_eq_true, Bool.and_eq_true, formL_all] at h
  exact ⟨(labs_nodup _ _ h.1.2).1, fun a ha => List.all_eq_true.1 h.2 a ha⟩
mutual
theorem plP_pre : ∀ (q : Pth) (p : AP), formP p = true → (∀ c ∈ (plP q p).1, q <+: c.1 ∧ formP c.2 = true) ∧ Ap (plP q p).1
  | q, .mk k v n s ol cl ls oa ca ps, h => by
    have hl := formP_labs h
    rw [plP]
    split
    · exact ⟨fun c h => absurd h List.not_mem_nil, List.Pairwise.nil⟩
    · split
      · exact ⟨fun c h => absurd h List.not_mem_nil, List.Pairwise.nil⟩
      · split
        · have := plL_pre q ls ps hl.1 hl.2
          exact ⟨fun c hc => by
            obtain ⟨h1, x, hx, h2⟩ := this.1 c hc
            exact ⟨(List.prefix_append q [x]).trans h2, h1⟩, this.2⟩
        · refine ⟨fun c hc => ?_, List.pairwise_singleton _ _⟩
          rw [List.mem_singleton] at hc
          subst hc
          exact ⟨List.prefix_refl _, h⟩
theorem plL_pre : ∀ (q : Pth) (ls : List ByteArray) (ps : List AP), ls.Nodup → (∀ a ∈ ps, formP a = true) → (∀ c ∈ (plL q ls ps).1, formP c.2 = true ∧ ∃ x ∈ ls, q ++ [x] <+: c.1) ∧ Ap (plL q ls ps).1
  | q, x :: ls, a :: ps, hn, hf => by
    rw [plL]
    have h1 := plP_pre (q ++ [x]) a (hf a (.head _))
    have h2 := plL_pre q ls ps (List.nodup_cons.1 hn).2 fun b hb => hf b (.tail _ hb)
    refine ⟨fun c hc => ?_, List.pairwise_append.2 ⟨h1.2, h2.2, fun c hc d hd => ?_⟩⟩
    · rcases List.mem_append.1 hc with hc | hc
      · exact ⟨(h1.1 c hc).2, x, .head _, (h1.1 c hc).1⟩
      · obtain ⟨h3, y, hy, h4⟩ := h2.1 c hc
        exact ⟨h3, y, .tail _ hy, h4⟩
    · obtain ⟨h3, y, hy, h4⟩ := h2.1 d hd
      have hxy : x ≠ y := fun e => (List.nodup_cons.1 hn).1 (e ▸ hy)
      exact (inc_labels hxy).ext (h1.1 c hc).1 h4
  | q, [], _, _, _ => by rw [plL]; exact ⟨fun c h => absurd h List.not_mem_nil, List.Pairwise.nil⟩
  | q, _ :: _, [], _, _ => by rw [plL]; exact ⟨fun c h => absurd h List.not_mem_nil, List.Pairwise.nil⟩
end
theorem plC_cons (c : Cnd) (l : List Cnd) : plC (c :: l) = ((plP c.1 c.2).1 ++ (plC l).1, (plP c.1 c.2).2 ++ (plC l).2) := by unfold plC; simp
theorem plC_pre : ∀ (l : List Cnd), (∀ c ∈ l, formP c.2 = true) → Ap l → (∀ c ∈ (plC l).1, formP c.2 = true ∧ ∃ d ∈ l, d.1 <+: c.1) ∧ Ap (plC l).1
  | [], _, _ => ⟨fun c h => absurd h List.not_mem_nil, List.Pairwise.nil⟩
  | c :: l, hf, ha => by
    rw [plC_cons]
    have h1 := plP_pre c.1 c.2 (hf c (.head _))
    have h2 := plC_pre l (fun d hd => hf d (.tail _ hd)) (List.pairwise_cons.1 ha).2
    refine ⟨fun d hd => ?_, List.pairwise_append.2 ⟨h1.2, h2.2, fun d hd e he => ?_⟩⟩
    · rcases List.mem_append.1 hd with hd | hd
      · exact ⟨(h1.1 d hd).2, c, .head _, (h1.1 d hd).1⟩
      · obtain ⟨h3, y, hy, h4⟩ := h2.1 d hd
        exact ⟨h3, y, .tail _ hy, h4⟩
    · obtain ⟨h3, y, hy, h4⟩ := h2.1 e he
      exact ((List.pairwise_cons.1 ha).1 y hy).ext (h1.1 d hd).1 h4
theorem plC_path (B : Nat) : ∀ (l : List Cnd), (∀ c ∈ l, c.1.length + szA c.2 ≤ B) → (∀ c ∈ (plC l).1, c.1.length + szA c.2 ≤ B) ∧ ∀ b ∈ (plC l).2, b.2.length + 1 ≤ B
  | [], _ => ⟨fun c h => absurd h List.not_mem_nil, fun c h => absurd h List.not_mem_nil⟩
  | c :: l, h => by
    rw [plC_cons]
    have h1 := pl_path c.1 c.2
    have h2 := plC_path B l fun d hd => h d (.tail _ hd)
    have h3 := h c (.head _)
    refine ⟨fun d hd => ?_, fun d hd => ?_⟩
    · rcases List.mem_append.1 hd with hd | hd
      · have := h1.1 d hd; omega
      · exact h2.1 d hd
    · rcases List.mem_append.1 hd with hd | hd
      · have := h1.2 d hd; omega
      · exact h2.2 d hd
/-- what stays true of a row -/
structure Rw (r : Ln) : Prop where
  form : ∀ c ∈ r.cs, formP c.2 = true
  ap : Ap r.cs
  sz : szC r.cs + r.bs.length ≤ 256
  path : ∀ c ∈ r.cs, c.1.length + szA c.2 ≤ 256
  bpath : ∀ b ∈ r.bs, b.2.length ≤ 256
theorem plain_rw {n : Int} {bs : List Bnd} {cs : List Cnd} (hf : ∀ c ∈ cs, formP c.2 = true) (ha : Ap cs) (hs : szC cs + bs.length ≤ 256) (hp : ∀ c ∈ cs, c.1.length + szA c.2 ≤ 256) (hb : ∀ b ∈ bs, b.2.length ≤ 256) : Rw (plain n bs cs) := by
  have h1 := plC_pre cs hf ha
  have h2 := plC_sz cs
  have h3 := plC_path 256 cs hp
  refine ⟨fun c hc => (h1.1 c hc).1, h1.2, ?_, h3.1, fun b hb' => ?_⟩
  · show szC (plC cs).1 + (bs ++ (plC cs).2).length ≤ 256
    rw [List.length_append]
    omega
  · rcases List.mem_append.1 (show b ∈ bs ++ (plC cs).2 from hb') with hb' | hb'
    · exact hb b hb'
    · have := h3.2 b hb'; omega
/-- a condition of a path, known: what it asks now -/
def step (q : Pth) (c : Cnd) : List Cnd := if c.2.k = 8 then (match c.2.ps with | a :: _ => [(q ++ [emp], a)] | [] => []) else []
def leftC (q : Pth) (cs : List Cnd) : List Cnd := cs.flatMap fun c => if c.1 = q then step q c else [c]
def of (q : Pth) (cs : List Cnd) : Option Cnd := cs.find? fun c => decide (c.1 = q)
def leftL (q : Pth) (h : Hd) (r : Ln) : List Ln := match of q r.cs with
  | none => [r]
  | some c => if c.2.hd = h then [plain r.n r.bs (leftC q r.cs)] else []
def left (q : Pth) (h : Hd) (l : List Ln) : List Ln := l.flatMap (leftL q h)
theorem step_form {q : Pth} {c : Cnd} (h : formP c.2 = true) : ∀ d ∈ step q c, formP d.2 = true ∧ d.1 = q ++ [emp] ∧ szA d.2 + 1 ≤ szA c.2 := by
  intro d hd
  unfold step at hd
  have hz := szA_eq c.2
  split at hd
  · split at hd
    · rename_i a ps hps
      rw [List.mem_singleton] at hd
      subst hd
      rw [hps] at hz
      rw [szL] at hz
      exact ⟨(formP_labs h).2 a (by rw [hps]; exact .head _), rfl, by show szA a + 1 ≤ _; omega⟩
    · exact absurd hd List.not_mem_nil
  · exact absurd hd List.not_mem_nil
theorem step_len (q : Pth) (c : Cnd) : (step q c).length ≤ 1 := by
  unfold step
  split
  · split
    · exact Nat.le_refl _
    · exact Nat.zero_le _
  · exact Nat.zero_le _
theorem step_sz {q : Pth} {c : Cnd} (h : formP c.2 = true) : szC (step q c) ≤ szA c.2 := by
  have h1 := step_form (q := q) h
  have h2 := step_len q c
  match hs : step q c with
  | [] => exact Nat.zero_le _
  | [d] =>
    have := (h1 d (by rw [hs]; exact .head _)).2.2
    rw [szC_cons]
    show _ + 0 ≤ _
    omega
  | _ :: _ :: _ => rw [hs] at h2; simp at h2
theorem leftC_sz {q : Pth} : ∀ (cs : List Cnd), (∀ c ∈ cs, formP c.2 = true) → szC (leftC q cs) ≤ szC cs
  | [], _ => Nat.le_refl _
  | c :: cs, h => by
    have ih := leftC_sz (q := q) cs fun d hd => h d (.tail _ hd)
    have e : leftC q (c :: cs) = (if c.1 = q then step q c else [c]) ++ leftC q cs := rfl
    rw [e, szC_append, szC_cons]
    have : szC (if c.1 = q then step q c else [c]) ≤ szA c.2 := by
      split
      · exact step_sz (h c (.head _))
      · rw [szC_cons]; show _ + 0 ≤ _; omega
    omega
theorem leftC_mem {q : Pth} {cs : List Cnd} {d : Cnd} (hf : ∀ c ∈ cs, formP c.2 = true) (h : d ∈ leftC q cs) : formP d.2 = true ∧ ∃ c ∈ cs, (d = c ∧ c.1 ≠ q ∨ c.1 = q ∧ d.1 = q ++ [emp] ∧ szA d.2 + 1 ≤ szA c.2) := by
  obtain ⟨c, hc, hd⟩ := List.mem_flatMap.1 h
  split at hd
  · rename_i he
    have := step_form (hf c hc) d hd
    exact ⟨this.1, c, hc, .inr ⟨he, this.2⟩⟩
  · rename_i he
    rw [List.mem_singleton] at hd
    subst hd
    exact ⟨hf d hc, d, hc, .inl ⟨rfl, he⟩⟩
theorem leftC_ap {q : Pth} : ∀ (cs : List Cnd), (∀ c ∈ cs, formP c.2 = true) → Ap cs → Ap (leftC q cs)
  | [], _, _ => List.Pairwise.nil
  | c :: cs, hf, ha => by
    have hf' : ∀ d ∈ cs, formP d.2 = true := fun d hd => hf d (.tail _ hd)
    have ih := leftC_ap (q := q) cs hf' (List.pairwise_cons.1 ha).2
    have e : leftC q (c :: cs) = (if c.1 = q then step q c else [c]) ++ leftC q cs := rfl
    rw [e]
    have key : ∀ x ∈ (if c.1 = q then step q c else [c]), c.1 <+: x.1 := by
      intro x hx
      split at hx
      · rename_i he
        rw [(step_form (hf c (.head _)) x hx).2.1, he]
        exact List.prefix_append _ _
      · rw [List.mem_singleton] at hx
        subst hx
        exact List.prefix_refl _
    refine List.pairwise_append.2 ⟨?_, ih, fun x hx y hy => ?_⟩
    · have hl : (if c.1 = q then step q c else [c]).length ≤ 1 := by
        split
        · exact step_len q c
        · exact Nat.le_refl _
      match hs : (if c.1 = q then step q c else [c]) with
      | [] => exact List.Pairwise.nil
      | [d] => exact List.pairwise_singleton _ _
      | _ :: _ :: _ => rw [hs] at hl; simp at hl
    · obtain ⟨_, d, hd, h2⟩ := leftC_mem hf' hy
      have hi := (List.pairwise_cons.1 ha).1 d hd
      refine hi.ext (key x hx) ?_
      rcases h2 with ⟨rfl, _⟩ | ⟨h3, h4, _⟩
      · exact List.prefix_refl _
      · rw [h4, h3]; exact List.prefix_append _ _
theorem leftL_rw {q : Pth} {h : Hd} {r : Ln} (hr : Rw r) : ∀ s ∈ leftL q h r, Rw s := by
  intro s hs
  unfold leftL at hs
  split at hs
  · rw [List.mem_singleton] at hs
    subst hs; exact hr
  · split at hs
    · rw [List.mem_singleton] at hs
      subst hs
      refine plain_rw (fun c hc => (leftC_mem hr.form hc).1) (leftC_ap _ hr.form hr.ap) ?_ (fun c hc => ?_) hr.bpath
      · have := leftC_sz (q := q) r.cs hr.form
        have := hr.sz
        omega
      · obtain ⟨_, d, hd, h2⟩ := leftC_mem hr.form hc
        have h3 := hr.path d hd
        rcases h2 with ⟨rfl, _⟩ | ⟨h4, h5, h6⟩
        · exact h3
        · rw [h5, List.length_append, ← h4]; simp; omega
    · exact absurd hs List.not_mem_nil
theorem leftL_len (q : Pth) (h : Hd) (r : Ln) : (leftL q h r).length ≤ 1 := by
  unfold leftL
  split
  · exact Nat.le_refl _
  · split
    · exact Nat.le_refl _
    · exact Nat.zero_le _
theorem left_rw {q : Pth} {h : Hd} {l : List Ln} (hl : ∀ r ∈ l, Rw r) : ∀ s ∈ left q h l, Rw s := by
  intro s hs
  obtain ⟨r, hr, h2⟩ := List.mem_flatMap.1 hs
  exact leftL_rw (hl r hr) s h2
theorem left_len (q : Pth) (h : Hd) : ∀ (l : List Ln), (left q h l).length ≤ l.length
  | [] => Nat.le_refl _
  | r :: l => by
    have e : left q h (r :: l) = leftL q h r ++ left q h l := rfl
    rw [e, List.length_append, List.length_cons]
    have := leftL_len q h r
    have := left_len q h l
    omega
theorem left_snoc (q : Pth) (h : Hd) (l : List Ln) (r : Ln) : left q h (l ++ [r]) = left q h l ++ leftL q h r := by unfold left; simp
/-- apart: only one condition is of that path -/
theorem leftC_at {q : Pth} {cs : List Cnd} {i : Nat} {c : Cnd} (ha : Ap cs) (hc : cs[i]? = some c) (hq : c.1 = q) : leftC q cs = cs.take i ++ (step q c ++ cs.drop (i + 1)) := by
  have hid : ∀ (l : List Cnd), (∀ d ∈ l, d.1 ≠ q) → leftC q l = l := by
    intro l hl
    unfold leftC
    induction l with
    | nil => rfl
    | cons d l ih =>
      rw [List.flatMap_cons, if_neg (hl d (.head _)), ih fun e he => hl e (.tail _ he)]
      rfl
  obtain ⟨hi, he⟩ := List.getElem?_eq_some_iff.1 hc
  have e : cs = cs.take i ++ c :: cs.drop (i + 1) := by rw [← he, ← List.drop_eq_getElem_cons hi, List.take_append_drop]
  have ha2 := ha
  rw [e] at ha2
  have h3 := List.pairwise_append.1 ha2
  have h4 := List.pairwise_cons.1 h3.2.1
  have e2 : leftC q cs = leftC q (cs.take i) ++ leftC q (c :: cs.drop (i + 1)) := by
    conv => lhs; rw [e]
    unfold leftC
    rw [List.flatMap_append]
  have e3 : leftC q (c :: cs.drop (i + 1)) = step q c ++ leftC q (cs.drop (i + 1)) := by
    unfold leftC
    rw [List.flatMap_cons, if_pos hq]
  rw [e2, e3, hid _ fun d hd => ?_, hid _ fun d hd => ?_]
  · exact fun h => (h4.1 d hd).ne (by rw [hq, h])
  · exact fun h => (h3.2.2 d hd c (.head _)).ne (by rw [hq, h])
end Go.Proofs.Ytcododdkjppmjaa
namespace Go.Fw
open Go Go.RowKit
theorem HS.two {w0 w : World} {H : List It} {x y : It} (h : HS w0 noM H w) (i j : Nat) (hi : H[i]? = some x) (hj : (H.eraseIdx i)[j]? = some y) : HS w0 noM [x, y] w :=
  ((h.pk i hi).perm ((perm_pick0 j hj).cons x)).dropH (L := [x, y])
end Go.Fw
namespace Go.Proofs.Ytcododdkjppmjaa
open Go Go.Fw
set_option linter.unusedVariables false
def RdLs (w : World) (o : Option Addr) (c : Nat) (l : List ML) : Prop := Rd w o (flat encL l) ∧ l.length ≤ c ∧ c ≤ maxLen ∧ ∀ m ∈ l, RdL w m
theorem atI_cases (l : List MC) (q : Pth) : (atI l q = -1 ∧ ∀ x ∈ l, x.q ≠ q) ∨ ∃ (j : Nat) (x : MC), atI l q = (j : Int) ∧ l[j]? = some x ∧ x.q = q ∧ ∀ (k : Nat) (y : MC), k < j → l[k]? = some y → y.q ≠ q := by
  rcases idxF_lt (fun (m : MC) => decide (m.q = q)) l with h | h
  · by_cases h0 : 0 ≤ atI l q
    · obtain ⟨j, hj⟩ : ∃ j : Nat, atI l q = (j : Int) := ⟨(atI l q).toNat, by omega⟩
      obtain ⟨x, h1, h2, h3⟩ := idxF_some hj
      exact .inr ⟨j, x, hj, h1, of_decide_eq_true h2, fun k y hk hy => of_decide_eq_false (h3 k y hk hy)⟩
    · have h1 : atI l q < 0 := by omega
      have h2 : -1 ≤ atI l q := idxF_ge (fun (m : MC) => decide (m.q = q)) l
      exact .inl ⟨by omega, fun x hx => of_decide_eq_false (idxF_nil h1 x hx)⟩
  · exact .inl ⟨h, fun x hx => of_decide_eq_false (idxF_nil (by rw [h]; decide) x hx)⟩
theorem of_none {q : Pth} {l : List MC} (h : ∀ x ∈ l, x.q ≠ q) : of q (l.map MC.un) = none := by
  unfold of
  rw [List.find?_eq_none]
  intro c hc
  obtain ⟨x, hx, rfl⟩ := List.mem_map.1 hc
  have := decide_eq_false (h x hx)
  show ¬ (decide (x.q = q) = true)
  rw [this]
  decide
theorem of_some {q : Pth} {l : List MC} {j : Nat} {x : MC} (hx : l[j]? = some x) (hq : x.q = q) (hn : ∀ (k : Nat) (y : MC), k < j → l[k]? = some y → y.q ≠ q) : of q (l.map MC.un) = some x.un := by
  unfold of
  rw [List.find?_eq_some_iff_getElem]
  obtain ⟨h1, h2⟩ := List.getElem?_eq_some_iff.1 hx
  refine ⟨decide_eq_true hq, j, by simpa using h1, by simp [h2], fun k hk => ?_⟩
  have := decide_eq_false (hn k _ hk (List.getElem?_eq_getElem (by omega)))
  rw [List.getElem_map]
  show (!decide ((l[k]).q = q)) = true
  rw [this]
  rfl
theorem flatC_p {cs : List MC} {j : Nat} {x : MC} (hx : cs[j]? = some x) : ∀ k v, ([.int .i64 x.p.k, .int .i64 x.p.v, .int .i64 x.p.n, .string x.p.s, .slice x.p.ol x.p.ls.length x.p.cl, .slice x.p.oa x.p.ps.length x.p.ca])[k]? = some v → (flat encC cs)[j * 7 + 1 + k]? = some v := by
  intro k v hv
  rw [Nat.add_assoc]
  refine flat_get encC_len hx ?_
  rw [encC_eq, Nat.add_comm]
  exact hv
theorem leftC_ok {q : Pth} {r : Ln} (hr : Rw r) : (∀ c ∈ leftC q r.cs, formP c.2 = true ∧ c.1.length + szA c.2 ≤ 256) ∧ szC (leftC q r.cs) + r.bs.length ≤ 256 := by
  refine ⟨fun c hc => ⟨(leftC_mem hr.form hc).1, ?_⟩, ?_⟩
  · obtain ⟨_, d, hd, h2⟩ := leftC_mem hr.form hc
    have h3 := hr.path d hd
    rcases h2 with ⟨rfl, _⟩ | ⟨h4, h5, h6⟩
    · exact h3
    · rw [h5, List.length_append, ← h4]; simp; omega
  · have := leftC_sz (q := q) r.cs hr.form
    have := hr.sz
    omega
theorem len_snoc {α : Type} (l : List α) (x : α) : (l ++ [x]).length = l.length + 1 := by simp
theorem left_nil (q : Pth) (h : Hd) : [] = left q h [] := rfl
theorem encL_eq (m : ML) : encL m = [.int .i64 m.n, .slice m.oc m.cs.length m.cc, .slice m.ob m.bs.length m.cb] := rfl
set_option maxRecDepth 10000 attribute [local irreducible] Code.wp wpList Calls Ex Op1 sat bat blk cb own Go.Fw.mp Go.Fw.mpO Go.Fw.mpI Go.Fw.mpE Go.Fw.itr HS Rd Ret wkD Hp Cl Cls Exit.then Exit.inBlock Exit.noGoto bodyPost Go.Fw.flat wk2 Go.Fw.all Go.Fw.owns wpOp
attribute [local irreducible] encA encC encB encL formP formL partsP partsL plP plL plC szA szL szC left leftC

set_option maxHeartbeats 8000000 in
theorem pick_spec (w0 w : World) (H : List It) (K : World → Prop) (o oq : Option Addr) (c cq : Nat) (l : List ML) (q : Pth) (h : Hd)
    (hH : HS w0 noM (frz w0 K :: H) w) (hR : ∀ w, K w → RdLs w o c l ∧ RdQ w oq cq q) (hrw : ∀ m ∈ l, Rw m.un) (hl : l.length ≤ 1000) (hq : q.length ≤ 1000) :
    Ret Try.prog 44 #[.slice o l.length c, .slice oq q.length cq, .agg #[.int .i64 h.ap.k, .int .i64 h.ap.v, .int .i64 h.ap.n, .string h.ap.s, .slice h.ap.ol h.ap.ls.length h.ap.cl, .slice h.ap.oa h.ap.ps.length h.ap.ca]] w (fun v w' => ∃ (K' : World → Prop) (o' : Option Addr) (c' : Nat) (l' : List ML), v = .slice o' l'.length c' ∧
      (∀ w, K' w → K w ∧ RdLs w o' c' l') ∧ l'.map ML.un = left q h (l.map ML.un) ∧ HS w0 noM (frz w0 K' :: H) w') := by
  have hK0 := hH.frz_w (.head _) hR
  have hsp : Sp o l.length := hK0.1.1.sp (sz := 3) (flat_length encL_len l) (by omega)
  have hrL : ∀ w, K w → Rd w o (flat encL l) := fun w h => (hR w h).1.1
  clear hK0
  (refine enter (N := 76) Try.func44 rfl Try.ntmps44 rfl ?_; intro a hA; dsimp only [sl0, Nat.reduceAdd] at hA)
  repeat' (first | (first | (refine GT ?_ ?_ <;> intro hg <;> clear hA a <;> intro a hA <;> (first | exact FA | replace hg := of_decide_eq_true hg | replace hg := of_decide_eq_false hg | skip)) | (refine QT ?_; clear hA a; intro a hA) | (first | (refine BT ?_; clear hA hH; rintro _ w ⟨bN, rfl, hH⟩ a hA) | (refine LT ?_; clear hA hH; rintro _ w ⟨oN, rfl, hH⟩ a hA) | (refine AT ?_; clear hA; rintro _ w ⟨oN, cN, rfl, hH2⟩ a hA; clear hH; have hH := (hH2 _ (by (repeat constructor))).tail; clear hH2) | (refine S0T ?_; clear hH; rintro _ w hH) )) | ((first | refine CT ?_ | (refine DT ?_ ?_ <;> intro hc <;> try (exfalso; omega))) <;> repeat' refine CT ?_) | (first | (refine DSK ?_; clear hA a; intro a hA) | (first | (refine DLT ?_; clear hA hH; rintro _ w ⟨oN, rfl, hH⟩; refine ⟨STT, ?_⟩; intro a hA) | (refine DAT ?_; clear hA; rintro _ w ⟨oN, cN, rfl, hH2⟩; clear hH; have hH := (hH2 _ (by (repeat constructor))).tail; clear hH2; refine ⟨STT, ?_⟩; intro a hA))) )
  obtain ⟨b5, hb5⟩ : ∃ b, b = bN := ⟨_, rfl⟩
  rw [← hb5] at hA hH
  clear hb5 bN
  refine wp_lpk (S := Nat) (fun i a w => ∃ (K' : World → Prop) (oo : Option Addr) (co : Nat) (lo : List ML), (i ≤ l.length ∧ (∀ w, K' w → K w ∧ ∀ m ∈ lo, RdL w m) ∧ lo.map ML.un = left q h ((l.take i).map ML.un)) ∧
      HS w0 noM (own 52 3 oo lo.length co (flat encL lo) :: frz w0 K' :: Go.Fw.cb b5 38 [.int .i64 h.ap.k, .int .i64 h.ap.v, .int .i64 h.ap.n, .string h.ap.s, .slice h.ap.ol h.ap.ls.length h.ap.cl, .slice h.ap.oa h.ap.ps.length h.ap.ca] :: H) w ∧ Sl 76 [(1, .slice oq q.length cq), (5, .pointer (some (bat b5 0))), (7, .slice oo lo.length co), (13, .slice o l.length c), (14, .int .i64 l.length), (15, .int .i64 i)] a)
    (fun i => l.length - i)
    (fun a w => ∃ (K' : World → Prop) (oo : Option Addr) (co : Nat) (lo : List ML), ((∀ w, K' w → K w ∧ ∀ m ∈ lo, RdL w m) ∧ lo.map ML.un = left q h (l.map ML.un)) ∧
      HS w0 noM (own 52 3 oo lo.length co (flat encL lo) :: frz w0 K' :: Go.Fw.cb b5 38 [.int .i64 h.ap.k, .int .i64 h.ap.v, .int .i64 h.ap.n, .string h.ap.s, .slice h.ap.ol h.ap.ls.length h.ap.cl, .slice h.ap.oa h.ap.ps.length h.ap.ca] :: H) w ∧ Sl 76 [(7, .slice oo lo.length co)] a) 0
    ⟨K, none, 0, [], ⟨Nat.zero_le _, fun w hK => ⟨hK, fun m h => absurd h List.not_mem_nil⟩, by rw [List.take_zero]; exact left_nil q h⟩, (hH.nil_flat encL 52 3).perm (by (repeat (first | exact List.Perm.refl _ | exact List.Perm.nil | refine perm_pick 0 rfl ?_ | refine perm_pick 1 rfl ?_ | refine perm_pick 2 rfl ?_ | refine perm_pick 3 rfl ?_ | refine perm_pick 4 rfl ?_ | refine perm_pick 5 rfl ?_ | refine perm_pick 6 rfl ?_ | refine perm_pick 7 rfl ?_ | refine perm_pick 8 rfl ?_ | refine perm_pick 9 rfl ?_ | refine perm_pick 10 rfl ?_ | refine perm_pick 11 rfl ?_))), (hA.sub (by (repeat (first | exact trivial | refine ⟨rfl, ?_⟩))))⟩ ?_ ?_
  rotate_left
  · clear hA hH
    rintro a w ⟨K', oo, co, lo, ⟨hK', hlo⟩, hH, hA⟩
    have hle := hH.own_le (.head _)
    repeat' (first | (first | (refine GT ?_ ?_ <;> intro hg <;> clear hA a <;> intro a hA <;> (first | exact FA | replace hg := of_decide_eq_true hg | replace hg := of_decide_eq_false hg | skip)) | (refine QT ?_; clear hA a; intro a hA) | (first | (refine BT ?_; clear hA hH; rintro _ w ⟨bN, rfl, hH⟩ a hA) | (refine LT ?_; clear hA hH; rintro _ w ⟨oN, rfl, hH⟩ a hA) | (refine AT ?_; clear hA; rintro _ w ⟨oN, cN, rfl, hH2⟩ a hA; clear hH; have hH := (hH2 _ (by (repeat constructor))).tail; clear hH2) | (refine S0T ?_; clear hH; rintro _ w hH) )) | ((first | refine CT ?_ | (refine DT ?_ ?_ <;> intro hc <;> try (exfalso; omega))) <;> repeat' refine CT ?_) | (first | (refine DSK ?_; clear hA a; intro a hA) | (first | (refine DLT ?_; clear hA hH; rintro _ w ⟨oN, rfl, hH⟩; refine ⟨STT, ?_⟩; intro a hA) | (refine DAT ?_; clear hA; rintro _ w ⟨oN, cN, rfl, hH2⟩; clear hH; have hH := (hH2 _ (by (repeat constructor))).tail; clear hH2; refine ⟨STT, ?_⟩; intro a hA))) )
    refine rt1 (.inl rfl) rfl hA rfl ⟨_, oo, co, lo, rfl, ?_, hlo, hH.frz_own.er 1⟩
    rintro w ⟨h1, h2⟩
    exact ⟨(hK' w h2).1, h1, hle.1, hle.2, (hK' w h2).2⟩
  clear hA hH
  rintro i a w ⟨K', oo, co, lo, ⟨hi, hK', hlo⟩, hH, hA⟩
  by_cases hlt : i < l.length
  rotate_left
  · obtain rfl : i = l.length := by omega
    rw [List.take_length] at hlo
    repeat' (first | (first | (refine GT ?_ ?_ <;> intro hg <;> clear hA a <;> intro a hA <;> (first | exact FA | replace hg := of_decide_eq_true hg | replace hg := of_decide_eq_false hg | skip)) | (refine QT ?_; clear hA a; intro a hA) | (first | (refine BT ?_; clear hA hH; rintro _ w ⟨bN, rfl, hH⟩ a hA) | (refine LT ?_; clear hA hH; rintro _ w ⟨oN, rfl, hH⟩ a hA) | (refine AT ?_; clear hA; rintro _ w ⟨oN, cN, rfl, hH2⟩ a hA; clear hH; have hH := (hH2 _ (by (repeat constructor))).tail; clear hH2) | (refine S0T ?_; clear hH; rintro _ w hH) )) | ((first | refine CT ?_ | (refine DT ?_ ?_ <;> intro hc <;> try (exfalso; omega))) <;> repeat' refine CT ?_) | (first | (refine DSK ?_; clear hA a; intro a hA) | (first | (refine DLT ?_; clear hA hH; rintro _ w ⟨oN, rfl, hH⟩; refine ⟨STT, ?_⟩; intro a hA) | (refine DAT ?_; clear hA; rintro _ w ⟨oN, cN, rfl, hH2⟩; clear hH; have hH := (hH2 _ (by (repeat constructor))).tail; clear hH2; refine ⟨STT, ?_⟩; intro a hA))) )
    exact ⟨K', oo, co, lo, ⟨hK', hlo⟩, hH, (hA.sub (by (repeat (first | exact trivial | refine ⟨rfl, ?_⟩))))⟩
  obtain ⟨x, hx⟩ : ∃ x, l[i]? = some x := ⟨_, List.getElem?_eq_getElem hlt⟩
  have hxm := List.mem_of_getElem? hx
  have hvs := flat_all encL_len hx
  rw [encL_eq] at hvs
  have hrL2 : ∀ w, K' w → Rd w o (flat encL l) := fun w h => hrL w (hK' w h).1
  have hRx : ∀ w, K' w → RdL w x := fun w h => (hR w (hK' w h).1).1.2.2.2 x hxm
  have hRq : ∀ w, K' w → RdQ w oq cq q := fun w h => (hR w (hK' w h).1).2
  have hxw := hrw x hxm
  have hxu : (l.map ML.un)[i]? = some x.un := by rw [List.getElem?_map, hx]; rfl
  have hsn := left_snoc q h ((l.map ML.un).take i) x.un
  rw [← take_next hxu, ← List.map_take, ← List.map_take] at hsn
  have hlol : lo.length ≤ i := by
    have e1 := congrArg List.length hlo
    rw [List.length_map] at e1
    have := left_len q h ((l.take i).map ML.un)
    rw [List.length_map, List.length_take] at this
    omega
  have hcl : x.cs.length ≤ 256 := by
    have h1 := hxw.sz
    have h2 := szC_len x.un.cs
    have : x.un.cs.length = x.cs.length := List.length_map ..
    omega
  have hcq : ∀ m ∈ x.cs, m.q.length + szA m.p ≤ 256 := fun m hm => hxw.path m.un (List.mem_map.2 ⟨m, hm, rfl⟩)
  have hcf : ∀ m ∈ x.cs, formP m.p = true := fun m hm => hxw.form m.un (List.mem_map.2 ⟨m, hm, rfl⟩)
  repeat' (first | (first | (refine GT ?_ ?_ <;> intro hg <;> clear hA a <;> intro a hA <;> (first | exact FA | replace hg := of_decide_eq_true hg | replace hg := of_decide_eq_false hg | skip)) | ((first | apply st_ex hA hH rfl rfl (by decide) | apply dr_ex hA rfl rfl rfl (by decide) | apply dr_exp hA rfl rfl rfl (by decide) | apply dr_ex3 hA hH rfl rfl rfl (by decide)); (first | (apply ex_load_st (vs := [.int .i64 x.n, .slice x.oc x.cs.length x.cc, .slice x.ob x.bs.length x.cb]); rfl; rfl; exact cls_frz MEMT hrL2 hvs)); clear hA a; intro a hA) | (refine QT ?_; clear hA a; intro a hA) | (first | (refine BT ?_; clear hA hH; rintro _ w ⟨bN, rfl, hH⟩ a hA) | (refine LT ?_; clear hA hH; rintro _ w ⟨oN, rfl, hH⟩ a hA) | (refine AT ?_; clear hA; rintro _ w ⟨oN, cN, rfl, hH2⟩ a hA; clear hH; have hH := (hH2 _ (by (repeat constructor))).tail; clear hH2) | (refine S0T ?_; clear hH; rintro _ w hH) | (apply st_op0 hA rfl rfl; apply op_store_agg (vs := [.int .i64 x.n, .slice x.oc x.cs.length x.cc, .slice x.ob x.bs.length x.cb]); rfl; rfl; exact hH; (repeat constructor); (repeat rfl); clear hH; rintro _ w hH))) | ((first | refine CT ?_ | (refine DT ?_ ?_ <;> intro hc <;> try (exfalso; omega))) <;> repeat' refine CT ?_) | (first | (refine DSK ?_; clear hA a; intro a hA) | (first | (refine DLT ?_; clear hA hH; rintro _ w ⟨oN, rfl, hH⟩; refine ⟨STT, ?_⟩; intro a hA) | (refine DAT ?_; clear hA; rintro _ w ⟨oN, cN, rfl, hH2⟩; clear hH; have hH := (hH2 _ (by (repeat constructor))).tail; clear hH2; refine ⟨STT, ?_⟩; intro a hA))) )
  obtain ⟨b9, hb9⟩ : ∃ b, b = bN := ⟨_, rfl⟩
  rw [← hb9] at hA hH
  clear hb9 bN
  (refine st_op hA rfl rfl (by decide) (op_call rfl rfl rfl (at_spec _ x oq cq q (hRx _ (hH.frz MEMT)).1 (hRq _ (hH.frz MEMT)) (by omega) (fun m hm => by have := hcq m hm; omega))) ?_; clear hA; rintro _ w ⟨rfl, hk⟩ a hA; replace hH := hH.keep hk; clear hk)
  rcases atI_cases x.cs q with ⟨hat, hno⟩ | ⟨j, y, hat, hy, hyq, hfirst⟩
  · rw [hat] at hA
    have hl1 : leftL q h x.un = [x.un] := by unfold leftL; rw [show of q x.un.cs = none from of_none hno]
    rw [hl1] at hsn
    repeat' (first | (first | (refine GT ?_ ?_ <;> intro hg <;> clear hA a <;> intro a hA <;> (first | exact FA | replace hg := of_decide_eq_true hg | replace hg := of_decide_eq_false hg | skip)) | (refine QT ?_; clear hA a; intro a hA) | (first | (refine BT ?_; clear hA hH; rintro _ w ⟨bN, rfl, hH⟩ a hA) | (refine LT ?_; clear hA hH; rintro _ w ⟨oN, rfl, hH⟩ a hA) | (refine AT ?_; clear hA; rintro _ w ⟨oN, cN, rfl, hH2⟩ a hA; clear hH; have hH := (hH2 _ (by (repeat constructor))).tail; clear hH2) | (refine S0T ?_; clear hH; rintro _ w hH) )) | ((first | refine CT ?_ | (refine DT ?_ ?_ <;> intro hc <;> try (exfalso; omega))) <;> repeat' refine CT ?_) | (first | (refine DSK ?_; clear hA a; intro a hA) | (first | (refine DLT ?_; clear hA hH; rintro _ w ⟨oN, rfl, hH⟩; refine ⟨STT, ?_⟩; intro a hA) | (refine DAT ?_; clear hA; rintro _ w ⟨oN, cN, rfl, hH2⟩; clear hH; have hH := (hH2 _ (by (repeat constructor))).tail; clear hH2; refine ⟨STT, ?_⟩; intro a hA))) )
    rw [← encL_eq, ← flat_snoc, ← len_snoc lo x] at hH
    rw [← len_snoc lo x] at hA
    exact ⟨i + 1, ⟨K', oN, cN, lo ++ [x], ⟨hlt, fun w hw => ⟨(hK' w hw).1, fun m hm => by
      rcases List.mem_append.1 hm with hm | hm
      · exact (hK' w hw).2 m hm
      · rw [List.mem_singleton] at hm; subst hm; exact hRx w hw⟩, by rw [hsn, List.map_append, hlo]; rfl⟩, hH.er 0, (hA.sub (by (repeat (first | exact trivial | refine ⟨rfl, ?_⟩))))⟩, by omega⟩
  have hof : of q x.un.cs = some y.un := of_some hy hyq hfirst
  rw [hat] at hA
  have hjl := (List.getElem?_eq_some_iff.1 hy).1
  have hym := List.mem_of_getElem? hy
  have hyvs := flatC_p hy
  have hspC : Sp x.oc x.cs.length := (hRx _ (hH.frz MEMT)).1.1.sp (sz := 7) (flat_length encC_len x.cs) (by omega)
  have hrC : ∀ w, K' w → Rd w x.oc (flat encC x.cs) := fun w h => (hRx w h).1.1
  have hyf := hcf y hym
  repeat' (first | (first | (refine GT ?_ ?_ <;> intro hg <;> clear hA a <;> intro a hA <;> (first | exact FA | replace hg := of_decide_eq_true hg | replace hg := of_decide_eq_false hg | skip)) | ((first | apply st_ex hA hH rfl rfl (by decide) | apply dr_ex hA rfl rfl rfl (by decide) | apply dr_exp hA rfl rfl rfl (by decide) | apply dr_ex3 hA hH rfl rfl rfl (by decide)); (first | (apply ex_load_st (vs := [.int .i64 y.p.k, .int .i64 y.p.v, .int .i64 y.p.n, .string y.p.s, .slice y.p.ol y.p.ls.length y.p.cl, .slice y.p.oa y.p.ps.length y.p.ca]); rfl; rfl; exact cls_frz MEMT hrC hyvs) | (apply ex_build_p #[.int .i64 y.p.hd.ap.k, .int .i64 y.p.hd.ap.v, .int .i64 y.p.hd.ap.n, .string y.p.hd.ap.s, .slice y.p.hd.ap.ol y.p.hd.ap.ls.length y.p.hd.ap.cl, .slice y.p.hd.ap.oa y.p.hd.ap.ps.length y.p.hd.ap.ca]; rfl; (repeat (first | (intro _ h; exact absurd h (List.not_mem_nil)) | (refine List.forall_mem_cons.2 ⟨one_cell_of _ _, ?_⟩))); rfl)); clear hA a; intro a hA) | (refine QT ?_; clear hA a; intro a hA) | (first | (refine BT ?_; clear hA hH; rintro _ w ⟨bN, rfl, hH⟩ a hA) | (refine LT ?_; clear hA hH; rintro _ w ⟨oN, rfl, hH⟩ a hA) | (refine AT ?_; clear hA; rintro _ w ⟨oN, cN, rfl, hH2⟩ a hA; clear hH; have hH := (hH2 _ (by (repeat constructor))).tail; clear hH2) | (refine S0T ?_; clear hH; rintro _ w hH) | (apply st_op0 hA rfl rfl; apply op_store_agg (vs := [.int .i64 y.p.k, .int .i64 y.p.v, .int .i64 y.p.n, .string y.p.s, .slice y.p.ol y.p.ls.length y.p.cl, .slice y.p.oa y.p.ps.length y.p.ca]); rfl; rfl; exact hH; (repeat constructor); (repeat rfl); clear hH; rintro _ w hH))) | ((first | refine CT ?_ | (refine DT ?_ ?_ <;> intro hc <;> try (exfalso; omega))) <;> repeat' refine CT ?_) | (first | (refine DSK ?_; clear hA a; intro a hA) | (first | (refine DLT ?_; clear hA hH; rintro _ w ⟨oN, rfl, hH⟩; refine ⟨STT, ?_⟩; intro a hA) | (refine DAT ?_; clear hA; rintro _ w ⟨oN, cN, rfl, hH2⟩; clear hH; have hH := (hH2 _ (by (repeat constructor))).tail; clear hH2; refine ⟨STT, ?_⟩; intro a hA))) )
  obtain ⟨b11, hb11⟩ : ∃ b, b = bN := ⟨_, rfl⟩
  rw [← hb11] at hA hH
  clear hb11 bN
  (refine st_op hA rfl rfl (by decide) (op_call rfl rfl rfl (is_spec _ h.ap y.p.hd.ap)) ?_; clear hA; rintro _ w ⟨rfl, hk⟩ a hA; replace hH := hH.keep hk; clear hk)
  have hde : decide (h.ap.hd = y.p.hd.ap.hd) = decide (y.p.hd = h) := by rw [decide_eq_decide]; exact eq_comm
  rw [hde] at hA
  by_cases hyh : y.p.hd = h
  rotate_left
  · rw [decide_eq_false hyh] at hA
    have hl1 : leftL q h x.un = [] := by unfold leftL; rw [hof]; exact if_neg hyh
    rw [hl1] at hsn
    rw [List.append_nil] at hsn
    repeat' (first | (first | (refine GT ?_ ?_ <;> intro hg <;> clear hA a <;> intro a hA <;> (first | exact FA | replace hg := of_decide_eq_true hg | replace hg := of_decide_eq_false hg | skip)) | (refine QT ?_; clear hA a; intro a hA) | (first | (refine BT ?_; clear hA hH; rintro _ w ⟨bN, rfl, hH⟩ a hA) | (refine LT ?_; clear hA hH; rintro _ w ⟨oN, rfl, hH⟩ a hA) | (refine AT ?_; clear hA; rintro _ w ⟨oN, cN, rfl, hH2⟩ a hA; clear hH; have hH := (hH2 _ (by (repeat constructor))).tail; clear hH2) | (refine S0T ?_; clear hH; rintro _ w hH) )) | ((first | refine CT ?_ | (refine DT ?_ ?_ <;> intro hc <;> try (exfalso; omega))) <;> repeat' refine CT ?_) | (first | (refine DSK ?_; clear hA a; intro a hA) | (first | (refine DLT ?_; clear hA hH; rintro _ w ⟨oN, rfl, hH⟩; refine ⟨STT, ?_⟩; intro a hA) | (refine DAT ?_; clear hA; rintro _ w ⟨oN, cN, rfl, hH2⟩; clear hH; have hH := (hH2 _ (by (repeat constructor))).tail; clear hH2; refine ⟨STT, ?_⟩; intro a hA))) )
    exact ⟨i + 1, ⟨K', oo, co, lo, ⟨hlt, hK', by rw [hsn, hlo]⟩, (hH.er 0).er 0, (hA.sub (by (repeat (first | exact trivial | refine ⟨rfl, ?_⟩))))⟩, by omega⟩
  rw [decide_eq_true hyh] at hA
  have hl1 : leftL q h x.un = [plain x.n (x.bs.map MB.un) (leftC q x.un.cs)] := by unfold leftL; rw [hof]; exact if_pos hyh
  rw [hl1] at hsn
  have hcc := (hRx _ (hH.frz MEMT)).1.2
  repeat' (first | (first | (refine GT ?_ ?_ <;> intro hg <;> clear hA a <;> intro a hA <;> (first | exact FA | replace hg := of_decide_eq_true hg | replace hg := of_decide_eq_false hg | skip)) | ((first | apply st_ex hA hH rfl rfl (by decide) | apply dr_ex hA rfl rfl rfl (by decide) | apply dr_exp hA rfl rfl rfl (by decide) | apply dr_ex3 hA hH rfl rfl rfl (by decide)); (first | (apply ex_slice_hi (k := j); rfl; rfl; rfl; omega)); clear hA a; intro a hA) | (refine QT ?_; clear hA a; intro a hA) | (first | (refine BT ?_; clear hA hH; rintro _ w ⟨bN, rfl, hH⟩ a hA) | (refine LT ?_; clear hA hH; rintro _ w ⟨oN, rfl, hH⟩ a hA) | (refine AT ?_; clear hA; rintro _ w ⟨oN, cN, rfl, hH2⟩ a hA; clear hH; have hH := (hH2 _ (by (repeat constructor))).tail; clear hH2) | (refine S0T ?_; clear hH; rintro _ w hH) )) | ((first | refine CT ?_ | (refine DT ?_ ?_ <;> intro hc <;> try (exfalso; omega))) <;> repeat' refine CT ?_) | (first | (refine DSK ?_; clear hA a; intro a hA) | (first | (refine DLT ?_; clear hA hH; rintro _ w ⟨oN, rfl, hH⟩; refine ⟨STT, ?_⟩; intro a hA) | (refine DAT ?_; clear hA; rintro _ w ⟨oN, cN, rfl, hH2⟩; clear hH; have hH := (hH2 _ (by (repeat constructor))).tail; clear hH2; refine ⟨STT, ?_⟩; intro a hA))) )
  (refine st_op hA rfl rfl (by decide) (op_call rfl rfl rfl (cloneC_spec _ x.oc j x.cc (flat encC (x.cs.take j)) (by rw [← flat_take encC_len]; exact (hRx _ (hH.frz MEMT)).1.1.take _) (by rw [flat_length encC_len, List.length_take, Nat.min_eq_left (by omega)]) (encC_one _) (fun h0 => by
    obtain ⟨b, off, h2⟩ := hspC (by omega)
    rw [h0] at h2; cases h2) (by omega))) ?_; clear hA; rintro _ w ⟨o1, c1, rfl, hj⟩ a hA; replace hH := hH.join hj; clear hj)
  have hjt : (x.cs.take j).length = j := by rw [List.length_take]; omega
  have hX := hH; replace hH := hH.drop_
  repeat' (first | (first | (refine GT ?_ ?_ <;> intro hg <;> clear hA a <;> intro a hA <;> (first | exact FA | replace hg := of_decide_eq_true hg | replace hg := of_decide_eq_false hg | skip)) | (refine QT ?_; clear hA a; intro a hA) | (first | (refine BT ?_; clear hA hH; rintro _ w ⟨bN, rfl, hH⟩ a hA) | (refine LT ?_; clear hA hH; rintro _ w ⟨oN, rfl, hH⟩ a hA) | (refine AT ?_; clear hA; rintro _ w ⟨oN, cN, rfl, hH2⟩ a hA; clear hH; have hH := (hH2 _ (by (repeat constructor))).tail; clear hH2) | (refine S0T ?_; clear hH; rintro _ w hH) )) | ((first | refine CT ?_ | (refine DT ?_ ?_ <;> intro hc <;> try (exfalso; omega))) <;> repeat' refine CT ?_) | (first | (refine DSK ?_; clear hA a; intro a hA) | (first | (refine DLT ?_; clear hA hH; rintro _ w ⟨oN, rfl, hH⟩; refine ⟨STT, ?_⟩; intro a hA) | (refine DAT ?_; clear hA; rintro _ w ⟨oN, cN, rfl, hH2⟩; clear hH; have hH := (hH2 _ (by (repeat constructor))).tail; clear hH2; refine ⟨STT, ?_⟩; intro a hA))) )
  clear hH; have hH := hX; clear hX
  refine st_join (fun a w => ∃ (K2 : World → Prop) (on : Option Addr) (cn : Nat) (nc : List MC), ((∀ w, K2 w → K' w ∧ ∀ c ∈ nc, RdC w c) ∧ nc.map MC.un = (x.cs.take j).map MC.un ++ step q y.un ∧ nc.length ≤ j + 1) ∧
      HS w0 noM (own 55 7 on nc.length cn (flat encC nc) :: Go.Fw.cb b9 52 [.int .i64 x.n, .slice x.oc x.cs.length x.cc, .slice x.ob x.bs.length x.cb] :: own 52 3 oo lo.length co (flat encL lo) :: frz w0 K2 :: Go.Fw.cb b5 38 [.int .i64 h.ap.k, .int .i64 h.ap.v, .int .i64 h.ap.n, .string h.ap.s, .slice h.ap.ol h.ap.ls.length h.ap.cl, .slice h.ap.oa h.ap.ps.length h.ap.ca] :: H) w ∧
      Sl 76 [(1, .slice oq q.length cq), (5, .pointer (some (bat b5 0))), (7, .slice oo lo.length co), (9, .pointer (some (bat b9 0))), (10, .int .i64 j), (12, .slice on nc.length cn), (13, .slice o l.length c), (14, .int .i64 l.length), (15, .int .i64 i)] a) ?_ ?_
  · repeat' (first | (first | (refine GT ?_ ?_ <;> intro hg <;> clear hA a <;> intro a hA <;> (first | exact FA | replace hg := of_decide_eq_true hg | replace hg := of_decide_eq_false hg | skip)) | (refine QT ?_; clear hA a; intro a hA) | (first | (refine BT ?_; clear hA hH; rintro _ w ⟨bN, rfl, hH⟩ a hA) | (refine LT ?_; clear hA hH; rintro _ w ⟨oN, rfl, hH⟩ a hA) | (refine AT ?_; clear hA; rintro _ w ⟨oN, cN, rfl, hH2⟩ a hA; clear hH; have hH := (hH2 _ (by (repeat constructor))).tail; clear hH2) | (refine S0T ?_; clear hH; rintro _ w hH) )) | ((first | refine CT ?_ | (refine DT ?_ ?_ <;> intro hc <;> try (exfalso; omega))) <;> repeat' refine CT ?_) | (first | (refine DSK ?_; clear hA a; intro a hA) | (first | (refine DLT ?_; clear hA hH; rintro _ w ⟨oN, rfl, hH⟩; refine ⟨STT, ?_⟩; intro a hA) | (refine DAT ?_; clear hA; rintro _ w ⟨oN, cN, rfl, hH2⟩; clear hH; have hH := (hH2 _ (by (repeat constructor))).tail; clear hH2; refine ⟨STT, ?_⟩; intro a hA))) )
    · have h8 : y.p.k = 8 := by assumption
      have hy1 := (form_k hyf).1 h8
      obtain ⟨arg, harg⟩ : ∃ a, y.p.ps = [a] := by
        match hps : y.p.ps with
        | [a] => exact ⟨a, rfl⟩
        | [] => rw [hps] at hy1; simp at hy1
        | _ :: _ :: _ => rw [hps] at hy1; simp at hy1
      have hst : step q y.un = [(q ++ [emp], arg)] := by
        unfold step
        rw [if_pos (show y.un.2.k = 8 from h8)]
        show (match y.p.ps with | a :: _ => [(q ++ [emp], a)] | [] => []) = _
        rw [harg]
      (refine wp_draw_HS (H := [Go.Fw.cb b11 38 [.int .i64 y.p.k, .int .i64 y.p.v, .int .i64 y.p.n, .string y.p.s, .slice y.p.ol y.p.ls.length y.p.cl, .slice y.p.oa y.p.ps.length y.p.ca], frz w0 K']) [(0, 1), (1, 1), (3, 1), (4, 1), (5, 1), (6, 1), (2, 0), (7, 2), (8, 0), (9, 0), (10, 2)] mixed (by decide +kernel) (hH.two 1 3 rfl rfl) ?_; replace hH := hH.drew)
      have hAa : ∀ w, K' w → Rd w y.p.oa (flat encA y.p.ps) := fun w h => ((hRx w h).1.2.2.2 y hym).2.a
      have hav := flat_all encA_len (l := y.p.ps) (i := 0) (x := arg) (by rw [harg]; rfl)
      rw [encA_eq] at hav
      have hspA : Sp y.p.oa y.p.ps.length := (hAa _ (hH.frz MEMT)).sp (sz := 6) (flat_length encA_len y.p.ps) (by omega)
      repeat' (first | (first | (refine GT ?_ ?_ <;> intro hg <;> clear hA a <;> intro a hA <;> (first | exact FA | replace hg := of_decide_eq_true hg | replace hg := of_decide_eq_false hg | skip)) | ((first | apply st_ex hA hH rfl rfl (by decide) | apply dr_ex hA rfl rfl rfl (by decide) | apply dr_exp hA rfl rfl rfl (by decide) | apply dr_ex3 hA hH rfl rfl rfl (by decide)); (first | (apply ex_load_st (vs := [.int .i64 arg.k, .int .i64 arg.v, .int .i64 arg.n, .string arg.s, .slice arg.ol arg.ls.length arg.cl, .slice arg.oa arg.ps.length arg.ca]); rfl; rfl; exact cls_frz MEMT hAa hav)); clear hA a; intro a hA) | (refine QT ?_; clear hA a; intro a hA) | (first | (refine BT ?_; clear hA hH; rintro _ w ⟨bN, rfl, hH⟩ a hA) | (refine LT ?_; clear hA hH; rintro _ w ⟨oN, rfl, hH⟩ a hA) | (refine AT ?_; clear hA; rintro _ w ⟨oN, cN, rfl, hH2⟩ a hA; clear hH; have hH := (hH2 _ (by (repeat constructor))).tail; clear hH2) | (refine S0T ?_; clear hH; rintro _ w hH) )) | ((first | refine CT ?_ | (refine DT ?_ ?_ <;> intro hc <;> try (exfalso; omega))) <;> repeat' refine CT ?_) | (first | (refine DSK ?_; clear hA a; intro a hA) | (first | (refine DLT ?_; clear hA hH; rintro _ w ⟨oN, rfl, hH⟩; refine ⟨STT, ?_⟩; intro a hA) | (refine DAT ?_; clear hA; rintro _ w ⟨oN, cN, rfl, hH2⟩; clear hH; have hH := (hH2 _ (by (repeat constructor))).tail; clear hH2; refine ⟨STT, ?_⟩; intro a hA))) )
      (refine dr_op hA rfl rfl rfl (by decide) (op_call rfl rfl rfl (to_spec _ oq cq q emp (hRq _ (hH.frz MEMT)) (by omega))) ?_; clear hA; rintro _ w ⟨o2, c2, rfl, hj⟩; refine ⟨by replace hH := hH.join hj; exact hH.two 2 4 rfl rfl, ?_⟩; intro a hA)
      replace hH := hH.join hj
      clear hj
      have hle2 := hH.own_le (.head _)
      repeat' (first | (first | (refine GT ?_ ?_ <;> intro hg <;> clear hA a <;> intro a hA <;> (first | exact FA | replace hg := of_decide_eq_true hg | replace hg := of_decide_eq_false hg | skip)) | ((first | apply st_ex hA hH rfl rfl (by decide) | apply dr_ex hA rfl rfl rfl (by decide) | apply dr_exp hA rfl rfl rfl (by decide) | apply dr_ex3 hA hH rfl rfl rfl (by decide)); (first | (apply ex_build_12 (us := [.int .i64 arg.k, .int .i64 arg.v, .int .i64 arg.n, .string arg.s, .slice arg.ol arg.ls.length arg.cl, .slice arg.oa arg.ps.length arg.ca]); rfl; rfl; rfl; rfl; rfl; exact ⟨size_of _ _ _, size_of _ _ _, trivial⟩)); clear hA a; intro a hA) | (refine QT ?_; clear hA a; intro a hA) | (first | (refine BT ?_; clear hA hH; rintro _ w ⟨bN, rfl, hH⟩ a hA) | (refine LT ?_; clear hA hH; rintro _ w ⟨oN, rfl, hH⟩ a hA) | (refine AT ?_; clear hA; rintro _ w ⟨oN, cN, rfl, hH2⟩ a hA; clear hH; have hH := (hH2 _ (by (repeat constructor))).tail; clear hH2) | (refine S0T ?_; clear hH; rintro _ w hH) )) | ((first | refine CT ?_ | (refine DT ?_ ?_ <;> intro hc <;> try (exfalso; omega))) <;> repeat' refine CT ?_) | (first | (refine DSK ?_; clear hA a; intro a hA) | (first | (refine DLT ?_; clear hA hH; rintro _ w ⟨oN, rfl, hH⟩; refine ⟨STT, ?_⟩; intro a hA) | (refine DAT ?_; clear hA; rintro _ w ⟨oN, cN, rfl, hH2⟩; clear hH; have hH := (hH2 _ (by (repeat constructor))).tail; clear hH2; refine ⟨STT, ?_⟩; intro a hA))) )
      (apply dr_op hA rfl rfl rfl (by decide); apply op_sliceLit (xs := [.slice (MC.mk o2 c2 (q ++ [emp]) arg).o (MC.mk o2 c2 (q ++ [emp]) arg).q.length (MC.mk o2 c2 (q ++ [emp]) arg).c, .int .i64 (MC.mk o2 c2 (q ++ [emp]) arg).p.k, .int .i64 (MC.mk o2 c2 (q ++ [emp]) arg).p.v, .int .i64 (MC.mk o2 c2 (q ++ [emp]) arg).p.n, .string (MC.mk o2 c2 (q ++ [emp]) arg).p.s, .slice (MC.mk o2 c2 (q ++ [emp]) arg).p.ol (MC.mk o2 c2 (q ++ [emp]) arg).p.ls.length (MC.mk o2 c2 (q ++ [emp]) arg).p.cl, .slice (MC.mk o2 c2 (q ++ [emp]) arg).p.oa (MC.mk o2 c2 (q ++ [emp]) arg).p.ps.length (MC.mk o2 c2 (q ++ [emp]) arg).p.ca]) (vs := [.agg #[.slice (MC.mk o2 c2 (q ++ [emp]) arg).o (MC.mk o2 c2 (q ++ [emp]) arg).q.length (MC.mk o2 c2 (q ++ [emp]) arg).c, .int .i64 (MC.mk o2 c2 (q ++ [emp]) arg).p.k, .int .i64 (MC.mk o2 c2 (q ++ [emp]) arg).p.v, .int .i64 (MC.mk o2 c2 (q ++ [emp]) arg).p.n, .string (MC.mk o2 c2 (q ++ [emp]) arg).p.s, .slice (MC.mk o2 c2 (q ++ [emp]) arg).p.ol (MC.mk o2 c2 (q ++ [emp]) arg).p.ls.length (MC.mk o2 c2 (q ++ [emp]) arg).p.cl, .slice (MC.mk o2 c2 (q ++ [emp]) arg).p.oa (MC.mk o2 c2 (q ++ [emp]) arg).p.ps.length (MC.mk o2 c2 (q ++ [emp]) arg).p.ca]]); rfl; rfl; exact (Cats.cn (cs := [.slice (MC.mk o2 c2 (q ++ [emp]) arg).o (MC.mk o2 c2 (q ++ [emp]) arg).q.length (MC.mk o2 c2 (q ++ [emp]) arg).c, .int .i64 (MC.mk o2 c2 (q ++ [emp]) arg).p.k, .int .i64 (MC.mk o2 c2 (q ++ [emp]) arg).p.v, .int .i64 (MC.mk o2 c2 (q ++ [emp]) arg).p.n, .string (MC.mk o2 c2 (q ++ [emp]) arg).p.s, .slice (MC.mk o2 c2 (q ++ [emp]) arg).p.ol (MC.mk o2 c2 (q ++ [emp]) arg).p.ls.length (MC.mk o2 c2 (q ++ [emp]) arg).p.cl, .slice (MC.mk o2 c2 (q ++ [emp]) arg).p.oa (MC.mk o2 c2 (q ++ [emp]) arg).p.ps.length (MC.mk o2 c2 (q ++ [emp]) arg).p.ca]) Cats.nil); rfl; rfl; rfl; exact hH; clear hA hH; rintro _ w ⟨oN, rfl, hH⟩; refine ⟨hH.two 3 5 rfl rfl, ?_⟩; intro a hA)
      (apply dr_op hA rfl rfl rfl (by decide); apply op_append; rfl; rfl; exact hH; exact MEMT; exact (hH.own_rd (List.Mem.head _)); exact rfl; rfl; decide; exact rfl; (unfold maxLen; omega); omega; clear hA; rintro _ w ⟨oN, cN, rfl, hH2⟩; clear hH; have hH := hH2 _ (by (repeat constructor)); clear hH2; refine ⟨hH.two 3 5 rfl rfl, ?_⟩; intro a hA)
      repeat' (first | (first | (refine GT ?_ ?_ <;> intro hg <;> clear hA a <;> intro a hA <;> (first | exact FA | replace hg := of_decide_eq_true hg | replace hg := of_decide_eq_false hg | skip)) | (refine QT ?_; clear hA a; intro a hA) | (first | (refine BT ?_; clear hA hH; rintro _ w ⟨bN, rfl, hH⟩ a hA) | (refine LT ?_; clear hA hH; rintro _ w ⟨oN, rfl, hH⟩ a hA) | (refine AT ?_; clear hA; rintro _ w ⟨oN, cN, rfl, hH2⟩ a hA; clear hH; have hH := (hH2 _ (by (repeat constructor))).tail; clear hH2) | (refine S0T ?_; clear hH; rintro _ w hH) )) | ((first | refine CT ?_ | (refine DT ?_ ?_ <;> intro hc <;> try (exfalso; omega))) <;> repeat' refine CT ?_) | (first | (refine DSK ?_; clear hA a; intro a hA) | (first | (refine DLT ?_; clear hA hH; rintro _ w ⟨oN, rfl, hH⟩; refine ⟨STT, ?_⟩; intro a hA) | (refine DAT ?_; clear hA; rintro _ w ⟨oN, cN, rfl, hH2⟩; clear hH; have hH := (hH2 _ (by (repeat constructor))).tail; clear hH2; refine ⟨STT, ?_⟩; intro a hA))) )
      rw [← encC_eq, ← flat_snoc] at hH
      have e1 : j + 1 = (x.cs.take j ++ [MC.mk o2 c2 (q ++ [emp]) arg]).length := by rw [len_snoc, hjt]
      rw [e1] at hH hA
      refine ⟨_, oN, cN, x.cs.take j ++ [MC.mk o2 c2 (q ++ [emp]) arg], ⟨?_, ?_, ?_⟩, ((((hH.er 0).pk 5 rfl).pk 1 rfl).frz_own.er 2).perm (by (repeat (first | exact List.Perm.refl _ | exact List.Perm.nil | refine perm_pick 0 rfl ?_ | refine perm_pick 1 rfl ?_ | refine perm_pick 2 rfl ?_ | refine perm_pick 3 rfl ?_ | refine perm_pick 4 rfl ?_ | refine perm_pick 5 rfl ?_ | refine perm_pick 6 rfl ?_ | refine perm_pick 7 rfl ?_ | refine perm_pick 8 rfl ?_ | refine perm_pick 9 rfl ?_ | refine perm_pick 10 rfl ?_ | refine perm_pick 11 rfl ?_))), (hA.sub (by (repeat (first | exact trivial | refine ⟨rfl, ?_⟩))))⟩
      · rintro w ⟨h1, h2⟩
        refine ⟨h2, fun m hm => ?_⟩
        rcases List.mem_append.1 hm with hm | hm
        · exact (hRx w h2).1.2.2.2 m (List.mem_of_mem_take hm)
        · rw [List.mem_singleton] at hm
          subst hm
          exact ⟨⟨h1, hle2⟩, ((hRx w h2).1.2.2.2 y hym).2.s arg (by rw [harg]; exact .head _)⟩
      · rw [List.map_append, hst]; rfl
      · rw [← e1]; exact Nat.le_refl _
    · have hst : step q y.un = [] := by
        unfold step
        rw [if_neg (show ¬ y.un.2.k = 8 by assumption)]
      rw [show (Value.slice o1 j c1) = Value.slice o1 (x.cs.take j).length c1 by rw [hjt]] at hA
      exact ⟨K', o1, c1, x.cs.take j, ⟨fun w hw => ⟨hw, fun m hm => (hRx w hw).1.2.2.2 m (List.mem_of_mem_take hm)⟩, by rw [hst, List.append_nil], by omega⟩, (by rw [hjt]; exact hH.er 1), (hA.sub (by (repeat (first | exact trivial | refine ⟨rfl, ?_⟩))))⟩
  clear hA hH
  rintro a w ⟨K2, on, cn, nc, ⟨hK2, hnc, hncl⟩, hH, hA⟩
  have hrC2 := (hRx _ (hK2 _ (hH.frz MEMT)).1).1
  have hsub := hrC2.1.sub (k := j + 1) (c := x.cc) (flat_length encC_len x.cs) (by omega) hcc.1
  rw [flat_drop encC_len] at hsub
  (refine wp_draw_HS (H := [Go.Fw.cb b9 52 [.int .i64 x.n, .slice x.oc x.cs.length x.cc, .slice x.ob x.bs.length x.cb]]) [(0, 1), (1, 1), (2, 1), (3, 1), (4, 1), (5, 1), (6, 1), (7, 1), (8, 0), (9, 0), (10, 0), (11, 0), (12, 2)] mixed (by decide +kernel) ((hH.pick MEMT)) ?_; replace hH := hH.drew)
  repeat' (first | (first | (refine GT ?_ ?_ <;> intro hg <;> clear hA a <;> intro a hA <;> (first | exact FA | replace hg := of_decide_eq_true hg | replace hg := of_decide_eq_false hg | skip)) | ((first | apply st_ex hA hH rfl rfl (by decide) | apply dr_ex hA rfl rfl rfl (by decide) | apply dr_exp hA rfl rfl rfl (by decide) | apply dr_ex3 hA hH rfl rfl rfl (by decide)); (first | (apply ex_slice_lo (k := j + 1); rfl; rfl; rfl; omega)); clear hA a; intro a hA) | (refine QT ?_; clear hA a; intro a hA) | (first | (refine BT ?_; clear hA hH; rintro _ w ⟨bN, rfl, hH⟩ a hA) | (refine LT ?_; clear hA hH; rintro _ w ⟨oN, rfl, hH⟩ a hA) | (refine AT ?_; clear hA; rintro _ w ⟨oN, cN, rfl, hH2⟩ a hA; clear hH; have hH := (hH2 _ (by (repeat constructor))).tail; clear hH2) | (refine S0T ?_; clear hH; rintro _ w hH) )) | ((first | refine CT ?_ | (refine DT ?_ ?_ <;> intro hc <;> try (exfalso; omega))) <;> repeat' refine CT ?_) | (first | (refine DSK ?_; clear hA a; intro a hA) | (first | (refine DLT ?_; clear hA hH; rintro _ w ⟨oN, rfl, hH⟩; refine ⟨STT, ?_⟩; intro a hA) | (refine DAT ?_; clear hA; rintro _ w ⟨oN, cN, rfl, hH2⟩; clear hH; have hH := (hH2 _ (by (repeat constructor))).tail; clear hH2; refine ⟨STT, ?_⟩; intro a hA))) )
  (apply dr_op hA rfl rfl rfl (by decide); apply op_append; rfl; rfl; exact hH; exact MEMT; exact ((HS.init _ noM).drew.rd hsub id); exact (by rw [flat_length encC_len, List.length_drop]); rfl; decide; exact (encC_one _); (unfold maxLen; omega); omega; clear hA; rintro _ w ⟨oN, cN, rfl, hH2⟩; clear hH; have hH := hH2 _ (by (repeat constructor)); clear hH2; refine ⟨hH.pick MEMT, ?_⟩; intro a hA)
  have el : nc.length + (x.cs.length - (j + 1)) = (nc ++ x.cs.drop (j + 1)).length := by rw [List.length_append, List.length_drop]
  rw [el, ← flat_append] at hH
  rw [el] at hA
  have hyu : x.un.cs[j]? = some y.un := by show (x.cs.map MC.un)[j]? = _; rw [List.getElem?_map, hy]; rfl
  have hlc : (nc ++ x.cs.drop (j + 1)).map MC.un = leftC q x.un.cs := by
    rw [leftC_at hxw.ap hyu hyq, List.map_append, hnc, List.append_assoc, List.map_take, List.map_drop]
    rfl
  have hok := leftC_ok (q := q) hxw
  rw [← hlc] at hok
  have hK3 : ∀ w, K2 w → ∀ m ∈ nc ++ x.cs.drop (j + 1), RdC w m := by
    intro w hw m hm
    rcases List.mem_append.1 hm with hm | hm
    · exact (hK2 w hw).2 m hm
    · exact (hRx w (hK2 w hw).1).1.2.2.2 m (List.mem_of_mem_drop hm)
  generalize nc ++ x.cs.drop (j + 1) = nd at *
  have hsz : szC (nd.map MC.un) + x.bs.length ≤ 1000 := by
    have e1 := hok.2
    have e2 : x.un.bs.length = x.bs.length := List.length_map ..
    omega
  have hle3 := hH.own_le (.head _)
  have hF := ((hH.pk 3 rfl).pk 1 rfl).frz_own
  (refine dr_op hA rfl rfl rfl (by decide) (op_call rfl rfl rfl (plain_spec _ _ _ _ x oN cN nd hF (fun w hw => ⟨(hRx w (hK2 w hw.2).1).2, hw.1, hle3.1, hle3.2, hK3 w hw.2⟩) (fun m hm => (hok.1 m.un (List.mem_map.2 ⟨m, hm, rfl⟩)).1) (fun m hm => Nat.le_trans (hok.1 m.un (List.mem_map.2 ⟨m, hm, rfl⟩)).2 (by omega)) hsz)) ?_; clear hA; rintro _ w ⟨K4, m4, rfl, hK4, hun, hH⟩; refine ⟨hH.pick MEMT, ?_⟩; intro a hA)
  (apply dr_op hA rfl rfl rfl (by decide); apply op_sliceLit (xs := [.int .i64 m4.n, .slice m4.oc m4.cs.length m4.cc, .slice m4.ob m4.bs.length m4.cb]) (vs := [.agg #[.int .i64 m4.n, .slice m4.oc m4.cs.length m4.cc, .slice m4.ob m4.bs.length m4.cb]]); rfl; rfl; exact (Cats.cn (cs := [.int .i64 m4.n, .slice m4.oc m4.cs.length m4.cc, .slice m4.ob m4.bs.length m4.cb]) Cats.nil); rfl; rfl; rfl; exact hH; clear hA hH; rintro _ w ⟨oN, rfl, hH⟩; refine ⟨hH.pick MEMT, ?_⟩; intro a hA)
  (apply dr_op hA rfl rfl rfl (by decide); apply op_append; rfl; rfl; exact hH; exact MEMT; exact (hH.own_rd (List.Mem.head _)); exact rfl; rfl; decide; exact rfl; (unfold maxLen; omega); omega; clear hA; rintro _ w ⟨oN, cN, rfl, hH2⟩; clear hH; have hH := hH2 _ (by (repeat constructor)); clear hH2; refine ⟨hH.pick MEMT, ?_⟩; intro a hA)
  repeat' (first | (first | (refine GT ?_ ?_ <;> intro hg <;> clear hA a <;> intro a hA <;> (first | exact FA | replace hg := of_decide_eq_true hg | replace hg := of_decide_eq_false hg | skip)) | (refine QT ?_; clear hA a; intro a hA) | (first | (refine BT ?_; clear hA hH; rintro _ w ⟨bN, rfl, hH⟩ a hA) | (refine LT ?_; clear hA hH; rintro _ w ⟨oN, rfl, hH⟩ a hA) | (refine AT ?_; clear hA; rintro _ w ⟨oN, cN, rfl, hH2⟩ a hA; clear hH; have hH := (hH2 _ (by (repeat constructor))).tail; clear hH2) | (refine S0T ?_; clear hH; rintro _ w hH) )) | ((first | refine CT ?_ | (refine DT ?_ ?_ <;> intro hc <;> try (exfalso; omega))) <;> repeat' refine CT ?_) | (first | (refine DSK ?_; clear hA a; intro a hA) | (first | (refine DLT ?_; clear hA hH; rintro _ w ⟨oN, rfl, hH⟩; refine ⟨STT, ?_⟩; intro a hA) | (refine DAT ?_; clear hA; rintro _ w ⟨oN, cN, rfl, hH2⟩; clear hH; have hH := (hH2 _ (by (repeat constructor))).tail; clear hH2; refine ⟨STT, ?_⟩; intro a hA))) )
  rw [← encL_eq, ← flat_snoc, ← len_snoc lo m4] at hH
  rw [← len_snoc lo m4] at hA
  refine ⟨i + 1, ⟨K4, oN, cN, lo ++ [m4], ⟨hlt, fun w hw => ?_, ?_⟩, (((hH.er 0).er 1).perm (by (repeat (first | exact List.Perm.refl _ | exact List.Perm.nil | refine perm_pick 0 rfl ?_ | refine perm_pick 1 rfl ?_ | refine perm_pick 2 rfl ?_ | refine perm_pick 3 rfl ?_ | refine perm_pick 4 rfl ?_ | refine perm_pick 5 rfl ?_ | refine perm_pick 6 rfl ?_ | refine perm_pick 7 rfl ?_ | refine perm_pick 8 rfl ?_ | refine perm_pick 9 rfl ?_ | refine perm_pick 10 rfl ?_ | refine perm_pick 11 rfl ?_)))), (hA.sub (by (repeat (first | exact trivial | refine ⟨rfl, ?_⟩))))⟩, by omega⟩
  · have h4 := hK4 w hw
    have h5 := hK2 w h4.1.2
    refine ⟨(hK' w h5.1).1, fun m hm => ?_⟩
    rcases List.mem_append.1 hm with hm | hm
    · exact (hK' w h5.1).2 m hm
    · rw [List.mem_singleton] at hm; subst hm; exact h4.2
  · rw [hsn, List.map_append, hlo, ← hlc]
    show _ ++ [m4.un] = _
    rw [hun]
end Go.Proofs.Ytcododdkjppmjaa
namespace Go.Proofs.Ytcododdkjppmjaa
open Go Go.Fw
set_option linter.unusedVariables false
/-- a tree, with what it hangs by -/
inductive Tr where
  | mk (h : Hd) (k n : Int) (bs : List Bnd) (q : Pth) (ts es : List Tr)
/-- and as it lies in memory -/
inductive MT where
  | mk (h : Hd) (k n : Int) (ob : Option Addr) (cb : Nat) (bs : List MB) (oq : Option Addr) (cq : Nat) (q : Pth) (ot : Option Addr) (ct : Nat) (ts : List MT) (oe : Option Addr) (ce : Nat) (es : List MT)
def hd0 : Hd := ⟨0, 0, emp⟩
def MT.h : MT → Hd | mk h _ _ _ _ _ _ _ _ _ _ _ _ _ _ => h
def MT.k : MT → Int | mk _ k _ _ _ _ _ _ _ _ _ _ _ _ _ => k
def MT.n : MT → Int | mk _ _ n _ _ _ _ _ _ _ _ _ _ _ _ => n
def MT.ob : MT → Option Addr | mk _ _ _ ob _ _ _ _ _ _ _ _ _ _ _ => ob
def MT.cb : MT → Nat | mk _ _ _ _ cb _ _ _ _ _ _ _ _ _ _ => cb
def MT.bs : MT → List MB | mk _ _ _ _ _ bs _ _ _ _ _ _ _ _ _ => bs
def MT.oq : MT → Option Addr | mk _ _ _ _ _ _ oq _ _ _ _ _ _ _ _ => oq
def MT.cq : MT → Nat | mk _ _ _ _ _ _ _ cq _ _ _ _ _ _ _ => cq
def MT.q : MT → Pth | mk _ _ _ _ _ _ _ _ q _ _ _ _ _ _ => q
def MT.ot : MT → Option Addr | mk _ _ _ _ _ _ _ _ _ ot _ _ _ _ _ => ot
def MT.ct : MT → Nat | mk _ _ _ _ _ _ _ _ _ _ ct _ _ _ _ => ct
def MT.ts : MT → List MT | mk _ _ _ _ _ _ _ _ _ _ _ ts _ _ _ => ts
def MT.oe : MT → Option Addr | mk _ _ _ _ _ _ _ _ _ _ _ _ oe _ _ => oe
def MT.ce : MT → Nat | mk _ _ _ _ _ _ _ _ _ _ _ _ _ ce _ => ce
def MT.es : MT → List MT | mk _ _ _ _ _ _ _ _ _ _ _ _ _ _ es => es
def encT (t : MT) : List Value := [.int .i64 t.k, .int .i64 t.n, .slice t.ob t.bs.length t.cb, .slice t.oq t.q.length t.cq, .slice t.ot t.ts.length t.ct, .slice t.oe t.es.length t.ce]
def encR (t : MT) : List Value := [.int .i64 t.h.k, .int .i64 0, .int .i64 t.h.n, .string t.h.s, .slice none 0 0, .slice none 0 0, .int .i64 t.k, .int .i64 t.n, .slice t.ob t.bs.length t.cb, .slice t.oq t.q.length t.cq, .slice t.ot t.ts.length t.ct, .slice t.oe t.es.length t.ce]
theorem encT_len (t : MT) : (encT t).length = 6 := rfl
theorem encR_len (t : MT) : (encR t).length = 12 := rfl
/-- what a branch is before its tree is made -/
def zT (h : Hd) : MT := .mk h 0 0 none 0 [] none 0 [] none 0 [] none 0 []
mutual
def MT.un : MT → Tr
  | .mk h k n _ _ bs _ _ q _ _ ts _ _ es => .mk h k n (bs.map MB.un) q (unL ts) (unL es)
def unL : List MT → List Tr
  | [] => []
  | t :: ts => t.un :: unL ts
end
theorem unL_map : ∀ (ts : List MT), unL ts = ts.map MT.un
  | [] => rfl
  | t :: ts => by rw [unL, unL_map ts]; rfl
theorem un_eq (t : MT) : t.un = .mk t.h t.k t.n (t.bs.map MB.un) t.q (t.ts.map MT.un) (t.es.map MT.un) := by
  cases t
  rw [MT.un, unL_map, unL_map]
  rfl
mutual
/-- what a tree holds but for its bindings -/
def itT : MT → List It
  | .mk _ _ _ _ _ _ oq cq q ot ct ts oe ce es => [own 9 1 oq q.length cq (flat encX q), own 75 12 ot ts.length ct (flat encR ts), own 29 6 oe es.length ce (flat encT es), all (itTs ts), all (itTs es)]
def itTs : List MT → List It
  | [] => []
  | t :: ts => all (itT t) :: itTs ts
end
theorem itTs_map : ∀ (ts : List MT), itTs ts = ts.map fun t => all (itT t)
  | [] => rfl
  | t :: ts => by rw [itTs, itTs_map ts]; rfl
theorem itTs_snoc (ts : List MT) (t : MT) : itTs (ts ++ [t]) = itTs ts ++ [all (itT t)] := by rw [itTs_map, itTs_map]; simp
theorem itT_eq (t : MT) : itT t = [own 9 1 t.oq t.q.length t.cq (flat encX t.q), own 75 12 t.ot t.ts.length t.ct (flat encR t.ts), own 29 6 t.oe t.es.length t.ce (flat encT t.es), all (itTs t.ts), all (itTs t.es)] := by
  cases t; rw [itT]; rfl
/-- bindings that can be read -/
inductive RdTB (w : World) : MT → Prop
  | mk {t : MT} (h1 : RdBs w t.ob t.cb t.bs) (h2 : ∀ s ∈ t.ts, RdTB w s) (h3 : ∀ s ∈ t.es, RdTB w s) : RdTB w t
/-- the heads that a path's conditions have -/
def headS (q : Pth) (acc : List Hd) (r : Ln) : List Hd := match of q r.cs with
  | none => acc
  | some c => if c.2.hd ∈ acc then acc else acc ++ [c.2.hd]
def heads (q : Pth) (l : List Ln) : List Hd := l.foldl (headS q) []
theorem heads_snoc (q : Pth) (l : List Ln) (r : Ln) : heads q (l ++ [r]) = headS q (heads q l) r := by unfold heads; rw [List.foldl_append]; rfl
theorem headS_len (q : Pth) (acc : List Hd) (r : Ln) : (headS q acc r).length ≤ acc.length + 1 := by
  unfold headS
  split
  · omega
  · split
    · omega
    · rw [List.length_append]; exact Nat.le_refl _
theorem heads_len (q : Pth) (l : List Ln) : (heads q l).length ≤ l.length := by
  unfold heads
  have : ∀ (l : List Ln) (acc : List Hd), (l.foldl (headS q) acc).length ≤ acc.length + l.length := by
    intro l
    induction l with
    | nil => intro acc; exact Nat.le_refl _
    | cons r l ih =>
      intro acc
      rw [List.foldl_cons, List.length_cons]
      have := ih (headS q acc r)
      have := headS_len q acc r
      omega
  have := this l []
  simpa using this
def restL (q : Pth) (l : List Ln) : List Ln := l.filter fun r => (of q r.cs).isNone
theorem restL_snoc (q : Pth) (l : List Ln) (r : Ln) : restL q (l ++ [r]) = restL q l ++ (if (of q r.cs).isNone then [r] else []) := by
  unfold restL
  rw [List.filter_append, List.filter_cons]
  split <;> rfl
theorem restL_len (q : Pth) (l : List Ln) : (restL q l).length ≤ l.length := List.length_filter_le ..
def brsP (T : Hd → List Ln → Int → Tr × Int) (q : Pth) (l : List Ln) : List Hd → Int → List Tr × Int
  | [], x => ([], x)
  | h :: hs, x => ((T h (left q h l) x).1 :: (brsP T q l hs (T h (left q h l) x).2).1, (brsP T q l hs (T h (left q h l) x).2).2)
theorem brsP_snoc {T : Hd → List Ln → Int → Tr × Int} {q : Pth} {l : List Ln} : ∀ (hs : List Hd) (h : Hd) (x : Int),
    brsP T q l (hs ++ [h]) x = ((brsP T q l hs x).1 ++ [(T h (left q h l) (brsP T q l hs x).2).1], (T h (left q h l) (brsP T q l hs x).2).2)
  | [], h, x => rfl
  | g :: hs, h, x => by
    rw [List.cons_append, brsP, brsP_snoc hs h]
    rfl
/-- the tree that rows have, and what is left of what may be made -/
def treeB (T : Hd → List Ln → Int → Tr × Int) (h : Hd) (l : List Ln) (x : Int) : Tr × Int := if x - 1 < 0 then (.mk h 1 0 [] [] [] [], x - 1) else match l with
    | [] => (.mk h 1 0 [] [] [] [], x - 1)
    | r :: _ => match r.cs with
      | [] => (.mk h 2 r.n r.bs [] [] [], x - 1)
      | c :: _ => (.mk h 3 0 [] c.1 (brsP T c.1 l (heads c.1 l) (x - 1)).1 [(T hd0 (restL c.1 l) (brsP T c.1 l (heads c.1 l) (x - 1)).2).1],
          (T hd0 (restL c.1 l) (brsP T c.1 l (heads c.1 l) (x - 1)).2).2)
def treeP : Nat → Hd → List Ln → Int → Tr × Int
  | 0 => fun h _ x => (.mk h 1 0 [] [] [] [], x - 1)
  | f + 1 => treeB (treeP f)
theorem treeP_0 (h : Hd) (l : List Ln) (x : Int) : treeP 0 h l x = (.mk h 1 0 [] [] [] [], x - 1) := rfl
theorem treeP_s (f : Nat) (h : Hd) (l : List Ln) (x : Int) : treeP (f + 1) h l x = treeB (treeP f) h l x := rfl
theorem treeB_neg {T : Hd → List Ln → Int → Tr × Int} {h : Hd} {l : List Ln} {x : Int} (hx : x - 1 < 0) : treeB T h l x = (.mk h 1 0 [] [] [] [], x - 1) := by unfold treeB; rw [if_pos hx]
theorem treeB_nil {T : Hd → List Ln → Int → Tr × Int} {h : Hd} {x : Int} : treeB T h [] x = (.mk h 1 0 [] [] [] [], x - 1) := by unfold treeB; split <;> rfl
theorem treeB_leaf {T : Hd → List Ln → Int → Tr × Int} {h : Hd} {r : Ln} {l : List Ln} {x : Int} (hx : ¬ x - 1 < 0) (hc : r.cs = []) : treeB T h (r :: l) x = (.mk h 2 r.n r.bs [] [] [], x - 1) := by
  unfold treeB; rw [if_neg hx]; dsimp only; rw [hc]
theorem treeB_test {T : Hd → List Ln → Int → Tr × Int} {h : Hd} {r : Ln} {l : List Ln} {x : Int} {c : Cnd} {cs : List Cnd} (hx : ¬ x - 1 < 0) (hc : r.cs = c :: cs) : treeB T h (r :: l) x =
    (.mk h 3 0 [] c.1 (brsP T c.1 (r :: l) (heads c.1 (r :: l)) (x - 1)).1 [(T hd0 (restL c.1 (r :: l)) (brsP T c.1 (r :: l) (heads c.1 (r :: l)) (x - 1)).2).1],
          (T hd0 (restL c.1 (r :: l)) (brsP T c.1 (r :: l) (heads c.1 (r :: l)) (x - 1)).2).2) := by
  unfold treeB; rw [if_neg hx]; dsimp only; rw [hc]
def pos (x : Int) : Int := if 0 ≤ x then x else 0
theorem brsP_le {T : Hd → List Ln → Int → Tr × Int} {q : Pth} {l : List Ln} (hT : ∀ h (s : List Ln) x, s.length ≤ l.length → (T h s x).2 ≤ x - 1 ∧ x - (T h s x).2 ≤ 66 * (pos x - pos (T h s x).2) + 1) : ∀ (hs : List Hd) (x : Int),
    (brsP T q l hs x).2 ≤ x ∧ x - (brsP T q l hs x).2 ≤ 66 * (pos x - pos (brsP T q l hs x).2) + hs.length
  | [], x => by show x ≤ x ∧ x - x ≤ 66 * (pos x - pos x) + 0; omega
  | h :: hs, x => by
    rw [brsP]
    have h1 := hT h (left q h l) x (left_len q h l)
    have h2 := brsP_le (q := q) hT hs (T h (left q h l) x).2
    rw [List.length_cons]
    dsimp only at h2 ⊢
    omega
theorem treeP_le : ∀ (f : Nat) (h : Hd) (l : List Ln) (x : Int), l.length ≤ 64 → (treeP f h l x).2 ≤ x - 1 ∧ x - (treeP f h l x).2 ≤ 66 * (pos x - pos (treeP f h l x).2) + 1
  | 0, h, l, x, hl => by
    rw [treeP_0]
    dsimp only
    unfold pos
    split <;> split <;> omega
  | f + 1, h, l, x, hl => by
    rw [treeP_s]
    have h0 : x - (x - 1) ≤ 66 * (pos x - pos (x - 1)) + 1 := by
      unfold pos
      split <;> split <;> omega
    by_cases hx : x - 1 < 0
    · rw [treeB_neg hx]; exact ⟨Int.le_refl _, h0⟩
    · match l, hl with
      | [], _ => rw [treeB_nil]; exact ⟨Int.le_refl _, h0⟩
      | r :: l, hl =>
        match hc : r.cs with
        | [] => rw [treeB_leaf hx hc]; exact ⟨Int.le_refl _, h0⟩
        | c :: _ =>
          rw [treeB_test hx hc]
          dsimp only
          have hb := brsP_le (T := treeP f) (q := c.1) (l := r :: l) (fun h s x hs => treeP_le f h s x (by omega)) (heads c.1 (r :: l)) (x - 1)
          have hr := treeP_le f hd0 (restL c.1 (r :: l)) (brsP (treeP f) c.1 (r :: l) (heads c.1 (r :: l)) (x - 1)).2 (Nat.le_trans (restL_len ..) hl)
          have hh := heads_len c.1 (r :: l)
          have hp : pos x = pos (x - 1) + 1 := by
            unfold pos
            split <;> split <;> omega
          omega
/-- sizes -/
inductive TrS : Tr → Prop
  | mk {h : Hd} {k n : Int} {bs : List Bnd} {q : Pth} {ts es : List Tr} (h1 : bs.length ≤ 256) (h2 : q.length ≤ 256) (h3 : ∀ b ∈ bs, b.2.length ≤ 256) (h4 : ∀ t ∈ ts, TrS t) (h5 : ∀ t ∈ es, TrS t) : TrS (.mk h k n bs q ts es)
theorem brsP_all {P : Tr → Prop} {T : Hd → List Ln → Int → Tr × Int} {q : Pth} {l : List Ln} (hT : ∀ h x, P (T h (left q h l) x).1) : ∀ (hs : List Hd) (x : Int), ∀ t ∈ (brsP T q l hs x).1, P t
  | [], x, t, ht => absurd ht List.not_mem_nil
  | h :: hs, x, t, ht => by
    rw [brsP] at ht
    rcases List.mem_cons.1 ht with rfl | ht
    · exact hT h x
    · exact brsP_all hT hs _ t ht
theorem treeP_sz : ∀ (f : Nat) (h : Hd) (l : List Ln) (x : Int), (∀ r ∈ l, Rw r) → TrS (treeP f h l x).1
  | 0, h, l, x, hl => .mk (Nat.zero_le _) (Nat.zero_le _) (fun b hb => absurd hb List.not_mem_nil) (fun b hb => absurd hb List.not_mem_nil) (fun b hb => absurd hb List.not_mem_nil)
  | f + 1, h, l, x, hl => by
    have e0 : TrS (.mk h 1 0 [] [] [] []) := .mk (Nat.zero_le _) (Nat.zero_le _) (fun b hb => absurd hb List.not_mem_nil) (fun b hb => absurd hb List.not_mem_nil) (fun b hb => absurd hb List.not_mem_nil)
    rw [treeP_s]
    by_cases hx : x - 1 < 0
    · rw [treeB_neg hx]; exact e0
    · match l, hl with
      | [], _ => rw [treeB_nil]; exact e0
      | r :: l, hl =>
        have hr := hl r (.head _)
        have hrs := hr.sz
        have hrb := hr.bpath
        match hc : r.cs with
        | [] => rw [treeB_leaf hx hc]; exact .mk (by omega) (Nat.zero_le _) hrb (fun b hb => absurd hb List.not_mem_nil) (fun b hb => absurd hb List.not_mem_nil)
        | c :: cs =>
          rw [treeB_test hx hc]
          have hp := hr.path c (by rw [hc]; exact .head _)
          refine .mk (Nat.zero_le _) (by omega) (fun b hb => absurd hb List.not_mem_nil) (brsP_all (fun h x => treeP_sz f h _ x (left_rw hl)) _ _) fun t ht => ?_
          rw [List.mem_singleton] at ht
          subst ht
          exact treeP_sz f _ _ _ fun s hs => hl s (List.mem_filter.1 hs).1
end Go.Proofs.Ytcododdkjppmjaa
