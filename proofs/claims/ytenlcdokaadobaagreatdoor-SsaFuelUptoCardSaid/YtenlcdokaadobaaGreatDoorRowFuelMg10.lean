/-
  anf.May's lists of names, exactly. Conditions: none.
  anf.May's check, at a body that returns a number, exactly. Conditions: none.
  anf.May at functions that return a number: exactly. Conditions: none.
  Graphs that may be: what ssa.May's loop over blocks keeps, exactly. Conditions: none.
-/
import Derived.Test.YtenlcdokaadobaaGreatDoorRowFuelMg9
namespace Go.Proofs.YtenlcdokaadobaaGreatDoor
open Go Go.Fw
set_option linter.unusedVariables false
theorem strs_at {l : List ByteArray} {k : Nat} (h : k < l.length) : (flat encX l)[k * 1]? = some (.string (l.getD k default)) := by
  refine flat_get (off := 0) encX_len (List.getElem?_eq_getElem h) ?_
  rw [List.getD_eq_getElem?_getD, List.getElem?_eq_getElem h]
  rfl
theorem idx_at {l : List ByteArray} {s : ByteArray} {i : Nat} (h : ∀ k, k < i → eqS s (l.getD k default) = false) (hi : i < l.length) (he : eqS s (l.getD i default) = true) : idxF l s = i := by
  unfold idxF
  have : l.findIdx? (fun x => eqS s x) = some i := by
    rw [List.findIdx?_eq_some_iff_getElem]
    refine ⟨hi, ?_, fun j hj => ?_⟩
    · rw [List.getD_eq_getElem?_getD, List.getElem?_eq_getElem hi] at he
      exact he
    · have h1 := h j hj
      rw [List.getD_eq_getElem?_getD, List.getElem?_eq_getElem (by omega)] at h1
      simpa using h1
  rw [this]
theorem idx_none {l : List ByteArray} {s : ByteArray} (h : ∀ k, k < l.length → eqS s (l.getD k default) = false) : idxF l s = -1 := by
  unfold idxF
  have : l.findIdx? (fun x => eqS s x) = none := by
    rw [List.findIdx?_eq_none_iff]
    intro x hx
    obtain ⟨k, hk, rfl⟩ := List.getElem_of_mem hx
    have h1 := h k hk
    rw [List.getD_eq_getElem?_getD, List.getElem?_eq_getElem hk] at h1
    simpa using h1
  rw [this]
theorem lt_next {p : Nat → Prop} {i : Nat} (h : ∀ k, k < i → p k) (ha : p i) : ∀ k, k < i + 1 → p k := fun k hk => by
  by_cases e : k = i
  · exact e ▸ ha
  · exact h k (by omega)
theorem ris_no {l : List ByteArray} {i : Nat} (hi : i < l.length) (h : ¬ risAt l i) : false = true ↔ risP l := ⟨fun e => (by cases e), fun e => absurd (e i hi) h⟩
theorem longS_no {l : List ByteArray} {i : Nat} (hi : i < l.length) (h : 4096 < (l.getD i default).size) : ¬ ∀ s ∈ l, s.size ≤ 4096 := fun hc => by
  have h1 := hc (l.getD i default) (by rw [List.getD_eq_getElem?_getD, List.getElem?_eq_getElem hi]; exact List.getElem_mem hi)
  omega
theorem longS_yes {l : List ByteArray} (h : ∀ k, k < l.length → ¬ 4096 < (l.getD k default).size) : ∀ s ∈ l, s.size ≤ 4096 := fun s hs => by
  obtain ⟨k, hk, rfl⟩ := List.getElem_of_mem hs
  have h1 := h k hk
  rw [List.getD_eq_getElem?_getD, List.getElem?_eq_getElem hk] at h1
  simpa using h1
set_option maxRecDepth 10000 attribute [local irreducible] Code.wp wpList Calls Ex Op1 sat bat blk cb own Go.Fw.mp Go.Fw.mpO Go.Fw.mpI Go.Fw.mpE Go.Fw.itr HS Rd Ret wkD Hp Cl Cls Exit.then Exit.inBlock Exit.noGoto bodyPost Go.Fw.flat wk2 Go.Fw.all Go.Fw.owns wpOp
attribute [local irreducible] sk mpK sko mvO entK geS idxF

set_option maxHeartbeats 4000000 in
theorem rising_spec (w0 : World) (v : Vec ByteArray) (hR : RdV w0 encX v) : Ret Tryz.prog 41 #[.slice v.o v.l.length v.c] w0 (fun r w => ∃ b, r = .bool b ∧ (b = true ↔ risP v.l) ∧ Kp w0 noM w) := by
  have hH : HS w0 noM [] w0 := HS.init w0 noM
  have hle := hR.le
  have hsp : Sp v.o v.l.length := hR.1.sp (sz := 1) (flat_length encX_len _) (by omega)
  (refine enter (N := 28) Tryz.func41 rfl Tryz.ntmps41 rfl ?_; intro a hA; dsimp only [sl0, Nat.reduceAdd] at hA)
  repeat' (first | (refine QT ?_; clear hA a; intro a hA) | (refine CT ?_ <;> repeat' refine CT ?_))
  refine wp_lpk (S := Nat) (fun i a w => (i ≤ v.l.length ∧ ∀ k, k < i → risAt v.l k) ∧ HS w0 noM [] w ∧ Sl 28 [(7, .int .i64 i), (6, .int .i64 v.l.length), (5, .slice v.o v.l.length v.c), (0, .slice v.o v.l.length v.c)] a) (fun i => v.l.length - i)
    (fun a w => risP v.l ∧ HS w0 noM [] w ∧ Sl 28 [] a) 0 ⟨⟨Nat.zero_le _, fun k h => absurd h (Nat.not_lt_zero _)⟩, hH, (hA.sub (by (repeat (first | exact trivial | refine ⟨rfl, ?_⟩)); first | done | fail "sub"))⟩ ?_ ?_
  · clear hA hH
    rintro i a w ⟨⟨hi, hris⟩, hH, hA⟩
    by_cases hlt : i < v.l.length
    rotate_left
    · repeat' (first | (refine QT ?_; clear hA a; intro a hA) | ((first | refine CT ?_ | (refine DT ?_ ?_ <;> intro hc <;> try (exfalso; omega))) <;> repeat' refine CT ?_))
      obtain rfl : i = v.l.length := by omega
      exact ⟨hris, hH, (hA.sub (by (repeat (first | exact trivial | refine ⟨rfl, ?_⟩)); first | done | fail "sub"))⟩
    have e1 : ((i : Int) - 1).toNat = i - 1 := by omega
    repeat' (first | (refine GT ?_ ?_ <;> intro hg <;> clear hA a <;> intro a hA <;> (first | exact FA | replace hg := of_decide_eq_true hg | replace hg := of_decide_eq_false hg | skip)) | ((first | apply st_ex hA hH rfl rfl (by decide) | apply dr_ex hA rfl rfl rfl (by decide) | apply dr_exp hA rfl rfl rfl (by decide) | apply dr_ex3 hA hH rfl rfl rfl (by decide)); (first | (apply ex_eqlS; rfl; rfl) | (apply ex_geqS; rfl; rfl) | (apply ex_indexAddr_nat; rfl; rfl; omega; exact hsp) | (apply ex_indexAddr; rfl; rfl; omega; omega; exact hsp) | (apply ex_load; rfl; refine cl_rd hR.1 id (strs_at ?_); omega)); clear hA a; intro a hA) | (refine QT ?_; clear hA a; intro a hA) | ((first | refine CT ?_ | (refine DT ?_ ?_ <;> intro hc <;> try (exfalso; omega))) <;> repeat' refine CT ?_))
    all_goals first
      | exact ⟨i + 1, ⟨⟨hlt, lt_next hris ⟨by assumption, fun h0 => (by omega)⟩⟩, hH, (hA.sub (by (repeat (first | exact trivial | refine ⟨rfl, ?_⟩)); first | done | fail "sub"))⟩, by omega⟩
      | exact ⟨i + 1, ⟨⟨hlt, lt_next hris ⟨by assumption, fun h0 => (by rw [← e1]; assumption)⟩⟩, hH, (hA.sub (by (repeat (first | exact trivial | refine ⟨rfl, ?_⟩)); first | done | fail "sub"))⟩, by omega⟩
      | exact rt1 (.inl rfl) rfl hA rfl ⟨_, rfl, ris_no hlt (fun h => absurd ((by assumption : eqS (v.l.getD i default) empS = true).symm.trans h.1) (by decide)), hH.kp⟩
      | exact rt1 (.inl rfl) rfl hA rfl ⟨_, rfl, ris_no hlt (fun h => (by have h1 := h.2 (by omega); rw [← e1] at h1; exact absurd ((by assumption : geS (v.l.getD ((i : Int) - 1).toNat default) (v.l.getD i default) = true).symm.trans h1) (by decide))), hH.kp⟩
  clear hA hH
  rintro a w ⟨hris, hH, hA⟩
  repeat' (first | (refine QT ?_; clear hA a; intro a hA) | (refine CT ?_ <;> repeat' refine CT ?_))
  exact rt1 (.inl rfl) rfl hA rfl ⟨_, rfl, iff_of_true rfl hris, hH.kp⟩
set_option maxHeartbeats 4000000 in
theorem indexX_spec (w0 : World) (v : Vec ByteArray) (s : ByteArray) (hR : RdV w0 encX v) : Ret Tryz.prog 76 #[.slice v.o v.l.length v.c, .string s] w0 (fun r w => r = .int .i64 (idxF v.l s) ∧ Kp w0 noM w) := by
  have hH : HS w0 noM [] w0 := HS.init w0 noM
  have hle := hR.le
  have hsp : Sp v.o v.l.length := hR.1.sp (sz := 1) (flat_length encX_len _) (by omega)
  (refine enter (N := 19) Tryz.func76 rfl Tryz.ntmps76 rfl ?_; intro a hA; dsimp only [sl0, Nat.reduceAdd] at hA)
  repeat' (first | (refine QT ?_; clear hA a; intro a hA) | (refine CT ?_ <;> repeat' refine CT ?_))
  refine wp_lpk (S := Nat) (fun i a w => (i ≤ v.l.length ∧ ∀ k, k < i → eqS s (v.l.getD k default) = false) ∧ HS w0 noM [] w ∧ Sl 19 [(8, .int .i64 i), (7, .int .i64 v.l.length), (1, .string s), (0, .slice v.o v.l.length v.c)] a) (fun i => v.l.length - i)
    (fun a w => idxF v.l s = -1 ∧ HS w0 noM [] w ∧ Sl 19 [] a) 0 ⟨⟨Nat.zero_le _, fun k h => absurd h (Nat.not_lt_zero _)⟩, hH, (hA.sub (by (repeat (first | exact trivial | refine ⟨rfl, ?_⟩)); first | done | fail "sub"))⟩ ?_ ?_
  · clear hA hH
    rintro i a w ⟨⟨hi, hno⟩, hH, hA⟩
    by_cases hlt : i < v.l.length
    rotate_left
    · repeat' (first | (refine QT ?_; clear hA a; intro a hA) | ((first | refine CT ?_ | (refine DT ?_ ?_ <;> intro hc <;> try (exfalso; omega))) <;> repeat' refine CT ?_))
      obtain rfl : i = v.l.length := by omega
      exact ⟨idx_none hno, hH, (hA.sub (by (repeat (first | exact trivial | refine ⟨rfl, ?_⟩)); first | done | fail "sub"))⟩
    repeat' (first | ((first | apply st_ex hA hH rfl rfl (by decide) | apply dr_ex hA rfl rfl rfl (by decide) | apply dr_exp hA rfl rfl rfl (by decide) | apply dr_ex3 hA hH rfl rfl rfl (by decide)); (first | (apply ex_eqlS; rfl; rfl) | (apply ex_indexAddr_nat; rfl; rfl; omega; exact hsp) | (apply ex_load; rfl; refine cl_rd hR.1 id (strs_at ?_); omega)); clear hA a; intro a hA) | (refine QT ?_; clear hA a; intro a hA) | ((first | refine CT ?_ | (refine DT ?_ ?_ <;> intro hc <;> try (exfalso; omega))) <;> repeat' refine CT ?_))
    all_goals first | exact ⟨i + 1, ⟨⟨hlt, lt_next hno (by assumption)⟩, hH, (hA.sub (by (repeat (first | exact trivial | refine ⟨rfl, ?_⟩)); first | done | fail "sub"))⟩, by omega⟩ | exact rt1 (.inl rfl) rfl hA rfl ⟨by rw [idx_at hno hlt (by assumption)], hH.kp⟩
  clear hA hH
  rintro a w ⟨hno, hH, hA⟩
  repeat' (first | (refine QT ?_; clear hA a; intro a hA) | (refine CT ?_ <;> repeat' refine CT ?_))
  exact rt1 (.inl rfl) rfl hA rfl ⟨by rw [hno], hH.kp⟩
set_option maxHeartbeats 4000000 in
theorem containsX_spec (w0 : World) (v : Vec ByteArray) (s : ByteArray) (hR : RdV w0 encX v) : Ret Tryz.prog 42 #[.slice v.o v.l.length v.c, .string s] w0 (fun r w => r = .bool (decide (0 ≤ idxF v.l s)) ∧ Kp w0 noM w) := by
  have hH : HS w0 noM [] w0 := HS.init w0 noM
  (refine enter (N := 9) Tryz.func42 rfl Tryz.ntmps42 rfl ?_; intro a hA; dsimp only [sl0, Nat.reduceAdd] at hA)
  repeat' (first | (refine QT ?_; clear hA a; intro a hA) | (refine CT ?_ <;> repeat' refine CT ?_))
  (refine st_op hA rfl rfl (by decide) (op_call rfl rfl rfl (indexX_spec _ v s (hR.keep hH.kp))) ?_; clear hA; rintro _ w ⟨rfl, hk⟩ a hA; replace hH := hH.keep hk; clear hk)
  repeat' (first | (refine QT ?_; clear hA a; intro a hA) | (refine CT ?_ <;> repeat' refine CT ?_))
  exact rt1 (.inl rfl) rfl hA rfl ⟨rfl, hH.kp⟩
set_option maxHeartbeats 4000000 in
theorem long_spec (w0 : World) (s : ByteArray) : Ret Tryz.prog 44 #[.string s] w0 (fun r w => r = .bool (decide (4096 < s.size)) ∧ Kp w0 noM w) := by
  have hH : HS w0 noM [] w0 := HS.init w0 noM
  (refine enter (N := 6) Tryz.func44 rfl Tryz.ntmps44 rfl ?_; intro a hA; dsimp only [sl0, Nat.reduceAdd] at hA)
  repeat' (first | ((first | apply st_ex hA hH rfl rfl (by decide) | apply dr_ex hA rfl rfl rfl (by decide) | apply dr_exp hA rfl rfl rfl (by decide) | apply dr_ex3 hA hH rfl rfl rfl (by decide)); (first | (apply ex_len_string; rfl)); clear hA a; intro a hA) | (refine QT ?_; clear hA a; intro a hA) | (refine CT ?_ <;> repeat' refine CT ?_))
  exact rt1 (.inl rfl) rfl hA rfl ⟨by rw [bts_len]; congr 1; exact decide_eq_decide.2 (by omega), hH.kp⟩
set_option maxHeartbeats 4000000 in
theorem indexFX_spec (w0 : World) (v : Vec ByteArray) (hR : RdV w0 encX v) : Ret Tryz.prog 77 #[.slice v.o v.l.length v.c, .func (.func 44) #[] #[]] w0 (fun r w => ∃ n, r = .int .i64 n ∧ (0 ≤ n ↔ ¬ ∀ s ∈ v.l, s.size ≤ 4096) ∧ Kp w0 noM w) := by
  have hH : HS w0 noM [] w0 := HS.init w0 noM
  have hle := hR.le
  have hsp : Sp v.o v.l.length := hR.1.sp (sz := 1) (flat_length encX_len _) (by omega)
  (refine enter (N := 19) Tryz.func77 rfl Tryz.ntmps77 rfl ?_; intro a hA; dsimp only [sl0, Nat.reduceAdd] at hA)
  repeat' (first | (refine QT ?_; clear hA a; intro a hA) | (refine CT ?_ <;> repeat' refine CT ?_))
  refine wp_lpk (S := Nat) (fun i a w => (i ≤ v.l.length ∧ ∀ k, k < i → ¬ 4096 < (v.l.getD k default).size) ∧ HS w0 noM [] w ∧ Sl 19 [(8, .int .i64 i), (7, .int .i64 v.l.length), (1, .func (.func 44) #[] #[]), (0, .slice v.o v.l.length v.c)] a) (fun i => v.l.length - i)
    (fun a w => (∀ s ∈ v.l, s.size ≤ 4096) ∧ HS w0 noM [] w ∧ Sl 19 [] a) 0 ⟨⟨Nat.zero_le _, fun k h => absurd h (Nat.not_lt_zero _)⟩, hH, (hA.sub (by (repeat (first | exact trivial | refine ⟨rfl, ?_⟩)); first | done | fail "sub"))⟩ ?_ ?_
  · clear hA hH
    rintro i a w ⟨⟨hi, hno⟩, hH, hA⟩
    by_cases hlt : i < v.l.length
    rotate_left
    · repeat' (first | (refine QT ?_; clear hA a; intro a hA) | ((first | refine CT ?_ | (refine DT ?_ ?_ <;> intro hc <;> try (exfalso; omega))) <;> repeat' refine CT ?_))
      obtain rfl : i = v.l.length := by omega
      exact ⟨longS_yes hno, hH, (hA.sub (by (repeat (first | exact trivial | refine ⟨rfl, ?_⟩)); first | done | fail "sub"))⟩
    repeat' (first | ((first | apply st_ex hA hH rfl rfl (by decide) | apply dr_ex hA rfl rfl rfl (by decide) | apply dr_exp hA rfl rfl rfl (by decide) | apply dr_ex3 hA hH rfl rfl rfl (by decide)); (first | (apply ex_indexAddr_nat; rfl; rfl; omega; exact hsp) | (apply ex_load; rfl; refine cl_rd hR.1 id (strs_at ?_); omega)); clear hA a; intro a hA) | (refine QT ?_; clear hA a; intro a hA) | ((first | refine CT ?_ | (refine DT ?_ ?_ <;> intro hc <;> try (exfalso; omega))) <;> repeat' refine CT ?_))
    (refine st_op hA rfl rfl (by decide) (op_call rfl rfl rfl (long_spec _ _)) ?_; clear hA; rintro _ w ⟨rfl, hk⟩ a hA; replace hH := hH.keep hk; clear hk)
    repeat' (first | (refine QT ?_; clear hA a; intro a hA) | ((first | refine CT ?_ | (refine DT ?_ ?_ <;> intro hc <;> try (exfalso; omega))) <;> repeat' refine CT ?_))
    all_goals first | exact ⟨i + 1, ⟨⟨hlt, lt_next hno (by assumption)⟩, hH, (hA.sub (by (repeat (first | exact trivial | refine ⟨rfl, ?_⟩)); first | done | fail "sub"))⟩, by omega⟩ | exact rt1 (.inl rfl) rfl hA rfl ⟨_, rfl, iff_of_true (by omega) (longS_no hlt (by assumption)), hH.kp⟩
  clear hA hH
  rintro a w ⟨hall, hH, hA⟩
  repeat' (first | (refine QT ?_; clear hA a; intro a hA) | (refine CT ?_ <;> repeat' refine CT ?_))
  exact rt1 (.inl rfl) rfl hA rfl ⟨_, rfl, iff_of_false (by decide) (fun h => h hall), hH.kp⟩
set_option maxHeartbeats 4000000 in
theorem containsFX_spec (w0 : World) (v : Vec ByteArray) (hR : RdV w0 encX v) : Ret Tryz.prog 43 #[.slice v.o v.l.length v.c, .func (.func 44) #[] #[]] w0 (fun r w => ∃ b, r = .bool b ∧ (b = true ↔ ¬ ∀ s ∈ v.l, s.size ≤ 4096) ∧ Kp w0 noM w) := by
  have hH : HS w0 noM [] w0 := HS.init w0 noM
  (refine enter (N := 9) Tryz.func43 rfl Tryz.ntmps43 rfl ?_; intro a hA; dsimp only [sl0, Nat.reduceAdd] at hA)
  repeat' (first | (refine QT ?_; clear hA a; intro a hA) | (refine CT ?_ <;> repeat' refine CT ?_))
  (refine st_op hA rfl rfl (by decide) (op_call rfl rfl rfl (indexFX_spec _ v (hR.keep hH.kp))) ?_; clear hA; rintro _ w ⟨n, rfl, hn, hk⟩ a hA; replace hH := hH.keep hk; clear hk)
  repeat' (first | (refine QT ?_; clear hA a; intro a hA) | (refine CT ?_ <;> repeat' refine CT ?_))
  exact rt1 (.inl rfl) rfl hA rfl ⟨_, rfl, decide_eq_true_iff.trans hn, hH.kp⟩
end Go.Proofs.YtenlcdokaadobaaGreatDoor
namespace Go.Proofs.YtenlcdokaadobaaGreatDoor
open Go Go.Fw
set_option linter.unusedVariables false
def encB (o : Option Addr) : List Value := [.int .i64 2, .int .i64 0, .slice none 0 0, .int .i64 0, .slice none 0 0, .int .i64 0, .int .i64 0, .slice none 0 0, .slice none 0 0, .slice o 1 1, .slice none 0 0]
def at0 : Atm := ⟨2, 0⟩
structure Kk where
  oP : Option Addr
  nP : Nat
  cP : Nat
  g : Grs
  oA : Option Addr
  nA : Nat
  cA : Nat
  caps : Int
  e : Option Nat
  n : Option Nat
  j : Option Nat
  o : Option Nat
def encKk (c : Kk) (p : Int) : List Value := [.slice c.oP c.nP c.cP, .slice c.g.ls.o c.g.ls.l.length c.g.ls.c, .slice c.g.ts.o c.g.ts.l.length c.g.ts.c, .slice c.g.xs.o c.g.xs.l.length c.g.xs.c, .slice c.g.ss.o c.g.ss.l.length c.g.ss.c,
  .slice c.oA c.nA c.cA, .int .i64 p, .int .i64 c.caps, .map c.e, .map c.n, .map c.j, .map c.o]
set_option maxRecDepth 10000 attribute [local irreducible] Code.wp wpList Calls Ex Op1 sat bat blk cb own Go.Fw.mp Go.Fw.mpO Go.Fw.mpI Go.Fw.mpE Go.Fw.itr HS Rd Ret wkD Hp Cl Cls Exit.then Exit.inBlock Exit.noGoto bodyPost Go.Fw.flat wk2 Go.Fw.all Go.Fw.owns wpOp
attribute [local irreducible] sk mpK sko mvO entK geS

set_option maxHeartbeats 4000000 in
theorem indexFA_spec (w0 : World) (f : Value) : Ret Tryz.prog 113 #[.slice none 0 0, f] w0 (fun r w => r = .int .i64 (-1) ∧ Kp w0 noM w) := by
  have hH : HS w0 noM [] w0 := HS.init w0 noM
  (refine enter (N := 19) Tryz.func113 rfl Tryz.ntmps113 rfl ?_; intro a hA; dsimp only [sl0, Nat.reduceAdd] at hA)
  repeat' (first | (refine QT ?_; clear hA a; intro a hA) | (refine CT ?_ <;> repeat' refine CT ?_))
  refine wp_lpk (S := Nat) (fun i a w => i = 0 ∧ HS w0 noM [] w ∧ Sl 19 [(8, .int .i64 0), (7, .int .i64 0)] a) (fun i => i) (fun a w => HS w0 noM [] w ∧ Sl 19 [] a) 0 ⟨rfl, hH, (hA.sub (by (repeat (first | exact trivial | refine ⟨rfl, ?_⟩)); first | done | fail "sub"))⟩ ?_ ?_
  · clear hA hH
    rintro i a w ⟨hi, hH, hA⟩
    repeat' (first | (refine QT ?_; clear hA a; intro a hA) | (refine CT ?_ <;> repeat' refine CT ?_))
    exact ⟨hH, (hA.sub (by (repeat (first | exact trivial | refine ⟨rfl, ?_⟩)); first | done | fail "sub"))⟩
  clear hA hH
  rintro a w ⟨hH, hA⟩
  repeat' (first | (refine QT ?_; clear hA a; intro a hA) | (refine CT ?_ <;> repeat' refine CT ?_))
  exact rt1 (.inl rfl) rfl hA rfl ⟨rfl, hH.kp⟩
set_option maxHeartbeats 4000000 in
theorem containsFA_spec (w0 : World) (f : Value) : Ret Tryz.prog 84 #[.slice none 0 0, f] w0 (fun r w => r = .bool false ∧ Kp w0 noM w) := by
  have hH : HS w0 noM [] w0 := HS.init w0 noM
  (refine enter (N := 9) Tryz.func84 rfl Tryz.ntmps84 rfl ?_; intro a hA; dsimp only [sl0, Nat.reduceAdd] at hA)
  repeat' (first | (refine QT ?_; clear hA a; intro a hA) | (refine CT ?_ <;> repeat' refine CT ?_))
  (refine st_op hA rfl rfl (by decide) (op_call rfl rfl rfl (indexFA_spec _ f)) ?_; clear hA; rintro _ w ⟨rfl, hk⟩ a hA; replace hH := hH.keep hk; clear hk)
  repeat' (first | (refine QT ?_; clear hA a; intro a hA) | (refine CT ?_ <;> repeat' refine CT ?_))
  exact rt1 (.inl rfl) rfl hA rfl ⟨rfl, hH.kp⟩
def shp2 : List Value := [.bool false, .bool false, .bool false, .bool false, .bool false, .int .i64 1, .int .i64 0]
set_option maxHeartbeats 4000000 in
theorem shapes_spec (w0 : World) : Ret Tryz.prog 78 #[.int .i64 2] w0 (fun r w => r = .tuple #[.agg shp2.toArray, .bool true] ∧ Kp w0 noM w) := by
  have hH : HS w0 noM [] w0 := HS.init w0 noM
  (refine enter (N := 28) Tryz.func78 rfl Tryz.ntmps78 rfl ?_; intro a hA; dsimp only [sl0, Nat.reduceAdd] at hA)
  repeat' (first | ((first | apply st_ex hA hH rfl rfl (by decide) | apply dr_ex hA rfl rfl rfl (by decide) | apply dr_exp hA rfl rfl rfl (by decide) | apply dr_ex3 hA hH rfl rfl rfl (by decide)); (first | (apply ex_build_p (cs := shp2.toArray); rfl; (repeat (first | (intro _ h; exact absurd h (List.not_mem_nil)) | (refine List.forall_mem_cons.2 ⟨one_cell_of _ _, ?_⟩))); rfl)); clear hA a; intro a hA) | (refine QT ?_; clear hA a; intro a hA) | (refine BT ?_; clear hA hH; rintro _ w ⟨bN, rfl, hH⟩ a hA) | (apply st_op0 hA rfl rfl; apply op_store_agg (vs := shp2); rfl; rfl; exact hH; (repeat constructor); (repeat rfl); clear hH; rintro _ w hH) | (refine CT ?_ <;> repeat' refine CT ?_))
  exact rt2c (vs := shp2) (.inl rfl) rfl hA rfl rfl rfl hH (cls_cb_all (by exact MEMT)) ⟨rfl, hH.kp⟩
set_option maxHeartbeats 4000000 in
theorem atomsA_spec (w0 w : World) (H : List It) (c : Kk) (bK : Nat) (p : Int) (o : Option Addr) (hH : HS w0 noM (cb bK 127 (encKk c (p)) :: H) w) (hr : Rd w0 o (encAt at0)) (hp0 : 0 ≤ p) (hp1 : p ≤ 60001) :
    Ret Tryz.prog 79 #[.pointer (some (bat bK 0)), .slice o 1 1] w (fun r w' => r = .bool true ∧ HS w0 noM (cb bK 127 (encKk c (p + 1)) :: H) w') := by
  have hsp : Sp o 1 := hr.sp (sz := 2) rfl (by omega)
  (refine enter (N := 78) Tryz.func79 rfl Tryz.ntmps79 rfl ?_; intro a hA; dsimp only [sl0, Nat.reduceAdd] at hA)
  repeat' (first | (refine QT ?_; clear hA a; intro a hA) | (refine CT ?_ <;> repeat' refine CT ?_))
  refine wp_lpk (S := Nat) (fun i a w => i ≤ 1 ∧ HS w0 noM (cb bK 127 (encKk c (p + (i : Int))) :: H) w ∧ Sl 78 [(10, .int .i64 i), (9, .int .i64 (1 : Nat)), (8, .slice o 1 1), (0, .pointer (some (bat bK 0)))] a) (fun i => 1 - i)
    (fun a w => HS w0 noM (cb bK 127 (encKk c (p + 1)) :: H) w ∧ Sl 78 [] a) 0 ⟨by omega, (by rw [show p + ((0 : Nat) : Int) = p by omega]; exact hH), (hA.sub (by (repeat (first | exact trivial | refine ⟨rfl, ?_⟩)); first | done | fail "sub"))⟩ ?_ ?_
  · clear hA hH
    rintro i a w ⟨hi, hH, hA⟩
    by_cases hlt : i < 1
    rotate_left
    · obtain rfl : i = 1 := by omega
      repeat' (first | (refine QT ?_; clear hA a; intro a hA) | (refine CT ?_ <;> repeat' refine CT ?_))
      exact ⟨hH, (hA.sub (by (repeat (first | exact trivial | refine ⟨rfl, ?_⟩)); first | done | fail "sub"))⟩
    obtain rfl : i = 0 := by omega
    rw [show p + ((0 : Nat) : Int) = p by omega] at hH
    repeat' (first | (refine GT ?_ ?_ <;> intro hg <;> clear hA a <;> intro a hA <;> (first | exact FA | replace hg := of_decide_eq_true hg | replace hg := of_decide_eq_false hg | skip)) | ((first | apply st_ex hA hH rfl rfl (by decide) | apply dr_ex hA rfl rfl rfl (by decide) | apply dr_exp hA rfl rfl rfl (by decide) | apply dr_ex3 hA hH rfl rfl rfl (by decide)); (first | (apply ex_load_st (vs := encAt at0); rfl; rfl; exact cls_rd hr id (fun i v h => (by rw [Nat.zero_mul, Nat.zero_add]; exact h))) | (apply ex_indexAddr_nat; rfl; rfl; omega; exact hsp)); clear hA a; intro a hA) | (refine QT ?_; clear hA a; intro a hA) | (refine BT ?_; clear hA hH; rintro _ w ⟨bN, rfl, hH⟩ a hA) | (apply st_op0 hA rfl rfl; apply op_store_agg (vs := encAt at0); rfl; rfl; exact hH; (repeat constructor); (repeat rfl); clear hH; rintro _ w hH) | (apply st_op0 hA rfl rfl; apply op_store_fld (cs' := encKk c (p + 1)); rfl; rfl; rfl; exact hH; (repeat constructor); clear hH; rintro _ w hH) | ((first | refine CT ?_ | (refine DT ?_ ?_ <;> intro hc <;> try (exfalso; omega))) <;> repeat' refine CT ?_))
    all_goals first | exact ⟨1, ⟨by omega, hH.tail, (hA.sub (by (repeat (first | exact trivial | refine ⟨rfl, ?_⟩)); first | done | fail "sub"))⟩, by omega⟩ | (exfalso; have h1 := nd_t (by assumption); omega) | skip
  clear hA hH
  rintro a w ⟨hH, hA⟩
  repeat' (first | (refine QT ?_; clear hA a; intro a hA) | (refine CT ?_ <;> repeat' refine CT ?_))
  exact rt1 (.inl rfl) rfl hA rfl ⟨rfl, hH⟩
set_option maxHeartbeats 16000000 in
theorem body_spec (w0 w : World) (H : List It) (c : Kk) (bK : Nat) (p : Int) (o : Option Addr) (hH : HS w0 noM (cb bK 127 (encKk c (p)) :: H) w) (hr : Rd w0 o (encAt at0)) (hp0 : 0 ≤ p) (hp1 : p ≤ 60000) :
    Ret Tryz.prog 45 #[.pointer (some (bat bK 0)), .agg (encB o).toArray, .int .i64 1] w (fun r w' => r = .bool true ∧ HS w0 noM (cb bK 127 (encKk c (p + 2)) :: H) w') := by
  (refine enter (N := 241) Tryz.func45 rfl Tryz.ntmps45 rfl ?_; intro a hA; dsimp only [sl0, Nat.reduceAdd] at hA)
  repeat' (first | (refine QT ?_; clear hA a; intro a hA) | (refine BT ?_; clear hA hH; rintro _ w ⟨bN, rfl, hH⟩ a hA) | (refine CT ?_ <;> repeat' refine CT ?_))
  (refine st_op hA rfl rfl (by decide) (op_call rfl rfl rfl (shapes_spec _)) ?_; clear hA; rintro _ w ⟨rfl, hk⟩ a hA; replace hH := hH.keep hk; clear hk)
  repeat' (first | (refine GT ?_ ?_ <;> intro hg <;> clear hA a <;> intro a hA <;> (first | exact FA | replace hg := of_decide_eq_true hg | replace hg := of_decide_eq_false hg | skip)) | (refine QT ?_; clear hA a; intro a hA) | (refine BT ?_; clear hA hH; rintro _ w ⟨bN, rfl, hH⟩ a hA) | (apply st_op0 hA rfl rfl; apply op_store_agg (vs := shp2); rfl; rfl; exact hH; (repeat constructor); (repeat rfl); clear hH; rintro _ w hH) | (apply st_op0 hA rfl rfl; apply op_store_fld (cs' := encKk c (p + 1)); rfl; rfl; rfl; exact hH; (repeat constructor); clear hH; rintro _ w hH) | (refine CT ?_ <;> repeat' refine CT ?_))
  replace hH := hH.up 4 rfl
  dsimp only [List.eraseIdx_cons_succ, List.eraseIdx_cons_zero] at hH
  (refine st_op hA rfl rfl (by decide) (op_call rfl rfl rfl (atomsA_spec w0 _ _ c bK (p + 1) o hH hr (by omega) (by omega))) ?_; clear hA hH)
  rintro _ w ⟨rfl, hH⟩ a hA
  repeat' (first | (refine QT ?_; clear hA a; intro a hA) | (refine CT ?_ <;> repeat' refine CT ?_))
  (refine st_op hA rfl rfl (by decide) (op_call rfl rfl rfl (containsFA_spec _ _)) ?_; clear hA; rintro _ w ⟨rfl, hk⟩ a hA; replace hH := hH.keep hk; clear hk)
  repeat' (first | (refine QT ?_; clear hA a; intro a hA) | (refine CT ?_ <;> repeat' refine CT ?_))
  rw [show p + 1 + 1 = p + 2 by omega] at hH
  exact rt1 (.inl rfl) rfl hA rfl ⟨rfl, hH.rm 1 |>.rm 1 |>.rm 1 |>.rm 1⟩
end Go.Proofs.YtenlcdokaadobaaGreatDoor
namespace Go.Fw
open Go Go.RowKit
set_option linter.unusedVariables false
section
variable {P : Program} {N : Nat} {l : List (Nat × Value)} {C : World → Prop} {d : Option Tmp} {T : TypeId} {pos : String} {af : Array Edge} {g : Option (Nat × Bool)}
theorem op_insertK {t kt e b : Nat} {kk : IntKind} {x y z : Operand} {ks : List Int} {k : Int} {w0 w : World} {M : Nat → Prop} {H H' : List It} [ht : TMp P t kt e] [hk : TIn P kt kk]
    (hx : ev l x = some (.map (some b))) (hy : ev l y = some (.int .i64 k)) (hz : ev l z = some (.bool true)) (hH : HS w0 M H w) (hr : Rp H (sk b ks) (sk b (sadd ks k)) H') :
    Op1 P N l ⟨d, .insert t x y z, T, pos, af, g⟩ w (fun _ w' => HS w0 M H' w') := by
  intro a hA K Q hK
  have h := op_addK (P := P) (N := N) (d := d) (T := T) (pos := pos) (af := af) (g := g) (t := t) hx hy hz hH hr a hA K Q hK
  exact h
inductive SzL (P : Program) : List (Nat × Nat) → List (Nat × Nat) → Prop
  | nil : SzL P [] []
  | cons {t o s : Nat} {fl szs : List (Nat × Nat)} (h : ∃ i, P.info? t = some i ∧ i.size = s) (k : SzL P fl szs) : SzL P ((t, o) :: fl) ((o, s) :: szs)
theorem run_szl {fl szs : List (Nat × Nat)} (h : SzL P fl szs) (w : World) : (fl.mapM (fun p => do pure (p.2, ← sizeOf p.1)) : Sem (List (Nat × Nat))).run P w = .ok szs w := by
  induction h with
  | nil => simp
  | @cons t o s fl szs h k ih =>
    obtain ⟨i, h1, h2⟩ := h
    rw [List.mapM_cons]
    have e1 : (sizeOf t : Sem Nat).run P w = .ok s w := by
      simp [sizeOf, typeInfo, h1, h2]
    simp only [Sem.run_bind, e1, Result.andThen_ok, Sem.run_pure, ih]
end
end Go.Fw
namespace Go.Proofs.YtenlcdokaadobaaGreatDoor
open Go Go.Fw
set_option linter.unusedVariables false
def encF (o : Option Addr) (c : Int) : List Value := .int .i64 c :: encB o
theorem encF_len (o : Option Addr) (c : Int) : (encF o c).length = 12 := rfl
theorem nb_no {b : Bool} {p : Prop} (h : b = true ↔ p) (hn : (!b) = true) : ¬ p := fun hp => by rw [h.2 hp] at hn; cases hn
theorem nb_yes {b : Bool} {p : Prop} (h : b = true ↔ p) (hn : (!b) = false) : p := h.1 (by cases b with | true => rfl | false => cases hn)
theorem anf_no {cs : List Int} {g : Grs} (h : ¬ AnfP cs g) : false = true ↔ AnfP cs g := ⟨fun e => (by cases e), fun e => absurd e h⟩
def four : List ByteArray := [exnB, exnD, exnM, exnS]
theorem has4 {cs : List Int} {g : Grs} (h : AnfP cs g) : ∀ s ∈ four, hasS g.xs.l s := fun s hs => by
  simp only [four, List.mem_cons, List.not_mem_nil, or_false] at hs
  obtain ⟨h1, h2, h3, h4⟩ := h.has
  rcases hs with rfl | rfl | rfl | rfl <;> assumption
theorem has4_of {l : List ByteArray} (h : ∀ k, k < four.length → hasS l (four.getD k default)) : hasS l exnB ∧ hasS l exnD ∧ hasS l exnM ∧ hasS l exnS := ⟨h 0 (by decide), h 1 (by decide), h 2 (by decide), h 3 (by decide)⟩
theorem caps_next {l : List Int} {i : Nat} {x : Int} (hx : l[i]? = some x) (h : ∀ c ∈ l.take i, 0 ≤ c ∧ c ≤ 4096) (ha : 0 ≤ x ∧ x ≤ 4096) : ∀ c ∈ l.take (i + 1), 0 ≤ c ∧ c ≤ 4096 := by
  rw [take_snoc hx]
  intro c hc
  rcases List.mem_append.1 hc with h1 | h1
  · exact h c h1
  · rw [List.mem_singleton] at h1
    exact h1 ▸ ha
theorem getD_mem {α : Type} {l : List α} {k : Nat} {d : α} (h : k < l.length) : l.getD k d ∈ l := by
  rw [List.getD_eq_getElem?_getD, List.getElem?_eq_getElem h]
  exact List.getElem_mem h
theorem own4 {w0 w : World} {H : List It} {T : Nat} {o : Option Addr} {a b c d : ByteArray} (h : HS w0 noM (own T 1 o 4 4 [.string a, .string b, .string c, .string d] :: H) w) : ∃ sl : List ByteArray, sl = [a, b, c, d] ∧ sl.length = 4 ∧ HS w0 noM (own T 1 o sl.length sl.length (flat encX sl) :: H) w := ⟨[a, b, c, d], rfl, rfl, h⟩
def kk0 (o : Option Addr) (n c : Nat) (g : Grs) : Kk := ⟨o, n, c, g, none, 0, 0, 0, none, none, none, none⟩
theorem cap_at {o : Option Addr} {l : List Int} {k : Nat} (h : k < l.length) : (flat (encF o) l)[k * 12 + 0]? = some (.int .i64 (l.getD k 0)) := by
  refine flat_get (off := 0) (encF_len o) (List.getElem?_eq_getElem h) ?_
  rw [List.getD_eq_getElem?_getD, List.getElem?_eq_getElem h]
  rfl
theorem flatI_s (l : List Int) (x : Int) : flat Fw.encI l ++ [.int .i64 x] = flat Fw.encI (l ++ [x]) := by rw [flat_snoc]; rfl
theorem sub_bd (o : Option Addr) (c : Int) (i : Nat) (v : Value) (h : (encB o)[i]? = some v) : (encF o c)[0 + 1 + i]? = some v := by rw [Nat.zero_add, Nat.add_comm]; exact h
set_option maxRecDepth 10000 attribute [local irreducible] Code.wp wpList Calls Ex Op1 sat bat blk cb own Go.Fw.mp Go.Fw.mpO Go.Fw.mpI Go.Fw.mpE Go.Fw.itr HS Rd Ret wkD Hp Cl Cls Exit.then Exit.inBlock Exit.noGoto bodyPost Go.Fw.flat wk2 Go.Fw.all Go.Fw.owns wpOp
attribute [local irreducible] sk mpK sko mvO entK geS

set_option maxHeartbeats 16000000 in
theorem anfMay_spec (w0 : World) (oF : Option Addr) (cF : Nat) (cs : List Int) (o : Option Addr) (g : Grs) (hF : Rd w0 oF (flat (encF o) cs)) (hr : Rd w0 o (encAt at0)) (hcl : cs.length ≤ 100000) (hls : RdV w0 encX g.ls) (hts : RdV w0 encX g.ts) (hxs : RdV w0 encX g.xs) (hss : RdV w0 encX g.ss) :
    Ret Tryz.prog 18 #[.agg (encP oF cs.length cF g).toArray] w0 (fun v w => ∃ b, v = .bool b ∧ (b = true ↔ AnfP cs g) ∧ Kp w0 noM w) := by
  have hH : HS w0 noM [] w0 := HS.init w0 noM
  have hspF : Sp oF cs.length := hF.sp (sz := 12) (flat_length (encF_len o) _) (by omega)
  (refine enter (N := 126) Tryz.func18 rfl Tryz.ntmps18 rfl ?_; intro a hA; dsimp only [sl0, Nat.reduceAdd] at hA)
  repeat' (first | (refine GT ?_ ?_ <;> intro hg <;> clear hA a <;> intro a hA <;> (first | exact FA | replace hg := of_decide_eq_true hg | replace hg := of_decide_eq_false hg | skip)) | ((first | apply st_ex hA hH rfl rfl (by decide) | apply dr_ex hA rfl rfl rfl (by decide) | apply dr_exp hA rfl rfl rfl (by decide) | apply dr_ex3 hA hH rfl rfl rfl (by decide)); (first | (apply ex_load; rfl; refine cl_rd hF id (cap_at ?_); (show 0 < _); omega)); clear hA a; intro a hA) | (refine QT ?_; clear hA a; intro a hA) | (refine BT ?_; clear hA hH; rintro _ w ⟨bN, rfl, hH⟩ a hA) | (refine LT ?_; clear hA hH; rintro _ w ⟨oN, rfl, hH⟩ a hA) | (refine st_op hA rfl rfl (by decide) (op_call rfl rfl rfl (rising_spec _ g.ls (hls.keep hH.kp))) ?_; clear hA; rintro _ w ⟨b, rfl, hb1, hk⟩ a hA; replace hH := hH.keep hk; clear hk) | (refine st_op hA rfl rfl (by decide) (op_call rfl rfl rfl (rising_spec _ g.ts (hts.keep hH.kp))) ?_; clear hA; rintro _ w ⟨b, rfl, hb2, hk⟩ a hA; replace hH := hH.keep hk; clear hk) | (refine st_op hA rfl rfl (by decide) (op_call rfl rfl rfl (rising_spec _ g.xs (hxs.keep hH.kp))) ?_; clear hA; rintro _ w ⟨b, rfl, hb3, hk⟩ a hA; replace hH := hH.keep hk; clear hk) | ((first | refine CT ?_ | (refine DT ?_ ?_ <;> intro hc <;> try (exfalso; omega))) <;> repeat' refine CT ?_))
  · exact rt1 (.inl rfl) rfl hA rfl ⟨_, rfl, anf_no (fun h => (by have := h.pos; omega)), hH.kp⟩
  · exact rt1 (.inl rfl) rfl hA rfl ⟨_, rfl, anf_no (fun h => (by have := h.top; omega)), hH.kp⟩
  · exact rt1 (.inl rfl) rfl hA rfl ⟨_, rfl, anf_no (fun h => (by assumption : cs.getD (Int.toNat 0) 0 ≠ 0) h.c0), hH.kp⟩
  · exact rt1 (.inl rfl) rfl hA rfl ⟨_, rfl, anf_no (fun h => nb_no hb1 (by assumption) h.ls), hH.kp⟩
  · exact rt1 (.inl rfl) rfl hA rfl ⟨_, rfl, anf_no (fun h => nb_no hb2 (by assumption) h.ts), hH.kp⟩
  · exact rt1 (.inl rfl) rfl hA rfl ⟨_, rfl, anf_no (fun h => nb_no hb3 (by assumption) h.xs), hH.kp⟩
  have hp1 := nb_yes hb1 (by assumption)
  have hp2 := nb_yes hb2 (by assumption)
  have hp3 := nb_yes hb3 (by assumption)
  have hc0 : cs.getD 0 0 = 0 := Decidable.not_not.1 (by assumption : ¬ cs.getD (Int.toNat 0) 0 ≠ 0)
  clear hb1 hb2 hb3
  obtain ⟨b1, hb1⟩ : ∃ x, x = bN := ⟨_, rfl⟩
  rw [← hb1] at hA hH
  clear hb1 bN
  have hcl2 : 1 ≤ cs.length := by omega
  have hcl4 : cs.length ≤ 4096 := by omega
  obtain ⟨sl, hsl0, hsl, hH1⟩ := own4 hH
  have hsl4 : sl = four := hsl0.trans rfl
  clear hsl0
  clear hH
  have hH := hH1
  clear hH1
  have hA2 : Sl 126 [(48, .int .i64 (0 : Nat)), (47, .int .i64 sl.length), (46, .slice oN sl.length sl.length), (1, .pointer (some (bat b1 0)))] a := by rw [hsl]; exact (hA.sub (by (repeat (first | exact trivial | refine ⟨rfl, ?_⟩)); first | done | fail "sub"))
  clear hA
  have hspS := hH.own_sp (T := 9) (o := oN) (.head _)
  refine wp_lpk (S := Nat) (fun i a w => (i ≤ sl.length ∧ ∀ k, k < i → hasS g.xs.l (sl.getD k default)) ∧ HS w0 noM [own 9 1 oN sl.length sl.length (flat encX sl), cb b1 34 (encP oF cs.length cF g)] w ∧ Sl 126 [(48, .int .i64 i), (47, .int .i64 sl.length), (46, .slice oN sl.length sl.length), (1, .pointer (some (bat b1 0)))] a) (fun i => sl.length - i)
    (fun a w => (∀ k, k < sl.length → hasS g.xs.l (sl.getD k default)) ∧ HS w0 noM [cb b1 34 (encP oF cs.length cF g)] w ∧ Sl 126 [(1, .pointer (some (bat b1 0)))] a) 0 ⟨⟨Nat.zero_le _, fun k h => absurd h (Nat.not_lt_zero _)⟩, hH, hA2⟩ ?_ ?_
  · clear hA2 hH
    rintro i a w ⟨⟨hi, hhas⟩, hH, hA⟩
    by_cases hlt : i < sl.length
    rotate_left
    · obtain rfl : i = sl.length := by omega
      repeat' (first | (refine QT ?_; clear hA a; intro a hA) | ((first | refine CT ?_ | (refine DT ?_ ?_ <;> intro hc <;> try (exfalso; omega))) <;> repeat' refine CT ?_))
      exact ⟨hhas, hH.tail, (hA.sub (by (repeat (first | exact trivial | refine ⟨rfl, ?_⟩)); first | done | fail "sub"))⟩
    have hv := strs_at hlt
    repeat' (first | ((first | apply st_ex hA hH rfl rfl (by decide) | apply dr_ex hA rfl rfl rfl (by decide) | apply dr_exp hA rfl rfl rfl (by decide) | apply dr_ex3 hA hH rfl rfl rfl (by decide)); (first | (apply ex_indexAddr_nat; rfl; rfl; omega; exact hspS) | (apply ex_load; rfl; apply cl_own (T := 9); exact MEMT; exact hv)); clear hA a; intro a hA) | (refine QT ?_; clear hA a; intro a hA) | ((first | refine CT ?_ | (refine DT ?_ ?_ <;> intro hc <;> try (exfalso; omega))) <;> repeat' refine CT ?_))
    (refine st_op hA rfl rfl (by decide) (op_call rfl rfl rfl (containsX_spec _ g.xs _ (hxs.keep hH.kp))) ?_; clear hA; rintro _ w ⟨rfl, hk⟩ a hA; replace hH := hH.keep hk; clear hk)
    repeat' (first | (refine QT ?_; clear hA a; intro a hA) | ((first | refine CT ?_ | (refine DT ?_ ?_ <;> intro hc <;> try (exfalso; omega))) <;> repeat' refine CT ?_))
    all_goals first | exact ⟨i + 1, ⟨⟨hlt, lt_next (p := fun k => hasS g.xs.l (sl.getD k default)) hhas (by assumption)⟩, hH, (hA.sub (by (repeat (first | exact trivial | refine ⟨rfl, ?_⟩)); first | done | fail "sub"))⟩, by omega⟩ | exact rt1 (.inl rfl) rfl hA rfl ⟨_, rfl, anf_no (fun h => (by assumption : ¬ 0 ≤ idxF g.xs.l (sl.getD i default)) (has4 h _ (hsl4 ▸ getD_mem hlt))), hH.kp⟩
  clear hA2 hH
  rintro a w ⟨hhas, hH, hA⟩
  rw [hsl4] at hhas
  have hx4 := has4_of hhas
  clear hhas hsl hsl4 hspS
  repeat' (first | (refine QT ?_; clear hA a; intro a hA) | (refine CT ?_ <;> repeat' refine CT ?_))
  (refine st_op hA rfl rfl (by decide) (op_call rfl rfl rfl (containsFX_spec _ g.ss (hss.keep hH.kp))) ?_; clear hA; rintro _ w ⟨b, rfl, hbs, hk⟩ a hA; replace hH := hH.keep hk; clear hk)
  repeat' (first | ((first | apply st_ex hA hH rfl rfl (by decide) | apply dr_ex hA rfl rfl rfl (by decide) | apply dr_exp hA rfl rfl rfl (by decide) | apply dr_ex3 hA hH rfl rfl rfl (by decide)); (first | (apply ex_build (szs := [(0, 5), (5, 1), (6, 1), (7, 1), (8, 1), (9, 1), (10, 1), (11, 1)]) (cs := (encKk (kk0 oF cs.length cF g) 0).toArray); exact run_szl (by (repeat (first | exact SzL.nil | refine SzL.cons ⟨_, rfl, by decide⟩ ?_))); rfl; rfl)); clear hA a; intro a hA) | (refine QT ?_; clear hA a; intro a hA) | (refine BT ?_; clear hA hH; rintro _ w ⟨bN, rfl, hH⟩ a hA) | ((first | refine CT ?_ | (refine DT ?_ ?_ <;> intro hc <;> try (exfalso; omega))) <;> repeat' refine CT ?_))
  · exact rt1 (.inl rfl) rfl hA rfl ⟨_, rfl, anf_no (fun h => hbs.1 (by assumption) h.ss), hH.kp⟩
  have hss4 : ∀ s ∈ g.ss.l, s.size ≤ 4096 := Classical.not_not.1 fun h => absurd ((by assumption : b = false).symm.trans (hbs.2 h)) (by decide)
  clear hbs
  obtain ⟨bK, hbK⟩ : ∃ x, x = bN := ⟨_, rfl⟩
  rw [← hbK] at hA hH
  clear hbK bN
  refine wp_lpk (S := Nat) (fun i a w => ∃ oA cA, i ≤ cs.length ∧ HS w0 noM [cb bK 127 (encKk ⟨oF, cs.length, cF, g, oA, i, cA, 0, none, none, none, none⟩ 0), own 3 1 oA i cA (flat Fw.encI (cs.take i)), cb b1 34 (encP oF cs.length cF g)] w ∧ Sl 126 [(67, .int .i64 i), (66, .int .i64 cs.length), (65, .slice oF cs.length cF), (5, .pointer (some (bat bK 0))), (1, .pointer (some (bat b1 0)))] a) (fun i => cs.length - i)
    (fun a w => ∃ oA nA cA, HS w0 noM [cb bK 127 (encKk ⟨oF, cs.length, cF, g, oA, nA, cA, 0, none, none, none, none⟩ 0), cb b1 34 (encP oF cs.length cF g)] w ∧ Sl 126 [(5, .pointer (some (bat bK 0))), (1, .pointer (some (bat b1 0)))] a) 0 ⟨none, 0, Nat.zero_le _, (by rw [List.take_zero]; exact (hH.nil_flat Fw.encI 3 1).perm (by (repeat (first | exact List.Perm.refl _ | exact List.Perm.nil | refine perm_pick 0 rfl ?_ | refine perm_pick 1 rfl ?_ | refine perm_pick 2 rfl ?_ | refine perm_pick 3 rfl ?_ | refine perm_pick 4 rfl ?_ | refine perm_pick 5 rfl ?_ | refine perm_pick 6 rfl ?_ | refine perm_pick 7 rfl ?_ | refine perm_pick 8 rfl ?_ | refine perm_pick 9 rfl ?_ | refine perm_pick 10 rfl ?_ | refine perm_pick 11 rfl ?_)))), (hA.sub (by (repeat (first | exact trivial | refine ⟨rfl, ?_⟩)); first | done | fail "sub"))⟩ ?_ ?_
  · clear hA hH
    rintro i a w ⟨oA, cA, hi, hH, hA⟩
    by_cases hlt : i < cs.length
    rotate_left
    · repeat' (first | (refine QT ?_; clear hA a; intro a hA) | ((first | refine CT ?_ | (refine DT ?_ ?_ <;> intro hc <;> try (exfalso; omega))) <;> repeat' refine CT ?_))
      exact ⟨oA, i, cA, hH.rm 1, (hA.sub (by (repeat (first | exact trivial | refine ⟨rfl, ?_⟩)); first | done | fail "sub"))⟩
    obtain ⟨x, hx⟩ : ∃ x, cs[i]? = some x := ⟨_, List.getElem?_eq_getElem hlt⟩
    have hvx := flat_all (encF_len o) hx
    repeat' (first | ((first | apply st_ex hA hH rfl rfl (by decide) | apply dr_ex hA rfl rfl rfl (by decide) | apply dr_exp hA rfl rfl rfl (by decide) | apply dr_ex3 hA hH rfl rfl rfl (by decide)); (first | (apply ex_load_st (vs := encF o x); rfl; rfl; exact cls_rd hF id hvx) | (apply ex_indexAddr_nat; rfl; rfl; omega; exact hspF)); clear hA a; intro a hA) | (refine QT ?_; clear hA a; intro a hA) | (refine BT ?_; clear hA hH; rintro _ w ⟨bN, rfl, hH⟩ a hA) | (apply st_op0 hA rfl rfl; apply op_store_agg (vs := encF o x); rfl; rfl; exact hH; (repeat constructor); (repeat rfl); clear hH; rintro _ w hH) | ((first | refine CT ?_ | (refine DT ?_ ?_ <;> intro hc <;> try (exfalso; omega))) <;> repeat' refine CT ?_))
    have hST : HS w0 noM [cb bN 72 (encF o x), cb bK 127 (encKk ⟨oF, cs.length, cF, g, oA, i, cA, 0, none, none, none, none⟩ 0)] w := HS.left (H1 := [_, _]) hH
    (refine wp_draw2_HS (H := [_, _]) [(0, 1), (1, 1), (2, 1), (3, 1), (4, 1), (5, 1), (6, 1), (7, 0), (8, 0), (9, 1), (10, 1)] [11] mixed (by decide +kernel) (hST) ?_; replace hH := hH.drew)
    clear hST
    repeat' (first | (refine QT ?_; clear hA a; intro a hA) | (refine DLT ?_; clear hA hH; rintro _ w ⟨oN, rfl, hH⟩; refine ⟨STT, ?_⟩; intro a hA))
    (apply dr_op hA rfl rfl rfl (by decide); apply op_sliceLit; rfl; rfl; exact CATST; rfl; rfl; rfl; exact hH; clear hA hH; rintro _ w ⟨oN, rfl, hH⟩; refine ⟨HS.left (H1 := [_, _]) hH.tail, ?_⟩; intro a hA)
    dsimp only at hA
    (apply dr_op hA rfl rfl rfl (by decide); apply op_append; rfl; rfl; exact hH; exact MEMT; exact (hH.own_rd (List.Mem.head _)); exact rfl; rfl; decide; exact rfl; (unfold maxLen; omega); omega; clear hA; rintro _ w ⟨oN, cN, rfl, hH2⟩; clear hH; have hH := hH2 _ (by (repeat constructor)); clear hH2; refine ⟨HS.left (H1 := [_, _]) hH.tail, ?_⟩; intro a hA)
    rw [flatI_s, ← take_snoc hx] at hH
    repeat' (first | (refine QT ?_; clear hA a; intro a hA) | (refine CT ?_ <;> repeat' refine CT ?_))
    (apply dr_op03 hA rfl rfl rfl; apply op_store_fld (cs' := encKk ⟨oF, cs.length, cF, g, oN, i + 1, cN, 0, none, none, none, none⟩ 0); rfl; rfl; rfl; exact hH; (repeat constructor); clear hH; rintro _ w hH)
    repeat' (first | (refine QT ?_; clear hA a; intro a hA) | (refine CT ?_ <;> repeat' refine CT ?_))
    exact ⟨i + 1, ⟨oN, cN, hlt, (((hH.rm 0).rm 0).perm (by (repeat (first | exact List.Perm.refl _ | exact List.Perm.nil | refine perm_pick 0 rfl ?_ | refine perm_pick 1 rfl ?_ | refine perm_pick 2 rfl ?_ | refine perm_pick 3 rfl ?_ | refine perm_pick 4 rfl ?_ | refine perm_pick 5 rfl ?_ | refine perm_pick 6 rfl ?_ | refine perm_pick 7 rfl ?_ | refine perm_pick 8 rfl ?_ | refine perm_pick 9 rfl ?_ | refine perm_pick 10 rfl ?_ | refine perm_pick 11 rfl ?_)))), (hA.sub (by (repeat (first | exact trivial | refine ⟨rfl, ?_⟩)); first | done | fail "sub"))⟩, by omega⟩
  clear hA hH
  rintro a w ⟨oA, nA, cA, hH, hA⟩
  repeat' (first | (refine QT ?_; clear hA a; intro a hA) | (refine CT ?_ <;> repeat' refine CT ?_))
  refine wp_lpk (S := Nat) (fun i a w => ∃ c p, (i ≤ cs.length ∧ 0 ≤ p ∧ p ≤ 2 * (i : Int) ∧ ∀ c ∈ cs.take i, 0 ≤ c ∧ c ≤ 4096) ∧ HS w0 noM [cb bK 127 (encKk c p), cb b1 34 (encP oF cs.length cF g)] w ∧ Sl 126 [(86, .int .i64 i), (85, .int .i64 cs.length), (84, .slice oF cs.length cF), (5, .pointer (some (bat bK 0)))] a) (fun i => cs.length - i)
    (fun a w => (∀ c ∈ cs, 0 ≤ c ∧ c ≤ 4096) ∧ HS w0 noM [] w ∧ Sl 126 [] a) 0 ⟨_, 0, ⟨Nat.zero_le _, Int.le_refl _, by omega, (by rw [List.take_zero]; exact fun c h => absurd h List.not_mem_nil)⟩, hH, (hA.sub (by (repeat (first | exact trivial | refine ⟨rfl, ?_⟩)); first | done | fail "sub"))⟩ ?_ ?_
  · clear hA hH
    rintro i a w ⟨c, p, ⟨hi, hp0, hp1, hcap⟩, hH, hA⟩
    by_cases hlt : i < cs.length
    rotate_left
    · obtain rfl : i = cs.length := by omega
      rw [List.take_length] at hcap
      repeat' (first | (refine QT ?_; clear hA a; intro a hA) | ((first | refine CT ?_ | (refine DT ?_ ?_ <;> intro hc <;> try (exfalso; omega))) <;> repeat' refine CT ?_))
      exact ⟨hcap, hH.tail.tail, (hA.sub (by (repeat (first | exact trivial | refine ⟨rfl, ?_⟩)); first | done | fail "sub"))⟩
    obtain ⟨x, hx⟩ : ∃ x, cs[i]? = some x := ⟨_, List.getElem?_eq_getElem hlt⟩
    have hvx := flat_all (encF_len o) hx
    repeat' (first | (refine GT ?_ ?_ <;> intro hg <;> clear hA a <;> intro a hA <;> (first | exact FA | replace hg := of_decide_eq_true hg | replace hg := of_decide_eq_false hg | skip)) | ((first | apply st_ex hA hH rfl rfl (by decide) | apply dr_ex hA rfl rfl rfl (by decide) | apply dr_exp hA rfl rfl rfl (by decide) | apply dr_ex3 hA hH rfl rfl rfl (by decide)); (first | (apply ex_load_st (vs := encF o x); rfl; rfl; exact cls_rd hF id hvx) | (apply ex_indexAddr_nat; rfl; rfl; omega; exact hspF)); clear hA a; intro a hA) | (refine QT ?_; clear hA a; intro a hA) | (refine BT ?_; clear hA hH; rintro _ w ⟨bN, rfl, hH⟩ a hA) | (apply st_op0 hA rfl rfl; apply op_store_agg (vs := encF o x); rfl; rfl; exact hH; (repeat constructor); (repeat rfl); clear hH; rintro _ w hH) | (apply st_op0 hA rfl rfl; apply op_store_fld (cs' := encKk { c with caps := x } p); rfl; rfl; rfl; exact hH; (repeat constructor); clear hH; rintro _ w hH) | ((first | refine CT ?_ | (refine DT ?_ ?_ <;> intro hc <;> try (exfalso; omega))) <;> repeat' refine CT ?_))
    · exact rt1 (.inl rfl) rfl hA rfl ⟨_, rfl, anf_no (fun h => (by have := h.caps x (List.mem_of_getElem? hx); omega)), hH.kp⟩
    · exact rt1 (.inl rfl) rfl hA rfl ⟨_, rfl, anf_no (fun h => (by have := h.caps x (List.mem_of_getElem? hx); omega)), hH.kp⟩
    have hxx : 0 ≤ x ∧ x ≤ 4096 := by omega
    (refine st_op hA rfl rfl (by decide) (op_makeMapK hH) ?_; clear hA hH; rintro _ w ⟨m1, rfl, hH⟩ a hA)
    (refine st_op hA rfl rfl (by decide) (op_makeMapK hH) ?_; clear hA hH; rintro _ w ⟨m2, rfl, hH⟩ a hA)
    repeat' (first | (refine QT ?_; clear hA a; intro a hA) | (apply st_op0 hA rfl rfl; apply op_insertK; rfl; rfl; rfl; exact hH; (repeat constructor); clear hH; rintro _ w hH))
    (refine st_op hA rfl rfl (by decide) (op_makeMapI hH) ?_; clear hA hH; rintro _ w ⟨m3, rfl, hH⟩ a hA)
    (refine st_op hA rfl rfl (by decide) (op_makeMapK hH) ?_; clear hA hH; rintro _ w ⟨m4, rfl, hH⟩ a hA)
    obtain ⟨ca, hca⟩ : ∃ y : Kk, y = { c with caps := x } := ⟨_, rfl⟩
    have hH5 := hH.rm 0 |>.rm 0 |>.rm 0 |>.rm 0
    clear hH
    dsimp only [List.eraseIdx_cons_succ, List.eraseIdx_cons_zero] at hH5
    have hH := hH5
    clear hH5
    rw [← hca] at hH
    obtain ⟨oP, nP, cP, g', oA', nA', cA', caps', e', n', j', o'⟩ := ca
    repeat' (first | (refine QT ?_; clear hA a; intro a hA) | (apply st_op0 hA rfl rfl; apply op_store_fld (cs' := encKk ⟨oP, nP, cP, g', oA', nA', cA', caps', some m1, n', j', o'⟩ p); rfl; rfl; rfl; exact hH; (repeat constructor); clear hH; rintro _ w hH) | (apply st_op0 hA rfl rfl; apply op_store_fld (cs' := encKk ⟨oP, nP, cP, g', oA', nA', cA', caps', some m1, some m2, j', o'⟩ p); rfl; rfl; rfl; exact hH; (repeat constructor); clear hH; rintro _ w hH) | (apply st_op0 hA rfl rfl; apply op_store_fld (cs' := encKk ⟨oP, nP, cP, g', oA', nA', cA', caps', some m1, some m2, some m3, o'⟩ p); rfl; rfl; rfl; exact hH; (repeat constructor); clear hH; rintro _ w hH) | (apply st_op0 hA rfl rfl; apply op_store_fld (cs' := encKk ⟨oP, nP, cP, g', oA', nA', cA', caps', some m1, some m2, some m3, some m4⟩ p); rfl; rfl; rfl; exact hH; (repeat constructor); clear hH; rintro _ w hH) | (refine CT ?_ <;> repeat' refine CT ?_))
    repeat' (first | ((first | apply st_ex hA hH rfl rfl (by decide) | apply dr_ex hA rfl rfl rfl (by decide) | apply dr_exp hA rfl rfl rfl (by decide) | apply dr_ex3 hA hH rfl rfl rfl (by decide)); (first | (apply ex_load_st (vs := encB o); rfl; rfl; exact cls_cb MEMT (sub_bd o x))); clear hA a; intro a hA) | (refine QT ?_; clear hA a; intro a hA))
    (refine st_op hA rfl rfl (by decide) (op_call rfl rfl rfl (body_spec w0 _ _ _ bK p o (hH.up 1 rfl) hr hp0 (by omega))) ?_; clear hA hH)
    rintro _ w ⟨rfl, hH⟩ a hA
    repeat' (first | (refine QT ?_; clear hA a; intro a hA) | (refine CT ?_ <;> repeat' refine CT ?_))
    exact ⟨i + 1, ⟨_, p + 2, ⟨hlt, by omega, by omega, caps_next hx hcap hxx⟩, hH.rm 1, (hA.sub (by (repeat (first | exact trivial | refine ⟨rfl, ?_⟩)); first | done | fail "sub"))⟩, by omega⟩
  clear hA hH
  rintro a w ⟨hcap, hH, hA⟩
  repeat' (first | (refine QT ?_; clear hA a; intro a hA) | (refine CT ?_ <;> repeat' refine CT ?_))
  exact rt1 (.inl rfl) rfl hA rfl ⟨_, rfl, iff_of_true rfl ⟨hcl2, hcl4, hc0, hp1, hp2, hp3, hx4, hss4, hcap⟩, hH.kp⟩
end Go.Proofs.YtenlcdokaadobaaGreatDoor
namespace Go.Proofs.YtenlcdokaadobaaGreatDoor
open Go Go.Fw
set_option linter.unusedVariables false
def evs (f : Gr) (n : Nat) : List Int := (f.bs.l.take n).flatMap bvs
theorem evs_next {f : Gr} {n : Nat} {bl : Blc} (h : f.bs.l[n]? = some bl) : evs f (n + 1) = evs f n ++ bvs bl := by
  unfold evs
  rw [take_snoc h, List.flatMap_append]
  simp
theorem evs_all (f : Gr) : evs f f.bs.l.length = f.bs.l.flatMap bvs := by unfold evs; rw [List.take_length]
theorem EvOk.pre {a b : List Int} (h : EvOk (a ++ b)) : EvOk a := ⟨(List.nodup_append.1 h.nd).1, fun x hx => h.rg x (List.mem_append_left _ hx)⟩
theorem evs_pre (f : Gr) (n : Nat) : ∃ t, f.bs.l.flatMap bvs = evs f n ++ t := ⟨(f.bs.l.drop n).flatMap bvs, by unfold evs; rw [← List.flatMap_append, List.take_append_drop]⟩
def blkS (f : Gr) (n : Nat) : Nat := ((f.bs.l.take n).map blkN).sum
theorem blkS_next {f : Gr} {n : Nat} {bl : Blc} (h : f.bs.l[n]? = some bl) : blkS f (n + 1) = blkS f n + blkN bl := by
  unfold blkS
  rw [take_snoc h, List.map_append, List.sum_append]
  simp
theorem blkS_le (f : Gr) (n : Nat) : blkS f n ≤ grN f := by
  unfold blkS grN
  rw [List.map_take]
  exact sum_take_le _ _
theorem blkS_all (f : Gr) : blkS f f.bs.l.length = grN f := by unfold blkS grN; rw [List.take_length]
def BSn (f : Gr) (n k : Nat) (x : Int) : Prop := 0 < k ∧ ∀ m, m < n → ∀ bl, f.bs.l[m]? = some bl → goes bl k → x ∈ bvs bl ∨ BS f m x
theorem BS_eq (f : Gr) (k : Nat) (x : Int) : BS f k x ↔ BSn f k k x := by
  rw [BS]
  exact Iff.rfl
theorem isA_set_ne {th : List (Option (Nat × List Int))} {n k : Nat} (h : k ≠ n) : (isA (th.set n none) k ↔ isA th k) ∧ setA (th.set n none) k = setA th k := by
  unfold isA setA
  rw [List.getElem?_set_ne (fun e => h e.symm)]
  exact ⟨Iff.rfl, rfl⟩
structure LInv (g : Grs) (f : Gr) (la : List Int) (p0 : Int) (n : Nat) (th : List (Option (Nat × List Int))) (p : Int) : Prop where
  len : th.length = f.bs.l.length
  ev : EvOk (evs f n)
  size : p = p0 + blkS f n
  top : p ≤ 65536
  blk : ∀ (m : Nat) (bl : Blc), f.bs.l[m]? = some bl → m < n → come f m ∧ BlkP g f la m bl (BS f m)
  is_ : ∀ k : Nat, n ≤ k → (isA th k ↔ k = 0 ∨ ∃ (m : Nat) (bl : Blc), m < n ∧ f.bs.l[m]? = some bl ∧ goes bl k)
  set_ : ∀ (k : Nat) (x : Int), n ≤ k → isA th k → (x ∈ setA th k ↔ BSn f n k x)
theorem LInv.come {g : Grs} {f : Gr} {la : List Int} {p0 p : Int} {n : Nat} {th : List (Option (Nat × List Int))} (h : LInv g f la p0 n th p) : isA th n ↔ come f n := h.is_ n (Nat.le_refl _)
theorem LInv.S {g : Grs} {f : Gr} {la : List Int} {p0 p : Int} {n : Nat} {th : List (Option (Nat × List Int))} (h : LInv g f la p0 n th p) (hi : isA th n) : Sk (setA th n) = BS f n := by
  funext x
  exact propext ((h.set_ n x (Nat.le_refl _) hi).trans (BS_eq f n x).symm)
theorem nowS_end {S : Int → Prop} {bl : Blc} {x : Int} : nowS S bl bl.is.l.length x ↔ x ∈ bvs bl ∨ S x := by
  unfold nowS bvs
  rw [List.take_length, List.mem_append]
  exact or_comm
theorem linv_next {g : Grs} {f : Gr} {la : List Int} {n : Nat} {th th' : List (Option (Nat × List Int))} {p0 p : Int} {bl : Blc} (h : LInv g f la p0 n th p) (hbl : f.bs.l[n]? = some bl) (hc : BlkC g f la n bl th (evs f n) p)
    (hth : ThR (th.set n none) (nowS (Sk (setA th n)) bl bl.is.l.length) bl.e.to.l th') : LInv g f la p0 (n + 1) th' (p + (blkN bl : Int)) := by
  have hS := h.S hc.come
  rw [hS] at hth
  have hsz := h.size
  refine ⟨by rw [hth.len, List.length_set]; exact h.len, by rw [evs_next hbl]; exact hc.ev, by rw [blkS_next hbl]; omega, hc.size, fun m b hm hlt => ?_, fun k hk => ?_, fun k x hk hi => ?_⟩
  · by_cases hmn : m = n
    · subst hmn
      rw [hbl] at hm
      cases hm
      exact ⟨h.come.1 hc.come, hS ▸ hc.blk⟩
    · exact h.blk m b hm (by omega)
  · have h3 := isA_set_ne (th := th) (n := n) (k := k) (by omega)
    constructor
    · intro hi
      rcases hth.from_ k hi with h1 | ⟨t, ht, h1⟩
      · rcases (h.is_ k (by omega)).1 (h3.1.1 h1) with h4 | ⟨m, b, h4, h5⟩
        · exact .inl h4
        · exact .inr ⟨m, b, by omega, h5⟩
      · exact .inr ⟨n, bl, by omega, hbl, t, ht, h1⟩
    · rintro (h1 | ⟨m, b, h1, h2, h4⟩)
      · omega
      · by_cases hmn : m = n
        · subst hmn
          rw [hbl] at h2
          cases h2
          obtain ⟨t, ht, h5⟩ := h4
          exact (hth.come t ht k h5).1
        · exact hth.keep k (h3.1.2 ((h.is_ k (by omega)).2 (.inr ⟨m, b, by omega, h2, h4⟩)))
  · have h3 := isA_set_ne (th := th) (n := n) (k := k) (by omega)
    constructor
    · intro hx
      refine ⟨by omega, fun m hm b hb hg => ?_⟩
      by_cases hmn : m = n
      · subst hmn
        rw [hbl] at hb
        cases hb
        obtain ⟨t, ht, h5⟩ := hg
        exact nowS_end.1 ((hth.come t ht k h5).2 x hx)
      · have hik : isA th k := (h.is_ k (by omega)).2 (.inr ⟨m, b, by omega, hb, hg⟩)
        have h4 := (hth.sub k x hx).1 (h3.1.2 hik)
        rw [h3.2] at h4
        exact ((h.set_ k x (by omega) hik).1 h4).2 m (by omega) b hb hg
    · rintro ⟨h1, h2⟩
      refine hth.all_ k x hi (fun hik => ?_) fun ⟨t, ht, h5⟩ => nowS_end.2 (h2 n (by omega) bl hbl ⟨t, ht, h5⟩)
      rw [h3.2]
      exact (h.set_ k x (by omega) (h3.1.1 hik)).2 ⟨h1, fun m hm b hb hg => h2 m (by omega) b hb hg⟩
theorem linv_end {g : Grs} {f : Gr} {la : List Int} {p0 p : Int} {th : List (Option (Nat × List Int))} (h : LInv g f la p0 f.bs.l.length th p) (hne : 0 < f.bs.l.length) : GrP g la f ∧ p = p0 + grN f :=
  ⟨⟨hne, fun n bl hb => h.blk n bl hb (List.getElem?_eq_some_iff.1 hb).1, evs_all f ▸ h.ev⟩, by rw [← blkS_all]; exact h.size⟩
theorem linv_no {g : Grs} {f : Gr} {la : List Int} {p0 p : Int} {n : Nat} {th : List (Option (Nat × List Int))} {bl : Blc} (h : LInv g f la p0 n th p) (hbl : f.bs.l[n]? = some bl) (hc : ¬ BlkC g f la n bl th (evs f n) p) : ¬ (GrP g la f ∧ p0 + grN f ≤ 65536) := by
  rintro ⟨hg, hp⟩
  have h1 := hg.blk n bl hbl
  have hi := h.come.2 h1.1
  refine hc ⟨hi, by rw [h.S hi]; exact h1.2, ?_, ?_⟩
  · obtain ⟨t, ht⟩ := evs_pre f (n + 1)
    have h2 := hg.ev
    rw [ht] at h2
    rw [← evs_next hbl]
    exact h2.pre
  · have h2 := blkS_next hbl
    have h3 := blkS_le f (n + 1)
    have h4 := h.size
    omega
theorem linv_0 (g : Grs) (f : Gr) (la : List Int) (b : Nat) (p : Int) (hp1 : p ≤ 65536) (hne : 0 < f.bs.l.length) : LInv g f la p 0 ((List.replicate f.bs.l.length (none : Option (Nat × List Int))).set 0 (some (b, []))) p := by
  have hl : 0 < (List.replicate f.bs.l.length (none : Option (Nat × List Int))).length := by rw [List.length_replicate]; exact hne
  have hg := setA_set hl (some (b, []))
  have hr : ∀ k : Nat, k ≠ 0 → (((List.replicate f.bs.l.length (none : Option (Nat × List Int))).set 0 (some (b, [])))[k]?).getD none = none := fun k hk => by
    rw [hg, if_neg hk, List.getElem?_replicate]
    split <;> rfl
  have hi : ∀ k : Nat, isA ((List.replicate f.bs.l.length (none : Option (Nat × List Int))).set 0 (some (b, []))) k ↔ k = 0 := fun k => by
    by_cases h0 : k = 0
    · subst h0
      unfold isA
      rw [hg, if_pos rfl]
      exact ⟨fun _ => rfl, fun _ => rfl⟩
    · unfold isA
      rw [hr k h0]
      exact ⟨fun h => (by cases h), fun h => absurd h h0⟩
  refine ⟨by rw [List.length_set, List.length_replicate], ⟨List.nodup_nil, fun x hx => absurd hx List.not_mem_nil⟩, ?_, hp1, fun m bl hm h => by omega, fun k hk => ?_, fun k x hk hik => ?_⟩
  · show p = p + ((0 : Nat) : Int)
    omega
  · rw [hi]
    exact ⟨.inl, fun h => h.elim id fun ⟨m, b, h1, _⟩ => by omega⟩
  · obtain rfl := (hi k).1 hik
    constructor
    · intro hx
      unfold setA at hx
      rw [hg, if_pos rfl] at hx
      exact absurd hx List.not_mem_nil
    · rintro ⟨h1, _⟩
      omega
def grS (g : Grs) (i : Nat) : Nat := ((g.fs.l.take i).map grN).sum
theorem grS_next {g : Grs} {i : Nat} {f : Gr} (h : g.fs.l[i]? = some f) : grS g (i + 1) = grS g i + grN f := by
  unfold grS
  rw [take_snoc h, List.map_append, List.sum_append]
  simp
theorem grS_le (g : Grs) (i : Nat) : grS g i ≤ grsN g := by
  unfold grS grsN
  rw [List.map_take]
  exact sum_take_le _ _
theorem grS_all (g : Grs) : grS g g.fs.l.length = grsN g := by unfold grS grsN; rw [List.take_length]
theorem may_no {g : Grs} (h : ¬ MayP g) : false = true ↔ MayP g := ⟨fun e => (by cases e), fun e => absurd e h⟩
theorem may_gr_no {g : Grs} {i : Nat} {f : Gr} {p : Int} (hf : g.fs.l[i]? = some f) (hp : p = grS g i) (h : ¬ (GrP g (g.fs.l.map Gr.caps) f ∧ p + grN f ≤ 65536)) : ¬ MayP g := fun hm => h ⟨hm.gr f (List.mem_of_getElem? hf), by
  have h1 := hm.size
  have h2 := grS_next hf
  have h3 := grS_le g (i + 1)
  omega⟩
end Go.Proofs.YtenlcdokaadobaaGreatDoor
