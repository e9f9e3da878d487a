/-
  How many parts graphs have. Conditions: none.
  awake's graphs (plain). Conditions: none.
  anf.May at functions that return five: exactly (printed by mkat5.py). Conditions: none.
  ssa.Of's parts: copies, blocks. Conditions: none.
-/
import Derived.Test.YtenlcdokaadobaaGreatDoorRowFuelMg18
import Derived.Test.YtenlcdokaadobaaGreatDoorRowFuelMg11
import Derived.Test.YtenlcdokaadobaaGreatDoorRowFuelMg12
namespace Go.Proofs.YtenlcdokaadobaaGreatDoor
open Go Go.Fw
set_option linter.unusedVariables false
def psum {α : Type} (f : α → Nat) (l : List α) (i : Nat) : Nat := ((l.take i).map f).sum
theorem psum_0 {α : Type} (f : α → Nat) (l : List α) : psum f l 0 = 0 := by unfold psum; rw [List.take_zero]; rfl
theorem psum_next {α : Type} {f : α → Nat} {l : List α} {i : Nat} {x : α} (h : l[i]? = some x) : psum f l (i + 1) = psum f l i + f x := by
  unfold psum
  rw [take_snoc h, List.map_append, List.sum_append]
  simp
theorem psum_all {α : Type} (f : α → Nat) (l : List α) : psum f l l.length = (l.map f).sum := by unfold psum; rw [List.take_length]
theorem psum_le {α : Type} (f : α → Nat) (l : List α) (i : Nat) : psum f l i ≤ (l.map f).sum := by
  unfold psum
  conv => rhs; rw [← List.take_append_drop i l, List.map_append, List.sum_append]
  exact Nat.le_add_right _ _
def PR (most n S : Nat) : Prop := n = S ∨ (most < n ∧ n ≤ S)
theorem PR_0 (most : Nat) : PR most 0 0 := .inl rfl
theorem PR_r (most n : Nat) : PR most n (n + 0) := .inl rfl
theorem PR_self (most n m : Nat) (h : n = m) : PR most n m := .inl h
theorem PR_val {m n : Int} (h : m = n) : (some (Value.int .i64 m) : Option Value) = some (.int .i64 n) := by rw [h]
theorem PR.up {most n S T : Nat} (h : PR most n S) (hn : most < n) (hT : S ≤ T) : PR most n T := by
  rcases h with h | h
  · exact .inr ⟨hn, by omega⟩
  · exact .inr ⟨h.1, by omega⟩
theorem PR.eq {most n S : Nat} (h : PR most n S) (hn : n ≤ most) : n = S := by
  rcases h with h | h
  · exact h
  · omega
theorem PR.iff {most n S : Nat} (h : PR most n S) : n ≤ most ↔ S ≤ most := by
  rcases h with h | h <;> omega
abbrev insM (i : Ins) : Nat := 1 + i.r.a.l.length
abbrev edgM (t : Edg) : Nat := 1 + t.a.l.length
theorem blkM_eq (bl : Blc) : blkN bl = 2 + bl.ps.l.length + bl.e.a.l.length + (bl.is.l.map insM).sum + (bl.e.to.l.map edgM).sum := by
  show 2 + bl.ps.l.length + (bl.is.l.map insM).sum + bl.e.a.l.length + (bl.e.to.l.map edgM).sum = _
  omega
structure SzB (m : Nat) (bl : Blc) : Prop where
  ps : bl.ps.l.length ≤ m
  is : bl.is.l.length ≤ m
  ia : ∀ i ∈ bl.is.l, i.r.a.l.length ≤ m
  ea : bl.e.a.l.length ≤ m
  et : bl.e.to.l.length ≤ m
  ta : ∀ t ∈ bl.e.to.l, t.a.l.length ≤ m
structure SzG (m : Nat) (g : Grs) : Prop where
  fs : g.fs.l.length ≤ m
  bs : ∀ f ∈ g.fs.l, f.bs.l.length ≤ m
  bl : ∀ f ∈ g.fs.l, ∀ b ∈ f.bs.l, SzB m b
theorem gr_bs {l : List Gr} {i : Nat} {f : Gr} (h : l[i]? = some f) : (flat encG l)[i * 2 + 1]? = some (.slice f.bs.o f.bs.l.length f.bs.c) := flat_get (off := 1) encG_len h rfl
theorem in_a {l : List Ins} {i : Nat} {x : Ins} (h : l[i]? = some x) : (flat encIn l)[i * 5 + 1 + 3]? = some (.slice x.r.a.o x.r.a.l.length x.r.a.c) := by rw [Nat.add_assoc]; exact flat_get (off := 4) encIn_len h rfl
theorem ed_a {l : List Edg} {i : Nat} {x : Edg} (h : l[i]? = some x) : (flat encEd l)[i * 2 + 1]? = some (.slice x.a.o x.a.l.length x.a.c) := flat_get (off := 1) encEd_len h rfl
set_option maxRecDepth 10000 attribute [local irreducible] Code.wp wpList Calls Ex Op1 sat bat blk cb own Go.Fw.mp Go.Fw.mpO Go.Fw.mpI Go.Fw.mpE Go.Fw.itr HS Rd Ret wkD Hp Cl Cls Exit.then Exit.inBlock Exit.noGoto bodyPost Go.Fw.flat wk2 Go.Fw.all Go.Fw.owns wpOp
attribute [local irreducible] sk mpK sko mvO entK opM Go.Fw.mset Go.Fw.mv opK psum PR

set_option maxHeartbeats 16000000 in
theorem Parts_spec (w0 : World) (g : Grs) (most : Nat) (hm : most ≤ 100000) (hR : RdGs w0 g) (hs : SzG 1048576 g) :
    Ret Tryz.prog 25 #[.agg (encGs g).toArray, .int .i64 most] w0 (fun r w => ∃ n : Nat, r = .int .i64 n ∧ (n ≤ most ↔ grsN g ≤ most) ∧ Kp w0 noM w) := by
  have hH : HS w0 noM [] w0 := HS.init w0 noM
  have hfs := hs.fs
  have hspF : Sp g.fs.o g.fs.l.length := hR.1.1.sp (sz := 2) (flat_length encG_len _) (by omega)
  (refine enter (N := 107) Tryz.func25 rfl Tryz.ntmps25 rfl ?_; intro a hA; dsimp only [sl0, Nat.reduceAdd] at hA)
  repeat' (first | (refine QT ?_; clear hA a; intro a hA) | (refine BT ?_; clear hA hH; rintro _ w ⟨bN, rfl, hH⟩ a hA) | (refine CT ?_ <;> repeat' refine CT ?_))
  obtain ⟨b2, hb2⟩ : ∃ x, x = bN := ⟨_, rfl⟩
  rw [← hb2] at hA hH
  clear hb2 bN
  refine wp_lpk (S := Nat) (fun i a w => ∃ n : Nat, (i ≤ g.fs.l.length ∧ PR most n (psum grN g.fs.l i) ∧ n ≤ 5000000) ∧ HS w0 noM [cb b2 25 (encGs g)] w ∧ Sl 107 [(6, .int .i64 i), (5, .int .i64 n), (2, .pointer (some (bat b2 0))), (1, .int .i64 most)] a) (fun i => g.fs.l.length - i)
    (fun a w => ∃ n : Nat, PR most n (grsN g) ∧ HS w0 noM [] w ∧ Sl 107 [(5, .int .i64 n)] a) 0 ⟨0, ⟨Nat.zero_le _, by rw [psum_0]; exact PR_0 most, Nat.zero_le _⟩, hH, (hA.sub (by (repeat (first | exact trivial | refine ⟨rfl, ?_⟩)); first | done | fail "sub"))⟩ ?_ ?_
  · clear hA hH
    rintro i a w ⟨n, ⟨hi, hp, hn5⟩, hH, hA⟩
    by_cases hlt : i < g.fs.l.length
    rotate_left
    · obtain rfl : i = g.fs.l.length := by omega
      repeat' (first | (refine GT ?_ ?_ <;> intro hg <;> clear hA a <;> intro a hA <;> (first | exact FA | replace hg := of_decide_eq_true hg | replace hg := of_decide_eq_false hg | skip)) | (refine QT ?_; clear hA a; intro a hA) | (refine CT ?_ <;> repeat' refine CT ?_))
      exact ⟨n, by rw [psum_all] at hp; exact hp, hH.tail, (hA.sub (by (repeat (first | exact trivial | refine ⟨rfl, ?_⟩)); first | done | fail "sub"))⟩
    by_cases hle : n ≤ most
    rotate_left
    · repeat' (first | (refine GT ?_ ?_ <;> intro hg <;> clear hA a <;> intro a hA <;> (first | exact FA | replace hg := of_decide_eq_true hg | replace hg := of_decide_eq_false hg | skip)) | (refine QT ?_; clear hA a; intro a hA) | ((first | refine CT ?_ | (refine DT ?_ ?_ <;> intro hc <;> try (exfalso; omega))) <;> repeat' refine CT ?_))
      exact ⟨n, hp.up (by omega) (psum_le grN _ _), hH.tail, (hA.sub (by (repeat (first | exact trivial | refine ⟨rfl, ?_⟩)); first | done | fail "sub"))⟩
    obtain rfl := hp.eq hle
    obtain ⟨f, hf⟩ : ∃ x, g.fs.l[i]? = some x := ⟨_, List.getElem?_eq_getElem hlt⟩
    have hfm := List.mem_of_getElem? hf
    have hRf := hR.2.1 f hfm
    have hbs := hs.bs f hfm
    have hvG := gr_bs hf
    have hspB : Sp f.bs.o f.bs.l.length := hRf.1.1.sp (sz := 6) (flat_length encBl_len _) (by omega)
    repeat' (first | (refine GT ?_ ?_ <;> intro hg <;> clear hA a <;> intro a hA <;> (first | exact FA | replace hg := of_decide_eq_true hg | replace hg := of_decide_eq_false hg | skip)) | (refine QT ?_; clear hA a; intro a hA) | ((first | refine CT ?_ | (refine DT ?_ ?_ <;> intro hc <;> try (exfalso; omega))) <;> repeat' refine CT ?_))
    refine wp_lpk (S := Nat) (fun k a w => ∃ n : Nat, (k ≤ f.bs.l.length ∧ PR most n (psum grN g.fs.l i + psum blkN f.bs.l k) ∧ n ≤ 5000000) ∧ HS w0 noM [cb b2 25 (encGs g)] w ∧ Sl 107 [(7, .int .i64 k), (6, .int .i64 i), (5, .int .i64 n), (2, .pointer (some (bat b2 0))), (1, .int .i64 most)] a) (fun k => f.bs.l.length - k)
      (fun a w => ∃ n : Nat, (PR most n (psum grN g.fs.l (i + 1)) ∧ n ≤ 5000000) ∧ HS w0 noM [cb b2 25 (encGs g)] w ∧ Sl 107 [(6, .int .i64 i), (5, .int .i64 n), (2, .pointer (some (bat b2 0))), (1, .int .i64 most)] a) 0 ⟨_, ⟨Nat.zero_le _, by rw [psum_0]; exact PR_r most _, hn5⟩, hH, (hA.sub (by (repeat (first | exact trivial | refine ⟨rfl, ?_⟩)); first | done | fail "sub"))⟩ ?_ ?_
    · clear hA hH
      rintro k a w ⟨n, ⟨hk, hp2, hn6⟩, hH, hA⟩
      by_cases hlk : k < f.bs.l.length
      rotate_left
      · obtain rfl : k = f.bs.l.length := by omega
        repeat' (first | (refine GT ?_ ?_ <;> intro hg <;> clear hA a <;> intro a hA <;> (first | exact FA | replace hg := of_decide_eq_true hg | replace hg := of_decide_eq_false hg | skip)) | ((first | apply st_ex hA hH rfl rfl (by decide) | apply dr_ex hA rfl rfl rfl (by decide) | apply dr_exp hA rfl rfl rfl (by decide) | apply dr_ex3 hA hH rfl rfl rfl (by decide)); (first | (apply ex_indexAddr_nat; rfl; rfl; omega; exact hspF) | (apply ex_load; rfl; exact cl_rd hR.1.1 id hvG)); clear hA a; intro a hA) | (refine QT ?_; clear hA a; intro a hA) | (refine CT ?_ <;> repeat' refine CT ?_))
        refine ⟨n, ⟨?_, hn6⟩, hH, (hA.sub (by (repeat (first | exact trivial | refine ⟨rfl, ?_⟩)); first | done | fail "sub"))⟩
        rw [psum_next hf]
        rw [psum_all] at hp2
        exact hp2
      by_cases hl2 : n ≤ most
      rotate_left
      · repeat' (first | (refine GT ?_ ?_ <;> intro hg <;> clear hA a <;> intro a hA <;> (first | exact FA | replace hg := of_decide_eq_true hg | replace hg := of_decide_eq_false hg | skip)) | ((first | apply st_ex hA hH rfl rfl (by decide) | apply dr_ex hA rfl rfl rfl (by decide) | apply dr_exp hA rfl rfl rfl (by decide) | apply dr_ex3 hA hH rfl rfl rfl (by decide)); (first | (apply ex_indexAddr_nat; rfl; rfl; omega; exact hspF) | (apply ex_load; rfl; exact cl_rd hR.1.1 id hvG)); clear hA a; intro a hA) | (refine QT ?_; clear hA a; intro a hA) | ((first | refine CT ?_ | (refine DT ?_ ?_ <;> intro hc <;> try (exfalso; omega))) <;> repeat' refine CT ?_))
        refine ⟨n, ⟨?_, hn6⟩, hH, (hA.sub (by (repeat (first | exact trivial | refine ⟨rfl, ?_⟩)); first | done | fail "sub"))⟩
        rw [psum_next hf]
        exact hp2.up (by omega) (Nat.add_le_add_left (psum_le blkN _ _) _)
      obtain rfl := hp2.eq hl2
      obtain ⟨bl, hbl⟩ : ∃ x, f.bs.l[k]? = some x := ⟨_, List.getElem?_eq_getElem hlk⟩
      have hbm := List.mem_of_getElem? hbl
      have hRb := hRf.2 bl hbm
      have hsb := hs.bl f hfm bl hbm
      have hs1 := hsb.ps
      have hs2 := hsb.is
      have hs3 := hsb.ea
      have hs4 := hsb.et
      have hspI : Sp bl.is.o bl.is.l.length := hRb.2.1.1.sp (sz := 5) (flat_length encIn_len _) (by omega)
      have hspT : Sp bl.e.to.o bl.e.to.l.length := hRb.2.2.2.2.2.1.1.sp (sz := 2) (flat_length encEd_len _) (by omega)
      repeat' (first | (refine GT ?_ ?_ <;> intro hg <;> clear hA a <;> intro a hA <;> (first | exact FA | replace hg := of_decide_eq_true hg | replace hg := of_decide_eq_false hg | skip)) | ((first | apply st_ex hA hH rfl rfl (by decide) | apply dr_ex hA rfl rfl rfl (by decide) | apply dr_exp hA rfl rfl rfl (by decide) | apply dr_ex3 hA hH rfl rfl rfl (by decide)); (first | (apply ex_indexAddr_nat; rfl; rfl; omega; first | exact hspF | exact hspB) | (apply ex_load; rfl; exact cl_rd hR.1.1 id hvG) | (apply ex_load_st (vs := encBl bl); rfl; rfl; exact cls_rd hRf.1.1 id (flat_all encBl_len hbl))); clear hA a; intro a hA) | (refine QT ?_; clear hA a; intro a hA) | (refine BT ?_; clear hA hH; rintro _ w ⟨bN, rfl, hH⟩ a hA) | (apply st_op0 hA rfl rfl; apply op_store_agg (vs := encBl bl); rfl; rfl; exact hH; (repeat constructor); (repeat rfl); clear hH; rintro _ w hH) | ((first | refine CT ?_ | (refine DT ?_ ?_ <;> intro hc <;> try (exfalso; omega))) <;> repeat' refine CT ?_))
      obtain ⟨b8, hb8⟩ : ∃ x, x = bN := ⟨_, rfl⟩
      rw [← hb8] at hA hH
      clear hb8 bN
      obtain ⟨S0, hS0⟩ : ∃ S0, S0 = psum grN g.fs.l i + psum blkN f.bs.l k := ⟨_, rfl⟩
      rw [← hS0] at hA hl2 hn6 hp2
      rw [show ((S0 : Nat) : Int) + (2 + (bl.ps.l.length : Int) + (bl.e.a.l.length : Int)) = ((S0 + (2 + bl.ps.l.length + bl.e.a.l.length) : Nat) : Int) by omega] at hA
      obtain ⟨S1, hS1⟩ : ∃ S1, S1 = S0 + (2 + bl.ps.l.length + bl.e.a.l.length) := ⟨_, rfl⟩
      rw [← hS1] at hA
      refine wp_lpk (S := Nat) (fun j a w => ∃ n : Nat, (j ≤ bl.is.l.length ∧ PR most n (S1 + psum insM bl.is.l j) ∧ n ≤ 4000000) ∧ HS w0 noM [cb b8 53 (encBl bl), cb b2 25 (encGs g)] w ∧ Sl 107 [(9, .int .i64 j), (8, .pointer (some (bat b8 0))), (7, .int .i64 k), (6, .int .i64 i), (5, .int .i64 n), (2, .pointer (some (bat b2 0))), (1, .int .i64 most)] a) (fun j => bl.is.l.length - j)
        (fun a w => ∃ n : Nat, (PR most n (S1 + (bl.is.l.map insM).sum) ∧ n ≤ 4000000) ∧ HS w0 noM [cb b8 53 (encBl bl), cb b2 25 (encGs g)] w ∧ Sl 107 [(8, .pointer (some (bat b8 0))), (7, .int .i64 k), (6, .int .i64 i), (5, .int .i64 n), (2, .pointer (some (bat b2 0))), (1, .int .i64 most)] a) 0 ⟨S1, ⟨Nat.zero_le _, by rw [psum_0]; exact PR_r most _, by omega⟩, hH, (hA.sub (by (repeat (first | exact trivial | refine ⟨rfl, ?_⟩)); first | done | fail "sub"))⟩ ?_ ?_
      · clear hA hH
        rintro j a w ⟨n, ⟨hj, hp3, hn7⟩, hH, hA⟩
        by_cases hlj : j < bl.is.l.length
        rotate_left
        · obtain rfl : j = bl.is.l.length := by omega
          repeat' (first | (refine GT ?_ ?_ <;> intro hg <;> clear hA a <;> intro a hA <;> (first | exact FA | replace hg := of_decide_eq_true hg | replace hg := of_decide_eq_false hg | skip)) | (refine QT ?_; clear hA a; intro a hA) | (refine CT ?_ <;> repeat' refine CT ?_))
          rw [psum_all] at hp3
          exact ⟨n, ⟨hp3, hn7⟩, hH, (hA.sub (by (repeat (first | exact trivial | refine ⟨rfl, ?_⟩)); first | done | fail "sub"))⟩
        by_cases hl3 : n ≤ most
        rotate_left
        · repeat' (first | (refine GT ?_ ?_ <;> intro hg <;> clear hA a <;> intro a hA <;> (first | exact FA | replace hg := of_decide_eq_true hg | replace hg := of_decide_eq_false hg | skip)) | (refine QT ?_; clear hA a; intro a hA) | ((first | refine CT ?_ | (refine DT ?_ ?_ <;> intro hc <;> try (exfalso; omega))) <;> repeat' refine CT ?_))
          exact ⟨n, ⟨hp3.up (by omega) (Nat.add_le_add_left (psum_le insM _ _) _), hn7⟩, hH, (hA.sub (by (repeat (first | exact trivial | refine ⟨rfl, ?_⟩)); first | done | fail "sub"))⟩
        obtain ⟨x, hx⟩ : ∃ x, bl.is.l[j]? = some x := ⟨_, List.getElem?_eq_getElem hlj⟩
        have hxa := hsb.ia x (List.mem_of_getElem? hx)
        have hvI := in_a hx
        repeat' (first | (refine GT ?_ ?_ <;> intro hg <;> clear hA a <;> intro a hA <;> (first | exact FA | replace hg := of_decide_eq_true hg | replace hg := of_decide_eq_false hg | skip)) | ((first | apply st_ex hA hH rfl rfl (by decide) | apply dr_ex hA rfl rfl rfl (by decide) | apply dr_exp hA rfl rfl rfl (by decide) | apply dr_ex3 hA hH rfl rfl rfl (by decide)); (first | (apply ex_indexAddr_nat; rfl; rfl; omega; exact hspI) | (apply ex_load; rfl; exact cl_rd hRb.2.1.1 id hvI)); clear hA a; intro a hA) | (refine QT ?_; clear hA a; intro a hA) | ((first | refine CT ?_ | (refine DT ?_ ?_ <;> intro hc <;> try (exfalso; omega))) <;> repeat' refine CT ?_))
        have hne := hp3.eq hl3
        refine ⟨j + 1, ⟨n + insM x, ⟨hlj, ?_, by show n + (1 + _) ≤ _; omega⟩, hH, (hA.sub (by refine ⟨rfl, rfl, rfl, rfl, ?_, rfl, rfl, trivial⟩; exact PR_val (by show (n : Int) + (1 + _) = ((n + (1 + _) : Nat) : Int); omega)))⟩, by omega⟩
        rw [psum_next hx, hne]
        exact PR_self most _ _ (Nat.add_assoc ..)
      clear hA hH
      rintro a w ⟨n, ⟨hp3, hn7⟩, hH, hA⟩
      obtain ⟨S2, hS2⟩ : ∃ S2, S2 = S1 + (bl.is.l.map insM).sum := ⟨_, rfl⟩
      rw [← hS2] at hp3
      repeat' (first | (refine QT ?_; clear hA a; intro a hA) | (refine CT ?_ <;> repeat' refine CT ?_))
      refine wp_lpk (S := Nat) (fun j a w => ∃ n : Nat, (j ≤ bl.e.to.l.length ∧ PR most n (S2 + psum edgM bl.e.to.l j) ∧ n ≤ 5000000) ∧ HS w0 noM [cb b8 53 (encBl bl), cb b2 25 (encGs g)] w ∧ Sl 107 [(10, .int .i64 j), (8, .pointer (some (bat b8 0))), (7, .int .i64 k), (6, .int .i64 i), (5, .int .i64 n), (2, .pointer (some (bat b2 0))), (1, .int .i64 most)] a) (fun j => bl.e.to.l.length - j)
        (fun a w => ∃ n : Nat, (PR most n (S2 + (bl.e.to.l.map edgM).sum) ∧ n ≤ 5000000) ∧ HS w0 noM [cb b8 53 (encBl bl), cb b2 25 (encGs g)] w ∧ Sl 107 [(7, .int .i64 k), (6, .int .i64 i), (5, .int .i64 n), (2, .pointer (some (bat b2 0))), (1, .int .i64 most)] a) 0 ⟨n, ⟨Nat.zero_le _, by rw [psum_0]; exact hp3, by omega⟩, hH, (hA.sub (by (repeat (first | exact trivial | refine ⟨rfl, ?_⟩)); first | done | fail "sub"))⟩ ?_ ?_
      · clear hA hH hp3 hn7 n
        rintro j a w ⟨n, ⟨hj, hp3, hn7⟩, hH, hA⟩
        by_cases hlj : j < bl.e.to.l.length
        rotate_left
        · obtain rfl : j = bl.e.to.l.length := by omega
          repeat' (first | (refine GT ?_ ?_ <;> intro hg <;> clear hA a <;> intro a hA <;> (first | exact FA | replace hg := of_decide_eq_true hg | replace hg := of_decide_eq_false hg | skip)) | (refine QT ?_; clear hA a; intro a hA) | (refine CT ?_ <;> repeat' refine CT ?_))
          rw [psum_all] at hp3
          exact ⟨n, ⟨hp3, hn7⟩, hH, (hA.sub (by (repeat (first | exact trivial | refine ⟨rfl, ?_⟩)); first | done | fail "sub"))⟩
        by_cases hl3 : n ≤ most
        rotate_left
        · repeat' (first | (refine GT ?_ ?_ <;> intro hg <;> clear hA a <;> intro a hA <;> (first | exact FA | replace hg := of_decide_eq_true hg | replace hg := of_decide_eq_false hg | skip)) | (refine QT ?_; clear hA a; intro a hA) | ((first | refine CT ?_ | (refine DT ?_ ?_ <;> intro hc <;> try (exfalso; omega))) <;> repeat' refine CT ?_))
          exact ⟨n, ⟨hp3.up (by omega) (Nat.add_le_add_left (psum_le edgM _ _) _), hn7⟩, hH, (hA.sub (by (repeat (first | exact trivial | refine ⟨rfl, ?_⟩)); first | done | fail "sub"))⟩
        obtain ⟨x, hx⟩ : ∃ x, bl.e.to.l[j]? = some x := ⟨_, List.getElem?_eq_getElem hlj⟩
        have hxa := hsb.ta x (List.mem_of_getElem? hx)
        have hvI := ed_a hx
        repeat' (first | (refine GT ?_ ?_ <;> intro hg <;> clear hA a <;> intro a hA <;> (first | exact FA | replace hg := of_decide_eq_true hg | replace hg := of_decide_eq_false hg | skip)) | ((first | apply st_ex hA hH rfl rfl (by decide) | apply dr_ex hA rfl rfl rfl (by decide) | apply dr_exp hA rfl rfl rfl (by decide) | apply dr_ex3 hA hH rfl rfl rfl (by decide)); (first | (apply ex_indexAddr_nat; rfl; rfl; omega; exact hspT) | (apply ex_load; rfl; exact cl_rd hRb.2.2.2.2.2.1.1 id hvI)); clear hA a; intro a hA) | (refine QT ?_; clear hA a; intro a hA) | ((first | refine CT ?_ | (refine DT ?_ ?_ <;> intro hc <;> try (exfalso; omega))) <;> repeat' refine CT ?_))
        have hne := hp3.eq hl3
        refine ⟨j + 1, ⟨n + edgM x, ⟨hlj, ?_, by show n + (1 + _) ≤ _; omega⟩, hH, (hA.sub (by refine ⟨rfl, rfl, rfl, rfl, ?_, rfl, rfl, trivial⟩; exact PR_val (by show (n : Int) + (1 + _) = ((n + (1 + _) : Nat) : Int); omega)))⟩, by omega⟩
        rw [psum_next hx, hne]
        exact PR_self most _ _ (Nat.add_assoc ..)
      clear hA hH hp3 hn7 n
      rintro a w ⟨n, ⟨hp3, hn7⟩, hH, hA⟩
      repeat' (first | (refine QT ?_; clear hA a; intro a hA) | (refine CT ?_ <;> repeat' refine CT ?_))
      refine ⟨k + 1, ⟨n, ⟨hlk, ?_, hn7⟩, hH.tail, (hA.sub (by (repeat (first | exact trivial | refine ⟨rfl, ?_⟩)); first | done | fail "sub"))⟩, by omega⟩
      rw [psum_next hbl, ← Nat.add_assoc, ← hS0]
      have e1 : S0 + blkN bl = S2 + (bl.e.to.l.map edgM).sum := by rw [blkM_eq, hS2, hS1]; omega
      rw [e1]
      exact hp3
    clear hA hH
    rintro a w ⟨n, ⟨hp2, hn6⟩, hH, hA⟩
    repeat' (first | (refine QT ?_; clear hA a; intro a hA) | (refine CT ?_ <;> repeat' refine CT ?_))
    exact ⟨i + 1, ⟨n, ⟨hlt, hp2, hn6⟩, hH, (hA.sub (by (repeat (first | exact trivial | refine ⟨rfl, ?_⟩)); first | done | fail "sub"))⟩, by omega⟩
  clear hA hH
  rintro a w ⟨n, hp, hH, hA⟩
  repeat' (first | (refine QT ?_; clear hA a; intro a hA) | (refine CT ?_ <;> repeat' refine CT ?_))
  exact rt1 (.inl rfl) rfl hA rfl ⟨n, rfl, hp.iff, hH.kp⟩
end Go.Proofs.YtenlcdokaadobaaGreatDoor
namespace Go.Proofs.YtenlcdokaadobaaGreatDoor
open Go Go.Fw
set_option linter.unusedVariables false
def xs4 : List ByteArray := [exnB, exnD, exnM, exnS]
theorem ris_nil : risP [] := fun i h => absurd h (Nat.not_lt_zero _)
theorem ris4 : risP xs4 := fun i hi => by
  match i, hi with
  | 0, _ => exact ⟨by decide +kernel, fun h => absurd h (Nat.lt_irrefl _)⟩
  | 1, _ => exact ⟨by decide +kernel, fun _ => by decide +kernel⟩
  | 2, _ => exact ⟨by decide +kernel, fun _ => by decide +kernel⟩
  | 3, _ => exact ⟨by decide +kernel, fun _ => by decide +kernel⟩
theorem anf4 {g : Grs} (hx : g.xs.l = xs4) (hl : g.ls.l = []) (ht : g.ts.l = []) (hs : g.ss.l = []) : AnfP [0] g where
  pos := by decide
  top := by decide
  c0 := rfl
  ls := by rw [hl]; exact ris_nil
  ts := by rw [ht]; exact ris_nil
  xs := by rw [hx]; exact ris4
  has := by rw [hx]; unfold hasS; decide +kernel
  ss := by rw [hs]; exact fun s h => absurd h (List.not_mem_nil)
  caps := by decide
def bl5 (o : Option Addr) (c : Nat) (n : Int) : Blc := ⟨nilV, nilV, ⟨1, ⟨o, c, [⟨2, n⟩]⟩, nilV, nilV⟩⟩
theorem up_nil : upP [] := fun i h => absurd h (Nat.not_lt_zero _)
theorem end5 (o : Option Addr) (c : Nat) (n : Int) : EndP (bl5 o c n).e where
  lo := show (1 : Int) ≤ 1 by decide
  hi := show (1 : Int) ≤ 6 by decide
  a := rfl
  to := rfl
  ns := show ((1 : Int) = 6 ↔ 0 < 0) by decide
  up := up_nil
theorem may5 {g : Grs} {o oB : Option Addr} {c cB oc : Nat} {n : Int} {of : Option Addr} (hn : -4611686018427387904 ≤ n ∧ n < 4611686018427387904) (hf : g.fs.l = [⟨0, ⟨oB, cB, [bl5 o c n]⟩⟩]) (hx : g.xs.l = xs4) (hl : g.ls.l = []) (ht : g.ts.l = []) (hs : g.ss.l = []) : MayP g where
  anf := by rw [hf]; exact anf4 hx hl ht hs
  gr := fun f hm => by
    rw [hf] at hm ⊢
    obtain rfl := List.mem_singleton.1 hm
    refine ⟨Nat.zero_lt_succ _, fun k bl hk => ?_, ⟨List.nodup_nil, fun x h => absurd h (List.not_mem_nil)⟩⟩
    match k, hk with
    | 0, hk =>
      obtain rfl : bl5 o c n = bl := by simpa using hk
      refine ⟨.inl rfl, ⟨fun _ => rfl, fun i x hx => (by cases hx), end5 o c n, fun a ha => ?_, fun t ht => absurd ht (List.not_mem_nil)⟩⟩
      obtain rfl := List.mem_singleton.1 ha
      exact .inr (.inl ⟨rfl, hn⟩)
  size := by unfold grsN; rw [hf]; simp [grN, blkN, bl5, nilV]
def blA (o0 o1 : Option Addr) (c0 c1 : Nat) : Blc := ⟨nilV, nilV, ⟨5, ⟨o0, c0, [⟨1, 1⟩]⟩, nilV, ⟨o1, c1, [⟨1, nilV⟩, ⟨2, nilV⟩]⟩⟩⟩
def blJ (o0 o1 : Option Addr) (c0 c1 : Nat) (n : Int) : Blc := ⟨nilV, nilV, ⟨4, nilV, nilV, ⟨o1, c1, [⟨3, ⟨o0, c0, [⟨2, n⟩]⟩⟩]⟩⟩⟩
def blR (o0 o1 : Option Addr) (c0 c1 : Nat) : Blc := ⟨⟨o0, c0, [2]⟩, nilV, ⟨1, ⟨o1, c1, [⟨1, 2⟩]⟩, nilV, nilV⟩⟩
theorem mayA {g : Grs} {a0 a1 b0 b1 d0 d1 e0 e1 oB : Option Addr} {x0 x1 y0 y1 z0 z1 v0 v1 cB : Nat} (hf : g.fs.l = [⟨0, ⟨oB, cB, [blA a0 a1 x0 x1, blJ b0 b1 y0 y1 7, blJ d0 d1 z0 z1 8, blR e0 e1 v0 v1]⟩⟩]) (hx : g.xs.l = xs4) (hl : g.ls.l = []) (ht : g.ts.l = []) (hs : g.ss.l = []) : MayP g where
  anf := by rw [hf]; exact anf4 hx hl ht hs
  gr := fun f hm => by
    rw [hf] at hm ⊢
    obtain rfl := List.mem_singleton.1 hm
    refine ⟨Nat.zero_lt_succ _, fun k bl hk => ?_, ⟨by show List.Nodup [2]; decide, fun x h => by
      have h : x ∈ [2] := h
      rw [List.mem_singleton] at h
      subst h; decide⟩⟩
    match k, hk with
    | 0, hk =>
      obtain rfl : blA a0 a1 x0 x1 = bl := by simpa using hk
      refine ⟨.inl rfl, ⟨fun _ => rfl, fun i x hx => (by cases hx), ⟨show (1 : Int) ≤ 5 by decide, show (5 : Int) ≤ 6 by decide, rfl, rfl, show ((5 : Int) = 6 ↔ 0 < 0) by decide, up_nil⟩, fun a ha => ?_, fun t ht => ?_⟩⟩
      · obtain rfl := List.mem_singleton.1 ha
        exact .inl ⟨rfl, by decide, by decide, .inl (by decide)⟩
      · have ht : t ∈ [(⟨1, nilV⟩ : Edg), ⟨2, nilV⟩] := ht
        rcases List.mem_cons.1 ht with rfl | ht
        · exact ⟨by decide, by show (1 : Int) < 4; decide, rfl, fun a ha => absurd ha (List.not_mem_nil)⟩
        obtain rfl := List.mem_singleton.1 ht
        exact ⟨by decide, by show (2 : Int) < 4; decide, rfl, fun a ha => absurd ha (List.not_mem_nil)⟩
    | 1, hk =>
      obtain rfl : blJ b0 b1 y0 y1 7 = bl := by simpa using hk
      refine ⟨.inr ⟨0, _, by decide, rfl, ⟨⟨1, nilV⟩, List.mem_cons_self .., rfl⟩⟩, ⟨fun h => (by cases h), fun i x hx => (by cases hx), ⟨show (1 : Int) ≤ 4 by decide, show (4 : Int) ≤ 6 by decide, rfl, rfl, show ((4 : Int) = 6 ↔ 0 < 0) by decide, up_nil⟩, fun a ha => absurd ha (List.not_mem_nil), fun t ht => ?_⟩⟩
      obtain rfl := List.mem_singleton.1 ht
      refine ⟨show (1 : Int) < 3 by decide, by show (3 : Int) < 4; decide, rfl, fun a ha => ?_⟩
      obtain rfl := List.mem_singleton.1 ha
      exact .inr (.inl ⟨rfl, by decide, by decide⟩)
    | 2, hk =>
      obtain rfl : blJ d0 d1 z0 z1 8 = bl := by simpa using hk
      refine ⟨.inr ⟨0, _, by decide, rfl, ⟨⟨2, nilV⟩, List.mem_cons_of_mem _ (List.mem_cons_self ..), rfl⟩⟩, ⟨fun h => (by cases h), fun i x hx => (by cases hx), ⟨show (1 : Int) ≤ 4 by decide, show (4 : Int) ≤ 6 by decide, rfl, rfl, show ((4 : Int) = 6 ↔ 0 < 0) by decide, up_nil⟩, fun a ha => absurd ha (List.not_mem_nil), fun t ht => ?_⟩⟩
      obtain rfl := List.mem_singleton.1 ht
      refine ⟨show (2 : Int) < 3 by decide, by show (3 : Int) < 4; decide, rfl, fun a ha => ?_⟩
      obtain rfl := List.mem_singleton.1 ha
      exact .inr (.inl ⟨rfl, by decide, by decide⟩)
    | 3, hk =>
      obtain rfl : blR e0 e1 v0 v1 = bl := by simpa using hk
      refine ⟨.inr ⟨1, _, by decide, rfl, ⟨_, List.mem_cons_self .., rfl⟩⟩, ⟨fun h => (by cases h), fun i x hx => (by cases hx), ⟨show (1 : Int) ≤ 1 by decide, show (1 : Int) ≤ 6 by decide, rfl, rfl, show ((1 : Int) = 6 ↔ 0 < 0) by decide, up_nil⟩, fun a ha => ?_, fun t ht => absurd ht (List.not_mem_nil)⟩⟩
      obtain rfl := List.mem_singleton.1 ha
      exact .inl ⟨rfl, by decide, by decide, .inr (.inr (.inl (List.mem_cons_self ..)))⟩
  size := by unfold grsN; rw [hf]; simp [grN, blkN, bl5, blA, blJ, blR, nilV]
theorem may0 {g : Grs} (hf : g.fs.l = []) : ¬ MayP g := fun h => by
  have := h.anf.pos
  rw [hf] at this
  exact absurd this (by decide)
end Go.Proofs.YtenlcdokaadobaaGreatDoor
namespace Go.Proofs.YtenlcdokaadobaaGreatDoor
open Go Go.Fw
set_option linter.unusedVariables false
def at5 : Atm := ⟨2, 5⟩
set_option maxRecDepth 10000 attribute [local irreducible] Code.wp wpList Calls Ex Op1 sat bat blk cb own Go.Fw.mp Go.Fw.mpO Go.Fw.mpI Go.Fw.mpE Go.Fw.itr HS Rd Ret wkD Hp Cl Cls Exit.then Exit.inBlock Exit.noGoto bodyPost Go.Fw.flat wk2 Go.Fw.all Go.Fw.owns wpOp
attribute [local irreducible] sk mpK sko mvO entK geS

set_option maxHeartbeats 4000000 in
theorem atomsA5_spec (w0 w : World) (H : List It) (c : Kk) (bK : Nat) (p : Int) (o : Option Addr) (hH : HS w0 noM (cb bK 127 (encKk c (p)) :: H) w) (hr : Rd w0 o (encAt at5)) (hp0 : 0 ≤ p) (hp1 : p ≤ 60001) :
    Ret Tryz.prog 79 #[.pointer (some (bat bK 0)), .slice o 1 1] w (fun r w' => r = .bool true ∧ HS w0 noM (cb bK 127 (encKk c (p + 1)) :: H) w') := by
  have hsp : Sp o 1 := hr.sp (sz := 2) rfl (by omega)
  (refine enter (N := 78) Tryz.func79 rfl Tryz.ntmps79 rfl ?_; intro a hA; dsimp only [sl0, Nat.reduceAdd] at hA)
  repeat' (first | (refine QT ?_; clear hA a; intro a hA) | (refine CT ?_ <;> repeat' refine CT ?_))
  refine wp_lpk (S := Nat) (fun i a w => i ≤ 1 ∧ HS w0 noM (cb bK 127 (encKk c (p + (i : Int))) :: H) w ∧ Sl 78 [(10, .int .i64 i), (9, .int .i64 (1 : Nat)), (8, .slice o 1 1), (0, .pointer (some (bat bK 0)))] a) (fun i => 1 - i)
    (fun a w => HS w0 noM (cb bK 127 (encKk c (p + 1)) :: H) w ∧ Sl 78 [] a) 0 ⟨by omega, (by rw [show p + ((0 : Nat) : Int) = p by omega]; exact hH), (hA.sub (by (repeat (first | exact trivial | refine ⟨rfl, ?_⟩)); first | done | fail "sub"))⟩ ?_ ?_
  · clear hA hH
    rintro i a w ⟨hi, hH, hA⟩
    by_cases hlt : i < 1
    rotate_left
    · obtain rfl : i = 1 := by omega
      repeat' (first | (refine QT ?_; clear hA a; intro a hA) | (refine CT ?_ <;> repeat' refine CT ?_))
      exact ⟨hH, (hA.sub (by (repeat (first | exact trivial | refine ⟨rfl, ?_⟩)); first | done | fail "sub"))⟩
    obtain rfl : i = 0 := by omega
    rw [show p + ((0 : Nat) : Int) = p by omega] at hH
    repeat' (first | (refine GT ?_ ?_ <;> intro hg <;> clear hA a <;> intro a hA <;> (first | exact FA | replace hg := of_decide_eq_true hg | replace hg := of_decide_eq_false hg | skip)) | ((first | apply st_ex hA hH rfl rfl (by decide) | apply dr_ex hA rfl rfl rfl (by decide) | apply dr_exp hA rfl rfl rfl (by decide) | apply dr_ex3 hA hH rfl rfl rfl (by decide)); (first | (apply ex_load_st (vs := encAt at5); rfl; rfl; exact cls_rd hr id (fun i v h => (by rw [Nat.zero_mul, Nat.zero_add]; exact h))) | (apply ex_indexAddr_nat; rfl; rfl; omega; exact hsp)); clear hA a; intro a hA) | (refine QT ?_; clear hA a; intro a hA) | (refine BT ?_; clear hA hH; rintro _ w ⟨bN, rfl, hH⟩ a hA) | (apply st_op0 hA rfl rfl; apply op_store_agg (vs := encAt at5); rfl; rfl; exact hH; (repeat constructor); (repeat rfl); clear hH; rintro _ w hH) | (apply st_op0 hA rfl rfl; apply op_store_fld (cs' := encKk c (p + 1)); rfl; rfl; rfl; exact hH; (repeat constructor); clear hH; rintro _ w hH) | ((first | refine CT ?_ | (refine DT ?_ ?_ <;> intro hc <;> try (exfalso; omega))) <;> repeat' refine CT ?_))
    all_goals first | exact ⟨1, ⟨by omega, hH.tail, (hA.sub (by (repeat (first | exact trivial | refine ⟨rfl, ?_⟩)); first | done | fail "sub"))⟩, by omega⟩ | (exfalso; have h1 := nd_t (by assumption); omega) | skip
  clear hA hH
  rintro a w ⟨hH, hA⟩
  repeat' (first | (refine QT ?_; clear hA a; intro a hA) | (refine CT ?_ <;> repeat' refine CT ?_))
  exact rt1 (.inl rfl) rfl hA rfl ⟨rfl, hH⟩
set_option maxHeartbeats 16000000 in
theorem body5_spec (w0 w : World) (H : List It) (c : Kk) (bK : Nat) (p : Int) (o : Option Addr) (hH : HS w0 noM (cb bK 127 (encKk c (p)) :: H) w) (hr : Rd w0 o (encAt at5)) (hp0 : 0 ≤ p) (hp1 : p ≤ 60000) :
    Ret Tryz.prog 45 #[.pointer (some (bat bK 0)), .agg (encB o).toArray, .int .i64 1] w (fun r w' => r = .bool true ∧ HS w0 noM (cb bK 127 (encKk c (p + 2)) :: H) w') := by
  (refine enter (N := 241) Tryz.func45 rfl Tryz.ntmps45 rfl ?_; intro a hA; dsimp only [sl0, Nat.reduceAdd] at hA)
  repeat' (first | (refine QT ?_; clear hA a; intro a hA) | (refine BT ?_; clear hA hH; rintro _ w ⟨bN, rfl, hH⟩ a hA) | (refine CT ?_ <;> repeat' refine CT ?_))
  (refine st_op hA rfl rfl (by decide) (op_call rfl rfl rfl (shapes_spec _)) ?_; clear hA; rintro _ w ⟨rfl, hk⟩ a hA; replace hH := hH.keep hk; clear hk)
  repeat' (first | (refine GT ?_ ?_ <;> intro hg <;> clear hA a <;> intro a hA <;> (first | exact FA | replace hg := of_decide_eq_true hg | replace hg := of_decide_eq_false hg | skip)) | (refine QT ?_; clear hA a; intro a hA) | (refine BT ?_; clear hA hH; rintro _ w ⟨bN, rfl, hH⟩ a hA) | (apply st_op0 hA rfl rfl; apply op_store_agg (vs := shp2); rfl; rfl; exact hH; (repeat constructor); (repeat rfl); clear hH; rintro _ w hH) | (apply st_op0 hA rfl rfl; apply op_store_fld (cs' := encKk c (p + 1)); rfl; rfl; rfl; exact hH; (repeat constructor); clear hH; rintro _ w hH) | (refine CT ?_ <;> repeat' refine CT ?_))
  replace hH := hH.up 4 rfl
  dsimp only [List.eraseIdx_cons_succ, List.eraseIdx_cons_zero] at hH
  (refine st_op hA rfl rfl (by decide) (op_call rfl rfl rfl (atomsA5_spec w0 _ _ c bK (p + 1) o hH hr (by omega) (by omega))) ?_; clear hA hH)
  rintro _ w ⟨rfl, hH⟩ a hA
  repeat' (first | (refine QT ?_; clear hA a; intro a hA) | (refine CT ?_ <;> repeat' refine CT ?_))
  (refine st_op hA rfl rfl (by decide) (op_call rfl rfl rfl (containsFA_spec _ _)) ?_; clear hA; rintro _ w ⟨rfl, hk⟩ a hA; replace hH := hH.keep hk; clear hk)
  repeat' (first | (refine QT ?_; clear hA a; intro a hA) | (refine CT ?_ <;> repeat' refine CT ?_))
  rw [show p + 1 + 1 = p + 2 by omega] at hH
  exact rt1 (.inl rfl) rfl hA rfl ⟨rfl, hH.rm 1 |>.rm 1 |>.rm 1 |>.rm 1⟩
set_option maxHeartbeats 16000000 in
theorem anfMay5_spec (w0 : World) (oF : Option Addr) (cF : Nat) (cs : List Int) (o : Option Addr) (g : Grs) (hF : Rd w0 oF (flat (encF o) cs)) (hr : Rd w0 o (encAt at5)) (hcl : cs.length ≤ 100000) (hls : RdV w0 encX g.ls) (hts : RdV w0 encX g.ts) (hxs : RdV w0 encX g.xs) (hss : RdV w0 encX g.ss) :
    Ret Tryz.prog 18 #[.agg (encP oF cs.length cF g).toArray] w0 (fun v w => ∃ b, v = .bool b ∧ (b = true ↔ AnfP cs g) ∧ Kp w0 noM w) := by
  have hH : HS w0 noM [] w0 := HS.init w0 noM
  have hspF : Sp oF cs.length := hF.sp (sz := 12) (flat_length (encF_len o) _) (by omega)
  (refine enter (N := 126) Tryz.func18 rfl Tryz.ntmps18 rfl ?_; intro a hA; dsimp only [sl0, Nat.reduceAdd] at hA)
  repeat' (first | (refine GT ?_ ?_ <;> intro hg <;> clear hA a <;> intro a hA <;> (first | exact FA | replace hg := of_decide_eq_true hg | replace hg := of_decide_eq_false hg | skip)) | ((first | apply st_ex hA hH rfl rfl (by decide) | apply dr_ex hA rfl rfl rfl (by decide) | apply dr_exp hA rfl rfl rfl (by decide) | apply dr_ex3 hA hH rfl rfl rfl (by decide)); (first | (apply ex_load; rfl; refine cl_rd hF id (cap_at ?_); (show 0 < _); omega)); clear hA a; intro a hA) | (refine QT ?_; clear hA a; intro a hA) | (refine BT ?_; clear hA hH; rintro _ w ⟨bN, rfl, hH⟩ a hA) | (refine LT ?_; clear hA hH; rintro _ w ⟨oN, rfl, hH⟩ a hA) | (refine st_op hA rfl rfl (by decide) (op_call rfl rfl rfl (rising_spec _ g.ls (hls.keep hH.kp))) ?_; clear hA; rintro _ w ⟨b, rfl, hb1, hk⟩ a hA; replace hH := hH.keep hk; clear hk) | (refine st_op hA rfl rfl (by decide) (op_call rfl rfl rfl (rising_spec _ g.ts (hts.keep hH.kp))) ?_; clear hA; rintro _ w ⟨b, rfl, hb2, hk⟩ a hA; replace hH := hH.keep hk; clear hk) | (refine st_op hA rfl rfl (by decide) (op_call rfl rfl rfl (rising_spec _ g.xs (hxs.keep hH.kp))) ?_; clear hA; rintro _ w ⟨b, rfl, hb3, hk⟩ a hA; replace hH := hH.keep hk; clear hk) | ((first | refine CT ?_ | (refine DT ?_ ?_ <;> intro hc <;> try (exfalso; omega))) <;> repeat' refine CT ?_))
  · exact rt1 (.inl rfl) rfl hA rfl ⟨_, rfl, anf_no (fun h => (by have := h.pos; omega)), hH.kp⟩
  · exact rt1 (.inl rfl) rfl hA rfl ⟨_, rfl, anf_no (fun h => (by have := h.top; omega)), hH.kp⟩
  · exact rt1 (.inl rfl) rfl hA rfl ⟨_, rfl, anf_no (fun h => (by assumption : cs.getD (Int.toNat 0) 0 ≠ 0) h.c0), hH.kp⟩
  · exact rt1 (.inl rfl) rfl hA rfl ⟨_, rfl, anf_no (fun h => nb_no hb1 (by assumption) h.ls), hH.kp⟩
  · exact rt1 (.inl rfl) rfl hA rfl ⟨_, rfl, anf_no (fun h => nb_no hb2 (by assumption) h.ts), hH.kp⟩
  · exact rt1 (.inl rfl) rfl hA rfl ⟨_, rfl, anf_no (fun h => nb_no hb3 (by assumption) h.xs), hH.kp⟩
  have hp1 := nb_yes hb1 (by assumption)
  have hp2 := nb_yes hb2 (by assumption)
  have hp3 := nb_yes hb3 (by assumption)
  have hc0 : cs.getD 0 0 = 0 := Decidable.not_not.1 (by assumption : ¬ cs.getD (Int.toNat 0) 0 ≠ 0)
  clear hb1 hb2 hb3
  obtain ⟨b1, hb1⟩ : ∃ x, x = bN := ⟨_, rfl⟩
  rw [← hb1] at hA hH
  clear hb1 bN
  have hcl2 : 1 ≤ cs.length := by omega
  have hcl4 : cs.length ≤ 4096 := by omega
  obtain ⟨sl, hsl0, hsl, hH1⟩ := own4 hH
  have hsl4 : sl = four := hsl0.trans rfl
  clear hsl0
  clear hH
  have hH := hH1
  clear hH1
  have hA2 : Sl 126 [(48, .int .i64 (0 : Nat)), (47, .int .i64 sl.length), (46, .slice oN sl.length sl.length), (1, .pointer (some (bat b1 0)))] a := by rw [hsl]; exact (hA.sub (by (repeat (first | exact trivial | refine ⟨rfl, ?_⟩)); first | done | fail "sub"))
  clear hA
  have hspS := hH.own_sp (T := 9) (o := oN) (.head _)
  refine wp_lpk (S := Nat) (fun i a w => (i ≤ sl.length ∧ ∀ k, k < i → hasS g.xs.l (sl.getD k default)) ∧ HS w0 noM [own 9 1 oN sl.length sl.length (flat encX sl), cb b1 34 (encP oF cs.length cF g)] w ∧ Sl 126 [(48, .int .i64 i), (47, .int .i64 sl.length), (46, .slice oN sl.length sl.length), (1, .pointer (some (bat b1 0)))] a) (fun i => sl.length - i)
    (fun a w => (∀ k, k < sl.length → hasS g.xs.l (sl.getD k default)) ∧ HS w0 noM [cb b1 34 (encP oF cs.length cF g)] w ∧ Sl 126 [(1, .pointer (some (bat b1 0)))] a) 0 ⟨⟨Nat.zero_le _, fun k h => absurd h (Nat.not_lt_zero _)⟩, hH, hA2⟩ ?_ ?_
  · clear hA2 hH
    rintro i a w ⟨⟨hi, hhas⟩, hH, hA⟩
    by_cases hlt : i < sl.length
    rotate_left
    · obtain rfl : i = sl.length := by omega
      repeat' (first | (refine QT ?_; clear hA a; intro a hA) | ((first | refine CT ?_ | (refine DT ?_ ?_ <;> intro hc <;> try (exfalso; omega))) <;> repeat' refine CT ?_))
      exact ⟨hhas, hH.tail, (hA.sub (by (repeat (first | exact trivial | refine ⟨rfl, ?_⟩)); first | done | fail "sub"))⟩
    have hv := strs_at hlt
    repeat' (first | ((first | apply st_ex hA hH rfl rfl (by decide) | apply dr_ex hA rfl rfl rfl (by decide) | apply dr_exp hA rfl rfl rfl (by decide) | apply dr_ex3 hA hH rfl rfl rfl (by decide)); (first | (apply ex_indexAddr_nat; rfl; rfl; omega; exact hspS) | (apply ex_load; rfl; apply cl_own (T := 9); exact MEMT; exact hv)); clear hA a; intro a hA) | (refine QT ?_; clear hA a; intro a hA) | ((first | refine CT ?_ | (refine DT ?_ ?_ <;> intro hc <;> try (exfalso; omega))) <;> repeat' refine CT ?_))
    (refine st_op hA rfl rfl (by decide) (op_call rfl rfl rfl (containsX_spec _ g.xs _ (hxs.keep hH.kp))) ?_; clear hA; rintro _ w ⟨rfl, hk⟩ a hA; replace hH := hH.keep hk; clear hk)
    repeat' (first | (refine QT ?_; clear hA a; intro a hA) | ((first | refine CT ?_ | (refine DT ?_ ?_ <;> intro hc <;> try (exfalso; omega))) <;> repeat' refine CT ?_))
    all_goals first | exact ⟨i + 1, ⟨⟨hlt, lt_next (p := fun k => hasS g.xs.l (sl.getD k default)) hhas (by assumption)⟩, hH, (hA.sub (by (repeat (first | exact trivial | refine ⟨rfl, ?_⟩)); first | done | fail "sub"))⟩, by omega⟩ | exact rt1 (.inl rfl) rfl hA rfl ⟨_, rfl, anf_no (fun h => (by assumption : ¬ 0 ≤ idxF g.xs.l (sl.getD i default)) (has4 h _ (hsl4 ▸ getD_mem hlt))), hH.kp⟩
  clear hA2 hH
  rintro a w ⟨hhas, hH, hA⟩
  rw [hsl4] at hhas
  have hx4 := has4_of hhas
  clear hhas hsl hsl4 hspS
  repeat' (first | (refine QT ?_; clear hA a; intro a hA) | (refine CT ?_ <;> repeat' refine CT ?_))
  (refine st_op hA rfl rfl (by decide) (op_call rfl rfl rfl (containsFX_spec _ g.ss (hss.keep hH.kp))) ?_; clear hA; rintro _ w ⟨b, rfl, hbs, hk⟩ a hA; replace hH := hH.keep hk; clear hk)
  repeat' (first | ((first | apply st_ex hA hH rfl rfl (by decide) | apply dr_ex hA rfl rfl rfl (by decide) | apply dr_exp hA rfl rfl rfl (by decide) | apply dr_ex3 hA hH rfl rfl rfl (by decide)); (first | (apply ex_build (szs := [(0, 5), (5, 1), (6, 1), (7, 1), (8, 1), (9, 1), (10, 1), (11, 1)]) (cs := (encKk (kk0 oF cs.length cF g) 0).toArray); exact run_szl (by (repeat (first | exact SzL.nil | refine SzL.cons ⟨_, rfl, by decide⟩ ?_))); rfl; rfl)); clear hA a; intro a hA) | (refine QT ?_; clear hA a; intro a hA) | (refine BT ?_; clear hA hH; rintro _ w ⟨bN, rfl, hH⟩ a hA) | ((first | refine CT ?_ | (refine DT ?_ ?_ <;> intro hc <;> try (exfalso; omega))) <;> repeat' refine CT ?_))
  · exact rt1 (.inl rfl) rfl hA rfl ⟨_, rfl, anf_no (fun h => hbs.1 (by assumption) h.ss), hH.kp⟩
  have hss4 : ∀ s ∈ g.ss.l, s.size ≤ 4096 := Classical.not_not.1 fun h => absurd ((by assumption : b = false).symm.trans (hbs.2 h)) (by decide)
  clear hbs
  obtain ⟨bK, hbK⟩ : ∃ x, x = bN := ⟨_, rfl⟩
  rw [← hbK] at hA hH
  clear hbK bN
  refine wp_lpk (S := Nat) (fun i a w => ∃ oA cA, i ≤ cs.length ∧ HS w0 noM [cb bK 127 (encKk ⟨oF, cs.length, cF, g, oA, i, cA, 0, none, none, none, none⟩ 0), own 3 1 oA i cA (flat Fw.encI (cs.take i)), cb b1 34 (encP oF cs.length cF g)] w ∧ Sl 126 [(67, .int .i64 i), (66, .int .i64 cs.length), (65, .slice oF cs.length cF), (5, .pointer (some (bat bK 0))), (1, .pointer (some (bat b1 0)))] a) (fun i => cs.length - i)
    (fun a w => ∃ oA nA cA, HS w0 noM [cb bK 127 (encKk ⟨oF, cs.length, cF, g, oA, nA, cA, 0, none, none, none, none⟩ 0), cb b1 34 (encP oF cs.length cF g)] w ∧ Sl 126 [(5, .pointer (some (bat bK 0))), (1, .pointer (some (bat b1 0)))] a) 0 ⟨none, 0, Nat.zero_le _, (by rw [List.take_zero]; exact (hH.nil_flat Fw.encI 3 1).perm (by (repeat (first | exact List.Perm.refl _ | exact List.Perm.nil | refine perm_pick 0 rfl ?_ | refine perm_pick 1 rfl ?_ | refine perm_pick 2 rfl ?_ | refine perm_pick 3 rfl ?_ | refine perm_pick 4 rfl ?_ | refine perm_pick 5 rfl ?_ | refine perm_pick 6 rfl ?_ | refine perm_pick 7 rfl ?_ | refine perm_pick 8 rfl ?_ | refine perm_pick 9 rfl ?_ | refine perm_pick 10 rfl ?_ | refine perm_pick 11 rfl ?_)))), (hA.sub (by (repeat (first | exact trivial | refine ⟨rfl, ?_⟩)); first | done | fail "sub"))⟩ ?_ ?_
  · clear hA hH
    rintro i a w ⟨oA, cA, hi, hH, hA⟩
    by_cases hlt : i < cs.length
    rotate_left
    · repeat' (first | (refine QT ?_; clear hA a; intro a hA) | ((first | refine CT ?_ | (refine DT ?_ ?_ <;> intro hc <;> try (exfalso; omega))) <;> repeat' refine CT ?_))
      exact ⟨oA, i, cA, hH.rm 1, (hA.sub (by (repeat (first | exact trivial | refine ⟨rfl, ?_⟩)); first | done | fail "sub"))⟩
    obtain ⟨x, hx⟩ : ∃ x, cs[i]? = some x := ⟨_, List.getElem?_eq_getElem hlt⟩
    have hvx := flat_all (encF_len o) hx
    repeat' (first | ((first | apply st_ex hA hH rfl rfl (by decide) | apply dr_ex hA rfl rfl rfl (by decide) | apply dr_exp hA rfl rfl rfl (by decide) | apply dr_ex3 hA hH rfl rfl rfl (by decide)); (first | (apply ex_load_st (vs := encF o x); rfl; rfl; exact cls_rd hF id hvx) | (apply ex_indexAddr_nat; rfl; rfl; omega; exact hspF)); clear hA a; intro a hA) | (refine QT ?_; clear hA a; intro a hA) | (refine BT ?_; clear hA hH; rintro _ w ⟨bN, rfl, hH⟩ a hA) | (apply st_op0 hA rfl rfl; apply op_store_agg (vs := encF o x); rfl; rfl; exact hH; (repeat constructor); (repeat rfl); clear hH; rintro _ w hH) | ((first | refine CT ?_ | (refine DT ?_ ?_ <;> intro hc <;> try (exfalso; omega))) <;> repeat' refine CT ?_))
    have hST : HS w0 noM [cb bN 72 (encF o x), cb bK 127 (encKk ⟨oF, cs.length, cF, g, oA, i, cA, 0, none, none, none, none⟩ 0)] w := HS.left (H1 := [_, _]) hH
    (refine wp_draw2_HS (H := [_, _]) [(0, 1), (1, 1), (2, 1), (3, 1), (4, 1), (5, 1), (6, 1), (7, 0), (8, 0), (9, 1), (10, 1)] [11] mixed (by decide +kernel) (hST) ?_; replace hH := hH.drew)
    clear hST
    repeat' (first | (refine QT ?_; clear hA a; intro a hA) | (refine DLT ?_; clear hA hH; rintro _ w ⟨oN, rfl, hH⟩; refine ⟨STT, ?_⟩; intro a hA))
    (apply dr_op hA rfl rfl rfl (by decide); apply op_sliceLit; rfl; rfl; exact CATST; rfl; rfl; rfl; exact hH; clear hA hH; rintro _ w ⟨oN, rfl, hH⟩; refine ⟨HS.left (H1 := [_, _]) hH.tail, ?_⟩; intro a hA)
    dsimp only at hA
    (apply dr_op hA rfl rfl rfl (by decide); apply op_append; rfl; rfl; exact hH; exact MEMT; exact (hH.own_rd (List.Mem.head _)); exact rfl; rfl; decide; exact rfl; (unfold maxLen; omega); omega; clear hA; rintro _ w ⟨oN, cN, rfl, hH2⟩; clear hH; have hH := hH2 _ (by (repeat constructor)); clear hH2; refine ⟨HS.left (H1 := [_, _]) hH.tail, ?_⟩; intro a hA)
    rw [flatI_s, ← take_snoc hx] at hH
    repeat' (first | (refine QT ?_; clear hA a; intro a hA) | (refine CT ?_ <;> repeat' refine CT ?_))
    (apply dr_op03 hA rfl rfl rfl; apply op_store_fld (cs' := encKk ⟨oF, cs.length, cF, g, oN, i + 1, cN, 0, none, none, none, none⟩ 0); rfl; rfl; rfl; exact hH; (repeat constructor); clear hH; rintro _ w hH)
    repeat' (first | (refine QT ?_; clear hA a; intro a hA) | (refine CT ?_ <;> repeat' refine CT ?_))
    exact ⟨i + 1, ⟨oN, cN, hlt, (((hH.rm 0).rm 0).perm (by (repeat (first | exact List.Perm.refl _ | exact List.Perm.nil | refine perm_pick 0 rfl ?_ | refine perm_pick 1 rfl ?_ | refine perm_pick 2 rfl ?_ | refine perm_pick 3 rfl ?_ | refine perm_pick 4 rfl ?_ | refine perm_pick 5 rfl ?_ | refine perm_pick 6 rfl ?_ | refine perm_pick 7 rfl ?_ | refine perm_pick 8 rfl ?_ | refine perm_pick 9 rfl ?_ | refine perm_pick 10 rfl ?_ | refine perm_pick 11 rfl ?_)))), (hA.sub (by (repeat (first | exact trivial | refine ⟨rfl, ?_⟩)); first | done | fail "sub"))⟩, by omega⟩
  clear hA hH
  rintro a w ⟨oA, nA, cA, hH, hA⟩
  repeat' (first | (refine QT ?_; clear hA a; intro a hA) | (refine CT ?_ <;> repeat' refine CT ?_))
  refine wp_lpk (S := Nat) (fun i a w => ∃ c p, (i ≤ cs.length ∧ 0 ≤ p ∧ p ≤ 2 * (i : Int) ∧ ∀ c ∈ cs.take i, 0 ≤ c ∧ c ≤ 4096) ∧ HS w0 noM [cb bK 127 (encKk c p), cb b1 34 (encP oF cs.length cF g)] w ∧ Sl 126 [(86, .int .i64 i), (85, .int .i64 cs.length), (84, .slice oF cs.length cF), (5, .pointer (some (bat bK 0)))] a) (fun i => cs.length - i)
    (fun a w => (∀ c ∈ cs, 0 ≤ c ∧ c ≤ 4096) ∧ HS w0 noM [] w ∧ Sl 126 [] a) 0 ⟨_, 0, ⟨Nat.zero_le _, Int.le_refl _, by omega, (by rw [List.take_zero]; exact fun c h => absurd h List.not_mem_nil)⟩, hH, (hA.sub (by (repeat (first | exact trivial | refine ⟨rfl, ?_⟩)); first | done | fail "sub"))⟩ ?_ ?_
  · clear hA hH
    rintro i a w ⟨c, p, ⟨hi, hp0, hp1, hcap⟩, hH, hA⟩
    by_cases hlt : i < cs.length
    rotate_left
    · obtain rfl : i = cs.length := by omega
      rw [List.take_length] at hcap
      repeat' (first | (refine QT ?_; clear hA a; intro a hA) | ((first | refine CT ?_ | (refine DT ?_ ?_ <;> intro hc <;> try (exfalso; omega))) <;> repeat' refine CT ?_))
      exact ⟨hcap, hH.tail.tail, (hA.sub (by (repeat (first | exact trivial | refine ⟨rfl, ?_⟩)); first | done | fail "sub"))⟩
    obtain ⟨x, hx⟩ : ∃ x, cs[i]? = some x := ⟨_, List.getElem?_eq_getElem hlt⟩
    have hvx := flat_all (encF_len o) hx
    repeat' (first | (refine GT ?_ ?_ <;> intro hg <;> clear hA a <;> intro a hA <;> (first | exact FA | replace hg := of_decide_eq_true hg | replace hg := of_decide_eq_false hg | skip)) | ((first | apply st_ex hA hH rfl rfl (by decide) | apply dr_ex hA rfl rfl rfl (by decide) | apply dr_exp hA rfl rfl rfl (by decide) | apply dr_ex3 hA hH rfl rfl rfl (by decide)); (first | (apply ex_load_st (vs := encF o x); rfl; rfl; exact cls_rd hF id hvx) | (apply ex_indexAddr_nat; rfl; rfl; omega; exact hspF)); clear hA a; intro a hA) | (refine QT ?_; clear hA a; intro a hA) | (refine BT ?_; clear hA hH; rintro _ w ⟨bN, rfl, hH⟩ a hA) | (apply st_op0 hA rfl rfl; apply op_store_agg (vs := encF o x); rfl; rfl; exact hH; (repeat constructor); (repeat rfl); clear hH; rintro _ w hH) | (apply st_op0 hA rfl rfl; apply op_store_fld (cs' := encKk { c with caps := x } p); rfl; rfl; rfl; exact hH; (repeat constructor); clear hH; rintro _ w hH) | ((first | refine CT ?_ | (refine DT ?_ ?_ <;> intro hc <;> try (exfalso; omega))) <;> repeat' refine CT ?_))
    · exact rt1 (.inl rfl) rfl hA rfl ⟨_, rfl, anf_no (fun h => (by have := h.caps x (List.mem_of_getElem? hx); omega)), hH.kp⟩
    · exact rt1 (.inl rfl) rfl hA rfl ⟨_, rfl, anf_no (fun h => (by have := h.caps x (List.mem_of_getElem? hx); omega)), hH.kp⟩
    have hxx : 0 ≤ x ∧ x ≤ 4096 := by omega
    (refine st_op hA rfl rfl (by decide) (op_makeMapK hH) ?_; clear hA hH; rintro _ w ⟨m1, rfl, hH⟩ a hA)
    (refine st_op hA rfl rfl (by decide) (op_makeMapK hH) ?_; clear hA hH; rintro _ w ⟨m2, rfl, hH⟩ a hA)
    repeat' (first | (refine QT ?_; clear hA a; intro a hA) | (apply st_op0 hA rfl rfl; apply op_insertK; rfl; rfl; rfl; exact hH; (repeat constructor); clear hH; rintro _ w hH))
    (refine st_op hA rfl rfl (by decide) (op_makeMapI hH) ?_; clear hA hH; rintro _ w ⟨m3, rfl, hH⟩ a hA)
    (refine st_op hA rfl rfl (by decide) (op_makeMapK hH) ?_; clear hA hH; rintro _ w ⟨m4, rfl, hH⟩ a hA)
    obtain ⟨ca, hca⟩ : ∃ y : Kk, y = { c with caps := x } := ⟨_, rfl⟩
    have hH5 := hH.rm 0 |>.rm 0 |>.rm 0 |>.rm 0
    clear hH
    dsimp only [List.eraseIdx_cons_succ, List.eraseIdx_cons_zero] at hH5
    have hH := hH5
    clear hH5
    rw [← hca] at hH
    obtain ⟨oP, nP, cP, g', oA', nA', cA', caps', e', n', j', o'⟩ := ca
    repeat' (first | (refine QT ?_; clear hA a; intro a hA) | (apply st_op0 hA rfl rfl; apply op_store_fld (cs' := encKk ⟨oP, nP, cP, g', oA', nA', cA', caps', some m1, n', j', o'⟩ p); rfl; rfl; rfl; exact hH; (repeat constructor); clear hH; rintro _ w hH) | (apply st_op0 hA rfl rfl; apply op_store_fld (cs' := encKk ⟨oP, nP, cP, g', oA', nA', cA', caps', some m1, some m2, j', o'⟩ p); rfl; rfl; rfl; exact hH; (repeat constructor); clear hH; rintro _ w hH) | (apply st_op0 hA rfl rfl; apply op_store_fld (cs' := encKk ⟨oP, nP, cP, g', oA', nA', cA', caps', some m1, some m2, some m3, o'⟩ p); rfl; rfl; rfl; exact hH; (repeat constructor); clear hH; rintro _ w hH) | (apply st_op0 hA rfl rfl; apply op_store_fld (cs' := encKk ⟨oP, nP, cP, g', oA', nA', cA', caps', some m1, some m2, some m3, some m4⟩ p); rfl; rfl; rfl; exact hH; (repeat constructor); clear hH; rintro _ w hH) | (refine CT ?_ <;> repeat' refine CT ?_))
    repeat' (first | ((first | apply st_ex hA hH rfl rfl (by decide) | apply dr_ex hA rfl rfl rfl (by decide) | apply dr_exp hA rfl rfl rfl (by decide) | apply dr_ex3 hA hH rfl rfl rfl (by decide)); (first | (apply ex_load_st (vs := encB o); rfl; rfl; exact cls_cb MEMT (sub_bd o x))); clear hA a; intro a hA) | (refine QT ?_; clear hA a; intro a hA))
    (refine st_op hA rfl rfl (by decide) (op_call rfl rfl rfl (body5_spec w0 _ _ _ bK p o (hH.up 1 rfl) hr hp0 (by omega))) ?_; clear hA hH)
    rintro _ w ⟨rfl, hH⟩ a hA
    repeat' (first | (refine QT ?_; clear hA a; intro a hA) | (refine CT ?_ <;> repeat' refine CT ?_))
    exact ⟨i + 1, ⟨_, p + 2, ⟨hlt, by omega, by omega, caps_next hx hcap hxx⟩, hH.rm 1, (hA.sub (by (repeat (first | exact trivial | refine ⟨rfl, ?_⟩)); first | done | fail "sub"))⟩, by omega⟩
  clear hA hH
  rintro a w ⟨hcap, hH, hA⟩
  repeat' (first | (refine QT ?_; clear hA a; intro a hA) | (refine CT ?_ <;> repeat' refine CT ?_))
  exact rt1 (.inl rfl) rfl hA rfl ⟨_, rfl, iff_of_true rfl ⟨hcl2, hcl4, hc0, hp1, hp2, hp3, hx4, hss4, hcap⟩, hH.kp⟩
end Go.Proofs.YtenlcdokaadobaaGreatDoor
namespace Go.Proofs.YtenlcdokaadobaaGreatDoor
open Go Go.Fw
set_option linter.unusedVariables false
theorem flatX_nil : flat encX [] = [] := rfl
def encMk (o : Option Addr) (n c bJ : Nat) : List Value := [.slice o n c, .map (some bJ)]
def dr0 : List Value := [.slice none 0 0, .slice none 0 0, .int .i64 0, .slice none 0 0, .slice none 0 0, .slice none 0 0, .int .i64 0]
theorem rd_cells {w : World} {b k : Nat} {xs : List Value} (h : Rd w (some ⟨b, k, none⟩) xs) : ∀ j u, xs[j]? = some u → w.cell? ((⟨b, k, none⟩ : Addr).add j) = some u := fun j u hj => by
  have h1 := h.2 j u hj
  have e : (⟨b, k, none⟩ : Addr).add j = sat (some ⟨b, k, none⟩) j := by
    by_cases h0 : j = 0 <;> simp [sat, blkO, offO, Addr.add, h0]
  rw [e]; exact h1
theorem one_at : flat encAt (List.replicate 1 (⟨0, 0⟩ : Atm)) ++ [] = [.int .i64 0, .int .i64 0] := rfl
theorem rd_some {w : World} {o : Option Addr} {xs : List Value} (h : Rd w o xs) (hl : 0 < xs.length) : ∃ b k, o = some ⟨b, k, none⟩ := h.1 hl
set_option maxRecDepth 10000 attribute [local irreducible] Code.wp wpList Calls Ex Op1 sat bat blk cb own Go.Fw.mp Go.Fw.mpO Go.Fw.mpI Go.Fw.mpE Go.Fw.itr HS Rd Ret wkD Hp Cl Cls Exit.then Exit.inBlock Exit.noGoto bodyPost Go.Fw.flat wk2 Go.Fw.all Go.Fw.owns wpOp
attribute [local irreducible] sk mpK sko mvO entK opM Go.Fw.mset Go.Fw.mv opK

set_option maxHeartbeats 4000000 in
theorem cloneX_spec (w0 : World) (v : Vec ByteArray) (hR : RdV w0 encX v) (hl : v.l.length ≤ 1048576) :
    Ret Tryz.prog 39 #[.slice v.o v.l.length v.c] w0 (fun r w => ∃ o' c', r = .slice o' v.l.length c' ∧ HS w0 noM [own 9 1 o' v.l.length c' (flat encX v.l)] w) := by
  have hH : HS w0 noM [] w0 := HS.init w0 noM
  have hfl : (flat encX v.l).length = v.l.length * 1 := flat_length encX_len _
  have hon : (flat encX v.l).all (·.oneCell') = true := flat_one_cell (fun _ => rfl) _
  (refine enter (N := 8) Tryz.func39 rfl Tryz.ntmps39 rfl ?_; intro a hA; dsimp only [sl0, Nat.reduceAdd] at hA)
  repeat' (first | ((first | apply st_ex hA hH rfl rfl (by decide) | apply dr_ex hA rfl rfl rfl (by decide) | apply dr_exp hA rfl rfl rfl (by decide) | apply dr_ex3 hA hH rfl rfl rfl (by decide)); (first | (apply ex_eqlNil; rfl; rfl)); clear hA a; intro a hA) | (refine QT ?_; clear hA a; intro a hA) | (refine LT ?_; clear hA hH; rintro _ w ⟨oN, rfl, hH⟩ a hA) | ((first | refine CT ?_ | (refine DT ?_ ?_ <;> intro hc <;> try (exfalso; omega))) <;> repeat' refine CT ?_))
  · have hnil := rd_nil hR.1 (by assumption)
    have hl0 : v.l.length = 0 := by rw [← Nat.mul_one v.l.length, ← hfl, hnil]; rfl
    obtain ⟨o, c, l⟩ := v
    obtain rfl : l = [] := List.length_eq_zero_iff.1 hl0
    exact rt1 (.inl rfl) rfl hA rfl ⟨none, 0, rfl, by show HS w0 noM [own _ 1 none 0 0 (flat encX [])] _; rw [flatX_nil]; exact hH.nil_own 9 1⟩
  · have hRw := hH.rd hR.1 id
    (apply st_op hA rfl rfl (by decide); apply op_append; rfl; rfl; exact hH; exact MEMT; exact hRw; exact hfl; rfl; decide; exact hon; (unfold maxLen; omega); omega; clear hA; rintro _ w ⟨oN, cN, rfl, hH2⟩ a hA; clear hH; have hH := hH2 _ (by (repeat constructor)); clear hH2)
    repeat' (first | (refine QT ?_; clear hA a; intro a hA) | (refine CT ?_ <;> repeat' refine CT ?_))
    rw [Nat.zero_add] at hA hH
    exact rt1 (.inl rfl) rfl hA rfl ⟨_, _, rfl, hH⟩
set_option maxHeartbeats 4000000 in
theorem cloneN0_spec (w0 : World) : Ret Tryz.prog 110 #[.slice none 0 0] w0 (fun r w => r = .slice none 0 0 ∧ Kp w0 noM w) := by
  have hH : HS w0 noM [] w0 := HS.init w0 noM
  (refine enter (N := 8) Tryz.func110 rfl Tryz.ntmps110 rfl ?_; intro a hA; dsimp only [sl0, Nat.reduceAdd] at hA)
  repeat' (first | ((first | apply st_ex hA hH rfl rfl (by decide) | apply dr_ex hA rfl rfl rfl (by decide) | apply dr_exp hA rfl rfl rfl (by decide) | apply dr_ex3 hA hH rfl rfl rfl (by decide)); (first | (apply ex_eqlNil; rfl; rfl)); clear hA a; intro a hA) | (refine QT ?_; clear hA a; intro a hA) | (refine CT ?_ <;> repeat' refine CT ?_))
  exact rt1 (.inl rfl) rfl hA rfl ⟨rfl, hH.kp⟩
set_option maxHeartbeats 4000000 in
theorem atoms1_spec (w0 : World) (o : Option Addr) (c : Nat) (x : Atm) (hR : Rd w0 o (encAt x)) :
    Ret Tryz.prog 109 #[.slice o 1 c] w0 (fun r w => ∃ o', r = .slice o' 1 1 ∧ HS w0 noM [own 65 2 o' 1 1 (encAt x)] w) := by
  have hH : HS w0 noM [] w0 := HS.init w0 noM
  obtain ⟨bO, kO, rfl⟩ := rd_some hR (Nat.zero_lt_succ _)
  (refine enter (N := 11) Tryz.func109 rfl Tryz.ntmps109 rfl ?_; intro a hA; dsimp only [sl0, Nat.reduceAdd] at hA)
  repeat' (first | (refine QT ?_; clear hA a; intro a hA) | (apply st_op hA rfl rfl (by decide); apply op_make encAt (⟨0, 0⟩ : Atm) (n := 1); rfl; rfl; rfl; rfl; decide; decide; exact encAt_len; rfl; decide; exact hH; clear hA hH; rintro _ w ⟨oN, rfl, hH⟩ a hA) | (refine CT ?_ <;> repeat' refine CT ?_))
  obtain ⟨b, spare, rfl, q1, q2, q3, q4, hH2⟩ := hH.own_block (by decide)
  have hsp : spare = [] := List.length_eq_zero_iff.1 (by rw [q3] at q4; omega)
  subst hsp
  clear hH
  have hH := hH2
  clear hH2
  rw [one_at] at hH
  have hRw := rd_cells (hH.rd hR id)
  repeat' (first | (refine QT ?_; clear hA a; intro a hA))
  (apply st_op hA rfl rfl (by decide); apply op_copy_cb (cells := [.int .i64 0, .int .i64 0]) (news := encAt x); rfl; rfl; exact hH; exact hRw; rfl; rfl; exact Nat.le_refl 2; (repeat constructor); clear hA hH; rintro _ w ⟨rfl, hH⟩ a hA)
  repeat' (first | (refine QT ?_; clear hA a; intro a hA) | (refine CT ?_ <;> repeat' refine CT ?_))
  exact rt1 (.inl rfl) rfl hA rfl ⟨_, rfl, HS.block_own (sz := 2) (xs := encAt x) (spare := []) (by rw [List.append_nil]; exact hH) rfl (Nat.le_refl _) (by decide) rfl⟩
set_option maxHeartbeats 8000000 in
theorem fresh0_spec (w0 w : World) (H : List It) (bM bJ : Nat) (hH : HS w0 noM (cb bM 174 (encMk none 0 0 bJ) :: H) w) :
    Ret Tryz.prog 74 #[.pointer (some (bat bM 0)), .slice none 0 0] w (fun r w' => ∃ oD cD, r = .int .i64 0 ∧ HS w0 noM (cb bM 174 (encMk oD 1 cD bJ) :: own 179 7 oD 1 cD dr0 :: H) w') := by
  (refine enter (N := 24) Tryz.func74 rfl Tryz.ntmps74 rfl ?_; intro a hA; dsimp only [sl0, Nat.reduceAdd] at hA)
  repeat' (first | (refine QT ?_; clear hA a; intro a hA) | (refine CT ?_ <;> repeat' refine CT ?_))
  have hST : HS w0 noM [cb bM 174 (encMk none 0 0 bJ)] w := HS.left (H1 := [_]) hH
  (refine wp_draw2_HS (H := [_]) [(0, 1), (1, 1), (2, 1), (3, 1), (4, 1), (5, 1), (6, 0), (7, 1), (8, 1), (9, 0), (10, 0), (11, 1), (12, 1)] [13] mixed (by decide +kernel) (hST) ?_; replace hH := hH.drew)
  clear hST
  repeat' (first | (refine QT ?_; clear hA a; intro a hA) | (refine dr_op hA rfl rfl rfl (by decide) (op_call rfl rfl rfl (cloneN0_spec _)) ?_; clear hA; rintro _ w ⟨rfl, hk⟩; replace hH := hH.keep hk; refine ⟨HS.left (H1 := [_]) hH, ?_⟩; intro a hA))
  repeat' (first | ((first | apply st_ex hA hH rfl rfl (by decide) | apply dr_ex hA rfl rfl rfl (by decide) | apply dr_exp hA rfl rfl rfl (by decide) | apply dr_ex3 hA hH rfl rfl rfl (by decide)); (first | (apply ex_build (szs := [(0, 6), (6, 1)]) (cs := dr0.toArray); exact run_szl (by (repeat (first | exact SzL.nil | refine SzL.cons ⟨_, rfl, by decide⟩ ?_))); rfl; rfl) | (apply ex_build (szs := [(0, 1), (1, 1), (2, 4)]) (cs := #[.slice none 0 0, .slice none 0 0, .int .i64 0, .slice none 0 0, .slice none 0 0, .slice none 0 0]); exact run_szl (by (repeat (first | exact SzL.nil | refine SzL.cons ⟨_, rfl, by decide⟩ ?_))); rfl; rfl)); clear hA a; intro a hA) | (refine QT ?_; clear hA a; intro a hA))
  (apply dr_op hA rfl rfl rfl (by decide); apply op_sliceLit (xs := dr0) (vs := [.agg dr0.toArray]); rfl; rfl; exact (Cats.cn (cs := dr0) Cats.nil); rfl; rfl; rfl; exact hH; clear hA hH; rintro _ w ⟨oN, rfl, hH⟩; replace hH := hH.nil_own 179 7; refine ⟨HS.left (H1 := [_]) hH.tail.tail, ?_⟩; intro a hA)
  (apply dr_op hA rfl rfl rfl (by decide); apply op_append; rfl; rfl; exact hH; exact MEMT; exact (hH.own_rd (List.Mem.tail _ (List.Mem.head _))); exact rfl; rfl; decide; exact rfl; (unfold maxLen; omega); omega; clear hA; rintro _ w ⟨oN, cN, rfl, hH2⟩; clear hH; have hH := hH2 _ (by (repeat constructor)); clear hH2; refine ⟨HS.left (H1 := [_]) hH.tail.tail, ?_⟩; intro a hA)
  rw [List.nil_append] at hH
  repeat' (first | (refine QT ?_; clear hA a; intro a hA) | (apply dr_op03 hA rfl rfl rfl; apply op_store_fld (cs' := encMk oN 1 cN bJ); rfl; rfl; rfl; exact hH; (repeat constructor); clear hH; rintro _ w hH) | (refine CT ?_ <;> repeat' refine CT ?_))
  exact rt1 (.inl rfl) rfl hA rfl ⟨oN, cN, rfl, (hH.rm 1).perm (by (repeat (first | exact List.Perm.refl _ | exact List.Perm.nil | refine perm_pick 0 rfl ?_ | refine perm_pick 1 rfl ?_ | refine perm_pick 2 rfl ?_ | refine perm_pick 3 rfl ?_ | refine perm_pick 4 rfl ?_ | refine perm_pick 5 rfl ?_ | refine perm_pick 6 rfl ?_ | refine perm_pick 7 rfl ?_ | refine perm_pick 8 rfl ?_ | refine perm_pick 9 rfl ?_ | refine perm_pick 10 rfl ?_ | refine perm_pick 11 rfl ?_)))⟩
end Go.Proofs.YtenlcdokaadobaaGreatDoor
