/-
  The machine (plain): where a step comes to. Conditions: none.
  How many parts graphs have. Conditions: none.
  awake's graphs (plain). Conditions: none.
  anf.May at functions that return five: exactly (printed by mkat5.py). Conditions: none.
  ssa.Of's parts: copies, blocks. Conditions: none.
  ssa.Of's parts at a function that returns a number: fill, order, graph. Conditions: none.
  ssa.Of's parts at a function that returns a number: order. Conditions: none.
  ssa.Of's parts at a function that returns a number: order, graph. Conditions: none.
  The machine: an end. Conditions: none.
  The machine: how it begins; what comes of graphs. Conditions: none.
  ssa.Of's parts at a function that returns a number: graph. Conditions: none.
-/
import Derived.Test.YtenlcdokaadobaaGreatDoorRowMayMg7
import Derived.Test.YtenlcdokaadobaaGreatDoorRowMayMg5
namespace Go.Proofs.YtenlcdokaadobaaGreatDoor
open Go Go.Fw
set_option linter.unusedVariables false
theorem texts_out {op : Int} {l : List Vl} {wd wd' : Wd} {v : Vl} (h : textsF op l wd = .val v wd') : wd'.out.length ≤ wd.out.length + 1 := by
  unfold textsF stk at h
  repeat' split at h
  all_goals first | (cases h; done) | (cases h; exact Nat.le_succ _)
theorem arrays_out {op : Int} {l : List Vl} {wd wd' : Wd} {v : Vl} (h : arraysF op l wd = .val v wd') : wd'.out.length ≤ wd.out.length + 1 := by
  unfold arraysF stk at h
  repeat' split at h
  all_goals first | (cases h; done) | (cases h; exact Nat.le_succ _)
theorem op_out {op : Int} {l : List Vl} {wd wd' : Wd} {v : Vl} (h : opF op l wd = .val v wd') : wd'.out.length ≤ wd.out.length + 1 := by
  unfold opF stk at h
  repeat' split at h
  all_goals first | (cases h; done) | exact texts_out h | exact arrays_out h | (cases h; exact Nat.le_succ _) | (cases h; simp)
theorem plain_out {r : Stp} {l cs : List Vl} {wd wd' : Wd} {v : Vl} (h : plainF r l cs wd = .val v wd') : wd'.out.length ≤ wd.out.length + 1 := by
  by_cases h2 : r.k = 2
  · rw [pl_2 h2] at h; exact op_out h
  unfold plainF stk at h
  rw [if_neg h2] at h
  repeat' split at h
  all_goals first | (cases h; done) | (cases h; exact Nat.le_succ _)
theorem getD_or {α : Type} (l : List α) (i : Nat) (d : α) : l.getD i d ∈ l ∨ l.getD i d = d := by
  by_cases h : i < l.length
  · exact .inl (getD_mem h)
  · exact .inr (by rw [List.getD_eq_getElem?_getD, List.getElem?_eq_none (by omega)]; rfl)
theorem raiseL_ok {g : Grs} {n : Int} {wd : Wd} : ∀ {sk sk' : List Fm} {c : Clo}, raiseL n wd sk = some (sk', c) → (∀ f ∈ sk, FmOk g f ∧ f.i < (curB g f).is.l.length) → (∀ f ∈ sk', FmOk g f ∧ f.i < (curB g f).is.l.length) ∧ sk'.length ≤ sk.length
  | [], sk', c, h, _ => by cases h
  | f :: r, sk', c, h, hk => by
    unfold raiseL at h
    split at h
    · cases h
      refine ⟨fun f' hf' => ?_, Nat.le_refl _⟩
      rcases List.mem_cons.1 hf' with rfl | hf'
      · have := hk f (List.mem_cons_self ..)
        exact ⟨⟨this.1.f0, this.1.f1, this.1.b⟩, this.2⟩
      · exact hk f' (List.mem_cons_of_mem _ hf')
    · have := raiseL_ok h (fun f' hf' => hk f' (List.mem_cons_of_mem _ hf'))
      exact ⟨this.1, Nat.le_succ_of_le this.2⟩
theorem new_ok {g : Grs} {c : Clo} {x : Vl} (hne : ∀ f ∈ g.fs.l, 0 < f.bs.l.length) (h0 : 0 ≤ c.1) (h1 : c.1 < g.fs.l.length) : FmOk g (newF c x) := ⟨h0, h1, hne _ (getD_mem (show c.1.toNat < g.fs.l.length by omega))⟩
structure StOk (g : Grs) (m m' : Mc) : Prop where
  ok : McOk g m'
  sk : m'.sk.length ≤ m.sk.length + 1
  out : m'.wd.out.length ≤ m.wd.out.length + 1
theorem raise_ok {g : Grs} {n : Int} {m m' : Mc} (hs : raiseF g n m.wd m.sk = .go m') (h : McOk g m) (hne : ∀ f ∈ g.fs.l, 0 < f.bs.l.length) (h0 : 0 ≤ m'.fm.c.1) (h1 : m'.fm.c.1 < g.fs.l.length) : StOk g m m' := by
  unfold raiseF stuckF at hs
  split at hs
  · cases hs
  split at hs
  · rename_i sk' c hr
    cases hs
    obtain ⟨hk, hl⟩ := raiseL_ok (g := g) hr h.sk
    exact ⟨⟨new_ok hne h0 h1, Nat.zero_le _, hk⟩, Nat.le_succ_of_le hl, Nat.le_succ _⟩
  · cases hs
theorem enter_ok {g : Grs} {f x : Vl} {m m' : Mc} (hs : enterF f x m.wd m.sk = .go m') (h : McOk g m) (hne : ∀ f ∈ g.fs.l, 0 < f.bs.l.length) (h0 : 0 ≤ m'.fm.c.1) (h1 : m'.fm.c.1 < g.fs.l.length) : StOk g m m' := by
  unfold enterF stuckF at hs
  split at hs
  · cases hs
    exact ⟨⟨new_ok hne h0 h1, Nat.zero_le _, h.sk⟩, Nat.le_succ _, Nat.le_succ _⟩
  · cases hs
theorem call_ok {g : Grs} {f x : Vl} {hd : Option Clo} {m m' : Mc} (hs : callF f x hd m.wd m.sk m.fm = .go m') (h : McOk g m) (hi : m.fm.i < (curB g m.fm).is.l.length) (hne : ∀ f ∈ g.fs.l, 0 < f.bs.l.length) (h0 : 0 ≤ m'.fm.c.1) (h1 : m'.fm.c.1 < g.fs.l.length) : StOk g m m' := by
  unfold callF stuckF at hs
  split at hs
  · cases hs
    refine ⟨⟨new_ok hne h0 h1, Nat.zero_le _, fun f hf => ?_⟩, Nat.le_refl _, Nat.le_succ _⟩
    rcases List.mem_cons.1 hf with rfl | hf
    · exact ⟨⟨h.fm.f0, h.fm.f1, h.fm.b⟩, hi⟩
    · exact h.sk f hf
  · cases hs
theorem ins_ok {g : Grs} {x : Ins} {m m' : Mc} (hs : insF g m.fm x m.wd m.sk = .go m') (h : McOk g m) (hi : m.fm.i < (curB g m.fm).is.l.length) (hne : ∀ f ∈ g.fs.l, 0 < f.bs.l.length) (h0 : 0 ≤ m'.fm.c.1) (h1 : m'.fm.c.1 < g.fs.l.length) : StOk g m m' := by
  unfold insF at hs
  split at hs
  · exact call_ok hs h hi hne h0 h1
  split at hs
  · split at hs
    · split at hs
      · exact call_ok hs h hi hne h0 h1
      · cases hs
    · cases hs
  split at hs
  · split at hs
    · exact call_ok hs h hi hne h0 h1
    · cases hs
  split at hs
  · exact raise_ok hs h hne h0 h1
  · rename_i v wd' hp
    split at hs
    · cases hs
    · cases hs
      exact ⟨⟨⟨h.fm.f0, h.fm.f1, h.fm.b⟩, hi, h.sk⟩, Nat.le_succ _, plain_out hp⟩
theorem follow_ok {g : Grs} {e : Edg} {m : Mc} (h : McOk g m) (h0 : 0 ≤ e.b) (h1 : e.b < (g.fs.l.getD m.fm.c.1.toNat gr0).bs.l.length) : StOk g m ⟨m.wd, m.sk, followF g m.fm e⟩ :=
  ⟨⟨⟨h.fm.f0, h.fm.f1, by show e.b.toNat < (g.fs.l.getD m.fm.c.1.toNat gr0).bs.l.length; omega⟩, Nat.zero_le _, h.sk⟩, Nat.le_succ _, Nat.le_succ _⟩
theorem back_ok {g : Grs} {kd : Int} {x : Vl} {m m' : Mc} (hs : backF g kd x m.wd m.sk = .go m') (h : McOk g m) : StOk g m m' := by
  obtain ⟨wd, sk, fm⟩ := m
  dsimp only at hs
  unfold backF stuckF at hs
  split at hs
  · split at hs <;> cases hs
  · rename_i f r
    cases hs
    have hf := h.sk f (List.mem_cons_self ..)
    refine ⟨⟨⟨hf.1.f0, hf.1.f1, hf.1.b⟩, hf.2, fun f' hf' => h.sk f' (List.mem_cons_of_mem _ hf')⟩, ?_, Nat.le_succ _⟩
    show r.length ≤ (f :: r).length + 1
    rw [List.length_cons]; omega
theorem last_ok {g : Grs} {kd : Int} {e : En} {m m' : Mc} (hs : lastF g kd m.fm e m.wd m.sk = .go m') (h : McOk g m) (hne : ∀ f ∈ g.fs.l, 0 < f.bs.l.length) (hE : ∀ t ∈ e.to.l, 0 ≤ t.b ∧ t.b < (g.fs.l.getD m.fm.c.1.toNat gr0).bs.l.length) (h0 : 0 ≤ m'.fm.c.1) (h1 : m'.fm.c.1 < g.fs.l.length) : StOk g m m' := by
  have hb := h.fm.b
  have hE2 : ∀ i, 0 ≤ (e.to.l.getD i edg0).b ∧ (e.to.l.getD i edg0).b < (g.fs.l.getD m.fm.c.1.toNat gr0).bs.l.length := fun i => by
    rcases getD_or e.to.l i edg0 with h | h
    · exact hE _ h
    · rw [h]; exact ⟨Int.le_refl _, by show (0 : Int) < _; omega⟩
  unfold lastF stuckF at hs
  split at hs
  · exact back_ok hs h
  split at hs
  · exact enter_ok hs h hne h0 h1
  split at hs
  · cases hs; exact follow_ok h (hE2 _).1 (hE2 _).2
  split at hs
  · cases hs
  split at hs
  · exact raise_ok hs h hne h0 h1
  split at hs
  · cases hs; exact follow_ok h (hE2 _).1 (hE2 _).2
  · cases hs; exact follow_ok h (hE2 _).1 (hE2 _).2
theorem step_ok {g : Grs} {kd : Int} {m m' : Mc} (hs : stepF g kd m = .go m') (h : McOk g m) (hne : ∀ f ∈ g.fs.l, 0 < f.bs.l.length) (hE : ∀ t ∈ (curB g m.fm).e.to.l, 0 ≤ t.b ∧ t.b < (g.fs.l.getD m.fm.c.1.toNat gr0).bs.l.length) (h0 : 0 ≤ m'.fm.c.1) (h1 : m'.fm.c.1 < g.fs.l.length) : StOk g m m' := by
  unfold stepF at hs
  split at hs
  · exact ins_ok hs h (by assumption) hne h0 h1
  · exact last_ok hs h hne hE h0 h1
theorem first_ok {g : Grs} {s : ByteArray} (hne : ∀ f ∈ g.fs.l, 0 < f.bs.l.length) (h : 0 < g.fs.l.length) : McOk g (firstM s) := ⟨new_ok hne (by decide) (by show (0 : Int) < _; omega), Nat.zero_le _, fun f hf => absurd hf (List.not_mem_nil)⟩
theorem may_ne {g : Grs} (h : MayP g) : ∀ f ∈ g.fs.l, 0 < f.bs.l.length := fun f hf => (h.gr f hf).ne
theorem atS_W {g : Grs} {S : Int → Prop} {a : Atm} (hs : g.ss.l.length ≤ 9223372036854775807) (h : atS g S a) : atW g a := by
  rcases h with ⟨h1, h2, h3, _⟩ | ⟨h1, h2, h3⟩ | ⟨h1, h2, h3⟩
  · exact ⟨⟨by omega, by omega⟩, fun e => by omega⟩
  · exact ⟨⟨by omega, by omega⟩, fun e => by omega⟩
  · exact ⟨⟨by omega, by omega⟩, fun e => ⟨h2, h3⟩⟩
structure CurOk (g : Grs) (fm : Fm) : Prop where
  gr : (g.fs.l.getD fm.c.1.toNat gr0) ∈ g.fs.l
  bl : (g.fs.l.getD fm.c.1.toNat gr0).bs.l[fm.b]? = some (curB g fm)
  blk : BlkP g (g.fs.l.getD fm.c.1.toNat gr0) (g.fs.l.map Gr.caps) fm.b (curB g fm) (BS (g.fs.l.getD fm.c.1.toNat gr0) fm.b)
theorem cur_ok {g : Grs} {fm : Fm} (h : MayP g) (hf : FmOk g fm) : CurOk g fm := by
  have hm : (g.fs.l.getD fm.c.1.toNat gr0) ∈ g.fs.l := getD_mem (show fm.c.1.toNat < g.fs.l.length by have := hf.f0; have := hf.f1; omega)
  have hb : (g.fs.l.getD fm.c.1.toNat gr0).bs.l[fm.b]? = some (curB g fm) := by
    unfold curB blkOf
    rw [List.getD_eq_getElem?_getD (l := (g.fs.l.getD fm.c.1.toNat gr0).bs.l), List.getElem?_eq_getElem hf.b]; rfl
  exact ⟨hm, hb, ((h.gr _ hm).blk _ _ hb).2⟩
theorem CurOk.edge {g : Grs} {fm : Fm} (hs : g.ss.l.length ≤ 9223372036854775807) (h : CurOk g fm) {t : Edg} (ht : t ∈ (curB g fm).e.to.l) : 0 ≤ t.b ∧ t.b < (g.fs.l.getD fm.c.1.toNat gr0).bs.l.length ∧ t.a.l.length = (blkOf g fm.c.1 t.b.toNat).ps.l.length ∧ ∀ a ∈ t.a.l, atW g a := by
  obtain ⟨h1, h2, h3, h4⟩ := h.blk.edges t ht
  exact ⟨by omega, h2, h3, fun a ha => atS_W hs (h4 a ha)⟩
theorem sum_mem {α : Type} (f : α → Nat) : ∀ {l : List α} {x : α}, x ∈ l → f x ≤ (l.map f).sum
  | y :: l, x, h => by
    rw [List.map_cons, List.sum_cons]
    rcases List.mem_cons.1 h with rfl | h
    · omega
    · have := sum_mem f h; omega
theorem CurOk.size {g : Grs} {fm : Fm} (h : CurOk g fm) (hs : grsN g ≤ 65536) : blkN (curB g fm) ≤ 65536 := by
  have h1 := sum_mem grN h.gr
  have h2 := sum_mem blkN (List.mem_of_getElem? h.bl)
  have h3 : grN (g.fs.l.getD fm.c.1.toNat gr0) = ((g.fs.l.getD fm.c.1.toNat gr0).bs.l.map blkN).sum := rfl
  have h4 : grsN g = (g.fs.l.map grN).sum := rfl
  omega
theorem len_sum {α : Type} (f : α → Nat) : ∀ (l : List α), l.length ≤ (l.map fun x => 1 + f x).sum
  | [] => Nat.le_refl _
  | x :: l => by
    have := len_sum f l
    rw [List.map_cons, List.sum_cons, List.length_cons]
    omega
theorem blk_sizes {bl : Blc} (h : blkN bl ≤ 65536) : bl.ps.l.length ≤ 65536 ∧ bl.is.l.length ≤ 65536 ∧ (∀ i ∈ bl.is.l, i.r.a.l.length ≤ 65536) ∧ bl.e.a.l.length ≤ 65536 ∧ bl.e.to.l.length ≤ 65536 ∧ ∀ t ∈ bl.e.to.l, t.a.l.length ≤ 65536 := by
  unfold blkN at h
  have h1 : bl.is.l.length ≤ (bl.is.l.map fun i => 1 + i.r.a.l.length).sum := len_sum (fun i : Ins => i.r.a.l.length) bl.is.l
  have h2 : bl.e.to.l.length ≤ (bl.e.to.l.map fun t => 1 + t.a.l.length).sum := len_sum (fun t : Edg => t.a.l.length) bl.e.to.l
  refine ⟨by omega, by omega, fun i hi => ?_, by omega, by omega, fun t ht => ?_⟩
  · have := sum_mem (fun i : Ins => 1 + i.r.a.l.length) hi
    omega
  · have := sum_mem (fun t : Edg => 1 + t.a.l.length) ht
    omega
end Go.Proofs.YtenlcdokaadobaaGreatDoor
namespace Go.Proofs.YtenlcdokaadobaaGreatDoor
open Go Go.Fw
set_option linter.unusedVariables false
def psum {α : Type} (f : α → Nat) (l : List α) (i : Nat) : Nat := ((l.take i).map f).sum
theorem psum_0 {α : Type} (f : α → Nat) (l : List α) : psum f l 0 = 0 := by unfold psum; rw [List.take_zero]; rfl
theorem psum_next {α : Type} {f : α → Nat} {l : List α} {i : Nat} {x : α} (h : l[i]? = some x) : psum f l (i + 1) = psum f l i + f x := by
  unfold psum
  rw [take_snoc h, List.map_append, List.sum_append]
  simp
theorem psum_all {α : Type} (f : α → Nat) (l : List α) : psum f l l.length = (l.map f).sum := by unfold psum; rw [List.take_length]
theorem psum_le {α : Type} (f : α → Nat) (l : List α) (i : Nat) : psum f l i ≤ (l.map f).sum := by
  unfold psum
  conv => rhs; rw [← List.take_append_drop i l, List.map_append, List.sum_append]
  exact Nat.le_add_right _ _
def PR (most n S : Nat) : Prop := n = S ∨ (most < n ∧ n ≤ S)
theorem PR_0 (most : Nat) : PR most 0 0 := .inl rfl
theorem PR_r (most n : Nat) : PR most n (n + 0) := .inl rfl
theorem PR_self (most n m : Nat) (h : n = m) : PR most n m := .inl h
theorem PR_val {m n : Int} (h : m = n) : (some (Value.int .i64 m) : Option Value) = some (.int .i64 n) := by rw [h]
theorem PR.up {most n S T : Nat} (h : PR most n S) (hn : most < n) (hT : S ≤ T) : PR most n T := by
  rcases h with h | h
  · exact .inr ⟨hn, by omega⟩
  · exact .inr ⟨h.1, by omega⟩
theorem PR.eq {most n S : Nat} (h : PR most n S) (hn : n ≤ most) : n = S := by
  rcases h with h | h
  · exact h
  · omega
theorem PR.iff {most n S : Nat} (h : PR most n S) : n ≤ most ↔ S ≤ most := by
  rcases h with h | h <;> omega
abbrev insM (i : Ins) : Nat := 1 + i.r.a.l.length
abbrev edgM (t : Edg) : Nat := 1 + t.a.l.length
theorem blkM_eq (bl : Blc) : blkN bl = 2 + bl.ps.l.length + bl.e.a.l.length + (bl.is.l.map insM).sum + (bl.e.to.l.map edgM).sum := by
  show 2 + bl.ps.l.length + (bl.is.l.map insM).sum + bl.e.a.l.length + (bl.e.to.l.map edgM).sum = _
  omega
structure SzB (m : Nat) (bl : Blc) : Prop where
  ps : bl.ps.l.length ≤ m
  is : bl.is.l.length ≤ m
  ia : ∀ i ∈ bl.is.l, i.r.a.l.length ≤ m
  ea : bl.e.a.l.length ≤ m
  et : bl.e.to.l.length ≤ m
  ta : ∀ t ∈ bl.e.to.l, t.a.l.length ≤ m
structure SzG (m : Nat) (g : Grs) : Prop where
  fs : g.fs.l.length ≤ m
  bs : ∀ f ∈ g.fs.l, f.bs.l.length ≤ m
  bl : ∀ f ∈ g.fs.l, ∀ b ∈ f.bs.l, SzB m b
theorem gr_bs {l : List Gr} {i : Nat} {f : Gr} (h : l[i]? = some f) : (flat encG l)[i * 2 + 1]? = some (.slice f.bs.o f.bs.l.length f.bs.c) := flat_get (off := 1) encG_len h rfl
theorem in_a {l : List Ins} {i : Nat} {x : Ins} (h : l[i]? = some x) : (flat encIn l)[i * 5 + 1 + 3]? = some (.slice x.r.a.o x.r.a.l.length x.r.a.c) := by rw [Nat.add_assoc]; exact flat_get (off := 4) encIn_len h rfl
theorem ed_a {l : List Edg} {i : Nat} {x : Edg} (h : l[i]? = some x) : (flat encEd l)[i * 2 + 1]? = some (.slice x.a.o x.a.l.length x.a.c) := flat_get (off := 1) encEd_len h rfl
set_option maxRecDepth 10000 attribute [local irreducible] Code.wp wpList Calls Ex Op1 sat bat blk cb own Go.Fw.mp Go.Fw.mpO Go.Fw.mpI Go.Fw.mpE Go.Fw.itr HS Rd Ret wkD Hp Cl Cls Exit.then Exit.inBlock Exit.noGoto bodyPost Go.Fw.flat wk2 Go.Fw.all Go.Fw.owns wpOp
attribute [local irreducible] sk mpK sko mvO entK opM Go.Fw.mset Go.Fw.mv opK psum PR

set_option maxHeartbeats 16000000 in
theorem Parts_spec (w0 : World) (g : Grs) (most : Nat) (hm : most ≤ 100000) (hR : RdGs w0 g) (hs : SzG 1048576 g) :
    Ret Tryz.prog 25 #[.agg (encGs g).toArray, .int .i64 most] w0 (fun r w => ∃ n : Nat, r = .int .i64 n ∧ (n ≤ most ↔ grsN g ≤ most) ∧ Kp w0 noM w) := by
  have hH : HS w0 noM [] w0 := HS.init w0 noM
  have hfs := hs.fs
  have hspF : Sp g.fs.o g.fs.l.length := hR.1.1.sp (sz := 2) (flat_length encG_len _) (by omega)
  (refine enter (N := 107) Tryz.func25 rfl Tryz.ntmps25 rfl ?_; intro a hA; dsimp only [sl0, Nat.reduceAdd] at hA)
  repeat' (first | (refine QT ?_; clear hA a; intro a hA) | (refine BT ?_; clear hA hH; rintro _ w ⟨bN, rfl, hH⟩ a hA) | (refine CT ?_ <;> repeat' refine CT ?_) | fail)
  obtain ⟨b2, hb2⟩ : ∃ x, x = bN := ⟨_, rfl⟩
  rw [← hb2] at hA hH
  clear hb2 bN
  refine wp_lpk (S := Nat) (fun i a w => ∃ n : Nat, (i ≤ g.fs.l.length ∧ PR most n (psum grN g.fs.l i) ∧ n ≤ 5000000) ∧ HS w0 noM [cb b2 25 (encGs g)] w ∧ Sl 107 [(6, .int .i64 i), (5, .int .i64 n), (2, .pointer (some (bat b2 0))), (1, .int .i64 most)] a) (fun i => g.fs.l.length - i)
    (fun a w => ∃ n : Nat, PR most n (grsN g) ∧ HS w0 noM [] w ∧ Sl 107 [(5, .int .i64 n)] a) 0 ⟨0, ⟨Nat.zero_le _, by rw [psum_0]; exact PR_0 most, Nat.zero_le _⟩, hH, (hA.sub SBT)⟩ ?_ ?_
  · clear hA hH
    rintro i a w ⟨n, ⟨hi, hp, hn5⟩, hH, hA⟩
    by_cases hlt : i < g.fs.l.length
    rotate_left
    · obtain rfl : i = g.fs.l.length := by omega
      repeat' (first | (refine GT ?_ ?_ <;> intro hg <;> clear hA a <;> intro a hA <;> (first | exact FA | replace hg := of_decide_eq_true hg | replace hg := of_decide_eq_false hg | skip)) | (refine QT ?_; clear hA a; intro a hA) | (refine CT ?_ <;> repeat' refine CT ?_) | fail)
      exact ⟨n, by rw [psum_all] at hp; exact hp, hH.tail, (hA.sub SBT)⟩
    by_cases hle : n ≤ most
    rotate_left
    · repeat' (first | (refine GT ?_ ?_ <;> intro hg <;> clear hA a <;> intro a hA <;> (first | exact FA | replace hg := of_decide_eq_true hg | replace hg := of_decide_eq_false hg | skip)) | (refine QT ?_; clear hA a; intro a hA) | ((first | refine CT ?_ | (refine DT ?_ ?_ <;> intro hc <;> try (exfalso; omega))) <;> repeat' refine CT ?_) | fail)
      exact ⟨n, hp.up (by omega) (psum_le grN _ _), hH.tail, (hA.sub SBT)⟩
    obtain rfl := hp.eq hle
    obtain ⟨f, hf⟩ : ∃ x, g.fs.l[i]? = some x := ⟨_, List.getElem?_eq_getElem hlt⟩
    have hfm := List.mem_of_getElem? hf
    have hRf := hR.2.1 f hfm
    have hbs := hs.bs f hfm
    have hvG := gr_bs hf
    have hspB : Sp f.bs.o f.bs.l.length := hRf.1.1.sp (sz := 6) (flat_length encBl_len _) (by omega)
    repeat' (first | (refine GT ?_ ?_ <;> intro hg <;> clear hA a <;> intro a hA <;> (first | exact FA | replace hg := of_decide_eq_true hg | replace hg := of_decide_eq_false hg | skip)) | (refine QT ?_; clear hA a; intro a hA) | ((first | refine CT ?_ | (refine DT ?_ ?_ <;> intro hc <;> try (exfalso; omega))) <;> repeat' refine CT ?_) | fail)
    refine wp_lpk (S := Nat) (fun k a w => ∃ n : Nat, (k ≤ f.bs.l.length ∧ PR most n (psum grN g.fs.l i + psum blkN f.bs.l k) ∧ n ≤ 5000000) ∧ HS w0 noM [cb b2 25 (encGs g)] w ∧ Sl 107 [(7, .int .i64 k), (6, .int .i64 i), (5, .int .i64 n), (2, .pointer (some (bat b2 0))), (1, .int .i64 most)] a) (fun k => f.bs.l.length - k)
      (fun a w => ∃ n : Nat, (PR most n (psum grN g.fs.l (i + 1)) ∧ n ≤ 5000000) ∧ HS w0 noM [cb b2 25 (encGs g)] w ∧ Sl 107 [(6, .int .i64 i), (5, .int .i64 n), (2, .pointer (some (bat b2 0))), (1, .int .i64 most)] a) 0 ⟨_, ⟨Nat.zero_le _, by rw [psum_0]; exact PR_r most _, hn5⟩, hH, (hA.sub SBT)⟩ ?_ ?_
    · clear hA hH
      rintro k a w ⟨n, ⟨hk, hp2, hn6⟩, hH, hA⟩
      by_cases hlk : k < f.bs.l.length
      rotate_left
      · obtain rfl : k = f.bs.l.length := by omega
        repeat' (first | (refine GT ?_ ?_ <;> intro hg <;> clear hA a <;> intro a hA <;> (first | exact FA | replace hg := of_decide_eq_true hg | replace hg := of_decide_eq_false hg | skip)) | (refine XT ?_; apply XE; (first | (apply ex_indexAddr_nat; rfl; rfl; omega; exact hspF) | (apply ex_load; rfl; exact cl_rd hR.1.1 id hvG)); clear hA a; intro a hA) | (refine QT ?_; clear hA a; intro a hA) | (refine CT ?_ <;> repeat' refine CT ?_) | fail)
        refine ⟨n, ⟨?_, hn6⟩, hH, (hA.sub SBT)⟩
        rw [psum_next hf]
        rw [psum_all] at hp2
        exact hp2
      by_cases hl2 : n ≤ most
      rotate_left
      · repeat' (first | (refine GT ?_ ?_ <;> intro hg <;> clear hA a <;> intro a hA <;> (first | exact FA | replace hg := of_decide_eq_true hg | replace hg := of_decide_eq_false hg | skip)) | (refine XT ?_; apply XE; (first | (apply ex_indexAddr_nat; rfl; rfl; omega; exact hspF) | (apply ex_load; rfl; exact cl_rd hR.1.1 id hvG)); clear hA a; intro a hA) | (refine QT ?_; clear hA a; intro a hA) | ((first | refine CT ?_ | (refine DT ?_ ?_ <;> intro hc <;> try (exfalso; omega))) <;> repeat' refine CT ?_) | fail)
        refine ⟨n, ⟨?_, hn6⟩, hH, (hA.sub SBT)⟩
        rw [psum_next hf]
        exact hp2.up (by omega) (Nat.add_le_add_left (psum_le blkN _ _) _)
      obtain rfl := hp2.eq hl2
      obtain ⟨bl, hbl⟩ : ∃ x, f.bs.l[k]? = some x := ⟨_, List.getElem?_eq_getElem hlk⟩
      have hbm := List.mem_of_getElem? hbl
      have hRb := hRf.2 bl hbm
      have hsb := hs.bl f hfm bl hbm
      have hs1 := hsb.ps
      have hs2 := hsb.is
      have hs3 := hsb.ea
      have hs4 := hsb.et
      have hspI : Sp bl.is.o bl.is.l.length := hRb.2.1.1.sp (sz := 5) (flat_length encIn_len _) (by omega)
      have hspT : Sp bl.e.to.o bl.e.to.l.length := hRb.2.2.2.2.2.1.1.sp (sz := 2) (flat_length encEd_len _) (by omega)
      repeat' (first | (refine GT ?_ ?_ <;> intro hg <;> clear hA a <;> intro a hA <;> (first | exact FA | replace hg := of_decide_eq_true hg | replace hg := of_decide_eq_false hg | skip)) | (refine XT ?_; apply XE; (first | (apply ex_indexAddr_nat; rfl; rfl; omega; first | exact hspF | exact hspB) | (apply ex_load; rfl; exact cl_rd hR.1.1 id hvG) | (apply ex_load_st (vs := encBl bl); rfl; rfl; exact cls_rd hRf.1.1 id (flat_all encBl_len hbl))); clear hA a; intro a hA) | (refine QT ?_; clear hA a; intro a hA) | (refine BT ?_; clear hA hH; rintro _ w ⟨bN, rfl, hH⟩ a hA) | (apply st_op0 hA rfl rfl; apply op_store_agg (vs := encBl bl); rfl; rfl; exact hH; (repeat constructor); (repeat rfl); clear hH; rintro _ w hH) | ((first | refine CT ?_ | (refine DT ?_ ?_ <;> intro hc <;> try (exfalso; omega))) <;> repeat' refine CT ?_) | fail)
      obtain ⟨b8, hb8⟩ : ∃ x, x = bN := ⟨_, rfl⟩
      rw [← hb8] at hA hH
      clear hb8 bN
      obtain ⟨S0, hS0⟩ : ∃ S0, S0 = psum grN g.fs.l i + psum blkN f.bs.l k := ⟨_, rfl⟩
      rw [← hS0] at hA hl2 hn6 hp2
      rw [show ((S0 : Nat) : Int) + (2 + (bl.ps.l.length : Int) + (bl.e.a.l.length : Int)) = ((S0 + (2 + bl.ps.l.length + bl.e.a.l.length) : Nat) : Int) by omega] at hA
      obtain ⟨S1, hS1⟩ : ∃ S1, S1 = S0 + (2 + bl.ps.l.length + bl.e.a.l.length) := ⟨_, rfl⟩
      rw [← hS1] at hA
      refine wp_lpk (S := Nat) (fun j a w => ∃ n : Nat, (j ≤ bl.is.l.length ∧ PR most n (S1 + psum insM bl.is.l j) ∧ n ≤ 4000000) ∧ HS w0 noM [cb b8 53 (encBl bl), cb b2 25 (encGs g)] w ∧ Sl 107 [(9, .int .i64 j), (8, .pointer (some (bat b8 0))), (7, .int .i64 k), (6, .int .i64 i), (5, .int .i64 n), (2, .pointer (some (bat b2 0))), (1, .int .i64 most)] a) (fun j => bl.is.l.length - j)
        (fun a w => ∃ n : Nat, (PR most n (S1 + (bl.is.l.map insM).sum) ∧ n ≤ 4000000) ∧ HS w0 noM [cb b8 53 (encBl bl), cb b2 25 (encGs g)] w ∧ Sl 107 [(8, .pointer (some (bat b8 0))), (7, .int .i64 k), (6, .int .i64 i), (5, .int .i64 n), (2, .pointer (some (bat b2 0))), (1, .int .i64 most)] a) 0 ⟨S1, ⟨Nat.zero_le _, by rw [psum_0]; exact PR_r most _, by omega⟩, hH, (hA.sub SBT)⟩ ?_ ?_
      · clear hA hH
        rintro j a w ⟨n, ⟨hj, hp3, hn7⟩, hH, hA⟩
        by_cases hlj : j < bl.is.l.length
        rotate_left
        · obtain rfl : j = bl.is.l.length := by omega
          repeat' (first | (refine GT ?_ ?_ <;> intro hg <;> clear hA a <;> intro a hA <;> (first | exact FA | replace hg := of_decide_eq_true hg | replace hg := of_decide_eq_false hg | skip)) | (refine QT ?_; clear hA a; intro a hA) | (refine CT ?_ <;> repeat' refine CT ?_) | fail)
          rw [psum_all] at hp3
          exact ⟨n, ⟨hp3, hn7⟩, hH, (hA.sub SBT)⟩
        by_cases hl3 : n ≤ most
        rotate_left
        · repeat' (first | (refine GT ?_ ?_ <;> intro hg <;> clear hA a <;> intro a hA <;> (first | exact FA | replace hg := of_decide_eq_true hg | replace hg := of_decide_eq_false hg | skip)) | (refine QT ?_; clear hA a; intro a hA) | ((first | refine CT ?_ | (refine DT ?_ ?_ <;> intro hc <;> try (exfalso; omega))) <;> repeat' refine CT ?_) | fail)
          exact ⟨n, ⟨hp3.up (by omega) (Nat.add_le_add_left (psum_le insM _ _) _), hn7⟩, hH, (hA.sub SBT)⟩
        obtain ⟨x, hx⟩ : ∃ x, bl.is.l[j]? = some x := ⟨_, List.getElem?_eq_getElem hlj⟩
        have hxa := hsb.ia x (List.mem_of_getElem? hx)
        have hvI := in_a hx
        repeat' (first | (refine GT ?_ ?_ <;> intro hg <;> clear hA a <;> intro a hA <;> (first | exact FA | replace hg := of_decide_eq_true hg | replace hg := of_decide_eq_false hg | skip)) | (refine XT ?_; apply XE; (first | (apply ex_indexAddr_nat; rfl; rfl; omega; exact hspI) | (apply ex_load; rfl; exact cl_rd hRb.2.1.1 id hvI)); clear hA a; intro a hA) | (refine QT ?_; clear hA a; intro a hA) | ((first | refine CT ?_ | (refine DT ?_ ?_ <;> intro hc <;> try (exfalso; omega))) <;> repeat' refine CT ?_) | fail)
        have hne := hp3.eq hl3
        refine ⟨j + 1, ⟨n + insM x, ⟨hlj, ?_, by show n + (1 + _) ≤ _; omega⟩, hH, (hA.sub (by refine ⟨rfl, rfl, rfl, rfl, ?_, rfl, rfl, trivial⟩; exact PR_val (by show (n : Int) + (1 + _) = ((n + (1 + _) : Nat) : Int); omega)))⟩, by omega⟩
        rw [psum_next hx, hne]
        exact PR_self most _ _ (Nat.add_assoc ..)
      clear hA hH
      rintro a w ⟨n, ⟨hp3, hn7⟩, hH, hA⟩
      obtain ⟨S2, hS2⟩ : ∃ S2, S2 = S1 + (bl.is.l.map insM).sum := ⟨_, rfl⟩
      rw [← hS2] at hp3
      repeat' (first | (refine QT ?_; clear hA a; intro a hA) | (refine CT ?_ <;> repeat' refine CT ?_) | fail)
      refine wp_lpk (S := Nat) (fun j a w => ∃ n : Nat, (j ≤ bl.e.to.l.length ∧ PR most n (S2 + psum edgM bl.e.to.l j) ∧ n ≤ 5000000) ∧ HS w0 noM [cb b8 53 (encBl bl), cb b2 25 (encGs g)] w ∧ Sl 107 [(10, .int .i64 j), (8, .pointer (some (bat b8 0))), (7, .int .i64 k), (6, .int .i64 i), (5, .int .i64 n), (2, .pointer (some (bat b2 0))), (1, .int .i64 most)] a) (fun j => bl.e.to.l.length - j)
        (fun a w => ∃ n : Nat, (PR most n (S2 + (bl.e.to.l.map edgM).sum) ∧ n ≤ 5000000) ∧ HS w0 noM [cb b8 53 (encBl bl), cb b2 25 (encGs g)] w ∧ Sl 107 [(7, .int .i64 k), (6, .int .i64 i), (5, .int .i64 n), (2, .pointer (some (bat b2 0))), (1, .int .i64 most)] a) 0 ⟨n, ⟨Nat.zero_le _, by rw [psum_0]; exact hp3, by omega⟩, hH, (hA.sub SBT)⟩ ?_ ?_
      · clear hA hH hp3 hn7 n
        rintro j a w ⟨n, ⟨hj, hp3, hn7⟩, hH, hA⟩
        by_cases hlj : j < bl.e.to.l.length
        rotate_left
        · obtain rfl : j = bl.e.to.l.length := by omega
          repeat' (first | (refine GT ?_ ?_ <;> intro hg <;> clear hA a <;> intro a hA <;> (first | exact FA | replace hg := of_decide_eq_true hg | replace hg := of_decide_eq_false hg | skip)) | (refine QT ?_; clear hA a; intro a hA) | (refine CT ?_ <;> repeat' refine CT ?_) | fail)
          rw [psum_all] at hp3
          exact ⟨n, ⟨hp3, hn7⟩, hH, (hA.sub SBT)⟩
        by_cases hl3 : n ≤ most
        rotate_left
        · repeat' (first | (refine GT ?_ ?_ <;> intro hg <;> clear hA a <;> intro a hA <;> (first | exact FA | replace hg := of_decide_eq_true hg | replace hg := of_decide_eq_false hg | skip)) | (refine QT ?_; clear hA a; intro a hA) | ((first | refine CT ?_ | (refine DT ?_ ?_ <;> intro hc <;> try (exfalso; omega))) <;> repeat' refine CT ?_) | fail)
          exact ⟨n, ⟨hp3.up (by omega) (Nat.add_le_add_left (psum_le edgM _ _) _), hn7⟩, hH, (hA.sub SBT)⟩
        obtain ⟨x, hx⟩ : ∃ x, bl.e.to.l[j]? = some x := ⟨_, List.getElem?_eq_getElem hlj⟩
        have hxa := hsb.ta x (List.mem_of_getElem? hx)
        have hvI := ed_a hx
        repeat' (first | (refine GT ?_ ?_ <;> intro hg <;> clear hA a <;> intro a hA <;> (first | exact FA | replace hg := of_decide_eq_true hg | replace hg := of_decide_eq_false hg | skip)) | (refine XT ?_; apply XE; (first | (apply ex_indexAddr_nat; rfl; rfl; omega; exact hspT) | (apply ex_load; rfl; exact cl_rd hRb.2.2.2.2.2.1.1 id hvI)); clear hA a; intro a hA) | (refine QT ?_; clear hA a; intro a hA) | ((first | refine CT ?_ | (refine DT ?_ ?_ <;> intro hc <;> try (exfalso; omega))) <;> repeat' refine CT ?_) | fail)
        have hne := hp3.eq hl3
        refine ⟨j + 1, ⟨n + edgM x, ⟨hlj, ?_, by show n + (1 + _) ≤ _; omega⟩, hH, (hA.sub (by refine ⟨rfl, rfl, rfl, rfl, ?_, rfl, rfl, trivial⟩; exact PR_val (by show (n : Int) + (1 + _) = ((n + (1 + _) : Nat) : Int); omega)))⟩, by omega⟩
        rw [psum_next hx, hne]
        exact PR_self most _ _ (Nat.add_assoc ..)
      clear hA hH hp3 hn7 n
      rintro a w ⟨n, ⟨hp3, hn7⟩, hH, hA⟩
      repeat' (first | (refine QT ?_; clear hA a; intro a hA) | (refine CT ?_ <;> repeat' refine CT ?_) | fail)
      refine ⟨k + 1, ⟨n, ⟨hlk, ?_, hn7⟩, hH.tail, (hA.sub SBT)⟩, by omega⟩
      rw [psum_next hbl, ← Nat.add_assoc, ← hS0]
      have e1 : S0 + blkN bl = S2 + (bl.e.to.l.map edgM).sum := by rw [blkM_eq, hS2, hS1]; omega
      rw [e1]
      exact hp3
    clear hA hH
    rintro a w ⟨n, ⟨hp2, hn6⟩, hH, hA⟩
    repeat' (first | (refine QT ?_; clear hA a; intro a hA) | (refine CT ?_ <;> repeat' refine CT ?_) | fail)
    exact ⟨i + 1, ⟨n, ⟨hlt, hp2, hn6⟩, hH, (hA.sub SBT)⟩, by omega⟩
  clear hA hH
  rintro a w ⟨n, hp, hH, hA⟩
  repeat' (first | (refine QT ?_; clear hA a; intro a hA) | (refine CT ?_ <;> repeat' refine CT ?_) | fail)
  exact rt1 (.inl rfl) rfl hA rfl ⟨n, rfl, hp.iff, hH.kp⟩
end Go.Proofs.YtenlcdokaadobaaGreatDoor
namespace Go.Proofs.YtenlcdokaadobaaGreatDoor
open Go Go.Fw
set_option linter.unusedVariables false
def xs4 : List ByteArray := [exnB, exnD, exnM, exnS]
theorem ris_nil : risP [] := fun i h => absurd h (Nat.not_lt_zero _)
theorem ris4 : risP xs4 := fun i hi => by
  match i, hi with
  | 0, _ => exact ⟨by decide +kernel, fun h => absurd h (Nat.lt_irrefl _)⟩
  | 1, _ => exact ⟨by decide +kernel, fun _ => by decide +kernel⟩
  | 2, _ => exact ⟨by decide +kernel, fun _ => by decide +kernel⟩
  | 3, _ => exact ⟨by decide +kernel, fun _ => by decide +kernel⟩
theorem anf4 {g : Grs} (hx : g.xs.l = xs4) (hl : g.ls.l = []) (ht : g.ts.l = []) (hs : g.ss.l = []) : AnfP [0] g where
  pos := by decide
  top := by decide
  c0 := rfl
  ls := by rw [hl]; exact ris_nil
  ts := by rw [ht]; exact ris_nil
  xs := by rw [hx]; exact ris4
  has := by rw [hx]; unfold hasS; decide +kernel
  ss := by rw [hs]; exact fun s h => absurd h (List.not_mem_nil)
  caps := by decide
def bl5 (o : Option Addr) (c : Nat) (n : Int) : Blc := ⟨nilV, nilV, ⟨1, ⟨o, c, [⟨2, n⟩]⟩, nilV, nilV⟩⟩
theorem up_nil : upP [] := fun i h => absurd h (Nat.not_lt_zero _)
theorem end5 (o : Option Addr) (c : Nat) (n : Int) : EndP (bl5 o c n).e where
  lo := show (1 : Int) ≤ 1 by decide
  hi := show (1 : Int) ≤ 6 by decide
  a := rfl
  to := rfl
  ns := show ((1 : Int) = 6 ↔ 0 < 0) by decide
  up := up_nil
theorem may5 {g : Grs} {o oB : Option Addr} {c cB oc : Nat} {n : Int} {of : Option Addr} (hn : -4611686018427387904 ≤ n ∧ n < 4611686018427387904) (hf : g.fs.l = [⟨0, ⟨oB, cB, [bl5 o c n]⟩⟩]) (hx : g.xs.l = xs4) (hl : g.ls.l = []) (ht : g.ts.l = []) (hs : g.ss.l = []) : MayP g where
  anf := by rw [hf]; exact anf4 hx hl ht hs
  gr := fun f hm => by
    rw [hf] at hm ⊢
    obtain rfl := List.mem_singleton.1 hm
    refine ⟨Nat.zero_lt_succ _, fun k bl hk => ?_, ⟨List.nodup_nil, fun x h => absurd h (List.not_mem_nil)⟩⟩
    match k, hk with
    | 0, hk =>
      obtain rfl : bl5 o c n = bl := by simpa using hk
      refine ⟨.inl rfl, ⟨fun _ => rfl, fun i x hx => (by cases hx), end5 o c n, fun a ha => ?_, fun t ht => absurd ht (List.not_mem_nil)⟩⟩
      obtain rfl := List.mem_singleton.1 ha
      exact .inr (.inl ⟨rfl, hn⟩)
  size := by unfold grsN; rw [hf]; simp [grN, blkN, bl5, nilV]
def blA (o0 o1 : Option Addr) (c0 c1 : Nat) : Blc := ⟨nilV, nilV, ⟨5, ⟨o0, c0, [⟨1, 1⟩]⟩, nilV, ⟨o1, c1, [⟨1, nilV⟩, ⟨2, nilV⟩]⟩⟩⟩
def blJ (o0 o1 : Option Addr) (c0 c1 : Nat) (n : Int) : Blc := ⟨nilV, nilV, ⟨4, nilV, nilV, ⟨o1, c1, [⟨3, ⟨o0, c0, [⟨2, n⟩]⟩⟩]⟩⟩⟩
def blR (o0 o1 : Option Addr) (c0 c1 : Nat) : Blc := ⟨⟨o0, c0, [2]⟩, nilV, ⟨1, ⟨o1, c1, [⟨1, 2⟩]⟩, nilV, nilV⟩⟩
theorem mayA {g : Grs} {a0 a1 b0 b1 d0 d1 e0 e1 oB : Option Addr} {x0 x1 y0 y1 z0 z1 v0 v1 cB : Nat} (hf : g.fs.l = [⟨0, ⟨oB, cB, [blA a0 a1 x0 x1, blJ b0 b1 y0 y1 7, blJ d0 d1 z0 z1 8, blR e0 e1 v0 v1]⟩⟩]) (hx : g.xs.l = xs4) (hl : g.ls.l = []) (ht : g.ts.l = []) (hs : g.ss.l = []) : MayP g where
  anf := by rw [hf]; exact anf4 hx hl ht hs
  gr := fun f hm => by
    rw [hf] at hm ⊢
    obtain rfl := List.mem_singleton.1 hm
    refine ⟨Nat.zero_lt_succ _, fun k bl hk => ?_, ⟨by show List.Nodup [2]; decide, fun x h => by
      have h : x ∈ [2] := h
      rw [List.mem_singleton] at h
      subst h; decide⟩⟩
    match k, hk with
    | 0, hk =>
      obtain rfl : blA a0 a1 x0 x1 = bl := by simpa using hk
      refine ⟨.inl rfl, ⟨fun _ => rfl, fun i x hx => (by cases hx), ⟨show (1 : Int) ≤ 5 by decide, show (5 : Int) ≤ 6 by decide, rfl, rfl, show ((5 : Int) = 6 ↔ 0 < 0) by decide, up_nil⟩, fun a ha => ?_, fun t ht => ?_⟩⟩
      · obtain rfl := List.mem_singleton.1 ha
        exact .inl ⟨rfl, by decide, by decide, .inl (by decide)⟩
      · have ht : t ∈ [(⟨1, nilV⟩ : Edg), ⟨2, nilV⟩] := ht
        rcases List.mem_cons.1 ht with rfl | ht
        · exact ⟨by decide, by show (1 : Int) < 4; decide, rfl, fun a ha => absurd ha (List.not_mem_nil)⟩
        obtain rfl := List.mem_singleton.1 ht
        exact ⟨by decide, by show (2 : Int) < 4; decide, rfl, fun a ha => absurd ha (List.not_mem_nil)⟩
    | 1, hk =>
      obtain rfl : blJ b0 b1 y0 y1 7 = bl := by simpa using hk
      refine ⟨.inr ⟨0, _, by decide, rfl, ⟨⟨1, nilV⟩, List.mem_cons_self .., rfl⟩⟩, ⟨fun h => (by cases h), fun i x hx => (by cases hx), ⟨show (1 : Int) ≤ 4 by decide, show (4 : Int) ≤ 6 by decide, rfl, rfl, show ((4 : Int) = 6 ↔ 0 < 0) by decide, up_nil⟩, fun a ha => absurd ha (List.not_mem_nil), fun t ht => ?_⟩⟩
      obtain rfl := List.mem_singleton.1 ht
      refine ⟨show (1 : Int) < 3 by decide, by show (3 : Int) < 4; decide, rfl, fun a ha => ?_⟩
      obtain rfl := List.mem_singleton.1 ha
      exact .inr (.inl ⟨rfl, by decide, by decide⟩)
    | 2, hk =>
      obtain rfl : blJ d0 d1 z0 z1 8 = bl := by simpa using hk
      refine ⟨.inr ⟨0, _, by decide, rfl, ⟨⟨2, nilV⟩, List.mem_cons_of_mem _ (List.mem_cons_self ..), rfl⟩⟩, ⟨fun h => (by cases h), fun i x hx => (by cases hx), ⟨show (1 : Int) ≤ 4 by decide, show (4 : Int) ≤ 6 by decide, rfl, rfl, show ((4 : Int) = 6 ↔ 0 < 0) by decide, up_nil⟩, fun a ha => absurd ha (List.not_mem_nil), fun t ht => ?_⟩⟩
      obtain rfl := List.mem_singleton.1 ht
      refine ⟨show (2 : Int) < 3 by decide, by show (3 : Int) < 4; decide, rfl, fun a ha => ?_⟩
      obtain rfl := List.mem_singleton.1 ha
      exact .inr (.inl ⟨rfl, by decide, by decide⟩)
    | 3, hk =>
      obtain rfl : blR e0 e1 v0 v1 = bl := by simpa using hk
      refine ⟨.inr ⟨1, _, by decide, rfl, ⟨_, List.mem_cons_self .., rfl⟩⟩, ⟨fun h => (by cases h), fun i x hx => (by cases hx), ⟨show (1 : Int) ≤ 1 by decide, show (1 : Int) ≤ 6 by decide, rfl, rfl, show ((1 : Int) = 6 ↔ 0 < 0) by decide, up_nil⟩, fun a ha => ?_, fun t ht => absurd ht (List.not_mem_nil)⟩⟩
      obtain rfl := List.mem_singleton.1 ha
      exact .inl ⟨rfl, by decide, by decide, .inr (.inr (.inl (List.mem_cons_self ..)))⟩
  size := by unfold grsN; rw [hf]; simp [grN, blkN, bl5, blA, blJ, blR, nilV]
theorem may0 {g : Grs} (hf : g.fs.l = []) : ¬ MayP g := fun h => by
  have := h.anf.pos
  rw [hf] at this
  exact absurd this (by decide)
end Go.Proofs.YtenlcdokaadobaaGreatDoor
namespace Go.Proofs.YtenlcdokaadobaaGreatDoor
open Go Go.Fw
set_option linter.unusedVariables false
def at5 : Atm := ⟨2, 5⟩
set_option maxRecDepth 10000 attribute [local irreducible] Code.wp wpList Calls Ex Op1 sat bat blk cb own Go.Fw.mp Go.Fw.mpO Go.Fw.mpI Go.Fw.mpE Go.Fw.itr HS Rd Ret wkD Hp Cl Cls Exit.then Exit.inBlock Exit.noGoto bodyPost Go.Fw.flat wk2 Go.Fw.all Go.Fw.owns wpOp
attribute [local irreducible] sk mpK sko mvO entK geS

set_option maxHeartbeats 4000000 in
theorem atomsA5_spec (w0 w : World) (H : List It) (c : Kk) (bK : Nat) (p : Int) (o : Option Addr) (hH : HS w0 noM (cb bK 127 (encKk c (p)) :: H) w) (hr : Rd w0 o (encAt at5)) (hp0 : 0 ≤ p) (hp1 : p ≤ 60001) :
    Ret Tryz.prog 79 #[.pointer (some (bat bK 0)), .slice o 1 1] w (fun r w' => r = .bool true ∧ HS w0 noM (cb bK 127 (encKk c (p + 1)) :: H) w') := by
  have hsp : Sp o 1 := hr.sp (sz := 2) rfl (by omega)
  (refine enter (N := 78) Tryz.func79 rfl Tryz.ntmps79 rfl ?_; intro a hA; dsimp only [sl0, Nat.reduceAdd] at hA)
  repeat' (first | (refine QT ?_; clear hA a; intro a hA) | (refine CT ?_ <;> repeat' refine CT ?_) | fail)
  refine wp_lpk (S := Nat) (fun i a w => i ≤ 1 ∧ HS w0 noM (cb bK 127 (encKk c (p + (i : Int))) :: H) w ∧ Sl 78 [(10, .int .i64 i), (9, .int .i64 (1 : Nat)), (8, .slice o 1 1), (0, .pointer (some (bat bK 0)))] a) (fun i => 1 - i)
    (fun a w => HS w0 noM (cb bK 127 (encKk c (p + 1)) :: H) w ∧ Sl 78 [] a) 0 ⟨by omega, (by rw [show p + ((0 : Nat) : Int) = p by omega]; exact hH), (hA.sub SBT)⟩ ?_ ?_
  · clear hA hH
    rintro i a w ⟨hi, hH, hA⟩
    by_cases hlt : i < 1
    rotate_left
    · obtain rfl : i = 1 := by omega
      repeat' (first | (refine QT ?_; clear hA a; intro a hA) | (refine CT ?_ <;> repeat' refine CT ?_) | fail)
      exact ⟨hH, (hA.sub SBT)⟩
    obtain rfl : i = 0 := by omega
    rw [show p + ((0 : Nat) : Int) = p by omega] at hH
    repeat' (first | (refine GT ?_ ?_ <;> intro hg <;> clear hA a <;> intro a hA <;> (first | exact FA | replace hg := of_decide_eq_true hg | replace hg := of_decide_eq_false hg | skip)) | (refine XT ?_; apply XE; (first | (apply ex_load_st (vs := encAt at5); rfl; rfl; exact cls_rd hr id (fun i v h => (by rw [Nat.zero_mul, Nat.zero_add]; exact h))) | (apply ex_indexAddr_nat; rfl; rfl; omega; exact hsp)); clear hA a; intro a hA) | (refine QT ?_; clear hA a; intro a hA) | (refine BT ?_; clear hA hH; rintro _ w ⟨bN, rfl, hH⟩ a hA) | (apply st_op0 hA rfl rfl; apply op_store_agg (vs := encAt at5); rfl; rfl; exact hH; (repeat constructor); (repeat rfl); clear hH; rintro _ w hH) | (apply st_op0 hA rfl rfl; apply op_store_fld (cs' := encKk c (p + 1)); rfl; rfl; rfl; exact hH; (repeat constructor); clear hH; rintro _ w hH) | ((first | refine CT ?_ | (refine DT ?_ ?_ <;> intro hc <;> try (exfalso; omega))) <;> repeat' refine CT ?_) | fail)
    all_goals first | exact ⟨1, ⟨by omega, hH.tail, (hA.sub SBT)⟩, by omega⟩ | (exfalso; have h1 := nd_t (by assumption); omega) | skip
  clear hA hH
  rintro a w ⟨hH, hA⟩
  repeat' (first | (refine QT ?_; clear hA a; intro a hA) | (refine CT ?_ <;> repeat' refine CT ?_) | fail)
  exact rt1 (.inl rfl) rfl hA rfl ⟨rfl, hH⟩
set_option maxHeartbeats 16000000 in
theorem body5_spec (w0 w : World) (H : List It) (c : Kk) (bK : Nat) (p : Int) (o : Option Addr) (hH : HS w0 noM (cb bK 127 (encKk c (p)) :: H) w) (hr : Rd w0 o (encAt at5)) (hp0 : 0 ≤ p) (hp1 : p ≤ 60000) :
    Ret Tryz.prog 45 #[.pointer (some (bat bK 0)), .agg (encB o).toArray, .int .i64 1] w (fun r w' => r = .bool true ∧ HS w0 noM (cb bK 127 (encKk c (p + 2)) :: H) w') := by
  (refine enter (N := 241) Tryz.func45 rfl Tryz.ntmps45 rfl ?_; intro a hA; dsimp only [sl0, Nat.reduceAdd] at hA)
  repeat' (first | (refine QT ?_; clear hA a; intro a hA) | (refine BT ?_; clear hA hH; rintro _ w ⟨bN, rfl, hH⟩ a hA) | (refine CT ?_ <;> repeat' refine CT ?_) | fail)
  (refine st_op hA rfl rfl (by decide) (op_call rfl rfl rfl (shapes_spec _)) ?_; clear hA; rintro _ w ⟨rfl, hk⟩ a hA; replace hH := hH.keep hk; clear hk)
  repeat' (first | (refine GT ?_ ?_ <;> intro hg <;> clear hA a <;> intro a hA <;> (first | exact FA | replace hg := of_decide_eq_true hg | replace hg := of_decide_eq_false hg | skip)) | (refine QT ?_; clear hA a; intro a hA) | (refine BT ?_; clear hA hH; rintro _ w ⟨bN, rfl, hH⟩ a hA) | (apply st_op0 hA rfl rfl; apply op_store_agg (vs := shp2); rfl; rfl; exact hH; (repeat constructor); (repeat rfl); clear hH; rintro _ w hH) | (apply st_op0 hA rfl rfl; apply op_store_fld (cs' := encKk c (p + 1)); rfl; rfl; rfl; exact hH; (repeat constructor); clear hH; rintro _ w hH) | (refine CT ?_ <;> repeat' refine CT ?_) | fail)
  replace hH := hH.up 4 rfl
  dsimp only [List.eraseIdx_cons_succ, List.eraseIdx_cons_zero] at hH
  (refine st_op hA rfl rfl (by decide) (op_call rfl rfl rfl (atomsA5_spec w0 _ _ c bK (p + 1) o hH hr (by omega) (by omega))) ?_; clear hA hH)
  rintro _ w ⟨rfl, hH⟩ a hA
  repeat' (first | (refine QT ?_; clear hA a; intro a hA) | (refine CT ?_ <;> repeat' refine CT ?_) | fail)
  (refine st_op hA rfl rfl (by decide) (op_call rfl rfl rfl (containsFA_spec _ _)) ?_; clear hA; rintro _ w ⟨rfl, hk⟩ a hA; replace hH := hH.keep hk; clear hk)
  repeat' (first | (refine QT ?_; clear hA a; intro a hA) | (refine CT ?_ <;> repeat' refine CT ?_) | fail)
  rw [show p + 1 + 1 = p + 2 by omega] at hH
  exact rt1 (.inl rfl) rfl hA rfl ⟨rfl, hH.rm 1 |>.rm 1 |>.rm 1 |>.rm 1⟩
set_option maxHeartbeats 16000000 in
theorem anfMay5_spec (w0 : World) (oF : Option Addr) (cF : Nat) (cs : List Int) (o : Option Addr) (g : Grs) (hF : Rd w0 oF (flat (encF o) cs)) (hr : Rd w0 o (encAt at5)) (hcl : cs.length ≤ 100000) (hls : RdV w0 encX g.ls) (hts : RdV w0 encX g.ts) (hxs : RdV w0 encX g.xs) (hss : RdV w0 encX g.ss) :
    Ret Tryz.prog 18 #[.agg (encP oF cs.length cF g).toArray] w0 (fun v w => ∃ b, v = .bool b ∧ (b = true ↔ AnfP cs g) ∧ Kp w0 noM w) := by
  have hH : HS w0 noM [] w0 := HS.init w0 noM
  have hspF : Sp oF cs.length := hF.sp (sz := 12) (flat_length (encF_len o) _) (by omega)
  (refine enter (N := 126) Tryz.func18 rfl Tryz.ntmps18 rfl ?_; intro a hA; dsimp only [sl0, Nat.reduceAdd] at hA)
  repeat' (first | (refine GT ?_ ?_ <;> intro hg <;> clear hA a <;> intro a hA <;> (first | exact FA | replace hg := of_decide_eq_true hg | replace hg := of_decide_eq_false hg | skip)) | (refine XT ?_; apply XE; (first | (apply ex_load; rfl; refine cl_rd hF id (cap_at ?_); (show 0 < _); omega)); clear hA a; intro a hA) | (refine QT ?_; clear hA a; intro a hA) | (refine BT ?_; clear hA hH; rintro _ w ⟨bN, rfl, hH⟩ a hA) | (refine LT ?_; clear hA hH; rintro _ w ⟨oN, rfl, hH⟩ a hA) | (refine st_op hA rfl rfl (by decide) (op_call rfl rfl rfl (rising_spec _ g.ls (hls.keep hH.kp))) ?_; clear hA; rintro _ w ⟨b, rfl, hb1, hk⟩ a hA; replace hH := hH.keep hk; clear hk) | (refine st_op hA rfl rfl (by decide) (op_call rfl rfl rfl (rising_spec _ g.ts (hts.keep hH.kp))) ?_; clear hA; rintro _ w ⟨b, rfl, hb2, hk⟩ a hA; replace hH := hH.keep hk; clear hk) | (refine st_op hA rfl rfl (by decide) (op_call rfl rfl rfl (rising_spec _ g.xs (hxs.keep hH.kp))) ?_; clear hA; rintro _ w ⟨b, rfl, hb3, hk⟩ a hA; replace hH := hH.keep hk; clear hk) | ((first | refine CT ?_ | (refine DT ?_ ?_ <;> intro hc <;> try (exfalso; omega))) <;> repeat' refine CT ?_) | fail)
  · exact rt1 (.inl rfl) rfl hA rfl ⟨_, rfl, anf_no (fun h => (by have := h.pos; omega)), hH.kp⟩
  · exact rt1 (.inl rfl) rfl hA rfl ⟨_, rfl, anf_no (fun h => (by have := h.top; omega)), hH.kp⟩
  · exact rt1 (.inl rfl) rfl hA rfl ⟨_, rfl, anf_no (fun h => (by assumption : cs.getD (Int.toNat 0) 0 ≠ 0) h.c0), hH.kp⟩
  · exact rt1 (.inl rfl) rfl hA rfl ⟨_, rfl, anf_no (fun h => nb_no hb1 (by assumption) h.ls), hH.kp⟩
  · exact rt1 (.inl rfl) rfl hA rfl ⟨_, rfl, anf_no (fun h => nb_no hb2 (by assumption) h.ts), hH.kp⟩
  · exact rt1 (.inl rfl) rfl hA rfl ⟨_, rfl, anf_no (fun h => nb_no hb3 (by assumption) h.xs), hH.kp⟩
  have hp1 := nb_yes hb1 (by assumption)
  have hp2 := nb_yes hb2 (by assumption)
  have hp3 := nb_yes hb3 (by assumption)
  have hc0 : cs.getD 0 0 = 0 := Decidable.not_not.1 (by assumption : ¬ cs.getD (Int.toNat 0) 0 ≠ 0)
  clear hb1 hb2 hb3
  obtain ⟨b1, hb1⟩ : ∃ x, x = bN := ⟨_, rfl⟩
  rw [← hb1] at hA hH
  clear hb1 bN
  have hcl2 : 1 ≤ cs.length := by omega
  have hcl4 : cs.length ≤ 4096 := by omega
  obtain ⟨sl, hsl0, hsl, hH1⟩ := own4 hH
  have hsl4 : sl = four := hsl0.trans rfl
  clear hsl0
  clear hH
  have hH := hH1
  clear hH1
  have hA2 : Sl 126 [(48, .int .i64 (0 : Nat)), (47, .int .i64 sl.length), (46, .slice oN sl.length sl.length), (1, .pointer (some (bat b1 0)))] a := by rw [hsl]; exact (hA.sub SBT)
  clear hA
  have hspS := hH.own_sp (T := 9) (o := oN) (.head _)
  refine wp_lpk (S := Nat) (fun i a w => (i ≤ sl.length ∧ ∀ k, k < i → hasS g.xs.l (sl.getD k default)) ∧ HS w0 noM [own 9 1 oN sl.length sl.length (flat encX sl), cb b1 34 (encP oF cs.length cF g)] w ∧ Sl 126 [(48, .int .i64 i), (47, .int .i64 sl.length), (46, .slice oN sl.length sl.length), (1, .pointer (some (bat b1 0)))] a) (fun i => sl.length - i)
    (fun a w => (∀ k, k < sl.length → hasS g.xs.l (sl.getD k default)) ∧ HS w0 noM [cb b1 34 (encP oF cs.length cF g)] w ∧ Sl 126 [(1, .pointer (some (bat b1 0)))] a) 0 ⟨⟨Nat.zero_le _, fun k h => absurd h (Nat.not_lt_zero _)⟩, hH, hA2⟩ ?_ ?_
  · clear hA2 hH
    rintro i a w ⟨⟨hi, hhas⟩, hH, hA⟩
    by_cases hlt : i < sl.length
    rotate_left
    · obtain rfl : i = sl.length := by omega
      repeat' (first | (refine QT ?_; clear hA a; intro a hA) | ((first | refine CT ?_ | (refine DT ?_ ?_ <;> intro hc <;> try (exfalso; omega))) <;> repeat' refine CT ?_) | fail)
      exact ⟨hhas, hH.tail, (hA.sub SBT)⟩
    have hv := strs_at hlt
    repeat' (first | (refine XT ?_; apply XE; (first | (apply ex_indexAddr_nat; rfl; rfl; omega; exact hspS) | (apply ex_load; rfl; apply cl_own (T := 9); exact MEMT; exact hv)); clear hA a; intro a hA) | (refine QT ?_; clear hA a; intro a hA) | ((first | refine CT ?_ | (refine DT ?_ ?_ <;> intro hc <;> try (exfalso; omega))) <;> repeat' refine CT ?_) | fail)
    (refine st_op hA rfl rfl (by decide) (op_call rfl rfl rfl (containsX_spec _ g.xs _ (hxs.keep hH.kp))) ?_; clear hA; rintro _ w ⟨rfl, hk⟩ a hA; replace hH := hH.keep hk; clear hk)
    repeat' (first | (refine QT ?_; clear hA a; intro a hA) | ((first | refine CT ?_ | (refine DT ?_ ?_ <;> intro hc <;> try (exfalso; omega))) <;> repeat' refine CT ?_) | fail)
    all_goals first | exact ⟨i + 1, ⟨⟨hlt, lt_next (p := fun k => hasS g.xs.l (sl.getD k default)) hhas (by assumption)⟩, hH, (hA.sub SBT)⟩, by omega⟩ | exact rt1 (.inl rfl) rfl hA rfl ⟨_, rfl, anf_no (fun h => (by assumption : ¬ 0 ≤ idxF g.xs.l (sl.getD i default)) (has4 h _ (hsl4 ▸ getD_mem hlt))), hH.kp⟩
  clear hA2 hH
  rintro a w ⟨hhas, hH, hA⟩
  rw [hsl4] at hhas
  have hx4 := has4_of hhas
  clear hhas hsl hsl4 hspS
  repeat' (first | (refine QT ?_; clear hA a; intro a hA) | (refine CT ?_ <;> repeat' refine CT ?_) | fail)
  (refine st_op hA rfl rfl (by decide) (op_call rfl rfl rfl (containsFX_spec _ g.ss (hss.keep hH.kp))) ?_; clear hA; rintro _ w ⟨b, rfl, hbs, hk⟩ a hA; replace hH := hH.keep hk; clear hk)
  repeat' (first | (refine XT ?_; apply XE; (first | (apply ex_build (szs := [(0, 5), (5, 1), (6, 1), (7, 1), (8, 1), (9, 1), (10, 1), (11, 1)]) (cs := (encKk (kk0 oF cs.length cF g) 0).toArray); exact run_szl (by (repeat (first | exact SzL.nil | refine SzL.cons ⟨_, rfl, by decide⟩ ?_))); rfl; rfl)); clear hA a; intro a hA) | (refine QT ?_; clear hA a; intro a hA) | (refine BT ?_; clear hA hH; rintro _ w ⟨bN, rfl, hH⟩ a hA) | ((first | refine CT ?_ | (refine DT ?_ ?_ <;> intro hc <;> try (exfalso; omega))) <;> repeat' refine CT ?_) | fail)
  · exact rt1 (.inl rfl) rfl hA rfl ⟨_, rfl, anf_no (fun h => hbs.1 (by assumption) h.ss), hH.kp⟩
  have hss4 : ∀ s ∈ g.ss.l, s.size ≤ 4096 := Classical.not_not.1 fun h => absurd ((by assumption : b = false).symm.trans (hbs.2 h)) (by decide)
  clear hbs
  obtain ⟨bK, hbK⟩ : ∃ x, x = bN := ⟨_, rfl⟩
  rw [← hbK] at hA hH
  clear hbK bN
  refine wp_lpk (S := Nat) (fun i a w => ∃ oA cA, i ≤ cs.length ∧ HS w0 noM [cb bK 127 (encKk ⟨oF, cs.length, cF, g, oA, i, cA, 0, none, none, none, none⟩ 0), own 3 1 oA i cA (flat Fw.encI (cs.take i)), cb b1 34 (encP oF cs.length cF g)] w ∧ Sl 126 [(67, .int .i64 i), (66, .int .i64 cs.length), (65, .slice oF cs.length cF), (5, .pointer (some (bat bK 0))), (1, .pointer (some (bat b1 0)))] a) (fun i => cs.length - i)
    (fun a w => ∃ oA nA cA, HS w0 noM [cb bK 127 (encKk ⟨oF, cs.length, cF, g, oA, nA, cA, 0, none, none, none, none⟩ 0), cb b1 34 (encP oF cs.length cF g)] w ∧ Sl 126 [(5, .pointer (some (bat bK 0))), (1, .pointer (some (bat b1 0)))] a) 0 ⟨none, 0, Nat.zero_le _, (by rw [List.take_zero]; exact (hH.nil_flat Fw.encI 3 1).perm PMT), (hA.sub SBT)⟩ ?_ ?_
  · clear hA hH
    rintro i a w ⟨oA, cA, hi, hH, hA⟩
    by_cases hlt : i < cs.length
    rotate_left
    · repeat' (first | (refine QT ?_; clear hA a; intro a hA) | ((first | refine CT ?_ | (refine DT ?_ ?_ <;> intro hc <;> try (exfalso; omega))) <;> repeat' refine CT ?_) | fail)
      exact ⟨oA, i, cA, hH.rm 1, (hA.sub SBT)⟩
    obtain ⟨x, hx⟩ : ∃ x, cs[i]? = some x := ⟨_, List.getElem?_eq_getElem hlt⟩
    have hvx := flat_all (encF_len o) hx
    repeat' (first | (refine XT ?_; apply XE; (first | (apply ex_load_st (vs := encF o x); rfl; rfl; exact cls_rd hF id hvx) | (apply ex_indexAddr_nat; rfl; rfl; omega; exact hspF)); clear hA a; intro a hA) | (refine QT ?_; clear hA a; intro a hA) | (refine BT ?_; clear hA hH; rintro _ w ⟨bN, rfl, hH⟩ a hA) | (apply st_op0 hA rfl rfl; apply op_store_agg (vs := encF o x); rfl; rfl; exact hH; (repeat constructor); (repeat rfl); clear hH; rintro _ w hH) | ((first | refine CT ?_ | (refine DT ?_ ?_ <;> intro hc <;> try (exfalso; omega))) <;> repeat' refine CT ?_) | fail)
    have hST : HS w0 noM [cb bN 72 (encF o x), cb bK 127 (encKk ⟨oF, cs.length, cF, g, oA, i, cA, 0, none, none, none, none⟩ 0)] w := HS.left (H1 := [_, _]) hH
    (refine wp_draw2_HS (H := [_, _]) [(0, 1), (1, 1), (2, 1), (3, 1), (4, 1), (5, 1), (6, 1), (7, 0), (8, 0), (9, 1), (10, 1)] [11] mixed (by decide +kernel) (hST) ?_; replace hH := hH.drew)
    clear hST
    repeat' (first | (refine QT ?_; clear hA a; intro a hA) | (refine DLT ?_; clear hA hH; rintro _ w ⟨oN, rfl, hH⟩; refine ⟨STT, ?_⟩; intro a hA) | fail)
    (apply dr_op hA rfl rfl rfl (by decide); apply op_sliceLit; rfl; rfl; exact CATST; rfl; rfl; rfl; exact hH; clear hA hH; rintro _ w ⟨oN, rfl, hH⟩; refine ⟨HS.left (H1 := [_, _]) hH.tail, ?_⟩; intro a hA)
    dsimp only at hA
    (apply dr_op hA rfl rfl rfl (by decide); apply op_append; rfl; rfl; exact hH; exact MEMT; exact (hH.own_rd (List.Mem.head _)); exact rfl; rfl; decide; exact rfl; (unfold maxLen; omega); omega; clear hA; rintro _ w ⟨oN, cN, rfl, hH2⟩; clear hH; have hH := hH2 _ (by (repeat constructor)); clear hH2; refine ⟨HS.left (H1 := [_, _]) hH.tail, ?_⟩; intro a hA)
    rw [flatI_s, ← take_snoc hx] at hH
    repeat' (first | (refine QT ?_; clear hA a; intro a hA) | (refine CT ?_ <;> repeat' refine CT ?_) | fail)
    (apply dr_op03 hA rfl rfl rfl; apply op_store_fld (cs' := encKk ⟨oF, cs.length, cF, g, oN, i + 1, cN, 0, none, none, none, none⟩ 0); rfl; rfl; rfl; exact hH; (repeat constructor); clear hH; rintro _ w hH)
    repeat' (first | (refine QT ?_; clear hA a; intro a hA) | (refine CT ?_ <;> repeat' refine CT ?_) | fail)
    exact ⟨i + 1, ⟨oN, cN, hlt, (((hH.rm 0).rm 0).perm PMT), (hA.sub SBT)⟩, by omega⟩
  clear hA hH
  rintro a w ⟨oA, nA, cA, hH, hA⟩
  repeat' (first | (refine QT ?_; clear hA a; intro a hA) | (refine CT ?_ <;> repeat' refine CT ?_) | fail)
  refine wp_lpk (S := Nat) (fun i a w => ∃ c p, (i ≤ cs.length ∧ 0 ≤ p ∧ p ≤ 2 * (i : Int) ∧ ∀ c ∈ cs.take i, 0 ≤ c ∧ c ≤ 4096) ∧ HS w0 noM [cb bK 127 (encKk c p), cb b1 34 (encP oF cs.length cF g)] w ∧ Sl 126 [(86, .int .i64 i), (85, .int .i64 cs.length), (84, .slice oF cs.length cF), (5, .pointer (some (bat bK 0)))] a) (fun i => cs.length - i)
    (fun a w => (∀ c ∈ cs, 0 ≤ c ∧ c ≤ 4096) ∧ HS w0 noM [] w ∧ Sl 126 [] a) 0 ⟨_, 0, ⟨Nat.zero_le _, Int.le_refl _, by omega, (by rw [List.take_zero]; exact fun c h => absurd h List.not_mem_nil)⟩, hH, (hA.sub SBT)⟩ ?_ ?_
  · clear hA hH
    rintro i a w ⟨c, p, ⟨hi, hp0, hp1, hcap⟩, hH, hA⟩
    by_cases hlt : i < cs.length
    rotate_left
    · obtain rfl : i = cs.length := by omega
      rw [List.take_length] at hcap
      repeat' (first | (refine QT ?_; clear hA a; intro a hA) | ((first | refine CT ?_ | (refine DT ?_ ?_ <;> intro hc <;> try (exfalso; omega))) <;> repeat' refine CT ?_) | fail)
      exact ⟨hcap, hH.tail.tail, (hA.sub SBT)⟩
    obtain ⟨x, hx⟩ : ∃ x, cs[i]? = some x := ⟨_, List.getElem?_eq_getElem hlt⟩
    have hvx := flat_all (encF_len o) hx
    repeat' (first | (refine GT ?_ ?_ <;> intro hg <;> clear hA a <;> intro a hA <;> (first | exact FA | replace hg := of_decide_eq_true hg | replace hg := of_decide_eq_false hg | skip)) | (refine XT ?_; apply XE; (first | (apply ex_load_st (vs := encF o x); rfl; rfl; exact cls_rd hF id hvx) | (apply ex_indexAddr_nat; rfl; rfl; omega; exact hspF)); clear hA a; intro a hA) | (refine QT ?_; clear hA a; intro a hA) | (refine BT ?_; clear hA hH; rintro _ w ⟨bN, rfl, hH⟩ a hA) | (apply st_op0 hA rfl rfl; apply op_store_agg (vs := encF o x); rfl; rfl; exact hH; (repeat constructor); (repeat rfl); clear hH; rintro _ w hH) | (apply st_op0 hA rfl rfl; apply op_store_fld (cs' := encKk { c with caps := x } p); rfl; rfl; rfl; exact hH; (repeat constructor); clear hH; rintro _ w hH) | ((first | refine CT ?_ | (refine DT ?_ ?_ <;> intro hc <;> try (exfalso; omega))) <;> repeat' refine CT ?_) | fail)
    · exact rt1 (.inl rfl) rfl hA rfl ⟨_, rfl, anf_no (fun h => (by have := h.caps x (List.mem_of_getElem? hx); omega)), hH.kp⟩
    · exact rt1 (.inl rfl) rfl hA rfl ⟨_, rfl, anf_no (fun h => (by have := h.caps x (List.mem_of_getElem? hx); omega)), hH.kp⟩
    have hxx : 0 ≤ x ∧ x ≤ 4096 := by omega
    (refine st_op hA rfl rfl (by decide) (op_makeMapK hH) ?_; clear hA hH; rintro _ w ⟨m1, rfl, hH⟩ a hA)
    (refine st_op hA rfl rfl (by decide) (op_makeMapK hH) ?_; clear hA hH; rintro _ w ⟨m2, rfl, hH⟩ a hA)
    repeat' (first | (refine QT ?_; clear hA a; intro a hA) | (apply st_op0 hA rfl rfl; apply op_insertK; rfl; rfl; rfl; exact hH; (repeat constructor); clear hH; rintro _ w hH) | fail)
    (refine st_op hA rfl rfl (by decide) (op_makeMapI hH) ?_; clear hA hH; rintro _ w ⟨m3, rfl, hH⟩ a hA)
    (refine st_op hA rfl rfl (by decide) (op_makeMapK hH) ?_; clear hA hH; rintro _ w ⟨m4, rfl, hH⟩ a hA)
    obtain ⟨ca, hca⟩ : ∃ y : Kk, y = { c with caps := x } := ⟨_, rfl⟩
    have hH5 := hH.rm 0 |>.rm 0 |>.rm 0 |>.rm 0
    clear hH
    dsimp only [List.eraseIdx_cons_succ, List.eraseIdx_cons_zero] at hH5
    have hH := hH5
    clear hH5
    rw [← hca] at hH
    obtain ⟨oP, nP, cP, g', oA', nA', cA', caps', e', n', j', o'⟩ := ca
    repeat' (first | (refine QT ?_; clear hA a; intro a hA) | (apply st_op0 hA rfl rfl; apply op_store_fld (cs' := encKk ⟨oP, nP, cP, g', oA', nA', cA', caps', some m1, n', j', o'⟩ p); rfl; rfl; rfl; exact hH; (repeat constructor); clear hH; rintro _ w hH) | (apply st_op0 hA rfl rfl; apply op_store_fld (cs' := encKk ⟨oP, nP, cP, g', oA', nA', cA', caps', some m1, some m2, j', o'⟩ p); rfl; rfl; rfl; exact hH; (repeat constructor); clear hH; rintro _ w hH) | (apply st_op0 hA rfl rfl; apply op_store_fld (cs' := encKk ⟨oP, nP, cP, g', oA', nA', cA', caps', some m1, some m2, some m3, o'⟩ p); rfl; rfl; rfl; exact hH; (repeat constructor); clear hH; rintro _ w hH) | (apply st_op0 hA rfl rfl; apply op_store_fld (cs' := encKk ⟨oP, nP, cP, g', oA', nA', cA', caps', some m1, some m2, some m3, some m4⟩ p); rfl; rfl; rfl; exact hH; (repeat constructor); clear hH; rintro _ w hH) | (refine CT ?_ <;> repeat' refine CT ?_) | fail)
    repeat' (first | (refine XT ?_; apply XE; (first | (apply ex_load_st (vs := encB o); rfl; rfl; exact cls_cb MEMT (sub_bd o x))); clear hA a; intro a hA) | (refine QT ?_; clear hA a; intro a hA) | fail)
    (refine st_op hA rfl rfl (by decide) (op_call rfl rfl rfl (body5_spec w0 _ _ _ bK p o (hH.up 1 rfl) hr hp0 (by omega))) ?_; clear hA hH)
    rintro _ w ⟨rfl, hH⟩ a hA
    repeat' (first | (refine QT ?_; clear hA a; intro a hA) | (refine CT ?_ <;> repeat' refine CT ?_) | fail)
    exact ⟨i + 1, ⟨_, p + 2, ⟨hlt, by omega, by omega, caps_next hx hcap hxx⟩, hH.rm 1, (hA.sub SBT)⟩, by omega⟩
  clear hA hH
  rintro a w ⟨hcap, hH, hA⟩
  repeat' (first | (refine QT ?_; clear hA a; intro a hA) | (refine CT ?_ <;> repeat' refine CT ?_) | fail)
  exact rt1 (.inl rfl) rfl hA rfl ⟨_, rfl, iff_of_true rfl ⟨hcl2, hcl4, hc0, hp1, hp2, hp3, hx4, hss4, hcap⟩, hH.kp⟩
end Go.Proofs.YtenlcdokaadobaaGreatDoor
namespace Go.Proofs.YtenlcdokaadobaaGreatDoor
open Go Go.Fw
set_option linter.unusedVariables false
theorem flatX_nil : flat encX [] = [] := rfl
def encMk (o : Option Addr) (n c bJ : Nat) : List Value := [.slice o n c, .map (some bJ)]
def dr0 : List Value := [.slice none 0 0, .slice none 0 0, .int .i64 0, .slice none 0 0, .slice none 0 0, .slice none 0 0, .int .i64 0]
theorem rd_cells {w : World} {b k : Nat} {xs : List Value} (h : Rd w (some ⟨b, k, none⟩) xs) : ∀ j u, xs[j]? = some u → w.cell? ((⟨b, k, none⟩ : Addr).add j) = some u := fun j u hj => by
  have h1 := h.2 j u hj
  have e : (⟨b, k, none⟩ : Addr).add j = sat (some ⟨b, k, none⟩) j := by
    by_cases h0 : j = 0 <;> simp [sat, blkO, offO, Addr.add, h0]
  rw [e]; exact h1
theorem one_at : flat encAt (List.replicate 1 (⟨0, 0⟩ : Atm)) ++ [] = [.int .i64 0, .int .i64 0] := rfl
theorem rd_some {w : World} {o : Option Addr} {xs : List Value} (h : Rd w o xs) (hl : 0 < xs.length) : ∃ b k, o = some ⟨b, k, none⟩ := h.1 hl
set_option maxRecDepth 10000 attribute [local irreducible] Code.wp wpList Calls Ex Op1 sat bat blk cb own Go.Fw.mp Go.Fw.mpO Go.Fw.mpI Go.Fw.mpE Go.Fw.itr HS Rd Ret wkD Hp Cl Cls Exit.then Exit.inBlock Exit.noGoto bodyPost Go.Fw.flat wk2 Go.Fw.all Go.Fw.owns wpOp
attribute [local irreducible] sk mpK sko mvO entK opM Go.Fw.mset Go.Fw.mv opK

set_option maxHeartbeats 4000000 in
theorem cloneX_spec (w0 : World) (v : Vec ByteArray) (hR : RdV w0 encX v) (hl : v.l.length ≤ 1048576) :
    Ret Tryz.prog 39 #[.slice v.o v.l.length v.c] w0 (fun r w => ∃ o' c', r = .slice o' v.l.length c' ∧ HS w0 noM [own 9 1 o' v.l.length c' (flat encX v.l)] w) := by
  have hH : HS w0 noM [] w0 := HS.init w0 noM
  have hfl : (flat encX v.l).length = v.l.length * 1 := flat_length encX_len _
  have hon : (flat encX v.l).all (·.oneCell') = true := flat_one_cell (fun _ => rfl) _
  (refine enter (N := 8) Tryz.func39 rfl Tryz.ntmps39 rfl ?_; intro a hA; dsimp only [sl0, Nat.reduceAdd] at hA)
  repeat' (first | (refine XT ?_; apply XE; (first | (apply ex_eqlNil; rfl; rfl)); clear hA a; intro a hA) | (refine QT ?_; clear hA a; intro a hA) | (refine LT ?_; clear hA hH; rintro _ w ⟨oN, rfl, hH⟩ a hA) | ((first | refine CT ?_ | (refine DT ?_ ?_ <;> intro hc <;> try (exfalso; omega))) <;> repeat' refine CT ?_) | fail)
  · have hnil := rd_nil hR.1 (by assumption)
    have hl0 : v.l.length = 0 := by rw [← Nat.mul_one v.l.length, ← hfl, hnil]; rfl
    obtain ⟨o, c, l⟩ := v
    obtain rfl : l = [] := List.length_eq_zero_iff.1 hl0
    exact rt1 (.inl rfl) rfl hA rfl ⟨none, 0, rfl, by show HS w0 noM [own _ 1 none 0 0 (flat encX [])] _; rw [flatX_nil]; exact hH.nil_own 9 1⟩
  · have hRw := hH.rd hR.1 id
    (apply st_op hA rfl rfl (by decide); apply op_append; rfl; rfl; exact hH; exact MEMT; exact hRw; exact hfl; rfl; decide; exact hon; (unfold maxLen; omega); omega; clear hA; rintro _ w ⟨oN, cN, rfl, hH2⟩ a hA; clear hH; have hH := hH2 _ (by (repeat constructor)); clear hH2)
    repeat' (first | (refine QT ?_; clear hA a; intro a hA) | (refine CT ?_ <;> repeat' refine CT ?_) | fail)
    rw [Nat.zero_add] at hA hH
    exact rt1 (.inl rfl) rfl hA rfl ⟨_, _, rfl, hH⟩
set_option maxHeartbeats 4000000 in
theorem cloneN0_spec (w0 : World) : Ret Tryz.prog 110 #[.slice none 0 0] w0 (fun r w => r = .slice none 0 0 ∧ Kp w0 noM w) := by
  have hH : HS w0 noM [] w0 := HS.init w0 noM
  (refine enter (N := 8) Tryz.func110 rfl Tryz.ntmps110 rfl ?_; intro a hA; dsimp only [sl0, Nat.reduceAdd] at hA)
  repeat' (first | (refine XT ?_; apply XE; (first | (apply ex_eqlNil; rfl; rfl)); clear hA a; intro a hA) | (refine QT ?_; clear hA a; intro a hA) | (refine CT ?_ <;> repeat' refine CT ?_) | fail)
  exact rt1 (.inl rfl) rfl hA rfl ⟨rfl, hH.kp⟩
set_option maxHeartbeats 4000000 in
theorem atoms1_spec (w0 : World) (o : Option Addr) (c : Nat) (x : Atm) (hR : Rd w0 o (encAt x)) :
    Ret Tryz.prog 109 #[.slice o 1 c] w0 (fun r w => ∃ o', r = .slice o' 1 1 ∧ HS w0 noM [own 65 2 o' 1 1 (encAt x)] w) := by
  have hH : HS w0 noM [] w0 := HS.init w0 noM
  obtain ⟨bO, kO, rfl⟩ := rd_some hR (Nat.zero_lt_succ _)
  (refine enter (N := 11) Tryz.func109 rfl Tryz.ntmps109 rfl ?_; intro a hA; dsimp only [sl0, Nat.reduceAdd] at hA)
  repeat' (first | (refine QT ?_; clear hA a; intro a hA) | (apply st_op hA rfl rfl (by decide); apply op_make encAt (⟨0, 0⟩ : Atm) (n := 1); rfl; rfl; rfl; rfl; decide; decide; exact encAt_len; rfl; decide; exact hH; clear hA hH; rintro _ w ⟨oN, rfl, hH⟩ a hA) | (refine CT ?_ <;> repeat' refine CT ?_) | fail)
  obtain ⟨b, spare, rfl, q1, q2, q3, q4, hH2⟩ := hH.own_block (by decide)
  have hsp : spare = [] := List.length_eq_zero_iff.1 (by rw [q3] at q4; omega)
  subst hsp
  clear hH
  have hH := hH2
  clear hH2
  rw [one_at] at hH
  have hRw := rd_cells (hH.rd hR id)
  repeat' (first | (refine QT ?_; clear hA a; intro a hA) | fail)
  (apply st_op hA rfl rfl (by decide); apply op_copy_cb (cells := [.int .i64 0, .int .i64 0]) (news := encAt x); rfl; rfl; exact hH; exact hRw; rfl; rfl; exact Nat.le_refl 2; (repeat constructor); clear hA hH; rintro _ w ⟨rfl, hH⟩ a hA)
  repeat' (first | (refine QT ?_; clear hA a; intro a hA) | (refine CT ?_ <;> repeat' refine CT ?_) | fail)
  exact rt1 (.inl rfl) rfl hA rfl ⟨_, rfl, HS.block_own (sz := 2) (xs := encAt x) (spare := []) (by rw [List.append_nil]; exact hH) rfl (Nat.le_refl _) (by decide) rfl⟩
set_option maxHeartbeats 8000000 in
theorem fresh0_spec (w0 w : World) (H : List It) (bM bJ : Nat) (hH : HS w0 noM (cb bM 174 (encMk none 0 0 bJ) :: H) w) :
    Ret Tryz.prog 74 #[.pointer (some (bat bM 0)), .slice none 0 0] w (fun r w' => ∃ oD cD, r = .int .i64 0 ∧ HS w0 noM (cb bM 174 (encMk oD 1 cD bJ) :: own 179 7 oD 1 cD dr0 :: H) w') := by
  (refine enter (N := 24) Tryz.func74 rfl Tryz.ntmps74 rfl ?_; intro a hA; dsimp only [sl0, Nat.reduceAdd] at hA)
  repeat' (first | (refine QT ?_; clear hA a; intro a hA) | (refine CT ?_ <;> repeat' refine CT ?_) | fail)
  have hST : HS w0 noM [cb bM 174 (encMk none 0 0 bJ)] w := HS.left (H1 := [_]) hH
  (refine wp_draw2_HS (H := [_]) [(0, 1), (1, 1), (2, 1), (3, 1), (4, 1), (5, 1), (6, 0), (7, 1), (8, 1), (9, 0), (10, 0), (11, 1), (12, 1)] [13] mixed (by decide +kernel) (hST) ?_; replace hH := hH.drew)
  clear hST
  repeat' (first | (refine QT ?_; clear hA a; intro a hA) | (refine dr_op hA rfl rfl rfl (by decide) (op_call rfl rfl rfl (cloneN0_spec _)) ?_; clear hA; rintro _ w ⟨rfl, hk⟩; replace hH := hH.keep hk; refine ⟨HS.left (H1 := [_]) hH, ?_⟩; intro a hA) | fail)
  repeat' (first | (refine XT ?_; apply XE; (first | (apply ex_build (szs := [(0, 6), (6, 1)]) (cs := dr0.toArray); exact run_szl (by (repeat (first | exact SzL.nil | refine SzL.cons ⟨_, rfl, by decide⟩ ?_))); rfl; rfl) | (apply ex_build (szs := [(0, 1), (1, 1), (2, 4)]) (cs := #[.slice none 0 0, .slice none 0 0, .int .i64 0, .slice none 0 0, .slice none 0 0, .slice none 0 0]); exact run_szl (by (repeat (first | exact SzL.nil | refine SzL.cons ⟨_, rfl, by decide⟩ ?_))); rfl; rfl)); clear hA a; intro a hA) | (refine QT ?_; clear hA a; intro a hA) | fail)
  (apply dr_op hA rfl rfl rfl (by decide); apply op_sliceLit (xs := dr0) (vs := [.agg dr0.toArray]); rfl; rfl; exact (Cats.cn (cs := dr0) Cats.nil); rfl; rfl; rfl; exact hH; clear hA hH; rintro _ w ⟨oN, rfl, hH⟩; replace hH := hH.nil_own 179 7; refine ⟨HS.left (H1 := [_]) hH.tail.tail, ?_⟩; intro a hA)
  (apply dr_op hA rfl rfl rfl (by decide); apply op_append; rfl; rfl; exact hH; exact MEMT; exact (hH.own_rd (List.Mem.tail _ (List.Mem.head _))); exact rfl; rfl; decide; exact rfl; (unfold maxLen; omega); omega; clear hA; rintro _ w ⟨oN, cN, rfl, hH2⟩; clear hH; have hH := hH2 _ (by (repeat constructor)); clear hH2; refine ⟨HS.left (H1 := [_]) hH.tail.tail, ?_⟩; intro a hA)
  rw [List.nil_append] at hH
  repeat' (first | (refine QT ?_; clear hA a; intro a hA) | (apply dr_op03 hA rfl rfl rfl; apply op_store_fld (cs' := encMk oN 1 cN bJ); rfl; rfl; rfl; exact hH; (repeat constructor); clear hH; rintro _ w hH) | (refine CT ?_ <;> repeat' refine CT ?_) | fail)
  exact rt1 (.inl rfl) rfl hA rfl ⟨oN, cN, rfl, (hH.rm 1).perm PMT⟩
end Go.Proofs.YtenlcdokaadobaaGreatDoor
namespace Go.Proofs.YtenlcdokaadobaaGreatDoor
open Go Go.Fw
set_option linter.unusedVariables false
def dr1 (o : Option Addr) (k : Int) : List Value := [.slice none 0 0, .slice none 0 0, .int .i64 1, .slice o 1 1, .slice none 0 0, .slice none 0 0, .int .i64 k]
theorem put_dr (o : Option Addr) (spare : List Value) : put (dr0 ++ spare) 2 [.int .i64 1, .slice o 1 1, .slice none 0 0, .slice none 0 0] = dr1 o 0 ++ spare := rfl
theorem sp_bat (b : Nat) : Sp (some (bat b 0)) 1 := fun _ => ⟨b, 0, rfl⟩
theorem sat_b2 (b : Nat) : sat (some (bat b 0)) (Int.toNat 0 * 7 + 0 + 2) = bat b 2 := rfl
set_option maxRecDepth 10000 attribute [local irreducible] Code.wp wpList Calls Ex Op1 sat bat blk cb own Go.Fw.mp Go.Fw.mpO Go.Fw.mpI Go.Fw.mpE Go.Fw.itr HS Rd Ret wkD Hp Cl Cls Exit.then Exit.inBlock Exit.noGoto bodyPost Go.Fw.flat wk2 Go.Fw.all Go.Fw.owns wpOp
attribute [local irreducible] sk mpK sko mvO entK opM Go.Fw.mset Go.Fw.mv opK

set_option maxHeartbeats 8000000 in
theorem fill1_spec (w0 w : World) (H : List It) (bM bJ bF cD : Nat) (oD o : Option Addr) (x : Atm) (hH : HS w0 noM (cb bM 174 (encMk oD 1 cD bJ) :: own 179 7 oD 1 cD dr0 :: cb bF 72 (encF o 0) :: H) w) (hR : Rd w0 o (encAt x)) :
    Ret Tryz.prog 73 #[.pointer (some (bat bM 0)), .int .i64 0, .pointer (some (bat bF 1))] w (fun r w' => ∃ o1, HS w0 noM (cb bM 174 (encMk oD 1 cD bJ) :: own 179 7 oD 1 cD (dr1 o1 0) :: own 65 2 o1 1 1 (encAt x) :: cb bF 72 (encF o 0) :: H) w') := by
  have hcD := hH.own_le (T := 179) (o := oD) (by exact MEMT)
  obtain ⟨b, spare, rfl, q1, q2, q3, q4, hH2⟩ := (hH.perm (H' := own 179 7 oD 1 cD dr0 :: cb bM 174 (encMk oD 1 cD bJ) :: cb bF 72 (encF o 0) :: H) PMT).own_block (by omega)
  clear hH
  have hH := hH2
  clear hH2
  have hspD : Sp (some (bat b 0)) 1 := sp_bat b
  (refine enter (N := 202) Tryz.func73 rfl Tryz.ntmps73 rfl ?_; intro a hA; dsimp only [sl0, Nat.reduceAdd] at hA)
  repeat' (first | (refine QT ?_; clear hA a; intro a hA) | (refine CT ?_ <;> repeat' refine CT ?_) | fail)
  refine wp_lpk (S := Nat) (fun i a w => i = 0 ∧ HS w0 noM (cb b 179 (dr0 ++ spare) :: cb bM 174 (encMk (some (bat b 0)) 1 cD bJ) :: cb bF 72 (encF o 0) :: H) w ∧ Sl 202 [(0, .pointer (some (bat bM 0))), (1, .int .i64 0), (2, .pointer (some (bat bF 1)))] a) (fun i => i) (fun a w => False) 0 ⟨rfl, hH, (hA.sub SBT)⟩ ?_ (fun a w h => h.elim)
  clear hA hH
  rintro i a w ⟨hi, hH, hA⟩
  repeat' (first | (refine XT ?_; apply XE; (first | (apply ex_indexAddr; rfl; rfl; decide; omega; exact hspD)); clear hA a; intro a hA) | (refine QT ?_; clear hA a; intro a hA) | (refine CT ?_ <;> repeat' refine CT ?_) | fail)
  rw [sat_b2] at hA
  (refine st_op hA rfl rfl (by decide) (op_call rfl rfl rfl (atoms1_spec _ o 1 x (hH.rd hR id))) ?_; clear hA; rintro _ w ⟨o1, rfl, hj⟩ a hA; replace hH := hH.join hj; clear hj)
  replace hH := hH.perm (H' := cb b 179 (dr0 ++ spare) :: own 65 2 o1 1 1 (encAt x) :: cb bM 174 (encMk (some (bat b 0)) 1 cD bJ) :: cb bF 72 (encF o 0) :: H) PMT
  repeat' (first | (refine XT ?_; apply XE; (first | (apply ex_build_p (cs := #[.int .i64 1, .slice o1 1 1, .slice none 0 0, .slice none 0 0]); rfl; exact FLT; rfl)); clear hA a; intro a hA) | (refine QT ?_; clear hA a; intro a hA) | fail)
  have hdl : 2 + 4 ≤ (dr0 ++ spare).length := by rw [List.length_append, q3]; omega
  refine st_op0 hA rfl rfl (op_store_cb (vs := [.int .i64 1, .slice o1 1 1, .slice none 0 0, .slice none 0 0]) (cs' := dr1 o1 0 ++ spare) rfl rfl hH (by repeat constructor) rfl rfl rfl hdl (put_dr o1 spare)) ?_
  clear hH
  rintro _ w hH
  repeat' (first | (refine QT ?_; clear hA a; intro a hA) | (refine CT ?_ <;> repeat' refine CT ?_) | fail)
  refine rt0 (.inl rfl) rfl hA ⟨o1, ?_⟩
  have hH3 := HS.block_own (sz := 7) (n := 1) (cap := cD) (xs := dr1 o1 0) (spare := spare) (hH.perm (H' := cb b 179 (dr1 o1 0 ++ spare) :: own 65 2 o1 1 1 (encAt x) :: cb bM 174 (encMk (some (bat b 0)) 1 cD bJ) :: cb bF 72 (encF o 0) :: H) PMT) rfl (by omega) hcD.2 (by rw [← q4, q3]; rfl)
  exact hH3.perm PMT
end Go.Proofs.YtenlcdokaadobaaGreatDoor
namespace Go.Proofs.YtenlcdokaadobaaGreatDoor
open Go Go.Fw
set_option linter.unusedVariables false
set_option maxRecDepth 10000 attribute [local irreducible] Code.wp wpList Calls Ex Op1 sat bat blk cb own Go.Fw.mp Go.Fw.mpO Go.Fw.mpI Go.Fw.mpE Go.Fw.itr HS Rd Ret wkD Hp Cl Cls Exit.then Exit.inBlock Exit.noGoto bodyPost Go.Fw.flat wk2 Go.Fw.all Go.Fw.owns wpOp
attribute [local irreducible] sk mpK sko mvO entK opM Go.Fw.mset Go.Fw.mv opK

set_option maxHeartbeats 8000000 in
theorem visit0_spec (w0 w : World) (H : List It) (bS bm bMc bM bO bJ cD : Nat) (oD o1 : Option Addr) (bV : Nat) (hD : Sp oD 1) (hH : HS w0 noM (cb bS 109 [.map (some bm)] :: sk bm [] :: cb bMc 171 [.pointer (some (bat bM 0))] :: cb bM 174 (encMk oD 1 cD bJ) :: own 179 7 oD 1 cD (dr1 o1 0) :: cb bO 45 [.slice none 0 0] :: H) w) :
    Ret Tryz.prog 111 #[.int .i64 0, .pointer (some (bat bS 0)), .pointer (some (bat bMc 0)), .pointer (some (bat bV 0)), .pointer (some (bat bO 0))] w (fun r w' =>
      ∃ oL cL, HS w0 noM (cb bS 109 [.map (some bm)] :: sk bm [0] :: cb bMc 171 [.pointer (some (bat bM 0))] :: cb bM 174 (encMk oD 1 cD bJ) :: own 179 7 oD 1 cD (dr1 o1 0) :: cb bO 45 [.slice oL 1 cL] :: own 3 1 oL 1 cL [.int .i64 0] :: H) w') := by
  (refine enter (N := 37) Tryz.func111 rfl Tryz.ntmps111 rfl ?_; intro a hA; dsimp only [sl0, Nat.reduceAdd] at hA)
  repeat' (first | (refine XT ?_; apply XE; (first | (apply ex_hasK; rfl; rfl; exact MEMT) | (apply ex_indexAddr; rfl; rfl; decide; omega; exact hD)); clear hA a; intro a hA) | (refine QT ?_; clear hA a; intro a hA) | (apply st_op0 hA rfl rfl; apply op_addK; rfl; rfl; rfl; exact hH; (repeat constructor); clear hH; rintro _ w hH) | (refine CT ?_ <;> repeat' refine CT ?_) | fail)
  have hv5 : (dr1 o1 0)[Int.toNat 0 * 7 + 0 + 2 + 3]? = some (.slice none 0 0) := rfl
  repeat' (first | (refine XT ?_; apply XE; (first | (apply ex_load; rfl; exact cl_own (T := 179) (o := oD) MEMT hv5)); clear hA a; intro a hA) | (refine QT ?_; clear hA a; intro a hA) | (refine CT ?_ <;> repeat' refine CT ?_) | fail)
  refine wp_lpk (S := Nat) (fun i a w => i = 0 ∧ HS w0 noM (cb bS 109 [.map (some bm)] :: sk bm (sadd [] 0) :: cb bMc 171 [.pointer (some (bat bM 0))] :: cb bM 174 (encMk oD 1 cD bJ) :: own 179 7 oD 1 cD (dr1 o1 0) :: cb bO 45 [.slice none 0 0] :: H) w ∧ Sl 37 [(24, .int .i64 0), (23, .int .i64 (0 : Nat)), (0, .int .i64 0), (4, .pointer (some (bat bO 0)))] a) (fun i => i) (fun a w => HS w0 noM (cb bS 109 [.map (some bm)] :: sk bm (sadd [] 0) :: cb bMc 171 [.pointer (some (bat bM 0))] :: cb bM 174 (encMk oD 1 cD bJ) :: own 179 7 oD 1 cD (dr1 o1 0) :: cb bO 45 [.slice none 0 0] :: H) w ∧ Sl 37 [(0, .int .i64 0), (4, .pointer (some (bat bO 0)))] a) 0 ⟨rfl, hH, (hA.sub SBT)⟩ ?_ ?_
  · clear hA hH
    rintro i a w ⟨hi, hH, hA⟩
    repeat' (first | (refine QT ?_; clear hA a; intro a hA) | (refine CT ?_ <;> repeat' refine CT ?_) | fail)
    exact ⟨hH, (hA.sub SBT)⟩
  clear hA hH
  rintro a w ⟨hH, hA⟩
  repeat' (first | (refine QT ?_; clear hA a; intro a hA) | (refine LT ?_; clear hA hH; rintro _ w ⟨oN, rfl, hH⟩ a hA) | (refine CT ?_ <;> repeat' refine CT ?_) | fail)
  have hRw := hH.own_rd (T := 3) (List.Mem.head _)
  replace hH := hH.nil_own 3 1
  (apply st_op hA rfl rfl (by decide); apply op_append; rfl; rfl; exact hH; exact MEMT; exact hRw; exact rfl; rfl; decide; exact rfl; (unfold maxLen; omega); omega; clear hA; rintro _ w ⟨oN, cN, rfl, hH2⟩ a hA; clear hH; have hH := hH2 _ (by (repeat constructor)); clear hH2)
  repeat' (first | (refine QT ?_; clear hA a; intro a hA) | (refine S0T ?_; clear hH; rintro _ w hH) | (refine CT ?_ <;> repeat' refine CT ?_) | fail)
  exact rt0 (.inr rfl) rfl hA ⟨oN, cN, (hH.rm 1).perm PMT⟩
end Go.Proofs.YtenlcdokaadobaaGreatDoor
namespace Go.Proofs.YtenlcdokaadobaaGreatDoor
open Go Go.Fw
set_option linter.unusedVariables false
set_option maxRecDepth 10000 attribute [local irreducible] Code.wp wpList Calls Ex Op1 sat bat blk cb own Go.Fw.mp Go.Fw.mpO Go.Fw.mpI Go.Fw.mpE Go.Fw.itr HS Rd Ret wkD Hp Cl Cls Exit.then Exit.inBlock Exit.noGoto bodyPost Go.Fw.flat wk2 Go.Fw.all Go.Fw.owns wpOp
attribute [local irreducible] sk mpK sko mvO entK opM Go.Fw.mset Go.Fw.mv opK

set_option maxHeartbeats 4000000 in
theorem rev1_spec (w0 : World) (o : Option Addr) (c : Nat) : Ret Tryz.prog 112 #[.slice o 1 c] w0 (fun r w => Kp w0 noM w) := by
  have hH : HS w0 noM [] w0 := HS.init w0 noM
  (refine enter (N := 28) Tryz.func112 rfl Tryz.ntmps112 rfl ?_; intro a hA; dsimp only [sl0, Nat.reduceAdd] at hA)
  repeat' (first | (refine QT ?_; clear hA a; intro a hA) | (refine CT ?_ <;> repeat' refine CT ?_) | fail)
  refine wp_lpk (S := Nat) (fun i a w => i = 0 ∧ HS w0 noM [] w ∧ Sl 28 [(2, .int .i64 0), (3, .int .i64 0)] a) (fun i => i) (fun a w => HS w0 noM [] w ∧ Sl 28 [] a) 0 ⟨rfl, hH, (hA.sub SBT)⟩ ?_ ?_
  · clear hA hH
    rintro i a w ⟨hi, hH, hA⟩
    repeat' (first | (refine QT ?_; clear hA a; intro a hA) | (refine CT ?_ <;> repeat' refine CT ?_) | fail)
    exact ⟨hH, (hA.sub SBT)⟩
  clear hA hH
  rintro a w ⟨hH, hA⟩
  repeat' (first | (refine QT ?_; clear hA a; intro a hA) | fail)
  exact rt0 (.inr rfl) rfl hA hH.kp
set_option maxHeartbeats 8000000 in
theorem order1_spec (w0 w : World) (H : List It) (bM bJ cD : Nat) (oD o1 : Option Addr) (hD : Sp oD 1) (hH : HS w0 noM (cb bM 174 (encMk oD 1 cD bJ) :: own 179 7 oD 1 cD (dr1 o1 0) :: H) w) :
    Ret Tryz.prog 75 #[.pointer (some (bat bM 0))] w (fun r w' =>
      ∃ oL cL, r = .slice oL 1 cL ∧ HS w0 noM (cb bM 174 (encMk oD 1 cD bJ) :: own 179 7 oD 1 cD (dr1 o1 0) :: own 3 1 oL 1 cL [.int .i64 0] :: H) w') := by
  (refine enter (N := 13) Tryz.func75 rfl Tryz.ntmps75 rfl ?_; intro a hA; dsimp only [sl0, Nat.reduceAdd] at hA)
  repeat' (first | (refine XT ?_; apply XE; (first | (apply ex_makeFunc; rfl; rfl)); clear hA a; intro a hA) | (refine QT ?_; clear hA a; intro a hA) | (refine BT ?_; clear hA hH; rintro _ w ⟨bN, rfl, hH⟩ a hA) | (refine S0T ?_; clear hH; rintro _ w hH) | (refine st_op hA rfl rfl (by decide) (op_makeMapK hH) ?_; clear hA hH; rintro _ w ⟨bm, rfl, hH⟩ a hA) | (refine CT ?_ <;> repeat' refine CT ?_) | fail)
  have key : ∃ bS bMc bV bO bm, HS w0 noM (cb bS 109 [.map (some bm)] :: sk bm [] :: cb bMc 171 [.pointer (some (bat bM 0))] :: cb bM 174 (encMk oD 1 cD bJ) :: own 179 7 oD 1 cD (dr1 o1 0) :: cb bO 45 [.slice none 0 0] :: cb bV 228 [.func (.func 111) #[] #[.pointer (some (bat bS 0)), .pointer (some (bat bMc 0)), .pointer (some (bat bV 0)), .pointer (some (bat bO 0))]] :: H) w ∧
      Sl 13 [(8, .func (.func 111) #[] #[.pointer (some (bat bS 0)), .pointer (some (bat bMc 0)), .pointer (some (bat bV 0)), .pointer (some (bat bO 0))]), (4, .pointer (some (bat bO 0))), (2, .slice none 0 0)] a := ⟨_, _, _, _, _, hH.perm PMT, (hA.sub SBT)⟩
  clear hA hH
  obtain ⟨bS, bMc, bV, bO, bm, hH, hA⟩ := key
  (refine st_op hA rfl rfl (by decide) (op_call rfl rfl rfl (visit0_spec w0 w _ bS bm bMc bM bO bJ cD oD o1 bV hD hH)) ?_; clear hA hH; rintro _ w ⟨oL, cL, hH⟩ a hA)
  repeat' (first | (refine QT ?_; clear hA a; intro a hA) | (refine CT ?_ <;> repeat' refine CT ?_) | fail)
  (refine st_op hA rfl rfl (by decide) (op_call rfl rfl rfl (rev1_spec _ oL cL)) ?_; clear hA; rintro _ w hk a hA; replace hH := hH.keep hk; clear hk)
  repeat' (first | (refine QT ?_; clear hA a; intro a hA) | (refine CT ?_ <;> repeat' refine CT ?_) | fail)
  exact rt1 (.inl rfl) rfl hA rfl ⟨oL, cL, rfl, (((((hH.rm 0).rm 0).rm 0).rm 2).rm 3).perm PMT⟩
end Go.Proofs.YtenlcdokaadobaaGreatDoor
namespace Go.Proofs.YtenlcdokaadobaaGreatDoor
open Go Go.Fw
set_option linter.unusedVariables false
theorem la_1 {g : Grs} {kd : Int} {fm : Fm} {e : En} {wd : Wd} {sk : List Fm} (h : e.k = 1) : lastF g kd fm e wd sk = backF g kd (getF g fm (e.a.l.getD 0 atm0)) wd sk := by unfold lastF; rw [if_pos h]
theorem la_2 {g : Grs} {kd : Int} {fm : Fm} {e : En} {wd : Wd} {sk : List Fm} (h : e.k = 2) : lastF g kd fm e wd sk = enterF (getF g fm (e.a.l.getD 0 atm0)) (getF g fm (e.a.l.getD 1 atm0)) wd sk := by unfold lastF; rw [if_neg (by omega), if_pos h]
theorem la_4 {g : Grs} {kd : Int} {fm : Fm} {e : En} {wd : Wd} {sk : List Fm} (h : e.k = 4) : lastF g kd fm e wd sk = .go ⟨wd, sk, followF g fm (e.to.l.getD 0 edg0)⟩ := by unfold lastF; rw [if_neg (by omega), if_neg (by omega), if_pos h]
theorem la_x {g : Grs} {kd : Int} {fm : Fm} {e : En} {wd : Wd} {sk : List Fm} (h : e.k ≠ 1 ∧ e.k ≠ 2 ∧ e.k ≠ 4) : lastF g kd fm e wd sk = (match asNum (getF g fm (e.a.l.getD 0 atm0)) with
    | none => stuckF wd
    | some n =>
      if e.k = 3 then raiseF g n wd sk
      else if e.k = 5 then .go ⟨wd, sk, followF g fm (e.to.l.getD (if n = 0 then 1 else 0) edg0)⟩
      else .go ⟨wd, sk, followF g fm (e.to.l.getD (if bsB e.ns.l n then bsI e.ns.l n else e.ns.l.length) edg0)⟩) := by unfold lastF; rw [if_neg h.1, if_neg h.2.1, if_neg h.2.2]; rfl
theorem atm_at {l : List Atm} {i : Nat} (h : i < l.length) : l[i]? = some (l.getD i atm0) := by rw [List.getD_eq_getElem?_getD, List.getElem?_eq_getElem h]; rfl
theorem edg_at {l : List Edg} {i : Nat} (h : i < l.length) : l[i]? = some (l.getD i edg0) := by rw [List.getD_eq_getElem?_getD, List.getElem?_eq_getElem h]; rfl
theorem end_ns {e : En} (h : EndP e) (hn : e.ns.l.length ≤ 9223372036854775807) (ht : e.to.l.length ≤ 1000000000) : e.ns.l.length ≤ 2000000000 := by
  have h1 := h.to
  have h2 := h.ns
  unfold endT at h1
  by_cases h6 : e.k = 6
  · rw [if_neg (by omega), if_neg (by omega), if_pos h6] at h1
    by_cases hb : (e.ns.l.length : Int) + 1 ≤ 9223372036854775807
    · rw [wrap_i64 (by unfold i64ok; omega)] at h1
      omega
    · have h3 : e.ns.l.length = 9223372036854775807 := by omega
      rw [h3, show IntKind.i64.wrap ((9223372036854775807 : Nat) + 1 : Int) = -9223372036854775808 by decide] at h1
      omega
  · have : ¬ 0 < e.ns.l.length := fun h => h6 (h2.2 h)
    omega
structure EdgOk (g : Grs) (w0 : World) (fm : Fm) (t : Edg) : Prop where
  b0 : 0 ≤ t.b
  b1 : t.b < (g.fs.l.getD fm.c.1.toNat gr0).bs.l.length
  len : t.a.l.length = (blkOf g fm.c.1 t.b.toNat).ps.l.length
  at_ : ∀ a ∈ t.a.l, atW g a
  top : t.a.l.length ≤ 1048576
set_option maxRecDepth 10000 attribute [local irreducible] Code.wp wpList Calls Ex Op1 sat bat blk cb own Go.Fw.mp Go.Fw.mpO Go.Fw.mpI Go.Fw.mpE Go.Fw.itr HS Rd Ret wkD Hp Cl Cls Exit.then Exit.inBlock Exit.noGoto bodyPost Go.Fw.flat wk2 Go.Fw.all Go.Fw.owns wpOp
attribute [local irreducible] sk mpK sko mvO entK opM Go.Fw.mset Go.Fw.mv opK w63 frz obI RV idxF quoteF itoaB textF

set_option maxHeartbeats 32000000 in
theorem last_spec {w0 w : World} {H : List It} {c : Cx} {bM : Nat} {g : Grs} {kd fuel : Int} {m : Mc} {oO oS ph : Option Addr} {cO cS pc bv : Nat} {mm : List (Int × Value)} {fms : List FmM} {sx : Sx} (hH : HS w0 noM (cb bM 86 (encW g kd m.wd.inp oO m.wd.out.length cO ++ encR g fuel oS fms.length cS pc bv (blkA g m.fm.c.1 m.fm.b) m.fm.i ph none) :: own 5 1 oO m.wd.out.length cO (flat encY m.wd.out) :: frz w0 c.K :: all (sx.map obI) :: own 83 5 oS fms.length cS (flat encFm fms) :: all (fms.map mpF) :: mp bv mm :: H) w) (hpc : FnR c m.fm.c.1 m.fm.c.2 pc) (hmm : MapR c m.fm.vs mm) (hfs : FsR g c m.sk fms) (hst : StR c sx m.wd.st) (e : En) (hR : RdGs w0 g) (hnf : c.nf = g.fs.l.length) (hne : ∀ f ∈ g.fs.l, 0 < f.bs.l.length) (hsz : ∀ s ∈ g.ss.l, s.size ≤ 4096) (hxs : ∀ s ∈ g.xs.l, s.size ≤ 4611686018427387904) (hfl : m.sk.length ≤ 1000000)
    (hE : EndP e) (hRe : RdEn w0 e) (ha : ∀ a ∈ e.a.l, atW g a) (hto : ∀ t ∈ e.to.l, EdgOk g w0 m.fm t) (hFI : FI w0) (htl : e.to.l.length ≤ 1000000000) (hok : ∀ f ∈ m.sk, FmOk g f ∧ f.i < (curB g f).is.l.length) :
    Ret Tryz.prog 29 #[.pointer (some (bat bM 0)), .agg (encEn e).toArray] w (fun r w' => SrW w0 c bM g kd fuel H (lastF g kd m.fm e m.wd m.sk) w') := by
  have hel := hE.lo
  have heh := hE.hi
  have hea := hE.a
  have het := hE.to
  have hal := hRe.1.le
  have hspA : Sp e.a.o e.a.l.length := hRe.1.1.sp (sz := 2) (flat_length encAt_len _) (by omega)
  have hspT : Sp e.to.o e.to.l.length := hRe.2.2.1.1.sp (sz := 2) (flat_length encEd_len _) (by omega)
  have hnl := hRe.2.1.le
  have hns : e.ns.l.length ≤ 2000000000 := end_ns hE hnl htl
  (refine enter (N := 99) Tryz.func29 rfl Tryz.ntmps29 rfl ?_; intro a hA; dsimp only [sl0, Nat.reduceAdd] at hA)
  by_cases h1 : e.k = 1
  · unfold endA at hea
    rw [if_neg (by omega), if_neg (by omega)] at hea
    repeat' (first | (refine XT ?_; apply XE; (first | (apply ex_indexAddr; rfl; rfl; decide; omega; exact hspA) | (apply ex_load_st (vs := encAt (e.a.l.getD 0 atm0)); rfl; rfl; exact cls_rd hRe.1.1 id (flat_all encAt_len (atm_at (by omega)))) | (apply ex_load_st (vs := encAt (e.a.l.getD 1 atm0)); rfl; rfl; exact cls_rd hRe.1.1 id (flat_all encAt_len (atm_at (by omega))))); clear hA a; intro a hA) | (refine QT ?_; clear hA a; intro a hA) | (refine BT ?_; clear hA hH; rintro _ w ⟨bN, rfl, hH⟩ a hA) | ((first | refine CT ?_ | (refine DT ?_ ?_ <;> intro hc <;> try (exfalso; omega))) <;> repeat' refine CT ?_) | fail)
    obtain ⟨b3, hb3⟩ : ∃ x, x = bN := ⟨_, rfl⟩; rw [← hb3] at hA hH; clear hb3 bN; replace hH := hH.perm (H' := cb bM 86 (encW g kd m.wd.inp oO m.wd.out.length cO ++ encR g fuel oS fms.length cS pc bv (blkA g m.fm.c.1 m.fm.b) m.fm.i ph none) :: mp bv mm :: own 5 1 oO m.wd.out.length cO (flat encY m.wd.out) :: frz w0 c.K :: all (sx.map obI) :: own 83 5 oS fms.length cS (flat encFm fms) :: all (fms.map mpF) :: cb b3 51 (encEn e) :: H) PMT
    (refine st_op hA rfl rfl (by decide) (op_call rfl rfl rfl (get_spec w0 _ (own 5 1 oO m.wd.out.length cO (flat encY m.wd.out) :: frz w0 c.K :: all (sx.map obI) :: own 83 5 oS fms.length cS (flat encFm fms) :: all (fms.map mpF) :: cb b3 51 (encEn e) :: H) c bM g kd m.wd.inp oO oS m.wd.out.length cO fms.length cS pc bv fuel m.fm.i _ ph none m.fm mm (e.a.l.getD 0 atm0) hH hmm (ha _ (List.mem_of_getElem? (atm_at (by omega)))) hR.2.2.2.2.2 hsz)) ?_; clear hA hH; rintro u w ⟨hu, hH⟩ a hA)
    repeat' (first | (refine QT ?_; clear hA a; intro a hA) | fail)
    replace hH := hH.perm (H' := cb bM 86 (encW g kd m.wd.inp oO m.wd.out.length cO ++ encR g fuel oS fms.length cS pc bv (blkA g m.fm.c.1 m.fm.b) m.fm.i ph none) :: own 5 1 oO m.wd.out.length cO (flat encY m.wd.out) :: frz w0 c.K :: all (sx.map obI) :: own 83 5 oS fms.length cS (flat encFm fms) :: all (fms.map mpF) :: mp bv mm :: cb b3 51 (encEn e) :: H) PMT
    (refine st_op hA rfl rfl (by decide) (op_call rfl rfl rfl (backS hH hpc hmm hfs hst hu hR hFI hfl hok)) ?_; clear hA hH; rintro _ w hS a hA)
    repeat' (first | (refine QT ?_; clear hA a; intro a hA) | (refine CT ?_ <;> repeat' refine CT ?_) | fail)
    exact rt0 (by first | exact .inl rfl | exact .inr rfl) rfl hA (by rw [la_1 h1]; exact hS.drop1)
  by_cases h2 : e.k = 2
  · unfold endA at hea
    rw [if_pos h2] at hea
    repeat' (first | (refine XT ?_; apply XE; (first | (apply ex_indexAddr; rfl; rfl; decide; omega; exact hspA) | (apply ex_load_st (vs := encAt (e.a.l.getD 0 atm0)); rfl; rfl; exact cls_rd hRe.1.1 id (flat_all encAt_len (atm_at (by omega)))) | (apply ex_load_st (vs := encAt (e.a.l.getD 1 atm0)); rfl; rfl; exact cls_rd hRe.1.1 id (flat_all encAt_len (atm_at (by omega))))); clear hA a; intro a hA) | (refine QT ?_; clear hA a; intro a hA) | (refine BT ?_; clear hA hH; rintro _ w ⟨bN, rfl, hH⟩ a hA) | ((first | refine CT ?_ | (refine DT ?_ ?_ <;> intro hc <;> try (exfalso; omega))) <;> repeat' refine CT ?_) | fail)
    obtain ⟨b3, hb3⟩ : ∃ x, x = bN := ⟨_, rfl⟩; rw [← hb3] at hA hH; clear hb3 bN; replace hH := hH.perm (H' := cb bM 86 (encW g kd m.wd.inp oO m.wd.out.length cO ++ encR g fuel oS fms.length cS pc bv (blkA g m.fm.c.1 m.fm.b) m.fm.i ph none) :: mp bv mm :: own 5 1 oO m.wd.out.length cO (flat encY m.wd.out) :: frz w0 c.K :: all (sx.map obI) :: own 83 5 oS fms.length cS (flat encFm fms) :: all (fms.map mpF) :: cb b3 51 (encEn e) :: H) PMT
    (refine wp_draw2_HS [(0, 1), (1, 1), (2, 2), (3, 1), (4, 1), (5, 1), (7, 1), (8, 2), (9, 1), (10, 1), (11, 1), (6, 0), (12, 0)] [13] mixed (by decide +kernel) hH ?_; replace hH := hH.drew)
    repeat' (first | (refine XT ?_; apply XE; (first | (apply ex_indexAddr; rfl; rfl; decide; omega; exact hspA) | (apply ex_load_st (vs := encAt (e.a.l.getD 0 atm0)); rfl; rfl; exact cls_rd hRe.1.1 id (flat_all encAt_len (atm_at (by omega)))) | (apply ex_load_st (vs := encAt (e.a.l.getD 1 atm0)); rfl; rfl; exact cls_rd hRe.1.1 id (flat_all encAt_len (atm_at (by omega))))); clear hA a; intro a hA) | (refine QT ?_; clear hA a; intro a hA) | fail)
    (refine dr_op hA rfl rfl rfl (by decide) (op_call rfl rfl rfl (get_spec w0 _ (own 5 1 oO m.wd.out.length cO (flat encY m.wd.out) :: frz w0 c.K :: all (sx.map obI) :: own 83 5 oS fms.length cS (flat encFm fms) :: all (fms.map mpF) :: cb b3 51 (encEn e) :: H) c bM g kd m.wd.inp oO oS m.wd.out.length cO fms.length cS pc bv fuel m.fm.i _ ph none m.fm mm (e.a.l.getD 0 atm0) hH hmm (ha _ (List.mem_of_getElem? (atm_at (by omega)))) hR.2.2.2.2.2 hsz)) ?_; clear hA hH; rintro u w ⟨hu, hH⟩; refine ⟨STT, ?_⟩; intro a hA)
    (refine dr_op hA rfl rfl rfl (by decide) (op_call rfl rfl rfl (get_spec w0 _ (own 5 1 oO m.wd.out.length cO (flat encY m.wd.out) :: frz w0 c.K :: all (sx.map obI) :: own 83 5 oS fms.length cS (flat encFm fms) :: all (fms.map mpF) :: cb b3 51 (encEn e) :: H) c bM g kd m.wd.inp oO oS m.wd.out.length cO fms.length cS pc bv fuel m.fm.i _ ph none m.fm mm (e.a.l.getD 1 atm0) hH hmm (ha _ (List.mem_of_getElem? (atm_at (by omega)))) hR.2.2.2.2.2 hsz)) ?_; clear hA hH; rintro v w ⟨hv, hH⟩; refine ⟨STT, ?_⟩; intro a hA)
    trace_state
    repeat' (first | (refine QT ?_; clear hA a; intro a hA) | (refine CT ?_ <;> repeat' refine CT ?_) | fail)
    replace hH := hH.perm (H' := cb bM 86 (encW g kd m.wd.inp oO m.wd.out.length cO ++ encR g fuel oS fms.length cS pc bv (blkA g m.fm.c.1 m.fm.b) m.fm.i ph none) :: own 5 1 oO m.wd.out.length cO (flat encY m.wd.out) :: frz w0 c.K :: all (sx.map obI) :: own 83 5 oS fms.length cS (flat encFm fms) :: all (fms.map mpF) :: mp bv mm :: cb b3 51 (encEn e) :: H) PMT
    (refine dr_op3 hA rfl rfl rfl (by decide) (op_call rfl rfl rfl (enterS hH hpc hmm hfs hst hu hv hR hnf hne)) ?_; clear hA hH; rintro _ w hS a hA)
    repeat' (first | (refine QT ?_; clear hA a; intro a hA) | (refine CT ?_ <;> repeat' refine CT ?_) | fail)
    exact rt0 (by first | exact .inl rfl | exact .inr rfl) rfl hA (by rw [la_2 h2]; exact hS.drop1)
  by_cases h4 : e.k = 4
  · unfold endT at het
    rw [if_pos h4] at het
    repeat' (first | (refine XT ?_; apply XE; (first | (apply ex_indexAddr; rfl; rfl; decide; omega; exact hspT) | (apply ex_load_st (vs := encEd (e.to.l.getD 0 edg0)); rfl; rfl; exact cls_rd hRe.2.2.1.1 id (flat_all encEd_len (edg_at (by omega))))); clear hA a; intro a hA) | (refine QT ?_; clear hA a; intro a hA) | (refine BT ?_; clear hA hH; rintro _ w ⟨bN, rfl, hH⟩ a hA) | ((first | refine CT ?_ | (refine DT ?_ ?_ <;> intro hc <;> try (exfalso; omega))) <;> repeat' refine CT ?_) | fail)
    obtain ⟨b3, hb3⟩ : ∃ x, x = bN := ⟨_, rfl⟩; rw [← hb3] at hA hH; clear hb3 bN; replace hH := hH.perm (H' := cb bM 86 (encW g kd m.wd.inp oO m.wd.out.length cO ++ encR g fuel oS fms.length cS pc bv (blkA g m.fm.c.1 m.fm.b) m.fm.i ph none) :: mp bv mm :: own 5 1 oO m.wd.out.length cO (flat encY m.wd.out) :: frz w0 c.K :: all (sx.map obI) :: own 83 5 oS fms.length cS (flat encFm fms) :: all (fms.map mpF) :: cb b3 51 (encEn e) :: H) PMT
    replace hH := hH.perm (H' := cb bM 86 (encW g kd m.wd.inp oO m.wd.out.length cO ++ encR g fuel oS fms.length cS pc bv (blkA g m.fm.c.1 m.fm.b) m.fm.i ph none) :: own 5 1 oO m.wd.out.length cO (flat encY m.wd.out) :: frz w0 c.K :: all (sx.map obI) :: own 83 5 oS fms.length cS (flat encFm fms) :: all (fms.map mpF) :: mp bv mm :: cb b3 51 (encEn e) :: H) PMT
    have hm0 : e.to.l.getD 0 edg0 ∈ e.to.l := getD_mem (by omega)
    have hEd := hto _ hm0
    (refine st_op hA rfl rfl (by decide) (op_call rfl rfl rfl (followS hH hpc hmm hfs hst hEd.at_ hR hsz (hRe.2.2.2 _ hm0) hEd.top hnf hEd.b0 hEd.b1 hEd.len)) ?_; clear hA hH; rintro _ w hS a hA)
    repeat' (first | (refine QT ?_; clear hA a; intro a hA) | (refine CT ?_ <;> repeat' refine CT ?_) | fail)
    exact rt0 (by first | exact .inl rfl | exact .inr rfl) rfl hA (by rw [la_4 h4]; exact hS.drop1)
  have hk : e.k = 3 ∨ e.k = 5 ∨ e.k = 6 := by omega
  have ex := la_x (g := g) (kd := kd) (fm := m.fm) (wd := m.wd) (sk := m.sk) ⟨h1, h2, h4⟩
  unfold endA at hea
  rw [if_neg h2, if_neg h4] at hea
  repeat' (first | (refine XT ?_; apply XE; (first | (apply ex_indexAddr; rfl; rfl; decide; omega; exact hspA) | (apply ex_load_st (vs := encAt (e.a.l.getD 0 atm0)); rfl; rfl; exact cls_rd hRe.1.1 id (flat_all encAt_len (atm_at (by omega)))) | (apply ex_load_st (vs := encAt (e.a.l.getD 1 atm0)); rfl; rfl; exact cls_rd hRe.1.1 id (flat_all encAt_len (atm_at (by omega))))); clear hA a; intro a hA) | (refine QT ?_; clear hA a; intro a hA) | (refine BT ?_; clear hA hH; rintro _ w ⟨bN, rfl, hH⟩ a hA) | ((first | refine CT ?_ | (refine DT ?_ ?_ <;> intro hc <;> try (exfalso; omega))) <;> repeat' refine CT ?_) | fail)
  obtain ⟨b3, hb3⟩ : ∃ x, x = bN := ⟨_, rfl⟩; rw [← hb3] at hA hH; clear hb3 bN; replace hH := hH.perm (H' := cb bM 86 (encW g kd m.wd.inp oO m.wd.out.length cO ++ encR g fuel oS fms.length cS pc bv (blkA g m.fm.c.1 m.fm.b) m.fm.i ph none) :: mp bv mm :: own 5 1 oO m.wd.out.length cO (flat encY m.wd.out) :: frz w0 c.K :: all (sx.map obI) :: own 83 5 oS fms.length cS (flat encFm fms) :: all (fms.map mpF) :: cb b3 51 (encEn e) :: H) PMT
  (refine st_op hA rfl rfl (by decide) (op_call rfl rfl rfl (get_spec w0 _ (own 5 1 oO m.wd.out.length cO (flat encY m.wd.out) :: frz w0 c.K :: all (sx.map obI) :: own 83 5 oS fms.length cS (flat encFm fms) :: all (fms.map mpF) :: cb b3 51 (encEn e) :: H) c bM g kd m.wd.inp oO oS m.wd.out.length cO fms.length cS pc bv fuel m.fm.i _ ph none m.fm mm (e.a.l.getD 0 atm0) hH hmm (ha _ (List.mem_of_getElem? (atm_at (by omega)))) hR.2.2.2.2.2 hsz)) ?_; clear hA hH; rintro u w ⟨hu, hH⟩ a hA)
  rcases hu.asNum with ⟨n, hs, rfl, hn⟩ | ⟨hs, hn⟩
  rotate_left
  · rw [hs] at ex
    dsimp only at ex
    replace hH := hH.perm (H' := cb bM 86 (encW g kd m.wd.inp oO m.wd.out.length cO ++ encR g fuel oS fms.length cS pc bv (blkA g m.fm.c.1 m.fm.b) m.fm.i ph none) :: own 5 1 oO m.wd.out.length cO (flat encY m.wd.out) :: frz w0 c.K :: all (sx.map obI) :: own 83 5 oS fms.length cS (flat encFm fms) :: all (fms.map mpF) :: mp bv mm :: cb b3 51 (encEn e) :: H) PMT
    repeat' (first | (refine XT ?_; apply XE; (first | (apply ex_assertX; rfl; exact hn)); clear hA a; intro a hA) | (refine QT ?_; clear hA a; intro a hA) | (refine CT ?_ <;> repeat' refine CT ?_) | fail)
    (refine st_op hA rfl rfl (by decide) (op_call rfl rfl rfl (stopS hH hpc hmm hfs hst 4 empS)) ?_; clear hA hH; rintro _ w hS a hA)
    repeat' (first | (refine QT ?_; clear hA a; intro a hA) | (refine CT ?_ <;> repeat' refine CT ?_) | fail)
    exact rt0 (by first | exact .inl rfl | exact .inr rfl) rfl hA (SrW.stop (by rw [ex]; rfl) hS.drop1)
  rw [hs] at ex
  dsimp only at ex
  replace hH := hH.perm (H' := cb bM 86 (encW g kd m.wd.inp oO m.wd.out.length cO ++ encR g fuel oS fms.length cS pc bv (blkA g m.fm.c.1 m.fm.b) m.fm.i ph none) :: own 5 1 oO m.wd.out.length cO (flat encY m.wd.out) :: frz w0 c.K :: all (sx.map obI) :: own 83 5 oS fms.length cS (flat encFm fms) :: all (fms.map mpF) :: mp bv mm :: cb b3 51 (encEn e) :: H) PMT
  by_cases h3 : e.k = 3
  · rw [if_pos h3] at ex
    repeat' (first | (refine XT ?_; apply XE; (first | (apply ex_assertY; rfl)); clear hA a; intro a hA) | (refine QT ?_; clear hA a; intro a hA) | ((first | refine CT ?_ | (refine DT ?_ ?_ <;> intro hc <;> try (exfalso; omega))) <;> repeat' refine CT ?_) | fail)
    (refine st_op hA rfl rfl (by decide) (op_call rfl rfl rfl (raiseS hH hpc hmm hfs hst c.le_refl (Nat.le_succ _) hn hR hnf hne hfl hxs)) ?_; clear hA hH; rintro _ w hS a hA)
    repeat' (first | (refine QT ?_; clear hA a; intro a hA) | (refine CT ?_ <;> repeat' refine CT ?_) | fail)
    exact rt0 (by first | exact .inl rfl | exact .inr rfl) rfl hA (by rw [ex]; exact hS.drop1)
  rw [if_neg h3] at ex
  unfold endT at het
  rw [if_neg h4] at het
  by_cases h5 : e.k = 5
  · rw [if_pos h5] at ex
    rw [if_pos h5] at het
    repeat' (first | (refine XT ?_; apply XE; (first | (apply ex_assertY; rfl)); clear hA a; intro a hA) | (refine QT ?_; clear hA a; intro a hA) | ((first | refine CT ?_ | (refine DT ?_ ?_ <;> intro hc <;> try (exfalso; omega))) <;> repeat' refine CT ?_) | fail)
    have hm1 : e.to.l.getD 1 edg0 ∈ e.to.l := getD_mem (by omega)
    have hm0 : e.to.l.getD 0 edg0 ∈ e.to.l := getD_mem (by omega)
    (refine wp_draw2_HS [(0, 1), (1, 1), (2, 1), (3, 1), (4, 1), (5, 0), (6, 1), (7, 1), (8, 1)] [9] mixed (by decide +kernel) hH ?_; replace hH := hH.drew)
    by_cases h0 : n = 0
    · have htr : tru (decide (n ≠ 0)) = 0 := by rw [decide_eq_false (by simpa using h0)]; rfl
      rw [if_pos h0] at ex
      have hEd := hto _ hm1
      repeat' (first | (refine XT ?_; apply XE; (first | (apply ex_indexAddr; rfl; rfl; decide; omega; exact hspT) | (apply ex_load_st (vs := encEd (e.to.l.getD 1 edg0)); rfl; rfl; exact cls_rd hRe.2.2.1.1 id (flat_all encEd_len (edg_at (by omega))))); clear hA a; intro a hA) | (refine QT ?_; clear hA a; intro a hA) | (refine dr_op hA rfl rfl rfl (by decide) (op_call rfl rfl rfl (Truth_spec _ _)) ?_; clear hA; rintro _ w ⟨rfl, hk2⟩; replace hH := hH.keep hk2; refine ⟨STT, ?_⟩; intro a hA; rw [htr] at hA) | (refine CT ?_ <;> repeat' refine CT ?_) | fail)
      (refine dr_op3 hA rfl rfl rfl (by decide) (op_call rfl rfl rfl (followS hH hpc hmm hfs hst hEd.at_ hR hsz (hRe.2.2.2 _ hm1) hEd.top hnf hEd.b0 hEd.b1 hEd.len)) ?_; clear hA hH; rintro _ w hS a hA)
      repeat' (first | (refine QT ?_; clear hA a; intro a hA) | (refine CT ?_ <;> repeat' refine CT ?_) | fail)
      exact rt0 (by first | exact .inl rfl | exact .inr rfl) rfl hA (by rw [ex]; exact hS.drop1)
    · have htr : tru (decide (n ≠ 0)) = 1 := by rw [decide_eq_true h0]; rfl
      rw [if_neg h0] at ex
      have hEd := hto _ hm0
      repeat' (first | (refine XT ?_; apply XE; (first | (apply ex_indexAddr; rfl; rfl; decide; omega; exact hspT) | (apply ex_load_st (vs := encEd (e.to.l.getD 0 edg0)); rfl; rfl; exact cls_rd hRe.2.2.1.1 id (flat_all encEd_len (edg_at (by omega))))); clear hA a; intro a hA) | (refine QT ?_; clear hA a; intro a hA) | (refine dr_op hA rfl rfl rfl (by decide) (op_call rfl rfl rfl (Truth_spec _ _)) ?_; clear hA; rintro _ w ⟨rfl, hk2⟩; replace hH := hH.keep hk2; refine ⟨STT, ?_⟩; intro a hA; rw [htr] at hA) | (refine CT ?_ <;> repeat' refine CT ?_) | fail)
      (refine dr_op3 hA rfl rfl rfl (by decide) (op_call rfl rfl rfl (followS hH hpc hmm hfs hst hEd.at_ hR hsz (hRe.2.2.2 _ hm0) hEd.top hnf hEd.b0 hEd.b1 hEd.len)) ?_; clear hA hH; rintro _ w hS a hA)
      repeat' (first | (refine QT ?_; clear hA a; intro a hA) | (refine CT ?_ <;> repeat' refine CT ?_) | fail)
      exact rt0 (by first | exact .inl rfl | exact .inr rfl) rfl hA (by rw [ex]; exact hS.drop1)
  have h6 : e.k = 6 := by omega
  rw [if_neg h5] at ex
  rw [if_neg h5, if_pos h6] at het
  have hnl2 := hRe.2.1.le
  rw [wrap_i64 (by unfold i64ok; omega)] at het
  have hbi := bsI_le e.ns.l n
  obtain ⟨i0, hi1⟩ : ∃ i : Nat, i = if bsB e.ns.l n = true then bsI e.ns.l n else e.ns.l.length := ⟨_, rfl⟩
  rw [← hi1] at ex
  have hm0 : e.to.l.getD i0 edg0 ∈ e.to.l := getD_mem (by rw [hi1]; split <;> omega)
  have hEd := hto _ hm0
  repeat' (first | (refine XT ?_; apply XE; (first | (apply ex_assertY; rfl)); clear hA a; intro a hA) | (refine QT ?_; clear hA a; intro a hA) | ((first | refine CT ?_ | (refine DT ?_ ?_ <;> intro hc <;> try (exfalso; omega))) <;> repeat' refine CT ?_) | fail)
  (refine st_op hA rfl rfl (by decide) (op_call rfl rfl rfl (bs_spec _ _ _ _ _ (hH.rd hRe.2.1.1 id) hns)) ?_; clear hA; rintro _ w ⟨rfl, hk2⟩ a hA; replace hH := hH.keep hk2)
  cases hb : bsB e.ns.l n
  · rw [hb, if_neg (by decide)] at hi1
    subst hi1
    rw [hb] at hA
    repeat' (first | (refine XT ?_; apply XE; (first | (apply ex_indexAddr_nat; rfl; rfl; omega; exact hspT) | (apply ex_load_st (vs := encEd (e.to.l.getD e.ns.l.length edg0)); rfl; rfl; exact cls_rd hRe.2.2.1.1 id (flat_all encEd_len (edg_at (by omega))))); clear hA a; intro a hA) | (refine QT ?_; clear hA a; intro a hA) | (refine CT ?_ <;> repeat' refine CT ?_) | fail)
    (refine st_op hA rfl rfl (by decide) (op_call rfl rfl rfl (followS hH hpc hmm hfs hst hEd.at_ hR hsz (hRe.2.2.2 _ hm0) hEd.top hnf hEd.b0 hEd.b1 hEd.len)) ?_; clear hA hH; rintro _ w hS a hA)
    repeat' (first | (refine QT ?_; clear hA a; intro a hA) | (refine CT ?_ <;> repeat' refine CT ?_) | fail)
    exact rt0 (by first | exact .inl rfl | exact .inr rfl) rfl hA (by rw [ex]; exact hS.drop1)
  · rw [hb, if_pos rfl] at hi1
    subst hi1
    rw [hb] at hA
    repeat' (first | (refine XT ?_; apply XE; (first | (apply ex_indexAddr_nat; rfl; rfl; omega; exact hspT) | (apply ex_load_st (vs := encEd (e.to.l.getD (bsI e.ns.l n) edg0)); rfl; rfl; exact cls_rd hRe.2.2.1.1 id (flat_all encEd_len (edg_at (by omega))))); clear hA a; intro a hA) | (refine QT ?_; clear hA a; intro a hA) | (refine CT ?_ <;> repeat' refine CT ?_) | fail)
    (refine st_op hA rfl rfl (by decide) (op_call rfl rfl rfl (followS hH hpc hmm hfs hst hEd.at_ hR hsz (hRe.2.2.2 _ hm0) hEd.top hnf hEd.b0 hEd.b1 hEd.len)) ?_; clear hA hH; rintro _ w hS a hA)
    repeat' (first | (refine QT ?_; clear hA a; intro a hA) | (refine CT ?_ <;> repeat' refine CT ?_) | fail)
    exact rt0 (by first | exact .inl rfl | exact .inr rfl) rfl hA (by rw [ex]; exact hS.drop1)
end Go.Proofs.YtenlcdokaadobaaGreatDoor
namespace Go.Fw
open Go Go.RowKit
theorem rt1c {P : Program} {N : Nat} {l : List (Nat × Value)} {a : Act} {w : World} {C : World → Prop} {fn : Func} {R : Value → World → Prop} {p : Tmp} {ty sz by_ : Nat} {z : Value} {zs : List Value} {fl : List (Nat × Nat)} {q : Addr} {vs : List Value} {e : Exit} [h0 : TSt P ty fl] [hi : TIf P ty z zs sz by_] (he : e = .ret ∨ e = .normal) (hr : fn.results = #[.cell p ty]) (hA : Sl N l a)
    (hp : lk l p = some (.pointer (some q))) (hl : vs.length = sz) (hC : C w) (hc : Cls C q vs) (h : R (.agg vs.toArray) w) : bodyPost P fn (fun e w' => ∃ v, e = .returned v ∧ R v w') e a w := by
  have hg : a.tmps.getD p undef = .pointer (some q) := by simp [Array.getD_eq_getD_getElem?, hA.get p _ hp]
  obtain ⟨ti, h3, h4, h5, h6⟩ := hi.eq
  have hrun : (results fn a.tmps).run P w = .ok (.agg vs.toArray) w := by
    have e1 : (results fn a.tmps).run P w = ((asAddr (a.tmps.getD p undef)).run P w).andThen fun b w₁ => (loadVar ty b).run P w₁ := by
      simp only [results, hr]
      simp [Sem.run_bind, Result.andThen]
    rw [e1, hg]
    simp [asAddr, loadVar, run_isAgg_st, sizeOf, typeInfo, h3, h5, ← hl, run_loadCells_list w q vs (hc w hC), Result.andThen]
  rcases he with rfl | rfl
  · exact bodyPost_ret hrun hA.defers ⟨_, rfl, h⟩
  · exact bodyPost_end hrun hA.defers ⟨_, rfl, h⟩
end Go.Fw
namespace Go.Proofs.YtenlcdokaadobaaGreatDoor
open Go Go.Fw
set_option linter.unusedVariables false
noncomputable def runP (g : Grs) (kd : Int) (s : ByteArray) (fuel : Int) : Int × ByteArray × ByteArray :=
  open Classical in if MayP g then ((runF g kd fuel.toNat (firstM s)).1, ofB (runF g kd fuel.toNat (firstM s)).2.2.out, (runF g kd fuel.toNat (firstM s)).2.1) else (4, empS, empS)
theorem runP_t {g : Grs} {kd : Int} {s : ByteArray} {fuel : Int} (h : MayP g) : runP g kd s fuel = ((runF g kd fuel.toNat (firstM s)).1, ofB (runF g kd fuel.toNat (firstM s)).2.2.out, (runF g kd fuel.toNat (firstM s)).2.1) := by unfold runP; rw [if_pos h]
theorem runP_f {g : Grs} {kd : Int} {s : ByteArray} {fuel : Int} (h : ¬ MayP g) : runP g kd s fuel = (4, empS, empS) := by unfold runP; rw [if_neg h]
def encP3 (r : Int × ByteArray × ByteArray) : List Value := encO3 r.1 r.2.1 r.2.2
def enc0 (g : Grs) (fuel : Int) : List Value :=
  [.slice g.fs.o g.fs.l.length g.fs.c, .slice g.ls.o g.ls.l.length g.ls.c, .slice g.ts.o g.ts.l.length g.ts.c, .slice g.xs.o g.xs.l.length g.xs.c, .slice g.ss.o g.ss.l.length g.ss.c,
   .int .i64 fuel, .slice none 0 0, .pointer none, .map none, .pointer none, .int .i64 0, .pointer none, .pointer none]
structure RunOk (w0 : World) (g : Grs) (kd : Int) (n0 : Nat) (inp : ByteArray) (c : Cx) (m : Mc) (fu : Int) : Prop where
  run : runF g kd n0 (firstM inp) = runF g kd fu.toNat m
  mc : McOk g m
  nf : c.nf = g.fs.l.length
  K : ∀ w, c.K w → Kp w0 noM w
  top : fu ≤ 3000
  b0 : 65536 ≤ c.bd
  b1 : c.bd + fu.toNat ≤ 70000
  sk : m.sk.length + fu.toNat ≤ 3000
  out : m.wd.out.length + fu.toNat ≤ 3000
def RunG (w0 : World) (g : Grs) (kd : Int) (n0 : Nat) (inp : ByteArray) (bM : Nat) (H : List It) (i : Nat) (w : World) : Prop :=
  ∃ c m fu, (i = fu.toNat + 1 ∧ RunOk w0 g kd n0 inp c m fu) ∧ MSt w0 c bM g kd fu H m w
def RunE (w0 : World) (g : Grs) (kd : Int) (n0 : Nat) (inp : ByteArray) (bM : Nat) (H : List It) (w : World) : Prop :=
  ∃ k r wd fu, runF g kd n0 (firstM inp) = (k, r, wd) ∧ MEnd w0 bM g kd fu H k r wd w
theorem run_next {w0 w : World} {g : Grs} (hss : g.ss.l.length ≤ 9223372036854775807) {kd : Int} {n0 : Nat} {inp : ByteArray} {c : Cx} {m : Mc} {fu : Int} {bM : Nat} {H : List It} (hM : MayP g) (h : RunOk w0 g kd n0 inp c m fu) (h0 : 0 < fu) (hS : SrW w0 c bM g kd (fu - 1) H (stepF g kd m) w) :
    RunG w0 g kd n0 inp bM H fu.toNat w ∨ RunE w0 g kd n0 inp bM H w := by
  obtain ⟨n, hn⟩ : ∃ n, fu.toNat = n + 1 := ⟨fu.toNat - 1, by omega⟩
  have hn1 : (fu - 1).toNat = n := by omega
  have hrun := h.run
  have htop := h.top
  have hb0 := h.b0
  have hb1 := h.b1
  have hsk := h.sk
  have hout := h.out
  rw [hn, runF] at hrun
  cases hs : stepF g kd m with
  | go m' =>
    rw [hs] at hS hrun
    obtain ⟨d, ⟨hle, hbd⟩, hm⟩ := hS
    have hm2 := hm
    obtain ⟨oO, cO, oS, cS, pc, bv, mm, fms, sx, ph, hH, hf, hrest⟩ := hm2
    obtain ⟨o, k, vs, hr, _⟩ := hf
    have hnf : d.nf = g.fs.l.length := by rw [← hle.nf]; exact h.nf
    have hcu := cur_ok hM h.mc.fm
    have ho := step_ok hs h.mc (may_ne hM) (fun t ht => ⟨(hcu.edge hss ht).1, (hcu.edge hss ht).2.1⟩) hr.1 (by omega)
    have h1 := ho.sk
    have h2 := ho.out
    have h3 := hle.bd
    refine .inl ⟨d, m', fu - 1, ⟨by omega, ⟨by rw [hn1]; exact hrun, ho.ok, hnf, fun w hw => h.K w (hle.K w hw), by omega, by omega, by omega, by omega, by omega⟩⟩, hm⟩
  | stop k r wd =>
    rw [hs] at hS hrun
    exact .inr ⟨k, r, wd, fu - 1, hrun, hS⟩
set_option maxRecDepth 10000 attribute [local irreducible] Code.wp wpList Calls Ex Op1 sat bat blk cb own Go.Fw.mp Go.Fw.mpO Go.Fw.mpI Go.Fw.mpE Go.Fw.itr HS Rd Ret wkD Hp Cl Cls Exit.then Exit.inBlock Exit.noGoto bodyPost Go.Fw.flat wk2 Go.Fw.all Go.Fw.owns wpOp
attribute [local irreducible] sk mpK sko mvO entK opM Go.Fw.mset Go.Fw.mv opK w63 frz obI RV idxF quoteF itoaB textF

set_option maxHeartbeats 16000000 in
theorem enter0_spec (w0 w : World) (H : List It) (c : Cx) (bM p : Nat) (g : Grs) (kd : Int) (s : ByteArray) (fuel : Int) (hH : HS w0 noM (cb bM 86 (encW g kd s none 0 0 ++ enc0 g fuel) :: frz w0 c.K :: H) w) (hf : FnR c 0 [] p)
    (hR : RdGs w0 g) (hnf : c.nf = g.fs.l.length) (hne : ∀ f ∈ g.fs.l, 0 < f.bs.l.length) :
    Ret Tryz.prog 26 #[.pointer (some (bat bM 0)), ptrV 79 p, .iface 2 (.int .i64 0)] w (fun r w' =>
      ∃ b m, MapR c (firstM s).fm.vs m ∧ HS w0 noM (cb bM 86 (encW g kd s none 0 0 ++ encR g fuel none 0 0 p b (blkA g 0 0) 0 none none) :: mp b m :: frz w0 c.K :: H) w') := by
  have hspF : Sp g.fs.o g.fs.l.length := hR.1.1.sp (sz := 2) (flat_length encG_len _) (by omega)
  have hv : RV c (.num 0) (.iface 2 (.int .i64 0)) := RV_num (c := c) (n := 0) ⟨by decide, by decide⟩
  obtain ⟨o, k, vs, hfr, hp, hr2, hvs⟩ := id hf
  have hfl : 0 < g.fs.l.length := by omega
  have hgm : g.fs.l.getD (Int.toNat 0) gr0 ∈ g.fs.l := getD_mem hfl
  have hbl := hne _ hgm
  have hspB : Sp (g.fs.l.getD (Int.toNat 0) gr0).bs.o (g.fs.l.getD (Int.toNat 0) gr0).bs.l.length := (hR.2.1 _ hgm).1.1.sp (sz := 6) (flat_length encBl_len _) (by omega)
  unfold ptrV
  (refine enter (N := 41) Tryz.func26 rfl Tryz.ntmps26 rfl ?_; intro a hA; dsimp only [sl0, Nat.reduceAdd] at hA)
  repeat' (first | (refine XT ?_; apply XE; (first | (apply ex_assertY; rfl)); clear hA a; intro a hA) | (refine QT ?_; clear hA a; intro a hA) | (refine CT ?_ <;> repeat' refine CT ?_) | fail)
  have hb0 : (0 : Int) < (g.fs.l.getD (Int.toNat 0) gr0).bs.l.length := by omega
  refine wp_drawTL (qs [0, 1, 3, 4, 6, 9, 10, 11, 12, 13, 14, 15, 16, 17, 18, 19, 20, 21] (.one 2 (.two 5 7 (.one 7 (qs [8, 22, 23, 24] .nil)) (.one 5 (qs [8, 22, 23, 24] .nil))))) [25] [] (fun _ _ => False) mixed (by decide +kernel) hH ?_ (fun a w h => h.elim)
  intro hQ
  replace hH := hH.drew
  (repeat ((first | (apply dl_exp hA rfl rfl rfl (by decide) rfl; exact ex_move rfl) | (apply dl_ex hA rfl rfl rfl (by decide) rfl; first | (apply ex_load; rfl; exact cl_frzB MEMT hp rfl) | (apply ex_indexAddr; rfl; rfl; omega; omega; first | exact hspF | exact hspB) | (apply ex_load; rfl; refine cl_rd hR.1.1 id (fs_at ?_); omega) | (apply ex_iface; rfl) | (apply ex_build_p (cs := #[.pointer (some (bat p 0)), .map (some bV), .pointer (blkA g 0 0), .int .i64 0, .pointer none]); rfl; exact FLT; rfl) | exact EXT)); clear hA a; intro a hA))
  (refine dl_op hA rfl rfl rfl (by decide) (op_makeMap hH) ?_; clear hA hH; rintro _ w ⟨bV, rfl, hH⟩; refine ⟨hH.tail, ?_⟩; intro a hA)
  refine dl_two ?_ ?_
  · (apply dl_op0 hA rfl rfl rfl; apply op_insertV; rfl; rfl; rfl; exact hH; (repeat constructor); clear hH; rintro _ w hH; refine ⟨hH.tail, ?_⟩)
    (apply dl_op0 hA rfl rfl rfl; apply op_insertV; rfl; rfl; rfl; exact hH; (repeat constructor); clear hH; rintro _ w hH; refine ⟨hH.tail, ?_⟩)
    (repeat ((first | (apply dl_exp hA rfl rfl rfl (by decide) rfl; exact ex_move rfl) | (apply dl_ex hA rfl rfl rfl (by decide) rfl; first | (apply ex_load; rfl; exact cl_frzB MEMT hp rfl) | (apply ex_indexAddr; rfl; rfl; omega; omega; first | exact hspF | exact hspB) | (apply ex_load; rfl; refine cl_rd hR.1.1 id (fs_at ?_); omega) | (apply ex_iface; rfl) | (apply ex_build_p (cs := #[.pointer (some (bat p 0)), .map (some bV), .pointer (blkA g 0 0), .int .i64 0, .pointer none]); rfl; exact FLT; rfl) | exact EXT)); clear hA a; intro a hA))
    (apply dl_nil; (apply dr_op03 hA rfl rfl rfl; apply op_store_cb (vs := [.pointer (some (bat p 0)), .map (some bV), .pointer (blkA g 0 0), .int .i64 0, .pointer none]) (cs' := encW g kd s none 0 0 ++ encR g fuel none 0 0 p bV (blkA g 0 0) 0 none none); rfl; rfl; exact hH; (repeat constructor); clear hH; rintro _ w hH); (repeat' (first | (refine QT ?_; clear hA a; intro a hA) | (refine CT ?_ <;> repeat' refine CT ?_) | fail)))
    exact rt1 (.inl rfl) rfl hA rfl ⟨bV, _, MapR_new (cl := (0, [])) hf hv, hH.perm PMT⟩
  · (apply dl_op0 hA rfl rfl rfl; apply op_insertV; rfl; rfl; rfl; exact hH; (repeat constructor); clear hH; rintro _ w hH; refine ⟨hH.tail, ?_⟩)
    (apply dl_op0 hA rfl rfl rfl; apply op_insertV; rfl; rfl; rfl; exact hH; (repeat constructor); clear hH; rintro _ w hH; refine ⟨hH.tail, ?_⟩)
    (repeat ((first | (apply dl_exp hA rfl rfl rfl (by decide) rfl; exact ex_move rfl) | (apply dl_ex hA rfl rfl rfl (by decide) rfl; first | (apply ex_load; rfl; exact cl_frzB MEMT hp rfl) | (apply ex_indexAddr; rfl; rfl; omega; omega; first | exact hspF | exact hspB) | (apply ex_load; rfl; refine cl_rd hR.1.1 id (fs_at ?_); omega) | (apply ex_iface; rfl) | (apply ex_build_p (cs := #[.pointer (some (bat p 0)), .map (some bV), .pointer (blkA g 0 0), .int .i64 0, .pointer none]); rfl; exact FLT; rfl) | exact EXT)); clear hA a; intro a hA))
    (apply dl_nil; (apply dr_op03 hA rfl rfl rfl; apply op_store_cb (vs := [.pointer (some (bat p 0)), .map (some bV), .pointer (blkA g 0 0), .int .i64 0, .pointer none]) (cs' := encW g kd s none 0 0 ++ encR g fuel none 0 0 p bV (blkA g 0 0) 0 none none); rfl; rfl; exact hH; (repeat constructor); clear hH; rintro _ w hH); (repeat' (first | (refine QT ?_; clear hA a; intro a hA) | (refine CT ?_ <;> repeat' refine CT ?_) | fail)))
    exact rt1 (.inl rfl) rfl hA rfl ⟨bV, _, MapR_new2 (cl := (0, [])) hf hv, hH.perm PMT⟩
end Go.Proofs.YtenlcdokaadobaaGreatDoor
namespace Go.Proofs.YtenlcdokaadobaaGreatDoor
open Go Go.Fw
set_option linter.unusedVariables false
theorem dr_bl (o1 : Option Addr) (n : Int) (i : Nat) (v : Value) (h : (encBl (bl5 o1 1 n))[i]? = some v) : (dr1 o1 0)[Int.toNat 0 * 7 + 0 + i]? = some v := by
  match i, h with
  | 0, h => exact h
  | 1, h => exact h
  | 2, h => exact h
  | 3, h => exact h
  | 4, h => exact h
  | 5, h => exact h
theorem flat_one {α : Type} (X : List α) : (List.replicate 1 X).flatten = X := by simp
set_option maxRecDepth 10000 attribute [local irreducible] Code.wp wpList Calls Ex Op1 sat bat blk cb own Go.Fw.mp Go.Fw.mpO Go.Fw.mpI Go.Fw.mpE Go.Fw.itr HS Rd Ret wkD Hp Cl Cls Exit.then Exit.inBlock Exit.noGoto bodyPost Go.Fw.flat wk2 Go.Fw.all Go.Fw.owns wpOp
attribute [local irreducible] sk mpK sko mvO entK opM Go.Fw.mset Go.Fw.mv opK

set_option maxHeartbeats 16000000 in
theorem graph1_spec (w0 : World) (o : Option Addr) (n : Int) (hR : Rd w0 o (encAt ⟨2, n⟩)) :
    Ret Tryz.prog 40 #[.agg (encF o 0).toArray] w0 (fun r w =>
      ∃ oB cB o1, r = .agg (encG ⟨0, ⟨oB, cB, [bl5 o1 1 n]⟩⟩).toArray ∧ HS w0 noM [own 53 6 oB 1 cB (encBl (bl5 o1 1 n)), own 65 2 o1 1 1 (encAt ⟨2, n⟩)] w) := by
  have hH : HS w0 noM [] w0 := HS.init w0 noM
  (refine enter (N := 83) Tryz.func40 rfl Tryz.ntmps40 rfl ?_; intro a hA; dsimp only [sl0, Nat.reduceAdd] at hA)
  repeat' (first | (refine XT ?_; apply XE; (first | (apply ex_build_p (cs := (encMk none 0 0 bJ).toArray); rfl; exact FLT; rfl)); clear hA a; intro a hA) | (refine QT ?_; clear hA a; intro a hA) | (refine BT ?_; clear hA hH; rintro _ w ⟨bN, rfl, hH⟩ a hA) | (refine st_op hA rfl rfl (by decide) (op_makeMap hH) ?_; clear hA hH; rintro _ w ⟨bJ, rfl, hH⟩ a hA) | (refine CT ?_ <;> repeat' refine CT ?_) | fail)
  have key : ∃ bM b2 bF, HS w0 noM (cb bM 174 (encMk none 0 0 bJ) :: cb bF 72 (encF o 0) :: cb b2 44 [.int .i64 0, .slice none 0 0] :: mp bJ [] :: []) w ∧ Sl 83 [(17, .pointer (some (bat bM 0))), (16, .pointer (some (bat bM 0))), (3, .pointer (some (bat bM 0))), (2, .pointer (some (bat b2 0))), (1, .pointer (some (bat bF 0)))] a := ⟨_, _, _, hH.perm PMT, (hA.sub SBT)⟩
  clear hA hH
  obtain ⟨bM, b2, bF, hH, hA⟩ := key
  (refine st_op hA rfl rfl (by decide) (op_call rfl rfl rfl (fresh0_spec w0 w _ bM bJ hH)) ?_; clear hA hH; rintro _ w ⟨oD, cD, rfl, hH⟩ a hA)
  repeat' (first | (refine QT ?_; clear hA a; intro a hA) | fail)
  (refine st_op hA rfl rfl (by decide) (op_call rfl rfl rfl (fill1_spec w0 w _ bM bJ bF cD oD o ⟨2, n⟩ hH hR)) ?_; clear hA hH; rintro _ w ⟨o1, hH⟩ a hA)
  have hspD : Sp oD 1 := hH.own_sp (T := 179) (.tail _ (.head _))
  repeat' (first | (refine QT ?_; clear hA a; intro a hA) | (refine CT ?_ <;> repeat' refine CT ?_) | fail)
  (refine st_op hA rfl rfl (by decide) (op_call rfl rfl rfl (order1_spec w0 w _ bM bJ cD oD o1 hspD hH)) ?_; clear hA hH; rintro _ w ⟨oL, cL, rfl, hH⟩ a hA)
  have hspL : Sp oL 1 := hH.own_sp (T := 3) (.tail _ (.tail _ (.head _)))
  replace hH := (((hH.rm 6)).perm (H' := cb bM 174 (encMk oD 1 cD bJ) :: own 179 7 oD 1 cD (dr1 o1 0) :: own 3 1 oL 1 cL [.int .i64 0] :: own 65 2 o1 1 1 (encAt ⟨2, n⟩) :: cb bF 72 (encF o 0) :: cb b2 44 [.int .i64 0, .slice none 0 0] :: []) PMT)
  repeat' (first | (refine QT ?_; clear hA a; intro a hA) | (refine st_op hA rfl rfl (by decide) (op_makeMap hH) ?_; clear hA hH; rintro _ w ⟨bP, rfl, hH⟩ a hA) | (refine CT ?_ <;> repeat' refine CT ?_) | fail)
  refine wp_lpk (S := Nat) (fun i a w => ∃ m, i ≤ 1 ∧ HS w0 noM (mp bP m :: cb bM 174 (encMk oD 1 cD bJ) :: own 179 7 oD 1 cD (dr1 o1 0) :: own 3 1 oL 1 cL [.int .i64 0] :: own 65 2 o1 1 1 (encAt ⟨2, n⟩) :: cb bF 72 (encF o 0) :: cb b2 44 [.int .i64 0, .slice none 0 0] :: []) w ∧ Sl 83 [(26, .int .i64 i), (25, .int .i64 (1 : Nat)), (24, .slice oL 1 cL), (5, .map (some bP)), (4, .slice oL 1 cL), (3, .pointer (some (bat bM 0))), (2, .pointer (some (bat b2 0))), (1, .pointer (some (bat bF 0)))] a) (fun i => 1 - i)
    (fun a w => HS w0 noM (cb bM 174 (encMk oD 1 cD bJ) :: own 179 7 oD 1 cD (dr1 o1 0) :: own 3 1 oL 1 cL [.int .i64 0] :: own 65 2 o1 1 1 (encAt ⟨2, n⟩) :: cb bF 72 (encF o 0) :: cb b2 44 [.int .i64 0, .slice none 0 0] :: []) w ∧ Sl 83 [(4, .slice oL 1 cL), (3, .pointer (some (bat bM 0))), (2, .pointer (some (bat b2 0))), (1, .pointer (some (bat bF 0)))] a) 0 ⟨[], Nat.zero_le _, hH, (hA.sub SBT)⟩ ?_ ?_
  · clear hA hH
    rintro i a w ⟨m, hi, hH, hA⟩
    by_cases hlt : i < 1
    rotate_left
    · repeat' (first | (refine QT ?_; clear hA a; intro a hA) | ((first | refine CT ?_ | (refine DT ?_ ?_ <;> intro hc <;> try (exfalso; omega))) <;> repeat' refine CT ?_) | fail)
      exact ⟨hH.tail, (hA.sub SBT)⟩
    obtain rfl : i = 0 := by omega
    have hv0 : [Value.int .i64 0][0 * 1]? = some (.int .i64 0) := rfl
    repeat' (first | (refine XT ?_; apply XE; (first | (apply ex_indexAddr_nat; rfl; rfl; omega; exact hspL) | (apply ex_load; rfl; exact cl_own (T := 3) (o := oL) MEMT hv0)); clear hA a; intro a hA) | (refine QT ?_; clear hA a; intro a hA) | (apply st_op0 hA rfl rfl; apply op_mapUpdate; rfl; rfl; rfl; exact hH; (repeat constructor); clear hH; rintro _ w hH) | (refine CT ?_ <;> repeat' refine CT ?_) | fail)
    exact ⟨1, ⟨_, Nat.le_refl _, hH, (hA.sub SBT)⟩, by omega⟩
  clear hA hH
  rintro a w ⟨hH, hA⟩
  repeat' (first | (refine XT ?_; apply XE; (first | (apply ex_build_p (cs := #[.int .i64 0, .slice none 0 0]); rfl; exact FLT; rfl)); clear hA a; intro a hA) | (refine QT ?_; clear hA a; intro a hA) | (refine BT ?_; clear hA hH; rintro _ w ⟨bN, rfl, hH⟩ a hA) | (apply st_op0 hA rfl rfl; apply op_store_agg (vs := [.int .i64 0, .slice none 0 0]); rfl; rfl; exact hH; (repeat constructor); (repeat rfl); clear hH; rintro _ w hH) | (refine CT ?_ <;> repeat' refine CT ?_) | fail)
  obtain ⟨b8, hb3⟩ : ∃ x, x = bN := ⟨_, rfl⟩; rw [← hb3] at hA hH; clear hb3 bN
  have hb8 := hH
  refine wp_lpk (S := Nat) (fun i a w => ∃ oB cB, i ≤ 1 ∧ (i = 0 → oB = none ∧ cB = 0) ∧ HS w0 noM (own 53 6 oB i cB ((List.replicate i (encBl (bl5 o1 1 n))).flatten) :: cb b8 44 [.int .i64 0, .slice oB i cB] :: cb bM 174 (encMk oD 1 cD bJ) :: own 179 7 oD 1 cD (dr1 o1 0) :: own 3 1 oL 1 cL [.int .i64 0] :: own 65 2 o1 1 1 (encAt ⟨2, n⟩) :: cb bF 72 (encF o 0) :: cb b2 44 [.int .i64 0, .slice none 0 0] :: []) w ∧ Sl 83 [(40, .int .i64 i), (39, .int .i64 (1 : Nat)), (38, .slice oL 1 cL), (8, .pointer (some (bat b8 0))), (3, .pointer (some (bat bM 0))), (2, .pointer (some (bat b2 0)))] a) (fun i => 1 - i)
    (fun a w => ∃ oB cB, HS w0 noM (own 53 6 oB 1 cB (encBl (bl5 o1 1 n)) :: cb b8 44 [.int .i64 0, .slice oB 1 cB] :: cb bM 174 (encMk oD 1 cD bJ) :: own 179 7 oD 1 cD (dr1 o1 0) :: own 3 1 oL 1 cL [.int .i64 0] :: own 65 2 o1 1 1 (encAt ⟨2, n⟩) :: cb bF 72 (encF o 0) :: cb b2 44 [.int .i64 0, .slice none 0 0] :: []) w ∧ Sl 83 [(8, .pointer (some (bat b8 0))), (2, .pointer (some (bat b2 0)))] a) 0 ⟨none, 0, Nat.zero_le _, fun _ => ⟨rfl, rfl⟩, hH.nil_own 53 6, (hA.sub SBT)⟩ ?_ ?_
  · clear hA hH hb8
    rintro i a w ⟨oB, cB, hi, hi0, hH, hA⟩
    by_cases hlt : i < 1
    rotate_left
    · obtain rfl : i = 1 := by omega
      repeat' (first | (refine QT ?_; clear hA a; intro a hA) | (refine CT ?_ <;> repeat' refine CT ?_) | fail)
      exact ⟨oB, cB, hH, (hA.sub SBT)⟩
    obtain rfl : i = 0 := by omega
    obtain ⟨rfl, rfl⟩ := hi0 rfl
    have hv0 : [Value.int .i64 0][0 * 1]? = some (.int .i64 0) := rfl
    repeat' (first | (refine XT ?_; apply XE; (first | (apply ex_indexAddr_nat; rfl; rfl; omega; exact hspL) | (apply ex_load; rfl; exact cl_own (T := 3) (o := oL) MEMT hv0) | (apply ex_indexAddr; rfl; rfl; decide; omega; exact hspD) | (apply ex_load_st (vs := encBl (bl5 o1 1 n)); rfl; rfl; exact cls_own (T := 179) (o := oD) MEMT (dr_bl o1 n))); clear hA a; intro a hA) | (refine QT ?_; clear hA a; intro a hA) | (refine BT ?_; clear hA hH; rintro _ w ⟨bN, rfl, hH⟩ a hA) | (apply st_op0 hA rfl rfl; apply op_store_agg (vs := encBl (bl5 o1 1 n)); rfl; rfl; exact hH; (repeat constructor); (repeat rfl); clear hH; rintro _ w hH) | (refine CT ?_ <;> repeat' refine CT ?_) | fail)
    obtain ⟨b11, hb3⟩ : ∃ x, x = bN := ⟨_, rfl⟩; rw [← hb3] at hA hH; clear hb3 bN
    have hl0 : (0 : Nat) = (bl5 o1 1 n).e.to.l.length := rfl
    refine wp_lpk (S := Nat) (fun i a w => i = 0 ∧ HS w0 noM (cb b11 53 (encBl (bl5 o1 1 n)) :: own 53 6 none 0 0 [] :: cb b8 44 [.int .i64 0, .slice none 0 0] :: cb bM 174 (encMk oD 1 cD bJ) :: own 179 7 oD 1 cD (dr1 o1 0) :: own 3 1 oL 1 cL [.int .i64 0] :: own 65 2 o1 1 1 (encAt ⟨2, n⟩) :: cb bF 72 (encF o 0) :: cb b2 44 [.int .i64 0, .slice none 0 0] :: []) w ∧ Sl 83 [(56, .int .i64 0), (55, .int .i64 (0 : Nat)), (11, .pointer (some (bat b11 0))), (40, .int .i64 (0 : Nat)), (39, .int .i64 (1 : Nat)), (38, .slice oL 1 cL), (8, .pointer (some (bat b8 0))), (3, .pointer (some (bat bM 0))), (2, .pointer (some (bat b2 0)))] a) (fun i => i)
      (fun a w => HS w0 noM (cb b11 53 (encBl (bl5 o1 1 n)) :: own 53 6 none 0 0 [] :: cb b8 44 [.int .i64 0, .slice none 0 0] :: cb bM 174 (encMk oD 1 cD bJ) :: own 179 7 oD 1 cD (dr1 o1 0) :: own 3 1 oL 1 cL [.int .i64 0] :: own 65 2 o1 1 1 (encAt ⟨2, n⟩) :: cb bF 72 (encF o 0) :: cb b2 44 [.int .i64 0, .slice none 0 0] :: []) w ∧ Sl 83 [(11, .pointer (some (bat b11 0))), (40, .int .i64 (0 : Nat)), (39, .int .i64 (1 : Nat)), (38, .slice oL 1 cL), (8, .pointer (some (bat b8 0))), (3, .pointer (some (bat bM 0))), (2, .pointer (some (bat b2 0)))] a) 0 ⟨rfl, hH, (hA.sub SBT)⟩ ?_ ?_
    · clear hA hH
      rintro i a w ⟨hi, hH, hA⟩
      repeat' (first | (refine QT ?_; clear hA a; intro a hA) | (refine CT ?_ <;> repeat' refine CT ?_) | fail)
      exact ⟨hH, (hA.sub SBT)⟩
    clear hA hH
    rintro a w ⟨hH, hA⟩
    repeat' (first | (refine XT ?_; apply XE; (first | (apply ex_load_st (vs := encBl (bl5 o1 1 n)); rfl; rfl; exact cls_cb_all MEMT)); clear hA a; intro a hA) | (refine QT ?_; clear hA a; intro a hA) | (refine AT ?_; clear hA; rintro _ w ⟨oN, cN, rfl, hH2⟩ a hA; clear hH; have hH := (hH2 _ (by (repeat constructor))).tail; clear hH2) | (apply st_op hA rfl rfl (by decide); apply op_sliceLit (xs := encBl (bl5 o1 1 n)) (vs := [.agg (encBl (bl5 o1 1 n)).toArray]); rfl; rfl; exact (Cats.cn (cs := encBl (bl5 o1 1 n)) Cats.nil); rfl; rfl; rfl; exact hH; clear hA hH; rintro _ w ⟨oN, rfl, hH⟩ a hA) | (refine CT ?_ <;> repeat' refine CT ?_) | fail)
    repeat' (first | (refine QT ?_; clear hA a; intro a hA) | (apply st_op0 hA rfl rfl; apply op_store_fld (cs' := [.int .i64 0, .slice oN (0 + 1) cN]); rfl; rfl; rfl; exact hH; (repeat constructor); clear hH; rintro _ w hH) | (refine CT ?_ <;> repeat' refine CT ?_) | fail)
    refine ⟨1, ⟨oN, cN, Nat.le_refl _, fun h => absurd h (by decide), ?_, (hA.sub SBT)⟩, by omega⟩
    rw [flat_one]
    exact (hH.rm 0).perm PMT
  clear hA hH hb8
  rintro a w ⟨oB, cB, hH, hA⟩
  repeat' (first | (refine XT ?_; apply XE; (first | (apply ex_load_st (vs := [.int .i64 0, .slice oB 1 cB]); rfl; rfl; exact cls_cb_all MEMT)); clear hA a; intro a hA) | (refine QT ?_; clear hA a; intro a hA) | (apply st_op0 hA rfl rfl; apply op_store_agg (vs := [.int .i64 0, .slice oB 1 cB]); rfl; rfl; exact hH; (repeat constructor); (repeat rfl); clear hH; rintro _ w hH) | (refine CT ?_ <;> repeat' refine CT ?_) | fail)
  refine rt1c (vs := [.int .i64 0, .slice oB 1 cB]) (.inl rfl) rfl hA rfl rfl hH (cls_cb_all (by exact MEMT)) ⟨oB, cB, o1, rfl, ?_⟩
  exact (((((hH.rm 1).rm 1).rm 1).rm 1).rm 2).rm 2
end Go.Proofs.YtenlcdokaadobaaGreatDoor
