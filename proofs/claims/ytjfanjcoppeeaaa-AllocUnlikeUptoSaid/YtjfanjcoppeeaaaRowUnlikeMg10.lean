/-
  Graphs and registers handed in. Conditions: none.
-/
import Derived.Test.YtjfanjcoppeeaaaRowUnlikeMg9
namespace Go.Proofs.Ytjfanjcoppeeaaa
open Go Go.Fw Go.ChangeShapes Go.WideShapes Go.ChangeAt Go.RowKit Go.Deep
set_option linter.unusedVariables false
section
variable {H : Type} {enc0 : TypeId × Value → H} {w : World} {held : Bool}
theorem cutc {cs A B : List Value} {o s o2 : Nat} (z : o2 = o + s) (e : (cs.drop o).take s = A) (h : cs.drop o2 = B) : cs.drop o = A ++ B := by
  subst z
  rw [cut_at cs o s, e, h]
theorem cutn {cs : List Value} {o n : Nat} (h : cs.length = n) (z : n = o) : cs.drop o = [] := List.drop_eq_nil_of_le (by omega)
theorem opn_vec {t e : TypeId} [ht : TSl Try.prog t e] {α : Type} {enc : α → List Value} {K : α → Prop} {sz : Nat} (he : Opn enc0 w held e enc K) (hc : Try.prog.cellsOf e = sz) (hsz : 0 < sz) (hl : ∀ a, (enc a).length = sz) :
    Opn enc0 w held t (fun v : Vec α => [.slice v.o v.l.length v.c]) (fun v => RdV w enc v ∧ v.l.length ≤ 1048576 ∧ ∀ a ∈ v.l, K a) :=
  opn_imp (opn_slice he hc hsz hl) (fun v => ⟨v.1, v.2.1, v.2.2⟩) (fun v => rfl) (fun v h => h)
theorem opn_encI {t : TypeId} [h : TIn Try.prog t .i64] : Opn enc0 w held t Fw.encI (fun _ => True) := opn_imp opn_int id (fun _ => rfl) (fun _ _ => trivial)
theorem opn_encX {t : TypeId} [h : TSr Try.prog t] : Opn enc0 w held t encX (fun _ => True) := opn_imp opn_str id (fun _ => rfl) (fun _ _ => trivial)
theorem opn_atm : Opn enc0 w held 63 encAt (fun _ => True) := fun fuel cs x hx => by
  obtain ⟨n, hcl, hf⟩ := opn_struct hx
  obtain ⟨y0, h0, b0⟩ := hf 0 _ _ rfl
  obtain ⟨a0, e0, k0⟩ := (opn_int) n _ _ h0
  obtain ⟨y1, h1, b1⟩ := hf 1 _ _ rfl
  obtain ⟨a1, e1, k1⟩ := (opn_int) n _ _ h1
  refine ⟨⟨a0, a1⟩, cutc (o2 := 1) (by kernel_rfl) e0 (cutc (o2 := 2) (by kernel_rfl) e1 (cutn (o := 2) hcl (by kernel_rfl))), fun hb => ?_⟩
  have g0 := k0 (b0 hb)
  have g1 := k1 (b1 hb)
  exact trivial
theorem opn_stp : Opn enc0 w held 56 encSt (fun s => RdV w Fw.encI s.ns ∧ RdV w encAt s.a) := fun fuel cs x hx => by
  obtain ⟨n, hcl, hf⟩ := opn_struct hx
  obtain ⟨y0, h0, b0⟩ := hf 0 _ _ rfl
  obtain ⟨a0, e0, k0⟩ := (opn_int) n _ _ h0
  obtain ⟨y1, h1, b1⟩ := hf 1 _ _ rfl
  obtain ⟨a1, e1, k1⟩ := (opn_int) n _ _ h1
  obtain ⟨y2, h2, b2⟩ := hf 2 _ _ rfl
  obtain ⟨a2, e2, k2⟩ := (opn_vec (opn_encI) (by kernel_rfl) (by decide) Fw.encI_len) n _ _ h2
  obtain ⟨y3, h3, b3⟩ := hf 3 _ _ rfl
  obtain ⟨a3, e3, k3⟩ := (opn_vec (opn_atm) (by kernel_rfl) (by decide) encAt_len) n _ _ h3
  refine ⟨⟨a0, a1, a2, a3⟩, cutc (o2 := 1) (by kernel_rfl) e0 (cutc (o2 := 2) (by kernel_rfl) e1 (cutc (o2 := 3) (by kernel_rfl) e2 (cutc (o2 := 4) (by kernel_rfl) e3 (cutn (o := 4) hcl (by kernel_rfl))))), fun hb => ?_⟩
  have g0 := k0 (b0 hb)
  have g1 := k1 (b1 hb)
  have g2 := k2 (b2 hb)
  have g3 := k3 (b3 hb)
  exact ⟨g2.1, g3.1⟩
theorem opn_ins : Opn enc0 w held 58 encIn (fun i => RdIn w i) := fun fuel cs x hx => by
  obtain ⟨n, hcl, hf⟩ := opn_struct hx
  obtain ⟨y0, h0, b0⟩ := hf 0 _ _ rfl
  obtain ⟨a0, e0, k0⟩ := (opn_int) n _ _ h0
  obtain ⟨y1, h1, b1⟩ := hf 1 _ _ rfl
  obtain ⟨a1, e1, k1⟩ := (opn_stp) n _ _ h1
  refine ⟨⟨a0, a1⟩, cutc (o2 := 1) (by kernel_rfl) e0 (cutc (o2 := 5) (by kernel_rfl) e1 (cutn (o := 5) hcl (by kernel_rfl))), fun hb => ?_⟩
  have g0 := k0 (b0 hb)
  have g1 := k1 (b1 hb)
  exact g1
theorem opn_edg : Opn enc0 w held 54 encEd (fun e => RdV w encAt e.a) := fun fuel cs x hx => by
  obtain ⟨n, hcl, hf⟩ := opn_struct hx
  obtain ⟨y0, h0, b0⟩ := hf 0 _ _ rfl
  obtain ⟨a0, e0, k0⟩ := (opn_int) n _ _ h0
  obtain ⟨y1, h1, b1⟩ := hf 1 _ _ rfl
  obtain ⟨a1, e1, k1⟩ := (opn_vec (opn_atm) (by kernel_rfl) (by decide) encAt_len) n _ _ h1
  refine ⟨⟨a0, a1⟩, cutc (o2 := 1) (by kernel_rfl) e0 (cutc (o2 := 2) (by kernel_rfl) e1 (cutn (o := 2) hcl (by kernel_rfl))), fun hb => ?_⟩
  have g0 := k0 (b0 hb)
  have g1 := k1 (b1 hb)
  exact g1.1
theorem opn_en : Opn enc0 w held 50 encEn (fun e => RdEn w e ∧ e.to.l.length ≤ 1048576) := fun fuel cs x hx => by
  obtain ⟨n, hcl, hf⟩ := opn_struct hx
  obtain ⟨y0, h0, b0⟩ := hf 0 _ _ rfl
  obtain ⟨a0, e0, k0⟩ := (opn_int) n _ _ h0
  obtain ⟨y1, h1, b1⟩ := hf 1 _ _ rfl
  obtain ⟨a1, e1, k1⟩ := (opn_vec (opn_atm) (by kernel_rfl) (by decide) encAt_len) n _ _ h1
  obtain ⟨y2, h2, b2⟩ := hf 2 _ _ rfl
  obtain ⟨a2, e2, k2⟩ := (opn_vec (opn_encI) (by kernel_rfl) (by decide) Fw.encI_len) n _ _ h2
  obtain ⟨y3, h3, b3⟩ := hf 3 _ _ rfl
  obtain ⟨a3, e3, k3⟩ := (opn_vec (opn_edg) (by kernel_rfl) (by decide) encEd_len) n _ _ h3
  refine ⟨⟨a0, a1, a2, a3⟩, cutc (o2 := 1) (by kernel_rfl) e0 (cutc (o2 := 2) (by kernel_rfl) e1 (cutc (o2 := 3) (by kernel_rfl) e2 (cutc (o2 := 4) (by kernel_rfl) e3 (cutn (o := 4) hcl (by kernel_rfl))))), fun hb => ?_⟩
  have g0 := k0 (b0 hb)
  have g1 := k1 (b1 hb)
  have g2 := k2 (b2 hb)
  have g3 := k3 (b3 hb)
  exact ⟨⟨g1.1, g2.1, g3.1, g3.2.2⟩, g3.2.1⟩
theorem opn_blc : Opn enc0 w held 52 encBl (fun b => RdBl w b ∧ b.e.to.l.length ≤ 1048576) := fun fuel cs x hx => by
  obtain ⟨n, hcl, hf⟩ := opn_struct hx
  obtain ⟨y0, h0, b0⟩ := hf 0 _ _ rfl
  obtain ⟨a0, e0, k0⟩ := (opn_vec (opn_encI) (by kernel_rfl) (by decide) Fw.encI_len) n _ _ h0
  obtain ⟨y1, h1, b1⟩ := hf 1 _ _ rfl
  obtain ⟨a1, e1, k1⟩ := (opn_vec (opn_ins) (by kernel_rfl) (by decide) encIn_len) n _ _ h1
  obtain ⟨y2, h2, b2⟩ := hf 2 _ _ rfl
  obtain ⟨a2, e2, k2⟩ := (opn_en) n _ _ h2
  refine ⟨⟨a0, a1, a2⟩, cutc (o2 := 1) (by kernel_rfl) e0 (cutc (o2 := 2) (by kernel_rfl) e1 (cutc (o2 := 6) (by kernel_rfl) e2 (cutn (o := 6) hcl (by kernel_rfl)))), fun hb => ?_⟩
  have g0 := k0 (b0 hb)
  have g1 := k1 (b1 hb)
  have g2 := k2 (b2 hb)
  exact ⟨⟨g0.1, g1.1, g1.2.2, g2.1⟩, g2.2⟩
theorem opn_gr : Opn enc0 w held 30 encG (fun g => RdG w g ∧ g.bs.l.length ≤ 1048576 ∧ ∀ bl ∈ g.bs.l, bl.e.to.l.length ≤ 1048576) := fun fuel cs x hx => by
  obtain ⟨n, hcl, hf⟩ := opn_struct hx
  obtain ⟨y0, h0, b0⟩ := hf 0 _ _ rfl
  obtain ⟨a0, e0, k0⟩ := (opn_int) n _ _ h0
  obtain ⟨y1, h1, b1⟩ := hf 1 _ _ rfl
  obtain ⟨a1, e1, k1⟩ := (opn_vec (opn_blc) (by kernel_rfl) (by decide) encBl_len) n _ _ h1
  refine ⟨⟨a0, a1⟩, cutc (o2 := 1) (by kernel_rfl) e0 (cutc (o2 := 2) (by kernel_rfl) e1 (cutn (o := 2) hcl (by kernel_rfl))), fun hb => ?_⟩
  have g0 := k0 (b0 hb)
  have g1 := k1 (b1 hb)
  exact ⟨⟨g1.1, fun b hb => (g1.2.2 b hb).1⟩, g1.2.1, fun b hb => (g1.2.2 b hb).2⟩
theorem opn_grs : Opn enc0 w held 25 encGs (fun g => RdGs w g ∧ BigOk g) := fun fuel cs x hx => by
  obtain ⟨n, hcl, hf⟩ := opn_struct hx
  obtain ⟨y0, h0, b0⟩ := hf 0 _ _ rfl
  obtain ⟨a0, e0, k0⟩ := (opn_vec (opn_gr) (by kernel_rfl) (by decide) encG_len) n _ _ h0
  obtain ⟨y1, h1, b1⟩ := hf 1 _ _ rfl
  obtain ⟨a1, e1, k1⟩ := (opn_vec (opn_encX) (by kernel_rfl) (by decide) encX_len) n _ _ h1
  obtain ⟨y2, h2, b2⟩ := hf 2 _ _ rfl
  obtain ⟨a2, e2, k2⟩ := (opn_vec (opn_encX) (by kernel_rfl) (by decide) encX_len) n _ _ h2
  obtain ⟨y3, h3, b3⟩ := hf 3 _ _ rfl
  obtain ⟨a3, e3, k3⟩ := (opn_vec (opn_encX) (by kernel_rfl) (by decide) encX_len) n _ _ h3
  obtain ⟨y4, h4, b4⟩ := hf 4 _ _ rfl
  obtain ⟨a4, e4, k4⟩ := (opn_vec (opn_encX) (by kernel_rfl) (by decide) encX_len) n _ _ h4
  refine ⟨⟨a0, a1, a2, a3, a4⟩, cutc (o2 := 1) (by kernel_rfl) e0 (cutc (o2 := 2) (by kernel_rfl) e1 (cutc (o2 := 3) (by kernel_rfl) e2 (cutc (o2 := 4) (by kernel_rfl) e3 (cutc (o2 := 5) (by kernel_rfl) e4 (cutn (o := 5) hcl (by kernel_rfl)))))), fun hb => ?_⟩
  have g0 := k0 (b0 hb)
  have g1 := k1 (b1 hb)
  have g2 := k2 (b2 hb)
  have g3 := k3 (b3 hb)
  have g4 := k4 (b4 hb)
  exact ⟨⟨g0.1, fun f hf => (g0.2.2 f hf).1, g1.1, g2.1, g3.1, g4.1⟩, g0.2.1, fun f hf => (g0.2.2 f hf).2⟩
set_option maxRecDepth 100000 in
theorem argG {base : Nat} {v : Value} {d : DataW H} {p : List MemPlace} {ds : List (DataW H)} (hv : Value.okWide Try.prog w .any base 25 v) (h : DataW.Trod enc0 Try.prog w 0 (fun _ => true) held 25 v d p) (hd : d ∈ ds) (hk : ∃ gs, Rows.uptoSmall H (ds ++ gs) = true) :
    ∃ g : Grs, v = .agg (encGs g).toArray ∧ RdGs w g ∧ BigOk g := by
  obtain ⟨cs, rfl, _⟩ := okWide_struct Try.underlying25 hv
  obtain ⟨g, he, hK⟩ := opn_arg opn_grs h hd hk
  have he : cs.toList = encGs g := he
  exact ⟨g, by rw [← he], hK⟩
end
theorem own_ : ownKnob Try.checked.prog.godebug = none := by kernel_rfl
theorem laidOut : laidOutB Try.checked.prog = true := by kernel_rfl
end Go.Proofs.Ytjfanjcoppeeaaa
