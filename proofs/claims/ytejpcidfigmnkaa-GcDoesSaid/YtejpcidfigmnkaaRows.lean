/-
  No cell of these rows narrows 'for every input' (looked for: loops, veiled, ifaces, maps, wideKeys, modest, calm, conditions, laid).
  DERIVED. THE GIVEN ROWS OF THIS SEAT. 5 by the template 'for every input the law returns true; each argument reads behind the call as it read before'; 0 by the template 'total and deterministic' (their statements: YtejpcidfigmnkaaTotals.lean).
  GIVEN WITH THE SEED: the statements are not yours to turn. If you find one false, say at which input.
  Laid BY PROGRAM, IN A SANDBOX (cutbox-rows.mjs): the forced cells as the released guide's own fill.sh prints them over the translation c83592deaf00a56b… (all of the seat's roots in one cut). By AI agents, Wed Nov 11 2026. No macro, syntax, notation, axiom, sorry.
-/
import Derived.Test.YtejpcidfigmnkaaChecked
import GoSem.Claim
import GoSem.ClaimJoined
import GoSem.ClaimMapViews
import Derived.JoinedTies
import Derived.KernelRfl
namespace Go.Proofs.Ytejpcidfigmnkaa
/- THE CELL 'sum', in the pinned program and in every row, IS THE sha256 OF THE DUMP (.gsa) THAT YtejpcidfigmnkaaProg.lean LOADS. Nothing in Lean hashes anything: it is a label: what it is worth is what the hold of that sum in a sandbox is worth. -/
noncomputable def Try.pinned : Pinned := { name := "ytejpcidfigmnkaa", sum := "c83592deaf00a56b333d3f6ed45386fbce2f6a98f091a1b18163215bf7960657", checked := Try.checked }
namespace Rows
def none {H : Type} : Left H := { results := [], args := [] }

/-- 'marquetrylaw03.GcDoes': WHATEVER THE INPUT: true; the input reads as it did. -/
def gcDoesSpec : ChangeSpec := { name := "gcDoes", fn := fun _ => fun
  | [d1, d2, d3] => { results := [.lit (.bool true)], args := [d1, d2, d3] }
  | _ => none }
def gcDoesRow : OpenClaim := { program := "ytejpcidfigmnkaa", sum := "c83592deaf00a56b333d3f6ed45386fbce2f6a98f091a1b18163215bf7960657", func := "marquetry/marquetrylaw03.GcDoes", spec := "gcDoes", inPlace := ["slices.overlaps[int]", "slices.overlaps[marquetry/heap.run]"], unfollowed := true, recurses := true, apart := false }
def GcDoesSaid : Prop := gcDoesRow.holds Try.pinned (OpenSpec.ofChange gcDoesSpec)

/-- ITS FALSE NEIGHBOUR: 'it returns false'. Refute it at one input. -/
def gcDoesWrong : ChangeSpec := { name := "gcDoes", fn := fun _ => fun
  | [d1, d2, d3] => { results := [.lit (.bool false)], args := [d1, d2, d3] }
  | _ => none }
def GcDoesWrongFalsely : Prop := gcDoesRow.holds Try.pinned (OpenSpec.ofChange gcDoesWrong)

/-- 'marquetrylaw03.GcKeeps': WHATEVER THE INPUT: true; the input reads as it did. -/
def gcKeepsSpec : ChangeSpec := { name := "gcKeeps", fn := fun _ => fun
  | [d1, d2, d3, d4] => { results := [.lit (.bool true)], args := [d1, d2, d3, d4] }
  | _ => none }
def gcKeepsRow : OpenClaim := { program := "ytejpcidfigmnkaa", sum := "c83592deaf00a56b333d3f6ed45386fbce2f6a98f091a1b18163215bf7960657", func := "marquetry/marquetrylaw03.GcKeeps", spec := "gcKeeps", inPlace := ["slices.overlaps[int]", "slices.overlaps[marquetry/heap.run]"], unfollowed := true, recurses := true, apart := false }
def GcKeepsSaid : Prop := gcKeepsRow.holds Try.pinned (OpenSpec.ofChange gcKeepsSpec)

/-- ITS FALSE NEIGHBOUR: 'it returns false'. Refute it at one input. -/
def gcKeepsWrong : ChangeSpec := { name := "gcKeeps", fn := fun _ => fun
  | [d1, d2, d3, d4] => { results := [.lit (.bool false)], args := [d1, d2, d3, d4] }
  | _ => none }
def GcKeepsWrongFalsely : Prop := gcKeepsRow.holds Try.pinned (OpenSpec.ofChange gcKeepsWrong)

/-- 'marquetrylaw03.GcFrees': WHATEVER THE INPUT: true; the input reads as it did. -/
def gcFreesSpec : ChangeSpec := { name := "gcFrees", fn := fun _ => fun
  | [d1, d2, d3, d4] => { results := [.lit (.bool true)], args := [d1, d2, d3, d4] }
  | _ => none }
def gcFreesRow : OpenClaim := { program := "ytejpcidfigmnkaa", sum := "c83592deaf00a56b333d3f6ed45386fbce2f6a98f091a1b18163215bf7960657", func := "marquetry/marquetrylaw03.GcFrees", spec := "gcFrees", inPlace := ["slices.overlaps[int]", "slices.overlaps[marquetry/heap.run]"], unfollowed := true, recurses := true, apart := false }
def GcFreesSaid : Prop := gcFreesRow.holds Try.pinned (OpenSpec.ofChange gcFreesSpec)

/-- ITS FALSE NEIGHBOUR: 'it returns false'. Refute it at one input. -/
def gcFreesWrong : ChangeSpec := { name := "gcFrees", fn := fun _ => fun
  | [d1, d2, d3, d4] => { results := [.lit (.bool false)], args := [d1, d2, d3, d4] }
  | _ => none }
def GcFreesWrongFalsely : Prop := gcFreesRow.holds Try.pinned (OpenSpec.ofChange gcFreesWrong)

/-- 'marquetrylaw03.GcSteps': WHATEVER THE INPUT: true; the input reads as it did. -/
def gcStepsSpec : ChangeSpec := { name := "gcSteps", fn := fun _ => fun
  | [d1, d2, d3, d4] => { results := [.lit (.bool true)], args := [d1, d2, d3, d4] }
  | _ => none }
def gcStepsRow : OpenClaim := { program := "ytejpcidfigmnkaa", sum := "c83592deaf00a56b333d3f6ed45386fbce2f6a98f091a1b18163215bf7960657", func := "marquetry/marquetrylaw03.GcSteps", spec := "gcSteps", inPlace := ["slices.overlaps[int]", "slices.overlaps[marquetry/heap.run]"], unfollowed := true, recurses := true, apart := false }
def GcStepsSaid : Prop := gcStepsRow.holds Try.pinned (OpenSpec.ofChange gcStepsSpec)

/-- ITS FALSE NEIGHBOUR: 'it returns false'. Refute it at one input. -/
def gcStepsWrong : ChangeSpec := { name := "gcSteps", fn := fun _ => fun
  | [d1, d2, d3, d4] => { results := [.lit (.bool false)], args := [d1, d2, d3, d4] }
  | _ => none }
def GcStepsWrongFalsely : Prop := gcStepsRow.holds Try.pinned (OpenSpec.ofChange gcStepsWrong)

/-- 'marquetrylaw03.GcSafe': WHATEVER THE INPUT: true; the input reads as it did. -/
def gcSafeSpec : ChangeSpec := { name := "gcSafe", fn := fun _ => fun
  | [d1, d2] => { results := [.lit (.bool true)], args := [d1, d2] }
  | _ => none }
def gcSafeRow : OpenClaim := { program := "ytejpcidfigmnkaa", sum := "c83592deaf00a56b333d3f6ed45386fbce2f6a98f091a1b18163215bf7960657", func := "marquetry/marquetrylaw03.GcSafe", spec := "gcSafe", inPlace := ["slices.overlaps[int]", "slices.overlaps[marquetry/heap.run]"], unfollowed := true, recurses := true, apart := false }
def GcSafeSaid : Prop := gcSafeRow.holds Try.pinned (OpenSpec.ofChange gcSafeSpec)

/-- ITS FALSE NEIGHBOUR: 'it returns false'. Refute it at one input. -/
def gcSafeWrong : ChangeSpec := { name := "gcSafe", fn := fun _ => fun
  | [d1, d2] => { results := [.lit (.bool false)], args := [d1, d2] }
  | _ => none }
def GcSafeWrongFalsely : Prop := gcSafeRow.holds Try.pinned (OpenSpec.ofChange gcSafeWrong)

/- THE SECOND FORM. 'bulk': how many values and letters a reading holds, each counted each time it is reached (what is shared counts as often as it is met; a slice's spare places count too). A statement '..UptoSaid' is the law's where the arguments, and the package variables that the reading takes, are together of bulk at most 1048576: NARROWER than '..Said'. Prove '..Said' where nothing that the law and all that it calls make is longer than what came in: it says more and counts as full. Else prove '..UptoSaid'. A law counts once. -/
mutual
def uptoBulk {H : Type} : DataW H → Nat
  | .lit (.string bytes) => bytes.length + 1
  | .lit _ => 1
  | .nil => 1
  | .ptr d => uptoBulk d + 1
  | .slice elems spare => uptoBulkAll elems + uptoBulkAll spare + 1
  | .agg parts => uptoBulkAll parts + 1
  | .iface _ d => uptoBulk d + 1
  | .map entries => uptoBulkEntries entries + 1
  | .held _ => 1
def uptoBulkAll {H : Type} : List (DataW H) → Nat
  | [] => 0
  | d :: r => uptoBulk d + uptoBulkAll r
def uptoBulkEntries {H : Type} : List (Lit × DataW H) → Nat
  | [] => 0
  | x :: r => uptoBulkEntry x + uptoBulkEntries r
def uptoBulkEntry {H : Type} : Lit × DataW H → Nat
  | (.string bytes, d) => bytes.length + uptoBulk d + 1
  | (_, d) => uptoBulk d + 1
 end
def uptoSmall : (H : Type) → List (DataW H) → Bool := fun _ ds => decide (uptoBulkAll ds ≤ 1048576)
def OpenSpec.upto (s : _root_.Go.ChangeSpec) : _root_.Go.OpenSpec := { _root_.Go.OpenSpec.ofChange s with cond := some uptoSmall }

/-- 'marquetrylaw03.GcDoes', WHERE WHAT IT READS IS OF BULK AT MOST 1048576: true; the input reads as it did. -/
def gcDoesUptoRow : OpenClaim := { program := "ytejpcidfigmnkaa", sum := "c83592deaf00a56b333d3f6ed45386fbce2f6a98f091a1b18163215bf7960657", func := "marquetry/marquetrylaw03.GcDoes", spec := "gcDoes", inPlace := ["slices.overlaps[int]", "slices.overlaps[marquetry/heap.run]"], unfollowed := true, recurses := true, apart := false, narrowed := true }
def GcDoesUptoSaid : Prop := gcDoesUptoRow.holds Try.pinned (OpenSpec.upto gcDoesSpec)

/-- 'marquetrylaw03.GcKeeps', WHERE WHAT IT READS IS OF BULK AT MOST 1048576: true; the input reads as it did. -/
def gcKeepsUptoRow : OpenClaim := { program := "ytejpcidfigmnkaa", sum := "c83592deaf00a56b333d3f6ed45386fbce2f6a98f091a1b18163215bf7960657", func := "marquetry/marquetrylaw03.GcKeeps", spec := "gcKeeps", inPlace := ["slices.overlaps[int]", "slices.overlaps[marquetry/heap.run]"], unfollowed := true, recurses := true, apart := false, narrowed := true }
def GcKeepsUptoSaid : Prop := gcKeepsUptoRow.holds Try.pinned (OpenSpec.upto gcKeepsSpec)

/-- 'marquetrylaw03.GcFrees', WHERE WHAT IT READS IS OF BULK AT MOST 1048576: true; the input reads as it did. -/
def gcFreesUptoRow : OpenClaim := { program := "ytejpcidfigmnkaa", sum := "c83592deaf00a56b333d3f6ed45386fbce2f6a98f091a1b18163215bf7960657", func := "marquetry/marquetrylaw03.GcFrees", spec := "gcFrees", inPlace := ["slices.overlaps[int]", "slices.overlaps[marquetry/heap.run]"], unfollowed := true, recurses := true, apart := false, narrowed := true }
def GcFreesUptoSaid : Prop := gcFreesUptoRow.holds Try.pinned (OpenSpec.upto gcFreesSpec)

/-- 'marquetrylaw03.GcSteps', WHERE WHAT IT READS IS OF BULK AT MOST 1048576: true; the input reads as it did. -/
def gcStepsUptoRow : OpenClaim := { program := "ytejpcidfigmnkaa", sum := "c83592deaf00a56b333d3f6ed45386fbce2f6a98f091a1b18163215bf7960657", func := "marquetry/marquetrylaw03.GcSteps", spec := "gcSteps", inPlace := ["slices.overlaps[int]", "slices.overlaps[marquetry/heap.run]"], unfollowed := true, recurses := true, apart := false, narrowed := true }
def GcStepsUptoSaid : Prop := gcStepsUptoRow.holds Try.pinned (OpenSpec.upto gcStepsSpec)

/-- 'marquetrylaw03.GcSafe', WHERE WHAT IT READS IS OF BULK AT MOST 1048576: true; the input reads as it did. -/
def gcSafeUptoRow : OpenClaim := { program := "ytejpcidfigmnkaa", sum := "c83592deaf00a56b333d3f6ed45386fbce2f6a98f091a1b18163215bf7960657", func := "marquetry/marquetrylaw03.GcSafe", spec := "gcSafe", inPlace := ["slices.overlaps[int]", "slices.overlaps[marquetry/heap.run]"], unfollowed := true, recurses := true, apart := false, narrowed := true }
def GcSafeUptoSaid : Prop := gcSafeUptoRow.holds Try.pinned (OpenSpec.upto gcSafeSpec)

end Rows
end Go.Proofs.Ytejpcidfigmnkaa
