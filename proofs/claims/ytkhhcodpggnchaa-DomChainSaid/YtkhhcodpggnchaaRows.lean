/-
  No cell of these rows narrows 'for every input' (looked for: loops, veiled, ifaces, maps, wideKeys, modest, calm, conditions, laid).
  DERIVED. THE GIVEN ROWS OF THIS SEAT. 5 by the template 'for every input the law returns true; each argument reads behind the call as it read before'; 0 by the template 'total and deterministic' (their statements: YtkhhcodpggnchaaTotals.lean).
  GIVEN WITH THE SEED: the statements are not yours to turn. If you find one false, say at which input.
  Laid BY PROGRAM, IN A SANDBOX (cutbox-rows.mjs): the forced cells as the released guide's own fill.sh prints them over the translation 03e93af4b4501ae7… (all of the seat's roots in one cut). By AI agents, Wed Nov 11 2026. No macro, syntax, notation, axiom, sorry.
-/
import Derived.Test.YtkhhcodpggnchaaChecked
import GoSem.Claim
import GoSem.ClaimJoined
import GoSem.ClaimMapViews
import Derived.JoinedTies
import Derived.KernelRfl
namespace Go.Proofs.Ytkhhcodpggnchaa
/- THE CELL 'sum', in the pinned program and in every row, IS THE sha256 OF THE DUMP (.gsa) THAT YtkhhcodpggnchaaProg.lean LOADS. Nothing in Lean hashes anything: it is a label: what it is worth is what the hold of that sum in a sandbox is worth. -/
noncomputable def Try.pinned : Pinned := { name := "ytkhhcodpggnchaa", sum := "03e93af4b4501ae7e35f2d52b8a736b099373469f4b0179719c5d817d04b0de8", checked := Try.checked }
namespace Rows
def none {H : Type} : Left H := { results := [], args := [] }

/-- 'marquetrylaw16.DomTree': WHATEVER THE INPUT: true; the input reads as it did. -/
def domTreeSpec : ChangeSpec := { name := "domTree", fn := fun _ => fun
  | [d] => { results := [.lit (.bool true)], args := [d] }
  | _ => none }
def domTreeRow : OpenClaim := { program := "ytkhhcodpggnchaa", sum := "03e93af4b4501ae7e35f2d52b8a736b099373469f4b0179719c5d817d04b0de8", func := "marquetry/marquetrylaw16.DomTree", spec := "domTree", unfollowed := true, recurses := true, apart := false }
def DomTreeSaid : Prop := domTreeRow.holds Try.pinned (OpenSpec.ofChange domTreeSpec)

/-- ITS FALSE NEIGHBOUR: 'it returns false'. Refute it at one input. -/
def domTreeWrong : ChangeSpec := { name := "domTree", fn := fun _ => fun
  | [d] => { results := [.lit (.bool false)], args := [d] }
  | _ => none }
def DomTreeWrongFalsely : Prop := domTreeRow.holds Try.pinned (OpenSpec.ofChange domTreeWrong)

/-- 'marquetrylaw16.DomRules': WHATEVER THE INPUT: true; the input reads as it did. -/
def domRulesSpec : ChangeSpec := { name := "domRules", fn := fun _ => fun
  | [d1, d2, d3] => { results := [.lit (.bool true)], args := [d1, d2, d3] }
  | _ => none }
def domRulesRow : OpenClaim := { program := "ytkhhcodpggnchaa", sum := "03e93af4b4501ae7e35f2d52b8a736b099373469f4b0179719c5d817d04b0de8", func := "marquetry/marquetrylaw16.DomRules", spec := "domRules", unfollowed := true, recurses := true, apart := false }
def DomRulesSaid : Prop := domRulesRow.holds Try.pinned (OpenSpec.ofChange domRulesSpec)

/-- ITS FALSE NEIGHBOUR: 'it returns false'. Refute it at one input. -/
def domRulesWrong : ChangeSpec := { name := "domRules", fn := fun _ => fun
  | [d1, d2, d3] => { results := [.lit (.bool false)], args := [d1, d2, d3] }
  | _ => none }
def DomRulesWrongFalsely : Prop := domRulesRow.holds Try.pinned (OpenSpec.ofChange domRulesWrong)

/-- 'marquetrylaw16.DomEdges': WHATEVER THE INPUT: true; the input reads as it did. -/
def domEdgesSpec : ChangeSpec := { name := "domEdges", fn := fun _ => fun
  | [d] => { results := [.lit (.bool true)], args := [d] }
  | _ => none }
def domEdgesRow : OpenClaim := { program := "ytkhhcodpggnchaa", sum := "03e93af4b4501ae7e35f2d52b8a736b099373469f4b0179719c5d817d04b0de8", func := "marquetry/marquetrylaw16.DomEdges", spec := "domEdges", unfollowed := true, recurses := true, apart := false }
def DomEdgesSaid : Prop := domEdgesRow.holds Try.pinned (OpenSpec.ofChange domEdgesSpec)

/-- ITS FALSE NEIGHBOUR: 'it returns false'. Refute it at one input. -/
def domEdgesWrong : ChangeSpec := { name := "domEdges", fn := fun _ => fun
  | [d] => { results := [.lit (.bool false)], args := [d] }
  | _ => none }
def DomEdgesWrongFalsely : Prop := domEdgesRow.holds Try.pinned (OpenSpec.ofChange domEdgesWrong)

/-- 'marquetrylaw16.DomMore': WHATEVER THE INPUT: true; the input reads as it did. -/
def domMoreSpec : ChangeSpec := { name := "domMore", fn := fun _ => fun
  | [d1, d2, d3] => { results := [.lit (.bool true)], args := [d1, d2, d3] }
  | _ => none }
def domMoreRow : OpenClaim := { program := "ytkhhcodpggnchaa", sum := "03e93af4b4501ae7e35f2d52b8a736b099373469f4b0179719c5d817d04b0de8", func := "marquetry/marquetrylaw16.DomMore", spec := "domMore", unfollowed := true, recurses := true, apart := false }
def DomMoreSaid : Prop := domMoreRow.holds Try.pinned (OpenSpec.ofChange domMoreSpec)

/-- ITS FALSE NEIGHBOUR: 'it returns false'. Refute it at one input. -/
def domMoreWrong : ChangeSpec := { name := "domMore", fn := fun _ => fun
  | [d1, d2, d3] => { results := [.lit (.bool false)], args := [d1, d2, d3] }
  | _ => none }
def DomMoreWrongFalsely : Prop := domMoreRow.holds Try.pinned (OpenSpec.ofChange domMoreWrong)

/-- 'marquetrylaw16.DomChain': WHATEVER THE INPUT: true; the input reads as it did. -/
def domChainSpec : ChangeSpec := { name := "domChain", fn := fun _ => fun
  | [d1, d2] => { results := [.lit (.bool true)], args := [d1, d2] }
  | _ => none }
def domChainRow : OpenClaim := { program := "ytkhhcodpggnchaa", sum := "03e93af4b4501ae7e35f2d52b8a736b099373469f4b0179719c5d817d04b0de8", func := "marquetry/marquetrylaw16.DomChain", spec := "domChain", unfollowed := true, recurses := true, apart := false }
def DomChainSaid : Prop := domChainRow.holds Try.pinned (OpenSpec.ofChange domChainSpec)

/-- ITS FALSE NEIGHBOUR: 'it returns false'. Refute it at one input. -/
def domChainWrong : ChangeSpec := { name := "domChain", fn := fun _ => fun
  | [d1, d2] => { results := [.lit (.bool false)], args := [d1, d2] }
  | _ => none }
def DomChainWrongFalsely : Prop := domChainRow.holds Try.pinned (OpenSpec.ofChange domChainWrong)

/- THE SECOND FORM. 'bulk': how many values and letters a reading holds, each counted each time it is reached (what is shared counts as often as it is met; a slice's spare places count too). A statement '..UptoSaid' is the law's where the arguments, and the package variables that the reading takes, are together of bulk at most 1048576: NARROWER than '..Said'. Prove '..Said' where nothing that the law and all that it calls make is longer than what came in: it says more and counts as full. Else prove '..UptoSaid'. A law counts once. -/
mutual
def uptoBulk {H : Type} : DataW H → Nat
  | .lit (.string bytes) => bytes.length + 1
  | .lit _ => 1
  | .nil => 1
  | .ptr d => uptoBulk d + 1
  | .slice elems spare => uptoBulkAll elems + uptoBulkAll spare + 1
  | .agg parts => uptoBulkAll parts + 1
  | .iface _ d => uptoBulk d + 1
  | .map entries => uptoBulkEntries entries + 1
  | .held _ => 1
def uptoBulkAll {H : Type} : List (DataW H) → Nat
  | [] => 0
  | d :: r => uptoBulk d + uptoBulkAll r
def uptoBulkEntries {H : Type} : List (Lit × DataW H) → Nat
  | [] => 0
  | x :: r => uptoBulkEntry x + uptoBulkEntries r
def uptoBulkEntry {H : Type} : Lit × DataW H → Nat
  | (.string bytes, d) => bytes.length + uptoBulk d + 1
  | (_, d) => uptoBulk d + 1
 end
def uptoSmall : (H : Type) → List (DataW H) → Bool := fun _ ds => decide (uptoBulkAll ds ≤ 1048576)
def OpenSpec.upto (s : _root_.Go.ChangeSpec) : _root_.Go.OpenSpec := { _root_.Go.OpenSpec.ofChange s with cond := some uptoSmall }

/-- 'marquetrylaw16.DomTree', WHERE WHAT IT READS IS OF BULK AT MOST 1048576: true; the input reads as it did. -/
def domTreeUptoRow : OpenClaim := { program := "ytkhhcodpggnchaa", sum := "03e93af4b4501ae7e35f2d52b8a736b099373469f4b0179719c5d817d04b0de8", func := "marquetry/marquetrylaw16.DomTree", spec := "domTree", unfollowed := true, recurses := true, apart := false, narrowed := true }
def DomTreeUptoSaid : Prop := domTreeUptoRow.holds Try.pinned (OpenSpec.upto domTreeSpec)

/-- 'marquetrylaw16.DomRules', WHERE WHAT IT READS IS OF BULK AT MOST 1048576: true; the input reads as it did. -/
def domRulesUptoRow : OpenClaim := { program := "ytkhhcodpggnchaa", sum := "03e93af4b4501ae7e35f2d52b8a736b099373469f4b0179719c5d817d04b0de8", func := "marquetry/marquetrylaw16.DomRules", spec := "domRules", unfollowed := true, recurses := true, apart := false, narrowed := true }
def DomRulesUptoSaid : Prop := domRulesUptoRow.holds Try.pinned (OpenSpec.upto domRulesSpec)

/-- 'marquetrylaw16.DomEdges', WHERE WHAT IT READS IS OF BULK AT MOST 1048576: true; the input reads as it did. -/
def domEdgesUptoRow : OpenClaim := { program := "ytkhhcodpggnchaa", sum := "03e93af4b4501ae7e35f2d52b8a736b099373469f4b0179719c5d817d04b0de8", func := "marquetry/marquetrylaw16.DomEdges", spec := "domEdges", unfollowed := true, recurses := true, apart := false, narrowed := true }
def DomEdgesUptoSaid : Prop := domEdgesUptoRow.holds Try.pinned (OpenSpec.upto domEdgesSpec)

/-- 'marquetrylaw16.DomMore', WHERE WHAT IT READS IS OF BULK AT MOST 1048576: true; the input reads as it did. -/
def domMoreUptoRow : OpenClaim := { program := "ytkhhcodpggnchaa", sum := "03e93af4b4501ae7e35f2d52b8a736b099373469f4b0179719c5d817d04b0de8", func := "marquetry/marquetrylaw16.DomMore", spec := "domMore", unfollowed := true, recurses := true, apart := false, narrowed := true }
def DomMoreUptoSaid : Prop := domMoreUptoRow.holds Try.pinned (OpenSpec.upto domMoreSpec)

/-- 'marquetrylaw16.DomChain', WHERE WHAT IT READS IS OF BULK AT MOST 1048576: true; the input reads as it did. -/
def domChainUptoRow : OpenClaim := { program := "ytkhhcodpggnchaa", sum := "03e93af4b4501ae7e35f2d52b8a736b099373469f4b0179719c5d817d04b0de8", func := "marquetry/marquetrylaw16.DomChain", spec := "domChain", unfollowed := true, recurses := true, apart := false, narrowed := true }
def DomChainUptoSaid : Prop := domChainUptoRow.holds Try.pinned (OpenSpec.upto domChainSpec)

end Rows
end Go.Proofs.Ytkhhcodpggnchaa
