/-
  No cell of these rows narrows 'for every input' (looked for: loops, veiled, ifaces, maps, wideKeys, modest, calm, conditions, laid).
  DERIVED. THE GIVEN ROWS OF THIS SEAT. 4 by the template 'for every input the law returns true; each argument reads behind the call as it read before'; 0 by the template 'total and deterministic' (their statements: YthabnmnhmioheaaTotals.lean).
  GIVEN WITH THE SEED: the statements are not yours to turn. If you find one false, say at which input.
  Laid BY PROGRAM, IN A SANDBOX (cutbox-rows.mjs): the forced cells as the released guide's own fill.sh prints them over the translation 8804addf3026a07a… (all of the seat's roots in one cut). By AI agents, Wed Nov 11 2026. No macro, syntax, notation, axiom, sorry.
-/
import Derived.Test.YthabnmnhmioheaaChecked
import GoSem.Claim
import GoSem.ClaimJoined
import GoSem.ClaimMapViews
import Derived.JoinedTies
import Derived.KernelRfl
namespace Go.Proofs.Ythabnmnhmioheaa
/- THE CELL 'sum', in the pinned program and in every row, IS THE sha256 OF THE DUMP (.gsa) THAT YthabnmnhmioheaaProg.lean LOADS. Nothing in Lean hashes anything: it is a label: what it is worth is what the hold of that sum in a sandbox is worth. -/
noncomputable def Try.pinned : Pinned := { name := "ythabnmnhmioheaa", sum := "8804addf3026a07ac48472ba7924200ad96cf58c057c892f1a22997d13c8237f", checked := Try.checked }
namespace Rows
def none {H : Type} : Left H := { results := [], args := [] }

/-- 'vetchlaw17.LimitTimes': WHATEVER THE INPUT: true; the input reads as it did. -/
def limitTimesSpec : ChangeSpec := { name := "limitTimes", fn := fun _ => fun
  | [d] => { results := [.lit (.bool true)], args := [d] }
  | _ => none }
def limitTimesRow : OpenClaim := { program := "ythabnmnhmioheaa", sum := "8804addf3026a07ac48472ba7924200ad96cf58c057c892f1a22997d13c8237f", func := "vetch/vetchlaw17.LimitTimes", spec := "limitTimes", apart := false }
def LimitTimesSaid : Prop := limitTimesRow.holds Try.pinned (OpenSpec.ofChange limitTimesSpec)

/-- ITS FALSE NEIGHBOUR: 'it returns false'. Refute it at one input. -/
def limitTimesWrong : ChangeSpec := { name := "limitTimes", fn := fun _ => fun
  | [d] => { results := [.lit (.bool false)], args := [d] }
  | _ => none }
def LimitTimesWrongFalsely : Prop := limitTimesRow.holds Try.pinned (OpenSpec.ofChange limitTimesWrong)

/-- 'vetchlaw17.LimitCovers': WHATEVER THE INPUT: true; the input reads as it did. -/
def limitCoversSpec : ChangeSpec := { name := "limitCovers", fn := fun _ => fun
  | [d1, d2] => { results := [.lit (.bool true)], args := [d1, d2] }
  | _ => none }
def limitCoversRow : OpenClaim := { program := "ythabnmnhmioheaa", sum := "8804addf3026a07ac48472ba7924200ad96cf58c057c892f1a22997d13c8237f", func := "vetch/vetchlaw17.LimitCovers", spec := "limitCovers", apart := false }
def LimitCoversSaid : Prop := limitCoversRow.holds Try.pinned (OpenSpec.ofChange limitCoversSpec)

/-- ITS FALSE NEIGHBOUR: 'it returns false'. Refute it at one input. -/
def limitCoversWrong : ChangeSpec := { name := "limitCovers", fn := fun _ => fun
  | [d1, d2] => { results := [.lit (.bool false)], args := [d1, d2] }
  | _ => none }
def LimitCoversWrongFalsely : Prop := limitCoversRow.holds Try.pinned (OpenSpec.ofChange limitCoversWrong)

/-- 'vetchlaw17.LimitRises': WHATEVER THE INPUT: true; the input reads as it did. -/
def limitRisesSpec : ChangeSpec := { name := "limitRises", fn := fun _ => fun
  | [d1, d2, d3, d4] => { results := [.lit (.bool true)], args := [d1, d2, d3, d4] }
  | _ => none }
def limitRisesRow : OpenClaim := { program := "ythabnmnhmioheaa", sum := "8804addf3026a07ac48472ba7924200ad96cf58c057c892f1a22997d13c8237f", func := "vetch/vetchlaw17.LimitRises", spec := "limitRises", apart := false }
def LimitRisesSaid : Prop := limitRisesRow.holds Try.pinned (OpenSpec.ofChange limitRisesSpec)

/-- ITS FALSE NEIGHBOUR: 'it returns false'. Refute it at one input. -/
def limitRisesWrong : ChangeSpec := { name := "limitRises", fn := fun _ => fun
  | [d1, d2, d3, d4] => { results := [.lit (.bool false)], args := [d1, d2, d3, d4] }
  | _ => none }
def LimitRisesWrongFalsely : Prop := limitRisesRow.holds Try.pinned (OpenSpec.ofChange limitRisesWrong)

/-- 'vetchlaw17.LimitOrders': WHATEVER THE INPUT: true; the input reads as it did. -/
def limitOrdersSpec : ChangeSpec := { name := "limitOrders", fn := fun _ => fun
  | [d1, d2, d3] => { results := [.lit (.bool true)], args := [d1, d2, d3] }
  | _ => none }
def limitOrdersRow : OpenClaim := { program := "ythabnmnhmioheaa", sum := "8804addf3026a07ac48472ba7924200ad96cf58c057c892f1a22997d13c8237f", func := "vetch/vetchlaw17.LimitOrders", spec := "limitOrders", apart := false }
def LimitOrdersSaid : Prop := limitOrdersRow.holds Try.pinned (OpenSpec.ofChange limitOrdersSpec)

/-- ITS FALSE NEIGHBOUR: 'it returns false'. Refute it at one input. -/
def limitOrdersWrong : ChangeSpec := { name := "limitOrders", fn := fun _ => fun
  | [d1, d2, d3] => { results := [.lit (.bool false)], args := [d1, d2, d3] }
  | _ => none }
def LimitOrdersWrongFalsely : Prop := limitOrdersRow.holds Try.pinned (OpenSpec.ofChange limitOrdersWrong)

/- THE SECOND FORM. 'bulk': how many values and letters a reading holds, each counted each time it is reached (what is shared counts as often as it is met; a slice's spare places count too). A statement '..UptoSaid' is the law's where the arguments, and the package variables that the reading takes, are together of bulk at most 1048576: NARROWER than '..Said'. Prove '..Said' where nothing that the law and all that it calls make is longer than what came in: it says more and counts as full. Else prove '..UptoSaid'. A law counts once. -/
mutual
def uptoBulk {H : Type} : DataW H → Nat
  | .lit (.string bytes) => bytes.length + 1
  | .lit _ => 1
  | .nil => 1
  | .ptr d => uptoBulk d + 1
  | .slice elems spare => uptoBulkAll elems + uptoBulkAll spare + 1
  | .agg parts => uptoBulkAll parts + 1
  | .iface _ d => uptoBulk d + 1
  | .map entries => uptoBulkEntries entries + 1
  | .held _ => 1
def uptoBulkAll {H : Type} : List (DataW H) → Nat
  | [] => 0
  | d :: r => uptoBulk d + uptoBulkAll r
def uptoBulkEntries {H : Type} : List (Lit × DataW H) → Nat
  | [] => 0
  | x :: r => uptoBulkEntry x + uptoBulkEntries r
def uptoBulkEntry {H : Type} : Lit × DataW H → Nat
  | (.string bytes, d) => bytes.length + uptoBulk d + 1
  | (_, d) => uptoBulk d + 1
 end
def uptoSmall : (H : Type) → List (DataW H) → Bool := fun _ ds => decide (uptoBulkAll ds ≤ 1048576)
def OpenSpec.upto (s : _root_.Go.ChangeSpec) : _root_.Go.OpenSpec := { _root_.Go.OpenSpec.ofChange s with cond := some uptoSmall }

/-- 'vetchlaw17.LimitTimes', WHERE WHAT IT READS IS OF BULK AT MOST 1048576: true; the input reads as it did. -/
def limitTimesUptoRow : OpenClaim := { program := "ythabnmnhmioheaa", sum := "8804addf3026a07ac48472ba7924200ad96cf58c057c892f1a22997d13c8237f", func := "vetch/vetchlaw17.LimitTimes", spec := "limitTimes", apart := false, narrowed := true }
def LimitTimesUptoSaid : Prop := limitTimesUptoRow.holds Try.pinned (OpenSpec.upto limitTimesSpec)

/-- 'vetchlaw17.LimitCovers', WHERE WHAT IT READS IS OF BULK AT MOST 1048576: true; the input reads as it did. -/
def limitCoversUptoRow : OpenClaim := { program := "ythabnmnhmioheaa", sum := "8804addf3026a07ac48472ba7924200ad96cf58c057c892f1a22997d13c8237f", func := "vetch/vetchlaw17.LimitCovers", spec := "limitCovers", apart := false, narrowed := true }
def LimitCoversUptoSaid : Prop := limitCoversUptoRow.holds Try.pinned (OpenSpec.upto limitCoversSpec)

/-- 'vetchlaw17.LimitRises', WHERE WHAT IT READS IS OF BULK AT MOST 1048576: true; the input reads as it did. -/
def limitRisesUptoRow : OpenClaim := { program := "ythabnmnhmioheaa", sum := "8804addf3026a07ac48472ba7924200ad96cf58c057c892f1a22997d13c8237f", func := "vetch/vetchlaw17.LimitRises", spec := "limitRises", apart := false, narrowed := true }
def LimitRisesUptoSaid : Prop := limitRisesUptoRow.holds Try.pinned (OpenSpec.upto limitRisesSpec)

/-- 'vetchlaw17.LimitOrders', WHERE WHAT IT READS IS OF BULK AT MOST 1048576: true; the input reads as it did. -/
def limitOrdersUptoRow : OpenClaim := { program := "ythabnmnhmioheaa", sum := "8804addf3026a07ac48472ba7924200ad96cf58c057c892f1a22997d13c8237f", func := "vetch/vetchlaw17.LimitOrders", spec := "limitOrders", apart := false, narrowed := true }
def LimitOrdersUptoSaid : Prop := limitOrdersUptoRow.holds Try.pinned (OpenSpec.upto limitOrdersSpec)

end Rows
end Go.Proofs.Ythabnmnhmioheaa
