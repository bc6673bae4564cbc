/-
  No cell of these rows narrows 'for every input' (looked for: loops, veiled, ifaces, maps, wideKeys, modest, calm, conditions, laid).
  DERIVED. THE GIVEN ROWS OF THIS SEAT. 6 by the template 'for every input the law returns true; each argument reads behind the call as it read before'; 0 by the template 'total and deterministic' (their statements: YthgedejnpgcacaaTotals.lean).
  GIVEN WITH THE SEED: the statements are not yours to turn. If you find one false, say at which input.
  Laid BY PROGRAM, IN A SANDBOX (cutbox-rows.mjs): the forced cells as the released guide's own fill.sh prints them over the translation 18c482ef6ff70b6b… (all of the seat's roots in one cut). By AI agents, Wed Nov 11 2026. No macro, syntax, notation, axiom, sorry.
-/
import Derived.Test.YthgedejnpgcacaaChecked
import GoSem.Claim
import GoSem.ClaimJoined
import GoSem.ClaimMapViews
import Derived.JoinedTies
import Derived.KernelRfl
namespace Go.Proofs.Ythgedejnpgcacaa
/- THE CELL 'sum', in the pinned program and in every row, IS THE sha256 OF THE DUMP (.gsa) THAT YthgedejnpgcacaaProg.lean LOADS. Nothing in Lean hashes anything: it is a label: what it is worth is what the hold of that sum in a sandbox is worth. -/
noncomputable def Try.pinned : Pinned := { name := "ythgedejnpgcacaa", sum := "18c482ef6ff70b6b6fc502f9685849b5c17416784bb5e5feffb68e919169601f", checked := Try.checked }
namespace Rows
def none {H : Type} : Left H := { results := [], args := [] }

/-- 'vetchlaw18.NaiveMatchesReference': WHATEVER THE INPUT: true; the input reads as it did. -/
def naiveMatchesReferenceSpec : ChangeSpec := { name := "naiveMatchesReference", fn := fun _ => fun
  | [d1, d2, d3, d4] => { results := [.lit (.bool true)], args := [d1, d2, d3, d4] }
  | _ => none }
def naiveMatchesReferenceRow : OpenClaim := { program := "ythgedejnpgcacaa", sum := "18c482ef6ff70b6b6fc502f9685849b5c17416784bb5e5feffb68e919169601f", func := "vetch/vetchlaw18.NaiveMatchesReference", spec := "naiveMatchesReference", unfollowed := true, recurses := true, apart := false }
def NaiveMatchesReferenceSaid : Prop := naiveMatchesReferenceRow.holds Try.pinned (OpenSpec.ofChange naiveMatchesReferenceSpec)

/-- ITS FALSE NEIGHBOUR: 'it returns false'. Refute it at one input. -/
def naiveMatchesReferenceWrong : ChangeSpec := { name := "naiveMatchesReference", fn := fun _ => fun
  | [d1, d2, d3, d4] => { results := [.lit (.bool false)], args := [d1, d2, d3, d4] }
  | _ => none }
def NaiveMatchesReferenceWrongFalsely : Prop := naiveMatchesReferenceRow.holds Try.pinned (OpenSpec.ofChange naiveMatchesReferenceWrong)

/-- 'vetchlaw18.NaiveFuel': WHATEVER THE INPUT: true; the input reads as it did. -/
def naiveFuelSpec : ChangeSpec := { name := "naiveFuel", fn := fun _ => fun
  | [d1, d2, d3, d4] => { results := [.lit (.bool true)], args := [d1, d2, d3, d4] }
  | _ => none }
def naiveFuelRow : OpenClaim := { program := "ythgedejnpgcacaa", sum := "18c482ef6ff70b6b6fc502f9685849b5c17416784bb5e5feffb68e919169601f", func := "vetch/vetchlaw18.NaiveFuel", spec := "naiveFuel", unfollowed := true, recurses := true, apart := false }
def NaiveFuelSaid : Prop := naiveFuelRow.holds Try.pinned (OpenSpec.ofChange naiveFuelSpec)

/-- ITS FALSE NEIGHBOUR: 'it returns false'. Refute it at one input. -/
def naiveFuelWrong : ChangeSpec := { name := "naiveFuel", fn := fun _ => fun
  | [d1, d2, d3, d4] => { results := [.lit (.bool false)], args := [d1, d2, d3, d4] }
  | _ => none }
def NaiveFuelWrongFalsely : Prop := naiveFuelRow.holds Try.pinned (OpenSpec.ofChange naiveFuelWrong)

/-- 'vetchlaw18.NaiveCosts': WHATEVER THE INPUT: true; the input reads as it did. -/
def naiveCostsSpec : ChangeSpec := { name := "naiveCosts", fn := fun _ => fun
  | [d1, d2, d3] => { results := [.lit (.bool true)], args := [d1, d2, d3] }
  | _ => none }
def naiveCostsRow : OpenClaim := { program := "ythgedejnpgcacaa", sum := "18c482ef6ff70b6b6fc502f9685849b5c17416784bb5e5feffb68e919169601f", func := "vetch/vetchlaw18.NaiveCosts", spec := "naiveCosts", unfollowed := true, recurses := true, apart := false }
def NaiveCostsSaid : Prop := naiveCostsRow.holds Try.pinned (OpenSpec.ofChange naiveCostsSpec)

/-- ITS FALSE NEIGHBOUR: 'it returns false'. Refute it at one input. -/
def naiveCostsWrong : ChangeSpec := { name := "naiveCosts", fn := fun _ => fun
  | [d1, d2, d3] => { results := [.lit (.bool false)], args := [d1, d2, d3] }
  | _ => none }
def NaiveCostsWrongFalsely : Prop := naiveCostsRow.holds Try.pinned (OpenSpec.ofChange naiveCostsWrong)

/-- 'vetchlaw18.NaiveEnds': WHATEVER THE INPUT: true; the input reads as it did. -/
def naiveEndsSpec : ChangeSpec := { name := "naiveEnds", fn := fun _ => fun
  | [d1, d2, d3, d4] => { results := [.lit (.bool true)], args := [d1, d2, d3, d4] }
  | _ => none }
def naiveEndsRow : OpenClaim := { program := "ythgedejnpgcacaa", sum := "18c482ef6ff70b6b6fc502f9685849b5c17416784bb5e5feffb68e919169601f", func := "vetch/vetchlaw18.NaiveEnds", spec := "naiveEnds", unfollowed := true, recurses := true, apart := false }
def NaiveEndsSaid : Prop := naiveEndsRow.holds Try.pinned (OpenSpec.ofChange naiveEndsSpec)

/-- ITS FALSE NEIGHBOUR: 'it returns false'. Refute it at one input. -/
def naiveEndsWrong : ChangeSpec := { name := "naiveEnds", fn := fun _ => fun
  | [d1, d2, d3, d4] => { results := [.lit (.bool false)], args := [d1, d2, d3, d4] }
  | _ => none }
def NaiveEndsWrongFalsely : Prop := naiveEndsRow.holds Try.pinned (OpenSpec.ofChange naiveEndsWrong)

/-- 'vetchlaw18.NaiveFacts': WHATEVER THE INPUT: true; the input reads as it did. -/
def naiveFactsSpec : ChangeSpec := { name := "naiveFacts", fn := fun _ => fun
  | [d1, d2, d3, d4] => { results := [.lit (.bool true)], args := [d1, d2, d3, d4] }
  | _ => none }
def naiveFactsRow : OpenClaim := { program := "ythgedejnpgcacaa", sum := "18c482ef6ff70b6b6fc502f9685849b5c17416784bb5e5feffb68e919169601f", func := "vetch/vetchlaw18.NaiveFacts", spec := "naiveFacts", unfollowed := true, recurses := true, apart := false }
def NaiveFactsSaid : Prop := naiveFactsRow.holds Try.pinned (OpenSpec.ofChange naiveFactsSpec)

/-- ITS FALSE NEIGHBOUR: 'it returns false'. Refute it at one input. -/
def naiveFactsWrong : ChangeSpec := { name := "naiveFacts", fn := fun _ => fun
  | [d1, d2, d3, d4] => { results := [.lit (.bool false)], args := [d1, d2, d3, d4] }
  | _ => none }
def NaiveFactsWrongFalsely : Prop := naiveFactsRow.holds Try.pinned (OpenSpec.ofChange naiveFactsWrong)

/-- 'vetchlaw18.NaiveEnough': WHATEVER THE INPUT: true; the input reads as it did. -/
def naiveEnoughSpec : ChangeSpec := { name := "naiveEnough", fn := fun _ => fun
  | [d1, d2] => { results := [.lit (.bool true)], args := [d1, d2] }
  | _ => none }
def naiveEnoughRow : OpenClaim := { program := "ythgedejnpgcacaa", sum := "18c482ef6ff70b6b6fc502f9685849b5c17416784bb5e5feffb68e919169601f", func := "vetch/vetchlaw18.NaiveEnough", spec := "naiveEnough", unfollowed := true, recurses := true, apart := false }
def NaiveEnoughSaid : Prop := naiveEnoughRow.holds Try.pinned (OpenSpec.ofChange naiveEnoughSpec)

/-- ITS FALSE NEIGHBOUR: 'it returns false'. Refute it at one input. -/
def naiveEnoughWrong : ChangeSpec := { name := "naiveEnough", fn := fun _ => fun
  | [d1, d2] => { results := [.lit (.bool false)], args := [d1, d2] }
  | _ => none }
def NaiveEnoughWrongFalsely : Prop := naiveEnoughRow.holds Try.pinned (OpenSpec.ofChange naiveEnoughWrong)

/- THE SECOND FORM. 'bulk': how many values and letters a reading holds, each counted each time it is reached (what is shared counts as often as it is met; a slice's spare places count too). A statement '..UptoSaid' is the law's where the arguments, and the package variables that the reading takes, are together of bulk at most 1048576: NARROWER than '..Said'. Prove '..Said' where nothing that the law and all that it calls make is longer than what came in: it says more and counts as full. Else prove '..UptoSaid'. A law counts once. -/
mutual
def uptoBulk {H : Type} : DataW H → Nat
  | .lit (.string bytes) => bytes.length + 1
  | .lit _ => 1
  | .nil => 1
  | .ptr d => uptoBulk d + 1
  | .slice elems spare => uptoBulkAll elems + uptoBulkAll spare + 1
  | .agg parts => uptoBulkAll parts + 1
  | .iface _ d => uptoBulk d + 1
  | .map entries => uptoBulkEntries entries + 1
  | .held _ => 1
def uptoBulkAll {H : Type} : List (DataW H) → Nat
  | [] => 0
  | d :: r => uptoBulk d + uptoBulkAll r
def uptoBulkEntries {H : Type} : List (Lit × DataW H) → Nat
  | [] => 0
  | x :: r => uptoBulkEntry x + uptoBulkEntries r
def uptoBulkEntry {H : Type} : Lit × DataW H → Nat
  | (.string bytes, d) => bytes.length + uptoBulk d + 1
  | (_, d) => uptoBulk d + 1
 end
def uptoSmall : (H : Type) → List (DataW H) → Bool := fun _ ds => decide (uptoBulkAll ds ≤ 1048576)
def OpenSpec.upto (s : _root_.Go.ChangeSpec) : _root_.Go.OpenSpec := { _root_.Go.OpenSpec.ofChange s with cond := some uptoSmall }

/-- 'vetchlaw18.NaiveMatchesReference', WHERE WHAT IT READS IS OF BULK AT MOST 1048576: true; the input reads as it did. -/
def naiveMatchesReferenceUptoRow : OpenClaim := { program := "ythgedejnpgcacaa", sum := "18c482ef6ff70b6b6fc502f9685849b5c17416784bb5e5feffb68e919169601f", func := "vetch/vetchlaw18.NaiveMatchesReference", spec := "naiveMatchesReference", unfollowed := true, recurses := true, apart := false, narrowed := true }
def NaiveMatchesReferenceUptoSaid : Prop := naiveMatchesReferenceUptoRow.holds Try.pinned (OpenSpec.upto naiveMatchesReferenceSpec)

/-- 'vetchlaw18.NaiveFuel', WHERE WHAT IT READS IS OF BULK AT MOST 1048576: true; the input reads as it did. -/
def naiveFuelUptoRow : OpenClaim := { program := "ythgedejnpgcacaa", sum := "18c482ef6ff70b6b6fc502f9685849b5c17416784bb5e5feffb68e919169601f", func := "vetch/vetchlaw18.NaiveFuel", spec := "naiveFuel", unfollowed := true, recurses := true, apart := false, narrowed := true }
def NaiveFuelUptoSaid : Prop := naiveFuelUptoRow.holds Try.pinned (OpenSpec.upto naiveFuelSpec)

/-- 'vetchlaw18.NaiveCosts', WHERE WHAT IT READS IS OF BULK AT MOST 1048576: true; the input reads as it did. -/
def naiveCostsUptoRow : OpenClaim := { program := "ythgedejnpgcacaa", sum := "18c482ef6ff70b6b6fc502f9685849b5c17416784bb5e5feffb68e919169601f", func := "vetch/vetchlaw18.NaiveCosts", spec := "naiveCosts", unfollowed := true, recurses := true, apart := false, narrowed := true }
def NaiveCostsUptoSaid : Prop := naiveCostsUptoRow.holds Try.pinned (OpenSpec.upto naiveCostsSpec)

/-- 'vetchlaw18.NaiveEnds', WHERE WHAT IT READS IS OF BULK AT MOST 1048576: true; the input reads as it did. -/
def naiveEndsUptoRow : OpenClaim := { program := "ythgedejnpgcacaa", sum := "18c482ef6ff70b6b6fc502f9685849b5c17416784bb5e5feffb68e919169601f", func := "vetch/vetchlaw18.NaiveEnds", spec := "naiveEnds", unfollowed := true, recurses := true, apart := false, narrowed := true }
def NaiveEndsUptoSaid : Prop := naiveEndsUptoRow.holds Try.pinned (OpenSpec.upto naiveEndsSpec)

/-- 'vetchlaw18.NaiveFacts', WHERE WHAT IT READS IS OF BULK AT MOST 1048576: true; the input reads as it did. -/
def naiveFactsUptoRow : OpenClaim := { program := "ythgedejnpgcacaa", sum := "18c482ef6ff70b6b6fc502f9685849b5c17416784bb5e5feffb68e919169601f", func := "vetch/vetchlaw18.NaiveFacts", spec := "naiveFacts", unfollowed := true, recurses := true, apart := false, narrowed := true }
def NaiveFactsUptoSaid : Prop := naiveFactsUptoRow.holds Try.pinned (OpenSpec.upto naiveFactsSpec)

/-- 'vetchlaw18.NaiveEnough', WHERE WHAT IT READS IS OF BULK AT MOST 1048576: true; the input reads as it did. -/
def naiveEnoughUptoRow : OpenClaim := { program := "ythgedejnpgcacaa", sum := "18c482ef6ff70b6b6fc502f9685849b5c17416784bb5e5feffb68e919169601f", func := "vetch/vetchlaw18.NaiveEnough", spec := "naiveEnough", unfollowed := true, recurses := true, apart := false, narrowed := true }
def NaiveEnoughUptoSaid : Prop := naiveEnoughUptoRow.holds Try.pinned (OpenSpec.upto naiveEnoughSpec)

end Rows
end Go.Proofs.Ythgedejnpgcacaa
