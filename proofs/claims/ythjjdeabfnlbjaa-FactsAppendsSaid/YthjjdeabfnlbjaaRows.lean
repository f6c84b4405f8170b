/-
  No cell of these rows narrows 'for every input' (looked for: loops, veiled, ifaces, maps, wideKeys, modest, calm, conditions, laid).
  DERIVED. THE GIVEN ROWS OF THIS SEAT. 9 by the template 'for every input the law returns true; each argument reads behind the call as it read before'; 0 by the template 'total and deterministic' (their statements: YthjjdeabfnlbjaaTotals.lean).
  GIVEN WITH THE SEED: the statements are not yours to turn. If you find one false, say at which input.
  Laid BY PROGRAM, IN A SANDBOX (cutbox-rows.mjs): the forced cells as the released guide's own fill.sh prints them over the translation 43b6be37ecf0e5ab… (all of the seat's roots in one cut). By AI agents, Wed Nov 11 2026. No macro, syntax, notation, axiom, sorry.
-/
import Derived.Test.YthjjdeabfnlbjaaChecked
import GoSem.Claim
import GoSem.ClaimJoined
import GoSem.ClaimMapViews
import Derived.JoinedTies
import Derived.KernelRfl
namespace Go.Proofs.Ythjjdeabfnlbjaa
/- THE CELL 'sum', in the pinned program and in every row, IS THE sha256 OF THE DUMP (.gsa) THAT YthjjdeabfnlbjaaProg.lean LOADS. Nothing in Lean hashes anything: it is a label: what it is worth is what the hold of that sum in a sandbox is worth. -/
noncomputable def Try.pinned : Pinned := { name := "ythjjdeabfnlbjaa", sum := "43b6be37ecf0e5ab1e110992dac90b57879e7f66fd81c880341b84623b9baf51", checked := Try.checked }
namespace Rows
def none {H : Type} : Left H := { results := [], args := [] }

/-- 'rollbooklaw18.FactsChecks': WHATEVER THE INPUT: true; the input reads as it did. -/
def factsChecksSpec : ChangeSpec := { name := "factsChecks", fn := fun _ => fun
  | [d1, d2] => { results := [.lit (.bool true)], args := [d1, d2] }
  | _ => none }
def factsChecksRow : OpenClaim := { program := "ythjjdeabfnlbjaa", sum := "43b6be37ecf0e5ab1e110992dac90b57879e7f66fd81c880341b84623b9baf51", func := "rollbook/rollbooklaw18.FactsChecks", spec := "factsChecks", unfollowed := true, recurses := true, apart := false }
def FactsChecksSaid : Prop := factsChecksRow.holds Try.pinned (OpenSpec.ofChange factsChecksSpec)

/-- ITS FALSE NEIGHBOUR: 'it returns false'. Refute it at one input. -/
def factsChecksWrong : ChangeSpec := { name := "factsChecks", fn := fun _ => fun
  | [d1, d2] => { results := [.lit (.bool false)], args := [d1, d2] }
  | _ => none }
def FactsChecksWrongFalsely : Prop := factsChecksRow.holds Try.pinned (OpenSpec.ofChange factsChecksWrong)

/-- 'rollbooklaw18.FactsAppends': WHATEVER THE INPUT: true; the input reads as it did. -/
def factsAppendsSpec : ChangeSpec := { name := "factsAppends", fn := fun _ => fun
  | [d1, d2] => { results := [.lit (.bool true)], args := [d1, d2] }
  | _ => none }
def factsAppendsRow : OpenClaim := { program := "ythjjdeabfnlbjaa", sum := "43b6be37ecf0e5ab1e110992dac90b57879e7f66fd81c880341b84623b9baf51", func := "rollbook/rollbooklaw18.FactsAppends", spec := "factsAppends", unfollowed := true, recurses := true, apart := false }
def FactsAppendsSaid : Prop := factsAppendsRow.holds Try.pinned (OpenSpec.ofChange factsAppendsSpec)

/-- ITS FALSE NEIGHBOUR: 'it returns false'. Refute it at one input. -/
def factsAppendsWrong : ChangeSpec := { name := "factsAppends", fn := fun _ => fun
  | [d1, d2] => { results := [.lit (.bool false)], args := [d1, d2] }
  | _ => none }
def FactsAppendsWrongFalsely : Prop := factsAppendsRow.holds Try.pinned (OpenSpec.ofChange factsAppendsWrong)

/-- 'rollbooklaw18.FactsKnown': WHATEVER THE INPUT: true; the input reads as it did. -/
def factsKnownSpec : ChangeSpec := { name := "factsKnown", fn := fun _ => fun
  | [d1, d2, d3, d4] => { results := [.lit (.bool true)], args := [d1, d2, d3, d4] }
  | _ => none }
def factsKnownRow : OpenClaim := { program := "ythjjdeabfnlbjaa", sum := "43b6be37ecf0e5ab1e110992dac90b57879e7f66fd81c880341b84623b9baf51", func := "rollbook/rollbooklaw18.FactsKnown", spec := "factsKnown", unfollowed := true, recurses := true, apart := false }
def FactsKnownSaid : Prop := factsKnownRow.holds Try.pinned (OpenSpec.ofChange factsKnownSpec)

/-- ITS FALSE NEIGHBOUR: 'it returns false'. Refute it at one input. -/
def factsKnownWrong : ChangeSpec := { name := "factsKnown", fn := fun _ => fun
  | [d1, d2, d3, d4] => { results := [.lit (.bool false)], args := [d1, d2, d3, d4] }
  | _ => none }
def FactsKnownWrongFalsely : Prop := factsKnownRow.holds Try.pinned (OpenSpec.ofChange factsKnownWrong)

/-- 'rollbooklaw18.FactsChanges': WHATEVER THE INPUT: true; the input reads as it did. -/
def factsChangesSpec : ChangeSpec := { name := "factsChanges", fn := fun _ => fun
  | [d1, d2, d3] => { results := [.lit (.bool true)], args := [d1, d2, d3] }
  | _ => none }
def factsChangesRow : OpenClaim := { program := "ythjjdeabfnlbjaa", sum := "43b6be37ecf0e5ab1e110992dac90b57879e7f66fd81c880341b84623b9baf51", func := "rollbook/rollbooklaw18.FactsChanges", spec := "factsChanges", unfollowed := true, recurses := true, apart := false }
def FactsChangesSaid : Prop := factsChangesRow.holds Try.pinned (OpenSpec.ofChange factsChangesSpec)

/-- ITS FALSE NEIGHBOUR: 'it returns false'. Refute it at one input. -/
def factsChangesWrong : ChangeSpec := { name := "factsChanges", fn := fun _ => fun
  | [d1, d2, d3] => { results := [.lit (.bool false)], args := [d1, d2, d3] }
  | _ => none }
def FactsChangesWrongFalsely : Prop := factsChangesRow.holds Try.pinned (OpenSpec.ofChange factsChangesWrong)

/-- 'rollbooklaw18.FactsSources': WHATEVER THE INPUT: true; the input reads as it did. -/
def factsSourcesSpec : ChangeSpec := { name := "factsSources", fn := fun _ => fun
  | [d1, d2] => { results := [.lit (.bool true)], args := [d1, d2] }
  | _ => none }
def factsSourcesRow : OpenClaim := { program := "ythjjdeabfnlbjaa", sum := "43b6be37ecf0e5ab1e110992dac90b57879e7f66fd81c880341b84623b9baf51", func := "rollbook/rollbooklaw18.FactsSources", spec := "factsSources", unfollowed := true, recurses := true, apart := false }
def FactsSourcesSaid : Prop := factsSourcesRow.holds Try.pinned (OpenSpec.ofChange factsSourcesSpec)

/-- ITS FALSE NEIGHBOUR: 'it returns false'. Refute it at one input. -/
def factsSourcesWrong : ChangeSpec := { name := "factsSources", fn := fun _ => fun
  | [d1, d2] => { results := [.lit (.bool false)], args := [d1, d2] }
  | _ => none }
def FactsSourcesWrongFalsely : Prop := factsSourcesRow.holds Try.pinned (OpenSpec.ofChange factsSourcesWrong)

/-- 'rollbooklaw18.FactsRecord': WHATEVER THE INPUT: true; the input reads as it did. -/
def factsRecordSpec : ChangeSpec := { name := "factsRecord", fn := fun _ => fun
  | [d1, d2, d3] => { results := [.lit (.bool true)], args := [d1, d2, d3] }
  | _ => none }
def factsRecordRow : OpenClaim := { program := "ythjjdeabfnlbjaa", sum := "43b6be37ecf0e5ab1e110992dac90b57879e7f66fd81c880341b84623b9baf51", func := "rollbook/rollbooklaw18.FactsRecord", spec := "factsRecord", unfollowed := true, recurses := true, apart := false }
def FactsRecordSaid : Prop := factsRecordRow.holds Try.pinned (OpenSpec.ofChange factsRecordSpec)

/-- ITS FALSE NEIGHBOUR: 'it returns false'. Refute it at one input. -/
def factsRecordWrong : ChangeSpec := { name := "factsRecord", fn := fun _ => fun
  | [d1, d2, d3] => { results := [.lit (.bool false)], args := [d1, d2, d3] }
  | _ => none }
def FactsRecordWrongFalsely : Prop := factsRecordRow.holds Try.pinned (OpenSpec.ofChange factsRecordWrong)

/-- 'rollbooklaw18.FactsDelta': WHATEVER THE INPUT: true; the input reads as it did. -/
def factsDeltaSpec : ChangeSpec := { name := "factsDelta", fn := fun _ => fun
  | [d1, d2, d3] => { results := [.lit (.bool true)], args := [d1, d2, d3] }
  | _ => none }
def factsDeltaRow : OpenClaim := { program := "ythjjdeabfnlbjaa", sum := "43b6be37ecf0e5ab1e110992dac90b57879e7f66fd81c880341b84623b9baf51", func := "rollbook/rollbooklaw18.FactsDelta", spec := "factsDelta", unfollowed := true, recurses := true, apart := false }
def FactsDeltaSaid : Prop := factsDeltaRow.holds Try.pinned (OpenSpec.ofChange factsDeltaSpec)

/-- ITS FALSE NEIGHBOUR: 'it returns false'. Refute it at one input. -/
def factsDeltaWrong : ChangeSpec := { name := "factsDelta", fn := fun _ => fun
  | [d1, d2, d3] => { results := [.lit (.bool false)], args := [d1, d2, d3] }
  | _ => none }
def FactsDeltaWrongFalsely : Prop := factsDeltaRow.holds Try.pinned (OpenSpec.ofChange factsDeltaWrong)

/-- 'rollbooklaw18.FactsStrike': WHATEVER THE INPUT: true; the input reads as it did. -/
def factsStrikeSpec : ChangeSpec := { name := "factsStrike", fn := fun _ => fun
  | [d1, d2] => { results := [.lit (.bool true)], args := [d1, d2] }
  | _ => none }
def factsStrikeRow : OpenClaim := { program := "ythjjdeabfnlbjaa", sum := "43b6be37ecf0e5ab1e110992dac90b57879e7f66fd81c880341b84623b9baf51", func := "rollbook/rollbooklaw18.FactsStrike", spec := "factsStrike", unfollowed := true, recurses := true, apart := false }
def FactsStrikeSaid : Prop := factsStrikeRow.holds Try.pinned (OpenSpec.ofChange factsStrikeSpec)

/-- ITS FALSE NEIGHBOUR: 'it returns false'. Refute it at one input. -/
def factsStrikeWrong : ChangeSpec := { name := "factsStrike", fn := fun _ => fun
  | [d1, d2] => { results := [.lit (.bool false)], args := [d1, d2] }
  | _ => none }
def FactsStrikeWrongFalsely : Prop := factsStrikeRow.holds Try.pinned (OpenSpec.ofChange factsStrikeWrong)

/-- 'rollbooklaw18.FactsLocal': WHATEVER THE INPUT: true; the input reads as it did. -/
def factsLocalSpec : ChangeSpec := { name := "factsLocal", fn := fun _ => fun
  | [d1, d2, d3] => { results := [.lit (.bool true)], args := [d1, d2, d3] }
  | _ => none }
def factsLocalRow : OpenClaim := { program := "ythjjdeabfnlbjaa", sum := "43b6be37ecf0e5ab1e110992dac90b57879e7f66fd81c880341b84623b9baf51", func := "rollbook/rollbooklaw18.FactsLocal", spec := "factsLocal", unfollowed := true, recurses := true, apart := false }
def FactsLocalSaid : Prop := factsLocalRow.holds Try.pinned (OpenSpec.ofChange factsLocalSpec)

/-- ITS FALSE NEIGHBOUR: 'it returns false'. Refute it at one input. -/
def factsLocalWrong : ChangeSpec := { name := "factsLocal", fn := fun _ => fun
  | [d1, d2, d3] => { results := [.lit (.bool false)], args := [d1, d2, d3] }
  | _ => none }
def FactsLocalWrongFalsely : Prop := factsLocalRow.holds Try.pinned (OpenSpec.ofChange factsLocalWrong)

/- THE SECOND FORM. 'bulk': how many values and letters a reading holds, each counted each time it is reached (what is shared counts as often as it is met; a slice's spare places count too). A statement '..UptoSaid' is the law's where the arguments, and the package variables that the reading takes, are together of bulk at most 1048576: NARROWER than '..Said'. Prove '..Said' where nothing that the law and all that it calls make is longer than what came in: it says more and counts as full. Else prove '..UptoSaid'. A law counts once. -/
mutual
def uptoBulk {H : Type} : DataW H → Nat
  | .lit (.string bytes) => bytes.length + 1
  | .lit _ => 1
  | .nil => 1
  | .ptr d => uptoBulk d + 1
  | .slice elems spare => uptoBulkAll elems + uptoBulkAll spare + 1
  | .agg parts => uptoBulkAll parts + 1
  | .iface _ d => uptoBulk d + 1
  | .map entries => uptoBulkEntries entries + 1
  | .held _ => 1
def uptoBulkAll {H : Type} : List (DataW H) → Nat
  | [] => 0
  | d :: r => uptoBulk d + uptoBulkAll r
def uptoBulkEntries {H : Type} : List (Lit × DataW H) → Nat
  | [] => 0
  | x :: r => uptoBulkEntry x + uptoBulkEntries r
def uptoBulkEntry {H : Type} : Lit × DataW H → Nat
  | (.string bytes, d) => bytes.length + uptoBulk d + 1
  | (_, d) => uptoBulk d + 1
 end
def uptoSmall : (H : Type) → List (DataW H) → Bool := fun _ ds => decide (uptoBulkAll ds ≤ 1048576)
def OpenSpec.upto (s : _root_.Go.ChangeSpec) : _root_.Go.OpenSpec := { _root_.Go.OpenSpec.ofChange s with cond := some uptoSmall }

/-- 'rollbooklaw18.FactsChecks', WHERE WHAT IT READS IS OF BULK AT MOST 1048576: true; the input reads as it did. -/
def factsChecksUptoRow : OpenClaim := { program := "ythjjdeabfnlbjaa", sum := "43b6be37ecf0e5ab1e110992dac90b57879e7f66fd81c880341b84623b9baf51", func := "rollbook/rollbooklaw18.FactsChecks", spec := "factsChecks", unfollowed := true, recurses := true, apart := false, narrowed := true }
def FactsChecksUptoSaid : Prop := factsChecksUptoRow.holds Try.pinned (OpenSpec.upto factsChecksSpec)

/-- 'rollbooklaw18.FactsAppends', WHERE WHAT IT READS IS OF BULK AT MOST 1048576: true; the input reads as it did. -/
def factsAppendsUptoRow : OpenClaim := { program := "ythjjdeabfnlbjaa", sum := "43b6be37ecf0e5ab1e110992dac90b57879e7f66fd81c880341b84623b9baf51", func := "rollbook/rollbooklaw18.FactsAppends", spec := "factsAppends", unfollowed := true, recurses := true, apart := false, narrowed := true }
def FactsAppendsUptoSaid : Prop := factsAppendsUptoRow.holds Try.pinned (OpenSpec.upto factsAppendsSpec)

/-- 'rollbooklaw18.FactsKnown', WHERE WHAT IT READS IS OF BULK AT MOST 1048576: true; the input reads as it did. -/
def factsKnownUptoRow : OpenClaim := { program := "ythjjdeabfnlbjaa", sum := "43b6be37ecf0e5ab1e110992dac90b57879e7f66fd81c880341b84623b9baf51", func := "rollbook/rollbooklaw18.FactsKnown", spec := "factsKnown", unfollowed := true, recurses := true, apart := false, narrowed := true }
def FactsKnownUptoSaid : Prop := factsKnownUptoRow.holds Try.pinned (OpenSpec.upto factsKnownSpec)

/-- 'rollbooklaw18.FactsChanges', WHERE WHAT IT READS IS OF BULK AT MOST 1048576: true; the input reads as it did. -/
def factsChangesUptoRow : OpenClaim := { program := "ythjjdeabfnlbjaa", sum := "43b6be37ecf0e5ab1e110992dac90b57879e7f66fd81c880341b84623b9baf51", func := "rollbook/rollbooklaw18.FactsChanges", spec := "factsChanges", unfollowed := true, recurses := true, apart := false, narrowed := true }
def FactsChangesUptoSaid : Prop := factsChangesUptoRow.holds Try.pinned (OpenSpec.upto factsChangesSpec)

/-- 'rollbooklaw18.FactsSources', WHERE WHAT IT READS IS OF BULK AT MOST 1048576: true; the input reads as it did. -/
def factsSourcesUptoRow : OpenClaim := { program := "ythjjdeabfnlbjaa", sum := "43b6be37ecf0e5ab1e110992dac90b57879e7f66fd81c880341b84623b9baf51", func := "rollbook/rollbooklaw18.FactsSources", spec := "factsSources", unfollowed := true, recurses := true, apart := false, narrowed := true }
def FactsSourcesUptoSaid : Prop := factsSourcesUptoRow.holds Try.pinned (OpenSpec.upto factsSourcesSpec)

/-- 'rollbooklaw18.FactsRecord', WHERE WHAT IT READS IS OF BULK AT MOST 1048576: true; the input reads as it did. -/
def factsRecordUptoRow : OpenClaim := { program := "ythjjdeabfnlbjaa", sum := "43b6be37ecf0e5ab1e110992dac90b57879e7f66fd81c880341b84623b9baf51", func := "rollbook/rollbooklaw18.FactsRecord", spec := "factsRecord", unfollowed := true, recurses := true, apart := false, narrowed := true }
def FactsRecordUptoSaid : Prop := factsRecordUptoRow.holds Try.pinned (OpenSpec.upto factsRecordSpec)

/-- 'rollbooklaw18.FactsDelta', WHERE WHAT IT READS IS OF BULK AT MOST 1048576: true; the input reads as it did. -/
def factsDeltaUptoRow : OpenClaim := { program := "ythjjdeabfnlbjaa", sum := "43b6be37ecf0e5ab1e110992dac90b57879e7f66fd81c880341b84623b9baf51", func := "rollbook/rollbooklaw18.FactsDelta", spec := "factsDelta", unfollowed := true, recurses := true, apart := false, narrowed := true }
def FactsDeltaUptoSaid : Prop := factsDeltaUptoRow.holds Try.pinned (OpenSpec.upto factsDeltaSpec)

/-- 'rollbooklaw18.FactsStrike', WHERE WHAT IT READS IS OF BULK AT MOST 1048576: true; the input reads as it did. -/
def factsStrikeUptoRow : OpenClaim := { program := "ythjjdeabfnlbjaa", sum := "43b6be37ecf0e5ab1e110992dac90b57879e7f66fd81c880341b84623b9baf51", func := "rollbook/rollbooklaw18.FactsStrike", spec := "factsStrike", unfollowed := true, recurses := true, apart := false, narrowed := true }
def FactsStrikeUptoSaid : Prop := factsStrikeUptoRow.holds Try.pinned (OpenSpec.upto factsStrikeSpec)

/-- 'rollbooklaw18.FactsLocal', WHERE WHAT IT READS IS OF BULK AT MOST 1048576: true; the input reads as it did. -/
def factsLocalUptoRow : OpenClaim := { program := "ythjjdeabfnlbjaa", sum := "43b6be37ecf0e5ab1e110992dac90b57879e7f66fd81c880341b84623b9baf51", func := "rollbook/rollbooklaw18.FactsLocal", spec := "factsLocal", unfollowed := true, recurses := true, apart := false, narrowed := true }
def FactsLocalUptoSaid : Prop := factsLocalUptoRow.holds Try.pinned (OpenSpec.upto factsLocalSpec)

end Rows
end Go.Proofs.Ythjjdeabfnlbjaa
