/-
  No cell of these rows narrows 'for every input' (looked for: loops, veiled, ifaces, maps, wideKeys, modest, calm, conditions, laid).
  DERIVED. THE GIVEN ROWS OF THIS SEAT. 6 by the template 'for every input the law returns true; each argument reads behind the call as it read before'; 0 by the template 'total and deterministic' (their statements: YtgalimhogolbjaaTotals.lean).
  GIVEN WITH THE SEED: the statements are not yours to turn. If you find one false, say at which input.
  Laid BY PROGRAM, IN A SANDBOX (cutbox-rows.mjs): the forced cells as the released guide's own fill.sh prints them over the translation 94dc5090116984f9… (all of the seat's roots in one cut). By AI agents, Wed Nov 11 2026. No macro, syntax, notation, axiom, sorry.
-/
import Derived.Test.YtgalimhogolbjaaChecked
import GoSem.Claim
import GoSem.ClaimJoined
import GoSem.ClaimMapViews
import Derived.JoinedTies
import Derived.KernelRfl
namespace Go.Proofs.Ytgalimhogolbjaa
/- THE CELL 'sum', in the pinned program and in every row, IS THE sha256 OF THE DUMP (.gsa) THAT YtgalimhogolbjaaProg.lean LOADS. Nothing in Lean hashes anything: it is a label: what it is worth is what the hold of that sum in a sandbox is worth. -/
noncomputable def Try.pinned : Pinned := { name := "ytgalimhogolbjaa", sum := "94dc5090116984f9be4279d8312677d132fbb3c3a3204a319dab59e6d6bedb47", checked := Try.checked }
namespace Rows
def none {H : Type} : Left H := { results := [], args := [] }

/-- 'mortiselaw08.MatchExpands': WHATEVER THE INPUT: true; the input reads as it did. -/
def matchExpandsSpec : ChangeSpec := { name := "matchExpands", fn := fun _ => fun
  | [d1, d2] => { results := [.lit (.bool true)], args := [d1, d2] }
  | _ => none }
def matchExpandsRow : OpenClaim := { program := "ytgalimhogolbjaa", sum := "94dc5090116984f9be4279d8312677d132fbb3c3a3204a319dab59e6d6bedb47", func := "mortise/mortiselaw08.MatchExpands", spec := "matchExpands", plainKeys := false, apart := false }
def MatchExpandsSaid : Prop := matchExpandsRow.holds Try.pinned (OpenSpec.ofChange matchExpandsSpec)

/-- ITS FALSE NEIGHBOUR: 'it returns false'. Refute it at one input. -/
def matchExpandsWrong : ChangeSpec := { name := "matchExpands", fn := fun _ => fun
  | [d1, d2] => { results := [.lit (.bool false)], args := [d1, d2] }
  | _ => none }
def MatchExpandsWrongFalsely : Prop := matchExpandsRow.holds Try.pinned (OpenSpec.ofChange matchExpandsWrong)

/-- 'mortiselaw08.MatchCosts': WHATEVER THE INPUT: true; the input reads as it did. -/
def matchCostsSpec : ChangeSpec := { name := "matchCosts", fn := fun _ => fun
  | [d] => { results := [.lit (.bool true)], args := [d] }
  | _ => none }
def matchCostsRow : OpenClaim := { program := "ytgalimhogolbjaa", sum := "94dc5090116984f9be4279d8312677d132fbb3c3a3204a319dab59e6d6bedb47", func := "mortise/mortiselaw08.MatchCosts", spec := "matchCosts", plainKeys := false, apart := false }
def MatchCostsSaid : Prop := matchCostsRow.holds Try.pinned (OpenSpec.ofChange matchCostsSpec)

/-- ITS FALSE NEIGHBOUR: 'it returns false'. Refute it at one input. -/
def matchCostsWrong : ChangeSpec := { name := "matchCosts", fn := fun _ => fun
  | [d] => { results := [.lit (.bool false)], args := [d] }
  | _ => none }
def MatchCostsWrongFalsely : Prop := matchCostsRow.holds Try.pinned (OpenSpec.ofChange matchCostsWrong)

/-- 'mortiselaw08.MatchFinds': WHATEVER THE INPUT: true; the input reads as it did. -/
def matchFindsSpec : ChangeSpec := { name := "matchFinds", fn := fun _ => fun
  | [d] => { results := [.lit (.bool true)], args := [d] }
  | _ => none }
def matchFindsRow : OpenClaim := { program := "ytgalimhogolbjaa", sum := "94dc5090116984f9be4279d8312677d132fbb3c3a3204a319dab59e6d6bedb47", func := "mortise/mortiselaw08.MatchFinds", spec := "matchFinds", plainKeys := false, apart := false }
def MatchFindsSaid : Prop := matchFindsRow.holds Try.pinned (OpenSpec.ofChange matchFindsSpec)

/-- ITS FALSE NEIGHBOUR: 'it returns false'. Refute it at one input. -/
def matchFindsWrong : ChangeSpec := { name := "matchFinds", fn := fun _ => fun
  | [d] => { results := [.lit (.bool false)], args := [d] }
  | _ => none }
def MatchFindsWrongFalsely : Prop := matchFindsRow.holds Try.pinned (OpenSpec.ofChange matchFindsWrong)

/-- 'mortiselaw08.MatchRuns': WHATEVER THE INPUT: true; the input reads as it did. -/
def matchRunsSpec : ChangeSpec := { name := "matchRuns", fn := fun _ => fun
  | [d1, d2] => { results := [.lit (.bool true)], args := [d1, d2] }
  | _ => none }
def matchRunsRow : OpenClaim := { program := "ytgalimhogolbjaa", sum := "94dc5090116984f9be4279d8312677d132fbb3c3a3204a319dab59e6d6bedb47", func := "mortise/mortiselaw08.MatchRuns", spec := "matchRuns", plainKeys := false, apart := false }
def MatchRunsSaid : Prop := matchRunsRow.holds Try.pinned (OpenSpec.ofChange matchRunsSpec)

/-- ITS FALSE NEIGHBOUR: 'it returns false'. Refute it at one input. -/
def matchRunsWrong : ChangeSpec := { name := "matchRuns", fn := fun _ => fun
  | [d1, d2] => { results := [.lit (.bool false)], args := [d1, d2] }
  | _ => none }
def MatchRunsWrongFalsely : Prop := matchRunsRow.holds Try.pinned (OpenSpec.ofChange matchRunsWrong)

/-- 'mortiselaw08.MatchJoined': WHATEVER THE INPUT: true; the input reads as it did. -/
def matchJoinedSpec : ChangeSpec := { name := "matchJoined", fn := fun _ => fun
  | [d1, d2] => { results := [.lit (.bool true)], args := [d1, d2] }
  | _ => none }
def matchJoinedRow : OpenClaim := { program := "ytgalimhogolbjaa", sum := "94dc5090116984f9be4279d8312677d132fbb3c3a3204a319dab59e6d6bedb47", func := "mortise/mortiselaw08.MatchJoined", spec := "matchJoined", plainKeys := false, apart := false }
def MatchJoinedSaid : Prop := matchJoinedRow.holds Try.pinned (OpenSpec.ofChange matchJoinedSpec)

/-- ITS FALSE NEIGHBOUR: 'it returns false'. Refute it at one input. -/
def matchJoinedWrong : ChangeSpec := { name := "matchJoined", fn := fun _ => fun
  | [d1, d2] => { results := [.lit (.bool false)], args := [d1, d2] }
  | _ => none }
def MatchJoinedWrongFalsely : Prop := matchJoinedRow.holds Try.pinned (OpenSpec.ofChange matchJoinedWrong)

/-- 'mortiselaw08.MatchPlain': WHATEVER THE INPUT: true; the input reads as it did. -/
def matchPlainSpec : ChangeSpec := { name := "matchPlain", fn := fun _ => fun
  | [d] => { results := [.lit (.bool true)], args := [d] }
  | _ => none }
def matchPlainRow : OpenClaim := { program := "ytgalimhogolbjaa", sum := "94dc5090116984f9be4279d8312677d132fbb3c3a3204a319dab59e6d6bedb47", func := "mortise/mortiselaw08.MatchPlain", spec := "matchPlain", plainKeys := false, apart := false }
def MatchPlainSaid : Prop := matchPlainRow.holds Try.pinned (OpenSpec.ofChange matchPlainSpec)

/-- ITS FALSE NEIGHBOUR: 'it returns false'. Refute it at one input. -/
def matchPlainWrong : ChangeSpec := { name := "matchPlain", fn := fun _ => fun
  | [d] => { results := [.lit (.bool false)], args := [d] }
  | _ => none }
def MatchPlainWrongFalsely : Prop := matchPlainRow.holds Try.pinned (OpenSpec.ofChange matchPlainWrong)

/- THE SECOND FORM. 'bulk': how many values and letters a reading holds, each counted each time it is reached (what is shared counts as often as it is met; a slice's spare places count too). A statement '..UptoSaid' is the law's where the arguments, and the package variables that the reading takes, are together of bulk at most 1048576: NARROWER than '..Said'. Prove '..Said' where nothing that the law and all that it calls make is longer than what came in: it says more and counts as full. Else prove '..UptoSaid'. A law counts once. -/
mutual
def uptoBulk {H : Type} : DataW H → Nat
  | .lit (.string bytes) => bytes.length + 1
  | .lit _ => 1
  | .nil => 1
  | .ptr d => uptoBulk d + 1
  | .slice elems spare => uptoBulkAll elems + uptoBulkAll spare + 1
  | .agg parts => uptoBulkAll parts + 1
  | .iface _ d => uptoBulk d + 1
  | .map entries => uptoBulkEntries entries + 1
  | .held _ => 1
def uptoBulkAll {H : Type} : List (DataW H) → Nat
  | [] => 0
  | d :: r => uptoBulk d + uptoBulkAll r
def uptoBulkEntries {H : Type} : List (Lit × DataW H) → Nat
  | [] => 0
  | x :: r => uptoBulkEntry x + uptoBulkEntries r
def uptoBulkEntry {H : Type} : Lit × DataW H → Nat
  | (.string bytes, d) => bytes.length + uptoBulk d + 1
  | (_, d) => uptoBulk d + 1
 end
def uptoSmall : (H : Type) → List (DataW H) → Bool := fun _ ds => decide (uptoBulkAll ds ≤ 1048576)
def OpenSpec.upto (s : _root_.Go.ChangeSpec) : _root_.Go.OpenSpec := { _root_.Go.OpenSpec.ofChange s with cond := some uptoSmall }

/-- 'mortiselaw08.MatchExpands', WHERE WHAT IT READS IS OF BULK AT MOST 1048576: true; the input reads as it did. -/
def matchExpandsUptoRow : OpenClaim := { program := "ytgalimhogolbjaa", sum := "94dc5090116984f9be4279d8312677d132fbb3c3a3204a319dab59e6d6bedb47", func := "mortise/mortiselaw08.MatchExpands", spec := "matchExpands", plainKeys := false, apart := false, narrowed := true }
def MatchExpandsUptoSaid : Prop := matchExpandsUptoRow.holds Try.pinned (OpenSpec.upto matchExpandsSpec)

/-- 'mortiselaw08.MatchCosts', WHERE WHAT IT READS IS OF BULK AT MOST 1048576: true; the input reads as it did. -/
def matchCostsUptoRow : OpenClaim := { program := "ytgalimhogolbjaa", sum := "94dc5090116984f9be4279d8312677d132fbb3c3a3204a319dab59e6d6bedb47", func := "mortise/mortiselaw08.MatchCosts", spec := "matchCosts", plainKeys := false, apart := false, narrowed := true }
def MatchCostsUptoSaid : Prop := matchCostsUptoRow.holds Try.pinned (OpenSpec.upto matchCostsSpec)

/-- 'mortiselaw08.MatchFinds', WHERE WHAT IT READS IS OF BULK AT MOST 1048576: true; the input reads as it did. -/
def matchFindsUptoRow : OpenClaim := { program := "ytgalimhogolbjaa", sum := "94dc5090116984f9be4279d8312677d132fbb3c3a3204a319dab59e6d6bedb47", func := "mortise/mortiselaw08.MatchFinds", spec := "matchFinds", plainKeys := false, apart := false, narrowed := true }
def MatchFindsUptoSaid : Prop := matchFindsUptoRow.holds Try.pinned (OpenSpec.upto matchFindsSpec)

/-- 'mortiselaw08.MatchRuns', WHERE WHAT IT READS IS OF BULK AT MOST 1048576: true; the input reads as it did. -/
def matchRunsUptoRow : OpenClaim := { program := "ytgalimhogolbjaa", sum := "94dc5090116984f9be4279d8312677d132fbb3c3a3204a319dab59e6d6bedb47", func := "mortise/mortiselaw08.MatchRuns", spec := "matchRuns", plainKeys := false, apart := false, narrowed := true }
def MatchRunsUptoSaid : Prop := matchRunsUptoRow.holds Try.pinned (OpenSpec.upto matchRunsSpec)

/-- 'mortiselaw08.MatchJoined', WHERE WHAT IT READS IS OF BULK AT MOST 1048576: true; the input reads as it did. -/
def matchJoinedUptoRow : OpenClaim := { program := "ytgalimhogolbjaa", sum := "94dc5090116984f9be4279d8312677d132fbb3c3a3204a319dab59e6d6bedb47", func := "mortise/mortiselaw08.MatchJoined", spec := "matchJoined", plainKeys := false, apart := false, narrowed := true }
def MatchJoinedUptoSaid : Prop := matchJoinedUptoRow.holds Try.pinned (OpenSpec.upto matchJoinedSpec)

/-- 'mortiselaw08.MatchPlain', WHERE WHAT IT READS IS OF BULK AT MOST 1048576: true; the input reads as it did. -/
def matchPlainUptoRow : OpenClaim := { program := "ytgalimhogolbjaa", sum := "94dc5090116984f9be4279d8312677d132fbb3c3a3204a319dab59e6d6bedb47", func := "mortise/mortiselaw08.MatchPlain", spec := "matchPlain", plainKeys := false, apart := false, narrowed := true }
def MatchPlainUptoSaid : Prop := matchPlainUptoRow.holds Try.pinned (OpenSpec.upto matchPlainSpec)

end Rows
end Go.Proofs.Ytgalimhogolbjaa
