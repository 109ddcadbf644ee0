/-
  NARROWER THAN 'FOR EVERY INPUT', by the rows' own cells (each row's printed sentence says how): SumsCrc: laid · SumsAdler: laid · SumsWords: laid · SumsTar: laid · SumsJoined: laid · SumsTurned: laid · SumsEven: laid.
  DERIVED. THE GIVEN ROWS OF THIS SEAT. 7 by the template 'for every input the law returns true; each argument reads behind the call as it read before'; 0 by the template 'total and deterministic' (their statements: YtmiknmpdlkhpaaaDoorTotals.lean).
  GIVEN WITH THE SEED: the statements are not yours to turn. If you find one false, say at which input.
  Laid BY PROGRAM, IN A SANDBOX (cutbox-rows.mjs): the forced cells as the released guide's own fill.sh prints them over the translation e2e9d2d90da31108… (all of the seat's roots in one cut). By AI agents, Wed Nov 11 2026. No macro, syntax, notation, axiom, sorry.
-/
import Derived.Test.YtmiknmpdlkhpaaaDoorChecked
import GoSem.Claim
import GoSem.ClaimJoined
import GoSem.ClaimMapViews
import Derived.JoinedTies
import Derived.KernelRfl
namespace Go.Proofs.YtmiknmpdlkhpaaaDoor
/- THE CELL 'sum', in the pinned program and in every row, IS THE sha256 OF THE DUMP (.gsa) THAT YtmiknmpdlkhpaaaDoorProg.lean LOADS. Nothing in Lean hashes anything: it is a label: what it is worth is what the hold of that sum in a sandbox is worth. -/
noncomputable def Tryd.pinned : Pinned := { name := "ytmiknmpdlkhpaaadoor", sum := "e2e9d2d90da31108db0506c75e3259cc36d74a196c8448e45bf2538f52172084", checked := Tryd.checked }
namespace Rows
def none {H : Type} : Left H := { results := [], args := [] }

/- WHAT THE LISTED PACKAGE-LEVEL VARIABLES READ AS WHEN THE CALL BEGINS. Each datum BY PROGRAM (the guide's laid-datum.mjs) off the statement by which the dump's own 'gosem.cut.vars' lays the variable. In a bare row this is a premise. The card (YtmiknmpdlkhpaaaDoorCards.lean) ties it to the program's text. -/
def laid_mortise_sums_half {H : Type} : DataW H := .agg [.lit (.int .u32 0), .lit (.int .u32 498536548), .lit (.int .u32 997073096), .lit (.int .u32 651767980), .lit (.int .u32 1994146192), .lit (.int .u32 1802195444), .lit (.int .u32 1303535960), .lit (.int .u32 1342533948), .lit (.int .u32 3988292384), .lit (.int .u32 4027552580), .lit (.int .u32 3604390888), .lit (.int .u32 3412177804), .lit (.int .u32 2607071920), .lit (.int .u32 2262029012), .lit (.int .u32 2685067896), .lit (.int .u32 3183342108)]

/-- 'mortiselaw03.SumsCrc': WHATEVER THE INPUT: true; the input reads as it did. -/
def sumsCrcSpec : ChangeSpec := { name := "sumsCrc", fn := fun _ => fun
  | [d1, d2] => { results := [.lit (.bool true)], args := [d1, d2] }
  | _ => none }
def sumsCrcRow : OpenClaim := { program := "ytmiknmpdlkhpaaadoor", sum := "e2e9d2d90da31108db0506c75e3259cc36d74a196c8448e45bf2538f52172084", func := "mortise/mortiselaw03.SumsCrc", spec := "sumsCrc", named := ["mortise/sums.half"], apart := false, laid := [("mortise/sums.half", laid_mortise_sums_half)] }
def SumsCrcSaid : Prop := sumsCrcRow.holds Tryd.pinned (OpenSpec.ofChange sumsCrcSpec)

/-- ITS FALSE NEIGHBOUR: 'it returns false'. Refute it at one input. -/
def sumsCrcWrong : ChangeSpec := { name := "sumsCrc", fn := fun _ => fun
  | [d1, d2] => { results := [.lit (.bool false)], args := [d1, d2] }
  | _ => none }
def SumsCrcWrongFalsely : Prop := sumsCrcRow.holds Tryd.pinned (OpenSpec.ofChange sumsCrcWrong)

/-- 'mortiselaw03.SumsAdler': WHATEVER THE INPUT: true; the input reads as it did. -/
def sumsAdlerSpec : ChangeSpec := { name := "sumsAdler", fn := fun _ => fun
  | [d1, d2] => { results := [.lit (.bool true)], args := [d1, d2] }
  | _ => none }
def sumsAdlerRow : OpenClaim := { program := "ytmiknmpdlkhpaaadoor", sum := "e2e9d2d90da31108db0506c75e3259cc36d74a196c8448e45bf2538f52172084", func := "mortise/mortiselaw03.SumsAdler", spec := "sumsAdler", named := ["mortise/sums.half"], apart := false, laid := [("mortise/sums.half", laid_mortise_sums_half)] }
def SumsAdlerSaid : Prop := sumsAdlerRow.holds Tryd.pinned (OpenSpec.ofChange sumsAdlerSpec)

/-- ITS FALSE NEIGHBOUR: 'it returns false'. Refute it at one input. -/
def sumsAdlerWrong : ChangeSpec := { name := "sumsAdler", fn := fun _ => fun
  | [d1, d2] => { results := [.lit (.bool false)], args := [d1, d2] }
  | _ => none }
def SumsAdlerWrongFalsely : Prop := sumsAdlerRow.holds Tryd.pinned (OpenSpec.ofChange sumsAdlerWrong)

/-- 'mortiselaw03.SumsWords': WHATEVER THE INPUT: true; the input reads as it did. -/
def sumsWordsSpec : ChangeSpec := { name := "sumsWords", fn := fun _ => fun
  | [d] => { results := [.lit (.bool true)], args := [d] }
  | _ => none }
def sumsWordsRow : OpenClaim := { program := "ytmiknmpdlkhpaaadoor", sum := "e2e9d2d90da31108db0506c75e3259cc36d74a196c8448e45bf2538f52172084", func := "mortise/mortiselaw03.SumsWords", spec := "sumsWords", named := ["mortise/sums.half"], apart := false, laid := [("mortise/sums.half", laid_mortise_sums_half)] }
def SumsWordsSaid : Prop := sumsWordsRow.holds Tryd.pinned (OpenSpec.ofChange sumsWordsSpec)

/-- ITS FALSE NEIGHBOUR: 'it returns false'. Refute it at one input. -/
def sumsWordsWrong : ChangeSpec := { name := "sumsWords", fn := fun _ => fun
  | [d] => { results := [.lit (.bool false)], args := [d] }
  | _ => none }
def SumsWordsWrongFalsely : Prop := sumsWordsRow.holds Tryd.pinned (OpenSpec.ofChange sumsWordsWrong)

/-- 'mortiselaw03.SumsTar': WHATEVER THE INPUT: true; the input reads as it did. -/
def sumsTarSpec : ChangeSpec := { name := "sumsTar", fn := fun _ => fun
  | [d] => { results := [.lit (.bool true)], args := [d] }
  | _ => none }
def sumsTarRow : OpenClaim := { program := "ytmiknmpdlkhpaaadoor", sum := "e2e9d2d90da31108db0506c75e3259cc36d74a196c8448e45bf2538f52172084", func := "mortise/mortiselaw03.SumsTar", spec := "sumsTar", named := ["mortise/sums.half"], apart := false, laid := [("mortise/sums.half", laid_mortise_sums_half)] }
def SumsTarSaid : Prop := sumsTarRow.holds Tryd.pinned (OpenSpec.ofChange sumsTarSpec)

/-- ITS FALSE NEIGHBOUR: 'it returns false'. Refute it at one input. -/
def sumsTarWrong : ChangeSpec := { name := "sumsTar", fn := fun _ => fun
  | [d] => { results := [.lit (.bool false)], args := [d] }
  | _ => none }
def SumsTarWrongFalsely : Prop := sumsTarRow.holds Tryd.pinned (OpenSpec.ofChange sumsTarWrong)

/-- 'mortiselaw03.SumsJoined': WHATEVER THE INPUT: true; the input reads as it did. -/
def sumsJoinedSpec : ChangeSpec := { name := "sumsJoined", fn := fun _ => fun
  | [d1, d2] => { results := [.lit (.bool true)], args := [d1, d2] }
  | _ => none }
def sumsJoinedRow : OpenClaim := { program := "ytmiknmpdlkhpaaadoor", sum := "e2e9d2d90da31108db0506c75e3259cc36d74a196c8448e45bf2538f52172084", func := "mortise/mortiselaw03.SumsJoined", spec := "sumsJoined", named := ["mortise/sums.half"], apart := false, laid := [("mortise/sums.half", laid_mortise_sums_half)] }
def SumsJoinedSaid : Prop := sumsJoinedRow.holds Tryd.pinned (OpenSpec.ofChange sumsJoinedSpec)

/-- ITS FALSE NEIGHBOUR: 'it returns false'. Refute it at one input. -/
def sumsJoinedWrong : ChangeSpec := { name := "sumsJoined", fn := fun _ => fun
  | [d1, d2] => { results := [.lit (.bool false)], args := [d1, d2] }
  | _ => none }
def SumsJoinedWrongFalsely : Prop := sumsJoinedRow.holds Tryd.pinned (OpenSpec.ofChange sumsJoinedWrong)

/-- 'mortiselaw03.SumsTurned': WHATEVER THE INPUT: true; the input reads as it did. -/
def sumsTurnedSpec : ChangeSpec := { name := "sumsTurned", fn := fun _ => fun
  | [d1, d2, d3] => { results := [.lit (.bool true)], args := [d1, d2, d3] }
  | _ => none }
def sumsTurnedRow : OpenClaim := { program := "ytmiknmpdlkhpaaadoor", sum := "e2e9d2d90da31108db0506c75e3259cc36d74a196c8448e45bf2538f52172084", func := "mortise/mortiselaw03.SumsTurned", spec := "sumsTurned", named := ["mortise/sums.half"], apart := false, laid := [("mortise/sums.half", laid_mortise_sums_half)] }
def SumsTurnedSaid : Prop := sumsTurnedRow.holds Tryd.pinned (OpenSpec.ofChange sumsTurnedSpec)

/-- ITS FALSE NEIGHBOUR: 'it returns false'. Refute it at one input. -/
def sumsTurnedWrong : ChangeSpec := { name := "sumsTurned", fn := fun _ => fun
  | [d1, d2, d3] => { results := [.lit (.bool false)], args := [d1, d2, d3] }
  | _ => none }
def SumsTurnedWrongFalsely : Prop := sumsTurnedRow.holds Tryd.pinned (OpenSpec.ofChange sumsTurnedWrong)

/-- 'mortiselaw03.SumsEven': WHATEVER THE INPUT: true; the input reads as it did. -/
def sumsEvenSpec : ChangeSpec := { name := "sumsEven", fn := fun _ => fun
  | [d1, d2, d3] => { results := [.lit (.bool true)], args := [d1, d2, d3] }
  | _ => none }
def sumsEvenRow : OpenClaim := { program := "ytmiknmpdlkhpaaadoor", sum := "e2e9d2d90da31108db0506c75e3259cc36d74a196c8448e45bf2538f52172084", func := "mortise/mortiselaw03.SumsEven", spec := "sumsEven", named := ["mortise/sums.half"], apart := false, laid := [("mortise/sums.half", laid_mortise_sums_half)] }
def SumsEvenSaid : Prop := sumsEvenRow.holds Tryd.pinned (OpenSpec.ofChange sumsEvenSpec)

/-- ITS FALSE NEIGHBOUR: 'it returns false'. Refute it at one input. -/
def sumsEvenWrong : ChangeSpec := { name := "sumsEven", fn := fun _ => fun
  | [d1, d2, d3] => { results := [.lit (.bool false)], args := [d1, d2, d3] }
  | _ => none }
def SumsEvenWrongFalsely : Prop := sumsEvenRow.holds Tryd.pinned (OpenSpec.ofChange sumsEvenWrong)

/- THE SECOND FORM. 'bulk': how many values and letters a reading holds, each counted each time it is reached (what is shared counts as often as it is met; a slice's spare places count too). A statement '..UptoSaid' is the law's where the arguments, and the package variables that the reading takes, are together of bulk at most 1048576: NARROWER than '..Said'. Prove '..Said' where nothing that the law and all that it calls make is longer than what came in: it says more and counts as full. Else prove '..UptoSaid'. A law counts once. -/
mutual
def uptoBulk {H : Type} : DataW H → Nat
  | .lit (.string bytes) => bytes.length + 1
  | .lit _ => 1
  | .nil => 1
  | .ptr d => uptoBulk d + 1
  | .slice elems spare => uptoBulkAll elems + uptoBulkAll spare + 1
  | .agg parts => uptoBulkAll parts + 1
  | .iface _ d => uptoBulk d + 1
  | .map entries => uptoBulkEntries entries + 1
  | .held _ => 1
def uptoBulkAll {H : Type} : List (DataW H) → Nat
  | [] => 0
  | d :: r => uptoBulk d + uptoBulkAll r
def uptoBulkEntries {H : Type} : List (Lit × DataW H) → Nat
  | [] => 0
  | x :: r => uptoBulkEntry x + uptoBulkEntries r
def uptoBulkEntry {H : Type} : Lit × DataW H → Nat
  | (.string bytes, d) => bytes.length + uptoBulk d + 1
  | (_, d) => uptoBulk d + 1
 end
def uptoSmall : (H : Type) → List (DataW H) → Bool := fun _ ds => decide (uptoBulkAll ds ≤ 1048576)
def OpenSpec.upto (s : _root_.Go.ChangeSpec) : _root_.Go.OpenSpec := { _root_.Go.OpenSpec.ofChange s with cond := some uptoSmall }

/-- 'mortiselaw03.SumsCrc', WHERE WHAT IT READS IS OF BULK AT MOST 1048576: true; the input reads as it did. -/
def sumsCrcUptoRow : OpenClaim := { program := "ytmiknmpdlkhpaaadoor", sum := "e2e9d2d90da31108db0506c75e3259cc36d74a196c8448e45bf2538f52172084", func := "mortise/mortiselaw03.SumsCrc", spec := "sumsCrc", named := ["mortise/sums.half"], apart := false, laid := [("mortise/sums.half", laid_mortise_sums_half)], narrowed := true }
def SumsCrcUptoSaid : Prop := sumsCrcUptoRow.holds Tryd.pinned (OpenSpec.upto sumsCrcSpec)

/-- 'mortiselaw03.SumsAdler', WHERE WHAT IT READS IS OF BULK AT MOST 1048576: true; the input reads as it did. -/
def sumsAdlerUptoRow : OpenClaim := { program := "ytmiknmpdlkhpaaadoor", sum := "e2e9d2d90da31108db0506c75e3259cc36d74a196c8448e45bf2538f52172084", func := "mortise/mortiselaw03.SumsAdler", spec := "sumsAdler", named := ["mortise/sums.half"], apart := false, laid := [("mortise/sums.half", laid_mortise_sums_half)], narrowed := true }
def SumsAdlerUptoSaid : Prop := sumsAdlerUptoRow.holds Tryd.pinned (OpenSpec.upto sumsAdlerSpec)

/-- 'mortiselaw03.SumsWords', WHERE WHAT IT READS IS OF BULK AT MOST 1048576: true; the input reads as it did. -/
def sumsWordsUptoRow : OpenClaim := { program := "ytmiknmpdlkhpaaadoor", sum := "e2e9d2d90da31108db0506c75e3259cc36d74a196c8448e45bf2538f52172084", func := "mortise/mortiselaw03.SumsWords", spec := "sumsWords", named := ["mortise/sums.half"], apart := false, laid := [("mortise/sums.half", laid_mortise_sums_half)], narrowed := true }
def SumsWordsUptoSaid : Prop := sumsWordsUptoRow.holds Tryd.pinned (OpenSpec.upto sumsWordsSpec)

/-- 'mortiselaw03.SumsTar', WHERE WHAT IT READS IS OF BULK AT MOST 1048576: true; the input reads as it did. -/
def sumsTarUptoRow : OpenClaim := { program := "ytmiknmpdlkhpaaadoor", sum := "e2e9d2d90da31108db0506c75e3259cc36d74a196c8448e45bf2538f52172084", func := "mortise/mortiselaw03.SumsTar", spec := "sumsTar", named := ["mortise/sums.half"], apart := false, laid := [("mortise/sums.half", laid_mortise_sums_half)], narrowed := true }
def SumsTarUptoSaid : Prop := sumsTarUptoRow.holds Tryd.pinned (OpenSpec.upto sumsTarSpec)

/-- 'mortiselaw03.SumsJoined', WHERE WHAT IT READS IS OF BULK AT MOST 1048576: true; the input reads as it did. -/
def sumsJoinedUptoRow : OpenClaim := { program := "ytmiknmpdlkhpaaadoor", sum := "e2e9d2d90da31108db0506c75e3259cc36d74a196c8448e45bf2538f52172084", func := "mortise/mortiselaw03.SumsJoined", spec := "sumsJoined", named := ["mortise/sums.half"], apart := false, laid := [("mortise/sums.half", laid_mortise_sums_half)], narrowed := true }
def SumsJoinedUptoSaid : Prop := sumsJoinedUptoRow.holds Tryd.pinned (OpenSpec.upto sumsJoinedSpec)

/-- 'mortiselaw03.SumsTurned', WHERE WHAT IT READS IS OF BULK AT MOST 1048576: true; the input reads as it did. -/
def sumsTurnedUptoRow : OpenClaim := { program := "ytmiknmpdlkhpaaadoor", sum := "e2e9d2d90da31108db0506c75e3259cc36d74a196c8448e45bf2538f52172084", func := "mortise/mortiselaw03.SumsTurned", spec := "sumsTurned", named := ["mortise/sums.half"], apart := false, laid := [("mortise/sums.half", laid_mortise_sums_half)], narrowed := true }
def SumsTurnedUptoSaid : Prop := sumsTurnedUptoRow.holds Tryd.pinned (OpenSpec.upto sumsTurnedSpec)

/-- 'mortiselaw03.SumsEven', WHERE WHAT IT READS IS OF BULK AT MOST 1048576: true; the input reads as it did. -/
def sumsEvenUptoRow : OpenClaim := { program := "ytmiknmpdlkhpaaadoor", sum := "e2e9d2d90da31108db0506c75e3259cc36d74a196c8448e45bf2538f52172084", func := "mortise/mortiselaw03.SumsEven", spec := "sumsEven", named := ["mortise/sums.half"], apart := false, laid := [("mortise/sums.half", laid_mortise_sums_half)], narrowed := true }
def SumsEvenUptoSaid : Prop := sumsEvenUptoRow.holds Tryd.pinned (OpenSpec.upto sumsEvenSpec)

end Rows
end Go.Proofs.YtmiknmpdlkhpaaaDoor
