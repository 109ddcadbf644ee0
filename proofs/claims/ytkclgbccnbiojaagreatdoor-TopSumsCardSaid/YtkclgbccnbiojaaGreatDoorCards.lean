/-
  DERIVED. GIVEN WITH THE SEED: THE CARDS: each row of YtkclgbccnbiojaaGreatDoorRows.lean that lists a variable, with what it lists TIED to the program's text (the seventh form; the later family's looks); each row that meets fmt, with fmt's text TOLD by the authors' own Lean function (tested against real Go, not proved from fmt's source: count such statements apart). THE CARD IS WHAT COUNTS. Prove the row's statement (the work); the ties are given (YtkclgbccnbiojaaGreatDoorTie.lean); close each card by the builder's one call (the guide's Derived/Test/ToyasCard.lean, 'card_holds'). Laid BY PROGRAM, IN A SANDBOX (cutbox-door.mjs). By AI agents, Wed Nov 11 2026. No macro, syntax, notation, axiom, sorry.
-/
import Derived.Test.YtkclgbccnbiojaaGreatDoorRows
import GoSem.ClaimSeven
namespace Go.Proofs.YtkclgbccnbiojaaGreatDoor
namespace Rows

/-- THE TIED CARD OF 'mortisetop.TopWrites'. -/
def topWritesCard : Claim7 := { stood := { row := topWritesRow, standIns := [], harness := (true, "33f35e0419e9bac6ee2c037a4c338ef1b68b189cf18493e6ecb81f7953e8c8d3"), looks := true }, kinds := [], alts := [], laidByText := true, laidKinds := [.data, .data, .data, .data, .data, .sentinel, .sentinel, .widerDeep, .data, .data, .pinned, .pinned], laidTests := true, laidLooks := .later }
def TopWritesCardSaid : Prop := Claim7.holds Tryz.pinned (.plain (OpenSpec.ofChange topWritesSpec)) topWritesCard

/-- THE TIED CARD OF 'mortisetop.TopTexts'. -/
def topTextsCard : Claim7 := { stood := { row := topTextsRow, standIns := [], harness := (true, "33f35e0419e9bac6ee2c037a4c338ef1b68b189cf18493e6ecb81f7953e8c8d3"), looks := true }, kinds := [], alts := [], laidByText := true, laidKinds := [.data, .data, .data, .data, .data, .sentinel, .sentinel, .widerDeep, .data, .data, .pinned, .pinned], laidTests := true, laidLooks := .later }
def TopTextsCardSaid : Prop := Claim7.holds Tryz.pinned (.plain (OpenSpec.ofChange topTextsSpec)) topTextsCard

/-- THE TIED CARD OF 'mortisetop.TopSums'. -/
def topSumsCard : Claim7 := { stood := { row := topSumsRow, standIns := [], harness := (true, "33f35e0419e9bac6ee2c037a4c338ef1b68b189cf18493e6ecb81f7953e8c8d3"), looks := true }, kinds := [], alts := [], laidByText := true, laidKinds := [.data, .data, .data, .data, .data, .sentinel, .sentinel, .widerDeep, .data, .data, .pinned, .pinned], laidTests := true, laidLooks := .later }
def TopSumsCardSaid : Prop := Claim7.holds Tryz.pinned (.plain (OpenSpec.ofChange topSumsSpec)) topSumsCard

/-- THE TIED CARD OF 'mortisetop.TopPointers'. -/
def topPointersCard : Claim7 := { stood := { row := topPointersRow, standIns := [], harness := (true, "33f35e0419e9bac6ee2c037a4c338ef1b68b189cf18493e6ecb81f7953e8c8d3"), looks := true }, kinds := [], alts := [], laidByText := true, laidKinds := [.data, .data, .data, .data, .data, .sentinel, .sentinel, .widerDeep, .data, .data, .pinned, .pinned], laidTests := true, laidLooks := .later }
def TopPointersCardSaid : Prop := Claim7.holds Tryz.pinned (.plain (OpenSpec.ofChange topPointersSpec)) topPointersCard

/-- THE SECOND FORM's CARD OF 'mortisetop.TopWrites'. -/
def topWritesUptoCard : Claim7 := { stood := { row := topWritesUptoRow, standIns := [], harness := (true, "33f35e0419e9bac6ee2c037a4c338ef1b68b189cf18493e6ecb81f7953e8c8d3"), looks := true }, kinds := [], alts := [], laidByText := true, laidKinds := [.data, .data, .data, .data, .data, .sentinel, .sentinel, .widerDeep, .data, .data, .pinned, .pinned], laidTests := true, laidLooks := .later }
def TopWritesUptoCardSaid : Prop := Claim7.holds Tryz.pinned (.plain (OpenSpec.upto topWritesSpec)) topWritesUptoCard

/-- THE SECOND FORM's CARD OF 'mortisetop.TopTexts'. -/
def topTextsUptoCard : Claim7 := { stood := { row := topTextsUptoRow, standIns := [], harness := (true, "33f35e0419e9bac6ee2c037a4c338ef1b68b189cf18493e6ecb81f7953e8c8d3"), looks := true }, kinds := [], alts := [], laidByText := true, laidKinds := [.data, .data, .data, .data, .data, .sentinel, .sentinel, .widerDeep, .data, .data, .pinned, .pinned], laidTests := true, laidLooks := .later }
def TopTextsUptoCardSaid : Prop := Claim7.holds Tryz.pinned (.plain (OpenSpec.upto topTextsSpec)) topTextsUptoCard

/-- THE SECOND FORM's CARD OF 'mortisetop.TopSums'. -/
def topSumsUptoCard : Claim7 := { stood := { row := topSumsUptoRow, standIns := [], harness := (true, "33f35e0419e9bac6ee2c037a4c338ef1b68b189cf18493e6ecb81f7953e8c8d3"), looks := true }, kinds := [], alts := [], laidByText := true, laidKinds := [.data, .data, .data, .data, .data, .sentinel, .sentinel, .widerDeep, .data, .data, .pinned, .pinned], laidTests := true, laidLooks := .later }
def TopSumsUptoCardSaid : Prop := Claim7.holds Tryz.pinned (.plain (OpenSpec.upto topSumsSpec)) topSumsUptoCard

/-- THE SECOND FORM's CARD OF 'mortisetop.TopPointers'. -/
def topPointersUptoCard : Claim7 := { stood := { row := topPointersUptoRow, standIns := [], harness := (true, "33f35e0419e9bac6ee2c037a4c338ef1b68b189cf18493e6ecb81f7953e8c8d3"), looks := true }, kinds := [], alts := [], laidByText := true, laidKinds := [.data, .data, .data, .data, .data, .sentinel, .sentinel, .widerDeep, .data, .data, .pinned, .pinned], laidTests := true, laidLooks := .later }
def TopPointersUptoCardSaid : Prop := Claim7.holds Tryz.pinned (.plain (OpenSpec.upto topPointersSpec)) topPointersUptoCard
end Rows
end Go.Proofs.YtkclgbccnbiojaaGreatDoor
