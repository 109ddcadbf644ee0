/-
  DERIVED. GIVEN WITH THE SEED: THE CARDS: each row of YtmiknmpdlkhpaaaDoorRows.lean that lists a variable, with what it lists TIED to the program's text (the seventh form; the later family's looks); each row that meets fmt, with fmt's text TOLD by the authors' own Lean function (tested against real Go, not proved from fmt's source: count such statements apart). THE CARD IS WHAT COUNTS. Prove the row's statement (the work); the ties are given (YtmiknmpdlkhpaaaDoorTie.lean); close each card by the builder's one call (the guide's Derived/Test/ToyasCard.lean, 'card_holds'). Laid BY PROGRAM, IN A SANDBOX (cutbox-door.mjs). By AI agents, Wed Nov 11 2026. No macro, syntax, notation, axiom, sorry.
-/
import Derived.Test.YtmiknmpdlkhpaaaDoorRows
import GoSem.ClaimSeven
namespace Go.Proofs.YtmiknmpdlkhpaaaDoor
namespace Rows

/-- THE TIED CARD OF 'mortiselaw03.SumsCrc'. -/
def sumsCrcCard : Claim7 := { stood := { row := sumsCrcRow, standIns := [], harness := (true, "16b33bcaf16e21c9496bdc580b2b68a8a0ddeff9c03b44e1fd7d77bbafd0119c"), looks := false }, kinds := [], alts := [], laidByText := true, laidKinds := [.data], laidTests := true, laidLooks := .later }
def SumsCrcCardSaid : Prop := Claim7.holds Tryd.pinned (.plain (OpenSpec.ofChange sumsCrcSpec)) sumsCrcCard

/-- THE TIED CARD OF 'mortiselaw03.SumsAdler'. -/
def sumsAdlerCard : Claim7 := { stood := { row := sumsAdlerRow, standIns := [], harness := (true, "16b33bcaf16e21c9496bdc580b2b68a8a0ddeff9c03b44e1fd7d77bbafd0119c"), looks := false }, kinds := [], alts := [], laidByText := true, laidKinds := [.data], laidTests := true, laidLooks := .later }
def SumsAdlerCardSaid : Prop := Claim7.holds Tryd.pinned (.plain (OpenSpec.ofChange sumsAdlerSpec)) sumsAdlerCard

/-- THE TIED CARD OF 'mortiselaw03.SumsWords'. -/
def sumsWordsCard : Claim7 := { stood := { row := sumsWordsRow, standIns := [], harness := (true, "16b33bcaf16e21c9496bdc580b2b68a8a0ddeff9c03b44e1fd7d77bbafd0119c"), looks := false }, kinds := [], alts := [], laidByText := true, laidKinds := [.data], laidTests := true, laidLooks := .later }
def SumsWordsCardSaid : Prop := Claim7.holds Tryd.pinned (.plain (OpenSpec.ofChange sumsWordsSpec)) sumsWordsCard

/-- THE TIED CARD OF 'mortiselaw03.SumsTar'. -/
def sumsTarCard : Claim7 := { stood := { row := sumsTarRow, standIns := [], harness := (true, "16b33bcaf16e21c9496bdc580b2b68a8a0ddeff9c03b44e1fd7d77bbafd0119c"), looks := false }, kinds := [], alts := [], laidByText := true, laidKinds := [.data], laidTests := true, laidLooks := .later }
def SumsTarCardSaid : Prop := Claim7.holds Tryd.pinned (.plain (OpenSpec.ofChange sumsTarSpec)) sumsTarCard

/-- THE TIED CARD OF 'mortiselaw03.SumsJoined'. -/
def sumsJoinedCard : Claim7 := { stood := { row := sumsJoinedRow, standIns := [], harness := (true, "16b33bcaf16e21c9496bdc580b2b68a8a0ddeff9c03b44e1fd7d77bbafd0119c"), looks := false }, kinds := [], alts := [], laidByText := true, laidKinds := [.data], laidTests := true, laidLooks := .later }
def SumsJoinedCardSaid : Prop := Claim7.holds Tryd.pinned (.plain (OpenSpec.ofChange sumsJoinedSpec)) sumsJoinedCard

/-- THE TIED CARD OF 'mortiselaw03.SumsTurned'. -/
def sumsTurnedCard : Claim7 := { stood := { row := sumsTurnedRow, standIns := [], harness := (true, "16b33bcaf16e21c9496bdc580b2b68a8a0ddeff9c03b44e1fd7d77bbafd0119c"), looks := false }, kinds := [], alts := [], laidByText := true, laidKinds := [.data], laidTests := true, laidLooks := .later }
def SumsTurnedCardSaid : Prop := Claim7.holds Tryd.pinned (.plain (OpenSpec.ofChange sumsTurnedSpec)) sumsTurnedCard

/-- THE TIED CARD OF 'mortiselaw03.SumsEven'. -/
def sumsEvenCard : Claim7 := { stood := { row := sumsEvenRow, standIns := [], harness := (true, "16b33bcaf16e21c9496bdc580b2b68a8a0ddeff9c03b44e1fd7d77bbafd0119c"), looks := false }, kinds := [], alts := [], laidByText := true, laidKinds := [.data], laidTests := true, laidLooks := .later }
def SumsEvenCardSaid : Prop := Claim7.holds Tryd.pinned (.plain (OpenSpec.ofChange sumsEvenSpec)) sumsEvenCard

/-- THE SECOND FORM's CARD OF 'mortiselaw03.SumsCrc'. -/
def sumsCrcUptoCard : Claim7 := { stood := { row := sumsCrcUptoRow, standIns := [], harness := (true, "16b33bcaf16e21c9496bdc580b2b68a8a0ddeff9c03b44e1fd7d77bbafd0119c"), looks := false }, kinds := [], alts := [], laidByText := true, laidKinds := [.data], laidTests := true, laidLooks := .later }
def SumsCrcUptoCardSaid : Prop := Claim7.holds Tryd.pinned (.plain (OpenSpec.upto sumsCrcSpec)) sumsCrcUptoCard

/-- THE SECOND FORM's CARD OF 'mortiselaw03.SumsAdler'. -/
def sumsAdlerUptoCard : Claim7 := { stood := { row := sumsAdlerUptoRow, standIns := [], harness := (true, "16b33bcaf16e21c9496bdc580b2b68a8a0ddeff9c03b44e1fd7d77bbafd0119c"), looks := false }, kinds := [], alts := [], laidByText := true, laidKinds := [.data], laidTests := true, laidLooks := .later }
def SumsAdlerUptoCardSaid : Prop := Claim7.holds Tryd.pinned (.plain (OpenSpec.upto sumsAdlerSpec)) sumsAdlerUptoCard

/-- THE SECOND FORM's CARD OF 'mortiselaw03.SumsWords'. -/
def sumsWordsUptoCard : Claim7 := { stood := { row := sumsWordsUptoRow, standIns := [], harness := (true, "16b33bcaf16e21c9496bdc580b2b68a8a0ddeff9c03b44e1fd7d77bbafd0119c"), looks := false }, kinds := [], alts := [], laidByText := true, laidKinds := [.data], laidTests := true, laidLooks := .later }
def SumsWordsUptoCardSaid : Prop := Claim7.holds Tryd.pinned (.plain (OpenSpec.upto sumsWordsSpec)) sumsWordsUptoCard

/-- THE SECOND FORM's CARD OF 'mortiselaw03.SumsTar'. -/
def sumsTarUptoCard : Claim7 := { stood := { row := sumsTarUptoRow, standIns := [], harness := (true, "16b33bcaf16e21c9496bdc580b2b68a8a0ddeff9c03b44e1fd7d77bbafd0119c"), looks := false }, kinds := [], alts := [], laidByText := true, laidKinds := [.data], laidTests := true, laidLooks := .later }
def SumsTarUptoCardSaid : Prop := Claim7.holds Tryd.pinned (.plain (OpenSpec.upto sumsTarSpec)) sumsTarUptoCard

/-- THE SECOND FORM's CARD OF 'mortiselaw03.SumsJoined'. -/
def sumsJoinedUptoCard : Claim7 := { stood := { row := sumsJoinedUptoRow, standIns := [], harness := (true, "16b33bcaf16e21c9496bdc580b2b68a8a0ddeff9c03b44e1fd7d77bbafd0119c"), looks := false }, kinds := [], alts := [], laidByText := true, laidKinds := [.data], laidTests := true, laidLooks := .later }
def SumsJoinedUptoCardSaid : Prop := Claim7.holds Tryd.pinned (.plain (OpenSpec.upto sumsJoinedSpec)) sumsJoinedUptoCard

/-- THE SECOND FORM's CARD OF 'mortiselaw03.SumsTurned'. -/
def sumsTurnedUptoCard : Claim7 := { stood := { row := sumsTurnedUptoRow, standIns := [], harness := (true, "16b33bcaf16e21c9496bdc580b2b68a8a0ddeff9c03b44e1fd7d77bbafd0119c"), looks := false }, kinds := [], alts := [], laidByText := true, laidKinds := [.data], laidTests := true, laidLooks := .later }
def SumsTurnedUptoCardSaid : Prop := Claim7.holds Tryd.pinned (.plain (OpenSpec.upto sumsTurnedSpec)) sumsTurnedUptoCard

/-- THE SECOND FORM's CARD OF 'mortiselaw03.SumsEven'. -/
def sumsEvenUptoCard : Claim7 := { stood := { row := sumsEvenUptoRow, standIns := [], harness := (true, "16b33bcaf16e21c9496bdc580b2b68a8a0ddeff9c03b44e1fd7d77bbafd0119c"), looks := false }, kinds := [], alts := [], laidByText := true, laidKinds := [.data], laidTests := true, laidLooks := .later }
def SumsEvenUptoCardSaid : Prop := Claim7.holds Tryd.pinned (.plain (OpenSpec.upto sumsEvenSpec)) sumsEvenUptoCard
end Rows
end Go.Proofs.YtmiknmpdlkhpaaaDoor
