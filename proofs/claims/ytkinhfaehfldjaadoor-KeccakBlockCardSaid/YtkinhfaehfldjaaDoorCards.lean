/-
  DERIVED. GIVEN WITH THE SEED: THE CARDS: each row of YtkinhfaehfldjaaDoorRows.lean that lists a variable, with what it lists TIED to the program's text (the seventh form; the later family's looks); each row that meets fmt, with fmt's text TOLD by the authors' own Lean function (tested against real Go, not proved from fmt's source: count such statements apart). THE CARD IS WHAT COUNTS. Prove the row's statement (the work); the ties are given (YtkinhfaehfldjaaDoorTie.lean); close each card by the builder's one call (the guide's Derived/Test/ToyasCard.lean, 'card_holds'). Laid BY PROGRAM, IN A SANDBOX (cutbox-door.mjs). By AI agents, Wed Nov 11 2026. No macro, syntax, notation, axiom, sorry.
-/
import Derived.Test.YtkinhfaehfldjaaDoorRows
import GoSem.ClaimSeven
namespace Go.Proofs.YtkinhfaehfldjaaDoor
namespace Rows

/-- THE TIED CARD OF 'loesslaw01.KeccakPermutes'. -/
def keccakPermutesCard : Claim7 := { stood := { row := keccakPermutesRow, standIns := [], harness := (true, "d4859bb35e0e55594c73b451d98d3b3f896f68aafe890d73772a743aeb94701a"), looks := false }, kinds := [], alts := [], laidByText := true, laidKinds := [.data, .data, .data], laidTests := true, laidLooks := .later }
def KeccakPermutesCardSaid : Prop := Claim7.holds Tryd.pinned (.plain (OpenSpec.ofChange keccakPermutesSpec)) keccakPermutesCard

/-- THE TIED CARD OF 'loesslaw01.KeccakSums'. -/
def keccakSumsCard : Claim7 := { stood := { row := keccakSumsRow, standIns := [], harness := (true, "d4859bb35e0e55594c73b451d98d3b3f896f68aafe890d73772a743aeb94701a"), looks := false }, kinds := [], alts := [], laidByText := true, laidKinds := [.data, .data, .data], laidTests := true, laidLooks := .later }
def KeccakSumsCardSaid : Prop := Claim7.holds Tryd.pinned (.plain (OpenSpec.ofChange keccakSumsSpec)) keccakSumsCard

/-- THE TIED CARD OF 'loesslaw01.KeccakOne'. -/
def keccakOneCard : Claim7 := { stood := { row := keccakOneRow, standIns := [], harness := (true, "d4859bb35e0e55594c73b451d98d3b3f896f68aafe890d73772a743aeb94701a"), looks := false }, kinds := [], alts := [], laidByText := true, laidKinds := [.data, .data, .data], laidTests := true, laidLooks := .later }
def KeccakOneCardSaid : Prop := Claim7.holds Tryd.pinned (.plain (OpenSpec.ofChange keccakOneSpec)) keccakOneCard

/-- THE TIED CARD OF 'loesslaw01.KeccakBlock'. -/
def keccakBlockCard : Claim7 := { stood := { row := keccakBlockRow, standIns := [], harness := (true, "d4859bb35e0e55594c73b451d98d3b3f896f68aafe890d73772a743aeb94701a"), looks := false }, kinds := [], alts := [], laidByText := true, laidKinds := [.data, .data, .data], laidTests := true, laidLooks := .later }
def KeccakBlockCardSaid : Prop := Claim7.holds Tryd.pinned (.plain (OpenSpec.ofChange keccakBlockSpec)) keccakBlockCard

/-- THE TIED CARD OF 'loesslaw01.KeccakParts'. -/
def keccakPartsCard : Claim7 := { stood := { row := keccakPartsRow, standIns := [], harness := (true, "d4859bb35e0e55594c73b451d98d3b3f896f68aafe890d73772a743aeb94701a"), looks := false }, kinds := [], alts := [], laidByText := true, laidKinds := [.data, .data, .data], laidTests := true, laidLooks := .later }
def KeccakPartsCardSaid : Prop := Claim7.holds Tryd.pinned (.plain (OpenSpec.ofChange keccakPartsSpec)) keccakPartsCard

/-- THE TIED CARD OF 'loesslaw01.KeccakNil'. -/
def keccakNilCard : Claim7 := { stood := { row := keccakNilRow, standIns := [], harness := (true, "d4859bb35e0e55594c73b451d98d3b3f896f68aafe890d73772a743aeb94701a"), looks := false }, kinds := [], alts := [], laidByText := true, laidKinds := [.data, .data, .data], laidTests := true, laidLooks := .later }
def KeccakNilCardSaid : Prop := Claim7.holds Tryd.pinned (.plain (OpenSpec.ofChange keccakNilSpec)) keccakNilCard

/-- THE TIED CARD OF 'loesslaw01.KeccakAnew'. -/
def keccakAnewCard : Claim7 := { stood := { row := keccakAnewRow, standIns := [], harness := (true, "d4859bb35e0e55594c73b451d98d3b3f896f68aafe890d73772a743aeb94701a"), looks := false }, kinds := [], alts := [], laidByText := true, laidKinds := [.data, .data, .data], laidTests := true, laidLooks := .later }
def KeccakAnewCardSaid : Prop := Claim7.holds Tryd.pinned (.plain (OpenSpec.ofChange keccakAnewSpec)) keccakAnewCard

/-- THE SECOND FORM's CARD OF 'loesslaw01.KeccakPermutes'. -/
def keccakPermutesUptoCard : Claim7 := { stood := { row := keccakPermutesUptoRow, standIns := [], harness := (true, "d4859bb35e0e55594c73b451d98d3b3f896f68aafe890d73772a743aeb94701a"), looks := false }, kinds := [], alts := [], laidByText := true, laidKinds := [.data, .data, .data], laidTests := true, laidLooks := .later }
def KeccakPermutesUptoCardSaid : Prop := Claim7.holds Tryd.pinned (.plain (OpenSpec.upto keccakPermutesSpec)) keccakPermutesUptoCard

/-- THE SECOND FORM's CARD OF 'loesslaw01.KeccakSums'. -/
def keccakSumsUptoCard : Claim7 := { stood := { row := keccakSumsUptoRow, standIns := [], harness := (true, "d4859bb35e0e55594c73b451d98d3b3f896f68aafe890d73772a743aeb94701a"), looks := false }, kinds := [], alts := [], laidByText := true, laidKinds := [.data, .data, .data], laidTests := true, laidLooks := .later }
def KeccakSumsUptoCardSaid : Prop := Claim7.holds Tryd.pinned (.plain (OpenSpec.upto keccakSumsSpec)) keccakSumsUptoCard

/-- THE SECOND FORM's CARD OF 'loesslaw01.KeccakOne'. -/
def keccakOneUptoCard : Claim7 := { stood := { row := keccakOneUptoRow, standIns := [], harness := (true, "d4859bb35e0e55594c73b451d98d3b3f896f68aafe890d73772a743aeb94701a"), looks := false }, kinds := [], alts := [], laidByText := true, laidKinds := [.data, .data, .data], laidTests := true, laidLooks := .later }
def KeccakOneUptoCardSaid : Prop := Claim7.holds Tryd.pinned (.plain (OpenSpec.upto keccakOneSpec)) keccakOneUptoCard

/-- THE SECOND FORM's CARD OF 'loesslaw01.KeccakBlock'. -/
def keccakBlockUptoCard : Claim7 := { stood := { row := keccakBlockUptoRow, standIns := [], harness := (true, "d4859bb35e0e55594c73b451d98d3b3f896f68aafe890d73772a743aeb94701a"), looks := false }, kinds := [], alts := [], laidByText := true, laidKinds := [.data, .data, .data], laidTests := true, laidLooks := .later }
def KeccakBlockUptoCardSaid : Prop := Claim7.holds Tryd.pinned (.plain (OpenSpec.upto keccakBlockSpec)) keccakBlockUptoCard

/-- THE SECOND FORM's CARD OF 'loesslaw01.KeccakParts'. -/
def keccakPartsUptoCard : Claim7 := { stood := { row := keccakPartsUptoRow, standIns := [], harness := (true, "d4859bb35e0e55594c73b451d98d3b3f896f68aafe890d73772a743aeb94701a"), looks := false }, kinds := [], alts := [], laidByText := true, laidKinds := [.data, .data, .data], laidTests := true, laidLooks := .later }
def KeccakPartsUptoCardSaid : Prop := Claim7.holds Tryd.pinned (.plain (OpenSpec.upto keccakPartsSpec)) keccakPartsUptoCard

/-- THE SECOND FORM's CARD OF 'loesslaw01.KeccakNil'. -/
def keccakNilUptoCard : Claim7 := { stood := { row := keccakNilUptoRow, standIns := [], harness := (true, "d4859bb35e0e55594c73b451d98d3b3f896f68aafe890d73772a743aeb94701a"), looks := false }, kinds := [], alts := [], laidByText := true, laidKinds := [.data, .data, .data], laidTests := true, laidLooks := .later }
def KeccakNilUptoCardSaid : Prop := Claim7.holds Tryd.pinned (.plain (OpenSpec.upto keccakNilSpec)) keccakNilUptoCard

/-- THE SECOND FORM's CARD OF 'loesslaw01.KeccakAnew'. -/
def keccakAnewUptoCard : Claim7 := { stood := { row := keccakAnewUptoRow, standIns := [], harness := (true, "d4859bb35e0e55594c73b451d98d3b3f896f68aafe890d73772a743aeb94701a"), looks := false }, kinds := [], alts := [], laidByText := true, laidKinds := [.data, .data, .data], laidTests := true, laidLooks := .later }
def KeccakAnewUptoCardSaid : Prop := Claim7.holds Tryd.pinned (.plain (OpenSpec.upto keccakAnewSpec)) keccakAnewUptoCard
end Rows
end Go.Proofs.YtkinhfaehfldjaaDoor
