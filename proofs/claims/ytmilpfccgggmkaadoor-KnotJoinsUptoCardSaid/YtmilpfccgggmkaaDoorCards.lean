/-
  DERIVED. GIVEN WITH THE SEED: THE CARDS: each row of YtmilpfccgggmkaaDoorRows.lean that lists a variable, with what it lists TIED to the program's text (the seventh form; the later family's looks); each row that meets fmt, with fmt's text TOLD by the authors' own Lean function (tested against real Go, not proved from fmt's source: count such statements apart). THE CARD IS WHAT COUNTS. Prove the row's statement (the work); the ties are given (YtmilpfccgggmkaaDoorTie.lean); close each card by the builder's one call (the guide's Derived/Test/ToyasCard.lean, 'card_holds'). Laid BY PROGRAM, IN A SANDBOX (cutbox-door.mjs). By AI agents, Wed Nov 11 2026. No macro, syntax, notation, axiom, sorry.
-/
import Derived.Test.YtmilpfccgggmkaaDoorRows
import GoSem.ClaimSeven
namespace Go.Proofs.YtmilpfccgggmkaaDoor
namespace Rows

/-- THE TIED CARD OF 'stilelaw04.KnotApart'. -/
def knotApartCard : Claim7 := { stood := { row := knotApartRow, standIns := [], harness := (true, "6e5b90dbfc5d12ea0b8e53e03223a080f658839330c8da2465e21064067405de"), looks := false }, kinds := [], alts := [], laidByText := true, laidKinds := [.data, .data, .data], laidTests := true, laidLooks := .later }
def KnotApartCardSaid : Prop := Claim7.holds Tryd.pinned (.plain (OpenSpec.ofChange knotApartSpec)) knotApartCard

/-- THE TIED CARD OF 'stilelaw04.KnotTies'. -/
def knotTiesCard : Claim7 := { stood := { row := knotTiesRow, standIns := [], harness := (true, "6e5b90dbfc5d12ea0b8e53e03223a080f658839330c8da2465e21064067405de"), looks := false }, kinds := [], alts := [], laidByText := true, laidKinds := [.data, .data, .data], laidTests := true, laidLooks := .later }
def KnotTiesCardSaid : Prop := Claim7.holds Tryd.pinned (.plain (OpenSpec.ofChange knotTiesSpec)) knotTiesCard

/-- THE TIED CARD OF 'stilelaw04.KnotFails'. -/
def knotFailsCard : Claim7 := { stood := { row := knotFailsRow, standIns := [], harness := (true, "6e5b90dbfc5d12ea0b8e53e03223a080f658839330c8da2465e21064067405de"), looks := false }, kinds := [], alts := [], laidByText := true, laidKinds := [.data, .data, .data, .data, .pinned], laidTests := true, laidLooks := .later }
def KnotFailsCardSaid : Prop := Claim7.holds Tryd.pinned (.plain (OpenSpec.ofChange knotFailsSpec)) knotFailsCard

/-- THE TIED CARD OF 'stilelaw04.KnotJoins'. -/
def knotJoinsCard : Claim7 := { stood := { row := knotJoinsRow, standIns := [], harness := (true, "6e5b90dbfc5d12ea0b8e53e03223a080f658839330c8da2465e21064067405de"), looks := false }, kinds := [], alts := [], laidByText := true, laidKinds := [.data, .data, .data, .data, .pinned], laidTests := true, laidLooks := .later }
def KnotJoinsCardSaid : Prop := Claim7.holds Tryd.pinned (.plain (OpenSpec.ofChange knotJoinsSpec)) knotJoinsCard

/-- THE TIED CARD OF 'stilelaw04.KnotGoes'. -/
def knotGoesCard : Claim7 := { stood := { row := knotGoesRow, standIns := [], harness := (true, "6e5b90dbfc5d12ea0b8e53e03223a080f658839330c8da2465e21064067405de"), looks := false }, kinds := [], alts := [], laidByText := true, laidKinds := [.data, .data, .data, .data, .pinned], laidTests := true, laidLooks := .later }
def KnotGoesCardSaid : Prop := Claim7.holds Tryd.pinned (.plain (OpenSpec.ofChange knotGoesSpec)) knotGoesCard

/-- THE SECOND FORM's CARD OF 'stilelaw04.KnotApart'. -/
def knotApartUptoCard : Claim7 := { stood := { row := knotApartUptoRow, standIns := [], harness := (true, "6e5b90dbfc5d12ea0b8e53e03223a080f658839330c8da2465e21064067405de"), looks := false }, kinds := [], alts := [], laidByText := true, laidKinds := [.data, .data, .data], laidTests := true, laidLooks := .later }
def KnotApartUptoCardSaid : Prop := Claim7.holds Tryd.pinned (.plain (OpenSpec.upto knotApartSpec)) knotApartUptoCard

/-- THE SECOND FORM's CARD OF 'stilelaw04.KnotTies'. -/
def knotTiesUptoCard : Claim7 := { stood := { row := knotTiesUptoRow, standIns := [], harness := (true, "6e5b90dbfc5d12ea0b8e53e03223a080f658839330c8da2465e21064067405de"), looks := false }, kinds := [], alts := [], laidByText := true, laidKinds := [.data, .data, .data], laidTests := true, laidLooks := .later }
def KnotTiesUptoCardSaid : Prop := Claim7.holds Tryd.pinned (.plain (OpenSpec.upto knotTiesSpec)) knotTiesUptoCard

/-- THE SECOND FORM's CARD OF 'stilelaw04.KnotFails'. -/
def knotFailsUptoCard : Claim7 := { stood := { row := knotFailsUptoRow, standIns := [], harness := (true, "6e5b90dbfc5d12ea0b8e53e03223a080f658839330c8da2465e21064067405de"), looks := false }, kinds := [], alts := [], laidByText := true, laidKinds := [.data, .data, .data, .data, .pinned], laidTests := true, laidLooks := .later }
def KnotFailsUptoCardSaid : Prop := Claim7.holds Tryd.pinned (.plain (OpenSpec.upto knotFailsSpec)) knotFailsUptoCard

/-- THE SECOND FORM's CARD OF 'stilelaw04.KnotJoins'. -/
def knotJoinsUptoCard : Claim7 := { stood := { row := knotJoinsUptoRow, standIns := [], harness := (true, "6e5b90dbfc5d12ea0b8e53e03223a080f658839330c8da2465e21064067405de"), looks := false }, kinds := [], alts := [], laidByText := true, laidKinds := [.data, .data, .data, .data, .pinned], laidTests := true, laidLooks := .later }
def KnotJoinsUptoCardSaid : Prop := Claim7.holds Tryd.pinned (.plain (OpenSpec.upto knotJoinsSpec)) knotJoinsUptoCard

/-- THE SECOND FORM's CARD OF 'stilelaw04.KnotGoes'. -/
def knotGoesUptoCard : Claim7 := { stood := { row := knotGoesUptoRow, standIns := [], harness := (true, "6e5b90dbfc5d12ea0b8e53e03223a080f658839330c8da2465e21064067405de"), looks := false }, kinds := [], alts := [], laidByText := true, laidKinds := [.data, .data, .data, .data, .pinned], laidTests := true, laidLooks := .later }
def KnotGoesUptoCardSaid : Prop := Claim7.holds Tryd.pinned (.plain (OpenSpec.upto knotGoesSpec)) knotGoesUptoCard
end Rows
end Go.Proofs.YtmilpfccgggmkaaDoor
