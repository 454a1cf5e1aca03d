/-
  DERIVED. GIVEN WITH THE SEED: THE CARDS: each row of YtlhapohpedihjaaDoorRows.lean that lists a variable, with what it lists TIED to the program's text (the seventh form; the later family's looks); each row that meets fmt, with fmt's text TOLD by the authors' own Lean function (tested against real Go, not proved from fmt's source: count such statements apart). THE CARD IS WHAT COUNTS. Prove the row's statement (the work); the ties are given (YtlhapohpedihjaaDoorTie.lean); close each card by the builder's one call (the guide's Derived/Test/ToyasCard.lean, 'card_holds'). Laid BY PROGRAM, IN A SANDBOX (cutbox-door.mjs). By AI agents, Wed Nov 11 2026. No macro, syntax, notation, axiom, sorry.
-/
import Derived.Test.YtlhapohpedihjaaDoorRows
import GoSem.ClaimSeven
namespace Go.Proofs.YtlhapohpedihjaaDoor
namespace Rows

/-- THE TIED CARD OF 'stilelaw18.SealDigests'. -/
def sealDigestsCard : Claim7 := { stood := { row := sealDigestsRow, standIns := [], harness := (true, "ed7a27275e5d54dcb3db76ae206a7d00866058cd15d48e143980f3b9484c5fc5"), looks := false }, kinds := [], alts := [], laidByText := true, laidKinds := [.data, .data], laidTests := true, laidLooks := .later }
def SealDigestsCardSaid : Prop := Claim7.holds Tryd.pinned (.plain (OpenSpec.ofChange sealDigestsSpec)) sealDigestsCard

/-- THE TIED CARD OF 'stilelaw18.SealSeals'. -/
def sealSealsCard : Claim7 := { stood := { row := sealSealsRow, standIns := [], harness := (true, "ed7a27275e5d54dcb3db76ae206a7d00866058cd15d48e143980f3b9484c5fc5"), looks := false }, kinds := [], alts := [], laidByText := true, laidKinds := [.data, .data], laidTests := true, laidLooks := .later }
def SealSealsCardSaid : Prop := Claim7.holds Tryd.pinned (.plain (OpenSpec.ofChange sealSealsSpec)) sealSealsCard

/-- THE TIED CARD OF 'stilelaw18.SealParts'. -/
def sealPartsCard : Claim7 := { stood := { row := sealPartsRow, standIns := [], harness := (true, "ed7a27275e5d54dcb3db76ae206a7d00866058cd15d48e143980f3b9484c5fc5"), looks := false }, kinds := [], alts := [], laidByText := true, laidKinds := [.data, .data], laidTests := true, laidLooks := .later }
def SealPartsCardSaid : Prop := Claim7.holds Tryd.pinned (.plain (OpenSpec.ofChange sealPartsSpec)) sealPartsCard

/-- THE TIED CARD OF 'stilelaw18.SealSame'. -/
def sealSameCard : Claim7 := { stood := { row := sealSameRow, standIns := [], harness := (true, "ed7a27275e5d54dcb3db76ae206a7d00866058cd15d48e143980f3b9484c5fc5"), looks := false }, kinds := [], alts := [], laidByText := true, laidKinds := [.data, .data], laidTests := true, laidLooks := .later }
def SealSameCardSaid : Prop := Claim7.holds Tryd.pinned (.plain (OpenSpec.ofChange sealSameSpec)) sealSameCard

/-- THE SECOND FORM's CARD OF 'stilelaw18.SealDigests'. -/
def sealDigestsUptoCard : Claim7 := { stood := { row := sealDigestsUptoRow, standIns := [], harness := (true, "ed7a27275e5d54dcb3db76ae206a7d00866058cd15d48e143980f3b9484c5fc5"), looks := false }, kinds := [], alts := [], laidByText := true, laidKinds := [.data, .data], laidTests := true, laidLooks := .later }
def SealDigestsUptoCardSaid : Prop := Claim7.holds Tryd.pinned (.plain (OpenSpec.upto sealDigestsSpec)) sealDigestsUptoCard

/-- THE SECOND FORM's CARD OF 'stilelaw18.SealSeals'. -/
def sealSealsUptoCard : Claim7 := { stood := { row := sealSealsUptoRow, standIns := [], harness := (true, "ed7a27275e5d54dcb3db76ae206a7d00866058cd15d48e143980f3b9484c5fc5"), looks := false }, kinds := [], alts := [], laidByText := true, laidKinds := [.data, .data], laidTests := true, laidLooks := .later }
def SealSealsUptoCardSaid : Prop := Claim7.holds Tryd.pinned (.plain (OpenSpec.upto sealSealsSpec)) sealSealsUptoCard

/-- THE SECOND FORM's CARD OF 'stilelaw18.SealParts'. -/
def sealPartsUptoCard : Claim7 := { stood := { row := sealPartsUptoRow, standIns := [], harness := (true, "ed7a27275e5d54dcb3db76ae206a7d00866058cd15d48e143980f3b9484c5fc5"), looks := false }, kinds := [], alts := [], laidByText := true, laidKinds := [.data, .data], laidTests := true, laidLooks := .later }
def SealPartsUptoCardSaid : Prop := Claim7.holds Tryd.pinned (.plain (OpenSpec.upto sealPartsSpec)) sealPartsUptoCard

/-- THE SECOND FORM's CARD OF 'stilelaw18.SealSame'. -/
def sealSameUptoCard : Claim7 := { stood := { row := sealSameUptoRow, standIns := [], harness := (true, "ed7a27275e5d54dcb3db76ae206a7d00866058cd15d48e143980f3b9484c5fc5"), looks := false }, kinds := [], alts := [], laidByText := true, laidKinds := [.data, .data], laidTests := true, laidLooks := .later }
def SealSameUptoCardSaid : Prop := Claim7.holds Tryd.pinned (.plain (OpenSpec.upto sealSameSpec)) sealSameUptoCard
end Rows
end Go.Proofs.YtlhapohpedihjaaDoor
