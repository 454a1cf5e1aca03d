/-
  DERIVED. GIVEN WITH THE SEED: THE CARDS: each row of YtejbcbplipfefaaDoorRows.lean that lists a variable, with what it lists TIED to the program's text (the seventh form; the later family's looks); each row that meets fmt, with fmt's text TOLD by the authors' own Lean function (tested against real Go, not proved from fmt's source: count such statements apart). THE CARD IS WHAT COUNTS. Prove the row's statement (the work); the ties are given (YtejbcbplipfefaaDoorTie.lean); close each card by the builder's one call (the guide's Derived/Test/ToyasCard.lean, 'card_holds'). Laid BY PROGRAM, IN A SANDBOX (cutbox-door.mjs). By AI agents, Wed Nov 11 2026. No macro, syntax, notation, axiom, sorry.
-/
import Derived.Test.YtejbcbplipfefaaDoorRows
import GoSem.ClaimSeven
namespace Go.Proofs.YtejbcbplipfefaaDoor
namespace Rows

/-- THE TIED CARD OF 'stilelaw02.WhoTexts'. -/
def whoTextsCard : Claim7 := { stood := { row := whoTextsRow, standIns := [], harness := (true, "8545ab76d7ae4574e5a8fcffc1bace8ad2b2f7c2655506ab4a7c0d1cb97db86b"), looks := false }, kinds := [], alts := [], laidByText := true, laidKinds := [.data, .pinned], laidTests := true, laidLooks := .later }
def WhoTextsCardSaid : Prop := Claim7.holds Tryd.pinned (.plain (OpenSpec.ofChange whoTextsSpec)) whoTextsCard

/-- THE TIED CARD OF 'stilelaw02.WhoReads'. -/
def whoReadsCard : Claim7 := { stood := { row := whoReadsRow, standIns := [], harness := (true, "8545ab76d7ae4574e5a8fcffc1bace8ad2b2f7c2655506ab4a7c0d1cb97db86b"), looks := false }, kinds := [], alts := [], laidByText := true, laidKinds := [.data, .pinned], laidTests := true, laidLooks := .later }
def WhoReadsCardSaid : Prop := Claim7.holds Tryd.pinned (.plain (OpenSpec.ofChange whoReadsSpec)) whoReadsCard

/-- THE TIED CARD OF 'stilelaw02.WhoSplits'. -/
def whoSplitsCard : Claim7 := { stood := { row := whoSplitsRow, standIns := [], harness := (true, "8545ab76d7ae4574e5a8fcffc1bace8ad2b2f7c2655506ab4a7c0d1cb97db86b"), looks := false }, kinds := [], alts := [], laidByText := true, laidKinds := [.data, .pinned], laidTests := true, laidLooks := .later }
def WhoSplitsCardSaid : Prop := Claim7.holds Tryd.pinned (.plain (OpenSpec.ofChange whoSplitsSpec)) whoSplitsCard

/-- THE SECOND FORM's CARD OF 'stilelaw02.WhoTexts'. -/
def whoTextsUptoCard : Claim7 := { stood := { row := whoTextsUptoRow, standIns := [], harness := (true, "8545ab76d7ae4574e5a8fcffc1bace8ad2b2f7c2655506ab4a7c0d1cb97db86b"), looks := false }, kinds := [], alts := [], laidByText := true, laidKinds := [.data, .pinned], laidTests := true, laidLooks := .later }
def WhoTextsUptoCardSaid : Prop := Claim7.holds Tryd.pinned (.plain (OpenSpec.upto whoTextsSpec)) whoTextsUptoCard

/-- THE SECOND FORM's CARD OF 'stilelaw02.WhoReads'. -/
def whoReadsUptoCard : Claim7 := { stood := { row := whoReadsUptoRow, standIns := [], harness := (true, "8545ab76d7ae4574e5a8fcffc1bace8ad2b2f7c2655506ab4a7c0d1cb97db86b"), looks := false }, kinds := [], alts := [], laidByText := true, laidKinds := [.data, .pinned], laidTests := true, laidLooks := .later }
def WhoReadsUptoCardSaid : Prop := Claim7.holds Tryd.pinned (.plain (OpenSpec.upto whoReadsSpec)) whoReadsUptoCard

/-- THE SECOND FORM's CARD OF 'stilelaw02.WhoSplits'. -/
def whoSplitsUptoCard : Claim7 := { stood := { row := whoSplitsUptoRow, standIns := [], harness := (true, "8545ab76d7ae4574e5a8fcffc1bace8ad2b2f7c2655506ab4a7c0d1cb97db86b"), looks := false }, kinds := [], alts := [], laidByText := true, laidKinds := [.data, .pinned], laidTests := true, laidLooks := .later }
def WhoSplitsUptoCardSaid : Prop := Claim7.holds Tryd.pinned (.plain (OpenSpec.upto whoSplitsSpec)) whoSplitsUptoCard
end Rows
end Go.Proofs.YtejbcbplipfefaaDoor
