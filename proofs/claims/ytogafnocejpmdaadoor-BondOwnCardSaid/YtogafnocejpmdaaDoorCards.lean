/-
  DERIVED. GIVEN WITH THE SEED: THE CARDS: each row of YtogafnocejpmdaaDoorRows.lean that lists a variable, with what it lists TIED to the program's text (the seventh form; the later family's looks); each row that meets fmt, with fmt's text TOLD by the authors' own Lean function (tested against real Go, not proved from fmt's source: count such statements apart). THE CARD IS WHAT COUNTS. Prove the row's statement (the work); the ties are given (YtogafnocejpmdaaDoorTie.lean); close each card by the builder's one call (the guide's Derived/Test/ToyasCard.lean, 'card_holds'). Laid BY PROGRAM, IN A SANDBOX (cutbox-door.mjs). By AI agents, Wed Nov 11 2026. No macro, syntax, notation, axiom, sorry.
-/
import Derived.Test.YtogafnocejpmdaaDoorRows
import GoSem.ClaimSeven
namespace Go.Proofs.YtogafnocejpmdaaDoor
namespace Rows

/-- THE TIED CARD OF 'stilelaw03.BondTexts'. -/
def bondTextsCard : Claim7 := { stood := { row := bondTextsRow, standIns := [], harness := (true, "80ea0a95fbc29dd48de23a87379f118e5c1cbbceddb5ff27f8add71a16f50030"), looks := false }, kinds := [], alts := [], laidByText := true, laidKinds := [.data, .pinned], laidTests := true, laidLooks := .later }
def BondTextsCardSaid : Prop := Claim7.holds Tryd.pinned (.plain (OpenSpec.ofChange bondTextsSpec)) bondTextsCard

/-- THE TIED CARD OF 'stilelaw03.BondReads'. -/
def bondReadsCard : Claim7 := { stood := { row := bondReadsRow, standIns := [], harness := (true, "80ea0a95fbc29dd48de23a87379f118e5c1cbbceddb5ff27f8add71a16f50030"), looks := false }, kinds := [], alts := [], laidByText := true, laidKinds := [.data, .pinned], laidTests := true, laidLooks := .later }
def BondReadsCardSaid : Prop := Claim7.holds Tryd.pinned (.plain (OpenSpec.ofChange bondReadsSpec)) bondReadsCard

/-- THE TIED CARD OF 'stilelaw03.BondOwn'. -/
def bondOwnCard : Claim7 := { stood := { row := bondOwnRow, standIns := [], harness := (true, "80ea0a95fbc29dd48de23a87379f118e5c1cbbceddb5ff27f8add71a16f50030"), looks := false }, kinds := [], alts := [], laidByText := true, laidKinds := [.data, .pinned], laidTests := true, laidLooks := .later }
def BondOwnCardSaid : Prop := Claim7.holds Tryd.pinned (.plain (OpenSpec.ofChange bondOwnSpec)) bondOwnCard

/-- THE SECOND FORM's CARD OF 'stilelaw03.BondTexts'. -/
def bondTextsUptoCard : Claim7 := { stood := { row := bondTextsUptoRow, standIns := [], harness := (true, "80ea0a95fbc29dd48de23a87379f118e5c1cbbceddb5ff27f8add71a16f50030"), looks := false }, kinds := [], alts := [], laidByText := true, laidKinds := [.data, .pinned], laidTests := true, laidLooks := .later }
def BondTextsUptoCardSaid : Prop := Claim7.holds Tryd.pinned (.plain (OpenSpec.upto bondTextsSpec)) bondTextsUptoCard

/-- THE SECOND FORM's CARD OF 'stilelaw03.BondReads'. -/
def bondReadsUptoCard : Claim7 := { stood := { row := bondReadsUptoRow, standIns := [], harness := (true, "80ea0a95fbc29dd48de23a87379f118e5c1cbbceddb5ff27f8add71a16f50030"), looks := false }, kinds := [], alts := [], laidByText := true, laidKinds := [.data, .pinned], laidTests := true, laidLooks := .later }
def BondReadsUptoCardSaid : Prop := Claim7.holds Tryd.pinned (.plain (OpenSpec.upto bondReadsSpec)) bondReadsUptoCard

/-- THE SECOND FORM's CARD OF 'stilelaw03.BondOwn'. -/
def bondOwnUptoCard : Claim7 := { stood := { row := bondOwnUptoRow, standIns := [], harness := (true, "80ea0a95fbc29dd48de23a87379f118e5c1cbbceddb5ff27f8add71a16f50030"), looks := false }, kinds := [], alts := [], laidByText := true, laidKinds := [.data, .pinned], laidTests := true, laidLooks := .later }
def BondOwnUptoCardSaid : Prop := Claim7.holds Tryd.pinned (.plain (OpenSpec.upto bondOwnSpec)) bondOwnUptoCard
end Rows
end Go.Proofs.YtogafnocejpmdaaDoor
