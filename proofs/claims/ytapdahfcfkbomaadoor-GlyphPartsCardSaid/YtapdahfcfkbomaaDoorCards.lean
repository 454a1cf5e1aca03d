/-
  DERIVED. GIVEN WITH THE SEED: THE CARDS: each row of YtapdahfcfkbomaaDoorRows.lean that lists a variable, with what it lists TIED to the program's text (the seventh form; the later family's looks); each row that meets fmt, with fmt's text TOLD by the authors' own Lean function (tested against real Go, not proved from fmt's source: count such statements apart). THE CARD IS WHAT COUNTS. Prove the row's statement (the work); the ties are given (YtapdahfcfkbomaaDoorTie.lean); close each card by the builder's one call (the guide's Derived/Test/ToyasCard.lean, 'card_holds'). Laid BY PROGRAM, IN A SANDBOX (cutbox-door.mjs). By AI agents, Wed Nov 11 2026. No macro, syntax, notation, axiom, sorry.
-/
import Derived.Test.YtapdahfcfkbomaaDoorRows
import GoSem.ClaimSeven
namespace Go.Proofs.YtapdahfcfkbomaaDoor
namespace Rows

/-- THE TIED CARD OF 'stilelaw01.GlyphCounts'. -/
def glyphCountsCard : Claim7 := { stood := { row := glyphCountsRow, standIns := [], harness := (true, "1dea650214e341e99d2499b1db021e3ccac41dc3298988b27b61b897e142e62a"), looks := true }, kinds := [], alts := [], laidByText := true, laidKinds := [.data, .data, .data, .data, .pinned], laidTests := true, laidLooks := .later }
def GlyphCountsCardSaid : Prop := Claim7.holds Tryd.pinned (.plain (OpenSpec.ofChange glyphCountsSpec)) glyphCountsCard

/-- THE TIED CARD OF 'stilelaw01.GlyphOrder'. -/
def glyphOrderCard : Claim7 := { stood := { row := glyphOrderRow, standIns := [], harness := (true, "1dea650214e341e99d2499b1db021e3ccac41dc3298988b27b61b897e142e62a"), looks := true }, kinds := [], alts := [], laidByText := true, laidKinds := [.data, .data, .data, .data, .pinned], laidTests := true, laidLooks := .later }
def GlyphOrderCardSaid : Prop := Claim7.holds Tryd.pinned (.plain (OpenSpec.ofChange glyphOrderSpec)) glyphOrderCard

/-- THE TIED CARD OF 'stilelaw01.GlyphNames'. -/
def glyphNamesCard : Claim7 := { stood := { row := glyphNamesRow, standIns := [], harness := (true, "1dea650214e341e99d2499b1db021e3ccac41dc3298988b27b61b897e142e62a"), looks := true }, kinds := [], alts := [], laidByText := true, laidKinds := [.data, .data, .data, .data, .pinned], laidTests := true, laidLooks := .later }
def GlyphNamesCardSaid : Prop := Claim7.holds Tryd.pinned (.plain (OpenSpec.ofChange glyphNamesSpec)) glyphNamesCard

/-- THE TIED CARD OF 'stilelaw01.GlyphClips'. -/
def glyphClipsCard : Claim7 := { stood := { row := glyphClipsRow, standIns := [], harness := (true, "1dea650214e341e99d2499b1db021e3ccac41dc3298988b27b61b897e142e62a"), looks := true }, kinds := [], alts := [], laidByText := true, laidKinds := [.data, .data, .data, .data, .pinned], laidTests := true, laidLooks := .later }
def GlyphClipsCardSaid : Prop := Claim7.holds Tryd.pinned (.plain (OpenSpec.ofChange glyphClipsSpec)) glyphClipsCard

/-- THE TIED CARD OF 'stilelaw01.GlyphParts'. -/
def glyphPartsCard : Claim7 := { stood := { row := glyphPartsRow, standIns := [], harness := (true, "1dea650214e341e99d2499b1db021e3ccac41dc3298988b27b61b897e142e62a"), looks := true }, kinds := [], alts := [], laidByText := true, laidKinds := [.data, .data, .data, .data, .pinned], laidTests := true, laidLooks := .later }
def GlyphPartsCardSaid : Prop := Claim7.holds Tryd.pinned (.plain (OpenSpec.ofChange glyphPartsSpec)) glyphPartsCard

/-- THE TIED CARD OF 'stilelaw01.GlyphQuotes'. -/
def glyphQuotesCard : Claim7 := { stood := { row := glyphQuotesRow, standIns := [], harness := (true, "1dea650214e341e99d2499b1db021e3ccac41dc3298988b27b61b897e142e62a"), looks := true }, kinds := [], alts := [], laidByText := true, laidKinds := [.data, .data, .data, .data, .sentinel, .sentinel, .pinned], laidTests := true, laidLooks := .later }
def GlyphQuotesCardSaid : Prop := Claim7.holds Tryd.pinned (.plain (OpenSpec.ofChange glyphQuotesSpec)) glyphQuotesCard

/-- THE SECOND FORM's CARD OF 'stilelaw01.GlyphCounts'. -/
def glyphCountsUptoCard : Claim7 := { stood := { row := glyphCountsUptoRow, standIns := [], harness := (true, "1dea650214e341e99d2499b1db021e3ccac41dc3298988b27b61b897e142e62a"), looks := true }, kinds := [], alts := [], laidByText := true, laidKinds := [.data, .data, .data, .data, .pinned], laidTests := true, laidLooks := .later }
def GlyphCountsUptoCardSaid : Prop := Claim7.holds Tryd.pinned (.plain (OpenSpec.upto glyphCountsSpec)) glyphCountsUptoCard

/-- THE SECOND FORM's CARD OF 'stilelaw01.GlyphOrder'. -/
def glyphOrderUptoCard : Claim7 := { stood := { row := glyphOrderUptoRow, standIns := [], harness := (true, "1dea650214e341e99d2499b1db021e3ccac41dc3298988b27b61b897e142e62a"), looks := true }, kinds := [], alts := [], laidByText := true, laidKinds := [.data, .data, .data, .data, .pinned], laidTests := true, laidLooks := .later }
def GlyphOrderUptoCardSaid : Prop := Claim7.holds Tryd.pinned (.plain (OpenSpec.upto glyphOrderSpec)) glyphOrderUptoCard

/-- THE SECOND FORM's CARD OF 'stilelaw01.GlyphNames'. -/
def glyphNamesUptoCard : Claim7 := { stood := { row := glyphNamesUptoRow, standIns := [], harness := (true, "1dea650214e341e99d2499b1db021e3ccac41dc3298988b27b61b897e142e62a"), looks := true }, kinds := [], alts := [], laidByText := true, laidKinds := [.data, .data, .data, .data, .pinned], laidTests := true, laidLooks := .later }
def GlyphNamesUptoCardSaid : Prop := Claim7.holds Tryd.pinned (.plain (OpenSpec.upto glyphNamesSpec)) glyphNamesUptoCard

/-- THE SECOND FORM's CARD OF 'stilelaw01.GlyphClips'. -/
def glyphClipsUptoCard : Claim7 := { stood := { row := glyphClipsUptoRow, standIns := [], harness := (true, "1dea650214e341e99d2499b1db021e3ccac41dc3298988b27b61b897e142e62a"), looks := true }, kinds := [], alts := [], laidByText := true, laidKinds := [.data, .data, .data, .data, .pinned], laidTests := true, laidLooks := .later }
def GlyphClipsUptoCardSaid : Prop := Claim7.holds Tryd.pinned (.plain (OpenSpec.upto glyphClipsSpec)) glyphClipsUptoCard

/-- THE SECOND FORM's CARD OF 'stilelaw01.GlyphParts'. -/
def glyphPartsUptoCard : Claim7 := { stood := { row := glyphPartsUptoRow, standIns := [], harness := (true, "1dea650214e341e99d2499b1db021e3ccac41dc3298988b27b61b897e142e62a"), looks := true }, kinds := [], alts := [], laidByText := true, laidKinds := [.data, .data, .data, .data, .pinned], laidTests := true, laidLooks := .later }
def GlyphPartsUptoCardSaid : Prop := Claim7.holds Tryd.pinned (.plain (OpenSpec.upto glyphPartsSpec)) glyphPartsUptoCard

/-- THE SECOND FORM's CARD OF 'stilelaw01.GlyphQuotes'. -/
def glyphQuotesUptoCard : Claim7 := { stood := { row := glyphQuotesUptoRow, standIns := [], harness := (true, "1dea650214e341e99d2499b1db021e3ccac41dc3298988b27b61b897e142e62a"), looks := true }, kinds := [], alts := [], laidByText := true, laidKinds := [.data, .data, .data, .data, .sentinel, .sentinel, .pinned], laidTests := true, laidLooks := .later }
def GlyphQuotesUptoCardSaid : Prop := Claim7.holds Tryd.pinned (.plain (OpenSpec.upto glyphQuotesSpec)) glyphQuotesUptoCard
end Rows
end Go.Proofs.YtapdahfcfkbomaaDoor
