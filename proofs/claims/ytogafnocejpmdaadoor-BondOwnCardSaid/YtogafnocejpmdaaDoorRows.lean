/-
  NARROWER THAN 'FOR EVERY INPUT', by the rows' own cells (each row's printed sentence says how): BondTexts: laid · BondReads: laid · BondOwn: laid.
  DERIVED. THE GIVEN ROWS OF THIS SEAT. 3 by the template 'for every input the law returns true; each argument reads behind the call as it read before'; 0 by the template 'total and deterministic' (their statements: YtogafnocejpmdaaDoorTotals.lean).
  GIVEN WITH THE SEED: the statements are not yours to turn. If you find one false, say at which input.
  Laid BY PROGRAM, IN A SANDBOX (cutbox-rows.mjs): the forced cells as the released guide's own fill.sh prints them over the translation bf4cf55c38af72f9… (all of the seat's roots in one cut). By AI agents, Wed Nov 11 2026. No macro, syntax, notation, axiom, sorry.
-/
import Derived.Test.YtogafnocejpmdaaDoorChecked
import GoSem.PinnedTables
import GoSem.Claim
import GoSem.ClaimJoined
import GoSem.ClaimMapViews
import Derived.JoinedTies
import Derived.KernelRfl
namespace Go.Proofs.YtogafnocejpmdaaDoor
/- THE CELL 'sum', in the pinned program and in every row, IS THE sha256 OF THE DUMP (.gsa) THAT YtogafnocejpmdaaDoorProg.lean LOADS. Nothing in Lean hashes anything: it is a label: what it is worth is what the hold of that sum in a sandbox is worth. -/
noncomputable def Tryd.pinned : Pinned := { name := "ytogafnocejpmdaadoor", sum := "bf4cf55c38af72f9b6c45d451fdf960c3faee81b4a5629aa15502a3cee54e005", checked := Tryd.checked }
namespace Rows
def none {H : Type} : Left H := { results := [], args := [] }

/- WHAT THE LISTED PACKAGE-LEVEL VARIABLES READ AS WHEN THE CALL BEGINS. Each datum BY PROGRAM (the guide's laid-datum.mjs) off the statement by which the dump's own 'gosem.cut.vars' lays the variable. In a bare row this is a premise. The card (YtogafnocejpmdaaDoorCards.lean) ties it to the program's text. -/
def laid_unicode_utf8_acceptRanges {H : Type} : DataW H := .agg [.agg [.lit (.int .u8 128), .lit (.int .u8 191)], .agg [.lit (.int .u8 160), .lit (.int .u8 191)], .agg [.lit (.int .u8 128), .lit (.int .u8 159)], .agg [.lit (.int .u8 144), .lit (.int .u8 191)], .agg [.lit (.int .u8 128), .lit (.int .u8 143)], .agg [.lit (.int .u8 0), .lit (.int .u8 0)], .agg [.lit (.int .u8 0), .lit (.int .u8 0)], .agg [.lit (.int .u8 0), .lit (.int .u8 0)], .agg [.lit (.int .u8 0), .lit (.int .u8 0)], .agg [.lit (.int .u8 0), .lit (.int .u8 0)], .agg [.lit (.int .u8 0), .lit (.int .u8 0)], .agg [.lit (.int .u8 0), .lit (.int .u8 0)], .agg [.lit (.int .u8 0), .lit (.int .u8 0)], .agg [.lit (.int .u8 0), .lit (.int .u8 0)], .agg [.lit (.int .u8 0), .lit (.int .u8 0)], .agg [.lit (.int .u8 0), .lit (.int .u8 0)]]
/-- One of Go's own tables, pinned by name: the form's constant. -/
def laid_unicode_utf8_first : DataW Unit := Go.Pinned.utf8First

/-- 'stilelaw03.BondTexts': WHATEVER THE INPUT: true; the input reads as it did. -/
def bondTextsSpec : ChangeSpec := { name := "bondTexts", fn := fun _ => fun
  | [d] => { results := [.lit (.bool true)], args := [d] }
  | _ => none }
def bondTextsRow : OpenClaim := { program := "ytogafnocejpmdaadoor", sum := "bf4cf55c38af72f9b6c45d451fdf960c3faee81b4a5629aa15502a3cee54e005", func := "stile/stilelaw03.BondTexts", spec := "bondTexts", named := ["unicode/utf8.first", "unicode/utf8.acceptRanges"], apart := false, laid := [("unicode/utf8.acceptRanges", laid_unicode_utf8_acceptRanges), ("unicode/utf8.first", laid_unicode_utf8_first)] }
def BondTextsSaid : Prop := bondTextsRow.holds Tryd.pinned (OpenSpec.ofChange bondTextsSpec)

/-- ITS FALSE NEIGHBOUR: 'it returns false'. Refute it at one input. -/
def bondTextsWrong : ChangeSpec := { name := "bondTexts", fn := fun _ => fun
  | [d] => { results := [.lit (.bool false)], args := [d] }
  | _ => none }
def BondTextsWrongFalsely : Prop := bondTextsRow.holds Tryd.pinned (OpenSpec.ofChange bondTextsWrong)

/-- 'stilelaw03.BondReads': WHATEVER THE INPUT: true; the input reads as it did. -/
def bondReadsSpec : ChangeSpec := { name := "bondReads", fn := fun _ => fun
  | [d] => { results := [.lit (.bool true)], args := [d] }
  | _ => none }
def bondReadsRow : OpenClaim := { program := "ytogafnocejpmdaadoor", sum := "bf4cf55c38af72f9b6c45d451fdf960c3faee81b4a5629aa15502a3cee54e005", func := "stile/stilelaw03.BondReads", spec := "bondReads", named := ["unicode/utf8.first", "unicode/utf8.acceptRanges"], apart := false, laid := [("unicode/utf8.acceptRanges", laid_unicode_utf8_acceptRanges), ("unicode/utf8.first", laid_unicode_utf8_first)] }
def BondReadsSaid : Prop := bondReadsRow.holds Tryd.pinned (OpenSpec.ofChange bondReadsSpec)

/-- ITS FALSE NEIGHBOUR: 'it returns false'. Refute it at one input. -/
def bondReadsWrong : ChangeSpec := { name := "bondReads", fn := fun _ => fun
  | [d] => { results := [.lit (.bool false)], args := [d] }
  | _ => none }
def BondReadsWrongFalsely : Prop := bondReadsRow.holds Tryd.pinned (OpenSpec.ofChange bondReadsWrong)

/-- 'stilelaw03.BondOwn': WHATEVER THE INPUT: true; the input reads as it did. -/
def bondOwnSpec : ChangeSpec := { name := "bondOwn", fn := fun _ => fun
  | [d1, d2, d3] => { results := [.lit (.bool true)], args := [d1, d2, d3] }
  | _ => none }
def bondOwnRow : OpenClaim := { program := "ytogafnocejpmdaadoor", sum := "bf4cf55c38af72f9b6c45d451fdf960c3faee81b4a5629aa15502a3cee54e005", func := "stile/stilelaw03.BondOwn", spec := "bondOwn", unfollowed := true, recurses := true, named := ["unicode/utf8.first", "unicode/utf8.acceptRanges"], apart := false, laid := [("unicode/utf8.acceptRanges", laid_unicode_utf8_acceptRanges), ("unicode/utf8.first", laid_unicode_utf8_first)] }
def BondOwnSaid : Prop := bondOwnRow.holds Tryd.pinned (OpenSpec.ofChange bondOwnSpec)

/-- ITS FALSE NEIGHBOUR: 'it returns false'. Refute it at one input. -/
def bondOwnWrong : ChangeSpec := { name := "bondOwn", fn := fun _ => fun
  | [d1, d2, d3] => { results := [.lit (.bool false)], args := [d1, d2, d3] }
  | _ => none }
def BondOwnWrongFalsely : Prop := bondOwnRow.holds Tryd.pinned (OpenSpec.ofChange bondOwnWrong)

/- THE SECOND FORM. 'bulk': how many values and letters a reading holds, each counted each time it is reached (what is shared counts as often as it is met; a slice's spare places count too). A statement '..UptoSaid' is the law's where the arguments, and the package variables that the reading takes, are together of bulk at most 1048576: NARROWER than '..Said'. Prove '..Said' where nothing that the law and all that it calls make is longer than what came in: it says more and counts as full. Else prove '..UptoSaid'. A law counts once. -/
mutual
def uptoBulk {H : Type} : DataW H → Nat
  | .lit (.string bytes) => bytes.length + 1
  | .lit _ => 1
  | .nil => 1
  | .ptr d => uptoBulk d + 1
  | .slice elems spare => uptoBulkAll elems + uptoBulkAll spare + 1
  | .agg parts => uptoBulkAll parts + 1
  | .iface _ d => uptoBulk d + 1
  | .map entries => uptoBulkEntries entries + 1
  | .held _ => 1
def uptoBulkAll {H : Type} : List (DataW H) → Nat
  | [] => 0
  | d :: r => uptoBulk d + uptoBulkAll r
def uptoBulkEntries {H : Type} : List (Lit × DataW H) → Nat
  | [] => 0
  | x :: r => uptoBulkEntry x + uptoBulkEntries r
def uptoBulkEntry {H : Type} : Lit × DataW H → Nat
  | (.string bytes, d) => bytes.length + uptoBulk d + 1
  | (_, d) => uptoBulk d + 1
 end
def uptoSmall : (H : Type) → List (DataW H) → Bool := fun _ ds => decide (uptoBulkAll ds ≤ 1048576)
def OpenSpec.upto (s : _root_.Go.ChangeSpec) : _root_.Go.OpenSpec := { _root_.Go.OpenSpec.ofChange s with cond := some uptoSmall }

/-- 'stilelaw03.BondTexts', WHERE WHAT IT READS IS OF BULK AT MOST 1048576: true; the input reads as it did. -/
def bondTextsUptoRow : OpenClaim := { program := "ytogafnocejpmdaadoor", sum := "bf4cf55c38af72f9b6c45d451fdf960c3faee81b4a5629aa15502a3cee54e005", func := "stile/stilelaw03.BondTexts", spec := "bondTexts", named := ["unicode/utf8.first", "unicode/utf8.acceptRanges"], apart := false, laid := [("unicode/utf8.acceptRanges", laid_unicode_utf8_acceptRanges), ("unicode/utf8.first", laid_unicode_utf8_first)], narrowed := true }
def BondTextsUptoSaid : Prop := bondTextsUptoRow.holds Tryd.pinned (OpenSpec.upto bondTextsSpec)

/-- 'stilelaw03.BondReads', WHERE WHAT IT READS IS OF BULK AT MOST 1048576: true; the input reads as it did. -/
def bondReadsUptoRow : OpenClaim := { program := "ytogafnocejpmdaadoor", sum := "bf4cf55c38af72f9b6c45d451fdf960c3faee81b4a5629aa15502a3cee54e005", func := "stile/stilelaw03.BondReads", spec := "bondReads", named := ["unicode/utf8.first", "unicode/utf8.acceptRanges"], apart := false, laid := [("unicode/utf8.acceptRanges", laid_unicode_utf8_acceptRanges), ("unicode/utf8.first", laid_unicode_utf8_first)], narrowed := true }
def BondReadsUptoSaid : Prop := bondReadsUptoRow.holds Tryd.pinned (OpenSpec.upto bondReadsSpec)

/-- 'stilelaw03.BondOwn', WHERE WHAT IT READS IS OF BULK AT MOST 1048576: true; the input reads as it did. -/
def bondOwnUptoRow : OpenClaim := { program := "ytogafnocejpmdaadoor", sum := "bf4cf55c38af72f9b6c45d451fdf960c3faee81b4a5629aa15502a3cee54e005", func := "stile/stilelaw03.BondOwn", spec := "bondOwn", unfollowed := true, recurses := true, named := ["unicode/utf8.first", "unicode/utf8.acceptRanges"], apart := false, laid := [("unicode/utf8.acceptRanges", laid_unicode_utf8_acceptRanges), ("unicode/utf8.first", laid_unicode_utf8_first)], narrowed := true }
def BondOwnUptoSaid : Prop := bondOwnUptoRow.holds Tryd.pinned (OpenSpec.upto bondOwnSpec)

end Rows
end Go.Proofs.YtogafnocejpmdaaDoor
