/-
  No cell of these rows narrows 'for every input' (looked for: loops, veiled, ifaces, maps, wideKeys, modest, calm, conditions, laid).
  DERIVED. THE GIVEN ROWS OF THIS SEAT. 6 by the template 'for every input the law returns true; each argument reads behind the call as it read before'; 0 by the template 'total and deterministic' (their statements: YtddhngalokmdoaaTotals.lean).
  GIVEN WITH THE SEED: the statements are not yours to turn. If you find one false, say at which input.
  Laid BY PROGRAM, IN A SANDBOX (cutbox-rows.mjs): the forced cells as the released guide's own fill.sh prints them over the translation b5ef289540fb0af7… (all of the seat's roots in one cut). By AI agents, Wed Nov 11 2026. No macro, syntax, notation, axiom, sorry.
-/
import Derived.Test.YtddhngalokmdoaaChecked
import GoSem.Claim
import GoSem.ClaimJoined
import GoSem.ClaimMapViews
import Derived.JoinedTies
import Derived.KernelRfl
namespace Go.Proofs.Ytddhngalokmdoaa
/- THE CELL 'sum', in the pinned program and in every row, IS THE sha256 OF THE DUMP (.gsa) THAT YtddhngalokmdoaaProg.lean LOADS. Nothing in Lean hashes anything: it is a label: what it is worth is what the hold of that sum in a sandbox is worth. -/
noncomputable def Try.pinned : Pinned := { name := "ytddhngalokmdoaa", sum := "b5ef289540fb0af7439f4dfc9f2913a4c0fa8a6f81834b15a477643bcac3435d", checked := Try.checked }
namespace Rows
def none {H : Type} : Left H := { results := [], args := [] }

/-- 'stilelaw13.SpoolSums': WHATEVER THE INPUT: true; the input reads as it did. -/
def spoolSumsSpec : ChangeSpec := { name := "spoolSums", fn := fun _ => fun
  | [d] => { results := [.lit (.bool true)], args := [d] }
  | _ => none }
def spoolSumsRow : OpenClaim := { program := "ytddhngalokmdoaa", sum := "b5ef289540fb0af7439f4dfc9f2913a4c0fa8a6f81834b15a477643bcac3435d", func := "stile/stilelaw13.SpoolSums", spec := "spoolSums", apart := false }
def SpoolSumsSaid : Prop := spoolSumsRow.holds Try.pinned (OpenSpec.ofChange spoolSumsSpec)

/-- ITS FALSE NEIGHBOUR: 'it returns false'. Refute it at one input. -/
def spoolSumsWrong : ChangeSpec := { name := "spoolSums", fn := fun _ => fun
  | [d] => { results := [.lit (.bool false)], args := [d] }
  | _ => none }
def SpoolSumsWrongFalsely : Prop := spoolSumsRow.holds Try.pinned (OpenSpec.ofChange spoolSumsWrong)

/-- 'stilelaw13.SpoolFinds': WHATEVER THE INPUT: true; the input reads as it did. -/
def spoolFindsSpec : ChangeSpec := { name := "spoolFinds", fn := fun _ => fun
  | [d1, d2, d3] => { results := [.lit (.bool true)], args := [d1, d2, d3] }
  | _ => none }
def spoolFindsRow : OpenClaim := { program := "ytddhngalokmdoaa", sum := "b5ef289540fb0af7439f4dfc9f2913a4c0fa8a6f81834b15a477643bcac3435d", func := "stile/stilelaw13.SpoolFinds", spec := "spoolFinds", apart := false }
def SpoolFindsSaid : Prop := spoolFindsRow.holds Try.pinned (OpenSpec.ofChange spoolFindsSpec)

/-- ITS FALSE NEIGHBOUR: 'it returns false'. Refute it at one input. -/
def spoolFindsWrong : ChangeSpec := { name := "spoolFinds", fn := fun _ => fun
  | [d1, d2, d3] => { results := [.lit (.bool false)], args := [d1, d2, d3] }
  | _ => none }
def SpoolFindsWrongFalsely : Prop := spoolFindsRow.holds Try.pinned (OpenSpec.ofChange spoolFindsWrong)

/-- 'stilelaw13.SpoolRoom': WHATEVER THE INPUT: true; the input reads as it did. -/
def spoolRoomSpec : ChangeSpec := { name := "spoolRoom", fn := fun _ => fun
  | [d1, d2] => { results := [.lit (.bool true)], args := [d1, d2] }
  | _ => none }
def spoolRoomRow : OpenClaim := { program := "ytddhngalokmdoaa", sum := "b5ef289540fb0af7439f4dfc9f2913a4c0fa8a6f81834b15a477643bcac3435d", func := "stile/stilelaw13.SpoolRoom", spec := "spoolRoom", apart := false }
def SpoolRoomSaid : Prop := spoolRoomRow.holds Try.pinned (OpenSpec.ofChange spoolRoomSpec)

/-- ITS FALSE NEIGHBOUR: 'it returns false'. Refute it at one input. -/
def spoolRoomWrong : ChangeSpec := { name := "spoolRoom", fn := fun _ => fun
  | [d1, d2] => { results := [.lit (.bool false)], args := [d1, d2] }
  | _ => none }
def SpoolRoomWrongFalsely : Prop := spoolRoomRow.holds Try.pinned (OpenSpec.ofChange spoolRoomWrong)

/-- 'stilelaw13.SpoolLaps': WHATEVER THE INPUT: true; the input reads as it did. -/
def spoolLapsSpec : ChangeSpec := { name := "spoolLaps", fn := fun _ => fun
  | [d1, d2] => { results := [.lit (.bool true)], args := [d1, d2] }
  | _ => none }
def spoolLapsRow : OpenClaim := { program := "ytddhngalokmdoaa", sum := "b5ef289540fb0af7439f4dfc9f2913a4c0fa8a6f81834b15a477643bcac3435d", func := "stile/stilelaw13.SpoolLaps", spec := "spoolLaps", apart := false }
def SpoolLapsSaid : Prop := spoolLapsRow.holds Try.pinned (OpenSpec.ofChange spoolLapsSpec)

/-- ITS FALSE NEIGHBOUR: 'it returns false'. Refute it at one input. -/
def spoolLapsWrong : ChangeSpec := { name := "spoolLaps", fn := fun _ => fun
  | [d1, d2] => { results := [.lit (.bool false)], args := [d1, d2] }
  | _ => none }
def SpoolLapsWrongFalsely : Prop := spoolLapsRow.holds Try.pinned (OpenSpec.ofChange spoolLapsWrong)

/-- 'stilelaw13.SpoolKeeps': WHATEVER THE INPUT: true; the input reads as it did. -/
def spoolKeepsSpec : ChangeSpec := { name := "spoolKeeps", fn := fun _ => fun
  | [d1, d2] => { results := [.lit (.bool true)], args := [d1, d2] }
  | _ => none }
def spoolKeepsRow : OpenClaim := { program := "ytddhngalokmdoaa", sum := "b5ef289540fb0af7439f4dfc9f2913a4c0fa8a6f81834b15a477643bcac3435d", func := "stile/stilelaw13.SpoolKeeps", spec := "spoolKeeps", apart := false }
def SpoolKeepsSaid : Prop := spoolKeepsRow.holds Try.pinned (OpenSpec.ofChange spoolKeepsSpec)

/-- ITS FALSE NEIGHBOUR: 'it returns false'. Refute it at one input. -/
def spoolKeepsWrong : ChangeSpec := { name := "spoolKeeps", fn := fun _ => fun
  | [d1, d2] => { results := [.lit (.bool false)], args := [d1, d2] }
  | _ => none }
def SpoolKeepsWrongFalsely : Prop := spoolKeepsRow.holds Try.pinned (OpenSpec.ofChange spoolKeepsWrong)

/-- 'stilelaw13.SpoolPlays': WHATEVER THE INPUT: true; the input reads as it did. -/
def spoolPlaysSpec : ChangeSpec := { name := "spoolPlays", fn := fun _ => fun
  | [d1, d2, d3] => { results := [.lit (.bool true)], args := [d1, d2, d3] }
  | _ => none }
def spoolPlaysRow : OpenClaim := { program := "ytddhngalokmdoaa", sum := "b5ef289540fb0af7439f4dfc9f2913a4c0fa8a6f81834b15a477643bcac3435d", func := "stile/stilelaw13.SpoolPlays", spec := "spoolPlays", apart := false }
def SpoolPlaysSaid : Prop := spoolPlaysRow.holds Try.pinned (OpenSpec.ofChange spoolPlaysSpec)

/-- ITS FALSE NEIGHBOUR: 'it returns false'. Refute it at one input. -/
def spoolPlaysWrong : ChangeSpec := { name := "spoolPlays", fn := fun _ => fun
  | [d1, d2, d3] => { results := [.lit (.bool false)], args := [d1, d2, d3] }
  | _ => none }
def SpoolPlaysWrongFalsely : Prop := spoolPlaysRow.holds Try.pinned (OpenSpec.ofChange spoolPlaysWrong)

/- THE SECOND FORM. 'bulk': how many values and letters a reading holds, each counted each time it is reached (what is shared counts as often as it is met; a slice's spare places count too). A statement '..UptoSaid' is the law's where the arguments, and the package variables that the reading takes, are together of bulk at most 1048576: NARROWER than '..Said'. Prove '..Said' where nothing that the law and all that it calls make is longer than what came in: it says more and counts as full. Else prove '..UptoSaid'. A law counts once. -/
mutual
def uptoBulk {H : Type} : DataW H → Nat
  | .lit (.string bytes) => bytes.length + 1
  | .lit _ => 1
  | .nil => 1
  | .ptr d => uptoBulk d + 1
  | .slice elems spare => uptoBulkAll elems + uptoBulkAll spare + 1
  | .agg parts => uptoBulkAll parts + 1
  | .iface _ d => uptoBulk d + 1
  | .map entries => uptoBulkEntries entries + 1
  | .held _ => 1
def uptoBulkAll {H : Type} : List (DataW H) → Nat
  | [] => 0
  | d :: r => uptoBulk d + uptoBulkAll r
def uptoBulkEntries {H : Type} : List (Lit × DataW H) → Nat
  | [] => 0
  | x :: r => uptoBulkEntry x + uptoBulkEntries r
def uptoBulkEntry {H : Type} : Lit × DataW H → Nat
  | (.string bytes, d) => bytes.length + uptoBulk d + 1
  | (_, d) => uptoBulk d + 1
 end
def uptoSmall : (H : Type) → List (DataW H) → Bool := fun _ ds => decide (uptoBulkAll ds ≤ 1048576)
def OpenSpec.upto (s : _root_.Go.ChangeSpec) : _root_.Go.OpenSpec := { _root_.Go.OpenSpec.ofChange s with cond := some uptoSmall }

/-- 'stilelaw13.SpoolSums', WHERE WHAT IT READS IS OF BULK AT MOST 1048576: true; the input reads as it did. -/
def spoolSumsUptoRow : OpenClaim := { program := "ytddhngalokmdoaa", sum := "b5ef289540fb0af7439f4dfc9f2913a4c0fa8a6f81834b15a477643bcac3435d", func := "stile/stilelaw13.SpoolSums", spec := "spoolSums", apart := false, narrowed := true }
def SpoolSumsUptoSaid : Prop := spoolSumsUptoRow.holds Try.pinned (OpenSpec.upto spoolSumsSpec)

/-- 'stilelaw13.SpoolFinds', WHERE WHAT IT READS IS OF BULK AT MOST 1048576: true; the input reads as it did. -/
def spoolFindsUptoRow : OpenClaim := { program := "ytddhngalokmdoaa", sum := "b5ef289540fb0af7439f4dfc9f2913a4c0fa8a6f81834b15a477643bcac3435d", func := "stile/stilelaw13.SpoolFinds", spec := "spoolFinds", apart := false, narrowed := true }
def SpoolFindsUptoSaid : Prop := spoolFindsUptoRow.holds Try.pinned (OpenSpec.upto spoolFindsSpec)

/-- 'stilelaw13.SpoolRoom', WHERE WHAT IT READS IS OF BULK AT MOST 1048576: true; the input reads as it did. -/
def spoolRoomUptoRow : OpenClaim := { program := "ytddhngalokmdoaa", sum := "b5ef289540fb0af7439f4dfc9f2913a4c0fa8a6f81834b15a477643bcac3435d", func := "stile/stilelaw13.SpoolRoom", spec := "spoolRoom", apart := false, narrowed := true }
def SpoolRoomUptoSaid : Prop := spoolRoomUptoRow.holds Try.pinned (OpenSpec.upto spoolRoomSpec)

/-- 'stilelaw13.SpoolLaps', WHERE WHAT IT READS IS OF BULK AT MOST 1048576: true; the input reads as it did. -/
def spoolLapsUptoRow : OpenClaim := { program := "ytddhngalokmdoaa", sum := "b5ef289540fb0af7439f4dfc9f2913a4c0fa8a6f81834b15a477643bcac3435d", func := "stile/stilelaw13.SpoolLaps", spec := "spoolLaps", apart := false, narrowed := true }
def SpoolLapsUptoSaid : Prop := spoolLapsUptoRow.holds Try.pinned (OpenSpec.upto spoolLapsSpec)

/-- 'stilelaw13.SpoolKeeps', WHERE WHAT IT READS IS OF BULK AT MOST 1048576: true; the input reads as it did. -/
def spoolKeepsUptoRow : OpenClaim := { program := "ytddhngalokmdoaa", sum := "b5ef289540fb0af7439f4dfc9f2913a4c0fa8a6f81834b15a477643bcac3435d", func := "stile/stilelaw13.SpoolKeeps", spec := "spoolKeeps", apart := false, narrowed := true }
def SpoolKeepsUptoSaid : Prop := spoolKeepsUptoRow.holds Try.pinned (OpenSpec.upto spoolKeepsSpec)

/-- 'stilelaw13.SpoolPlays', WHERE WHAT IT READS IS OF BULK AT MOST 1048576: true; the input reads as it did. -/
def spoolPlaysUptoRow : OpenClaim := { program := "ytddhngalokmdoaa", sum := "b5ef289540fb0af7439f4dfc9f2913a4c0fa8a6f81834b15a477643bcac3435d", func := "stile/stilelaw13.SpoolPlays", spec := "spoolPlays", apart := false, narrowed := true }
def SpoolPlaysUptoSaid : Prop := spoolPlaysUptoRow.holds Try.pinned (OpenSpec.upto spoolPlaysSpec)

end Rows
end Go.Proofs.Ytddhngalokmdoaa
