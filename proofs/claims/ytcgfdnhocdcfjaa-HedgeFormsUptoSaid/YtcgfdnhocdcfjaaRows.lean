/-
  No cell of these rows narrows 'for every input' (looked for: loops, veiled, ifaces, maps, wideKeys, modest, calm, conditions, laid).
  DERIVED. THE GIVEN ROWS OF THIS SEAT. 4 by the template 'for every input the law returns true; each argument reads behind the call as it read before'; 0 by the template 'total and deterministic' (their statements: YtcgfdnhocdcfjaaTotals.lean).
  GIVEN WITH THE SEED: the statements are not yours to turn. If you find one false, say at which input.
  Laid BY PROGRAM, IN A SANDBOX (cutbox-rows.mjs): the forced cells as the released guide's own fill.sh prints them over the translation 723c36ceca78d1a7… (all of the seat's roots in one cut). By AI agents, Wed Nov 11 2026. No macro, syntax, notation, axiom, sorry.
-/
import Derived.Test.YtcgfdnhocdcfjaaChecked
import GoSem.Claim
import GoSem.ClaimJoined
import GoSem.ClaimMapViews
import Derived.JoinedTies
import Derived.KernelRfl
namespace Go.Proofs.Ytcgfdnhocdcfjaa
/- THE CELL 'sum', in the pinned program and in every row, IS THE sha256 OF THE DUMP (.gsa) THAT YtcgfdnhocdcfjaaProg.lean LOADS. Nothing in Lean hashes anything: it is a label: what it is worth is what the hold of that sum in a sandbox is worth. -/
noncomputable def Try.pinned : Pinned := { name := "ytcgfdnhocdcfjaa", sum := "723c36ceca78d1a734776136e1fad8486114ac200113fa6fd954c75735e6643f", checked := Try.checked }
namespace Rows
def none {H : Type} : Left H := { results := [], args := [] }

/-- 'stilelaw15.HedgeUnders': WHATEVER THE INPUT: true; the input reads as it did. -/
def hedgeUndersSpec : ChangeSpec := { name := "hedgeUnders", fn := fun _ => fun
  | [d1, d2] => { results := [.lit (.bool true)], args := [d1, d2] }
  | _ => none }
def hedgeUndersRow : OpenClaim := { program := "ytcgfdnhocdcfjaa", sum := "723c36ceca78d1a734776136e1fad8486114ac200113fa6fd954c75735e6643f", func := "stile/stilelaw15.HedgeUnders", spec := "hedgeUnders", inPlace := ["internal/bytealg.abigen_runtime_cmpstring"], unfollowed := true, recurses := true, apart := false }
def HedgeUndersSaid : Prop := hedgeUndersRow.holds Try.pinned (OpenSpec.ofChange hedgeUndersSpec)

/-- ITS FALSE NEIGHBOUR: 'it returns false'. Refute it at one input. -/
def hedgeUndersWrong : ChangeSpec := { name := "hedgeUnders", fn := fun _ => fun
  | [d1, d2] => { results := [.lit (.bool false)], args := [d1, d2] }
  | _ => none }
def HedgeUndersWrongFalsely : Prop := hedgeUndersRow.holds Try.pinned (OpenSpec.ofChange hedgeUndersWrong)

/-- 'stilelaw15.HedgeRanks': WHATEVER THE INPUT: true; the input reads as it did. -/
def hedgeRanksSpec : ChangeSpec := { name := "hedgeRanks", fn := fun _ => fun
  | [d] => { results := [.lit (.bool true)], args := [d] }
  | _ => none }
def hedgeRanksRow : OpenClaim := { program := "ytcgfdnhocdcfjaa", sum := "723c36ceca78d1a734776136e1fad8486114ac200113fa6fd954c75735e6643f", func := "stile/stilelaw15.HedgeRanks", spec := "hedgeRanks", inPlace := ["internal/bytealg.abigen_runtime_cmpstring"], unfollowed := true, recurses := true, apart := false }
def HedgeRanksSaid : Prop := hedgeRanksRow.holds Try.pinned (OpenSpec.ofChange hedgeRanksSpec)

/-- ITS FALSE NEIGHBOUR: 'it returns false'. Refute it at one input. -/
def hedgeRanksWrong : ChangeSpec := { name := "hedgeRanks", fn := fun _ => fun
  | [d] => { results := [.lit (.bool false)], args := [d] }
  | _ => none }
def HedgeRanksWrongFalsely : Prop := hedgeRanksRow.holds Try.pinned (OpenSpec.ofChange hedgeRanksWrong)

/-- 'stilelaw15.HedgePlays': WHATEVER THE INPUT: true; the input reads as it did. -/
def hedgePlaysSpec : ChangeSpec := { name := "hedgePlays", fn := fun _ => fun
  | [d1, d2] => { results := [.lit (.bool true)], args := [d1, d2] }
  | _ => none }
def hedgePlaysRow : OpenClaim := { program := "ytcgfdnhocdcfjaa", sum := "723c36ceca78d1a734776136e1fad8486114ac200113fa6fd954c75735e6643f", func := "stile/stilelaw15.HedgePlays", spec := "hedgePlays", inPlace := ["internal/bytealg.abigen_runtime_cmpstring"], unfollowed := true, recurses := true, apart := false }
def HedgePlaysSaid : Prop := hedgePlaysRow.holds Try.pinned (OpenSpec.ofChange hedgePlaysSpec)

/-- ITS FALSE NEIGHBOUR: 'it returns false'. Refute it at one input. -/
def hedgePlaysWrong : ChangeSpec := { name := "hedgePlays", fn := fun _ => fun
  | [d1, d2] => { results := [.lit (.bool false)], args := [d1, d2] }
  | _ => none }
def HedgePlaysWrongFalsely : Prop := hedgePlaysRow.holds Try.pinned (OpenSpec.ofChange hedgePlaysWrong)

/-- 'stilelaw15.HedgeForms': WHATEVER THE INPUT: true; the input reads as it did. -/
def hedgeFormsSpec : ChangeSpec := { name := "hedgeForms", fn := fun _ => fun
  | [d1, d2, d3] => { results := [.lit (.bool true)], args := [d1, d2, d3] }
  | _ => none }
def hedgeFormsRow : OpenClaim := { program := "ytcgfdnhocdcfjaa", sum := "723c36ceca78d1a734776136e1fad8486114ac200113fa6fd954c75735e6643f", func := "stile/stilelaw15.HedgeForms", spec := "hedgeForms", inPlace := ["internal/bytealg.abigen_runtime_cmpstring"], unfollowed := true, recurses := true, apart := false }
def HedgeFormsSaid : Prop := hedgeFormsRow.holds Try.pinned (OpenSpec.ofChange hedgeFormsSpec)

/-- ITS FALSE NEIGHBOUR: 'it returns false'. Refute it at one input. -/
def hedgeFormsWrong : ChangeSpec := { name := "hedgeForms", fn := fun _ => fun
  | [d1, d2, d3] => { results := [.lit (.bool false)], args := [d1, d2, d3] }
  | _ => none }
def HedgeFormsWrongFalsely : Prop := hedgeFormsRow.holds Try.pinned (OpenSpec.ofChange hedgeFormsWrong)

/- THE SECOND FORM. 'bulk': how many values and letters a reading holds, each counted each time it is reached (what is shared counts as often as it is met; a slice's spare places count too). A statement '..UptoSaid' is the law's where the arguments, and the package variables that the reading takes, are together of bulk at most 1048576: NARROWER than '..Said'. Prove '..Said' where nothing that the law and all that it calls make is longer than what came in: it says more and counts as full. Else prove '..UptoSaid'. A law counts once. -/
mutual
def uptoBulk {H : Type} : DataW H → Nat
  | .lit (.string bytes) => bytes.length + 1
  | .lit _ => 1
  | .nil => 1
  | .ptr d => uptoBulk d + 1
  | .slice elems spare => uptoBulkAll elems + uptoBulkAll spare + 1
  | .agg parts => uptoBulkAll parts + 1
  | .iface _ d => uptoBulk d + 1
  | .map entries => uptoBulkEntries entries + 1
  | .held _ => 1
def uptoBulkAll {H : Type} : List (DataW H) → Nat
  | [] => 0
  | d :: r => uptoBulk d + uptoBulkAll r
def uptoBulkEntries {H : Type} : List (Lit × DataW H) → Nat
  | [] => 0
  | x :: r => uptoBulkEntry x + uptoBulkEntries r
def uptoBulkEntry {H : Type} : Lit × DataW H → Nat
  | (.string bytes, d) => bytes.length + uptoBulk d + 1
  | (_, d) => uptoBulk d + 1
 end
def uptoSmall : (H : Type) → List (DataW H) → Bool := fun _ ds => decide (uptoBulkAll ds ≤ 1048576)
def OpenSpec.upto (s : _root_.Go.ChangeSpec) : _root_.Go.OpenSpec := { _root_.Go.OpenSpec.ofChange s with cond := some uptoSmall }

/-- 'stilelaw15.HedgeUnders', WHERE WHAT IT READS IS OF BULK AT MOST 1048576: true; the input reads as it did. -/
def hedgeUndersUptoRow : OpenClaim := { program := "ytcgfdnhocdcfjaa", sum := "723c36ceca78d1a734776136e1fad8486114ac200113fa6fd954c75735e6643f", func := "stile/stilelaw15.HedgeUnders", spec := "hedgeUnders", inPlace := ["internal/bytealg.abigen_runtime_cmpstring"], unfollowed := true, recurses := true, apart := false, narrowed := true }
def HedgeUndersUptoSaid : Prop := hedgeUndersUptoRow.holds Try.pinned (OpenSpec.upto hedgeUndersSpec)

/-- 'stilelaw15.HedgeRanks', WHERE WHAT IT READS IS OF BULK AT MOST 1048576: true; the input reads as it did. -/
def hedgeRanksUptoRow : OpenClaim := { program := "ytcgfdnhocdcfjaa", sum := "723c36ceca78d1a734776136e1fad8486114ac200113fa6fd954c75735e6643f", func := "stile/stilelaw15.HedgeRanks", spec := "hedgeRanks", inPlace := ["internal/bytealg.abigen_runtime_cmpstring"], unfollowed := true, recurses := true, apart := false, narrowed := true }
def HedgeRanksUptoSaid : Prop := hedgeRanksUptoRow.holds Try.pinned (OpenSpec.upto hedgeRanksSpec)

/-- 'stilelaw15.HedgePlays', WHERE WHAT IT READS IS OF BULK AT MOST 1048576: true; the input reads as it did. -/
def hedgePlaysUptoRow : OpenClaim := { program := "ytcgfdnhocdcfjaa", sum := "723c36ceca78d1a734776136e1fad8486114ac200113fa6fd954c75735e6643f", func := "stile/stilelaw15.HedgePlays", spec := "hedgePlays", inPlace := ["internal/bytealg.abigen_runtime_cmpstring"], unfollowed := true, recurses := true, apart := false, narrowed := true }
def HedgePlaysUptoSaid : Prop := hedgePlaysUptoRow.holds Try.pinned (OpenSpec.upto hedgePlaysSpec)

/-- 'stilelaw15.HedgeForms', WHERE WHAT IT READS IS OF BULK AT MOST 1048576: true; the input reads as it did. -/
def hedgeFormsUptoRow : OpenClaim := { program := "ytcgfdnhocdcfjaa", sum := "723c36ceca78d1a734776136e1fad8486114ac200113fa6fd954c75735e6643f", func := "stile/stilelaw15.HedgeForms", spec := "hedgeForms", inPlace := ["internal/bytealg.abigen_runtime_cmpstring"], unfollowed := true, recurses := true, apart := false, narrowed := true }
def HedgeFormsUptoSaid : Prop := hedgeFormsUptoRow.holds Try.pinned (OpenSpec.upto hedgeFormsSpec)

end Rows
end Go.Proofs.Ytcgfdnhocdcfjaa
