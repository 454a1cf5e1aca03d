/-
  NARROWER THAN 'FOR EVERY INPUT', by the rows' own cells (each row's printed sentence says how): TractVia: loops · TractRefs: loops · TractParts: loops · TractBuilds: loops.
  DERIVED. THE GIVEN ROWS OF THIS SEAT. 4 by the template 'for every input the law returns true; each argument reads behind the call as it read before'; 0 by the template 'total and deterministic' (their statements: YtpilbomkdafdfaaTotals.lean).
  GIVEN WITH THE SEED: the statements are not yours to turn. If you find one false, say at which input.
  Laid BY PROGRAM, IN A SANDBOX (cutbox-rows.mjs): the forced cells as the released guide's own fill.sh prints them over the translation bcc130974938cc4e… (all of the seat's roots in one cut). By AI agents, Wed Nov 11 2026. No macro, syntax, notation, axiom, sorry.
-/
import Derived.Test.YtpilbomkdafdfaaChecked
import GoSem.Claim
import GoSem.ClaimJoined
import GoSem.ClaimMapViews
import Derived.JoinedTies
import Derived.KernelRfl
namespace Go.Proofs.Ytpilbomkdafdfaa
/- THE CELL 'sum', in the pinned program and in every row, IS THE sha256 OF THE DUMP (.gsa) THAT YtpilbomkdafdfaaProg.lean LOADS. Nothing in Lean hashes anything: it is a label: what it is worth is what the hold of that sum in a sandbox is worth. -/
noncomputable def Try.pinned : Pinned := { name := "ytpilbomkdafdfaa", sum := "bcc130974938cc4e6f7247868cde5bdb7f130410116fb346c697b44cf82abbad", checked := Try.checked }
namespace Rows
def none {H : Type} : Left H := { results := [], args := [] }

/-- 'stilelaw05.TractVia': WHATEVER THE INPUT: true; the input reads as it did. -/
def tractViaSpec : ChangeSpec := { name := "tractVia", fn := fun _ => fun
  | [d] => { results := [.lit (.bool true)], args := [d] }
  | _ => none }
def tractViaRow : OpenClaim := { program := "ytpilbomkdafdfaa", sum := "bcc130974938cc4e6f7247868cde5bdb7f130410116fb346c697b44cf82abbad", func := "stile/stilelaw05.TractVia", spec := "tractVia", unfollowed := true, recurses := true, loops := true, apart := false }
def TractViaSaid : Prop := tractViaRow.holds Try.pinned (OpenSpec.ofChange tractViaSpec)

/-- ITS FALSE NEIGHBOUR: 'it returns false'. Refute it at one input. -/
def tractViaWrong : ChangeSpec := { name := "tractVia", fn := fun _ => fun
  | [d] => { results := [.lit (.bool false)], args := [d] }
  | _ => none }
def TractViaWrongFalsely : Prop := tractViaRow.holds Try.pinned (OpenSpec.ofChange tractViaWrong)

/-- 'stilelaw05.TractRefs': WHATEVER THE INPUT: true; the input reads as it did. -/
def tractRefsSpec : ChangeSpec := { name := "tractRefs", fn := fun _ => fun
  | [d] => { results := [.lit (.bool true)], args := [d] }
  | _ => none }
def tractRefsRow : OpenClaim := { program := "ytpilbomkdafdfaa", sum := "bcc130974938cc4e6f7247868cde5bdb7f130410116fb346c697b44cf82abbad", func := "stile/stilelaw05.TractRefs", spec := "tractRefs", unfollowed := true, recurses := true, loops := true, apart := false }
def TractRefsSaid : Prop := tractRefsRow.holds Try.pinned (OpenSpec.ofChange tractRefsSpec)

/-- ITS FALSE NEIGHBOUR: 'it returns false'. Refute it at one input. -/
def tractRefsWrong : ChangeSpec := { name := "tractRefs", fn := fun _ => fun
  | [d] => { results := [.lit (.bool false)], args := [d] }
  | _ => none }
def TractRefsWrongFalsely : Prop := tractRefsRow.holds Try.pinned (OpenSpec.ofChange tractRefsWrong)

/-- 'stilelaw05.TractParts': WHATEVER THE INPUT: true; the input reads as it did. -/
def tractPartsSpec : ChangeSpec := { name := "tractParts", fn := fun _ => fun
  | [d1, d2, d3] => { results := [.lit (.bool true)], args := [d1, d2, d3] }
  | _ => none }
def tractPartsRow : OpenClaim := { program := "ytpilbomkdafdfaa", sum := "bcc130974938cc4e6f7247868cde5bdb7f130410116fb346c697b44cf82abbad", func := "stile/stilelaw05.TractParts", spec := "tractParts", unfollowed := true, recurses := true, loops := true, apart := false }
def TractPartsSaid : Prop := tractPartsRow.holds Try.pinned (OpenSpec.ofChange tractPartsSpec)

/-- ITS FALSE NEIGHBOUR: 'it returns false'. Refute it at one input. -/
def tractPartsWrong : ChangeSpec := { name := "tractParts", fn := fun _ => fun
  | [d1, d2, d3] => { results := [.lit (.bool false)], args := [d1, d2, d3] }
  | _ => none }
def TractPartsWrongFalsely : Prop := tractPartsRow.holds Try.pinned (OpenSpec.ofChange tractPartsWrong)

/-- 'stilelaw05.TractBuilds': WHATEVER THE INPUT: true; the input reads as it did. -/
def tractBuildsSpec : ChangeSpec := { name := "tractBuilds", fn := fun _ => fun
  | [d] => { results := [.lit (.bool true)], args := [d] }
  | _ => none }
def tractBuildsRow : OpenClaim := { program := "ytpilbomkdafdfaa", sum := "bcc130974938cc4e6f7247868cde5bdb7f130410116fb346c697b44cf82abbad", func := "stile/stilelaw05.TractBuilds", spec := "tractBuilds", unfollowed := true, recurses := true, loops := true, apart := false }
def TractBuildsSaid : Prop := tractBuildsRow.holds Try.pinned (OpenSpec.ofChange tractBuildsSpec)

/-- ITS FALSE NEIGHBOUR: 'it returns false'. Refute it at one input. -/
def tractBuildsWrong : ChangeSpec := { name := "tractBuilds", fn := fun _ => fun
  | [d] => { results := [.lit (.bool false)], args := [d] }
  | _ => none }
def TractBuildsWrongFalsely : Prop := tractBuildsRow.holds Try.pinned (OpenSpec.ofChange tractBuildsWrong)

/- THE SECOND FORM. 'bulk': how many values and letters a reading holds, each counted each time it is reached (what is shared counts as often as it is met; a slice's spare places count too). A statement '..UptoSaid' is the law's where the arguments, and the package variables that the reading takes, are together of bulk at most 1048576: NARROWER than '..Said'. Prove '..Said' where nothing that the law and all that it calls make is longer than what came in: it says more and counts as full. Else prove '..UptoSaid'. A law counts once. -/
mutual
def uptoBulk {H : Type} : DataW H → Nat
  | .lit (.string bytes) => bytes.length + 1
  | .lit _ => 1
  | .nil => 1
  | .ptr d => uptoBulk d + 1
  | .slice elems spare => uptoBulkAll elems + uptoBulkAll spare + 1
  | .agg parts => uptoBulkAll parts + 1
  | .iface _ d => uptoBulk d + 1
  | .map entries => uptoBulkEntries entries + 1
  | .held _ => 1
def uptoBulkAll {H : Type} : List (DataW H) → Nat
  | [] => 0
  | d :: r => uptoBulk d + uptoBulkAll r
def uptoBulkEntries {H : Type} : List (Lit × DataW H) → Nat
  | [] => 0
  | x :: r => uptoBulkEntry x + uptoBulkEntries r
def uptoBulkEntry {H : Type} : Lit × DataW H → Nat
  | (.string bytes, d) => bytes.length + uptoBulk d + 1
  | (_, d) => uptoBulk d + 1
 end
def uptoSmall : (H : Type) → List (DataW H) → Bool := fun _ ds => decide (uptoBulkAll ds ≤ 1048576)
def OpenSpec.upto (s : _root_.Go.ChangeSpec) : _root_.Go.OpenSpec := { _root_.Go.OpenSpec.ofChange s with cond := some uptoSmall }

/-- 'stilelaw05.TractVia', WHERE WHAT IT READS IS OF BULK AT MOST 1048576: true; the input reads as it did. -/
def tractViaUptoRow : OpenClaim := { program := "ytpilbomkdafdfaa", sum := "bcc130974938cc4e6f7247868cde5bdb7f130410116fb346c697b44cf82abbad", func := "stile/stilelaw05.TractVia", spec := "tractVia", unfollowed := true, recurses := true, loops := true, apart := false, narrowed := true }
def TractViaUptoSaid : Prop := tractViaUptoRow.holds Try.pinned (OpenSpec.upto tractViaSpec)

/-- 'stilelaw05.TractRefs', WHERE WHAT IT READS IS OF BULK AT MOST 1048576: true; the input reads as it did. -/
def tractRefsUptoRow : OpenClaim := { program := "ytpilbomkdafdfaa", sum := "bcc130974938cc4e6f7247868cde5bdb7f130410116fb346c697b44cf82abbad", func := "stile/stilelaw05.TractRefs", spec := "tractRefs", unfollowed := true, recurses := true, loops := true, apart := false, narrowed := true }
def TractRefsUptoSaid : Prop := tractRefsUptoRow.holds Try.pinned (OpenSpec.upto tractRefsSpec)

/-- 'stilelaw05.TractParts', WHERE WHAT IT READS IS OF BULK AT MOST 1048576: true; the input reads as it did. -/
def tractPartsUptoRow : OpenClaim := { program := "ytpilbomkdafdfaa", sum := "bcc130974938cc4e6f7247868cde5bdb7f130410116fb346c697b44cf82abbad", func := "stile/stilelaw05.TractParts", spec := "tractParts", unfollowed := true, recurses := true, loops := true, apart := false, narrowed := true }
def TractPartsUptoSaid : Prop := tractPartsUptoRow.holds Try.pinned (OpenSpec.upto tractPartsSpec)

/-- 'stilelaw05.TractBuilds', WHERE WHAT IT READS IS OF BULK AT MOST 1048576: true; the input reads as it did. -/
def tractBuildsUptoRow : OpenClaim := { program := "ytpilbomkdafdfaa", sum := "bcc130974938cc4e6f7247868cde5bdb7f130410116fb346c697b44cf82abbad", func := "stile/stilelaw05.TractBuilds", spec := "tractBuilds", unfollowed := true, recurses := true, loops := true, apart := false, narrowed := true }
def TractBuildsUptoSaid : Prop := tractBuildsUptoRow.holds Try.pinned (OpenSpec.upto tractBuildsSpec)

end Rows
end Go.Proofs.Ytpilbomkdafdfaa
