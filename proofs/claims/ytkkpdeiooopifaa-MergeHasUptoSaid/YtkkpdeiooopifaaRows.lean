/-
  NARROWER THAN 'FOR EVERY INPUT', by the rows' own cells (each row's printed sentence says how): MergeLays: loops · MergeTwice: loops · MergeHas: loops.
  DERIVED. THE GIVEN ROWS OF THIS SEAT. 3 by the template 'for every input the law returns true; each argument reads behind the call as it read before'; 0 by the template 'total and deterministic' (their statements: YtkkpdeiooopifaaTotals.lean).
  GIVEN WITH THE SEED: the statements are not yours to turn. If you find one false, say at which input.
  Laid BY PROGRAM, IN A SANDBOX (cutbox-rows.mjs): the forced cells as the released guide's own fill.sh prints them over the translation a775b237e400c407… (all of the seat's roots in one cut). By AI agents, Wed Nov 11 2026. No macro, syntax, notation, axiom, sorry.
-/
import Derived.Test.YtkkpdeiooopifaaChecked
import GoSem.Claim
import GoSem.ClaimJoined
import GoSem.ClaimMapViews
import Derived.JoinedTies
import Derived.KernelRfl
namespace Go.Proofs.Ytkkpdeiooopifaa
/- THE CELL 'sum', in the pinned program and in every row, IS THE sha256 OF THE DUMP (.gsa) THAT YtkkpdeiooopifaaProg.lean LOADS. Nothing in Lean hashes anything: it is a label: what it is worth is what the hold of that sum in a sandbox is worth. -/
noncomputable def Try.pinned : Pinned := { name := "ytkkpdeiooopifaa", sum := "a775b237e400c4077a13828131d78f3f6646aa3da27ce7bd0e3f5fe67292a24c", checked := Try.checked }
namespace Rows
def none {H : Type} : Left H := { results := [], args := [] }

/-- 'arboretlaw10.MergeLays': WHATEVER THE INPUT: true; the input reads as it did. -/
def mergeLaysSpec : ChangeSpec := { name := "mergeLays", fn := fun _ => fun
  | [d1, d2] => { results := [.lit (.bool true)], args := [d1, d2] }
  | _ => none }
def mergeLaysRow : OpenClaim := { program := "ytkkpdeiooopifaa", sum := "a775b237e400c4077a13828131d78f3f6646aa3da27ce7bd0e3f5fe67292a24c", func := "arboret/arboretlaw10.MergeLays", spec := "mergeLays", unfollowed := true, recurses := true, loops := true, apart := false }
def MergeLaysSaid : Prop := mergeLaysRow.holds Try.pinned (OpenSpec.ofChange mergeLaysSpec)

/-- ITS FALSE NEIGHBOUR: 'it returns false'. Refute it at one input. -/
def mergeLaysWrong : ChangeSpec := { name := "mergeLays", fn := fun _ => fun
  | [d1, d2] => { results := [.lit (.bool false)], args := [d1, d2] }
  | _ => none }
def MergeLaysWrongFalsely : Prop := mergeLaysRow.holds Try.pinned (OpenSpec.ofChange mergeLaysWrong)

/-- 'arboretlaw10.MergeTwice': WHATEVER THE INPUT: true; the input reads as it did. -/
def mergeTwiceSpec : ChangeSpec := { name := "mergeTwice", fn := fun _ => fun
  | [d1, d2] => { results := [.lit (.bool true)], args := [d1, d2] }
  | _ => none }
def mergeTwiceRow : OpenClaim := { program := "ytkkpdeiooopifaa", sum := "a775b237e400c4077a13828131d78f3f6646aa3da27ce7bd0e3f5fe67292a24c", func := "arboret/arboretlaw10.MergeTwice", spec := "mergeTwice", unfollowed := true, recurses := true, loops := true, apart := false }
def MergeTwiceSaid : Prop := mergeTwiceRow.holds Try.pinned (OpenSpec.ofChange mergeTwiceSpec)

/-- ITS FALSE NEIGHBOUR: 'it returns false'. Refute it at one input. -/
def mergeTwiceWrong : ChangeSpec := { name := "mergeTwice", fn := fun _ => fun
  | [d1, d2] => { results := [.lit (.bool false)], args := [d1, d2] }
  | _ => none }
def MergeTwiceWrongFalsely : Prop := mergeTwiceRow.holds Try.pinned (OpenSpec.ofChange mergeTwiceWrong)

/-- 'arboretlaw10.MergeHas': WHATEVER THE INPUT: true; the input reads as it did. -/
def mergeHasSpec : ChangeSpec := { name := "mergeHas", fn := fun _ => fun
  | [d1, d2] => { results := [.lit (.bool true)], args := [d1, d2] }
  | _ => none }
def mergeHasRow : OpenClaim := { program := "ytkkpdeiooopifaa", sum := "a775b237e400c4077a13828131d78f3f6646aa3da27ce7bd0e3f5fe67292a24c", func := "arboret/arboretlaw10.MergeHas", spec := "mergeHas", unfollowed := true, recurses := true, loops := true, apart := false }
def MergeHasSaid : Prop := mergeHasRow.holds Try.pinned (OpenSpec.ofChange mergeHasSpec)

/-- ITS FALSE NEIGHBOUR: 'it returns false'. Refute it at one input. -/
def mergeHasWrong : ChangeSpec := { name := "mergeHas", fn := fun _ => fun
  | [d1, d2] => { results := [.lit (.bool false)], args := [d1, d2] }
  | _ => none }
def MergeHasWrongFalsely : Prop := mergeHasRow.holds Try.pinned (OpenSpec.ofChange mergeHasWrong)

/- THE SECOND FORM. 'bulk': how many values and letters a reading holds, each counted each time it is reached (what is shared counts as often as it is met; a slice's spare places count too). A statement '..UptoSaid' is the law's where the arguments, and the package variables that the reading takes, are together of bulk at most 1048576: NARROWER than '..Said'. Prove '..Said' where nothing that the law and all that it calls make is longer than what came in: it says more and counts as full. Else prove '..UptoSaid'. A law counts once. -/
mutual
def uptoBulk {H : Type} : DataW H → Nat
  | .lit (.string bytes) => bytes.length + 1
  | .lit _ => 1
  | .nil => 1
  | .ptr d => uptoBulk d + 1
  | .slice elems spare => uptoBulkAll elems + uptoBulkAll spare + 1
  | .agg parts => uptoBulkAll parts + 1
  | .iface _ d => uptoBulk d + 1
  | .map entries => uptoBulkEntries entries + 1
  | .held _ => 1
def uptoBulkAll {H : Type} : List (DataW H) → Nat
  | [] => 0
  | d :: r => uptoBulk d + uptoBulkAll r
def uptoBulkEntries {H : Type} : List (Lit × DataW H) → Nat
  | [] => 0
  | x :: r => uptoBulkEntry x + uptoBulkEntries r
def uptoBulkEntry {H : Type} : Lit × DataW H → Nat
  | (.string bytes, d) => bytes.length + uptoBulk d + 1
  | (_, d) => uptoBulk d + 1
 end
def uptoSmall : (H : Type) → List (DataW H) → Bool := fun _ ds => decide (uptoBulkAll ds ≤ 1048576)
def OpenSpec.upto (s : _root_.Go.ChangeSpec) : _root_.Go.OpenSpec := { _root_.Go.OpenSpec.ofChange s with cond := some uptoSmall }

/-- 'arboretlaw10.MergeLays', WHERE WHAT IT READS IS OF BULK AT MOST 1048576: true; the input reads as it did. -/
def mergeLaysUptoRow : OpenClaim := { program := "ytkkpdeiooopifaa", sum := "a775b237e400c4077a13828131d78f3f6646aa3da27ce7bd0e3f5fe67292a24c", func := "arboret/arboretlaw10.MergeLays", spec := "mergeLays", unfollowed := true, recurses := true, loops := true, apart := false, narrowed := true }
def MergeLaysUptoSaid : Prop := mergeLaysUptoRow.holds Try.pinned (OpenSpec.upto mergeLaysSpec)

/-- 'arboretlaw10.MergeTwice', WHERE WHAT IT READS IS OF BULK AT MOST 1048576: true; the input reads as it did. -/
def mergeTwiceUptoRow : OpenClaim := { program := "ytkkpdeiooopifaa", sum := "a775b237e400c4077a13828131d78f3f6646aa3da27ce7bd0e3f5fe67292a24c", func := "arboret/arboretlaw10.MergeTwice", spec := "mergeTwice", unfollowed := true, recurses := true, loops := true, apart := false, narrowed := true }
def MergeTwiceUptoSaid : Prop := mergeTwiceUptoRow.holds Try.pinned (OpenSpec.upto mergeTwiceSpec)

/-- 'arboretlaw10.MergeHas', WHERE WHAT IT READS IS OF BULK AT MOST 1048576: true; the input reads as it did. -/
def mergeHasUptoRow : OpenClaim := { program := "ytkkpdeiooopifaa", sum := "a775b237e400c4077a13828131d78f3f6646aa3da27ce7bd0e3f5fe67292a24c", func := "arboret/arboretlaw10.MergeHas", spec := "mergeHas", unfollowed := true, recurses := true, loops := true, apart := false, narrowed := true }
def MergeHasUptoSaid : Prop := mergeHasUptoRow.holds Try.pinned (OpenSpec.upto mergeHasSpec)

end Rows
end Go.Proofs.Ytkkpdeiooopifaa
