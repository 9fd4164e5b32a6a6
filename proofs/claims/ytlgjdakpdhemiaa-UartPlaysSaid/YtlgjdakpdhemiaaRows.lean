/-
  No cell of these rows narrows 'for every input' (looked for: loops, veiled, ifaces, maps, wideKeys, modest, calm, conditions, laid).
  DERIVED. THE GIVEN ROWS OF THIS SEAT. 5 by the template 'for every input the law returns true; each argument reads behind the call as it read before'; 0 by the template 'total and deterministic' (their statements: YtlgjdakpdhemiaaTotals.lean).
  GIVEN WITH THE SEED: the statements are not yours to turn. If you find one false, say at which input.
  Laid BY PROGRAM, IN A SANDBOX (cutbox-rows.mjs): the forced cells as the released guide's own fill.sh prints them over the translation c03d4d85cedb795b… (all of the seat's roots in one cut). By AI agents, Wed Nov 11 2026. No macro, syntax, notation, axiom, sorry.
-/
import Derived.Test.YtlgjdakpdhemiaaChecked
import GoSem.Claim
import GoSem.ClaimJoined
import GoSem.ClaimMapViews
import Derived.JoinedTies
import Derived.KernelRfl
namespace Go.Proofs.Ytlgjdakpdhemiaa
/- THE CELL 'sum', in the pinned program and in every row, IS THE sha256 OF THE DUMP (.gsa) THAT YtlgjdakpdhemiaaProg.lean LOADS. Nothing in Lean hashes anything: it is a label: what it is worth is what the hold of that sum in a sandbox is worth. -/
noncomputable def Try.pinned : Pinned := { name := "ytlgjdakpdhemiaa", sum := "c03d4d85cedb795b3033507946787bad1b1baf72b9d25d85a7671169968e34bb", checked := Try.checked }
namespace Rows
def none {H : Type} : Left H := { results := [], args := [] }

/-- 'arboretlaw19.GpioEdges': WHATEVER THE INPUT: true; the input reads as it did. -/
def gpioEdgesSpec : ChangeSpec := { name := "gpioEdges", fn := fun _ => fun
  | [d1, d2] => { results := [.lit (.bool true)], args := [d1, d2] }
  | _ => none }
def gpioEdgesRow : OpenClaim := { program := "ytlgjdakpdhemiaa", sum := "c03d4d85cedb795b3033507946787bad1b1baf72b9d25d85a7671169968e34bb", func := "arboret/arboretlaw19.GpioEdges", spec := "gpioEdges", apart := false }
def GpioEdgesSaid : Prop := gpioEdgesRow.holds Try.pinned (OpenSpec.ofChange gpioEdgesSpec)

/-- ITS FALSE NEIGHBOUR: 'it returns false'. Refute it at one input. -/
def gpioEdgesWrong : ChangeSpec := { name := "gpioEdges", fn := fun _ => fun
  | [d1, d2] => { results := [.lit (.bool false)], args := [d1, d2] }
  | _ => none }
def GpioEdgesWrongFalsely : Prop := gpioEdgesRow.holds Try.pinned (OpenSpec.ofChange gpioEdgesWrong)

/-- 'arboretlaw17.UartQueue': WHATEVER THE INPUT: true; the input reads as it did. -/
def uartQueueSpec : ChangeSpec := { name := "uartQueue", fn := fun _ => fun
  | [d] => { results := [.lit (.bool true)], args := [d] }
  | _ => none }
def uartQueueRow : OpenClaim := { program := "ytlgjdakpdhemiaa", sum := "c03d4d85cedb795b3033507946787bad1b1baf72b9d25d85a7671169968e34bb", func := "arboret/arboretlaw17.UartQueue", spec := "uartQueue", apart := false }
def UartQueueSaid : Prop := uartQueueRow.holds Try.pinned (OpenSpec.ofChange uartQueueSpec)

/-- ITS FALSE NEIGHBOUR: 'it returns false'. Refute it at one input. -/
def uartQueueWrong : ChangeSpec := { name := "uartQueue", fn := fun _ => fun
  | [d] => { results := [.lit (.bool false)], args := [d] }
  | _ => none }
def UartQueueWrongFalsely : Prop := uartQueueRow.holds Try.pinned (OpenSpec.ofChange uartQueueWrong)

/-- 'arboretlaw19.GpioNil': WHATEVER THE INPUT: true; the input reads as it did. -/
def gpioNilSpec : ChangeSpec := { name := "gpioNil", fn := fun _ => fun
  | [d] => { results := [.lit (.bool true)], args := [d] }
  | _ => none }
def gpioNilRow : OpenClaim := { program := "ytlgjdakpdhemiaa", sum := "c03d4d85cedb795b3033507946787bad1b1baf72b9d25d85a7671169968e34bb", func := "arboret/arboretlaw19.GpioNil", spec := "gpioNil", apart := false }
def GpioNilSaid : Prop := gpioNilRow.holds Try.pinned (OpenSpec.ofChange gpioNilSpec)

/-- ITS FALSE NEIGHBOUR: 'it returns false'. Refute it at one input. -/
def gpioNilWrong : ChangeSpec := { name := "gpioNil", fn := fun _ => fun
  | [d] => { results := [.lit (.bool false)], args := [d] }
  | _ => none }
def GpioNilWrongFalsely : Prop := gpioNilRow.holds Try.pinned (OpenSpec.ofChange gpioNilWrong)

/-- 'arboretlaw17.UartPlays': WHATEVER THE INPUT: true; the input reads as it did. -/
def uartPlaysSpec : ChangeSpec := { name := "uartPlays", fn := fun _ => fun
  | [d] => { results := [.lit (.bool true)], args := [d] }
  | _ => none }
def uartPlaysRow : OpenClaim := { program := "ytlgjdakpdhemiaa", sum := "c03d4d85cedb795b3033507946787bad1b1baf72b9d25d85a7671169968e34bb", func := "arboret/arboretlaw17.UartPlays", spec := "uartPlays", apart := false }
def UartPlaysSaid : Prop := uartPlaysRow.holds Try.pinned (OpenSpec.ofChange uartPlaysSpec)

/-- ITS FALSE NEIGHBOUR: 'it returns false'. Refute it at one input. -/
def uartPlaysWrong : ChangeSpec := { name := "uartPlays", fn := fun _ => fun
  | [d] => { results := [.lit (.bool false)], args := [d] }
  | _ => none }
def UartPlaysWrongFalsely : Prop := uartPlaysRow.holds Try.pinned (OpenSpec.ofChange uartPlaysWrong)

/-- 'arboretlaw17.UartNil': WHATEVER THE INPUT: true; the input reads as it did. -/
def uartNilSpec : ChangeSpec := { name := "uartNil", fn := fun _ => fun
  | [d] => { results := [.lit (.bool true)], args := [d] }
  | _ => none }
def uartNilRow : OpenClaim := { program := "ytlgjdakpdhemiaa", sum := "c03d4d85cedb795b3033507946787bad1b1baf72b9d25d85a7671169968e34bb", func := "arboret/arboretlaw17.UartNil", spec := "uartNil", apart := false }
def UartNilSaid : Prop := uartNilRow.holds Try.pinned (OpenSpec.ofChange uartNilSpec)

/-- ITS FALSE NEIGHBOUR: 'it returns false'. Refute it at one input. -/
def uartNilWrong : ChangeSpec := { name := "uartNil", fn := fun _ => fun
  | [d] => { results := [.lit (.bool false)], args := [d] }
  | _ => none }
def UartNilWrongFalsely : Prop := uartNilRow.holds Try.pinned (OpenSpec.ofChange uartNilWrong)

/- THE SECOND FORM. 'bulk': how many values and letters a reading holds, each counted each time it is reached (what is shared counts as often as it is met; a slice's spare places count too). A statement '..UptoSaid' is the law's where the arguments, and the package variables that the reading takes, are together of bulk at most 1048576: NARROWER than '..Said'. Prove '..Said' where nothing that the law and all that it calls make is longer than what came in: it says more and counts as full. Else prove '..UptoSaid'. A law counts once. -/
mutual
def uptoBulk {H : Type} : DataW H → Nat
  | .lit (.string bytes) => bytes.length + 1
  | .lit _ => 1
  | .nil => 1
  | .ptr d => uptoBulk d + 1
  | .slice elems spare => uptoBulkAll elems + uptoBulkAll spare + 1
  | .agg parts => uptoBulkAll parts + 1
  | .iface _ d => uptoBulk d + 1
  | .map entries => uptoBulkEntries entries + 1
  | .held _ => 1
def uptoBulkAll {H : Type} : List (DataW H) → Nat
  | [] => 0
  | d :: r => uptoBulk d + uptoBulkAll r
def uptoBulkEntries {H : Type} : List (Lit × DataW H) → Nat
  | [] => 0
  | x :: r => uptoBulkEntry x + uptoBulkEntries r
def uptoBulkEntry {H : Type} : Lit × DataW H → Nat
  | (.string bytes, d) => bytes.length + uptoBulk d + 1
  | (_, d) => uptoBulk d + 1
 end
def uptoSmall : (H : Type) → List (DataW H) → Bool := fun _ ds => decide (uptoBulkAll ds ≤ 1048576)
def OpenSpec.upto (s : _root_.Go.ChangeSpec) : _root_.Go.OpenSpec := { _root_.Go.OpenSpec.ofChange s with cond := some uptoSmall }

/-- 'arboretlaw19.GpioEdges', WHERE WHAT IT READS IS OF BULK AT MOST 1048576: true; the input reads as it did. -/
def gpioEdgesUptoRow : OpenClaim := { program := "ytlgjdakpdhemiaa", sum := "c03d4d85cedb795b3033507946787bad1b1baf72b9d25d85a7671169968e34bb", func := "arboret/arboretlaw19.GpioEdges", spec := "gpioEdges", apart := false, narrowed := true }
def GpioEdgesUptoSaid : Prop := gpioEdgesUptoRow.holds Try.pinned (OpenSpec.upto gpioEdgesSpec)

/-- 'arboretlaw17.UartQueue', WHERE WHAT IT READS IS OF BULK AT MOST 1048576: true; the input reads as it did. -/
def uartQueueUptoRow : OpenClaim := { program := "ytlgjdakpdhemiaa", sum := "c03d4d85cedb795b3033507946787bad1b1baf72b9d25d85a7671169968e34bb", func := "arboret/arboretlaw17.UartQueue", spec := "uartQueue", apart := false, narrowed := true }
def UartQueueUptoSaid : Prop := uartQueueUptoRow.holds Try.pinned (OpenSpec.upto uartQueueSpec)

/-- 'arboretlaw19.GpioNil', WHERE WHAT IT READS IS OF BULK AT MOST 1048576: true; the input reads as it did. -/
def gpioNilUptoRow : OpenClaim := { program := "ytlgjdakpdhemiaa", sum := "c03d4d85cedb795b3033507946787bad1b1baf72b9d25d85a7671169968e34bb", func := "arboret/arboretlaw19.GpioNil", spec := "gpioNil", apart := false, narrowed := true }
def GpioNilUptoSaid : Prop := gpioNilUptoRow.holds Try.pinned (OpenSpec.upto gpioNilSpec)

/-- 'arboretlaw17.UartPlays', WHERE WHAT IT READS IS OF BULK AT MOST 1048576: true; the input reads as it did. -/
def uartPlaysUptoRow : OpenClaim := { program := "ytlgjdakpdhemiaa", sum := "c03d4d85cedb795b3033507946787bad1b1baf72b9d25d85a7671169968e34bb", func := "arboret/arboretlaw17.UartPlays", spec := "uartPlays", apart := false, narrowed := true }
def UartPlaysUptoSaid : Prop := uartPlaysUptoRow.holds Try.pinned (OpenSpec.upto uartPlaysSpec)

/-- 'arboretlaw17.UartNil', WHERE WHAT IT READS IS OF BULK AT MOST 1048576: true; the input reads as it did. -/
def uartNilUptoRow : OpenClaim := { program := "ytlgjdakpdhemiaa", sum := "c03d4d85cedb795b3033507946787bad1b1baf72b9d25d85a7671169968e34bb", func := "arboret/arboretlaw17.UartNil", spec := "uartNil", apart := false, narrowed := true }
def UartNilUptoSaid : Prop := uartNilUptoRow.holds Try.pinned (OpenSpec.upto uartNilSpec)

end Rows
end Go.Proofs.Ytlgjdakpdhemiaa
