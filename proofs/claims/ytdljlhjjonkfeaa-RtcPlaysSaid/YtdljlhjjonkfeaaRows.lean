/-
  No cell of these rows narrows 'for every input' (looked for: loops, veiled, ifaces, maps, wideKeys, modest, calm, conditions, laid).
  DERIVED. THE GIVEN ROWS OF THIS SEAT. 5 by the template 'for every input the law returns true; each argument reads behind the call as it read before'; 0 by the template 'total and deterministic' (their statements: YtdljlhjjonkfeaaTotals.lean).
  GIVEN WITH THE SEED: the statements are not yours to turn. If you find one false, say at which input.
  Laid BY PROGRAM, IN A SANDBOX (cutbox-rows.mjs): the forced cells as the released guide's own fill.sh prints them over the translation 4d92964c4540441d… (all of the seat's roots in one cut). By AI agents, Wed Nov 11 2026. No macro, syntax, notation, axiom, sorry.
-/
import Derived.Test.YtdljlhjjonkfeaaChecked
import GoSem.Claim
import GoSem.ClaimJoined
import GoSem.ClaimMapViews
import Derived.JoinedTies
import Derived.KernelRfl
namespace Go.Proofs.Ytdljlhjjonkfeaa
/- THE CELL 'sum', in the pinned program and in every row, IS THE sha256 OF THE DUMP (.gsa) THAT YtdljlhjjonkfeaaProg.lean LOADS. Nothing in Lean hashes anything: it is a label: what it is worth is what the hold of that sum in a sandbox is worth. -/
noncomputable def Try.pinned : Pinned := { name := "ytdljlhjjonkfeaa", sum := "4d92964c4540441dd304c0d1aabe4a5e739855c4b68e0f6f9eea19b54fc9b99e", checked := Try.checked }
namespace Rows
def none {H : Type} : Left H := { results := [], args := [] }

/-- 'arboretlaw18.ClockTicks': WHATEVER THE INPUT: true; the input reads as it did. -/
def clockTicksSpec : ChangeSpec := { name := "clockTicks", fn := fun _ => fun
  | [d1, d2, d3] => { results := [.lit (.bool true)], args := [d1, d2, d3] }
  | _ => none }
def clockTicksRow : OpenClaim := { program := "ytdljlhjjonkfeaa", sum := "4d92964c4540441dd304c0d1aabe4a5e739855c4b68e0f6f9eea19b54fc9b99e", func := "arboret/arboretlaw18.ClockTicks", spec := "clockTicks", apart := false }
def ClockTicksSaid : Prop := clockTicksRow.holds Try.pinned (OpenSpec.ofChange clockTicksSpec)

/-- ITS FALSE NEIGHBOUR: 'it returns false'. Refute it at one input. -/
def clockTicksWrong : ChangeSpec := { name := "clockTicks", fn := fun _ => fun
  | [d1, d2, d3] => { results := [.lit (.bool false)], args := [d1, d2, d3] }
  | _ => none }
def ClockTicksWrongFalsely : Prop := clockTicksRow.holds Try.pinned (OpenSpec.ofChange clockTicksWrong)

/-- 'arboretlaw18.ClockNil': WHATEVER THE INPUT: true; the input reads as it did. -/
def clockNilSpec : ChangeSpec := { name := "clockNil", fn := fun _ => fun
  | [d] => { results := [.lit (.bool true)], args := [d] }
  | _ => none }
def clockNilRow : OpenClaim := { program := "ytdljlhjjonkfeaa", sum := "4d92964c4540441dd304c0d1aabe4a5e739855c4b68e0f6f9eea19b54fc9b99e", func := "arboret/arboretlaw18.ClockNil", spec := "clockNil", apart := false }
def ClockNilSaid : Prop := clockNilRow.holds Try.pinned (OpenSpec.ofChange clockNilSpec)

/-- ITS FALSE NEIGHBOUR: 'it returns false'. Refute it at one input. -/
def clockNilWrong : ChangeSpec := { name := "clockNil", fn := fun _ => fun
  | [d] => { results := [.lit (.bool false)], args := [d] }
  | _ => none }
def ClockNilWrongFalsely : Prop := clockNilRow.holds Try.pinned (OpenSpec.ofChange clockNilWrong)

/-- 'arboretlaw20.RtcPlays': WHATEVER THE INPUT: true; the input reads as it did. -/
def rtcPlaysSpec : ChangeSpec := { name := "rtcPlays", fn := fun _ => fun
  | [d] => { results := [.lit (.bool true)], args := [d] }
  | _ => none }
def rtcPlaysRow : OpenClaim := { program := "ytdljlhjjonkfeaa", sum := "4d92964c4540441dd304c0d1aabe4a5e739855c4b68e0f6f9eea19b54fc9b99e", func := "arboret/arboretlaw20.RtcPlays", spec := "rtcPlays", apart := false }
def RtcPlaysSaid : Prop := rtcPlaysRow.holds Try.pinned (OpenSpec.ofChange rtcPlaysSpec)

/-- ITS FALSE NEIGHBOUR: 'it returns false'. Refute it at one input. -/
def rtcPlaysWrong : ChangeSpec := { name := "rtcPlays", fn := fun _ => fun
  | [d] => { results := [.lit (.bool false)], args := [d] }
  | _ => none }
def RtcPlaysWrongFalsely : Prop := rtcPlaysRow.holds Try.pinned (OpenSpec.ofChange rtcPlaysWrong)

/-- 'arboretlaw20.RtcAlarms': WHATEVER THE INPUT: true; the input reads as it did. -/
def rtcAlarmsSpec : ChangeSpec := { name := "rtcAlarms", fn := fun _ => fun
  | [d1, d2, d3] => { results := [.lit (.bool true)], args := [d1, d2, d3] }
  | _ => none }
def rtcAlarmsRow : OpenClaim := { program := "ytdljlhjjonkfeaa", sum := "4d92964c4540441dd304c0d1aabe4a5e739855c4b68e0f6f9eea19b54fc9b99e", func := "arboret/arboretlaw20.RtcAlarms", spec := "rtcAlarms", apart := false }
def RtcAlarmsSaid : Prop := rtcAlarmsRow.holds Try.pinned (OpenSpec.ofChange rtcAlarmsSpec)

/-- ITS FALSE NEIGHBOUR: 'it returns false'. Refute it at one input. -/
def rtcAlarmsWrong : ChangeSpec := { name := "rtcAlarms", fn := fun _ => fun
  | [d1, d2, d3] => { results := [.lit (.bool false)], args := [d1, d2, d3] }
  | _ => none }
def RtcAlarmsWrongFalsely : Prop := rtcAlarmsRow.holds Try.pinned (OpenSpec.ofChange rtcAlarmsWrong)

/-- 'arboretlaw20.RtcNil': WHATEVER THE INPUT: true; the input reads as it did. -/
def rtcNilSpec : ChangeSpec := { name := "rtcNil", fn := fun _ => fun
  | [d] => { results := [.lit (.bool true)], args := [d] }
  | _ => none }
def rtcNilRow : OpenClaim := { program := "ytdljlhjjonkfeaa", sum := "4d92964c4540441dd304c0d1aabe4a5e739855c4b68e0f6f9eea19b54fc9b99e", func := "arboret/arboretlaw20.RtcNil", spec := "rtcNil", apart := false }
def RtcNilSaid : Prop := rtcNilRow.holds Try.pinned (OpenSpec.ofChange rtcNilSpec)

/-- ITS FALSE NEIGHBOUR: 'it returns false'. Refute it at one input. -/
def rtcNilWrong : ChangeSpec := { name := "rtcNil", fn := fun _ => fun
  | [d] => { results := [.lit (.bool false)], args := [d] }
  | _ => none }
def RtcNilWrongFalsely : Prop := rtcNilRow.holds Try.pinned (OpenSpec.ofChange rtcNilWrong)

/- THE SECOND FORM. 'bulk': how many values and letters a reading holds, each counted each time it is reached (what is shared counts as often as it is met; a slice's spare places count too). A statement '..UptoSaid' is the law's where the arguments, and the package variables that the reading takes, are together of bulk at most 1048576: NARROWER than '..Said'. Prove '..Said' where nothing that the law and all that it calls make is longer than what came in: it says more and counts as full. Else prove '..UptoSaid'. A law counts once. -/
mutual
def uptoBulk {H : Type} : DataW H → Nat
  | .lit (.string bytes) => bytes.length + 1
  | .lit _ => 1
  | .nil => 1
  | .ptr d => uptoBulk d + 1
  | .slice elems spare => uptoBulkAll elems + uptoBulkAll spare + 1
  | .agg parts => uptoBulkAll parts + 1
  | .iface _ d => uptoBulk d + 1
  | .map entries => uptoBulkEntries entries + 1
  | .held _ => 1
def uptoBulkAll {H : Type} : List (DataW H) → Nat
  | [] => 0
  | d :: r => uptoBulk d + uptoBulkAll r
def uptoBulkEntries {H : Type} : List (Lit × DataW H) → Nat
  | [] => 0
  | x :: r => uptoBulkEntry x + uptoBulkEntries r
def uptoBulkEntry {H : Type} : Lit × DataW H → Nat
  | (.string bytes, d) => bytes.length + uptoBulk d + 1
  | (_, d) => uptoBulk d + 1
 end
def uptoSmall : (H : Type) → List (DataW H) → Bool := fun _ ds => decide (uptoBulkAll ds ≤ 1048576)
def OpenSpec.upto (s : _root_.Go.ChangeSpec) : _root_.Go.OpenSpec := { _root_.Go.OpenSpec.ofChange s with cond := some uptoSmall }

/-- 'arboretlaw18.ClockTicks', WHERE WHAT IT READS IS OF BULK AT MOST 1048576: true; the input reads as it did. -/
def clockTicksUptoRow : OpenClaim := { program := "ytdljlhjjonkfeaa", sum := "4d92964c4540441dd304c0d1aabe4a5e739855c4b68e0f6f9eea19b54fc9b99e", func := "arboret/arboretlaw18.ClockTicks", spec := "clockTicks", apart := false, narrowed := true }
def ClockTicksUptoSaid : Prop := clockTicksUptoRow.holds Try.pinned (OpenSpec.upto clockTicksSpec)

/-- 'arboretlaw18.ClockNil', WHERE WHAT IT READS IS OF BULK AT MOST 1048576: true; the input reads as it did. -/
def clockNilUptoRow : OpenClaim := { program := "ytdljlhjjonkfeaa", sum := "4d92964c4540441dd304c0d1aabe4a5e739855c4b68e0f6f9eea19b54fc9b99e", func := "arboret/arboretlaw18.ClockNil", spec := "clockNil", apart := false, narrowed := true }
def ClockNilUptoSaid : Prop := clockNilUptoRow.holds Try.pinned (OpenSpec.upto clockNilSpec)

/-- 'arboretlaw20.RtcPlays', WHERE WHAT IT READS IS OF BULK AT MOST 1048576: true; the input reads as it did. -/
def rtcPlaysUptoRow : OpenClaim := { program := "ytdljlhjjonkfeaa", sum := "4d92964c4540441dd304c0d1aabe4a5e739855c4b68e0f6f9eea19b54fc9b99e", func := "arboret/arboretlaw20.RtcPlays", spec := "rtcPlays", apart := false, narrowed := true }
def RtcPlaysUptoSaid : Prop := rtcPlaysUptoRow.holds Try.pinned (OpenSpec.upto rtcPlaysSpec)

/-- 'arboretlaw20.RtcAlarms', WHERE WHAT IT READS IS OF BULK AT MOST 1048576: true; the input reads as it did. -/
def rtcAlarmsUptoRow : OpenClaim := { program := "ytdljlhjjonkfeaa", sum := "4d92964c4540441dd304c0d1aabe4a5e739855c4b68e0f6f9eea19b54fc9b99e", func := "arboret/arboretlaw20.RtcAlarms", spec := "rtcAlarms", apart := false, narrowed := true }
def RtcAlarmsUptoSaid : Prop := rtcAlarmsUptoRow.holds Try.pinned (OpenSpec.upto rtcAlarmsSpec)

/-- 'arboretlaw20.RtcNil', WHERE WHAT IT READS IS OF BULK AT MOST 1048576: true; the input reads as it did. -/
def rtcNilUptoRow : OpenClaim := { program := "ytdljlhjjonkfeaa", sum := "4d92964c4540441dd304c0d1aabe4a5e739855c4b68e0f6f9eea19b54fc9b99e", func := "arboret/arboretlaw20.RtcNil", spec := "rtcNil", apart := false, narrowed := true }
def RtcNilUptoSaid : Prop := rtcNilUptoRow.holds Try.pinned (OpenSpec.upto rtcNilSpec)

end Rows
end Go.Proofs.Ytdljlhjjonkfeaa
