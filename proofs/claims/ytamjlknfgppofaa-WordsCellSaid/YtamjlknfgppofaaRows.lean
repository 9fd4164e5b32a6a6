/-
  No cell of these rows narrows 'for every input' (looked for: loops, veiled, ifaces, maps, wideKeys, modest, calm, conditions, laid).
  DERIVED. THE GIVEN ROWS OF THIS SEAT. 4 by the template 'for every input the law returns true; each argument reads behind the call as it read before'; 0 by the template 'total and deterministic' (their statements: YtamjlknfgppofaaTotals.lean).
  GIVEN WITH THE SEED: the statements are not yours to turn. If you find one false, say at which input.
  Laid BY PROGRAM, IN A SANDBOX (cutbox-rows.mjs): the forced cells as the released guide's own fill.sh prints them over the translation fb8cb4a0eeb61813… (all of the seat's roots in one cut). By AI agents, Wed Nov 11 2026. No macro, syntax, notation, axiom, sorry.
-/
import Derived.Test.YtamjlknfgppofaaChecked
import GoSem.Claim
import GoSem.ClaimJoined
import GoSem.ClaimMapViews
import Derived.JoinedTies
import Derived.KernelRfl
namespace Go.Proofs.Ytamjlknfgppofaa
/- THE CELL 'sum', in the pinned program and in every row, IS THE sha256 OF THE DUMP (.gsa) THAT YtamjlknfgppofaaProg.lean LOADS. Nothing in Lean hashes anything: it is a label: what it is worth is what the hold of that sum in a sandbox is worth. -/
noncomputable def Try.pinned : Pinned := { name := "ytamjlknfgppofaa", sum := "fb8cb4a0eeb61813ecf5b790f4ab2421902158d9f608022db6ee6cc2635ef39a", checked := Try.checked }
namespace Rows
def none {H : Type} : Left H := { results := [], args := [] }

/-- 'arboretlaw01.WordsPut': WHATEVER THE INPUT: true; the input reads as it did. -/
def wordsPutSpec : ChangeSpec := { name := "wordsPut", fn := fun _ => fun
  | [d1, d2, d3] => { results := [.lit (.bool true)], args := [d1, d2, d3] }
  | _ => none }
def wordsPutRow : OpenClaim := { program := "ytamjlknfgppofaa", sum := "fb8cb4a0eeb61813ecf5b790f4ab2421902158d9f608022db6ee6cc2635ef39a", func := "arboret/arboretlaw01.WordsPut", spec := "wordsPut", apart := false }
def WordsPutSaid : Prop := wordsPutRow.holds Try.pinned (OpenSpec.ofChange wordsPutSpec)

/-- ITS FALSE NEIGHBOUR: 'it returns false'. Refute it at one input. -/
def wordsPutWrong : ChangeSpec := { name := "wordsPut", fn := fun _ => fun
  | [d1, d2, d3] => { results := [.lit (.bool false)], args := [d1, d2, d3] }
  | _ => none }
def WordsPutWrongFalsely : Prop := wordsPutRow.holds Try.pinned (OpenSpec.ofChange wordsPutWrong)

/-- 'arboretlaw01.WordsCell': WHATEVER THE INPUT: true; the input reads as it did. -/
def wordsCellSpec : ChangeSpec := { name := "wordsCell", fn := fun _ => fun
  | [d1, d2, d3] => { results := [.lit (.bool true)], args := [d1, d2, d3] }
  | _ => none }
def wordsCellRow : OpenClaim := { program := "ytamjlknfgppofaa", sum := "fb8cb4a0eeb61813ecf5b790f4ab2421902158d9f608022db6ee6cc2635ef39a", func := "arboret/arboretlaw01.WordsCell", spec := "wordsCell", apart := false }
def WordsCellSaid : Prop := wordsCellRow.holds Try.pinned (OpenSpec.ofChange wordsCellSpec)

/-- ITS FALSE NEIGHBOUR: 'it returns false'. Refute it at one input. -/
def wordsCellWrong : ChangeSpec := { name := "wordsCell", fn := fun _ => fun
  | [d1, d2, d3] => { results := [.lit (.bool false)], args := [d1, d2, d3] }
  | _ => none }
def WordsCellWrongFalsely : Prop := wordsCellRow.holds Try.pinned (OpenSpec.ofChange wordsCellWrong)

/-- 'arboretlaw01.WordsTexts': WHATEVER THE INPUT: true; the input reads as it did. -/
def wordsTextsSpec : ChangeSpec := { name := "wordsTexts", fn := fun _ => fun
  | [d1, d2, d3] => { results := [.lit (.bool true)], args := [d1, d2, d3] }
  | _ => none }
def wordsTextsRow : OpenClaim := { program := "ytamjlknfgppofaa", sum := "fb8cb4a0eeb61813ecf5b790f4ab2421902158d9f608022db6ee6cc2635ef39a", func := "arboret/arboretlaw01.WordsTexts", spec := "wordsTexts", inPlace := ["internal/bytealg.IndexByte"], apart := false }
def WordsTextsSaid : Prop := wordsTextsRow.holds Try.pinned (OpenSpec.ofChange wordsTextsSpec)

/-- ITS FALSE NEIGHBOUR: 'it returns false'. Refute it at one input. -/
def wordsTextsWrong : ChangeSpec := { name := "wordsTexts", fn := fun _ => fun
  | [d1, d2, d3] => { results := [.lit (.bool false)], args := [d1, d2, d3] }
  | _ => none }
def WordsTextsWrongFalsely : Prop := wordsTextsRow.holds Try.pinned (OpenSpec.ofChange wordsTextsWrong)

/-- 'arboretlaw01.WordsGet': WHATEVER THE INPUT: true; the input reads as it did. -/
def wordsGetSpec : ChangeSpec := { name := "wordsGet", fn := fun _ => fun
  | [d1, d2] => { results := [.lit (.bool true)], args := [d1, d2] }
  | _ => none }
def wordsGetRow : OpenClaim := { program := "ytamjlknfgppofaa", sum := "fb8cb4a0eeb61813ecf5b790f4ab2421902158d9f608022db6ee6cc2635ef39a", func := "arboret/arboretlaw01.WordsGet", spec := "wordsGet", apart := false }
def WordsGetSaid : Prop := wordsGetRow.holds Try.pinned (OpenSpec.ofChange wordsGetSpec)

/-- ITS FALSE NEIGHBOUR: 'it returns false'. Refute it at one input. -/
def wordsGetWrong : ChangeSpec := { name := "wordsGet", fn := fun _ => fun
  | [d1, d2] => { results := [.lit (.bool false)], args := [d1, d2] }
  | _ => none }
def WordsGetWrongFalsely : Prop := wordsGetRow.holds Try.pinned (OpenSpec.ofChange wordsGetWrong)

/- THE SECOND FORM. 'bulk': how many values and letters a reading holds, each counted each time it is reached (what is shared counts as often as it is met; a slice's spare places count too). A statement '..UptoSaid' is the law's where the arguments, and the package variables that the reading takes, are together of bulk at most 1048576: NARROWER than '..Said'. Prove '..Said' where nothing that the law and all that it calls make is longer than what came in: it says more and counts as full. Else prove '..UptoSaid'. A law counts once. -/
mutual
def uptoBulk {H : Type} : DataW H → Nat
  | .lit (.string bytes) => bytes.length + 1
  | .lit _ => 1
  | .nil => 1
  | .ptr d => uptoBulk d + 1
  | .slice elems spare => uptoBulkAll elems + uptoBulkAll spare + 1
  | .agg parts => uptoBulkAll parts + 1
  | .iface _ d => uptoBulk d + 1
  | .map entries => uptoBulkEntries entries + 1
  | .held _ => 1
def uptoBulkAll {H : Type} : List (DataW H) → Nat
  | [] => 0
  | d :: r => uptoBulk d + uptoBulkAll r
def uptoBulkEntries {H : Type} : List (Lit × DataW H) → Nat
  | [] => 0
  | x :: r => uptoBulkEntry x + uptoBulkEntries r
def uptoBulkEntry {H : Type} : Lit × DataW H → Nat
  | (.string bytes, d) => bytes.length + uptoBulk d + 1
  | (_, d) => uptoBulk d + 1
 end
def uptoSmall : (H : Type) → List (DataW H) → Bool := fun _ ds => decide (uptoBulkAll ds ≤ 1048576)
def OpenSpec.upto (s : _root_.Go.ChangeSpec) : _root_.Go.OpenSpec := { _root_.Go.OpenSpec.ofChange s with cond := some uptoSmall }

/-- 'arboretlaw01.WordsPut', WHERE WHAT IT READS IS OF BULK AT MOST 1048576: true; the input reads as it did. -/
def wordsPutUptoRow : OpenClaim := { program := "ytamjlknfgppofaa", sum := "fb8cb4a0eeb61813ecf5b790f4ab2421902158d9f608022db6ee6cc2635ef39a", func := "arboret/arboretlaw01.WordsPut", spec := "wordsPut", apart := false, narrowed := true }
def WordsPutUptoSaid : Prop := wordsPutUptoRow.holds Try.pinned (OpenSpec.upto wordsPutSpec)

/-- 'arboretlaw01.WordsCell', WHERE WHAT IT READS IS OF BULK AT MOST 1048576: true; the input reads as it did. -/
def wordsCellUptoRow : OpenClaim := { program := "ytamjlknfgppofaa", sum := "fb8cb4a0eeb61813ecf5b790f4ab2421902158d9f608022db6ee6cc2635ef39a", func := "arboret/arboretlaw01.WordsCell", spec := "wordsCell", apart := false, narrowed := true }
def WordsCellUptoSaid : Prop := wordsCellUptoRow.holds Try.pinned (OpenSpec.upto wordsCellSpec)

/-- 'arboretlaw01.WordsTexts', WHERE WHAT IT READS IS OF BULK AT MOST 1048576: true; the input reads as it did. -/
def wordsTextsUptoRow : OpenClaim := { program := "ytamjlknfgppofaa", sum := "fb8cb4a0eeb61813ecf5b790f4ab2421902158d9f608022db6ee6cc2635ef39a", func := "arboret/arboretlaw01.WordsTexts", spec := "wordsTexts", inPlace := ["internal/bytealg.IndexByte"], apart := false, narrowed := true }
def WordsTextsUptoSaid : Prop := wordsTextsUptoRow.holds Try.pinned (OpenSpec.upto wordsTextsSpec)

/-- 'arboretlaw01.WordsGet', WHERE WHAT IT READS IS OF BULK AT MOST 1048576: true; the input reads as it did. -/
def wordsGetUptoRow : OpenClaim := { program := "ytamjlknfgppofaa", sum := "fb8cb4a0eeb61813ecf5b790f4ab2421902158d9f608022db6ee6cc2635ef39a", func := "arboret/arboretlaw01.WordsGet", spec := "wordsGet", apart := false, narrowed := true }
def WordsGetUptoSaid : Prop := wordsGetUptoRow.holds Try.pinned (OpenSpec.upto wordsGetSpec)

end Rows
end Go.Proofs.Ytamjlknfgppofaa
