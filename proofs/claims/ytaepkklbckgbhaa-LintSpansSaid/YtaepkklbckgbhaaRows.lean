/-
  No cell of these rows narrows 'for every input' (looked for: loops, veiled, ifaces, maps, wideKeys, modest, calm, conditions, laid).
  DERIVED. THE GIVEN ROWS OF THIS SEAT. 8 by the template 'for every input the law returns true; each argument reads behind the call as it read before'; 0 by the template 'total and deterministic' (their statements: YtaepkklbckgbhaaTotals.lean).
  GIVEN WITH THE SEED: the statements are not yours to turn. If you find one false, say at which input.
  Laid BY PROGRAM, IN A SANDBOX (cutbox-rows.mjs): the forced cells as the released guide's own fill.sh prints them over the translation 708cc4aaede47de5… (all of the seat's roots in one cut). By AI agents, Wed Nov 11 2026. No macro, syntax, notation, axiom, sorry.
-/
import Derived.Test.YtaepkklbckgbhaaChecked
import GoSem.Claim
import GoSem.ClaimJoined
import GoSem.ClaimMapViews
import Derived.JoinedTies
import Derived.KernelRfl
namespace Go.Proofs.Ytaepkklbckgbhaa
/- THE CELL 'sum', in the pinned program and in every row, IS THE sha256 OF THE DUMP (.gsa) THAT YtaepkklbckgbhaaProg.lean LOADS. Nothing in Lean hashes anything: it is a label: what it is worth is what the hold of that sum in a sandbox is worth. -/
noncomputable def Try.pinned : Pinned := { name := "ytaepkklbckgbhaa", sum := "708cc4aaede47de58b87cd58afad835af612a32ab52aad3b1cb18ac42604fd82", checked := Try.checked }
namespace Rows
def none {H : Type} : Left H := { results := [], args := [] }

/-- 'gimmallaw04.KeysSame': WHATEVER THE INPUT: true; the input reads as it did. -/
def keysSameSpec : ChangeSpec := { name := "keysSame", fn := fun _ => fun
  | [d1, d2, d3] => { results := [.lit (.bool true)], args := [d1, d2, d3] }
  | _ => none }
def keysSameRow : OpenClaim := { program := "ytaepkklbckgbhaa", sum := "708cc4aaede47de58b87cd58afad835af612a32ab52aad3b1cb18ac42604fd82", func := "gimmal/gimmallaw04.KeysSame", spec := "keysSame", unfollowed := true, recurses := true, apart := false }
def KeysSameSaid : Prop := keysSameRow.holds Try.pinned (OpenSpec.ofChange keysSameSpec)

/-- ITS FALSE NEIGHBOUR: 'it returns false'. Refute it at one input. -/
def keysSameWrong : ChangeSpec := { name := "keysSame", fn := fun _ => fun
  | [d1, d2, d3] => { results := [.lit (.bool false)], args := [d1, d2, d3] }
  | _ => none }
def KeysSameWrongFalsely : Prop := keysSameRow.holds Try.pinned (OpenSpec.ofChange keysSameWrong)

/-- 'gimmallaw04.KeysTwo': WHATEVER THE INPUT: true; the input reads as it did. -/
def keysTwoSpec : ChangeSpec := { name := "keysTwo", fn := fun _ => fun
  | [d1, d2] => { results := [.lit (.bool true)], args := [d1, d2] }
  | _ => none }
def keysTwoRow : OpenClaim := { program := "ytaepkklbckgbhaa", sum := "708cc4aaede47de58b87cd58afad835af612a32ab52aad3b1cb18ac42604fd82", func := "gimmal/gimmallaw04.KeysTwo", spec := "keysTwo", unfollowed := true, recurses := true, apart := false }
def KeysTwoSaid : Prop := keysTwoRow.holds Try.pinned (OpenSpec.ofChange keysTwoSpec)

/-- ITS FALSE NEIGHBOUR: 'it returns false'. Refute it at one input. -/
def keysTwoWrong : ChangeSpec := { name := "keysTwo", fn := fun _ => fun
  | [d1, d2] => { results := [.lit (.bool false)], args := [d1, d2] }
  | _ => none }
def KeysTwoWrongFalsely : Prop := keysTwoRow.holds Try.pinned (OpenSpec.ofChange keysTwoWrong)

/-- 'gimmallaw04.KeysParts': WHATEVER THE INPUT: true; the input reads as it did. -/
def keysPartsSpec : ChangeSpec := { name := "keysParts", fn := fun _ => fun
  | [d1, d2, d3] => { results := [.lit (.bool true)], args := [d1, d2, d3] }
  | _ => none }
def keysPartsRow : OpenClaim := { program := "ytaepkklbckgbhaa", sum := "708cc4aaede47de58b87cd58afad835af612a32ab52aad3b1cb18ac42604fd82", func := "gimmal/gimmallaw04.KeysParts", spec := "keysParts", unfollowed := true, recurses := true, apart := false }
def KeysPartsSaid : Prop := keysPartsRow.holds Try.pinned (OpenSpec.ofChange keysPartsSpec)

/-- ITS FALSE NEIGHBOUR: 'it returns false'. Refute it at one input. -/
def keysPartsWrong : ChangeSpec := { name := "keysParts", fn := fun _ => fun
  | [d1, d2, d3] => { results := [.lit (.bool false)], args := [d1, d2, d3] }
  | _ => none }
def KeysPartsWrongFalsely : Prop := keysPartsRow.holds Try.pinned (OpenSpec.ofChange keysPartsWrong)

/-- 'gimmallaw14.UnitsConflict': WHATEVER THE INPUT: true; the input reads as it did. -/
def unitsConflictSpec : ChangeSpec := { name := "unitsConflict", fn := fun _ => fun
  | [d1, d2] => { results := [.lit (.bool true)], args := [d1, d2] }
  | _ => none }
def unitsConflictRow : OpenClaim := { program := "ytaepkklbckgbhaa", sum := "708cc4aaede47de58b87cd58afad835af612a32ab52aad3b1cb18ac42604fd82", func := "gimmal/gimmallaw14.UnitsConflict", spec := "unitsConflict", unfollowed := true, recurses := true, apart := false }
def UnitsConflictSaid : Prop := unitsConflictRow.holds Try.pinned (OpenSpec.ofChange unitsConflictSpec)

/-- ITS FALSE NEIGHBOUR: 'it returns false'. Refute it at one input. -/
def unitsConflictWrong : ChangeSpec := { name := "unitsConflict", fn := fun _ => fun
  | [d1, d2] => { results := [.lit (.bool false)], args := [d1, d2] }
  | _ => none }
def UnitsConflictWrongFalsely : Prop := unitsConflictRow.holds Try.pinned (OpenSpec.ofChange unitsConflictWrong)

/-- 'gimmallaw04.KeysSets': WHATEVER THE INPUT: true; the input reads as it did. -/
def keysSetsSpec : ChangeSpec := { name := "keysSets", fn := fun _ => fun
  | [d1, d2] => { results := [.lit (.bool true)], args := [d1, d2] }
  | _ => none }
def keysSetsRow : OpenClaim := { program := "ytaepkklbckgbhaa", sum := "708cc4aaede47de58b87cd58afad835af612a32ab52aad3b1cb18ac42604fd82", func := "gimmal/gimmallaw04.KeysSets", spec := "keysSets", unfollowed := true, recurses := true, apart := false }
def KeysSetsSaid : Prop := keysSetsRow.holds Try.pinned (OpenSpec.ofChange keysSetsSpec)

/-- ITS FALSE NEIGHBOUR: 'it returns false'. Refute it at one input. -/
def keysSetsWrong : ChangeSpec := { name := "keysSets", fn := fun _ => fun
  | [d1, d2] => { results := [.lit (.bool false)], args := [d1, d2] }
  | _ => none }
def KeysSetsWrongFalsely : Prop := keysSetsRow.holds Try.pinned (OpenSpec.ofChange keysSetsWrong)

/-- 'gimmallaw27.LintSpans': WHATEVER THE INPUT: true; the input reads as it did. -/
def lintSpansSpec : ChangeSpec := { name := "lintSpans", fn := fun _ => fun
  | [d1, d2] => { results := [.lit (.bool true)], args := [d1, d2] }
  | _ => none }
def lintSpansRow : OpenClaim := { program := "ytaepkklbckgbhaa", sum := "708cc4aaede47de58b87cd58afad835af612a32ab52aad3b1cb18ac42604fd82", func := "gimmal/gimmallaw27.LintSpans", spec := "lintSpans", unfollowed := true, recurses := true, apart := false }
def LintSpansSaid : Prop := lintSpansRow.holds Try.pinned (OpenSpec.ofChange lintSpansSpec)

/-- ITS FALSE NEIGHBOUR: 'it returns false'. Refute it at one input. -/
def lintSpansWrong : ChangeSpec := { name := "lintSpans", fn := fun _ => fun
  | [d1, d2] => { results := [.lit (.bool false)], args := [d1, d2] }
  | _ => none }
def LintSpansWrongFalsely : Prop := lintSpansRow.holds Try.pinned (OpenSpec.ofChange lintSpansWrong)

/-- 'gimmallaw10.FootSpans': WHATEVER THE INPUT: true; the input reads as it did. -/
def footSpansSpec : ChangeSpec := { name := "footSpans", fn := fun _ => fun
  | [d1, d2, d3] => { results := [.lit (.bool true)], args := [d1, d2, d3] }
  | _ => none }
def footSpansRow : OpenClaim := { program := "ytaepkklbckgbhaa", sum := "708cc4aaede47de58b87cd58afad835af612a32ab52aad3b1cb18ac42604fd82", func := "gimmal/gimmallaw10.FootSpans", spec := "footSpans", unfollowed := true, recurses := true, apart := false }
def FootSpansSaid : Prop := footSpansRow.holds Try.pinned (OpenSpec.ofChange footSpansSpec)

/-- ITS FALSE NEIGHBOUR: 'it returns false'. Refute it at one input. -/
def footSpansWrong : ChangeSpec := { name := "footSpans", fn := fun _ => fun
  | [d1, d2, d3] => { results := [.lit (.bool false)], args := [d1, d2, d3] }
  | _ => none }
def FootSpansWrongFalsely : Prop := footSpansRow.holds Try.pinned (OpenSpec.ofChange footSpansWrong)

/-- 'gimmallaw10.FootCovers': WHATEVER THE INPUT: true; the input reads as it did. -/
def footCoversSpec : ChangeSpec := { name := "footCovers", fn := fun _ => fun
  | [d1, d2, d3, d4] => { results := [.lit (.bool true)], args := [d1, d2, d3, d4] }
  | _ => none }
def footCoversRow : OpenClaim := { program := "ytaepkklbckgbhaa", sum := "708cc4aaede47de58b87cd58afad835af612a32ab52aad3b1cb18ac42604fd82", func := "gimmal/gimmallaw10.FootCovers", spec := "footCovers", unfollowed := true, recurses := true, apart := false }
def FootCoversSaid : Prop := footCoversRow.holds Try.pinned (OpenSpec.ofChange footCoversSpec)

/-- ITS FALSE NEIGHBOUR: 'it returns false'. Refute it at one input. -/
def footCoversWrong : ChangeSpec := { name := "footCovers", fn := fun _ => fun
  | [d1, d2, d3, d4] => { results := [.lit (.bool false)], args := [d1, d2, d3, d4] }
  | _ => none }
def FootCoversWrongFalsely : Prop := footCoversRow.holds Try.pinned (OpenSpec.ofChange footCoversWrong)

/- THE SECOND FORM. 'bulk': how many values and letters a reading holds, each counted each time it is reached (what is shared counts as often as it is met; a slice's spare places count too). A statement '..UptoSaid' is the law's where the arguments, and the package variables that the reading takes, are together of bulk at most 1048576: NARROWER than '..Said'. Prove '..Said' where nothing that the law and all that it calls make is longer than what came in: it says more and counts as full. Else prove '..UptoSaid'. A law counts once. -/
mutual
def uptoBulk {H : Type} : DataW H → Nat
  | .lit (.string bytes) => bytes.length + 1
  | .lit _ => 1
  | .nil => 1
  | .ptr d => uptoBulk d + 1
  | .slice elems spare => uptoBulkAll elems + uptoBulkAll spare + 1
  | .agg parts => uptoBulkAll parts + 1
  | .iface _ d => uptoBulk d + 1
  | .map entries => uptoBulkEntries entries + 1
  | .held _ => 1
def uptoBulkAll {H : Type} : List (DataW H) → Nat
  | [] => 0
  | d :: r => uptoBulk d + uptoBulkAll r
def uptoBulkEntries {H : Type} : List (Lit × DataW H) → Nat
  | [] => 0
  | x :: r => uptoBulkEntry x + uptoBulkEntries r
def uptoBulkEntry {H : Type} : Lit × DataW H → Nat
  | (.string bytes, d) => bytes.length + uptoBulk d + 1
  | (_, d) => uptoBulk d + 1
 end
def uptoSmall : (H : Type) → List (DataW H) → Bool := fun _ ds => decide (uptoBulkAll ds ≤ 1048576)
def OpenSpec.upto (s : _root_.Go.ChangeSpec) : _root_.Go.OpenSpec := { _root_.Go.OpenSpec.ofChange s with cond := some uptoSmall }

/-- 'gimmallaw04.KeysSame', WHERE WHAT IT READS IS OF BULK AT MOST 1048576: true; the input reads as it did. -/
def keysSameUptoRow : OpenClaim := { program := "ytaepkklbckgbhaa", sum := "708cc4aaede47de58b87cd58afad835af612a32ab52aad3b1cb18ac42604fd82", func := "gimmal/gimmallaw04.KeysSame", spec := "keysSame", unfollowed := true, recurses := true, apart := false, narrowed := true }
def KeysSameUptoSaid : Prop := keysSameUptoRow.holds Try.pinned (OpenSpec.upto keysSameSpec)

/-- 'gimmallaw04.KeysTwo', WHERE WHAT IT READS IS OF BULK AT MOST 1048576: true; the input reads as it did. -/
def keysTwoUptoRow : OpenClaim := { program := "ytaepkklbckgbhaa", sum := "708cc4aaede47de58b87cd58afad835af612a32ab52aad3b1cb18ac42604fd82", func := "gimmal/gimmallaw04.KeysTwo", spec := "keysTwo", unfollowed := true, recurses := true, apart := false, narrowed := true }
def KeysTwoUptoSaid : Prop := keysTwoUptoRow.holds Try.pinned (OpenSpec.upto keysTwoSpec)

/-- 'gimmallaw04.KeysParts', WHERE WHAT IT READS IS OF BULK AT MOST 1048576: true; the input reads as it did. -/
def keysPartsUptoRow : OpenClaim := { program := "ytaepkklbckgbhaa", sum := "708cc4aaede47de58b87cd58afad835af612a32ab52aad3b1cb18ac42604fd82", func := "gimmal/gimmallaw04.KeysParts", spec := "keysParts", unfollowed := true, recurses := true, apart := false, narrowed := true }
def KeysPartsUptoSaid : Prop := keysPartsUptoRow.holds Try.pinned (OpenSpec.upto keysPartsSpec)

/-- 'gimmallaw14.UnitsConflict', WHERE WHAT IT READS IS OF BULK AT MOST 1048576: true; the input reads as it did. -/
def unitsConflictUptoRow : OpenClaim := { program := "ytaepkklbckgbhaa", sum := "708cc4aaede47de58b87cd58afad835af612a32ab52aad3b1cb18ac42604fd82", func := "gimmal/gimmallaw14.UnitsConflict", spec := "unitsConflict", unfollowed := true, recurses := true, apart := false, narrowed := true }
def UnitsConflictUptoSaid : Prop := unitsConflictUptoRow.holds Try.pinned (OpenSpec.upto unitsConflictSpec)

/-- 'gimmallaw04.KeysSets', WHERE WHAT IT READS IS OF BULK AT MOST 1048576: true; the input reads as it did. -/
def keysSetsUptoRow : OpenClaim := { program := "ytaepkklbckgbhaa", sum := "708cc4aaede47de58b87cd58afad835af612a32ab52aad3b1cb18ac42604fd82", func := "gimmal/gimmallaw04.KeysSets", spec := "keysSets", unfollowed := true, recurses := true, apart := false, narrowed := true }
def KeysSetsUptoSaid : Prop := keysSetsUptoRow.holds Try.pinned (OpenSpec.upto keysSetsSpec)

/-- 'gimmallaw27.LintSpans', WHERE WHAT IT READS IS OF BULK AT MOST 1048576: true; the input reads as it did. -/
def lintSpansUptoRow : OpenClaim := { program := "ytaepkklbckgbhaa", sum := "708cc4aaede47de58b87cd58afad835af612a32ab52aad3b1cb18ac42604fd82", func := "gimmal/gimmallaw27.LintSpans", spec := "lintSpans", unfollowed := true, recurses := true, apart := false, narrowed := true }
def LintSpansUptoSaid : Prop := lintSpansUptoRow.holds Try.pinned (OpenSpec.upto lintSpansSpec)

/-- 'gimmallaw10.FootSpans', WHERE WHAT IT READS IS OF BULK AT MOST 1048576: true; the input reads as it did. -/
def footSpansUptoRow : OpenClaim := { program := "ytaepkklbckgbhaa", sum := "708cc4aaede47de58b87cd58afad835af612a32ab52aad3b1cb18ac42604fd82", func := "gimmal/gimmallaw10.FootSpans", spec := "footSpans", unfollowed := true, recurses := true, apart := false, narrowed := true }
def FootSpansUptoSaid : Prop := footSpansUptoRow.holds Try.pinned (OpenSpec.upto footSpansSpec)

/-- 'gimmallaw10.FootCovers', WHERE WHAT IT READS IS OF BULK AT MOST 1048576: true; the input reads as it did. -/
def footCoversUptoRow : OpenClaim := { program := "ytaepkklbckgbhaa", sum := "708cc4aaede47de58b87cd58afad835af612a32ab52aad3b1cb18ac42604fd82", func := "gimmal/gimmallaw10.FootCovers", spec := "footCovers", unfollowed := true, recurses := true, apart := false, narrowed := true }
def FootCoversUptoSaid : Prop := footCoversUptoRow.holds Try.pinned (OpenSpec.upto footCoversSpec)

end Rows
end Go.Proofs.Ytaepkklbckgbhaa
