/-
  No cell of these rows narrows 'for every input' (looked for: loops, veiled, ifaces, maps, wideKeys, modest, calm, conditions, laid).
  DERIVED. THE GIVEN ROWS OF THIS SEAT. 4 by the template 'for every input the law returns true; each argument reads behind the call as it read before'; 0 by the template 'total and deterministic' (their statements: YtaepkklbckgbhabTotals.lean).
  GIVEN WITH THE SEED: the statements are not yours to turn. If you find one false, say at which input.
  Laid BY PROGRAM, IN A SANDBOX (cutbox-rows.mjs): the forced cells as the released guide's own fill.sh prints them over the translation ba19637b6f66fa61… (all of the seat's roots in one cut). By AI agents, Wed Nov 11 2026. No macro, syntax, notation, axiom, sorry.
-/
import Derived.Test.YtaepkklbckgbhabChecked
import GoSem.Claim
import GoSem.ClaimJoined
import GoSem.ClaimMapViews
import Derived.JoinedTies
import Derived.KernelRfl
namespace Go.Proofs.Ytaepkklbckgbhab
/- THE CELL 'sum', in the pinned program and in every row, IS THE sha256 OF THE DUMP (.gsa) THAT YtaepkklbckgbhabProg.lean LOADS. Nothing in Lean hashes anything: it is a label: what it is worth is what the hold of that sum in a sandbox is worth. -/
noncomputable def Try.pinned : Pinned := { name := "ytaepkklbckgbhab", sum := "ba19637b6f66fa612ed18a7c430ce63c28bc509d04aa0b8563f5dd2d8a75130f", checked := Try.checked }
namespace Rows
def none {H : Type} : Left H := { results := [], args := [] }

/-- 'gimmallaw10.FootMore': WHATEVER THE INPUT: true; the input reads as it did. -/
def footMoreSpec : ChangeSpec := { name := "footMore", fn := fun _ => fun
  | [d1, d2, d3, d4, d5] => { results := [.lit (.bool true)], args := [d1, d2, d3, d4, d5] }
  | _ => none }
def footMoreRow : OpenClaim := { program := "ytaepkklbckgbhab", sum := "ba19637b6f66fa612ed18a7c430ce63c28bc509d04aa0b8563f5dd2d8a75130f", func := "gimmal/gimmallaw10.FootMore", spec := "footMore", unfollowed := true, recurses := true, apart := false }
def FootMoreSaid : Prop := footMoreRow.holds Try.pinned (OpenSpec.ofChange footMoreSpec)

/-- ITS FALSE NEIGHBOUR: 'it returns false'. Refute it at one input. -/
def footMoreWrong : ChangeSpec := { name := "footMore", fn := fun _ => fun
  | [d1, d2, d3, d4, d5] => { results := [.lit (.bool false)], args := [d1, d2, d3, d4, d5] }
  | _ => none }
def FootMoreWrongFalsely : Prop := footMoreRow.holds Try.pinned (OpenSpec.ofChange footMoreWrong)

/-- 'gimmallaw10.FootReads': WHATEVER THE INPUT: true; the input reads as it did. -/
def footReadsSpec : ChangeSpec := { name := "footReads", fn := fun _ => fun
  | [d] => { results := [.lit (.bool true)], args := [d] }
  | _ => none }
def footReadsRow : OpenClaim := { program := "ytaepkklbckgbhab", sum := "ba19637b6f66fa612ed18a7c430ce63c28bc509d04aa0b8563f5dd2d8a75130f", func := "gimmal/gimmallaw10.FootReads", spec := "footReads", unfollowed := true, recurses := true, apart := false }
def FootReadsSaid : Prop := footReadsRow.holds Try.pinned (OpenSpec.ofChange footReadsSpec)

/-- ITS FALSE NEIGHBOUR: 'it returns false'. Refute it at one input. -/
def footReadsWrong : ChangeSpec := { name := "footReads", fn := fun _ => fun
  | [d] => { results := [.lit (.bool false)], args := [d] }
  | _ => none }
def FootReadsWrongFalsely : Prop := footReadsRow.holds Try.pinned (OpenSpec.ofChange footReadsWrong)

/-- 'gimmallaw11.ClassFoot': WHATEVER THE INPUT: true; the input reads as it did. -/
def classFootSpec : ChangeSpec := { name := "classFoot", fn := fun _ => fun
  | [d1, d2, d3] => { results := [.lit (.bool true)], args := [d1, d2, d3] }
  | _ => none }
def classFootRow : OpenClaim := { program := "ytaepkklbckgbhab", sum := "ba19637b6f66fa612ed18a7c430ce63c28bc509d04aa0b8563f5dd2d8a75130f", func := "gimmal/gimmallaw11.ClassFoot", spec := "classFoot", unfollowed := true, recurses := true, apart := false }
def ClassFootSaid : Prop := classFootRow.holds Try.pinned (OpenSpec.ofChange classFootSpec)

/-- ITS FALSE NEIGHBOUR: 'it returns false'. Refute it at one input. -/
def classFootWrong : ChangeSpec := { name := "classFoot", fn := fun _ => fun
  | [d1, d2, d3] => { results := [.lit (.bool false)], args := [d1, d2, d3] }
  | _ => none }
def ClassFootWrongFalsely : Prop := classFootRow.holds Try.pinned (OpenSpec.ofChange classFootWrong)

/-- 'gimmallaw10.FootWords': WHATEVER THE INPUT: true; the input reads as it did. -/
def footWordsSpec : ChangeSpec := { name := "footWords", fn := fun _ => fun
  | [d1, d2] => { results := [.lit (.bool true)], args := [d1, d2] }
  | _ => none }
def footWordsRow : OpenClaim := { program := "ytaepkklbckgbhab", sum := "ba19637b6f66fa612ed18a7c430ce63c28bc509d04aa0b8563f5dd2d8a75130f", func := "gimmal/gimmallaw10.FootWords", spec := "footWords", unfollowed := true, recurses := true, apart := false }
def FootWordsSaid : Prop := footWordsRow.holds Try.pinned (OpenSpec.ofChange footWordsSpec)

/-- ITS FALSE NEIGHBOUR: 'it returns false'. Refute it at one input. -/
def footWordsWrong : ChangeSpec := { name := "footWords", fn := fun _ => fun
  | [d1, d2] => { results := [.lit (.bool false)], args := [d1, d2] }
  | _ => none }
def FootWordsWrongFalsely : Prop := footWordsRow.holds Try.pinned (OpenSpec.ofChange footWordsWrong)

/- THE SECOND FORM. 'bulk': how many values and letters a reading holds, each counted each time it is reached (what is shared counts as often as it is met; a slice's spare places count too). A statement '..UptoSaid' is the law's where the arguments, and the package variables that the reading takes, are together of bulk at most 1048576: NARROWER than '..Said'. Prove '..Said' where nothing that the law and all that it calls make is longer than what came in: it says more and counts as full. Else prove '..UptoSaid'. A law counts once. -/
mutual
def uptoBulk {H : Type} : DataW H → Nat
  | .lit (.string bytes) => bytes.length + 1
  | .lit _ => 1
  | .nil => 1
  | .ptr d => uptoBulk d + 1
  | .slice elems spare => uptoBulkAll elems + uptoBulkAll spare + 1
  | .agg parts => uptoBulkAll parts + 1
  | .iface _ d => uptoBulk d + 1
  | .map entries => uptoBulkEntries entries + 1
  | .held _ => 1
def uptoBulkAll {H : Type} : List (DataW H) → Nat
  | [] => 0
  | d :: r => uptoBulk d + uptoBulkAll r
def uptoBulkEntries {H : Type} : List (Lit × DataW H) → Nat
  | [] => 0
  | x :: r => uptoBulkEntry x + uptoBulkEntries r
def uptoBulkEntry {H : Type} : Lit × DataW H → Nat
  | (.string bytes, d) => bytes.length + uptoBulk d + 1
  | (_, d) => uptoBulk d + 1
 end
def uptoSmall : (H : Type) → List (DataW H) → Bool := fun _ ds => decide (uptoBulkAll ds ≤ 1048576)
def OpenSpec.upto (s : _root_.Go.ChangeSpec) : _root_.Go.OpenSpec := { _root_.Go.OpenSpec.ofChange s with cond := some uptoSmall }

/-- 'gimmallaw10.FootMore', WHERE WHAT IT READS IS OF BULK AT MOST 1048576: true; the input reads as it did. -/
def footMoreUptoRow : OpenClaim := { program := "ytaepkklbckgbhab", sum := "ba19637b6f66fa612ed18a7c430ce63c28bc509d04aa0b8563f5dd2d8a75130f", func := "gimmal/gimmallaw10.FootMore", spec := "footMore", unfollowed := true, recurses := true, apart := false, narrowed := true }
def FootMoreUptoSaid : Prop := footMoreUptoRow.holds Try.pinned (OpenSpec.upto footMoreSpec)

/-- 'gimmallaw10.FootReads', WHERE WHAT IT READS IS OF BULK AT MOST 1048576: true; the input reads as it did. -/
def footReadsUptoRow : OpenClaim := { program := "ytaepkklbckgbhab", sum := "ba19637b6f66fa612ed18a7c430ce63c28bc509d04aa0b8563f5dd2d8a75130f", func := "gimmal/gimmallaw10.FootReads", spec := "footReads", unfollowed := true, recurses := true, apart := false, narrowed := true }
def FootReadsUptoSaid : Prop := footReadsUptoRow.holds Try.pinned (OpenSpec.upto footReadsSpec)

/-- 'gimmallaw11.ClassFoot', WHERE WHAT IT READS IS OF BULK AT MOST 1048576: true; the input reads as it did. -/
def classFootUptoRow : OpenClaim := { program := "ytaepkklbckgbhab", sum := "ba19637b6f66fa612ed18a7c430ce63c28bc509d04aa0b8563f5dd2d8a75130f", func := "gimmal/gimmallaw11.ClassFoot", spec := "classFoot", unfollowed := true, recurses := true, apart := false, narrowed := true }
def ClassFootUptoSaid : Prop := classFootUptoRow.holds Try.pinned (OpenSpec.upto classFootSpec)

/-- 'gimmallaw10.FootWords', WHERE WHAT IT READS IS OF BULK AT MOST 1048576: true; the input reads as it did. -/
def footWordsUptoRow : OpenClaim := { program := "ytaepkklbckgbhab", sum := "ba19637b6f66fa612ed18a7c430ce63c28bc509d04aa0b8563f5dd2d8a75130f", func := "gimmal/gimmallaw10.FootWords", spec := "footWords", unfollowed := true, recurses := true, apart := false, narrowed := true }
def FootWordsUptoSaid : Prop := footWordsUptoRow.holds Try.pinned (OpenSpec.upto footWordsSpec)

end Rows
end Go.Proofs.Ytaepkklbckgbhab
