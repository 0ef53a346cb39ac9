/-
  No cell of these rows narrows 'for every input' (looked for: loops, veiled, ifaces, maps, wideKeys, modest, calm, conditions, laid).
  DERIVED. THE GIVEN ROWS OF THIS SEAT. 11 by the template 'for every input the law returns true; each argument reads behind the call as it read before'; 0 by the template 'total and deterministic' (their statements: YtedmjhckiiponaaTotals.lean).
  GIVEN WITH THE SEED: the statements are not yours to turn. If you find one false, say at which input.
  Laid BY PROGRAM, IN A SANDBOX (cutbox-rows.mjs): the forced cells as the released guide's own fill.sh prints them over the translation 50b82a63ad0d2502… (all of the seat's roots in one cut). By AI agents, Wed Nov 11 2026. No macro, syntax, notation, axiom, sorry.
-/
import Derived.Test.YtedmjhckiiponaaChecked
import GoSem.Claim
import GoSem.ClaimJoined
import GoSem.ClaimMapViews
import Derived.JoinedTies
import Derived.KernelRfl
namespace Go.Proofs.Ytedmjhckiiponaa
/- THE CELL 'sum', in the pinned program and in every row, IS THE sha256 OF THE DUMP (.gsa) THAT YtedmjhckiiponaaProg.lean LOADS. Nothing in Lean hashes anything: it is a label: what it is worth is what the hold of that sum in a sandbox is worth. -/
noncomputable def Try.pinned : Pinned := { name := "ytedmjhckiiponaa", sum := "50b82a63ad0d2502a0f2b195a47abc8416fc2f7d4ac9f2ddda2ab1ff0dad417c", checked := Try.checked }
namespace Rows
def none {H : Type} : Left H := { results := [], args := [] }

/-- 'gimmallaw01.CodesWrite': WHATEVER THE INPUT: true; the input reads as it did. -/
def codesWriteSpec : ChangeSpec := { name := "codesWrite", fn := fun _ => fun
  | [d] => { results := [.lit (.bool true)], args := [d] }
  | _ => none }
def codesWriteRow : OpenClaim := { program := "ytedmjhckiiponaa", sum := "50b82a63ad0d2502a0f2b195a47abc8416fc2f7d4ac9f2ddda2ab1ff0dad417c", func := "gimmal/gimmallaw01.CodesWrite", spec := "codesWrite", apart := false }
def CodesWriteSaid : Prop := codesWriteRow.holds Try.pinned (OpenSpec.ofChange codesWriteSpec)

/-- ITS FALSE NEIGHBOUR: 'it returns false'. Refute it at one input. -/
def codesWriteWrong : ChangeSpec := { name := "codesWrite", fn := fun _ => fun
  | [d] => { results := [.lit (.bool false)], args := [d] }
  | _ => none }
def CodesWriteWrongFalsely : Prop := codesWriteRow.holds Try.pinned (OpenSpec.ofChange codesWriteWrong)

/-- 'gimmallaw14.UnitsParts': WHATEVER THE INPUT: true; the input reads as it did. -/
def unitsPartsSpec : ChangeSpec := { name := "unitsParts", fn := fun _ => fun
  | [d1, d2, d3] => { results := [.lit (.bool true)], args := [d1, d2, d3] }
  | _ => none }
def unitsPartsRow : OpenClaim := { program := "ytedmjhckiiponaa", sum := "50b82a63ad0d2502a0f2b195a47abc8416fc2f7d4ac9f2ddda2ab1ff0dad417c", func := "gimmal/gimmallaw14.UnitsParts", spec := "unitsParts", unfollowed := true, recurses := true, apart := false }
def UnitsPartsSaid : Prop := unitsPartsRow.holds Try.pinned (OpenSpec.ofChange unitsPartsSpec)

/-- ITS FALSE NEIGHBOUR: 'it returns false'. Refute it at one input. -/
def unitsPartsWrong : ChangeSpec := { name := "unitsParts", fn := fun _ => fun
  | [d1, d2, d3] => { results := [.lit (.bool false)], args := [d1, d2, d3] }
  | _ => none }
def UnitsPartsWrongFalsely : Prop := unitsPartsRow.holds Try.pinned (OpenSpec.ofChange unitsPartsWrong)

/-- 'gimmallaw01.CodesRead': WHATEVER THE INPUT: true; the input reads as it did. -/
def codesReadSpec : ChangeSpec := { name := "codesRead", fn := fun _ => fun
  | [d1, d2] => { results := [.lit (.bool true)], args := [d1, d2] }
  | _ => none }
def codesReadRow : OpenClaim := { program := "ytedmjhckiiponaa", sum := "50b82a63ad0d2502a0f2b195a47abc8416fc2f7d4ac9f2ddda2ab1ff0dad417c", func := "gimmal/gimmallaw01.CodesRead", spec := "codesRead", unfollowed := true, recurses := true, apart := false }
def CodesReadSaid : Prop := codesReadRow.holds Try.pinned (OpenSpec.ofChange codesReadSpec)

/-- ITS FALSE NEIGHBOUR: 'it returns false'. Refute it at one input. -/
def codesReadWrong : ChangeSpec := { name := "codesRead", fn := fun _ => fun
  | [d1, d2] => { results := [.lit (.bool false)], args := [d1, d2] }
  | _ => none }
def CodesReadWrongFalsely : Prop := codesReadRow.holds Try.pinned (OpenSpec.ofChange codesReadWrong)

/-- 'gimmallaw14.UnitsBounds': WHATEVER THE INPUT: true; the input reads as it did. -/
def unitsBoundsSpec : ChangeSpec := { name := "unitsBounds", fn := fun _ => fun
  | [d1, d2, d3, d4] => { results := [.lit (.bool true)], args := [d1, d2, d3, d4] }
  | _ => none }
def unitsBoundsRow : OpenClaim := { program := "ytedmjhckiiponaa", sum := "50b82a63ad0d2502a0f2b195a47abc8416fc2f7d4ac9f2ddda2ab1ff0dad417c", func := "gimmal/gimmallaw14.UnitsBounds", spec := "unitsBounds", unfollowed := true, recurses := true, apart := false }
def UnitsBoundsSaid : Prop := unitsBoundsRow.holds Try.pinned (OpenSpec.ofChange unitsBoundsSpec)

/-- ITS FALSE NEIGHBOUR: 'it returns false'. Refute it at one input. -/
def unitsBoundsWrong : ChangeSpec := { name := "unitsBounds", fn := fun _ => fun
  | [d1, d2, d3, d4] => { results := [.lit (.bool false)], args := [d1, d2, d3, d4] }
  | _ => none }
def UnitsBoundsWrongFalsely : Prop := unitsBoundsRow.holds Try.pinned (OpenSpec.ofChange unitsBoundsWrong)

/-- 'gimmallaw01.CodesBack': WHATEVER THE INPUT: true; the input reads as it did. -/
def codesBackSpec : ChangeSpec := { name := "codesBack", fn := fun _ => fun
  | [d] => { results := [.lit (.bool true)], args := [d] }
  | _ => none }
def codesBackRow : OpenClaim := { program := "ytedmjhckiiponaa", sum := "50b82a63ad0d2502a0f2b195a47abc8416fc2f7d4ac9f2ddda2ab1ff0dad417c", func := "gimmal/gimmallaw01.CodesBack", spec := "codesBack", unfollowed := true, recurses := true, apart := false }
def CodesBackSaid : Prop := codesBackRow.holds Try.pinned (OpenSpec.ofChange codesBackSpec)

/-- ITS FALSE NEIGHBOUR: 'it returns false'. Refute it at one input. -/
def codesBackWrong : ChangeSpec := { name := "codesBack", fn := fun _ => fun
  | [d] => { results := [.lit (.bool false)], args := [d] }
  | _ => none }
def CodesBackWrongFalsely : Prop := codesBackRow.holds Try.pinned (OpenSpec.ofChange codesBackWrong)

/-- 'gimmallaw14.UnitsMay': WHATEVER THE INPUT: true; the input reads as it did. -/
def unitsMaySpec : ChangeSpec := { name := "unitsMay", fn := fun _ => fun
  | [d1, d2] => { results := [.lit (.bool true)], args := [d1, d2] }
  | _ => none }
def unitsMayRow : OpenClaim := { program := "ytedmjhckiiponaa", sum := "50b82a63ad0d2502a0f2b195a47abc8416fc2f7d4ac9f2ddda2ab1ff0dad417c", func := "gimmal/gimmallaw14.UnitsMay", spec := "unitsMay", unfollowed := true, recurses := true, apart := false }
def UnitsMaySaid : Prop := unitsMayRow.holds Try.pinned (OpenSpec.ofChange unitsMaySpec)

/-- ITS FALSE NEIGHBOUR: 'it returns false'. Refute it at one input. -/
def unitsMayWrong : ChangeSpec := { name := "unitsMay", fn := fun _ => fun
  | [d1, d2] => { results := [.lit (.bool false)], args := [d1, d2] }
  | _ => none }
def UnitsMayWrongFalsely : Prop := unitsMayRow.holds Try.pinned (OpenSpec.ofChange unitsMayWrong)

/-- 'gimmallaw12.CatOpen': WHATEVER THE INPUT: true; the input reads as it did. -/
def catOpenSpec : ChangeSpec := { name := "catOpen", fn := fun _ => fun
  | [d] => { results := [.lit (.bool true)], args := [d] }
  | _ => none }
def catOpenRow : OpenClaim := { program := "ytedmjhckiiponaa", sum := "50b82a63ad0d2502a0f2b195a47abc8416fc2f7d4ac9f2ddda2ab1ff0dad417c", func := "gimmal/gimmallaw12.CatOpen", spec := "catOpen", unfollowed := true, recurses := true, apart := false }
def CatOpenSaid : Prop := catOpenRow.holds Try.pinned (OpenSpec.ofChange catOpenSpec)

/-- ITS FALSE NEIGHBOUR: 'it returns false'. Refute it at one input. -/
def catOpenWrong : ChangeSpec := { name := "catOpen", fn := fun _ => fun
  | [d] => { results := [.lit (.bool false)], args := [d] }
  | _ => none }
def CatOpenWrongFalsely : Prop := catOpenRow.holds Try.pinned (OpenSpec.ofChange catOpenWrong)

/-- 'gimmallaw12.CatFiner': WHATEVER THE INPUT: true; the input reads as it did. -/
def catFinerSpec : ChangeSpec := { name := "catFiner", fn := fun _ => fun
  | [d1, d2, d3, d4] => { results := [.lit (.bool true)], args := [d1, d2, d3, d4] }
  | _ => none }
def catFinerRow : OpenClaim := { program := "ytedmjhckiiponaa", sum := "50b82a63ad0d2502a0f2b195a47abc8416fc2f7d4ac9f2ddda2ab1ff0dad417c", func := "gimmal/gimmallaw12.CatFiner", spec := "catFiner", unfollowed := true, recurses := true, apart := false }
def CatFinerSaid : Prop := catFinerRow.holds Try.pinned (OpenSpec.ofChange catFinerSpec)

/-- ITS FALSE NEIGHBOUR: 'it returns false'. Refute it at one input. -/
def catFinerWrong : ChangeSpec := { name := "catFiner", fn := fun _ => fun
  | [d1, d2, d3, d4] => { results := [.lit (.bool false)], args := [d1, d2, d3, d4] }
  | _ => none }
def CatFinerWrongFalsely : Prop := catFinerRow.holds Try.pinned (OpenSpec.ofChange catFinerWrong)

/-- 'gimmallaw11.ClassReads': WHATEVER THE INPUT: true; the input reads as it did. -/
def classReadsSpec : ChangeSpec := { name := "classReads", fn := fun _ => fun
  | [d] => { results := [.lit (.bool true)], args := [d] }
  | _ => none }
def classReadsRow : OpenClaim := { program := "ytedmjhckiiponaa", sum := "50b82a63ad0d2502a0f2b195a47abc8416fc2f7d4ac9f2ddda2ab1ff0dad417c", func := "gimmal/gimmallaw11.ClassReads", spec := "classReads", unfollowed := true, recurses := true, apart := false }
def ClassReadsSaid : Prop := classReadsRow.holds Try.pinned (OpenSpec.ofChange classReadsSpec)

/-- ITS FALSE NEIGHBOUR: 'it returns false'. Refute it at one input. -/
def classReadsWrong : ChangeSpec := { name := "classReads", fn := fun _ => fun
  | [d] => { results := [.lit (.bool false)], args := [d] }
  | _ => none }
def ClassReadsWrongFalsely : Prop := classReadsRow.holds Try.pinned (OpenSpec.ofChange classReadsWrong)

/-- 'gimmallaw14.UnitsNodes': WHATEVER THE INPUT: true; the input reads as it did. -/
def unitsNodesSpec : ChangeSpec := { name := "unitsNodes", fn := fun _ => fun
  | [d1, d2, d3, d4] => { results := [.lit (.bool true)], args := [d1, d2, d3, d4] }
  | _ => none }
def unitsNodesRow : OpenClaim := { program := "ytedmjhckiiponaa", sum := "50b82a63ad0d2502a0f2b195a47abc8416fc2f7d4ac9f2ddda2ab1ff0dad417c", func := "gimmal/gimmallaw14.UnitsNodes", spec := "unitsNodes", unfollowed := true, recurses := true, apart := false }
def UnitsNodesSaid : Prop := unitsNodesRow.holds Try.pinned (OpenSpec.ofChange unitsNodesSpec)

/-- ITS FALSE NEIGHBOUR: 'it returns false'. Refute it at one input. -/
def unitsNodesWrong : ChangeSpec := { name := "unitsNodes", fn := fun _ => fun
  | [d1, d2, d3, d4] => { results := [.lit (.bool false)], args := [d1, d2, d3, d4] }
  | _ => none }
def UnitsNodesWrongFalsely : Prop := unitsNodesRow.holds Try.pinned (OpenSpec.ofChange unitsNodesWrong)

/-- 'gimmallaw11.ClassWords': WHATEVER THE INPUT: true; the input reads as it did. -/
def classWordsSpec : ChangeSpec := { name := "classWords", fn := fun _ => fun
  | [d] => { results := [.lit (.bool true)], args := [d] }
  | _ => none }
def classWordsRow : OpenClaim := { program := "ytedmjhckiiponaa", sum := "50b82a63ad0d2502a0f2b195a47abc8416fc2f7d4ac9f2ddda2ab1ff0dad417c", func := "gimmal/gimmallaw11.ClassWords", spec := "classWords", unfollowed := true, recurses := true, apart := false }
def ClassWordsSaid : Prop := classWordsRow.holds Try.pinned (OpenSpec.ofChange classWordsSpec)

/-- ITS FALSE NEIGHBOUR: 'it returns false'. Refute it at one input. -/
def classWordsWrong : ChangeSpec := { name := "classWords", fn := fun _ => fun
  | [d] => { results := [.lit (.bool false)], args := [d] }
  | _ => none }
def ClassWordsWrongFalsely : Prop := classWordsRow.holds Try.pinned (OpenSpec.ofChange classWordsWrong)

/- THE SECOND FORM. 'bulk': how many values and letters a reading holds, each counted each time it is reached (what is shared counts as often as it is met; a slice's spare places count too). A statement '..UptoSaid' is the law's where the arguments, and the package variables that the reading takes, are together of bulk at most 1048576: NARROWER than '..Said'. Prove '..Said' where nothing that the law and all that it calls make is longer than what came in: it says more and counts as full. Else prove '..UptoSaid'. A law counts once. -/
mutual
def uptoBulk {H : Type} : DataW H → Nat
  | .lit (.string bytes) => bytes.length + 1
  | .lit _ => 1
  | .nil => 1
  | .ptr d => uptoBulk d + 1
  | .slice elems spare => uptoBulkAll elems + uptoBulkAll spare + 1
  | .agg parts => uptoBulkAll parts + 1
  | .iface _ d => uptoBulk d + 1
  | .map entries => uptoBulkEntries entries + 1
  | .held _ => 1
def uptoBulkAll {H : Type} : List (DataW H) → Nat
  | [] => 0
  | d :: r => uptoBulk d + uptoBulkAll r
def uptoBulkEntries {H : Type} : List (Lit × DataW H) → Nat
  | [] => 0
  | x :: r => uptoBulkEntry x + uptoBulkEntries r
def uptoBulkEntry {H : Type} : Lit × DataW H → Nat
  | (.string bytes, d) => bytes.length + uptoBulk d + 1
  | (_, d) => uptoBulk d + 1
 end
def uptoSmall : (H : Type) → List (DataW H) → Bool := fun _ ds => decide (uptoBulkAll ds ≤ 1048576)
def OpenSpec.upto (s : _root_.Go.ChangeSpec) : _root_.Go.OpenSpec := { _root_.Go.OpenSpec.ofChange s with cond := some uptoSmall }

/-- 'gimmallaw01.CodesWrite', WHERE WHAT IT READS IS OF BULK AT MOST 1048576: true; the input reads as it did. -/
def codesWriteUptoRow : OpenClaim := { program := "ytedmjhckiiponaa", sum := "50b82a63ad0d2502a0f2b195a47abc8416fc2f7d4ac9f2ddda2ab1ff0dad417c", func := "gimmal/gimmallaw01.CodesWrite", spec := "codesWrite", apart := false, narrowed := true }
def CodesWriteUptoSaid : Prop := codesWriteUptoRow.holds Try.pinned (OpenSpec.upto codesWriteSpec)

/-- 'gimmallaw14.UnitsParts', WHERE WHAT IT READS IS OF BULK AT MOST 1048576: true; the input reads as it did. -/
def unitsPartsUptoRow : OpenClaim := { program := "ytedmjhckiiponaa", sum := "50b82a63ad0d2502a0f2b195a47abc8416fc2f7d4ac9f2ddda2ab1ff0dad417c", func := "gimmal/gimmallaw14.UnitsParts", spec := "unitsParts", unfollowed := true, recurses := true, apart := false, narrowed := true }
def UnitsPartsUptoSaid : Prop := unitsPartsUptoRow.holds Try.pinned (OpenSpec.upto unitsPartsSpec)

/-- 'gimmallaw01.CodesRead', WHERE WHAT IT READS IS OF BULK AT MOST 1048576: true; the input reads as it did. -/
def codesReadUptoRow : OpenClaim := { program := "ytedmjhckiiponaa", sum := "50b82a63ad0d2502a0f2b195a47abc8416fc2f7d4ac9f2ddda2ab1ff0dad417c", func := "gimmal/gimmallaw01.CodesRead", spec := "codesRead", unfollowed := true, recurses := true, apart := false, narrowed := true }
def CodesReadUptoSaid : Prop := codesReadUptoRow.holds Try.pinned (OpenSpec.upto codesReadSpec)

/-- 'gimmallaw14.UnitsBounds', WHERE WHAT IT READS IS OF BULK AT MOST 1048576: true; the input reads as it did. -/
def unitsBoundsUptoRow : OpenClaim := { program := "ytedmjhckiiponaa", sum := "50b82a63ad0d2502a0f2b195a47abc8416fc2f7d4ac9f2ddda2ab1ff0dad417c", func := "gimmal/gimmallaw14.UnitsBounds", spec := "unitsBounds", unfollowed := true, recurses := true, apart := false, narrowed := true }
def UnitsBoundsUptoSaid : Prop := unitsBoundsUptoRow.holds Try.pinned (OpenSpec.upto unitsBoundsSpec)

/-- 'gimmallaw01.CodesBack', WHERE WHAT IT READS IS OF BULK AT MOST 1048576: true; the input reads as it did. -/
def codesBackUptoRow : OpenClaim := { program := "ytedmjhckiiponaa", sum := "50b82a63ad0d2502a0f2b195a47abc8416fc2f7d4ac9f2ddda2ab1ff0dad417c", func := "gimmal/gimmallaw01.CodesBack", spec := "codesBack", unfollowed := true, recurses := true, apart := false, narrowed := true }
def CodesBackUptoSaid : Prop := codesBackUptoRow.holds Try.pinned (OpenSpec.upto codesBackSpec)

/-- 'gimmallaw14.UnitsMay', WHERE WHAT IT READS IS OF BULK AT MOST 1048576: true; the input reads as it did. -/
def unitsMayUptoRow : OpenClaim := { program := "ytedmjhckiiponaa", sum := "50b82a63ad0d2502a0f2b195a47abc8416fc2f7d4ac9f2ddda2ab1ff0dad417c", func := "gimmal/gimmallaw14.UnitsMay", spec := "unitsMay", unfollowed := true, recurses := true, apart := false, narrowed := true }
def UnitsMayUptoSaid : Prop := unitsMayUptoRow.holds Try.pinned (OpenSpec.upto unitsMaySpec)

/-- 'gimmallaw12.CatOpen', WHERE WHAT IT READS IS OF BULK AT MOST 1048576: true; the input reads as it did. -/
def catOpenUptoRow : OpenClaim := { program := "ytedmjhckiiponaa", sum := "50b82a63ad0d2502a0f2b195a47abc8416fc2f7d4ac9f2ddda2ab1ff0dad417c", func := "gimmal/gimmallaw12.CatOpen", spec := "catOpen", unfollowed := true, recurses := true, apart := false, narrowed := true }
def CatOpenUptoSaid : Prop := catOpenUptoRow.holds Try.pinned (OpenSpec.upto catOpenSpec)

/-- 'gimmallaw12.CatFiner', WHERE WHAT IT READS IS OF BULK AT MOST 1048576: true; the input reads as it did. -/
def catFinerUptoRow : OpenClaim := { program := "ytedmjhckiiponaa", sum := "50b82a63ad0d2502a0f2b195a47abc8416fc2f7d4ac9f2ddda2ab1ff0dad417c", func := "gimmal/gimmallaw12.CatFiner", spec := "catFiner", unfollowed := true, recurses := true, apart := false, narrowed := true }
def CatFinerUptoSaid : Prop := catFinerUptoRow.holds Try.pinned (OpenSpec.upto catFinerSpec)

/-- 'gimmallaw11.ClassReads', WHERE WHAT IT READS IS OF BULK AT MOST 1048576: true; the input reads as it did. -/
def classReadsUptoRow : OpenClaim := { program := "ytedmjhckiiponaa", sum := "50b82a63ad0d2502a0f2b195a47abc8416fc2f7d4ac9f2ddda2ab1ff0dad417c", func := "gimmal/gimmallaw11.ClassReads", spec := "classReads", unfollowed := true, recurses := true, apart := false, narrowed := true }
def ClassReadsUptoSaid : Prop := classReadsUptoRow.holds Try.pinned (OpenSpec.upto classReadsSpec)

/-- 'gimmallaw14.UnitsNodes', WHERE WHAT IT READS IS OF BULK AT MOST 1048576: true; the input reads as it did. -/
def unitsNodesUptoRow : OpenClaim := { program := "ytedmjhckiiponaa", sum := "50b82a63ad0d2502a0f2b195a47abc8416fc2f7d4ac9f2ddda2ab1ff0dad417c", func := "gimmal/gimmallaw14.UnitsNodes", spec := "unitsNodes", unfollowed := true, recurses := true, apart := false, narrowed := true }
def UnitsNodesUptoSaid : Prop := unitsNodesUptoRow.holds Try.pinned (OpenSpec.upto unitsNodesSpec)

/-- 'gimmallaw11.ClassWords', WHERE WHAT IT READS IS OF BULK AT MOST 1048576: true; the input reads as it did. -/
def classWordsUptoRow : OpenClaim := { program := "ytedmjhckiiponaa", sum := "50b82a63ad0d2502a0f2b195a47abc8416fc2f7d4ac9f2ddda2ab1ff0dad417c", func := "gimmal/gimmallaw11.ClassWords", spec := "classWords", unfollowed := true, recurses := true, apart := false, narrowed := true }
def ClassWordsUptoSaid : Prop := classWordsUptoRow.holds Try.pinned (OpenSpec.upto classWordsSpec)

end Rows
end Go.Proofs.Ytedmjhckiiponaa
