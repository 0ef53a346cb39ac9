/-
  No cell of these rows narrows 'for every input' (looked for: loops, veiled, ifaces, maps, wideKeys, modest, calm, conditions, laid).
  DERIVED. THE GIVEN ROWS OF THIS SEAT. 6 by the template 'for every input the law returns true; each argument reads behind the call as it read before'; 0 by the template 'total and deterministic' (their statements: YtdcpendppalkgaaTotals.lean).
  GIVEN WITH THE SEED: the statements are not yours to turn. If you find one false, say at which input.
  Laid BY PROGRAM, IN A SANDBOX (cutbox-rows.mjs): the forced cells as the released guide's own fill.sh prints them over the translation 427f720dc43731a1… (all of the seat's roots in one cut). By AI agents, Wed Nov 11 2026. No macro, syntax, notation, axiom, sorry.
-/
import Derived.Test.YtdcpendppalkgaaChecked
import GoSem.Claim
import GoSem.ClaimJoined
import GoSem.ClaimMapViews
import Derived.JoinedTies
import Derived.KernelRfl
namespace Go.Proofs.Ytdcpendppalkgaa
/- THE CELL 'sum', in the pinned program and in every row, IS THE sha256 OF THE DUMP (.gsa) THAT YtdcpendppalkgaaProg.lean LOADS. Nothing in Lean hashes anything: it is a label: what it is worth is what the hold of that sum in a sandbox is worth. -/
noncomputable def Try.pinned : Pinned := { name := "ytdcpendppalkgaa", sum := "427f720dc43731a13e53125ad02b665fbe2a9ff25444ef6ebe90d2fb88175094", checked := Try.checked }
namespace Rows
def none {H : Type} : Left H := { results := [], args := [] }

/-- 'gimmallaw11.ClassReads': WHATEVER THE INPUT: true; the input reads as it did. -/
def classReadsSpec : ChangeSpec := { name := "classReads", fn := fun _ => fun
  | [d] => { results := [.lit (.bool true)], args := [d] }
  | _ => none }
def classReadsRow : OpenClaim := { program := "ytdcpendppalkgaa", sum := "427f720dc43731a13e53125ad02b665fbe2a9ff25444ef6ebe90d2fb88175094", func := "gimmal/gimmallaw11.ClassReads", spec := "classReads", unfollowed := true, recurses := true, apart := false }
def ClassReadsSaid : Prop := classReadsRow.holds Try.pinned (OpenSpec.ofChange classReadsSpec)

/-- ITS FALSE NEIGHBOUR: 'it returns false'. Refute it at one input. -/
def classReadsWrong : ChangeSpec := { name := "classReads", fn := fun _ => fun
  | [d] => { results := [.lit (.bool false)], args := [d] }
  | _ => none }
def ClassReadsWrongFalsely : Prop := classReadsRow.holds Try.pinned (OpenSpec.ofChange classReadsWrong)

/-- 'gimmallaw27.LintSure': WHATEVER THE INPUT: true; the input reads as it did. -/
def lintSureSpec : ChangeSpec := { name := "lintSure", fn := fun _ => fun
  | [d1, d2, d3, d4] => { results := [.lit (.bool true)], args := [d1, d2, d3, d4] }
  | _ => none }
def lintSureRow : OpenClaim := { program := "ytdcpendppalkgaa", sum := "427f720dc43731a13e53125ad02b665fbe2a9ff25444ef6ebe90d2fb88175094", func := "gimmal/gimmallaw27.LintSure", spec := "lintSure", unfollowed := true, recurses := true, apart := false }
def LintSureSaid : Prop := lintSureRow.holds Try.pinned (OpenSpec.ofChange lintSureSpec)

/-- ITS FALSE NEIGHBOUR: 'it returns false'. Refute it at one input. -/
def lintSureWrong : ChangeSpec := { name := "lintSure", fn := fun _ => fun
  | [d1, d2, d3, d4] => { results := [.lit (.bool false)], args := [d1, d2, d3, d4] }
  | _ => none }
def LintSureWrongFalsely : Prop := lintSureRow.holds Try.pinned (OpenSpec.ofChange lintSureWrong)

/-- 'gimmallaw20.RecsSame': WHATEVER THE INPUT: true; the input reads as it did. -/
def recsSameSpec : ChangeSpec := { name := "recsSame", fn := fun _ => fun
  | [d1, d2] => { results := [.lit (.bool true)], args := [d1, d2] }
  | _ => none }
def recsSameRow : OpenClaim := { program := "ytdcpendppalkgaa", sum := "427f720dc43731a13e53125ad02b665fbe2a9ff25444ef6ebe90d2fb88175094", func := "gimmal/gimmallaw20.RecsSame", spec := "recsSame", unfollowed := true, recurses := true, apart := false }
def RecsSameSaid : Prop := recsSameRow.holds Try.pinned (OpenSpec.ofChange recsSameSpec)

/-- ITS FALSE NEIGHBOUR: 'it returns false'. Refute it at one input. -/
def recsSameWrong : ChangeSpec := { name := "recsSame", fn := fun _ => fun
  | [d1, d2] => { results := [.lit (.bool false)], args := [d1, d2] }
  | _ => none }
def RecsSameWrongFalsely : Prop := recsSameRow.holds Try.pinned (OpenSpec.ofChange recsSameWrong)

/-- 'gimmallaw20.RecsGet': WHATEVER THE INPUT: true; the input reads as it did. -/
def recsGetSpec : ChangeSpec := { name := "recsGet", fn := fun _ => fun
  | [d] => { results := [.lit (.bool true)], args := [d] }
  | _ => none }
def recsGetRow : OpenClaim := { program := "ytdcpendppalkgaa", sum := "427f720dc43731a13e53125ad02b665fbe2a9ff25444ef6ebe90d2fb88175094", func := "gimmal/gimmallaw20.RecsGet", spec := "recsGet", unfollowed := true, recurses := true, apart := false }
def RecsGetSaid : Prop := recsGetRow.holds Try.pinned (OpenSpec.ofChange recsGetSpec)

/-- ITS FALSE NEIGHBOUR: 'it returns false'. Refute it at one input. -/
def recsGetWrong : ChangeSpec := { name := "recsGet", fn := fun _ => fun
  | [d] => { results := [.lit (.bool false)], args := [d] }
  | _ => none }
def RecsGetWrongFalsely : Prop := recsGetRow.holds Try.pinned (OpenSpec.ofChange recsGetWrong)

/-- 'gimmallaw20.RecsCut': WHATEVER THE INPUT: true; the input reads as it did. -/
def recsCutSpec : ChangeSpec := { name := "recsCut", fn := fun _ => fun
  | [d1, d2, d3] => { results := [.lit (.bool true)], args := [d1, d2, d3] }
  | _ => none }
def recsCutRow : OpenClaim := { program := "ytdcpendppalkgaa", sum := "427f720dc43731a13e53125ad02b665fbe2a9ff25444ef6ebe90d2fb88175094", func := "gimmal/gimmallaw20.RecsCut", spec := "recsCut", unfollowed := true, recurses := true, apart := false }
def RecsCutSaid : Prop := recsCutRow.holds Try.pinned (OpenSpec.ofChange recsCutSpec)

/-- ITS FALSE NEIGHBOUR: 'it returns false'. Refute it at one input. -/
def recsCutWrong : ChangeSpec := { name := "recsCut", fn := fun _ => fun
  | [d1, d2, d3] => { results := [.lit (.bool false)], args := [d1, d2, d3] }
  | _ => none }
def RecsCutWrongFalsely : Prop := recsCutRow.holds Try.pinned (OpenSpec.ofChange recsCutWrong)

/-- 'gimmallaw20.RecsPut': WHATEVER THE INPUT: true; the input reads as it did. -/
def recsPutSpec : ChangeSpec := { name := "recsPut", fn := fun _ => fun
  | [d] => { results := [.lit (.bool true)], args := [d] }
  | _ => none }
def recsPutRow : OpenClaim := { program := "ytdcpendppalkgaa", sum := "427f720dc43731a13e53125ad02b665fbe2a9ff25444ef6ebe90d2fb88175094", func := "gimmal/gimmallaw20.RecsPut", spec := "recsPut", unfollowed := true, recurses := true, apart := false }
def RecsPutSaid : Prop := recsPutRow.holds Try.pinned (OpenSpec.ofChange recsPutSpec)

/-- ITS FALSE NEIGHBOUR: 'it returns false'. Refute it at one input. -/
def recsPutWrong : ChangeSpec := { name := "recsPut", fn := fun _ => fun
  | [d] => { results := [.lit (.bool false)], args := [d] }
  | _ => none }
def RecsPutWrongFalsely : Prop := recsPutRow.holds Try.pinned (OpenSpec.ofChange recsPutWrong)

/- THE SECOND FORM. 'bulk': how many values and letters a reading holds, each counted each time it is reached (what is shared counts as often as it is met; a slice's spare places count too). A statement '..UptoSaid' is the law's where the arguments, and the package variables that the reading takes, are together of bulk at most 1048576: NARROWER than '..Said'. Prove '..Said' where nothing that the law and all that it calls make is longer than what came in: it says more and counts as full. Else prove '..UptoSaid'. A law counts once. -/
mutual
def uptoBulk {H : Type} : DataW H → Nat
  | .lit (.string bytes) => bytes.length + 1
  | .lit _ => 1
  | .nil => 1
  | .ptr d => uptoBulk d + 1
  | .slice elems spare => uptoBulkAll elems + uptoBulkAll spare + 1
  | .agg parts => uptoBulkAll parts + 1
  | .iface _ d => uptoBulk d + 1
  | .map entries => uptoBulkEntries entries + 1
  | .held _ => 1
def uptoBulkAll {H : Type} : List (DataW H) → Nat
  | [] => 0
  | d :: r => uptoBulk d + uptoBulkAll r
def uptoBulkEntries {H : Type} : List (Lit × DataW H) → Nat
  | [] => 0
  | x :: r => uptoBulkEntry x + uptoBulkEntries r
def uptoBulkEntry {H : Type} : Lit × DataW H → Nat
  | (.string bytes, d) => bytes.length + uptoBulk d + 1
  | (_, d) => uptoBulk d + 1
 end
def uptoSmall : (H : Type) → List (DataW H) → Bool := fun _ ds => decide (uptoBulkAll ds ≤ 1048576)
def OpenSpec.upto (s : _root_.Go.ChangeSpec) : _root_.Go.OpenSpec := { _root_.Go.OpenSpec.ofChange s with cond := some uptoSmall }

/-- 'gimmallaw11.ClassReads', WHERE WHAT IT READS IS OF BULK AT MOST 1048576: true; the input reads as it did. -/
def classReadsUptoRow : OpenClaim := { program := "ytdcpendppalkgaa", sum := "427f720dc43731a13e53125ad02b665fbe2a9ff25444ef6ebe90d2fb88175094", func := "gimmal/gimmallaw11.ClassReads", spec := "classReads", unfollowed := true, recurses := true, apart := false, narrowed := true }
def ClassReadsUptoSaid : Prop := classReadsUptoRow.holds Try.pinned (OpenSpec.upto classReadsSpec)

/-- 'gimmallaw27.LintSure', WHERE WHAT IT READS IS OF BULK AT MOST 1048576: true; the input reads as it did. -/
def lintSureUptoRow : OpenClaim := { program := "ytdcpendppalkgaa", sum := "427f720dc43731a13e53125ad02b665fbe2a9ff25444ef6ebe90d2fb88175094", func := "gimmal/gimmallaw27.LintSure", spec := "lintSure", unfollowed := true, recurses := true, apart := false, narrowed := true }
def LintSureUptoSaid : Prop := lintSureUptoRow.holds Try.pinned (OpenSpec.upto lintSureSpec)

/-- 'gimmallaw20.RecsSame', WHERE WHAT IT READS IS OF BULK AT MOST 1048576: true; the input reads as it did. -/
def recsSameUptoRow : OpenClaim := { program := "ytdcpendppalkgaa", sum := "427f720dc43731a13e53125ad02b665fbe2a9ff25444ef6ebe90d2fb88175094", func := "gimmal/gimmallaw20.RecsSame", spec := "recsSame", unfollowed := true, recurses := true, apart := false, narrowed := true }
def RecsSameUptoSaid : Prop := recsSameUptoRow.holds Try.pinned (OpenSpec.upto recsSameSpec)

/-- 'gimmallaw20.RecsGet', WHERE WHAT IT READS IS OF BULK AT MOST 1048576: true; the input reads as it did. -/
def recsGetUptoRow : OpenClaim := { program := "ytdcpendppalkgaa", sum := "427f720dc43731a13e53125ad02b665fbe2a9ff25444ef6ebe90d2fb88175094", func := "gimmal/gimmallaw20.RecsGet", spec := "recsGet", unfollowed := true, recurses := true, apart := false, narrowed := true }
def RecsGetUptoSaid : Prop := recsGetUptoRow.holds Try.pinned (OpenSpec.upto recsGetSpec)

/-- 'gimmallaw20.RecsCut', WHERE WHAT IT READS IS OF BULK AT MOST 1048576: true; the input reads as it did. -/
def recsCutUptoRow : OpenClaim := { program := "ytdcpendppalkgaa", sum := "427f720dc43731a13e53125ad02b665fbe2a9ff25444ef6ebe90d2fb88175094", func := "gimmal/gimmallaw20.RecsCut", spec := "recsCut", unfollowed := true, recurses := true, apart := false, narrowed := true }
def RecsCutUptoSaid : Prop := recsCutUptoRow.holds Try.pinned (OpenSpec.upto recsCutSpec)

/-- 'gimmallaw20.RecsPut', WHERE WHAT IT READS IS OF BULK AT MOST 1048576: true; the input reads as it did. -/
def recsPutUptoRow : OpenClaim := { program := "ytdcpendppalkgaa", sum := "427f720dc43731a13e53125ad02b665fbe2a9ff25444ef6ebe90d2fb88175094", func := "gimmal/gimmallaw20.RecsPut", spec := "recsPut", unfollowed := true, recurses := true, apart := false, narrowed := true }
def RecsPutUptoSaid : Prop := recsPutUptoRow.holds Try.pinned (OpenSpec.upto recsPutSpec)

end Rows
end Go.Proofs.Ytdcpendppalkgaa
