/- The code of the functions that the statement reaches, as the abstract machine reads it. -/
import Derived.Test.YtdcpendppalkgaaK4
import Derived.Test.YtdcpendppalkgaaProg
import Derived.Test.YtdcpendppalkgaaCRecsGeta
namespace Go.Proofs
open Go Go.RowKit Go.Am

/-! slices.order2CmpFunc:Span -/
abbrev c173_r1 : List Ins := [
  ⟨some 10, none, .mov (.c (.int .i64 0))⟩,
  ⟨some 11, none, .mov (.c (.int .i64 0))⟩]
abbrev c173_r2 : List Ins := [
  ⟨some 12, none, .mov (.t 4)⟩,
  ⟨some 13, none, .mov (.t 0)⟩,
  ⟨some 14, none, .mov (.t 2)⟩,
  ⟨some 15, none, .iaddr 2 (.t 13) (.t 14)⟩,
  ⟨some 16, none, .load 2 true (.t 15)⟩,
  ⟨some 17, none, .mov (.t 0)⟩,
  ⟨some 18, none, .mov (.t 1)⟩,
  ⟨some 19, none, .iaddr 2 (.t 17) (.t 18)⟩,
  ⟨some 20, none, .load 2 true (.t 19)⟩,
  ⟨some 21, none, .call (.t 12) [.t 16, .t 20]⟩,
  ⟨some 22, none, .bin .lss (.t 21) (.c (.int .i64 0))⟩]
def c173_a2 : List (List Nat) := [[], [], [], [1, 2], [3], [], [], [5, 6], [7], [0, 4, 8], [9]]
abbrev c173_m2 : List Am.Mark := [⟨false, 0, 0⟩, ⟨false, 0, 1⟩, ⟨false, 0, 1⟩, ⟨false, 0, 1⟩, ⟨false, 0, 0⟩, ⟨false, 0, 1⟩, ⟨false, 0, 1⟩, ⟨false, 0, 1⟩, ⟨false, 0, 0⟩, ⟨true, 0, 1⟩, ⟨false, 1, 1⟩]
theorem c173_d2 : drawFine c173_r2 c173_a2 c173_m2 = true := by decide +kernel
abbrev c173_r3 : List Ins := [
  ⟨some 23, none, .mov (.t 3)⟩,
  ⟨some 24, none, .nilck (.t 23)⟩,
  ⟨some 25, none, .load 1 false (.t 24)⟩,
  ⟨some 26, none, .bin .add (.t 25) (.c (.int .i64 1))⟩,
  ⟨some 27, none, .nilck (.t 23)⟩,
  ⟨none, none, .store 1 (.t 27) (.t 26)⟩]
abbrev c173_r4 : List Ins := [
  ⟨some 28, none, .mov (.t 2)⟩,
  ⟨some 29, none, .mov (.t 1)⟩,
  ⟨some 10, none, .mov (.t 28)⟩,
  ⟨some 11, none, .mov (.t 29)⟩]
abbrev c173_r5 : List Ins := [
  ⟨some 30, none, .mov (.t 1)⟩,
  ⟨some 31, none, .mov (.t 2)⟩,
  ⟨some 10, none, .mov (.t 30)⟩,
  ⟨some 11, none, .mov (.t 31)⟩]
abbrev c173 : IR := .seq (.reg c173_r1) (.seq (.seq (.dreg c173_r2 c173_a2) (.cond (.t 22) (.seq (.reg c173_r3) (.seq (.reg c173_r4) (.ret))) (.skip))) (.seq (.reg c173_r5) (.ret)))
abbrev F173 : FnA := ⟨32, c173, [.t 10, .t 11]⟩
theorem ok173 : cFn Try.prog 173 = some F173 := by kernel_rfl
theorem hb173 : HasBody Try.prog 173 := ⟨_, Try.func173, by kernel_rfl, by kernel_rfl⟩


end Go.Proofs
