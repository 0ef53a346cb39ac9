/- The code of the functions that the statement reaches, as the abstract machine reads it. -/
import Derived.Test.YtdcpendppalkgaaK4
import Derived.Test.YtdcpendppalkgaaProg
import Derived.Test.YtdcpendppalkgaaCRecsPuta
namespace Go.Proofs
open Go Go.RowKit Go.Am

/-! slices.siftDownCmpFunc:Span -/
abbrev c168_r1 : List Ins := [
  ⟨some 12, none, .mov (.t 1)⟩,
  ⟨some 10, none, .mov (.t 12)⟩]
abbrev c168_r2 : List Ins := [
  ⟨some 13, none, .mov (.t 10)⟩,
  ⟨some 14, none, .bin .mul (.c (.int .i64 2)) (.t 13)⟩,
  ⟨some 15, none, .bin .add (.t 14) (.c (.int .i64 1))⟩,
  ⟨some 11, none, .mov (.t 15)⟩]
abbrev c168_r3 : List Ins := [
  ⟨some 16, none, .mov (.t 11)⟩,
  ⟨some 17, none, .mov (.t 2)⟩,
  ⟨some 18, none, .bin .geq (.t 16) (.t 17)⟩]
abbrev c168_r4 : List Ins := [
  ⟨some 19, none, .mov (.t 11)⟩,
  ⟨some 20, none, .bin .add (.t 19) (.c (.int .i64 1))⟩,
  ⟨some 21, none, .mov (.t 2)⟩,
  ⟨some 22, none, .bin .lss (.t 20) (.t 21)⟩,
  ⟨some 23, none, .mov (.t 22)⟩,
  ⟨some 24, some (23, true), .mov (.t 4)⟩,
  ⟨some 25, some (23, true), .mov (.t 0)⟩,
  ⟨some 26, some (23, true), .mov (.t 3)⟩,
  ⟨some 27, some (23, true), .mov (.t 11)⟩,
  ⟨some 28, some (23, true), .bin .add (.t 26) (.t 27)⟩,
  ⟨some 29, some (23, true), .iaddr 2 (.t 25) (.t 28)⟩,
  ⟨some 30, some (23, true), .load 2 true (.t 29)⟩,
  ⟨some 31, some (23, true), .mov (.t 0)⟩,
  ⟨some 32, some (23, true), .mov (.t 3)⟩,
  ⟨some 33, some (23, true), .mov (.t 11)⟩,
  ⟨some 34, some (23, true), .bin .add (.t 32) (.t 33)⟩,
  ⟨some 35, some (23, true), .bin .add (.t 34) (.c (.int .i64 1))⟩,
  ⟨some 36, some (23, true), .iaddr 2 (.t 31) (.t 35)⟩,
  ⟨some 37, some (23, true), .load 2 true (.t 36)⟩,
  ⟨some 38, some (23, true), .call (.t 24) [.t 30, .t 37]⟩,
  ⟨some 39, some (23, true), .bin .lss (.t 38) (.c (.int .i64 0))⟩,
  ⟨some 40, none, .pick (.t 23) (.t 39) (.c (.bool false))⟩]
def c168_a4 : List (List Nat) := [[], [0], [], [1, 2], [3], [4], [4], [4], [4], [7, 8, 4], [6, 9, 4], [10, 4], [4], [4], [4], [13, 14, 4], [15, 4], [12, 16, 4], [17, 4], [5, 11, 18, 4, 4], [19, 4], [4, 20]]
abbrev c168_m4 : List Am.Mark := [⟨false, 0, 1⟩, ⟨false, 0, 1⟩, ⟨false, 0, 1⟩, ⟨false, 0, 1⟩, ⟨false, 0, 0⟩, ⟨false, 0, 0⟩, ⟨false, 0, 1⟩, ⟨false, 0, 1⟩, ⟨false, 0, 1⟩, ⟨false, 0, 1⟩, ⟨false, 0, 1⟩, ⟨false, 0, 0⟩, ⟨false, 0, 1⟩, ⟨false, 0, 1⟩, ⟨false, 0, 1⟩, ⟨false, 0, 1⟩, ⟨false, 0, 1⟩, ⟨false, 0, 1⟩, ⟨false, 0, 0⟩, ⟨true, 0, 1⟩, ⟨false, 1, 1⟩, ⟨false, 1, 1⟩]
theorem c168_d4 : drawFine c168_r4 c168_a4 c168_m4 = true := by decide +kernel
abbrev c168_r5 : List Ins := [
  ⟨some 41, none, .mov (.t 11)⟩,
  ⟨some 42, none, .bin .add (.t 41) (.c (.int .i64 1))⟩,
  ⟨some 11, none, .mov (.t 42)⟩]
abbrev c168_r6 : List Ins := [
  ⟨some 43, none, .mov (.t 4)⟩,
  ⟨some 44, none, .mov (.t 0)⟩,
  ⟨some 45, none, .mov (.t 3)⟩,
  ⟨some 46, none, .mov (.t 10)⟩,
  ⟨some 47, none, .bin .add (.t 45) (.t 46)⟩,
  ⟨some 48, none, .iaddr 2 (.t 44) (.t 47)⟩,
  ⟨some 49, none, .load 2 true (.t 48)⟩,
  ⟨some 50, none, .mov (.t 0)⟩,
  ⟨some 51, none, .mov (.t 3)⟩,
  ⟨some 52, none, .mov (.t 11)⟩,
  ⟨some 53, none, .bin .add (.t 51) (.t 52)⟩,
  ⟨some 54, none, .iaddr 2 (.t 50) (.t 53)⟩,
  ⟨some 55, none, .load 2 true (.t 54)⟩,
  ⟨some 56, none, .call (.t 43) [.t 49, .t 55]⟩,
  ⟨some 57, none, .bin .lss (.t 56) (.c (.int .i64 0))⟩,
  ⟨some 58, none, .un .not (.t 57)⟩]
def c168_a6 : List (List Nat) := [[], [], [], [], [2, 3], [1, 4], [5], [], [], [], [8, 9], [7, 10], [11], [0, 6, 12], [13], [14]]
abbrev c168_m6 : List Am.Mark := [⟨false, 0, 0⟩, ⟨false, 0, 1⟩, ⟨false, 0, 1⟩, ⟨false, 0, 1⟩, ⟨false, 0, 1⟩, ⟨false, 0, 1⟩, ⟨false, 0, 0⟩, ⟨false, 0, 1⟩, ⟨false, 0, 1⟩, ⟨false, 0, 1⟩, ⟨false, 0, 1⟩, ⟨false, 0, 1⟩, ⟨false, 0, 0⟩, ⟨true, 0, 1⟩, ⟨false, 1, 1⟩, ⟨false, 1, 1⟩]
theorem c168_d6 : drawFine c168_r6 c168_a6 c168_m6 = true := by decide +kernel
abbrev c168_r7 : List Ins := [
  ⟨some 59, none, .mov (.t 0)⟩,
  ⟨some 60, none, .mov (.t 3)⟩,
  ⟨some 61, none, .mov (.t 10)⟩,
  ⟨some 62, none, .bin .add (.t 60) (.t 61)⟩,
  ⟨some 63, none, .mov (.t 0)⟩,
  ⟨some 64, none, .mov (.t 3)⟩,
  ⟨some 65, none, .mov (.t 11)⟩,
  ⟨some 66, none, .bin .add (.t 64) (.t 65)⟩,
  ⟨some 67, none, .mov (.t 0)⟩,
  ⟨some 68, none, .mov (.t 3)⟩,
  ⟨some 69, none, .mov (.t 11)⟩,
  ⟨some 70, none, .bin .add (.t 68) (.t 69)⟩,
  ⟨some 71, none, .iaddr 2 (.t 67) (.t 70)⟩,
  ⟨some 72, none, .load 2 true (.t 71)⟩,
  ⟨some 73, none, .mov (.t 0)⟩,
  ⟨some 74, none, .mov (.t 3)⟩,
  ⟨some 75, none, .mov (.t 10)⟩,
  ⟨some 76, none, .bin .add (.t 74) (.t 75)⟩,
  ⟨some 77, none, .iaddr 2 (.t 73) (.t 76)⟩,
  ⟨some 78, none, .load 2 true (.t 77)⟩,
  ⟨some 79, none, .iaddr 2 (.t 59) (.t 62)⟩,
  ⟨none, none, .store 2 (.t 79) (.t 72)⟩,
  ⟨some 80, none, .iaddr 2 (.t 63) (.t 66)⟩,
  ⟨none, none, .store 2 (.t 80) (.t 78)⟩]
def c168_a7 : List (List Nat) := [[], [], [], [1, 2], [], [], [], [5, 6], [], [], [], [9, 10], [8, 11], [12], [], [], [], [15, 16], [14, 17], [18], [0, 3, 0, 1, 2, 3, 8, 9, 10, 11, 12, 13, 19], [20, 13, 0, 1, 2, 3, 8, 9, 10, 11, 12, 13, 19], [4, 7, 0, 1, 2, 3, 4, 5, 6, 7, 8, 9, 10, 11, 12, 13, 14, 15, 16, 17, 18, 19, 20, 21], [22, 19, 21, 0, 1, 2, 3, 4, 5, 6, 7, 8, 9, 10, 11, 12, 13, 14, 15, 16, 17, 18, 19, 20, 21]]
abbrev c168_m7 : List Am.Mark := [⟨false, 0, 0⟩, ⟨false, 0, 0⟩, ⟨false, 0, 0⟩, ⟨false, 0, 0⟩, ⟨false, 0, 1⟩, ⟨false, 0, 1⟩, ⟨false, 0, 1⟩, ⟨false, 0, 1⟩, ⟨false, 0, 0⟩, ⟨false, 0, 0⟩, ⟨false, 0, 0⟩, ⟨false, 0, 0⟩, ⟨false, 0, 0⟩, ⟨false, 0, 0⟩, ⟨false, 0, 1⟩, ⟨false, 0, 1⟩, ⟨false, 0, 1⟩, ⟨false, 0, 1⟩, ⟨false, 0, 1⟩, ⟨false, 0, 0⟩, ⟨false, 0, 0⟩, ⟨true, 0, 1⟩, ⟨false, 1, 1⟩, ⟨true, 1, 2⟩]
theorem c168_d7 : drawFine c168_r7 c168_a7 c168_m7 = true := by decide +kernel
abbrev c168_r8 : List Ins := [
  ⟨some 81, none, .mov (.t 11)⟩,
  ⟨some 10, none, .mov (.t 81)⟩]
abbrev c168_l9 : IR := .blk 1 (.seq (.reg c168_r2) (.seq (.seq (.reg c168_r3) (.cond (.t 18) (.exit 0) (.skip))) (.seq (.seq (.dreg c168_r4 c168_a4) (.cond (.t 40) (.reg c168_r5) (.skip))) (.seq (.seq (.dreg c168_r6 c168_a6) (.cond (.t 58) (.ret) (.skip))) (.seq (.dreg c168_r7 c168_a7) (.reg c168_r8))))))
abbrev c168 : IR := .seq (.reg c168_r1) (.blk 0 (.loop c168_l9))
abbrev F168 : FnA := ⟨82, c168, []⟩
theorem ok168 : cFn Try.prog 168 = some F168 := by kernel_rfl
theorem hb168 : HasBody Try.prog 168 := ⟨_, Try.func168, by kernel_rfl, by kernel_rfl⟩
/-! slices.nextPowerOfTwo -/
abbrev c169_r1 : List Ins := [
  ⟨some 2, none, .mov (.c (.int .u64 0))⟩]
abbrev c169_r2 : List Ins := [
  ⟨some 3, none, .mov (.t 0)⟩,
  ⟨some 4, none, .conv .u64 (.t 3)⟩,
  ⟨some 5, none, .call (.c (.fn 156 [] [])) [.t 4]⟩,
  ⟨some 6, none, .bin .shl (.c (.int .u64 1)) (.t 5)⟩,
  ⟨some 2, none, .mov (.t 6)⟩]
abbrev c169 : IR := .seq (.reg c169_r1) (.seq (.reg c169_r2) (.ret))
abbrev F169 : FnA := ⟨7, c169, [.t 2]⟩
theorem ok169 : cFn Try.prog 169 = some F169 := by kernel_rfl
theorem hb169 : HasBody Try.prog 169 := ⟨_, Try.func169, by kernel_rfl, by kernel_rfl⟩
/-! slices.xorshift.Next -/
abbrev c170_r1 : List Ins := [
  ⟨some 2, none, .mov (.c (.int .u64 0))⟩]
abbrev c170_r2 : List Ins := [
  ⟨some 3, none, .mov (.t 0)⟩,
  ⟨some 4, none, .nilck (.t 3)⟩,
  ⟨some 5, none, .load 1 false (.t 4)⟩,
  ⟨some 6, none, .mov (.t 0)⟩,
  ⟨some 7, none, .nilck (.t 6)⟩,
  ⟨some 8, none, .load 1 false (.t 7)⟩,
  ⟨some 9, none, .bin .shl (.t 8) (.c (.int .u64 13))⟩,
  ⟨some 10, none, .bin .xor (.t 5) (.t 9)⟩,
  ⟨some 11, none, .nilck (.t 3)⟩,
  ⟨none, none, .store 1 (.t 11) (.t 10)⟩]
def c170_a2 : List (List Nat) := [[], [0], [1], [], [3], [4], [5], [2, 6], [0, 0, 1, 2, 3, 4, 5, 6, 7], [8, 7, 0, 1, 2, 3, 4, 5, 6, 7]]
abbrev c170_m2 : List Am.Mark := [⟨false, 0, 0⟩, ⟨false, 0, 0⟩, ⟨false, 0, 0⟩, ⟨false, 0, 0⟩, ⟨false, 0, 0⟩, ⟨false, 0, 0⟩, ⟨false, 0, 0⟩, ⟨false, 0, 0⟩, ⟨false, 0, 0⟩, ⟨true, 0, 1⟩]
theorem c170_d2 : drawFine c170_r2 c170_a2 c170_m2 = true := by decide +kernel
abbrev c170_r3 : List Ins := [
  ⟨some 12, none, .mov (.t 0)⟩,
  ⟨some 13, none, .nilck (.t 12)⟩,
  ⟨some 14, none, .load 1 false (.t 13)⟩,
  ⟨some 15, none, .mov (.t 0)⟩,
  ⟨some 16, none, .nilck (.t 15)⟩,
  ⟨some 17, none, .load 1 false (.t 16)⟩,
  ⟨some 18, none, .bin .shr (.t 17) (.c (.int .u64 7))⟩,
  ⟨some 19, none, .bin .xor (.t 14) (.t 18)⟩,
  ⟨some 20, none, .nilck (.t 12)⟩,
  ⟨none, none, .store 1 (.t 20) (.t 19)⟩]
def c170_a3 : List (List Nat) := [[], [0], [1], [], [3], [4], [5], [2, 6], [0, 0, 1, 2, 3, 4, 5, 6, 7], [8, 7, 0, 1, 2, 3, 4, 5, 6, 7]]
abbrev c170_m3 : List Am.Mark := [⟨false, 0, 0⟩, ⟨false, 0, 0⟩, ⟨false, 0, 0⟩, ⟨false, 0, 0⟩, ⟨false, 0, 0⟩, ⟨false, 0, 0⟩, ⟨false, 0, 0⟩, ⟨false, 0, 0⟩, ⟨false, 0, 0⟩, ⟨true, 0, 1⟩]
theorem c170_d3 : drawFine c170_r3 c170_a3 c170_m3 = true := by decide +kernel
abbrev c170_r4 : List Ins := [
  ⟨some 21, none, .mov (.t 0)⟩,
  ⟨some 22, none, .nilck (.t 21)⟩,
  ⟨some 23, none, .load 1 false (.t 22)⟩,
  ⟨some 24, none, .mov (.t 0)⟩,
  ⟨some 25, none, .nilck (.t 24)⟩,
  ⟨some 26, none, .load 1 false (.t 25)⟩,
  ⟨some 27, none, .bin .shl (.t 26) (.c (.int .u64 17))⟩,
  ⟨some 28, none, .bin .xor (.t 23) (.t 27)⟩,
  ⟨some 29, none, .nilck (.t 21)⟩,
  ⟨none, none, .store 1 (.t 29) (.t 28)⟩]
def c170_a4 : List (List Nat) := [[], [0], [1], [], [3], [4], [5], [2, 6], [0, 0, 1, 2, 3, 4, 5, 6, 7], [8, 7, 0, 1, 2, 3, 4, 5, 6, 7]]
abbrev c170_m4 : List Am.Mark := [⟨false, 0, 0⟩, ⟨false, 0, 0⟩, ⟨false, 0, 0⟩, ⟨false, 0, 0⟩, ⟨false, 0, 0⟩, ⟨false, 0, 0⟩, ⟨false, 0, 0⟩, ⟨false, 0, 0⟩, ⟨false, 0, 0⟩, ⟨true, 0, 1⟩]
theorem c170_d4 : drawFine c170_r4 c170_a4 c170_m4 = true := by decide +kernel
abbrev c170_r5 : List Ins := [
  ⟨some 30, none, .mov (.t 0)⟩,
  ⟨some 31, none, .nilck (.t 30)⟩,
  ⟨some 32, none, .load 1 false (.t 31)⟩,
  ⟨some 2, none, .mov (.t 32)⟩]
abbrev c170 : IR := .seq (.reg c170_r1) (.seq (.dreg c170_r2 c170_a2) (.seq (.dreg c170_r3 c170_a3) (.seq (.dreg c170_r4 c170_a4) (.seq (.reg c170_r5) (.ret)))))
abbrev F170 : FnA := ⟨33, c170, [.t 2]⟩
theorem ok170 : cFn Try.prog 170 = some F170 := by kernel_rfl
theorem hb170 : HasBody Try.prog 170 := ⟨_, Try.func170, by kernel_rfl, by kernel_rfl⟩
/-! slices.medianAdjacentCmpFunc:Span -/
abbrev c171_r1 : List Ins := [
  ⟨some 8, none, .mov (.c (.int .i64 0))⟩]
abbrev c171_r2 : List Ins := [
  ⟨some 9, none, .mov (.t 0)⟩,
  ⟨some 10, none, .mov (.t 1)⟩,
  ⟨some 11, none, .bin .sub (.t 10) (.c (.int .i64 1))⟩,
  ⟨some 12, none, .mov (.t 1)⟩,
  ⟨some 13, none, .mov (.t 1)⟩,
  ⟨some 14, none, .bin .add (.t 13) (.c (.int .i64 1))⟩,
  ⟨some 15, none, .mov (.t 2)⟩,
  ⟨some 16, none, .mov (.t 3)⟩,
  ⟨some 17, none, .call (.c (.fn 172 [] [])) [.t 9, .t 11, .t 12, .t 14, .t 15, .t 16]⟩,
  ⟨some 8, none, .mov (.t 17)⟩]
abbrev c171 : IR := .seq (.reg c171_r1) (.seq (.reg c171_r2) (.ret))
abbrev F171 : FnA := ⟨18, c171, [.t 8]⟩
theorem ok171 : cFn Try.prog 171 = some F171 := by kernel_rfl
theorem hb171 : HasBody Try.prog 171 := ⟨_, Try.func171, by kernel_rfl, by kernel_rfl⟩
/-! slices.medianCmpFunc:Span -/
abbrev c172_r1 : List Ins := [
  ⟨some 12, none, .mov (.c (.int .i64 0))⟩]
abbrev c172_r2 : List Ins := [
  ⟨some 14, none, .mov (.t 0)⟩,
  ⟨some 15, none, .mov (.t 1)⟩,
  ⟨some 16, none, .mov (.t 2)⟩,
  ⟨some 17, none, .mov (.t 4)⟩,
  ⟨some 18, none, .mov (.t 5)⟩,
  ⟨some 19, none, .call (.c (.fn 173 [] [])) [.t 14, .t 15, .t 16, .t 17, .t 18]⟩,
  ⟨some 13, none, .mov (.t 19)⟩,
  ⟨some 20, none, .ext (.t 13) 0⟩,
  ⟨some 21, none, .ext (.t 13) 1⟩,
  ⟨some 1, none, .mov (.t 20)⟩,
  ⟨some 2, none, .mov (.t 21)⟩]
abbrev c172_r3 : List Ins := [
  ⟨some 23, none, .mov (.t 0)⟩,
  ⟨some 24, none, .mov (.t 2)⟩,
  ⟨some 25, none, .mov (.t 3)⟩,
  ⟨some 26, none, .mov (.t 4)⟩,
  ⟨some 27, none, .mov (.t 5)⟩,
  ⟨some 28, none, .call (.c (.fn 173 [] [])) [.t 23, .t 24, .t 25, .t 26, .t 27]⟩,
  ⟨some 22, none, .mov (.t 28)⟩,
  ⟨some 29, none, .ext (.t 22) 0⟩,
  ⟨some 30, none, .ext (.t 22) 1⟩,
  ⟨some 2, none, .mov (.t 29)⟩,
  ⟨some 3, none, .mov (.t 30)⟩]
abbrev c172_r4 : List Ins := [
  ⟨some 32, none, .mov (.t 0)⟩,
  ⟨some 33, none, .mov (.t 1)⟩,
  ⟨some 34, none, .mov (.t 2)⟩,
  ⟨some 35, none, .mov (.t 4)⟩,
  ⟨some 36, none, .mov (.t 5)⟩,
  ⟨some 37, none, .call (.c (.fn 173 [] [])) [.t 32, .t 33, .t 34, .t 35, .t 36]⟩,
  ⟨some 31, none, .mov (.t 37)⟩,
  ⟨some 38, none, .ext (.t 31) 0⟩,
  ⟨some 39, none, .ext (.t 31) 1⟩,
  ⟨some 1, none, .mov (.t 38)⟩,
  ⟨some 2, none, .mov (.t 39)⟩]
abbrev c172_r5 : List Ins := [
  ⟨some 40, none, .mov (.t 2)⟩,
  ⟨some 12, none, .mov (.t 40)⟩]
abbrev c172 : IR := .seq (.reg c172_r1) (.seq (.reg c172_r2) (.seq (.reg c172_r3) (.seq (.reg c172_r4) (.seq (.reg c172_r5) (.ret)))))
abbrev F172 : FnA := ⟨41, c172, [.t 12]⟩
theorem ok172 : cFn Try.prog 172 = some F172 := by kernel_rfl
theorem hb172 : HasBody Try.prog 172 := ⟨_, Try.func172, by kernel_rfl, by kernel_rfl⟩
/-! slices.order2CmpFunc:Span -/
abbrev c173_r1 : List Ins := [
  ⟨some 10, none, .mov (.c (.int .i64 0))⟩,
  ⟨some 11, none, .mov (.c (.int .i64 0))⟩]
abbrev c173_r2 : List Ins := [
  ⟨some 12, none, .mov (.t 4)⟩,
  ⟨some 13, none, .mov (.t 0)⟩,
  ⟨some 14, none, .mov (.t 2)⟩,
  ⟨some 15, none, .iaddr 2 (.t 13) (.t 14)⟩,
  ⟨some 16, none, .load 2 true (.t 15)⟩,
  ⟨some 17, none, .mov (.t 0)⟩,
  ⟨some 18, none, .mov (.t 1)⟩,
  ⟨some 19, none, .iaddr 2 (.t 17) (.t 18)⟩,
  ⟨some 20, none, .load 2 true (.t 19)⟩,
  ⟨some 21, none, .call (.t 12) [.t 16, .t 20]⟩,
  ⟨some 22, none, .bin .lss (.t 21) (.c (.int .i64 0))⟩]
def c173_a2 : List (List Nat) := [[], [], [], [1, 2], [3], [], [], [5, 6], [7], [0, 4, 8], [9]]
abbrev c173_m2 : List Am.Mark := [⟨false, 0, 0⟩, ⟨false, 0, 1⟩, ⟨false, 0, 1⟩, ⟨false, 0, 1⟩, ⟨false, 0, 0⟩, ⟨false, 0, 1⟩, ⟨false, 0, 1⟩, ⟨false, 0, 1⟩, ⟨false, 0, 0⟩, ⟨true, 0, 1⟩, ⟨false, 1, 1⟩]
theorem c173_d2 : drawFine c173_r2 c173_a2 c173_m2 = true := by decide +kernel
abbrev c173_r3 : List Ins := [
  ⟨some 23, none, .mov (.t 3)⟩,
  ⟨some 24, none, .nilck (.t 23)⟩,
  ⟨some 25, none, .load 1 false (.t 24)⟩,
  ⟨some 26, none, .bin .add (.t 25) (.c (.int .i64 1))⟩,
  ⟨some 27, none, .nilck (.t 23)⟩,
  ⟨none, none, .store 1 (.t 27) (.t 26)⟩]
abbrev c173_r4 : List Ins := [
  ⟨some 28, none, .mov (.t 2)⟩,
  ⟨some 29, none, .mov (.t 1)⟩,
  ⟨some 10, none, .mov (.t 28)⟩,
  ⟨some 11, none, .mov (.t 29)⟩]
abbrev c173_r5 : List Ins := [
  ⟨some 30, none, .mov (.t 1)⟩,
  ⟨some 31, none, .mov (.t 2)⟩,
  ⟨some 10, none, .mov (.t 30)⟩,
  ⟨some 11, none, .mov (.t 31)⟩]
abbrev c173 : IR := .seq (.reg c173_r1) (.seq (.seq (.dreg c173_r2 c173_a2) (.cond (.t 22) (.seq (.reg c173_r3) (.seq (.reg c173_r4) (.ret))) (.skip))) (.seq (.reg c173_r5) (.ret)))
abbrev F173 : FnA := ⟨32, c173, [.t 10, .t 11]⟩
theorem ok173 : cFn Try.prog 173 = some F173 := by kernel_rfl
theorem hb173 : HasBody Try.prog 173 := ⟨_, Try.func173, by kernel_rfl, by kernel_rfl⟩


end Go.Proofs
