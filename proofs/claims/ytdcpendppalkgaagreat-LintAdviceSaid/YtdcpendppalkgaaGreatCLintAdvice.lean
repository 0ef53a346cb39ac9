/- The code of the functions that the statement reaches, as the abstract machine reads it. -/
import Derived.Test.YtdcpendppalkgaaGreatK4
import Derived.Test.YtdcpendppalkgaaGreatProg
import Derived.Test.YtdcpendppalkgaaGreatCLintAdvicea
namespace Go.Proofs
open Go Go.RowKit Go.Am

/-! slices.partialInsertionSortCmpFunc:Span -/
abbrev c110_r1 : List Ins := [
  ⟨some 8, none, .mov (.c (.bool false))⟩]
abbrev c110_r2 : List Ins := [
  ⟨some 13, none, .mov (.t 1)⟩,
  ⟨some 14, none, .bin .add (.t 13) (.c (.int .i64 1))⟩,
  ⟨some 9, none, .mov (.t 14)⟩]
abbrev c110_r3 : List Ins := [
  ⟨some 10, none, .mov (.c (.int .i64 0))⟩]
abbrev c110_r4 : List Ins := [
  ⟨some 15, none, .mov (.t 10)⟩,
  ⟨some 16, none, .bin .lss (.t 15) (.c (.int .i64 5))⟩]
abbrev c110_r5 : List Ins := [
  ⟨some 19, none, .mov (.t 9)⟩,
  ⟨some 20, none, .mov (.t 2)⟩,
  ⟨some 21, none, .bin .lss (.t 19) (.t 20)⟩,
  ⟨some 22, none, .mov (.t 21)⟩,
  ⟨some 23, some (22, true), .mov (.t 3)⟩,
  ⟨some 24, some (22, true), .mov (.t 0)⟩,
  ⟨some 25, some (22, true), .mov (.t 9)⟩,
  ⟨some 26, some (22, true), .iaddr 2 (.t 24) (.t 25)⟩,
  ⟨some 27, some (22, true), .load 2 true (.t 26)⟩,
  ⟨some 28, some (22, true), .mov (.t 0)⟩,
  ⟨some 29, some (22, true), .mov (.t 9)⟩,
  ⟨some 30, some (22, true), .bin .sub (.t 29) (.c (.int .i64 1))⟩,
  ⟨some 31, some (22, true), .iaddr 2 (.t 28) (.t 30)⟩,
  ⟨some 32, some (22, true), .load 2 true (.t 31)⟩,
  ⟨some 33, some (22, true), .call (.t 23) [.t 27, .t 32]⟩,
  ⟨some 34, some (22, true), .bin .lss (.t 33) (.c (.int .i64 0))⟩,
  ⟨some 35, some (22, true), .un .not (.t 34)⟩,
  ⟨some 36, none, .pick (.t 22) (.t 35) (.c (.bool false))⟩]
def c110_a5 : List (List Nat) := [[], [], [0, 1], [2], [3], [3], [3], [5, 6, 3], [7, 3], [3], [3], [10, 3], [9, 11, 3], [12, 3], [4, 8, 13, 3, 3], [14, 3], [15, 3], [3, 16]]
abbrev c110_m5 : List Am.Mark := [⟨false, 0, 1⟩, ⟨false, 0, 1⟩, ⟨false, 0, 1⟩, ⟨false, 0, 0⟩, ⟨false, 0, 0⟩, ⟨false, 0, 1⟩, ⟨false, 0, 1⟩, ⟨false, 0, 1⟩, ⟨false, 0, 0⟩, ⟨false, 0, 1⟩, ⟨false, 0, 1⟩, ⟨false, 0, 1⟩, ⟨false, 0, 1⟩, ⟨false, 0, 0⟩, ⟨true, 0, 1⟩, ⟨false, 1, 1⟩, ⟨false, 1, 1⟩, ⟨false, 1, 1⟩]
theorem c110_d5 : drawFine c110_r5 c110_a5 c110_m5 = true := by decide +kernel
abbrev c110_r6 : List Ins := [
  ⟨some 37, none, .mov (.t 9)⟩,
  ⟨some 38, none, .bin .add (.t 37) (.c (.int .i64 1))⟩,
  ⟨some 9, none, .mov (.t 38)⟩]
abbrev c110_l7 : IR := .seq (.seq (.dreg c110_r5 c110_a5) (.cond (.t 36) (.skip) (.exit 2))) (.blk 3 (.reg c110_r6))
abbrev c110_r8 : List Ins := [
  ⟨some 39, none, .mov (.t 9)⟩,
  ⟨some 40, none, .mov (.t 2)⟩,
  ⟨some 41, none, .bin .eql (.t 39) (.t 40)⟩]
abbrev c110_r9 : List Ins := [
  ⟨some 8, none, .mov (.c (.bool true))⟩]
abbrev c110_r10 : List Ins := [
  ⟨some 42, none, .mov (.t 2)⟩,
  ⟨some 43, none, .mov (.t 1)⟩,
  ⟨some 44, none, .bin .sub (.t 42) (.t 43)⟩,
  ⟨some 45, none, .bin .lss (.t 44) (.c (.int .i64 50))⟩]
abbrev c110_r11 : List Ins := [
  ⟨some 8, none, .mov (.c (.bool false))⟩]
abbrev c110_r12 : List Ins := [
  ⟨some 46, none, .mov (.t 0)⟩,
  ⟨some 47, none, .mov (.t 9)⟩,
  ⟨some 48, none, .mov (.t 0)⟩,
  ⟨some 49, none, .mov (.t 9)⟩,
  ⟨some 50, none, .bin .sub (.t 49) (.c (.int .i64 1))⟩,
  ⟨some 51, none, .mov (.t 0)⟩,
  ⟨some 52, none, .mov (.t 9)⟩,
  ⟨some 53, none, .bin .sub (.t 52) (.c (.int .i64 1))⟩,
  ⟨some 54, none, .iaddr 2 (.t 51) (.t 53)⟩,
  ⟨some 55, none, .load 2 true (.t 54)⟩,
  ⟨some 56, none, .mov (.t 0)⟩,
  ⟨some 57, none, .mov (.t 9)⟩,
  ⟨some 58, none, .iaddr 2 (.t 56) (.t 57)⟩,
  ⟨some 59, none, .load 2 true (.t 58)⟩,
  ⟨some 60, none, .iaddr 2 (.t 46) (.t 47)⟩,
  ⟨none, none, .store 2 (.t 60) (.t 55)⟩,
  ⟨some 61, none, .iaddr 2 (.t 48) (.t 50)⟩,
  ⟨none, none, .store 2 (.t 61) (.t 59)⟩]
def c110_a12 : List (List Nat) := [[], [], [], [], [3], [], [], [6], [5, 7], [8], [], [], [10, 11], [12], [0, 1, 0, 1, 5, 6, 7, 8, 9, 13], [14, 9, 0, 1, 5, 6, 7, 8, 9, 13], [2, 4, 0, 1, 2, 3, 4, 5, 6, 7, 8, 9, 10, 11, 12, 13, 14, 15], [16, 13, 15, 0, 1, 2, 3, 4, 5, 6, 7, 8, 9, 10, 11, 12, 13, 14, 15]]
abbrev c110_m12 : List Am.Mark := [⟨false, 0, 0⟩, ⟨false, 0, 0⟩, ⟨false, 0, 1⟩, ⟨false, 0, 1⟩, ⟨false, 0, 1⟩, ⟨false, 0, 0⟩, ⟨false, 0, 0⟩, ⟨false, 0, 0⟩, ⟨false, 0, 0⟩, ⟨false, 0, 0⟩, ⟨false, 0, 1⟩, ⟨false, 0, 1⟩, ⟨false, 0, 1⟩, ⟨false, 0, 0⟩, ⟨false, 0, 0⟩, ⟨true, 0, 1⟩, ⟨false, 1, 1⟩, ⟨true, 1, 2⟩]
theorem c110_d12 : drawFine c110_r12 c110_a12 c110_m12 = true := by decide +kernel
abbrev c110_r13 : List Ins := [
  ⟨some 62, none, .mov (.t 9)⟩,
  ⟨some 63, none, .mov (.t 1)⟩,
  ⟨some 64, none, .bin .sub (.t 62) (.t 63)⟩,
  ⟨some 65, none, .bin .geq (.t 64) (.c (.int .i64 2))⟩]
abbrev c110_r14 : List Ins := [
  ⟨some 66, none, .mov (.t 9)⟩,
  ⟨some 67, none, .bin .sub (.t 66) (.c (.int .i64 1))⟩,
  ⟨some 11, none, .mov (.t 67)⟩]
abbrev c110_r15 : List Ins := [
  ⟨some 68, none, .mov (.t 11)⟩,
  ⟨some 69, none, .bin .geq (.t 68) (.c (.int .i64 1))⟩]
abbrev c110_r16 : List Ins := [
  ⟨some 72, none, .mov (.t 3)⟩,
  ⟨some 73, none, .mov (.t 0)⟩,
  ⟨some 74, none, .mov (.t 11)⟩,
  ⟨some 75, none, .iaddr 2 (.t 73) (.t 74)⟩,
  ⟨some 76, none, .load 2 true (.t 75)⟩,
  ⟨some 77, none, .mov (.t 0)⟩,
  ⟨some 78, none, .mov (.t 11)⟩,
  ⟨some 79, none, .bin .sub (.t 78) (.c (.int .i64 1))⟩,
  ⟨some 80, none, .iaddr 2 (.t 77) (.t 79)⟩,
  ⟨some 81, none, .load 2 true (.t 80)⟩,
  ⟨some 82, none, .call (.t 72) [.t 76, .t 81]⟩,
  ⟨some 83, none, .bin .lss (.t 82) (.c (.int .i64 0))⟩,
  ⟨some 84, none, .un .not (.t 83)⟩]
def c110_a16 : List (List Nat) := [[], [], [], [1, 2], [3], [], [], [6], [5, 7], [8], [0, 4, 9], [10], [11]]
abbrev c110_m16 : List Am.Mark := [⟨false, 0, 0⟩, ⟨false, 0, 1⟩, ⟨false, 0, 1⟩, ⟨false, 0, 1⟩, ⟨false, 0, 0⟩, ⟨false, 0, 1⟩, ⟨false, 0, 1⟩, ⟨false, 0, 1⟩, ⟨false, 0, 1⟩, ⟨false, 0, 0⟩, ⟨true, 0, 1⟩, ⟨false, 1, 1⟩, ⟨false, 1, 1⟩]
theorem c110_d16 : drawFine c110_r16 c110_a16 c110_m16 = true := by decide +kernel
abbrev c110_r17 : List Ins := [
  ⟨some 85, none, .mov (.t 0)⟩,
  ⟨some 86, none, .mov (.t 11)⟩,
  ⟨some 87, none, .mov (.t 0)⟩,
  ⟨some 88, none, .mov (.t 11)⟩,
  ⟨some 89, none, .bin .sub (.t 88) (.c (.int .i64 1))⟩,
  ⟨some 90, none, .mov (.t 0)⟩,
  ⟨some 91, none, .mov (.t 11)⟩,
  ⟨some 92, none, .bin .sub (.t 91) (.c (.int .i64 1))⟩,
  ⟨some 93, none, .iaddr 2 (.t 90) (.t 92)⟩,
  ⟨some 94, none, .load 2 true (.t 93)⟩,
  ⟨some 95, none, .mov (.t 0)⟩,
  ⟨some 96, none, .mov (.t 11)⟩,
  ⟨some 97, none, .iaddr 2 (.t 95) (.t 96)⟩,
  ⟨some 98, none, .load 2 true (.t 97)⟩,
  ⟨some 99, none, .iaddr 2 (.t 85) (.t 86)⟩,
  ⟨none, none, .store 2 (.t 99) (.t 94)⟩,
  ⟨some 100, none, .iaddr 2 (.t 87) (.t 89)⟩,
  ⟨none, none, .store 2 (.t 100) (.t 98)⟩]
def c110_a17 : List (List Nat) := [[], [], [], [], [3], [], [], [6], [5, 7], [8], [], [], [10, 11], [12], [0, 1, 0, 1, 5, 6, 7, 8, 9, 13], [14, 9, 0, 1, 5, 6, 7, 8, 9, 13], [2, 4, 0, 1, 2, 3, 4, 5, 6, 7, 8, 9, 10, 11, 12, 13, 14, 15], [16, 13, 15, 0, 1, 2, 3, 4, 5, 6, 7, 8, 9, 10, 11, 12, 13, 14, 15]]
abbrev c110_m17 : List Am.Mark := [⟨false, 0, 0⟩, ⟨false, 0, 0⟩, ⟨false, 0, 1⟩, ⟨false, 0, 1⟩, ⟨false, 0, 1⟩, ⟨false, 0, 0⟩, ⟨false, 0, 0⟩, ⟨false, 0, 0⟩, ⟨false, 0, 0⟩, ⟨false, 0, 0⟩, ⟨false, 0, 1⟩, ⟨false, 0, 1⟩, ⟨false, 0, 1⟩, ⟨false, 0, 0⟩, ⟨false, 0, 0⟩, ⟨true, 0, 1⟩, ⟨false, 1, 1⟩, ⟨true, 1, 2⟩]
theorem c110_d17 : drawFine c110_r17 c110_a17 c110_m17 = true := by decide +kernel
abbrev c110_r18 : List Ins := [
  ⟨some 70, none, .mov (.t 11)⟩,
  ⟨some 71, none, .bin .sub (.t 70) (.c (.int .i64 1))⟩,
  ⟨some 11, none, .mov (.t 71)⟩]
abbrev c110_l19 : IR := .seq (.seq (.reg c110_r15) (.cond (.t 69) (.skip) (.exit 4))) (.seq (.blk 5 (.seq (.seq (.dreg c110_r16 c110_a16) (.cond (.t 84) (.exit 4) (.skip))) (.dreg c110_r17 c110_a17))) (.reg c110_r18))
abbrev c110_r20 : List Ins := [
  ⟨some 101, none, .mov (.t 2)⟩,
  ⟨some 102, none, .mov (.t 9)⟩,
  ⟨some 103, none, .bin .sub (.t 101) (.t 102)⟩,
  ⟨some 104, none, .bin .geq (.t 103) (.c (.int .i64 2))⟩]
abbrev c110_r21 : List Ins := [
  ⟨some 105, none, .mov (.t 9)⟩,
  ⟨some 106, none, .bin .add (.t 105) (.c (.int .i64 1))⟩,
  ⟨some 12, none, .mov (.t 106)⟩]
abbrev c110_r22 : List Ins := [
  ⟨some 107, none, .mov (.t 12)⟩,
  ⟨some 108, none, .mov (.t 2)⟩,
  ⟨some 109, none, .bin .lss (.t 107) (.t 108)⟩]
abbrev c110_r23 : List Ins := [
  ⟨some 112, none, .mov (.t 3)⟩,
  ⟨some 113, none, .mov (.t 0)⟩,
  ⟨some 114, none, .mov (.t 12)⟩,
  ⟨some 115, none, .iaddr 2 (.t 113) (.t 114)⟩,
  ⟨some 116, none, .load 2 true (.t 115)⟩,
  ⟨some 117, none, .mov (.t 0)⟩,
  ⟨some 118, none, .mov (.t 12)⟩,
  ⟨some 119, none, .bin .sub (.t 118) (.c (.int .i64 1))⟩,
  ⟨some 120, none, .iaddr 2 (.t 117) (.t 119)⟩,
  ⟨some 121, none, .load 2 true (.t 120)⟩,
  ⟨some 122, none, .call (.t 112) [.t 116, .t 121]⟩,
  ⟨some 123, none, .bin .lss (.t 122) (.c (.int .i64 0))⟩,
  ⟨some 124, none, .un .not (.t 123)⟩]
def c110_a23 : List (List Nat) := [[], [], [], [1, 2], [3], [], [], [6], [5, 7], [8], [0, 4, 9], [10], [11]]
abbrev c110_m23 : List Am.Mark := [⟨false, 0, 0⟩, ⟨false, 0, 1⟩, ⟨false, 0, 1⟩, ⟨false, 0, 1⟩, ⟨false, 0, 0⟩, ⟨false, 0, 1⟩, ⟨false, 0, 1⟩, ⟨false, 0, 1⟩, ⟨false, 0, 1⟩, ⟨false, 0, 0⟩, ⟨true, 0, 1⟩, ⟨false, 1, 1⟩, ⟨false, 1, 1⟩]
theorem c110_d23 : drawFine c110_r23 c110_a23 c110_m23 = true := by decide +kernel
abbrev c110_r24 : List Ins := [
  ⟨some 125, none, .mov (.t 0)⟩,
  ⟨some 126, none, .mov (.t 12)⟩,
  ⟨some 127, none, .mov (.t 0)⟩,
  ⟨some 128, none, .mov (.t 12)⟩,
  ⟨some 129, none, .bin .sub (.t 128) (.c (.int .i64 1))⟩,
  ⟨some 130, none, .mov (.t 0)⟩,
  ⟨some 131, none, .mov (.t 12)⟩,
  ⟨some 132, none, .bin .sub (.t 131) (.c (.int .i64 1))⟩,
  ⟨some 133, none, .iaddr 2 (.t 130) (.t 132)⟩,
  ⟨some 134, none, .load 2 true (.t 133)⟩,
  ⟨some 135, none, .mov (.t 0)⟩,
  ⟨some 136, none, .mov (.t 12)⟩,
  ⟨some 137, none, .iaddr 2 (.t 135) (.t 136)⟩,
  ⟨some 138, none, .load 2 true (.t 137)⟩,
  ⟨some 139, none, .iaddr 2 (.t 125) (.t 126)⟩,
  ⟨none, none, .store 2 (.t 139) (.t 134)⟩,
  ⟨some 140, none, .iaddr 2 (.t 127) (.t 129)⟩,
  ⟨none, none, .store 2 (.t 140) (.t 138)⟩]
def c110_a24 : List (List Nat) := [[], [], [], [], [3], [], [], [6], [5, 7], [8], [], [], [10, 11], [12], [0, 1, 0, 1, 5, 6, 7, 8, 9, 13], [14, 9, 0, 1, 5, 6, 7, 8, 9, 13], [2, 4, 0, 1, 2, 3, 4, 5, 6, 7, 8, 9, 10, 11, 12, 13, 14, 15], [16, 13, 15, 0, 1, 2, 3, 4, 5, 6, 7, 8, 9, 10, 11, 12, 13, 14, 15]]
abbrev c110_m24 : List Am.Mark := [⟨false, 0, 0⟩, ⟨false, 0, 0⟩, ⟨false, 0, 1⟩, ⟨false, 0, 1⟩, ⟨false, 0, 1⟩, ⟨false, 0, 0⟩, ⟨false, 0, 0⟩, ⟨false, 0, 0⟩, ⟨false, 0, 0⟩, ⟨false, 0, 0⟩, ⟨false, 0, 1⟩, ⟨false, 0, 1⟩, ⟨false, 0, 1⟩, ⟨false, 0, 0⟩, ⟨false, 0, 0⟩, ⟨true, 0, 1⟩, ⟨false, 1, 1⟩, ⟨true, 1, 2⟩]
theorem c110_d24 : drawFine c110_r24 c110_a24 c110_m24 = true := by decide +kernel
abbrev c110_r25 : List Ins := [
  ⟨some 110, none, .mov (.t 12)⟩,
  ⟨some 111, none, .bin .add (.t 110) (.c (.int .i64 1))⟩,
  ⟨some 12, none, .mov (.t 111)⟩]
abbrev c110_l26 : IR := .seq (.seq (.reg c110_r22) (.cond (.t 109) (.skip) (.exit 6))) (.seq (.blk 7 (.seq (.seq (.dreg c110_r23 c110_a23) (.cond (.t 124) (.exit 6) (.skip))) (.dreg c110_r24 c110_a24))) (.reg c110_r25))
abbrev c110_r27 : List Ins := [
  ⟨some 17, none, .mov (.t 10)⟩,
  ⟨some 18, none, .bin .add (.t 17) (.c (.int .i64 1))⟩,
  ⟨some 10, none, .mov (.t 18)⟩]
abbrev c110_l28 : IR := .seq (.seq (.reg c110_r4) (.cond (.t 16) (.skip) (.exit 0))) (.seq (.blk 1 (.seq (.blk 2 (.loop c110_l7)) (.seq (.seq (.reg c110_r8) (.cond (.t 41) (.seq (.reg c110_r9) (.ret)) (.skip))) (.seq (.seq (.reg c110_r10) (.cond (.t 45) (.seq (.reg c110_r11) (.ret)) (.skip))) (.seq (.dreg c110_r12 c110_a12) (.seq (.seq (.reg c110_r13) (.cond (.t 65) (.seq (.reg c110_r14) (.blk 4 (.loop c110_l19))) (.skip))) (.seq (.reg c110_r20) (.cond (.t 104) (.seq (.reg c110_r21) (.blk 6 (.loop c110_l26))) (.skip))))))))) (.reg c110_r27))
abbrev c110_r29 : List Ins := [
  ⟨some 8, none, .mov (.c (.bool false))⟩]
abbrev c110 : IR := .seq (.reg c110_r1) (.seq (.reg c110_r2) (.seq (.seq (.reg c110_r3) (.blk 0 (.loop c110_l28))) (.seq (.reg c110_r29) (.ret))))
abbrev F110 : FnA := ⟨141, c110, [.t 8]⟩
theorem ok110 : cFn Tryz.prog 110 = some F110 := by kernel_rfl
theorem hb110 : HasBody Tryz.prog 110 := ⟨_, Tryz.func110, by kernel_rfl, by kernel_rfl⟩
/-! slices.partitionEqualCmpFunc:Span -/
abbrev c111_r1 : List Ins := [
  ⟨some 10, none, .mov (.c (.int .i64 0))⟩]
abbrev c111_r2 : List Ins := [
  ⟨some 13, none, .mov (.t 0)⟩,
  ⟨some 14, none, .mov (.t 1)⟩,
  ⟨some 15, none, .mov (.t 0)⟩,
  ⟨some 16, none, .mov (.t 3)⟩,
  ⟨some 17, none, .mov (.t 0)⟩,
  ⟨some 18, none, .mov (.t 3)⟩,
  ⟨some 19, none, .iaddr 2 (.t 17) (.t 18)⟩,
  ⟨some 20, none, .load 2 true (.t 19)⟩,
  ⟨some 21, none, .mov (.t 0)⟩,
  ⟨some 22, none, .mov (.t 1)⟩,
  ⟨some 23, none, .iaddr 2 (.t 21) (.t 22)⟩,
  ⟨some 24, none, .load 2 true (.t 23)⟩,
  ⟨some 25, none, .iaddr 2 (.t 13) (.t 14)⟩,
  ⟨none, none, .store 2 (.t 25) (.t 20)⟩,
  ⟨some 26, none, .iaddr 2 (.t 15) (.t 16)⟩,
  ⟨none, none, .store 2 (.t 26) (.t 24)⟩]
def c111_a2 : List (List Nat) := [[], [], [], [], [], [], [4, 5], [6], [], [], [8, 9], [10], [0, 1, 0, 1, 4, 5, 6, 7, 11], [12, 7, 0, 1, 4, 5, 6, 7, 11], [2, 3, 0, 1, 2, 3, 4, 5, 6, 7, 8, 9, 10, 11, 12, 13], [14, 11, 13, 0, 1, 2, 3, 4, 5, 6, 7, 8, 9, 10, 11, 12, 13]]
abbrev c111_m2 : List Am.Mark := [⟨false, 0, 0⟩, ⟨false, 0, 0⟩, ⟨false, 0, 1⟩, ⟨false, 0, 1⟩, ⟨false, 0, 0⟩, ⟨false, 0, 0⟩, ⟨false, 0, 0⟩, ⟨false, 0, 0⟩, ⟨false, 0, 1⟩, ⟨false, 0, 1⟩, ⟨false, 0, 1⟩, ⟨false, 0, 0⟩, ⟨false, 0, 0⟩, ⟨true, 0, 1⟩, ⟨false, 1, 1⟩, ⟨true, 1, 2⟩]
theorem c111_d2 : drawFine c111_r2 c111_a2 c111_m2 = true := by decide +kernel
abbrev c111_r3 : List Ins := [
  ⟨some 27, none, .mov (.t 1)⟩,
  ⟨some 28, none, .bin .add (.t 27) (.c (.int .i64 1))⟩,
  ⟨some 29, none, .mov (.t 2)⟩,
  ⟨some 30, none, .bin .sub (.t 29) (.c (.int .i64 1))⟩,
  ⟨some 11, none, .mov (.t 28)⟩,
  ⟨some 12, none, .mov (.t 30)⟩]
abbrev c111_r4 : List Ins := [
  ⟨some 31, none, .mov (.t 11)⟩,
  ⟨some 32, none, .mov (.t 12)⟩,
  ⟨some 33, none, .bin .leq (.t 31) (.t 32)⟩,
  ⟨some 34, none, .mov (.t 33)⟩,
  ⟨some 35, some (34, true), .mov (.t 4)⟩,
  ⟨some 36, some (34, true), .mov (.t 0)⟩,
  ⟨some 37, some (34, true), .mov (.t 1)⟩,
  ⟨some 38, some (34, true), .iaddr 2 (.t 36) (.t 37)⟩,
  ⟨some 39, some (34, true), .load 2 true (.t 38)⟩,
  ⟨some 40, some (34, true), .mov (.t 0)⟩,
  ⟨some 41, some (34, true), .mov (.t 11)⟩,
  ⟨some 42, some (34, true), .iaddr 2 (.t 40) (.t 41)⟩,
  ⟨some 43, some (34, true), .load 2 true (.t 42)⟩,
  ⟨some 44, some (34, true), .call (.t 35) [.t 39, .t 43]⟩,
  ⟨some 45, some (34, true), .bin .lss (.t 44) (.c (.int .i64 0))⟩,
  ⟨some 46, some (34, true), .un .not (.t 45)⟩,
  ⟨some 47, none, .pick (.t 34) (.t 46) (.c (.bool false))⟩]
def c111_a4 : List (List Nat) := [[], [], [0, 1], [2], [3], [3], [3], [5, 6, 3], [7, 3], [3], [3], [9, 10, 3], [11, 3], [4, 8, 12, 3, 3], [13, 3], [14, 3], [3, 15]]
abbrev c111_m4 : List Am.Mark := [⟨false, 0, 1⟩, ⟨false, 0, 1⟩, ⟨false, 0, 1⟩, ⟨false, 0, 0⟩, ⟨false, 0, 0⟩, ⟨false, 0, 1⟩, ⟨false, 0, 1⟩, ⟨false, 0, 1⟩, ⟨false, 0, 0⟩, ⟨false, 0, 1⟩, ⟨false, 0, 1⟩, ⟨false, 0, 1⟩, ⟨false, 0, 0⟩, ⟨true, 0, 1⟩, ⟨false, 1, 1⟩, ⟨false, 1, 1⟩, ⟨false, 1, 1⟩]
theorem c111_d4 : drawFine c111_r4 c111_a4 c111_m4 = true := by decide +kernel
abbrev c111_r5 : List Ins := [
  ⟨some 48, none, .mov (.t 11)⟩,
  ⟨some 49, none, .bin .add (.t 48) (.c (.int .i64 1))⟩,
  ⟨some 11, none, .mov (.t 49)⟩]
abbrev c111_l6 : IR := .seq (.seq (.dreg c111_r4 c111_a4) (.cond (.t 47) (.skip) (.exit 2))) (.blk 3 (.reg c111_r5))
abbrev c111_r7 : List Ins := [
  ⟨some 50, none, .mov (.t 11)⟩,
  ⟨some 51, none, .mov (.t 12)⟩,
  ⟨some 52, none, .bin .leq (.t 50) (.t 51)⟩,
  ⟨some 53, none, .mov (.t 52)⟩,
  ⟨some 54, some (53, true), .mov (.t 4)⟩,
  ⟨some 55, some (53, true), .mov (.t 0)⟩,
  ⟨some 56, some (53, true), .mov (.t 1)⟩,
  ⟨some 57, some (53, true), .iaddr 2 (.t 55) (.t 56)⟩,
  ⟨some 58, some (53, true), .load 2 true (.t 57)⟩,
  ⟨some 59, some (53, true), .mov (.t 0)⟩,
  ⟨some 60, some (53, true), .mov (.t 12)⟩,
  ⟨some 61, some (53, true), .iaddr 2 (.t 59) (.t 60)⟩,
  ⟨some 62, some (53, true), .load 2 true (.t 61)⟩,
  ⟨some 63, some (53, true), .call (.t 54) [.t 58, .t 62]⟩,
  ⟨some 64, some (53, true), .bin .lss (.t 63) (.c (.int .i64 0))⟩,
  ⟨some 65, none, .pick (.t 53) (.t 64) (.c (.bool false))⟩]
def c111_a7 : List (List Nat) := [[], [], [0, 1], [2], [3], [3], [3], [5, 6, 3], [7, 3], [3], [3], [9, 10, 3], [11, 3], [4, 8, 12, 3, 3], [13, 3], [3, 14]]
abbrev c111_m7 : List Am.Mark := [⟨false, 0, 1⟩, ⟨false, 0, 1⟩, ⟨false, 0, 1⟩, ⟨false, 0, 0⟩, ⟨false, 0, 0⟩, ⟨false, 0, 1⟩, ⟨false, 0, 1⟩, ⟨false, 0, 1⟩, ⟨false, 0, 0⟩, ⟨false, 0, 1⟩, ⟨false, 0, 1⟩, ⟨false, 0, 1⟩, ⟨false, 0, 0⟩, ⟨true, 0, 1⟩, ⟨false, 1, 1⟩, ⟨false, 1, 1⟩]
theorem c111_d7 : drawFine c111_r7 c111_a7 c111_m7 = true := by decide +kernel
abbrev c111_r8 : List Ins := [
  ⟨some 66, none, .mov (.t 12)⟩,
  ⟨some 67, none, .bin .sub (.t 66) (.c (.int .i64 1))⟩,
  ⟨some 12, none, .mov (.t 67)⟩]
abbrev c111_l9 : IR := .seq (.seq (.dreg c111_r7 c111_a7) (.cond (.t 65) (.skip) (.exit 4))) (.blk 5 (.reg c111_r8))
abbrev c111_r10 : List Ins := [
  ⟨some 68, none, .mov (.t 11)⟩,
  ⟨some 69, none, .mov (.t 12)⟩,
  ⟨some 70, none, .bin .gtr (.t 68) (.t 69)⟩]
abbrev c111_r11 : List Ins := [
  ⟨some 71, none, .mov (.t 0)⟩,
  ⟨some 72, none, .mov (.t 11)⟩,
  ⟨some 73, none, .mov (.t 0)⟩,
  ⟨some 74, none, .mov (.t 12)⟩,
  ⟨some 75, none, .mov (.t 0)⟩,
  ⟨some 76, none, .mov (.t 12)⟩,
  ⟨some 77, none, .iaddr 2 (.t 75) (.t 76)⟩,
  ⟨some 78, none, .load 2 true (.t 77)⟩,
  ⟨some 79, none, .mov (.t 0)⟩,
  ⟨some 80, none, .mov (.t 11)⟩,
  ⟨some 81, none, .iaddr 2 (.t 79) (.t 80)⟩,
  ⟨some 82, none, .load 2 true (.t 81)⟩,
  ⟨some 83, none, .iaddr 2 (.t 71) (.t 72)⟩,
  ⟨none, none, .store 2 (.t 83) (.t 78)⟩,
  ⟨some 84, none, .iaddr 2 (.t 73) (.t 74)⟩,
  ⟨none, none, .store 2 (.t 84) (.t 82)⟩]
def c111_a11 : List (List Nat) := [[], [], [], [], [], [], [4, 5], [6], [], [], [8, 9], [10], [0, 1, 0, 1, 4, 5, 6, 7, 11], [12, 7, 0, 1, 4, 5, 6, 7, 11], [2, 3, 0, 1, 2, 3, 4, 5, 6, 7, 8, 9, 10, 11, 12, 13], [14, 11, 13, 0, 1, 2, 3, 4, 5, 6, 7, 8, 9, 10, 11, 12, 13]]
abbrev c111_m11 : List Am.Mark := [⟨false, 0, 0⟩, ⟨false, 0, 0⟩, ⟨false, 0, 1⟩, ⟨false, 0, 1⟩, ⟨false, 0, 0⟩, ⟨false, 0, 0⟩, ⟨false, 0, 0⟩, ⟨false, 0, 0⟩, ⟨false, 0, 1⟩, ⟨false, 0, 1⟩, ⟨false, 0, 1⟩, ⟨false, 0, 0⟩, ⟨false, 0, 0⟩, ⟨true, 0, 1⟩, ⟨false, 1, 1⟩, ⟨true, 1, 2⟩]
theorem c111_d11 : drawFine c111_r11 c111_a11 c111_m11 = true := by decide +kernel
abbrev c111_r12 : List Ins := [
  ⟨some 85, none, .mov (.t 11)⟩,
  ⟨some 86, none, .bin .add (.t 85) (.c (.int .i64 1))⟩,
  ⟨some 11, none, .mov (.t 86)⟩]
abbrev c111_r13 : List Ins := [
  ⟨some 87, none, .mov (.t 12)⟩,
  ⟨some 88, none, .bin .sub (.t 87) (.c (.int .i64 1))⟩,
  ⟨some 12, none, .mov (.t 88)⟩]
abbrev c111_l14 : IR := .blk 1 (.seq (.blk 2 (.loop c111_l6)) (.seq (.blk 4 (.loop c111_l9)) (.seq (.seq (.reg c111_r10) (.cond (.t 70) (.exit 0) (.skip))) (.seq (.dreg c111_r11 c111_a11) (.seq (.reg c111_r12) (.reg c111_r13))))))
abbrev c111_r15 : List Ins := [
  ⟨some 89, none, .mov (.t 11)⟩,
  ⟨some 10, none, .mov (.t 89)⟩]
abbrev c111 : IR := .seq (.reg c111_r1) (.seq (.dreg c111_r2 c111_a2) (.seq (.reg c111_r3) (.seq (.blk 0 (.loop c111_l14)) (.seq (.reg c111_r15) (.ret)))))
abbrev F111 : FnA := ⟨90, c111, [.t 10]⟩
theorem ok111 : cFn Tryz.prog 111 = some F111 := by kernel_rfl
theorem hb111 : HasBody Tryz.prog 111 := ⟨_, Tryz.func111, by kernel_rfl, by kernel_rfl⟩
/-! slices.partitionCmpFunc:Span -/
abbrev c112_r1 : List Ins := [
  ⟨some 10, none, .mov (.c (.int .i64 0))⟩,
  ⟨some 11, none, .mov (.c (.bool false))⟩]
abbrev c112_r2 : List Ins := [
  ⟨some 14, none, .mov (.t 0)⟩,
  ⟨some 15, none, .mov (.t 1)⟩,
  ⟨some 16, none, .mov (.t 0)⟩,
  ⟨some 17, none, .mov (.t 3)⟩,
  ⟨some 18, none, .mov (.t 0)⟩,
  ⟨some 19, none, .mov (.t 3)⟩,
  ⟨some 20, none, .iaddr 2 (.t 18) (.t 19)⟩,
  ⟨some 21, none, .load 2 true (.t 20)⟩,
  ⟨some 22, none, .mov (.t 0)⟩,
  ⟨some 23, none, .mov (.t 1)⟩,
  ⟨some 24, none, .iaddr 2 (.t 22) (.t 23)⟩,
  ⟨some 25, none, .load 2 true (.t 24)⟩,
  ⟨some 26, none, .iaddr 2 (.t 14) (.t 15)⟩,
  ⟨none, none, .store 2 (.t 26) (.t 21)⟩,
  ⟨some 27, none, .iaddr 2 (.t 16) (.t 17)⟩,
  ⟨none, none, .store 2 (.t 27) (.t 25)⟩]
def c112_a2 : List (List Nat) := [[], [], [], [], [], [], [4, 5], [6], [], [], [8, 9], [10], [0, 1, 0, 1, 4, 5, 6, 7, 11], [12, 7, 0, 1, 4, 5, 6, 7, 11], [2, 3, 0, 1, 2, 3, 4, 5, 6, 7, 8, 9, 10, 11, 12, 13], [14, 11, 13, 0, 1, 2, 3, 4, 5, 6, 7, 8, 9, 10, 11, 12, 13]]
abbrev c112_m2 : List Am.Mark := [⟨false, 0, 0⟩, ⟨false, 0, 0⟩, ⟨false, 0, 1⟩, ⟨false, 0, 1⟩, ⟨false, 0, 0⟩, ⟨false, 0, 0⟩, ⟨false, 0, 0⟩, ⟨false, 0, 0⟩, ⟨false, 0, 1⟩, ⟨false, 0, 1⟩, ⟨false, 0, 1⟩, ⟨false, 0, 0⟩, ⟨false, 0, 0⟩, ⟨true, 0, 1⟩, ⟨false, 1, 1⟩, ⟨true, 1, 2⟩]
theorem c112_d2 : drawFine c112_r2 c112_a2 c112_m2 = true := by decide +kernel
abbrev c112_r3 : List Ins := [
  ⟨some 28, none, .mov (.t 1)⟩,
  ⟨some 29, none, .bin .add (.t 28) (.c (.int .i64 1))⟩,
  ⟨some 30, none, .mov (.t 2)⟩,
  ⟨some 31, none, .bin .sub (.t 30) (.c (.int .i64 1))⟩,
  ⟨some 12, none, .mov (.t 29)⟩,
  ⟨some 13, none, .mov (.t 31)⟩]
abbrev c112_r4 : List Ins := [
  ⟨some 32, none, .mov (.t 12)⟩,
  ⟨some 33, none, .mov (.t 13)⟩,
  ⟨some 34, none, .bin .leq (.t 32) (.t 33)⟩,
  ⟨some 35, none, .mov (.t 34)⟩,
  ⟨some 36, some (35, true), .mov (.t 4)⟩,
  ⟨some 37, some (35, true), .mov (.t 0)⟩,
  ⟨some 38, some (35, true), .mov (.t 12)⟩,
  ⟨some 39, some (35, true), .iaddr 2 (.t 37) (.t 38)⟩,
  ⟨some 40, some (35, true), .load 2 true (.t 39)⟩,
  ⟨some 41, some (35, true), .mov (.t 0)⟩,
  ⟨some 42, some (35, true), .mov (.t 1)⟩,
  ⟨some 43, some (35, true), .iaddr 2 (.t 41) (.t 42)⟩,
  ⟨some 44, some (35, true), .load 2 true (.t 43)⟩,
  ⟨some 45, some (35, true), .call (.t 36) [.t 40, .t 44]⟩,
  ⟨some 46, some (35, true), .bin .lss (.t 45) (.c (.int .i64 0))⟩,
  ⟨some 47, none, .pick (.t 35) (.t 46) (.c (.bool false))⟩]
def c112_a4 : List (List Nat) := [[], [], [0, 1], [2], [3], [3], [3], [5, 6, 3], [7, 3], [3], [3], [9, 10, 3], [11, 3], [4, 8, 12, 3, 3], [13, 3], [3, 14]]
abbrev c112_m4 : List Am.Mark := [⟨false, 0, 1⟩, ⟨false, 0, 1⟩, ⟨false, 0, 1⟩, ⟨false, 0, 0⟩, ⟨false, 0, 0⟩, ⟨false, 0, 1⟩, ⟨false, 0, 1⟩, ⟨false, 0, 1⟩, ⟨false, 0, 0⟩, ⟨false, 0, 1⟩, ⟨false, 0, 1⟩, ⟨false, 0, 1⟩, ⟨false, 0, 0⟩, ⟨true, 0, 1⟩, ⟨false, 1, 1⟩, ⟨false, 1, 1⟩]
theorem c112_d4 : drawFine c112_r4 c112_a4 c112_m4 = true := by decide +kernel
abbrev c112_r5 : List Ins := [
  ⟨some 48, none, .mov (.t 12)⟩,
  ⟨some 49, none, .bin .add (.t 48) (.c (.int .i64 1))⟩,
  ⟨some 12, none, .mov (.t 49)⟩]
abbrev c112_l6 : IR := .seq (.seq (.dreg c112_r4 c112_a4) (.cond (.t 47) (.skip) (.exit 0))) (.blk 1 (.reg c112_r5))
abbrev c112_r7 : List Ins := [
  ⟨some 50, none, .mov (.t 12)⟩,
  ⟨some 51, none, .mov (.t 13)⟩,
  ⟨some 52, none, .bin .leq (.t 50) (.t 51)⟩,
  ⟨some 53, none, .mov (.t 52)⟩,
  ⟨some 54, some (53, true), .mov (.t 4)⟩,
  ⟨some 55, some (53, true), .mov (.t 0)⟩,
  ⟨some 56, some (53, true), .mov (.t 13)⟩,
  ⟨some 57, some (53, true), .iaddr 2 (.t 55) (.t 56)⟩,
  ⟨some 58, some (53, true), .load 2 true (.t 57)⟩,
  ⟨some 59, some (53, true), .mov (.t 0)⟩,
  ⟨some 60, some (53, true), .mov (.t 1)⟩,
  ⟨some 61, some (53, true), .iaddr 2 (.t 59) (.t 60)⟩,
  ⟨some 62, some (53, true), .load 2 true (.t 61)⟩,
  ⟨some 63, some (53, true), .call (.t 54) [.t 58, .t 62]⟩,
  ⟨some 64, some (53, true), .bin .lss (.t 63) (.c (.int .i64 0))⟩,
  ⟨some 65, some (53, true), .un .not (.t 64)⟩,
  ⟨some 66, none, .pick (.t 53) (.t 65) (.c (.bool false))⟩]
def c112_a7 : List (List Nat) := [[], [], [0, 1], [2], [3], [3], [3], [5, 6, 3], [7, 3], [3], [3], [9, 10, 3], [11, 3], [4, 8, 12, 3, 3], [13, 3], [14, 3], [3, 15]]
abbrev c112_m7 : List Am.Mark := [⟨false, 0, 1⟩, ⟨false, 0, 1⟩, ⟨false, 0, 1⟩, ⟨false, 0, 0⟩, ⟨false, 0, 0⟩, ⟨false, 0, 1⟩, ⟨false, 0, 1⟩, ⟨false, 0, 1⟩, ⟨false, 0, 0⟩, ⟨false, 0, 1⟩, ⟨false, 0, 1⟩, ⟨false, 0, 1⟩, ⟨false, 0, 0⟩, ⟨true, 0, 1⟩, ⟨false, 1, 1⟩, ⟨false, 1, 1⟩, ⟨false, 1, 1⟩]
theorem c112_d7 : drawFine c112_r7 c112_a7 c112_m7 = true := by decide +kernel
abbrev c112_r8 : List Ins := [
  ⟨some 67, none, .mov (.t 13)⟩,
  ⟨some 68, none, .bin .sub (.t 67) (.c (.int .i64 1))⟩,
  ⟨some 13, none, .mov (.t 68)⟩]
abbrev c112_l9 : IR := .seq (.seq (.dreg c112_r7 c112_a7) (.cond (.t 66) (.skip) (.exit 2))) (.blk 3 (.reg c112_r8))
abbrev c112_r10 : List Ins := [
  ⟨some 69, none, .mov (.t 12)⟩,
  ⟨some 70, none, .mov (.t 13)⟩,
  ⟨some 71, none, .bin .gtr (.t 69) (.t 70)⟩]
abbrev c112_r11 : List Ins := [
  ⟨some 72, none, .mov (.t 0)⟩,
  ⟨some 73, none, .mov (.t 13)⟩,
  ⟨some 74, none, .mov (.t 0)⟩,
  ⟨some 75, none, .mov (.t 1)⟩,
  ⟨some 76, none, .mov (.t 0)⟩,
  ⟨some 77, none, .mov (.t 1)⟩,
  ⟨some 78, none, .iaddr 2 (.t 76) (.t 77)⟩,
  ⟨some 79, none, .load 2 true (.t 78)⟩,
  ⟨some 80, none, .mov (.t 0)⟩,
  ⟨some 81, none, .mov (.t 13)⟩,
  ⟨some 82, none, .iaddr 2 (.t 80) (.t 81)⟩,
  ⟨some 83, none, .load 2 true (.t 82)⟩,
  ⟨some 84, none, .iaddr 2 (.t 72) (.t 73)⟩,
  ⟨none, none, .store 2 (.t 84) (.t 79)⟩,
  ⟨some 85, none, .iaddr 2 (.t 74) (.t 75)⟩,
  ⟨none, none, .store 2 (.t 85) (.t 83)⟩]
def c112_a11 : List (List Nat) := [[], [], [], [], [], [], [4, 5], [6], [], [], [8, 9], [10], [0, 1, 0, 1, 4, 5, 6, 7, 11], [12, 7, 0, 1, 4, 5, 6, 7, 11], [2, 3, 0, 1, 2, 3, 4, 5, 6, 7, 8, 9, 10, 11, 12, 13], [14, 11, 13, 0, 1, 2, 3, 4, 5, 6, 7, 8, 9, 10, 11, 12, 13]]
abbrev c112_m11 : List Am.Mark := [⟨false, 0, 0⟩, ⟨false, 0, 0⟩, ⟨false, 0, 1⟩, ⟨false, 0, 1⟩, ⟨false, 0, 0⟩, ⟨false, 0, 0⟩, ⟨false, 0, 0⟩, ⟨false, 0, 0⟩, ⟨false, 0, 1⟩, ⟨false, 0, 1⟩, ⟨false, 0, 1⟩, ⟨false, 0, 0⟩, ⟨false, 0, 0⟩, ⟨true, 0, 1⟩, ⟨false, 1, 1⟩, ⟨true, 1, 2⟩]
theorem c112_d11 : drawFine c112_r11 c112_a11 c112_m11 = true := by decide +kernel
abbrev c112_r12 : List Ins := [
  ⟨some 86, none, .mov (.t 13)⟩,
  ⟨some 10, none, .mov (.t 86)⟩,
  ⟨some 11, none, .mov (.c (.bool true))⟩]
abbrev c112_r13 : List Ins := [
  ⟨some 87, none, .mov (.t 0)⟩,
  ⟨some 88, none, .mov (.t 12)⟩,
  ⟨some 89, none, .mov (.t 0)⟩,
  ⟨some 90, none, .mov (.t 13)⟩,
  ⟨some 91, none, .mov (.t 0)⟩,
  ⟨some 92, none, .mov (.t 13)⟩,
  ⟨some 93, none, .iaddr 2 (.t 91) (.t 92)⟩,
  ⟨some 94, none, .load 2 true (.t 93)⟩,
  ⟨some 95, none, .mov (.t 0)⟩,
  ⟨some 96, none, .mov (.t 12)⟩,
  ⟨some 97, none, .iaddr 2 (.t 95) (.t 96)⟩,
  ⟨some 98, none, .load 2 true (.t 97)⟩,
  ⟨some 99, none, .iaddr 2 (.t 87) (.t 88)⟩,
  ⟨none, none, .store 2 (.t 99) (.t 94)⟩,
  ⟨some 100, none, .iaddr 2 (.t 89) (.t 90)⟩,
  ⟨none, none, .store 2 (.t 100) (.t 98)⟩]
def c112_a13 : List (List Nat) := [[], [], [], [], [], [], [4, 5], [6], [], [], [8, 9], [10], [0, 1, 0, 1, 4, 5, 6, 7, 11], [12, 7, 0, 1, 4, 5, 6, 7, 11], [2, 3, 0, 1, 2, 3, 4, 5, 6, 7, 8, 9, 10, 11, 12, 13], [14, 11, 13, 0, 1, 2, 3, 4, 5, 6, 7, 8, 9, 10, 11, 12, 13]]
abbrev c112_m13 : List Am.Mark := [⟨false, 0, 0⟩, ⟨false, 0, 0⟩, ⟨false, 0, 1⟩, ⟨false, 0, 1⟩, ⟨false, 0, 0⟩, ⟨false, 0, 0⟩, ⟨false, 0, 0⟩, ⟨false, 0, 0⟩, ⟨false, 0, 1⟩, ⟨false, 0, 1⟩, ⟨false, 0, 1⟩, ⟨false, 0, 0⟩, ⟨false, 0, 0⟩, ⟨true, 0, 1⟩, ⟨false, 1, 1⟩, ⟨true, 1, 2⟩]
theorem c112_d13 : drawFine c112_r13 c112_a13 c112_m13 = true := by decide +kernel
abbrev c112_r14 : List Ins := [
  ⟨some 101, none, .mov (.t 12)⟩,
  ⟨some 102, none, .bin .add (.t 101) (.c (.int .i64 1))⟩,
  ⟨some 12, none, .mov (.t 102)⟩]
abbrev c112_r15 : List Ins := [
  ⟨some 103, none, .mov (.t 13)⟩,
  ⟨some 104, none, .bin .sub (.t 103) (.c (.int .i64 1))⟩,
  ⟨some 13, none, .mov (.t 104)⟩]
abbrev c112_r16 : List Ins := [
  ⟨some 105, none, .mov (.t 12)⟩,
  ⟨some 106, none, .mov (.t 13)⟩,
  ⟨some 107, none, .bin .leq (.t 105) (.t 106)⟩,
  ⟨some 108, none, .mov (.t 107)⟩,
  ⟨some 109, some (108, true), .mov (.t 4)⟩,
  ⟨some 110, some (108, true), .mov (.t 0)⟩,
  ⟨some 111, some (108, true), .mov (.t 12)⟩,
  ⟨some 112, some (108, true), .iaddr 2 (.t 110) (.t 111)⟩,
  ⟨some 113, some (108, true), .load 2 true (.t 112)⟩,
  ⟨some 114, some (108, true), .mov (.t 0)⟩,
  ⟨some 115, some (108, true), .mov (.t 1)⟩,
  ⟨some 116, some (108, true), .iaddr 2 (.t 114) (.t 115)⟩,
  ⟨some 117, some (108, true), .load 2 true (.t 116)⟩,
  ⟨some 118, some (108, true), .call (.t 109) [.t 113, .t 117]⟩,
  ⟨some 119, some (108, true), .bin .lss (.t 118) (.c (.int .i64 0))⟩,
  ⟨some 120, none, .pick (.t 108) (.t 119) (.c (.bool false))⟩]
def c112_a16 : List (List Nat) := [[], [], [0, 1], [2], [3], [3], [3], [5, 6, 3], [7, 3], [3], [3], [9, 10, 3], [11, 3], [4, 8, 12, 3, 3], [13, 3], [3, 14]]
abbrev c112_m16 : List Am.Mark := [⟨false, 0, 1⟩, ⟨false, 0, 1⟩, ⟨false, 0, 1⟩, ⟨false, 0, 0⟩, ⟨false, 0, 0⟩, ⟨false, 0, 1⟩, ⟨false, 0, 1⟩, ⟨false, 0, 1⟩, ⟨false, 0, 0⟩, ⟨false, 0, 1⟩, ⟨false, 0, 1⟩, ⟨false, 0, 1⟩, ⟨false, 0, 0⟩, ⟨true, 0, 1⟩, ⟨false, 1, 1⟩, ⟨false, 1, 1⟩]
theorem c112_d16 : drawFine c112_r16 c112_a16 c112_m16 = true := by decide +kernel
abbrev c112_r17 : List Ins := [
  ⟨some 121, none, .mov (.t 12)⟩,
  ⟨some 122, none, .bin .add (.t 121) (.c (.int .i64 1))⟩,
  ⟨some 12, none, .mov (.t 122)⟩]
abbrev c112_l18 : IR := .seq (.seq (.dreg c112_r16 c112_a16) (.cond (.t 120) (.skip) (.exit 6))) (.blk 7 (.reg c112_r17))
abbrev c112_r19 : List Ins := [
  ⟨some 123, none, .mov (.t 12)⟩,
  ⟨some 124, none, .mov (.t 13)⟩,
  ⟨some 125, none, .bin .leq (.t 123) (.t 124)⟩,
  ⟨some 126, none, .mov (.t 125)⟩,
  ⟨some 127, some (126, true), .mov (.t 4)⟩,
  ⟨some 128, some (126, true), .mov (.t 0)⟩,
  ⟨some 129, some (126, true), .mov (.t 13)⟩,
  ⟨some 130, some (126, true), .iaddr 2 (.t 128) (.t 129)⟩,
  ⟨some 131, some (126, true), .load 2 true (.t 130)⟩,
  ⟨some 132, some (126, true), .mov (.t 0)⟩,
  ⟨some 133, some (126, true), .mov (.t 1)⟩,
  ⟨some 134, some (126, true), .iaddr 2 (.t 132) (.t 133)⟩,
  ⟨some 135, some (126, true), .load 2 true (.t 134)⟩,
  ⟨some 136, some (126, true), .call (.t 127) [.t 131, .t 135]⟩,
  ⟨some 137, some (126, true), .bin .lss (.t 136) (.c (.int .i64 0))⟩,
  ⟨some 138, some (126, true), .un .not (.t 137)⟩,
  ⟨some 139, none, .pick (.t 126) (.t 138) (.c (.bool false))⟩]
def c112_a19 : List (List Nat) := [[], [], [0, 1], [2], [3], [3], [3], [5, 6, 3], [7, 3], [3], [3], [9, 10, 3], [11, 3], [4, 8, 12, 3, 3], [13, 3], [14, 3], [3, 15]]
abbrev c112_m19 : List Am.Mark := [⟨false, 0, 1⟩, ⟨false, 0, 1⟩, ⟨false, 0, 1⟩, ⟨false, 0, 0⟩, ⟨false, 0, 0⟩, ⟨false, 0, 1⟩, ⟨false, 0, 1⟩, ⟨false, 0, 1⟩, ⟨false, 0, 0⟩, ⟨false, 0, 1⟩, ⟨false, 0, 1⟩, ⟨false, 0, 1⟩, ⟨false, 0, 0⟩, ⟨true, 0, 1⟩, ⟨false, 1, 1⟩, ⟨false, 1, 1⟩, ⟨false, 1, 1⟩]
theorem c112_d19 : drawFine c112_r19 c112_a19 c112_m19 = true := by decide +kernel
abbrev c112_r20 : List Ins := [
  ⟨some 140, none, .mov (.t 13)⟩,
  ⟨some 141, none, .bin .sub (.t 140) (.c (.int .i64 1))⟩,
  ⟨some 13, none, .mov (.t 141)⟩]
abbrev c112_l21 : IR := .seq (.seq (.dreg c112_r19 c112_a19) (.cond (.t 139) (.skip) (.exit 8))) (.blk 9 (.reg c112_r20))
abbrev c112_r22 : List Ins := [
  ⟨some 142, none, .mov (.t 12)⟩,
  ⟨some 143, none, .mov (.t 13)⟩,
  ⟨some 144, none, .bin .gtr (.t 142) (.t 143)⟩]
abbrev c112_r23 : List Ins := [
  ⟨some 145, none, .mov (.t 0)⟩,
  ⟨some 146, none, .mov (.t 12)⟩,
  ⟨some 147, none, .mov (.t 0)⟩,
  ⟨some 148, none, .mov (.t 13)⟩,
  ⟨some 149, none, .mov (.t 0)⟩,
  ⟨some 150, none, .mov (.t 13)⟩,
  ⟨some 151, none, .iaddr 2 (.t 149) (.t 150)⟩,
  ⟨some 152, none, .load 2 true (.t 151)⟩,
  ⟨some 153, none, .mov (.t 0)⟩,
  ⟨some 154, none, .mov (.t 12)⟩,
  ⟨some 155, none, .iaddr 2 (.t 153) (.t 154)⟩,
  ⟨some 156, none, .load 2 true (.t 155)⟩,
  ⟨some 157, none, .iaddr 2 (.t 145) (.t 146)⟩,
  ⟨none, none, .store 2 (.t 157) (.t 152)⟩,
  ⟨some 158, none, .iaddr 2 (.t 147) (.t 148)⟩,
  ⟨none, none, .store 2 (.t 158) (.t 156)⟩]
def c112_a23 : List (List Nat) := [[], [], [], [], [], [], [4, 5], [6], [], [], [8, 9], [10], [0, 1, 0, 1, 4, 5, 6, 7, 11], [12, 7, 0, 1, 4, 5, 6, 7, 11], [2, 3, 0, 1, 2, 3, 4, 5, 6, 7, 8, 9, 10, 11, 12, 13], [14, 11, 13, 0, 1, 2, 3, 4, 5, 6, 7, 8, 9, 10, 11, 12, 13]]
abbrev c112_m23 : List Am.Mark := [⟨false, 0, 0⟩, ⟨false, 0, 0⟩, ⟨false, 0, 1⟩, ⟨false, 0, 1⟩, ⟨false, 0, 0⟩, ⟨false, 0, 0⟩, ⟨false, 0, 0⟩, ⟨false, 0, 0⟩, ⟨false, 0, 1⟩, ⟨false, 0, 1⟩, ⟨false, 0, 1⟩, ⟨false, 0, 0⟩, ⟨false, 0, 0⟩, ⟨true, 0, 1⟩, ⟨false, 1, 1⟩, ⟨true, 1, 2⟩]
theorem c112_d23 : drawFine c112_r23 c112_a23 c112_m23 = true := by decide +kernel
abbrev c112_r24 : List Ins := [
  ⟨some 159, none, .mov (.t 12)⟩,
  ⟨some 160, none, .bin .add (.t 159) (.c (.int .i64 1))⟩,
  ⟨some 12, none, .mov (.t 160)⟩]
abbrev c112_r25 : List Ins := [
  ⟨some 161, none, .mov (.t 13)⟩,
  ⟨some 162, none, .bin .sub (.t 161) (.c (.int .i64 1))⟩,
  ⟨some 13, none, .mov (.t 162)⟩]
abbrev c112_l26 : IR := .blk 5 (.seq (.blk 6 (.loop c112_l18)) (.seq (.blk 8 (.loop c112_l21)) (.seq (.seq (.reg c112_r22) (.cond (.t 144) (.exit 4) (.skip))) (.seq (.dreg c112_r23 c112_a23) (.seq (.reg c112_r24) (.reg c112_r25))))))
abbrev c112_r27 : List Ins := [
  ⟨some 163, none, .mov (.t 0)⟩,
  ⟨some 164, none, .mov (.t 13)⟩,
  ⟨some 165, none, .mov (.t 0)⟩,
  ⟨some 166, none, .mov (.t 1)⟩,
  ⟨some 167, none, .mov (.t 0)⟩,
  ⟨some 168, none, .mov (.t 1)⟩,
  ⟨some 169, none, .iaddr 2 (.t 167) (.t 168)⟩,
  ⟨some 170, none, .load 2 true (.t 169)⟩,
  ⟨some 171, none, .mov (.t 0)⟩,
  ⟨some 172, none, .mov (.t 13)⟩,
  ⟨some 173, none, .iaddr 2 (.t 171) (.t 172)⟩,
  ⟨some 174, none, .load 2 true (.t 173)⟩,
  ⟨some 175, none, .iaddr 2 (.t 163) (.t 164)⟩,
  ⟨none, none, .store 2 (.t 175) (.t 170)⟩,
  ⟨some 176, none, .iaddr 2 (.t 165) (.t 166)⟩,
  ⟨none, none, .store 2 (.t 176) (.t 174)⟩]
def c112_a27 : List (List Nat) := [[], [], [], [], [], [], [4, 5], [6], [], [], [8, 9], [10], [0, 1, 0, 1, 4, 5, 6, 7, 11], [12, 7, 0, 1, 4, 5, 6, 7, 11], [2, 3, 0, 1, 2, 3, 4, 5, 6, 7, 8, 9, 10, 11, 12, 13], [14, 11, 13, 0, 1, 2, 3, 4, 5, 6, 7, 8, 9, 10, 11, 12, 13]]
abbrev c112_m27 : List Am.Mark := [⟨false, 0, 0⟩, ⟨false, 0, 0⟩, ⟨false, 0, 1⟩, ⟨false, 0, 1⟩, ⟨false, 0, 0⟩, ⟨false, 0, 0⟩, ⟨false, 0, 0⟩, ⟨false, 0, 0⟩, ⟨false, 0, 1⟩, ⟨false, 0, 1⟩, ⟨false, 0, 1⟩, ⟨false, 0, 0⟩, ⟨false, 0, 0⟩, ⟨true, 0, 1⟩, ⟨false, 1, 1⟩, ⟨true, 1, 2⟩]
theorem c112_d27 : drawFine c112_r27 c112_a27 c112_m27 = true := by decide +kernel
abbrev c112_r28 : List Ins := [
  ⟨some 177, none, .mov (.t 13)⟩,
  ⟨some 10, none, .mov (.t 177)⟩,
  ⟨some 11, none, .mov (.c (.bool false))⟩]
abbrev c112 : IR := .seq (.reg c112_r1) (.seq (.dreg c112_r2 c112_a2) (.seq (.reg c112_r3) (.seq (.blk 0 (.loop c112_l6)) (.seq (.blk 2 (.loop c112_l9)) (.seq (.seq (.reg c112_r10) (.cond (.t 71) (.seq (.dreg c112_r11 c112_a11) (.seq (.reg c112_r12) (.ret))) (.skip))) (.seq (.dreg c112_r13 c112_a13) (.seq (.reg c112_r14) (.seq (.reg c112_r15) (.seq (.blk 4 (.loop c112_l26)) (.seq (.dreg c112_r27 c112_a27) (.seq (.reg c112_r28) (.ret))))))))))))
abbrev F112 : FnA := ⟨178, c112, [.t 10, .t 11]⟩
theorem ok112 : cFn Tryz.prog 112 = some F112 := by kernel_rfl
theorem hb112 : HasBody Tryz.prog 112 := ⟨_, Tryz.func112, by kernel_rfl, by kernel_rfl⟩
/-! math/bits.Len32 -/
abbrev c113_r1 : List Ins := [
  ⟨some 2, none, .mov (.c (.int .i64 0))⟩]
abbrev c113_r2 : List Ins := [
  ⟨some 3, none, .mov (.t 0)⟩,
  ⟨some 4, none, .bin .geq (.t 3) (.c (.int .u32 65536))⟩]
abbrev c113_r3 : List Ins := [
  ⟨some 5, none, .mov (.t 0)⟩,
  ⟨some 6, none, .bin .shr (.t 5) (.c (.int .u64 16))⟩,
  ⟨some 0, none, .mov (.t 6)⟩]
abbrev c113_r4 : List Ins := [
  ⟨some 2, none, .mov (.c (.int .i64 16))⟩]
abbrev c113_r5 : List Ins := [
  ⟨some 7, none, .mov (.t 0)⟩,
  ⟨some 8, none, .bin .geq (.t 7) (.c (.int .u32 256))⟩]
abbrev c113_r6 : List Ins := [
  ⟨some 9, none, .mov (.t 0)⟩,
  ⟨some 10, none, .bin .shr (.t 9) (.c (.int .u64 8))⟩,
  ⟨some 0, none, .mov (.t 10)⟩]
abbrev c113_r7 : List Ins := [
  ⟨some 11, none, .mov (.t 2)⟩,
  ⟨some 12, none, .bin .add (.t 11) (.c (.int .i64 8))⟩,
  ⟨some 2, none, .mov (.t 12)⟩]
abbrev c113_r8 : List Ins := [
  ⟨some 13, none, .mov (.t 2)⟩,
  ⟨some 14, none, .mov (.t 0)⟩,
  ⟨some 15, none, .conv .u8 (.t 14)⟩,
  ⟨some 16, none, .idxS (.c (.str ⟨#[0, 1, 2, 2, 3, 3, 3, 3, 4, 4, 4, 4, 4, 4, 4, 4, 5, 5, 5, 5, 5, 5, 5, 5, 5, 5, 5, 5, 5, 5, 5, 5, 6, 6, 6, 6, 6, 6, 6, 6, 6, 6, 6, 6, 6, 6, 6, 6, 6, 6, 6, 6, 6, 6, 6, 6, 6, 6, 6, 6, 6, 6, 6, 6, 7, 7, 7, 7, 7, 7, 7, 7, 7, 7, 7, 7, 7, 7, 7, 7, 7, 7, 7, 7, 7, 7, 7, 7, 7, 7, 7, 7, 7, 7, 7, 7, 7, 7, 7, 7, 7, 7, 7, 7, 7, 7, 7, 7, 7, 7, 7, 7, 7, 7, 7, 7, 7, 7, 7, 7, 7, 7, 7, 7, 7, 7, 7, 7, 8, 8, 8, 8, 8, 8, 8, 8, 8, 8, 8, 8, 8, 8, 8, 8, 8, 8, 8, 8, 8, 8, 8, 8, 8, 8, 8, 8, 8, 8, 8, 8, 8, 8, 8, 8, 8, 8, 8, 8, 8, 8, 8, 8, 8, 8, 8, 8, 8, 8, 8, 8, 8, 8, 8, 8, 8, 8, 8, 8, 8, 8, 8, 8, 8, 8, 8, 8, 8, 8, 8, 8, 8, 8, 8, 8, 8, 8, 8, 8, 8, 8, 8, 8, 8, 8, 8, 8, 8, 8, 8, 8, 8, 8, 8, 8, 8, 8, 8, 8, 8, 8, 8, 8, 8, 8, 8, 8, 8, 8, 8, 8, 8, 8, 8, 8, 8, 8, 8, 8, 8, 8, 8, 8, 8, 8, 8, 8]⟩)) (.t 15)⟩,
  ⟨some 17, none, .conv .i64 (.t 16)⟩,
  ⟨some 18, none, .bin .add (.t 13) (.t 17)⟩,
  ⟨some 2, none, .mov (.t 18)⟩]
abbrev c113 : IR := .seq (.reg c113_r1) (.seq (.seq (.reg c113_r2) (.cond (.t 4) (.seq (.reg c113_r3) (.reg c113_r4)) (.skip))) (.seq (.seq (.reg c113_r5) (.cond (.t 8) (.seq (.reg c113_r6) (.reg c113_r7)) (.skip))) (.seq (.reg c113_r8) (.ret))))
abbrev F113 : FnA := ⟨19, c113, [.t 2]⟩
theorem ok113 : cFn Tryz.prog 113 = some F113 := by kernel_rfl
theorem hb113 : HasBody Tryz.prog 113 := ⟨_, Tryz.func113, by kernel_rfl, by kernel_rfl⟩
/-! math/bits.Len64 -/
abbrev c114_r1 : List Ins := [
  ⟨some 2, none, .mov (.c (.int .i64 0))⟩]
abbrev c114_r2 : List Ins := [
  ⟨some 3, none, .mov (.t 0)⟩,
  ⟨some 4, none, .bin .geq (.t 3) (.c (.int .u64 4294967296))⟩]
abbrev c114_r3 : List Ins := [
  ⟨some 5, none, .mov (.t 0)⟩,
  ⟨some 6, none, .bin .shr (.t 5) (.c (.int .u64 32))⟩,
  ⟨some 0, none, .mov (.t 6)⟩]
abbrev c114_r4 : List Ins := [
  ⟨some 2, none, .mov (.c (.int .i64 32))⟩]
abbrev c114_r5 : List Ins := [
  ⟨some 7, none, .mov (.t 0)⟩,
  ⟨some 8, none, .bin .geq (.t 7) (.c (.int .u64 65536))⟩]
abbrev c114_r6 : List Ins := [
  ⟨some 9, none, .mov (.t 0)⟩,
  ⟨some 10, none, .bin .shr (.t 9) (.c (.int .u64 16))⟩,
  ⟨some 0, none, .mov (.t 10)⟩]
abbrev c114_r7 : List Ins := [
  ⟨some 11, none, .mov (.t 2)⟩,
  ⟨some 12, none, .bin .add (.t 11) (.c (.int .i64 16))⟩,
  ⟨some 2, none, .mov (.t 12)⟩]
abbrev c114_r8 : List Ins := [
  ⟨some 13, none, .mov (.t 0)⟩,
  ⟨some 14, none, .bin .geq (.t 13) (.c (.int .u64 256))⟩]
abbrev c114_r9 : List Ins := [
  ⟨some 15, none, .mov (.t 0)⟩,
  ⟨some 16, none, .bin .shr (.t 15) (.c (.int .u64 8))⟩,
  ⟨some 0, none, .mov (.t 16)⟩]
abbrev c114_r10 : List Ins := [
  ⟨some 17, none, .mov (.t 2)⟩,
  ⟨some 18, none, .bin .add (.t 17) (.c (.int .i64 8))⟩,
  ⟨some 2, none, .mov (.t 18)⟩]
abbrev c114_r11 : List Ins := [
  ⟨some 19, none, .mov (.t 2)⟩,
  ⟨some 20, none, .mov (.t 0)⟩,
  ⟨some 21, none, .conv .u8 (.t 20)⟩,
  ⟨some 22, none, .idxS (.c (.str ⟨#[0, 1, 2, 2, 3, 3, 3, 3, 4, 4, 4, 4, 4, 4, 4, 4, 5, 5, 5, 5, 5, 5, 5, 5, 5, 5, 5, 5, 5, 5, 5, 5, 6, 6, 6, 6, 6, 6, 6, 6, 6, 6, 6, 6, 6, 6, 6, 6, 6, 6, 6, 6, 6, 6, 6, 6, 6, 6, 6, 6, 6, 6, 6, 6, 7, 7, 7, 7, 7, 7, 7, 7, 7, 7, 7, 7, 7, 7, 7, 7, 7, 7, 7, 7, 7, 7, 7, 7, 7, 7, 7, 7, 7, 7, 7, 7, 7, 7, 7, 7, 7, 7, 7, 7, 7, 7, 7, 7, 7, 7, 7, 7, 7, 7, 7, 7, 7, 7, 7, 7, 7, 7, 7, 7, 7, 7, 7, 7, 8, 8, 8, 8, 8, 8, 8, 8, 8, 8, 8, 8, 8, 8, 8, 8, 8, 8, 8, 8, 8, 8, 8, 8, 8, 8, 8, 8, 8, 8, 8, 8, 8, 8, 8, 8, 8, 8, 8, 8, 8, 8, 8, 8, 8, 8, 8, 8, 8, 8, 8, 8, 8, 8, 8, 8, 8, 8, 8, 8, 8, 8, 8, 8, 8, 8, 8, 8, 8, 8, 8, 8, 8, 8, 8, 8, 8, 8, 8, 8, 8, 8, 8, 8, 8, 8, 8, 8, 8, 8, 8, 8, 8, 8, 8, 8, 8, 8, 8, 8, 8, 8, 8, 8, 8, 8, 8, 8, 8, 8, 8, 8, 8, 8, 8, 8, 8, 8, 8, 8, 8, 8, 8, 8, 8, 8, 8, 8]⟩)) (.t 21)⟩,
  ⟨some 23, none, .conv .i64 (.t 22)⟩,
  ⟨some 24, none, .bin .add (.t 19) (.t 23)⟩,
  ⟨some 2, none, .mov (.t 24)⟩]
abbrev c114 : IR := .seq (.reg c114_r1) (.seq (.seq (.reg c114_r2) (.cond (.t 4) (.seq (.reg c114_r3) (.reg c114_r4)) (.skip))) (.seq (.seq (.reg c114_r5) (.cond (.t 8) (.seq (.reg c114_r6) (.reg c114_r7)) (.skip))) (.seq (.seq (.reg c114_r8) (.cond (.t 14) (.seq (.reg c114_r9) (.reg c114_r10)) (.skip))) (.seq (.reg c114_r11) (.ret)))))
abbrev F114 : FnA := ⟨25, c114, [.t 2]⟩
theorem ok114 : cFn Tryz.prog 114 = some F114 := by kernel_rfl
theorem hb114 : HasBody Tryz.prog 114 := ⟨_, Tryz.func114, by kernel_rfl, by kernel_rfl⟩
/-! ref14.Conflict -/
abbrev c115_r1 : List Ins := [
  ⟨some 2, none, .box (.t 0)⟩,
  ⟨some 3, none, .box (.t 1)⟩,
  ⟨some 4, none, .mov (.c (.bool false))⟩]
abbrev c115_r2 : List Ins := [
  ⟨some 9, none, .faddr 0 (.t 2)⟩,
  ⟨some 10, none, .load 1 false (.t 9)⟩,
  ⟨some 11, none, .faddr 0 (.t 3)⟩,
  ⟨some 12, none, .load 1 false (.t 11)⟩,
  ⟨some 13, none, .bin .eql (.t 10) (.t 12)⟩]
abbrev c115_r3 : List Ins := [
  ⟨some 4, none, .mov (.c (.bool false))⟩]
abbrev c115_r4 : List Ins := [
  ⟨some 14, none, .faddr 4 (.t 2)⟩,
  ⟨some 15, none, .load 1 false (.t 14)⟩,
  ⟨some 16, none, .call (.c (.fn 122 [] [])) [.t 15]⟩,
  ⟨some 17, none, .faddr 5 (.t 2)⟩,
  ⟨some 18, none, .load 1 false (.t 17)⟩,
  ⟨some 19, none, .call (.c (.fn 122 [] [])) [.t 18]⟩,
  ⟨some 20, none, .faddr 4 (.t 3)⟩,
  ⟨some 21, none, .load 1 false (.t 20)⟩,
  ⟨some 22, none, .call (.c (.fn 122 [] [])) [.t 21]⟩,
  ⟨some 23, none, .faddr 5 (.t 3)⟩,
  ⟨some 24, none, .load 1 false (.t 23)⟩,
  ⟨some 25, none, .call (.c (.fn 122 [] [])) [.t 24]⟩,
  ⟨some 5, none, .mov (.t 16)⟩,
  ⟨some 6, none, .mov (.t 19)⟩,
  ⟨some 7, none, .mov (.t 22)⟩,
  ⟨some 8, none, .mov (.t 25)⟩]
def c115_a4 : List (List Nat) := [[], [0], [1], [], [3], [4, 2], [], [6], [7, 5], [], [9], [10, 8], [2, 11, 0, 1, 2], [5, 12, 0, 1, 2, 3, 4, 5, 12], [8, 13, 0, 1, 2, 3, 4, 5, 6, 7, 8, 12, 13], [11, 14, 0, 1, 2, 3, 4, 5, 6, 7, 8, 9, 10, 11, 12, 13, 14]]
abbrev c115_m4 : List Am.Mark := [⟨false, 0, 4⟩, ⟨false, 0, 0⟩, ⟨true, 0, 1⟩, ⟨false, 0, 4⟩, ⟨false, 0, 1⟩, ⟨true, 1, 2⟩, ⟨false, 0, 4⟩, ⟨false, 0, 2⟩, ⟨true, 2, 3⟩, ⟨false, 0, 4⟩, ⟨false, 0, 3⟩, ⟨true, 3, 4⟩, ⟨false, 4, 4⟩, ⟨false, 4, 4⟩, ⟨false, 4, 4⟩, ⟨false, 4, 4⟩]
theorem c115_d4 : drawFine c115_r4 c115_a4 c115_m4 = true := by decide +kernel
abbrev c115_r5 : List Ins := [
  ⟨some 26, none, .mov (.t 6)⟩,
  ⟨some 27, none, .mov (.t 7)⟩,
  ⟨some 28, none, .call (.c (.fn 28 [] [])) [.t 26, .t 27]⟩,
  ⟨some 29, none, .mov (.t 28)⟩,
  ⟨some 30, some (29, false), .mov (.t 6)⟩,
  ⟨some 31, some (29, false), .mov (.t 8)⟩,
  ⟨some 32, some (29, false), .call (.c (.fn 28 [] [])) [.t 30, .t 31]⟩,
  ⟨some 33, none, .pick (.t 29) (.c (.bool true)) (.t 32)⟩,
  ⟨some 34, none, .mov (.t 33)⟩,
  ⟨some 35, some (34, false), .mov (.t 5)⟩,
  ⟨some 36, some (34, false), .mov (.t 8)⟩,
  ⟨some 37, some (34, false), .call (.c (.fn 28 [] [])) [.t 35, .t 36]⟩,
  ⟨some 38, none, .pick (.t 34) (.c (.bool true)) (.t 37)⟩,
  ⟨some 4, none, .mov (.t 38)⟩]
abbrev c115 : IR := .seq (.reg c115_r1) (.seq (.seq (.reg c115_r2) (.cond (.t 13) (.seq (.reg c115_r3) (.ret)) (.skip))) (.seq (.dreg c115_r4 c115_a4) (.seq (.reg c115_r5) (.ret))))
abbrev F115 : FnA := ⟨39, c115, [.t 4]⟩
theorem ok115 : cFn Tryz.prog 115 = some F115 := by kernel_rfl
theorem hb115 : HasBody Tryz.prog 115 := ⟨_, Tryz.func115, by kernel_rfl, by kernel_rfl⟩
/-! ref14.Unit -/
abbrev c116_r1 : List Ins := [
  ⟨some 4, none, .box (.t 0)⟩,
  ⟨some 8, none, .mov (.c (.int .i64 0))⟩]
abbrev c116_r2 : List Ins := [
  ⟨some 9, none, .mov (.c (.int .i64 0))⟩]
abbrev c116_r3 : List Ins := [
  ⟨some 10, none, .mov (.c (.int .i64 0))⟩]
abbrev c116_r4 : List Ins := [
  ⟨some 11, none, .mov (.t 10)⟩,
  ⟨some 12, none, .mov (.t 3)⟩,
  ⟨some 13, none, .bin .lss (.t 11) (.t 12)⟩]
abbrev c116_r5 : List Ins := [
  ⟨some 16, none, .load 17 true (.t 4)⟩,
  ⟨some 17, none, .mov (.t 1)⟩,
  ⟨some 18, none, .mov (.t 2)⟩,
  ⟨some 19, none, .mov (.t 10)⟩,
  ⟨some 20, none, .call (.c (.fn 123 [] [])) [.t 16, .t 17, .t 18, .t 19]⟩]
abbrev c116_r6 : List Ins := [
  ⟨some 21, none, .mov (.t 9)⟩,
  ⟨some 22, none, .bin .add (.t 21) (.c (.int .i64 1))⟩,
  ⟨some 9, none, .mov (.t 22)⟩]
abbrev c116_r7 : List Ins := [
  ⟨some 14, none, .mov (.t 10)⟩,
  ⟨some 15, none, .bin .add (.t 14) (.c (.int .i64 1))⟩,
  ⟨some 10, none, .mov (.t 15)⟩]
abbrev c116_l8 : IR := .seq (.seq (.reg c116_r4) (.cond (.t 13) (.skip) (.exit 0))) (.seq (.blk 1 (.seq (.reg c116_r5) (.cond (.t 20) (.reg c116_r6) (.skip)))) (.reg c116_r7))
abbrev c116_r9 : List Ins := [
  ⟨some 23, none, .mov (.t 9)⟩,
  ⟨some 8, none, .mov (.t 23)⟩]
abbrev c116 : IR := .seq (.reg c116_r1) (.seq (.reg c116_r2) (.seq (.seq (.reg c116_r3) (.blk 0 (.loop c116_l8))) (.seq (.reg c116_r9) (.ret))))
abbrev F116 : FnA := ⟨24, c116, [.t 8]⟩
theorem ok116 : cFn Tryz.prog 116 = some F116 := by kernel_rfl
theorem hb116 : HasBody Tryz.prog 116 := ⟨_, Tryz.func116, by kernel_rfl, by kernel_rfl⟩
/-! slices.siftDownCmpFunc:Span -/
abbrev c117_r1 : List Ins := [
  ⟨some 12, none, .mov (.t 1)⟩,
  ⟨some 10, none, .mov (.t 12)⟩]
abbrev c117_r2 : List Ins := [
  ⟨some 13, none, .mov (.t 10)⟩,
  ⟨some 14, none, .bin .mul (.c (.int .i64 2)) (.t 13)⟩,
  ⟨some 15, none, .bin .add (.t 14) (.c (.int .i64 1))⟩,
  ⟨some 11, none, .mov (.t 15)⟩]
abbrev c117_r3 : List Ins := [
  ⟨some 16, none, .mov (.t 11)⟩,
  ⟨some 17, none, .mov (.t 2)⟩,
  ⟨some 18, none, .bin .geq (.t 16) (.t 17)⟩]
abbrev c117_r4 : List Ins := [
  ⟨some 19, none, .mov (.t 11)⟩,
  ⟨some 20, none, .bin .add (.t 19) (.c (.int .i64 1))⟩,
  ⟨some 21, none, .mov (.t 2)⟩,
  ⟨some 22, none, .bin .lss (.t 20) (.t 21)⟩,
  ⟨some 23, none, .mov (.t 22)⟩,
  ⟨some 24, some (23, true), .mov (.t 4)⟩,
  ⟨some 25, some (23, true), .mov (.t 0)⟩,
  ⟨some 26, some (23, true), .mov (.t 3)⟩,
  ⟨some 27, some (23, true), .mov (.t 11)⟩,
  ⟨some 28, some (23, true), .bin .add (.t 26) (.t 27)⟩,
  ⟨some 29, some (23, true), .iaddr 2 (.t 25) (.t 28)⟩,
  ⟨some 30, some (23, true), .load 2 true (.t 29)⟩,
  ⟨some 31, some (23, true), .mov (.t 0)⟩,
  ⟨some 32, some (23, true), .mov (.t 3)⟩,
  ⟨some 33, some (23, true), .mov (.t 11)⟩,
  ⟨some 34, some (23, true), .bin .add (.t 32) (.t 33)⟩,
  ⟨some 35, some (23, true), .bin .add (.t 34) (.c (.int .i64 1))⟩,
  ⟨some 36, some (23, true), .iaddr 2 (.t 31) (.t 35)⟩,
  ⟨some 37, some (23, true), .load 2 true (.t 36)⟩,
  ⟨some 38, some (23, true), .call (.t 24) [.t 30, .t 37]⟩,
  ⟨some 39, some (23, true), .bin .lss (.t 38) (.c (.int .i64 0))⟩,
  ⟨some 40, none, .pick (.t 23) (.t 39) (.c (.bool false))⟩]
def c117_a4 : List (List Nat) := [[], [0], [], [1, 2], [3], [4], [4], [4], [4], [7, 8, 4], [6, 9, 4], [10, 4], [4], [4], [4], [13, 14, 4], [15, 4], [12, 16, 4], [17, 4], [5, 11, 18, 4, 4], [19, 4], [4, 20]]
abbrev c117_m4 : List Am.Mark := [⟨false, 0, 1⟩, ⟨false, 0, 1⟩, ⟨false, 0, 1⟩, ⟨false, 0, 1⟩, ⟨false, 0, 0⟩, ⟨false, 0, 0⟩, ⟨false, 0, 1⟩, ⟨false, 0, 1⟩, ⟨false, 0, 1⟩, ⟨false, 0, 1⟩, ⟨false, 0, 1⟩, ⟨false, 0, 0⟩, ⟨false, 0, 1⟩, ⟨false, 0, 1⟩, ⟨false, 0, 1⟩, ⟨false, 0, 1⟩, ⟨false, 0, 1⟩, ⟨false, 0, 1⟩, ⟨false, 0, 0⟩, ⟨true, 0, 1⟩, ⟨false, 1, 1⟩, ⟨false, 1, 1⟩]
theorem c117_d4 : drawFine c117_r4 c117_a4 c117_m4 = true := by decide +kernel
abbrev c117_r5 : List Ins := [
  ⟨some 41, none, .mov (.t 11)⟩,
  ⟨some 42, none, .bin .add (.t 41) (.c (.int .i64 1))⟩,
  ⟨some 11, none, .mov (.t 42)⟩]
abbrev c117_r6 : List Ins := [
  ⟨some 43, none, .mov (.t 4)⟩,
  ⟨some 44, none, .mov (.t 0)⟩,
  ⟨some 45, none, .mov (.t 3)⟩,
  ⟨some 46, none, .mov (.t 10)⟩,
  ⟨some 47, none, .bin .add (.t 45) (.t 46)⟩,
  ⟨some 48, none, .iaddr 2 (.t 44) (.t 47)⟩,
  ⟨some 49, none, .load 2 true (.t 48)⟩,
  ⟨some 50, none, .mov (.t 0)⟩,
  ⟨some 51, none, .mov (.t 3)⟩,
  ⟨some 52, none, .mov (.t 11)⟩,
  ⟨some 53, none, .bin .add (.t 51) (.t 52)⟩,
  ⟨some 54, none, .iaddr 2 (.t 50) (.t 53)⟩,
  ⟨some 55, none, .load 2 true (.t 54)⟩,
  ⟨some 56, none, .call (.t 43) [.t 49, .t 55]⟩,
  ⟨some 57, none, .bin .lss (.t 56) (.c (.int .i64 0))⟩,
  ⟨some 58, none, .un .not (.t 57)⟩]
def c117_a6 : List (List Nat) := [[], [], [], [], [2, 3], [1, 4], [5], [], [], [], [8, 9], [7, 10], [11], [0, 6, 12], [13], [14]]
abbrev c117_m6 : List Am.Mark := [⟨false, 0, 0⟩, ⟨false, 0, 1⟩, ⟨false, 0, 1⟩, ⟨false, 0, 1⟩, ⟨false, 0, 1⟩, ⟨false, 0, 1⟩, ⟨false, 0, 0⟩, ⟨false, 0, 1⟩, ⟨false, 0, 1⟩, ⟨false, 0, 1⟩, ⟨false, 0, 1⟩, ⟨false, 0, 1⟩, ⟨false, 0, 0⟩, ⟨true, 0, 1⟩, ⟨false, 1, 1⟩, ⟨false, 1, 1⟩]
theorem c117_d6 : drawFine c117_r6 c117_a6 c117_m6 = true := by decide +kernel
abbrev c117_r7 : List Ins := [
  ⟨some 59, none, .mov (.t 0)⟩,
  ⟨some 60, none, .mov (.t 3)⟩,
  ⟨some 61, none, .mov (.t 10)⟩,
  ⟨some 62, none, .bin .add (.t 60) (.t 61)⟩,
  ⟨some 63, none, .mov (.t 0)⟩,
  ⟨some 64, none, .mov (.t 3)⟩,
  ⟨some 65, none, .mov (.t 11)⟩,
  ⟨some 66, none, .bin .add (.t 64) (.t 65)⟩,
  ⟨some 67, none, .mov (.t 0)⟩,
  ⟨some 68, none, .mov (.t 3)⟩,
  ⟨some 69, none, .mov (.t 11)⟩,
  ⟨some 70, none, .bin .add (.t 68) (.t 69)⟩,
  ⟨some 71, none, .iaddr 2 (.t 67) (.t 70)⟩,
  ⟨some 72, none, .load 2 true (.t 71)⟩,
  ⟨some 73, none, .mov (.t 0)⟩,
  ⟨some 74, none, .mov (.t 3)⟩,
  ⟨some 75, none, .mov (.t 10)⟩,
  ⟨some 76, none, .bin .add (.t 74) (.t 75)⟩,
  ⟨some 77, none, .iaddr 2 (.t 73) (.t 76)⟩,
  ⟨some 78, none, .load 2 true (.t 77)⟩,
  ⟨some 79, none, .iaddr 2 (.t 59) (.t 62)⟩,
  ⟨none, none, .store 2 (.t 79) (.t 72)⟩,
  ⟨some 80, none, .iaddr 2 (.t 63) (.t 66)⟩,
  ⟨none, none, .store 2 (.t 80) (.t 78)⟩]
def c117_a7 : List (List Nat) := [[], [], [], [1, 2], [], [], [], [5, 6], [], [], [], [9, 10], [8, 11], [12], [], [], [], [15, 16], [14, 17], [18], [0, 3, 0, 1, 2, 3, 8, 9, 10, 11, 12, 13, 19], [20, 13, 0, 1, 2, 3, 8, 9, 10, 11, 12, 13, 19], [4, 7, 0, 1, 2, 3, 4, 5, 6, 7, 8, 9, 10, 11, 12, 13, 14, 15, 16, 17, 18, 19, 20, 21], [22, 19, 21, 0, 1, 2, 3, 4, 5, 6, 7, 8, 9, 10, 11, 12, 13, 14, 15, 16, 17, 18, 19, 20, 21]]
abbrev c117_m7 : List Am.Mark := [⟨false, 0, 0⟩, ⟨false, 0, 0⟩, ⟨false, 0, 0⟩, ⟨false, 0, 0⟩, ⟨false, 0, 1⟩, ⟨false, 0, 1⟩, ⟨false, 0, 1⟩, ⟨false, 0, 1⟩, ⟨false, 0, 0⟩, ⟨false, 0, 0⟩, ⟨false, 0, 0⟩, ⟨false, 0, 0⟩, ⟨false, 0, 0⟩, ⟨false, 0, 0⟩, ⟨false, 0, 1⟩, ⟨false, 0, 1⟩, ⟨false, 0, 1⟩, ⟨false, 0, 1⟩, ⟨false, 0, 1⟩, ⟨false, 0, 0⟩, ⟨false, 0, 0⟩, ⟨true, 0, 1⟩, ⟨false, 1, 1⟩, ⟨true, 1, 2⟩]
theorem c117_d7 : drawFine c117_r7 c117_a7 c117_m7 = true := by decide +kernel
abbrev c117_r8 : List Ins := [
  ⟨some 81, none, .mov (.t 11)⟩,
  ⟨some 10, none, .mov (.t 81)⟩]
abbrev c117_l9 : IR := .blk 1 (.seq (.reg c117_r2) (.seq (.seq (.reg c117_r3) (.cond (.t 18) (.exit 0) (.skip))) (.seq (.seq (.dreg c117_r4 c117_a4) (.cond (.t 40) (.reg c117_r5) (.skip))) (.seq (.seq (.dreg c117_r6 c117_a6) (.cond (.t 58) (.ret) (.skip))) (.seq (.dreg c117_r7 c117_a7) (.reg c117_r8))))))
abbrev c117 : IR := .seq (.reg c117_r1) (.blk 0 (.loop c117_l9))
abbrev F117 : FnA := ⟨82, c117, []⟩
theorem ok117 : cFn Tryz.prog 117 = some F117 := by kernel_rfl
theorem hb117 : HasBody Tryz.prog 117 := ⟨_, Tryz.func117, by kernel_rfl, by kernel_rfl⟩
/-! slices.nextPowerOfTwo -/
abbrev c118_r1 : List Ins := [
  ⟨some 2, none, .mov (.c (.int .u64 0))⟩]
abbrev c118_r2 : List Ins := [
  ⟨some 3, none, .mov (.t 0)⟩,
  ⟨some 4, none, .conv .u64 (.t 3)⟩,
  ⟨some 5, none, .call (.c (.fn 100 [] [])) [.t 4]⟩,
  ⟨some 6, none, .bin .shl (.c (.int .u64 1)) (.t 5)⟩,
  ⟨some 2, none, .mov (.t 6)⟩]
abbrev c118 : IR := .seq (.reg c118_r1) (.seq (.reg c118_r2) (.ret))
abbrev F118 : FnA := ⟨7, c118, [.t 2]⟩
theorem ok118 : cFn Tryz.prog 118 = some F118 := by kernel_rfl
theorem hb118 : HasBody Tryz.prog 118 := ⟨_, Tryz.func118, by kernel_rfl, by kernel_rfl⟩
/-! slices.xorshift.Next -/
abbrev c119_r1 : List Ins := [
  ⟨some 2, none, .mov (.c (.int .u64 0))⟩]
abbrev c119_r2 : List Ins := [
  ⟨some 3, none, .mov (.t 0)⟩,
  ⟨some 4, none, .nilck (.t 3)⟩,
  ⟨some 5, none, .load 1 false (.t 4)⟩,
  ⟨some 6, none, .mov (.t 0)⟩,
  ⟨some 7, none, .nilck (.t 6)⟩,
  ⟨some 8, none, .load 1 false (.t 7)⟩,
  ⟨some 9, none, .bin .shl (.t 8) (.c (.int .u64 13))⟩,
  ⟨some 10, none, .bin .xor (.t 5) (.t 9)⟩,
  ⟨some 11, none, .nilck (.t 3)⟩,
  ⟨none, none, .store 1 (.t 11) (.t 10)⟩]
def c119_a2 : List (List Nat) := [[], [0], [1], [], [3], [4], [5], [2, 6], [0, 0, 1, 2, 3, 4, 5, 6, 7], [8, 7, 0, 1, 2, 3, 4, 5, 6, 7]]
abbrev c119_m2 : List Am.Mark := [⟨false, 0, 0⟩, ⟨false, 0, 0⟩, ⟨false, 0, 0⟩, ⟨false, 0, 0⟩, ⟨false, 0, 0⟩, ⟨false, 0, 0⟩, ⟨false, 0, 0⟩, ⟨false, 0, 0⟩, ⟨false, 0, 0⟩, ⟨true, 0, 1⟩]
theorem c119_d2 : drawFine c119_r2 c119_a2 c119_m2 = true := by decide +kernel
abbrev c119_r3 : List Ins := [
  ⟨some 12, none, .mov (.t 0)⟩,
  ⟨some 13, none, .nilck (.t 12)⟩,
  ⟨some 14, none, .load 1 false (.t 13)⟩,
  ⟨some 15, none, .mov (.t 0)⟩,
  ⟨some 16, none, .nilck (.t 15)⟩,
  ⟨some 17, none, .load 1 false (.t 16)⟩,
  ⟨some 18, none, .bin .shr (.t 17) (.c (.int .u64 7))⟩,
  ⟨some 19, none, .bin .xor (.t 14) (.t 18)⟩,
  ⟨some 20, none, .nilck (.t 12)⟩,
  ⟨none, none, .store 1 (.t 20) (.t 19)⟩]
def c119_a3 : List (List Nat) := [[], [0], [1], [], [3], [4], [5], [2, 6], [0, 0, 1, 2, 3, 4, 5, 6, 7], [8, 7, 0, 1, 2, 3, 4, 5, 6, 7]]
abbrev c119_m3 : List Am.Mark := [⟨false, 0, 0⟩, ⟨false, 0, 0⟩, ⟨false, 0, 0⟩, ⟨false, 0, 0⟩, ⟨false, 0, 0⟩, ⟨false, 0, 0⟩, ⟨false, 0, 0⟩, ⟨false, 0, 0⟩, ⟨false, 0, 0⟩, ⟨true, 0, 1⟩]
theorem c119_d3 : drawFine c119_r3 c119_a3 c119_m3 = true := by decide +kernel
abbrev c119_r4 : List Ins := [
  ⟨some 21, none, .mov (.t 0)⟩,
  ⟨some 22, none, .nilck (.t 21)⟩,
  ⟨some 23, none, .load 1 false (.t 22)⟩,
  ⟨some 24, none, .mov (.t 0)⟩,
  ⟨some 25, none, .nilck (.t 24)⟩,
  ⟨some 26, none, .load 1 false (.t 25)⟩,
  ⟨some 27, none, .bin .shl (.t 26) (.c (.int .u64 17))⟩,
  ⟨some 28, none, .bin .xor (.t 23) (.t 27)⟩,
  ⟨some 29, none, .nilck (.t 21)⟩,
  ⟨none, none, .store 1 (.t 29) (.t 28)⟩]
def c119_a4 : List (List Nat) := [[], [0], [1], [], [3], [4], [5], [2, 6], [0, 0, 1, 2, 3, 4, 5, 6, 7], [8, 7, 0, 1, 2, 3, 4, 5, 6, 7]]
abbrev c119_m4 : List Am.Mark := [⟨false, 0, 0⟩, ⟨false, 0, 0⟩, ⟨false, 0, 0⟩, ⟨false, 0, 0⟩, ⟨false, 0, 0⟩, ⟨false, 0, 0⟩, ⟨false, 0, 0⟩, ⟨false, 0, 0⟩, ⟨false, 0, 0⟩, ⟨true, 0, 1⟩]
theorem c119_d4 : drawFine c119_r4 c119_a4 c119_m4 = true := by decide +kernel
abbrev c119_r5 : List Ins := [
  ⟨some 30, none, .mov (.t 0)⟩,
  ⟨some 31, none, .nilck (.t 30)⟩,
  ⟨some 32, none, .load 1 false (.t 31)⟩,
  ⟨some 2, none, .mov (.t 32)⟩]
abbrev c119 : IR := .seq (.reg c119_r1) (.seq (.dreg c119_r2 c119_a2) (.seq (.dreg c119_r3 c119_a3) (.seq (.dreg c119_r4 c119_a4) (.seq (.reg c119_r5) (.ret)))))
abbrev F119 : FnA := ⟨33, c119, [.t 2]⟩
theorem ok119 : cFn Tryz.prog 119 = some F119 := by kernel_rfl
theorem hb119 : HasBody Tryz.prog 119 := ⟨_, Tryz.func119, by kernel_rfl, by kernel_rfl⟩
/-! slices.medianAdjacentCmpFunc:Span -/
abbrev c120_r1 : List Ins := [
  ⟨some 8, none, .mov (.c (.int .i64 0))⟩]
abbrev c120_r2 : List Ins := [
  ⟨some 9, none, .mov (.t 0)⟩,
  ⟨some 10, none, .mov (.t 1)⟩,
  ⟨some 11, none, .bin .sub (.t 10) (.c (.int .i64 1))⟩,
  ⟨some 12, none, .mov (.t 1)⟩,
  ⟨some 13, none, .mov (.t 1)⟩,
  ⟨some 14, none, .bin .add (.t 13) (.c (.int .i64 1))⟩,
  ⟨some 15, none, .mov (.t 2)⟩,
  ⟨some 16, none, .mov (.t 3)⟩,
  ⟨some 17, none, .call (.c (.fn 121 [] [])) [.t 9, .t 11, .t 12, .t 14, .t 15, .t 16]⟩,
  ⟨some 8, none, .mov (.t 17)⟩]
abbrev c120 : IR := .seq (.reg c120_r1) (.seq (.reg c120_r2) (.ret))
abbrev F120 : FnA := ⟨18, c120, [.t 8]⟩
theorem ok120 : cFn Tryz.prog 120 = some F120 := by kernel_rfl
theorem hb120 : HasBody Tryz.prog 120 := ⟨_, Tryz.func120, by kernel_rfl, by kernel_rfl⟩
/-! slices.medianCmpFunc:Span -/
abbrev c121_r1 : List Ins := [
  ⟨some 12, none, .mov (.c (.int .i64 0))⟩]
abbrev c121_r2 : List Ins := [
  ⟨some 14, none, .mov (.t 0)⟩,
  ⟨some 15, none, .mov (.t 1)⟩,
  ⟨some 16, none, .mov (.t 2)⟩,
  ⟨some 17, none, .mov (.t 4)⟩,
  ⟨some 18, none, .mov (.t 5)⟩,
  ⟨some 19, none, .call (.c (.fn 124 [] [])) [.t 14, .t 15, .t 16, .t 17, .t 18]⟩,
  ⟨some 13, none, .mov (.t 19)⟩,
  ⟨some 20, none, .ext (.t 13) 0⟩,
  ⟨some 21, none, .ext (.t 13) 1⟩,
  ⟨some 1, none, .mov (.t 20)⟩,
  ⟨some 2, none, .mov (.t 21)⟩]
abbrev c121_r3 : List Ins := [
  ⟨some 23, none, .mov (.t 0)⟩,
  ⟨some 24, none, .mov (.t 2)⟩,
  ⟨some 25, none, .mov (.t 3)⟩,
  ⟨some 26, none, .mov (.t 4)⟩,
  ⟨some 27, none, .mov (.t 5)⟩,
  ⟨some 28, none, .call (.c (.fn 124 [] [])) [.t 23, .t 24, .t 25, .t 26, .t 27]⟩,
  ⟨some 22, none, .mov (.t 28)⟩,
  ⟨some 29, none, .ext (.t 22) 0⟩,
  ⟨some 30, none, .ext (.t 22) 1⟩,
  ⟨some 2, none, .mov (.t 29)⟩,
  ⟨some 3, none, .mov (.t 30)⟩]
abbrev c121_r4 : List Ins := [
  ⟨some 32, none, .mov (.t 0)⟩,
  ⟨some 33, none, .mov (.t 1)⟩,
  ⟨some 34, none, .mov (.t 2)⟩,
  ⟨some 35, none, .mov (.t 4)⟩,
  ⟨some 36, none, .mov (.t 5)⟩,
  ⟨some 37, none, .call (.c (.fn 124 [] [])) [.t 32, .t 33, .t 34, .t 35, .t 36]⟩,
  ⟨some 31, none, .mov (.t 37)⟩,
  ⟨some 38, none, .ext (.t 31) 0⟩,
  ⟨some 39, none, .ext (.t 31) 1⟩,
  ⟨some 1, none, .mov (.t 38)⟩,
  ⟨some 2, none, .mov (.t 39)⟩]
abbrev c121_r5 : List Ins := [
  ⟨some 40, none, .mov (.t 2)⟩,
  ⟨some 12, none, .mov (.t 40)⟩]
abbrev c121 : IR := .seq (.reg c121_r1) (.seq (.reg c121_r2) (.seq (.reg c121_r3) (.seq (.reg c121_r4) (.seq (.reg c121_r5) (.ret)))))
abbrev F121 : FnA := ⟨41, c121, [.t 12]⟩
theorem ok121 : cFn Tryz.prog 121 = some F121 := by kernel_rfl
theorem hb121 : HasBody Tryz.prog 121 := ⟨_, Tryz.func121, by kernel_rfl, by kernel_rfl⟩
/-! ref04.Of -/
abbrev c122_r1 : List Ins := [
  ⟨some 2, none, .mov (.c .nilptr)⟩]
abbrev c122_r2 : List Ins := [
  ⟨some 3, none, .alloc (List.replicate 1000 (.bool false))⟩]
abbrev c122_r3 : List Ins := [
  ⟨some 4, none, .mov (.c (.int .i64 0))⟩]
abbrev c122_r4 : List Ins := [
  ⟨some 6, none, .mov (.t 4)⟩,
  ⟨some 7, none, .mov (.t 0)⟩,
  ⟨some 8, none, .len (.t 7)⟩,
  ⟨some 9, none, .bin .lss (.t 6) (.t 8)⟩]
abbrev c122_r5 : List Ins := [
  ⟨some 12, none, .mov (.t 0)⟩,
  ⟨some 13, none, .mov (.t 4)⟩,
  ⟨some 14, none, .iaddr 2 (.t 12) (.t 13)⟩,
  ⟨some 15, none, .faddr 0 (.t 14)⟩,
  ⟨some 16, none, .load 1 false (.t 15)⟩,
  ⟨some 17, none, .bin .lss (.t 16) (.c (.int .i64 0))⟩,
  ⟨some 18, none, .mov (.t 17)⟩,
  ⟨some 19, some (18, false), .mov (.t 0)⟩,
  ⟨some 20, some (18, false), .mov (.t 4)⟩,
  ⟨some 21, some (18, false), .iaddr 2 (.t 19) (.t 20)⟩,
  ⟨some 22, some (18, false), .faddr 1 (.t 21)⟩,
  ⟨some 23, some (18, false), .load 1 false (.t 22)⟩,
  ⟨some 24, some (18, false), .bin .gtr (.t 23) (.c (.int .i64 999))⟩,
  ⟨some 25, none, .pick (.t 18) (.c (.bool true)) (.t 24)⟩]
abbrev c122_r6 : List Ins := [
  ⟨some 26, none, .mov (.t 0)⟩,
  ⟨some 27, none, .mov (.t 4)⟩,
  ⟨some 28, none, .iaddr 2 (.t 26) (.t 27)⟩,
  ⟨some 29, none, .faddr 0 (.t 28)⟩,
  ⟨some 30, none, .load 1 false (.t 29)⟩,
  ⟨some 5, none, .mov (.t 30)⟩]
abbrev c122_r7 : List Ins := [
  ⟨some 31, none, .mov (.t 5)⟩,
  ⟨some 32, none, .mov (.t 0)⟩,
  ⟨some 33, none, .mov (.t 4)⟩,
  ⟨some 34, none, .iaddr 2 (.t 32) (.t 33)⟩,
  ⟨some 35, none, .faddr 1 (.t 34)⟩,
  ⟨some 36, none, .load 1 false (.t 35)⟩,
  ⟨some 37, none, .bin .leq (.t 31) (.t 36)⟩]
abbrev c122_r8 : List Ins := [
  ⟨some 40, none, .mov (.t 5)⟩,
  ⟨some 41, none, .iaddrA 1000 1 (.t 3) (.t 40)⟩,
  ⟨none, none, .store 1 (.t 41) (.c (.bool true))⟩]
abbrev c122_r9 : List Ins := [
  ⟨some 38, none, .mov (.t 5)⟩,
  ⟨some 39, none, .bin .add (.t 38) (.c (.int .i64 1))⟩,
  ⟨some 5, none, .mov (.t 39)⟩]
abbrev c122_l10 : IR := .seq (.seq (.reg c122_r7) (.cond (.t 37) (.skip) (.exit 2))) (.seq (.blk 3 (.reg c122_r8)) (.reg c122_r9))
abbrev c122_r11 : List Ins := [
  ⟨some 10, none, .mov (.t 4)⟩,
  ⟨some 11, none, .bin .add (.t 10) (.c (.int .i64 1))⟩,
  ⟨some 4, none, .mov (.t 11)⟩]
abbrev c122_l12 : IR := .seq (.seq (.reg c122_r4) (.cond (.t 9) (.skip) (.exit 0))) (.seq (.blk 1 (.seq (.seq (.reg c122_r5) (.cond (.t 25) (.exit 1) (.skip))) (.seq (.reg c122_r6) (.blk 2 (.loop c122_l10))))) (.reg c122_r11))
abbrev c122_r13 : List Ins := [
  ⟨some 2, none, .mov (.t 3)⟩]
abbrev c122 : IR := .seq (.reg c122_r1) (.seq (.reg c122_r2) (.seq (.seq (.reg c122_r3) (.blk 0 (.loop c122_l12))) (.seq (.reg c122_r13) (.ret))))
abbrev F122 : FnA := ⟨42, c122, [.t 2]⟩
theorem ok122 : cFn Tryz.prog 122 = some F122 := by kernel_rfl
theorem hb122 : HasBody Tryz.prog 122 := ⟨_, Tryz.func122, by kernel_rfl, by kernel_rfl⟩
/-! ref12.Break -/
abbrev c123_r1 : List Ins := [
  ⟨some 4, none, .box (.t 0)⟩,
  ⟨some 8, none, .mov (.c (.bool false))⟩]
abbrev c123_r2 : List Ins := [
  ⟨some 10, none, .faddr 0 (.t 4)⟩,
  ⟨some 11, none, .load 1 false (.t 10)⟩,
  ⟨some 12, none, .len (.t 11)⟩,
  ⟨some 9, none, .mov (.t 12)⟩]
abbrev c123_r3 : List Ins := [
  ⟨some 13, none, .mov (.t 1)⟩,
  ⟨some 14, none, .bin .geq (.t 13) (.c (.int .i64 0))⟩,
  ⟨some 15, none, .mov (.t 14)⟩,
  ⟨some 16, some (15, true), .mov (.t 1)⟩,
  ⟨some 17, some (15, true), .mov (.t 9)⟩,
  ⟨some 18, some (15, true), .bin .lss (.t 16) (.t 17)⟩,
  ⟨some 19, none, .pick (.t 15) (.t 18) (.c (.bool false))⟩,
  ⟨some 20, none, .mov (.t 19)⟩,
  ⟨some 21, some (20, true), .mov (.t 1)⟩,
  ⟨some 22, some (20, true), .bin .lss (.t 21) (.c (.int .i64 4))⟩,
  ⟨some 23, none, .pick (.t 20) (.t 22) (.c (.bool false))⟩,
  ⟨some 24, none, .mov (.t 23)⟩,
  ⟨some 25, some (24, true), .mov (.t 2)⟩,
  ⟨some 26, some (24, true), .bin .geq (.t 25) (.c (.int .i64 0))⟩,
  ⟨some 27, none, .pick (.t 24) (.t 26) (.c (.bool false))⟩,
  ⟨some 28, none, .mov (.t 27)⟩,
  ⟨some 29, some (28, true), .mov (.t 2)⟩,
  ⟨some 30, some (28, true), .mov (.t 9)⟩,
  ⟨some 31, some (28, true), .bin .lss (.t 29) (.t 30)⟩,
  ⟨some 32, none, .pick (.t 28) (.t 31) (.c (.bool false))⟩,
  ⟨some 33, none, .mov (.t 32)⟩,
  ⟨some 34, some (33, true), .mov (.t 2)⟩,
  ⟨some 35, some (33, true), .bin .lss (.t 34) (.c (.int .i64 4))⟩,
  ⟨some 36, none, .pick (.t 33) (.t 35) (.c (.bool false))⟩,
  ⟨some 37, none, .mov (.t 36)⟩,
  ⟨some 38, some (37, true), .mov (.t 3)⟩,
  ⟨some 39, some (37, true), .bin .geq (.t 38) (.c (.int .i64 0))⟩,
  ⟨some 40, none, .pick (.t 37) (.t 39) (.c (.bool false))⟩,
  ⟨some 41, none, .mov (.t 40)⟩,
  ⟨some 42, some (41, true), .mov (.t 3)⟩,
  ⟨some 43, some (41, true), .bin .add (.t 42) (.c (.int .i64 1))⟩,
  ⟨some 44, some (41, true), .faddr 0 (.t 4)⟩,
  ⟨some 45, some (41, true), .load 1 false (.t 44)⟩,
  ⟨some 46, some (41, true), .mov (.t 1)⟩,
  ⟨some 47, some (41, true), .iaddr 5 (.t 45) (.t 46)⟩,
  ⟨some 48, some (41, true), .faddr 2 (.t 47)⟩,
  ⟨some 49, some (41, true), .load 1 false (.t 48)⟩,
  ⟨some 50, some (41, true), .len (.t 49)⟩,
  ⟨some 51, some (41, true), .bin .lss (.t 43) (.t 50)⟩,
  ⟨some 52, none, .pick (.t 41) (.t 51) (.c (.bool false))⟩,
  ⟨some 53, none, .mov (.t 52)⟩,
  ⟨some 54, some (53, true), .mov (.t 1)⟩,
  ⟨some 55, some (53, true), .mov (.t 2)⟩,
  ⟨some 56, some (53, true), .faddr 1 (.t 4)⟩,
  ⟨some 57, some (53, true), .iaddrA 4 4 (.t 56) (.t 54)⟩,
  ⟨some 58, some (53, true), .iaddrA 4 1 (.t 57) (.t 55)⟩,
  ⟨some 59, some (53, true), .load 1 false (.t 58)⟩,
  ⟨some 60, some (53, true), .mov (.t 3)⟩,
  ⟨some 61, some (53, true), .call (.c (.fn 125 [] [])) [.t 59, .t 60]⟩,
  ⟨some 62, none, .pick (.t 53) (.t 61) (.c (.bool false))⟩,
  ⟨some 8, none, .mov (.t 62)⟩]
abbrev c123 : IR := .seq (.reg c123_r1) (.seq (.reg c123_r2) (.seq (.reg c123_r3) (.ret)))
abbrev F123 : FnA := ⟨63, c123, [.t 8]⟩
theorem ok123 : cFn Tryz.prog 123 = some F123 := by kernel_rfl
theorem hb123 : HasBody Tryz.prog 123 := ⟨_, Tryz.func123, by kernel_rfl, by kernel_rfl⟩
/-! slices.order2CmpFunc:Span -/
abbrev c124_r1 : List Ins := [
  ⟨some 10, none, .mov (.c (.int .i64 0))⟩,
  ⟨some 11, none, .mov (.c (.int .i64 0))⟩]
abbrev c124_r2 : List Ins := [
  ⟨some 12, none, .mov (.t 4)⟩,
  ⟨some 13, none, .mov (.t 0)⟩,
  ⟨some 14, none, .mov (.t 2)⟩,
  ⟨some 15, none, .iaddr 2 (.t 13) (.t 14)⟩,
  ⟨some 16, none, .load 2 true (.t 15)⟩,
  ⟨some 17, none, .mov (.t 0)⟩,
  ⟨some 18, none, .mov (.t 1)⟩,
  ⟨some 19, none, .iaddr 2 (.t 17) (.t 18)⟩,
  ⟨some 20, none, .load 2 true (.t 19)⟩,
  ⟨some 21, none, .call (.t 12) [.t 16, .t 20]⟩,
  ⟨some 22, none, .bin .lss (.t 21) (.c (.int .i64 0))⟩]
def c124_a2 : List (List Nat) := [[], [], [], [1, 2], [3], [], [], [5, 6], [7], [0, 4, 8], [9]]
abbrev c124_m2 : List Am.Mark := [⟨false, 0, 0⟩, ⟨false, 0, 1⟩, ⟨false, 0, 1⟩, ⟨false, 0, 1⟩, ⟨false, 0, 0⟩, ⟨false, 0, 1⟩, ⟨false, 0, 1⟩, ⟨false, 0, 1⟩, ⟨false, 0, 0⟩, ⟨true, 0, 1⟩, ⟨false, 1, 1⟩]
theorem c124_d2 : drawFine c124_r2 c124_a2 c124_m2 = true := by decide +kernel
abbrev c124_r3 : List Ins := [
  ⟨some 23, none, .mov (.t 3)⟩,
  ⟨some 24, none, .nilck (.t 23)⟩,
  ⟨some 25, none, .load 1 false (.t 24)⟩,
  ⟨some 26, none, .bin .add (.t 25) (.c (.int .i64 1))⟩,
  ⟨some 27, none, .nilck (.t 23)⟩,
  ⟨none, none, .store 1 (.t 27) (.t 26)⟩]
abbrev c124_r4 : List Ins := [
  ⟨some 28, none, .mov (.t 2)⟩,
  ⟨some 29, none, .mov (.t 1)⟩,
  ⟨some 10, none, .mov (.t 28)⟩,
  ⟨some 11, none, .mov (.t 29)⟩]
abbrev c124_r5 : List Ins := [
  ⟨some 30, none, .mov (.t 1)⟩,
  ⟨some 31, none, .mov (.t 2)⟩,
  ⟨some 10, none, .mov (.t 30)⟩,
  ⟨some 11, none, .mov (.t 31)⟩]
abbrev c124 : IR := .seq (.reg c124_r1) (.seq (.seq (.dreg c124_r2 c124_a2) (.cond (.t 22) (.seq (.reg c124_r3) (.seq (.reg c124_r4) (.ret))) (.skip))) (.seq (.reg c124_r5) (.ret)))
abbrev F124 : FnA := ⟨32, c124, [.t 10, .t 11]⟩
theorem ok124 : cFn Tryz.prog 124 = some F124 := by kernel_rfl
theorem hb124 : HasBody Tryz.prog 124 := ⟨_, Tryz.func124, by kernel_rfl, by kernel_rfl⟩
/-! ref12.Bit -/
abbrev c125_r1 : List Ins := [
  ⟨some 4, none, .mov (.c (.bool false))⟩]
abbrev c125_r2 : List Ins := [
  ⟨some 5, none, .mov (.c (.int .i64 0))⟩]
abbrev c125_r3 : List Ins := [
  ⟨some 6, none, .mov (.t 5)⟩,
  ⟨some 7, none, .mov (.t 1)⟩,
  ⟨some 8, none, .bin .lss (.t 6) (.t 7)⟩]
abbrev c125_r4 : List Ins := [
  ⟨some 11, none, .mov (.t 0)⟩,
  ⟨some 12, none, .bin .quo (.t 11) (.c (.int .i64 2))⟩,
  ⟨some 0, none, .mov (.t 12)⟩]
abbrev c125_r5 : List Ins := [
  ⟨some 9, none, .mov (.t 5)⟩,
  ⟨some 10, none, .bin .add (.t 9) (.c (.int .i64 1))⟩,
  ⟨some 5, none, .mov (.t 10)⟩]
abbrev c125_l6 : IR := .seq (.seq (.reg c125_r3) (.cond (.t 8) (.skip) (.exit 0))) (.seq (.blk 1 (.reg c125_r4)) (.reg c125_r5))
abbrev c125_r7 : List Ins := [
  ⟨some 13, none, .mov (.t 0)⟩,
  ⟨some 14, none, .bin .rem (.t 13) (.c (.int .i64 2))⟩,
  ⟨some 15, none, .bin .eql (.t 14) (.c (.int .i64 1))⟩,
  ⟨some 4, none, .mov (.t 15)⟩]
abbrev c125 : IR := .seq (.reg c125_r1) (.seq (.seq (.reg c125_r2) (.blk 0 (.loop c125_l6))) (.seq (.reg c125_r7) (.ret)))
abbrev F125 : FnA := ⟨16, c125, [.t 4]⟩
theorem ok125 : cFn Tryz.prog 125 = some F125 := by kernel_rfl
theorem hb125 : HasBody Tryz.prog 125 := ⟨_, Tryz.func125, by kernel_rfl, by kernel_rfl⟩


end Go.Proofs
