/- The code of the functions that the statement reaches, as the abstract machine reads it. -/
import Derived.Test.YtaepkklbckgbhabK4
import Derived.Test.YtaepkklbckgbhabProg
namespace Go.Proofs
open Go Go.RowKit Go.Am

/-! law11.ClassFoot -/
abbrev c5_r1 : List Ins := [
  ⟨some 3, none, .box (.t 0)⟩,
  ⟨some 4, none, .box (.t 1)⟩,
  ⟨some 6, none, .mov (.c (.bool false))⟩]
abbrev c5_r2 : List Ins := [
  ⟨some 9, none, .call (.c (.fn 16 [] [])) []⟩,
  ⟨some 10, none, .un .not (.t 9)⟩]
abbrev c5_r3 : List Ins := [
  ⟨some 6, none, .mov (.c (.bool false))⟩]
abbrev c5_r4 : List Ins := [
  ⟨some 11, none, .load 5 true (.t 3)⟩,
  ⟨some 12, none, .call (.c (.fn 17 [] [])) [.t 11]⟩,
  ⟨some 13, none, .mov (.t 12)⟩,
  ⟨some 14, some (13, false), .load 5 true (.t 4)⟩,
  ⟨some 15, some (13, false), .call (.c (.fn 17 [] [])) [.t 14]⟩,
  ⟨some 16, none, .pick (.t 13) (.c (.bool true)) (.t 15)⟩,
  ⟨some 17, none, .mov (.t 16)⟩,
  ⟨some 18, some (17, false), .mov (.t 2)⟩,
  ⟨some 19, some (17, false), .len (.t 18)⟩,
  ⟨some 20, some (17, false), .bin .gtr (.t 19) (.c (.int .i64 10))⟩,
  ⟨some 21, none, .pick (.t 17) (.c (.bool true)) (.t 20)⟩]
abbrev c5_r5 : List Ins := [
  ⟨some 6, none, .mov (.c (.bool true))⟩]
abbrev c5_r6 : List Ins := [
  ⟨some 23, none, .load 5 true (.t 3)⟩,
  ⟨some 24, none, .mov (.t 2)⟩,
  ⟨some 25, none, .call (.c (.fn 18 [] [])) [.t 23, .t 24]⟩,
  ⟨some 22, none, .mov (.t 25)⟩,
  ⟨some 26, none, .ext (.t 22) 0⟩,
  ⟨some 27, none, .ext (.t 22) 1⟩,
  ⟨some 7, none, .mov (.t 26)⟩,
  ⟨some 8, none, .mov (.t 27)⟩]
abbrev c5_r7 : List Ins := [
  ⟨some 28, none, .load 5 true (.t 3)⟩,
  ⟨some 29, none, .load 5 true (.t 4)⟩,
  ⟨some 30, none, .call (.c (.fn 19 [] [])) [.t 28, .t 29]⟩,
  ⟨some 31, none, .load 5 true (.t 3)⟩,
  ⟨some 32, none, .load 5 true (.t 4)⟩,
  ⟨some 33, none, .call (.c (.fn 20 [] [])) [.t 31, .t 32]⟩,
  ⟨some 34, none, .eq [.b] false true (.t 30) (.t 33)⟩]
def c5_a7 : List (List Nat) := [[], [], [0, 1], [], [], [3, 4, 2], [2, 5]]
abbrev c5_m7 : List Am.Mark := [⟨false, 0, 0⟩, ⟨false, 0, 0⟩, ⟨false, 0, 0⟩, ⟨false, 0, 0⟩, ⟨false, 0, 0⟩, ⟨false, 0, 0⟩, ⟨false, 0, 0⟩]
theorem c5_d7 : drawFine c5_r7 c5_a7 c5_m7 = true := by decide +kernel
abbrev c5_r8 : List Ins := [
  ⟨some 6, none, .mov (.c (.bool false))⟩]
abbrev c5_r9 : List Ins := [
  ⟨some 35, none, .load 5 true (.t 3)⟩,
  ⟨some 36, none, .call (.c (.fn 21 [] [])) [.t 35]⟩,
  ⟨some 37, none, .un .not (.t 36)⟩,
  ⟨some 38, none, .mov (.t 37)⟩,
  ⟨some 39, some (38, false), .mov (.t 2)⟩,
  ⟨some 40, some (38, false), .len (.t 39)⟩,
  ⟨some 41, some (38, false), .faddr 1 (.t 3)⟩,
  ⟨some 42, some (38, false), .load 1 false (.t 41)⟩,
  ⟨some 43, some (38, false), .bin .neq (.t 40) (.t 42)⟩,
  ⟨some 44, none, .pick (.t 38) (.c (.bool true)) (.t 43)⟩,
  ⟨some 45, none, .mov (.t 44)⟩,
  ⟨some 46, some (45, false), .mov (.t 2)⟩,
  ⟨some 47, some (45, false), .call (.c (.fn 22 [] [])) [.t 46]⟩,
  ⟨some 48, some (45, false), .un .not (.t 47)⟩,
  ⟨some 49, none, .pick (.t 45) (.c (.bool true)) (.t 48)⟩]
abbrev c5_r10 : List Ins := [
  ⟨some 50, none, .mov (.t 7)⟩,
  ⟨some 51, none, .len (.t 50)⟩,
  ⟨some 52, none, .bin .eql (.t 51) (.c (.int .i64 0))⟩,
  ⟨some 53, none, .mov (.t 52)⟩,
  ⟨some 54, some (53, true), .mov (.t 8)⟩,
  ⟨some 55, some (53, true), .len (.t 54)⟩,
  ⟨some 56, some (53, true), .bin .eql (.t 55) (.c (.int .i64 0))⟩,
  ⟨some 57, none, .pick (.t 53) (.t 56) (.c (.bool false))⟩,
  ⟨some 6, none, .mov (.t 57)⟩]
abbrev c5_r11 : List Ins := [
  ⟨some 58, none, .mov (.t 7)⟩,
  ⟨some 59, none, .load 5 true (.t 3)⟩,
  ⟨some 60, none, .mov (.t 2)⟩,
  ⟨some 61, none, .call (.c (.fn 25 [] [])) [.t 59, .t 60, .c (.bool false)]⟩,
  ⟨some 62, none, .call (.c (.fn 24 [] [])) [.t 61]⟩,
  ⟨some 63, none, .call (.c (.fn 23 [] [])) [.t 58, .t 62]⟩,
  ⟨some 64, none, .mov (.t 63)⟩,
  ⟨some 65, some (64, true), .mov (.t 8)⟩,
  ⟨some 66, some (64, true), .load 5 true (.t 3)⟩,
  ⟨some 67, some (64, true), .mov (.t 2)⟩,
  ⟨some 68, some (64, true), .call (.c (.fn 25 [] [])) [.t 66, .t 67, .c (.bool true)]⟩,
  ⟨some 69, some (64, true), .call (.c (.fn 24 [] [])) [.t 68]⟩,
  ⟨some 70, some (64, true), .call (.c (.fn 23 [] [])) [.t 65, .t 69]⟩,
  ⟨some 71, none, .pick (.t 64) (.t 70) (.c (.bool false))⟩,
  ⟨some 6, none, .mov (.t 71)⟩]
abbrev c5 : IR := .seq (.reg c5_r1) (.seq (.seq (.reg c5_r2) (.cond (.t 10) (.seq (.reg c5_r3) (.ret)) (.skip))) (.seq (.seq (.reg c5_r4) (.cond (.t 21) (.seq (.reg c5_r5) (.ret)) (.skip))) (.seq (.reg c5_r6) (.seq (.seq (.dreg c5_r7 c5_a7) (.cond (.t 34) (.seq (.reg c5_r8) (.ret)) (.skip))) (.seq (.seq (.reg c5_r9) (.cond (.t 49) (.seq (.reg c5_r10) (.ret)) (.skip))) (.seq (.reg c5_r11) (.ret)))))))
abbrev F5 : FnA := ⟨72, c5, [.t 6]⟩
theorem ok5 : cFn Try.prog 5 = some F5 := by kernel_rfl
theorem hb5 : HasBody Try.prog 5 := ⟨_, Try.func5, by kernel_rfl, by kernel_rfl⟩
/-! law10.alive -/
abbrev c7_r1 : List Ins := [
  ⟨some 0, none, .mov (.c (.bool false))⟩]
abbrev c7_r2 : List Ins := [
  ⟨some 6, none, .build [.int .i64 0, .int .i64 0] [(1, (1, .c (.int .i64 5)))]⟩,
  ⟨some 7, none, .build [.int .i64 0, .int .i64 0] [(1, (1, .c (.int .i64 7)))]⟩,
  ⟨some 8, none, .build [.int .i64 0, .int .i64 0, .int .i64 0, .int .i64 0, .bool false] [(0, (2, .t 6)), (2, (2, .t 7)), (4, (1, .c (.bool true)))]⟩,
  ⟨some 9, none, .bsl 5 1 [.int .i64 0, .int .i64 0, .int .i64 0, .int .i64 0, .bool false] [(0, .t 8)]⟩,
  ⟨some 10, none, .bsl 1 1 [.int .i64 0] [(0, .c (.int .i64 10))]⟩,
  ⟨some 11, none, .call (.c (.fn 32 [] [])) [.t 9, .t 10]⟩,
  ⟨some 5, none, .mov (.t 11)⟩,
  ⟨some 12, none, .ext (.t 5) 0⟩,
  ⟨some 13, none, .ext (.t 5) 1⟩,
  ⟨some 14, none, .ext (.t 5) 2⟩,
  ⟨some 1, none, .mov (.t 12)⟩,
  ⟨some 2, none, .mov (.t 13)⟩,
  ⟨some 3, none, .mov (.t 14)⟩]
abbrev c7_r3 : List Ins := [
  ⟨some 15, none, .build [.int .i64 0, .int .i64 0] [(0, (1, .c (.int .i64 15))), (1, (1, .c (.int .i64 17)))]⟩,
  ⟨some 16, none, .bsl 2 1 [.int .i64 0, .int .i64 0] [(0, .t 15)]⟩,
  ⟨some 4, none, .mov (.t 16)⟩]
abbrev c7_r4 : List Ins := [
  ⟨some 17, none, .mov (.t 3)⟩,
  ⟨some 18, none, .mov (.t 17)⟩,
  ⟨some 19, some (18, true), .mov (.t 1)⟩,
  ⟨some 20, some (18, true), .mov (.t 4)⟩,
  ⟨some 21, some (18, true), .call (.c (.fn 23 [] [])) [.t 19, .t 20]⟩,
  ⟨some 22, none, .pick (.t 18) (.t 21) (.c (.bool false))⟩,
  ⟨some 23, none, .mov (.t 22)⟩,
  ⟨some 24, some (23, true), .mov (.t 2)⟩,
  ⟨some 25, some (23, true), .mov (.t 4)⟩,
  ⟨some 26, some (23, true), .call (.c (.fn 23 [] [])) [.t 24, .t 25]⟩,
  ⟨some 27, none, .pick (.t 23) (.t 26) (.c (.bool false))⟩,
  ⟨some 0, none, .mov (.t 27)⟩]
abbrev c7 : IR := .seq (.reg c7_r1) (.seq (.reg c7_r2) (.seq (.reg c7_r3) (.seq (.reg c7_r4) (.ret))))
abbrev F7 : FnA := ⟨28, c7, [.t 0]⟩
theorem ok7 : cFn Try.prog 7 = some F7 := by kernel_rfl
theorem hb7 : HasBody Try.prog 7 := ⟨_, Try.func7, by kernel_rfl, by kernel_rfl⟩
/-! ref10.Right -/
abbrev c8_r1 : List Ins := [
  ⟨some 4, none, .mov (.c (.bool false))⟩]
abbrev c8_r2 : List Ins := [
  ⟨some 5, none, .mov (.t 1)⟩,
  ⟨some 6, none, .call (.c (.fn 22 [] [])) [.t 5]⟩,
  ⟨some 7, none, .mov (.t 6)⟩,
  ⟨some 8, some (7, true), .mov (.t 0)⟩,
  ⟨some 9, some (7, true), .mov (.t 1)⟩,
  ⟨some 10, some (7, true), .len (.t 9)⟩,
  ⟨some 11, some (7, true), .call (.c (.fn 26 [] [])) [.t 8, .t 10]⟩,
  ⟨some 12, none, .pick (.t 7) (.t 11) (.c (.bool false))⟩,
  ⟨some 4, none, .mov (.t 12)⟩]
abbrev c8 : IR := .seq (.reg c8_r1) (.seq (.reg c8_r2) (.ret))
abbrev F8 : FnA := ⟨13, c8, [.t 4]⟩
theorem ok8 : cFn Try.prog 8 = some F8 := by kernel_rfl
theorem hb8 : HasBody Try.prog 8 := ⟨_, Try.func8, by kernel_rfl, by kernel_rfl⟩
/-! foot.Covers -/
abbrev c9_r1 : List Ins := [
  ⟨some 8, none, .mov (.c (.bool false))⟩]
abbrev c9_r2 : List Ins := [
  ⟨some 13, none, .mov (.t 0)⟩,
  ⟨some 14, none, .mov (.t 1)⟩,
  ⟨some 15, none, .call (.c (.fn 32 [] [])) [.t 13, .t 14]⟩,
  ⟨some 12, none, .mov (.t 15)⟩,
  ⟨some 16, none, .ext (.t 12) 0⟩,
  ⟨some 17, none, .ext (.t 12) 1⟩,
  ⟨some 18, none, .ext (.t 12) 2⟩,
  ⟨some 9, none, .mov (.t 16)⟩,
  ⟨some 10, none, .mov (.t 17)⟩,
  ⟨some 11, none, .mov (.t 18)⟩]
abbrev c9_r3 : List Ins := [
  ⟨some 19, none, .mov (.t 11)⟩,
  ⟨some 20, none, .mov (.t 19)⟩,
  ⟨some 21, some (20, true), .mov (.t 2)⟩,
  ⟨some 22, some (20, true), .mov (.t 9)⟩,
  ⟨some 23, some (20, true), .call (.c (.fn 33 [] [])) [.t 21, .t 22]⟩,
  ⟨some 24, none, .pick (.t 20) (.t 23) (.c (.bool false))⟩,
  ⟨some 25, none, .mov (.t 24)⟩,
  ⟨some 26, some (25, true), .mov (.t 3)⟩,
  ⟨some 27, some (25, true), .mov (.t 10)⟩,
  ⟨some 28, some (25, true), .call (.c (.fn 33 [] [])) [.t 26, .t 27]⟩,
  ⟨some 29, none, .pick (.t 25) (.t 28) (.c (.bool false))⟩,
  ⟨some 8, none, .mov (.t 29)⟩]
abbrev c9 : IR := .seq (.reg c9_r1) (.seq (.reg c9_r2) (.seq (.reg c9_r3) (.ret)))
abbrev F9 : FnA := ⟨30, c9, [.t 8]⟩
theorem ok9 : cFn Try.prog 9 = some F9 := by kernel_rfl
theorem hb9 : HasBody Try.prog 9 := ⟨_, Try.func9, by kernel_rfl, by kernel_rfl⟩
/-! ref10.Same -/
abbrev c13_r1 : List Ins := [
  ⟨some 4, none, .mov (.c (.bool false))⟩]
abbrev c13_r2 : List Ins := [
  ⟨some 6, none, .mov (.t 0)⟩,
  ⟨some 7, none, .len (.t 6)⟩,
  ⟨some 8, none, .mov (.t 1)⟩,
  ⟨some 9, none, .len (.t 8)⟩,
  ⟨some 10, none, .bin .neq (.t 7) (.t 9)⟩]
abbrev c13_r3 : List Ins := [
  ⟨some 4, none, .mov (.c (.bool false))⟩]
abbrev c13_r4 : List Ins := [
  ⟨some 5, none, .mov (.c (.int .i64 0))⟩]
abbrev c13_r5 : List Ins := [
  ⟨some 11, none, .mov (.t 5)⟩,
  ⟨some 12, none, .mov (.t 0)⟩,
  ⟨some 13, none, .len (.t 12)⟩,
  ⟨some 14, none, .bin .lss (.t 11) (.t 13)⟩]
abbrev c13_r6 : List Ins := [
  ⟨some 17, none, .mov (.t 0)⟩,
  ⟨some 18, none, .mov (.t 5)⟩,
  ⟨some 19, none, .iaddr 5 (.t 17) (.t 18)⟩,
  ⟨some 20, none, .load 5 true (.t 19)⟩,
  ⟨some 21, none, .mov (.t 1)⟩,
  ⟨some 22, none, .mov (.t 5)⟩,
  ⟨some 23, none, .iaddr 5 (.t 21) (.t 22)⟩,
  ⟨some 24, none, .load 5 true (.t 23)⟩,
  ⟨some 25, none, .eq [.i, .i, .i, .i, .b] true true (.t 20) (.t 24)⟩]
def c13_a6 : List (List Nat) := [[], [], [0, 1], [2], [], [], [4, 5], [6], [3, 7]]
abbrev c13_m6 : List Am.Mark := [⟨false, 0, 0⟩, ⟨false, 0, 0⟩, ⟨false, 0, 0⟩, ⟨false, 0, 0⟩, ⟨false, 0, 0⟩, ⟨false, 0, 0⟩, ⟨false, 0, 0⟩, ⟨false, 0, 0⟩, ⟨false, 0, 0⟩]
theorem c13_d6 : drawFine c13_r6 c13_a6 c13_m6 = true := by decide +kernel
abbrev c13_r7 : List Ins := [
  ⟨some 4, none, .mov (.c (.bool false))⟩]
abbrev c13_r8 : List Ins := [
  ⟨some 15, none, .mov (.t 5)⟩,
  ⟨some 16, none, .bin .add (.t 15) (.c (.int .i64 1))⟩,
  ⟨some 5, none, .mov (.t 16)⟩]
abbrev c13_l9 : IR := .seq (.seq (.reg c13_r5) (.cond (.t 14) (.skip) (.exit 0))) (.seq (.blk 1 (.seq (.dreg c13_r6 c13_a6) (.cond (.t 25) (.seq (.reg c13_r7) (.ret)) (.skip)))) (.reg c13_r8))
abbrev c13_r10 : List Ins := [
  ⟨some 4, none, .mov (.c (.bool true))⟩]
abbrev c13 : IR := .seq (.reg c13_r1) (.seq (.seq (.reg c13_r2) (.cond (.t 10) (.seq (.reg c13_r3) (.ret)) (.skip))) (.seq (.seq (.reg c13_r4) (.blk 0 (.loop c13_l9))) (.seq (.reg c13_r10) (.ret))))
abbrev F13 : FnA := ⟨26, c13, [.t 4]⟩
theorem ok13 : cFn Try.prog 13 = some F13 := by kernel_rfl
theorem hb13 : HasBody Try.prog 13 := ⟨_, Try.func13, by kernel_rfl, by kernel_rfl⟩
/-! law11.alive -/
abbrev c16_r1 : List Ins := [
  ⟨some 0, none, .mov (.c (.bool false))⟩]
abbrev c16_r2 : List Ins := [
  ⟨some 1, none, .build [.int .i64 0, .int .i64 0, .int .i64 0, .int .i64 0, .int .i64 0, .int .i64 0, .int .i64 0, .int .i64 0, .int .i64 0] [(0, (1, .c (.int .i64 5)))]⟩,
  ⟨some 2, none, .bsl 9 1 [.int .i64 0, .int .i64 0, .int .i64 0, .int .i64 0, .int .i64 0, .int .i64 0, .int .i64 0, .int .i64 0, .int .i64 0] [(0, .t 1)]⟩,
  ⟨some 3, none, .build [.sl .full [], .sl .full []] [(0, (1, .t 2))]⟩,
  ⟨some 4, none, .bsl 2 1 [.sl .full [], .sl .full []] [(0, .t 3)]⟩,
  ⟨some 5, none, .build [.sl .full [], .sl .full []] []⟩,
  ⟨some 6, none, .bsl 2 1 [.sl .full [], .sl .full []] [(0, .t 5)]⟩,
  ⟨some 7, none, .build [.str ⟨#[]⟩, .int .i64 0, .sl .full [], .sl .full [], .bool false] [(0, (1, .c (.str ⟨#[97]⟩))), (2, (1, .t 4)), (3, (1, .t 6))]⟩,
  ⟨some 8, none, .call (.c (.fn 38 [] [])) [.t 7]⟩,
  ⟨some 0, none, .mov (.t 8)⟩]
abbrev c16 : IR := .seq (.reg c16_r1) (.seq (.reg c16_r2) (.ret))
abbrev F16 : FnA := ⟨9, c16, [.t 0]⟩
theorem ok16 : cFn Try.prog 16 = some F16 := by kernel_rfl
theorem hb16 : HasBody Try.prog 16 := ⟨_, Try.func16, by kernel_rfl, by kernel_rfl⟩
/-! law11.Great -/
abbrev c17_r1 : List Ins := [
  ⟨some 1, none, .box (.t 0)⟩,
  ⟨some 2, none, .mov (.c (.bool false))⟩]
abbrev c17_r2 : List Ins := [
  ⟨some 5, none, .faddr 0 (.t 1)⟩,
  ⟨some 6, none, .load 1 false (.t 5)⟩,
  ⟨some 7, none, .lenS (.t 6)⟩,
  ⟨some 8, none, .bin .gtr (.t 7) (.c (.int .i64 300))⟩,
  ⟨some 9, none, .mov (.t 8)⟩,
  ⟨some 10, some (9, false), .faddr 2 (.t 1)⟩,
  ⟨some 11, some (9, false), .load 1 false (.t 10)⟩,
  ⟨some 12, some (9, false), .len (.t 11)⟩,
  ⟨some 13, some (9, false), .bin .gtr (.t 12) (.c (.int .i64 20))⟩,
  ⟨some 14, none, .pick (.t 9) (.c (.bool true)) (.t 13)⟩,
  ⟨some 15, none, .mov (.t 14)⟩,
  ⟨some 16, some (15, false), .faddr 3 (.t 1)⟩,
  ⟨some 17, some (15, false), .load 1 false (.t 16)⟩,
  ⟨some 18, some (15, false), .len (.t 17)⟩,
  ⟨some 19, some (15, false), .bin .gtr (.t 18) (.c (.int .i64 20))⟩,
  ⟨some 20, none, .pick (.t 15) (.c (.bool true)) (.t 19)⟩]
abbrev c17_r3 : List Ins := [
  ⟨some 2, none, .mov (.c (.bool true))⟩]
abbrev c17_r4 : List Ins := [
  ⟨some 21, none, .bsl 2 0 [.sl .full [], .sl .full []] []⟩,
  ⟨some 22, none, .faddr 2 (.t 1)⟩,
  ⟨some 23, none, .load 1 false (.t 22)⟩,
  ⟨some 24, none, .append 2 48 (.t 21) (.t 23)⟩,
  ⟨some 25, none, .faddr 3 (.t 1)⟩,
  ⟨some 26, none, .load 1 false (.t 25)⟩,
  ⟨some 27, none, .append 2 48 (.t 24) (.t 26)⟩,
  ⟨some 3, none, .mov (.t 27)⟩]
def c17_a4 : List (List Nat) := [[], [], [1], [0, 2], [], [4], [3, 5, 3], [6, 6, 0, 1, 2, 3, 4, 5, 6]]
abbrev c17_m4 : List Am.Mark := [⟨false, 0, 0⟩, ⟨false, 0, 2⟩, ⟨false, 0, 0⟩, ⟨true, 0, 1⟩, ⟨false, 0, 2⟩, ⟨false, 0, 1⟩, ⟨true, 1, 2⟩, ⟨false, 2, 2⟩]
theorem c17_d4 : drawFine c17_r4 c17_a4 c17_m4 = true := by decide +kernel
abbrev c17_r5 : List Ins := [
  ⟨some 4, none, .mov (.c (.int .i64 0))⟩]
abbrev c17_r6 : List Ins := [
  ⟨some 28, none, .mov (.t 4)⟩,
  ⟨some 29, none, .mov (.t 3)⟩,
  ⟨some 30, none, .len (.t 29)⟩,
  ⟨some 31, none, .bin .lss (.t 28) (.t 30)⟩]
abbrev c17_r7 : List Ins := [
  ⟨some 34, none, .mov (.t 3)⟩,
  ⟨some 35, none, .mov (.t 4)⟩,
  ⟨some 36, none, .iaddr 2 (.t 34) (.t 35)⟩,
  ⟨some 37, none, .faddr 0 (.t 36)⟩,
  ⟨some 38, none, .load 1 false (.t 37)⟩,
  ⟨some 39, none, .len (.t 38)⟩,
  ⟨some 40, none, .bin .gtr (.t 39) (.c (.int .i64 40))⟩,
  ⟨some 41, none, .mov (.t 40)⟩,
  ⟨some 42, some (41, false), .mov (.t 3)⟩,
  ⟨some 43, some (41, false), .mov (.t 4)⟩,
  ⟨some 44, some (41, false), .iaddr 2 (.t 42) (.t 43)⟩,
  ⟨some 45, some (41, false), .faddr 1 (.t 44)⟩,
  ⟨some 46, some (41, false), .load 1 false (.t 45)⟩,
  ⟨some 47, some (41, false), .len (.t 46)⟩,
  ⟨some 48, some (41, false), .bin .gtr (.t 47) (.c (.int .i64 40))⟩,
  ⟨some 49, none, .pick (.t 41) (.c (.bool true)) (.t 48)⟩]
abbrev c17_r8 : List Ins := [
  ⟨some 2, none, .mov (.c (.bool true))⟩]
abbrev c17_r9 : List Ins := [
  ⟨some 32, none, .mov (.t 4)⟩,
  ⟨some 33, none, .bin .add (.t 32) (.c (.int .i64 1))⟩,
  ⟨some 4, none, .mov (.t 33)⟩]
abbrev c17_l10 : IR := .seq (.seq (.reg c17_r6) (.cond (.t 31) (.skip) (.exit 0))) (.seq (.blk 1 (.seq (.reg c17_r7) (.cond (.t 49) (.seq (.reg c17_r8) (.ret)) (.skip)))) (.reg c17_r9))
abbrev c17_r11 : List Ins := [
  ⟨some 2, none, .mov (.c (.bool false))⟩]
abbrev c17 : IR := .seq (.reg c17_r1) (.seq (.seq (.reg c17_r2) (.cond (.t 20) (.seq (.reg c17_r3) (.ret)) (.skip))) (.seq (.dreg c17_r4 c17_a4) (.seq (.seq (.reg c17_r5) (.blk 0 (.loop c17_l10))) (.seq (.reg c17_r11) (.ret)))))
abbrev F17 : FnA := ⟨50, c17, [.t 2]⟩
theorem ok17 : cFn Try.prog 17 = some F17 := by kernel_rfl
theorem hb17 : HasBody Try.prog 17 := ⟨_, Try.func17, by kernel_rfl, by kernel_rfl⟩
/-! class.Foot -/
abbrev c18_r1 : List Ins := [
  ⟨some 2, none, .box (.t 0)⟩,
  ⟨some 4, none, .mov (.c (.sl .full []))⟩,
  ⟨some 5, none, .mov (.c (.sl .full []))⟩]
abbrev c18_r2 : List Ins := [
  ⟨some 13, none, .load 5 true (.t 2)⟩,
  ⟨some 14, none, .call (.c (.fn 38 [] [])) [.t 13]⟩,
  ⟨some 15, none, .un .not (.t 14)⟩,
  ⟨some 16, none, .mov (.t 15)⟩,
  ⟨some 17, some (16, false), .mov (.t 1)⟩,
  ⟨some 18, some (16, false), .len (.t 17)⟩,
  ⟨some 19, some (16, false), .faddr 1 (.t 2)⟩,
  ⟨some 20, some (16, false), .load 1 false (.t 19)⟩,
  ⟨some 21, some (16, false), .bin .neq (.t 18) (.t 20)⟩,
  ⟨some 22, none, .pick (.t 16) (.c (.bool true)) (.t 21)⟩]
abbrev c18_r3 : List Ins := [
  ⟨some 4, none, .mov (.c (.sl .full []))⟩,
  ⟨some 5, none, .mov (.c (.sl .full []))⟩]
abbrev c18_r4 : List Ins := [
  ⟨some 6, none, .mov (.c (.sl .full []))⟩,
  ⟨some 7, none, .mov (.c (.sl .full []))⟩]
abbrev c18_r5 : List Ins := [
  ⟨some 23, none, .faddr 2 (.t 2)⟩,
  ⟨some 24, none, .load 1 false (.t 23)⟩,
  ⟨some 25, none, .len (.t 24)⟩,
  ⟨some 26, none, .mov (.c (.int .i64 0))⟩]
abbrev c18_r6 : List Ins := [
  ⟨some 27, none, .bin .lss (.t 26) (.t 25)⟩]
abbrev c18_r7 : List Ins := [
  ⟨some 28, none, .iaddr 2 (.t 24) (.t 26)⟩,
  ⟨some 29, none, .load 2 true (.t 28)⟩,
  ⟨some 9, none, .alloc [.sl .full [], .sl .full []]⟩,
  ⟨none, none, .store 2 (.t 9) (.t 29)⟩]
abbrev c18_r8 : List Ins := [
  ⟨some 31, none, .faddr 1 (.t 9)⟩,
  ⟨some 32, none, .load 1 false (.t 31)⟩,
  ⟨some 33, none, .mov (.t 1)⟩,
  ⟨some 34, none, .call (.c (.fn 32 [] [])) [.t 32, .t 33]⟩,
  ⟨some 30, none, .mov (.t 34)⟩,
  ⟨some 35, none, .ext (.t 30) 0⟩,
  ⟨some 36, none, .ext (.t 30) 1⟩,
  ⟨some 37, none, .ext (.t 30) 2⟩,
  ⟨some 10, none, .mov (.t 35)⟩,
  ⟨some 11, none, .mov (.t 36)⟩,
  ⟨some 12, none, .mov (.t 37)⟩]
abbrev c18_r9 : List Ins := [
  ⟨some 38, none, .mov (.t 6)⟩,
  ⟨some 39, none, .mov (.t 10)⟩,
  ⟨some 40, none, .call (.c (.fn 39 [] [])) [.t 38, .t 39]⟩,
  ⟨some 41, none, .mov (.t 7)⟩,
  ⟨some 42, none, .mov (.t 11)⟩,
  ⟨some 43, none, .call (.c (.fn 39 [] [])) [.t 41, .t 42]⟩,
  ⟨some 6, none, .mov (.t 40)⟩,
  ⟨some 7, none, .mov (.t 43)⟩]
abbrev c18_r10 : List Ins := [
  ⟨some 44, none, .bin .add (.t 26) (.c (.int .i64 1))⟩,
  ⟨some 26, none, .mov (.t 44)⟩]
abbrev c18_l11 : IR := .seq (.reg c18_r6) (.seq (.cond (.t 27) (.skip) (.exit 0)) (.seq (.blk 1 (.seq (.reg c18_r7) (.seq (.reg c18_r8) (.reg c18_r9)))) (.reg c18_r10)))
abbrev c18_r12 : List Ins := [
  ⟨some 45, none, .mov (.t 6)⟩,
  ⟨some 46, none, .mov (.t 7)⟩,
  ⟨some 4, none, .mov (.t 45)⟩,
  ⟨some 5, none, .mov (.t 46)⟩]
abbrev c18 : IR := .seq (.reg c18_r1) (.seq (.seq (.reg c18_r2) (.cond (.t 22) (.seq (.reg c18_r3) (.ret)) (.skip))) (.seq (.reg c18_r4) (.seq (.seq (.reg c18_r5) (.blk 0 (.loop c18_l11))) (.seq (.reg c18_r12) (.ret)))))
abbrev F18 : FnA := ⟨47, c18, [.t 4, .t 5]⟩
theorem ok18 : cFn Try.prog 18 = some F18 := by kernel_rfl
theorem hb18 : HasBody Try.prog 18 := ⟨_, Try.func18, by kernel_rfl, by kernel_rfl⟩
/-! class.Same -/
abbrev c19_r1 : List Ins := [
  ⟨some 2, none, .box (.t 0)⟩,
  ⟨some 3, none, .box (.t 1)⟩,
  ⟨some 4, none, .mov (.c (.bool false))⟩]
abbrev c19_r2 : List Ins := [
  ⟨some 5, none, .faddr 0 (.t 2)⟩,
  ⟨some 6, none, .load 1 false (.t 5)⟩,
  ⟨some 7, none, .faddr 0 (.t 3)⟩,
  ⟨some 8, none, .load 1 false (.t 7)⟩,
  ⟨some 9, none, .bin .eql (.t 6) (.t 8)⟩,
  ⟨some 10, none, .mov (.t 9)⟩,
  ⟨some 11, some (10, true), .faddr 1 (.t 2)⟩,
  ⟨some 12, some (10, true), .load 1 false (.t 11)⟩,
  ⟨some 13, some (10, true), .faddr 1 (.t 3)⟩,
  ⟨some 14, some (10, true), .load 1 false (.t 13)⟩,
  ⟨some 15, some (10, true), .bin .eql (.t 12) (.t 14)⟩,
  ⟨some 16, none, .pick (.t 10) (.t 15) (.c (.bool false))⟩,
  ⟨some 17, none, .mov (.t 16)⟩,
  ⟨some 18, some (17, true), .faddr 4 (.t 2)⟩,
  ⟨some 19, some (17, true), .load 1 false (.t 18)⟩,
  ⟨some 20, some (17, true), .faddr 4 (.t 3)⟩,
  ⟨some 21, some (17, true), .load 1 false (.t 20)⟩,
  ⟨some 22, some (17, true), .eq [.b] false false (.t 19) (.t 21)⟩,
  ⟨some 23, none, .pick (.t 17) (.t 22) (.c (.bool false))⟩,
  ⟨some 24, none, .mov (.t 23)⟩,
  ⟨some 25, some (24, true), .faddr 2 (.t 2)⟩,
  ⟨some 26, some (24, true), .load 1 false (.t 25)⟩,
  ⟨some 27, some (24, true), .faddr 2 (.t 3)⟩,
  ⟨some 28, some (24, true), .load 1 false (.t 27)⟩,
  ⟨some 29, some (24, true), .call (.c (.fn 40 [] [])) [.t 26, .t 28, .c (.fn 41 [] [])]⟩,
  ⟨some 30, none, .pick (.t 24) (.t 29) (.c (.bool false))⟩,
  ⟨some 31, none, .mov (.t 30)⟩,
  ⟨some 32, some (31, true), .faddr 3 (.t 2)⟩,
  ⟨some 33, some (31, true), .load 1 false (.t 32)⟩,
  ⟨some 34, some (31, true), .faddr 3 (.t 3)⟩,
  ⟨some 35, some (31, true), .load 1 false (.t 34)⟩,
  ⟨some 36, some (31, true), .call (.c (.fn 40 [] [])) [.t 33, .t 35, .c (.fn 41 [] [])]⟩,
  ⟨some 37, none, .pick (.t 31) (.t 36) (.c (.bool false))⟩,
  ⟨some 4, none, .mov (.t 37)⟩]
abbrev c19 : IR := .seq (.reg c19_r1) (.seq (.reg c19_r2) (.ret))
abbrev F19 : FnA := ⟨38, c19, [.t 4]⟩
theorem ok19 : cFn Try.prog 19 = some F19 := by kernel_rfl
theorem hb19 : HasBody Try.prog 19 := ⟨_, Try.func19, by kernel_rfl, by kernel_rfl⟩
/-! ref11.Same -/
abbrev c20_r1 : List Ins := [
  ⟨some 2, none, .box (.t 0)⟩,
  ⟨some 3, none, .box (.t 1)⟩,
  ⟨some 4, none, .mov (.c (.bool false))⟩]
abbrev c20_r2 : List Ins := [
  ⟨some 5, none, .faddr 0 (.t 2)⟩,
  ⟨some 6, none, .load 1 false (.t 5)⟩,
  ⟨some 7, none, .faddr 0 (.t 3)⟩,
  ⟨some 8, none, .load 1 false (.t 7)⟩,
  ⟨some 9, none, .bin .eql (.t 6) (.t 8)⟩,
  ⟨some 10, none, .mov (.t 9)⟩,
  ⟨some 11, some (10, true), .faddr 1 (.t 2)⟩,
  ⟨some 12, some (10, true), .load 1 false (.t 11)⟩,
  ⟨some 13, some (10, true), .faddr 1 (.t 3)⟩,
  ⟨some 14, some (10, true), .load 1 false (.t 13)⟩,
  ⟨some 15, some (10, true), .bin .eql (.t 12) (.t 14)⟩,
  ⟨some 16, none, .pick (.t 10) (.t 15) (.c (.bool false))⟩,
  ⟨some 17, none, .mov (.t 16)⟩,
  ⟨some 18, some (17, true), .faddr 4 (.t 2)⟩,
  ⟨some 19, some (17, true), .load 1 false (.t 18)⟩,
  ⟨some 20, some (17, true), .faddr 4 (.t 3)⟩,
  ⟨some 21, some (17, true), .load 1 false (.t 20)⟩,
  ⟨some 22, some (17, true), .eq [.b] false false (.t 19) (.t 21)⟩,
  ⟨some 23, none, .pick (.t 17) (.t 22) (.c (.bool false))⟩,
  ⟨some 24, none, .mov (.t 23)⟩,
  ⟨some 25, some (24, true), .faddr 2 (.t 2)⟩,
  ⟨some 26, some (24, true), .load 1 false (.t 25)⟩,
  ⟨some 27, some (24, true), .faddr 2 (.t 3)⟩,
  ⟨some 28, some (24, true), .load 1 false (.t 27)⟩,
  ⟨some 29, some (24, true), .call (.c (.fn 42 [] [])) [.t 26, .t 28]⟩,
  ⟨some 30, none, .pick (.t 24) (.t 29) (.c (.bool false))⟩,
  ⟨some 31, none, .mov (.t 30)⟩,
  ⟨some 32, some (31, true), .faddr 3 (.t 2)⟩,
  ⟨some 33, some (31, true), .load 1 false (.t 32)⟩,
  ⟨some 34, some (31, true), .faddr 3 (.t 3)⟩,
  ⟨some 35, some (31, true), .load 1 false (.t 34)⟩,
  ⟨some 36, some (31, true), .call (.c (.fn 42 [] [])) [.t 33, .t 35]⟩,
  ⟨some 37, none, .pick (.t 31) (.t 36) (.c (.bool false))⟩,
  ⟨some 4, none, .mov (.t 37)⟩]
abbrev c20 : IR := .seq (.reg c20_r1) (.seq (.reg c20_r2) (.ret))
abbrev F20 : FnA := ⟨38, c20, [.t 4]⟩
theorem ok20 : cFn Try.prog 20 = some F20 := by kernel_rfl
theorem hb20 : HasBody Try.prog 20 := ⟨_, Try.func20, by kernel_rfl, by kernel_rfl⟩
/-! ref11.May -/
abbrev c21_r1 : List Ins := [
  ⟨some 1, none, .box (.t 0)⟩,
  ⟨some 2, none, .mov (.c (.bool false))⟩]
abbrev c21_r2 : List Ins := [
  ⟨some 7, none, .faddr 2 (.t 1)⟩,
  ⟨some 8, none, .load 1 false (.t 7)⟩,
  ⟨some 9, none, .len (.t 8)⟩,
  ⟨some 3, none, .mov (.t 9)⟩]
abbrev c21_r3 : List Ins := [
  ⟨some 10, none, .faddr 0 (.t 1)⟩,
  ⟨some 11, none, .load 1 false (.t 10)⟩,
  ⟨some 12, none, .lenS (.t 11)⟩,
  ⟨some 13, none, .bin .lss (.t 12) (.c (.int .i64 1))⟩,
  ⟨some 14, none, .mov (.t 13)⟩,
  ⟨some 15, some (14, false), .faddr 0 (.t 1)⟩,
  ⟨some 16, some (14, false), .load 1 false (.t 15)⟩,
  ⟨some 17, some (14, false), .lenS (.t 16)⟩,
  ⟨some 18, some (14, false), .bin .gtr (.t 17) (.c (.int .i64 16))⟩,
  ⟨some 19, none, .pick (.t 14) (.c (.bool true)) (.t 18)⟩,
  ⟨some 20, none, .mov (.t 19)⟩,
  ⟨some 21, some (20, false), .faddr 1 (.t 1)⟩,
  ⟨some 22, some (20, false), .load 1 false (.t 21)⟩,
  ⟨some 23, some (20, false), .bin .lss (.t 22) (.c (.int .i64 0))⟩,
  ⟨some 24, none, .pick (.t 20) (.c (.bool true)) (.t 23)⟩,
  ⟨some 25, none, .mov (.t 24)⟩,
  ⟨some 26, some (25, false), .faddr 1 (.t 1)⟩,
  ⟨some 27, some (25, false), .load 1 false (.t 26)⟩,
  ⟨some 28, some (25, false), .bin .gtr (.t 27) (.c (.int .i64 3))⟩,
  ⟨some 29, none, .pick (.t 25) (.c (.bool true)) (.t 28)⟩,
  ⟨some 30, none, .mov (.t 29)⟩,
  ⟨some 31, some (30, false), .mov (.t 3)⟩,
  ⟨some 32, some (30, false), .bin .lss (.t 31) (.c (.int .i64 1))⟩,
  ⟨some 33, none, .pick (.t 30) (.c (.bool true)) (.t 32)⟩,
  ⟨some 34, none, .mov (.t 33)⟩,
  ⟨some 35, some (34, false), .mov (.t 3)⟩,
  ⟨some 36, some (34, false), .bin .gtr (.t 35) (.c (.int .i64 4))⟩,
  ⟨some 37, none, .pick (.t 34) (.c (.bool true)) (.t 36)⟩,
  ⟨some 38, none, .mov (.t 37)⟩,
  ⟨some 39, some (38, false), .faddr 3 (.t 1)⟩,
  ⟨some 40, some (38, false), .load 1 false (.t 39)⟩,
  ⟨some 41, some (38, false), .len (.t 40)⟩,
  ⟨some 42, some (38, false), .mov (.t 3)⟩,
  ⟨some 43, some (38, false), .bin .neq (.t 41) (.t 42)⟩,
  ⟨some 44, none, .pick (.t 38) (.c (.bool true)) (.t 43)⟩]
abbrev c21_r4 : List Ins := [
  ⟨some 2, none, .mov (.c (.bool false))⟩]
abbrev c21_r5 : List Ins := [
  ⟨some 4, none, .mov (.c (.int .i64 0))⟩]
abbrev c21_r6 : List Ins := [
  ⟨some 45, none, .mov (.t 4)⟩,
  ⟨some 46, none, .mov (.t 3)⟩,
  ⟨some 47, none, .bin .lss (.t 45) (.t 46)⟩]
abbrev c21_r7 : List Ins := [
  ⟨some 50, none, .faddr 2 (.t 1)⟩,
  ⟨some 51, none, .load 1 false (.t 50)⟩,
  ⟨some 52, none, .mov (.t 4)⟩,
  ⟨some 53, none, .iaddr 2 (.t 51) (.t 52)⟩,
  ⟨some 54, none, .faddr 0 (.t 53)⟩,
  ⟨some 55, none, .load 1 false (.t 54)⟩,
  ⟨some 56, none, .faddr 1 (.t 1)⟩,
  ⟨some 57, none, .load 1 false (.t 56)⟩,
  ⟨some 58, none, .call (.c (.fn 43 [] [])) [.t 55, .t 57]⟩,
  ⟨some 59, none, .un .not (.t 58)⟩,
  ⟨some 60, none, .mov (.t 59)⟩,
  ⟨some 61, some (60, false), .faddr 2 (.t 1)⟩,
  ⟨some 62, some (60, false), .load 1 false (.t 61)⟩,
  ⟨some 63, some (60, false), .mov (.t 4)⟩,
  ⟨some 64, some (60, false), .iaddr 2 (.t 62) (.t 63)⟩,
  ⟨some 65, some (60, false), .faddr 1 (.t 64)⟩,
  ⟨some 66, some (60, false), .load 1 false (.t 65)⟩,
  ⟨some 67, some (60, false), .faddr 1 (.t 1)⟩,
  ⟨some 68, some (60, false), .load 1 false (.t 67)⟩,
  ⟨some 69, some (60, false), .call (.c (.fn 26 [] [])) [.t 66, .t 68]⟩,
  ⟨some 70, some (60, false), .un .not (.t 69)⟩,
  ⟨some 71, none, .pick (.t 60) (.c (.bool true)) (.t 70)⟩,
  ⟨some 72, none, .mov (.t 71)⟩,
  ⟨some 73, some (72, false), .faddr 3 (.t 1)⟩,
  ⟨some 74, some (72, false), .load 1 false (.t 73)⟩,
  ⟨some 75, some (72, false), .mov (.t 4)⟩,
  ⟨some 76, some (72, false), .iaddr 2 (.t 74) (.t 75)⟩,
  ⟨some 77, some (72, false), .faddr 1 (.t 76)⟩,
  ⟨some 78, some (72, false), .load 1 false (.t 77)⟩,
  ⟨some 79, some (72, false), .faddr 1 (.t 1)⟩,
  ⟨some 80, some (72, false), .load 1 false (.t 79)⟩,
  ⟨some 81, some (72, false), .call (.c (.fn 26 [] [])) [.t 78, .t 80]⟩,
  ⟨some 82, some (72, false), .un .not (.t 81)⟩,
  ⟨some 83, none, .pick (.t 72) (.c (.bool true)) (.t 82)⟩]
def c21_a7 : List (List Nat) := [[], [0], [], [1, 2], [3], [4], [], [6], [5, 7], [8], [9, 8], [10], [11, 10], [10], [12, 13, 10], [14, 10], [15, 10], [10], [17, 10], [16, 18, 10, 10], [19, 10], [10, 20], [21, 19], [22], [23, 22], [22], [24, 25, 22], [26, 22], [27, 22], [22], [29, 22], [28, 30, 22, 22], [31, 22], [22, 32]]
abbrev c21_m7 : List Am.Mark := [⟨false, 0, 0⟩, ⟨false, 0, 0⟩, ⟨false, 0, 0⟩, ⟨false, 0, 0⟩, ⟨false, 0, 0⟩, ⟨false, 0, 0⟩, ⟨false, 0, 0⟩, ⟨false, 0, 0⟩, ⟨false, 0, 0⟩, ⟨false, 0, 0⟩, ⟨false, 0, 0⟩, ⟨false, 0, 0⟩, ⟨false, 0, 0⟩, ⟨false, 0, 0⟩, ⟨false, 0, 0⟩, ⟨false, 0, 0⟩, ⟨false, 0, 0⟩, ⟨false, 0, 0⟩, ⟨false, 0, 0⟩, ⟨false, 0, 0⟩, ⟨false, 0, 0⟩, ⟨false, 0, 0⟩, ⟨false, 0, 0⟩, ⟨false, 0, 0⟩, ⟨false, 0, 0⟩, ⟨false, 0, 0⟩, ⟨false, 0, 0⟩, ⟨false, 0, 0⟩, ⟨false, 0, 0⟩, ⟨false, 0, 0⟩, ⟨false, 0, 0⟩, ⟨false, 0, 0⟩, ⟨false, 0, 0⟩, ⟨false, 0, 0⟩]
theorem c21_d7 : drawFine c21_r7 c21_a7 c21_m7 = true := by decide +kernel
abbrev c21_r8 : List Ins := [
  ⟨some 2, none, .mov (.c (.bool false))⟩]
abbrev c21_r9 : List Ins := [
  ⟨some 84, none, .faddr 3 (.t 1)⟩,
  ⟨some 85, none, .load 1 false (.t 84)⟩,
  ⟨some 86, none, .mov (.t 4)⟩,
  ⟨some 87, none, .iaddr 2 (.t 85) (.t 86)⟩,
  ⟨some 88, none, .faddr 0 (.t 87)⟩,
  ⟨some 89, none, .load 1 false (.t 88)⟩,
  ⟨some 5, none, .mov (.t 89)⟩]
abbrev c21_r10 : List Ins := [
  ⟨some 90, none, .mov (.t 5)⟩,
  ⟨some 91, none, .len (.t 90)⟩,
  ⟨some 92, none, .bin .gtr (.t 91) (.c (.int .i64 0))⟩,
  ⟨some 93, none, .mov (.t 92)⟩,
  ⟨some 94, some (93, true), .mov (.t 5)⟩,
  ⟨some 95, some (93, true), .faddr 1 (.t 1)⟩,
  ⟨some 96, some (93, true), .load 1 false (.t 95)⟩,
  ⟨some 97, some (93, true), .call (.c (.fn 43 [] [])) [.t 94, .t 96]⟩,
  ⟨some 98, some (93, true), .un .not (.t 97)⟩,
  ⟨some 99, none, .pick (.t 93) (.t 98) (.c (.bool false))⟩]
abbrev c21_r11 : List Ins := [
  ⟨some 2, none, .mov (.c (.bool false))⟩]
abbrev c21_r12 : List Ins := [
  ⟨some 6, none, .mov (.c (.int .i64 0))⟩]
abbrev c21_r13 : List Ins := [
  ⟨some 100, none, .mov (.t 6)⟩,
  ⟨some 101, none, .mov (.t 5)⟩,
  ⟨some 102, none, .len (.t 101)⟩,
  ⟨some 103, none, .bin .lss (.t 100) (.t 102)⟩]
abbrev c21_r14 : List Ins := [
  ⟨some 106, none, .mov (.t 5)⟩,
  ⟨some 107, none, .mov (.t 6)⟩,
  ⟨some 108, none, .iaddr 9 (.t 106) (.t 107)⟩,
  ⟨some 109, none, .faddr 0 (.t 108)⟩,
  ⟨some 110, none, .load 1 false (.t 109)⟩,
  ⟨some 111, none, .bin .geq (.t 110) (.c (.int .i64 6))⟩]
abbrev c21_r15 : List Ins := [
  ⟨some 2, none, .mov (.c (.bool false))⟩]
abbrev c21_r16 : List Ins := [
  ⟨some 104, none, .mov (.t 6)⟩,
  ⟨some 105, none, .bin .add (.t 104) (.c (.int .i64 1))⟩,
  ⟨some 6, none, .mov (.t 105)⟩]
abbrev c21_l17 : IR := .seq (.seq (.reg c21_r13) (.cond (.t 103) (.skip) (.exit 2))) (.seq (.blk 3 (.seq (.reg c21_r14) (.cond (.t 111) (.seq (.reg c21_r15) (.ret)) (.skip)))) (.reg c21_r16))
abbrev c21_r18 : List Ins := [
  ⟨some 48, none, .mov (.t 4)⟩,
  ⟨some 49, none, .bin .add (.t 48) (.c (.int .i64 1))⟩,
  ⟨some 4, none, .mov (.t 49)⟩]
abbrev c21_l19 : IR := .seq (.seq (.reg c21_r6) (.cond (.t 47) (.skip) (.exit 0))) (.seq (.blk 1 (.seq (.seq (.dreg c21_r7 c21_a7) (.cond (.t 83) (.seq (.reg c21_r8) (.ret)) (.skip))) (.seq (.reg c21_r9) (.seq (.seq (.reg c21_r10) (.cond (.t 99) (.seq (.reg c21_r11) (.ret)) (.skip))) (.seq (.reg c21_r12) (.blk 2 (.loop c21_l17))))))) (.reg c21_r18))
abbrev c21_r20 : List Ins := [
  ⟨some 2, none, .mov (.c (.bool true))⟩]
abbrev c21 : IR := .seq (.reg c21_r1) (.seq (.reg c21_r2) (.seq (.seq (.reg c21_r3) (.cond (.t 44) (.seq (.reg c21_r4) (.ret)) (.skip))) (.seq (.seq (.reg c21_r5) (.blk 0 (.loop c21_l19))) (.seq (.reg c21_r20) (.ret)))))
abbrev F21 : FnA := ⟨112, c21, [.t 2]⟩
theorem ok21 : cFn Try.prog 21 = some F21 := by kernel_rfl
theorem hb21 : HasBody Try.prog 21 := ⟨_, Try.func21, by kernel_rfl, by kernel_rfl⟩
/-! ref09.Args -/
abbrev c22_r1 : List Ins := [
  ⟨some 2, none, .mov (.c (.bool false))⟩]
abbrev c22_r2 : List Ins := [
  ⟨some 3, none, .mov (.c (.int .i64 0))⟩]
abbrev c22_r3 : List Ins := [
  ⟨some 4, none, .mov (.t 3)⟩,
  ⟨some 5, none, .mov (.t 0)⟩,
  ⟨some 6, none, .len (.t 5)⟩,
  ⟨some 7, none, .bin .lss (.t 4) (.t 6)⟩]
abbrev c22_r4 : List Ins := [
  ⟨some 10, none, .mov (.t 0)⟩,
  ⟨some 11, none, .mov (.t 3)⟩,
  ⟨some 12, none, .iaddr 1 (.t 10) (.t 11)⟩,
  ⟨some 13, none, .load 1 false (.t 12)⟩,
  ⟨some 14, none, .bin .lss (.t 13) (.c (.int .i64 0))⟩,
  ⟨some 15, none, .mov (.t 14)⟩,
  ⟨some 16, some (15, false), .mov (.t 0)⟩,
  ⟨some 17, some (15, false), .mov (.t 3)⟩,
  ⟨some 18, some (15, false), .iaddr 1 (.t 16) (.t 17)⟩,
  ⟨some 19, some (15, false), .load 1 false (.t 18)⟩,
  ⟨some 20, some (15, false), .bin .gtr (.t 19) (.c (.int .i64 99))⟩,
  ⟨some 21, none, .pick (.t 15) (.c (.bool true)) (.t 20)⟩]
abbrev c22_r5 : List Ins := [
  ⟨some 2, none, .mov (.c (.bool false))⟩]
abbrev c22_r6 : List Ins := [
  ⟨some 8, none, .mov (.t 3)⟩,
  ⟨some 9, none, .bin .add (.t 8) (.c (.int .i64 1))⟩,
  ⟨some 3, none, .mov (.t 9)⟩]
abbrev c22_l7 : IR := .seq (.seq (.reg c22_r3) (.cond (.t 7) (.skip) (.exit 0))) (.seq (.blk 1 (.seq (.reg c22_r4) (.cond (.t 21) (.seq (.reg c22_r5) (.ret)) (.skip)))) (.reg c22_r6))
abbrev c22_r8 : List Ins := [
  ⟨some 22, none, .mov (.t 0)⟩,
  ⟨some 23, none, .len (.t 22)⟩,
  ⟨some 24, none, .bin .leq (.t 23) (.c (.int .i64 3))⟩,
  ⟨some 2, none, .mov (.t 24)⟩]
abbrev c22 : IR := .seq (.reg c22_r1) (.seq (.seq (.reg c22_r2) (.blk 0 (.loop c22_l7))) (.seq (.reg c22_r8) (.ret)))
abbrev F22 : FnA := ⟨25, c22, [.t 2]⟩
theorem ok22 : cFn Try.prog 22 = some F22 := by kernel_rfl
theorem hb22 : HasBody Try.prog 22 := ⟨_, Try.func22, by kernel_rfl, by kernel_rfl⟩
/-! ref04.Same -/
abbrev c23_r1 : List Ins := [
  ⟨some 4, none, .mov (.c (.bool false))⟩]
abbrev c23_r2 : List Ins := [
  ⟨some 6, none, .mov (.t 0)⟩,
  ⟨some 7, none, .len (.t 6)⟩,
  ⟨some 8, none, .mov (.t 1)⟩,
  ⟨some 9, none, .len (.t 8)⟩,
  ⟨some 10, none, .bin .neq (.t 7) (.t 9)⟩]
abbrev c23_r3 : List Ins := [
  ⟨some 4, none, .mov (.c (.bool false))⟩]
abbrev c23_r4 : List Ins := [
  ⟨some 5, none, .mov (.c (.int .i64 0))⟩]
abbrev c23_r5 : List Ins := [
  ⟨some 11, none, .mov (.t 5)⟩,
  ⟨some 12, none, .mov (.t 0)⟩,
  ⟨some 13, none, .len (.t 12)⟩,
  ⟨some 14, none, .bin .lss (.t 11) (.t 13)⟩]
abbrev c23_r6 : List Ins := [
  ⟨some 17, none, .mov (.t 0)⟩,
  ⟨some 18, none, .mov (.t 5)⟩,
  ⟨some 19, none, .iaddr 2 (.t 17) (.t 18)⟩,
  ⟨some 20, none, .load 2 true (.t 19)⟩,
  ⟨some 21, none, .mov (.t 1)⟩,
  ⟨some 22, none, .mov (.t 5)⟩,
  ⟨some 23, none, .iaddr 2 (.t 21) (.t 22)⟩,
  ⟨some 24, none, .load 2 true (.t 23)⟩,
  ⟨some 25, none, .eq [.i, .i] true true (.t 20) (.t 24)⟩]
def c23_a6 : List (List Nat) := [[], [], [0, 1], [2], [], [], [4, 5], [6], [3, 7]]
abbrev c23_m6 : List Am.Mark := [⟨false, 0, 0⟩, ⟨false, 0, 0⟩, ⟨false, 0, 0⟩, ⟨false, 0, 0⟩, ⟨false, 0, 0⟩, ⟨false, 0, 0⟩, ⟨false, 0, 0⟩, ⟨false, 0, 0⟩, ⟨false, 0, 0⟩]
theorem c23_d6 : drawFine c23_r6 c23_a6 c23_m6 = true := by decide +kernel
abbrev c23_r7 : List Ins := [
  ⟨some 4, none, .mov (.c (.bool false))⟩]
abbrev c23_r8 : List Ins := [
  ⟨some 15, none, .mov (.t 5)⟩,
  ⟨some 16, none, .bin .add (.t 15) (.c (.int .i64 1))⟩,
  ⟨some 5, none, .mov (.t 16)⟩]
abbrev c23_l9 : IR := .seq (.seq (.reg c23_r5) (.cond (.t 14) (.skip) (.exit 0))) (.seq (.blk 1 (.seq (.dreg c23_r6 c23_a6) (.cond (.t 25) (.seq (.reg c23_r7) (.ret)) (.skip)))) (.reg c23_r8))
abbrev c23_r10 : List Ins := [
  ⟨some 4, none, .mov (.c (.bool true))⟩]
abbrev c23 : IR := .seq (.reg c23_r1) (.seq (.seq (.reg c23_r2) (.cond (.t 10) (.seq (.reg c23_r3) (.ret)) (.skip))) (.seq (.seq (.reg c23_r4) (.blk 0 (.loop c23_l9))) (.seq (.reg c23_r10) (.ret))))
abbrev F23 : FnA := ⟨26, c23, [.t 4]⟩
theorem ok23 : cFn Try.prog 23 = some F23 := by kernel_rfl
theorem hb23 : HasBody Try.prog 23 := ⟨_, Try.func23, by kernel_rfl, by kernel_rfl⟩
/-! ref04.Plain -/
abbrev c24_r1 : List Ins := [
  ⟨some 2, none, .mov (.c (.sl .full []))⟩]
abbrev c24_r2 : List Ins := [
  ⟨some 3, none, .mov (.c (.sl .full []))⟩]
abbrev c24_r3 : List Ins := [
  ⟨some 4, none, .mov (.c (.int .i64 0))⟩]
abbrev c24_r4 : List Ins := [
  ⟨some 5, none, .mov (.t 4)⟩,
  ⟨some 6, none, .bin .lss (.t 5) (.c (.int .i64 1000))⟩]
abbrev c24_r5 : List Ins := [
  ⟨some 9, none, .mov (.t 0)⟩,
  ⟨some 10, none, .mov (.t 4)⟩,
  ⟨some 11, none, .nilck (.t 9)⟩,
  ⟨some 12, none, .iaddrA 1000 1 (.t 11) (.t 10)⟩,
  ⟨some 13, none, .load 1 false (.t 12)⟩,
  ⟨some 14, none, .un .not (.t 13)⟩]
abbrev c24_r6 : List Ins := [
  ⟨some 15, none, .mov (.t 4)⟩,
  ⟨some 16, none, .bin .gtr (.t 15) (.c (.int .i64 0))⟩,
  ⟨some 17, none, .mov (.t 16)⟩,
  ⟨some 18, some (17, true), .mov (.t 0)⟩,
  ⟨some 19, some (17, true), .mov (.t 4)⟩,
  ⟨some 20, some (17, true), .bin .sub (.t 19) (.c (.int .i64 1))⟩,
  ⟨some 21, some (17, true), .nilck (.t 18)⟩,
  ⟨some 22, some (17, true), .iaddrA 1000 1 (.t 21) (.t 20)⟩,
  ⟨some 23, some (17, true), .load 1 false (.t 22)⟩,
  ⟨some 24, none, .pick (.t 17) (.t 23) (.c (.bool false))⟩]
abbrev c24_r7 : List Ins := [
  ⟨some 25, none, .mov (.t 3)⟩,
  ⟨some 26, none, .mov (.t 3)⟩,
  ⟨some 27, none, .len (.t 26)⟩,
  ⟨some 28, none, .bin .sub (.t 27) (.c (.int .i64 1))⟩,
  ⟨some 29, none, .mov (.t 4)⟩,
  ⟨some 30, none, .iaddr 2 (.t 25) (.t 28)⟩,
  ⟨some 31, none, .faddr 1 (.t 30)⟩,
  ⟨none, none, .store 1 (.t 31) (.t 29)⟩]
abbrev c24_r8 : List Ins := [
  ⟨some 32, none, .mov (.t 3)⟩,
  ⟨some 33, none, .mov (.t 4)⟩,
  ⟨some 34, none, .mov (.t 4)⟩,
  ⟨some 35, none, .build [.int .i64 0, .int .i64 0] [(0, (1, .t 33)), (1, (1, .t 34))]⟩,
  ⟨some 36, none, .bsl 2 1 [.int .i64 0, .int .i64 0] [(0, .t 35)]⟩,
  ⟨some 37, none, .append 2 16 (.t 32) (.t 36)⟩,
  ⟨some 3, none, .mov (.t 37)⟩]
abbrev c24_r9 : List Ins := [
  ⟨some 7, none, .mov (.t 4)⟩,
  ⟨some 8, none, .bin .add (.t 7) (.c (.int .i64 1))⟩,
  ⟨some 4, none, .mov (.t 8)⟩]
abbrev c24_l10 : IR := .seq (.seq (.reg c24_r4) (.cond (.t 6) (.skip) (.exit 0))) (.seq (.blk 1 (.seq (.seq (.reg c24_r5) (.cond (.t 14) (.exit 1) (.skip))) (.seq (.reg c24_r6) (.cond (.t 24) (.reg c24_r7) (.reg c24_r8))))) (.reg c24_r9))
abbrev c24_r11 : List Ins := [
  ⟨some 38, none, .mov (.t 3)⟩,
  ⟨some 2, none, .mov (.t 38)⟩]
abbrev c24 : IR := .seq (.reg c24_r1) (.seq (.reg c24_r2) (.seq (.seq (.reg c24_r3) (.blk 0 (.loop c24_l10))) (.seq (.reg c24_r11) (.ret))))
abbrev F24 : FnA := ⟨39, c24, [.t 2]⟩
theorem ok24 : cFn Try.prog 24 = some F24 := by kernel_rfl
theorem hb24 : HasBody Try.prog 24 := ⟨_, Try.func24, by kernel_rfl, by kernel_rfl⟩
/-! ref11.Foot -/
abbrev c25_r1 : List Ins := [
  ⟨some 3, none, .box (.t 0)⟩,
  ⟨some 6, none, .mov (.c .nilptr)⟩]
abbrev c25_r2 : List Ins := [
  ⟨some 7, none, .alloc (List.replicate 1000 (.bool false))⟩]
abbrev c25_r3 : List Ins := [
  ⟨some 8, none, .mov (.c (.int .i64 0))⟩]
abbrev c25_r4 : List Ins := [
  ⟨some 11, none, .mov (.t 8)⟩,
  ⟨some 12, none, .faddr 2 (.t 3)⟩,
  ⟨some 13, none, .load 1 false (.t 12)⟩,
  ⟨some 14, none, .len (.t 13)⟩,
  ⟨some 15, none, .bin .lss (.t 11) (.t 14)⟩]
abbrev c25_r5 : List Ins := [
  ⟨some 18, none, .faddr 2 (.t 3)⟩,
  ⟨some 19, none, .load 1 false (.t 18)⟩,
  ⟨some 20, none, .mov (.t 8)⟩,
  ⟨some 21, none, .iaddr 2 (.t 19) (.t 20)⟩,
  ⟨some 22, none, .faddr 1 (.t 21)⟩,
  ⟨some 23, none, .load 1 false (.t 22)⟩,
  ⟨some 24, none, .mov (.t 1)⟩,
  ⟨some 25, none, .mov (.t 2)⟩,
  ⟨some 26, none, .call (.c (.fn 44 [] [])) [.t 23, .t 24, .t 25]⟩,
  ⟨some 9, none, .mov (.t 26)⟩]
abbrev c25_r6 : List Ins := [
  ⟨some 10, none, .mov (.c (.int .i64 0))⟩]
abbrev c25_r7 : List Ins := [
  ⟨some 27, none, .mov (.t 10)⟩,
  ⟨some 28, none, .bin .lss (.t 27) (.c (.int .i64 1000))⟩]
abbrev c25_r8 : List Ins := [
  ⟨some 31, none, .mov (.t 10)⟩,
  ⟨some 32, none, .mov (.t 10)⟩,
  ⟨some 33, none, .iaddrA 1000 1 (.t 7) (.t 32)⟩,
  ⟨some 34, none, .load 1 false (.t 33)⟩,
  ⟨some 35, none, .mov (.t 34)⟩,
  ⟨some 36, some (35, false), .mov (.t 9)⟩,
  ⟨some 37, some (35, false), .mov (.t 10)⟩,
  ⟨some 38, some (35, false), .nilck (.t 36)⟩,
  ⟨some 39, some (35, false), .iaddrA 1000 1 (.t 38) (.t 37)⟩,
  ⟨some 40, some (35, false), .load 1 false (.t 39)⟩,
  ⟨some 41, none, .pick (.t 35) (.c (.bool true)) (.t 40)⟩,
  ⟨some 42, none, .iaddrA 1000 1 (.t 7) (.t 31)⟩,
  ⟨none, none, .store 1 (.t 42) (.t 41)⟩]
abbrev c25_r9 : List Ins := [
  ⟨some 29, none, .mov (.t 10)⟩,
  ⟨some 30, none, .bin .add (.t 29) (.c (.int .i64 1))⟩,
  ⟨some 10, none, .mov (.t 30)⟩]
abbrev c25_l10 : IR := .seq (.seq (.reg c25_r7) (.cond (.t 28) (.skip) (.exit 2))) (.seq (.blk 3 (.reg c25_r8)) (.reg c25_r9))
abbrev c25_r11 : List Ins := [
  ⟨some 16, none, .mov (.t 8)⟩,
  ⟨some 17, none, .bin .add (.t 16) (.c (.int .i64 1))⟩,
  ⟨some 8, none, .mov (.t 17)⟩]
abbrev c25_l12 : IR := .seq (.seq (.reg c25_r4) (.cond (.t 15) (.skip) (.exit 0))) (.seq (.blk 1 (.seq (.reg c25_r5) (.seq (.reg c25_r6) (.blk 2 (.loop c25_l10))))) (.reg c25_r11))
abbrev c25_r13 : List Ins := [
  ⟨some 6, none, .mov (.t 7)⟩]
abbrev c25 : IR := .seq (.reg c25_r1) (.seq (.reg c25_r2) (.seq (.seq (.reg c25_r3) (.blk 0 (.loop c25_l12))) (.seq (.reg c25_r13) (.ret))))
abbrev F25 : FnA := ⟨43, c25, [.t 6]⟩
theorem ok25 : cFn Try.prog 25 = some F25 := by kernel_rfl
theorem hb25 : HasBody Try.prog 25 := ⟨_, Try.func25, by kernel_rfl, by kernel_rfl⟩
/-! ref10.May -/
abbrev c26_r1 : List Ins := [
  ⟨some 4, none, .mov (.c (.bool false))⟩]
abbrev c26_r2 : List Ins := [
  ⟨some 6, none, .mov (.t 1)⟩,
  ⟨some 7, none, .bin .lss (.t 6) (.c (.int .i64 0))⟩,
  ⟨some 8, none, .mov (.t 7)⟩,
  ⟨some 9, some (8, false), .mov (.t 1)⟩,
  ⟨some 10, some (8, false), .bin .gtr (.t 9) (.c (.int .i64 3))⟩,
  ⟨some 11, none, .pick (.t 8) (.c (.bool true)) (.t 10)⟩,
  ⟨some 12, none, .mov (.t 11)⟩,
  ⟨some 13, some (12, false), .mov (.t 0)⟩,
  ⟨some 14, some (12, false), .len (.t 13)⟩,
  ⟨some 15, some (12, false), .bin .gtr (.t 14) (.c (.int .i64 4))⟩,
  ⟨some 16, none, .pick (.t 12) (.c (.bool true)) (.t 15)⟩]
abbrev c26_r3 : List Ins := [
  ⟨some 4, none, .mov (.c (.bool false))⟩]
abbrev c26_r4 : List Ins := [
  ⟨some 5, none, .mov (.c (.int .i64 0))⟩]
abbrev c26_r5 : List Ins := [
  ⟨some 17, none, .mov (.t 5)⟩,
  ⟨some 18, none, .mov (.t 0)⟩,
  ⟨some 19, none, .len (.t 18)⟩,
  ⟨some 20, none, .bin .lss (.t 17) (.t 19)⟩]
abbrev c26_r6 : List Ins := [
  ⟨some 23, none, .mov (.t 0)⟩,
  ⟨some 24, none, .mov (.t 5)⟩,
  ⟨some 25, none, .iaddr 5 (.t 23) (.t 24)⟩,
  ⟨some 26, none, .faddr 0 (.t 25)⟩,
  ⟨some 27, none, .load 2 true (.t 26)⟩,
  ⟨some 28, none, .mov (.t 1)⟩,
  ⟨some 29, none, .call (.c (.fn 45 [] [])) [.t 27, .t 28]⟩,
  ⟨some 30, none, .un .not (.t 29)⟩,
  ⟨some 31, none, .mov (.t 30)⟩,
  ⟨some 32, some (31, false), .mov (.t 0)⟩,
  ⟨some 33, some (31, false), .mov (.t 5)⟩,
  ⟨some 34, some (31, false), .iaddr 5 (.t 32) (.t 33)⟩,
  ⟨some 35, some (31, false), .faddr 2 (.t 34)⟩,
  ⟨some 36, some (31, false), .load 2 true (.t 35)⟩,
  ⟨some 37, some (31, false), .mov (.t 1)⟩,
  ⟨some 38, some (31, false), .call (.c (.fn 45 [] [])) [.t 36, .t 37]⟩,
  ⟨some 39, some (31, false), .un .not (.t 38)⟩,
  ⟨some 40, none, .pick (.t 31) (.c (.bool true)) (.t 39)⟩]
abbrev c26_r7 : List Ins := [
  ⟨some 4, none, .mov (.c (.bool false))⟩]
abbrev c26_r8 : List Ins := [
  ⟨some 21, none, .mov (.t 5)⟩,
  ⟨some 22, none, .bin .add (.t 21) (.c (.int .i64 1))⟩,
  ⟨some 5, none, .mov (.t 22)⟩]
abbrev c26_l9 : IR := .seq (.seq (.reg c26_r5) (.cond (.t 20) (.skip) (.exit 0))) (.seq (.blk 1 (.seq (.reg c26_r6) (.cond (.t 40) (.seq (.reg c26_r7) (.ret)) (.skip)))) (.reg c26_r8))
abbrev c26_r10 : List Ins := [
  ⟨some 4, none, .mov (.c (.bool true))⟩]
abbrev c26 : IR := .seq (.reg c26_r1) (.seq (.seq (.reg c26_r2) (.cond (.t 16) (.seq (.reg c26_r3) (.ret)) (.skip))) (.seq (.seq (.reg c26_r4) (.blk 0 (.loop c26_l9))) (.seq (.reg c26_r10) (.ret))))
abbrev F26 : FnA := ⟨41, c26, [.t 4]⟩
theorem ok26 : cFn Try.prog 26 = some F26 := by kernel_rfl
theorem hb26 : HasBody Try.prog 26 := ⟨_, Try.func26, by kernel_rfl, by kernel_rfl⟩
/-! foot.Put -/
abbrev c27_r1 : List Ins := [
  ⟨some 6, none, .mov (.t 0)⟩,
  ⟨some 7, none, .mov (.t 1)⟩,
  ⟨some 8, none, .len (.t 7)⟩,
  ⟨some 9, none, .call (.c (.fn 46 [] [])) [.t 6, .t 8]⟩]
abbrev c27_r2 : List Ins := [
  ⟨some 10, none, .mov (.t 1)⟩,
  ⟨some 11, none, .len (.t 10)⟩,
  ⟨some 12, none, .mov (.c (.int .i64 0))⟩]
abbrev c27_r3 : List Ins := [
  ⟨some 13, none, .bin .lss (.t 12) (.t 11)⟩]
abbrev c27_r4 : List Ins := [
  ⟨some 14, none, .iaddr 5 (.t 10) (.t 12)⟩,
  ⟨some 15, none, .load 5 true (.t 14)⟩,
  ⟨some 5, none, .alloc [.int .i64 0, .int .i64 0, .int .i64 0, .int .i64 0, .bool false]⟩,
  ⟨none, none, .store 5 (.t 5) (.t 15)⟩]
abbrev c27_r5 : List Ins := [
  ⟨some 16, none, .mov (.t 0)⟩,
  ⟨some 17, none, .faddr 0 (.t 5)⟩,
  ⟨some 18, none, .load 2 true (.t 17)⟩,
  ⟨some 19, none, .faddr 2 (.t 5)⟩,
  ⟨some 20, none, .load 2 true (.t 19)⟩,
  ⟨some 21, none, .bsl 2 2 [.int .i64 0, .int .i64 0] [(0, .t 18), (1, .t 20)]⟩,
  ⟨some 22, none, .call (.c (.fn 47 [] [])) [.t 16, .t 21]⟩]
abbrev c27_r6 : List Ins := [
  ⟨some 23, none, .mov (.t 0)⟩,
  ⟨some 24, none, .faddr 4 (.t 5)⟩,
  ⟨some 25, none, .load 1 false (.t 24)⟩,
  ⟨some 26, none, .call (.c (.fn 48 [] [])) [.t 23, .t 25]⟩]
abbrev c27_r7 : List Ins := [
  ⟨some 27, none, .bin .add (.t 12) (.c (.int .i64 1))⟩,
  ⟨some 12, none, .mov (.t 27)⟩]
abbrev c27_l8 : IR := .seq (.reg c27_r3) (.seq (.cond (.t 13) (.skip) (.exit 0)) (.seq (.blk 1 (.seq (.reg c27_r4) (.seq (.reg c27_r5) (.reg c27_r6)))) (.reg c27_r7)))
abbrev c27 : IR := .seq (.reg c27_r1) (.seq (.reg c27_r2) (.blk 0 (.loop c27_l8)))
abbrev F27 : FnA := ⟨28, c27, []⟩
theorem ok27 : cFn Try.prog 27 = some F27 := by kernel_rfl
theorem hb27 : HasBody Try.prog 27 := ⟨_, Try.func27, by kernel_rfl, by kernel_rfl⟩
/-! codes.Writer.Done -/
abbrev c28_r1 : List Ins := [
  ⟨some 2, none, .mov (.c (.sl .full []))⟩]
abbrev c28_r2 : List Ins := [
  ⟨some 3, none, .mov (.t 0)⟩,
  ⟨some 4, none, .nilck (.t 3)⟩,
  ⟨some 5, none, .faddr 0 (.t 4)⟩,
  ⟨some 6, none, .load 1 false (.t 5)⟩,
  ⟨some 7, none, .call (.c (.fn 49 [] [])) [.t 6]⟩,
  ⟨some 2, none, .mov (.t 7)⟩]
abbrev c28 : IR := .seq (.reg c28_r1) (.seq (.reg c28_r2) (.ret))
abbrev F28 : FnA := ⟨8, c28, [.t 2]⟩
theorem ok28 : cFn Try.prog 28 = some F28 := by kernel_rfl
theorem hb28 : HasBody Try.prog 28 := ⟨_, Try.func28, by kernel_rfl, by kernel_rfl⟩
/-! ref01.Words -/
abbrev c29_r1 : List Ins := [
  ⟨some 4, none, .mov (.c (.bool false))⟩]
abbrev c29_r2 : List Ins := [
  ⟨some 6, none, .mov (.t 0)⟩,
  ⟨some 7, none, .len (.t 6)⟩,
  ⟨some 8, none, .mov (.t 1)⟩,
  ⟨some 9, none, .len (.t 8)⟩,
  ⟨some 10, none, .bin .neq (.t 7) (.t 9)⟩]
abbrev c29_r3 : List Ins := [
  ⟨some 4, none, .mov (.c (.bool false))⟩]
abbrev c29_r4 : List Ins := [
  ⟨some 5, none, .mov (.c (.int .i64 0))⟩]
abbrev c29_r5 : List Ins := [
  ⟨some 11, none, .mov (.t 5)⟩,
  ⟨some 12, none, .mov (.t 0)⟩,
  ⟨some 13, none, .len (.t 12)⟩,
  ⟨some 14, none, .bin .lss (.t 11) (.t 13)⟩]
abbrev c29_r6 : List Ins := [
  ⟨some 17, none, .mov (.t 0)⟩,
  ⟨some 18, none, .mov (.t 5)⟩,
  ⟨some 19, none, .iaddr 1 (.t 17) (.t 18)⟩,
  ⟨some 20, none, .load 1 false (.t 19)⟩,
  ⟨some 21, none, .mov (.t 1)⟩,
  ⟨some 22, none, .mov (.t 5)⟩,
  ⟨some 23, none, .iaddr 1 (.t 21) (.t 22)⟩,
  ⟨some 24, none, .load 1 false (.t 23)⟩,
  ⟨some 25, none, .bin .neq (.t 20) (.t 24)⟩]
def c29_a6 : List (List Nat) := [[], [], [0, 1], [2], [], [], [4, 5], [6], [3, 7]]
abbrev c29_m6 : List Am.Mark := [⟨false, 0, 0⟩, ⟨false, 0, 0⟩, ⟨false, 0, 0⟩, ⟨false, 0, 0⟩, ⟨false, 0, 0⟩, ⟨false, 0, 0⟩, ⟨false, 0, 0⟩, ⟨false, 0, 0⟩, ⟨false, 0, 0⟩]
theorem c29_d6 : drawFine c29_r6 c29_a6 c29_m6 = true := by decide +kernel
abbrev c29_r7 : List Ins := [
  ⟨some 4, none, .mov (.c (.bool false))⟩]
abbrev c29_r8 : List Ins := [
  ⟨some 15, none, .mov (.t 5)⟩,
  ⟨some 16, none, .bin .add (.t 15) (.c (.int .i64 1))⟩,
  ⟨some 5, none, .mov (.t 16)⟩]
abbrev c29_l9 : IR := .seq (.seq (.reg c29_r5) (.cond (.t 14) (.skip) (.exit 0))) (.seq (.blk 1 (.seq (.dreg c29_r6 c29_a6) (.cond (.t 25) (.seq (.reg c29_r7) (.ret)) (.skip)))) (.reg c29_r8))
abbrev c29_r10 : List Ins := [
  ⟨some 4, none, .mov (.c (.bool true))⟩]
abbrev c29 : IR := .seq (.reg c29_r1) (.seq (.seq (.reg c29_r2) (.cond (.t 10) (.seq (.reg c29_r3) (.ret)) (.skip))) (.seq (.seq (.reg c29_r4) (.blk 0 (.loop c29_l9))) (.seq (.reg c29_r10) (.ret))))
abbrev F29 : FnA := ⟨26, c29, [.t 4]⟩
theorem ok29 : cFn Try.prog 29 = some F29 := by kernel_rfl
theorem hb29 : HasBody Try.prog 29 := ⟨_, Try.func29, by kernel_rfl, by kernel_rfl⟩
/-! ref09.Words -/
abbrev c30_r1 : List Ins := [
  ⟨some 2, none, .mov (.c (.sl .full []))⟩]
abbrev c30_r2 : List Ins := [
  ⟨some 3, none, .mov (.c (.sl .full []))⟩]
abbrev c30_r3 : List Ins := [
  ⟨some 4, none, .mov (.c (.int .i64 0))⟩]
abbrev c30_r4 : List Ins := [
  ⟨some 5, none, .mov (.t 4)⟩,
  ⟨some 6, none, .mov (.t 0)⟩,
  ⟨some 7, none, .len (.t 6)⟩,
  ⟨some 8, none, .bin .lss (.t 5) (.t 7)⟩]
abbrev c30_r5 : List Ins := [
  ⟨some 11, none, .mov (.t 3)⟩,
  ⟨some 12, none, .mov (.t 0)⟩,
  ⟨some 13, none, .mov (.t 4)⟩,
  ⟨some 14, none, .iaddr 6 (.t 12) (.t 13)⟩,
  ⟨some 15, none, .load 6 true (.t 14)⟩,
  ⟨some 16, none, .call (.c (.fn 50 [] [])) [.t 11, .t 15]⟩,
  ⟨some 3, none, .mov (.t 16)⟩]
abbrev c30_r6 : List Ins := [
  ⟨some 9, none, .mov (.t 4)⟩,
  ⟨some 10, none, .bin .add (.t 9) (.c (.int .i64 1))⟩,
  ⟨some 4, none, .mov (.t 10)⟩]
abbrev c30_l7 : IR := .seq (.seq (.reg c30_r4) (.cond (.t 8) (.skip) (.exit 0))) (.seq (.blk 1 (.reg c30_r5)) (.reg c30_r6))
abbrev c30_r8 : List Ins := [
  ⟨some 17, none, .mov (.t 3)⟩,
  ⟨some 2, none, .mov (.t 17)⟩]
abbrev c30 : IR := .seq (.reg c30_r1) (.seq (.reg c30_r2) (.seq (.seq (.reg c30_r3) (.blk 0 (.loop c30_l7))) (.seq (.reg c30_r8) (.ret))))
abbrev F30 : FnA := ⟨18, c30, [.t 2]⟩
theorem ok30 : cFn Try.prog 30 = some F30 := by kernel_rfl
theorem hb30 : HasBody Try.prog 30 := ⟨_, Try.func30, by kernel_rfl, by kernel_rfl⟩
/-! ref10.Items -/
abbrev c31_r1 : List Ins := [
  ⟨some 2, none, .mov (.c (.sl .full []))⟩]
abbrev c31_r2 : List Ins := [
  ⟨some 6, none, .mov (.t 0)⟩,
  ⟨some 7, none, .len (.t 6)⟩,
  ⟨some 8, none, .build [.int .i64 0, .int .i64 0, .int .i64 0, .int .i64 0, .str ⟨#[]⟩, .sl .full []] [(1, (1, .t 7)), (2, (1, .c (.int .i64 4)))]⟩,
  ⟨some 9, none, .bsl 6 1 [.int .i64 0, .int .i64 0, .int .i64 0, .int .i64 0, .str ⟨#[]⟩, .sl .full []] [(0, .t 8)]⟩,
  ⟨some 3, none, .mov (.t 9)⟩]
abbrev c31_r3 : List Ins := [
  ⟨some 4, none, .mov (.c (.int .i64 0))⟩]
abbrev c31_r4 : List Ins := [
  ⟨some 10, none, .mov (.t 4)⟩,
  ⟨some 11, none, .mov (.t 0)⟩,
  ⟨some 12, none, .len (.t 11)⟩,
  ⟨some 13, none, .bin .lss (.t 10) (.t 12)⟩]
abbrev c31_r5 : List Ins := [
  ⟨some 5, none, .mov (.c (.int .i64 0))⟩]
abbrev c31_r6 : List Ins := [
  ⟨some 16, none, .mov (.t 0)⟩,
  ⟨some 17, none, .mov (.t 4)⟩,
  ⟨some 18, none, .iaddr 5 (.t 16) (.t 17)⟩,
  ⟨some 19, none, .faddr 4 (.t 18)⟩,
  ⟨some 20, none, .load 1 false (.t 19)⟩]
abbrev c31_r7 : List Ins := [
  ⟨some 5, none, .mov (.c (.int .i64 1))⟩]
abbrev c31_r8 : List Ins := [
  ⟨some 21, none, .mov (.t 3)⟩,
  ⟨some 22, none, .mov (.t 0)⟩,
  ⟨some 23, none, .mov (.t 4)⟩,
  ⟨some 24, none, .iaddr 5 (.t 22) (.t 23)⟩,
  ⟨some 25, none, .faddr 0 (.t 24)⟩,
  ⟨some 26, none, .faddr 0 (.t 25)⟩,
  ⟨some 27, none, .load 1 false (.t 26)⟩,
  ⟨some 28, none, .build [.int .i64 0, .int .i64 0, .int .i64 0, .int .i64 0, .str ⟨#[]⟩, .sl .full []] [(0, (1, .c (.int .i64 1))), (3, (1, .t 27))]⟩,
  ⟨some 29, none, .mov (.t 0)⟩,
  ⟨some 30, none, .mov (.t 4)⟩,
  ⟨some 31, none, .iaddr 5 (.t 29) (.t 30)⟩,
  ⟨some 32, none, .faddr 0 (.t 31)⟩,
  ⟨some 33, none, .faddr 1 (.t 32)⟩,
  ⟨some 34, none, .load 1 false (.t 33)⟩,
  ⟨some 35, none, .build [.int .i64 0, .int .i64 0, .int .i64 0, .int .i64 0, .str ⟨#[]⟩, .sl .full []] [(1, (1, .t 34)), (2, (1, .c (.int .i64 999)))]⟩,
  ⟨some 36, none, .mov (.t 0)⟩,
  ⟨some 37, none, .mov (.t 4)⟩,
  ⟨some 38, none, .iaddr 5 (.t 36) (.t 37)⟩,
  ⟨some 39, none, .faddr 2 (.t 38)⟩,
  ⟨some 40, none, .faddr 0 (.t 39)⟩,
  ⟨some 41, none, .load 1 false (.t 40)⟩,
  ⟨some 42, none, .build [.int .i64 0, .int .i64 0, .int .i64 0, .int .i64 0, .str ⟨#[]⟩, .sl .full []] [(0, (1, .c (.int .i64 1))), (3, (1, .t 41))]⟩,
  ⟨some 43, none, .mov (.t 0)⟩,
  ⟨some 44, none, .mov (.t 4)⟩,
  ⟨some 45, none, .iaddr 5 (.t 43) (.t 44)⟩,
  ⟨some 46, none, .faddr 2 (.t 45)⟩,
  ⟨some 47, none, .faddr 1 (.t 46)⟩,
  ⟨some 48, none, .load 1 false (.t 47)⟩,
  ⟨some 49, none, .build [.int .i64 0, .int .i64 0, .int .i64 0, .int .i64 0, .str ⟨#[]⟩, .sl .full []] [(1, (1, .t 48)), (2, (1, .c (.int .i64 999)))]⟩,
  ⟨some 50, none, .mov (.t 5)⟩,
  ⟨some 51, none, .build [.int .i64 0, .int .i64 0, .int .i64 0, .int .i64 0, .str ⟨#[]⟩, .sl .full []] [(0, (1, .c (.int .i64 2))), (1, (1, .t 50))]⟩,
  ⟨some 52, none, .bsl 6 5 [.int .i64 0, .int .i64 0, .int .i64 0, .int .i64 0, .str ⟨#[]⟩, .sl .full []] [(0, .t 28), (1, .t 35), (2, .t 42), (3, .t 49), (4, .t 51)]⟩,
  ⟨some 53, none, .append 6 72 (.t 21) (.t 52)⟩,
  ⟨some 3, none, .mov (.t 53)⟩]
def c31_a8 : List (List Nat) := [[], [], [], [1, 2], [3], [4], [5], [6], [], [], [8, 9], [10], [11], [12], [13], [], [], [15, 16], [17], [18], [19], [20], [], [], [22, 23], [24], [25], [26], [27], [], [29], [7, 14, 21, 28, 30], [0, 31], [32, 32, 0, 1, 2, 3, 4, 5, 6, 7, 8, 9, 10, 11, 12, 13, 14, 15, 16, 17, 18, 19, 20, 21, 22, 23, 24, 25, 26, 27, 28, 29, 30, 31, 32]]
abbrev c31_m8 : List Am.Mark := [⟨false, 0, 0⟩, ⟨false, 0, 1⟩, ⟨false, 0, 1⟩, ⟨false, 0, 1⟩, ⟨false, 0, 1⟩, ⟨false, 0, 1⟩, ⟨false, 0, 1⟩, ⟨false, 0, 1⟩, ⟨false, 0, 1⟩, ⟨false, 0, 1⟩, ⟨false, 0, 1⟩, ⟨false, 0, 1⟩, ⟨false, 0, 1⟩, ⟨false, 0, 1⟩, ⟨false, 0, 1⟩, ⟨false, 0, 1⟩, ⟨false, 0, 1⟩, ⟨false, 0, 1⟩, ⟨false, 0, 1⟩, ⟨false, 0, 1⟩, ⟨false, 0, 1⟩, ⟨false, 0, 1⟩, ⟨false, 0, 1⟩, ⟨false, 0, 1⟩, ⟨false, 0, 1⟩, ⟨false, 0, 1⟩, ⟨false, 0, 1⟩, ⟨false, 0, 1⟩, ⟨false, 0, 1⟩, ⟨false, 0, 1⟩, ⟨false, 0, 1⟩, ⟨false, 0, 0⟩, ⟨true, 0, 1⟩, ⟨false, 1, 1⟩]
theorem c31_d8 : drawFine c31_r8 c31_a8 c31_m8 = true := by decide +kernel
abbrev c31_r9 : List Ins := [
  ⟨some 14, none, .mov (.t 4)⟩,
  ⟨some 15, none, .bin .add (.t 14) (.c (.int .i64 1))⟩,
  ⟨some 4, none, .mov (.t 15)⟩]
abbrev c31_l10 : IR := .seq (.seq (.reg c31_r4) (.cond (.t 13) (.skip) (.exit 0))) (.seq (.blk 1 (.seq (.reg c31_r5) (.seq (.seq (.reg c31_r6) (.cond (.t 20) (.reg c31_r7) (.skip))) (.dreg c31_r8 c31_a8)))) (.reg c31_r9))
abbrev c31_r11 : List Ins := [
  ⟨some 54, none, .mov (.t 3)⟩,
  ⟨some 2, none, .mov (.t 54)⟩]
abbrev c31 : IR := .seq (.reg c31_r1) (.seq (.reg c31_r2) (.seq (.seq (.reg c31_r3) (.blk 0 (.loop c31_l10))) (.seq (.reg c31_r11) (.ret))))
abbrev F31 : FnA := ⟨55, c31, [.t 2]⟩
theorem ok31 : cFn Try.prog 31 = some F31 := by kernel_rfl
theorem hb31 : HasBody Try.prog 31 := ⟨_, Try.func31, by kernel_rfl, by kernel_rfl⟩
/-! foot.Spans -/
abbrev c32_r1 : List Ins := [
  ⟨some 4, none, .mov (.c (.sl .full []))⟩,
  ⟨some 5, none, .mov (.c (.sl .full []))⟩,
  ⟨some 6, none, .mov (.c (.bool false))⟩]
abbrev c32_r2 : List Ins := [
  ⟨some 9, none, .mov (.t 0)⟩,
  ⟨some 10, none, .mov (.t 1)⟩,
  ⟨some 11, none, .call (.c (.fn 51 [] [])) [.t 9, .t 10]⟩,
  ⟨some 12, none, .un .not (.t 11)⟩]
abbrev c32_r3 : List Ins := [
  ⟨some 4, none, .mov (.c (.sl .full []))⟩,
  ⟨some 5, none, .mov (.c (.sl .full []))⟩,
  ⟨some 6, none, .mov (.c (.bool false))⟩]
abbrev c32_r4 : List Ins := [
  ⟨some 7, none, .mov (.c (.fn 52 [] []))⟩]
abbrev c32_r5 : List Ins := [
  ⟨some 8, none, .mov (.c (.fn 53 [] []))⟩]
abbrev c32_r6 : List Ins := [
  ⟨some 13, none, .mov (.t 0)⟩,
  ⟨some 14, none, .mov (.t 1)⟩,
  ⟨some 15, none, .mov (.t 7)⟩,
  ⟨some 16, none, .call (.c (.fn 54 [] [])) [.t 13, .t 14, .t 15]⟩,
  ⟨some 17, none, .mov (.t 0)⟩,
  ⟨some 18, none, .mov (.t 1)⟩,
  ⟨some 19, none, .mov (.t 8)⟩,
  ⟨some 20, none, .call (.c (.fn 54 [] [])) [.t 17, .t 18, .t 19]⟩,
  ⟨some 4, none, .mov (.t 16)⟩,
  ⟨some 5, none, .mov (.t 20)⟩,
  ⟨some 6, none, .mov (.c (.bool true))⟩]
abbrev c32 : IR := .seq (.reg c32_r1) (.seq (.seq (.reg c32_r2) (.cond (.t 12) (.seq (.reg c32_r3) (.ret)) (.skip))) (.seq (.reg c32_r4) (.seq (.reg c32_r5) (.seq (.reg c32_r6) (.ret)))))
abbrev F32 : FnA := ⟨21, c32, [.t 4, .t 5, .t 6]⟩
theorem ok32 : cFn Try.prog 32 = some F32 := by kernel_rfl
theorem hb32 : HasBody Try.prog 32 := ⟨_, Try.func32, by kernel_rfl, by kernel_rfl⟩
/-! keys.Inside -/
abbrev c33_r1 : List Ins := [
  ⟨some 4, none, .mov (.c (.bool false))⟩]
abbrev c33_r2 : List Ins := [
  ⟨some 5, none, .mov (.t 0)⟩,
  ⟨some 6, none, .mov (.t 1)⟩,
  ⟨some 7, none, .call (.c (.fn 55 [] [])) [.t 5, .t 6]⟩,
  ⟨some 8, none, .len (.t 7)⟩,
  ⟨some 9, none, .bin .eql (.t 8) (.c (.int .i64 0))⟩,
  ⟨some 4, none, .mov (.t 9)⟩]
abbrev c33 : IR := .seq (.reg c33_r1) (.seq (.reg c33_r2) (.ret))
abbrev F33 : FnA := ⟨10, c33, [.t 4]⟩
theorem ok33 : cFn Try.prog 33 = some F33 := by kernel_rfl
theorem hb33 : HasBody Try.prog 33 := ⟨_, Try.func33, by kernel_rfl, by kernel_rfl⟩
/-! class.May -/
abbrev c38_r1 : List Ins := [
  ⟨some 1, none, .box (.t 0)⟩,
  ⟨some 2, none, .alloc [.bool false]⟩]
abbrev c38_r2 : List Ins := [
  ⟨some 6, none, .faddr 2 (.t 1)⟩,
  ⟨some 7, none, .load 1 false (.t 6)⟩,
  ⟨some 8, none, .len (.t 7)⟩,
  ⟨some 3, none, .mov (.t 8)⟩]
abbrev c38_r3 : List Ins := [
  ⟨some 9, none, .faddr 0 (.t 1)⟩,
  ⟨some 10, none, .load 1 false (.t 9)⟩,
  ⟨some 11, none, .lenS (.t 10)⟩,
  ⟨some 12, none, .bin .lss (.t 11) (.c (.int .i64 1))⟩,
  ⟨some 13, none, .mov (.t 12)⟩,
  ⟨some 14, some (13, false), .faddr 0 (.t 1)⟩,
  ⟨some 15, some (13, false), .load 1 false (.t 14)⟩,
  ⟨some 16, some (13, false), .lenS (.t 15)⟩,
  ⟨some 17, some (13, false), .bin .gtr (.t 16) (.c (.int .i64 16))⟩,
  ⟨some 18, none, .pick (.t 13) (.c (.bool true)) (.t 17)⟩,
  ⟨some 19, none, .mov (.t 18)⟩,
  ⟨some 20, some (19, false), .faddr 1 (.t 1)⟩,
  ⟨some 21, some (19, false), .load 1 false (.t 20)⟩,
  ⟨some 22, some (19, false), .bin .lss (.t 21) (.c (.int .i64 0))⟩,
  ⟨some 23, none, .pick (.t 19) (.c (.bool true)) (.t 22)⟩,
  ⟨some 24, none, .mov (.t 23)⟩,
  ⟨some 25, some (24, false), .faddr 1 (.t 1)⟩,
  ⟨some 26, some (24, false), .load 1 false (.t 25)⟩,
  ⟨some 27, some (24, false), .bin .gtr (.t 26) (.c (.int .i64 3))⟩,
  ⟨some 28, none, .pick (.t 24) (.c (.bool true)) (.t 27)⟩,
  ⟨some 29, none, .mov (.t 28)⟩,
  ⟨some 30, some (29, false), .mov (.t 3)⟩,
  ⟨some 31, some (29, false), .bin .lss (.t 30) (.c (.int .i64 1))⟩,
  ⟨some 32, none, .pick (.t 29) (.c (.bool true)) (.t 31)⟩,
  ⟨some 33, none, .mov (.t 32)⟩,
  ⟨some 34, some (33, false), .mov (.t 3)⟩,
  ⟨some 35, some (33, false), .bin .gtr (.t 34) (.c (.int .i64 4))⟩,
  ⟨some 36, none, .pick (.t 33) (.c (.bool true)) (.t 35)⟩,
  ⟨some 37, none, .mov (.t 36)⟩,
  ⟨some 38, some (37, false), .faddr 3 (.t 1)⟩,
  ⟨some 39, some (37, false), .load 1 false (.t 38)⟩,
  ⟨some 40, some (37, false), .len (.t 39)⟩,
  ⟨some 41, some (37, false), .mov (.t 3)⟩,
  ⟨some 42, some (37, false), .bin .neq (.t 40) (.t 41)⟩,
  ⟨some 43, none, .pick (.t 37) (.c (.bool true)) (.t 42)⟩]
abbrev c38_r4 : List Ins := [
  ⟨none, none, .store 1 (.t 2) (.c (.bool false))⟩]
abbrev c38_r5 : List Ins := [
  ⟨some 44, none, .load 5 true (.t 1)⟩,
  ⟨some 45, none, .call (.c (.fn 60 [] [])) [.t 44]⟩]
abbrev c38_r6 : List Ins := [
  ⟨some 4, none, .alloc [.sl .full [], .sl .full []]⟩,
  ⟨none, none, .store 2 (.t 4) (.t 46)⟩]
abbrev c38_r7 : List Ins := [
  ⟨some 5, none, .alloc [.sl .full [], .sl .full []]⟩,
  ⟨none, none, .store 2 (.t 5) (.t 47)⟩]
abbrev c38_r8 : List Ins := [
  ⟨some 48, none, .faddr 0 (.t 4)⟩,
  ⟨some 49, none, .load 1 false (.t 48)⟩,
  ⟨some 50, none, .faddr 1 (.t 1)⟩,
  ⟨some 51, none, .load 1 false (.t 50)⟩,
  ⟨some 52, none, .call (.c (.fn 61 [] [])) [.t 49, .t 51]⟩,
  ⟨some 53, none, .un .not (.t 52)⟩,
  ⟨some 54, none, .mov (.t 53)⟩,
  ⟨some 55, some (54, false), .faddr 1 (.t 4)⟩,
  ⟨some 56, some (54, false), .load 1 false (.t 55)⟩,
  ⟨some 57, some (54, false), .faddr 1 (.t 1)⟩,
  ⟨some 58, some (54, false), .load 1 false (.t 57)⟩,
  ⟨some 59, some (54, false), .call (.c (.fn 62 [] [])) [.t 56, .t 58]⟩,
  ⟨some 60, some (54, false), .un .not (.t 59)⟩,
  ⟨some 61, none, .pick (.t 54) (.c (.bool true)) (.t 60)⟩,
  ⟨some 62, none, .mov (.t 61)⟩,
  ⟨some 63, some (62, false), .load 2 true (.t 5)⟩,
  ⟨some 64, some (62, false), .faddr 1 (.t 1)⟩,
  ⟨some 65, some (62, false), .load 1 false (.t 64)⟩,
  ⟨some 66, some (62, false), .call (.c (.fn 63 [] [])) [.t 63, .t 65]⟩,
  ⟨some 67, some (62, false), .un .not (.t 66)⟩,
  ⟨some 68, none, .pick (.t 62) (.c (.bool true)) (.t 67)⟩]
abbrev c38_r9 : List Ins := [
  ⟨none, none, .store 1 (.t 2) (.c (.bool false))⟩]
abbrev c38_x10 : IR := .seq (.reg c38_r6) (.reg c38_r7)
abbrev c38_y11 : IR := .blk 1 (.seq (.reg c38_r8) (.cond (.t 68) (.seq (.reg c38_r9) (.ret)) (.skip)))
abbrev c38_r12 : List Ins := [
  ⟨none, none, .store 1 (.t 2) (.c (.bool true))⟩]
abbrev c38 : IR := .seq (.reg c38_r1) (.seq (.reg c38_r2) (.seq (.seq (.reg c38_r3) (.cond (.t 43) (.seq (.reg c38_r4) (.ret)) (.skip))) (.seq (.seq (.reg c38_r5) (.blk 0 (.rngf (.t 45) [46, 47] c38_x10 c38_y11))) (.seq (.reg c38_r12) (.ret)))))
abbrev F38 : FnA := ⟨69, c38, [.cell 2 1 false]⟩
theorem ok38 : cFn Try.prog 38 = some F38 := by kernel_rfl
theorem hb38 : HasBody Try.prog 38 := ⟨_, Try.func38, by kernel_rfl, by kernel_rfl⟩
/-! keys.Union -/
abbrev c39_r1 : List Ins := [
  ⟨some 4, none, .mov (.c (.sl .full []))⟩]
abbrev c39_r2 : List Ins := [
  ⟨some 5, none, .mov (.t 0)⟩,
  ⟨some 6, none, .mov (.t 1)⟩,
  ⟨some 7, none, .bsl 1 2 [.sl .full []] [(0, .t 5), (1, .t 6)]⟩,
  ⟨some 8, none, .call (.c (.fn 64 [] [])) [.t 7]⟩,
  ⟨some 4, none, .mov (.t 8)⟩]
abbrev c39 : IR := .seq (.reg c39_r1) (.seq (.reg c39_r2) (.ret))
abbrev F39 : FnA := ⟨9, c39, [.t 4]⟩
theorem ok39 : cFn Try.prog 39 = some F39 := by kernel_rfl
theorem hb39 : HasBody Try.prog 39 := ⟨_, Try.func39, by kernel_rfl, by kernel_rfl⟩
/-! slices.EqualFunc:Step -/
abbrev c40_r1 : List Ins := [
  ⟨some 6, none, .mov (.c (.bool false))⟩]
abbrev c40_r2 : List Ins := [
  ⟨some 10, none, .mov (.t 0)⟩,
  ⟨some 11, none, .len (.t 10)⟩,
  ⟨some 12, none, .mov (.t 1)⟩,
  ⟨some 13, none, .len (.t 12)⟩,
  ⟨some 14, none, .bin .neq (.t 11) (.t 13)⟩]
abbrev c40_r3 : List Ins := [
  ⟨some 6, none, .mov (.c (.bool false))⟩]
abbrev c40_r4 : List Ins := [
  ⟨some 15, none, .mov (.t 0)⟩,
  ⟨some 16, none, .len (.t 15)⟩,
  ⟨some 17, none, .mov (.c (.int .i64 0))⟩]
abbrev c40_r5 : List Ins := [
  ⟨some 18, none, .bin .lss (.t 17) (.t 16)⟩]
abbrev c40_r6 : List Ins := [
  ⟨some 19, none, .mov (.t 17)⟩,
  ⟨some 20, none, .iaddr 2 (.t 15) (.t 17)⟩,
  ⟨some 21, none, .load 2 true (.t 20)⟩,
  ⟨some 8, none, .alloc [.sl .full [], .sl .full []]⟩,
  ⟨some 7, none, .mov (.t 19)⟩,
  ⟨none, none, .store 2 (.t 8) (.t 21)⟩]
abbrev c40_r7 : List Ins := [
  ⟨some 22, none, .mov (.t 1)⟩,
  ⟨some 23, none, .mov (.t 7)⟩,
  ⟨some 24, none, .iaddr 2 (.t 22) (.t 23)⟩,
  ⟨some 25, none, .load 2 true (.t 24)⟩,
  ⟨some 9, none, .alloc [.sl .full [], .sl .full []]⟩,
  ⟨none, none, .store 2 (.t 9) (.t 25)⟩]
abbrev c40_r8 : List Ins := [
  ⟨some 26, none, .mov (.t 2)⟩,
  ⟨some 27, none, .load 2 true (.t 8)⟩,
  ⟨some 28, none, .load 2 true (.t 9)⟩,
  ⟨some 29, none, .call (.t 26) [.t 27, .t 28]⟩,
  ⟨some 30, none, .un .not (.t 29)⟩]
abbrev c40_r9 : List Ins := [
  ⟨some 6, none, .mov (.c (.bool false))⟩]
abbrev c40_r10 : List Ins := [
  ⟨some 31, none, .bin .add (.t 17) (.c (.int .i64 1))⟩,
  ⟨some 17, none, .mov (.t 31)⟩]
abbrev c40_l11 : IR := .seq (.reg c40_r5) (.seq (.cond (.t 18) (.skip) (.exit 0)) (.seq (.blk 1 (.seq (.reg c40_r6) (.seq (.reg c40_r7) (.seq (.reg c40_r8) (.cond (.t 30) (.seq (.reg c40_r9) (.ret)) (.skip)))))) (.reg c40_r10)))
abbrev c40_r12 : List Ins := [
  ⟨some 6, none, .mov (.c (.bool true))⟩]
abbrev c40 : IR := .seq (.reg c40_r1) (.seq (.seq (.reg c40_r2) (.cond (.t 14) (.seq (.reg c40_r3) (.ret)) (.skip))) (.seq (.seq (.reg c40_r4) (.blk 0 (.loop c40_l11))) (.seq (.reg c40_r12) (.ret))))
abbrev F40 : FnA := ⟨32, c40, [.t 6]⟩
theorem ok40 : cFn Try.prog 40 = some F40 := by kernel_rfl
theorem hb40 : HasBody Try.prog 40 := ⟨_, Try.func40, by kernel_rfl, by kernel_rfl⟩
/-! class.sameStep -/
abbrev c41_r1 : List Ins := [
  ⟨some 2, none, .box (.t 0)⟩,
  ⟨some 3, none, .box (.t 1)⟩,
  ⟨some 4, none, .mov (.c (.bool false))⟩]
abbrev c41_r2 : List Ins := [
  ⟨some 5, none, .faddr 0 (.t 2)⟩,
  ⟨some 6, none, .load 1 false (.t 5)⟩,
  ⟨some 7, none, .faddr 0 (.t 3)⟩,
  ⟨some 8, none, .load 1 false (.t 7)⟩,
  ⟨some 9, none, .call (.c (.fn 65 [] [])) [.t 6, .t 8]⟩,
  ⟨some 10, none, .mov (.t 9)⟩,
  ⟨some 11, some (10, true), .faddr 1 (.t 2)⟩,
  ⟨some 12, some (10, true), .load 1 false (.t 11)⟩,
  ⟨some 13, some (10, true), .faddr 1 (.t 3)⟩,
  ⟨some 14, some (10, true), .load 1 false (.t 13)⟩,
  ⟨some 15, some (10, true), .call (.c (.fn 66 [] [])) [.t 12, .t 14]⟩,
  ⟨some 16, none, .pick (.t 10) (.t 15) (.c (.bool false))⟩,
  ⟨some 4, none, .mov (.t 16)⟩]
abbrev c41 : IR := .seq (.reg c41_r1) (.seq (.reg c41_r2) (.ret))
abbrev F41 : FnA := ⟨17, c41, [.t 4]⟩
theorem ok41 : cFn Try.prog 41 = some F41 := by kernel_rfl
theorem hb41 : HasBody Try.prog 41 := ⟨_, Try.func41, by kernel_rfl, by kernel_rfl⟩
/-! ref11.steps -/
abbrev c42_r1 : List Ins := [
  ⟨some 4, none, .mov (.c (.bool false))⟩]
abbrev c42_r2 : List Ins := [
  ⟨some 6, none, .mov (.t 0)⟩,
  ⟨some 7, none, .len (.t 6)⟩,
  ⟨some 8, none, .mov (.t 1)⟩,
  ⟨some 9, none, .len (.t 8)⟩,
  ⟨some 10, none, .bin .neq (.t 7) (.t 9)⟩]
abbrev c42_r3 : List Ins := [
  ⟨some 4, none, .mov (.c (.bool false))⟩]
abbrev c42_r4 : List Ins := [
  ⟨some 5, none, .mov (.c (.int .i64 0))⟩]
abbrev c42_r5 : List Ins := [
  ⟨some 11, none, .mov (.t 5)⟩,
  ⟨some 12, none, .mov (.t 0)⟩,
  ⟨some 13, none, .len (.t 12)⟩,
  ⟨some 14, none, .bin .lss (.t 11) (.t 13)⟩]
abbrev c42_r6 : List Ins := [
  ⟨some 17, none, .mov (.t 0)⟩,
  ⟨some 18, none, .mov (.t 5)⟩,
  ⟨some 19, none, .iaddr 2 (.t 17) (.t 18)⟩,
  ⟨some 20, none, .faddr 0 (.t 19)⟩,
  ⟨some 21, none, .load 1 false (.t 20)⟩,
  ⟨some 22, none, .mov (.t 1)⟩,
  ⟨some 23, none, .mov (.t 5)⟩,
  ⟨some 24, none, .iaddr 2 (.t 22) (.t 23)⟩,
  ⟨some 25, none, .faddr 0 (.t 24)⟩,
  ⟨some 26, none, .load 1 false (.t 25)⟩,
  ⟨some 27, none, .call (.c (.fn 67 [] [])) [.t 21, .t 26]⟩,
  ⟨some 28, none, .un .not (.t 27)⟩,
  ⟨some 29, none, .mov (.t 28)⟩,
  ⟨some 30, some (29, false), .mov (.t 0)⟩,
  ⟨some 31, some (29, false), .mov (.t 5)⟩,
  ⟨some 32, some (29, false), .iaddr 2 (.t 30) (.t 31)⟩,
  ⟨some 33, some (29, false), .faddr 1 (.t 32)⟩,
  ⟨some 34, some (29, false), .load 1 false (.t 33)⟩,
  ⟨some 35, some (29, false), .mov (.t 1)⟩,
  ⟨some 36, some (29, false), .mov (.t 5)⟩,
  ⟨some 37, some (29, false), .iaddr 2 (.t 35) (.t 36)⟩,
  ⟨some 38, some (29, false), .faddr 1 (.t 37)⟩,
  ⟨some 39, some (29, false), .load 1 false (.t 38)⟩,
  ⟨some 40, some (29, false), .call (.c (.fn 13 [] [])) [.t 34, .t 39]⟩,
  ⟨some 41, some (29, false), .un .not (.t 40)⟩,
  ⟨some 42, none, .pick (.t 29) (.c (.bool true)) (.t 41)⟩]
def c42_a6 : List (List Nat) := [[], [], [0, 1], [2], [3], [], [], [5, 6], [7], [8], [4, 9], [10], [11, 10], [12], [12], [13, 14, 12], [15, 12], [16, 12], [12], [12], [18, 19, 12], [20, 12], [21, 12], [17, 22, 12, 12], [23, 12], [12, 24]]
abbrev c42_m6 : List Am.Mark := [⟨false, 0, 0⟩, ⟨false, 0, 0⟩, ⟨false, 0, 0⟩, ⟨false, 0, 0⟩, ⟨false, 0, 0⟩, ⟨false, 0, 0⟩, ⟨false, 0, 0⟩, ⟨false, 0, 0⟩, ⟨false, 0, 0⟩, ⟨false, 0, 0⟩, ⟨false, 0, 0⟩, ⟨false, 0, 0⟩, ⟨false, 0, 0⟩, ⟨false, 0, 0⟩, ⟨false, 0, 0⟩, ⟨false, 0, 0⟩, ⟨false, 0, 0⟩, ⟨false, 0, 0⟩, ⟨false, 0, 0⟩, ⟨false, 0, 0⟩, ⟨false, 0, 0⟩, ⟨false, 0, 0⟩, ⟨false, 0, 0⟩, ⟨false, 0, 0⟩, ⟨false, 0, 0⟩, ⟨false, 0, 0⟩]
theorem c42_d6 : drawFine c42_r6 c42_a6 c42_m6 = true := by decide +kernel
abbrev c42_r7 : List Ins := [
  ⟨some 4, none, .mov (.c (.bool false))⟩]
abbrev c42_r8 : List Ins := [
  ⟨some 15, none, .mov (.t 5)⟩,
  ⟨some 16, none, .bin .add (.t 15) (.c (.int .i64 1))⟩,
  ⟨some 5, none, .mov (.t 16)⟩]
abbrev c42_l9 : IR := .seq (.seq (.reg c42_r5) (.cond (.t 14) (.skip) (.exit 0))) (.seq (.blk 1 (.seq (.dreg c42_r6 c42_a6) (.cond (.t 42) (.seq (.reg c42_r7) (.ret)) (.skip)))) (.reg c42_r8))
abbrev c42_r10 : List Ins := [
  ⟨some 4, none, .mov (.c (.bool true))⟩]
abbrev c42 : IR := .seq (.reg c42_r1) (.seq (.seq (.reg c42_r2) (.cond (.t 10) (.seq (.reg c42_r3) (.ret)) (.skip))) (.seq (.seq (.reg c42_r4) (.blk 0 (.loop c42_l9))) (.seq (.reg c42_r10) (.ret))))
abbrev F42 : FnA := ⟨43, c42, [.t 4]⟩
theorem ok42 : cFn Try.prog 42 = some F42 := by kernel_rfl
theorem hb42 : HasBody Try.prog 42 := ⟨_, Try.func42, by kernel_rfl, by kernel_rfl⟩
/-! ref09.May -/
abbrev c43_r1 : List Ins := [
  ⟨some 4, none, .mov (.c (.bool false))⟩]
abbrev c43_r2 : List Ins := [
  ⟨some 6, none, .mov (.t 1)⟩,
  ⟨some 7, none, .bin .lss (.t 6) (.c (.int .i64 0))⟩,
  ⟨some 8, none, .mov (.t 7)⟩,
  ⟨some 9, some (8, false), .mov (.t 1)⟩,
  ⟨some 10, some (8, false), .bin .gtr (.t 9) (.c (.int .i64 3))⟩,
  ⟨some 11, none, .pick (.t 8) (.c (.bool true)) (.t 10)⟩,
  ⟨some 12, none, .mov (.t 11)⟩,
  ⟨some 13, some (12, false), .mov (.t 0)⟩,
  ⟨some 14, some (12, false), .len (.t 13)⟩,
  ⟨some 15, some (12, false), .bin .lss (.t 14) (.c (.int .i64 1))⟩,
  ⟨some 16, none, .pick (.t 12) (.c (.bool true)) (.t 15)⟩,
  ⟨some 17, none, .mov (.t 16)⟩,
  ⟨some 18, some (17, false), .mov (.t 0)⟩,
  ⟨some 19, some (17, false), .len (.t 18)⟩,
  ⟨some 20, some (17, false), .bin .gtr (.t 19) (.c (.int .i64 8))⟩,
  ⟨some 21, none, .pick (.t 17) (.c (.bool true)) (.t 20)⟩]
abbrev c43_r3 : List Ins := [
  ⟨some 4, none, .mov (.c (.bool false))⟩]
abbrev c43_r4 : List Ins := [
  ⟨some 5, none, .mov (.c (.int .i64 0))⟩]
abbrev c43_r5 : List Ins := [
  ⟨some 22, none, .mov (.t 5)⟩,
  ⟨some 23, none, .mov (.t 0)⟩,
  ⟨some 24, none, .len (.t 23)⟩,
  ⟨some 25, none, .bin .lss (.t 22) (.t 24)⟩]
abbrev c43_r6 : List Ins := [
  ⟨some 28, none, .mov (.t 0)⟩,
  ⟨some 29, none, .mov (.t 5)⟩,
  ⟨some 30, none, .iaddr 9 (.t 28) (.t 29)⟩,
  ⟨some 31, none, .load 9 true (.t 30)⟩,
  ⟨some 32, none, .mov (.t 1)⟩,
  ⟨some 33, none, .call (.c (.fn 68 [] [])) [.t 31, .t 32]⟩,
  ⟨some 34, none, .un .not (.t 33)⟩]
abbrev c43_r7 : List Ins := [
  ⟨some 4, none, .mov (.c (.bool false))⟩]
abbrev c43_r8 : List Ins := [
  ⟨some 26, none, .mov (.t 5)⟩,
  ⟨some 27, none, .bin .add (.t 26) (.c (.int .i64 1))⟩,
  ⟨some 5, none, .mov (.t 27)⟩]
abbrev c43_l9 : IR := .seq (.seq (.reg c43_r5) (.cond (.t 25) (.skip) (.exit 0))) (.seq (.blk 1 (.seq (.reg c43_r6) (.cond (.t 34) (.seq (.reg c43_r7) (.ret)) (.skip)))) (.reg c43_r8))
abbrev c43_r10 : List Ins := [
  ⟨some 4, none, .mov (.c (.bool true))⟩]
abbrev c43 : IR := .seq (.reg c43_r1) (.seq (.seq (.reg c43_r2) (.cond (.t 21) (.seq (.reg c43_r3) (.ret)) (.skip))) (.seq (.seq (.reg c43_r4) (.blk 0 (.loop c43_l9))) (.seq (.reg c43_r10) (.ret))))
abbrev F43 : FnA := ⟨35, c43, [.t 4]⟩
theorem ok43 : cFn Try.prog 43 = some F43 := by kernel_rfl
theorem hb43 : HasBody Try.prog 43 := ⟨_, Try.func43, by kernel_rfl, by kernel_rfl⟩
/-! ref10.Set -/
abbrev c44_r1 : List Ins := [
  ⟨some 6, none, .mov (.c .nilptr)⟩]
abbrev c44_r2 : List Ins := [
  ⟨some 7, none, .mov (.c (.sl .full []))⟩]
abbrev c44_r3 : List Ins := [
  ⟨some 8, none, .mov (.c (.int .i64 0))⟩]
abbrev c44_r4 : List Ins := [
  ⟨some 9, none, .mov (.t 8)⟩,
  ⟨some 10, none, .mov (.t 0)⟩,
  ⟨some 11, none, .len (.t 10)⟩,
  ⟨some 12, none, .bin .lss (.t 9) (.t 11)⟩]
abbrev c44_r5 : List Ins := [
  ⟨some 15, none, .mov (.t 0)⟩,
  ⟨some 16, none, .mov (.t 8)⟩,
  ⟨some 17, none, .iaddr 5 (.t 15) (.t 16)⟩,
  ⟨some 18, none, .faddr 4 (.t 17)⟩,
  ⟨some 19, none, .load 1 false (.t 18)⟩,
  ⟨some 20, none, .mov (.t 19)⟩,
  ⟨some 21, some (20, false), .mov (.t 2)⟩,
  ⟨some 22, some (20, false), .un .not (.t 21)⟩,
  ⟨some 23, none, .pick (.t 20) (.c (.bool true)) (.t 22)⟩]
abbrev c44_r6 : List Ins := [
  ⟨some 24, none, .mov (.t 7)⟩,
  ⟨some 25, none, .mov (.t 0)⟩,
  ⟨some 26, none, .mov (.t 8)⟩,
  ⟨some 27, none, .iaddr 5 (.t 25) (.t 26)⟩,
  ⟨some 28, none, .faddr 0 (.t 27)⟩,
  ⟨some 29, none, .load 2 true (.t 28)⟩,
  ⟨some 30, none, .mov (.t 1)⟩,
  ⟨some 31, none, .call (.c (.fn 69 [] [])) [.t 29, .t 30]⟩,
  ⟨some 32, none, .mov (.t 0)⟩,
  ⟨some 33, none, .mov (.t 8)⟩,
  ⟨some 34, none, .iaddr 5 (.t 32) (.t 33)⟩,
  ⟨some 35, none, .faddr 2 (.t 34)⟩,
  ⟨some 36, none, .load 2 true (.t 35)⟩,
  ⟨some 37, none, .mov (.t 1)⟩,
  ⟨some 38, none, .call (.c (.fn 69 [] [])) [.t 36, .t 37]⟩,
  ⟨some 39, none, .build [.int .i64 0, .int .i64 0] [(0, (1, .t 31)), (1, (1, .t 38))]⟩,
  ⟨some 40, none, .bsl 2 1 [.int .i64 0, .int .i64 0] [(0, .t 39)]⟩,
  ⟨some 41, none, .append 2 16 (.t 24) (.t 40)⟩,
  ⟨some 7, none, .mov (.t 41)⟩]
def c44_a6 : List (List Nat) := [[], [], [], [1, 2], [3], [4], [], [5, 6], [], [], [8, 9], [10], [11], [], [12, 13, 7], [7, 14], [15], [0, 16, 14], [17, 17, 0, 1, 2, 3, 4, 5, 6, 7, 8, 9, 10, 11, 12, 13, 14, 15, 16, 17]]
abbrev c44_m6 : List Am.Mark := [⟨false, 0, 0⟩, ⟨false, 0, 1⟩, ⟨false, 0, 1⟩, ⟨false, 0, 1⟩, ⟨false, 0, 1⟩, ⟨false, 0, 1⟩, ⟨false, 0, 1⟩, ⟨false, 0, 1⟩, ⟨false, 0, 1⟩, ⟨false, 0, 1⟩, ⟨false, 0, 1⟩, ⟨false, 0, 1⟩, ⟨false, 0, 1⟩, ⟨false, 0, 1⟩, ⟨false, 0, 0⟩, ⟨false, 0, 1⟩, ⟨false, 0, 0⟩, ⟨true, 0, 1⟩, ⟨false, 1, 1⟩]
theorem c44_d6 : drawFine c44_r6 c44_a6 c44_m6 = true := by decide +kernel
abbrev c44_r7 : List Ins := [
  ⟨some 13, none, .mov (.t 8)⟩,
  ⟨some 14, none, .bin .add (.t 13) (.c (.int .i64 1))⟩,
  ⟨some 8, none, .mov (.t 14)⟩]
abbrev c44_l8 : IR := .seq (.seq (.reg c44_r4) (.cond (.t 12) (.skip) (.exit 0))) (.seq (.blk 1 (.seq (.reg c44_r5) (.cond (.t 23) (.dreg c44_r6 c44_a6) (.skip)))) (.reg c44_r7))
abbrev c44_r9 : List Ins := [
  ⟨some 42, none, .mov (.t 7)⟩,
  ⟨some 43, none, .call (.c (.fn 70 [] [])) [.t 42]⟩,
  ⟨some 6, none, .mov (.t 43)⟩]
abbrev c44 : IR := .seq (.reg c44_r1) (.seq (.reg c44_r2) (.seq (.seq (.reg c44_r3) (.blk 0 (.loop c44_l8))) (.seq (.reg c44_r9) (.ret))))
abbrev F44 : FnA := ⟨44, c44, [.t 6]⟩
theorem ok44 : cFn Try.prog 44 = some F44 := by kernel_rfl
theorem hb44 : HasBody Try.prog 44 := ⟨_, Try.func44, by kernel_rfl, by kernel_rfl⟩
/-! ref09.MayKey -/
abbrev c45_r1 : List Ins := [
  ⟨some 2, none, .box (.t 0)⟩,
  ⟨some 4, none, .mov (.c (.bool false))⟩]
abbrev c45_r2 : List Ins := [
  ⟨some 5, none, .faddr 0 (.t 2)⟩,
  ⟨some 6, none, .load 1 false (.t 5)⟩,
  ⟨some 7, none, .bin .geq (.t 6) (.c (.int .i64 (-1)))⟩,
  ⟨some 8, none, .mov (.t 7)⟩,
  ⟨some 9, some (8, true), .faddr 0 (.t 2)⟩,
  ⟨some 10, some (8, true), .load 1 false (.t 9)⟩,
  ⟨some 11, some (8, true), .mov (.t 1)⟩,
  ⟨some 12, some (8, true), .bin .lss (.t 10) (.t 11)⟩,
  ⟨some 13, none, .pick (.t 8) (.t 12) (.c (.bool false))⟩,
  ⟨some 14, none, .mov (.t 13)⟩,
  ⟨some 15, some (14, true), .faddr 1 (.t 2)⟩,
  ⟨some 16, some (14, true), .load 1 false (.t 15)⟩,
  ⟨some 17, some (14, true), .bin .geq (.t 16) (.c (.int .i64 0))⟩,
  ⟨some 18, none, .pick (.t 14) (.t 17) (.c (.bool false))⟩,
  ⟨some 19, none, .mov (.t 18)⟩,
  ⟨some 20, some (19, true), .faddr 1 (.t 2)⟩,
  ⟨some 21, some (19, true), .load 1 false (.t 20)⟩,
  ⟨some 22, some (19, true), .bin .leq (.t 21) (.c (.int .i64 900))⟩,
  ⟨some 23, none, .pick (.t 19) (.t 22) (.c (.bool false))⟩,
  ⟨some 4, none, .mov (.t 23)⟩]
abbrev c45 : IR := .seq (.reg c45_r1) (.seq (.reg c45_r2) (.ret))
abbrev F45 : FnA := ⟨24, c45, [.t 4]⟩
theorem ok45 : cFn Try.prog 45 = some F45 := by kernel_rfl
theorem hb45 : HasBody Try.prog 45 := ⟨_, Try.func45, by kernel_rfl, by kernel_rfl⟩
/-! codes.Writer.Count -/
abbrev c46_r1 : List Ins := [
  ⟨some 4, none, .mov (.t 0)⟩,
  ⟨some 5, none, .mov (.t 1)⟩,
  ⟨some 6, none, .mx [.t 5, .c (.int .i64 0)]⟩,
  ⟨some 7, none, .conv .u64 (.t 6)⟩,
  ⟨some 8, none, .bsl 1 1 [.int .u64 0] [(0, .t 7)]⟩,
  ⟨some 9, none, .call (.c (.fn 71 [] [])) [.t 4, .t 8]⟩]
abbrev c46 : IR := .reg c46_r1
abbrev F46 : FnA := ⟨10, c46, []⟩
theorem ok46 : cFn Try.prog 46 = some F46 := by kernel_rfl
theorem hb46 : HasBody Try.prog 46 := ⟨_, Try.func46, by kernel_rfl, by kernel_rfl⟩
/-! foot.templates -/
abbrev c47_r1 : List Ins := [
  ⟨some 6, none, .mov (.t 1)⟩,
  ⟨some 7, none, .len (.t 6)⟩,
  ⟨some 8, none, .mov (.c (.int .i64 0))⟩]
abbrev c47_r2 : List Ins := [
  ⟨some 9, none, .bin .lss (.t 8) (.t 7)⟩]
abbrev c47_r3 : List Ins := [
  ⟨some 10, none, .iaddr 2 (.t 6) (.t 8)⟩,
  ⟨some 11, none, .load 2 true (.t 10)⟩,
  ⟨some 5, none, .alloc [.int .i64 0, .int .i64 0]⟩,
  ⟨none, none, .store 2 (.t 5) (.t 11)⟩]
abbrev c47_r4 : List Ins := [
  ⟨some 12, none, .mov (.t 0)⟩,
  ⟨some 13, none, .faddr 0 (.t 5)⟩,
  ⟨some 14, none, .load 1 false (.t 13)⟩,
  ⟨some 15, none, .call (.c (.fn 72 [] [])) [.t 12, .t 14]⟩]
abbrev c47_r5 : List Ins := [
  ⟨some 16, none, .mov (.t 0)⟩,
  ⟨some 17, none, .faddr 1 (.t 5)⟩,
  ⟨some 18, none, .load 1 false (.t 17)⟩,
  ⟨some 19, none, .call (.c (.fn 46 [] [])) [.t 16, .t 18]⟩]
abbrev c47_r6 : List Ins := [
  ⟨some 20, none, .bin .add (.t 8) (.c (.int .i64 1))⟩,
  ⟨some 8, none, .mov (.t 20)⟩]
abbrev c47_l7 : IR := .seq (.reg c47_r2) (.seq (.cond (.t 9) (.skip) (.exit 0)) (.seq (.blk 1 (.seq (.reg c47_r3) (.seq (.reg c47_r4) (.reg c47_r5)))) (.reg c47_r6)))
abbrev c47 : IR := .seq (.reg c47_r1) (.blk 0 (.loop c47_l7))
abbrev F47 : FnA := ⟨21, c47, []⟩
theorem ok47 : cFn Try.prog 47 = some F47 := by kernel_rfl
theorem hb47 : HasBody Try.prog 47 := ⟨_, Try.func47, by kernel_rfl, by kernel_rfl⟩
/-! codes.Writer.Flag -/
abbrev c48_r1 : List Ins := [
  ⟨some 4, none, .mov (.t 1)⟩]
abbrev c48_r2 : List Ins := [
  ⟨some 5, none, .mov (.t 0)⟩,
  ⟨some 6, none, .bsl 1 1 [.int .u64 0] [(0, .c (.int .u64 1))]⟩,
  ⟨some 7, none, .call (.c (.fn 71 [] [])) [.t 5, .t 6]⟩]
abbrev c48_r3 : List Ins := [
  ⟨some 8, none, .mov (.t 0)⟩,
  ⟨some 9, none, .bsl 1 1 [.int .u64 0] [(0, .c (.int .u64 0))]⟩,
  ⟨some 10, none, .call (.c (.fn 71 [] [])) [.t 8, .t 9]⟩]
abbrev c48 : IR := .seq (.seq (.reg c48_r1) (.cond (.t 4) (.seq (.reg c48_r2) (.ret)) (.skip))) (.reg c48_r3)
abbrev F48 : FnA := ⟨11, c48, []⟩
theorem ok48 : cFn Try.prog 48 = some F48 := by kernel_rfl
theorem hb48 : HasBody Try.prog 48 := ⟨_, Try.func48, by kernel_rfl, by kernel_rfl⟩
/-! slices.Clone:uint64 -/
abbrev c49_r1 : List Ins := [
  ⟨some 2, none, .mov (.c (.sl .full []))⟩]
abbrev c49_r2 : List Ins := [
  ⟨some 3, none, .mov (.t 0)⟩,
  ⟨some 4, none, .isnil false (.t 3)⟩]
abbrev c49_r3 : List Ins := [
  ⟨some 2, none, .mov (.c (.sl .full []))⟩]
abbrev c49_r4 : List Ins := [
  ⟨some 5, none, .bsl 1 0 [.int .u64 0] []⟩,
  ⟨some 6, none, .mov (.t 0)⟩,
  ⟨some 7, none, .append 1 8 (.t 5) (.t 6)⟩,
  ⟨some 2, none, .mov (.t 7)⟩]
abbrev c49 : IR := .seq (.reg c49_r1) (.seq (.seq (.reg c49_r2) (.cond (.t 4) (.seq (.reg c49_r3) (.ret)) (.skip))) (.seq (.reg c49_r4) (.ret)))
abbrev F49 : FnA := ⟨8, c49, [.t 2]⟩
theorem ok49 : cFn Try.prog 49 = some F49 := by kernel_rfl
theorem hb49 : HasBody Try.prog 49 := ⟨_, Try.func49, by kernel_rfl, by kernel_rfl⟩
/-! ref01.Write -/
abbrev c50_r1 : List Ins := [
  ⟨some 3, none, .box (.t 1)⟩,
  ⟨some 4, none, .mov (.c (.sl .full []))⟩]
abbrev c50_r2 : List Ins := [
  ⟨some 6, none, .faddr 0 (.t 3)⟩,
  ⟨some 7, none, .load 1 false (.t 6)⟩]
abbrev c50_r3 : List Ins := [
  ⟨some 9, none, .bin .eql (.t 7) (.c (.int .i64 0))⟩,
  ⟨some 8, none, .mov (.t 9)⟩]
abbrev c50_r4 : List Ins := [
  ⟨some 10, none, .faddr 1 (.t 3)⟩,
  ⟨some 11, none, .load 1 false (.t 10)⟩,
  ⟨some 12, none, .bin .lss (.t 11) (.c (.int .i64 0))⟩]
abbrev c50_r5 : List Ins := [
  ⟨some 13, none, .mov (.t 0)⟩,
  ⟨some 14, none, .bsl 1 1 [.int .u64 0] [(0, .c (.int .u64 0))]⟩,
  ⟨some 15, none, .append 1 8 (.t 13) (.t 14)⟩,
  ⟨some 4, none, .mov (.t 15)⟩]
abbrev c50_r6 : List Ins := [
  ⟨some 16, none, .mov (.t 0)⟩,
  ⟨some 17, none, .faddr 1 (.t 3)⟩,
  ⟨some 18, none, .load 1 false (.t 17)⟩,
  ⟨some 19, none, .conv .u64 (.t 18)⟩,
  ⟨some 20, none, .bsl 1 1 [.int .u64 0] [(0, .t 19)]⟩,
  ⟨some 21, none, .append 1 8 (.t 16) (.t 20)⟩,
  ⟨some 4, none, .mov (.t 21)⟩]
abbrev c50_r7 : List Ins := [
  ⟨some 23, none, .bin .eql (.t 7) (.c (.int .i64 1))⟩,
  ⟨some 22, none, .mov (.t 23)⟩]
abbrev c50_r8 : List Ins := [
  ⟨some 24, none, .mov (.t 0)⟩,
  ⟨some 25, none, .faddr 3 (.t 3)⟩,
  ⟨some 26, none, .load 1 false (.t 25)⟩,
  ⟨some 27, none, .call (.c (.fn 73 [] [])) [.t 26]⟩,
  ⟨some 28, none, .bsl 1 1 [.int .u64 0] [(0, .t 27)]⟩,
  ⟨some 29, none, .append 1 8 (.t 24) (.t 28)⟩,
  ⟨some 4, none, .mov (.t 29)⟩]
abbrev c50_r9 : List Ins := [
  ⟨some 31, none, .bin .eql (.t 7) (.c (.int .i64 2))⟩,
  ⟨some 30, none, .mov (.t 31)⟩]
abbrev c50_r10 : List Ins := [
  ⟨some 32, none, .faddr 1 (.t 3)⟩,
  ⟨some 33, none, .load 1 false (.t 32)⟩,
  ⟨some 34, none, .bin .eql (.t 33) (.c (.int .i64 1))⟩]
abbrev c50_r11 : List Ins := [
  ⟨some 35, none, .mov (.t 0)⟩,
  ⟨some 36, none, .bsl 1 1 [.int .u64 0] [(0, .c (.int .u64 1))]⟩,
  ⟨some 37, none, .append 1 8 (.t 35) (.t 36)⟩,
  ⟨some 4, none, .mov (.t 37)⟩]
abbrev c50_r12 : List Ins := [
  ⟨some 38, none, .mov (.t 0)⟩,
  ⟨some 39, none, .bsl 1 1 [.int .u64 0] [(0, .c (.int .u64 0))]⟩,
  ⟨some 40, none, .append 1 8 (.t 38) (.t 39)⟩,
  ⟨some 4, none, .mov (.t 40)⟩]
abbrev c50_r13 : List Ins := [
  ⟨some 42, none, .bin .eql (.t 7) (.c (.int .i64 3))⟩,
  ⟨some 41, none, .mov (.t 42)⟩]
abbrev c50_r14 : List Ins := [
  ⟨some 43, none, .faddr 4 (.t 3)⟩,
  ⟨some 44, none, .load 1 false (.t 43)⟩,
  ⟨some 5, none, .mov (.t 44)⟩]
abbrev c50_r15 : List Ins := [
  ⟨some 45, none, .mov (.t 5)⟩,
  ⟨some 46, none, .lenS (.t 45)⟩,
  ⟨some 47, none, .bin .gtr (.t 46) (.c (.int .i64 64))⟩]
abbrev c50_r16 : List Ins := [
  ⟨some 48, none, .mov (.t 5)⟩,
  ⟨some 49, none, .sliceS (.t 48) none (some (.c (.int .i64 64)))⟩,
  ⟨some 5, none, .mov (.t 49)⟩]
abbrev c50_r17 : List Ins := [
  ⟨some 50, none, .mov (.t 0)⟩,
  ⟨some 51, none, .mov (.t 5)⟩,
  ⟨some 52, none, .lenS (.t 51)⟩,
  ⟨some 53, none, .conv .u64 (.t 52)⟩,
  ⟨some 54, none, .bsl 1 1 [.int .u64 0] [(0, .t 53)]⟩,
  ⟨some 55, none, .append 1 8 (.t 50) (.t 54)⟩,
  ⟨some 56, none, .mov (.t 5)⟩,
  ⟨some 57, none, .call (.c (.fn 74 [] [])) [.t 56]⟩,
  ⟨some 58, none, .append 1 8 (.t 55) (.t 57)⟩,
  ⟨some 4, none, .mov (.t 58)⟩]
abbrev c50_r18 : List Ins := [
  ⟨some 59, none, .mov (.t 0)⟩,
  ⟨some 60, none, .faddr 5 (.t 3)⟩,
  ⟨some 61, none, .load 1 false (.t 60)⟩,
  ⟨some 62, none, .len (.t 61)⟩,
  ⟨some 63, none, .conv .u64 (.t 62)⟩,
  ⟨some 64, none, .bsl 1 1 [.int .u64 0] [(0, .t 63)]⟩,
  ⟨some 65, none, .append 1 8 (.t 59) (.t 64)⟩,
  ⟨some 66, none, .faddr 5 (.t 3)⟩,
  ⟨some 67, none, .load 1 false (.t 66)⟩,
  ⟨some 68, none, .append 1 8 (.t 65) (.t 67)⟩,
  ⟨some 4, none, .mov (.t 68)⟩]
def c50_a18 : List (List Nat) := [[], [], [1], [2], [3], [4], [0, 5], [], [7], [6, 8, 6], [9, 9, 0, 1, 2, 3, 4, 5, 6, 7, 8, 9]]
abbrev c50_m18 : List Am.Mark := [⟨false, 0, 0⟩, ⟨false, 0, 2⟩, ⟨false, 0, 2⟩, ⟨false, 0, 2⟩, ⟨false, 0, 2⟩, ⟨false, 0, 0⟩, ⟨true, 0, 1⟩, ⟨false, 0, 2⟩, ⟨false, 0, 1⟩, ⟨true, 1, 2⟩, ⟨false, 2, 2⟩]
theorem c50_d18 : drawFine c50_r18 c50_a18 c50_m18 = true := by decide +kernel
abbrev c50 : IR := .seq (.reg c50_r1) (.seq (.seq (.reg c50_r2) (.blk 0 (.seq (.reg c50_r3) (.cond (.t 8) (.seq (.seq (.reg c50_r4) (.cond (.t 12) (.seq (.reg c50_r5) (.ret)) (.skip))) (.seq (.reg c50_r6) (.ret))) (.seq (.reg c50_r7) (.cond (.t 22) (.seq (.reg c50_r8) (.ret)) (.seq (.reg c50_r9) (.cond (.t 30) (.seq (.seq (.reg c50_r10) (.cond (.t 34) (.seq (.reg c50_r11) (.ret)) (.skip))) (.seq (.reg c50_r12) (.ret))) (.seq (.reg c50_r13) (.cond (.t 41) (.seq (.reg c50_r14) (.seq (.seq (.reg c50_r15) (.cond (.t 47) (.reg c50_r16) (.skip))) (.seq (.reg c50_r17) (.ret)))) (.skip))))))))))) (.seq (.dreg c50_r18 c50_a18) (.ret)))
abbrev F50 : FnA := ⟨69, c50, [.t 4]⟩
theorem ok50 : cFn Try.prog 50 = some F50 := by kernel_rfl
theorem hb50 : HasBody Try.prog 50 := ⟨_, Try.func50, by kernel_rfl, by kernel_rfl⟩
/-! foot.right -/
abbrev c51_r1 : List Ins := [
  ⟨some 4, none, .mov (.c (.bool false))⟩]
abbrev c51_r2 : List Ins := [
  ⟨some 8, none, .build [.int .i64 0, .int .i64 0] [(0, (1, .c (.int .i64 (-1))))]⟩,
  ⟨some 9, none, .mov (.t 1)⟩,
  ⟨some 10, none, .call (.c (.fn 75 [] [])) [.t 8, .t 9]⟩,
  ⟨some 7, none, .mov (.t 10)⟩,
  ⟨some 11, none, .ext (.t 7) 0⟩,
  ⟨some 12, none, .ext (.t 7) 1⟩,
  ⟨some 5, none, .mov (.t 11)⟩,
  ⟨some 6, none, .mov (.t 12)⟩]
abbrev c51_r3 : List Ins := [
  ⟨some 13, none, .mov (.t 6)⟩,
  ⟨some 14, none, .mov (.t 13)⟩,
  ⟨some 15, some (14, true), .mov (.t 0)⟩,
  ⟨some 16, some (14, true), .mov (.t 1)⟩,
  ⟨some 17, some (14, true), .len (.t 16)⟩,
  ⟨some 18, some (14, true), .call (.c (.fn 62 [] [])) [.t 15, .t 17]⟩,
  ⟨some 19, none, .pick (.t 14) (.t 18) (.c (.bool false))⟩,
  ⟨some 4, none, .mov (.t 19)⟩]
abbrev c51 : IR := .seq (.reg c51_r1) (.seq (.reg c51_r2) (.seq (.reg c51_r3) (.ret)))
abbrev F51 : FnA := ⟨20, c51, [.t 4]⟩
theorem ok51 : cFn Try.prog 51 = some F51 := by kernel_rfl
theorem hb51 : HasBody Try.prog 51 := ⟨_, Try.func51, by kernel_rfl, by kernel_rfl⟩
/-! foot.Spans$1 -/
abbrev c52_r1 : List Ins := [
  ⟨some 1, none, .box (.t 0)⟩,
  ⟨some 2, none, .mov (.c (.bool false))⟩]
abbrev c52_r2 : List Ins := [
  ⟨some 2, none, .mov (.c (.bool true))⟩]
abbrev c52 : IR := .seq (.reg c52_r1) (.seq (.reg c52_r2) (.ret))
abbrev F52 : FnA := ⟨3, c52, [.t 2]⟩
theorem ok52 : cFn Try.prog 52 = some F52 := by kernel_rfl
theorem hb52 : HasBody Try.prog 52 := ⟨_, Try.func52, by kernel_rfl, by kernel_rfl⟩
/-! foot.Spans$2 -/
abbrev c53_r1 : List Ins := [
  ⟨some 1, none, .box (.t 0)⟩,
  ⟨some 2, none, .mov (.c (.bool false))⟩]
abbrev c53_r2 : List Ins := [
  ⟨some 3, none, .faddr 4 (.t 1)⟩,
  ⟨some 4, none, .load 1 false (.t 3)⟩,
  ⟨some 2, none, .mov (.t 4)⟩]
abbrev c53 : IR := .seq (.reg c53_r1) (.seq (.reg c53_r2) (.ret))
abbrev F53 : FnA := ⟨5, c53, [.t 2]⟩
theorem ok53 : cFn Try.prog 53 = some F53 := by kernel_rfl
theorem hb53 : HasBody Try.prog 53 := ⟨_, Try.func53, by kernel_rfl, by kernel_rfl⟩
/-! foot.chosen -/
abbrev c54_r1 : List Ins := [
  ⟨some 6, none, .mov (.c (.sl .full []))⟩]
abbrev c54_r2 : List Ins := [
  ⟨some 7, none, .mov (.c (.sl .full []))⟩]
abbrev c54_r3 : List Ins := [
  ⟨some 14, none, .mov (.t 0)⟩,
  ⟨some 15, none, .len (.t 14)⟩,
  ⟨some 16, none, .mov (.c (.int .i64 0))⟩]
abbrev c54_r4 : List Ins := [
  ⟨some 17, none, .bin .lss (.t 16) (.t 15)⟩]
abbrev c54_r5 : List Ins := [
  ⟨some 18, none, .iaddr 5 (.t 14) (.t 16)⟩,
  ⟨some 19, none, .load 5 true (.t 18)⟩,
  ⟨some 9, none, .alloc [.int .i64 0, .int .i64 0, .int .i64 0, .int .i64 0, .bool false]⟩,
  ⟨none, none, .store 5 (.t 9) (.t 19)⟩]
abbrev c54_r6 : List Ins := [
  ⟨some 21, none, .faddr 0 (.t 9)⟩,
  ⟨some 22, none, .load 2 true (.t 21)⟩,
  ⟨some 23, none, .mov (.t 1)⟩,
  ⟨some 24, none, .call (.c (.fn 75 [] [])) [.t 22, .t 23]⟩,
  ⟨some 20, none, .mov (.t 24)⟩,
  ⟨some 25, none, .ext (.t 20) 0⟩,
  ⟨some 26, none, .ext (.t 20) 1⟩,
  ⟨some 10, none, .mov (.t 25)⟩,
  ⟨some 11, none, .mov (.t 26)⟩]
abbrev c54_r7 : List Ins := [
  ⟨some 28, none, .faddr 2 (.t 9)⟩,
  ⟨some 29, none, .load 2 true (.t 28)⟩,
  ⟨some 30, none, .mov (.t 1)⟩,
  ⟨some 31, none, .call (.c (.fn 75 [] [])) [.t 29, .t 30]⟩,
  ⟨some 27, none, .mov (.t 31)⟩,
  ⟨some 32, none, .ext (.t 27) 0⟩,
  ⟨some 33, none, .ext (.t 27) 1⟩,
  ⟨some 12, none, .mov (.t 32)⟩,
  ⟨some 13, none, .mov (.t 33)⟩]
abbrev c54_r8 : List Ins := [
  ⟨some 34, none, .mov (.t 2)⟩,
  ⟨some 35, none, .load 5 true (.t 9)⟩,
  ⟨some 36, none, .call (.t 34) [.t 35]⟩]
abbrev c54_r9 : List Ins := [
  ⟨some 37, none, .mov (.t 7)⟩,
  ⟨some 38, none, .mov (.t 10)⟩,
  ⟨some 39, none, .mov (.t 12)⟩,
  ⟨some 40, none, .build [.int .i64 0, .int .i64 0] [(0, (1, .t 38)), (1, (1, .t 39))]⟩,
  ⟨some 41, none, .bsl 2 1 [.int .i64 0, .int .i64 0] [(0, .t 40)]⟩,
  ⟨some 42, none, .append 2 16 (.t 37) (.t 41)⟩,
  ⟨some 7, none, .mov (.t 42)⟩]
abbrev c54_r10 : List Ins := [
  ⟨some 43, none, .bin .add (.t 16) (.c (.int .i64 1))⟩,
  ⟨some 16, none, .mov (.t 43)⟩]
abbrev c54_l11 : IR := .seq (.reg c54_r4) (.seq (.cond (.t 17) (.skip) (.exit 0)) (.seq (.blk 1 (.seq (.reg c54_r5) (.seq (.reg c54_r6) (.seq (.reg c54_r7) (.seq (.reg c54_r8) (.cond (.t 36) (.reg c54_r9) (.skip))))))) (.reg c54_r10)))
abbrev c54_r12 : List Ins := [
  ⟨some 44, none, .mov (.t 7)⟩,
  ⟨some 45, none, .call (.c (.fn 76 [] [])) [.t 44]⟩,
  ⟨some 6, none, .mov (.t 45)⟩]
abbrev c54 : IR := .seq (.reg c54_r1) (.seq (.reg c54_r2) (.seq (.seq (.reg c54_r3) (.blk 0 (.loop c54_l11))) (.seq (.reg c54_r12) (.ret))))
abbrev F54 : FnA := ⟨46, c54, [.t 6]⟩
theorem ok54 : cFn Try.prog 54 = some F54 := by kernel_rfl
theorem hb54 : HasBody Try.prog 54 := ⟨_, Try.func54, by kernel_rfl, by kernel_rfl⟩
/-! keys.Less -/
abbrev c55_r1 : List Ins := [
  ⟨some 4, none, .mov (.c (.sl .full []))⟩]
abbrev c55_r2 : List Ins := [
  ⟨some 5, none, .mov (.t 0)⟩,
  ⟨some 6, none, .mov (.t 1)⟩,
  ⟨some 7, none, .bsl 1 1 [.sl .full []] [(0, .t 6)]⟩,
  ⟨some 8, none, .call (.c (.fn 64 [] [])) [.t 7]⟩,
  ⟨some 9, none, .call (.c (.fn 78 [] [])) [.t 8]⟩,
  ⟨some 10, none, .call (.c (.fn 77 [] [])) [.t 5, .t 9]⟩,
  ⟨some 4, none, .mov (.t 10)⟩]
abbrev c55 : IR := .seq (.reg c55_r1) (.seq (.reg c55_r2) (.ret))
abbrev F55 : FnA := ⟨11, c55, [.t 4]⟩
theorem ok55 : cFn Try.prog 55 = some F55 := by kernel_rfl
theorem hb55 : HasBody Try.prog 55 := ⟨_, Try.func55, by kernel_rfl, by kernel_rfl⟩
/-! class.each -/
abbrev c60_r1 : List Ins := [
  ⟨some 1, none, .box (.t 0)⟩,
  ⟨some 2, none, .mov (.c .nilfn)⟩]
abbrev c60_r2 : List Ins := [
  ⟨some 3, none, .mkfn 81 [] [.t 1]⟩,
  ⟨some 2, none, .mov (.t 3)⟩]
abbrev c60 : IR := .seq (.reg c60_r1) (.seq (.reg c60_r2) (.ret))
abbrev F60 : FnA := ⟨4, c60, [.t 2]⟩
theorem ok60 : cFn Try.prog 60 = some F60 := by kernel_rfl
theorem hb60 : HasBody Try.prog 60 := ⟨_, Try.func60, by kernel_rfl, by kernel_rfl⟩
/-! prog.May -/
abbrev c61_r1 : List Ins := [
  ⟨some 3, none, .box (.t 1)⟩,
  ⟨some 4, none, .mov (.c (.bool false))⟩]
abbrev c61_r2 : List Ins := [
  ⟨some 5, none, .load 1 false (.t 3)⟩,
  ⟨some 6, none, .bin .lss (.t 5) (.c (.int .i64 0))⟩,
  ⟨some 7, none, .mov (.t 6)⟩,
  ⟨some 8, some (7, false), .load 1 false (.t 3)⟩,
  ⟨some 9, some (7, false), .bin .gtr (.t 8) (.c (.int .i64 3))⟩,
  ⟨some 10, none, .pick (.t 7) (.c (.bool true)) (.t 9)⟩,
  ⟨some 11, none, .mov (.t 10)⟩,
  ⟨some 12, some (11, false), .mov (.t 0)⟩,
  ⟨some 13, some (11, false), .len (.t 12)⟩,
  ⟨some 14, some (11, false), .bin .lss (.t 13) (.c (.int .i64 1))⟩,
  ⟨some 15, none, .pick (.t 11) (.c (.bool true)) (.t 14)⟩,
  ⟨some 16, none, .mov (.t 15)⟩,
  ⟨some 17, some (16, false), .mov (.t 0)⟩,
  ⟨some 18, some (16, false), .len (.t 17)⟩,
  ⟨some 19, some (16, false), .bin .gtr (.t 18) (.c (.int .i64 8))⟩,
  ⟨some 20, none, .pick (.t 16) (.c (.bool true)) (.t 19)⟩]
abbrev c61_r3 : List Ins := [
  ⟨some 4, none, .mov (.c (.bool false))⟩]
abbrev c61_r4 : List Ins := [
  ⟨some 21, none, .mov (.t 0)⟩,
  ⟨some 22, none, .mkfn 83 [] [.t 3]⟩,
  ⟨some 23, none, .call (.c (.fn 82 [] [])) [.t 21, .t 22]⟩,
  ⟨some 24, none, .un .not (.t 23)⟩,
  ⟨some 4, none, .mov (.t 24)⟩]
abbrev c61 : IR := .seq (.reg c61_r1) (.seq (.seq (.reg c61_r2) (.cond (.t 20) (.seq (.reg c61_r3) (.ret)) (.skip))) (.seq (.reg c61_r4) (.ret)))
abbrev F61 : FnA := ⟨25, c61, [.t 4]⟩
theorem ok61 : cFn Try.prog 61 = some F61 := by kernel_rfl
theorem hb61 : HasBody Try.prog 61 := ⟨_, Try.func61, by kernel_rfl, by kernel_rfl⟩
/-! foot.May -/
abbrev c62_r1 : List Ins := [
  ⟨some 3, none, .box (.t 1)⟩,
  ⟨some 4, none, .mov (.c (.bool false))⟩]
abbrev c62_r2 : List Ins := [
  ⟨some 6, none, .mkfn 85 [] [.t 3]⟩,
  ⟨some 5, none, .mov (.t 6)⟩]
abbrev c62_r3 : List Ins := [
  ⟨some 7, none, .load 1 false (.t 3)⟩,
  ⟨some 8, none, .bin .geq (.t 7) (.c (.int .i64 0))⟩,
  ⟨some 9, none, .mov (.t 8)⟩,
  ⟨some 10, some (9, true), .load 1 false (.t 3)⟩,
  ⟨some 11, some (9, true), .bin .leq (.t 10) (.c (.int .i64 3))⟩,
  ⟨some 12, none, .pick (.t 9) (.t 11) (.c (.bool false))⟩,
  ⟨some 13, none, .mov (.t 12)⟩,
  ⟨some 14, some (13, true), .mov (.t 0)⟩,
  ⟨some 15, some (13, true), .len (.t 14)⟩,
  ⟨some 16, some (13, true), .bin .leq (.t 15) (.c (.int .i64 4))⟩,
  ⟨some 17, none, .pick (.t 13) (.t 16) (.c (.bool false))⟩,
  ⟨some 18, none, .mov (.t 17)⟩,
  ⟨some 19, some (18, true), .mov (.t 0)⟩,
  ⟨some 20, some (18, true), .mov (.t 5)⟩,
  ⟨some 21, some (18, true), .call (.c (.fn 87 [] [])) [.t 19, .t 20]⟩,
  ⟨some 22, some (18, true), .un .not (.t 21)⟩,
  ⟨some 23, none, .pick (.t 18) (.t 22) (.c (.bool false))⟩,
  ⟨some 4, none, .mov (.t 23)⟩]
abbrev c62 : IR := .seq (.reg c62_r1) (.seq (.reg c62_r2) (.seq (.reg c62_r3) (.ret)))
abbrev F62 : FnA := ⟨24, c62, [.t 4]⟩
theorem ok62 : cFn Try.prog 62 = some F62 := by kernel_rfl
theorem hb62 : HasBody Try.prog 62 := ⟨_, Try.func62, by kernel_rfl, by kernel_rfl⟩
/-! class.mayComp -/
abbrev c63_r1 : List Ins := [
  ⟨some 2, none, .box (.t 0)⟩,
  ⟨some 4, none, .mov (.c (.bool false))⟩]
abbrev c63_r2 : List Ins := [
  ⟨some 5, none, .faddr 0 (.t 2)⟩,
  ⟨some 6, none, .load 1 false (.t 5)⟩,
  ⟨some 7, none, .len (.t 6)⟩,
  ⟨some 8, none, .bin .eql (.t 7) (.c (.int .i64 0))⟩,
  ⟨some 9, none, .mov (.t 8)⟩,
  ⟨some 10, some (9, false), .faddr 0 (.t 2)⟩,
  ⟨some 11, some (9, false), .load 1 false (.t 10)⟩,
  ⟨some 12, some (9, false), .mov (.t 1)⟩,
  ⟨some 13, some (9, false), .call (.c (.fn 61 [] [])) [.t 11, .t 12]⟩,
  ⟨some 14, some (9, false), .mov (.t 13)⟩,
  ⟨some 15, some (14, true), .faddr 0 (.t 2)⟩,
  ⟨some 16, some (14, true), .load 1 false (.t 15)⟩,
  ⟨some 17, some (14, true), .call (.c (.fn 88 [] [])) [.t 16]⟩,
  ⟨some 18, some (9, false), .pick (.t 14) (.t 17) (.c (.bool false))⟩,
  ⟨some 19, none, .pick (.t 9) (.c (.bool true)) (.t 18)⟩,
  ⟨some 20, none, .mov (.t 19)⟩,
  ⟨some 21, some (20, true), .faddr 1 (.t 2)⟩,
  ⟨some 22, some (20, true), .load 1 false (.t 21)⟩,
  ⟨some 23, some (20, true), .mov (.t 1)⟩,
  ⟨some 24, some (20, true), .call (.c (.fn 62 [] [])) [.t 22, .t 23]⟩,
  ⟨some 25, none, .pick (.t 20) (.t 24) (.c (.bool false))⟩,
  ⟨some 4, none, .mov (.t 25)⟩]
abbrev c63 : IR := .seq (.reg c63_r1) (.seq (.reg c63_r2) (.ret))
abbrev F63 : FnA := ⟨26, c63, [.t 4]⟩
theorem ok63 : cFn Try.prog 63 = some F63 := by kernel_rfl
theorem hb63 : HasBody Try.prog 63 := ⟨_, Try.func63, by kernel_rfl, by kernel_rfl⟩
/-! keys.plain -/
abbrev c64_r1 : List Ins := [
  ⟨some 2, none, .mov (.c (.sl .full []))⟩]
abbrev c64_r2 : List Ins := [
  ⟨some 8, none, .mov (.t 0)⟩,
  ⟨some 9, none, .call (.c (.fn 90 [] [])) [.t 8]⟩,
  ⟨some 10, none, .call (.c (.fn 89 [] [])) [.t 9, .c (.fn 91 [] [])]⟩,
  ⟨some 3, none, .mov (.t 10)⟩]
abbrev c64_r3 : List Ins := [
  ⟨some 11, none, .mov (.t 3)⟩,
  ⟨some 12, none, .call (.c (.fn 93 [] [])) [.t 11, .c (.fn 94 [] [])]⟩]
abbrev c64_r4 : List Ins := [
  ⟨some 4, none, .mov (.c (.sl .full []))⟩]
abbrev c64_r5 : List Ins := [
  ⟨some 13, none, .mov (.t 3)⟩,
  ⟨some 14, none, .len (.t 13)⟩,
  ⟨some 15, none, .mov (.c (.int .i64 0))⟩]
abbrev c64_r6 : List Ins := [
  ⟨some 16, none, .bin .lss (.t 15) (.t 14)⟩]
abbrev c64_r7 : List Ins := [
  ⟨some 17, none, .iaddr 2 (.t 13) (.t 15)⟩,
  ⟨some 18, none, .load 2 true (.t 17)⟩,
  ⟨some 6, none, .alloc [.int .i64 0, .int .i64 0]⟩,
  ⟨none, none, .store 2 (.t 6) (.t 18)⟩]
abbrev c64_r8 : List Ins := [
  ⟨some 19, none, .mov (.t 4)⟩,
  ⟨some 20, none, .len (.t 19)⟩,
  ⟨some 7, none, .mov (.t 20)⟩]
abbrev c64_r9 : List Ins := [
  ⟨some 21, none, .mov (.t 7)⟩,
  ⟨some 22, none, .bin .gtr (.t 21) (.c (.int .i64 0))⟩,
  ⟨some 23, none, .mov (.t 22)⟩,
  ⟨some 24, some (23, true), .faddr 0 (.t 6)⟩,
  ⟨some 25, some (23, true), .load 1 false (.t 24)⟩,
  ⟨some 26, some (23, true), .mov (.t 4)⟩,
  ⟨some 27, some (23, true), .mov (.t 7)⟩,
  ⟨some 28, some (23, true), .bin .sub (.t 27) (.c (.int .i64 1))⟩,
  ⟨some 29, some (23, true), .iaddr 2 (.t 26) (.t 28)⟩,
  ⟨some 30, some (23, true), .faddr 1 (.t 29)⟩,
  ⟨some 31, some (23, true), .load 1 false (.t 30)⟩,
  ⟨some 32, some (23, true), .bin .add (.t 31) (.c (.int .i64 1))⟩,
  ⟨some 33, some (23, true), .bin .leq (.t 25) (.t 32)⟩,
  ⟨some 34, none, .pick (.t 23) (.t 33) (.c (.bool false))⟩]
def c64_a9 : List (List Nat) := [[], [0], [1], [2], [3, 2], [2], [2], [6, 2], [5, 7, 2], [8, 2], [9, 2], [10, 2], [4, 11, 2], [2, 12]]
abbrev c64_m9 : List Am.Mark := [⟨false, 0, 0⟩, ⟨false, 0, 0⟩, ⟨false, 0, 0⟩, ⟨false, 0, 0⟩, ⟨false, 0, 0⟩, ⟨false, 0, 0⟩, ⟨false, 0, 0⟩, ⟨false, 0, 0⟩, ⟨false, 0, 0⟩, ⟨false, 0, 0⟩, ⟨false, 0, 0⟩, ⟨false, 0, 0⟩, ⟨false, 0, 0⟩, ⟨false, 0, 0⟩]
theorem c64_d9 : drawFine c64_r9 c64_a9 c64_m9 = true := by decide +kernel
abbrev c64_r10 : List Ins := [
  ⟨some 35, none, .mov (.t 4)⟩,
  ⟨some 36, none, .mov (.t 7)⟩,
  ⟨some 37, none, .bin .sub (.t 36) (.c (.int .i64 1))⟩,
  ⟨some 38, none, .mov (.t 4)⟩,
  ⟨some 39, none, .mov (.t 7)⟩,
  ⟨some 40, none, .bin .sub (.t 39) (.c (.int .i64 1))⟩,
  ⟨some 41, none, .iaddr 2 (.t 38) (.t 40)⟩,
  ⟨some 42, none, .faddr 1 (.t 41)⟩,
  ⟨some 43, none, .load 1 false (.t 42)⟩,
  ⟨some 44, none, .faddr 1 (.t 6)⟩,
  ⟨some 45, none, .load 1 false (.t 44)⟩,
  ⟨some 46, none, .mx [.t 43, .t 45]⟩,
  ⟨some 47, none, .iaddr 2 (.t 35) (.t 37)⟩,
  ⟨some 48, none, .faddr 1 (.t 47)⟩,
  ⟨none, none, .store 1 (.t 48) (.t 46)⟩]
def c64_a10 : List (List Nat) := [[], [], [1], [], [], [4], [3, 5], [6], [7], [], [9], [8, 10], [0, 2, 0, 1, 2, 3, 4, 5, 6, 7, 8, 9, 10, 11], [12, 0, 1, 2, 3, 4, 5, 6, 7, 8, 9, 10, 11], [13, 11, 0, 1, 2, 3, 4, 5, 6, 7, 8, 9, 10, 11]]
abbrev c64_m10 : List Am.Mark := [⟨false, 0, 0⟩, ⟨false, 0, 0⟩, ⟨false, 0, 0⟩, ⟨false, 0, 0⟩, ⟨false, 0, 0⟩, ⟨false, 0, 0⟩, ⟨false, 0, 0⟩, ⟨false, 0, 0⟩, ⟨false, 0, 0⟩, ⟨false, 0, 0⟩, ⟨false, 0, 0⟩, ⟨false, 0, 0⟩, ⟨false, 0, 1⟩, ⟨false, 0, 0⟩, ⟨true, 0, 1⟩]
theorem c64_d10 : drawFine c64_r10 c64_a10 c64_m10 = true := by decide +kernel
abbrev c64_r11 : List Ins := [
  ⟨some 49, none, .mov (.t 4)⟩,
  ⟨some 50, none, .load 2 true (.t 6)⟩,
  ⟨some 51, none, .bsl 2 1 [.int .i64 0, .int .i64 0] [(0, .t 50)]⟩,
  ⟨some 52, none, .append 2 16 (.t 49) (.t 51)⟩,
  ⟨some 4, none, .mov (.t 52)⟩]
abbrev c64_r12 : List Ins := [
  ⟨some 53, none, .bin .add (.t 15) (.c (.int .i64 1))⟩,
  ⟨some 15, none, .mov (.t 53)⟩]
abbrev c64_l13 : IR := .seq (.reg c64_r6) (.seq (.cond (.t 16) (.skip) (.exit 0)) (.seq (.blk 1 (.seq (.reg c64_r7) (.seq (.reg c64_r8) (.seq (.seq (.dreg c64_r9 c64_a9) (.cond (.t 34) (.seq (.dreg c64_r10 c64_a10) (.exit 1)) (.skip))) (.reg c64_r11))))) (.reg c64_r12)))
abbrev c64_r14 : List Ins := [
  ⟨some 54, none, .mov (.t 4)⟩,
  ⟨some 2, none, .mov (.t 54)⟩]
abbrev c64 : IR := .seq (.reg c64_r1) (.seq (.reg c64_r2) (.seq (.reg c64_r3) (.seq (.reg c64_r4) (.seq (.seq (.reg c64_r5) (.blk 0 (.loop c64_l13))) (.seq (.reg c64_r14) (.ret))))))
abbrev F64 : FnA := ⟨55, c64, [.t 2]⟩
theorem ok64 : cFn Try.prog 64 = some F64 := by kernel_rfl
theorem hb64 : HasBody Try.prog 64 := ⟨_, Try.func64, by kernel_rfl, by kernel_rfl⟩
/-! slices.Equal:Instr -/
abbrev c65_r1 : List Ins := [
  ⟨some 4, none, .mov (.c (.bool false))⟩]
abbrev c65_r2 : List Ins := [
  ⟨some 6, none, .mov (.t 0)⟩,
  ⟨some 7, none, .len (.t 6)⟩,
  ⟨some 8, none, .mov (.t 1)⟩,
  ⟨some 9, none, .len (.t 8)⟩,
  ⟨some 10, none, .bin .neq (.t 7) (.t 9)⟩]
abbrev c65_r3 : List Ins := [
  ⟨some 4, none, .mov (.c (.bool false))⟩]
abbrev c65_r4 : List Ins := [
  ⟨some 11, none, .mov (.t 0)⟩,
  ⟨some 12, none, .len (.t 11)⟩,
  ⟨some 13, none, .mov (.c (.int .i64 0))⟩]
abbrev c65_r5 : List Ins := [
  ⟨some 14, none, .bin .lss (.t 13) (.t 12)⟩]
abbrev c65_r6 : List Ins := [
  ⟨some 15, none, .mov (.t 13)⟩,
  ⟨some 5, none, .mov (.t 15)⟩]
abbrev c65_r7 : List Ins := [
  ⟨some 16, none, .mov (.t 0)⟩,
  ⟨some 17, none, .mov (.t 5)⟩,
  ⟨some 18, none, .iaddr 9 (.t 16) (.t 17)⟩,
  ⟨some 19, none, .load 9 true (.t 18)⟩,
  ⟨some 20, none, .mov (.t 1)⟩,
  ⟨some 21, none, .mov (.t 5)⟩,
  ⟨some 22, none, .iaddr 9 (.t 20) (.t 21)⟩,
  ⟨some 23, none, .load 9 true (.t 22)⟩,
  ⟨some 24, none, .eq [.i, .i, .i, .i, .i, .i, .i, .i, .i] true true (.t 19) (.t 23)⟩]
def c65_a7 : List (List Nat) := [[], [], [0, 1], [2], [], [], [4, 5], [6], [3, 7]]
abbrev c65_m7 : List Am.Mark := [⟨false, 0, 0⟩, ⟨false, 0, 0⟩, ⟨false, 0, 0⟩, ⟨false, 0, 0⟩, ⟨false, 0, 0⟩, ⟨false, 0, 0⟩, ⟨false, 0, 0⟩, ⟨false, 0, 0⟩, ⟨false, 0, 0⟩]
theorem c65_d7 : drawFine c65_r7 c65_a7 c65_m7 = true := by decide +kernel
abbrev c65_r8 : List Ins := [
  ⟨some 4, none, .mov (.c (.bool false))⟩]
abbrev c65_r9 : List Ins := [
  ⟨some 25, none, .bin .add (.t 13) (.c (.int .i64 1))⟩,
  ⟨some 13, none, .mov (.t 25)⟩]
abbrev c65_l10 : IR := .seq (.reg c65_r5) (.seq (.cond (.t 14) (.skip) (.exit 0)) (.seq (.blk 1 (.seq (.reg c65_r6) (.seq (.dreg c65_r7 c65_a7) (.cond (.t 24) (.seq (.reg c65_r8) (.ret)) (.skip))))) (.reg c65_r9)))
abbrev c65_r11 : List Ins := [
  ⟨some 4, none, .mov (.c (.bool true))⟩]
abbrev c65 : IR := .seq (.reg c65_r1) (.seq (.seq (.reg c65_r2) (.cond (.t 10) (.seq (.reg c65_r3) (.ret)) (.skip))) (.seq (.seq (.reg c65_r4) (.blk 0 (.loop c65_l10))) (.seq (.reg c65_r11) (.ret))))
abbrev F65 : FnA := ⟨26, c65, [.t 4]⟩
theorem ok65 : cFn Try.prog 65 = some F65 := by kernel_rfl
theorem hb65 : HasBody Try.prog 65 := ⟨_, Try.func65, by kernel_rfl, by kernel_rfl⟩
/-! slices.Equal:SpanT -/
abbrev c66_r1 : List Ins := [
  ⟨some 4, none, .mov (.c (.bool false))⟩]
abbrev c66_r2 : List Ins := [
  ⟨some 6, none, .mov (.t 0)⟩,
  ⟨some 7, none, .len (.t 6)⟩,
  ⟨some 8, none, .mov (.t 1)⟩,
  ⟨some 9, none, .len (.t 8)⟩,
  ⟨some 10, none, .bin .neq (.t 7) (.t 9)⟩]
abbrev c66_r3 : List Ins := [
  ⟨some 4, none, .mov (.c (.bool false))⟩]
abbrev c66_r4 : List Ins := [
  ⟨some 11, none, .mov (.t 0)⟩,
  ⟨some 12, none, .len (.t 11)⟩,
  ⟨some 13, none, .mov (.c (.int .i64 0))⟩]
abbrev c66_r5 : List Ins := [
  ⟨some 14, none, .bin .lss (.t 13) (.t 12)⟩]
abbrev c66_r6 : List Ins := [
  ⟨some 15, none, .mov (.t 13)⟩,
  ⟨some 5, none, .mov (.t 15)⟩]
abbrev c66_r7 : List Ins := [
  ⟨some 16, none, .mov (.t 0)⟩,
  ⟨some 17, none, .mov (.t 5)⟩,
  ⟨some 18, none, .iaddr 5 (.t 16) (.t 17)⟩,
  ⟨some 19, none, .load 5 true (.t 18)⟩,
  ⟨some 20, none, .mov (.t 1)⟩,
  ⟨some 21, none, .mov (.t 5)⟩,
  ⟨some 22, none, .iaddr 5 (.t 20) (.t 21)⟩,
  ⟨some 23, none, .load 5 true (.t 22)⟩,
  ⟨some 24, none, .eq [.i, .i, .i, .i, .b] true true (.t 19) (.t 23)⟩]
def c66_a7 : List (List Nat) := [[], [], [0, 1], [2], [], [], [4, 5], [6], [3, 7]]
abbrev c66_m7 : List Am.Mark := [⟨false, 0, 0⟩, ⟨false, 0, 0⟩, ⟨false, 0, 0⟩, ⟨false, 0, 0⟩, ⟨false, 0, 0⟩, ⟨false, 0, 0⟩, ⟨false, 0, 0⟩, ⟨false, 0, 0⟩, ⟨false, 0, 0⟩]
theorem c66_d7 : drawFine c66_r7 c66_a7 c66_m7 = true := by decide +kernel
abbrev c66_r8 : List Ins := [
  ⟨some 4, none, .mov (.c (.bool false))⟩]
abbrev c66_r9 : List Ins := [
  ⟨some 25, none, .bin .add (.t 13) (.c (.int .i64 1))⟩,
  ⟨some 13, none, .mov (.t 25)⟩]
abbrev c66_l10 : IR := .seq (.reg c66_r5) (.seq (.cond (.t 14) (.skip) (.exit 0)) (.seq (.blk 1 (.seq (.reg c66_r6) (.seq (.dreg c66_r7 c66_a7) (.cond (.t 24) (.seq (.reg c66_r8) (.ret)) (.skip))))) (.reg c66_r9)))
abbrev c66_r11 : List Ins := [
  ⟨some 4, none, .mov (.c (.bool true))⟩]
abbrev c66 : IR := .seq (.reg c66_r1) (.seq (.seq (.reg c66_r2) (.cond (.t 10) (.seq (.reg c66_r3) (.ret)) (.skip))) (.seq (.seq (.reg c66_r4) (.blk 0 (.loop c66_l10))) (.seq (.reg c66_r11) (.ret))))
abbrev F66 : FnA := ⟨26, c66, [.t 4]⟩
theorem ok66 : cFn Try.prog 66 = some F66 := by kernel_rfl
theorem hb66 : HasBody Try.prog 66 := ⟨_, Try.func66, by kernel_rfl, by kernel_rfl⟩
/-! ref09.Same -/
abbrev c67_r1 : List Ins := [
  ⟨some 4, none, .mov (.c (.bool false))⟩]
abbrev c67_r2 : List Ins := [
  ⟨some 6, none, .mov (.t 0)⟩,
  ⟨some 7, none, .len (.t 6)⟩,
  ⟨some 8, none, .mov (.t 1)⟩,
  ⟨some 9, none, .len (.t 8)⟩,
  ⟨some 10, none, .bin .neq (.t 7) (.t 9)⟩]
abbrev c67_r3 : List Ins := [
  ⟨some 4, none, .mov (.c (.bool false))⟩]
abbrev c67_r4 : List Ins := [
  ⟨some 5, none, .mov (.c (.int .i64 0))⟩]
abbrev c67_r5 : List Ins := [
  ⟨some 11, none, .mov (.t 5)⟩,
  ⟨some 12, none, .mov (.t 0)⟩,
  ⟨some 13, none, .len (.t 12)⟩,
  ⟨some 14, none, .bin .lss (.t 11) (.t 13)⟩]
abbrev c67_r6 : List Ins := [
  ⟨some 17, none, .mov (.t 0)⟩,
  ⟨some 18, none, .mov (.t 5)⟩,
  ⟨some 19, none, .iaddr 9 (.t 17) (.t 18)⟩,
  ⟨some 20, none, .load 9 true (.t 19)⟩,
  ⟨some 21, none, .mov (.t 1)⟩,
  ⟨some 22, none, .mov (.t 5)⟩,
  ⟨some 23, none, .iaddr 9 (.t 21) (.t 22)⟩,
  ⟨some 24, none, .load 9 true (.t 23)⟩,
  ⟨some 25, none, .eq [.i, .i, .i, .i, .i, .i, .i, .i, .i] true true (.t 20) (.t 24)⟩]
def c67_a6 : List (List Nat) := [[], [], [0, 1], [2], [], [], [4, 5], [6], [3, 7]]
abbrev c67_m6 : List Am.Mark := [⟨false, 0, 0⟩, ⟨false, 0, 0⟩, ⟨false, 0, 0⟩, ⟨false, 0, 0⟩, ⟨false, 0, 0⟩, ⟨false, 0, 0⟩, ⟨false, 0, 0⟩, ⟨false, 0, 0⟩, ⟨false, 0, 0⟩]
theorem c67_d6 : drawFine c67_r6 c67_a6 c67_m6 = true := by decide +kernel
abbrev c67_r7 : List Ins := [
  ⟨some 4, none, .mov (.c (.bool false))⟩]
abbrev c67_r8 : List Ins := [
  ⟨some 15, none, .mov (.t 5)⟩,
  ⟨some 16, none, .bin .add (.t 15) (.c (.int .i64 1))⟩,
  ⟨some 5, none, .mov (.t 16)⟩]
abbrev c67_l9 : IR := .seq (.seq (.reg c67_r5) (.cond (.t 14) (.skip) (.exit 0))) (.seq (.blk 1 (.seq (.dreg c67_r6 c67_a6) (.cond (.t 25) (.seq (.reg c67_r7) (.ret)) (.skip)))) (.reg c67_r8))
abbrev c67_r10 : List Ins := [
  ⟨some 4, none, .mov (.c (.bool true))⟩]
abbrev c67 : IR := .seq (.reg c67_r1) (.seq (.seq (.reg c67_r2) (.cond (.t 10) (.seq (.reg c67_r3) (.ret)) (.skip))) (.seq (.seq (.reg c67_r4) (.blk 0 (.loop c67_l9))) (.seq (.reg c67_r10) (.ret))))
abbrev F67 : FnA := ⟨26, c67, [.t 4]⟩
theorem ok67 : cFn Try.prog 67 = some F67 := by kernel_rfl
theorem hb67 : HasBody Try.prog 67 := ⟨_, Try.func67, by kernel_rfl, by kernel_rfl⟩
/-! ref09.One -/
abbrev c68_r1 : List Ins := [
  ⟨some 2, none, .box (.t 0)⟩,
  ⟨some 4, none, .mov (.c (.bool false))⟩]
abbrev c68_r2 : List Ins := [
  ⟨some 11, none, .faddr 0 (.t 2)⟩,
  ⟨some 12, none, .load 1 false (.t 11)⟩,
  ⟨some 13, none, .bin .lss (.t 12) (.c (.int .i64 1))⟩,
  ⟨some 14, none, .mov (.t 13)⟩,
  ⟨some 15, some (14, false), .faddr 0 (.t 2)⟩,
  ⟨some 16, some (14, false), .load 1 false (.t 15)⟩,
  ⟨some 17, some (14, false), .bin .gtr (.t 16) (.c (.int .i64 8))⟩,
  ⟨some 18, none, .pick (.t 14) (.c (.bool true)) (.t 17)⟩,
  ⟨some 19, none, .mov (.t 18)⟩,
  ⟨some 20, some (19, false), .faddr 1 (.t 2)⟩,
  ⟨some 21, some (19, false), .load 1 false (.t 20)⟩,
  ⟨some 22, some (19, false), .bin .lss (.t 21) (.c (.int .i64 0))⟩,
  ⟨some 23, none, .pick (.t 19) (.c (.bool true)) (.t 22)⟩,
  ⟨some 24, none, .mov (.t 23)⟩,
  ⟨some 25, some (24, false), .faddr 1 (.t 2)⟩,
  ⟨some 26, some (24, false), .load 1 false (.t 25)⟩,
  ⟨some 27, some (24, false), .bin .gtr (.t 26) (.c (.int .i64 3))⟩,
  ⟨some 28, none, .pick (.t 24) (.c (.bool true)) (.t 27)⟩]
abbrev c68_r3 : List Ins := [
  ⟨some 4, none, .mov (.c (.bool false))⟩]
abbrev c68_r4 : List Ins := [
  ⟨some 5, none, .alloc [.int .i64 0, .int .i64 0]⟩]
abbrev c68_r5 : List Ins := [
  ⟨some 29, none, .faddr 0 (.t 2)⟩,
  ⟨some 30, none, .load 1 false (.t 29)⟩,
  ⟨some 31, none, .bin .neq (.t 30) (.c (.int .i64 3))⟩,
  ⟨some 6, none, .mov (.t 31)⟩]
abbrev c68_r6 : List Ins := [
  ⟨some 32, none, .faddr 0 (.t 2)⟩,
  ⟨some 33, none, .load 1 false (.t 32)⟩,
  ⟨some 34, none, .bin .leq (.t 33) (.c (.int .i64 4))⟩,
  ⟨some 7, none, .mov (.t 34)⟩]
abbrev c68_r7 : List Ins := [
  ⟨some 35, none, .faddr 0 (.t 2)⟩,
  ⟨some 36, none, .load 1 false (.t 35)⟩,
  ⟨some 37, none, .bin .eql (.t 36) (.c (.int .i64 4))⟩,
  ⟨some 8, none, .mov (.t 37)⟩]
abbrev c68_r8 : List Ins := [
  ⟨some 38, none, .faddr 0 (.t 2)⟩,
  ⟨some 39, none, .load 1 false (.t 38)⟩,
  ⟨some 40, none, .bin .eql (.t 39) (.c (.int .i64 6))⟩,
  ⟨some 41, none, .mov (.t 40)⟩,
  ⟨some 42, some (41, false), .faddr 0 (.t 2)⟩,
  ⟨some 43, some (41, false), .load 1 false (.t 42)⟩,
  ⟨some 44, some (41, false), .bin .eql (.t 43) (.c (.int .i64 7))⟩,
  ⟨some 45, none, .pick (.t 41) (.c (.bool true)) (.t 44)⟩,
  ⟨some 9, none, .mov (.t 45)⟩]
abbrev c68_r9 : List Ins := [
  ⟨some 46, none, .faddr 0 (.t 2)⟩,
  ⟨some 47, none, .load 1 false (.t 46)⟩,
  ⟨some 48, none, .bin .eql (.t 47) (.c (.int .i64 5))⟩,
  ⟨some 49, none, .mov (.t 48)⟩,
  ⟨some 50, some (49, false), .faddr 0 (.t 2)⟩,
  ⟨some 51, some (49, false), .load 1 false (.t 50)⟩,
  ⟨some 52, some (49, false), .bin .eql (.t 51) (.c (.int .i64 8))⟩,
  ⟨some 53, none, .pick (.t 49) (.c (.bool true)) (.t 52)⟩,
  ⟨some 10, none, .mov (.t 53)⟩]
abbrev c68_r10 : List Ins := [
  ⟨some 54, none, .mov (.t 6)⟩,
  ⟨some 55, none, .un .not (.t 54)⟩,
  ⟨some 56, none, .mov (.t 55)⟩,
  ⟨some 57, some (56, true), .faddr 1 (.t 2)⟩,
  ⟨some 58, some (56, true), .load 1 false (.t 57)⟩,
  ⟨some 59, some (56, true), .bin .neq (.t 58) (.c (.int .i64 0))⟩,
  ⟨some 60, none, .pick (.t 56) (.t 59) (.c (.bool false))⟩,
  ⟨some 61, none, .mov (.t 60)⟩,
  ⟨some 62, some (61, false), .mov (.t 10)⟩,
  ⟨some 63, some (61, false), .un .not (.t 62)⟩,
  ⟨some 64, some (61, false), .mov (.t 63)⟩,
  ⟨some 65, some (64, true), .faddr 8 (.t 2)⟩,
  ⟨some 66, some (64, true), .load 1 false (.t 65)⟩,
  ⟨some 67, some (64, true), .bin .neq (.t 66) (.c (.int .i64 0))⟩,
  ⟨some 68, some (61, false), .pick (.t 64) (.t 67) (.c (.bool false))⟩,
  ⟨some 69, none, .pick (.t 61) (.c (.bool true)) (.t 68)⟩,
  ⟨some 70, none, .mov (.t 69)⟩,
  ⟨some 71, some (70, false), .mov (.t 9)⟩,
  ⟨some 72, some (70, false), .un .not (.t 71)⟩,
  ⟨some 73, some (70, false), .mov (.t 72)⟩,
  ⟨some 74, some (73, true), .faddr 2 (.t 2)⟩,
  ⟨some 75, some (73, true), .load 1 false (.t 74)⟩,
  ⟨some 76, some (73, true), .bin .neq (.t 75) (.c (.int .i64 0))⟩,
  ⟨some 77, some (73, true), .mov (.t 76)⟩,
  ⟨some 78, some (77, false), .faddr 3 (.t 2)⟩,
  ⟨some 79, some (77, false), .load 1 false (.t 78)⟩,
  ⟨some 80, some (77, false), .bin .neq (.t 79) (.c (.int .i64 0))⟩,
  ⟨some 81, some (73, true), .pick (.t 77) (.c (.bool true)) (.t 80)⟩,
  ⟨some 82, some (70, false), .pick (.t 73) (.t 81) (.c (.bool false))⟩,
  ⟨some 83, none, .pick (.t 70) (.c (.bool true)) (.t 82)⟩,
  ⟨some 84, none, .mov (.t 83)⟩,
  ⟨some 85, some (84, false), .mov (.t 7)⟩,
  ⟨some 86, some (84, false), .un .not (.t 85)⟩,
  ⟨some 87, some (84, false), .mov (.t 86)⟩,
  ⟨some 88, some (87, true), .faddr 4 (.t 2)⟩,
  ⟨some 89, some (87, true), .load 2 true (.t 88)⟩,
  ⟨some 90, some (87, true), .load 2 true (.t 5)⟩,
  ⟨some 91, some (87, true), .eq [.i, .i] true true (.t 89) (.t 90)⟩,
  ⟨some 92, some (84, false), .pick (.t 87) (.t 91) (.c (.bool false))⟩,
  ⟨some 93, none, .pick (.t 84) (.c (.bool true)) (.t 92)⟩,
  ⟨some 94, none, .mov (.t 93)⟩,
  ⟨some 95, some (94, false), .mov (.t 8)⟩,
  ⟨some 96, some (94, false), .un .not (.t 95)⟩,
  ⟨some 97, some (94, false), .mov (.t 96)⟩,
  ⟨some 98, some (97, true), .faddr 6 (.t 2)⟩,
  ⟨some 99, some (97, true), .load 2 true (.t 98)⟩,
  ⟨some 100, some (97, true), .load 2 true (.t 5)⟩,
  ⟨some 101, some (97, true), .eq [.i, .i] true true (.t 99) (.t 100)⟩,
  ⟨some 102, some (94, false), .pick (.t 97) (.t 101) (.c (.bool false))⟩,
  ⟨some 103, none, .pick (.t 94) (.c (.bool true)) (.t 102)⟩]
abbrev c68_r11 : List Ins := [
  ⟨some 4, none, .mov (.c (.bool false))⟩]
abbrev c68_r12 : List Ins := [
  ⟨some 104, none, .mov (.t 9)⟩,
  ⟨some 105, none, .mov (.t 104)⟩,
  ⟨some 106, some (105, true), .faddr 2 (.t 2)⟩,
  ⟨some 107, some (105, true), .load 1 false (.t 106)⟩,
  ⟨some 108, some (105, true), .bin .lss (.t 107) (.c (.int .i64 0))⟩,
  ⟨some 109, some (105, true), .mov (.t 108)⟩,
  ⟨some 110, some (109, false), .faddr 2 (.t 2)⟩,
  ⟨some 111, some (109, false), .load 1 false (.t 110)⟩,
  ⟨some 112, some (109, false), .bin .gtr (.t 111) (.c (.int .i64 3))⟩,
  ⟨some 113, some (105, true), .pick (.t 109) (.c (.bool true)) (.t 112)⟩,
  ⟨some 114, some (105, true), .mov (.t 113)⟩,
  ⟨some 115, some (114, false), .faddr 3 (.t 2)⟩,
  ⟨some 116, some (114, false), .load 1 false (.t 115)⟩,
  ⟨some 117, some (114, false), .bin .lss (.t 116) (.c (.int .i64 0))⟩,
  ⟨some 118, some (105, true), .pick (.t 114) (.c (.bool true)) (.t 117)⟩,
  ⟨some 119, some (105, true), .mov (.t 118)⟩,
  ⟨some 120, some (119, false), .faddr 3 (.t 2)⟩,
  ⟨some 121, some (119, false), .load 1 false (.t 120)⟩,
  ⟨some 122, some (119, false), .bin .gtr (.t 121) (.c (.int .i64 3))⟩,
  ⟨some 123, some (105, true), .pick (.t 119) (.c (.bool true)) (.t 122)⟩,
  ⟨some 124, none, .pick (.t 105) (.t 123) (.c (.bool false))⟩]
abbrev c68_r13 : List Ins := [
  ⟨some 4, none, .mov (.c (.bool false))⟩]
abbrev c68_r14 : List Ins := [
  ⟨some 125, none, .mov (.t 7)⟩,
  ⟨some 126, none, .un .not (.t 125)⟩,
  ⟨some 127, none, .mov (.t 126)⟩,
  ⟨some 128, some (127, false), .faddr 4 (.t 2)⟩,
  ⟨some 129, some (127, false), .load 2 true (.t 128)⟩,
  ⟨some 130, some (127, false), .mov (.t 1)⟩,
  ⟨some 131, some (127, false), .call (.c (.fn 45 [] [])) [.t 129, .t 130]⟩,
  ⟨some 132, none, .pick (.t 127) (.c (.bool true)) (.t 131)⟩,
  ⟨some 133, none, .mov (.t 132)⟩,
  ⟨some 134, some (133, true), .mov (.t 8)⟩,
  ⟨some 135, some (133, true), .un .not (.t 134)⟩,
  ⟨some 136, some (133, true), .mov (.t 135)⟩,
  ⟨some 137, some (136, false), .faddr 6 (.t 2)⟩,
  ⟨some 138, some (136, false), .load 2 true (.t 137)⟩,
  ⟨some 139, some (136, false), .mov (.t 1)⟩,
  ⟨some 140, some (136, false), .call (.c (.fn 45 [] [])) [.t 138, .t 139]⟩,
  ⟨some 141, some (133, true), .pick (.t 136) (.c (.bool true)) (.t 140)⟩,
  ⟨some 142, none, .pick (.t 133) (.t 141) (.c (.bool false))⟩,
  ⟨some 4, none, .mov (.t 142)⟩]
abbrev c68 : IR := .seq (.reg c68_r1) (.seq (.seq (.reg c68_r2) (.cond (.t 28) (.seq (.reg c68_r3) (.ret)) (.skip))) (.seq (.reg c68_r4) (.seq (.reg c68_r5) (.seq (.reg c68_r6) (.seq (.reg c68_r7) (.seq (.reg c68_r8) (.seq (.reg c68_r9) (.seq (.seq (.reg c68_r10) (.cond (.t 103) (.seq (.reg c68_r11) (.ret)) (.skip))) (.seq (.seq (.reg c68_r12) (.cond (.t 124) (.seq (.reg c68_r13) (.ret)) (.skip))) (.seq (.reg c68_r14) (.ret)))))))))))
abbrev F68 : FnA := ⟨143, c68, [.t 4]⟩
theorem ok68 : cFn Try.prog 68 = some F68 := by kernel_rfl
theorem hb68 : HasBody Try.prog 68 := ⟨_, Try.func68, by kernel_rfl, by kernel_rfl⟩
/-! ref09.Key -/
abbrev c69_r1 : List Ins := [
  ⟨some 2, none, .box (.t 0)⟩,
  ⟨some 4, none, .mov (.c (.int .i64 0))⟩]
abbrev c69_r2 : List Ins := [
  ⟨some 5, none, .faddr 0 (.t 2)⟩,
  ⟨some 6, none, .load 1 false (.t 5)⟩,
  ⟨some 7, none, .bin .lss (.t 6) (.c (.int .i64 0))⟩]
abbrev c69_r3 : List Ins := [
  ⟨some 8, none, .faddr 1 (.t 2)⟩,
  ⟨some 9, none, .load 1 false (.t 8)⟩,
  ⟨some 4, none, .mov (.t 9)⟩]
abbrev c69_r4 : List Ins := [
  ⟨some 10, none, .faddr 1 (.t 2)⟩,
  ⟨some 11, none, .load 1 false (.t 10)⟩,
  ⟨some 12, none, .mov (.t 1)⟩,
  ⟨some 13, none, .faddr 0 (.t 2)⟩,
  ⟨some 14, none, .load 1 false (.t 13)⟩,
  ⟨some 15, none, .iaddr 1 (.t 12) (.t 14)⟩,
  ⟨some 16, none, .load 1 false (.t 15)⟩,
  ⟨some 17, none, .bin .add (.t 11) (.t 16)⟩,
  ⟨some 4, none, .mov (.t 17)⟩]
def c69_a4 : List (List Nat) := [[], [0], [], [], [3], [2, 4], [5], [1, 6], [7, 0, 1, 2, 3, 4, 5, 6, 7]]
abbrev c69_m4 : List Am.Mark := [⟨false, 0, 0⟩, ⟨false, 0, 0⟩, ⟨false, 0, 0⟩, ⟨false, 0, 0⟩, ⟨false, 0, 0⟩, ⟨false, 0, 0⟩, ⟨false, 0, 0⟩, ⟨false, 0, 0⟩, ⟨false, 0, 0⟩]
theorem c69_d4 : drawFine c69_r4 c69_a4 c69_m4 = true := by decide +kernel
abbrev c69 : IR := .seq (.reg c69_r1) (.seq (.seq (.reg c69_r2) (.cond (.t 7) (.seq (.reg c69_r3) (.ret)) (.skip))) (.seq (.dreg c69_r4 c69_a4) (.ret)))
abbrev F69 : FnA := ⟨18, c69, [.t 4]⟩
theorem ok69 : cFn Try.prog 69 = some F69 := by kernel_rfl
theorem hb69 : HasBody Try.prog 69 := ⟨_, Try.func69, by kernel_rfl, by kernel_rfl⟩
/-! ref04.Of -/
abbrev c70_r1 : List Ins := [
  ⟨some 2, none, .mov (.c .nilptr)⟩]
abbrev c70_r2 : List Ins := [
  ⟨some 3, none, .alloc (List.replicate 1000 (.bool false))⟩]
abbrev c70_r3 : List Ins := [
  ⟨some 4, none, .mov (.c (.int .i64 0))⟩]
abbrev c70_r4 : List Ins := [
  ⟨some 6, none, .mov (.t 4)⟩,
  ⟨some 7, none, .mov (.t 0)⟩,
  ⟨some 8, none, .len (.t 7)⟩,
  ⟨some 9, none, .bin .lss (.t 6) (.t 8)⟩]
abbrev c70_r5 : List Ins := [
  ⟨some 12, none, .mov (.t 0)⟩,
  ⟨some 13, none, .mov (.t 4)⟩,
  ⟨some 14, none, .iaddr 2 (.t 12) (.t 13)⟩,
  ⟨some 15, none, .faddr 0 (.t 14)⟩,
  ⟨some 16, none, .load 1 false (.t 15)⟩,
  ⟨some 17, none, .bin .lss (.t 16) (.c (.int .i64 0))⟩,
  ⟨some 18, none, .mov (.t 17)⟩,
  ⟨some 19, some (18, false), .mov (.t 0)⟩,
  ⟨some 20, some (18, false), .mov (.t 4)⟩,
  ⟨some 21, some (18, false), .iaddr 2 (.t 19) (.t 20)⟩,
  ⟨some 22, some (18, false), .faddr 1 (.t 21)⟩,
  ⟨some 23, some (18, false), .load 1 false (.t 22)⟩,
  ⟨some 24, some (18, false), .bin .gtr (.t 23) (.c (.int .i64 999))⟩,
  ⟨some 25, none, .pick (.t 18) (.c (.bool true)) (.t 24)⟩]
abbrev c70_r6 : List Ins := [
  ⟨some 26, none, .mov (.t 0)⟩,
  ⟨some 27, none, .mov (.t 4)⟩,
  ⟨some 28, none, .iaddr 2 (.t 26) (.t 27)⟩,
  ⟨some 29, none, .faddr 0 (.t 28)⟩,
  ⟨some 30, none, .load 1 false (.t 29)⟩,
  ⟨some 5, none, .mov (.t 30)⟩]
abbrev c70_r7 : List Ins := [
  ⟨some 31, none, .mov (.t 5)⟩,
  ⟨some 32, none, .mov (.t 0)⟩,
  ⟨some 33, none, .mov (.t 4)⟩,
  ⟨some 34, none, .iaddr 2 (.t 32) (.t 33)⟩,
  ⟨some 35, none, .faddr 1 (.t 34)⟩,
  ⟨some 36, none, .load 1 false (.t 35)⟩,
  ⟨some 37, none, .bin .leq (.t 31) (.t 36)⟩]
abbrev c70_r8 : List Ins := [
  ⟨some 40, none, .mov (.t 5)⟩,
  ⟨some 41, none, .iaddrA 1000 1 (.t 3) (.t 40)⟩,
  ⟨none, none, .store 1 (.t 41) (.c (.bool true))⟩]
abbrev c70_r9 : List Ins := [
  ⟨some 38, none, .mov (.t 5)⟩,
  ⟨some 39, none, .bin .add (.t 38) (.c (.int .i64 1))⟩,
  ⟨some 5, none, .mov (.t 39)⟩]
abbrev c70_l10 : IR := .seq (.seq (.reg c70_r7) (.cond (.t 37) (.skip) (.exit 2))) (.seq (.blk 3 (.reg c70_r8)) (.reg c70_r9))
abbrev c70_r11 : List Ins := [
  ⟨some 10, none, .mov (.t 4)⟩,
  ⟨some 11, none, .bin .add (.t 10) (.c (.int .i64 1))⟩,
  ⟨some 4, none, .mov (.t 11)⟩]
abbrev c70_l12 : IR := .seq (.seq (.reg c70_r4) (.cond (.t 9) (.skip) (.exit 0))) (.seq (.blk 1 (.seq (.seq (.reg c70_r5) (.cond (.t 25) (.exit 1) (.skip))) (.seq (.reg c70_r6) (.blk 2 (.loop c70_l10))))) (.reg c70_r11))
abbrev c70_r13 : List Ins := [
  ⟨some 2, none, .mov (.t 3)⟩]
abbrev c70 : IR := .seq (.reg c70_r1) (.seq (.reg c70_r2) (.seq (.seq (.reg c70_r3) (.blk 0 (.loop c70_l12))) (.seq (.reg c70_r13) (.ret))))
abbrev F70 : FnA := ⟨42, c70, [.t 2]⟩
theorem ok70 : cFn Try.prog 70 = some F70 := by kernel_rfl
theorem hb70 : HasBody Try.prog 70 := ⟨_, Try.func70, by kernel_rfl, by kernel_rfl⟩
/-! codes.Writer.put -/
abbrev c71_r1 : List Ins := [
  ⟨some 4, none, .mov (.t 0)⟩,
  ⟨some 5, none, .mov (.t 0)⟩,
  ⟨some 6, none, .nilck (.t 5)⟩,
  ⟨some 7, none, .faddr 0 (.t 6)⟩,
  ⟨some 8, none, .load 1 false (.t 7)⟩,
  ⟨some 9, none, .mov (.t 1)⟩,
  ⟨some 10, none, .append 1 8 (.t 8) (.t 9)⟩,
  ⟨some 11, none, .nilck (.t 4)⟩,
  ⟨some 12, none, .faddr 0 (.t 11)⟩,
  ⟨none, none, .store 1 (.t 12) (.t 10)⟩]
abbrev c71 : IR := .reg c71_r1
abbrev F71 : FnA := ⟨13, c71, []⟩
theorem ok71 : cFn Try.prog 71 = some F71 := by kernel_rfl
theorem hb71 : HasBody Try.prog 71 := ⟨_, Try.func71, by kernel_rfl, by kernel_rfl⟩
/-! codes.Writer.Signed -/
abbrev c72_r1 : List Ins := [
  ⟨some 4, none, .mov (.t 0)⟩,
  ⟨some 5, none, .mov (.t 1)⟩,
  ⟨some 6, none, .bin .shl (.t 5) (.c (.int .u64 1))⟩,
  ⟨some 7, none, .conv .u64 (.t 6)⟩,
  ⟨some 8, none, .mov (.t 1)⟩,
  ⟨some 9, none, .bin .shr (.t 8) (.c (.int .u64 63))⟩,
  ⟨some 10, none, .conv .u64 (.t 9)⟩,
  ⟨some 11, none, .bin .xor (.t 7) (.t 10)⟩,
  ⟨some 12, none, .bsl 1 1 [.int .u64 0] [(0, .t 11)]⟩,
  ⟨some 13, none, .call (.c (.fn 71 [] [])) [.t 4, .t 12]⟩]
abbrev c72 : IR := .reg c72_r1
abbrev F72 : FnA := ⟨14, c72, []⟩
theorem ok72 : cFn Try.prog 72 = some F72 := by kernel_rfl
theorem hb72 : HasBody Try.prog 72 := ⟨_, Try.func72, by kernel_rfl, by kernel_rfl⟩
/-! ref01.Signed -/
abbrev c73_r1 : List Ins := [
  ⟨some 2, none, .mov (.c (.int .u64 0))⟩]
abbrev c73_r2 : List Ins := [
  ⟨some 3, none, .mov (.t 0)⟩,
  ⟨some 4, none, .bin .geq (.t 3) (.c (.int .i64 0))⟩]
abbrev c73_r3 : List Ins := [
  ⟨some 5, none, .mov (.t 0)⟩,
  ⟨some 6, none, .conv .u64 (.t 5)⟩,
  ⟨some 7, none, .bin .mul (.c (.int .u64 2)) (.t 6)⟩,
  ⟨some 2, none, .mov (.t 7)⟩]
abbrev c73_r4 : List Ins := [
  ⟨some 8, none, .mov (.t 0)⟩,
  ⟨some 9, none, .bin .add (.t 8) (.c (.int .i64 1))⟩,
  ⟨some 10, none, .un .neg (.t 9)⟩,
  ⟨some 11, none, .conv .u64 (.t 10)⟩,
  ⟨some 12, none, .bin .mul (.c (.int .u64 2)) (.t 11)⟩,
  ⟨some 13, none, .bin .add (.t 12) (.c (.int .u64 1))⟩,
  ⟨some 2, none, .mov (.t 13)⟩]
abbrev c73 : IR := .seq (.reg c73_r1) (.seq (.seq (.reg c73_r2) (.cond (.t 4) (.seq (.reg c73_r3) (.ret)) (.skip))) (.seq (.reg c73_r4) (.ret)))
abbrev F73 : FnA := ⟨14, c73, [.t 2]⟩
theorem ok73 : cFn Try.prog 73 = some F73 := by kernel_rfl
theorem hb73 : HasBody Try.prog 73 := ⟨_, Try.func73, by kernel_rfl, by kernel_rfl⟩
/-! ref01.Packed -/
abbrev c74_r1 : List Ins := [
  ⟨some 2, none, .mov (.c (.sl .full []))⟩]
abbrev c74_r2 : List Ins := [
  ⟨some 3, none, .mov (.c (.sl .full []))⟩]
abbrev c74_r3 : List Ins := [
  ⟨some 4, none, .mov (.c (.int .i64 0))⟩]
abbrev c74_r4 : List Ins := [
  ⟨some 7, none, .mov (.t 4)⟩,
  ⟨some 8, none, .mov (.t 0)⟩,
  ⟨some 9, none, .lenS (.t 8)⟩,
  ⟨some 10, none, .bin .lss (.t 7) (.t 9)⟩]
abbrev c74_r5 : List Ins := [
  ⟨some 5, none, .mov (.c (.int .u64 0))⟩]
abbrev c74_r6 : List Ins := [
  ⟨some 6, none, .mov (.c (.int .i64 7))⟩]
abbrev c74_r7 : List Ins := [
  ⟨some 13, none, .mov (.t 6)⟩,
  ⟨some 14, none, .bin .geq (.t 13) (.c (.int .i64 0))⟩]
abbrev c74_r8 : List Ins := [
  ⟨some 17, none, .mov (.t 5)⟩,
  ⟨some 18, none, .bin .mul (.t 17) (.c (.int .u64 256))⟩,
  ⟨some 5, none, .mov (.t 18)⟩]
abbrev c74_r9 : List Ins := [
  ⟨some 19, none, .mov (.t 4)⟩,
  ⟨some 20, none, .mov (.t 6)⟩,
  ⟨some 21, none, .bin .add (.t 19) (.t 20)⟩,
  ⟨some 22, none, .mov (.t 0)⟩,
  ⟨some 23, none, .lenS (.t 22)⟩,
  ⟨some 24, none, .bin .lss (.t 21) (.t 23)⟩]
abbrev c74_r10 : List Ins := [
  ⟨some 25, none, .mov (.t 5)⟩,
  ⟨some 26, none, .mov (.t 0)⟩,
  ⟨some 27, none, .mov (.t 4)⟩,
  ⟨some 28, none, .mov (.t 6)⟩,
  ⟨some 29, none, .bin .add (.t 27) (.t 28)⟩,
  ⟨some 30, none, .idxS (.t 26) (.t 29)⟩,
  ⟨some 31, none, .conv .u64 (.t 30)⟩,
  ⟨some 32, none, .bin .add (.t 25) (.t 31)⟩,
  ⟨some 5, none, .mov (.t 32)⟩]
abbrev c74_r11 : List Ins := [
  ⟨some 15, none, .mov (.t 6)⟩,
  ⟨some 16, none, .bin .sub (.t 15) (.c (.int .i64 1))⟩,
  ⟨some 6, none, .mov (.t 16)⟩]
abbrev c74_l12 : IR := .seq (.seq (.reg c74_r7) (.cond (.t 14) (.skip) (.exit 2))) (.seq (.blk 3 (.seq (.reg c74_r8) (.seq (.reg c74_r9) (.cond (.t 24) (.reg c74_r10) (.skip))))) (.reg c74_r11))
abbrev c74_r13 : List Ins := [
  ⟨some 33, none, .mov (.t 3)⟩,
  ⟨some 34, none, .mov (.t 5)⟩,
  ⟨some 35, none, .bsl 1 1 [.int .u64 0] [(0, .t 34)]⟩,
  ⟨some 36, none, .append 1 8 (.t 33) (.t 35)⟩,
  ⟨some 3, none, .mov (.t 36)⟩]
abbrev c74_r14 : List Ins := [
  ⟨some 11, none, .mov (.t 4)⟩,
  ⟨some 12, none, .bin .add (.t 11) (.c (.int .i64 8))⟩,
  ⟨some 4, none, .mov (.t 12)⟩]
abbrev c74_l15 : IR := .seq (.seq (.reg c74_r4) (.cond (.t 10) (.skip) (.exit 0))) (.seq (.blk 1 (.seq (.reg c74_r5) (.seq (.seq (.reg c74_r6) (.blk 2 (.loop c74_l12))) (.reg c74_r13)))) (.reg c74_r14))
abbrev c74_r16 : List Ins := [
  ⟨some 37, none, .mov (.t 3)⟩,
  ⟨some 2, none, .mov (.t 37)⟩]
abbrev c74 : IR := .seq (.reg c74_r1) (.seq (.reg c74_r2) (.seq (.seq (.reg c74_r3) (.blk 0 (.loop c74_l15))) (.seq (.reg c74_r16) (.ret))))
abbrev F74 : FnA := ⟨38, c74, [.t 2]⟩
theorem ok74 : cFn Try.prog 74 = some F74 := by kernel_rfl
theorem hb74 : HasBody Try.prog 74 := ⟨_, Try.func74, by kernel_rfl, by kernel_rfl⟩
/-! prog.Key -/
abbrev c75_r1 : List Ins := [
  ⟨some 2, none, .box (.t 0)⟩,
  ⟨some 4, none, .mov (.c (.int .i64 0))⟩,
  ⟨some 5, none, .mov (.c (.bool false))⟩]
abbrev c75_r2 : List Ins := [
  ⟨some 6, none, .mov (.c (.fn 96 [] []))⟩]
abbrev c75_r3 : List Ins := [
  ⟨some 7, none, .load 2 true (.t 2)⟩,
  ⟨some 8, none, .mov (.t 1)⟩,
  ⟨some 9, none, .len (.t 8)⟩,
  ⟨some 10, none, .call (.c (.fn 97 [] [])) [.t 7, .t 9]⟩,
  ⟨some 11, none, .un .not (.t 10)⟩,
  ⟨some 12, none, .mov (.t 11)⟩,
  ⟨some 13, some (12, false), .mov (.t 1)⟩,
  ⟨some 14, some (12, false), .len (.t 13)⟩,
  ⟨some 15, some (12, false), .bin .gtr (.t 14) (.c (.int .i64 3))⟩,
  ⟨some 16, none, .pick (.t 12) (.c (.bool true)) (.t 15)⟩,
  ⟨some 17, none, .mov (.t 16)⟩,
  ⟨some 18, some (17, false), .mov (.t 1)⟩,
  ⟨some 19, some (17, false), .mov (.t 6)⟩,
  ⟨some 20, some (17, false), .call (.c (.fn 98 [] [])) [.t 18, .t 19]⟩,
  ⟨some 21, none, .pick (.t 17) (.c (.bool true)) (.t 20)⟩]
abbrev c75_r4 : List Ins := [
  ⟨some 4, none, .mov (.c (.int .i64 0))⟩,
  ⟨some 5, none, .mov (.c (.bool false))⟩]
abbrev c75_r5 : List Ins := [
  ⟨some 22, none, .faddr 0 (.t 2)⟩,
  ⟨some 23, none, .load 1 false (.t 22)⟩,
  ⟨some 24, none, .bin .lss (.t 23) (.c (.int .i64 0))⟩]
abbrev c75_r6 : List Ins := [
  ⟨some 25, none, .faddr 1 (.t 2)⟩,
  ⟨some 26, none, .load 1 false (.t 25)⟩,
  ⟨some 4, none, .mov (.t 26)⟩,
  ⟨some 5, none, .mov (.c (.bool true))⟩]
abbrev c75_r7 : List Ins := [
  ⟨some 27, none, .faddr 1 (.t 2)⟩,
  ⟨some 28, none, .load 1 false (.t 27)⟩,
  ⟨some 29, none, .mov (.t 1)⟩,
  ⟨some 30, none, .faddr 0 (.t 2)⟩,
  ⟨some 31, none, .load 1 false (.t 30)⟩,
  ⟨some 32, none, .iaddr 1 (.t 29) (.t 31)⟩,
  ⟨some 33, none, .load 1 false (.t 32)⟩,
  ⟨some 34, none, .bin .add (.t 28) (.t 33)⟩,
  ⟨some 4, none, .mov (.t 34)⟩,
  ⟨some 5, none, .mov (.c (.bool true))⟩]
def c75_a7 : List (List Nat) := [[], [0], [], [], [3], [2, 4], [5], [1, 6], [7, 0, 1, 2, 3, 4, 5, 6, 7], [8, 0, 1, 2, 3, 4, 5, 6, 7, 8]]
abbrev c75_m7 : List Am.Mark := [⟨false, 0, 0⟩, ⟨false, 0, 0⟩, ⟨false, 0, 0⟩, ⟨false, 0, 0⟩, ⟨false, 0, 0⟩, ⟨false, 0, 0⟩, ⟨false, 0, 0⟩, ⟨false, 0, 0⟩, ⟨false, 0, 0⟩, ⟨false, 0, 0⟩]
theorem c75_d7 : drawFine c75_r7 c75_a7 c75_m7 = true := by decide +kernel
abbrev c75 : IR := .seq (.reg c75_r1) (.seq (.reg c75_r2) (.seq (.seq (.reg c75_r3) (.cond (.t 21) (.seq (.reg c75_r4) (.ret)) (.skip))) (.seq (.seq (.reg c75_r5) (.cond (.t 24) (.seq (.reg c75_r6) (.ret)) (.skip))) (.seq (.dreg c75_r7 c75_a7) (.ret)))))
abbrev F75 : FnA := ⟨35, c75, [.t 4, .t 5]⟩
theorem ok75 : cFn Try.prog 75 = some F75 := by kernel_rfl
theorem hb75 : HasBody Try.prog 75 := ⟨_, Try.func75, by kernel_rfl, by kernel_rfl⟩
/-! keys.Plain -/
abbrev c76_r1 : List Ins := [
  ⟨some 2, none, .mov (.c (.sl .full []))⟩]
abbrev c76_r2 : List Ins := [
  ⟨some 3, none, .mov (.t 0)⟩,
  ⟨some 4, none, .bsl 1 1 [.sl .full []] [(0, .t 3)]⟩,
  ⟨some 5, none, .call (.c (.fn 64 [] [])) [.t 4]⟩,
  ⟨some 2, none, .mov (.t 5)⟩]
abbrev c76 : IR := .seq (.reg c76_r1) (.seq (.reg c76_r2) (.ret))
abbrev F76 : FnA := ⟨6, c76, [.t 2]⟩
theorem ok76 : cFn Try.prog 76 = some F76 := by kernel_rfl
theorem hb76 : HasBody Try.prog 76 := ⟨_, Try.func76, by kernel_rfl, by kernel_rfl⟩
/-! keys.Both -/
abbrev c77_r1 : List Ins := [
  ⟨some 4, none, .mov (.c (.sl .full []))⟩]
abbrev c77_r2 : List Ins := [
  ⟨some 5, none, .mov (.t 0)⟩,
  ⟨some 6, none, .bsl 1 1 [.sl .full []] [(0, .t 5)]⟩,
  ⟨some 7, none, .call (.c (.fn 64 [] [])) [.t 6]⟩,
  ⟨some 8, none, .mov (.t 1)⟩,
  ⟨some 9, none, .bsl 1 1 [.sl .full []] [(0, .t 8)]⟩,
  ⟨some 10, none, .call (.c (.fn 64 [] [])) [.t 9]⟩,
  ⟨some 11, none, .call (.c (.fn 100 [] [])) [.t 7, .t 10]⟩,
  ⟨some 12, none, .call (.c (.fn 99 [] [])) [.t 11]⟩,
  ⟨some 13, none, .bsl 1 1 [.sl .full []] [(0, .t 12)]⟩,
  ⟨some 14, none, .call (.c (.fn 64 [] [])) [.t 13]⟩,
  ⟨some 4, none, .mov (.t 14)⟩]
abbrev c77 : IR := .seq (.reg c77_r1) (.seq (.reg c77_r2) (.ret))
abbrev F77 : FnA := ⟨15, c77, [.t 4]⟩
theorem ok77 : cFn Try.prog 77 = some F77 := by kernel_rfl
theorem hb77 : HasBody Try.prog 77 := ⟨_, Try.func77, by kernel_rfl, by kernel_rfl⟩
/-! keys.others -/
abbrev c78_r1 : List Ins := [
  ⟨some 2, none, .mov (.c (.sl .full []))⟩]
abbrev c78_r2 : List Ins := [
  ⟨some 3, none, .mov (.c (.sl .full []))⟩]
abbrev c78_r3 : List Ins := [
  ⟨some 4, none, .mov (.c (.int .i64 0))⟩]
abbrev c78_r4 : List Ins := [
  ⟨some 7, none, .mov (.t 0)⟩,
  ⟨some 8, none, .len (.t 7)⟩,
  ⟨some 9, none, .mov (.c (.int .i64 0))⟩]
abbrev c78_r5 : List Ins := [
  ⟨some 10, none, .bin .lss (.t 9) (.t 8)⟩]
abbrev c78_r6 : List Ins := [
  ⟨some 11, none, .iaddr 2 (.t 7) (.t 9)⟩,
  ⟨some 12, none, .load 2 true (.t 11)⟩,
  ⟨some 6, none, .alloc [.int .i64 0, .int .i64 0]⟩,
  ⟨none, none, .store 2 (.t 6) (.t 12)⟩]
abbrev c78_r7 : List Ins := [
  ⟨some 13, none, .mov (.t 3)⟩,
  ⟨some 14, none, .mov (.t 4)⟩,
  ⟨some 15, none, .faddr 0 (.t 6)⟩,
  ⟨some 16, none, .load 1 false (.t 15)⟩,
  ⟨some 17, none, .bin .sub (.t 16) (.c (.int .i64 1))⟩,
  ⟨some 18, none, .build [.int .i64 0, .int .i64 0] [(0, (1, .t 14)), (1, (1, .t 17))]⟩,
  ⟨some 19, none, .bsl 2 1 [.int .i64 0, .int .i64 0] [(0, .t 18)]⟩,
  ⟨some 20, none, .append 2 16 (.t 13) (.t 19)⟩,
  ⟨some 3, none, .mov (.t 20)⟩]
abbrev c78_r8 : List Ins := [
  ⟨some 21, none, .faddr 1 (.t 6)⟩,
  ⟨some 22, none, .load 1 false (.t 21)⟩,
  ⟨some 23, none, .bin .add (.t 22) (.c (.int .i64 1))⟩,
  ⟨some 4, none, .mov (.t 23)⟩]
abbrev c78_r9 : List Ins := [
  ⟨some 24, none, .bin .add (.t 9) (.c (.int .i64 1))⟩,
  ⟨some 9, none, .mov (.t 24)⟩]
abbrev c78_l10 : IR := .seq (.reg c78_r5) (.seq (.cond (.t 10) (.skip) (.exit 0)) (.seq (.blk 1 (.seq (.reg c78_r6) (.seq (.reg c78_r7) (.reg c78_r8)))) (.reg c78_r9)))
abbrev c78_r11 : List Ins := [
  ⟨some 25, none, .mov (.t 3)⟩,
  ⟨some 26, none, .mov (.t 4)⟩,
  ⟨some 27, none, .build [.int .i64 0, .int .i64 0] [(0, (1, .t 26)), (1, (1, .c (.int .i64 999)))]⟩,
  ⟨some 28, none, .bsl 2 1 [.int .i64 0, .int .i64 0] [(0, .t 27)]⟩,
  ⟨some 29, none, .append 2 16 (.t 25) (.t 28)⟩,
  ⟨some 30, none, .bsl 1 1 [.sl .full []] [(0, .t 29)]⟩,
  ⟨some 31, none, .call (.c (.fn 64 [] [])) [.t 30]⟩,
  ⟨some 2, none, .mov (.t 31)⟩]
abbrev c78 : IR := .seq (.reg c78_r1) (.seq (.reg c78_r2) (.seq (.reg c78_r3) (.seq (.seq (.reg c78_r4) (.blk 0 (.loop c78_l10))) (.seq (.reg c78_r11) (.ret)))))
abbrev F78 : FnA := ⟨32, c78, [.t 2]⟩
theorem ok78 : cFn Try.prog 78 = some F78 := by kernel_rfl
theorem hb78 : HasBody Try.prog 78 := ⟨_, Try.func78, by kernel_rfl, by kernel_rfl⟩
/-! class.each$1 -/
abbrev c81_r1 : List Ins := [
  ⟨some 4, none, .faddr 2 (.t 1)⟩,
  ⟨some 5, none, .load 1 false (.t 4)⟩,
  ⟨some 6, none, .len (.t 5)⟩,
  ⟨some 7, none, .faddr 3 (.t 1)⟩,
  ⟨some 8, none, .load 1 false (.t 7)⟩,
  ⟨some 9, none, .len (.t 8)⟩,
  ⟨some 10, none, .mn [.t 6, .t 9]⟩,
  ⟨some 11, none, .mov (.c (.int .i64 0))⟩]
abbrev c81_r2 : List Ins := [
  ⟨some 12, none, .bin .lss (.t 11) (.t 10)⟩]
abbrev c81_r3 : List Ins := [
  ⟨some 13, none, .mov (.t 11)⟩,
  ⟨some 3, none, .mov (.t 13)⟩]
abbrev c81_r4 : List Ins := [
  ⟨some 14, none, .mov (.t 0)⟩,
  ⟨some 15, none, .faddr 2 (.t 1)⟩,
  ⟨some 16, none, .load 1 false (.t 15)⟩,
  ⟨some 17, none, .mov (.t 3)⟩,
  ⟨some 18, none, .iaddr 2 (.t 16) (.t 17)⟩,
  ⟨some 19, none, .load 2 true (.t 18)⟩,
  ⟨some 20, none, .faddr 3 (.t 1)⟩,
  ⟨some 21, none, .load 1 false (.t 20)⟩,
  ⟨some 22, none, .mov (.t 3)⟩,
  ⟨some 23, none, .iaddr 2 (.t 21) (.t 22)⟩,
  ⟨some 24, none, .load 2 true (.t 23)⟩,
  ⟨some 25, none, .call (.t 14) [.t 19, .t 24]⟩,
  ⟨some 26, none, .un .not (.t 25)⟩]
def c81_a4 : List (List Nat) := [[], [], [1], [], [2, 3], [4], [], [6], [], [7, 8], [9], [0, 5, 10], [11]]
abbrev c81_m4 : List Am.Mark := [⟨false, 0, 0⟩, ⟨false, 0, 1⟩, ⟨false, 0, 1⟩, ⟨false, 0, 1⟩, ⟨false, 0, 1⟩, ⟨false, 0, 0⟩, ⟨false, 0, 1⟩, ⟨false, 0, 1⟩, ⟨false, 0, 1⟩, ⟨false, 0, 1⟩, ⟨false, 0, 0⟩, ⟨true, 0, 1⟩, ⟨false, 1, 1⟩]
theorem c81_d4 : drawFine c81_r4 c81_a4 c81_m4 = true := by decide +kernel
abbrev c81_r5 : List Ins := [
  ⟨some 27, none, .bin .add (.t 11) (.c (.int .i64 1))⟩,
  ⟨some 11, none, .mov (.t 27)⟩]
abbrev c81_l6 : IR := .seq (.reg c81_r2) (.seq (.cond (.t 12) (.skip) (.exit 0)) (.seq (.blk 1 (.seq (.reg c81_r3) (.seq (.dreg c81_r4 c81_a4) (.cond (.t 26) (.ret) (.skip))))) (.reg c81_r5)))
abbrev c81 : IR := .seq (.reg c81_r1) (.blk 0 (.loop c81_l6))
abbrev F81 : FnA := ⟨28, c81, []⟩
theorem ok81 : cFn Try.prog 81 = some F81 := by kernel_rfl
theorem hb81 : HasBody Try.prog 81 := ⟨_, Try.func81, by kernel_rfl, by kernel_rfl⟩
/-! slices.ContainsFunc:Instr -/
abbrev c82_r1 : List Ins := [
  ⟨some 4, none, .mov (.c (.bool false))⟩]
abbrev c82_r2 : List Ins := [
  ⟨some 5, none, .mov (.t 0)⟩,
  ⟨some 6, none, .mov (.t 1)⟩,
  ⟨some 7, none, .call (.c (.fn 101 [] [])) [.t 5, .t 6]⟩,
  ⟨some 8, none, .bin .geq (.t 7) (.c (.int .i64 0))⟩,
  ⟨some 4, none, .mov (.t 8)⟩]
abbrev c82 : IR := .seq (.reg c82_r1) (.seq (.reg c82_r2) (.ret))
abbrev F82 : FnA := ⟨9, c82, [.t 4]⟩
theorem ok82 : cFn Try.prog 82 = some F82 := by kernel_rfl
theorem hb82 : HasBody Try.prog 82 := ⟨_, Try.func82, by kernel_rfl, by kernel_rfl⟩
/-! prog.May$1 -/
abbrev c83_r1 : List Ins := [
  ⟨some 2, none, .box (.t 0)⟩,
  ⟨some 3, none, .mov (.c (.bool false))⟩]
abbrev c83_r2 : List Ins := [
  ⟨some 4, none, .load 9 true (.t 2)⟩,
  ⟨some 5, none, .load 1 false (.t 1)⟩,
  ⟨some 6, none, .call (.c (.fn 84 [] [])) [.t 4, .t 5]⟩,
  ⟨some 7, none, .un .not (.t 6)⟩,
  ⟨some 3, none, .mov (.t 7)⟩]
abbrev c83 : IR := .seq (.reg c83_r1) (.seq (.reg c83_r2) (.ret))
abbrev F83 : FnA := ⟨8, c83, [.t 3]⟩
theorem ok83 : cFn Try.prog 83 = some F83 := by kernel_rfl
theorem hb83 : HasBody Try.prog 83 := ⟨_, Try.func83, by kernel_rfl, by kernel_rfl⟩
/-! prog.may -/
abbrev c84_r1 : List Ins := [
  ⟨some 2, none, .box (.t 0)⟩,
  ⟨some 3, none, .box (.t 1)⟩,
  ⟨some 4, none, .mov (.c (.bool false))⟩]
abbrev c84_r2 : List Ins := [
  ⟨some 9, none, .load 9 true (.t 2)⟩,
  ⟨some 10, none, .call (.c (.fn 102 [] [])) [.t 9]⟩,
  ⟨some 8, none, .mov (.t 10)⟩,
  ⟨some 11, none, .ext (.t 8) 0⟩,
  ⟨some 12, none, .ext (.t 8) 1⟩,
  ⟨some 5, none, .alloc [.int .i64 0, .int .i64 0, .int .i64 0, .int .i64 0, .int .i64 0, .int .i64 0, .int .i64 0, .int .i64 0, .int .i64 0]⟩,
  ⟨none, none, .store 9 (.t 5) (.t 11)⟩,
  ⟨some 6, none, .mov (.t 12)⟩]
abbrev c84_r3 : List Ins := [
  ⟨some 13, none, .mkfn 103 [] [.t 3]⟩,
  ⟨some 7, none, .mov (.t 13)⟩]
abbrev c84_r4 : List Ins := [
  ⟨some 14, none, .mov (.t 6)⟩,
  ⟨some 15, none, .mov (.t 14)⟩,
  ⟨some 16, some (15, true), .load 9 true (.t 2)⟩,
  ⟨some 17, some (15, true), .load 9 true (.t 5)⟩,
  ⟨some 18, some (15, true), .eq [.i, .i, .i, .i, .i, .i, .i, .i, .i] true false (.t 16) (.t 17)⟩,
  ⟨some 19, none, .pick (.t 15) (.t 18) (.c (.bool false))⟩,
  ⟨some 20, none, .mov (.t 19)⟩,
  ⟨some 21, some (20, true), .faddr 1 (.t 2)⟩,
  ⟨some 22, some (20, true), .load 1 false (.t 21)⟩,
  ⟨some 23, some (20, true), .call (.c (.fn 104 [] [])) [.t 22]⟩,
  ⟨some 24, none, .pick (.t 20) (.t 23) (.c (.bool false))⟩,
  ⟨some 25, none, .mov (.t 24)⟩,
  ⟨some 26, some (25, true), .faddr 2 (.t 2)⟩,
  ⟨some 27, some (25, true), .load 1 false (.t 26)⟩,
  ⟨some 28, some (25, true), .call (.c (.fn 104 [] [])) [.t 27]⟩,
  ⟨some 29, none, .pick (.t 25) (.t 28) (.c (.bool false))⟩,
  ⟨some 30, none, .mov (.t 29)⟩,
  ⟨some 31, some (30, true), .faddr 3 (.t 2)⟩,
  ⟨some 32, some (30, true), .load 1 false (.t 31)⟩,
  ⟨some 33, some (30, true), .call (.c (.fn 104 [] [])) [.t 32]⟩,
  ⟨some 34, none, .pick (.t 30) (.t 33) (.c (.bool false))⟩,
  ⟨some 35, none, .mov (.t 34)⟩,
  ⟨some 36, some (35, true), .load 9 true (.t 2)⟩,
  ⟨some 37, some (35, true), .call (.c (.fn 106 [] [])) [.t 36]⟩,
  ⟨some 38, some (35, true), .mov (.t 7)⟩,
  ⟨some 39, some (35, true), .call (.c (.fn 105 [] [])) [.t 37, .t 38]⟩,
  ⟨some 40, some (35, true), .un .not (.t 39)⟩,
  ⟨some 41, none, .pick (.t 35) (.t 40) (.c (.bool false))⟩,
  ⟨some 4, none, .mov (.t 41)⟩]
abbrev c84 : IR := .seq (.reg c84_r1) (.seq (.reg c84_r2) (.seq (.reg c84_r3) (.seq (.reg c84_r4) (.ret))))
abbrev F84 : FnA := ⟨42, c84, [.t 4]⟩
theorem ok84 : cFn Try.prog 84 = some F84 := by kernel_rfl
theorem hb84 : HasBody Try.prog 84 := ⟨_, Try.func84, by kernel_rfl, by kernel_rfl⟩
/-! foot.May$1 -/
abbrev c85_r1 : List Ins := [
  ⟨some 2, none, .box (.t 0)⟩,
  ⟨some 3, none, .mov (.c (.bool false))⟩]
abbrev c85_r2 : List Ins := [
  ⟨some 4, none, .faddr 0 (.t 2)⟩,
  ⟨some 5, none, .load 2 true (.t 4)⟩,
  ⟨some 6, none, .call (.c (.fn 86 [] [])) [.t 5]⟩,
  ⟨some 7, none, .load 1 false (.t 1)⟩,
  ⟨some 8, none, .call (.c (.fn 61 [] [])) [.t 6, .t 7]⟩,
  ⟨some 9, none, .un .not (.t 8)⟩,
  ⟨some 10, none, .mov (.t 9)⟩,
  ⟨some 11, some (10, false), .faddr 2 (.t 2)⟩,
  ⟨some 12, some (10, false), .load 2 true (.t 11)⟩,
  ⟨some 13, some (10, false), .call (.c (.fn 86 [] [])) [.t 12]⟩,
  ⟨some 14, some (10, false), .load 1 false (.t 1)⟩,
  ⟨some 15, some (10, false), .call (.c (.fn 61 [] [])) [.t 13, .t 14]⟩,
  ⟨some 16, some (10, false), .un .not (.t 15)⟩,
  ⟨some 17, none, .pick (.t 10) (.c (.bool true)) (.t 16)⟩,
  ⟨some 3, none, .mov (.t 17)⟩]
def c85_a2 : List (List Nat) := [[], [0], [1], [], [2, 3, 2], [4], [5, 4], [6], [7, 6], [8, 6, 6], [6], [9, 10, 9, 6], [11, 6], [6, 12], [13, 11, 0, 1, 2, 3, 4, 5, 6, 7, 8, 9, 10, 11, 12, 13]]
abbrev c85_m2 : List Am.Mark := [⟨false, 0, 0⟩, ⟨false, 0, 0⟩, ⟨false, 0, 0⟩, ⟨false, 0, 0⟩, ⟨false, 0, 0⟩, ⟨false, 0, 0⟩, ⟨false, 0, 0⟩, ⟨false, 0, 0⟩, ⟨false, 0, 0⟩, ⟨false, 0, 0⟩, ⟨false, 0, 0⟩, ⟨false, 0, 0⟩, ⟨false, 0, 0⟩, ⟨false, 0, 0⟩, ⟨false, 0, 0⟩]
theorem c85_d2 : drawFine c85_r2 c85_a2 c85_m2 = true := by decide +kernel
abbrev c85 : IR := .seq (.reg c85_r1) (.seq (.dreg c85_r2 c85_a2) (.ret))
abbrev F85 : FnA := ⟨18, c85, [.t 3]⟩
theorem ok85 : cFn Try.prog 85 = some F85 := by kernel_rfl
theorem hb85 : HasBody Try.prog 85 := ⟨_, Try.func85, by kernel_rfl, by kernel_rfl⟩
/-! foot.reads -/
abbrev c86_r1 : List Ins := [
  ⟨some 1, none, .box (.t 0)⟩,
  ⟨some 2, none, .mov (.c (.sl .full []))⟩]
abbrev c86_r2 : List Ins := [
  ⟨some 3, none, .load 2 true (.t 1)⟩,
  ⟨some 4, none, .build [.int .i64 0, .int .i64 0, .int .i64 0, .int .i64 0, .int .i64 0, .int .i64 0, .int .i64 0, .int .i64 0, .int .i64 0] [(0, (1, .c (.int .i64 1))), (4, (2, .t 3))]⟩,
  ⟨some 5, none, .bsl 9 1 [.int .i64 0, .int .i64 0, .int .i64 0, .int .i64 0, .int .i64 0, .int .i64 0, .int .i64 0, .int .i64 0, .int .i64 0] [(0, .t 4)]⟩,
  ⟨some 2, none, .mov (.t 5)⟩]
abbrev c86 : IR := .seq (.reg c86_r1) (.seq (.reg c86_r2) (.ret))
abbrev F86 : FnA := ⟨6, c86, [.t 2]⟩
theorem ok86 : cFn Try.prog 86 = some F86 := by kernel_rfl
theorem hb86 : HasBody Try.prog 86 := ⟨_, Try.func86, by kernel_rfl, by kernel_rfl⟩
/-! slices.ContainsFunc:SpanT -/
abbrev c87_r1 : List Ins := [
  ⟨some 4, none, .mov (.c (.bool false))⟩]
abbrev c87_r2 : List Ins := [
  ⟨some 5, none, .mov (.t 0)⟩,
  ⟨some 6, none, .mov (.t 1)⟩,
  ⟨some 7, none, .call (.c (.fn 107 [] [])) [.t 5, .t 6]⟩,
  ⟨some 8, none, .bin .geq (.t 7) (.c (.int .i64 0))⟩,
  ⟨some 4, none, .mov (.t 8)⟩]
abbrev c87 : IR := .seq (.reg c87_r1) (.seq (.reg c87_r2) (.ret))
abbrev F87 : FnA := ⟨9, c87, [.t 4]⟩
theorem ok87 : cFn Try.prog 87 = some F87 := by kernel_rfl
theorem hb87 : HasBody Try.prog 87 := ⟨_, Try.func87, by kernel_rfl, by kernel_rfl⟩
/-! prog.Sure -/
abbrev c88_r1 : List Ins := [
  ⟨some 2, none, .mov (.c (.bool false))⟩]
abbrev c88_r2 : List Ins := [
  ⟨some 3, none, .mov (.t 0)⟩,
  ⟨some 4, none, .call (.c (.fn 82 [] [])) [.t 3, .c (.fn 108 [] [])]⟩,
  ⟨some 5, none, .un .not (.t 4)⟩,
  ⟨some 2, none, .mov (.t 5)⟩]
abbrev c88 : IR := .seq (.reg c88_r1) (.seq (.reg c88_r2) (.ret))
abbrev F88 : FnA := ⟨6, c88, [.t 2]⟩
theorem ok88 : cFn Try.prog 88 = some F88 := by kernel_rfl
theorem hb88 : HasBody Try.prog 88 := ⟨_, Try.func88, by kernel_rfl, by kernel_rfl⟩
/-! slices.DeleteFunc:Span -/
abbrev c89_r1 : List Ins := [
  ⟨some 4, none, .mov (.c (.sl .full []))⟩]
abbrev c89_r2 : List Ins := [
  ⟨some 8, none, .mov (.t 0)⟩,
  ⟨some 9, none, .mov (.t 1)⟩,
  ⟨some 10, none, .call (.c (.fn 109 [] [])) [.t 8, .t 9]⟩,
  ⟨some 5, none, .mov (.t 10)⟩]
abbrev c89_r3 : List Ins := [
  ⟨some 11, none, .mov (.t 5)⟩,
  ⟨some 12, none, .bin .eql (.t 11) (.c (.int .i64 (-1)))⟩]
abbrev c89_r4 : List Ins := [
  ⟨some 13, none, .mov (.t 0)⟩,
  ⟨some 4, none, .mov (.t 13)⟩]
abbrev c89_r5 : List Ins := [
  ⟨some 14, none, .mov (.t 5)⟩,
  ⟨some 15, none, .bin .add (.t 14) (.c (.int .i64 1))⟩,
  ⟨some 6, none, .mov (.t 15)⟩]
abbrev c89_r6 : List Ins := [
  ⟨some 16, none, .mov (.t 6)⟩,
  ⟨some 17, none, .mov (.t 0)⟩,
  ⟨some 18, none, .len (.t 17)⟩,
  ⟨some 19, none, .bin .lss (.t 16) (.t 18)⟩]
abbrev c89_r7 : List Ins := [
  ⟨some 22, none, .mov (.t 0)⟩,
  ⟨some 23, none, .mov (.t 6)⟩,
  ⟨some 24, none, .iaddr 2 (.t 22) (.t 23)⟩,
  ⟨some 25, none, .load 2 true (.t 24)⟩,
  ⟨some 7, none, .alloc [.int .i64 0, .int .i64 0]⟩,
  ⟨none, none, .store 2 (.t 7) (.t 25)⟩]
abbrev c89_r8 : List Ins := [
  ⟨some 26, none, .mov (.t 1)⟩,
  ⟨some 27, none, .load 2 true (.t 7)⟩,
  ⟨some 28, none, .call (.t 26) [.t 27]⟩,
  ⟨some 29, none, .un .not (.t 28)⟩]
abbrev c89_r9 : List Ins := [
  ⟨some 30, none, .mov (.t 0)⟩,
  ⟨some 31, none, .mov (.t 5)⟩,
  ⟨some 32, none, .load 2 true (.t 7)⟩,
  ⟨some 33, none, .iaddr 2 (.t 30) (.t 31)⟩,
  ⟨none, none, .store 2 (.t 33) (.t 32)⟩]
abbrev c89_r10 : List Ins := [
  ⟨some 34, none, .mov (.t 5)⟩,
  ⟨some 35, none, .bin .add (.t 34) (.c (.int .i64 1))⟩,
  ⟨some 5, none, .mov (.t 35)⟩]
abbrev c89_r11 : List Ins := [
  ⟨some 20, none, .mov (.t 6)⟩,
  ⟨some 21, none, .bin .add (.t 20) (.c (.int .i64 1))⟩,
  ⟨some 6, none, .mov (.t 21)⟩]
abbrev c89_l12 : IR := .seq (.seq (.reg c89_r6) (.cond (.t 19) (.skip) (.exit 0))) (.seq (.blk 1 (.seq (.reg c89_r7) (.seq (.reg c89_r8) (.cond (.t 29) (.seq (.reg c89_r9) (.reg c89_r10)) (.skip))))) (.reg c89_r11))
abbrev c89_r13 : List Ins := [
  ⟨some 36, none, .mov (.t 0)⟩,
  ⟨some 37, none, .mov (.t 5)⟩,
  ⟨some 38, none, .slice 2 (.t 36) (some (.t 37)) none none⟩,
  ⟨none, none, .clear 2 [.int .i64 0, .int .i64 0] (.t 38)⟩]
abbrev c89_r14 : List Ins := [
  ⟨some 39, none, .mov (.t 0)⟩,
  ⟨some 40, none, .mov (.t 5)⟩,
  ⟨some 41, none, .slice 2 (.t 39) none (some (.t 40)) none⟩,
  ⟨some 4, none, .mov (.t 41)⟩]
abbrev c89 : IR := .seq (.reg c89_r1) (.seq (.reg c89_r2) (.seq (.seq (.reg c89_r3) (.cond (.t 12) (.seq (.reg c89_r4) (.ret)) (.skip))) (.seq (.seq (.reg c89_r5) (.blk 0 (.loop c89_l12))) (.seq (.reg c89_r13) (.seq (.reg c89_r14) (.ret))))))
abbrev F89 : FnA := ⟨42, c89, [.t 4]⟩
theorem ok89 : cFn Try.prog 89 = some F89 := by kernel_rfl
theorem hb89 : HasBody Try.prog 89 := ⟨_, Try.func89, by kernel_rfl, by kernel_rfl⟩
/-! slices.Concat:Span -/
abbrev c90_r1 : List Ins := [
  ⟨some 2, none, .mov (.c (.sl .full []))⟩]
abbrev c90_r2 : List Ins := [
  ⟨some 3, none, .mov (.c (.int .i64 0))⟩]
abbrev c90_r3 : List Ins := [
  ⟨some 9, none, .mov (.t 0)⟩,
  ⟨some 10, none, .len (.t 9)⟩,
  ⟨some 11, none, .mov (.c (.int .i64 0))⟩]
abbrev c90_r4 : List Ins := [
  ⟨some 12, none, .bin .lss (.t 11) (.t 10)⟩]
abbrev c90_r5 : List Ins := [
  ⟨some 13, none, .iaddr 1 (.t 9) (.t 11)⟩,
  ⟨some 14, none, .load 1 false (.t 13)⟩,
  ⟨some 5, none, .mov (.t 14)⟩]
abbrev c90_r6 : List Ins := [
  ⟨some 15, none, .mov (.t 3)⟩,
  ⟨some 16, none, .mov (.t 5)⟩,
  ⟨some 17, none, .len (.t 16)⟩,
  ⟨some 18, none, .bin .add (.t 15) (.t 17)⟩,
  ⟨some 3, none, .mov (.t 18)⟩]
abbrev c90_r7 : List Ins := [
  ⟨some 19, none, .mov (.t 3)⟩,
  ⟨some 20, none, .bin .lss (.t 19) (.c (.int .i64 0))⟩]
abbrev c90_r8 : List Ins := [
  ⟨some 21, none, .copy 0 (.c .undef) (.c .undef)⟩,
  ⟨none, none, .copy 0 (.c .undef) (.c .undef)⟩]
abbrev c90_r9 : List Ins := [
  ⟨some 22, none, .bin .add (.t 11) (.c (.int .i64 1))⟩,
  ⟨some 11, none, .mov (.t 22)⟩]
abbrev c90_l10 : IR := .seq (.reg c90_r4) (.seq (.cond (.t 12) (.skip) (.exit 0)) (.seq (.blk 1 (.seq (.reg c90_r5) (.seq (.reg c90_r6) (.seq (.reg c90_r7) (.cond (.t 20) (.reg c90_r8) (.skip)))))) (.reg c90_r9)))
abbrev c90_r11 : List Ins := [
  ⟨some 23, none, .mov (.t 3)⟩,
  ⟨some 24, none, .call (.c (.fn 110 [] [])) [.c (.sl .full []), .t 23]⟩,
  ⟨some 6, none, .mov (.t 24)⟩]
abbrev c90_r12 : List Ins := [
  ⟨some 25, none, .mov (.t 0)⟩,
  ⟨some 26, none, .len (.t 25)⟩,
  ⟨some 27, none, .mov (.c (.int .i64 0))⟩]
abbrev c90_r13 : List Ins := [
  ⟨some 28, none, .bin .lss (.t 27) (.t 26)⟩]
abbrev c90_r14 : List Ins := [
  ⟨some 29, none, .iaddr 1 (.t 25) (.t 27)⟩,
  ⟨some 30, none, .load 1 false (.t 29)⟩,
  ⟨some 8, none, .mov (.t 30)⟩]
abbrev c90_r15 : List Ins := [
  ⟨some 31, none, .mov (.t 6)⟩,
  ⟨some 32, none, .mov (.t 8)⟩,
  ⟨some 33, none, .append 2 16 (.t 31) (.t 32)⟩,
  ⟨some 6, none, .mov (.t 33)⟩]
abbrev c90_r16 : List Ins := [
  ⟨some 34, none, .bin .add (.t 27) (.c (.int .i64 1))⟩,
  ⟨some 27, none, .mov (.t 34)⟩]
abbrev c90_l17 : IR := .seq (.reg c90_r13) (.seq (.cond (.t 28) (.skip) (.exit 2)) (.seq (.blk 3 (.seq (.reg c90_r14) (.reg c90_r15))) (.reg c90_r16)))
abbrev c90_r18 : List Ins := [
  ⟨some 35, none, .mov (.t 6)⟩,
  ⟨some 2, none, .mov (.t 35)⟩]
abbrev c90 : IR := .seq (.reg c90_r1) (.seq (.reg c90_r2) (.seq (.seq (.reg c90_r3) (.blk 0 (.loop c90_l10))) (.seq (.reg c90_r11) (.seq (.seq (.reg c90_r12) (.blk 2 (.loop c90_l17))) (.seq (.reg c90_r18) (.ret))))))
abbrev F90 : FnA := ⟨36, c90, [.t 2]⟩
theorem ok90 : cFn Try.prog 90 = some F90 := by kernel_rfl
theorem hb90 : HasBody Try.prog 90 := ⟨_, Try.func90, by kernel_rfl, by kernel_rfl⟩
/-! keys.plain$1 -/
abbrev c91_r1 : List Ins := [
  ⟨some 1, none, .box (.t 0)⟩,
  ⟨some 2, none, .mov (.c (.bool false))⟩]
abbrev c91_r2 : List Ins := [
  ⟨some 3, none, .load 2 true (.t 1)⟩,
  ⟨some 4, none, .call (.c (.fn 92 [] [])) [.t 3]⟩,
  ⟨some 5, none, .un .not (.t 4)⟩,
  ⟨some 2, none, .mov (.t 5)⟩]
abbrev c91 : IR := .seq (.reg c91_r1) (.seq (.reg c91_r2) (.ret))
abbrev F91 : FnA := ⟨6, c91, [.t 2]⟩
theorem ok91 : cFn Try.prog 91 = some F91 := by kernel_rfl
theorem hb91 : HasBody Try.prog 91 := ⟨_, Try.func91, by kernel_rfl, by kernel_rfl⟩
/-! keys.May -/
abbrev c92_r1 : List Ins := [
  ⟨some 1, none, .box (.t 0)⟩,
  ⟨some 2, none, .mov (.c (.bool false))⟩]
abbrev c92_r2 : List Ins := [
  ⟨some 3, none, .faddr 0 (.t 1)⟩,
  ⟨some 4, none, .load 1 false (.t 3)⟩,
  ⟨some 5, none, .bin .geq (.t 4) (.c (.int .i64 0))⟩,
  ⟨some 6, none, .mov (.t 5)⟩,
  ⟨some 7, some (6, true), .faddr 0 (.t 1)⟩,
  ⟨some 8, some (6, true), .load 1 false (.t 7)⟩,
  ⟨some 9, some (6, true), .faddr 1 (.t 1)⟩,
  ⟨some 10, some (6, true), .load 1 false (.t 9)⟩,
  ⟨some 11, some (6, true), .bin .leq (.t 8) (.t 10)⟩,
  ⟨some 12, none, .pick (.t 6) (.t 11) (.c (.bool false))⟩,
  ⟨some 13, none, .mov (.t 12)⟩,
  ⟨some 14, some (13, true), .faddr 1 (.t 1)⟩,
  ⟨some 15, some (13, true), .load 1 false (.t 14)⟩,
  ⟨some 16, some (13, true), .bin .leq (.t 15) (.c (.int .i64 999))⟩,
  ⟨some 17, none, .pick (.t 13) (.t 16) (.c (.bool false))⟩,
  ⟨some 2, none, .mov (.t 17)⟩]
abbrev c92 : IR := .seq (.reg c92_r1) (.seq (.reg c92_r2) (.ret))
abbrev F92 : FnA := ⟨18, c92, [.t 2]⟩
theorem ok92 : cFn Try.prog 92 = some F92 := by kernel_rfl
theorem hb92 : HasBody Try.prog 92 := ⟨_, Try.func92, by kernel_rfl, by kernel_rfl⟩
/-! slices.SortFunc:Span -/
abbrev c93_r1 : List Ins := [
  ⟨some 5, none, .mov (.t 0)⟩,
  ⟨some 6, none, .len (.t 5)⟩,
  ⟨some 4, none, .mov (.t 6)⟩]
abbrev c93_r2 : List Ins := [
  ⟨some 7, none, .mov (.t 0)⟩,
  ⟨some 8, none, .mov (.t 4)⟩,
  ⟨some 9, none, .mov (.t 4)⟩,
  ⟨some 10, none, .conv .u64 (.t 9)⟩,
  ⟨some 11, none, .call (.c (.fn 112 [] [])) [.t 10]⟩,
  ⟨some 12, none, .mov (.t 1)⟩,
  ⟨some 13, none, .call (.c (.fn 111 [] [])) [.t 7, .c (.int .i64 0), .t 8, .t 11, .t 12]⟩]
abbrev c93 : IR := .seq (.reg c93_r1) (.reg c93_r2)
abbrev F93 : FnA := ⟨14, c93, []⟩
theorem ok93 : cFn Try.prog 93 = some F93 := by kernel_rfl
theorem hb93 : HasBody Try.prog 93 := ⟨_, Try.func93, by kernel_rfl, by kernel_rfl⟩
/-! keys.plain$2 -/
abbrev c94_r1 : List Ins := [
  ⟨some 2, none, .box (.t 0)⟩,
  ⟨some 3, none, .box (.t 1)⟩,
  ⟨some 4, none, .mov (.c (.int .i64 0))⟩]
abbrev c94_r2 : List Ins := [
  ⟨some 5, none, .faddr 0 (.t 2)⟩,
  ⟨some 6, none, .load 1 false (.t 5)⟩,
  ⟨some 7, none, .faddr 0 (.t 3)⟩,
  ⟨some 8, none, .load 1 false (.t 7)⟩,
  ⟨some 9, none, .call (.c (.fn 95 [] [])) [.t 6, .t 8]⟩,
  ⟨some 4, none, .mov (.t 9)⟩]
abbrev c94 : IR := .seq (.reg c94_r1) (.seq (.reg c94_r2) (.ret))
abbrev F94 : FnA := ⟨10, c94, [.t 4]⟩
theorem ok94 : cFn Try.prog 94 = some F94 := by kernel_rfl
theorem hb94 : HasBody Try.prog 94 := ⟨_, Try.func94, by kernel_rfl, by kernel_rfl⟩
/-! cmp.Compare:int -/
abbrev c95_r1 : List Ins := [
  ⟨some 4, none, .mov (.c (.int .i64 0))⟩]
abbrev c95_r2 : List Ins := [
  ⟨some 7, none, .mov (.t 0)⟩,
  ⟨some 8, none, .call (.c (.fn 113 [] [])) [.t 7]⟩,
  ⟨some 5, none, .mov (.t 8)⟩]
abbrev c95_r3 : List Ins := [
  ⟨some 9, none, .mov (.t 1)⟩,
  ⟨some 10, none, .call (.c (.fn 113 [] [])) [.t 9]⟩,
  ⟨some 6, none, .mov (.t 10)⟩]
abbrev c95_r4 : List Ins := [
  ⟨some 11, none, .mov (.t 5)⟩]
abbrev c95_r5 : List Ins := [
  ⟨some 12, none, .mov (.t 6)⟩]
abbrev c95_r6 : List Ins := [
  ⟨some 4, none, .mov (.c (.int .i64 0))⟩]
abbrev c95_r7 : List Ins := [
  ⟨some 4, none, .mov (.c (.int .i64 (-1)))⟩]
abbrev c95_r8 : List Ins := [
  ⟨some 13, none, .mov (.t 6)⟩]
abbrev c95_r9 : List Ins := [
  ⟨some 4, none, .mov (.c (.int .i64 1))⟩]
abbrev c95_r10 : List Ins := [
  ⟨some 14, none, .mov (.t 0)⟩,
  ⟨some 15, none, .mov (.t 1)⟩,
  ⟨some 16, none, .bin .lss (.t 14) (.t 15)⟩]
abbrev c95_r11 : List Ins := [
  ⟨some 4, none, .mov (.c (.int .i64 (-1)))⟩]
abbrev c95_r12 : List Ins := [
  ⟨some 17, none, .mov (.t 0)⟩,
  ⟨some 18, none, .mov (.t 1)⟩,
  ⟨some 19, none, .bin .gtr (.t 17) (.t 18)⟩]
abbrev c95_r13 : List Ins := [
  ⟨some 4, none, .mov (.c (.int .i64 1))⟩]
abbrev c95_r14 : List Ins := [
  ⟨some 4, none, .mov (.c (.int .i64 0))⟩]
abbrev c95 : IR := .seq (.reg c95_r1) (.seq (.reg c95_r2) (.seq (.reg c95_r3) (.seq (.seq (.reg c95_r4) (.cond (.t 11) (.seq (.seq (.reg c95_r5) (.cond (.t 12) (.seq (.reg c95_r6) (.ret)) (.skip))) (.seq (.reg c95_r7) (.ret))) (.skip))) (.seq (.seq (.reg c95_r8) (.cond (.t 13) (.seq (.reg c95_r9) (.ret)) (.skip))) (.seq (.seq (.reg c95_r10) (.cond (.t 16) (.seq (.reg c95_r11) (.ret)) (.skip))) (.seq (.seq (.reg c95_r12) (.cond (.t 19) (.seq (.reg c95_r13) (.ret)) (.skip))) (.seq (.reg c95_r14) (.ret))))))))
abbrev F95 : FnA := ⟨20, c95, [.t 4]⟩
theorem ok95 : cFn Try.prog 95 = some F95 := by kernel_rfl
theorem hb95 : HasBody Try.prog 95 := ⟨_, Try.func95, by kernel_rfl, by kernel_rfl⟩
/-! prog.Key$1 -/
abbrev c96_r1 : List Ins := [
  ⟨some 2, none, .mov (.c (.bool false))⟩]
abbrev c96_r2 : List Ins := [
  ⟨some 3, none, .mov (.t 0)⟩,
  ⟨some 4, none, .bin .lss (.t 3) (.c (.int .i64 0))⟩,
  ⟨some 5, none, .mov (.t 4)⟩,
  ⟨some 6, some (5, false), .mov (.t 0)⟩,
  ⟨some 7, some (5, false), .bin .gtr (.t 6) (.c (.int .i64 99))⟩,
  ⟨some 8, none, .pick (.t 5) (.c (.bool true)) (.t 7)⟩,
  ⟨some 2, none, .mov (.t 8)⟩]
abbrev c96 : IR := .seq (.reg c96_r1) (.seq (.reg c96_r2) (.ret))
abbrev F96 : FnA := ⟨9, c96, [.t 2]⟩
theorem ok96 : cFn Try.prog 96 = some F96 := by kernel_rfl
theorem hb96 : HasBody Try.prog 96 := ⟨_, Try.func96, by kernel_rfl, by kernel_rfl⟩
/-! prog.mayKey -/
abbrev c97_r1 : List Ins := [
  ⟨some 2, none, .box (.t 0)⟩,
  ⟨some 4, none, .mov (.c (.bool false))⟩]
abbrev c97_r2 : List Ins := [
  ⟨some 5, none, .faddr 0 (.t 2)⟩,
  ⟨some 6, none, .load 1 false (.t 5)⟩,
  ⟨some 7, none, .bin .geq (.t 6) (.c (.int .i64 (-1)))⟩,
  ⟨some 8, none, .mov (.t 7)⟩,
  ⟨some 9, some (8, true), .faddr 0 (.t 2)⟩,
  ⟨some 10, some (8, true), .load 1 false (.t 9)⟩,
  ⟨some 11, some (8, true), .mov (.t 1)⟩,
  ⟨some 12, some (8, true), .bin .lss (.t 10) (.t 11)⟩,
  ⟨some 13, none, .pick (.t 8) (.t 12) (.c (.bool false))⟩,
  ⟨some 14, none, .mov (.t 13)⟩,
  ⟨some 15, some (14, true), .faddr 1 (.t 2)⟩,
  ⟨some 16, some (14, true), .load 1 false (.t 15)⟩,
  ⟨some 17, some (14, true), .bin .geq (.t 16) (.c (.int .i64 0))⟩,
  ⟨some 18, none, .pick (.t 14) (.t 17) (.c (.bool false))⟩,
  ⟨some 19, none, .mov (.t 18)⟩,
  ⟨some 20, some (19, true), .faddr 1 (.t 2)⟩,
  ⟨some 21, some (19, true), .load 1 false (.t 20)⟩,
  ⟨some 22, some (19, true), .bin .leq (.t 21) (.c (.int .i64 900))⟩,
  ⟨some 23, none, .pick (.t 19) (.t 22) (.c (.bool false))⟩,
  ⟨some 4, none, .mov (.t 23)⟩]
abbrev c97 : IR := .seq (.reg c97_r1) (.seq (.reg c97_r2) (.ret))
abbrev F97 : FnA := ⟨24, c97, [.t 4]⟩
theorem ok97 : cFn Try.prog 97 = some F97 := by kernel_rfl
theorem hb97 : HasBody Try.prog 97 := ⟨_, Try.func97, by kernel_rfl, by kernel_rfl⟩
/-! slices.ContainsFunc:int -/
abbrev c98_r1 : List Ins := [
  ⟨some 4, none, .mov (.c (.bool false))⟩]
abbrev c98_r2 : List Ins := [
  ⟨some 5, none, .mov (.t 0)⟩,
  ⟨some 6, none, .mov (.t 1)⟩,
  ⟨some 7, none, .call (.c (.fn 114 [] [])) [.t 5, .t 6]⟩,
  ⟨some 8, none, .bin .geq (.t 7) (.c (.int .i64 0))⟩,
  ⟨some 4, none, .mov (.t 8)⟩]
abbrev c98 : IR := .seq (.reg c98_r1) (.seq (.reg c98_r2) (.ret))
abbrev F98 : FnA := ⟨9, c98, [.t 4]⟩
theorem ok98 : cFn Try.prog 98 = some F98 := by kernel_rfl
theorem hb98 : HasBody Try.prog 98 := ⟨_, Try.func98, by kernel_rfl, by kernel_rfl⟩
/-! slices.Collect:Span -/
abbrev c99_r1 : List Ins := [
  ⟨some 2, none, .mov (.c (.sl .full []))⟩]
abbrev c99_r2 : List Ins := [
  ⟨some 3, none, .mov (.t 0)⟩,
  ⟨some 4, none, .call (.c (.fn 115 [] [])) [.c (.sl .full []), .t 3]⟩,
  ⟨some 2, none, .mov (.t 4)⟩]
abbrev c99 : IR := .seq (.reg c99_r1) (.seq (.reg c99_r2) (.ret))
abbrev F99 : FnA := ⟨5, c99, [.t 2]⟩
theorem ok99 : cFn Try.prog 99 = some F99 := by kernel_rfl
theorem hb99 : HasBody Try.prog 99 := ⟨_, Try.func99, by kernel_rfl, by kernel_rfl⟩
/-! keys.meets -/
abbrev c100_r1 : List Ins := [
  ⟨some 2, none, .box (.t 0)⟩,
  ⟨some 3, none, .box (.t 1)⟩,
  ⟨some 4, none, .mov (.c .nilfn)⟩]
abbrev c100_r2 : List Ins := [
  ⟨some 5, none, .mkfn 116 [] [.t 2, .t 3]⟩,
  ⟨some 4, none, .mov (.t 5)⟩]
abbrev c100 : IR := .seq (.reg c100_r1) (.seq (.reg c100_r2) (.ret))
abbrev F100 : FnA := ⟨6, c100, [.t 4]⟩
theorem ok100 : cFn Try.prog 100 = some F100 := by kernel_rfl
theorem hb100 : HasBody Try.prog 100 := ⟨_, Try.func100, by kernel_rfl, by kernel_rfl⟩
/-! slices.IndexFunc:Instr -/
abbrev c101_r1 : List Ins := [
  ⟨some 4, none, .mov (.c (.int .i64 0))⟩]
abbrev c101_r2 : List Ins := [
  ⟨some 6, none, .mov (.t 0)⟩,
  ⟨some 7, none, .len (.t 6)⟩,
  ⟨some 8, none, .mov (.c (.int .i64 0))⟩]
abbrev c101_r3 : List Ins := [
  ⟨some 9, none, .bin .lss (.t 8) (.t 7)⟩]
abbrev c101_r4 : List Ins := [
  ⟨some 10, none, .mov (.t 8)⟩,
  ⟨some 5, none, .mov (.t 10)⟩]
abbrev c101_r5 : List Ins := [
  ⟨some 11, none, .mov (.t 1)⟩,
  ⟨some 12, none, .mov (.t 0)⟩,
  ⟨some 13, none, .mov (.t 5)⟩,
  ⟨some 14, none, .iaddr 9 (.t 12) (.t 13)⟩,
  ⟨some 15, none, .load 9 true (.t 14)⟩,
  ⟨some 16, none, .call (.t 11) [.t 15]⟩]
abbrev c101_r6 : List Ins := [
  ⟨some 17, none, .mov (.t 5)⟩,
  ⟨some 4, none, .mov (.t 17)⟩]
abbrev c101_r7 : List Ins := [
  ⟨some 18, none, .bin .add (.t 8) (.c (.int .i64 1))⟩,
  ⟨some 8, none, .mov (.t 18)⟩]
abbrev c101_l8 : IR := .seq (.reg c101_r3) (.seq (.cond (.t 9) (.skip) (.exit 0)) (.seq (.blk 1 (.seq (.reg c101_r4) (.seq (.reg c101_r5) (.cond (.t 16) (.seq (.reg c101_r6) (.ret)) (.skip))))) (.reg c101_r7)))
abbrev c101_r9 : List Ins := [
  ⟨some 4, none, .mov (.c (.int .i64 (-1)))⟩]
abbrev c101 : IR := .seq (.reg c101_r1) (.seq (.seq (.reg c101_r2) (.blk 0 (.loop c101_l8))) (.seq (.reg c101_r9) (.ret)))
abbrev F101 : FnA := ⟨19, c101, [.t 4]⟩
theorem ok101 : cFn Try.prog 101 = some F101 := by kernel_rfl
theorem hb101 : HasBody Try.prog 101 := ⟨_, Try.func101, by kernel_rfl, by kernel_rfl⟩
/-! prog.only -/
abbrev c102_r1 : List Ins := [
  ⟨some 1, none, .box (.t 0)⟩,
  ⟨some 2, none, .alloc [.int .i64 0, .int .i64 0, .int .i64 0, .int .i64 0, .int .i64 0, .int .i64 0, .int .i64 0, .int .i64 0, .int .i64 0]⟩,
  ⟨some 3, none, .mov (.c (.bool false))⟩]
abbrev c102_r2 : List Ins := [
  ⟨some 5, none, .faddr 0 (.t 1)⟩,
  ⟨some 6, none, .load 1 false (.t 5)⟩,
  ⟨some 7, none, .faddr 1 (.t 1)⟩,
  ⟨some 8, none, .load 1 false (.t 7)⟩,
  ⟨some 9, none, .build [.int .i64 0, .int .i64 0, .int .i64 0, .int .i64 0, .int .i64 0, .int .i64 0, .int .i64 0, .int .i64 0, .int .i64 0] [(0, (1, .t 6)), (1, (1, .t 8))]⟩,
  ⟨some 4, none, .alloc [.int .i64 0, .int .i64 0, .int .i64 0, .int .i64 0, .int .i64 0, .int .i64 0, .int .i64 0, .int .i64 0, .int .i64 0]⟩,
  ⟨none, none, .store 9 (.t 4) (.t 9)⟩]
abbrev c102_r3 : List Ins := [
  ⟨some 10, none, .faddr 0 (.t 1)⟩,
  ⟨some 11, none, .load 1 false (.t 10)⟩]
abbrev c102_r4 : List Ins := [
  ⟨some 14, none, .bin .eql (.t 11) (.c (.int .i64 1))⟩,
  ⟨some 13, none, .mov (.t 14)⟩]
abbrev c102_r5 : List Ins := [
  ⟨some 15, none, .bin .eql (.t 11) (.c (.int .i64 2))⟩,
  ⟨some 13, none, .mov (.t 15)⟩]
abbrev c102_r6 : List Ins := [
  ⟨some 16, none, .faddr 4 (.t 1)⟩,
  ⟨some 17, none, .load 2 true (.t 16)⟩,
  ⟨some 18, none, .faddr 4 (.t 4)⟩,
  ⟨none, none, .store 2 (.t 18) (.t 17)⟩]
abbrev c102_r7 : List Ins := [
  ⟨some 20, none, .bin .eql (.t 11) (.c (.int .i64 3))⟩,
  ⟨some 19, none, .mov (.t 20)⟩]
abbrev c102_r8 : List Ins := [
  ⟨some 21, none, .faddr 4 (.t 1)⟩,
  ⟨some 22, none, .load 2 true (.t 21)⟩,
  ⟨some 23, none, .faddr 1 (.t 4)⟩,
  ⟨none, none, .store 1 (.t 23) (.c (.int .i64 0))⟩,
  ⟨some 24, none, .faddr 4 (.t 4)⟩,
  ⟨none, none, .store 2 (.t 24) (.t 22)⟩]
def c102_a8 : List (List Nat) := [[], [0], [], [2], [0, 1, 2, 3], [4, 1, 3, 0, 1, 2, 3]]
abbrev c102_m8 : List Am.Mark := [⟨false, 0, 1⟩, ⟨false, 0, 1⟩, ⟨false, 0, 0⟩, ⟨true, 0, 1⟩, ⟨false, 1, 1⟩, ⟨true, 1, 2⟩]
theorem c102_d8 : drawFine c102_r8 c102_a8 c102_m8 = true := by decide +kernel
abbrev c102_r9 : List Ins := [
  ⟨some 26, none, .bin .eql (.t 11) (.c (.int .i64 4))⟩,
  ⟨some 25, none, .mov (.t 26)⟩]
abbrev c102_r10 : List Ins := [
  ⟨some 27, none, .faddr 4 (.t 1)⟩,
  ⟨some 28, none, .load 2 true (.t 27)⟩,
  ⟨some 29, none, .faddr 6 (.t 1)⟩,
  ⟨some 30, none, .load 2 true (.t 29)⟩,
  ⟨some 31, none, .faddr 4 (.t 4)⟩,
  ⟨none, none, .store 2 (.t 31) (.t 28)⟩,
  ⟨some 32, none, .faddr 6 (.t 4)⟩,
  ⟨none, none, .store 2 (.t 32) (.t 30)⟩]
def c102_a10 : List (List Nat) := [[], [0], [], [2], [0, 1], [4, 1, 0, 1], [0, 1, 2, 3, 4, 5], [6, 3, 5, 0, 1, 2, 3, 4, 5]]
abbrev c102_m10 : List Am.Mark := [⟨false, 0, 0⟩, ⟨false, 0, 0⟩, ⟨false, 0, 1⟩, ⟨false, 0, 1⟩, ⟨false, 0, 0⟩, ⟨true, 0, 1⟩, ⟨false, 1, 1⟩, ⟨true, 1, 2⟩]
theorem c102_d10 : drawFine c102_r10 c102_a10 c102_m10 = true := by decide +kernel
abbrev c102_r11 : List Ins := [
  ⟨some 34, none, .bin .eql (.t 11) (.c (.int .i64 5))⟩,
  ⟨some 33, none, .mov (.t 34)⟩]
abbrev c102_r12 : List Ins := [
  ⟨some 35, none, .bin .eql (.t 11) (.c (.int .i64 8))⟩,
  ⟨some 33, none, .mov (.t 35)⟩]
abbrev c102_r13 : List Ins := [
  ⟨some 36, none, .faddr 8 (.t 1)⟩,
  ⟨some 37, none, .load 1 false (.t 36)⟩,
  ⟨some 38, none, .faddr 8 (.t 4)⟩,
  ⟨none, none, .store 1 (.t 38) (.t 37)⟩]
abbrev c102_r14 : List Ins := [
  ⟨some 40, none, .bin .eql (.t 11) (.c (.int .i64 6))⟩,
  ⟨some 39, none, .mov (.t 40)⟩]
abbrev c102_r15 : List Ins := [
  ⟨some 41, none, .bin .eql (.t 11) (.c (.int .i64 7))⟩,
  ⟨some 39, none, .mov (.t 41)⟩]
abbrev c102_r16 : List Ins := [
  ⟨some 42, none, .faddr 2 (.t 1)⟩,
  ⟨some 43, none, .load 1 false (.t 42)⟩,
  ⟨some 44, none, .faddr 3 (.t 1)⟩,
  ⟨some 45, none, .load 1 false (.t 44)⟩,
  ⟨some 46, none, .faddr 2 (.t 4)⟩,
  ⟨none, none, .store 1 (.t 46) (.t 43)⟩,
  ⟨some 47, none, .faddr 3 (.t 4)⟩,
  ⟨none, none, .store 1 (.t 47) (.t 45)⟩]
def c102_a16 : List (List Nat) := [[], [0], [], [2], [0, 1], [4, 1, 0, 1], [0, 1, 2, 3, 4, 5], [6, 3, 5, 0, 1, 2, 3, 4, 5]]
abbrev c102_m16 : List Am.Mark := [⟨false, 0, 0⟩, ⟨false, 0, 0⟩, ⟨false, 0, 1⟩, ⟨false, 0, 1⟩, ⟨false, 0, 0⟩, ⟨true, 0, 1⟩, ⟨false, 1, 1⟩, ⟨true, 1, 2⟩]
theorem c102_d16 : drawFine c102_r16 c102_a16 c102_m16 = true := by decide +kernel
abbrev c102_r17 : List Ins := [
  ⟨some 12, none, .load 9 true (.t 4)⟩,
  ⟨none, none, .store 9 (.t 2) (.t 12)⟩,
  ⟨some 3, none, .mov (.c (.bool false))⟩]
abbrev c102_r18 : List Ins := [
  ⟨some 48, none, .load 9 true (.t 4)⟩,
  ⟨none, none, .store 9 (.t 2) (.t 48)⟩,
  ⟨some 3, none, .mov (.c (.bool true))⟩]
abbrev c102 : IR := .seq (.reg c102_r1) (.seq (.reg c102_r2) (.seq (.seq (.reg c102_r3) (.blk 0 (.seq (.seq (.reg c102_r4) (.cond (.t 13) (.skip) (.reg c102_r5))) (.cond (.t 13) (.reg c102_r6) (.seq (.reg c102_r7) (.cond (.t 19) (.dreg c102_r8 c102_a8) (.seq (.reg c102_r9) (.cond (.t 25) (.dreg c102_r10 c102_a10) (.seq (.seq (.reg c102_r11) (.cond (.t 33) (.skip) (.reg c102_r12))) (.cond (.t 33) (.reg c102_r13) (.seq (.seq (.reg c102_r14) (.cond (.t 39) (.skip) (.reg c102_r15))) (.cond (.t 39) (.dreg c102_r16 c102_a16) (.seq (.reg c102_r17) (.ret)))))))))))))) (.seq (.reg c102_r18) (.ret))))
abbrev F102 : FnA := ⟨49, c102, [.cell 2 9 true, .t 3]⟩
theorem ok102 : cFn Try.prog 102 = some F102 := by kernel_rfl
theorem hb102 : HasBody Try.prog 102 := ⟨_, Try.func102, by kernel_rfl, by kernel_rfl⟩
/-! prog.may$1 -/
abbrev c103_r1 : List Ins := [
  ⟨some 2, none, .box (.t 0)⟩,
  ⟨some 3, none, .mov (.c (.bool false))⟩]
abbrev c103_r2 : List Ins := [
  ⟨some 4, none, .load 2 true (.t 2)⟩,
  ⟨some 5, none, .load 1 false (.t 1)⟩,
  ⟨some 6, none, .call (.c (.fn 97 [] [])) [.t 4, .t 5]⟩,
  ⟨some 7, none, .un .not (.t 6)⟩,
  ⟨some 3, none, .mov (.t 7)⟩]
abbrev c103 : IR := .seq (.reg c103_r1) (.seq (.reg c103_r2) (.ret))
abbrev F103 : FnA := ⟨8, c103, [.t 3]⟩
theorem ok103 : cFn Try.prog 103 = some F103 := by kernel_rfl
theorem hb103 : HasBody Try.prog 103 := ⟨_, Try.func103, by kernel_rfl, by kernel_rfl⟩
/-! prog.register -/
abbrev c104_r1 : List Ins := [
  ⟨some 2, none, .mov (.c (.bool false))⟩]
abbrev c104_r2 : List Ins := [
  ⟨some 3, none, .mov (.t 0)⟩,
  ⟨some 4, none, .bin .geq (.t 3) (.c (.int .i64 0))⟩,
  ⟨some 5, none, .mov (.t 4)⟩,
  ⟨some 6, some (5, true), .mov (.t 0)⟩,
  ⟨some 7, some (5, true), .bin .lss (.t 6) (.c (.int .i64 4))⟩,
  ⟨some 8, none, .pick (.t 5) (.t 7) (.c (.bool false))⟩,
  ⟨some 2, none, .mov (.t 8)⟩]
abbrev c104 : IR := .seq (.reg c104_r1) (.seq (.reg c104_r2) (.ret))
abbrev F104 : FnA := ⟨9, c104, [.t 2]⟩
theorem ok104 : cFn Try.prog 104 = some F104 := by kernel_rfl
theorem hb104 : HasBody Try.prog 104 := ⟨_, Try.func104, by kernel_rfl, by kernel_rfl⟩
/-! slices.ContainsFunc:KeyT -/
abbrev c105_r1 : List Ins := [
  ⟨some 4, none, .mov (.c (.bool false))⟩]
abbrev c105_r2 : List Ins := [
  ⟨some 5, none, .mov (.t 0)⟩,
  ⟨some 6, none, .mov (.t 1)⟩,
  ⟨some 7, none, .call (.c (.fn 117 [] [])) [.t 5, .t 6]⟩,
  ⟨some 8, none, .bin .geq (.t 7) (.c (.int .i64 0))⟩,
  ⟨some 4, none, .mov (.t 8)⟩]
abbrev c105 : IR := .seq (.reg c105_r1) (.seq (.reg c105_r2) (.ret))
abbrev F105 : FnA := ⟨9, c105, [.t 4]⟩
theorem ok105 : cFn Try.prog 105 = some F105 := by kernel_rfl
theorem hb105 : HasBody Try.prog 105 := ⟨_, Try.func105, by kernel_rfl, by kernel_rfl⟩
/-! prog.keys -/
abbrev c106_r1 : List Ins := [
  ⟨some 1, none, .box (.t 0)⟩,
  ⟨some 2, none, .mov (.c (.sl .full []))⟩]
abbrev c106_r2 : List Ins := [
  ⟨some 3, none, .faddr 0 (.t 1)⟩,
  ⟨some 4, none, .load 1 false (.t 3)⟩]
abbrev c106_r3 : List Ins := [
  ⟨some 6, none, .bin .eql (.t 4) (.c (.int .i64 1))⟩,
  ⟨some 5, none, .mov (.t 6)⟩]
abbrev c106_r4 : List Ins := [
  ⟨some 7, none, .bin .eql (.t 4) (.c (.int .i64 2))⟩,
  ⟨some 5, none, .mov (.t 7)⟩]
abbrev c106_r5 : List Ins := [
  ⟨some 8, none, .bin .eql (.t 4) (.c (.int .i64 3))⟩,
  ⟨some 5, none, .mov (.t 8)⟩]
abbrev c106_r6 : List Ins := [
  ⟨some 9, none, .faddr 4 (.t 1)⟩,
  ⟨some 10, none, .load 2 true (.t 9)⟩,
  ⟨some 11, none, .bsl 2 1 [.int .i64 0, .int .i64 0] [(0, .t 10)]⟩,
  ⟨some 2, none, .mov (.t 11)⟩]
abbrev c106_r7 : List Ins := [
  ⟨some 13, none, .bin .eql (.t 4) (.c (.int .i64 4))⟩,
  ⟨some 12, none, .mov (.t 13)⟩]
abbrev c106_r8 : List Ins := [
  ⟨some 14, none, .faddr 4 (.t 1)⟩,
  ⟨some 15, none, .load 2 true (.t 14)⟩,
  ⟨some 16, none, .faddr 6 (.t 1)⟩,
  ⟨some 17, none, .load 2 true (.t 16)⟩,
  ⟨some 18, none, .bsl 2 2 [.int .i64 0, .int .i64 0] [(0, .t 15), (1, .t 17)]⟩,
  ⟨some 2, none, .mov (.t 18)⟩]
abbrev c106_r9 : List Ins := [
  ⟨some 2, none, .mov (.c (.sl .full []))⟩]
abbrev c106 : IR := .seq (.reg c106_r1) (.seq (.seq (.reg c106_r2) (.blk 0 (.seq (.seq (.reg c106_r3) (.cond (.t 5) (.skip) (.seq (.reg c106_r4) (.cond (.t 5) (.skip) (.reg c106_r5))))) (.cond (.t 5) (.seq (.reg c106_r6) (.ret)) (.seq (.reg c106_r7) (.cond (.t 12) (.seq (.reg c106_r8) (.ret)) (.skip))))))) (.seq (.reg c106_r9) (.ret)))
abbrev F106 : FnA := ⟨19, c106, [.t 2]⟩
theorem ok106 : cFn Try.prog 106 = some F106 := by kernel_rfl
theorem hb106 : HasBody Try.prog 106 := ⟨_, Try.func106, by kernel_rfl, by kernel_rfl⟩
/-! slices.IndexFunc:SpanT -/
abbrev c107_r1 : List Ins := [
  ⟨some 4, none, .mov (.c (.int .i64 0))⟩]
abbrev c107_r2 : List Ins := [
  ⟨some 6, none, .mov (.t 0)⟩,
  ⟨some 7, none, .len (.t 6)⟩,
  ⟨some 8, none, .mov (.c (.int .i64 0))⟩]
abbrev c107_r3 : List Ins := [
  ⟨some 9, none, .bin .lss (.t 8) (.t 7)⟩]
abbrev c107_r4 : List Ins := [
  ⟨some 10, none, .mov (.t 8)⟩,
  ⟨some 5, none, .mov (.t 10)⟩]
abbrev c107_r5 : List Ins := [
  ⟨some 11, none, .mov (.t 1)⟩,
  ⟨some 12, none, .mov (.t 0)⟩,
  ⟨some 13, none, .mov (.t 5)⟩,
  ⟨some 14, none, .iaddr 5 (.t 12) (.t 13)⟩,
  ⟨some 15, none, .load 5 true (.t 14)⟩,
  ⟨some 16, none, .call (.t 11) [.t 15]⟩]
abbrev c107_r6 : List Ins := [
  ⟨some 17, none, .mov (.t 5)⟩,
  ⟨some 4, none, .mov (.t 17)⟩]
abbrev c107_r7 : List Ins := [
  ⟨some 18, none, .bin .add (.t 8) (.c (.int .i64 1))⟩,
  ⟨some 8, none, .mov (.t 18)⟩]
abbrev c107_l8 : IR := .seq (.reg c107_r3) (.seq (.cond (.t 9) (.skip) (.exit 0)) (.seq (.blk 1 (.seq (.reg c107_r4) (.seq (.reg c107_r5) (.cond (.t 16) (.seq (.reg c107_r6) (.ret)) (.skip))))) (.reg c107_r7)))
abbrev c107_r9 : List Ins := [
  ⟨some 4, none, .mov (.c (.int .i64 (-1)))⟩]
abbrev c107 : IR := .seq (.reg c107_r1) (.seq (.seq (.reg c107_r2) (.blk 0 (.loop c107_l8))) (.seq (.reg c107_r9) (.ret)))
abbrev F107 : FnA := ⟨19, c107, [.t 4]⟩
theorem ok107 : cFn Try.prog 107 = some F107 := by kernel_rfl
theorem hb107 : HasBody Try.prog 107 := ⟨_, Try.func107, by kernel_rfl, by kernel_rfl⟩
/-! prog.Sure$1 -/
abbrev c108_r1 : List Ins := [
  ⟨some 1, none, .box (.t 0)⟩,
  ⟨some 2, none, .mov (.c (.bool false))⟩]
abbrev c108_r2 : List Ins := [
  ⟨some 3, none, .faddr 0 (.t 1)⟩,
  ⟨some 4, none, .load 1 false (.t 3)⟩,
  ⟨some 5, none, .bin .eql (.t 4) (.c (.int .i64 6))⟩,
  ⟨some 6, none, .mov (.t 5)⟩,
  ⟨some 7, some (6, false), .faddr 0 (.t 1)⟩,
  ⟨some 8, some (6, false), .load 1 false (.t 7)⟩,
  ⟨some 9, some (6, false), .bin .eql (.t 8) (.c (.int .i64 7))⟩,
  ⟨some 10, none, .pick (.t 6) (.c (.bool true)) (.t 9)⟩,
  ⟨some 11, none, .mov (.t 10)⟩,
  ⟨some 12, some (11, false), .faddr 0 (.t 1)⟩,
  ⟨some 13, some (11, false), .load 1 false (.t 12)⟩,
  ⟨some 14, some (11, false), .bin .eql (.t 13) (.c (.int .i64 8))⟩,
  ⟨some 15, none, .pick (.t 11) (.c (.bool true)) (.t 14)⟩,
  ⟨some 2, none, .mov (.t 15)⟩]
abbrev c108 : IR := .seq (.reg c108_r1) (.seq (.reg c108_r2) (.ret))
abbrev F108 : FnA := ⟨16, c108, [.t 2]⟩
theorem ok108 : cFn Try.prog 108 = some F108 := by kernel_rfl
theorem hb108 : HasBody Try.prog 108 := ⟨_, Try.func108, by kernel_rfl, by kernel_rfl⟩
/-! slices.IndexFunc:Span -/
abbrev c109_r1 : List Ins := [
  ⟨some 4, none, .mov (.c (.int .i64 0))⟩]
abbrev c109_r2 : List Ins := [
  ⟨some 6, none, .mov (.t 0)⟩,
  ⟨some 7, none, .len (.t 6)⟩,
  ⟨some 8, none, .mov (.c (.int .i64 0))⟩]
abbrev c109_r3 : List Ins := [
  ⟨some 9, none, .bin .lss (.t 8) (.t 7)⟩]
abbrev c109_r4 : List Ins := [
  ⟨some 10, none, .mov (.t 8)⟩,
  ⟨some 5, none, .mov (.t 10)⟩]
abbrev c109_r5 : List Ins := [
  ⟨some 11, none, .mov (.t 1)⟩,
  ⟨some 12, none, .mov (.t 0)⟩,
  ⟨some 13, none, .mov (.t 5)⟩,
  ⟨some 14, none, .iaddr 2 (.t 12) (.t 13)⟩,
  ⟨some 15, none, .load 2 true (.t 14)⟩,
  ⟨some 16, none, .call (.t 11) [.t 15]⟩]
abbrev c109_r6 : List Ins := [
  ⟨some 17, none, .mov (.t 5)⟩,
  ⟨some 4, none, .mov (.t 17)⟩]
abbrev c109_r7 : List Ins := [
  ⟨some 18, none, .bin .add (.t 8) (.c (.int .i64 1))⟩,
  ⟨some 8, none, .mov (.t 18)⟩]
abbrev c109_l8 : IR := .seq (.reg c109_r3) (.seq (.cond (.t 9) (.skip) (.exit 0)) (.seq (.blk 1 (.seq (.reg c109_r4) (.seq (.reg c109_r5) (.cond (.t 16) (.seq (.reg c109_r6) (.ret)) (.skip))))) (.reg c109_r7)))
abbrev c109_r9 : List Ins := [
  ⟨some 4, none, .mov (.c (.int .i64 (-1)))⟩]
abbrev c109 : IR := .seq (.reg c109_r1) (.seq (.seq (.reg c109_r2) (.blk 0 (.loop c109_l8))) (.seq (.reg c109_r9) (.ret)))
abbrev F109 : FnA := ⟨19, c109, [.t 4]⟩
theorem ok109 : cFn Try.prog 109 = some F109 := by kernel_rfl
theorem hb109 : HasBody Try.prog 109 := ⟨_, Try.func109, by kernel_rfl, by kernel_rfl⟩
/-! slices.Grow:Span -/
-- f110: not compiled
/-! slices.pdqsortCmpFunc:Span -/
abbrev c111_r1 : List Ins := [
  ⟨some 10, none, .mov (.c (.bool true))⟩]
abbrev c111_r2 : List Ins := [
  ⟨some 11, none, .mov (.c (.bool true))⟩]
abbrev c111_r3 : List Ins := [
  ⟨some 21, none, .mov (.t 2)⟩,
  ⟨some 22, none, .mov (.t 1)⟩,
  ⟨some 23, none, .bin .sub (.t 21) (.t 22)⟩,
  ⟨some 12, none, .mov (.t 23)⟩]
abbrev c111_r4 : List Ins := [
  ⟨some 24, none, .mov (.t 12)⟩,
  ⟨some 25, none, .bin .leq (.t 24) (.c (.int .i64 12))⟩]
abbrev c111_r5 : List Ins := [
  ⟨some 26, none, .mov (.t 0)⟩,
  ⟨some 27, none, .mov (.t 1)⟩,
  ⟨some 28, none, .mov (.t 2)⟩,
  ⟨some 29, none, .mov (.t 4)⟩,
  ⟨some 30, none, .call (.c (.fn 118 [] [])) [.t 26, .t 27, .t 28, .t 29]⟩]
abbrev c111_r6 : List Ins := [
  ⟨some 31, none, .mov (.t 3)⟩,
  ⟨some 32, none, .bin .eql (.t 31) (.c (.int .i64 0))⟩]
abbrev c111_r7 : List Ins := [
  ⟨some 33, none, .mov (.t 0)⟩,
  ⟨some 34, none, .mov (.t 1)⟩,
  ⟨some 35, none, .mov (.t 2)⟩,
  ⟨some 36, none, .mov (.t 4)⟩,
  ⟨some 37, none, .call (.c (.fn 119 [] [])) [.t 33, .t 34, .t 35, .t 36]⟩]
abbrev c111_r8 : List Ins := [
  ⟨some 38, none, .mov (.t 10)⟩,
  ⟨some 39, none, .un .not (.t 38)⟩]
abbrev c111_r9 : List Ins := [
  ⟨some 40, none, .mov (.t 0)⟩,
  ⟨some 41, none, .mov (.t 1)⟩,
  ⟨some 42, none, .mov (.t 2)⟩,
  ⟨some 43, none, .mov (.t 4)⟩,
  ⟨some 44, none, .call (.c (.fn 120 [] [])) [.t 40, .t 41, .t 42, .t 43]⟩]
abbrev c111_r10 : List Ins := [
  ⟨some 45, none, .mov (.t 3)⟩,
  ⟨some 46, none, .bin .sub (.t 45) (.c (.int .i64 1))⟩,
  ⟨some 3, none, .mov (.t 46)⟩]
abbrev c111_r11 : List Ins := [
  ⟨some 48, none, .mov (.t 0)⟩,
  ⟨some 49, none, .mov (.t 1)⟩,
  ⟨some 50, none, .mov (.t 2)⟩,
  ⟨some 51, none, .mov (.t 4)⟩,
  ⟨some 52, none, .call (.c (.fn 121 [] [])) [.t 48, .t 49, .t 50, .t 51]⟩,
  ⟨some 47, none, .mov (.t 52)⟩,
  ⟨some 53, none, .ext (.t 47) 0⟩,
  ⟨some 54, none, .ext (.t 47) 1⟩,
  ⟨some 13, none, .mov (.t 53)⟩,
  ⟨some 14, none, .mov (.t 54)⟩]
abbrev c111_r12 : List Ins := [
  ⟨some 55, none, .mov (.t 14)⟩,
  ⟨some 56, none, .bin .eql (.t 55) (.c (.int .i64 2))⟩]
abbrev c111_r13 : List Ins := [
  ⟨some 57, none, .mov (.t 0)⟩,
  ⟨some 58, none, .mov (.t 1)⟩,
  ⟨some 59, none, .mov (.t 2)⟩,
  ⟨some 60, none, .mov (.t 4)⟩,
  ⟨some 61, none, .call (.c (.fn 122 [] [])) [.t 57, .t 58, .t 59, .t 60]⟩]
abbrev c111_r14 : List Ins := [
  ⟨some 62, none, .mov (.t 2)⟩,
  ⟨some 63, none, .bin .sub (.t 62) (.c (.int .i64 1))⟩,
  ⟨some 64, none, .mov (.t 13)⟩,
  ⟨some 65, none, .mov (.t 1)⟩,
  ⟨some 66, none, .bin .sub (.t 64) (.t 65)⟩,
  ⟨some 67, none, .bin .sub (.t 63) (.t 66)⟩,
  ⟨some 13, none, .mov (.t 67)⟩]
abbrev c111_r15 : List Ins := [
  ⟨some 14, none, .mov (.c (.int .i64 1))⟩]
abbrev c111_r16 : List Ins := [
  ⟨some 68, none, .mov (.t 10)⟩,
  ⟨some 69, none, .mov (.t 68)⟩,
  ⟨some 70, some (69, true), .mov (.t 11)⟩,
  ⟨some 71, none, .pick (.t 69) (.t 70) (.c (.bool false))⟩,
  ⟨some 72, none, .mov (.t 71)⟩,
  ⟨some 73, some (72, true), .mov (.t 14)⟩,
  ⟨some 74, some (72, true), .bin .eql (.t 73) (.c (.int .i64 1))⟩,
  ⟨some 75, none, .pick (.t 72) (.t 74) (.c (.bool false))⟩]
abbrev c111_r17 : List Ins := [
  ⟨some 76, none, .mov (.t 0)⟩,
  ⟨some 77, none, .mov (.t 1)⟩,
  ⟨some 78, none, .mov (.t 2)⟩,
  ⟨some 79, none, .mov (.t 4)⟩,
  ⟨some 80, none, .call (.c (.fn 123 [] [])) [.t 76, .t 77, .t 78, .t 79]⟩]
abbrev c111_r18 : List Ins := [
  ⟨some 81, none, .mov (.t 1)⟩,
  ⟨some 82, none, .bin .gtr (.t 81) (.c (.int .i64 0))⟩,
  ⟨some 83, none, .mov (.t 82)⟩,
  ⟨some 84, some (83, true), .mov (.t 4)⟩,
  ⟨some 85, some (83, true), .mov (.t 0)⟩,
  ⟨some 86, some (83, true), .mov (.t 1)⟩,
  ⟨some 87, some (83, true), .bin .sub (.t 86) (.c (.int .i64 1))⟩,
  ⟨some 88, some (83, true), .iaddr 2 (.t 85) (.t 87)⟩,
  ⟨some 89, some (83, true), .load 2 true (.t 88)⟩,
  ⟨some 90, some (83, true), .mov (.t 0)⟩,
  ⟨some 91, some (83, true), .mov (.t 13)⟩,
  ⟨some 92, some (83, true), .iaddr 2 (.t 90) (.t 91)⟩,
  ⟨some 93, some (83, true), .load 2 true (.t 92)⟩,
  ⟨some 94, some (83, true), .call (.t 84) [.t 89, .t 93]⟩,
  ⟨some 95, some (83, true), .bin .lss (.t 94) (.c (.int .i64 0))⟩,
  ⟨some 96, some (83, true), .un .not (.t 95)⟩,
  ⟨some 97, none, .pick (.t 83) (.t 96) (.c (.bool false))⟩]
def c111_a18 : List (List Nat) := [[], [0], [1], [2], [2], [2], [5, 2], [4, 6, 2], [7, 2], [2], [2], [9, 10, 2], [11, 2], [3, 8, 12, 2, 2], [13, 2], [14, 2], [2, 15]]
abbrev c111_m18 : List Am.Mark := [⟨false, 0, 1⟩, ⟨false, 0, 1⟩, ⟨false, 0, 0⟩, ⟨false, 0, 0⟩, ⟨false, 0, 1⟩, ⟨false, 0, 1⟩, ⟨false, 0, 1⟩, ⟨false, 0, 1⟩, ⟨false, 0, 0⟩, ⟨false, 0, 1⟩, ⟨false, 0, 1⟩, ⟨false, 0, 1⟩, ⟨false, 0, 0⟩, ⟨true, 0, 1⟩, ⟨false, 1, 1⟩, ⟨false, 1, 1⟩, ⟨false, 1, 1⟩]
theorem c111_d18 : drawFine c111_r18 c111_a18 c111_m18 = true := by decide +kernel
abbrev c111_r19 : List Ins := [
  ⟨some 98, none, .mov (.t 0)⟩,
  ⟨some 99, none, .mov (.t 1)⟩,
  ⟨some 100, none, .mov (.t 2)⟩,
  ⟨some 101, none, .mov (.t 13)⟩,
  ⟨some 102, none, .mov (.t 4)⟩,
  ⟨some 103, none, .call (.c (.fn 124 [] [])) [.t 98, .t 99, .t 100, .t 101, .t 102]⟩,
  ⟨some 15, none, .mov (.t 103)⟩]
abbrev c111_r20 : List Ins := [
  ⟨some 104, none, .mov (.t 15)⟩,
  ⟨some 1, none, .mov (.t 104)⟩]
abbrev c111_r21 : List Ins := [
  ⟨some 106, none, .mov (.t 0)⟩,
  ⟨some 107, none, .mov (.t 1)⟩,
  ⟨some 108, none, .mov (.t 2)⟩,
  ⟨some 109, none, .mov (.t 13)⟩,
  ⟨some 110, none, .mov (.t 4)⟩,
  ⟨some 111, none, .call (.c (.fn 125 [] [])) [.t 106, .t 107, .t 108, .t 109, .t 110]⟩,
  ⟨some 105, none, .mov (.t 111)⟩,
  ⟨some 112, none, .ext (.t 105) 0⟩,
  ⟨some 113, none, .ext (.t 105) 1⟩,
  ⟨some 16, none, .mov (.t 112)⟩,
  ⟨some 17, none, .mov (.t 113)⟩]
abbrev c111_r22 : List Ins := [
  ⟨some 114, none, .mov (.t 17)⟩,
  ⟨some 11, none, .mov (.t 114)⟩]
abbrev c111_r23 : List Ins := [
  ⟨some 115, none, .mov (.t 16)⟩,
  ⟨some 116, none, .mov (.t 1)⟩,
  ⟨some 117, none, .bin .sub (.t 115) (.t 116)⟩,
  ⟨some 118, none, .mov (.t 2)⟩,
  ⟨some 119, none, .mov (.t 16)⟩,
  ⟨some 120, none, .bin .sub (.t 118) (.t 119)⟩,
  ⟨some 18, none, .mov (.t 117)⟩,
  ⟨some 19, none, .mov (.t 120)⟩]
abbrev c111_r24 : List Ins := [
  ⟨some 121, none, .mov (.t 12)⟩,
  ⟨some 122, none, .bin .quo (.t 121) (.c (.int .i64 8))⟩,
  ⟨some 20, none, .mov (.t 122)⟩]
abbrev c111_r25 : List Ins := [
  ⟨some 123, none, .mov (.t 18)⟩,
  ⟨some 124, none, .mov (.t 19)⟩,
  ⟨some 125, none, .bin .lss (.t 123) (.t 124)⟩]
abbrev c111_r26 : List Ins := [
  ⟨some 126, none, .mov (.t 18)⟩,
  ⟨some 127, none, .mov (.t 20)⟩,
  ⟨some 128, none, .bin .geq (.t 126) (.t 127)⟩,
  ⟨some 10, none, .mov (.t 128)⟩]
abbrev c111_r27 : List Ins := [
  ⟨some 129, none, .mov (.t 0)⟩,
  ⟨some 130, none, .mov (.t 1)⟩,
  ⟨some 131, none, .mov (.t 16)⟩,
  ⟨some 132, none, .mov (.t 3)⟩,
  ⟨some 133, none, .mov (.t 4)⟩,
  ⟨some 134, none, .call (.c (.fn 111 [] [])) [.t 129, .t 130, .t 131, .t 132, .t 133]⟩]
abbrev c111_r28 : List Ins := [
  ⟨some 135, none, .mov (.t 16)⟩,
  ⟨some 136, none, .bin .add (.t 135) (.c (.int .i64 1))⟩,
  ⟨some 1, none, .mov (.t 136)⟩]
abbrev c111_r29 : List Ins := [
  ⟨some 137, none, .mov (.t 19)⟩,
  ⟨some 138, none, .mov (.t 20)⟩,
  ⟨some 139, none, .bin .geq (.t 137) (.t 138)⟩,
  ⟨some 10, none, .mov (.t 139)⟩]
abbrev c111_r30 : List Ins := [
  ⟨some 140, none, .mov (.t 0)⟩,
  ⟨some 141, none, .mov (.t 16)⟩,
  ⟨some 142, none, .bin .add (.t 141) (.c (.int .i64 1))⟩,
  ⟨some 143, none, .mov (.t 2)⟩,
  ⟨some 144, none, .mov (.t 3)⟩,
  ⟨some 145, none, .mov (.t 4)⟩,
  ⟨some 146, none, .call (.c (.fn 111 [] [])) [.t 140, .t 142, .t 143, .t 144, .t 145]⟩]
abbrev c111_r31 : List Ins := [
  ⟨some 147, none, .mov (.t 16)⟩,
  ⟨some 2, none, .mov (.t 147)⟩]
abbrev c111_l32 : IR := .blk 1 (.seq (.reg c111_r3) (.seq (.seq (.reg c111_r4) (.cond (.t 25) (.seq (.reg c111_r5) (.ret)) (.skip))) (.seq (.seq (.reg c111_r6) (.cond (.t 32) (.seq (.reg c111_r7) (.ret)) (.skip))) (.seq (.seq (.reg c111_r8) (.cond (.t 39) (.seq (.reg c111_r9) (.reg c111_r10)) (.skip))) (.seq (.reg c111_r11) (.seq (.seq (.reg c111_r12) (.cond (.t 56) (.seq (.reg c111_r13) (.seq (.reg c111_r14) (.reg c111_r15))) (.skip))) (.seq (.seq (.reg c111_r16) (.cond (.t 75) (.seq (.reg c111_r17) (.cond (.t 80) (.ret) (.skip))) (.skip))) (.seq (.seq (.dreg c111_r18 c111_a18) (.cond (.t 97) (.seq (.reg c111_r19) (.seq (.reg c111_r20) (.exit 1))) (.skip))) (.seq (.reg c111_r21) (.seq (.reg c111_r22) (.seq (.reg c111_r23) (.seq (.reg c111_r24) (.seq (.reg c111_r25) (.cond (.t 125) (.seq (.reg c111_r26) (.seq (.reg c111_r27) (.reg c111_r28))) (.seq (.reg c111_r29) (.seq (.reg c111_r30) (.reg c111_r31)))))))))))))))))
abbrev c111 : IR := .seq (.reg c111_r1) (.seq (.reg c111_r2) (.blk 0 (.loop c111_l32)))
abbrev F111 : FnA := ⟨148, c111, []⟩
theorem ok111 : cFn Try.prog 111 = some F111 := by kernel_rfl
theorem hb111 : HasBody Try.prog 111 := ⟨_, Try.func111, by kernel_rfl, by kernel_rfl⟩
/-! math/bits.Len -/
abbrev c112_r1 : List Ins := [
  ⟨some 2, none, .mov (.c (.int .i64 0))⟩]
abbrev c112_r2 : List Ins := [
  ⟨some 3, none, .mov (.t 0)⟩,
  ⟨some 4, none, .conv .u32 (.t 3)⟩,
  ⟨some 5, none, .call (.c (.fn 126 [] [])) [.t 4]⟩,
  ⟨some 2, none, .mov (.t 5)⟩]
abbrev c112_r3 : List Ins := [
  ⟨some 6, none, .mov (.t 0)⟩,
  ⟨some 7, none, .call (.c (.fn 127 [] [])) [.t 6]⟩,
  ⟨some 2, none, .mov (.t 7)⟩]
abbrev c112 : IR := .seq (.reg c112_r1) (.seq (.cond (.c (.bool false)) (.seq (.reg c112_r2) (.ret)) (.skip)) (.seq (.reg c112_r3) (.ret)))
abbrev F112 : FnA := ⟨8, c112, [.t 2]⟩
theorem ok112 : cFn Try.prog 112 = some F112 := by kernel_rfl
theorem hb112 : HasBody Try.prog 112 := ⟨_, Try.func112, by kernel_rfl, by kernel_rfl⟩
/-! cmp.isNaN:int -/
abbrev c113_r1 : List Ins := [
  ⟨some 2, none, .mov (.c (.bool false))⟩]
abbrev c113_r2 : List Ins := [
  ⟨some 3, none, .mov (.t 0)⟩,
  ⟨some 4, none, .mov (.t 0)⟩,
  ⟨some 5, none, .bin .neq (.t 3) (.t 4)⟩,
  ⟨some 2, none, .mov (.t 5)⟩]
abbrev c113 : IR := .seq (.reg c113_r1) (.seq (.reg c113_r2) (.ret))
abbrev F113 : FnA := ⟨6, c113, [.t 2]⟩
theorem ok113 : cFn Try.prog 113 = some F113 := by kernel_rfl
theorem hb113 : HasBody Try.prog 113 := ⟨_, Try.func113, by kernel_rfl, by kernel_rfl⟩
/-! slices.IndexFunc:int -/
abbrev c114_r1 : List Ins := [
  ⟨some 4, none, .mov (.c (.int .i64 0))⟩]
abbrev c114_r2 : List Ins := [
  ⟨some 6, none, .mov (.t 0)⟩,
  ⟨some 7, none, .len (.t 6)⟩,
  ⟨some 8, none, .mov (.c (.int .i64 0))⟩]
abbrev c114_r3 : List Ins := [
  ⟨some 9, none, .bin .lss (.t 8) (.t 7)⟩]
abbrev c114_r4 : List Ins := [
  ⟨some 10, none, .mov (.t 8)⟩,
  ⟨some 5, none, .mov (.t 10)⟩]
abbrev c114_r5 : List Ins := [
  ⟨some 11, none, .mov (.t 1)⟩,
  ⟨some 12, none, .mov (.t 0)⟩,
  ⟨some 13, none, .mov (.t 5)⟩,
  ⟨some 14, none, .iaddr 1 (.t 12) (.t 13)⟩,
  ⟨some 15, none, .load 1 false (.t 14)⟩,
  ⟨some 16, none, .call (.t 11) [.t 15]⟩]
abbrev c114_r6 : List Ins := [
  ⟨some 17, none, .mov (.t 5)⟩,
  ⟨some 4, none, .mov (.t 17)⟩]
abbrev c114_r7 : List Ins := [
  ⟨some 18, none, .bin .add (.t 8) (.c (.int .i64 1))⟩,
  ⟨some 8, none, .mov (.t 18)⟩]
abbrev c114_l8 : IR := .seq (.reg c114_r3) (.seq (.cond (.t 9) (.skip) (.exit 0)) (.seq (.blk 1 (.seq (.reg c114_r4) (.seq (.reg c114_r5) (.cond (.t 16) (.seq (.reg c114_r6) (.ret)) (.skip))))) (.reg c114_r7)))
abbrev c114_r9 : List Ins := [
  ⟨some 4, none, .mov (.c (.int .i64 (-1)))⟩]
abbrev c114 : IR := .seq (.reg c114_r1) (.seq (.seq (.reg c114_r2) (.blk 0 (.loop c114_l8))) (.seq (.reg c114_r9) (.ret)))
abbrev F114 : FnA := ⟨19, c114, [.t 4]⟩
theorem ok114 : cFn Try.prog 114 = some F114 := by kernel_rfl
theorem hb114 : HasBody Try.prog 114 := ⟨_, Try.func114, by kernel_rfl, by kernel_rfl⟩
/-! slices.AppendSeq:Span -/
abbrev c115_r1 : List Ins := [
  ⟨some 2, none, .box (.t 0)⟩,
  ⟨some 4, none, .mov (.c (.sl .full []))⟩]
abbrev c115_r2 : List Ins := [
  ⟨some 6, none, .mov (.t 1)⟩]
abbrev c115_r3 : List Ins := [
  ⟨some 5, none, .alloc [.int .i64 0, .int .i64 0]⟩,
  ⟨none, none, .store 2 (.t 5) (.t 7)⟩]
abbrev c115_r4 : List Ins := [
  ⟨some 8, none, .load 1 false (.t 2)⟩,
  ⟨some 9, none, .load 2 true (.t 5)⟩,
  ⟨some 10, none, .bsl 2 1 [.int .i64 0, .int .i64 0] [(0, .t 9)]⟩,
  ⟨some 11, none, .append 2 16 (.t 8) (.t 10)⟩,
  ⟨none, none, .store 1 (.t 2) (.t 11)⟩]
abbrev c115_x5 : IR := .reg c115_r3
abbrev c115_y6 : IR := .blk 1 (.reg c115_r4)
abbrev c115_r7 : List Ins := [
  ⟨some 12, none, .load 1 false (.t 2)⟩,
  ⟨some 4, none, .mov (.t 12)⟩]
abbrev c115 : IR := .seq (.reg c115_r1) (.seq (.seq (.reg c115_r2) (.blk 0 (.rngf (.t 6) [7] c115_x5 c115_y6))) (.seq (.reg c115_r7) (.ret)))
abbrev F115 : FnA := ⟨13, c115, [.t 4]⟩
theorem ok115 : cFn Try.prog 115 = some F115 := by kernel_rfl
theorem hb115 : HasBody Try.prog 115 := ⟨_, Try.func115, by kernel_rfl, by kernel_rfl⟩
/-! keys.meets$1 -/
abbrev c116_r1 : List Ins := [
  ⟨some 9, none, .load 1 false (.t 1)⟩,
  ⟨some 10, none, .len (.t 9)⟩,
  ⟨some 11, none, .mov (.c (.int .i64 0))⟩]
abbrev c116_r2 : List Ins := [
  ⟨some 12, none, .bin .lss (.t 11) (.t 10)⟩]
abbrev c116_r3 : List Ins := [
  ⟨some 13, none, .iaddr 2 (.t 9) (.t 11)⟩,
  ⟨some 14, none, .load 2 true (.t 13)⟩,
  ⟨some 5, none, .alloc [.int .i64 0, .int .i64 0]⟩,
  ⟨none, none, .store 2 (.t 5) (.t 14)⟩]
abbrev c116_r4 : List Ins := [
  ⟨some 15, none, .load 1 false (.t 2)⟩,
  ⟨some 16, none, .len (.t 15)⟩,
  ⟨some 17, none, .mov (.c (.int .i64 0))⟩]
abbrev c116_r5 : List Ins := [
  ⟨some 18, none, .bin .lss (.t 17) (.t 16)⟩]
abbrev c116_r6 : List Ins := [
  ⟨some 19, none, .iaddr 2 (.t 15) (.t 17)⟩,
  ⟨some 20, none, .load 2 true (.t 19)⟩,
  ⟨some 7, none, .alloc [.int .i64 0, .int .i64 0]⟩,
  ⟨none, none, .store 2 (.t 7) (.t 20)⟩]
abbrev c116_r7 : List Ins := [
  ⟨some 21, none, .faddr 0 (.t 5)⟩,
  ⟨some 22, none, .load 1 false (.t 21)⟩,
  ⟨some 23, none, .faddr 0 (.t 7)⟩,
  ⟨some 24, none, .load 1 false (.t 23)⟩,
  ⟨some 25, none, .mx [.t 22, .t 24]⟩,
  ⟨some 26, none, .faddr 1 (.t 5)⟩,
  ⟨some 27, none, .load 1 false (.t 26)⟩,
  ⟨some 28, none, .faddr 1 (.t 7)⟩,
  ⟨some 29, none, .load 1 false (.t 28)⟩,
  ⟨some 30, none, .mn [.t 27, .t 29]⟩,
  ⟨some 31, none, .build [.int .i64 0, .int .i64 0] [(0, (1, .t 25)), (1, (1, .t 30))]⟩,
  ⟨some 8, none, .alloc [.int .i64 0, .int .i64 0]⟩,
  ⟨none, none, .store 2 (.t 8) (.t 31)⟩]
abbrev c116_r8 : List Ins := [
  ⟨some 32, none, .faddr 0 (.t 8)⟩,
  ⟨some 33, none, .load 1 false (.t 32)⟩,
  ⟨some 34, none, .faddr 1 (.t 8)⟩,
  ⟨some 35, none, .load 1 false (.t 34)⟩,
  ⟨some 36, none, .bin .leq (.t 33) (.t 35)⟩,
  ⟨some 37, none, .mov (.t 36)⟩,
  ⟨some 38, some (37, true), .mov (.t 0)⟩,
  ⟨some 39, some (37, true), .load 2 true (.t 8)⟩,
  ⟨some 40, some (37, true), .call (.t 38) [.t 39]⟩,
  ⟨some 41, some (37, true), .un .not (.t 40)⟩,
  ⟨some 42, none, .pick (.t 37) (.t 41) (.c (.bool false))⟩]
abbrev c116_r9 : List Ins := [
  ⟨some 43, none, .bin .add (.t 17) (.c (.int .i64 1))⟩,
  ⟨some 17, none, .mov (.t 43)⟩]
abbrev c116_l10 : IR := .seq (.reg c116_r5) (.seq (.cond (.t 18) (.skip) (.exit 2)) (.seq (.blk 3 (.seq (.reg c116_r6) (.seq (.reg c116_r7) (.seq (.reg c116_r8) (.cond (.t 42) (.ret) (.skip)))))) (.reg c116_r9)))
abbrev c116_r11 : List Ins := [
  ⟨some 44, none, .bin .add (.t 11) (.c (.int .i64 1))⟩,
  ⟨some 11, none, .mov (.t 44)⟩]
abbrev c116_l12 : IR := .seq (.reg c116_r2) (.seq (.cond (.t 12) (.skip) (.exit 0)) (.seq (.blk 1 (.seq (.reg c116_r3) (.seq (.reg c116_r4) (.blk 2 (.loop c116_l10))))) (.reg c116_r11)))
abbrev c116 : IR := .seq (.reg c116_r1) (.blk 0 (.loop c116_l12))
abbrev F116 : FnA := ⟨45, c116, []⟩
theorem ok116 : cFn Try.prog 116 = some F116 := by kernel_rfl
theorem hb116 : HasBody Try.prog 116 := ⟨_, Try.func116, by kernel_rfl, by kernel_rfl⟩
/-! slices.IndexFunc:KeyT -/
abbrev c117_r1 : List Ins := [
  ⟨some 4, none, .mov (.c (.int .i64 0))⟩]
abbrev c117_r2 : List Ins := [
  ⟨some 6, none, .mov (.t 0)⟩,
  ⟨some 7, none, .len (.t 6)⟩,
  ⟨some 8, none, .mov (.c (.int .i64 0))⟩]
abbrev c117_r3 : List Ins := [
  ⟨some 9, none, .bin .lss (.t 8) (.t 7)⟩]
abbrev c117_r4 : List Ins := [
  ⟨some 10, none, .mov (.t 8)⟩,
  ⟨some 5, none, .mov (.t 10)⟩]
abbrev c117_r5 : List Ins := [
  ⟨some 11, none, .mov (.t 1)⟩,
  ⟨some 12, none, .mov (.t 0)⟩,
  ⟨some 13, none, .mov (.t 5)⟩,
  ⟨some 14, none, .iaddr 2 (.t 12) (.t 13)⟩,
  ⟨some 15, none, .load 2 true (.t 14)⟩,
  ⟨some 16, none, .call (.t 11) [.t 15]⟩]
abbrev c117_r6 : List Ins := [
  ⟨some 17, none, .mov (.t 5)⟩,
  ⟨some 4, none, .mov (.t 17)⟩]
abbrev c117_r7 : List Ins := [
  ⟨some 18, none, .bin .add (.t 8) (.c (.int .i64 1))⟩,
  ⟨some 8, none, .mov (.t 18)⟩]
abbrev c117_l8 : IR := .seq (.reg c117_r3) (.seq (.cond (.t 9) (.skip) (.exit 0)) (.seq (.blk 1 (.seq (.reg c117_r4) (.seq (.reg c117_r5) (.cond (.t 16) (.seq (.reg c117_r6) (.ret)) (.skip))))) (.reg c117_r7)))
abbrev c117_r9 : List Ins := [
  ⟨some 4, none, .mov (.c (.int .i64 (-1)))⟩]
abbrev c117 : IR := .seq (.reg c117_r1) (.seq (.seq (.reg c117_r2) (.blk 0 (.loop c117_l8))) (.seq (.reg c117_r9) (.ret)))
abbrev F117 : FnA := ⟨19, c117, [.t 4]⟩
theorem ok117 : cFn Try.prog 117 = some F117 := by kernel_rfl
theorem hb117 : HasBody Try.prog 117 := ⟨_, Try.func117, by kernel_rfl, by kernel_rfl⟩
/-! slices.insertionSortCmpFunc:Span -/
abbrev c118_r1 : List Ins := [
  ⟨some 10, none, .mov (.t 1)⟩,
  ⟨some 11, none, .bin .add (.t 10) (.c (.int .i64 1))⟩,
  ⟨some 8, none, .mov (.t 11)⟩]
abbrev c118_r2 : List Ins := [
  ⟨some 12, none, .mov (.t 8)⟩,
  ⟨some 13, none, .mov (.t 2)⟩,
  ⟨some 14, none, .bin .lss (.t 12) (.t 13)⟩]
abbrev c118_r3 : List Ins := [
  ⟨some 17, none, .mov (.t 8)⟩,
  ⟨some 9, none, .mov (.t 17)⟩]
abbrev c118_r4 : List Ins := [
  ⟨some 18, none, .mov (.t 9)⟩,
  ⟨some 19, none, .mov (.t 1)⟩,
  ⟨some 20, none, .bin .gtr (.t 18) (.t 19)⟩,
  ⟨some 21, none, .mov (.t 20)⟩,
  ⟨some 22, some (21, true), .mov (.t 3)⟩,
  ⟨some 23, some (21, true), .mov (.t 0)⟩,
  ⟨some 24, some (21, true), .mov (.t 9)⟩,
  ⟨some 25, some (21, true), .iaddr 2 (.t 23) (.t 24)⟩,
  ⟨some 26, some (21, true), .load 2 true (.t 25)⟩,
  ⟨some 27, some (21, true), .mov (.t 0)⟩,
  ⟨some 28, some (21, true), .mov (.t 9)⟩,
  ⟨some 29, some (21, true), .bin .sub (.t 28) (.c (.int .i64 1))⟩,
  ⟨some 30, some (21, true), .iaddr 2 (.t 27) (.t 29)⟩,
  ⟨some 31, some (21, true), .load 2 true (.t 30)⟩,
  ⟨some 32, some (21, true), .call (.t 22) [.t 26, .t 31]⟩,
  ⟨some 33, some (21, true), .bin .lss (.t 32) (.c (.int .i64 0))⟩,
  ⟨some 34, none, .pick (.t 21) (.t 33) (.c (.bool false))⟩]
def c118_a4 : List (List Nat) := [[], [], [0, 1], [2], [3], [3], [3], [5, 6, 3], [7, 3], [3], [3], [10, 3], [9, 11, 3], [12, 3], [4, 8, 13, 3, 3], [14, 3], [3, 15]]
abbrev c118_m4 : List Am.Mark := [⟨false, 0, 1⟩, ⟨false, 0, 1⟩, ⟨false, 0, 1⟩, ⟨false, 0, 0⟩, ⟨false, 0, 0⟩, ⟨false, 0, 1⟩, ⟨false, 0, 1⟩, ⟨false, 0, 1⟩, ⟨false, 0, 0⟩, ⟨false, 0, 1⟩, ⟨false, 0, 1⟩, ⟨false, 0, 1⟩, ⟨false, 0, 1⟩, ⟨false, 0, 0⟩, ⟨true, 0, 1⟩, ⟨false, 1, 1⟩, ⟨false, 1, 1⟩]
theorem c118_d4 : drawFine c118_r4 c118_a4 c118_m4 = true := by decide +kernel
abbrev c118_r5 : List Ins := [
  ⟨some 37, none, .mov (.t 0)⟩,
  ⟨some 38, none, .mov (.t 9)⟩,
  ⟨some 39, none, .mov (.t 0)⟩,
  ⟨some 40, none, .mov (.t 9)⟩,
  ⟨some 41, none, .bin .sub (.t 40) (.c (.int .i64 1))⟩,
  ⟨some 42, none, .mov (.t 0)⟩,
  ⟨some 43, none, .mov (.t 9)⟩,
  ⟨some 44, none, .bin .sub (.t 43) (.c (.int .i64 1))⟩,
  ⟨some 45, none, .iaddr 2 (.t 42) (.t 44)⟩,
  ⟨some 46, none, .load 2 true (.t 45)⟩,
  ⟨some 47, none, .mov (.t 0)⟩,
  ⟨some 48, none, .mov (.t 9)⟩,
  ⟨some 49, none, .iaddr 2 (.t 47) (.t 48)⟩,
  ⟨some 50, none, .load 2 true (.t 49)⟩,
  ⟨some 51, none, .iaddr 2 (.t 37) (.t 38)⟩,
  ⟨none, none, .store 2 (.t 51) (.t 46)⟩,
  ⟨some 52, none, .iaddr 2 (.t 39) (.t 41)⟩,
  ⟨none, none, .store 2 (.t 52) (.t 50)⟩]
def c118_a5 : List (List Nat) := [[], [], [], [], [3], [], [], [6], [5, 7], [8], [], [], [10, 11], [12], [0, 1, 0, 1, 5, 6, 7, 8, 9, 13], [14, 9, 0, 1, 5, 6, 7, 8, 9, 13], [2, 4, 0, 1, 2, 3, 4, 5, 6, 7, 8, 9, 10, 11, 12, 13, 14, 15], [16, 13, 15, 0, 1, 2, 3, 4, 5, 6, 7, 8, 9, 10, 11, 12, 13, 14, 15]]
abbrev c118_m5 : List Am.Mark := [⟨false, 0, 0⟩, ⟨false, 0, 0⟩, ⟨false, 0, 1⟩, ⟨false, 0, 1⟩, ⟨false, 0, 1⟩, ⟨false, 0, 0⟩, ⟨false, 0, 0⟩, ⟨false, 0, 0⟩, ⟨false, 0, 0⟩, ⟨false, 0, 0⟩, ⟨false, 0, 1⟩, ⟨false, 0, 1⟩, ⟨false, 0, 1⟩, ⟨false, 0, 0⟩, ⟨false, 0, 0⟩, ⟨true, 0, 1⟩, ⟨false, 1, 1⟩, ⟨true, 1, 2⟩]
theorem c118_d5 : drawFine c118_r5 c118_a5 c118_m5 = true := by decide +kernel
abbrev c118_r6 : List Ins := [
  ⟨some 35, none, .mov (.t 9)⟩,
  ⟨some 36, none, .bin .sub (.t 35) (.c (.int .i64 1))⟩,
  ⟨some 9, none, .mov (.t 36)⟩]
abbrev c118_l7 : IR := .seq (.seq (.dreg c118_r4 c118_a4) (.cond (.t 34) (.skip) (.exit 2))) (.seq (.blk 3 (.dreg c118_r5 c118_a5)) (.reg c118_r6))
abbrev c118_r8 : List Ins := [
  ⟨some 15, none, .mov (.t 8)⟩,
  ⟨some 16, none, .bin .add (.t 15) (.c (.int .i64 1))⟩,
  ⟨some 8, none, .mov (.t 16)⟩]
abbrev c118_l9 : IR := .seq (.seq (.reg c118_r2) (.cond (.t 14) (.skip) (.exit 0))) (.seq (.blk 1 (.seq (.reg c118_r3) (.blk 2 (.loop c118_l7)))) (.reg c118_r8))
abbrev c118 : IR := .seq (.reg c118_r1) (.blk 0 (.loop c118_l9))
abbrev F118 : FnA := ⟨53, c118, []⟩
theorem ok118 : cFn Try.prog 118 = some F118 := by kernel_rfl
theorem hb118 : HasBody Try.prog 118 := ⟨_, Try.func118, by kernel_rfl, by kernel_rfl⟩
/-! slices.heapSortCmpFunc:Span -/
abbrev c119_r1 : List Ins := [
  ⟨some 13, none, .mov (.t 1)⟩,
  ⟨some 8, none, .mov (.t 13)⟩]
abbrev c119_r2 : List Ins := [
  ⟨some 9, none, .mov (.c (.int .i64 0))⟩]
abbrev c119_r3 : List Ins := [
  ⟨some 14, none, .mov (.t 2)⟩,
  ⟨some 15, none, .mov (.t 1)⟩,
  ⟨some 16, none, .bin .sub (.t 14) (.t 15)⟩,
  ⟨some 10, none, .mov (.t 16)⟩]
abbrev c119_r4 : List Ins := [
  ⟨some 17, none, .mov (.t 10)⟩,
  ⟨some 18, none, .bin .sub (.t 17) (.c (.int .i64 1))⟩,
  ⟨some 19, none, .bin .quo (.t 18) (.c (.int .i64 2))⟩,
  ⟨some 11, none, .mov (.t 19)⟩]
abbrev c119_r5 : List Ins := [
  ⟨some 20, none, .mov (.t 11)⟩,
  ⟨some 21, none, .bin .geq (.t 20) (.c (.int .i64 0))⟩]
abbrev c119_r6 : List Ins := [
  ⟨some 24, none, .mov (.t 0)⟩,
  ⟨some 25, none, .mov (.t 11)⟩,
  ⟨some 26, none, .mov (.t 10)⟩,
  ⟨some 27, none, .mov (.t 8)⟩,
  ⟨some 28, none, .mov (.t 3)⟩,
  ⟨some 29, none, .call (.c (.fn 128 [] [])) [.t 24, .t 25, .t 26, .t 27, .t 28]⟩]
abbrev c119_r7 : List Ins := [
  ⟨some 22, none, .mov (.t 11)⟩,
  ⟨some 23, none, .bin .sub (.t 22) (.c (.int .i64 1))⟩,
  ⟨some 11, none, .mov (.t 23)⟩]
abbrev c119_l8 : IR := .seq (.seq (.reg c119_r5) (.cond (.t 21) (.skip) (.exit 0))) (.seq (.blk 1 (.reg c119_r6)) (.reg c119_r7))
abbrev c119_r9 : List Ins := [
  ⟨some 30, none, .mov (.t 10)⟩,
  ⟨some 31, none, .bin .sub (.t 30) (.c (.int .i64 1))⟩,
  ⟨some 12, none, .mov (.t 31)⟩]
abbrev c119_r10 : List Ins := [
  ⟨some 32, none, .mov (.t 12)⟩,
  ⟨some 33, none, .bin .geq (.t 32) (.c (.int .i64 0))⟩]
abbrev c119_r11 : List Ins := [
  ⟨some 36, none, .mov (.t 0)⟩,
  ⟨some 37, none, .mov (.t 8)⟩,
  ⟨some 38, none, .mov (.t 0)⟩,
  ⟨some 39, none, .mov (.t 8)⟩,
  ⟨some 40, none, .mov (.t 12)⟩,
  ⟨some 41, none, .bin .add (.t 39) (.t 40)⟩,
  ⟨some 42, none, .mov (.t 0)⟩,
  ⟨some 43, none, .mov (.t 8)⟩,
  ⟨some 44, none, .mov (.t 12)⟩,
  ⟨some 45, none, .bin .add (.t 43) (.t 44)⟩,
  ⟨some 46, none, .iaddr 2 (.t 42) (.t 45)⟩,
  ⟨some 47, none, .load 2 true (.t 46)⟩,
  ⟨some 48, none, .mov (.t 0)⟩,
  ⟨some 49, none, .mov (.t 8)⟩,
  ⟨some 50, none, .iaddr 2 (.t 48) (.t 49)⟩,
  ⟨some 51, none, .load 2 true (.t 50)⟩,
  ⟨some 52, none, .iaddr 2 (.t 36) (.t 37)⟩,
  ⟨none, none, .store 2 (.t 52) (.t 47)⟩,
  ⟨some 53, none, .iaddr 2 (.t 38) (.t 41)⟩,
  ⟨none, none, .store 2 (.t 53) (.t 51)⟩]
def c119_a11 : List (List Nat) := [[], [], [], [], [], [3, 4], [], [], [], [7, 8], [6, 9], [10], [], [], [12, 13], [14], [0, 1, 0, 1, 6, 7, 8, 9, 10, 11, 15], [16, 11, 0, 1, 6, 7, 8, 9, 10, 11, 15], [2, 5, 0, 1, 2, 3, 4, 5, 6, 7, 8, 9, 10, 11, 12, 13, 14, 15, 16, 17], [18, 15, 17, 0, 1, 2, 3, 4, 5, 6, 7, 8, 9, 10, 11, 12, 13, 14, 15, 16, 17]]
abbrev c119_m11 : List Am.Mark := [⟨false, 0, 0⟩, ⟨false, 0, 0⟩, ⟨false, 0, 1⟩, ⟨false, 0, 1⟩, ⟨false, 0, 1⟩, ⟨false, 0, 1⟩, ⟨false, 0, 0⟩, ⟨false, 0, 0⟩, ⟨false, 0, 0⟩, ⟨false, 0, 0⟩, ⟨false, 0, 0⟩, ⟨false, 0, 0⟩, ⟨false, 0, 1⟩, ⟨false, 0, 1⟩, ⟨false, 0, 1⟩, ⟨false, 0, 0⟩, ⟨false, 0, 0⟩, ⟨true, 0, 1⟩, ⟨false, 1, 1⟩, ⟨true, 1, 2⟩]
theorem c119_d11 : drawFine c119_r11 c119_a11 c119_m11 = true := by decide +kernel
abbrev c119_r12 : List Ins := [
  ⟨some 54, none, .mov (.t 0)⟩,
  ⟨some 55, none, .mov (.t 9)⟩,
  ⟨some 56, none, .mov (.t 12)⟩,
  ⟨some 57, none, .mov (.t 8)⟩,
  ⟨some 58, none, .mov (.t 3)⟩,
  ⟨some 59, none, .call (.c (.fn 128 [] [])) [.t 54, .t 55, .t 56, .t 57, .t 58]⟩]
abbrev c119_r13 : List Ins := [
  ⟨some 34, none, .mov (.t 12)⟩,
  ⟨some 35, none, .bin .sub (.t 34) (.c (.int .i64 1))⟩,
  ⟨some 12, none, .mov (.t 35)⟩]
abbrev c119_l14 : IR := .seq (.seq (.reg c119_r10) (.cond (.t 33) (.skip) (.exit 2))) (.seq (.blk 3 (.seq (.dreg c119_r11 c119_a11) (.reg c119_r12))) (.reg c119_r13))
abbrev c119 : IR := .seq (.reg c119_r1) (.seq (.reg c119_r2) (.seq (.reg c119_r3) (.seq (.seq (.reg c119_r4) (.blk 0 (.loop c119_l8))) (.seq (.reg c119_r9) (.blk 2 (.loop c119_l14))))))
abbrev F119 : FnA := ⟨60, c119, []⟩
theorem ok119 : cFn Try.prog 119 = some F119 := by kernel_rfl
theorem hb119 : HasBody Try.prog 119 := ⟨_, Try.func119, by kernel_rfl, by kernel_rfl⟩
/-! slices.breakPatternsCmpFunc:Span -/
abbrev c120_r1 : List Ins := [
  ⟨some 13, none, .mov (.t 2)⟩,
  ⟨some 14, none, .mov (.t 1)⟩,
  ⟨some 15, none, .bin .sub (.t 13) (.t 14)⟩,
  ⟨some 8, none, .mov (.t 15)⟩]
abbrev c120_r2 : List Ins := [
  ⟨some 16, none, .mov (.t 8)⟩,
  ⟨some 17, none, .bin .geq (.t 16) (.c (.int .i64 8))⟩]
abbrev c120_r3 : List Ins := [
  ⟨some 18, none, .mov (.t 8)⟩,
  ⟨some 19, none, .conv .u64 (.t 18)⟩,
  ⟨some 9, none, .alloc [.int .u64 0]⟩,
  ⟨none, none, .store 1 (.t 9) (.t 19)⟩]
abbrev c120_r4 : List Ins := [
  ⟨some 20, none, .mov (.t 8)⟩,
  ⟨some 21, none, .call (.c (.fn 129 [] [])) [.t 20]⟩,
  ⟨some 10, none, .mov (.t 21)⟩]
abbrev c120_r5 : List Ins := [
  ⟨some 22, none, .mov (.t 1)⟩,
  ⟨some 23, none, .mov (.t 8)⟩,
  ⟨some 24, none, .bin .quo (.t 23) (.c (.int .i64 4))⟩,
  ⟨some 25, none, .bin .mul (.t 24) (.c (.int .i64 2))⟩,
  ⟨some 26, none, .bin .add (.t 22) (.t 25)⟩,
  ⟨some 27, none, .bin .sub (.t 26) (.c (.int .i64 1))⟩,
  ⟨some 11, none, .mov (.t 27)⟩]
abbrev c120_r6 : List Ins := [
  ⟨some 28, none, .mov (.t 11)⟩,
  ⟨some 29, none, .mov (.t 1)⟩,
  ⟨some 30, none, .mov (.t 8)⟩,
  ⟨some 31, none, .bin .quo (.t 30) (.c (.int .i64 4))⟩,
  ⟨some 32, none, .bin .mul (.t 31) (.c (.int .i64 2))⟩,
  ⟨some 33, none, .bin .add (.t 29) (.t 32)⟩,
  ⟨some 34, none, .bin .add (.t 33) (.c (.int .i64 1))⟩,
  ⟨some 35, none, .bin .leq (.t 28) (.t 34)⟩]
abbrev c120_r7 : List Ins := [
  ⟨some 38, none, .call (.c (.fn 130 [] [])) [.t 9]⟩,
  ⟨some 39, none, .mov (.t 10)⟩,
  ⟨some 40, none, .bin .sub (.t 39) (.c (.int .u64 1))⟩,
  ⟨some 41, none, .bin .and (.t 38) (.t 40)⟩,
  ⟨some 42, none, .conv .i64 (.t 41)⟩,
  ⟨some 12, none, .mov (.t 42)⟩]
abbrev c120_r8 : List Ins := [
  ⟨some 43, none, .mov (.t 12)⟩,
  ⟨some 44, none, .mov (.t 8)⟩,
  ⟨some 45, none, .bin .geq (.t 43) (.t 44)⟩]
abbrev c120_r9 : List Ins := [
  ⟨some 46, none, .mov (.t 12)⟩,
  ⟨some 47, none, .mov (.t 8)⟩,
  ⟨some 48, none, .bin .sub (.t 46) (.t 47)⟩,
  ⟨some 12, none, .mov (.t 48)⟩]
abbrev c120_r10 : List Ins := [
  ⟨some 49, none, .mov (.t 0)⟩,
  ⟨some 50, none, .mov (.t 11)⟩,
  ⟨some 51, none, .mov (.t 0)⟩,
  ⟨some 52, none, .mov (.t 1)⟩,
  ⟨some 53, none, .mov (.t 12)⟩,
  ⟨some 54, none, .bin .add (.t 52) (.t 53)⟩,
  ⟨some 55, none, .mov (.t 0)⟩,
  ⟨some 56, none, .mov (.t 1)⟩,
  ⟨some 57, none, .mov (.t 12)⟩,
  ⟨some 58, none, .bin .add (.t 56) (.t 57)⟩,
  ⟨some 59, none, .iaddr 2 (.t 55) (.t 58)⟩,
  ⟨some 60, none, .load 2 true (.t 59)⟩,
  ⟨some 61, none, .mov (.t 0)⟩,
  ⟨some 62, none, .mov (.t 11)⟩,
  ⟨some 63, none, .iaddr 2 (.t 61) (.t 62)⟩,
  ⟨some 64, none, .load 2 true (.t 63)⟩,
  ⟨some 65, none, .iaddr 2 (.t 49) (.t 50)⟩,
  ⟨none, none, .store 2 (.t 65) (.t 60)⟩,
  ⟨some 66, none, .iaddr 2 (.t 51) (.t 54)⟩,
  ⟨none, none, .store 2 (.t 66) (.t 64)⟩]
def c120_a10 : List (List Nat) := [[], [], [], [], [], [3, 4], [], [], [], [7, 8], [6, 9], [10], [], [], [12, 13], [14], [0, 1, 0, 1, 6, 7, 8, 9, 10, 11, 15], [16, 11, 0, 1, 6, 7, 8, 9, 10, 11, 15], [2, 5, 0, 1, 2, 3, 4, 5, 6, 7, 8, 9, 10, 11, 12, 13, 14, 15, 16, 17], [18, 15, 17, 0, 1, 2, 3, 4, 5, 6, 7, 8, 9, 10, 11, 12, 13, 14, 15, 16, 17]]
abbrev c120_m10 : List Am.Mark := [⟨false, 0, 0⟩, ⟨false, 0, 0⟩, ⟨false, 0, 1⟩, ⟨false, 0, 1⟩, ⟨false, 0, 1⟩, ⟨false, 0, 1⟩, ⟨false, 0, 0⟩, ⟨false, 0, 0⟩, ⟨false, 0, 0⟩, ⟨false, 0, 0⟩, ⟨false, 0, 0⟩, ⟨false, 0, 0⟩, ⟨false, 0, 1⟩, ⟨false, 0, 1⟩, ⟨false, 0, 1⟩, ⟨false, 0, 0⟩, ⟨false, 0, 0⟩, ⟨true, 0, 1⟩, ⟨false, 1, 1⟩, ⟨true, 1, 2⟩]
theorem c120_d10 : drawFine c120_r10 c120_a10 c120_m10 = true := by decide +kernel
abbrev c120_r11 : List Ins := [
  ⟨some 36, none, .mov (.t 11)⟩,
  ⟨some 37, none, .bin .add (.t 36) (.c (.int .i64 1))⟩,
  ⟨some 11, none, .mov (.t 37)⟩]
abbrev c120_l12 : IR := .seq (.seq (.reg c120_r6) (.cond (.t 35) (.skip) (.exit 0))) (.seq (.blk 1 (.seq (.reg c120_r7) (.seq (.seq (.reg c120_r8) (.cond (.t 45) (.reg c120_r9) (.skip))) (.dreg c120_r10 c120_a10)))) (.reg c120_r11))
abbrev c120 : IR := .seq (.reg c120_r1) (.seq (.reg c120_r2) (.cond (.t 17) (.seq (.reg c120_r3) (.seq (.reg c120_r4) (.seq (.reg c120_r5) (.blk 0 (.loop c120_l12))))) (.skip)))
abbrev F120 : FnA := ⟨67, c120, []⟩
theorem ok120 : cFn Try.prog 120 = some F120 := by kernel_rfl
theorem hb120 : HasBody Try.prog 120 := ⟨_, Try.func120, by kernel_rfl, by kernel_rfl⟩
/-! slices.choosePivotCmpFunc:Span -/
abbrev c121_r1 : List Ins := [
  ⟨some 8, none, .mov (.c (.int .i64 0))⟩,
  ⟨some 9, none, .mov (.c (.int .i64 0))⟩]
abbrev c121_r2 : List Ins := [
  ⟨some 15, none, .mov (.t 2)⟩,
  ⟨some 16, none, .mov (.t 1)⟩,
  ⟨some 17, none, .bin .sub (.t 15) (.t 16)⟩,
  ⟨some 10, none, .mov (.t 17)⟩]
abbrev c121_r3 : List Ins := [
  ⟨some 11, none, .alloc [.int .i64 0]⟩]
abbrev c121_r4 : List Ins := [
  ⟨some 18, none, .mov (.t 1)⟩,
  ⟨some 19, none, .mov (.t 10)⟩,
  ⟨some 20, none, .bin .quo (.t 19) (.c (.int .i64 4))⟩,
  ⟨some 21, none, .bin .mul (.t 20) (.c (.int .i64 1))⟩,
  ⟨some 22, none, .bin .add (.t 18) (.t 21)⟩,
  ⟨some 12, none, .mov (.t 22)⟩]
abbrev c121_r5 : List Ins := [
  ⟨some 23, none, .mov (.t 1)⟩,
  ⟨some 24, none, .mov (.t 10)⟩,
  ⟨some 25, none, .bin .quo (.t 24) (.c (.int .i64 4))⟩,
  ⟨some 26, none, .bin .mul (.t 25) (.c (.int .i64 2))⟩,
  ⟨some 27, none, .bin .add (.t 23) (.t 26)⟩,
  ⟨some 13, none, .mov (.t 27)⟩]
abbrev c121_r6 : List Ins := [
  ⟨some 28, none, .mov (.t 1)⟩,
  ⟨some 29, none, .mov (.t 10)⟩,
  ⟨some 30, none, .bin .quo (.t 29) (.c (.int .i64 4))⟩,
  ⟨some 31, none, .bin .mul (.t 30) (.c (.int .i64 3))⟩,
  ⟨some 32, none, .bin .add (.t 28) (.t 31)⟩,
  ⟨some 14, none, .mov (.t 32)⟩]
abbrev c121_r7 : List Ins := [
  ⟨some 33, none, .mov (.t 10)⟩,
  ⟨some 34, none, .bin .geq (.t 33) (.c (.int .i64 8))⟩]
abbrev c121_r8 : List Ins := [
  ⟨some 35, none, .mov (.t 10)⟩,
  ⟨some 36, none, .bin .geq (.t 35) (.c (.int .i64 50))⟩]
abbrev c121_r9 : List Ins := [
  ⟨some 37, none, .mov (.t 0)⟩,
  ⟨some 38, none, .mov (.t 12)⟩,
  ⟨some 39, none, .mov (.t 3)⟩,
  ⟨some 40, none, .call (.c (.fn 131 [] [])) [.t 37, .t 38, .t 11, .t 39]⟩,
  ⟨some 12, none, .mov (.t 40)⟩]
abbrev c121_r10 : List Ins := [
  ⟨some 41, none, .mov (.t 0)⟩,
  ⟨some 42, none, .mov (.t 13)⟩,
  ⟨some 43, none, .mov (.t 3)⟩,
  ⟨some 44, none, .call (.c (.fn 131 [] [])) [.t 41, .t 42, .t 11, .t 43]⟩,
  ⟨some 13, none, .mov (.t 44)⟩]
abbrev c121_r11 : List Ins := [
  ⟨some 45, none, .mov (.t 0)⟩,
  ⟨some 46, none, .mov (.t 14)⟩,
  ⟨some 47, none, .mov (.t 3)⟩,
  ⟨some 48, none, .call (.c (.fn 131 [] [])) [.t 45, .t 46, .t 11, .t 47]⟩,
  ⟨some 14, none, .mov (.t 48)⟩]
abbrev c121_r12 : List Ins := [
  ⟨some 49, none, .mov (.t 0)⟩,
  ⟨some 50, none, .mov (.t 12)⟩,
  ⟨some 51, none, .mov (.t 13)⟩,
  ⟨some 52, none, .mov (.t 14)⟩,
  ⟨some 53, none, .mov (.t 3)⟩,
  ⟨some 54, none, .call (.c (.fn 132 [] [])) [.t 49, .t 50, .t 51, .t 52, .t 11, .t 53]⟩,
  ⟨some 13, none, .mov (.t 54)⟩]
abbrev c121_r13 : List Ins := [
  ⟨some 55, none, .load 1 false (.t 11)⟩]
abbrev c121_r14 : List Ins := [
  ⟨some 58, none, .bin .eql (.t 55) (.c (.int .i64 0))⟩,
  ⟨some 57, none, .mov (.t 58)⟩]
abbrev c121_r15 : List Ins := [
  ⟨some 59, none, .mov (.t 13)⟩,
  ⟨some 8, none, .mov (.t 59)⟩,
  ⟨some 9, none, .mov (.c (.int .i64 1))⟩]
abbrev c121_r16 : List Ins := [
  ⟨some 61, none, .bin .eql (.t 55) (.c (.int .i64 12))⟩,
  ⟨some 60, none, .mov (.t 61)⟩]
abbrev c121_r17 : List Ins := [
  ⟨some 62, none, .mov (.t 13)⟩,
  ⟨some 8, none, .mov (.t 62)⟩,
  ⟨some 9, none, .mov (.c (.int .i64 2))⟩]
abbrev c121_r18 : List Ins := [
  ⟨some 56, none, .mov (.t 13)⟩,
  ⟨some 8, none, .mov (.t 56)⟩,
  ⟨some 9, none, .mov (.c (.int .i64 0))⟩]
abbrev c121 : IR := .seq (.reg c121_r1) (.seq (.reg c121_r2) (.seq (.reg c121_r3) (.seq (.reg c121_r4) (.seq (.reg c121_r5) (.seq (.reg c121_r6) (.seq (.seq (.reg c121_r7) (.cond (.t 34) (.seq (.seq (.reg c121_r8) (.cond (.t 36) (.seq (.reg c121_r9) (.seq (.reg c121_r10) (.reg c121_r11))) (.skip))) (.reg c121_r12)) (.skip))) (.seq (.reg c121_r13) (.blk 0 (.seq (.reg c121_r14) (.cond (.t 57) (.seq (.reg c121_r15) (.ret)) (.seq (.reg c121_r16) (.cond (.t 60) (.seq (.reg c121_r17) (.ret)) (.seq (.reg c121_r18) (.ret))))))))))))))
abbrev F121 : FnA := ⟨63, c121, [.t 8, .t 9]⟩
theorem ok121 : cFn Try.prog 121 = some F121 := by kernel_rfl
theorem hb121 : HasBody Try.prog 121 := ⟨_, Try.func121, by kernel_rfl, by kernel_rfl⟩
/-! slices.reverseRangeCmpFunc:Span -/
abbrev c122_r1 : List Ins := [
  ⟨some 10, none, .mov (.t 1)⟩,
  ⟨some 8, none, .mov (.t 10)⟩]
abbrev c122_r2 : List Ins := [
  ⟨some 11, none, .mov (.t 2)⟩,
  ⟨some 12, none, .bin .sub (.t 11) (.c (.int .i64 1))⟩,
  ⟨some 9, none, .mov (.t 12)⟩]
abbrev c122_r3 : List Ins := [
  ⟨some 13, none, .mov (.t 8)⟩,
  ⟨some 14, none, .mov (.t 9)⟩,
  ⟨some 15, none, .bin .lss (.t 13) (.t 14)⟩]
abbrev c122_r4 : List Ins := [
  ⟨some 16, none, .mov (.t 0)⟩,
  ⟨some 17, none, .mov (.t 8)⟩,
  ⟨some 18, none, .mov (.t 0)⟩,
  ⟨some 19, none, .mov (.t 9)⟩,
  ⟨some 20, none, .mov (.t 0)⟩,
  ⟨some 21, none, .mov (.t 9)⟩,
  ⟨some 22, none, .iaddr 2 (.t 20) (.t 21)⟩,
  ⟨some 23, none, .load 2 true (.t 22)⟩,
  ⟨some 24, none, .mov (.t 0)⟩,
  ⟨some 25, none, .mov (.t 8)⟩,
  ⟨some 26, none, .iaddr 2 (.t 24) (.t 25)⟩,
  ⟨some 27, none, .load 2 true (.t 26)⟩,
  ⟨some 28, none, .iaddr 2 (.t 16) (.t 17)⟩,
  ⟨none, none, .store 2 (.t 28) (.t 23)⟩,
  ⟨some 29, none, .iaddr 2 (.t 18) (.t 19)⟩,
  ⟨none, none, .store 2 (.t 29) (.t 27)⟩]
def c122_a4 : List (List Nat) := [[], [], [], [], [], [], [4, 5], [6], [], [], [8, 9], [10], [0, 1, 0, 1, 4, 5, 6, 7, 11], [12, 7, 0, 1, 4, 5, 6, 7, 11], [2, 3, 0, 1, 2, 3, 4, 5, 6, 7, 8, 9, 10, 11, 12, 13], [14, 11, 13, 0, 1, 2, 3, 4, 5, 6, 7, 8, 9, 10, 11, 12, 13]]
abbrev c122_m4 : List Am.Mark := [⟨false, 0, 0⟩, ⟨false, 0, 0⟩, ⟨false, 0, 1⟩, ⟨false, 0, 1⟩, ⟨false, 0, 0⟩, ⟨false, 0, 0⟩, ⟨false, 0, 0⟩, ⟨false, 0, 0⟩, ⟨false, 0, 1⟩, ⟨false, 0, 1⟩, ⟨false, 0, 1⟩, ⟨false, 0, 0⟩, ⟨false, 0, 0⟩, ⟨true, 0, 1⟩, ⟨false, 1, 1⟩, ⟨true, 1, 2⟩]
theorem c122_d4 : drawFine c122_r4 c122_a4 c122_m4 = true := by decide +kernel
abbrev c122_r5 : List Ins := [
  ⟨some 30, none, .mov (.t 8)⟩,
  ⟨some 31, none, .bin .add (.t 30) (.c (.int .i64 1))⟩,
  ⟨some 8, none, .mov (.t 31)⟩]
abbrev c122_r6 : List Ins := [
  ⟨some 32, none, .mov (.t 9)⟩,
  ⟨some 33, none, .bin .sub (.t 32) (.c (.int .i64 1))⟩,
  ⟨some 9, none, .mov (.t 33)⟩]
abbrev c122_l7 : IR := .seq (.seq (.reg c122_r3) (.cond (.t 15) (.skip) (.exit 0))) (.blk 1 (.seq (.dreg c122_r4 c122_a4) (.seq (.reg c122_r5) (.reg c122_r6))))
abbrev c122 : IR := .seq (.reg c122_r1) (.seq (.reg c122_r2) (.blk 0 (.loop c122_l7)))
abbrev F122 : FnA := ⟨34, c122, []⟩
theorem ok122 : cFn Try.prog 122 = some F122 := by kernel_rfl
theorem hb122 : HasBody Try.prog 122 := ⟨_, Try.func122, by kernel_rfl, by kernel_rfl⟩
/-! slices.partialInsertionSortCmpFunc:Span -/
abbrev c123_r1 : List Ins := [
  ⟨some 8, none, .mov (.c (.bool false))⟩]
abbrev c123_r2 : List Ins := [
  ⟨some 13, none, .mov (.t 1)⟩,
  ⟨some 14, none, .bin .add (.t 13) (.c (.int .i64 1))⟩,
  ⟨some 9, none, .mov (.t 14)⟩]
abbrev c123_r3 : List Ins := [
  ⟨some 10, none, .mov (.c (.int .i64 0))⟩]
abbrev c123_r4 : List Ins := [
  ⟨some 15, none, .mov (.t 10)⟩,
  ⟨some 16, none, .bin .lss (.t 15) (.c (.int .i64 5))⟩]
abbrev c123_r5 : List Ins := [
  ⟨some 19, none, .mov (.t 9)⟩,
  ⟨some 20, none, .mov (.t 2)⟩,
  ⟨some 21, none, .bin .lss (.t 19) (.t 20)⟩,
  ⟨some 22, none, .mov (.t 21)⟩,
  ⟨some 23, some (22, true), .mov (.t 3)⟩,
  ⟨some 24, some (22, true), .mov (.t 0)⟩,
  ⟨some 25, some (22, true), .mov (.t 9)⟩,
  ⟨some 26, some (22, true), .iaddr 2 (.t 24) (.t 25)⟩,
  ⟨some 27, some (22, true), .load 2 true (.t 26)⟩,
  ⟨some 28, some (22, true), .mov (.t 0)⟩,
  ⟨some 29, some (22, true), .mov (.t 9)⟩,
  ⟨some 30, some (22, true), .bin .sub (.t 29) (.c (.int .i64 1))⟩,
  ⟨some 31, some (22, true), .iaddr 2 (.t 28) (.t 30)⟩,
  ⟨some 32, some (22, true), .load 2 true (.t 31)⟩,
  ⟨some 33, some (22, true), .call (.t 23) [.t 27, .t 32]⟩,
  ⟨some 34, some (22, true), .bin .lss (.t 33) (.c (.int .i64 0))⟩,
  ⟨some 35, some (22, true), .un .not (.t 34)⟩,
  ⟨some 36, none, .pick (.t 22) (.t 35) (.c (.bool false))⟩]
def c123_a5 : List (List Nat) := [[], [], [0, 1], [2], [3], [3], [3], [5, 6, 3], [7, 3], [3], [3], [10, 3], [9, 11, 3], [12, 3], [4, 8, 13, 3, 3], [14, 3], [15, 3], [3, 16]]
abbrev c123_m5 : List Am.Mark := [⟨false, 0, 1⟩, ⟨false, 0, 1⟩, ⟨false, 0, 1⟩, ⟨false, 0, 0⟩, ⟨false, 0, 0⟩, ⟨false, 0, 1⟩, ⟨false, 0, 1⟩, ⟨false, 0, 1⟩, ⟨false, 0, 0⟩, ⟨false, 0, 1⟩, ⟨false, 0, 1⟩, ⟨false, 0, 1⟩, ⟨false, 0, 1⟩, ⟨false, 0, 0⟩, ⟨true, 0, 1⟩, ⟨false, 1, 1⟩, ⟨false, 1, 1⟩, ⟨false, 1, 1⟩]
theorem c123_d5 : drawFine c123_r5 c123_a5 c123_m5 = true := by decide +kernel
abbrev c123_r6 : List Ins := [
  ⟨some 37, none, .mov (.t 9)⟩,
  ⟨some 38, none, .bin .add (.t 37) (.c (.int .i64 1))⟩,
  ⟨some 9, none, .mov (.t 38)⟩]
abbrev c123_l7 : IR := .seq (.seq (.dreg c123_r5 c123_a5) (.cond (.t 36) (.skip) (.exit 2))) (.blk 3 (.reg c123_r6))
abbrev c123_r8 : List Ins := [
  ⟨some 39, none, .mov (.t 9)⟩,
  ⟨some 40, none, .mov (.t 2)⟩,
  ⟨some 41, none, .bin .eql (.t 39) (.t 40)⟩]
abbrev c123_r9 : List Ins := [
  ⟨some 8, none, .mov (.c (.bool true))⟩]
abbrev c123_r10 : List Ins := [
  ⟨some 42, none, .mov (.t 2)⟩,
  ⟨some 43, none, .mov (.t 1)⟩,
  ⟨some 44, none, .bin .sub (.t 42) (.t 43)⟩,
  ⟨some 45, none, .bin .lss (.t 44) (.c (.int .i64 50))⟩]
abbrev c123_r11 : List Ins := [
  ⟨some 8, none, .mov (.c (.bool false))⟩]
abbrev c123_r12 : List Ins := [
  ⟨some 46, none, .mov (.t 0)⟩,
  ⟨some 47, none, .mov (.t 9)⟩,
  ⟨some 48, none, .mov (.t 0)⟩,
  ⟨some 49, none, .mov (.t 9)⟩,
  ⟨some 50, none, .bin .sub (.t 49) (.c (.int .i64 1))⟩,
  ⟨some 51, none, .mov (.t 0)⟩,
  ⟨some 52, none, .mov (.t 9)⟩,
  ⟨some 53, none, .bin .sub (.t 52) (.c (.int .i64 1))⟩,
  ⟨some 54, none, .iaddr 2 (.t 51) (.t 53)⟩,
  ⟨some 55, none, .load 2 true (.t 54)⟩,
  ⟨some 56, none, .mov (.t 0)⟩,
  ⟨some 57, none, .mov (.t 9)⟩,
  ⟨some 58, none, .iaddr 2 (.t 56) (.t 57)⟩,
  ⟨some 59, none, .load 2 true (.t 58)⟩,
  ⟨some 60, none, .iaddr 2 (.t 46) (.t 47)⟩,
  ⟨none, none, .store 2 (.t 60) (.t 55)⟩,
  ⟨some 61, none, .iaddr 2 (.t 48) (.t 50)⟩,
  ⟨none, none, .store 2 (.t 61) (.t 59)⟩]
def c123_a12 : List (List Nat) := [[], [], [], [], [3], [], [], [6], [5, 7], [8], [], [], [10, 11], [12], [0, 1, 0, 1, 5, 6, 7, 8, 9, 13], [14, 9, 0, 1, 5, 6, 7, 8, 9, 13], [2, 4, 0, 1, 2, 3, 4, 5, 6, 7, 8, 9, 10, 11, 12, 13, 14, 15], [16, 13, 15, 0, 1, 2, 3, 4, 5, 6, 7, 8, 9, 10, 11, 12, 13, 14, 15]]
abbrev c123_m12 : List Am.Mark := [⟨false, 0, 0⟩, ⟨false, 0, 0⟩, ⟨false, 0, 1⟩, ⟨false, 0, 1⟩, ⟨false, 0, 1⟩, ⟨false, 0, 0⟩, ⟨false, 0, 0⟩, ⟨false, 0, 0⟩, ⟨false, 0, 0⟩, ⟨false, 0, 0⟩, ⟨false, 0, 1⟩, ⟨false, 0, 1⟩, ⟨false, 0, 1⟩, ⟨false, 0, 0⟩, ⟨false, 0, 0⟩, ⟨true, 0, 1⟩, ⟨false, 1, 1⟩, ⟨true, 1, 2⟩]
theorem c123_d12 : drawFine c123_r12 c123_a12 c123_m12 = true := by decide +kernel
abbrev c123_r13 : List Ins := [
  ⟨some 62, none, .mov (.t 9)⟩,
  ⟨some 63, none, .mov (.t 1)⟩,
  ⟨some 64, none, .bin .sub (.t 62) (.t 63)⟩,
  ⟨some 65, none, .bin .geq (.t 64) (.c (.int .i64 2))⟩]
abbrev c123_r14 : List Ins := [
  ⟨some 66, none, .mov (.t 9)⟩,
  ⟨some 67, none, .bin .sub (.t 66) (.c (.int .i64 1))⟩,
  ⟨some 11, none, .mov (.t 67)⟩]
abbrev c123_r15 : List Ins := [
  ⟨some 68, none, .mov (.t 11)⟩,
  ⟨some 69, none, .bin .geq (.t 68) (.c (.int .i64 1))⟩]
abbrev c123_r16 : List Ins := [
  ⟨some 72, none, .mov (.t 3)⟩,
  ⟨some 73, none, .mov (.t 0)⟩,
  ⟨some 74, none, .mov (.t 11)⟩,
  ⟨some 75, none, .iaddr 2 (.t 73) (.t 74)⟩,
  ⟨some 76, none, .load 2 true (.t 75)⟩,
  ⟨some 77, none, .mov (.t 0)⟩,
  ⟨some 78, none, .mov (.t 11)⟩,
  ⟨some 79, none, .bin .sub (.t 78) (.c (.int .i64 1))⟩,
  ⟨some 80, none, .iaddr 2 (.t 77) (.t 79)⟩,
  ⟨some 81, none, .load 2 true (.t 80)⟩,
  ⟨some 82, none, .call (.t 72) [.t 76, .t 81]⟩,
  ⟨some 83, none, .bin .lss (.t 82) (.c (.int .i64 0))⟩,
  ⟨some 84, none, .un .not (.t 83)⟩]
def c123_a16 : List (List Nat) := [[], [], [], [1, 2], [3], [], [], [6], [5, 7], [8], [0, 4, 9], [10], [11]]
abbrev c123_m16 : List Am.Mark := [⟨false, 0, 0⟩, ⟨false, 0, 1⟩, ⟨false, 0, 1⟩, ⟨false, 0, 1⟩, ⟨false, 0, 0⟩, ⟨false, 0, 1⟩, ⟨false, 0, 1⟩, ⟨false, 0, 1⟩, ⟨false, 0, 1⟩, ⟨false, 0, 0⟩, ⟨true, 0, 1⟩, ⟨false, 1, 1⟩, ⟨false, 1, 1⟩]
theorem c123_d16 : drawFine c123_r16 c123_a16 c123_m16 = true := by decide +kernel
abbrev c123_r17 : List Ins := [
  ⟨some 85, none, .mov (.t 0)⟩,
  ⟨some 86, none, .mov (.t 11)⟩,
  ⟨some 87, none, .mov (.t 0)⟩,
  ⟨some 88, none, .mov (.t 11)⟩,
  ⟨some 89, none, .bin .sub (.t 88) (.c (.int .i64 1))⟩,
  ⟨some 90, none, .mov (.t 0)⟩,
  ⟨some 91, none, .mov (.t 11)⟩,
  ⟨some 92, none, .bin .sub (.t 91) (.c (.int .i64 1))⟩,
  ⟨some 93, none, .iaddr 2 (.t 90) (.t 92)⟩,
  ⟨some 94, none, .load 2 true (.t 93)⟩,
  ⟨some 95, none, .mov (.t 0)⟩,
  ⟨some 96, none, .mov (.t 11)⟩,
  ⟨some 97, none, .iaddr 2 (.t 95) (.t 96)⟩,
  ⟨some 98, none, .load 2 true (.t 97)⟩,
  ⟨some 99, none, .iaddr 2 (.t 85) (.t 86)⟩,
  ⟨none, none, .store 2 (.t 99) (.t 94)⟩,
  ⟨some 100, none, .iaddr 2 (.t 87) (.t 89)⟩,
  ⟨none, none, .store 2 (.t 100) (.t 98)⟩]
def c123_a17 : List (List Nat) := [[], [], [], [], [3], [], [], [6], [5, 7], [8], [], [], [10, 11], [12], [0, 1, 0, 1, 5, 6, 7, 8, 9, 13], [14, 9, 0, 1, 5, 6, 7, 8, 9, 13], [2, 4, 0, 1, 2, 3, 4, 5, 6, 7, 8, 9, 10, 11, 12, 13, 14, 15], [16, 13, 15, 0, 1, 2, 3, 4, 5, 6, 7, 8, 9, 10, 11, 12, 13, 14, 15]]
abbrev c123_m17 : List Am.Mark := [⟨false, 0, 0⟩, ⟨false, 0, 0⟩, ⟨false, 0, 1⟩, ⟨false, 0, 1⟩, ⟨false, 0, 1⟩, ⟨false, 0, 0⟩, ⟨false, 0, 0⟩, ⟨false, 0, 0⟩, ⟨false, 0, 0⟩, ⟨false, 0, 0⟩, ⟨false, 0, 1⟩, ⟨false, 0, 1⟩, ⟨false, 0, 1⟩, ⟨false, 0, 0⟩, ⟨false, 0, 0⟩, ⟨true, 0, 1⟩, ⟨false, 1, 1⟩, ⟨true, 1, 2⟩]
theorem c123_d17 : drawFine c123_r17 c123_a17 c123_m17 = true := by decide +kernel
abbrev c123_r18 : List Ins := [
  ⟨some 70, none, .mov (.t 11)⟩,
  ⟨some 71, none, .bin .sub (.t 70) (.c (.int .i64 1))⟩,
  ⟨some 11, none, .mov (.t 71)⟩]
abbrev c123_l19 : IR := .seq (.seq (.reg c123_r15) (.cond (.t 69) (.skip) (.exit 4))) (.seq (.blk 5 (.seq (.seq (.dreg c123_r16 c123_a16) (.cond (.t 84) (.exit 4) (.skip))) (.dreg c123_r17 c123_a17))) (.reg c123_r18))
abbrev c123_r20 : List Ins := [
  ⟨some 101, none, .mov (.t 2)⟩,
  ⟨some 102, none, .mov (.t 9)⟩,
  ⟨some 103, none, .bin .sub (.t 101) (.t 102)⟩,
  ⟨some 104, none, .bin .geq (.t 103) (.c (.int .i64 2))⟩]
abbrev c123_r21 : List Ins := [
  ⟨some 105, none, .mov (.t 9)⟩,
  ⟨some 106, none, .bin .add (.t 105) (.c (.int .i64 1))⟩,
  ⟨some 12, none, .mov (.t 106)⟩]
abbrev c123_r22 : List Ins := [
  ⟨some 107, none, .mov (.t 12)⟩,
  ⟨some 108, none, .mov (.t 2)⟩,
  ⟨some 109, none, .bin .lss (.t 107) (.t 108)⟩]
abbrev c123_r23 : List Ins := [
  ⟨some 112, none, .mov (.t 3)⟩,
  ⟨some 113, none, .mov (.t 0)⟩,
  ⟨some 114, none, .mov (.t 12)⟩,
  ⟨some 115, none, .iaddr 2 (.t 113) (.t 114)⟩,
  ⟨some 116, none, .load 2 true (.t 115)⟩,
  ⟨some 117, none, .mov (.t 0)⟩,
  ⟨some 118, none, .mov (.t 12)⟩,
  ⟨some 119, none, .bin .sub (.t 118) (.c (.int .i64 1))⟩,
  ⟨some 120, none, .iaddr 2 (.t 117) (.t 119)⟩,
  ⟨some 121, none, .load 2 true (.t 120)⟩,
  ⟨some 122, none, .call (.t 112) [.t 116, .t 121]⟩,
  ⟨some 123, none, .bin .lss (.t 122) (.c (.int .i64 0))⟩,
  ⟨some 124, none, .un .not (.t 123)⟩]
def c123_a23 : List (List Nat) := [[], [], [], [1, 2], [3], [], [], [6], [5, 7], [8], [0, 4, 9], [10], [11]]
abbrev c123_m23 : List Am.Mark := [⟨false, 0, 0⟩, ⟨false, 0, 1⟩, ⟨false, 0, 1⟩, ⟨false, 0, 1⟩, ⟨false, 0, 0⟩, ⟨false, 0, 1⟩, ⟨false, 0, 1⟩, ⟨false, 0, 1⟩, ⟨false, 0, 1⟩, ⟨false, 0, 0⟩, ⟨true, 0, 1⟩, ⟨false, 1, 1⟩, ⟨false, 1, 1⟩]
theorem c123_d23 : drawFine c123_r23 c123_a23 c123_m23 = true := by decide +kernel
abbrev c123_r24 : List Ins := [
  ⟨some 125, none, .mov (.t 0)⟩,
  ⟨some 126, none, .mov (.t 12)⟩,
  ⟨some 127, none, .mov (.t 0)⟩,
  ⟨some 128, none, .mov (.t 12)⟩,
  ⟨some 129, none, .bin .sub (.t 128) (.c (.int .i64 1))⟩,
  ⟨some 130, none, .mov (.t 0)⟩,
  ⟨some 131, none, .mov (.t 12)⟩,
  ⟨some 132, none, .bin .sub (.t 131) (.c (.int .i64 1))⟩,
  ⟨some 133, none, .iaddr 2 (.t 130) (.t 132)⟩,
  ⟨some 134, none, .load 2 true (.t 133)⟩,
  ⟨some 135, none, .mov (.t 0)⟩,
  ⟨some 136, none, .mov (.t 12)⟩,
  ⟨some 137, none, .iaddr 2 (.t 135) (.t 136)⟩,
  ⟨some 138, none, .load 2 true (.t 137)⟩,
  ⟨some 139, none, .iaddr 2 (.t 125) (.t 126)⟩,
  ⟨none, none, .store 2 (.t 139) (.t 134)⟩,
  ⟨some 140, none, .iaddr 2 (.t 127) (.t 129)⟩,
  ⟨none, none, .store 2 (.t 140) (.t 138)⟩]
def c123_a24 : List (List Nat) := [[], [], [], [], [3], [], [], [6], [5, 7], [8], [], [], [10, 11], [12], [0, 1, 0, 1, 5, 6, 7, 8, 9, 13], [14, 9, 0, 1, 5, 6, 7, 8, 9, 13], [2, 4, 0, 1, 2, 3, 4, 5, 6, 7, 8, 9, 10, 11, 12, 13, 14, 15], [16, 13, 15, 0, 1, 2, 3, 4, 5, 6, 7, 8, 9, 10, 11, 12, 13, 14, 15]]
abbrev c123_m24 : List Am.Mark := [⟨false, 0, 0⟩, ⟨false, 0, 0⟩, ⟨false, 0, 1⟩, ⟨false, 0, 1⟩, ⟨false, 0, 1⟩, ⟨false, 0, 0⟩, ⟨false, 0, 0⟩, ⟨false, 0, 0⟩, ⟨false, 0, 0⟩, ⟨false, 0, 0⟩, ⟨false, 0, 1⟩, ⟨false, 0, 1⟩, ⟨false, 0, 1⟩, ⟨false, 0, 0⟩, ⟨false, 0, 0⟩, ⟨true, 0, 1⟩, ⟨false, 1, 1⟩, ⟨true, 1, 2⟩]
theorem c123_d24 : drawFine c123_r24 c123_a24 c123_m24 = true := by decide +kernel
abbrev c123_r25 : List Ins := [
  ⟨some 110, none, .mov (.t 12)⟩,
  ⟨some 111, none, .bin .add (.t 110) (.c (.int .i64 1))⟩,
  ⟨some 12, none, .mov (.t 111)⟩]
abbrev c123_l26 : IR := .seq (.seq (.reg c123_r22) (.cond (.t 109) (.skip) (.exit 6))) (.seq (.blk 7 (.seq (.seq (.dreg c123_r23 c123_a23) (.cond (.t 124) (.exit 6) (.skip))) (.dreg c123_r24 c123_a24))) (.reg c123_r25))
abbrev c123_r27 : List Ins := [
  ⟨some 17, none, .mov (.t 10)⟩,
  ⟨some 18, none, .bin .add (.t 17) (.c (.int .i64 1))⟩,
  ⟨some 10, none, .mov (.t 18)⟩]
abbrev c123_l28 : IR := .seq (.seq (.reg c123_r4) (.cond (.t 16) (.skip) (.exit 0))) (.seq (.blk 1 (.seq (.blk 2 (.loop c123_l7)) (.seq (.seq (.reg c123_r8) (.cond (.t 41) (.seq (.reg c123_r9) (.ret)) (.skip))) (.seq (.seq (.reg c123_r10) (.cond (.t 45) (.seq (.reg c123_r11) (.ret)) (.skip))) (.seq (.dreg c123_r12 c123_a12) (.seq (.seq (.reg c123_r13) (.cond (.t 65) (.seq (.reg c123_r14) (.blk 4 (.loop c123_l19))) (.skip))) (.seq (.reg c123_r20) (.cond (.t 104) (.seq (.reg c123_r21) (.blk 6 (.loop c123_l26))) (.skip))))))))) (.reg c123_r27))
abbrev c123_r29 : List Ins := [
  ⟨some 8, none, .mov (.c (.bool false))⟩]
abbrev c123 : IR := .seq (.reg c123_r1) (.seq (.reg c123_r2) (.seq (.seq (.reg c123_r3) (.blk 0 (.loop c123_l28))) (.seq (.reg c123_r29) (.ret))))
abbrev F123 : FnA := ⟨141, c123, [.t 8]⟩
theorem ok123 : cFn Try.prog 123 = some F123 := by kernel_rfl
theorem hb123 : HasBody Try.prog 123 := ⟨_, Try.func123, by kernel_rfl, by kernel_rfl⟩
/-! slices.partitionEqualCmpFunc:Span -/
abbrev c124_r1 : List Ins := [
  ⟨some 10, none, .mov (.c (.int .i64 0))⟩]
abbrev c124_r2 : List Ins := [
  ⟨some 13, none, .mov (.t 0)⟩,
  ⟨some 14, none, .mov (.t 1)⟩,
  ⟨some 15, none, .mov (.t 0)⟩,
  ⟨some 16, none, .mov (.t 3)⟩,
  ⟨some 17, none, .mov (.t 0)⟩,
  ⟨some 18, none, .mov (.t 3)⟩,
  ⟨some 19, none, .iaddr 2 (.t 17) (.t 18)⟩,
  ⟨some 20, none, .load 2 true (.t 19)⟩,
  ⟨some 21, none, .mov (.t 0)⟩,
  ⟨some 22, none, .mov (.t 1)⟩,
  ⟨some 23, none, .iaddr 2 (.t 21) (.t 22)⟩,
  ⟨some 24, none, .load 2 true (.t 23)⟩,
  ⟨some 25, none, .iaddr 2 (.t 13) (.t 14)⟩,
  ⟨none, none, .store 2 (.t 25) (.t 20)⟩,
  ⟨some 26, none, .iaddr 2 (.t 15) (.t 16)⟩,
  ⟨none, none, .store 2 (.t 26) (.t 24)⟩]
def c124_a2 : List (List Nat) := [[], [], [], [], [], [], [4, 5], [6], [], [], [8, 9], [10], [0, 1, 0, 1, 4, 5, 6, 7, 11], [12, 7, 0, 1, 4, 5, 6, 7, 11], [2, 3, 0, 1, 2, 3, 4, 5, 6, 7, 8, 9, 10, 11, 12, 13], [14, 11, 13, 0, 1, 2, 3, 4, 5, 6, 7, 8, 9, 10, 11, 12, 13]]
abbrev c124_m2 : List Am.Mark := [⟨false, 0, 0⟩, ⟨false, 0, 0⟩, ⟨false, 0, 1⟩, ⟨false, 0, 1⟩, ⟨false, 0, 0⟩, ⟨false, 0, 0⟩, ⟨false, 0, 0⟩, ⟨false, 0, 0⟩, ⟨false, 0, 1⟩, ⟨false, 0, 1⟩, ⟨false, 0, 1⟩, ⟨false, 0, 0⟩, ⟨false, 0, 0⟩, ⟨true, 0, 1⟩, ⟨false, 1, 1⟩, ⟨true, 1, 2⟩]
theorem c124_d2 : drawFine c124_r2 c124_a2 c124_m2 = true := by decide +kernel
abbrev c124_r3 : List Ins := [
  ⟨some 27, none, .mov (.t 1)⟩,
  ⟨some 28, none, .bin .add (.t 27) (.c (.int .i64 1))⟩,
  ⟨some 29, none, .mov (.t 2)⟩,
  ⟨some 30, none, .bin .sub (.t 29) (.c (.int .i64 1))⟩,
  ⟨some 11, none, .mov (.t 28)⟩,
  ⟨some 12, none, .mov (.t 30)⟩]
abbrev c124_r4 : List Ins := [
  ⟨some 31, none, .mov (.t 11)⟩,
  ⟨some 32, none, .mov (.t 12)⟩,
  ⟨some 33, none, .bin .leq (.t 31) (.t 32)⟩,
  ⟨some 34, none, .mov (.t 33)⟩,
  ⟨some 35, some (34, true), .mov (.t 4)⟩,
  ⟨some 36, some (34, true), .mov (.t 0)⟩,
  ⟨some 37, some (34, true), .mov (.t 1)⟩,
  ⟨some 38, some (34, true), .iaddr 2 (.t 36) (.t 37)⟩,
  ⟨some 39, some (34, true), .load 2 true (.t 38)⟩,
  ⟨some 40, some (34, true), .mov (.t 0)⟩,
  ⟨some 41, some (34, true), .mov (.t 11)⟩,
  ⟨some 42, some (34, true), .iaddr 2 (.t 40) (.t 41)⟩,
  ⟨some 43, some (34, true), .load 2 true (.t 42)⟩,
  ⟨some 44, some (34, true), .call (.t 35) [.t 39, .t 43]⟩,
  ⟨some 45, some (34, true), .bin .lss (.t 44) (.c (.int .i64 0))⟩,
  ⟨some 46, some (34, true), .un .not (.t 45)⟩,
  ⟨some 47, none, .pick (.t 34) (.t 46) (.c (.bool false))⟩]
def c124_a4 : List (List Nat) := [[], [], [0, 1], [2], [3], [3], [3], [5, 6, 3], [7, 3], [3], [3], [9, 10, 3], [11, 3], [4, 8, 12, 3, 3], [13, 3], [14, 3], [3, 15]]
abbrev c124_m4 : List Am.Mark := [⟨false, 0, 1⟩, ⟨false, 0, 1⟩, ⟨false, 0, 1⟩, ⟨false, 0, 0⟩, ⟨false, 0, 0⟩, ⟨false, 0, 1⟩, ⟨false, 0, 1⟩, ⟨false, 0, 1⟩, ⟨false, 0, 0⟩, ⟨false, 0, 1⟩, ⟨false, 0, 1⟩, ⟨false, 0, 1⟩, ⟨false, 0, 0⟩, ⟨true, 0, 1⟩, ⟨false, 1, 1⟩, ⟨false, 1, 1⟩, ⟨false, 1, 1⟩]
theorem c124_d4 : drawFine c124_r4 c124_a4 c124_m4 = true := by decide +kernel
abbrev c124_r5 : List Ins := [
  ⟨some 48, none, .mov (.t 11)⟩,
  ⟨some 49, none, .bin .add (.t 48) (.c (.int .i64 1))⟩,
  ⟨some 11, none, .mov (.t 49)⟩]
abbrev c124_l6 : IR := .seq (.seq (.dreg c124_r4 c124_a4) (.cond (.t 47) (.skip) (.exit 2))) (.blk 3 (.reg c124_r5))
abbrev c124_r7 : List Ins := [
  ⟨some 50, none, .mov (.t 11)⟩,
  ⟨some 51, none, .mov (.t 12)⟩,
  ⟨some 52, none, .bin .leq (.t 50) (.t 51)⟩,
  ⟨some 53, none, .mov (.t 52)⟩,
  ⟨some 54, some (53, true), .mov (.t 4)⟩,
  ⟨some 55, some (53, true), .mov (.t 0)⟩,
  ⟨some 56, some (53, true), .mov (.t 1)⟩,
  ⟨some 57, some (53, true), .iaddr 2 (.t 55) (.t 56)⟩,
  ⟨some 58, some (53, true), .load 2 true (.t 57)⟩,
  ⟨some 59, some (53, true), .mov (.t 0)⟩,
  ⟨some 60, some (53, true), .mov (.t 12)⟩,
  ⟨some 61, some (53, true), .iaddr 2 (.t 59) (.t 60)⟩,
  ⟨some 62, some (53, true), .load 2 true (.t 61)⟩,
  ⟨some 63, some (53, true), .call (.t 54) [.t 58, .t 62]⟩,
  ⟨some 64, some (53, true), .bin .lss (.t 63) (.c (.int .i64 0))⟩,
  ⟨some 65, none, .pick (.t 53) (.t 64) (.c (.bool false))⟩]
def c124_a7 : List (List Nat) := [[], [], [0, 1], [2], [3], [3], [3], [5, 6, 3], [7, 3], [3], [3], [9, 10, 3], [11, 3], [4, 8, 12, 3, 3], [13, 3], [3, 14]]
abbrev c124_m7 : List Am.Mark := [⟨false, 0, 1⟩, ⟨false, 0, 1⟩, ⟨false, 0, 1⟩, ⟨false, 0, 0⟩, ⟨false, 0, 0⟩, ⟨false, 0, 1⟩, ⟨false, 0, 1⟩, ⟨false, 0, 1⟩, ⟨false, 0, 0⟩, ⟨false, 0, 1⟩, ⟨false, 0, 1⟩, ⟨false, 0, 1⟩, ⟨false, 0, 0⟩, ⟨true, 0, 1⟩, ⟨false, 1, 1⟩, ⟨false, 1, 1⟩]
theorem c124_d7 : drawFine c124_r7 c124_a7 c124_m7 = true := by decide +kernel
abbrev c124_r8 : List Ins := [
  ⟨some 66, none, .mov (.t 12)⟩,
  ⟨some 67, none, .bin .sub (.t 66) (.c (.int .i64 1))⟩,
  ⟨some 12, none, .mov (.t 67)⟩]
abbrev c124_l9 : IR := .seq (.seq (.dreg c124_r7 c124_a7) (.cond (.t 65) (.skip) (.exit 4))) (.blk 5 (.reg c124_r8))
abbrev c124_r10 : List Ins := [
  ⟨some 68, none, .mov (.t 11)⟩,
  ⟨some 69, none, .mov (.t 12)⟩,
  ⟨some 70, none, .bin .gtr (.t 68) (.t 69)⟩]
abbrev c124_r11 : List Ins := [
  ⟨some 71, none, .mov (.t 0)⟩,
  ⟨some 72, none, .mov (.t 11)⟩,
  ⟨some 73, none, .mov (.t 0)⟩,
  ⟨some 74, none, .mov (.t 12)⟩,
  ⟨some 75, none, .mov (.t 0)⟩,
  ⟨some 76, none, .mov (.t 12)⟩,
  ⟨some 77, none, .iaddr 2 (.t 75) (.t 76)⟩,
  ⟨some 78, none, .load 2 true (.t 77)⟩,
  ⟨some 79, none, .mov (.t 0)⟩,
  ⟨some 80, none, .mov (.t 11)⟩,
  ⟨some 81, none, .iaddr 2 (.t 79) (.t 80)⟩,
  ⟨some 82, none, .load 2 true (.t 81)⟩,
  ⟨some 83, none, .iaddr 2 (.t 71) (.t 72)⟩,
  ⟨none, none, .store 2 (.t 83) (.t 78)⟩,
  ⟨some 84, none, .iaddr 2 (.t 73) (.t 74)⟩,
  ⟨none, none, .store 2 (.t 84) (.t 82)⟩]
def c124_a11 : List (List Nat) := [[], [], [], [], [], [], [4, 5], [6], [], [], [8, 9], [10], [0, 1, 0, 1, 4, 5, 6, 7, 11], [12, 7, 0, 1, 4, 5, 6, 7, 11], [2, 3, 0, 1, 2, 3, 4, 5, 6, 7, 8, 9, 10, 11, 12, 13], [14, 11, 13, 0, 1, 2, 3, 4, 5, 6, 7, 8, 9, 10, 11, 12, 13]]
abbrev c124_m11 : List Am.Mark := [⟨false, 0, 0⟩, ⟨false, 0, 0⟩, ⟨false, 0, 1⟩, ⟨false, 0, 1⟩, ⟨false, 0, 0⟩, ⟨false, 0, 0⟩, ⟨false, 0, 0⟩, ⟨false, 0, 0⟩, ⟨false, 0, 1⟩, ⟨false, 0, 1⟩, ⟨false, 0, 1⟩, ⟨false, 0, 0⟩, ⟨false, 0, 0⟩, ⟨true, 0, 1⟩, ⟨false, 1, 1⟩, ⟨true, 1, 2⟩]
theorem c124_d11 : drawFine c124_r11 c124_a11 c124_m11 = true := by decide +kernel
abbrev c124_r12 : List Ins := [
  ⟨some 85, none, .mov (.t 11)⟩,
  ⟨some 86, none, .bin .add (.t 85) (.c (.int .i64 1))⟩,
  ⟨some 11, none, .mov (.t 86)⟩]
abbrev c124_r13 : List Ins := [
  ⟨some 87, none, .mov (.t 12)⟩,
  ⟨some 88, none, .bin .sub (.t 87) (.c (.int .i64 1))⟩,
  ⟨some 12, none, .mov (.t 88)⟩]
abbrev c124_l14 : IR := .blk 1 (.seq (.blk 2 (.loop c124_l6)) (.seq (.blk 4 (.loop c124_l9)) (.seq (.seq (.reg c124_r10) (.cond (.t 70) (.exit 0) (.skip))) (.seq (.dreg c124_r11 c124_a11) (.seq (.reg c124_r12) (.reg c124_r13))))))
abbrev c124_r15 : List Ins := [
  ⟨some 89, none, .mov (.t 11)⟩,
  ⟨some 10, none, .mov (.t 89)⟩]
abbrev c124 : IR := .seq (.reg c124_r1) (.seq (.dreg c124_r2 c124_a2) (.seq (.reg c124_r3) (.seq (.blk 0 (.loop c124_l14)) (.seq (.reg c124_r15) (.ret)))))
abbrev F124 : FnA := ⟨90, c124, [.t 10]⟩
theorem ok124 : cFn Try.prog 124 = some F124 := by kernel_rfl
theorem hb124 : HasBody Try.prog 124 := ⟨_, Try.func124, by kernel_rfl, by kernel_rfl⟩

end Go.Proofs
