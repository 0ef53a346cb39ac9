/- The code of the functions that the statement reaches, as the abstract machine reads it. -/
import Derived.Test.YtdcpendppalkgaaK4
import Derived.Test.YtdcpendppalkgaaProg
namespace Go.Proofs
open Go Go.RowKit Go.Am

/-! law20.RecsCut -/
abbrev c7_r1 : List Ins := [
  ⟨some 3, none, .box (.t 0)⟩,
  ⟨some 6, none, .mov (.c (.bool false))⟩]
abbrev c7_r2 : List Ins := [
  ⟨some 14, none, .call (.c (.fn 21 [] [])) []⟩,
  ⟨some 15, none, .un .not (.t 14)⟩]
abbrev c7_r3 : List Ins := [
  ⟨some 6, none, .mov (.c (.bool false))⟩]
abbrev c7_r4 : List Ins := [
  ⟨some 16, none, .load 16 true (.t 3)⟩,
  ⟨some 17, none, .call (.c (.fn 22 [] [])) [.t 16]⟩,
  ⟨some 18, none, .mov (.t 17)⟩,
  ⟨some 19, some (18, false), .load 16 true (.t 3)⟩,
  ⟨some 20, some (18, false), .call (.c (.fn 25 [] [])) [.t 19]⟩,
  ⟨some 21, some (18, false), .un .not (.t 20)⟩,
  ⟨some 22, none, .pick (.t 18) (.c (.bool true)) (.t 21)⟩,
  ⟨some 23, none, .mov (.t 22)⟩,
  ⟨some 24, some (23, false), .mov (.t 2)⟩,
  ⟨some 25, some (23, false), .len (.t 24)⟩,
  ⟨some 26, some (23, false), .bin .gtr (.t 25) (.c (.int .i64 50))⟩,
  ⟨some 27, none, .pick (.t 23) (.c (.bool true)) (.t 26)⟩]
abbrev c7_r5 : List Ins := [
  ⟨some 6, none, .mov (.c (.bool true))⟩]
abbrev c7_r6 : List Ins := [
  ⟨some 28, none, .load 16 true (.t 3)⟩,
  ⟨some 29, none, .call (.c (.fn 30 [] [])) [.t 28]⟩,
  ⟨some 7, none, .alloc [.int .i64 0, .sl .full []]⟩,
  ⟨none, none, .store 2 (.t 7) (.t 29)⟩]
abbrev c7_r7 : List Ins := [
  ⟨some 30, none, .mov (.t 1)⟩,
  ⟨some 31, none, .conv .i64 (.t 30)⟩,
  ⟨some 32, none, .faddr 1 (.t 7)⟩,
  ⟨some 33, none, .load 1 false (.t 32)⟩,
  ⟨some 34, none, .len (.t 33)⟩,
  ⟨some 35, none, .bin .add (.t 34) (.c (.int .i64 1))⟩,
  ⟨some 36, none, .bin .rem (.t 31) (.t 35)⟩,
  ⟨some 8, none, .mov (.t 36)⟩]
abbrev c7_r8 : List Ins := [
  ⟨some 37, none, .faddr 0 (.t 7)⟩,
  ⟨some 38, none, .load 1 false (.t 37)⟩,
  ⟨some 39, none, .bsl 1 0 [.int .u64 0] []⟩,
  ⟨some 40, none, .faddr 1 (.t 7)⟩,
  ⟨some 41, none, .load 1 false (.t 40)⟩,
  ⟨some 42, none, .mov (.t 8)⟩,
  ⟨some 43, none, .slice 1 (.t 41) none (some (.t 42)) none⟩,
  ⟨some 44, none, .append 1 8 (.t 39) (.t 43)⟩,
  ⟨some 45, none, .mov (.t 2)⟩,
  ⟨some 46, none, .append 1 8 (.t 44) (.t 45)⟩,
  ⟨some 47, none, .build [.int .i64 0, .sl .full []] [(0, (1, .t 38)), (1, (1, .t 46))]⟩,
  ⟨some 9, none, .alloc [.int .i64 0, .sl .full []]⟩,
  ⟨none, none, .store 2 (.t 9) (.t 47)⟩]
def c7_a8 : List (List Nat) := [[], [0], [], [], [3], [], [4, 5], [2, 6], [], [7, 8, 7], [1, 9], [], [11, 10, 9, 0, 1, 2, 3, 4, 5, 6, 7, 8, 9, 10, 11]]
abbrev c7_m8 : List Am.Mark := [⟨false, 0, 3⟩, ⟨false, 0, 3⟩, ⟨false, 0, 0⟩, ⟨false, 0, 3⟩, ⟨false, 0, 3⟩, ⟨false, 0, 3⟩, ⟨false, 0, 0⟩, ⟨true, 0, 1⟩, ⟨false, 0, 1⟩, ⟨true, 1, 3⟩, ⟨false, 2, 3⟩, ⟨true, 0, 3⟩, ⟨true, 3, 4⟩]
abbrev c7_r9 : List Ins := [
  ⟨some 49, none, .load 2 true (.t 9)⟩,
  ⟨some 50, none, .call (.c (.fn 28 [] [])) [.t 49]⟩,
  ⟨some 48, none, .mov (.t 50)⟩,
  ⟨some 51, none, .ext (.t 48) 0⟩,
  ⟨some 52, none, .ext (.t 48) 1⟩,
  ⟨some 10, none, .alloc [.int .i64 0, .int .i64 0, .int .i64 0, .sl .full [], .int .i64 0, .int .i64 0, .int .i64 0, .int .i64 0, .bool false, .sl .full [], .sl .full [], .int .i64 0, .int .i64 0, .int .i64 0, .int .i64 0, .sl .full []]⟩,
  ⟨none, none, .store 16 (.t 10) (.t 51)⟩,
  ⟨some 11, none, .mov (.t 52)⟩]
abbrev c7_r10 : List Ins := [
  ⟨some 53, none, .mov (.t 11)⟩,
  ⟨some 54, none, .un .not (.t 53)⟩]
abbrev c7_r11 : List Ins := [
  ⟨some 55, none, .faddr 0 (.t 10)⟩,
  ⟨some 56, none, .load 1 false (.t 55)⟩,
  ⟨some 57, none, .bin .eql (.t 56) (.c (.int .i64 0))⟩,
  ⟨some 6, none, .mov (.t 57)⟩]
abbrev c7_r12 : List Ins := [
  ⟨some 59, none, .load 16 true (.t 10)⟩,
  ⟨some 60, none, .call (.c (.fn 26 [] [])) [.t 59]⟩,
  ⟨some 58, none, .mov (.t 60)⟩,
  ⟨some 61, none, .ext (.t 58) 0⟩,
  ⟨some 62, none, .ext (.t 58) 1⟩,
  ⟨some 12, none, .alloc [.int .i64 0, .sl .full []]⟩,
  ⟨none, none, .store 2 (.t 12) (.t 61)⟩,
  ⟨some 13, none, .mov (.t 62)⟩]
abbrev c7_r13 : List Ins := [
  ⟨some 63, none, .mov (.t 13)⟩,
  ⟨some 64, none, .mov (.t 63)⟩,
  ⟨some 65, some (64, true), .load 2 true (.t 9)⟩,
  ⟨some 66, some (64, true), .bsl 2 1 [.int .i64 0, .sl .full []] [(0, .t 65)]⟩,
  ⟨some 67, some (64, true), .load 2 true (.t 12)⟩,
  ⟨some 68, some (64, true), .bsl 2 1 [.int .i64 0, .sl .full []] [(0, .t 67)]⟩,
  ⟨some 69, some (64, true), .call (.c (.fn 27 [] [])) [.t 66, .t 68]⟩,
  ⟨some 70, none, .pick (.t 64) (.t 69) (.c (.bool false))⟩,
  ⟨some 6, none, .mov (.t 70)⟩]
abbrev c7 : IR := .seq (.reg c7_r1) (.seq (.seq (.reg c7_r2) (.cond (.t 15) (.seq (.reg c7_r3) (.ret)) (.skip))) (.seq (.seq (.reg c7_r4) (.cond (.t 27) (.seq (.reg c7_r5) (.ret)) (.skip))) (.seq (.reg c7_r6) (.seq (.reg c7_r7) (.seq (.dreg c7_r8 c7_a8) (.seq (.reg c7_r9) (.seq (.seq (.reg c7_r10) (.cond (.t 54) (.seq (.reg c7_r11) (.ret)) (.skip))) (.seq (.reg c7_r12) (.seq (.reg c7_r13) (.ret))))))))))
abbrev F7 : FnA := ⟨71, c7, [.t 6]⟩
theorem ok7 : cFn Try.prog 7 = some F7 := by kernel_rfl
theorem hb7 : HasBody Try.prog 7 := ⟨_, Try.func7, by kernel_rfl, by kernel_rfl⟩
/-! codes.NewReader -/
abbrev c10_r1 : List Ins := [
  ⟨some 2, none, .mov (.c .nilptr)⟩]
abbrev c10_r2 : List Ins := [
  ⟨some 3, none, .mov (.t 0)⟩,
  ⟨some 4, none, .build [.sl .full [], .bool false] [(0, (1, .t 3))]⟩,
  ⟨some 5, none, .box (.t 4)⟩,
  ⟨some 2, none, .mov (.t 5)⟩]
abbrev c10 : IR := .seq (.reg c10_r1) (.seq (.reg c10_r2) (.ret))
abbrev F10 : FnA := ⟨6, c10, [.t 2]⟩
theorem ok10 : cFn Try.prog 10 = some F10 := by kernel_rfl
theorem hb10 : HasBody Try.prog 10 := ⟨_, Try.func10, by kernel_rfl, by kernel_rfl⟩
/-! codes.Reader.End -/
abbrev c15_r1 : List Ins := [
  ⟨some 2, none, .mov (.c (.bool false))⟩]
abbrev c15_r2 : List Ins := [
  ⟨some 3, none, .mov (.t 0)⟩,
  ⟨some 4, none, .nilck (.t 3)⟩,
  ⟨some 5, none, .faddr 1 (.t 4)⟩,
  ⟨some 6, none, .load 1 false (.t 5)⟩,
  ⟨some 7, none, .un .not (.t 6)⟩,
  ⟨some 8, none, .mov (.t 7)⟩,
  ⟨some 9, some (8, true), .mov (.t 0)⟩,
  ⟨some 10, some (8, true), .nilck (.t 9)⟩,
  ⟨some 11, some (8, true), .faddr 0 (.t 10)⟩,
  ⟨some 12, some (8, true), .load 1 false (.t 11)⟩,
  ⟨some 13, some (8, true), .len (.t 12)⟩,
  ⟨some 14, some (8, true), .bin .eql (.t 13) (.c (.int .i64 0))⟩,
  ⟨some 15, none, .pick (.t 8) (.t 14) (.c (.bool false))⟩,
  ⟨some 2, none, .mov (.t 15)⟩]
abbrev c15 : IR := .seq (.reg c15_r1) (.seq (.reg c15_r2) (.ret))
abbrev F15 : FnA := ⟨16, c15, [.t 2]⟩
theorem ok15 : cFn Try.prog 15 = some F15 := by kernel_rfl
theorem hb15 : HasBody Try.prog 15 := ⟨_, Try.func15, by kernel_rfl, by kernel_rfl⟩
/-! ref09.Args -/
abbrev c18_r1 : List Ins := [
  ⟨some 2, none, .mov (.c (.bool false))⟩]
abbrev c18_r2 : List Ins := [
  ⟨some 3, none, .mov (.c (.int .i64 0))⟩]
abbrev c18_r3 : List Ins := [
  ⟨some 4, none, .mov (.t 3)⟩,
  ⟨some 5, none, .mov (.t 0)⟩,
  ⟨some 6, none, .len (.t 5)⟩,
  ⟨some 7, none, .bin .lss (.t 4) (.t 6)⟩]
abbrev c18_r4 : List Ins := [
  ⟨some 10, none, .mov (.t 0)⟩,
  ⟨some 11, none, .mov (.t 3)⟩,
  ⟨some 12, none, .iaddr 1 (.t 10) (.t 11)⟩,
  ⟨some 13, none, .load 1 false (.t 12)⟩,
  ⟨some 14, none, .bin .lss (.t 13) (.c (.int .i64 0))⟩,
  ⟨some 15, none, .mov (.t 14)⟩,
  ⟨some 16, some (15, false), .mov (.t 0)⟩,
  ⟨some 17, some (15, false), .mov (.t 3)⟩,
  ⟨some 18, some (15, false), .iaddr 1 (.t 16) (.t 17)⟩,
  ⟨some 19, some (15, false), .load 1 false (.t 18)⟩,
  ⟨some 20, some (15, false), .bin .gtr (.t 19) (.c (.int .i64 99))⟩,
  ⟨some 21, none, .pick (.t 15) (.c (.bool true)) (.t 20)⟩]
abbrev c18_r5 : List Ins := [
  ⟨some 2, none, .mov (.c (.bool false))⟩]
abbrev c18_r6 : List Ins := [
  ⟨some 8, none, .mov (.t 3)⟩,
  ⟨some 9, none, .bin .add (.t 8) (.c (.int .i64 1))⟩,
  ⟨some 3, none, .mov (.t 9)⟩]
abbrev c18_l7 : IR := .seq (.seq (.reg c18_r3) (.cond (.t 7) (.skip) (.exit 0))) (.seq (.blk 1 (.seq (.reg c18_r4) (.cond (.t 21) (.seq (.reg c18_r5) (.ret)) (.skip)))) (.reg c18_r6))
abbrev c18_r8 : List Ins := [
  ⟨some 22, none, .mov (.t 0)⟩,
  ⟨some 23, none, .len (.t 22)⟩,
  ⟨some 24, none, .bin .leq (.t 23) (.c (.int .i64 3))⟩,
  ⟨some 2, none, .mov (.t 24)⟩]
abbrev c18 : IR := .seq (.reg c18_r1) (.seq (.seq (.reg c18_r2) (.blk 0 (.loop c18_l7))) (.seq (.reg c18_r8) (.ret)))
abbrev F18 : FnA := ⟨25, c18, [.t 2]⟩
theorem ok18 : cFn Try.prog 18 = some F18 := by kernel_rfl
theorem hb18 : HasBody Try.prog 18 := ⟨_, Try.func18, by kernel_rfl, by kernel_rfl⟩
/-! law20.alive -/
abbrev c21_r1 : List Ins := [
  ⟨some 0, none, .mov (.c (.bool false))⟩]
abbrev c21_r2 : List Ins := [
  ⟨some 4, none, .build [.int .i64 0, .int .i64 0, .int .i64 0, .sl .full [], .int .i64 0, .int .i64 0, .int .i64 0, .int .i64 0, .bool false, .sl .full [], .sl .full [], .int .i64 0, .int .i64 0, .int .i64 0, .int .i64 0, .sl .full []] [(0, (1, .c (.int .i64 3))), (1, (1, .c (.int .i64 3))), (4, (1, .c (.int .i64 7)))]⟩,
  ⟨some 5, none, .call (.c (.fn 26 [] [])) [.t 4]⟩,
  ⟨some 3, none, .mov (.t 5)⟩,
  ⟨some 6, none, .ext (.t 3) 0⟩,
  ⟨some 7, none, .ext (.t 3) 1⟩,
  ⟨some 1, none, .alloc [.int .i64 0, .sl .full []]⟩,
  ⟨none, none, .store 2 (.t 1) (.t 6)⟩,
  ⟨some 2, none, .mov (.t 7)⟩]
abbrev c21_r3 : List Ins := [
  ⟨some 8, none, .mov (.t 2)⟩,
  ⟨some 9, none, .mov (.t 8)⟩,
  ⟨some 10, some (9, true), .faddr 0 (.t 1)⟩,
  ⟨some 11, some (9, true), .load 1 false (.t 10)⟩,
  ⟨some 12, some (9, true), .bin .eql (.t 11) (.c (.int .i64 3))⟩,
  ⟨some 13, none, .pick (.t 9) (.t 12) (.c (.bool false))⟩,
  ⟨some 14, none, .mov (.t 13)⟩,
  ⟨some 15, some (14, true), .faddr 1 (.t 1)⟩,
  ⟨some 16, some (14, true), .load 1 false (.t 15)⟩,
  ⟨some 17, some (14, true), .len (.t 16)⟩,
  ⟨some 18, some (14, true), .bin .eql (.t 17) (.c (.int .i64 2))⟩,
  ⟨some 19, none, .pick (.t 14) (.t 18) (.c (.bool false))⟩,
  ⟨some 20, none, .mov (.t 19)⟩,
  ⟨some 21, some (20, true), .faddr 1 (.t 1)⟩,
  ⟨some 22, some (20, true), .load 1 false (.t 21)⟩,
  ⟨some 23, some (20, true), .iaddr 1 (.t 22) (.c (.int .i64 0))⟩,
  ⟨some 24, some (20, true), .load 1 false (.t 23)⟩,
  ⟨some 25, some (20, true), .bin .eql (.t 24) (.c (.int .u64 3))⟩,
  ⟨some 26, none, .pick (.t 20) (.t 25) (.c (.bool false))⟩,
  ⟨some 27, none, .mov (.t 26)⟩,
  ⟨some 28, some (27, true), .faddr 1 (.t 1)⟩,
  ⟨some 29, some (27, true), .load 1 false (.t 28)⟩,
  ⟨some 30, some (27, true), .iaddr 1 (.t 29) (.c (.int .i64 1))⟩,
  ⟨some 31, some (27, true), .load 1 false (.t 30)⟩,
  ⟨some 32, some (27, true), .bin .eql (.t 31) (.c (.int .u64 7))⟩,
  ⟨some 33, none, .pick (.t 27) (.t 32) (.c (.bool false))⟩,
  ⟨some 0, none, .mov (.t 33)⟩]
abbrev c21 : IR := .seq (.reg c21_r1) (.seq (.reg c21_r2) (.seq (.reg c21_r3) (.ret)))
abbrev F21 : FnA := ⟨34, c21, [.t 0]⟩
theorem ok21 : cFn Try.prog 21 = some F21 := by kernel_rfl
theorem hb21 : HasBody Try.prog 21 := ⟨_, Try.func21, by kernel_rfl, by kernel_rfl⟩
/-! law20.Great -/
abbrev c22_r1 : List Ins := [
  ⟨some 1, none, .box (.t 0)⟩,
  ⟨some 2, none, .mov (.c (.bool false))⟩]
abbrev c22_r2 : List Ins := [
  ⟨some 3, none, .faddr 3 (.t 1)⟩,
  ⟨some 4, none, .load 1 false (.t 3)⟩,
  ⟨some 5, none, .len (.t 4)⟩,
  ⟨some 6, none, .bin .gtr (.t 5) (.c (.int .i64 20))⟩,
  ⟨some 7, none, .mov (.t 6)⟩,
  ⟨some 8, some (7, false), .faddr 15 (.t 1)⟩,
  ⟨some 9, some (7, false), .load 1 false (.t 8)⟩,
  ⟨some 10, some (7, false), .len (.t 9)⟩,
  ⟨some 11, some (7, false), .bin .gtr (.t 10) (.c (.int .i64 20))⟩,
  ⟨some 12, none, .pick (.t 7) (.c (.bool true)) (.t 11)⟩,
  ⟨some 13, none, .mov (.t 12)⟩,
  ⟨some 14, some (13, false), .faddr 5 (.t 1)⟩,
  ⟨some 15, some (13, false), .faddr 4 (.t 14)⟩,
  ⟨some 16, some (13, false), .load 1 false (.t 15)⟩,
  ⟨some 17, some (13, false), .len (.t 16)⟩,
  ⟨some 18, some (13, false), .bin .gtr (.t 17) (.c (.int .i64 20))⟩,
  ⟨some 19, none, .pick (.t 13) (.c (.bool true)) (.t 18)⟩,
  ⟨some 20, none, .mov (.t 19)⟩,
  ⟨some 21, some (20, false), .faddr 5 (.t 1)⟩,
  ⟨some 22, some (20, false), .faddr 5 (.t 21)⟩,
  ⟨some 23, some (20, false), .load 1 false (.t 22)⟩,
  ⟨some 24, some (20, false), .len (.t 23)⟩,
  ⟨some 25, some (20, false), .bin .gtr (.t 24) (.c (.int .i64 20))⟩,
  ⟨some 26, none, .pick (.t 20) (.c (.bool true)) (.t 25)⟩,
  ⟨some 2, none, .mov (.t 26)⟩]
abbrev c22 : IR := .seq (.reg c22_r1) (.seq (.reg c22_r2) (.ret))
abbrev F22 : FnA := ⟨27, c22, [.t 2]⟩
theorem ok22 : cFn Try.prog 22 = some F22 := by kernel_rfl
theorem hb22 : HasBody Try.prog 22 := ⟨_, Try.func22, by kernel_rfl, by kernel_rfl⟩
/-! ref20.May -/
abbrev c25_r1 : List Ins := [
  ⟨some 1, none, .box (.t 0)⟩,
  ⟨some 2, none, .mov (.c (.bool false))⟩]
abbrev c25_r2 : List Ins := [
  ⟨some 8, none, .faddr 5 (.t 1)⟩,
  ⟨some 9, none, .load 6 true (.t 8)⟩,
  ⟨some 3, none, .alloc [.int .i64 0, .int .i64 0, .int .i64 0, .bool false, .sl .full [], .sl .full []]⟩,
  ⟨none, none, .store 6 (.t 3) (.t 9)⟩]
abbrev c25_r3 : List Ins := [
  ⟨some 10, none, .faddr 0 (.t 3)⟩,
  ⟨some 11, none, .load 1 false (.t 10)⟩,
  ⟨some 12, none, .bin .neq (.t 11) (.c (.int .i64 0))⟩,
  ⟨some 13, none, .mov (.t 12)⟩,
  ⟨some 14, some (13, false), .faddr 1 (.t 3)⟩,
  ⟨some 15, some (13, false), .load 1 false (.t 14)⟩,
  ⟨some 16, some (13, false), .bin .neq (.t 15) (.c (.int .i64 0))⟩,
  ⟨some 17, none, .pick (.t 13) (.c (.bool true)) (.t 16)⟩,
  ⟨some 18, none, .mov (.t 17)⟩,
  ⟨some 19, some (18, false), .faddr 2 (.t 3)⟩,
  ⟨some 20, some (18, false), .load 1 false (.t 19)⟩,
  ⟨some 21, some (18, false), .bin .neq (.t 20) (.c (.int .i64 0))⟩,
  ⟨some 22, none, .pick (.t 18) (.c (.bool true)) (.t 21)⟩,
  ⟨some 23, none, .mov (.t 22)⟩,
  ⟨some 24, some (23, false), .faddr 3 (.t 3)⟩,
  ⟨some 25, some (23, false), .load 1 false (.t 24)⟩,
  ⟨some 26, none, .pick (.t 23) (.c (.bool true)) (.t 25)⟩,
  ⟨some 27, none, .mov (.t 26)⟩,
  ⟨some 28, some (27, false), .faddr 4 (.t 3)⟩,
  ⟨some 29, some (27, false), .load 1 false (.t 28)⟩,
  ⟨some 30, some (27, false), .len (.t 29)⟩,
  ⟨some 31, some (27, false), .bin .gtr (.t 30) (.c (.int .i64 0))⟩,
  ⟨some 32, none, .pick (.t 27) (.c (.bool true)) (.t 31)⟩,
  ⟨some 33, none, .mov (.t 32)⟩,
  ⟨some 34, some (33, false), .faddr 5 (.t 3)⟩,
  ⟨some 35, some (33, false), .load 1 false (.t 34)⟩,
  ⟨some 36, some (33, false), .len (.t 35)⟩,
  ⟨some 37, some (33, false), .bin .gtr (.t 36) (.c (.int .i64 0))⟩,
  ⟨some 38, none, .pick (.t 33) (.c (.bool true)) (.t 37)⟩,
  ⟨some 39, none, .mov (.t 38)⟩,
  ⟨some 40, some (39, false), .faddr 15 (.t 1)⟩,
  ⟨some 41, some (39, false), .load 1 false (.t 40)⟩,
  ⟨some 42, some (39, false), .len (.t 41)⟩,
  ⟨some 43, some (39, false), .bin .gtr (.t 42) (.c (.int .i64 0))⟩,
  ⟨some 44, none, .pick (.t 39) (.c (.bool true)) (.t 43)⟩,
  ⟨some 45, none, .mov (.t 44)⟩,
  ⟨some 46, some (45, false), .faddr 11 (.t 1)⟩,
  ⟨some 47, some (45, false), .load 4 true (.t 46)⟩,
  ⟨some 48, some (45, false), .build [.int .i64 0, .int .i64 0, .int .i64 0, .int .i64 0] []⟩,
  ⟨some 49, some (45, false), .eq [.i, .i, .i, .i] true true (.t 47) (.t 48)⟩,
  ⟨some 50, none, .pick (.t 45) (.c (.bool true)) (.t 49)⟩,
  ⟨some 4, none, .mov (.t 50)⟩]
abbrev c25_r4 : List Ins := [
  ⟨some 51, none, .faddr 0 (.t 1)⟩,
  ⟨some 52, none, .load 1 false (.t 51)⟩,
  ⟨some 53, none, .bin .eql (.t 52) (.c (.int .i64 1))⟩]
abbrev c25_r5 : List Ins := [
  ⟨some 54, none, .mov (.t 4)⟩,
  ⟨some 55, none, .un .not (.t 54)⟩,
  ⟨some 56, none, .mov (.t 55)⟩,
  ⟨some 57, some (56, true), .faddr 1 (.t 1)⟩,
  ⟨some 58, some (56, true), .load 1 false (.t 57)⟩,
  ⟨some 59, some (56, true), .bin .eql (.t 58) (.c (.int .i64 0))⟩,
  ⟨some 60, none, .pick (.t 56) (.t 59) (.c (.bool false))⟩,
  ⟨some 61, none, .mov (.t 60)⟩,
  ⟨some 62, some (61, true), .faddr 4 (.t 1)⟩,
  ⟨some 63, some (61, true), .load 1 false (.t 62)⟩,
  ⟨some 64, some (61, true), .bin .eql (.t 63) (.c (.int .i64 0))⟩,
  ⟨some 65, none, .pick (.t 61) (.t 64) (.c (.bool false))⟩,
  ⟨some 66, none, .mov (.t 65)⟩,
  ⟨some 67, some (66, true), .faddr 2 (.t 1)⟩,
  ⟨some 68, some (66, true), .load 1 false (.t 67)⟩,
  ⟨some 69, some (66, true), .bin .geq (.t 68) (.c (.int .i64 0))⟩,
  ⟨some 70, none, .pick (.t 66) (.t 69) (.c (.bool false))⟩,
  ⟨some 71, none, .mov (.t 70)⟩,
  ⟨some 72, some (71, true), .faddr 2 (.t 1)⟩,
  ⟨some 73, some (71, true), .load 1 false (.t 72)⟩,
  ⟨some 74, some (71, true), .bin .lss (.t 73) (.c (.int .i64 4))⟩,
  ⟨some 75, none, .pick (.t 71) (.t 74) (.c (.bool false))⟩,
  ⟨some 76, none, .mov (.t 75)⟩,
  ⟨some 77, some (76, true), .faddr 3 (.t 1)⟩,
  ⟨some 78, some (76, true), .load 1 false (.t 77)⟩,
  ⟨some 79, some (76, true), .call (.c (.fn 66 [] [])) [.t 78]⟩,
  ⟨some 80, none, .pick (.t 76) (.t 79) (.c (.bool false))⟩,
  ⟨some 2, none, .mov (.t 80)⟩]
abbrev c25_r6 : List Ins := [
  ⟨some 81, none, .faddr 0 (.t 1)⟩,
  ⟨some 82, none, .load 1 false (.t 81)⟩,
  ⟨some 83, none, .bin .eql (.t 82) (.c (.int .i64 3))⟩]
abbrev c25_r7 : List Ins := [
  ⟨some 84, none, .mov (.t 4)⟩,
  ⟨some 85, none, .un .not (.t 84)⟩,
  ⟨some 86, none, .mov (.t 85)⟩,
  ⟨some 87, some (86, true), .faddr 2 (.t 1)⟩,
  ⟨some 88, some (86, true), .load 1 false (.t 87)⟩,
  ⟨some 89, some (86, true), .bin .eql (.t 88) (.c (.int .i64 0))⟩,
  ⟨some 90, none, .pick (.t 86) (.t 89) (.c (.bool false))⟩,
  ⟨some 91, none, .mov (.t 90)⟩,
  ⟨some 92, some (91, true), .faddr 3 (.t 1)⟩,
  ⟨some 93, some (91, true), .load 1 false (.t 92)⟩,
  ⟨some 94, some (91, true), .len (.t 93)⟩,
  ⟨some 95, some (91, true), .bin .eql (.t 94) (.c (.int .i64 0))⟩,
  ⟨some 96, none, .pick (.t 91) (.t 95) (.c (.bool false))⟩,
  ⟨some 97, none, .mov (.t 96)⟩,
  ⟨some 98, some (97, true), .faddr 1 (.t 1)⟩,
  ⟨some 99, some (97, true), .load 1 false (.t 98)⟩,
  ⟨some 100, some (97, true), .bin .geq (.t 99) (.c (.int .i64 0))⟩,
  ⟨some 101, none, .pick (.t 97) (.t 100) (.c (.bool false))⟩,
  ⟨some 102, none, .mov (.t 101)⟩,
  ⟨some 103, some (102, true), .faddr 1 (.t 1)⟩,
  ⟨some 104, some (102, true), .load 1 false (.t 103)⟩,
  ⟨some 105, some (102, true), .bin .lss (.t 104) (.c (.int .i64 12))⟩,
  ⟨some 106, none, .pick (.t 102) (.t 105) (.c (.bool false))⟩,
  ⟨some 107, none, .mov (.t 106)⟩,
  ⟨some 108, some (107, true), .faddr 4 (.t 1)⟩,
  ⟨some 109, some (107, true), .load 1 false (.t 108)⟩,
  ⟨some 110, some (107, true), .bin .gtr (.t 109) (.c (.int .i64 0))⟩,
  ⟨some 111, none, .pick (.t 107) (.t 110) (.c (.bool false))⟩,
  ⟨some 112, none, .mov (.t 111)⟩,
  ⟨some 113, some (112, true), .faddr 4 (.t 1)⟩,
  ⟨some 114, some (112, true), .load 1 false (.t 113)⟩,
  ⟨some 115, some (112, true), .bin .lss (.t 114) (.c (.int .i64 16))⟩,
  ⟨some 116, none, .pick (.t 112) (.t 115) (.c (.bool false))⟩,
  ⟨some 2, none, .mov (.t 116)⟩]
abbrev c25_r8 : List Ins := [
  ⟨some 117, none, .faddr 0 (.t 1)⟩,
  ⟨some 118, none, .load 1 false (.t 117)⟩,
  ⟨some 119, none, .bin .neq (.t 118) (.c (.int .i64 2))⟩,
  ⟨some 120, none, .mov (.t 119)⟩,
  ⟨some 121, some (120, false), .faddr 1 (.t 1)⟩,
  ⟨some 122, some (120, false), .load 1 false (.t 121)⟩,
  ⟨some 123, some (120, false), .bin .neq (.t 122) (.c (.int .i64 0))⟩,
  ⟨some 124, none, .pick (.t 120) (.c (.bool true)) (.t 123)⟩,
  ⟨some 125, none, .mov (.t 124)⟩,
  ⟨some 126, some (125, false), .faddr 4 (.t 1)⟩,
  ⟨some 127, some (125, false), .load 1 false (.t 126)⟩,
  ⟨some 128, some (125, false), .bin .neq (.t 127) (.c (.int .i64 0))⟩,
  ⟨some 129, none, .pick (.t 125) (.c (.bool true)) (.t 128)⟩,
  ⟨some 130, none, .mov (.t 129)⟩,
  ⟨some 131, some (130, false), .faddr 2 (.t 1)⟩,
  ⟨some 132, some (130, false), .load 1 false (.t 131)⟩,
  ⟨some 133, some (130, false), .bin .neq (.t 132) (.c (.int .i64 0))⟩,
  ⟨some 134, none, .pick (.t 130) (.c (.bool true)) (.t 133)⟩,
  ⟨some 135, none, .mov (.t 134)⟩,
  ⟨some 136, some (135, false), .faddr 3 (.t 1)⟩,
  ⟨some 137, some (135, false), .load 1 false (.t 136)⟩,
  ⟨some 138, some (135, false), .len (.t 137)⟩,
  ⟨some 139, some (135, false), .bin .gtr (.t 138) (.c (.int .i64 0))⟩,
  ⟨some 140, none, .pick (.t 135) (.c (.bool true)) (.t 139)⟩]
abbrev c25_r9 : List Ins := [
  ⟨some 2, none, .mov (.c (.bool false))⟩]
abbrev c25_r10 : List Ins := [
  ⟨some 141, none, .faddr 0 (.t 3)⟩,
  ⟨some 142, none, .load 1 false (.t 141)⟩,
  ⟨some 143, none, .bin .lss (.t 142) (.c (.int .i64 0))⟩,
  ⟨some 144, none, .mov (.t 143)⟩,
  ⟨some 145, some (144, false), .faddr 0 (.t 3)⟩,
  ⟨some 146, some (144, false), .load 1 false (.t 145)⟩,
  ⟨some 147, some (144, false), .bin .gtr (.t 146) (.c (.int .i64 11))⟩,
  ⟨some 148, none, .pick (.t 144) (.c (.bool true)) (.t 147)⟩,
  ⟨some 149, none, .mov (.t 148)⟩,
  ⟨some 150, some (149, false), .faddr 1 (.t 3)⟩,
  ⟨some 151, some (149, false), .load 1 false (.t 150)⟩,
  ⟨some 152, some (149, false), .bin .lss (.t 151) (.c (.int .i64 0))⟩,
  ⟨some 153, none, .pick (.t 149) (.c (.bool true)) (.t 152)⟩,
  ⟨some 154, none, .mov (.t 153)⟩,
  ⟨some 155, some (154, false), .faddr 1 (.t 3)⟩,
  ⟨some 156, some (154, false), .load 1 false (.t 155)⟩,
  ⟨some 157, some (154, false), .bin .gtr (.t 156) (.c (.int .i64 3))⟩,
  ⟨some 158, none, .pick (.t 154) (.c (.bool true)) (.t 157)⟩,
  ⟨some 159, none, .mov (.t 158)⟩,
  ⟨some 160, some (159, false), .faddr 2 (.t 3)⟩,
  ⟨some 161, some (159, false), .load 1 false (.t 160)⟩,
  ⟨some 162, some (159, false), .bin .lss (.t 161) (.c (.int .i64 0))⟩,
  ⟨some 163, none, .pick (.t 159) (.c (.bool true)) (.t 162)⟩,
  ⟨some 164, none, .mov (.t 163)⟩,
  ⟨some 165, some (164, false), .faddr 2 (.t 3)⟩,
  ⟨some 166, some (164, false), .load 1 false (.t 165)⟩,
  ⟨some 167, some (164, false), .bin .gtr (.t 166) (.c (.int .i64 3))⟩,
  ⟨some 168, none, .pick (.t 164) (.c (.bool true)) (.t 167)⟩,
  ⟨some 169, none, .mov (.t 168)⟩,
  ⟨some 170, some (169, false), .faddr 4 (.t 3)⟩,
  ⟨some 171, some (169, false), .load 1 false (.t 170)⟩,
  ⟨some 172, some (169, false), .call (.c (.fn 67 [] [])) [.t 171]⟩,
  ⟨some 173, some (169, false), .un .not (.t 172)⟩,
  ⟨some 174, none, .pick (.t 169) (.c (.bool true)) (.t 173)⟩,
  ⟨some 175, none, .mov (.t 174)⟩,
  ⟨some 176, some (175, false), .faddr 5 (.t 3)⟩,
  ⟨some 177, some (175, false), .load 1 false (.t 176)⟩,
  ⟨some 178, some (175, false), .call (.c (.fn 67 [] [])) [.t 177]⟩,
  ⟨some 179, some (175, false), .un .not (.t 178)⟩,
  ⟨some 180, none, .pick (.t 175) (.c (.bool true)) (.t 179)⟩,
  ⟨some 181, none, .mov (.t 180)⟩,
  ⟨some 182, some (181, false), .faddr 15 (.t 1)⟩,
  ⟨some 183, some (181, false), .load 1 false (.t 182)⟩,
  ⟨some 184, some (181, false), .len (.t 183)⟩,
  ⟨some 185, some (181, false), .bin .gtr (.t 184) (.c (.int .i64 8))⟩,
  ⟨some 186, none, .pick (.t 181) (.c (.bool true)) (.t 185)⟩]
abbrev c25_r11 : List Ins := [
  ⟨some 2, none, .mov (.c (.bool false))⟩]
abbrev c25_r12 : List Ins := [
  ⟨some 187, none, .faddr 5 (.t 3)⟩,
  ⟨some 188, none, .load 1 false (.t 187)⟩,
  ⟨some 189, none, .call (.c (.fn 68 [] [])) [.t 188]⟩,
  ⟨some 5, none, .mov (.t 189)⟩]
abbrev c25_r13 : List Ins := [
  ⟨some 6, none, .mov (.c (.int .i64 0))⟩]
abbrev c25_r14 : List Ins := [
  ⟨some 7, none, .mov (.c (.int .i64 0))⟩]
abbrev c25_r15 : List Ins := [
  ⟨some 190, none, .mov (.t 7)⟩,
  ⟨some 191, none, .bin .lss (.t 190) (.c (.int .i64 1000))⟩]
abbrev c25_r16 : List Ins := [
  ⟨some 194, none, .mov (.t 5)⟩,
  ⟨some 195, none, .mov (.t 7)⟩,
  ⟨some 196, none, .nilck (.t 194)⟩,
  ⟨some 197, none, .iaddrA 1000 1 (.t 196) (.t 195)⟩,
  ⟨some 198, none, .load 1 false (.t 197)⟩,
  ⟨some 199, none, .un .not (.t 198)⟩]
abbrev c25_r17 : List Ins := [
  ⟨some 200, none, .mov (.t 6)⟩,
  ⟨some 201, none, .faddr 15 (.t 1)⟩,
  ⟨some 202, none, .load 1 false (.t 201)⟩,
  ⟨some 203, none, .len (.t 202)⟩,
  ⟨some 204, none, .bin .geq (.t 200) (.t 203)⟩,
  ⟨some 205, none, .mov (.t 204)⟩,
  ⟨some 206, some (205, false), .faddr 15 (.t 1)⟩,
  ⟨some 207, some (205, false), .load 1 false (.t 206)⟩,
  ⟨some 208, some (205, false), .mov (.t 6)⟩,
  ⟨some 209, some (205, false), .iaddr 3 (.t 207) (.t 208)⟩,
  ⟨some 210, some (205, false), .faddr 0 (.t 209)⟩,
  ⟨some 211, some (205, false), .load 1 false (.t 210)⟩,
  ⟨some 212, some (205, false), .mov (.t 7)⟩,
  ⟨some 213, some (205, false), .bin .neq (.t 211) (.t 212)⟩,
  ⟨some 214, none, .pick (.t 205) (.c (.bool true)) (.t 213)⟩,
  ⟨some 215, none, .mov (.t 214)⟩,
  ⟨some 216, some (215, false), .faddr 15 (.t 1)⟩,
  ⟨some 217, some (215, false), .load 1 false (.t 216)⟩,
  ⟨some 218, some (215, false), .mov (.t 6)⟩,
  ⟨some 219, some (215, false), .iaddr 3 (.t 217) (.t 218)⟩,
  ⟨some 220, some (215, false), .faddr 1 (.t 219)⟩,
  ⟨some 221, some (215, false), .load 1 false (.t 220)⟩,
  ⟨some 222, some (215, false), .mov (.t 221)⟩,
  ⟨some 223, some (222, true), .faddr 15 (.t 1)⟩,
  ⟨some 224, some (222, true), .load 1 false (.t 223)⟩,
  ⟨some 225, some (222, true), .mov (.t 6)⟩,
  ⟨some 226, some (222, true), .iaddr 3 (.t 224) (.t 225)⟩,
  ⟨some 227, some (222, true), .faddr 2 (.t 226)⟩,
  ⟨some 228, some (222, true), .load 1 false (.t 227)⟩,
  ⟨some 229, some (222, true), .bin .neq (.t 228) (.c (.int .i64 0))⟩,
  ⟨some 230, some (215, false), .pick (.t 222) (.t 229) (.c (.bool false))⟩,
  ⟨some 231, none, .pick (.t 215) (.c (.bool true)) (.t 230)⟩]
abbrev c25_r18 : List Ins := [
  ⟨some 2, none, .mov (.c (.bool false))⟩]
abbrev c25_r19 : List Ins := [
  ⟨some 232, none, .mov (.t 6)⟩,
  ⟨some 233, none, .bin .add (.t 232) (.c (.int .i64 1))⟩,
  ⟨some 6, none, .mov (.t 233)⟩]
abbrev c25_r20 : List Ins := [
  ⟨some 192, none, .mov (.t 7)⟩,
  ⟨some 193, none, .bin .add (.t 192) (.c (.int .i64 1))⟩,
  ⟨some 7, none, .mov (.t 193)⟩]
abbrev c25_l21 : IR := .seq (.seq (.reg c25_r15) (.cond (.t 191) (.skip) (.exit 0))) (.seq (.blk 1 (.seq (.seq (.reg c25_r16) (.cond (.t 199) (.exit 1) (.skip))) (.seq (.seq (.reg c25_r17) (.cond (.t 231) (.seq (.reg c25_r18) (.ret)) (.skip))) (.reg c25_r19)))) (.reg c25_r20))
abbrev c25_r22 : List Ins := [
  ⟨some 234, none, .mov (.t 6)⟩,
  ⟨some 235, none, .faddr 15 (.t 1)⟩,
  ⟨some 236, none, .load 1 false (.t 235)⟩,
  ⟨some 237, none, .len (.t 236)⟩,
  ⟨some 238, none, .bin .eql (.t 234) (.t 237)⟩,
  ⟨some 2, none, .mov (.t 238)⟩]
abbrev c25 : IR := .seq (.reg c25_r1) (.seq (.reg c25_r2) (.seq (.reg c25_r3) (.seq (.seq (.reg c25_r4) (.cond (.t 53) (.seq (.reg c25_r5) (.ret)) (.skip))) (.seq (.seq (.reg c25_r6) (.cond (.t 83) (.seq (.reg c25_r7) (.ret)) (.skip))) (.seq (.seq (.reg c25_r8) (.cond (.t 140) (.seq (.reg c25_r9) (.ret)) (.skip))) (.seq (.seq (.reg c25_r10) (.cond (.t 186) (.seq (.reg c25_r11) (.ret)) (.skip))) (.seq (.reg c25_r12) (.seq (.reg c25_r13) (.seq (.seq (.reg c25_r14) (.blk 0 (.loop c25_l21))) (.seq (.reg c25_r22) (.ret)))))))))))
abbrev F25 : FnA := ⟨239, c25, [.t 2]⟩
theorem ok25 : cFn Try.prog 25 = some F25 := by kernel_rfl
theorem hb25 : HasBody Try.prog 25 := ⟨_, Try.func25, by kernel_rfl, by kernel_rfl⟩
/-! recs.Put -/
abbrev c26_r1 : List Ins := [
  ⟨some 1, none, .box (.t 0)⟩,
  ⟨some 2, none, .alloc [.int .i64 0, .sl .full []]⟩,
  ⟨some 3, none, .mov (.c (.bool false))⟩]
abbrev c26_r2 : List Ins := [
  ⟨some 5, none, .load 16 true (.t 1)⟩,
  ⟨some 6, none, .call (.c (.fn 31 [] [])) [.t 5]⟩,
  ⟨some 7, none, .un .not (.t 6)⟩]
abbrev c26_r3 : List Ins := [
  ⟨some 8, none, .build [.int .i64 0, .sl .full []] []⟩,
  ⟨none, none, .store 2 (.t 2) (.t 8)⟩,
  ⟨some 3, none, .mov (.c (.bool false))⟩]
abbrev c26_r4 : List Ins := [
  ⟨some 4, none, .alloc [.sl .full []]⟩]
abbrev c26_r5 : List Ins := [
  ⟨some 9, none, .faddr 0 (.t 1)⟩,
  ⟨some 10, none, .load 1 false (.t 9)⟩]
abbrev c26_r6 : List Ins := [
  ⟨some 18, none, .bin .eql (.t 10) (.c (.int .i64 1))⟩,
  ⟨some 17, none, .mov (.t 18)⟩]
abbrev c26_r7 : List Ins := [
  ⟨some 19, none, .faddr 2 (.t 1)⟩,
  ⟨some 20, none, .load 1 false (.t 19)⟩,
  ⟨some 21, none, .call (.c (.fn 69 [] [])) [.t 4, .t 20]⟩]
abbrev c26_r8 : List Ins := [
  ⟨some 22, none, .faddr 3 (.t 1)⟩,
  ⟨some 23, none, .load 1 false (.t 22)⟩,
  ⟨some 24, none, .mkfn 69 [.t 4] []⟩,
  ⟨some 25, none, .call (.c (.fn 70 [] [])) [.t 4, .t 23, .t 24]⟩]
abbrev c26_r9 : List Ins := [
  ⟨some 27, none, .bin .eql (.t 10) (.c (.int .i64 2))⟩,
  ⟨some 26, none, .mov (.t 27)⟩]
abbrev c26_r10 : List Ins := [
  ⟨some 28, none, .load 16 true (.t 1)⟩,
  ⟨some 29, none, .call (.c (.fn 71 [] [])) [.t 4, .t 28]⟩]
abbrev c26_r11 : List Ins := [
  ⟨some 11, none, .faddr 1 (.t 1)⟩,
  ⟨some 12, none, .load 1 false (.t 11)⟩,
  ⟨some 13, none, .call (.c (.fn 69 [] [])) [.t 4, .t 12]⟩]
abbrev c26_r12 : List Ins := [
  ⟨some 14, none, .faddr 4 (.t 1)⟩,
  ⟨some 15, none, .load 1 false (.t 14)⟩,
  ⟨some 16, none, .call (.c (.fn 69 [] [])) [.t 4, .t 15]⟩]
abbrev c26_r13 : List Ins := [
  ⟨some 30, none, .faddr 0 (.t 1)⟩,
  ⟨some 31, none, .load 1 false (.t 30)⟩,
  ⟨some 32, none, .call (.c (.fn 72 [] [])) [.t 4]⟩,
  ⟨some 33, none, .build [.int .i64 0, .sl .full []] [(0, (1, .t 31)), (1, (1, .t 32))]⟩,
  ⟨none, none, .store 2 (.t 2) (.t 33)⟩,
  ⟨some 3, none, .mov (.c (.bool true))⟩]
def c26_a13 : List (List Nat) := [[], [0], [], [1, 2], [3, 2, 0, 1, 2, 3], [4, 0, 1, 2, 3, 4]]
abbrev c26_m13 : List Am.Mark := [⟨false, 0, 1⟩, ⟨false, 0, 1⟩, ⟨true, 0, 1⟩, ⟨false, 1, 1⟩, ⟨true, 1, 2⟩, ⟨false, 2, 2⟩]
theorem c26_d13 : drawFine c26_r13 c26_a13 c26_m13 = true := by decide +kernel
abbrev c26 : IR := .seq (.reg c26_r1) (.seq (.seq (.reg c26_r2) (.cond (.t 7) (.seq (.reg c26_r3) (.ret)) (.skip))) (.seq (.reg c26_r4) (.seq (.seq (.reg c26_r5) (.blk 0 (.seq (.reg c26_r6) (.cond (.t 17) (.seq (.reg c26_r7) (.reg c26_r8)) (.seq (.reg c26_r9) (.cond (.t 26) (.reg c26_r10) (.seq (.reg c26_r11) (.reg c26_r12)))))))) (.seq (.dreg c26_r13 c26_a13) (.ret)))))
abbrev F26 : FnA := ⟨34, c26, [.cell 2 2 true, .t 3]⟩
theorem ok26 : cFn Try.prog 26 = some F26 := by kernel_rfl
theorem hb26 : HasBody Try.prog 26 := ⟨_, Try.func26, by kernel_rfl, by kernel_rfl⟩
/-! ref06.Same -/
abbrev c27_r1 : List Ins := [
  ⟨some 4, none, .mov (.c (.bool false))⟩]
abbrev c27_r2 : List Ins := [
  ⟨some 7, none, .mov (.t 0)⟩,
  ⟨some 8, none, .len (.t 7)⟩,
  ⟨some 9, none, .mov (.t 1)⟩,
  ⟨some 10, none, .len (.t 9)⟩,
  ⟨some 11, none, .bin .neq (.t 8) (.t 10)⟩]
abbrev c27_r3 : List Ins := [
  ⟨some 4, none, .mov (.c (.bool false))⟩]
abbrev c27_r4 : List Ins := [
  ⟨some 5, none, .mov (.c (.int .i64 0))⟩]
abbrev c27_r5 : List Ins := [
  ⟨some 12, none, .mov (.t 5)⟩,
  ⟨some 13, none, .mov (.t 0)⟩,
  ⟨some 14, none, .len (.t 13)⟩,
  ⟨some 15, none, .bin .lss (.t 12) (.t 14)⟩]
abbrev c27_r6 : List Ins := [
  ⟨some 18, none, .mov (.t 0)⟩,
  ⟨some 19, none, .mov (.t 5)⟩,
  ⟨some 20, none, .iaddr 2 (.t 18) (.t 19)⟩,
  ⟨some 21, none, .faddr 0 (.t 20)⟩,
  ⟨some 22, none, .load 1 false (.t 21)⟩,
  ⟨some 23, none, .mov (.t 1)⟩,
  ⟨some 24, none, .mov (.t 5)⟩,
  ⟨some 25, none, .iaddr 2 (.t 23) (.t 24)⟩,
  ⟨some 26, none, .faddr 0 (.t 25)⟩,
  ⟨some 27, none, .load 1 false (.t 26)⟩,
  ⟨some 28, none, .bin .neq (.t 22) (.t 27)⟩,
  ⟨some 29, none, .mov (.t 28)⟩,
  ⟨some 30, some (29, false), .mov (.t 0)⟩,
  ⟨some 31, some (29, false), .mov (.t 5)⟩,
  ⟨some 32, some (29, false), .iaddr 2 (.t 30) (.t 31)⟩,
  ⟨some 33, some (29, false), .faddr 1 (.t 32)⟩,
  ⟨some 34, some (29, false), .load 1 false (.t 33)⟩,
  ⟨some 35, some (29, false), .len (.t 34)⟩,
  ⟨some 36, some (29, false), .mov (.t 1)⟩,
  ⟨some 37, some (29, false), .mov (.t 5)⟩,
  ⟨some 38, some (29, false), .iaddr 2 (.t 36) (.t 37)⟩,
  ⟨some 39, some (29, false), .faddr 1 (.t 38)⟩,
  ⟨some 40, some (29, false), .load 1 false (.t 39)⟩,
  ⟨some 41, some (29, false), .len (.t 40)⟩,
  ⟨some 42, some (29, false), .bin .neq (.t 35) (.t 41)⟩,
  ⟨some 43, none, .pick (.t 29) (.c (.bool true)) (.t 42)⟩]
def c27_a6 : List (List Nat) := [[], [], [0, 1], [2], [3], [], [], [5, 6], [7], [8], [4, 9], [10], [11], [11], [12, 13, 11], [14, 11], [15, 11], [16, 11], [11], [11], [18, 19, 11], [20, 11], [21, 11], [22, 11], [17, 23, 11], [11, 24]]
abbrev c27_m6 : List Am.Mark := [⟨false, 0, 0⟩, ⟨false, 0, 0⟩, ⟨false, 0, 0⟩, ⟨false, 0, 0⟩, ⟨false, 0, 0⟩, ⟨false, 0, 0⟩, ⟨false, 0, 0⟩, ⟨false, 0, 0⟩, ⟨false, 0, 0⟩, ⟨false, 0, 0⟩, ⟨false, 0, 0⟩, ⟨false, 0, 0⟩, ⟨false, 0, 0⟩, ⟨false, 0, 0⟩, ⟨false, 0, 0⟩, ⟨false, 0, 0⟩, ⟨false, 0, 0⟩, ⟨false, 0, 0⟩, ⟨false, 0, 0⟩, ⟨false, 0, 0⟩, ⟨false, 0, 0⟩, ⟨false, 0, 0⟩, ⟨false, 0, 0⟩, ⟨false, 0, 0⟩, ⟨false, 0, 0⟩, ⟨false, 0, 0⟩]
theorem c27_d6 : drawFine c27_r6 c27_a6 c27_m6 = true := by decide +kernel
abbrev c27_r7 : List Ins := [
  ⟨some 4, none, .mov (.c (.bool false))⟩]
abbrev c27_r8 : List Ins := [
  ⟨some 6, none, .mov (.c (.int .i64 0))⟩]
abbrev c27_r9 : List Ins := [
  ⟨some 44, none, .mov (.t 6)⟩,
  ⟨some 45, none, .mov (.t 0)⟩,
  ⟨some 46, none, .mov (.t 5)⟩,
  ⟨some 47, none, .iaddr 2 (.t 45) (.t 46)⟩,
  ⟨some 48, none, .faddr 1 (.t 47)⟩,
  ⟨some 49, none, .load 1 false (.t 48)⟩,
  ⟨some 50, none, .len (.t 49)⟩,
  ⟨some 51, none, .bin .lss (.t 44) (.t 50)⟩]
abbrev c27_r10 : List Ins := [
  ⟨some 54, none, .mov (.t 0)⟩,
  ⟨some 55, none, .mov (.t 5)⟩,
  ⟨some 56, none, .iaddr 2 (.t 54) (.t 55)⟩,
  ⟨some 57, none, .faddr 1 (.t 56)⟩,
  ⟨some 58, none, .load 1 false (.t 57)⟩,
  ⟨some 59, none, .mov (.t 6)⟩,
  ⟨some 60, none, .iaddr 1 (.t 58) (.t 59)⟩,
  ⟨some 61, none, .load 1 false (.t 60)⟩,
  ⟨some 62, none, .mov (.t 1)⟩,
  ⟨some 63, none, .mov (.t 5)⟩,
  ⟨some 64, none, .iaddr 2 (.t 62) (.t 63)⟩,
  ⟨some 65, none, .faddr 1 (.t 64)⟩,
  ⟨some 66, none, .load 1 false (.t 65)⟩,
  ⟨some 67, none, .mov (.t 6)⟩,
  ⟨some 68, none, .iaddr 1 (.t 66) (.t 67)⟩,
  ⟨some 69, none, .load 1 false (.t 68)⟩,
  ⟨some 70, none, .bin .neq (.t 61) (.t 69)⟩]
def c27_a10 : List (List Nat) := [[], [], [0, 1], [2], [3], [], [4, 5], [6], [], [], [8, 9], [10], [11], [], [12, 13], [14], [7, 15]]
abbrev c27_m10 : List Am.Mark := [⟨false, 0, 0⟩, ⟨false, 0, 0⟩, ⟨false, 0, 0⟩, ⟨false, 0, 0⟩, ⟨false, 0, 0⟩, ⟨false, 0, 0⟩, ⟨false, 0, 0⟩, ⟨false, 0, 0⟩, ⟨false, 0, 0⟩, ⟨false, 0, 0⟩, ⟨false, 0, 0⟩, ⟨false, 0, 0⟩, ⟨false, 0, 0⟩, ⟨false, 0, 0⟩, ⟨false, 0, 0⟩, ⟨false, 0, 0⟩, ⟨false, 0, 0⟩]
theorem c27_d10 : drawFine c27_r10 c27_a10 c27_m10 = true := by decide +kernel
abbrev c27_r11 : List Ins := [
  ⟨some 4, none, .mov (.c (.bool false))⟩]
abbrev c27_r12 : List Ins := [
  ⟨some 52, none, .mov (.t 6)⟩,
  ⟨some 53, none, .bin .add (.t 52) (.c (.int .i64 1))⟩,
  ⟨some 6, none, .mov (.t 53)⟩]
abbrev c27_l13 : IR := .seq (.seq (.reg c27_r9) (.cond (.t 51) (.skip) (.exit 2))) (.seq (.blk 3 (.seq (.dreg c27_r10 c27_a10) (.cond (.t 70) (.seq (.reg c27_r11) (.ret)) (.skip)))) (.reg c27_r12))
abbrev c27_r14 : List Ins := [
  ⟨some 16, none, .mov (.t 5)⟩,
  ⟨some 17, none, .bin .add (.t 16) (.c (.int .i64 1))⟩,
  ⟨some 5, none, .mov (.t 17)⟩]
abbrev c27_l15 : IR := .seq (.seq (.reg c27_r5) (.cond (.t 15) (.skip) (.exit 0))) (.seq (.blk 1 (.seq (.seq (.dreg c27_r6 c27_a6) (.cond (.t 43) (.seq (.reg c27_r7) (.ret)) (.skip))) (.seq (.reg c27_r8) (.blk 2 (.loop c27_l13))))) (.reg c27_r14))
abbrev c27_r16 : List Ins := [
  ⟨some 4, none, .mov (.c (.bool true))⟩]
abbrev c27 : IR := .seq (.reg c27_r1) (.seq (.seq (.reg c27_r2) (.cond (.t 11) (.seq (.reg c27_r3) (.ret)) (.skip))) (.seq (.seq (.reg c27_r4) (.blk 0 (.loop c27_l15))) (.seq (.reg c27_r16) (.ret))))
abbrev F27 : FnA := ⟨71, c27, [.t 4]⟩
theorem ok27 : cFn Try.prog 27 = some F27 := by kernel_rfl
theorem hb27 : HasBody Try.prog 27 := ⟨_, Try.func27, by kernel_rfl, by kernel_rfl⟩
/-! recs.Get -/
abbrev c28_r1 : List Ins := [
  ⟨some 1, none, .box (.t 0)⟩,
  ⟨some 2, none, .alloc [.int .i64 0, .int .i64 0, .int .i64 0, .sl .full [], .int .i64 0, .int .i64 0, .int .i64 0, .int .i64 0, .bool false, .sl .full [], .sl .full [], .int .i64 0, .int .i64 0, .int .i64 0, .int .i64 0, .sl .full []]⟩,
  ⟨some 3, none, .mov (.c (.bool false))⟩]
abbrev c28_r2 : List Ins := [
  ⟨some 6, none, .faddr 1 (.t 1)⟩,
  ⟨some 7, none, .load 1 false (.t 6)⟩,
  ⟨some 8, none, .call (.c (.fn 10 [] [])) [.t 7]⟩,
  ⟨some 4, none, .alloc [.nilptr]⟩,
  ⟨none, none, .store 1 (.t 4) (.t 8)⟩]
abbrev c28_r3 : List Ins := [
  ⟨some 9, none, .faddr 0 (.t 1)⟩,
  ⟨some 10, none, .load 1 false (.t 9)⟩,
  ⟨some 11, none, .build [.int .i64 0, .int .i64 0, .int .i64 0, .sl .full [], .int .i64 0, .int .i64 0, .int .i64 0, .int .i64 0, .bool false, .sl .full [], .sl .full [], .int .i64 0, .int .i64 0, .int .i64 0, .int .i64 0, .sl .full []] [(0, (1, .t 10))]⟩,
  ⟨some 5, none, .alloc [.int .i64 0, .int .i64 0, .int .i64 0, .sl .full [], .int .i64 0, .int .i64 0, .int .i64 0, .int .i64 0, .bool false, .sl .full [], .sl .full [], .int .i64 0, .int .i64 0, .int .i64 0, .int .i64 0, .sl .full []]⟩,
  ⟨none, none, .store 16 (.t 5) (.t 11)⟩]
abbrev c28_r4 : List Ins := [
  ⟨some 12, none, .faddr 0 (.t 1)⟩,
  ⟨some 13, none, .load 1 false (.t 12)⟩]
abbrev c28_r5 : List Ins := [
  ⟨some 15, none, .bin .eql (.t 13) (.c (.int .i64 1))⟩,
  ⟨some 14, none, .mov (.t 15)⟩]
abbrev c28_r6 : List Ins := [
  ⟨some 16, none, .load 1 false (.t 4)⟩,
  ⟨some 17, none, .call (.c (.fn 35 [] [])) [.t 16, .c (.int .i64 4)]⟩,
  ⟨some 18, none, .faddr 2 (.t 5)⟩,
  ⟨none, none, .store 1 (.t 18) (.t 17)⟩]
abbrev c28_r7 : List Ins := [
  ⟨some 19, none, .load 1 false (.t 4)⟩,
  ⟨some 20, none, .mkfn 74 [] [.t 4]⟩,
  ⟨some 21, none, .call (.c (.fn 73 [] [])) [.t 19, .c (.int .i64 3), .t 20]⟩,
  ⟨some 22, none, .faddr 3 (.t 5)⟩,
  ⟨none, none, .store 1 (.t 22) (.t 21)⟩]
abbrev c28_r8 : List Ins := [
  ⟨some 24, none, .bin .eql (.t 13) (.c (.int .i64 2))⟩,
  ⟨some 23, none, .mov (.t 24)⟩]
abbrev c28_r9 : List Ins := [
  ⟨some 25, none, .load 1 false (.t 4)⟩,
  ⟨some 26, none, .call (.c (.fn 75 [] [])) [.t 25, .t 5]⟩]
abbrev c28_r10 : List Ins := [
  ⟨some 28, none, .bin .eql (.t 13) (.c (.int .i64 3))⟩,
  ⟨some 27, none, .mov (.t 28)⟩]
abbrev c28_r11 : List Ins := [
  ⟨some 29, none, .load 1 false (.t 4)⟩,
  ⟨some 30, none, .call (.c (.fn 35 [] [])) [.t 29, .c (.int .i64 12)]⟩,
  ⟨some 31, none, .faddr 1 (.t 5)⟩,
  ⟨none, none, .store 1 (.t 31) (.t 30)⟩]
abbrev c28_r12 : List Ins := [
  ⟨some 32, none, .load 1 false (.t 4)⟩,
  ⟨some 33, none, .call (.c (.fn 35 [] [])) [.t 32, .c (.int .i64 15)]⟩,
  ⟨some 34, none, .faddr 4 (.t 5)⟩,
  ⟨none, none, .store 1 (.t 34) (.t 33)⟩]
abbrev c28_r13 : List Ins := [
  ⟨some 35, none, .load 1 false (.t 4)⟩,
  ⟨some 36, none, .call (.c (.fn 15 [] [])) [.t 35]⟩,
  ⟨some 37, none, .un .not (.t 36)⟩,
  ⟨some 38, none, .mov (.t 37)⟩,
  ⟨some 39, some (38, false), .load 16 true (.t 5)⟩,
  ⟨some 40, some (38, false), .call (.c (.fn 31 [] [])) [.t 39]⟩,
  ⟨some 41, some (38, false), .un .not (.t 40)⟩,
  ⟨some 42, none, .pick (.t 38) (.c (.bool true)) (.t 41)⟩]
abbrev c28_r14 : List Ins := [
  ⟨some 43, none, .build [.int .i64 0, .int .i64 0, .int .i64 0, .sl .full [], .int .i64 0, .int .i64 0, .int .i64 0, .int .i64 0, .bool false, .sl .full [], .sl .full [], .int .i64 0, .int .i64 0, .int .i64 0, .int .i64 0, .sl .full []] []⟩,
  ⟨none, none, .store 16 (.t 2) (.t 43)⟩,
  ⟨some 3, none, .mov (.c (.bool false))⟩]
abbrev c28_r15 : List Ins := [
  ⟨some 44, none, .load 16 true (.t 5)⟩,
  ⟨none, none, .store 16 (.t 2) (.t 44)⟩,
  ⟨some 3, none, .mov (.c (.bool true))⟩]
abbrev c28 : IR := .seq (.reg c28_r1) (.seq (.reg c28_r2) (.seq (.reg c28_r3) (.seq (.seq (.reg c28_r4) (.blk 0 (.seq (.reg c28_r5) (.cond (.t 14) (.seq (.reg c28_r6) (.reg c28_r7)) (.seq (.reg c28_r8) (.cond (.t 23) (.reg c28_r9) (.seq (.reg c28_r10) (.cond (.t 27) (.seq (.reg c28_r11) (.reg c28_r12)) (.skip))))))))) (.seq (.seq (.reg c28_r13) (.cond (.t 42) (.seq (.reg c28_r14) (.ret)) (.skip))) (.seq (.reg c28_r15) (.ret))))))
abbrev F28 : FnA := ⟨45, c28, [.cell 2 16 true, .t 3]⟩
theorem ok28 : cFn Try.prog 28 = some F28 := by kernel_rfl
theorem hb28 : HasBody Try.prog 28 := ⟨_, Try.func28, by kernel_rfl, by kernel_rfl⟩
/-! ref20.Put -/
abbrev c30_r1 : List Ins := [
  ⟨some 1, none, .box (.t 0)⟩,
  ⟨some 2, none, .alloc [.int .i64 0, .sl .full []]⟩]
abbrev c30_r2 : List Ins := [
  ⟨some 3, none, .mov (.c (.sl .full []))⟩]
abbrev c30_r3 : List Ins := [
  ⟨some 12, none, .faddr 0 (.t 1)⟩,
  ⟨some 13, none, .load 1 false (.t 12)⟩]
abbrev c30_r4 : List Ins := [
  ⟨some 24, none, .bin .eql (.t 13) (.c (.int .i64 1))⟩,
  ⟨some 23, none, .mov (.t 24)⟩]
abbrev c30_r5 : List Ins := [
  ⟨some 25, none, .mov (.t 3)⟩,
  ⟨some 26, none, .faddr 2 (.t 1)⟩,
  ⟨some 27, none, .load 1 false (.t 26)⟩,
  ⟨some 28, none, .call (.c (.fn 77 [] [])) [.t 27, .c (.int .i64 4)]⟩,
  ⟨some 29, none, .faddr 3 (.t 1)⟩,
  ⟨some 30, none, .load 1 false (.t 29)⟩,
  ⟨some 31, none, .len (.t 30)⟩,
  ⟨some 32, none, .call (.c (.fn 77 [] [])) [.t 31, .c (.int .i64 3)]⟩,
  ⟨some 33, none, .bsl 6 2 [.int .i64 0, .int .i64 0, .int .i64 0, .int .i64 0, .str ⟨#[]⟩, .sl .full []] [(0, .t 28), (1, .t 32)]⟩,
  ⟨some 34, none, .append 6 72 (.t 25) (.t 33)⟩,
  ⟨some 3, none, .mov (.t 34)⟩]
def c30_a5 : List (List Nat) := [[], [], [1], [2], [], [4], [5], [6, 3], [3, 7], [0, 8, 7], [9, 9, 0, 1, 2, 3, 4, 5, 6, 7, 8, 9]]
abbrev c30_m5 : List Am.Mark := [⟨false, 0, 0⟩, ⟨false, 0, 1⟩, ⟨false, 0, 1⟩, ⟨false, 0, 1⟩, ⟨false, 0, 1⟩, ⟨false, 0, 1⟩, ⟨false, 0, 1⟩, ⟨false, 0, 0⟩, ⟨false, 0, 0⟩, ⟨true, 0, 1⟩, ⟨false, 1, 1⟩]
theorem c30_d5 : drawFine c30_r5 c30_a5 c30_m5 = true := by decide +kernel
abbrev c30_r6 : List Ins := [
  ⟨some 4, none, .mov (.c (.int .i64 0))⟩]
abbrev c30_r7 : List Ins := [
  ⟨some 35, none, .mov (.t 4)⟩,
  ⟨some 36, none, .faddr 3 (.t 1)⟩,
  ⟨some 37, none, .load 1 false (.t 36)⟩,
  ⟨some 38, none, .len (.t 37)⟩,
  ⟨some 39, none, .bin .lss (.t 35) (.t 38)⟩]
abbrev c30_r8 : List Ins := [
  ⟨some 42, none, .mov (.t 3)⟩,
  ⟨some 43, none, .faddr 3 (.t 1)⟩,
  ⟨some 44, none, .load 1 false (.t 43)⟩,
  ⟨some 45, none, .mov (.t 4)⟩,
  ⟨some 46, none, .iaddr 1 (.t 44) (.t 45)⟩,
  ⟨some 47, none, .load 1 false (.t 46)⟩,
  ⟨some 48, none, .call (.c (.fn 77 [] [])) [.t 47, .c (.int .i64 99)]⟩,
  ⟨some 49, none, .bsl 6 1 [.int .i64 0, .int .i64 0, .int .i64 0, .int .i64 0, .str ⟨#[]⟩, .sl .full []] [(0, .t 48)]⟩,
  ⟨some 50, none, .append 6 72 (.t 42) (.t 49)⟩,
  ⟨some 3, none, .mov (.t 50)⟩]
abbrev c30_r9 : List Ins := [
  ⟨some 40, none, .mov (.t 4)⟩,
  ⟨some 41, none, .bin .add (.t 40) (.c (.int .i64 1))⟩,
  ⟨some 4, none, .mov (.t 41)⟩]
abbrev c30_l10 : IR := .seq (.seq (.reg c30_r7) (.cond (.t 39) (.skip) (.exit 1))) (.seq (.blk 2 (.reg c30_r8)) (.reg c30_r9))
abbrev c30_r11 : List Ins := [
  ⟨some 52, none, .bin .eql (.t 13) (.c (.int .i64 2))⟩,
  ⟨some 51, none, .mov (.t 52)⟩]
abbrev c30_r12 : List Ins := [
  ⟨some 53, none, .faddr 5 (.t 1)⟩,
  ⟨some 54, none, .load 6 true (.t 53)⟩,
  ⟨some 5, none, .alloc [.int .i64 0, .int .i64 0, .int .i64 0, .bool false, .sl .full [], .sl .full []]⟩,
  ⟨none, none, .store 6 (.t 5) (.t 54)⟩]
abbrev c30_r13 : List Ins := [
  ⟨some 55, none, .mov (.t 3)⟩,
  ⟨some 56, none, .faddr 0 (.t 5)⟩,
  ⟨some 57, none, .load 1 false (.t 56)⟩,
  ⟨some 58, none, .call (.c (.fn 77 [] [])) [.t 57, .c (.int .i64 12)]⟩,
  ⟨some 59, none, .faddr 1 (.t 5)⟩,
  ⟨some 60, none, .load 1 false (.t 59)⟩,
  ⟨some 61, none, .call (.c (.fn 77 [] [])) [.t 60, .c (.int .i64 4)]⟩,
  ⟨some 62, none, .faddr 2 (.t 5)⟩,
  ⟨some 63, none, .load 1 false (.t 62)⟩,
  ⟨some 64, none, .call (.c (.fn 77 [] [])) [.t 63, .c (.int .i64 4)]⟩,
  ⟨some 65, none, .faddr 3 (.t 5)⟩,
  ⟨some 66, none, .load 1 false (.t 65)⟩,
  ⟨some 67, none, .call (.c (.fn 78 [] [])) [.t 66]⟩,
  ⟨some 68, none, .bsl 6 4 [.int .i64 0, .int .i64 0, .int .i64 0, .int .i64 0, .str ⟨#[]⟩, .sl .full []] [(0, .t 58), (1, .t 61), (2, .t 64), (3, .t 67)]⟩,
  ⟨some 69, none, .append 6 72 (.t 55) (.t 68)⟩,
  ⟨some 3, none, .mov (.t 69)⟩]
def c30_a13 : List (List Nat) := [[], [], [1], [2], [], [4], [5, 3], [], [7], [8, 6], [], [10], [11, 9], [3, 6, 9, 12], [0, 13, 12], [14, 14, 0, 1, 2, 3, 4, 5, 6, 7, 8, 9, 10, 11, 12, 13, 14]]
abbrev c30_m13 : List Am.Mark := [⟨false, 0, 0⟩, ⟨false, 0, 1⟩, ⟨false, 0, 1⟩, ⟨false, 0, 1⟩, ⟨false, 0, 1⟩, ⟨false, 0, 1⟩, ⟨false, 0, 1⟩, ⟨false, 0, 1⟩, ⟨false, 0, 1⟩, ⟨false, 0, 1⟩, ⟨false, 0, 1⟩, ⟨false, 0, 1⟩, ⟨false, 0, 0⟩, ⟨false, 0, 0⟩, ⟨true, 0, 1⟩, ⟨false, 1, 1⟩]
theorem c30_d13 : drawFine c30_r13 c30_a13 c30_m13 = true := by decide +kernel
abbrev c30_r14 : List Ins := [
  ⟨some 70, none, .faddr 4 (.t 5)⟩,
  ⟨some 71, none, .load 1 false (.t 70)⟩,
  ⟨some 72, none, .faddr 5 (.t 5)⟩,
  ⟨some 73, none, .load 1 false (.t 72)⟩,
  ⟨some 74, none, .bsl 1 2 [.sl .full []] [(0, .t 71), (1, .t 73)]⟩,
  ⟨some 6, none, .mov (.t 74)⟩]
abbrev c30_r15 : List Ins := [
  ⟨some 7, none, .mov (.c (.int .i64 0))⟩]
abbrev c30_r16 : List Ins := [
  ⟨some 75, none, .mov (.t 7)⟩,
  ⟨some 76, none, .bin .lss (.t 75) (.c (.int .i64 2))⟩]
abbrev c30_r17 : List Ins := [
  ⟨some 79, none, .mov (.t 3)⟩,
  ⟨some 80, none, .mov (.t 6)⟩,
  ⟨some 81, none, .mov (.t 7)⟩,
  ⟨some 82, none, .iaddr 1 (.t 80) (.t 81)⟩,
  ⟨some 83, none, .load 1 false (.t 82)⟩,
  ⟨some 84, none, .len (.t 83)⟩,
  ⟨some 85, none, .call (.c (.fn 77 [] [])) [.t 84, .c (.int .i64 8)]⟩,
  ⟨some 86, none, .bsl 6 1 [.int .i64 0, .int .i64 0, .int .i64 0, .int .i64 0, .str ⟨#[]⟩, .sl .full []] [(0, .t 85)]⟩,
  ⟨some 87, none, .append 6 72 (.t 79) (.t 86)⟩,
  ⟨some 3, none, .mov (.t 87)⟩]
abbrev c30_r18 : List Ins := [
  ⟨some 8, none, .mov (.c (.int .i64 0))⟩]
abbrev c30_r19 : List Ins := [
  ⟨some 88, none, .mov (.t 8)⟩,
  ⟨some 89, none, .mov (.t 6)⟩,
  ⟨some 90, none, .mov (.t 7)⟩,
  ⟨some 91, none, .iaddr 1 (.t 89) (.t 90)⟩,
  ⟨some 92, none, .load 1 false (.t 91)⟩,
  ⟨some 93, none, .len (.t 92)⟩,
  ⟨some 94, none, .bin .lss (.t 88) (.t 93)⟩]
abbrev c30_r20 : List Ins := [
  ⟨some 97, none, .mov (.t 3)⟩,
  ⟨some 98, none, .mov (.t 6)⟩,
  ⟨some 99, none, .mov (.t 7)⟩,
  ⟨some 100, none, .iaddr 1 (.t 98) (.t 99)⟩,
  ⟨some 101, none, .load 1 false (.t 100)⟩,
  ⟨some 102, none, .mov (.t 8)⟩,
  ⟨some 103, none, .iaddr 2 (.t 101) (.t 102)⟩,
  ⟨some 104, none, .faddr 0 (.t 103)⟩,
  ⟨some 105, none, .load 1 false (.t 104)⟩,
  ⟨some 106, none, .call (.c (.fn 77 [] [])) [.t 105, .c (.int .i64 999)]⟩,
  ⟨some 107, none, .mov (.t 6)⟩,
  ⟨some 108, none, .mov (.t 7)⟩,
  ⟨some 109, none, .iaddr 1 (.t 107) (.t 108)⟩,
  ⟨some 110, none, .load 1 false (.t 109)⟩,
  ⟨some 111, none, .mov (.t 8)⟩,
  ⟨some 112, none, .iaddr 2 (.t 110) (.t 111)⟩,
  ⟨some 113, none, .faddr 1 (.t 112)⟩,
  ⟨some 114, none, .load 1 false (.t 113)⟩,
  ⟨some 115, none, .call (.c (.fn 77 [] [])) [.t 114, .c (.int .i64 999)]⟩,
  ⟨some 116, none, .bsl 6 2 [.int .i64 0, .int .i64 0, .int .i64 0, .int .i64 0, .str ⟨#[]⟩, .sl .full []] [(0, .t 106), (1, .t 115)]⟩,
  ⟨some 117, none, .append 6 72 (.t 97) (.t 116)⟩,
  ⟨some 3, none, .mov (.t 117)⟩]
def c30_a20 : List (List Nat) := [[], [], [], [1, 2], [3], [], [4, 5], [6], [7], [8], [], [], [10, 11], [12], [], [13, 14], [15], [16], [17, 9], [9, 18], [0, 19, 18], [20, 20, 0, 1, 2, 3, 4, 5, 6, 7, 8, 9, 10, 11, 12, 13, 14, 15, 16, 17, 18, 19, 20]]
abbrev c30_m20 : List Am.Mark := [⟨false, 0, 0⟩, ⟨false, 0, 1⟩, ⟨false, 0, 1⟩, ⟨false, 0, 1⟩, ⟨false, 0, 1⟩, ⟨false, 0, 1⟩, ⟨false, 0, 1⟩, ⟨false, 0, 1⟩, ⟨false, 0, 1⟩, ⟨false, 0, 1⟩, ⟨false, 0, 1⟩, ⟨false, 0, 1⟩, ⟨false, 0, 1⟩, ⟨false, 0, 1⟩, ⟨false, 0, 1⟩, ⟨false, 0, 1⟩, ⟨false, 0, 1⟩, ⟨false, 0, 1⟩, ⟨false, 0, 0⟩, ⟨false, 0, 0⟩, ⟨true, 0, 1⟩, ⟨false, 1, 1⟩]
theorem c30_d20 : drawFine c30_r20 c30_a20 c30_m20 = true := by decide +kernel
abbrev c30_r21 : List Ins := [
  ⟨some 95, none, .mov (.t 8)⟩,
  ⟨some 96, none, .bin .add (.t 95) (.c (.int .i64 1))⟩,
  ⟨some 8, none, .mov (.t 96)⟩]
abbrev c30_l22 : IR := .seq (.seq (.reg c30_r19) (.cond (.t 94) (.skip) (.exit 5))) (.seq (.blk 6 (.dreg c30_r20 c30_a20)) (.reg c30_r21))
abbrev c30_r23 : List Ins := [
  ⟨some 77, none, .mov (.t 7)⟩,
  ⟨some 78, none, .bin .add (.t 77) (.c (.int .i64 1))⟩,
  ⟨some 7, none, .mov (.t 78)⟩]
abbrev c30_l24 : IR := .seq (.seq (.reg c30_r16) (.cond (.t 76) (.skip) (.exit 3))) (.seq (.blk 4 (.seq (.reg c30_r17) (.seq (.reg c30_r18) (.blk 5 (.loop c30_l22))))) (.reg c30_r23))
abbrev c30_r25 : List Ins := [
  ⟨some 9, none, .mov (.c (.int .i64 0))⟩]
abbrev c30_r26 : List Ins := [
  ⟨some 118, none, .mov (.t 9)⟩,
  ⟨some 119, none, .bin .lss (.t 118) (.c (.int .i64 4))⟩]
abbrev c30_r27 : List Ins := [
  ⟨some 122, none, .mov (.t 3)⟩,
  ⟨some 123, none, .mov (.t 9)⟩,
  ⟨some 124, none, .faddr 11 (.t 1)⟩,
  ⟨some 125, none, .iaddrA 4 1 (.t 124) (.t 123)⟩,
  ⟨some 126, none, .load 1 false (.t 125)⟩,
  ⟨some 127, none, .build [.int .i64 0, .int .i64 0, .int .i64 0, .int .i64 0, .str ⟨#[]⟩, .sl .full []] [(0, (1, .c (.int .i64 1))), (3, (1, .t 126))]⟩,
  ⟨some 128, none, .bsl 6 1 [.int .i64 0, .int .i64 0, .int .i64 0, .int .i64 0, .str ⟨#[]⟩, .sl .full []] [(0, .t 127)]⟩,
  ⟨some 129, none, .append 6 72 (.t 122) (.t 128)⟩,
  ⟨some 3, none, .mov (.t 129)⟩]
abbrev c30_r28 : List Ins := [
  ⟨some 120, none, .mov (.t 9)⟩,
  ⟨some 121, none, .bin .add (.t 120) (.c (.int .i64 1))⟩,
  ⟨some 9, none, .mov (.t 121)⟩]
abbrev c30_l29 : IR := .seq (.seq (.reg c30_r26) (.cond (.t 119) (.skip) (.exit 7))) (.seq (.blk 8 (.reg c30_r27)) (.reg c30_r28))
abbrev c30_r30 : List Ins := [
  ⟨some 130, none, .mov (.t 3)⟩,
  ⟨some 131, none, .faddr 15 (.t 1)⟩,
  ⟨some 132, none, .load 1 false (.t 131)⟩,
  ⟨some 133, none, .len (.t 132)⟩,
  ⟨some 134, none, .call (.c (.fn 77 [] [])) [.t 133, .c (.int .i64 8)]⟩,
  ⟨some 135, none, .bsl 6 1 [.int .i64 0, .int .i64 0, .int .i64 0, .int .i64 0, .str ⟨#[]⟩, .sl .full []] [(0, .t 134)]⟩,
  ⟨some 136, none, .append 6 72 (.t 130) (.t 135)⟩,
  ⟨some 3, none, .mov (.t 136)⟩]
abbrev c30_r31 : List Ins := [
  ⟨some 10, none, .mov (.c (.int .i64 0))⟩]
abbrev c30_r32 : List Ins := [
  ⟨some 137, none, .mov (.t 10)⟩,
  ⟨some 138, none, .faddr 15 (.t 1)⟩,
  ⟨some 139, none, .load 1 false (.t 138)⟩,
  ⟨some 140, none, .len (.t 139)⟩,
  ⟨some 141, none, .bin .lss (.t 137) (.t 140)⟩]
abbrev c30_r33 : List Ins := [
  ⟨some 144, none, .faddr 15 (.t 1)⟩,
  ⟨some 145, none, .load 1 false (.t 144)⟩,
  ⟨some 146, none, .mov (.t 10)⟩,
  ⟨some 147, none, .iaddr 3 (.t 145) (.t 146)⟩,
  ⟨some 148, none, .load 3 true (.t 147)⟩,
  ⟨some 11, none, .alloc [.int .i64 0, .bool false, .int .i64 0]⟩,
  ⟨none, none, .store 3 (.t 11) (.t 148)⟩]
abbrev c30_r34 : List Ins := [
  ⟨some 149, none, .mov (.t 3)⟩,
  ⟨some 150, none, .faddr 0 (.t 11)⟩,
  ⟨some 151, none, .load 1 false (.t 150)⟩,
  ⟨some 152, none, .call (.c (.fn 77 [] [])) [.t 151, .c (.int .i64 999)]⟩,
  ⟨some 153, none, .faddr 1 (.t 11)⟩,
  ⟨some 154, none, .load 1 false (.t 153)⟩,
  ⟨some 155, none, .call (.c (.fn 78 [] [])) [.t 154]⟩,
  ⟨some 156, none, .faddr 2 (.t 11)⟩,
  ⟨some 157, none, .load 1 false (.t 156)⟩,
  ⟨some 158, none, .build [.int .i64 0, .int .i64 0, .int .i64 0, .int .i64 0, .str ⟨#[]⟩, .sl .full []] [(0, (1, .c (.int .i64 1))), (3, (1, .t 157))]⟩,
  ⟨some 159, none, .bsl 6 3 [.int .i64 0, .int .i64 0, .int .i64 0, .int .i64 0, .str ⟨#[]⟩, .sl .full []] [(0, .t 152), (1, .t 155), (2, .t 158)]⟩,
  ⟨some 160, none, .append 6 72 (.t 149) (.t 159)⟩,
  ⟨some 3, none, .mov (.t 160)⟩]
def c30_a34 : List (List Nat) := [[], [], [1], [2], [], [4], [5, 3], [], [7], [8], [3, 6, 9], [0, 10, 6], [11, 11, 0, 1, 2, 3, 4, 5, 6, 7, 8, 9, 10, 11]]
abbrev c30_m34 : List Am.Mark := [⟨false, 0, 0⟩, ⟨false, 0, 1⟩, ⟨false, 0, 1⟩, ⟨false, 0, 1⟩, ⟨false, 0, 1⟩, ⟨false, 0, 1⟩, ⟨false, 0, 0⟩, ⟨false, 0, 1⟩, ⟨false, 0, 1⟩, ⟨false, 0, 1⟩, ⟨false, 0, 0⟩, ⟨true, 0, 1⟩, ⟨false, 1, 1⟩]
theorem c30_d34 : drawFine c30_r34 c30_a34 c30_m34 = true := by decide +kernel
abbrev c30_r35 : List Ins := [
  ⟨some 142, none, .mov (.t 10)⟩,
  ⟨some 143, none, .bin .add (.t 142) (.c (.int .i64 1))⟩,
  ⟨some 10, none, .mov (.t 143)⟩]
abbrev c30_l36 : IR := .seq (.seq (.reg c30_r32) (.cond (.t 141) (.skip) (.exit 9))) (.seq (.blk 10 (.seq (.reg c30_r33) (.dreg c30_r34 c30_a34))) (.reg c30_r35))
abbrev c30_r37 : List Ins := [
  ⟨some 14, none, .mov (.t 3)⟩,
  ⟨some 15, none, .faddr 1 (.t 1)⟩,
  ⟨some 16, none, .load 1 false (.t 15)⟩,
  ⟨some 17, none, .call (.c (.fn 77 [] [])) [.t 16, .c (.int .i64 12)]⟩,
  ⟨some 18, none, .faddr 4 (.t 1)⟩,
  ⟨some 19, none, .load 1 false (.t 18)⟩,
  ⟨some 20, none, .call (.c (.fn 77 [] [])) [.t 19, .c (.int .i64 15)]⟩,
  ⟨some 21, none, .bsl 6 2 [.int .i64 0, .int .i64 0, .int .i64 0, .int .i64 0, .str ⟨#[]⟩, .sl .full []] [(0, .t 17), (1, .t 20)]⟩,
  ⟨some 22, none, .append 6 72 (.t 14) (.t 21)⟩,
  ⟨some 3, none, .mov (.t 22)⟩]
def c30_a37 : List (List Nat) := [[], [], [1], [2], [], [4], [5, 3], [3, 6], [0, 7, 6], [8, 8, 0, 1, 2, 3, 4, 5, 6, 7, 8]]
abbrev c30_m37 : List Am.Mark := [⟨false, 0, 0⟩, ⟨false, 0, 1⟩, ⟨false, 0, 1⟩, ⟨false, 0, 1⟩, ⟨false, 0, 1⟩, ⟨false, 0, 1⟩, ⟨false, 0, 0⟩, ⟨false, 0, 0⟩, ⟨true, 0, 1⟩, ⟨false, 1, 1⟩]
theorem c30_d37 : drawFine c30_r37 c30_a37 c30_m37 = true := by decide +kernel
abbrev c30_r38 : List Ins := [
  ⟨some 161, none, .faddr 0 (.t 1)⟩,
  ⟨some 162, none, .load 1 false (.t 161)⟩,
  ⟨some 163, none, .mov (.t 3)⟩,
  ⟨some 164, none, .call (.c (.fn 79 [] [])) [.t 163]⟩,
  ⟨some 165, none, .build [.int .i64 0, .sl .full []] [(0, (1, .t 162)), (1, (1, .t 164))]⟩,
  ⟨none, none, .store 2 (.t 2) (.t 165)⟩]
def c30_a38 : List (List Nat) := [[], [0], [], [2], [1, 3], [4, 3, 0, 1, 2, 3, 4]]
abbrev c30_m38 : List Am.Mark := [⟨false, 0, 0⟩, ⟨false, 0, 0⟩, ⟨false, 0, 0⟩, ⟨false, 0, 0⟩, ⟨false, 0, 0⟩, ⟨true, 0, 1⟩]
theorem c30_d38 : drawFine c30_r38 c30_a38 c30_m38 = true := by decide +kernel
abbrev c30 : IR := .seq (.reg c30_r1) (.seq (.reg c30_r2) (.seq (.seq (.reg c30_r3) (.blk 0 (.seq (.reg c30_r4) (.cond (.t 23) (.seq (.dreg c30_r5 c30_a5) (.seq (.reg c30_r6) (.blk 1 (.loop c30_l10)))) (.seq (.reg c30_r11) (.cond (.t 51) (.seq (.reg c30_r12) (.seq (.dreg c30_r13 c30_a13) (.seq (.reg c30_r14) (.seq (.seq (.reg c30_r15) (.blk 3 (.loop c30_l24))) (.seq (.seq (.reg c30_r25) (.blk 7 (.loop c30_l29))) (.seq (.reg c30_r30) (.seq (.reg c30_r31) (.blk 9 (.loop c30_l36))))))))) (.dreg c30_r37 c30_a37))))))) (.seq (.dreg c30_r38 c30_a38) (.ret))))
abbrev F30 : FnA := ⟨166, c30, [.cell 2 2 true]⟩
theorem ok30 : cFn Try.prog 30 = some F30 := by kernel_rfl
theorem hb30 : HasBody Try.prog 30 := ⟨_, Try.func30, by kernel_rfl, by kernel_rfl⟩
/-! recs.May -/
abbrev c31_r1 : List Ins := [
  ⟨some 1, none, .box (.t 0)⟩,
  ⟨some 2, none, .mov (.c (.bool false))⟩]
abbrev c31_r2 : List Ins := [
  ⟨some 6, none, .faddr 5 (.t 1)⟩,
  ⟨some 7, none, .load 6 true (.t 6)⟩,
  ⟨some 8, none, .call (.c (.fn 80 [] [])) [.t 7]⟩,
  ⟨some 9, none, .mov (.t 8)⟩,
  ⟨some 10, some (9, true), .faddr 15 (.t 1)⟩,
  ⟨some 11, some (9, true), .load 1 false (.t 10)⟩,
  ⟨some 12, some (9, true), .len (.t 11)⟩,
  ⟨some 13, some (9, true), .bin .eql (.t 12) (.c (.int .i64 0))⟩,
  ⟨some 14, none, .pick (.t 9) (.t 13) (.c (.bool false))⟩,
  ⟨some 15, none, .mov (.t 14)⟩,
  ⟨some 16, some (15, true), .faddr 11 (.t 1)⟩,
  ⟨some 17, some (15, true), .load 4 true (.t 16)⟩,
  ⟨some 18, some (15, true), .build [.int .i64 0, .int .i64 0, .int .i64 0, .int .i64 0] []⟩,
  ⟨some 19, some (15, true), .eq [.i, .i, .i, .i] true false (.t 17) (.t 18)⟩,
  ⟨some 20, none, .pick (.t 15) (.t 19) (.c (.bool false))⟩,
  ⟨some 3, none, .mov (.t 20)⟩]
abbrev c31_r3 : List Ins := [
  ⟨some 4, none, .mov (.c (.fn 81 [] []))⟩]
abbrev c31_r4 : List Ins := [
  ⟨some 21, none, .faddr 0 (.t 1)⟩,
  ⟨some 22, none, .load 1 false (.t 21)⟩]
abbrev c31_r5 : List Ins := [
  ⟨some 24, none, .bin .eql (.t 22) (.c (.int .i64 1))⟩,
  ⟨some 23, none, .mov (.t 24)⟩]
abbrev c31_r6 : List Ins := [
  ⟨some 25, none, .mov (.t 3)⟩,
  ⟨some 26, none, .mov (.t 25)⟩,
  ⟨some 27, some (26, true), .faddr 1 (.t 1)⟩,
  ⟨some 28, some (26, true), .load 1 false (.t 27)⟩,
  ⟨some 29, some (26, true), .bin .eql (.t 28) (.c (.int .i64 0))⟩,
  ⟨some 30, none, .pick (.t 26) (.t 29) (.c (.bool false))⟩,
  ⟨some 31, none, .mov (.t 30)⟩,
  ⟨some 32, some (31, true), .faddr 4 (.t 1)⟩,
  ⟨some 33, some (31, true), .load 1 false (.t 32)⟩,
  ⟨some 34, some (31, true), .bin .eql (.t 33) (.c (.int .i64 0))⟩,
  ⟨some 35, none, .pick (.t 31) (.t 34) (.c (.bool false))⟩,
  ⟨some 36, none, .mov (.t 35)⟩,
  ⟨some 37, some (36, true), .faddr 2 (.t 1)⟩,
  ⟨some 38, some (36, true), .load 1 false (.t 37)⟩,
  ⟨some 39, some (36, true), .call (.c (.fn 82 [] [])) [.t 38, .c (.int .i64 4)]⟩,
  ⟨some 40, none, .pick (.t 36) (.t 39) (.c (.bool false))⟩,
  ⟨some 41, none, .mov (.t 40)⟩,
  ⟨some 42, some (41, true), .faddr 3 (.t 1)⟩,
  ⟨some 43, some (41, true), .load 1 false (.t 42)⟩,
  ⟨some 44, some (41, true), .len (.t 43)⟩,
  ⟨some 45, some (41, true), .bin .leq (.t 44) (.c (.int .i64 3))⟩,
  ⟨some 46, none, .pick (.t 41) (.t 45) (.c (.bool false))⟩,
  ⟨some 47, none, .mov (.t 46)⟩,
  ⟨some 48, some (47, true), .faddr 3 (.t 1)⟩,
  ⟨some 49, some (47, true), .load 1 false (.t 48)⟩,
  ⟨some 50, some (47, true), .mov (.t 4)⟩,
  ⟨some 51, some (47, true), .call (.c (.fn 83 [] [])) [.t 49, .t 50]⟩,
  ⟨some 52, some (47, true), .un .not (.t 51)⟩,
  ⟨some 53, none, .pick (.t 47) (.t 52) (.c (.bool false))⟩,
  ⟨some 2, none, .mov (.t 53)⟩]
abbrev c31_r7 : List Ins := [
  ⟨some 55, none, .bin .eql (.t 22) (.c (.int .i64 2))⟩,
  ⟨some 54, none, .mov (.t 55)⟩]
abbrev c31_r8 : List Ins := [
  ⟨some 56, none, .faddr 5 (.t 1)⟩,
  ⟨some 57, none, .load 6 true (.t 56)⟩,
  ⟨some 5, none, .alloc [.int .i64 0, .int .i64 0, .int .i64 0, .bool false, .sl .full [], .sl .full []]⟩,
  ⟨none, none, .store 6 (.t 5) (.t 57)⟩]
abbrev c31_r9 : List Ins := [
  ⟨some 58, none, .faddr 1 (.t 1)⟩,
  ⟨some 59, none, .load 1 false (.t 58)⟩,
  ⟨some 60, none, .bin .eql (.t 59) (.c (.int .i64 0))⟩,
  ⟨some 61, none, .mov (.t 60)⟩,
  ⟨some 62, some (61, true), .faddr 4 (.t 1)⟩,
  ⟨some 63, some (61, true), .load 1 false (.t 62)⟩,
  ⟨some 64, some (61, true), .bin .eql (.t 63) (.c (.int .i64 0))⟩,
  ⟨some 65, none, .pick (.t 61) (.t 64) (.c (.bool false))⟩,
  ⟨some 66, none, .mov (.t 65)⟩,
  ⟨some 67, some (66, true), .faddr 2 (.t 1)⟩,
  ⟨some 68, some (66, true), .load 1 false (.t 67)⟩,
  ⟨some 69, some (66, true), .bin .eql (.t 68) (.c (.int .i64 0))⟩,
  ⟨some 70, none, .pick (.t 66) (.t 69) (.c (.bool false))⟩,
  ⟨some 71, none, .mov (.t 70)⟩,
  ⟨some 72, some (71, true), .faddr 3 (.t 1)⟩,
  ⟨some 73, some (71, true), .load 1 false (.t 72)⟩,
  ⟨some 74, some (71, true), .len (.t 73)⟩,
  ⟨some 75, some (71, true), .bin .eql (.t 74) (.c (.int .i64 0))⟩,
  ⟨some 76, none, .pick (.t 71) (.t 75) (.c (.bool false))⟩,
  ⟨some 77, none, .mov (.t 76)⟩,
  ⟨some 78, some (77, true), .faddr 0 (.t 5)⟩,
  ⟨some 79, some (77, true), .load 1 false (.t 78)⟩,
  ⟨some 80, some (77, true), .call (.c (.fn 82 [] [])) [.t 79, .c (.int .i64 12)]⟩,
  ⟨some 81, none, .pick (.t 77) (.t 80) (.c (.bool false))⟩,
  ⟨some 82, none, .mov (.t 81)⟩,
  ⟨some 83, some (82, true), .faddr 1 (.t 5)⟩,
  ⟨some 84, some (82, true), .load 1 false (.t 83)⟩,
  ⟨some 85, some (82, true), .call (.c (.fn 82 [] [])) [.t 84, .c (.int .i64 4)]⟩,
  ⟨some 86, none, .pick (.t 82) (.t 85) (.c (.bool false))⟩,
  ⟨some 87, none, .mov (.t 86)⟩,
  ⟨some 88, some (87, true), .faddr 2 (.t 5)⟩,
  ⟨some 89, some (87, true), .load 1 false (.t 88)⟩,
  ⟨some 90, some (87, true), .call (.c (.fn 82 [] [])) [.t 89, .c (.int .i64 4)]⟩,
  ⟨some 91, none, .pick (.t 87) (.t 90) (.c (.bool false))⟩,
  ⟨some 92, none, .mov (.t 91)⟩,
  ⟨some 93, some (92, true), .faddr 4 (.t 5)⟩,
  ⟨some 94, some (92, true), .load 1 false (.t 93)⟩,
  ⟨some 95, some (92, true), .call (.c (.fn 84 [] [])) [.t 94]⟩,
  ⟨some 96, none, .pick (.t 92) (.t 95) (.c (.bool false))⟩,
  ⟨some 97, none, .mov (.t 96)⟩,
  ⟨some 98, some (97, true), .faddr 5 (.t 5)⟩,
  ⟨some 99, some (97, true), .load 1 false (.t 98)⟩,
  ⟨some 100, some (97, true), .call (.c (.fn 84 [] [])) [.t 99]⟩,
  ⟨some 101, none, .pick (.t 97) (.t 100) (.c (.bool false))⟩,
  ⟨some 102, none, .mov (.t 101)⟩,
  ⟨some 103, some (102, true), .faddr 15 (.t 1)⟩,
  ⟨some 104, some (102, true), .load 1 false (.t 103)⟩,
  ⟨some 105, some (102, true), .faddr 5 (.t 5)⟩,
  ⟨some 106, some (102, true), .load 1 false (.t 105)⟩,
  ⟨some 107, some (102, true), .call (.c (.fn 85 [] [])) [.t 104, .t 106]⟩,
  ⟨some 108, none, .pick (.t 102) (.t 107) (.c (.bool false))⟩,
  ⟨some 2, none, .mov (.t 108)⟩]
abbrev c31_r10 : List Ins := [
  ⟨some 110, none, .bin .eql (.t 22) (.c (.int .i64 3))⟩,
  ⟨some 109, none, .mov (.t 110)⟩]
abbrev c31_r11 : List Ins := [
  ⟨some 111, none, .mov (.t 3)⟩,
  ⟨some 112, none, .mov (.t 111)⟩,
  ⟨some 113, some (112, true), .faddr 2 (.t 1)⟩,
  ⟨some 114, some (112, true), .load 1 false (.t 113)⟩,
  ⟨some 115, some (112, true), .bin .eql (.t 114) (.c (.int .i64 0))⟩,
  ⟨some 116, none, .pick (.t 112) (.t 115) (.c (.bool false))⟩,
  ⟨some 117, none, .mov (.t 116)⟩,
  ⟨some 118, some (117, true), .faddr 3 (.t 1)⟩,
  ⟨some 119, some (117, true), .load 1 false (.t 118)⟩,
  ⟨some 120, some (117, true), .len (.t 119)⟩,
  ⟨some 121, some (117, true), .bin .eql (.t 120) (.c (.int .i64 0))⟩,
  ⟨some 122, none, .pick (.t 117) (.t 121) (.c (.bool false))⟩,
  ⟨some 123, none, .mov (.t 122)⟩,
  ⟨some 124, some (123, true), .faddr 1 (.t 1)⟩,
  ⟨some 125, some (123, true), .load 1 false (.t 124)⟩,
  ⟨some 126, some (123, true), .call (.c (.fn 82 [] [])) [.t 125, .c (.int .i64 12)]⟩,
  ⟨some 127, none, .pick (.t 123) (.t 126) (.c (.bool false))⟩,
  ⟨some 128, none, .mov (.t 127)⟩,
  ⟨some 129, some (128, true), .faddr 4 (.t 1)⟩,
  ⟨some 130, some (128, true), .load 1 false (.t 129)⟩,
  ⟨some 131, some (128, true), .bin .geq (.t 130) (.c (.int .i64 1))⟩,
  ⟨some 132, none, .pick (.t 128) (.t 131) (.c (.bool false))⟩,
  ⟨some 133, none, .mov (.t 132)⟩,
  ⟨some 134, some (133, true), .faddr 4 (.t 1)⟩,
  ⟨some 135, some (133, true), .load 1 false (.t 134)⟩,
  ⟨some 136, some (133, true), .bin .leq (.t 135) (.c (.int .i64 15))⟩,
  ⟨some 137, none, .pick (.t 133) (.t 136) (.c (.bool false))⟩,
  ⟨some 2, none, .mov (.t 137)⟩]
abbrev c31_r12 : List Ins := [
  ⟨some 2, none, .mov (.c (.bool false))⟩]
abbrev c31 : IR := .seq (.reg c31_r1) (.seq (.reg c31_r2) (.seq (.reg c31_r3) (.seq (.seq (.reg c31_r4) (.blk 0 (.seq (.reg c31_r5) (.cond (.t 23) (.seq (.reg c31_r6) (.ret)) (.seq (.reg c31_r7) (.cond (.t 54) (.seq (.reg c31_r8) (.seq (.reg c31_r9) (.ret))) (.seq (.reg c31_r10) (.cond (.t 109) (.seq (.reg c31_r11) (.ret)) (.skip))))))))) (.seq (.reg c31_r12) (.ret)))))
abbrev F31 : FnA := ⟨138, c31, [.t 2]⟩
theorem ok31 : cFn Try.prog 31 = some F31 := by kernel_rfl
theorem hb31 : HasBody Try.prog 31 := ⟨_, Try.func31, by kernel_rfl, by kernel_rfl⟩
/-! codes.Reader.Count -/
abbrev c35_r1 : List Ins := [
  ⟨some 3, none, .box (.t 1)⟩,
  ⟨some 4, none, .mov (.c (.int .i64 0))⟩]
abbrev c35_r2 : List Ins := [
  ⟨some 5, none, .mov (.t 0)⟩,
  ⟨some 6, none, .mkfn 92 [] [.t 3]⟩,
  ⟨some 7, none, .call (.c (.fn 91 [] [])) [.t 5, .t 6]⟩,
  ⟨some 8, none, .conv .i64 (.t 7)⟩,
  ⟨some 4, none, .mov (.t 8)⟩]
abbrev c35 : IR := .seq (.reg c35_r1) (.seq (.reg c35_r2) (.ret))
abbrev F35 : FnA := ⟨9, c35, [.t 4]⟩
theorem ok35 : cFn Try.prog 35 = some F35 := by kernel_rfl
theorem hb35 : HasBody Try.prog 35 := ⟨_, Try.func35, by kernel_rfl, by kernel_rfl⟩
/-! codes.Reader.Flag -/
abbrev c37_r1 : List Ins := [
  ⟨some 2, none, .mov (.c (.bool false))⟩]
abbrev c37_r2 : List Ins := [
  ⟨some 3, none, .mov (.t 0)⟩,
  ⟨some 4, none, .call (.c (.fn 35 [] [])) [.t 3, .c (.int .i64 1)]⟩,
  ⟨some 5, none, .bin .eql (.t 4) (.c (.int .i64 1))⟩,
  ⟨some 2, none, .mov (.t 5)⟩]
abbrev c37 : IR := .seq (.reg c37_r1) (.seq (.reg c37_r2) (.ret))
abbrev F37 : FnA := ⟨6, c37, [.t 2]⟩
theorem ok37 : cFn Try.prog 37 = some F37 := by kernel_rfl
theorem hb37 : HasBody Try.prog 37 := ⟨_, Try.func37, by kernel_rfl, by kernel_rfl⟩
/-! ref04.Same -/
abbrev c45_r1 : List Ins := [
  ⟨some 4, none, .mov (.c (.bool false))⟩]
abbrev c45_r2 : List Ins := [
  ⟨some 6, none, .mov (.t 0)⟩,
  ⟨some 7, none, .len (.t 6)⟩,
  ⟨some 8, none, .mov (.t 1)⟩,
  ⟨some 9, none, .len (.t 8)⟩,
  ⟨some 10, none, .bin .neq (.t 7) (.t 9)⟩]
abbrev c45_r3 : List Ins := [
  ⟨some 4, none, .mov (.c (.bool false))⟩]
abbrev c45_r4 : List Ins := [
  ⟨some 5, none, .mov (.c (.int .i64 0))⟩]
abbrev c45_r5 : List Ins := [
  ⟨some 11, none, .mov (.t 5)⟩,
  ⟨some 12, none, .mov (.t 0)⟩,
  ⟨some 13, none, .len (.t 12)⟩,
  ⟨some 14, none, .bin .lss (.t 11) (.t 13)⟩]
abbrev c45_r6 : List Ins := [
  ⟨some 17, none, .mov (.t 0)⟩,
  ⟨some 18, none, .mov (.t 5)⟩,
  ⟨some 19, none, .iaddr 2 (.t 17) (.t 18)⟩,
  ⟨some 20, none, .load 2 true (.t 19)⟩,
  ⟨some 21, none, .mov (.t 1)⟩,
  ⟨some 22, none, .mov (.t 5)⟩,
  ⟨some 23, none, .iaddr 2 (.t 21) (.t 22)⟩,
  ⟨some 24, none, .load 2 true (.t 23)⟩,
  ⟨some 25, none, .eq [.i, .i] true true (.t 20) (.t 24)⟩]
def c45_a6 : List (List Nat) := [[], [], [0, 1], [2], [], [], [4, 5], [6], [3, 7]]
abbrev c45_m6 : List Am.Mark := [⟨false, 0, 0⟩, ⟨false, 0, 0⟩, ⟨false, 0, 0⟩, ⟨false, 0, 0⟩, ⟨false, 0, 0⟩, ⟨false, 0, 0⟩, ⟨false, 0, 0⟩, ⟨false, 0, 0⟩, ⟨false, 0, 0⟩]
theorem c45_d6 : drawFine c45_r6 c45_a6 c45_m6 = true := by decide +kernel
abbrev c45_r7 : List Ins := [
  ⟨some 4, none, .mov (.c (.bool false))⟩]
abbrev c45_r8 : List Ins := [
  ⟨some 15, none, .mov (.t 5)⟩,
  ⟨some 16, none, .bin .add (.t 15) (.c (.int .i64 1))⟩,
  ⟨some 5, none, .mov (.t 16)⟩]
abbrev c45_l9 : IR := .seq (.seq (.reg c45_r5) (.cond (.t 14) (.skip) (.exit 0))) (.seq (.blk 1 (.seq (.dreg c45_r6 c45_a6) (.cond (.t 25) (.seq (.reg c45_r7) (.ret)) (.skip)))) (.reg c45_r8))
abbrev c45_r10 : List Ins := [
  ⟨some 4, none, .mov (.c (.bool true))⟩]
abbrev c45 : IR := .seq (.reg c45_r1) (.seq (.seq (.reg c45_r2) (.cond (.t 10) (.seq (.reg c45_r3) (.ret)) (.skip))) (.seq (.seq (.reg c45_r4) (.blk 0 (.loop c45_l9))) (.seq (.reg c45_r10) (.ret))))
abbrev F45 : FnA := ⟨26, c45, [.t 4]⟩
theorem ok45 : cFn Try.prog 45 = some F45 := by kernel_rfl
theorem hb45 : HasBody Try.prog 45 := ⟨_, Try.func45, by kernel_rfl, by kernel_rfl⟩
/-! ref04.Plain -/
abbrev c60_r1 : List Ins := [
  ⟨some 2, none, .mov (.c (.sl .full []))⟩]
abbrev c60_r2 : List Ins := [
  ⟨some 3, none, .mov (.c (.sl .full []))⟩]
abbrev c60_r3 : List Ins := [
  ⟨some 4, none, .mov (.c (.int .i64 0))⟩]
abbrev c60_r4 : List Ins := [
  ⟨some 5, none, .mov (.t 4)⟩,
  ⟨some 6, none, .bin .lss (.t 5) (.c (.int .i64 1000))⟩]
abbrev c60_r5 : List Ins := [
  ⟨some 9, none, .mov (.t 0)⟩,
  ⟨some 10, none, .mov (.t 4)⟩,
  ⟨some 11, none, .nilck (.t 9)⟩,
  ⟨some 12, none, .iaddrA 1000 1 (.t 11) (.t 10)⟩,
  ⟨some 13, none, .load 1 false (.t 12)⟩,
  ⟨some 14, none, .un .not (.t 13)⟩]
abbrev c60_r6 : List Ins := [
  ⟨some 15, none, .mov (.t 4)⟩,
  ⟨some 16, none, .bin .gtr (.t 15) (.c (.int .i64 0))⟩,
  ⟨some 17, none, .mov (.t 16)⟩,
  ⟨some 18, some (17, true), .mov (.t 0)⟩,
  ⟨some 19, some (17, true), .mov (.t 4)⟩,
  ⟨some 20, some (17, true), .bin .sub (.t 19) (.c (.int .i64 1))⟩,
  ⟨some 21, some (17, true), .nilck (.t 18)⟩,
  ⟨some 22, some (17, true), .iaddrA 1000 1 (.t 21) (.t 20)⟩,
  ⟨some 23, some (17, true), .load 1 false (.t 22)⟩,
  ⟨some 24, none, .pick (.t 17) (.t 23) (.c (.bool false))⟩]
abbrev c60_r7 : List Ins := [
  ⟨some 25, none, .mov (.t 3)⟩,
  ⟨some 26, none, .mov (.t 3)⟩,
  ⟨some 27, none, .len (.t 26)⟩,
  ⟨some 28, none, .bin .sub (.t 27) (.c (.int .i64 1))⟩,
  ⟨some 29, none, .mov (.t 4)⟩,
  ⟨some 30, none, .iaddr 2 (.t 25) (.t 28)⟩,
  ⟨some 31, none, .faddr 1 (.t 30)⟩,
  ⟨none, none, .store 1 (.t 31) (.t 29)⟩]
abbrev c60_r8 : List Ins := [
  ⟨some 32, none, .mov (.t 3)⟩,
  ⟨some 33, none, .mov (.t 4)⟩,
  ⟨some 34, none, .mov (.t 4)⟩,
  ⟨some 35, none, .build [.int .i64 0, .int .i64 0] [(0, (1, .t 33)), (1, (1, .t 34))]⟩,
  ⟨some 36, none, .bsl 2 1 [.int .i64 0, .int .i64 0] [(0, .t 35)]⟩,
  ⟨some 37, none, .append 2 16 (.t 32) (.t 36)⟩,
  ⟨some 3, none, .mov (.t 37)⟩]
abbrev c60_r9 : List Ins := [
  ⟨some 7, none, .mov (.t 4)⟩,
  ⟨some 8, none, .bin .add (.t 7) (.c (.int .i64 1))⟩,
  ⟨some 4, none, .mov (.t 8)⟩]
abbrev c60_l10 : IR := .seq (.seq (.reg c60_r4) (.cond (.t 6) (.skip) (.exit 0))) (.seq (.blk 1 (.seq (.seq (.reg c60_r5) (.cond (.t 14) (.exit 1) (.skip))) (.seq (.reg c60_r6) (.cond (.t 24) (.reg c60_r7) (.reg c60_r8))))) (.reg c60_r9))
abbrev c60_r11 : List Ins := [
  ⟨some 38, none, .mov (.t 3)⟩,
  ⟨some 2, none, .mov (.t 38)⟩]
abbrev c60 : IR := .seq (.reg c60_r1) (.seq (.reg c60_r2) (.seq (.seq (.reg c60_r3) (.blk 0 (.loop c60_l10))) (.seq (.reg c60_r11) (.ret))))
abbrev F60 : FnA := ⟨39, c60, [.t 2]⟩
theorem ok60 : cFn Try.prog 60 = some F60 := by kernel_rfl
theorem hb60 : HasBody Try.prog 60 := ⟨_, Try.func60, by kernel_rfl, by kernel_rfl⟩
/-! slices.Equal:int -/
abbrev c63_r1 : List Ins := [
  ⟨some 4, none, .mov (.c (.bool false))⟩]
abbrev c63_r2 : List Ins := [
  ⟨some 6, none, .mov (.t 0)⟩,
  ⟨some 7, none, .len (.t 6)⟩,
  ⟨some 8, none, .mov (.t 1)⟩,
  ⟨some 9, none, .len (.t 8)⟩,
  ⟨some 10, none, .bin .neq (.t 7) (.t 9)⟩]
abbrev c63_r3 : List Ins := [
  ⟨some 4, none, .mov (.c (.bool false))⟩]
abbrev c63_r4 : List Ins := [
  ⟨some 11, none, .mov (.t 0)⟩,
  ⟨some 12, none, .len (.t 11)⟩,
  ⟨some 13, none, .mov (.c (.int .i64 0))⟩]
abbrev c63_r5 : List Ins := [
  ⟨some 14, none, .bin .lss (.t 13) (.t 12)⟩]
abbrev c63_r6 : List Ins := [
  ⟨some 15, none, .mov (.t 13)⟩,
  ⟨some 5, none, .mov (.t 15)⟩]
abbrev c63_r7 : List Ins := [
  ⟨some 16, none, .mov (.t 0)⟩,
  ⟨some 17, none, .mov (.t 5)⟩,
  ⟨some 18, none, .iaddr 1 (.t 16) (.t 17)⟩,
  ⟨some 19, none, .load 1 false (.t 18)⟩,
  ⟨some 20, none, .mov (.t 1)⟩,
  ⟨some 21, none, .mov (.t 5)⟩,
  ⟨some 22, none, .iaddr 1 (.t 20) (.t 21)⟩,
  ⟨some 23, none, .load 1 false (.t 22)⟩,
  ⟨some 24, none, .bin .neq (.t 19) (.t 23)⟩]
def c63_a7 : List (List Nat) := [[], [], [0, 1], [2], [], [], [4, 5], [6], [3, 7]]
abbrev c63_m7 : List Am.Mark := [⟨false, 0, 0⟩, ⟨false, 0, 0⟩, ⟨false, 0, 0⟩, ⟨false, 0, 0⟩, ⟨false, 0, 0⟩, ⟨false, 0, 0⟩, ⟨false, 0, 0⟩, ⟨false, 0, 0⟩, ⟨false, 0, 0⟩]
theorem c63_d7 : drawFine c63_r7 c63_a7 c63_m7 = true := by decide +kernel
abbrev c63_r8 : List Ins := [
  ⟨some 4, none, .mov (.c (.bool false))⟩]
abbrev c63_r9 : List Ins := [
  ⟨some 25, none, .bin .add (.t 13) (.c (.int .i64 1))⟩,
  ⟨some 13, none, .mov (.t 25)⟩]
abbrev c63_l10 : IR := .seq (.reg c63_r5) (.seq (.cond (.t 14) (.skip) (.exit 0)) (.seq (.blk 1 (.seq (.reg c63_r6) (.seq (.dreg c63_r7 c63_a7) (.cond (.t 24) (.seq (.reg c63_r8) (.ret)) (.skip))))) (.reg c63_r9)))
abbrev c63_r11 : List Ins := [
  ⟨some 4, none, .mov (.c (.bool true))⟩]
abbrev c63 : IR := .seq (.reg c63_r1) (.seq (.seq (.reg c63_r2) (.cond (.t 10) (.seq (.reg c63_r3) (.ret)) (.skip))) (.seq (.seq (.reg c63_r4) (.blk 0 (.loop c63_l10))) (.seq (.reg c63_r11) (.ret))))
abbrev F63 : FnA := ⟨26, c63, [.t 4]⟩
theorem ok63 : cFn Try.prog 63 = some F63 := by kernel_rfl
theorem hb63 : HasBody Try.prog 63 := ⟨_, Try.func63, by kernel_rfl, by kernel_rfl⟩
/-! ref20.args -/
abbrev c66_r1 : List Ins := [
  ⟨some 2, none, .mov (.c (.bool false))⟩]
abbrev c66_r2 : List Ins := [
  ⟨some 3, none, .mov (.t 0)⟩,
  ⟨some 4, none, .call (.c (.fn 18 [] [])) [.t 3]⟩,
  ⟨some 2, none, .mov (.t 4)⟩]
abbrev c66 : IR := .seq (.reg c66_r1) (.seq (.reg c66_r2) (.ret))
abbrev F66 : FnA := ⟨5, c66, [.t 2]⟩
theorem ok66 : cFn Try.prog 66 = some F66 := by kernel_rfl
theorem hb66 : HasBody Try.prog 66 := ⟨_, Try.func66, by kernel_rfl, by kernel_rfl⟩
/-! ref20.plain -/
abbrev c67_r1 : List Ins := [
  ⟨some 2, none, .mov (.c (.bool false))⟩]
abbrev c67_r2 : List Ins := [
  ⟨some 3, none, .mov (.t 0)⟩,
  ⟨some 4, none, .len (.t 3)⟩,
  ⟨some 5, none, .bin .leq (.t 4) (.c (.int .i64 8))⟩,
  ⟨some 6, none, .mov (.t 5)⟩,
  ⟨some 7, some (6, true), .mov (.t 0)⟩,
  ⟨some 8, some (6, true), .mov (.t 0)⟩,
  ⟨some 9, some (6, true), .call (.c (.fn 68 [] [])) [.t 8]⟩,
  ⟨some 10, some (6, true), .call (.c (.fn 60 [] [])) [.t 9]⟩,
  ⟨some 11, some (6, true), .call (.c (.fn 45 [] [])) [.t 7, .t 10]⟩,
  ⟨some 12, none, .pick (.t 6) (.t 11) (.c (.bool false))⟩,
  ⟨some 2, none, .mov (.t 12)⟩]
abbrev c67 : IR := .seq (.reg c67_r1) (.seq (.reg c67_r2) (.ret))
abbrev F67 : FnA := ⟨13, c67, [.t 2]⟩
theorem ok67 : cFn Try.prog 67 = some F67 := by kernel_rfl
theorem hb67 : HasBody Try.prog 67 := ⟨_, Try.func67, by kernel_rfl, by kernel_rfl⟩
/-! ref04.Of -/
abbrev c68_r1 : List Ins := [
  ⟨some 2, none, .mov (.c .nilptr)⟩]
abbrev c68_r2 : List Ins := [
  ⟨some 3, none, .alloc (List.replicate 1000 (.bool false))⟩]
abbrev c68_r3 : List Ins := [
  ⟨some 4, none, .mov (.c (.int .i64 0))⟩]
abbrev c68_r4 : List Ins := [
  ⟨some 6, none, .mov (.t 4)⟩,
  ⟨some 7, none, .mov (.t 0)⟩,
  ⟨some 8, none, .len (.t 7)⟩,
  ⟨some 9, none, .bin .lss (.t 6) (.t 8)⟩]
abbrev c68_r5 : List Ins := [
  ⟨some 12, none, .mov (.t 0)⟩,
  ⟨some 13, none, .mov (.t 4)⟩,
  ⟨some 14, none, .iaddr 2 (.t 12) (.t 13)⟩,
  ⟨some 15, none, .faddr 0 (.t 14)⟩,
  ⟨some 16, none, .load 1 false (.t 15)⟩,
  ⟨some 17, none, .bin .lss (.t 16) (.c (.int .i64 0))⟩,
  ⟨some 18, none, .mov (.t 17)⟩,
  ⟨some 19, some (18, false), .mov (.t 0)⟩,
  ⟨some 20, some (18, false), .mov (.t 4)⟩,
  ⟨some 21, some (18, false), .iaddr 2 (.t 19) (.t 20)⟩,
  ⟨some 22, some (18, false), .faddr 1 (.t 21)⟩,
  ⟨some 23, some (18, false), .load 1 false (.t 22)⟩,
  ⟨some 24, some (18, false), .bin .gtr (.t 23) (.c (.int .i64 999))⟩,
  ⟨some 25, none, .pick (.t 18) (.c (.bool true)) (.t 24)⟩]
abbrev c68_r6 : List Ins := [
  ⟨some 26, none, .mov (.t 0)⟩,
  ⟨some 27, none, .mov (.t 4)⟩,
  ⟨some 28, none, .iaddr 2 (.t 26) (.t 27)⟩,
  ⟨some 29, none, .faddr 0 (.t 28)⟩,
  ⟨some 30, none, .load 1 false (.t 29)⟩,
  ⟨some 5, none, .mov (.t 30)⟩]
abbrev c68_r7 : List Ins := [
  ⟨some 31, none, .mov (.t 5)⟩,
  ⟨some 32, none, .mov (.t 0)⟩,
  ⟨some 33, none, .mov (.t 4)⟩,
  ⟨some 34, none, .iaddr 2 (.t 32) (.t 33)⟩,
  ⟨some 35, none, .faddr 1 (.t 34)⟩,
  ⟨some 36, none, .load 1 false (.t 35)⟩,
  ⟨some 37, none, .bin .leq (.t 31) (.t 36)⟩]
abbrev c68_r8 : List Ins := [
  ⟨some 40, none, .mov (.t 5)⟩,
  ⟨some 41, none, .iaddrA 1000 1 (.t 3) (.t 40)⟩,
  ⟨none, none, .store 1 (.t 41) (.c (.bool true))⟩]
abbrev c68_r9 : List Ins := [
  ⟨some 38, none, .mov (.t 5)⟩,
  ⟨some 39, none, .bin .add (.t 38) (.c (.int .i64 1))⟩,
  ⟨some 5, none, .mov (.t 39)⟩]
abbrev c68_l10 : IR := .seq (.seq (.reg c68_r7) (.cond (.t 37) (.skip) (.exit 2))) (.seq (.blk 3 (.reg c68_r8)) (.reg c68_r9))
abbrev c68_r11 : List Ins := [
  ⟨some 10, none, .mov (.t 4)⟩,
  ⟨some 11, none, .bin .add (.t 10) (.c (.int .i64 1))⟩,
  ⟨some 4, none, .mov (.t 11)⟩]
abbrev c68_l12 : IR := .seq (.seq (.reg c68_r4) (.cond (.t 9) (.skip) (.exit 0))) (.seq (.blk 1 (.seq (.seq (.reg c68_r5) (.cond (.t 25) (.exit 1) (.skip))) (.seq (.reg c68_r6) (.blk 2 (.loop c68_l10))))) (.reg c68_r11))
abbrev c68_r13 : List Ins := [
  ⟨some 2, none, .mov (.t 3)⟩]
abbrev c68 : IR := .seq (.reg c68_r1) (.seq (.reg c68_r2) (.seq (.seq (.reg c68_r3) (.blk 0 (.loop c68_l12))) (.seq (.reg c68_r13) (.ret))))
abbrev F68 : FnA := ⟨42, c68, [.t 2]⟩
theorem ok68 : cFn Try.prog 68 = some F68 := by kernel_rfl
theorem hb68 : HasBody Try.prog 68 := ⟨_, Try.func68, by kernel_rfl, by kernel_rfl⟩
/-! codes.Writer.Count -/
abbrev c69_r1 : List Ins := [
  ⟨some 4, none, .mov (.t 0)⟩,
  ⟨some 5, none, .mov (.t 1)⟩,
  ⟨some 6, none, .mx [.t 5, .c (.int .i64 0)]⟩,
  ⟨some 7, none, .conv .u64 (.t 6)⟩,
  ⟨some 8, none, .bsl 1 1 [.int .u64 0] [(0, .t 7)]⟩,
  ⟨some 9, none, .call (.c (.fn 111 [] [])) [.t 4, .t 8]⟩]
abbrev c69 : IR := .reg c69_r1
abbrev F69 : FnA := ⟨10, c69, []⟩
theorem ok69 : cFn Try.prog 69 = some F69 := by kernel_rfl
theorem hb69 : HasBody Try.prog 69 := ⟨_, Try.func69, by kernel_rfl, by kernel_rfl⟩
/-! recs.list:int -/
abbrev c70_r1 : List Ins := [
  ⟨some 8, none, .mov (.t 0)⟩,
  ⟨some 9, none, .mov (.t 1)⟩,
  ⟨some 10, none, .len (.t 9)⟩,
  ⟨some 11, none, .call (.c (.fn 69 [] [])) [.t 8, .t 10]⟩]
abbrev c70_r2 : List Ins := [
  ⟨some 12, none, .mov (.t 1)⟩,
  ⟨some 13, none, .len (.t 12)⟩,
  ⟨some 14, none, .mov (.c (.int .i64 0))⟩]
abbrev c70_r3 : List Ins := [
  ⟨some 15, none, .bin .lss (.t 14) (.t 13)⟩]
abbrev c70_r4 : List Ins := [
  ⟨some 16, none, .iaddr 1 (.t 12) (.t 14)⟩,
  ⟨some 17, none, .load 1 false (.t 16)⟩,
  ⟨some 7, none, .mov (.t 17)⟩]
abbrev c70_r5 : List Ins := [
  ⟨some 18, none, .mov (.t 2)⟩,
  ⟨some 19, none, .mov (.t 7)⟩,
  ⟨some 20, none, .call (.t 18) [.t 19]⟩]
abbrev c70_r6 : List Ins := [
  ⟨some 21, none, .bin .add (.t 14) (.c (.int .i64 1))⟩,
  ⟨some 14, none, .mov (.t 21)⟩]
abbrev c70_l7 : IR := .seq (.reg c70_r3) (.seq (.cond (.t 15) (.skip) (.exit 0)) (.seq (.blk 1 (.seq (.reg c70_r4) (.reg c70_r5))) (.reg c70_r6)))
abbrev c70 : IR := .seq (.reg c70_r1) (.seq (.reg c70_r2) (.blk 0 (.loop c70_l7)))
abbrev F70 : FnA := ⟨22, c70, []⟩
theorem ok70 : cFn Try.prog 70 = some F70 := by kernel_rfl
theorem hb70 : HasBody Try.prog 70 := ⟨_, Try.func70, by kernel_rfl, by kernel_rfl⟩
/-! recs.putStep -/
abbrev c71_r1 : List Ins := [
  ⟨some 2, none, .box (.t 0)⟩,
  ⟨some 3, none, .box (.t 1)⟩]
abbrev c71_r2 : List Ins := [
  ⟨some 9, none, .faddr 5 (.t 3)⟩,
  ⟨some 10, none, .load 6 true (.t 9)⟩,
  ⟨some 4, none, .alloc [.int .i64 0, .int .i64 0, .int .i64 0, .bool false, .sl .full [], .sl .full []]⟩,
  ⟨none, none, .store 6 (.t 4) (.t 10)⟩]
abbrev c71_r3 : List Ins := [
  ⟨some 11, none, .load 1 false (.t 2)⟩,
  ⟨some 12, none, .faddr 0 (.t 4)⟩,
  ⟨some 13, none, .load 1 false (.t 12)⟩,
  ⟨some 14, none, .call (.c (.fn 69 [] [])) [.t 11, .t 13]⟩]
abbrev c71_r4 : List Ins := [
  ⟨some 15, none, .load 1 false (.t 2)⟩,
  ⟨some 16, none, .faddr 1 (.t 4)⟩,
  ⟨some 17, none, .load 1 false (.t 16)⟩,
  ⟨some 18, none, .call (.c (.fn 69 [] [])) [.t 15, .t 17]⟩]
abbrev c71_r5 : List Ins := [
  ⟨some 19, none, .load 1 false (.t 2)⟩,
  ⟨some 20, none, .faddr 2 (.t 4)⟩,
  ⟨some 21, none, .load 1 false (.t 20)⟩,
  ⟨some 22, none, .call (.c (.fn 69 [] [])) [.t 19, .t 21]⟩]
abbrev c71_r6 : List Ins := [
  ⟨some 23, none, .load 1 false (.t 2)⟩,
  ⟨some 24, none, .faddr 3 (.t 4)⟩,
  ⟨some 25, none, .load 1 false (.t 24)⟩,
  ⟨some 26, none, .call (.c (.fn 112 [] [])) [.t 23, .t 25]⟩]
abbrev c71_r7 : List Ins := [
  ⟨some 27, none, .faddr 4 (.t 4)⟩,
  ⟨some 28, none, .load 1 false (.t 27)⟩,
  ⟨some 29, none, .faddr 5 (.t 4)⟩,
  ⟨some 30, none, .load 1 false (.t 29)⟩,
  ⟨some 31, none, .bsl 1 2 [.sl .full []] [(0, .t 28), (1, .t 30)]⟩,
  ⟨some 32, none, .len (.t 31)⟩,
  ⟨some 33, none, .mov (.c (.int .i64 0))⟩]
abbrev c71_r8 : List Ins := [
  ⟨some 34, none, .bin .lss (.t 33) (.t 32)⟩]
abbrev c71_r9 : List Ins := [
  ⟨some 35, none, .iaddr 1 (.t 31) (.t 33)⟩,
  ⟨some 36, none, .load 1 false (.t 35)⟩,
  ⟨some 6, none, .mov (.t 36)⟩]
abbrev c71_r10 : List Ins := [
  ⟨some 37, none, .load 1 false (.t 2)⟩,
  ⟨some 38, none, .mov (.t 6)⟩,
  ⟨some 39, none, .mkfn 114 [] [.t 2]⟩,
  ⟨some 40, none, .call (.c (.fn 113 [] [])) [.t 37, .t 38, .t 39]⟩]
abbrev c71_r11 : List Ins := [
  ⟨some 41, none, .bin .add (.t 33) (.c (.int .i64 1))⟩,
  ⟨some 33, none, .mov (.t 41)⟩]
abbrev c71_l12 : IR := .seq (.reg c71_r8) (.seq (.cond (.t 34) (.skip) (.exit 0)) (.seq (.blk 1 (.seq (.reg c71_r9) (.reg c71_r10))) (.reg c71_r11)))
abbrev c71_r13 : List Ins := [
  ⟨some 42, none, .faddr 11 (.t 3)⟩,
  ⟨some 43, none, .load 4 true (.t 42)⟩,
  ⟨some 44, none, .mov (.c (.int .i64 0))⟩]
abbrev c71_r14 : List Ins := [
  ⟨some 45, none, .bin .lss (.t 44) (.c (.int .i64 4))⟩]
abbrev c71_r15 : List Ins := [
  ⟨some 46, none, .idxA 4 1 false (.t 43) (.t 44)⟩,
  ⟨some 8, none, .mov (.t 46)⟩]
abbrev c71_r16 : List Ins := [
  ⟨some 47, none, .load 1 false (.t 2)⟩,
  ⟨some 48, none, .mov (.t 8)⟩,
  ⟨some 49, none, .call (.c (.fn 115 [] [])) [.t 47, .t 48]⟩]
abbrev c71_r17 : List Ins := [
  ⟨some 50, none, .bin .add (.t 44) (.c (.int .i64 1))⟩,
  ⟨some 44, none, .mov (.t 50)⟩]
abbrev c71_l18 : IR := .seq (.reg c71_r14) (.seq (.cond (.t 45) (.skip) (.exit 2)) (.seq (.blk 3 (.seq (.reg c71_r15) (.reg c71_r16))) (.reg c71_r17)))
abbrev c71_r19 : List Ins := [
  ⟨some 51, none, .load 1 false (.t 2)⟩,
  ⟨some 52, none, .faddr 15 (.t 3)⟩,
  ⟨some 53, none, .load 1 false (.t 52)⟩,
  ⟨some 54, none, .mkfn 117 [] [.t 2]⟩,
  ⟨some 55, none, .call (.c (.fn 116 [] [])) [.t 51, .t 53, .t 54]⟩]
abbrev c71 : IR := .seq (.reg c71_r1) (.seq (.reg c71_r2) (.seq (.reg c71_r3) (.seq (.reg c71_r4) (.seq (.reg c71_r5) (.seq (.reg c71_r6) (.seq (.seq (.reg c71_r7) (.blk 0 (.loop c71_l12))) (.seq (.seq (.reg c71_r13) (.blk 2 (.loop c71_l18))) (.reg c71_r19))))))))
abbrev F71 : FnA := ⟨56, c71, []⟩
theorem ok71 : cFn Try.prog 71 = some F71 := by kernel_rfl
theorem hb71 : HasBody Try.prog 71 := ⟨_, Try.func71, by kernel_rfl, by kernel_rfl⟩
/-! codes.Writer.Done -/
abbrev c72_r1 : List Ins := [
  ⟨some 2, none, .mov (.c (.sl .full []))⟩]
abbrev c72_r2 : List Ins := [
  ⟨some 3, none, .mov (.t 0)⟩,
  ⟨some 4, none, .nilck (.t 3)⟩,
  ⟨some 5, none, .faddr 0 (.t 4)⟩,
  ⟨some 6, none, .load 1 false (.t 5)⟩,
  ⟨some 7, none, .call (.c (.fn 118 [] [])) [.t 6]⟩,
  ⟨some 2, none, .mov (.t 7)⟩]
abbrev c72 : IR := .seq (.reg c72_r1) (.seq (.reg c72_r2) (.ret))
abbrev F72 : FnA := ⟨8, c72, [.t 2]⟩
theorem ok72 : cFn Try.prog 72 = some F72 := by kernel_rfl
theorem hb72 : HasBody Try.prog 72 := ⟨_, Try.func72, by kernel_rfl, by kernel_rfl⟩
/-! recs.read:int -/
abbrev c73_r1 : List Ins := [
  ⟨some 6, none, .mov (.c (.sl .full []))⟩]
abbrev c73_r2 : List Ins := [
  ⟨some 7, none, .mov (.c (.sl .full []))⟩]
abbrev c73_r3 : List Ins := [
  ⟨some 8, none, .mov (.t 0)⟩,
  ⟨some 9, none, .mov (.t 1)⟩,
  ⟨some 10, none, .call (.c (.fn 35 [] [])) [.t 8, .t 9]⟩,
  ⟨some 11, none, .mov (.c (.int .i64 0))⟩]
abbrev c73_r4 : List Ins := [
  ⟨some 12, none, .bin .lss (.t 11) (.t 10)⟩]
abbrev c73_r5 : List Ins := [
  ⟨some 13, none, .mov (.t 7)⟩,
  ⟨some 14, none, .mov (.t 2)⟩,
  ⟨some 15, none, .call (.t 14) []⟩,
  ⟨some 16, none, .bsl 1 1 [.int .i64 0] [(0, .t 15)]⟩,
  ⟨some 17, none, .append 1 8 (.t 13) (.t 16)⟩,
  ⟨some 7, none, .mov (.t 17)⟩]
abbrev c73_r6 : List Ins := [
  ⟨some 18, none, .bin .add (.t 11) (.c (.int .i64 1))⟩,
  ⟨some 11, none, .mov (.t 18)⟩]
abbrev c73_l7 : IR := .seq (.reg c73_r4) (.seq (.cond (.t 12) (.skip) (.exit 0)) (.seq (.blk 1 (.reg c73_r5)) (.reg c73_r6)))
abbrev c73_r8 : List Ins := [
  ⟨some 19, none, .mov (.t 7)⟩,
  ⟨some 6, none, .mov (.t 19)⟩]
abbrev c73 : IR := .seq (.reg c73_r1) (.seq (.reg c73_r2) (.seq (.seq (.reg c73_r3) (.blk 0 (.loop c73_l7))) (.seq (.reg c73_r8) (.ret))))
abbrev F73 : FnA := ⟨20, c73, [.t 6]⟩
theorem ok73 : cFn Try.prog 73 = some F73 := by kernel_rfl
theorem hb73 : HasBody Try.prog 73 := ⟨_, Try.func73, by kernel_rfl, by kernel_rfl⟩
/-! recs.Get$1 -/
abbrev c74_r1 : List Ins := [
  ⟨some 1, none, .mov (.c (.int .i64 0))⟩]
abbrev c74_r2 : List Ins := [
  ⟨some 2, none, .load 1 false (.t 0)⟩,
  ⟨some 3, none, .call (.c (.fn 35 [] [])) [.t 2, .c (.int .i64 99)]⟩,
  ⟨some 1, none, .mov (.t 3)⟩]
abbrev c74 : IR := .seq (.reg c74_r1) (.seq (.reg c74_r2) (.ret))
abbrev F74 : FnA := ⟨4, c74, [.t 1]⟩
theorem ok74 : cFn Try.prog 74 = some F74 := by kernel_rfl
theorem hb74 : HasBody Try.prog 74 := ⟨_, Try.func74, by kernel_rfl, by kernel_rfl⟩
/-! recs.getStep -/
abbrev c75_r1 : List Ins := [
  ⟨some 2, none, .box (.t 0)⟩]
abbrev c75_r2 : List Ins := [
  ⟨some 7, none, .load 1 false (.t 2)⟩,
  ⟨some 8, none, .call (.c (.fn 35 [] [])) [.t 7, .c (.int .i64 12)]⟩,
  ⟨some 9, none, .load 1 false (.t 2)⟩,
  ⟨some 10, none, .call (.c (.fn 35 [] [])) [.t 9, .c (.int .i64 4)]⟩,
  ⟨some 11, none, .load 1 false (.t 2)⟩,
  ⟨some 12, none, .call (.c (.fn 35 [] [])) [.t 11, .c (.int .i64 4)]⟩,
  ⟨some 13, none, .load 1 false (.t 2)⟩,
  ⟨some 14, none, .call (.c (.fn 37 [] [])) [.t 13]⟩,
  ⟨some 15, none, .build [.int .i64 0, .int .i64 0, .int .i64 0, .bool false, .sl .full [], .sl .full []] [(0, (1, .t 8)), (1, (1, .t 10)), (2, (1, .t 12)), (3, (1, .t 14))]⟩,
  ⟨some 4, none, .alloc [.int .i64 0, .int .i64 0, .int .i64 0, .bool false, .sl .full [], .sl .full []]⟩,
  ⟨none, none, .store 6 (.t 4) (.t 15)⟩]
def c75_a2 : List (List Nat) := [[], [0], [], [2, 1], [], [4, 3], [], [6, 5], [1, 3, 5, 7], [], [9, 8, 7, 0, 1, 2, 3, 4, 5, 6, 7, 8, 9]]
abbrev c75_m2 : List Am.Mark := [⟨false, 0, 0⟩, ⟨true, 0, 1⟩, ⟨false, 0, 1⟩, ⟨true, 1, 2⟩, ⟨false, 0, 2⟩, ⟨true, 2, 3⟩, ⟨false, 0, 3⟩, ⟨true, 3, 5⟩, ⟨false, 4, 5⟩, ⟨true, 0, 5⟩, ⟨true, 5, 6⟩]
abbrev c75_r3 : List Ins := [
  ⟨some 16, none, .mkfn 119 [] [.t 2]⟩,
  ⟨some 5, none, .mov (.t 16)⟩]
abbrev c75_r4 : List Ins := [
  ⟨some 17, none, .load 1 false (.t 2)⟩,
  ⟨some 18, none, .mov (.t 5)⟩,
  ⟨some 19, none, .call (.c (.fn 120 [] [])) [.t 17, .c (.int .i64 8), .t 18]⟩,
  ⟨some 20, none, .faddr 4 (.t 4)⟩,
  ⟨none, none, .store 1 (.t 20) (.t 19)⟩]
abbrev c75_r5 : List Ins := [
  ⟨some 21, none, .load 1 false (.t 2)⟩,
  ⟨some 22, none, .mov (.t 5)⟩,
  ⟨some 23, none, .call (.c (.fn 120 [] [])) [.t 21, .c (.int .i64 8), .t 22]⟩,
  ⟨some 24, none, .faddr 5 (.t 4)⟩,
  ⟨none, none, .store 1 (.t 24) (.t 23)⟩]
abbrev c75_r6 : List Ins := [
  ⟨some 25, none, .mov (.c (.int .i64 0))⟩]
abbrev c75_r7 : List Ins := [
  ⟨some 26, none, .bin .lss (.t 25) (.c (.int .i64 4))⟩]
abbrev c75_r8 : List Ins := [
  ⟨some 27, none, .mov (.t 25)⟩,
  ⟨some 6, none, .mov (.t 27)⟩]
abbrev c75_r9 : List Ins := [
  ⟨some 28, none, .mov (.t 1)⟩,
  ⟨some 29, none, .mov (.t 6)⟩,
  ⟨some 30, none, .load 1 false (.t 2)⟩,
  ⟨some 31, none, .call (.c (.fn 121 [] [])) [.t 30]⟩,
  ⟨some 32, none, .nilck (.t 28)⟩,
  ⟨some 33, none, .faddr 11 (.t 32)⟩,
  ⟨some 34, none, .iaddrA 4 1 (.t 33) (.t 29)⟩,
  ⟨none, none, .store 1 (.t 34) (.t 31)⟩]
def c75_a9 : List (List Nat) := [[], [], [], [2], [0], [4], [5, 1, 0, 1, 2, 3], [6, 3, 3, 0, 1, 2, 3]]
abbrev c75_m9 : List Am.Mark := [⟨false, 0, 1⟩, ⟨false, 0, 1⟩, ⟨false, 0, 0⟩, ⟨true, 0, 1⟩, ⟨false, 0, 2⟩, ⟨false, 0, 2⟩, ⟨false, 1, 1⟩, ⟨true, 1, 2⟩]
theorem c75_d9 : drawFine c75_r9 c75_a9 c75_m9 = true := by decide +kernel
abbrev c75_r10 : List Ins := [
  ⟨some 35, none, .bin .add (.t 25) (.c (.int .i64 1))⟩,
  ⟨some 25, none, .mov (.t 35)⟩]
abbrev c75_l11 : IR := .seq (.reg c75_r7) (.seq (.cond (.t 26) (.skip) (.exit 0)) (.seq (.blk 1 (.seq (.reg c75_r8) (.dreg c75_r9 c75_a9))) (.reg c75_r10)))
abbrev c75_r12 : List Ins := [
  ⟨some 36, none, .mov (.t 1)⟩,
  ⟨some 37, none, .load 6 true (.t 4)⟩,
  ⟨some 38, none, .nilck (.t 36)⟩,
  ⟨some 39, none, .faddr 5 (.t 38)⟩,
  ⟨none, none, .store 6 (.t 39) (.t 37)⟩]
abbrev c75_r13 : List Ins := [
  ⟨some 40, none, .mov (.t 1)⟩,
  ⟨some 41, none, .load 1 false (.t 2)⟩,
  ⟨some 42, none, .mkfn 123 [] [.t 2]⟩,
  ⟨some 43, none, .call (.c (.fn 122 [] [])) [.t 41, .c (.int .i64 8), .t 42]⟩,
  ⟨some 44, none, .nilck (.t 40)⟩,
  ⟨some 45, none, .faddr 15 (.t 44)⟩,
  ⟨none, none, .store 1 (.t 45) (.t 43)⟩]
abbrev c75 : IR := .seq (.reg c75_r1) (.seq (.dreg c75_r2 c75_a2) (.seq (.reg c75_r3) (.seq (.reg c75_r4) (.seq (.reg c75_r5) (.seq (.seq (.reg c75_r6) (.blk 0 (.loop c75_l11))) (.seq (.reg c75_r12) (.reg c75_r13)))))))
abbrev F75 : FnA := ⟨46, c75, []⟩
theorem ok75 : cFn Try.prog 75 = some F75 := by kernel_rfl
theorem hb75 : HasBody Try.prog 75 := ⟨_, Try.func75, by kernel_rfl, by kernel_rfl⟩
/-! ref20.count -/
abbrev c77_r1 : List Ins := [
  ⟨some 4, none, .alloc [.int .i64 0, .int .i64 0, .int .i64 0, .int .i64 0, .str ⟨#[]⟩, .sl .full []]⟩]
abbrev c77_r2 : List Ins := [
  ⟨some 5, none, .mov (.t 0)⟩,
  ⟨some 6, none, .mov (.t 1)⟩,
  ⟨some 7, none, .build [.int .i64 0, .int .i64 0, .int .i64 0, .int .i64 0, .str ⟨#[]⟩, .sl .full []] [(1, (1, .t 5)), (2, (1, .t 6))]⟩,
  ⟨none, none, .store 6 (.t 4) (.t 7)⟩]
abbrev c77 : IR := .seq (.reg c77_r1) (.seq (.reg c77_r2) (.ret))
abbrev F77 : FnA := ⟨8, c77, [.cell 4 6 true]⟩
theorem ok77 : cFn Try.prog 77 = some F77 := by kernel_rfl
theorem hb77 : HasBody Try.prog 77 := ⟨_, Try.func77, by kernel_rfl, by kernel_rfl⟩
/-! ref20.flag -/
abbrev c78_r1 : List Ins := [
  ⟨some 2, none, .alloc [.int .i64 0, .int .i64 0, .int .i64 0, .int .i64 0, .str ⟨#[]⟩, .sl .full []]⟩]
abbrev c78_r2 : List Ins := [
  ⟨some 3, none, .mov (.t 0)⟩]
abbrev c78_r3 : List Ins := [
  ⟨some 4, none, .build [.int .i64 0, .int .i64 0, .int .i64 0, .int .i64 0, .str ⟨#[]⟩, .sl .full []] [(0, (1, .c (.int .i64 2))), (1, (1, .c (.int .i64 1)))]⟩,
  ⟨none, none, .store 6 (.t 2) (.t 4)⟩]
abbrev c78_r4 : List Ins := [
  ⟨some 5, none, .build [.int .i64 0, .int .i64 0, .int .i64 0, .int .i64 0, .str ⟨#[]⟩, .sl .full []] [(0, (1, .c (.int .i64 2)))]⟩,
  ⟨none, none, .store 6 (.t 2) (.t 5)⟩]
abbrev c78 : IR := .seq (.reg c78_r1) (.seq (.seq (.reg c78_r2) (.cond (.t 3) (.seq (.reg c78_r3) (.ret)) (.skip))) (.seq (.reg c78_r4) (.ret)))
abbrev F78 : FnA := ⟨6, c78, [.cell 2 6 true]⟩
theorem ok78 : cFn Try.prog 78 = some F78 := by kernel_rfl
theorem hb78 : HasBody Try.prog 78 := ⟨_, Try.func78, by kernel_rfl, by kernel_rfl⟩
/-! ref09.Words -/
abbrev c79_r1 : List Ins := [
  ⟨some 2, none, .mov (.c (.sl .full []))⟩]
abbrev c79_r2 : List Ins := [
  ⟨some 3, none, .mov (.c (.sl .full []))⟩]
abbrev c79_r3 : List Ins := [
  ⟨some 4, none, .mov (.c (.int .i64 0))⟩]
abbrev c79_r4 : List Ins := [
  ⟨some 5, none, .mov (.t 4)⟩,
  ⟨some 6, none, .mov (.t 0)⟩,
  ⟨some 7, none, .len (.t 6)⟩,
  ⟨some 8, none, .bin .lss (.t 5) (.t 7)⟩]
abbrev c79_r5 : List Ins := [
  ⟨some 11, none, .mov (.t 3)⟩,
  ⟨some 12, none, .mov (.t 0)⟩,
  ⟨some 13, none, .mov (.t 4)⟩,
  ⟨some 14, none, .iaddr 6 (.t 12) (.t 13)⟩,
  ⟨some 15, none, .load 6 true (.t 14)⟩,
  ⟨some 16, none, .call (.c (.fn 124 [] [])) [.t 11, .t 15]⟩,
  ⟨some 3, none, .mov (.t 16)⟩]
abbrev c79_r6 : List Ins := [
  ⟨some 9, none, .mov (.t 4)⟩,
  ⟨some 10, none, .bin .add (.t 9) (.c (.int .i64 1))⟩,
  ⟨some 4, none, .mov (.t 10)⟩]
abbrev c79_l7 : IR := .seq (.seq (.reg c79_r4) (.cond (.t 8) (.skip) (.exit 0))) (.seq (.blk 1 (.reg c79_r5)) (.reg c79_r6))
abbrev c79_r8 : List Ins := [
  ⟨some 17, none, .mov (.t 3)⟩,
  ⟨some 2, none, .mov (.t 17)⟩]
abbrev c79 : IR := .seq (.reg c79_r1) (.seq (.reg c79_r2) (.seq (.seq (.reg c79_r3) (.blk 0 (.loop c79_l7))) (.seq (.reg c79_r8) (.ret))))
abbrev F79 : FnA := ⟨18, c79, [.t 2]⟩
theorem ok79 : cFn Try.prog 79 = some F79 := by kernel_rfl
theorem hb79 : HasBody Try.prog 79 := ⟨_, Try.func79, by kernel_rfl, by kernel_rfl⟩
/-! recs.empty -/
abbrev c80_r1 : List Ins := [
  ⟨some 1, none, .box (.t 0)⟩,
  ⟨some 2, none, .mov (.c (.bool false))⟩]
abbrev c80_r2 : List Ins := [
  ⟨some 3, none, .faddr 0 (.t 1)⟩,
  ⟨some 4, none, .load 1 false (.t 3)⟩,
  ⟨some 5, none, .bin .eql (.t 4) (.c (.int .i64 0))⟩,
  ⟨some 6, none, .mov (.t 5)⟩,
  ⟨some 7, some (6, true), .faddr 1 (.t 1)⟩,
  ⟨some 8, some (6, true), .load 1 false (.t 7)⟩,
  ⟨some 9, some (6, true), .bin .eql (.t 8) (.c (.int .i64 0))⟩,
  ⟨some 10, none, .pick (.t 6) (.t 9) (.c (.bool false))⟩,
  ⟨some 11, none, .mov (.t 10)⟩,
  ⟨some 12, some (11, true), .faddr 2 (.t 1)⟩,
  ⟨some 13, some (11, true), .load 1 false (.t 12)⟩,
  ⟨some 14, some (11, true), .bin .eql (.t 13) (.c (.int .i64 0))⟩,
  ⟨some 15, none, .pick (.t 11) (.t 14) (.c (.bool false))⟩,
  ⟨some 16, none, .mov (.t 15)⟩,
  ⟨some 17, some (16, true), .faddr 3 (.t 1)⟩,
  ⟨some 18, some (16, true), .load 1 false (.t 17)⟩,
  ⟨some 19, some (16, true), .un .not (.t 18)⟩,
  ⟨some 20, none, .pick (.t 16) (.t 19) (.c (.bool false))⟩,
  ⟨some 21, none, .mov (.t 20)⟩,
  ⟨some 22, some (21, true), .faddr 4 (.t 1)⟩,
  ⟨some 23, some (21, true), .load 1 false (.t 22)⟩,
  ⟨some 24, some (21, true), .len (.t 23)⟩,
  ⟨some 25, some (21, true), .bin .eql (.t 24) (.c (.int .i64 0))⟩,
  ⟨some 26, none, .pick (.t 21) (.t 25) (.c (.bool false))⟩,
  ⟨some 27, none, .mov (.t 26)⟩,
  ⟨some 28, some (27, true), .faddr 5 (.t 1)⟩,
  ⟨some 29, some (27, true), .load 1 false (.t 28)⟩,
  ⟨some 30, some (27, true), .len (.t 29)⟩,
  ⟨some 31, some (27, true), .bin .eql (.t 30) (.c (.int .i64 0))⟩,
  ⟨some 32, none, .pick (.t 27) (.t 31) (.c (.bool false))⟩,
  ⟨some 2, none, .mov (.t 32)⟩]
abbrev c80 : IR := .seq (.reg c80_r1) (.seq (.reg c80_r2) (.ret))
abbrev F80 : FnA := ⟨33, c80, [.t 2]⟩
theorem ok80 : cFn Try.prog 80 = some F80 := by kernel_rfl
theorem hb80 : HasBody Try.prog 80 := ⟨_, Try.func80, by kernel_rfl, by kernel_rfl⟩
/-! recs.May$1 -/
abbrev c81_r1 : List Ins := [
  ⟨some 2, none, .mov (.c (.bool false))⟩]
abbrev c81_r2 : List Ins := [
  ⟨some 3, none, .mov (.t 0)⟩,
  ⟨some 4, none, .call (.c (.fn 82 [] [])) [.t 3, .c (.int .i64 100)]⟩,
  ⟨some 5, none, .un .not (.t 4)⟩,
  ⟨some 2, none, .mov (.t 5)⟩]
abbrev c81 : IR := .seq (.reg c81_r1) (.seq (.reg c81_r2) (.ret))
abbrev F81 : FnA := ⟨6, c81, [.t 2]⟩
theorem ok81 : cFn Try.prog 81 = some F81 := by kernel_rfl
theorem hb81 : HasBody Try.prog 81 := ⟨_, Try.func81, by kernel_rfl, by kernel_rfl⟩
/-! recs.below -/
abbrev c82_r1 : List Ins := [
  ⟨some 4, none, .mov (.c (.bool false))⟩]
abbrev c82_r2 : List Ins := [
  ⟨some 5, none, .mov (.t 0)⟩,
  ⟨some 6, none, .bin .geq (.t 5) (.c (.int .i64 0))⟩,
  ⟨some 7, none, .mov (.t 6)⟩,
  ⟨some 8, some (7, true), .mov (.t 0)⟩,
  ⟨some 9, some (7, true), .mov (.t 1)⟩,
  ⟨some 10, some (7, true), .bin .lss (.t 8) (.t 9)⟩,
  ⟨some 11, none, .pick (.t 7) (.t 10) (.c (.bool false))⟩,
  ⟨some 4, none, .mov (.t 11)⟩]
abbrev c82 : IR := .seq (.reg c82_r1) (.seq (.reg c82_r2) (.ret))
abbrev F82 : FnA := ⟨12, c82, [.t 4]⟩
theorem ok82 : cFn Try.prog 82 = some F82 := by kernel_rfl
theorem hb82 : HasBody Try.prog 82 := ⟨_, Try.func82, by kernel_rfl, by kernel_rfl⟩
/-! slices.ContainsFunc:int -/
abbrev c83_r1 : List Ins := [
  ⟨some 4, none, .mov (.c (.bool false))⟩]
abbrev c83_r2 : List Ins := [
  ⟨some 5, none, .mov (.t 0)⟩,
  ⟨some 6, none, .mov (.t 1)⟩,
  ⟨some 7, none, .call (.c (.fn 125 [] [])) [.t 5, .t 6]⟩,
  ⟨some 8, none, .bin .geq (.t 7) (.c (.int .i64 0))⟩,
  ⟨some 4, none, .mov (.t 8)⟩]
abbrev c83 : IR := .seq (.reg c83_r1) (.seq (.reg c83_r2) (.ret))
abbrev F83 : FnA := ⟨9, c83, [.t 4]⟩
theorem ok83 : cFn Try.prog 83 = some F83 := by kernel_rfl
theorem hb83 : HasBody Try.prog 83 := ⟨_, Try.func83, by kernel_rfl, by kernel_rfl⟩
/-! recs.plain -/
abbrev c84_r1 : List Ins := [
  ⟨some 2, none, .mov (.c (.bool false))⟩]
abbrev c84_r2 : List Ins := [
  ⟨some 3, none, .mov (.t 0)⟩,
  ⟨some 4, none, .len (.t 3)⟩,
  ⟨some 5, none, .bin .leq (.t 4) (.c (.int .i64 8))⟩,
  ⟨some 6, none, .mov (.t 5)⟩,
  ⟨some 7, some (6, true), .mov (.t 0)⟩,
  ⟨some 8, some (6, true), .mov (.t 0)⟩,
  ⟨some 9, some (6, true), .call (.c (.fn 101 [] [])) [.t 8]⟩,
  ⟨some 10, some (6, true), .call (.c (.fn 110 [] [])) [.t 7, .t 9]⟩,
  ⟨some 11, none, .pick (.t 6) (.t 10) (.c (.bool false))⟩,
  ⟨some 2, none, .mov (.t 11)⟩]
abbrev c84 : IR := .seq (.reg c84_r1) (.seq (.reg c84_r2) (.ret))
abbrev F84 : FnA := ⟨12, c84, [.t 2]⟩
theorem ok84 : cFn Try.prog 84 = some F84 := by kernel_rfl
theorem hb84 : HasBody Try.prog 84 := ⟨_, Try.func84, by kernel_rfl, by kernel_rfl⟩
/-! recs.changes -/
abbrev c85_r1 : List Ins := [
  ⟨some 4, none, .mov (.c (.bool false))⟩]
abbrev c85_r2 : List Ins := [
  ⟨some 5, none, .mov (.c (.sl .full []))⟩]
abbrev c85_r3 : List Ins := [
  ⟨some 8, none, .mov (.t 0)⟩,
  ⟨some 9, none, .len (.t 8)⟩,
  ⟨some 10, none, .mov (.c (.int .i64 0))⟩]
abbrev c85_r4 : List Ins := [
  ⟨some 11, none, .bin .lss (.t 10) (.t 9)⟩]
abbrev c85_r5 : List Ins := [
  ⟨some 12, none, .iaddr 3 (.t 8) (.t 10)⟩,
  ⟨some 13, none, .load 3 true (.t 12)⟩,
  ⟨some 7, none, .alloc [.int .i64 0, .bool false, .int .i64 0]⟩,
  ⟨none, none, .store 3 (.t 7) (.t 13)⟩]
abbrev c85_r6 : List Ins := [
  ⟨some 14, none, .faddr 1 (.t 7)⟩,
  ⟨some 15, none, .load 1 false (.t 14)⟩,
  ⟨some 16, none, .mov (.t 15)⟩,
  ⟨some 17, some (16, true), .faddr 2 (.t 7)⟩,
  ⟨some 18, some (16, true), .load 1 false (.t 17)⟩,
  ⟨some 19, some (16, true), .bin .neq (.t 18) (.c (.int .i64 0))⟩,
  ⟨some 20, none, .pick (.t 16) (.t 19) (.c (.bool false))⟩]
abbrev c85_r7 : List Ins := [
  ⟨some 4, none, .mov (.c (.bool false))⟩]
abbrev c85_r8 : List Ins := [
  ⟨some 21, none, .mov (.t 5)⟩,
  ⟨some 22, none, .faddr 0 (.t 7)⟩,
  ⟨some 23, none, .load 1 false (.t 22)⟩,
  ⟨some 24, none, .bsl 1 1 [.int .i64 0] [(0, .t 23)]⟩,
  ⟨some 25, none, .append 1 8 (.t 21) (.t 24)⟩,
  ⟨some 5, none, .mov (.t 25)⟩]
abbrev c85_r9 : List Ins := [
  ⟨some 26, none, .bin .add (.t 10) (.c (.int .i64 1))⟩,
  ⟨some 10, none, .mov (.t 26)⟩]
abbrev c85_l10 : IR := .seq (.reg c85_r4) (.seq (.cond (.t 11) (.skip) (.exit 0)) (.seq (.blk 1 (.seq (.reg c85_r5) (.seq (.seq (.reg c85_r6) (.cond (.t 20) (.seq (.reg c85_r7) (.ret)) (.skip))) (.reg c85_r8)))) (.reg c85_r9)))
abbrev c85_r11 : List Ins := [
  ⟨some 27, none, .mov (.t 0)⟩,
  ⟨some 28, none, .len (.t 27)⟩,
  ⟨some 29, none, .bin .leq (.t 28) (.c (.int .i64 8))⟩,
  ⟨some 30, none, .mov (.t 29)⟩,
  ⟨some 31, some (30, true), .mov (.t 5)⟩,
  ⟨some 32, some (30, true), .mov (.t 1)⟩,
  ⟨some 33, some (30, true), .call (.c (.fn 126 [] [])) [.t 32]⟩,
  ⟨some 34, some (30, true), .call (.c (.fn 63 [] [])) [.t 31, .t 33]⟩,
  ⟨some 35, none, .pick (.t 30) (.t 34) (.c (.bool false))⟩,
  ⟨some 4, none, .mov (.t 35)⟩]
abbrev c85 : IR := .seq (.reg c85_r1) (.seq (.reg c85_r2) (.seq (.seq (.reg c85_r3) (.blk 0 (.loop c85_l10))) (.seq (.reg c85_r11) (.ret))))
abbrev F85 : FnA := ⟨36, c85, [.t 4]⟩
theorem ok85 : cFn Try.prog 85 = some F85 := by kernel_rfl
theorem hb85 : HasBody Try.prog 85 := ⟨_, Try.func85, by kernel_rfl, by kernel_rfl⟩
/-! codes.Reader.next -/
abbrev c91_r1 : List Ins := [
  ⟨some 4, none, .mov (.c (.int .u64 0))⟩]
abbrev c91_r2 : List Ins := [
  ⟨some 6, none, .mov (.t 0)⟩,
  ⟨some 7, none, .nilck (.t 6)⟩,
  ⟨some 8, none, .faddr 1 (.t 7)⟩,
  ⟨some 9, none, .load 1 false (.t 8)⟩,
  ⟨some 10, none, .mov (.t 9)⟩,
  ⟨some 11, some (10, false), .mov (.t 0)⟩,
  ⟨some 12, some (10, false), .nilck (.t 11)⟩,
  ⟨some 13, some (10, false), .faddr 0 (.t 12)⟩,
  ⟨some 14, some (10, false), .load 1 false (.t 13)⟩,
  ⟨some 15, some (10, false), .len (.t 14)⟩,
  ⟨some 16, some (10, false), .bin .eql (.t 15) (.c (.int .i64 0))⟩,
  ⟨some 17, none, .pick (.t 10) (.c (.bool true)) (.t 16)⟩,
  ⟨some 18, none, .mov (.t 17)⟩,
  ⟨some 19, some (18, false), .mov (.t 1)⟩,
  ⟨some 20, some (18, false), .mov (.t 0)⟩,
  ⟨some 21, some (18, false), .nilck (.t 20)⟩,
  ⟨some 22, some (18, false), .faddr 0 (.t 21)⟩,
  ⟨some 23, some (18, false), .load 1 false (.t 22)⟩,
  ⟨some 24, some (18, false), .iaddr 1 (.t 23) (.c (.int .i64 0))⟩,
  ⟨some 25, some (18, false), .load 1 false (.t 24)⟩,
  ⟨some 26, some (18, false), .call (.t 19) [.t 25]⟩,
  ⟨some 27, some (18, false), .un .not (.t 26)⟩,
  ⟨some 28, none, .pick (.t 18) (.c (.bool true)) (.t 27)⟩]
abbrev c91_r3 : List Ins := [
  ⟨some 29, none, .mov (.t 0)⟩,
  ⟨some 30, none, .nilck (.t 29)⟩,
  ⟨some 31, none, .faddr 1 (.t 30)⟩,
  ⟨none, none, .store 1 (.t 31) (.c (.bool true))⟩]
abbrev c91_r4 : List Ins := [
  ⟨some 4, none, .mov (.c (.int .u64 0))⟩]
abbrev c91_r5 : List Ins := [
  ⟨some 32, none, .mov (.t 0)⟩,
  ⟨some 33, none, .nilck (.t 32)⟩,
  ⟨some 34, none, .faddr 0 (.t 33)⟩,
  ⟨some 35, none, .load 1 false (.t 34)⟩,
  ⟨some 36, none, .iaddr 1 (.t 35) (.c (.int .i64 0))⟩,
  ⟨some 37, none, .load 1 false (.t 36)⟩,
  ⟨some 5, none, .mov (.t 37)⟩]
abbrev c91_r6 : List Ins := [
  ⟨some 38, none, .mov (.t 0)⟩,
  ⟨some 39, none, .mov (.t 0)⟩,
  ⟨some 40, none, .nilck (.t 39)⟩,
  ⟨some 41, none, .faddr 0 (.t 40)⟩,
  ⟨some 42, none, .load 1 false (.t 41)⟩,
  ⟨some 43, none, .slice 1 (.t 42) (some (.c (.int .i64 1))) none none⟩,
  ⟨some 44, none, .nilck (.t 38)⟩,
  ⟨some 45, none, .faddr 0 (.t 44)⟩,
  ⟨none, none, .store 1 (.t 45) (.t 43)⟩]
abbrev c91_r7 : List Ins := [
  ⟨some 46, none, .mov (.t 5)⟩,
  ⟨some 4, none, .mov (.t 46)⟩]
abbrev c91 : IR := .seq (.reg c91_r1) (.seq (.seq (.reg c91_r2) (.cond (.t 28) (.seq (.reg c91_r3) (.seq (.reg c91_r4) (.ret))) (.skip))) (.seq (.reg c91_r5) (.seq (.reg c91_r6) (.seq (.reg c91_r7) (.ret)))))
abbrev F91 : FnA := ⟨47, c91, [.t 4]⟩
theorem ok91 : cFn Try.prog 91 = some F91 := by kernel_rfl
theorem hb91 : HasBody Try.prog 91 := ⟨_, Try.func91, by kernel_rfl, by kernel_rfl⟩
/-! codes.Reader.Count$1 -/
abbrev c92_r1 : List Ins := [
  ⟨some 3, none, .mov (.c (.bool false))⟩]
abbrev c92_r2 : List Ins := [
  ⟨some 4, none, .load 1 false (.t 1)⟩,
  ⟨some 5, none, .bin .geq (.t 4) (.c (.int .i64 0))⟩,
  ⟨some 6, none, .mov (.t 5)⟩,
  ⟨some 7, some (6, true), .mov (.t 0)⟩,
  ⟨some 8, some (6, true), .load 1 false (.t 1)⟩,
  ⟨some 9, some (6, true), .conv .u64 (.t 8)⟩,
  ⟨some 10, some (6, true), .bin .leq (.t 7) (.t 9)⟩,
  ⟨some 11, none, .pick (.t 6) (.t 10) (.c (.bool false))⟩,
  ⟨some 3, none, .mov (.t 11)⟩]
abbrev c92 : IR := .seq (.reg c92_r1) (.seq (.reg c92_r2) (.ret))
abbrev F92 : FnA := ⟨12, c92, [.t 3]⟩
theorem ok92 : cFn Try.prog 92 = some F92 := by kernel_rfl
theorem hb92 : HasBody Try.prog 92 := ⟨_, Try.func92, by kernel_rfl, by kernel_rfl⟩
/-! keys.Plain -/
abbrev c101_r1 : List Ins := [
  ⟨some 2, none, .mov (.c (.sl .full []))⟩]
abbrev c101_r2 : List Ins := [
  ⟨some 3, none, .mov (.t 0)⟩,
  ⟨some 4, none, .bsl 1 1 [.sl .full []] [(0, .t 3)]⟩,
  ⟨some 5, none, .call (.c (.fn 134 [] [])) [.t 4]⟩,
  ⟨some 2, none, .mov (.t 5)⟩]
abbrev c101 : IR := .seq (.reg c101_r1) (.seq (.reg c101_r2) (.ret))
abbrev F101 : FnA := ⟨6, c101, [.t 2]⟩
theorem ok101 : cFn Try.prog 101 = some F101 := by kernel_rfl
theorem hb101 : HasBody Try.prog 101 := ⟨_, Try.func101, by kernel_rfl, by kernel_rfl⟩
/-! slices.Equal:Span -/
abbrev c110_r1 : List Ins := [
  ⟨some 4, none, .mov (.c (.bool false))⟩]
abbrev c110_r2 : List Ins := [
  ⟨some 6, none, .mov (.t 0)⟩,
  ⟨some 7, none, .len (.t 6)⟩,
  ⟨some 8, none, .mov (.t 1)⟩,
  ⟨some 9, none, .len (.t 8)⟩,
  ⟨some 10, none, .bin .neq (.t 7) (.t 9)⟩]
abbrev c110_r3 : List Ins := [
  ⟨some 4, none, .mov (.c (.bool false))⟩]
abbrev c110_r4 : List Ins := [
  ⟨some 11, none, .mov (.t 0)⟩,
  ⟨some 12, none, .len (.t 11)⟩,
  ⟨some 13, none, .mov (.c (.int .i64 0))⟩]
abbrev c110_r5 : List Ins := [
  ⟨some 14, none, .bin .lss (.t 13) (.t 12)⟩]
abbrev c110_r6 : List Ins := [
  ⟨some 15, none, .mov (.t 13)⟩,
  ⟨some 5, none, .mov (.t 15)⟩]
abbrev c110_r7 : List Ins := [
  ⟨some 16, none, .mov (.t 0)⟩,
  ⟨some 17, none, .mov (.t 5)⟩,
  ⟨some 18, none, .iaddr 2 (.t 16) (.t 17)⟩,
  ⟨some 19, none, .load 2 true (.t 18)⟩,
  ⟨some 20, none, .mov (.t 1)⟩,
  ⟨some 21, none, .mov (.t 5)⟩,
  ⟨some 22, none, .iaddr 2 (.t 20) (.t 21)⟩,
  ⟨some 23, none, .load 2 true (.t 22)⟩,
  ⟨some 24, none, .eq [.i, .i] true true (.t 19) (.t 23)⟩]
def c110_a7 : List (List Nat) := [[], [], [0, 1], [2], [], [], [4, 5], [6], [3, 7]]
abbrev c110_m7 : List Am.Mark := [⟨false, 0, 0⟩, ⟨false, 0, 0⟩, ⟨false, 0, 0⟩, ⟨false, 0, 0⟩, ⟨false, 0, 0⟩, ⟨false, 0, 0⟩, ⟨false, 0, 0⟩, ⟨false, 0, 0⟩, ⟨false, 0, 0⟩]
theorem c110_d7 : drawFine c110_r7 c110_a7 c110_m7 = true := by decide +kernel
abbrev c110_r8 : List Ins := [
  ⟨some 4, none, .mov (.c (.bool false))⟩]
abbrev c110_r9 : List Ins := [
  ⟨some 25, none, .bin .add (.t 13) (.c (.int .i64 1))⟩,
  ⟨some 13, none, .mov (.t 25)⟩]
abbrev c110_l10 : IR := .seq (.reg c110_r5) (.seq (.cond (.t 14) (.skip) (.exit 0)) (.seq (.blk 1 (.seq (.reg c110_r6) (.seq (.dreg c110_r7 c110_a7) (.cond (.t 24) (.seq (.reg c110_r8) (.ret)) (.skip))))) (.reg c110_r9)))
abbrev c110_r11 : List Ins := [
  ⟨some 4, none, .mov (.c (.bool true))⟩]
abbrev c110 : IR := .seq (.reg c110_r1) (.seq (.seq (.reg c110_r2) (.cond (.t 10) (.seq (.reg c110_r3) (.ret)) (.skip))) (.seq (.seq (.reg c110_r4) (.blk 0 (.loop c110_l10))) (.seq (.reg c110_r11) (.ret))))
abbrev F110 : FnA := ⟨26, c110, [.t 4]⟩
theorem ok110 : cFn Try.prog 110 = some F110 := by kernel_rfl
theorem hb110 : HasBody Try.prog 110 := ⟨_, Try.func110, by kernel_rfl, by kernel_rfl⟩
/-! codes.Writer.put -/
abbrev c111_r1 : List Ins := [
  ⟨some 4, none, .mov (.t 0)⟩,
  ⟨some 5, none, .mov (.t 0)⟩,
  ⟨some 6, none, .nilck (.t 5)⟩,
  ⟨some 7, none, .faddr 0 (.t 6)⟩,
  ⟨some 8, none, .load 1 false (.t 7)⟩,
  ⟨some 9, none, .mov (.t 1)⟩,
  ⟨some 10, none, .append 1 8 (.t 8) (.t 9)⟩,
  ⟨some 11, none, .nilck (.t 4)⟩,
  ⟨some 12, none, .faddr 0 (.t 11)⟩,
  ⟨none, none, .store 1 (.t 12) (.t 10)⟩]
abbrev c111 : IR := .reg c111_r1
abbrev F111 : FnA := ⟨13, c111, []⟩
theorem ok111 : cFn Try.prog 111 = some F111 := by kernel_rfl
theorem hb111 : HasBody Try.prog 111 := ⟨_, Try.func111, by kernel_rfl, by kernel_rfl⟩
/-! codes.Writer.Flag -/
abbrev c112_r1 : List Ins := [
  ⟨some 4, none, .mov (.t 1)⟩]
abbrev c112_r2 : List Ins := [
  ⟨some 5, none, .mov (.t 0)⟩,
  ⟨some 6, none, .bsl 1 1 [.int .u64 0] [(0, .c (.int .u64 1))]⟩,
  ⟨some 7, none, .call (.c (.fn 111 [] [])) [.t 5, .t 6]⟩]
abbrev c112_r3 : List Ins := [
  ⟨some 8, none, .mov (.t 0)⟩,
  ⟨some 9, none, .bsl 1 1 [.int .u64 0] [(0, .c (.int .u64 0))]⟩,
  ⟨some 10, none, .call (.c (.fn 111 [] [])) [.t 8, .t 9]⟩]
abbrev c112 : IR := .seq (.seq (.reg c112_r1) (.cond (.t 4) (.seq (.reg c112_r2) (.ret)) (.skip))) (.reg c112_r3)
abbrev F112 : FnA := ⟨11, c112, []⟩
theorem ok112 : cFn Try.prog 112 = some F112 := by kernel_rfl
theorem hb112 : HasBody Try.prog 112 := ⟨_, Try.func112, by kernel_rfl, by kernel_rfl⟩
/-! recs.list:Span -/
abbrev c113_r1 : List Ins := [
  ⟨some 8, none, .mov (.t 0)⟩,
  ⟨some 9, none, .mov (.t 1)⟩,
  ⟨some 10, none, .len (.t 9)⟩,
  ⟨some 11, none, .call (.c (.fn 69 [] [])) [.t 8, .t 10]⟩]
abbrev c113_r2 : List Ins := [
  ⟨some 12, none, .mov (.t 1)⟩,
  ⟨some 13, none, .len (.t 12)⟩,
  ⟨some 14, none, .mov (.c (.int .i64 0))⟩]
abbrev c113_r3 : List Ins := [
  ⟨some 15, none, .bin .lss (.t 14) (.t 13)⟩]
abbrev c113_r4 : List Ins := [
  ⟨some 16, none, .iaddr 2 (.t 12) (.t 14)⟩,
  ⟨some 17, none, .load 2 true (.t 16)⟩,
  ⟨some 7, none, .alloc [.int .i64 0, .int .i64 0]⟩,
  ⟨none, none, .store 2 (.t 7) (.t 17)⟩]
abbrev c113_r5 : List Ins := [
  ⟨some 18, none, .mov (.t 2)⟩,
  ⟨some 19, none, .load 2 true (.t 7)⟩,
  ⟨some 20, none, .call (.t 18) [.t 19]⟩]
abbrev c113_r6 : List Ins := [
  ⟨some 21, none, .bin .add (.t 14) (.c (.int .i64 1))⟩,
  ⟨some 14, none, .mov (.t 21)⟩]
abbrev c113_l7 : IR := .seq (.reg c113_r3) (.seq (.cond (.t 15) (.skip) (.exit 0)) (.seq (.blk 1 (.seq (.reg c113_r4) (.reg c113_r5))) (.reg c113_r6)))
abbrev c113 : IR := .seq (.reg c113_r1) (.seq (.reg c113_r2) (.blk 0 (.loop c113_l7)))
abbrev F113 : FnA := ⟨22, c113, []⟩
theorem ok113 : cFn Try.prog 113 = some F113 := by kernel_rfl
theorem hb113 : HasBody Try.prog 113 := ⟨_, Try.func113, by kernel_rfl, by kernel_rfl⟩
/-! recs.putStep$1 -/
abbrev c114_r1 : List Ins := [
  ⟨some 2, none, .box (.t 0)⟩]
abbrev c114_r2 : List Ins := [
  ⟨some 3, none, .load 1 false (.t 1)⟩,
  ⟨some 4, none, .faddr 0 (.t 2)⟩,
  ⟨some 5, none, .load 1 false (.t 4)⟩,
  ⟨some 6, none, .call (.c (.fn 69 [] [])) [.t 3, .t 5]⟩]
abbrev c114_r3 : List Ins := [
  ⟨some 7, none, .load 1 false (.t 1)⟩,
  ⟨some 8, none, .faddr 1 (.t 2)⟩,
  ⟨some 9, none, .load 1 false (.t 8)⟩,
  ⟨some 10, none, .call (.c (.fn 69 [] [])) [.t 7, .t 9]⟩]
abbrev c114 : IR := .seq (.reg c114_r1) (.seq (.reg c114_r2) (.reg c114_r3))
abbrev F114 : FnA := ⟨11, c114, []⟩
theorem ok114 : cFn Try.prog 114 = some F114 := by kernel_rfl
theorem hb114 : HasBody Try.prog 114 := ⟨_, Try.func114, by kernel_rfl, by kernel_rfl⟩
/-! codes.Writer.Signed -/
abbrev c115_r1 : List Ins := [
  ⟨some 4, none, .mov (.t 0)⟩,
  ⟨some 5, none, .mov (.t 1)⟩,
  ⟨some 6, none, .bin .shl (.t 5) (.c (.int .u64 1))⟩,
  ⟨some 7, none, .conv .u64 (.t 6)⟩,
  ⟨some 8, none, .mov (.t 1)⟩,
  ⟨some 9, none, .bin .shr (.t 8) (.c (.int .u64 63))⟩,
  ⟨some 10, none, .conv .u64 (.t 9)⟩,
  ⟨some 11, none, .bin .xor (.t 7) (.t 10)⟩,
  ⟨some 12, none, .bsl 1 1 [.int .u64 0] [(0, .t 11)]⟩,
  ⟨some 13, none, .call (.c (.fn 111 [] [])) [.t 4, .t 12]⟩]
abbrev c115 : IR := .reg c115_r1
abbrev F115 : FnA := ⟨14, c115, []⟩
theorem ok115 : cFn Try.prog 115 = some F115 := by kernel_rfl
theorem hb115 : HasBody Try.prog 115 := ⟨_, Try.func115, by kernel_rfl, by kernel_rfl⟩
/-! recs.list:Change -/
abbrev c116_r1 : List Ins := [
  ⟨some 8, none, .mov (.t 0)⟩,
  ⟨some 9, none, .mov (.t 1)⟩,
  ⟨some 10, none, .len (.t 9)⟩,
  ⟨some 11, none, .call (.c (.fn 69 [] [])) [.t 8, .t 10]⟩]
abbrev c116_r2 : List Ins := [
  ⟨some 12, none, .mov (.t 1)⟩,
  ⟨some 13, none, .len (.t 12)⟩,
  ⟨some 14, none, .mov (.c (.int .i64 0))⟩]
abbrev c116_r3 : List Ins := [
  ⟨some 15, none, .bin .lss (.t 14) (.t 13)⟩]
abbrev c116_r4 : List Ins := [
  ⟨some 16, none, .iaddr 3 (.t 12) (.t 14)⟩,
  ⟨some 17, none, .load 3 true (.t 16)⟩,
  ⟨some 7, none, .alloc [.int .i64 0, .bool false, .int .i64 0]⟩,
  ⟨none, none, .store 3 (.t 7) (.t 17)⟩]
abbrev c116_r5 : List Ins := [
  ⟨some 18, none, .mov (.t 2)⟩,
  ⟨some 19, none, .load 3 true (.t 7)⟩,
  ⟨some 20, none, .call (.t 18) [.t 19]⟩]
abbrev c116_r6 : List Ins := [
  ⟨some 21, none, .bin .add (.t 14) (.c (.int .i64 1))⟩,
  ⟨some 14, none, .mov (.t 21)⟩]
abbrev c116_l7 : IR := .seq (.reg c116_r3) (.seq (.cond (.t 15) (.skip) (.exit 0)) (.seq (.blk 1 (.seq (.reg c116_r4) (.reg c116_r5))) (.reg c116_r6)))
abbrev c116 : IR := .seq (.reg c116_r1) (.seq (.reg c116_r2) (.blk 0 (.loop c116_l7)))
abbrev F116 : FnA := ⟨22, c116, []⟩
theorem ok116 : cFn Try.prog 116 = some F116 := by kernel_rfl
theorem hb116 : HasBody Try.prog 116 := ⟨_, Try.func116, by kernel_rfl, by kernel_rfl⟩
/-! recs.putStep$2 -/
abbrev c117_r1 : List Ins := [
  ⟨some 2, none, .box (.t 0)⟩]
abbrev c117_r2 : List Ins := [
  ⟨some 3, none, .load 1 false (.t 1)⟩,
  ⟨some 4, none, .faddr 0 (.t 2)⟩,
  ⟨some 5, none, .load 1 false (.t 4)⟩,
  ⟨some 6, none, .call (.c (.fn 69 [] [])) [.t 3, .t 5]⟩]
abbrev c117_r3 : List Ins := [
  ⟨some 7, none, .load 1 false (.t 1)⟩,
  ⟨some 8, none, .faddr 1 (.t 2)⟩,
  ⟨some 9, none, .load 1 false (.t 8)⟩,
  ⟨some 10, none, .call (.c (.fn 112 [] [])) [.t 7, .t 9]⟩]
abbrev c117_r4 : List Ins := [
  ⟨some 11, none, .load 1 false (.t 1)⟩,
  ⟨some 12, none, .faddr 2 (.t 2)⟩,
  ⟨some 13, none, .load 1 false (.t 12)⟩,
  ⟨some 14, none, .call (.c (.fn 115 [] [])) [.t 11, .t 13]⟩]
abbrev c117 : IR := .seq (.reg c117_r1) (.seq (.reg c117_r2) (.seq (.reg c117_r3) (.reg c117_r4)))
abbrev F117 : FnA := ⟨15, c117, []⟩
theorem ok117 : cFn Try.prog 117 = some F117 := by kernel_rfl
theorem hb117 : HasBody Try.prog 117 := ⟨_, Try.func117, by kernel_rfl, by kernel_rfl⟩
/-! slices.Clone:uint64 -/
abbrev c118_r1 : List Ins := [
  ⟨some 2, none, .mov (.c (.sl .full []))⟩]
abbrev c118_r2 : List Ins := [
  ⟨some 3, none, .mov (.t 0)⟩,
  ⟨some 4, none, .isnil false (.t 3)⟩]
abbrev c118_r3 : List Ins := [
  ⟨some 2, none, .mov (.c (.sl .full []))⟩]
abbrev c118_r4 : List Ins := [
  ⟨some 5, none, .bsl 1 0 [.int .u64 0] []⟩,
  ⟨some 6, none, .mov (.t 0)⟩,
  ⟨some 7, none, .append 1 8 (.t 5) (.t 6)⟩,
  ⟨some 2, none, .mov (.t 7)⟩]
abbrev c118 : IR := .seq (.reg c118_r1) (.seq (.seq (.reg c118_r2) (.cond (.t 4) (.seq (.reg c118_r3) (.ret)) (.skip))) (.seq (.reg c118_r4) (.ret)))
abbrev F118 : FnA := ⟨8, c118, [.t 2]⟩
theorem ok118 : cFn Try.prog 118 = some F118 := by kernel_rfl
theorem hb118 : HasBody Try.prog 118 := ⟨_, Try.func118, by kernel_rfl, by kernel_rfl⟩
/-! recs.getStep$1 -/
abbrev c119_r1 : List Ins := [
  ⟨some 1, none, .alloc [.int .i64 0, .int .i64 0]⟩]
abbrev c119_r2 : List Ins := [
  ⟨some 2, none, .load 1 false (.t 0)⟩,
  ⟨some 3, none, .call (.c (.fn 35 [] [])) [.t 2, .c (.int .i64 999)]⟩,
  ⟨some 4, none, .load 1 false (.t 0)⟩,
  ⟨some 5, none, .call (.c (.fn 35 [] [])) [.t 4, .c (.int .i64 999)]⟩,
  ⟨some 6, none, .build [.int .i64 0, .int .i64 0] [(0, (1, .t 3)), (1, (1, .t 5))]⟩,
  ⟨none, none, .store 2 (.t 1) (.t 6)⟩]
def c119_a2 : List (List Nat) := [[], [0], [], [2, 1], [1, 3], [4, 3, 0, 1, 2, 3, 4]]
abbrev c119_m2 : List Am.Mark := [⟨false, 0, 0⟩, ⟨true, 0, 1⟩, ⟨false, 0, 1⟩, ⟨true, 1, 2⟩, ⟨false, 2, 2⟩, ⟨true, 2, 3⟩]
theorem c119_d2 : drawFine c119_r2 c119_a2 c119_m2 = true := by decide +kernel
abbrev c119 : IR := .seq (.reg c119_r1) (.seq (.dreg c119_r2 c119_a2) (.ret))
abbrev F119 : FnA := ⟨7, c119, [.cell 1 2 true]⟩
theorem ok119 : cFn Try.prog 119 = some F119 := by kernel_rfl
theorem hb119 : HasBody Try.prog 119 := ⟨_, Try.func119, by kernel_rfl, by kernel_rfl⟩
/-! recs.read:Span -/
abbrev c120_r1 : List Ins := [
  ⟨some 6, none, .mov (.c (.sl .full []))⟩]
abbrev c120_r2 : List Ins := [
  ⟨some 7, none, .mov (.c (.sl .full []))⟩]
abbrev c120_r3 : List Ins := [
  ⟨some 8, none, .mov (.t 0)⟩,
  ⟨some 9, none, .mov (.t 1)⟩,
  ⟨some 10, none, .call (.c (.fn 35 [] [])) [.t 8, .t 9]⟩,
  ⟨some 11, none, .mov (.c (.int .i64 0))⟩]
abbrev c120_r4 : List Ins := [
  ⟨some 12, none, .bin .lss (.t 11) (.t 10)⟩]
abbrev c120_r5 : List Ins := [
  ⟨some 13, none, .mov (.t 7)⟩,
  ⟨some 14, none, .mov (.t 2)⟩,
  ⟨some 15, none, .call (.t 14) []⟩,
  ⟨some 16, none, .bsl 2 1 [.int .i64 0, .int .i64 0] [(0, .t 15)]⟩,
  ⟨some 17, none, .append 2 16 (.t 13) (.t 16)⟩,
  ⟨some 7, none, .mov (.t 17)⟩]
abbrev c120_r6 : List Ins := [
  ⟨some 18, none, .bin .add (.t 11) (.c (.int .i64 1))⟩,
  ⟨some 11, none, .mov (.t 18)⟩]
abbrev c120_l7 : IR := .seq (.reg c120_r4) (.seq (.cond (.t 12) (.skip) (.exit 0)) (.seq (.blk 1 (.reg c120_r5)) (.reg c120_r6)))
abbrev c120_r8 : List Ins := [
  ⟨some 19, none, .mov (.t 7)⟩,
  ⟨some 6, none, .mov (.t 19)⟩]
abbrev c120 : IR := .seq (.reg c120_r1) (.seq (.reg c120_r2) (.seq (.seq (.reg c120_r3) (.blk 0 (.loop c120_l7))) (.seq (.reg c120_r8) (.ret))))
abbrev F120 : FnA := ⟨20, c120, [.t 6]⟩
theorem ok120 : cFn Try.prog 120 = some F120 := by kernel_rfl
theorem hb120 : HasBody Try.prog 120 := ⟨_, Try.func120, by kernel_rfl, by kernel_rfl⟩
/-! codes.Reader.Signed -/
abbrev c121_r1 : List Ins := [
  ⟨some 2, none, .mov (.c (.int .i64 0))⟩]
abbrev c121_r2 : List Ins := [
  ⟨some 4, none, .mov (.t 0)⟩,
  ⟨some 5, none, .call (.c (.fn 91 [] [])) [.t 4, .c (.fn 141 [] [])]⟩,
  ⟨some 3, none, .mov (.t 5)⟩]
abbrev c121_r3 : List Ins := [
  ⟨some 6, none, .mov (.t 3)⟩,
  ⟨some 7, none, .bin .shr (.t 6) (.c (.int .u64 1))⟩,
  ⟨some 8, none, .conv .i64 (.t 7)⟩,
  ⟨some 9, none, .mov (.t 3)⟩,
  ⟨some 10, none, .bin .and (.t 9) (.c (.int .u64 1))⟩,
  ⟨some 11, none, .conv .i64 (.t 10)⟩,
  ⟨some 12, none, .un .neg (.t 11)⟩,
  ⟨some 13, none, .bin .xor (.t 8) (.t 12)⟩,
  ⟨some 2, none, .mov (.t 13)⟩]
abbrev c121 : IR := .seq (.reg c121_r1) (.seq (.reg c121_r2) (.seq (.reg c121_r3) (.ret)))
abbrev F121 : FnA := ⟨14, c121, [.t 2]⟩
theorem ok121 : cFn Try.prog 121 = some F121 := by kernel_rfl
theorem hb121 : HasBody Try.prog 121 := ⟨_, Try.func121, by kernel_rfl, by kernel_rfl⟩
/-! recs.read:Change -/
abbrev c122_r1 : List Ins := [
  ⟨some 6, none, .mov (.c (.sl .full []))⟩]
abbrev c122_r2 : List Ins := [
  ⟨some 7, none, .mov (.c (.sl .full []))⟩]
abbrev c122_r3 : List Ins := [
  ⟨some 8, none, .mov (.t 0)⟩,
  ⟨some 9, none, .mov (.t 1)⟩,
  ⟨some 10, none, .call (.c (.fn 35 [] [])) [.t 8, .t 9]⟩,
  ⟨some 11, none, .mov (.c (.int .i64 0))⟩]
abbrev c122_r4 : List Ins := [
  ⟨some 12, none, .bin .lss (.t 11) (.t 10)⟩]
abbrev c122_r5 : List Ins := [
  ⟨some 13, none, .mov (.t 7)⟩,
  ⟨some 14, none, .mov (.t 2)⟩,
  ⟨some 15, none, .call (.t 14) []⟩,
  ⟨some 16, none, .bsl 3 1 [.int .i64 0, .bool false, .int .i64 0] [(0, .t 15)]⟩,
  ⟨some 17, none, .append 3 24 (.t 13) (.t 16)⟩,
  ⟨some 7, none, .mov (.t 17)⟩]
abbrev c122_r6 : List Ins := [
  ⟨some 18, none, .bin .add (.t 11) (.c (.int .i64 1))⟩,
  ⟨some 11, none, .mov (.t 18)⟩]
abbrev c122_l7 : IR := .seq (.reg c122_r4) (.seq (.cond (.t 12) (.skip) (.exit 0)) (.seq (.blk 1 (.reg c122_r5)) (.reg c122_r6)))
abbrev c122_r8 : List Ins := [
  ⟨some 19, none, .mov (.t 7)⟩,
  ⟨some 6, none, .mov (.t 19)⟩]
abbrev c122 : IR := .seq (.reg c122_r1) (.seq (.reg c122_r2) (.seq (.seq (.reg c122_r3) (.blk 0 (.loop c122_l7))) (.seq (.reg c122_r8) (.ret))))
abbrev F122 : FnA := ⟨20, c122, [.t 6]⟩
theorem ok122 : cFn Try.prog 122 = some F122 := by kernel_rfl
theorem hb122 : HasBody Try.prog 122 := ⟨_, Try.func122, by kernel_rfl, by kernel_rfl⟩
/-! recs.getStep$2 -/
abbrev c123_r1 : List Ins := [
  ⟨some 1, none, .alloc [.int .i64 0, .bool false, .int .i64 0]⟩]
abbrev c123_r2 : List Ins := [
  ⟨some 2, none, .load 1 false (.t 0)⟩,
  ⟨some 3, none, .call (.c (.fn 35 [] [])) [.t 2, .c (.int .i64 999)]⟩,
  ⟨some 4, none, .load 1 false (.t 0)⟩,
  ⟨some 5, none, .call (.c (.fn 37 [] [])) [.t 4]⟩,
  ⟨some 6, none, .load 1 false (.t 0)⟩,
  ⟨some 7, none, .call (.c (.fn 121 [] [])) [.t 6]⟩,
  ⟨some 8, none, .build [.int .i64 0, .bool false, .int .i64 0] [(0, (1, .t 3)), (1, (1, .t 5)), (2, (1, .t 7))]⟩,
  ⟨none, none, .store 3 (.t 1) (.t 8)⟩]
def c123_a2 : List (List Nat) := [[], [0], [], [2, 1], [], [4, 3], [1, 3, 5], [6, 5, 0, 1, 2, 3, 4, 5, 6]]
abbrev c123_m2 : List Am.Mark := [⟨false, 0, 0⟩, ⟨true, 0, 1⟩, ⟨false, 0, 1⟩, ⟨true, 1, 2⟩, ⟨false, 0, 2⟩, ⟨true, 2, 3⟩, ⟨false, 3, 3⟩, ⟨true, 3, 4⟩]
theorem c123_d2 : drawFine c123_r2 c123_a2 c123_m2 = true := by decide +kernel
abbrev c123 : IR := .seq (.reg c123_r1) (.seq (.dreg c123_r2 c123_a2) (.ret))
abbrev F123 : FnA := ⟨9, c123, [.cell 1 3 true]⟩
theorem ok123 : cFn Try.prog 123 = some F123 := by kernel_rfl
theorem hb123 : HasBody Try.prog 123 := ⟨_, Try.func123, by kernel_rfl, by kernel_rfl⟩
/-! ref01.Write -/
abbrev c124_r1 : List Ins := [
  ⟨some 3, none, .box (.t 1)⟩,
  ⟨some 4, none, .mov (.c (.sl .full []))⟩]
abbrev c124_r2 : List Ins := [
  ⟨some 6, none, .faddr 0 (.t 3)⟩,
  ⟨some 7, none, .load 1 false (.t 6)⟩]
abbrev c124_r3 : List Ins := [
  ⟨some 9, none, .bin .eql (.t 7) (.c (.int .i64 0))⟩,
  ⟨some 8, none, .mov (.t 9)⟩]
abbrev c124_r4 : List Ins := [
  ⟨some 10, none, .faddr 1 (.t 3)⟩,
  ⟨some 11, none, .load 1 false (.t 10)⟩,
  ⟨some 12, none, .bin .lss (.t 11) (.c (.int .i64 0))⟩]
abbrev c124_r5 : List Ins := [
  ⟨some 13, none, .mov (.t 0)⟩,
  ⟨some 14, none, .bsl 1 1 [.int .u64 0] [(0, .c (.int .u64 0))]⟩,
  ⟨some 15, none, .append 1 8 (.t 13) (.t 14)⟩,
  ⟨some 4, none, .mov (.t 15)⟩]
abbrev c124_r6 : List Ins := [
  ⟨some 16, none, .mov (.t 0)⟩,
  ⟨some 17, none, .faddr 1 (.t 3)⟩,
  ⟨some 18, none, .load 1 false (.t 17)⟩,
  ⟨some 19, none, .conv .u64 (.t 18)⟩,
  ⟨some 20, none, .bsl 1 1 [.int .u64 0] [(0, .t 19)]⟩,
  ⟨some 21, none, .append 1 8 (.t 16) (.t 20)⟩,
  ⟨some 4, none, .mov (.t 21)⟩]
abbrev c124_r7 : List Ins := [
  ⟨some 23, none, .bin .eql (.t 7) (.c (.int .i64 1))⟩,
  ⟨some 22, none, .mov (.t 23)⟩]
abbrev c124_r8 : List Ins := [
  ⟨some 24, none, .mov (.t 0)⟩,
  ⟨some 25, none, .faddr 3 (.t 3)⟩,
  ⟨some 26, none, .load 1 false (.t 25)⟩,
  ⟨some 27, none, .call (.c (.fn 142 [] [])) [.t 26]⟩,
  ⟨some 28, none, .bsl 1 1 [.int .u64 0] [(0, .t 27)]⟩,
  ⟨some 29, none, .append 1 8 (.t 24) (.t 28)⟩,
  ⟨some 4, none, .mov (.t 29)⟩]
abbrev c124_r9 : List Ins := [
  ⟨some 31, none, .bin .eql (.t 7) (.c (.int .i64 2))⟩,
  ⟨some 30, none, .mov (.t 31)⟩]
abbrev c124_r10 : List Ins := [
  ⟨some 32, none, .faddr 1 (.t 3)⟩,
  ⟨some 33, none, .load 1 false (.t 32)⟩,
  ⟨some 34, none, .bin .eql (.t 33) (.c (.int .i64 1))⟩]
abbrev c124_r11 : List Ins := [
  ⟨some 35, none, .mov (.t 0)⟩,
  ⟨some 36, none, .bsl 1 1 [.int .u64 0] [(0, .c (.int .u64 1))]⟩,
  ⟨some 37, none, .append 1 8 (.t 35) (.t 36)⟩,
  ⟨some 4, none, .mov (.t 37)⟩]
abbrev c124_r12 : List Ins := [
  ⟨some 38, none, .mov (.t 0)⟩,
  ⟨some 39, none, .bsl 1 1 [.int .u64 0] [(0, .c (.int .u64 0))]⟩,
  ⟨some 40, none, .append 1 8 (.t 38) (.t 39)⟩,
  ⟨some 4, none, .mov (.t 40)⟩]
abbrev c124_r13 : List Ins := [
  ⟨some 42, none, .bin .eql (.t 7) (.c (.int .i64 3))⟩,
  ⟨some 41, none, .mov (.t 42)⟩]
abbrev c124_r14 : List Ins := [
  ⟨some 43, none, .faddr 4 (.t 3)⟩,
  ⟨some 44, none, .load 1 false (.t 43)⟩,
  ⟨some 5, none, .mov (.t 44)⟩]
abbrev c124_r15 : List Ins := [
  ⟨some 45, none, .mov (.t 5)⟩,
  ⟨some 46, none, .lenS (.t 45)⟩,
  ⟨some 47, none, .bin .gtr (.t 46) (.c (.int .i64 64))⟩]
abbrev c124_r16 : List Ins := [
  ⟨some 48, none, .mov (.t 5)⟩,
  ⟨some 49, none, .sliceS (.t 48) none (some (.c (.int .i64 64)))⟩,
  ⟨some 5, none, .mov (.t 49)⟩]
abbrev c124_r17 : List Ins := [
  ⟨some 50, none, .mov (.t 0)⟩,
  ⟨some 51, none, .mov (.t 5)⟩,
  ⟨some 52, none, .lenS (.t 51)⟩,
  ⟨some 53, none, .conv .u64 (.t 52)⟩,
  ⟨some 54, none, .bsl 1 1 [.int .u64 0] [(0, .t 53)]⟩,
  ⟨some 55, none, .append 1 8 (.t 50) (.t 54)⟩,
  ⟨some 56, none, .mov (.t 5)⟩,
  ⟨some 57, none, .call (.c (.fn 143 [] [])) [.t 56]⟩,
  ⟨some 58, none, .append 1 8 (.t 55) (.t 57)⟩,
  ⟨some 4, none, .mov (.t 58)⟩]
abbrev c124_r18 : List Ins := [
  ⟨some 59, none, .mov (.t 0)⟩,
  ⟨some 60, none, .faddr 5 (.t 3)⟩,
  ⟨some 61, none, .load 1 false (.t 60)⟩,
  ⟨some 62, none, .len (.t 61)⟩,
  ⟨some 63, none, .conv .u64 (.t 62)⟩,
  ⟨some 64, none, .bsl 1 1 [.int .u64 0] [(0, .t 63)]⟩,
  ⟨some 65, none, .append 1 8 (.t 59) (.t 64)⟩,
  ⟨some 66, none, .faddr 5 (.t 3)⟩,
  ⟨some 67, none, .load 1 false (.t 66)⟩,
  ⟨some 68, none, .append 1 8 (.t 65) (.t 67)⟩,
  ⟨some 4, none, .mov (.t 68)⟩]
def c124_a18 : List (List Nat) := [[], [], [1], [2], [3], [4], [0, 5], [], [7], [6, 8, 6], [9, 9, 0, 1, 2, 3, 4, 5, 6, 7, 8, 9]]
abbrev c124_m18 : List Am.Mark := [⟨false, 0, 0⟩, ⟨false, 0, 2⟩, ⟨false, 0, 2⟩, ⟨false, 0, 2⟩, ⟨false, 0, 2⟩, ⟨false, 0, 0⟩, ⟨true, 0, 1⟩, ⟨false, 0, 2⟩, ⟨false, 0, 1⟩, ⟨true, 1, 2⟩, ⟨false, 2, 2⟩]
theorem c124_d18 : drawFine c124_r18 c124_a18 c124_m18 = true := by decide +kernel
abbrev c124 : IR := .seq (.reg c124_r1) (.seq (.seq (.reg c124_r2) (.blk 0 (.seq (.reg c124_r3) (.cond (.t 8) (.seq (.seq (.reg c124_r4) (.cond (.t 12) (.seq (.reg c124_r5) (.ret)) (.skip))) (.seq (.reg c124_r6) (.ret))) (.seq (.reg c124_r7) (.cond (.t 22) (.seq (.reg c124_r8) (.ret)) (.seq (.reg c124_r9) (.cond (.t 30) (.seq (.seq (.reg c124_r10) (.cond (.t 34) (.seq (.reg c124_r11) (.ret)) (.skip))) (.seq (.reg c124_r12) (.ret))) (.seq (.reg c124_r13) (.cond (.t 41) (.seq (.reg c124_r14) (.seq (.seq (.reg c124_r15) (.cond (.t 47) (.reg c124_r16) (.skip))) (.seq (.reg c124_r17) (.ret)))) (.skip))))))))))) (.seq (.dreg c124_r18 c124_a18) (.ret)))
abbrev F124 : FnA := ⟨69, c124, [.t 4]⟩
theorem ok124 : cFn Try.prog 124 = some F124 := by kernel_rfl
theorem hb124 : HasBody Try.prog 124 := ⟨_, Try.func124, by kernel_rfl, by kernel_rfl⟩
/-! slices.IndexFunc:int -/
abbrev c125_r1 : List Ins := [
  ⟨some 4, none, .mov (.c (.int .i64 0))⟩]
abbrev c125_r2 : List Ins := [
  ⟨some 6, none, .mov (.t 0)⟩,
  ⟨some 7, none, .len (.t 6)⟩,
  ⟨some 8, none, .mov (.c (.int .i64 0))⟩]
abbrev c125_r3 : List Ins := [
  ⟨some 9, none, .bin .lss (.t 8) (.t 7)⟩]
abbrev c125_r4 : List Ins := [
  ⟨some 10, none, .mov (.t 8)⟩,
  ⟨some 5, none, .mov (.t 10)⟩]
abbrev c125_r5 : List Ins := [
  ⟨some 11, none, .mov (.t 1)⟩,
  ⟨some 12, none, .mov (.t 0)⟩,
  ⟨some 13, none, .mov (.t 5)⟩,
  ⟨some 14, none, .iaddr 1 (.t 12) (.t 13)⟩,
  ⟨some 15, none, .load 1 false (.t 14)⟩,
  ⟨some 16, none, .call (.t 11) [.t 15]⟩]
abbrev c125_r6 : List Ins := [
  ⟨some 17, none, .mov (.t 5)⟩,
  ⟨some 4, none, .mov (.t 17)⟩]
abbrev c125_r7 : List Ins := [
  ⟨some 18, none, .bin .add (.t 8) (.c (.int .i64 1))⟩,
  ⟨some 8, none, .mov (.t 18)⟩]
abbrev c125_l8 : IR := .seq (.reg c125_r3) (.seq (.cond (.t 9) (.skip) (.exit 0)) (.seq (.blk 1 (.seq (.reg c125_r4) (.seq (.reg c125_r5) (.cond (.t 16) (.seq (.reg c125_r6) (.ret)) (.skip))))) (.reg c125_r7)))
abbrev c125_r9 : List Ins := [
  ⟨some 4, none, .mov (.c (.int .i64 (-1)))⟩]
abbrev c125 : IR := .seq (.reg c125_r1) (.seq (.seq (.reg c125_r2) (.blk 0 (.loop c125_l8))) (.seq (.reg c125_r9) (.ret)))
abbrev F125 : FnA := ⟨19, c125, [.t 4]⟩
theorem ok125 : cFn Try.prog 125 = some F125 := by kernel_rfl
theorem hb125 : HasBody Try.prog 125 := ⟨_, Try.func125, by kernel_rfl, by kernel_rfl⟩
/-! keys.All -/
abbrev c126_r1 : List Ins := [
  ⟨some 2, none, .mov (.c (.sl .full []))⟩]
abbrev c126_r2 : List Ins := [
  ⟨some 3, none, .mov (.c (.sl .full []))⟩]
abbrev c126_r3 : List Ins := [
  ⟨some 7, none, .mov (.t 0)⟩,
  ⟨some 8, none, .bsl 1 1 [.sl .full []] [(0, .t 7)]⟩,
  ⟨some 9, none, .call (.c (.fn 134 [] [])) [.t 8]⟩,
  ⟨some 10, none, .len (.t 9)⟩,
  ⟨some 11, none, .mov (.c (.int .i64 0))⟩]
abbrev c126_r4 : List Ins := [
  ⟨some 12, none, .bin .lss (.t 11) (.t 10)⟩]
abbrev c126_r5 : List Ins := [
  ⟨some 13, none, .iaddr 2 (.t 9) (.t 11)⟩,
  ⟨some 14, none, .load 2 true (.t 13)⟩,
  ⟨some 5, none, .alloc [.int .i64 0, .int .i64 0]⟩,
  ⟨none, none, .store 2 (.t 5) (.t 14)⟩]
abbrev c126_r6 : List Ins := [
  ⟨some 15, none, .faddr 0 (.t 5)⟩,
  ⟨some 16, none, .load 1 false (.t 15)⟩,
  ⟨some 6, none, .mov (.t 16)⟩]
abbrev c126_r7 : List Ins := [
  ⟨some 17, none, .mov (.t 6)⟩,
  ⟨some 18, none, .faddr 1 (.t 5)⟩,
  ⟨some 19, none, .load 1 false (.t 18)⟩,
  ⟨some 20, none, .bin .leq (.t 17) (.t 19)⟩]
abbrev c126_r8 : List Ins := [
  ⟨some 23, none, .mov (.t 3)⟩,
  ⟨some 24, none, .mov (.t 6)⟩,
  ⟨some 25, none, .bsl 1 1 [.int .i64 0] [(0, .t 24)]⟩,
  ⟨some 26, none, .append 1 8 (.t 23) (.t 25)⟩,
  ⟨some 3, none, .mov (.t 26)⟩]
abbrev c126_r9 : List Ins := [
  ⟨some 21, none, .mov (.t 6)⟩,
  ⟨some 22, none, .bin .add (.t 21) (.c (.int .i64 1))⟩,
  ⟨some 6, none, .mov (.t 22)⟩]
abbrev c126_l10 : IR := .seq (.seq (.reg c126_r7) (.cond (.t 20) (.skip) (.exit 2))) (.seq (.blk 3 (.reg c126_r8)) (.reg c126_r9))
abbrev c126_r11 : List Ins := [
  ⟨some 27, none, .bin .add (.t 11) (.c (.int .i64 1))⟩,
  ⟨some 11, none, .mov (.t 27)⟩]
abbrev c126_l12 : IR := .seq (.reg c126_r4) (.seq (.cond (.t 12) (.skip) (.exit 0)) (.seq (.blk 1 (.seq (.reg c126_r5) (.seq (.reg c126_r6) (.blk 2 (.loop c126_l10))))) (.reg c126_r11)))
abbrev c126_r13 : List Ins := [
  ⟨some 28, none, .mov (.t 3)⟩,
  ⟨some 2, none, .mov (.t 28)⟩]
abbrev c126 : IR := .seq (.reg c126_r1) (.seq (.reg c126_r2) (.seq (.seq (.reg c126_r3) (.blk 0 (.loop c126_l12))) (.seq (.reg c126_r13) (.ret))))
abbrev F126 : FnA := ⟨29, c126, [.t 2]⟩
theorem ok126 : cFn Try.prog 126 = some F126 := by kernel_rfl
theorem hb126 : HasBody Try.prog 126 := ⟨_, Try.func126, by kernel_rfl, by kernel_rfl⟩
/-! keys.plain -/
abbrev c134_r1 : List Ins := [
  ⟨some 2, none, .mov (.c (.sl .full []))⟩]
abbrev c134_r2 : List Ins := [
  ⟨some 8, none, .mov (.t 0)⟩,
  ⟨some 9, none, .call (.c (.fn 146 [] [])) [.t 8]⟩,
  ⟨some 10, none, .call (.c (.fn 145 [] [])) [.t 9, .c (.fn 147 [] [])]⟩,
  ⟨some 3, none, .mov (.t 10)⟩]
abbrev c134_r3 : List Ins := [
  ⟨some 11, none, .mov (.t 3)⟩,
  ⟨some 12, none, .call (.c (.fn 149 [] [])) [.t 11, .c (.fn 150 [] [])]⟩]
abbrev c134_r4 : List Ins := [
  ⟨some 4, none, .mov (.c (.sl .full []))⟩]
abbrev c134_r5 : List Ins := [
  ⟨some 13, none, .mov (.t 3)⟩,
  ⟨some 14, none, .len (.t 13)⟩,
  ⟨some 15, none, .mov (.c (.int .i64 0))⟩]
abbrev c134_r6 : List Ins := [
  ⟨some 16, none, .bin .lss (.t 15) (.t 14)⟩]
abbrev c134_r7 : List Ins := [
  ⟨some 17, none, .iaddr 2 (.t 13) (.t 15)⟩,
  ⟨some 18, none, .load 2 true (.t 17)⟩,
  ⟨some 6, none, .alloc [.int .i64 0, .int .i64 0]⟩,
  ⟨none, none, .store 2 (.t 6) (.t 18)⟩]
abbrev c134_r8 : List Ins := [
  ⟨some 19, none, .mov (.t 4)⟩,
  ⟨some 20, none, .len (.t 19)⟩,
  ⟨some 7, none, .mov (.t 20)⟩]
abbrev c134_r9 : List Ins := [
  ⟨some 21, none, .mov (.t 7)⟩,
  ⟨some 22, none, .bin .gtr (.t 21) (.c (.int .i64 0))⟩,
  ⟨some 23, none, .mov (.t 22)⟩,
  ⟨some 24, some (23, true), .faddr 0 (.t 6)⟩,
  ⟨some 25, some (23, true), .load 1 false (.t 24)⟩,
  ⟨some 26, some (23, true), .mov (.t 4)⟩,
  ⟨some 27, some (23, true), .mov (.t 7)⟩,
  ⟨some 28, some (23, true), .bin .sub (.t 27) (.c (.int .i64 1))⟩,
  ⟨some 29, some (23, true), .iaddr 2 (.t 26) (.t 28)⟩,
  ⟨some 30, some (23, true), .faddr 1 (.t 29)⟩,
  ⟨some 31, some (23, true), .load 1 false (.t 30)⟩,
  ⟨some 32, some (23, true), .bin .add (.t 31) (.c (.int .i64 1))⟩,
  ⟨some 33, some (23, true), .bin .leq (.t 25) (.t 32)⟩,
  ⟨some 34, none, .pick (.t 23) (.t 33) (.c (.bool false))⟩]
def c134_a9 : List (List Nat) := [[], [0], [1], [2], [3, 2], [2], [2], [6, 2], [5, 7, 2], [8, 2], [9, 2], [10, 2], [4, 11, 2], [2, 12]]
abbrev c134_m9 : List Am.Mark := [⟨false, 0, 0⟩, ⟨false, 0, 0⟩, ⟨false, 0, 0⟩, ⟨false, 0, 0⟩, ⟨false, 0, 0⟩, ⟨false, 0, 0⟩, ⟨false, 0, 0⟩, ⟨false, 0, 0⟩, ⟨false, 0, 0⟩, ⟨false, 0, 0⟩, ⟨false, 0, 0⟩, ⟨false, 0, 0⟩, ⟨false, 0, 0⟩, ⟨false, 0, 0⟩]
theorem c134_d9 : drawFine c134_r9 c134_a9 c134_m9 = true := by decide +kernel
abbrev c134_r10 : List Ins := [
  ⟨some 35, none, .mov (.t 4)⟩,
  ⟨some 36, none, .mov (.t 7)⟩,
  ⟨some 37, none, .bin .sub (.t 36) (.c (.int .i64 1))⟩,
  ⟨some 38, none, .mov (.t 4)⟩,
  ⟨some 39, none, .mov (.t 7)⟩,
  ⟨some 40, none, .bin .sub (.t 39) (.c (.int .i64 1))⟩,
  ⟨some 41, none, .iaddr 2 (.t 38) (.t 40)⟩,
  ⟨some 42, none, .faddr 1 (.t 41)⟩,
  ⟨some 43, none, .load 1 false (.t 42)⟩,
  ⟨some 44, none, .faddr 1 (.t 6)⟩,
  ⟨some 45, none, .load 1 false (.t 44)⟩,
  ⟨some 46, none, .mx [.t 43, .t 45]⟩,
  ⟨some 47, none, .iaddr 2 (.t 35) (.t 37)⟩,
  ⟨some 48, none, .faddr 1 (.t 47)⟩,
  ⟨none, none, .store 1 (.t 48) (.t 46)⟩]
def c134_a10 : List (List Nat) := [[], [], [1], [], [], [4], [3, 5], [6], [7], [], [9], [8, 10], [0, 2, 0, 1, 2, 3, 4, 5, 6, 7, 8, 9, 10, 11], [12, 0, 1, 2, 3, 4, 5, 6, 7, 8, 9, 10, 11], [13, 11, 0, 1, 2, 3, 4, 5, 6, 7, 8, 9, 10, 11]]
abbrev c134_m10 : List Am.Mark := [⟨false, 0, 0⟩, ⟨false, 0, 0⟩, ⟨false, 0, 0⟩, ⟨false, 0, 0⟩, ⟨false, 0, 0⟩, ⟨false, 0, 0⟩, ⟨false, 0, 0⟩, ⟨false, 0, 0⟩, ⟨false, 0, 0⟩, ⟨false, 0, 0⟩, ⟨false, 0, 0⟩, ⟨false, 0, 0⟩, ⟨false, 0, 1⟩, ⟨false, 0, 0⟩, ⟨true, 0, 1⟩]
theorem c134_d10 : drawFine c134_r10 c134_a10 c134_m10 = true := by decide +kernel
abbrev c134_r11 : List Ins := [
  ⟨some 49, none, .mov (.t 4)⟩,
  ⟨some 50, none, .load 2 true (.t 6)⟩,
  ⟨some 51, none, .bsl 2 1 [.int .i64 0, .int .i64 0] [(0, .t 50)]⟩,
  ⟨some 52, none, .append 2 16 (.t 49) (.t 51)⟩,
  ⟨some 4, none, .mov (.t 52)⟩]
abbrev c134_r12 : List Ins := [
  ⟨some 53, none, .bin .add (.t 15) (.c (.int .i64 1))⟩,
  ⟨some 15, none, .mov (.t 53)⟩]
abbrev c134_l13 : IR := .seq (.reg c134_r6) (.seq (.cond (.t 16) (.skip) (.exit 0)) (.seq (.blk 1 (.seq (.reg c134_r7) (.seq (.reg c134_r8) (.seq (.seq (.dreg c134_r9 c134_a9) (.cond (.t 34) (.seq (.dreg c134_r10 c134_a10) (.exit 1)) (.skip))) (.reg c134_r11))))) (.reg c134_r12)))
abbrev c134_r14 : List Ins := [
  ⟨some 54, none, .mov (.t 4)⟩,
  ⟨some 2, none, .mov (.t 54)⟩]
abbrev c134 : IR := .seq (.reg c134_r1) (.seq (.reg c134_r2) (.seq (.reg c134_r3) (.seq (.reg c134_r4) (.seq (.seq (.reg c134_r5) (.blk 0 (.loop c134_l13))) (.seq (.reg c134_r14) (.ret))))))
abbrev F134 : FnA := ⟨55, c134, [.t 2]⟩
theorem ok134 : cFn Try.prog 134 = some F134 := by kernel_rfl
theorem hb134 : HasBody Try.prog 134 := ⟨_, Try.func134, by kernel_rfl, by kernel_rfl⟩
/-! codes.Reader.Signed$1 -/
abbrev c141_r1 : List Ins := [
  ⟨some 2, none, .mov (.c (.bool false))⟩]
abbrev c141_r2 : List Ins := [
  ⟨some 2, none, .mov (.c (.bool true))⟩]
abbrev c141 : IR := .seq (.reg c141_r1) (.seq (.reg c141_r2) (.ret))
abbrev F141 : FnA := ⟨3, c141, [.t 2]⟩
theorem ok141 : cFn Try.prog 141 = some F141 := by kernel_rfl
theorem hb141 : HasBody Try.prog 141 := ⟨_, Try.func141, by kernel_rfl, by kernel_rfl⟩
/-! ref01.Signed -/
abbrev c142_r1 : List Ins := [
  ⟨some 2, none, .mov (.c (.int .u64 0))⟩]
abbrev c142_r2 : List Ins := [
  ⟨some 3, none, .mov (.t 0)⟩,
  ⟨some 4, none, .bin .geq (.t 3) (.c (.int .i64 0))⟩]
abbrev c142_r3 : List Ins := [
  ⟨some 5, none, .mov (.t 0)⟩,
  ⟨some 6, none, .conv .u64 (.t 5)⟩,
  ⟨some 7, none, .bin .mul (.c (.int .u64 2)) (.t 6)⟩,
  ⟨some 2, none, .mov (.t 7)⟩]
abbrev c142_r4 : List Ins := [
  ⟨some 8, none, .mov (.t 0)⟩,
  ⟨some 9, none, .bin .add (.t 8) (.c (.int .i64 1))⟩,
  ⟨some 10, none, .un .neg (.t 9)⟩,
  ⟨some 11, none, .conv .u64 (.t 10)⟩,
  ⟨some 12, none, .bin .mul (.c (.int .u64 2)) (.t 11)⟩,
  ⟨some 13, none, .bin .add (.t 12) (.c (.int .u64 1))⟩,
  ⟨some 2, none, .mov (.t 13)⟩]
abbrev c142 : IR := .seq (.reg c142_r1) (.seq (.seq (.reg c142_r2) (.cond (.t 4) (.seq (.reg c142_r3) (.ret)) (.skip))) (.seq (.reg c142_r4) (.ret)))
abbrev F142 : FnA := ⟨14, c142, [.t 2]⟩
theorem ok142 : cFn Try.prog 142 = some F142 := by kernel_rfl
theorem hb142 : HasBody Try.prog 142 := ⟨_, Try.func142, by kernel_rfl, by kernel_rfl⟩
/-! ref01.Packed -/
abbrev c143_r1 : List Ins := [
  ⟨some 2, none, .mov (.c (.sl .full []))⟩]
abbrev c143_r2 : List Ins := [
  ⟨some 3, none, .mov (.c (.sl .full []))⟩]
abbrev c143_r3 : List Ins := [
  ⟨some 4, none, .mov (.c (.int .i64 0))⟩]
abbrev c143_r4 : List Ins := [
  ⟨some 7, none, .mov (.t 4)⟩,
  ⟨some 8, none, .mov (.t 0)⟩,
  ⟨some 9, none, .lenS (.t 8)⟩,
  ⟨some 10, none, .bin .lss (.t 7) (.t 9)⟩]
abbrev c143_r5 : List Ins := [
  ⟨some 5, none, .mov (.c (.int .u64 0))⟩]
abbrev c143_r6 : List Ins := [
  ⟨some 6, none, .mov (.c (.int .i64 7))⟩]
abbrev c143_r7 : List Ins := [
  ⟨some 13, none, .mov (.t 6)⟩,
  ⟨some 14, none, .bin .geq (.t 13) (.c (.int .i64 0))⟩]
abbrev c143_r8 : List Ins := [
  ⟨some 17, none, .mov (.t 5)⟩,
  ⟨some 18, none, .bin .mul (.t 17) (.c (.int .u64 256))⟩,
  ⟨some 5, none, .mov (.t 18)⟩]
abbrev c143_r9 : List Ins := [
  ⟨some 19, none, .mov (.t 4)⟩,
  ⟨some 20, none, .mov (.t 6)⟩,
  ⟨some 21, none, .bin .add (.t 19) (.t 20)⟩,
  ⟨some 22, none, .mov (.t 0)⟩,
  ⟨some 23, none, .lenS (.t 22)⟩,
  ⟨some 24, none, .bin .lss (.t 21) (.t 23)⟩]
abbrev c143_r10 : List Ins := [
  ⟨some 25, none, .mov (.t 5)⟩,
  ⟨some 26, none, .mov (.t 0)⟩,
  ⟨some 27, none, .mov (.t 4)⟩,
  ⟨some 28, none, .mov (.t 6)⟩,
  ⟨some 29, none, .bin .add (.t 27) (.t 28)⟩,
  ⟨some 30, none, .idxS (.t 26) (.t 29)⟩,
  ⟨some 31, none, .conv .u64 (.t 30)⟩,
  ⟨some 32, none, .bin .add (.t 25) (.t 31)⟩,
  ⟨some 5, none, .mov (.t 32)⟩]
abbrev c143_r11 : List Ins := [
  ⟨some 15, none, .mov (.t 6)⟩,
  ⟨some 16, none, .bin .sub (.t 15) (.c (.int .i64 1))⟩,
  ⟨some 6, none, .mov (.t 16)⟩]
abbrev c143_l12 : IR := .seq (.seq (.reg c143_r7) (.cond (.t 14) (.skip) (.exit 2))) (.seq (.blk 3 (.seq (.reg c143_r8) (.seq (.reg c143_r9) (.cond (.t 24) (.reg c143_r10) (.skip))))) (.reg c143_r11))
abbrev c143_r13 : List Ins := [
  ⟨some 33, none, .mov (.t 3)⟩,
  ⟨some 34, none, .mov (.t 5)⟩,
  ⟨some 35, none, .bsl 1 1 [.int .u64 0] [(0, .t 34)]⟩,
  ⟨some 36, none, .append 1 8 (.t 33) (.t 35)⟩,
  ⟨some 3, none, .mov (.t 36)⟩]
abbrev c143_r14 : List Ins := [
  ⟨some 11, none, .mov (.t 4)⟩,
  ⟨some 12, none, .bin .add (.t 11) (.c (.int .i64 8))⟩,
  ⟨some 4, none, .mov (.t 12)⟩]
abbrev c143_l15 : IR := .seq (.seq (.reg c143_r4) (.cond (.t 10) (.skip) (.exit 0))) (.seq (.blk 1 (.seq (.reg c143_r5) (.seq (.seq (.reg c143_r6) (.blk 2 (.loop c143_l12))) (.reg c143_r13)))) (.reg c143_r14))
abbrev c143_r16 : List Ins := [
  ⟨some 37, none, .mov (.t 3)⟩,
  ⟨some 2, none, .mov (.t 37)⟩]
abbrev c143 : IR := .seq (.reg c143_r1) (.seq (.reg c143_r2) (.seq (.seq (.reg c143_r3) (.blk 0 (.loop c143_l15))) (.seq (.reg c143_r16) (.ret))))
abbrev F143 : FnA := ⟨38, c143, [.t 2]⟩
theorem ok143 : cFn Try.prog 143 = some F143 := by kernel_rfl
theorem hb143 : HasBody Try.prog 143 := ⟨_, Try.func143, by kernel_rfl, by kernel_rfl⟩
/-! slices.DeleteFunc:Span -/
abbrev c145_r1 : List Ins := [
  ⟨some 4, none, .mov (.c (.sl .full []))⟩]
abbrev c145_r2 : List Ins := [
  ⟨some 8, none, .mov (.t 0)⟩,
  ⟨some 9, none, .mov (.t 1)⟩,
  ⟨some 10, none, .call (.c (.fn 153 [] [])) [.t 8, .t 9]⟩,
  ⟨some 5, none, .mov (.t 10)⟩]
abbrev c145_r3 : List Ins := [
  ⟨some 11, none, .mov (.t 5)⟩,
  ⟨some 12, none, .bin .eql (.t 11) (.c (.int .i64 (-1)))⟩]
abbrev c145_r4 : List Ins := [
  ⟨some 13, none, .mov (.t 0)⟩,
  ⟨some 4, none, .mov (.t 13)⟩]
abbrev c145_r5 : List Ins := [
  ⟨some 14, none, .mov (.t 5)⟩,
  ⟨some 15, none, .bin .add (.t 14) (.c (.int .i64 1))⟩,
  ⟨some 6, none, .mov (.t 15)⟩]
abbrev c145_r6 : List Ins := [
  ⟨some 16, none, .mov (.t 6)⟩,
  ⟨some 17, none, .mov (.t 0)⟩,
  ⟨some 18, none, .len (.t 17)⟩,
  ⟨some 19, none, .bin .lss (.t 16) (.t 18)⟩]
abbrev c145_r7 : List Ins := [
  ⟨some 22, none, .mov (.t 0)⟩,
  ⟨some 23, none, .mov (.t 6)⟩,
  ⟨some 24, none, .iaddr 2 (.t 22) (.t 23)⟩,
  ⟨some 25, none, .load 2 true (.t 24)⟩,
  ⟨some 7, none, .alloc [.int .i64 0, .int .i64 0]⟩,
  ⟨none, none, .store 2 (.t 7) (.t 25)⟩]
abbrev c145_r8 : List Ins := [
  ⟨some 26, none, .mov (.t 1)⟩,
  ⟨some 27, none, .load 2 true (.t 7)⟩,
  ⟨some 28, none, .call (.t 26) [.t 27]⟩,
  ⟨some 29, none, .un .not (.t 28)⟩]
abbrev c145_r9 : List Ins := [
  ⟨some 30, none, .mov (.t 0)⟩,
  ⟨some 31, none, .mov (.t 5)⟩,
  ⟨some 32, none, .load 2 true (.t 7)⟩,
  ⟨some 33, none, .iaddr 2 (.t 30) (.t 31)⟩,
  ⟨none, none, .store 2 (.t 33) (.t 32)⟩]
abbrev c145_r10 : List Ins := [
  ⟨some 34, none, .mov (.t 5)⟩,
  ⟨some 35, none, .bin .add (.t 34) (.c (.int .i64 1))⟩,
  ⟨some 5, none, .mov (.t 35)⟩]
abbrev c145_r11 : List Ins := [
  ⟨some 20, none, .mov (.t 6)⟩,
  ⟨some 21, none, .bin .add (.t 20) (.c (.int .i64 1))⟩,
  ⟨some 6, none, .mov (.t 21)⟩]
abbrev c145_l12 : IR := .seq (.seq (.reg c145_r6) (.cond (.t 19) (.skip) (.exit 0))) (.seq (.blk 1 (.seq (.reg c145_r7) (.seq (.reg c145_r8) (.cond (.t 29) (.seq (.reg c145_r9) (.reg c145_r10)) (.skip))))) (.reg c145_r11))
abbrev c145_r13 : List Ins := [
  ⟨some 36, none, .mov (.t 0)⟩,
  ⟨some 37, none, .mov (.t 5)⟩,
  ⟨some 38, none, .slice 2 (.t 36) (some (.t 37)) none none⟩,
  ⟨none, none, .clear 2 [.int .i64 0, .int .i64 0] (.t 38)⟩]
abbrev c145_r14 : List Ins := [
  ⟨some 39, none, .mov (.t 0)⟩,
  ⟨some 40, none, .mov (.t 5)⟩,
  ⟨some 41, none, .slice 2 (.t 39) none (some (.t 40)) none⟩,
  ⟨some 4, none, .mov (.t 41)⟩]
abbrev c145 : IR := .seq (.reg c145_r1) (.seq (.reg c145_r2) (.seq (.seq (.reg c145_r3) (.cond (.t 12) (.seq (.reg c145_r4) (.ret)) (.skip))) (.seq (.seq (.reg c145_r5) (.blk 0 (.loop c145_l12))) (.seq (.reg c145_r13) (.seq (.reg c145_r14) (.ret))))))
abbrev F145 : FnA := ⟨42, c145, [.t 4]⟩
theorem ok145 : cFn Try.prog 145 = some F145 := by kernel_rfl
theorem hb145 : HasBody Try.prog 145 := ⟨_, Try.func145, by kernel_rfl, by kernel_rfl⟩
/-! slices.Concat:Span -/
abbrev c146_r1 : List Ins := [
  ⟨some 2, none, .mov (.c (.sl .full []))⟩]
abbrev c146_r2 : List Ins := [
  ⟨some 3, none, .mov (.c (.int .i64 0))⟩]
abbrev c146_r3 : List Ins := [
  ⟨some 9, none, .mov (.t 0)⟩,
  ⟨some 10, none, .len (.t 9)⟩,
  ⟨some 11, none, .mov (.c (.int .i64 0))⟩]
abbrev c146_r4 : List Ins := [
  ⟨some 12, none, .bin .lss (.t 11) (.t 10)⟩]
abbrev c146_r5 : List Ins := [
  ⟨some 13, none, .iaddr 1 (.t 9) (.t 11)⟩,
  ⟨some 14, none, .load 1 false (.t 13)⟩,
  ⟨some 5, none, .mov (.t 14)⟩]
abbrev c146_r6 : List Ins := [
  ⟨some 15, none, .mov (.t 3)⟩,
  ⟨some 16, none, .mov (.t 5)⟩,
  ⟨some 17, none, .len (.t 16)⟩,
  ⟨some 18, none, .bin .add (.t 15) (.t 17)⟩,
  ⟨some 3, none, .mov (.t 18)⟩]
abbrev c146_r7 : List Ins := [
  ⟨some 19, none, .mov (.t 3)⟩,
  ⟨some 20, none, .bin .lss (.t 19) (.c (.int .i64 0))⟩]
abbrev c146_r8 : List Ins := [
  ⟨some 21, none, .copy 0 (.c .undef) (.c .undef)⟩,
  ⟨none, none, .copy 0 (.c .undef) (.c .undef)⟩]
abbrev c146_r9 : List Ins := [
  ⟨some 22, none, .bin .add (.t 11) (.c (.int .i64 1))⟩,
  ⟨some 11, none, .mov (.t 22)⟩]
abbrev c146_l10 : IR := .seq (.reg c146_r4) (.seq (.cond (.t 12) (.skip) (.exit 0)) (.seq (.blk 1 (.seq (.reg c146_r5) (.seq (.reg c146_r6) (.seq (.reg c146_r7) (.cond (.t 20) (.reg c146_r8) (.skip)))))) (.reg c146_r9)))
abbrev c146_r11 : List Ins := [
  ⟨some 23, none, .mov (.t 3)⟩,
  ⟨some 24, none, .call (.c (.fn 154 [] [])) [.c (.sl .full []), .t 23]⟩,
  ⟨some 6, none, .mov (.t 24)⟩]
abbrev c146_r12 : List Ins := [
  ⟨some 25, none, .mov (.t 0)⟩,
  ⟨some 26, none, .len (.t 25)⟩,
  ⟨some 27, none, .mov (.c (.int .i64 0))⟩]
abbrev c146_r13 : List Ins := [
  ⟨some 28, none, .bin .lss (.t 27) (.t 26)⟩]
abbrev c146_r14 : List Ins := [
  ⟨some 29, none, .iaddr 1 (.t 25) (.t 27)⟩,
  ⟨some 30, none, .load 1 false (.t 29)⟩,
  ⟨some 8, none, .mov (.t 30)⟩]
abbrev c146_r15 : List Ins := [
  ⟨some 31, none, .mov (.t 6)⟩,
  ⟨some 32, none, .mov (.t 8)⟩,
  ⟨some 33, none, .append 2 16 (.t 31) (.t 32)⟩,
  ⟨some 6, none, .mov (.t 33)⟩]
abbrev c146_r16 : List Ins := [
  ⟨some 34, none, .bin .add (.t 27) (.c (.int .i64 1))⟩,
  ⟨some 27, none, .mov (.t 34)⟩]
abbrev c146_l17 : IR := .seq (.reg c146_r13) (.seq (.cond (.t 28) (.skip) (.exit 2)) (.seq (.blk 3 (.seq (.reg c146_r14) (.reg c146_r15))) (.reg c146_r16)))
abbrev c146_r18 : List Ins := [
  ⟨some 35, none, .mov (.t 6)⟩,
  ⟨some 2, none, .mov (.t 35)⟩]
abbrev c146 : IR := .seq (.reg c146_r1) (.seq (.reg c146_r2) (.seq (.seq (.reg c146_r3) (.blk 0 (.loop c146_l10))) (.seq (.reg c146_r11) (.seq (.seq (.reg c146_r12) (.blk 2 (.loop c146_l17))) (.seq (.reg c146_r18) (.ret))))))
abbrev F146 : FnA := ⟨36, c146, [.t 2]⟩
theorem ok146 : cFn Try.prog 146 = some F146 := by kernel_rfl
theorem hb146 : HasBody Try.prog 146 := ⟨_, Try.func146, by kernel_rfl, by kernel_rfl⟩
/-! keys.plain$1 -/
abbrev c147_r1 : List Ins := [
  ⟨some 1, none, .box (.t 0)⟩,
  ⟨some 2, none, .mov (.c (.bool false))⟩]
abbrev c147_r2 : List Ins := [
  ⟨some 3, none, .load 2 true (.t 1)⟩,
  ⟨some 4, none, .call (.c (.fn 148 [] [])) [.t 3]⟩,
  ⟨some 5, none, .un .not (.t 4)⟩,
  ⟨some 2, none, .mov (.t 5)⟩]
abbrev c147 : IR := .seq (.reg c147_r1) (.seq (.reg c147_r2) (.ret))
abbrev F147 : FnA := ⟨6, c147, [.t 2]⟩
theorem ok147 : cFn Try.prog 147 = some F147 := by kernel_rfl
theorem hb147 : HasBody Try.prog 147 := ⟨_, Try.func147, by kernel_rfl, by kernel_rfl⟩
/-! keys.May -/
abbrev c148_r1 : List Ins := [
  ⟨some 1, none, .box (.t 0)⟩,
  ⟨some 2, none, .mov (.c (.bool false))⟩]
abbrev c148_r2 : List Ins := [
  ⟨some 3, none, .faddr 0 (.t 1)⟩,
  ⟨some 4, none, .load 1 false (.t 3)⟩,
  ⟨some 5, none, .bin .geq (.t 4) (.c (.int .i64 0))⟩,
  ⟨some 6, none, .mov (.t 5)⟩,
  ⟨some 7, some (6, true), .faddr 0 (.t 1)⟩,
  ⟨some 8, some (6, true), .load 1 false (.t 7)⟩,
  ⟨some 9, some (6, true), .faddr 1 (.t 1)⟩,
  ⟨some 10, some (6, true), .load 1 false (.t 9)⟩,
  ⟨some 11, some (6, true), .bin .leq (.t 8) (.t 10)⟩,
  ⟨some 12, none, .pick (.t 6) (.t 11) (.c (.bool false))⟩,
  ⟨some 13, none, .mov (.t 12)⟩,
  ⟨some 14, some (13, true), .faddr 1 (.t 1)⟩,
  ⟨some 15, some (13, true), .load 1 false (.t 14)⟩,
  ⟨some 16, some (13, true), .bin .leq (.t 15) (.c (.int .i64 999))⟩,
  ⟨some 17, none, .pick (.t 13) (.t 16) (.c (.bool false))⟩,
  ⟨some 2, none, .mov (.t 17)⟩]
abbrev c148 : IR := .seq (.reg c148_r1) (.seq (.reg c148_r2) (.ret))
abbrev F148 : FnA := ⟨18, c148, [.t 2]⟩
theorem ok148 : cFn Try.prog 148 = some F148 := by kernel_rfl
theorem hb148 : HasBody Try.prog 148 := ⟨_, Try.func148, by kernel_rfl, by kernel_rfl⟩
/-! slices.SortFunc:Span -/
abbrev c149_r1 : List Ins := [
  ⟨some 5, none, .mov (.t 0)⟩,
  ⟨some 6, none, .len (.t 5)⟩,
  ⟨some 4, none, .mov (.t 6)⟩]
abbrev c149_r2 : List Ins := [
  ⟨some 7, none, .mov (.t 0)⟩,
  ⟨some 8, none, .mov (.t 4)⟩,
  ⟨some 9, none, .mov (.t 4)⟩,
  ⟨some 10, none, .conv .u64 (.t 9)⟩,
  ⟨some 11, none, .call (.c (.fn 156 [] [])) [.t 10]⟩,
  ⟨some 12, none, .mov (.t 1)⟩,
  ⟨some 13, none, .call (.c (.fn 155 [] [])) [.t 7, .c (.int .i64 0), .t 8, .t 11, .t 12]⟩]
abbrev c149 : IR := .seq (.reg c149_r1) (.reg c149_r2)
abbrev F149 : FnA := ⟨14, c149, []⟩
theorem ok149 : cFn Try.prog 149 = some F149 := by kernel_rfl
theorem hb149 : HasBody Try.prog 149 := ⟨_, Try.func149, by kernel_rfl, by kernel_rfl⟩
/-! keys.plain$2 -/
abbrev c150_r1 : List Ins := [
  ⟨some 2, none, .box (.t 0)⟩,
  ⟨some 3, none, .box (.t 1)⟩,
  ⟨some 4, none, .mov (.c (.int .i64 0))⟩]
abbrev c150_r2 : List Ins := [
  ⟨some 5, none, .faddr 0 (.t 2)⟩,
  ⟨some 6, none, .load 1 false (.t 5)⟩,
  ⟨some 7, none, .faddr 0 (.t 3)⟩,
  ⟨some 8, none, .load 1 false (.t 7)⟩,
  ⟨some 9, none, .call (.c (.fn 151 [] [])) [.t 6, .t 8]⟩,
  ⟨some 4, none, .mov (.t 9)⟩]
abbrev c150 : IR := .seq (.reg c150_r1) (.seq (.reg c150_r2) (.ret))
abbrev F150 : FnA := ⟨10, c150, [.t 4]⟩
theorem ok150 : cFn Try.prog 150 = some F150 := by kernel_rfl
theorem hb150 : HasBody Try.prog 150 := ⟨_, Try.func150, by kernel_rfl, by kernel_rfl⟩
/-! cmp.Compare:int -/
abbrev c151_r1 : List Ins := [
  ⟨some 4, none, .mov (.c (.int .i64 0))⟩]
abbrev c151_r2 : List Ins := [
  ⟨some 7, none, .mov (.t 0)⟩,
  ⟨some 8, none, .call (.c (.fn 157 [] [])) [.t 7]⟩,
  ⟨some 5, none, .mov (.t 8)⟩]
abbrev c151_r3 : List Ins := [
  ⟨some 9, none, .mov (.t 1)⟩,
  ⟨some 10, none, .call (.c (.fn 157 [] [])) [.t 9]⟩,
  ⟨some 6, none, .mov (.t 10)⟩]
abbrev c151_r4 : List Ins := [
  ⟨some 11, none, .mov (.t 5)⟩]
abbrev c151_r5 : List Ins := [
  ⟨some 12, none, .mov (.t 6)⟩]
abbrev c151_r6 : List Ins := [
  ⟨some 4, none, .mov (.c (.int .i64 0))⟩]
abbrev c151_r7 : List Ins := [
  ⟨some 4, none, .mov (.c (.int .i64 (-1)))⟩]
abbrev c151_r8 : List Ins := [
  ⟨some 13, none, .mov (.t 6)⟩]
abbrev c151_r9 : List Ins := [
  ⟨some 4, none, .mov (.c (.int .i64 1))⟩]
abbrev c151_r10 : List Ins := [
  ⟨some 14, none, .mov (.t 0)⟩,
  ⟨some 15, none, .mov (.t 1)⟩,
  ⟨some 16, none, .bin .lss (.t 14) (.t 15)⟩]
abbrev c151_r11 : List Ins := [
  ⟨some 4, none, .mov (.c (.int .i64 (-1)))⟩]
abbrev c151_r12 : List Ins := [
  ⟨some 17, none, .mov (.t 0)⟩,
  ⟨some 18, none, .mov (.t 1)⟩,
  ⟨some 19, none, .bin .gtr (.t 17) (.t 18)⟩]
abbrev c151_r13 : List Ins := [
  ⟨some 4, none, .mov (.c (.int .i64 1))⟩]
abbrev c151_r14 : List Ins := [
  ⟨some 4, none, .mov (.c (.int .i64 0))⟩]
abbrev c151 : IR := .seq (.reg c151_r1) (.seq (.reg c151_r2) (.seq (.reg c151_r3) (.seq (.seq (.reg c151_r4) (.cond (.t 11) (.seq (.seq (.reg c151_r5) (.cond (.t 12) (.seq (.reg c151_r6) (.ret)) (.skip))) (.seq (.reg c151_r7) (.ret))) (.skip))) (.seq (.seq (.reg c151_r8) (.cond (.t 13) (.seq (.reg c151_r9) (.ret)) (.skip))) (.seq (.seq (.reg c151_r10) (.cond (.t 16) (.seq (.reg c151_r11) (.ret)) (.skip))) (.seq (.seq (.reg c151_r12) (.cond (.t 19) (.seq (.reg c151_r13) (.ret)) (.skip))) (.seq (.reg c151_r14) (.ret))))))))
abbrev F151 : FnA := ⟨20, c151, [.t 4]⟩
theorem ok151 : cFn Try.prog 151 = some F151 := by kernel_rfl
theorem hb151 : HasBody Try.prog 151 := ⟨_, Try.func151, by kernel_rfl, by kernel_rfl⟩
/-! slices.IndexFunc:Span -/
abbrev c153_r1 : List Ins := [
  ⟨some 4, none, .mov (.c (.int .i64 0))⟩]
abbrev c153_r2 : List Ins := [
  ⟨some 6, none, .mov (.t 0)⟩,
  ⟨some 7, none, .len (.t 6)⟩,
  ⟨some 8, none, .mov (.c (.int .i64 0))⟩]
abbrev c153_r3 : List Ins := [
  ⟨some 9, none, .bin .lss (.t 8) (.t 7)⟩]
abbrev c153_r4 : List Ins := [
  ⟨some 10, none, .mov (.t 8)⟩,
  ⟨some 5, none, .mov (.t 10)⟩]
abbrev c153_r5 : List Ins := [
  ⟨some 11, none, .mov (.t 1)⟩,
  ⟨some 12, none, .mov (.t 0)⟩,
  ⟨some 13, none, .mov (.t 5)⟩,
  ⟨some 14, none, .iaddr 2 (.t 12) (.t 13)⟩,
  ⟨some 15, none, .load 2 true (.t 14)⟩,
  ⟨some 16, none, .call (.t 11) [.t 15]⟩]
abbrev c153_r6 : List Ins := [
  ⟨some 17, none, .mov (.t 5)⟩,
  ⟨some 4, none, .mov (.t 17)⟩]
abbrev c153_r7 : List Ins := [
  ⟨some 18, none, .bin .add (.t 8) (.c (.int .i64 1))⟩,
  ⟨some 8, none, .mov (.t 18)⟩]
abbrev c153_l8 : IR := .seq (.reg c153_r3) (.seq (.cond (.t 9) (.skip) (.exit 0)) (.seq (.blk 1 (.seq (.reg c153_r4) (.seq (.reg c153_r5) (.cond (.t 16) (.seq (.reg c153_r6) (.ret)) (.skip))))) (.reg c153_r7)))
abbrev c153_r9 : List Ins := [
  ⟨some 4, none, .mov (.c (.int .i64 (-1)))⟩]
abbrev c153 : IR := .seq (.reg c153_r1) (.seq (.seq (.reg c153_r2) (.blk 0 (.loop c153_l8))) (.seq (.reg c153_r9) (.ret)))
abbrev F153 : FnA := ⟨19, c153, [.t 4]⟩
theorem ok153 : cFn Try.prog 153 = some F153 := by kernel_rfl
theorem hb153 : HasBody Try.prog 153 := ⟨_, Try.func153, by kernel_rfl, by kernel_rfl⟩
/-! slices.Grow:Span -/
-- f154: not compiled
/-! slices.pdqsortCmpFunc:Span -/
abbrev c155_r1 : List Ins := [
  ⟨some 10, none, .mov (.c (.bool true))⟩]
abbrev c155_r2 : List Ins := [
  ⟨some 11, none, .mov (.c (.bool true))⟩]
abbrev c155_r3 : List Ins := [
  ⟨some 21, none, .mov (.t 2)⟩,
  ⟨some 22, none, .mov (.t 1)⟩,
  ⟨some 23, none, .bin .sub (.t 21) (.t 22)⟩,
  ⟨some 12, none, .mov (.t 23)⟩]
abbrev c155_r4 : List Ins := [
  ⟨some 24, none, .mov (.t 12)⟩,
  ⟨some 25, none, .bin .leq (.t 24) (.c (.int .i64 12))⟩]
abbrev c155_r5 : List Ins := [
  ⟨some 26, none, .mov (.t 0)⟩,
  ⟨some 27, none, .mov (.t 1)⟩,
  ⟨some 28, none, .mov (.t 2)⟩,
  ⟨some 29, none, .mov (.t 4)⟩,
  ⟨some 30, none, .call (.c (.fn 158 [] [])) [.t 26, .t 27, .t 28, .t 29]⟩]
abbrev c155_r6 : List Ins := [
  ⟨some 31, none, .mov (.t 3)⟩,
  ⟨some 32, none, .bin .eql (.t 31) (.c (.int .i64 0))⟩]
abbrev c155_r7 : List Ins := [
  ⟨some 33, none, .mov (.t 0)⟩,
  ⟨some 34, none, .mov (.t 1)⟩,
  ⟨some 35, none, .mov (.t 2)⟩,
  ⟨some 36, none, .mov (.t 4)⟩,
  ⟨some 37, none, .call (.c (.fn 159 [] [])) [.t 33, .t 34, .t 35, .t 36]⟩]
abbrev c155_r8 : List Ins := [
  ⟨some 38, none, .mov (.t 10)⟩,
  ⟨some 39, none, .un .not (.t 38)⟩]
abbrev c155_r9 : List Ins := [
  ⟨some 40, none, .mov (.t 0)⟩,
  ⟨some 41, none, .mov (.t 1)⟩,
  ⟨some 42, none, .mov (.t 2)⟩,
  ⟨some 43, none, .mov (.t 4)⟩,
  ⟨some 44, none, .call (.c (.fn 160 [] [])) [.t 40, .t 41, .t 42, .t 43]⟩]
abbrev c155_r10 : List Ins := [
  ⟨some 45, none, .mov (.t 3)⟩,
  ⟨some 46, none, .bin .sub (.t 45) (.c (.int .i64 1))⟩,
  ⟨some 3, none, .mov (.t 46)⟩]
abbrev c155_r11 : List Ins := [
  ⟨some 48, none, .mov (.t 0)⟩,
  ⟨some 49, none, .mov (.t 1)⟩,
  ⟨some 50, none, .mov (.t 2)⟩,
  ⟨some 51, none, .mov (.t 4)⟩,
  ⟨some 52, none, .call (.c (.fn 161 [] [])) [.t 48, .t 49, .t 50, .t 51]⟩,
  ⟨some 47, none, .mov (.t 52)⟩,
  ⟨some 53, none, .ext (.t 47) 0⟩,
  ⟨some 54, none, .ext (.t 47) 1⟩,
  ⟨some 13, none, .mov (.t 53)⟩,
  ⟨some 14, none, .mov (.t 54)⟩]
abbrev c155_r12 : List Ins := [
  ⟨some 55, none, .mov (.t 14)⟩,
  ⟨some 56, none, .bin .eql (.t 55) (.c (.int .i64 2))⟩]
abbrev c155_r13 : List Ins := [
  ⟨some 57, none, .mov (.t 0)⟩,
  ⟨some 58, none, .mov (.t 1)⟩,
  ⟨some 59, none, .mov (.t 2)⟩,
  ⟨some 60, none, .mov (.t 4)⟩,
  ⟨some 61, none, .call (.c (.fn 162 [] [])) [.t 57, .t 58, .t 59, .t 60]⟩]
abbrev c155_r14 : List Ins := [
  ⟨some 62, none, .mov (.t 2)⟩,
  ⟨some 63, none, .bin .sub (.t 62) (.c (.int .i64 1))⟩,
  ⟨some 64, none, .mov (.t 13)⟩,
  ⟨some 65, none, .mov (.t 1)⟩,
  ⟨some 66, none, .bin .sub (.t 64) (.t 65)⟩,
  ⟨some 67, none, .bin .sub (.t 63) (.t 66)⟩,
  ⟨some 13, none, .mov (.t 67)⟩]
abbrev c155_r15 : List Ins := [
  ⟨some 14, none, .mov (.c (.int .i64 1))⟩]
abbrev c155_r16 : List Ins := [
  ⟨some 68, none, .mov (.t 10)⟩,
  ⟨some 69, none, .mov (.t 68)⟩,
  ⟨some 70, some (69, true), .mov (.t 11)⟩,
  ⟨some 71, none, .pick (.t 69) (.t 70) (.c (.bool false))⟩,
  ⟨some 72, none, .mov (.t 71)⟩,
  ⟨some 73, some (72, true), .mov (.t 14)⟩,
  ⟨some 74, some (72, true), .bin .eql (.t 73) (.c (.int .i64 1))⟩,
  ⟨some 75, none, .pick (.t 72) (.t 74) (.c (.bool false))⟩]
abbrev c155_r17 : List Ins := [
  ⟨some 76, none, .mov (.t 0)⟩,
  ⟨some 77, none, .mov (.t 1)⟩,
  ⟨some 78, none, .mov (.t 2)⟩,
  ⟨some 79, none, .mov (.t 4)⟩,
  ⟨some 80, none, .call (.c (.fn 163 [] [])) [.t 76, .t 77, .t 78, .t 79]⟩]
abbrev c155_r18 : List Ins := [
  ⟨some 81, none, .mov (.t 1)⟩,
  ⟨some 82, none, .bin .gtr (.t 81) (.c (.int .i64 0))⟩,
  ⟨some 83, none, .mov (.t 82)⟩,
  ⟨some 84, some (83, true), .mov (.t 4)⟩,
  ⟨some 85, some (83, true), .mov (.t 0)⟩,
  ⟨some 86, some (83, true), .mov (.t 1)⟩,
  ⟨some 87, some (83, true), .bin .sub (.t 86) (.c (.int .i64 1))⟩,
  ⟨some 88, some (83, true), .iaddr 2 (.t 85) (.t 87)⟩,
  ⟨some 89, some (83, true), .load 2 true (.t 88)⟩,
  ⟨some 90, some (83, true), .mov (.t 0)⟩,
  ⟨some 91, some (83, true), .mov (.t 13)⟩,
  ⟨some 92, some (83, true), .iaddr 2 (.t 90) (.t 91)⟩,
  ⟨some 93, some (83, true), .load 2 true (.t 92)⟩,
  ⟨some 94, some (83, true), .call (.t 84) [.t 89, .t 93]⟩,
  ⟨some 95, some (83, true), .bin .lss (.t 94) (.c (.int .i64 0))⟩,
  ⟨some 96, some (83, true), .un .not (.t 95)⟩,
  ⟨some 97, none, .pick (.t 83) (.t 96) (.c (.bool false))⟩]
def c155_a18 : List (List Nat) := [[], [0], [1], [2], [2], [2], [5, 2], [4, 6, 2], [7, 2], [2], [2], [9, 10, 2], [11, 2], [3, 8, 12, 2, 2], [13, 2], [14, 2], [2, 15]]
abbrev c155_m18 : List Am.Mark := [⟨false, 0, 1⟩, ⟨false, 0, 1⟩, ⟨false, 0, 0⟩, ⟨false, 0, 0⟩, ⟨false, 0, 1⟩, ⟨false, 0, 1⟩, ⟨false, 0, 1⟩, ⟨false, 0, 1⟩, ⟨false, 0, 0⟩, ⟨false, 0, 1⟩, ⟨false, 0, 1⟩, ⟨false, 0, 1⟩, ⟨false, 0, 0⟩, ⟨true, 0, 1⟩, ⟨false, 1, 1⟩, ⟨false, 1, 1⟩, ⟨false, 1, 1⟩]
theorem c155_d18 : drawFine c155_r18 c155_a18 c155_m18 = true := by decide +kernel
abbrev c155_r19 : List Ins := [
  ⟨some 98, none, .mov (.t 0)⟩,
  ⟨some 99, none, .mov (.t 1)⟩,
  ⟨some 100, none, .mov (.t 2)⟩,
  ⟨some 101, none, .mov (.t 13)⟩,
  ⟨some 102, none, .mov (.t 4)⟩,
  ⟨some 103, none, .call (.c (.fn 164 [] [])) [.t 98, .t 99, .t 100, .t 101, .t 102]⟩,
  ⟨some 15, none, .mov (.t 103)⟩]
abbrev c155_r20 : List Ins := [
  ⟨some 104, none, .mov (.t 15)⟩,
  ⟨some 1, none, .mov (.t 104)⟩]
abbrev c155_r21 : List Ins := [
  ⟨some 106, none, .mov (.t 0)⟩,
  ⟨some 107, none, .mov (.t 1)⟩,
  ⟨some 108, none, .mov (.t 2)⟩,
  ⟨some 109, none, .mov (.t 13)⟩,
  ⟨some 110, none, .mov (.t 4)⟩,
  ⟨some 111, none, .call (.c (.fn 165 [] [])) [.t 106, .t 107, .t 108, .t 109, .t 110]⟩,
  ⟨some 105, none, .mov (.t 111)⟩,
  ⟨some 112, none, .ext (.t 105) 0⟩,
  ⟨some 113, none, .ext (.t 105) 1⟩,
  ⟨some 16, none, .mov (.t 112)⟩,
  ⟨some 17, none, .mov (.t 113)⟩]
abbrev c155_r22 : List Ins := [
  ⟨some 114, none, .mov (.t 17)⟩,
  ⟨some 11, none, .mov (.t 114)⟩]
abbrev c155_r23 : List Ins := [
  ⟨some 115, none, .mov (.t 16)⟩,
  ⟨some 116, none, .mov (.t 1)⟩,
  ⟨some 117, none, .bin .sub (.t 115) (.t 116)⟩,
  ⟨some 118, none, .mov (.t 2)⟩,
  ⟨some 119, none, .mov (.t 16)⟩,
  ⟨some 120, none, .bin .sub (.t 118) (.t 119)⟩,
  ⟨some 18, none, .mov (.t 117)⟩,
  ⟨some 19, none, .mov (.t 120)⟩]
abbrev c155_r24 : List Ins := [
  ⟨some 121, none, .mov (.t 12)⟩,
  ⟨some 122, none, .bin .quo (.t 121) (.c (.int .i64 8))⟩,
  ⟨some 20, none, .mov (.t 122)⟩]
abbrev c155_r25 : List Ins := [
  ⟨some 123, none, .mov (.t 18)⟩,
  ⟨some 124, none, .mov (.t 19)⟩,
  ⟨some 125, none, .bin .lss (.t 123) (.t 124)⟩]
abbrev c155_r26 : List Ins := [
  ⟨some 126, none, .mov (.t 18)⟩,
  ⟨some 127, none, .mov (.t 20)⟩,
  ⟨some 128, none, .bin .geq (.t 126) (.t 127)⟩,
  ⟨some 10, none, .mov (.t 128)⟩]
abbrev c155_r27 : List Ins := [
  ⟨some 129, none, .mov (.t 0)⟩,
  ⟨some 130, none, .mov (.t 1)⟩,
  ⟨some 131, none, .mov (.t 16)⟩,
  ⟨some 132, none, .mov (.t 3)⟩,
  ⟨some 133, none, .mov (.t 4)⟩,
  ⟨some 134, none, .call (.c (.fn 155 [] [])) [.t 129, .t 130, .t 131, .t 132, .t 133]⟩]
abbrev c155_r28 : List Ins := [
  ⟨some 135, none, .mov (.t 16)⟩,
  ⟨some 136, none, .bin .add (.t 135) (.c (.int .i64 1))⟩,
  ⟨some 1, none, .mov (.t 136)⟩]
abbrev c155_r29 : List Ins := [
  ⟨some 137, none, .mov (.t 19)⟩,
  ⟨some 138, none, .mov (.t 20)⟩,
  ⟨some 139, none, .bin .geq (.t 137) (.t 138)⟩,
  ⟨some 10, none, .mov (.t 139)⟩]
abbrev c155_r30 : List Ins := [
  ⟨some 140, none, .mov (.t 0)⟩,
  ⟨some 141, none, .mov (.t 16)⟩,
  ⟨some 142, none, .bin .add (.t 141) (.c (.int .i64 1))⟩,
  ⟨some 143, none, .mov (.t 2)⟩,
  ⟨some 144, none, .mov (.t 3)⟩,
  ⟨some 145, none, .mov (.t 4)⟩,
  ⟨some 146, none, .call (.c (.fn 155 [] [])) [.t 140, .t 142, .t 143, .t 144, .t 145]⟩]
abbrev c155_r31 : List Ins := [
  ⟨some 147, none, .mov (.t 16)⟩,
  ⟨some 2, none, .mov (.t 147)⟩]
abbrev c155_l32 : IR := .blk 1 (.seq (.reg c155_r3) (.seq (.seq (.reg c155_r4) (.cond (.t 25) (.seq (.reg c155_r5) (.ret)) (.skip))) (.seq (.seq (.reg c155_r6) (.cond (.t 32) (.seq (.reg c155_r7) (.ret)) (.skip))) (.seq (.seq (.reg c155_r8) (.cond (.t 39) (.seq (.reg c155_r9) (.reg c155_r10)) (.skip))) (.seq (.reg c155_r11) (.seq (.seq (.reg c155_r12) (.cond (.t 56) (.seq (.reg c155_r13) (.seq (.reg c155_r14) (.reg c155_r15))) (.skip))) (.seq (.seq (.reg c155_r16) (.cond (.t 75) (.seq (.reg c155_r17) (.cond (.t 80) (.ret) (.skip))) (.skip))) (.seq (.seq (.dreg c155_r18 c155_a18) (.cond (.t 97) (.seq (.reg c155_r19) (.seq (.reg c155_r20) (.exit 1))) (.skip))) (.seq (.reg c155_r21) (.seq (.reg c155_r22) (.seq (.reg c155_r23) (.seq (.reg c155_r24) (.seq (.reg c155_r25) (.cond (.t 125) (.seq (.reg c155_r26) (.seq (.reg c155_r27) (.reg c155_r28))) (.seq (.reg c155_r29) (.seq (.reg c155_r30) (.reg c155_r31)))))))))))))))))
abbrev c155 : IR := .seq (.reg c155_r1) (.seq (.reg c155_r2) (.blk 0 (.loop c155_l32)))
abbrev F155 : FnA := ⟨148, c155, []⟩
theorem ok155 : cFn Try.prog 155 = some F155 := by kernel_rfl
theorem hb155 : HasBody Try.prog 155 := ⟨_, Try.func155, by kernel_rfl, by kernel_rfl⟩
/-! math/bits.Len -/
abbrev c156_r1 : List Ins := [
  ⟨some 2, none, .mov (.c (.int .i64 0))⟩]
abbrev c156_r2 : List Ins := [
  ⟨some 3, none, .mov (.t 0)⟩,
  ⟨some 4, none, .conv .u32 (.t 3)⟩,
  ⟨some 5, none, .call (.c (.fn 166 [] [])) [.t 4]⟩,
  ⟨some 2, none, .mov (.t 5)⟩]
abbrev c156_r3 : List Ins := [
  ⟨some 6, none, .mov (.t 0)⟩,
  ⟨some 7, none, .call (.c (.fn 167 [] [])) [.t 6]⟩,
  ⟨some 2, none, .mov (.t 7)⟩]
abbrev c156 : IR := .seq (.reg c156_r1) (.seq (.cond (.c (.bool false)) (.seq (.reg c156_r2) (.ret)) (.skip)) (.seq (.reg c156_r3) (.ret)))
abbrev F156 : FnA := ⟨8, c156, [.t 2]⟩
theorem ok156 : cFn Try.prog 156 = some F156 := by kernel_rfl
theorem hb156 : HasBody Try.prog 156 := ⟨_, Try.func156, by kernel_rfl, by kernel_rfl⟩
/-! cmp.isNaN:int -/
abbrev c157_r1 : List Ins := [
  ⟨some 2, none, .mov (.c (.bool false))⟩]
abbrev c157_r2 : List Ins := [
  ⟨some 3, none, .mov (.t 0)⟩,
  ⟨some 4, none, .mov (.t 0)⟩,
  ⟨some 5, none, .bin .neq (.t 3) (.t 4)⟩,
  ⟨some 2, none, .mov (.t 5)⟩]
abbrev c157 : IR := .seq (.reg c157_r1) (.seq (.reg c157_r2) (.ret))
abbrev F157 : FnA := ⟨6, c157, [.t 2]⟩
theorem ok157 : cFn Try.prog 157 = some F157 := by kernel_rfl
theorem hb157 : HasBody Try.prog 157 := ⟨_, Try.func157, by kernel_rfl, by kernel_rfl⟩
/-! slices.insertionSortCmpFunc:Span -/
abbrev c158_r1 : List Ins := [
  ⟨some 10, none, .mov (.t 1)⟩,
  ⟨some 11, none, .bin .add (.t 10) (.c (.int .i64 1))⟩,
  ⟨some 8, none, .mov (.t 11)⟩]
abbrev c158_r2 : List Ins := [
  ⟨some 12, none, .mov (.t 8)⟩,
  ⟨some 13, none, .mov (.t 2)⟩,
  ⟨some 14, none, .bin .lss (.t 12) (.t 13)⟩]
abbrev c158_r3 : List Ins := [
  ⟨some 17, none, .mov (.t 8)⟩,
  ⟨some 9, none, .mov (.t 17)⟩]
abbrev c158_r4 : List Ins := [
  ⟨some 18, none, .mov (.t 9)⟩,
  ⟨some 19, none, .mov (.t 1)⟩,
  ⟨some 20, none, .bin .gtr (.t 18) (.t 19)⟩,
  ⟨some 21, none, .mov (.t 20)⟩,
  ⟨some 22, some (21, true), .mov (.t 3)⟩,
  ⟨some 23, some (21, true), .mov (.t 0)⟩,
  ⟨some 24, some (21, true), .mov (.t 9)⟩,
  ⟨some 25, some (21, true), .iaddr 2 (.t 23) (.t 24)⟩,
  ⟨some 26, some (21, true), .load 2 true (.t 25)⟩,
  ⟨some 27, some (21, true), .mov (.t 0)⟩,
  ⟨some 28, some (21, true), .mov (.t 9)⟩,
  ⟨some 29, some (21, true), .bin .sub (.t 28) (.c (.int .i64 1))⟩,
  ⟨some 30, some (21, true), .iaddr 2 (.t 27) (.t 29)⟩,
  ⟨some 31, some (21, true), .load 2 true (.t 30)⟩,
  ⟨some 32, some (21, true), .call (.t 22) [.t 26, .t 31]⟩,
  ⟨some 33, some (21, true), .bin .lss (.t 32) (.c (.int .i64 0))⟩,
  ⟨some 34, none, .pick (.t 21) (.t 33) (.c (.bool false))⟩]
def c158_a4 : List (List Nat) := [[], [], [0, 1], [2], [3], [3], [3], [5, 6, 3], [7, 3], [3], [3], [10, 3], [9, 11, 3], [12, 3], [4, 8, 13, 3, 3], [14, 3], [3, 15]]
abbrev c158_m4 : List Am.Mark := [⟨false, 0, 1⟩, ⟨false, 0, 1⟩, ⟨false, 0, 1⟩, ⟨false, 0, 0⟩, ⟨false, 0, 0⟩, ⟨false, 0, 1⟩, ⟨false, 0, 1⟩, ⟨false, 0, 1⟩, ⟨false, 0, 0⟩, ⟨false, 0, 1⟩, ⟨false, 0, 1⟩, ⟨false, 0, 1⟩, ⟨false, 0, 1⟩, ⟨false, 0, 0⟩, ⟨true, 0, 1⟩, ⟨false, 1, 1⟩, ⟨false, 1, 1⟩]
theorem c158_d4 : drawFine c158_r4 c158_a4 c158_m4 = true := by decide +kernel
abbrev c158_r5 : List Ins := [
  ⟨some 37, none, .mov (.t 0)⟩,
  ⟨some 38, none, .mov (.t 9)⟩,
  ⟨some 39, none, .mov (.t 0)⟩,
  ⟨some 40, none, .mov (.t 9)⟩,
  ⟨some 41, none, .bin .sub (.t 40) (.c (.int .i64 1))⟩,
  ⟨some 42, none, .mov (.t 0)⟩,
  ⟨some 43, none, .mov (.t 9)⟩,
  ⟨some 44, none, .bin .sub (.t 43) (.c (.int .i64 1))⟩,
  ⟨some 45, none, .iaddr 2 (.t 42) (.t 44)⟩,
  ⟨some 46, none, .load 2 true (.t 45)⟩,
  ⟨some 47, none, .mov (.t 0)⟩,
  ⟨some 48, none, .mov (.t 9)⟩,
  ⟨some 49, none, .iaddr 2 (.t 47) (.t 48)⟩,
  ⟨some 50, none, .load 2 true (.t 49)⟩,
  ⟨some 51, none, .iaddr 2 (.t 37) (.t 38)⟩,
  ⟨none, none, .store 2 (.t 51) (.t 46)⟩,
  ⟨some 52, none, .iaddr 2 (.t 39) (.t 41)⟩,
  ⟨none, none, .store 2 (.t 52) (.t 50)⟩]
def c158_a5 : List (List Nat) := [[], [], [], [], [3], [], [], [6], [5, 7], [8], [], [], [10, 11], [12], [0, 1, 0, 1, 5, 6, 7, 8, 9, 13], [14, 9, 0, 1, 5, 6, 7, 8, 9, 13], [2, 4, 0, 1, 2, 3, 4, 5, 6, 7, 8, 9, 10, 11, 12, 13, 14, 15], [16, 13, 15, 0, 1, 2, 3, 4, 5, 6, 7, 8, 9, 10, 11, 12, 13, 14, 15]]
abbrev c158_m5 : List Am.Mark := [⟨false, 0, 0⟩, ⟨false, 0, 0⟩, ⟨false, 0, 1⟩, ⟨false, 0, 1⟩, ⟨false, 0, 1⟩, ⟨false, 0, 0⟩, ⟨false, 0, 0⟩, ⟨false, 0, 0⟩, ⟨false, 0, 0⟩, ⟨false, 0, 0⟩, ⟨false, 0, 1⟩, ⟨false, 0, 1⟩, ⟨false, 0, 1⟩, ⟨false, 0, 0⟩, ⟨false, 0, 0⟩, ⟨true, 0, 1⟩, ⟨false, 1, 1⟩, ⟨true, 1, 2⟩]
theorem c158_d5 : drawFine c158_r5 c158_a5 c158_m5 = true := by decide +kernel
abbrev c158_r6 : List Ins := [
  ⟨some 35, none, .mov (.t 9)⟩,
  ⟨some 36, none, .bin .sub (.t 35) (.c (.int .i64 1))⟩,
  ⟨some 9, none, .mov (.t 36)⟩]
abbrev c158_l7 : IR := .seq (.seq (.dreg c158_r4 c158_a4) (.cond (.t 34) (.skip) (.exit 2))) (.seq (.blk 3 (.dreg c158_r5 c158_a5)) (.reg c158_r6))
abbrev c158_r8 : List Ins := [
  ⟨some 15, none, .mov (.t 8)⟩,
  ⟨some 16, none, .bin .add (.t 15) (.c (.int .i64 1))⟩,
  ⟨some 8, none, .mov (.t 16)⟩]
abbrev c158_l9 : IR := .seq (.seq (.reg c158_r2) (.cond (.t 14) (.skip) (.exit 0))) (.seq (.blk 1 (.seq (.reg c158_r3) (.blk 2 (.loop c158_l7)))) (.reg c158_r8))
abbrev c158 : IR := .seq (.reg c158_r1) (.blk 0 (.loop c158_l9))
abbrev F158 : FnA := ⟨53, c158, []⟩
theorem ok158 : cFn Try.prog 158 = some F158 := by kernel_rfl
theorem hb158 : HasBody Try.prog 158 := ⟨_, Try.func158, by kernel_rfl, by kernel_rfl⟩
/-! slices.heapSortCmpFunc:Span -/
abbrev c159_r1 : List Ins := [
  ⟨some 13, none, .mov (.t 1)⟩,
  ⟨some 8, none, .mov (.t 13)⟩]
abbrev c159_r2 : List Ins := [
  ⟨some 9, none, .mov (.c (.int .i64 0))⟩]
abbrev c159_r3 : List Ins := [
  ⟨some 14, none, .mov (.t 2)⟩,
  ⟨some 15, none, .mov (.t 1)⟩,
  ⟨some 16, none, .bin .sub (.t 14) (.t 15)⟩,
  ⟨some 10, none, .mov (.t 16)⟩]
abbrev c159_r4 : List Ins := [
  ⟨some 17, none, .mov (.t 10)⟩,
  ⟨some 18, none, .bin .sub (.t 17) (.c (.int .i64 1))⟩,
  ⟨some 19, none, .bin .quo (.t 18) (.c (.int .i64 2))⟩,
  ⟨some 11, none, .mov (.t 19)⟩]
abbrev c159_r5 : List Ins := [
  ⟨some 20, none, .mov (.t 11)⟩,
  ⟨some 21, none, .bin .geq (.t 20) (.c (.int .i64 0))⟩]
abbrev c159_r6 : List Ins := [
  ⟨some 24, none, .mov (.t 0)⟩,
  ⟨some 25, none, .mov (.t 11)⟩,
  ⟨some 26, none, .mov (.t 10)⟩,
  ⟨some 27, none, .mov (.t 8)⟩,
  ⟨some 28, none, .mov (.t 3)⟩,
  ⟨some 29, none, .call (.c (.fn 168 [] [])) [.t 24, .t 25, .t 26, .t 27, .t 28]⟩]
abbrev c159_r7 : List Ins := [
  ⟨some 22, none, .mov (.t 11)⟩,
  ⟨some 23, none, .bin .sub (.t 22) (.c (.int .i64 1))⟩,
  ⟨some 11, none, .mov (.t 23)⟩]
abbrev c159_l8 : IR := .seq (.seq (.reg c159_r5) (.cond (.t 21) (.skip) (.exit 0))) (.seq (.blk 1 (.reg c159_r6)) (.reg c159_r7))
abbrev c159_r9 : List Ins := [
  ⟨some 30, none, .mov (.t 10)⟩,
  ⟨some 31, none, .bin .sub (.t 30) (.c (.int .i64 1))⟩,
  ⟨some 12, none, .mov (.t 31)⟩]
abbrev c159_r10 : List Ins := [
  ⟨some 32, none, .mov (.t 12)⟩,
  ⟨some 33, none, .bin .geq (.t 32) (.c (.int .i64 0))⟩]
abbrev c159_r11 : List Ins := [
  ⟨some 36, none, .mov (.t 0)⟩,
  ⟨some 37, none, .mov (.t 8)⟩,
  ⟨some 38, none, .mov (.t 0)⟩,
  ⟨some 39, none, .mov (.t 8)⟩,
  ⟨some 40, none, .mov (.t 12)⟩,
  ⟨some 41, none, .bin .add (.t 39) (.t 40)⟩,
  ⟨some 42, none, .mov (.t 0)⟩,
  ⟨some 43, none, .mov (.t 8)⟩,
  ⟨some 44, none, .mov (.t 12)⟩,
  ⟨some 45, none, .bin .add (.t 43) (.t 44)⟩,
  ⟨some 46, none, .iaddr 2 (.t 42) (.t 45)⟩,
  ⟨some 47, none, .load 2 true (.t 46)⟩,
  ⟨some 48, none, .mov (.t 0)⟩,
  ⟨some 49, none, .mov (.t 8)⟩,
  ⟨some 50, none, .iaddr 2 (.t 48) (.t 49)⟩,
  ⟨some 51, none, .load 2 true (.t 50)⟩,
  ⟨some 52, none, .iaddr 2 (.t 36) (.t 37)⟩,
  ⟨none, none, .store 2 (.t 52) (.t 47)⟩,
  ⟨some 53, none, .iaddr 2 (.t 38) (.t 41)⟩,
  ⟨none, none, .store 2 (.t 53) (.t 51)⟩]
def c159_a11 : List (List Nat) := [[], [], [], [], [], [3, 4], [], [], [], [7, 8], [6, 9], [10], [], [], [12, 13], [14], [0, 1, 0, 1, 6, 7, 8, 9, 10, 11, 15], [16, 11, 0, 1, 6, 7, 8, 9, 10, 11, 15], [2, 5, 0, 1, 2, 3, 4, 5, 6, 7, 8, 9, 10, 11, 12, 13, 14, 15, 16, 17], [18, 15, 17, 0, 1, 2, 3, 4, 5, 6, 7, 8, 9, 10, 11, 12, 13, 14, 15, 16, 17]]
abbrev c159_m11 : List Am.Mark := [⟨false, 0, 0⟩, ⟨false, 0, 0⟩, ⟨false, 0, 1⟩, ⟨false, 0, 1⟩, ⟨false, 0, 1⟩, ⟨false, 0, 1⟩, ⟨false, 0, 0⟩, ⟨false, 0, 0⟩, ⟨false, 0, 0⟩, ⟨false, 0, 0⟩, ⟨false, 0, 0⟩, ⟨false, 0, 0⟩, ⟨false, 0, 1⟩, ⟨false, 0, 1⟩, ⟨false, 0, 1⟩, ⟨false, 0, 0⟩, ⟨false, 0, 0⟩, ⟨true, 0, 1⟩, ⟨false, 1, 1⟩, ⟨true, 1, 2⟩]
theorem c159_d11 : drawFine c159_r11 c159_a11 c159_m11 = true := by decide +kernel
abbrev c159_r12 : List Ins := [
  ⟨some 54, none, .mov (.t 0)⟩,
  ⟨some 55, none, .mov (.t 9)⟩,
  ⟨some 56, none, .mov (.t 12)⟩,
  ⟨some 57, none, .mov (.t 8)⟩,
  ⟨some 58, none, .mov (.t 3)⟩,
  ⟨some 59, none, .call (.c (.fn 168 [] [])) [.t 54, .t 55, .t 56, .t 57, .t 58]⟩]
abbrev c159_r13 : List Ins := [
  ⟨some 34, none, .mov (.t 12)⟩,
  ⟨some 35, none, .bin .sub (.t 34) (.c (.int .i64 1))⟩,
  ⟨some 12, none, .mov (.t 35)⟩]
abbrev c159_l14 : IR := .seq (.seq (.reg c159_r10) (.cond (.t 33) (.skip) (.exit 2))) (.seq (.blk 3 (.seq (.dreg c159_r11 c159_a11) (.reg c159_r12))) (.reg c159_r13))
abbrev c159 : IR := .seq (.reg c159_r1) (.seq (.reg c159_r2) (.seq (.reg c159_r3) (.seq (.seq (.reg c159_r4) (.blk 0 (.loop c159_l8))) (.seq (.reg c159_r9) (.blk 2 (.loop c159_l14))))))
abbrev F159 : FnA := ⟨60, c159, []⟩
theorem ok159 : cFn Try.prog 159 = some F159 := by kernel_rfl
theorem hb159 : HasBody Try.prog 159 := ⟨_, Try.func159, by kernel_rfl, by kernel_rfl⟩
/-! slices.breakPatternsCmpFunc:Span -/
abbrev c160_r1 : List Ins := [
  ⟨some 13, none, .mov (.t 2)⟩,
  ⟨some 14, none, .mov (.t 1)⟩,
  ⟨some 15, none, .bin .sub (.t 13) (.t 14)⟩,
  ⟨some 8, none, .mov (.t 15)⟩]
abbrev c160_r2 : List Ins := [
  ⟨some 16, none, .mov (.t 8)⟩,
  ⟨some 17, none, .bin .geq (.t 16) (.c (.int .i64 8))⟩]
abbrev c160_r3 : List Ins := [
  ⟨some 18, none, .mov (.t 8)⟩,
  ⟨some 19, none, .conv .u64 (.t 18)⟩,
  ⟨some 9, none, .alloc [.int .u64 0]⟩,
  ⟨none, none, .store 1 (.t 9) (.t 19)⟩]
abbrev c160_r4 : List Ins := [
  ⟨some 20, none, .mov (.t 8)⟩,
  ⟨some 21, none, .call (.c (.fn 169 [] [])) [.t 20]⟩,
  ⟨some 10, none, .mov (.t 21)⟩]
abbrev c160_r5 : List Ins := [
  ⟨some 22, none, .mov (.t 1)⟩,
  ⟨some 23, none, .mov (.t 8)⟩,
  ⟨some 24, none, .bin .quo (.t 23) (.c (.int .i64 4))⟩,
  ⟨some 25, none, .bin .mul (.t 24) (.c (.int .i64 2))⟩,
  ⟨some 26, none, .bin .add (.t 22) (.t 25)⟩,
  ⟨some 27, none, .bin .sub (.t 26) (.c (.int .i64 1))⟩,
  ⟨some 11, none, .mov (.t 27)⟩]
abbrev c160_r6 : List Ins := [
  ⟨some 28, none, .mov (.t 11)⟩,
  ⟨some 29, none, .mov (.t 1)⟩,
  ⟨some 30, none, .mov (.t 8)⟩,
  ⟨some 31, none, .bin .quo (.t 30) (.c (.int .i64 4))⟩,
  ⟨some 32, none, .bin .mul (.t 31) (.c (.int .i64 2))⟩,
  ⟨some 33, none, .bin .add (.t 29) (.t 32)⟩,
  ⟨some 34, none, .bin .add (.t 33) (.c (.int .i64 1))⟩,
  ⟨some 35, none, .bin .leq (.t 28) (.t 34)⟩]
abbrev c160_r7 : List Ins := [
  ⟨some 38, none, .call (.c (.fn 170 [] [])) [.t 9]⟩,
  ⟨some 39, none, .mov (.t 10)⟩,
  ⟨some 40, none, .bin .sub (.t 39) (.c (.int .u64 1))⟩,
  ⟨some 41, none, .bin .and (.t 38) (.t 40)⟩,
  ⟨some 42, none, .conv .i64 (.t 41)⟩,
  ⟨some 12, none, .mov (.t 42)⟩]
abbrev c160_r8 : List Ins := [
  ⟨some 43, none, .mov (.t 12)⟩,
  ⟨some 44, none, .mov (.t 8)⟩,
  ⟨some 45, none, .bin .geq (.t 43) (.t 44)⟩]
abbrev c160_r9 : List Ins := [
  ⟨some 46, none, .mov (.t 12)⟩,
  ⟨some 47, none, .mov (.t 8)⟩,
  ⟨some 48, none, .bin .sub (.t 46) (.t 47)⟩,
  ⟨some 12, none, .mov (.t 48)⟩]
abbrev c160_r10 : List Ins := [
  ⟨some 49, none, .mov (.t 0)⟩,
  ⟨some 50, none, .mov (.t 11)⟩,
  ⟨some 51, none, .mov (.t 0)⟩,
  ⟨some 52, none, .mov (.t 1)⟩,
  ⟨some 53, none, .mov (.t 12)⟩,
  ⟨some 54, none, .bin .add (.t 52) (.t 53)⟩,
  ⟨some 55, none, .mov (.t 0)⟩,
  ⟨some 56, none, .mov (.t 1)⟩,
  ⟨some 57, none, .mov (.t 12)⟩,
  ⟨some 58, none, .bin .add (.t 56) (.t 57)⟩,
  ⟨some 59, none, .iaddr 2 (.t 55) (.t 58)⟩,
  ⟨some 60, none, .load 2 true (.t 59)⟩,
  ⟨some 61, none, .mov (.t 0)⟩,
  ⟨some 62, none, .mov (.t 11)⟩,
  ⟨some 63, none, .iaddr 2 (.t 61) (.t 62)⟩,
  ⟨some 64, none, .load 2 true (.t 63)⟩,
  ⟨some 65, none, .iaddr 2 (.t 49) (.t 50)⟩,
  ⟨none, none, .store 2 (.t 65) (.t 60)⟩,
  ⟨some 66, none, .iaddr 2 (.t 51) (.t 54)⟩,
  ⟨none, none, .store 2 (.t 66) (.t 64)⟩]
def c160_a10 : List (List Nat) := [[], [], [], [], [], [3, 4], [], [], [], [7, 8], [6, 9], [10], [], [], [12, 13], [14], [0, 1, 0, 1, 6, 7, 8, 9, 10, 11, 15], [16, 11, 0, 1, 6, 7, 8, 9, 10, 11, 15], [2, 5, 0, 1, 2, 3, 4, 5, 6, 7, 8, 9, 10, 11, 12, 13, 14, 15, 16, 17], [18, 15, 17, 0, 1, 2, 3, 4, 5, 6, 7, 8, 9, 10, 11, 12, 13, 14, 15, 16, 17]]
abbrev c160_m10 : List Am.Mark := [⟨false, 0, 0⟩, ⟨false, 0, 0⟩, ⟨false, 0, 1⟩, ⟨false, 0, 1⟩, ⟨false, 0, 1⟩, ⟨false, 0, 1⟩, ⟨false, 0, 0⟩, ⟨false, 0, 0⟩, ⟨false, 0, 0⟩, ⟨false, 0, 0⟩, ⟨false, 0, 0⟩, ⟨false, 0, 0⟩, ⟨false, 0, 1⟩, ⟨false, 0, 1⟩, ⟨false, 0, 1⟩, ⟨false, 0, 0⟩, ⟨false, 0, 0⟩, ⟨true, 0, 1⟩, ⟨false, 1, 1⟩, ⟨true, 1, 2⟩]
theorem c160_d10 : drawFine c160_r10 c160_a10 c160_m10 = true := by decide +kernel
abbrev c160_r11 : List Ins := [
  ⟨some 36, none, .mov (.t 11)⟩,
  ⟨some 37, none, .bin .add (.t 36) (.c (.int .i64 1))⟩,
  ⟨some 11, none, .mov (.t 37)⟩]
abbrev c160_l12 : IR := .seq (.seq (.reg c160_r6) (.cond (.t 35) (.skip) (.exit 0))) (.seq (.blk 1 (.seq (.reg c160_r7) (.seq (.seq (.reg c160_r8) (.cond (.t 45) (.reg c160_r9) (.skip))) (.dreg c160_r10 c160_a10)))) (.reg c160_r11))
abbrev c160 : IR := .seq (.reg c160_r1) (.seq (.reg c160_r2) (.cond (.t 17) (.seq (.reg c160_r3) (.seq (.reg c160_r4) (.seq (.reg c160_r5) (.blk 0 (.loop c160_l12))))) (.skip)))
abbrev F160 : FnA := ⟨67, c160, []⟩
theorem ok160 : cFn Try.prog 160 = some F160 := by kernel_rfl
theorem hb160 : HasBody Try.prog 160 := ⟨_, Try.func160, by kernel_rfl, by kernel_rfl⟩
/-! slices.choosePivotCmpFunc:Span -/
abbrev c161_r1 : List Ins := [
  ⟨some 8, none, .mov (.c (.int .i64 0))⟩,
  ⟨some 9, none, .mov (.c (.int .i64 0))⟩]
abbrev c161_r2 : List Ins := [
  ⟨some 15, none, .mov (.t 2)⟩,
  ⟨some 16, none, .mov (.t 1)⟩,
  ⟨some 17, none, .bin .sub (.t 15) (.t 16)⟩,
  ⟨some 10, none, .mov (.t 17)⟩]
abbrev c161_r3 : List Ins := [
  ⟨some 11, none, .alloc [.int .i64 0]⟩]
abbrev c161_r4 : List Ins := [
  ⟨some 18, none, .mov (.t 1)⟩,
  ⟨some 19, none, .mov (.t 10)⟩,
  ⟨some 20, none, .bin .quo (.t 19) (.c (.int .i64 4))⟩,
  ⟨some 21, none, .bin .mul (.t 20) (.c (.int .i64 1))⟩,
  ⟨some 22, none, .bin .add (.t 18) (.t 21)⟩,
  ⟨some 12, none, .mov (.t 22)⟩]
abbrev c161_r5 : List Ins := [
  ⟨some 23, none, .mov (.t 1)⟩,
  ⟨some 24, none, .mov (.t 10)⟩,
  ⟨some 25, none, .bin .quo (.t 24) (.c (.int .i64 4))⟩,
  ⟨some 26, none, .bin .mul (.t 25) (.c (.int .i64 2))⟩,
  ⟨some 27, none, .bin .add (.t 23) (.t 26)⟩,
  ⟨some 13, none, .mov (.t 27)⟩]
abbrev c161_r6 : List Ins := [
  ⟨some 28, none, .mov (.t 1)⟩,
  ⟨some 29, none, .mov (.t 10)⟩,
  ⟨some 30, none, .bin .quo (.t 29) (.c (.int .i64 4))⟩,
  ⟨some 31, none, .bin .mul (.t 30) (.c (.int .i64 3))⟩,
  ⟨some 32, none, .bin .add (.t 28) (.t 31)⟩,
  ⟨some 14, none, .mov (.t 32)⟩]
abbrev c161_r7 : List Ins := [
  ⟨some 33, none, .mov (.t 10)⟩,
  ⟨some 34, none, .bin .geq (.t 33) (.c (.int .i64 8))⟩]
abbrev c161_r8 : List Ins := [
  ⟨some 35, none, .mov (.t 10)⟩,
  ⟨some 36, none, .bin .geq (.t 35) (.c (.int .i64 50))⟩]
abbrev c161_r9 : List Ins := [
  ⟨some 37, none, .mov (.t 0)⟩,
  ⟨some 38, none, .mov (.t 12)⟩,
  ⟨some 39, none, .mov (.t 3)⟩,
  ⟨some 40, none, .call (.c (.fn 171 [] [])) [.t 37, .t 38, .t 11, .t 39]⟩,
  ⟨some 12, none, .mov (.t 40)⟩]
abbrev c161_r10 : List Ins := [
  ⟨some 41, none, .mov (.t 0)⟩,
  ⟨some 42, none, .mov (.t 13)⟩,
  ⟨some 43, none, .mov (.t 3)⟩,
  ⟨some 44, none, .call (.c (.fn 171 [] [])) [.t 41, .t 42, .t 11, .t 43]⟩,
  ⟨some 13, none, .mov (.t 44)⟩]
abbrev c161_r11 : List Ins := [
  ⟨some 45, none, .mov (.t 0)⟩,
  ⟨some 46, none, .mov (.t 14)⟩,
  ⟨some 47, none, .mov (.t 3)⟩,
  ⟨some 48, none, .call (.c (.fn 171 [] [])) [.t 45, .t 46, .t 11, .t 47]⟩,
  ⟨some 14, none, .mov (.t 48)⟩]
abbrev c161_r12 : List Ins := [
  ⟨some 49, none, .mov (.t 0)⟩,
  ⟨some 50, none, .mov (.t 12)⟩,
  ⟨some 51, none, .mov (.t 13)⟩,
  ⟨some 52, none, .mov (.t 14)⟩,
  ⟨some 53, none, .mov (.t 3)⟩,
  ⟨some 54, none, .call (.c (.fn 172 [] [])) [.t 49, .t 50, .t 51, .t 52, .t 11, .t 53]⟩,
  ⟨some 13, none, .mov (.t 54)⟩]
abbrev c161_r13 : List Ins := [
  ⟨some 55, none, .load 1 false (.t 11)⟩]
abbrev c161_r14 : List Ins := [
  ⟨some 58, none, .bin .eql (.t 55) (.c (.int .i64 0))⟩,
  ⟨some 57, none, .mov (.t 58)⟩]
abbrev c161_r15 : List Ins := [
  ⟨some 59, none, .mov (.t 13)⟩,
  ⟨some 8, none, .mov (.t 59)⟩,
  ⟨some 9, none, .mov (.c (.int .i64 1))⟩]
abbrev c161_r16 : List Ins := [
  ⟨some 61, none, .bin .eql (.t 55) (.c (.int .i64 12))⟩,
  ⟨some 60, none, .mov (.t 61)⟩]
abbrev c161_r17 : List Ins := [
  ⟨some 62, none, .mov (.t 13)⟩,
  ⟨some 8, none, .mov (.t 62)⟩,
  ⟨some 9, none, .mov (.c (.int .i64 2))⟩]
abbrev c161_r18 : List Ins := [
  ⟨some 56, none, .mov (.t 13)⟩,
  ⟨some 8, none, .mov (.t 56)⟩,
  ⟨some 9, none, .mov (.c (.int .i64 0))⟩]
abbrev c161 : IR := .seq (.reg c161_r1) (.seq (.reg c161_r2) (.seq (.reg c161_r3) (.seq (.reg c161_r4) (.seq (.reg c161_r5) (.seq (.reg c161_r6) (.seq (.seq (.reg c161_r7) (.cond (.t 34) (.seq (.seq (.reg c161_r8) (.cond (.t 36) (.seq (.reg c161_r9) (.seq (.reg c161_r10) (.reg c161_r11))) (.skip))) (.reg c161_r12)) (.skip))) (.seq (.reg c161_r13) (.blk 0 (.seq (.reg c161_r14) (.cond (.t 57) (.seq (.reg c161_r15) (.ret)) (.seq (.reg c161_r16) (.cond (.t 60) (.seq (.reg c161_r17) (.ret)) (.seq (.reg c161_r18) (.ret))))))))))))))
abbrev F161 : FnA := ⟨63, c161, [.t 8, .t 9]⟩
theorem ok161 : cFn Try.prog 161 = some F161 := by kernel_rfl
theorem hb161 : HasBody Try.prog 161 := ⟨_, Try.func161, by kernel_rfl, by kernel_rfl⟩
/-! slices.reverseRangeCmpFunc:Span -/
abbrev c162_r1 : List Ins := [
  ⟨some 10, none, .mov (.t 1)⟩,
  ⟨some 8, none, .mov (.t 10)⟩]
abbrev c162_r2 : List Ins := [
  ⟨some 11, none, .mov (.t 2)⟩,
  ⟨some 12, none, .bin .sub (.t 11) (.c (.int .i64 1))⟩,
  ⟨some 9, none, .mov (.t 12)⟩]
abbrev c162_r3 : List Ins := [
  ⟨some 13, none, .mov (.t 8)⟩,
  ⟨some 14, none, .mov (.t 9)⟩,
  ⟨some 15, none, .bin .lss (.t 13) (.t 14)⟩]
abbrev c162_r4 : List Ins := [
  ⟨some 16, none, .mov (.t 0)⟩,
  ⟨some 17, none, .mov (.t 8)⟩,
  ⟨some 18, none, .mov (.t 0)⟩,
  ⟨some 19, none, .mov (.t 9)⟩,
  ⟨some 20, none, .mov (.t 0)⟩,
  ⟨some 21, none, .mov (.t 9)⟩,
  ⟨some 22, none, .iaddr 2 (.t 20) (.t 21)⟩,
  ⟨some 23, none, .load 2 true (.t 22)⟩,
  ⟨some 24, none, .mov (.t 0)⟩,
  ⟨some 25, none, .mov (.t 8)⟩,
  ⟨some 26, none, .iaddr 2 (.t 24) (.t 25)⟩,
  ⟨some 27, none, .load 2 true (.t 26)⟩,
  ⟨some 28, none, .iaddr 2 (.t 16) (.t 17)⟩,
  ⟨none, none, .store 2 (.t 28) (.t 23)⟩,
  ⟨some 29, none, .iaddr 2 (.t 18) (.t 19)⟩,
  ⟨none, none, .store 2 (.t 29) (.t 27)⟩]
def c162_a4 : List (List Nat) := [[], [], [], [], [], [], [4, 5], [6], [], [], [8, 9], [10], [0, 1, 0, 1, 4, 5, 6, 7, 11], [12, 7, 0, 1, 4, 5, 6, 7, 11], [2, 3, 0, 1, 2, 3, 4, 5, 6, 7, 8, 9, 10, 11, 12, 13], [14, 11, 13, 0, 1, 2, 3, 4, 5, 6, 7, 8, 9, 10, 11, 12, 13]]
abbrev c162_m4 : List Am.Mark := [⟨false, 0, 0⟩, ⟨false, 0, 0⟩, ⟨false, 0, 1⟩, ⟨false, 0, 1⟩, ⟨false, 0, 0⟩, ⟨false, 0, 0⟩, ⟨false, 0, 0⟩, ⟨false, 0, 0⟩, ⟨false, 0, 1⟩, ⟨false, 0, 1⟩, ⟨false, 0, 1⟩, ⟨false, 0, 0⟩, ⟨false, 0, 0⟩, ⟨true, 0, 1⟩, ⟨false, 1, 1⟩, ⟨true, 1, 2⟩]
theorem c162_d4 : drawFine c162_r4 c162_a4 c162_m4 = true := by decide +kernel
abbrev c162_r5 : List Ins := [
  ⟨some 30, none, .mov (.t 8)⟩,
  ⟨some 31, none, .bin .add (.t 30) (.c (.int .i64 1))⟩,
  ⟨some 8, none, .mov (.t 31)⟩]
abbrev c162_r6 : List Ins := [
  ⟨some 32, none, .mov (.t 9)⟩,
  ⟨some 33, none, .bin .sub (.t 32) (.c (.int .i64 1))⟩,
  ⟨some 9, none, .mov (.t 33)⟩]
abbrev c162_l7 : IR := .seq (.seq (.reg c162_r3) (.cond (.t 15) (.skip) (.exit 0))) (.blk 1 (.seq (.dreg c162_r4 c162_a4) (.seq (.reg c162_r5) (.reg c162_r6))))
abbrev c162 : IR := .seq (.reg c162_r1) (.seq (.reg c162_r2) (.blk 0 (.loop c162_l7)))
abbrev F162 : FnA := ⟨34, c162, []⟩
theorem ok162 : cFn Try.prog 162 = some F162 := by kernel_rfl
theorem hb162 : HasBody Try.prog 162 := ⟨_, Try.func162, by kernel_rfl, by kernel_rfl⟩
/-! slices.partialInsertionSortCmpFunc:Span -/
abbrev c163_r1 : List Ins := [
  ⟨some 8, none, .mov (.c (.bool false))⟩]
abbrev c163_r2 : List Ins := [
  ⟨some 13, none, .mov (.t 1)⟩,
  ⟨some 14, none, .bin .add (.t 13) (.c (.int .i64 1))⟩,
  ⟨some 9, none, .mov (.t 14)⟩]
abbrev c163_r3 : List Ins := [
  ⟨some 10, none, .mov (.c (.int .i64 0))⟩]
abbrev c163_r4 : List Ins := [
  ⟨some 15, none, .mov (.t 10)⟩,
  ⟨some 16, none, .bin .lss (.t 15) (.c (.int .i64 5))⟩]
abbrev c163_r5 : List Ins := [
  ⟨some 19, none, .mov (.t 9)⟩,
  ⟨some 20, none, .mov (.t 2)⟩,
  ⟨some 21, none, .bin .lss (.t 19) (.t 20)⟩,
  ⟨some 22, none, .mov (.t 21)⟩,
  ⟨some 23, some (22, true), .mov (.t 3)⟩,
  ⟨some 24, some (22, true), .mov (.t 0)⟩,
  ⟨some 25, some (22, true), .mov (.t 9)⟩,
  ⟨some 26, some (22, true), .iaddr 2 (.t 24) (.t 25)⟩,
  ⟨some 27, some (22, true), .load 2 true (.t 26)⟩,
  ⟨some 28, some (22, true), .mov (.t 0)⟩,
  ⟨some 29, some (22, true), .mov (.t 9)⟩,
  ⟨some 30, some (22, true), .bin .sub (.t 29) (.c (.int .i64 1))⟩,
  ⟨some 31, some (22, true), .iaddr 2 (.t 28) (.t 30)⟩,
  ⟨some 32, some (22, true), .load 2 true (.t 31)⟩,
  ⟨some 33, some (22, true), .call (.t 23) [.t 27, .t 32]⟩,
  ⟨some 34, some (22, true), .bin .lss (.t 33) (.c (.int .i64 0))⟩,
  ⟨some 35, some (22, true), .un .not (.t 34)⟩,
  ⟨some 36, none, .pick (.t 22) (.t 35) (.c (.bool false))⟩]
def c163_a5 : List (List Nat) := [[], [], [0, 1], [2], [3], [3], [3], [5, 6, 3], [7, 3], [3], [3], [10, 3], [9, 11, 3], [12, 3], [4, 8, 13, 3, 3], [14, 3], [15, 3], [3, 16]]
abbrev c163_m5 : List Am.Mark := [⟨false, 0, 1⟩, ⟨false, 0, 1⟩, ⟨false, 0, 1⟩, ⟨false, 0, 0⟩, ⟨false, 0, 0⟩, ⟨false, 0, 1⟩, ⟨false, 0, 1⟩, ⟨false, 0, 1⟩, ⟨false, 0, 0⟩, ⟨false, 0, 1⟩, ⟨false, 0, 1⟩, ⟨false, 0, 1⟩, ⟨false, 0, 1⟩, ⟨false, 0, 0⟩, ⟨true, 0, 1⟩, ⟨false, 1, 1⟩, ⟨false, 1, 1⟩, ⟨false, 1, 1⟩]
theorem c163_d5 : drawFine c163_r5 c163_a5 c163_m5 = true := by decide +kernel
abbrev c163_r6 : List Ins := [
  ⟨some 37, none, .mov (.t 9)⟩,
  ⟨some 38, none, .bin .add (.t 37) (.c (.int .i64 1))⟩,
  ⟨some 9, none, .mov (.t 38)⟩]
abbrev c163_l7 : IR := .seq (.seq (.dreg c163_r5 c163_a5) (.cond (.t 36) (.skip) (.exit 2))) (.blk 3 (.reg c163_r6))
abbrev c163_r8 : List Ins := [
  ⟨some 39, none, .mov (.t 9)⟩,
  ⟨some 40, none, .mov (.t 2)⟩,
  ⟨some 41, none, .bin .eql (.t 39) (.t 40)⟩]
abbrev c163_r9 : List Ins := [
  ⟨some 8, none, .mov (.c (.bool true))⟩]
abbrev c163_r10 : List Ins := [
  ⟨some 42, none, .mov (.t 2)⟩,
  ⟨some 43, none, .mov (.t 1)⟩,
  ⟨some 44, none, .bin .sub (.t 42) (.t 43)⟩,
  ⟨some 45, none, .bin .lss (.t 44) (.c (.int .i64 50))⟩]
abbrev c163_r11 : List Ins := [
  ⟨some 8, none, .mov (.c (.bool false))⟩]
abbrev c163_r12 : List Ins := [
  ⟨some 46, none, .mov (.t 0)⟩,
  ⟨some 47, none, .mov (.t 9)⟩,
  ⟨some 48, none, .mov (.t 0)⟩,
  ⟨some 49, none, .mov (.t 9)⟩,
  ⟨some 50, none, .bin .sub (.t 49) (.c (.int .i64 1))⟩,
  ⟨some 51, none, .mov (.t 0)⟩,
  ⟨some 52, none, .mov (.t 9)⟩,
  ⟨some 53, none, .bin .sub (.t 52) (.c (.int .i64 1))⟩,
  ⟨some 54, none, .iaddr 2 (.t 51) (.t 53)⟩,
  ⟨some 55, none, .load 2 true (.t 54)⟩,
  ⟨some 56, none, .mov (.t 0)⟩,
  ⟨some 57, none, .mov (.t 9)⟩,
  ⟨some 58, none, .iaddr 2 (.t 56) (.t 57)⟩,
  ⟨some 59, none, .load 2 true (.t 58)⟩,
  ⟨some 60, none, .iaddr 2 (.t 46) (.t 47)⟩,
  ⟨none, none, .store 2 (.t 60) (.t 55)⟩,
  ⟨some 61, none, .iaddr 2 (.t 48) (.t 50)⟩,
  ⟨none, none, .store 2 (.t 61) (.t 59)⟩]
def c163_a12 : List (List Nat) := [[], [], [], [], [3], [], [], [6], [5, 7], [8], [], [], [10, 11], [12], [0, 1, 0, 1, 5, 6, 7, 8, 9, 13], [14, 9, 0, 1, 5, 6, 7, 8, 9, 13], [2, 4, 0, 1, 2, 3, 4, 5, 6, 7, 8, 9, 10, 11, 12, 13, 14, 15], [16, 13, 15, 0, 1, 2, 3, 4, 5, 6, 7, 8, 9, 10, 11, 12, 13, 14, 15]]
abbrev c163_m12 : List Am.Mark := [⟨false, 0, 0⟩, ⟨false, 0, 0⟩, ⟨false, 0, 1⟩, ⟨false, 0, 1⟩, ⟨false, 0, 1⟩, ⟨false, 0, 0⟩, ⟨false, 0, 0⟩, ⟨false, 0, 0⟩, ⟨false, 0, 0⟩, ⟨false, 0, 0⟩, ⟨false, 0, 1⟩, ⟨false, 0, 1⟩, ⟨false, 0, 1⟩, ⟨false, 0, 0⟩, ⟨false, 0, 0⟩, ⟨true, 0, 1⟩, ⟨false, 1, 1⟩, ⟨true, 1, 2⟩]
theorem c163_d12 : drawFine c163_r12 c163_a12 c163_m12 = true := by decide +kernel
abbrev c163_r13 : List Ins := [
  ⟨some 62, none, .mov (.t 9)⟩,
  ⟨some 63, none, .mov (.t 1)⟩,
  ⟨some 64, none, .bin .sub (.t 62) (.t 63)⟩,
  ⟨some 65, none, .bin .geq (.t 64) (.c (.int .i64 2))⟩]
abbrev c163_r14 : List Ins := [
  ⟨some 66, none, .mov (.t 9)⟩,
  ⟨some 67, none, .bin .sub (.t 66) (.c (.int .i64 1))⟩,
  ⟨some 11, none, .mov (.t 67)⟩]
abbrev c163_r15 : List Ins := [
  ⟨some 68, none, .mov (.t 11)⟩,
  ⟨some 69, none, .bin .geq (.t 68) (.c (.int .i64 1))⟩]
abbrev c163_r16 : List Ins := [
  ⟨some 72, none, .mov (.t 3)⟩,
  ⟨some 73, none, .mov (.t 0)⟩,
  ⟨some 74, none, .mov (.t 11)⟩,
  ⟨some 75, none, .iaddr 2 (.t 73) (.t 74)⟩,
  ⟨some 76, none, .load 2 true (.t 75)⟩,
  ⟨some 77, none, .mov (.t 0)⟩,
  ⟨some 78, none, .mov (.t 11)⟩,
  ⟨some 79, none, .bin .sub (.t 78) (.c (.int .i64 1))⟩,
  ⟨some 80, none, .iaddr 2 (.t 77) (.t 79)⟩,
  ⟨some 81, none, .load 2 true (.t 80)⟩,
  ⟨some 82, none, .call (.t 72) [.t 76, .t 81]⟩,
  ⟨some 83, none, .bin .lss (.t 82) (.c (.int .i64 0))⟩,
  ⟨some 84, none, .un .not (.t 83)⟩]
def c163_a16 : List (List Nat) := [[], [], [], [1, 2], [3], [], [], [6], [5, 7], [8], [0, 4, 9], [10], [11]]
abbrev c163_m16 : List Am.Mark := [⟨false, 0, 0⟩, ⟨false, 0, 1⟩, ⟨false, 0, 1⟩, ⟨false, 0, 1⟩, ⟨false, 0, 0⟩, ⟨false, 0, 1⟩, ⟨false, 0, 1⟩, ⟨false, 0, 1⟩, ⟨false, 0, 1⟩, ⟨false, 0, 0⟩, ⟨true, 0, 1⟩, ⟨false, 1, 1⟩, ⟨false, 1, 1⟩]
theorem c163_d16 : drawFine c163_r16 c163_a16 c163_m16 = true := by decide +kernel
abbrev c163_r17 : List Ins := [
  ⟨some 85, none, .mov (.t 0)⟩,
  ⟨some 86, none, .mov (.t 11)⟩,
  ⟨some 87, none, .mov (.t 0)⟩,
  ⟨some 88, none, .mov (.t 11)⟩,
  ⟨some 89, none, .bin .sub (.t 88) (.c (.int .i64 1))⟩,
  ⟨some 90, none, .mov (.t 0)⟩,
  ⟨some 91, none, .mov (.t 11)⟩,
  ⟨some 92, none, .bin .sub (.t 91) (.c (.int .i64 1))⟩,
  ⟨some 93, none, .iaddr 2 (.t 90) (.t 92)⟩,
  ⟨some 94, none, .load 2 true (.t 93)⟩,
  ⟨some 95, none, .mov (.t 0)⟩,
  ⟨some 96, none, .mov (.t 11)⟩,
  ⟨some 97, none, .iaddr 2 (.t 95) (.t 96)⟩,
  ⟨some 98, none, .load 2 true (.t 97)⟩,
  ⟨some 99, none, .iaddr 2 (.t 85) (.t 86)⟩,
  ⟨none, none, .store 2 (.t 99) (.t 94)⟩,
  ⟨some 100, none, .iaddr 2 (.t 87) (.t 89)⟩,
  ⟨none, none, .store 2 (.t 100) (.t 98)⟩]
def c163_a17 : List (List Nat) := [[], [], [], [], [3], [], [], [6], [5, 7], [8], [], [], [10, 11], [12], [0, 1, 0, 1, 5, 6, 7, 8, 9, 13], [14, 9, 0, 1, 5, 6, 7, 8, 9, 13], [2, 4, 0, 1, 2, 3, 4, 5, 6, 7, 8, 9, 10, 11, 12, 13, 14, 15], [16, 13, 15, 0, 1, 2, 3, 4, 5, 6, 7, 8, 9, 10, 11, 12, 13, 14, 15]]
abbrev c163_m17 : List Am.Mark := [⟨false, 0, 0⟩, ⟨false, 0, 0⟩, ⟨false, 0, 1⟩, ⟨false, 0, 1⟩, ⟨false, 0, 1⟩, ⟨false, 0, 0⟩, ⟨false, 0, 0⟩, ⟨false, 0, 0⟩, ⟨false, 0, 0⟩, ⟨false, 0, 0⟩, ⟨false, 0, 1⟩, ⟨false, 0, 1⟩, ⟨false, 0, 1⟩, ⟨false, 0, 0⟩, ⟨false, 0, 0⟩, ⟨true, 0, 1⟩, ⟨false, 1, 1⟩, ⟨true, 1, 2⟩]
theorem c163_d17 : drawFine c163_r17 c163_a17 c163_m17 = true := by decide +kernel
abbrev c163_r18 : List Ins := [
  ⟨some 70, none, .mov (.t 11)⟩,
  ⟨some 71, none, .bin .sub (.t 70) (.c (.int .i64 1))⟩,
  ⟨some 11, none, .mov (.t 71)⟩]
abbrev c163_l19 : IR := .seq (.seq (.reg c163_r15) (.cond (.t 69) (.skip) (.exit 4))) (.seq (.blk 5 (.seq (.seq (.dreg c163_r16 c163_a16) (.cond (.t 84) (.exit 4) (.skip))) (.dreg c163_r17 c163_a17))) (.reg c163_r18))
abbrev c163_r20 : List Ins := [
  ⟨some 101, none, .mov (.t 2)⟩,
  ⟨some 102, none, .mov (.t 9)⟩,
  ⟨some 103, none, .bin .sub (.t 101) (.t 102)⟩,
  ⟨some 104, none, .bin .geq (.t 103) (.c (.int .i64 2))⟩]
abbrev c163_r21 : List Ins := [
  ⟨some 105, none, .mov (.t 9)⟩,
  ⟨some 106, none, .bin .add (.t 105) (.c (.int .i64 1))⟩,
  ⟨some 12, none, .mov (.t 106)⟩]
abbrev c163_r22 : List Ins := [
  ⟨some 107, none, .mov (.t 12)⟩,
  ⟨some 108, none, .mov (.t 2)⟩,
  ⟨some 109, none, .bin .lss (.t 107) (.t 108)⟩]
abbrev c163_r23 : List Ins := [
  ⟨some 112, none, .mov (.t 3)⟩,
  ⟨some 113, none, .mov (.t 0)⟩,
  ⟨some 114, none, .mov (.t 12)⟩,
  ⟨some 115, none, .iaddr 2 (.t 113) (.t 114)⟩,
  ⟨some 116, none, .load 2 true (.t 115)⟩,
  ⟨some 117, none, .mov (.t 0)⟩,
  ⟨some 118, none, .mov (.t 12)⟩,
  ⟨some 119, none, .bin .sub (.t 118) (.c (.int .i64 1))⟩,
  ⟨some 120, none, .iaddr 2 (.t 117) (.t 119)⟩,
  ⟨some 121, none, .load 2 true (.t 120)⟩,
  ⟨some 122, none, .call (.t 112) [.t 116, .t 121]⟩,
  ⟨some 123, none, .bin .lss (.t 122) (.c (.int .i64 0))⟩,
  ⟨some 124, none, .un .not (.t 123)⟩]
def c163_a23 : List (List Nat) := [[], [], [], [1, 2], [3], [], [], [6], [5, 7], [8], [0, 4, 9], [10], [11]]
abbrev c163_m23 : List Am.Mark := [⟨false, 0, 0⟩, ⟨false, 0, 1⟩, ⟨false, 0, 1⟩, ⟨false, 0, 1⟩, ⟨false, 0, 0⟩, ⟨false, 0, 1⟩, ⟨false, 0, 1⟩, ⟨false, 0, 1⟩, ⟨false, 0, 1⟩, ⟨false, 0, 0⟩, ⟨true, 0, 1⟩, ⟨false, 1, 1⟩, ⟨false, 1, 1⟩]
theorem c163_d23 : drawFine c163_r23 c163_a23 c163_m23 = true := by decide +kernel
abbrev c163_r24 : List Ins := [
  ⟨some 125, none, .mov (.t 0)⟩,
  ⟨some 126, none, .mov (.t 12)⟩,
  ⟨some 127, none, .mov (.t 0)⟩,
  ⟨some 128, none, .mov (.t 12)⟩,
  ⟨some 129, none, .bin .sub (.t 128) (.c (.int .i64 1))⟩,
  ⟨some 130, none, .mov (.t 0)⟩,
  ⟨some 131, none, .mov (.t 12)⟩,
  ⟨some 132, none, .bin .sub (.t 131) (.c (.int .i64 1))⟩,
  ⟨some 133, none, .iaddr 2 (.t 130) (.t 132)⟩,
  ⟨some 134, none, .load 2 true (.t 133)⟩,
  ⟨some 135, none, .mov (.t 0)⟩,
  ⟨some 136, none, .mov (.t 12)⟩,
  ⟨some 137, none, .iaddr 2 (.t 135) (.t 136)⟩,
  ⟨some 138, none, .load 2 true (.t 137)⟩,
  ⟨some 139, none, .iaddr 2 (.t 125) (.t 126)⟩,
  ⟨none, none, .store 2 (.t 139) (.t 134)⟩,
  ⟨some 140, none, .iaddr 2 (.t 127) (.t 129)⟩,
  ⟨none, none, .store 2 (.t 140) (.t 138)⟩]
def c163_a24 : List (List Nat) := [[], [], [], [], [3], [], [], [6], [5, 7], [8], [], [], [10, 11], [12], [0, 1, 0, 1, 5, 6, 7, 8, 9, 13], [14, 9, 0, 1, 5, 6, 7, 8, 9, 13], [2, 4, 0, 1, 2, 3, 4, 5, 6, 7, 8, 9, 10, 11, 12, 13, 14, 15], [16, 13, 15, 0, 1, 2, 3, 4, 5, 6, 7, 8, 9, 10, 11, 12, 13, 14, 15]]
abbrev c163_m24 : List Am.Mark := [⟨false, 0, 0⟩, ⟨false, 0, 0⟩, ⟨false, 0, 1⟩, ⟨false, 0, 1⟩, ⟨false, 0, 1⟩, ⟨false, 0, 0⟩, ⟨false, 0, 0⟩, ⟨false, 0, 0⟩, ⟨false, 0, 0⟩, ⟨false, 0, 0⟩, ⟨false, 0, 1⟩, ⟨false, 0, 1⟩, ⟨false, 0, 1⟩, ⟨false, 0, 0⟩, ⟨false, 0, 0⟩, ⟨true, 0, 1⟩, ⟨false, 1, 1⟩, ⟨true, 1, 2⟩]
theorem c163_d24 : drawFine c163_r24 c163_a24 c163_m24 = true := by decide +kernel
abbrev c163_r25 : List Ins := [
  ⟨some 110, none, .mov (.t 12)⟩,
  ⟨some 111, none, .bin .add (.t 110) (.c (.int .i64 1))⟩,
  ⟨some 12, none, .mov (.t 111)⟩]
abbrev c163_l26 : IR := .seq (.seq (.reg c163_r22) (.cond (.t 109) (.skip) (.exit 6))) (.seq (.blk 7 (.seq (.seq (.dreg c163_r23 c163_a23) (.cond (.t 124) (.exit 6) (.skip))) (.dreg c163_r24 c163_a24))) (.reg c163_r25))
abbrev c163_r27 : List Ins := [
  ⟨some 17, none, .mov (.t 10)⟩,
  ⟨some 18, none, .bin .add (.t 17) (.c (.int .i64 1))⟩,
  ⟨some 10, none, .mov (.t 18)⟩]
abbrev c163_l28 : IR := .seq (.seq (.reg c163_r4) (.cond (.t 16) (.skip) (.exit 0))) (.seq (.blk 1 (.seq (.blk 2 (.loop c163_l7)) (.seq (.seq (.reg c163_r8) (.cond (.t 41) (.seq (.reg c163_r9) (.ret)) (.skip))) (.seq (.seq (.reg c163_r10) (.cond (.t 45) (.seq (.reg c163_r11) (.ret)) (.skip))) (.seq (.dreg c163_r12 c163_a12) (.seq (.seq (.reg c163_r13) (.cond (.t 65) (.seq (.reg c163_r14) (.blk 4 (.loop c163_l19))) (.skip))) (.seq (.reg c163_r20) (.cond (.t 104) (.seq (.reg c163_r21) (.blk 6 (.loop c163_l26))) (.skip))))))))) (.reg c163_r27))
abbrev c163_r29 : List Ins := [
  ⟨some 8, none, .mov (.c (.bool false))⟩]
abbrev c163 : IR := .seq (.reg c163_r1) (.seq (.reg c163_r2) (.seq (.seq (.reg c163_r3) (.blk 0 (.loop c163_l28))) (.seq (.reg c163_r29) (.ret))))
abbrev F163 : FnA := ⟨141, c163, [.t 8]⟩
theorem ok163 : cFn Try.prog 163 = some F163 := by kernel_rfl
theorem hb163 : HasBody Try.prog 163 := ⟨_, Try.func163, by kernel_rfl, by kernel_rfl⟩
/-! slices.partitionEqualCmpFunc:Span -/
abbrev c164_r1 : List Ins := [
  ⟨some 10, none, .mov (.c (.int .i64 0))⟩]
abbrev c164_r2 : List Ins := [
  ⟨some 13, none, .mov (.t 0)⟩,
  ⟨some 14, none, .mov (.t 1)⟩,
  ⟨some 15, none, .mov (.t 0)⟩,
  ⟨some 16, none, .mov (.t 3)⟩,
  ⟨some 17, none, .mov (.t 0)⟩,
  ⟨some 18, none, .mov (.t 3)⟩,
  ⟨some 19, none, .iaddr 2 (.t 17) (.t 18)⟩,
  ⟨some 20, none, .load 2 true (.t 19)⟩,
  ⟨some 21, none, .mov (.t 0)⟩,
  ⟨some 22, none, .mov (.t 1)⟩,
  ⟨some 23, none, .iaddr 2 (.t 21) (.t 22)⟩,
  ⟨some 24, none, .load 2 true (.t 23)⟩,
  ⟨some 25, none, .iaddr 2 (.t 13) (.t 14)⟩,
  ⟨none, none, .store 2 (.t 25) (.t 20)⟩,
  ⟨some 26, none, .iaddr 2 (.t 15) (.t 16)⟩,
  ⟨none, none, .store 2 (.t 26) (.t 24)⟩]
def c164_a2 : List (List Nat) := [[], [], [], [], [], [], [4, 5], [6], [], [], [8, 9], [10], [0, 1, 0, 1, 4, 5, 6, 7, 11], [12, 7, 0, 1, 4, 5, 6, 7, 11], [2, 3, 0, 1, 2, 3, 4, 5, 6, 7, 8, 9, 10, 11, 12, 13], [14, 11, 13, 0, 1, 2, 3, 4, 5, 6, 7, 8, 9, 10, 11, 12, 13]]
abbrev c164_m2 : List Am.Mark := [⟨false, 0, 0⟩, ⟨false, 0, 0⟩, ⟨false, 0, 1⟩, ⟨false, 0, 1⟩, ⟨false, 0, 0⟩, ⟨false, 0, 0⟩, ⟨false, 0, 0⟩, ⟨false, 0, 0⟩, ⟨false, 0, 1⟩, ⟨false, 0, 1⟩, ⟨false, 0, 1⟩, ⟨false, 0, 0⟩, ⟨false, 0, 0⟩, ⟨true, 0, 1⟩, ⟨false, 1, 1⟩, ⟨true, 1, 2⟩]
theorem c164_d2 : drawFine c164_r2 c164_a2 c164_m2 = true := by decide +kernel
abbrev c164_r3 : List Ins := [
  ⟨some 27, none, .mov (.t 1)⟩,
  ⟨some 28, none, .bin .add (.t 27) (.c (.int .i64 1))⟩,
  ⟨some 29, none, .mov (.t 2)⟩,
  ⟨some 30, none, .bin .sub (.t 29) (.c (.int .i64 1))⟩,
  ⟨some 11, none, .mov (.t 28)⟩,
  ⟨some 12, none, .mov (.t 30)⟩]
abbrev c164_r4 : List Ins := [
  ⟨some 31, none, .mov (.t 11)⟩,
  ⟨some 32, none, .mov (.t 12)⟩,
  ⟨some 33, none, .bin .leq (.t 31) (.t 32)⟩,
  ⟨some 34, none, .mov (.t 33)⟩,
  ⟨some 35, some (34, true), .mov (.t 4)⟩,
  ⟨some 36, some (34, true), .mov (.t 0)⟩,
  ⟨some 37, some (34, true), .mov (.t 1)⟩,
  ⟨some 38, some (34, true), .iaddr 2 (.t 36) (.t 37)⟩,
  ⟨some 39, some (34, true), .load 2 true (.t 38)⟩,
  ⟨some 40, some (34, true), .mov (.t 0)⟩,
  ⟨some 41, some (34, true), .mov (.t 11)⟩,
  ⟨some 42, some (34, true), .iaddr 2 (.t 40) (.t 41)⟩,
  ⟨some 43, some (34, true), .load 2 true (.t 42)⟩,
  ⟨some 44, some (34, true), .call (.t 35) [.t 39, .t 43]⟩,
  ⟨some 45, some (34, true), .bin .lss (.t 44) (.c (.int .i64 0))⟩,
  ⟨some 46, some (34, true), .un .not (.t 45)⟩,
  ⟨some 47, none, .pick (.t 34) (.t 46) (.c (.bool false))⟩]
def c164_a4 : List (List Nat) := [[], [], [0, 1], [2], [3], [3], [3], [5, 6, 3], [7, 3], [3], [3], [9, 10, 3], [11, 3], [4, 8, 12, 3, 3], [13, 3], [14, 3], [3, 15]]
abbrev c164_m4 : List Am.Mark := [⟨false, 0, 1⟩, ⟨false, 0, 1⟩, ⟨false, 0, 1⟩, ⟨false, 0, 0⟩, ⟨false, 0, 0⟩, ⟨false, 0, 1⟩, ⟨false, 0, 1⟩, ⟨false, 0, 1⟩, ⟨false, 0, 0⟩, ⟨false, 0, 1⟩, ⟨false, 0, 1⟩, ⟨false, 0, 1⟩, ⟨false, 0, 0⟩, ⟨true, 0, 1⟩, ⟨false, 1, 1⟩, ⟨false, 1, 1⟩, ⟨false, 1, 1⟩]
theorem c164_d4 : drawFine c164_r4 c164_a4 c164_m4 = true := by decide +kernel
abbrev c164_r5 : List Ins := [
  ⟨some 48, none, .mov (.t 11)⟩,
  ⟨some 49, none, .bin .add (.t 48) (.c (.int .i64 1))⟩,
  ⟨some 11, none, .mov (.t 49)⟩]
abbrev c164_l6 : IR := .seq (.seq (.dreg c164_r4 c164_a4) (.cond (.t 47) (.skip) (.exit 2))) (.blk 3 (.reg c164_r5))
abbrev c164_r7 : List Ins := [
  ⟨some 50, none, .mov (.t 11)⟩,
  ⟨some 51, none, .mov (.t 12)⟩,
  ⟨some 52, none, .bin .leq (.t 50) (.t 51)⟩,
  ⟨some 53, none, .mov (.t 52)⟩,
  ⟨some 54, some (53, true), .mov (.t 4)⟩,
  ⟨some 55, some (53, true), .mov (.t 0)⟩,
  ⟨some 56, some (53, true), .mov (.t 1)⟩,
  ⟨some 57, some (53, true), .iaddr 2 (.t 55) (.t 56)⟩,
  ⟨some 58, some (53, true), .load 2 true (.t 57)⟩,
  ⟨some 59, some (53, true), .mov (.t 0)⟩,
  ⟨some 60, some (53, true), .mov (.t 12)⟩,
  ⟨some 61, some (53, true), .iaddr 2 (.t 59) (.t 60)⟩,
  ⟨some 62, some (53, true), .load 2 true (.t 61)⟩,
  ⟨some 63, some (53, true), .call (.t 54) [.t 58, .t 62]⟩,
  ⟨some 64, some (53, true), .bin .lss (.t 63) (.c (.int .i64 0))⟩,
  ⟨some 65, none, .pick (.t 53) (.t 64) (.c (.bool false))⟩]
def c164_a7 : List (List Nat) := [[], [], [0, 1], [2], [3], [3], [3], [5, 6, 3], [7, 3], [3], [3], [9, 10, 3], [11, 3], [4, 8, 12, 3, 3], [13, 3], [3, 14]]
abbrev c164_m7 : List Am.Mark := [⟨false, 0, 1⟩, ⟨false, 0, 1⟩, ⟨false, 0, 1⟩, ⟨false, 0, 0⟩, ⟨false, 0, 0⟩, ⟨false, 0, 1⟩, ⟨false, 0, 1⟩, ⟨false, 0, 1⟩, ⟨false, 0, 0⟩, ⟨false, 0, 1⟩, ⟨false, 0, 1⟩, ⟨false, 0, 1⟩, ⟨false, 0, 0⟩, ⟨true, 0, 1⟩, ⟨false, 1, 1⟩, ⟨false, 1, 1⟩]
theorem c164_d7 : drawFine c164_r7 c164_a7 c164_m7 = true := by decide +kernel
abbrev c164_r8 : List Ins := [
  ⟨some 66, none, .mov (.t 12)⟩,
  ⟨some 67, none, .bin .sub (.t 66) (.c (.int .i64 1))⟩,
  ⟨some 12, none, .mov (.t 67)⟩]
abbrev c164_l9 : IR := .seq (.seq (.dreg c164_r7 c164_a7) (.cond (.t 65) (.skip) (.exit 4))) (.blk 5 (.reg c164_r8))
abbrev c164_r10 : List Ins := [
  ⟨some 68, none, .mov (.t 11)⟩,
  ⟨some 69, none, .mov (.t 12)⟩,
  ⟨some 70, none, .bin .gtr (.t 68) (.t 69)⟩]
abbrev c164_r11 : List Ins := [
  ⟨some 71, none, .mov (.t 0)⟩,
  ⟨some 72, none, .mov (.t 11)⟩,
  ⟨some 73, none, .mov (.t 0)⟩,
  ⟨some 74, none, .mov (.t 12)⟩,
  ⟨some 75, none, .mov (.t 0)⟩,
  ⟨some 76, none, .mov (.t 12)⟩,
  ⟨some 77, none, .iaddr 2 (.t 75) (.t 76)⟩,
  ⟨some 78, none, .load 2 true (.t 77)⟩,
  ⟨some 79, none, .mov (.t 0)⟩,
  ⟨some 80, none, .mov (.t 11)⟩,
  ⟨some 81, none, .iaddr 2 (.t 79) (.t 80)⟩,
  ⟨some 82, none, .load 2 true (.t 81)⟩,
  ⟨some 83, none, .iaddr 2 (.t 71) (.t 72)⟩,
  ⟨none, none, .store 2 (.t 83) (.t 78)⟩,
  ⟨some 84, none, .iaddr 2 (.t 73) (.t 74)⟩,
  ⟨none, none, .store 2 (.t 84) (.t 82)⟩]
def c164_a11 : List (List Nat) := [[], [], [], [], [], [], [4, 5], [6], [], [], [8, 9], [10], [0, 1, 0, 1, 4, 5, 6, 7, 11], [12, 7, 0, 1, 4, 5, 6, 7, 11], [2, 3, 0, 1, 2, 3, 4, 5, 6, 7, 8, 9, 10, 11, 12, 13], [14, 11, 13, 0, 1, 2, 3, 4, 5, 6, 7, 8, 9, 10, 11, 12, 13]]
abbrev c164_m11 : List Am.Mark := [⟨false, 0, 0⟩, ⟨false, 0, 0⟩, ⟨false, 0, 1⟩, ⟨false, 0, 1⟩, ⟨false, 0, 0⟩, ⟨false, 0, 0⟩, ⟨false, 0, 0⟩, ⟨false, 0, 0⟩, ⟨false, 0, 1⟩, ⟨false, 0, 1⟩, ⟨false, 0, 1⟩, ⟨false, 0, 0⟩, ⟨false, 0, 0⟩, ⟨true, 0, 1⟩, ⟨false, 1, 1⟩, ⟨true, 1, 2⟩]
theorem c164_d11 : drawFine c164_r11 c164_a11 c164_m11 = true := by decide +kernel
abbrev c164_r12 : List Ins := [
  ⟨some 85, none, .mov (.t 11)⟩,
  ⟨some 86, none, .bin .add (.t 85) (.c (.int .i64 1))⟩,
  ⟨some 11, none, .mov (.t 86)⟩]
abbrev c164_r13 : List Ins := [
  ⟨some 87, none, .mov (.t 12)⟩,
  ⟨some 88, none, .bin .sub (.t 87) (.c (.int .i64 1))⟩,
  ⟨some 12, none, .mov (.t 88)⟩]
abbrev c164_l14 : IR := .blk 1 (.seq (.blk 2 (.loop c164_l6)) (.seq (.blk 4 (.loop c164_l9)) (.seq (.seq (.reg c164_r10) (.cond (.t 70) (.exit 0) (.skip))) (.seq (.dreg c164_r11 c164_a11) (.seq (.reg c164_r12) (.reg c164_r13))))))
abbrev c164_r15 : List Ins := [
  ⟨some 89, none, .mov (.t 11)⟩,
  ⟨some 10, none, .mov (.t 89)⟩]
abbrev c164 : IR := .seq (.reg c164_r1) (.seq (.dreg c164_r2 c164_a2) (.seq (.reg c164_r3) (.seq (.blk 0 (.loop c164_l14)) (.seq (.reg c164_r15) (.ret)))))
abbrev F164 : FnA := ⟨90, c164, [.t 10]⟩
theorem ok164 : cFn Try.prog 164 = some F164 := by kernel_rfl
theorem hb164 : HasBody Try.prog 164 := ⟨_, Try.func164, by kernel_rfl, by kernel_rfl⟩
/-! slices.partitionCmpFunc:Span -/
abbrev c165_r1 : List Ins := [
  ⟨some 10, none, .mov (.c (.int .i64 0))⟩,
  ⟨some 11, none, .mov (.c (.bool false))⟩]
abbrev c165_r2 : List Ins := [
  ⟨some 14, none, .mov (.t 0)⟩,
  ⟨some 15, none, .mov (.t 1)⟩,
  ⟨some 16, none, .mov (.t 0)⟩,
  ⟨some 17, none, .mov (.t 3)⟩,
  ⟨some 18, none, .mov (.t 0)⟩,
  ⟨some 19, none, .mov (.t 3)⟩,
  ⟨some 20, none, .iaddr 2 (.t 18) (.t 19)⟩,
  ⟨some 21, none, .load 2 true (.t 20)⟩,
  ⟨some 22, none, .mov (.t 0)⟩,
  ⟨some 23, none, .mov (.t 1)⟩,
  ⟨some 24, none, .iaddr 2 (.t 22) (.t 23)⟩,
  ⟨some 25, none, .load 2 true (.t 24)⟩,
  ⟨some 26, none, .iaddr 2 (.t 14) (.t 15)⟩,
  ⟨none, none, .store 2 (.t 26) (.t 21)⟩,
  ⟨some 27, none, .iaddr 2 (.t 16) (.t 17)⟩,
  ⟨none, none, .store 2 (.t 27) (.t 25)⟩]
def c165_a2 : List (List Nat) := [[], [], [], [], [], [], [4, 5], [6], [], [], [8, 9], [10], [0, 1, 0, 1, 4, 5, 6, 7, 11], [12, 7, 0, 1, 4, 5, 6, 7, 11], [2, 3, 0, 1, 2, 3, 4, 5, 6, 7, 8, 9, 10, 11, 12, 13], [14, 11, 13, 0, 1, 2, 3, 4, 5, 6, 7, 8, 9, 10, 11, 12, 13]]
abbrev c165_m2 : List Am.Mark := [⟨false, 0, 0⟩, ⟨false, 0, 0⟩, ⟨false, 0, 1⟩, ⟨false, 0, 1⟩, ⟨false, 0, 0⟩, ⟨false, 0, 0⟩, ⟨false, 0, 0⟩, ⟨false, 0, 0⟩, ⟨false, 0, 1⟩, ⟨false, 0, 1⟩, ⟨false, 0, 1⟩, ⟨false, 0, 0⟩, ⟨false, 0, 0⟩, ⟨true, 0, 1⟩, ⟨false, 1, 1⟩, ⟨true, 1, 2⟩]
theorem c165_d2 : drawFine c165_r2 c165_a2 c165_m2 = true := by decide +kernel
abbrev c165_r3 : List Ins := [
  ⟨some 28, none, .mov (.t 1)⟩,
  ⟨some 29, none, .bin .add (.t 28) (.c (.int .i64 1))⟩,
  ⟨some 30, none, .mov (.t 2)⟩,
  ⟨some 31, none, .bin .sub (.t 30) (.c (.int .i64 1))⟩,
  ⟨some 12, none, .mov (.t 29)⟩,
  ⟨some 13, none, .mov (.t 31)⟩]
abbrev c165_r4 : List Ins := [
  ⟨some 32, none, .mov (.t 12)⟩,
  ⟨some 33, none, .mov (.t 13)⟩,
  ⟨some 34, none, .bin .leq (.t 32) (.t 33)⟩,
  ⟨some 35, none, .mov (.t 34)⟩,
  ⟨some 36, some (35, true), .mov (.t 4)⟩,
  ⟨some 37, some (35, true), .mov (.t 0)⟩,
  ⟨some 38, some (35, true), .mov (.t 12)⟩,
  ⟨some 39, some (35, true), .iaddr 2 (.t 37) (.t 38)⟩,
  ⟨some 40, some (35, true), .load 2 true (.t 39)⟩,
  ⟨some 41, some (35, true), .mov (.t 0)⟩,
  ⟨some 42, some (35, true), .mov (.t 1)⟩,
  ⟨some 43, some (35, true), .iaddr 2 (.t 41) (.t 42)⟩,
  ⟨some 44, some (35, true), .load 2 true (.t 43)⟩,
  ⟨some 45, some (35, true), .call (.t 36) [.t 40, .t 44]⟩,
  ⟨some 46, some (35, true), .bin .lss (.t 45) (.c (.int .i64 0))⟩,
  ⟨some 47, none, .pick (.t 35) (.t 46) (.c (.bool false))⟩]
def c165_a4 : List (List Nat) := [[], [], [0, 1], [2], [3], [3], [3], [5, 6, 3], [7, 3], [3], [3], [9, 10, 3], [11, 3], [4, 8, 12, 3, 3], [13, 3], [3, 14]]
abbrev c165_m4 : List Am.Mark := [⟨false, 0, 1⟩, ⟨false, 0, 1⟩, ⟨false, 0, 1⟩, ⟨false, 0, 0⟩, ⟨false, 0, 0⟩, ⟨false, 0, 1⟩, ⟨false, 0, 1⟩, ⟨false, 0, 1⟩, ⟨false, 0, 0⟩, ⟨false, 0, 1⟩, ⟨false, 0, 1⟩, ⟨false, 0, 1⟩, ⟨false, 0, 0⟩, ⟨true, 0, 1⟩, ⟨false, 1, 1⟩, ⟨false, 1, 1⟩]
theorem c165_d4 : drawFine c165_r4 c165_a4 c165_m4 = true := by decide +kernel
abbrev c165_r5 : List Ins := [
  ⟨some 48, none, .mov (.t 12)⟩,
  ⟨some 49, none, .bin .add (.t 48) (.c (.int .i64 1))⟩,
  ⟨some 12, none, .mov (.t 49)⟩]
abbrev c165_l6 : IR := .seq (.seq (.dreg c165_r4 c165_a4) (.cond (.t 47) (.skip) (.exit 0))) (.blk 1 (.reg c165_r5))
abbrev c165_r7 : List Ins := [
  ⟨some 50, none, .mov (.t 12)⟩,
  ⟨some 51, none, .mov (.t 13)⟩,
  ⟨some 52, none, .bin .leq (.t 50) (.t 51)⟩,
  ⟨some 53, none, .mov (.t 52)⟩,
  ⟨some 54, some (53, true), .mov (.t 4)⟩,
  ⟨some 55, some (53, true), .mov (.t 0)⟩,
  ⟨some 56, some (53, true), .mov (.t 13)⟩,
  ⟨some 57, some (53, true), .iaddr 2 (.t 55) (.t 56)⟩,
  ⟨some 58, some (53, true), .load 2 true (.t 57)⟩,
  ⟨some 59, some (53, true), .mov (.t 0)⟩,
  ⟨some 60, some (53, true), .mov (.t 1)⟩,
  ⟨some 61, some (53, true), .iaddr 2 (.t 59) (.t 60)⟩,
  ⟨some 62, some (53, true), .load 2 true (.t 61)⟩,
  ⟨some 63, some (53, true), .call (.t 54) [.t 58, .t 62]⟩,
  ⟨some 64, some (53, true), .bin .lss (.t 63) (.c (.int .i64 0))⟩,
  ⟨some 65, some (53, true), .un .not (.t 64)⟩,
  ⟨some 66, none, .pick (.t 53) (.t 65) (.c (.bool false))⟩]
def c165_a7 : List (List Nat) := [[], [], [0, 1], [2], [3], [3], [3], [5, 6, 3], [7, 3], [3], [3], [9, 10, 3], [11, 3], [4, 8, 12, 3, 3], [13, 3], [14, 3], [3, 15]]
abbrev c165_m7 : List Am.Mark := [⟨false, 0, 1⟩, ⟨false, 0, 1⟩, ⟨false, 0, 1⟩, ⟨false, 0, 0⟩, ⟨false, 0, 0⟩, ⟨false, 0, 1⟩, ⟨false, 0, 1⟩, ⟨false, 0, 1⟩, ⟨false, 0, 0⟩, ⟨false, 0, 1⟩, ⟨false, 0, 1⟩, ⟨false, 0, 1⟩, ⟨false, 0, 0⟩, ⟨true, 0, 1⟩, ⟨false, 1, 1⟩, ⟨false, 1, 1⟩, ⟨false, 1, 1⟩]
theorem c165_d7 : drawFine c165_r7 c165_a7 c165_m7 = true := by decide +kernel
abbrev c165_r8 : List Ins := [
  ⟨some 67, none, .mov (.t 13)⟩,
  ⟨some 68, none, .bin .sub (.t 67) (.c (.int .i64 1))⟩,
  ⟨some 13, none, .mov (.t 68)⟩]
abbrev c165_l9 : IR := .seq (.seq (.dreg c165_r7 c165_a7) (.cond (.t 66) (.skip) (.exit 2))) (.blk 3 (.reg c165_r8))
abbrev c165_r10 : List Ins := [
  ⟨some 69, none, .mov (.t 12)⟩,
  ⟨some 70, none, .mov (.t 13)⟩,
  ⟨some 71, none, .bin .gtr (.t 69) (.t 70)⟩]
abbrev c165_r11 : List Ins := [
  ⟨some 72, none, .mov (.t 0)⟩,
  ⟨some 73, none, .mov (.t 13)⟩,
  ⟨some 74, none, .mov (.t 0)⟩,
  ⟨some 75, none, .mov (.t 1)⟩,
  ⟨some 76, none, .mov (.t 0)⟩,
  ⟨some 77, none, .mov (.t 1)⟩,
  ⟨some 78, none, .iaddr 2 (.t 76) (.t 77)⟩,
  ⟨some 79, none, .load 2 true (.t 78)⟩,
  ⟨some 80, none, .mov (.t 0)⟩,
  ⟨some 81, none, .mov (.t 13)⟩,
  ⟨some 82, none, .iaddr 2 (.t 80) (.t 81)⟩,
  ⟨some 83, none, .load 2 true (.t 82)⟩,
  ⟨some 84, none, .iaddr 2 (.t 72) (.t 73)⟩,
  ⟨none, none, .store 2 (.t 84) (.t 79)⟩,
  ⟨some 85, none, .iaddr 2 (.t 74) (.t 75)⟩,
  ⟨none, none, .store 2 (.t 85) (.t 83)⟩]
def c165_a11 : List (List Nat) := [[], [], [], [], [], [], [4, 5], [6], [], [], [8, 9], [10], [0, 1, 0, 1, 4, 5, 6, 7, 11], [12, 7, 0, 1, 4, 5, 6, 7, 11], [2, 3, 0, 1, 2, 3, 4, 5, 6, 7, 8, 9, 10, 11, 12, 13], [14, 11, 13, 0, 1, 2, 3, 4, 5, 6, 7, 8, 9, 10, 11, 12, 13]]
abbrev c165_m11 : List Am.Mark := [⟨false, 0, 0⟩, ⟨false, 0, 0⟩, ⟨false, 0, 1⟩, ⟨false, 0, 1⟩, ⟨false, 0, 0⟩, ⟨false, 0, 0⟩, ⟨false, 0, 0⟩, ⟨false, 0, 0⟩, ⟨false, 0, 1⟩, ⟨false, 0, 1⟩, ⟨false, 0, 1⟩, ⟨false, 0, 0⟩, ⟨false, 0, 0⟩, ⟨true, 0, 1⟩, ⟨false, 1, 1⟩, ⟨true, 1, 2⟩]
theorem c165_d11 : drawFine c165_r11 c165_a11 c165_m11 = true := by decide +kernel
abbrev c165_r12 : List Ins := [
  ⟨some 86, none, .mov (.t 13)⟩,
  ⟨some 10, none, .mov (.t 86)⟩,
  ⟨some 11, none, .mov (.c (.bool true))⟩]
abbrev c165_r13 : List Ins := [
  ⟨some 87, none, .mov (.t 0)⟩,
  ⟨some 88, none, .mov (.t 12)⟩,
  ⟨some 89, none, .mov (.t 0)⟩,
  ⟨some 90, none, .mov (.t 13)⟩,
  ⟨some 91, none, .mov (.t 0)⟩,
  ⟨some 92, none, .mov (.t 13)⟩,
  ⟨some 93, none, .iaddr 2 (.t 91) (.t 92)⟩,
  ⟨some 94, none, .load 2 true (.t 93)⟩,
  ⟨some 95, none, .mov (.t 0)⟩,
  ⟨some 96, none, .mov (.t 12)⟩,
  ⟨some 97, none, .iaddr 2 (.t 95) (.t 96)⟩,
  ⟨some 98, none, .load 2 true (.t 97)⟩,
  ⟨some 99, none, .iaddr 2 (.t 87) (.t 88)⟩,
  ⟨none, none, .store 2 (.t 99) (.t 94)⟩,
  ⟨some 100, none, .iaddr 2 (.t 89) (.t 90)⟩,
  ⟨none, none, .store 2 (.t 100) (.t 98)⟩]
def c165_a13 : List (List Nat) := [[], [], [], [], [], [], [4, 5], [6], [], [], [8, 9], [10], [0, 1, 0, 1, 4, 5, 6, 7, 11], [12, 7, 0, 1, 4, 5, 6, 7, 11], [2, 3, 0, 1, 2, 3, 4, 5, 6, 7, 8, 9, 10, 11, 12, 13], [14, 11, 13, 0, 1, 2, 3, 4, 5, 6, 7, 8, 9, 10, 11, 12, 13]]
abbrev c165_m13 : List Am.Mark := [⟨false, 0, 0⟩, ⟨false, 0, 0⟩, ⟨false, 0, 1⟩, ⟨false, 0, 1⟩, ⟨false, 0, 0⟩, ⟨false, 0, 0⟩, ⟨false, 0, 0⟩, ⟨false, 0, 0⟩, ⟨false, 0, 1⟩, ⟨false, 0, 1⟩, ⟨false, 0, 1⟩, ⟨false, 0, 0⟩, ⟨false, 0, 0⟩, ⟨true, 0, 1⟩, ⟨false, 1, 1⟩, ⟨true, 1, 2⟩]
theorem c165_d13 : drawFine c165_r13 c165_a13 c165_m13 = true := by decide +kernel
abbrev c165_r14 : List Ins := [
  ⟨some 101, none, .mov (.t 12)⟩,
  ⟨some 102, none, .bin .add (.t 101) (.c (.int .i64 1))⟩,
  ⟨some 12, none, .mov (.t 102)⟩]
abbrev c165_r15 : List Ins := [
  ⟨some 103, none, .mov (.t 13)⟩,
  ⟨some 104, none, .bin .sub (.t 103) (.c (.int .i64 1))⟩,
  ⟨some 13, none, .mov (.t 104)⟩]
abbrev c165_r16 : List Ins := [
  ⟨some 105, none, .mov (.t 12)⟩,
  ⟨some 106, none, .mov (.t 13)⟩,
  ⟨some 107, none, .bin .leq (.t 105) (.t 106)⟩,
  ⟨some 108, none, .mov (.t 107)⟩,
  ⟨some 109, some (108, true), .mov (.t 4)⟩,
  ⟨some 110, some (108, true), .mov (.t 0)⟩,
  ⟨some 111, some (108, true), .mov (.t 12)⟩,
  ⟨some 112, some (108, true), .iaddr 2 (.t 110) (.t 111)⟩,
  ⟨some 113, some (108, true), .load 2 true (.t 112)⟩,
  ⟨some 114, some (108, true), .mov (.t 0)⟩,
  ⟨some 115, some (108, true), .mov (.t 1)⟩,
  ⟨some 116, some (108, true), .iaddr 2 (.t 114) (.t 115)⟩,
  ⟨some 117, some (108, true), .load 2 true (.t 116)⟩,
  ⟨some 118, some (108, true), .call (.t 109) [.t 113, .t 117]⟩,
  ⟨some 119, some (108, true), .bin .lss (.t 118) (.c (.int .i64 0))⟩,
  ⟨some 120, none, .pick (.t 108) (.t 119) (.c (.bool false))⟩]
def c165_a16 : List (List Nat) := [[], [], [0, 1], [2], [3], [3], [3], [5, 6, 3], [7, 3], [3], [3], [9, 10, 3], [11, 3], [4, 8, 12, 3, 3], [13, 3], [3, 14]]
abbrev c165_m16 : List Am.Mark := [⟨false, 0, 1⟩, ⟨false, 0, 1⟩, ⟨false, 0, 1⟩, ⟨false, 0, 0⟩, ⟨false, 0, 0⟩, ⟨false, 0, 1⟩, ⟨false, 0, 1⟩, ⟨false, 0, 1⟩, ⟨false, 0, 0⟩, ⟨false, 0, 1⟩, ⟨false, 0, 1⟩, ⟨false, 0, 1⟩, ⟨false, 0, 0⟩, ⟨true, 0, 1⟩, ⟨false, 1, 1⟩, ⟨false, 1, 1⟩]
theorem c165_d16 : drawFine c165_r16 c165_a16 c165_m16 = true := by decide +kernel
abbrev c165_r17 : List Ins := [
  ⟨some 121, none, .mov (.t 12)⟩,
  ⟨some 122, none, .bin .add (.t 121) (.c (.int .i64 1))⟩,
  ⟨some 12, none, .mov (.t 122)⟩]
abbrev c165_l18 : IR := .seq (.seq (.dreg c165_r16 c165_a16) (.cond (.t 120) (.skip) (.exit 6))) (.blk 7 (.reg c165_r17))
abbrev c165_r19 : List Ins := [
  ⟨some 123, none, .mov (.t 12)⟩,
  ⟨some 124, none, .mov (.t 13)⟩,
  ⟨some 125, none, .bin .leq (.t 123) (.t 124)⟩,
  ⟨some 126, none, .mov (.t 125)⟩,
  ⟨some 127, some (126, true), .mov (.t 4)⟩,
  ⟨some 128, some (126, true), .mov (.t 0)⟩,
  ⟨some 129, some (126, true), .mov (.t 13)⟩,
  ⟨some 130, some (126, true), .iaddr 2 (.t 128) (.t 129)⟩,
  ⟨some 131, some (126, true), .load 2 true (.t 130)⟩,
  ⟨some 132, some (126, true), .mov (.t 0)⟩,
  ⟨some 133, some (126, true), .mov (.t 1)⟩,
  ⟨some 134, some (126, true), .iaddr 2 (.t 132) (.t 133)⟩,
  ⟨some 135, some (126, true), .load 2 true (.t 134)⟩,
  ⟨some 136, some (126, true), .call (.t 127) [.t 131, .t 135]⟩,
  ⟨some 137, some (126, true), .bin .lss (.t 136) (.c (.int .i64 0))⟩,
  ⟨some 138, some (126, true), .un .not (.t 137)⟩,
  ⟨some 139, none, .pick (.t 126) (.t 138) (.c (.bool false))⟩]
def c165_a19 : List (List Nat) := [[], [], [0, 1], [2], [3], [3], [3], [5, 6, 3], [7, 3], [3], [3], [9, 10, 3], [11, 3], [4, 8, 12, 3, 3], [13, 3], [14, 3], [3, 15]]
abbrev c165_m19 : List Am.Mark := [⟨false, 0, 1⟩, ⟨false, 0, 1⟩, ⟨false, 0, 1⟩, ⟨false, 0, 0⟩, ⟨false, 0, 0⟩, ⟨false, 0, 1⟩, ⟨false, 0, 1⟩, ⟨false, 0, 1⟩, ⟨false, 0, 0⟩, ⟨false, 0, 1⟩, ⟨false, 0, 1⟩, ⟨false, 0, 1⟩, ⟨false, 0, 0⟩, ⟨true, 0, 1⟩, ⟨false, 1, 1⟩, ⟨false, 1, 1⟩, ⟨false, 1, 1⟩]
theorem c165_d19 : drawFine c165_r19 c165_a19 c165_m19 = true := by decide +kernel
abbrev c165_r20 : List Ins := [
  ⟨some 140, none, .mov (.t 13)⟩,
  ⟨some 141, none, .bin .sub (.t 140) (.c (.int .i64 1))⟩,
  ⟨some 13, none, .mov (.t 141)⟩]
abbrev c165_l21 : IR := .seq (.seq (.dreg c165_r19 c165_a19) (.cond (.t 139) (.skip) (.exit 8))) (.blk 9 (.reg c165_r20))
abbrev c165_r22 : List Ins := [
  ⟨some 142, none, .mov (.t 12)⟩,
  ⟨some 143, none, .mov (.t 13)⟩,
  ⟨some 144, none, .bin .gtr (.t 142) (.t 143)⟩]
abbrev c165_r23 : List Ins := [
  ⟨some 145, none, .mov (.t 0)⟩,
  ⟨some 146, none, .mov (.t 12)⟩,
  ⟨some 147, none, .mov (.t 0)⟩,
  ⟨some 148, none, .mov (.t 13)⟩,
  ⟨some 149, none, .mov (.t 0)⟩,
  ⟨some 150, none, .mov (.t 13)⟩,
  ⟨some 151, none, .iaddr 2 (.t 149) (.t 150)⟩,
  ⟨some 152, none, .load 2 true (.t 151)⟩,
  ⟨some 153, none, .mov (.t 0)⟩,
  ⟨some 154, none, .mov (.t 12)⟩,
  ⟨some 155, none, .iaddr 2 (.t 153) (.t 154)⟩,
  ⟨some 156, none, .load 2 true (.t 155)⟩,
  ⟨some 157, none, .iaddr 2 (.t 145) (.t 146)⟩,
  ⟨none, none, .store 2 (.t 157) (.t 152)⟩,
  ⟨some 158, none, .iaddr 2 (.t 147) (.t 148)⟩,
  ⟨none, none, .store 2 (.t 158) (.t 156)⟩]
def c165_a23 : List (List Nat) := [[], [], [], [], [], [], [4, 5], [6], [], [], [8, 9], [10], [0, 1, 0, 1, 4, 5, 6, 7, 11], [12, 7, 0, 1, 4, 5, 6, 7, 11], [2, 3, 0, 1, 2, 3, 4, 5, 6, 7, 8, 9, 10, 11, 12, 13], [14, 11, 13, 0, 1, 2, 3, 4, 5, 6, 7, 8, 9, 10, 11, 12, 13]]
abbrev c165_m23 : List Am.Mark := [⟨false, 0, 0⟩, ⟨false, 0, 0⟩, ⟨false, 0, 1⟩, ⟨false, 0, 1⟩, ⟨false, 0, 0⟩, ⟨false, 0, 0⟩, ⟨false, 0, 0⟩, ⟨false, 0, 0⟩, ⟨false, 0, 1⟩, ⟨false, 0, 1⟩, ⟨false, 0, 1⟩, ⟨false, 0, 0⟩, ⟨false, 0, 0⟩, ⟨true, 0, 1⟩, ⟨false, 1, 1⟩, ⟨true, 1, 2⟩]
theorem c165_d23 : drawFine c165_r23 c165_a23 c165_m23 = true := by decide +kernel
abbrev c165_r24 : List Ins := [
  ⟨some 159, none, .mov (.t 12)⟩,
  ⟨some 160, none, .bin .add (.t 159) (.c (.int .i64 1))⟩,
  ⟨some 12, none, .mov (.t 160)⟩]
abbrev c165_r25 : List Ins := [
  ⟨some 161, none, .mov (.t 13)⟩,
  ⟨some 162, none, .bin .sub (.t 161) (.c (.int .i64 1))⟩,
  ⟨some 13, none, .mov (.t 162)⟩]
abbrev c165_l26 : IR := .blk 5 (.seq (.blk 6 (.loop c165_l18)) (.seq (.blk 8 (.loop c165_l21)) (.seq (.seq (.reg c165_r22) (.cond (.t 144) (.exit 4) (.skip))) (.seq (.dreg c165_r23 c165_a23) (.seq (.reg c165_r24) (.reg c165_r25))))))
abbrev c165_r27 : List Ins := [
  ⟨some 163, none, .mov (.t 0)⟩,
  ⟨some 164, none, .mov (.t 13)⟩,
  ⟨some 165, none, .mov (.t 0)⟩,
  ⟨some 166, none, .mov (.t 1)⟩,
  ⟨some 167, none, .mov (.t 0)⟩,
  ⟨some 168, none, .mov (.t 1)⟩,
  ⟨some 169, none, .iaddr 2 (.t 167) (.t 168)⟩,
  ⟨some 170, none, .load 2 true (.t 169)⟩,
  ⟨some 171, none, .mov (.t 0)⟩,
  ⟨some 172, none, .mov (.t 13)⟩,
  ⟨some 173, none, .iaddr 2 (.t 171) (.t 172)⟩,
  ⟨some 174, none, .load 2 true (.t 173)⟩,
  ⟨some 175, none, .iaddr 2 (.t 163) (.t 164)⟩,
  ⟨none, none, .store 2 (.t 175) (.t 170)⟩,
  ⟨some 176, none, .iaddr 2 (.t 165) (.t 166)⟩,
  ⟨none, none, .store 2 (.t 176) (.t 174)⟩]
def c165_a27 : List (List Nat) := [[], [], [], [], [], [], [4, 5], [6], [], [], [8, 9], [10], [0, 1, 0, 1, 4, 5, 6, 7, 11], [12, 7, 0, 1, 4, 5, 6, 7, 11], [2, 3, 0, 1, 2, 3, 4, 5, 6, 7, 8, 9, 10, 11, 12, 13], [14, 11, 13, 0, 1, 2, 3, 4, 5, 6, 7, 8, 9, 10, 11, 12, 13]]
abbrev c165_m27 : List Am.Mark := [⟨false, 0, 0⟩, ⟨false, 0, 0⟩, ⟨false, 0, 1⟩, ⟨false, 0, 1⟩, ⟨false, 0, 0⟩, ⟨false, 0, 0⟩, ⟨false, 0, 0⟩, ⟨false, 0, 0⟩, ⟨false, 0, 1⟩, ⟨false, 0, 1⟩, ⟨false, 0, 1⟩, ⟨false, 0, 0⟩, ⟨false, 0, 0⟩, ⟨true, 0, 1⟩, ⟨false, 1, 1⟩, ⟨true, 1, 2⟩]
theorem c165_d27 : drawFine c165_r27 c165_a27 c165_m27 = true := by decide +kernel
abbrev c165_r28 : List Ins := [
  ⟨some 177, none, .mov (.t 13)⟩,
  ⟨some 10, none, .mov (.t 177)⟩,
  ⟨some 11, none, .mov (.c (.bool false))⟩]
abbrev c165 : IR := .seq (.reg c165_r1) (.seq (.dreg c165_r2 c165_a2) (.seq (.reg c165_r3) (.seq (.blk 0 (.loop c165_l6)) (.seq (.blk 2 (.loop c165_l9)) (.seq (.seq (.reg c165_r10) (.cond (.t 71) (.seq (.dreg c165_r11 c165_a11) (.seq (.reg c165_r12) (.ret))) (.skip))) (.seq (.dreg c165_r13 c165_a13) (.seq (.reg c165_r14) (.seq (.reg c165_r15) (.seq (.blk 4 (.loop c165_l26)) (.seq (.dreg c165_r27 c165_a27) (.seq (.reg c165_r28) (.ret))))))))))))
abbrev F165 : FnA := ⟨178, c165, [.t 10, .t 11]⟩
theorem ok165 : cFn Try.prog 165 = some F165 := by kernel_rfl
theorem hb165 : HasBody Try.prog 165 := ⟨_, Try.func165, by kernel_rfl, by kernel_rfl⟩
/-! math/bits.Len32 -/
abbrev c166_r1 : List Ins := [
  ⟨some 2, none, .mov (.c (.int .i64 0))⟩]
abbrev c166_r2 : List Ins := [
  ⟨some 3, none, .mov (.t 0)⟩,
  ⟨some 4, none, .bin .geq (.t 3) (.c (.int .u32 65536))⟩]
abbrev c166_r3 : List Ins := [
  ⟨some 5, none, .mov (.t 0)⟩,
  ⟨some 6, none, .bin .shr (.t 5) (.c (.int .u64 16))⟩,
  ⟨some 0, none, .mov (.t 6)⟩]
abbrev c166_r4 : List Ins := [
  ⟨some 2, none, .mov (.c (.int .i64 16))⟩]
abbrev c166_r5 : List Ins := [
  ⟨some 7, none, .mov (.t 0)⟩,
  ⟨some 8, none, .bin .geq (.t 7) (.c (.int .u32 256))⟩]
abbrev c166_r6 : List Ins := [
  ⟨some 9, none, .mov (.t 0)⟩,
  ⟨some 10, none, .bin .shr (.t 9) (.c (.int .u64 8))⟩,
  ⟨some 0, none, .mov (.t 10)⟩]
abbrev c166_r7 : List Ins := [
  ⟨some 11, none, .mov (.t 2)⟩,
  ⟨some 12, none, .bin .add (.t 11) (.c (.int .i64 8))⟩,
  ⟨some 2, none, .mov (.t 12)⟩]
abbrev c166_r8 : List Ins := [
  ⟨some 13, none, .mov (.t 2)⟩,
  ⟨some 14, none, .mov (.t 0)⟩,
  ⟨some 15, none, .conv .u8 (.t 14)⟩,
  ⟨some 16, none, .idxS (.c (.str ⟨#[0, 1, 2, 2, 3, 3, 3, 3, 4, 4, 4, 4, 4, 4, 4, 4, 5, 5, 5, 5, 5, 5, 5, 5, 5, 5, 5, 5, 5, 5, 5, 5, 6, 6, 6, 6, 6, 6, 6, 6, 6, 6, 6, 6, 6, 6, 6, 6, 6, 6, 6, 6, 6, 6, 6, 6, 6, 6, 6, 6, 6, 6, 6, 6, 7, 7, 7, 7, 7, 7, 7, 7, 7, 7, 7, 7, 7, 7, 7, 7, 7, 7, 7, 7, 7, 7, 7, 7, 7, 7, 7, 7, 7, 7, 7, 7, 7, 7, 7, 7, 7, 7, 7, 7, 7, 7, 7, 7, 7, 7, 7, 7, 7, 7, 7, 7, 7, 7, 7, 7, 7, 7, 7, 7, 7, 7, 7, 7, 8, 8, 8, 8, 8, 8, 8, 8, 8, 8, 8, 8, 8, 8, 8, 8, 8, 8, 8, 8, 8, 8, 8, 8, 8, 8, 8, 8, 8, 8, 8, 8, 8, 8, 8, 8, 8, 8, 8, 8, 8, 8, 8, 8, 8, 8, 8, 8, 8, 8, 8, 8, 8, 8, 8, 8, 8, 8, 8, 8, 8, 8, 8, 8, 8, 8, 8, 8, 8, 8, 8, 8, 8, 8, 8, 8, 8, 8, 8, 8, 8, 8, 8, 8, 8, 8, 8, 8, 8, 8, 8, 8, 8, 8, 8, 8, 8, 8, 8, 8, 8, 8, 8, 8, 8, 8, 8, 8, 8, 8, 8, 8, 8, 8, 8, 8, 8, 8, 8, 8, 8, 8, 8, 8, 8, 8, 8, 8]⟩)) (.t 15)⟩,
  ⟨some 17, none, .conv .i64 (.t 16)⟩,
  ⟨some 18, none, .bin .add (.t 13) (.t 17)⟩,
  ⟨some 2, none, .mov (.t 18)⟩]
abbrev c166 : IR := .seq (.reg c166_r1) (.seq (.seq (.reg c166_r2) (.cond (.t 4) (.seq (.reg c166_r3) (.reg c166_r4)) (.skip))) (.seq (.seq (.reg c166_r5) (.cond (.t 8) (.seq (.reg c166_r6) (.reg c166_r7)) (.skip))) (.seq (.reg c166_r8) (.ret))))
abbrev F166 : FnA := ⟨19, c166, [.t 2]⟩
theorem ok166 : cFn Try.prog 166 = some F166 := by kernel_rfl
theorem hb166 : HasBody Try.prog 166 := ⟨_, Try.func166, by kernel_rfl, by kernel_rfl⟩
/-! math/bits.Len64 -/
abbrev c167_r1 : List Ins := [
  ⟨some 2, none, .mov (.c (.int .i64 0))⟩]
abbrev c167_r2 : List Ins := [
  ⟨some 3, none, .mov (.t 0)⟩,
  ⟨some 4, none, .bin .geq (.t 3) (.c (.int .u64 4294967296))⟩]
abbrev c167_r3 : List Ins := [
  ⟨some 5, none, .mov (.t 0)⟩,
  ⟨some 6, none, .bin .shr (.t 5) (.c (.int .u64 32))⟩,
  ⟨some 0, none, .mov (.t 6)⟩]
abbrev c167_r4 : List Ins := [
  ⟨some 2, none, .mov (.c (.int .i64 32))⟩]
abbrev c167_r5 : List Ins := [
  ⟨some 7, none, .mov (.t 0)⟩,
  ⟨some 8, none, .bin .geq (.t 7) (.c (.int .u64 65536))⟩]
abbrev c167_r6 : List Ins := [
  ⟨some 9, none, .mov (.t 0)⟩,
  ⟨some 10, none, .bin .shr (.t 9) (.c (.int .u64 16))⟩,
  ⟨some 0, none, .mov (.t 10)⟩]
abbrev c167_r7 : List Ins := [
  ⟨some 11, none, .mov (.t 2)⟩,
  ⟨some 12, none, .bin .add (.t 11) (.c (.int .i64 16))⟩,
  ⟨some 2, none, .mov (.t 12)⟩]
abbrev c167_r8 : List Ins := [
  ⟨some 13, none, .mov (.t 0)⟩,
  ⟨some 14, none, .bin .geq (.t 13) (.c (.int .u64 256))⟩]
abbrev c167_r9 : List Ins := [
  ⟨some 15, none, .mov (.t 0)⟩,
  ⟨some 16, none, .bin .shr (.t 15) (.c (.int .u64 8))⟩,
  ⟨some 0, none, .mov (.t 16)⟩]
abbrev c167_r10 : List Ins := [
  ⟨some 17, none, .mov (.t 2)⟩,
  ⟨some 18, none, .bin .add (.t 17) (.c (.int .i64 8))⟩,
  ⟨some 2, none, .mov (.t 18)⟩]
abbrev c167_r11 : List Ins := [
  ⟨some 19, none, .mov (.t 2)⟩,
  ⟨some 20, none, .mov (.t 0)⟩,
  ⟨some 21, none, .conv .u8 (.t 20)⟩,
  ⟨some 22, none, .idxS (.c (.str ⟨#[0, 1, 2, 2, 3, 3, 3, 3, 4, 4, 4, 4, 4, 4, 4, 4, 5, 5, 5, 5, 5, 5, 5, 5, 5, 5, 5, 5, 5, 5, 5, 5, 6, 6, 6, 6, 6, 6, 6, 6, 6, 6, 6, 6, 6, 6, 6, 6, 6, 6, 6, 6, 6, 6, 6, 6, 6, 6, 6, 6, 6, 6, 6, 6, 7, 7, 7, 7, 7, 7, 7, 7, 7, 7, 7, 7, 7, 7, 7, 7, 7, 7, 7, 7, 7, 7, 7, 7, 7, 7, 7, 7, 7, 7, 7, 7, 7, 7, 7, 7, 7, 7, 7, 7, 7, 7, 7, 7, 7, 7, 7, 7, 7, 7, 7, 7, 7, 7, 7, 7, 7, 7, 7, 7, 7, 7, 7, 7, 8, 8, 8, 8, 8, 8, 8, 8, 8, 8, 8, 8, 8, 8, 8, 8, 8, 8, 8, 8, 8, 8, 8, 8, 8, 8, 8, 8, 8, 8, 8, 8, 8, 8, 8, 8, 8, 8, 8, 8, 8, 8, 8, 8, 8, 8, 8, 8, 8, 8, 8, 8, 8, 8, 8, 8, 8, 8, 8, 8, 8, 8, 8, 8, 8, 8, 8, 8, 8, 8, 8, 8, 8, 8, 8, 8, 8, 8, 8, 8, 8, 8, 8, 8, 8, 8, 8, 8, 8, 8, 8, 8, 8, 8, 8, 8, 8, 8, 8, 8, 8, 8, 8, 8, 8, 8, 8, 8, 8, 8, 8, 8, 8, 8, 8, 8, 8, 8, 8, 8, 8, 8, 8, 8, 8, 8, 8, 8]⟩)) (.t 21)⟩,
  ⟨some 23, none, .conv .i64 (.t 22)⟩,
  ⟨some 24, none, .bin .add (.t 19) (.t 23)⟩,
  ⟨some 2, none, .mov (.t 24)⟩]
abbrev c167 : IR := .seq (.reg c167_r1) (.seq (.seq (.reg c167_r2) (.cond (.t 4) (.seq (.reg c167_r3) (.reg c167_r4)) (.skip))) (.seq (.seq (.reg c167_r5) (.cond (.t 8) (.seq (.reg c167_r6) (.reg c167_r7)) (.skip))) (.seq (.seq (.reg c167_r8) (.cond (.t 14) (.seq (.reg c167_r9) (.reg c167_r10)) (.skip))) (.seq (.reg c167_r11) (.ret)))))
abbrev F167 : FnA := ⟨25, c167, [.t 2]⟩
theorem ok167 : cFn Try.prog 167 = some F167 := by kernel_rfl
theorem hb167 : HasBody Try.prog 167 := ⟨_, Try.func167, by kernel_rfl, by kernel_rfl⟩
/-! slices.siftDownCmpFunc:Span -/
abbrev c168_r1 : List Ins := [
  ⟨some 12, none, .mov (.t 1)⟩,
  ⟨some 10, none, .mov (.t 12)⟩]
abbrev c168_r2 : List Ins := [
  ⟨some 13, none, .mov (.t 10)⟩,
  ⟨some 14, none, .bin .mul (.c (.int .i64 2)) (.t 13)⟩,
  ⟨some 15, none, .bin .add (.t 14) (.c (.int .i64 1))⟩,
  ⟨some 11, none, .mov (.t 15)⟩]
abbrev c168_r3 : List Ins := [
  ⟨some 16, none, .mov (.t 11)⟩,
  ⟨some 17, none, .mov (.t 2)⟩,
  ⟨some 18, none, .bin .geq (.t 16) (.t 17)⟩]
abbrev c168_r4 : List Ins := [
  ⟨some 19, none, .mov (.t 11)⟩,
  ⟨some 20, none, .bin .add (.t 19) (.c (.int .i64 1))⟩,
  ⟨some 21, none, .mov (.t 2)⟩,
  ⟨some 22, none, .bin .lss (.t 20) (.t 21)⟩,
  ⟨some 23, none, .mov (.t 22)⟩,
  ⟨some 24, some (23, true), .mov (.t 4)⟩,
  ⟨some 25, some (23, true), .mov (.t 0)⟩,
  ⟨some 26, some (23, true), .mov (.t 3)⟩,
  ⟨some 27, some (23, true), .mov (.t 11)⟩,
  ⟨some 28, some (23, true), .bin .add (.t 26) (.t 27)⟩,
  ⟨some 29, some (23, true), .iaddr 2 (.t 25) (.t 28)⟩,
  ⟨some 30, some (23, true), .load 2 true (.t 29)⟩,
  ⟨some 31, some (23, true), .mov (.t 0)⟩,
  ⟨some 32, some (23, true), .mov (.t 3)⟩,
  ⟨some 33, some (23, true), .mov (.t 11)⟩,
  ⟨some 34, some (23, true), .bin .add (.t 32) (.t 33)⟩,
  ⟨some 35, some (23, true), .bin .add (.t 34) (.c (.int .i64 1))⟩,
  ⟨some 36, some (23, true), .iaddr 2 (.t 31) (.t 35)⟩,
  ⟨some 37, some (23, true), .load 2 true (.t 36)⟩,
  ⟨some 38, some (23, true), .call (.t 24) [.t 30, .t 37]⟩,
  ⟨some 39, some (23, true), .bin .lss (.t 38) (.c (.int .i64 0))⟩,
  ⟨some 40, none, .pick (.t 23) (.t 39) (.c (.bool false))⟩]
def c168_a4 : List (List Nat) := [[], [0], [], [1, 2], [3], [4], [4], [4], [4], [7, 8, 4], [6, 9, 4], [10, 4], [4], [4], [4], [13, 14, 4], [15, 4], [12, 16, 4], [17, 4], [5, 11, 18, 4, 4], [19, 4], [4, 20]]
abbrev c168_m4 : List Am.Mark := [⟨false, 0, 1⟩, ⟨false, 0, 1⟩, ⟨false, 0, 1⟩, ⟨false, 0, 1⟩, ⟨false, 0, 0⟩, ⟨false, 0, 0⟩, ⟨false, 0, 1⟩, ⟨false, 0, 1⟩, ⟨false, 0, 1⟩, ⟨false, 0, 1⟩, ⟨false, 0, 1⟩, ⟨false, 0, 0⟩, ⟨false, 0, 1⟩, ⟨false, 0, 1⟩, ⟨false, 0, 1⟩, ⟨false, 0, 1⟩, ⟨false, 0, 1⟩, ⟨false, 0, 1⟩, ⟨false, 0, 0⟩, ⟨true, 0, 1⟩, ⟨false, 1, 1⟩, ⟨false, 1, 1⟩]
theorem c168_d4 : drawFine c168_r4 c168_a4 c168_m4 = true := by decide +kernel
abbrev c168_r5 : List Ins := [
  ⟨some 41, none, .mov (.t 11)⟩,
  ⟨some 42, none, .bin .add (.t 41) (.c (.int .i64 1))⟩,
  ⟨some 11, none, .mov (.t 42)⟩]
abbrev c168_r6 : List Ins := [
  ⟨some 43, none, .mov (.t 4)⟩,
  ⟨some 44, none, .mov (.t 0)⟩,
  ⟨some 45, none, .mov (.t 3)⟩,
  ⟨some 46, none, .mov (.t 10)⟩,
  ⟨some 47, none, .bin .add (.t 45) (.t 46)⟩,
  ⟨some 48, none, .iaddr 2 (.t 44) (.t 47)⟩,
  ⟨some 49, none, .load 2 true (.t 48)⟩,
  ⟨some 50, none, .mov (.t 0)⟩,
  ⟨some 51, none, .mov (.t 3)⟩,
  ⟨some 52, none, .mov (.t 11)⟩,
  ⟨some 53, none, .bin .add (.t 51) (.t 52)⟩,
  ⟨some 54, none, .iaddr 2 (.t 50) (.t 53)⟩,
  ⟨some 55, none, .load 2 true (.t 54)⟩,
  ⟨some 56, none, .call (.t 43) [.t 49, .t 55]⟩,
  ⟨some 57, none, .bin .lss (.t 56) (.c (.int .i64 0))⟩,
  ⟨some 58, none, .un .not (.t 57)⟩]
def c168_a6 : List (List Nat) := [[], [], [], [], [2, 3], [1, 4], [5], [], [], [], [8, 9], [7, 10], [11], [0, 6, 12], [13], [14]]
abbrev c168_m6 : List Am.Mark := [⟨false, 0, 0⟩, ⟨false, 0, 1⟩, ⟨false, 0, 1⟩, ⟨false, 0, 1⟩, ⟨false, 0, 1⟩, ⟨false, 0, 1⟩, ⟨false, 0, 0⟩, ⟨false, 0, 1⟩, ⟨false, 0, 1⟩, ⟨false, 0, 1⟩, ⟨false, 0, 1⟩, ⟨false, 0, 1⟩, ⟨false, 0, 0⟩, ⟨true, 0, 1⟩, ⟨false, 1, 1⟩, ⟨false, 1, 1⟩]
theorem c168_d6 : drawFine c168_r6 c168_a6 c168_m6 = true := by decide +kernel
abbrev c168_r7 : List Ins := [
  ⟨some 59, none, .mov (.t 0)⟩,
  ⟨some 60, none, .mov (.t 3)⟩,
  ⟨some 61, none, .mov (.t 10)⟩,
  ⟨some 62, none, .bin .add (.t 60) (.t 61)⟩,
  ⟨some 63, none, .mov (.t 0)⟩,
  ⟨some 64, none, .mov (.t 3)⟩,
  ⟨some 65, none, .mov (.t 11)⟩,
  ⟨some 66, none, .bin .add (.t 64) (.t 65)⟩,
  ⟨some 67, none, .mov (.t 0)⟩,
  ⟨some 68, none, .mov (.t 3)⟩,
  ⟨some 69, none, .mov (.t 11)⟩,
  ⟨some 70, none, .bin .add (.t 68) (.t 69)⟩,
  ⟨some 71, none, .iaddr 2 (.t 67) (.t 70)⟩,
  ⟨some 72, none, .load 2 true (.t 71)⟩,
  ⟨some 73, none, .mov (.t 0)⟩,
  ⟨some 74, none, .mov (.t 3)⟩,
  ⟨some 75, none, .mov (.t 10)⟩,
  ⟨some 76, none, .bin .add (.t 74) (.t 75)⟩,
  ⟨some 77, none, .iaddr 2 (.t 73) (.t 76)⟩,
  ⟨some 78, none, .load 2 true (.t 77)⟩,
  ⟨some 79, none, .iaddr 2 (.t 59) (.t 62)⟩,
  ⟨none, none, .store 2 (.t 79) (.t 72)⟩,
  ⟨some 80, none, .iaddr 2 (.t 63) (.t 66)⟩,
  ⟨none, none, .store 2 (.t 80) (.t 78)⟩]
def c168_a7 : List (List Nat) := [[], [], [], [1, 2], [], [], [], [5, 6], [], [], [], [9, 10], [8, 11], [12], [], [], [], [15, 16], [14, 17], [18], [0, 3, 0, 1, 2, 3, 8, 9, 10, 11, 12, 13, 19], [20, 13, 0, 1, 2, 3, 8, 9, 10, 11, 12, 13, 19], [4, 7, 0, 1, 2, 3, 4, 5, 6, 7, 8, 9, 10, 11, 12, 13, 14, 15, 16, 17, 18, 19, 20, 21], [22, 19, 21, 0, 1, 2, 3, 4, 5, 6, 7, 8, 9, 10, 11, 12, 13, 14, 15, 16, 17, 18, 19, 20, 21]]
abbrev c168_m7 : List Am.Mark := [⟨false, 0, 0⟩, ⟨false, 0, 0⟩, ⟨false, 0, 0⟩, ⟨false, 0, 0⟩, ⟨false, 0, 1⟩, ⟨false, 0, 1⟩, ⟨false, 0, 1⟩, ⟨false, 0, 1⟩, ⟨false, 0, 0⟩, ⟨false, 0, 0⟩, ⟨false, 0, 0⟩, ⟨false, 0, 0⟩, ⟨false, 0, 0⟩, ⟨false, 0, 0⟩, ⟨false, 0, 1⟩, ⟨false, 0, 1⟩, ⟨false, 0, 1⟩, ⟨false, 0, 1⟩, ⟨false, 0, 1⟩, ⟨false, 0, 0⟩, ⟨false, 0, 0⟩, ⟨true, 0, 1⟩, ⟨false, 1, 1⟩, ⟨true, 1, 2⟩]
theorem c168_d7 : drawFine c168_r7 c168_a7 c168_m7 = true := by decide +kernel
abbrev c168_r8 : List Ins := [
  ⟨some 81, none, .mov (.t 11)⟩,
  ⟨some 10, none, .mov (.t 81)⟩]
abbrev c168_l9 : IR := .blk 1 (.seq (.reg c168_r2) (.seq (.seq (.reg c168_r3) (.cond (.t 18) (.exit 0) (.skip))) (.seq (.seq (.dreg c168_r4 c168_a4) (.cond (.t 40) (.reg c168_r5) (.skip))) (.seq (.seq (.dreg c168_r6 c168_a6) (.cond (.t 58) (.ret) (.skip))) (.seq (.dreg c168_r7 c168_a7) (.reg c168_r8))))))
abbrev c168 : IR := .seq (.reg c168_r1) (.blk 0 (.loop c168_l9))
abbrev F168 : FnA := ⟨82, c168, []⟩
theorem ok168 : cFn Try.prog 168 = some F168 := by kernel_rfl
theorem hb168 : HasBody Try.prog 168 := ⟨_, Try.func168, by kernel_rfl, by kernel_rfl⟩
/-! slices.nextPowerOfTwo -/
abbrev c169_r1 : List Ins := [
  ⟨some 2, none, .mov (.c (.int .u64 0))⟩]
abbrev c169_r2 : List Ins := [
  ⟨some 3, none, .mov (.t 0)⟩,
  ⟨some 4, none, .conv .u64 (.t 3)⟩,
  ⟨some 5, none, .call (.c (.fn 156 [] [])) [.t 4]⟩,
  ⟨some 6, none, .bin .shl (.c (.int .u64 1)) (.t 5)⟩,
  ⟨some 2, none, .mov (.t 6)⟩]
abbrev c169 : IR := .seq (.reg c169_r1) (.seq (.reg c169_r2) (.ret))
abbrev F169 : FnA := ⟨7, c169, [.t 2]⟩
theorem ok169 : cFn Try.prog 169 = some F169 := by kernel_rfl
theorem hb169 : HasBody Try.prog 169 := ⟨_, Try.func169, by kernel_rfl, by kernel_rfl⟩
/-! slices.xorshift.Next -/
abbrev c170_r1 : List Ins := [
  ⟨some 2, none, .mov (.c (.int .u64 0))⟩]
abbrev c170_r2 : List Ins := [
  ⟨some 3, none, .mov (.t 0)⟩,
  ⟨some 4, none, .nilck (.t 3)⟩,
  ⟨some 5, none, .load 1 false (.t 4)⟩,
  ⟨some 6, none, .mov (.t 0)⟩,
  ⟨some 7, none, .nilck (.t 6)⟩,
  ⟨some 8, none, .load 1 false (.t 7)⟩,
  ⟨some 9, none, .bin .shl (.t 8) (.c (.int .u64 13))⟩,
  ⟨some 10, none, .bin .xor (.t 5) (.t 9)⟩,
  ⟨some 11, none, .nilck (.t 3)⟩,
  ⟨none, none, .store 1 (.t 11) (.t 10)⟩]
def c170_a2 : List (List Nat) := [[], [0], [1], [], [3], [4], [5], [2, 6], [0, 0, 1, 2, 3, 4, 5, 6, 7], [8, 7, 0, 1, 2, 3, 4, 5, 6, 7]]
abbrev c170_m2 : List Am.Mark := [⟨false, 0, 0⟩, ⟨false, 0, 0⟩, ⟨false, 0, 0⟩, ⟨false, 0, 0⟩, ⟨false, 0, 0⟩, ⟨false, 0, 0⟩, ⟨false, 0, 0⟩, ⟨false, 0, 0⟩, ⟨false, 0, 0⟩, ⟨true, 0, 1⟩]
theorem c170_d2 : drawFine c170_r2 c170_a2 c170_m2 = true := by decide +kernel
abbrev c170_r3 : List Ins := [
  ⟨some 12, none, .mov (.t 0)⟩,
  ⟨some 13, none, .nilck (.t 12)⟩,
  ⟨some 14, none, .load 1 false (.t 13)⟩,
  ⟨some 15, none, .mov (.t 0)⟩,
  ⟨some 16, none, .nilck (.t 15)⟩,
  ⟨some 17, none, .load 1 false (.t 16)⟩,
  ⟨some 18, none, .bin .shr (.t 17) (.c (.int .u64 7))⟩,
  ⟨some 19, none, .bin .xor (.t 14) (.t 18)⟩,
  ⟨some 20, none, .nilck (.t 12)⟩,
  ⟨none, none, .store 1 (.t 20) (.t 19)⟩]
def c170_a3 : List (List Nat) := [[], [0], [1], [], [3], [4], [5], [2, 6], [0, 0, 1, 2, 3, 4, 5, 6, 7], [8, 7, 0, 1, 2, 3, 4, 5, 6, 7]]
abbrev c170_m3 : List Am.Mark := [⟨false, 0, 0⟩, ⟨false, 0, 0⟩, ⟨false, 0, 0⟩, ⟨false, 0, 0⟩, ⟨false, 0, 0⟩, ⟨false, 0, 0⟩, ⟨false, 0, 0⟩, ⟨false, 0, 0⟩, ⟨false, 0, 0⟩, ⟨true, 0, 1⟩]
theorem c170_d3 : drawFine c170_r3 c170_a3 c170_m3 = true := by decide +kernel
abbrev c170_r4 : List Ins := [
  ⟨some 21, none, .mov (.t 0)⟩,
  ⟨some 22, none, .nilck (.t 21)⟩,
  ⟨some 23, none, .load 1 false (.t 22)⟩,
  ⟨some 24, none, .mov (.t 0)⟩,
  ⟨some 25, none, .nilck (.t 24)⟩,
  ⟨some 26, none, .load 1 false (.t 25)⟩,
  ⟨some 27, none, .bin .shl (.t 26) (.c (.int .u64 17))⟩,
  ⟨some 28, none, .bin .xor (.t 23) (.t 27)⟩,
  ⟨some 29, none, .nilck (.t 21)⟩,
  ⟨none, none, .store 1 (.t 29) (.t 28)⟩]
def c170_a4 : List (List Nat) := [[], [0], [1], [], [3], [4], [5], [2, 6], [0, 0, 1, 2, 3, 4, 5, 6, 7], [8, 7, 0, 1, 2, 3, 4, 5, 6, 7]]
abbrev c170_m4 : List Am.Mark := [⟨false, 0, 0⟩, ⟨false, 0, 0⟩, ⟨false, 0, 0⟩, ⟨false, 0, 0⟩, ⟨false, 0, 0⟩, ⟨false, 0, 0⟩, ⟨false, 0, 0⟩, ⟨false, 0, 0⟩, ⟨false, 0, 0⟩, ⟨true, 0, 1⟩]
theorem c170_d4 : drawFine c170_r4 c170_a4 c170_m4 = true := by decide +kernel
abbrev c170_r5 : List Ins := [
  ⟨some 30, none, .mov (.t 0)⟩,
  ⟨some 31, none, .nilck (.t 30)⟩,
  ⟨some 32, none, .load 1 false (.t 31)⟩,
  ⟨some 2, none, .mov (.t 32)⟩]
abbrev c170 : IR := .seq (.reg c170_r1) (.seq (.dreg c170_r2 c170_a2) (.seq (.dreg c170_r3 c170_a3) (.seq (.dreg c170_r4 c170_a4) (.seq (.reg c170_r5) (.ret)))))
abbrev F170 : FnA := ⟨33, c170, [.t 2]⟩
theorem ok170 : cFn Try.prog 170 = some F170 := by kernel_rfl
theorem hb170 : HasBody Try.prog 170 := ⟨_, Try.func170, by kernel_rfl, by kernel_rfl⟩
/-! slices.medianAdjacentCmpFunc:Span -/
abbrev c171_r1 : List Ins := [
  ⟨some 8, none, .mov (.c (.int .i64 0))⟩]
abbrev c171_r2 : List Ins := [
  ⟨some 9, none, .mov (.t 0)⟩,
  ⟨some 10, none, .mov (.t 1)⟩,
  ⟨some 11, none, .bin .sub (.t 10) (.c (.int .i64 1))⟩,
  ⟨some 12, none, .mov (.t 1)⟩,
  ⟨some 13, none, .mov (.t 1)⟩,
  ⟨some 14, none, .bin .add (.t 13) (.c (.int .i64 1))⟩,
  ⟨some 15, none, .mov (.t 2)⟩,
  ⟨some 16, none, .mov (.t 3)⟩,
  ⟨some 17, none, .call (.c (.fn 172 [] [])) [.t 9, .t 11, .t 12, .t 14, .t 15, .t 16]⟩,
  ⟨some 8, none, .mov (.t 17)⟩]
abbrev c171 : IR := .seq (.reg c171_r1) (.seq (.reg c171_r2) (.ret))
abbrev F171 : FnA := ⟨18, c171, [.t 8]⟩
theorem ok171 : cFn Try.prog 171 = some F171 := by kernel_rfl
theorem hb171 : HasBody Try.prog 171 := ⟨_, Try.func171, by kernel_rfl, by kernel_rfl⟩
/-! slices.medianCmpFunc:Span -/
abbrev c172_r1 : List Ins := [
  ⟨some 12, none, .mov (.c (.int .i64 0))⟩]
abbrev c172_r2 : List Ins := [
  ⟨some 14, none, .mov (.t 0)⟩,
  ⟨some 15, none, .mov (.t 1)⟩,
  ⟨some 16, none, .mov (.t 2)⟩,
  ⟨some 17, none, .mov (.t 4)⟩,
  ⟨some 18, none, .mov (.t 5)⟩,
  ⟨some 19, none, .call (.c (.fn 173 [] [])) [.t 14, .t 15, .t 16, .t 17, .t 18]⟩,
  ⟨some 13, none, .mov (.t 19)⟩,
  ⟨some 20, none, .ext (.t 13) 0⟩,
  ⟨some 21, none, .ext (.t 13) 1⟩,
  ⟨some 1, none, .mov (.t 20)⟩,
  ⟨some 2, none, .mov (.t 21)⟩]
abbrev c172_r3 : List Ins := [
  ⟨some 23, none, .mov (.t 0)⟩,
  ⟨some 24, none, .mov (.t 2)⟩,
  ⟨some 25, none, .mov (.t 3)⟩,
  ⟨some 26, none, .mov (.t 4)⟩,
  ⟨some 27, none, .mov (.t 5)⟩,
  ⟨some 28, none, .call (.c (.fn 173 [] [])) [.t 23, .t 24, .t 25, .t 26, .t 27]⟩,
  ⟨some 22, none, .mov (.t 28)⟩,
  ⟨some 29, none, .ext (.t 22) 0⟩,
  ⟨some 30, none, .ext (.t 22) 1⟩,
  ⟨some 2, none, .mov (.t 29)⟩,
  ⟨some 3, none, .mov (.t 30)⟩]
abbrev c172_r4 : List Ins := [
  ⟨some 32, none, .mov (.t 0)⟩,
  ⟨some 33, none, .mov (.t 1)⟩,
  ⟨some 34, none, .mov (.t 2)⟩,
  ⟨some 35, none, .mov (.t 4)⟩,
  ⟨some 36, none, .mov (.t 5)⟩,
  ⟨some 37, none, .call (.c (.fn 173 [] [])) [.t 32, .t 33, .t 34, .t 35, .t 36]⟩,
  ⟨some 31, none, .mov (.t 37)⟩,
  ⟨some 38, none, .ext (.t 31) 0⟩,
  ⟨some 39, none, .ext (.t 31) 1⟩,
  ⟨some 1, none, .mov (.t 38)⟩,
  ⟨some 2, none, .mov (.t 39)⟩]
abbrev c172_r5 : List Ins := [
  ⟨some 40, none, .mov (.t 2)⟩,
  ⟨some 12, none, .mov (.t 40)⟩]
abbrev c172 : IR := .seq (.reg c172_r1) (.seq (.reg c172_r2) (.seq (.reg c172_r3) (.seq (.reg c172_r4) (.seq (.reg c172_r5) (.ret)))))
abbrev F172 : FnA := ⟨41, c172, [.t 12]⟩
theorem ok172 : cFn Try.prog 172 = some F172 := by kernel_rfl
theorem hb172 : HasBody Try.prog 172 := ⟨_, Try.func172, by kernel_rfl, by kernel_rfl⟩
/-! slices.order2CmpFunc:Span -/
abbrev c173_r1 : List Ins := [
  ⟨some 10, none, .mov (.c (.int .i64 0))⟩,
  ⟨some 11, none, .mov (.c (.int .i64 0))⟩]
abbrev c173_r2 : List Ins := [
  ⟨some 12, none, .mov (.t 4)⟩,
  ⟨some 13, none, .mov (.t 0)⟩,
  ⟨some 14, none, .mov (.t 2)⟩,
  ⟨some 15, none, .iaddr 2 (.t 13) (.t 14)⟩,
  ⟨some 16, none, .load 2 true (.t 15)⟩,
  ⟨some 17, none, .mov (.t 0)⟩,
  ⟨some 18, none, .mov (.t 1)⟩,
  ⟨some 19, none, .iaddr 2 (.t 17) (.t 18)⟩,
  ⟨some 20, none, .load 2 true (.t 19)⟩,
  ⟨some 21, none, .call (.t 12) [.t 16, .t 20]⟩,
  ⟨some 22, none, .bin .lss (.t 21) (.c (.int .i64 0))⟩]
def c173_a2 : List (List Nat) := [[], [], [], [1, 2], [3], [], [], [5, 6], [7], [0, 4, 8], [9]]
abbrev c173_m2 : List Am.Mark := [⟨false, 0, 0⟩, ⟨false, 0, 1⟩, ⟨false, 0, 1⟩, ⟨false, 0, 1⟩, ⟨false, 0, 0⟩, ⟨false, 0, 1⟩, ⟨false, 0, 1⟩, ⟨false, 0, 1⟩, ⟨false, 0, 0⟩, ⟨true, 0, 1⟩, ⟨false, 1, 1⟩]
theorem c173_d2 : drawFine c173_r2 c173_a2 c173_m2 = true := by decide +kernel
abbrev c173_r3 : List Ins := [
  ⟨some 23, none, .mov (.t 3)⟩,
  ⟨some 24, none, .nilck (.t 23)⟩,
  ⟨some 25, none, .load 1 false (.t 24)⟩,
  ⟨some 26, none, .bin .add (.t 25) (.c (.int .i64 1))⟩,
  ⟨some 27, none, .nilck (.t 23)⟩,
  ⟨none, none, .store 1 (.t 27) (.t 26)⟩]
abbrev c173_r4 : List Ins := [
  ⟨some 28, none, .mov (.t 2)⟩,
  ⟨some 29, none, .mov (.t 1)⟩,
  ⟨some 10, none, .mov (.t 28)⟩,
  ⟨some 11, none, .mov (.t 29)⟩]
abbrev c173_r5 : List Ins := [
  ⟨some 30, none, .mov (.t 1)⟩,
  ⟨some 31, none, .mov (.t 2)⟩,
  ⟨some 10, none, .mov (.t 30)⟩,
  ⟨some 11, none, .mov (.t 31)⟩]
abbrev c173 : IR := .seq (.reg c173_r1) (.seq (.seq (.dreg c173_r2 c173_a2) (.cond (.t 22) (.seq (.reg c173_r3) (.seq (.reg c173_r4) (.ret))) (.skip))) (.seq (.reg c173_r5) (.ret)))
abbrev F173 : FnA := ⟨32, c173, [.t 10, .t 11]⟩
theorem ok173 : cFn Try.prog 173 = some F173 := by kernel_rfl
theorem hb173 : HasBody Try.prog 173 := ⟨_, Try.func173, by kernel_rfl, by kernel_rfl⟩


end Go.Proofs
