/- The code of the functions that the statement reaches, as the abstract machine reads it. -/
import Derived.Test.YtajmapmledjhjaaK3
import Derived.Test.YtajmapmledjhjaaProg
namespace Go.Proofs
open Go Go.RowKit Go.Am

/-! law01.CodesWrite -/
abbrev c3_r1 : List Ins := [
  ⟨some 2, none, .mov (.c (.bool false))⟩]
abbrev c3_r2 : List Ins := [
  ⟨some 6, none, .call (.c (.fn 14 [] [])) []⟩,
  ⟨some 7, none, .un .not (.t 6)⟩]
abbrev c3_r3 : List Ins := [
  ⟨some 2, none, .mov (.c (.bool false))⟩]
abbrev c3_r4 : List Ins := [
  ⟨some 8, none, .mov (.t 0)⟩,
  ⟨some 9, none, .call (.c (.fn 15 [] [])) [.t 8]⟩]
abbrev c3_r5 : List Ins := [
  ⟨some 2, none, .mov (.c (.bool true))⟩]
abbrev c3_r6 : List Ins := [
  ⟨some 3, none, .alloc [.sl .full []]⟩]
abbrev c3_r7 : List Ins := [
  ⟨some 4, none, .mov (.c (.sl .full []))⟩]
abbrev c3_r8 : List Ins := [
  ⟨some 5, none, .mov (.c (.int .i64 0))⟩]
abbrev c3_r9 : List Ins := [
  ⟨some 10, none, .mov (.t 5)⟩,
  ⟨some 11, none, .mov (.t 0)⟩,
  ⟨some 12, none, .len (.t 11)⟩,
  ⟨some 13, none, .bin .lss (.t 10) (.t 12)⟩]
abbrev c3_r10 : List Ins := [
  ⟨some 16, none, .mov (.t 0)⟩,
  ⟨some 17, none, .mov (.t 5)⟩,
  ⟨some 18, none, .iaddr 6 (.t 16) (.t 17)⟩,
  ⟨some 19, none, .load 6 true (.t 18)⟩,
  ⟨some 20, none, .call (.c (.fn 16 [] [])) [.t 3, .t 19]⟩]
abbrev c3_r11 : List Ins := [
  ⟨some 21, none, .mov (.t 4)⟩,
  ⟨some 22, none, .mov (.t 0)⟩,
  ⟨some 23, none, .mov (.t 5)⟩,
  ⟨some 24, none, .iaddr 6 (.t 22) (.t 23)⟩,
  ⟨some 25, none, .load 6 true (.t 24)⟩,
  ⟨some 26, none, .call (.c (.fn 17 [] [])) [.t 21, .t 25]⟩,
  ⟨some 4, none, .mov (.t 26)⟩]
abbrev c3_r12 : List Ins := [
  ⟨some 14, none, .mov (.t 5)⟩,
  ⟨some 15, none, .bin .add (.t 14) (.c (.int .i64 1))⟩,
  ⟨some 5, none, .mov (.t 15)⟩]
abbrev c3_l13 : IR := .seq (.seq (.reg c3_r9) (.cond (.t 13) (.skip) (.exit 0))) (.seq (.blk 1 (.seq (.reg c3_r10) (.reg c3_r11))) (.reg c3_r12))
abbrev c3_r14 : List Ins := [
  ⟨some 27, none, .call (.c (.fn 19 [] [])) [.t 3]⟩,
  ⟨some 28, none, .mov (.t 4)⟩,
  ⟨some 29, none, .call (.c (.fn 18 [] [])) [.t 27, .t 28]⟩,
  ⟨some 2, none, .mov (.t 29)⟩]
abbrev c3 : IR := .seq (.reg c3_r1) (.seq (.seq (.reg c3_r2) (.cond (.t 7) (.seq (.reg c3_r3) (.ret)) (.skip))) (.seq (.seq (.reg c3_r4) (.cond (.t 9) (.seq (.reg c3_r5) (.ret)) (.skip))) (.seq (.reg c3_r6) (.seq (.reg c3_r7) (.seq (.seq (.reg c3_r8) (.blk 0 (.loop c3_l13))) (.seq (.reg c3_r14) (.ret)))))))
abbrev F3 : FnA := ⟨30, c3, [.t 2]⟩
theorem ok3 : cFn Try.prog 3 = some F3 := by kernel_rfl
theorem hb3 : HasBody Try.prog 3 := ⟨_, Try.func3, by kernel_rfl, by kernel_rfl⟩
/-! law01.CodesRead -/
abbrev c5_r1 : List Ins := [
  ⟨some 4, none, .mov (.c (.bool false))⟩]
abbrev c5_r2 : List Ins := [
  ⟨some 13, none, .call (.c (.fn 14 [] [])) []⟩,
  ⟨some 14, none, .un .not (.t 13)⟩]
abbrev c5_r3 : List Ins := [
  ⟨some 4, none, .mov (.c (.bool false))⟩]
abbrev c5_r4 : List Ins := [
  ⟨some 15, none, .mov (.t 1)⟩,
  ⟨some 16, none, .call (.c (.fn 15 [] [])) [.t 15]⟩,
  ⟨some 17, none, .mov (.t 16)⟩,
  ⟨some 18, some (17, false), .mov (.t 0)⟩,
  ⟨some 19, some (17, false), .len (.t 18)⟩,
  ⟨some 20, some (17, false), .bin .gtr (.t 19) (.c (.int .i64 300))⟩,
  ⟨some 21, none, .pick (.t 17) (.c (.bool true)) (.t 20)⟩]
abbrev c5_r5 : List Ins := [
  ⟨some 4, none, .mov (.c (.bool true))⟩]
abbrev c5_r6 : List Ins := [
  ⟨some 22, none, .mov (.t 0)⟩,
  ⟨some 23, none, .call (.c (.fn 25 [] [])) [.t 22]⟩,
  ⟨some 5, none, .mov (.t 23)⟩]
abbrev c5_r7 : List Ins := [
  ⟨some 24, none, .mov (.t 0)⟩,
  ⟨some 6, none, .mov (.t 24)⟩,
  ⟨some 7, none, .mov (.c (.bool true))⟩]
abbrev c5_r8 : List Ins := [
  ⟨some 8, none, .mov (.c (.int .i64 0))⟩]
abbrev c5_r9 : List Ins := [
  ⟨some 25, none, .mov (.t 8)⟩,
  ⟨some 26, none, .mov (.t 1)⟩,
  ⟨some 27, none, .len (.t 26)⟩,
  ⟨some 28, none, .bin .lss (.t 25) (.t 27)⟩]
abbrev c5_r10 : List Ins := [
  ⟨some 31, none, .mov (.t 1)⟩,
  ⟨some 32, none, .mov (.t 8)⟩,
  ⟨some 33, none, .iaddr 6 (.t 31) (.t 32)⟩,
  ⟨some 34, none, .faddr 0 (.t 33)⟩,
  ⟨some 35, none, .load 1 false (.t 34)⟩,
  ⟨some 36, none, .mov (.t 1)⟩,
  ⟨some 37, none, .mov (.t 8)⟩,
  ⟨some 38, none, .iaddr 6 (.t 36) (.t 37)⟩,
  ⟨some 39, none, .faddr 2 (.t 38)⟩,
  ⟨some 40, none, .load 1 false (.t 39)⟩,
  ⟨some 41, none, .build [.int .i64 0, .int .i64 0, .int .i64 0, .int .i64 0, .str ⟨#[]⟩, .sl .full []] [(0, (1, .t 35)), (2, (1, .t 40))]⟩,
  ⟨some 9, none, .alloc [.int .i64 0, .int .i64 0, .int .i64 0, .int .i64 0, .str ⟨#[]⟩, .sl .full []]⟩,
  ⟨none, none, .store 6 (.t 9) (.t 41)⟩]
def c5_a10 : List (List Nat) := [[], [], [0, 1], [2], [3], [], [], [5, 6], [7], [8], [4, 9], [], [11, 10, 0, 1, 2, 3, 4, 5, 6, 7, 8, 9, 10, 11]]
abbrev c5_m10 : List Am.Mark := [⟨false, 0, 1⟩, ⟨false, 0, 1⟩, ⟨false, 0, 1⟩, ⟨false, 0, 1⟩, ⟨false, 0, 1⟩, ⟨false, 0, 1⟩, ⟨false, 0, 1⟩, ⟨false, 0, 1⟩, ⟨false, 0, 1⟩, ⟨false, 0, 1⟩, ⟨false, 0, 1⟩, ⟨true, 0, 1⟩, ⟨true, 1, 2⟩]
theorem c5_d10 : drawFine c5_r10 c5_a10 c5_m10 = true := by decide +kernel
abbrev c5_r11 : List Ins := [
  ⟨some 42, none, .mov (.t 7)⟩]
abbrev c5_r12 : List Ins := [
  ⟨some 44, none, .mov (.t 6)⟩,
  ⟨some 45, none, .faddr 0 (.t 9)⟩,
  ⟨some 46, none, .load 1 false (.t 45)⟩,
  ⟨some 47, none, .faddr 2 (.t 9)⟩,
  ⟨some 48, none, .load 1 false (.t 47)⟩,
  ⟨some 49, none, .call (.c (.fn 26 [] [])) [.t 44, .t 46, .t 48]⟩,
  ⟨some 43, none, .mov (.t 49)⟩,
  ⟨some 50, none, .ext (.t 43) 0⟩,
  ⟨some 51, none, .ext (.t 43) 1⟩,
  ⟨some 52, none, .ext (.t 43) 2⟩,
  ⟨some 10, none, .alloc [.int .i64 0, .int .i64 0, .int .i64 0, .int .i64 0, .str ⟨#[]⟩, .sl .full []]⟩,
  ⟨none, none, .store 6 (.t 10) (.t 50)⟩,
  ⟨some 11, none, .mov (.t 51)⟩,
  ⟨some 12, none, .mov (.t 52)⟩]
abbrev c5_r13 : List Ins := [
  ⟨some 53, none, .mov (.t 12)⟩]
abbrev c5_r14 : List Ins := [
  ⟨some 54, none, .load 6 true (.t 10)⟩,
  ⟨none, none, .store 6 (.t 9) (.t 54)⟩]
abbrev c5_r15 : List Ins := [
  ⟨some 55, none, .mov (.t 11)⟩,
  ⟨some 6, none, .mov (.t 55)⟩]
abbrev c5_r16 : List Ins := [
  ⟨some 56, none, .mov (.t 12)⟩,
  ⟨some 7, none, .mov (.t 56)⟩]
abbrev c5_r17 : List Ins := [
  ⟨some 57, none, .mov (.t 5)⟩,
  ⟨some 58, none, .load 6 true (.t 9)⟩,
  ⟨some 59, none, .call (.c (.fn 27 [] [])) [.t 57, .t 58]⟩,
  ⟨some 60, none, .un .not (.t 59)⟩,
  ⟨some 61, none, .mov (.t 60)⟩,
  ⟨some 62, some (61, false), .mov (.t 5)⟩,
  ⟨some 63, some (61, false), .call (.c (.fn 28 [] [])) [.t 62]⟩,
  ⟨some 64, some (61, false), .mov (.t 7)⟩,
  ⟨some 65, some (61, false), .eq [.b] false true (.t 63) (.t 64)⟩,
  ⟨some 66, none, .pick (.t 61) (.c (.bool true)) (.t 65)⟩,
  ⟨some 67, none, .mov (.t 66)⟩,
  ⟨some 68, some (67, false), .mov (.t 5)⟩,
  ⟨some 69, some (67, false), .call (.c (.fn 29 [] [])) [.t 68]⟩,
  ⟨some 70, some (67, false), .mov (.t 7)⟩,
  ⟨some 71, some (67, false), .mov (.t 70)⟩,
  ⟨some 72, some (71, true), .mov (.t 6)⟩,
  ⟨some 73, some (71, true), .len (.t 72)⟩,
  ⟨some 74, some (71, true), .bin .eql (.t 73) (.c (.int .i64 0))⟩,
  ⟨some 75, some (67, false), .pick (.t 71) (.t 74) (.c (.bool false))⟩,
  ⟨some 76, some (67, false), .eq [.b] false true (.t 69) (.t 75)⟩,
  ⟨some 77, none, .pick (.t 67) (.c (.bool true)) (.t 76)⟩]
abbrev c5_r18 : List Ins := [
  ⟨some 4, none, .mov (.c (.bool false))⟩]
abbrev c5_r19 : List Ins := [
  ⟨some 29, none, .mov (.t 8)⟩,
  ⟨some 30, none, .bin .add (.t 29) (.c (.int .i64 1))⟩,
  ⟨some 8, none, .mov (.t 30)⟩]
abbrev c5_l20 : IR := .seq (.seq (.reg c5_r9) (.cond (.t 28) (.skip) (.exit 0))) (.seq (.blk 1 (.seq (.dreg c5_r10 c5_a10) (.seq (.seq (.reg c5_r11) (.cond (.t 42) (.seq (.reg c5_r12) (.seq (.seq (.reg c5_r13) (.cond (.t 53) (.seq (.reg c5_r14) (.reg c5_r15)) (.skip))) (.reg c5_r16))) (.skip))) (.seq (.reg c5_r17) (.cond (.t 77) (.seq (.reg c5_r18) (.ret)) (.skip)))))) (.reg c5_r19))
abbrev c5_r21 : List Ins := [
  ⟨some 4, none, .mov (.c (.bool true))⟩]
abbrev c5 : IR := .seq (.reg c5_r1) (.seq (.seq (.reg c5_r2) (.cond (.t 14) (.seq (.reg c5_r3) (.ret)) (.skip))) (.seq (.seq (.reg c5_r4) (.cond (.t 21) (.seq (.reg c5_r5) (.ret)) (.skip))) (.seq (.reg c5_r6) (.seq (.reg c5_r7) (.seq (.seq (.reg c5_r8) (.blk 0 (.loop c5_l20))) (.seq (.reg c5_r21) (.ret)))))))
abbrev F5 : FnA := ⟨78, c5, [.t 4]⟩
theorem ok5 : cFn Try.prog 5 = some F5 := by kernel_rfl
theorem hb5 : HasBody Try.prog 5 := ⟨_, Try.func5, by kernel_rfl, by kernel_rfl⟩
/-! law01.CodesBack -/
abbrev c7_r1 : List Ins := [
  ⟨some 2, none, .mov (.c (.bool false))⟩]
abbrev c7_r2 : List Ins := [
  ⟨some 8, none, .call (.c (.fn 14 [] [])) []⟩,
  ⟨some 9, none, .un .not (.t 8)⟩]
abbrev c7_r3 : List Ins := [
  ⟨some 2, none, .mov (.c (.bool false))⟩]
abbrev c7_r4 : List Ins := [
  ⟨some 10, none, .mov (.t 0)⟩,
  ⟨some 11, none, .call (.c (.fn 15 [] [])) [.t 10]⟩]
abbrev c7_r5 : List Ins := [
  ⟨some 2, none, .mov (.c (.bool true))⟩]
abbrev c7_r6 : List Ins := [
  ⟨some 3, none, .alloc [.sl .full []]⟩]
abbrev c7_r7 : List Ins := [
  ⟨some 4, none, .mov (.c (.int .i64 0))⟩]
abbrev c7_r8 : List Ins := [
  ⟨some 12, none, .mov (.t 4)⟩,
  ⟨some 13, none, .mov (.t 0)⟩,
  ⟨some 14, none, .len (.t 13)⟩,
  ⟨some 15, none, .bin .lss (.t 12) (.t 14)⟩]
abbrev c7_r9 : List Ins := [
  ⟨some 18, none, .mov (.t 0)⟩,
  ⟨some 19, none, .mov (.t 4)⟩,
  ⟨some 20, none, .iaddr 6 (.t 18) (.t 19)⟩,
  ⟨some 21, none, .load 6 true (.t 20)⟩,
  ⟨some 22, none, .call (.c (.fn 16 [] [])) [.t 3, .t 21]⟩]
abbrev c7_r10 : List Ins := [
  ⟨some 16, none, .mov (.t 4)⟩,
  ⟨some 17, none, .bin .add (.t 16) (.c (.int .i64 1))⟩,
  ⟨some 4, none, .mov (.t 17)⟩]
abbrev c7_l11 : IR := .seq (.seq (.reg c7_r8) (.cond (.t 15) (.skip) (.exit 0))) (.seq (.blk 1 (.reg c7_r9)) (.reg c7_r10))
abbrev c7_r12 : List Ins := [
  ⟨some 23, none, .call (.c (.fn 19 [] [])) [.t 3]⟩,
  ⟨some 24, none, .call (.c (.fn 25 [] [])) [.t 23]⟩,
  ⟨some 5, none, .mov (.t 24)⟩]
abbrev c7_r13 : List Ins := [
  ⟨some 6, none, .mov (.c (.int .i64 0))⟩]
abbrev c7_r14 : List Ins := [
  ⟨some 25, none, .mov (.t 6)⟩,
  ⟨some 26, none, .mov (.t 0)⟩,
  ⟨some 27, none, .len (.t 26)⟩,
  ⟨some 28, none, .bin .lss (.t 25) (.t 27)⟩]
abbrev c7_r15 : List Ins := [
  ⟨some 31, none, .mov (.t 0)⟩,
  ⟨some 32, none, .mov (.t 6)⟩,
  ⟨some 33, none, .iaddr 6 (.t 31) (.t 32)⟩,
  ⟨some 34, none, .load 6 true (.t 33)⟩,
  ⟨some 7, none, .alloc [.int .i64 0, .int .i64 0, .int .i64 0, .int .i64 0, .str ⟨#[]⟩, .sl .full []]⟩,
  ⟨none, none, .store 6 (.t 7) (.t 34)⟩]
abbrev c7_r16 : List Ins := [
  ⟨some 35, none, .faddr 0 (.t 7)⟩,
  ⟨some 36, none, .load 1 false (.t 35)⟩,
  ⟨some 37, none, .bin .eql (.t 36) (.c (.int .i64 0))⟩,
  ⟨some 38, none, .mov (.t 37)⟩,
  ⟨some 39, some (38, true), .faddr 1 (.t 7)⟩,
  ⟨some 40, some (38, true), .load 1 false (.t 39)⟩,
  ⟨some 41, some (38, true), .bin .lss (.t 40) (.c (.int .i64 0))⟩,
  ⟨some 42, none, .pick (.t 38) (.t 41) (.c (.bool false))⟩]
abbrev c7_r17 : List Ins := [
  ⟨some 43, none, .faddr 1 (.t 7)⟩,
  ⟨none, none, .store 1 (.t 43) (.c (.int .i64 0))⟩]
abbrev c7_r18 : List Ins := [
  ⟨some 44, none, .faddr 1 (.t 7)⟩,
  ⟨some 45, none, .load 1 false (.t 44)⟩,
  ⟨some 46, none, .faddr 2 (.t 7)⟩,
  ⟨none, none, .store 1 (.t 46) (.t 45)⟩]
abbrev c7_r19 : List Ins := [
  ⟨some 47, none, .faddr 0 (.t 7)⟩,
  ⟨some 48, none, .load 1 false (.t 47)⟩,
  ⟨some 49, none, .bin .eql (.t 48) (.c (.int .i64 2))⟩,
  ⟨some 50, none, .mov (.t 49)⟩,
  ⟨some 51, some (50, true), .faddr 1 (.t 7)⟩,
  ⟨some 52, some (50, true), .load 1 false (.t 51)⟩,
  ⟨some 53, some (50, true), .bin .neq (.t 52) (.c (.int .i64 1))⟩,
  ⟨some 54, none, .pick (.t 50) (.t 53) (.c (.bool false))⟩]
abbrev c7_r20 : List Ins := [
  ⟨some 55, none, .faddr 1 (.t 7)⟩,
  ⟨none, none, .store 1 (.t 55) (.c (.int .i64 0))⟩]
abbrev c7_r21 : List Ins := [
  ⟨some 56, none, .faddr 4 (.t 7)⟩,
  ⟨some 57, none, .load 1 false (.t 56)⟩,
  ⟨some 58, none, .lenS (.t 57)⟩,
  ⟨some 59, none, .bin .gtr (.t 58) (.c (.int .i64 64))⟩]
abbrev c7_r22 : List Ins := [
  ⟨some 60, none, .faddr 4 (.t 7)⟩,
  ⟨some 61, none, .load 1 false (.t 60)⟩,
  ⟨some 62, none, .sliceS (.t 61) none (some (.c (.int .i64 64)))⟩,
  ⟨some 63, none, .faddr 4 (.t 7)⟩,
  ⟨none, none, .store 1 (.t 63) (.t 62)⟩]
abbrev c7_r23 : List Ins := [
  ⟨some 64, none, .faddr 0 (.t 7)⟩,
  ⟨some 65, none, .load 1 false (.t 64)⟩,
  ⟨some 66, none, .bin .eql (.t 65) (.c (.int .i64 4))⟩]
abbrev c7_r24 : List Ins := [
  ⟨some 67, none, .faddr 5 (.t 7)⟩,
  ⟨some 68, none, .load 1 false (.t 67)⟩,
  ⟨some 69, none, .len (.t 68)⟩,
  ⟨some 70, none, .faddr 2 (.t 7)⟩,
  ⟨none, none, .store 1 (.t 70) (.t 69)⟩]
abbrev c7_r25 : List Ins := [
  ⟨some 71, none, .mov (.t 5)⟩,
  ⟨some 72, none, .load 6 true (.t 7)⟩,
  ⟨some 73, none, .call (.c (.fn 27 [] [])) [.t 71, .t 72]⟩,
  ⟨some 74, none, .un .not (.t 73)⟩,
  ⟨some 75, none, .mov (.t 74)⟩,
  ⟨some 76, some (75, false), .mov (.t 5)⟩,
  ⟨some 77, some (75, false), .call (.c (.fn 28 [] [])) [.t 76]⟩,
  ⟨some 78, some (75, false), .un .not (.t 77)⟩,
  ⟨some 79, none, .pick (.t 75) (.c (.bool true)) (.t 78)⟩]
abbrev c7_r26 : List Ins := [
  ⟨some 2, none, .mov (.c (.bool false))⟩]
abbrev c7_r27 : List Ins := [
  ⟨some 29, none, .mov (.t 6)⟩,
  ⟨some 30, none, .bin .add (.t 29) (.c (.int .i64 1))⟩,
  ⟨some 6, none, .mov (.t 30)⟩]
abbrev c7_l28 : IR := .seq (.seq (.reg c7_r14) (.cond (.t 28) (.skip) (.exit 2))) (.seq (.blk 3 (.seq (.reg c7_r15) (.seq (.seq (.reg c7_r16) (.cond (.t 42) (.reg c7_r17) (.skip))) (.seq (.reg c7_r18) (.seq (.seq (.reg c7_r19) (.cond (.t 54) (.reg c7_r20) (.skip))) (.seq (.seq (.reg c7_r21) (.cond (.t 59) (.reg c7_r22) (.skip))) (.seq (.seq (.reg c7_r23) (.cond (.t 66) (.reg c7_r24) (.skip))) (.seq (.reg c7_r25) (.cond (.t 79) (.seq (.reg c7_r26) (.ret)) (.skip)))))))))) (.reg c7_r27))
abbrev c7_r29 : List Ins := [
  ⟨some 80, none, .mov (.t 5)⟩,
  ⟨some 81, none, .call (.c (.fn 29 [] [])) [.t 80]⟩,
  ⟨some 2, none, .mov (.t 81)⟩]
abbrev c7 : IR := .seq (.reg c7_r1) (.seq (.seq (.reg c7_r2) (.cond (.t 9) (.seq (.reg c7_r3) (.ret)) (.skip))) (.seq (.seq (.reg c7_r4) (.cond (.t 11) (.seq (.reg c7_r5) (.ret)) (.skip))) (.seq (.reg c7_r6) (.seq (.seq (.reg c7_r7) (.blk 0 (.loop c7_l11))) (.seq (.reg c7_r12) (.seq (.seq (.reg c7_r13) (.blk 2 (.loop c7_l28))) (.seq (.reg c7_r29) (.ret))))))))
abbrev F7 : FnA := ⟨82, c7, [.t 2]⟩
theorem ok7 : cFn Try.prog 7 = some F7 := by kernel_rfl
theorem hb7 : HasBody Try.prog 7 := ⟨_, Try.func7, by kernel_rfl, by kernel_rfl⟩
/-! law01.alive -/
abbrev c14_r1 : List Ins := [
  ⟨some 0, none, .mov (.c (.bool false))⟩]
abbrev c14_r2 : List Ins := [
  ⟨some 1, none, .alloc [.sl .full []]⟩]
abbrev c14_r3 : List Ins := [
  ⟨some 2, none, .call (.c (.fn 54 [] [])) [.t 1, .c (.int .i64 (-1))]⟩]
abbrev c14_r4 : List Ins := [
  ⟨some 3, none, .call (.c (.fn 54 [] [])) [.t 1, .c (.int .i64 1)]⟩]
abbrev c14_r5 : List Ins := [
  ⟨some 4, none, .call (.c (.fn 55 [] [])) [.t 1, .c (.str ⟨#[97, 98]⟩)]⟩]
abbrev c14_r6 : List Ins := [
  ⟨some 5, none, .call (.c (.fn 19 [] [])) [.t 1]⟩,
  ⟨some 6, none, .bsl 1 4 [.int .u64 0] [(0, .c (.int .u64 1)), (1, .c (.int .u64 2)), (2, .c (.int .u64 2)), (3, .c (.int .u64 25185))]⟩,
  ⟨some 7, none, .call (.c (.fn 18 [] [])) [.t 5, .t 6]⟩,
  ⟨some 0, none, .mov (.t 7)⟩]
abbrev c14 : IR := .seq (.reg c14_r1) (.seq (.reg c14_r2) (.seq (.reg c14_r3) (.seq (.reg c14_r4) (.seq (.reg c14_r5) (.seq (.reg c14_r6) (.ret))))))
abbrev F14 : FnA := ⟨8, c14, [.t 0]⟩
theorem ok14 : cFn Try.prog 14 = some F14 := by kernel_rfl
theorem hb14 : HasBody Try.prog 14 := ⟨_, Try.func14, by kernel_rfl, by kernel_rfl⟩
/-! law01.great -/
abbrev c15_r1 : List Ins := [
  ⟨some 2, none, .mov (.c (.bool false))⟩]
abbrev c15_r2 : List Ins := [
  ⟨some 3, none, .mov (.c (.int .i64 0))⟩]
abbrev c15_r3 : List Ins := [
  ⟨some 4, none, .mov (.t 3)⟩,
  ⟨some 5, none, .mov (.t 0)⟩,
  ⟨some 6, none, .len (.t 5)⟩,
  ⟨some 7, none, .bin .lss (.t 4) (.t 6)⟩]
abbrev c15_r4 : List Ins := [
  ⟨some 10, none, .mov (.t 0)⟩,
  ⟨some 11, none, .mov (.t 3)⟩,
  ⟨some 12, none, .iaddr 6 (.t 10) (.t 11)⟩,
  ⟨some 13, none, .faddr 5 (.t 12)⟩,
  ⟨some 14, none, .load 1 false (.t 13)⟩,
  ⟨some 15, none, .len (.t 14)⟩,
  ⟨some 16, none, .bin .gtr (.t 15) (.c (.int .i64 100))⟩,
  ⟨some 17, none, .mov (.t 16)⟩,
  ⟨some 18, some (17, false), .mov (.t 0)⟩,
  ⟨some 19, some (17, false), .mov (.t 3)⟩,
  ⟨some 20, some (17, false), .iaddr 6 (.t 18) (.t 19)⟩,
  ⟨some 21, some (17, false), .faddr 4 (.t 20)⟩,
  ⟨some 22, some (17, false), .load 1 false (.t 21)⟩,
  ⟨some 23, some (17, false), .lenS (.t 22)⟩,
  ⟨some 24, some (17, false), .bin .gtr (.t 23) (.c (.int .i64 200))⟩,
  ⟨some 25, none, .pick (.t 17) (.c (.bool true)) (.t 24)⟩,
  ⟨some 26, none, .mov (.t 25)⟩,
  ⟨some 27, some (26, false), .mov (.t 0)⟩,
  ⟨some 28, some (26, false), .mov (.t 3)⟩,
  ⟨some 29, some (26, false), .iaddr 6 (.t 27) (.t 28)⟩,
  ⟨some 30, some (26, false), .faddr 0 (.t 29)⟩,
  ⟨some 31, some (26, false), .load 1 false (.t 30)⟩,
  ⟨some 32, some (26, false), .bin .lss (.t 31) (.c (.int .i64 0))⟩,
  ⟨some 33, none, .pick (.t 26) (.c (.bool true)) (.t 32)⟩,
  ⟨some 34, none, .mov (.t 33)⟩,
  ⟨some 35, some (34, false), .mov (.t 0)⟩,
  ⟨some 36, some (34, false), .mov (.t 3)⟩,
  ⟨some 37, some (34, false), .iaddr 6 (.t 35) (.t 36)⟩,
  ⟨some 38, some (34, false), .faddr 0 (.t 37)⟩,
  ⟨some 39, some (34, false), .load 1 false (.t 38)⟩,
  ⟨some 40, some (34, false), .bin .gtr (.t 39) (.c (.int .i64 4))⟩,
  ⟨some 41, none, .pick (.t 34) (.c (.bool true)) (.t 40)⟩]
abbrev c15_r5 : List Ins := [
  ⟨some 2, none, .mov (.c (.bool true))⟩]
abbrev c15_r6 : List Ins := [
  ⟨some 8, none, .mov (.t 3)⟩,
  ⟨some 9, none, .bin .add (.t 8) (.c (.int .i64 1))⟩,
  ⟨some 3, none, .mov (.t 9)⟩]
abbrev c15_l7 : IR := .seq (.seq (.reg c15_r3) (.cond (.t 7) (.skip) (.exit 0))) (.seq (.blk 1 (.seq (.reg c15_r4) (.cond (.t 41) (.seq (.reg c15_r5) (.ret)) (.skip)))) (.reg c15_r6))
abbrev c15_r8 : List Ins := [
  ⟨some 42, none, .mov (.t 0)⟩,
  ⟨some 43, none, .len (.t 42)⟩,
  ⟨some 44, none, .bin .gtr (.t 43) (.c (.int .i64 60))⟩,
  ⟨some 2, none, .mov (.t 44)⟩]
abbrev c15 : IR := .seq (.reg c15_r1) (.seq (.seq (.reg c15_r2) (.blk 0 (.loop c15_l7))) (.seq (.reg c15_r8) (.ret)))
abbrev F15 : FnA := ⟨45, c15, [.t 2]⟩
theorem ok15 : cFn Try.prog 15 = some F15 := by kernel_rfl
theorem hb15 : HasBody Try.prog 15 := ⟨_, Try.func15, by kernel_rfl, by kernel_rfl⟩
/-! law01.write -/
abbrev c16_r1 : List Ins := [
  ⟨some 3, none, .box (.t 1)⟩]
abbrev c16_r2 : List Ins := [
  ⟨some 4, none, .faddr 0 (.t 3)⟩,
  ⟨some 5, none, .load 1 false (.t 4)⟩]
abbrev c16_r3 : List Ins := [
  ⟨some 11, none, .bin .eql (.t 5) (.c (.int .i64 0))⟩,
  ⟨some 10, none, .mov (.t 11)⟩]
abbrev c16_r4 : List Ins := [
  ⟨some 12, none, .mov (.t 0)⟩,
  ⟨some 13, none, .faddr 1 (.t 3)⟩,
  ⟨some 14, none, .load 1 false (.t 13)⟩,
  ⟨some 15, none, .call (.c (.fn 56 [] [])) [.t 12, .t 14]⟩]
abbrev c16_r5 : List Ins := [
  ⟨some 17, none, .bin .eql (.t 5) (.c (.int .i64 1))⟩,
  ⟨some 16, none, .mov (.t 17)⟩]
abbrev c16_r6 : List Ins := [
  ⟨some 18, none, .mov (.t 0)⟩,
  ⟨some 19, none, .faddr 3 (.t 3)⟩,
  ⟨some 20, none, .load 1 false (.t 19)⟩,
  ⟨some 21, none, .call (.c (.fn 54 [] [])) [.t 18, .t 20]⟩]
abbrev c16_r7 : List Ins := [
  ⟨some 23, none, .bin .eql (.t 5) (.c (.int .i64 2))⟩,
  ⟨some 22, none, .mov (.t 23)⟩]
abbrev c16_r8 : List Ins := [
  ⟨some 24, none, .mov (.t 0)⟩,
  ⟨some 25, none, .faddr 1 (.t 3)⟩,
  ⟨some 26, none, .load 1 false (.t 25)⟩,
  ⟨some 27, none, .bin .eql (.t 26) (.c (.int .i64 1))⟩,
  ⟨some 28, none, .call (.c (.fn 57 [] [])) [.t 24, .t 27]⟩]
abbrev c16_r9 : List Ins := [
  ⟨some 30, none, .bin .eql (.t 5) (.c (.int .i64 3))⟩,
  ⟨some 29, none, .mov (.t 30)⟩]
abbrev c16_r10 : List Ins := [
  ⟨some 31, none, .mov (.t 0)⟩,
  ⟨some 32, none, .faddr 4 (.t 3)⟩,
  ⟨some 33, none, .load 1 false (.t 32)⟩,
  ⟨some 34, none, .call (.c (.fn 55 [] [])) [.t 31, .t 33]⟩]
abbrev c16_r11 : List Ins := [
  ⟨some 6, none, .mov (.t 0)⟩,
  ⟨some 7, none, .faddr 5 (.t 3)⟩,
  ⟨some 8, none, .load 1 false (.t 7)⟩,
  ⟨some 9, none, .call (.c (.fn 58 [] [])) [.t 6, .t 8]⟩]
abbrev c16 : IR := .seq (.reg c16_r1) (.seq (.reg c16_r2) (.blk 0 (.seq (.reg c16_r3) (.cond (.t 10) (.reg c16_r4) (.seq (.reg c16_r5) (.cond (.t 16) (.reg c16_r6) (.seq (.reg c16_r7) (.cond (.t 22) (.reg c16_r8) (.seq (.reg c16_r9) (.cond (.t 29) (.reg c16_r10) (.reg c16_r11)))))))))))
abbrev F16 : FnA := ⟨35, c16, []⟩
theorem ok16 : cFn Try.prog 16 = some F16 := by kernel_rfl
theorem hb16 : HasBody Try.prog 16 := ⟨_, Try.func16, by kernel_rfl, by kernel_rfl⟩
/-! ref01.Write -/
abbrev c17_r1 : List Ins := [
  ⟨some 3, none, .box (.t 1)⟩,
  ⟨some 4, none, .mov (.c (.sl .full []))⟩]
abbrev c17_r2 : List Ins := [
  ⟨some 6, none, .faddr 0 (.t 3)⟩,
  ⟨some 7, none, .load 1 false (.t 6)⟩]
abbrev c17_r3 : List Ins := [
  ⟨some 9, none, .bin .eql (.t 7) (.c (.int .i64 0))⟩,
  ⟨some 8, none, .mov (.t 9)⟩]
abbrev c17_r4 : List Ins := [
  ⟨some 10, none, .faddr 1 (.t 3)⟩,
  ⟨some 11, none, .load 1 false (.t 10)⟩,
  ⟨some 12, none, .bin .lss (.t 11) (.c (.int .i64 0))⟩]
abbrev c17_r5 : List Ins := [
  ⟨some 13, none, .mov (.t 0)⟩,
  ⟨some 14, none, .bsl 1 1 [.int .u64 0] [(0, .c (.int .u64 0))]⟩,
  ⟨some 15, none, .append 1 8 (.t 13) (.t 14)⟩,
  ⟨some 4, none, .mov (.t 15)⟩]
abbrev c17_r6 : List Ins := [
  ⟨some 16, none, .mov (.t 0)⟩,
  ⟨some 17, none, .faddr 1 (.t 3)⟩,
  ⟨some 18, none, .load 1 false (.t 17)⟩,
  ⟨some 19, none, .conv .u64 (.t 18)⟩,
  ⟨some 20, none, .bsl 1 1 [.int .u64 0] [(0, .t 19)]⟩,
  ⟨some 21, none, .append 1 8 (.t 16) (.t 20)⟩,
  ⟨some 4, none, .mov (.t 21)⟩]
abbrev c17_r7 : List Ins := [
  ⟨some 23, none, .bin .eql (.t 7) (.c (.int .i64 1))⟩,
  ⟨some 22, none, .mov (.t 23)⟩]
abbrev c17_r8 : List Ins := [
  ⟨some 24, none, .mov (.t 0)⟩,
  ⟨some 25, none, .faddr 3 (.t 3)⟩,
  ⟨some 26, none, .load 1 false (.t 25)⟩,
  ⟨some 27, none, .call (.c (.fn 59 [] [])) [.t 26]⟩,
  ⟨some 28, none, .bsl 1 1 [.int .u64 0] [(0, .t 27)]⟩,
  ⟨some 29, none, .append 1 8 (.t 24) (.t 28)⟩,
  ⟨some 4, none, .mov (.t 29)⟩]
abbrev c17_r9 : List Ins := [
  ⟨some 31, none, .bin .eql (.t 7) (.c (.int .i64 2))⟩,
  ⟨some 30, none, .mov (.t 31)⟩]
abbrev c17_r10 : List Ins := [
  ⟨some 32, none, .faddr 1 (.t 3)⟩,
  ⟨some 33, none, .load 1 false (.t 32)⟩,
  ⟨some 34, none, .bin .eql (.t 33) (.c (.int .i64 1))⟩]
abbrev c17_r11 : List Ins := [
  ⟨some 35, none, .mov (.t 0)⟩,
  ⟨some 36, none, .bsl 1 1 [.int .u64 0] [(0, .c (.int .u64 1))]⟩,
  ⟨some 37, none, .append 1 8 (.t 35) (.t 36)⟩,
  ⟨some 4, none, .mov (.t 37)⟩]
abbrev c17_r12 : List Ins := [
  ⟨some 38, none, .mov (.t 0)⟩,
  ⟨some 39, none, .bsl 1 1 [.int .u64 0] [(0, .c (.int .u64 0))]⟩,
  ⟨some 40, none, .append 1 8 (.t 38) (.t 39)⟩,
  ⟨some 4, none, .mov (.t 40)⟩]
abbrev c17_r13 : List Ins := [
  ⟨some 42, none, .bin .eql (.t 7) (.c (.int .i64 3))⟩,
  ⟨some 41, none, .mov (.t 42)⟩]
abbrev c17_r14 : List Ins := [
  ⟨some 43, none, .faddr 4 (.t 3)⟩,
  ⟨some 44, none, .load 1 false (.t 43)⟩,
  ⟨some 5, none, .mov (.t 44)⟩]
abbrev c17_r15 : List Ins := [
  ⟨some 45, none, .mov (.t 5)⟩,
  ⟨some 46, none, .lenS (.t 45)⟩,
  ⟨some 47, none, .bin .gtr (.t 46) (.c (.int .i64 64))⟩]
abbrev c17_r16 : List Ins := [
  ⟨some 48, none, .mov (.t 5)⟩,
  ⟨some 49, none, .sliceS (.t 48) none (some (.c (.int .i64 64)))⟩,
  ⟨some 5, none, .mov (.t 49)⟩]
abbrev c17_r17 : List Ins := [
  ⟨some 50, none, .mov (.t 0)⟩,
  ⟨some 51, none, .mov (.t 5)⟩,
  ⟨some 52, none, .lenS (.t 51)⟩,
  ⟨some 53, none, .conv .u64 (.t 52)⟩,
  ⟨some 54, none, .bsl 1 1 [.int .u64 0] [(0, .t 53)]⟩,
  ⟨some 55, none, .append 1 8 (.t 50) (.t 54)⟩,
  ⟨some 56, none, .mov (.t 5)⟩,
  ⟨some 57, none, .call (.c (.fn 60 [] [])) [.t 56]⟩,
  ⟨some 58, none, .append 1 8 (.t 55) (.t 57)⟩,
  ⟨some 4, none, .mov (.t 58)⟩]
abbrev c17_r18 : List Ins := [
  ⟨some 59, none, .mov (.t 0)⟩,
  ⟨some 60, none, .faddr 5 (.t 3)⟩,
  ⟨some 61, none, .load 1 false (.t 60)⟩,
  ⟨some 62, none, .len (.t 61)⟩,
  ⟨some 63, none, .conv .u64 (.t 62)⟩,
  ⟨some 64, none, .bsl 1 1 [.int .u64 0] [(0, .t 63)]⟩,
  ⟨some 65, none, .append 1 8 (.t 59) (.t 64)⟩,
  ⟨some 66, none, .faddr 5 (.t 3)⟩,
  ⟨some 67, none, .load 1 false (.t 66)⟩,
  ⟨some 68, none, .append 1 8 (.t 65) (.t 67)⟩,
  ⟨some 4, none, .mov (.t 68)⟩]
def c17_a18 : List (List Nat) := [[], [], [1], [2], [3], [4], [0, 5], [], [7], [6, 8, 6], [9, 9, 0, 1, 2, 3, 4, 5, 6, 7, 8, 9]]
abbrev c17_m18 : List Am.Mark := [⟨false, 0, 0⟩, ⟨false, 0, 2⟩, ⟨false, 0, 2⟩, ⟨false, 0, 2⟩, ⟨false, 0, 2⟩, ⟨false, 0, 0⟩, ⟨true, 0, 1⟩, ⟨false, 0, 2⟩, ⟨false, 0, 1⟩, ⟨true, 1, 2⟩, ⟨false, 2, 2⟩]
theorem c17_d18 : drawFine c17_r18 c17_a18 c17_m18 = true := by decide +kernel
abbrev c17 : IR := .seq (.reg c17_r1) (.seq (.seq (.reg c17_r2) (.blk 0 (.seq (.reg c17_r3) (.cond (.t 8) (.seq (.seq (.reg c17_r4) (.cond (.t 12) (.seq (.reg c17_r5) (.ret)) (.skip))) (.seq (.reg c17_r6) (.ret))) (.seq (.reg c17_r7) (.cond (.t 22) (.seq (.reg c17_r8) (.ret)) (.seq (.reg c17_r9) (.cond (.t 30) (.seq (.seq (.reg c17_r10) (.cond (.t 34) (.seq (.reg c17_r11) (.ret)) (.skip))) (.seq (.reg c17_r12) (.ret))) (.seq (.reg c17_r13) (.cond (.t 41) (.seq (.reg c17_r14) (.seq (.seq (.reg c17_r15) (.cond (.t 47) (.reg c17_r16) (.skip))) (.seq (.reg c17_r17) (.ret)))) (.skip))))))))))) (.seq (.dreg c17_r18 c17_a18) (.ret)))
abbrev F17 : FnA := ⟨69, c17, [.t 4]⟩
theorem ok17 : cFn Try.prog 17 = some F17 := by kernel_rfl
theorem hb17 : HasBody Try.prog 17 := ⟨_, Try.func17, by kernel_rfl, by kernel_rfl⟩
/-! ref01.Words -/
abbrev c18_r1 : List Ins := [
  ⟨some 4, none, .mov (.c (.bool false))⟩]
abbrev c18_r2 : List Ins := [
  ⟨some 6, none, .mov (.t 0)⟩,
  ⟨some 7, none, .len (.t 6)⟩,
  ⟨some 8, none, .mov (.t 1)⟩,
  ⟨some 9, none, .len (.t 8)⟩,
  ⟨some 10, none, .bin .neq (.t 7) (.t 9)⟩]
abbrev c18_r3 : List Ins := [
  ⟨some 4, none, .mov (.c (.bool false))⟩]
abbrev c18_r4 : List Ins := [
  ⟨some 5, none, .mov (.c (.int .i64 0))⟩]
abbrev c18_r5 : List Ins := [
  ⟨some 11, none, .mov (.t 5)⟩,
  ⟨some 12, none, .mov (.t 0)⟩,
  ⟨some 13, none, .len (.t 12)⟩,
  ⟨some 14, none, .bin .lss (.t 11) (.t 13)⟩]
abbrev c18_r6 : List Ins := [
  ⟨some 17, none, .mov (.t 0)⟩,
  ⟨some 18, none, .mov (.t 5)⟩,
  ⟨some 19, none, .iaddr 1 (.t 17) (.t 18)⟩,
  ⟨some 20, none, .load 1 false (.t 19)⟩,
  ⟨some 21, none, .mov (.t 1)⟩,
  ⟨some 22, none, .mov (.t 5)⟩,
  ⟨some 23, none, .iaddr 1 (.t 21) (.t 22)⟩,
  ⟨some 24, none, .load 1 false (.t 23)⟩,
  ⟨some 25, none, .bin .neq (.t 20) (.t 24)⟩]
def c18_a6 : List (List Nat) := [[], [], [0, 1], [2], [], [], [4, 5], [6], [3, 7]]
abbrev c18_m6 : List Am.Mark := [⟨false, 0, 0⟩, ⟨false, 0, 0⟩, ⟨false, 0, 0⟩, ⟨false, 0, 0⟩, ⟨false, 0, 0⟩, ⟨false, 0, 0⟩, ⟨false, 0, 0⟩, ⟨false, 0, 0⟩, ⟨false, 0, 0⟩]
theorem c18_d6 : drawFine c18_r6 c18_a6 c18_m6 = true := by decide +kernel
abbrev c18_r7 : List Ins := [
  ⟨some 4, none, .mov (.c (.bool false))⟩]
abbrev c18_r8 : List Ins := [
  ⟨some 15, none, .mov (.t 5)⟩,
  ⟨some 16, none, .bin .add (.t 15) (.c (.int .i64 1))⟩,
  ⟨some 5, none, .mov (.t 16)⟩]
abbrev c18_l9 : IR := .seq (.seq (.reg c18_r5) (.cond (.t 14) (.skip) (.exit 0))) (.seq (.blk 1 (.seq (.dreg c18_r6 c18_a6) (.cond (.t 25) (.seq (.reg c18_r7) (.ret)) (.skip)))) (.reg c18_r8))
abbrev c18_r10 : List Ins := [
  ⟨some 4, none, .mov (.c (.bool true))⟩]
abbrev c18 : IR := .seq (.reg c18_r1) (.seq (.seq (.reg c18_r2) (.cond (.t 10) (.seq (.reg c18_r3) (.ret)) (.skip))) (.seq (.seq (.reg c18_r4) (.blk 0 (.loop c18_l9))) (.seq (.reg c18_r10) (.ret))))
abbrev F18 : FnA := ⟨26, c18, [.t 4]⟩
theorem ok18 : cFn Try.prog 18 = some F18 := by kernel_rfl
theorem hb18 : HasBody Try.prog 18 := ⟨_, Try.func18, by kernel_rfl, by kernel_rfl⟩
/-! codes.Writer.Done -/
abbrev c19_r1 : List Ins := [
  ⟨some 2, none, .mov (.c (.sl .full []))⟩]
abbrev c19_r2 : List Ins := [
  ⟨some 3, none, .mov (.t 0)⟩,
  ⟨some 4, none, .nilck (.t 3)⟩,
  ⟨some 5, none, .faddr 0 (.t 4)⟩,
  ⟨some 6, none, .load 1 false (.t 5)⟩,
  ⟨some 7, none, .call (.c (.fn 61 [] [])) [.t 6]⟩,
  ⟨some 2, none, .mov (.t 7)⟩]
abbrev c19 : IR := .seq (.reg c19_r1) (.seq (.reg c19_r2) (.ret))
abbrev F19 : FnA := ⟨8, c19, [.t 2]⟩
theorem ok19 : cFn Try.prog 19 = some F19 := by kernel_rfl
theorem hb19 : HasBody Try.prog 19 := ⟨_, Try.func19, by kernel_rfl, by kernel_rfl⟩
/-! codes.NewReader -/
abbrev c25_r1 : List Ins := [
  ⟨some 2, none, .mov (.c .nilptr)⟩]
abbrev c25_r2 : List Ins := [
  ⟨some 3, none, .mov (.t 0)⟩,
  ⟨some 4, none, .build [.sl .full [], .bool false] [(0, (1, .t 3))]⟩,
  ⟨some 5, none, .box (.t 4)⟩,
  ⟨some 2, none, .mov (.t 5)⟩]
abbrev c25 : IR := .seq (.reg c25_r1) (.seq (.reg c25_r2) (.ret))
abbrev F25 : FnA := ⟨6, c25, [.t 2]⟩
theorem ok25 : cFn Try.prog 25 = some F25 := by kernel_rfl
theorem hb25 : HasBody Try.prog 25 := ⟨_, Try.func25, by kernel_rfl, by kernel_rfl⟩
/-! ref01.Read -/
abbrev c26_r1 : List Ins := [
  ⟨some 6, none, .alloc [.int .i64 0, .int .i64 0, .int .i64 0, .int .i64 0, .str ⟨#[]⟩, .sl .full []]⟩,
  ⟨some 7, none, .mov (.c (.sl .full []))⟩,
  ⟨some 8, none, .mov (.c (.bool false))⟩]
abbrev c26_r2 : List Ins := [
  ⟨some 18, none, .mov (.t 1)⟩,
  ⟨some 19, none, .mov (.t 2)⟩,
  ⟨some 20, none, .build [.int .i64 0, .int .i64 0, .int .i64 0, .int .i64 0, .str ⟨#[]⟩, .sl .full []] [(0, (1, .t 18)), (2, (1, .t 19))]⟩,
  ⟨some 9, none, .alloc [.int .i64 0, .int .i64 0, .int .i64 0, .int .i64 0, .str ⟨#[]⟩, .sl .full []]⟩,
  ⟨none, none, .store 6 (.t 9) (.t 20)⟩]
abbrev c26_r3 : List Ins := [
  ⟨some 21, none, .mov (.t 0)⟩,
  ⟨some 22, none, .len (.t 21)⟩,
  ⟨some 23, none, .bin .eql (.t 22) (.c (.int .i64 0))⟩]
abbrev c26_r4 : List Ins := [
  ⟨some 24, none, .load 6 true (.t 9)⟩,
  ⟨some 25, none, .mov (.t 0)⟩,
  ⟨none, none, .store 6 (.t 6) (.t 24)⟩,
  ⟨some 7, none, .mov (.t 25)⟩,
  ⟨some 8, none, .mov (.c (.bool false))⟩]
abbrev c26_r5 : List Ins := [
  ⟨some 26, none, .mov (.t 0)⟩,
  ⟨some 27, none, .iaddr 1 (.t 26) (.c (.int .i64 0))⟩,
  ⟨some 28, none, .load 1 false (.t 27)⟩,
  ⟨some 10, none, .mov (.t 28)⟩]
abbrev c26_r6 : List Ins := [
  ⟨some 29, none, .mov (.t 0)⟩,
  ⟨some 30, none, .slice 1 (.t 29) (some (.c (.int .i64 1))) none none⟩,
  ⟨some 11, none, .mov (.t 30)⟩]
abbrev c26_r7 : List Ins := [
  ⟨some 31, none, .mov (.t 1)⟩,
  ⟨some 32, none, .bin .eql (.t 31) (.c (.int .i64 1))⟩]
abbrev c26_r8 : List Ins := [
  ⟨some 33, none, .mov (.t 10)⟩,
  ⟨some 34, none, .call (.c (.fn 67 [] [])) [.t 33]⟩,
  ⟨some 35, none, .faddr 3 (.t 9)⟩,
  ⟨none, none, .store 1 (.t 35) (.t 34)⟩]
abbrev c26_r9 : List Ins := [
  ⟨some 36, none, .load 6 true (.t 9)⟩,
  ⟨some 37, none, .mov (.t 11)⟩,
  ⟨none, none, .store 6 (.t 6) (.t 36)⟩,
  ⟨some 7, none, .mov (.t 37)⟩,
  ⟨some 8, none, .mov (.c (.bool true))⟩]
abbrev c26_r10 : List Ins := [
  ⟨some 38, none, .mov (.t 1)⟩,
  ⟨some 39, none, .bin .eql (.t 38) (.c (.int .i64 2))⟩]
abbrev c26_r11 : List Ins := [
  ⟨some 2, none, .mov (.c (.int .i64 1))⟩]
abbrev c26_r12 : List Ins := [
  ⟨some 40, none, .mov (.t 1)⟩,
  ⟨some 41, none, .bin .eql (.t 40) (.c (.int .i64 3))⟩]
abbrev c26_r13 : List Ins := [
  ⟨some 2, none, .mov (.c (.int .i64 64))⟩]
abbrev c26_r14 : List Ins := [
  ⟨some 42, none, .mov (.t 2)⟩,
  ⟨some 43, none, .bin .lss (.t 42) (.c (.int .i64 0))⟩,
  ⟨some 44, none, .mov (.t 43)⟩,
  ⟨some 45, some (44, false), .mov (.t 10)⟩,
  ⟨some 46, some (44, false), .mov (.t 2)⟩,
  ⟨some 47, some (44, false), .conv .u64 (.t 46)⟩,
  ⟨some 48, some (44, false), .bin .gtr (.t 45) (.t 47)⟩,
  ⟨some 49, none, .pick (.t 44) (.c (.bool true)) (.t 48)⟩]
abbrev c26_r15 : List Ins := [
  ⟨some 50, none, .load 6 true (.t 9)⟩,
  ⟨some 51, none, .mov (.t 0)⟩,
  ⟨none, none, .store 6 (.t 6) (.t 50)⟩,
  ⟨some 7, none, .mov (.t 51)⟩,
  ⟨some 8, none, .mov (.c (.bool false))⟩]
abbrev c26_r16 : List Ins := [
  ⟨some 52, none, .mov (.t 10)⟩,
  ⟨some 53, none, .conv .i64 (.t 52)⟩,
  ⟨some 12, none, .mov (.t 53)⟩]
abbrev c26_r17 : List Ins := [
  ⟨some 54, none, .mov (.t 1)⟩,
  ⟨some 55, none, .bin .eql (.t 54) (.c (.int .i64 0))⟩,
  ⟨some 56, none, .mov (.t 55)⟩,
  ⟨some 57, some (56, false), .mov (.t 1)⟩,
  ⟨some 58, some (56, false), .bin .eql (.t 57) (.c (.int .i64 2))⟩,
  ⟨some 59, none, .pick (.t 56) (.c (.bool true)) (.t 58)⟩]
abbrev c26_r18 : List Ins := [
  ⟨some 60, none, .mov (.t 12)⟩,
  ⟨some 61, none, .faddr 1 (.t 9)⟩,
  ⟨none, none, .store 1 (.t 61) (.t 60)⟩]
abbrev c26_r19 : List Ins := [
  ⟨some 62, none, .load 6 true (.t 9)⟩,
  ⟨some 63, none, .mov (.t 11)⟩,
  ⟨none, none, .store 6 (.t 6) (.t 62)⟩,
  ⟨some 7, none, .mov (.t 63)⟩,
  ⟨some 8, none, .mov (.c (.bool true))⟩]
abbrev c26_r20 : List Ins := [
  ⟨some 64, none, .mov (.t 12)⟩,
  ⟨some 13, none, .mov (.t 64)⟩]
abbrev c26_r21 : List Ins := [
  ⟨some 65, none, .mov (.t 1)⟩,
  ⟨some 66, none, .bin .eql (.t 65) (.c (.int .i64 3))⟩]
abbrev c26_r22 : List Ins := [
  ⟨some 67, none, .mov (.t 12)⟩,
  ⟨some 68, none, .bin .add (.t 67) (.c (.int .i64 7))⟩,
  ⟨some 69, none, .bin .quo (.t 68) (.c (.int .i64 8))⟩,
  ⟨some 13, none, .mov (.t 69)⟩]
abbrev c26_r23 : List Ins := [
  ⟨some 70, none, .mov (.t 13)⟩,
  ⟨some 71, none, .mov (.t 11)⟩,
  ⟨some 72, none, .len (.t 71)⟩,
  ⟨some 73, none, .bin .gtr (.t 70) (.t 72)⟩]
abbrev c26_r24 : List Ins := [
  ⟨some 74, none, .load 6 true (.t 9)⟩,
  ⟨some 75, none, .mov (.t 0)⟩,
  ⟨none, none, .store 6 (.t 6) (.t 74)⟩,
  ⟨some 7, none, .mov (.t 75)⟩,
  ⟨some 8, none, .mov (.c (.bool false))⟩]
abbrev c26_r25 : List Ins := [
  ⟨some 76, none, .bsl 1 0 [.int .u64 0] []⟩,
  ⟨some 77, none, .mov (.t 11)⟩,
  ⟨some 78, none, .mov (.t 13)⟩,
  ⟨some 79, none, .slice 1 (.t 77) none (some (.t 78)) none⟩,
  ⟨some 80, none, .append 1 8 (.t 76) (.t 79)⟩,
  ⟨some 81, none, .faddr 5 (.t 9)⟩,
  ⟨none, none, .store 1 (.t 81) (.t 80)⟩]
abbrev c26_r26 : List Ins := [
  ⟨some 82, none, .mov (.t 1)⟩,
  ⟨some 83, none, .bin .eql (.t 82) (.c (.int .i64 3))⟩]
abbrev c26_r27 : List Ins := [
  ⟨some 14, none, .mov (.c (.sl .full []))⟩]
abbrev c26_r28 : List Ins := [
  ⟨some 15, none, .mov (.c (.int .i64 0))⟩]
abbrev c26_r29 : List Ins := [
  ⟨some 84, none, .mov (.t 15)⟩,
  ⟨some 85, none, .mov (.t 13)⟩,
  ⟨some 86, none, .bin .mul (.c (.int .i64 8)) (.t 85)⟩,
  ⟨some 87, none, .bin .lss (.t 84) (.t 86)⟩]
abbrev c26_r30 : List Ins := [
  ⟨some 90, none, .faddr 5 (.t 9)⟩,
  ⟨some 91, none, .load 1 false (.t 90)⟩,
  ⟨some 92, none, .mov (.t 15)⟩,
  ⟨some 93, none, .bin .quo (.t 92) (.c (.int .i64 8))⟩,
  ⟨some 94, none, .iaddr 1 (.t 91) (.t 93)⟩,
  ⟨some 95, none, .load 1 false (.t 94)⟩,
  ⟨some 16, none, .mov (.t 95)⟩]
abbrev c26_r31 : List Ins := [
  ⟨some 17, none, .mov (.c (.int .i64 0))⟩]
abbrev c26_r32 : List Ins := [
  ⟨some 96, none, .mov (.t 17)⟩,
  ⟨some 97, none, .mov (.t 15)⟩,
  ⟨some 98, none, .bin .rem (.t 97) (.c (.int .i64 8))⟩,
  ⟨some 99, none, .bin .lss (.t 96) (.t 98)⟩]
abbrev c26_r33 : List Ins := [
  ⟨some 102, none, .mov (.t 16)⟩,
  ⟨some 103, none, .bin .quo (.t 102) (.c (.int .u64 256))⟩,
  ⟨some 16, none, .mov (.t 103)⟩]
abbrev c26_r34 : List Ins := [
  ⟨some 100, none, .mov (.t 17)⟩,
  ⟨some 101, none, .bin .add (.t 100) (.c (.int .i64 1))⟩,
  ⟨some 17, none, .mov (.t 101)⟩]
abbrev c26_l35 : IR := .seq (.seq (.reg c26_r32) (.cond (.t 99) (.skip) (.exit 2))) (.seq (.blk 3 (.reg c26_r33)) (.reg c26_r34))
abbrev c26_r36 : List Ins := [
  ⟨some 104, none, .mov (.t 15)⟩,
  ⟨some 105, none, .mov (.t 12)⟩,
  ⟨some 106, none, .bin .lss (.t 104) (.t 105)⟩]
abbrev c26_r37 : List Ins := [
  ⟨some 107, none, .mov (.t 14)⟩,
  ⟨some 108, none, .mov (.t 16)⟩,
  ⟨some 109, none, .bin .rem (.t 108) (.c (.int .u64 256))⟩,
  ⟨some 110, none, .conv .u8 (.t 109)⟩,
  ⟨some 111, none, .bsl 1 1 [.int .u8 0] [(0, .t 110)]⟩,
  ⟨some 112, none, .append 1 1 (.t 107) (.t 111)⟩,
  ⟨some 14, none, .mov (.t 112)⟩]
abbrev c26_r38 : List Ins := [
  ⟨some 113, none, .mov (.t 16)⟩,
  ⟨some 114, none, .bin .rem (.t 113) (.c (.int .u64 256))⟩,
  ⟨some 115, none, .bin .neq (.t 114) (.c (.int .u64 0))⟩]
abbrev c26_r39 : List Ins := [
  ⟨some 116, none, .load 6 true (.t 9)⟩,
  ⟨some 117, none, .mov (.t 0)⟩,
  ⟨none, none, .store 6 (.t 6) (.t 116)⟩,
  ⟨some 7, none, .mov (.t 117)⟩,
  ⟨some 8, none, .mov (.c (.bool false))⟩]
abbrev c26_r40 : List Ins := [
  ⟨some 88, none, .mov (.t 15)⟩,
  ⟨some 89, none, .bin .add (.t 88) (.c (.int .i64 1))⟩,
  ⟨some 15, none, .mov (.t 89)⟩]
abbrev c26_l41 : IR := .seq (.seq (.reg c26_r29) (.cond (.t 87) (.skip) (.exit 0))) (.seq (.blk 1 (.seq (.reg c26_r30) (.seq (.seq (.reg c26_r31) (.blk 2 (.loop c26_l35))) (.seq (.reg c26_r36) (.cond (.t 106) (.reg c26_r37) (.seq (.reg c26_r38) (.cond (.t 115) (.seq (.reg c26_r39) (.ret)) (.skip)))))))) (.reg c26_r40))
abbrev c26_r42 : List Ins := [
  ⟨some 118, none, .mov (.t 14)⟩,
  ⟨some 119, none, .b2s (.t 118)⟩,
  ⟨some 120, none, .faddr 4 (.t 9)⟩,
  ⟨none, none, .store 1 (.t 120) (.t 119)⟩]
abbrev c26_r43 : List Ins := [
  ⟨some 121, none, .load 6 true (.t 9)⟩,
  ⟨some 122, none, .mov (.t 11)⟩,
  ⟨some 123, none, .mov (.t 13)⟩,
  ⟨some 124, none, .slice 1 (.t 122) (some (.t 123)) none none⟩,
  ⟨none, none, .store 6 (.t 6) (.t 121)⟩,
  ⟨some 7, none, .mov (.t 124)⟩,
  ⟨some 8, none, .mov (.c (.bool true))⟩]
def c26_a43 : List (List Nat) := [[], [], [], [1, 2], [0, 0], [3, 4, 0, 1, 2, 3, 4], [5, 0, 1, 2, 3, 4, 5]]
abbrev c26_m43 : List Am.Mark := [⟨false, 0, 0⟩, ⟨false, 0, 1⟩, ⟨false, 0, 1⟩, ⟨false, 0, 1⟩, ⟨true, 0, 1⟩, ⟨false, 1, 1⟩, ⟨false, 1, 1⟩]
theorem c26_d43 : drawFine c26_r43 c26_a43 c26_m43 = true := by decide +kernel
abbrev c26 : IR := .seq (.reg c26_r1) (.seq (.reg c26_r2) (.seq (.seq (.reg c26_r3) (.cond (.t 23) (.seq (.reg c26_r4) (.ret)) (.skip))) (.seq (.reg c26_r5) (.seq (.reg c26_r6) (.seq (.seq (.reg c26_r7) (.cond (.t 32) (.seq (.reg c26_r8) (.seq (.reg c26_r9) (.ret))) (.skip))) (.seq (.seq (.reg c26_r10) (.cond (.t 39) (.reg c26_r11) (.skip))) (.seq (.seq (.reg c26_r12) (.cond (.t 41) (.reg c26_r13) (.skip))) (.seq (.seq (.reg c26_r14) (.cond (.t 49) (.seq (.reg c26_r15) (.ret)) (.skip))) (.seq (.reg c26_r16) (.seq (.seq (.reg c26_r17) (.cond (.t 59) (.seq (.reg c26_r18) (.seq (.reg c26_r19) (.ret))) (.skip))) (.seq (.reg c26_r20) (.seq (.seq (.reg c26_r21) (.cond (.t 66) (.reg c26_r22) (.skip))) (.seq (.seq (.reg c26_r23) (.cond (.t 73) (.seq (.reg c26_r24) (.ret)) (.skip))) (.seq (.reg c26_r25) (.seq (.seq (.reg c26_r26) (.cond (.t 83) (.seq (.reg c26_r27) (.seq (.seq (.reg c26_r28) (.blk 0 (.loop c26_l41))) (.reg c26_r42))) (.skip))) (.seq (.dreg c26_r43 c26_a43) (.ret)))))))))))))))))
abbrev F26 : FnA := ⟨125, c26, [.cell 6 6 true, .t 7, .t 8]⟩
theorem ok26 : cFn Try.prog 26 = some F26 := by kernel_rfl
theorem hb26 : HasBody Try.prog 26 := ⟨_, Try.func26, by kernel_rfl, by kernel_rfl⟩
/-! law01.read -/
abbrev c27_r1 : List Ins := [
  ⟨some 3, none, .box (.t 1)⟩,
  ⟨some 4, none, .mov (.c (.bool false))⟩]
abbrev c27_r2 : List Ins := [
  ⟨some 5, none, .faddr 0 (.t 3)⟩,
  ⟨some 6, none, .load 1 false (.t 5)⟩]
abbrev c27_r3 : List Ins := [
  ⟨some 8, none, .bin .eql (.t 6) (.c (.int .i64 0))⟩,
  ⟨some 7, none, .mov (.t 8)⟩]
abbrev c27_r4 : List Ins := [
  ⟨some 9, none, .mov (.t 0)⟩,
  ⟨some 10, none, .faddr 2 (.t 3)⟩,
  ⟨some 11, none, .load 1 false (.t 10)⟩,
  ⟨some 12, none, .call (.c (.fn 68 [] [])) [.t 9, .t 11]⟩,
  ⟨some 13, none, .faddr 1 (.t 3)⟩,
  ⟨some 14, none, .load 1 false (.t 13)⟩,
  ⟨some 15, none, .bin .eql (.t 12) (.t 14)⟩,
  ⟨some 4, none, .mov (.t 15)⟩]
def c27_a4 : List (List Nat) := [[], [], [1], [0, 2], [], [4], [3, 5], [6, 3, 0, 1, 2, 3, 4, 5, 6]]
abbrev c27_m4 : List Am.Mark := [⟨false, 0, 0⟩, ⟨false, 0, 1⟩, ⟨false, 0, 0⟩, ⟨true, 0, 1⟩, ⟨false, 0, 1⟩, ⟨false, 0, 1⟩, ⟨false, 1, 1⟩, ⟨false, 1, 1⟩]
theorem c27_d4 : drawFine c27_r4 c27_a4 c27_m4 = true := by decide +kernel
abbrev c27_r5 : List Ins := [
  ⟨some 17, none, .bin .eql (.t 6) (.c (.int .i64 1))⟩,
  ⟨some 16, none, .mov (.t 17)⟩]
abbrev c27_r6 : List Ins := [
  ⟨some 18, none, .mov (.t 0)⟩,
  ⟨some 19, none, .call (.c (.fn 69 [] [])) [.t 18]⟩,
  ⟨some 20, none, .faddr 3 (.t 3)⟩,
  ⟨some 21, none, .load 1 false (.t 20)⟩,
  ⟨some 22, none, .bin .eql (.t 19) (.t 21)⟩,
  ⟨some 4, none, .mov (.t 22)⟩]
def c27_a6 : List (List Nat) := [[], [0], [], [2], [1, 3], [4, 1, 0, 1, 2, 3, 4]]
abbrev c27_m6 : List Am.Mark := [⟨false, 0, 0⟩, ⟨true, 0, 1⟩, ⟨false, 0, 1⟩, ⟨false, 0, 1⟩, ⟨false, 1, 1⟩, ⟨false, 1, 1⟩]
theorem c27_d6 : drawFine c27_r6 c27_a6 c27_m6 = true := by decide +kernel
abbrev c27_r7 : List Ins := [
  ⟨some 24, none, .bin .eql (.t 6) (.c (.int .i64 2))⟩,
  ⟨some 23, none, .mov (.t 24)⟩]
abbrev c27_r8 : List Ins := [
  ⟨some 25, none, .mov (.t 0)⟩,
  ⟨some 26, none, .call (.c (.fn 70 [] [])) [.t 25]⟩,
  ⟨some 27, none, .faddr 1 (.t 3)⟩,
  ⟨some 28, none, .load 1 false (.t 27)⟩,
  ⟨some 29, none, .bin .eql (.t 28) (.c (.int .i64 1))⟩,
  ⟨some 30, none, .eq [.b] false false (.t 26) (.t 29)⟩,
  ⟨some 4, none, .mov (.t 30)⟩]
def c27_a8 : List (List Nat) := [[], [0], [], [2], [3], [1, 4], [5, 1, 0, 1, 2, 3, 4, 5]]
abbrev c27_m8 : List Am.Mark := [⟨false, 0, 0⟩, ⟨true, 0, 1⟩, ⟨false, 0, 1⟩, ⟨false, 0, 1⟩, ⟨false, 0, 1⟩, ⟨false, 1, 1⟩, ⟨false, 1, 1⟩]
theorem c27_d8 : drawFine c27_r8 c27_a8 c27_m8 = true := by decide +kernel
abbrev c27_r9 : List Ins := [
  ⟨some 32, none, .bin .eql (.t 6) (.c (.int .i64 3))⟩,
  ⟨some 31, none, .mov (.t 32)⟩]
abbrev c27_r10 : List Ins := [
  ⟨some 33, none, .mov (.t 0)⟩,
  ⟨some 34, none, .call (.c (.fn 71 [] [])) [.t 33]⟩,
  ⟨some 35, none, .faddr 4 (.t 3)⟩,
  ⟨some 36, none, .load 1 false (.t 35)⟩,
  ⟨some 37, none, .bin .eql (.t 34) (.t 36)⟩,
  ⟨some 4, none, .mov (.t 37)⟩]
def c27_a10 : List (List Nat) := [[], [0], [], [2], [1, 3], [4, 1, 0, 1, 2, 3, 4]]
abbrev c27_m10 : List Am.Mark := [⟨false, 0, 0⟩, ⟨true, 0, 1⟩, ⟨false, 0, 1⟩, ⟨false, 0, 1⟩, ⟨false, 1, 1⟩, ⟨false, 1, 1⟩]
theorem c27_d10 : drawFine c27_r10 c27_a10 c27_m10 = true := by decide +kernel
abbrev c27_r11 : List Ins := [
  ⟨some 38, none, .mov (.t 0)⟩,
  ⟨some 39, none, .faddr 2 (.t 3)⟩,
  ⟨some 40, none, .load 1 false (.t 39)⟩,
  ⟨some 41, none, .call (.c (.fn 72 [] [])) [.t 38, .t 40]⟩,
  ⟨some 42, none, .faddr 5 (.t 3)⟩,
  ⟨some 43, none, .load 1 false (.t 42)⟩,
  ⟨some 44, none, .call (.c (.fn 18 [] [])) [.t 41, .t 43]⟩,
  ⟨some 4, none, .mov (.t 44)⟩]
def c27_a11 : List (List Nat) := [[], [], [1], [0, 2], [], [4], [3, 5, 3], [6, 6, 0, 1, 2, 3, 4, 5, 6]]
abbrev c27_m11 : List Am.Mark := [⟨false, 0, 0⟩, ⟨false, 0, 1⟩, ⟨false, 0, 0⟩, ⟨true, 0, 1⟩, ⟨false, 0, 1⟩, ⟨false, 0, 1⟩, ⟨false, 1, 1⟩, ⟨false, 1, 1⟩]
theorem c27_d11 : drawFine c27_r11 c27_a11 c27_m11 = true := by decide +kernel
abbrev c27 : IR := .seq (.reg c27_r1) (.seq (.seq (.reg c27_r2) (.blk 0 (.seq (.reg c27_r3) (.cond (.t 7) (.seq (.dreg c27_r4 c27_a4) (.ret)) (.seq (.reg c27_r5) (.cond (.t 16) (.seq (.dreg c27_r6 c27_a6) (.ret)) (.seq (.reg c27_r7) (.cond (.t 23) (.seq (.dreg c27_r8 c27_a8) (.ret)) (.seq (.reg c27_r9) (.cond (.t 31) (.seq (.dreg c27_r10 c27_a10) (.ret)) (.skip))))))))))) (.seq (.dreg c27_r11 c27_a11) (.ret)))
abbrev F27 : FnA := ⟨45, c27, [.t 4]⟩
theorem ok27 : cFn Try.prog 27 = some F27 := by kernel_rfl
theorem hb27 : HasBody Try.prog 27 := ⟨_, Try.func27, by kernel_rfl, by kernel_rfl⟩
/-! codes.Reader.Ok -/
abbrev c28_r1 : List Ins := [
  ⟨some 2, none, .mov (.c (.bool false))⟩]
abbrev c28_r2 : List Ins := [
  ⟨some 3, none, .mov (.t 0)⟩,
  ⟨some 4, none, .nilck (.t 3)⟩,
  ⟨some 5, none, .faddr 1 (.t 4)⟩,
  ⟨some 6, none, .load 1 false (.t 5)⟩,
  ⟨some 7, none, .un .not (.t 6)⟩,
  ⟨some 2, none, .mov (.t 7)⟩]
abbrev c28 : IR := .seq (.reg c28_r1) (.seq (.reg c28_r2) (.ret))
abbrev F28 : FnA := ⟨8, c28, [.t 2]⟩
theorem ok28 : cFn Try.prog 28 = some F28 := by kernel_rfl
theorem hb28 : HasBody Try.prog 28 := ⟨_, Try.func28, by kernel_rfl, by kernel_rfl⟩
/-! codes.Reader.End -/
abbrev c29_r1 : List Ins := [
  ⟨some 2, none, .mov (.c (.bool false))⟩]
abbrev c29_r2 : List Ins := [
  ⟨some 3, none, .mov (.t 0)⟩,
  ⟨some 4, none, .nilck (.t 3)⟩,
  ⟨some 5, none, .faddr 1 (.t 4)⟩,
  ⟨some 6, none, .load 1 false (.t 5)⟩,
  ⟨some 7, none, .un .not (.t 6)⟩,
  ⟨some 8, none, .mov (.t 7)⟩,
  ⟨some 9, some (8, true), .mov (.t 0)⟩,
  ⟨some 10, some (8, true), .nilck (.t 9)⟩,
  ⟨some 11, some (8, true), .faddr 0 (.t 10)⟩,
  ⟨some 12, some (8, true), .load 1 false (.t 11)⟩,
  ⟨some 13, some (8, true), .len (.t 12)⟩,
  ⟨some 14, some (8, true), .bin .eql (.t 13) (.c (.int .i64 0))⟩,
  ⟨some 15, none, .pick (.t 8) (.t 14) (.c (.bool false))⟩,
  ⟨some 2, none, .mov (.t 15)⟩]
abbrev c29 : IR := .seq (.reg c29_r1) (.seq (.reg c29_r2) (.ret))
abbrev F29 : FnA := ⟨16, c29, [.t 2]⟩
theorem ok29 : cFn Try.prog 29 = some F29 := by kernel_rfl
theorem hb29 : HasBody Try.prog 29 := ⟨_, Try.func29, by kernel_rfl, by kernel_rfl⟩
/-! codes.Writer.Signed -/
abbrev c54_r1 : List Ins := [
  ⟨some 4, none, .mov (.t 0)⟩,
  ⟨some 5, none, .mov (.t 1)⟩,
  ⟨some 6, none, .bin .shl (.t 5) (.c (.int .u64 1))⟩,
  ⟨some 7, none, .conv .u64 (.t 6)⟩,
  ⟨some 8, none, .mov (.t 1)⟩,
  ⟨some 9, none, .bin .shr (.t 8) (.c (.int .u64 63))⟩,
  ⟨some 10, none, .conv .u64 (.t 9)⟩,
  ⟨some 11, none, .bin .xor (.t 7) (.t 10)⟩,
  ⟨some 12, none, .bsl 1 1 [.int .u64 0] [(0, .t 11)]⟩,
  ⟨some 13, none, .call (.c (.fn 101 [] [])) [.t 4, .t 12]⟩]
abbrev c54 : IR := .reg c54_r1
abbrev F54 : FnA := ⟨14, c54, []⟩
theorem ok54 : cFn Try.prog 54 = some F54 := by kernel_rfl
theorem hb54 : HasBody Try.prog 54 := ⟨_, Try.func54, by kernel_rfl, by kernel_rfl⟩
/-! codes.Writer.Text -/
abbrev c55_r1 : List Ins := [
  ⟨some 4, none, .mov (.t 1)⟩,
  ⟨some 5, none, .mov (.t 1)⟩,
  ⟨some 6, none, .lenS (.t 5)⟩,
  ⟨some 7, none, .mn [.t 6, .c (.int .i64 64)]⟩,
  ⟨some 8, none, .sliceS (.t 4) none (some (.t 7))⟩,
  ⟨some 1, none, .mov (.t 8)⟩]
abbrev c55_r2 : List Ins := [
  ⟨some 9, none, .mov (.t 0)⟩,
  ⟨some 10, none, .mov (.t 1)⟩,
  ⟨some 11, none, .lenS (.t 10)⟩,
  ⟨some 12, none, .call (.c (.fn 56 [] [])) [.t 9, .t 11]⟩]
abbrev c55_r3 : List Ins := [
  ⟨some 13, none, .mov (.t 0)⟩,
  ⟨some 14, none, .mov (.t 1)⟩,
  ⟨some 15, none, .call (.c (.fn 102 [] [])) [.t 14]⟩,
  ⟨some 16, none, .call (.c (.fn 101 [] [])) [.t 13, .t 15]⟩]
abbrev c55 : IR := .seq (.reg c55_r1) (.seq (.reg c55_r2) (.reg c55_r3))
abbrev F55 : FnA := ⟨17, c55, []⟩
theorem ok55 : cFn Try.prog 55 = some F55 := by kernel_rfl
theorem hb55 : HasBody Try.prog 55 := ⟨_, Try.func55, by kernel_rfl, by kernel_rfl⟩
/-! codes.Writer.Count -/
abbrev c56_r1 : List Ins := [
  ⟨some 4, none, .mov (.t 0)⟩,
  ⟨some 5, none, .mov (.t 1)⟩,
  ⟨some 6, none, .mx [.t 5, .c (.int .i64 0)]⟩,
  ⟨some 7, none, .conv .u64 (.t 6)⟩,
  ⟨some 8, none, .bsl 1 1 [.int .u64 0] [(0, .t 7)]⟩,
  ⟨some 9, none, .call (.c (.fn 101 [] [])) [.t 4, .t 8]⟩]
abbrev c56 : IR := .reg c56_r1
abbrev F56 : FnA := ⟨10, c56, []⟩
theorem ok56 : cFn Try.prog 56 = some F56 := by kernel_rfl
theorem hb56 : HasBody Try.prog 56 := ⟨_, Try.func56, by kernel_rfl, by kernel_rfl⟩
/-! codes.Writer.Flag -/
abbrev c57_r1 : List Ins := [
  ⟨some 4, none, .mov (.t 1)⟩]
abbrev c57_r2 : List Ins := [
  ⟨some 5, none, .mov (.t 0)⟩,
  ⟨some 6, none, .bsl 1 1 [.int .u64 0] [(0, .c (.int .u64 1))]⟩,
  ⟨some 7, none, .call (.c (.fn 101 [] [])) [.t 5, .t 6]⟩]
abbrev c57_r3 : List Ins := [
  ⟨some 8, none, .mov (.t 0)⟩,
  ⟨some 9, none, .bsl 1 1 [.int .u64 0] [(0, .c (.int .u64 0))]⟩,
  ⟨some 10, none, .call (.c (.fn 101 [] [])) [.t 8, .t 9]⟩]
abbrev c57 : IR := .seq (.seq (.reg c57_r1) (.cond (.t 4) (.seq (.reg c57_r2) (.ret)) (.skip))) (.reg c57_r3)
abbrev F57 : FnA := ⟨11, c57, []⟩
theorem ok57 : cFn Try.prog 57 = some F57 := by kernel_rfl
theorem hb57 : HasBody Try.prog 57 := ⟨_, Try.func57, by kernel_rfl, by kernel_rfl⟩
/-! codes.Writer.Words -/
abbrev c58_r1 : List Ins := [
  ⟨some 4, none, .mov (.t 0)⟩,
  ⟨some 5, none, .mov (.t 1)⟩,
  ⟨some 6, none, .len (.t 5)⟩,
  ⟨some 7, none, .call (.c (.fn 56 [] [])) [.t 4, .t 6]⟩]
abbrev c58_r2 : List Ins := [
  ⟨some 8, none, .mov (.t 0)⟩,
  ⟨some 9, none, .mov (.t 1)⟩,
  ⟨some 10, none, .call (.c (.fn 101 [] [])) [.t 8, .t 9]⟩]
abbrev c58 : IR := .seq (.reg c58_r1) (.reg c58_r2)
abbrev F58 : FnA := ⟨11, c58, []⟩
theorem ok58 : cFn Try.prog 58 = some F58 := by kernel_rfl
theorem hb58 : HasBody Try.prog 58 := ⟨_, Try.func58, by kernel_rfl, by kernel_rfl⟩
/-! ref01.Signed -/
abbrev c59_r1 : List Ins := [
  ⟨some 2, none, .mov (.c (.int .u64 0))⟩]
abbrev c59_r2 : List Ins := [
  ⟨some 3, none, .mov (.t 0)⟩,
  ⟨some 4, none, .bin .geq (.t 3) (.c (.int .i64 0))⟩]
abbrev c59_r3 : List Ins := [
  ⟨some 5, none, .mov (.t 0)⟩,
  ⟨some 6, none, .conv .u64 (.t 5)⟩,
  ⟨some 7, none, .bin .mul (.c (.int .u64 2)) (.t 6)⟩,
  ⟨some 2, none, .mov (.t 7)⟩]
abbrev c59_r4 : List Ins := [
  ⟨some 8, none, .mov (.t 0)⟩,
  ⟨some 9, none, .bin .add (.t 8) (.c (.int .i64 1))⟩,
  ⟨some 10, none, .un .neg (.t 9)⟩,
  ⟨some 11, none, .conv .u64 (.t 10)⟩,
  ⟨some 12, none, .bin .mul (.c (.int .u64 2)) (.t 11)⟩,
  ⟨some 13, none, .bin .add (.t 12) (.c (.int .u64 1))⟩,
  ⟨some 2, none, .mov (.t 13)⟩]
abbrev c59 : IR := .seq (.reg c59_r1) (.seq (.seq (.reg c59_r2) (.cond (.t 4) (.seq (.reg c59_r3) (.ret)) (.skip))) (.seq (.reg c59_r4) (.ret)))
abbrev F59 : FnA := ⟨14, c59, [.t 2]⟩
theorem ok59 : cFn Try.prog 59 = some F59 := by kernel_rfl
theorem hb59 : HasBody Try.prog 59 := ⟨_, Try.func59, by kernel_rfl, by kernel_rfl⟩
/-! ref01.Packed -/
abbrev c60_r1 : List Ins := [
  ⟨some 2, none, .mov (.c (.sl .full []))⟩]
abbrev c60_r2 : List Ins := [
  ⟨some 3, none, .mov (.c (.sl .full []))⟩]
abbrev c60_r3 : List Ins := [
  ⟨some 4, none, .mov (.c (.int .i64 0))⟩]
abbrev c60_r4 : List Ins := [
  ⟨some 7, none, .mov (.t 4)⟩,
  ⟨some 8, none, .mov (.t 0)⟩,
  ⟨some 9, none, .lenS (.t 8)⟩,
  ⟨some 10, none, .bin .lss (.t 7) (.t 9)⟩]
abbrev c60_r5 : List Ins := [
  ⟨some 5, none, .mov (.c (.int .u64 0))⟩]
abbrev c60_r6 : List Ins := [
  ⟨some 6, none, .mov (.c (.int .i64 7))⟩]
abbrev c60_r7 : List Ins := [
  ⟨some 13, none, .mov (.t 6)⟩,
  ⟨some 14, none, .bin .geq (.t 13) (.c (.int .i64 0))⟩]
abbrev c60_r8 : List Ins := [
  ⟨some 17, none, .mov (.t 5)⟩,
  ⟨some 18, none, .bin .mul (.t 17) (.c (.int .u64 256))⟩,
  ⟨some 5, none, .mov (.t 18)⟩]
abbrev c60_r9 : List Ins := [
  ⟨some 19, none, .mov (.t 4)⟩,
  ⟨some 20, none, .mov (.t 6)⟩,
  ⟨some 21, none, .bin .add (.t 19) (.t 20)⟩,
  ⟨some 22, none, .mov (.t 0)⟩,
  ⟨some 23, none, .lenS (.t 22)⟩,
  ⟨some 24, none, .bin .lss (.t 21) (.t 23)⟩]
abbrev c60_r10 : List Ins := [
  ⟨some 25, none, .mov (.t 5)⟩,
  ⟨some 26, none, .mov (.t 0)⟩,
  ⟨some 27, none, .mov (.t 4)⟩,
  ⟨some 28, none, .mov (.t 6)⟩,
  ⟨some 29, none, .bin .add (.t 27) (.t 28)⟩,
  ⟨some 30, none, .idxS (.t 26) (.t 29)⟩,
  ⟨some 31, none, .conv .u64 (.t 30)⟩,
  ⟨some 32, none, .bin .add (.t 25) (.t 31)⟩,
  ⟨some 5, none, .mov (.t 32)⟩]
abbrev c60_r11 : List Ins := [
  ⟨some 15, none, .mov (.t 6)⟩,
  ⟨some 16, none, .bin .sub (.t 15) (.c (.int .i64 1))⟩,
  ⟨some 6, none, .mov (.t 16)⟩]
abbrev c60_l12 : IR := .seq (.seq (.reg c60_r7) (.cond (.t 14) (.skip) (.exit 2))) (.seq (.blk 3 (.seq (.reg c60_r8) (.seq (.reg c60_r9) (.cond (.t 24) (.reg c60_r10) (.skip))))) (.reg c60_r11))
abbrev c60_r13 : List Ins := [
  ⟨some 33, none, .mov (.t 3)⟩,
  ⟨some 34, none, .mov (.t 5)⟩,
  ⟨some 35, none, .bsl 1 1 [.int .u64 0] [(0, .t 34)]⟩,
  ⟨some 36, none, .append 1 8 (.t 33) (.t 35)⟩,
  ⟨some 3, none, .mov (.t 36)⟩]
abbrev c60_r14 : List Ins := [
  ⟨some 11, none, .mov (.t 4)⟩,
  ⟨some 12, none, .bin .add (.t 11) (.c (.int .i64 8))⟩,
  ⟨some 4, none, .mov (.t 12)⟩]
abbrev c60_l15 : IR := .seq (.seq (.reg c60_r4) (.cond (.t 10) (.skip) (.exit 0))) (.seq (.blk 1 (.seq (.reg c60_r5) (.seq (.seq (.reg c60_r6) (.blk 2 (.loop c60_l12))) (.reg c60_r13)))) (.reg c60_r14))
abbrev c60_r16 : List Ins := [
  ⟨some 37, none, .mov (.t 3)⟩,
  ⟨some 2, none, .mov (.t 37)⟩]
abbrev c60 : IR := .seq (.reg c60_r1) (.seq (.reg c60_r2) (.seq (.seq (.reg c60_r3) (.blk 0 (.loop c60_l15))) (.seq (.reg c60_r16) (.ret))))
abbrev F60 : FnA := ⟨38, c60, [.t 2]⟩
theorem ok60 : cFn Try.prog 60 = some F60 := by kernel_rfl
theorem hb60 : HasBody Try.prog 60 := ⟨_, Try.func60, by kernel_rfl, by kernel_rfl⟩
/-! slices.Clone:uint64 -/
abbrev c61_r1 : List Ins := [
  ⟨some 2, none, .mov (.c (.sl .full []))⟩]
abbrev c61_r2 : List Ins := [
  ⟨some 3, none, .mov (.t 0)⟩,
  ⟨some 4, none, .isnil false (.t 3)⟩]
abbrev c61_r3 : List Ins := [
  ⟨some 2, none, .mov (.c (.sl .full []))⟩]
abbrev c61_r4 : List Ins := [
  ⟨some 5, none, .bsl 1 0 [.int .u64 0] []⟩,
  ⟨some 6, none, .mov (.t 0)⟩,
  ⟨some 7, none, .append 1 8 (.t 5) (.t 6)⟩,
  ⟨some 2, none, .mov (.t 7)⟩]
abbrev c61 : IR := .seq (.reg c61_r1) (.seq (.seq (.reg c61_r2) (.cond (.t 4) (.seq (.reg c61_r3) (.ret)) (.skip))) (.seq (.reg c61_r4) (.ret)))
abbrev F61 : FnA := ⟨8, c61, [.t 2]⟩
theorem ok61 : cFn Try.prog 61 = some F61 := by kernel_rfl
theorem hb61 : HasBody Try.prog 61 := ⟨_, Try.func61, by kernel_rfl, by kernel_rfl⟩
/-! ref01.Back -/
abbrev c67_r1 : List Ins := [
  ⟨some 2, none, .mov (.c (.int .i64 0))⟩]
abbrev c67_r2 : List Ins := [
  ⟨some 3, none, .mov (.t 0)⟩,
  ⟨some 4, none, .bin .rem (.t 3) (.c (.int .u64 2))⟩,
  ⟨some 5, none, .bin .eql (.t 4) (.c (.int .u64 0))⟩]
abbrev c67_r3 : List Ins := [
  ⟨some 6, none, .mov (.t 0)⟩,
  ⟨some 7, none, .bin .quo (.t 6) (.c (.int .u64 2))⟩,
  ⟨some 8, none, .conv .i64 (.t 7)⟩,
  ⟨some 2, none, .mov (.t 8)⟩]
abbrev c67_r4 : List Ins := [
  ⟨some 9, none, .mov (.t 0)⟩,
  ⟨some 10, none, .bin .quo (.t 9) (.c (.int .u64 2))⟩,
  ⟨some 11, none, .conv .i64 (.t 10)⟩,
  ⟨some 12, none, .un .neg (.t 11)⟩,
  ⟨some 13, none, .bin .sub (.t 12) (.c (.int .i64 1))⟩,
  ⟨some 2, none, .mov (.t 13)⟩]
abbrev c67 : IR := .seq (.reg c67_r1) (.seq (.seq (.reg c67_r2) (.cond (.t 5) (.seq (.reg c67_r3) (.ret)) (.skip))) (.seq (.reg c67_r4) (.ret)))
abbrev F67 : FnA := ⟨14, c67, [.t 2]⟩
theorem ok67 : cFn Try.prog 67 = some F67 := by kernel_rfl
theorem hb67 : HasBody Try.prog 67 := ⟨_, Try.func67, by kernel_rfl, by kernel_rfl⟩
/-! codes.Reader.Count -/
abbrev c68_r1 : List Ins := [
  ⟨some 3, none, .box (.t 1)⟩,
  ⟨some 4, none, .mov (.c (.int .i64 0))⟩]
abbrev c68_r2 : List Ins := [
  ⟨some 5, none, .mov (.t 0)⟩,
  ⟨some 6, none, .mkfn 106 [] [.t 3]⟩,
  ⟨some 7, none, .call (.c (.fn 105 [] [])) [.t 5, .t 6]⟩,
  ⟨some 8, none, .conv .i64 (.t 7)⟩,
  ⟨some 4, none, .mov (.t 8)⟩]
abbrev c68 : IR := .seq (.reg c68_r1) (.seq (.reg c68_r2) (.ret))
abbrev F68 : FnA := ⟨9, c68, [.t 4]⟩
theorem ok68 : cFn Try.prog 68 = some F68 := by kernel_rfl
theorem hb68 : HasBody Try.prog 68 := ⟨_, Try.func68, by kernel_rfl, by kernel_rfl⟩
/-! codes.Reader.Signed -/
abbrev c69_r1 : List Ins := [
  ⟨some 2, none, .mov (.c (.int .i64 0))⟩]
abbrev c69_r2 : List Ins := [
  ⟨some 4, none, .mov (.t 0)⟩,
  ⟨some 5, none, .call (.c (.fn 105 [] [])) [.t 4, .c (.fn 107 [] [])]⟩,
  ⟨some 3, none, .mov (.t 5)⟩]
abbrev c69_r3 : List Ins := [
  ⟨some 6, none, .mov (.t 3)⟩,
  ⟨some 7, none, .bin .shr (.t 6) (.c (.int .u64 1))⟩,
  ⟨some 8, none, .conv .i64 (.t 7)⟩,
  ⟨some 9, none, .mov (.t 3)⟩,
  ⟨some 10, none, .bin .and (.t 9) (.c (.int .u64 1))⟩,
  ⟨some 11, none, .conv .i64 (.t 10)⟩,
  ⟨some 12, none, .un .neg (.t 11)⟩,
  ⟨some 13, none, .bin .xor (.t 8) (.t 12)⟩,
  ⟨some 2, none, .mov (.t 13)⟩]
abbrev c69 : IR := .seq (.reg c69_r1) (.seq (.reg c69_r2) (.seq (.reg c69_r3) (.ret)))
abbrev F69 : FnA := ⟨14, c69, [.t 2]⟩
theorem ok69 : cFn Try.prog 69 = some F69 := by kernel_rfl
theorem hb69 : HasBody Try.prog 69 := ⟨_, Try.func69, by kernel_rfl, by kernel_rfl⟩
/-! codes.Reader.Flag -/
abbrev c70_r1 : List Ins := [
  ⟨some 2, none, .mov (.c (.bool false))⟩]
abbrev c70_r2 : List Ins := [
  ⟨some 3, none, .mov (.t 0)⟩,
  ⟨some 4, none, .call (.c (.fn 68 [] [])) [.t 3, .c (.int .i64 1)]⟩,
  ⟨some 5, none, .bin .eql (.t 4) (.c (.int .i64 1))⟩,
  ⟨some 2, none, .mov (.t 5)⟩]
abbrev c70 : IR := .seq (.reg c70_r1) (.seq (.reg c70_r2) (.ret))
abbrev F70 : FnA := ⟨6, c70, [.t 2]⟩
theorem ok70 : cFn Try.prog 70 = some F70 := by kernel_rfl
theorem hb70 : HasBody Try.prog 70 := ⟨_, Try.func70, by kernel_rfl, by kernel_rfl⟩
/-! codes.Reader.Text -/
abbrev c71_r1 : List Ins := [
  ⟨some 2, none, .mov (.c (.str ⟨#[]⟩))⟩]
abbrev c71_r2 : List Ins := [
  ⟨some 7, none, .mov (.t 0)⟩,
  ⟨some 8, none, .call (.c (.fn 68 [] [])) [.t 7, .c (.int .i64 64)]⟩,
  ⟨some 3, none, .mov (.t 8)⟩]
abbrev c71_r3 : List Ins := [
  ⟨some 9, none, .mov (.t 0)⟩,
  ⟨some 10, none, .mov (.t 3)⟩,
  ⟨some 11, none, .bin .add (.t 10) (.c (.int .i64 8))⟩,
  ⟨some 12, none, .bin .sub (.t 11) (.c (.int .i64 1))⟩,
  ⟨some 13, none, .bin .quo (.t 12) (.c (.int .i64 8))⟩,
  ⟨some 14, none, .call (.c (.fn 108 [] [])) [.t 9, .t 13]⟩,
  ⟨some 4, none, .mov (.t 14)⟩]
abbrev c71_r4 : List Ins := [
  ⟨some 15, none, .mov (.t 0)⟩,
  ⟨some 16, none, .nilck (.t 15)⟩,
  ⟨some 17, none, .faddr 1 (.t 16)⟩,
  ⟨some 18, none, .load 1 false (.t 17)⟩]
abbrev c71_r5 : List Ins := [
  ⟨some 2, none, .mov (.c (.str ⟨#[]⟩))⟩]
abbrev c71_r6 : List Ins := [
  ⟨some 5, none, .mov (.c (.sl .full []))⟩]
abbrev c71_r7 : List Ins := [
  ⟨some 19, none, .mov (.t 3)⟩,
  ⟨some 20, none, .mov (.c (.int .i64 0))⟩]
abbrev c71_r8 : List Ins := [
  ⟨some 21, none, .bin .lss (.t 20) (.t 19)⟩]
abbrev c71_r9 : List Ins := [
  ⟨some 22, none, .mov (.t 20)⟩,
  ⟨some 6, none, .mov (.t 22)⟩]
abbrev c71_r10 : List Ins := [
  ⟨some 23, none, .mov (.t 5)⟩,
  ⟨some 24, none, .mov (.t 4)⟩,
  ⟨some 25, none, .mov (.t 6)⟩,
  ⟨some 26, none, .bin .quo (.t 25) (.c (.int .i64 8))⟩,
  ⟨some 27, none, .iaddr 1 (.t 24) (.t 26)⟩,
  ⟨some 28, none, .load 1 false (.t 27)⟩,
  ⟨some 29, none, .mov (.t 6)⟩,
  ⟨some 30, none, .bin .rem (.t 29) (.c (.int .i64 8))⟩,
  ⟨some 31, none, .bin .mul (.c (.int .i64 8)) (.t 30)⟩,
  ⟨some 32, none, .bin .shr (.t 28) (.t 31)⟩,
  ⟨some 33, none, .conv .u8 (.t 32)⟩,
  ⟨some 34, none, .bsl 1 1 [.int .u8 0] [(0, .t 33)]⟩,
  ⟨some 35, none, .append 1 1 (.t 23) (.t 34)⟩,
  ⟨some 5, none, .mov (.t 35)⟩]
abbrev c71_r11 : List Ins := [
  ⟨some 36, none, .bin .add (.t 20) (.c (.int .i64 1))⟩,
  ⟨some 20, none, .mov (.t 36)⟩]
abbrev c71_l12 : IR := .seq (.reg c71_r8) (.seq (.cond (.t 21) (.skip) (.exit 0)) (.seq (.blk 1 (.seq (.reg c71_r9) (.reg c71_r10))) (.reg c71_r11)))
abbrev c71_r13 : List Ins := [
  ⟨some 37, none, .mov (.t 5)⟩,
  ⟨some 38, none, .b2s (.t 37)⟩,
  ⟨some 39, none, .call (.c (.fn 102 [] [])) [.t 38]⟩,
  ⟨some 40, none, .mov (.t 4)⟩,
  ⟨some 41, none, .call (.c (.fn 109 [] [])) [.t 39, .t 40]⟩,
  ⟨some 42, none, .un .not (.t 41)⟩]
abbrev c71_r14 : List Ins := [
  ⟨some 43, none, .mov (.t 0)⟩,
  ⟨some 44, none, .nilck (.t 43)⟩,
  ⟨some 45, none, .faddr 1 (.t 44)⟩,
  ⟨none, none, .store 1 (.t 45) (.c (.bool true))⟩]
abbrev c71_r15 : List Ins := [
  ⟨some 2, none, .mov (.c (.str ⟨#[]⟩))⟩]
abbrev c71_r16 : List Ins := [
  ⟨some 46, none, .mov (.t 5)⟩,
  ⟨some 47, none, .b2s (.t 46)⟩,
  ⟨some 2, none, .mov (.t 47)⟩]
abbrev c71 : IR := .seq (.reg c71_r1) (.seq (.reg c71_r2) (.seq (.reg c71_r3) (.seq (.seq (.reg c71_r4) (.cond (.t 18) (.seq (.reg c71_r5) (.ret)) (.skip))) (.seq (.reg c71_r6) (.seq (.seq (.reg c71_r7) (.blk 0 (.loop c71_l12))) (.seq (.seq (.reg c71_r13) (.cond (.t 42) (.seq (.reg c71_r14) (.seq (.reg c71_r15) (.ret))) (.skip))) (.seq (.reg c71_r16) (.ret))))))))
abbrev F71 : FnA := ⟨48, c71, [.t 2]⟩
theorem ok71 : cFn Try.prog 71 = some F71 := by kernel_rfl
theorem hb71 : HasBody Try.prog 71 := ⟨_, Try.func71, by kernel_rfl, by kernel_rfl⟩
/-! codes.Reader.Words -/
abbrev c72_r1 : List Ins := [
  ⟨some 4, none, .mov (.c (.sl .full []))⟩]
abbrev c72_r2 : List Ins := [
  ⟨some 5, none, .mov (.t 0)⟩,
  ⟨some 6, none, .mov (.t 0)⟩,
  ⟨some 7, none, .mov (.t 1)⟩,
  ⟨some 8, none, .call (.c (.fn 68 [] [])) [.t 6, .t 7]⟩,
  ⟨some 9, none, .call (.c (.fn 108 [] [])) [.t 5, .t 8]⟩,
  ⟨some 4, none, .mov (.t 9)⟩]
abbrev c72 : IR := .seq (.reg c72_r1) (.seq (.reg c72_r2) (.ret))
abbrev F72 : FnA := ⟨10, c72, [.t 4]⟩
theorem ok72 : cFn Try.prog 72 = some F72 := by kernel_rfl
theorem hb72 : HasBody Try.prog 72 := ⟨_, Try.func72, by kernel_rfl, by kernel_rfl⟩
/-! codes.Writer.put -/
abbrev c101_r1 : List Ins := [
  ⟨some 4, none, .mov (.t 0)⟩,
  ⟨some 5, none, .mov (.t 0)⟩,
  ⟨some 6, none, .nilck (.t 5)⟩,
  ⟨some 7, none, .faddr 0 (.t 6)⟩,
  ⟨some 8, none, .load 1 false (.t 7)⟩,
  ⟨some 9, none, .mov (.t 1)⟩,
  ⟨some 10, none, .append 1 8 (.t 8) (.t 9)⟩,
  ⟨some 11, none, .nilck (.t 4)⟩,
  ⟨some 12, none, .faddr 0 (.t 11)⟩,
  ⟨none, none, .store 1 (.t 12) (.t 10)⟩]
abbrev c101 : IR := .reg c101_r1
abbrev F101 : FnA := ⟨13, c101, []⟩
theorem ok101 : cFn Try.prog 101 = some F101 := by kernel_rfl
theorem hb101 : HasBody Try.prog 101 := ⟨_, Try.func101, by kernel_rfl, by kernel_rfl⟩
/-! codes.packed -/
abbrev c102_r1 : List Ins := [
  ⟨some 2, none, .mov (.c (.sl .full []))⟩]
abbrev c102_r2 : List Ins := [
  ⟨some 5, none, .mov (.t 0)⟩,
  ⟨some 6, none, .lenS (.t 5)⟩,
  ⟨some 7, none, .bin .add (.t 6) (.c (.int .i64 8))⟩,
  ⟨some 8, none, .bin .sub (.t 7) (.c (.int .i64 1))⟩,
  ⟨some 9, none, .bin .quo (.t 8) (.c (.int .i64 8))⟩,
  ⟨some 10, none, .mksl 1 8 [.int .u64 0] (.t 9) (.t 9)⟩,
  ⟨some 3, none, .mov (.t 10)⟩]
abbrev c102_r3 : List Ins := [
  ⟨some 11, none, .mov (.t 0)⟩,
  ⟨some 12, none, .lenS (.t 11)⟩,
  ⟨some 13, none, .mov (.c (.int .i64 0))⟩]
abbrev c102_r4 : List Ins := [
  ⟨some 14, none, .bin .lss (.t 13) (.t 12)⟩]
abbrev c102_r5 : List Ins := [
  ⟨some 15, none, .mov (.t 13)⟩,
  ⟨some 4, none, .mov (.t 15)⟩]
abbrev c102_r6 : List Ins := [
  ⟨some 16, none, .mov (.t 3)⟩,
  ⟨some 17, none, .mov (.t 4)⟩,
  ⟨some 18, none, .bin .quo (.t 17) (.c (.int .i64 8))⟩,
  ⟨some 19, none, .iaddr 1 (.t 16) (.t 18)⟩,
  ⟨some 20, none, .load 1 false (.t 19)⟩,
  ⟨some 21, none, .mov (.t 0)⟩,
  ⟨some 22, none, .mov (.t 4)⟩,
  ⟨some 23, none, .idxS (.t 21) (.t 22)⟩,
  ⟨some 24, none, .conv .u64 (.t 23)⟩,
  ⟨some 25, none, .mov (.t 4)⟩,
  ⟨some 26, none, .bin .rem (.t 25) (.c (.int .i64 8))⟩,
  ⟨some 27, none, .bin .mul (.c (.int .i64 8)) (.t 26)⟩,
  ⟨some 28, none, .bin .shl (.t 24) (.t 27)⟩,
  ⟨some 29, none, .bin .or (.t 20) (.t 28)⟩,
  ⟨some 30, none, .iaddr 1 (.t 16) (.t 18)⟩,
  ⟨none, none, .store 1 (.t 30) (.t 29)⟩]
def c102_a6 : List (List Nat) := [[], [], [1], [0, 2], [3], [], [], [5, 6], [7], [], [9], [10], [8, 11], [4, 12], [0, 2, 0, 1, 2, 3, 4, 5, 6, 7, 8, 9, 10, 11, 12, 13], [14, 13, 0, 1, 2, 3, 4, 5, 6, 7, 8, 9, 10, 11, 12, 13]]
abbrev c102_m6 : List Am.Mark := [⟨false, 0, 0⟩, ⟨false, 0, 0⟩, ⟨false, 0, 0⟩, ⟨false, 0, 0⟩, ⟨false, 0, 0⟩, ⟨false, 0, 0⟩, ⟨false, 0, 0⟩, ⟨false, 0, 0⟩, ⟨false, 0, 0⟩, ⟨false, 0, 0⟩, ⟨false, 0, 0⟩, ⟨false, 0, 0⟩, ⟨false, 0, 0⟩, ⟨false, 0, 0⟩, ⟨false, 0, 0⟩, ⟨true, 0, 1⟩]
theorem c102_d6 : drawFine c102_r6 c102_a6 c102_m6 = true := by decide +kernel
abbrev c102_r7 : List Ins := [
  ⟨some 31, none, .bin .add (.t 13) (.c (.int .i64 1))⟩,
  ⟨some 13, none, .mov (.t 31)⟩]
abbrev c102_l8 : IR := .seq (.reg c102_r4) (.seq (.cond (.t 14) (.skip) (.exit 0)) (.seq (.blk 1 (.seq (.reg c102_r5) (.dreg c102_r6 c102_a6))) (.reg c102_r7)))
abbrev c102_r9 : List Ins := [
  ⟨some 32, none, .mov (.t 3)⟩,
  ⟨some 2, none, .mov (.t 32)⟩]
abbrev c102 : IR := .seq (.reg c102_r1) (.seq (.reg c102_r2) (.seq (.seq (.reg c102_r3) (.blk 0 (.loop c102_l8))) (.seq (.reg c102_r9) (.ret))))
abbrev F102 : FnA := ⟨33, c102, [.t 2]⟩
theorem ok102 : cFn Try.prog 102 = some F102 := by kernel_rfl
theorem hb102 : HasBody Try.prog 102 := ⟨_, Try.func102, by kernel_rfl, by kernel_rfl⟩
/-! codes.Reader.next -/
abbrev c105_r1 : List Ins := [
  ⟨some 4, none, .mov (.c (.int .u64 0))⟩]
abbrev c105_r2 : List Ins := [
  ⟨some 6, none, .mov (.t 0)⟩,
  ⟨some 7, none, .nilck (.t 6)⟩,
  ⟨some 8, none, .faddr 1 (.t 7)⟩,
  ⟨some 9, none, .load 1 false (.t 8)⟩,
  ⟨some 10, none, .mov (.t 9)⟩,
  ⟨some 11, some (10, false), .mov (.t 0)⟩,
  ⟨some 12, some (10, false), .nilck (.t 11)⟩,
  ⟨some 13, some (10, false), .faddr 0 (.t 12)⟩,
  ⟨some 14, some (10, false), .load 1 false (.t 13)⟩,
  ⟨some 15, some (10, false), .len (.t 14)⟩,
  ⟨some 16, some (10, false), .bin .eql (.t 15) (.c (.int .i64 0))⟩,
  ⟨some 17, none, .pick (.t 10) (.c (.bool true)) (.t 16)⟩,
  ⟨some 18, none, .mov (.t 17)⟩,
  ⟨some 19, some (18, false), .mov (.t 1)⟩,
  ⟨some 20, some (18, false), .mov (.t 0)⟩,
  ⟨some 21, some (18, false), .nilck (.t 20)⟩,
  ⟨some 22, some (18, false), .faddr 0 (.t 21)⟩,
  ⟨some 23, some (18, false), .load 1 false (.t 22)⟩,
  ⟨some 24, some (18, false), .iaddr 1 (.t 23) (.c (.int .i64 0))⟩,
  ⟨some 25, some (18, false), .load 1 false (.t 24)⟩,
  ⟨some 26, some (18, false), .call (.t 19) [.t 25]⟩,
  ⟨some 27, some (18, false), .un .not (.t 26)⟩,
  ⟨some 28, none, .pick (.t 18) (.c (.bool true)) (.t 27)⟩]
abbrev c105_r3 : List Ins := [
  ⟨some 29, none, .mov (.t 0)⟩,
  ⟨some 30, none, .nilck (.t 29)⟩,
  ⟨some 31, none, .faddr 1 (.t 30)⟩,
  ⟨none, none, .store 1 (.t 31) (.c (.bool true))⟩]
abbrev c105_r4 : List Ins := [
  ⟨some 4, none, .mov (.c (.int .u64 0))⟩]
abbrev c105_r5 : List Ins := [
  ⟨some 32, none, .mov (.t 0)⟩,
  ⟨some 33, none, .nilck (.t 32)⟩,
  ⟨some 34, none, .faddr 0 (.t 33)⟩,
  ⟨some 35, none, .load 1 false (.t 34)⟩,
  ⟨some 36, none, .iaddr 1 (.t 35) (.c (.int .i64 0))⟩,
  ⟨some 37, none, .load 1 false (.t 36)⟩,
  ⟨some 5, none, .mov (.t 37)⟩]
abbrev c105_r6 : List Ins := [
  ⟨some 38, none, .mov (.t 0)⟩,
  ⟨some 39, none, .mov (.t 0)⟩,
  ⟨some 40, none, .nilck (.t 39)⟩,
  ⟨some 41, none, .faddr 0 (.t 40)⟩,
  ⟨some 42, none, .load 1 false (.t 41)⟩,
  ⟨some 43, none, .slice 1 (.t 42) (some (.c (.int .i64 1))) none none⟩,
  ⟨some 44, none, .nilck (.t 38)⟩,
  ⟨some 45, none, .faddr 0 (.t 44)⟩,
  ⟨none, none, .store 1 (.t 45) (.t 43)⟩]
abbrev c105_r7 : List Ins := [
  ⟨some 46, none, .mov (.t 5)⟩,
  ⟨some 4, none, .mov (.t 46)⟩]
abbrev c105 : IR := .seq (.reg c105_r1) (.seq (.seq (.reg c105_r2) (.cond (.t 28) (.seq (.reg c105_r3) (.seq (.reg c105_r4) (.ret))) (.skip))) (.seq (.reg c105_r5) (.seq (.reg c105_r6) (.seq (.reg c105_r7) (.ret)))))
abbrev F105 : FnA := ⟨47, c105, [.t 4]⟩
theorem ok105 : cFn Try.prog 105 = some F105 := by kernel_rfl
theorem hb105 : HasBody Try.prog 105 := ⟨_, Try.func105, by kernel_rfl, by kernel_rfl⟩
/-! codes.Reader.Count$1 -/
abbrev c106_r1 : List Ins := [
  ⟨some 3, none, .mov (.c (.bool false))⟩]
abbrev c106_r2 : List Ins := [
  ⟨some 4, none, .load 1 false (.t 1)⟩,
  ⟨some 5, none, .bin .geq (.t 4) (.c (.int .i64 0))⟩,
  ⟨some 6, none, .mov (.t 5)⟩,
  ⟨some 7, some (6, true), .mov (.t 0)⟩,
  ⟨some 8, some (6, true), .load 1 false (.t 1)⟩,
  ⟨some 9, some (6, true), .conv .u64 (.t 8)⟩,
  ⟨some 10, some (6, true), .bin .leq (.t 7) (.t 9)⟩,
  ⟨some 11, none, .pick (.t 6) (.t 10) (.c (.bool false))⟩,
  ⟨some 3, none, .mov (.t 11)⟩]
abbrev c106 : IR := .seq (.reg c106_r1) (.seq (.reg c106_r2) (.ret))
abbrev F106 : FnA := ⟨12, c106, [.t 3]⟩
theorem ok106 : cFn Try.prog 106 = some F106 := by kernel_rfl
theorem hb106 : HasBody Try.prog 106 := ⟨_, Try.func106, by kernel_rfl, by kernel_rfl⟩
/-! codes.Reader.Signed$1 -/
abbrev c107_r1 : List Ins := [
  ⟨some 2, none, .mov (.c (.bool false))⟩]
abbrev c107_r2 : List Ins := [
  ⟨some 2, none, .mov (.c (.bool true))⟩]
abbrev c107 : IR := .seq (.reg c107_r1) (.seq (.reg c107_r2) (.ret))
abbrev F107 : FnA := ⟨3, c107, [.t 2]⟩
theorem ok107 : cFn Try.prog 107 = some F107 := by kernel_rfl
theorem hb107 : HasBody Try.prog 107 := ⟨_, Try.func107, by kernel_rfl, by kernel_rfl⟩
/-! codes.Reader.take -/
abbrev c108_r1 : List Ins := [
  ⟨some 4, none, .mov (.c (.sl .full []))⟩]
abbrev c108_r2 : List Ins := [
  ⟨some 6, none, .mov (.t 0)⟩,
  ⟨some 7, none, .nilck (.t 6)⟩,
  ⟨some 8, none, .faddr 1 (.t 7)⟩,
  ⟨some 9, none, .load 1 false (.t 8)⟩,
  ⟨some 10, none, .mov (.t 9)⟩,
  ⟨some 11, some (10, false), .mov (.t 1)⟩,
  ⟨some 12, some (10, false), .mov (.t 0)⟩,
  ⟨some 13, some (10, false), .nilck (.t 12)⟩,
  ⟨some 14, some (10, false), .faddr 0 (.t 13)⟩,
  ⟨some 15, some (10, false), .load 1 false (.t 14)⟩,
  ⟨some 16, some (10, false), .len (.t 15)⟩,
  ⟨some 17, some (10, false), .bin .gtr (.t 11) (.t 16)⟩,
  ⟨some 18, none, .pick (.t 10) (.c (.bool true)) (.t 17)⟩]
abbrev c108_r3 : List Ins := [
  ⟨some 19, none, .mov (.t 0)⟩,
  ⟨some 20, none, .nilck (.t 19)⟩,
  ⟨some 21, none, .faddr 1 (.t 20)⟩,
  ⟨none, none, .store 1 (.t 21) (.c (.bool true))⟩]
abbrev c108_r4 : List Ins := [
  ⟨some 4, none, .mov (.c (.sl .full []))⟩]
abbrev c108_r5 : List Ins := [
  ⟨some 22, none, .mov (.t 0)⟩,
  ⟨some 23, none, .nilck (.t 22)⟩,
  ⟨some 24, none, .faddr 0 (.t 23)⟩,
  ⟨some 25, none, .load 1 false (.t 24)⟩,
  ⟨some 26, none, .mov (.t 1)⟩,
  ⟨some 27, none, .slice 1 (.t 25) none (some (.t 26)) none⟩,
  ⟨some 28, none, .call (.c (.fn 61 [] [])) [.t 27]⟩,
  ⟨some 5, none, .mov (.t 28)⟩]
abbrev c108_r6 : List Ins := [
  ⟨some 29, none, .mov (.t 0)⟩,
  ⟨some 30, none, .mov (.t 0)⟩,
  ⟨some 31, none, .nilck (.t 30)⟩,
  ⟨some 32, none, .faddr 0 (.t 31)⟩,
  ⟨some 33, none, .load 1 false (.t 32)⟩,
  ⟨some 34, none, .mov (.t 1)⟩,
  ⟨some 35, none, .slice 1 (.t 33) (some (.t 34)) none none⟩,
  ⟨some 36, none, .nilck (.t 29)⟩,
  ⟨some 37, none, .faddr 0 (.t 36)⟩,
  ⟨none, none, .store 1 (.t 37) (.t 35)⟩]
abbrev c108_r7 : List Ins := [
  ⟨some 38, none, .mov (.t 5)⟩,
  ⟨some 4, none, .mov (.t 38)⟩]
abbrev c108 : IR := .seq (.reg c108_r1) (.seq (.seq (.reg c108_r2) (.cond (.t 18) (.seq (.reg c108_r3) (.seq (.reg c108_r4) (.ret))) (.skip))) (.seq (.reg c108_r5) (.seq (.reg c108_r6) (.seq (.reg c108_r7) (.ret)))))
abbrev F108 : FnA := ⟨39, c108, [.t 4]⟩
theorem ok108 : cFn Try.prog 108 = some F108 := by kernel_rfl
theorem hb108 : HasBody Try.prog 108 := ⟨_, Try.func108, by kernel_rfl, by kernel_rfl⟩
/-! slices.Equal:uint64 -/
abbrev c109_r1 : List Ins := [
  ⟨some 4, none, .mov (.c (.bool false))⟩]
abbrev c109_r2 : List Ins := [
  ⟨some 6, none, .mov (.t 0)⟩,
  ⟨some 7, none, .len (.t 6)⟩,
  ⟨some 8, none, .mov (.t 1)⟩,
  ⟨some 9, none, .len (.t 8)⟩,
  ⟨some 10, none, .bin .neq (.t 7) (.t 9)⟩]
abbrev c109_r3 : List Ins := [
  ⟨some 4, none, .mov (.c (.bool false))⟩]
abbrev c109_r4 : List Ins := [
  ⟨some 11, none, .mov (.t 0)⟩,
  ⟨some 12, none, .len (.t 11)⟩,
  ⟨some 13, none, .mov (.c (.int .i64 0))⟩]
abbrev c109_r5 : List Ins := [
  ⟨some 14, none, .bin .lss (.t 13) (.t 12)⟩]
abbrev c109_r6 : List Ins := [
  ⟨some 15, none, .mov (.t 13)⟩,
  ⟨some 5, none, .mov (.t 15)⟩]
abbrev c109_r7 : List Ins := [
  ⟨some 16, none, .mov (.t 0)⟩,
  ⟨some 17, none, .mov (.t 5)⟩,
  ⟨some 18, none, .iaddr 1 (.t 16) (.t 17)⟩,
  ⟨some 19, none, .load 1 false (.t 18)⟩,
  ⟨some 20, none, .mov (.t 1)⟩,
  ⟨some 21, none, .mov (.t 5)⟩,
  ⟨some 22, none, .iaddr 1 (.t 20) (.t 21)⟩,
  ⟨some 23, none, .load 1 false (.t 22)⟩,
  ⟨some 24, none, .bin .neq (.t 19) (.t 23)⟩]
def c109_a7 : List (List Nat) := [[], [], [0, 1], [2], [], [], [4, 5], [6], [3, 7]]
abbrev c109_m7 : List Am.Mark := [⟨false, 0, 0⟩, ⟨false, 0, 0⟩, ⟨false, 0, 0⟩, ⟨false, 0, 0⟩, ⟨false, 0, 0⟩, ⟨false, 0, 0⟩, ⟨false, 0, 0⟩, ⟨false, 0, 0⟩, ⟨false, 0, 0⟩]
theorem c109_d7 : drawFine c109_r7 c109_a7 c109_m7 = true := by decide +kernel
abbrev c109_r8 : List Ins := [
  ⟨some 4, none, .mov (.c (.bool false))⟩]
abbrev c109_r9 : List Ins := [
  ⟨some 25, none, .bin .add (.t 13) (.c (.int .i64 1))⟩,
  ⟨some 13, none, .mov (.t 25)⟩]
abbrev c109_l10 : IR := .seq (.reg c109_r5) (.seq (.cond (.t 14) (.skip) (.exit 0)) (.seq (.blk 1 (.seq (.reg c109_r6) (.seq (.dreg c109_r7 c109_a7) (.cond (.t 24) (.seq (.reg c109_r8) (.ret)) (.skip))))) (.reg c109_r9)))
abbrev c109_r11 : List Ins := [
  ⟨some 4, none, .mov (.c (.bool true))⟩]
abbrev c109 : IR := .seq (.reg c109_r1) (.seq (.seq (.reg c109_r2) (.cond (.t 10) (.seq (.reg c109_r3) (.ret)) (.skip))) (.seq (.seq (.reg c109_r4) (.blk 0 (.loop c109_l10))) (.seq (.reg c109_r11) (.ret))))
abbrev F109 : FnA := ⟨26, c109, [.t 4]⟩
theorem ok109 : cFn Try.prog 109 = some F109 := by kernel_rfl
theorem hb109 : HasBody Try.prog 109 := ⟨_, Try.func109, by kernel_rfl, by kernel_rfl⟩


end Go.Proofs
