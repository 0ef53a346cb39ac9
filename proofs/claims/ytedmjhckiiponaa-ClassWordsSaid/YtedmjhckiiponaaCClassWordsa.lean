/- The code of the functions that the statement reaches, as the abstract machine reads it. -/
import Derived.Test.YtedmjhckiiponaaK4
import Derived.Test.YtedmjhckiiponaaProg
namespace Go.Proofs
open Go Go.RowKit Go.Am

/-! law01.CodesWrite -/
abbrev c3_r1 : List Ins := [
  ⟨some 2, none, .mov (.c (.bool false))⟩]
abbrev c3_r2 : List Ins := [
  ⟨some 6, none, .call (.c (.fn 14 [] [])) []⟩,
  ⟨some 7, none, .un .not (.t 6)⟩]
abbrev c3_r3 : List Ins := [
  ⟨some 2, none, .mov (.c (.bool false))⟩]
abbrev c3_r4 : List Ins := [
  ⟨some 8, none, .mov (.t 0)⟩,
  ⟨some 9, none, .call (.c (.fn 15 [] [])) [.t 8]⟩]
abbrev c3_r5 : List Ins := [
  ⟨some 2, none, .mov (.c (.bool true))⟩]
abbrev c3_r6 : List Ins := [
  ⟨some 3, none, .alloc [.sl .full []]⟩]
abbrev c3_r7 : List Ins := [
  ⟨some 4, none, .mov (.c (.sl .full []))⟩]
abbrev c3_r8 : List Ins := [
  ⟨some 5, none, .mov (.c (.int .i64 0))⟩]
abbrev c3_r9 : List Ins := [
  ⟨some 10, none, .mov (.t 5)⟩,
  ⟨some 11, none, .mov (.t 0)⟩,
  ⟨some 12, none, .len (.t 11)⟩,
  ⟨some 13, none, .bin .lss (.t 10) (.t 12)⟩]
abbrev c3_r10 : List Ins := [
  ⟨some 16, none, .mov (.t 0)⟩,
  ⟨some 17, none, .mov (.t 5)⟩,
  ⟨some 18, none, .iaddr 6 (.t 16) (.t 17)⟩,
  ⟨some 19, none, .load 6 true (.t 18)⟩,
  ⟨some 20, none, .call (.c (.fn 16 [] [])) [.t 3, .t 19]⟩]
abbrev c3_r11 : List Ins := [
  ⟨some 21, none, .mov (.t 4)⟩,
  ⟨some 22, none, .mov (.t 0)⟩,
  ⟨some 23, none, .mov (.t 5)⟩,
  ⟨some 24, none, .iaddr 6 (.t 22) (.t 23)⟩,
  ⟨some 25, none, .load 6 true (.t 24)⟩,
  ⟨some 26, none, .call (.c (.fn 17 [] [])) [.t 21, .t 25]⟩,
  ⟨some 4, none, .mov (.t 26)⟩]
abbrev c3_r12 : List Ins := [
  ⟨some 14, none, .mov (.t 5)⟩,
  ⟨some 15, none, .bin .add (.t 14) (.c (.int .i64 1))⟩,
  ⟨some 5, none, .mov (.t 15)⟩]
abbrev c3_l13 : IR := .seq (.seq (.reg c3_r9) (.cond (.t 13) (.skip) (.exit 0))) (.seq (.blk 1 (.seq (.reg c3_r10) (.reg c3_r11))) (.reg c3_r12))
abbrev c3_r14 : List Ins := [
  ⟨some 27, none, .call (.c (.fn 19 [] [])) [.t 3]⟩,
  ⟨some 28, none, .mov (.t 4)⟩,
  ⟨some 29, none, .call (.c (.fn 18 [] [])) [.t 27, .t 28]⟩,
  ⟨some 2, none, .mov (.t 29)⟩]
abbrev c3 : IR := .seq (.reg c3_r1) (.seq (.seq (.reg c3_r2) (.cond (.t 7) (.seq (.reg c3_r3) (.ret)) (.skip))) (.seq (.seq (.reg c3_r4) (.cond (.t 9) (.seq (.reg c3_r5) (.ret)) (.skip))) (.seq (.reg c3_r6) (.seq (.reg c3_r7) (.seq (.seq (.reg c3_r8) (.blk 0 (.loop c3_l13))) (.seq (.reg c3_r14) (.ret)))))))
abbrev F3 : FnA := ⟨30, c3, [.t 2]⟩
theorem ok3 : cFn Try.prog 3 = some F3 := by kernel_rfl
theorem hb3 : HasBody Try.prog 3 := ⟨_, Try.func3, by kernel_rfl, by kernel_rfl⟩
/-! law01.CodesRead -/
abbrev c5_r1 : List Ins := [
  ⟨some 4, none, .mov (.c (.bool false))⟩]
abbrev c5_r2 : List Ins := [
  ⟨some 13, none, .call (.c (.fn 14 [] [])) []⟩,
  ⟨some 14, none, .un .not (.t 13)⟩]
abbrev c5_r3 : List Ins := [
  ⟨some 4, none, .mov (.c (.bool false))⟩]
abbrev c5_r4 : List Ins := [
  ⟨some 15, none, .mov (.t 1)⟩,
  ⟨some 16, none, .call (.c (.fn 15 [] [])) [.t 15]⟩,
  ⟨some 17, none, .mov (.t 16)⟩,
  ⟨some 18, some (17, false), .mov (.t 0)⟩,
  ⟨some 19, some (17, false), .len (.t 18)⟩,
  ⟨some 20, some (17, false), .bin .gtr (.t 19) (.c (.int .i64 300))⟩,
  ⟨some 21, none, .pick (.t 17) (.c (.bool true)) (.t 20)⟩]
abbrev c5_r5 : List Ins := [
  ⟨some 4, none, .mov (.c (.bool true))⟩]
abbrev c5_r6 : List Ins := [
  ⟨some 22, none, .mov (.t 0)⟩,
  ⟨some 23, none, .call (.c (.fn 25 [] [])) [.t 22]⟩,
  ⟨some 5, none, .mov (.t 23)⟩]
abbrev c5_r7 : List Ins := [
  ⟨some 24, none, .mov (.t 0)⟩,
  ⟨some 6, none, .mov (.t 24)⟩,
  ⟨some 7, none, .mov (.c (.bool true))⟩]
abbrev c5_r8 : List Ins := [
  ⟨some 8, none, .mov (.c (.int .i64 0))⟩]
abbrev c5_r9 : List Ins := [
  ⟨some 25, none, .mov (.t 8)⟩,
  ⟨some 26, none, .mov (.t 1)⟩,
  ⟨some 27, none, .len (.t 26)⟩,
  ⟨some 28, none, .bin .lss (.t 25) (.t 27)⟩]
abbrev c5_r10 : List Ins := [
  ⟨some 31, none, .mov (.t 1)⟩,
  ⟨some 32, none, .mov (.t 8)⟩,
  ⟨some 33, none, .iaddr 6 (.t 31) (.t 32)⟩,
  ⟨some 34, none, .faddr 0 (.t 33)⟩,
  ⟨some 35, none, .load 1 false (.t 34)⟩,
  ⟨some 36, none, .mov (.t 1)⟩,
  ⟨some 37, none, .mov (.t 8)⟩,
  ⟨some 38, none, .iaddr 6 (.t 36) (.t 37)⟩,
  ⟨some 39, none, .faddr 2 (.t 38)⟩,
  ⟨some 40, none, .load 1 false (.t 39)⟩,
  ⟨some 41, none, .build [.int .i64 0, .int .i64 0, .int .i64 0, .int .i64 0, .str ⟨#[]⟩, .sl .full []] [(0, (1, .t 35)), (2, (1, .t 40))]⟩,
  ⟨some 9, none, .alloc [.int .i64 0, .int .i64 0, .int .i64 0, .int .i64 0, .str ⟨#[]⟩, .sl .full []]⟩,
  ⟨none, none, .store 6 (.t 9) (.t 41)⟩]
def c5_a10 : List (List Nat) := [[], [], [0, 1], [2], [3], [], [], [5, 6], [7], [8], [4, 9], [], [11, 10, 0, 1, 2, 3, 4, 5, 6, 7, 8, 9, 10, 11]]
abbrev c5_m10 : List Am.Mark := [⟨false, 0, 1⟩, ⟨false, 0, 1⟩, ⟨false, 0, 1⟩, ⟨false, 0, 1⟩, ⟨false, 0, 1⟩, ⟨false, 0, 1⟩, ⟨false, 0, 1⟩, ⟨false, 0, 1⟩, ⟨false, 0, 1⟩, ⟨false, 0, 1⟩, ⟨false, 0, 1⟩, ⟨true, 0, 1⟩, ⟨true, 1, 2⟩]
theorem c5_d10 : drawFine c5_r10 c5_a10 c5_m10 = true := by decide +kernel
abbrev c5_r11 : List Ins := [
  ⟨some 42, none, .mov (.t 7)⟩]
abbrev c5_r12 : List Ins := [
  ⟨some 44, none, .mov (.t 6)⟩,
  ⟨some 45, none, .faddr 0 (.t 9)⟩,
  ⟨some 46, none, .load 1 false (.t 45)⟩,
  ⟨some 47, none, .faddr 2 (.t 9)⟩,
  ⟨some 48, none, .load 1 false (.t 47)⟩,
  ⟨some 49, none, .call (.c (.fn 26 [] [])) [.t 44, .t 46, .t 48]⟩,
  ⟨some 43, none, .mov (.t 49)⟩,
  ⟨some 50, none, .ext (.t 43) 0⟩,
  ⟨some 51, none, .ext (.t 43) 1⟩,
  ⟨some 52, none, .ext (.t 43) 2⟩,
  ⟨some 10, none, .alloc [.int .i64 0, .int .i64 0, .int .i64 0, .int .i64 0, .str ⟨#[]⟩, .sl .full []]⟩,
  ⟨none, none, .store 6 (.t 10) (.t 50)⟩,
  ⟨some 11, none, .mov (.t 51)⟩,
  ⟨some 12, none, .mov (.t 52)⟩]
abbrev c5_r13 : List Ins := [
  ⟨some 53, none, .mov (.t 12)⟩]
abbrev c5_r14 : List Ins := [
  ⟨some 54, none, .load 6 true (.t 10)⟩,
  ⟨none, none, .store 6 (.t 9) (.t 54)⟩]
abbrev c5_r15 : List Ins := [
  ⟨some 55, none, .mov (.t 11)⟩,
  ⟨some 6, none, .mov (.t 55)⟩]
abbrev c5_r16 : List Ins := [
  ⟨some 56, none, .mov (.t 12)⟩,
  ⟨some 7, none, .mov (.t 56)⟩]
abbrev c5_r17 : List Ins := [
  ⟨some 57, none, .mov (.t 5)⟩,
  ⟨some 58, none, .load 6 true (.t 9)⟩,
  ⟨some 59, none, .call (.c (.fn 27 [] [])) [.t 57, .t 58]⟩,
  ⟨some 60, none, .un .not (.t 59)⟩,
  ⟨some 61, none, .mov (.t 60)⟩,
  ⟨some 62, some (61, false), .mov (.t 5)⟩,
  ⟨some 63, some (61, false), .call (.c (.fn 28 [] [])) [.t 62]⟩,
  ⟨some 64, some (61, false), .mov (.t 7)⟩,
  ⟨some 65, some (61, false), .eq [.b] false true (.t 63) (.t 64)⟩,
  ⟨some 66, none, .pick (.t 61) (.c (.bool true)) (.t 65)⟩,
  ⟨some 67, none, .mov (.t 66)⟩,
  ⟨some 68, some (67, false), .mov (.t 5)⟩,
  ⟨some 69, some (67, false), .call (.c (.fn 29 [] [])) [.t 68]⟩,
  ⟨some 70, some (67, false), .mov (.t 7)⟩,
  ⟨some 71, some (67, false), .mov (.t 70)⟩,
  ⟨some 72, some (71, true), .mov (.t 6)⟩,
  ⟨some 73, some (71, true), .len (.t 72)⟩,
  ⟨some 74, some (71, true), .bin .eql (.t 73) (.c (.int .i64 0))⟩,
  ⟨some 75, some (67, false), .pick (.t 71) (.t 74) (.c (.bool false))⟩,
  ⟨some 76, some (67, false), .eq [.b] false true (.t 69) (.t 75)⟩,
  ⟨some 77, none, .pick (.t 67) (.c (.bool true)) (.t 76)⟩]
abbrev c5_r18 : List Ins := [
  ⟨some 4, none, .mov (.c (.bool false))⟩]
abbrev c5_r19 : List Ins := [
  ⟨some 29, none, .mov (.t 8)⟩,
  ⟨some 30, none, .bin .add (.t 29) (.c (.int .i64 1))⟩,
  ⟨some 8, none, .mov (.t 30)⟩]
abbrev c5_l20 : IR := .seq (.seq (.reg c5_r9) (.cond (.t 28) (.skip) (.exit 0))) (.seq (.blk 1 (.seq (.dreg c5_r10 c5_a10) (.seq (.seq (.reg c5_r11) (.cond (.t 42) (.seq (.reg c5_r12) (.seq (.seq (.reg c5_r13) (.cond (.t 53) (.seq (.reg c5_r14) (.reg c5_r15)) (.skip))) (.reg c5_r16))) (.skip))) (.seq (.reg c5_r17) (.cond (.t 77) (.seq (.reg c5_r18) (.ret)) (.skip)))))) (.reg c5_r19))
abbrev c5_r21 : List Ins := [
  ⟨some 4, none, .mov (.c (.bool true))⟩]
abbrev c5 : IR := .seq (.reg c5_r1) (.seq (.seq (.reg c5_r2) (.cond (.t 14) (.seq (.reg c5_r3) (.ret)) (.skip))) (.seq (.seq (.reg c5_r4) (.cond (.t 21) (.seq (.reg c5_r5) (.ret)) (.skip))) (.seq (.reg c5_r6) (.seq (.reg c5_r7) (.seq (.seq (.reg c5_r8) (.blk 0 (.loop c5_l20))) (.seq (.reg c5_r21) (.ret)))))))
abbrev F5 : FnA := ⟨78, c5, [.t 4]⟩
theorem ok5 : cFn Try.prog 5 = some F5 := by kernel_rfl
theorem hb5 : HasBody Try.prog 5 := ⟨_, Try.func5, by kernel_rfl, by kernel_rfl⟩
/-! law11.ClassReads -/
abbrev c11_r1 : List Ins := [
  ⟨some 2, none, .mov (.c (.bool false))⟩]
abbrev c11_r2 : List Ins := [
  ⟨some 9, none, .call (.c (.fn 42 [] [])) []⟩,
  ⟨some 10, none, .un .not (.t 9)⟩]
abbrev c11_r3 : List Ins := [
  ⟨some 2, none, .mov (.c (.bool false))⟩]
abbrev c11_r4 : List Ins := [
  ⟨some 11, none, .mov (.t 0)⟩,
  ⟨some 12, none, .len (.t 11)⟩,
  ⟨some 13, none, .bin .gtr (.t 12) (.c (.int .i64 800))⟩]
abbrev c11_r5 : List Ins := [
  ⟨some 2, none, .mov (.c (.bool true))⟩]
abbrev c11_r6 : List Ins := [
  ⟨some 14, none, .mov (.t 0)⟩,
  ⟨some 15, none, .call (.c (.fn 25 [] [])) [.t 14]⟩,
  ⟨some 16, none, .mov (.t 0)⟩,
  ⟨some 17, none, .build [.sl .full [], .bool false] [(0, (1, .t 16))]⟩,
  ⟨some 18, none, .box (.t 17)⟩,
  ⟨some 3, none, .mov (.t 15)⟩,
  ⟨some 4, none, .mov (.t 18)⟩]
abbrev c11_r7 : List Ins := [
  ⟨some 20, none, .mov (.t 3)⟩,
  ⟨some 21, none, .call (.c (.fn 43 [] [])) [.t 20]⟩,
  ⟨some 19, none, .mov (.t 21)⟩,
  ⟨some 22, none, .ext (.t 19) 0⟩,
  ⟨some 23, none, .ext (.t 19) 1⟩,
  ⟨some 5, none, .alloc [.str ⟨#[]⟩, .int .i64 0, .sl .full [], .sl .full [], .bool false]⟩,
  ⟨none, none, .store 5 (.t 5) (.t 22)⟩,
  ⟨some 6, none, .mov (.t 23)⟩]
abbrev c11_r8 : List Ins := [
  ⟨some 25, none, .mov (.t 4)⟩,
  ⟨some 26, none, .call (.c (.fn 44 [] [])) [.t 25]⟩,
  ⟨some 24, none, .mov (.t 26)⟩,
  ⟨some 27, none, .ext (.t 24) 0⟩,
  ⟨some 28, none, .ext (.t 24) 1⟩,
  ⟨some 7, none, .alloc [.str ⟨#[]⟩, .int .i64 0, .sl .full [], .sl .full [], .bool false]⟩,
  ⟨none, none, .store 5 (.t 7) (.t 27)⟩,
  ⟨some 8, none, .mov (.t 28)⟩]
abbrev c11_r9 : List Ins := [
  ⟨some 29, none, .mov (.t 6)⟩,
  ⟨some 30, none, .mov (.t 8)⟩,
  ⟨some 31, none, .eq [.b] false false (.t 29) (.t 30)⟩,
  ⟨some 32, none, .mov (.t 31)⟩,
  ⟨some 33, some (32, true), .load 5 true (.t 5)⟩,
  ⟨some 34, some (32, true), .load 5 true (.t 7)⟩,
  ⟨some 35, some (32, true), .call (.c (.fn 45 [] [])) [.t 33, .t 34]⟩,
  ⟨some 36, none, .pick (.t 32) (.t 35) (.c (.bool false))⟩,
  ⟨some 37, none, .mov (.t 36)⟩,
  ⟨some 38, some (37, true), .mov (.t 3)⟩,
  ⟨some 39, some (37, true), .call (.c (.fn 28 [] [])) [.t 38]⟩,
  ⟨some 40, some (37, true), .mov (.t 4)⟩,
  ⟨some 41, some (37, true), .nilck (.t 40)⟩,
  ⟨some 42, some (37, true), .faddr 1 (.t 41)⟩,
  ⟨some 43, some (37, true), .load 1 false (.t 42)⟩,
  ⟨some 44, some (37, true), .un .not (.t 43)⟩,
  ⟨some 45, some (37, true), .eq [.b] false false (.t 39) (.t 44)⟩,
  ⟨some 46, none, .pick (.t 37) (.t 45) (.c (.bool false))⟩,
  ⟨some 47, none, .mov (.t 46)⟩,
  ⟨some 48, some (47, true), .mov (.t 3)⟩,
  ⟨some 49, some (47, true), .call (.c (.fn 29 [] [])) [.t 48]⟩,
  ⟨some 50, some (47, true), .mov (.t 4)⟩,
  ⟨some 51, some (47, true), .nilck (.t 50)⟩,
  ⟨some 52, some (47, true), .faddr 1 (.t 51)⟩,
  ⟨some 53, some (47, true), .load 1 false (.t 52)⟩,
  ⟨some 54, some (47, true), .un .not (.t 53)⟩,
  ⟨some 55, some (47, true), .mov (.t 54)⟩,
  ⟨some 56, some (55, true), .mov (.t 4)⟩,
  ⟨some 57, some (55, true), .nilck (.t 56)⟩,
  ⟨some 58, some (55, true), .faddr 0 (.t 57)⟩,
  ⟨some 59, some (55, true), .load 1 false (.t 58)⟩,
  ⟨some 60, some (55, true), .len (.t 59)⟩,
  ⟨some 61, some (55, true), .bin .eql (.t 60) (.c (.int .i64 0))⟩,
  ⟨some 62, some (47, true), .pick (.t 55) (.t 61) (.c (.bool false))⟩,
  ⟨some 63, some (47, true), .eq [.b] false false (.t 49) (.t 62)⟩,
  ⟨some 64, none, .pick (.t 47) (.t 63) (.c (.bool false))⟩,
  ⟨some 2, none, .mov (.t 64)⟩]
def c11_a9 : List (List Nat) := [[], [], [0, 1], [2], [3], [3], [4, 5, 3, 3], [3, 6], [7, 6], [8], [9, 8, 8], [8], [11, 8], [12, 8], [13, 8], [14, 8], [10, 15, 8], [8, 16], [17, 10], [18], [19, 18, 18], [18], [21, 18], [22, 18], [23, 18], [24, 18], [25, 20, 18], [26], [27, 26], [28, 26], [29, 26], [30, 26], [31, 26], [26, 32, 18], [20, 33, 18], [18, 34], [35, 26, 0, 1, 2, 3, 4, 5, 6, 7, 8, 9, 10, 11, 12, 13, 14, 15, 16, 17, 18, 19, 20, 21, 22, 23, 24, 25, 26, 27, 28, 29, 30, 31, 32, 33, 34, 35]]
abbrev c11_m9 : List Am.Mark := [⟨false, 0, 2⟩, ⟨false, 0, 2⟩, ⟨false, 0, 2⟩, ⟨false, 0, 2⟩, ⟨false, 0, 2⟩, ⟨false, 0, 2⟩, ⟨false, 0, 2⟩, ⟨false, 0, 2⟩, ⟨false, 0, 0⟩, ⟨false, 0, 0⟩, ⟨true, 0, 2⟩, ⟨false, 0, 2⟩, ⟨false, 0, 2⟩, ⟨false, 0, 2⟩, ⟨false, 0, 2⟩, ⟨false, 0, 2⟩, ⟨false, 1, 2⟩, ⟨false, 1, 2⟩, ⟨false, 1, 1⟩, ⟨false, 1, 1⟩, ⟨true, 1, 2⟩, ⟨false, 1, 2⟩, ⟨false, 1, 2⟩, ⟨false, 1, 2⟩, ⟨false, 1, 2⟩, ⟨false, 1, 2⟩, ⟨false, 2, 2⟩, ⟨false, 2, 2⟩, ⟨false, 2, 2⟩, ⟨false, 2, 2⟩, ⟨false, 2, 2⟩, ⟨false, 2, 2⟩, ⟨false, 2, 2⟩, ⟨false, 2, 2⟩, ⟨false, 2, 2⟩, ⟨false, 2, 2⟩, ⟨false, 2, 2⟩]
theorem c11_d9 : drawFine c11_r9 c11_a9 c11_m9 = true := by decide +kernel
abbrev c11 : IR := .seq (.reg c11_r1) (.seq (.seq (.reg c11_r2) (.cond (.t 10) (.seq (.reg c11_r3) (.ret)) (.skip))) (.seq (.seq (.reg c11_r4) (.cond (.t 13) (.seq (.reg c11_r5) (.ret)) (.skip))) (.seq (.reg c11_r6) (.seq (.reg c11_r7) (.seq (.reg c11_r8) (.seq (.dreg c11_r9 c11_a9) (.ret)))))))
abbrev F11 : FnA := ⟨65, c11, [.t 2]⟩
theorem ok11 : cFn Try.prog 11 = some F11 := by kernel_rfl
theorem hb11 : HasBody Try.prog 11 := ⟨_, Try.func11, by kernel_rfl, by kernel_rfl⟩
/-! law11.ClassWords -/
abbrev c13_r1 : List Ins := [
  ⟨some 1, none, .box (.t 0)⟩,
  ⟨some 2, none, .mov (.c (.bool false))⟩]
abbrev c13_r2 : List Ins := [
  ⟨some 7, none, .call (.c (.fn 42 [] [])) []⟩,
  ⟨some 8, none, .un .not (.t 7)⟩]
abbrev c13_r3 : List Ins := [
  ⟨some 2, none, .mov (.c (.bool false))⟩]
abbrev c13_r4 : List Ins := [
  ⟨some 9, none, .load 5 true (.t 1)⟩,
  ⟨some 10, none, .call (.c (.fn 49 [] [])) [.t 9]⟩,
  ⟨some 11, none, .un .not (.t 10)⟩]
abbrev c13_r5 : List Ins := [
  ⟨some 2, none, .mov (.c (.bool true))⟩]
abbrev c13_r6 : List Ins := [
  ⟨some 3, none, .alloc [.sl .full []]⟩]
abbrev c13_r7 : List Ins := [
  ⟨some 12, none, .load 5 true (.t 1)⟩,
  ⟨some 13, none, .call (.c (.fn 50 [] [])) [.t 3, .t 12]⟩]
abbrev c13_r8 : List Ins := [
  ⟨some 14, none, .call (.c (.fn 19 [] [])) [.t 3]⟩,
  ⟨some 15, none, .call (.c (.fn 25 [] [])) [.t 14]⟩,
  ⟨some 4, none, .mov (.t 15)⟩]
abbrev c13_r9 : List Ins := [
  ⟨some 17, none, .mov (.t 4)⟩,
  ⟨some 18, none, .call (.c (.fn 43 [] [])) [.t 17]⟩,
  ⟨some 16, none, .mov (.t 18)⟩,
  ⟨some 19, none, .ext (.t 16) 0⟩,
  ⟨some 20, none, .ext (.t 16) 1⟩,
  ⟨some 5, none, .alloc [.str ⟨#[]⟩, .int .i64 0, .sl .full [], .sl .full [], .bool false]⟩,
  ⟨none, none, .store 5 (.t 5) (.t 19)⟩,
  ⟨some 6, none, .mov (.t 20)⟩]
abbrev c13_r10 : List Ins := [
  ⟨some 21, none, .call (.c (.fn 19 [] [])) [.t 3]⟩,
  ⟨some 22, none, .load 5 true (.t 1)⟩,
  ⟨some 23, none, .call (.c (.fn 52 [] [])) [.t 22]⟩,
  ⟨some 24, none, .call (.c (.fn 51 [] [])) [.t 23]⟩,
  ⟨some 25, none, .call (.c (.fn 18 [] [])) [.t 21, .t 24]⟩,
  ⟨some 26, none, .mov (.t 25)⟩,
  ⟨some 27, some (26, true), .mov (.t 6)⟩,
  ⟨some 28, none, .pick (.t 26) (.t 27) (.c (.bool false))⟩,
  ⟨some 29, none, .mov (.t 28)⟩,
  ⟨some 30, some (29, true), .mov (.t 4)⟩,
  ⟨some 31, some (29, true), .call (.c (.fn 29 [] [])) [.t 30]⟩,
  ⟨some 32, none, .pick (.t 29) (.t 31) (.c (.bool false))⟩,
  ⟨some 33, none, .mov (.t 32)⟩,
  ⟨some 34, some (33, true), .load 5 true (.t 1)⟩,
  ⟨some 35, some (33, true), .load 5 true (.t 5)⟩,
  ⟨some 36, some (33, true), .call (.c (.fn 45 [] [])) [.t 34, .t 35]⟩,
  ⟨some 37, none, .pick (.t 33) (.t 36) (.c (.bool false))⟩,
  ⟨some 38, none, .mov (.t 37)⟩,
  ⟨some 39, some (38, true), .load 5 true (.t 1)⟩,
  ⟨some 40, some (38, true), .load 5 true (.t 5)⟩,
  ⟨some 41, some (38, true), .call (.c (.fn 53 [] [])) [.t 39, .t 40]⟩,
  ⟨some 42, none, .pick (.t 38) (.t 41) (.c (.bool false))⟩,
  ⟨some 2, none, .mov (.t 42)⟩]
def c13_a10 : List (List Nat) := [[], [], [1, 0], [2, 2], [0, 3, 3], [4, 4], [5], [5, 6], [7, 5], [8], [9, 8, 8], [8, 10], [11, 10], [12], [12], [13, 14, 12, 12], [12, 15], [16, 15], [17], [17], [18, 19, 17, 17], [17, 20], [21, 20, 0, 1, 2, 3, 4, 5, 6, 7, 8, 9, 10, 11, 12, 13, 14, 15, 16, 17, 18, 19, 20, 21]]
abbrev c13_m10 : List Am.Mark := [⟨true, 0, 2⟩, ⟨false, 0, 2⟩, ⟨false, 1, 2⟩, ⟨false, 1, 2⟩, ⟨false, 1, 2⟩, ⟨false, 1, 2⟩, ⟨false, 1, 2⟩, ⟨false, 1, 2⟩, ⟨false, 1, 1⟩, ⟨false, 1, 1⟩, ⟨true, 1, 2⟩, ⟨false, 2, 2⟩, ⟨false, 2, 2⟩, ⟨false, 2, 2⟩, ⟨false, 2, 2⟩, ⟨false, 2, 2⟩, ⟨false, 2, 2⟩, ⟨false, 2, 2⟩, ⟨false, 2, 2⟩, ⟨false, 2, 2⟩, ⟨false, 2, 2⟩, ⟨false, 2, 2⟩, ⟨false, 2, 2⟩]
theorem c13_d10 : drawFine c13_r10 c13_a10 c13_m10 = true := by decide +kernel
abbrev c13 : IR := .seq (.reg c13_r1) (.seq (.seq (.reg c13_r2) (.cond (.t 8) (.seq (.reg c13_r3) (.ret)) (.skip))) (.seq (.seq (.reg c13_r4) (.cond (.t 11) (.seq (.reg c13_r5) (.ret)) (.skip))) (.seq (.reg c13_r6) (.seq (.reg c13_r7) (.seq (.reg c13_r8) (.seq (.reg c13_r9) (.seq (.dreg c13_r10 c13_a10) (.ret))))))))
abbrev F13 : FnA := ⟨43, c13, [.t 2]⟩
theorem ok13 : cFn Try.prog 13 = some F13 := by kernel_rfl
theorem hb13 : HasBody Try.prog 13 := ⟨_, Try.func13, by kernel_rfl, by kernel_rfl⟩
/-! law01.alive -/
abbrev c14_r1 : List Ins := [
  ⟨some 0, none, .mov (.c (.bool false))⟩]
abbrev c14_r2 : List Ins := [
  ⟨some 1, none, .alloc [.sl .full []]⟩]
abbrev c14_r3 : List Ins := [
  ⟨some 2, none, .call (.c (.fn 54 [] [])) [.t 1, .c (.int .i64 (-1))]⟩]
abbrev c14_r4 : List Ins := [
  ⟨some 3, none, .call (.c (.fn 54 [] [])) [.t 1, .c (.int .i64 1)]⟩]
abbrev c14_r5 : List Ins := [
  ⟨some 4, none, .call (.c (.fn 55 [] [])) [.t 1, .c (.str ⟨#[97, 98]⟩)]⟩]
abbrev c14_r6 : List Ins := [
  ⟨some 5, none, .call (.c (.fn 19 [] [])) [.t 1]⟩,
  ⟨some 6, none, .bsl 1 4 [.int .u64 0] [(0, .c (.int .u64 1)), (1, .c (.int .u64 2)), (2, .c (.int .u64 2)), (3, .c (.int .u64 25185))]⟩,
  ⟨some 7, none, .call (.c (.fn 18 [] [])) [.t 5, .t 6]⟩,
  ⟨some 0, none, .mov (.t 7)⟩]
abbrev c14 : IR := .seq (.reg c14_r1) (.seq (.reg c14_r2) (.seq (.reg c14_r3) (.seq (.reg c14_r4) (.seq (.reg c14_r5) (.seq (.reg c14_r6) (.ret))))))
abbrev F14 : FnA := ⟨8, c14, [.t 0]⟩
theorem ok14 : cFn Try.prog 14 = some F14 := by kernel_rfl
theorem hb14 : HasBody Try.prog 14 := ⟨_, Try.func14, by kernel_rfl, by kernel_rfl⟩
/-! law01.great -/
abbrev c15_r1 : List Ins := [
  ⟨some 2, none, .mov (.c (.bool false))⟩]
abbrev c15_r2 : List Ins := [
  ⟨some 3, none, .mov (.c (.int .i64 0))⟩]
abbrev c15_r3 : List Ins := [
  ⟨some 4, none, .mov (.t 3)⟩,
  ⟨some 5, none, .mov (.t 0)⟩,
  ⟨some 6, none, .len (.t 5)⟩,
  ⟨some 7, none, .bin .lss (.t 4) (.t 6)⟩]
abbrev c15_r4 : List Ins := [
  ⟨some 10, none, .mov (.t 0)⟩,
  ⟨some 11, none, .mov (.t 3)⟩,
  ⟨some 12, none, .iaddr 6 (.t 10) (.t 11)⟩,
  ⟨some 13, none, .faddr 5 (.t 12)⟩,
  ⟨some 14, none, .load 1 false (.t 13)⟩,
  ⟨some 15, none, .len (.t 14)⟩,
  ⟨some 16, none, .bin .gtr (.t 15) (.c (.int .i64 100))⟩,
  ⟨some 17, none, .mov (.t 16)⟩,
  ⟨some 18, some (17, false), .mov (.t 0)⟩,
  ⟨some 19, some (17, false), .mov (.t 3)⟩,
  ⟨some 20, some (17, false), .iaddr 6 (.t 18) (.t 19)⟩,
  ⟨some 21, some (17, false), .faddr 4 (.t 20)⟩,
  ⟨some 22, some (17, false), .load 1 false (.t 21)⟩,
  ⟨some 23, some (17, false), .lenS (.t 22)⟩,
  ⟨some 24, some (17, false), .bin .gtr (.t 23) (.c (.int .i64 200))⟩,
  ⟨some 25, none, .pick (.t 17) (.c (.bool true)) (.t 24)⟩,
  ⟨some 26, none, .mov (.t 25)⟩,
  ⟨some 27, some (26, false), .mov (.t 0)⟩,
  ⟨some 28, some (26, false), .mov (.t 3)⟩,
  ⟨some 29, some (26, false), .iaddr 6 (.t 27) (.t 28)⟩,
  ⟨some 30, some (26, false), .faddr 0 (.t 29)⟩,
  ⟨some 31, some (26, false), .load 1 false (.t 30)⟩,
  ⟨some 32, some (26, false), .bin .lss (.t 31) (.c (.int .i64 0))⟩,
  ⟨some 33, none, .pick (.t 26) (.c (.bool true)) (.t 32)⟩,
  ⟨some 34, none, .mov (.t 33)⟩,
  ⟨some 35, some (34, false), .mov (.t 0)⟩,
  ⟨some 36, some (34, false), .mov (.t 3)⟩,
  ⟨some 37, some (34, false), .iaddr 6 (.t 35) (.t 36)⟩,
  ⟨some 38, some (34, false), .faddr 0 (.t 37)⟩,
  ⟨some 39, some (34, false), .load 1 false (.t 38)⟩,
  ⟨some 40, some (34, false), .bin .gtr (.t 39) (.c (.int .i64 4))⟩,
  ⟨some 41, none, .pick (.t 34) (.c (.bool true)) (.t 40)⟩]
abbrev c15_r5 : List Ins := [
  ⟨some 2, none, .mov (.c (.bool true))⟩]
abbrev c15_r6 : List Ins := [
  ⟨some 8, none, .mov (.t 3)⟩,
  ⟨some 9, none, .bin .add (.t 8) (.c (.int .i64 1))⟩,
  ⟨some 3, none, .mov (.t 9)⟩]
abbrev c15_l7 : IR := .seq (.seq (.reg c15_r3) (.cond (.t 7) (.skip) (.exit 0))) (.seq (.blk 1 (.seq (.reg c15_r4) (.cond (.t 41) (.seq (.reg c15_r5) (.ret)) (.skip)))) (.reg c15_r6))
abbrev c15_r8 : List Ins := [
  ⟨some 42, none, .mov (.t 0)⟩,
  ⟨some 43, none, .len (.t 42)⟩,
  ⟨some 44, none, .bin .gtr (.t 43) (.c (.int .i64 60))⟩,
  ⟨some 2, none, .mov (.t 44)⟩]
abbrev c15 : IR := .seq (.reg c15_r1) (.seq (.seq (.reg c15_r2) (.blk 0 (.loop c15_l7))) (.seq (.reg c15_r8) (.ret)))
abbrev F15 : FnA := ⟨45, c15, [.t 2]⟩
theorem ok15 : cFn Try.prog 15 = some F15 := by kernel_rfl
theorem hb15 : HasBody Try.prog 15 := ⟨_, Try.func15, by kernel_rfl, by kernel_rfl⟩
/-! law01.write -/
abbrev c16_r1 : List Ins := [
  ⟨some 3, none, .box (.t 1)⟩]
abbrev c16_r2 : List Ins := [
  ⟨some 4, none, .faddr 0 (.t 3)⟩,
  ⟨some 5, none, .load 1 false (.t 4)⟩]
abbrev c16_r3 : List Ins := [
  ⟨some 11, none, .bin .eql (.t 5) (.c (.int .i64 0))⟩,
  ⟨some 10, none, .mov (.t 11)⟩]
abbrev c16_r4 : List Ins := [
  ⟨some 12, none, .mov (.t 0)⟩,
  ⟨some 13, none, .faddr 1 (.t 3)⟩,
  ⟨some 14, none, .load 1 false (.t 13)⟩,
  ⟨some 15, none, .call (.c (.fn 56 [] [])) [.t 12, .t 14]⟩]
abbrev c16_r5 : List Ins := [
  ⟨some 17, none, .bin .eql (.t 5) (.c (.int .i64 1))⟩,
  ⟨some 16, none, .mov (.t 17)⟩]
abbrev c16_r6 : List Ins := [
  ⟨some 18, none, .mov (.t 0)⟩,
  ⟨some 19, none, .faddr 3 (.t 3)⟩,
  ⟨some 20, none, .load 1 false (.t 19)⟩,
  ⟨some 21, none, .call (.c (.fn 54 [] [])) [.t 18, .t 20]⟩]
abbrev c16_r7 : List Ins := [
  ⟨some 23, none, .bin .eql (.t 5) (.c (.int .i64 2))⟩,
  ⟨some 22, none, .mov (.t 23)⟩]
abbrev c16_r8 : List Ins := [
  ⟨some 24, none, .mov (.t 0)⟩,
  ⟨some 25, none, .faddr 1 (.t 3)⟩,
  ⟨some 26, none, .load 1 false (.t 25)⟩,
  ⟨some 27, none, .bin .eql (.t 26) (.c (.int .i64 1))⟩,
  ⟨some 28, none, .call (.c (.fn 57 [] [])) [.t 24, .t 27]⟩]
abbrev c16_r9 : List Ins := [
  ⟨some 30, none, .bin .eql (.t 5) (.c (.int .i64 3))⟩,
  ⟨some 29, none, .mov (.t 30)⟩]
abbrev c16_r10 : List Ins := [
  ⟨some 31, none, .mov (.t 0)⟩,
  ⟨some 32, none, .faddr 4 (.t 3)⟩,
  ⟨some 33, none, .load 1 false (.t 32)⟩,
  ⟨some 34, none, .call (.c (.fn 55 [] [])) [.t 31, .t 33]⟩]
abbrev c16_r11 : List Ins := [
  ⟨some 6, none, .mov (.t 0)⟩,
  ⟨some 7, none, .faddr 5 (.t 3)⟩,
  ⟨some 8, none, .load 1 false (.t 7)⟩,
  ⟨some 9, none, .call (.c (.fn 58 [] [])) [.t 6, .t 8]⟩]
abbrev c16 : IR := .seq (.reg c16_r1) (.seq (.reg c16_r2) (.blk 0 (.seq (.reg c16_r3) (.cond (.t 10) (.reg c16_r4) (.seq (.reg c16_r5) (.cond (.t 16) (.reg c16_r6) (.seq (.reg c16_r7) (.cond (.t 22) (.reg c16_r8) (.seq (.reg c16_r9) (.cond (.t 29) (.reg c16_r10) (.reg c16_r11)))))))))))
abbrev F16 : FnA := ⟨35, c16, []⟩
theorem ok16 : cFn Try.prog 16 = some F16 := by kernel_rfl
theorem hb16 : HasBody Try.prog 16 := ⟨_, Try.func16, by kernel_rfl, by kernel_rfl⟩
/-! ref01.Write -/
abbrev c17_r1 : List Ins := [
  ⟨some 3, none, .box (.t 1)⟩,
  ⟨some 4, none, .mov (.c (.sl .full []))⟩]
abbrev c17_r2 : List Ins := [
  ⟨some 6, none, .faddr 0 (.t 3)⟩,
  ⟨some 7, none, .load 1 false (.t 6)⟩]
abbrev c17_r3 : List Ins := [
  ⟨some 9, none, .bin .eql (.t 7) (.c (.int .i64 0))⟩,
  ⟨some 8, none, .mov (.t 9)⟩]
abbrev c17_r4 : List Ins := [
  ⟨some 10, none, .faddr 1 (.t 3)⟩,
  ⟨some 11, none, .load 1 false (.t 10)⟩,
  ⟨some 12, none, .bin .lss (.t 11) (.c (.int .i64 0))⟩]
abbrev c17_r5 : List Ins := [
  ⟨some 13, none, .mov (.t 0)⟩,
  ⟨some 14, none, .bsl 1 1 [.int .u64 0] [(0, .c (.int .u64 0))]⟩,
  ⟨some 15, none, .append 1 8 (.t 13) (.t 14)⟩,
  ⟨some 4, none, .mov (.t 15)⟩]
abbrev c17_r6 : List Ins := [
  ⟨some 16, none, .mov (.t 0)⟩,
  ⟨some 17, none, .faddr 1 (.t 3)⟩,
  ⟨some 18, none, .load 1 false (.t 17)⟩,
  ⟨some 19, none, .conv .u64 (.t 18)⟩,
  ⟨some 20, none, .bsl 1 1 [.int .u64 0] [(0, .t 19)]⟩,
  ⟨some 21, none, .append 1 8 (.t 16) (.t 20)⟩,
  ⟨some 4, none, .mov (.t 21)⟩]
abbrev c17_r7 : List Ins := [
  ⟨some 23, none, .bin .eql (.t 7) (.c (.int .i64 1))⟩,
  ⟨some 22, none, .mov (.t 23)⟩]
abbrev c17_r8 : List Ins := [
  ⟨some 24, none, .mov (.t 0)⟩,
  ⟨some 25, none, .faddr 3 (.t 3)⟩,
  ⟨some 26, none, .load 1 false (.t 25)⟩,
  ⟨some 27, none, .call (.c (.fn 59 [] [])) [.t 26]⟩,
  ⟨some 28, none, .bsl 1 1 [.int .u64 0] [(0, .t 27)]⟩,
  ⟨some 29, none, .append 1 8 (.t 24) (.t 28)⟩,
  ⟨some 4, none, .mov (.t 29)⟩]
abbrev c17_r9 : List Ins := [
  ⟨some 31, none, .bin .eql (.t 7) (.c (.int .i64 2))⟩,
  ⟨some 30, none, .mov (.t 31)⟩]
abbrev c17_r10 : List Ins := [
  ⟨some 32, none, .faddr 1 (.t 3)⟩,
  ⟨some 33, none, .load 1 false (.t 32)⟩,
  ⟨some 34, none, .bin .eql (.t 33) (.c (.int .i64 1))⟩]
abbrev c17_r11 : List Ins := [
  ⟨some 35, none, .mov (.t 0)⟩,
  ⟨some 36, none, .bsl 1 1 [.int .u64 0] [(0, .c (.int .u64 1))]⟩,
  ⟨some 37, none, .append 1 8 (.t 35) (.t 36)⟩,
  ⟨some 4, none, .mov (.t 37)⟩]
abbrev c17_r12 : List Ins := [
  ⟨some 38, none, .mov (.t 0)⟩,
  ⟨some 39, none, .bsl 1 1 [.int .u64 0] [(0, .c (.int .u64 0))]⟩,
  ⟨some 40, none, .append 1 8 (.t 38) (.t 39)⟩,
  ⟨some 4, none, .mov (.t 40)⟩]
abbrev c17_r13 : List Ins := [
  ⟨some 42, none, .bin .eql (.t 7) (.c (.int .i64 3))⟩,
  ⟨some 41, none, .mov (.t 42)⟩]
abbrev c17_r14 : List Ins := [
  ⟨some 43, none, .faddr 4 (.t 3)⟩,
  ⟨some 44, none, .load 1 false (.t 43)⟩,
  ⟨some 5, none, .mov (.t 44)⟩]
abbrev c17_r15 : List Ins := [
  ⟨some 45, none, .mov (.t 5)⟩,
  ⟨some 46, none, .lenS (.t 45)⟩,
  ⟨some 47, none, .bin .gtr (.t 46) (.c (.int .i64 64))⟩]
abbrev c17_r16 : List Ins := [
  ⟨some 48, none, .mov (.t 5)⟩,
  ⟨some 49, none, .sliceS (.t 48) none (some (.c (.int .i64 64)))⟩,
  ⟨some 5, none, .mov (.t 49)⟩]
abbrev c17_r17 : List Ins := [
  ⟨some 50, none, .mov (.t 0)⟩,
  ⟨some 51, none, .mov (.t 5)⟩,
  ⟨some 52, none, .lenS (.t 51)⟩,
  ⟨some 53, none, .conv .u64 (.t 52)⟩,
  ⟨some 54, none, .bsl 1 1 [.int .u64 0] [(0, .t 53)]⟩,
  ⟨some 55, none, .append 1 8 (.t 50) (.t 54)⟩,
  ⟨some 56, none, .mov (.t 5)⟩,
  ⟨some 57, none, .call (.c (.fn 60 [] [])) [.t 56]⟩,
  ⟨some 58, none, .append 1 8 (.t 55) (.t 57)⟩,
  ⟨some 4, none, .mov (.t 58)⟩]
abbrev c17_r18 : List Ins := [
  ⟨some 59, none, .mov (.t 0)⟩,
  ⟨some 60, none, .faddr 5 (.t 3)⟩,
  ⟨some 61, none, .load 1 false (.t 60)⟩,
  ⟨some 62, none, .len (.t 61)⟩,
  ⟨some 63, none, .conv .u64 (.t 62)⟩,
  ⟨some 64, none, .bsl 1 1 [.int .u64 0] [(0, .t 63)]⟩,
  ⟨some 65, none, .append 1 8 (.t 59) (.t 64)⟩,
  ⟨some 66, none, .faddr 5 (.t 3)⟩,
  ⟨some 67, none, .load 1 false (.t 66)⟩,
  ⟨some 68, none, .append 1 8 (.t 65) (.t 67)⟩,
  ⟨some 4, none, .mov (.t 68)⟩]
def c17_a18 : List (List Nat) := [[], [], [1], [2], [3], [4], [0, 5], [], [7], [6, 8, 6], [9, 9, 0, 1, 2, 3, 4, 5, 6, 7, 8, 9]]
abbrev c17_m18 : List Am.Mark := [⟨false, 0, 0⟩, ⟨false, 0, 2⟩, ⟨false, 0, 2⟩, ⟨false, 0, 2⟩, ⟨false, 0, 2⟩, ⟨false, 0, 0⟩, ⟨true, 0, 1⟩, ⟨false, 0, 2⟩, ⟨false, 0, 1⟩, ⟨true, 1, 2⟩, ⟨false, 2, 2⟩]
theorem c17_d18 : drawFine c17_r18 c17_a18 c17_m18 = true := by decide +kernel
abbrev c17 : IR := .seq (.reg c17_r1) (.seq (.seq (.reg c17_r2) (.blk 0 (.seq (.reg c17_r3) (.cond (.t 8) (.seq (.seq (.reg c17_r4) (.cond (.t 12) (.seq (.reg c17_r5) (.ret)) (.skip))) (.seq (.reg c17_r6) (.ret))) (.seq (.reg c17_r7) (.cond (.t 22) (.seq (.reg c17_r8) (.ret)) (.seq (.reg c17_r9) (.cond (.t 30) (.seq (.seq (.reg c17_r10) (.cond (.t 34) (.seq (.reg c17_r11) (.ret)) (.skip))) (.seq (.reg c17_r12) (.ret))) (.seq (.reg c17_r13) (.cond (.t 41) (.seq (.reg c17_r14) (.seq (.seq (.reg c17_r15) (.cond (.t 47) (.reg c17_r16) (.skip))) (.seq (.reg c17_r17) (.ret)))) (.skip))))))))))) (.seq (.dreg c17_r18 c17_a18) (.ret)))
abbrev F17 : FnA := ⟨69, c17, [.t 4]⟩
theorem ok17 : cFn Try.prog 17 = some F17 := by kernel_rfl
theorem hb17 : HasBody Try.prog 17 := ⟨_, Try.func17, by kernel_rfl, by kernel_rfl⟩
/-! ref01.Words -/
abbrev c18_r1 : List Ins := [
  ⟨some 4, none, .mov (.c (.bool false))⟩]
abbrev c18_r2 : List Ins := [
  ⟨some 6, none, .mov (.t 0)⟩,
  ⟨some 7, none, .len (.t 6)⟩,
  ⟨some 8, none, .mov (.t 1)⟩,
  ⟨some 9, none, .len (.t 8)⟩,
  ⟨some 10, none, .bin .neq (.t 7) (.t 9)⟩]
abbrev c18_r3 : List Ins := [
  ⟨some 4, none, .mov (.c (.bool false))⟩]
abbrev c18_r4 : List Ins := [
  ⟨some 5, none, .mov (.c (.int .i64 0))⟩]
abbrev c18_r5 : List Ins := [
  ⟨some 11, none, .mov (.t 5)⟩,
  ⟨some 12, none, .mov (.t 0)⟩,
  ⟨some 13, none, .len (.t 12)⟩,
  ⟨some 14, none, .bin .lss (.t 11) (.t 13)⟩]
abbrev c18_r6 : List Ins := [
  ⟨some 17, none, .mov (.t 0)⟩,
  ⟨some 18, none, .mov (.t 5)⟩,
  ⟨some 19, none, .iaddr 1 (.t 17) (.t 18)⟩,
  ⟨some 20, none, .load 1 false (.t 19)⟩,
  ⟨some 21, none, .mov (.t 1)⟩,
  ⟨some 22, none, .mov (.t 5)⟩,
  ⟨some 23, none, .iaddr 1 (.t 21) (.t 22)⟩,
  ⟨some 24, none, .load 1 false (.t 23)⟩,
  ⟨some 25, none, .bin .neq (.t 20) (.t 24)⟩]
def c18_a6 : List (List Nat) := [[], [], [0, 1], [2], [], [], [4, 5], [6], [3, 7]]
abbrev c18_m6 : List Am.Mark := [⟨false, 0, 0⟩, ⟨false, 0, 0⟩, ⟨false, 0, 0⟩, ⟨false, 0, 0⟩, ⟨false, 0, 0⟩, ⟨false, 0, 0⟩, ⟨false, 0, 0⟩, ⟨false, 0, 0⟩, ⟨false, 0, 0⟩]
theorem c18_d6 : drawFine c18_r6 c18_a6 c18_m6 = true := by decide +kernel
abbrev c18_r7 : List Ins := [
  ⟨some 4, none, .mov (.c (.bool false))⟩]
abbrev c18_r8 : List Ins := [
  ⟨some 15, none, .mov (.t 5)⟩,
  ⟨some 16, none, .bin .add (.t 15) (.c (.int .i64 1))⟩,
  ⟨some 5, none, .mov (.t 16)⟩]
abbrev c18_l9 : IR := .seq (.seq (.reg c18_r5) (.cond (.t 14) (.skip) (.exit 0))) (.seq (.blk 1 (.seq (.dreg c18_r6 c18_a6) (.cond (.t 25) (.seq (.reg c18_r7) (.ret)) (.skip)))) (.reg c18_r8))
abbrev c18_r10 : List Ins := [
  ⟨some 4, none, .mov (.c (.bool true))⟩]
abbrev c18 : IR := .seq (.reg c18_r1) (.seq (.seq (.reg c18_r2) (.cond (.t 10) (.seq (.reg c18_r3) (.ret)) (.skip))) (.seq (.seq (.reg c18_r4) (.blk 0 (.loop c18_l9))) (.seq (.reg c18_r10) (.ret))))
abbrev F18 : FnA := ⟨26, c18, [.t 4]⟩
theorem ok18 : cFn Try.prog 18 = some F18 := by kernel_rfl
theorem hb18 : HasBody Try.prog 18 := ⟨_, Try.func18, by kernel_rfl, by kernel_rfl⟩
/-! codes.Writer.Done -/
abbrev c19_r1 : List Ins := [
  ⟨some 2, none, .mov (.c (.sl .full []))⟩]
abbrev c19_r2 : List Ins := [
  ⟨some 3, none, .mov (.t 0)⟩,
  ⟨some 4, none, .nilck (.t 3)⟩,
  ⟨some 5, none, .faddr 0 (.t 4)⟩,
  ⟨some 6, none, .load 1 false (.t 5)⟩,
  ⟨some 7, none, .call (.c (.fn 61 [] [])) [.t 6]⟩,
  ⟨some 2, none, .mov (.t 7)⟩]
abbrev c19 : IR := .seq (.reg c19_r1) (.seq (.reg c19_r2) (.ret))
abbrev F19 : FnA := ⟨8, c19, [.t 2]⟩
theorem ok19 : cFn Try.prog 19 = some F19 := by kernel_rfl
theorem hb19 : HasBody Try.prog 19 := ⟨_, Try.func19, by kernel_rfl, by kernel_rfl⟩
/-! law14.alive -/
abbrev c20_r1 : List Ins := [
  ⟨some 0, none, .mov (.c (.bool false))⟩]
abbrev c20_r2 : List Ins := [
  ⟨some 6, none, .build [.int .i64 0, .int .i64 0, .int .i64 0, .int .i64 0, .int .i64 0, .int .i64 0, .int .i64 0, .int .i64 0, .int .i64 0] [(0, (1, .c (.int .i64 5)))]⟩,
  ⟨some 7, none, .bsl 9 1 [.int .i64 0, .int .i64 0, .int .i64 0, .int .i64 0, .int .i64 0, .int .i64 0, .int .i64 0, .int .i64 0, .int .i64 0] [(0, .t 6)]⟩,
  ⟨some 8, none, .build [.sl .full [], .sl .full []] [(0, (1, .t 7))]⟩,
  ⟨some 1, none, .alloc [.sl .full [], .sl .full []]⟩,
  ⟨none, none, .store 2 (.t 1) (.t 8)⟩]
abbrev c20_r3 : List Ins := [
  ⟨some 9, none, .load 2 true (.t 1)⟩,
  ⟨some 10, none, .load 2 true (.t 1)⟩,
  ⟨some 11, none, .load 2 true (.t 1)⟩,
  ⟨some 12, none, .bsl 2 3 [.sl .full [], .sl .full []] [(0, .t 9), (1, .t 10), (2, .t 11)]⟩,
  ⟨some 13, none, .mksl 2 48 [.sl .full [], .sl .full []] (.c (.int .i64 3)) (.c (.int .i64 3))⟩,
  ⟨some 14, none, .build [.str ⟨#[]⟩, .int .i64 0, .sl .full [], .sl .full [], .bool false] [(0, (1, .c (.str ⟨#[97]⟩))), (2, (1, .t 12)), (3, (1, .t 13))]⟩,
  ⟨some 15, none, .bsl 5 1 [.str ⟨#[]⟩, .int .i64 0, .sl .full [], .sl .full [], .bool false] [(0, .t 14)]⟩,
  ⟨some 16, none, .build [.sl .full [], .int .i64 0, .int .i64 0, .int .i64 0, .int .i64 0, .int .i64 0, .int .i64 0, .int .i64 0, .int .i64 0, .int .i64 0, .int .i64 0, .int .i64 0, .int .i64 0, .int .i64 0, .int .i64 0, .int .i64 0, .int .i64 0] [(0, (1, .t 15))]⟩,
  ⟨some 2, none, .alloc [.sl .full [], .int .i64 0, .int .i64 0, .int .i64 0, .int .i64 0, .int .i64 0, .int .i64 0, .int .i64 0, .int .i64 0, .int .i64 0, .int .i64 0, .int .i64 0, .int .i64 0, .int .i64 0, .int .i64 0, .int .i64 0, .int .i64 0]⟩,
  ⟨none, none, .store 17 (.t 2) (.t 16)⟩]
def c20_a3 : List (List Nat) := [[], [], [], [0, 1, 2], [], [3, 4], [5], [6], [], [8, 7, 0, 1, 2, 3, 4, 5, 6, 7, 8]]
abbrev c20_m3 : List Am.Mark := [⟨false, 0, 1⟩, ⟨false, 0, 1⟩, ⟨false, 0, 1⟩, ⟨false, 0, 1⟩, ⟨false, 0, 1⟩, ⟨false, 0, 1⟩, ⟨false, 0, 1⟩, ⟨false, 0, 1⟩, ⟨true, 0, 1⟩, ⟨true, 1, 2⟩]
theorem c20_d3 : drawFine c20_r3 c20_a3 c20_m3 = true := by decide +kernel
abbrev c20_r4 : List Ins := [
  ⟨some 17, none, .faddr 1 (.t 2)⟩,
  ⟨some 18, none, .iaddrA 4 4 (.t 17) (.c (.int .i64 0))⟩,
  ⟨some 19, none, .iaddrA 4 1 (.t 18) (.c (.int .i64 0))⟩,
  ⟨none, none, .store 1 (.t 19) (.c (.int .i64 2))⟩]
abbrev c20_r5 : List Ins := [
  ⟨some 21, none, .load 17 true (.t 2)⟩,
  ⟨some 22, none, .call (.c (.fn 23 [] [])) [.t 21, .c (.int .i64 0), .c (.int .i64 0), .c (.int .i64 0)]⟩,
  ⟨some 20, none, .mov (.t 22)⟩,
  ⟨some 23, none, .ext (.t 20) 0⟩,
  ⟨some 24, none, .ext (.t 20) 1⟩,
  ⟨some 25, none, .ext (.t 20) 2⟩,
  ⟨some 3, none, .mov (.t 23)⟩,
  ⟨some 4, none, .mov (.t 24)⟩,
  ⟨some 5, none, .mov (.t 25)⟩]
abbrev c20_r6 : List Ins := [
  ⟨some 26, none, .mov (.t 5)⟩,
  ⟨some 27, none, .mov (.t 26)⟩,
  ⟨some 28, some (27, true), .mov (.t 3)⟩,
  ⟨some 29, some (27, true), .bin .eql (.t 28) (.c (.int .i64 0))⟩,
  ⟨some 30, none, .pick (.t 27) (.t 29) (.c (.bool false))⟩,
  ⟨some 31, none, .mov (.t 30)⟩,
  ⟨some 32, some (31, true), .mov (.t 4)⟩,
  ⟨some 33, some (31, true), .bin .eql (.t 32) (.c (.int .i64 1))⟩,
  ⟨some 34, none, .pick (.t 31) (.t 33) (.c (.bool false))⟩,
  ⟨some 0, none, .mov (.t 34)⟩]
abbrev c20 : IR := .seq (.reg c20_r1) (.seq (.reg c20_r2) (.seq (.dreg c20_r3 c20_a3) (.seq (.reg c20_r4) (.seq (.reg c20_r5) (.seq (.reg c20_r6) (.ret))))))
abbrev F20 : FnA := ⟨35, c20, [.t 0]⟩
theorem ok20 : cFn Try.prog 20 = some F20 := by kernel_rfl
theorem hb20 : HasBody Try.prog 20 := ⟨_, Try.func20, by kernel_rfl, by kernel_rfl⟩
/-! ref12.May -/
abbrev c21_r1 : List Ins := [
  ⟨some 1, none, .box (.t 0)⟩,
  ⟨some 2, none, .mov (.c (.bool false))⟩]
abbrev c21_r2 : List Ins := [
  ⟨some 10, none, .faddr 0 (.t 1)⟩,
  ⟨some 11, none, .load 1 false (.t 10)⟩,
  ⟨some 12, none, .len (.t 11)⟩,
  ⟨some 3, none, .mov (.t 12)⟩]
abbrev c21_r3 : List Ins := [
  ⟨some 13, none, .mov (.t 3)⟩,
  ⟨some 14, none, .bin .lss (.t 13) (.c (.int .i64 1))⟩,
  ⟨some 15, none, .mov (.t 14)⟩,
  ⟨some 16, some (15, false), .mov (.t 3)⟩,
  ⟨some 17, some (15, false), .bin .gtr (.t 16) (.c (.int .i64 4))⟩,
  ⟨some 18, none, .pick (.t 15) (.c (.bool true)) (.t 17)⟩]
abbrev c21_r4 : List Ins := [
  ⟨some 2, none, .mov (.c (.bool false))⟩]
abbrev c21_r5 : List Ins := [
  ⟨some 4, none, .mov (.c (.int .i64 0))⟩]
abbrev c21_r6 : List Ins := [
  ⟨some 19, none, .mov (.t 4)⟩,
  ⟨some 20, none, .mov (.t 3)⟩,
  ⟨some 21, none, .bin .lss (.t 19) (.t 20)⟩]
abbrev c21_r7 : List Ins := [
  ⟨some 24, none, .faddr 0 (.t 1)⟩,
  ⟨some 25, none, .load 1 false (.t 24)⟩,
  ⟨some 26, none, .mov (.t 4)⟩,
  ⟨some 27, none, .iaddr 5 (.t 25) (.t 26)⟩,
  ⟨some 28, none, .load 5 true (.t 27)⟩,
  ⟨some 29, none, .call (.c (.fn 49 [] [])) [.t 28]⟩,
  ⟨some 30, none, .un .not (.t 29)⟩]
abbrev c21_r8 : List Ins := [
  ⟨some 2, none, .mov (.c (.bool false))⟩]
abbrev c21_r9 : List Ins := [
  ⟨some 5, none, .mov (.c (.int .i64 0))⟩]
abbrev c21_r10 : List Ins := [
  ⟨some 31, none, .mov (.t 5)⟩,
  ⟨some 32, none, .mov (.t 4)⟩,
  ⟨some 33, none, .bin .lss (.t 31) (.t 32)⟩]
abbrev c21_r11 : List Ins := [
  ⟨some 36, none, .faddr 0 (.t 1)⟩,
  ⟨some 37, none, .load 1 false (.t 36)⟩,
  ⟨some 38, none, .mov (.t 5)⟩,
  ⟨some 39, none, .iaddr 5 (.t 37) (.t 38)⟩,
  ⟨some 40, none, .faddr 0 (.t 39)⟩,
  ⟨some 41, none, .load 1 false (.t 40)⟩,
  ⟨some 42, none, .faddr 0 (.t 1)⟩,
  ⟨some 43, none, .load 1 false (.t 42)⟩,
  ⟨some 44, none, .mov (.t 4)⟩,
  ⟨some 45, none, .iaddr 5 (.t 43) (.t 44)⟩,
  ⟨some 46, none, .faddr 0 (.t 45)⟩,
  ⟨some 47, none, .load 1 false (.t 46)⟩,
  ⟨some 48, none, .bin .eql (.t 41) (.t 47)⟩]
def c21_a11 : List (List Nat) := [[], [0], [], [1, 2], [3], [4], [], [6], [], [7, 8], [9], [10], [5, 11]]
abbrev c21_m11 : List Am.Mark := [⟨false, 0, 0⟩, ⟨false, 0, 0⟩, ⟨false, 0, 0⟩, ⟨false, 0, 0⟩, ⟨false, 0, 0⟩, ⟨false, 0, 0⟩, ⟨false, 0, 0⟩, ⟨false, 0, 0⟩, ⟨false, 0, 0⟩, ⟨false, 0, 0⟩, ⟨false, 0, 0⟩, ⟨false, 0, 0⟩, ⟨false, 0, 0⟩]
theorem c21_d11 : drawFine c21_r11 c21_a11 c21_m11 = true := by decide +kernel
abbrev c21_r12 : List Ins := [
  ⟨some 2, none, .mov (.c (.bool false))⟩]
abbrev c21_r13 : List Ins := [
  ⟨some 34, none, .mov (.t 5)⟩,
  ⟨some 35, none, .bin .add (.t 34) (.c (.int .i64 1))⟩,
  ⟨some 5, none, .mov (.t 35)⟩]
abbrev c21_l14 : IR := .seq (.seq (.reg c21_r10) (.cond (.t 33) (.skip) (.exit 2))) (.seq (.blk 3 (.seq (.dreg c21_r11 c21_a11) (.cond (.t 48) (.seq (.reg c21_r12) (.ret)) (.skip)))) (.reg c21_r13))
abbrev c21_r15 : List Ins := [
  ⟨some 22, none, .mov (.t 4)⟩,
  ⟨some 23, none, .bin .add (.t 22) (.c (.int .i64 1))⟩,
  ⟨some 4, none, .mov (.t 23)⟩]
abbrev c21_l16 : IR := .seq (.seq (.reg c21_r6) (.cond (.t 21) (.skip) (.exit 0))) (.seq (.blk 1 (.seq (.seq (.reg c21_r7) (.cond (.t 30) (.seq (.reg c21_r8) (.ret)) (.skip))) (.seq (.reg c21_r9) (.blk 2 (.loop c21_l14))))) (.reg c21_r15))
abbrev c21_r17 : List Ins := [
  ⟨some 6, none, .mov (.c (.int .i64 0))⟩]
abbrev c21_r18 : List Ins := [
  ⟨some 49, none, .mov (.t 6)⟩,
  ⟨some 50, none, .bin .lss (.t 49) (.c (.int .i64 4))⟩]
abbrev c21_r19 : List Ins := [
  ⟨some 7, none, .mov (.c (.int .i64 0))⟩]
abbrev c21_r20 : List Ins := [
  ⟨some 53, none, .mov (.t 7)⟩,
  ⟨some 54, none, .bin .lss (.t 53) (.c (.int .i64 4))⟩]
abbrev c21_r21 : List Ins := [
  ⟨some 8, none, .mov (.c (.int .i64 1))⟩]
abbrev c21_r22 : List Ins := [
  ⟨some 57, none, .mov (.t 6)⟩,
  ⟨some 58, none, .mov (.t 3)⟩,
  ⟨some 59, none, .bin .lss (.t 57) (.t 58)⟩,
  ⟨some 60, none, .mov (.t 59)⟩,
  ⟨some 61, some (60, true), .mov (.t 7)⟩,
  ⟨some 62, some (60, true), .mov (.t 3)⟩,
  ⟨some 63, some (60, true), .bin .lss (.t 61) (.t 62)⟩,
  ⟨some 64, none, .pick (.t 60) (.t 63) (.c (.bool false))⟩]
abbrev c21_r23 : List Ins := [
  ⟨some 9, none, .mov (.c (.int .i64 1))⟩]
abbrev c21_r24 : List Ins := [
  ⟨some 65, none, .mov (.t 9)⟩,
  ⟨some 66, none, .faddr 0 (.t 1)⟩,
  ⟨some 67, none, .load 1 false (.t 66)⟩,
  ⟨some 68, none, .mov (.t 6)⟩,
  ⟨some 69, none, .iaddr 5 (.t 67) (.t 68)⟩,
  ⟨some 70, none, .faddr 2 (.t 69)⟩,
  ⟨some 71, none, .load 1 false (.t 70)⟩,
  ⟨some 72, none, .len (.t 71)⟩,
  ⟨some 73, none, .bin .lss (.t 65) (.t 72)⟩]
abbrev c21_r25 : List Ins := [
  ⟨some 76, none, .mov (.t 8)⟩,
  ⟨some 77, none, .bin .mul (.c (.int .i64 2)) (.t 76)⟩,
  ⟨some 8, none, .mov (.t 77)⟩]
abbrev c21_r26 : List Ins := [
  ⟨some 74, none, .mov (.t 9)⟩,
  ⟨some 75, none, .bin .add (.t 74) (.c (.int .i64 1))⟩,
  ⟨some 9, none, .mov (.t 75)⟩]
abbrev c21_l27 : IR := .seq (.seq (.reg c21_r24) (.cond (.t 73) (.skip) (.exit 8))) (.seq (.blk 9 (.reg c21_r25)) (.reg c21_r26))
abbrev c21_r28 : List Ins := [
  ⟨some 78, none, .mov (.t 6)⟩,
  ⟨some 79, none, .mov (.t 7)⟩,
  ⟨some 80, none, .faddr 1 (.t 1)⟩,
  ⟨some 81, none, .iaddrA 4 4 (.t 80) (.t 78)⟩,
  ⟨some 82, none, .iaddrA 4 1 (.t 81) (.t 79)⟩,
  ⟨some 83, none, .load 1 false (.t 82)⟩,
  ⟨some 84, none, .bin .lss (.t 83) (.c (.int .i64 0))⟩,
  ⟨some 85, none, .mov (.t 84)⟩,
  ⟨some 86, some (85, false), .mov (.t 6)⟩,
  ⟨some 87, some (85, false), .mov (.t 7)⟩,
  ⟨some 88, some (85, false), .faddr 1 (.t 1)⟩,
  ⟨some 89, some (85, false), .iaddrA 4 4 (.t 88) (.t 86)⟩,
  ⟨some 90, some (85, false), .iaddrA 4 1 (.t 89) (.t 87)⟩,
  ⟨some 91, some (85, false), .load 1 false (.t 90)⟩,
  ⟨some 92, some (85, false), .mov (.t 8)⟩,
  ⟨some 93, some (85, false), .bin .geq (.t 91) (.t 92)⟩,
  ⟨some 94, none, .pick (.t 85) (.c (.bool true)) (.t 93)⟩]
abbrev c21_r29 : List Ins := [
  ⟨some 2, none, .mov (.c (.bool false))⟩]
abbrev c21_r30 : List Ins := [
  ⟨some 55, none, .mov (.t 7)⟩,
  ⟨some 56, none, .bin .add (.t 55) (.c (.int .i64 1))⟩,
  ⟨some 7, none, .mov (.t 56)⟩]
abbrev c21_l31 : IR := .seq (.seq (.reg c21_r20) (.cond (.t 54) (.skip) (.exit 6))) (.seq (.blk 7 (.seq (.reg c21_r21) (.seq (.seq (.reg c21_r22) (.cond (.t 64) (.seq (.reg c21_r23) (.blk 8 (.loop c21_l27))) (.skip))) (.seq (.reg c21_r28) (.cond (.t 94) (.seq (.reg c21_r29) (.ret)) (.skip)))))) (.reg c21_r30))
abbrev c21_r32 : List Ins := [
  ⟨some 51, none, .mov (.t 6)⟩,
  ⟨some 52, none, .bin .add (.t 51) (.c (.int .i64 1))⟩,
  ⟨some 6, none, .mov (.t 52)⟩]
abbrev c21_l33 : IR := .seq (.seq (.reg c21_r18) (.cond (.t 50) (.skip) (.exit 4))) (.seq (.blk 5 (.seq (.reg c21_r19) (.blk 6 (.loop c21_l31)))) (.reg c21_r32))
abbrev c21_r34 : List Ins := [
  ⟨some 2, none, .mov (.c (.bool true))⟩]
abbrev c21 : IR := .seq (.reg c21_r1) (.seq (.reg c21_r2) (.seq (.seq (.reg c21_r3) (.cond (.t 18) (.seq (.reg c21_r4) (.ret)) (.skip))) (.seq (.seq (.reg c21_r5) (.blk 0 (.loop c21_l16))) (.seq (.seq (.reg c21_r17) (.blk 4 (.loop c21_l33))) (.seq (.reg c21_r34) (.ret))))))
abbrev F21 : FnA := ⟨95, c21, [.t 2]⟩
theorem ok21 : cFn Try.prog 21 = some F21 := by kernel_rfl
theorem hb21 : HasBody Try.prog 21 := ⟨_, Try.func21, by kernel_rfl, by kernel_rfl⟩
/-! ref14.There -/
abbrev c22_r1 : List Ins := [
  ⟨some 2, none, .box (.t 0)⟩,
  ⟨some 4, none, .mov (.c (.bool false))⟩]
abbrev c22_r2 : List Ins := [
  ⟨some 5, none, .mov (.t 1)⟩,
  ⟨some 6, none, .bin .geq (.t 5) (.c (.int .i64 0))⟩,
  ⟨some 7, none, .mov (.t 6)⟩,
  ⟨some 8, some (7, true), .mov (.t 1)⟩,
  ⟨some 9, some (7, true), .faddr 0 (.t 2)⟩,
  ⟨some 10, some (7, true), .load 1 false (.t 9)⟩,
  ⟨some 11, some (7, true), .len (.t 10)⟩,
  ⟨some 12, some (7, true), .bin .lss (.t 8) (.t 11)⟩,
  ⟨some 13, none, .pick (.t 7) (.t 12) (.c (.bool false))⟩,
  ⟨some 4, none, .mov (.t 13)⟩]
abbrev c22 : IR := .seq (.reg c22_r1) (.seq (.reg c22_r2) (.ret))
abbrev F22 : FnA := ⟨14, c22, [.t 4]⟩
theorem ok22 : cFn Try.prog 22 = some F22 := by kernel_rfl
theorem hb22 : HasBody Try.prog 22 := ⟨_, Try.func22, by kernel_rfl, by kernel_rfl⟩
/-! units.Bounds -/
abbrev c23_r1 : List Ins := [
  ⟨some 4, none, .box (.t 0)⟩,
  ⟨some 8, none, .mov (.c (.int .i64 0))⟩,
  ⟨some 9, none, .mov (.c (.int .i64 0))⟩,
  ⟨some 10, none, .mov (.c (.bool false))⟩]
abbrev c23_r2 : List Ins := [
  ⟨some 13, none, .load 17 true (.t 4)⟩,
  ⟨some 14, none, .mov (.t 1)⟩,
  ⟨some 15, none, .call (.c (.fn 62 [] [])) [.t 13, .t 14]⟩,
  ⟨some 16, none, .un .not (.t 15)⟩,
  ⟨some 17, none, .mov (.t 16)⟩,
  ⟨some 18, some (17, false), .load 17 true (.t 4)⟩,
  ⟨some 19, some (17, false), .mov (.t 2)⟩,
  ⟨some 20, some (17, false), .call (.c (.fn 62 [] [])) [.t 18, .t 19]⟩,
  ⟨some 21, some (17, false), .un .not (.t 20)⟩,
  ⟨some 22, none, .pick (.t 17) (.c (.bool true)) (.t 21)⟩,
  ⟨some 23, none, .mov (.t 22)⟩,
  ⟨some 24, some (23, false), .mov (.t 3)⟩,
  ⟨some 25, some (23, false), .bin .lss (.t 24) (.c (.int .i64 0))⟩,
  ⟨some 26, none, .pick (.t 23) (.c (.bool true)) (.t 25)⟩,
  ⟨some 27, none, .mov (.t 26)⟩,
  ⟨some 28, some (27, false), .mov (.t 3)⟩,
  ⟨some 29, some (27, false), .faddr 0 (.t 4)⟩,
  ⟨some 30, some (27, false), .load 1 false (.t 29)⟩,
  ⟨some 31, some (27, false), .mov (.t 1)⟩,
  ⟨some 32, some (27, false), .iaddr 5 (.t 30) (.t 31)⟩,
  ⟨some 33, some (27, false), .faddr 2 (.t 32)⟩,
  ⟨some 34, some (27, false), .load 1 false (.t 33)⟩,
  ⟨some 35, some (27, false), .len (.t 34)⟩,
  ⟨some 36, some (27, false), .bin .geq (.t 28) (.t 35)⟩,
  ⟨some 37, none, .pick (.t 27) (.c (.bool true)) (.t 36)⟩]
abbrev c23_r3 : List Ins := [
  ⟨some 8, none, .mov (.c (.int .i64 0))⟩,
  ⟨some 9, none, .mov (.c (.int .i64 0))⟩,
  ⟨some 10, none, .mov (.c (.bool false))⟩]
abbrev c23_r4 : List Ins := [
  ⟨some 38, none, .mov (.t 3)⟩,
  ⟨some 39, none, .mov (.t 3)⟩,
  ⟨some 11, none, .mov (.t 38)⟩,
  ⟨some 12, none, .mov (.t 39)⟩]
abbrev c23_r5 : List Ins := [
  ⟨some 40, none, .mov (.t 11)⟩,
  ⟨some 41, none, .bin .gtr (.t 40) (.c (.int .i64 0))⟩]
abbrev c23_r6 : List Ins := [
  ⟨some 42, none, .load 17 true (.t 4)⟩,
  ⟨some 43, none, .mov (.t 1)⟩,
  ⟨some 44, none, .mov (.t 2)⟩,
  ⟨some 45, none, .mov (.t 11)⟩,
  ⟨some 46, none, .bin .sub (.t 45) (.c (.int .i64 1))⟩,
  ⟨some 47, none, .call (.c (.fn 37 [] [])) [.t 42, .t 43, .t 44, .t 46]⟩]
abbrev c23_r7 : List Ins := [
  ⟨some 48, none, .mov (.t 11)⟩,
  ⟨some 49, none, .bin .sub (.t 48) (.c (.int .i64 1))⟩,
  ⟨some 11, none, .mov (.t 49)⟩]
abbrev c23_l8 : IR := .seq (.seq (.reg c23_r5) (.cond (.t 41) (.skip) (.exit 0))) (.blk 1 (.seq (.seq (.reg c23_r6) (.cond (.t 47) (.exit 0) (.skip))) (.reg c23_r7)))
abbrev c23_r9 : List Ins := [
  ⟨some 50, none, .mov (.t 12)⟩,
  ⟨some 51, none, .bin .add (.t 50) (.c (.int .i64 1))⟩,
  ⟨some 52, none, .faddr 0 (.t 4)⟩,
  ⟨some 53, none, .load 1 false (.t 52)⟩,
  ⟨some 54, none, .mov (.t 1)⟩,
  ⟨some 55, none, .iaddr 5 (.t 53) (.t 54)⟩,
  ⟨some 56, none, .faddr 2 (.t 55)⟩,
  ⟨some 57, none, .load 1 false (.t 56)⟩,
  ⟨some 58, none, .len (.t 57)⟩,
  ⟨some 59, none, .bin .lss (.t 51) (.t 58)⟩]
abbrev c23_r10 : List Ins := [
  ⟨some 60, none, .load 17 true (.t 4)⟩,
  ⟨some 61, none, .mov (.t 1)⟩,
  ⟨some 62, none, .mov (.t 2)⟩,
  ⟨some 63, none, .mov (.t 12)⟩,
  ⟨some 64, none, .call (.c (.fn 37 [] [])) [.t 60, .t 61, .t 62, .t 63]⟩]
abbrev c23_r11 : List Ins := [
  ⟨some 65, none, .mov (.t 12)⟩,
  ⟨some 66, none, .bin .add (.t 65) (.c (.int .i64 1))⟩,
  ⟨some 12, none, .mov (.t 66)⟩]
abbrev c23_l12 : IR := .seq (.seq (.reg c23_r9) (.cond (.t 59) (.skip) (.exit 2))) (.blk 3 (.seq (.seq (.reg c23_r10) (.cond (.t 64) (.exit 2) (.skip))) (.reg c23_r11)))
abbrev c23_r13 : List Ins := [
  ⟨some 67, none, .mov (.t 11)⟩,
  ⟨some 68, none, .mov (.t 12)⟩,
  ⟨some 8, none, .mov (.t 67)⟩,
  ⟨some 9, none, .mov (.t 68)⟩,
  ⟨some 10, none, .mov (.c (.bool true))⟩]
abbrev c23 : IR := .seq (.reg c23_r1) (.scp (.seq (.seq (.reg c23_r2) (.cond (.t 37) (.seq (.reg c23_r3) (.ret)) (.skip))) (.seq (.reg c23_r4) (.seq (.skip) (.seq (.blk 0 (.loop c23_l8)) (.seq (.skip) (.seq (.blk 2 (.loop c23_l12)) (.seq (.reg c23_r13) (.ret)))))))))
abbrev F23 : FnA := ⟨69, c23, [.t 8, .t 9, .t 10]⟩
theorem ok23 : cFn Try.prog 23 = some F23 := by kernel_rfl
theorem hb23 : HasBody Try.prog 23 := ⟨_, Try.func23, by kernel_rfl, by kernel_rfl⟩
/-! cat.Open -/
abbrev c24_r1 : List Ins := [
  ⟨some 1, none, .box (.t 0)⟩,
  ⟨some 2, none, .alloc [.sl .full [], .int .i64 0, .int .i64 0, .int .i64 0, .int .i64 0, .int .i64 0, .int .i64 0, .int .i64 0, .int .i64 0, .int .i64 0, .int .i64 0, .int .i64 0, .int .i64 0, .int .i64 0, .int .i64 0, .int .i64 0, .int .i64 0]⟩]
abbrev c24_r2 : List Ins := [
  ⟨some 3, none, .load 17 true (.t 1)⟩,
  ⟨some 4, none, .call (.c (.fn 63 [] [])) [.t 3]⟩,
  ⟨none, none, .store 17 (.t 1) (.t 4)⟩]
abbrev c24_r3 : List Ins := [
  ⟨some 5, none, .load 17 true (.t 1)⟩,
  ⟨some 6, none, .mkfn 65 [] [.t 1]⟩,
  ⟨some 7, none, .call (.c (.fn 64 [] [])) [.t 5, .t 6]⟩,
  ⟨some 8, none, .faddr 1 (.t 1)⟩,
  ⟨none, none, .store 16 (.t 8) (.t 7)⟩]
abbrev c24_r4 : List Ins := [
  ⟨some 9, none, .load 17 true (.t 1)⟩,
  ⟨none, none, .store 17 (.t 2) (.t 9)⟩]
abbrev c24 : IR := .seq (.reg c24_r1) (.seq (.reg c24_r2) (.seq (.reg c24_r3) (.seq (.reg c24_r4) (.ret))))
abbrev F24 : FnA := ⟨10, c24, [.cell 2 17 true]⟩
theorem ok24 : cFn Try.prog 24 = some F24 := by kernel_rfl
theorem hb24 : HasBody Try.prog 24 := ⟨_, Try.func24, by kernel_rfl, by kernel_rfl⟩
/-! codes.NewReader -/
abbrev c25_r1 : List Ins := [
  ⟨some 2, none, .mov (.c .nilptr)⟩]
abbrev c25_r2 : List Ins := [
  ⟨some 3, none, .mov (.t 0)⟩,
  ⟨some 4, none, .build [.sl .full [], .bool false] [(0, (1, .t 3))]⟩,
  ⟨some 5, none, .box (.t 4)⟩,
  ⟨some 2, none, .mov (.t 5)⟩]
abbrev c25 : IR := .seq (.reg c25_r1) (.seq (.reg c25_r2) (.ret))
abbrev F25 : FnA := ⟨6, c25, [.t 2]⟩
theorem ok25 : cFn Try.prog 25 = some F25 := by kernel_rfl
theorem hb25 : HasBody Try.prog 25 := ⟨_, Try.func25, by kernel_rfl, by kernel_rfl⟩
/-! ref01.Read -/
abbrev c26_r1 : List Ins := [
  ⟨some 6, none, .alloc [.int .i64 0, .int .i64 0, .int .i64 0, .int .i64 0, .str ⟨#[]⟩, .sl .full []]⟩,
  ⟨some 7, none, .mov (.c (.sl .full []))⟩,
  ⟨some 8, none, .mov (.c (.bool false))⟩]
abbrev c26_r2 : List Ins := [
  ⟨some 18, none, .mov (.t 1)⟩,
  ⟨some 19, none, .mov (.t 2)⟩,
  ⟨some 20, none, .build [.int .i64 0, .int .i64 0, .int .i64 0, .int .i64 0, .str ⟨#[]⟩, .sl .full []] [(0, (1, .t 18)), (2, (1, .t 19))]⟩,
  ⟨some 9, none, .alloc [.int .i64 0, .int .i64 0, .int .i64 0, .int .i64 0, .str ⟨#[]⟩, .sl .full []]⟩,
  ⟨none, none, .store 6 (.t 9) (.t 20)⟩]
abbrev c26_r3 : List Ins := [
  ⟨some 21, none, .mov (.t 0)⟩,
  ⟨some 22, none, .len (.t 21)⟩,
  ⟨some 23, none, .bin .eql (.t 22) (.c (.int .i64 0))⟩]
abbrev c26_r4 : List Ins := [
  ⟨some 24, none, .load 6 true (.t 9)⟩,
  ⟨some 25, none, .mov (.t 0)⟩,
  ⟨none, none, .store 6 (.t 6) (.t 24)⟩,
  ⟨some 7, none, .mov (.t 25)⟩,
  ⟨some 8, none, .mov (.c (.bool false))⟩]
abbrev c26_r5 : List Ins := [
  ⟨some 26, none, .mov (.t 0)⟩,
  ⟨some 27, none, .iaddr 1 (.t 26) (.c (.int .i64 0))⟩,
  ⟨some 28, none, .load 1 false (.t 27)⟩,
  ⟨some 10, none, .mov (.t 28)⟩]
abbrev c26_r6 : List Ins := [
  ⟨some 29, none, .mov (.t 0)⟩,
  ⟨some 30, none, .slice 1 (.t 29) (some (.c (.int .i64 1))) none none⟩,
  ⟨some 11, none, .mov (.t 30)⟩]
abbrev c26_r7 : List Ins := [
  ⟨some 31, none, .mov (.t 1)⟩,
  ⟨some 32, none, .bin .eql (.t 31) (.c (.int .i64 1))⟩]
abbrev c26_r8 : List Ins := [
  ⟨some 33, none, .mov (.t 10)⟩,
  ⟨some 34, none, .call (.c (.fn 67 [] [])) [.t 33]⟩,
  ⟨some 35, none, .faddr 3 (.t 9)⟩,
  ⟨none, none, .store 1 (.t 35) (.t 34)⟩]
abbrev c26_r9 : List Ins := [
  ⟨some 36, none, .load 6 true (.t 9)⟩,
  ⟨some 37, none, .mov (.t 11)⟩,
  ⟨none, none, .store 6 (.t 6) (.t 36)⟩,
  ⟨some 7, none, .mov (.t 37)⟩,
  ⟨some 8, none, .mov (.c (.bool true))⟩]
abbrev c26_r10 : List Ins := [
  ⟨some 38, none, .mov (.t 1)⟩,
  ⟨some 39, none, .bin .eql (.t 38) (.c (.int .i64 2))⟩]
abbrev c26_r11 : List Ins := [
  ⟨some 2, none, .mov (.c (.int .i64 1))⟩]
abbrev c26_r12 : List Ins := [
  ⟨some 40, none, .mov (.t 1)⟩,
  ⟨some 41, none, .bin .eql (.t 40) (.c (.int .i64 3))⟩]
abbrev c26_r13 : List Ins := [
  ⟨some 2, none, .mov (.c (.int .i64 64))⟩]
abbrev c26_r14 : List Ins := [
  ⟨some 42, none, .mov (.t 2)⟩,
  ⟨some 43, none, .bin .lss (.t 42) (.c (.int .i64 0))⟩,
  ⟨some 44, none, .mov (.t 43)⟩,
  ⟨some 45, some (44, false), .mov (.t 10)⟩,
  ⟨some 46, some (44, false), .mov (.t 2)⟩,
  ⟨some 47, some (44, false), .conv .u64 (.t 46)⟩,
  ⟨some 48, some (44, false), .bin .gtr (.t 45) (.t 47)⟩,
  ⟨some 49, none, .pick (.t 44) (.c (.bool true)) (.t 48)⟩]
abbrev c26_r15 : List Ins := [
  ⟨some 50, none, .load 6 true (.t 9)⟩,
  ⟨some 51, none, .mov (.t 0)⟩,
  ⟨none, none, .store 6 (.t 6) (.t 50)⟩,
  ⟨some 7, none, .mov (.t 51)⟩,
  ⟨some 8, none, .mov (.c (.bool false))⟩]
abbrev c26_r16 : List Ins := [
  ⟨some 52, none, .mov (.t 10)⟩,
  ⟨some 53, none, .conv .i64 (.t 52)⟩,
  ⟨some 12, none, .mov (.t 53)⟩]
abbrev c26_r17 : List Ins := [
  ⟨some 54, none, .mov (.t 1)⟩,
  ⟨some 55, none, .bin .eql (.t 54) (.c (.int .i64 0))⟩,
  ⟨some 56, none, .mov (.t 55)⟩,
  ⟨some 57, some (56, false), .mov (.t 1)⟩,
  ⟨some 58, some (56, false), .bin .eql (.t 57) (.c (.int .i64 2))⟩,
  ⟨some 59, none, .pick (.t 56) (.c (.bool true)) (.t 58)⟩]
abbrev c26_r18 : List Ins := [
  ⟨some 60, none, .mov (.t 12)⟩,
  ⟨some 61, none, .faddr 1 (.t 9)⟩,
  ⟨none, none, .store 1 (.t 61) (.t 60)⟩]
abbrev c26_r19 : List Ins := [
  ⟨some 62, none, .load 6 true (.t 9)⟩,
  ⟨some 63, none, .mov (.t 11)⟩,
  ⟨none, none, .store 6 (.t 6) (.t 62)⟩,
  ⟨some 7, none, .mov (.t 63)⟩,
  ⟨some 8, none, .mov (.c (.bool true))⟩]
abbrev c26_r20 : List Ins := [
  ⟨some 64, none, .mov (.t 12)⟩,
  ⟨some 13, none, .mov (.t 64)⟩]
abbrev c26_r21 : List Ins := [
  ⟨some 65, none, .mov (.t 1)⟩,
  ⟨some 66, none, .bin .eql (.t 65) (.c (.int .i64 3))⟩]
abbrev c26_r22 : List Ins := [
  ⟨some 67, none, .mov (.t 12)⟩,
  ⟨some 68, none, .bin .add (.t 67) (.c (.int .i64 7))⟩,
  ⟨some 69, none, .bin .quo (.t 68) (.c (.int .i64 8))⟩,
  ⟨some 13, none, .mov (.t 69)⟩]
abbrev c26_r23 : List Ins := [
  ⟨some 70, none, .mov (.t 13)⟩,
  ⟨some 71, none, .mov (.t 11)⟩,
  ⟨some 72, none, .len (.t 71)⟩,
  ⟨some 73, none, .bin .gtr (.t 70) (.t 72)⟩]
abbrev c26_r24 : List Ins := [
  ⟨some 74, none, .load 6 true (.t 9)⟩,
  ⟨some 75, none, .mov (.t 0)⟩,
  ⟨none, none, .store 6 (.t 6) (.t 74)⟩,
  ⟨some 7, none, .mov (.t 75)⟩,
  ⟨some 8, none, .mov (.c (.bool false))⟩]
abbrev c26_r25 : List Ins := [
  ⟨some 76, none, .bsl 1 0 [.int .u64 0] []⟩,
  ⟨some 77, none, .mov (.t 11)⟩,
  ⟨some 78, none, .mov (.t 13)⟩,
  ⟨some 79, none, .slice 1 (.t 77) none (some (.t 78)) none⟩,
  ⟨some 80, none, .append 1 8 (.t 76) (.t 79)⟩,
  ⟨some 81, none, .faddr 5 (.t 9)⟩,
  ⟨none, none, .store 1 (.t 81) (.t 80)⟩]
abbrev c26_r26 : List Ins := [
  ⟨some 82, none, .mov (.t 1)⟩,
  ⟨some 83, none, .bin .eql (.t 82) (.c (.int .i64 3))⟩]
abbrev c26_r27 : List Ins := [
  ⟨some 14, none, .mov (.c (.sl .full []))⟩]
abbrev c26_r28 : List Ins := [
  ⟨some 15, none, .mov (.c (.int .i64 0))⟩]
abbrev c26_r29 : List Ins := [
  ⟨some 84, none, .mov (.t 15)⟩,
  ⟨some 85, none, .mov (.t 13)⟩,
  ⟨some 86, none, .bin .mul (.c (.int .i64 8)) (.t 85)⟩,
  ⟨some 87, none, .bin .lss (.t 84) (.t 86)⟩]
abbrev c26_r30 : List Ins := [
  ⟨some 90, none, .faddr 5 (.t 9)⟩,
  ⟨some 91, none, .load 1 false (.t 90)⟩,
  ⟨some 92, none, .mov (.t 15)⟩,
  ⟨some 93, none, .bin .quo (.t 92) (.c (.int .i64 8))⟩,
  ⟨some 94, none, .iaddr 1 (.t 91) (.t 93)⟩,
  ⟨some 95, none, .load 1 false (.t 94)⟩,
  ⟨some 16, none, .mov (.t 95)⟩]
abbrev c26_r31 : List Ins := [
  ⟨some 17, none, .mov (.c (.int .i64 0))⟩]
abbrev c26_r32 : List Ins := [
  ⟨some 96, none, .mov (.t 17)⟩,
  ⟨some 97, none, .mov (.t 15)⟩,
  ⟨some 98, none, .bin .rem (.t 97) (.c (.int .i64 8))⟩,
  ⟨some 99, none, .bin .lss (.t 96) (.t 98)⟩]
abbrev c26_r33 : List Ins := [
  ⟨some 102, none, .mov (.t 16)⟩,
  ⟨some 103, none, .bin .quo (.t 102) (.c (.int .u64 256))⟩,
  ⟨some 16, none, .mov (.t 103)⟩]
abbrev c26_r34 : List Ins := [
  ⟨some 100, none, .mov (.t 17)⟩,
  ⟨some 101, none, .bin .add (.t 100) (.c (.int .i64 1))⟩,
  ⟨some 17, none, .mov (.t 101)⟩]
abbrev c26_l35 : IR := .seq (.seq (.reg c26_r32) (.cond (.t 99) (.skip) (.exit 2))) (.seq (.blk 3 (.reg c26_r33)) (.reg c26_r34))
abbrev c26_r36 : List Ins := [
  ⟨some 104, none, .mov (.t 15)⟩,
  ⟨some 105, none, .mov (.t 12)⟩,
  ⟨some 106, none, .bin .lss (.t 104) (.t 105)⟩]
abbrev c26_r37 : List Ins := [
  ⟨some 107, none, .mov (.t 14)⟩,
  ⟨some 108, none, .mov (.t 16)⟩,
  ⟨some 109, none, .bin .rem (.t 108) (.c (.int .u64 256))⟩,
  ⟨some 110, none, .conv .u8 (.t 109)⟩,
  ⟨some 111, none, .bsl 1 1 [.int .u8 0] [(0, .t 110)]⟩,
  ⟨some 112, none, .append 1 1 (.t 107) (.t 111)⟩,
  ⟨some 14, none, .mov (.t 112)⟩]
abbrev c26_r38 : List Ins := [
  ⟨some 113, none, .mov (.t 16)⟩,
  ⟨some 114, none, .bin .rem (.t 113) (.c (.int .u64 256))⟩,
  ⟨some 115, none, .bin .neq (.t 114) (.c (.int .u64 0))⟩]
abbrev c26_r39 : List Ins := [
  ⟨some 116, none, .load 6 true (.t 9)⟩,
  ⟨some 117, none, .mov (.t 0)⟩,
  ⟨none, none, .store 6 (.t 6) (.t 116)⟩,
  ⟨some 7, none, .mov (.t 117)⟩,
  ⟨some 8, none, .mov (.c (.bool false))⟩]
abbrev c26_r40 : List Ins := [
  ⟨some 88, none, .mov (.t 15)⟩,
  ⟨some 89, none, .bin .add (.t 88) (.c (.int .i64 1))⟩,
  ⟨some 15, none, .mov (.t 89)⟩]
abbrev c26_l41 : IR := .seq (.seq (.reg c26_r29) (.cond (.t 87) (.skip) (.exit 0))) (.seq (.blk 1 (.seq (.reg c26_r30) (.seq (.seq (.reg c26_r31) (.blk 2 (.loop c26_l35))) (.seq (.reg c26_r36) (.cond (.t 106) (.reg c26_r37) (.seq (.reg c26_r38) (.cond (.t 115) (.seq (.reg c26_r39) (.ret)) (.skip)))))))) (.reg c26_r40))
abbrev c26_r42 : List Ins := [
  ⟨some 118, none, .mov (.t 14)⟩,
  ⟨some 119, none, .b2s (.t 118)⟩,
  ⟨some 120, none, .faddr 4 (.t 9)⟩,
  ⟨none, none, .store 1 (.t 120) (.t 119)⟩]
abbrev c26_r43 : List Ins := [
  ⟨some 121, none, .load 6 true (.t 9)⟩,
  ⟨some 122, none, .mov (.t 11)⟩,
  ⟨some 123, none, .mov (.t 13)⟩,
  ⟨some 124, none, .slice 1 (.t 122) (some (.t 123)) none none⟩,
  ⟨none, none, .store 6 (.t 6) (.t 121)⟩,
  ⟨some 7, none, .mov (.t 124)⟩,
  ⟨some 8, none, .mov (.c (.bool true))⟩]
def c26_a43 : List (List Nat) := [[], [], [], [1, 2], [0, 0], [3, 4, 0, 1, 2, 3, 4], [5, 0, 1, 2, 3, 4, 5]]
abbrev c26_m43 : List Am.Mark := [⟨false, 0, 0⟩, ⟨false, 0, 1⟩, ⟨false, 0, 1⟩, ⟨false, 0, 1⟩, ⟨true, 0, 1⟩, ⟨false, 1, 1⟩, ⟨false, 1, 1⟩]
theorem c26_d43 : drawFine c26_r43 c26_a43 c26_m43 = true := by decide +kernel
abbrev c26 : IR := .seq (.reg c26_r1) (.seq (.reg c26_r2) (.seq (.seq (.reg c26_r3) (.cond (.t 23) (.seq (.reg c26_r4) (.ret)) (.skip))) (.seq (.reg c26_r5) (.seq (.reg c26_r6) (.seq (.seq (.reg c26_r7) (.cond (.t 32) (.seq (.reg c26_r8) (.seq (.reg c26_r9) (.ret))) (.skip))) (.seq (.seq (.reg c26_r10) (.cond (.t 39) (.reg c26_r11) (.skip))) (.seq (.seq (.reg c26_r12) (.cond (.t 41) (.reg c26_r13) (.skip))) (.seq (.seq (.reg c26_r14) (.cond (.t 49) (.seq (.reg c26_r15) (.ret)) (.skip))) (.seq (.reg c26_r16) (.seq (.seq (.reg c26_r17) (.cond (.t 59) (.seq (.reg c26_r18) (.seq (.reg c26_r19) (.ret))) (.skip))) (.seq (.reg c26_r20) (.seq (.seq (.reg c26_r21) (.cond (.t 66) (.reg c26_r22) (.skip))) (.seq (.seq (.reg c26_r23) (.cond (.t 73) (.seq (.reg c26_r24) (.ret)) (.skip))) (.seq (.reg c26_r25) (.seq (.seq (.reg c26_r26) (.cond (.t 83) (.seq (.reg c26_r27) (.seq (.seq (.reg c26_r28) (.blk 0 (.loop c26_l41))) (.reg c26_r42))) (.skip))) (.seq (.dreg c26_r43 c26_a43) (.ret)))))))))))))))))
abbrev F26 : FnA := ⟨125, c26, [.cell 6 6 true, .t 7, .t 8]⟩
theorem ok26 : cFn Try.prog 26 = some F26 := by kernel_rfl
theorem hb26 : HasBody Try.prog 26 := ⟨_, Try.func26, by kernel_rfl, by kernel_rfl⟩
/-! law01.read -/
abbrev c27_r1 : List Ins := [
  ⟨some 3, none, .box (.t 1)⟩,
  ⟨some 4, none, .mov (.c (.bool false))⟩]
abbrev c27_r2 : List Ins := [
  ⟨some 5, none, .faddr 0 (.t 3)⟩,
  ⟨some 6, none, .load 1 false (.t 5)⟩]
abbrev c27_r3 : List Ins := [
  ⟨some 8, none, .bin .eql (.t 6) (.c (.int .i64 0))⟩,
  ⟨some 7, none, .mov (.t 8)⟩]
abbrev c27_r4 : List Ins := [
  ⟨some 9, none, .mov (.t 0)⟩,
  ⟨some 10, none, .faddr 2 (.t 3)⟩,
  ⟨some 11, none, .load 1 false (.t 10)⟩,
  ⟨some 12, none, .call (.c (.fn 68 [] [])) [.t 9, .t 11]⟩,
  ⟨some 13, none, .faddr 1 (.t 3)⟩,
  ⟨some 14, none, .load 1 false (.t 13)⟩,
  ⟨some 15, none, .bin .eql (.t 12) (.t 14)⟩,
  ⟨some 4, none, .mov (.t 15)⟩]
def c27_a4 : List (List Nat) := [[], [], [1], [0, 2], [], [4], [3, 5], [6, 3, 0, 1, 2, 3, 4, 5, 6]]
abbrev c27_m4 : List Am.Mark := [⟨false, 0, 0⟩, ⟨false, 0, 1⟩, ⟨false, 0, 0⟩, ⟨true, 0, 1⟩, ⟨false, 0, 1⟩, ⟨false, 0, 1⟩, ⟨false, 1, 1⟩, ⟨false, 1, 1⟩]
theorem c27_d4 : drawFine c27_r4 c27_a4 c27_m4 = true := by decide +kernel
abbrev c27_r5 : List Ins := [
  ⟨some 17, none, .bin .eql (.t 6) (.c (.int .i64 1))⟩,
  ⟨some 16, none, .mov (.t 17)⟩]
abbrev c27_r6 : List Ins := [
  ⟨some 18, none, .mov (.t 0)⟩,
  ⟨some 19, none, .call (.c (.fn 69 [] [])) [.t 18]⟩,
  ⟨some 20, none, .faddr 3 (.t 3)⟩,
  ⟨some 21, none, .load 1 false (.t 20)⟩,
  ⟨some 22, none, .bin .eql (.t 19) (.t 21)⟩,
  ⟨some 4, none, .mov (.t 22)⟩]
def c27_a6 : List (List Nat) := [[], [0], [], [2], [1, 3], [4, 1, 0, 1, 2, 3, 4]]
abbrev c27_m6 : List Am.Mark := [⟨false, 0, 0⟩, ⟨true, 0, 1⟩, ⟨false, 0, 1⟩, ⟨false, 0, 1⟩, ⟨false, 1, 1⟩, ⟨false, 1, 1⟩]
theorem c27_d6 : drawFine c27_r6 c27_a6 c27_m6 = true := by decide +kernel
abbrev c27_r7 : List Ins := [
  ⟨some 24, none, .bin .eql (.t 6) (.c (.int .i64 2))⟩,
  ⟨some 23, none, .mov (.t 24)⟩]
abbrev c27_r8 : List Ins := [
  ⟨some 25, none, .mov (.t 0)⟩,
  ⟨some 26, none, .call (.c (.fn 70 [] [])) [.t 25]⟩,
  ⟨some 27, none, .faddr 1 (.t 3)⟩,
  ⟨some 28, none, .load 1 false (.t 27)⟩,
  ⟨some 29, none, .bin .eql (.t 28) (.c (.int .i64 1))⟩,
  ⟨some 30, none, .eq [.b] false false (.t 26) (.t 29)⟩,
  ⟨some 4, none, .mov (.t 30)⟩]
def c27_a8 : List (List Nat) := [[], [0], [], [2], [3], [1, 4], [5, 1, 0, 1, 2, 3, 4, 5]]
abbrev c27_m8 : List Am.Mark := [⟨false, 0, 0⟩, ⟨true, 0, 1⟩, ⟨false, 0, 1⟩, ⟨false, 0, 1⟩, ⟨false, 0, 1⟩, ⟨false, 1, 1⟩, ⟨false, 1, 1⟩]
theorem c27_d8 : drawFine c27_r8 c27_a8 c27_m8 = true := by decide +kernel
abbrev c27_r9 : List Ins := [
  ⟨some 32, none, .bin .eql (.t 6) (.c (.int .i64 3))⟩,
  ⟨some 31, none, .mov (.t 32)⟩]
abbrev c27_r10 : List Ins := [
  ⟨some 33, none, .mov (.t 0)⟩,
  ⟨some 34, none, .call (.c (.fn 71 [] [])) [.t 33]⟩,
  ⟨some 35, none, .faddr 4 (.t 3)⟩,
  ⟨some 36, none, .load 1 false (.t 35)⟩,
  ⟨some 37, none, .bin .eql (.t 34) (.t 36)⟩,
  ⟨some 4, none, .mov (.t 37)⟩]
def c27_a10 : List (List Nat) := [[], [0], [], [2], [1, 3], [4, 1, 0, 1, 2, 3, 4]]
abbrev c27_m10 : List Am.Mark := [⟨false, 0, 0⟩, ⟨true, 0, 1⟩, ⟨false, 0, 1⟩, ⟨false, 0, 1⟩, ⟨false, 1, 1⟩, ⟨false, 1, 1⟩]
theorem c27_d10 : drawFine c27_r10 c27_a10 c27_m10 = true := by decide +kernel
abbrev c27_r11 : List Ins := [
  ⟨some 38, none, .mov (.t 0)⟩,
  ⟨some 39, none, .faddr 2 (.t 3)⟩,
  ⟨some 40, none, .load 1 false (.t 39)⟩,
  ⟨some 41, none, .call (.c (.fn 72 [] [])) [.t 38, .t 40]⟩,
  ⟨some 42, none, .faddr 5 (.t 3)⟩,
  ⟨some 43, none, .load 1 false (.t 42)⟩,
  ⟨some 44, none, .call (.c (.fn 18 [] [])) [.t 41, .t 43]⟩,
  ⟨some 4, none, .mov (.t 44)⟩]
def c27_a11 : List (List Nat) := [[], [], [1], [0, 2], [], [4], [3, 5, 3], [6, 6, 0, 1, 2, 3, 4, 5, 6]]
abbrev c27_m11 : List Am.Mark := [⟨false, 0, 0⟩, ⟨false, 0, 1⟩, ⟨false, 0, 0⟩, ⟨true, 0, 1⟩, ⟨false, 0, 1⟩, ⟨false, 0, 1⟩, ⟨false, 1, 1⟩, ⟨false, 1, 1⟩]
theorem c27_d11 : drawFine c27_r11 c27_a11 c27_m11 = true := by decide +kernel
abbrev c27 : IR := .seq (.reg c27_r1) (.seq (.seq (.reg c27_r2) (.blk 0 (.seq (.reg c27_r3) (.cond (.t 7) (.seq (.dreg c27_r4 c27_a4) (.ret)) (.seq (.reg c27_r5) (.cond (.t 16) (.seq (.dreg c27_r6 c27_a6) (.ret)) (.seq (.reg c27_r7) (.cond (.t 23) (.seq (.dreg c27_r8 c27_a8) (.ret)) (.seq (.reg c27_r9) (.cond (.t 31) (.seq (.dreg c27_r10 c27_a10) (.ret)) (.skip))))))))))) (.seq (.dreg c27_r11 c27_a11) (.ret)))
abbrev F27 : FnA := ⟨45, c27, [.t 4]⟩
theorem ok27 : cFn Try.prog 27 = some F27 := by kernel_rfl
theorem hb27 : HasBody Try.prog 27 := ⟨_, Try.func27, by kernel_rfl, by kernel_rfl⟩
/-! codes.Reader.Ok -/
abbrev c28_r1 : List Ins := [
  ⟨some 2, none, .mov (.c (.bool false))⟩]
abbrev c28_r2 : List Ins := [
  ⟨some 3, none, .mov (.t 0)⟩,
  ⟨some 4, none, .nilck (.t 3)⟩,
  ⟨some 5, none, .faddr 1 (.t 4)⟩,
  ⟨some 6, none, .load 1 false (.t 5)⟩,
  ⟨some 7, none, .un .not (.t 6)⟩,
  ⟨some 2, none, .mov (.t 7)⟩]
abbrev c28 : IR := .seq (.reg c28_r1) (.seq (.reg c28_r2) (.ret))
abbrev F28 : FnA := ⟨8, c28, [.t 2]⟩
theorem ok28 : cFn Try.prog 28 = some F28 := by kernel_rfl
theorem hb28 : HasBody Try.prog 28 := ⟨_, Try.func28, by kernel_rfl, by kernel_rfl⟩
/-! codes.Reader.End -/
abbrev c29_r1 : List Ins := [
  ⟨some 2, none, .mov (.c (.bool false))⟩]
abbrev c29_r2 : List Ins := [
  ⟨some 3, none, .mov (.t 0)⟩,
  ⟨some 4, none, .nilck (.t 3)⟩,
  ⟨some 5, none, .faddr 1 (.t 4)⟩,
  ⟨some 6, none, .load 1 false (.t 5)⟩,
  ⟨some 7, none, .un .not (.t 6)⟩,
  ⟨some 8, none, .mov (.t 7)⟩,
  ⟨some 9, some (8, true), .mov (.t 0)⟩,
  ⟨some 10, some (8, true), .nilck (.t 9)⟩,
  ⟨some 11, some (8, true), .faddr 0 (.t 10)⟩,
  ⟨some 12, some (8, true), .load 1 false (.t 11)⟩,
  ⟨some 13, some (8, true), .len (.t 12)⟩,
  ⟨some 14, some (8, true), .bin .eql (.t 13) (.c (.int .i64 0))⟩,
  ⟨some 15, none, .pick (.t 8) (.t 14) (.c (.bool false))⟩,
  ⟨some 2, none, .mov (.t 15)⟩]
abbrev c29 : IR := .seq (.reg c29_r1) (.seq (.reg c29_r2) (.ret))
abbrev F29 : FnA := ⟨16, c29, [.t 2]⟩
theorem ok29 : cFn Try.prog 29 = some F29 := by kernel_rfl
theorem hb29 : HasBody Try.prog 29 := ⟨_, Try.func29, by kernel_rfl, by kernel_rfl⟩
/-! ref14.Bounds -/
abbrev c30_r1 : List Ins := [
  ⟨some 4, none, .box (.t 0)⟩,
  ⟨some 8, none, .mov (.c (.int .i64 0))⟩,
  ⟨some 9, none, .mov (.c (.int .i64 0))⟩,
  ⟨some 10, none, .mov (.c (.bool false))⟩]
abbrev c30_r2 : List Ins := [
  ⟨some 14, none, .load 17 true (.t 4)⟩,
  ⟨some 15, none, .mov (.t 1)⟩,
  ⟨some 16, none, .call (.c (.fn 22 [] [])) [.t 14, .t 15]⟩,
  ⟨some 17, none, .un .not (.t 16)⟩,
  ⟨some 18, none, .mov (.t 17)⟩,
  ⟨some 19, some (18, false), .load 17 true (.t 4)⟩,
  ⟨some 20, some (18, false), .mov (.t 2)⟩,
  ⟨some 21, some (18, false), .call (.c (.fn 22 [] [])) [.t 19, .t 20]⟩,
  ⟨some 22, some (18, false), .un .not (.t 21)⟩,
  ⟨some 23, none, .pick (.t 18) (.c (.bool true)) (.t 22)⟩,
  ⟨some 24, none, .mov (.t 23)⟩,
  ⟨some 25, some (24, false), .mov (.t 3)⟩,
  ⟨some 26, some (24, false), .bin .lss (.t 25) (.c (.int .i64 0))⟩,
  ⟨some 27, none, .pick (.t 24) (.c (.bool true)) (.t 26)⟩,
  ⟨some 28, none, .mov (.t 27)⟩,
  ⟨some 29, some (28, false), .mov (.t 3)⟩,
  ⟨some 30, some (28, false), .faddr 0 (.t 4)⟩,
  ⟨some 31, some (28, false), .load 1 false (.t 30)⟩,
  ⟨some 32, some (28, false), .mov (.t 1)⟩,
  ⟨some 33, some (28, false), .iaddr 5 (.t 31) (.t 32)⟩,
  ⟨some 34, some (28, false), .faddr 2 (.t 33)⟩,
  ⟨some 35, some (28, false), .load 1 false (.t 34)⟩,
  ⟨some 36, some (28, false), .len (.t 35)⟩,
  ⟨some 37, some (28, false), .bin .geq (.t 29) (.t 36)⟩,
  ⟨some 38, none, .pick (.t 28) (.c (.bool true)) (.t 37)⟩]
abbrev c30_r3 : List Ins := [
  ⟨some 8, none, .mov (.c (.int .i64 0))⟩,
  ⟨some 9, none, .mov (.c (.int .i64 0))⟩,
  ⟨some 10, none, .mov (.c (.bool false))⟩]
abbrev c30_r4 : List Ins := [
  ⟨some 11, none, .mov (.c (.int .i64 (-1)))⟩,
  ⟨some 12, none, .mov (.c (.int .i64 (-1)))⟩]
abbrev c30_r5 : List Ins := [
  ⟨some 13, none, .mov (.c (.int .i64 0))⟩]
abbrev c30_r6 : List Ins := [
  ⟨some 39, none, .mov (.t 13)⟩,
  ⟨some 40, none, .faddr 0 (.t 4)⟩,
  ⟨some 41, none, .load 1 false (.t 40)⟩,
  ⟨some 42, none, .mov (.t 1)⟩,
  ⟨some 43, none, .iaddr 5 (.t 41) (.t 42)⟩,
  ⟨some 44, none, .faddr 2 (.t 43)⟩,
  ⟨some 45, none, .load 1 false (.t 44)⟩,
  ⟨some 46, none, .len (.t 45)⟩,
  ⟨some 47, none, .bin .lss (.t 39) (.t 46)⟩]
abbrev c30_r7 : List Ins := [
  ⟨some 50, none, .load 17 true (.t 4)⟩,
  ⟨some 51, none, .mov (.t 1)⟩,
  ⟨some 52, none, .mov (.t 2)⟩,
  ⟨some 53, none, .mov (.t 13)⟩,
  ⟨some 54, none, .call (.c (.fn 73 [] [])) [.t 50, .t 51, .t 52, .t 53]⟩,
  ⟨some 55, none, .load 17 true (.t 4)⟩,
  ⟨some 56, none, .mov (.t 1)⟩,
  ⟨some 57, none, .mov (.t 2)⟩,
  ⟨some 58, none, .mov (.t 3)⟩,
  ⟨some 59, none, .call (.c (.fn 73 [] [])) [.t 55, .t 56, .t 57, .t 58]⟩,
  ⟨some 60, none, .bin .eql (.t 54) (.t 59)⟩]
def c30_a7 : List (List Nat) := [[], [], [], [], [0, 1, 2, 3], [], [], [], [], [5, 6, 7, 8, 4], [4, 9]]
abbrev c30_m7 : List Am.Mark := [⟨false, 0, 0⟩, ⟨false, 0, 0⟩, ⟨false, 0, 0⟩, ⟨false, 0, 0⟩, ⟨false, 0, 0⟩, ⟨false, 0, 0⟩, ⟨false, 0, 0⟩, ⟨false, 0, 0⟩, ⟨false, 0, 0⟩, ⟨false, 0, 0⟩, ⟨false, 0, 0⟩]
theorem c30_d7 : drawFine c30_r7 c30_a7 c30_m7 = true := by decide +kernel
abbrev c30_r8 : List Ins := [
  ⟨some 61, none, .mov (.t 11)⟩,
  ⟨some 62, none, .bin .lss (.t 61) (.c (.int .i64 0))⟩]
abbrev c30_r9 : List Ins := [
  ⟨some 63, none, .mov (.t 13)⟩,
  ⟨some 11, none, .mov (.t 63)⟩]
abbrev c30_r10 : List Ins := [
  ⟨some 64, none, .mov (.t 13)⟩,
  ⟨some 12, none, .mov (.t 64)⟩]
abbrev c30_r11 : List Ins := [
  ⟨some 48, none, .mov (.t 13)⟩,
  ⟨some 49, none, .bin .add (.t 48) (.c (.int .i64 1))⟩,
  ⟨some 13, none, .mov (.t 49)⟩]
abbrev c30_l12 : IR := .seq (.seq (.reg c30_r6) (.cond (.t 47) (.skip) (.exit 0))) (.seq (.blk 1 (.seq (.dreg c30_r7 c30_a7) (.cond (.t 60) (.seq (.seq (.reg c30_r8) (.cond (.t 62) (.reg c30_r9) (.skip))) (.reg c30_r10)) (.skip)))) (.reg c30_r11))
abbrev c30_r13 : List Ins := [
  ⟨some 65, none, .mov (.t 11)⟩,
  ⟨some 66, none, .mov (.t 12)⟩,
  ⟨some 8, none, .mov (.t 65)⟩,
  ⟨some 9, none, .mov (.t 66)⟩,
  ⟨some 10, none, .mov (.c (.bool true))⟩]
abbrev c30 : IR := .seq (.reg c30_r1) (.seq (.seq (.reg c30_r2) (.cond (.t 38) (.seq (.reg c30_r3) (.ret)) (.skip))) (.seq (.reg c30_r4) (.seq (.seq (.reg c30_r5) (.blk 0 (.loop c30_l12))) (.seq (.reg c30_r13) (.ret)))))
abbrev F30 : FnA := ⟨67, c30, [.t 8, .t 9, .t 10]⟩
theorem ok30 : cFn Try.prog 30 = some F30 := by kernel_rfl
theorem hb30 : HasBody Try.prog 30 := ⟨_, Try.func30, by kernel_rfl, by kernel_rfl⟩
/-! units.Open -/
abbrev c31_r1 : List Ins := [
  ⟨some 4, none, .box (.t 0)⟩,
  ⟨some 8, none, .mov (.c (.bool false))⟩]
abbrev c31_r2 : List Ins := [
  ⟨some 13, none, .load 17 true (.t 4)⟩,
  ⟨some 14, none, .mov (.t 1)⟩,
  ⟨some 15, none, .mov (.t 2)⟩,
  ⟨some 16, none, .mov (.t 3)⟩,
  ⟨some 17, none, .bin .sub (.t 16) (.c (.int .i64 1))⟩,
  ⟨some 18, none, .call (.c (.fn 23 [] [])) [.t 13, .t 14, .t 15, .t 17]⟩,
  ⟨some 12, none, .mov (.t 18)⟩,
  ⟨some 19, none, .ext (.t 12) 0⟩,
  ⟨some 20, none, .ext (.t 12) 1⟩,
  ⟨some 21, none, .ext (.t 12) 2⟩,
  ⟨some 9, none, .mov (.t 19)⟩,
  ⟨some 10, none, .mov (.t 20)⟩,
  ⟨some 11, none, .mov (.t 21)⟩]
abbrev c31_r3 : List Ins := [
  ⟨some 22, none, .mov (.t 11)⟩,
  ⟨some 23, none, .mov (.t 22)⟩,
  ⟨some 24, some (23, true), .mov (.t 10)⟩,
  ⟨some 25, some (23, true), .mov (.t 3)⟩,
  ⟨some 26, some (23, true), .bin .sub (.t 25) (.c (.int .i64 1))⟩,
  ⟨some 27, some (23, true), .bin .gtr (.t 24) (.t 26)⟩,
  ⟨some 28, none, .pick (.t 23) (.t 27) (.c (.bool false))⟩,
  ⟨some 8, none, .mov (.t 28)⟩]
abbrev c31 : IR := .seq (.reg c31_r1) (.seq (.reg c31_r2) (.seq (.reg c31_r3) (.ret)))
abbrev F31 : FnA := ⟨29, c31, [.t 8]⟩
theorem ok31 : cFn Try.prog 31 = some F31 := by kernel_rfl
theorem hb31 : HasBody Try.prog 31 := ⟨_, Try.func31, by kernel_rfl, by kernel_rfl⟩
/-! cat.Closed -/
abbrev c32_r1 : List Ins := [
  ⟨some 1, none, .box (.t 0)⟩,
  ⟨some 2, none, .alloc [.sl .full [], .int .i64 0, .int .i64 0, .int .i64 0, .int .i64 0, .int .i64 0, .int .i64 0, .int .i64 0, .int .i64 0, .int .i64 0, .int .i64 0, .int .i64 0, .int .i64 0, .int .i64 0, .int .i64 0, .int .i64 0, .int .i64 0]⟩]
abbrev c32_r2 : List Ins := [
  ⟨some 3, none, .load 17 true (.t 1)⟩,
  ⟨some 4, none, .call (.c (.fn 63 [] [])) [.t 3]⟩,
  ⟨none, none, .store 17 (.t 1) (.t 4)⟩]
abbrev c32_r3 : List Ins := [
  ⟨some 5, none, .build [.int .i64 0, .int .i64 0, .int .i64 0, .int .i64 0, .int .i64 0, .int .i64 0, .int .i64 0, .int .i64 0, .int .i64 0, .int .i64 0, .int .i64 0, .int .i64 0, .int .i64 0, .int .i64 0, .int .i64 0, .int .i64 0] []⟩,
  ⟨some 6, none, .faddr 1 (.t 1)⟩,
  ⟨none, none, .store 16 (.t 6) (.t 5)⟩]
abbrev c32_r4 : List Ins := [
  ⟨some 7, none, .load 17 true (.t 1)⟩,
  ⟨none, none, .store 17 (.t 2) (.t 7)⟩]
abbrev c32 : IR := .seq (.reg c32_r1) (.seq (.reg c32_r2) (.seq (.reg c32_r3) (.seq (.reg c32_r4) (.ret))))
abbrev F32 : FnA := ⟨8, c32, [.cell 2 17 true]⟩
theorem ok32 : cFn Try.prog 32 = some F32 := by kernel_rfl
theorem hb32 : HasBody Try.prog 32 := ⟨_, Try.func32, by kernel_rfl, by kernel_rfl⟩
/-! cat.Break -/
abbrev c37_r1 : List Ins := [
  ⟨some 4, none, .box (.t 0)⟩,
  ⟨some 8, none, .mov (.c (.bool false))⟩]
abbrev c37_r2 : List Ins := [
  ⟨some 10, none, .mkfn 78 [] [.t 4]⟩,
  ⟨some 9, none, .mov (.t 10)⟩]
abbrev c37_r3 : List Ins := [
  ⟨some 11, none, .mov (.t 9)⟩,
  ⟨some 12, none, .mov (.t 1)⟩,
  ⟨some 13, none, .call (.t 11) [.t 12]⟩,
  ⟨some 14, none, .un .not (.t 13)⟩,
  ⟨some 15, none, .mov (.t 14)⟩,
  ⟨some 16, some (15, false), .mov (.t 9)⟩,
  ⟨some 17, some (15, false), .mov (.t 2)⟩,
  ⟨some 18, some (15, false), .call (.t 16) [.t 17]⟩,
  ⟨some 19, some (15, false), .un .not (.t 18)⟩,
  ⟨some 20, none, .pick (.t 15) (.c (.bool true)) (.t 19)⟩,
  ⟨some 21, none, .mov (.t 20)⟩,
  ⟨some 22, some (21, false), .mov (.t 3)⟩,
  ⟨some 23, some (21, false), .bin .lss (.t 22) (.c (.int .i64 0))⟩,
  ⟨some 24, none, .pick (.t 21) (.c (.bool true)) (.t 23)⟩,
  ⟨some 25, none, .mov (.t 24)⟩,
  ⟨some 26, some (25, false), .mov (.t 3)⟩,
  ⟨some 27, some (25, false), .faddr 0 (.t 4)⟩,
  ⟨some 28, some (25, false), .load 1 false (.t 27)⟩,
  ⟨some 29, some (25, false), .mov (.t 1)⟩,
  ⟨some 30, some (25, false), .iaddr 5 (.t 28) (.t 29)⟩,
  ⟨some 31, some (25, false), .faddr 2 (.t 30)⟩,
  ⟨some 32, some (25, false), .load 1 false (.t 31)⟩,
  ⟨some 33, some (25, false), .len (.t 32)⟩,
  ⟨some 34, some (25, false), .bin .sub (.t 33) (.c (.int .i64 1))⟩,
  ⟨some 35, some (25, false), .bin .geq (.t 26) (.t 34)⟩,
  ⟨some 36, none, .pick (.t 25) (.c (.bool true)) (.t 35)⟩]
abbrev c37_r4 : List Ins := [
  ⟨some 8, none, .mov (.c (.bool false))⟩]
abbrev c37_r5 : List Ins := [
  ⟨some 37, none, .mov (.t 1)⟩,
  ⟨some 38, none, .mov (.t 2)⟩,
  ⟨some 39, none, .faddr 1 (.t 4)⟩,
  ⟨some 40, none, .iaddrA 4 4 (.t 39) (.t 37)⟩,
  ⟨some 41, none, .iaddrA 4 1 (.t 40) (.t 38)⟩,
  ⟨some 42, none, .load 1 false (.t 41)⟩,
  ⟨some 43, none, .mov (.t 3)⟩,
  ⟨some 44, none, .bin .shr (.t 42) (.t 43)⟩,
  ⟨some 45, none, .bin .and (.t 44) (.c (.int .i64 1))⟩,
  ⟨some 46, none, .bin .eql (.t 45) (.c (.int .i64 1))⟩,
  ⟨some 8, none, .mov (.t 46)⟩]
abbrev c37 : IR := .seq (.reg c37_r1) (.seq (.reg c37_r2) (.seq (.seq (.reg c37_r3) (.cond (.t 36) (.seq (.reg c37_r4) (.ret)) (.skip))) (.seq (.reg c37_r5) (.ret))))
abbrev F37 : FnA := ⟨47, c37, [.t 8]⟩
theorem ok37 : cFn Try.prog 37 = some F37 := by kernel_rfl
theorem hb37 : HasBody Try.prog 37 := ⟨_, Try.func37, by kernel_rfl, by kernel_rfl⟩
/-! ref12.Break -/
abbrev c38_r1 : List Ins := [
  ⟨some 4, none, .box (.t 0)⟩,
  ⟨some 8, none, .mov (.c (.bool false))⟩]
abbrev c38_r2 : List Ins := [
  ⟨some 10, none, .faddr 0 (.t 4)⟩,
  ⟨some 11, none, .load 1 false (.t 10)⟩,
  ⟨some 12, none, .len (.t 11)⟩,
  ⟨some 9, none, .mov (.t 12)⟩]
abbrev c38_r3 : List Ins := [
  ⟨some 13, none, .mov (.t 1)⟩,
  ⟨some 14, none, .bin .geq (.t 13) (.c (.int .i64 0))⟩,
  ⟨some 15, none, .mov (.t 14)⟩,
  ⟨some 16, some (15, true), .mov (.t 1)⟩,
  ⟨some 17, some (15, true), .mov (.t 9)⟩,
  ⟨some 18, some (15, true), .bin .lss (.t 16) (.t 17)⟩,
  ⟨some 19, none, .pick (.t 15) (.t 18) (.c (.bool false))⟩,
  ⟨some 20, none, .mov (.t 19)⟩,
  ⟨some 21, some (20, true), .mov (.t 1)⟩,
  ⟨some 22, some (20, true), .bin .lss (.t 21) (.c (.int .i64 4))⟩,
  ⟨some 23, none, .pick (.t 20) (.t 22) (.c (.bool false))⟩,
  ⟨some 24, none, .mov (.t 23)⟩,
  ⟨some 25, some (24, true), .mov (.t 2)⟩,
  ⟨some 26, some (24, true), .bin .geq (.t 25) (.c (.int .i64 0))⟩,
  ⟨some 27, none, .pick (.t 24) (.t 26) (.c (.bool false))⟩,
  ⟨some 28, none, .mov (.t 27)⟩,
  ⟨some 29, some (28, true), .mov (.t 2)⟩,
  ⟨some 30, some (28, true), .mov (.t 9)⟩,
  ⟨some 31, some (28, true), .bin .lss (.t 29) (.t 30)⟩,
  ⟨some 32, none, .pick (.t 28) (.t 31) (.c (.bool false))⟩,
  ⟨some 33, none, .mov (.t 32)⟩,
  ⟨some 34, some (33, true), .mov (.t 2)⟩,
  ⟨some 35, some (33, true), .bin .lss (.t 34) (.c (.int .i64 4))⟩,
  ⟨some 36, none, .pick (.t 33) (.t 35) (.c (.bool false))⟩,
  ⟨some 37, none, .mov (.t 36)⟩,
  ⟨some 38, some (37, true), .mov (.t 3)⟩,
  ⟨some 39, some (37, true), .bin .geq (.t 38) (.c (.int .i64 0))⟩,
  ⟨some 40, none, .pick (.t 37) (.t 39) (.c (.bool false))⟩,
  ⟨some 41, none, .mov (.t 40)⟩,
  ⟨some 42, some (41, true), .mov (.t 3)⟩,
  ⟨some 43, some (41, true), .bin .add (.t 42) (.c (.int .i64 1))⟩,
  ⟨some 44, some (41, true), .faddr 0 (.t 4)⟩,
  ⟨some 45, some (41, true), .load 1 false (.t 44)⟩,
  ⟨some 46, some (41, true), .mov (.t 1)⟩,
  ⟨some 47, some (41, true), .iaddr 5 (.t 45) (.t 46)⟩,
  ⟨some 48, some (41, true), .faddr 2 (.t 47)⟩,
  ⟨some 49, some (41, true), .load 1 false (.t 48)⟩,
  ⟨some 50, some (41, true), .len (.t 49)⟩,
  ⟨some 51, some (41, true), .bin .lss (.t 43) (.t 50)⟩,
  ⟨some 52, none, .pick (.t 41) (.t 51) (.c (.bool false))⟩,
  ⟨some 53, none, .mov (.t 52)⟩,
  ⟨some 54, some (53, true), .mov (.t 1)⟩,
  ⟨some 55, some (53, true), .mov (.t 2)⟩,
  ⟨some 56, some (53, true), .faddr 1 (.t 4)⟩,
  ⟨some 57, some (53, true), .iaddrA 4 4 (.t 56) (.t 54)⟩,
  ⟨some 58, some (53, true), .iaddrA 4 1 (.t 57) (.t 55)⟩,
  ⟨some 59, some (53, true), .load 1 false (.t 58)⟩,
  ⟨some 60, some (53, true), .mov (.t 3)⟩,
  ⟨some 61, some (53, true), .call (.c (.fn 79 [] [])) [.t 59, .t 60]⟩,
  ⟨some 62, none, .pick (.t 53) (.t 61) (.c (.bool false))⟩,
  ⟨some 8, none, .mov (.t 62)⟩]
abbrev c38 : IR := .seq (.reg c38_r1) (.seq (.reg c38_r2) (.seq (.reg c38_r3) (.ret)))
abbrev F38 : FnA := ⟨63, c38, [.t 8]⟩
theorem ok38 : cFn Try.prog 38 = some F38 := by kernel_rfl
theorem hb38 : HasBody Try.prog 38 := ⟨_, Try.func38, by kernel_rfl, by kernel_rfl⟩
/-! ref12.Same -/
abbrev c41_r1 : List Ins := [
  ⟨some 2, none, .box (.t 0)⟩,
  ⟨some 3, none, .box (.t 1)⟩,
  ⟨some 4, none, .mov (.c (.bool false))⟩]
abbrev c41_r2 : List Ins := [
  ⟨some 6, none, .faddr 0 (.t 2)⟩,
  ⟨some 7, none, .load 1 false (.t 6)⟩,
  ⟨some 8, none, .len (.t 7)⟩,
  ⟨some 9, none, .faddr 0 (.t 3)⟩,
  ⟨some 10, none, .load 1 false (.t 9)⟩,
  ⟨some 11, none, .len (.t 10)⟩,
  ⟨some 12, none, .bin .neq (.t 8) (.t 11)⟩,
  ⟨some 13, none, .mov (.t 12)⟩,
  ⟨some 14, some (13, false), .faddr 1 (.t 2)⟩,
  ⟨some 15, some (13, false), .load 16 true (.t 14)⟩,
  ⟨some 16, some (13, false), .faddr 1 (.t 3)⟩,
  ⟨some 17, some (13, false), .load 16 true (.t 16)⟩,
  ⟨some 18, some (13, false), .eq [.i, .i, .i, .i, .i, .i, .i, .i, .i, .i, .i, .i, .i, .i, .i, .i] true true (.t 15) (.t 17)⟩,
  ⟨some 19, none, .pick (.t 13) (.c (.bool true)) (.t 18)⟩]
abbrev c41_r3 : List Ins := [
  ⟨some 4, none, .mov (.c (.bool false))⟩]
abbrev c41_r4 : List Ins := [
  ⟨some 5, none, .mov (.c (.int .i64 0))⟩]
abbrev c41_r5 : List Ins := [
  ⟨some 20, none, .mov (.t 5)⟩,
  ⟨some 21, none, .faddr 0 (.t 2)⟩,
  ⟨some 22, none, .load 1 false (.t 21)⟩,
  ⟨some 23, none, .len (.t 22)⟩,
  ⟨some 24, none, .bin .lss (.t 20) (.t 23)⟩]
abbrev c41_r6 : List Ins := [
  ⟨some 27, none, .faddr 0 (.t 2)⟩,
  ⟨some 28, none, .load 1 false (.t 27)⟩,
  ⟨some 29, none, .mov (.t 5)⟩,
  ⟨some 30, none, .iaddr 5 (.t 28) (.t 29)⟩,
  ⟨some 31, none, .load 5 true (.t 30)⟩,
  ⟨some 32, none, .faddr 0 (.t 3)⟩,
  ⟨some 33, none, .load 1 false (.t 32)⟩,
  ⟨some 34, none, .mov (.t 5)⟩,
  ⟨some 35, none, .iaddr 5 (.t 33) (.t 34)⟩,
  ⟨some 36, none, .load 5 true (.t 35)⟩,
  ⟨some 37, none, .call (.c (.fn 45 [] [])) [.t 31, .t 36]⟩,
  ⟨some 38, none, .un .not (.t 37)⟩]
def c41_a6 : List (List Nat) := [[], [0], [], [1, 2], [3], [], [5], [], [6, 7], [8], [4, 9], [10]]
abbrev c41_m6 : List Am.Mark := [⟨false, 0, 0⟩, ⟨false, 0, 0⟩, ⟨false, 0, 0⟩, ⟨false, 0, 0⟩, ⟨false, 0, 0⟩, ⟨false, 0, 0⟩, ⟨false, 0, 0⟩, ⟨false, 0, 0⟩, ⟨false, 0, 0⟩, ⟨false, 0, 0⟩, ⟨false, 0, 0⟩, ⟨false, 0, 0⟩]
theorem c41_d6 : drawFine c41_r6 c41_a6 c41_m6 = true := by decide +kernel
abbrev c41_r7 : List Ins := [
  ⟨some 4, none, .mov (.c (.bool false))⟩]
abbrev c41_r8 : List Ins := [
  ⟨some 25, none, .mov (.t 5)⟩,
  ⟨some 26, none, .bin .add (.t 25) (.c (.int .i64 1))⟩,
  ⟨some 5, none, .mov (.t 26)⟩]
abbrev c41_l9 : IR := .seq (.seq (.reg c41_r5) (.cond (.t 24) (.skip) (.exit 0))) (.seq (.blk 1 (.seq (.dreg c41_r6 c41_a6) (.cond (.t 38) (.seq (.reg c41_r7) (.ret)) (.skip)))) (.reg c41_r8))
abbrev c41_r10 : List Ins := [
  ⟨some 4, none, .mov (.c (.bool true))⟩]
abbrev c41 : IR := .seq (.reg c41_r1) (.seq (.seq (.reg c41_r2) (.cond (.t 19) (.seq (.reg c41_r3) (.ret)) (.skip))) (.seq (.seq (.reg c41_r4) (.blk 0 (.loop c41_l9))) (.seq (.reg c41_r10) (.ret))))
abbrev F41 : FnA := ⟨39, c41, [.t 4]⟩
theorem ok41 : cFn Try.prog 41 = some F41 := by kernel_rfl
theorem hb41 : HasBody Try.prog 41 := ⟨_, Try.func41, by kernel_rfl, by kernel_rfl⟩
/-! law11.alive -/
abbrev c42_r1 : List Ins := [
  ⟨some 0, none, .mov (.c (.bool false))⟩]
abbrev c42_r2 : List Ins := [
  ⟨some 1, none, .build [.int .i64 0, .int .i64 0, .int .i64 0, .int .i64 0, .int .i64 0, .int .i64 0, .int .i64 0, .int .i64 0, .int .i64 0] [(0, (1, .c (.int .i64 5)))]⟩,
  ⟨some 2, none, .bsl 9 1 [.int .i64 0, .int .i64 0, .int .i64 0, .int .i64 0, .int .i64 0, .int .i64 0, .int .i64 0, .int .i64 0, .int .i64 0] [(0, .t 1)]⟩,
  ⟨some 3, none, .build [.sl .full [], .sl .full []] [(0, (1, .t 2))]⟩,
  ⟨some 4, none, .bsl 2 1 [.sl .full [], .sl .full []] [(0, .t 3)]⟩,
  ⟨some 5, none, .build [.sl .full [], .sl .full []] []⟩,
  ⟨some 6, none, .bsl 2 1 [.sl .full [], .sl .full []] [(0, .t 5)]⟩,
  ⟨some 7, none, .build [.str ⟨#[]⟩, .int .i64 0, .sl .full [], .sl .full [], .bool false] [(0, (1, .c (.str ⟨#[97]⟩))), (2, (1, .t 4)), (3, (1, .t 6))]⟩,
  ⟨some 8, none, .call (.c (.fn 84 [] [])) [.t 7]⟩,
  ⟨some 0, none, .mov (.t 8)⟩]
abbrev c42 : IR := .seq (.reg c42_r1) (.seq (.reg c42_r2) (.ret))
abbrev F42 : FnA := ⟨9, c42, [.t 0]⟩
theorem ok42 : cFn Try.prog 42 = some F42 := by kernel_rfl
theorem hb42 : HasBody Try.prog 42 := ⟨_, Try.func42, by kernel_rfl, by kernel_rfl⟩
/-! class.Get -/
abbrev c43_r1 : List Ins := [
  ⟨some 2, none, .alloc [.str ⟨#[]⟩, .int .i64 0, .sl .full [], .sl .full [], .bool false]⟩,
  ⟨some 3, none, .mov (.c (.bool false))⟩]
abbrev c43_r2 : List Ins := [
  ⟨some 5, none, .mov (.t 0)⟩,
  ⟨some 6, none, .call (.c (.fn 71 [] [])) [.t 5]⟩,
  ⟨some 7, none, .mov (.t 0)⟩,
  ⟨some 8, none, .call (.c (.fn 68 [] [])) [.t 7, .c (.int .i64 3)]⟩,
  ⟨some 9, none, .build [.str ⟨#[]⟩, .int .i64 0, .sl .full [], .sl .full [], .bool false] [(0, (1, .t 6)), (1, (1, .t 8))]⟩,
  ⟨some 4, none, .alloc [.str ⟨#[]⟩, .int .i64 0, .sl .full [], .sl .full [], .bool false]⟩,
  ⟨none, none, .store 5 (.t 4) (.t 9)⟩]
abbrev c43_r3 : List Ins := [
  ⟨some 10, none, .mov (.t 0)⟩,
  ⟨some 11, none, .call (.c (.fn 68 [] [])) [.t 10, .c (.int .i64 4)]⟩,
  ⟨some 12, none, .mov (.c (.int .i64 0))⟩]
abbrev c43_r4 : List Ins := [
  ⟨some 13, none, .bin .lss (.t 12) (.t 11)⟩]
abbrev c43_r5 : List Ins := [
  ⟨some 14, none, .faddr 2 (.t 4)⟩,
  ⟨some 15, none, .load 1 false (.t 14)⟩,
  ⟨some 16, none, .mov (.t 0)⟩,
  ⟨some 17, none, .call (.c (.fn 85 [] [])) [.t 16]⟩,
  ⟨some 18, none, .bsl 2 1 [.sl .full [], .sl .full []] [(0, .t 17)]⟩,
  ⟨some 19, none, .append 2 48 (.t 15) (.t 18)⟩,
  ⟨some 20, none, .faddr 2 (.t 4)⟩,
  ⟨none, none, .store 1 (.t 20) (.t 19)⟩]
def c43_a5 : List (List Nat) := [[], [0], [], [2], [3], [1, 4, 3], [0, 1, 2, 3, 4, 5], [6, 5, 5, 0, 1, 2, 3, 4, 5]]
abbrev c43_m5 : List Am.Mark := [⟨false, 0, 2⟩, ⟨false, 0, 1⟩, ⟨false, 0, 0⟩, ⟨true, 0, 1⟩, ⟨false, 1, 1⟩, ⟨true, 1, 2⟩, ⟨false, 2, 2⟩, ⟨true, 2, 3⟩]
theorem c43_d5 : drawFine c43_r5 c43_a5 c43_m5 = true := by decide +kernel
abbrev c43_r6 : List Ins := [
  ⟨some 21, none, .faddr 3 (.t 4)⟩,
  ⟨some 22, none, .load 1 false (.t 21)⟩,
  ⟨some 23, none, .mov (.t 0)⟩,
  ⟨some 24, none, .call (.c (.fn 85 [] [])) [.t 23]⟩,
  ⟨some 25, none, .bsl 2 1 [.sl .full [], .sl .full []] [(0, .t 24)]⟩,
  ⟨some 26, none, .append 2 48 (.t 22) (.t 25)⟩,
  ⟨some 27, none, .faddr 3 (.t 4)⟩,
  ⟨none, none, .store 1 (.t 27) (.t 26)⟩]
def c43_a6 : List (List Nat) := [[], [0], [], [2], [3], [1, 4, 3], [0, 1, 2, 3, 4, 5], [6, 5, 5, 0, 1, 2, 3, 4, 5]]
abbrev c43_m6 : List Am.Mark := [⟨false, 0, 2⟩, ⟨false, 0, 1⟩, ⟨false, 0, 0⟩, ⟨true, 0, 1⟩, ⟨false, 1, 1⟩, ⟨true, 1, 2⟩, ⟨false, 2, 2⟩, ⟨true, 2, 3⟩]
theorem c43_d6 : drawFine c43_r6 c43_a6 c43_m6 = true := by decide +kernel
abbrev c43_r7 : List Ins := [
  ⟨some 28, none, .bin .add (.t 12) (.c (.int .i64 1))⟩,
  ⟨some 12, none, .mov (.t 28)⟩]
abbrev c43_l8 : IR := .seq (.reg c43_r4) (.seq (.cond (.t 13) (.skip) (.exit 0)) (.seq (.blk 1 (.seq (.dreg c43_r5 c43_a5) (.dreg c43_r6 c43_a6))) (.reg c43_r7)))
abbrev c43_r9 : List Ins := [
  ⟨some 29, none, .mov (.t 0)⟩,
  ⟨some 30, none, .call (.c (.fn 70 [] [])) [.t 29]⟩,
  ⟨some 31, none, .faddr 4 (.t 4)⟩,
  ⟨none, none, .store 1 (.t 31) (.t 30)⟩]
abbrev c43_r10 : List Ins := [
  ⟨some 32, none, .mov (.t 0)⟩,
  ⟨some 33, none, .call (.c (.fn 28 [] [])) [.t 32]⟩,
  ⟨some 34, none, .un .not (.t 33)⟩,
  ⟨some 35, none, .mov (.t 34)⟩,
  ⟨some 36, some (35, false), .load 5 true (.t 4)⟩,
  ⟨some 37, some (35, false), .call (.c (.fn 84 [] [])) [.t 36]⟩,
  ⟨some 38, some (35, false), .un .not (.t 37)⟩,
  ⟨some 39, none, .pick (.t 35) (.c (.bool true)) (.t 38)⟩]
abbrev c43_r11 : List Ins := [
  ⟨some 40, none, .mov (.t 0)⟩,
  ⟨some 41, none, .call (.c (.fn 68 [] [])) [.t 40, .c (.int .i64 (-1))]⟩]
abbrev c43_r12 : List Ins := [
  ⟨some 42, none, .build [.str ⟨#[]⟩, .int .i64 0, .sl .full [], .sl .full [], .bool false] []⟩,
  ⟨none, none, .store 5 (.t 2) (.t 42)⟩,
  ⟨some 3, none, .mov (.c (.bool false))⟩]
abbrev c43_r13 : List Ins := [
  ⟨some 43, none, .load 5 true (.t 4)⟩,
  ⟨none, none, .store 5 (.t 2) (.t 43)⟩,
  ⟨some 3, none, .mov (.c (.bool true))⟩]
abbrev c43 : IR := .seq (.reg c43_r1) (.seq (.reg c43_r2) (.seq (.seq (.reg c43_r3) (.blk 0 (.loop c43_l8))) (.seq (.reg c43_r9) (.seq (.seq (.reg c43_r10) (.cond (.t 39) (.seq (.reg c43_r11) (.seq (.reg c43_r12) (.ret))) (.skip))) (.seq (.reg c43_r13) (.ret))))))
abbrev F43 : FnA := ⟨44, c43, [.cell 2 5 true, .t 3]⟩
theorem ok43 : cFn Try.prog 43 = some F43 := by kernel_rfl
theorem hb43 : HasBody Try.prog 43 := ⟨_, Try.func43, by kernel_rfl, by kernel_rfl⟩
/-! ref11.Get -/
abbrev c44_r1 : List Ins := [
  ⟨some 2, none, .alloc [.str ⟨#[]⟩, .int .i64 0, .sl .full [], .sl .full [], .bool false]⟩,
  ⟨some 3, none, .mov (.c (.bool false))⟩]
abbrev c44_r2 : List Ins := [
  ⟨some 4, none, .alloc [.str ⟨#[]⟩, .int .i64 0, .sl .full [], .sl .full [], .bool false]⟩]
abbrev c44_r3 : List Ins := [
  ⟨some 9, none, .mov (.t 0)⟩,
  ⟨some 10, none, .call (.c (.fn 86 [] [])) [.t 9, .c (.int .i64 3), .c (.int .i64 0)]⟩,
  ⟨some 11, none, .fld 4 1 false (.t 10)⟩,
  ⟨some 12, none, .faddr 0 (.t 4)⟩,
  ⟨none, none, .store 1 (.t 12) (.t 11)⟩]
abbrev c44_r4 : List Ins := [
  ⟨some 13, none, .mov (.t 0)⟩,
  ⟨some 14, none, .call (.c (.fn 86 [] [])) [.t 13, .c (.int .i64 0), .c (.int .i64 3)]⟩,
  ⟨some 15, none, .fld 1 1 false (.t 14)⟩,
  ⟨some 16, none, .faddr 1 (.t 4)⟩,
  ⟨none, none, .store 1 (.t 16) (.t 15)⟩]
abbrev c44_r5 : List Ins := [
  ⟨some 17, none, .mov (.t 0)⟩,
  ⟨some 18, none, .call (.c (.fn 86 [] [])) [.t 17, .c (.int .i64 0), .c (.int .i64 4)]⟩,
  ⟨some 19, none, .fld 1 1 false (.t 18)⟩,
  ⟨some 5, none, .mov (.t 19)⟩]
abbrev c44_r6 : List Ins := [
  ⟨some 6, none, .mov (.c (.int .i64 0))⟩]
abbrev c44_r7 : List Ins := [
  ⟨some 20, none, .mov (.t 6)⟩,
  ⟨some 21, none, .mov (.t 5)⟩,
  ⟨some 22, none, .bin .lss (.t 20) (.t 21)⟩]
abbrev c44_r8 : List Ins := [
  ⟨some 7, none, .alloc [.sl .full [], .sl .full []]⟩,
  ⟨some 8, none, .alloc [.sl .full [], .sl .full []]⟩]
abbrev c44_r9 : List Ins := [
  ⟨some 25, none, .mov (.t 0)⟩,
  ⟨some 26, none, .call (.c (.fn 87 [] [])) [.t 25]⟩,
  ⟨some 27, none, .faddr 0 (.t 7)⟩,
  ⟨none, none, .store 1 (.t 27) (.t 26)⟩]
abbrev c44_r10 : List Ins := [
  ⟨some 28, none, .mov (.t 0)⟩,
  ⟨some 29, none, .call (.c (.fn 88 [] [])) [.t 28]⟩,
  ⟨some 30, none, .faddr 1 (.t 7)⟩,
  ⟨none, none, .store 1 (.t 30) (.t 29)⟩]
abbrev c44_r11 : List Ins := [
  ⟨some 31, none, .mov (.t 0)⟩,
  ⟨some 32, none, .call (.c (.fn 87 [] [])) [.t 31]⟩,
  ⟨some 33, none, .faddr 0 (.t 8)⟩,
  ⟨none, none, .store 1 (.t 33) (.t 32)⟩]
abbrev c44_r12 : List Ins := [
  ⟨some 34, none, .mov (.t 0)⟩,
  ⟨some 35, none, .call (.c (.fn 88 [] [])) [.t 34]⟩,
  ⟨some 36, none, .faddr 1 (.t 8)⟩,
  ⟨none, none, .store 1 (.t 36) (.t 35)⟩]
abbrev c44_r13 : List Ins := [
  ⟨some 37, none, .faddr 2 (.t 4)⟩,
  ⟨some 38, none, .load 1 false (.t 37)⟩,
  ⟨some 39, none, .load 2 true (.t 7)⟩,
  ⟨some 40, none, .bsl 2 1 [.sl .full [], .sl .full []] [(0, .t 39)]⟩,
  ⟨some 41, none, .append 2 48 (.t 38) (.t 40)⟩,
  ⟨some 42, none, .faddr 2 (.t 4)⟩,
  ⟨none, none, .store 1 (.t 42) (.t 41)⟩]
abbrev c44_r14 : List Ins := [
  ⟨some 43, none, .faddr 3 (.t 4)⟩,
  ⟨some 44, none, .load 1 false (.t 43)⟩,
  ⟨some 45, none, .load 2 true (.t 8)⟩,
  ⟨some 46, none, .bsl 2 1 [.sl .full [], .sl .full []] [(0, .t 45)]⟩,
  ⟨some 47, none, .append 2 48 (.t 44) (.t 46)⟩,
  ⟨some 48, none, .faddr 3 (.t 4)⟩,
  ⟨none, none, .store 1 (.t 48) (.t 47)⟩]
abbrev c44_r15 : List Ins := [
  ⟨some 23, none, .mov (.t 6)⟩,
  ⟨some 24, none, .bin .add (.t 23) (.c (.int .i64 1))⟩,
  ⟨some 6, none, .mov (.t 24)⟩]
abbrev c44_l16 : IR := .seq (.seq (.reg c44_r7) (.cond (.t 22) (.skip) (.exit 0))) (.seq (.blk 1 (.seq (.reg c44_r8) (.seq (.reg c44_r9) (.seq (.reg c44_r10) (.seq (.reg c44_r11) (.seq (.reg c44_r12) (.seq (.reg c44_r13) (.reg c44_r14)))))))) (.reg c44_r15))
abbrev c44_r17 : List Ins := [
  ⟨some 49, none, .mov (.t 0)⟩,
  ⟨some 50, none, .call (.c (.fn 86 [] [])) [.t 49, .c (.int .i64 2), .c (.int .i64 0)]⟩,
  ⟨some 51, none, .fld 1 1 false (.t 50)⟩,
  ⟨some 52, none, .bin .eql (.t 51) (.c (.int .i64 1))⟩,
  ⟨some 53, none, .faddr 4 (.t 4)⟩,
  ⟨none, none, .store 1 (.t 53) (.t 52)⟩]
abbrev c44_r18 : List Ins := [
  ⟨some 54, none, .mov (.t 0)⟩,
  ⟨some 55, none, .nilck (.t 54)⟩,
  ⟨some 56, none, .faddr 1 (.t 55)⟩,
  ⟨some 57, none, .load 1 false (.t 56)⟩,
  ⟨some 58, none, .mov (.t 57)⟩,
  ⟨some 59, some (58, false), .load 5 true (.t 4)⟩,
  ⟨some 60, some (58, false), .call (.c (.fn 49 [] [])) [.t 59]⟩,
  ⟨some 61, some (58, false), .un .not (.t 60)⟩,
  ⟨some 62, none, .pick (.t 58) (.c (.bool true)) (.t 61)⟩]
abbrev c44_r19 : List Ins := [
  ⟨some 63, none, .mov (.t 0)⟩,
  ⟨some 64, none, .nilck (.t 63)⟩,
  ⟨some 65, none, .faddr 1 (.t 64)⟩,
  ⟨none, none, .store 1 (.t 65) (.c (.bool true))⟩]
abbrev c44_r20 : List Ins := [
  ⟨some 66, none, .build [.str ⟨#[]⟩, .int .i64 0, .sl .full [], .sl .full [], .bool false] []⟩,
  ⟨none, none, .store 5 (.t 2) (.t 66)⟩,
  ⟨some 3, none, .mov (.c (.bool false))⟩]
abbrev c44_r21 : List Ins := [
  ⟨some 67, none, .load 5 true (.t 4)⟩,
  ⟨none, none, .store 5 (.t 2) (.t 67)⟩,
  ⟨some 3, none, .mov (.c (.bool true))⟩]
abbrev c44 : IR := .seq (.reg c44_r1) (.seq (.reg c44_r2) (.seq (.reg c44_r3) (.seq (.reg c44_r4) (.seq (.reg c44_r5) (.seq (.seq (.reg c44_r6) (.blk 0 (.loop c44_l16))) (.seq (.reg c44_r17) (.seq (.seq (.reg c44_r18) (.cond (.t 62) (.seq (.reg c44_r19) (.seq (.reg c44_r20) (.ret))) (.skip))) (.seq (.reg c44_r21) (.ret)))))))))
abbrev F44 : FnA := ⟨68, c44, [.cell 2 5 true, .t 3]⟩
theorem ok44 : cFn Try.prog 44 = some F44 := by kernel_rfl
theorem hb44 : HasBody Try.prog 44 := ⟨_, Try.func44, by kernel_rfl, by kernel_rfl⟩
/-! ref11.Same -/
abbrev c45_r1 : List Ins := [
  ⟨some 2, none, .box (.t 0)⟩,
  ⟨some 3, none, .box (.t 1)⟩,
  ⟨some 4, none, .mov (.c (.bool false))⟩]
abbrev c45_r2 : List Ins := [
  ⟨some 5, none, .faddr 0 (.t 2)⟩,
  ⟨some 6, none, .load 1 false (.t 5)⟩,
  ⟨some 7, none, .faddr 0 (.t 3)⟩,
  ⟨some 8, none, .load 1 false (.t 7)⟩,
  ⟨some 9, none, .bin .eql (.t 6) (.t 8)⟩,
  ⟨some 10, none, .mov (.t 9)⟩,
  ⟨some 11, some (10, true), .faddr 1 (.t 2)⟩,
  ⟨some 12, some (10, true), .load 1 false (.t 11)⟩,
  ⟨some 13, some (10, true), .faddr 1 (.t 3)⟩,
  ⟨some 14, some (10, true), .load 1 false (.t 13)⟩,
  ⟨some 15, some (10, true), .bin .eql (.t 12) (.t 14)⟩,
  ⟨some 16, none, .pick (.t 10) (.t 15) (.c (.bool false))⟩,
  ⟨some 17, none, .mov (.t 16)⟩,
  ⟨some 18, some (17, true), .faddr 4 (.t 2)⟩,
  ⟨some 19, some (17, true), .load 1 false (.t 18)⟩,
  ⟨some 20, some (17, true), .faddr 4 (.t 3)⟩,
  ⟨some 21, some (17, true), .load 1 false (.t 20)⟩,
  ⟨some 22, some (17, true), .eq [.b] false false (.t 19) (.t 21)⟩,
  ⟨some 23, none, .pick (.t 17) (.t 22) (.c (.bool false))⟩,
  ⟨some 24, none, .mov (.t 23)⟩,
  ⟨some 25, some (24, true), .faddr 2 (.t 2)⟩,
  ⟨some 26, some (24, true), .load 1 false (.t 25)⟩,
  ⟨some 27, some (24, true), .faddr 2 (.t 3)⟩,
  ⟨some 28, some (24, true), .load 1 false (.t 27)⟩,
  ⟨some 29, some (24, true), .call (.c (.fn 89 [] [])) [.t 26, .t 28]⟩,
  ⟨some 30, none, .pick (.t 24) (.t 29) (.c (.bool false))⟩,
  ⟨some 31, none, .mov (.t 30)⟩,
  ⟨some 32, some (31, true), .faddr 3 (.t 2)⟩,
  ⟨some 33, some (31, true), .load 1 false (.t 32)⟩,
  ⟨some 34, some (31, true), .faddr 3 (.t 3)⟩,
  ⟨some 35, some (31, true), .load 1 false (.t 34)⟩,
  ⟨some 36, some (31, true), .call (.c (.fn 89 [] [])) [.t 33, .t 35]⟩,
  ⟨some 37, none, .pick (.t 31) (.t 36) (.c (.bool false))⟩,
  ⟨some 4, none, .mov (.t 37)⟩]
abbrev c45 : IR := .seq (.reg c45_r1) (.seq (.reg c45_r2) (.ret))
abbrev F45 : FnA := ⟨38, c45, [.t 4]⟩
theorem ok45 : cFn Try.prog 45 = some F45 := by kernel_rfl
theorem hb45 : HasBody Try.prog 45 := ⟨_, Try.func45, by kernel_rfl, by kernel_rfl⟩
/-! ref11.May -/
abbrev c49_r1 : List Ins := [
  ⟨some 1, none, .box (.t 0)⟩,
  ⟨some 2, none, .mov (.c (.bool false))⟩]
abbrev c49_r2 : List Ins := [
  ⟨some 7, none, .faddr 2 (.t 1)⟩,
  ⟨some 8, none, .load 1 false (.t 7)⟩,
  ⟨some 9, none, .len (.t 8)⟩,
  ⟨some 3, none, .mov (.t 9)⟩]
abbrev c49_r3 : List Ins := [
  ⟨some 10, none, .faddr 0 (.t 1)⟩,
  ⟨some 11, none, .load 1 false (.t 10)⟩,
  ⟨some 12, none, .lenS (.t 11)⟩,
  ⟨some 13, none, .bin .lss (.t 12) (.c (.int .i64 1))⟩,
  ⟨some 14, none, .mov (.t 13)⟩,
  ⟨some 15, some (14, false), .faddr 0 (.t 1)⟩,
  ⟨some 16, some (14, false), .load 1 false (.t 15)⟩,
  ⟨some 17, some (14, false), .lenS (.t 16)⟩,
  ⟨some 18, some (14, false), .bin .gtr (.t 17) (.c (.int .i64 16))⟩,
  ⟨some 19, none, .pick (.t 14) (.c (.bool true)) (.t 18)⟩,
  ⟨some 20, none, .mov (.t 19)⟩,
  ⟨some 21, some (20, false), .faddr 1 (.t 1)⟩,
  ⟨some 22, some (20, false), .load 1 false (.t 21)⟩,
  ⟨some 23, some (20, false), .bin .lss (.t 22) (.c (.int .i64 0))⟩,
  ⟨some 24, none, .pick (.t 20) (.c (.bool true)) (.t 23)⟩,
  ⟨some 25, none, .mov (.t 24)⟩,
  ⟨some 26, some (25, false), .faddr 1 (.t 1)⟩,
  ⟨some 27, some (25, false), .load 1 false (.t 26)⟩,
  ⟨some 28, some (25, false), .bin .gtr (.t 27) (.c (.int .i64 3))⟩,
  ⟨some 29, none, .pick (.t 25) (.c (.bool true)) (.t 28)⟩,
  ⟨some 30, none, .mov (.t 29)⟩,
  ⟨some 31, some (30, false), .mov (.t 3)⟩,
  ⟨some 32, some (30, false), .bin .lss (.t 31) (.c (.int .i64 1))⟩,
  ⟨some 33, none, .pick (.t 30) (.c (.bool true)) (.t 32)⟩,
  ⟨some 34, none, .mov (.t 33)⟩,
  ⟨some 35, some (34, false), .mov (.t 3)⟩,
  ⟨some 36, some (34, false), .bin .gtr (.t 35) (.c (.int .i64 4))⟩,
  ⟨some 37, none, .pick (.t 34) (.c (.bool true)) (.t 36)⟩,
  ⟨some 38, none, .mov (.t 37)⟩,
  ⟨some 39, some (38, false), .faddr 3 (.t 1)⟩,
  ⟨some 40, some (38, false), .load 1 false (.t 39)⟩,
  ⟨some 41, some (38, false), .len (.t 40)⟩,
  ⟨some 42, some (38, false), .mov (.t 3)⟩,
  ⟨some 43, some (38, false), .bin .neq (.t 41) (.t 42)⟩,
  ⟨some 44, none, .pick (.t 38) (.c (.bool true)) (.t 43)⟩]
abbrev c49_r4 : List Ins := [
  ⟨some 2, none, .mov (.c (.bool false))⟩]
abbrev c49_r5 : List Ins := [
  ⟨some 4, none, .mov (.c (.int .i64 0))⟩]
abbrev c49_r6 : List Ins := [
  ⟨some 45, none, .mov (.t 4)⟩,
  ⟨some 46, none, .mov (.t 3)⟩,
  ⟨some 47, none, .bin .lss (.t 45) (.t 46)⟩]
abbrev c49_r7 : List Ins := [
  ⟨some 50, none, .faddr 2 (.t 1)⟩,
  ⟨some 51, none, .load 1 false (.t 50)⟩,
  ⟨some 52, none, .mov (.t 4)⟩,
  ⟨some 53, none, .iaddr 2 (.t 51) (.t 52)⟩,
  ⟨some 54, none, .faddr 0 (.t 53)⟩,
  ⟨some 55, none, .load 1 false (.t 54)⟩,
  ⟨some 56, none, .faddr 1 (.t 1)⟩,
  ⟨some 57, none, .load 1 false (.t 56)⟩,
  ⟨some 58, none, .call (.c (.fn 93 [] [])) [.t 55, .t 57]⟩,
  ⟨some 59, none, .un .not (.t 58)⟩,
  ⟨some 60, none, .mov (.t 59)⟩,
  ⟨some 61, some (60, false), .faddr 2 (.t 1)⟩,
  ⟨some 62, some (60, false), .load 1 false (.t 61)⟩,
  ⟨some 63, some (60, false), .mov (.t 4)⟩,
  ⟨some 64, some (60, false), .iaddr 2 (.t 62) (.t 63)⟩,
  ⟨some 65, some (60, false), .faddr 1 (.t 64)⟩,
  ⟨some 66, some (60, false), .load 1 false (.t 65)⟩,
  ⟨some 67, some (60, false), .faddr 1 (.t 1)⟩,
  ⟨some 68, some (60, false), .load 1 false (.t 67)⟩,
  ⟨some 69, some (60, false), .call (.c (.fn 94 [] [])) [.t 66, .t 68]⟩,
  ⟨some 70, some (60, false), .un .not (.t 69)⟩,
  ⟨some 71, none, .pick (.t 60) (.c (.bool true)) (.t 70)⟩,
  ⟨some 72, none, .mov (.t 71)⟩,
  ⟨some 73, some (72, false), .faddr 3 (.t 1)⟩,
  ⟨some 74, some (72, false), .load 1 false (.t 73)⟩,
  ⟨some 75, some (72, false), .mov (.t 4)⟩,
  ⟨some 76, some (72, false), .iaddr 2 (.t 74) (.t 75)⟩,
  ⟨some 77, some (72, false), .faddr 1 (.t 76)⟩,
  ⟨some 78, some (72, false), .load 1 false (.t 77)⟩,
  ⟨some 79, some (72, false), .faddr 1 (.t 1)⟩,
  ⟨some 80, some (72, false), .load 1 false (.t 79)⟩,
  ⟨some 81, some (72, false), .call (.c (.fn 94 [] [])) [.t 78, .t 80]⟩,
  ⟨some 82, some (72, false), .un .not (.t 81)⟩,
  ⟨some 83, none, .pick (.t 72) (.c (.bool true)) (.t 82)⟩]
def c49_a7 : List (List Nat) := [[], [0], [], [1, 2], [3], [4], [], [6], [5, 7], [8], [9, 8], [10], [11, 10], [10], [12, 13, 10], [14, 10], [15, 10], [10], [17, 10], [16, 18, 10, 10], [19, 10], [10, 20], [21, 19], [22], [23, 22], [22], [24, 25, 22], [26, 22], [27, 22], [22], [29, 22], [28, 30, 22, 22], [31, 22], [22, 32]]
abbrev c49_m7 : List Am.Mark := [⟨false, 0, 0⟩, ⟨false, 0, 0⟩, ⟨false, 0, 0⟩, ⟨false, 0, 0⟩, ⟨false, 0, 0⟩, ⟨false, 0, 0⟩, ⟨false, 0, 0⟩, ⟨false, 0, 0⟩, ⟨false, 0, 0⟩, ⟨false, 0, 0⟩, ⟨false, 0, 0⟩, ⟨false, 0, 0⟩, ⟨false, 0, 0⟩, ⟨false, 0, 0⟩, ⟨false, 0, 0⟩, ⟨false, 0, 0⟩, ⟨false, 0, 0⟩, ⟨false, 0, 0⟩, ⟨false, 0, 0⟩, ⟨false, 0, 0⟩, ⟨false, 0, 0⟩, ⟨false, 0, 0⟩, ⟨false, 0, 0⟩, ⟨false, 0, 0⟩, ⟨false, 0, 0⟩, ⟨false, 0, 0⟩, ⟨false, 0, 0⟩, ⟨false, 0, 0⟩, ⟨false, 0, 0⟩, ⟨false, 0, 0⟩, ⟨false, 0, 0⟩, ⟨false, 0, 0⟩, ⟨false, 0, 0⟩, ⟨false, 0, 0⟩]
theorem c49_d7 : drawFine c49_r7 c49_a7 c49_m7 = true := by decide +kernel
abbrev c49_r8 : List Ins := [
  ⟨some 2, none, .mov (.c (.bool false))⟩]
abbrev c49_r9 : List Ins := [
  ⟨some 84, none, .faddr 3 (.t 1)⟩,
  ⟨some 85, none, .load 1 false (.t 84)⟩,
  ⟨some 86, none, .mov (.t 4)⟩,
  ⟨some 87, none, .iaddr 2 (.t 85) (.t 86)⟩,
  ⟨some 88, none, .faddr 0 (.t 87)⟩,
  ⟨some 89, none, .load 1 false (.t 88)⟩,
  ⟨some 5, none, .mov (.t 89)⟩]
abbrev c49_r10 : List Ins := [
  ⟨some 90, none, .mov (.t 5)⟩,
  ⟨some 91, none, .len (.t 90)⟩,
  ⟨some 92, none, .bin .gtr (.t 91) (.c (.int .i64 0))⟩,
  ⟨some 93, none, .mov (.t 92)⟩,
  ⟨some 94, some (93, true), .mov (.t 5)⟩,
  ⟨some 95, some (93, true), .faddr 1 (.t 1)⟩,
  ⟨some 96, some (93, true), .load 1 false (.t 95)⟩,
  ⟨some 97, some (93, true), .call (.c (.fn 93 [] [])) [.t 94, .t 96]⟩,
  ⟨some 98, some (93, true), .un .not (.t 97)⟩,
  ⟨some 99, none, .pick (.t 93) (.t 98) (.c (.bool false))⟩]
abbrev c49_r11 : List Ins := [
  ⟨some 2, none, .mov (.c (.bool false))⟩]
abbrev c49_r12 : List Ins := [
  ⟨some 6, none, .mov (.c (.int .i64 0))⟩]
abbrev c49_r13 : List Ins := [
  ⟨some 100, none, .mov (.t 6)⟩,
  ⟨some 101, none, .mov (.t 5)⟩,
  ⟨some 102, none, .len (.t 101)⟩,
  ⟨some 103, none, .bin .lss (.t 100) (.t 102)⟩]
abbrev c49_r14 : List Ins := [
  ⟨some 106, none, .mov (.t 5)⟩,
  ⟨some 107, none, .mov (.t 6)⟩,
  ⟨some 108, none, .iaddr 9 (.t 106) (.t 107)⟩,
  ⟨some 109, none, .faddr 0 (.t 108)⟩,
  ⟨some 110, none, .load 1 false (.t 109)⟩,
  ⟨some 111, none, .bin .geq (.t 110) (.c (.int .i64 6))⟩]
abbrev c49_r15 : List Ins := [
  ⟨some 2, none, .mov (.c (.bool false))⟩]
abbrev c49_r16 : List Ins := [
  ⟨some 104, none, .mov (.t 6)⟩,
  ⟨some 105, none, .bin .add (.t 104) (.c (.int .i64 1))⟩,
  ⟨some 6, none, .mov (.t 105)⟩]
abbrev c49_l17 : IR := .seq (.seq (.reg c49_r13) (.cond (.t 103) (.skip) (.exit 2))) (.seq (.blk 3 (.seq (.reg c49_r14) (.cond (.t 111) (.seq (.reg c49_r15) (.ret)) (.skip)))) (.reg c49_r16))
abbrev c49_r18 : List Ins := [
  ⟨some 48, none, .mov (.t 4)⟩,
  ⟨some 49, none, .bin .add (.t 48) (.c (.int .i64 1))⟩,
  ⟨some 4, none, .mov (.t 49)⟩]
abbrev c49_l19 : IR := .seq (.seq (.reg c49_r6) (.cond (.t 47) (.skip) (.exit 0))) (.seq (.blk 1 (.seq (.seq (.dreg c49_r7 c49_a7) (.cond (.t 83) (.seq (.reg c49_r8) (.ret)) (.skip))) (.seq (.reg c49_r9) (.seq (.seq (.reg c49_r10) (.cond (.t 99) (.seq (.reg c49_r11) (.ret)) (.skip))) (.seq (.reg c49_r12) (.blk 2 (.loop c49_l17))))))) (.reg c49_r18))
abbrev c49_r20 : List Ins := [
  ⟨some 2, none, .mov (.c (.bool true))⟩]
abbrev c49 : IR := .seq (.reg c49_r1) (.seq (.reg c49_r2) (.seq (.seq (.reg c49_r3) (.cond (.t 44) (.seq (.reg c49_r4) (.ret)) (.skip))) (.seq (.seq (.reg c49_r5) (.blk 0 (.loop c49_l19))) (.seq (.reg c49_r20) (.ret)))))
abbrev F49 : FnA := ⟨112, c49, [.t 2]⟩
theorem ok49 : cFn Try.prog 49 = some F49 := by kernel_rfl
theorem hb49 : HasBody Try.prog 49 := ⟨_, Try.func49, by kernel_rfl, by kernel_rfl⟩
/-! class.Put -/
abbrev c50_r1 : List Ins := [
  ⟨some 2, none, .box (.t 0)⟩,
  ⟨some 3, none, .box (.t 1)⟩]
abbrev c50_r2 : List Ins := [
  ⟨some 6, none, .load 1 false (.t 2)⟩,
  ⟨some 7, none, .faddr 0 (.t 3)⟩,
  ⟨some 8, none, .load 1 false (.t 7)⟩,
  ⟨some 9, none, .call (.c (.fn 55 [] [])) [.t 6, .t 8]⟩]
abbrev c50_r3 : List Ins := [
  ⟨some 10, none, .load 1 false (.t 2)⟩,
  ⟨some 11, none, .faddr 1 (.t 3)⟩,
  ⟨some 12, none, .load 1 false (.t 11)⟩,
  ⟨some 13, none, .call (.c (.fn 56 [] [])) [.t 10, .t 12]⟩]
abbrev c50_r4 : List Ins := [
  ⟨some 14, none, .load 1 false (.t 2)⟩,
  ⟨some 15, none, .faddr 2 (.t 3)⟩,
  ⟨some 16, none, .load 1 false (.t 15)⟩,
  ⟨some 17, none, .len (.t 16)⟩,
  ⟨some 18, none, .call (.c (.fn 56 [] [])) [.t 14, .t 17]⟩]
abbrev c50_r5 : List Ins := [
  ⟨some 19, none, .load 5 true (.t 3)⟩,
  ⟨some 20, none, .call (.c (.fn 95 [] [])) [.t 19]⟩]
abbrev c50_r6 : List Ins := [
  ⟨some 4, none, .alloc [.sl .full [], .sl .full []]⟩,
  ⟨none, none, .store 2 (.t 4) (.t 21)⟩]
abbrev c50_r7 : List Ins := [
  ⟨some 5, none, .alloc [.sl .full [], .sl .full []]⟩,
  ⟨none, none, .store 2 (.t 5) (.t 22)⟩]
abbrev c50_r8 : List Ins := [
  ⟨some 23, none, .load 1 false (.t 2)⟩,
  ⟨some 24, none, .load 2 true (.t 4)⟩,
  ⟨some 25, none, .load 2 true (.t 5)⟩,
  ⟨some 26, none, .bsl 2 2 [.sl .full [], .sl .full []] [(0, .t 24), (1, .t 25)]⟩,
  ⟨some 27, none, .call (.c (.fn 96 [] [])) [.t 23, .t 26]⟩]
abbrev c50_x9 : IR := .seq (.reg c50_r6) (.reg c50_r7)
abbrev c50_y10 : IR := .blk 1 (.reg c50_r8)
abbrev c50_r11 : List Ins := [
  ⟨some 28, none, .load 1 false (.t 2)⟩,
  ⟨some 29, none, .faddr 4 (.t 3)⟩,
  ⟨some 30, none, .load 1 false (.t 29)⟩,
  ⟨some 31, none, .call (.c (.fn 57 [] [])) [.t 28, .t 30]⟩]
abbrev c50 : IR := .seq (.reg c50_r1) (.seq (.reg c50_r2) (.seq (.reg c50_r3) (.seq (.reg c50_r4) (.seq (.seq (.reg c50_r5) (.blk 0 (.rngf (.t 20) [21, 22] c50_x9 c50_y10))) (.reg c50_r11)))))
abbrev F50 : FnA := ⟨32, c50, []⟩
theorem ok50 : cFn Try.prog 50 = some F50 := by kernel_rfl
theorem hb50 : HasBody Try.prog 50 := ⟨_, Try.func50, by kernel_rfl, by kernel_rfl⟩
/-! ref09.Words -/
abbrev c51_r1 : List Ins := [
  ⟨some 2, none, .mov (.c (.sl .full []))⟩]
abbrev c51_r2 : List Ins := [
  ⟨some 3, none, .mov (.c (.sl .full []))⟩]
abbrev c51_r3 : List Ins := [
  ⟨some 4, none, .mov (.c (.int .i64 0))⟩]
abbrev c51_r4 : List Ins := [
  ⟨some 5, none, .mov (.t 4)⟩,
  ⟨some 6, none, .mov (.t 0)⟩,
  ⟨some 7, none, .len (.t 6)⟩,
  ⟨some 8, none, .bin .lss (.t 5) (.t 7)⟩]
abbrev c51_r5 : List Ins := [
  ⟨some 11, none, .mov (.t 3)⟩,
  ⟨some 12, none, .mov (.t 0)⟩,
  ⟨some 13, none, .mov (.t 4)⟩,
  ⟨some 14, none, .iaddr 6 (.t 12) (.t 13)⟩,
  ⟨some 15, none, .load 6 true (.t 14)⟩,
  ⟨some 16, none, .call (.c (.fn 17 [] [])) [.t 11, .t 15]⟩,
  ⟨some 3, none, .mov (.t 16)⟩]
abbrev c51_r6 : List Ins := [
  ⟨some 9, none, .mov (.t 4)⟩,
  ⟨some 10, none, .bin .add (.t 9) (.c (.int .i64 1))⟩,
  ⟨some 4, none, .mov (.t 10)⟩]
abbrev c51_l7 : IR := .seq (.seq (.reg c51_r4) (.cond (.t 8) (.skip) (.exit 0))) (.seq (.blk 1 (.reg c51_r5)) (.reg c51_r6))
abbrev c51_r8 : List Ins := [
  ⟨some 17, none, .mov (.t 3)⟩,
  ⟨some 2, none, .mov (.t 17)⟩]
abbrev c51 : IR := .seq (.reg c51_r1) (.seq (.reg c51_r2) (.seq (.seq (.reg c51_r3) (.blk 0 (.loop c51_l7))) (.seq (.reg c51_r8) (.ret))))
abbrev F51 : FnA := ⟨18, c51, [.t 2]⟩
theorem ok51 : cFn Try.prog 51 = some F51 := by kernel_rfl
theorem hb51 : HasBody Try.prog 51 := ⟨_, Try.func51, by kernel_rfl, by kernel_rfl⟩
/-! ref11.Items -/
abbrev c52_r1 : List Ins := [
  ⟨some 1, none, .box (.t 0)⟩,
  ⟨some 2, none, .mov (.c (.sl .full []))⟩]
abbrev c52_r2 : List Ins := [
  ⟨some 6, none, .faddr 0 (.t 1)⟩,
  ⟨some 7, none, .load 1 false (.t 6)⟩,
  ⟨some 8, none, .build [.int .i64 0, .int .i64 0, .int .i64 0, .int .i64 0, .str ⟨#[]⟩, .sl .full []] [(0, (1, .c (.int .i64 3))), (4, (1, .t 7))]⟩,
  ⟨some 9, none, .faddr 1 (.t 1)⟩,
  ⟨some 10, none, .load 1 false (.t 9)⟩,
  ⟨some 11, none, .build [.int .i64 0, .int .i64 0, .int .i64 0, .int .i64 0, .str ⟨#[]⟩, .sl .full []] [(1, (1, .t 10)), (2, (1, .c (.int .i64 3)))]⟩,
  ⟨some 12, none, .faddr 2 (.t 1)⟩,
  ⟨some 13, none, .load 1 false (.t 12)⟩,
  ⟨some 14, none, .len (.t 13)⟩,
  ⟨some 15, none, .build [.int .i64 0, .int .i64 0, .int .i64 0, .int .i64 0, .str ⟨#[]⟩, .sl .full []] [(1, (1, .t 14)), (2, (1, .c (.int .i64 4)))]⟩,
  ⟨some 16, none, .bsl 6 3 [.int .i64 0, .int .i64 0, .int .i64 0, .int .i64 0, .str ⟨#[]⟩, .sl .full []] [(0, .t 8), (1, .t 11), (2, .t 15)]⟩,
  ⟨some 3, none, .mov (.t 16)⟩]
abbrev c52_r3 : List Ins := [
  ⟨some 4, none, .mov (.c (.int .i64 0))⟩]
abbrev c52_r4 : List Ins := [
  ⟨some 17, none, .mov (.t 4)⟩,
  ⟨some 18, none, .faddr 2 (.t 1)⟩,
  ⟨some 19, none, .load 1 false (.t 18)⟩,
  ⟨some 20, none, .len (.t 19)⟩,
  ⟨some 21, none, .bin .lss (.t 17) (.t 20)⟩,
  ⟨some 22, none, .mov (.t 21)⟩,
  ⟨some 23, some (22, true), .mov (.t 4)⟩,
  ⟨some 24, some (22, true), .faddr 3 (.t 1)⟩,
  ⟨some 25, some (22, true), .load 1 false (.t 24)⟩,
  ⟨some 26, some (22, true), .len (.t 25)⟩,
  ⟨some 27, some (22, true), .bin .lss (.t 23) (.t 26)⟩,
  ⟨some 28, none, .pick (.t 22) (.t 27) (.c (.bool false))⟩]
abbrev c52_r5 : List Ins := [
  ⟨some 31, none, .mov (.t 3)⟩,
  ⟨some 32, none, .faddr 2 (.t 1)⟩,
  ⟨some 33, none, .load 1 false (.t 32)⟩,
  ⟨some 34, none, .mov (.t 4)⟩,
  ⟨some 35, none, .iaddr 2 (.t 33) (.t 34)⟩,
  ⟨some 36, none, .faddr 0 (.t 35)⟩,
  ⟨some 37, none, .load 1 false (.t 36)⟩,
  ⟨some 38, none, .call (.c (.fn 97 [] [])) [.t 37]⟩,
  ⟨some 39, none, .append 6 72 (.t 31) (.t 38)⟩,
  ⟨some 3, none, .mov (.t 39)⟩]
abbrev c52_r6 : List Ins := [
  ⟨some 40, none, .mov (.t 3)⟩,
  ⟨some 41, none, .faddr 2 (.t 1)⟩,
  ⟨some 42, none, .load 1 false (.t 41)⟩,
  ⟨some 43, none, .mov (.t 4)⟩,
  ⟨some 44, none, .iaddr 2 (.t 42) (.t 43)⟩,
  ⟨some 45, none, .faddr 1 (.t 44)⟩,
  ⟨some 46, none, .load 1 false (.t 45)⟩,
  ⟨some 47, none, .call (.c (.fn 98 [] [])) [.t 46]⟩,
  ⟨some 48, none, .append 6 72 (.t 40) (.t 47)⟩,
  ⟨some 3, none, .mov (.t 48)⟩]
abbrev c52_r7 : List Ins := [
  ⟨some 49, none, .mov (.t 3)⟩,
  ⟨some 50, none, .faddr 3 (.t 1)⟩,
  ⟨some 51, none, .load 1 false (.t 50)⟩,
  ⟨some 52, none, .mov (.t 4)⟩,
  ⟨some 53, none, .iaddr 2 (.t 51) (.t 52)⟩,
  ⟨some 54, none, .faddr 0 (.t 53)⟩,
  ⟨some 55, none, .load 1 false (.t 54)⟩,
  ⟨some 56, none, .call (.c (.fn 97 [] [])) [.t 55]⟩,
  ⟨some 57, none, .append 6 72 (.t 49) (.t 56)⟩,
  ⟨some 3, none, .mov (.t 57)⟩]
abbrev c52_r8 : List Ins := [
  ⟨some 58, none, .mov (.t 3)⟩,
  ⟨some 59, none, .faddr 3 (.t 1)⟩,
  ⟨some 60, none, .load 1 false (.t 59)⟩,
  ⟨some 61, none, .mov (.t 4)⟩,
  ⟨some 62, none, .iaddr 2 (.t 60) (.t 61)⟩,
  ⟨some 63, none, .faddr 1 (.t 62)⟩,
  ⟨some 64, none, .load 1 false (.t 63)⟩,
  ⟨some 65, none, .call (.c (.fn 98 [] [])) [.t 64]⟩,
  ⟨some 66, none, .append 6 72 (.t 58) (.t 65)⟩,
  ⟨some 3, none, .mov (.t 66)⟩]
abbrev c52_r9 : List Ins := [
  ⟨some 29, none, .mov (.t 4)⟩,
  ⟨some 30, none, .bin .add (.t 29) (.c (.int .i64 1))⟩,
  ⟨some 4, none, .mov (.t 30)⟩]
abbrev c52_l10 : IR := .seq (.seq (.reg c52_r4) (.cond (.t 28) (.skip) (.exit 0))) (.seq (.blk 1 (.seq (.reg c52_r5) (.seq (.reg c52_r6) (.seq (.reg c52_r7) (.reg c52_r8))))) (.reg c52_r9))
abbrev c52_r11 : List Ins := [
  ⟨some 5, none, .mov (.c (.int .i64 0))⟩]
abbrev c52_r12 : List Ins := [
  ⟨some 67, none, .faddr 4 (.t 1)⟩,
  ⟨some 68, none, .load 1 false (.t 67)⟩]
abbrev c52_r13 : List Ins := [
  ⟨some 5, none, .mov (.c (.int .i64 1))⟩]
abbrev c52_r14 : List Ins := [
  ⟨some 69, none, .mov (.t 3)⟩,
  ⟨some 70, none, .mov (.t 5)⟩,
  ⟨some 71, none, .build [.int .i64 0, .int .i64 0, .int .i64 0, .int .i64 0, .str ⟨#[]⟩, .sl .full []] [(0, (1, .c (.int .i64 2))), (1, (1, .t 70))]⟩,
  ⟨some 72, none, .bsl 6 1 [.int .i64 0, .int .i64 0, .int .i64 0, .int .i64 0, .str ⟨#[]⟩, .sl .full []] [(0, .t 71)]⟩,
  ⟨some 73, none, .append 6 72 (.t 69) (.t 72)⟩,
  ⟨some 2, none, .mov (.t 73)⟩]
abbrev c52 : IR := .seq (.reg c52_r1) (.seq (.reg c52_r2) (.seq (.seq (.reg c52_r3) (.blk 0 (.loop c52_l10))) (.seq (.reg c52_r11) (.seq (.seq (.reg c52_r12) (.cond (.t 68) (.reg c52_r13) (.skip))) (.seq (.reg c52_r14) (.ret))))))
abbrev F52 : FnA := ⟨74, c52, [.t 2]⟩
theorem ok52 : cFn Try.prog 52 = some F52 := by kernel_rfl
theorem hb52 : HasBody Try.prog 52 := ⟨_, Try.func52, by kernel_rfl, by kernel_rfl⟩
/-! class.Same -/
abbrev c53_r1 : List Ins := [
  ⟨some 2, none, .box (.t 0)⟩,
  ⟨some 3, none, .box (.t 1)⟩,
  ⟨some 4, none, .mov (.c (.bool false))⟩]
abbrev c53_r2 : List Ins := [
  ⟨some 5, none, .faddr 0 (.t 2)⟩,
  ⟨some 6, none, .load 1 false (.t 5)⟩,
  ⟨some 7, none, .faddr 0 (.t 3)⟩,
  ⟨some 8, none, .load 1 false (.t 7)⟩,
  ⟨some 9, none, .bin .eql (.t 6) (.t 8)⟩,
  ⟨some 10, none, .mov (.t 9)⟩,
  ⟨some 11, some (10, true), .faddr 1 (.t 2)⟩,
  ⟨some 12, some (10, true), .load 1 false (.t 11)⟩,
  ⟨some 13, some (10, true), .faddr 1 (.t 3)⟩,
  ⟨some 14, some (10, true), .load 1 false (.t 13)⟩,
  ⟨some 15, some (10, true), .bin .eql (.t 12) (.t 14)⟩,
  ⟨some 16, none, .pick (.t 10) (.t 15) (.c (.bool false))⟩,
  ⟨some 17, none, .mov (.t 16)⟩,
  ⟨some 18, some (17, true), .faddr 4 (.t 2)⟩,
  ⟨some 19, some (17, true), .load 1 false (.t 18)⟩,
  ⟨some 20, some (17, true), .faddr 4 (.t 3)⟩,
  ⟨some 21, some (17, true), .load 1 false (.t 20)⟩,
  ⟨some 22, some (17, true), .eq [.b] false false (.t 19) (.t 21)⟩,
  ⟨some 23, none, .pick (.t 17) (.t 22) (.c (.bool false))⟩,
  ⟨some 24, none, .mov (.t 23)⟩,
  ⟨some 25, some (24, true), .faddr 2 (.t 2)⟩,
  ⟨some 26, some (24, true), .load 1 false (.t 25)⟩,
  ⟨some 27, some (24, true), .faddr 2 (.t 3)⟩,
  ⟨some 28, some (24, true), .load 1 false (.t 27)⟩,
  ⟨some 29, some (24, true), .call (.c (.fn 99 [] [])) [.t 26, .t 28, .c (.fn 100 [] [])]⟩,
  ⟨some 30, none, .pick (.t 24) (.t 29) (.c (.bool false))⟩,
  ⟨some 31, none, .mov (.t 30)⟩,
  ⟨some 32, some (31, true), .faddr 3 (.t 2)⟩,
  ⟨some 33, some (31, true), .load 1 false (.t 32)⟩,
  ⟨some 34, some (31, true), .faddr 3 (.t 3)⟩,
  ⟨some 35, some (31, true), .load 1 false (.t 34)⟩,
  ⟨some 36, some (31, true), .call (.c (.fn 99 [] [])) [.t 33, .t 35, .c (.fn 100 [] [])]⟩,
  ⟨some 37, none, .pick (.t 31) (.t 36) (.c (.bool false))⟩,
  ⟨some 4, none, .mov (.t 37)⟩]
abbrev c53 : IR := .seq (.reg c53_r1) (.seq (.reg c53_r2) (.ret))
abbrev F53 : FnA := ⟨38, c53, [.t 4]⟩
theorem ok53 : cFn Try.prog 53 = some F53 := by kernel_rfl
theorem hb53 : HasBody Try.prog 53 := ⟨_, Try.func53, by kernel_rfl, by kernel_rfl⟩
/-! codes.Writer.Signed -/
abbrev c54_r1 : List Ins := [
  ⟨some 4, none, .mov (.t 0)⟩,
  ⟨some 5, none, .mov (.t 1)⟩,
  ⟨some 6, none, .bin .shl (.t 5) (.c (.int .u64 1))⟩,
  ⟨some 7, none, .conv .u64 (.t 6)⟩,
  ⟨some 8, none, .mov (.t 1)⟩,
  ⟨some 9, none, .bin .shr (.t 8) (.c (.int .u64 63))⟩,
  ⟨some 10, none, .conv .u64 (.t 9)⟩,
  ⟨some 11, none, .bin .xor (.t 7) (.t 10)⟩,
  ⟨some 12, none, .bsl 1 1 [.int .u64 0] [(0, .t 11)]⟩,
  ⟨some 13, none, .call (.c (.fn 101 [] [])) [.t 4, .t 12]⟩]
abbrev c54 : IR := .reg c54_r1
abbrev F54 : FnA := ⟨14, c54, []⟩
theorem ok54 : cFn Try.prog 54 = some F54 := by kernel_rfl
theorem hb54 : HasBody Try.prog 54 := ⟨_, Try.func54, by kernel_rfl, by kernel_rfl⟩
/-! codes.Writer.Text -/
abbrev c55_r1 : List Ins := [
  ⟨some 4, none, .mov (.t 1)⟩,
  ⟨some 5, none, .mov (.t 1)⟩,
  ⟨some 6, none, .lenS (.t 5)⟩,
  ⟨some 7, none, .mn [.t 6, .c (.int .i64 64)]⟩,
  ⟨some 8, none, .sliceS (.t 4) none (some (.t 7))⟩,
  ⟨some 1, none, .mov (.t 8)⟩]
abbrev c55_r2 : List Ins := [
  ⟨some 9, none, .mov (.t 0)⟩,
  ⟨some 10, none, .mov (.t 1)⟩,
  ⟨some 11, none, .lenS (.t 10)⟩,
  ⟨some 12, none, .call (.c (.fn 56 [] [])) [.t 9, .t 11]⟩]
abbrev c55_r3 : List Ins := [
  ⟨some 13, none, .mov (.t 0)⟩,
  ⟨some 14, none, .mov (.t 1)⟩,
  ⟨some 15, none, .call (.c (.fn 102 [] [])) [.t 14]⟩,
  ⟨some 16, none, .call (.c (.fn 101 [] [])) [.t 13, .t 15]⟩]
abbrev c55 : IR := .seq (.reg c55_r1) (.seq (.reg c55_r2) (.reg c55_r3))
abbrev F55 : FnA := ⟨17, c55, []⟩
theorem ok55 : cFn Try.prog 55 = some F55 := by kernel_rfl
theorem hb55 : HasBody Try.prog 55 := ⟨_, Try.func55, by kernel_rfl, by kernel_rfl⟩
/-! codes.Writer.Count -/
abbrev c56_r1 : List Ins := [
  ⟨some 4, none, .mov (.t 0)⟩,
  ⟨some 5, none, .mov (.t 1)⟩,
  ⟨some 6, none, .mx [.t 5, .c (.int .i64 0)]⟩,
  ⟨some 7, none, .conv .u64 (.t 6)⟩,
  ⟨some 8, none, .bsl 1 1 [.int .u64 0] [(0, .t 7)]⟩,
  ⟨some 9, none, .call (.c (.fn 101 [] [])) [.t 4, .t 8]⟩]
abbrev c56 : IR := .reg c56_r1
abbrev F56 : FnA := ⟨10, c56, []⟩
theorem ok56 : cFn Try.prog 56 = some F56 := by kernel_rfl
theorem hb56 : HasBody Try.prog 56 := ⟨_, Try.func56, by kernel_rfl, by kernel_rfl⟩
/-! codes.Writer.Flag -/
abbrev c57_r1 : List Ins := [
  ⟨some 4, none, .mov (.t 1)⟩]
abbrev c57_r2 : List Ins := [
  ⟨some 5, none, .mov (.t 0)⟩,
  ⟨some 6, none, .bsl 1 1 [.int .u64 0] [(0, .c (.int .u64 1))]⟩,
  ⟨some 7, none, .call (.c (.fn 101 [] [])) [.t 5, .t 6]⟩]
abbrev c57_r3 : List Ins := [
  ⟨some 8, none, .mov (.t 0)⟩,
  ⟨some 9, none, .bsl 1 1 [.int .u64 0] [(0, .c (.int .u64 0))]⟩,
  ⟨some 10, none, .call (.c (.fn 101 [] [])) [.t 8, .t 9]⟩]
abbrev c57 : IR := .seq (.seq (.reg c57_r1) (.cond (.t 4) (.seq (.reg c57_r2) (.ret)) (.skip))) (.reg c57_r3)
abbrev F57 : FnA := ⟨11, c57, []⟩
theorem ok57 : cFn Try.prog 57 = some F57 := by kernel_rfl
theorem hb57 : HasBody Try.prog 57 := ⟨_, Try.func57, by kernel_rfl, by kernel_rfl⟩
/-! codes.Writer.Words -/
abbrev c58_r1 : List Ins := [
  ⟨some 4, none, .mov (.t 0)⟩,
  ⟨some 5, none, .mov (.t 1)⟩,
  ⟨some 6, none, .len (.t 5)⟩,
  ⟨some 7, none, .call (.c (.fn 56 [] [])) [.t 4, .t 6]⟩]
abbrev c58_r2 : List Ins := [
  ⟨some 8, none, .mov (.t 0)⟩,
  ⟨some 9, none, .mov (.t 1)⟩,
  ⟨some 10, none, .call (.c (.fn 101 [] [])) [.t 8, .t 9]⟩]
abbrev c58 : IR := .seq (.reg c58_r1) (.reg c58_r2)
abbrev F58 : FnA := ⟨11, c58, []⟩
theorem ok58 : cFn Try.prog 58 = some F58 := by kernel_rfl
theorem hb58 : HasBody Try.prog 58 := ⟨_, Try.func58, by kernel_rfl, by kernel_rfl⟩
/-! ref01.Signed -/
abbrev c59_r1 : List Ins := [
  ⟨some 2, none, .mov (.c (.int .u64 0))⟩]
abbrev c59_r2 : List Ins := [
  ⟨some 3, none, .mov (.t 0)⟩,
  ⟨some 4, none, .bin .geq (.t 3) (.c (.int .i64 0))⟩]
abbrev c59_r3 : List Ins := [
  ⟨some 5, none, .mov (.t 0)⟩,
  ⟨some 6, none, .conv .u64 (.t 5)⟩,
  ⟨some 7, none, .bin .mul (.c (.int .u64 2)) (.t 6)⟩,
  ⟨some 2, none, .mov (.t 7)⟩]
abbrev c59_r4 : List Ins := [
  ⟨some 8, none, .mov (.t 0)⟩,
  ⟨some 9, none, .bin .add (.t 8) (.c (.int .i64 1))⟩,
  ⟨some 10, none, .un .neg (.t 9)⟩,
  ⟨some 11, none, .conv .u64 (.t 10)⟩,
  ⟨some 12, none, .bin .mul (.c (.int .u64 2)) (.t 11)⟩,
  ⟨some 13, none, .bin .add (.t 12) (.c (.int .u64 1))⟩,
  ⟨some 2, none, .mov (.t 13)⟩]
abbrev c59 : IR := .seq (.reg c59_r1) (.seq (.seq (.reg c59_r2) (.cond (.t 4) (.seq (.reg c59_r3) (.ret)) (.skip))) (.seq (.reg c59_r4) (.ret)))
abbrev F59 : FnA := ⟨14, c59, [.t 2]⟩
theorem ok59 : cFn Try.prog 59 = some F59 := by kernel_rfl
theorem hb59 : HasBody Try.prog 59 := ⟨_, Try.func59, by kernel_rfl, by kernel_rfl⟩
/-! ref01.Packed -/
abbrev c60_r1 : List Ins := [
  ⟨some 2, none, .mov (.c (.sl .full []))⟩]
abbrev c60_r2 : List Ins := [
  ⟨some 3, none, .mov (.c (.sl .full []))⟩]
abbrev c60_r3 : List Ins := [
  ⟨some 4, none, .mov (.c (.int .i64 0))⟩]
abbrev c60_r4 : List Ins := [
  ⟨some 7, none, .mov (.t 4)⟩,
  ⟨some 8, none, .mov (.t 0)⟩,
  ⟨some 9, none, .lenS (.t 8)⟩,
  ⟨some 10, none, .bin .lss (.t 7) (.t 9)⟩]
abbrev c60_r5 : List Ins := [
  ⟨some 5, none, .mov (.c (.int .u64 0))⟩]
abbrev c60_r6 : List Ins := [
  ⟨some 6, none, .mov (.c (.int .i64 7))⟩]
abbrev c60_r7 : List Ins := [
  ⟨some 13, none, .mov (.t 6)⟩,
  ⟨some 14, none, .bin .geq (.t 13) (.c (.int .i64 0))⟩]
abbrev c60_r8 : List Ins := [
  ⟨some 17, none, .mov (.t 5)⟩,
  ⟨some 18, none, .bin .mul (.t 17) (.c (.int .u64 256))⟩,
  ⟨some 5, none, .mov (.t 18)⟩]
abbrev c60_r9 : List Ins := [
  ⟨some 19, none, .mov (.t 4)⟩,
  ⟨some 20, none, .mov (.t 6)⟩,
  ⟨some 21, none, .bin .add (.t 19) (.t 20)⟩,
  ⟨some 22, none, .mov (.t 0)⟩,
  ⟨some 23, none, .lenS (.t 22)⟩,
  ⟨some 24, none, .bin .lss (.t 21) (.t 23)⟩]
abbrev c60_r10 : List Ins := [
  ⟨some 25, none, .mov (.t 5)⟩,
  ⟨some 26, none, .mov (.t 0)⟩,
  ⟨some 27, none, .mov (.t 4)⟩,
  ⟨some 28, none, .mov (.t 6)⟩,
  ⟨some 29, none, .bin .add (.t 27) (.t 28)⟩,
  ⟨some 30, none, .idxS (.t 26) (.t 29)⟩,
  ⟨some 31, none, .conv .u64 (.t 30)⟩,
  ⟨some 32, none, .bin .add (.t 25) (.t 31)⟩,
  ⟨some 5, none, .mov (.t 32)⟩]
abbrev c60_r11 : List Ins := [
  ⟨some 15, none, .mov (.t 6)⟩,
  ⟨some 16, none, .bin .sub (.t 15) (.c (.int .i64 1))⟩,
  ⟨some 6, none, .mov (.t 16)⟩]
abbrev c60_l12 : IR := .seq (.seq (.reg c60_r7) (.cond (.t 14) (.skip) (.exit 2))) (.seq (.blk 3 (.seq (.reg c60_r8) (.seq (.reg c60_r9) (.cond (.t 24) (.reg c60_r10) (.skip))))) (.reg c60_r11))
abbrev c60_r13 : List Ins := [
  ⟨some 33, none, .mov (.t 3)⟩,
  ⟨some 34, none, .mov (.t 5)⟩,
  ⟨some 35, none, .bsl 1 1 [.int .u64 0] [(0, .t 34)]⟩,
  ⟨some 36, none, .append 1 8 (.t 33) (.t 35)⟩,
  ⟨some 3, none, .mov (.t 36)⟩]
abbrev c60_r14 : List Ins := [
  ⟨some 11, none, .mov (.t 4)⟩,
  ⟨some 12, none, .bin .add (.t 11) (.c (.int .i64 8))⟩,
  ⟨some 4, none, .mov (.t 12)⟩]
abbrev c60_l15 : IR := .seq (.seq (.reg c60_r4) (.cond (.t 10) (.skip) (.exit 0))) (.seq (.blk 1 (.seq (.reg c60_r5) (.seq (.seq (.reg c60_r6) (.blk 2 (.loop c60_l12))) (.reg c60_r13)))) (.reg c60_r14))
abbrev c60_r16 : List Ins := [
  ⟨some 37, none, .mov (.t 3)⟩,
  ⟨some 2, none, .mov (.t 37)⟩]
abbrev c60 : IR := .seq (.reg c60_r1) (.seq (.reg c60_r2) (.seq (.seq (.reg c60_r3) (.blk 0 (.loop c60_l15))) (.seq (.reg c60_r16) (.ret))))
abbrev F60 : FnA := ⟨38, c60, [.t 2]⟩
theorem ok60 : cFn Try.prog 60 = some F60 := by kernel_rfl
theorem hb60 : HasBody Try.prog 60 := ⟨_, Try.func60, by kernel_rfl, by kernel_rfl⟩
/-! slices.Clone:uint64 -/
abbrev c61_r1 : List Ins := [
  ⟨some 2, none, .mov (.c (.sl .full []))⟩]
abbrev c61_r2 : List Ins := [
  ⟨some 3, none, .mov (.t 0)⟩,
  ⟨some 4, none, .isnil false (.t 3)⟩]
abbrev c61_r3 : List Ins := [
  ⟨some 2, none, .mov (.c (.sl .full []))⟩]
abbrev c61_r4 : List Ins := [
  ⟨some 5, none, .bsl 1 0 [.int .u64 0] []⟩,
  ⟨some 6, none, .mov (.t 0)⟩,
  ⟨some 7, none, .append 1 8 (.t 5) (.t 6)⟩,
  ⟨some 2, none, .mov (.t 7)⟩]
abbrev c61 : IR := .seq (.reg c61_r1) (.seq (.seq (.reg c61_r2) (.cond (.t 4) (.seq (.reg c61_r3) (.ret)) (.skip))) (.seq (.reg c61_r4) (.ret)))
abbrev F61 : FnA := ⟨8, c61, [.t 2]⟩
theorem ok61 : cFn Try.prog 61 = some F61 := by kernel_rfl
theorem hb61 : HasBody Try.prog 61 := ⟨_, Try.func61, by kernel_rfl, by kernel_rfl⟩
/-! units.there -/
abbrev c62_r1 : List Ins := [
  ⟨some 2, none, .box (.t 0)⟩,
  ⟨some 4, none, .mov (.c (.bool false))⟩]
abbrev c62_r2 : List Ins := [
  ⟨some 5, none, .mov (.t 1)⟩,
  ⟨some 6, none, .bin .geq (.t 5) (.c (.int .i64 0))⟩,
  ⟨some 7, none, .mov (.t 6)⟩,
  ⟨some 8, some (7, true), .mov (.t 1)⟩,
  ⟨some 9, some (7, true), .faddr 0 (.t 2)⟩,
  ⟨some 10, some (7, true), .load 1 false (.t 9)⟩,
  ⟨some 11, some (7, true), .len (.t 10)⟩,
  ⟨some 12, some (7, true), .bin .lss (.t 8) (.t 11)⟩,
  ⟨some 13, none, .pick (.t 7) (.t 12) (.c (.bool false))⟩,
  ⟨some 14, none, .mov (.t 13)⟩,
  ⟨some 15, some (14, true), .mov (.t 1)⟩,
  ⟨some 16, some (14, true), .bin .lss (.t 15) (.c (.int .i64 4))⟩,
  ⟨some 17, none, .pick (.t 14) (.t 16) (.c (.bool false))⟩,
  ⟨some 4, none, .mov (.t 17)⟩]
abbrev c62 : IR := .seq (.reg c62_r1) (.seq (.reg c62_r2) (.ret))
abbrev F62 : FnA := ⟨18, c62, [.t 4]⟩
theorem ok62 : cFn Try.prog 62 = some F62 := by kernel_rfl
theorem hb62 : HasBody Try.prog 62 := ⟨_, Try.func62, by kernel_rfl, by kernel_rfl⟩
/-! cat.copied -/
abbrev c63_r1 : List Ins := [
  ⟨some 1, none, .box (.t 0)⟩,
  ⟨some 2, none, .alloc [.sl .full [], .int .i64 0, .int .i64 0, .int .i64 0, .int .i64 0, .int .i64 0, .int .i64 0, .int .i64 0, .int .i64 0, .int .i64 0, .int .i64 0, .int .i64 0, .int .i64 0, .int .i64 0, .int .i64 0, .int .i64 0, .int .i64 0]⟩]
abbrev c63_r2 : List Ins := [
  ⟨some 5, none, .faddr 0 (.t 1)⟩,
  ⟨some 6, none, .load 1 false (.t 5)⟩,
  ⟨some 7, none, .call (.c (.fn 103 [] [])) [.t 6]⟩,
  ⟨some 8, none, .faddr 0 (.t 1)⟩,
  ⟨none, none, .store 1 (.t 8) (.t 7)⟩]
abbrev c63_r3 : List Ins := [
  ⟨some 9, none, .faddr 0 (.t 1)⟩,
  ⟨some 10, none, .load 1 false (.t 9)⟩,
  ⟨some 11, none, .len (.t 10)⟩,
  ⟨some 12, none, .mov (.c (.int .i64 0))⟩]
abbrev c63_r4 : List Ins := [
  ⟨some 13, none, .bin .lss (.t 12) (.t 11)⟩]
abbrev c63_r5 : List Ins := [
  ⟨some 14, none, .mov (.t 12)⟩,
  ⟨some 15, none, .iaddr 5 (.t 10) (.t 12)⟩,
  ⟨some 16, none, .load 5 true (.t 15)⟩,
  ⟨some 4, none, .alloc [.str ⟨#[]⟩, .int .i64 0, .sl .full [], .sl .full [], .bool false]⟩,
  ⟨some 3, none, .mov (.t 14)⟩,
  ⟨none, none, .store 5 (.t 4) (.t 16)⟩]
abbrev c63_r6 : List Ins := [
  ⟨some 17, none, .faddr 0 (.t 1)⟩,
  ⟨some 18, none, .load 1 false (.t 17)⟩,
  ⟨some 19, none, .mov (.t 3)⟩,
  ⟨some 20, none, .faddr 0 (.t 1)⟩,
  ⟨some 21, none, .load 1 false (.t 20)⟩,
  ⟨some 22, none, .mov (.t 3)⟩,
  ⟨some 23, none, .faddr 2 (.t 4)⟩,
  ⟨some 24, none, .load 1 false (.t 23)⟩,
  ⟨some 25, none, .call (.c (.fn 104 [] [])) [.t 24]⟩,
  ⟨some 26, none, .faddr 3 (.t 4)⟩,
  ⟨some 27, none, .load 1 false (.t 26)⟩,
  ⟨some 28, none, .call (.c (.fn 104 [] [])) [.t 27]⟩,
  ⟨some 29, none, .iaddr 5 (.t 18) (.t 19)⟩,
  ⟨some 30, none, .faddr 2 (.t 29)⟩,
  ⟨none, none, .store 1 (.t 30) (.t 25)⟩,
  ⟨some 31, none, .iaddr 5 (.t 21) (.t 22)⟩,
  ⟨some 32, none, .faddr 3 (.t 31)⟩,
  ⟨none, none, .store 1 (.t 32) (.t 28)⟩]
def c63_a6 : List (List Nat) := [[], [0], [], [], [3], [], [], [6], [7], [], [9], [10, 8], [1, 2, 0, 1, 2, 6, 7, 8, 11], [12, 0, 1, 2, 6, 7, 8, 11], [13, 8, 11, 0, 1, 2, 6, 7, 8, 11], [4, 5, 0, 1, 2, 3, 4, 5, 6, 7, 8, 9, 10, 11, 12, 13, 14], [15, 0, 1, 2, 3, 4, 5, 6, 7, 8, 9, 10, 11, 12, 13, 14], [16, 11, 14, 0, 1, 2, 3, 4, 5, 6, 7, 8, 9, 10, 11, 12, 13, 14]]
abbrev c63_m6 : List Am.Mark := [⟨false, 0, 0⟩, ⟨false, 0, 0⟩, ⟨false, 0, 0⟩, ⟨false, 0, 1⟩, ⟨false, 0, 1⟩, ⟨false, 0, 1⟩, ⟨false, 0, 0⟩, ⟨false, 0, 0⟩, ⟨false, 0, 0⟩, ⟨false, 0, 1⟩, ⟨false, 0, 1⟩, ⟨false, 0, 0⟩, ⟨false, 0, 1⟩, ⟨false, 0, 0⟩, ⟨true, 0, 1⟩, ⟨false, 1, 2⟩, ⟨false, 1, 1⟩, ⟨true, 1, 2⟩]
theorem c63_d6 : drawFine c63_r6 c63_a6 c63_m6 = true := by decide +kernel
abbrev c63_r7 : List Ins := [
  ⟨some 33, none, .bin .add (.t 12) (.c (.int .i64 1))⟩,
  ⟨some 12, none, .mov (.t 33)⟩]
abbrev c63_l8 : IR := .seq (.reg c63_r4) (.seq (.cond (.t 13) (.skip) (.exit 0)) (.seq (.blk 1 (.seq (.reg c63_r5) (.dreg c63_r6 c63_a6))) (.reg c63_r7)))
abbrev c63_r9 : List Ins := [
  ⟨some 34, none, .load 17 true (.t 1)⟩,
  ⟨none, none, .store 17 (.t 2) (.t 34)⟩]
abbrev c63 : IR := .seq (.reg c63_r1) (.seq (.reg c63_r2) (.seq (.seq (.reg c63_r3) (.blk 0 (.loop c63_l8))) (.seq (.reg c63_r9) (.ret))))
abbrev F63 : FnA := ⟨35, c63, [.cell 2 17 true]⟩
theorem ok63 : cFn Try.prog 63 = some F63 := by kernel_rfl
theorem hb63 : HasBody Try.prog 63 := ⟨_, Try.func63, by kernel_rfl, by kernel_rfl⟩
/-! cat.turned -/
abbrev c64_r1 : List Ins := [
  ⟨some 2, none, .box (.t 0)⟩,
  ⟨some 3, none, .box (.t 1)⟩,
  ⟨some 4, none, .alloc [.int .i64 0, .int .i64 0, .int .i64 0, .int .i64 0, .int .i64 0, .int .i64 0, .int .i64 0, .int .i64 0, .int .i64 0, .int .i64 0, .int .i64 0, .int .i64 0, .int .i64 0, .int .i64 0, .int .i64 0, .int .i64 0]⟩]
abbrev c64_r2 : List Ins := [
  ⟨some 5, none, .alloc [.int .i64 0, .int .i64 0, .int .i64 0, .int .i64 0, .int .i64 0, .int .i64 0, .int .i64 0, .int .i64 0, .int .i64 0, .int .i64 0, .int .i64 0, .int .i64 0, .int .i64 0, .int .i64 0, .int .i64 0, .int .i64 0]⟩]
abbrev c64_r3 : List Ins := [
  ⟨some 8, none, .load 17 true (.t 2)⟩,
  ⟨some 9, none, .call (.c (.fn 82 [] [])) [.t 8]⟩]
abbrev c64_r4 : List Ins := [
  ⟨some 6, none, .mov (.t 10)⟩]
abbrev c64_r5 : List Ins := [
  ⟨some 7, none, .mov (.t 11)⟩]
abbrev c64_r6 : List Ins := [
  ⟨some 12, none, .mov (.t 6)⟩,
  ⟨some 13, none, .mov (.t 7)⟩,
  ⟨some 14, none, .load 1 false (.t 3)⟩,
  ⟨some 15, none, .mov (.t 6)⟩,
  ⟨some 16, none, .mov (.t 7)⟩,
  ⟨some 17, none, .call (.t 14) [.t 15, .t 16]⟩,
  ⟨some 18, none, .iaddrA 4 4 (.t 5) (.t 12)⟩,
  ⟨some 19, none, .iaddrA 4 1 (.t 18) (.t 13)⟩,
  ⟨none, none, .store 1 (.t 19) (.t 17)⟩]
def c64_a6 : List (List Nat) := [[], [], [], [], [], [2, 3, 4], [0], [6, 1, 0, 1, 2, 3, 4, 5], [7, 5, 5, 0, 1, 2, 3, 4, 5]]
abbrev c64_m6 : List Am.Mark := [⟨false, 0, 1⟩, ⟨false, 0, 1⟩, ⟨false, 0, 0⟩, ⟨false, 0, 0⟩, ⟨false, 0, 0⟩, ⟨true, 0, 1⟩, ⟨false, 0, 2⟩, ⟨false, 1, 1⟩, ⟨true, 1, 2⟩]
theorem c64_d6 : drawFine c64_r6 c64_a6 c64_m6 = true := by decide +kernel
abbrev c64_x7 : IR := .seq (.reg c64_r4) (.reg c64_r5)
abbrev c64_y8 : IR := .blk 1 (.dreg c64_r6 c64_a6)
abbrev c64_r9 : List Ins := [
  ⟨some 20, none, .load 16 true (.t 5)⟩,
  ⟨none, none, .store 16 (.t 4) (.t 20)⟩]
abbrev c64 : IR := .seq (.reg c64_r1) (.seq (.reg c64_r2) (.seq (.seq (.reg c64_r3) (.blk 0 (.rngf (.t 9) [10, 11] c64_x7 c64_y8))) (.seq (.reg c64_r9) (.ret))))
abbrev F64 : FnA := ⟨21, c64, [.cell 4 16 true]⟩
theorem ok64 : cFn Try.prog 64 = some F64 := by kernel_rfl
theorem hb64 : HasBody Try.prog 64 := ⟨_, Try.func64, by kernel_rfl, by kernel_rfl⟩
/-! cat.Open$1 -/
abbrev c65_r1 : List Ins := [
  ⟨some 5, none, .mov (.c (.int .i64 0))⟩]
abbrev c65_r2 : List Ins := [
  ⟨some 6, none, .faddr 0 (.t 2)⟩,
  ⟨some 7, none, .load 1 false (.t 6)⟩,
  ⟨some 8, none, .mov (.t 0)⟩,
  ⟨some 9, none, .iaddr 5 (.t 7) (.t 8)⟩,
  ⟨some 10, none, .load 5 true (.t 9)⟩,
  ⟨some 11, none, .call (.c (.fn 66 [] [])) [.t 10]⟩,
  ⟨some 5, none, .mov (.t 11)⟩]
abbrev c65 : IR := .seq (.reg c65_r1) (.seq (.reg c65_r2) (.ret))
abbrev F65 : FnA := ⟨12, c65, [.t 5]⟩
theorem ok65 : cFn Try.prog 65 = some F65 := by kernel_rfl
theorem hb65 : HasBody Try.prog 65 := ⟨_, Try.func65, by kernel_rfl, by kernel_rfl⟩
/-! cat.all -/
abbrev c66_r1 : List Ins := [
  ⟨some 1, none, .box (.t 0)⟩,
  ⟨some 2, none, .mov (.c (.int .i64 0))⟩]
abbrev c66_r2 : List Ins := [
  ⟨some 3, none, .faddr 2 (.t 1)⟩,
  ⟨some 4, none, .load 1 false (.t 3)⟩,
  ⟨some 5, none, .len (.t 4)⟩,
  ⟨some 6, none, .bin .sub (.t 5) (.c (.int .i64 1))⟩,
  ⟨some 7, none, .mx [.t 6, .c (.int .i64 0)]⟩,
  ⟨some 8, none, .bin .shl (.c (.int .i64 1)) (.t 7)⟩,
  ⟨some 9, none, .bin .sub (.t 8) (.c (.int .i64 1))⟩,
  ⟨some 2, none, .mov (.t 9)⟩]
abbrev c66 : IR := .seq (.reg c66_r1) (.seq (.reg c66_r2) (.ret))
abbrev F66 : FnA := ⟨10, c66, [.t 2]⟩
theorem ok66 : cFn Try.prog 66 = some F66 := by kernel_rfl
theorem hb66 : HasBody Try.prog 66 := ⟨_, Try.func66, by kernel_rfl, by kernel_rfl⟩
/-! ref01.Back -/
abbrev c67_r1 : List Ins := [
  ⟨some 2, none, .mov (.c (.int .i64 0))⟩]
abbrev c67_r2 : List Ins := [
  ⟨some 3, none, .mov (.t 0)⟩,
  ⟨some 4, none, .bin .rem (.t 3) (.c (.int .u64 2))⟩,
  ⟨some 5, none, .bin .eql (.t 4) (.c (.int .u64 0))⟩]
abbrev c67_r3 : List Ins := [
  ⟨some 6, none, .mov (.t 0)⟩,
  ⟨some 7, none, .bin .quo (.t 6) (.c (.int .u64 2))⟩,
  ⟨some 8, none, .conv .i64 (.t 7)⟩,
  ⟨some 2, none, .mov (.t 8)⟩]
abbrev c67_r4 : List Ins := [
  ⟨some 9, none, .mov (.t 0)⟩,
  ⟨some 10, none, .bin .quo (.t 9) (.c (.int .u64 2))⟩,
  ⟨some 11, none, .conv .i64 (.t 10)⟩,
  ⟨some 12, none, .un .neg (.t 11)⟩,
  ⟨some 13, none, .bin .sub (.t 12) (.c (.int .i64 1))⟩,
  ⟨some 2, none, .mov (.t 13)⟩]
abbrev c67 : IR := .seq (.reg c67_r1) (.seq (.seq (.reg c67_r2) (.cond (.t 5) (.seq (.reg c67_r3) (.ret)) (.skip))) (.seq (.reg c67_r4) (.ret)))
abbrev F67 : FnA := ⟨14, c67, [.t 2]⟩
theorem ok67 : cFn Try.prog 67 = some F67 := by kernel_rfl
theorem hb67 : HasBody Try.prog 67 := ⟨_, Try.func67, by kernel_rfl, by kernel_rfl⟩
/-! codes.Reader.Count -/
abbrev c68_r1 : List Ins := [
  ⟨some 3, none, .box (.t 1)⟩,
  ⟨some 4, none, .mov (.c (.int .i64 0))⟩]
abbrev c68_r2 : List Ins := [
  ⟨some 5, none, .mov (.t 0)⟩,
  ⟨some 6, none, .mkfn 106 [] [.t 3]⟩,
  ⟨some 7, none, .call (.c (.fn 105 [] [])) [.t 5, .t 6]⟩,
  ⟨some 8, none, .conv .i64 (.t 7)⟩,
  ⟨some 4, none, .mov (.t 8)⟩]
abbrev c68 : IR := .seq (.reg c68_r1) (.seq (.reg c68_r2) (.ret))
abbrev F68 : FnA := ⟨9, c68, [.t 4]⟩
theorem ok68 : cFn Try.prog 68 = some F68 := by kernel_rfl
theorem hb68 : HasBody Try.prog 68 := ⟨_, Try.func68, by kernel_rfl, by kernel_rfl⟩
/-! codes.Reader.Signed -/
abbrev c69_r1 : List Ins := [
  ⟨some 2, none, .mov (.c (.int .i64 0))⟩]
abbrev c69_r2 : List Ins := [
  ⟨some 4, none, .mov (.t 0)⟩,
  ⟨some 5, none, .call (.c (.fn 105 [] [])) [.t 4, .c (.fn 107 [] [])]⟩,
  ⟨some 3, none, .mov (.t 5)⟩]
abbrev c69_r3 : List Ins := [
  ⟨some 6, none, .mov (.t 3)⟩,
  ⟨some 7, none, .bin .shr (.t 6) (.c (.int .u64 1))⟩,
  ⟨some 8, none, .conv .i64 (.t 7)⟩,
  ⟨some 9, none, .mov (.t 3)⟩,
  ⟨some 10, none, .bin .and (.t 9) (.c (.int .u64 1))⟩,
  ⟨some 11, none, .conv .i64 (.t 10)⟩,
  ⟨some 12, none, .un .neg (.t 11)⟩,
  ⟨some 13, none, .bin .xor (.t 8) (.t 12)⟩,
  ⟨some 2, none, .mov (.t 13)⟩]
abbrev c69 : IR := .seq (.reg c69_r1) (.seq (.reg c69_r2) (.seq (.reg c69_r3) (.ret)))
abbrev F69 : FnA := ⟨14, c69, [.t 2]⟩
theorem ok69 : cFn Try.prog 69 = some F69 := by kernel_rfl
theorem hb69 : HasBody Try.prog 69 := ⟨_, Try.func69, by kernel_rfl, by kernel_rfl⟩
/-! codes.Reader.Flag -/
abbrev c70_r1 : List Ins := [
  ⟨some 2, none, .mov (.c (.bool false))⟩]
abbrev c70_r2 : List Ins := [
  ⟨some 3, none, .mov (.t 0)⟩,
  ⟨some 4, none, .call (.c (.fn 68 [] [])) [.t 3, .c (.int .i64 1)]⟩,
  ⟨some 5, none, .bin .eql (.t 4) (.c (.int .i64 1))⟩,
  ⟨some 2, none, .mov (.t 5)⟩]
abbrev c70 : IR := .seq (.reg c70_r1) (.seq (.reg c70_r2) (.ret))
abbrev F70 : FnA := ⟨6, c70, [.t 2]⟩
theorem ok70 : cFn Try.prog 70 = some F70 := by kernel_rfl
theorem hb70 : HasBody Try.prog 70 := ⟨_, Try.func70, by kernel_rfl, by kernel_rfl⟩
/-! codes.Reader.Text -/
abbrev c71_r1 : List Ins := [
  ⟨some 2, none, .mov (.c (.str ⟨#[]⟩))⟩]
abbrev c71_r2 : List Ins := [
  ⟨some 7, none, .mov (.t 0)⟩,
  ⟨some 8, none, .call (.c (.fn 68 [] [])) [.t 7, .c (.int .i64 64)]⟩,
  ⟨some 3, none, .mov (.t 8)⟩]
abbrev c71_r3 : List Ins := [
  ⟨some 9, none, .mov (.t 0)⟩,
  ⟨some 10, none, .mov (.t 3)⟩,
  ⟨some 11, none, .bin .add (.t 10) (.c (.int .i64 8))⟩,
  ⟨some 12, none, .bin .sub (.t 11) (.c (.int .i64 1))⟩,
  ⟨some 13, none, .bin .quo (.t 12) (.c (.int .i64 8))⟩,
  ⟨some 14, none, .call (.c (.fn 108 [] [])) [.t 9, .t 13]⟩,
  ⟨some 4, none, .mov (.t 14)⟩]
abbrev c71_r4 : List Ins := [
  ⟨some 15, none, .mov (.t 0)⟩,
  ⟨some 16, none, .nilck (.t 15)⟩,
  ⟨some 17, none, .faddr 1 (.t 16)⟩,
  ⟨some 18, none, .load 1 false (.t 17)⟩]
abbrev c71_r5 : List Ins := [
  ⟨some 2, none, .mov (.c (.str ⟨#[]⟩))⟩]
abbrev c71_r6 : List Ins := [
  ⟨some 5, none, .mov (.c (.sl .full []))⟩]
abbrev c71_r7 : List Ins := [
  ⟨some 19, none, .mov (.t 3)⟩,
  ⟨some 20, none, .mov (.c (.int .i64 0))⟩]
abbrev c71_r8 : List Ins := [
  ⟨some 21, none, .bin .lss (.t 20) (.t 19)⟩]
abbrev c71_r9 : List Ins := [
  ⟨some 22, none, .mov (.t 20)⟩,
  ⟨some 6, none, .mov (.t 22)⟩]
abbrev c71_r10 : List Ins := [
  ⟨some 23, none, .mov (.t 5)⟩,
  ⟨some 24, none, .mov (.t 4)⟩,
  ⟨some 25, none, .mov (.t 6)⟩,
  ⟨some 26, none, .bin .quo (.t 25) (.c (.int .i64 8))⟩,
  ⟨some 27, none, .iaddr 1 (.t 24) (.t 26)⟩,
  ⟨some 28, none, .load 1 false (.t 27)⟩,
  ⟨some 29, none, .mov (.t 6)⟩,
  ⟨some 30, none, .bin .rem (.t 29) (.c (.int .i64 8))⟩,
  ⟨some 31, none, .bin .mul (.c (.int .i64 8)) (.t 30)⟩,
  ⟨some 32, none, .bin .shr (.t 28) (.t 31)⟩,
  ⟨some 33, none, .conv .u8 (.t 32)⟩,
  ⟨some 34, none, .bsl 1 1 [.int .u8 0] [(0, .t 33)]⟩,
  ⟨some 35, none, .append 1 1 (.t 23) (.t 34)⟩,
  ⟨some 5, none, .mov (.t 35)⟩]
abbrev c71_r11 : List Ins := [
  ⟨some 36, none, .bin .add (.t 20) (.c (.int .i64 1))⟩,
  ⟨some 20, none, .mov (.t 36)⟩]
abbrev c71_l12 : IR := .seq (.reg c71_r8) (.seq (.cond (.t 21) (.skip) (.exit 0)) (.seq (.blk 1 (.seq (.reg c71_r9) (.reg c71_r10))) (.reg c71_r11)))
abbrev c71_r13 : List Ins := [
  ⟨some 37, none, .mov (.t 5)⟩,
  ⟨some 38, none, .b2s (.t 37)⟩,
  ⟨some 39, none, .call (.c (.fn 102 [] [])) [.t 38]⟩,
  ⟨some 40, none, .mov (.t 4)⟩,
  ⟨some 41, none, .call (.c (.fn 109 [] [])) [.t 39, .t 40]⟩,
  ⟨some 42, none, .un .not (.t 41)⟩]
abbrev c71_r14 : List Ins := [
  ⟨some 43, none, .mov (.t 0)⟩,
  ⟨some 44, none, .nilck (.t 43)⟩,
  ⟨some 45, none, .faddr 1 (.t 44)⟩,
  ⟨none, none, .store 1 (.t 45) (.c (.bool true))⟩]
abbrev c71_r15 : List Ins := [
  ⟨some 2, none, .mov (.c (.str ⟨#[]⟩))⟩]
abbrev c71_r16 : List Ins := [
  ⟨some 46, none, .mov (.t 5)⟩,
  ⟨some 47, none, .b2s (.t 46)⟩,
  ⟨some 2, none, .mov (.t 47)⟩]
abbrev c71 : IR := .seq (.reg c71_r1) (.seq (.reg c71_r2) (.seq (.reg c71_r3) (.seq (.seq (.reg c71_r4) (.cond (.t 18) (.seq (.reg c71_r5) (.ret)) (.skip))) (.seq (.reg c71_r6) (.seq (.seq (.reg c71_r7) (.blk 0 (.loop c71_l12))) (.seq (.seq (.reg c71_r13) (.cond (.t 42) (.seq (.reg c71_r14) (.seq (.reg c71_r15) (.ret))) (.skip))) (.seq (.reg c71_r16) (.ret))))))))
abbrev F71 : FnA := ⟨48, c71, [.t 2]⟩
theorem ok71 : cFn Try.prog 71 = some F71 := by kernel_rfl
theorem hb71 : HasBody Try.prog 71 := ⟨_, Try.func71, by kernel_rfl, by kernel_rfl⟩
/-! codes.Reader.Words -/
abbrev c72_r1 : List Ins := [
  ⟨some 4, none, .mov (.c (.sl .full []))⟩]
abbrev c72_r2 : List Ins := [
  ⟨some 5, none, .mov (.t 0)⟩,
  ⟨some 6, none, .mov (.t 0)⟩,
  ⟨some 7, none, .mov (.t 1)⟩,
  ⟨some 8, none, .call (.c (.fn 68 [] [])) [.t 6, .t 7]⟩,
  ⟨some 9, none, .call (.c (.fn 108 [] [])) [.t 5, .t 8]⟩,
  ⟨some 4, none, .mov (.t 9)⟩]
abbrev c72 : IR := .seq (.reg c72_r1) (.seq (.reg c72_r2) (.ret))
abbrev F72 : FnA := ⟨10, c72, [.t 4]⟩
theorem ok72 : cFn Try.prog 72 = some F72 := by kernel_rfl
theorem hb72 : HasBody Try.prog 72 := ⟨_, Try.func72, by kernel_rfl, by kernel_rfl⟩
/-! ref14.Unit -/
abbrev c73_r1 : List Ins := [
  ⟨some 4, none, .box (.t 0)⟩,
  ⟨some 8, none, .mov (.c (.int .i64 0))⟩]
abbrev c73_r2 : List Ins := [
  ⟨some 9, none, .mov (.c (.int .i64 0))⟩]
abbrev c73_r3 : List Ins := [
  ⟨some 10, none, .mov (.c (.int .i64 0))⟩]
abbrev c73_r4 : List Ins := [
  ⟨some 11, none, .mov (.t 10)⟩,
  ⟨some 12, none, .mov (.t 3)⟩,
  ⟨some 13, none, .bin .lss (.t 11) (.t 12)⟩]
abbrev c73_r5 : List Ins := [
  ⟨some 16, none, .load 17 true (.t 4)⟩,
  ⟨some 17, none, .mov (.t 1)⟩,
  ⟨some 18, none, .mov (.t 2)⟩,
  ⟨some 19, none, .mov (.t 10)⟩,
  ⟨some 20, none, .call (.c (.fn 38 [] [])) [.t 16, .t 17, .t 18, .t 19]⟩]
abbrev c73_r6 : List Ins := [
  ⟨some 21, none, .mov (.t 9)⟩,
  ⟨some 22, none, .bin .add (.t 21) (.c (.int .i64 1))⟩,
  ⟨some 9, none, .mov (.t 22)⟩]
abbrev c73_r7 : List Ins := [
  ⟨some 14, none, .mov (.t 10)⟩,
  ⟨some 15, none, .bin .add (.t 14) (.c (.int .i64 1))⟩,
  ⟨some 10, none, .mov (.t 15)⟩]
abbrev c73_l8 : IR := .seq (.seq (.reg c73_r4) (.cond (.t 13) (.skip) (.exit 0))) (.seq (.blk 1 (.seq (.reg c73_r5) (.cond (.t 20) (.reg c73_r6) (.skip)))) (.reg c73_r7))
abbrev c73_r9 : List Ins := [
  ⟨some 23, none, .mov (.t 9)⟩,
  ⟨some 8, none, .mov (.t 23)⟩]
abbrev c73 : IR := .seq (.reg c73_r1) (.seq (.reg c73_r2) (.seq (.seq (.reg c73_r3) (.blk 0 (.loop c73_l8))) (.seq (.reg c73_r9) (.ret))))
abbrev F73 : FnA := ⟨24, c73, [.t 8]⟩
theorem ok73 : cFn Try.prog 73 = some F73 := by kernel_rfl
theorem hb73 : HasBody Try.prog 73 := ⟨_, Try.func73, by kernel_rfl, by kernel_rfl⟩
/-! cat.Break$1 -/
abbrev c78_r1 : List Ins := [
  ⟨some 3, none, .mov (.c (.bool false))⟩]
abbrev c78_r2 : List Ins := [
  ⟨some 4, none, .mov (.t 0)⟩,
  ⟨some 5, none, .bin .geq (.t 4) (.c (.int .i64 0))⟩,
  ⟨some 6, none, .mov (.t 5)⟩,
  ⟨some 7, some (6, true), .mov (.t 0)⟩,
  ⟨some 8, some (6, true), .faddr 0 (.t 1)⟩,
  ⟨some 9, some (6, true), .load 1 false (.t 8)⟩,
  ⟨some 10, some (6, true), .len (.t 9)⟩,
  ⟨some 11, some (6, true), .mn [.t 10, .c (.int .i64 4)]⟩,
  ⟨some 12, some (6, true), .bin .lss (.t 7) (.t 11)⟩,
  ⟨some 13, none, .pick (.t 6) (.t 12) (.c (.bool false))⟩,
  ⟨some 3, none, .mov (.t 13)⟩]
abbrev c78 : IR := .seq (.reg c78_r1) (.seq (.reg c78_r2) (.ret))
abbrev F78 : FnA := ⟨14, c78, [.t 3]⟩
theorem ok78 : cFn Try.prog 78 = some F78 := by kernel_rfl
theorem hb78 : HasBody Try.prog 78 := ⟨_, Try.func78, by kernel_rfl, by kernel_rfl⟩
/-! ref12.Bit -/
abbrev c79_r1 : List Ins := [
  ⟨some 4, none, .mov (.c (.bool false))⟩]
abbrev c79_r2 : List Ins := [
  ⟨some 5, none, .mov (.c (.int .i64 0))⟩]
abbrev c79_r3 : List Ins := [
  ⟨some 6, none, .mov (.t 5)⟩,
  ⟨some 7, none, .mov (.t 1)⟩,
  ⟨some 8, none, .bin .lss (.t 6) (.t 7)⟩]
abbrev c79_r4 : List Ins := [
  ⟨some 11, none, .mov (.t 0)⟩,
  ⟨some 12, none, .bin .quo (.t 11) (.c (.int .i64 2))⟩,
  ⟨some 0, none, .mov (.t 12)⟩]
abbrev c79_r5 : List Ins := [
  ⟨some 9, none, .mov (.t 5)⟩,
  ⟨some 10, none, .bin .add (.t 9) (.c (.int .i64 1))⟩,
  ⟨some 5, none, .mov (.t 10)⟩]
abbrev c79_l6 : IR := .seq (.seq (.reg c79_r3) (.cond (.t 8) (.skip) (.exit 0))) (.seq (.blk 1 (.reg c79_r4)) (.reg c79_r5))
abbrev c79_r7 : List Ins := [
  ⟨some 13, none, .mov (.t 0)⟩,
  ⟨some 14, none, .bin .rem (.t 13) (.c (.int .i64 2))⟩,
  ⟨some 15, none, .bin .eql (.t 14) (.c (.int .i64 1))⟩,
  ⟨some 4, none, .mov (.t 15)⟩]
abbrev c79 : IR := .seq (.reg c79_r1) (.seq (.seq (.reg c79_r2) (.blk 0 (.loop c79_l6))) (.seq (.reg c79_r7) (.ret)))
abbrev F79 : FnA := ⟨16, c79, [.t 4]⟩
theorem ok79 : cFn Try.prog 79 = some F79 := by kernel_rfl
theorem hb79 : HasBody Try.prog 79 := ⟨_, Try.func79, by kernel_rfl, by kernel_rfl⟩
/-! cat.pairs -/
abbrev c82_r1 : List Ins := [
  ⟨some 1, none, .box (.t 0)⟩,
  ⟨some 2, none, .mov (.c .nilfn)⟩]
abbrev c82_r2 : List Ins := [
  ⟨some 3, none, .mkfn 116 [] [.t 1]⟩,
  ⟨some 2, none, .mov (.t 3)⟩]
abbrev c82 : IR := .seq (.reg c82_r1) (.seq (.reg c82_r2) (.ret))
abbrev F82 : FnA := ⟨4, c82, [.t 2]⟩
theorem ok82 : cFn Try.prog 82 = some F82 := by kernel_rfl
theorem hb82 : HasBody Try.prog 82 := ⟨_, Try.func82, by kernel_rfl, by kernel_rfl⟩
/-! class.May -/
abbrev c84_r1 : List Ins := [
  ⟨some 1, none, .box (.t 0)⟩,
  ⟨some 2, none, .alloc [.bool false]⟩]
abbrev c84_r2 : List Ins := [
  ⟨some 6, none, .faddr 2 (.t 1)⟩,
  ⟨some 7, none, .load 1 false (.t 6)⟩,
  ⟨some 8, none, .len (.t 7)⟩,
  ⟨some 3, none, .mov (.t 8)⟩]
abbrev c84_r3 : List Ins := [
  ⟨some 9, none, .faddr 0 (.t 1)⟩,
  ⟨some 10, none, .load 1 false (.t 9)⟩,
  ⟨some 11, none, .lenS (.t 10)⟩,
  ⟨some 12, none, .bin .lss (.t 11) (.c (.int .i64 1))⟩,
  ⟨some 13, none, .mov (.t 12)⟩,
  ⟨some 14, some (13, false), .faddr 0 (.t 1)⟩,
  ⟨some 15, some (13, false), .load 1 false (.t 14)⟩,
  ⟨some 16, some (13, false), .lenS (.t 15)⟩,
  ⟨some 17, some (13, false), .bin .gtr (.t 16) (.c (.int .i64 16))⟩,
  ⟨some 18, none, .pick (.t 13) (.c (.bool true)) (.t 17)⟩,
  ⟨some 19, none, .mov (.t 18)⟩,
  ⟨some 20, some (19, false), .faddr 1 (.t 1)⟩,
  ⟨some 21, some (19, false), .load 1 false (.t 20)⟩,
  ⟨some 22, some (19, false), .bin .lss (.t 21) (.c (.int .i64 0))⟩,
  ⟨some 23, none, .pick (.t 19) (.c (.bool true)) (.t 22)⟩,
  ⟨some 24, none, .mov (.t 23)⟩,
  ⟨some 25, some (24, false), .faddr 1 (.t 1)⟩,
  ⟨some 26, some (24, false), .load 1 false (.t 25)⟩,
  ⟨some 27, some (24, false), .bin .gtr (.t 26) (.c (.int .i64 3))⟩,
  ⟨some 28, none, .pick (.t 24) (.c (.bool true)) (.t 27)⟩,
  ⟨some 29, none, .mov (.t 28)⟩,
  ⟨some 30, some (29, false), .mov (.t 3)⟩,
  ⟨some 31, some (29, false), .bin .lss (.t 30) (.c (.int .i64 1))⟩,
  ⟨some 32, none, .pick (.t 29) (.c (.bool true)) (.t 31)⟩,
  ⟨some 33, none, .mov (.t 32)⟩,
  ⟨some 34, some (33, false), .mov (.t 3)⟩,
  ⟨some 35, some (33, false), .bin .gtr (.t 34) (.c (.int .i64 4))⟩,
  ⟨some 36, none, .pick (.t 33) (.c (.bool true)) (.t 35)⟩,
  ⟨some 37, none, .mov (.t 36)⟩,
  ⟨some 38, some (37, false), .faddr 3 (.t 1)⟩,
  ⟨some 39, some (37, false), .load 1 false (.t 38)⟩,
  ⟨some 40, some (37, false), .len (.t 39)⟩,
  ⟨some 41, some (37, false), .mov (.t 3)⟩,
  ⟨some 42, some (37, false), .bin .neq (.t 40) (.t 41)⟩,
  ⟨some 43, none, .pick (.t 37) (.c (.bool true)) (.t 42)⟩]
abbrev c84_r4 : List Ins := [
  ⟨none, none, .store 1 (.t 2) (.c (.bool false))⟩]
abbrev c84_r5 : List Ins := [
  ⟨some 44, none, .load 5 true (.t 1)⟩,
  ⟨some 45, none, .call (.c (.fn 95 [] [])) [.t 44]⟩]
abbrev c84_r6 : List Ins := [
  ⟨some 4, none, .alloc [.sl .full [], .sl .full []]⟩,
  ⟨none, none, .store 2 (.t 4) (.t 46)⟩]
abbrev c84_r7 : List Ins := [
  ⟨some 5, none, .alloc [.sl .full [], .sl .full []]⟩,
  ⟨none, none, .store 2 (.t 5) (.t 47)⟩]
abbrev c84_r8 : List Ins := [
  ⟨some 48, none, .faddr 0 (.t 4)⟩,
  ⟨some 49, none, .load 1 false (.t 48)⟩,
  ⟨some 50, none, .faddr 1 (.t 1)⟩,
  ⟨some 51, none, .load 1 false (.t 50)⟩,
  ⟨some 52, none, .call (.c (.fn 119 [] [])) [.t 49, .t 51]⟩,
  ⟨some 53, none, .un .not (.t 52)⟩,
  ⟨some 54, none, .mov (.t 53)⟩,
  ⟨some 55, some (54, false), .faddr 1 (.t 4)⟩,
  ⟨some 56, some (54, false), .load 1 false (.t 55)⟩,
  ⟨some 57, some (54, false), .faddr 1 (.t 1)⟩,
  ⟨some 58, some (54, false), .load 1 false (.t 57)⟩,
  ⟨some 59, some (54, false), .call (.c (.fn 120 [] [])) [.t 56, .t 58]⟩,
  ⟨some 60, some (54, false), .un .not (.t 59)⟩,
  ⟨some 61, none, .pick (.t 54) (.c (.bool true)) (.t 60)⟩,
  ⟨some 62, none, .mov (.t 61)⟩,
  ⟨some 63, some (62, false), .load 2 true (.t 5)⟩,
  ⟨some 64, some (62, false), .faddr 1 (.t 1)⟩,
  ⟨some 65, some (62, false), .load 1 false (.t 64)⟩,
  ⟨some 66, some (62, false), .call (.c (.fn 121 [] [])) [.t 63, .t 65]⟩,
  ⟨some 67, some (62, false), .un .not (.t 66)⟩,
  ⟨some 68, none, .pick (.t 62) (.c (.bool true)) (.t 67)⟩]
abbrev c84_r9 : List Ins := [
  ⟨none, none, .store 1 (.t 2) (.c (.bool false))⟩]
abbrev c84_x10 : IR := .seq (.reg c84_r6) (.reg c84_r7)
abbrev c84_y11 : IR := .blk 1 (.seq (.reg c84_r8) (.cond (.t 68) (.seq (.reg c84_r9) (.ret)) (.skip)))
abbrev c84_r12 : List Ins := [
  ⟨none, none, .store 1 (.t 2) (.c (.bool true))⟩]
abbrev c84 : IR := .seq (.reg c84_r1) (.seq (.reg c84_r2) (.seq (.seq (.reg c84_r3) (.cond (.t 43) (.seq (.reg c84_r4) (.ret)) (.skip))) (.seq (.seq (.reg c84_r5) (.blk 0 (.rngf (.t 45) [46, 47] c84_x10 c84_y11))) (.seq (.reg c84_r12) (.ret)))))
abbrev F84 : FnA := ⟨69, c84, [.cell 2 1 false]⟩
theorem ok84 : cFn Try.prog 84 = some F84 := by kernel_rfl
theorem hb84 : HasBody Try.prog 84 := ⟨_, Try.func84, by kernel_rfl, by kernel_rfl⟩
/-! class.step -/
abbrev c85_r1 : List Ins := [
  ⟨some 2, none, .alloc [.sl .full [], .sl .full []]⟩]
abbrev c85_r2 : List Ins := [
  ⟨some 4, none, .mov (.t 0)⟩,
  ⟨some 5, none, .call (.c (.fn 122 [] [])) [.t 4]⟩,
  ⟨some 3, none, .mov (.t 5)⟩]
abbrev c85_r3 : List Ins := [
  ⟨some 6, none, .mov (.t 3)⟩,
  ⟨some 7, none, .mov (.t 0)⟩,
  ⟨some 8, none, .call (.c (.fn 123 [] [])) [.t 7]⟩,
  ⟨some 9, none, .build [.sl .full [], .sl .full []] [(0, (1, .t 6)), (1, (1, .t 8))]⟩,
  ⟨none, none, .store 2 (.t 2) (.t 9)⟩]
abbrev c85 : IR := .seq (.reg c85_r1) (.seq (.reg c85_r2) (.seq (.reg c85_r3) (.ret)))
abbrev F85 : FnA := ⟨10, c85, [.cell 2 2 true]⟩
theorem ok85 : cFn Try.prog 85 = some F85 := by kernel_rfl
theorem hb85 : HasBody Try.prog 85 := ⟨_, Try.func85, by kernel_rfl, by kernel_rfl⟩
/-! ref09.Reader.Item -/
abbrev c86_r1 : List Ins := [
  ⟨some 6, none, .alloc [.int .i64 0, .int .i64 0, .int .i64 0, .int .i64 0, .str ⟨#[]⟩, .sl .full []]⟩]
abbrev c86_r2 : List Ins := [
  ⟨some 10, none, .mov (.t 0)⟩,
  ⟨some 11, none, .nilck (.t 10)⟩,
  ⟨some 12, none, .faddr 1 (.t 11)⟩,
  ⟨some 13, none, .load 1 false (.t 12)⟩]
abbrev c86_r3 : List Ins := [
  ⟨some 14, none, .build [.int .i64 0, .int .i64 0, .int .i64 0, .int .i64 0, .str ⟨#[]⟩, .sl .full []] []⟩,
  ⟨none, none, .store 6 (.t 6) (.t 14)⟩]
abbrev c86_r4 : List Ins := [
  ⟨some 16, none, .mov (.t 0)⟩,
  ⟨some 17, none, .nilck (.t 16)⟩,
  ⟨some 18, none, .faddr 0 (.t 17)⟩,
  ⟨some 19, none, .load 1 false (.t 18)⟩,
  ⟨some 20, none, .mov (.t 1)⟩,
  ⟨some 21, none, .mov (.t 2)⟩,
  ⟨some 22, none, .call (.c (.fn 26 [] [])) [.t 19, .t 20, .t 21]⟩,
  ⟨some 15, none, .mov (.t 22)⟩,
  ⟨some 23, none, .ext (.t 15) 0⟩,
  ⟨some 24, none, .ext (.t 15) 1⟩,
  ⟨some 25, none, .ext (.t 15) 2⟩,
  ⟨some 7, none, .alloc [.int .i64 0, .int .i64 0, .int .i64 0, .int .i64 0, .str ⟨#[]⟩, .sl .full []]⟩,
  ⟨none, none, .store 6 (.t 7) (.t 23)⟩,
  ⟨some 8, none, .mov (.t 24)⟩,
  ⟨some 9, none, .mov (.t 25)⟩]
abbrev c86_r5 : List Ins := [
  ⟨some 26, none, .mov (.t 9)⟩,
  ⟨some 27, none, .un .not (.t 26)⟩]
abbrev c86_r6 : List Ins := [
  ⟨some 28, none, .mov (.t 0)⟩,
  ⟨some 29, none, .nilck (.t 28)⟩,
  ⟨some 30, none, .faddr 1 (.t 29)⟩,
  ⟨none, none, .store 1 (.t 30) (.c (.bool true))⟩]
abbrev c86_r7 : List Ins := [
  ⟨some 31, none, .build [.int .i64 0, .int .i64 0, .int .i64 0, .int .i64 0, .str ⟨#[]⟩, .sl .full []] []⟩,
  ⟨none, none, .store 6 (.t 6) (.t 31)⟩]
abbrev c86_r8 : List Ins := [
  ⟨some 32, none, .mov (.t 0)⟩,
  ⟨some 33, none, .mov (.t 8)⟩,
  ⟨some 34, none, .nilck (.t 32)⟩,
  ⟨some 35, none, .faddr 0 (.t 34)⟩,
  ⟨none, none, .store 1 (.t 35) (.t 33)⟩]
abbrev c86_r9 : List Ins := [
  ⟨some 36, none, .load 6 true (.t 7)⟩,
  ⟨none, none, .store 6 (.t 6) (.t 36)⟩]
abbrev c86 : IR := .seq (.reg c86_r1) (.seq (.seq (.reg c86_r2) (.cond (.t 13) (.seq (.reg c86_r3) (.ret)) (.skip))) (.seq (.reg c86_r4) (.seq (.seq (.reg c86_r5) (.cond (.t 27) (.seq (.reg c86_r6) (.seq (.reg c86_r7) (.ret))) (.skip))) (.seq (.reg c86_r8) (.seq (.reg c86_r9) (.ret))))))
abbrev F86 : FnA := ⟨37, c86, [.cell 6 6 true]⟩
theorem ok86 : cFn Try.prog 86 = some F86 := by kernel_rfl
theorem hb86 : HasBody Try.prog 86 := ⟨_, Try.func86, by kernel_rfl, by kernel_rfl⟩
/-! ref09.Get -/
abbrev c87_r1 : List Ins := [
  ⟨some 2, none, .mov (.c (.sl .full []))⟩]
abbrev c87_r2 : List Ins := [
  ⟨some 7, none, .mov (.t 0)⟩,
  ⟨some 8, none, .call (.c (.fn 86 [] [])) [.t 7, .c (.int .i64 0), .c (.int .i64 8)]⟩,
  ⟨some 9, none, .fld 1 1 false (.t 8)⟩,
  ⟨some 3, none, .mov (.t 9)⟩]
abbrev c87_r3 : List Ins := [
  ⟨some 4, none, .mov (.c (.sl .full []))⟩]
abbrev c87_r4 : List Ins := [
  ⟨some 5, none, .mov (.c (.int .i64 0))⟩]
abbrev c87_r5 : List Ins := [
  ⟨some 10, none, .mov (.t 5)⟩,
  ⟨some 11, none, .mov (.t 3)⟩,
  ⟨some 12, none, .bin .lss (.t 10) (.t 11)⟩]
abbrev c87_r6 : List Ins := [
  ⟨some 6, none, .alloc [.int .i64 0, .int .i64 0, .int .i64 0, .int .i64 0, .int .i64 0, .int .i64 0, .int .i64 0, .int .i64 0, .int .i64 0]⟩]
abbrev c87_r7 : List Ins := [
  ⟨some 15, none, .mov (.t 0)⟩,
  ⟨some 16, none, .call (.c (.fn 86 [] [])) [.t 15, .c (.int .i64 0), .c (.int .i64 255)]⟩,
  ⟨some 17, none, .fld 1 1 false (.t 16)⟩,
  ⟨some 18, none, .faddr 0 (.t 6)⟩,
  ⟨none, none, .store 1 (.t 18) (.t 17)⟩]
abbrev c87_r8 : List Ins := [
  ⟨some 19, none, .mov (.t 0)⟩,
  ⟨some 20, none, .call (.c (.fn 86 [] [])) [.t 19, .c (.int .i64 0), .c (.int .i64 255)]⟩,
  ⟨some 21, none, .fld 1 1 false (.t 20)⟩,
  ⟨some 22, none, .faddr 1 (.t 6)⟩,
  ⟨none, none, .store 1 (.t 22) (.t 21)⟩]
abbrev c87_r9 : List Ins := [
  ⟨some 23, none, .mov (.t 0)⟩,
  ⟨some 24, none, .call (.c (.fn 86 [] [])) [.t 23, .c (.int .i64 0), .c (.int .i64 255)]⟩,
  ⟨some 25, none, .fld 1 1 false (.t 24)⟩,
  ⟨some 26, none, .faddr 2 (.t 6)⟩,
  ⟨none, none, .store 1 (.t 26) (.t 25)⟩]
abbrev c87_r10 : List Ins := [
  ⟨some 27, none, .mov (.t 0)⟩,
  ⟨some 28, none, .call (.c (.fn 86 [] [])) [.t 27, .c (.int .i64 0), .c (.int .i64 255)]⟩,
  ⟨some 29, none, .fld 1 1 false (.t 28)⟩,
  ⟨some 30, none, .faddr 3 (.t 6)⟩,
  ⟨none, none, .store 1 (.t 30) (.t 29)⟩]
abbrev c87_r11 : List Ins := [
  ⟨some 31, none, .mov (.t 0)⟩,
  ⟨some 32, none, .call (.c (.fn 124 [] [])) [.t 31]⟩,
  ⟨some 33, none, .faddr 4 (.t 6)⟩,
  ⟨none, none, .store 2 (.t 33) (.t 32)⟩]
abbrev c87_r12 : List Ins := [
  ⟨some 34, none, .mov (.t 0)⟩,
  ⟨some 35, none, .call (.c (.fn 124 [] [])) [.t 34]⟩,
  ⟨some 36, none, .faddr 6 (.t 6)⟩,
  ⟨none, none, .store 2 (.t 36) (.t 35)⟩]
abbrev c87_r13 : List Ins := [
  ⟨some 37, none, .mov (.t 0)⟩,
  ⟨some 38, none, .call (.c (.fn 86 [] [])) [.t 37, .c (.int .i64 1), .c (.int .i64 0)]⟩,
  ⟨some 39, none, .fld 3 1 false (.t 38)⟩,
  ⟨some 40, none, .faddr 8 (.t 6)⟩,
  ⟨none, none, .store 1 (.t 40) (.t 39)⟩]
abbrev c87_r14 : List Ins := [
  ⟨some 41, none, .mov (.t 4)⟩,
  ⟨some 42, none, .load 9 true (.t 6)⟩,
  ⟨some 43, none, .bsl 9 1 [.int .i64 0, .int .i64 0, .int .i64 0, .int .i64 0, .int .i64 0, .int .i64 0, .int .i64 0, .int .i64 0, .int .i64 0] [(0, .t 42)]⟩,
  ⟨some 44, none, .append 9 72 (.t 41) (.t 43)⟩,
  ⟨some 4, none, .mov (.t 44)⟩]
abbrev c87_r15 : List Ins := [
  ⟨some 13, none, .mov (.t 5)⟩,
  ⟨some 14, none, .bin .add (.t 13) (.c (.int .i64 1))⟩,
  ⟨some 5, none, .mov (.t 14)⟩]
abbrev c87_l16 : IR := .seq (.seq (.reg c87_r5) (.cond (.t 12) (.skip) (.exit 0))) (.seq (.blk 1 (.seq (.reg c87_r6) (.seq (.reg c87_r7) (.seq (.reg c87_r8) (.seq (.reg c87_r9) (.seq (.reg c87_r10) (.seq (.reg c87_r11) (.seq (.reg c87_r12) (.seq (.reg c87_r13) (.reg c87_r14)))))))))) (.reg c87_r15))
abbrev c87_r17 : List Ins := [
  ⟨some 45, none, .mov (.t 0)⟩,
  ⟨some 46, none, .nilck (.t 45)⟩,
  ⟨some 47, none, .faddr 1 (.t 46)⟩,
  ⟨some 48, none, .load 1 false (.t 47)⟩]
abbrev c87_r18 : List Ins := [
  ⟨some 2, none, .mov (.c (.sl .full []))⟩]
abbrev c87_r19 : List Ins := [
  ⟨some 49, none, .mov (.t 4)⟩,
  ⟨some 2, none, .mov (.t 49)⟩]
abbrev c87 : IR := .seq (.reg c87_r1) (.seq (.reg c87_r2) (.seq (.reg c87_r3) (.seq (.seq (.reg c87_r4) (.blk 0 (.loop c87_l16))) (.seq (.seq (.reg c87_r17) (.cond (.t 48) (.seq (.reg c87_r18) (.ret)) (.skip))) (.seq (.reg c87_r19) (.ret))))))
abbrev F87 : FnA := ⟨50, c87, [.t 2]⟩
theorem ok87 : cFn Try.prog 87 = some F87 := by kernel_rfl
theorem hb87 : HasBody Try.prog 87 := ⟨_, Try.func87, by kernel_rfl, by kernel_rfl⟩
/-! ref10.Get -/
abbrev c88_r1 : List Ins := [
  ⟨some 2, none, .mov (.c (.sl .full []))⟩]
abbrev c88_r2 : List Ins := [
  ⟨some 11, none, .mov (.t 0)⟩,
  ⟨some 12, none, .call (.c (.fn 86 [] [])) [.t 11, .c (.int .i64 0), .c (.int .i64 4)]⟩,
  ⟨some 13, none, .fld 1 1 false (.t 12)⟩,
  ⟨some 3, none, .mov (.t 13)⟩]
abbrev c88_r3 : List Ins := [
  ⟨some 4, none, .mov (.c (.sl .full []))⟩]
abbrev c88_r4 : List Ins := [
  ⟨some 5, none, .mov (.c (.int .i64 0))⟩]
abbrev c88_r5 : List Ins := [
  ⟨some 14, none, .mov (.t 5)⟩,
  ⟨some 15, none, .mov (.t 3)⟩,
  ⟨some 16, none, .bin .lss (.t 14) (.t 15)⟩]
abbrev c88_r6 : List Ins := [
  ⟨some 19, none, .mov (.t 0)⟩,
  ⟨some 20, none, .call (.c (.fn 86 [] [])) [.t 19, .c (.int .i64 1), .c (.int .i64 0)]⟩,
  ⟨some 21, none, .fld 3 1 false (.t 20)⟩,
  ⟨some 6, none, .mov (.t 21)⟩]
abbrev c88_r7 : List Ins := [
  ⟨some 22, none, .mov (.t 0)⟩,
  ⟨some 23, none, .call (.c (.fn 86 [] [])) [.t 22, .c (.int .i64 0), .c (.int .i64 999)]⟩,
  ⟨some 24, none, .fld 1 1 false (.t 23)⟩,
  ⟨some 7, none, .mov (.t 24)⟩]
abbrev c88_r8 : List Ins := [
  ⟨some 25, none, .mov (.t 0)⟩,
  ⟨some 26, none, .call (.c (.fn 86 [] [])) [.t 25, .c (.int .i64 1), .c (.int .i64 0)]⟩,
  ⟨some 27, none, .fld 3 1 false (.t 26)⟩,
  ⟨some 8, none, .mov (.t 27)⟩]
abbrev c88_r9 : List Ins := [
  ⟨some 28, none, .mov (.t 0)⟩,
  ⟨some 29, none, .call (.c (.fn 86 [] [])) [.t 28, .c (.int .i64 0), .c (.int .i64 999)]⟩,
  ⟨some 30, none, .fld 1 1 false (.t 29)⟩,
  ⟨some 9, none, .mov (.t 30)⟩]
abbrev c88_r10 : List Ins := [
  ⟨some 31, none, .mov (.t 6)⟩,
  ⟨some 32, none, .bin .lss (.t 31) (.c (.int .i64 (-1)))⟩,
  ⟨some 33, none, .mov (.t 32)⟩,
  ⟨some 34, some (33, false), .mov (.t 6)⟩,
  ⟨some 35, some (33, false), .bin .gtr (.t 34) (.c (.int .i64 255))⟩,
  ⟨some 36, none, .pick (.t 33) (.c (.bool true)) (.t 35)⟩,
  ⟨some 37, none, .mov (.t 36)⟩,
  ⟨some 38, some (37, false), .mov (.t 8)⟩,
  ⟨some 39, some (37, false), .bin .lss (.t 38) (.c (.int .i64 (-1)))⟩,
  ⟨some 40, none, .pick (.t 37) (.c (.bool true)) (.t 39)⟩,
  ⟨some 41, none, .mov (.t 40)⟩,
  ⟨some 42, some (41, false), .mov (.t 8)⟩,
  ⟨some 43, some (41, false), .bin .gtr (.t 42) (.c (.int .i64 255))⟩,
  ⟨some 44, none, .pick (.t 41) (.c (.bool true)) (.t 43)⟩]
abbrev c88_r11 : List Ins := [
  ⟨some 45, none, .mov (.t 0)⟩,
  ⟨some 46, none, .nilck (.t 45)⟩,
  ⟨some 47, none, .faddr 1 (.t 46)⟩,
  ⟨none, none, .store 1 (.t 47) (.c (.bool true))⟩]
abbrev c88_r12 : List Ins := [
  ⟨some 48, none, .mov (.t 0)⟩,
  ⟨some 49, none, .call (.c (.fn 86 [] [])) [.t 48, .c (.int .i64 2), .c (.int .i64 0)]⟩,
  ⟨some 50, none, .fld 1 1 false (.t 49)⟩,
  ⟨some 51, none, .bin .eql (.t 50) (.c (.int .i64 1))⟩,
  ⟨some 10, none, .mov (.t 51)⟩]
abbrev c88_r13 : List Ins := [
  ⟨some 52, none, .mov (.t 4)⟩,
  ⟨some 53, none, .mov (.t 6)⟩,
  ⟨some 54, none, .mov (.t 7)⟩,
  ⟨some 55, none, .build [.int .i64 0, .int .i64 0] [(0, (1, .t 53)), (1, (1, .t 54))]⟩,
  ⟨some 56, none, .mov (.t 8)⟩,
  ⟨some 57, none, .mov (.t 9)⟩,
  ⟨some 58, none, .build [.int .i64 0, .int .i64 0] [(0, (1, .t 56)), (1, (1, .t 57))]⟩,
  ⟨some 59, none, .mov (.t 10)⟩,
  ⟨some 60, none, .build [.int .i64 0, .int .i64 0, .int .i64 0, .int .i64 0, .bool false] [(0, (2, .t 55)), (2, (2, .t 58)), (4, (1, .t 59))]⟩,
  ⟨some 61, none, .bsl 5 1 [.int .i64 0, .int .i64 0, .int .i64 0, .int .i64 0, .bool false] [(0, .t 60)]⟩,
  ⟨some 62, none, .append 5 40 (.t 52) (.t 61)⟩,
  ⟨some 4, none, .mov (.t 62)⟩]
abbrev c88_r14 : List Ins := [
  ⟨some 17, none, .mov (.t 5)⟩,
  ⟨some 18, none, .bin .add (.t 17) (.c (.int .i64 1))⟩,
  ⟨some 5, none, .mov (.t 18)⟩]
abbrev c88_l15 : IR := .seq (.seq (.reg c88_r5) (.cond (.t 16) (.skip) (.exit 0))) (.seq (.blk 1 (.seq (.reg c88_r6) (.seq (.reg c88_r7) (.seq (.reg c88_r8) (.seq (.reg c88_r9) (.seq (.seq (.reg c88_r10) (.cond (.t 44) (.reg c88_r11) (.skip))) (.seq (.reg c88_r12) (.reg c88_r13)))))))) (.reg c88_r14))
abbrev c88_r16 : List Ins := [
  ⟨some 63, none, .mov (.t 0)⟩,
  ⟨some 64, none, .nilck (.t 63)⟩,
  ⟨some 65, none, .faddr 1 (.t 64)⟩,
  ⟨some 66, none, .load 1 false (.t 65)⟩]
abbrev c88_r17 : List Ins := [
  ⟨some 2, none, .mov (.c (.sl .full []))⟩]
abbrev c88_r18 : List Ins := [
  ⟨some 67, none, .mov (.t 4)⟩,
  ⟨some 2, none, .mov (.t 67)⟩]
abbrev c88 : IR := .seq (.reg c88_r1) (.seq (.reg c88_r2) (.seq (.reg c88_r3) (.seq (.seq (.reg c88_r4) (.blk 0 (.loop c88_l15))) (.seq (.seq (.reg c88_r16) (.cond (.t 66) (.seq (.reg c88_r17) (.ret)) (.skip))) (.seq (.reg c88_r18) (.ret))))))
abbrev F88 : FnA := ⟨68, c88, [.t 2]⟩
theorem ok88 : cFn Try.prog 88 = some F88 := by kernel_rfl
theorem hb88 : HasBody Try.prog 88 := ⟨_, Try.func88, by kernel_rfl, by kernel_rfl⟩
/-! ref11.steps -/
abbrev c89_r1 : List Ins := [
  ⟨some 4, none, .mov (.c (.bool false))⟩]
abbrev c89_r2 : List Ins := [
  ⟨some 6, none, .mov (.t 0)⟩,
  ⟨some 7, none, .len (.t 6)⟩,
  ⟨some 8, none, .mov (.t 1)⟩,
  ⟨some 9, none, .len (.t 8)⟩,
  ⟨some 10, none, .bin .neq (.t 7) (.t 9)⟩]
abbrev c89_r3 : List Ins := [
  ⟨some 4, none, .mov (.c (.bool false))⟩]
abbrev c89_r4 : List Ins := [
  ⟨some 5, none, .mov (.c (.int .i64 0))⟩]
abbrev c89_r5 : List Ins := [
  ⟨some 11, none, .mov (.t 5)⟩,
  ⟨some 12, none, .mov (.t 0)⟩,
  ⟨some 13, none, .len (.t 12)⟩,
  ⟨some 14, none, .bin .lss (.t 11) (.t 13)⟩]
abbrev c89_r6 : List Ins := [
  ⟨some 17, none, .mov (.t 0)⟩,
  ⟨some 18, none, .mov (.t 5)⟩,
  ⟨some 19, none, .iaddr 2 (.t 17) (.t 18)⟩,
  ⟨some 20, none, .faddr 0 (.t 19)⟩,
  ⟨some 21, none, .load 1 false (.t 20)⟩,
  ⟨some 22, none, .mov (.t 1)⟩,
  ⟨some 23, none, .mov (.t 5)⟩,
  ⟨some 24, none, .iaddr 2 (.t 22) (.t 23)⟩,
  ⟨some 25, none, .faddr 0 (.t 24)⟩,
  ⟨some 26, none, .load 1 false (.t 25)⟩,
  ⟨some 27, none, .call (.c (.fn 125 [] [])) [.t 21, .t 26]⟩,
  ⟨some 28, none, .un .not (.t 27)⟩,
  ⟨some 29, none, .mov (.t 28)⟩,
  ⟨some 30, some (29, false), .mov (.t 0)⟩,
  ⟨some 31, some (29, false), .mov (.t 5)⟩,
  ⟨some 32, some (29, false), .iaddr 2 (.t 30) (.t 31)⟩,
  ⟨some 33, some (29, false), .faddr 1 (.t 32)⟩,
  ⟨some 34, some (29, false), .load 1 false (.t 33)⟩,
  ⟨some 35, some (29, false), .mov (.t 1)⟩,
  ⟨some 36, some (29, false), .mov (.t 5)⟩,
  ⟨some 37, some (29, false), .iaddr 2 (.t 35) (.t 36)⟩,
  ⟨some 38, some (29, false), .faddr 1 (.t 37)⟩,
  ⟨some 39, some (29, false), .load 1 false (.t 38)⟩,
  ⟨some 40, some (29, false), .call (.c (.fn 126 [] [])) [.t 34, .t 39]⟩,
  ⟨some 41, some (29, false), .un .not (.t 40)⟩,
  ⟨some 42, none, .pick (.t 29) (.c (.bool true)) (.t 41)⟩]
def c89_a6 : List (List Nat) := [[], [], [0, 1], [2], [3], [], [], [5, 6], [7], [8], [4, 9], [10], [11, 10], [12], [12], [13, 14, 12], [15, 12], [16, 12], [12], [12], [18, 19, 12], [20, 12], [21, 12], [17, 22, 12, 12], [23, 12], [12, 24]]
abbrev c89_m6 : List Am.Mark := [⟨false, 0, 0⟩, ⟨false, 0, 0⟩, ⟨false, 0, 0⟩, ⟨false, 0, 0⟩, ⟨false, 0, 0⟩, ⟨false, 0, 0⟩, ⟨false, 0, 0⟩, ⟨false, 0, 0⟩, ⟨false, 0, 0⟩, ⟨false, 0, 0⟩, ⟨false, 0, 0⟩, ⟨false, 0, 0⟩, ⟨false, 0, 0⟩, ⟨false, 0, 0⟩, ⟨false, 0, 0⟩, ⟨false, 0, 0⟩, ⟨false, 0, 0⟩, ⟨false, 0, 0⟩, ⟨false, 0, 0⟩, ⟨false, 0, 0⟩, ⟨false, 0, 0⟩, ⟨false, 0, 0⟩, ⟨false, 0, 0⟩, ⟨false, 0, 0⟩, ⟨false, 0, 0⟩, ⟨false, 0, 0⟩]
theorem c89_d6 : drawFine c89_r6 c89_a6 c89_m6 = true := by decide +kernel
abbrev c89_r7 : List Ins := [
  ⟨some 4, none, .mov (.c (.bool false))⟩]
abbrev c89_r8 : List Ins := [
  ⟨some 15, none, .mov (.t 5)⟩,
  ⟨some 16, none, .bin .add (.t 15) (.c (.int .i64 1))⟩,
  ⟨some 5, none, .mov (.t 16)⟩]
abbrev c89_l9 : IR := .seq (.seq (.reg c89_r5) (.cond (.t 14) (.skip) (.exit 0))) (.seq (.blk 1 (.seq (.dreg c89_r6 c89_a6) (.cond (.t 42) (.seq (.reg c89_r7) (.ret)) (.skip)))) (.reg c89_r8))
abbrev c89_r10 : List Ins := [
  ⟨some 4, none, .mov (.c (.bool true))⟩]
abbrev c89 : IR := .seq (.reg c89_r1) (.seq (.seq (.reg c89_r2) (.cond (.t 10) (.seq (.reg c89_r3) (.ret)) (.skip))) (.seq (.seq (.reg c89_r4) (.blk 0 (.loop c89_l9))) (.seq (.reg c89_r10) (.ret))))
abbrev F89 : FnA := ⟨43, c89, [.t 4]⟩
theorem ok89 : cFn Try.prog 89 = some F89 := by kernel_rfl
theorem hb89 : HasBody Try.prog 89 := ⟨_, Try.func89, by kernel_rfl, by kernel_rfl⟩
/-! ref09.May -/
abbrev c93_r1 : List Ins := [
  ⟨some 4, none, .mov (.c (.bool false))⟩]
abbrev c93_r2 : List Ins := [
  ⟨some 6, none, .mov (.t 1)⟩,
  ⟨some 7, none, .bin .lss (.t 6) (.c (.int .i64 0))⟩,
  ⟨some 8, none, .mov (.t 7)⟩,
  ⟨some 9, some (8, false), .mov (.t 1)⟩,
  ⟨some 10, some (8, false), .bin .gtr (.t 9) (.c (.int .i64 3))⟩,
  ⟨some 11, none, .pick (.t 8) (.c (.bool true)) (.t 10)⟩,
  ⟨some 12, none, .mov (.t 11)⟩,
  ⟨some 13, some (12, false), .mov (.t 0)⟩,
  ⟨some 14, some (12, false), .len (.t 13)⟩,
  ⟨some 15, some (12, false), .bin .lss (.t 14) (.c (.int .i64 1))⟩,
  ⟨some 16, none, .pick (.t 12) (.c (.bool true)) (.t 15)⟩,
  ⟨some 17, none, .mov (.t 16)⟩,
  ⟨some 18, some (17, false), .mov (.t 0)⟩,
  ⟨some 19, some (17, false), .len (.t 18)⟩,
  ⟨some 20, some (17, false), .bin .gtr (.t 19) (.c (.int .i64 8))⟩,
  ⟨some 21, none, .pick (.t 17) (.c (.bool true)) (.t 20)⟩]
abbrev c93_r3 : List Ins := [
  ⟨some 4, none, .mov (.c (.bool false))⟩]
abbrev c93_r4 : List Ins := [
  ⟨some 5, none, .mov (.c (.int .i64 0))⟩]
abbrev c93_r5 : List Ins := [
  ⟨some 22, none, .mov (.t 5)⟩,
  ⟨some 23, none, .mov (.t 0)⟩,
  ⟨some 24, none, .len (.t 23)⟩,
  ⟨some 25, none, .bin .lss (.t 22) (.t 24)⟩]
abbrev c93_r6 : List Ins := [
  ⟨some 28, none, .mov (.t 0)⟩,
  ⟨some 29, none, .mov (.t 5)⟩,
  ⟨some 30, none, .iaddr 9 (.t 28) (.t 29)⟩,
  ⟨some 31, none, .load 9 true (.t 30)⟩,
  ⟨some 32, none, .mov (.t 1)⟩,
  ⟨some 33, none, .call (.c (.fn 129 [] [])) [.t 31, .t 32]⟩,
  ⟨some 34, none, .un .not (.t 33)⟩]
abbrev c93_r7 : List Ins := [
  ⟨some 4, none, .mov (.c (.bool false))⟩]
abbrev c93_r8 : List Ins := [
  ⟨some 26, none, .mov (.t 5)⟩,
  ⟨some 27, none, .bin .add (.t 26) (.c (.int .i64 1))⟩,
  ⟨some 5, none, .mov (.t 27)⟩]
abbrev c93_l9 : IR := .seq (.seq (.reg c93_r5) (.cond (.t 25) (.skip) (.exit 0))) (.seq (.blk 1 (.seq (.reg c93_r6) (.cond (.t 34) (.seq (.reg c93_r7) (.ret)) (.skip)))) (.reg c93_r8))
abbrev c93_r10 : List Ins := [
  ⟨some 4, none, .mov (.c (.bool true))⟩]
abbrev c93 : IR := .seq (.reg c93_r1) (.seq (.seq (.reg c93_r2) (.cond (.t 21) (.seq (.reg c93_r3) (.ret)) (.skip))) (.seq (.seq (.reg c93_r4) (.blk 0 (.loop c93_l9))) (.seq (.reg c93_r10) (.ret))))
abbrev F93 : FnA := ⟨35, c93, [.t 4]⟩
theorem ok93 : cFn Try.prog 93 = some F93 := by kernel_rfl
theorem hb93 : HasBody Try.prog 93 := ⟨_, Try.func93, by kernel_rfl, by kernel_rfl⟩
/-! ref10.May -/
abbrev c94_r1 : List Ins := [
  ⟨some 4, none, .mov (.c (.bool false))⟩]
abbrev c94_r2 : List Ins := [
  ⟨some 6, none, .mov (.t 1)⟩,
  ⟨some 7, none, .bin .lss (.t 6) (.c (.int .i64 0))⟩,
  ⟨some 8, none, .mov (.t 7)⟩,
  ⟨some 9, some (8, false), .mov (.t 1)⟩,
  ⟨some 10, some (8, false), .bin .gtr (.t 9) (.c (.int .i64 3))⟩,
  ⟨some 11, none, .pick (.t 8) (.c (.bool true)) (.t 10)⟩,
  ⟨some 12, none, .mov (.t 11)⟩,
  ⟨some 13, some (12, false), .mov (.t 0)⟩,
  ⟨some 14, some (12, false), .len (.t 13)⟩,
  ⟨some 15, some (12, false), .bin .gtr (.t 14) (.c (.int .i64 4))⟩,
  ⟨some 16, none, .pick (.t 12) (.c (.bool true)) (.t 15)⟩]
abbrev c94_r3 : List Ins := [
  ⟨some 4, none, .mov (.c (.bool false))⟩]
abbrev c94_r4 : List Ins := [
  ⟨some 5, none, .mov (.c (.int .i64 0))⟩]
abbrev c94_r5 : List Ins := [
  ⟨some 17, none, .mov (.t 5)⟩,
  ⟨some 18, none, .mov (.t 0)⟩,
  ⟨some 19, none, .len (.t 18)⟩,
  ⟨some 20, none, .bin .lss (.t 17) (.t 19)⟩]
abbrev c94_r6 : List Ins := [
  ⟨some 23, none, .mov (.t 0)⟩,
  ⟨some 24, none, .mov (.t 5)⟩,
  ⟨some 25, none, .iaddr 5 (.t 23) (.t 24)⟩,
  ⟨some 26, none, .faddr 0 (.t 25)⟩,
  ⟨some 27, none, .load 2 true (.t 26)⟩,
  ⟨some 28, none, .mov (.t 1)⟩,
  ⟨some 29, none, .call (.c (.fn 130 [] [])) [.t 27, .t 28]⟩,
  ⟨some 30, none, .un .not (.t 29)⟩,
  ⟨some 31, none, .mov (.t 30)⟩,
  ⟨some 32, some (31, false), .mov (.t 0)⟩,
  ⟨some 33, some (31, false), .mov (.t 5)⟩,
  ⟨some 34, some (31, false), .iaddr 5 (.t 32) (.t 33)⟩,
  ⟨some 35, some (31, false), .faddr 2 (.t 34)⟩,
  ⟨some 36, some (31, false), .load 2 true (.t 35)⟩,
  ⟨some 37, some (31, false), .mov (.t 1)⟩,
  ⟨some 38, some (31, false), .call (.c (.fn 130 [] [])) [.t 36, .t 37]⟩,
  ⟨some 39, some (31, false), .un .not (.t 38)⟩,
  ⟨some 40, none, .pick (.t 31) (.c (.bool true)) (.t 39)⟩]
abbrev c94_r7 : List Ins := [
  ⟨some 4, none, .mov (.c (.bool false))⟩]
abbrev c94_r8 : List Ins := [
  ⟨some 21, none, .mov (.t 5)⟩,
  ⟨some 22, none, .bin .add (.t 21) (.c (.int .i64 1))⟩,
  ⟨some 5, none, .mov (.t 22)⟩]
abbrev c94_l9 : IR := .seq (.seq (.reg c94_r5) (.cond (.t 20) (.skip) (.exit 0))) (.seq (.blk 1 (.seq (.reg c94_r6) (.cond (.t 40) (.seq (.reg c94_r7) (.ret)) (.skip)))) (.reg c94_r8))
abbrev c94_r10 : List Ins := [
  ⟨some 4, none, .mov (.c (.bool true))⟩]
abbrev c94 : IR := .seq (.reg c94_r1) (.seq (.seq (.reg c94_r2) (.cond (.t 16) (.seq (.reg c94_r3) (.ret)) (.skip))) (.seq (.seq (.reg c94_r4) (.blk 0 (.loop c94_l9))) (.seq (.reg c94_r10) (.ret))))
abbrev F94 : FnA := ⟨41, c94, [.t 4]⟩
theorem ok94 : cFn Try.prog 94 = some F94 := by kernel_rfl
theorem hb94 : HasBody Try.prog 94 := ⟨_, Try.func94, by kernel_rfl, by kernel_rfl⟩
/-! class.each -/
abbrev c95_r1 : List Ins := [
  ⟨some 1, none, .box (.t 0)⟩,
  ⟨some 2, none, .mov (.c .nilfn)⟩]
abbrev c95_r2 : List Ins := [
  ⟨some 3, none, .mkfn 131 [] [.t 1]⟩,
  ⟨some 2, none, .mov (.t 3)⟩]
abbrev c95 : IR := .seq (.reg c95_r1) (.seq (.reg c95_r2) (.ret))
abbrev F95 : FnA := ⟨4, c95, [.t 2]⟩
theorem ok95 : cFn Try.prog 95 = some F95 := by kernel_rfl
theorem hb95 : HasBody Try.prog 95 := ⟨_, Try.func95, by kernel_rfl, by kernel_rfl⟩
/-! class.put -/
abbrev c96_r1 : List Ins := [
  ⟨some 6, none, .mov (.t 1)⟩,
  ⟨some 7, none, .len (.t 6)⟩,
  ⟨some 8, none, .mov (.c (.int .i64 0))⟩]
abbrev c96_r2 : List Ins := [
  ⟨some 9, none, .bin .lss (.t 8) (.t 7)⟩]
abbrev c96_r3 : List Ins := [
  ⟨some 10, none, .iaddr 2 (.t 6) (.t 8)⟩,
  ⟨some 11, none, .load 2 true (.t 10)⟩,
  ⟨some 5, none, .alloc [.sl .full [], .sl .full []]⟩,
  ⟨none, none, .store 2 (.t 5) (.t 11)⟩]
abbrev c96_r4 : List Ins := [
  ⟨some 12, none, .mov (.t 0)⟩,
  ⟨some 13, none, .faddr 0 (.t 5)⟩,
  ⟨some 14, none, .load 1 false (.t 13)⟩,
  ⟨some 15, none, .call (.c (.fn 132 [] [])) [.t 12, .t 14]⟩]
abbrev c96_r5 : List Ins := [
  ⟨some 16, none, .mov (.t 0)⟩,
  ⟨some 17, none, .faddr 1 (.t 5)⟩,
  ⟨some 18, none, .load 1 false (.t 17)⟩,
  ⟨some 19, none, .call (.c (.fn 133 [] [])) [.t 16, .t 18]⟩]
abbrev c96_r6 : List Ins := [
  ⟨some 20, none, .bin .add (.t 8) (.c (.int .i64 1))⟩,
  ⟨some 8, none, .mov (.t 20)⟩]
abbrev c96_l7 : IR := .seq (.reg c96_r2) (.seq (.cond (.t 9) (.skip) (.exit 0)) (.seq (.blk 1 (.seq (.reg c96_r3) (.seq (.reg c96_r4) (.reg c96_r5)))) (.reg c96_r6)))
abbrev c96 : IR := .seq (.reg c96_r1) (.blk 0 (.loop c96_l7))
abbrev F96 : FnA := ⟨21, c96, []⟩
theorem ok96 : cFn Try.prog 96 = some F96 := by kernel_rfl
theorem hb96 : HasBody Try.prog 96 := ⟨_, Try.func96, by kernel_rfl, by kernel_rfl⟩
/-! ref09.Items -/
abbrev c97_r1 : List Ins := [
  ⟨some 2, none, .mov (.c (.sl .full []))⟩]
abbrev c97_r2 : List Ins := [
  ⟨some 6, none, .mov (.t 0)⟩,
  ⟨some 7, none, .len (.t 6)⟩,
  ⟨some 8, none, .build [.int .i64 0, .int .i64 0, .int .i64 0, .int .i64 0, .str ⟨#[]⟩, .sl .full []] [(1, (1, .t 7)), (2, (1, .c (.int .i64 8)))]⟩,
  ⟨some 9, none, .bsl 6 1 [.int .i64 0, .int .i64 0, .int .i64 0, .int .i64 0, .str ⟨#[]⟩, .sl .full []] [(0, .t 8)]⟩,
  ⟨some 3, none, .mov (.t 9)⟩]
abbrev c97_r3 : List Ins := [
  ⟨some 4, none, .mov (.c (.int .i64 0))⟩]
abbrev c97_r4 : List Ins := [
  ⟨some 10, none, .mov (.t 4)⟩,
  ⟨some 11, none, .mov (.t 0)⟩,
  ⟨some 12, none, .len (.t 11)⟩,
  ⟨some 13, none, .bin .lss (.t 10) (.t 12)⟩]
abbrev c97_r5 : List Ins := [
  ⟨some 16, none, .mov (.t 0)⟩,
  ⟨some 17, none, .mov (.t 4)⟩,
  ⟨some 18, none, .iaddr 9 (.t 16) (.t 17)⟩,
  ⟨some 19, none, .load 9 true (.t 18)⟩,
  ⟨some 5, none, .alloc [.int .i64 0, .int .i64 0, .int .i64 0, .int .i64 0, .int .i64 0, .int .i64 0, .int .i64 0, .int .i64 0, .int .i64 0]⟩,
  ⟨none, none, .store 9 (.t 5) (.t 19)⟩]
abbrev c97_r6 : List Ins := [
  ⟨some 20, none, .mov (.t 3)⟩,
  ⟨some 21, none, .faddr 0 (.t 5)⟩,
  ⟨some 22, none, .load 1 false (.t 21)⟩,
  ⟨some 23, none, .build [.int .i64 0, .int .i64 0, .int .i64 0, .int .i64 0, .str ⟨#[]⟩, .sl .full []] [(1, (1, .t 22)), (2, (1, .c (.int .i64 255)))]⟩,
  ⟨some 24, none, .faddr 1 (.t 5)⟩,
  ⟨some 25, none, .load 1 false (.t 24)⟩,
  ⟨some 26, none, .build [.int .i64 0, .int .i64 0, .int .i64 0, .int .i64 0, .str ⟨#[]⟩, .sl .full []] [(1, (1, .t 25)), (2, (1, .c (.int .i64 255)))]⟩,
  ⟨some 27, none, .faddr 2 (.t 5)⟩,
  ⟨some 28, none, .load 1 false (.t 27)⟩,
  ⟨some 29, none, .build [.int .i64 0, .int .i64 0, .int .i64 0, .int .i64 0, .str ⟨#[]⟩, .sl .full []] [(1, (1, .t 28)), (2, (1, .c (.int .i64 255)))]⟩,
  ⟨some 30, none, .faddr 3 (.t 5)⟩,
  ⟨some 31, none, .load 1 false (.t 30)⟩,
  ⟨some 32, none, .build [.int .i64 0, .int .i64 0, .int .i64 0, .int .i64 0, .str ⟨#[]⟩, .sl .full []] [(1, (1, .t 31)), (2, (1, .c (.int .i64 255)))]⟩,
  ⟨some 33, none, .bsl 6 4 [.int .i64 0, .int .i64 0, .int .i64 0, .int .i64 0, .str ⟨#[]⟩, .sl .full []] [(0, .t 23), (1, .t 26), (2, .t 29), (3, .t 32)]⟩,
  ⟨some 34, none, .append 6 72 (.t 20) (.t 33)⟩,
  ⟨some 3, none, .mov (.t 34)⟩]
abbrev c97_r7 : List Ins := [
  ⟨some 35, none, .mov (.t 3)⟩,
  ⟨some 36, none, .faddr 4 (.t 5)⟩,
  ⟨some 37, none, .load 2 true (.t 36)⟩,
  ⟨some 38, none, .call (.c (.fn 134 [] [])) [.t 37]⟩,
  ⟨some 39, none, .append 6 72 (.t 35) (.t 38)⟩,
  ⟨some 40, none, .faddr 6 (.t 5)⟩,
  ⟨some 41, none, .load 2 true (.t 40)⟩,
  ⟨some 42, none, .call (.c (.fn 134 [] [])) [.t 41]⟩,
  ⟨some 43, none, .append 6 72 (.t 39) (.t 42)⟩,
  ⟨some 3, none, .mov (.t 43)⟩]
def c97_a7 : List (List Nat) := [[], [], [1], [2], [0, 3, 3], [], [5], [6, 4], [4, 7, 7], [8, 8, 0, 1, 2, 3, 4, 5, 6, 7, 8]]
abbrev c97_m7 : List Am.Mark := [⟨false, 0, 0⟩, ⟨false, 0, 2⟩, ⟨false, 0, 2⟩, ⟨false, 0, 0⟩, ⟨true, 0, 1⟩, ⟨false, 0, 2⟩, ⟨false, 0, 2⟩, ⟨false, 1, 1⟩, ⟨true, 1, 2⟩, ⟨false, 2, 2⟩]
theorem c97_d7 : drawFine c97_r7 c97_a7 c97_m7 = true := by decide +kernel
abbrev c97_r8 : List Ins := [
  ⟨some 44, none, .mov (.t 3)⟩,
  ⟨some 45, none, .faddr 8 (.t 5)⟩,
  ⟨some 46, none, .load 1 false (.t 45)⟩,
  ⟨some 47, none, .build [.int .i64 0, .int .i64 0, .int .i64 0, .int .i64 0, .str ⟨#[]⟩, .sl .full []] [(0, (1, .c (.int .i64 1))), (3, (1, .t 46))]⟩,
  ⟨some 48, none, .bsl 6 1 [.int .i64 0, .int .i64 0, .int .i64 0, .int .i64 0, .str ⟨#[]⟩, .sl .full []] [(0, .t 47)]⟩,
  ⟨some 49, none, .append 6 72 (.t 44) (.t 48)⟩,
  ⟨some 3, none, .mov (.t 49)⟩]
abbrev c97_r9 : List Ins := [
  ⟨some 14, none, .mov (.t 4)⟩,
  ⟨some 15, none, .bin .add (.t 14) (.c (.int .i64 1))⟩,
  ⟨some 4, none, .mov (.t 15)⟩]
abbrev c97_l10 : IR := .seq (.seq (.reg c97_r4) (.cond (.t 13) (.skip) (.exit 0))) (.seq (.blk 1 (.seq (.reg c97_r5) (.seq (.reg c97_r6) (.seq (.dreg c97_r7 c97_a7) (.reg c97_r8))))) (.reg c97_r9))
abbrev c97_r11 : List Ins := [
  ⟨some 50, none, .mov (.t 3)⟩,
  ⟨some 2, none, .mov (.t 50)⟩]
abbrev c97 : IR := .seq (.reg c97_r1) (.seq (.reg c97_r2) (.seq (.seq (.reg c97_r3) (.blk 0 (.loop c97_l10))) (.seq (.reg c97_r11) (.ret))))
abbrev F97 : FnA := ⟨51, c97, [.t 2]⟩
theorem ok97 : cFn Try.prog 97 = some F97 := by kernel_rfl
theorem hb97 : HasBody Try.prog 97 := ⟨_, Try.func97, by kernel_rfl, by kernel_rfl⟩
/-! ref10.Items -/
abbrev c98_r1 : List Ins := [
  ⟨some 2, none, .mov (.c (.sl .full []))⟩]
abbrev c98_r2 : List Ins := [
  ⟨some 6, none, .mov (.t 0)⟩,
  ⟨some 7, none, .len (.t 6)⟩,
  ⟨some 8, none, .build [.int .i64 0, .int .i64 0, .int .i64 0, .int .i64 0, .str ⟨#[]⟩, .sl .full []] [(1, (1, .t 7)), (2, (1, .c (.int .i64 4)))]⟩,
  ⟨some 9, none, .bsl 6 1 [.int .i64 0, .int .i64 0, .int .i64 0, .int .i64 0, .str ⟨#[]⟩, .sl .full []] [(0, .t 8)]⟩,
  ⟨some 3, none, .mov (.t 9)⟩]
abbrev c98_r3 : List Ins := [
  ⟨some 4, none, .mov (.c (.int .i64 0))⟩]
abbrev c98_r4 : List Ins := [
  ⟨some 10, none, .mov (.t 4)⟩,
  ⟨some 11, none, .mov (.t 0)⟩,
  ⟨some 12, none, .len (.t 11)⟩,
  ⟨some 13, none, .bin .lss (.t 10) (.t 12)⟩]
abbrev c98_r5 : List Ins := [
  ⟨some 5, none, .mov (.c (.int .i64 0))⟩]
abbrev c98_r6 : List Ins := [
  ⟨some 16, none, .mov (.t 0)⟩,
  ⟨some 17, none, .mov (.t 4)⟩,
  ⟨some 18, none, .iaddr 5 (.t 16) (.t 17)⟩,
  ⟨some 19, none, .faddr 4 (.t 18)⟩,
  ⟨some 20, none, .load 1 false (.t 19)⟩]
abbrev c98_r7 : List Ins := [
  ⟨some 5, none, .mov (.c (.int .i64 1))⟩]
abbrev c98_r8 : List Ins := [
  ⟨some 21, none, .mov (.t 3)⟩,
  ⟨some 22, none, .mov (.t 0)⟩,
  ⟨some 23, none, .mov (.t 4)⟩,
  ⟨some 24, none, .iaddr 5 (.t 22) (.t 23)⟩,
  ⟨some 25, none, .faddr 0 (.t 24)⟩,
  ⟨some 26, none, .faddr 0 (.t 25)⟩,
  ⟨some 27, none, .load 1 false (.t 26)⟩,
  ⟨some 28, none, .build [.int .i64 0, .int .i64 0, .int .i64 0, .int .i64 0, .str ⟨#[]⟩, .sl .full []] [(0, (1, .c (.int .i64 1))), (3, (1, .t 27))]⟩,
  ⟨some 29, none, .mov (.t 0)⟩,
  ⟨some 30, none, .mov (.t 4)⟩,
  ⟨some 31, none, .iaddr 5 (.t 29) (.t 30)⟩,
  ⟨some 32, none, .faddr 0 (.t 31)⟩,
  ⟨some 33, none, .faddr 1 (.t 32)⟩,
  ⟨some 34, none, .load 1 false (.t 33)⟩,
  ⟨some 35, none, .build [.int .i64 0, .int .i64 0, .int .i64 0, .int .i64 0, .str ⟨#[]⟩, .sl .full []] [(1, (1, .t 34)), (2, (1, .c (.int .i64 999)))]⟩,
  ⟨some 36, none, .mov (.t 0)⟩,
  ⟨some 37, none, .mov (.t 4)⟩,
  ⟨some 38, none, .iaddr 5 (.t 36) (.t 37)⟩,
  ⟨some 39, none, .faddr 2 (.t 38)⟩,
  ⟨some 40, none, .faddr 0 (.t 39)⟩,
  ⟨some 41, none, .load 1 false (.t 40)⟩,
  ⟨some 42, none, .build [.int .i64 0, .int .i64 0, .int .i64 0, .int .i64 0, .str ⟨#[]⟩, .sl .full []] [(0, (1, .c (.int .i64 1))), (3, (1, .t 41))]⟩,
  ⟨some 43, none, .mov (.t 0)⟩,
  ⟨some 44, none, .mov (.t 4)⟩,
  ⟨some 45, none, .iaddr 5 (.t 43) (.t 44)⟩,
  ⟨some 46, none, .faddr 2 (.t 45)⟩,
  ⟨some 47, none, .faddr 1 (.t 46)⟩,
  ⟨some 48, none, .load 1 false (.t 47)⟩,
  ⟨some 49, none, .build [.int .i64 0, .int .i64 0, .int .i64 0, .int .i64 0, .str ⟨#[]⟩, .sl .full []] [(1, (1, .t 48)), (2, (1, .c (.int .i64 999)))]⟩,
  ⟨some 50, none, .mov (.t 5)⟩,
  ⟨some 51, none, .build [.int .i64 0, .int .i64 0, .int .i64 0, .int .i64 0, .str ⟨#[]⟩, .sl .full []] [(0, (1, .c (.int .i64 2))), (1, (1, .t 50))]⟩,
  ⟨some 52, none, .bsl 6 5 [.int .i64 0, .int .i64 0, .int .i64 0, .int .i64 0, .str ⟨#[]⟩, .sl .full []] [(0, .t 28), (1, .t 35), (2, .t 42), (3, .t 49), (4, .t 51)]⟩,
  ⟨some 53, none, .append 6 72 (.t 21) (.t 52)⟩,
  ⟨some 3, none, .mov (.t 53)⟩]
def c98_a8 : List (List Nat) := [[], [], [], [1, 2], [3], [4], [5], [6], [], [], [8, 9], [10], [11], [12], [13], [], [], [15, 16], [17], [18], [19], [20], [], [], [22, 23], [24], [25], [26], [27], [], [29], [7, 14, 21, 28, 30], [0, 31], [32, 32, 0, 1, 2, 3, 4, 5, 6, 7, 8, 9, 10, 11, 12, 13, 14, 15, 16, 17, 18, 19, 20, 21, 22, 23, 24, 25, 26, 27, 28, 29, 30, 31, 32]]
abbrev c98_m8 : List Am.Mark := [⟨false, 0, 0⟩, ⟨false, 0, 1⟩, ⟨false, 0, 1⟩, ⟨false, 0, 1⟩, ⟨false, 0, 1⟩, ⟨false, 0, 1⟩, ⟨false, 0, 1⟩, ⟨false, 0, 1⟩, ⟨false, 0, 1⟩, ⟨false, 0, 1⟩, ⟨false, 0, 1⟩, ⟨false, 0, 1⟩, ⟨false, 0, 1⟩, ⟨false, 0, 1⟩, ⟨false, 0, 1⟩, ⟨false, 0, 1⟩, ⟨false, 0, 1⟩, ⟨false, 0, 1⟩, ⟨false, 0, 1⟩, ⟨false, 0, 1⟩, ⟨false, 0, 1⟩, ⟨false, 0, 1⟩, ⟨false, 0, 1⟩, ⟨false, 0, 1⟩, ⟨false, 0, 1⟩, ⟨false, 0, 1⟩, ⟨false, 0, 1⟩, ⟨false, 0, 1⟩, ⟨false, 0, 1⟩, ⟨false, 0, 1⟩, ⟨false, 0, 1⟩, ⟨false, 0, 0⟩, ⟨true, 0, 1⟩, ⟨false, 1, 1⟩]
theorem c98_d8 : drawFine c98_r8 c98_a8 c98_m8 = true := by decide +kernel
abbrev c98_r9 : List Ins := [
  ⟨some 14, none, .mov (.t 4)⟩,
  ⟨some 15, none, .bin .add (.t 14) (.c (.int .i64 1))⟩,
  ⟨some 4, none, .mov (.t 15)⟩]
abbrev c98_l10 : IR := .seq (.seq (.reg c98_r4) (.cond (.t 13) (.skip) (.exit 0))) (.seq (.blk 1 (.seq (.reg c98_r5) (.seq (.seq (.reg c98_r6) (.cond (.t 20) (.reg c98_r7) (.skip))) (.dreg c98_r8 c98_a8)))) (.reg c98_r9))
abbrev c98_r11 : List Ins := [
  ⟨some 54, none, .mov (.t 3)⟩,
  ⟨some 2, none, .mov (.t 54)⟩]
abbrev c98 : IR := .seq (.reg c98_r1) (.seq (.reg c98_r2) (.seq (.seq (.reg c98_r3) (.blk 0 (.loop c98_l10))) (.seq (.reg c98_r11) (.ret))))
abbrev F98 : FnA := ⟨55, c98, [.t 2]⟩
theorem ok98 : cFn Try.prog 98 = some F98 := by kernel_rfl
theorem hb98 : HasBody Try.prog 98 := ⟨_, Try.func98, by kernel_rfl, by kernel_rfl⟩
/-! slices.EqualFunc:Step -/
abbrev c99_r1 : List Ins := [
  ⟨some 6, none, .mov (.c (.bool false))⟩]
abbrev c99_r2 : List Ins := [
  ⟨some 10, none, .mov (.t 0)⟩,
  ⟨some 11, none, .len (.t 10)⟩,
  ⟨some 12, none, .mov (.t 1)⟩,
  ⟨some 13, none, .len (.t 12)⟩,
  ⟨some 14, none, .bin .neq (.t 11) (.t 13)⟩]
abbrev c99_r3 : List Ins := [
  ⟨some 6, none, .mov (.c (.bool false))⟩]
abbrev c99_r4 : List Ins := [
  ⟨some 15, none, .mov (.t 0)⟩,
  ⟨some 16, none, .len (.t 15)⟩,
  ⟨some 17, none, .mov (.c (.int .i64 0))⟩]
abbrev c99_r5 : List Ins := [
  ⟨some 18, none, .bin .lss (.t 17) (.t 16)⟩]
abbrev c99_r6 : List Ins := [
  ⟨some 19, none, .mov (.t 17)⟩,
  ⟨some 20, none, .iaddr 2 (.t 15) (.t 17)⟩,
  ⟨some 21, none, .load 2 true (.t 20)⟩,
  ⟨some 8, none, .alloc [.sl .full [], .sl .full []]⟩,
  ⟨some 7, none, .mov (.t 19)⟩,
  ⟨none, none, .store 2 (.t 8) (.t 21)⟩]
abbrev c99_r7 : List Ins := [
  ⟨some 22, none, .mov (.t 1)⟩,
  ⟨some 23, none, .mov (.t 7)⟩,
  ⟨some 24, none, .iaddr 2 (.t 22) (.t 23)⟩,
  ⟨some 25, none, .load 2 true (.t 24)⟩,
  ⟨some 9, none, .alloc [.sl .full [], .sl .full []]⟩,
  ⟨none, none, .store 2 (.t 9) (.t 25)⟩]
abbrev c99_r8 : List Ins := [
  ⟨some 26, none, .mov (.t 2)⟩,
  ⟨some 27, none, .load 2 true (.t 8)⟩,
  ⟨some 28, none, .load 2 true (.t 9)⟩,
  ⟨some 29, none, .call (.t 26) [.t 27, .t 28]⟩,
  ⟨some 30, none, .un .not (.t 29)⟩]
abbrev c99_r9 : List Ins := [
  ⟨some 6, none, .mov (.c (.bool false))⟩]
abbrev c99_r10 : List Ins := [
  ⟨some 31, none, .bin .add (.t 17) (.c (.int .i64 1))⟩,
  ⟨some 17, none, .mov (.t 31)⟩]
abbrev c99_l11 : IR := .seq (.reg c99_r5) (.seq (.cond (.t 18) (.skip) (.exit 0)) (.seq (.blk 1 (.seq (.reg c99_r6) (.seq (.reg c99_r7) (.seq (.reg c99_r8) (.cond (.t 30) (.seq (.reg c99_r9) (.ret)) (.skip)))))) (.reg c99_r10)))
abbrev c99_r12 : List Ins := [
  ⟨some 6, none, .mov (.c (.bool true))⟩]
abbrev c99 : IR := .seq (.reg c99_r1) (.seq (.seq (.reg c99_r2) (.cond (.t 14) (.seq (.reg c99_r3) (.ret)) (.skip))) (.seq (.seq (.reg c99_r4) (.blk 0 (.loop c99_l11))) (.seq (.reg c99_r12) (.ret))))
abbrev F99 : FnA := ⟨32, c99, [.t 6]⟩
theorem ok99 : cFn Try.prog 99 = some F99 := by kernel_rfl
theorem hb99 : HasBody Try.prog 99 := ⟨_, Try.func99, by kernel_rfl, by kernel_rfl⟩
/-! class.sameStep -/
abbrev c100_r1 : List Ins := [
  ⟨some 2, none, .box (.t 0)⟩,
  ⟨some 3, none, .box (.t 1)⟩,
  ⟨some 4, none, .mov (.c (.bool false))⟩]
abbrev c100_r2 : List Ins := [
  ⟨some 5, none, .faddr 0 (.t 2)⟩,
  ⟨some 6, none, .load 1 false (.t 5)⟩,
  ⟨some 7, none, .faddr 0 (.t 3)⟩,
  ⟨some 8, none, .load 1 false (.t 7)⟩,
  ⟨some 9, none, .call (.c (.fn 135 [] [])) [.t 6, .t 8]⟩,
  ⟨some 10, none, .mov (.t 9)⟩,
  ⟨some 11, some (10, true), .faddr 1 (.t 2)⟩,
  ⟨some 12, some (10, true), .load 1 false (.t 11)⟩,
  ⟨some 13, some (10, true), .faddr 1 (.t 3)⟩,
  ⟨some 14, some (10, true), .load 1 false (.t 13)⟩,
  ⟨some 15, some (10, true), .call (.c (.fn 136 [] [])) [.t 12, .t 14]⟩,
  ⟨some 16, none, .pick (.t 10) (.t 15) (.c (.bool false))⟩,
  ⟨some 4, none, .mov (.t 16)⟩]
abbrev c100 : IR := .seq (.reg c100_r1) (.seq (.reg c100_r2) (.ret))
abbrev F100 : FnA := ⟨17, c100, [.t 4]⟩
theorem ok100 : cFn Try.prog 100 = some F100 := by kernel_rfl
theorem hb100 : HasBody Try.prog 100 := ⟨_, Try.func100, by kernel_rfl, by kernel_rfl⟩
/-! codes.Writer.put -/
abbrev c101_r1 : List Ins := [
  ⟨some 4, none, .mov (.t 0)⟩,
  ⟨some 5, none, .mov (.t 0)⟩,
  ⟨some 6, none, .nilck (.t 5)⟩,
  ⟨some 7, none, .faddr 0 (.t 6)⟩,
  ⟨some 8, none, .load 1 false (.t 7)⟩,
  ⟨some 9, none, .mov (.t 1)⟩,
  ⟨some 10, none, .append 1 8 (.t 8) (.t 9)⟩,
  ⟨some 11, none, .nilck (.t 4)⟩,
  ⟨some 12, none, .faddr 0 (.t 11)⟩,
  ⟨none, none, .store 1 (.t 12) (.t 10)⟩]
abbrev c101 : IR := .reg c101_r1
abbrev F101 : FnA := ⟨13, c101, []⟩
theorem ok101 : cFn Try.prog 101 = some F101 := by kernel_rfl
theorem hb101 : HasBody Try.prog 101 := ⟨_, Try.func101, by kernel_rfl, by kernel_rfl⟩
/-! codes.packed -/
abbrev c102_r1 : List Ins := [
  ⟨some 2, none, .mov (.c (.sl .full []))⟩]
abbrev c102_r2 : List Ins := [
  ⟨some 5, none, .mov (.t 0)⟩,
  ⟨some 6, none, .lenS (.t 5)⟩,
  ⟨some 7, none, .bin .add (.t 6) (.c (.int .i64 8))⟩,
  ⟨some 8, none, .bin .sub (.t 7) (.c (.int .i64 1))⟩,
  ⟨some 9, none, .bin .quo (.t 8) (.c (.int .i64 8))⟩,
  ⟨some 10, none, .mksl 1 8 [.int .u64 0] (.t 9) (.t 9)⟩,
  ⟨some 3, none, .mov (.t 10)⟩]
abbrev c102_r3 : List Ins := [
  ⟨some 11, none, .mov (.t 0)⟩,
  ⟨some 12, none, .lenS (.t 11)⟩,
  ⟨some 13, none, .mov (.c (.int .i64 0))⟩]
abbrev c102_r4 : List Ins := [
  ⟨some 14, none, .bin .lss (.t 13) (.t 12)⟩]
abbrev c102_r5 : List Ins := [
  ⟨some 15, none, .mov (.t 13)⟩,
  ⟨some 4, none, .mov (.t 15)⟩]
abbrev c102_r6 : List Ins := [
  ⟨some 16, none, .mov (.t 3)⟩,
  ⟨some 17, none, .mov (.t 4)⟩,
  ⟨some 18, none, .bin .quo (.t 17) (.c (.int .i64 8))⟩,
  ⟨some 19, none, .iaddr 1 (.t 16) (.t 18)⟩,
  ⟨some 20, none, .load 1 false (.t 19)⟩,
  ⟨some 21, none, .mov (.t 0)⟩,
  ⟨some 22, none, .mov (.t 4)⟩,
  ⟨some 23, none, .idxS (.t 21) (.t 22)⟩,
  ⟨some 24, none, .conv .u64 (.t 23)⟩,
  ⟨some 25, none, .mov (.t 4)⟩,
  ⟨some 26, none, .bin .rem (.t 25) (.c (.int .i64 8))⟩,
  ⟨some 27, none, .bin .mul (.c (.int .i64 8)) (.t 26)⟩,
  ⟨some 28, none, .bin .shl (.t 24) (.t 27)⟩,
  ⟨some 29, none, .bin .or (.t 20) (.t 28)⟩,
  ⟨some 30, none, .iaddr 1 (.t 16) (.t 18)⟩,
  ⟨none, none, .store 1 (.t 30) (.t 29)⟩]
def c102_a6 : List (List Nat) := [[], [], [1], [0, 2], [3], [], [], [5, 6], [7], [], [9], [10], [8, 11], [4, 12], [0, 2, 0, 1, 2, 3, 4, 5, 6, 7, 8, 9, 10, 11, 12, 13], [14, 13, 0, 1, 2, 3, 4, 5, 6, 7, 8, 9, 10, 11, 12, 13]]
abbrev c102_m6 : List Am.Mark := [⟨false, 0, 0⟩, ⟨false, 0, 0⟩, ⟨false, 0, 0⟩, ⟨false, 0, 0⟩, ⟨false, 0, 0⟩, ⟨false, 0, 0⟩, ⟨false, 0, 0⟩, ⟨false, 0, 0⟩, ⟨false, 0, 0⟩, ⟨false, 0, 0⟩, ⟨false, 0, 0⟩, ⟨false, 0, 0⟩, ⟨false, 0, 0⟩, ⟨false, 0, 0⟩, ⟨false, 0, 0⟩, ⟨true, 0, 1⟩]
theorem c102_d6 : drawFine c102_r6 c102_a6 c102_m6 = true := by decide +kernel
abbrev c102_r7 : List Ins := [
  ⟨some 31, none, .bin .add (.t 13) (.c (.int .i64 1))⟩,
  ⟨some 13, none, .mov (.t 31)⟩]
abbrev c102_l8 : IR := .seq (.reg c102_r4) (.seq (.cond (.t 14) (.skip) (.exit 0)) (.seq (.blk 1 (.seq (.reg c102_r5) (.dreg c102_r6 c102_a6))) (.reg c102_r7)))
abbrev c102_r9 : List Ins := [
  ⟨some 32, none, .mov (.t 3)⟩,
  ⟨some 2, none, .mov (.t 32)⟩]
abbrev c102 : IR := .seq (.reg c102_r1) (.seq (.reg c102_r2) (.seq (.seq (.reg c102_r3) (.blk 0 (.loop c102_l8))) (.seq (.reg c102_r9) (.ret))))
abbrev F102 : FnA := ⟨33, c102, [.t 2]⟩
theorem ok102 : cFn Try.prog 102 = some F102 := by kernel_rfl
theorem hb102 : HasBody Try.prog 102 := ⟨_, Try.func102, by kernel_rfl, by kernel_rfl⟩
/-! slices.Clone:Class -/
abbrev c103_r1 : List Ins := [
  ⟨some 2, none, .mov (.c (.sl .full []))⟩]
abbrev c103_r2 : List Ins := [
  ⟨some 3, none, .mov (.t 0)⟩,
  ⟨some 4, none, .isnil false (.t 3)⟩]
abbrev c103_r3 : List Ins := [
  ⟨some 2, none, .mov (.c (.sl .full []))⟩]
abbrev c103_r4 : List Ins := [
  ⟨some 5, none, .bsl 5 0 [.str ⟨#[]⟩, .int .i64 0, .sl .full [], .sl .full [], .bool false] []⟩,
  ⟨some 6, none, .mov (.t 0)⟩,
  ⟨some 7, none, .append 5 80 (.t 5) (.t 6)⟩,
  ⟨some 2, none, .mov (.t 7)⟩]
abbrev c103 : IR := .seq (.reg c103_r1) (.seq (.seq (.reg c103_r2) (.cond (.t 4) (.seq (.reg c103_r3) (.ret)) (.skip))) (.seq (.reg c103_r4) (.ret)))
abbrev F103 : FnA := ⟨8, c103, [.t 2]⟩
theorem ok103 : cFn Try.prog 103 = some F103 := by kernel_rfl
theorem hb103 : HasBody Try.prog 103 := ⟨_, Try.func103, by kernel_rfl, by kernel_rfl⟩
/-! cat.steps -/
abbrev c104_r1 : List Ins := [
  ⟨some 2, none, .mov (.c (.sl .full []))⟩]
abbrev c104_r2 : List Ins := [
  ⟨some 6, none, .mov (.t 0)⟩,
  ⟨some 7, none, .call (.c (.fn 137 [] [])) [.t 6]⟩,
  ⟨some 3, none, .mov (.t 7)⟩]
abbrev c104_r3 : List Ins := [
  ⟨some 8, none, .mov (.t 3)⟩,
  ⟨some 9, none, .len (.t 8)⟩,
  ⟨some 10, none, .mov (.c (.int .i64 0))⟩]
abbrev c104_r4 : List Ins := [
  ⟨some 11, none, .bin .lss (.t 10) (.t 9)⟩]
abbrev c104_r5 : List Ins := [
  ⟨some 12, none, .mov (.t 10)⟩,
  ⟨some 13, none, .iaddr 2 (.t 8) (.t 10)⟩,
  ⟨some 14, none, .load 2 true (.t 13)⟩,
  ⟨some 5, none, .alloc [.sl .full [], .sl .full []]⟩,
  ⟨some 4, none, .mov (.t 12)⟩,
  ⟨none, none, .store 2 (.t 5) (.t 14)⟩]
abbrev c104_r6 : List Ins := [
  ⟨some 15, none, .mov (.t 3)⟩,
  ⟨some 16, none, .mov (.t 4)⟩,
  ⟨some 17, none, .faddr 0 (.t 5)⟩,
  ⟨some 18, none, .load 1 false (.t 17)⟩,
  ⟨some 19, none, .call (.c (.fn 138 [] [])) [.t 18]⟩,
  ⟨some 20, none, .faddr 1 (.t 5)⟩,
  ⟨some 21, none, .load 1 false (.t 20)⟩,
  ⟨some 22, none, .call (.c (.fn 139 [] [])) [.t 21]⟩,
  ⟨some 23, none, .build [.sl .full [], .sl .full []] [(0, (1, .t 19)), (1, (1, .t 22))]⟩,
  ⟨some 24, none, .iaddr 2 (.t 15) (.t 16)⟩,
  ⟨none, none, .store 2 (.t 24) (.t 23)⟩]
def c104_a6 : List (List Nat) := [[], [], [], [2], [3], [], [5], [6, 4], [4, 7], [0, 1, 0, 1, 2, 3, 4, 5, 6, 7, 8], [9, 8, 7, 0, 1, 2, 3, 4, 5, 6, 7, 8]]
abbrev c104_m6 : List Am.Mark := [⟨false, 0, 0⟩, ⟨false, 0, 0⟩, ⟨false, 0, 0⟩, ⟨false, 0, 0⟩, ⟨false, 0, 0⟩, ⟨false, 0, 0⟩, ⟨false, 0, 0⟩, ⟨false, 0, 0⟩, ⟨false, 0, 0⟩, ⟨false, 0, 0⟩, ⟨true, 0, 1⟩]
theorem c104_d6 : drawFine c104_r6 c104_a6 c104_m6 = true := by decide +kernel
abbrev c104_r7 : List Ins := [
  ⟨some 25, none, .bin .add (.t 10) (.c (.int .i64 1))⟩,
  ⟨some 10, none, .mov (.t 25)⟩]
abbrev c104_l8 : IR := .seq (.reg c104_r4) (.seq (.cond (.t 11) (.skip) (.exit 0)) (.seq (.blk 1 (.seq (.reg c104_r5) (.dreg c104_r6 c104_a6))) (.reg c104_r7)))
abbrev c104_r9 : List Ins := [
  ⟨some 26, none, .mov (.t 3)⟩,
  ⟨some 2, none, .mov (.t 26)⟩]
abbrev c104 : IR := .seq (.reg c104_r1) (.seq (.reg c104_r2) (.seq (.seq (.reg c104_r3) (.blk 0 (.loop c104_l8))) (.seq (.reg c104_r9) (.ret))))
abbrev F104 : FnA := ⟨27, c104, [.t 2]⟩
theorem ok104 : cFn Try.prog 104 = some F104 := by kernel_rfl
theorem hb104 : HasBody Try.prog 104 := ⟨_, Try.func104, by kernel_rfl, by kernel_rfl⟩
/-! codes.Reader.next -/
abbrev c105_r1 : List Ins := [
  ⟨some 4, none, .mov (.c (.int .u64 0))⟩]
abbrev c105_r2 : List Ins := [
  ⟨some 6, none, .mov (.t 0)⟩,
  ⟨some 7, none, .nilck (.t 6)⟩,
  ⟨some 8, none, .faddr 1 (.t 7)⟩,
  ⟨some 9, none, .load 1 false (.t 8)⟩,
  ⟨some 10, none, .mov (.t 9)⟩,
  ⟨some 11, some (10, false), .mov (.t 0)⟩,
  ⟨some 12, some (10, false), .nilck (.t 11)⟩,
  ⟨some 13, some (10, false), .faddr 0 (.t 12)⟩,
  ⟨some 14, some (10, false), .load 1 false (.t 13)⟩,
  ⟨some 15, some (10, false), .len (.t 14)⟩,
  ⟨some 16, some (10, false), .bin .eql (.t 15) (.c (.int .i64 0))⟩,
  ⟨some 17, none, .pick (.t 10) (.c (.bool true)) (.t 16)⟩,
  ⟨some 18, none, .mov (.t 17)⟩,
  ⟨some 19, some (18, false), .mov (.t 1)⟩,
  ⟨some 20, some (18, false), .mov (.t 0)⟩,
  ⟨some 21, some (18, false), .nilck (.t 20)⟩,
  ⟨some 22, some (18, false), .faddr 0 (.t 21)⟩,
  ⟨some 23, some (18, false), .load 1 false (.t 22)⟩,
  ⟨some 24, some (18, false), .iaddr 1 (.t 23) (.c (.int .i64 0))⟩,
  ⟨some 25, some (18, false), .load 1 false (.t 24)⟩,
  ⟨some 26, some (18, false), .call (.t 19) [.t 25]⟩,
  ⟨some 27, some (18, false), .un .not (.t 26)⟩,
  ⟨some 28, none, .pick (.t 18) (.c (.bool true)) (.t 27)⟩]
abbrev c105_r3 : List Ins := [
  ⟨some 29, none, .mov (.t 0)⟩,
  ⟨some 30, none, .nilck (.t 29)⟩,
  ⟨some 31, none, .faddr 1 (.t 30)⟩,
  ⟨none, none, .store 1 (.t 31) (.c (.bool true))⟩]
abbrev c105_r4 : List Ins := [
  ⟨some 4, none, .mov (.c (.int .u64 0))⟩]
abbrev c105_r5 : List Ins := [
  ⟨some 32, none, .mov (.t 0)⟩,
  ⟨some 33, none, .nilck (.t 32)⟩,
  ⟨some 34, none, .faddr 0 (.t 33)⟩,
  ⟨some 35, none, .load 1 false (.t 34)⟩,
  ⟨some 36, none, .iaddr 1 (.t 35) (.c (.int .i64 0))⟩,
  ⟨some 37, none, .load 1 false (.t 36)⟩,
  ⟨some 5, none, .mov (.t 37)⟩]
abbrev c105_r6 : List Ins := [
  ⟨some 38, none, .mov (.t 0)⟩,
  ⟨some 39, none, .mov (.t 0)⟩,
  ⟨some 40, none, .nilck (.t 39)⟩,
  ⟨some 41, none, .faddr 0 (.t 40)⟩,
  ⟨some 42, none, .load 1 false (.t 41)⟩,
  ⟨some 43, none, .slice 1 (.t 42) (some (.c (.int .i64 1))) none none⟩,
  ⟨some 44, none, .nilck (.t 38)⟩,
  ⟨some 45, none, .faddr 0 (.t 44)⟩,
  ⟨none, none, .store 1 (.t 45) (.t 43)⟩]
abbrev c105_r7 : List Ins := [
  ⟨some 46, none, .mov (.t 5)⟩,
  ⟨some 4, none, .mov (.t 46)⟩]
abbrev c105 : IR := .seq (.reg c105_r1) (.seq (.seq (.reg c105_r2) (.cond (.t 28) (.seq (.reg c105_r3) (.seq (.reg c105_r4) (.ret))) (.skip))) (.seq (.reg c105_r5) (.seq (.reg c105_r6) (.seq (.reg c105_r7) (.ret)))))
abbrev F105 : FnA := ⟨47, c105, [.t 4]⟩
theorem ok105 : cFn Try.prog 105 = some F105 := by kernel_rfl
theorem hb105 : HasBody Try.prog 105 := ⟨_, Try.func105, by kernel_rfl, by kernel_rfl⟩
/-! codes.Reader.Count$1 -/
abbrev c106_r1 : List Ins := [
  ⟨some 3, none, .mov (.c (.bool false))⟩]
abbrev c106_r2 : List Ins := [
  ⟨some 4, none, .load 1 false (.t 1)⟩,
  ⟨some 5, none, .bin .geq (.t 4) (.c (.int .i64 0))⟩,
  ⟨some 6, none, .mov (.t 5)⟩,
  ⟨some 7, some (6, true), .mov (.t 0)⟩,
  ⟨some 8, some (6, true), .load 1 false (.t 1)⟩,
  ⟨some 9, some (6, true), .conv .u64 (.t 8)⟩,
  ⟨some 10, some (6, true), .bin .leq (.t 7) (.t 9)⟩,
  ⟨some 11, none, .pick (.t 6) (.t 10) (.c (.bool false))⟩,
  ⟨some 3, none, .mov (.t 11)⟩]
abbrev c106 : IR := .seq (.reg c106_r1) (.seq (.reg c106_r2) (.ret))
abbrev F106 : FnA := ⟨12, c106, [.t 3]⟩
theorem ok106 : cFn Try.prog 106 = some F106 := by kernel_rfl
theorem hb106 : HasBody Try.prog 106 := ⟨_, Try.func106, by kernel_rfl, by kernel_rfl⟩
/-! codes.Reader.Signed$1 -/
abbrev c107_r1 : List Ins := [
  ⟨some 2, none, .mov (.c (.bool false))⟩]
abbrev c107_r2 : List Ins := [
  ⟨some 2, none, .mov (.c (.bool true))⟩]
abbrev c107 : IR := .seq (.reg c107_r1) (.seq (.reg c107_r2) (.ret))
abbrev F107 : FnA := ⟨3, c107, [.t 2]⟩
theorem ok107 : cFn Try.prog 107 = some F107 := by kernel_rfl
theorem hb107 : HasBody Try.prog 107 := ⟨_, Try.func107, by kernel_rfl, by kernel_rfl⟩
/-! codes.Reader.take -/
abbrev c108_r1 : List Ins := [
  ⟨some 4, none, .mov (.c (.sl .full []))⟩]
abbrev c108_r2 : List Ins := [
  ⟨some 6, none, .mov (.t 0)⟩,
  ⟨some 7, none, .nilck (.t 6)⟩,
  ⟨some 8, none, .faddr 1 (.t 7)⟩,
  ⟨some 9, none, .load 1 false (.t 8)⟩,
  ⟨some 10, none, .mov (.t 9)⟩,
  ⟨some 11, some (10, false), .mov (.t 1)⟩,
  ⟨some 12, some (10, false), .mov (.t 0)⟩,
  ⟨some 13, some (10, false), .nilck (.t 12)⟩,
  ⟨some 14, some (10, false), .faddr 0 (.t 13)⟩,
  ⟨some 15, some (10, false), .load 1 false (.t 14)⟩,
  ⟨some 16, some (10, false), .len (.t 15)⟩,
  ⟨some 17, some (10, false), .bin .gtr (.t 11) (.t 16)⟩,
  ⟨some 18, none, .pick (.t 10) (.c (.bool true)) (.t 17)⟩]
abbrev c108_r3 : List Ins := [
  ⟨some 19, none, .mov (.t 0)⟩,
  ⟨some 20, none, .nilck (.t 19)⟩,
  ⟨some 21, none, .faddr 1 (.t 20)⟩,
  ⟨none, none, .store 1 (.t 21) (.c (.bool true))⟩]
abbrev c108_r4 : List Ins := [
  ⟨some 4, none, .mov (.c (.sl .full []))⟩]
abbrev c108_r5 : List Ins := [
  ⟨some 22, none, .mov (.t 0)⟩,
  ⟨some 23, none, .nilck (.t 22)⟩,
  ⟨some 24, none, .faddr 0 (.t 23)⟩,
  ⟨some 25, none, .load 1 false (.t 24)⟩,
  ⟨some 26, none, .mov (.t 1)⟩,
  ⟨some 27, none, .slice 1 (.t 25) none (some (.t 26)) none⟩,
  ⟨some 28, none, .call (.c (.fn 61 [] [])) [.t 27]⟩,
  ⟨some 5, none, .mov (.t 28)⟩]
abbrev c108_r6 : List Ins := [
  ⟨some 29, none, .mov (.t 0)⟩,
  ⟨some 30, none, .mov (.t 0)⟩,
  ⟨some 31, none, .nilck (.t 30)⟩,
  ⟨some 32, none, .faddr 0 (.t 31)⟩,
  ⟨some 33, none, .load 1 false (.t 32)⟩,
  ⟨some 34, none, .mov (.t 1)⟩,
  ⟨some 35, none, .slice 1 (.t 33) (some (.t 34)) none none⟩,
  ⟨some 36, none, .nilck (.t 29)⟩,
  ⟨some 37, none, .faddr 0 (.t 36)⟩,
  ⟨none, none, .store 1 (.t 37) (.t 35)⟩]
abbrev c108_r7 : List Ins := [
  ⟨some 38, none, .mov (.t 5)⟩,
  ⟨some 4, none, .mov (.t 38)⟩]
abbrev c108 : IR := .seq (.reg c108_r1) (.seq (.seq (.reg c108_r2) (.cond (.t 18) (.seq (.reg c108_r3) (.seq (.reg c108_r4) (.ret))) (.skip))) (.seq (.reg c108_r5) (.seq (.reg c108_r6) (.seq (.reg c108_r7) (.ret)))))
abbrev F108 : FnA := ⟨39, c108, [.t 4]⟩
theorem ok108 : cFn Try.prog 108 = some F108 := by kernel_rfl
theorem hb108 : HasBody Try.prog 108 := ⟨_, Try.func108, by kernel_rfl, by kernel_rfl⟩
/-! slices.Equal:uint64 -/
abbrev c109_r1 : List Ins := [
  ⟨some 4, none, .mov (.c (.bool false))⟩]
abbrev c109_r2 : List Ins := [
  ⟨some 6, none, .mov (.t 0)⟩,
  ⟨some 7, none, .len (.t 6)⟩,
  ⟨some 8, none, .mov (.t 1)⟩,
  ⟨some 9, none, .len (.t 8)⟩,
  ⟨some 10, none, .bin .neq (.t 7) (.t 9)⟩]
abbrev c109_r3 : List Ins := [
  ⟨some 4, none, .mov (.c (.bool false))⟩]
abbrev c109_r4 : List Ins := [
  ⟨some 11, none, .mov (.t 0)⟩,
  ⟨some 12, none, .len (.t 11)⟩,
  ⟨some 13, none, .mov (.c (.int .i64 0))⟩]
abbrev c109_r5 : List Ins := [
  ⟨some 14, none, .bin .lss (.t 13) (.t 12)⟩]
abbrev c109_r6 : List Ins := [
  ⟨some 15, none, .mov (.t 13)⟩,
  ⟨some 5, none, .mov (.t 15)⟩]
abbrev c109_r7 : List Ins := [
  ⟨some 16, none, .mov (.t 0)⟩,
  ⟨some 17, none, .mov (.t 5)⟩,
  ⟨some 18, none, .iaddr 1 (.t 16) (.t 17)⟩,
  ⟨some 19, none, .load 1 false (.t 18)⟩,
  ⟨some 20, none, .mov (.t 1)⟩,
  ⟨some 21, none, .mov (.t 5)⟩,
  ⟨some 22, none, .iaddr 1 (.t 20) (.t 21)⟩,
  ⟨some 23, none, .load 1 false (.t 22)⟩,
  ⟨some 24, none, .bin .neq (.t 19) (.t 23)⟩]
def c109_a7 : List (List Nat) := [[], [], [0, 1], [2], [], [], [4, 5], [6], [3, 7]]
abbrev c109_m7 : List Am.Mark := [⟨false, 0, 0⟩, ⟨false, 0, 0⟩, ⟨false, 0, 0⟩, ⟨false, 0, 0⟩, ⟨false, 0, 0⟩, ⟨false, 0, 0⟩, ⟨false, 0, 0⟩, ⟨false, 0, 0⟩, ⟨false, 0, 0⟩]
theorem c109_d7 : drawFine c109_r7 c109_a7 c109_m7 = true := by decide +kernel
abbrev c109_r8 : List Ins := [
  ⟨some 4, none, .mov (.c (.bool false))⟩]
abbrev c109_r9 : List Ins := [
  ⟨some 25, none, .bin .add (.t 13) (.c (.int .i64 1))⟩,
  ⟨some 13, none, .mov (.t 25)⟩]
abbrev c109_l10 : IR := .seq (.reg c109_r5) (.seq (.cond (.t 14) (.skip) (.exit 0)) (.seq (.blk 1 (.seq (.reg c109_r6) (.seq (.dreg c109_r7 c109_a7) (.cond (.t 24) (.seq (.reg c109_r8) (.ret)) (.skip))))) (.reg c109_r9)))
abbrev c109_r11 : List Ins := [
  ⟨some 4, none, .mov (.c (.bool true))⟩]
abbrev c109 : IR := .seq (.reg c109_r1) (.seq (.seq (.reg c109_r2) (.cond (.t 10) (.seq (.reg c109_r3) (.ret)) (.skip))) (.seq (.seq (.reg c109_r4) (.blk 0 (.loop c109_l10))) (.seq (.reg c109_r11) (.ret))))
abbrev F109 : FnA := ⟨26, c109, [.t 4]⟩
theorem ok109 : cFn Try.prog 109 = some F109 := by kernel_rfl
theorem hb109 : HasBody Try.prog 109 := ⟨_, Try.func109, by kernel_rfl, by kernel_rfl⟩
/-! cat.pairs$1 -/
abbrev c116_r1 : List Ins := [
  ⟨some 6, none, .faddr 0 (.t 1)⟩,
  ⟨some 7, none, .load 1 false (.t 6)⟩,
  ⟨some 8, none, .len (.t 7)⟩,
  ⟨some 9, none, .mn [.t 8, .c (.int .i64 4)]⟩,
  ⟨some 3, none, .mov (.t 9)⟩]
abbrev c116_r2 : List Ins := [
  ⟨some 10, none, .mov (.t 3)⟩,
  ⟨some 11, none, .mov (.c (.int .i64 0))⟩]
abbrev c116_r3 : List Ins := [
  ⟨some 12, none, .bin .lss (.t 11) (.t 10)⟩]
abbrev c116_r4 : List Ins := [
  ⟨some 13, none, .mov (.t 11)⟩,
  ⟨some 4, none, .mov (.t 13)⟩]
abbrev c116_r5 : List Ins := [
  ⟨some 14, none, .mov (.t 3)⟩,
  ⟨some 15, none, .mov (.c (.int .i64 0))⟩]
abbrev c116_r6 : List Ins := [
  ⟨some 16, none, .bin .lss (.t 15) (.t 14)⟩]
abbrev c116_r7 : List Ins := [
  ⟨some 17, none, .mov (.t 15)⟩,
  ⟨some 5, none, .mov (.t 17)⟩]
abbrev c116_r8 : List Ins := [
  ⟨some 18, none, .mov (.t 0)⟩,
  ⟨some 19, none, .mov (.t 4)⟩,
  ⟨some 20, none, .mov (.t 5)⟩,
  ⟨some 21, none, .call (.t 18) [.t 19, .t 20]⟩,
  ⟨some 22, none, .un .not (.t 21)⟩]
abbrev c116_r9 : List Ins := [
  ⟨some 23, none, .bin .add (.t 15) (.c (.int .i64 1))⟩,
  ⟨some 15, none, .mov (.t 23)⟩]
abbrev c116_l10 : IR := .seq (.reg c116_r6) (.seq (.cond (.t 16) (.skip) (.exit 2)) (.seq (.blk 3 (.seq (.reg c116_r7) (.seq (.reg c116_r8) (.cond (.t 22) (.ret) (.skip))))) (.reg c116_r9)))
abbrev c116_r11 : List Ins := [
  ⟨some 24, none, .bin .add (.t 11) (.c (.int .i64 1))⟩,
  ⟨some 11, none, .mov (.t 24)⟩]
abbrev c116_l12 : IR := .seq (.reg c116_r3) (.seq (.cond (.t 12) (.skip) (.exit 0)) (.seq (.blk 1 (.seq (.reg c116_r4) (.seq (.reg c116_r5) (.blk 2 (.loop c116_l10))))) (.reg c116_r11)))
abbrev c116 : IR := .seq (.reg c116_r1) (.seq (.reg c116_r2) (.blk 0 (.loop c116_l12)))
abbrev F116 : FnA := ⟨25, c116, []⟩
theorem ok116 : cFn Try.prog 116 = some F116 := by kernel_rfl
theorem hb116 : HasBody Try.prog 116 := ⟨_, Try.func116, by kernel_rfl, by kernel_rfl⟩
/-! prog.May -/
abbrev c119_r1 : List Ins := [
  ⟨some 3, none, .box (.t 1)⟩,
  ⟨some 4, none, .mov (.c (.bool false))⟩]
abbrev c119_r2 : List Ins := [
  ⟨some 5, none, .load 1 false (.t 3)⟩,
  ⟨some 6, none, .bin .lss (.t 5) (.c (.int .i64 0))⟩,
  ⟨some 7, none, .mov (.t 6)⟩,
  ⟨some 8, some (7, false), .load 1 false (.t 3)⟩,
  ⟨some 9, some (7, false), .bin .gtr (.t 8) (.c (.int .i64 3))⟩,
  ⟨some 10, none, .pick (.t 7) (.c (.bool true)) (.t 9)⟩,
  ⟨some 11, none, .mov (.t 10)⟩,
  ⟨some 12, some (11, false), .mov (.t 0)⟩,
  ⟨some 13, some (11, false), .len (.t 12)⟩,
  ⟨some 14, some (11, false), .bin .lss (.t 13) (.c (.int .i64 1))⟩,
  ⟨some 15, none, .pick (.t 11) (.c (.bool true)) (.t 14)⟩,
  ⟨some 16, none, .mov (.t 15)⟩,
  ⟨some 17, some (16, false), .mov (.t 0)⟩,
  ⟨some 18, some (16, false), .len (.t 17)⟩,
  ⟨some 19, some (16, false), .bin .gtr (.t 18) (.c (.int .i64 8))⟩,
  ⟨some 20, none, .pick (.t 16) (.c (.bool true)) (.t 19)⟩]
abbrev c119_r3 : List Ins := [
  ⟨some 4, none, .mov (.c (.bool false))⟩]
abbrev c119_r4 : List Ins := [
  ⟨some 21, none, .mov (.t 0)⟩,
  ⟨some 22, none, .mkfn 143 [] [.t 3]⟩,
  ⟨some 23, none, .call (.c (.fn 142 [] [])) [.t 21, .t 22]⟩,
  ⟨some 24, none, .un .not (.t 23)⟩,
  ⟨some 4, none, .mov (.t 24)⟩]
abbrev c119 : IR := .seq (.reg c119_r1) (.seq (.seq (.reg c119_r2) (.cond (.t 20) (.seq (.reg c119_r3) (.ret)) (.skip))) (.seq (.reg c119_r4) (.ret)))
abbrev F119 : FnA := ⟨25, c119, [.t 4]⟩
theorem ok119 : cFn Try.prog 119 = some F119 := by kernel_rfl
theorem hb119 : HasBody Try.prog 119 := ⟨_, Try.func119, by kernel_rfl, by kernel_rfl⟩
/-! foot.May -/
abbrev c120_r1 : List Ins := [
  ⟨some 3, none, .box (.t 1)⟩,
  ⟨some 4, none, .mov (.c (.bool false))⟩]
abbrev c120_r2 : List Ins := [
  ⟨some 6, none, .mkfn 145 [] [.t 3]⟩,
  ⟨some 5, none, .mov (.t 6)⟩]
abbrev c120_r3 : List Ins := [
  ⟨some 7, none, .load 1 false (.t 3)⟩,
  ⟨some 8, none, .bin .geq (.t 7) (.c (.int .i64 0))⟩,
  ⟨some 9, none, .mov (.t 8)⟩,
  ⟨some 10, some (9, true), .load 1 false (.t 3)⟩,
  ⟨some 11, some (9, true), .bin .leq (.t 10) (.c (.int .i64 3))⟩,
  ⟨some 12, none, .pick (.t 9) (.t 11) (.c (.bool false))⟩,
  ⟨some 13, none, .mov (.t 12)⟩,
  ⟨some 14, some (13, true), .mov (.t 0)⟩,
  ⟨some 15, some (13, true), .len (.t 14)⟩,
  ⟨some 16, some (13, true), .bin .leq (.t 15) (.c (.int .i64 4))⟩,
  ⟨some 17, none, .pick (.t 13) (.t 16) (.c (.bool false))⟩,
  ⟨some 18, none, .mov (.t 17)⟩,
  ⟨some 19, some (18, true), .mov (.t 0)⟩,
  ⟨some 20, some (18, true), .mov (.t 5)⟩,
  ⟨some 21, some (18, true), .call (.c (.fn 147 [] [])) [.t 19, .t 20]⟩,
  ⟨some 22, some (18, true), .un .not (.t 21)⟩,
  ⟨some 23, none, .pick (.t 18) (.t 22) (.c (.bool false))⟩,
  ⟨some 4, none, .mov (.t 23)⟩]
abbrev c120 : IR := .seq (.reg c120_r1) (.seq (.reg c120_r2) (.seq (.reg c120_r3) (.ret)))
abbrev F120 : FnA := ⟨24, c120, [.t 4]⟩
theorem ok120 : cFn Try.prog 120 = some F120 := by kernel_rfl
theorem hb120 : HasBody Try.prog 120 := ⟨_, Try.func120, by kernel_rfl, by kernel_rfl⟩
/-! class.mayComp -/
abbrev c121_r1 : List Ins := [
  ⟨some 2, none, .box (.t 0)⟩,
  ⟨some 4, none, .mov (.c (.bool false))⟩]
abbrev c121_r2 : List Ins := [
  ⟨some 5, none, .faddr 0 (.t 2)⟩,
  ⟨some 6, none, .load 1 false (.t 5)⟩,
  ⟨some 7, none, .len (.t 6)⟩,
  ⟨some 8, none, .bin .eql (.t 7) (.c (.int .i64 0))⟩,
  ⟨some 9, none, .mov (.t 8)⟩,
  ⟨some 10, some (9, false), .faddr 0 (.t 2)⟩,
  ⟨some 11, some (9, false), .load 1 false (.t 10)⟩,
  ⟨some 12, some (9, false), .mov (.t 1)⟩,
  ⟨some 13, some (9, false), .call (.c (.fn 119 [] [])) [.t 11, .t 12]⟩,
  ⟨some 14, some (9, false), .mov (.t 13)⟩,
  ⟨some 15, some (14, true), .faddr 0 (.t 2)⟩,
  ⟨some 16, some (14, true), .load 1 false (.t 15)⟩,
  ⟨some 17, some (14, true), .call (.c (.fn 148 [] [])) [.t 16]⟩,
  ⟨some 18, some (9, false), .pick (.t 14) (.t 17) (.c (.bool false))⟩,
  ⟨some 19, none, .pick (.t 9) (.c (.bool true)) (.t 18)⟩,
  ⟨some 20, none, .mov (.t 19)⟩,
  ⟨some 21, some (20, true), .faddr 1 (.t 2)⟩,
  ⟨some 22, some (20, true), .load 1 false (.t 21)⟩,
  ⟨some 23, some (20, true), .mov (.t 1)⟩,
  ⟨some 24, some (20, true), .call (.c (.fn 120 [] [])) [.t 22, .t 23]⟩,
  ⟨some 25, none, .pick (.t 20) (.t 24) (.c (.bool false))⟩,
  ⟨some 4, none, .mov (.t 25)⟩]
abbrev c121 : IR := .seq (.reg c121_r1) (.seq (.reg c121_r2) (.ret))
abbrev F121 : FnA := ⟨26, c121, [.t 4]⟩
theorem ok121 : cFn Try.prog 121 = some F121 := by kernel_rfl
theorem hb121 : HasBody Try.prog 121 := ⟨_, Try.func121, by kernel_rfl, by kernel_rfl⟩
/-! prog.Get -/
abbrev c122_r1 : List Ins := [
  ⟨some 2, none, .mov (.c (.sl .full []))⟩]
abbrev c122_r2 : List Ins := [
  ⟨some 3, none, .mov (.c (.sl .full []))⟩]
abbrev c122_r3 : List Ins := [
  ⟨some 6, none, .mov (.t 0)⟩,
  ⟨some 7, none, .call (.c (.fn 68 [] [])) [.t 6, .c (.int .i64 8)]⟩,
  ⟨some 8, none, .mov (.c (.int .i64 0))⟩]
abbrev c122_r4 : List Ins := [
  ⟨some 9, none, .bin .lss (.t 8) (.t 7)⟩]
abbrev c122_r5 : List Ins := [
  ⟨some 10, none, .mov (.t 0)⟩,
  ⟨some 11, none, .mkfn 68 [.t 10] []⟩,
  ⟨some 4, none, .mov (.t 11)⟩]
abbrev c122_r6 : List Ins := [
  ⟨some 12, none, .mov (.t 4)⟩,
  ⟨some 13, none, .call (.t 12) [.c (.int .i64 255)]⟩,
  ⟨some 14, none, .mov (.t 4)⟩,
  ⟨some 15, none, .call (.t 14) [.c (.int .i64 255)]⟩,
  ⟨some 16, none, .mov (.t 4)⟩,
  ⟨some 17, none, .call (.t 16) [.c (.int .i64 255)]⟩,
  ⟨some 18, none, .mov (.t 4)⟩,
  ⟨some 19, none, .call (.t 18) [.c (.int .i64 255)]⟩,
  ⟨some 20, none, .build [.int .i64 0, .int .i64 0, .int .i64 0, .int .i64 0, .int .i64 0, .int .i64 0, .int .i64 0, .int .i64 0, .int .i64 0] [(0, (1, .t 13)), (1, (1, .t 15)), (2, (1, .t 17)), (3, (1, .t 19))]⟩,
  ⟨some 5, none, .alloc [.int .i64 0, .int .i64 0, .int .i64 0, .int .i64 0, .int .i64 0, .int .i64 0, .int .i64 0, .int .i64 0, .int .i64 0]⟩,
  ⟨none, none, .store 9 (.t 5) (.t 20)⟩]
abbrev c122_r7 : List Ins := [
  ⟨some 21, none, .mov (.t 0)⟩,
  ⟨some 22, none, .call (.c (.fn 149 [] [])) [.t 21]⟩,
  ⟨some 23, none, .mov (.t 0)⟩,
  ⟨some 24, none, .call (.c (.fn 149 [] [])) [.t 23]⟩,
  ⟨some 25, none, .faddr 4 (.t 5)⟩,
  ⟨none, none, .store 2 (.t 25) (.t 22)⟩,
  ⟨some 26, none, .faddr 6 (.t 5)⟩,
  ⟨none, none, .store 2 (.t 26) (.t 24)⟩]
abbrev c122_r8 : List Ins := [
  ⟨some 27, none, .mov (.t 0)⟩,
  ⟨some 28, none, .call (.c (.fn 69 [] [])) [.t 27]⟩,
  ⟨some 29, none, .faddr 8 (.t 5)⟩,
  ⟨none, none, .store 1 (.t 29) (.t 28)⟩]
abbrev c122_r9 : List Ins := [
  ⟨some 30, none, .mov (.t 3)⟩,
  ⟨some 31, none, .load 9 true (.t 5)⟩,
  ⟨some 32, none, .bsl 9 1 [.int .i64 0, .int .i64 0, .int .i64 0, .int .i64 0, .int .i64 0, .int .i64 0, .int .i64 0, .int .i64 0, .int .i64 0] [(0, .t 31)]⟩,
  ⟨some 33, none, .append 9 72 (.t 30) (.t 32)⟩,
  ⟨some 3, none, .mov (.t 33)⟩]
abbrev c122_r10 : List Ins := [
  ⟨some 34, none, .bin .add (.t 8) (.c (.int .i64 1))⟩,
  ⟨some 8, none, .mov (.t 34)⟩]
abbrev c122_l11 : IR := .seq (.reg c122_r4) (.seq (.cond (.t 9) (.skip) (.exit 0)) (.seq (.blk 1 (.seq (.reg c122_r5) (.seq (.reg c122_r6) (.seq (.reg c122_r7) (.seq (.reg c122_r8) (.reg c122_r9)))))) (.reg c122_r10)))
abbrev c122_r12 : List Ins := [
  ⟨some 35, none, .mov (.t 0)⟩,
  ⟨some 36, none, .call (.c (.fn 28 [] [])) [.t 35]⟩,
  ⟨some 37, none, .un .not (.t 36)⟩]
abbrev c122_r13 : List Ins := [
  ⟨some 2, none, .mov (.c (.sl .full []))⟩]
abbrev c122_r14 : List Ins := [
  ⟨some 38, none, .mov (.t 3)⟩,
  ⟨some 2, none, .mov (.t 38)⟩]
abbrev c122 : IR := .seq (.reg c122_r1) (.seq (.reg c122_r2) (.seq (.seq (.reg c122_r3) (.blk 0 (.loop c122_l11))) (.seq (.seq (.reg c122_r12) (.cond (.t 37) (.seq (.reg c122_r13) (.ret)) (.skip))) (.seq (.reg c122_r14) (.ret)))))
abbrev F122 : FnA := ⟨39, c122, [.t 2]⟩
theorem ok122 : cFn Try.prog 122 = some F122 := by kernel_rfl
theorem hb122 : HasBody Try.prog 122 := ⟨_, Try.func122, by kernel_rfl, by kernel_rfl⟩
/-! foot.Get -/
abbrev c123_r1 : List Ins := [
  ⟨some 2, none, .mov (.c (.sl .full []))⟩]
abbrev c123_r2 : List Ins := [
  ⟨some 3, none, .mov (.c (.sl .full []))⟩]
abbrev c123_r3 : List Ins := [
  ⟨some 6, none, .mov (.t 0)⟩,
  ⟨some 7, none, .call (.c (.fn 68 [] [])) [.t 6, .c (.int .i64 4)]⟩,
  ⟨some 8, none, .mov (.c (.int .i64 0))⟩]
abbrev c123_r4 : List Ins := [
  ⟨some 9, none, .bin .lss (.t 8) (.t 7)⟩]
abbrev c123_r5 : List Ins := [
  ⟨some 10, none, .mov (.t 0)⟩,
  ⟨some 11, none, .call (.c (.fn 150 [] [])) [.t 10]⟩,
  ⟨some 12, none, .mov (.t 0)⟩,
  ⟨some 13, none, .call (.c (.fn 150 [] [])) [.t 12]⟩,
  ⟨some 4, none, .alloc [.int .i64 0, .int .i64 0]⟩,
  ⟨some 5, none, .alloc [.int .i64 0, .int .i64 0]⟩,
  ⟨none, none, .store 2 (.t 4) (.t 11)⟩,
  ⟨none, none, .store 2 (.t 5) (.t 13)⟩]
abbrev c123_r6 : List Ins := [
  ⟨some 14, none, .mov (.t 3)⟩,
  ⟨some 15, none, .load 2 true (.t 4)⟩,
  ⟨some 16, none, .load 2 true (.t 5)⟩,
  ⟨some 17, none, .mov (.t 0)⟩,
  ⟨some 18, none, .call (.c (.fn 70 [] [])) [.t 17]⟩,
  ⟨some 19, none, .build [.int .i64 0, .int .i64 0, .int .i64 0, .int .i64 0, .bool false] [(0, (2, .t 15)), (2, (2, .t 16)), (4, (1, .t 18))]⟩,
  ⟨some 20, none, .bsl 5 1 [.int .i64 0, .int .i64 0, .int .i64 0, .int .i64 0, .bool false] [(0, .t 19)]⟩,
  ⟨some 21, none, .append 5 40 (.t 14) (.t 20)⟩,
  ⟨some 3, none, .mov (.t 21)⟩]
def c123_a6 : List (List Nat) := [[], [], [], [], [3], [1, 2, 4], [5], [0, 6, 4], [7, 7, 0, 1, 2, 3, 4, 5, 6, 7]]
abbrev c123_m6 : List Am.Mark := [⟨false, 0, 1⟩, ⟨false, 0, 2⟩, ⟨false, 0, 2⟩, ⟨false, 0, 0⟩, ⟨true, 0, 1⟩, ⟨false, 1, 2⟩, ⟨false, 1, 1⟩, ⟨true, 1, 2⟩, ⟨false, 2, 2⟩]
theorem c123_d6 : drawFine c123_r6 c123_a6 c123_m6 = true := by decide +kernel
abbrev c123_r7 : List Ins := [
  ⟨some 22, none, .bin .add (.t 8) (.c (.int .i64 1))⟩,
  ⟨some 8, none, .mov (.t 22)⟩]
abbrev c123_l8 : IR := .seq (.reg c123_r4) (.seq (.cond (.t 9) (.skip) (.exit 0)) (.seq (.blk 1 (.seq (.reg c123_r5) (.dreg c123_r6 c123_a6))) (.reg c123_r7)))
abbrev c123_r9 : List Ins := [
  ⟨some 23, none, .mov (.t 0)⟩,
  ⟨some 24, none, .call (.c (.fn 28 [] [])) [.t 23]⟩,
  ⟨some 25, none, .un .not (.t 24)⟩]
abbrev c123_r10 : List Ins := [
  ⟨some 2, none, .mov (.c (.sl .full []))⟩]
abbrev c123_r11 : List Ins := [
  ⟨some 26, none, .mov (.t 3)⟩,
  ⟨some 2, none, .mov (.t 26)⟩]
abbrev c123 : IR := .seq (.reg c123_r1) (.seq (.reg c123_r2) (.seq (.seq (.reg c123_r3) (.blk 0 (.loop c123_l8))) (.seq (.seq (.reg c123_r9) (.cond (.t 25) (.seq (.reg c123_r10) (.ret)) (.skip))) (.seq (.reg c123_r11) (.ret)))))
abbrev F123 : FnA := ⟨27, c123, [.t 2]⟩
theorem ok123 : cFn Try.prog 123 = some F123 := by kernel_rfl
theorem hb123 : HasBody Try.prog 123 := ⟨_, Try.func123, by kernel_rfl, by kernel_rfl⟩
/-! ref09.Reader.key -/
abbrev c124_r1 : List Ins := [
  ⟨some 2, none, .alloc [.int .i64 0, .int .i64 0]⟩]
abbrev c124_r2 : List Ins := [
  ⟨some 5, none, .mov (.t 0)⟩,
  ⟨some 6, none, .call (.c (.fn 86 [] [])) [.t 5, .c (.int .i64 1), .c (.int .i64 0)]⟩,
  ⟨some 7, none, .fld 3 1 false (.t 6)⟩,
  ⟨some 3, none, .mov (.t 7)⟩]
abbrev c124_r3 : List Ins := [
  ⟨some 8, none, .mov (.t 0)⟩,
  ⟨some 9, none, .call (.c (.fn 86 [] [])) [.t 8, .c (.int .i64 0), .c (.int .i64 999)]⟩,
  ⟨some 10, none, .fld 1 1 false (.t 9)⟩,
  ⟨some 4, none, .mov (.t 10)⟩]
abbrev c124_r4 : List Ins := [
  ⟨some 11, none, .mov (.t 3)⟩,
  ⟨some 12, none, .bin .lss (.t 11) (.c (.int .i64 (-1)))⟩,
  ⟨some 13, none, .mov (.t 12)⟩,
  ⟨some 14, some (13, false), .mov (.t 3)⟩,
  ⟨some 15, some (13, false), .bin .gtr (.t 14) (.c (.int .i64 255))⟩,
  ⟨some 16, none, .pick (.t 13) (.c (.bool true)) (.t 15)⟩]
abbrev c124_r5 : List Ins := [
  ⟨some 17, none, .mov (.t 0)⟩,
  ⟨some 18, none, .nilck (.t 17)⟩,
  ⟨some 19, none, .faddr 1 (.t 18)⟩,
  ⟨none, none, .store 1 (.t 19) (.c (.bool true))⟩]
abbrev c124_r6 : List Ins := [
  ⟨some 20, none, .mov (.t 3)⟩,
  ⟨some 21, none, .mov (.t 4)⟩,
  ⟨some 22, none, .build [.int .i64 0, .int .i64 0] [(0, (1, .t 20)), (1, (1, .t 21))]⟩,
  ⟨none, none, .store 2 (.t 2) (.t 22)⟩]
abbrev c124 : IR := .seq (.reg c124_r1) (.seq (.reg c124_r2) (.seq (.reg c124_r3) (.seq (.seq (.reg c124_r4) (.cond (.t 16) (.reg c124_r5) (.skip))) (.seq (.reg c124_r6) (.ret)))))
abbrev F124 : FnA := ⟨23, c124, [.cell 2 2 true]⟩
theorem ok124 : cFn Try.prog 124 = some F124 := by kernel_rfl
theorem hb124 : HasBody Try.prog 124 := ⟨_, Try.func124, by kernel_rfl, by kernel_rfl⟩
/-! ref09.Same -/
abbrev c125_r1 : List Ins := [
  ⟨some 4, none, .mov (.c (.bool false))⟩]
abbrev c125_r2 : List Ins := [
  ⟨some 6, none, .mov (.t 0)⟩,
  ⟨some 7, none, .len (.t 6)⟩,
  ⟨some 8, none, .mov (.t 1)⟩,
  ⟨some 9, none, .len (.t 8)⟩,
  ⟨some 10, none, .bin .neq (.t 7) (.t 9)⟩]
abbrev c125_r3 : List Ins := [
  ⟨some 4, none, .mov (.c (.bool false))⟩]
abbrev c125_r4 : List Ins := [
  ⟨some 5, none, .mov (.c (.int .i64 0))⟩]
abbrev c125_r5 : List Ins := [
  ⟨some 11, none, .mov (.t 5)⟩,
  ⟨some 12, none, .mov (.t 0)⟩,
  ⟨some 13, none, .len (.t 12)⟩,
  ⟨some 14, none, .bin .lss (.t 11) (.t 13)⟩]
abbrev c125_r6 : List Ins := [
  ⟨some 17, none, .mov (.t 0)⟩,
  ⟨some 18, none, .mov (.t 5)⟩,
  ⟨some 19, none, .iaddr 9 (.t 17) (.t 18)⟩,
  ⟨some 20, none, .load 9 true (.t 19)⟩,
  ⟨some 21, none, .mov (.t 1)⟩,
  ⟨some 22, none, .mov (.t 5)⟩,
  ⟨some 23, none, .iaddr 9 (.t 21) (.t 22)⟩,
  ⟨some 24, none, .load 9 true (.t 23)⟩,
  ⟨some 25, none, .eq [.i, .i, .i, .i, .i, .i, .i, .i, .i] true true (.t 20) (.t 24)⟩]
def c125_a6 : List (List Nat) := [[], [], [0, 1], [2], [], [], [4, 5], [6], [3, 7]]
abbrev c125_m6 : List Am.Mark := [⟨false, 0, 0⟩, ⟨false, 0, 0⟩, ⟨false, 0, 0⟩, ⟨false, 0, 0⟩, ⟨false, 0, 0⟩, ⟨false, 0, 0⟩, ⟨false, 0, 0⟩, ⟨false, 0, 0⟩, ⟨false, 0, 0⟩]
theorem c125_d6 : drawFine c125_r6 c125_a6 c125_m6 = true := by decide +kernel
abbrev c125_r7 : List Ins := [
  ⟨some 4, none, .mov (.c (.bool false))⟩]
abbrev c125_r8 : List Ins := [
  ⟨some 15, none, .mov (.t 5)⟩,
  ⟨some 16, none, .bin .add (.t 15) (.c (.int .i64 1))⟩,
  ⟨some 5, none, .mov (.t 16)⟩]
abbrev c125_l9 : IR := .seq (.seq (.reg c125_r5) (.cond (.t 14) (.skip) (.exit 0))) (.seq (.blk 1 (.seq (.dreg c125_r6 c125_a6) (.cond (.t 25) (.seq (.reg c125_r7) (.ret)) (.skip)))) (.reg c125_r8))
abbrev c125_r10 : List Ins := [
  ⟨some 4, none, .mov (.c (.bool true))⟩]
abbrev c125 : IR := .seq (.reg c125_r1) (.seq (.seq (.reg c125_r2) (.cond (.t 10) (.seq (.reg c125_r3) (.ret)) (.skip))) (.seq (.seq (.reg c125_r4) (.blk 0 (.loop c125_l9))) (.seq (.reg c125_r10) (.ret))))
abbrev F125 : FnA := ⟨26, c125, [.t 4]⟩
theorem ok125 : cFn Try.prog 125 = some F125 := by kernel_rfl
theorem hb125 : HasBody Try.prog 125 := ⟨_, Try.func125, by kernel_rfl, by kernel_rfl⟩
/-! ref10.Same -/
abbrev c126_r1 : List Ins := [
  ⟨some 4, none, .mov (.c (.bool false))⟩]
abbrev c126_r2 : List Ins := [
  ⟨some 6, none, .mov (.t 0)⟩,
  ⟨some 7, none, .len (.t 6)⟩,
  ⟨some 8, none, .mov (.t 1)⟩,
  ⟨some 9, none, .len (.t 8)⟩,
  ⟨some 10, none, .bin .neq (.t 7) (.t 9)⟩]
abbrev c126_r3 : List Ins := [
  ⟨some 4, none, .mov (.c (.bool false))⟩]
abbrev c126_r4 : List Ins := [
  ⟨some 5, none, .mov (.c (.int .i64 0))⟩]
abbrev c126_r5 : List Ins := [
  ⟨some 11, none, .mov (.t 5)⟩,
  ⟨some 12, none, .mov (.t 0)⟩,
  ⟨some 13, none, .len (.t 12)⟩,
  ⟨some 14, none, .bin .lss (.t 11) (.t 13)⟩]
abbrev c126_r6 : List Ins := [
  ⟨some 17, none, .mov (.t 0)⟩,
  ⟨some 18, none, .mov (.t 5)⟩,
  ⟨some 19, none, .iaddr 5 (.t 17) (.t 18)⟩,
  ⟨some 20, none, .load 5 true (.t 19)⟩,
  ⟨some 21, none, .mov (.t 1)⟩,
  ⟨some 22, none, .mov (.t 5)⟩,
  ⟨some 23, none, .iaddr 5 (.t 21) (.t 22)⟩,
  ⟨some 24, none, .load 5 true (.t 23)⟩,
  ⟨some 25, none, .eq [.i, .i, .i, .i, .b] true true (.t 20) (.t 24)⟩]
def c126_a6 : List (List Nat) := [[], [], [0, 1], [2], [], [], [4, 5], [6], [3, 7]]
abbrev c126_m6 : List Am.Mark := [⟨false, 0, 0⟩, ⟨false, 0, 0⟩, ⟨false, 0, 0⟩, ⟨false, 0, 0⟩, ⟨false, 0, 0⟩, ⟨false, 0, 0⟩, ⟨false, 0, 0⟩, ⟨false, 0, 0⟩, ⟨false, 0, 0⟩]
theorem c126_d6 : drawFine c126_r6 c126_a6 c126_m6 = true := by decide +kernel
abbrev c126_r7 : List Ins := [
  ⟨some 4, none, .mov (.c (.bool false))⟩]
abbrev c126_r8 : List Ins := [
  ⟨some 15, none, .mov (.t 5)⟩,
  ⟨some 16, none, .bin .add (.t 15) (.c (.int .i64 1))⟩,
  ⟨some 5, none, .mov (.t 16)⟩]
abbrev c126_l9 : IR := .seq (.seq (.reg c126_r5) (.cond (.t 14) (.skip) (.exit 0))) (.seq (.blk 1 (.seq (.dreg c126_r6 c126_a6) (.cond (.t 25) (.seq (.reg c126_r7) (.ret)) (.skip)))) (.reg c126_r8))
abbrev c126_r10 : List Ins := [
  ⟨some 4, none, .mov (.c (.bool true))⟩]
abbrev c126 : IR := .seq (.reg c126_r1) (.seq (.seq (.reg c126_r2) (.cond (.t 10) (.seq (.reg c126_r3) (.ret)) (.skip))) (.seq (.seq (.reg c126_r4) (.blk 0 (.loop c126_l9))) (.seq (.reg c126_r10) (.ret))))
abbrev F126 : FnA := ⟨26, c126, [.t 4]⟩
theorem ok126 : cFn Try.prog 126 = some F126 := by kernel_rfl
theorem hb126 : HasBody Try.prog 126 := ⟨_, Try.func126, by kernel_rfl, by kernel_rfl⟩
/-! ref09.One -/
abbrev c129_r1 : List Ins := [
  ⟨some 2, none, .box (.t 0)⟩,
  ⟨some 4, none, .mov (.c (.bool false))⟩]
abbrev c129_r2 : List Ins := [
  ⟨some 11, none, .faddr 0 (.t 2)⟩,
  ⟨some 12, none, .load 1 false (.t 11)⟩,
  ⟨some 13, none, .bin .lss (.t 12) (.c (.int .i64 1))⟩,
  ⟨some 14, none, .mov (.t 13)⟩,
  ⟨some 15, some (14, false), .faddr 0 (.t 2)⟩,
  ⟨some 16, some (14, false), .load 1 false (.t 15)⟩,
  ⟨some 17, some (14, false), .bin .gtr (.t 16) (.c (.int .i64 8))⟩,
  ⟨some 18, none, .pick (.t 14) (.c (.bool true)) (.t 17)⟩,
  ⟨some 19, none, .mov (.t 18)⟩,
  ⟨some 20, some (19, false), .faddr 1 (.t 2)⟩,
  ⟨some 21, some (19, false), .load 1 false (.t 20)⟩,
  ⟨some 22, some (19, false), .bin .lss (.t 21) (.c (.int .i64 0))⟩,
  ⟨some 23, none, .pick (.t 19) (.c (.bool true)) (.t 22)⟩,
  ⟨some 24, none, .mov (.t 23)⟩,
  ⟨some 25, some (24, false), .faddr 1 (.t 2)⟩,
  ⟨some 26, some (24, false), .load 1 false (.t 25)⟩,
  ⟨some 27, some (24, false), .bin .gtr (.t 26) (.c (.int .i64 3))⟩,
  ⟨some 28, none, .pick (.t 24) (.c (.bool true)) (.t 27)⟩]
abbrev c129_r3 : List Ins := [
  ⟨some 4, none, .mov (.c (.bool false))⟩]
abbrev c129_r4 : List Ins := [
  ⟨some 5, none, .alloc [.int .i64 0, .int .i64 0]⟩]
abbrev c129_r5 : List Ins := [
  ⟨some 29, none, .faddr 0 (.t 2)⟩,
  ⟨some 30, none, .load 1 false (.t 29)⟩,
  ⟨some 31, none, .bin .neq (.t 30) (.c (.int .i64 3))⟩,
  ⟨some 6, none, .mov (.t 31)⟩]
abbrev c129_r6 : List Ins := [
  ⟨some 32, none, .faddr 0 (.t 2)⟩,
  ⟨some 33, none, .load 1 false (.t 32)⟩,
  ⟨some 34, none, .bin .leq (.t 33) (.c (.int .i64 4))⟩,
  ⟨some 7, none, .mov (.t 34)⟩]
abbrev c129_r7 : List Ins := [
  ⟨some 35, none, .faddr 0 (.t 2)⟩,
  ⟨some 36, none, .load 1 false (.t 35)⟩,
  ⟨some 37, none, .bin .eql (.t 36) (.c (.int .i64 4))⟩,
  ⟨some 8, none, .mov (.t 37)⟩]
abbrev c129_r8 : List Ins := [
  ⟨some 38, none, .faddr 0 (.t 2)⟩,
  ⟨some 39, none, .load 1 false (.t 38)⟩,
  ⟨some 40, none, .bin .eql (.t 39) (.c (.int .i64 6))⟩,
  ⟨some 41, none, .mov (.t 40)⟩,
  ⟨some 42, some (41, false), .faddr 0 (.t 2)⟩,
  ⟨some 43, some (41, false), .load 1 false (.t 42)⟩,
  ⟨some 44, some (41, false), .bin .eql (.t 43) (.c (.int .i64 7))⟩,
  ⟨some 45, none, .pick (.t 41) (.c (.bool true)) (.t 44)⟩,
  ⟨some 9, none, .mov (.t 45)⟩]
abbrev c129_r9 : List Ins := [
  ⟨some 46, none, .faddr 0 (.t 2)⟩,
  ⟨some 47, none, .load 1 false (.t 46)⟩,
  ⟨some 48, none, .bin .eql (.t 47) (.c (.int .i64 5))⟩,
  ⟨some 49, none, .mov (.t 48)⟩,
  ⟨some 50, some (49, false), .faddr 0 (.t 2)⟩,
  ⟨some 51, some (49, false), .load 1 false (.t 50)⟩,
  ⟨some 52, some (49, false), .bin .eql (.t 51) (.c (.int .i64 8))⟩,
  ⟨some 53, none, .pick (.t 49) (.c (.bool true)) (.t 52)⟩,
  ⟨some 10, none, .mov (.t 53)⟩]
abbrev c129_r10 : List Ins := [
  ⟨some 54, none, .mov (.t 6)⟩,
  ⟨some 55, none, .un .not (.t 54)⟩,
  ⟨some 56, none, .mov (.t 55)⟩,
  ⟨some 57, some (56, true), .faddr 1 (.t 2)⟩,
  ⟨some 58, some (56, true), .load 1 false (.t 57)⟩,
  ⟨some 59, some (56, true), .bin .neq (.t 58) (.c (.int .i64 0))⟩,
  ⟨some 60, none, .pick (.t 56) (.t 59) (.c (.bool false))⟩,
  ⟨some 61, none, .mov (.t 60)⟩,
  ⟨some 62, some (61, false), .mov (.t 10)⟩,
  ⟨some 63, some (61, false), .un .not (.t 62)⟩,
  ⟨some 64, some (61, false), .mov (.t 63)⟩,
  ⟨some 65, some (64, true), .faddr 8 (.t 2)⟩,
  ⟨some 66, some (64, true), .load 1 false (.t 65)⟩,
  ⟨some 67, some (64, true), .bin .neq (.t 66) (.c (.int .i64 0))⟩,
  ⟨some 68, some (61, false), .pick (.t 64) (.t 67) (.c (.bool false))⟩,
  ⟨some 69, none, .pick (.t 61) (.c (.bool true)) (.t 68)⟩,
  ⟨some 70, none, .mov (.t 69)⟩,
  ⟨some 71, some (70, false), .mov (.t 9)⟩,
  ⟨some 72, some (70, false), .un .not (.t 71)⟩,
  ⟨some 73, some (70, false), .mov (.t 72)⟩,
  ⟨some 74, some (73, true), .faddr 2 (.t 2)⟩,
  ⟨some 75, some (73, true), .load 1 false (.t 74)⟩,
  ⟨some 76, some (73, true), .bin .neq (.t 75) (.c (.int .i64 0))⟩,
  ⟨some 77, some (73, true), .mov (.t 76)⟩,
  ⟨some 78, some (77, false), .faddr 3 (.t 2)⟩,
  ⟨some 79, some (77, false), .load 1 false (.t 78)⟩,
  ⟨some 80, some (77, false), .bin .neq (.t 79) (.c (.int .i64 0))⟩,
  ⟨some 81, some (73, true), .pick (.t 77) (.c (.bool true)) (.t 80)⟩,
  ⟨some 82, some (70, false), .pick (.t 73) (.t 81) (.c (.bool false))⟩,
  ⟨some 83, none, .pick (.t 70) (.c (.bool true)) (.t 82)⟩,
  ⟨some 84, none, .mov (.t 83)⟩,
  ⟨some 85, some (84, false), .mov (.t 7)⟩,
  ⟨some 86, some (84, false), .un .not (.t 85)⟩,
  ⟨some 87, some (84, false), .mov (.t 86)⟩,
  ⟨some 88, some (87, true), .faddr 4 (.t 2)⟩,
  ⟨some 89, some (87, true), .load 2 true (.t 88)⟩,
  ⟨some 90, some (87, true), .load 2 true (.t 5)⟩,
  ⟨some 91, some (87, true), .eq [.i, .i] true true (.t 89) (.t 90)⟩,
  ⟨some 92, some (84, false), .pick (.t 87) (.t 91) (.c (.bool false))⟩,
  ⟨some 93, none, .pick (.t 84) (.c (.bool true)) (.t 92)⟩,
  ⟨some 94, none, .mov (.t 93)⟩,
  ⟨some 95, some (94, false), .mov (.t 8)⟩,
  ⟨some 96, some (94, false), .un .not (.t 95)⟩,
  ⟨some 97, some (94, false), .mov (.t 96)⟩,
  ⟨some 98, some (97, true), .faddr 6 (.t 2)⟩,
  ⟨some 99, some (97, true), .load 2 true (.t 98)⟩,
  ⟨some 100, some (97, true), .load 2 true (.t 5)⟩,
  ⟨some 101, some (97, true), .eq [.i, .i] true true (.t 99) (.t 100)⟩,
  ⟨some 102, some (94, false), .pick (.t 97) (.t 101) (.c (.bool false))⟩,
  ⟨some 103, none, .pick (.t 94) (.c (.bool true)) (.t 102)⟩]
abbrev c129_r11 : List Ins := [
  ⟨some 4, none, .mov (.c (.bool false))⟩]
abbrev c129_r12 : List Ins := [
  ⟨some 104, none, .mov (.t 9)⟩,
  ⟨some 105, none, .mov (.t 104)⟩,
  ⟨some 106, some (105, true), .faddr 2 (.t 2)⟩,
  ⟨some 107, some (105, true), .load 1 false (.t 106)⟩,
  ⟨some 108, some (105, true), .bin .lss (.t 107) (.c (.int .i64 0))⟩,
  ⟨some 109, some (105, true), .mov (.t 108)⟩,
  ⟨some 110, some (109, false), .faddr 2 (.t 2)⟩,
  ⟨some 111, some (109, false), .load 1 false (.t 110)⟩,
  ⟨some 112, some (109, false), .bin .gtr (.t 111) (.c (.int .i64 3))⟩,
  ⟨some 113, some (105, true), .pick (.t 109) (.c (.bool true)) (.t 112)⟩,
  ⟨some 114, some (105, true), .mov (.t 113)⟩,
  ⟨some 115, some (114, false), .faddr 3 (.t 2)⟩,
  ⟨some 116, some (114, false), .load 1 false (.t 115)⟩,
  ⟨some 117, some (114, false), .bin .lss (.t 116) (.c (.int .i64 0))⟩,
  ⟨some 118, some (105, true), .pick (.t 114) (.c (.bool true)) (.t 117)⟩,
  ⟨some 119, some (105, true), .mov (.t 118)⟩,
  ⟨some 120, some (119, false), .faddr 3 (.t 2)⟩,
  ⟨some 121, some (119, false), .load 1 false (.t 120)⟩,
  ⟨some 122, some (119, false), .bin .gtr (.t 121) (.c (.int .i64 3))⟩,
  ⟨some 123, some (105, true), .pick (.t 119) (.c (.bool true)) (.t 122)⟩,
  ⟨some 124, none, .pick (.t 105) (.t 123) (.c (.bool false))⟩]
abbrev c129_r13 : List Ins := [
  ⟨some 4, none, .mov (.c (.bool false))⟩]
abbrev c129_r14 : List Ins := [
  ⟨some 125, none, .mov (.t 7)⟩,
  ⟨some 126, none, .un .not (.t 125)⟩,
  ⟨some 127, none, .mov (.t 126)⟩,
  ⟨some 128, some (127, false), .faddr 4 (.t 2)⟩,
  ⟨some 129, some (127, false), .load 2 true (.t 128)⟩,
  ⟨some 130, some (127, false), .mov (.t 1)⟩,
  ⟨some 131, some (127, false), .call (.c (.fn 130 [] [])) [.t 129, .t 130]⟩,
  ⟨some 132, none, .pick (.t 127) (.c (.bool true)) (.t 131)⟩,
  ⟨some 133, none, .mov (.t 132)⟩,
  ⟨some 134, some (133, true), .mov (.t 8)⟩,
  ⟨some 135, some (133, true), .un .not (.t 134)⟩,
  ⟨some 136, some (133, true), .mov (.t 135)⟩,
  ⟨some 137, some (136, false), .faddr 6 (.t 2)⟩,
  ⟨some 138, some (136, false), .load 2 true (.t 137)⟩,
  ⟨some 139, some (136, false), .mov (.t 1)⟩,
  ⟨some 140, some (136, false), .call (.c (.fn 130 [] [])) [.t 138, .t 139]⟩,
  ⟨some 141, some (133, true), .pick (.t 136) (.c (.bool true)) (.t 140)⟩,
  ⟨some 142, none, .pick (.t 133) (.t 141) (.c (.bool false))⟩,
  ⟨some 4, none, .mov (.t 142)⟩]
abbrev c129 : IR := .seq (.reg c129_r1) (.seq (.seq (.reg c129_r2) (.cond (.t 28) (.seq (.reg c129_r3) (.ret)) (.skip))) (.seq (.reg c129_r4) (.seq (.reg c129_r5) (.seq (.reg c129_r6) (.seq (.reg c129_r7) (.seq (.reg c129_r8) (.seq (.reg c129_r9) (.seq (.seq (.reg c129_r10) (.cond (.t 103) (.seq (.reg c129_r11) (.ret)) (.skip))) (.seq (.seq (.reg c129_r12) (.cond (.t 124) (.seq (.reg c129_r13) (.ret)) (.skip))) (.seq (.reg c129_r14) (.ret)))))))))))
abbrev F129 : FnA := ⟨143, c129, [.t 4]⟩
theorem ok129 : cFn Try.prog 129 = some F129 := by kernel_rfl
theorem hb129 : HasBody Try.prog 129 := ⟨_, Try.func129, by kernel_rfl, by kernel_rfl⟩
/-! ref09.MayKey -/
abbrev c130_r1 : List Ins := [
  ⟨some 2, none, .box (.t 0)⟩,
  ⟨some 4, none, .mov (.c (.bool false))⟩]
abbrev c130_r2 : List Ins := [
  ⟨some 5, none, .faddr 0 (.t 2)⟩,
  ⟨some 6, none, .load 1 false (.t 5)⟩,
  ⟨some 7, none, .bin .geq (.t 6) (.c (.int .i64 (-1)))⟩,
  ⟨some 8, none, .mov (.t 7)⟩,
  ⟨some 9, some (8, true), .faddr 0 (.t 2)⟩,
  ⟨some 10, some (8, true), .load 1 false (.t 9)⟩,
  ⟨some 11, some (8, true), .mov (.t 1)⟩,
  ⟨some 12, some (8, true), .bin .lss (.t 10) (.t 11)⟩,
  ⟨some 13, none, .pick (.t 8) (.t 12) (.c (.bool false))⟩,
  ⟨some 14, none, .mov (.t 13)⟩,
  ⟨some 15, some (14, true), .faddr 1 (.t 2)⟩,
  ⟨some 16, some (14, true), .load 1 false (.t 15)⟩,
  ⟨some 17, some (14, true), .bin .geq (.t 16) (.c (.int .i64 0))⟩,
  ⟨some 18, none, .pick (.t 14) (.t 17) (.c (.bool false))⟩,
  ⟨some 19, none, .mov (.t 18)⟩,
  ⟨some 20, some (19, true), .faddr 1 (.t 2)⟩,
  ⟨some 21, some (19, true), .load 1 false (.t 20)⟩,
  ⟨some 22, some (19, true), .bin .leq (.t 21) (.c (.int .i64 900))⟩,
  ⟨some 23, none, .pick (.t 19) (.t 22) (.c (.bool false))⟩,
  ⟨some 4, none, .mov (.t 23)⟩]
abbrev c130 : IR := .seq (.reg c130_r1) (.seq (.reg c130_r2) (.ret))
abbrev F130 : FnA := ⟨24, c130, [.t 4]⟩
theorem ok130 : cFn Try.prog 130 = some F130 := by kernel_rfl
theorem hb130 : HasBody Try.prog 130 := ⟨_, Try.func130, by kernel_rfl, by kernel_rfl⟩
/-! class.each$1 -/
abbrev c131_r1 : List Ins := [
  ⟨some 4, none, .faddr 2 (.t 1)⟩,
  ⟨some 5, none, .load 1 false (.t 4)⟩,
  ⟨some 6, none, .len (.t 5)⟩,
  ⟨some 7, none, .faddr 3 (.t 1)⟩,
  ⟨some 8, none, .load 1 false (.t 7)⟩,
  ⟨some 9, none, .len (.t 8)⟩,
  ⟨some 10, none, .mn [.t 6, .t 9]⟩,
  ⟨some 11, none, .mov (.c (.int .i64 0))⟩]
abbrev c131_r2 : List Ins := [
  ⟨some 12, none, .bin .lss (.t 11) (.t 10)⟩]
abbrev c131_r3 : List Ins := [
  ⟨some 13, none, .mov (.t 11)⟩,
  ⟨some 3, none, .mov (.t 13)⟩]
abbrev c131_r4 : List Ins := [
  ⟨some 14, none, .mov (.t 0)⟩,
  ⟨some 15, none, .faddr 2 (.t 1)⟩,
  ⟨some 16, none, .load 1 false (.t 15)⟩,
  ⟨some 17, none, .mov (.t 3)⟩,
  ⟨some 18, none, .iaddr 2 (.t 16) (.t 17)⟩,
  ⟨some 19, none, .load 2 true (.t 18)⟩,
  ⟨some 20, none, .faddr 3 (.t 1)⟩,
  ⟨some 21, none, .load 1 false (.t 20)⟩,
  ⟨some 22, none, .mov (.t 3)⟩,
  ⟨some 23, none, .iaddr 2 (.t 21) (.t 22)⟩,
  ⟨some 24, none, .load 2 true (.t 23)⟩,
  ⟨some 25, none, .call (.t 14) [.t 19, .t 24]⟩,
  ⟨some 26, none, .un .not (.t 25)⟩]
def c131_a4 : List (List Nat) := [[], [], [1], [], [2, 3], [4], [], [6], [], [7, 8], [9], [0, 5, 10], [11]]
abbrev c131_m4 : List Am.Mark := [⟨false, 0, 0⟩, ⟨false, 0, 1⟩, ⟨false, 0, 1⟩, ⟨false, 0, 1⟩, ⟨false, 0, 1⟩, ⟨false, 0, 0⟩, ⟨false, 0, 1⟩, ⟨false, 0, 1⟩, ⟨false, 0, 1⟩, ⟨false, 0, 1⟩, ⟨false, 0, 0⟩, ⟨true, 0, 1⟩, ⟨false, 1, 1⟩]
theorem c131_d4 : drawFine c131_r4 c131_a4 c131_m4 = true := by decide +kernel
abbrev c131_r5 : List Ins := [
  ⟨some 27, none, .bin .add (.t 11) (.c (.int .i64 1))⟩,
  ⟨some 11, none, .mov (.t 27)⟩]
abbrev c131_l6 : IR := .seq (.reg c131_r2) (.seq (.cond (.t 12) (.skip) (.exit 0)) (.seq (.blk 1 (.seq (.reg c131_r3) (.seq (.dreg c131_r4 c131_a4) (.cond (.t 26) (.ret) (.skip))))) (.reg c131_r5)))
abbrev c131 : IR := .seq (.reg c131_r1) (.blk 0 (.loop c131_l6))
abbrev F131 : FnA := ⟨28, c131, []⟩
theorem ok131 : cFn Try.prog 131 = some F131 := by kernel_rfl
theorem hb131 : HasBody Try.prog 131 := ⟨_, Try.func131, by kernel_rfl, by kernel_rfl⟩
/-! prog.Put -/
abbrev c132_r1 : List Ins := [
  ⟨some 8, none, .mov (.t 0)⟩,
  ⟨some 9, none, .mov (.t 1)⟩,
  ⟨some 10, none, .len (.t 9)⟩,
  ⟨some 11, none, .call (.c (.fn 56 [] [])) [.t 8, .t 10]⟩]
abbrev c132_r2 : List Ins := [
  ⟨some 12, none, .mov (.t 1)⟩,
  ⟨some 13, none, .len (.t 12)⟩,
  ⟨some 14, none, .mov (.c (.int .i64 0))⟩]
abbrev c132_r3 : List Ins := [
  ⟨some 15, none, .bin .lss (.t 14) (.t 13)⟩]
abbrev c132_r4 : List Ins := [
  ⟨some 16, none, .iaddr 9 (.t 12) (.t 14)⟩,
  ⟨some 17, none, .load 9 true (.t 16)⟩,
  ⟨some 5, none, .alloc [.int .i64 0, .int .i64 0, .int .i64 0, .int .i64 0, .int .i64 0, .int .i64 0, .int .i64 0, .int .i64 0, .int .i64 0]⟩,
  ⟨none, none, .store 9 (.t 5) (.t 17)⟩]
abbrev c132_r5 : List Ins := [
  ⟨some 18, none, .mov (.t 0)⟩,
  ⟨some 19, none, .faddr 0 (.t 5)⟩,
  ⟨some 20, none, .load 1 false (.t 19)⟩,
  ⟨some 21, none, .faddr 1 (.t 5)⟩,
  ⟨some 22, none, .load 1 false (.t 21)⟩,
  ⟨some 23, none, .faddr 2 (.t 5)⟩,
  ⟨some 24, none, .load 1 false (.t 23)⟩,
  ⟨some 25, none, .faddr 3 (.t 5)⟩,
  ⟨some 26, none, .load 1 false (.t 25)⟩,
  ⟨some 27, none, .bsl 1 4 [.int .i64 0] [(0, .t 20), (1, .t 22), (2, .t 24), (3, .t 26)]⟩,
  ⟨some 28, none, .call (.c (.fn 151 [] [])) [.t 18, .t 27]⟩]
abbrev c132_r6 : List Ins := [
  ⟨some 29, none, .faddr 4 (.t 5)⟩,
  ⟨some 30, none, .load 2 true (.t 29)⟩,
  ⟨some 31, none, .faddr 6 (.t 5)⟩,
  ⟨some 32, none, .load 2 true (.t 31)⟩,
  ⟨some 33, none, .bsl 2 2 [.int .i64 0, .int .i64 0] [(0, .t 30), (1, .t 32)]⟩,
  ⟨some 34, none, .len (.t 33)⟩,
  ⟨some 35, none, .mov (.c (.int .i64 0))⟩]
abbrev c132_r7 : List Ins := [
  ⟨some 36, none, .bin .lss (.t 35) (.t 34)⟩]
abbrev c132_r8 : List Ins := [
  ⟨some 37, none, .iaddr 2 (.t 33) (.t 35)⟩,
  ⟨some 38, none, .load 2 true (.t 37)⟩,
  ⟨some 7, none, .alloc [.int .i64 0, .int .i64 0]⟩,
  ⟨none, none, .store 2 (.t 7) (.t 38)⟩]
abbrev c132_r9 : List Ins := [
  ⟨some 39, none, .mov (.t 0)⟩,
  ⟨some 40, none, .faddr 0 (.t 7)⟩,
  ⟨some 41, none, .load 1 false (.t 40)⟩,
  ⟨some 42, none, .call (.c (.fn 54 [] [])) [.t 39, .t 41]⟩]
abbrev c132_r10 : List Ins := [
  ⟨some 43, none, .mov (.t 0)⟩,
  ⟨some 44, none, .faddr 1 (.t 7)⟩,
  ⟨some 45, none, .load 1 false (.t 44)⟩,
  ⟨some 46, none, .call (.c (.fn 56 [] [])) [.t 43, .t 45]⟩]
abbrev c132_r11 : List Ins := [
  ⟨some 47, none, .bin .add (.t 35) (.c (.int .i64 1))⟩,
  ⟨some 35, none, .mov (.t 47)⟩]
abbrev c132_l12 : IR := .seq (.reg c132_r7) (.seq (.cond (.t 36) (.skip) (.exit 2)) (.seq (.blk 3 (.seq (.reg c132_r8) (.seq (.reg c132_r9) (.reg c132_r10)))) (.reg c132_r11)))
abbrev c132_r13 : List Ins := [
  ⟨some 48, none, .mov (.t 0)⟩,
  ⟨some 49, none, .faddr 8 (.t 5)⟩,
  ⟨some 50, none, .load 1 false (.t 49)⟩,
  ⟨some 51, none, .call (.c (.fn 54 [] [])) [.t 48, .t 50]⟩]
abbrev c132_r14 : List Ins := [
  ⟨some 52, none, .bin .add (.t 14) (.c (.int .i64 1))⟩,
  ⟨some 14, none, .mov (.t 52)⟩]
abbrev c132_l15 : IR := .seq (.reg c132_r3) (.seq (.cond (.t 15) (.skip) (.exit 0)) (.seq (.blk 1 (.seq (.reg c132_r4) (.seq (.reg c132_r5) (.seq (.seq (.reg c132_r6) (.blk 2 (.loop c132_l12))) (.reg c132_r13))))) (.reg c132_r14)))
abbrev c132 : IR := .seq (.reg c132_r1) (.seq (.reg c132_r2) (.blk 0 (.loop c132_l15)))
abbrev F132 : FnA := ⟨53, c132, []⟩
theorem ok132 : cFn Try.prog 132 = some F132 := by kernel_rfl
theorem hb132 : HasBody Try.prog 132 := ⟨_, Try.func132, by kernel_rfl, by kernel_rfl⟩
/-! foot.Put -/
abbrev c133_r1 : List Ins := [
  ⟨some 6, none, .mov (.t 0)⟩,
  ⟨some 7, none, .mov (.t 1)⟩,
  ⟨some 8, none, .len (.t 7)⟩,
  ⟨some 9, none, .call (.c (.fn 56 [] [])) [.t 6, .t 8]⟩]
abbrev c133_r2 : List Ins := [
  ⟨some 10, none, .mov (.t 1)⟩,
  ⟨some 11, none, .len (.t 10)⟩,
  ⟨some 12, none, .mov (.c (.int .i64 0))⟩]
abbrev c133_r3 : List Ins := [
  ⟨some 13, none, .bin .lss (.t 12) (.t 11)⟩]
abbrev c133_r4 : List Ins := [
  ⟨some 14, none, .iaddr 5 (.t 10) (.t 12)⟩,
  ⟨some 15, none, .load 5 true (.t 14)⟩,
  ⟨some 5, none, .alloc [.int .i64 0, .int .i64 0, .int .i64 0, .int .i64 0, .bool false]⟩,
  ⟨none, none, .store 5 (.t 5) (.t 15)⟩]
abbrev c133_r5 : List Ins := [
  ⟨some 16, none, .mov (.t 0)⟩,
  ⟨some 17, none, .faddr 0 (.t 5)⟩,
  ⟨some 18, none, .load 2 true (.t 17)⟩,
  ⟨some 19, none, .faddr 2 (.t 5)⟩,
  ⟨some 20, none, .load 2 true (.t 19)⟩,
  ⟨some 21, none, .bsl 2 2 [.int .i64 0, .int .i64 0] [(0, .t 18), (1, .t 20)]⟩,
  ⟨some 22, none, .call (.c (.fn 152 [] [])) [.t 16, .t 21]⟩]
abbrev c133_r6 : List Ins := [
  ⟨some 23, none, .mov (.t 0)⟩,
  ⟨some 24, none, .faddr 4 (.t 5)⟩,
  ⟨some 25, none, .load 1 false (.t 24)⟩,
  ⟨some 26, none, .call (.c (.fn 57 [] [])) [.t 23, .t 25]⟩]
abbrev c133_r7 : List Ins := [
  ⟨some 27, none, .bin .add (.t 12) (.c (.int .i64 1))⟩,
  ⟨some 12, none, .mov (.t 27)⟩]
abbrev c133_l8 : IR := .seq (.reg c133_r3) (.seq (.cond (.t 13) (.skip) (.exit 0)) (.seq (.blk 1 (.seq (.reg c133_r4) (.seq (.reg c133_r5) (.reg c133_r6)))) (.reg c133_r7)))
abbrev c133 : IR := .seq (.reg c133_r1) (.seq (.reg c133_r2) (.blk 0 (.loop c133_l8)))
abbrev F133 : FnA := ⟨28, c133, []⟩
theorem ok133 : cFn Try.prog 133 = some F133 := by kernel_rfl
theorem hb133 : HasBody Try.prog 133 := ⟨_, Try.func133, by kernel_rfl, by kernel_rfl⟩
/-! ref09.keyItems -/
abbrev c134_r1 : List Ins := [
  ⟨some 1, none, .box (.t 0)⟩,
  ⟨some 2, none, .mov (.c (.sl .full []))⟩]
abbrev c134_r2 : List Ins := [
  ⟨some 3, none, .faddr 0 (.t 1)⟩,
  ⟨some 4, none, .load 1 false (.t 3)⟩,
  ⟨some 5, none, .build [.int .i64 0, .int .i64 0, .int .i64 0, .int .i64 0, .str ⟨#[]⟩, .sl .full []] [(0, (1, .c (.int .i64 1))), (3, (1, .t 4))]⟩,
  ⟨some 6, none, .faddr 1 (.t 1)⟩,
  ⟨some 7, none, .load 1 false (.t 6)⟩,
  ⟨some 8, none, .build [.int .i64 0, .int .i64 0, .int .i64 0, .int .i64 0, .str ⟨#[]⟩, .sl .full []] [(1, (1, .t 7)), (2, (1, .c (.int .i64 999)))]⟩,
  ⟨some 9, none, .bsl 6 2 [.int .i64 0, .int .i64 0, .int .i64 0, .int .i64 0, .str ⟨#[]⟩, .sl .full []] [(0, .t 5), (1, .t 8)]⟩,
  ⟨some 2, none, .mov (.t 9)⟩]
abbrev c134 : IR := .seq (.reg c134_r1) (.seq (.reg c134_r2) (.ret))
abbrev F134 : FnA := ⟨10, c134, [.t 2]⟩
theorem ok134 : cFn Try.prog 134 = some F134 := by kernel_rfl
theorem hb134 : HasBody Try.prog 134 := ⟨_, Try.func134, by kernel_rfl, by kernel_rfl⟩
/-! slices.Equal:Instr -/
abbrev c135_r1 : List Ins := [
  ⟨some 4, none, .mov (.c (.bool false))⟩]
abbrev c135_r2 : List Ins := [
  ⟨some 6, none, .mov (.t 0)⟩,
  ⟨some 7, none, .len (.t 6)⟩,
  ⟨some 8, none, .mov (.t 1)⟩,
  ⟨some 9, none, .len (.t 8)⟩,
  ⟨some 10, none, .bin .neq (.t 7) (.t 9)⟩]
abbrev c135_r3 : List Ins := [
  ⟨some 4, none, .mov (.c (.bool false))⟩]
abbrev c135_r4 : List Ins := [
  ⟨some 11, none, .mov (.t 0)⟩,
  ⟨some 12, none, .len (.t 11)⟩,
  ⟨some 13, none, .mov (.c (.int .i64 0))⟩]
abbrev c135_r5 : List Ins := [
  ⟨some 14, none, .bin .lss (.t 13) (.t 12)⟩]
abbrev c135_r6 : List Ins := [
  ⟨some 15, none, .mov (.t 13)⟩,
  ⟨some 5, none, .mov (.t 15)⟩]
abbrev c135_r7 : List Ins := [
  ⟨some 16, none, .mov (.t 0)⟩,
  ⟨some 17, none, .mov (.t 5)⟩,
  ⟨some 18, none, .iaddr 9 (.t 16) (.t 17)⟩,
  ⟨some 19, none, .load 9 true (.t 18)⟩,
  ⟨some 20, none, .mov (.t 1)⟩,
  ⟨some 21, none, .mov (.t 5)⟩,
  ⟨some 22, none, .iaddr 9 (.t 20) (.t 21)⟩,
  ⟨some 23, none, .load 9 true (.t 22)⟩,
  ⟨some 24, none, .eq [.i, .i, .i, .i, .i, .i, .i, .i, .i] true true (.t 19) (.t 23)⟩]
def c135_a7 : List (List Nat) := [[], [], [0, 1], [2], [], [], [4, 5], [6], [3, 7]]
abbrev c135_m7 : List Am.Mark := [⟨false, 0, 0⟩, ⟨false, 0, 0⟩, ⟨false, 0, 0⟩, ⟨false, 0, 0⟩, ⟨false, 0, 0⟩, ⟨false, 0, 0⟩, ⟨false, 0, 0⟩, ⟨false, 0, 0⟩, ⟨false, 0, 0⟩]
theorem c135_d7 : drawFine c135_r7 c135_a7 c135_m7 = true := by decide +kernel
abbrev c135_r8 : List Ins := [
  ⟨some 4, none, .mov (.c (.bool false))⟩]
abbrev c135_r9 : List Ins := [
  ⟨some 25, none, .bin .add (.t 13) (.c (.int .i64 1))⟩,
  ⟨some 13, none, .mov (.t 25)⟩]
abbrev c135_l10 : IR := .seq (.reg c135_r5) (.seq (.cond (.t 14) (.skip) (.exit 0)) (.seq (.blk 1 (.seq (.reg c135_r6) (.seq (.dreg c135_r7 c135_a7) (.cond (.t 24) (.seq (.reg c135_r8) (.ret)) (.skip))))) (.reg c135_r9)))
abbrev c135_r11 : List Ins := [
  ⟨some 4, none, .mov (.c (.bool true))⟩]
abbrev c135 : IR := .seq (.reg c135_r1) (.seq (.seq (.reg c135_r2) (.cond (.t 10) (.seq (.reg c135_r3) (.ret)) (.skip))) (.seq (.seq (.reg c135_r4) (.blk 0 (.loop c135_l10))) (.seq (.reg c135_r11) (.ret))))
abbrev F135 : FnA := ⟨26, c135, [.t 4]⟩
theorem ok135 : cFn Try.prog 135 = some F135 := by kernel_rfl
theorem hb135 : HasBody Try.prog 135 := ⟨_, Try.func135, by kernel_rfl, by kernel_rfl⟩
/-! slices.Equal:SpanT -/
abbrev c136_r1 : List Ins := [
  ⟨some 4, none, .mov (.c (.bool false))⟩]
abbrev c136_r2 : List Ins := [
  ⟨some 6, none, .mov (.t 0)⟩,
  ⟨some 7, none, .len (.t 6)⟩,
  ⟨some 8, none, .mov (.t 1)⟩,
  ⟨some 9, none, .len (.t 8)⟩,
  ⟨some 10, none, .bin .neq (.t 7) (.t 9)⟩]
abbrev c136_r3 : List Ins := [
  ⟨some 4, none, .mov (.c (.bool false))⟩]
abbrev c136_r4 : List Ins := [
  ⟨some 11, none, .mov (.t 0)⟩,
  ⟨some 12, none, .len (.t 11)⟩,
  ⟨some 13, none, .mov (.c (.int .i64 0))⟩]
abbrev c136_r5 : List Ins := [
  ⟨some 14, none, .bin .lss (.t 13) (.t 12)⟩]
abbrev c136_r6 : List Ins := [
  ⟨some 15, none, .mov (.t 13)⟩,
  ⟨some 5, none, .mov (.t 15)⟩]
abbrev c136_r7 : List Ins := [
  ⟨some 16, none, .mov (.t 0)⟩,
  ⟨some 17, none, .mov (.t 5)⟩,
  ⟨some 18, none, .iaddr 5 (.t 16) (.t 17)⟩,
  ⟨some 19, none, .load 5 true (.t 18)⟩,
  ⟨some 20, none, .mov (.t 1)⟩,
  ⟨some 21, none, .mov (.t 5)⟩,
  ⟨some 22, none, .iaddr 5 (.t 20) (.t 21)⟩,
  ⟨some 23, none, .load 5 true (.t 22)⟩,
  ⟨some 24, none, .eq [.i, .i, .i, .i, .b] true true (.t 19) (.t 23)⟩]
def c136_a7 : List (List Nat) := [[], [], [0, 1], [2], [], [], [4, 5], [6], [3, 7]]
abbrev c136_m7 : List Am.Mark := [⟨false, 0, 0⟩, ⟨false, 0, 0⟩, ⟨false, 0, 0⟩, ⟨false, 0, 0⟩, ⟨false, 0, 0⟩, ⟨false, 0, 0⟩, ⟨false, 0, 0⟩, ⟨false, 0, 0⟩, ⟨false, 0, 0⟩]
theorem c136_d7 : drawFine c136_r7 c136_a7 c136_m7 = true := by decide +kernel
abbrev c136_r8 : List Ins := [
  ⟨some 4, none, .mov (.c (.bool false))⟩]
abbrev c136_r9 : List Ins := [
  ⟨some 25, none, .bin .add (.t 13) (.c (.int .i64 1))⟩,
  ⟨some 13, none, .mov (.t 25)⟩]
abbrev c136_l10 : IR := .seq (.reg c136_r5) (.seq (.cond (.t 14) (.skip) (.exit 0)) (.seq (.blk 1 (.seq (.reg c136_r6) (.seq (.dreg c136_r7 c136_a7) (.cond (.t 24) (.seq (.reg c136_r8) (.ret)) (.skip))))) (.reg c136_r9)))
abbrev c136_r11 : List Ins := [
  ⟨some 4, none, .mov (.c (.bool true))⟩]
abbrev c136 : IR := .seq (.reg c136_r1) (.seq (.seq (.reg c136_r2) (.cond (.t 10) (.seq (.reg c136_r3) (.ret)) (.skip))) (.seq (.seq (.reg c136_r4) (.blk 0 (.loop c136_l10))) (.seq (.reg c136_r11) (.ret))))
abbrev F136 : FnA := ⟨26, c136, [.t 4]⟩
theorem ok136 : cFn Try.prog 136 = some F136 := by kernel_rfl
theorem hb136 : HasBody Try.prog 136 := ⟨_, Try.func136, by kernel_rfl, by kernel_rfl⟩

end Go.Proofs
