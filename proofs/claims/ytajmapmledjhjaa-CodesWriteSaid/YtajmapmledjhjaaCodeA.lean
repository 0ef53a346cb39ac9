/- The code of the functions that the statements about codes reach, as the abstract machine reads it. -/
import Derived.Test.YtajmapmledjhjaaAmV
import Derived.Test.YtajmapmledjhjaaProg
namespace Go.Proofs
open Go Go.RowKit Go.Am

/-! "gimmal/gimmallaw01.CodesWrite" -/
abbrev c3_r1 : List Ins := [
  ⟨some 2, none, .mov (.c (.bool false))⟩]
abbrev c3_r2 : List Ins := [
  ⟨some 6, none, .call (.c (.fn 14 [] [])) []⟩,
  ⟨some 7, none, .un .not (.t 6)⟩]
abbrev c3_r3 : List Ins := [
  ⟨some 2, none, .mov (.c (.bool false))⟩]
abbrev c3_r4 : List Ins := [
  ⟨some 8, none, .mov (.t 0)⟩,
  ⟨some 9, none, .call (.c (.fn 15 [] [])) [.t 8]⟩]
abbrev c3_r5 : List Ins := [
  ⟨some 2, none, .mov (.c (.bool true))⟩]
abbrev c3_r6 : List Ins := [
  ⟨some 3, none, .alloc [.sl .full []]⟩]
abbrev c3_r7 : List Ins := [
  ⟨some 4, none, .mov (.c (.sl .full []))⟩]
abbrev c3_r8 : List Ins := [
  ⟨some 5, none, .mov (.c (.int .i64 0))⟩]
abbrev c3_r9 : List Ins := [
  ⟨some 10, none, .mov (.t 5)⟩,
  ⟨some 11, none, .mov (.t 0)⟩,
  ⟨some 12, none, .len (.t 11)⟩,
  ⟨some 13, none, .bin .lss (.t 10) (.t 12)⟩]
abbrev c3_r10 : List Ins := [
  ⟨some 16, none, .mov (.t 0)⟩,
  ⟨some 17, none, .mov (.t 5)⟩,
  ⟨some 18, none, .iaddr 6 (.t 16) (.t 17)⟩,
  ⟨some 19, none, .load 6 true (.t 18)⟩,
  ⟨some 20, none, .call (.c (.fn 16 [] [])) [.t 3, .t 19]⟩]
abbrev c3_r11 : List Ins := [
  ⟨some 21, none, .mov (.t 4)⟩,
  ⟨some 22, none, .mov (.t 0)⟩,
  ⟨some 23, none, .mov (.t 5)⟩,
  ⟨some 24, none, .iaddr 6 (.t 22) (.t 23)⟩,
  ⟨some 25, none, .load 6 true (.t 24)⟩,
  ⟨some 26, none, .call (.c (.fn 17 [] [])) [.t 21, .t 25]⟩,
  ⟨some 4, none, .mov (.t 26)⟩]
abbrev c3_r12 : List Ins := [
  ⟨some 14, none, .mov (.t 5)⟩,
  ⟨some 15, none, .bin .add (.t 14) (.c (.int .i64 1))⟩,
  ⟨some 5, none, .mov (.t 15)⟩]
abbrev c3_l13 : IR := .seq (.seq (.reg c3_r9) (.cond (.t 13) (.skip) (.exit 0))) (.seq (.blk 1 (.seq (.reg c3_r10) (.reg c3_r11))) (.reg c3_r12))
abbrev c3_r14 : List Ins := [
  ⟨some 27, none, .call (.c (.fn 19 [] [])) [.t 3]⟩,
  ⟨some 28, none, .mov (.t 4)⟩,
  ⟨some 29, none, .call (.c (.fn 18 [] [])) [.t 27, .t 28]⟩,
  ⟨some 2, none, .mov (.t 29)⟩]
abbrev c3 : IR := .seq (.reg c3_r1) (.seq (.seq (.reg c3_r2) (.cond (.t 7) (.seq (.reg c3_r3) (.ret)) (.skip))) (.seq (.seq (.reg c3_r4) (.cond (.t 9) (.seq (.reg c3_r5) (.ret)) (.skip))) (.seq (.reg c3_r6) (.seq (.reg c3_r7) (.seq (.seq (.reg c3_r8) (.blk 0 (.loop c3_l13))) (.seq (.reg c3_r14) (.ret)))))))
abbrev F3 : FnA := ⟨30, c3, [.t 2]⟩
theorem ok3 : cFn Try.prog 3 = some F3 := by kernel_rfl
theorem hb3 : HasBody Try.prog 3 := ⟨_, Try.func3, by kernel_rfl, by kernel_rfl⟩

/-! "gimmal/gimmallaw01.alive" -/
abbrev c14_r1 : List Ins := [
  ⟨some 0, none, .mov (.c (.bool false))⟩]
abbrev c14_r2 : List Ins := [
  ⟨some 1, none, .alloc [.sl .full []]⟩]
abbrev c14_r3 : List Ins := [
  ⟨some 2, none, .call (.c (.fn 54 [] [])) [.t 1, .c (.int .i64 (-1))]⟩]
abbrev c14_r4 : List Ins := [
  ⟨some 3, none, .call (.c (.fn 54 [] [])) [.t 1, .c (.int .i64 1)]⟩]
abbrev c14_r5 : List Ins := [
  ⟨some 4, none, .call (.c (.fn 55 [] [])) [.t 1, .c (.str ⟨#[97, 98]⟩)]⟩]
abbrev c14_r6 : List Ins := [
  ⟨some 5, none, .call (.c (.fn 19 [] [])) [.t 1]⟩,
  ⟨some 6, none, .bsl 1 4 [.int .u64 0] [(0, .c (.int .u64 1)), (1, .c (.int .u64 2)), (2, .c (.int .u64 2)), (3, .c (.int .u64 25185))]⟩,
  ⟨some 7, none, .call (.c (.fn 18 [] [])) [.t 5, .t 6]⟩,
  ⟨some 0, none, .mov (.t 7)⟩]
abbrev c14 : IR := .seq (.reg c14_r1) (.seq (.reg c14_r2) (.seq (.reg c14_r3) (.seq (.reg c14_r4) (.seq (.reg c14_r5) (.seq (.reg c14_r6) (.ret))))))
abbrev F14 : FnA := ⟨8, c14, [.t 0]⟩
theorem ok14 : cFn Try.prog 14 = some F14 := by kernel_rfl
theorem hb14 : HasBody Try.prog 14 := ⟨_, Try.func14, by kernel_rfl, by kernel_rfl⟩

/-! "gimmal/gimmallaw01.great" -/
abbrev c15_r1 : List Ins := [
  ⟨some 2, none, .mov (.c (.bool false))⟩]
abbrev c15_r2 : List Ins := [
  ⟨some 3, none, .mov (.c (.int .i64 0))⟩]
abbrev c15_r3 : List Ins := [
  ⟨some 4, none, .mov (.t 3)⟩,
  ⟨some 5, none, .mov (.t 0)⟩,
  ⟨some 6, none, .len (.t 5)⟩,
  ⟨some 7, none, .bin .lss (.t 4) (.t 6)⟩]
abbrev c15_r4 : List Ins := [
  ⟨some 10, none, .mov (.t 0)⟩,
  ⟨some 11, none, .mov (.t 3)⟩,
  ⟨some 12, none, .iaddr 6 (.t 10) (.t 11)⟩,
  ⟨some 13, none, .faddr 5 (.t 12)⟩,
  ⟨some 14, none, .load 1 false (.t 13)⟩,
  ⟨some 15, none, .len (.t 14)⟩,
  ⟨some 16, none, .bin .gtr (.t 15) (.c (.int .i64 100))⟩,
  ⟨some 17, none, .mov (.t 16)⟩,
  ⟨some 18, some (17, false), .mov (.t 0)⟩,
  ⟨some 19, some (17, false), .mov (.t 3)⟩,
  ⟨some 20, some (17, false), .iaddr 6 (.t 18) (.t 19)⟩,
  ⟨some 21, some (17, false), .faddr 4 (.t 20)⟩,
  ⟨some 22, some (17, false), .load 1 false (.t 21)⟩,
  ⟨some 23, some (17, false), .lenS (.t 22)⟩,
  ⟨some 24, some (17, false), .bin .gtr (.t 23) (.c (.int .i64 200))⟩,
  ⟨some 25, none, .pick (.t 17) (.c (.bool true)) (.t 24)⟩,
  ⟨some 26, none, .mov (.t 25)⟩,
  ⟨some 27, some (26, false), .mov (.t 0)⟩,
  ⟨some 28, some (26, false), .mov (.t 3)⟩,
  ⟨some 29, some (26, false), .iaddr 6 (.t 27) (.t 28)⟩,
  ⟨some 30, some (26, false), .faddr 0 (.t 29)⟩,
  ⟨some 31, some (26, false), .load 1 false (.t 30)⟩,
  ⟨some 32, some (26, false), .bin .lss (.t 31) (.c (.int .i64 0))⟩,
  ⟨some 33, none, .pick (.t 26) (.c (.bool true)) (.t 32)⟩,
  ⟨some 34, none, .mov (.t 33)⟩,
  ⟨some 35, some (34, false), .mov (.t 0)⟩,
  ⟨some 36, some (34, false), .mov (.t 3)⟩,
  ⟨some 37, some (34, false), .iaddr 6 (.t 35) (.t 36)⟩,
  ⟨some 38, some (34, false), .faddr 0 (.t 37)⟩,
  ⟨some 39, some (34, false), .load 1 false (.t 38)⟩,
  ⟨some 40, some (34, false), .bin .gtr (.t 39) (.c (.int .i64 4))⟩,
  ⟨some 41, none, .pick (.t 34) (.c (.bool true)) (.t 40)⟩]
abbrev c15_r5 : List Ins := [
  ⟨some 2, none, .mov (.c (.bool true))⟩]
abbrev c15_r6 : List Ins := [
  ⟨some 8, none, .mov (.t 3)⟩,
  ⟨some 9, none, .bin .add (.t 8) (.c (.int .i64 1))⟩,
  ⟨some 3, none, .mov (.t 9)⟩]
abbrev c15_l7 : IR := .seq (.seq (.reg c15_r3) (.cond (.t 7) (.skip) (.exit 0))) (.seq (.blk 1 (.seq (.reg c15_r4) (.cond (.t 41) (.seq (.reg c15_r5) (.ret)) (.skip)))) (.reg c15_r6))
abbrev c15_r8 : List Ins := [
  ⟨some 42, none, .mov (.t 0)⟩,
  ⟨some 43, none, .len (.t 42)⟩,
  ⟨some 44, none, .bin .gtr (.t 43) (.c (.int .i64 60))⟩,
  ⟨some 2, none, .mov (.t 44)⟩]
abbrev c15 : IR := .seq (.reg c15_r1) (.seq (.seq (.reg c15_r2) (.blk 0 (.loop c15_l7))) (.seq (.reg c15_r8) (.ret)))
abbrev F15 : FnA := ⟨45, c15, [.t 2]⟩
theorem ok15 : cFn Try.prog 15 = some F15 := by kernel_rfl
theorem hb15 : HasBody Try.prog 15 := ⟨_, Try.func15, by kernel_rfl, by kernel_rfl⟩

/-! "gimmal/gimmallaw01.write" -/
abbrev c16_r1 : List Ins := [
  ⟨some 3, none, .box (.t 1)⟩]
abbrev c16_r2 : List Ins := [
  ⟨some 4, none, .faddr 0 (.t 3)⟩,
  ⟨some 5, none, .load 1 false (.t 4)⟩]
abbrev c16_r3 : List Ins := [
  ⟨some 11, none, .bin .eql (.t 5) (.c (.int .i64 0))⟩,
  ⟨some 10, none, .mov (.t 11)⟩]
abbrev c16_r4 : List Ins := [
  ⟨some 12, none, .mov (.t 0)⟩,
  ⟨some 13, none, .faddr 1 (.t 3)⟩,
  ⟨some 14, none, .load 1 false (.t 13)⟩,
  ⟨some 15, none, .call (.c (.fn 56 [] [])) [.t 12, .t 14]⟩]
abbrev c16_r5 : List Ins := [
  ⟨some 17, none, .bin .eql (.t 5) (.c (.int .i64 1))⟩,
  ⟨some 16, none, .mov (.t 17)⟩]
abbrev c16_r6 : List Ins := [
  ⟨some 18, none, .mov (.t 0)⟩,
  ⟨some 19, none, .faddr 3 (.t 3)⟩,
  ⟨some 20, none, .load 1 false (.t 19)⟩,
  ⟨some 21, none, .call (.c (.fn 54 [] [])) [.t 18, .t 20]⟩]
abbrev c16_r7 : List Ins := [
  ⟨some 23, none, .bin .eql (.t 5) (.c (.int .i64 2))⟩,
  ⟨some 22, none, .mov (.t 23)⟩]
abbrev c16_r8 : List Ins := [
  ⟨some 24, none, .mov (.t 0)⟩,
  ⟨some 25, none, .faddr 1 (.t 3)⟩,
  ⟨some 26, none, .load 1 false (.t 25)⟩,
  ⟨some 27, none, .bin .eql (.t 26) (.c (.int .i64 1))⟩,
  ⟨some 28, none, .call (.c (.fn 57 [] [])) [.t 24, .t 27]⟩]
abbrev c16_r9 : List Ins := [
  ⟨some 30, none, .bin .eql (.t 5) (.c (.int .i64 3))⟩,
  ⟨some 29, none, .mov (.t 30)⟩]
abbrev c16_r10 : List Ins := [
  ⟨some 31, none, .mov (.t 0)⟩,
  ⟨some 32, none, .faddr 4 (.t 3)⟩,
  ⟨some 33, none, .load 1 false (.t 32)⟩,
  ⟨some 34, none, .call (.c (.fn 55 [] [])) [.t 31, .t 33]⟩]
abbrev c16_r11 : List Ins := [
  ⟨some 6, none, .mov (.t 0)⟩,
  ⟨some 7, none, .faddr 5 (.t 3)⟩,
  ⟨some 8, none, .load 1 false (.t 7)⟩,
  ⟨some 9, none, .call (.c (.fn 58 [] [])) [.t 6, .t 8]⟩]
abbrev c16 : IR := .seq (.reg c16_r1) (.seq (.reg c16_r2) (.blk 0 (.seq (.reg c16_r3) (.cond (.t 10) (.reg c16_r4) (.seq (.reg c16_r5) (.cond (.t 16) (.reg c16_r6) (.seq (.reg c16_r7) (.cond (.t 22) (.reg c16_r8) (.seq (.reg c16_r9) (.cond (.t 29) (.reg c16_r10) (.reg c16_r11)))))))))))
abbrev F16 : FnA := ⟨35, c16, []⟩
theorem ok16 : cFn Try.prog 16 = some F16 := by kernel_rfl
theorem hb16 : HasBody Try.prog 16 := ⟨_, Try.func16, by kernel_rfl, by kernel_rfl⟩

/-! "gimmal/gimmalref01.Write" -/
abbrev c17_r1 : List Ins := [
  ⟨some 3, none, .box (.t 1)⟩,
  ⟨some 4, none, .mov (.c (.sl .full []))⟩]
abbrev c17_r2 : List Ins := [
  ⟨some 6, none, .faddr 0 (.t 3)⟩,
  ⟨some 7, none, .load 1 false (.t 6)⟩]
abbrev c17_r3 : List Ins := [
  ⟨some 9, none, .bin .eql (.t 7) (.c (.int .i64 0))⟩,
  ⟨some 8, none, .mov (.t 9)⟩]
abbrev c17_r4 : List Ins := [
  ⟨some 10, none, .faddr 1 (.t 3)⟩,
  ⟨some 11, none, .load 1 false (.t 10)⟩,
  ⟨some 12, none, .bin .lss (.t 11) (.c (.int .i64 0))⟩]
abbrev c17_r5 : List Ins := [
  ⟨some 13, none, .mov (.t 0)⟩,
  ⟨some 14, none, .bsl 1 1 [.int .u64 0] [(0, .c (.int .u64 0))]⟩,
  ⟨some 15, none, .append 1 8 (.t 13) (.t 14)⟩,
  ⟨some 4, none, .mov (.t 15)⟩]
abbrev c17_r6 : List Ins := [
  ⟨some 16, none, .mov (.t 0)⟩,
  ⟨some 17, none, .faddr 1 (.t 3)⟩,
  ⟨some 18, none, .load 1 false (.t 17)⟩,
  ⟨some 19, none, .conv .u64 (.t 18)⟩,
  ⟨some 20, none, .bsl 1 1 [.int .u64 0] [(0, .t 19)]⟩,
  ⟨some 21, none, .append 1 8 (.t 16) (.t 20)⟩,
  ⟨some 4, none, .mov (.t 21)⟩]
abbrev c17_r7 : List Ins := [
  ⟨some 23, none, .bin .eql (.t 7) (.c (.int .i64 1))⟩,
  ⟨some 22, none, .mov (.t 23)⟩]
abbrev c17_r8 : List Ins := [
  ⟨some 24, none, .mov (.t 0)⟩,
  ⟨some 25, none, .faddr 3 (.t 3)⟩,
  ⟨some 26, none, .load 1 false (.t 25)⟩,
  ⟨some 27, none, .call (.c (.fn 59 [] [])) [.t 26]⟩,
  ⟨some 28, none, .bsl 1 1 [.int .u64 0] [(0, .t 27)]⟩,
  ⟨some 29, none, .append 1 8 (.t 24) (.t 28)⟩,
  ⟨some 4, none, .mov (.t 29)⟩]
abbrev c17_r9 : List Ins := [
  ⟨some 31, none, .bin .eql (.t 7) (.c (.int .i64 2))⟩,
  ⟨some 30, none, .mov (.t 31)⟩]
abbrev c17_r10 : List Ins := [
  ⟨some 32, none, .faddr 1 (.t 3)⟩,
  ⟨some 33, none, .load 1 false (.t 32)⟩,
  ⟨some 34, none, .bin .eql (.t 33) (.c (.int .i64 1))⟩]
abbrev c17_r11 : List Ins := [
  ⟨some 35, none, .mov (.t 0)⟩,
  ⟨some 36, none, .bsl 1 1 [.int .u64 0] [(0, .c (.int .u64 1))]⟩,
  ⟨some 37, none, .append 1 8 (.t 35) (.t 36)⟩,
  ⟨some 4, none, .mov (.t 37)⟩]
abbrev c17_r12 : List Ins := [
  ⟨some 38, none, .mov (.t 0)⟩,
  ⟨some 39, none, .bsl 1 1 [.int .u64 0] [(0, .c (.int .u64 0))]⟩,
  ⟨some 40, none, .append 1 8 (.t 38) (.t 39)⟩,
  ⟨some 4, none, .mov (.t 40)⟩]
abbrev c17_r13 : List Ins := [
  ⟨some 42, none, .bin .eql (.t 7) (.c (.int .i64 3))⟩,
  ⟨some 41, none, .mov (.t 42)⟩]
abbrev c17_r14 : List Ins := [
  ⟨some 43, none, .faddr 4 (.t 3)⟩,
  ⟨some 44, none, .load 1 false (.t 43)⟩,
  ⟨some 5, none, .mov (.t 44)⟩]
abbrev c17_r15 : List Ins := [
  ⟨some 45, none, .mov (.t 5)⟩,
  ⟨some 46, none, .lenS (.t 45)⟩,
  ⟨some 47, none, .bin .gtr (.t 46) (.c (.int .i64 64))⟩]
abbrev c17_r16 : List Ins := [
  ⟨some 48, none, .mov (.t 5)⟩,
  ⟨some 49, none, .sliceS (.t 48) none (some (.c (.int .i64 64)))⟩,
  ⟨some 5, none, .mov (.t 49)⟩]
abbrev c17_r17 : List Ins := [
  ⟨some 50, none, .mov (.t 0)⟩,
  ⟨some 51, none, .mov (.t 5)⟩,
  ⟨some 52, none, .lenS (.t 51)⟩,
  ⟨some 53, none, .conv .u64 (.t 52)⟩,
  ⟨some 54, none, .bsl 1 1 [.int .u64 0] [(0, .t 53)]⟩,
  ⟨some 55, none, .append 1 8 (.t 50) (.t 54)⟩,
  ⟨some 56, none, .mov (.t 5)⟩,
  ⟨some 57, none, .call (.c (.fn 60 [] [])) [.t 56]⟩,
  ⟨some 58, none, .append 1 8 (.t 55) (.t 57)⟩,
  ⟨some 4, none, .mov (.t 58)⟩]
abbrev c17_r18 : List Ins := [
  ⟨some 59, none, .mov (.t 0)⟩,
  ⟨some 60, none, .faddr 5 (.t 3)⟩,
  ⟨some 61, none, .load 1 false (.t 60)⟩,
  ⟨some 62, none, .len (.t 61)⟩,
  ⟨some 63, none, .conv .u64 (.t 62)⟩,
  ⟨some 64, none, .bsl 1 1 [.int .u64 0] [(0, .t 63)]⟩,
  ⟨some 65, none, .append 1 8 (.t 59) (.t 64)⟩,
  ⟨some 66, none, .faddr 5 (.t 3)⟩,
  ⟨some 67, none, .load 1 false (.t 66)⟩,
  ⟨some 68, none, .append 1 8 (.t 65) (.t 67)⟩,
  ⟨some 4, none, .mov (.t 68)⟩]
def c17_a18 : List (List Nat) := [[], [], [1], [2], [3], [4], [0, 5], [], [7], [6, 8, 6], [9, 9, 0, 1, 2, 3, 4, 5, 6, 7, 8, 9]]
abbrev c17_m18 : List Am.Mark := [⟨false, 0, 0⟩, ⟨false, 0, 2⟩, ⟨false, 0, 2⟩, ⟨false, 0, 2⟩, ⟨false, 0, 2⟩, ⟨false, 0, 0⟩, ⟨true, 0, 1⟩, ⟨false, 0, 2⟩, ⟨false, 0, 1⟩, ⟨true, 1, 2⟩, ⟨false, 2, 2⟩]
theorem c17_d18 : drawFine c17_r18 c17_a18 c17_m18 = true := by decide +kernel
abbrev c17 : IR := .seq (.reg c17_r1) (.seq (.seq (.reg c17_r2) (.blk 0 (.seq (.reg c17_r3) (.cond (.t 8) (.seq (.seq (.reg c17_r4) (.cond (.t 12) (.seq (.reg c17_r5) (.ret)) (.skip))) (.seq (.reg c17_r6) (.ret))) (.seq (.reg c17_r7) (.cond (.t 22) (.seq (.reg c17_r8) (.ret)) (.seq (.reg c17_r9) (.cond (.t 30) (.seq (.seq (.reg c17_r10) (.cond (.t 34) (.seq (.reg c17_r11) (.ret)) (.skip))) (.seq (.reg c17_r12) (.ret))) (.seq (.reg c17_r13) (.cond (.t 41) (.seq (.reg c17_r14) (.seq (.seq (.reg c17_r15) (.cond (.t 47) (.reg c17_r16) (.skip))) (.seq (.reg c17_r17) (.ret)))) (.skip))))))))))) (.seq (.dreg c17_r18 c17_a18) (.ret)))
abbrev F17 : FnA := ⟨69, c17, [.t 4]⟩
theorem ok17 : cFn Try.prog 17 = some F17 := by kernel_rfl
theorem hb17 : HasBody Try.prog 17 := ⟨_, Try.func17, by kernel_rfl, by kernel_rfl⟩

/-! "gimmal/gimmalref01.Words" -/
abbrev c18_r1 : List Ins := [
  ⟨some 4, none, .mov (.c (.bool false))⟩]
abbrev c18_r2 : List Ins := [
  ⟨some 6, none, .mov (.t 0)⟩,
  ⟨some 7, none, .len (.t 6)⟩,
  ⟨some 8, none, .mov (.t 1)⟩,
  ⟨some 9, none, .len (.t 8)⟩,
  ⟨some 10, none, .bin .neq (.t 7) (.t 9)⟩]
abbrev c18_r3 : List Ins := [
  ⟨some 4, none, .mov (.c (.bool false))⟩]
abbrev c18_r4 : List Ins := [
  ⟨some 5, none, .mov (.c (.int .i64 0))⟩]
abbrev c18_r5 : List Ins := [
  ⟨some 11, none, .mov (.t 5)⟩,
  ⟨some 12, none, .mov (.t 0)⟩,
  ⟨some 13, none, .len (.t 12)⟩,
  ⟨some 14, none, .bin .lss (.t 11) (.t 13)⟩]
abbrev c18_r6 : List Ins := [
  ⟨some 17, none, .mov (.t 0)⟩,
  ⟨some 18, none, .mov (.t 5)⟩,
  ⟨some 19, none, .iaddr 1 (.t 17) (.t 18)⟩,
  ⟨some 20, none, .load 1 false (.t 19)⟩,
  ⟨some 21, none, .mov (.t 1)⟩,
  ⟨some 22, none, .mov (.t 5)⟩,
  ⟨some 23, none, .iaddr 1 (.t 21) (.t 22)⟩,
  ⟨some 24, none, .load 1 false (.t 23)⟩,
  ⟨some 25, none, .bin .neq (.t 20) (.t 24)⟩]
def c18_a6 : List (List Nat) := [[], [], [0, 1], [2], [], [], [4, 5], [6], [3, 7]]
abbrev c18_m6 : List Am.Mark := [⟨false, 0, 0⟩, ⟨false, 0, 0⟩, ⟨false, 0, 0⟩, ⟨false, 0, 0⟩, ⟨false, 0, 0⟩, ⟨false, 0, 0⟩, ⟨false, 0, 0⟩, ⟨false, 0, 0⟩, ⟨false, 0, 0⟩]
theorem c18_d6 : drawFine c18_r6 c18_a6 c18_m6 = true := by decide +kernel
abbrev c18_r7 : List Ins := [
  ⟨some 4, none, .mov (.c (.bool false))⟩]
abbrev c18_r8 : List Ins := [
  ⟨some 15, none, .mov (.t 5)⟩,
  ⟨some 16, none, .bin .add (.t 15) (.c (.int .i64 1))⟩,
  ⟨some 5, none, .mov (.t 16)⟩]
abbrev c18_l9 : IR := .seq (.seq (.reg c18_r5) (.cond (.t 14) (.skip) (.exit 0))) (.seq (.blk 1 (.seq (.dreg c18_r6 c18_a6) (.cond (.t 25) (.seq (.reg c18_r7) (.ret)) (.skip)))) (.reg c18_r8))
abbrev c18_r10 : List Ins := [
  ⟨some 4, none, .mov (.c (.bool true))⟩]
abbrev c18 : IR := .seq (.reg c18_r1) (.seq (.seq (.reg c18_r2) (.cond (.t 10) (.seq (.reg c18_r3) (.ret)) (.skip))) (.seq (.seq (.reg c18_r4) (.blk 0 (.loop c18_l9))) (.seq (.reg c18_r10) (.ret))))
abbrev F18 : FnA := ⟨26, c18, [.t 4]⟩
theorem ok18 : cFn Try.prog 18 = some F18 := by kernel_rfl
theorem hb18 : HasBody Try.prog 18 := ⟨_, Try.func18, by kernel_rfl, by kernel_rfl⟩

/-! "(*gimmal/codes.Writer).Done" -/
abbrev c19_r1 : List Ins := [
  ⟨some 2, none, .mov (.c (.sl .full []))⟩]
abbrev c19_r2 : List Ins := [
  ⟨some 3, none, .mov (.t 0)⟩,
  ⟨some 4, none, .nilck (.t 3)⟩,
  ⟨some 5, none, .faddr 0 (.t 4)⟩,
  ⟨some 6, none, .load 1 false (.t 5)⟩,
  ⟨some 7, none, .call (.c (.fn 61 [] [])) [.t 6]⟩,
  ⟨some 2, none, .mov (.t 7)⟩]
abbrev c19 : IR := .seq (.reg c19_r1) (.seq (.reg c19_r2) (.ret))
abbrev F19 : FnA := ⟨8, c19, [.t 2]⟩
theorem ok19 : cFn Try.prog 19 = some F19 := by kernel_rfl
theorem hb19 : HasBody Try.prog 19 := ⟨_, Try.func19, by kernel_rfl, by kernel_rfl⟩

/-! "(*gimmal/codes.Writer).Signed" -/
abbrev c54_r1 : List Ins := [
  ⟨some 4, none, .mov (.t 0)⟩,
  ⟨some 5, none, .mov (.t 1)⟩,
  ⟨some 6, none, .bin .shl (.t 5) (.c (.int .u64 1))⟩,
  ⟨some 7, none, .conv .u64 (.t 6)⟩,
  ⟨some 8, none, .mov (.t 1)⟩,
  ⟨some 9, none, .bin .shr (.t 8) (.c (.int .u64 63))⟩,
  ⟨some 10, none, .conv .u64 (.t 9)⟩,
  ⟨some 11, none, .bin .xor (.t 7) (.t 10)⟩,
  ⟨some 12, none, .bsl 1 1 [.int .u64 0] [(0, .t 11)]⟩,
  ⟨some 13, none, .call (.c (.fn 101 [] [])) [.t 4, .t 12]⟩]
abbrev c54 : IR := .reg c54_r1
abbrev F54 : FnA := ⟨14, c54, []⟩
theorem ok54 : cFn Try.prog 54 = some F54 := by kernel_rfl
theorem hb54 : HasBody Try.prog 54 := ⟨_, Try.func54, by kernel_rfl, by kernel_rfl⟩

/-! "(*gimmal/codes.Writer).Text" -/
abbrev c55_r1 : List Ins := [
  ⟨some 4, none, .mov (.t 1)⟩,
  ⟨some 5, none, .mov (.t 1)⟩,
  ⟨some 6, none, .lenS (.t 5)⟩,
  ⟨some 7, none, .mn [.t 6, .c (.int .i64 64)]⟩,
  ⟨some 8, none, .sliceS (.t 4) none (some (.t 7))⟩,
  ⟨some 1, none, .mov (.t 8)⟩]
abbrev c55_r2 : List Ins := [
  ⟨some 9, none, .mov (.t 0)⟩,
  ⟨some 10, none, .mov (.t 1)⟩,
  ⟨some 11, none, .lenS (.t 10)⟩,
  ⟨some 12, none, .call (.c (.fn 56 [] [])) [.t 9, .t 11]⟩]
abbrev c55_r3 : List Ins := [
  ⟨some 13, none, .mov (.t 0)⟩,
  ⟨some 14, none, .mov (.t 1)⟩,
  ⟨some 15, none, .call (.c (.fn 102 [] [])) [.t 14]⟩,
  ⟨some 16, none, .call (.c (.fn 101 [] [])) [.t 13, .t 15]⟩]
abbrev c55 : IR := .seq (.reg c55_r1) (.seq (.reg c55_r2) (.reg c55_r3))
abbrev F55 : FnA := ⟨17, c55, []⟩
theorem ok55 : cFn Try.prog 55 = some F55 := by kernel_rfl
theorem hb55 : HasBody Try.prog 55 := ⟨_, Try.func55, by kernel_rfl, by kernel_rfl⟩

/-! "(*gimmal/codes.Writer).Count" -/
abbrev c56_r1 : List Ins := [
  ⟨some 4, none, .mov (.t 0)⟩,
  ⟨some 5, none, .mov (.t 1)⟩,
  ⟨some 6, none, .mx [.t 5, .c (.int .i64 0)]⟩,
  ⟨some 7, none, .conv .u64 (.t 6)⟩,
  ⟨some 8, none, .bsl 1 1 [.int .u64 0] [(0, .t 7)]⟩,
  ⟨some 9, none, .call (.c (.fn 101 [] [])) [.t 4, .t 8]⟩]
abbrev c56 : IR := .reg c56_r1
abbrev F56 : FnA := ⟨10, c56, []⟩
theorem ok56 : cFn Try.prog 56 = some F56 := by kernel_rfl
theorem hb56 : HasBody Try.prog 56 := ⟨_, Try.func56, by kernel_rfl, by kernel_rfl⟩

/-! "(*gimmal/codes.Writer).Flag" -/
abbrev c57_r1 : List Ins := [
  ⟨some 4, none, .mov (.t 1)⟩]
abbrev c57_r2 : List Ins := [
  ⟨some 5, none, .mov (.t 0)⟩,
  ⟨some 6, none, .bsl 1 1 [.int .u64 0] [(0, .c (.int .u64 1))]⟩,
  ⟨some 7, none, .call (.c (.fn 101 [] [])) [.t 5, .t 6]⟩]
abbrev c57_r3 : List Ins := [
  ⟨some 8, none, .mov (.t 0)⟩,
  ⟨some 9, none, .bsl 1 1 [.int .u64 0] [(0, .c (.int .u64 0))]⟩,
  ⟨some 10, none, .call (.c (.fn 101 [] [])) [.t 8, .t 9]⟩]
abbrev c57 : IR := .seq (.seq (.reg c57_r1) (.cond (.t 4) (.seq (.reg c57_r2) (.ret)) (.skip))) (.reg c57_r3)
abbrev F57 : FnA := ⟨11, c57, []⟩
theorem ok57 : cFn Try.prog 57 = some F57 := by kernel_rfl
theorem hb57 : HasBody Try.prog 57 := ⟨_, Try.func57, by kernel_rfl, by kernel_rfl⟩

/-! "(*gimmal/codes.Writer).Words" -/
abbrev c58_r1 : List Ins := [
  ⟨some 4, none, .mov (.t 0)⟩,
  ⟨some 5, none, .mov (.t 1)⟩,
  ⟨some 6, none, .len (.t 5)⟩,
  ⟨some 7, none, .call (.c (.fn 56 [] [])) [.t 4, .t 6]⟩]
abbrev c58_r2 : List Ins := [
  ⟨some 8, none, .mov (.t 0)⟩,
  ⟨some 9, none, .mov (.t 1)⟩,
  ⟨some 10, none, .call (.c (.fn 101 [] [])) [.t 8, .t 9]⟩]
abbrev c58 : IR := .seq (.reg c58_r1) (.reg c58_r2)
abbrev F58 : FnA := ⟨11, c58, []⟩
theorem ok58 : cFn Try.prog 58 = some F58 := by kernel_rfl
theorem hb58 : HasBody Try.prog 58 := ⟨_, Try.func58, by kernel_rfl, by kernel_rfl⟩

/-! "gimmal/gimmalref01.Signed" -/
abbrev c59_r1 : List Ins := [
  ⟨some 2, none, .mov (.c (.int .u64 0))⟩]
abbrev c59_r2 : List Ins := [
  ⟨some 3, none, .mov (.t 0)⟩,
  ⟨some 4, none, .bin .geq (.t 3) (.c (.int .i64 0))⟩]
abbrev c59_r3 : List Ins := [
  ⟨some 5, none, .mov (.t 0)⟩,
  ⟨some 6, none, .conv .u64 (.t 5)⟩,
  ⟨some 7, none, .bin .mul (.c (.int .u64 2)) (.t 6)⟩,
  ⟨some 2, none, .mov (.t 7)⟩]
abbrev c59_r4 : List Ins := [
  ⟨some 8, none, .mov (.t 0)⟩,
  ⟨some 9, none, .bin .add (.t 8) (.c (.int .i64 1))⟩,
  ⟨some 10, none, .un .neg (.t 9)⟩,
  ⟨some 11, none, .conv .u64 (.t 10)⟩,
  ⟨some 12, none, .bin .mul (.c (.int .u64 2)) (.t 11)⟩,
  ⟨some 13, none, .bin .add (.t 12) (.c (.int .u64 1))⟩,
  ⟨some 2, none, .mov (.t 13)⟩]
abbrev c59 : IR := .seq (.reg c59_r1) (.seq (.seq (.reg c59_r2) (.cond (.t 4) (.seq (.reg c59_r3) (.ret)) (.skip))) (.seq (.reg c59_r4) (.ret)))
abbrev F59 : FnA := ⟨14, c59, [.t 2]⟩
theorem ok59 : cFn Try.prog 59 = some F59 := by kernel_rfl
theorem hb59 : HasBody Try.prog 59 := ⟨_, Try.func59, by kernel_rfl, by kernel_rfl⟩

/-! "gimmal/gimmalref01.Packed" -/
abbrev c60_r1 : List Ins := [
  ⟨some 2, none, .mov (.c (.sl .full []))⟩]
abbrev c60_r2 : List Ins := [
  ⟨some 3, none, .mov (.c (.sl .full []))⟩]
abbrev c60_r3 : List Ins := [
  ⟨some 4, none, .mov (.c (.int .i64 0))⟩]
abbrev c60_r4 : List Ins := [
  ⟨some 7, none, .mov (.t 4)⟩,
  ⟨some 8, none, .mov (.t 0)⟩,
  ⟨some 9, none, .lenS (.t 8)⟩,
  ⟨some 10, none, .bin .lss (.t 7) (.t 9)⟩]
abbrev c60_r5 : List Ins := [
  ⟨some 5, none, .mov (.c (.int .u64 0))⟩]
abbrev c60_r6 : List Ins := [
  ⟨some 6, none, .mov (.c (.int .i64 7))⟩]
abbrev c60_r7 : List Ins := [
  ⟨some 13, none, .mov (.t 6)⟩,
  ⟨some 14, none, .bin .geq (.t 13) (.c (.int .i64 0))⟩]
abbrev c60_r8 : List Ins := [
  ⟨some 17, none, .mov (.t 5)⟩,
  ⟨some 18, none, .bin .mul (.t 17) (.c (.int .u64 256))⟩,
  ⟨some 5, none, .mov (.t 18)⟩]
abbrev c60_r9 : List Ins := [
  ⟨some 19, none, .mov (.t 4)⟩,
  ⟨some 20, none, .mov (.t 6)⟩,
  ⟨some 21, none, .bin .add (.t 19) (.t 20)⟩,
  ⟨some 22, none, .mov (.t 0)⟩,
  ⟨some 23, none, .lenS (.t 22)⟩,
  ⟨some 24, none, .bin .lss (.t 21) (.t 23)⟩]
abbrev c60_r10 : List Ins := [
  ⟨some 25, none, .mov (.t 5)⟩,
  ⟨some 26, none, .mov (.t 0)⟩,
  ⟨some 27, none, .mov (.t 4)⟩,
  ⟨some 28, none, .mov (.t 6)⟩,
  ⟨some 29, none, .bin .add (.t 27) (.t 28)⟩,
  ⟨some 30, none, .idxS (.t 26) (.t 29)⟩,
  ⟨some 31, none, .conv .u64 (.t 30)⟩,
  ⟨some 32, none, .bin .add (.t 25) (.t 31)⟩,
  ⟨some 5, none, .mov (.t 32)⟩]
abbrev c60_r11 : List Ins := [
  ⟨some 15, none, .mov (.t 6)⟩,
  ⟨some 16, none, .bin .sub (.t 15) (.c (.int .i64 1))⟩,
  ⟨some 6, none, .mov (.t 16)⟩]
abbrev c60_l12 : IR := .seq (.seq (.reg c60_r7) (.cond (.t 14) (.skip) (.exit 2))) (.seq (.blk 3 (.seq (.reg c60_r8) (.seq (.reg c60_r9) (.cond (.t 24) (.reg c60_r10) (.skip))))) (.reg c60_r11))
abbrev c60_r13 : List Ins := [
  ⟨some 33, none, .mov (.t 3)⟩,
  ⟨some 34, none, .mov (.t 5)⟩,
  ⟨some 35, none, .bsl 1 1 [.int .u64 0] [(0, .t 34)]⟩,
  ⟨some 36, none, .append 1 8 (.t 33) (.t 35)⟩,
  ⟨some 3, none, .mov (.t 36)⟩]
abbrev c60_r14 : List Ins := [
  ⟨some 11, none, .mov (.t 4)⟩,
  ⟨some 12, none, .bin .add (.t 11) (.c (.int .i64 8))⟩,
  ⟨some 4, none, .mov (.t 12)⟩]
abbrev c60_l15 : IR := .seq (.seq (.reg c60_r4) (.cond (.t 10) (.skip) (.exit 0))) (.seq (.blk 1 (.seq (.reg c60_r5) (.seq (.seq (.reg c60_r6) (.blk 2 (.loop c60_l12))) (.reg c60_r13)))) (.reg c60_r14))
abbrev c60_r16 : List Ins := [
  ⟨some 37, none, .mov (.t 3)⟩,
  ⟨some 2, none, .mov (.t 37)⟩]
abbrev c60 : IR := .seq (.reg c60_r1) (.seq (.reg c60_r2) (.seq (.seq (.reg c60_r3) (.blk 0 (.loop c60_l15))) (.seq (.reg c60_r16) (.ret))))
abbrev F60 : FnA := ⟨38, c60, [.t 2]⟩
theorem ok60 : cFn Try.prog 60 = some F60 := by kernel_rfl
theorem hb60 : HasBody Try.prog 60 := ⟨_, Try.func60, by kernel_rfl, by kernel_rfl⟩

/-! "slices.Clone[[]uint64,uint64]" -/
abbrev c61_r1 : List Ins := [
  ⟨some 2, none, .mov (.c (.sl .full []))⟩]
abbrev c61_r2 : List Ins := [
  ⟨some 3, none, .mov (.t 0)⟩,
  ⟨some 4, none, .isnil false (.t 3)⟩]
abbrev c61_r3 : List Ins := [
  ⟨some 2, none, .mov (.c (.sl .full []))⟩]
abbrev c61_r4 : List Ins := [
  ⟨some 5, none, .bsl 1 0 [.int .u64 0] []⟩,
  ⟨some 6, none, .mov (.t 0)⟩,
  ⟨some 7, none, .append 1 8 (.t 5) (.t 6)⟩,
  ⟨some 2, none, .mov (.t 7)⟩]
abbrev c61 : IR := .seq (.reg c61_r1) (.seq (.seq (.reg c61_r2) (.cond (.t 4) (.seq (.reg c61_r3) (.ret)) (.skip))) (.seq (.reg c61_r4) (.ret)))
abbrev F61 : FnA := ⟨8, c61, [.t 2]⟩
theorem ok61 : cFn Try.prog 61 = some F61 := by kernel_rfl
theorem hb61 : HasBody Try.prog 61 := ⟨_, Try.func61, by kernel_rfl, by kernel_rfl⟩

/-! "(*gimmal/codes.Writer).put" -/
abbrev c101_r1 : List Ins := [
  ⟨some 4, none, .mov (.t 0)⟩,
  ⟨some 5, none, .mov (.t 0)⟩,
  ⟨some 6, none, .nilck (.t 5)⟩,
  ⟨some 7, none, .faddr 0 (.t 6)⟩,
  ⟨some 8, none, .load 1 false (.t 7)⟩,
  ⟨some 9, none, .mov (.t 1)⟩,
  ⟨some 10, none, .append 1 8 (.t 8) (.t 9)⟩,
  ⟨some 11, none, .nilck (.t 4)⟩,
  ⟨some 12, none, .faddr 0 (.t 11)⟩,
  ⟨none, none, .store 1 (.t 12) (.t 10)⟩]
abbrev c101 : IR := .reg c101_r1
abbrev F101 : FnA := ⟨13, c101, []⟩
theorem ok101 : cFn Try.prog 101 = some F101 := by kernel_rfl
theorem hb101 : HasBody Try.prog 101 := ⟨_, Try.func101, by kernel_rfl, by kernel_rfl⟩

/-! "gimmal/codes.packed" -/
abbrev c102_r1 : List Ins := [
  ⟨some 2, none, .mov (.c (.sl .full []))⟩]
abbrev c102_r2 : List Ins := [
  ⟨some 5, none, .mov (.t 0)⟩,
  ⟨some 6, none, .lenS (.t 5)⟩,
  ⟨some 7, none, .bin .add (.t 6) (.c (.int .i64 8))⟩,
  ⟨some 8, none, .bin .sub (.t 7) (.c (.int .i64 1))⟩,
  ⟨some 9, none, .bin .quo (.t 8) (.c (.int .i64 8))⟩,
  ⟨some 10, none, .mksl 1 8 [.int .u64 0] (.t 9) (.t 9)⟩,
  ⟨some 3, none, .mov (.t 10)⟩]
abbrev c102_r3 : List Ins := [
  ⟨some 11, none, .mov (.t 0)⟩,
  ⟨some 12, none, .lenS (.t 11)⟩,
  ⟨some 13, none, .mov (.c (.int .i64 0))⟩]
abbrev c102_r4 : List Ins := [
  ⟨some 14, none, .bin .lss (.t 13) (.t 12)⟩]
abbrev c102_r5 : List Ins := [
  ⟨some 15, none, .mov (.t 13)⟩,
  ⟨some 4, none, .mov (.t 15)⟩]
abbrev c102_r6 : List Ins := [
  ⟨some 16, none, .mov (.t 3)⟩,
  ⟨some 17, none, .mov (.t 4)⟩,
  ⟨some 18, none, .bin .quo (.t 17) (.c (.int .i64 8))⟩,
  ⟨some 19, none, .iaddr 1 (.t 16) (.t 18)⟩,
  ⟨some 20, none, .load 1 false (.t 19)⟩,
  ⟨some 21, none, .mov (.t 0)⟩,
  ⟨some 22, none, .mov (.t 4)⟩,
  ⟨some 23, none, .idxS (.t 21) (.t 22)⟩,
  ⟨some 24, none, .conv .u64 (.t 23)⟩,
  ⟨some 25, none, .mov (.t 4)⟩,
  ⟨some 26, none, .bin .rem (.t 25) (.c (.int .i64 8))⟩,
  ⟨some 27, none, .bin .mul (.c (.int .i64 8)) (.t 26)⟩,
  ⟨some 28, none, .bin .shl (.t 24) (.t 27)⟩,
  ⟨some 29, none, .bin .or (.t 20) (.t 28)⟩,
  ⟨some 30, none, .iaddr 1 (.t 16) (.t 18)⟩,
  ⟨none, none, .store 1 (.t 30) (.t 29)⟩]
def c102_a6 : List (List Nat) := [[], [], [1], [0, 2], [3], [], [], [5, 6], [7], [], [9], [10], [8, 11], [4, 12], [0, 2, 0, 1, 2, 3, 4, 5, 6, 7, 8, 9, 10, 11, 12, 13], [14, 13, 0, 1, 2, 3, 4, 5, 6, 7, 8, 9, 10, 11, 12, 13]]
abbrev c102_m6 : List Am.Mark := [⟨false, 0, 0⟩, ⟨false, 0, 0⟩, ⟨false, 0, 0⟩, ⟨false, 0, 0⟩, ⟨false, 0, 0⟩, ⟨false, 0, 0⟩, ⟨false, 0, 0⟩, ⟨false, 0, 0⟩, ⟨false, 0, 0⟩, ⟨false, 0, 0⟩, ⟨false, 0, 0⟩, ⟨false, 0, 0⟩, ⟨false, 0, 0⟩, ⟨false, 0, 0⟩, ⟨false, 0, 0⟩, ⟨true, 0, 1⟩]
theorem c102_d6 : drawFine c102_r6 c102_a6 c102_m6 = true := by decide +kernel
abbrev c102_r7 : List Ins := [
  ⟨some 31, none, .bin .add (.t 13) (.c (.int .i64 1))⟩,
  ⟨some 13, none, .mov (.t 31)⟩]
abbrev c102_l8 : IR := .seq (.reg c102_r4) (.seq (.cond (.t 14) (.skip) (.exit 0)) (.seq (.blk 1 (.seq (.reg c102_r5) (.dreg c102_r6 c102_a6))) (.reg c102_r7)))
abbrev c102_r9 : List Ins := [
  ⟨some 32, none, .mov (.t 3)⟩,
  ⟨some 2, none, .mov (.t 32)⟩]
abbrev c102 : IR := .seq (.reg c102_r1) (.seq (.reg c102_r2) (.seq (.seq (.reg c102_r3) (.blk 0 (.loop c102_l8))) (.seq (.reg c102_r9) (.ret))))
abbrev F102 : FnA := ⟨33, c102, [.t 2]⟩
theorem ok102 : cFn Try.prog 102 = some F102 := by kernel_rfl
theorem hb102 : HasBody Try.prog 102 := ⟨_, Try.func102, by kernel_rfl, by kernel_rfl⟩

end Go.Proofs
