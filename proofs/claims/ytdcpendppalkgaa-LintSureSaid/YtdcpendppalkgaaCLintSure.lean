/- The code of the functions that the statement reaches, as the abstract machine reads it. -/
import Derived.Test.YtdcpendppalkgaaK4
import Derived.Test.YtdcpendppalkgaaProg
namespace Go.Proofs
open Go Go.RowKit Go.Am

/-! law27.LintSure -/
abbrev c4_r1 : List Ins := [
  ⟨some 4, none, .box (.t 0)⟩,
  ⟨some 6, none, .box (.t 2)⟩,
  ⟨some 8, none, .mov (.c (.bool false))⟩]
abbrev c4_r2 : List Ins := [
  ⟨some 9, none, .call (.c (.fn 16 [] [])) []⟩,
  ⟨some 10, none, .un .not (.t 9)⟩]
abbrev c4_r3 : List Ins := [
  ⟨some 8, none, .mov (.c (.bool false))⟩]
abbrev c4_r4 : List Ins := [
  ⟨some 11, none, .faddr 0 (.t 4)⟩,
  ⟨some 12, none, .load 1 false (.t 11)⟩,
  ⟨some 13, none, .len (.t 12)⟩,
  ⟨some 14, none, .bin .gtr (.t 13) (.c (.int .i64 40))⟩,
  ⟨some 15, none, .mov (.t 14)⟩,
  ⟨some 16, some (15, false), .faddr 1 (.t 4)⟩,
  ⟨some 17, some (15, false), .load 1 false (.t 16)⟩,
  ⟨some 18, some (15, false), .len (.t 17)⟩,
  ⟨some 19, some (15, false), .bin .gtr (.t 18) (.c (.int .i64 40))⟩,
  ⟨some 20, none, .pick (.t 15) (.c (.bool true)) (.t 19)⟩,
  ⟨some 21, none, .mov (.t 20)⟩,
  ⟨some 22, some (21, false), .mov (.t 1)⟩,
  ⟨some 23, some (21, false), .len (.t 22)⟩,
  ⟨some 24, some (21, false), .bin .gtr (.t 23) (.c (.int .i64 10))⟩,
  ⟨some 25, none, .pick (.t 21) (.c (.bool true)) (.t 24)⟩,
  ⟨some 26, none, .mov (.t 25)⟩,
  ⟨some 27, some (26, false), .mov (.t 3)⟩,
  ⟨some 28, some (26, false), .len (.t 27)⟩,
  ⟨some 29, some (26, false), .bin .gtr (.t 28) (.c (.int .i64 100))⟩,
  ⟨some 30, none, .pick (.t 26) (.c (.bool true)) (.t 29)⟩]
abbrev c4_r5 : List Ins := [
  ⟨some 8, none, .mov (.c (.bool true))⟩]
abbrev c4_r6 : List Ins := [
  ⟨some 31, none, .load 2 true (.t 4)⟩,
  ⟨some 32, none, .mov (.t 1)⟩,
  ⟨some 33, none, .len (.t 32)⟩,
  ⟨some 34, none, .call (.c (.fn 17 [] [])) [.t 31, .t 33]⟩,
  ⟨some 35, none, .un .not (.t 34)⟩,
  ⟨some 36, none, .mov (.t 35)⟩,
  ⟨some 37, some (36, false), .mov (.t 1)⟩,
  ⟨some 38, some (36, false), .call (.c (.fn 18 [] [])) [.t 37]⟩,
  ⟨some 39, some (36, false), .un .not (.t 38)⟩,
  ⟨some 40, none, .pick (.t 36) (.c (.bool true)) (.t 39)⟩]
abbrev c4_r7 : List Ins := [
  ⟨some 8, none, .mov (.c (.bool true))⟩]
abbrev c4_r8 : List Ins := [
  ⟨some 41, none, .load 2 true (.t 4)⟩,
  ⟨some 42, none, .mov (.t 1)⟩,
  ⟨some 43, none, .load 4 true (.t 6)⟩,
  ⟨some 44, none, .mov (.t 3)⟩,
  ⟨some 45, none, .call (.c (.fn 20 [] [])) [.t 44]⟩,
  ⟨some 46, none, .call (.c (.fn 19 [] [])) [.t 41, .t 42, .t 43, .t 45, .c (.bool true)]⟩,
  ⟨some 47, none, .fld 0 1 false (.t 46)⟩,
  ⟨some 48, none, .bin .neq (.t 47) (.c (.int .i64 9))⟩,
  ⟨some 8, none, .mov (.t 48)⟩]
def c4_a8 : List (List Nat) := [[], [], [], [], [3], [0, 1, 2, 4, 4], [5], [6], [7, 5, 0, 1, 2, 3, 4, 5, 6, 7]]
abbrev c4_m8 : List Am.Mark := [⟨false, 0, 0⟩, ⟨false, 0, 0⟩, ⟨false, 0, 0⟩, ⟨false, 0, 1⟩, ⟨false, 0, 0⟩, ⟨true, 0, 1⟩, ⟨false, 1, 1⟩, ⟨false, 1, 1⟩, ⟨false, 1, 1⟩]
theorem c4_d8 : drawFine c4_r8 c4_a8 c4_m8 = true := by decide +kernel
abbrev c4 : IR := .seq (.reg c4_r1) (.seq (.seq (.reg c4_r2) (.cond (.t 10) (.seq (.reg c4_r3) (.ret)) (.skip))) (.seq (.seq (.reg c4_r4) (.cond (.t 30) (.seq (.reg c4_r5) (.ret)) (.skip))) (.seq (.seq (.reg c4_r6) (.cond (.t 40) (.seq (.reg c4_r7) (.ret)) (.skip))) (.seq (.dreg c4_r8 c4_a8) (.ret)))))
abbrev F4 : FnA := ⟨49, c4, [.t 8]⟩
theorem ok4 : cFn Try.prog 4 = some F4 := by kernel_rfl
theorem hb4 : HasBody Try.prog 4 := ⟨_, Try.func4, by kernel_rfl, by kernel_rfl⟩
/-! law27.alive -/
abbrev c16_r1 : List Ins := [
  ⟨some 0, none, .mov (.c (.bool false))⟩]
abbrev c16_r2 : List Ins := [
  ⟨some 1, none, .mov (.c (.fn 43 [] []))⟩]
abbrev c16_r3 : List Ins := [
  ⟨some 4, none, .mov (.t 1)⟩,
  ⟨some 5, none, .call (.t 4) [.c (.int .i64 0), .c (.int .i64 5)]⟩,
  ⟨some 6, none, .mov (.t 1)⟩,
  ⟨some 7, none, .call (.t 6) [.c (.int .i64 0), .c (.int .i64 7)]⟩,
  ⟨some 8, none, .build [.int .i64 0, .int .i64 0, .int .i64 0, .int .i64 0, .bool false] [(0, (2, .t 5)), (2, (2, .t 7))]⟩,
  ⟨some 9, none, .call (.c (.fn 44 [] [])) [.t 8, .c (.int .i64 1)]⟩,
  ⟨some 2, none, .mov (.t 9)⟩]
abbrev c16_r4 : List Ins := [
  ⟨some 10, none, .mov (.t 1)⟩,
  ⟨some 11, none, .call (.t 10) [.c (.int .i64 0), .c (.int .i64 5)]⟩,
  ⟨some 12, none, .mov (.t 1)⟩,
  ⟨some 13, none, .call (.t 12) [.c (.int .i64 (-1)), .c (.int .i64 7)]⟩,
  ⟨some 14, none, .build [.int .i64 0, .int .i64 0, .int .i64 0, .int .i64 0, .bool false] [(0, (2, .t 11)), (2, (2, .t 13))]⟩,
  ⟨some 15, none, .call (.c (.fn 44 [] [])) [.t 14, .c (.int .i64 1)]⟩,
  ⟨some 3, none, .mov (.t 15)⟩]
abbrev c16_r5 : List Ins := [
  ⟨some 16, none, .mov (.t 2)⟩,
  ⟨some 17, none, .build [.int .i64 0, .int .i64 0] [(0, (1, .c (.int .i64 5))), (1, (1, .c (.int .i64 106)))]⟩,
  ⟨some 18, none, .bsl 2 1 [.int .i64 0, .int .i64 0] [(0, .t 17)]⟩,
  ⟨some 19, none, .call (.c (.fn 45 [] [])) [.t 16, .t 18]⟩,
  ⟨some 20, none, .mov (.t 19)⟩,
  ⟨some 21, some (20, true), .mov (.t 3)⟩,
  ⟨some 22, some (20, true), .build [.int .i64 0, .int .i64 0] [(0, (1, .c (.int .i64 5))), (1, (1, .c (.int .i64 7)))]⟩,
  ⟨some 23, some (20, true), .bsl 2 1 [.int .i64 0, .int .i64 0] [(0, .t 22)]⟩,
  ⟨some 24, some (20, true), .call (.c (.fn 45 [] [])) [.t 21, .t 23]⟩,
  ⟨some 25, none, .pick (.t 20) (.t 24) (.c (.bool false))⟩,
  ⟨some 0, none, .mov (.t 25)⟩]
abbrev c16 : IR := .seq (.reg c16_r1) (.seq (.reg c16_r2) (.seq (.reg c16_r3) (.seq (.reg c16_r4) (.seq (.reg c16_r5) (.ret)))))
abbrev F16 : FnA := ⟨26, c16, [.t 0]⟩
theorem ok16 : cFn Try.prog 16 = some F16 := by kernel_rfl
theorem hb16 : HasBody Try.prog 16 := ⟨_, Try.func16, by kernel_rfl, by kernel_rfl⟩
/-! lint.Tight -/
abbrev c17_r1 : List Ins := [
  ⟨some 2, none, .box (.t 0)⟩,
  ⟨some 4, none, .mov (.c (.bool false))⟩]
abbrev c17_r2 : List Ins := [
  ⟨some 6, none, .faddr 0 (.t 2)⟩,
  ⟨some 7, none, .load 1 false (.t 6)⟩,
  ⟨some 8, none, .len (.t 7)⟩,
  ⟨some 9, none, .bin .gtr (.t 8) (.c (.int .i64 0))⟩,
  ⟨some 10, none, .mov (.t 9)⟩,
  ⟨some 11, some (10, true), .faddr 0 (.t 2)⟩,
  ⟨some 12, some (10, true), .load 1 false (.t 11)⟩,
  ⟨some 13, some (10, true), .mov (.t 1)⟩,
  ⟨some 14, some (10, true), .call (.c (.fn 46 [] [])) [.t 12, .t 13]⟩,
  ⟨some 15, some (10, true), .un .not (.t 14)⟩,
  ⟨some 16, none, .pick (.t 10) (.t 15) (.c (.bool false))⟩,
  ⟨some 17, none, .mov (.t 16)⟩,
  ⟨some 18, some (17, false), .faddr 1 (.t 2)⟩,
  ⟨some 19, some (17, false), .load 1 false (.t 18)⟩,
  ⟨some 20, some (17, false), .mov (.t 1)⟩,
  ⟨some 21, some (17, false), .call (.c (.fn 47 [] [])) [.t 19, .t 20]⟩,
  ⟨some 22, some (17, false), .un .not (.t 21)⟩,
  ⟨some 23, none, .pick (.t 17) (.c (.bool true)) (.t 22)⟩]
abbrev c17_r3 : List Ins := [
  ⟨some 4, none, .mov (.c (.bool false))⟩]
abbrev c17_r4 : List Ins := [
  ⟨some 24, none, .mkfn 48 [] [.t 2]⟩,
  ⟨some 5, none, .mov (.t 24)⟩]
abbrev c17_r5 : List Ins := [
  ⟨some 25, none, .faddr 0 (.t 2)⟩,
  ⟨some 26, none, .load 1 false (.t 25)⟩,
  ⟨some 27, none, .mov (.t 5)⟩,
  ⟨some 28, none, .call (.c (.fn 53 [] [])) [.t 26, .t 27]⟩,
  ⟨some 29, none, .un .not (.t 28)⟩,
  ⟨some 4, none, .mov (.t 29)⟩]
abbrev c17 : IR := .seq (.reg c17_r1) (.seq (.seq (.reg c17_r2) (.cond (.t 23) (.seq (.reg c17_r3) (.ret)) (.skip))) (.seq (.reg c17_r4) (.seq (.reg c17_r5) (.ret))))
abbrev F17 : FnA := ⟨30, c17, [.t 4]⟩
theorem ok17 : cFn Try.prog 17 = some F17 := by kernel_rfl
theorem hb17 : HasBody Try.prog 17 := ⟨_, Try.func17, by kernel_rfl, by kernel_rfl⟩
/-! ref09.Args -/
abbrev c18_r1 : List Ins := [
  ⟨some 2, none, .mov (.c (.bool false))⟩]
abbrev c18_r2 : List Ins := [
  ⟨some 3, none, .mov (.c (.int .i64 0))⟩]
abbrev c18_r3 : List Ins := [
  ⟨some 4, none, .mov (.t 3)⟩,
  ⟨some 5, none, .mov (.t 0)⟩,
  ⟨some 6, none, .len (.t 5)⟩,
  ⟨some 7, none, .bin .lss (.t 4) (.t 6)⟩]
abbrev c18_r4 : List Ins := [
  ⟨some 10, none, .mov (.t 0)⟩,
  ⟨some 11, none, .mov (.t 3)⟩,
  ⟨some 12, none, .iaddr 1 (.t 10) (.t 11)⟩,
  ⟨some 13, none, .load 1 false (.t 12)⟩,
  ⟨some 14, none, .bin .lss (.t 13) (.c (.int .i64 0))⟩,
  ⟨some 15, none, .mov (.t 14)⟩,
  ⟨some 16, some (15, false), .mov (.t 0)⟩,
  ⟨some 17, some (15, false), .mov (.t 3)⟩,
  ⟨some 18, some (15, false), .iaddr 1 (.t 16) (.t 17)⟩,
  ⟨some 19, some (15, false), .load 1 false (.t 18)⟩,
  ⟨some 20, some (15, false), .bin .gtr (.t 19) (.c (.int .i64 99))⟩,
  ⟨some 21, none, .pick (.t 15) (.c (.bool true)) (.t 20)⟩]
abbrev c18_r5 : List Ins := [
  ⟨some 2, none, .mov (.c (.bool false))⟩]
abbrev c18_r6 : List Ins := [
  ⟨some 8, none, .mov (.t 3)⟩,
  ⟨some 9, none, .bin .add (.t 8) (.c (.int .i64 1))⟩,
  ⟨some 3, none, .mov (.t 9)⟩]
abbrev c18_l7 : IR := .seq (.seq (.reg c18_r3) (.cond (.t 7) (.skip) (.exit 0))) (.seq (.blk 1 (.seq (.reg c18_r4) (.cond (.t 21) (.seq (.reg c18_r5) (.ret)) (.skip)))) (.reg c18_r6))
abbrev c18_r8 : List Ins := [
  ⟨some 22, none, .mov (.t 0)⟩,
  ⟨some 23, none, .len (.t 22)⟩,
  ⟨some 24, none, .bin .leq (.t 23) (.c (.int .i64 3))⟩,
  ⟨some 2, none, .mov (.t 24)⟩]
abbrev c18 : IR := .seq (.reg c18_r1) (.seq (.seq (.reg c18_r2) (.blk 0 (.loop c18_l7))) (.seq (.reg c18_r8) (.ret)))
abbrev F18 : FnA := ⟨25, c18, [.t 2]⟩
theorem ok18 : cFn Try.prog 18 = some F18 := by kernel_rfl
theorem hb18 : HasBody Try.prog 18 := ⟨_, Try.func18, by kernel_rfl, by kernel_rfl⟩
/-! ref13.Run -/
abbrev c19_r1 : List Ins := [
  ⟨some 5, none, .box (.t 0)⟩,
  ⟨some 7, none, .box (.t 2)⟩,
  ⟨some 10, none, .alloc [.int .i64 0, .int .i64 0, .int .i64 0, .int .i64 0, .int .i64 0, .int .i64 0, .sl .full [], .sl .full [], .sl .full []]⟩]
abbrev c19_r2 : List Ins := [
  ⟨some 30, none, .load 2 true (.t 5)⟩,
  ⟨some 31, none, .mov (.t 1)⟩,
  ⟨some 32, none, .call (.c (.fn 54 [] [])) [.t 30, .t 31]⟩,
  ⟨some 33, none, .un .not (.t 32)⟩]
abbrev c19_r3 : List Ins := [
  ⟨some 34, none, .load 4 true (.t 7)⟩,
  ⟨some 35, none, .build [.int .i64 0, .int .i64 0, .int .i64 0, .int .i64 0, .int .i64 0, .int .i64 0, .sl .full [], .sl .full [], .sl .full []] [(0, (1, .c (.int .i64 1))), (2, (4, .t 34))]⟩,
  ⟨none, none, .store 9 (.t 10) (.t 35)⟩]
abbrev c19_r4 : List Ins := [
  ⟨some 36, none, .faddr 1 (.t 5)⟩,
  ⟨some 37, none, .load 1 false (.t 36)⟩,
  ⟨some 38, none, .mov (.t 1)⟩,
  ⟨some 39, none, .call (.c (.fn 55 [] [])) [.t 37, .t 38, .c (.bool false)]⟩,
  ⟨some 40, none, .faddr 1 (.t 5)⟩,
  ⟨some 41, none, .load 1 false (.t 40)⟩,
  ⟨some 42, none, .mov (.t 1)⟩,
  ⟨some 43, none, .call (.c (.fn 55 [] [])) [.t 41, .t 42, .c (.bool true)]⟩,
  ⟨some 11, none, .mov (.t 39)⟩,
  ⟨some 12, none, .mov (.t 43)⟩]
def c19_a4 : List (List Nat) := [[], [0], [], [1, 2], [], [4], [], [5, 6, 3], [3, 7, 0, 1, 2, 3], [7, 8, 0, 1, 2, 3, 4, 5, 6, 7, 8]]
abbrev c19_m4 : List Am.Mark := [⟨false, 0, 0⟩, ⟨false, 0, 0⟩, ⟨false, 0, 0⟩, ⟨false, 0, 0⟩, ⟨false, 0, 0⟩, ⟨false, 0, 0⟩, ⟨false, 0, 0⟩, ⟨false, 0, 0⟩, ⟨false, 0, 0⟩, ⟨false, 0, 0⟩]
theorem c19_d4 : drawFine c19_r4 c19_a4 c19_m4 = true := by decide +kernel
abbrev c19_r5 : List Ins := [
  ⟨some 44, none, .mov (.t 3)⟩,
  ⟨some 45, none, .call (.c (.fn 56 [] [])) [.t 44]⟩,
  ⟨some 13, none, .mov (.t 45)⟩]
abbrev c19_r6 : List Ins := [
  ⟨some 46, none, .load 4 true (.t 7)⟩,
  ⟨some 14, none, .alloc [.int .i64 0, .int .i64 0, .int .i64 0, .int .i64 0]⟩,
  ⟨none, none, .store 4 (.t 14) (.t 46)⟩]
abbrev c19_r7 : List Ins := [
  ⟨some 15, none, .alloc (List.replicate 1000 (.bool false))⟩,
  ⟨some 16, none, .alloc (List.replicate 1000 (.bool false))⟩]
abbrev c19_r8 : List Ins := [
  ⟨some 17, none, .mov (.c (.int .i64 0))⟩]
abbrev c19_r9 : List Ins := [
  ⟨some 47, none, .mov (.t 17)⟩,
  ⟨some 48, none, .faddr 0 (.t 5)⟩,
  ⟨some 49, none, .load 1 false (.t 48)⟩,
  ⟨some 50, none, .len (.t 49)⟩,
  ⟨some 51, none, .bin .lss (.t 47) (.t 50)⟩]
abbrev c19_r10 : List Ins := [
  ⟨some 54, none, .faddr 0 (.t 5)⟩,
  ⟨some 55, none, .load 1 false (.t 54)⟩,
  ⟨some 56, none, .mov (.t 17)⟩,
  ⟨some 57, none, .iaddr 9 (.t 55) (.t 56)⟩,
  ⟨some 58, none, .load 9 true (.t 57)⟩,
  ⟨some 18, none, .alloc [.int .i64 0, .int .i64 0, .int .i64 0, .int .i64 0, .int .i64 0, .int .i64 0, .int .i64 0, .int .i64 0, .int .i64 0]⟩,
  ⟨none, none, .store 9 (.t 18) (.t 58)⟩]
abbrev c19_r11 : List Ins := [
  ⟨some 19, none, .mov (.c (.int .i64 0))⟩]
abbrev c19_r12 : List Ins := [
  ⟨some 59, none, .faddr 0 (.t 18)⟩,
  ⟨some 60, none, .load 1 false (.t 59)⟩,
  ⟨some 61, none, .bin .leq (.t 60) (.c (.int .i64 4))⟩]
abbrev c19_r13 : List Ins := [
  ⟨some 62, none, .faddr 4 (.t 18)⟩,
  ⟨some 63, none, .load 2 true (.t 62)⟩,
  ⟨some 64, none, .mov (.t 1)⟩,
  ⟨some 65, none, .call (.c (.fn 57 [] [])) [.t 63, .t 64]⟩,
  ⟨some 19, none, .mov (.t 65)⟩]
abbrev c19_r14 : List Ins := [
  ⟨some 20, none, .mov (.c (.int .i64 0))⟩]
abbrev c19_r15 : List Ins := [
  ⟨some 66, none, .faddr 0 (.t 18)⟩,
  ⟨some 67, none, .load 1 false (.t 66)⟩]
abbrev c19_r16 : List Ins := [
  ⟨some 69, none, .bin .eql (.t 67) (.c (.int .i64 1))⟩,
  ⟨some 68, none, .mov (.t 69)⟩]
abbrev c19_r17 : List Ins := [
  ⟨some 70, none, .mov (.t 4)⟩,
  ⟨some 71, none, .mov (.t 70)⟩,
  ⟨some 72, some (71, true), .mov (.t 11)⟩,
  ⟨some 73, some (71, true), .mov (.t 19)⟩,
  ⟨some 74, some (71, true), .nilck (.t 72)⟩,
  ⟨some 75, some (71, true), .iaddrA 1000 1 (.t 74) (.t 73)⟩,
  ⟨some 76, some (71, true), .load 1 false (.t 75)⟩,
  ⟨some 77, some (71, true), .un .not (.t 76)⟩,
  ⟨some 78, none, .pick (.t 71) (.t 77) (.c (.bool false))⟩]
abbrev c19_r18 : List Ins := [
  ⟨some 20, none, .mov (.c (.int .i64 9))⟩]
abbrev c19_r19 : List Ins := [
  ⟨some 79, none, .mov (.t 19)⟩,
  ⟨some 80, none, .iaddrA 1000 1 (.t 15) (.t 79)⟩,
  ⟨none, none, .store 1 (.t 80) (.c (.bool true))⟩]
abbrev c19_r20 : List Ins := [
  ⟨some 81, none, .faddr 1 (.t 18)⟩,
  ⟨some 82, none, .load 1 false (.t 81)⟩,
  ⟨some 83, none, .iaddrA 4 1 (.t 14) (.t 82)⟩,
  ⟨none, none, .store 1 (.t 83) (.c (.int .i64 0))⟩]
abbrev c19_r21 : List Ins := [
  ⟨some 84, none, .mov (.t 13)⟩,
  ⟨some 85, none, .mov (.t 19)⟩,
  ⟨some 86, none, .nilck (.t 84)⟩,
  ⟨some 87, none, .faddr 0 (.t 86)⟩,
  ⟨some 88, none, .iaddrA 1000 1 (.t 87) (.t 85)⟩,
  ⟨some 89, none, .load 1 false (.t 88)⟩]
abbrev c19_r22 : List Ins := [
  ⟨some 90, none, .faddr 1 (.t 18)⟩,
  ⟨some 91, none, .load 1 false (.t 90)⟩,
  ⟨some 92, none, .mov (.t 13)⟩,
  ⟨some 93, none, .mov (.t 19)⟩,
  ⟨some 94, none, .nilck (.t 92)⟩,
  ⟨some 95, none, .faddr 1000 (.t 94)⟩,
  ⟨some 96, none, .iaddrA 1000 1 (.t 95) (.t 93)⟩,
  ⟨some 97, none, .load 1 false (.t 96)⟩,
  ⟨some 98, none, .iaddrA 4 1 (.t 14) (.t 91)⟩,
  ⟨none, none, .store 1 (.t 98) (.t 97)⟩]
def c19_a22 : List (List Nat) := [[], [0], [], [], [2], [4], [5, 3], [6], [1, 0, 1, 2, 3, 4, 5, 6, 7], [8, 7, 0, 1, 2, 3, 4, 5, 6, 7]]
abbrev c19_m22 : List Am.Mark := [⟨false, 0, 0⟩, ⟨false, 0, 0⟩, ⟨false, 0, 0⟩, ⟨false, 0, 0⟩, ⟨false, 0, 0⟩, ⟨false, 0, 0⟩, ⟨false, 0, 0⟩, ⟨false, 0, 0⟩, ⟨false, 0, 0⟩, ⟨true, 0, 1⟩]
theorem c19_d22 : drawFine c19_r22 c19_a22 c19_m22 = true := by decide +kernel
abbrev c19_r23 : List Ins := [
  ⟨some 100, none, .bin .eql (.t 67) (.c (.int .i64 2))⟩,
  ⟨some 99, none, .mov (.t 100)⟩]
abbrev c19_r24 : List Ins := [
  ⟨some 101, none, .bin .eql (.t 67) (.c (.int .i64 3))⟩,
  ⟨some 99, none, .mov (.t 101)⟩]
abbrev c19_r25 : List Ins := [
  ⟨some 102, none, .mov (.t 4)⟩,
  ⟨some 103, none, .mov (.t 102)⟩,
  ⟨some 104, some (103, true), .mov (.t 12)⟩,
  ⟨some 105, some (103, true), .mov (.t 19)⟩,
  ⟨some 106, some (103, true), .nilck (.t 104)⟩,
  ⟨some 107, some (103, true), .iaddrA 1000 1 (.t 106) (.t 105)⟩,
  ⟨some 108, some (103, true), .load 1 false (.t 107)⟩,
  ⟨some 109, some (103, true), .un .not (.t 108)⟩,
  ⟨some 110, none, .pick (.t 103) (.t 109) (.c (.bool false))⟩]
abbrev c19_r26 : List Ins := [
  ⟨some 20, none, .mov (.c (.int .i64 9))⟩]
abbrev c19_r27 : List Ins := [
  ⟨some 111, none, .mov (.t 19)⟩,
  ⟨some 112, none, .iaddrA 1000 1 (.t 16) (.t 111)⟩,
  ⟨none, none, .store 1 (.t 112) (.c (.bool true))⟩]
abbrev c19_r28 : List Ins := [
  ⟨some 113, none, .mov (.t 13)⟩,
  ⟨some 114, none, .mov (.t 19)⟩,
  ⟨some 115, none, .faddr 0 (.t 18)⟩,
  ⟨some 116, none, .load 1 false (.t 115)⟩,
  ⟨some 117, none, .bin .eql (.t 116) (.c (.int .i64 2))⟩,
  ⟨some 118, none, .nilck (.t 113)⟩,
  ⟨some 119, none, .faddr 0 (.t 118)⟩,
  ⟨some 120, none, .iaddrA 1000 1 (.t 119) (.t 114)⟩,
  ⟨none, none, .store 1 (.t 120) (.t 117)⟩]
def c19_a28 : List (List Nat) := [[], [], [], [2], [3], [0], [5], [6, 1, 0, 1, 2, 3, 4], [7, 4, 0, 1, 2, 3, 4]]
abbrev c19_m28 : List Am.Mark := [⟨false, 0, 0⟩, ⟨false, 0, 0⟩, ⟨false, 0, 0⟩, ⟨false, 0, 0⟩, ⟨false, 0, 0⟩, ⟨false, 0, 1⟩, ⟨false, 0, 1⟩, ⟨false, 0, 0⟩, ⟨true, 0, 1⟩]
theorem c19_d28 : drawFine c19_r28 c19_a28 c19_m28 = true := by decide +kernel
abbrev c19_r29 : List Ins := [
  ⟨some 121, none, .faddr 0 (.t 18)⟩,
  ⟨some 122, none, .load 1 false (.t 121)⟩,
  ⟨some 123, none, .bin .eql (.t 122) (.c (.int .i64 2))⟩]
abbrev c19_r30 : List Ins := [
  ⟨some 124, none, .mov (.t 13)⟩,
  ⟨some 125, none, .mov (.t 19)⟩,
  ⟨some 126, none, .faddr 1 (.t 18)⟩,
  ⟨some 127, none, .load 1 false (.t 126)⟩,
  ⟨some 128, none, .iaddrA 4 1 (.t 14) (.t 127)⟩,
  ⟨some 129, none, .load 1 false (.t 128)⟩,
  ⟨some 130, none, .nilck (.t 124)⟩,
  ⟨some 131, none, .faddr 1000 (.t 130)⟩,
  ⟨some 132, none, .iaddrA 1000 1 (.t 131) (.t 125)⟩,
  ⟨none, none, .store 1 (.t 132) (.t 129)⟩]
def c19_a30 : List (List Nat) := [[], [], [], [2], [3], [4], [0], [6], [7, 1, 0, 1, 2, 3, 4, 5], [8, 5, 0, 1, 2, 3, 4, 5]]
abbrev c19_m30 : List Am.Mark := [⟨false, 0, 0⟩, ⟨false, 0, 0⟩, ⟨false, 0, 0⟩, ⟨false, 0, 0⟩, ⟨false, 0, 0⟩, ⟨false, 0, 0⟩, ⟨false, 0, 1⟩, ⟨false, 0, 1⟩, ⟨false, 0, 0⟩, ⟨true, 0, 1⟩]
theorem c19_d30 : drawFine c19_r30 c19_a30 c19_m30 = true := by decide +kernel
abbrev c19_r31 : List Ins := [
  ⟨some 134, none, .bin .eql (.t 67) (.c (.int .i64 4))⟩,
  ⟨some 133, none, .mov (.t 134)⟩]
abbrev c19_r32 : List Ins := [
  ⟨some 135, none, .faddr 6 (.t 18)⟩,
  ⟨some 136, none, .load 2 true (.t 135)⟩,
  ⟨some 137, none, .mov (.t 1)⟩,
  ⟨some 138, none, .call (.c (.fn 57 [] [])) [.t 136, .t 137]⟩,
  ⟨some 21, none, .mov (.t 138)⟩]
abbrev c19_r33 : List Ins := [
  ⟨some 22, none, .mov (.c (.int .i64 0))⟩]
abbrev c19_r34 : List Ins := [
  ⟨some 139, none, .mov (.t 19)⟩,
  ⟨some 23, none, .mov (.t 139)⟩]
abbrev c19_r35 : List Ins := [
  ⟨some 140, none, .mov (.t 23)⟩,
  ⟨some 141, none, .mov (.t 21)⟩,
  ⟨some 142, none, .bin .leq (.t 140) (.t 141)⟩]
abbrev c19_r36 : List Ins := [
  ⟨some 145, none, .mov (.t 4)⟩,
  ⟨some 146, none, .mov (.t 145)⟩,
  ⟨some 147, some (146, true), .mov (.t 11)⟩,
  ⟨some 148, some (146, true), .mov (.t 23)⟩,
  ⟨some 149, some (146, true), .nilck (.t 147)⟩,
  ⟨some 150, some (146, true), .iaddrA 1000 1 (.t 149) (.t 148)⟩,
  ⟨some 151, some (146, true), .load 1 false (.t 150)⟩,
  ⟨some 152, some (146, true), .un .not (.t 151)⟩,
  ⟨some 153, none, .pick (.t 146) (.t 152) (.c (.bool false))⟩]
abbrev c19_r37 : List Ins := [
  ⟨some 20, none, .mov (.c (.int .i64 9))⟩]
abbrev c19_r38 : List Ins := [
  ⟨some 154, none, .mov (.t 13)⟩,
  ⟨some 155, none, .mov (.t 23)⟩,
  ⟨some 156, none, .nilck (.t 154)⟩,
  ⟨some 157, none, .faddr 0 (.t 156)⟩,
  ⟨some 158, none, .iaddrA 1000 1 (.t 157) (.t 155)⟩,
  ⟨some 159, none, .load 1 false (.t 158)⟩]
abbrev c19_r39 : List Ins := [
  ⟨some 160, none, .mov (.t 22)⟩,
  ⟨some 161, none, .bin .add (.t 160) (.c (.int .i64 1))⟩,
  ⟨some 22, none, .mov (.t 161)⟩]
abbrev c19_r40 : List Ins := [
  ⟨some 143, none, .mov (.t 23)⟩,
  ⟨some 144, none, .bin .add (.t 143) (.c (.int .i64 1))⟩,
  ⟨some 23, none, .mov (.t 144)⟩]
abbrev c19_l41 : IR := .seq (.seq (.reg c19_r35) (.cond (.t 142) (.skip) (.exit 3))) (.seq (.blk 4 (.seq (.seq (.reg c19_r36) (.cond (.t 153) (.reg c19_r37) (.skip))) (.seq (.reg c19_r38) (.cond (.t 159) (.reg c19_r39) (.skip))))) (.reg c19_r40))
abbrev c19_r42 : List Ins := [
  ⟨some 162, none, .mov (.t 20)⟩,
  ⟨some 163, none, .bin .eql (.t 162) (.c (.int .i64 0))⟩]
abbrev c19_r43 : List Ins := [
  ⟨some 164, none, .mov (.t 19)⟩,
  ⟨some 24, none, .mov (.t 164)⟩]
abbrev c19_r44 : List Ins := [
  ⟨some 165, none, .mov (.t 24)⟩,
  ⟨some 166, none, .mov (.t 21)⟩,
  ⟨some 167, none, .bin .leq (.t 165) (.t 166)⟩]
abbrev c19_r45 : List Ins := [
  ⟨some 170, none, .mov (.t 24)⟩,
  ⟨some 171, none, .iaddrA 1000 1 (.t 15) (.t 170)⟩,
  ⟨none, none, .store 1 (.t 171) (.c (.bool true))⟩]
abbrev c19_r46 : List Ins := [
  ⟨some 168, none, .mov (.t 24)⟩,
  ⟨some 169, none, .bin .add (.t 168) (.c (.int .i64 1))⟩,
  ⟨some 24, none, .mov (.t 169)⟩]
abbrev c19_l47 : IR := .seq (.seq (.reg c19_r44) (.cond (.t 167) (.skip) (.exit 5))) (.seq (.blk 6 (.reg c19_r45)) (.reg c19_r46))
abbrev c19_r48 : List Ins := [
  ⟨some 172, none, .faddr 1 (.t 18)⟩,
  ⟨some 173, none, .load 1 false (.t 172)⟩,
  ⟨some 174, none, .mov (.t 22)⟩,
  ⟨some 175, none, .iaddrA 4 1 (.t 14) (.t 173)⟩,
  ⟨none, none, .store 1 (.t 175) (.t 174)⟩]
abbrev c19_r49 : List Ins := [
  ⟨some 177, none, .bin .eql (.t 67) (.c (.int .i64 5))⟩,
  ⟨some 176, none, .mov (.t 177)⟩]
abbrev c19_r50 : List Ins := [
  ⟨some 178, none, .faddr 1 (.t 18)⟩,
  ⟨some 179, none, .load 1 false (.t 178)⟩,
  ⟨some 180, none, .faddr 8 (.t 18)⟩,
  ⟨some 181, none, .load 1 false (.t 180)⟩,
  ⟨some 182, none, .iaddrA 4 1 (.t 14) (.t 179)⟩,
  ⟨none, none, .store 1 (.t 182) (.t 181)⟩]
abbrev c19_r51 : List Ins := [
  ⟨some 184, none, .bin .eql (.t 67) (.c (.int .i64 6))⟩,
  ⟨some 183, none, .mov (.t 184)⟩]
abbrev c19_r52 : List Ins := [
  ⟨some 185, none, .bin .eql (.t 67) (.c (.int .i64 7))⟩,
  ⟨some 183, none, .mov (.t 185)⟩]
abbrev c19_r53 : List Ins := [
  ⟨some 187, none, .faddr 2 (.t 18)⟩,
  ⟨some 188, none, .load 1 false (.t 187)⟩,
  ⟨some 189, none, .iaddrA 4 1 (.t 14) (.t 188)⟩,
  ⟨some 190, none, .load 1 false (.t 189)⟩,
  ⟨some 191, none, .faddr 3 (.t 18)⟩,
  ⟨some 192, none, .load 1 false (.t 191)⟩,
  ⟨some 193, none, .iaddrA 4 1 (.t 14) (.t 192)⟩,
  ⟨some 194, none, .load 1 false (.t 193)⟩,
  ⟨some 195, none, .call (.c (.fn 58 [] [])) [.t 190, .t 194]⟩,
  ⟨some 186, none, .mov (.t 195)⟩,
  ⟨some 196, none, .ext (.t 186) 0⟩,
  ⟨some 197, none, .ext (.t 186) 1⟩,
  ⟨some 25, none, .mov (.t 196)⟩,
  ⟨some 26, none, .mov (.t 197)⟩]
def c19_a53 : List (List Nat) := [[], [0], [1], [2], [], [4], [5], [6], [3, 7], [8], [9], [9], [10, 8, 0, 1, 2, 3, 4, 5, 6, 7, 8, 9, 10], [11, 12, 0, 1, 2, 3, 4, 5, 6, 7, 8, 9, 10, 11, 12]]
abbrev c19_m53 : List Am.Mark := [⟨false, 0, 0⟩, ⟨false, 0, 0⟩, ⟨false, 0, 0⟩, ⟨false, 0, 0⟩, ⟨false, 0, 0⟩, ⟨false, 0, 0⟩, ⟨false, 0, 0⟩, ⟨false, 0, 0⟩, ⟨false, 0, 0⟩, ⟨false, 0, 0⟩, ⟨false, 0, 0⟩, ⟨false, 0, 0⟩, ⟨false, 0, 0⟩, ⟨false, 0, 0⟩]
theorem c19_d53 : drawFine c19_r53 c19_a53 c19_m53 = true := by decide +kernel
abbrev c19_r54 : List Ins := [
  ⟨some 198, none, .faddr 0 (.t 18)⟩,
  ⟨some 199, none, .load 1 false (.t 198)⟩,
  ⟨some 200, none, .bin .eql (.t 199) (.c (.int .i64 7))⟩]
abbrev c19_r55 : List Ins := [
  ⟨some 202, none, .faddr 2 (.t 18)⟩,
  ⟨some 203, none, .load 1 false (.t 202)⟩,
  ⟨some 204, none, .iaddrA 4 1 (.t 14) (.t 203)⟩,
  ⟨some 205, none, .load 1 false (.t 204)⟩,
  ⟨some 206, none, .faddr 3 (.t 18)⟩,
  ⟨some 207, none, .load 1 false (.t 206)⟩,
  ⟨some 208, none, .iaddrA 4 1 (.t 14) (.t 207)⟩,
  ⟨some 209, none, .load 1 false (.t 208)⟩,
  ⟨some 210, none, .call (.c (.fn 59 [] [])) [.t 205, .t 209]⟩,
  ⟨some 201, none, .mov (.t 210)⟩,
  ⟨some 211, none, .ext (.t 201) 0⟩,
  ⟨some 212, none, .ext (.t 201) 1⟩,
  ⟨some 25, none, .mov (.t 211)⟩,
  ⟨some 26, none, .mov (.t 212)⟩]
def c19_a55 : List (List Nat) := [[], [0], [1], [2], [], [4], [5], [6], [3, 7], [8], [9], [9], [10, 8, 0, 1, 2, 3, 4, 5, 6, 7, 8, 9, 10], [11, 12, 0, 1, 2, 3, 4, 5, 6, 7, 8, 9, 10, 11, 12]]
abbrev c19_m55 : List Am.Mark := [⟨false, 0, 0⟩, ⟨false, 0, 0⟩, ⟨false, 0, 0⟩, ⟨false, 0, 0⟩, ⟨false, 0, 0⟩, ⟨false, 0, 0⟩, ⟨false, 0, 0⟩, ⟨false, 0, 0⟩, ⟨false, 0, 0⟩, ⟨false, 0, 0⟩, ⟨false, 0, 0⟩, ⟨false, 0, 0⟩, ⟨false, 0, 0⟩, ⟨false, 0, 0⟩]
theorem c19_d55 : drawFine c19_r55 c19_a55 c19_m55 = true := by decide +kernel
abbrev c19_r56 : List Ins := [
  ⟨some 213, none, .mov (.t 26)⟩]
abbrev c19_r57 : List Ins := [
  ⟨some 214, none, .faddr 1 (.t 18)⟩,
  ⟨some 215, none, .load 1 false (.t 214)⟩,
  ⟨some 216, none, .mov (.t 25)⟩,
  ⟨some 217, none, .iaddrA 4 1 (.t 14) (.t 215)⟩,
  ⟨none, none, .store 1 (.t 217) (.t 216)⟩]
abbrev c19_r58 : List Ins := [
  ⟨some 20, none, .mov (.c (.int .i64 8))⟩]
abbrev c19_r59 : List Ins := [
  ⟨some 219, none, .bin .eql (.t 67) (.c (.int .i64 8))⟩,
  ⟨some 218, none, .mov (.t 219)⟩]
abbrev c19_r60 : List Ins := [
  ⟨some 220, none, .faddr 1 (.t 18)⟩,
  ⟨some 221, none, .load 1 false (.t 220)⟩,
  ⟨some 222, none, .iaddrA 4 1 (.t 14) (.t 221)⟩,
  ⟨some 223, none, .load 1 false (.t 222)⟩,
  ⟨some 224, none, .faddr 8 (.t 18)⟩,
  ⟨some 225, none, .load 1 false (.t 224)⟩,
  ⟨some 226, none, .bin .lss (.t 223) (.t 225)⟩]
def c19_a60 : List (List Nat) := [[], [0], [1], [2], [], [4], [3, 5]]
abbrev c19_m60 : List Am.Mark := [⟨false, 0, 0⟩, ⟨false, 0, 0⟩, ⟨false, 0, 0⟩, ⟨false, 0, 0⟩, ⟨false, 0, 0⟩, ⟨false, 0, 0⟩, ⟨false, 0, 0⟩]
theorem c19_d60 : drawFine c19_r60 c19_a60 c19_m60 = true := by decide +kernel
abbrev c19_r61 : List Ins := [
  ⟨some 20, none, .mov (.c (.int .i64 7))⟩]
abbrev c19_r62 : List Ins := [
  ⟨some 227, none, .mov (.t 20)⟩,
  ⟨some 228, none, .bin .neq (.t 227) (.c (.int .i64 0))⟩]
abbrev c19_r63 : List Ins := [
  ⟨some 229, none, .mov (.t 20)⟩,
  ⟨some 230, none, .mov (.t 17)⟩,
  ⟨some 231, none, .load 4 true (.t 7)⟩,
  ⟨some 232, none, .build [.int .i64 0, .int .i64 0, .int .i64 0, .int .i64 0, .int .i64 0, .int .i64 0, .sl .full [], .sl .full [], .sl .full []] [(0, (1, .t 229)), (1, (1, .t 230)), (2, (4, .t 231))]⟩,
  ⟨none, none, .store 9 (.t 10) (.t 232)⟩]
abbrev c19_r64 : List Ins := [
  ⟨some 52, none, .mov (.t 17)⟩,
  ⟨some 53, none, .bin .add (.t 52) (.c (.int .i64 1))⟩,
  ⟨some 17, none, .mov (.t 53)⟩]
abbrev c19_l65 : IR := .seq (.seq (.reg c19_r9) (.cond (.t 51) (.skip) (.exit 0))) (.seq (.blk 1 (.seq (.reg c19_r10) (.seq (.reg c19_r11) (.seq (.seq (.reg c19_r12) (.cond (.t 61) (.reg c19_r13) (.skip))) (.seq (.reg c19_r14) (.seq (.seq (.reg c19_r15) (.blk 2 (.seq (.reg c19_r16) (.cond (.t 68) (.seq (.reg c19_r17) (.cond (.t 78) (.reg c19_r18) (.seq (.reg c19_r19) (.seq (.reg c19_r20) (.seq (.reg c19_r21) (.cond (.t 89) (.dreg c19_r22 c19_a22) (.skip))))))) (.seq (.seq (.reg c19_r23) (.cond (.t 99) (.skip) (.reg c19_r24))) (.cond (.t 99) (.seq (.reg c19_r25) (.cond (.t 110) (.reg c19_r26) (.seq (.reg c19_r27) (.seq (.dreg c19_r28 c19_a28) (.seq (.reg c19_r29) (.cond (.t 123) (.dreg c19_r30 c19_a30) (.skip))))))) (.seq (.reg c19_r31) (.cond (.t 133) (.seq (.reg c19_r32) (.seq (.reg c19_r33) (.seq (.seq (.reg c19_r34) (.blk 3 (.loop c19_l41))) (.seq (.reg c19_r42) (.cond (.t 163) (.seq (.seq (.reg c19_r43) (.blk 5 (.loop c19_l47))) (.reg c19_r48)) (.skip)))))) (.seq (.reg c19_r49) (.cond (.t 176) (.reg c19_r50) (.seq (.seq (.reg c19_r51) (.cond (.t 183) (.skip) (.reg c19_r52))) (.cond (.t 183) (.seq (.dreg c19_r53 c19_a53) (.seq (.seq (.reg c19_r54) (.cond (.t 200) (.dreg c19_r55 c19_a55) (.skip))) (.seq (.reg c19_r56) (.cond (.t 213) (.reg c19_r57) (.reg c19_r58))))) (.seq (.reg c19_r59) (.cond (.t 218) (.seq (.dreg c19_r60 c19_a60) (.cond (.t 226) (.reg c19_r61) (.skip))) (.skip))))))))))))))) (.seq (.reg c19_r62) (.cond (.t 228) (.seq (.reg c19_r63) (.ret)) (.skip))))))))) (.reg c19_r64))
abbrev c19_r66 : List Ins := [
  ⟨some 233, none, .load 4 true (.t 14)⟩,
  ⟨some 234, none, .call (.c (.fn 60 [] [])) [.t 15]⟩,
  ⟨some 235, none, .call (.c (.fn 60 [] [])) [.t 16]⟩,
  ⟨some 236, none, .build [.int .i64 0, .int .i64 0, .int .i64 0, .int .i64 0, .int .i64 0, .int .i64 0, .sl .full [], .sl .full [], .sl .full []] [(2, (4, .t 233)), (6, (1, .t 234)), (7, (1, .t 235))]⟩,
  ⟨some 27, none, .alloc [.int .i64 0, .int .i64 0, .int .i64 0, .int .i64 0, .int .i64 0, .int .i64 0, .sl .full [], .sl .full [], .sl .full []]⟩,
  ⟨none, none, .store 9 (.t 27) (.t 236)⟩]
def c19_a66 : List (List Nat) := [[], [], [1], [0, 1, 2], [], [4, 3, 2, 0, 1, 2, 3, 4]]
abbrev c19_m66 : List Am.Mark := [⟨false, 0, 3⟩, ⟨true, 0, 1⟩, ⟨true, 1, 3⟩, ⟨false, 2, 3⟩, ⟨true, 0, 3⟩, ⟨true, 3, 4⟩]
abbrev c19_r67 : List Ins := [
  ⟨some 28, none, .mov (.c (.int .i64 0))⟩]
abbrev c19_r68 : List Ins := [
  ⟨some 237, none, .mov (.t 28)⟩,
  ⟨some 238, none, .bin .lss (.t 237) (.c (.int .i64 1000))⟩]
abbrev c19_r69 : List Ins := [
  ⟨some 241, none, .mov (.t 28)⟩,
  ⟨some 242, none, .iaddrA 1000 1 (.t 16) (.t 241)⟩,
  ⟨some 243, none, .load 1 false (.t 242)⟩]
abbrev c19_r70 : List Ins := [
  ⟨some 244, none, .mov (.t 28)⟩,
  ⟨some 245, none, .mov (.t 13)⟩,
  ⟨some 246, none, .mov (.t 28)⟩,
  ⟨some 247, none, .nilck (.t 245)⟩,
  ⟨some 248, none, .faddr 0 (.t 247)⟩,
  ⟨some 249, none, .iaddrA 1000 1 (.t 248) (.t 246)⟩,
  ⟨some 250, none, .load 1 false (.t 249)⟩,
  ⟨some 251, none, .un .not (.t 250)⟩,
  ⟨some 252, none, .build [.int .i64 0, .bool false, .int .i64 0] [(0, (1, .t 244)), (1, (1, .t 251))]⟩,
  ⟨some 29, none, .alloc [.int .i64 0, .bool false, .int .i64 0]⟩,
  ⟨none, none, .store 3 (.t 29) (.t 252)⟩]
abbrev c19_r71 : List Ins := [
  ⟨some 253, none, .mov (.t 13)⟩,
  ⟨some 254, none, .mov (.t 28)⟩,
  ⟨some 255, none, .nilck (.t 253)⟩,
  ⟨some 256, none, .faddr 0 (.t 255)⟩,
  ⟨some 257, none, .iaddrA 1000 1 (.t 256) (.t 254)⟩,
  ⟨some 258, none, .load 1 false (.t 257)⟩]
abbrev c19_r72 : List Ins := [
  ⟨some 259, none, .mov (.t 13)⟩,
  ⟨some 260, none, .mov (.t 28)⟩,
  ⟨some 261, none, .nilck (.t 259)⟩,
  ⟨some 262, none, .faddr 1000 (.t 261)⟩,
  ⟨some 263, none, .iaddrA 1000 1 (.t 262) (.t 260)⟩,
  ⟨some 264, none, .load 1 false (.t 263)⟩,
  ⟨some 265, none, .faddr 2 (.t 29)⟩,
  ⟨none, none, .store 1 (.t 265) (.t 264)⟩]
abbrev c19_r73 : List Ins := [
  ⟨some 266, none, .faddr 8 (.t 27)⟩,
  ⟨some 267, none, .load 1 false (.t 266)⟩,
  ⟨some 268, none, .load 3 true (.t 29)⟩,
  ⟨some 269, none, .bsl 3 1 [.int .i64 0, .bool false, .int .i64 0] [(0, .t 268)]⟩,
  ⟨some 270, none, .append 3 24 (.t 267) (.t 269)⟩,
  ⟨some 271, none, .faddr 8 (.t 27)⟩,
  ⟨none, none, .store 1 (.t 271) (.t 270)⟩]
abbrev c19_r74 : List Ins := [
  ⟨some 239, none, .mov (.t 28)⟩,
  ⟨some 240, none, .bin .add (.t 239) (.c (.int .i64 1))⟩,
  ⟨some 28, none, .mov (.t 240)⟩]
abbrev c19_l75 : IR := .seq (.seq (.reg c19_r68) (.cond (.t 238) (.skip) (.exit 7))) (.seq (.blk 8 (.seq (.reg c19_r69) (.cond (.t 243) (.seq (.reg c19_r70) (.seq (.seq (.reg c19_r71) (.cond (.t 258) (.reg c19_r72) (.skip))) (.reg c19_r73))) (.skip)))) (.reg c19_r74))
abbrev c19_r76 : List Ins := [
  ⟨some 272, none, .load 9 true (.t 27)⟩,
  ⟨none, none, .store 9 (.t 10) (.t 272)⟩]
abbrev c19 : IR := .seq (.reg c19_r1) (.seq (.seq (.reg c19_r2) (.cond (.t 33) (.seq (.reg c19_r3) (.ret)) (.skip))) (.seq (.dreg c19_r4 c19_a4) (.seq (.reg c19_r5) (.seq (.reg c19_r6) (.seq (.reg c19_r7) (.seq (.seq (.reg c19_r8) (.blk 0 (.loop c19_l65))) (.seq (.dreg c19_r66 c19_a66) (.seq (.seq (.reg c19_r67) (.blk 7 (.loop c19_l75))) (.seq (.reg c19_r76) (.ret))))))))))
abbrev F19 : FnA := ⟨273, c19, [.cell 10 9 true]⟩
theorem ok19 : cFn Try.prog 19 = some F19 := by kernel_rfl
theorem hb19 : HasBody Try.prog 19 := ⟨_, Try.func19, by kernel_rfl, by kernel_rfl⟩
/-! ref13.Of -/
abbrev c20_r1 : List Ins := [
  ⟨some 2, none, .mov (.c .nilptr)⟩]
abbrev c20_r2 : List Ins := [
  ⟨some 5, none, .build (List.replicate 1000 (.bool false) ++ List.replicate 1000 (.int .i64 0)) []⟩,
  ⟨some 6, none, .box (.t 5)⟩,
  ⟨some 3, none, .mov (.t 6)⟩]
abbrev c20_r3 : List Ins := [
  ⟨some 4, none, .mov (.c (.int .i64 0))⟩]
abbrev c20_r4 : List Ins := [
  ⟨some 7, none, .mov (.t 4)⟩,
  ⟨some 8, none, .mov (.t 0)⟩,
  ⟨some 9, none, .len (.t 8)⟩,
  ⟨some 10, none, .bin .lss (.t 7) (.t 9)⟩]
abbrev c20_r5 : List Ins := [
  ⟨some 13, none, .mov (.t 0)⟩,
  ⟨some 14, none, .mov (.t 4)⟩,
  ⟨some 15, none, .iaddr 2 (.t 13) (.t 14)⟩,
  ⟨some 16, none, .faddr 0 (.t 15)⟩,
  ⟨some 17, none, .load 1 false (.t 16)⟩,
  ⟨some 18, none, .bin .geq (.t 17) (.c (.int .i64 0))⟩,
  ⟨some 19, none, .mov (.t 18)⟩,
  ⟨some 20, some (19, true), .mov (.t 0)⟩,
  ⟨some 21, some (19, true), .mov (.t 4)⟩,
  ⟨some 22, some (19, true), .iaddr 2 (.t 20) (.t 21)⟩,
  ⟨some 23, some (19, true), .faddr 0 (.t 22)⟩,
  ⟨some 24, some (19, true), .load 1 false (.t 23)⟩,
  ⟨some 25, some (19, true), .bin .leq (.t 24) (.c (.int .i64 999))⟩,
  ⟨some 26, none, .pick (.t 19) (.t 25) (.c (.bool false))⟩]
abbrev c20_r6 : List Ins := [
  ⟨some 27, none, .mov (.t 3)⟩,
  ⟨some 28, none, .mov (.t 0)⟩,
  ⟨some 29, none, .mov (.t 4)⟩,
  ⟨some 30, none, .iaddr 2 (.t 28) (.t 29)⟩,
  ⟨some 31, none, .faddr 0 (.t 30)⟩,
  ⟨some 32, none, .load 1 false (.t 31)⟩,
  ⟨some 33, none, .nilck (.t 27)⟩,
  ⟨some 34, none, .faddr 0 (.t 33)⟩,
  ⟨some 35, none, .iaddrA 1000 1 (.t 34) (.t 32)⟩,
  ⟨none, none, .store 1 (.t 35) (.c (.bool true))⟩]
def c20_a6 : List (List Nat) := [[], [], [], [1, 2], [3], [4], [0], [6], [7, 5, 0, 1, 2, 3, 4, 5], [8, 0, 1, 2, 3, 4, 5]]
abbrev c20_m6 : List Am.Mark := [⟨false, 0, 0⟩, ⟨false, 0, 0⟩, ⟨false, 0, 0⟩, ⟨false, 0, 0⟩, ⟨false, 0, 0⟩, ⟨false, 0, 0⟩, ⟨false, 0, 1⟩, ⟨false, 0, 1⟩, ⟨false, 0, 0⟩, ⟨true, 0, 1⟩]
theorem c20_d6 : drawFine c20_r6 c20_a6 c20_m6 = true := by decide +kernel
abbrev c20_r7 : List Ins := [
  ⟨some 36, none, .mov (.t 3)⟩,
  ⟨some 37, none, .mov (.t 0)⟩,
  ⟨some 38, none, .mov (.t 4)⟩,
  ⟨some 39, none, .iaddr 2 (.t 37) (.t 38)⟩,
  ⟨some 40, none, .faddr 0 (.t 39)⟩,
  ⟨some 41, none, .load 1 false (.t 40)⟩,
  ⟨some 42, none, .mov (.t 0)⟩,
  ⟨some 43, none, .mov (.t 4)⟩,
  ⟨some 44, none, .iaddr 2 (.t 42) (.t 43)⟩,
  ⟨some 45, none, .faddr 1 (.t 44)⟩,
  ⟨some 46, none, .load 1 false (.t 45)⟩,
  ⟨some 47, none, .nilck (.t 36)⟩,
  ⟨some 48, none, .faddr 1000 (.t 47)⟩,
  ⟨some 49, none, .iaddrA 1000 1 (.t 48) (.t 41)⟩,
  ⟨none, none, .store 1 (.t 49) (.t 46)⟩]
def c20_a7 : List (List Nat) := [[], [], [], [1, 2], [3], [4], [], [], [6, 7], [8], [9], [0], [11], [12, 5, 0, 1, 2, 3, 4, 5, 6, 7, 8, 9, 10], [13, 10, 0, 1, 2, 3, 4, 5, 6, 7, 8, 9, 10]]
abbrev c20_m7 : List Am.Mark := [⟨false, 0, 0⟩, ⟨false, 0, 0⟩, ⟨false, 0, 0⟩, ⟨false, 0, 0⟩, ⟨false, 0, 0⟩, ⟨false, 0, 0⟩, ⟨false, 0, 0⟩, ⟨false, 0, 0⟩, ⟨false, 0, 0⟩, ⟨false, 0, 0⟩, ⟨false, 0, 0⟩, ⟨false, 0, 1⟩, ⟨false, 0, 1⟩, ⟨false, 0, 0⟩, ⟨true, 0, 1⟩]
theorem c20_d7 : drawFine c20_r7 c20_a7 c20_m7 = true := by decide +kernel
abbrev c20_r8 : List Ins := [
  ⟨some 11, none, .mov (.t 4)⟩,
  ⟨some 12, none, .bin .add (.t 11) (.c (.int .i64 1))⟩,
  ⟨some 4, none, .mov (.t 12)⟩]
abbrev c20_l9 : IR := .seq (.seq (.reg c20_r4) (.cond (.t 10) (.skip) (.exit 0))) (.seq (.blk 1 (.seq (.reg c20_r5) (.cond (.t 26) (.seq (.dreg c20_r6 c20_a6) (.dreg c20_r7 c20_a7)) (.skip)))) (.reg c20_r8))
abbrev c20_r10 : List Ins := [
  ⟨some 50, none, .mov (.t 3)⟩,
  ⟨some 2, none, .mov (.t 50)⟩]
abbrev c20 : IR := .seq (.reg c20_r1) (.seq (.reg c20_r2) (.seq (.seq (.reg c20_r3) (.blk 0 (.loop c20_l9))) (.seq (.reg c20_r10) (.ret))))
abbrev F20 : FnA := ⟨51, c20, [.t 2]⟩
theorem ok20 : cFn Try.prog 20 = some F20 := by kernel_rfl
theorem hb20 : HasBody Try.prog 20 := ⟨_, Try.func20, by kernel_rfl, by kernel_rfl⟩
/-! law27.alive$1 -/
abbrev c43_r1 : List Ins := [
  ⟨some 4, none, .alloc [.int .i64 0, .int .i64 0]⟩]
abbrev c43_r2 : List Ins := [
  ⟨some 5, none, .mov (.t 0)⟩,
  ⟨some 6, none, .mov (.t 1)⟩,
  ⟨some 7, none, .build [.int .i64 0, .int .i64 0] [(0, (1, .t 5)), (1, (1, .t 6))]⟩,
  ⟨none, none, .store 2 (.t 4) (.t 7)⟩]
abbrev c43 : IR := .seq (.reg c43_r1) (.seq (.reg c43_r2) (.ret))
abbrev F43 : FnA := ⟨8, c43, [.cell 4 2 true]⟩
theorem ok43 : cFn Try.prog 43 = some F43 := by kernel_rfl
theorem hb43 : HasBody Try.prog 43 := ⟨_, Try.func43, by kernel_rfl, by kernel_rfl⟩
/-! lint.Span -/
abbrev c44_r1 : List Ins := [
  ⟨some 2, none, .box (.t 0)⟩,
  ⟨some 4, none, .mov (.c (.sl .full []))⟩]
abbrev c44_r2 : List Ins := [
  ⟨some 5, none, .load 5 true (.t 2)⟩,
  ⟨some 6, none, .bsl 5 1 [.int .i64 0, .int .i64 0, .int .i64 0, .int .i64 0, .bool false] [(0, .t 5)]⟩,
  ⟨some 7, none, .mov (.t 1)⟩,
  ⟨some 8, none, .call (.c (.fn 47 [] [])) [.t 6, .t 7]⟩,
  ⟨some 9, none, .un .not (.t 8)⟩]
abbrev c44_r3 : List Ins := [
  ⟨some 4, none, .mov (.c (.sl .full []))⟩]
abbrev c44_r4 : List Ins := [
  ⟨some 10, none, .faddr 0 (.t 2)⟩,
  ⟨some 11, none, .faddr 0 (.t 10)⟩,
  ⟨some 12, none, .load 1 false (.t 11)⟩,
  ⟨some 13, none, .faddr 2 (.t 2)⟩,
  ⟨some 14, none, .faddr 0 (.t 13)⟩,
  ⟨some 15, none, .load 1 false (.t 14)⟩,
  ⟨some 16, none, .bin .eql (.t 12) (.t 15)⟩,
  ⟨some 17, none, .mov (.t 16)⟩,
  ⟨some 18, some (17, true), .faddr 0 (.t 2)⟩,
  ⟨some 19, some (17, true), .faddr 1 (.t 18)⟩,
  ⟨some 20, some (17, true), .load 1 false (.t 19)⟩,
  ⟨some 21, some (17, true), .faddr 2 (.t 2)⟩,
  ⟨some 22, some (17, true), .faddr 1 (.t 21)⟩,
  ⟨some 23, some (17, true), .load 1 false (.t 22)⟩,
  ⟨some 24, some (17, true), .bin .gtr (.t 20) (.t 23)⟩,
  ⟨some 25, none, .pick (.t 17) (.t 24) (.c (.bool false))⟩]
abbrev c44_r5 : List Ins := [
  ⟨some 4, none, .mov (.c (.sl .full []))⟩]
abbrev c44_r6 : List Ins := [
  ⟨some 26, none, .faddr 0 (.t 2)⟩,
  ⟨some 27, none, .faddr 1 (.t 26)⟩,
  ⟨some 28, none, .load 1 false (.t 27)⟩,
  ⟨some 29, none, .faddr 2 (.t 2)⟩,
  ⟨some 30, none, .load 2 true (.t 29)⟩,
  ⟨some 31, none, .call (.c (.fn 102 [] [])) [.t 30]⟩,
  ⟨some 32, none, .build [.int .i64 0, .int .i64 0] [(0, (1, .t 28)), (1, (1, .t 31))]⟩,
  ⟨some 33, none, .bsl 2 1 [.int .i64 0, .int .i64 0] [(0, .t 32)]⟩,
  ⟨some 34, none, .call (.c (.fn 101 [] [])) [.t 33]⟩,
  ⟨some 4, none, .mov (.t 34)⟩]
def c44_a6 : List (List Nat) := [[], [0], [1], [], [3], [4], [2, 5], [6], [7, 5], [8, 8, 0, 1, 2, 3, 4, 5, 6, 7, 8]]
abbrev c44_m6 : List Am.Mark := [⟨false, 0, 0⟩, ⟨false, 0, 0⟩, ⟨false, 0, 0⟩, ⟨false, 0, 0⟩, ⟨false, 0, 0⟩, ⟨false, 0, 0⟩, ⟨false, 0, 0⟩, ⟨false, 0, 0⟩, ⟨false, 0, 0⟩, ⟨false, 0, 0⟩]
theorem c44_d6 : drawFine c44_r6 c44_a6 c44_m6 = true := by decide +kernel
abbrev c44 : IR := .seq (.reg c44_r1) (.seq (.seq (.reg c44_r2) (.cond (.t 9) (.seq (.reg c44_r3) (.ret)) (.skip))) (.seq (.seq (.reg c44_r4) (.cond (.t 25) (.seq (.reg c44_r5) (.ret)) (.skip))) (.seq (.dreg c44_r6 c44_a6) (.ret))))
abbrev F44 : FnA := ⟨35, c44, [.t 4]⟩
theorem ok44 : cFn Try.prog 44 = some F44 := by kernel_rfl
theorem hb44 : HasBody Try.prog 44 := ⟨_, Try.func44, by kernel_rfl, by kernel_rfl⟩
/-! ref04.Same -/
abbrev c45_r1 : List Ins := [
  ⟨some 4, none, .mov (.c (.bool false))⟩]
abbrev c45_r2 : List Ins := [
  ⟨some 6, none, .mov (.t 0)⟩,
  ⟨some 7, none, .len (.t 6)⟩,
  ⟨some 8, none, .mov (.t 1)⟩,
  ⟨some 9, none, .len (.t 8)⟩,
  ⟨some 10, none, .bin .neq (.t 7) (.t 9)⟩]
abbrev c45_r3 : List Ins := [
  ⟨some 4, none, .mov (.c (.bool false))⟩]
abbrev c45_r4 : List Ins := [
  ⟨some 5, none, .mov (.c (.int .i64 0))⟩]
abbrev c45_r5 : List Ins := [
  ⟨some 11, none, .mov (.t 5)⟩,
  ⟨some 12, none, .mov (.t 0)⟩,
  ⟨some 13, none, .len (.t 12)⟩,
  ⟨some 14, none, .bin .lss (.t 11) (.t 13)⟩]
abbrev c45_r6 : List Ins := [
  ⟨some 17, none, .mov (.t 0)⟩,
  ⟨some 18, none, .mov (.t 5)⟩,
  ⟨some 19, none, .iaddr 2 (.t 17) (.t 18)⟩,
  ⟨some 20, none, .load 2 true (.t 19)⟩,
  ⟨some 21, none, .mov (.t 1)⟩,
  ⟨some 22, none, .mov (.t 5)⟩,
  ⟨some 23, none, .iaddr 2 (.t 21) (.t 22)⟩,
  ⟨some 24, none, .load 2 true (.t 23)⟩,
  ⟨some 25, none, .eq [.i, .i] true true (.t 20) (.t 24)⟩]
def c45_a6 : List (List Nat) := [[], [], [0, 1], [2], [], [], [4, 5], [6], [3, 7]]
abbrev c45_m6 : List Am.Mark := [⟨false, 0, 0⟩, ⟨false, 0, 0⟩, ⟨false, 0, 0⟩, ⟨false, 0, 0⟩, ⟨false, 0, 0⟩, ⟨false, 0, 0⟩, ⟨false, 0, 0⟩, ⟨false, 0, 0⟩, ⟨false, 0, 0⟩]
theorem c45_d6 : drawFine c45_r6 c45_a6 c45_m6 = true := by decide +kernel
abbrev c45_r7 : List Ins := [
  ⟨some 4, none, .mov (.c (.bool false))⟩]
abbrev c45_r8 : List Ins := [
  ⟨some 15, none, .mov (.t 5)⟩,
  ⟨some 16, none, .bin .add (.t 15) (.c (.int .i64 1))⟩,
  ⟨some 5, none, .mov (.t 16)⟩]
abbrev c45_l9 : IR := .seq (.seq (.reg c45_r5) (.cond (.t 14) (.skip) (.exit 0))) (.seq (.blk 1 (.seq (.dreg c45_r6 c45_a6) (.cond (.t 25) (.seq (.reg c45_r7) (.ret)) (.skip)))) (.reg c45_r8))
abbrev c45_r10 : List Ins := [
  ⟨some 4, none, .mov (.c (.bool true))⟩]
abbrev c45 : IR := .seq (.reg c45_r1) (.seq (.seq (.reg c45_r2) (.cond (.t 10) (.seq (.reg c45_r3) (.ret)) (.skip))) (.seq (.seq (.reg c45_r4) (.blk 0 (.loop c45_l9))) (.seq (.reg c45_r10) (.ret))))
abbrev F45 : FnA := ⟨26, c45, [.t 4]⟩
theorem ok45 : cFn Try.prog 45 = some F45 := by kernel_rfl
theorem hb45 : HasBody Try.prog 45 := ⟨_, Try.func45, by kernel_rfl, by kernel_rfl⟩
/-! prog.May -/
abbrev c46_r1 : List Ins := [
  ⟨some 3, none, .box (.t 1)⟩,
  ⟨some 4, none, .mov (.c (.bool false))⟩]
abbrev c46_r2 : List Ins := [
  ⟨some 5, none, .load 1 false (.t 3)⟩,
  ⟨some 6, none, .bin .lss (.t 5) (.c (.int .i64 0))⟩,
  ⟨some 7, none, .mov (.t 6)⟩,
  ⟨some 8, some (7, false), .load 1 false (.t 3)⟩,
  ⟨some 9, some (7, false), .bin .gtr (.t 8) (.c (.int .i64 3))⟩,
  ⟨some 10, none, .pick (.t 7) (.c (.bool true)) (.t 9)⟩,
  ⟨some 11, none, .mov (.t 10)⟩,
  ⟨some 12, some (11, false), .mov (.t 0)⟩,
  ⟨some 13, some (11, false), .len (.t 12)⟩,
  ⟨some 14, some (11, false), .bin .lss (.t 13) (.c (.int .i64 1))⟩,
  ⟨some 15, none, .pick (.t 11) (.c (.bool true)) (.t 14)⟩,
  ⟨some 16, none, .mov (.t 15)⟩,
  ⟨some 17, some (16, false), .mov (.t 0)⟩,
  ⟨some 18, some (16, false), .len (.t 17)⟩,
  ⟨some 19, some (16, false), .bin .gtr (.t 18) (.c (.int .i64 8))⟩,
  ⟨some 20, none, .pick (.t 16) (.c (.bool true)) (.t 19)⟩]
abbrev c46_r3 : List Ins := [
  ⟨some 4, none, .mov (.c (.bool false))⟩]
abbrev c46_r4 : List Ins := [
  ⟨some 21, none, .mov (.t 0)⟩,
  ⟨some 22, none, .mkfn 103 [] [.t 3]⟩,
  ⟨some 23, none, .call (.c (.fn 53 [] [])) [.t 21, .t 22]⟩,
  ⟨some 24, none, .un .not (.t 23)⟩,
  ⟨some 4, none, .mov (.t 24)⟩]
abbrev c46 : IR := .seq (.reg c46_r1) (.seq (.seq (.reg c46_r2) (.cond (.t 20) (.seq (.reg c46_r3) (.ret)) (.skip))) (.seq (.reg c46_r4) (.ret)))
abbrev F46 : FnA := ⟨25, c46, [.t 4]⟩
theorem ok46 : cFn Try.prog 46 = some F46 := by kernel_rfl
theorem hb46 : HasBody Try.prog 46 := ⟨_, Try.func46, by kernel_rfl, by kernel_rfl⟩
/-! foot.May -/
abbrev c47_r1 : List Ins := [
  ⟨some 3, none, .box (.t 1)⟩,
  ⟨some 4, none, .mov (.c (.bool false))⟩]
abbrev c47_r2 : List Ins := [
  ⟨some 6, none, .mkfn 105 [] [.t 3]⟩,
  ⟨some 5, none, .mov (.t 6)⟩]
abbrev c47_r3 : List Ins := [
  ⟨some 7, none, .load 1 false (.t 3)⟩,
  ⟨some 8, none, .bin .geq (.t 7) (.c (.int .i64 0))⟩,
  ⟨some 9, none, .mov (.t 8)⟩,
  ⟨some 10, some (9, true), .load 1 false (.t 3)⟩,
  ⟨some 11, some (9, true), .bin .leq (.t 10) (.c (.int .i64 3))⟩,
  ⟨some 12, none, .pick (.t 9) (.t 11) (.c (.bool false))⟩,
  ⟨some 13, none, .mov (.t 12)⟩,
  ⟨some 14, some (13, true), .mov (.t 0)⟩,
  ⟨some 15, some (13, true), .len (.t 14)⟩,
  ⟨some 16, some (13, true), .bin .leq (.t 15) (.c (.int .i64 4))⟩,
  ⟨some 17, none, .pick (.t 13) (.t 16) (.c (.bool false))⟩,
  ⟨some 18, none, .mov (.t 17)⟩,
  ⟨some 19, some (18, true), .mov (.t 0)⟩,
  ⟨some 20, some (18, true), .mov (.t 5)⟩,
  ⟨some 21, some (18, true), .call (.c (.fn 50 [] [])) [.t 19, .t 20]⟩,
  ⟨some 22, some (18, true), .un .not (.t 21)⟩,
  ⟨some 23, none, .pick (.t 18) (.t 22) (.c (.bool false))⟩,
  ⟨some 4, none, .mov (.t 23)⟩]
abbrev c47 : IR := .seq (.reg c47_r1) (.seq (.reg c47_r2) (.seq (.reg c47_r3) (.ret)))
abbrev F47 : FnA := ⟨24, c47, [.t 4]⟩
theorem ok47 : cFn Try.prog 47 = some F47 := by kernel_rfl
theorem hb47 : HasBody Try.prog 47 := ⟨_, Try.func47, by kernel_rfl, by kernel_rfl⟩
/-! lint.Tight$1 -/
abbrev c48_r1 : List Ins := [
  ⟨some 2, none, .box (.t 0)⟩,
  ⟨some 3, none, .mov (.c (.bool false))⟩]
abbrev c48_r2 : List Ins := [
  ⟨some 4, none, .load 9 true (.t 2)⟩,
  ⟨some 5, none, .call (.c (.fn 49 [] [])) [.t 4]⟩,
  ⟨some 6, none, .mov (.t 5)⟩,
  ⟨some 7, some (6, true), .faddr 1 (.t 1)⟩,
  ⟨some 8, some (6, true), .load 1 false (.t 7)⟩,
  ⟨some 9, some (6, true), .mkfn 51 [] [.t 2]⟩,
  ⟨some 10, some (6, true), .call (.c (.fn 50 [] [])) [.t 8, .t 9]⟩,
  ⟨some 11, some (6, true), .un .not (.t 10)⟩,
  ⟨some 12, none, .pick (.t 6) (.t 11) (.c (.bool false))⟩,
  ⟨some 3, none, .mov (.t 12)⟩]
abbrev c48 : IR := .seq (.reg c48_r1) (.seq (.reg c48_r2) (.ret))
abbrev F48 : FnA := ⟨13, c48, [.t 3]⟩
theorem ok48 : cFn Try.prog 48 = some F48 := by kernel_rfl
theorem hb48 : HasBody Try.prog 48 := ⟨_, Try.func48, by kernel_rfl, by kernel_rfl⟩
/-! lint.asks -/
abbrev c49_r1 : List Ins := [
  ⟨some 1, none, .box (.t 0)⟩,
  ⟨some 2, none, .mov (.c (.bool false))⟩]
abbrev c49_r2 : List Ins := [
  ⟨some 3, none, .faddr 0 (.t 1)⟩,
  ⟨some 4, none, .load 1 false (.t 3)⟩,
  ⟨some 5, none, .bin .geq (.t 4) (.c (.int .i64 1))⟩,
  ⟨some 6, none, .mov (.t 5)⟩,
  ⟨some 7, some (6, true), .faddr 0 (.t 1)⟩,
  ⟨some 8, some (6, true), .load 1 false (.t 7)⟩,
  ⟨some 9, some (6, true), .bin .leq (.t 8) (.c (.int .i64 4))⟩,
  ⟨some 10, none, .pick (.t 6) (.t 9) (.c (.bool false))⟩,
  ⟨some 2, none, .mov (.t 10)⟩]
abbrev c49 : IR := .seq (.reg c49_r1) (.seq (.reg c49_r2) (.ret))
abbrev F49 : FnA := ⟨11, c49, [.t 2]⟩
theorem ok49 : cFn Try.prog 49 = some F49 := by kernel_rfl
theorem hb49 : HasBody Try.prog 49 := ⟨_, Try.func49, by kernel_rfl, by kernel_rfl⟩
/-! slices.ContainsFunc:SpanT -/
abbrev c50_r1 : List Ins := [
  ⟨some 4, none, .mov (.c (.bool false))⟩]
abbrev c50_r2 : List Ins := [
  ⟨some 5, none, .mov (.t 0)⟩,
  ⟨some 6, none, .mov (.t 1)⟩,
  ⟨some 7, none, .call (.c (.fn 107 [] [])) [.t 5, .t 6]⟩,
  ⟨some 8, none, .bin .geq (.t 7) (.c (.int .i64 0))⟩,
  ⟨some 4, none, .mov (.t 8)⟩]
abbrev c50 : IR := .seq (.reg c50_r1) (.seq (.reg c50_r2) (.ret))
abbrev F50 : FnA := ⟨9, c50, [.t 4]⟩
theorem ok50 : cFn Try.prog 50 = some F50 := by kernel_rfl
theorem hb50 : HasBody Try.prog 50 := ⟨_, Try.func50, by kernel_rfl, by kernel_rfl⟩
/-! lint.Tight$1$1 -/
abbrev c51_r1 : List Ins := [
  ⟨some 2, none, .box (.t 0)⟩,
  ⟨some 3, none, .mov (.c (.bool false))⟩]
abbrev c51_r2 : List Ins := [
  ⟨some 4, none, .load 9 true (.t 1)⟩,
  ⟨some 5, none, .load 5 true (.t 2)⟩,
  ⟨some 6, none, .call (.c (.fn 52 [] [])) [.t 4, .t 5]⟩,
  ⟨some 3, none, .mov (.t 6)⟩]
abbrev c51 : IR := .seq (.reg c51_r1) (.seq (.reg c51_r2) (.ret))
abbrev F51 : FnA := ⟨7, c51, [.t 3]⟩
theorem ok51 : cFn Try.prog 51 = some F51 := by kernel_rfl
theorem hb51 : HasBody Try.prog 51 := ⟨_, Try.func51, by kernel_rfl, by kernel_rfl⟩
/-! lint.inside -/
abbrev c52_r1 : List Ins := [
  ⟨some 2, none, .box (.t 0)⟩,
  ⟨some 3, none, .box (.t 1)⟩,
  ⟨some 4, none, .mov (.c (.bool false))⟩]
abbrev c52_r2 : List Ins := [
  ⟨some 7, none, .faddr 4 (.t 2)⟩,
  ⟨some 8, none, .load 2 true (.t 7)⟩,
  ⟨some 5, none, .alloc [.int .i64 0, .int .i64 0]⟩,
  ⟨none, none, .store 2 (.t 5) (.t 8)⟩]
abbrev c52_r3 : List Ins := [
  ⟨some 9, none, .faddr 0 (.t 2)⟩,
  ⟨some 10, none, .load 1 false (.t 9)⟩]
abbrev c52_r4 : List Ins := [
  ⟨some 12, none, .bin .eql (.t 10) (.c (.int .i64 2))⟩,
  ⟨some 11, none, .mov (.t 12)⟩]
abbrev c52_r5 : List Ins := [
  ⟨some 13, none, .bin .eql (.t 10) (.c (.int .i64 3))⟩,
  ⟨some 11, none, .mov (.t 13)⟩]
abbrev c52_r6 : List Ins := [
  ⟨some 14, none, .faddr 4 (.t 3)⟩,
  ⟨some 15, none, .load 1 false (.t 14)⟩,
  ⟨some 16, none, .un .not (.t 15)⟩]
abbrev c52_r7 : List Ins := [
  ⟨some 4, none, .mov (.c (.bool false))⟩]
abbrev c52_r8 : List Ins := [
  ⟨some 18, none, .bin .eql (.t 10) (.c (.int .i64 4))⟩,
  ⟨some 17, none, .mov (.t 18)⟩]
abbrev c52_r9 : List Ins := [
  ⟨some 19, none, .faddr 6 (.t 2)⟩,
  ⟨some 20, none, .load 2 true (.t 19)⟩,
  ⟨none, none, .store 2 (.t 5) (.t 20)⟩]
abbrev c52_r10 : List Ins := [
  ⟨some 21, none, .faddr 4 (.t 2)⟩,
  ⟨some 22, none, .faddr 0 (.t 21)⟩,
  ⟨some 23, none, .load 1 false (.t 22)⟩,
  ⟨some 24, none, .faddr 1 (.t 5)⟩,
  ⟨some 25, none, .load 1 false (.t 24)⟩,
  ⟨some 26, none, .build [.int .i64 0, .int .i64 0] [(0, (1, .t 23)), (1, (1, .t 25))]⟩,
  ⟨some 27, none, .load 2 true (.t 5)⟩,
  ⟨some 28, none, .eq [.i, .i] true false (.t 26) (.t 27)⟩,
  ⟨some 29, none, .mov (.t 28)⟩,
  ⟨some 30, some (29, true), .faddr 0 (.t 3)⟩,
  ⟨some 31, some (29, true), .faddr 0 (.t 30)⟩,
  ⟨some 32, some (29, true), .load 1 false (.t 31)⟩,
  ⟨some 33, some (29, true), .faddr 4 (.t 2)⟩,
  ⟨some 34, some (29, true), .faddr 0 (.t 33)⟩,
  ⟨some 35, some (29, true), .load 1 false (.t 34)⟩,
  ⟨some 36, some (29, true), .bin .eql (.t 32) (.t 35)⟩,
  ⟨some 37, none, .pick (.t 29) (.t 36) (.c (.bool false))⟩,
  ⟨some 38, none, .mov (.t 37)⟩,
  ⟨some 39, some (38, true), .faddr 2 (.t 3)⟩,
  ⟨some 40, some (38, true), .faddr 0 (.t 39)⟩,
  ⟨some 41, some (38, true), .load 1 false (.t 40)⟩,
  ⟨some 42, some (38, true), .faddr 4 (.t 2)⟩,
  ⟨some 43, some (38, true), .faddr 0 (.t 42)⟩,
  ⟨some 44, some (38, true), .load 1 false (.t 43)⟩,
  ⟨some 45, some (38, true), .bin .eql (.t 41) (.t 44)⟩,
  ⟨some 46, none, .pick (.t 38) (.t 45) (.c (.bool false))⟩,
  ⟨some 6, none, .mov (.t 46)⟩]
abbrev c52_r11 : List Ins := [
  ⟨some 47, none, .mov (.t 6)⟩,
  ⟨some 48, none, .mov (.t 47)⟩,
  ⟨some 49, some (48, true), .faddr 0 (.t 3)⟩,
  ⟨some 50, some (48, true), .faddr 1 (.t 49)⟩,
  ⟨some 51, some (48, true), .load 1 false (.t 50)⟩,
  ⟨some 52, some (48, true), .faddr 4 (.t 2)⟩,
  ⟨some 53, some (48, true), .faddr 1 (.t 52)⟩,
  ⟨some 54, some (48, true), .load 1 false (.t 53)⟩,
  ⟨some 55, some (48, true), .bin .leq (.t 51) (.t 54)⟩,
  ⟨some 56, none, .pick (.t 48) (.t 55) (.c (.bool false))⟩,
  ⟨some 57, none, .mov (.t 56)⟩,
  ⟨some 58, some (57, true), .faddr 1 (.t 5)⟩,
  ⟨some 59, some (57, true), .load 1 false (.t 58)⟩,
  ⟨some 60, some (57, true), .faddr 2 (.t 3)⟩,
  ⟨some 61, some (57, true), .faddr 1 (.t 60)⟩,
  ⟨some 62, some (57, true), .load 1 false (.t 61)⟩,
  ⟨some 63, some (57, true), .bin .leq (.t 59) (.t 62)⟩,
  ⟨some 64, none, .pick (.t 57) (.t 63) (.c (.bool false))⟩,
  ⟨some 4, none, .mov (.t 64)⟩]
abbrev c52 : IR := .seq (.reg c52_r1) (.seq (.reg c52_r2) (.seq (.seq (.reg c52_r3) (.blk 0 (.seq (.seq (.reg c52_r4) (.cond (.t 11) (.skip) (.reg c52_r5))) (.cond (.t 11) (.seq (.reg c52_r6) (.cond (.t 16) (.seq (.reg c52_r7) (.ret)) (.skip))) (.seq (.reg c52_r8) (.cond (.t 17) (.reg c52_r9) (.skip))))))) (.seq (.reg c52_r10) (.seq (.reg c52_r11) (.ret)))))
abbrev F52 : FnA := ⟨65, c52, [.t 4]⟩
theorem ok52 : cFn Try.prog 52 = some F52 := by kernel_rfl
theorem hb52 : HasBody Try.prog 52 := ⟨_, Try.func52, by kernel_rfl, by kernel_rfl⟩
/-! slices.ContainsFunc:Instr -/
abbrev c53_r1 : List Ins := [
  ⟨some 4, none, .mov (.c (.bool false))⟩]
abbrev c53_r2 : List Ins := [
  ⟨some 5, none, .mov (.t 0)⟩,
  ⟨some 6, none, .mov (.t 1)⟩,
  ⟨some 7, none, .call (.c (.fn 108 [] [])) [.t 5, .t 6]⟩,
  ⟨some 8, none, .bin .geq (.t 7) (.c (.int .i64 0))⟩,
  ⟨some 4, none, .mov (.t 8)⟩]
abbrev c53 : IR := .seq (.reg c53_r1) (.seq (.reg c53_r2) (.ret))
abbrev F53 : FnA := ⟨9, c53, [.t 4]⟩
theorem ok53 : cFn Try.prog 53 = some F53 := by kernel_rfl
theorem hb53 : HasBody Try.prog 53 := ⟨_, Try.func53, by kernel_rfl, by kernel_rfl⟩
/-! ref13.Right -/
abbrev c54_r1 : List Ins := [
  ⟨some 2, none, .box (.t 0)⟩,
  ⟨some 4, none, .mov (.c (.bool false))⟩]
abbrev c54_r2 : List Ins := [
  ⟨some 5, none, .mov (.t 1)⟩,
  ⟨some 6, none, .call (.c (.fn 18 [] [])) [.t 5]⟩,
  ⟨some 7, none, .mov (.t 6)⟩,
  ⟨some 8, some (7, true), .faddr 0 (.t 2)⟩,
  ⟨some 9, some (7, true), .load 1 false (.t 8)⟩,
  ⟨some 10, some (7, true), .len (.t 9)⟩,
  ⟨some 11, some (7, true), .bin .eql (.t 10) (.c (.int .i64 0))⟩,
  ⟨some 12, some (7, true), .mov (.t 11)⟩,
  ⟨some 13, some (12, false), .faddr 0 (.t 2)⟩,
  ⟨some 14, some (12, false), .load 1 false (.t 13)⟩,
  ⟨some 15, some (12, false), .mov (.t 1)⟩,
  ⟨some 16, some (12, false), .len (.t 15)⟩,
  ⟨some 17, some (12, false), .call (.c (.fn 97 [] [])) [.t 14, .t 16]⟩,
  ⟨some 18, some (7, true), .pick (.t 12) (.c (.bool true)) (.t 17)⟩,
  ⟨some 19, none, .pick (.t 7) (.t 18) (.c (.bool false))⟩,
  ⟨some 20, none, .mov (.t 19)⟩,
  ⟨some 21, some (20, true), .faddr 1 (.t 2)⟩,
  ⟨some 22, some (20, true), .load 1 false (.t 21)⟩,
  ⟨some 23, some (20, true), .mov (.t 1)⟩,
  ⟨some 24, some (20, true), .len (.t 23)⟩,
  ⟨some 25, some (20, true), .call (.c (.fn 98 [] [])) [.t 22, .t 24]⟩,
  ⟨some 26, none, .pick (.t 20) (.t 25) (.c (.bool false))⟩,
  ⟨some 4, none, .mov (.t 26)⟩]
abbrev c54 : IR := .seq (.reg c54_r1) (.seq (.reg c54_r2) (.ret))
abbrev F54 : FnA := ⟨27, c54, [.t 4]⟩
theorem ok54 : cFn Try.prog 54 = some F54 := by kernel_rfl
theorem hb54 : HasBody Try.prog 54 := ⟨_, Try.func54, by kernel_rfl, by kernel_rfl⟩
/-! ref10.Set -/
abbrev c55_r1 : List Ins := [
  ⟨some 6, none, .mov (.c .nilptr)⟩]
abbrev c55_r2 : List Ins := [
  ⟨some 7, none, .mov (.c (.sl .full []))⟩]
abbrev c55_r3 : List Ins := [
  ⟨some 8, none, .mov (.c (.int .i64 0))⟩]
abbrev c55_r4 : List Ins := [
  ⟨some 9, none, .mov (.t 8)⟩,
  ⟨some 10, none, .mov (.t 0)⟩,
  ⟨some 11, none, .len (.t 10)⟩,
  ⟨some 12, none, .bin .lss (.t 9) (.t 11)⟩]
abbrev c55_r5 : List Ins := [
  ⟨some 15, none, .mov (.t 0)⟩,
  ⟨some 16, none, .mov (.t 8)⟩,
  ⟨some 17, none, .iaddr 5 (.t 15) (.t 16)⟩,
  ⟨some 18, none, .faddr 4 (.t 17)⟩,
  ⟨some 19, none, .load 1 false (.t 18)⟩,
  ⟨some 20, none, .mov (.t 19)⟩,
  ⟨some 21, some (20, false), .mov (.t 2)⟩,
  ⟨some 22, some (20, false), .un .not (.t 21)⟩,
  ⟨some 23, none, .pick (.t 20) (.c (.bool true)) (.t 22)⟩]
abbrev c55_r6 : List Ins := [
  ⟨some 24, none, .mov (.t 7)⟩,
  ⟨some 25, none, .mov (.t 0)⟩,
  ⟨some 26, none, .mov (.t 8)⟩,
  ⟨some 27, none, .iaddr 5 (.t 25) (.t 26)⟩,
  ⟨some 28, none, .faddr 0 (.t 27)⟩,
  ⟨some 29, none, .load 2 true (.t 28)⟩,
  ⟨some 30, none, .mov (.t 1)⟩,
  ⟨some 31, none, .call (.c (.fn 57 [] [])) [.t 29, .t 30]⟩,
  ⟨some 32, none, .mov (.t 0)⟩,
  ⟨some 33, none, .mov (.t 8)⟩,
  ⟨some 34, none, .iaddr 5 (.t 32) (.t 33)⟩,
  ⟨some 35, none, .faddr 2 (.t 34)⟩,
  ⟨some 36, none, .load 2 true (.t 35)⟩,
  ⟨some 37, none, .mov (.t 1)⟩,
  ⟨some 38, none, .call (.c (.fn 57 [] [])) [.t 36, .t 37]⟩,
  ⟨some 39, none, .build [.int .i64 0, .int .i64 0] [(0, (1, .t 31)), (1, (1, .t 38))]⟩,
  ⟨some 40, none, .bsl 2 1 [.int .i64 0, .int .i64 0] [(0, .t 39)]⟩,
  ⟨some 41, none, .append 2 16 (.t 24) (.t 40)⟩,
  ⟨some 7, none, .mov (.t 41)⟩]
def c55_a6 : List (List Nat) := [[], [], [], [1, 2], [3], [4], [], [5, 6], [], [], [8, 9], [10], [11], [], [12, 13, 7], [7, 14], [15], [0, 16, 14], [17, 17, 0, 1, 2, 3, 4, 5, 6, 7, 8, 9, 10, 11, 12, 13, 14, 15, 16, 17]]
abbrev c55_m6 : List Am.Mark := [⟨false, 0, 0⟩, ⟨false, 0, 1⟩, ⟨false, 0, 1⟩, ⟨false, 0, 1⟩, ⟨false, 0, 1⟩, ⟨false, 0, 1⟩, ⟨false, 0, 1⟩, ⟨false, 0, 1⟩, ⟨false, 0, 1⟩, ⟨false, 0, 1⟩, ⟨false, 0, 1⟩, ⟨false, 0, 1⟩, ⟨false, 0, 1⟩, ⟨false, 0, 1⟩, ⟨false, 0, 0⟩, ⟨false, 0, 1⟩, ⟨false, 0, 0⟩, ⟨true, 0, 1⟩, ⟨false, 1, 1⟩]
theorem c55_d6 : drawFine c55_r6 c55_a6 c55_m6 = true := by decide +kernel
abbrev c55_r7 : List Ins := [
  ⟨some 13, none, .mov (.t 8)⟩,
  ⟨some 14, none, .bin .add (.t 13) (.c (.int .i64 1))⟩,
  ⟨some 8, none, .mov (.t 14)⟩]
abbrev c55_l8 : IR := .seq (.seq (.reg c55_r4) (.cond (.t 12) (.skip) (.exit 0))) (.seq (.blk 1 (.seq (.reg c55_r5) (.cond (.t 23) (.dreg c55_r6 c55_a6) (.skip)))) (.reg c55_r7))
abbrev c55_r9 : List Ins := [
  ⟨some 42, none, .mov (.t 7)⟩,
  ⟨some 43, none, .call (.c (.fn 68 [] [])) [.t 42]⟩,
  ⟨some 6, none, .mov (.t 43)⟩]
abbrev c55 : IR := .seq (.reg c55_r1) (.seq (.reg c55_r2) (.seq (.seq (.reg c55_r3) (.blk 0 (.loop c55_l8))) (.seq (.reg c55_r9) (.ret))))
abbrev F55 : FnA := ⟨44, c55, [.t 6]⟩
theorem ok55 : cFn Try.prog 55 = some F55 := by kernel_rfl
theorem hb55 : HasBody Try.prog 55 := ⟨_, Try.func55, by kernel_rfl, by kernel_rfl⟩
/-! ref13.Map.Copy -/
abbrev c56_r1 : List Ins := [
  ⟨some 2, none, .mov (.c .nilptr)⟩]
abbrev c56_r2 : List Ins := [
  ⟨some 4, none, .mov (.t 0)⟩,
  ⟨some 5, none, .nilck (.t 4)⟩,
  ⟨some 6, none, .load 2000 true (.t 5)⟩,
  ⟨some 3, none, .alloc (List.replicate 1000 (.bool false) ++ List.replicate 1000 (.int .i64 0))⟩,
  ⟨none, none, .store 2000 (.t 3) (.t 6)⟩]
abbrev c56_r3 : List Ins := [
  ⟨some 2, none, .mov (.t 3)⟩]
abbrev c56 : IR := .seq (.reg c56_r1) (.seq (.reg c56_r2) (.seq (.reg c56_r3) (.ret)))
abbrev F56 : FnA := ⟨7, c56, [.t 2]⟩
theorem ok56 : cFn Try.prog 56 = some F56 := by kernel_rfl
theorem hb56 : HasBody Try.prog 56 := ⟨_, Try.func56, by kernel_rfl, by kernel_rfl⟩
/-! ref09.Key -/
abbrev c57_r1 : List Ins := [
  ⟨some 2, none, .box (.t 0)⟩,
  ⟨some 4, none, .mov (.c (.int .i64 0))⟩]
abbrev c57_r2 : List Ins := [
  ⟨some 5, none, .faddr 0 (.t 2)⟩,
  ⟨some 6, none, .load 1 false (.t 5)⟩,
  ⟨some 7, none, .bin .lss (.t 6) (.c (.int .i64 0))⟩]
abbrev c57_r3 : List Ins := [
  ⟨some 8, none, .faddr 1 (.t 2)⟩,
  ⟨some 9, none, .load 1 false (.t 8)⟩,
  ⟨some 4, none, .mov (.t 9)⟩]
abbrev c57_r4 : List Ins := [
  ⟨some 10, none, .faddr 1 (.t 2)⟩,
  ⟨some 11, none, .load 1 false (.t 10)⟩,
  ⟨some 12, none, .mov (.t 1)⟩,
  ⟨some 13, none, .faddr 0 (.t 2)⟩,
  ⟨some 14, none, .load 1 false (.t 13)⟩,
  ⟨some 15, none, .iaddr 1 (.t 12) (.t 14)⟩,
  ⟨some 16, none, .load 1 false (.t 15)⟩,
  ⟨some 17, none, .bin .add (.t 11) (.t 16)⟩,
  ⟨some 4, none, .mov (.t 17)⟩]
def c57_a4 : List (List Nat) := [[], [0], [], [], [3], [2, 4], [5], [1, 6], [7, 0, 1, 2, 3, 4, 5, 6, 7]]
abbrev c57_m4 : List Am.Mark := [⟨false, 0, 0⟩, ⟨false, 0, 0⟩, ⟨false, 0, 0⟩, ⟨false, 0, 0⟩, ⟨false, 0, 0⟩, ⟨false, 0, 0⟩, ⟨false, 0, 0⟩, ⟨false, 0, 0⟩, ⟨false, 0, 0⟩]
theorem c57_d4 : drawFine c57_r4 c57_a4 c57_m4 = true := by decide +kernel
abbrev c57 : IR := .seq (.reg c57_r1) (.seq (.seq (.reg c57_r2) (.cond (.t 7) (.seq (.reg c57_r3) (.ret)) (.skip))) (.seq (.dreg c57_r4 c57_a4) (.ret)))
abbrev F57 : FnA := ⟨18, c57, [.t 4]⟩
theorem ok57 : cFn Try.prog 57 = some F57 := by kernel_rfl
theorem hb57 : HasBody Try.prog 57 := ⟨_, Try.func57, by kernel_rfl, by kernel_rfl⟩
/-! ref13.sum -/
abbrev c58_r1 : List Ins := [
  ⟨some 4, none, .mov (.c (.int .i64 0))⟩,
  ⟨some 5, none, .mov (.c (.bool false))⟩]
abbrev c58_r2 : List Ins := [
  ⟨some 6, none, .mov (.t 1)⟩,
  ⟨some 7, none, .bin .gtr (.t 6) (.c (.int .i64 0))⟩,
  ⟨some 8, none, .mov (.t 7)⟩,
  ⟨some 9, some (8, true), .mov (.t 0)⟩,
  ⟨some 10, some (8, true), .mov (.t 1)⟩,
  ⟨some 11, some (8, true), .bin .sub (.c (.int .i64 9223372036854775807)) (.t 10)⟩,
  ⟨some 12, some (8, true), .bin .gtr (.t 9) (.t 11)⟩,
  ⟨some 13, none, .pick (.t 8) (.t 12) (.c (.bool false))⟩,
  ⟨some 14, none, .mov (.t 13)⟩,
  ⟨some 15, some (14, false), .mov (.t 1)⟩,
  ⟨some 16, some (14, false), .bin .lss (.t 15) (.c (.int .i64 0))⟩,
  ⟨some 17, some (14, false), .mov (.t 16)⟩,
  ⟨some 18, some (17, true), .mov (.t 0)⟩,
  ⟨some 19, some (17, true), .mov (.t 1)⟩,
  ⟨some 20, some (17, true), .bin .sub (.c (.int .i64 (-9223372036854775808))) (.t 19)⟩,
  ⟨some 21, some (17, true), .bin .lss (.t 18) (.t 20)⟩,
  ⟨some 22, some (14, false), .pick (.t 17) (.t 21) (.c (.bool false))⟩,
  ⟨some 23, none, .pick (.t 14) (.c (.bool true)) (.t 22)⟩]
abbrev c58_r3 : List Ins := [
  ⟨some 4, none, .mov (.c (.int .i64 0))⟩,
  ⟨some 5, none, .mov (.c (.bool false))⟩]
abbrev c58_r4 : List Ins := [
  ⟨some 24, none, .mov (.t 0)⟩,
  ⟨some 25, none, .mov (.t 1)⟩,
  ⟨some 26, none, .bin .add (.t 24) (.t 25)⟩,
  ⟨some 4, none, .mov (.t 26)⟩,
  ⟨some 5, none, .mov (.c (.bool true))⟩]
abbrev c58 : IR := .seq (.reg c58_r1) (.seq (.seq (.reg c58_r2) (.cond (.t 23) (.seq (.reg c58_r3) (.ret)) (.skip))) (.seq (.reg c58_r4) (.ret)))
abbrev F58 : FnA := ⟨27, c58, [.t 4, .t 5]⟩
theorem ok58 : cFn Try.prog 58 = some F58 := by kernel_rfl
theorem hb58 : HasBody Try.prog 58 := ⟨_, Try.func58, by kernel_rfl, by kernel_rfl⟩
/-! ref13.less -/
abbrev c59_r1 : List Ins := [
  ⟨some 4, none, .mov (.c (.int .i64 0))⟩,
  ⟨some 5, none, .mov (.c (.bool false))⟩]
abbrev c59_r2 : List Ins := [
  ⟨some 6, none, .mov (.t 1)⟩,
  ⟨some 7, none, .bin .lss (.t 6) (.c (.int .i64 0))⟩,
  ⟨some 8, none, .mov (.t 7)⟩,
  ⟨some 9, some (8, true), .mov (.t 0)⟩,
  ⟨some 10, some (8, true), .mov (.t 1)⟩,
  ⟨some 11, some (8, true), .bin .add (.c (.int .i64 9223372036854775807)) (.t 10)⟩,
  ⟨some 12, some (8, true), .bin .gtr (.t 9) (.t 11)⟩,
  ⟨some 13, none, .pick (.t 8) (.t 12) (.c (.bool false))⟩,
  ⟨some 14, none, .mov (.t 13)⟩,
  ⟨some 15, some (14, false), .mov (.t 1)⟩,
  ⟨some 16, some (14, false), .bin .gtr (.t 15) (.c (.int .i64 0))⟩,
  ⟨some 17, some (14, false), .mov (.t 16)⟩,
  ⟨some 18, some (17, true), .mov (.t 0)⟩,
  ⟨some 19, some (17, true), .mov (.t 1)⟩,
  ⟨some 20, some (17, true), .bin .add (.c (.int .i64 (-9223372036854775808))) (.t 19)⟩,
  ⟨some 21, some (17, true), .bin .lss (.t 18) (.t 20)⟩,
  ⟨some 22, some (14, false), .pick (.t 17) (.t 21) (.c (.bool false))⟩,
  ⟨some 23, none, .pick (.t 14) (.c (.bool true)) (.t 22)⟩]
abbrev c59_r3 : List Ins := [
  ⟨some 4, none, .mov (.c (.int .i64 0))⟩,
  ⟨some 5, none, .mov (.c (.bool false))⟩]
abbrev c59_r4 : List Ins := [
  ⟨some 24, none, .mov (.t 0)⟩,
  ⟨some 25, none, .mov (.t 1)⟩,
  ⟨some 26, none, .bin .sub (.t 24) (.t 25)⟩,
  ⟨some 4, none, .mov (.t 26)⟩,
  ⟨some 5, none, .mov (.c (.bool true))⟩]
abbrev c59 : IR := .seq (.reg c59_r1) (.seq (.seq (.reg c59_r2) (.cond (.t 23) (.seq (.reg c59_r3) (.ret)) (.skip))) (.seq (.reg c59_r4) (.ret)))
abbrev F59 : FnA := ⟨27, c59, [.t 4, .t 5]⟩
theorem ok59 : cFn Try.prog 59 = some F59 := by kernel_rfl
theorem hb59 : HasBody Try.prog 59 := ⟨_, Try.func59, by kernel_rfl, by kernel_rfl⟩
/-! ref04.Plain -/
abbrev c60_r1 : List Ins := [
  ⟨some 2, none, .mov (.c (.sl .full []))⟩]
abbrev c60_r2 : List Ins := [
  ⟨some 3, none, .mov (.c (.sl .full []))⟩]
abbrev c60_r3 : List Ins := [
  ⟨some 4, none, .mov (.c (.int .i64 0))⟩]
abbrev c60_r4 : List Ins := [
  ⟨some 5, none, .mov (.t 4)⟩,
  ⟨some 6, none, .bin .lss (.t 5) (.c (.int .i64 1000))⟩]
abbrev c60_r5 : List Ins := [
  ⟨some 9, none, .mov (.t 0)⟩,
  ⟨some 10, none, .mov (.t 4)⟩,
  ⟨some 11, none, .nilck (.t 9)⟩,
  ⟨some 12, none, .iaddrA 1000 1 (.t 11) (.t 10)⟩,
  ⟨some 13, none, .load 1 false (.t 12)⟩,
  ⟨some 14, none, .un .not (.t 13)⟩]
abbrev c60_r6 : List Ins := [
  ⟨some 15, none, .mov (.t 4)⟩,
  ⟨some 16, none, .bin .gtr (.t 15) (.c (.int .i64 0))⟩,
  ⟨some 17, none, .mov (.t 16)⟩,
  ⟨some 18, some (17, true), .mov (.t 0)⟩,
  ⟨some 19, some (17, true), .mov (.t 4)⟩,
  ⟨some 20, some (17, true), .bin .sub (.t 19) (.c (.int .i64 1))⟩,
  ⟨some 21, some (17, true), .nilck (.t 18)⟩,
  ⟨some 22, some (17, true), .iaddrA 1000 1 (.t 21) (.t 20)⟩,
  ⟨some 23, some (17, true), .load 1 false (.t 22)⟩,
  ⟨some 24, none, .pick (.t 17) (.t 23) (.c (.bool false))⟩]
abbrev c60_r7 : List Ins := [
  ⟨some 25, none, .mov (.t 3)⟩,
  ⟨some 26, none, .mov (.t 3)⟩,
  ⟨some 27, none, .len (.t 26)⟩,
  ⟨some 28, none, .bin .sub (.t 27) (.c (.int .i64 1))⟩,
  ⟨some 29, none, .mov (.t 4)⟩,
  ⟨some 30, none, .iaddr 2 (.t 25) (.t 28)⟩,
  ⟨some 31, none, .faddr 1 (.t 30)⟩,
  ⟨none, none, .store 1 (.t 31) (.t 29)⟩]
abbrev c60_r8 : List Ins := [
  ⟨some 32, none, .mov (.t 3)⟩,
  ⟨some 33, none, .mov (.t 4)⟩,
  ⟨some 34, none, .mov (.t 4)⟩,
  ⟨some 35, none, .build [.int .i64 0, .int .i64 0] [(0, (1, .t 33)), (1, (1, .t 34))]⟩,
  ⟨some 36, none, .bsl 2 1 [.int .i64 0, .int .i64 0] [(0, .t 35)]⟩,
  ⟨some 37, none, .append 2 16 (.t 32) (.t 36)⟩,
  ⟨some 3, none, .mov (.t 37)⟩]
abbrev c60_r9 : List Ins := [
  ⟨some 7, none, .mov (.t 4)⟩,
  ⟨some 8, none, .bin .add (.t 7) (.c (.int .i64 1))⟩,
  ⟨some 4, none, .mov (.t 8)⟩]
abbrev c60_l10 : IR := .seq (.seq (.reg c60_r4) (.cond (.t 6) (.skip) (.exit 0))) (.seq (.blk 1 (.seq (.seq (.reg c60_r5) (.cond (.t 14) (.exit 1) (.skip))) (.seq (.reg c60_r6) (.cond (.t 24) (.reg c60_r7) (.reg c60_r8))))) (.reg c60_r9))
abbrev c60_r11 : List Ins := [
  ⟨some 38, none, .mov (.t 3)⟩,
  ⟨some 2, none, .mov (.t 38)⟩]
abbrev c60 : IR := .seq (.reg c60_r1) (.seq (.reg c60_r2) (.seq (.seq (.reg c60_r3) (.blk 0 (.loop c60_l10))) (.seq (.reg c60_r11) (.ret))))
abbrev F60 : FnA := ⟨39, c60, [.t 2]⟩
theorem ok60 : cFn Try.prog 60 = some F60 := by kernel_rfl
theorem hb60 : HasBody Try.prog 60 := ⟨_, Try.func60, by kernel_rfl, by kernel_rfl⟩
/-! ref04.Of -/
abbrev c68_r1 : List Ins := [
  ⟨some 2, none, .mov (.c .nilptr)⟩]
abbrev c68_r2 : List Ins := [
  ⟨some 3, none, .alloc (List.replicate 1000 (.bool false))⟩]
abbrev c68_r3 : List Ins := [
  ⟨some 4, none, .mov (.c (.int .i64 0))⟩]
abbrev c68_r4 : List Ins := [
  ⟨some 6, none, .mov (.t 4)⟩,
  ⟨some 7, none, .mov (.t 0)⟩,
  ⟨some 8, none, .len (.t 7)⟩,
  ⟨some 9, none, .bin .lss (.t 6) (.t 8)⟩]
abbrev c68_r5 : List Ins := [
  ⟨some 12, none, .mov (.t 0)⟩,
  ⟨some 13, none, .mov (.t 4)⟩,
  ⟨some 14, none, .iaddr 2 (.t 12) (.t 13)⟩,
  ⟨some 15, none, .faddr 0 (.t 14)⟩,
  ⟨some 16, none, .load 1 false (.t 15)⟩,
  ⟨some 17, none, .bin .lss (.t 16) (.c (.int .i64 0))⟩,
  ⟨some 18, none, .mov (.t 17)⟩,
  ⟨some 19, some (18, false), .mov (.t 0)⟩,
  ⟨some 20, some (18, false), .mov (.t 4)⟩,
  ⟨some 21, some (18, false), .iaddr 2 (.t 19) (.t 20)⟩,
  ⟨some 22, some (18, false), .faddr 1 (.t 21)⟩,
  ⟨some 23, some (18, false), .load 1 false (.t 22)⟩,
  ⟨some 24, some (18, false), .bin .gtr (.t 23) (.c (.int .i64 999))⟩,
  ⟨some 25, none, .pick (.t 18) (.c (.bool true)) (.t 24)⟩]
abbrev c68_r6 : List Ins := [
  ⟨some 26, none, .mov (.t 0)⟩,
  ⟨some 27, none, .mov (.t 4)⟩,
  ⟨some 28, none, .iaddr 2 (.t 26) (.t 27)⟩,
  ⟨some 29, none, .faddr 0 (.t 28)⟩,
  ⟨some 30, none, .load 1 false (.t 29)⟩,
  ⟨some 5, none, .mov (.t 30)⟩]
abbrev c68_r7 : List Ins := [
  ⟨some 31, none, .mov (.t 5)⟩,
  ⟨some 32, none, .mov (.t 0)⟩,
  ⟨some 33, none, .mov (.t 4)⟩,
  ⟨some 34, none, .iaddr 2 (.t 32) (.t 33)⟩,
  ⟨some 35, none, .faddr 1 (.t 34)⟩,
  ⟨some 36, none, .load 1 false (.t 35)⟩,
  ⟨some 37, none, .bin .leq (.t 31) (.t 36)⟩]
abbrev c68_r8 : List Ins := [
  ⟨some 40, none, .mov (.t 5)⟩,
  ⟨some 41, none, .iaddrA 1000 1 (.t 3) (.t 40)⟩,
  ⟨none, none, .store 1 (.t 41) (.c (.bool true))⟩]
abbrev c68_r9 : List Ins := [
  ⟨some 38, none, .mov (.t 5)⟩,
  ⟨some 39, none, .bin .add (.t 38) (.c (.int .i64 1))⟩,
  ⟨some 5, none, .mov (.t 39)⟩]
abbrev c68_l10 : IR := .seq (.seq (.reg c68_r7) (.cond (.t 37) (.skip) (.exit 2))) (.seq (.blk 3 (.reg c68_r8)) (.reg c68_r9))
abbrev c68_r11 : List Ins := [
  ⟨some 10, none, .mov (.t 4)⟩,
  ⟨some 11, none, .bin .add (.t 10) (.c (.int .i64 1))⟩,
  ⟨some 4, none, .mov (.t 11)⟩]
abbrev c68_l12 : IR := .seq (.seq (.reg c68_r4) (.cond (.t 9) (.skip) (.exit 0))) (.seq (.blk 1 (.seq (.seq (.reg c68_r5) (.cond (.t 25) (.exit 1) (.skip))) (.seq (.reg c68_r6) (.blk 2 (.loop c68_l10))))) (.reg c68_r11))
abbrev c68_r13 : List Ins := [
  ⟨some 2, none, .mov (.t 3)⟩]
abbrev c68 : IR := .seq (.reg c68_r1) (.seq (.reg c68_r2) (.seq (.seq (.reg c68_r3) (.blk 0 (.loop c68_l12))) (.seq (.reg c68_r13) (.ret))))
abbrev F68 : FnA := ⟨42, c68, [.t 2]⟩
theorem ok68 : cFn Try.prog 68 = some F68 := by kernel_rfl
theorem hb68 : HasBody Try.prog 68 := ⟨_, Try.func68, by kernel_rfl, by kernel_rfl⟩
/-! ref09.May -/
abbrev c97_r1 : List Ins := [
  ⟨some 4, none, .mov (.c (.bool false))⟩]
abbrev c97_r2 : List Ins := [
  ⟨some 6, none, .mov (.t 1)⟩,
  ⟨some 7, none, .bin .lss (.t 6) (.c (.int .i64 0))⟩,
  ⟨some 8, none, .mov (.t 7)⟩,
  ⟨some 9, some (8, false), .mov (.t 1)⟩,
  ⟨some 10, some (8, false), .bin .gtr (.t 9) (.c (.int .i64 3))⟩,
  ⟨some 11, none, .pick (.t 8) (.c (.bool true)) (.t 10)⟩,
  ⟨some 12, none, .mov (.t 11)⟩,
  ⟨some 13, some (12, false), .mov (.t 0)⟩,
  ⟨some 14, some (12, false), .len (.t 13)⟩,
  ⟨some 15, some (12, false), .bin .lss (.t 14) (.c (.int .i64 1))⟩,
  ⟨some 16, none, .pick (.t 12) (.c (.bool true)) (.t 15)⟩,
  ⟨some 17, none, .mov (.t 16)⟩,
  ⟨some 18, some (17, false), .mov (.t 0)⟩,
  ⟨some 19, some (17, false), .len (.t 18)⟩,
  ⟨some 20, some (17, false), .bin .gtr (.t 19) (.c (.int .i64 8))⟩,
  ⟨some 21, none, .pick (.t 17) (.c (.bool true)) (.t 20)⟩]
abbrev c97_r3 : List Ins := [
  ⟨some 4, none, .mov (.c (.bool false))⟩]
abbrev c97_r4 : List Ins := [
  ⟨some 5, none, .mov (.c (.int .i64 0))⟩]
abbrev c97_r5 : List Ins := [
  ⟨some 22, none, .mov (.t 5)⟩,
  ⟨some 23, none, .mov (.t 0)⟩,
  ⟨some 24, none, .len (.t 23)⟩,
  ⟨some 25, none, .bin .lss (.t 22) (.t 24)⟩]
abbrev c97_r6 : List Ins := [
  ⟨some 28, none, .mov (.t 0)⟩,
  ⟨some 29, none, .mov (.t 5)⟩,
  ⟨some 30, none, .iaddr 9 (.t 28) (.t 29)⟩,
  ⟨some 31, none, .load 9 true (.t 30)⟩,
  ⟨some 32, none, .mov (.t 1)⟩,
  ⟨some 33, none, .call (.c (.fn 132 [] [])) [.t 31, .t 32]⟩,
  ⟨some 34, none, .un .not (.t 33)⟩]
abbrev c97_r7 : List Ins := [
  ⟨some 4, none, .mov (.c (.bool false))⟩]
abbrev c97_r8 : List Ins := [
  ⟨some 26, none, .mov (.t 5)⟩,
  ⟨some 27, none, .bin .add (.t 26) (.c (.int .i64 1))⟩,
  ⟨some 5, none, .mov (.t 27)⟩]
abbrev c97_l9 : IR := .seq (.seq (.reg c97_r5) (.cond (.t 25) (.skip) (.exit 0))) (.seq (.blk 1 (.seq (.reg c97_r6) (.cond (.t 34) (.seq (.reg c97_r7) (.ret)) (.skip)))) (.reg c97_r8))
abbrev c97_r10 : List Ins := [
  ⟨some 4, none, .mov (.c (.bool true))⟩]
abbrev c97 : IR := .seq (.reg c97_r1) (.seq (.seq (.reg c97_r2) (.cond (.t 21) (.seq (.reg c97_r3) (.ret)) (.skip))) (.seq (.seq (.reg c97_r4) (.blk 0 (.loop c97_l9))) (.seq (.reg c97_r10) (.ret))))
abbrev F97 : FnA := ⟨35, c97, [.t 4]⟩
theorem ok97 : cFn Try.prog 97 = some F97 := by kernel_rfl
theorem hb97 : HasBody Try.prog 97 := ⟨_, Try.func97, by kernel_rfl, by kernel_rfl⟩
/-! ref10.May -/
abbrev c98_r1 : List Ins := [
  ⟨some 4, none, .mov (.c (.bool false))⟩]
abbrev c98_r2 : List Ins := [
  ⟨some 6, none, .mov (.t 1)⟩,
  ⟨some 7, none, .bin .lss (.t 6) (.c (.int .i64 0))⟩,
  ⟨some 8, none, .mov (.t 7)⟩,
  ⟨some 9, some (8, false), .mov (.t 1)⟩,
  ⟨some 10, some (8, false), .bin .gtr (.t 9) (.c (.int .i64 3))⟩,
  ⟨some 11, none, .pick (.t 8) (.c (.bool true)) (.t 10)⟩,
  ⟨some 12, none, .mov (.t 11)⟩,
  ⟨some 13, some (12, false), .mov (.t 0)⟩,
  ⟨some 14, some (12, false), .len (.t 13)⟩,
  ⟨some 15, some (12, false), .bin .gtr (.t 14) (.c (.int .i64 4))⟩,
  ⟨some 16, none, .pick (.t 12) (.c (.bool true)) (.t 15)⟩]
abbrev c98_r3 : List Ins := [
  ⟨some 4, none, .mov (.c (.bool false))⟩]
abbrev c98_r4 : List Ins := [
  ⟨some 5, none, .mov (.c (.int .i64 0))⟩]
abbrev c98_r5 : List Ins := [
  ⟨some 17, none, .mov (.t 5)⟩,
  ⟨some 18, none, .mov (.t 0)⟩,
  ⟨some 19, none, .len (.t 18)⟩,
  ⟨some 20, none, .bin .lss (.t 17) (.t 19)⟩]
abbrev c98_r6 : List Ins := [
  ⟨some 23, none, .mov (.t 0)⟩,
  ⟨some 24, none, .mov (.t 5)⟩,
  ⟨some 25, none, .iaddr 5 (.t 23) (.t 24)⟩,
  ⟨some 26, none, .faddr 0 (.t 25)⟩,
  ⟨some 27, none, .load 2 true (.t 26)⟩,
  ⟨some 28, none, .mov (.t 1)⟩,
  ⟨some 29, none, .call (.c (.fn 133 [] [])) [.t 27, .t 28]⟩,
  ⟨some 30, none, .un .not (.t 29)⟩,
  ⟨some 31, none, .mov (.t 30)⟩,
  ⟨some 32, some (31, false), .mov (.t 0)⟩,
  ⟨some 33, some (31, false), .mov (.t 5)⟩,
  ⟨some 34, some (31, false), .iaddr 5 (.t 32) (.t 33)⟩,
  ⟨some 35, some (31, false), .faddr 2 (.t 34)⟩,
  ⟨some 36, some (31, false), .load 2 true (.t 35)⟩,
  ⟨some 37, some (31, false), .mov (.t 1)⟩,
  ⟨some 38, some (31, false), .call (.c (.fn 133 [] [])) [.t 36, .t 37]⟩,
  ⟨some 39, some (31, false), .un .not (.t 38)⟩,
  ⟨some 40, none, .pick (.t 31) (.c (.bool true)) (.t 39)⟩]
abbrev c98_r7 : List Ins := [
  ⟨some 4, none, .mov (.c (.bool false))⟩]
abbrev c98_r8 : List Ins := [
  ⟨some 21, none, .mov (.t 5)⟩,
  ⟨some 22, none, .bin .add (.t 21) (.c (.int .i64 1))⟩,
  ⟨some 5, none, .mov (.t 22)⟩]
abbrev c98_l9 : IR := .seq (.seq (.reg c98_r5) (.cond (.t 20) (.skip) (.exit 0))) (.seq (.blk 1 (.seq (.reg c98_r6) (.cond (.t 40) (.seq (.reg c98_r7) (.ret)) (.skip)))) (.reg c98_r8))
abbrev c98_r10 : List Ins := [
  ⟨some 4, none, .mov (.c (.bool true))⟩]
abbrev c98 : IR := .seq (.reg c98_r1) (.seq (.seq (.reg c98_r2) (.cond (.t 16) (.seq (.reg c98_r3) (.ret)) (.skip))) (.seq (.seq (.reg c98_r4) (.blk 0 (.loop c98_l9))) (.seq (.reg c98_r10) (.ret))))
abbrev F98 : FnA := ⟨41, c98, [.t 4]⟩
theorem ok98 : cFn Try.prog 98 = some F98 := by kernel_rfl
theorem hb98 : HasBody Try.prog 98 := ⟨_, Try.func98, by kernel_rfl, by kernel_rfl⟩
/-! keys.Plain -/
abbrev c101_r1 : List Ins := [
  ⟨some 2, none, .mov (.c (.sl .full []))⟩]
abbrev c101_r2 : List Ins := [
  ⟨some 3, none, .mov (.t 0)⟩,
  ⟨some 4, none, .bsl 1 1 [.sl .full []] [(0, .t 3)]⟩,
  ⟨some 5, none, .call (.c (.fn 134 [] [])) [.t 4]⟩,
  ⟨some 2, none, .mov (.t 5)⟩]
abbrev c101 : IR := .seq (.reg c101_r1) (.seq (.reg c101_r2) (.ret))
abbrev F101 : FnA := ⟨6, c101, [.t 2]⟩
theorem ok101 : cFn Try.prog 101 = some F101 := by kernel_rfl
theorem hb101 : HasBody Try.prog 101 := ⟨_, Try.func101, by kernel_rfl, by kernel_rfl⟩
/-! lint.most -/
abbrev c102_r1 : List Ins := [
  ⟨some 1, none, .box (.t 0)⟩,
  ⟨some 2, none, .mov (.c (.int .i64 0))⟩]
abbrev c102_r2 : List Ins := [
  ⟨some 3, none, .faddr 0 (.t 1)⟩,
  ⟨some 4, none, .load 1 false (.t 3)⟩,
  ⟨some 5, none, .bin .lss (.t 4) (.c (.int .i64 0))⟩]
abbrev c102_r3 : List Ins := [
  ⟨some 6, none, .faddr 1 (.t 1)⟩,
  ⟨some 7, none, .load 1 false (.t 6)⟩,
  ⟨some 2, none, .mov (.t 7)⟩]
abbrev c102_r4 : List Ins := [
  ⟨some 8, none, .faddr 1 (.t 1)⟩,
  ⟨some 9, none, .load 1 false (.t 8)⟩,
  ⟨some 10, none, .bin .add (.t 9) (.c (.int .i64 99))⟩,
  ⟨some 2, none, .mov (.t 10)⟩]
abbrev c102 : IR := .seq (.reg c102_r1) (.seq (.seq (.reg c102_r2) (.cond (.t 5) (.seq (.reg c102_r3) (.ret)) (.skip))) (.seq (.reg c102_r4) (.ret)))
abbrev F102 : FnA := ⟨11, c102, [.t 2]⟩
theorem ok102 : cFn Try.prog 102 = some F102 := by kernel_rfl
theorem hb102 : HasBody Try.prog 102 := ⟨_, Try.func102, by kernel_rfl, by kernel_rfl⟩
/-! prog.May$1 -/
abbrev c103_r1 : List Ins := [
  ⟨some 2, none, .box (.t 0)⟩,
  ⟨some 3, none, .mov (.c (.bool false))⟩]
abbrev c103_r2 : List Ins := [
  ⟨some 4, none, .load 9 true (.t 2)⟩,
  ⟨some 5, none, .load 1 false (.t 1)⟩,
  ⟨some 6, none, .call (.c (.fn 104 [] [])) [.t 4, .t 5]⟩,
  ⟨some 7, none, .un .not (.t 6)⟩,
  ⟨some 3, none, .mov (.t 7)⟩]
abbrev c103 : IR := .seq (.reg c103_r1) (.seq (.reg c103_r2) (.ret))
abbrev F103 : FnA := ⟨8, c103, [.t 3]⟩
theorem ok103 : cFn Try.prog 103 = some F103 := by kernel_rfl
theorem hb103 : HasBody Try.prog 103 := ⟨_, Try.func103, by kernel_rfl, by kernel_rfl⟩
/-! prog.may -/
abbrev c104_r1 : List Ins := [
  ⟨some 2, none, .box (.t 0)⟩,
  ⟨some 3, none, .box (.t 1)⟩,
  ⟨some 4, none, .mov (.c (.bool false))⟩]
abbrev c104_r2 : List Ins := [
  ⟨some 9, none, .load 9 true (.t 2)⟩,
  ⟨some 10, none, .call (.c (.fn 135 [] [])) [.t 9]⟩,
  ⟨some 8, none, .mov (.t 10)⟩,
  ⟨some 11, none, .ext (.t 8) 0⟩,
  ⟨some 12, none, .ext (.t 8) 1⟩,
  ⟨some 5, none, .alloc [.int .i64 0, .int .i64 0, .int .i64 0, .int .i64 0, .int .i64 0, .int .i64 0, .int .i64 0, .int .i64 0, .int .i64 0]⟩,
  ⟨none, none, .store 9 (.t 5) (.t 11)⟩,
  ⟨some 6, none, .mov (.t 12)⟩]
abbrev c104_r3 : List Ins := [
  ⟨some 13, none, .mkfn 136 [] [.t 3]⟩,
  ⟨some 7, none, .mov (.t 13)⟩]
abbrev c104_r4 : List Ins := [
  ⟨some 14, none, .mov (.t 6)⟩,
  ⟨some 15, none, .mov (.t 14)⟩,
  ⟨some 16, some (15, true), .load 9 true (.t 2)⟩,
  ⟨some 17, some (15, true), .load 9 true (.t 5)⟩,
  ⟨some 18, some (15, true), .eq [.i, .i, .i, .i, .i, .i, .i, .i, .i] true false (.t 16) (.t 17)⟩,
  ⟨some 19, none, .pick (.t 15) (.t 18) (.c (.bool false))⟩,
  ⟨some 20, none, .mov (.t 19)⟩,
  ⟨some 21, some (20, true), .faddr 1 (.t 2)⟩,
  ⟨some 22, some (20, true), .load 1 false (.t 21)⟩,
  ⟨some 23, some (20, true), .call (.c (.fn 138 [] [])) [.t 22]⟩,
  ⟨some 24, none, .pick (.t 20) (.t 23) (.c (.bool false))⟩,
  ⟨some 25, none, .mov (.t 24)⟩,
  ⟨some 26, some (25, true), .faddr 2 (.t 2)⟩,
  ⟨some 27, some (25, true), .load 1 false (.t 26)⟩,
  ⟨some 28, some (25, true), .call (.c (.fn 138 [] [])) [.t 27]⟩,
  ⟨some 29, none, .pick (.t 25) (.t 28) (.c (.bool false))⟩,
  ⟨some 30, none, .mov (.t 29)⟩,
  ⟨some 31, some (30, true), .faddr 3 (.t 2)⟩,
  ⟨some 32, some (30, true), .load 1 false (.t 31)⟩,
  ⟨some 33, some (30, true), .call (.c (.fn 138 [] [])) [.t 32]⟩,
  ⟨some 34, none, .pick (.t 30) (.t 33) (.c (.bool false))⟩,
  ⟨some 35, none, .mov (.t 34)⟩,
  ⟨some 36, some (35, true), .load 9 true (.t 2)⟩,
  ⟨some 37, some (35, true), .call (.c (.fn 140 [] [])) [.t 36]⟩,
  ⟨some 38, some (35, true), .mov (.t 7)⟩,
  ⟨some 39, some (35, true), .call (.c (.fn 139 [] [])) [.t 37, .t 38]⟩,
  ⟨some 40, some (35, true), .un .not (.t 39)⟩,
  ⟨some 41, none, .pick (.t 35) (.t 40) (.c (.bool false))⟩,
  ⟨some 4, none, .mov (.t 41)⟩]
abbrev c104 : IR := .seq (.reg c104_r1) (.seq (.reg c104_r2) (.seq (.reg c104_r3) (.seq (.reg c104_r4) (.ret))))
abbrev F104 : FnA := ⟨42, c104, [.t 4]⟩
theorem ok104 : cFn Try.prog 104 = some F104 := by kernel_rfl
theorem hb104 : HasBody Try.prog 104 := ⟨_, Try.func104, by kernel_rfl, by kernel_rfl⟩
/-! foot.May$1 -/
abbrev c105_r1 : List Ins := [
  ⟨some 2, none, .box (.t 0)⟩,
  ⟨some 3, none, .mov (.c (.bool false))⟩]
abbrev c105_r2 : List Ins := [
  ⟨some 4, none, .faddr 0 (.t 2)⟩,
  ⟨some 5, none, .load 2 true (.t 4)⟩,
  ⟨some 6, none, .call (.c (.fn 106 [] [])) [.t 5]⟩,
  ⟨some 7, none, .load 1 false (.t 1)⟩,
  ⟨some 8, none, .call (.c (.fn 46 [] [])) [.t 6, .t 7]⟩,
  ⟨some 9, none, .un .not (.t 8)⟩,
  ⟨some 10, none, .mov (.t 9)⟩,
  ⟨some 11, some (10, false), .faddr 2 (.t 2)⟩,
  ⟨some 12, some (10, false), .load 2 true (.t 11)⟩,
  ⟨some 13, some (10, false), .call (.c (.fn 106 [] [])) [.t 12]⟩,
  ⟨some 14, some (10, false), .load 1 false (.t 1)⟩,
  ⟨some 15, some (10, false), .call (.c (.fn 46 [] [])) [.t 13, .t 14]⟩,
  ⟨some 16, some (10, false), .un .not (.t 15)⟩,
  ⟨some 17, none, .pick (.t 10) (.c (.bool true)) (.t 16)⟩,
  ⟨some 3, none, .mov (.t 17)⟩]
def c105_a2 : List (List Nat) := [[], [0], [1], [], [2, 3, 2], [4], [5, 4], [6], [7, 6], [8, 6, 6], [6], [9, 10, 9, 6], [11, 6], [6, 12], [13, 11, 0, 1, 2, 3, 4, 5, 6, 7, 8, 9, 10, 11, 12, 13]]
abbrev c105_m2 : List Am.Mark := [⟨false, 0, 0⟩, ⟨false, 0, 0⟩, ⟨false, 0, 0⟩, ⟨false, 0, 0⟩, ⟨false, 0, 0⟩, ⟨false, 0, 0⟩, ⟨false, 0, 0⟩, ⟨false, 0, 0⟩, ⟨false, 0, 0⟩, ⟨false, 0, 0⟩, ⟨false, 0, 0⟩, ⟨false, 0, 0⟩, ⟨false, 0, 0⟩, ⟨false, 0, 0⟩, ⟨false, 0, 0⟩]
theorem c105_d2 : drawFine c105_r2 c105_a2 c105_m2 = true := by decide +kernel
abbrev c105 : IR := .seq (.reg c105_r1) (.seq (.dreg c105_r2 c105_a2) (.ret))
abbrev F105 : FnA := ⟨18, c105, [.t 3]⟩
theorem ok105 : cFn Try.prog 105 = some F105 := by kernel_rfl
theorem hb105 : HasBody Try.prog 105 := ⟨_, Try.func105, by kernel_rfl, by kernel_rfl⟩
/-! foot.reads -/
abbrev c106_r1 : List Ins := [
  ⟨some 1, none, .box (.t 0)⟩,
  ⟨some 2, none, .mov (.c (.sl .full []))⟩]
abbrev c106_r2 : List Ins := [
  ⟨some 3, none, .load 2 true (.t 1)⟩,
  ⟨some 4, none, .build [.int .i64 0, .int .i64 0, .int .i64 0, .int .i64 0, .int .i64 0, .int .i64 0, .int .i64 0, .int .i64 0, .int .i64 0] [(0, (1, .c (.int .i64 1))), (4, (2, .t 3))]⟩,
  ⟨some 5, none, .bsl 9 1 [.int .i64 0, .int .i64 0, .int .i64 0, .int .i64 0, .int .i64 0, .int .i64 0, .int .i64 0, .int .i64 0, .int .i64 0] [(0, .t 4)]⟩,
  ⟨some 2, none, .mov (.t 5)⟩]
abbrev c106 : IR := .seq (.reg c106_r1) (.seq (.reg c106_r2) (.ret))
abbrev F106 : FnA := ⟨6, c106, [.t 2]⟩
theorem ok106 : cFn Try.prog 106 = some F106 := by kernel_rfl
theorem hb106 : HasBody Try.prog 106 := ⟨_, Try.func106, by kernel_rfl, by kernel_rfl⟩
/-! slices.IndexFunc:SpanT -/
abbrev c107_r1 : List Ins := [
  ⟨some 4, none, .mov (.c (.int .i64 0))⟩]
abbrev c107_r2 : List Ins := [
  ⟨some 6, none, .mov (.t 0)⟩,
  ⟨some 7, none, .len (.t 6)⟩,
  ⟨some 8, none, .mov (.c (.int .i64 0))⟩]
abbrev c107_r3 : List Ins := [
  ⟨some 9, none, .bin .lss (.t 8) (.t 7)⟩]
abbrev c107_r4 : List Ins := [
  ⟨some 10, none, .mov (.t 8)⟩,
  ⟨some 5, none, .mov (.t 10)⟩]
abbrev c107_r5 : List Ins := [
  ⟨some 11, none, .mov (.t 1)⟩,
  ⟨some 12, none, .mov (.t 0)⟩,
  ⟨some 13, none, .mov (.t 5)⟩,
  ⟨some 14, none, .iaddr 5 (.t 12) (.t 13)⟩,
  ⟨some 15, none, .load 5 true (.t 14)⟩,
  ⟨some 16, none, .call (.t 11) [.t 15]⟩]
abbrev c107_r6 : List Ins := [
  ⟨some 17, none, .mov (.t 5)⟩,
  ⟨some 4, none, .mov (.t 17)⟩]
abbrev c107_r7 : List Ins := [
  ⟨some 18, none, .bin .add (.t 8) (.c (.int .i64 1))⟩,
  ⟨some 8, none, .mov (.t 18)⟩]
abbrev c107_l8 : IR := .seq (.reg c107_r3) (.seq (.cond (.t 9) (.skip) (.exit 0)) (.seq (.blk 1 (.seq (.reg c107_r4) (.seq (.reg c107_r5) (.cond (.t 16) (.seq (.reg c107_r6) (.ret)) (.skip))))) (.reg c107_r7)))
abbrev c107_r9 : List Ins := [
  ⟨some 4, none, .mov (.c (.int .i64 (-1)))⟩]
abbrev c107 : IR := .seq (.reg c107_r1) (.seq (.seq (.reg c107_r2) (.blk 0 (.loop c107_l8))) (.seq (.reg c107_r9) (.ret)))
abbrev F107 : FnA := ⟨19, c107, [.t 4]⟩
theorem ok107 : cFn Try.prog 107 = some F107 := by kernel_rfl
theorem hb107 : HasBody Try.prog 107 := ⟨_, Try.func107, by kernel_rfl, by kernel_rfl⟩
/-! slices.IndexFunc:Instr -/
abbrev c108_r1 : List Ins := [
  ⟨some 4, none, .mov (.c (.int .i64 0))⟩]
abbrev c108_r2 : List Ins := [
  ⟨some 6, none, .mov (.t 0)⟩,
  ⟨some 7, none, .len (.t 6)⟩,
  ⟨some 8, none, .mov (.c (.int .i64 0))⟩]
abbrev c108_r3 : List Ins := [
  ⟨some 9, none, .bin .lss (.t 8) (.t 7)⟩]
abbrev c108_r4 : List Ins := [
  ⟨some 10, none, .mov (.t 8)⟩,
  ⟨some 5, none, .mov (.t 10)⟩]
abbrev c108_r5 : List Ins := [
  ⟨some 11, none, .mov (.t 1)⟩,
  ⟨some 12, none, .mov (.t 0)⟩,
  ⟨some 13, none, .mov (.t 5)⟩,
  ⟨some 14, none, .iaddr 9 (.t 12) (.t 13)⟩,
  ⟨some 15, none, .load 9 true (.t 14)⟩,
  ⟨some 16, none, .call (.t 11) [.t 15]⟩]
abbrev c108_r6 : List Ins := [
  ⟨some 17, none, .mov (.t 5)⟩,
  ⟨some 4, none, .mov (.t 17)⟩]
abbrev c108_r7 : List Ins := [
  ⟨some 18, none, .bin .add (.t 8) (.c (.int .i64 1))⟩,
  ⟨some 8, none, .mov (.t 18)⟩]
abbrev c108_l8 : IR := .seq (.reg c108_r3) (.seq (.cond (.t 9) (.skip) (.exit 0)) (.seq (.blk 1 (.seq (.reg c108_r4) (.seq (.reg c108_r5) (.cond (.t 16) (.seq (.reg c108_r6) (.ret)) (.skip))))) (.reg c108_r7)))
abbrev c108_r9 : List Ins := [
  ⟨some 4, none, .mov (.c (.int .i64 (-1)))⟩]
abbrev c108 : IR := .seq (.reg c108_r1) (.seq (.seq (.reg c108_r2) (.blk 0 (.loop c108_l8))) (.seq (.reg c108_r9) (.ret)))
abbrev F108 : FnA := ⟨19, c108, [.t 4]⟩
theorem ok108 : cFn Try.prog 108 = some F108 := by kernel_rfl
theorem hb108 : HasBody Try.prog 108 := ⟨_, Try.func108, by kernel_rfl, by kernel_rfl⟩
/-! ref09.One -/
abbrev c132_r1 : List Ins := [
  ⟨some 2, none, .box (.t 0)⟩,
  ⟨some 4, none, .mov (.c (.bool false))⟩]
abbrev c132_r2 : List Ins := [
  ⟨some 11, none, .faddr 0 (.t 2)⟩,
  ⟨some 12, none, .load 1 false (.t 11)⟩,
  ⟨some 13, none, .bin .lss (.t 12) (.c (.int .i64 1))⟩,
  ⟨some 14, none, .mov (.t 13)⟩,
  ⟨some 15, some (14, false), .faddr 0 (.t 2)⟩,
  ⟨some 16, some (14, false), .load 1 false (.t 15)⟩,
  ⟨some 17, some (14, false), .bin .gtr (.t 16) (.c (.int .i64 8))⟩,
  ⟨some 18, none, .pick (.t 14) (.c (.bool true)) (.t 17)⟩,
  ⟨some 19, none, .mov (.t 18)⟩,
  ⟨some 20, some (19, false), .faddr 1 (.t 2)⟩,
  ⟨some 21, some (19, false), .load 1 false (.t 20)⟩,
  ⟨some 22, some (19, false), .bin .lss (.t 21) (.c (.int .i64 0))⟩,
  ⟨some 23, none, .pick (.t 19) (.c (.bool true)) (.t 22)⟩,
  ⟨some 24, none, .mov (.t 23)⟩,
  ⟨some 25, some (24, false), .faddr 1 (.t 2)⟩,
  ⟨some 26, some (24, false), .load 1 false (.t 25)⟩,
  ⟨some 27, some (24, false), .bin .gtr (.t 26) (.c (.int .i64 3))⟩,
  ⟨some 28, none, .pick (.t 24) (.c (.bool true)) (.t 27)⟩]
abbrev c132_r3 : List Ins := [
  ⟨some 4, none, .mov (.c (.bool false))⟩]
abbrev c132_r4 : List Ins := [
  ⟨some 5, none, .alloc [.int .i64 0, .int .i64 0]⟩]
abbrev c132_r5 : List Ins := [
  ⟨some 29, none, .faddr 0 (.t 2)⟩,
  ⟨some 30, none, .load 1 false (.t 29)⟩,
  ⟨some 31, none, .bin .neq (.t 30) (.c (.int .i64 3))⟩,
  ⟨some 6, none, .mov (.t 31)⟩]
abbrev c132_r6 : List Ins := [
  ⟨some 32, none, .faddr 0 (.t 2)⟩,
  ⟨some 33, none, .load 1 false (.t 32)⟩,
  ⟨some 34, none, .bin .leq (.t 33) (.c (.int .i64 4))⟩,
  ⟨some 7, none, .mov (.t 34)⟩]
abbrev c132_r7 : List Ins := [
  ⟨some 35, none, .faddr 0 (.t 2)⟩,
  ⟨some 36, none, .load 1 false (.t 35)⟩,
  ⟨some 37, none, .bin .eql (.t 36) (.c (.int .i64 4))⟩,
  ⟨some 8, none, .mov (.t 37)⟩]
abbrev c132_r8 : List Ins := [
  ⟨some 38, none, .faddr 0 (.t 2)⟩,
  ⟨some 39, none, .load 1 false (.t 38)⟩,
  ⟨some 40, none, .bin .eql (.t 39) (.c (.int .i64 6))⟩,
  ⟨some 41, none, .mov (.t 40)⟩,
  ⟨some 42, some (41, false), .faddr 0 (.t 2)⟩,
  ⟨some 43, some (41, false), .load 1 false (.t 42)⟩,
  ⟨some 44, some (41, false), .bin .eql (.t 43) (.c (.int .i64 7))⟩,
  ⟨some 45, none, .pick (.t 41) (.c (.bool true)) (.t 44)⟩,
  ⟨some 9, none, .mov (.t 45)⟩]
abbrev c132_r9 : List Ins := [
  ⟨some 46, none, .faddr 0 (.t 2)⟩,
  ⟨some 47, none, .load 1 false (.t 46)⟩,
  ⟨some 48, none, .bin .eql (.t 47) (.c (.int .i64 5))⟩,
  ⟨some 49, none, .mov (.t 48)⟩,
  ⟨some 50, some (49, false), .faddr 0 (.t 2)⟩,
  ⟨some 51, some (49, false), .load 1 false (.t 50)⟩,
  ⟨some 52, some (49, false), .bin .eql (.t 51) (.c (.int .i64 8))⟩,
  ⟨some 53, none, .pick (.t 49) (.c (.bool true)) (.t 52)⟩,
  ⟨some 10, none, .mov (.t 53)⟩]
abbrev c132_r10 : List Ins := [
  ⟨some 54, none, .mov (.t 6)⟩,
  ⟨some 55, none, .un .not (.t 54)⟩,
  ⟨some 56, none, .mov (.t 55)⟩,
  ⟨some 57, some (56, true), .faddr 1 (.t 2)⟩,
  ⟨some 58, some (56, true), .load 1 false (.t 57)⟩,
  ⟨some 59, some (56, true), .bin .neq (.t 58) (.c (.int .i64 0))⟩,
  ⟨some 60, none, .pick (.t 56) (.t 59) (.c (.bool false))⟩,
  ⟨some 61, none, .mov (.t 60)⟩,
  ⟨some 62, some (61, false), .mov (.t 10)⟩,
  ⟨some 63, some (61, false), .un .not (.t 62)⟩,
  ⟨some 64, some (61, false), .mov (.t 63)⟩,
  ⟨some 65, some (64, true), .faddr 8 (.t 2)⟩,
  ⟨some 66, some (64, true), .load 1 false (.t 65)⟩,
  ⟨some 67, some (64, true), .bin .neq (.t 66) (.c (.int .i64 0))⟩,
  ⟨some 68, some (61, false), .pick (.t 64) (.t 67) (.c (.bool false))⟩,
  ⟨some 69, none, .pick (.t 61) (.c (.bool true)) (.t 68)⟩,
  ⟨some 70, none, .mov (.t 69)⟩,
  ⟨some 71, some (70, false), .mov (.t 9)⟩,
  ⟨some 72, some (70, false), .un .not (.t 71)⟩,
  ⟨some 73, some (70, false), .mov (.t 72)⟩,
  ⟨some 74, some (73, true), .faddr 2 (.t 2)⟩,
  ⟨some 75, some (73, true), .load 1 false (.t 74)⟩,
  ⟨some 76, some (73, true), .bin .neq (.t 75) (.c (.int .i64 0))⟩,
  ⟨some 77, some (73, true), .mov (.t 76)⟩,
  ⟨some 78, some (77, false), .faddr 3 (.t 2)⟩,
  ⟨some 79, some (77, false), .load 1 false (.t 78)⟩,
  ⟨some 80, some (77, false), .bin .neq (.t 79) (.c (.int .i64 0))⟩,
  ⟨some 81, some (73, true), .pick (.t 77) (.c (.bool true)) (.t 80)⟩,
  ⟨some 82, some (70, false), .pick (.t 73) (.t 81) (.c (.bool false))⟩,
  ⟨some 83, none, .pick (.t 70) (.c (.bool true)) (.t 82)⟩,
  ⟨some 84, none, .mov (.t 83)⟩,
  ⟨some 85, some (84, false), .mov (.t 7)⟩,
  ⟨some 86, some (84, false), .un .not (.t 85)⟩,
  ⟨some 87, some (84, false), .mov (.t 86)⟩,
  ⟨some 88, some (87, true), .faddr 4 (.t 2)⟩,
  ⟨some 89, some (87, true), .load 2 true (.t 88)⟩,
  ⟨some 90, some (87, true), .load 2 true (.t 5)⟩,
  ⟨some 91, some (87, true), .eq [.i, .i] true true (.t 89) (.t 90)⟩,
  ⟨some 92, some (84, false), .pick (.t 87) (.t 91) (.c (.bool false))⟩,
  ⟨some 93, none, .pick (.t 84) (.c (.bool true)) (.t 92)⟩,
  ⟨some 94, none, .mov (.t 93)⟩,
  ⟨some 95, some (94, false), .mov (.t 8)⟩,
  ⟨some 96, some (94, false), .un .not (.t 95)⟩,
  ⟨some 97, some (94, false), .mov (.t 96)⟩,
  ⟨some 98, some (97, true), .faddr 6 (.t 2)⟩,
  ⟨some 99, some (97, true), .load 2 true (.t 98)⟩,
  ⟨some 100, some (97, true), .load 2 true (.t 5)⟩,
  ⟨some 101, some (97, true), .eq [.i, .i] true true (.t 99) (.t 100)⟩,
  ⟨some 102, some (94, false), .pick (.t 97) (.t 101) (.c (.bool false))⟩,
  ⟨some 103, none, .pick (.t 94) (.c (.bool true)) (.t 102)⟩]
abbrev c132_r11 : List Ins := [
  ⟨some 4, none, .mov (.c (.bool false))⟩]
abbrev c132_r12 : List Ins := [
  ⟨some 104, none, .mov (.t 9)⟩,
  ⟨some 105, none, .mov (.t 104)⟩,
  ⟨some 106, some (105, true), .faddr 2 (.t 2)⟩,
  ⟨some 107, some (105, true), .load 1 false (.t 106)⟩,
  ⟨some 108, some (105, true), .bin .lss (.t 107) (.c (.int .i64 0))⟩,
  ⟨some 109, some (105, true), .mov (.t 108)⟩,
  ⟨some 110, some (109, false), .faddr 2 (.t 2)⟩,
  ⟨some 111, some (109, false), .load 1 false (.t 110)⟩,
  ⟨some 112, some (109, false), .bin .gtr (.t 111) (.c (.int .i64 3))⟩,
  ⟨some 113, some (105, true), .pick (.t 109) (.c (.bool true)) (.t 112)⟩,
  ⟨some 114, some (105, true), .mov (.t 113)⟩,
  ⟨some 115, some (114, false), .faddr 3 (.t 2)⟩,
  ⟨some 116, some (114, false), .load 1 false (.t 115)⟩,
  ⟨some 117, some (114, false), .bin .lss (.t 116) (.c (.int .i64 0))⟩,
  ⟨some 118, some (105, true), .pick (.t 114) (.c (.bool true)) (.t 117)⟩,
  ⟨some 119, some (105, true), .mov (.t 118)⟩,
  ⟨some 120, some (119, false), .faddr 3 (.t 2)⟩,
  ⟨some 121, some (119, false), .load 1 false (.t 120)⟩,
  ⟨some 122, some (119, false), .bin .gtr (.t 121) (.c (.int .i64 3))⟩,
  ⟨some 123, some (105, true), .pick (.t 119) (.c (.bool true)) (.t 122)⟩,
  ⟨some 124, none, .pick (.t 105) (.t 123) (.c (.bool false))⟩]
abbrev c132_r13 : List Ins := [
  ⟨some 4, none, .mov (.c (.bool false))⟩]
abbrev c132_r14 : List Ins := [
  ⟨some 125, none, .mov (.t 7)⟩,
  ⟨some 126, none, .un .not (.t 125)⟩,
  ⟨some 127, none, .mov (.t 126)⟩,
  ⟨some 128, some (127, false), .faddr 4 (.t 2)⟩,
  ⟨some 129, some (127, false), .load 2 true (.t 128)⟩,
  ⟨some 130, some (127, false), .mov (.t 1)⟩,
  ⟨some 131, some (127, false), .call (.c (.fn 133 [] [])) [.t 129, .t 130]⟩,
  ⟨some 132, none, .pick (.t 127) (.c (.bool true)) (.t 131)⟩,
  ⟨some 133, none, .mov (.t 132)⟩,
  ⟨some 134, some (133, true), .mov (.t 8)⟩,
  ⟨some 135, some (133, true), .un .not (.t 134)⟩,
  ⟨some 136, some (133, true), .mov (.t 135)⟩,
  ⟨some 137, some (136, false), .faddr 6 (.t 2)⟩,
  ⟨some 138, some (136, false), .load 2 true (.t 137)⟩,
  ⟨some 139, some (136, false), .mov (.t 1)⟩,
  ⟨some 140, some (136, false), .call (.c (.fn 133 [] [])) [.t 138, .t 139]⟩,
  ⟨some 141, some (133, true), .pick (.t 136) (.c (.bool true)) (.t 140)⟩,
  ⟨some 142, none, .pick (.t 133) (.t 141) (.c (.bool false))⟩,
  ⟨some 4, none, .mov (.t 142)⟩]
abbrev c132 : IR := .seq (.reg c132_r1) (.seq (.seq (.reg c132_r2) (.cond (.t 28) (.seq (.reg c132_r3) (.ret)) (.skip))) (.seq (.reg c132_r4) (.seq (.reg c132_r5) (.seq (.reg c132_r6) (.seq (.reg c132_r7) (.seq (.reg c132_r8) (.seq (.reg c132_r9) (.seq (.seq (.reg c132_r10) (.cond (.t 103) (.seq (.reg c132_r11) (.ret)) (.skip))) (.seq (.seq (.reg c132_r12) (.cond (.t 124) (.seq (.reg c132_r13) (.ret)) (.skip))) (.seq (.reg c132_r14) (.ret)))))))))))
abbrev F132 : FnA := ⟨143, c132, [.t 4]⟩
theorem ok132 : cFn Try.prog 132 = some F132 := by kernel_rfl
theorem hb132 : HasBody Try.prog 132 := ⟨_, Try.func132, by kernel_rfl, by kernel_rfl⟩
/-! ref09.MayKey -/
abbrev c133_r1 : List Ins := [
  ⟨some 2, none, .box (.t 0)⟩,
  ⟨some 4, none, .mov (.c (.bool false))⟩]
abbrev c133_r2 : List Ins := [
  ⟨some 5, none, .faddr 0 (.t 2)⟩,
  ⟨some 6, none, .load 1 false (.t 5)⟩,
  ⟨some 7, none, .bin .geq (.t 6) (.c (.int .i64 (-1)))⟩,
  ⟨some 8, none, .mov (.t 7)⟩,
  ⟨some 9, some (8, true), .faddr 0 (.t 2)⟩,
  ⟨some 10, some (8, true), .load 1 false (.t 9)⟩,
  ⟨some 11, some (8, true), .mov (.t 1)⟩,
  ⟨some 12, some (8, true), .bin .lss (.t 10) (.t 11)⟩,
  ⟨some 13, none, .pick (.t 8) (.t 12) (.c (.bool false))⟩,
  ⟨some 14, none, .mov (.t 13)⟩,
  ⟨some 15, some (14, true), .faddr 1 (.t 2)⟩,
  ⟨some 16, some (14, true), .load 1 false (.t 15)⟩,
  ⟨some 17, some (14, true), .bin .geq (.t 16) (.c (.int .i64 0))⟩,
  ⟨some 18, none, .pick (.t 14) (.t 17) (.c (.bool false))⟩,
  ⟨some 19, none, .mov (.t 18)⟩,
  ⟨some 20, some (19, true), .faddr 1 (.t 2)⟩,
  ⟨some 21, some (19, true), .load 1 false (.t 20)⟩,
  ⟨some 22, some (19, true), .bin .leq (.t 21) (.c (.int .i64 900))⟩,
  ⟨some 23, none, .pick (.t 19) (.t 22) (.c (.bool false))⟩,
  ⟨some 4, none, .mov (.t 23)⟩]
abbrev c133 : IR := .seq (.reg c133_r1) (.seq (.reg c133_r2) (.ret))
abbrev F133 : FnA := ⟨24, c133, [.t 4]⟩
theorem ok133 : cFn Try.prog 133 = some F133 := by kernel_rfl
theorem hb133 : HasBody Try.prog 133 := ⟨_, Try.func133, by kernel_rfl, by kernel_rfl⟩
/-! keys.plain -/
abbrev c134_r1 : List Ins := [
  ⟨some 2, none, .mov (.c (.sl .full []))⟩]
abbrev c134_r2 : List Ins := [
  ⟨some 8, none, .mov (.t 0)⟩,
  ⟨some 9, none, .call (.c (.fn 146 [] [])) [.t 8]⟩,
  ⟨some 10, none, .call (.c (.fn 145 [] [])) [.t 9, .c (.fn 147 [] [])]⟩,
  ⟨some 3, none, .mov (.t 10)⟩]
abbrev c134_r3 : List Ins := [
  ⟨some 11, none, .mov (.t 3)⟩,
  ⟨some 12, none, .call (.c (.fn 149 [] [])) [.t 11, .c (.fn 150 [] [])]⟩]
abbrev c134_r4 : List Ins := [
  ⟨some 4, none, .mov (.c (.sl .full []))⟩]
abbrev c134_r5 : List Ins := [
  ⟨some 13, none, .mov (.t 3)⟩,
  ⟨some 14, none, .len (.t 13)⟩,
  ⟨some 15, none, .mov (.c (.int .i64 0))⟩]
abbrev c134_r6 : List Ins := [
  ⟨some 16, none, .bin .lss (.t 15) (.t 14)⟩]
abbrev c134_r7 : List Ins := [
  ⟨some 17, none, .iaddr 2 (.t 13) (.t 15)⟩,
  ⟨some 18, none, .load 2 true (.t 17)⟩,
  ⟨some 6, none, .alloc [.int .i64 0, .int .i64 0]⟩,
  ⟨none, none, .store 2 (.t 6) (.t 18)⟩]
abbrev c134_r8 : List Ins := [
  ⟨some 19, none, .mov (.t 4)⟩,
  ⟨some 20, none, .len (.t 19)⟩,
  ⟨some 7, none, .mov (.t 20)⟩]
abbrev c134_r9 : List Ins := [
  ⟨some 21, none, .mov (.t 7)⟩,
  ⟨some 22, none, .bin .gtr (.t 21) (.c (.int .i64 0))⟩,
  ⟨some 23, none, .mov (.t 22)⟩,
  ⟨some 24, some (23, true), .faddr 0 (.t 6)⟩,
  ⟨some 25, some (23, true), .load 1 false (.t 24)⟩,
  ⟨some 26, some (23, true), .mov (.t 4)⟩,
  ⟨some 27, some (23, true), .mov (.t 7)⟩,
  ⟨some 28, some (23, true), .bin .sub (.t 27) (.c (.int .i64 1))⟩,
  ⟨some 29, some (23, true), .iaddr 2 (.t 26) (.t 28)⟩,
  ⟨some 30, some (23, true), .faddr 1 (.t 29)⟩,
  ⟨some 31, some (23, true), .load 1 false (.t 30)⟩,
  ⟨some 32, some (23, true), .bin .add (.t 31) (.c (.int .i64 1))⟩,
  ⟨some 33, some (23, true), .bin .leq (.t 25) (.t 32)⟩,
  ⟨some 34, none, .pick (.t 23) (.t 33) (.c (.bool false))⟩]
def c134_a9 : List (List Nat) := [[], [0], [1], [2], [3, 2], [2], [2], [6, 2], [5, 7, 2], [8, 2], [9, 2], [10, 2], [4, 11, 2], [2, 12]]
abbrev c134_m9 : List Am.Mark := [⟨false, 0, 0⟩, ⟨false, 0, 0⟩, ⟨false, 0, 0⟩, ⟨false, 0, 0⟩, ⟨false, 0, 0⟩, ⟨false, 0, 0⟩, ⟨false, 0, 0⟩, ⟨false, 0, 0⟩, ⟨false, 0, 0⟩, ⟨false, 0, 0⟩, ⟨false, 0, 0⟩, ⟨false, 0, 0⟩, ⟨false, 0, 0⟩, ⟨false, 0, 0⟩]
theorem c134_d9 : drawFine c134_r9 c134_a9 c134_m9 = true := by decide +kernel
abbrev c134_r10 : List Ins := [
  ⟨some 35, none, .mov (.t 4)⟩,
  ⟨some 36, none, .mov (.t 7)⟩,
  ⟨some 37, none, .bin .sub (.t 36) (.c (.int .i64 1))⟩,
  ⟨some 38, none, .mov (.t 4)⟩,
  ⟨some 39, none, .mov (.t 7)⟩,
  ⟨some 40, none, .bin .sub (.t 39) (.c (.int .i64 1))⟩,
  ⟨some 41, none, .iaddr 2 (.t 38) (.t 40)⟩,
  ⟨some 42, none, .faddr 1 (.t 41)⟩,
  ⟨some 43, none, .load 1 false (.t 42)⟩,
  ⟨some 44, none, .faddr 1 (.t 6)⟩,
  ⟨some 45, none, .load 1 false (.t 44)⟩,
  ⟨some 46, none, .mx [.t 43, .t 45]⟩,
  ⟨some 47, none, .iaddr 2 (.t 35) (.t 37)⟩,
  ⟨some 48, none, .faddr 1 (.t 47)⟩,
  ⟨none, none, .store 1 (.t 48) (.t 46)⟩]
def c134_a10 : List (List Nat) := [[], [], [1], [], [], [4], [3, 5], [6], [7], [], [9], [8, 10], [0, 2, 0, 1, 2, 3, 4, 5, 6, 7, 8, 9, 10, 11], [12, 0, 1, 2, 3, 4, 5, 6, 7, 8, 9, 10, 11], [13, 11, 0, 1, 2, 3, 4, 5, 6, 7, 8, 9, 10, 11]]
abbrev c134_m10 : List Am.Mark := [⟨false, 0, 0⟩, ⟨false, 0, 0⟩, ⟨false, 0, 0⟩, ⟨false, 0, 0⟩, ⟨false, 0, 0⟩, ⟨false, 0, 0⟩, ⟨false, 0, 0⟩, ⟨false, 0, 0⟩, ⟨false, 0, 0⟩, ⟨false, 0, 0⟩, ⟨false, 0, 0⟩, ⟨false, 0, 0⟩, ⟨false, 0, 1⟩, ⟨false, 0, 0⟩, ⟨true, 0, 1⟩]
theorem c134_d10 : drawFine c134_r10 c134_a10 c134_m10 = true := by decide +kernel
abbrev c134_r11 : List Ins := [
  ⟨some 49, none, .mov (.t 4)⟩,
  ⟨some 50, none, .load 2 true (.t 6)⟩,
  ⟨some 51, none, .bsl 2 1 [.int .i64 0, .int .i64 0] [(0, .t 50)]⟩,
  ⟨some 52, none, .append 2 16 (.t 49) (.t 51)⟩,
  ⟨some 4, none, .mov (.t 52)⟩]
abbrev c134_r12 : List Ins := [
  ⟨some 53, none, .bin .add (.t 15) (.c (.int .i64 1))⟩,
  ⟨some 15, none, .mov (.t 53)⟩]
abbrev c134_l13 : IR := .seq (.reg c134_r6) (.seq (.cond (.t 16) (.skip) (.exit 0)) (.seq (.blk 1 (.seq (.reg c134_r7) (.seq (.reg c134_r8) (.seq (.seq (.dreg c134_r9 c134_a9) (.cond (.t 34) (.seq (.dreg c134_r10 c134_a10) (.exit 1)) (.skip))) (.reg c134_r11))))) (.reg c134_r12)))
abbrev c134_r14 : List Ins := [
  ⟨some 54, none, .mov (.t 4)⟩,
  ⟨some 2, none, .mov (.t 54)⟩]
abbrev c134 : IR := .seq (.reg c134_r1) (.seq (.reg c134_r2) (.seq (.reg c134_r3) (.seq (.reg c134_r4) (.seq (.seq (.reg c134_r5) (.blk 0 (.loop c134_l13))) (.seq (.reg c134_r14) (.ret))))))
abbrev F134 : FnA := ⟨55, c134, [.t 2]⟩
theorem ok134 : cFn Try.prog 134 = some F134 := by kernel_rfl
theorem hb134 : HasBody Try.prog 134 := ⟨_, Try.func134, by kernel_rfl, by kernel_rfl⟩
/-! prog.only -/
abbrev c135_r1 : List Ins := [
  ⟨some 1, none, .box (.t 0)⟩,
  ⟨some 2, none, .alloc [.int .i64 0, .int .i64 0, .int .i64 0, .int .i64 0, .int .i64 0, .int .i64 0, .int .i64 0, .int .i64 0, .int .i64 0]⟩,
  ⟨some 3, none, .mov (.c (.bool false))⟩]
abbrev c135_r2 : List Ins := [
  ⟨some 5, none, .faddr 0 (.t 1)⟩,
  ⟨some 6, none, .load 1 false (.t 5)⟩,
  ⟨some 7, none, .faddr 1 (.t 1)⟩,
  ⟨some 8, none, .load 1 false (.t 7)⟩,
  ⟨some 9, none, .build [.int .i64 0, .int .i64 0, .int .i64 0, .int .i64 0, .int .i64 0, .int .i64 0, .int .i64 0, .int .i64 0, .int .i64 0] [(0, (1, .t 6)), (1, (1, .t 8))]⟩,
  ⟨some 4, none, .alloc [.int .i64 0, .int .i64 0, .int .i64 0, .int .i64 0, .int .i64 0, .int .i64 0, .int .i64 0, .int .i64 0, .int .i64 0]⟩,
  ⟨none, none, .store 9 (.t 4) (.t 9)⟩]
abbrev c135_r3 : List Ins := [
  ⟨some 10, none, .faddr 0 (.t 1)⟩,
  ⟨some 11, none, .load 1 false (.t 10)⟩]
abbrev c135_r4 : List Ins := [
  ⟨some 14, none, .bin .eql (.t 11) (.c (.int .i64 1))⟩,
  ⟨some 13, none, .mov (.t 14)⟩]
abbrev c135_r5 : List Ins := [
  ⟨some 15, none, .bin .eql (.t 11) (.c (.int .i64 2))⟩,
  ⟨some 13, none, .mov (.t 15)⟩]
abbrev c135_r6 : List Ins := [
  ⟨some 16, none, .faddr 4 (.t 1)⟩,
  ⟨some 17, none, .load 2 true (.t 16)⟩,
  ⟨some 18, none, .faddr 4 (.t 4)⟩,
  ⟨none, none, .store 2 (.t 18) (.t 17)⟩]
abbrev c135_r7 : List Ins := [
  ⟨some 20, none, .bin .eql (.t 11) (.c (.int .i64 3))⟩,
  ⟨some 19, none, .mov (.t 20)⟩]
abbrev c135_r8 : List Ins := [
  ⟨some 21, none, .faddr 4 (.t 1)⟩,
  ⟨some 22, none, .load 2 true (.t 21)⟩,
  ⟨some 23, none, .faddr 1 (.t 4)⟩,
  ⟨none, none, .store 1 (.t 23) (.c (.int .i64 0))⟩,
  ⟨some 24, none, .faddr 4 (.t 4)⟩,
  ⟨none, none, .store 2 (.t 24) (.t 22)⟩]
def c135_a8 : List (List Nat) := [[], [0], [], [2], [0, 1, 2, 3], [4, 1, 3, 0, 1, 2, 3]]
abbrev c135_m8 : List Am.Mark := [⟨false, 0, 1⟩, ⟨false, 0, 1⟩, ⟨false, 0, 0⟩, ⟨true, 0, 1⟩, ⟨false, 1, 1⟩, ⟨true, 1, 2⟩]
theorem c135_d8 : drawFine c135_r8 c135_a8 c135_m8 = true := by decide +kernel
abbrev c135_r9 : List Ins := [
  ⟨some 26, none, .bin .eql (.t 11) (.c (.int .i64 4))⟩,
  ⟨some 25, none, .mov (.t 26)⟩]
abbrev c135_r10 : List Ins := [
  ⟨some 27, none, .faddr 4 (.t 1)⟩,
  ⟨some 28, none, .load 2 true (.t 27)⟩,
  ⟨some 29, none, .faddr 6 (.t 1)⟩,
  ⟨some 30, none, .load 2 true (.t 29)⟩,
  ⟨some 31, none, .faddr 4 (.t 4)⟩,
  ⟨none, none, .store 2 (.t 31) (.t 28)⟩,
  ⟨some 32, none, .faddr 6 (.t 4)⟩,
  ⟨none, none, .store 2 (.t 32) (.t 30)⟩]
def c135_a10 : List (List Nat) := [[], [0], [], [2], [0, 1], [4, 1, 0, 1], [0, 1, 2, 3, 4, 5], [6, 3, 5, 0, 1, 2, 3, 4, 5]]
abbrev c135_m10 : List Am.Mark := [⟨false, 0, 0⟩, ⟨false, 0, 0⟩, ⟨false, 0, 1⟩, ⟨false, 0, 1⟩, ⟨false, 0, 0⟩, ⟨true, 0, 1⟩, ⟨false, 1, 1⟩, ⟨true, 1, 2⟩]
theorem c135_d10 : drawFine c135_r10 c135_a10 c135_m10 = true := by decide +kernel
abbrev c135_r11 : List Ins := [
  ⟨some 34, none, .bin .eql (.t 11) (.c (.int .i64 5))⟩,
  ⟨some 33, none, .mov (.t 34)⟩]
abbrev c135_r12 : List Ins := [
  ⟨some 35, none, .bin .eql (.t 11) (.c (.int .i64 8))⟩,
  ⟨some 33, none, .mov (.t 35)⟩]
abbrev c135_r13 : List Ins := [
  ⟨some 36, none, .faddr 8 (.t 1)⟩,
  ⟨some 37, none, .load 1 false (.t 36)⟩,
  ⟨some 38, none, .faddr 8 (.t 4)⟩,
  ⟨none, none, .store 1 (.t 38) (.t 37)⟩]
abbrev c135_r14 : List Ins := [
  ⟨some 40, none, .bin .eql (.t 11) (.c (.int .i64 6))⟩,
  ⟨some 39, none, .mov (.t 40)⟩]
abbrev c135_r15 : List Ins := [
  ⟨some 41, none, .bin .eql (.t 11) (.c (.int .i64 7))⟩,
  ⟨some 39, none, .mov (.t 41)⟩]
abbrev c135_r16 : List Ins := [
  ⟨some 42, none, .faddr 2 (.t 1)⟩,
  ⟨some 43, none, .load 1 false (.t 42)⟩,
  ⟨some 44, none, .faddr 3 (.t 1)⟩,
  ⟨some 45, none, .load 1 false (.t 44)⟩,
  ⟨some 46, none, .faddr 2 (.t 4)⟩,
  ⟨none, none, .store 1 (.t 46) (.t 43)⟩,
  ⟨some 47, none, .faddr 3 (.t 4)⟩,
  ⟨none, none, .store 1 (.t 47) (.t 45)⟩]
def c135_a16 : List (List Nat) := [[], [0], [], [2], [0, 1], [4, 1, 0, 1], [0, 1, 2, 3, 4, 5], [6, 3, 5, 0, 1, 2, 3, 4, 5]]
abbrev c135_m16 : List Am.Mark := [⟨false, 0, 0⟩, ⟨false, 0, 0⟩, ⟨false, 0, 1⟩, ⟨false, 0, 1⟩, ⟨false, 0, 0⟩, ⟨true, 0, 1⟩, ⟨false, 1, 1⟩, ⟨true, 1, 2⟩]
theorem c135_d16 : drawFine c135_r16 c135_a16 c135_m16 = true := by decide +kernel
abbrev c135_r17 : List Ins := [
  ⟨some 12, none, .load 9 true (.t 4)⟩,
  ⟨none, none, .store 9 (.t 2) (.t 12)⟩,
  ⟨some 3, none, .mov (.c (.bool false))⟩]
abbrev c135_r18 : List Ins := [
  ⟨some 48, none, .load 9 true (.t 4)⟩,
  ⟨none, none, .store 9 (.t 2) (.t 48)⟩,
  ⟨some 3, none, .mov (.c (.bool true))⟩]
abbrev c135 : IR := .seq (.reg c135_r1) (.seq (.reg c135_r2) (.seq (.seq (.reg c135_r3) (.blk 0 (.seq (.seq (.reg c135_r4) (.cond (.t 13) (.skip) (.reg c135_r5))) (.cond (.t 13) (.reg c135_r6) (.seq (.reg c135_r7) (.cond (.t 19) (.dreg c135_r8 c135_a8) (.seq (.reg c135_r9) (.cond (.t 25) (.dreg c135_r10 c135_a10) (.seq (.seq (.reg c135_r11) (.cond (.t 33) (.skip) (.reg c135_r12))) (.cond (.t 33) (.reg c135_r13) (.seq (.seq (.reg c135_r14) (.cond (.t 39) (.skip) (.reg c135_r15))) (.cond (.t 39) (.dreg c135_r16 c135_a16) (.seq (.reg c135_r17) (.ret)))))))))))))) (.seq (.reg c135_r18) (.ret))))
abbrev F135 : FnA := ⟨49, c135, [.cell 2 9 true, .t 3]⟩
theorem ok135 : cFn Try.prog 135 = some F135 := by kernel_rfl
theorem hb135 : HasBody Try.prog 135 := ⟨_, Try.func135, by kernel_rfl, by kernel_rfl⟩
/-! prog.may$1 -/
abbrev c136_r1 : List Ins := [
  ⟨some 2, none, .box (.t 0)⟩,
  ⟨some 3, none, .mov (.c (.bool false))⟩]
abbrev c136_r2 : List Ins := [
  ⟨some 4, none, .load 2 true (.t 2)⟩,
  ⟨some 5, none, .load 1 false (.t 1)⟩,
  ⟨some 6, none, .call (.c (.fn 137 [] [])) [.t 4, .t 5]⟩,
  ⟨some 7, none, .un .not (.t 6)⟩,
  ⟨some 3, none, .mov (.t 7)⟩]
abbrev c136 : IR := .seq (.reg c136_r1) (.seq (.reg c136_r2) (.ret))
abbrev F136 : FnA := ⟨8, c136, [.t 3]⟩
theorem ok136 : cFn Try.prog 136 = some F136 := by kernel_rfl
theorem hb136 : HasBody Try.prog 136 := ⟨_, Try.func136, by kernel_rfl, by kernel_rfl⟩
/-! prog.mayKey -/
abbrev c137_r1 : List Ins := [
  ⟨some 2, none, .box (.t 0)⟩,
  ⟨some 4, none, .mov (.c (.bool false))⟩]
abbrev c137_r2 : List Ins := [
  ⟨some 5, none, .faddr 0 (.t 2)⟩,
  ⟨some 6, none, .load 1 false (.t 5)⟩,
  ⟨some 7, none, .bin .geq (.t 6) (.c (.int .i64 (-1)))⟩,
  ⟨some 8, none, .mov (.t 7)⟩,
  ⟨some 9, some (8, true), .faddr 0 (.t 2)⟩,
  ⟨some 10, some (8, true), .load 1 false (.t 9)⟩,
  ⟨some 11, some (8, true), .mov (.t 1)⟩,
  ⟨some 12, some (8, true), .bin .lss (.t 10) (.t 11)⟩,
  ⟨some 13, none, .pick (.t 8) (.t 12) (.c (.bool false))⟩,
  ⟨some 14, none, .mov (.t 13)⟩,
  ⟨some 15, some (14, true), .faddr 1 (.t 2)⟩,
  ⟨some 16, some (14, true), .load 1 false (.t 15)⟩,
  ⟨some 17, some (14, true), .bin .geq (.t 16) (.c (.int .i64 0))⟩,
  ⟨some 18, none, .pick (.t 14) (.t 17) (.c (.bool false))⟩,
  ⟨some 19, none, .mov (.t 18)⟩,
  ⟨some 20, some (19, true), .faddr 1 (.t 2)⟩,
  ⟨some 21, some (19, true), .load 1 false (.t 20)⟩,
  ⟨some 22, some (19, true), .bin .leq (.t 21) (.c (.int .i64 900))⟩,
  ⟨some 23, none, .pick (.t 19) (.t 22) (.c (.bool false))⟩,
  ⟨some 4, none, .mov (.t 23)⟩]
abbrev c137 : IR := .seq (.reg c137_r1) (.seq (.reg c137_r2) (.ret))
abbrev F137 : FnA := ⟨24, c137, [.t 4]⟩
theorem ok137 : cFn Try.prog 137 = some F137 := by kernel_rfl
theorem hb137 : HasBody Try.prog 137 := ⟨_, Try.func137, by kernel_rfl, by kernel_rfl⟩
/-! prog.register -/
abbrev c138_r1 : List Ins := [
  ⟨some 2, none, .mov (.c (.bool false))⟩]
abbrev c138_r2 : List Ins := [
  ⟨some 3, none, .mov (.t 0)⟩,
  ⟨some 4, none, .bin .geq (.t 3) (.c (.int .i64 0))⟩,
  ⟨some 5, none, .mov (.t 4)⟩,
  ⟨some 6, some (5, true), .mov (.t 0)⟩,
  ⟨some 7, some (5, true), .bin .lss (.t 6) (.c (.int .i64 4))⟩,
  ⟨some 8, none, .pick (.t 5) (.t 7) (.c (.bool false))⟩,
  ⟨some 2, none, .mov (.t 8)⟩]
abbrev c138 : IR := .seq (.reg c138_r1) (.seq (.reg c138_r2) (.ret))
abbrev F138 : FnA := ⟨9, c138, [.t 2]⟩
theorem ok138 : cFn Try.prog 138 = some F138 := by kernel_rfl
theorem hb138 : HasBody Try.prog 138 := ⟨_, Try.func138, by kernel_rfl, by kernel_rfl⟩
/-! slices.ContainsFunc:KeyT -/
abbrev c139_r1 : List Ins := [
  ⟨some 4, none, .mov (.c (.bool false))⟩]
abbrev c139_r2 : List Ins := [
  ⟨some 5, none, .mov (.t 0)⟩,
  ⟨some 6, none, .mov (.t 1)⟩,
  ⟨some 7, none, .call (.c (.fn 152 [] [])) [.t 5, .t 6]⟩,
  ⟨some 8, none, .bin .geq (.t 7) (.c (.int .i64 0))⟩,
  ⟨some 4, none, .mov (.t 8)⟩]
abbrev c139 : IR := .seq (.reg c139_r1) (.seq (.reg c139_r2) (.ret))
abbrev F139 : FnA := ⟨9, c139, [.t 4]⟩
theorem ok139 : cFn Try.prog 139 = some F139 := by kernel_rfl
theorem hb139 : HasBody Try.prog 139 := ⟨_, Try.func139, by kernel_rfl, by kernel_rfl⟩
/-! prog.keys -/
abbrev c140_r1 : List Ins := [
  ⟨some 1, none, .box (.t 0)⟩,
  ⟨some 2, none, .mov (.c (.sl .full []))⟩]
abbrev c140_r2 : List Ins := [
  ⟨some 3, none, .faddr 0 (.t 1)⟩,
  ⟨some 4, none, .load 1 false (.t 3)⟩]
abbrev c140_r3 : List Ins := [
  ⟨some 6, none, .bin .eql (.t 4) (.c (.int .i64 1))⟩,
  ⟨some 5, none, .mov (.t 6)⟩]
abbrev c140_r4 : List Ins := [
  ⟨some 7, none, .bin .eql (.t 4) (.c (.int .i64 2))⟩,
  ⟨some 5, none, .mov (.t 7)⟩]
abbrev c140_r5 : List Ins := [
  ⟨some 8, none, .bin .eql (.t 4) (.c (.int .i64 3))⟩,
  ⟨some 5, none, .mov (.t 8)⟩]
abbrev c140_r6 : List Ins := [
  ⟨some 9, none, .faddr 4 (.t 1)⟩,
  ⟨some 10, none, .load 2 true (.t 9)⟩,
  ⟨some 11, none, .bsl 2 1 [.int .i64 0, .int .i64 0] [(0, .t 10)]⟩,
  ⟨some 2, none, .mov (.t 11)⟩]
abbrev c140_r7 : List Ins := [
  ⟨some 13, none, .bin .eql (.t 4) (.c (.int .i64 4))⟩,
  ⟨some 12, none, .mov (.t 13)⟩]
abbrev c140_r8 : List Ins := [
  ⟨some 14, none, .faddr 4 (.t 1)⟩,
  ⟨some 15, none, .load 2 true (.t 14)⟩,
  ⟨some 16, none, .faddr 6 (.t 1)⟩,
  ⟨some 17, none, .load 2 true (.t 16)⟩,
  ⟨some 18, none, .bsl 2 2 [.int .i64 0, .int .i64 0] [(0, .t 15), (1, .t 17)]⟩,
  ⟨some 2, none, .mov (.t 18)⟩]
abbrev c140_r9 : List Ins := [
  ⟨some 2, none, .mov (.c (.sl .full []))⟩]
abbrev c140 : IR := .seq (.reg c140_r1) (.seq (.seq (.reg c140_r2) (.blk 0 (.seq (.seq (.reg c140_r3) (.cond (.t 5) (.skip) (.seq (.reg c140_r4) (.cond (.t 5) (.skip) (.reg c140_r5))))) (.cond (.t 5) (.seq (.reg c140_r6) (.ret)) (.seq (.reg c140_r7) (.cond (.t 12) (.seq (.reg c140_r8) (.ret)) (.skip))))))) (.seq (.reg c140_r9) (.ret)))
abbrev F140 : FnA := ⟨19, c140, [.t 2]⟩
theorem ok140 : cFn Try.prog 140 = some F140 := by kernel_rfl
theorem hb140 : HasBody Try.prog 140 := ⟨_, Try.func140, by kernel_rfl, by kernel_rfl⟩
/-! slices.DeleteFunc:Span -/
abbrev c145_r1 : List Ins := [
  ⟨some 4, none, .mov (.c (.sl .full []))⟩]
abbrev c145_r2 : List Ins := [
  ⟨some 8, none, .mov (.t 0)⟩,
  ⟨some 9, none, .mov (.t 1)⟩,
  ⟨some 10, none, .call (.c (.fn 153 [] [])) [.t 8, .t 9]⟩,
  ⟨some 5, none, .mov (.t 10)⟩]
abbrev c145_r3 : List Ins := [
  ⟨some 11, none, .mov (.t 5)⟩,
  ⟨some 12, none, .bin .eql (.t 11) (.c (.int .i64 (-1)))⟩]
abbrev c145_r4 : List Ins := [
  ⟨some 13, none, .mov (.t 0)⟩,
  ⟨some 4, none, .mov (.t 13)⟩]
abbrev c145_r5 : List Ins := [
  ⟨some 14, none, .mov (.t 5)⟩,
  ⟨some 15, none, .bin .add (.t 14) (.c (.int .i64 1))⟩,
  ⟨some 6, none, .mov (.t 15)⟩]
abbrev c145_r6 : List Ins := [
  ⟨some 16, none, .mov (.t 6)⟩,
  ⟨some 17, none, .mov (.t 0)⟩,
  ⟨some 18, none, .len (.t 17)⟩,
  ⟨some 19, none, .bin .lss (.t 16) (.t 18)⟩]
abbrev c145_r7 : List Ins := [
  ⟨some 22, none, .mov (.t 0)⟩,
  ⟨some 23, none, .mov (.t 6)⟩,
  ⟨some 24, none, .iaddr 2 (.t 22) (.t 23)⟩,
  ⟨some 25, none, .load 2 true (.t 24)⟩,
  ⟨some 7, none, .alloc [.int .i64 0, .int .i64 0]⟩,
  ⟨none, none, .store 2 (.t 7) (.t 25)⟩]
abbrev c145_r8 : List Ins := [
  ⟨some 26, none, .mov (.t 1)⟩,
  ⟨some 27, none, .load 2 true (.t 7)⟩,
  ⟨some 28, none, .call (.t 26) [.t 27]⟩,
  ⟨some 29, none, .un .not (.t 28)⟩]
abbrev c145_r9 : List Ins := [
  ⟨some 30, none, .mov (.t 0)⟩,
  ⟨some 31, none, .mov (.t 5)⟩,
  ⟨some 32, none, .load 2 true (.t 7)⟩,
  ⟨some 33, none, .iaddr 2 (.t 30) (.t 31)⟩,
  ⟨none, none, .store 2 (.t 33) (.t 32)⟩]
abbrev c145_r10 : List Ins := [
  ⟨some 34, none, .mov (.t 5)⟩,
  ⟨some 35, none, .bin .add (.t 34) (.c (.int .i64 1))⟩,
  ⟨some 5, none, .mov (.t 35)⟩]
abbrev c145_r11 : List Ins := [
  ⟨some 20, none, .mov (.t 6)⟩,
  ⟨some 21, none, .bin .add (.t 20) (.c (.int .i64 1))⟩,
  ⟨some 6, none, .mov (.t 21)⟩]
abbrev c145_l12 : IR := .seq (.seq (.reg c145_r6) (.cond (.t 19) (.skip) (.exit 0))) (.seq (.blk 1 (.seq (.reg c145_r7) (.seq (.reg c145_r8) (.cond (.t 29) (.seq (.reg c145_r9) (.reg c145_r10)) (.skip))))) (.reg c145_r11))
abbrev c145_r13 : List Ins := [
  ⟨some 36, none, .mov (.t 0)⟩,
  ⟨some 37, none, .mov (.t 5)⟩,
  ⟨some 38, none, .slice 2 (.t 36) (some (.t 37)) none none⟩,
  ⟨none, none, .clear 2 [.int .i64 0, .int .i64 0] (.t 38)⟩]
abbrev c145_r14 : List Ins := [
  ⟨some 39, none, .mov (.t 0)⟩,
  ⟨some 40, none, .mov (.t 5)⟩,
  ⟨some 41, none, .slice 2 (.t 39) none (some (.t 40)) none⟩,
  ⟨some 4, none, .mov (.t 41)⟩]
abbrev c145 : IR := .seq (.reg c145_r1) (.seq (.reg c145_r2) (.seq (.seq (.reg c145_r3) (.cond (.t 12) (.seq (.reg c145_r4) (.ret)) (.skip))) (.seq (.seq (.reg c145_r5) (.blk 0 (.loop c145_l12))) (.seq (.reg c145_r13) (.seq (.reg c145_r14) (.ret))))))
abbrev F145 : FnA := ⟨42, c145, [.t 4]⟩
theorem ok145 : cFn Try.prog 145 = some F145 := by kernel_rfl
theorem hb145 : HasBody Try.prog 145 := ⟨_, Try.func145, by kernel_rfl, by kernel_rfl⟩
/-! slices.Concat:Span -/
abbrev c146_r1 : List Ins := [
  ⟨some 2, none, .mov (.c (.sl .full []))⟩]
abbrev c146_r2 : List Ins := [
  ⟨some 3, none, .mov (.c (.int .i64 0))⟩]
abbrev c146_r3 : List Ins := [
  ⟨some 9, none, .mov (.t 0)⟩,
  ⟨some 10, none, .len (.t 9)⟩,
  ⟨some 11, none, .mov (.c (.int .i64 0))⟩]
abbrev c146_r4 : List Ins := [
  ⟨some 12, none, .bin .lss (.t 11) (.t 10)⟩]
abbrev c146_r5 : List Ins := [
  ⟨some 13, none, .iaddr 1 (.t 9) (.t 11)⟩,
  ⟨some 14, none, .load 1 false (.t 13)⟩,
  ⟨some 5, none, .mov (.t 14)⟩]
abbrev c146_r6 : List Ins := [
  ⟨some 15, none, .mov (.t 3)⟩,
  ⟨some 16, none, .mov (.t 5)⟩,
  ⟨some 17, none, .len (.t 16)⟩,
  ⟨some 18, none, .bin .add (.t 15) (.t 17)⟩,
  ⟨some 3, none, .mov (.t 18)⟩]
abbrev c146_r7 : List Ins := [
  ⟨some 19, none, .mov (.t 3)⟩,
  ⟨some 20, none, .bin .lss (.t 19) (.c (.int .i64 0))⟩]
abbrev c146_r8 : List Ins := [
  ⟨some 21, none, .copy 0 (.c .undef) (.c .undef)⟩,
  ⟨none, none, .copy 0 (.c .undef) (.c .undef)⟩]
abbrev c146_r9 : List Ins := [
  ⟨some 22, none, .bin .add (.t 11) (.c (.int .i64 1))⟩,
  ⟨some 11, none, .mov (.t 22)⟩]
abbrev c146_l10 : IR := .seq (.reg c146_r4) (.seq (.cond (.t 12) (.skip) (.exit 0)) (.seq (.blk 1 (.seq (.reg c146_r5) (.seq (.reg c146_r6) (.seq (.reg c146_r7) (.cond (.t 20) (.reg c146_r8) (.skip)))))) (.reg c146_r9)))
abbrev c146_r11 : List Ins := [
  ⟨some 23, none, .mov (.t 3)⟩,
  ⟨some 24, none, .call (.c (.fn 154 [] [])) [.c (.sl .full []), .t 23]⟩,
  ⟨some 6, none, .mov (.t 24)⟩]
abbrev c146_r12 : List Ins := [
  ⟨some 25, none, .mov (.t 0)⟩,
  ⟨some 26, none, .len (.t 25)⟩,
  ⟨some 27, none, .mov (.c (.int .i64 0))⟩]
abbrev c146_r13 : List Ins := [
  ⟨some 28, none, .bin .lss (.t 27) (.t 26)⟩]
abbrev c146_r14 : List Ins := [
  ⟨some 29, none, .iaddr 1 (.t 25) (.t 27)⟩,
  ⟨some 30, none, .load 1 false (.t 29)⟩,
  ⟨some 8, none, .mov (.t 30)⟩]
abbrev c146_r15 : List Ins := [
  ⟨some 31, none, .mov (.t 6)⟩,
  ⟨some 32, none, .mov (.t 8)⟩,
  ⟨some 33, none, .append 2 16 (.t 31) (.t 32)⟩,
  ⟨some 6, none, .mov (.t 33)⟩]
abbrev c146_r16 : List Ins := [
  ⟨some 34, none, .bin .add (.t 27) (.c (.int .i64 1))⟩,
  ⟨some 27, none, .mov (.t 34)⟩]
abbrev c146_l17 : IR := .seq (.reg c146_r13) (.seq (.cond (.t 28) (.skip) (.exit 2)) (.seq (.blk 3 (.seq (.reg c146_r14) (.reg c146_r15))) (.reg c146_r16)))
abbrev c146_r18 : List Ins := [
  ⟨some 35, none, .mov (.t 6)⟩,
  ⟨some 2, none, .mov (.t 35)⟩]
abbrev c146 : IR := .seq (.reg c146_r1) (.seq (.reg c146_r2) (.seq (.seq (.reg c146_r3) (.blk 0 (.loop c146_l10))) (.seq (.reg c146_r11) (.seq (.seq (.reg c146_r12) (.blk 2 (.loop c146_l17))) (.seq (.reg c146_r18) (.ret))))))
abbrev F146 : FnA := ⟨36, c146, [.t 2]⟩
theorem ok146 : cFn Try.prog 146 = some F146 := by kernel_rfl
theorem hb146 : HasBody Try.prog 146 := ⟨_, Try.func146, by kernel_rfl, by kernel_rfl⟩
/-! keys.plain$1 -/
abbrev c147_r1 : List Ins := [
  ⟨some 1, none, .box (.t 0)⟩,
  ⟨some 2, none, .mov (.c (.bool false))⟩]
abbrev c147_r2 : List Ins := [
  ⟨some 3, none, .load 2 true (.t 1)⟩,
  ⟨some 4, none, .call (.c (.fn 148 [] [])) [.t 3]⟩,
  ⟨some 5, none, .un .not (.t 4)⟩,
  ⟨some 2, none, .mov (.t 5)⟩]
abbrev c147 : IR := .seq (.reg c147_r1) (.seq (.reg c147_r2) (.ret))
abbrev F147 : FnA := ⟨6, c147, [.t 2]⟩
theorem ok147 : cFn Try.prog 147 = some F147 := by kernel_rfl
theorem hb147 : HasBody Try.prog 147 := ⟨_, Try.func147, by kernel_rfl, by kernel_rfl⟩
/-! keys.May -/
abbrev c148_r1 : List Ins := [
  ⟨some 1, none, .box (.t 0)⟩,
  ⟨some 2, none, .mov (.c (.bool false))⟩]
abbrev c148_r2 : List Ins := [
  ⟨some 3, none, .faddr 0 (.t 1)⟩,
  ⟨some 4, none, .load 1 false (.t 3)⟩,
  ⟨some 5, none, .bin .geq (.t 4) (.c (.int .i64 0))⟩,
  ⟨some 6, none, .mov (.t 5)⟩,
  ⟨some 7, some (6, true), .faddr 0 (.t 1)⟩,
  ⟨some 8, some (6, true), .load 1 false (.t 7)⟩,
  ⟨some 9, some (6, true), .faddr 1 (.t 1)⟩,
  ⟨some 10, some (6, true), .load 1 false (.t 9)⟩,
  ⟨some 11, some (6, true), .bin .leq (.t 8) (.t 10)⟩,
  ⟨some 12, none, .pick (.t 6) (.t 11) (.c (.bool false))⟩,
  ⟨some 13, none, .mov (.t 12)⟩,
  ⟨some 14, some (13, true), .faddr 1 (.t 1)⟩,
  ⟨some 15, some (13, true), .load 1 false (.t 14)⟩,
  ⟨some 16, some (13, true), .bin .leq (.t 15) (.c (.int .i64 999))⟩,
  ⟨some 17, none, .pick (.t 13) (.t 16) (.c (.bool false))⟩,
  ⟨some 2, none, .mov (.t 17)⟩]
abbrev c148 : IR := .seq (.reg c148_r1) (.seq (.reg c148_r2) (.ret))
abbrev F148 : FnA := ⟨18, c148, [.t 2]⟩
theorem ok148 : cFn Try.prog 148 = some F148 := by kernel_rfl
theorem hb148 : HasBody Try.prog 148 := ⟨_, Try.func148, by kernel_rfl, by kernel_rfl⟩
/-! slices.SortFunc:Span -/
abbrev c149_r1 : List Ins := [
  ⟨some 5, none, .mov (.t 0)⟩,
  ⟨some 6, none, .len (.t 5)⟩,
  ⟨some 4, none, .mov (.t 6)⟩]
abbrev c149_r2 : List Ins := [
  ⟨some 7, none, .mov (.t 0)⟩,
  ⟨some 8, none, .mov (.t 4)⟩,
  ⟨some 9, none, .mov (.t 4)⟩,
  ⟨some 10, none, .conv .u64 (.t 9)⟩,
  ⟨some 11, none, .call (.c (.fn 156 [] [])) [.t 10]⟩,
  ⟨some 12, none, .mov (.t 1)⟩,
  ⟨some 13, none, .call (.c (.fn 155 [] [])) [.t 7, .c (.int .i64 0), .t 8, .t 11, .t 12]⟩]
abbrev c149 : IR := .seq (.reg c149_r1) (.reg c149_r2)
abbrev F149 : FnA := ⟨14, c149, []⟩
theorem ok149 : cFn Try.prog 149 = some F149 := by kernel_rfl
theorem hb149 : HasBody Try.prog 149 := ⟨_, Try.func149, by kernel_rfl, by kernel_rfl⟩
/-! keys.plain$2 -/
abbrev c150_r1 : List Ins := [
  ⟨some 2, none, .box (.t 0)⟩,
  ⟨some 3, none, .box (.t 1)⟩,
  ⟨some 4, none, .mov (.c (.int .i64 0))⟩]
abbrev c150_r2 : List Ins := [
  ⟨some 5, none, .faddr 0 (.t 2)⟩,
  ⟨some 6, none, .load 1 false (.t 5)⟩,
  ⟨some 7, none, .faddr 0 (.t 3)⟩,
  ⟨some 8, none, .load 1 false (.t 7)⟩,
  ⟨some 9, none, .call (.c (.fn 151 [] [])) [.t 6, .t 8]⟩,
  ⟨some 4, none, .mov (.t 9)⟩]
abbrev c150 : IR := .seq (.reg c150_r1) (.seq (.reg c150_r2) (.ret))
abbrev F150 : FnA := ⟨10, c150, [.t 4]⟩
theorem ok150 : cFn Try.prog 150 = some F150 := by kernel_rfl
theorem hb150 : HasBody Try.prog 150 := ⟨_, Try.func150, by kernel_rfl, by kernel_rfl⟩
/-! cmp.Compare:int -/
abbrev c151_r1 : List Ins := [
  ⟨some 4, none, .mov (.c (.int .i64 0))⟩]
abbrev c151_r2 : List Ins := [
  ⟨some 7, none, .mov (.t 0)⟩,
  ⟨some 8, none, .call (.c (.fn 157 [] [])) [.t 7]⟩,
  ⟨some 5, none, .mov (.t 8)⟩]
abbrev c151_r3 : List Ins := [
  ⟨some 9, none, .mov (.t 1)⟩,
  ⟨some 10, none, .call (.c (.fn 157 [] [])) [.t 9]⟩,
  ⟨some 6, none, .mov (.t 10)⟩]
abbrev c151_r4 : List Ins := [
  ⟨some 11, none, .mov (.t 5)⟩]
abbrev c151_r5 : List Ins := [
  ⟨some 12, none, .mov (.t 6)⟩]
abbrev c151_r6 : List Ins := [
  ⟨some 4, none, .mov (.c (.int .i64 0))⟩]
abbrev c151_r7 : List Ins := [
  ⟨some 4, none, .mov (.c (.int .i64 (-1)))⟩]
abbrev c151_r8 : List Ins := [
  ⟨some 13, none, .mov (.t 6)⟩]
abbrev c151_r9 : List Ins := [
  ⟨some 4, none, .mov (.c (.int .i64 1))⟩]
abbrev c151_r10 : List Ins := [
  ⟨some 14, none, .mov (.t 0)⟩,
  ⟨some 15, none, .mov (.t 1)⟩,
  ⟨some 16, none, .bin .lss (.t 14) (.t 15)⟩]
abbrev c151_r11 : List Ins := [
  ⟨some 4, none, .mov (.c (.int .i64 (-1)))⟩]
abbrev c151_r12 : List Ins := [
  ⟨some 17, none, .mov (.t 0)⟩,
  ⟨some 18, none, .mov (.t 1)⟩,
  ⟨some 19, none, .bin .gtr (.t 17) (.t 18)⟩]
abbrev c151_r13 : List Ins := [
  ⟨some 4, none, .mov (.c (.int .i64 1))⟩]
abbrev c151_r14 : List Ins := [
  ⟨some 4, none, .mov (.c (.int .i64 0))⟩]
abbrev c151 : IR := .seq (.reg c151_r1) (.seq (.reg c151_r2) (.seq (.reg c151_r3) (.seq (.seq (.reg c151_r4) (.cond (.t 11) (.seq (.seq (.reg c151_r5) (.cond (.t 12) (.seq (.reg c151_r6) (.ret)) (.skip))) (.seq (.reg c151_r7) (.ret))) (.skip))) (.seq (.seq (.reg c151_r8) (.cond (.t 13) (.seq (.reg c151_r9) (.ret)) (.skip))) (.seq (.seq (.reg c151_r10) (.cond (.t 16) (.seq (.reg c151_r11) (.ret)) (.skip))) (.seq (.seq (.reg c151_r12) (.cond (.t 19) (.seq (.reg c151_r13) (.ret)) (.skip))) (.seq (.reg c151_r14) (.ret))))))))
abbrev F151 : FnA := ⟨20, c151, [.t 4]⟩
theorem ok151 : cFn Try.prog 151 = some F151 := by kernel_rfl
theorem hb151 : HasBody Try.prog 151 := ⟨_, Try.func151, by kernel_rfl, by kernel_rfl⟩
/-! slices.IndexFunc:KeyT -/
abbrev c152_r1 : List Ins := [
  ⟨some 4, none, .mov (.c (.int .i64 0))⟩]
abbrev c152_r2 : List Ins := [
  ⟨some 6, none, .mov (.t 0)⟩,
  ⟨some 7, none, .len (.t 6)⟩,
  ⟨some 8, none, .mov (.c (.int .i64 0))⟩]
abbrev c152_r3 : List Ins := [
  ⟨some 9, none, .bin .lss (.t 8) (.t 7)⟩]
abbrev c152_r4 : List Ins := [
  ⟨some 10, none, .mov (.t 8)⟩,
  ⟨some 5, none, .mov (.t 10)⟩]
abbrev c152_r5 : List Ins := [
  ⟨some 11, none, .mov (.t 1)⟩,
  ⟨some 12, none, .mov (.t 0)⟩,
  ⟨some 13, none, .mov (.t 5)⟩,
  ⟨some 14, none, .iaddr 2 (.t 12) (.t 13)⟩,
  ⟨some 15, none, .load 2 true (.t 14)⟩,
  ⟨some 16, none, .call (.t 11) [.t 15]⟩]
abbrev c152_r6 : List Ins := [
  ⟨some 17, none, .mov (.t 5)⟩,
  ⟨some 4, none, .mov (.t 17)⟩]
abbrev c152_r7 : List Ins := [
  ⟨some 18, none, .bin .add (.t 8) (.c (.int .i64 1))⟩,
  ⟨some 8, none, .mov (.t 18)⟩]
abbrev c152_l8 : IR := .seq (.reg c152_r3) (.seq (.cond (.t 9) (.skip) (.exit 0)) (.seq (.blk 1 (.seq (.reg c152_r4) (.seq (.reg c152_r5) (.cond (.t 16) (.seq (.reg c152_r6) (.ret)) (.skip))))) (.reg c152_r7)))
abbrev c152_r9 : List Ins := [
  ⟨some 4, none, .mov (.c (.int .i64 (-1)))⟩]
abbrev c152 : IR := .seq (.reg c152_r1) (.seq (.seq (.reg c152_r2) (.blk 0 (.loop c152_l8))) (.seq (.reg c152_r9) (.ret)))
abbrev F152 : FnA := ⟨19, c152, [.t 4]⟩
theorem ok152 : cFn Try.prog 152 = some F152 := by kernel_rfl
theorem hb152 : HasBody Try.prog 152 := ⟨_, Try.func152, by kernel_rfl, by kernel_rfl⟩
/-! slices.IndexFunc:Span -/
abbrev c153_r1 : List Ins := [
  ⟨some 4, none, .mov (.c (.int .i64 0))⟩]
abbrev c153_r2 : List Ins := [
  ⟨some 6, none, .mov (.t 0)⟩,
  ⟨some 7, none, .len (.t 6)⟩,
  ⟨some 8, none, .mov (.c (.int .i64 0))⟩]
abbrev c153_r3 : List Ins := [
  ⟨some 9, none, .bin .lss (.t 8) (.t 7)⟩]
abbrev c153_r4 : List Ins := [
  ⟨some 10, none, .mov (.t 8)⟩,
  ⟨some 5, none, .mov (.t 10)⟩]
abbrev c153_r5 : List Ins := [
  ⟨some 11, none, .mov (.t 1)⟩,
  ⟨some 12, none, .mov (.t 0)⟩,
  ⟨some 13, none, .mov (.t 5)⟩,
  ⟨some 14, none, .iaddr 2 (.t 12) (.t 13)⟩,
  ⟨some 15, none, .load 2 true (.t 14)⟩,
  ⟨some 16, none, .call (.t 11) [.t 15]⟩]
abbrev c153_r6 : List Ins := [
  ⟨some 17, none, .mov (.t 5)⟩,
  ⟨some 4, none, .mov (.t 17)⟩]
abbrev c153_r7 : List Ins := [
  ⟨some 18, none, .bin .add (.t 8) (.c (.int .i64 1))⟩,
  ⟨some 8, none, .mov (.t 18)⟩]
abbrev c153_l8 : IR := .seq (.reg c153_r3) (.seq (.cond (.t 9) (.skip) (.exit 0)) (.seq (.blk 1 (.seq (.reg c153_r4) (.seq (.reg c153_r5) (.cond (.t 16) (.seq (.reg c153_r6) (.ret)) (.skip))))) (.reg c153_r7)))
abbrev c153_r9 : List Ins := [
  ⟨some 4, none, .mov (.c (.int .i64 (-1)))⟩]
abbrev c153 : IR := .seq (.reg c153_r1) (.seq (.seq (.reg c153_r2) (.blk 0 (.loop c153_l8))) (.seq (.reg c153_r9) (.ret)))
abbrev F153 : FnA := ⟨19, c153, [.t 4]⟩
theorem ok153 : cFn Try.prog 153 = some F153 := by kernel_rfl
theorem hb153 : HasBody Try.prog 153 := ⟨_, Try.func153, by kernel_rfl, by kernel_rfl⟩
/-! slices.Grow:Span -/
-- f154: not compiled
/-! slices.pdqsortCmpFunc:Span -/
abbrev c155_r1 : List Ins := [
  ⟨some 10, none, .mov (.c (.bool true))⟩]
abbrev c155_r2 : List Ins := [
  ⟨some 11, none, .mov (.c (.bool true))⟩]
abbrev c155_r3 : List Ins := [
  ⟨some 21, none, .mov (.t 2)⟩,
  ⟨some 22, none, .mov (.t 1)⟩,
  ⟨some 23, none, .bin .sub (.t 21) (.t 22)⟩,
  ⟨some 12, none, .mov (.t 23)⟩]
abbrev c155_r4 : List Ins := [
  ⟨some 24, none, .mov (.t 12)⟩,
  ⟨some 25, none, .bin .leq (.t 24) (.c (.int .i64 12))⟩]
abbrev c155_r5 : List Ins := [
  ⟨some 26, none, .mov (.t 0)⟩,
  ⟨some 27, none, .mov (.t 1)⟩,
  ⟨some 28, none, .mov (.t 2)⟩,
  ⟨some 29, none, .mov (.t 4)⟩,
  ⟨some 30, none, .call (.c (.fn 158 [] [])) [.t 26, .t 27, .t 28, .t 29]⟩]
abbrev c155_r6 : List Ins := [
  ⟨some 31, none, .mov (.t 3)⟩,
  ⟨some 32, none, .bin .eql (.t 31) (.c (.int .i64 0))⟩]
abbrev c155_r7 : List Ins := [
  ⟨some 33, none, .mov (.t 0)⟩,
  ⟨some 34, none, .mov (.t 1)⟩,
  ⟨some 35, none, .mov (.t 2)⟩,
  ⟨some 36, none, .mov (.t 4)⟩,
  ⟨some 37, none, .call (.c (.fn 159 [] [])) [.t 33, .t 34, .t 35, .t 36]⟩]
abbrev c155_r8 : List Ins := [
  ⟨some 38, none, .mov (.t 10)⟩,
  ⟨some 39, none, .un .not (.t 38)⟩]
abbrev c155_r9 : List Ins := [
  ⟨some 40, none, .mov (.t 0)⟩,
  ⟨some 41, none, .mov (.t 1)⟩,
  ⟨some 42, none, .mov (.t 2)⟩,
  ⟨some 43, none, .mov (.t 4)⟩,
  ⟨some 44, none, .call (.c (.fn 160 [] [])) [.t 40, .t 41, .t 42, .t 43]⟩]
abbrev c155_r10 : List Ins := [
  ⟨some 45, none, .mov (.t 3)⟩,
  ⟨some 46, none, .bin .sub (.t 45) (.c (.int .i64 1))⟩,
  ⟨some 3, none, .mov (.t 46)⟩]
abbrev c155_r11 : List Ins := [
  ⟨some 48, none, .mov (.t 0)⟩,
  ⟨some 49, none, .mov (.t 1)⟩,
  ⟨some 50, none, .mov (.t 2)⟩,
  ⟨some 51, none, .mov (.t 4)⟩,
  ⟨some 52, none, .call (.c (.fn 161 [] [])) [.t 48, .t 49, .t 50, .t 51]⟩,
  ⟨some 47, none, .mov (.t 52)⟩,
  ⟨some 53, none, .ext (.t 47) 0⟩,
  ⟨some 54, none, .ext (.t 47) 1⟩,
  ⟨some 13, none, .mov (.t 53)⟩,
  ⟨some 14, none, .mov (.t 54)⟩]
abbrev c155_r12 : List Ins := [
  ⟨some 55, none, .mov (.t 14)⟩,
  ⟨some 56, none, .bin .eql (.t 55) (.c (.int .i64 2))⟩]
abbrev c155_r13 : List Ins := [
  ⟨some 57, none, .mov (.t 0)⟩,
  ⟨some 58, none, .mov (.t 1)⟩,
  ⟨some 59, none, .mov (.t 2)⟩,
  ⟨some 60, none, .mov (.t 4)⟩,
  ⟨some 61, none, .call (.c (.fn 162 [] [])) [.t 57, .t 58, .t 59, .t 60]⟩]
abbrev c155_r14 : List Ins := [
  ⟨some 62, none, .mov (.t 2)⟩,
  ⟨some 63, none, .bin .sub (.t 62) (.c (.int .i64 1))⟩,
  ⟨some 64, none, .mov (.t 13)⟩,
  ⟨some 65, none, .mov (.t 1)⟩,
  ⟨some 66, none, .bin .sub (.t 64) (.t 65)⟩,
  ⟨some 67, none, .bin .sub (.t 63) (.t 66)⟩,
  ⟨some 13, none, .mov (.t 67)⟩]
abbrev c155_r15 : List Ins := [
  ⟨some 14, none, .mov (.c (.int .i64 1))⟩]
abbrev c155_r16 : List Ins := [
  ⟨some 68, none, .mov (.t 10)⟩,
  ⟨some 69, none, .mov (.t 68)⟩,
  ⟨some 70, some (69, true), .mov (.t 11)⟩,
  ⟨some 71, none, .pick (.t 69) (.t 70) (.c (.bool false))⟩,
  ⟨some 72, none, .mov (.t 71)⟩,
  ⟨some 73, some (72, true), .mov (.t 14)⟩,
  ⟨some 74, some (72, true), .bin .eql (.t 73) (.c (.int .i64 1))⟩,
  ⟨some 75, none, .pick (.t 72) (.t 74) (.c (.bool false))⟩]
abbrev c155_r17 : List Ins := [
  ⟨some 76, none, .mov (.t 0)⟩,
  ⟨some 77, none, .mov (.t 1)⟩,
  ⟨some 78, none, .mov (.t 2)⟩,
  ⟨some 79, none, .mov (.t 4)⟩,
  ⟨some 80, none, .call (.c (.fn 163 [] [])) [.t 76, .t 77, .t 78, .t 79]⟩]
abbrev c155_r18 : List Ins := [
  ⟨some 81, none, .mov (.t 1)⟩,
  ⟨some 82, none, .bin .gtr (.t 81) (.c (.int .i64 0))⟩,
  ⟨some 83, none, .mov (.t 82)⟩,
  ⟨some 84, some (83, true), .mov (.t 4)⟩,
  ⟨some 85, some (83, true), .mov (.t 0)⟩,
  ⟨some 86, some (83, true), .mov (.t 1)⟩,
  ⟨some 87, some (83, true), .bin .sub (.t 86) (.c (.int .i64 1))⟩,
  ⟨some 88, some (83, true), .iaddr 2 (.t 85) (.t 87)⟩,
  ⟨some 89, some (83, true), .load 2 true (.t 88)⟩,
  ⟨some 90, some (83, true), .mov (.t 0)⟩,
  ⟨some 91, some (83, true), .mov (.t 13)⟩,
  ⟨some 92, some (83, true), .iaddr 2 (.t 90) (.t 91)⟩,
  ⟨some 93, some (83, true), .load 2 true (.t 92)⟩,
  ⟨some 94, some (83, true), .call (.t 84) [.t 89, .t 93]⟩,
  ⟨some 95, some (83, true), .bin .lss (.t 94) (.c (.int .i64 0))⟩,
  ⟨some 96, some (83, true), .un .not (.t 95)⟩,
  ⟨some 97, none, .pick (.t 83) (.t 96) (.c (.bool false))⟩]
def c155_a18 : List (List Nat) := [[], [0], [1], [2], [2], [2], [5, 2], [4, 6, 2], [7, 2], [2], [2], [9, 10, 2], [11, 2], [3, 8, 12, 2, 2], [13, 2], [14, 2], [2, 15]]
abbrev c155_m18 : List Am.Mark := [⟨false, 0, 1⟩, ⟨false, 0, 1⟩, ⟨false, 0, 0⟩, ⟨false, 0, 0⟩, ⟨false, 0, 1⟩, ⟨false, 0, 1⟩, ⟨false, 0, 1⟩, ⟨false, 0, 1⟩, ⟨false, 0, 0⟩, ⟨false, 0, 1⟩, ⟨false, 0, 1⟩, ⟨false, 0, 1⟩, ⟨false, 0, 0⟩, ⟨true, 0, 1⟩, ⟨false, 1, 1⟩, ⟨false, 1, 1⟩, ⟨false, 1, 1⟩]
theorem c155_d18 : drawFine c155_r18 c155_a18 c155_m18 = true := by decide +kernel
abbrev c155_r19 : List Ins := [
  ⟨some 98, none, .mov (.t 0)⟩,
  ⟨some 99, none, .mov (.t 1)⟩,
  ⟨some 100, none, .mov (.t 2)⟩,
  ⟨some 101, none, .mov (.t 13)⟩,
  ⟨some 102, none, .mov (.t 4)⟩,
  ⟨some 103, none, .call (.c (.fn 164 [] [])) [.t 98, .t 99, .t 100, .t 101, .t 102]⟩,
  ⟨some 15, none, .mov (.t 103)⟩]
abbrev c155_r20 : List Ins := [
  ⟨some 104, none, .mov (.t 15)⟩,
  ⟨some 1, none, .mov (.t 104)⟩]
abbrev c155_r21 : List Ins := [
  ⟨some 106, none, .mov (.t 0)⟩,
  ⟨some 107, none, .mov (.t 1)⟩,
  ⟨some 108, none, .mov (.t 2)⟩,
  ⟨some 109, none, .mov (.t 13)⟩,
  ⟨some 110, none, .mov (.t 4)⟩,
  ⟨some 111, none, .call (.c (.fn 165 [] [])) [.t 106, .t 107, .t 108, .t 109, .t 110]⟩,
  ⟨some 105, none, .mov (.t 111)⟩,
  ⟨some 112, none, .ext (.t 105) 0⟩,
  ⟨some 113, none, .ext (.t 105) 1⟩,
  ⟨some 16, none, .mov (.t 112)⟩,
  ⟨some 17, none, .mov (.t 113)⟩]
abbrev c155_r22 : List Ins := [
  ⟨some 114, none, .mov (.t 17)⟩,
  ⟨some 11, none, .mov (.t 114)⟩]
abbrev c155_r23 : List Ins := [
  ⟨some 115, none, .mov (.t 16)⟩,
  ⟨some 116, none, .mov (.t 1)⟩,
  ⟨some 117, none, .bin .sub (.t 115) (.t 116)⟩,
  ⟨some 118, none, .mov (.t 2)⟩,
  ⟨some 119, none, .mov (.t 16)⟩,
  ⟨some 120, none, .bin .sub (.t 118) (.t 119)⟩,
  ⟨some 18, none, .mov (.t 117)⟩,
  ⟨some 19, none, .mov (.t 120)⟩]
abbrev c155_r24 : List Ins := [
  ⟨some 121, none, .mov (.t 12)⟩,
  ⟨some 122, none, .bin .quo (.t 121) (.c (.int .i64 8))⟩,
  ⟨some 20, none, .mov (.t 122)⟩]
abbrev c155_r25 : List Ins := [
  ⟨some 123, none, .mov (.t 18)⟩,
  ⟨some 124, none, .mov (.t 19)⟩,
  ⟨some 125, none, .bin .lss (.t 123) (.t 124)⟩]
abbrev c155_r26 : List Ins := [
  ⟨some 126, none, .mov (.t 18)⟩,
  ⟨some 127, none, .mov (.t 20)⟩,
  ⟨some 128, none, .bin .geq (.t 126) (.t 127)⟩,
  ⟨some 10, none, .mov (.t 128)⟩]
abbrev c155_r27 : List Ins := [
  ⟨some 129, none, .mov (.t 0)⟩,
  ⟨some 130, none, .mov (.t 1)⟩,
  ⟨some 131, none, .mov (.t 16)⟩,
  ⟨some 132, none, .mov (.t 3)⟩,
  ⟨some 133, none, .mov (.t 4)⟩,
  ⟨some 134, none, .call (.c (.fn 155 [] [])) [.t 129, .t 130, .t 131, .t 132, .t 133]⟩]
abbrev c155_r28 : List Ins := [
  ⟨some 135, none, .mov (.t 16)⟩,
  ⟨some 136, none, .bin .add (.t 135) (.c (.int .i64 1))⟩,
  ⟨some 1, none, .mov (.t 136)⟩]
abbrev c155_r29 : List Ins := [
  ⟨some 137, none, .mov (.t 19)⟩,
  ⟨some 138, none, .mov (.t 20)⟩,
  ⟨some 139, none, .bin .geq (.t 137) (.t 138)⟩,
  ⟨some 10, none, .mov (.t 139)⟩]
abbrev c155_r30 : List Ins := [
  ⟨some 140, none, .mov (.t 0)⟩,
  ⟨some 141, none, .mov (.t 16)⟩,
  ⟨some 142, none, .bin .add (.t 141) (.c (.int .i64 1))⟩,
  ⟨some 143, none, .mov (.t 2)⟩,
  ⟨some 144, none, .mov (.t 3)⟩,
  ⟨some 145, none, .mov (.t 4)⟩,
  ⟨some 146, none, .call (.c (.fn 155 [] [])) [.t 140, .t 142, .t 143, .t 144, .t 145]⟩]
abbrev c155_r31 : List Ins := [
  ⟨some 147, none, .mov (.t 16)⟩,
  ⟨some 2, none, .mov (.t 147)⟩]
abbrev c155_l32 : IR := .blk 1 (.seq (.reg c155_r3) (.seq (.seq (.reg c155_r4) (.cond (.t 25) (.seq (.reg c155_r5) (.ret)) (.skip))) (.seq (.seq (.reg c155_r6) (.cond (.t 32) (.seq (.reg c155_r7) (.ret)) (.skip))) (.seq (.seq (.reg c155_r8) (.cond (.t 39) (.seq (.reg c155_r9) (.reg c155_r10)) (.skip))) (.seq (.reg c155_r11) (.seq (.seq (.reg c155_r12) (.cond (.t 56) (.seq (.reg c155_r13) (.seq (.reg c155_r14) (.reg c155_r15))) (.skip))) (.seq (.seq (.reg c155_r16) (.cond (.t 75) (.seq (.reg c155_r17) (.cond (.t 80) (.ret) (.skip))) (.skip))) (.seq (.seq (.dreg c155_r18 c155_a18) (.cond (.t 97) (.seq (.reg c155_r19) (.seq (.reg c155_r20) (.exit 1))) (.skip))) (.seq (.reg c155_r21) (.seq (.reg c155_r22) (.seq (.reg c155_r23) (.seq (.reg c155_r24) (.seq (.reg c155_r25) (.cond (.t 125) (.seq (.reg c155_r26) (.seq (.reg c155_r27) (.reg c155_r28))) (.seq (.reg c155_r29) (.seq (.reg c155_r30) (.reg c155_r31)))))))))))))))))
abbrev c155 : IR := .seq (.reg c155_r1) (.seq (.reg c155_r2) (.blk 0 (.loop c155_l32)))
abbrev F155 : FnA := ⟨148, c155, []⟩
theorem ok155 : cFn Try.prog 155 = some F155 := by kernel_rfl
theorem hb155 : HasBody Try.prog 155 := ⟨_, Try.func155, by kernel_rfl, by kernel_rfl⟩
/-! math/bits.Len -/
abbrev c156_r1 : List Ins := [
  ⟨some 2, none, .mov (.c (.int .i64 0))⟩]
abbrev c156_r2 : List Ins := [
  ⟨some 3, none, .mov (.t 0)⟩,
  ⟨some 4, none, .conv .u32 (.t 3)⟩,
  ⟨some 5, none, .call (.c (.fn 166 [] [])) [.t 4]⟩,
  ⟨some 2, none, .mov (.t 5)⟩]
abbrev c156_r3 : List Ins := [
  ⟨some 6, none, .mov (.t 0)⟩,
  ⟨some 7, none, .call (.c (.fn 167 [] [])) [.t 6]⟩,
  ⟨some 2, none, .mov (.t 7)⟩]
abbrev c156 : IR := .seq (.reg c156_r1) (.seq (.cond (.c (.bool false)) (.seq (.reg c156_r2) (.ret)) (.skip)) (.seq (.reg c156_r3) (.ret)))
abbrev F156 : FnA := ⟨8, c156, [.t 2]⟩
theorem ok156 : cFn Try.prog 156 = some F156 := by kernel_rfl
theorem hb156 : HasBody Try.prog 156 := ⟨_, Try.func156, by kernel_rfl, by kernel_rfl⟩
/-! cmp.isNaN:int -/
abbrev c157_r1 : List Ins := [
  ⟨some 2, none, .mov (.c (.bool false))⟩]
abbrev c157_r2 : List Ins := [
  ⟨some 3, none, .mov (.t 0)⟩,
  ⟨some 4, none, .mov (.t 0)⟩,
  ⟨some 5, none, .bin .neq (.t 3) (.t 4)⟩,
  ⟨some 2, none, .mov (.t 5)⟩]
abbrev c157 : IR := .seq (.reg c157_r1) (.seq (.reg c157_r2) (.ret))
abbrev F157 : FnA := ⟨6, c157, [.t 2]⟩
theorem ok157 : cFn Try.prog 157 = some F157 := by kernel_rfl
theorem hb157 : HasBody Try.prog 157 := ⟨_, Try.func157, by kernel_rfl, by kernel_rfl⟩
/-! slices.insertionSortCmpFunc:Span -/
abbrev c158_r1 : List Ins := [
  ⟨some 10, none, .mov (.t 1)⟩,
  ⟨some 11, none, .bin .add (.t 10) (.c (.int .i64 1))⟩,
  ⟨some 8, none, .mov (.t 11)⟩]
abbrev c158_r2 : List Ins := [
  ⟨some 12, none, .mov (.t 8)⟩,
  ⟨some 13, none, .mov (.t 2)⟩,
  ⟨some 14, none, .bin .lss (.t 12) (.t 13)⟩]
abbrev c158_r3 : List Ins := [
  ⟨some 17, none, .mov (.t 8)⟩,
  ⟨some 9, none, .mov (.t 17)⟩]
abbrev c158_r4 : List Ins := [
  ⟨some 18, none, .mov (.t 9)⟩,
  ⟨some 19, none, .mov (.t 1)⟩,
  ⟨some 20, none, .bin .gtr (.t 18) (.t 19)⟩,
  ⟨some 21, none, .mov (.t 20)⟩,
  ⟨some 22, some (21, true), .mov (.t 3)⟩,
  ⟨some 23, some (21, true), .mov (.t 0)⟩,
  ⟨some 24, some (21, true), .mov (.t 9)⟩,
  ⟨some 25, some (21, true), .iaddr 2 (.t 23) (.t 24)⟩,
  ⟨some 26, some (21, true), .load 2 true (.t 25)⟩,
  ⟨some 27, some (21, true), .mov (.t 0)⟩,
  ⟨some 28, some (21, true), .mov (.t 9)⟩,
  ⟨some 29, some (21, true), .bin .sub (.t 28) (.c (.int .i64 1))⟩,
  ⟨some 30, some (21, true), .iaddr 2 (.t 27) (.t 29)⟩,
  ⟨some 31, some (21, true), .load 2 true (.t 30)⟩,
  ⟨some 32, some (21, true), .call (.t 22) [.t 26, .t 31]⟩,
  ⟨some 33, some (21, true), .bin .lss (.t 32) (.c (.int .i64 0))⟩,
  ⟨some 34, none, .pick (.t 21) (.t 33) (.c (.bool false))⟩]
def c158_a4 : List (List Nat) := [[], [], [0, 1], [2], [3], [3], [3], [5, 6, 3], [7, 3], [3], [3], [10, 3], [9, 11, 3], [12, 3], [4, 8, 13, 3, 3], [14, 3], [3, 15]]
abbrev c158_m4 : List Am.Mark := [⟨false, 0, 1⟩, ⟨false, 0, 1⟩, ⟨false, 0, 1⟩, ⟨false, 0, 0⟩, ⟨false, 0, 0⟩, ⟨false, 0, 1⟩, ⟨false, 0, 1⟩, ⟨false, 0, 1⟩, ⟨false, 0, 0⟩, ⟨false, 0, 1⟩, ⟨false, 0, 1⟩, ⟨false, 0, 1⟩, ⟨false, 0, 1⟩, ⟨false, 0, 0⟩, ⟨true, 0, 1⟩, ⟨false, 1, 1⟩, ⟨false, 1, 1⟩]
theorem c158_d4 : drawFine c158_r4 c158_a4 c158_m4 = true := by decide +kernel
abbrev c158_r5 : List Ins := [
  ⟨some 37, none, .mov (.t 0)⟩,
  ⟨some 38, none, .mov (.t 9)⟩,
  ⟨some 39, none, .mov (.t 0)⟩,
  ⟨some 40, none, .mov (.t 9)⟩,
  ⟨some 41, none, .bin .sub (.t 40) (.c (.int .i64 1))⟩,
  ⟨some 42, none, .mov (.t 0)⟩,
  ⟨some 43, none, .mov (.t 9)⟩,
  ⟨some 44, none, .bin .sub (.t 43) (.c (.int .i64 1))⟩,
  ⟨some 45, none, .iaddr 2 (.t 42) (.t 44)⟩,
  ⟨some 46, none, .load 2 true (.t 45)⟩,
  ⟨some 47, none, .mov (.t 0)⟩,
  ⟨some 48, none, .mov (.t 9)⟩,
  ⟨some 49, none, .iaddr 2 (.t 47) (.t 48)⟩,
  ⟨some 50, none, .load 2 true (.t 49)⟩,
  ⟨some 51, none, .iaddr 2 (.t 37) (.t 38)⟩,
  ⟨none, none, .store 2 (.t 51) (.t 46)⟩,
  ⟨some 52, none, .iaddr 2 (.t 39) (.t 41)⟩,
  ⟨none, none, .store 2 (.t 52) (.t 50)⟩]
def c158_a5 : List (List Nat) := [[], [], [], [], [3], [], [], [6], [5, 7], [8], [], [], [10, 11], [12], [0, 1, 0, 1, 5, 6, 7, 8, 9, 13], [14, 9, 0, 1, 5, 6, 7, 8, 9, 13], [2, 4, 0, 1, 2, 3, 4, 5, 6, 7, 8, 9, 10, 11, 12, 13, 14, 15], [16, 13, 15, 0, 1, 2, 3, 4, 5, 6, 7, 8, 9, 10, 11, 12, 13, 14, 15]]
abbrev c158_m5 : List Am.Mark := [⟨false, 0, 0⟩, ⟨false, 0, 0⟩, ⟨false, 0, 1⟩, ⟨false, 0, 1⟩, ⟨false, 0, 1⟩, ⟨false, 0, 0⟩, ⟨false, 0, 0⟩, ⟨false, 0, 0⟩, ⟨false, 0, 0⟩, ⟨false, 0, 0⟩, ⟨false, 0, 1⟩, ⟨false, 0, 1⟩, ⟨false, 0, 1⟩, ⟨false, 0, 0⟩, ⟨false, 0, 0⟩, ⟨true, 0, 1⟩, ⟨false, 1, 1⟩, ⟨true, 1, 2⟩]
theorem c158_d5 : drawFine c158_r5 c158_a5 c158_m5 = true := by decide +kernel
abbrev c158_r6 : List Ins := [
  ⟨some 35, none, .mov (.t 9)⟩,
  ⟨some 36, none, .bin .sub (.t 35) (.c (.int .i64 1))⟩,
  ⟨some 9, none, .mov (.t 36)⟩]
abbrev c158_l7 : IR := .seq (.seq (.dreg c158_r4 c158_a4) (.cond (.t 34) (.skip) (.exit 2))) (.seq (.blk 3 (.dreg c158_r5 c158_a5)) (.reg c158_r6))
abbrev c158_r8 : List Ins := [
  ⟨some 15, none, .mov (.t 8)⟩,
  ⟨some 16, none, .bin .add (.t 15) (.c (.int .i64 1))⟩,
  ⟨some 8, none, .mov (.t 16)⟩]
abbrev c158_l9 : IR := .seq (.seq (.reg c158_r2) (.cond (.t 14) (.skip) (.exit 0))) (.seq (.blk 1 (.seq (.reg c158_r3) (.blk 2 (.loop c158_l7)))) (.reg c158_r8))
abbrev c158 : IR := .seq (.reg c158_r1) (.blk 0 (.loop c158_l9))
abbrev F158 : FnA := ⟨53, c158, []⟩
theorem ok158 : cFn Try.prog 158 = some F158 := by kernel_rfl
theorem hb158 : HasBody Try.prog 158 := ⟨_, Try.func158, by kernel_rfl, by kernel_rfl⟩
/-! slices.heapSortCmpFunc:Span -/
abbrev c159_r1 : List Ins := [
  ⟨some 13, none, .mov (.t 1)⟩,
  ⟨some 8, none, .mov (.t 13)⟩]
abbrev c159_r2 : List Ins := [
  ⟨some 9, none, .mov (.c (.int .i64 0))⟩]
abbrev c159_r3 : List Ins := [
  ⟨some 14, none, .mov (.t 2)⟩,
  ⟨some 15, none, .mov (.t 1)⟩,
  ⟨some 16, none, .bin .sub (.t 14) (.t 15)⟩,
  ⟨some 10, none, .mov (.t 16)⟩]
abbrev c159_r4 : List Ins := [
  ⟨some 17, none, .mov (.t 10)⟩,
  ⟨some 18, none, .bin .sub (.t 17) (.c (.int .i64 1))⟩,
  ⟨some 19, none, .bin .quo (.t 18) (.c (.int .i64 2))⟩,
  ⟨some 11, none, .mov (.t 19)⟩]
abbrev c159_r5 : List Ins := [
  ⟨some 20, none, .mov (.t 11)⟩,
  ⟨some 21, none, .bin .geq (.t 20) (.c (.int .i64 0))⟩]
abbrev c159_r6 : List Ins := [
  ⟨some 24, none, .mov (.t 0)⟩,
  ⟨some 25, none, .mov (.t 11)⟩,
  ⟨some 26, none, .mov (.t 10)⟩,
  ⟨some 27, none, .mov (.t 8)⟩,
  ⟨some 28, none, .mov (.t 3)⟩,
  ⟨some 29, none, .call (.c (.fn 168 [] [])) [.t 24, .t 25, .t 26, .t 27, .t 28]⟩]
abbrev c159_r7 : List Ins := [
  ⟨some 22, none, .mov (.t 11)⟩,
  ⟨some 23, none, .bin .sub (.t 22) (.c (.int .i64 1))⟩,
  ⟨some 11, none, .mov (.t 23)⟩]
abbrev c159_l8 : IR := .seq (.seq (.reg c159_r5) (.cond (.t 21) (.skip) (.exit 0))) (.seq (.blk 1 (.reg c159_r6)) (.reg c159_r7))
abbrev c159_r9 : List Ins := [
  ⟨some 30, none, .mov (.t 10)⟩,
  ⟨some 31, none, .bin .sub (.t 30) (.c (.int .i64 1))⟩,
  ⟨some 12, none, .mov (.t 31)⟩]
abbrev c159_r10 : List Ins := [
  ⟨some 32, none, .mov (.t 12)⟩,
  ⟨some 33, none, .bin .geq (.t 32) (.c (.int .i64 0))⟩]
abbrev c159_r11 : List Ins := [
  ⟨some 36, none, .mov (.t 0)⟩,
  ⟨some 37, none, .mov (.t 8)⟩,
  ⟨some 38, none, .mov (.t 0)⟩,
  ⟨some 39, none, .mov (.t 8)⟩,
  ⟨some 40, none, .mov (.t 12)⟩,
  ⟨some 41, none, .bin .add (.t 39) (.t 40)⟩,
  ⟨some 42, none, .mov (.t 0)⟩,
  ⟨some 43, none, .mov (.t 8)⟩,
  ⟨some 44, none, .mov (.t 12)⟩,
  ⟨some 45, none, .bin .add (.t 43) (.t 44)⟩,
  ⟨some 46, none, .iaddr 2 (.t 42) (.t 45)⟩,
  ⟨some 47, none, .load 2 true (.t 46)⟩,
  ⟨some 48, none, .mov (.t 0)⟩,
  ⟨some 49, none, .mov (.t 8)⟩,
  ⟨some 50, none, .iaddr 2 (.t 48) (.t 49)⟩,
  ⟨some 51, none, .load 2 true (.t 50)⟩,
  ⟨some 52, none, .iaddr 2 (.t 36) (.t 37)⟩,
  ⟨none, none, .store 2 (.t 52) (.t 47)⟩,
  ⟨some 53, none, .iaddr 2 (.t 38) (.t 41)⟩,
  ⟨none, none, .store 2 (.t 53) (.t 51)⟩]
def c159_a11 : List (List Nat) := [[], [], [], [], [], [3, 4], [], [], [], [7, 8], [6, 9], [10], [], [], [12, 13], [14], [0, 1, 0, 1, 6, 7, 8, 9, 10, 11, 15], [16, 11, 0, 1, 6, 7, 8, 9, 10, 11, 15], [2, 5, 0, 1, 2, 3, 4, 5, 6, 7, 8, 9, 10, 11, 12, 13, 14, 15, 16, 17], [18, 15, 17, 0, 1, 2, 3, 4, 5, 6, 7, 8, 9, 10, 11, 12, 13, 14, 15, 16, 17]]
abbrev c159_m11 : List Am.Mark := [⟨false, 0, 0⟩, ⟨false, 0, 0⟩, ⟨false, 0, 1⟩, ⟨false, 0, 1⟩, ⟨false, 0, 1⟩, ⟨false, 0, 1⟩, ⟨false, 0, 0⟩, ⟨false, 0, 0⟩, ⟨false, 0, 0⟩, ⟨false, 0, 0⟩, ⟨false, 0, 0⟩, ⟨false, 0, 0⟩, ⟨false, 0, 1⟩, ⟨false, 0, 1⟩, ⟨false, 0, 1⟩, ⟨false, 0, 0⟩, ⟨false, 0, 0⟩, ⟨true, 0, 1⟩, ⟨false, 1, 1⟩, ⟨true, 1, 2⟩]
theorem c159_d11 : drawFine c159_r11 c159_a11 c159_m11 = true := by decide +kernel
abbrev c159_r12 : List Ins := [
  ⟨some 54, none, .mov (.t 0)⟩,
  ⟨some 55, none, .mov (.t 9)⟩,
  ⟨some 56, none, .mov (.t 12)⟩,
  ⟨some 57, none, .mov (.t 8)⟩,
  ⟨some 58, none, .mov (.t 3)⟩,
  ⟨some 59, none, .call (.c (.fn 168 [] [])) [.t 54, .t 55, .t 56, .t 57, .t 58]⟩]
abbrev c159_r13 : List Ins := [
  ⟨some 34, none, .mov (.t 12)⟩,
  ⟨some 35, none, .bin .sub (.t 34) (.c (.int .i64 1))⟩,
  ⟨some 12, none, .mov (.t 35)⟩]
abbrev c159_l14 : IR := .seq (.seq (.reg c159_r10) (.cond (.t 33) (.skip) (.exit 2))) (.seq (.blk 3 (.seq (.dreg c159_r11 c159_a11) (.reg c159_r12))) (.reg c159_r13))
abbrev c159 : IR := .seq (.reg c159_r1) (.seq (.reg c159_r2) (.seq (.reg c159_r3) (.seq (.seq (.reg c159_r4) (.blk 0 (.loop c159_l8))) (.seq (.reg c159_r9) (.blk 2 (.loop c159_l14))))))
abbrev F159 : FnA := ⟨60, c159, []⟩
theorem ok159 : cFn Try.prog 159 = some F159 := by kernel_rfl
theorem hb159 : HasBody Try.prog 159 := ⟨_, Try.func159, by kernel_rfl, by kernel_rfl⟩
/-! slices.breakPatternsCmpFunc:Span -/
abbrev c160_r1 : List Ins := [
  ⟨some 13, none, .mov (.t 2)⟩,
  ⟨some 14, none, .mov (.t 1)⟩,
  ⟨some 15, none, .bin .sub (.t 13) (.t 14)⟩,
  ⟨some 8, none, .mov (.t 15)⟩]
abbrev c160_r2 : List Ins := [
  ⟨some 16, none, .mov (.t 8)⟩,
  ⟨some 17, none, .bin .geq (.t 16) (.c (.int .i64 8))⟩]
abbrev c160_r3 : List Ins := [
  ⟨some 18, none, .mov (.t 8)⟩,
  ⟨some 19, none, .conv .u64 (.t 18)⟩,
  ⟨some 9, none, .alloc [.int .u64 0]⟩,
  ⟨none, none, .store 1 (.t 9) (.t 19)⟩]
abbrev c160_r4 : List Ins := [
  ⟨some 20, none, .mov (.t 8)⟩,
  ⟨some 21, none, .call (.c (.fn 169 [] [])) [.t 20]⟩,
  ⟨some 10, none, .mov (.t 21)⟩]
abbrev c160_r5 : List Ins := [
  ⟨some 22, none, .mov (.t 1)⟩,
  ⟨some 23, none, .mov (.t 8)⟩,
  ⟨some 24, none, .bin .quo (.t 23) (.c (.int .i64 4))⟩,
  ⟨some 25, none, .bin .mul (.t 24) (.c (.int .i64 2))⟩,
  ⟨some 26, none, .bin .add (.t 22) (.t 25)⟩,
  ⟨some 27, none, .bin .sub (.t 26) (.c (.int .i64 1))⟩,
  ⟨some 11, none, .mov (.t 27)⟩]
abbrev c160_r6 : List Ins := [
  ⟨some 28, none, .mov (.t 11)⟩,
  ⟨some 29, none, .mov (.t 1)⟩,
  ⟨some 30, none, .mov (.t 8)⟩,
  ⟨some 31, none, .bin .quo (.t 30) (.c (.int .i64 4))⟩,
  ⟨some 32, none, .bin .mul (.t 31) (.c (.int .i64 2))⟩,
  ⟨some 33, none, .bin .add (.t 29) (.t 32)⟩,
  ⟨some 34, none, .bin .add (.t 33) (.c (.int .i64 1))⟩,
  ⟨some 35, none, .bin .leq (.t 28) (.t 34)⟩]
abbrev c160_r7 : List Ins := [
  ⟨some 38, none, .call (.c (.fn 170 [] [])) [.t 9]⟩,
  ⟨some 39, none, .mov (.t 10)⟩,
  ⟨some 40, none, .bin .sub (.t 39) (.c (.int .u64 1))⟩,
  ⟨some 41, none, .bin .and (.t 38) (.t 40)⟩,
  ⟨some 42, none, .conv .i64 (.t 41)⟩,
  ⟨some 12, none, .mov (.t 42)⟩]
abbrev c160_r8 : List Ins := [
  ⟨some 43, none, .mov (.t 12)⟩,
  ⟨some 44, none, .mov (.t 8)⟩,
  ⟨some 45, none, .bin .geq (.t 43) (.t 44)⟩]
abbrev c160_r9 : List Ins := [
  ⟨some 46, none, .mov (.t 12)⟩,
  ⟨some 47, none, .mov (.t 8)⟩,
  ⟨some 48, none, .bin .sub (.t 46) (.t 47)⟩,
  ⟨some 12, none, .mov (.t 48)⟩]
abbrev c160_r10 : List Ins := [
  ⟨some 49, none, .mov (.t 0)⟩,
  ⟨some 50, none, .mov (.t 11)⟩,
  ⟨some 51, none, .mov (.t 0)⟩,
  ⟨some 52, none, .mov (.t 1)⟩,
  ⟨some 53, none, .mov (.t 12)⟩,
  ⟨some 54, none, .bin .add (.t 52) (.t 53)⟩,
  ⟨some 55, none, .mov (.t 0)⟩,
  ⟨some 56, none, .mov (.t 1)⟩,
  ⟨some 57, none, .mov (.t 12)⟩,
  ⟨some 58, none, .bin .add (.t 56) (.t 57)⟩,
  ⟨some 59, none, .iaddr 2 (.t 55) (.t 58)⟩,
  ⟨some 60, none, .load 2 true (.t 59)⟩,
  ⟨some 61, none, .mov (.t 0)⟩,
  ⟨some 62, none, .mov (.t 11)⟩,
  ⟨some 63, none, .iaddr 2 (.t 61) (.t 62)⟩,
  ⟨some 64, none, .load 2 true (.t 63)⟩,
  ⟨some 65, none, .iaddr 2 (.t 49) (.t 50)⟩,
  ⟨none, none, .store 2 (.t 65) (.t 60)⟩,
  ⟨some 66, none, .iaddr 2 (.t 51) (.t 54)⟩,
  ⟨none, none, .store 2 (.t 66) (.t 64)⟩]
def c160_a10 : List (List Nat) := [[], [], [], [], [], [3, 4], [], [], [], [7, 8], [6, 9], [10], [], [], [12, 13], [14], [0, 1, 0, 1, 6, 7, 8, 9, 10, 11, 15], [16, 11, 0, 1, 6, 7, 8, 9, 10, 11, 15], [2, 5, 0, 1, 2, 3, 4, 5, 6, 7, 8, 9, 10, 11, 12, 13, 14, 15, 16, 17], [18, 15, 17, 0, 1, 2, 3, 4, 5, 6, 7, 8, 9, 10, 11, 12, 13, 14, 15, 16, 17]]
abbrev c160_m10 : List Am.Mark := [⟨false, 0, 0⟩, ⟨false, 0, 0⟩, ⟨false, 0, 1⟩, ⟨false, 0, 1⟩, ⟨false, 0, 1⟩, ⟨false, 0, 1⟩, ⟨false, 0, 0⟩, ⟨false, 0, 0⟩, ⟨false, 0, 0⟩, ⟨false, 0, 0⟩, ⟨false, 0, 0⟩, ⟨false, 0, 0⟩, ⟨false, 0, 1⟩, ⟨false, 0, 1⟩, ⟨false, 0, 1⟩, ⟨false, 0, 0⟩, ⟨false, 0, 0⟩, ⟨true, 0, 1⟩, ⟨false, 1, 1⟩, ⟨true, 1, 2⟩]
theorem c160_d10 : drawFine c160_r10 c160_a10 c160_m10 = true := by decide +kernel
abbrev c160_r11 : List Ins := [
  ⟨some 36, none, .mov (.t 11)⟩,
  ⟨some 37, none, .bin .add (.t 36) (.c (.int .i64 1))⟩,
  ⟨some 11, none, .mov (.t 37)⟩]
abbrev c160_l12 : IR := .seq (.seq (.reg c160_r6) (.cond (.t 35) (.skip) (.exit 0))) (.seq (.blk 1 (.seq (.reg c160_r7) (.seq (.seq (.reg c160_r8) (.cond (.t 45) (.reg c160_r9) (.skip))) (.dreg c160_r10 c160_a10)))) (.reg c160_r11))
abbrev c160 : IR := .seq (.reg c160_r1) (.seq (.reg c160_r2) (.cond (.t 17) (.seq (.reg c160_r3) (.seq (.reg c160_r4) (.seq (.reg c160_r5) (.blk 0 (.loop c160_l12))))) (.skip)))
abbrev F160 : FnA := ⟨67, c160, []⟩
theorem ok160 : cFn Try.prog 160 = some F160 := by kernel_rfl
theorem hb160 : HasBody Try.prog 160 := ⟨_, Try.func160, by kernel_rfl, by kernel_rfl⟩
/-! slices.choosePivotCmpFunc:Span -/
abbrev c161_r1 : List Ins := [
  ⟨some 8, none, .mov (.c (.int .i64 0))⟩,
  ⟨some 9, none, .mov (.c (.int .i64 0))⟩]
abbrev c161_r2 : List Ins := [
  ⟨some 15, none, .mov (.t 2)⟩,
  ⟨some 16, none, .mov (.t 1)⟩,
  ⟨some 17, none, .bin .sub (.t 15) (.t 16)⟩,
  ⟨some 10, none, .mov (.t 17)⟩]
abbrev c161_r3 : List Ins := [
  ⟨some 11, none, .alloc [.int .i64 0]⟩]
abbrev c161_r4 : List Ins := [
  ⟨some 18, none, .mov (.t 1)⟩,
  ⟨some 19, none, .mov (.t 10)⟩,
  ⟨some 20, none, .bin .quo (.t 19) (.c (.int .i64 4))⟩,
  ⟨some 21, none, .bin .mul (.t 20) (.c (.int .i64 1))⟩,
  ⟨some 22, none, .bin .add (.t 18) (.t 21)⟩,
  ⟨some 12, none, .mov (.t 22)⟩]
abbrev c161_r5 : List Ins := [
  ⟨some 23, none, .mov (.t 1)⟩,
  ⟨some 24, none, .mov (.t 10)⟩,
  ⟨some 25, none, .bin .quo (.t 24) (.c (.int .i64 4))⟩,
  ⟨some 26, none, .bin .mul (.t 25) (.c (.int .i64 2))⟩,
  ⟨some 27, none, .bin .add (.t 23) (.t 26)⟩,
  ⟨some 13, none, .mov (.t 27)⟩]
abbrev c161_r6 : List Ins := [
  ⟨some 28, none, .mov (.t 1)⟩,
  ⟨some 29, none, .mov (.t 10)⟩,
  ⟨some 30, none, .bin .quo (.t 29) (.c (.int .i64 4))⟩,
  ⟨some 31, none, .bin .mul (.t 30) (.c (.int .i64 3))⟩,
  ⟨some 32, none, .bin .add (.t 28) (.t 31)⟩,
  ⟨some 14, none, .mov (.t 32)⟩]
abbrev c161_r7 : List Ins := [
  ⟨some 33, none, .mov (.t 10)⟩,
  ⟨some 34, none, .bin .geq (.t 33) (.c (.int .i64 8))⟩]
abbrev c161_r8 : List Ins := [
  ⟨some 35, none, .mov (.t 10)⟩,
  ⟨some 36, none, .bin .geq (.t 35) (.c (.int .i64 50))⟩]
abbrev c161_r9 : List Ins := [
  ⟨some 37, none, .mov (.t 0)⟩,
  ⟨some 38, none, .mov (.t 12)⟩,
  ⟨some 39, none, .mov (.t 3)⟩,
  ⟨some 40, none, .call (.c (.fn 171 [] [])) [.t 37, .t 38, .t 11, .t 39]⟩,
  ⟨some 12, none, .mov (.t 40)⟩]
abbrev c161_r10 : List Ins := [
  ⟨some 41, none, .mov (.t 0)⟩,
  ⟨some 42, none, .mov (.t 13)⟩,
  ⟨some 43, none, .mov (.t 3)⟩,
  ⟨some 44, none, .call (.c (.fn 171 [] [])) [.t 41, .t 42, .t 11, .t 43]⟩,
  ⟨some 13, none, .mov (.t 44)⟩]
abbrev c161_r11 : List Ins := [
  ⟨some 45, none, .mov (.t 0)⟩,
  ⟨some 46, none, .mov (.t 14)⟩,
  ⟨some 47, none, .mov (.t 3)⟩,
  ⟨some 48, none, .call (.c (.fn 171 [] [])) [.t 45, .t 46, .t 11, .t 47]⟩,
  ⟨some 14, none, .mov (.t 48)⟩]
abbrev c161_r12 : List Ins := [
  ⟨some 49, none, .mov (.t 0)⟩,
  ⟨some 50, none, .mov (.t 12)⟩,
  ⟨some 51, none, .mov (.t 13)⟩,
  ⟨some 52, none, .mov (.t 14)⟩,
  ⟨some 53, none, .mov (.t 3)⟩,
  ⟨some 54, none, .call (.c (.fn 172 [] [])) [.t 49, .t 50, .t 51, .t 52, .t 11, .t 53]⟩,
  ⟨some 13, none, .mov (.t 54)⟩]
abbrev c161_r13 : List Ins := [
  ⟨some 55, none, .load 1 false (.t 11)⟩]
abbrev c161_r14 : List Ins := [
  ⟨some 58, none, .bin .eql (.t 55) (.c (.int .i64 0))⟩,
  ⟨some 57, none, .mov (.t 58)⟩]
abbrev c161_r15 : List Ins := [
  ⟨some 59, none, .mov (.t 13)⟩,
  ⟨some 8, none, .mov (.t 59)⟩,
  ⟨some 9, none, .mov (.c (.int .i64 1))⟩]
abbrev c161_r16 : List Ins := [
  ⟨some 61, none, .bin .eql (.t 55) (.c (.int .i64 12))⟩,
  ⟨some 60, none, .mov (.t 61)⟩]
abbrev c161_r17 : List Ins := [
  ⟨some 62, none, .mov (.t 13)⟩,
  ⟨some 8, none, .mov (.t 62)⟩,
  ⟨some 9, none, .mov (.c (.int .i64 2))⟩]
abbrev c161_r18 : List Ins := [
  ⟨some 56, none, .mov (.t 13)⟩,
  ⟨some 8, none, .mov (.t 56)⟩,
  ⟨some 9, none, .mov (.c (.int .i64 0))⟩]
abbrev c161 : IR := .seq (.reg c161_r1) (.seq (.reg c161_r2) (.seq (.reg c161_r3) (.seq (.reg c161_r4) (.seq (.reg c161_r5) (.seq (.reg c161_r6) (.seq (.seq (.reg c161_r7) (.cond (.t 34) (.seq (.seq (.reg c161_r8) (.cond (.t 36) (.seq (.reg c161_r9) (.seq (.reg c161_r10) (.reg c161_r11))) (.skip))) (.reg c161_r12)) (.skip))) (.seq (.reg c161_r13) (.blk 0 (.seq (.reg c161_r14) (.cond (.t 57) (.seq (.reg c161_r15) (.ret)) (.seq (.reg c161_r16) (.cond (.t 60) (.seq (.reg c161_r17) (.ret)) (.seq (.reg c161_r18) (.ret))))))))))))))
abbrev F161 : FnA := ⟨63, c161, [.t 8, .t 9]⟩
theorem ok161 : cFn Try.prog 161 = some F161 := by kernel_rfl
theorem hb161 : HasBody Try.prog 161 := ⟨_, Try.func161, by kernel_rfl, by kernel_rfl⟩
/-! slices.reverseRangeCmpFunc:Span -/
abbrev c162_r1 : List Ins := [
  ⟨some 10, none, .mov (.t 1)⟩,
  ⟨some 8, none, .mov (.t 10)⟩]
abbrev c162_r2 : List Ins := [
  ⟨some 11, none, .mov (.t 2)⟩,
  ⟨some 12, none, .bin .sub (.t 11) (.c (.int .i64 1))⟩,
  ⟨some 9, none, .mov (.t 12)⟩]
abbrev c162_r3 : List Ins := [
  ⟨some 13, none, .mov (.t 8)⟩,
  ⟨some 14, none, .mov (.t 9)⟩,
  ⟨some 15, none, .bin .lss (.t 13) (.t 14)⟩]
abbrev c162_r4 : List Ins := [
  ⟨some 16, none, .mov (.t 0)⟩,
  ⟨some 17, none, .mov (.t 8)⟩,
  ⟨some 18, none, .mov (.t 0)⟩,
  ⟨some 19, none, .mov (.t 9)⟩,
  ⟨some 20, none, .mov (.t 0)⟩,
  ⟨some 21, none, .mov (.t 9)⟩,
  ⟨some 22, none, .iaddr 2 (.t 20) (.t 21)⟩,
  ⟨some 23, none, .load 2 true (.t 22)⟩,
  ⟨some 24, none, .mov (.t 0)⟩,
  ⟨some 25, none, .mov (.t 8)⟩,
  ⟨some 26, none, .iaddr 2 (.t 24) (.t 25)⟩,
  ⟨some 27, none, .load 2 true (.t 26)⟩,
  ⟨some 28, none, .iaddr 2 (.t 16) (.t 17)⟩,
  ⟨none, none, .store 2 (.t 28) (.t 23)⟩,
  ⟨some 29, none, .iaddr 2 (.t 18) (.t 19)⟩,
  ⟨none, none, .store 2 (.t 29) (.t 27)⟩]
def c162_a4 : List (List Nat) := [[], [], [], [], [], [], [4, 5], [6], [], [], [8, 9], [10], [0, 1, 0, 1, 4, 5, 6, 7, 11], [12, 7, 0, 1, 4, 5, 6, 7, 11], [2, 3, 0, 1, 2, 3, 4, 5, 6, 7, 8, 9, 10, 11, 12, 13], [14, 11, 13, 0, 1, 2, 3, 4, 5, 6, 7, 8, 9, 10, 11, 12, 13]]
abbrev c162_m4 : List Am.Mark := [⟨false, 0, 0⟩, ⟨false, 0, 0⟩, ⟨false, 0, 1⟩, ⟨false, 0, 1⟩, ⟨false, 0, 0⟩, ⟨false, 0, 0⟩, ⟨false, 0, 0⟩, ⟨false, 0, 0⟩, ⟨false, 0, 1⟩, ⟨false, 0, 1⟩, ⟨false, 0, 1⟩, ⟨false, 0, 0⟩, ⟨false, 0, 0⟩, ⟨true, 0, 1⟩, ⟨false, 1, 1⟩, ⟨true, 1, 2⟩]
theorem c162_d4 : drawFine c162_r4 c162_a4 c162_m4 = true := by decide +kernel
abbrev c162_r5 : List Ins := [
  ⟨some 30, none, .mov (.t 8)⟩,
  ⟨some 31, none, .bin .add (.t 30) (.c (.int .i64 1))⟩,
  ⟨some 8, none, .mov (.t 31)⟩]
abbrev c162_r6 : List Ins := [
  ⟨some 32, none, .mov (.t 9)⟩,
  ⟨some 33, none, .bin .sub (.t 32) (.c (.int .i64 1))⟩,
  ⟨some 9, none, .mov (.t 33)⟩]
abbrev c162_l7 : IR := .seq (.seq (.reg c162_r3) (.cond (.t 15) (.skip) (.exit 0))) (.blk 1 (.seq (.dreg c162_r4 c162_a4) (.seq (.reg c162_r5) (.reg c162_r6))))
abbrev c162 : IR := .seq (.reg c162_r1) (.seq (.reg c162_r2) (.blk 0 (.loop c162_l7)))
abbrev F162 : FnA := ⟨34, c162, []⟩
theorem ok162 : cFn Try.prog 162 = some F162 := by kernel_rfl
theorem hb162 : HasBody Try.prog 162 := ⟨_, Try.func162, by kernel_rfl, by kernel_rfl⟩
/-! slices.partialInsertionSortCmpFunc:Span -/
abbrev c163_r1 : List Ins := [
  ⟨some 8, none, .mov (.c (.bool false))⟩]
abbrev c163_r2 : List Ins := [
  ⟨some 13, none, .mov (.t 1)⟩,
  ⟨some 14, none, .bin .add (.t 13) (.c (.int .i64 1))⟩,
  ⟨some 9, none, .mov (.t 14)⟩]
abbrev c163_r3 : List Ins := [
  ⟨some 10, none, .mov (.c (.int .i64 0))⟩]
abbrev c163_r4 : List Ins := [
  ⟨some 15, none, .mov (.t 10)⟩,
  ⟨some 16, none, .bin .lss (.t 15) (.c (.int .i64 5))⟩]
abbrev c163_r5 : List Ins := [
  ⟨some 19, none, .mov (.t 9)⟩,
  ⟨some 20, none, .mov (.t 2)⟩,
  ⟨some 21, none, .bin .lss (.t 19) (.t 20)⟩,
  ⟨some 22, none, .mov (.t 21)⟩,
  ⟨some 23, some (22, true), .mov (.t 3)⟩,
  ⟨some 24, some (22, true), .mov (.t 0)⟩,
  ⟨some 25, some (22, true), .mov (.t 9)⟩,
  ⟨some 26, some (22, true), .iaddr 2 (.t 24) (.t 25)⟩,
  ⟨some 27, some (22, true), .load 2 true (.t 26)⟩,
  ⟨some 28, some (22, true), .mov (.t 0)⟩,
  ⟨some 29, some (22, true), .mov (.t 9)⟩,
  ⟨some 30, some (22, true), .bin .sub (.t 29) (.c (.int .i64 1))⟩,
  ⟨some 31, some (22, true), .iaddr 2 (.t 28) (.t 30)⟩,
  ⟨some 32, some (22, true), .load 2 true (.t 31)⟩,
  ⟨some 33, some (22, true), .call (.t 23) [.t 27, .t 32]⟩,
  ⟨some 34, some (22, true), .bin .lss (.t 33) (.c (.int .i64 0))⟩,
  ⟨some 35, some (22, true), .un .not (.t 34)⟩,
  ⟨some 36, none, .pick (.t 22) (.t 35) (.c (.bool false))⟩]
def c163_a5 : List (List Nat) := [[], [], [0, 1], [2], [3], [3], [3], [5, 6, 3], [7, 3], [3], [3], [10, 3], [9, 11, 3], [12, 3], [4, 8, 13, 3, 3], [14, 3], [15, 3], [3, 16]]
abbrev c163_m5 : List Am.Mark := [⟨false, 0, 1⟩, ⟨false, 0, 1⟩, ⟨false, 0, 1⟩, ⟨false, 0, 0⟩, ⟨false, 0, 0⟩, ⟨false, 0, 1⟩, ⟨false, 0, 1⟩, ⟨false, 0, 1⟩, ⟨false, 0, 0⟩, ⟨false, 0, 1⟩, ⟨false, 0, 1⟩, ⟨false, 0, 1⟩, ⟨false, 0, 1⟩, ⟨false, 0, 0⟩, ⟨true, 0, 1⟩, ⟨false, 1, 1⟩, ⟨false, 1, 1⟩, ⟨false, 1, 1⟩]
theorem c163_d5 : drawFine c163_r5 c163_a5 c163_m5 = true := by decide +kernel
abbrev c163_r6 : List Ins := [
  ⟨some 37, none, .mov (.t 9)⟩,
  ⟨some 38, none, .bin .add (.t 37) (.c (.int .i64 1))⟩,
  ⟨some 9, none, .mov (.t 38)⟩]
abbrev c163_l7 : IR := .seq (.seq (.dreg c163_r5 c163_a5) (.cond (.t 36) (.skip) (.exit 2))) (.blk 3 (.reg c163_r6))
abbrev c163_r8 : List Ins := [
  ⟨some 39, none, .mov (.t 9)⟩,
  ⟨some 40, none, .mov (.t 2)⟩,
  ⟨some 41, none, .bin .eql (.t 39) (.t 40)⟩]
abbrev c163_r9 : List Ins := [
  ⟨some 8, none, .mov (.c (.bool true))⟩]
abbrev c163_r10 : List Ins := [
  ⟨some 42, none, .mov (.t 2)⟩,
  ⟨some 43, none, .mov (.t 1)⟩,
  ⟨some 44, none, .bin .sub (.t 42) (.t 43)⟩,
  ⟨some 45, none, .bin .lss (.t 44) (.c (.int .i64 50))⟩]
abbrev c163_r11 : List Ins := [
  ⟨some 8, none, .mov (.c (.bool false))⟩]
abbrev c163_r12 : List Ins := [
  ⟨some 46, none, .mov (.t 0)⟩,
  ⟨some 47, none, .mov (.t 9)⟩,
  ⟨some 48, none, .mov (.t 0)⟩,
  ⟨some 49, none, .mov (.t 9)⟩,
  ⟨some 50, none, .bin .sub (.t 49) (.c (.int .i64 1))⟩,
  ⟨some 51, none, .mov (.t 0)⟩,
  ⟨some 52, none, .mov (.t 9)⟩,
  ⟨some 53, none, .bin .sub (.t 52) (.c (.int .i64 1))⟩,
  ⟨some 54, none, .iaddr 2 (.t 51) (.t 53)⟩,
  ⟨some 55, none, .load 2 true (.t 54)⟩,
  ⟨some 56, none, .mov (.t 0)⟩,
  ⟨some 57, none, .mov (.t 9)⟩,
  ⟨some 58, none, .iaddr 2 (.t 56) (.t 57)⟩,
  ⟨some 59, none, .load 2 true (.t 58)⟩,
  ⟨some 60, none, .iaddr 2 (.t 46) (.t 47)⟩,
  ⟨none, none, .store 2 (.t 60) (.t 55)⟩,
  ⟨some 61, none, .iaddr 2 (.t 48) (.t 50)⟩,
  ⟨none, none, .store 2 (.t 61) (.t 59)⟩]
def c163_a12 : List (List Nat) := [[], [], [], [], [3], [], [], [6], [5, 7], [8], [], [], [10, 11], [12], [0, 1, 0, 1, 5, 6, 7, 8, 9, 13], [14, 9, 0, 1, 5, 6, 7, 8, 9, 13], [2, 4, 0, 1, 2, 3, 4, 5, 6, 7, 8, 9, 10, 11, 12, 13, 14, 15], [16, 13, 15, 0, 1, 2, 3, 4, 5, 6, 7, 8, 9, 10, 11, 12, 13, 14, 15]]
abbrev c163_m12 : List Am.Mark := [⟨false, 0, 0⟩, ⟨false, 0, 0⟩, ⟨false, 0, 1⟩, ⟨false, 0, 1⟩, ⟨false, 0, 1⟩, ⟨false, 0, 0⟩, ⟨false, 0, 0⟩, ⟨false, 0, 0⟩, ⟨false, 0, 0⟩, ⟨false, 0, 0⟩, ⟨false, 0, 1⟩, ⟨false, 0, 1⟩, ⟨false, 0, 1⟩, ⟨false, 0, 0⟩, ⟨false, 0, 0⟩, ⟨true, 0, 1⟩, ⟨false, 1, 1⟩, ⟨true, 1, 2⟩]
theorem c163_d12 : drawFine c163_r12 c163_a12 c163_m12 = true := by decide +kernel
abbrev c163_r13 : List Ins := [
  ⟨some 62, none, .mov (.t 9)⟩,
  ⟨some 63, none, .mov (.t 1)⟩,
  ⟨some 64, none, .bin .sub (.t 62) (.t 63)⟩,
  ⟨some 65, none, .bin .geq (.t 64) (.c (.int .i64 2))⟩]
abbrev c163_r14 : List Ins := [
  ⟨some 66, none, .mov (.t 9)⟩,
  ⟨some 67, none, .bin .sub (.t 66) (.c (.int .i64 1))⟩,
  ⟨some 11, none, .mov (.t 67)⟩]
abbrev c163_r15 : List Ins := [
  ⟨some 68, none, .mov (.t 11)⟩,
  ⟨some 69, none, .bin .geq (.t 68) (.c (.int .i64 1))⟩]
abbrev c163_r16 : List Ins := [
  ⟨some 72, none, .mov (.t 3)⟩,
  ⟨some 73, none, .mov (.t 0)⟩,
  ⟨some 74, none, .mov (.t 11)⟩,
  ⟨some 75, none, .iaddr 2 (.t 73) (.t 74)⟩,
  ⟨some 76, none, .load 2 true (.t 75)⟩,
  ⟨some 77, none, .mov (.t 0)⟩,
  ⟨some 78, none, .mov (.t 11)⟩,
  ⟨some 79, none, .bin .sub (.t 78) (.c (.int .i64 1))⟩,
  ⟨some 80, none, .iaddr 2 (.t 77) (.t 79)⟩,
  ⟨some 81, none, .load 2 true (.t 80)⟩,
  ⟨some 82, none, .call (.t 72) [.t 76, .t 81]⟩,
  ⟨some 83, none, .bin .lss (.t 82) (.c (.int .i64 0))⟩,
  ⟨some 84, none, .un .not (.t 83)⟩]
def c163_a16 : List (List Nat) := [[], [], [], [1, 2], [3], [], [], [6], [5, 7], [8], [0, 4, 9], [10], [11]]
abbrev c163_m16 : List Am.Mark := [⟨false, 0, 0⟩, ⟨false, 0, 1⟩, ⟨false, 0, 1⟩, ⟨false, 0, 1⟩, ⟨false, 0, 0⟩, ⟨false, 0, 1⟩, ⟨false, 0, 1⟩, ⟨false, 0, 1⟩, ⟨false, 0, 1⟩, ⟨false, 0, 0⟩, ⟨true, 0, 1⟩, ⟨false, 1, 1⟩, ⟨false, 1, 1⟩]
theorem c163_d16 : drawFine c163_r16 c163_a16 c163_m16 = true := by decide +kernel
abbrev c163_r17 : List Ins := [
  ⟨some 85, none, .mov (.t 0)⟩,
  ⟨some 86, none, .mov (.t 11)⟩,
  ⟨some 87, none, .mov (.t 0)⟩,
  ⟨some 88, none, .mov (.t 11)⟩,
  ⟨some 89, none, .bin .sub (.t 88) (.c (.int .i64 1))⟩,
  ⟨some 90, none, .mov (.t 0)⟩,
  ⟨some 91, none, .mov (.t 11)⟩,
  ⟨some 92, none, .bin .sub (.t 91) (.c (.int .i64 1))⟩,
  ⟨some 93, none, .iaddr 2 (.t 90) (.t 92)⟩,
  ⟨some 94, none, .load 2 true (.t 93)⟩,
  ⟨some 95, none, .mov (.t 0)⟩,
  ⟨some 96, none, .mov (.t 11)⟩,
  ⟨some 97, none, .iaddr 2 (.t 95) (.t 96)⟩,
  ⟨some 98, none, .load 2 true (.t 97)⟩,
  ⟨some 99, none, .iaddr 2 (.t 85) (.t 86)⟩,
  ⟨none, none, .store 2 (.t 99) (.t 94)⟩,
  ⟨some 100, none, .iaddr 2 (.t 87) (.t 89)⟩,
  ⟨none, none, .store 2 (.t 100) (.t 98)⟩]
def c163_a17 : List (List Nat) := [[], [], [], [], [3], [], [], [6], [5, 7], [8], [], [], [10, 11], [12], [0, 1, 0, 1, 5, 6, 7, 8, 9, 13], [14, 9, 0, 1, 5, 6, 7, 8, 9, 13], [2, 4, 0, 1, 2, 3, 4, 5, 6, 7, 8, 9, 10, 11, 12, 13, 14, 15], [16, 13, 15, 0, 1, 2, 3, 4, 5, 6, 7, 8, 9, 10, 11, 12, 13, 14, 15]]
abbrev c163_m17 : List Am.Mark := [⟨false, 0, 0⟩, ⟨false, 0, 0⟩, ⟨false, 0, 1⟩, ⟨false, 0, 1⟩, ⟨false, 0, 1⟩, ⟨false, 0, 0⟩, ⟨false, 0, 0⟩, ⟨false, 0, 0⟩, ⟨false, 0, 0⟩, ⟨false, 0, 0⟩, ⟨false, 0, 1⟩, ⟨false, 0, 1⟩, ⟨false, 0, 1⟩, ⟨false, 0, 0⟩, ⟨false, 0, 0⟩, ⟨true, 0, 1⟩, ⟨false, 1, 1⟩, ⟨true, 1, 2⟩]
theorem c163_d17 : drawFine c163_r17 c163_a17 c163_m17 = true := by decide +kernel
abbrev c163_r18 : List Ins := [
  ⟨some 70, none, .mov (.t 11)⟩,
  ⟨some 71, none, .bin .sub (.t 70) (.c (.int .i64 1))⟩,
  ⟨some 11, none, .mov (.t 71)⟩]
abbrev c163_l19 : IR := .seq (.seq (.reg c163_r15) (.cond (.t 69) (.skip) (.exit 4))) (.seq (.blk 5 (.seq (.seq (.dreg c163_r16 c163_a16) (.cond (.t 84) (.exit 4) (.skip))) (.dreg c163_r17 c163_a17))) (.reg c163_r18))
abbrev c163_r20 : List Ins := [
  ⟨some 101, none, .mov (.t 2)⟩,
  ⟨some 102, none, .mov (.t 9)⟩,
  ⟨some 103, none, .bin .sub (.t 101) (.t 102)⟩,
  ⟨some 104, none, .bin .geq (.t 103) (.c (.int .i64 2))⟩]
abbrev c163_r21 : List Ins := [
  ⟨some 105, none, .mov (.t 9)⟩,
  ⟨some 106, none, .bin .add (.t 105) (.c (.int .i64 1))⟩,
  ⟨some 12, none, .mov (.t 106)⟩]
abbrev c163_r22 : List Ins := [
  ⟨some 107, none, .mov (.t 12)⟩,
  ⟨some 108, none, .mov (.t 2)⟩,
  ⟨some 109, none, .bin .lss (.t 107) (.t 108)⟩]
abbrev c163_r23 : List Ins := [
  ⟨some 112, none, .mov (.t 3)⟩,
  ⟨some 113, none, .mov (.t 0)⟩,
  ⟨some 114, none, .mov (.t 12)⟩,
  ⟨some 115, none, .iaddr 2 (.t 113) (.t 114)⟩,
  ⟨some 116, none, .load 2 true (.t 115)⟩,
  ⟨some 117, none, .mov (.t 0)⟩,
  ⟨some 118, none, .mov (.t 12)⟩,
  ⟨some 119, none, .bin .sub (.t 118) (.c (.int .i64 1))⟩,
  ⟨some 120, none, .iaddr 2 (.t 117) (.t 119)⟩,
  ⟨some 121, none, .load 2 true (.t 120)⟩,
  ⟨some 122, none, .call (.t 112) [.t 116, .t 121]⟩,
  ⟨some 123, none, .bin .lss (.t 122) (.c (.int .i64 0))⟩,
  ⟨some 124, none, .un .not (.t 123)⟩]
def c163_a23 : List (List Nat) := [[], [], [], [1, 2], [3], [], [], [6], [5, 7], [8], [0, 4, 9], [10], [11]]
abbrev c163_m23 : List Am.Mark := [⟨false, 0, 0⟩, ⟨false, 0, 1⟩, ⟨false, 0, 1⟩, ⟨false, 0, 1⟩, ⟨false, 0, 0⟩, ⟨false, 0, 1⟩, ⟨false, 0, 1⟩, ⟨false, 0, 1⟩, ⟨false, 0, 1⟩, ⟨false, 0, 0⟩, ⟨true, 0, 1⟩, ⟨false, 1, 1⟩, ⟨false, 1, 1⟩]
theorem c163_d23 : drawFine c163_r23 c163_a23 c163_m23 = true := by decide +kernel
abbrev c163_r24 : List Ins := [
  ⟨some 125, none, .mov (.t 0)⟩,
  ⟨some 126, none, .mov (.t 12)⟩,
  ⟨some 127, none, .mov (.t 0)⟩,
  ⟨some 128, none, .mov (.t 12)⟩,
  ⟨some 129, none, .bin .sub (.t 128) (.c (.int .i64 1))⟩,
  ⟨some 130, none, .mov (.t 0)⟩,
  ⟨some 131, none, .mov (.t 12)⟩,
  ⟨some 132, none, .bin .sub (.t 131) (.c (.int .i64 1))⟩,
  ⟨some 133, none, .iaddr 2 (.t 130) (.t 132)⟩,
  ⟨some 134, none, .load 2 true (.t 133)⟩,
  ⟨some 135, none, .mov (.t 0)⟩,
  ⟨some 136, none, .mov (.t 12)⟩,
  ⟨some 137, none, .iaddr 2 (.t 135) (.t 136)⟩,
  ⟨some 138, none, .load 2 true (.t 137)⟩,
  ⟨some 139, none, .iaddr 2 (.t 125) (.t 126)⟩,
  ⟨none, none, .store 2 (.t 139) (.t 134)⟩,
  ⟨some 140, none, .iaddr 2 (.t 127) (.t 129)⟩,
  ⟨none, none, .store 2 (.t 140) (.t 138)⟩]
def c163_a24 : List (List Nat) := [[], [], [], [], [3], [], [], [6], [5, 7], [8], [], [], [10, 11], [12], [0, 1, 0, 1, 5, 6, 7, 8, 9, 13], [14, 9, 0, 1, 5, 6, 7, 8, 9, 13], [2, 4, 0, 1, 2, 3, 4, 5, 6, 7, 8, 9, 10, 11, 12, 13, 14, 15], [16, 13, 15, 0, 1, 2, 3, 4, 5, 6, 7, 8, 9, 10, 11, 12, 13, 14, 15]]
abbrev c163_m24 : List Am.Mark := [⟨false, 0, 0⟩, ⟨false, 0, 0⟩, ⟨false, 0, 1⟩, ⟨false, 0, 1⟩, ⟨false, 0, 1⟩, ⟨false, 0, 0⟩, ⟨false, 0, 0⟩, ⟨false, 0, 0⟩, ⟨false, 0, 0⟩, ⟨false, 0, 0⟩, ⟨false, 0, 1⟩, ⟨false, 0, 1⟩, ⟨false, 0, 1⟩, ⟨false, 0, 0⟩, ⟨false, 0, 0⟩, ⟨true, 0, 1⟩, ⟨false, 1, 1⟩, ⟨true, 1, 2⟩]
theorem c163_d24 : drawFine c163_r24 c163_a24 c163_m24 = true := by decide +kernel
abbrev c163_r25 : List Ins := [
  ⟨some 110, none, .mov (.t 12)⟩,
  ⟨some 111, none, .bin .add (.t 110) (.c (.int .i64 1))⟩,
  ⟨some 12, none, .mov (.t 111)⟩]
abbrev c163_l26 : IR := .seq (.seq (.reg c163_r22) (.cond (.t 109) (.skip) (.exit 6))) (.seq (.blk 7 (.seq (.seq (.dreg c163_r23 c163_a23) (.cond (.t 124) (.exit 6) (.skip))) (.dreg c163_r24 c163_a24))) (.reg c163_r25))
abbrev c163_r27 : List Ins := [
  ⟨some 17, none, .mov (.t 10)⟩,
  ⟨some 18, none, .bin .add (.t 17) (.c (.int .i64 1))⟩,
  ⟨some 10, none, .mov (.t 18)⟩]
abbrev c163_l28 : IR := .seq (.seq (.reg c163_r4) (.cond (.t 16) (.skip) (.exit 0))) (.seq (.blk 1 (.seq (.blk 2 (.loop c163_l7)) (.seq (.seq (.reg c163_r8) (.cond (.t 41) (.seq (.reg c163_r9) (.ret)) (.skip))) (.seq (.seq (.reg c163_r10) (.cond (.t 45) (.seq (.reg c163_r11) (.ret)) (.skip))) (.seq (.dreg c163_r12 c163_a12) (.seq (.seq (.reg c163_r13) (.cond (.t 65) (.seq (.reg c163_r14) (.blk 4 (.loop c163_l19))) (.skip))) (.seq (.reg c163_r20) (.cond (.t 104) (.seq (.reg c163_r21) (.blk 6 (.loop c163_l26))) (.skip))))))))) (.reg c163_r27))
abbrev c163_r29 : List Ins := [
  ⟨some 8, none, .mov (.c (.bool false))⟩]
abbrev c163 : IR := .seq (.reg c163_r1) (.seq (.reg c163_r2) (.seq (.seq (.reg c163_r3) (.blk 0 (.loop c163_l28))) (.seq (.reg c163_r29) (.ret))))
abbrev F163 : FnA := ⟨141, c163, [.t 8]⟩
theorem ok163 : cFn Try.prog 163 = some F163 := by kernel_rfl
theorem hb163 : HasBody Try.prog 163 := ⟨_, Try.func163, by kernel_rfl, by kernel_rfl⟩
/-! slices.partitionEqualCmpFunc:Span -/
abbrev c164_r1 : List Ins := [
  ⟨some 10, none, .mov (.c (.int .i64 0))⟩]
abbrev c164_r2 : List Ins := [
  ⟨some 13, none, .mov (.t 0)⟩,
  ⟨some 14, none, .mov (.t 1)⟩,
  ⟨some 15, none, .mov (.t 0)⟩,
  ⟨some 16, none, .mov (.t 3)⟩,
  ⟨some 17, none, .mov (.t 0)⟩,
  ⟨some 18, none, .mov (.t 3)⟩,
  ⟨some 19, none, .iaddr 2 (.t 17) (.t 18)⟩,
  ⟨some 20, none, .load 2 true (.t 19)⟩,
  ⟨some 21, none, .mov (.t 0)⟩,
  ⟨some 22, none, .mov (.t 1)⟩,
  ⟨some 23, none, .iaddr 2 (.t 21) (.t 22)⟩,
  ⟨some 24, none, .load 2 true (.t 23)⟩,
  ⟨some 25, none, .iaddr 2 (.t 13) (.t 14)⟩,
  ⟨none, none, .store 2 (.t 25) (.t 20)⟩,
  ⟨some 26, none, .iaddr 2 (.t 15) (.t 16)⟩,
  ⟨none, none, .store 2 (.t 26) (.t 24)⟩]
def c164_a2 : List (List Nat) := [[], [], [], [], [], [], [4, 5], [6], [], [], [8, 9], [10], [0, 1, 0, 1, 4, 5, 6, 7, 11], [12, 7, 0, 1, 4, 5, 6, 7, 11], [2, 3, 0, 1, 2, 3, 4, 5, 6, 7, 8, 9, 10, 11, 12, 13], [14, 11, 13, 0, 1, 2, 3, 4, 5, 6, 7, 8, 9, 10, 11, 12, 13]]
abbrev c164_m2 : List Am.Mark := [⟨false, 0, 0⟩, ⟨false, 0, 0⟩, ⟨false, 0, 1⟩, ⟨false, 0, 1⟩, ⟨false, 0, 0⟩, ⟨false, 0, 0⟩, ⟨false, 0, 0⟩, ⟨false, 0, 0⟩, ⟨false, 0, 1⟩, ⟨false, 0, 1⟩, ⟨false, 0, 1⟩, ⟨false, 0, 0⟩, ⟨false, 0, 0⟩, ⟨true, 0, 1⟩, ⟨false, 1, 1⟩, ⟨true, 1, 2⟩]
theorem c164_d2 : drawFine c164_r2 c164_a2 c164_m2 = true := by decide +kernel
abbrev c164_r3 : List Ins := [
  ⟨some 27, none, .mov (.t 1)⟩,
  ⟨some 28, none, .bin .add (.t 27) (.c (.int .i64 1))⟩,
  ⟨some 29, none, .mov (.t 2)⟩,
  ⟨some 30, none, .bin .sub (.t 29) (.c (.int .i64 1))⟩,
  ⟨some 11, none, .mov (.t 28)⟩,
  ⟨some 12, none, .mov (.t 30)⟩]
abbrev c164_r4 : List Ins := [
  ⟨some 31, none, .mov (.t 11)⟩,
  ⟨some 32, none, .mov (.t 12)⟩,
  ⟨some 33, none, .bin .leq (.t 31) (.t 32)⟩,
  ⟨some 34, none, .mov (.t 33)⟩,
  ⟨some 35, some (34, true), .mov (.t 4)⟩,
  ⟨some 36, some (34, true), .mov (.t 0)⟩,
  ⟨some 37, some (34, true), .mov (.t 1)⟩,
  ⟨some 38, some (34, true), .iaddr 2 (.t 36) (.t 37)⟩,
  ⟨some 39, some (34, true), .load 2 true (.t 38)⟩,
  ⟨some 40, some (34, true), .mov (.t 0)⟩,
  ⟨some 41, some (34, true), .mov (.t 11)⟩,
  ⟨some 42, some (34, true), .iaddr 2 (.t 40) (.t 41)⟩,
  ⟨some 43, some (34, true), .load 2 true (.t 42)⟩,
  ⟨some 44, some (34, true), .call (.t 35) [.t 39, .t 43]⟩,
  ⟨some 45, some (34, true), .bin .lss (.t 44) (.c (.int .i64 0))⟩,
  ⟨some 46, some (34, true), .un .not (.t 45)⟩,
  ⟨some 47, none, .pick (.t 34) (.t 46) (.c (.bool false))⟩]
def c164_a4 : List (List Nat) := [[], [], [0, 1], [2], [3], [3], [3], [5, 6, 3], [7, 3], [3], [3], [9, 10, 3], [11, 3], [4, 8, 12, 3, 3], [13, 3], [14, 3], [3, 15]]
abbrev c164_m4 : List Am.Mark := [⟨false, 0, 1⟩, ⟨false, 0, 1⟩, ⟨false, 0, 1⟩, ⟨false, 0, 0⟩, ⟨false, 0, 0⟩, ⟨false, 0, 1⟩, ⟨false, 0, 1⟩, ⟨false, 0, 1⟩, ⟨false, 0, 0⟩, ⟨false, 0, 1⟩, ⟨false, 0, 1⟩, ⟨false, 0, 1⟩, ⟨false, 0, 0⟩, ⟨true, 0, 1⟩, ⟨false, 1, 1⟩, ⟨false, 1, 1⟩, ⟨false, 1, 1⟩]
theorem c164_d4 : drawFine c164_r4 c164_a4 c164_m4 = true := by decide +kernel
abbrev c164_r5 : List Ins := [
  ⟨some 48, none, .mov (.t 11)⟩,
  ⟨some 49, none, .bin .add (.t 48) (.c (.int .i64 1))⟩,
  ⟨some 11, none, .mov (.t 49)⟩]
abbrev c164_l6 : IR := .seq (.seq (.dreg c164_r4 c164_a4) (.cond (.t 47) (.skip) (.exit 2))) (.blk 3 (.reg c164_r5))
abbrev c164_r7 : List Ins := [
  ⟨some 50, none, .mov (.t 11)⟩,
  ⟨some 51, none, .mov (.t 12)⟩,
  ⟨some 52, none, .bin .leq (.t 50) (.t 51)⟩,
  ⟨some 53, none, .mov (.t 52)⟩,
  ⟨some 54, some (53, true), .mov (.t 4)⟩,
  ⟨some 55, some (53, true), .mov (.t 0)⟩,
  ⟨some 56, some (53, true), .mov (.t 1)⟩,
  ⟨some 57, some (53, true), .iaddr 2 (.t 55) (.t 56)⟩,
  ⟨some 58, some (53, true), .load 2 true (.t 57)⟩,
  ⟨some 59, some (53, true), .mov (.t 0)⟩,
  ⟨some 60, some (53, true), .mov (.t 12)⟩,
  ⟨some 61, some (53, true), .iaddr 2 (.t 59) (.t 60)⟩,
  ⟨some 62, some (53, true), .load 2 true (.t 61)⟩,
  ⟨some 63, some (53, true), .call (.t 54) [.t 58, .t 62]⟩,
  ⟨some 64, some (53, true), .bin .lss (.t 63) (.c (.int .i64 0))⟩,
  ⟨some 65, none, .pick (.t 53) (.t 64) (.c (.bool false))⟩]
def c164_a7 : List (List Nat) := [[], [], [0, 1], [2], [3], [3], [3], [5, 6, 3], [7, 3], [3], [3], [9, 10, 3], [11, 3], [4, 8, 12, 3, 3], [13, 3], [3, 14]]
abbrev c164_m7 : List Am.Mark := [⟨false, 0, 1⟩, ⟨false, 0, 1⟩, ⟨false, 0, 1⟩, ⟨false, 0, 0⟩, ⟨false, 0, 0⟩, ⟨false, 0, 1⟩, ⟨false, 0, 1⟩, ⟨false, 0, 1⟩, ⟨false, 0, 0⟩, ⟨false, 0, 1⟩, ⟨false, 0, 1⟩, ⟨false, 0, 1⟩, ⟨false, 0, 0⟩, ⟨true, 0, 1⟩, ⟨false, 1, 1⟩, ⟨false, 1, 1⟩]
theorem c164_d7 : drawFine c164_r7 c164_a7 c164_m7 = true := by decide +kernel
abbrev c164_r8 : List Ins := [
  ⟨some 66, none, .mov (.t 12)⟩,
  ⟨some 67, none, .bin .sub (.t 66) (.c (.int .i64 1))⟩,
  ⟨some 12, none, .mov (.t 67)⟩]
abbrev c164_l9 : IR := .seq (.seq (.dreg c164_r7 c164_a7) (.cond (.t 65) (.skip) (.exit 4))) (.blk 5 (.reg c164_r8))
abbrev c164_r10 : List Ins := [
  ⟨some 68, none, .mov (.t 11)⟩,
  ⟨some 69, none, .mov (.t 12)⟩,
  ⟨some 70, none, .bin .gtr (.t 68) (.t 69)⟩]
abbrev c164_r11 : List Ins := [
  ⟨some 71, none, .mov (.t 0)⟩,
  ⟨some 72, none, .mov (.t 11)⟩,
  ⟨some 73, none, .mov (.t 0)⟩,
  ⟨some 74, none, .mov (.t 12)⟩,
  ⟨some 75, none, .mov (.t 0)⟩,
  ⟨some 76, none, .mov (.t 12)⟩,
  ⟨some 77, none, .iaddr 2 (.t 75) (.t 76)⟩,
  ⟨some 78, none, .load 2 true (.t 77)⟩,
  ⟨some 79, none, .mov (.t 0)⟩,
  ⟨some 80, none, .mov (.t 11)⟩,
  ⟨some 81, none, .iaddr 2 (.t 79) (.t 80)⟩,
  ⟨some 82, none, .load 2 true (.t 81)⟩,
  ⟨some 83, none, .iaddr 2 (.t 71) (.t 72)⟩,
  ⟨none, none, .store 2 (.t 83) (.t 78)⟩,
  ⟨some 84, none, .iaddr 2 (.t 73) (.t 74)⟩,
  ⟨none, none, .store 2 (.t 84) (.t 82)⟩]
def c164_a11 : List (List Nat) := [[], [], [], [], [], [], [4, 5], [6], [], [], [8, 9], [10], [0, 1, 0, 1, 4, 5, 6, 7, 11], [12, 7, 0, 1, 4, 5, 6, 7, 11], [2, 3, 0, 1, 2, 3, 4, 5, 6, 7, 8, 9, 10, 11, 12, 13], [14, 11, 13, 0, 1, 2, 3, 4, 5, 6, 7, 8, 9, 10, 11, 12, 13]]
abbrev c164_m11 : List Am.Mark := [⟨false, 0, 0⟩, ⟨false, 0, 0⟩, ⟨false, 0, 1⟩, ⟨false, 0, 1⟩, ⟨false, 0, 0⟩, ⟨false, 0, 0⟩, ⟨false, 0, 0⟩, ⟨false, 0, 0⟩, ⟨false, 0, 1⟩, ⟨false, 0, 1⟩, ⟨false, 0, 1⟩, ⟨false, 0, 0⟩, ⟨false, 0, 0⟩, ⟨true, 0, 1⟩, ⟨false, 1, 1⟩, ⟨true, 1, 2⟩]
theorem c164_d11 : drawFine c164_r11 c164_a11 c164_m11 = true := by decide +kernel
abbrev c164_r12 : List Ins := [
  ⟨some 85, none, .mov (.t 11)⟩,
  ⟨some 86, none, .bin .add (.t 85) (.c (.int .i64 1))⟩,
  ⟨some 11, none, .mov (.t 86)⟩]
abbrev c164_r13 : List Ins := [
  ⟨some 87, none, .mov (.t 12)⟩,
  ⟨some 88, none, .bin .sub (.t 87) (.c (.int .i64 1))⟩,
  ⟨some 12, none, .mov (.t 88)⟩]
abbrev c164_l14 : IR := .blk 1 (.seq (.blk 2 (.loop c164_l6)) (.seq (.blk 4 (.loop c164_l9)) (.seq (.seq (.reg c164_r10) (.cond (.t 70) (.exit 0) (.skip))) (.seq (.dreg c164_r11 c164_a11) (.seq (.reg c164_r12) (.reg c164_r13))))))
abbrev c164_r15 : List Ins := [
  ⟨some 89, none, .mov (.t 11)⟩,
  ⟨some 10, none, .mov (.t 89)⟩]
abbrev c164 : IR := .seq (.reg c164_r1) (.seq (.dreg c164_r2 c164_a2) (.seq (.reg c164_r3) (.seq (.blk 0 (.loop c164_l14)) (.seq (.reg c164_r15) (.ret)))))
abbrev F164 : FnA := ⟨90, c164, [.t 10]⟩
theorem ok164 : cFn Try.prog 164 = some F164 := by kernel_rfl
theorem hb164 : HasBody Try.prog 164 := ⟨_, Try.func164, by kernel_rfl, by kernel_rfl⟩
/-! slices.partitionCmpFunc:Span -/
abbrev c165_r1 : List Ins := [
  ⟨some 10, none, .mov (.c (.int .i64 0))⟩,
  ⟨some 11, none, .mov (.c (.bool false))⟩]
abbrev c165_r2 : List Ins := [
  ⟨some 14, none, .mov (.t 0)⟩,
  ⟨some 15, none, .mov (.t 1)⟩,
  ⟨some 16, none, .mov (.t 0)⟩,
  ⟨some 17, none, .mov (.t 3)⟩,
  ⟨some 18, none, .mov (.t 0)⟩,
  ⟨some 19, none, .mov (.t 3)⟩,
  ⟨some 20, none, .iaddr 2 (.t 18) (.t 19)⟩,
  ⟨some 21, none, .load 2 true (.t 20)⟩,
  ⟨some 22, none, .mov (.t 0)⟩,
  ⟨some 23, none, .mov (.t 1)⟩,
  ⟨some 24, none, .iaddr 2 (.t 22) (.t 23)⟩,
  ⟨some 25, none, .load 2 true (.t 24)⟩,
  ⟨some 26, none, .iaddr 2 (.t 14) (.t 15)⟩,
  ⟨none, none, .store 2 (.t 26) (.t 21)⟩,
  ⟨some 27, none, .iaddr 2 (.t 16) (.t 17)⟩,
  ⟨none, none, .store 2 (.t 27) (.t 25)⟩]
def c165_a2 : List (List Nat) := [[], [], [], [], [], [], [4, 5], [6], [], [], [8, 9], [10], [0, 1, 0, 1, 4, 5, 6, 7, 11], [12, 7, 0, 1, 4, 5, 6, 7, 11], [2, 3, 0, 1, 2, 3, 4, 5, 6, 7, 8, 9, 10, 11, 12, 13], [14, 11, 13, 0, 1, 2, 3, 4, 5, 6, 7, 8, 9, 10, 11, 12, 13]]
abbrev c165_m2 : List Am.Mark := [⟨false, 0, 0⟩, ⟨false, 0, 0⟩, ⟨false, 0, 1⟩, ⟨false, 0, 1⟩, ⟨false, 0, 0⟩, ⟨false, 0, 0⟩, ⟨false, 0, 0⟩, ⟨false, 0, 0⟩, ⟨false, 0, 1⟩, ⟨false, 0, 1⟩, ⟨false, 0, 1⟩, ⟨false, 0, 0⟩, ⟨false, 0, 0⟩, ⟨true, 0, 1⟩, ⟨false, 1, 1⟩, ⟨true, 1, 2⟩]
theorem c165_d2 : drawFine c165_r2 c165_a2 c165_m2 = true := by decide +kernel
abbrev c165_r3 : List Ins := [
  ⟨some 28, none, .mov (.t 1)⟩,
  ⟨some 29, none, .bin .add (.t 28) (.c (.int .i64 1))⟩,
  ⟨some 30, none, .mov (.t 2)⟩,
  ⟨some 31, none, .bin .sub (.t 30) (.c (.int .i64 1))⟩,
  ⟨some 12, none, .mov (.t 29)⟩,
  ⟨some 13, none, .mov (.t 31)⟩]
abbrev c165_r4 : List Ins := [
  ⟨some 32, none, .mov (.t 12)⟩,
  ⟨some 33, none, .mov (.t 13)⟩,
  ⟨some 34, none, .bin .leq (.t 32) (.t 33)⟩,
  ⟨some 35, none, .mov (.t 34)⟩,
  ⟨some 36, some (35, true), .mov (.t 4)⟩,
  ⟨some 37, some (35, true), .mov (.t 0)⟩,
  ⟨some 38, some (35, true), .mov (.t 12)⟩,
  ⟨some 39, some (35, true), .iaddr 2 (.t 37) (.t 38)⟩,
  ⟨some 40, some (35, true), .load 2 true (.t 39)⟩,
  ⟨some 41, some (35, true), .mov (.t 0)⟩,
  ⟨some 42, some (35, true), .mov (.t 1)⟩,
  ⟨some 43, some (35, true), .iaddr 2 (.t 41) (.t 42)⟩,
  ⟨some 44, some (35, true), .load 2 true (.t 43)⟩,
  ⟨some 45, some (35, true), .call (.t 36) [.t 40, .t 44]⟩,
  ⟨some 46, some (35, true), .bin .lss (.t 45) (.c (.int .i64 0))⟩,
  ⟨some 47, none, .pick (.t 35) (.t 46) (.c (.bool false))⟩]
def c165_a4 : List (List Nat) := [[], [], [0, 1], [2], [3], [3], [3], [5, 6, 3], [7, 3], [3], [3], [9, 10, 3], [11, 3], [4, 8, 12, 3, 3], [13, 3], [3, 14]]
abbrev c165_m4 : List Am.Mark := [⟨false, 0, 1⟩, ⟨false, 0, 1⟩, ⟨false, 0, 1⟩, ⟨false, 0, 0⟩, ⟨false, 0, 0⟩, ⟨false, 0, 1⟩, ⟨false, 0, 1⟩, ⟨false, 0, 1⟩, ⟨false, 0, 0⟩, ⟨false, 0, 1⟩, ⟨false, 0, 1⟩, ⟨false, 0, 1⟩, ⟨false, 0, 0⟩, ⟨true, 0, 1⟩, ⟨false, 1, 1⟩, ⟨false, 1, 1⟩]
theorem c165_d4 : drawFine c165_r4 c165_a4 c165_m4 = true := by decide +kernel
abbrev c165_r5 : List Ins := [
  ⟨some 48, none, .mov (.t 12)⟩,
  ⟨some 49, none, .bin .add (.t 48) (.c (.int .i64 1))⟩,
  ⟨some 12, none, .mov (.t 49)⟩]
abbrev c165_l6 : IR := .seq (.seq (.dreg c165_r4 c165_a4) (.cond (.t 47) (.skip) (.exit 0))) (.blk 1 (.reg c165_r5))
abbrev c165_r7 : List Ins := [
  ⟨some 50, none, .mov (.t 12)⟩,
  ⟨some 51, none, .mov (.t 13)⟩,
  ⟨some 52, none, .bin .leq (.t 50) (.t 51)⟩,
  ⟨some 53, none, .mov (.t 52)⟩,
  ⟨some 54, some (53, true), .mov (.t 4)⟩,
  ⟨some 55, some (53, true), .mov (.t 0)⟩,
  ⟨some 56, some (53, true), .mov (.t 13)⟩,
  ⟨some 57, some (53, true), .iaddr 2 (.t 55) (.t 56)⟩,
  ⟨some 58, some (53, true), .load 2 true (.t 57)⟩,
  ⟨some 59, some (53, true), .mov (.t 0)⟩,
  ⟨some 60, some (53, true), .mov (.t 1)⟩,
  ⟨some 61, some (53, true), .iaddr 2 (.t 59) (.t 60)⟩,
  ⟨some 62, some (53, true), .load 2 true (.t 61)⟩,
  ⟨some 63, some (53, true), .call (.t 54) [.t 58, .t 62]⟩,
  ⟨some 64, some (53, true), .bin .lss (.t 63) (.c (.int .i64 0))⟩,
  ⟨some 65, some (53, true), .un .not (.t 64)⟩,
  ⟨some 66, none, .pick (.t 53) (.t 65) (.c (.bool false))⟩]
def c165_a7 : List (List Nat) := [[], [], [0, 1], [2], [3], [3], [3], [5, 6, 3], [7, 3], [3], [3], [9, 10, 3], [11, 3], [4, 8, 12, 3, 3], [13, 3], [14, 3], [3, 15]]
abbrev c165_m7 : List Am.Mark := [⟨false, 0, 1⟩, ⟨false, 0, 1⟩, ⟨false, 0, 1⟩, ⟨false, 0, 0⟩, ⟨false, 0, 0⟩, ⟨false, 0, 1⟩, ⟨false, 0, 1⟩, ⟨false, 0, 1⟩, ⟨false, 0, 0⟩, ⟨false, 0, 1⟩, ⟨false, 0, 1⟩, ⟨false, 0, 1⟩, ⟨false, 0, 0⟩, ⟨true, 0, 1⟩, ⟨false, 1, 1⟩, ⟨false, 1, 1⟩, ⟨false, 1, 1⟩]
theorem c165_d7 : drawFine c165_r7 c165_a7 c165_m7 = true := by decide +kernel
abbrev c165_r8 : List Ins := [
  ⟨some 67, none, .mov (.t 13)⟩,
  ⟨some 68, none, .bin .sub (.t 67) (.c (.int .i64 1))⟩,
  ⟨some 13, none, .mov (.t 68)⟩]
abbrev c165_l9 : IR := .seq (.seq (.dreg c165_r7 c165_a7) (.cond (.t 66) (.skip) (.exit 2))) (.blk 3 (.reg c165_r8))
abbrev c165_r10 : List Ins := [
  ⟨some 69, none, .mov (.t 12)⟩,
  ⟨some 70, none, .mov (.t 13)⟩,
  ⟨some 71, none, .bin .gtr (.t 69) (.t 70)⟩]
abbrev c165_r11 : List Ins := [
  ⟨some 72, none, .mov (.t 0)⟩,
  ⟨some 73, none, .mov (.t 13)⟩,
  ⟨some 74, none, .mov (.t 0)⟩,
  ⟨some 75, none, .mov (.t 1)⟩,
  ⟨some 76, none, .mov (.t 0)⟩,
  ⟨some 77, none, .mov (.t 1)⟩,
  ⟨some 78, none, .iaddr 2 (.t 76) (.t 77)⟩,
  ⟨some 79, none, .load 2 true (.t 78)⟩,
  ⟨some 80, none, .mov (.t 0)⟩,
  ⟨some 81, none, .mov (.t 13)⟩,
  ⟨some 82, none, .iaddr 2 (.t 80) (.t 81)⟩,
  ⟨some 83, none, .load 2 true (.t 82)⟩,
  ⟨some 84, none, .iaddr 2 (.t 72) (.t 73)⟩,
  ⟨none, none, .store 2 (.t 84) (.t 79)⟩,
  ⟨some 85, none, .iaddr 2 (.t 74) (.t 75)⟩,
  ⟨none, none, .store 2 (.t 85) (.t 83)⟩]
def c165_a11 : List (List Nat) := [[], [], [], [], [], [], [4, 5], [6], [], [], [8, 9], [10], [0, 1, 0, 1, 4, 5, 6, 7, 11], [12, 7, 0, 1, 4, 5, 6, 7, 11], [2, 3, 0, 1, 2, 3, 4, 5, 6, 7, 8, 9, 10, 11, 12, 13], [14, 11, 13, 0, 1, 2, 3, 4, 5, 6, 7, 8, 9, 10, 11, 12, 13]]
abbrev c165_m11 : List Am.Mark := [⟨false, 0, 0⟩, ⟨false, 0, 0⟩, ⟨false, 0, 1⟩, ⟨false, 0, 1⟩, ⟨false, 0, 0⟩, ⟨false, 0, 0⟩, ⟨false, 0, 0⟩, ⟨false, 0, 0⟩, ⟨false, 0, 1⟩, ⟨false, 0, 1⟩, ⟨false, 0, 1⟩, ⟨false, 0, 0⟩, ⟨false, 0, 0⟩, ⟨true, 0, 1⟩, ⟨false, 1, 1⟩, ⟨true, 1, 2⟩]
theorem c165_d11 : drawFine c165_r11 c165_a11 c165_m11 = true := by decide +kernel
abbrev c165_r12 : List Ins := [
  ⟨some 86, none, .mov (.t 13)⟩,
  ⟨some 10, none, .mov (.t 86)⟩,
  ⟨some 11, none, .mov (.c (.bool true))⟩]
abbrev c165_r13 : List Ins := [
  ⟨some 87, none, .mov (.t 0)⟩,
  ⟨some 88, none, .mov (.t 12)⟩,
  ⟨some 89, none, .mov (.t 0)⟩,
  ⟨some 90, none, .mov (.t 13)⟩,
  ⟨some 91, none, .mov (.t 0)⟩,
  ⟨some 92, none, .mov (.t 13)⟩,
  ⟨some 93, none, .iaddr 2 (.t 91) (.t 92)⟩,
  ⟨some 94, none, .load 2 true (.t 93)⟩,
  ⟨some 95, none, .mov (.t 0)⟩,
  ⟨some 96, none, .mov (.t 12)⟩,
  ⟨some 97, none, .iaddr 2 (.t 95) (.t 96)⟩,
  ⟨some 98, none, .load 2 true (.t 97)⟩,
  ⟨some 99, none, .iaddr 2 (.t 87) (.t 88)⟩,
  ⟨none, none, .store 2 (.t 99) (.t 94)⟩,
  ⟨some 100, none, .iaddr 2 (.t 89) (.t 90)⟩,
  ⟨none, none, .store 2 (.t 100) (.t 98)⟩]
def c165_a13 : List (List Nat) := [[], [], [], [], [], [], [4, 5], [6], [], [], [8, 9], [10], [0, 1, 0, 1, 4, 5, 6, 7, 11], [12, 7, 0, 1, 4, 5, 6, 7, 11], [2, 3, 0, 1, 2, 3, 4, 5, 6, 7, 8, 9, 10, 11, 12, 13], [14, 11, 13, 0, 1, 2, 3, 4, 5, 6, 7, 8, 9, 10, 11, 12, 13]]
abbrev c165_m13 : List Am.Mark := [⟨false, 0, 0⟩, ⟨false, 0, 0⟩, ⟨false, 0, 1⟩, ⟨false, 0, 1⟩, ⟨false, 0, 0⟩, ⟨false, 0, 0⟩, ⟨false, 0, 0⟩, ⟨false, 0, 0⟩, ⟨false, 0, 1⟩, ⟨false, 0, 1⟩, ⟨false, 0, 1⟩, ⟨false, 0, 0⟩, ⟨false, 0, 0⟩, ⟨true, 0, 1⟩, ⟨false, 1, 1⟩, ⟨true, 1, 2⟩]
theorem c165_d13 : drawFine c165_r13 c165_a13 c165_m13 = true := by decide +kernel
abbrev c165_r14 : List Ins := [
  ⟨some 101, none, .mov (.t 12)⟩,
  ⟨some 102, none, .bin .add (.t 101) (.c (.int .i64 1))⟩,
  ⟨some 12, none, .mov (.t 102)⟩]
abbrev c165_r15 : List Ins := [
  ⟨some 103, none, .mov (.t 13)⟩,
  ⟨some 104, none, .bin .sub (.t 103) (.c (.int .i64 1))⟩,
  ⟨some 13, none, .mov (.t 104)⟩]
abbrev c165_r16 : List Ins := [
  ⟨some 105, none, .mov (.t 12)⟩,
  ⟨some 106, none, .mov (.t 13)⟩,
  ⟨some 107, none, .bin .leq (.t 105) (.t 106)⟩,
  ⟨some 108, none, .mov (.t 107)⟩,
  ⟨some 109, some (108, true), .mov (.t 4)⟩,
  ⟨some 110, some (108, true), .mov (.t 0)⟩,
  ⟨some 111, some (108, true), .mov (.t 12)⟩,
  ⟨some 112, some (108, true), .iaddr 2 (.t 110) (.t 111)⟩,
  ⟨some 113, some (108, true), .load 2 true (.t 112)⟩,
  ⟨some 114, some (108, true), .mov (.t 0)⟩,
  ⟨some 115, some (108, true), .mov (.t 1)⟩,
  ⟨some 116, some (108, true), .iaddr 2 (.t 114) (.t 115)⟩,
  ⟨some 117, some (108, true), .load 2 true (.t 116)⟩,
  ⟨some 118, some (108, true), .call (.t 109) [.t 113, .t 117]⟩,
  ⟨some 119, some (108, true), .bin .lss (.t 118) (.c (.int .i64 0))⟩,
  ⟨some 120, none, .pick (.t 108) (.t 119) (.c (.bool false))⟩]
def c165_a16 : List (List Nat) := [[], [], [0, 1], [2], [3], [3], [3], [5, 6, 3], [7, 3], [3], [3], [9, 10, 3], [11, 3], [4, 8, 12, 3, 3], [13, 3], [3, 14]]
abbrev c165_m16 : List Am.Mark := [⟨false, 0, 1⟩, ⟨false, 0, 1⟩, ⟨false, 0, 1⟩, ⟨false, 0, 0⟩, ⟨false, 0, 0⟩, ⟨false, 0, 1⟩, ⟨false, 0, 1⟩, ⟨false, 0, 1⟩, ⟨false, 0, 0⟩, ⟨false, 0, 1⟩, ⟨false, 0, 1⟩, ⟨false, 0, 1⟩, ⟨false, 0, 0⟩, ⟨true, 0, 1⟩, ⟨false, 1, 1⟩, ⟨false, 1, 1⟩]
theorem c165_d16 : drawFine c165_r16 c165_a16 c165_m16 = true := by decide +kernel
abbrev c165_r17 : List Ins := [
  ⟨some 121, none, .mov (.t 12)⟩,
  ⟨some 122, none, .bin .add (.t 121) (.c (.int .i64 1))⟩,
  ⟨some 12, none, .mov (.t 122)⟩]
abbrev c165_l18 : IR := .seq (.seq (.dreg c165_r16 c165_a16) (.cond (.t 120) (.skip) (.exit 6))) (.blk 7 (.reg c165_r17))
abbrev c165_r19 : List Ins := [
  ⟨some 123, none, .mov (.t 12)⟩,
  ⟨some 124, none, .mov (.t 13)⟩,
  ⟨some 125, none, .bin .leq (.t 123) (.t 124)⟩,
  ⟨some 126, none, .mov (.t 125)⟩,
  ⟨some 127, some (126, true), .mov (.t 4)⟩,
  ⟨some 128, some (126, true), .mov (.t 0)⟩,
  ⟨some 129, some (126, true), .mov (.t 13)⟩,
  ⟨some 130, some (126, true), .iaddr 2 (.t 128) (.t 129)⟩,
  ⟨some 131, some (126, true), .load 2 true (.t 130)⟩,
  ⟨some 132, some (126, true), .mov (.t 0)⟩,
  ⟨some 133, some (126, true), .mov (.t 1)⟩,
  ⟨some 134, some (126, true), .iaddr 2 (.t 132) (.t 133)⟩,
  ⟨some 135, some (126, true), .load 2 true (.t 134)⟩,
  ⟨some 136, some (126, true), .call (.t 127) [.t 131, .t 135]⟩,
  ⟨some 137, some (126, true), .bin .lss (.t 136) (.c (.int .i64 0))⟩,
  ⟨some 138, some (126, true), .un .not (.t 137)⟩,
  ⟨some 139, none, .pick (.t 126) (.t 138) (.c (.bool false))⟩]
def c165_a19 : List (List Nat) := [[], [], [0, 1], [2], [3], [3], [3], [5, 6, 3], [7, 3], [3], [3], [9, 10, 3], [11, 3], [4, 8, 12, 3, 3], [13, 3], [14, 3], [3, 15]]
abbrev c165_m19 : List Am.Mark := [⟨false, 0, 1⟩, ⟨false, 0, 1⟩, ⟨false, 0, 1⟩, ⟨false, 0, 0⟩, ⟨false, 0, 0⟩, ⟨false, 0, 1⟩, ⟨false, 0, 1⟩, ⟨false, 0, 1⟩, ⟨false, 0, 0⟩, ⟨false, 0, 1⟩, ⟨false, 0, 1⟩, ⟨false, 0, 1⟩, ⟨false, 0, 0⟩, ⟨true, 0, 1⟩, ⟨false, 1, 1⟩, ⟨false, 1, 1⟩, ⟨false, 1, 1⟩]
theorem c165_d19 : drawFine c165_r19 c165_a19 c165_m19 = true := by decide +kernel
abbrev c165_r20 : List Ins := [
  ⟨some 140, none, .mov (.t 13)⟩,
  ⟨some 141, none, .bin .sub (.t 140) (.c (.int .i64 1))⟩,
  ⟨some 13, none, .mov (.t 141)⟩]
abbrev c165_l21 : IR := .seq (.seq (.dreg c165_r19 c165_a19) (.cond (.t 139) (.skip) (.exit 8))) (.blk 9 (.reg c165_r20))
abbrev c165_r22 : List Ins := [
  ⟨some 142, none, .mov (.t 12)⟩,
  ⟨some 143, none, .mov (.t 13)⟩,
  ⟨some 144, none, .bin .gtr (.t 142) (.t 143)⟩]
abbrev c165_r23 : List Ins := [
  ⟨some 145, none, .mov (.t 0)⟩,
  ⟨some 146, none, .mov (.t 12)⟩,
  ⟨some 147, none, .mov (.t 0)⟩,
  ⟨some 148, none, .mov (.t 13)⟩,
  ⟨some 149, none, .mov (.t 0)⟩,
  ⟨some 150, none, .mov (.t 13)⟩,
  ⟨some 151, none, .iaddr 2 (.t 149) (.t 150)⟩,
  ⟨some 152, none, .load 2 true (.t 151)⟩,
  ⟨some 153, none, .mov (.t 0)⟩,
  ⟨some 154, none, .mov (.t 12)⟩,
  ⟨some 155, none, .iaddr 2 (.t 153) (.t 154)⟩,
  ⟨some 156, none, .load 2 true (.t 155)⟩,
  ⟨some 157, none, .iaddr 2 (.t 145) (.t 146)⟩,
  ⟨none, none, .store 2 (.t 157) (.t 152)⟩,
  ⟨some 158, none, .iaddr 2 (.t 147) (.t 148)⟩,
  ⟨none, none, .store 2 (.t 158) (.t 156)⟩]
def c165_a23 : List (List Nat) := [[], [], [], [], [], [], [4, 5], [6], [], [], [8, 9], [10], [0, 1, 0, 1, 4, 5, 6, 7, 11], [12, 7, 0, 1, 4, 5, 6, 7, 11], [2, 3, 0, 1, 2, 3, 4, 5, 6, 7, 8, 9, 10, 11, 12, 13], [14, 11, 13, 0, 1, 2, 3, 4, 5, 6, 7, 8, 9, 10, 11, 12, 13]]
abbrev c165_m23 : List Am.Mark := [⟨false, 0, 0⟩, ⟨false, 0, 0⟩, ⟨false, 0, 1⟩, ⟨false, 0, 1⟩, ⟨false, 0, 0⟩, ⟨false, 0, 0⟩, ⟨false, 0, 0⟩, ⟨false, 0, 0⟩, ⟨false, 0, 1⟩, ⟨false, 0, 1⟩, ⟨false, 0, 1⟩, ⟨false, 0, 0⟩, ⟨false, 0, 0⟩, ⟨true, 0, 1⟩, ⟨false, 1, 1⟩, ⟨true, 1, 2⟩]
theorem c165_d23 : drawFine c165_r23 c165_a23 c165_m23 = true := by decide +kernel
abbrev c165_r24 : List Ins := [
  ⟨some 159, none, .mov (.t 12)⟩,
  ⟨some 160, none, .bin .add (.t 159) (.c (.int .i64 1))⟩,
  ⟨some 12, none, .mov (.t 160)⟩]
abbrev c165_r25 : List Ins := [
  ⟨some 161, none, .mov (.t 13)⟩,
  ⟨some 162, none, .bin .sub (.t 161) (.c (.int .i64 1))⟩,
  ⟨some 13, none, .mov (.t 162)⟩]
abbrev c165_l26 : IR := .blk 5 (.seq (.blk 6 (.loop c165_l18)) (.seq (.blk 8 (.loop c165_l21)) (.seq (.seq (.reg c165_r22) (.cond (.t 144) (.exit 4) (.skip))) (.seq (.dreg c165_r23 c165_a23) (.seq (.reg c165_r24) (.reg c165_r25))))))
abbrev c165_r27 : List Ins := [
  ⟨some 163, none, .mov (.t 0)⟩,
  ⟨some 164, none, .mov (.t 13)⟩,
  ⟨some 165, none, .mov (.t 0)⟩,
  ⟨some 166, none, .mov (.t 1)⟩,
  ⟨some 167, none, .mov (.t 0)⟩,
  ⟨some 168, none, .mov (.t 1)⟩,
  ⟨some 169, none, .iaddr 2 (.t 167) (.t 168)⟩,
  ⟨some 170, none, .load 2 true (.t 169)⟩,
  ⟨some 171, none, .mov (.t 0)⟩,
  ⟨some 172, none, .mov (.t 13)⟩,
  ⟨some 173, none, .iaddr 2 (.t 171) (.t 172)⟩,
  ⟨some 174, none, .load 2 true (.t 173)⟩,
  ⟨some 175, none, .iaddr 2 (.t 163) (.t 164)⟩,
  ⟨none, none, .store 2 (.t 175) (.t 170)⟩,
  ⟨some 176, none, .iaddr 2 (.t 165) (.t 166)⟩,
  ⟨none, none, .store 2 (.t 176) (.t 174)⟩]
def c165_a27 : List (List Nat) := [[], [], [], [], [], [], [4, 5], [6], [], [], [8, 9], [10], [0, 1, 0, 1, 4, 5, 6, 7, 11], [12, 7, 0, 1, 4, 5, 6, 7, 11], [2, 3, 0, 1, 2, 3, 4, 5, 6, 7, 8, 9, 10, 11, 12, 13], [14, 11, 13, 0, 1, 2, 3, 4, 5, 6, 7, 8, 9, 10, 11, 12, 13]]
abbrev c165_m27 : List Am.Mark := [⟨false, 0, 0⟩, ⟨false, 0, 0⟩, ⟨false, 0, 1⟩, ⟨false, 0, 1⟩, ⟨false, 0, 0⟩, ⟨false, 0, 0⟩, ⟨false, 0, 0⟩, ⟨false, 0, 0⟩, ⟨false, 0, 1⟩, ⟨false, 0, 1⟩, ⟨false, 0, 1⟩, ⟨false, 0, 0⟩, ⟨false, 0, 0⟩, ⟨true, 0, 1⟩, ⟨false, 1, 1⟩, ⟨true, 1, 2⟩]
theorem c165_d27 : drawFine c165_r27 c165_a27 c165_m27 = true := by decide +kernel
abbrev c165_r28 : List Ins := [
  ⟨some 177, none, .mov (.t 13)⟩,
  ⟨some 10, none, .mov (.t 177)⟩,
  ⟨some 11, none, .mov (.c (.bool false))⟩]
abbrev c165 : IR := .seq (.reg c165_r1) (.seq (.dreg c165_r2 c165_a2) (.seq (.reg c165_r3) (.seq (.blk 0 (.loop c165_l6)) (.seq (.blk 2 (.loop c165_l9)) (.seq (.seq (.reg c165_r10) (.cond (.t 71) (.seq (.dreg c165_r11 c165_a11) (.seq (.reg c165_r12) (.ret))) (.skip))) (.seq (.dreg c165_r13 c165_a13) (.seq (.reg c165_r14) (.seq (.reg c165_r15) (.seq (.blk 4 (.loop c165_l26)) (.seq (.dreg c165_r27 c165_a27) (.seq (.reg c165_r28) (.ret))))))))))))
abbrev F165 : FnA := ⟨178, c165, [.t 10, .t 11]⟩
theorem ok165 : cFn Try.prog 165 = some F165 := by kernel_rfl
theorem hb165 : HasBody Try.prog 165 := ⟨_, Try.func165, by kernel_rfl, by kernel_rfl⟩
/-! math/bits.Len32 -/
abbrev c166_r1 : List Ins := [
  ⟨some 2, none, .mov (.c (.int .i64 0))⟩]
abbrev c166_r2 : List Ins := [
  ⟨some 3, none, .mov (.t 0)⟩,
  ⟨some 4, none, .bin .geq (.t 3) (.c (.int .u32 65536))⟩]
abbrev c166_r3 : List Ins := [
  ⟨some 5, none, .mov (.t 0)⟩,
  ⟨some 6, none, .bin .shr (.t 5) (.c (.int .u64 16))⟩,
  ⟨some 0, none, .mov (.t 6)⟩]
abbrev c166_r4 : List Ins := [
  ⟨some 2, none, .mov (.c (.int .i64 16))⟩]
abbrev c166_r5 : List Ins := [
  ⟨some 7, none, .mov (.t 0)⟩,
  ⟨some 8, none, .bin .geq (.t 7) (.c (.int .u32 256))⟩]
abbrev c166_r6 : List Ins := [
  ⟨some 9, none, .mov (.t 0)⟩,
  ⟨some 10, none, .bin .shr (.t 9) (.c (.int .u64 8))⟩,
  ⟨some 0, none, .mov (.t 10)⟩]
abbrev c166_r7 : List Ins := [
  ⟨some 11, none, .mov (.t 2)⟩,
  ⟨some 12, none, .bin .add (.t 11) (.c (.int .i64 8))⟩,
  ⟨some 2, none, .mov (.t 12)⟩]
abbrev c166_r8 : List Ins := [
  ⟨some 13, none, .mov (.t 2)⟩,
  ⟨some 14, none, .mov (.t 0)⟩,
  ⟨some 15, none, .conv .u8 (.t 14)⟩,
  ⟨some 16, none, .idxS (.c (.str ⟨#[0, 1, 2, 2, 3, 3, 3, 3, 4, 4, 4, 4, 4, 4, 4, 4, 5, 5, 5, 5, 5, 5, 5, 5, 5, 5, 5, 5, 5, 5, 5, 5, 6, 6, 6, 6, 6, 6, 6, 6, 6, 6, 6, 6, 6, 6, 6, 6, 6, 6, 6, 6, 6, 6, 6, 6, 6, 6, 6, 6, 6, 6, 6, 6, 7, 7, 7, 7, 7, 7, 7, 7, 7, 7, 7, 7, 7, 7, 7, 7, 7, 7, 7, 7, 7, 7, 7, 7, 7, 7, 7, 7, 7, 7, 7, 7, 7, 7, 7, 7, 7, 7, 7, 7, 7, 7, 7, 7, 7, 7, 7, 7, 7, 7, 7, 7, 7, 7, 7, 7, 7, 7, 7, 7, 7, 7, 7, 7, 8, 8, 8, 8, 8, 8, 8, 8, 8, 8, 8, 8, 8, 8, 8, 8, 8, 8, 8, 8, 8, 8, 8, 8, 8, 8, 8, 8, 8, 8, 8, 8, 8, 8, 8, 8, 8, 8, 8, 8, 8, 8, 8, 8, 8, 8, 8, 8, 8, 8, 8, 8, 8, 8, 8, 8, 8, 8, 8, 8, 8, 8, 8, 8, 8, 8, 8, 8, 8, 8, 8, 8, 8, 8, 8, 8, 8, 8, 8, 8, 8, 8, 8, 8, 8, 8, 8, 8, 8, 8, 8, 8, 8, 8, 8, 8, 8, 8, 8, 8, 8, 8, 8, 8, 8, 8, 8, 8, 8, 8, 8, 8, 8, 8, 8, 8, 8, 8, 8, 8, 8, 8, 8, 8, 8, 8, 8, 8]⟩)) (.t 15)⟩,
  ⟨some 17, none, .conv .i64 (.t 16)⟩,
  ⟨some 18, none, .bin .add (.t 13) (.t 17)⟩,
  ⟨some 2, none, .mov (.t 18)⟩]
abbrev c166 : IR := .seq (.reg c166_r1) (.seq (.seq (.reg c166_r2) (.cond (.t 4) (.seq (.reg c166_r3) (.reg c166_r4)) (.skip))) (.seq (.seq (.reg c166_r5) (.cond (.t 8) (.seq (.reg c166_r6) (.reg c166_r7)) (.skip))) (.seq (.reg c166_r8) (.ret))))
abbrev F166 : FnA := ⟨19, c166, [.t 2]⟩
theorem ok166 : cFn Try.prog 166 = some F166 := by kernel_rfl
theorem hb166 : HasBody Try.prog 166 := ⟨_, Try.func166, by kernel_rfl, by kernel_rfl⟩
/-! math/bits.Len64 -/
abbrev c167_r1 : List Ins := [
  ⟨some 2, none, .mov (.c (.int .i64 0))⟩]
abbrev c167_r2 : List Ins := [
  ⟨some 3, none, .mov (.t 0)⟩,
  ⟨some 4, none, .bin .geq (.t 3) (.c (.int .u64 4294967296))⟩]
abbrev c167_r3 : List Ins := [
  ⟨some 5, none, .mov (.t 0)⟩,
  ⟨some 6, none, .bin .shr (.t 5) (.c (.int .u64 32))⟩,
  ⟨some 0, none, .mov (.t 6)⟩]
abbrev c167_r4 : List Ins := [
  ⟨some 2, none, .mov (.c (.int .i64 32))⟩]
abbrev c167_r5 : List Ins := [
  ⟨some 7, none, .mov (.t 0)⟩,
  ⟨some 8, none, .bin .geq (.t 7) (.c (.int .u64 65536))⟩]
abbrev c167_r6 : List Ins := [
  ⟨some 9, none, .mov (.t 0)⟩,
  ⟨some 10, none, .bin .shr (.t 9) (.c (.int .u64 16))⟩,
  ⟨some 0, none, .mov (.t 10)⟩]
abbrev c167_r7 : List Ins := [
  ⟨some 11, none, .mov (.t 2)⟩,
  ⟨some 12, none, .bin .add (.t 11) (.c (.int .i64 16))⟩,
  ⟨some 2, none, .mov (.t 12)⟩]
abbrev c167_r8 : List Ins := [
  ⟨some 13, none, .mov (.t 0)⟩,
  ⟨some 14, none, .bin .geq (.t 13) (.c (.int .u64 256))⟩]
abbrev c167_r9 : List Ins := [
  ⟨some 15, none, .mov (.t 0)⟩,
  ⟨some 16, none, .bin .shr (.t 15) (.c (.int .u64 8))⟩,
  ⟨some 0, none, .mov (.t 16)⟩]
abbrev c167_r10 : List Ins := [
  ⟨some 17, none, .mov (.t 2)⟩,
  ⟨some 18, none, .bin .add (.t 17) (.c (.int .i64 8))⟩,
  ⟨some 2, none, .mov (.t 18)⟩]
abbrev c167_r11 : List Ins := [
  ⟨some 19, none, .mov (.t 2)⟩,
  ⟨some 20, none, .mov (.t 0)⟩,
  ⟨some 21, none, .conv .u8 (.t 20)⟩,
  ⟨some 22, none, .idxS (.c (.str ⟨#[0, 1, 2, 2, 3, 3, 3, 3, 4, 4, 4, 4, 4, 4, 4, 4, 5, 5, 5, 5, 5, 5, 5, 5, 5, 5, 5, 5, 5, 5, 5, 5, 6, 6, 6, 6, 6, 6, 6, 6, 6, 6, 6, 6, 6, 6, 6, 6, 6, 6, 6, 6, 6, 6, 6, 6, 6, 6, 6, 6, 6, 6, 6, 6, 7, 7, 7, 7, 7, 7, 7, 7, 7, 7, 7, 7, 7, 7, 7, 7, 7, 7, 7, 7, 7, 7, 7, 7, 7, 7, 7, 7, 7, 7, 7, 7, 7, 7, 7, 7, 7, 7, 7, 7, 7, 7, 7, 7, 7, 7, 7, 7, 7, 7, 7, 7, 7, 7, 7, 7, 7, 7, 7, 7, 7, 7, 7, 7, 8, 8, 8, 8, 8, 8, 8, 8, 8, 8, 8, 8, 8, 8, 8, 8, 8, 8, 8, 8, 8, 8, 8, 8, 8, 8, 8, 8, 8, 8, 8, 8, 8, 8, 8, 8, 8, 8, 8, 8, 8, 8, 8, 8, 8, 8, 8, 8, 8, 8, 8, 8, 8, 8, 8, 8, 8, 8, 8, 8, 8, 8, 8, 8, 8, 8, 8, 8, 8, 8, 8, 8, 8, 8, 8, 8, 8, 8, 8, 8, 8, 8, 8, 8, 8, 8, 8, 8, 8, 8, 8, 8, 8, 8, 8, 8, 8, 8, 8, 8, 8, 8, 8, 8, 8, 8, 8, 8, 8, 8, 8, 8, 8, 8, 8, 8, 8, 8, 8, 8, 8, 8, 8, 8, 8, 8, 8, 8]⟩)) (.t 21)⟩,
  ⟨some 23, none, .conv .i64 (.t 22)⟩,
  ⟨some 24, none, .bin .add (.t 19) (.t 23)⟩,
  ⟨some 2, none, .mov (.t 24)⟩]
abbrev c167 : IR := .seq (.reg c167_r1) (.seq (.seq (.reg c167_r2) (.cond (.t 4) (.seq (.reg c167_r3) (.reg c167_r4)) (.skip))) (.seq (.seq (.reg c167_r5) (.cond (.t 8) (.seq (.reg c167_r6) (.reg c167_r7)) (.skip))) (.seq (.seq (.reg c167_r8) (.cond (.t 14) (.seq (.reg c167_r9) (.reg c167_r10)) (.skip))) (.seq (.reg c167_r11) (.ret)))))
abbrev F167 : FnA := ⟨25, c167, [.t 2]⟩
theorem ok167 : cFn Try.prog 167 = some F167 := by kernel_rfl
theorem hb167 : HasBody Try.prog 167 := ⟨_, Try.func167, by kernel_rfl, by kernel_rfl⟩
/-! slices.siftDownCmpFunc:Span -/
abbrev c168_r1 : List Ins := [
  ⟨some 12, none, .mov (.t 1)⟩,
  ⟨some 10, none, .mov (.t 12)⟩]
abbrev c168_r2 : List Ins := [
  ⟨some 13, none, .mov (.t 10)⟩,
  ⟨some 14, none, .bin .mul (.c (.int .i64 2)) (.t 13)⟩,
  ⟨some 15, none, .bin .add (.t 14) (.c (.int .i64 1))⟩,
  ⟨some 11, none, .mov (.t 15)⟩]
abbrev c168_r3 : List Ins := [
  ⟨some 16, none, .mov (.t 11)⟩,
  ⟨some 17, none, .mov (.t 2)⟩,
  ⟨some 18, none, .bin .geq (.t 16) (.t 17)⟩]
abbrev c168_r4 : List Ins := [
  ⟨some 19, none, .mov (.t 11)⟩,
  ⟨some 20, none, .bin .add (.t 19) (.c (.int .i64 1))⟩,
  ⟨some 21, none, .mov (.t 2)⟩,
  ⟨some 22, none, .bin .lss (.t 20) (.t 21)⟩,
  ⟨some 23, none, .mov (.t 22)⟩,
  ⟨some 24, some (23, true), .mov (.t 4)⟩,
  ⟨some 25, some (23, true), .mov (.t 0)⟩,
  ⟨some 26, some (23, true), .mov (.t 3)⟩,
  ⟨some 27, some (23, true), .mov (.t 11)⟩,
  ⟨some 28, some (23, true), .bin .add (.t 26) (.t 27)⟩,
  ⟨some 29, some (23, true), .iaddr 2 (.t 25) (.t 28)⟩,
  ⟨some 30, some (23, true), .load 2 true (.t 29)⟩,
  ⟨some 31, some (23, true), .mov (.t 0)⟩,
  ⟨some 32, some (23, true), .mov (.t 3)⟩,
  ⟨some 33, some (23, true), .mov (.t 11)⟩,
  ⟨some 34, some (23, true), .bin .add (.t 32) (.t 33)⟩,
  ⟨some 35, some (23, true), .bin .add (.t 34) (.c (.int .i64 1))⟩,
  ⟨some 36, some (23, true), .iaddr 2 (.t 31) (.t 35)⟩,
  ⟨some 37, some (23, true), .load 2 true (.t 36)⟩,
  ⟨some 38, some (23, true), .call (.t 24) [.t 30, .t 37]⟩,
  ⟨some 39, some (23, true), .bin .lss (.t 38) (.c (.int .i64 0))⟩,
  ⟨some 40, none, .pick (.t 23) (.t 39) (.c (.bool false))⟩]
def c168_a4 : List (List Nat) := [[], [0], [], [1, 2], [3], [4], [4], [4], [4], [7, 8, 4], [6, 9, 4], [10, 4], [4], [4], [4], [13, 14, 4], [15, 4], [12, 16, 4], [17, 4], [5, 11, 18, 4, 4], [19, 4], [4, 20]]
abbrev c168_m4 : List Am.Mark := [⟨false, 0, 1⟩, ⟨false, 0, 1⟩, ⟨false, 0, 1⟩, ⟨false, 0, 1⟩, ⟨false, 0, 0⟩, ⟨false, 0, 0⟩, ⟨false, 0, 1⟩, ⟨false, 0, 1⟩, ⟨false, 0, 1⟩, ⟨false, 0, 1⟩, ⟨false, 0, 1⟩, ⟨false, 0, 0⟩, ⟨false, 0, 1⟩, ⟨false, 0, 1⟩, ⟨false, 0, 1⟩, ⟨false, 0, 1⟩, ⟨false, 0, 1⟩, ⟨false, 0, 1⟩, ⟨false, 0, 0⟩, ⟨true, 0, 1⟩, ⟨false, 1, 1⟩, ⟨false, 1, 1⟩]
theorem c168_d4 : drawFine c168_r4 c168_a4 c168_m4 = true := by decide +kernel
abbrev c168_r5 : List Ins := [
  ⟨some 41, none, .mov (.t 11)⟩,
  ⟨some 42, none, .bin .add (.t 41) (.c (.int .i64 1))⟩,
  ⟨some 11, none, .mov (.t 42)⟩]
abbrev c168_r6 : List Ins := [
  ⟨some 43, none, .mov (.t 4)⟩,
  ⟨some 44, none, .mov (.t 0)⟩,
  ⟨some 45, none, .mov (.t 3)⟩,
  ⟨some 46, none, .mov (.t 10)⟩,
  ⟨some 47, none, .bin .add (.t 45) (.t 46)⟩,
  ⟨some 48, none, .iaddr 2 (.t 44) (.t 47)⟩,
  ⟨some 49, none, .load 2 true (.t 48)⟩,
  ⟨some 50, none, .mov (.t 0)⟩,
  ⟨some 51, none, .mov (.t 3)⟩,
  ⟨some 52, none, .mov (.t 11)⟩,
  ⟨some 53, none, .bin .add (.t 51) (.t 52)⟩,
  ⟨some 54, none, .iaddr 2 (.t 50) (.t 53)⟩,
  ⟨some 55, none, .load 2 true (.t 54)⟩,
  ⟨some 56, none, .call (.t 43) [.t 49, .t 55]⟩,
  ⟨some 57, none, .bin .lss (.t 56) (.c (.int .i64 0))⟩,
  ⟨some 58, none, .un .not (.t 57)⟩]
def c168_a6 : List (List Nat) := [[], [], [], [], [2, 3], [1, 4], [5], [], [], [], [8, 9], [7, 10], [11], [0, 6, 12], [13], [14]]
abbrev c168_m6 : List Am.Mark := [⟨false, 0, 0⟩, ⟨false, 0, 1⟩, ⟨false, 0, 1⟩, ⟨false, 0, 1⟩, ⟨false, 0, 1⟩, ⟨false, 0, 1⟩, ⟨false, 0, 0⟩, ⟨false, 0, 1⟩, ⟨false, 0, 1⟩, ⟨false, 0, 1⟩, ⟨false, 0, 1⟩, ⟨false, 0, 1⟩, ⟨false, 0, 0⟩, ⟨true, 0, 1⟩, ⟨false, 1, 1⟩, ⟨false, 1, 1⟩]
theorem c168_d6 : drawFine c168_r6 c168_a6 c168_m6 = true := by decide +kernel
abbrev c168_r7 : List Ins := [
  ⟨some 59, none, .mov (.t 0)⟩,
  ⟨some 60, none, .mov (.t 3)⟩,
  ⟨some 61, none, .mov (.t 10)⟩,
  ⟨some 62, none, .bin .add (.t 60) (.t 61)⟩,
  ⟨some 63, none, .mov (.t 0)⟩,
  ⟨some 64, none, .mov (.t 3)⟩,
  ⟨some 65, none, .mov (.t 11)⟩,
  ⟨some 66, none, .bin .add (.t 64) (.t 65)⟩,
  ⟨some 67, none, .mov (.t 0)⟩,
  ⟨some 68, none, .mov (.t 3)⟩,
  ⟨some 69, none, .mov (.t 11)⟩,
  ⟨some 70, none, .bin .add (.t 68) (.t 69)⟩,
  ⟨some 71, none, .iaddr 2 (.t 67) (.t 70)⟩,
  ⟨some 72, none, .load 2 true (.t 71)⟩,
  ⟨some 73, none, .mov (.t 0)⟩,
  ⟨some 74, none, .mov (.t 3)⟩,
  ⟨some 75, none, .mov (.t 10)⟩,
  ⟨some 76, none, .bin .add (.t 74) (.t 75)⟩,
  ⟨some 77, none, .iaddr 2 (.t 73) (.t 76)⟩,
  ⟨some 78, none, .load 2 true (.t 77)⟩,
  ⟨some 79, none, .iaddr 2 (.t 59) (.t 62)⟩,
  ⟨none, none, .store 2 (.t 79) (.t 72)⟩,
  ⟨some 80, none, .iaddr 2 (.t 63) (.t 66)⟩,
  ⟨none, none, .store 2 (.t 80) (.t 78)⟩]
def c168_a7 : List (List Nat) := [[], [], [], [1, 2], [], [], [], [5, 6], [], [], [], [9, 10], [8, 11], [12], [], [], [], [15, 16], [14, 17], [18], [0, 3, 0, 1, 2, 3, 8, 9, 10, 11, 12, 13, 19], [20, 13, 0, 1, 2, 3, 8, 9, 10, 11, 12, 13, 19], [4, 7, 0, 1, 2, 3, 4, 5, 6, 7, 8, 9, 10, 11, 12, 13, 14, 15, 16, 17, 18, 19, 20, 21], [22, 19, 21, 0, 1, 2, 3, 4, 5, 6, 7, 8, 9, 10, 11, 12, 13, 14, 15, 16, 17, 18, 19, 20, 21]]
abbrev c168_m7 : List Am.Mark := [⟨false, 0, 0⟩, ⟨false, 0, 0⟩, ⟨false, 0, 0⟩, ⟨false, 0, 0⟩, ⟨false, 0, 1⟩, ⟨false, 0, 1⟩, ⟨false, 0, 1⟩, ⟨false, 0, 1⟩, ⟨false, 0, 0⟩, ⟨false, 0, 0⟩, ⟨false, 0, 0⟩, ⟨false, 0, 0⟩, ⟨false, 0, 0⟩, ⟨false, 0, 0⟩, ⟨false, 0, 1⟩, ⟨false, 0, 1⟩, ⟨false, 0, 1⟩, ⟨false, 0, 1⟩, ⟨false, 0, 1⟩, ⟨false, 0, 0⟩, ⟨false, 0, 0⟩, ⟨true, 0, 1⟩, ⟨false, 1, 1⟩, ⟨true, 1, 2⟩]
theorem c168_d7 : drawFine c168_r7 c168_a7 c168_m7 = true := by decide +kernel
abbrev c168_r8 : List Ins := [
  ⟨some 81, none, .mov (.t 11)⟩,
  ⟨some 10, none, .mov (.t 81)⟩]
abbrev c168_l9 : IR := .blk 1 (.seq (.reg c168_r2) (.seq (.seq (.reg c168_r3) (.cond (.t 18) (.exit 0) (.skip))) (.seq (.seq (.dreg c168_r4 c168_a4) (.cond (.t 40) (.reg c168_r5) (.skip))) (.seq (.seq (.dreg c168_r6 c168_a6) (.cond (.t 58) (.ret) (.skip))) (.seq (.dreg c168_r7 c168_a7) (.reg c168_r8))))))
abbrev c168 : IR := .seq (.reg c168_r1) (.blk 0 (.loop c168_l9))
abbrev F168 : FnA := ⟨82, c168, []⟩
theorem ok168 : cFn Try.prog 168 = some F168 := by kernel_rfl
theorem hb168 : HasBody Try.prog 168 := ⟨_, Try.func168, by kernel_rfl, by kernel_rfl⟩
/-! slices.nextPowerOfTwo -/
abbrev c169_r1 : List Ins := [
  ⟨some 2, none, .mov (.c (.int .u64 0))⟩]
abbrev c169_r2 : List Ins := [
  ⟨some 3, none, .mov (.t 0)⟩,
  ⟨some 4, none, .conv .u64 (.t 3)⟩,
  ⟨some 5, none, .call (.c (.fn 156 [] [])) [.t 4]⟩,
  ⟨some 6, none, .bin .shl (.c (.int .u64 1)) (.t 5)⟩,
  ⟨some 2, none, .mov (.t 6)⟩]
abbrev c169 : IR := .seq (.reg c169_r1) (.seq (.reg c169_r2) (.ret))
abbrev F169 : FnA := ⟨7, c169, [.t 2]⟩
theorem ok169 : cFn Try.prog 169 = some F169 := by kernel_rfl
theorem hb169 : HasBody Try.prog 169 := ⟨_, Try.func169, by kernel_rfl, by kernel_rfl⟩
/-! slices.xorshift.Next -/
abbrev c170_r1 : List Ins := [
  ⟨some 2, none, .mov (.c (.int .u64 0))⟩]
abbrev c170_r2 : List Ins := [
  ⟨some 3, none, .mov (.t 0)⟩,
  ⟨some 4, none, .nilck (.t 3)⟩,
  ⟨some 5, none, .load 1 false (.t 4)⟩,
  ⟨some 6, none, .mov (.t 0)⟩,
  ⟨some 7, none, .nilck (.t 6)⟩,
  ⟨some 8, none, .load 1 false (.t 7)⟩,
  ⟨some 9, none, .bin .shl (.t 8) (.c (.int .u64 13))⟩,
  ⟨some 10, none, .bin .xor (.t 5) (.t 9)⟩,
  ⟨some 11, none, .nilck (.t 3)⟩,
  ⟨none, none, .store 1 (.t 11) (.t 10)⟩]
def c170_a2 : List (List Nat) := [[], [0], [1], [], [3], [4], [5], [2, 6], [0, 0, 1, 2, 3, 4, 5, 6, 7], [8, 7, 0, 1, 2, 3, 4, 5, 6, 7]]
abbrev c170_m2 : List Am.Mark := [⟨false, 0, 0⟩, ⟨false, 0, 0⟩, ⟨false, 0, 0⟩, ⟨false, 0, 0⟩, ⟨false, 0, 0⟩, ⟨false, 0, 0⟩, ⟨false, 0, 0⟩, ⟨false, 0, 0⟩, ⟨false, 0, 0⟩, ⟨true, 0, 1⟩]
theorem c170_d2 : drawFine c170_r2 c170_a2 c170_m2 = true := by decide +kernel
abbrev c170_r3 : List Ins := [
  ⟨some 12, none, .mov (.t 0)⟩,
  ⟨some 13, none, .nilck (.t 12)⟩,
  ⟨some 14, none, .load 1 false (.t 13)⟩,
  ⟨some 15, none, .mov (.t 0)⟩,
  ⟨some 16, none, .nilck (.t 15)⟩,
  ⟨some 17, none, .load 1 false (.t 16)⟩,
  ⟨some 18, none, .bin .shr (.t 17) (.c (.int .u64 7))⟩,
  ⟨some 19, none, .bin .xor (.t 14) (.t 18)⟩,
  ⟨some 20, none, .nilck (.t 12)⟩,
  ⟨none, none, .store 1 (.t 20) (.t 19)⟩]
def c170_a3 : List (List Nat) := [[], [0], [1], [], [3], [4], [5], [2, 6], [0, 0, 1, 2, 3, 4, 5, 6, 7], [8, 7, 0, 1, 2, 3, 4, 5, 6, 7]]
abbrev c170_m3 : List Am.Mark := [⟨false, 0, 0⟩, ⟨false, 0, 0⟩, ⟨false, 0, 0⟩, ⟨false, 0, 0⟩, ⟨false, 0, 0⟩, ⟨false, 0, 0⟩, ⟨false, 0, 0⟩, ⟨false, 0, 0⟩, ⟨false, 0, 0⟩, ⟨true, 0, 1⟩]
theorem c170_d3 : drawFine c170_r3 c170_a3 c170_m3 = true := by decide +kernel
abbrev c170_r4 : List Ins := [
  ⟨some 21, none, .mov (.t 0)⟩,
  ⟨some 22, none, .nilck (.t 21)⟩,
  ⟨some 23, none, .load 1 false (.t 22)⟩,
  ⟨some 24, none, .mov (.t 0)⟩,
  ⟨some 25, none, .nilck (.t 24)⟩,
  ⟨some 26, none, .load 1 false (.t 25)⟩,
  ⟨some 27, none, .bin .shl (.t 26) (.c (.int .u64 17))⟩,
  ⟨some 28, none, .bin .xor (.t 23) (.t 27)⟩,
  ⟨some 29, none, .nilck (.t 21)⟩,
  ⟨none, none, .store 1 (.t 29) (.t 28)⟩]
def c170_a4 : List (List Nat) := [[], [0], [1], [], [3], [4], [5], [2, 6], [0, 0, 1, 2, 3, 4, 5, 6, 7], [8, 7, 0, 1, 2, 3, 4, 5, 6, 7]]
abbrev c170_m4 : List Am.Mark := [⟨false, 0, 0⟩, ⟨false, 0, 0⟩, ⟨false, 0, 0⟩, ⟨false, 0, 0⟩, ⟨false, 0, 0⟩, ⟨false, 0, 0⟩, ⟨false, 0, 0⟩, ⟨false, 0, 0⟩, ⟨false, 0, 0⟩, ⟨true, 0, 1⟩]
theorem c170_d4 : drawFine c170_r4 c170_a4 c170_m4 = true := by decide +kernel
abbrev c170_r5 : List Ins := [
  ⟨some 30, none, .mov (.t 0)⟩,
  ⟨some 31, none, .nilck (.t 30)⟩,
  ⟨some 32, none, .load 1 false (.t 31)⟩,
  ⟨some 2, none, .mov (.t 32)⟩]
abbrev c170 : IR := .seq (.reg c170_r1) (.seq (.dreg c170_r2 c170_a2) (.seq (.dreg c170_r3 c170_a3) (.seq (.dreg c170_r4 c170_a4) (.seq (.reg c170_r5) (.ret)))))
abbrev F170 : FnA := ⟨33, c170, [.t 2]⟩
theorem ok170 : cFn Try.prog 170 = some F170 := by kernel_rfl
theorem hb170 : HasBody Try.prog 170 := ⟨_, Try.func170, by kernel_rfl, by kernel_rfl⟩
/-! slices.medianAdjacentCmpFunc:Span -/
abbrev c171_r1 : List Ins := [
  ⟨some 8, none, .mov (.c (.int .i64 0))⟩]
abbrev c171_r2 : List Ins := [
  ⟨some 9, none, .mov (.t 0)⟩,
  ⟨some 10, none, .mov (.t 1)⟩,
  ⟨some 11, none, .bin .sub (.t 10) (.c (.int .i64 1))⟩,
  ⟨some 12, none, .mov (.t 1)⟩,
  ⟨some 13, none, .mov (.t 1)⟩,
  ⟨some 14, none, .bin .add (.t 13) (.c (.int .i64 1))⟩,
  ⟨some 15, none, .mov (.t 2)⟩,
  ⟨some 16, none, .mov (.t 3)⟩,
  ⟨some 17, none, .call (.c (.fn 172 [] [])) [.t 9, .t 11, .t 12, .t 14, .t 15, .t 16]⟩,
  ⟨some 8, none, .mov (.t 17)⟩]
abbrev c171 : IR := .seq (.reg c171_r1) (.seq (.reg c171_r2) (.ret))
abbrev F171 : FnA := ⟨18, c171, [.t 8]⟩
theorem ok171 : cFn Try.prog 171 = some F171 := by kernel_rfl
theorem hb171 : HasBody Try.prog 171 := ⟨_, Try.func171, by kernel_rfl, by kernel_rfl⟩
/-! slices.medianCmpFunc:Span -/
abbrev c172_r1 : List Ins := [
  ⟨some 12, none, .mov (.c (.int .i64 0))⟩]
abbrev c172_r2 : List Ins := [
  ⟨some 14, none, .mov (.t 0)⟩,
  ⟨some 15, none, .mov (.t 1)⟩,
  ⟨some 16, none, .mov (.t 2)⟩,
  ⟨some 17, none, .mov (.t 4)⟩,
  ⟨some 18, none, .mov (.t 5)⟩,
  ⟨some 19, none, .call (.c (.fn 173 [] [])) [.t 14, .t 15, .t 16, .t 17, .t 18]⟩,
  ⟨some 13, none, .mov (.t 19)⟩,
  ⟨some 20, none, .ext (.t 13) 0⟩,
  ⟨some 21, none, .ext (.t 13) 1⟩,
  ⟨some 1, none, .mov (.t 20)⟩,
  ⟨some 2, none, .mov (.t 21)⟩]
abbrev c172_r3 : List Ins := [
  ⟨some 23, none, .mov (.t 0)⟩,
  ⟨some 24, none, .mov (.t 2)⟩,
  ⟨some 25, none, .mov (.t 3)⟩,
  ⟨some 26, none, .mov (.t 4)⟩,
  ⟨some 27, none, .mov (.t 5)⟩,
  ⟨some 28, none, .call (.c (.fn 173 [] [])) [.t 23, .t 24, .t 25, .t 26, .t 27]⟩,
  ⟨some 22, none, .mov (.t 28)⟩,
  ⟨some 29, none, .ext (.t 22) 0⟩,
  ⟨some 30, none, .ext (.t 22) 1⟩,
  ⟨some 2, none, .mov (.t 29)⟩,
  ⟨some 3, none, .mov (.t 30)⟩]
abbrev c172_r4 : List Ins := [
  ⟨some 32, none, .mov (.t 0)⟩,
  ⟨some 33, none, .mov (.t 1)⟩,
  ⟨some 34, none, .mov (.t 2)⟩,
  ⟨some 35, none, .mov (.t 4)⟩,
  ⟨some 36, none, .mov (.t 5)⟩,
  ⟨some 37, none, .call (.c (.fn 173 [] [])) [.t 32, .t 33, .t 34, .t 35, .t 36]⟩,
  ⟨some 31, none, .mov (.t 37)⟩,
  ⟨some 38, none, .ext (.t 31) 0⟩,
  ⟨some 39, none, .ext (.t 31) 1⟩,
  ⟨some 1, none, .mov (.t 38)⟩,
  ⟨some 2, none, .mov (.t 39)⟩]
abbrev c172_r5 : List Ins := [
  ⟨some 40, none, .mov (.t 2)⟩,
  ⟨some 12, none, .mov (.t 40)⟩]
abbrev c172 : IR := .seq (.reg c172_r1) (.seq (.reg c172_r2) (.seq (.reg c172_r3) (.seq (.reg c172_r4) (.seq (.reg c172_r5) (.ret)))))
abbrev F172 : FnA := ⟨41, c172, [.t 12]⟩
theorem ok172 : cFn Try.prog 172 = some F172 := by kernel_rfl
theorem hb172 : HasBody Try.prog 172 := ⟨_, Try.func172, by kernel_rfl, by kernel_rfl⟩
/-! slices.order2CmpFunc:Span -/
abbrev c173_r1 : List Ins := [
  ⟨some 10, none, .mov (.c (.int .i64 0))⟩,
  ⟨some 11, none, .mov (.c (.int .i64 0))⟩]
abbrev c173_r2 : List Ins := [
  ⟨some 12, none, .mov (.t 4)⟩,
  ⟨some 13, none, .mov (.t 0)⟩,
  ⟨some 14, none, .mov (.t 2)⟩,
  ⟨some 15, none, .iaddr 2 (.t 13) (.t 14)⟩,
  ⟨some 16, none, .load 2 true (.t 15)⟩,
  ⟨some 17, none, .mov (.t 0)⟩,
  ⟨some 18, none, .mov (.t 1)⟩,
  ⟨some 19, none, .iaddr 2 (.t 17) (.t 18)⟩,
  ⟨some 20, none, .load 2 true (.t 19)⟩,
  ⟨some 21, none, .call (.t 12) [.t 16, .t 20]⟩,
  ⟨some 22, none, .bin .lss (.t 21) (.c (.int .i64 0))⟩]
def c173_a2 : List (List Nat) := [[], [], [], [1, 2], [3], [], [], [5, 6], [7], [0, 4, 8], [9]]
abbrev c173_m2 : List Am.Mark := [⟨false, 0, 0⟩, ⟨false, 0, 1⟩, ⟨false, 0, 1⟩, ⟨false, 0, 1⟩, ⟨false, 0, 0⟩, ⟨false, 0, 1⟩, ⟨false, 0, 1⟩, ⟨false, 0, 1⟩, ⟨false, 0, 0⟩, ⟨true, 0, 1⟩, ⟨false, 1, 1⟩]
theorem c173_d2 : drawFine c173_r2 c173_a2 c173_m2 = true := by decide +kernel
abbrev c173_r3 : List Ins := [
  ⟨some 23, none, .mov (.t 3)⟩,
  ⟨some 24, none, .nilck (.t 23)⟩,
  ⟨some 25, none, .load 1 false (.t 24)⟩,
  ⟨some 26, none, .bin .add (.t 25) (.c (.int .i64 1))⟩,
  ⟨some 27, none, .nilck (.t 23)⟩,
  ⟨none, none, .store 1 (.t 27) (.t 26)⟩]
abbrev c173_r4 : List Ins := [
  ⟨some 28, none, .mov (.t 2)⟩,
  ⟨some 29, none, .mov (.t 1)⟩,
  ⟨some 10, none, .mov (.t 28)⟩,
  ⟨some 11, none, .mov (.t 29)⟩]
abbrev c173_r5 : List Ins := [
  ⟨some 30, none, .mov (.t 1)⟩,
  ⟨some 31, none, .mov (.t 2)⟩,
  ⟨some 10, none, .mov (.t 30)⟩,
  ⟨some 11, none, .mov (.t 31)⟩]
abbrev c173 : IR := .seq (.reg c173_r1) (.seq (.seq (.dreg c173_r2 c173_a2) (.cond (.t 22) (.seq (.reg c173_r3) (.seq (.reg c173_r4) (.ret))) (.skip))) (.seq (.reg c173_r5) (.ret)))
abbrev F173 : FnA := ⟨32, c173, [.t 10, .t 11]⟩
theorem ok173 : cFn Try.prog 173 = some F173 := by kernel_rfl
theorem hb173 : HasBody Try.prog 173 := ⟨_, Try.func173, by kernel_rfl, by kernel_rfl⟩


end Go.Proofs
