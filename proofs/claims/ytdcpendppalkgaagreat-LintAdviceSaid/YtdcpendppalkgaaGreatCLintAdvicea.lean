/- The code of the functions that the statement reaches, as the abstract machine reads it. -/
import Derived.Test.YtdcpendppalkgaaGreatK4
import Derived.Test.YtdcpendppalkgaaGreatProg
namespace Go.Proofs
open Go Go.RowKit Go.Am

/-! law27.LintAdvice -/
abbrev c4_r1 : List Ins := [
  ⟨some 2, none, .box (.t 0)⟩,
  ⟨some 4, none, .mov (.c (.bool false))⟩]
abbrev c4_r2 : List Ins := [
  ⟨some 5, none, .call (.c (.fn 5 [] [])) []⟩,
  ⟨some 6, none, .un .not (.t 5)⟩]
abbrev c4_r3 : List Ins := [
  ⟨some 4, none, .mov (.c (.bool false))⟩]
abbrev c4_r4 : List Ins := [
  ⟨some 7, none, .load 17 true (.t 2)⟩,
  ⟨some 8, none, .mov (.t 1)⟩,
  ⟨some 9, none, .call (.c (.fn 16 [] [])) [.t 7, .t 8]⟩,
  ⟨some 10, none, .mov (.t 9)⟩,
  ⟨some 11, some (10, false), .mov (.t 1)⟩,
  ⟨some 12, some (10, false), .len (.t 11)⟩,
  ⟨some 13, some (10, false), .bin .gtr (.t 12) (.c (.int .i64 16))⟩,
  ⟨some 14, none, .pick (.t 10) (.c (.bool true)) (.t 13)⟩,
  ⟨some 15, none, .mov (.t 14)⟩,
  ⟨some 16, some (15, false), .load 17 true (.t 2)⟩,
  ⟨some 17, some (15, false), .mov (.t 1)⟩,
  ⟨some 18, some (15, false), .call (.c (.fn 17 [] [])) [.t 16, .t 17]⟩,
  ⟨some 19, some (15, false), .un .not (.t 18)⟩,
  ⟨some 20, none, .pick (.t 15) (.c (.bool true)) (.t 19)⟩]
abbrev c4_r5 : List Ins := [
  ⟨some 4, none, .mov (.c (.bool true))⟩]
abbrev c4_r6 : List Ins := [
  ⟨some 21, none, .load 17 true (.t 2)⟩,
  ⟨some 22, none, .call (.c (.fn 8 [] [])) [.t 21]⟩,
  ⟨some 23, none, .mov (.t 1)⟩,
  ⟨some 24, none, .call (.c (.fn 17 [] [])) [.t 22, .t 23]⟩,
  ⟨some 4, none, .mov (.t 24)⟩]
abbrev c4 : IR := .seq (.reg c4_r1) (.seq (.seq (.reg c4_r2) (.cond (.t 6) (.seq (.reg c4_r3) (.ret)) (.skip))) (.seq (.seq (.reg c4_r4) (.cond (.t 20) (.seq (.reg c4_r5) (.ret)) (.skip))) (.seq (.reg c4_r6) (.ret))))
abbrev F4 : FnA := ⟨25, c4, [.t 4]⟩
theorem ok4 : cFn Tryz.prog 4 = some F4 := by kernel_rfl
theorem hb4 : HasBody Tryz.prog 4 := ⟨_, Tryz.func4, by kernel_rfl, by kernel_rfl⟩
/-! law27.alive -/
abbrev c5_r1 : List Ins := [
  ⟨some 0, none, .mov (.c (.bool false))⟩]
abbrev c5_r2 : List Ins := [
  ⟨some 1, none, .mov (.c (.fn 18 [] []))⟩]
abbrev c5_r3 : List Ins := [
  ⟨some 4, none, .mov (.t 1)⟩,
  ⟨some 5, none, .call (.t 4) [.c (.int .i64 0), .c (.int .i64 5)]⟩,
  ⟨some 6, none, .mov (.t 1)⟩,
  ⟨some 7, none, .call (.t 6) [.c (.int .i64 0), .c (.int .i64 7)]⟩,
  ⟨some 8, none, .build [.int .i64 0, .int .i64 0, .int .i64 0, .int .i64 0, .bool false] [(0, (2, .t 5)), (2, (2, .t 7))]⟩,
  ⟨some 9, none, .call (.c (.fn 19 [] [])) [.t 8, .c (.int .i64 1)]⟩,
  ⟨some 2, none, .mov (.t 9)⟩]
abbrev c5_r4 : List Ins := [
  ⟨some 10, none, .mov (.t 1)⟩,
  ⟨some 11, none, .call (.t 10) [.c (.int .i64 0), .c (.int .i64 5)]⟩,
  ⟨some 12, none, .mov (.t 1)⟩,
  ⟨some 13, none, .call (.t 12) [.c (.int .i64 (-1)), .c (.int .i64 7)]⟩,
  ⟨some 14, none, .build [.int .i64 0, .int .i64 0, .int .i64 0, .int .i64 0, .bool false] [(0, (2, .t 11)), (2, (2, .t 13))]⟩,
  ⟨some 15, none, .call (.c (.fn 19 [] [])) [.t 14, .c (.int .i64 1)]⟩,
  ⟨some 3, none, .mov (.t 15)⟩]
abbrev c5_r5 : List Ins := [
  ⟨some 16, none, .mov (.t 2)⟩,
  ⟨some 17, none, .build [.int .i64 0, .int .i64 0] [(0, (1, .c (.int .i64 5))), (1, (1, .c (.int .i64 106)))]⟩,
  ⟨some 18, none, .bsl 2 1 [.int .i64 0, .int .i64 0] [(0, .t 17)]⟩,
  ⟨some 19, none, .call (.c (.fn 20 [] [])) [.t 16, .t 18]⟩,
  ⟨some 20, none, .mov (.t 19)⟩,
  ⟨some 21, some (20, true), .mov (.t 3)⟩,
  ⟨some 22, some (20, true), .build [.int .i64 0, .int .i64 0] [(0, (1, .c (.int .i64 5))), (1, (1, .c (.int .i64 7)))]⟩,
  ⟨some 23, some (20, true), .bsl 2 1 [.int .i64 0, .int .i64 0] [(0, .t 22)]⟩,
  ⟨some 24, some (20, true), .call (.c (.fn 20 [] [])) [.t 21, .t 23]⟩,
  ⟨some 25, none, .pick (.t 20) (.t 24) (.c (.bool false))⟩,
  ⟨some 0, none, .mov (.t 25)⟩]
abbrev c5 : IR := .seq (.reg c5_r1) (.seq (.reg c5_r2) (.seq (.reg c5_r3) (.seq (.reg c5_r4) (.seq (.reg c5_r5) (.ret)))))
abbrev F5 : FnA := ⟨26, c5, [.t 0]⟩
theorem ok5 : cFn Tryz.prog 5 = some F5 := by kernel_rfl
theorem hb5 : HasBody Tryz.prog 5 := ⟨_, Tryz.func5, by kernel_rfl, by kernel_rfl⟩
/-! law12.Great -/
abbrev c6_r1 : List Ins := [
  ⟨some 1, none, .box (.t 0)⟩,
  ⟨some 2, none, .mov (.c (.bool false))⟩]
abbrev c6_r2 : List Ins := [
  ⟨some 3, none, .mov (.c (.int .i64 0))⟩]
abbrev c6_r3 : List Ins := [
  ⟨some 4, none, .mov (.t 3)⟩,
  ⟨some 5, none, .faddr 0 (.t 1)⟩,
  ⟨some 6, none, .load 1 false (.t 5)⟩,
  ⟨some 7, none, .len (.t 6)⟩,
  ⟨some 8, none, .bin .lss (.t 4) (.t 7)⟩]
abbrev c6_r4 : List Ins := [
  ⟨some 11, none, .faddr 0 (.t 1)⟩,
  ⟨some 12, none, .load 1 false (.t 11)⟩,
  ⟨some 13, none, .mov (.t 3)⟩,
  ⟨some 14, none, .iaddr 5 (.t 12) (.t 13)⟩,
  ⟨some 15, none, .load 5 true (.t 14)⟩,
  ⟨some 16, none, .call (.c (.fn 21 [] [])) [.t 15]⟩]
abbrev c6_r5 : List Ins := [
  ⟨some 2, none, .mov (.c (.bool true))⟩]
abbrev c6_r6 : List Ins := [
  ⟨some 9, none, .mov (.t 3)⟩,
  ⟨some 10, none, .bin .add (.t 9) (.c (.int .i64 1))⟩,
  ⟨some 3, none, .mov (.t 10)⟩]
abbrev c6_l7 : IR := .seq (.seq (.reg c6_r3) (.cond (.t 8) (.skip) (.exit 0))) (.seq (.blk 1 (.seq (.reg c6_r4) (.cond (.t 16) (.seq (.reg c6_r5) (.ret)) (.skip)))) (.reg c6_r6))
abbrev c6_r8 : List Ins := [
  ⟨some 17, none, .faddr 0 (.t 1)⟩,
  ⟨some 18, none, .load 1 false (.t 17)⟩,
  ⟨some 19, none, .len (.t 18)⟩,
  ⟨some 20, none, .bin .gtr (.t 19) (.c (.int .i64 12))⟩,
  ⟨some 2, none, .mov (.t 20)⟩]
abbrev c6 : IR := .seq (.reg c6_r1) (.seq (.seq (.reg c6_r2) (.blk 0 (.loop c6_l7))) (.seq (.reg c6_r8) (.ret)))
abbrev F6 : FnA := ⟨21, c6, [.t 2]⟩
theorem ok6 : cFn Tryz.prog 6 = some F6 := by kernel_rfl
theorem hb6 : HasBody Tryz.prog 6 := ⟨_, Tryz.func6, by kernel_rfl, by kernel_rfl⟩
/-! lint.Clashes -/
abbrev c7_r1 : List Ins := [
  ⟨some 1, none, .box (.t 0)⟩,
  ⟨some 2, none, .mov (.c (.sl .full []))⟩]
abbrev c7_r2 : List Ins := [
  ⟨some 7, none, .load 17 true (.t 1)⟩,
  ⟨some 8, none, .call (.c (.fn 22 [] [])) [.t 7]⟩,
  ⟨some 9, none, .un .not (.t 8)⟩]
abbrev c7_r3 : List Ins := [
  ⟨some 2, none, .mov (.c (.sl .full []))⟩]
abbrev c7_r4 : List Ins := [
  ⟨some 10, none, .mkfn 23 [] [.t 1]⟩,
  ⟨some 3, none, .mov (.t 10)⟩]
abbrev c7_r5 : List Ins := [
  ⟨some 4, none, .mov (.c (.sl .full []))⟩]
abbrev c7_r6 : List Ins := [
  ⟨some 11, none, .faddr 0 (.t 1)⟩,
  ⟨some 12, none, .load 1 false (.t 11)⟩,
  ⟨some 13, none, .len (.t 12)⟩,
  ⟨some 14, none, .mov (.c (.int .i64 0))⟩]
abbrev c7_r7 : List Ins := [
  ⟨some 15, none, .bin .lss (.t 14) (.t 13)⟩]
abbrev c7_r8 : List Ins := [
  ⟨some 16, none, .iaddr 5 (.t 12) (.t 14)⟩,
  ⟨some 17, none, .load 5 true (.t 16)⟩,
  ⟨some 6, none, .alloc [.str ⟨#[]⟩, .int .i64 0, .sl .full [], .sl .full [], .bool false]⟩,
  ⟨none, none, .store 5 (.t 6) (.t 17)⟩]
abbrev c7_r9 : List Ins := [
  ⟨some 18, none, .mov (.t 4)⟩,
  ⟨some 19, none, .mov (.t 3)⟩,
  ⟨some 20, none, .load 5 true (.t 6)⟩,
  ⟨some 21, none, .call (.t 19) [.t 20]⟩,
  ⟨some 22, none, .bsl 1 1 [.sl .full []] [(0, .t 21)]⟩,
  ⟨some 23, none, .append 1 24 (.t 18) (.t 22)⟩,
  ⟨some 4, none, .mov (.t 23)⟩]
abbrev c7_r10 : List Ins := [
  ⟨some 24, none, .bin .add (.t 14) (.c (.int .i64 1))⟩,
  ⟨some 14, none, .mov (.t 24)⟩]
abbrev c7_l11 : IR := .seq (.reg c7_r7) (.seq (.cond (.t 15) (.skip) (.exit 0)) (.seq (.blk 1 (.seq (.reg c7_r8) (.reg c7_r9))) (.reg c7_r10)))
abbrev c7_r12 : List Ins := [
  ⟨some 25, none, .mov (.t 4)⟩,
  ⟨some 2, none, .mov (.t 25)⟩]
abbrev c7 : IR := .seq (.reg c7_r1) (.seq (.seq (.reg c7_r2) (.cond (.t 9) (.seq (.reg c7_r3) (.ret)) (.skip))) (.seq (.reg c7_r4) (.seq (.reg c7_r5) (.seq (.seq (.reg c7_r6) (.blk 0 (.loop c7_l11))) (.seq (.reg c7_r12) (.ret))))))
abbrev F7 : FnA := ⟨26, c7, [.t 2]⟩
theorem ok7 : cFn Tryz.prog 7 = some F7 := by kernel_rfl
theorem hb7 : HasBody Tryz.prog 7 := ⟨_, Tryz.func7, by kernel_rfl, by kernel_rfl⟩
/-! lint.Advice -/
abbrev c8_r1 : List Ins := [
  ⟨some 1, none, .box (.t 0)⟩,
  ⟨some 2, none, .alloc [.sl .full [], .int .i64 0, .int .i64 0, .int .i64 0, .int .i64 0, .int .i64 0, .int .i64 0, .int .i64 0, .int .i64 0, .int .i64 0, .int .i64 0, .int .i64 0, .int .i64 0, .int .i64 0, .int .i64 0, .int .i64 0, .int .i64 0]⟩]
abbrev c8_r2 : List Ins := [
  ⟨some 9, none, .load 17 true (.t 1)⟩,
  ⟨some 10, none, .call (.c (.fn 25 [] [])) [.t 9]⟩,
  ⟨some 3, none, .alloc [.sl .full [], .int .i64 0, .int .i64 0, .int .i64 0, .int .i64 0, .int .i64 0, .int .i64 0, .int .i64 0, .int .i64 0, .int .i64 0, .int .i64 0, .int .i64 0, .int .i64 0, .int .i64 0, .int .i64 0, .int .i64 0, .int .i64 0]⟩,
  ⟨none, none, .store 17 (.t 3) (.t 10)⟩]
abbrev c8_r3 : List Ins := [
  ⟨some 11, none, .faddr 1 (.t 3)⟩,
  ⟨some 12, none, .load 16 true (.t 11)⟩,
  ⟨some 4, none, .alloc [.int .i64 0, .int .i64 0, .int .i64 0, .int .i64 0, .int .i64 0, .int .i64 0, .int .i64 0, .int .i64 0, .int .i64 0, .int .i64 0, .int .i64 0, .int .i64 0, .int .i64 0, .int .i64 0, .int .i64 0, .int .i64 0]⟩,
  ⟨none, none, .store 16 (.t 4) (.t 12)⟩]
abbrev c8_r4 : List Ins := [
  ⟨some 13, none, .faddr 1 (.t 1)⟩,
  ⟨some 14, none, .load 16 true (.t 13)⟩,
  ⟨some 15, none, .faddr 1 (.t 3)⟩,
  ⟨none, none, .store 16 (.t 15) (.t 14)⟩]
abbrev c8_r5 : List Ins := [
  ⟨some 16, none, .load 17 true (.t 1)⟩,
  ⟨some 17, none, .call (.c (.fn 7 [] [])) [.t 16]⟩,
  ⟨some 18, none, .len (.t 17)⟩,
  ⟨some 19, none, .mov (.c (.int .i64 0))⟩]
abbrev c8_r6 : List Ins := [
  ⟨some 20, none, .bin .lss (.t 19) (.t 18)⟩]
abbrev c8_r7 : List Ins := [
  ⟨some 21, none, .mov (.t 19)⟩,
  ⟨some 22, none, .iaddr 1 (.t 17) (.t 19)⟩,
  ⟨some 23, none, .load 1 false (.t 22)⟩,
  ⟨some 5, none, .mov (.t 21)⟩,
  ⟨some 6, none, .mov (.t 23)⟩]
abbrev c8_r8 : List Ins := [
  ⟨some 24, none, .mov (.t 6)⟩,
  ⟨some 25, none, .len (.t 24)⟩,
  ⟨some 26, none, .mov (.c (.int .i64 0))⟩]
abbrev c8_r9 : List Ins := [
  ⟨some 27, none, .bin .lss (.t 26) (.t 25)⟩]
abbrev c8_r10 : List Ins := [
  ⟨some 28, none, .mov (.t 26)⟩,
  ⟨some 29, none, .iaddr 1 (.t 24) (.t 26)⟩,
  ⟨some 30, none, .load 1 false (.t 29)⟩,
  ⟨some 7, none, .mov (.t 28)⟩,
  ⟨some 8, none, .mov (.t 30)⟩]
abbrev c8_r11 : List Ins := [
  ⟨some 31, none, .mov (.t 8)⟩,
  ⟨some 32, none, .un .not (.t 31)⟩]
abbrev c8_r12 : List Ins := [
  ⟨some 33, none, .mov (.t 5)⟩,
  ⟨some 34, none, .mov (.t 7)⟩,
  ⟨some 35, none, .mov (.t 5)⟩,
  ⟨some 36, none, .mov (.t 7)⟩,
  ⟨some 37, none, .iaddrA 4 4 (.t 4) (.t 35)⟩,
  ⟨some 38, none, .iaddrA 4 1 (.t 37) (.t 36)⟩,
  ⟨some 39, none, .load 1 false (.t 38)⟩,
  ⟨some 40, none, .faddr 1 (.t 3)⟩,
  ⟨some 41, none, .iaddrA 4 4 (.t 40) (.t 33)⟩,
  ⟨some 42, none, .iaddrA 4 1 (.t 41) (.t 34)⟩,
  ⟨none, none, .store 1 (.t 42) (.t 39)⟩]
def c8_a12 : List (List Nat) := [[], [], [], [], [2], [4, 3], [5], [], [7, 0], [8, 1, 0, 1, 2, 3, 4, 5, 6], [9, 6, 0, 1, 2, 3, 4, 5, 6]]
abbrev c8_m12 : List Am.Mark := [⟨false, 0, 0⟩, ⟨false, 0, 0⟩, ⟨false, 0, 0⟩, ⟨false, 0, 0⟩, ⟨false, 0, 0⟩, ⟨false, 0, 0⟩, ⟨false, 0, 0⟩, ⟨false, 0, 1⟩, ⟨false, 0, 1⟩, ⟨false, 0, 0⟩, ⟨true, 0, 1⟩]
theorem c8_d12 : drawFine c8_r12 c8_a12 c8_m12 = true := by decide +kernel
abbrev c8_r13 : List Ins := [
  ⟨some 43, none, .bin .add (.t 26) (.c (.int .i64 1))⟩,
  ⟨some 26, none, .mov (.t 43)⟩]
abbrev c8_l14 : IR := .seq (.reg c8_r9) (.seq (.cond (.t 27) (.skip) (.exit 2)) (.seq (.blk 3 (.seq (.reg c8_r10) (.seq (.reg c8_r11) (.cond (.t 32) (.dreg c8_r12 c8_a12) (.skip))))) (.reg c8_r13)))
abbrev c8_r15 : List Ins := [
  ⟨some 44, none, .bin .add (.t 19) (.c (.int .i64 1))⟩,
  ⟨some 19, none, .mov (.t 44)⟩]
abbrev c8_l16 : IR := .seq (.reg c8_r6) (.seq (.cond (.t 20) (.skip) (.exit 0)) (.seq (.blk 1 (.seq (.reg c8_r7) (.seq (.reg c8_r8) (.blk 2 (.loop c8_l14))))) (.reg c8_r15)))
abbrev c8_r17 : List Ins := [
  ⟨some 45, none, .load 17 true (.t 3)⟩,
  ⟨none, none, .store 17 (.t 2) (.t 45)⟩]
abbrev c8 : IR := .seq (.reg c8_r1) (.seq (.reg c8_r2) (.seq (.reg c8_r3) (.seq (.reg c8_r4) (.seq (.seq (.reg c8_r5) (.blk 0 (.loop c8_l16))) (.seq (.reg c8_r17) (.ret))))))
abbrev F8 : FnA := ⟨46, c8, [.cell 2 17 true]⟩
theorem ok8 : cFn Tryz.prog 8 = some F8 := by kernel_rfl
theorem hb8 : HasBody Tryz.prog 8 := ⟨_, Tryz.func8, by kernel_rfl, by kernel_rfl⟩
/-! ref12.May -/
abbrev c9_r1 : List Ins := [
  ⟨some 1, none, .box (.t 0)⟩,
  ⟨some 2, none, .mov (.c (.bool false))⟩]
abbrev c9_r2 : List Ins := [
  ⟨some 10, none, .faddr 0 (.t 1)⟩,
  ⟨some 11, none, .load 1 false (.t 10)⟩,
  ⟨some 12, none, .len (.t 11)⟩,
  ⟨some 3, none, .mov (.t 12)⟩]
abbrev c9_r3 : List Ins := [
  ⟨some 13, none, .mov (.t 3)⟩,
  ⟨some 14, none, .bin .lss (.t 13) (.c (.int .i64 1))⟩,
  ⟨some 15, none, .mov (.t 14)⟩,
  ⟨some 16, some (15, false), .mov (.t 3)⟩,
  ⟨some 17, some (15, false), .bin .gtr (.t 16) (.c (.int .i64 4))⟩,
  ⟨some 18, none, .pick (.t 15) (.c (.bool true)) (.t 17)⟩]
abbrev c9_r4 : List Ins := [
  ⟨some 2, none, .mov (.c (.bool false))⟩]
abbrev c9_r5 : List Ins := [
  ⟨some 4, none, .mov (.c (.int .i64 0))⟩]
abbrev c9_r6 : List Ins := [
  ⟨some 19, none, .mov (.t 4)⟩,
  ⟨some 20, none, .mov (.t 3)⟩,
  ⟨some 21, none, .bin .lss (.t 19) (.t 20)⟩]
abbrev c9_r7 : List Ins := [
  ⟨some 24, none, .faddr 0 (.t 1)⟩,
  ⟨some 25, none, .load 1 false (.t 24)⟩,
  ⟨some 26, none, .mov (.t 4)⟩,
  ⟨some 27, none, .iaddr 5 (.t 25) (.t 26)⟩,
  ⟨some 28, none, .load 5 true (.t 27)⟩,
  ⟨some 29, none, .call (.c (.fn 26 [] [])) [.t 28]⟩,
  ⟨some 30, none, .un .not (.t 29)⟩]
abbrev c9_r8 : List Ins := [
  ⟨some 2, none, .mov (.c (.bool false))⟩]
abbrev c9_r9 : List Ins := [
  ⟨some 5, none, .mov (.c (.int .i64 0))⟩]
abbrev c9_r10 : List Ins := [
  ⟨some 31, none, .mov (.t 5)⟩,
  ⟨some 32, none, .mov (.t 4)⟩,
  ⟨some 33, none, .bin .lss (.t 31) (.t 32)⟩]
abbrev c9_r11 : List Ins := [
  ⟨some 36, none, .faddr 0 (.t 1)⟩,
  ⟨some 37, none, .load 1 false (.t 36)⟩,
  ⟨some 38, none, .mov (.t 5)⟩,
  ⟨some 39, none, .iaddr 5 (.t 37) (.t 38)⟩,
  ⟨some 40, none, .faddr 0 (.t 39)⟩,
  ⟨some 41, none, .load 1 false (.t 40)⟩,
  ⟨some 42, none, .faddr 0 (.t 1)⟩,
  ⟨some 43, none, .load 1 false (.t 42)⟩,
  ⟨some 44, none, .mov (.t 4)⟩,
  ⟨some 45, none, .iaddr 5 (.t 43) (.t 44)⟩,
  ⟨some 46, none, .faddr 0 (.t 45)⟩,
  ⟨some 47, none, .load 1 false (.t 46)⟩,
  ⟨some 48, none, .bin .eql (.t 41) (.t 47)⟩]
def c9_a11 : List (List Nat) := [[], [0], [], [1, 2], [3], [4], [], [6], [], [7, 8], [9], [10], [5, 11]]
abbrev c9_m11 : List Am.Mark := [⟨false, 0, 0⟩, ⟨false, 0, 0⟩, ⟨false, 0, 0⟩, ⟨false, 0, 0⟩, ⟨false, 0, 0⟩, ⟨false, 0, 0⟩, ⟨false, 0, 0⟩, ⟨false, 0, 0⟩, ⟨false, 0, 0⟩, ⟨false, 0, 0⟩, ⟨false, 0, 0⟩, ⟨false, 0, 0⟩, ⟨false, 0, 0⟩]
theorem c9_d11 : drawFine c9_r11 c9_a11 c9_m11 = true := by decide +kernel
abbrev c9_r12 : List Ins := [
  ⟨some 2, none, .mov (.c (.bool false))⟩]
abbrev c9_r13 : List Ins := [
  ⟨some 34, none, .mov (.t 5)⟩,
  ⟨some 35, none, .bin .add (.t 34) (.c (.int .i64 1))⟩,
  ⟨some 5, none, .mov (.t 35)⟩]
abbrev c9_l14 : IR := .seq (.seq (.reg c9_r10) (.cond (.t 33) (.skip) (.exit 2))) (.seq (.blk 3 (.seq (.dreg c9_r11 c9_a11) (.cond (.t 48) (.seq (.reg c9_r12) (.ret)) (.skip)))) (.reg c9_r13))
abbrev c9_r15 : List Ins := [
  ⟨some 22, none, .mov (.t 4)⟩,
  ⟨some 23, none, .bin .add (.t 22) (.c (.int .i64 1))⟩,
  ⟨some 4, none, .mov (.t 23)⟩]
abbrev c9_l16 : IR := .seq (.seq (.reg c9_r6) (.cond (.t 21) (.skip) (.exit 0))) (.seq (.blk 1 (.seq (.seq (.reg c9_r7) (.cond (.t 30) (.seq (.reg c9_r8) (.ret)) (.skip))) (.seq (.reg c9_r9) (.blk 2 (.loop c9_l14))))) (.reg c9_r15))
abbrev c9_r17 : List Ins := [
  ⟨some 6, none, .mov (.c (.int .i64 0))⟩]
abbrev c9_r18 : List Ins := [
  ⟨some 49, none, .mov (.t 6)⟩,
  ⟨some 50, none, .bin .lss (.t 49) (.c (.int .i64 4))⟩]
abbrev c9_r19 : List Ins := [
  ⟨some 7, none, .mov (.c (.int .i64 0))⟩]
abbrev c9_r20 : List Ins := [
  ⟨some 53, none, .mov (.t 7)⟩,
  ⟨some 54, none, .bin .lss (.t 53) (.c (.int .i64 4))⟩]
abbrev c9_r21 : List Ins := [
  ⟨some 8, none, .mov (.c (.int .i64 1))⟩]
abbrev c9_r22 : List Ins := [
  ⟨some 57, none, .mov (.t 6)⟩,
  ⟨some 58, none, .mov (.t 3)⟩,
  ⟨some 59, none, .bin .lss (.t 57) (.t 58)⟩,
  ⟨some 60, none, .mov (.t 59)⟩,
  ⟨some 61, some (60, true), .mov (.t 7)⟩,
  ⟨some 62, some (60, true), .mov (.t 3)⟩,
  ⟨some 63, some (60, true), .bin .lss (.t 61) (.t 62)⟩,
  ⟨some 64, none, .pick (.t 60) (.t 63) (.c (.bool false))⟩]
abbrev c9_r23 : List Ins := [
  ⟨some 9, none, .mov (.c (.int .i64 1))⟩]
abbrev c9_r24 : List Ins := [
  ⟨some 65, none, .mov (.t 9)⟩,
  ⟨some 66, none, .faddr 0 (.t 1)⟩,
  ⟨some 67, none, .load 1 false (.t 66)⟩,
  ⟨some 68, none, .mov (.t 6)⟩,
  ⟨some 69, none, .iaddr 5 (.t 67) (.t 68)⟩,
  ⟨some 70, none, .faddr 2 (.t 69)⟩,
  ⟨some 71, none, .load 1 false (.t 70)⟩,
  ⟨some 72, none, .len (.t 71)⟩,
  ⟨some 73, none, .bin .lss (.t 65) (.t 72)⟩]
abbrev c9_r25 : List Ins := [
  ⟨some 76, none, .mov (.t 8)⟩,
  ⟨some 77, none, .bin .mul (.c (.int .i64 2)) (.t 76)⟩,
  ⟨some 8, none, .mov (.t 77)⟩]
abbrev c9_r26 : List Ins := [
  ⟨some 74, none, .mov (.t 9)⟩,
  ⟨some 75, none, .bin .add (.t 74) (.c (.int .i64 1))⟩,
  ⟨some 9, none, .mov (.t 75)⟩]
abbrev c9_l27 : IR := .seq (.seq (.reg c9_r24) (.cond (.t 73) (.skip) (.exit 8))) (.seq (.blk 9 (.reg c9_r25)) (.reg c9_r26))
abbrev c9_r28 : List Ins := [
  ⟨some 78, none, .mov (.t 6)⟩,
  ⟨some 79, none, .mov (.t 7)⟩,
  ⟨some 80, none, .faddr 1 (.t 1)⟩,
  ⟨some 81, none, .iaddrA 4 4 (.t 80) (.t 78)⟩,
  ⟨some 82, none, .iaddrA 4 1 (.t 81) (.t 79)⟩,
  ⟨some 83, none, .load 1 false (.t 82)⟩,
  ⟨some 84, none, .bin .lss (.t 83) (.c (.int .i64 0))⟩,
  ⟨some 85, none, .mov (.t 84)⟩,
  ⟨some 86, some (85, false), .mov (.t 6)⟩,
  ⟨some 87, some (85, false), .mov (.t 7)⟩,
  ⟨some 88, some (85, false), .faddr 1 (.t 1)⟩,
  ⟨some 89, some (85, false), .iaddrA 4 4 (.t 88) (.t 86)⟩,
  ⟨some 90, some (85, false), .iaddrA 4 1 (.t 89) (.t 87)⟩,
  ⟨some 91, some (85, false), .load 1 false (.t 90)⟩,
  ⟨some 92, some (85, false), .mov (.t 8)⟩,
  ⟨some 93, some (85, false), .bin .geq (.t 91) (.t 92)⟩,
  ⟨some 94, none, .pick (.t 85) (.c (.bool true)) (.t 93)⟩]
abbrev c9_r29 : List Ins := [
  ⟨some 2, none, .mov (.c (.bool false))⟩]
abbrev c9_r30 : List Ins := [
  ⟨some 55, none, .mov (.t 7)⟩,
  ⟨some 56, none, .bin .add (.t 55) (.c (.int .i64 1))⟩,
  ⟨some 7, none, .mov (.t 56)⟩]
abbrev c9_l31 : IR := .seq (.seq (.reg c9_r20) (.cond (.t 54) (.skip) (.exit 6))) (.seq (.blk 7 (.seq (.reg c9_r21) (.seq (.seq (.reg c9_r22) (.cond (.t 64) (.seq (.reg c9_r23) (.blk 8 (.loop c9_l27))) (.skip))) (.seq (.reg c9_r28) (.cond (.t 94) (.seq (.reg c9_r29) (.ret)) (.skip)))))) (.reg c9_r30))
abbrev c9_r32 : List Ins := [
  ⟨some 51, none, .mov (.t 6)⟩,
  ⟨some 52, none, .bin .add (.t 51) (.c (.int .i64 1))⟩,
  ⟨some 6, none, .mov (.t 52)⟩]
abbrev c9_l33 : IR := .seq (.seq (.reg c9_r18) (.cond (.t 50) (.skip) (.exit 4))) (.seq (.blk 5 (.seq (.reg c9_r19) (.blk 6 (.loop c9_l31)))) (.reg c9_r32))
abbrev c9_r34 : List Ins := [
  ⟨some 2, none, .mov (.c (.bool true))⟩]
abbrev c9 : IR := .seq (.reg c9_r1) (.seq (.reg c9_r2) (.seq (.seq (.reg c9_r3) (.cond (.t 18) (.seq (.reg c9_r4) (.ret)) (.skip))) (.seq (.seq (.reg c9_r5) (.blk 0 (.loop c9_l16))) (.seq (.seq (.reg c9_r17) (.blk 4 (.loop c9_l33))) (.seq (.reg c9_r34) (.ret))))))
abbrev F9 : FnA := ⟨95, c9, [.t 2]⟩
theorem ok9 : cFn Tryz.prog 9 = some F9 := by kernel_rfl
theorem hb9 : HasBody Tryz.prog 9 := ⟨_, Tryz.func9, by kernel_rfl, by kernel_rfl⟩
/-! lint.Clash -/
abbrev c15_r1 : List Ins := [
  ⟨some 4, none, .box (.t 0)⟩,
  ⟨some 6, none, .box (.t 2)⟩,
  ⟨some 8, none, .mov (.c (.bool false))⟩]
abbrev c15_r2 : List Ins := [
  ⟨some 13, none, .load 5 true (.t 4)⟩,
  ⟨some 14, none, .call (.c (.fn 30 [] [])) [.t 13]⟩,
  ⟨some 15, none, .un .not (.t 14)⟩,
  ⟨some 16, none, .mov (.t 15)⟩,
  ⟨some 17, some (16, false), .load 5 true (.t 6)⟩,
  ⟨some 18, some (16, false), .call (.c (.fn 30 [] [])) [.t 17]⟩,
  ⟨some 19, some (16, false), .un .not (.t 18)⟩,
  ⟨some 20, none, .pick (.t 16) (.c (.bool true)) (.t 19)⟩,
  ⟨some 21, none, .mov (.t 20)⟩,
  ⟨some 22, some (21, false), .mov (.t 1)⟩,
  ⟨some 23, some (21, false), .bin .lss (.t 22) (.c (.int .i64 0))⟩,
  ⟨some 24, none, .pick (.t 21) (.c (.bool true)) (.t 23)⟩,
  ⟨some 25, none, .mov (.t 24)⟩,
  ⟨some 26, some (25, false), .mov (.t 1)⟩,
  ⟨some 27, some (25, false), .faddr 2 (.t 4)⟩,
  ⟨some 28, some (25, false), .load 1 false (.t 27)⟩,
  ⟨some 29, some (25, false), .len (.t 28)⟩,
  ⟨some 30, some (25, false), .bin .geq (.t 26) (.t 29)⟩,
  ⟨some 31, none, .pick (.t 25) (.c (.bool true)) (.t 30)⟩,
  ⟨some 32, none, .mov (.t 31)⟩,
  ⟨some 33, some (32, false), .mov (.t 3)⟩,
  ⟨some 34, some (32, false), .bin .lss (.t 33) (.c (.int .i64 0))⟩,
  ⟨some 35, none, .pick (.t 32) (.c (.bool true)) (.t 34)⟩,
  ⟨some 36, none, .mov (.t 35)⟩,
  ⟨some 37, some (36, false), .mov (.t 3)⟩,
  ⟨some 38, some (36, false), .faddr 2 (.t 6)⟩,
  ⟨some 39, some (36, false), .load 1 false (.t 38)⟩,
  ⟨some 40, some (36, false), .len (.t 39)⟩,
  ⟨some 41, some (36, false), .bin .geq (.t 37) (.t 40)⟩,
  ⟨some 42, none, .pick (.t 36) (.c (.bool true)) (.t 41)⟩]
abbrev c15_r3 : List Ins := [
  ⟨some 8, none, .mov (.c (.bool false))⟩]
abbrev c15_r4 : List Ins := [
  ⟨some 44, none, .faddr 2 (.t 4)⟩,
  ⟨some 45, none, .load 1 false (.t 44)⟩,
  ⟨some 46, none, .mov (.t 1)⟩,
  ⟨some 47, none, .iaddr 2 (.t 45) (.t 46)⟩,
  ⟨some 48, none, .faddr 1 (.t 47)⟩,
  ⟨some 49, none, .load 1 false (.t 48)⟩,
  ⟨some 50, none, .faddr 1 (.t 4)⟩,
  ⟨some 51, none, .load 1 false (.t 50)⟩,
  ⟨some 52, none, .call (.c (.fn 31 [] [])) [.t 49, .t 51]⟩,
  ⟨some 43, none, .mov (.t 52)⟩,
  ⟨some 53, none, .ext (.t 43) 0⟩,
  ⟨some 54, none, .ext (.t 43) 1⟩,
  ⟨some 9, none, .mov (.t 53)⟩,
  ⟨some 10, none, .mov (.t 54)⟩]
def c15_a4 : List (List Nat) := [[], [0], [], [1, 2], [3], [4], [], [6], [5, 7], [8], [9], [9], [10, 8, 0, 1, 2, 3, 4, 5, 6, 7, 8, 9, 10], [11, 12, 0, 1, 2, 3, 4, 5, 6, 7, 8, 9, 10, 11, 12]]
abbrev c15_m4 : List Am.Mark := [⟨false, 0, 0⟩, ⟨false, 0, 0⟩, ⟨false, 0, 0⟩, ⟨false, 0, 0⟩, ⟨false, 0, 0⟩, ⟨false, 0, 0⟩, ⟨false, 0, 0⟩, ⟨false, 0, 0⟩, ⟨false, 0, 0⟩, ⟨false, 0, 0⟩, ⟨false, 0, 0⟩, ⟨false, 0, 0⟩, ⟨false, 0, 0⟩, ⟨false, 0, 0⟩]
theorem c15_d4 : drawFine c15_r4 c15_a4 c15_m4 = true := by decide +kernel
abbrev c15_r5 : List Ins := [
  ⟨some 56, none, .faddr 2 (.t 6)⟩,
  ⟨some 57, none, .load 1 false (.t 56)⟩,
  ⟨some 58, none, .mov (.t 3)⟩,
  ⟨some 59, none, .iaddr 2 (.t 57) (.t 58)⟩,
  ⟨some 60, none, .faddr 1 (.t 59)⟩,
  ⟨some 61, none, .load 1 false (.t 60)⟩,
  ⟨some 62, none, .faddr 1 (.t 6)⟩,
  ⟨some 63, none, .load 1 false (.t 62)⟩,
  ⟨some 64, none, .call (.c (.fn 31 [] [])) [.t 61, .t 63]⟩,
  ⟨some 55, none, .mov (.t 64)⟩,
  ⟨some 65, none, .ext (.t 55) 0⟩,
  ⟨some 66, none, .ext (.t 55) 1⟩,
  ⟨some 11, none, .mov (.t 65)⟩,
  ⟨some 12, none, .mov (.t 66)⟩]
def c15_a5 : List (List Nat) := [[], [0], [], [1, 2], [3], [4], [], [6], [5, 7], [8], [9], [9], [10, 8, 0, 1, 2, 3, 4, 5, 6, 7, 8, 9, 10], [11, 12, 0, 1, 2, 3, 4, 5, 6, 7, 8, 9, 10, 11, 12]]
abbrev c15_m5 : List Am.Mark := [⟨false, 0, 0⟩, ⟨false, 0, 0⟩, ⟨false, 0, 0⟩, ⟨false, 0, 0⟩, ⟨false, 0, 0⟩, ⟨false, 0, 0⟩, ⟨false, 0, 0⟩, ⟨false, 0, 0⟩, ⟨false, 0, 0⟩, ⟨false, 0, 0⟩, ⟨false, 0, 0⟩, ⟨false, 0, 0⟩, ⟨false, 0, 0⟩, ⟨false, 0, 0⟩]
theorem c15_d5 : drawFine c15_r5 c15_a5 c15_m5 = true := by decide +kernel
abbrev c15_r6 : List Ins := [
  ⟨some 67, none, .mov (.t 10)⟩,
  ⟨some 68, none, .mov (.t 11)⟩,
  ⟨some 69, none, .call (.c (.fn 32 [] [])) [.t 67, .t 68]⟩,
  ⟨some 70, none, .mov (.t 69)⟩,
  ⟨some 71, some (70, false), .mov (.t 9)⟩,
  ⟨some 72, some (70, false), .mov (.t 12)⟩,
  ⟨some 73, some (70, false), .call (.c (.fn 32 [] [])) [.t 71, .t 72]⟩,
  ⟨some 74, none, .pick (.t 70) (.c (.bool true)) (.t 73)⟩,
  ⟨some 8, none, .mov (.t 74)⟩]
abbrev c15 : IR := .seq (.reg c15_r1) (.seq (.seq (.reg c15_r2) (.cond (.t 42) (.seq (.reg c15_r3) (.ret)) (.skip))) (.seq (.dreg c15_r4 c15_a4) (.seq (.dreg c15_r5 c15_a5) (.seq (.reg c15_r6) (.ret)))))
abbrev F15 : FnA := ⟨75, c15, [.t 8]⟩
theorem ok15 : cFn Tryz.prog 15 = some F15 := by kernel_rfl
theorem hb15 : HasBody Tryz.prog 15 := ⟨_, Tryz.func15, by kernel_rfl, by kernel_rfl⟩
/-! law14.Great -/
abbrev c16_r1 : List Ins := [
  ⟨some 2, none, .box (.t 0)⟩,
  ⟨some 4, none, .mov (.c (.bool false))⟩]
abbrev c16_r2 : List Ins := [
  ⟨some 5, none, .mov (.c (.int .i64 0))⟩]
abbrev c16_r3 : List Ins := [
  ⟨some 6, none, .mov (.t 5)⟩,
  ⟨some 7, none, .mov (.t 1)⟩,
  ⟨some 8, none, .len (.t 7)⟩,
  ⟨some 9, none, .bin .lss (.t 6) (.t 8)⟩]
abbrev c16_r4 : List Ins := [
  ⟨some 12, none, .mov (.t 1)⟩,
  ⟨some 13, none, .mov (.t 5)⟩,
  ⟨some 14, none, .iaddr 6 (.t 12) (.t 13)⟩,
  ⟨some 15, none, .faddr 4 (.t 14)⟩,
  ⟨some 16, none, .load 1 false (.t 15)⟩,
  ⟨some 17, none, .len (.t 16)⟩,
  ⟨some 18, none, .bin .gtr (.t 17) (.c (.int .i64 60))⟩,
  ⟨some 19, none, .mov (.t 18)⟩,
  ⟨some 20, some (19, false), .mov (.t 1)⟩,
  ⟨some 21, some (19, false), .mov (.t 5)⟩,
  ⟨some 22, some (19, false), .iaddr 6 (.t 20) (.t 21)⟩,
  ⟨some 23, some (19, false), .faddr 5 (.t 22)⟩,
  ⟨some 24, some (19, false), .load 1 false (.t 23)⟩,
  ⟨some 25, some (19, false), .len (.t 24)⟩,
  ⟨some 26, some (19, false), .bin .gtr (.t 25) (.c (.int .i64 60))⟩,
  ⟨some 27, none, .pick (.t 19) (.c (.bool true)) (.t 26)⟩]
abbrev c16_r5 : List Ins := [
  ⟨some 4, none, .mov (.c (.bool true))⟩]
abbrev c16_r6 : List Ins := [
  ⟨some 10, none, .mov (.t 5)⟩,
  ⟨some 11, none, .bin .add (.t 10) (.c (.int .i64 1))⟩,
  ⟨some 5, none, .mov (.t 11)⟩]
abbrev c16_l7 : IR := .seq (.seq (.reg c16_r3) (.cond (.t 9) (.skip) (.exit 0))) (.seq (.blk 1 (.seq (.reg c16_r4) (.cond (.t 27) (.seq (.reg c16_r5) (.ret)) (.skip)))) (.reg c16_r6))
abbrev c16_r8 : List Ins := [
  ⟨some 28, none, .load 17 true (.t 2)⟩,
  ⟨some 29, none, .call (.c (.fn 6 [] [])) [.t 28]⟩,
  ⟨some 30, none, .mov (.t 29)⟩,
  ⟨some 31, some (30, false), .mov (.t 1)⟩,
  ⟨some 32, some (30, false), .len (.t 31)⟩,
  ⟨some 33, some (30, false), .bin .gtr (.t 32) (.c (.int .i64 110))⟩,
  ⟨some 34, none, .pick (.t 30) (.c (.bool true)) (.t 33)⟩,
  ⟨some 4, none, .mov (.t 34)⟩]
abbrev c16 : IR := .seq (.reg c16_r1) (.seq (.seq (.reg c16_r2) (.blk 0 (.loop c16_l7))) (.seq (.reg c16_r8) (.ret)))
abbrev F16 : FnA := ⟨35, c16, [.t 4]⟩
theorem ok16 : cFn Tryz.prog 16 = some F16 := by kernel_rfl
theorem hb16 : HasBody Tryz.prog 16 := ⟨_, Tryz.func16, by kernel_rfl, by kernel_rfl⟩
/-! ref16.Good -/
abbrev c17_r1 : List Ins := [
  ⟨some 2, none, .box (.t 0)⟩,
  ⟨some 4, none, .mov (.c (.bool false))⟩]
abbrev c17_r2 : List Ins := [
  ⟨some 5, none, .load 17 true (.t 2)⟩,
  ⟨some 6, none, .mov (.t 1)⟩,
  ⟨some 7, none, .call (.c (.fn 33 [] [])) [.t 5, .t 6]⟩,
  ⟨some 8, none, .mov (.t 7)⟩,
  ⟨some 9, some (8, true), .load 17 true (.t 2)⟩,
  ⟨some 10, some (8, true), .mov (.t 1)⟩,
  ⟨some 11, some (8, true), .call (.c (.fn 34 [] [])) [.t 9, .t 10]⟩,
  ⟨some 12, some (8, true), .len (.t 11)⟩,
  ⟨some 13, some (8, true), .bin .eql (.t 12) (.c (.int .i64 0))⟩,
  ⟨some 14, none, .pick (.t 8) (.t 13) (.c (.bool false))⟩,
  ⟨some 4, none, .mov (.t 14)⟩]
abbrev c17 : IR := .seq (.reg c17_r1) (.seq (.reg c17_r2) (.ret))
abbrev F17 : FnA := ⟨15, c17, [.t 4]⟩
theorem ok17 : cFn Tryz.prog 17 = some F17 := by kernel_rfl
theorem hb17 : HasBody Tryz.prog 17 := ⟨_, Tryz.func17, by kernel_rfl, by kernel_rfl⟩
/-! law27.alive$1 -/
abbrev c18_r1 : List Ins := [
  ⟨some 4, none, .alloc [.int .i64 0, .int .i64 0]⟩]
abbrev c18_r2 : List Ins := [
  ⟨some 5, none, .mov (.t 0)⟩,
  ⟨some 6, none, .mov (.t 1)⟩,
  ⟨some 7, none, .build [.int .i64 0, .int .i64 0] [(0, (1, .t 5)), (1, (1, .t 6))]⟩,
  ⟨none, none, .store 2 (.t 4) (.t 7)⟩]
abbrev c18 : IR := .seq (.reg c18_r1) (.seq (.reg c18_r2) (.ret))
abbrev F18 : FnA := ⟨8, c18, [.cell 4 2 true]⟩
theorem ok18 : cFn Tryz.prog 18 = some F18 := by kernel_rfl
theorem hb18 : HasBody Tryz.prog 18 := ⟨_, Tryz.func18, by kernel_rfl, by kernel_rfl⟩
/-! lint.Span -/
abbrev c19_r1 : List Ins := [
  ⟨some 2, none, .box (.t 0)⟩,
  ⟨some 4, none, .mov (.c (.sl .full []))⟩]
abbrev c19_r2 : List Ins := [
  ⟨some 5, none, .load 5 true (.t 2)⟩,
  ⟨some 6, none, .bsl 5 1 [.int .i64 0, .int .i64 0, .int .i64 0, .int .i64 0, .bool false] [(0, .t 5)]⟩,
  ⟨some 7, none, .mov (.t 1)⟩,
  ⟨some 8, none, .call (.c (.fn 35 [] [])) [.t 6, .t 7]⟩,
  ⟨some 9, none, .un .not (.t 8)⟩]
abbrev c19_r3 : List Ins := [
  ⟨some 4, none, .mov (.c (.sl .full []))⟩]
abbrev c19_r4 : List Ins := [
  ⟨some 10, none, .faddr 0 (.t 2)⟩,
  ⟨some 11, none, .faddr 0 (.t 10)⟩,
  ⟨some 12, none, .load 1 false (.t 11)⟩,
  ⟨some 13, none, .faddr 2 (.t 2)⟩,
  ⟨some 14, none, .faddr 0 (.t 13)⟩,
  ⟨some 15, none, .load 1 false (.t 14)⟩,
  ⟨some 16, none, .bin .eql (.t 12) (.t 15)⟩,
  ⟨some 17, none, .mov (.t 16)⟩,
  ⟨some 18, some (17, true), .faddr 0 (.t 2)⟩,
  ⟨some 19, some (17, true), .faddr 1 (.t 18)⟩,
  ⟨some 20, some (17, true), .load 1 false (.t 19)⟩,
  ⟨some 21, some (17, true), .faddr 2 (.t 2)⟩,
  ⟨some 22, some (17, true), .faddr 1 (.t 21)⟩,
  ⟨some 23, some (17, true), .load 1 false (.t 22)⟩,
  ⟨some 24, some (17, true), .bin .gtr (.t 20) (.t 23)⟩,
  ⟨some 25, none, .pick (.t 17) (.t 24) (.c (.bool false))⟩]
abbrev c19_r5 : List Ins := [
  ⟨some 4, none, .mov (.c (.sl .full []))⟩]
abbrev c19_r6 : List Ins := [
  ⟨some 26, none, .faddr 0 (.t 2)⟩,
  ⟨some 27, none, .faddr 1 (.t 26)⟩,
  ⟨some 28, none, .load 1 false (.t 27)⟩,
  ⟨some 29, none, .faddr 2 (.t 2)⟩,
  ⟨some 30, none, .load 2 true (.t 29)⟩,
  ⟨some 31, none, .call (.c (.fn 37 [] [])) [.t 30]⟩,
  ⟨some 32, none, .build [.int .i64 0, .int .i64 0] [(0, (1, .t 28)), (1, (1, .t 31))]⟩,
  ⟨some 33, none, .bsl 2 1 [.int .i64 0, .int .i64 0] [(0, .t 32)]⟩,
  ⟨some 34, none, .call (.c (.fn 36 [] [])) [.t 33]⟩,
  ⟨some 4, none, .mov (.t 34)⟩]
def c19_a6 : List (List Nat) := [[], [0], [1], [], [3], [4], [2, 5], [6], [7, 5], [8, 8, 0, 1, 2, 3, 4, 5, 6, 7, 8]]
abbrev c19_m6 : List Am.Mark := [⟨false, 0, 0⟩, ⟨false, 0, 0⟩, ⟨false, 0, 0⟩, ⟨false, 0, 0⟩, ⟨false, 0, 0⟩, ⟨false, 0, 0⟩, ⟨false, 0, 0⟩, ⟨false, 0, 0⟩, ⟨false, 0, 0⟩, ⟨false, 0, 0⟩]
theorem c19_d6 : drawFine c19_r6 c19_a6 c19_m6 = true := by decide +kernel
abbrev c19 : IR := .seq (.reg c19_r1) (.seq (.seq (.reg c19_r2) (.cond (.t 9) (.seq (.reg c19_r3) (.ret)) (.skip))) (.seq (.seq (.reg c19_r4) (.cond (.t 25) (.seq (.reg c19_r5) (.ret)) (.skip))) (.seq (.dreg c19_r6 c19_a6) (.ret))))
abbrev F19 : FnA := ⟨35, c19, [.t 4]⟩
theorem ok19 : cFn Tryz.prog 19 = some F19 := by kernel_rfl
theorem hb19 : HasBody Tryz.prog 19 := ⟨_, Tryz.func19, by kernel_rfl, by kernel_rfl⟩
/-! ref04.Same -/
abbrev c20_r1 : List Ins := [
  ⟨some 4, none, .mov (.c (.bool false))⟩]
abbrev c20_r2 : List Ins := [
  ⟨some 6, none, .mov (.t 0)⟩,
  ⟨some 7, none, .len (.t 6)⟩,
  ⟨some 8, none, .mov (.t 1)⟩,
  ⟨some 9, none, .len (.t 8)⟩,
  ⟨some 10, none, .bin .neq (.t 7) (.t 9)⟩]
abbrev c20_r3 : List Ins := [
  ⟨some 4, none, .mov (.c (.bool false))⟩]
abbrev c20_r4 : List Ins := [
  ⟨some 5, none, .mov (.c (.int .i64 0))⟩]
abbrev c20_r5 : List Ins := [
  ⟨some 11, none, .mov (.t 5)⟩,
  ⟨some 12, none, .mov (.t 0)⟩,
  ⟨some 13, none, .len (.t 12)⟩,
  ⟨some 14, none, .bin .lss (.t 11) (.t 13)⟩]
abbrev c20_r6 : List Ins := [
  ⟨some 17, none, .mov (.t 0)⟩,
  ⟨some 18, none, .mov (.t 5)⟩,
  ⟨some 19, none, .iaddr 2 (.t 17) (.t 18)⟩,
  ⟨some 20, none, .load 2 true (.t 19)⟩,
  ⟨some 21, none, .mov (.t 1)⟩,
  ⟨some 22, none, .mov (.t 5)⟩,
  ⟨some 23, none, .iaddr 2 (.t 21) (.t 22)⟩,
  ⟨some 24, none, .load 2 true (.t 23)⟩,
  ⟨some 25, none, .eq [.i, .i] true true (.t 20) (.t 24)⟩]
def c20_a6 : List (List Nat) := [[], [], [0, 1], [2], [], [], [4, 5], [6], [3, 7]]
abbrev c20_m6 : List Am.Mark := [⟨false, 0, 0⟩, ⟨false, 0, 0⟩, ⟨false, 0, 0⟩, ⟨false, 0, 0⟩, ⟨false, 0, 0⟩, ⟨false, 0, 0⟩, ⟨false, 0, 0⟩, ⟨false, 0, 0⟩, ⟨false, 0, 0⟩]
theorem c20_d6 : drawFine c20_r6 c20_a6 c20_m6 = true := by decide +kernel
abbrev c20_r7 : List Ins := [
  ⟨some 4, none, .mov (.c (.bool false))⟩]
abbrev c20_r8 : List Ins := [
  ⟨some 15, none, .mov (.t 5)⟩,
  ⟨some 16, none, .bin .add (.t 15) (.c (.int .i64 1))⟩,
  ⟨some 5, none, .mov (.t 16)⟩]
abbrev c20_l9 : IR := .seq (.seq (.reg c20_r5) (.cond (.t 14) (.skip) (.exit 0))) (.seq (.blk 1 (.seq (.dreg c20_r6 c20_a6) (.cond (.t 25) (.seq (.reg c20_r7) (.ret)) (.skip)))) (.reg c20_r8))
abbrev c20_r10 : List Ins := [
  ⟨some 4, none, .mov (.c (.bool true))⟩]
abbrev c20 : IR := .seq (.reg c20_r1) (.seq (.seq (.reg c20_r2) (.cond (.t 10) (.seq (.reg c20_r3) (.ret)) (.skip))) (.seq (.seq (.reg c20_r4) (.blk 0 (.loop c20_l9))) (.seq (.reg c20_r10) (.ret))))
abbrev F20 : FnA := ⟨26, c20, [.t 4]⟩
theorem ok20 : cFn Tryz.prog 20 = some F20 := by kernel_rfl
theorem hb20 : HasBody Tryz.prog 20 := ⟨_, Tryz.func20, by kernel_rfl, by kernel_rfl⟩
/-! law11.Great -/
abbrev c21_r1 : List Ins := [
  ⟨some 1, none, .box (.t 0)⟩,
  ⟨some 2, none, .mov (.c (.bool false))⟩]
abbrev c21_r2 : List Ins := [
  ⟨some 5, none, .faddr 0 (.t 1)⟩,
  ⟨some 6, none, .load 1 false (.t 5)⟩,
  ⟨some 7, none, .lenS (.t 6)⟩,
  ⟨some 8, none, .bin .gtr (.t 7) (.c (.int .i64 300))⟩,
  ⟨some 9, none, .mov (.t 8)⟩,
  ⟨some 10, some (9, false), .faddr 2 (.t 1)⟩,
  ⟨some 11, some (9, false), .load 1 false (.t 10)⟩,
  ⟨some 12, some (9, false), .len (.t 11)⟩,
  ⟨some 13, some (9, false), .bin .gtr (.t 12) (.c (.int .i64 20))⟩,
  ⟨some 14, none, .pick (.t 9) (.c (.bool true)) (.t 13)⟩,
  ⟨some 15, none, .mov (.t 14)⟩,
  ⟨some 16, some (15, false), .faddr 3 (.t 1)⟩,
  ⟨some 17, some (15, false), .load 1 false (.t 16)⟩,
  ⟨some 18, some (15, false), .len (.t 17)⟩,
  ⟨some 19, some (15, false), .bin .gtr (.t 18) (.c (.int .i64 20))⟩,
  ⟨some 20, none, .pick (.t 15) (.c (.bool true)) (.t 19)⟩]
abbrev c21_r3 : List Ins := [
  ⟨some 2, none, .mov (.c (.bool true))⟩]
abbrev c21_r4 : List Ins := [
  ⟨some 21, none, .bsl 2 0 [.sl .full [], .sl .full []] []⟩,
  ⟨some 22, none, .faddr 2 (.t 1)⟩,
  ⟨some 23, none, .load 1 false (.t 22)⟩,
  ⟨some 24, none, .append 2 48 (.t 21) (.t 23)⟩,
  ⟨some 25, none, .faddr 3 (.t 1)⟩,
  ⟨some 26, none, .load 1 false (.t 25)⟩,
  ⟨some 27, none, .append 2 48 (.t 24) (.t 26)⟩,
  ⟨some 3, none, .mov (.t 27)⟩]
def c21_a4 : List (List Nat) := [[], [], [1], [0, 2], [], [4], [3, 5, 3], [6, 6, 0, 1, 2, 3, 4, 5, 6]]
abbrev c21_m4 : List Am.Mark := [⟨false, 0, 0⟩, ⟨false, 0, 2⟩, ⟨false, 0, 0⟩, ⟨true, 0, 1⟩, ⟨false, 0, 2⟩, ⟨false, 0, 1⟩, ⟨true, 1, 2⟩, ⟨false, 2, 2⟩]
theorem c21_d4 : drawFine c21_r4 c21_a4 c21_m4 = true := by decide +kernel
abbrev c21_r5 : List Ins := [
  ⟨some 4, none, .mov (.c (.int .i64 0))⟩]
abbrev c21_r6 : List Ins := [
  ⟨some 28, none, .mov (.t 4)⟩,
  ⟨some 29, none, .mov (.t 3)⟩,
  ⟨some 30, none, .len (.t 29)⟩,
  ⟨some 31, none, .bin .lss (.t 28) (.t 30)⟩]
abbrev c21_r7 : List Ins := [
  ⟨some 34, none, .mov (.t 3)⟩,
  ⟨some 35, none, .mov (.t 4)⟩,
  ⟨some 36, none, .iaddr 2 (.t 34) (.t 35)⟩,
  ⟨some 37, none, .faddr 0 (.t 36)⟩,
  ⟨some 38, none, .load 1 false (.t 37)⟩,
  ⟨some 39, none, .len (.t 38)⟩,
  ⟨some 40, none, .bin .gtr (.t 39) (.c (.int .i64 40))⟩,
  ⟨some 41, none, .mov (.t 40)⟩,
  ⟨some 42, some (41, false), .mov (.t 3)⟩,
  ⟨some 43, some (41, false), .mov (.t 4)⟩,
  ⟨some 44, some (41, false), .iaddr 2 (.t 42) (.t 43)⟩,
  ⟨some 45, some (41, false), .faddr 1 (.t 44)⟩,
  ⟨some 46, some (41, false), .load 1 false (.t 45)⟩,
  ⟨some 47, some (41, false), .len (.t 46)⟩,
  ⟨some 48, some (41, false), .bin .gtr (.t 47) (.c (.int .i64 40))⟩,
  ⟨some 49, none, .pick (.t 41) (.c (.bool true)) (.t 48)⟩]
abbrev c21_r8 : List Ins := [
  ⟨some 2, none, .mov (.c (.bool true))⟩]
abbrev c21_r9 : List Ins := [
  ⟨some 32, none, .mov (.t 4)⟩,
  ⟨some 33, none, .bin .add (.t 32) (.c (.int .i64 1))⟩,
  ⟨some 4, none, .mov (.t 33)⟩]
abbrev c21_l10 : IR := .seq (.seq (.reg c21_r6) (.cond (.t 31) (.skip) (.exit 0))) (.seq (.blk 1 (.seq (.reg c21_r7) (.cond (.t 49) (.seq (.reg c21_r8) (.ret)) (.skip)))) (.reg c21_r9))
abbrev c21_r11 : List Ins := [
  ⟨some 2, none, .mov (.c (.bool false))⟩]
abbrev c21 : IR := .seq (.reg c21_r1) (.seq (.seq (.reg c21_r2) (.cond (.t 20) (.seq (.reg c21_r3) (.ret)) (.skip))) (.seq (.dreg c21_r4 c21_a4) (.seq (.seq (.reg c21_r5) (.blk 0 (.loop c21_l10))) (.seq (.reg c21_r11) (.ret)))))
abbrev F21 : FnA := ⟨50, c21, [.t 2]⟩
theorem ok21 : cFn Tryz.prog 21 = some F21 := by kernel_rfl
theorem hb21 : HasBody Tryz.prog 21 := ⟨_, Tryz.func21, by kernel_rfl, by kernel_rfl⟩
/-! cat.May -/
abbrev c22_r1 : List Ins := [
  ⟨some 1, none, .box (.t 0)⟩,
  ⟨some 2, none, .mov (.c (.bool false))⟩]
abbrev c22_r2 : List Ins := [
  ⟨some 4, none, .faddr 0 (.t 1)⟩,
  ⟨some 5, none, .load 1 false (.t 4)⟩,
  ⟨some 6, none, .len (.t 5)⟩,
  ⟨some 3, none, .mov (.t 6)⟩]
abbrev c22_r3 : List Ins := [
  ⟨some 7, none, .mov (.t 3)⟩,
  ⟨some 8, none, .bin .lss (.t 7) (.c (.int .i64 1))⟩,
  ⟨some 9, none, .mov (.t 8)⟩,
  ⟨some 10, some (9, false), .mov (.t 3)⟩,
  ⟨some 11, some (9, false), .bin .gtr (.t 10) (.c (.int .i64 4))⟩,
  ⟨some 12, none, .pick (.t 9) (.c (.bool true)) (.t 11)⟩,
  ⟨some 13, none, .mov (.t 12)⟩,
  ⟨some 14, some (13, false), .faddr 0 (.t 1)⟩,
  ⟨some 15, some (13, false), .load 1 false (.t 14)⟩,
  ⟨some 16, some (13, false), .call (.c (.fn 38 [] [])) [.t 15]⟩,
  ⟨some 17, some (13, false), .un .not (.t 16)⟩,
  ⟨some 18, none, .pick (.t 13) (.c (.bool true)) (.t 17)⟩]
abbrev c22_r4 : List Ins := [
  ⟨some 2, none, .mov (.c (.bool false))⟩]
abbrev c22_r5 : List Ins := [
  ⟨some 19, none, .faddr 1 (.t 1)⟩,
  ⟨some 20, none, .load 16 true (.t 19)⟩,
  ⟨some 21, none, .load 17 true (.t 1)⟩,
  ⟨some 22, none, .mkfn 40 [] [.t 1]⟩,
  ⟨some 23, none, .call (.c (.fn 39 [] [])) [.t 21, .t 22]⟩,
  ⟨some 24, none, .eq [.i, .i, .i, .i, .i, .i, .i, .i, .i, .i, .i, .i, .i, .i, .i, .i] true false (.t 20) (.t 23)⟩,
  ⟨some 2, none, .mov (.t 24)⟩]
def c22_a5 : List (List Nat) := [[], [0], [], [], [2, 3], [1, 4], [5, 4, 0, 1, 2, 3, 4, 5]]
abbrev c22_m5 : List Am.Mark := [⟨false, 0, 1⟩, ⟨false, 0, 1⟩, ⟨false, 0, 0⟩, ⟨false, 0, 0⟩, ⟨true, 0, 1⟩, ⟨false, 1, 1⟩, ⟨false, 1, 1⟩]
theorem c22_d5 : drawFine c22_r5 c22_a5 c22_m5 = true := by decide +kernel
abbrev c22 : IR := .seq (.reg c22_r1) (.seq (.reg c22_r2) (.seq (.seq (.reg c22_r3) (.cond (.t 18) (.seq (.reg c22_r4) (.ret)) (.skip))) (.seq (.dreg c22_r5 c22_a5) (.ret))))
abbrev F22 : FnA := ⟨25, c22, [.t 2]⟩
theorem ok22 : cFn Tryz.prog 22 = some F22 := by kernel_rfl
theorem hb22 : HasBody Tryz.prog 22 := ⟨_, Tryz.func22, by kernel_rfl, by kernel_rfl⟩
/-! lint.Clashes$1 -/
abbrev c23_r1 : List Ins := [
  ⟨some 2, none, .box (.t 0)⟩,
  ⟨some 3, none, .mov (.c (.sl .full []))⟩]
abbrev c23_r2 : List Ins := [
  ⟨some 4, none, .mov (.c (.sl .full []))⟩]
abbrev c23_r3 : List Ins := [
  ⟨some 7, none, .faddr 0 (.t 1)⟩,
  ⟨some 8, none, .load 1 false (.t 7)⟩,
  ⟨some 9, none, .len (.t 8)⟩,
  ⟨some 10, none, .mov (.c (.int .i64 0))⟩]
abbrev c23_r4 : List Ins := [
  ⟨some 11, none, .bin .lss (.t 10) (.t 9)⟩]
abbrev c23_r5 : List Ins := [
  ⟨some 12, none, .iaddr 5 (.t 8) (.t 10)⟩,
  ⟨some 13, none, .load 5 true (.t 12)⟩,
  ⟨some 6, none, .alloc [.str ⟨#[]⟩, .int .i64 0, .sl .full [], .sl .full [], .bool false]⟩,
  ⟨none, none, .store 5 (.t 6) (.t 13)⟩]
abbrev c23_r6 : List Ins := [
  ⟨some 14, none, .mov (.t 4)⟩,
  ⟨some 15, none, .load 5 true (.t 2)⟩,
  ⟨some 16, none, .load 5 true (.t 6)⟩,
  ⟨some 17, none, .call (.c (.fn 24 [] [])) [.t 15, .t 16]⟩,
  ⟨some 18, none, .bsl 1 1 [.bool false] [(0, .t 17)]⟩,
  ⟨some 19, none, .append 1 1 (.t 14) (.t 18)⟩,
  ⟨some 4, none, .mov (.t 19)⟩]
abbrev c23_r7 : List Ins := [
  ⟨some 20, none, .bin .add (.t 10) (.c (.int .i64 1))⟩,
  ⟨some 10, none, .mov (.t 20)⟩]
abbrev c23_l8 : IR := .seq (.reg c23_r4) (.seq (.cond (.t 11) (.skip) (.exit 0)) (.seq (.blk 1 (.seq (.reg c23_r5) (.reg c23_r6))) (.reg c23_r7)))
abbrev c23_r9 : List Ins := [
  ⟨some 21, none, .mov (.t 4)⟩,
  ⟨some 3, none, .mov (.t 21)⟩]
abbrev c23 : IR := .seq (.reg c23_r1) (.seq (.reg c23_r2) (.seq (.seq (.reg c23_r3) (.blk 0 (.loop c23_l8))) (.seq (.reg c23_r9) (.ret))))
abbrev F23 : FnA := ⟨22, c23, [.t 3]⟩
theorem ok23 : cFn Tryz.prog 23 = some F23 := by kernel_rfl
theorem hb23 : HasBody Tryz.prog 23 := ⟨_, Tryz.func23, by kernel_rfl, by kernel_rfl⟩
/-! lint.clash -/
abbrev c24_r1 : List Ins := [
  ⟨some 2, none, .box (.t 0)⟩,
  ⟨some 3, none, .box (.t 1)⟩,
  ⟨some 4, none, .mov (.c (.bool false))⟩]
abbrev c24_r2 : List Ins := [
  ⟨some 7, none, .faddr 2 (.t 2)⟩,
  ⟨some 8, none, .load 1 false (.t 7)⟩,
  ⟨some 9, none, .len (.t 8)⟩,
  ⟨some 10, none, .mov (.c (.int .i64 0))⟩]
abbrev c24_r3 : List Ins := [
  ⟨some 11, none, .bin .lss (.t 10) (.t 9)⟩]
abbrev c24_r4 : List Ins := [
  ⟨some 12, none, .mov (.t 10)⟩,
  ⟨some 5, none, .mov (.t 12)⟩]
abbrev c24_r5 : List Ins := [
  ⟨some 13, none, .faddr 2 (.t 3)⟩,
  ⟨some 14, none, .load 1 false (.t 13)⟩,
  ⟨some 15, none, .len (.t 14)⟩,
  ⟨some 16, none, .mov (.c (.int .i64 0))⟩]
abbrev c24_r6 : List Ins := [
  ⟨some 17, none, .bin .lss (.t 16) (.t 15)⟩]
abbrev c24_r7 : List Ins := [
  ⟨some 18, none, .mov (.t 16)⟩,
  ⟨some 6, none, .mov (.t 18)⟩]
abbrev c24_r8 : List Ins := [
  ⟨some 19, none, .load 5 true (.t 2)⟩,
  ⟨some 20, none, .mov (.t 5)⟩,
  ⟨some 21, none, .load 5 true (.t 3)⟩,
  ⟨some 22, none, .mov (.t 6)⟩,
  ⟨some 23, none, .call (.c (.fn 15 [] [])) [.t 19, .t 20, .t 21, .t 22]⟩]
abbrev c24_r9 : List Ins := [
  ⟨some 4, none, .mov (.c (.bool true))⟩]
abbrev c24_r10 : List Ins := [
  ⟨some 24, none, .bin .add (.t 16) (.c (.int .i64 1))⟩,
  ⟨some 16, none, .mov (.t 24)⟩]
abbrev c24_l11 : IR := .seq (.reg c24_r6) (.seq (.cond (.t 17) (.skip) (.exit 2)) (.seq (.blk 3 (.seq (.reg c24_r7) (.seq (.reg c24_r8) (.cond (.t 23) (.seq (.reg c24_r9) (.ret)) (.skip))))) (.reg c24_r10)))
abbrev c24_r12 : List Ins := [
  ⟨some 25, none, .bin .add (.t 10) (.c (.int .i64 1))⟩,
  ⟨some 10, none, .mov (.t 25)⟩]
abbrev c24_l13 : IR := .seq (.reg c24_r3) (.seq (.cond (.t 11) (.skip) (.exit 0)) (.seq (.blk 1 (.seq (.reg c24_r4) (.seq (.reg c24_r5) (.blk 2 (.loop c24_l11))))) (.reg c24_r12)))
abbrev c24_r14 : List Ins := [
  ⟨some 4, none, .mov (.c (.bool false))⟩]
abbrev c24 : IR := .seq (.reg c24_r1) (.seq (.seq (.reg c24_r2) (.blk 0 (.loop c24_l13))) (.seq (.reg c24_r14) (.ret)))
abbrev F24 : FnA := ⟨26, c24, [.t 4]⟩
theorem ok24 : cFn Tryz.prog 24 = some F24 := by kernel_rfl
theorem hb24 : HasBody Tryz.prog 24 := ⟨_, Tryz.func24, by kernel_rfl, by kernel_rfl⟩
/-! cat.Open -/
abbrev c25_r1 : List Ins := [
  ⟨some 1, none, .box (.t 0)⟩,
  ⟨some 2, none, .alloc [.sl .full [], .int .i64 0, .int .i64 0, .int .i64 0, .int .i64 0, .int .i64 0, .int .i64 0, .int .i64 0, .int .i64 0, .int .i64 0, .int .i64 0, .int .i64 0, .int .i64 0, .int .i64 0, .int .i64 0, .int .i64 0, .int .i64 0]⟩]
abbrev c25_r2 : List Ins := [
  ⟨some 3, none, .load 17 true (.t 1)⟩,
  ⟨some 4, none, .call (.c (.fn 42 [] [])) [.t 3]⟩,
  ⟨none, none, .store 17 (.t 1) (.t 4)⟩]
abbrev c25_r3 : List Ins := [
  ⟨some 5, none, .load 17 true (.t 1)⟩,
  ⟨some 6, none, .mkfn 43 [] [.t 1]⟩,
  ⟨some 7, none, .call (.c (.fn 39 [] [])) [.t 5, .t 6]⟩,
  ⟨some 8, none, .faddr 1 (.t 1)⟩,
  ⟨none, none, .store 16 (.t 8) (.t 7)⟩]
abbrev c25_r4 : List Ins := [
  ⟨some 9, none, .load 17 true (.t 1)⟩,
  ⟨none, none, .store 17 (.t 2) (.t 9)⟩]
abbrev c25 : IR := .seq (.reg c25_r1) (.seq (.reg c25_r2) (.seq (.reg c25_r3) (.seq (.reg c25_r4) (.ret))))
abbrev F25 : FnA := ⟨10, c25, [.cell 2 17 true]⟩
theorem ok25 : cFn Tryz.prog 25 = some F25 := by kernel_rfl
theorem hb25 : HasBody Tryz.prog 25 := ⟨_, Tryz.func25, by kernel_rfl, by kernel_rfl⟩
/-! ref11.May -/
abbrev c26_r1 : List Ins := [
  ⟨some 1, none, .box (.t 0)⟩,
  ⟨some 2, none, .mov (.c (.bool false))⟩]
abbrev c26_r2 : List Ins := [
  ⟨some 7, none, .faddr 2 (.t 1)⟩,
  ⟨some 8, none, .load 1 false (.t 7)⟩,
  ⟨some 9, none, .len (.t 8)⟩,
  ⟨some 3, none, .mov (.t 9)⟩]
abbrev c26_r3 : List Ins := [
  ⟨some 10, none, .faddr 0 (.t 1)⟩,
  ⟨some 11, none, .load 1 false (.t 10)⟩,
  ⟨some 12, none, .lenS (.t 11)⟩,
  ⟨some 13, none, .bin .lss (.t 12) (.c (.int .i64 1))⟩,
  ⟨some 14, none, .mov (.t 13)⟩,
  ⟨some 15, some (14, false), .faddr 0 (.t 1)⟩,
  ⟨some 16, some (14, false), .load 1 false (.t 15)⟩,
  ⟨some 17, some (14, false), .lenS (.t 16)⟩,
  ⟨some 18, some (14, false), .bin .gtr (.t 17) (.c (.int .i64 16))⟩,
  ⟨some 19, none, .pick (.t 14) (.c (.bool true)) (.t 18)⟩,
  ⟨some 20, none, .mov (.t 19)⟩,
  ⟨some 21, some (20, false), .faddr 1 (.t 1)⟩,
  ⟨some 22, some (20, false), .load 1 false (.t 21)⟩,
  ⟨some 23, some (20, false), .bin .lss (.t 22) (.c (.int .i64 0))⟩,
  ⟨some 24, none, .pick (.t 20) (.c (.bool true)) (.t 23)⟩,
  ⟨some 25, none, .mov (.t 24)⟩,
  ⟨some 26, some (25, false), .faddr 1 (.t 1)⟩,
  ⟨some 27, some (25, false), .load 1 false (.t 26)⟩,
  ⟨some 28, some (25, false), .bin .gtr (.t 27) (.c (.int .i64 3))⟩,
  ⟨some 29, none, .pick (.t 25) (.c (.bool true)) (.t 28)⟩,
  ⟨some 30, none, .mov (.t 29)⟩,
  ⟨some 31, some (30, false), .mov (.t 3)⟩,
  ⟨some 32, some (30, false), .bin .lss (.t 31) (.c (.int .i64 1))⟩,
  ⟨some 33, none, .pick (.t 30) (.c (.bool true)) (.t 32)⟩,
  ⟨some 34, none, .mov (.t 33)⟩,
  ⟨some 35, some (34, false), .mov (.t 3)⟩,
  ⟨some 36, some (34, false), .bin .gtr (.t 35) (.c (.int .i64 4))⟩,
  ⟨some 37, none, .pick (.t 34) (.c (.bool true)) (.t 36)⟩,
  ⟨some 38, none, .mov (.t 37)⟩,
  ⟨some 39, some (38, false), .faddr 3 (.t 1)⟩,
  ⟨some 40, some (38, false), .load 1 false (.t 39)⟩,
  ⟨some 41, some (38, false), .len (.t 40)⟩,
  ⟨some 42, some (38, false), .mov (.t 3)⟩,
  ⟨some 43, some (38, false), .bin .neq (.t 41) (.t 42)⟩,
  ⟨some 44, none, .pick (.t 38) (.c (.bool true)) (.t 43)⟩]
abbrev c26_r4 : List Ins := [
  ⟨some 2, none, .mov (.c (.bool false))⟩]
abbrev c26_r5 : List Ins := [
  ⟨some 4, none, .mov (.c (.int .i64 0))⟩]
abbrev c26_r6 : List Ins := [
  ⟨some 45, none, .mov (.t 4)⟩,
  ⟨some 46, none, .mov (.t 3)⟩,
  ⟨some 47, none, .bin .lss (.t 45) (.t 46)⟩]
abbrev c26_r7 : List Ins := [
  ⟨some 50, none, .faddr 2 (.t 1)⟩,
  ⟨some 51, none, .load 1 false (.t 50)⟩,
  ⟨some 52, none, .mov (.t 4)⟩,
  ⟨some 53, none, .iaddr 2 (.t 51) (.t 52)⟩,
  ⟨some 54, none, .faddr 0 (.t 53)⟩,
  ⟨some 55, none, .load 1 false (.t 54)⟩,
  ⟨some 56, none, .faddr 1 (.t 1)⟩,
  ⟨some 57, none, .load 1 false (.t 56)⟩,
  ⟨some 58, none, .call (.c (.fn 44 [] [])) [.t 55, .t 57]⟩,
  ⟨some 59, none, .un .not (.t 58)⟩,
  ⟨some 60, none, .mov (.t 59)⟩,
  ⟨some 61, some (60, false), .faddr 2 (.t 1)⟩,
  ⟨some 62, some (60, false), .load 1 false (.t 61)⟩,
  ⟨some 63, some (60, false), .mov (.t 4)⟩,
  ⟨some 64, some (60, false), .iaddr 2 (.t 62) (.t 63)⟩,
  ⟨some 65, some (60, false), .faddr 1 (.t 64)⟩,
  ⟨some 66, some (60, false), .load 1 false (.t 65)⟩,
  ⟨some 67, some (60, false), .faddr 1 (.t 1)⟩,
  ⟨some 68, some (60, false), .load 1 false (.t 67)⟩,
  ⟨some 69, some (60, false), .call (.c (.fn 45 [] [])) [.t 66, .t 68]⟩,
  ⟨some 70, some (60, false), .un .not (.t 69)⟩,
  ⟨some 71, none, .pick (.t 60) (.c (.bool true)) (.t 70)⟩,
  ⟨some 72, none, .mov (.t 71)⟩,
  ⟨some 73, some (72, false), .faddr 3 (.t 1)⟩,
  ⟨some 74, some (72, false), .load 1 false (.t 73)⟩,
  ⟨some 75, some (72, false), .mov (.t 4)⟩,
  ⟨some 76, some (72, false), .iaddr 2 (.t 74) (.t 75)⟩,
  ⟨some 77, some (72, false), .faddr 1 (.t 76)⟩,
  ⟨some 78, some (72, false), .load 1 false (.t 77)⟩,
  ⟨some 79, some (72, false), .faddr 1 (.t 1)⟩,
  ⟨some 80, some (72, false), .load 1 false (.t 79)⟩,
  ⟨some 81, some (72, false), .call (.c (.fn 45 [] [])) [.t 78, .t 80]⟩,
  ⟨some 82, some (72, false), .un .not (.t 81)⟩,
  ⟨some 83, none, .pick (.t 72) (.c (.bool true)) (.t 82)⟩]
def c26_a7 : List (List Nat) := [[], [0], [], [1, 2], [3], [4], [], [6], [5, 7], [8], [9, 8], [10], [11, 10], [10], [12, 13, 10], [14, 10], [15, 10], [10], [17, 10], [16, 18, 10, 10], [19, 10], [10, 20], [21, 19], [22], [23, 22], [22], [24, 25, 22], [26, 22], [27, 22], [22], [29, 22], [28, 30, 22, 22], [31, 22], [22, 32]]
abbrev c26_m7 : List Am.Mark := [⟨false, 0, 0⟩, ⟨false, 0, 0⟩, ⟨false, 0, 0⟩, ⟨false, 0, 0⟩, ⟨false, 0, 0⟩, ⟨false, 0, 0⟩, ⟨false, 0, 0⟩, ⟨false, 0, 0⟩, ⟨false, 0, 0⟩, ⟨false, 0, 0⟩, ⟨false, 0, 0⟩, ⟨false, 0, 0⟩, ⟨false, 0, 0⟩, ⟨false, 0, 0⟩, ⟨false, 0, 0⟩, ⟨false, 0, 0⟩, ⟨false, 0, 0⟩, ⟨false, 0, 0⟩, ⟨false, 0, 0⟩, ⟨false, 0, 0⟩, ⟨false, 0, 0⟩, ⟨false, 0, 0⟩, ⟨false, 0, 0⟩, ⟨false, 0, 0⟩, ⟨false, 0, 0⟩, ⟨false, 0, 0⟩, ⟨false, 0, 0⟩, ⟨false, 0, 0⟩, ⟨false, 0, 0⟩, ⟨false, 0, 0⟩, ⟨false, 0, 0⟩, ⟨false, 0, 0⟩, ⟨false, 0, 0⟩, ⟨false, 0, 0⟩]
theorem c26_d7 : drawFine c26_r7 c26_a7 c26_m7 = true := by decide +kernel
abbrev c26_r8 : List Ins := [
  ⟨some 2, none, .mov (.c (.bool false))⟩]
abbrev c26_r9 : List Ins := [
  ⟨some 84, none, .faddr 3 (.t 1)⟩,
  ⟨some 85, none, .load 1 false (.t 84)⟩,
  ⟨some 86, none, .mov (.t 4)⟩,
  ⟨some 87, none, .iaddr 2 (.t 85) (.t 86)⟩,
  ⟨some 88, none, .faddr 0 (.t 87)⟩,
  ⟨some 89, none, .load 1 false (.t 88)⟩,
  ⟨some 5, none, .mov (.t 89)⟩]
abbrev c26_r10 : List Ins := [
  ⟨some 90, none, .mov (.t 5)⟩,
  ⟨some 91, none, .len (.t 90)⟩,
  ⟨some 92, none, .bin .gtr (.t 91) (.c (.int .i64 0))⟩,
  ⟨some 93, none, .mov (.t 92)⟩,
  ⟨some 94, some (93, true), .mov (.t 5)⟩,
  ⟨some 95, some (93, true), .faddr 1 (.t 1)⟩,
  ⟨some 96, some (93, true), .load 1 false (.t 95)⟩,
  ⟨some 97, some (93, true), .call (.c (.fn 44 [] [])) [.t 94, .t 96]⟩,
  ⟨some 98, some (93, true), .un .not (.t 97)⟩,
  ⟨some 99, none, .pick (.t 93) (.t 98) (.c (.bool false))⟩]
abbrev c26_r11 : List Ins := [
  ⟨some 2, none, .mov (.c (.bool false))⟩]
abbrev c26_r12 : List Ins := [
  ⟨some 6, none, .mov (.c (.int .i64 0))⟩]
abbrev c26_r13 : List Ins := [
  ⟨some 100, none, .mov (.t 6)⟩,
  ⟨some 101, none, .mov (.t 5)⟩,
  ⟨some 102, none, .len (.t 101)⟩,
  ⟨some 103, none, .bin .lss (.t 100) (.t 102)⟩]
abbrev c26_r14 : List Ins := [
  ⟨some 106, none, .mov (.t 5)⟩,
  ⟨some 107, none, .mov (.t 6)⟩,
  ⟨some 108, none, .iaddr 9 (.t 106) (.t 107)⟩,
  ⟨some 109, none, .faddr 0 (.t 108)⟩,
  ⟨some 110, none, .load 1 false (.t 109)⟩,
  ⟨some 111, none, .bin .geq (.t 110) (.c (.int .i64 6))⟩]
abbrev c26_r15 : List Ins := [
  ⟨some 2, none, .mov (.c (.bool false))⟩]
abbrev c26_r16 : List Ins := [
  ⟨some 104, none, .mov (.t 6)⟩,
  ⟨some 105, none, .bin .add (.t 104) (.c (.int .i64 1))⟩,
  ⟨some 6, none, .mov (.t 105)⟩]
abbrev c26_l17 : IR := .seq (.seq (.reg c26_r13) (.cond (.t 103) (.skip) (.exit 2))) (.seq (.blk 3 (.seq (.reg c26_r14) (.cond (.t 111) (.seq (.reg c26_r15) (.ret)) (.skip)))) (.reg c26_r16))
abbrev c26_r18 : List Ins := [
  ⟨some 48, none, .mov (.t 4)⟩,
  ⟨some 49, none, .bin .add (.t 48) (.c (.int .i64 1))⟩,
  ⟨some 4, none, .mov (.t 49)⟩]
abbrev c26_l19 : IR := .seq (.seq (.reg c26_r6) (.cond (.t 47) (.skip) (.exit 0))) (.seq (.blk 1 (.seq (.seq (.dreg c26_r7 c26_a7) (.cond (.t 83) (.seq (.reg c26_r8) (.ret)) (.skip))) (.seq (.reg c26_r9) (.seq (.seq (.reg c26_r10) (.cond (.t 99) (.seq (.reg c26_r11) (.ret)) (.skip))) (.seq (.reg c26_r12) (.blk 2 (.loop c26_l17))))))) (.reg c26_r18))
abbrev c26_r20 : List Ins := [
  ⟨some 2, none, .mov (.c (.bool true))⟩]
abbrev c26 : IR := .seq (.reg c26_r1) (.seq (.reg c26_r2) (.seq (.seq (.reg c26_r3) (.cond (.t 44) (.seq (.reg c26_r4) (.ret)) (.skip))) (.seq (.seq (.reg c26_r5) (.blk 0 (.loop c26_l19))) (.seq (.reg c26_r20) (.ret)))))
abbrev F26 : FnA := ⟨112, c26, [.t 2]⟩
theorem ok26 : cFn Tryz.prog 26 = some F26 := by kernel_rfl
theorem hb26 : HasBody Tryz.prog 26 := ⟨_, Tryz.func26, by kernel_rfl, by kernel_rfl⟩
/-! ref04.Meet -/
abbrev c28_r1 : List Ins := [
  ⟨some 4, none, .mov (.c (.bool false))⟩]
abbrev c28_r2 : List Ins := [
  ⟨some 5, none, .mov (.c (.int .i64 0))⟩]
abbrev c28_r3 : List Ins := [
  ⟨some 6, none, .mov (.t 5)⟩,
  ⟨some 7, none, .bin .lss (.t 6) (.c (.int .i64 1000))⟩]
abbrev c28_r4 : List Ins := [
  ⟨some 10, none, .mov (.t 0)⟩,
  ⟨some 11, none, .mov (.t 5)⟩,
  ⟨some 12, none, .nilck (.t 10)⟩,
  ⟨some 13, none, .iaddrA 1000 1 (.t 12) (.t 11)⟩,
  ⟨some 14, none, .load 1 false (.t 13)⟩,
  ⟨some 15, none, .mov (.t 14)⟩,
  ⟨some 16, some (15, true), .mov (.t 1)⟩,
  ⟨some 17, some (15, true), .mov (.t 5)⟩,
  ⟨some 18, some (15, true), .nilck (.t 16)⟩,
  ⟨some 19, some (15, true), .iaddrA 1000 1 (.t 18) (.t 17)⟩,
  ⟨some 20, some (15, true), .load 1 false (.t 19)⟩,
  ⟨some 21, none, .pick (.t 15) (.t 20) (.c (.bool false))⟩]
abbrev c28_r5 : List Ins := [
  ⟨some 4, none, .mov (.c (.bool true))⟩]
abbrev c28_r6 : List Ins := [
  ⟨some 8, none, .mov (.t 5)⟩,
  ⟨some 9, none, .bin .add (.t 8) (.c (.int .i64 1))⟩,
  ⟨some 5, none, .mov (.t 9)⟩]
abbrev c28_l7 : IR := .seq (.seq (.reg c28_r3) (.cond (.t 7) (.skip) (.exit 0))) (.seq (.blk 1 (.seq (.reg c28_r4) (.cond (.t 21) (.seq (.reg c28_r5) (.ret)) (.skip)))) (.reg c28_r6))
abbrev c28_r8 : List Ins := [
  ⟨some 4, none, .mov (.c (.bool false))⟩]
abbrev c28 : IR := .seq (.reg c28_r1) (.seq (.seq (.reg c28_r2) (.blk 0 (.loop c28_l7))) (.seq (.reg c28_r8) (.ret)))
abbrev F28 : FnA := ⟨22, c28, [.t 4]⟩
theorem ok28 : cFn Tryz.prog 28 = some F28 := by kernel_rfl
theorem hb28 : HasBody Tryz.prog 28 := ⟨_, Tryz.func28, by kernel_rfl, by kernel_rfl⟩
/-! class.May -/
abbrev c30_r1 : List Ins := [
  ⟨some 1, none, .box (.t 0)⟩,
  ⟨some 2, none, .alloc [.bool false]⟩]
abbrev c30_r2 : List Ins := [
  ⟨some 6, none, .faddr 2 (.t 1)⟩,
  ⟨some 7, none, .load 1 false (.t 6)⟩,
  ⟨some 8, none, .len (.t 7)⟩,
  ⟨some 3, none, .mov (.t 8)⟩]
abbrev c30_r3 : List Ins := [
  ⟨some 9, none, .faddr 0 (.t 1)⟩,
  ⟨some 10, none, .load 1 false (.t 9)⟩,
  ⟨some 11, none, .lenS (.t 10)⟩,
  ⟨some 12, none, .bin .lss (.t 11) (.c (.int .i64 1))⟩,
  ⟨some 13, none, .mov (.t 12)⟩,
  ⟨some 14, some (13, false), .faddr 0 (.t 1)⟩,
  ⟨some 15, some (13, false), .load 1 false (.t 14)⟩,
  ⟨some 16, some (13, false), .lenS (.t 15)⟩,
  ⟨some 17, some (13, false), .bin .gtr (.t 16) (.c (.int .i64 16))⟩,
  ⟨some 18, none, .pick (.t 13) (.c (.bool true)) (.t 17)⟩,
  ⟨some 19, none, .mov (.t 18)⟩,
  ⟨some 20, some (19, false), .faddr 1 (.t 1)⟩,
  ⟨some 21, some (19, false), .load 1 false (.t 20)⟩,
  ⟨some 22, some (19, false), .bin .lss (.t 21) (.c (.int .i64 0))⟩,
  ⟨some 23, none, .pick (.t 19) (.c (.bool true)) (.t 22)⟩,
  ⟨some 24, none, .mov (.t 23)⟩,
  ⟨some 25, some (24, false), .faddr 1 (.t 1)⟩,
  ⟨some 26, some (24, false), .load 1 false (.t 25)⟩,
  ⟨some 27, some (24, false), .bin .gtr (.t 26) (.c (.int .i64 3))⟩,
  ⟨some 28, none, .pick (.t 24) (.c (.bool true)) (.t 27)⟩,
  ⟨some 29, none, .mov (.t 28)⟩,
  ⟨some 30, some (29, false), .mov (.t 3)⟩,
  ⟨some 31, some (29, false), .bin .lss (.t 30) (.c (.int .i64 1))⟩,
  ⟨some 32, none, .pick (.t 29) (.c (.bool true)) (.t 31)⟩,
  ⟨some 33, none, .mov (.t 32)⟩,
  ⟨some 34, some (33, false), .mov (.t 3)⟩,
  ⟨some 35, some (33, false), .bin .gtr (.t 34) (.c (.int .i64 4))⟩,
  ⟨some 36, none, .pick (.t 33) (.c (.bool true)) (.t 35)⟩,
  ⟨some 37, none, .mov (.t 36)⟩,
  ⟨some 38, some (37, false), .faddr 3 (.t 1)⟩,
  ⟨some 39, some (37, false), .load 1 false (.t 38)⟩,
  ⟨some 40, some (37, false), .len (.t 39)⟩,
  ⟨some 41, some (37, false), .mov (.t 3)⟩,
  ⟨some 42, some (37, false), .bin .neq (.t 40) (.t 41)⟩,
  ⟨some 43, none, .pick (.t 37) (.c (.bool true)) (.t 42)⟩]
abbrev c30_r4 : List Ins := [
  ⟨none, none, .store 1 (.t 2) (.c (.bool false))⟩]
abbrev c30_r5 : List Ins := [
  ⟨some 44, none, .load 5 true (.t 1)⟩,
  ⟨some 45, none, .call (.c (.fn 48 [] [])) [.t 44]⟩]
abbrev c30_r6 : List Ins := [
  ⟨some 4, none, .alloc [.sl .full [], .sl .full []]⟩,
  ⟨none, none, .store 2 (.t 4) (.t 46)⟩]
abbrev c30_r7 : List Ins := [
  ⟨some 5, none, .alloc [.sl .full [], .sl .full []]⟩,
  ⟨none, none, .store 2 (.t 5) (.t 47)⟩]
abbrev c30_r8 : List Ins := [
  ⟨some 48, none, .faddr 0 (.t 4)⟩,
  ⟨some 49, none, .load 1 false (.t 48)⟩,
  ⟨some 50, none, .faddr 1 (.t 1)⟩,
  ⟨some 51, none, .load 1 false (.t 50)⟩,
  ⟨some 52, none, .call (.c (.fn 49 [] [])) [.t 49, .t 51]⟩,
  ⟨some 53, none, .un .not (.t 52)⟩,
  ⟨some 54, none, .mov (.t 53)⟩,
  ⟨some 55, some (54, false), .faddr 1 (.t 4)⟩,
  ⟨some 56, some (54, false), .load 1 false (.t 55)⟩,
  ⟨some 57, some (54, false), .faddr 1 (.t 1)⟩,
  ⟨some 58, some (54, false), .load 1 false (.t 57)⟩,
  ⟨some 59, some (54, false), .call (.c (.fn 35 [] [])) [.t 56, .t 58]⟩,
  ⟨some 60, some (54, false), .un .not (.t 59)⟩,
  ⟨some 61, none, .pick (.t 54) (.c (.bool true)) (.t 60)⟩,
  ⟨some 62, none, .mov (.t 61)⟩,
  ⟨some 63, some (62, false), .load 2 true (.t 5)⟩,
  ⟨some 64, some (62, false), .faddr 1 (.t 1)⟩,
  ⟨some 65, some (62, false), .load 1 false (.t 64)⟩,
  ⟨some 66, some (62, false), .call (.c (.fn 50 [] [])) [.t 63, .t 65]⟩,
  ⟨some 67, some (62, false), .un .not (.t 66)⟩,
  ⟨some 68, none, .pick (.t 62) (.c (.bool true)) (.t 67)⟩]
abbrev c30_r9 : List Ins := [
  ⟨none, none, .store 1 (.t 2) (.c (.bool false))⟩]
abbrev c30_x10 : IR := .seq (.reg c30_r6) (.reg c30_r7)
abbrev c30_y11 : IR := .blk 1 (.seq (.reg c30_r8) (.cond (.t 68) (.seq (.reg c30_r9) (.ret)) (.skip)))
abbrev c30_r12 : List Ins := [
  ⟨none, none, .store 1 (.t 2) (.c (.bool true))⟩]
abbrev c30 : IR := .seq (.reg c30_r1) (.seq (.reg c30_r2) (.seq (.seq (.reg c30_r3) (.cond (.t 43) (.seq (.reg c30_r4) (.ret)) (.skip))) (.seq (.seq (.reg c30_r5) (.blk 0 (.rngf (.t 45) [46, 47] c30_x10 c30_y11))) (.seq (.reg c30_r12) (.ret)))))
abbrev F30 : FnA := ⟨69, c30, [.cell 2 1 false]⟩
theorem ok30 : cFn Tryz.prog 30 = some F30 := by kernel_rfl
theorem hb30 : HasBody Tryz.prog 30 := ⟨_, Tryz.func30, by kernel_rfl, by kernel_rfl⟩
/-! lint.may -/
abbrev c31_r1 : List Ins := [
  ⟨some 4, none, .mov (.c (.sl .full []))⟩,
  ⟨some 5, none, .mov (.c (.sl .full []))⟩]
abbrev c31_r2 : List Ins := [
  ⟨some 9, none, .mov (.t 0)⟩,
  ⟨some 10, none, .len (.t 9)⟩,
  ⟨some 11, none, .mov (.c (.int .i64 0))⟩]
abbrev c31_r3 : List Ins := [
  ⟨some 12, none, .bin .lss (.t 11) (.t 10)⟩]
abbrev c31_r4 : List Ins := [
  ⟨some 13, none, .iaddr 5 (.t 9) (.t 11)⟩,
  ⟨some 14, none, .load 5 true (.t 13)⟩,
  ⟨some 7, none, .alloc [.int .i64 0, .int .i64 0, .int .i64 0, .int .i64 0, .bool false]⟩,
  ⟨none, none, .store 5 (.t 7) (.t 14)⟩]
abbrev c31_r5 : List Ins := [
  ⟨some 15, none, .load 5 true (.t 7)⟩,
  ⟨some 16, none, .mov (.t 1)⟩,
  ⟨some 17, none, .call (.c (.fn 19 [] [])) [.t 15, .t 16]⟩,
  ⟨some 8, none, .mov (.t 17)⟩]
abbrev c31_r6 : List Ins := [
  ⟨some 18, none, .mov (.t 4)⟩,
  ⟨some 19, none, .mov (.t 8)⟩,
  ⟨some 20, none, .call (.c (.fn 51 [] [])) [.t 18, .t 19]⟩,
  ⟨some 4, none, .mov (.t 20)⟩]
abbrev c31_r7 : List Ins := [
  ⟨some 21, none, .faddr 4 (.t 7)⟩,
  ⟨some 22, none, .load 1 false (.t 21)⟩]
abbrev c31_r8 : List Ins := [
  ⟨some 23, none, .mov (.t 5)⟩,
  ⟨some 24, none, .mov (.t 8)⟩,
  ⟨some 25, none, .call (.c (.fn 51 [] [])) [.t 23, .t 24]⟩,
  ⟨some 5, none, .mov (.t 25)⟩]
abbrev c31_r9 : List Ins := [
  ⟨some 26, none, .bin .add (.t 11) (.c (.int .i64 1))⟩,
  ⟨some 11, none, .mov (.t 26)⟩]
abbrev c31_l10 : IR := .seq (.reg c31_r3) (.seq (.cond (.t 12) (.skip) (.exit 0)) (.seq (.blk 1 (.seq (.reg c31_r4) (.seq (.reg c31_r5) (.seq (.reg c31_r6) (.seq (.reg c31_r7) (.cond (.t 22) (.reg c31_r8) (.skip))))))) (.reg c31_r9)))
abbrev c31_r11 : List Ins := [
  ⟨some 27, none, .mov (.t 4)⟩,
  ⟨some 28, none, .mov (.t 5)⟩,
  ⟨some 4, none, .mov (.t 27)⟩,
  ⟨some 5, none, .mov (.t 28)⟩]
abbrev c31 : IR := .seq (.reg c31_r1) (.seq (.seq (.reg c31_r2) (.blk 0 (.loop c31_l10))) (.seq (.reg c31_r11) (.ret)))
abbrev F31 : FnA := ⟨29, c31, [.t 4, .t 5]⟩
theorem ok31 : cFn Tryz.prog 31 = some F31 := by kernel_rfl
theorem hb31 : HasBody Tryz.prog 31 := ⟨_, Tryz.func31, by kernel_rfl, by kernel_rfl⟩
/-! keys.Meet -/
abbrev c32_r1 : List Ins := [
  ⟨some 4, none, .alloc [.bool false]⟩]
abbrev c32_r2 : List Ins := [
  ⟨some 5, none, .mov (.t 0)⟩,
  ⟨some 6, none, .bsl 1 1 [.sl .full []] [(0, .t 5)]⟩,
  ⟨some 7, none, .call (.c (.fn 53 [] [])) [.t 6]⟩,
  ⟨some 8, none, .mov (.t 1)⟩,
  ⟨some 9, none, .bsl 1 1 [.sl .full []] [(0, .t 8)]⟩,
  ⟨some 10, none, .call (.c (.fn 53 [] [])) [.t 9]⟩,
  ⟨some 11, none, .call (.c (.fn 52 [] [])) [.t 7, .t 10]⟩]
abbrev c32_r3 : List Ins := [
  ⟨none, none, .store 1 (.t 4) (.c (.bool true))⟩]
abbrev c32_x4 : IR := .skip
abbrev c32_y5 : IR := .blk 1 (.seq (.reg c32_r3) (.ret))
abbrev c32_r6 : List Ins := [
  ⟨none, none, .store 1 (.t 4) (.c (.bool false))⟩]
abbrev c32 : IR := .seq (.reg c32_r1) (.seq (.seq (.reg c32_r2) (.blk 0 (.rngf (.t 11) [12] c32_x4 c32_y5))) (.seq (.reg c32_r6) (.ret)))
abbrev F32 : FnA := ⟨13, c32, [.cell 4 1 false]⟩
theorem ok32 : cFn Tryz.prog 32 = some F32 := by kernel_rfl
theorem hb32 : HasBody Tryz.prog 32 := ⟨_, Tryz.func32, by kernel_rfl, by kernel_rfl⟩
/-! ref14.May -/
abbrev c33_r1 : List Ins := [
  ⟨some 2, none, .box (.t 0)⟩,
  ⟨some 4, none, .mov (.c (.bool false))⟩]
abbrev c33_r2 : List Ins := [
  ⟨some 11, none, .load 17 true (.t 2)⟩,
  ⟨some 12, none, .call (.c (.fn 9 [] [])) [.t 11]⟩,
  ⟨some 13, none, .un .not (.t 12)⟩,
  ⟨some 14, none, .mov (.t 13)⟩,
  ⟨some 15, some (14, false), .mov (.t 1)⟩,
  ⟨some 16, some (14, false), .len (.t 15)⟩,
  ⟨some 17, some (14, false), .bin .gtr (.t 16) (.c (.int .i64 100))⟩,
  ⟨some 18, none, .pick (.t 14) (.c (.bool true)) (.t 17)⟩]
abbrev c33_r3 : List Ins := [
  ⟨some 4, none, .mov (.c (.bool false))⟩]
abbrev c33_r4 : List Ins := [
  ⟨some 5, none, .mov (.c (.int .i64 0))⟩]
abbrev c33_r5 : List Ins := [
  ⟨some 19, none, .mov (.t 5)⟩,
  ⟨some 20, none, .mov (.t 1)⟩,
  ⟨some 21, none, .len (.t 20)⟩,
  ⟨some 22, none, .bin .lss (.t 19) (.t 21)⟩]
abbrev c33_r6 : List Ins := [
  ⟨some 25, none, .mov (.t 1)⟩,
  ⟨some 26, none, .mov (.t 5)⟩,
  ⟨some 27, none, .iaddr 6 (.t 25) (.t 26)⟩,
  ⟨some 28, none, .load 6 true (.t 27)⟩,
  ⟨some 6, none, .alloc [.int .i64 0, .int .i64 0, .int .i64 0, .bool false, .sl .full [], .sl .full []]⟩,
  ⟨none, none, .store 6 (.t 6) (.t 28)⟩]
abbrev c33_r7 : List Ins := [
  ⟨some 29, none, .faddr 0 (.t 6)⟩,
  ⟨some 30, none, .load 1 false (.t 29)⟩,
  ⟨some 31, none, .bin .lss (.t 30) (.c (.int .i64 0))⟩,
  ⟨some 32, none, .mov (.t 31)⟩,
  ⟨some 33, some (32, false), .load 17 true (.t 2)⟩,
  ⟨some 34, some (32, false), .faddr 1 (.t 6)⟩,
  ⟨some 35, some (32, false), .load 1 false (.t 34)⟩,
  ⟨some 36, some (32, false), .call (.c (.fn 54 [] [])) [.t 33, .t 35]⟩,
  ⟨some 37, some (32, false), .un .not (.t 36)⟩,
  ⟨some 38, none, .pick (.t 32) (.c (.bool true)) (.t 37)⟩,
  ⟨some 39, none, .mov (.t 38)⟩,
  ⟨some 40, some (39, false), .faddr 4 (.t 6)⟩,
  ⟨some 41, some (39, false), .load 1 false (.t 40)⟩,
  ⟨some 42, some (39, false), .call (.c (.fn 55 [] [])) [.t 41]⟩,
  ⟨some 43, some (39, false), .un .not (.t 42)⟩,
  ⟨some 44, none, .pick (.t 39) (.c (.bool true)) (.t 43)⟩,
  ⟨some 45, none, .mov (.t 44)⟩,
  ⟨some 46, some (45, false), .faddr 5 (.t 6)⟩,
  ⟨some 47, some (45, false), .load 1 false (.t 46)⟩,
  ⟨some 48, some (45, false), .call (.c (.fn 55 [] [])) [.t 47]⟩,
  ⟨some 49, some (45, false), .un .not (.t 48)⟩,
  ⟨some 50, none, .pick (.t 45) (.c (.bool true)) (.t 49)⟩,
  ⟨some 51, none, .mov (.t 50)⟩,
  ⟨some 52, some (51, false), .faddr 2 (.t 6)⟩,
  ⟨some 53, some (51, false), .load 1 false (.t 52)⟩,
  ⟨some 54, some (51, false), .bin .lss (.t 53) (.c (.int .i64 0))⟩,
  ⟨some 55, none, .pick (.t 51) (.c (.bool true)) (.t 54)⟩,
  ⟨some 56, none, .mov (.t 55)⟩,
  ⟨some 57, some (56, false), .faddr 2 (.t 6)⟩,
  ⟨some 58, some (56, false), .load 1 false (.t 57)⟩,
  ⟨some 59, some (56, false), .faddr 0 (.t 2)⟩,
  ⟨some 60, some (56, false), .load 1 false (.t 59)⟩,
  ⟨some 61, some (56, false), .faddr 1 (.t 6)⟩,
  ⟨some 62, some (56, false), .load 1 false (.t 61)⟩,
  ⟨some 63, some (56, false), .iaddr 5 (.t 60) (.t 62)⟩,
  ⟨some 64, some (56, false), .faddr 2 (.t 63)⟩,
  ⟨some 65, some (56, false), .load 1 false (.t 64)⟩,
  ⟨some 66, some (56, false), .len (.t 65)⟩,
  ⟨some 67, some (56, false), .bin .geq (.t 58) (.t 66)⟩,
  ⟨some 68, none, .pick (.t 56) (.c (.bool true)) (.t 67)⟩]
def c33_a7 : List (List Nat) := [[], [0], [1], [2], [3], [3], [5, 3], [4, 6, 3, 3], [7, 3], [3, 8], [9, 7], [10], [11, 10], [12, 10, 10], [13, 10], [10, 14], [15, 13], [16], [17, 16], [18, 16, 16], [19, 16], [16, 20], [21, 19], [22], [23, 22], [24, 22], [22, 25], [26, 22], [27], [28, 27], [27], [30, 27], [27], [32, 27], [31, 33, 27], [34, 27], [35, 27], [36, 27], [29, 37, 27], [27, 38]]
abbrev c33_m7 : List Am.Mark := [⟨false, 0, 0⟩, ⟨false, 0, 0⟩, ⟨false, 0, 0⟩, ⟨false, 0, 0⟩, ⟨false, 0, 0⟩, ⟨false, 0, 0⟩, ⟨false, 0, 0⟩, ⟨false, 0, 0⟩, ⟨false, 0, 0⟩, ⟨false, 0, 0⟩, ⟨false, 0, 0⟩, ⟨false, 0, 0⟩, ⟨false, 0, 0⟩, ⟨false, 0, 0⟩, ⟨false, 0, 0⟩, ⟨false, 0, 0⟩, ⟨false, 0, 0⟩, ⟨false, 0, 0⟩, ⟨false, 0, 0⟩, ⟨false, 0, 0⟩, ⟨false, 0, 0⟩, ⟨false, 0, 0⟩, ⟨false, 0, 0⟩, ⟨false, 0, 0⟩, ⟨false, 0, 0⟩, ⟨false, 0, 0⟩, ⟨false, 0, 0⟩, ⟨false, 0, 0⟩, ⟨false, 0, 0⟩, ⟨false, 0, 0⟩, ⟨false, 0, 0⟩, ⟨false, 0, 0⟩, ⟨false, 0, 0⟩, ⟨false, 0, 0⟩, ⟨false, 0, 0⟩, ⟨false, 0, 0⟩, ⟨false, 0, 0⟩, ⟨false, 0, 0⟩, ⟨false, 0, 0⟩, ⟨false, 0, 0⟩]
theorem c33_d7 : drawFine c33_r7 c33_a7 c33_m7 = true := by decide +kernel
abbrev c33_r8 : List Ins := [
  ⟨some 4, none, .mov (.c (.bool false))⟩]
abbrev c33_r9 : List Ins := [
  ⟨some 7, none, .mov (.c (.int .i64 (-1)))⟩]
abbrev c33_r10 : List Ins := [
  ⟨some 8, none, .mov (.c (.int .i64 0))⟩]
abbrev c33_r11 : List Ins := [
  ⟨some 69, none, .mov (.t 8)⟩,
  ⟨some 70, none, .mov (.t 5)⟩,
  ⟨some 71, none, .bin .lss (.t 69) (.t 70)⟩]
abbrev c33_r12 : List Ins := [
  ⟨some 74, none, .mov (.t 1)⟩,
  ⟨some 75, none, .mov (.t 8)⟩,
  ⟨some 76, none, .iaddr 6 (.t 74) (.t 75)⟩,
  ⟨some 77, none, .faddr 0 (.t 76)⟩,
  ⟨some 78, none, .load 1 false (.t 77)⟩,
  ⟨some 79, none, .faddr 0 (.t 6)⟩,
  ⟨some 80, none, .load 1 false (.t 79)⟩,
  ⟨some 81, none, .bin .eql (.t 78) (.t 80)⟩]
def c33_a12 : List (List Nat) := [[], [], [0, 1], [2], [3], [], [5], [4, 6]]
abbrev c33_m12 : List Am.Mark := [⟨false, 0, 0⟩, ⟨false, 0, 0⟩, ⟨false, 0, 0⟩, ⟨false, 0, 0⟩, ⟨false, 0, 0⟩, ⟨false, 0, 0⟩, ⟨false, 0, 0⟩, ⟨false, 0, 0⟩]
theorem c33_d12 : drawFine c33_r12 c33_a12 c33_m12 = true := by decide +kernel
abbrev c33_r13 : List Ins := [
  ⟨some 82, none, .mov (.t 8)⟩,
  ⟨some 7, none, .mov (.t 82)⟩]
abbrev c33_r14 : List Ins := [
  ⟨some 72, none, .mov (.t 8)⟩,
  ⟨some 73, none, .bin .add (.t 72) (.c (.int .i64 1))⟩,
  ⟨some 8, none, .mov (.t 73)⟩]
abbrev c33_l15 : IR := .seq (.seq (.reg c33_r11) (.cond (.t 71) (.skip) (.exit 2))) (.seq (.blk 3 (.seq (.dreg c33_r12 c33_a12) (.cond (.t 81) (.reg c33_r13) (.skip)))) (.reg c33_r14))
abbrev c33_r16 : List Ins := [
  ⟨some 83, none, .mov (.t 7)⟩,
  ⟨some 84, none, .bin .lss (.t 83) (.c (.int .i64 0))⟩]
abbrev c33_r17 : List Ins := [
  ⟨some 85, none, .faddr 3 (.t 6)⟩,
  ⟨some 86, none, .load 1 false (.t 85)⟩,
  ⟨some 87, none, .mov (.t 86)⟩,
  ⟨some 88, some (87, false), .faddr 2 (.t 6)⟩,
  ⟨some 89, some (87, false), .load 1 false (.t 88)⟩,
  ⟨some 90, some (87, false), .bin .neq (.t 89) (.c (.int .i64 0))⟩,
  ⟨some 91, none, .pick (.t 87) (.c (.bool true)) (.t 90)⟩]
abbrev c33_r18 : List Ins := [
  ⟨some 4, none, .mov (.c (.bool false))⟩]
abbrev c33_r19 : List Ins := [
  ⟨some 92, none, .mov (.t 1)⟩,
  ⟨some 93, none, .mov (.t 7)⟩,
  ⟨some 94, none, .iaddr 6 (.t 92) (.t 93)⟩,
  ⟨some 95, none, .load 6 true (.t 94)⟩,
  ⟨some 9, none, .alloc [.int .i64 0, .int .i64 0, .int .i64 0, .bool false, .sl .full [], .sl .full []]⟩,
  ⟨none, none, .store 6 (.t 9) (.t 95)⟩]
abbrev c33_r20 : List Ins := [
  ⟨some 96, none, .faddr 2 (.t 9)⟩,
  ⟨some 97, none, .load 1 false (.t 96)⟩,
  ⟨some 98, none, .bin .add (.t 97) (.c (.int .i64 1))⟩,
  ⟨some 10, none, .mov (.t 98)⟩]
abbrev c33_r21 : List Ins := [
  ⟨some 99, none, .faddr 3 (.t 6)⟩,
  ⟨some 100, none, .load 1 false (.t 99)⟩]
abbrev c33_r22 : List Ins := [
  ⟨some 101, none, .faddr 2 (.t 9)⟩,
  ⟨some 102, none, .load 1 false (.t 101)⟩,
  ⟨some 10, none, .mov (.t 102)⟩]
abbrev c33_r23 : List Ins := [
  ⟨some 103, none, .faddr 3 (.t 9)⟩,
  ⟨some 104, none, .load 1 false (.t 103)⟩]
abbrev c33_r24 : List Ins := [
  ⟨some 105, none, .faddr 2 (.t 9)⟩,
  ⟨some 106, none, .load 1 false (.t 105)⟩,
  ⟨some 107, none, .bin .sub (.t 106) (.c (.int .i64 1))⟩,
  ⟨some 10, none, .mov (.t 107)⟩]
abbrev c33_r25 : List Ins := [
  ⟨some 108, none, .faddr 1 (.t 6)⟩,
  ⟨some 109, none, .load 1 false (.t 108)⟩,
  ⟨some 110, none, .faddr 1 (.t 9)⟩,
  ⟨some 111, none, .load 1 false (.t 110)⟩,
  ⟨some 112, none, .bin .neq (.t 109) (.t 111)⟩,
  ⟨some 113, none, .mov (.t 112)⟩,
  ⟨some 114, some (113, false), .faddr 2 (.t 6)⟩,
  ⟨some 115, some (113, false), .load 1 false (.t 114)⟩,
  ⟨some 116, some (113, false), .mov (.t 10)⟩,
  ⟨some 117, some (113, false), .bin .neq (.t 115) (.t 116)⟩,
  ⟨some 118, none, .pick (.t 113) (.c (.bool true)) (.t 117)⟩,
  ⟨some 119, none, .mov (.t 118)⟩,
  ⟨some 120, some (119, false), .faddr 3 (.t 9)⟩,
  ⟨some 121, some (119, false), .load 1 false (.t 120)⟩,
  ⟨some 122, some (119, false), .mov (.t 121)⟩,
  ⟨some 123, some (122, true), .faddr 3 (.t 6)⟩,
  ⟨some 124, some (122, true), .load 1 false (.t 123)⟩,
  ⟨some 125, some (122, true), .un .not (.t 124)⟩,
  ⟨some 126, some (119, false), .pick (.t 122) (.t 125) (.c (.bool false))⟩,
  ⟨some 127, none, .pick (.t 119) (.c (.bool true)) (.t 126)⟩]
abbrev c33_r26 : List Ins := [
  ⟨some 4, none, .mov (.c (.bool false))⟩]
abbrev c33_r27 : List Ins := [
  ⟨some 23, none, .mov (.t 5)⟩,
  ⟨some 24, none, .bin .add (.t 23) (.c (.int .i64 1))⟩,
  ⟨some 5, none, .mov (.t 24)⟩]
abbrev c33_l28 : IR := .seq (.seq (.reg c33_r5) (.cond (.t 22) (.skip) (.exit 0))) (.seq (.blk 1 (.seq (.reg c33_r6) (.seq (.seq (.dreg c33_r7 c33_a7) (.cond (.t 68) (.seq (.reg c33_r8) (.ret)) (.skip))) (.seq (.reg c33_r9) (.seq (.seq (.reg c33_r10) (.blk 2 (.loop c33_l15))) (.seq (.seq (.reg c33_r16) (.cond (.t 84) (.seq (.seq (.reg c33_r17) (.cond (.t 91) (.seq (.reg c33_r18) (.ret)) (.skip))) (.exit 1)) (.skip))) (.seq (.reg c33_r19) (.seq (.reg c33_r20) (.seq (.seq (.reg c33_r21) (.cond (.t 100) (.seq (.reg c33_r22) (.seq (.reg c33_r23) (.cond (.t 104) (.reg c33_r24) (.skip)))) (.skip))) (.seq (.reg c33_r25) (.cond (.t 127) (.seq (.reg c33_r26) (.ret)) (.skip)))))))))))) (.reg c33_r27))
abbrev c33_r29 : List Ins := [
  ⟨some 4, none, .mov (.c (.bool true))⟩]
abbrev c33 : IR := .seq (.reg c33_r1) (.seq (.seq (.reg c33_r2) (.cond (.t 18) (.seq (.reg c33_r3) (.ret)) (.skip))) (.seq (.seq (.reg c33_r4) (.blk 0 (.loop c33_l28))) (.seq (.reg c33_r29) (.ret))))
abbrev F33 : FnA := ⟨128, c33, [.t 4]⟩
theorem ok33 : cFn Tryz.prog 33 = some F33 := by kernel_rfl
theorem hb33 : HasBody Tryz.prog 33 := ⟨_, Tryz.func33, by kernel_rfl, by kernel_rfl⟩
/-! ref16.Cycle -/
abbrev c34_r1 : List Ins := [
  ⟨some 2, none, .box (.t 0)⟩,
  ⟨some 4, none, .mov (.c (.sl .full []))⟩]
abbrev c34_r2 : List Ins := [
  ⟨some 8, none, .load 17 true (.t 2)⟩,
  ⟨some 9, none, .mov (.t 1)⟩,
  ⟨some 10, none, .call (.c (.fn 56 [] [])) [.t 8, .t 9]⟩,
  ⟨some 5, none, .mov (.t 10)⟩]
abbrev c34_r3 : List Ins := [
  ⟨some 6, none, .mov (.c (.sl .full []))⟩]
abbrev c34_r4 : List Ins := [
  ⟨some 7, none, .mov (.c (.int .i64 0))⟩]
abbrev c34_r5 : List Ins := [
  ⟨some 11, none, .mov (.t 7)⟩,
  ⟨some 12, none, .mov (.t 1)⟩,
  ⟨some 13, none, .len (.t 12)⟩,
  ⟨some 14, none, .bin .lss (.t 11) (.t 13)⟩]
abbrev c34_r6 : List Ins := [
  ⟨some 17, none, .mov (.t 5)⟩,
  ⟨some 18, none, .mov (.t 7)⟩,
  ⟨some 19, none, .iaddr 1 (.t 17) (.t 18)⟩,
  ⟨some 20, none, .load 1 false (.t 19)⟩,
  ⟨some 21, none, .mov (.t 7)⟩,
  ⟨some 22, none, .iaddr 1 (.t 20) (.t 21)⟩,
  ⟨some 23, none, .load 1 false (.t 22)⟩]
abbrev c34_r7 : List Ins := [
  ⟨some 24, none, .mov (.t 6)⟩,
  ⟨some 25, none, .mov (.t 7)⟩,
  ⟨some 26, none, .bsl 1 1 [.int .i64 0] [(0, .t 25)]⟩,
  ⟨some 27, none, .append 1 8 (.t 24) (.t 26)⟩,
  ⟨some 6, none, .mov (.t 27)⟩]
abbrev c34_r8 : List Ins := [
  ⟨some 15, none, .mov (.t 7)⟩,
  ⟨some 16, none, .bin .add (.t 15) (.c (.int .i64 1))⟩,
  ⟨some 7, none, .mov (.t 16)⟩]
abbrev c34_l9 : IR := .seq (.seq (.reg c34_r5) (.cond (.t 14) (.skip) (.exit 0))) (.seq (.blk 1 (.seq (.reg c34_r6) (.cond (.t 23) (.reg c34_r7) (.skip)))) (.reg c34_r8))
abbrev c34_r10 : List Ins := [
  ⟨some 28, none, .mov (.t 6)⟩,
  ⟨some 4, none, .mov (.t 28)⟩]
abbrev c34 : IR := .seq (.reg c34_r1) (.seq (.reg c34_r2) (.seq (.reg c34_r3) (.seq (.seq (.reg c34_r4) (.blk 0 (.loop c34_l9))) (.seq (.reg c34_r10) (.ret)))))
abbrev F34 : FnA := ⟨29, c34, [.t 4]⟩
theorem ok34 : cFn Tryz.prog 34 = some F34 := by kernel_rfl
theorem hb34 : HasBody Tryz.prog 34 := ⟨_, Tryz.func34, by kernel_rfl, by kernel_rfl⟩
/-! foot.May -/
abbrev c35_r1 : List Ins := [
  ⟨some 3, none, .box (.t 1)⟩,
  ⟨some 4, none, .mov (.c (.bool false))⟩]
abbrev c35_r2 : List Ins := [
  ⟨some 6, none, .mkfn 57 [] [.t 3]⟩,
  ⟨some 5, none, .mov (.t 6)⟩]
abbrev c35_r3 : List Ins := [
  ⟨some 7, none, .load 1 false (.t 3)⟩,
  ⟨some 8, none, .bin .geq (.t 7) (.c (.int .i64 0))⟩,
  ⟨some 9, none, .mov (.t 8)⟩,
  ⟨some 10, some (9, true), .load 1 false (.t 3)⟩,
  ⟨some 11, some (9, true), .bin .leq (.t 10) (.c (.int .i64 3))⟩,
  ⟨some 12, none, .pick (.t 9) (.t 11) (.c (.bool false))⟩,
  ⟨some 13, none, .mov (.t 12)⟩,
  ⟨some 14, some (13, true), .mov (.t 0)⟩,
  ⟨some 15, some (13, true), .len (.t 14)⟩,
  ⟨some 16, some (13, true), .bin .leq (.t 15) (.c (.int .i64 4))⟩,
  ⟨some 17, none, .pick (.t 13) (.t 16) (.c (.bool false))⟩,
  ⟨some 18, none, .mov (.t 17)⟩,
  ⟨some 19, some (18, true), .mov (.t 0)⟩,
  ⟨some 20, some (18, true), .mov (.t 5)⟩,
  ⟨some 21, some (18, true), .call (.c (.fn 59 [] [])) [.t 19, .t 20]⟩,
  ⟨some 22, some (18, true), .un .not (.t 21)⟩,
  ⟨some 23, none, .pick (.t 18) (.t 22) (.c (.bool false))⟩,
  ⟨some 4, none, .mov (.t 23)⟩]
abbrev c35 : IR := .seq (.reg c35_r1) (.seq (.reg c35_r2) (.seq (.reg c35_r3) (.ret)))
abbrev F35 : FnA := ⟨24, c35, [.t 4]⟩
theorem ok35 : cFn Tryz.prog 35 = some F35 := by kernel_rfl
theorem hb35 : HasBody Tryz.prog 35 := ⟨_, Tryz.func35, by kernel_rfl, by kernel_rfl⟩
/-! keys.Plain -/
abbrev c36_r1 : List Ins := [
  ⟨some 2, none, .mov (.c (.sl .full []))⟩]
abbrev c36_r2 : List Ins := [
  ⟨some 3, none, .mov (.t 0)⟩,
  ⟨some 4, none, .bsl 1 1 [.sl .full []] [(0, .t 3)]⟩,
  ⟨some 5, none, .call (.c (.fn 53 [] [])) [.t 4]⟩,
  ⟨some 2, none, .mov (.t 5)⟩]
abbrev c36 : IR := .seq (.reg c36_r1) (.seq (.reg c36_r2) (.ret))
abbrev F36 : FnA := ⟨6, c36, [.t 2]⟩
theorem ok36 : cFn Tryz.prog 36 = some F36 := by kernel_rfl
theorem hb36 : HasBody Tryz.prog 36 := ⟨_, Tryz.func36, by kernel_rfl, by kernel_rfl⟩
/-! lint.most -/
abbrev c37_r1 : List Ins := [
  ⟨some 1, none, .box (.t 0)⟩,
  ⟨some 2, none, .mov (.c (.int .i64 0))⟩]
abbrev c37_r2 : List Ins := [
  ⟨some 3, none, .faddr 0 (.t 1)⟩,
  ⟨some 4, none, .load 1 false (.t 3)⟩,
  ⟨some 5, none, .bin .lss (.t 4) (.c (.int .i64 0))⟩]
abbrev c37_r3 : List Ins := [
  ⟨some 6, none, .faddr 1 (.t 1)⟩,
  ⟨some 7, none, .load 1 false (.t 6)⟩,
  ⟨some 2, none, .mov (.t 7)⟩]
abbrev c37_r4 : List Ins := [
  ⟨some 8, none, .faddr 1 (.t 1)⟩,
  ⟨some 9, none, .load 1 false (.t 8)⟩,
  ⟨some 10, none, .bin .add (.t 9) (.c (.int .i64 99))⟩,
  ⟨some 2, none, .mov (.t 10)⟩]
abbrev c37 : IR := .seq (.reg c37_r1) (.seq (.seq (.reg c37_r2) (.cond (.t 5) (.seq (.reg c37_r3) (.ret)) (.skip))) (.seq (.reg c37_r4) (.ret)))
abbrev F37 : FnA := ⟨11, c37, [.t 2]⟩
theorem ok37 : cFn Tryz.prog 37 = some F37 := by kernel_rfl
theorem hb37 : HasBody Tryz.prog 37 := ⟨_, Tryz.func37, by kernel_rfl, by kernel_rfl⟩
/-! cat.named -/
abbrev c38_r1 : List Ins := [
  ⟨some 2, none, .mov (.c (.bool false))⟩]
abbrev c38_r2 : List Ins := [
  ⟨some 5, none, .mov (.t 0)⟩,
  ⟨some 6, none, .len (.t 5)⟩,
  ⟨some 7, none, .mov (.c (.int .i64 0))⟩]
abbrev c38_r3 : List Ins := [
  ⟨some 8, none, .bin .lss (.t 7) (.t 6)⟩]
abbrev c38_r4 : List Ins := [
  ⟨some 9, none, .mov (.t 7)⟩,
  ⟨some 10, none, .iaddr 5 (.t 5) (.t 7)⟩,
  ⟨some 11, none, .load 5 true (.t 10)⟩,
  ⟨some 4, none, .alloc [.str ⟨#[]⟩, .int .i64 0, .sl .full [], .sl .full [], .bool false]⟩,
  ⟨some 3, none, .mov (.t 9)⟩,
  ⟨none, none, .store 5 (.t 4) (.t 11)⟩]
abbrev c38_r5 : List Ins := [
  ⟨some 12, none, .load 5 true (.t 4)⟩,
  ⟨some 13, none, .call (.c (.fn 30 [] [])) [.t 12]⟩,
  ⟨some 14, none, .un .not (.t 13)⟩,
  ⟨some 15, none, .mov (.t 14)⟩,
  ⟨some 16, some (15, false), .mov (.t 0)⟩,
  ⟨some 17, some (15, false), .mov (.t 3)⟩,
  ⟨some 18, some (15, false), .slice 5 (.t 16) none (some (.t 17)) none⟩,
  ⟨some 19, some (15, false), .mkfn 61 [] [.t 4]⟩,
  ⟨some 20, some (15, false), .call (.c (.fn 60 [] [])) [.t 18, .t 19]⟩,
  ⟨some 21, none, .pick (.t 15) (.c (.bool true)) (.t 20)⟩]
abbrev c38_r6 : List Ins := [
  ⟨some 2, none, .mov (.c (.bool false))⟩]
abbrev c38_r7 : List Ins := [
  ⟨some 22, none, .bin .add (.t 7) (.c (.int .i64 1))⟩,
  ⟨some 7, none, .mov (.t 22)⟩]
abbrev c38_l8 : IR := .seq (.reg c38_r3) (.seq (.cond (.t 8) (.skip) (.exit 0)) (.seq (.blk 1 (.seq (.reg c38_r4) (.seq (.reg c38_r5) (.cond (.t 21) (.seq (.reg c38_r6) (.ret)) (.skip))))) (.reg c38_r7)))
abbrev c38_r9 : List Ins := [
  ⟨some 2, none, .mov (.c (.bool true))⟩]
abbrev c38 : IR := .seq (.reg c38_r1) (.seq (.seq (.reg c38_r2) (.blk 0 (.loop c38_l8))) (.seq (.reg c38_r9) (.ret)))
abbrev F38 : FnA := ⟨23, c38, [.t 2]⟩
theorem ok38 : cFn Tryz.prog 38 = some F38 := by kernel_rfl
theorem hb38 : HasBody Tryz.prog 38 := ⟨_, Tryz.func38, by kernel_rfl, by kernel_rfl⟩
/-! cat.turned -/
abbrev c39_r1 : List Ins := [
  ⟨some 2, none, .box (.t 0)⟩,
  ⟨some 3, none, .box (.t 1)⟩,
  ⟨some 4, none, .alloc [.int .i64 0, .int .i64 0, .int .i64 0, .int .i64 0, .int .i64 0, .int .i64 0, .int .i64 0, .int .i64 0, .int .i64 0, .int .i64 0, .int .i64 0, .int .i64 0, .int .i64 0, .int .i64 0, .int .i64 0, .int .i64 0]⟩]
abbrev c39_r2 : List Ins := [
  ⟨some 5, none, .alloc [.int .i64 0, .int .i64 0, .int .i64 0, .int .i64 0, .int .i64 0, .int .i64 0, .int .i64 0, .int .i64 0, .int .i64 0, .int .i64 0, .int .i64 0, .int .i64 0, .int .i64 0, .int .i64 0, .int .i64 0, .int .i64 0]⟩]
abbrev c39_r3 : List Ins := [
  ⟨some 8, none, .load 17 true (.t 2)⟩,
  ⟨some 9, none, .call (.c (.fn 62 [] [])) [.t 8]⟩]
abbrev c39_r4 : List Ins := [
  ⟨some 6, none, .mov (.t 10)⟩]
abbrev c39_r5 : List Ins := [
  ⟨some 7, none, .mov (.t 11)⟩]
abbrev c39_r6 : List Ins := [
  ⟨some 12, none, .mov (.t 6)⟩,
  ⟨some 13, none, .mov (.t 7)⟩,
  ⟨some 14, none, .load 1 false (.t 3)⟩,
  ⟨some 15, none, .mov (.t 6)⟩,
  ⟨some 16, none, .mov (.t 7)⟩,
  ⟨some 17, none, .call (.t 14) [.t 15, .t 16]⟩,
  ⟨some 18, none, .iaddrA 4 4 (.t 5) (.t 12)⟩,
  ⟨some 19, none, .iaddrA 4 1 (.t 18) (.t 13)⟩,
  ⟨none, none, .store 1 (.t 19) (.t 17)⟩]
def c39_a6 : List (List Nat) := [[], [], [], [], [], [2, 3, 4], [0], [6, 1, 0, 1, 2, 3, 4, 5], [7, 5, 5, 0, 1, 2, 3, 4, 5]]
abbrev c39_m6 : List Am.Mark := [⟨false, 0, 1⟩, ⟨false, 0, 1⟩, ⟨false, 0, 0⟩, ⟨false, 0, 0⟩, ⟨false, 0, 0⟩, ⟨true, 0, 1⟩, ⟨false, 0, 2⟩, ⟨false, 1, 1⟩, ⟨true, 1, 2⟩]
theorem c39_d6 : drawFine c39_r6 c39_a6 c39_m6 = true := by decide +kernel
abbrev c39_x7 : IR := .seq (.reg c39_r4) (.reg c39_r5)
abbrev c39_y8 : IR := .blk 1 (.dreg c39_r6 c39_a6)
abbrev c39_r9 : List Ins := [
  ⟨some 20, none, .load 16 true (.t 5)⟩,
  ⟨none, none, .store 16 (.t 4) (.t 20)⟩]
abbrev c39 : IR := .seq (.reg c39_r1) (.seq (.reg c39_r2) (.seq (.seq (.reg c39_r3) (.blk 0 (.rngf (.t 9) [10, 11] c39_x7 c39_y8))) (.seq (.reg c39_r9) (.ret))))
abbrev F39 : FnA := ⟨21, c39, [.cell 4 16 true]⟩
theorem ok39 : cFn Tryz.prog 39 = some F39 := by kernel_rfl
theorem hb39 : HasBody Tryz.prog 39 := ⟨_, Tryz.func39, by kernel_rfl, by kernel_rfl⟩
/-! cat.May$1 -/
abbrev c40_r1 : List Ins := [
  ⟨some 5, none, .mov (.c (.int .i64 0))⟩]
abbrev c40_r2 : List Ins := [
  ⟨some 6, none, .mov (.t 0)⟩,
  ⟨some 7, none, .mov (.t 1)⟩,
  ⟨some 8, none, .faddr 1 (.t 2)⟩,
  ⟨some 9, none, .iaddrA 4 4 (.t 8) (.t 6)⟩,
  ⟨some 10, none, .iaddrA 4 1 (.t 9) (.t 7)⟩,
  ⟨some 11, none, .load 1 false (.t 10)⟩,
  ⟨some 12, none, .faddr 0 (.t 2)⟩,
  ⟨some 13, none, .load 1 false (.t 12)⟩,
  ⟨some 14, none, .mov (.t 0)⟩,
  ⟨some 15, none, .iaddr 5 (.t 13) (.t 14)⟩,
  ⟨some 16, none, .load 5 true (.t 15)⟩,
  ⟨some 17, none, .call (.c (.fn 41 [] [])) [.t 16]⟩,
  ⟨some 18, none, .bin .and (.t 11) (.t 17)⟩,
  ⟨some 5, none, .mov (.t 18)⟩]
def c40_a2 : List (List Nat) := [[], [], [], [2, 0], [3, 1], [4], [], [6], [], [7, 8], [9], [10], [5, 11], [12, 11, 0, 1, 2, 3, 4, 5, 6, 7, 8, 9, 10, 11, 12]]
abbrev c40_m2 : List Am.Mark := [⟨false, 0, 0⟩, ⟨false, 0, 0⟩, ⟨false, 0, 0⟩, ⟨false, 0, 0⟩, ⟨false, 0, 0⟩, ⟨false, 0, 0⟩, ⟨false, 0, 0⟩, ⟨false, 0, 0⟩, ⟨false, 0, 0⟩, ⟨false, 0, 0⟩, ⟨false, 0, 0⟩, ⟨false, 0, 0⟩, ⟨false, 0, 0⟩, ⟨false, 0, 0⟩]
theorem c40_d2 : drawFine c40_r2 c40_a2 c40_m2 = true := by decide +kernel
abbrev c40 : IR := .seq (.reg c40_r1) (.seq (.dreg c40_r2 c40_a2) (.ret))
abbrev F40 : FnA := ⟨19, c40, [.t 5]⟩
theorem ok40 : cFn Tryz.prog 40 = some F40 := by kernel_rfl
theorem hb40 : HasBody Tryz.prog 40 := ⟨_, Tryz.func40, by kernel_rfl, by kernel_rfl⟩
/-! cat.all -/
abbrev c41_r1 : List Ins := [
  ⟨some 1, none, .box (.t 0)⟩,
  ⟨some 2, none, .mov (.c (.int .i64 0))⟩]
abbrev c41_r2 : List Ins := [
  ⟨some 3, none, .faddr 2 (.t 1)⟩,
  ⟨some 4, none, .load 1 false (.t 3)⟩,
  ⟨some 5, none, .len (.t 4)⟩,
  ⟨some 6, none, .bin .sub (.t 5) (.c (.int .i64 1))⟩,
  ⟨some 7, none, .mx [.t 6, .c (.int .i64 0)]⟩,
  ⟨some 8, none, .bin .shl (.c (.int .i64 1)) (.t 7)⟩,
  ⟨some 9, none, .bin .sub (.t 8) (.c (.int .i64 1))⟩,
  ⟨some 2, none, .mov (.t 9)⟩]
abbrev c41 : IR := .seq (.reg c41_r1) (.seq (.reg c41_r2) (.ret))
abbrev F41 : FnA := ⟨10, c41, [.t 2]⟩
theorem ok41 : cFn Tryz.prog 41 = some F41 := by kernel_rfl
theorem hb41 : HasBody Tryz.prog 41 := ⟨_, Tryz.func41, by kernel_rfl, by kernel_rfl⟩
/-! cat.copied -/
abbrev c42_r1 : List Ins := [
  ⟨some 1, none, .box (.t 0)⟩,
  ⟨some 2, none, .alloc [.sl .full [], .int .i64 0, .int .i64 0, .int .i64 0, .int .i64 0, .int .i64 0, .int .i64 0, .int .i64 0, .int .i64 0, .int .i64 0, .int .i64 0, .int .i64 0, .int .i64 0, .int .i64 0, .int .i64 0, .int .i64 0, .int .i64 0]⟩]
abbrev c42_r2 : List Ins := [
  ⟨some 5, none, .faddr 0 (.t 1)⟩,
  ⟨some 6, none, .load 1 false (.t 5)⟩,
  ⟨some 7, none, .call (.c (.fn 63 [] [])) [.t 6]⟩,
  ⟨some 8, none, .faddr 0 (.t 1)⟩,
  ⟨none, none, .store 1 (.t 8) (.t 7)⟩]
abbrev c42_r3 : List Ins := [
  ⟨some 9, none, .faddr 0 (.t 1)⟩,
  ⟨some 10, none, .load 1 false (.t 9)⟩,
  ⟨some 11, none, .len (.t 10)⟩,
  ⟨some 12, none, .mov (.c (.int .i64 0))⟩]
abbrev c42_r4 : List Ins := [
  ⟨some 13, none, .bin .lss (.t 12) (.t 11)⟩]
abbrev c42_r5 : List Ins := [
  ⟨some 14, none, .mov (.t 12)⟩,
  ⟨some 15, none, .iaddr 5 (.t 10) (.t 12)⟩,
  ⟨some 16, none, .load 5 true (.t 15)⟩,
  ⟨some 4, none, .alloc [.str ⟨#[]⟩, .int .i64 0, .sl .full [], .sl .full [], .bool false]⟩,
  ⟨some 3, none, .mov (.t 14)⟩,
  ⟨none, none, .store 5 (.t 4) (.t 16)⟩]
abbrev c42_r6 : List Ins := [
  ⟨some 17, none, .faddr 0 (.t 1)⟩,
  ⟨some 18, none, .load 1 false (.t 17)⟩,
  ⟨some 19, none, .mov (.t 3)⟩,
  ⟨some 20, none, .faddr 0 (.t 1)⟩,
  ⟨some 21, none, .load 1 false (.t 20)⟩,
  ⟨some 22, none, .mov (.t 3)⟩,
  ⟨some 23, none, .faddr 2 (.t 4)⟩,
  ⟨some 24, none, .load 1 false (.t 23)⟩,
  ⟨some 25, none, .call (.c (.fn 64 [] [])) [.t 24]⟩,
  ⟨some 26, none, .faddr 3 (.t 4)⟩,
  ⟨some 27, none, .load 1 false (.t 26)⟩,
  ⟨some 28, none, .call (.c (.fn 64 [] [])) [.t 27]⟩,
  ⟨some 29, none, .iaddr 5 (.t 18) (.t 19)⟩,
  ⟨some 30, none, .faddr 2 (.t 29)⟩,
  ⟨none, none, .store 1 (.t 30) (.t 25)⟩,
  ⟨some 31, none, .iaddr 5 (.t 21) (.t 22)⟩,
  ⟨some 32, none, .faddr 3 (.t 31)⟩,
  ⟨none, none, .store 1 (.t 32) (.t 28)⟩]
def c42_a6 : List (List Nat) := [[], [0], [], [], [3], [], [], [6], [7], [], [9], [10, 8], [1, 2, 0, 1, 2, 6, 7, 8, 11], [12, 0, 1, 2, 6, 7, 8, 11], [13, 8, 11, 0, 1, 2, 6, 7, 8, 11], [4, 5, 0, 1, 2, 3, 4, 5, 6, 7, 8, 9, 10, 11, 12, 13, 14], [15, 0, 1, 2, 3, 4, 5, 6, 7, 8, 9, 10, 11, 12, 13, 14], [16, 11, 14, 0, 1, 2, 3, 4, 5, 6, 7, 8, 9, 10, 11, 12, 13, 14]]
abbrev c42_m6 : List Am.Mark := [⟨false, 0, 0⟩, ⟨false, 0, 0⟩, ⟨false, 0, 0⟩, ⟨false, 0, 1⟩, ⟨false, 0, 1⟩, ⟨false, 0, 1⟩, ⟨false, 0, 0⟩, ⟨false, 0, 0⟩, ⟨false, 0, 0⟩, ⟨false, 0, 1⟩, ⟨false, 0, 1⟩, ⟨false, 0, 0⟩, ⟨false, 0, 1⟩, ⟨false, 0, 0⟩, ⟨true, 0, 1⟩, ⟨false, 1, 2⟩, ⟨false, 1, 1⟩, ⟨true, 1, 2⟩]
theorem c42_d6 : drawFine c42_r6 c42_a6 c42_m6 = true := by decide +kernel
abbrev c42_r7 : List Ins := [
  ⟨some 33, none, .bin .add (.t 12) (.c (.int .i64 1))⟩,
  ⟨some 12, none, .mov (.t 33)⟩]
abbrev c42_l8 : IR := .seq (.reg c42_r4) (.seq (.cond (.t 13) (.skip) (.exit 0)) (.seq (.blk 1 (.seq (.reg c42_r5) (.dreg c42_r6 c42_a6))) (.reg c42_r7)))
abbrev c42_r9 : List Ins := [
  ⟨some 34, none, .load 17 true (.t 1)⟩,
  ⟨none, none, .store 17 (.t 2) (.t 34)⟩]
abbrev c42 : IR := .seq (.reg c42_r1) (.seq (.reg c42_r2) (.seq (.seq (.reg c42_r3) (.blk 0 (.loop c42_l8))) (.seq (.reg c42_r9) (.ret))))
abbrev F42 : FnA := ⟨35, c42, [.cell 2 17 true]⟩
theorem ok42 : cFn Tryz.prog 42 = some F42 := by kernel_rfl
theorem hb42 : HasBody Tryz.prog 42 := ⟨_, Tryz.func42, by kernel_rfl, by kernel_rfl⟩
/-! cat.Open$1 -/
abbrev c43_r1 : List Ins := [
  ⟨some 5, none, .mov (.c (.int .i64 0))⟩]
abbrev c43_r2 : List Ins := [
  ⟨some 6, none, .faddr 0 (.t 2)⟩,
  ⟨some 7, none, .load 1 false (.t 6)⟩,
  ⟨some 8, none, .mov (.t 0)⟩,
  ⟨some 9, none, .iaddr 5 (.t 7) (.t 8)⟩,
  ⟨some 10, none, .load 5 true (.t 9)⟩,
  ⟨some 11, none, .call (.c (.fn 41 [] [])) [.t 10]⟩,
  ⟨some 5, none, .mov (.t 11)⟩]
abbrev c43 : IR := .seq (.reg c43_r1) (.seq (.reg c43_r2) (.ret))
abbrev F43 : FnA := ⟨12, c43, [.t 5]⟩
theorem ok43 : cFn Tryz.prog 43 = some F43 := by kernel_rfl
theorem hb43 : HasBody Tryz.prog 43 := ⟨_, Tryz.func43, by kernel_rfl, by kernel_rfl⟩
/-! ref09.May -/
abbrev c44_r1 : List Ins := [
  ⟨some 4, none, .mov (.c (.bool false))⟩]
abbrev c44_r2 : List Ins := [
  ⟨some 6, none, .mov (.t 1)⟩,
  ⟨some 7, none, .bin .lss (.t 6) (.c (.int .i64 0))⟩,
  ⟨some 8, none, .mov (.t 7)⟩,
  ⟨some 9, some (8, false), .mov (.t 1)⟩,
  ⟨some 10, some (8, false), .bin .gtr (.t 9) (.c (.int .i64 3))⟩,
  ⟨some 11, none, .pick (.t 8) (.c (.bool true)) (.t 10)⟩,
  ⟨some 12, none, .mov (.t 11)⟩,
  ⟨some 13, some (12, false), .mov (.t 0)⟩,
  ⟨some 14, some (12, false), .len (.t 13)⟩,
  ⟨some 15, some (12, false), .bin .lss (.t 14) (.c (.int .i64 1))⟩,
  ⟨some 16, none, .pick (.t 12) (.c (.bool true)) (.t 15)⟩,
  ⟨some 17, none, .mov (.t 16)⟩,
  ⟨some 18, some (17, false), .mov (.t 0)⟩,
  ⟨some 19, some (17, false), .len (.t 18)⟩,
  ⟨some 20, some (17, false), .bin .gtr (.t 19) (.c (.int .i64 8))⟩,
  ⟨some 21, none, .pick (.t 17) (.c (.bool true)) (.t 20)⟩]
abbrev c44_r3 : List Ins := [
  ⟨some 4, none, .mov (.c (.bool false))⟩]
abbrev c44_r4 : List Ins := [
  ⟨some 5, none, .mov (.c (.int .i64 0))⟩]
abbrev c44_r5 : List Ins := [
  ⟨some 22, none, .mov (.t 5)⟩,
  ⟨some 23, none, .mov (.t 0)⟩,
  ⟨some 24, none, .len (.t 23)⟩,
  ⟨some 25, none, .bin .lss (.t 22) (.t 24)⟩]
abbrev c44_r6 : List Ins := [
  ⟨some 28, none, .mov (.t 0)⟩,
  ⟨some 29, none, .mov (.t 5)⟩,
  ⟨some 30, none, .iaddr 9 (.t 28) (.t 29)⟩,
  ⟨some 31, none, .load 9 true (.t 30)⟩,
  ⟨some 32, none, .mov (.t 1)⟩,
  ⟨some 33, none, .call (.c (.fn 65 [] [])) [.t 31, .t 32]⟩,
  ⟨some 34, none, .un .not (.t 33)⟩]
abbrev c44_r7 : List Ins := [
  ⟨some 4, none, .mov (.c (.bool false))⟩]
abbrev c44_r8 : List Ins := [
  ⟨some 26, none, .mov (.t 5)⟩,
  ⟨some 27, none, .bin .add (.t 26) (.c (.int .i64 1))⟩,
  ⟨some 5, none, .mov (.t 27)⟩]
abbrev c44_l9 : IR := .seq (.seq (.reg c44_r5) (.cond (.t 25) (.skip) (.exit 0))) (.seq (.blk 1 (.seq (.reg c44_r6) (.cond (.t 34) (.seq (.reg c44_r7) (.ret)) (.skip)))) (.reg c44_r8))
abbrev c44_r10 : List Ins := [
  ⟨some 4, none, .mov (.c (.bool true))⟩]
abbrev c44 : IR := .seq (.reg c44_r1) (.seq (.seq (.reg c44_r2) (.cond (.t 21) (.seq (.reg c44_r3) (.ret)) (.skip))) (.seq (.seq (.reg c44_r4) (.blk 0 (.loop c44_l9))) (.seq (.reg c44_r10) (.ret))))
abbrev F44 : FnA := ⟨35, c44, [.t 4]⟩
theorem ok44 : cFn Tryz.prog 44 = some F44 := by kernel_rfl
theorem hb44 : HasBody Tryz.prog 44 := ⟨_, Tryz.func44, by kernel_rfl, by kernel_rfl⟩
/-! ref10.May -/
abbrev c45_r1 : List Ins := [
  ⟨some 4, none, .mov (.c (.bool false))⟩]
abbrev c45_r2 : List Ins := [
  ⟨some 6, none, .mov (.t 1)⟩,
  ⟨some 7, none, .bin .lss (.t 6) (.c (.int .i64 0))⟩,
  ⟨some 8, none, .mov (.t 7)⟩,
  ⟨some 9, some (8, false), .mov (.t 1)⟩,
  ⟨some 10, some (8, false), .bin .gtr (.t 9) (.c (.int .i64 3))⟩,
  ⟨some 11, none, .pick (.t 8) (.c (.bool true)) (.t 10)⟩,
  ⟨some 12, none, .mov (.t 11)⟩,
  ⟨some 13, some (12, false), .mov (.t 0)⟩,
  ⟨some 14, some (12, false), .len (.t 13)⟩,
  ⟨some 15, some (12, false), .bin .gtr (.t 14) (.c (.int .i64 4))⟩,
  ⟨some 16, none, .pick (.t 12) (.c (.bool true)) (.t 15)⟩]
abbrev c45_r3 : List Ins := [
  ⟨some 4, none, .mov (.c (.bool false))⟩]
abbrev c45_r4 : List Ins := [
  ⟨some 5, none, .mov (.c (.int .i64 0))⟩]
abbrev c45_r5 : List Ins := [
  ⟨some 17, none, .mov (.t 5)⟩,
  ⟨some 18, none, .mov (.t 0)⟩,
  ⟨some 19, none, .len (.t 18)⟩,
  ⟨some 20, none, .bin .lss (.t 17) (.t 19)⟩]
abbrev c45_r6 : List Ins := [
  ⟨some 23, none, .mov (.t 0)⟩,
  ⟨some 24, none, .mov (.t 5)⟩,
  ⟨some 25, none, .iaddr 5 (.t 23) (.t 24)⟩,
  ⟨some 26, none, .faddr 0 (.t 25)⟩,
  ⟨some 27, none, .load 2 true (.t 26)⟩,
  ⟨some 28, none, .mov (.t 1)⟩,
  ⟨some 29, none, .call (.c (.fn 66 [] [])) [.t 27, .t 28]⟩,
  ⟨some 30, none, .un .not (.t 29)⟩,
  ⟨some 31, none, .mov (.t 30)⟩,
  ⟨some 32, some (31, false), .mov (.t 0)⟩,
  ⟨some 33, some (31, false), .mov (.t 5)⟩,
  ⟨some 34, some (31, false), .iaddr 5 (.t 32) (.t 33)⟩,
  ⟨some 35, some (31, false), .faddr 2 (.t 34)⟩,
  ⟨some 36, some (31, false), .load 2 true (.t 35)⟩,
  ⟨some 37, some (31, false), .mov (.t 1)⟩,
  ⟨some 38, some (31, false), .call (.c (.fn 66 [] [])) [.t 36, .t 37]⟩,
  ⟨some 39, some (31, false), .un .not (.t 38)⟩,
  ⟨some 40, none, .pick (.t 31) (.c (.bool true)) (.t 39)⟩]
abbrev c45_r7 : List Ins := [
  ⟨some 4, none, .mov (.c (.bool false))⟩]
abbrev c45_r8 : List Ins := [
  ⟨some 21, none, .mov (.t 5)⟩,
  ⟨some 22, none, .bin .add (.t 21) (.c (.int .i64 1))⟩,
  ⟨some 5, none, .mov (.t 22)⟩]
abbrev c45_l9 : IR := .seq (.seq (.reg c45_r5) (.cond (.t 20) (.skip) (.exit 0))) (.seq (.blk 1 (.seq (.reg c45_r6) (.cond (.t 40) (.seq (.reg c45_r7) (.ret)) (.skip)))) (.reg c45_r8))
abbrev c45_r10 : List Ins := [
  ⟨some 4, none, .mov (.c (.bool true))⟩]
abbrev c45 : IR := .seq (.reg c45_r1) (.seq (.seq (.reg c45_r2) (.cond (.t 16) (.seq (.reg c45_r3) (.ret)) (.skip))) (.seq (.seq (.reg c45_r4) (.blk 0 (.loop c45_l9))) (.seq (.reg c45_r10) (.ret))))
abbrev F45 : FnA := ⟨41, c45, [.t 4]⟩
theorem ok45 : cFn Tryz.prog 45 = some F45 := by kernel_rfl
theorem hb45 : HasBody Tryz.prog 45 := ⟨_, Tryz.func45, by kernel_rfl, by kernel_rfl⟩
/-! class.each -/
abbrev c48_r1 : List Ins := [
  ⟨some 1, none, .box (.t 0)⟩,
  ⟨some 2, none, .mov (.c .nilfn)⟩]
abbrev c48_r2 : List Ins := [
  ⟨some 3, none, .mkfn 69 [] [.t 1]⟩,
  ⟨some 2, none, .mov (.t 3)⟩]
abbrev c48 : IR := .seq (.reg c48_r1) (.seq (.reg c48_r2) (.ret))
abbrev F48 : FnA := ⟨4, c48, [.t 2]⟩
theorem ok48 : cFn Tryz.prog 48 = some F48 := by kernel_rfl
theorem hb48 : HasBody Tryz.prog 48 := ⟨_, Tryz.func48, by kernel_rfl, by kernel_rfl⟩
/-! prog.May -/
abbrev c49_r1 : List Ins := [
  ⟨some 3, none, .box (.t 1)⟩,
  ⟨some 4, none, .mov (.c (.bool false))⟩]
abbrev c49_r2 : List Ins := [
  ⟨some 5, none, .load 1 false (.t 3)⟩,
  ⟨some 6, none, .bin .lss (.t 5) (.c (.int .i64 0))⟩,
  ⟨some 7, none, .mov (.t 6)⟩,
  ⟨some 8, some (7, false), .load 1 false (.t 3)⟩,
  ⟨some 9, some (7, false), .bin .gtr (.t 8) (.c (.int .i64 3))⟩,
  ⟨some 10, none, .pick (.t 7) (.c (.bool true)) (.t 9)⟩,
  ⟨some 11, none, .mov (.t 10)⟩,
  ⟨some 12, some (11, false), .mov (.t 0)⟩,
  ⟨some 13, some (11, false), .len (.t 12)⟩,
  ⟨some 14, some (11, false), .bin .lss (.t 13) (.c (.int .i64 1))⟩,
  ⟨some 15, none, .pick (.t 11) (.c (.bool true)) (.t 14)⟩,
  ⟨some 16, none, .mov (.t 15)⟩,
  ⟨some 17, some (16, false), .mov (.t 0)⟩,
  ⟨some 18, some (16, false), .len (.t 17)⟩,
  ⟨some 19, some (16, false), .bin .gtr (.t 18) (.c (.int .i64 8))⟩,
  ⟨some 20, none, .pick (.t 16) (.c (.bool true)) (.t 19)⟩]
abbrev c49_r3 : List Ins := [
  ⟨some 4, none, .mov (.c (.bool false))⟩]
abbrev c49_r4 : List Ins := [
  ⟨some 21, none, .mov (.t 0)⟩,
  ⟨some 22, none, .mkfn 71 [] [.t 3]⟩,
  ⟨some 23, none, .call (.c (.fn 70 [] [])) [.t 21, .t 22]⟩,
  ⟨some 24, none, .un .not (.t 23)⟩,
  ⟨some 4, none, .mov (.t 24)⟩]
abbrev c49 : IR := .seq (.reg c49_r1) (.seq (.seq (.reg c49_r2) (.cond (.t 20) (.seq (.reg c49_r3) (.ret)) (.skip))) (.seq (.reg c49_r4) (.ret)))
abbrev F49 : FnA := ⟨25, c49, [.t 4]⟩
theorem ok49 : cFn Tryz.prog 49 = some F49 := by kernel_rfl
theorem hb49 : HasBody Tryz.prog 49 := ⟨_, Tryz.func49, by kernel_rfl, by kernel_rfl⟩
/-! class.mayComp -/
abbrev c50_r1 : List Ins := [
  ⟨some 2, none, .box (.t 0)⟩,
  ⟨some 4, none, .mov (.c (.bool false))⟩]
abbrev c50_r2 : List Ins := [
  ⟨some 5, none, .faddr 0 (.t 2)⟩,
  ⟨some 6, none, .load 1 false (.t 5)⟩,
  ⟨some 7, none, .len (.t 6)⟩,
  ⟨some 8, none, .bin .eql (.t 7) (.c (.int .i64 0))⟩,
  ⟨some 9, none, .mov (.t 8)⟩,
  ⟨some 10, some (9, false), .faddr 0 (.t 2)⟩,
  ⟨some 11, some (9, false), .load 1 false (.t 10)⟩,
  ⟨some 12, some (9, false), .mov (.t 1)⟩,
  ⟨some 13, some (9, false), .call (.c (.fn 49 [] [])) [.t 11, .t 12]⟩,
  ⟨some 14, some (9, false), .mov (.t 13)⟩,
  ⟨some 15, some (14, true), .faddr 0 (.t 2)⟩,
  ⟨some 16, some (14, true), .load 1 false (.t 15)⟩,
  ⟨some 17, some (14, true), .call (.c (.fn 73 [] [])) [.t 16]⟩,
  ⟨some 18, some (9, false), .pick (.t 14) (.t 17) (.c (.bool false))⟩,
  ⟨some 19, none, .pick (.t 9) (.c (.bool true)) (.t 18)⟩,
  ⟨some 20, none, .mov (.t 19)⟩,
  ⟨some 21, some (20, true), .faddr 1 (.t 2)⟩,
  ⟨some 22, some (20, true), .load 1 false (.t 21)⟩,
  ⟨some 23, some (20, true), .mov (.t 1)⟩,
  ⟨some 24, some (20, true), .call (.c (.fn 35 [] [])) [.t 22, .t 23]⟩,
  ⟨some 25, none, .pick (.t 20) (.t 24) (.c (.bool false))⟩,
  ⟨some 4, none, .mov (.t 25)⟩]
abbrev c50 : IR := .seq (.reg c50_r1) (.seq (.reg c50_r2) (.ret))
abbrev F50 : FnA := ⟨26, c50, [.t 4]⟩
theorem ok50 : cFn Tryz.prog 50 = some F50 := by kernel_rfl
theorem hb50 : HasBody Tryz.prog 50 := ⟨_, Tryz.func50, by kernel_rfl, by kernel_rfl⟩
/-! keys.Union -/
abbrev c51_r1 : List Ins := [
  ⟨some 4, none, .mov (.c (.sl .full []))⟩]
abbrev c51_r2 : List Ins := [
  ⟨some 5, none, .mov (.t 0)⟩,
  ⟨some 6, none, .mov (.t 1)⟩,
  ⟨some 7, none, .bsl 1 2 [.sl .full []] [(0, .t 5), (1, .t 6)]⟩,
  ⟨some 8, none, .call (.c (.fn 53 [] [])) [.t 7]⟩,
  ⟨some 4, none, .mov (.t 8)⟩]
abbrev c51 : IR := .seq (.reg c51_r1) (.seq (.reg c51_r2) (.ret))
abbrev F51 : FnA := ⟨9, c51, [.t 4]⟩
theorem ok51 : cFn Tryz.prog 51 = some F51 := by kernel_rfl
theorem hb51 : HasBody Tryz.prog 51 := ⟨_, Tryz.func51, by kernel_rfl, by kernel_rfl⟩
/-! keys.meets -/
abbrev c52_r1 : List Ins := [
  ⟨some 2, none, .box (.t 0)⟩,
  ⟨some 3, none, .box (.t 1)⟩,
  ⟨some 4, none, .mov (.c .nilfn)⟩]
abbrev c52_r2 : List Ins := [
  ⟨some 5, none, .mkfn 74 [] [.t 2, .t 3]⟩,
  ⟨some 4, none, .mov (.t 5)⟩]
abbrev c52 : IR := .seq (.reg c52_r1) (.seq (.reg c52_r2) (.ret))
abbrev F52 : FnA := ⟨6, c52, [.t 4]⟩
theorem ok52 : cFn Tryz.prog 52 = some F52 := by kernel_rfl
theorem hb52 : HasBody Tryz.prog 52 := ⟨_, Tryz.func52, by kernel_rfl, by kernel_rfl⟩
/-! keys.plain -/
abbrev c53_r1 : List Ins := [
  ⟨some 2, none, .mov (.c (.sl .full []))⟩]
abbrev c53_r2 : List Ins := [
  ⟨some 8, none, .mov (.t 0)⟩,
  ⟨some 9, none, .call (.c (.fn 76 [] [])) [.t 8]⟩,
  ⟨some 10, none, .call (.c (.fn 75 [] [])) [.t 9, .c (.fn 77 [] [])]⟩,
  ⟨some 3, none, .mov (.t 10)⟩]
abbrev c53_r3 : List Ins := [
  ⟨some 11, none, .mov (.t 3)⟩,
  ⟨some 12, none, .call (.c (.fn 79 [] [])) [.t 11, .c (.fn 80 [] [])]⟩]
abbrev c53_r4 : List Ins := [
  ⟨some 4, none, .mov (.c (.sl .full []))⟩]
abbrev c53_r5 : List Ins := [
  ⟨some 13, none, .mov (.t 3)⟩,
  ⟨some 14, none, .len (.t 13)⟩,
  ⟨some 15, none, .mov (.c (.int .i64 0))⟩]
abbrev c53_r6 : List Ins := [
  ⟨some 16, none, .bin .lss (.t 15) (.t 14)⟩]
abbrev c53_r7 : List Ins := [
  ⟨some 17, none, .iaddr 2 (.t 13) (.t 15)⟩,
  ⟨some 18, none, .load 2 true (.t 17)⟩,
  ⟨some 6, none, .alloc [.int .i64 0, .int .i64 0]⟩,
  ⟨none, none, .store 2 (.t 6) (.t 18)⟩]
abbrev c53_r8 : List Ins := [
  ⟨some 19, none, .mov (.t 4)⟩,
  ⟨some 20, none, .len (.t 19)⟩,
  ⟨some 7, none, .mov (.t 20)⟩]
abbrev c53_r9 : List Ins := [
  ⟨some 21, none, .mov (.t 7)⟩,
  ⟨some 22, none, .bin .gtr (.t 21) (.c (.int .i64 0))⟩,
  ⟨some 23, none, .mov (.t 22)⟩,
  ⟨some 24, some (23, true), .faddr 0 (.t 6)⟩,
  ⟨some 25, some (23, true), .load 1 false (.t 24)⟩,
  ⟨some 26, some (23, true), .mov (.t 4)⟩,
  ⟨some 27, some (23, true), .mov (.t 7)⟩,
  ⟨some 28, some (23, true), .bin .sub (.t 27) (.c (.int .i64 1))⟩,
  ⟨some 29, some (23, true), .iaddr 2 (.t 26) (.t 28)⟩,
  ⟨some 30, some (23, true), .faddr 1 (.t 29)⟩,
  ⟨some 31, some (23, true), .load 1 false (.t 30)⟩,
  ⟨some 32, some (23, true), .bin .add (.t 31) (.c (.int .i64 1))⟩,
  ⟨some 33, some (23, true), .bin .leq (.t 25) (.t 32)⟩,
  ⟨some 34, none, .pick (.t 23) (.t 33) (.c (.bool false))⟩]
def c53_a9 : List (List Nat) := [[], [0], [1], [2], [3, 2], [2], [2], [6, 2], [5, 7, 2], [8, 2], [9, 2], [10, 2], [4, 11, 2], [2, 12]]
abbrev c53_m9 : List Am.Mark := [⟨false, 0, 0⟩, ⟨false, 0, 0⟩, ⟨false, 0, 0⟩, ⟨false, 0, 0⟩, ⟨false, 0, 0⟩, ⟨false, 0, 0⟩, ⟨false, 0, 0⟩, ⟨false, 0, 0⟩, ⟨false, 0, 0⟩, ⟨false, 0, 0⟩, ⟨false, 0, 0⟩, ⟨false, 0, 0⟩, ⟨false, 0, 0⟩, ⟨false, 0, 0⟩]
theorem c53_d9 : drawFine c53_r9 c53_a9 c53_m9 = true := by decide +kernel
abbrev c53_r10 : List Ins := [
  ⟨some 35, none, .mov (.t 4)⟩,
  ⟨some 36, none, .mov (.t 7)⟩,
  ⟨some 37, none, .bin .sub (.t 36) (.c (.int .i64 1))⟩,
  ⟨some 38, none, .mov (.t 4)⟩,
  ⟨some 39, none, .mov (.t 7)⟩,
  ⟨some 40, none, .bin .sub (.t 39) (.c (.int .i64 1))⟩,
  ⟨some 41, none, .iaddr 2 (.t 38) (.t 40)⟩,
  ⟨some 42, none, .faddr 1 (.t 41)⟩,
  ⟨some 43, none, .load 1 false (.t 42)⟩,
  ⟨some 44, none, .faddr 1 (.t 6)⟩,
  ⟨some 45, none, .load 1 false (.t 44)⟩,
  ⟨some 46, none, .mx [.t 43, .t 45]⟩,
  ⟨some 47, none, .iaddr 2 (.t 35) (.t 37)⟩,
  ⟨some 48, none, .faddr 1 (.t 47)⟩,
  ⟨none, none, .store 1 (.t 48) (.t 46)⟩]
def c53_a10 : List (List Nat) := [[], [], [1], [], [], [4], [3, 5], [6], [7], [], [9], [8, 10], [0, 2, 0, 1, 2, 3, 4, 5, 6, 7, 8, 9, 10, 11], [12, 0, 1, 2, 3, 4, 5, 6, 7, 8, 9, 10, 11], [13, 11, 0, 1, 2, 3, 4, 5, 6, 7, 8, 9, 10, 11]]
abbrev c53_m10 : List Am.Mark := [⟨false, 0, 0⟩, ⟨false, 0, 0⟩, ⟨false, 0, 0⟩, ⟨false, 0, 0⟩, ⟨false, 0, 0⟩, ⟨false, 0, 0⟩, ⟨false, 0, 0⟩, ⟨false, 0, 0⟩, ⟨false, 0, 0⟩, ⟨false, 0, 0⟩, ⟨false, 0, 0⟩, ⟨false, 0, 0⟩, ⟨false, 0, 1⟩, ⟨false, 0, 0⟩, ⟨true, 0, 1⟩]
theorem c53_d10 : drawFine c53_r10 c53_a10 c53_m10 = true := by decide +kernel
abbrev c53_r11 : List Ins := [
  ⟨some 49, none, .mov (.t 4)⟩,
  ⟨some 50, none, .load 2 true (.t 6)⟩,
  ⟨some 51, none, .bsl 2 1 [.int .i64 0, .int .i64 0] [(0, .t 50)]⟩,
  ⟨some 52, none, .append 2 16 (.t 49) (.t 51)⟩,
  ⟨some 4, none, .mov (.t 52)⟩]
abbrev c53_r12 : List Ins := [
  ⟨some 53, none, .bin .add (.t 15) (.c (.int .i64 1))⟩,
  ⟨some 15, none, .mov (.t 53)⟩]
abbrev c53_l13 : IR := .seq (.reg c53_r6) (.seq (.cond (.t 16) (.skip) (.exit 0)) (.seq (.blk 1 (.seq (.reg c53_r7) (.seq (.reg c53_r8) (.seq (.seq (.dreg c53_r9 c53_a9) (.cond (.t 34) (.seq (.dreg c53_r10 c53_a10) (.exit 1)) (.skip))) (.reg c53_r11))))) (.reg c53_r12)))
abbrev c53_r14 : List Ins := [
  ⟨some 54, none, .mov (.t 4)⟩,
  ⟨some 2, none, .mov (.t 54)⟩]
abbrev c53 : IR := .seq (.reg c53_r1) (.seq (.reg c53_r2) (.seq (.reg c53_r3) (.seq (.reg c53_r4) (.seq (.seq (.reg c53_r5) (.blk 0 (.loop c53_l13))) (.seq (.reg c53_r14) (.ret))))))
abbrev F53 : FnA := ⟨55, c53, [.t 2]⟩
theorem ok53 : cFn Tryz.prog 53 = some F53 := by kernel_rfl
theorem hb53 : HasBody Tryz.prog 53 := ⟨_, Tryz.func53, by kernel_rfl, by kernel_rfl⟩
/-! ref14.There -/
abbrev c54_r1 : List Ins := [
  ⟨some 2, none, .box (.t 0)⟩,
  ⟨some 4, none, .mov (.c (.bool false))⟩]
abbrev c54_r2 : List Ins := [
  ⟨some 5, none, .mov (.t 1)⟩,
  ⟨some 6, none, .bin .geq (.t 5) (.c (.int .i64 0))⟩,
  ⟨some 7, none, .mov (.t 6)⟩,
  ⟨some 8, some (7, true), .mov (.t 1)⟩,
  ⟨some 9, some (7, true), .faddr 0 (.t 2)⟩,
  ⟨some 10, some (7, true), .load 1 false (.t 9)⟩,
  ⟨some 11, some (7, true), .len (.t 10)⟩,
  ⟨some 12, some (7, true), .bin .lss (.t 8) (.t 11)⟩,
  ⟨some 13, none, .pick (.t 7) (.t 12) (.c (.bool false))⟩,
  ⟨some 4, none, .mov (.t 13)⟩]
abbrev c54 : IR := .seq (.reg c54_r1) (.seq (.reg c54_r2) (.ret))
abbrev F54 : FnA := ⟨14, c54, [.t 4]⟩
theorem ok54 : cFn Tryz.prog 54 = some F54 := by kernel_rfl
theorem hb54 : HasBody Tryz.prog 54 := ⟨_, Tryz.func54, by kernel_rfl, by kernel_rfl⟩
/-! ref14.spans -/
abbrev c55_r1 : List Ins := [
  ⟨some 2, none, .mov (.c (.bool false))⟩]
abbrev c55_r2 : List Ins := [
  ⟨some 3, none, .mov (.c (.int .i64 0))⟩]
abbrev c55_r3 : List Ins := [
  ⟨some 4, none, .mov (.t 3)⟩,
  ⟨some 5, none, .mov (.t 0)⟩,
  ⟨some 6, none, .len (.t 5)⟩,
  ⟨some 7, none, .bin .lss (.t 4) (.t 6)⟩]
abbrev c55_r4 : List Ins := [
  ⟨some 10, none, .mov (.t 0)⟩,
  ⟨some 11, none, .mov (.t 3)⟩,
  ⟨some 12, none, .iaddr 2 (.t 10) (.t 11)⟩,
  ⟨some 13, none, .faddr 0 (.t 12)⟩,
  ⟨some 14, none, .load 1 false (.t 13)⟩,
  ⟨some 15, none, .bin .lss (.t 14) (.c (.int .i64 0))⟩,
  ⟨some 16, none, .mov (.t 15)⟩,
  ⟨some 17, some (16, false), .mov (.t 0)⟩,
  ⟨some 18, some (16, false), .mov (.t 3)⟩,
  ⟨some 19, some (16, false), .iaddr 2 (.t 17) (.t 18)⟩,
  ⟨some 20, some (16, false), .faddr 0 (.t 19)⟩,
  ⟨some 21, some (16, false), .load 1 false (.t 20)⟩,
  ⟨some 22, some (16, false), .mov (.t 0)⟩,
  ⟨some 23, some (16, false), .mov (.t 3)⟩,
  ⟨some 24, some (16, false), .iaddr 2 (.t 22) (.t 23)⟩,
  ⟨some 25, some (16, false), .faddr 1 (.t 24)⟩,
  ⟨some 26, some (16, false), .load 1 false (.t 25)⟩,
  ⟨some 27, some (16, false), .bin .gtr (.t 21) (.t 26)⟩,
  ⟨some 28, none, .pick (.t 16) (.c (.bool true)) (.t 27)⟩,
  ⟨some 29, none, .mov (.t 28)⟩,
  ⟨some 30, some (29, false), .mov (.t 0)⟩,
  ⟨some 31, some (29, false), .mov (.t 3)⟩,
  ⟨some 32, some (29, false), .iaddr 2 (.t 30) (.t 31)⟩,
  ⟨some 33, some (29, false), .faddr 1 (.t 32)⟩,
  ⟨some 34, some (29, false), .load 1 false (.t 33)⟩,
  ⟨some 35, some (29, false), .bin .gtr (.t 34) (.c (.int .i64 999))⟩,
  ⟨some 36, none, .pick (.t 29) (.c (.bool true)) (.t 35)⟩]
def c55_a4 : List (List Nat) := [[], [], [0, 1], [2], [3], [4], [5], [6], [6], [7, 8, 6], [9, 6], [10, 6], [6], [6], [12, 13, 6], [14, 6], [15, 6], [11, 16, 6], [6, 17], [18, 6], [19], [19], [20, 21, 19], [22, 19], [23, 19], [24, 19], [19, 25]]
abbrev c55_m4 : List Am.Mark := [⟨false, 0, 0⟩, ⟨false, 0, 0⟩, ⟨false, 0, 0⟩, ⟨false, 0, 0⟩, ⟨false, 0, 0⟩, ⟨false, 0, 0⟩, ⟨false, 0, 0⟩, ⟨false, 0, 0⟩, ⟨false, 0, 0⟩, ⟨false, 0, 0⟩, ⟨false, 0, 0⟩, ⟨false, 0, 0⟩, ⟨false, 0, 0⟩, ⟨false, 0, 0⟩, ⟨false, 0, 0⟩, ⟨false, 0, 0⟩, ⟨false, 0, 0⟩, ⟨false, 0, 0⟩, ⟨false, 0, 0⟩, ⟨false, 0, 0⟩, ⟨false, 0, 0⟩, ⟨false, 0, 0⟩, ⟨false, 0, 0⟩, ⟨false, 0, 0⟩, ⟨false, 0, 0⟩, ⟨false, 0, 0⟩, ⟨false, 0, 0⟩]
theorem c55_d4 : drawFine c55_r4 c55_a4 c55_m4 = true := by decide +kernel
abbrev c55_r5 : List Ins := [
  ⟨some 2, none, .mov (.c (.bool false))⟩]
abbrev c55_r6 : List Ins := [
  ⟨some 8, none, .mov (.t 3)⟩,
  ⟨some 9, none, .bin .add (.t 8) (.c (.int .i64 1))⟩,
  ⟨some 3, none, .mov (.t 9)⟩]
abbrev c55_l7 : IR := .seq (.seq (.reg c55_r3) (.cond (.t 7) (.skip) (.exit 0))) (.seq (.blk 1 (.seq (.dreg c55_r4 c55_a4) (.cond (.t 36) (.seq (.reg c55_r5) (.ret)) (.skip)))) (.reg c55_r6))
abbrev c55_r8 : List Ins := [
  ⟨some 37, none, .mov (.t 0)⟩,
  ⟨some 38, none, .len (.t 37)⟩,
  ⟨some 39, none, .bin .leq (.t 38) (.c (.int .i64 40))⟩,
  ⟨some 2, none, .mov (.t 39)⟩]
abbrev c55 : IR := .seq (.reg c55_r1) (.seq (.seq (.reg c55_r2) (.blk 0 (.loop c55_l7))) (.seq (.reg c55_r8) (.ret)))
abbrev F55 : FnA := ⟨40, c55, [.t 2]⟩
theorem ok55 : cFn Tryz.prog 55 = some F55 := by kernel_rfl
theorem hb55 : HasBody Tryz.prog 55 := ⟨_, Tryz.func55, by kernel_rfl, by kernel_rfl⟩
/-! ref16.Ways -/
abbrev c56_r1 : List Ins := [
  ⟨some 2, none, .box (.t 0)⟩,
  ⟨some 4, none, .mov (.c (.sl .full []))⟩]
abbrev c56_r2 : List Ins := [
  ⟨some 13, none, .mov (.t 1)⟩,
  ⟨some 14, none, .len (.t 13)⟩,
  ⟨some 5, none, .mov (.t 14)⟩]
abbrev c56_r3 : List Ins := [
  ⟨some 15, none, .mov (.t 5)⟩,
  ⟨some 16, none, .mksl 1 24 [.sl .full []] (.t 15) (.t 15)⟩,
  ⟨some 6, none, .mov (.t 16)⟩]
abbrev c56_r4 : List Ins := [
  ⟨some 7, none, .mov (.c (.int .i64 0))⟩]
abbrev c56_r5 : List Ins := [
  ⟨some 17, none, .mov (.t 7)⟩,
  ⟨some 18, none, .mov (.t 5)⟩,
  ⟨some 19, none, .bin .lss (.t 17) (.t 18)⟩]
abbrev c56_r6 : List Ins := [
  ⟨some 22, none, .mov (.t 6)⟩,
  ⟨some 23, none, .mov (.t 7)⟩,
  ⟨some 24, none, .mov (.t 5)⟩,
  ⟨some 25, none, .mksl 1 1 [.bool false] (.t 24) (.t 24)⟩,
  ⟨some 26, none, .iaddr 1 (.t 22) (.t 23)⟩,
  ⟨none, none, .store 1 (.t 26) (.t 25)⟩]
abbrev c56_r7 : List Ins := [
  ⟨some 20, none, .mov (.t 7)⟩,
  ⟨some 21, none, .bin .add (.t 20) (.c (.int .i64 1))⟩,
  ⟨some 7, none, .mov (.t 21)⟩]
abbrev c56_l8 : IR := .seq (.seq (.reg c56_r5) (.cond (.t 19) (.skip) (.exit 0))) (.seq (.blk 1 (.reg c56_r6)) (.reg c56_r7))
abbrev c56_r9 : List Ins := [
  ⟨some 27, none, .load 17 true (.t 2)⟩,
  ⟨some 28, none, .mov (.t 1)⟩,
  ⟨some 29, none, .call (.c (.fn 82 [] [])) [.t 27, .t 28]⟩,
  ⟨some 8, none, .mov (.t 29)⟩]
abbrev c56_r10 : List Ins := [
  ⟨some 9, none, .mov (.c (.int .i64 0))⟩]
abbrev c56_r11 : List Ins := [
  ⟨some 30, none, .mov (.t 9)⟩,
  ⟨some 31, none, .mov (.t 8)⟩,
  ⟨some 32, none, .len (.t 31)⟩,
  ⟨some 33, none, .bin .lss (.t 30) (.t 32)⟩]
abbrev c56_r12 : List Ins := [
  ⟨some 36, none, .mov (.t 6)⟩,
  ⟨some 37, none, .mov (.t 8)⟩,
  ⟨some 38, none, .mov (.t 9)⟩,
  ⟨some 39, none, .iaddr 3 (.t 37) (.t 38)⟩,
  ⟨some 40, none, .faddr 0 (.t 39)⟩,
  ⟨some 41, none, .load 1 false (.t 40)⟩,
  ⟨some 42, none, .iaddr 1 (.t 36) (.t 41)⟩,
  ⟨some 43, none, .load 1 false (.t 42)⟩,
  ⟨some 44, none, .mov (.t 8)⟩,
  ⟨some 45, none, .mov (.t 9)⟩,
  ⟨some 46, none, .iaddr 3 (.t 44) (.t 45)⟩,
  ⟨some 47, none, .faddr 1 (.t 46)⟩,
  ⟨some 48, none, .load 1 false (.t 47)⟩,
  ⟨some 49, none, .iaddr 1 (.t 43) (.t 48)⟩,
  ⟨none, none, .store 1 (.t 49) (.c (.bool true))⟩]
def c56_a12 : List (List Nat) := [[], [], [], [1, 2], [3], [4], [0, 5], [6], [], [], [8, 9], [10], [11], [7, 12, 0, 1, 2, 3, 4, 5, 6, 7, 8, 9, 10, 11, 12], [13, 0, 1, 2, 3, 4, 5, 6, 7, 8, 9, 10, 11, 12]]
abbrev c56_m12 : List Am.Mark := [⟨false, 0, 0⟩, ⟨false, 0, 0⟩, ⟨false, 0, 0⟩, ⟨false, 0, 0⟩, ⟨false, 0, 0⟩, ⟨false, 0, 0⟩, ⟨false, 0, 0⟩, ⟨false, 0, 0⟩, ⟨false, 0, 0⟩, ⟨false, 0, 0⟩, ⟨false, 0, 0⟩, ⟨false, 0, 0⟩, ⟨false, 0, 0⟩, ⟨false, 0, 0⟩, ⟨true, 0, 1⟩]
theorem c56_d12 : drawFine c56_r12 c56_a12 c56_m12 = true := by decide +kernel
abbrev c56_r13 : List Ins := [
  ⟨some 34, none, .mov (.t 9)⟩,
  ⟨some 35, none, .bin .add (.t 34) (.c (.int .i64 1))⟩,
  ⟨some 9, none, .mov (.t 35)⟩]
abbrev c56_l14 : IR := .seq (.seq (.reg c56_r11) (.cond (.t 33) (.skip) (.exit 2))) (.seq (.blk 3 (.dreg c56_r12 c56_a12)) (.reg c56_r13))
abbrev c56_r15 : List Ins := [
  ⟨some 10, none, .mov (.c (.int .i64 0))⟩]
abbrev c56_r16 : List Ins := [
  ⟨some 50, none, .mov (.t 10)⟩,
  ⟨some 51, none, .mov (.t 5)⟩,
  ⟨some 52, none, .bin .lss (.t 50) (.t 51)⟩]
abbrev c56_r17 : List Ins := [
  ⟨some 11, none, .mov (.c (.int .i64 0))⟩]
abbrev c56_r18 : List Ins := [
  ⟨some 55, none, .mov (.t 11)⟩,
  ⟨some 56, none, .mov (.t 5)⟩,
  ⟨some 57, none, .bin .lss (.t 55) (.t 56)⟩]
abbrev c56_r19 : List Ins := [
  ⟨some 12, none, .mov (.c (.int .i64 0))⟩]
abbrev c56_r20 : List Ins := [
  ⟨some 60, none, .mov (.t 12)⟩,
  ⟨some 61, none, .mov (.t 5)⟩,
  ⟨some 62, none, .bin .lss (.t 60) (.t 61)⟩]
abbrev c56_r21 : List Ins := [
  ⟨some 65, none, .mov (.t 6)⟩,
  ⟨some 66, none, .mov (.t 11)⟩,
  ⟨some 67, none, .iaddr 1 (.t 65) (.t 66)⟩,
  ⟨some 68, none, .load 1 false (.t 67)⟩,
  ⟨some 69, none, .mov (.t 10)⟩,
  ⟨some 70, none, .iaddr 1 (.t 68) (.t 69)⟩,
  ⟨some 71, none, .load 1 false (.t 70)⟩,
  ⟨some 72, none, .mov (.t 71)⟩,
  ⟨some 73, some (72, true), .mov (.t 6)⟩,
  ⟨some 74, some (72, true), .mov (.t 10)⟩,
  ⟨some 75, some (72, true), .iaddr 1 (.t 73) (.t 74)⟩,
  ⟨some 76, some (72, true), .load 1 false (.t 75)⟩,
  ⟨some 77, some (72, true), .mov (.t 12)⟩,
  ⟨some 78, some (72, true), .iaddr 1 (.t 76) (.t 77)⟩,
  ⟨some 79, some (72, true), .load 1 false (.t 78)⟩,
  ⟨some 80, none, .pick (.t 72) (.t 79) (.c (.bool false))⟩]
abbrev c56_r22 : List Ins := [
  ⟨some 81, none, .mov (.t 6)⟩,
  ⟨some 82, none, .mov (.t 11)⟩,
  ⟨some 83, none, .iaddr 1 (.t 81) (.t 82)⟩,
  ⟨some 84, none, .load 1 false (.t 83)⟩,
  ⟨some 85, none, .mov (.t 12)⟩,
  ⟨some 86, none, .iaddr 1 (.t 84) (.t 85)⟩,
  ⟨none, none, .store 1 (.t 86) (.c (.bool true))⟩]
abbrev c56_r23 : List Ins := [
  ⟨some 63, none, .mov (.t 12)⟩,
  ⟨some 64, none, .bin .add (.t 63) (.c (.int .i64 1))⟩,
  ⟨some 12, none, .mov (.t 64)⟩]
abbrev c56_l24 : IR := .seq (.seq (.reg c56_r20) (.cond (.t 62) (.skip) (.exit 8))) (.seq (.blk 9 (.seq (.reg c56_r21) (.cond (.t 80) (.reg c56_r22) (.skip)))) (.reg c56_r23))
abbrev c56_r25 : List Ins := [
  ⟨some 58, none, .mov (.t 11)⟩,
  ⟨some 59, none, .bin .add (.t 58) (.c (.int .i64 1))⟩,
  ⟨some 11, none, .mov (.t 59)⟩]
abbrev c56_l26 : IR := .seq (.seq (.reg c56_r18) (.cond (.t 57) (.skip) (.exit 6))) (.seq (.blk 7 (.seq (.reg c56_r19) (.blk 8 (.loop c56_l24)))) (.reg c56_r25))
abbrev c56_r27 : List Ins := [
  ⟨some 53, none, .mov (.t 10)⟩,
  ⟨some 54, none, .bin .add (.t 53) (.c (.int .i64 1))⟩,
  ⟨some 10, none, .mov (.t 54)⟩]
abbrev c56_l28 : IR := .seq (.seq (.reg c56_r16) (.cond (.t 52) (.skip) (.exit 4))) (.seq (.blk 5 (.seq (.reg c56_r17) (.blk 6 (.loop c56_l26)))) (.reg c56_r27))
abbrev c56_r29 : List Ins := [
  ⟨some 87, none, .mov (.t 6)⟩,
  ⟨some 4, none, .mov (.t 87)⟩]
abbrev c56 : IR := .seq (.reg c56_r1) (.seq (.reg c56_r2) (.seq (.reg c56_r3) (.seq (.seq (.reg c56_r4) (.blk 0 (.loop c56_l8))) (.seq (.reg c56_r9) (.seq (.seq (.reg c56_r10) (.blk 2 (.loop c56_l14))) (.seq (.seq (.reg c56_r15) (.blk 4 (.loop c56_l28))) (.seq (.reg c56_r29) (.ret))))))))
abbrev F56 : FnA := ⟨88, c56, [.t 4]⟩
theorem ok56 : cFn Tryz.prog 56 = some F56 := by kernel_rfl
theorem hb56 : HasBody Tryz.prog 56 := ⟨_, Tryz.func56, by kernel_rfl, by kernel_rfl⟩
/-! foot.May$1 -/
abbrev c57_r1 : List Ins := [
  ⟨some 2, none, .box (.t 0)⟩,
  ⟨some 3, none, .mov (.c (.bool false))⟩]
abbrev c57_r2 : List Ins := [
  ⟨some 4, none, .faddr 0 (.t 2)⟩,
  ⟨some 5, none, .load 2 true (.t 4)⟩,
  ⟨some 6, none, .call (.c (.fn 58 [] [])) [.t 5]⟩,
  ⟨some 7, none, .load 1 false (.t 1)⟩,
  ⟨some 8, none, .call (.c (.fn 49 [] [])) [.t 6, .t 7]⟩,
  ⟨some 9, none, .un .not (.t 8)⟩,
  ⟨some 10, none, .mov (.t 9)⟩,
  ⟨some 11, some (10, false), .faddr 2 (.t 2)⟩,
  ⟨some 12, some (10, false), .load 2 true (.t 11)⟩,
  ⟨some 13, some (10, false), .call (.c (.fn 58 [] [])) [.t 12]⟩,
  ⟨some 14, some (10, false), .load 1 false (.t 1)⟩,
  ⟨some 15, some (10, false), .call (.c (.fn 49 [] [])) [.t 13, .t 14]⟩,
  ⟨some 16, some (10, false), .un .not (.t 15)⟩,
  ⟨some 17, none, .pick (.t 10) (.c (.bool true)) (.t 16)⟩,
  ⟨some 3, none, .mov (.t 17)⟩]
def c57_a2 : List (List Nat) := [[], [0], [1], [], [2, 3, 2], [4], [5, 4], [6], [7, 6], [8, 6, 6], [6], [9, 10, 9, 6], [11, 6], [6, 12], [13, 11, 0, 1, 2, 3, 4, 5, 6, 7, 8, 9, 10, 11, 12, 13]]
abbrev c57_m2 : List Am.Mark := [⟨false, 0, 0⟩, ⟨false, 0, 0⟩, ⟨false, 0, 0⟩, ⟨false, 0, 0⟩, ⟨false, 0, 0⟩, ⟨false, 0, 0⟩, ⟨false, 0, 0⟩, ⟨false, 0, 0⟩, ⟨false, 0, 0⟩, ⟨false, 0, 0⟩, ⟨false, 0, 0⟩, ⟨false, 0, 0⟩, ⟨false, 0, 0⟩, ⟨false, 0, 0⟩, ⟨false, 0, 0⟩]
theorem c57_d2 : drawFine c57_r2 c57_a2 c57_m2 = true := by decide +kernel
abbrev c57 : IR := .seq (.reg c57_r1) (.seq (.dreg c57_r2 c57_a2) (.ret))
abbrev F57 : FnA := ⟨18, c57, [.t 3]⟩
theorem ok57 : cFn Tryz.prog 57 = some F57 := by kernel_rfl
theorem hb57 : HasBody Tryz.prog 57 := ⟨_, Tryz.func57, by kernel_rfl, by kernel_rfl⟩
/-! foot.reads -/
abbrev c58_r1 : List Ins := [
  ⟨some 1, none, .box (.t 0)⟩,
  ⟨some 2, none, .mov (.c (.sl .full []))⟩]
abbrev c58_r2 : List Ins := [
  ⟨some 3, none, .load 2 true (.t 1)⟩,
  ⟨some 4, none, .build [.int .i64 0, .int .i64 0, .int .i64 0, .int .i64 0, .int .i64 0, .int .i64 0, .int .i64 0, .int .i64 0, .int .i64 0] [(0, (1, .c (.int .i64 1))), (4, (2, .t 3))]⟩,
  ⟨some 5, none, .bsl 9 1 [.int .i64 0, .int .i64 0, .int .i64 0, .int .i64 0, .int .i64 0, .int .i64 0, .int .i64 0, .int .i64 0, .int .i64 0] [(0, .t 4)]⟩,
  ⟨some 2, none, .mov (.t 5)⟩]
abbrev c58 : IR := .seq (.reg c58_r1) (.seq (.reg c58_r2) (.ret))
abbrev F58 : FnA := ⟨6, c58, [.t 2]⟩
theorem ok58 : cFn Tryz.prog 58 = some F58 := by kernel_rfl
theorem hb58 : HasBody Tryz.prog 58 := ⟨_, Tryz.func58, by kernel_rfl, by kernel_rfl⟩
/-! slices.ContainsFunc:SpanT -/
abbrev c59_r1 : List Ins := [
  ⟨some 4, none, .mov (.c (.bool false))⟩]
abbrev c59_r2 : List Ins := [
  ⟨some 5, none, .mov (.t 0)⟩,
  ⟨some 6, none, .mov (.t 1)⟩,
  ⟨some 7, none, .call (.c (.fn 83 [] [])) [.t 5, .t 6]⟩,
  ⟨some 8, none, .bin .geq (.t 7) (.c (.int .i64 0))⟩,
  ⟨some 4, none, .mov (.t 8)⟩]
abbrev c59 : IR := .seq (.reg c59_r1) (.seq (.reg c59_r2) (.ret))
abbrev F59 : FnA := ⟨9, c59, [.t 4]⟩
theorem ok59 : cFn Tryz.prog 59 = some F59 := by kernel_rfl
theorem hb59 : HasBody Tryz.prog 59 := ⟨_, Tryz.func59, by kernel_rfl, by kernel_rfl⟩
/-! slices.ContainsFunc:Class -/
abbrev c60_r1 : List Ins := [
  ⟨some 4, none, .mov (.c (.bool false))⟩]
abbrev c60_r2 : List Ins := [
  ⟨some 5, none, .mov (.t 0)⟩,
  ⟨some 6, none, .mov (.t 1)⟩,
  ⟨some 7, none, .call (.c (.fn 84 [] [])) [.t 5, .t 6]⟩,
  ⟨some 8, none, .bin .geq (.t 7) (.c (.int .i64 0))⟩,
  ⟨some 4, none, .mov (.t 8)⟩]
abbrev c60 : IR := .seq (.reg c60_r1) (.seq (.reg c60_r2) (.ret))
abbrev F60 : FnA := ⟨9, c60, [.t 4]⟩
theorem ok60 : cFn Tryz.prog 60 = some F60 := by kernel_rfl
theorem hb60 : HasBody Tryz.prog 60 := ⟨_, Tryz.func60, by kernel_rfl, by kernel_rfl⟩
/-! cat.named$1 -/
abbrev c61_r1 : List Ins := [
  ⟨some 2, none, .box (.t 0)⟩,
  ⟨some 3, none, .mov (.c (.bool false))⟩]
abbrev c61_r2 : List Ins := [
  ⟨some 4, none, .faddr 0 (.t 2)⟩,
  ⟨some 5, none, .load 1 false (.t 4)⟩,
  ⟨some 6, none, .faddr 0 (.t 1)⟩,
  ⟨some 7, none, .load 1 false (.t 6)⟩,
  ⟨some 8, none, .bin .eql (.t 5) (.t 7)⟩,
  ⟨some 3, none, .mov (.t 8)⟩]
abbrev c61 : IR := .seq (.reg c61_r1) (.seq (.reg c61_r2) (.ret))
abbrev F61 : FnA := ⟨9, c61, [.t 3]⟩
theorem ok61 : cFn Tryz.prog 61 = some F61 := by kernel_rfl
theorem hb61 : HasBody Tryz.prog 61 := ⟨_, Tryz.func61, by kernel_rfl, by kernel_rfl⟩
/-! cat.pairs -/
abbrev c62_r1 : List Ins := [
  ⟨some 1, none, .box (.t 0)⟩,
  ⟨some 2, none, .mov (.c .nilfn)⟩]
abbrev c62_r2 : List Ins := [
  ⟨some 3, none, .mkfn 85 [] [.t 1]⟩,
  ⟨some 2, none, .mov (.t 3)⟩]
abbrev c62 : IR := .seq (.reg c62_r1) (.seq (.reg c62_r2) (.ret))
abbrev F62 : FnA := ⟨4, c62, [.t 2]⟩
theorem ok62 : cFn Tryz.prog 62 = some F62 := by kernel_rfl
theorem hb62 : HasBody Tryz.prog 62 := ⟨_, Tryz.func62, by kernel_rfl, by kernel_rfl⟩
/-! slices.Clone:Class -/
abbrev c63_r1 : List Ins := [
  ⟨some 2, none, .mov (.c (.sl .full []))⟩]
abbrev c63_r2 : List Ins := [
  ⟨some 3, none, .mov (.t 0)⟩,
  ⟨some 4, none, .isnil false (.t 3)⟩]
abbrev c63_r3 : List Ins := [
  ⟨some 2, none, .mov (.c (.sl .full []))⟩]
abbrev c63_r4 : List Ins := [
  ⟨some 5, none, .bsl 5 0 [.str ⟨#[]⟩, .int .i64 0, .sl .full [], .sl .full [], .bool false] []⟩,
  ⟨some 6, none, .mov (.t 0)⟩,
  ⟨some 7, none, .append 5 80 (.t 5) (.t 6)⟩,
  ⟨some 2, none, .mov (.t 7)⟩]
abbrev c63 : IR := .seq (.reg c63_r1) (.seq (.seq (.reg c63_r2) (.cond (.t 4) (.seq (.reg c63_r3) (.ret)) (.skip))) (.seq (.reg c63_r4) (.ret)))
abbrev F63 : FnA := ⟨8, c63, [.t 2]⟩
theorem ok63 : cFn Tryz.prog 63 = some F63 := by kernel_rfl
theorem hb63 : HasBody Tryz.prog 63 := ⟨_, Tryz.func63, by kernel_rfl, by kernel_rfl⟩
/-! cat.steps -/
abbrev c64_r1 : List Ins := [
  ⟨some 2, none, .mov (.c (.sl .full []))⟩]
abbrev c64_r2 : List Ins := [
  ⟨some 6, none, .mov (.t 0)⟩,
  ⟨some 7, none, .call (.c (.fn 86 [] [])) [.t 6]⟩,
  ⟨some 3, none, .mov (.t 7)⟩]
abbrev c64_r3 : List Ins := [
  ⟨some 8, none, .mov (.t 3)⟩,
  ⟨some 9, none, .len (.t 8)⟩,
  ⟨some 10, none, .mov (.c (.int .i64 0))⟩]
abbrev c64_r4 : List Ins := [
  ⟨some 11, none, .bin .lss (.t 10) (.t 9)⟩]
abbrev c64_r5 : List Ins := [
  ⟨some 12, none, .mov (.t 10)⟩,
  ⟨some 13, none, .iaddr 2 (.t 8) (.t 10)⟩,
  ⟨some 14, none, .load 2 true (.t 13)⟩,
  ⟨some 5, none, .alloc [.sl .full [], .sl .full []]⟩,
  ⟨some 4, none, .mov (.t 12)⟩,
  ⟨none, none, .store 2 (.t 5) (.t 14)⟩]
abbrev c64_r6 : List Ins := [
  ⟨some 15, none, .mov (.t 3)⟩,
  ⟨some 16, none, .mov (.t 4)⟩,
  ⟨some 17, none, .faddr 0 (.t 5)⟩,
  ⟨some 18, none, .load 1 false (.t 17)⟩,
  ⟨some 19, none, .call (.c (.fn 87 [] [])) [.t 18]⟩,
  ⟨some 20, none, .faddr 1 (.t 5)⟩,
  ⟨some 21, none, .load 1 false (.t 20)⟩,
  ⟨some 22, none, .call (.c (.fn 88 [] [])) [.t 21]⟩,
  ⟨some 23, none, .build [.sl .full [], .sl .full []] [(0, (1, .t 19)), (1, (1, .t 22))]⟩,
  ⟨some 24, none, .iaddr 2 (.t 15) (.t 16)⟩,
  ⟨none, none, .store 2 (.t 24) (.t 23)⟩]
def c64_a6 : List (List Nat) := [[], [], [], [2], [3], [], [5], [6, 4], [4, 7], [0, 1, 0, 1, 2, 3, 4, 5, 6, 7, 8], [9, 8, 7, 0, 1, 2, 3, 4, 5, 6, 7, 8]]
abbrev c64_m6 : List Am.Mark := [⟨false, 0, 0⟩, ⟨false, 0, 0⟩, ⟨false, 0, 0⟩, ⟨false, 0, 0⟩, ⟨false, 0, 0⟩, ⟨false, 0, 0⟩, ⟨false, 0, 0⟩, ⟨false, 0, 0⟩, ⟨false, 0, 0⟩, ⟨false, 0, 0⟩, ⟨true, 0, 1⟩]
theorem c64_d6 : drawFine c64_r6 c64_a6 c64_m6 = true := by decide +kernel
abbrev c64_r7 : List Ins := [
  ⟨some 25, none, .bin .add (.t 10) (.c (.int .i64 1))⟩,
  ⟨some 10, none, .mov (.t 25)⟩]
abbrev c64_l8 : IR := .seq (.reg c64_r4) (.seq (.cond (.t 11) (.skip) (.exit 0)) (.seq (.blk 1 (.seq (.reg c64_r5) (.dreg c64_r6 c64_a6))) (.reg c64_r7)))
abbrev c64_r9 : List Ins := [
  ⟨some 26, none, .mov (.t 3)⟩,
  ⟨some 2, none, .mov (.t 26)⟩]
abbrev c64 : IR := .seq (.reg c64_r1) (.seq (.reg c64_r2) (.seq (.seq (.reg c64_r3) (.blk 0 (.loop c64_l8))) (.seq (.reg c64_r9) (.ret))))
abbrev F64 : FnA := ⟨27, c64, [.t 2]⟩
theorem ok64 : cFn Tryz.prog 64 = some F64 := by kernel_rfl
theorem hb64 : HasBody Tryz.prog 64 := ⟨_, Tryz.func64, by kernel_rfl, by kernel_rfl⟩
/-! ref09.One -/
abbrev c65_r1 : List Ins := [
  ⟨some 2, none, .box (.t 0)⟩,
  ⟨some 4, none, .mov (.c (.bool false))⟩]
abbrev c65_r2 : List Ins := [
  ⟨some 11, none, .faddr 0 (.t 2)⟩,
  ⟨some 12, none, .load 1 false (.t 11)⟩,
  ⟨some 13, none, .bin .lss (.t 12) (.c (.int .i64 1))⟩,
  ⟨some 14, none, .mov (.t 13)⟩,
  ⟨some 15, some (14, false), .faddr 0 (.t 2)⟩,
  ⟨some 16, some (14, false), .load 1 false (.t 15)⟩,
  ⟨some 17, some (14, false), .bin .gtr (.t 16) (.c (.int .i64 8))⟩,
  ⟨some 18, none, .pick (.t 14) (.c (.bool true)) (.t 17)⟩,
  ⟨some 19, none, .mov (.t 18)⟩,
  ⟨some 20, some (19, false), .faddr 1 (.t 2)⟩,
  ⟨some 21, some (19, false), .load 1 false (.t 20)⟩,
  ⟨some 22, some (19, false), .bin .lss (.t 21) (.c (.int .i64 0))⟩,
  ⟨some 23, none, .pick (.t 19) (.c (.bool true)) (.t 22)⟩,
  ⟨some 24, none, .mov (.t 23)⟩,
  ⟨some 25, some (24, false), .faddr 1 (.t 2)⟩,
  ⟨some 26, some (24, false), .load 1 false (.t 25)⟩,
  ⟨some 27, some (24, false), .bin .gtr (.t 26) (.c (.int .i64 3))⟩,
  ⟨some 28, none, .pick (.t 24) (.c (.bool true)) (.t 27)⟩]
abbrev c65_r3 : List Ins := [
  ⟨some 4, none, .mov (.c (.bool false))⟩]
abbrev c65_r4 : List Ins := [
  ⟨some 5, none, .alloc [.int .i64 0, .int .i64 0]⟩]
abbrev c65_r5 : List Ins := [
  ⟨some 29, none, .faddr 0 (.t 2)⟩,
  ⟨some 30, none, .load 1 false (.t 29)⟩,
  ⟨some 31, none, .bin .neq (.t 30) (.c (.int .i64 3))⟩,
  ⟨some 6, none, .mov (.t 31)⟩]
abbrev c65_r6 : List Ins := [
  ⟨some 32, none, .faddr 0 (.t 2)⟩,
  ⟨some 33, none, .load 1 false (.t 32)⟩,
  ⟨some 34, none, .bin .leq (.t 33) (.c (.int .i64 4))⟩,
  ⟨some 7, none, .mov (.t 34)⟩]
abbrev c65_r7 : List Ins := [
  ⟨some 35, none, .faddr 0 (.t 2)⟩,
  ⟨some 36, none, .load 1 false (.t 35)⟩,
  ⟨some 37, none, .bin .eql (.t 36) (.c (.int .i64 4))⟩,
  ⟨some 8, none, .mov (.t 37)⟩]
abbrev c65_r8 : List Ins := [
  ⟨some 38, none, .faddr 0 (.t 2)⟩,
  ⟨some 39, none, .load 1 false (.t 38)⟩,
  ⟨some 40, none, .bin .eql (.t 39) (.c (.int .i64 6))⟩,
  ⟨some 41, none, .mov (.t 40)⟩,
  ⟨some 42, some (41, false), .faddr 0 (.t 2)⟩,
  ⟨some 43, some (41, false), .load 1 false (.t 42)⟩,
  ⟨some 44, some (41, false), .bin .eql (.t 43) (.c (.int .i64 7))⟩,
  ⟨some 45, none, .pick (.t 41) (.c (.bool true)) (.t 44)⟩,
  ⟨some 9, none, .mov (.t 45)⟩]
abbrev c65_r9 : List Ins := [
  ⟨some 46, none, .faddr 0 (.t 2)⟩,
  ⟨some 47, none, .load 1 false (.t 46)⟩,
  ⟨some 48, none, .bin .eql (.t 47) (.c (.int .i64 5))⟩,
  ⟨some 49, none, .mov (.t 48)⟩,
  ⟨some 50, some (49, false), .faddr 0 (.t 2)⟩,
  ⟨some 51, some (49, false), .load 1 false (.t 50)⟩,
  ⟨some 52, some (49, false), .bin .eql (.t 51) (.c (.int .i64 8))⟩,
  ⟨some 53, none, .pick (.t 49) (.c (.bool true)) (.t 52)⟩,
  ⟨some 10, none, .mov (.t 53)⟩]
abbrev c65_r10 : List Ins := [
  ⟨some 54, none, .mov (.t 6)⟩,
  ⟨some 55, none, .un .not (.t 54)⟩,
  ⟨some 56, none, .mov (.t 55)⟩,
  ⟨some 57, some (56, true), .faddr 1 (.t 2)⟩,
  ⟨some 58, some (56, true), .load 1 false (.t 57)⟩,
  ⟨some 59, some (56, true), .bin .neq (.t 58) (.c (.int .i64 0))⟩,
  ⟨some 60, none, .pick (.t 56) (.t 59) (.c (.bool false))⟩,
  ⟨some 61, none, .mov (.t 60)⟩,
  ⟨some 62, some (61, false), .mov (.t 10)⟩,
  ⟨some 63, some (61, false), .un .not (.t 62)⟩,
  ⟨some 64, some (61, false), .mov (.t 63)⟩,
  ⟨some 65, some (64, true), .faddr 8 (.t 2)⟩,
  ⟨some 66, some (64, true), .load 1 false (.t 65)⟩,
  ⟨some 67, some (64, true), .bin .neq (.t 66) (.c (.int .i64 0))⟩,
  ⟨some 68, some (61, false), .pick (.t 64) (.t 67) (.c (.bool false))⟩,
  ⟨some 69, none, .pick (.t 61) (.c (.bool true)) (.t 68)⟩,
  ⟨some 70, none, .mov (.t 69)⟩,
  ⟨some 71, some (70, false), .mov (.t 9)⟩,
  ⟨some 72, some (70, false), .un .not (.t 71)⟩,
  ⟨some 73, some (70, false), .mov (.t 72)⟩,
  ⟨some 74, some (73, true), .faddr 2 (.t 2)⟩,
  ⟨some 75, some (73, true), .load 1 false (.t 74)⟩,
  ⟨some 76, some (73, true), .bin .neq (.t 75) (.c (.int .i64 0))⟩,
  ⟨some 77, some (73, true), .mov (.t 76)⟩,
  ⟨some 78, some (77, false), .faddr 3 (.t 2)⟩,
  ⟨some 79, some (77, false), .load 1 false (.t 78)⟩,
  ⟨some 80, some (77, false), .bin .neq (.t 79) (.c (.int .i64 0))⟩,
  ⟨some 81, some (73, true), .pick (.t 77) (.c (.bool true)) (.t 80)⟩,
  ⟨some 82, some (70, false), .pick (.t 73) (.t 81) (.c (.bool false))⟩,
  ⟨some 83, none, .pick (.t 70) (.c (.bool true)) (.t 82)⟩,
  ⟨some 84, none, .mov (.t 83)⟩,
  ⟨some 85, some (84, false), .mov (.t 7)⟩,
  ⟨some 86, some (84, false), .un .not (.t 85)⟩,
  ⟨some 87, some (84, false), .mov (.t 86)⟩,
  ⟨some 88, some (87, true), .faddr 4 (.t 2)⟩,
  ⟨some 89, some (87, true), .load 2 true (.t 88)⟩,
  ⟨some 90, some (87, true), .load 2 true (.t 5)⟩,
  ⟨some 91, some (87, true), .eq [.i, .i] true true (.t 89) (.t 90)⟩,
  ⟨some 92, some (84, false), .pick (.t 87) (.t 91) (.c (.bool false))⟩,
  ⟨some 93, none, .pick (.t 84) (.c (.bool true)) (.t 92)⟩,
  ⟨some 94, none, .mov (.t 93)⟩,
  ⟨some 95, some (94, false), .mov (.t 8)⟩,
  ⟨some 96, some (94, false), .un .not (.t 95)⟩,
  ⟨some 97, some (94, false), .mov (.t 96)⟩,
  ⟨some 98, some (97, true), .faddr 6 (.t 2)⟩,
  ⟨some 99, some (97, true), .load 2 true (.t 98)⟩,
  ⟨some 100, some (97, true), .load 2 true (.t 5)⟩,
  ⟨some 101, some (97, true), .eq [.i, .i] true true (.t 99) (.t 100)⟩,
  ⟨some 102, some (94, false), .pick (.t 97) (.t 101) (.c (.bool false))⟩,
  ⟨some 103, none, .pick (.t 94) (.c (.bool true)) (.t 102)⟩]
abbrev c65_r11 : List Ins := [
  ⟨some 4, none, .mov (.c (.bool false))⟩]
abbrev c65_r12 : List Ins := [
  ⟨some 104, none, .mov (.t 9)⟩,
  ⟨some 105, none, .mov (.t 104)⟩,
  ⟨some 106, some (105, true), .faddr 2 (.t 2)⟩,
  ⟨some 107, some (105, true), .load 1 false (.t 106)⟩,
  ⟨some 108, some (105, true), .bin .lss (.t 107) (.c (.int .i64 0))⟩,
  ⟨some 109, some (105, true), .mov (.t 108)⟩,
  ⟨some 110, some (109, false), .faddr 2 (.t 2)⟩,
  ⟨some 111, some (109, false), .load 1 false (.t 110)⟩,
  ⟨some 112, some (109, false), .bin .gtr (.t 111) (.c (.int .i64 3))⟩,
  ⟨some 113, some (105, true), .pick (.t 109) (.c (.bool true)) (.t 112)⟩,
  ⟨some 114, some (105, true), .mov (.t 113)⟩,
  ⟨some 115, some (114, false), .faddr 3 (.t 2)⟩,
  ⟨some 116, some (114, false), .load 1 false (.t 115)⟩,
  ⟨some 117, some (114, false), .bin .lss (.t 116) (.c (.int .i64 0))⟩,
  ⟨some 118, some (105, true), .pick (.t 114) (.c (.bool true)) (.t 117)⟩,
  ⟨some 119, some (105, true), .mov (.t 118)⟩,
  ⟨some 120, some (119, false), .faddr 3 (.t 2)⟩,
  ⟨some 121, some (119, false), .load 1 false (.t 120)⟩,
  ⟨some 122, some (119, false), .bin .gtr (.t 121) (.c (.int .i64 3))⟩,
  ⟨some 123, some (105, true), .pick (.t 119) (.c (.bool true)) (.t 122)⟩,
  ⟨some 124, none, .pick (.t 105) (.t 123) (.c (.bool false))⟩]
abbrev c65_r13 : List Ins := [
  ⟨some 4, none, .mov (.c (.bool false))⟩]
abbrev c65_r14 : List Ins := [
  ⟨some 125, none, .mov (.t 7)⟩,
  ⟨some 126, none, .un .not (.t 125)⟩,
  ⟨some 127, none, .mov (.t 126)⟩,
  ⟨some 128, some (127, false), .faddr 4 (.t 2)⟩,
  ⟨some 129, some (127, false), .load 2 true (.t 128)⟩,
  ⟨some 130, some (127, false), .mov (.t 1)⟩,
  ⟨some 131, some (127, false), .call (.c (.fn 66 [] [])) [.t 129, .t 130]⟩,
  ⟨some 132, none, .pick (.t 127) (.c (.bool true)) (.t 131)⟩,
  ⟨some 133, none, .mov (.t 132)⟩,
  ⟨some 134, some (133, true), .mov (.t 8)⟩,
  ⟨some 135, some (133, true), .un .not (.t 134)⟩,
  ⟨some 136, some (133, true), .mov (.t 135)⟩,
  ⟨some 137, some (136, false), .faddr 6 (.t 2)⟩,
  ⟨some 138, some (136, false), .load 2 true (.t 137)⟩,
  ⟨some 139, some (136, false), .mov (.t 1)⟩,
  ⟨some 140, some (136, false), .call (.c (.fn 66 [] [])) [.t 138, .t 139]⟩,
  ⟨some 141, some (133, true), .pick (.t 136) (.c (.bool true)) (.t 140)⟩,
  ⟨some 142, none, .pick (.t 133) (.t 141) (.c (.bool false))⟩,
  ⟨some 4, none, .mov (.t 142)⟩]
abbrev c65 : IR := .seq (.reg c65_r1) (.seq (.seq (.reg c65_r2) (.cond (.t 28) (.seq (.reg c65_r3) (.ret)) (.skip))) (.seq (.reg c65_r4) (.seq (.reg c65_r5) (.seq (.reg c65_r6) (.seq (.reg c65_r7) (.seq (.reg c65_r8) (.seq (.reg c65_r9) (.seq (.seq (.reg c65_r10) (.cond (.t 103) (.seq (.reg c65_r11) (.ret)) (.skip))) (.seq (.seq (.reg c65_r12) (.cond (.t 124) (.seq (.reg c65_r13) (.ret)) (.skip))) (.seq (.reg c65_r14) (.ret)))))))))))
abbrev F65 : FnA := ⟨143, c65, [.t 4]⟩
theorem ok65 : cFn Tryz.prog 65 = some F65 := by kernel_rfl
theorem hb65 : HasBody Tryz.prog 65 := ⟨_, Tryz.func65, by kernel_rfl, by kernel_rfl⟩
/-! ref09.MayKey -/
abbrev c66_r1 : List Ins := [
  ⟨some 2, none, .box (.t 0)⟩,
  ⟨some 4, none, .mov (.c (.bool false))⟩]
abbrev c66_r2 : List Ins := [
  ⟨some 5, none, .faddr 0 (.t 2)⟩,
  ⟨some 6, none, .load 1 false (.t 5)⟩,
  ⟨some 7, none, .bin .geq (.t 6) (.c (.int .i64 (-1)))⟩,
  ⟨some 8, none, .mov (.t 7)⟩,
  ⟨some 9, some (8, true), .faddr 0 (.t 2)⟩,
  ⟨some 10, some (8, true), .load 1 false (.t 9)⟩,
  ⟨some 11, some (8, true), .mov (.t 1)⟩,
  ⟨some 12, some (8, true), .bin .lss (.t 10) (.t 11)⟩,
  ⟨some 13, none, .pick (.t 8) (.t 12) (.c (.bool false))⟩,
  ⟨some 14, none, .mov (.t 13)⟩,
  ⟨some 15, some (14, true), .faddr 1 (.t 2)⟩,
  ⟨some 16, some (14, true), .load 1 false (.t 15)⟩,
  ⟨some 17, some (14, true), .bin .geq (.t 16) (.c (.int .i64 0))⟩,
  ⟨some 18, none, .pick (.t 14) (.t 17) (.c (.bool false))⟩,
  ⟨some 19, none, .mov (.t 18)⟩,
  ⟨some 20, some (19, true), .faddr 1 (.t 2)⟩,
  ⟨some 21, some (19, true), .load 1 false (.t 20)⟩,
  ⟨some 22, some (19, true), .bin .leq (.t 21) (.c (.int .i64 900))⟩,
  ⟨some 23, none, .pick (.t 19) (.t 22) (.c (.bool false))⟩,
  ⟨some 4, none, .mov (.t 23)⟩]
abbrev c66 : IR := .seq (.reg c66_r1) (.seq (.reg c66_r2) (.ret))
abbrev F66 : FnA := ⟨24, c66, [.t 4]⟩
theorem ok66 : cFn Tryz.prog 66 = some F66 := by kernel_rfl
theorem hb66 : HasBody Tryz.prog 66 := ⟨_, Tryz.func66, by kernel_rfl, by kernel_rfl⟩
/-! class.each$1 -/
abbrev c69_r1 : List Ins := [
  ⟨some 4, none, .faddr 2 (.t 1)⟩,
  ⟨some 5, none, .load 1 false (.t 4)⟩,
  ⟨some 6, none, .len (.t 5)⟩,
  ⟨some 7, none, .faddr 3 (.t 1)⟩,
  ⟨some 8, none, .load 1 false (.t 7)⟩,
  ⟨some 9, none, .len (.t 8)⟩,
  ⟨some 10, none, .mn [.t 6, .t 9]⟩,
  ⟨some 11, none, .mov (.c (.int .i64 0))⟩]
abbrev c69_r2 : List Ins := [
  ⟨some 12, none, .bin .lss (.t 11) (.t 10)⟩]
abbrev c69_r3 : List Ins := [
  ⟨some 13, none, .mov (.t 11)⟩,
  ⟨some 3, none, .mov (.t 13)⟩]
abbrev c69_r4 : List Ins := [
  ⟨some 14, none, .mov (.t 0)⟩,
  ⟨some 15, none, .faddr 2 (.t 1)⟩,
  ⟨some 16, none, .load 1 false (.t 15)⟩,
  ⟨some 17, none, .mov (.t 3)⟩,
  ⟨some 18, none, .iaddr 2 (.t 16) (.t 17)⟩,
  ⟨some 19, none, .load 2 true (.t 18)⟩,
  ⟨some 20, none, .faddr 3 (.t 1)⟩,
  ⟨some 21, none, .load 1 false (.t 20)⟩,
  ⟨some 22, none, .mov (.t 3)⟩,
  ⟨some 23, none, .iaddr 2 (.t 21) (.t 22)⟩,
  ⟨some 24, none, .load 2 true (.t 23)⟩,
  ⟨some 25, none, .call (.t 14) [.t 19, .t 24]⟩,
  ⟨some 26, none, .un .not (.t 25)⟩]
def c69_a4 : List (List Nat) := [[], [], [1], [], [2, 3], [4], [], [6], [], [7, 8], [9], [0, 5, 10], [11]]
abbrev c69_m4 : List Am.Mark := [⟨false, 0, 0⟩, ⟨false, 0, 1⟩, ⟨false, 0, 1⟩, ⟨false, 0, 1⟩, ⟨false, 0, 1⟩, ⟨false, 0, 0⟩, ⟨false, 0, 1⟩, ⟨false, 0, 1⟩, ⟨false, 0, 1⟩, ⟨false, 0, 1⟩, ⟨false, 0, 0⟩, ⟨true, 0, 1⟩, ⟨false, 1, 1⟩]
theorem c69_d4 : drawFine c69_r4 c69_a4 c69_m4 = true := by decide +kernel
abbrev c69_r5 : List Ins := [
  ⟨some 27, none, .bin .add (.t 11) (.c (.int .i64 1))⟩,
  ⟨some 11, none, .mov (.t 27)⟩]
abbrev c69_l6 : IR := .seq (.reg c69_r2) (.seq (.cond (.t 12) (.skip) (.exit 0)) (.seq (.blk 1 (.seq (.reg c69_r3) (.seq (.dreg c69_r4 c69_a4) (.cond (.t 26) (.ret) (.skip))))) (.reg c69_r5)))
abbrev c69 : IR := .seq (.reg c69_r1) (.blk 0 (.loop c69_l6))
abbrev F69 : FnA := ⟨28, c69, []⟩
theorem ok69 : cFn Tryz.prog 69 = some F69 := by kernel_rfl
theorem hb69 : HasBody Tryz.prog 69 := ⟨_, Tryz.func69, by kernel_rfl, by kernel_rfl⟩
/-! slices.ContainsFunc:Instr -/
abbrev c70_r1 : List Ins := [
  ⟨some 4, none, .mov (.c (.bool false))⟩]
abbrev c70_r2 : List Ins := [
  ⟨some 5, none, .mov (.t 0)⟩,
  ⟨some 6, none, .mov (.t 1)⟩,
  ⟨some 7, none, .call (.c (.fn 89 [] [])) [.t 5, .t 6]⟩,
  ⟨some 8, none, .bin .geq (.t 7) (.c (.int .i64 0))⟩,
  ⟨some 4, none, .mov (.t 8)⟩]
abbrev c70 : IR := .seq (.reg c70_r1) (.seq (.reg c70_r2) (.ret))
abbrev F70 : FnA := ⟨9, c70, [.t 4]⟩
theorem ok70 : cFn Tryz.prog 70 = some F70 := by kernel_rfl
theorem hb70 : HasBody Tryz.prog 70 := ⟨_, Tryz.func70, by kernel_rfl, by kernel_rfl⟩
/-! prog.May$1 -/
abbrev c71_r1 : List Ins := [
  ⟨some 2, none, .box (.t 0)⟩,
  ⟨some 3, none, .mov (.c (.bool false))⟩]
abbrev c71_r2 : List Ins := [
  ⟨some 4, none, .load 9 true (.t 2)⟩,
  ⟨some 5, none, .load 1 false (.t 1)⟩,
  ⟨some 6, none, .call (.c (.fn 72 [] [])) [.t 4, .t 5]⟩,
  ⟨some 7, none, .un .not (.t 6)⟩,
  ⟨some 3, none, .mov (.t 7)⟩]
abbrev c71 : IR := .seq (.reg c71_r1) (.seq (.reg c71_r2) (.ret))
abbrev F71 : FnA := ⟨8, c71, [.t 3]⟩
theorem ok71 : cFn Tryz.prog 71 = some F71 := by kernel_rfl
theorem hb71 : HasBody Tryz.prog 71 := ⟨_, Tryz.func71, by kernel_rfl, by kernel_rfl⟩
/-! prog.may -/
abbrev c72_r1 : List Ins := [
  ⟨some 2, none, .box (.t 0)⟩,
  ⟨some 3, none, .box (.t 1)⟩,
  ⟨some 4, none, .mov (.c (.bool false))⟩]
abbrev c72_r2 : List Ins := [
  ⟨some 9, none, .load 9 true (.t 2)⟩,
  ⟨some 10, none, .call (.c (.fn 90 [] [])) [.t 9]⟩,
  ⟨some 8, none, .mov (.t 10)⟩,
  ⟨some 11, none, .ext (.t 8) 0⟩,
  ⟨some 12, none, .ext (.t 8) 1⟩,
  ⟨some 5, none, .alloc [.int .i64 0, .int .i64 0, .int .i64 0, .int .i64 0, .int .i64 0, .int .i64 0, .int .i64 0, .int .i64 0, .int .i64 0]⟩,
  ⟨none, none, .store 9 (.t 5) (.t 11)⟩,
  ⟨some 6, none, .mov (.t 12)⟩]
abbrev c72_r3 : List Ins := [
  ⟨some 13, none, .mkfn 91 [] [.t 3]⟩,
  ⟨some 7, none, .mov (.t 13)⟩]
abbrev c72_r4 : List Ins := [
  ⟨some 14, none, .mov (.t 6)⟩,
  ⟨some 15, none, .mov (.t 14)⟩,
  ⟨some 16, some (15, true), .load 9 true (.t 2)⟩,
  ⟨some 17, some (15, true), .load 9 true (.t 5)⟩,
  ⟨some 18, some (15, true), .eq [.i, .i, .i, .i, .i, .i, .i, .i, .i] true false (.t 16) (.t 17)⟩,
  ⟨some 19, none, .pick (.t 15) (.t 18) (.c (.bool false))⟩,
  ⟨some 20, none, .mov (.t 19)⟩,
  ⟨some 21, some (20, true), .faddr 1 (.t 2)⟩,
  ⟨some 22, some (20, true), .load 1 false (.t 21)⟩,
  ⟨some 23, some (20, true), .call (.c (.fn 93 [] [])) [.t 22]⟩,
  ⟨some 24, none, .pick (.t 20) (.t 23) (.c (.bool false))⟩,
  ⟨some 25, none, .mov (.t 24)⟩,
  ⟨some 26, some (25, true), .faddr 2 (.t 2)⟩,
  ⟨some 27, some (25, true), .load 1 false (.t 26)⟩,
  ⟨some 28, some (25, true), .call (.c (.fn 93 [] [])) [.t 27]⟩,
  ⟨some 29, none, .pick (.t 25) (.t 28) (.c (.bool false))⟩,
  ⟨some 30, none, .mov (.t 29)⟩,
  ⟨some 31, some (30, true), .faddr 3 (.t 2)⟩,
  ⟨some 32, some (30, true), .load 1 false (.t 31)⟩,
  ⟨some 33, some (30, true), .call (.c (.fn 93 [] [])) [.t 32]⟩,
  ⟨some 34, none, .pick (.t 30) (.t 33) (.c (.bool false))⟩,
  ⟨some 35, none, .mov (.t 34)⟩,
  ⟨some 36, some (35, true), .load 9 true (.t 2)⟩,
  ⟨some 37, some (35, true), .call (.c (.fn 95 [] [])) [.t 36]⟩,
  ⟨some 38, some (35, true), .mov (.t 7)⟩,
  ⟨some 39, some (35, true), .call (.c (.fn 94 [] [])) [.t 37, .t 38]⟩,
  ⟨some 40, some (35, true), .un .not (.t 39)⟩,
  ⟨some 41, none, .pick (.t 35) (.t 40) (.c (.bool false))⟩,
  ⟨some 4, none, .mov (.t 41)⟩]
abbrev c72 : IR := .seq (.reg c72_r1) (.seq (.reg c72_r2) (.seq (.reg c72_r3) (.seq (.reg c72_r4) (.ret))))
abbrev F72 : FnA := ⟨42, c72, [.t 4]⟩
theorem ok72 : cFn Tryz.prog 72 = some F72 := by kernel_rfl
theorem hb72 : HasBody Tryz.prog 72 := ⟨_, Tryz.func72, by kernel_rfl, by kernel_rfl⟩
/-! prog.Sure -/
abbrev c73_r1 : List Ins := [
  ⟨some 2, none, .mov (.c (.bool false))⟩]
abbrev c73_r2 : List Ins := [
  ⟨some 3, none, .mov (.t 0)⟩,
  ⟨some 4, none, .call (.c (.fn 70 [] [])) [.t 3, .c (.fn 96 [] [])]⟩,
  ⟨some 5, none, .un .not (.t 4)⟩,
  ⟨some 2, none, .mov (.t 5)⟩]
abbrev c73 : IR := .seq (.reg c73_r1) (.seq (.reg c73_r2) (.ret))
abbrev F73 : FnA := ⟨6, c73, [.t 2]⟩
theorem ok73 : cFn Tryz.prog 73 = some F73 := by kernel_rfl
theorem hb73 : HasBody Tryz.prog 73 := ⟨_, Tryz.func73, by kernel_rfl, by kernel_rfl⟩
/-! keys.meets$1 -/
abbrev c74_r1 : List Ins := [
  ⟨some 9, none, .load 1 false (.t 1)⟩,
  ⟨some 10, none, .len (.t 9)⟩,
  ⟨some 11, none, .mov (.c (.int .i64 0))⟩]
abbrev c74_r2 : List Ins := [
  ⟨some 12, none, .bin .lss (.t 11) (.t 10)⟩]
abbrev c74_r3 : List Ins := [
  ⟨some 13, none, .iaddr 2 (.t 9) (.t 11)⟩,
  ⟨some 14, none, .load 2 true (.t 13)⟩,
  ⟨some 5, none, .alloc [.int .i64 0, .int .i64 0]⟩,
  ⟨none, none, .store 2 (.t 5) (.t 14)⟩]
abbrev c74_r4 : List Ins := [
  ⟨some 15, none, .load 1 false (.t 2)⟩,
  ⟨some 16, none, .len (.t 15)⟩,
  ⟨some 17, none, .mov (.c (.int .i64 0))⟩]
abbrev c74_r5 : List Ins := [
  ⟨some 18, none, .bin .lss (.t 17) (.t 16)⟩]
abbrev c74_r6 : List Ins := [
  ⟨some 19, none, .iaddr 2 (.t 15) (.t 17)⟩,
  ⟨some 20, none, .load 2 true (.t 19)⟩,
  ⟨some 7, none, .alloc [.int .i64 0, .int .i64 0]⟩,
  ⟨none, none, .store 2 (.t 7) (.t 20)⟩]
abbrev c74_r7 : List Ins := [
  ⟨some 21, none, .faddr 0 (.t 5)⟩,
  ⟨some 22, none, .load 1 false (.t 21)⟩,
  ⟨some 23, none, .faddr 0 (.t 7)⟩,
  ⟨some 24, none, .load 1 false (.t 23)⟩,
  ⟨some 25, none, .mx [.t 22, .t 24]⟩,
  ⟨some 26, none, .faddr 1 (.t 5)⟩,
  ⟨some 27, none, .load 1 false (.t 26)⟩,
  ⟨some 28, none, .faddr 1 (.t 7)⟩,
  ⟨some 29, none, .load 1 false (.t 28)⟩,
  ⟨some 30, none, .mn [.t 27, .t 29]⟩,
  ⟨some 31, none, .build [.int .i64 0, .int .i64 0] [(0, (1, .t 25)), (1, (1, .t 30))]⟩,
  ⟨some 8, none, .alloc [.int .i64 0, .int .i64 0]⟩,
  ⟨none, none, .store 2 (.t 8) (.t 31)⟩]
abbrev c74_r8 : List Ins := [
  ⟨some 32, none, .faddr 0 (.t 8)⟩,
  ⟨some 33, none, .load 1 false (.t 32)⟩,
  ⟨some 34, none, .faddr 1 (.t 8)⟩,
  ⟨some 35, none, .load 1 false (.t 34)⟩,
  ⟨some 36, none, .bin .leq (.t 33) (.t 35)⟩,
  ⟨some 37, none, .mov (.t 36)⟩,
  ⟨some 38, some (37, true), .mov (.t 0)⟩,
  ⟨some 39, some (37, true), .load 2 true (.t 8)⟩,
  ⟨some 40, some (37, true), .call (.t 38) [.t 39]⟩,
  ⟨some 41, some (37, true), .un .not (.t 40)⟩,
  ⟨some 42, none, .pick (.t 37) (.t 41) (.c (.bool false))⟩]
abbrev c74_r9 : List Ins := [
  ⟨some 43, none, .bin .add (.t 17) (.c (.int .i64 1))⟩,
  ⟨some 17, none, .mov (.t 43)⟩]
abbrev c74_l10 : IR := .seq (.reg c74_r5) (.seq (.cond (.t 18) (.skip) (.exit 2)) (.seq (.blk 3 (.seq (.reg c74_r6) (.seq (.reg c74_r7) (.seq (.reg c74_r8) (.cond (.t 42) (.ret) (.skip)))))) (.reg c74_r9)))
abbrev c74_r11 : List Ins := [
  ⟨some 44, none, .bin .add (.t 11) (.c (.int .i64 1))⟩,
  ⟨some 11, none, .mov (.t 44)⟩]
abbrev c74_l12 : IR := .seq (.reg c74_r2) (.seq (.cond (.t 12) (.skip) (.exit 0)) (.seq (.blk 1 (.seq (.reg c74_r3) (.seq (.reg c74_r4) (.blk 2 (.loop c74_l10))))) (.reg c74_r11)))
abbrev c74 : IR := .seq (.reg c74_r1) (.blk 0 (.loop c74_l12))
abbrev F74 : FnA := ⟨45, c74, []⟩
theorem ok74 : cFn Tryz.prog 74 = some F74 := by kernel_rfl
theorem hb74 : HasBody Tryz.prog 74 := ⟨_, Tryz.func74, by kernel_rfl, by kernel_rfl⟩
/-! slices.DeleteFunc:Span -/
abbrev c75_r1 : List Ins := [
  ⟨some 4, none, .mov (.c (.sl .full []))⟩]
abbrev c75_r2 : List Ins := [
  ⟨some 8, none, .mov (.t 0)⟩,
  ⟨some 9, none, .mov (.t 1)⟩,
  ⟨some 10, none, .call (.c (.fn 97 [] [])) [.t 8, .t 9]⟩,
  ⟨some 5, none, .mov (.t 10)⟩]
abbrev c75_r3 : List Ins := [
  ⟨some 11, none, .mov (.t 5)⟩,
  ⟨some 12, none, .bin .eql (.t 11) (.c (.int .i64 (-1)))⟩]
abbrev c75_r4 : List Ins := [
  ⟨some 13, none, .mov (.t 0)⟩,
  ⟨some 4, none, .mov (.t 13)⟩]
abbrev c75_r5 : List Ins := [
  ⟨some 14, none, .mov (.t 5)⟩,
  ⟨some 15, none, .bin .add (.t 14) (.c (.int .i64 1))⟩,
  ⟨some 6, none, .mov (.t 15)⟩]
abbrev c75_r6 : List Ins := [
  ⟨some 16, none, .mov (.t 6)⟩,
  ⟨some 17, none, .mov (.t 0)⟩,
  ⟨some 18, none, .len (.t 17)⟩,
  ⟨some 19, none, .bin .lss (.t 16) (.t 18)⟩]
abbrev c75_r7 : List Ins := [
  ⟨some 22, none, .mov (.t 0)⟩,
  ⟨some 23, none, .mov (.t 6)⟩,
  ⟨some 24, none, .iaddr 2 (.t 22) (.t 23)⟩,
  ⟨some 25, none, .load 2 true (.t 24)⟩,
  ⟨some 7, none, .alloc [.int .i64 0, .int .i64 0]⟩,
  ⟨none, none, .store 2 (.t 7) (.t 25)⟩]
abbrev c75_r8 : List Ins := [
  ⟨some 26, none, .mov (.t 1)⟩,
  ⟨some 27, none, .load 2 true (.t 7)⟩,
  ⟨some 28, none, .call (.t 26) [.t 27]⟩,
  ⟨some 29, none, .un .not (.t 28)⟩]
abbrev c75_r9 : List Ins := [
  ⟨some 30, none, .mov (.t 0)⟩,
  ⟨some 31, none, .mov (.t 5)⟩,
  ⟨some 32, none, .load 2 true (.t 7)⟩,
  ⟨some 33, none, .iaddr 2 (.t 30) (.t 31)⟩,
  ⟨none, none, .store 2 (.t 33) (.t 32)⟩]
abbrev c75_r10 : List Ins := [
  ⟨some 34, none, .mov (.t 5)⟩,
  ⟨some 35, none, .bin .add (.t 34) (.c (.int .i64 1))⟩,
  ⟨some 5, none, .mov (.t 35)⟩]
abbrev c75_r11 : List Ins := [
  ⟨some 20, none, .mov (.t 6)⟩,
  ⟨some 21, none, .bin .add (.t 20) (.c (.int .i64 1))⟩,
  ⟨some 6, none, .mov (.t 21)⟩]
abbrev c75_l12 : IR := .seq (.seq (.reg c75_r6) (.cond (.t 19) (.skip) (.exit 0))) (.seq (.blk 1 (.seq (.reg c75_r7) (.seq (.reg c75_r8) (.cond (.t 29) (.seq (.reg c75_r9) (.reg c75_r10)) (.skip))))) (.reg c75_r11))
abbrev c75_r13 : List Ins := [
  ⟨some 36, none, .mov (.t 0)⟩,
  ⟨some 37, none, .mov (.t 5)⟩,
  ⟨some 38, none, .slice 2 (.t 36) (some (.t 37)) none none⟩,
  ⟨none, none, .clear 2 [.int .i64 0, .int .i64 0] (.t 38)⟩]
abbrev c75_r14 : List Ins := [
  ⟨some 39, none, .mov (.t 0)⟩,
  ⟨some 40, none, .mov (.t 5)⟩,
  ⟨some 41, none, .slice 2 (.t 39) none (some (.t 40)) none⟩,
  ⟨some 4, none, .mov (.t 41)⟩]
abbrev c75 : IR := .seq (.reg c75_r1) (.seq (.reg c75_r2) (.seq (.seq (.reg c75_r3) (.cond (.t 12) (.seq (.reg c75_r4) (.ret)) (.skip))) (.seq (.seq (.reg c75_r5) (.blk 0 (.loop c75_l12))) (.seq (.reg c75_r13) (.seq (.reg c75_r14) (.ret))))))
abbrev F75 : FnA := ⟨42, c75, [.t 4]⟩
theorem ok75 : cFn Tryz.prog 75 = some F75 := by kernel_rfl
theorem hb75 : HasBody Tryz.prog 75 := ⟨_, Tryz.func75, by kernel_rfl, by kernel_rfl⟩
/-! slices.Concat:Span -/
abbrev c76_r1 : List Ins := [
  ⟨some 2, none, .mov (.c (.sl .full []))⟩]
abbrev c76_r2 : List Ins := [
  ⟨some 3, none, .mov (.c (.int .i64 0))⟩]
abbrev c76_r3 : List Ins := [
  ⟨some 9, none, .mov (.t 0)⟩,
  ⟨some 10, none, .len (.t 9)⟩,
  ⟨some 11, none, .mov (.c (.int .i64 0))⟩]
abbrev c76_r4 : List Ins := [
  ⟨some 12, none, .bin .lss (.t 11) (.t 10)⟩]
abbrev c76_r5 : List Ins := [
  ⟨some 13, none, .iaddr 1 (.t 9) (.t 11)⟩,
  ⟨some 14, none, .load 1 false (.t 13)⟩,
  ⟨some 5, none, .mov (.t 14)⟩]
abbrev c76_r6 : List Ins := [
  ⟨some 15, none, .mov (.t 3)⟩,
  ⟨some 16, none, .mov (.t 5)⟩,
  ⟨some 17, none, .len (.t 16)⟩,
  ⟨some 18, none, .bin .add (.t 15) (.t 17)⟩,
  ⟨some 3, none, .mov (.t 18)⟩]
abbrev c76_r7 : List Ins := [
  ⟨some 19, none, .mov (.t 3)⟩,
  ⟨some 20, none, .bin .lss (.t 19) (.c (.int .i64 0))⟩]
abbrev c76_r8 : List Ins := [
  ⟨some 21, none, .copy 0 (.c .undef) (.c .undef)⟩,
  ⟨none, none, .copy 0 (.c .undef) (.c .undef)⟩]
abbrev c76_r9 : List Ins := [
  ⟨some 22, none, .bin .add (.t 11) (.c (.int .i64 1))⟩,
  ⟨some 11, none, .mov (.t 22)⟩]
abbrev c76_l10 : IR := .seq (.reg c76_r4) (.seq (.cond (.t 12) (.skip) (.exit 0)) (.seq (.blk 1 (.seq (.reg c76_r5) (.seq (.reg c76_r6) (.seq (.reg c76_r7) (.cond (.t 20) (.reg c76_r8) (.skip)))))) (.reg c76_r9)))
abbrev c76_r11 : List Ins := [
  ⟨some 23, none, .mov (.t 3)⟩,
  ⟨some 24, none, .call (.c (.fn 98 [] [])) [.c (.sl .full []), .t 23]⟩,
  ⟨some 6, none, .mov (.t 24)⟩]
abbrev c76_r12 : List Ins := [
  ⟨some 25, none, .mov (.t 0)⟩,
  ⟨some 26, none, .len (.t 25)⟩,
  ⟨some 27, none, .mov (.c (.int .i64 0))⟩]
abbrev c76_r13 : List Ins := [
  ⟨some 28, none, .bin .lss (.t 27) (.t 26)⟩]
abbrev c76_r14 : List Ins := [
  ⟨some 29, none, .iaddr 1 (.t 25) (.t 27)⟩,
  ⟨some 30, none, .load 1 false (.t 29)⟩,
  ⟨some 8, none, .mov (.t 30)⟩]
abbrev c76_r15 : List Ins := [
  ⟨some 31, none, .mov (.t 6)⟩,
  ⟨some 32, none, .mov (.t 8)⟩,
  ⟨some 33, none, .append 2 16 (.t 31) (.t 32)⟩,
  ⟨some 6, none, .mov (.t 33)⟩]
abbrev c76_r16 : List Ins := [
  ⟨some 34, none, .bin .add (.t 27) (.c (.int .i64 1))⟩,
  ⟨some 27, none, .mov (.t 34)⟩]
abbrev c76_l17 : IR := .seq (.reg c76_r13) (.seq (.cond (.t 28) (.skip) (.exit 2)) (.seq (.blk 3 (.seq (.reg c76_r14) (.reg c76_r15))) (.reg c76_r16)))
abbrev c76_r18 : List Ins := [
  ⟨some 35, none, .mov (.t 6)⟩,
  ⟨some 2, none, .mov (.t 35)⟩]
abbrev c76 : IR := .seq (.reg c76_r1) (.seq (.reg c76_r2) (.seq (.seq (.reg c76_r3) (.blk 0 (.loop c76_l10))) (.seq (.reg c76_r11) (.seq (.seq (.reg c76_r12) (.blk 2 (.loop c76_l17))) (.seq (.reg c76_r18) (.ret))))))
abbrev F76 : FnA := ⟨36, c76, [.t 2]⟩
theorem ok76 : cFn Tryz.prog 76 = some F76 := by kernel_rfl
theorem hb76 : HasBody Tryz.prog 76 := ⟨_, Tryz.func76, by kernel_rfl, by kernel_rfl⟩
/-! keys.plain$1 -/
abbrev c77_r1 : List Ins := [
  ⟨some 1, none, .box (.t 0)⟩,
  ⟨some 2, none, .mov (.c (.bool false))⟩]
abbrev c77_r2 : List Ins := [
  ⟨some 3, none, .load 2 true (.t 1)⟩,
  ⟨some 4, none, .call (.c (.fn 78 [] [])) [.t 3]⟩,
  ⟨some 5, none, .un .not (.t 4)⟩,
  ⟨some 2, none, .mov (.t 5)⟩]
abbrev c77 : IR := .seq (.reg c77_r1) (.seq (.reg c77_r2) (.ret))
abbrev F77 : FnA := ⟨6, c77, [.t 2]⟩
theorem ok77 : cFn Tryz.prog 77 = some F77 := by kernel_rfl
theorem hb77 : HasBody Tryz.prog 77 := ⟨_, Tryz.func77, by kernel_rfl, by kernel_rfl⟩
/-! keys.May -/
abbrev c78_r1 : List Ins := [
  ⟨some 1, none, .box (.t 0)⟩,
  ⟨some 2, none, .mov (.c (.bool false))⟩]
abbrev c78_r2 : List Ins := [
  ⟨some 3, none, .faddr 0 (.t 1)⟩,
  ⟨some 4, none, .load 1 false (.t 3)⟩,
  ⟨some 5, none, .bin .geq (.t 4) (.c (.int .i64 0))⟩,
  ⟨some 6, none, .mov (.t 5)⟩,
  ⟨some 7, some (6, true), .faddr 0 (.t 1)⟩,
  ⟨some 8, some (6, true), .load 1 false (.t 7)⟩,
  ⟨some 9, some (6, true), .faddr 1 (.t 1)⟩,
  ⟨some 10, some (6, true), .load 1 false (.t 9)⟩,
  ⟨some 11, some (6, true), .bin .leq (.t 8) (.t 10)⟩,
  ⟨some 12, none, .pick (.t 6) (.t 11) (.c (.bool false))⟩,
  ⟨some 13, none, .mov (.t 12)⟩,
  ⟨some 14, some (13, true), .faddr 1 (.t 1)⟩,
  ⟨some 15, some (13, true), .load 1 false (.t 14)⟩,
  ⟨some 16, some (13, true), .bin .leq (.t 15) (.c (.int .i64 999))⟩,
  ⟨some 17, none, .pick (.t 13) (.t 16) (.c (.bool false))⟩,
  ⟨some 2, none, .mov (.t 17)⟩]
abbrev c78 : IR := .seq (.reg c78_r1) (.seq (.reg c78_r2) (.ret))
abbrev F78 : FnA := ⟨18, c78, [.t 2]⟩
theorem ok78 : cFn Tryz.prog 78 = some F78 := by kernel_rfl
theorem hb78 : HasBody Tryz.prog 78 := ⟨_, Tryz.func78, by kernel_rfl, by kernel_rfl⟩
/-! slices.SortFunc:Span -/
abbrev c79_r1 : List Ins := [
  ⟨some 5, none, .mov (.t 0)⟩,
  ⟨some 6, none, .len (.t 5)⟩,
  ⟨some 4, none, .mov (.t 6)⟩]
abbrev c79_r2 : List Ins := [
  ⟨some 7, none, .mov (.t 0)⟩,
  ⟨some 8, none, .mov (.t 4)⟩,
  ⟨some 9, none, .mov (.t 4)⟩,
  ⟨some 10, none, .conv .u64 (.t 9)⟩,
  ⟨some 11, none, .call (.c (.fn 100 [] [])) [.t 10]⟩,
  ⟨some 12, none, .mov (.t 1)⟩,
  ⟨some 13, none, .call (.c (.fn 99 [] [])) [.t 7, .c (.int .i64 0), .t 8, .t 11, .t 12]⟩]
abbrev c79 : IR := .seq (.reg c79_r1) (.reg c79_r2)
abbrev F79 : FnA := ⟨14, c79, []⟩
theorem ok79 : cFn Tryz.prog 79 = some F79 := by kernel_rfl
theorem hb79 : HasBody Tryz.prog 79 := ⟨_, Tryz.func79, by kernel_rfl, by kernel_rfl⟩
/-! keys.plain$2 -/
abbrev c80_r1 : List Ins := [
  ⟨some 2, none, .box (.t 0)⟩,
  ⟨some 3, none, .box (.t 1)⟩,
  ⟨some 4, none, .mov (.c (.int .i64 0))⟩]
abbrev c80_r2 : List Ins := [
  ⟨some 5, none, .faddr 0 (.t 2)⟩,
  ⟨some 6, none, .load 1 false (.t 5)⟩,
  ⟨some 7, none, .faddr 0 (.t 3)⟩,
  ⟨some 8, none, .load 1 false (.t 7)⟩,
  ⟨some 9, none, .call (.c (.fn 81 [] [])) [.t 6, .t 8]⟩,
  ⟨some 4, none, .mov (.t 9)⟩]
abbrev c80 : IR := .seq (.reg c80_r1) (.seq (.reg c80_r2) (.ret))
abbrev F80 : FnA := ⟨10, c80, [.t 4]⟩
theorem ok80 : cFn Tryz.prog 80 = some F80 := by kernel_rfl
theorem hb80 : HasBody Tryz.prog 80 := ⟨_, Tryz.func80, by kernel_rfl, by kernel_rfl⟩
/-! cmp.Compare:int -/
abbrev c81_r1 : List Ins := [
  ⟨some 4, none, .mov (.c (.int .i64 0))⟩]
abbrev c81_r2 : List Ins := [
  ⟨some 7, none, .mov (.t 0)⟩,
  ⟨some 8, none, .call (.c (.fn 101 [] [])) [.t 7]⟩,
  ⟨some 5, none, .mov (.t 8)⟩]
abbrev c81_r3 : List Ins := [
  ⟨some 9, none, .mov (.t 1)⟩,
  ⟨some 10, none, .call (.c (.fn 101 [] [])) [.t 9]⟩,
  ⟨some 6, none, .mov (.t 10)⟩]
abbrev c81_r4 : List Ins := [
  ⟨some 11, none, .mov (.t 5)⟩]
abbrev c81_r5 : List Ins := [
  ⟨some 12, none, .mov (.t 6)⟩]
abbrev c81_r6 : List Ins := [
  ⟨some 4, none, .mov (.c (.int .i64 0))⟩]
abbrev c81_r7 : List Ins := [
  ⟨some 4, none, .mov (.c (.int .i64 (-1)))⟩]
abbrev c81_r8 : List Ins := [
  ⟨some 13, none, .mov (.t 6)⟩]
abbrev c81_r9 : List Ins := [
  ⟨some 4, none, .mov (.c (.int .i64 1))⟩]
abbrev c81_r10 : List Ins := [
  ⟨some 14, none, .mov (.t 0)⟩,
  ⟨some 15, none, .mov (.t 1)⟩,
  ⟨some 16, none, .bin .lss (.t 14) (.t 15)⟩]
abbrev c81_r11 : List Ins := [
  ⟨some 4, none, .mov (.c (.int .i64 (-1)))⟩]
abbrev c81_r12 : List Ins := [
  ⟨some 17, none, .mov (.t 0)⟩,
  ⟨some 18, none, .mov (.t 1)⟩,
  ⟨some 19, none, .bin .gtr (.t 17) (.t 18)⟩]
abbrev c81_r13 : List Ins := [
  ⟨some 4, none, .mov (.c (.int .i64 1))⟩]
abbrev c81_r14 : List Ins := [
  ⟨some 4, none, .mov (.c (.int .i64 0))⟩]
abbrev c81 : IR := .seq (.reg c81_r1) (.seq (.reg c81_r2) (.seq (.reg c81_r3) (.seq (.seq (.reg c81_r4) (.cond (.t 11) (.seq (.seq (.reg c81_r5) (.cond (.t 12) (.seq (.reg c81_r6) (.ret)) (.skip))) (.seq (.reg c81_r7) (.ret))) (.skip))) (.seq (.seq (.reg c81_r8) (.cond (.t 13) (.seq (.reg c81_r9) (.ret)) (.skip))) (.seq (.seq (.reg c81_r10) (.cond (.t 16) (.seq (.reg c81_r11) (.ret)) (.skip))) (.seq (.seq (.reg c81_r12) (.cond (.t 19) (.seq (.reg c81_r13) (.ret)) (.skip))) (.seq (.reg c81_r14) (.ret))))))))
abbrev F81 : FnA := ⟨20, c81, [.t 4]⟩
theorem ok81 : cFn Tryz.prog 81 = some F81 := by kernel_rfl
theorem hb81 : HasBody Tryz.prog 81 := ⟨_, Tryz.func81, by kernel_rfl, by kernel_rfl⟩
/-! ref16.Arcs -/
abbrev c82_r1 : List Ins := [
  ⟨some 2, none, .box (.t 0)⟩,
  ⟨some 4, none, .mov (.c (.sl .full []))⟩]
abbrev c82_r2 : List Ins := [
  ⟨some 19, none, .mov (.t 1)⟩,
  ⟨some 20, none, .len (.t 19)⟩,
  ⟨some 5, none, .mov (.t 20)⟩]
abbrev c82_r3 : List Ins := [
  ⟨some 21, none, .mov (.t 1)⟩,
  ⟨some 22, none, .call (.c (.fn 102 [] [])) [.t 21]⟩,
  ⟨some 6, none, .mov (.t 22)⟩]
abbrev c82_r4 : List Ins := [
  ⟨some 7, none, .alloc (List.replicate 50000 (.bool false))⟩]
abbrev c82_r5 : List Ins := [
  ⟨some 8, none, .mov (.c (.int .i64 0))⟩]
abbrev c82_r6 : List Ins := [
  ⟨some 23, none, .mov (.t 8)⟩,
  ⟨some 24, none, .mov (.t 5)⟩,
  ⟨some 25, none, .bin .lss (.t 23) (.t 24)⟩]
abbrev c82_r7 : List Ins := [
  ⟨some 9, none, .mov (.c (.int .i64 (-1)))⟩]
abbrev c82_r8 : List Ins := [
  ⟨some 10, none, .mov (.c (.int .i64 0))⟩]
abbrev c82_r9 : List Ins := [
  ⟨some 28, none, .mov (.t 10)⟩,
  ⟨some 29, none, .mov (.t 8)⟩,
  ⟨some 30, none, .bin .lss (.t 28) (.t 29)⟩]
abbrev c82_r10 : List Ins := [
  ⟨some 33, none, .mov (.t 1)⟩,
  ⟨some 34, none, .mov (.t 10)⟩,
  ⟨some 35, none, .iaddr 6 (.t 33) (.t 34)⟩,
  ⟨some 36, none, .faddr 0 (.t 35)⟩,
  ⟨some 37, none, .load 1 false (.t 36)⟩,
  ⟨some 38, none, .mov (.t 1)⟩,
  ⟨some 39, none, .mov (.t 8)⟩,
  ⟨some 40, none, .iaddr 6 (.t 38) (.t 39)⟩,
  ⟨some 41, none, .faddr 0 (.t 40)⟩,
  ⟨some 42, none, .load 1 false (.t 41)⟩,
  ⟨some 43, none, .bin .eql (.t 37) (.t 42)⟩]
def c82_a10 : List (List Nat) := [[], [], [0, 1], [2], [3], [], [], [5, 6], [7], [8], [4, 9]]
abbrev c82_m10 : List Am.Mark := [⟨false, 0, 0⟩, ⟨false, 0, 0⟩, ⟨false, 0, 0⟩, ⟨false, 0, 0⟩, ⟨false, 0, 0⟩, ⟨false, 0, 0⟩, ⟨false, 0, 0⟩, ⟨false, 0, 0⟩, ⟨false, 0, 0⟩, ⟨false, 0, 0⟩, ⟨false, 0, 0⟩]
theorem c82_d10 : drawFine c82_r10 c82_a10 c82_m10 = true := by decide +kernel
abbrev c82_r11 : List Ins := [
  ⟨some 44, none, .mov (.t 10)⟩,
  ⟨some 9, none, .mov (.t 44)⟩]
abbrev c82_r12 : List Ins := [
  ⟨some 31, none, .mov (.t 10)⟩,
  ⟨some 32, none, .bin .add (.t 31) (.c (.int .i64 1))⟩,
  ⟨some 10, none, .mov (.t 32)⟩]
abbrev c82_l13 : IR := .seq (.seq (.reg c82_r9) (.cond (.t 30) (.skip) (.exit 2))) (.seq (.blk 3 (.seq (.dreg c82_r10 c82_a10) (.cond (.t 43) (.reg c82_r11) (.skip)))) (.reg c82_r12))
abbrev c82_r14 : List Ins := [
  ⟨some 45, none, .mov (.t 9)⟩,
  ⟨some 46, none, .bin .geq (.t 45) (.c (.int .i64 0))⟩]
abbrev c82_r15 : List Ins := [
  ⟨some 47, none, .mov (.t 9)⟩,
  ⟨some 48, none, .mov (.t 8)⟩,
  ⟨some 49, none, .iaddrA 100 500 (.t 7) (.t 47)⟩,
  ⟨some 50, none, .iaddrA 100 5 (.t 49) (.t 48)⟩,
  ⟨some 51, none, .iaddrA 5 1 (.t 50) (.c (.int .i64 1))⟩,
  ⟨none, none, .store 1 (.t 51) (.c (.bool true))⟩]
abbrev c82_r16 : List Ins := [
  ⟨some 11, none, .mov (.c (.int .i64 0))⟩]
abbrev c82_r17 : List Ins := [
  ⟨some 52, none, .mov (.t 11)⟩,
  ⟨some 53, none, .mov (.t 5)⟩,
  ⟨some 54, none, .bin .lss (.t 52) (.t 53)⟩]
abbrev c82_r18 : List Ins := [
  ⟨some 57, none, .mov (.t 1)⟩,
  ⟨some 58, none, .mov (.t 11)⟩,
  ⟨some 59, none, .iaddr 6 (.t 57) (.t 58)⟩,
  ⟨some 60, none, .faddr 0 (.t 59)⟩,
  ⟨some 61, none, .load 1 false (.t 60)⟩,
  ⟨some 62, none, .mov (.t 1)⟩,
  ⟨some 63, none, .mov (.t 8)⟩,
  ⟨some 64, none, .iaddr 6 (.t 62) (.t 63)⟩,
  ⟨some 65, none, .faddr 0 (.t 64)⟩,
  ⟨some 66, none, .load 1 false (.t 65)⟩,
  ⟨some 67, none, .bin .eql (.t 61) (.t 66)⟩,
  ⟨some 68, none, .mov (.t 67)⟩,
  ⟨some 69, some (68, false), .mov (.t 6)⟩,
  ⟨some 70, some (68, false), .mov (.t 8)⟩,
  ⟨some 71, some (68, false), .iaddr 1 (.t 69) (.t 70)⟩,
  ⟨some 72, some (68, false), .load 1 false (.t 71)⟩,
  ⟨some 73, some (68, false), .mov (.t 11)⟩,
  ⟨some 74, some (68, false), .iaddr 1 (.t 72) (.t 73)⟩,
  ⟨some 75, some (68, false), .load 1 false (.t 74)⟩,
  ⟨some 76, some (68, false), .un .not (.t 75)⟩,
  ⟨some 77, none, .pick (.t 68) (.c (.bool true)) (.t 76)⟩]
def c82_a18 : List (List Nat) := [[], [], [0, 1], [2], [3], [], [], [5, 6], [7], [8], [4, 9], [10], [11], [11], [12, 13, 11], [14, 11], [11], [15, 16, 11], [17, 11], [18, 11], [11, 19]]
abbrev c82_m18 : List Am.Mark := [⟨false, 0, 0⟩, ⟨false, 0, 0⟩, ⟨false, 0, 0⟩, ⟨false, 0, 0⟩, ⟨false, 0, 0⟩, ⟨false, 0, 0⟩, ⟨false, 0, 0⟩, ⟨false, 0, 0⟩, ⟨false, 0, 0⟩, ⟨false, 0, 0⟩, ⟨false, 0, 0⟩, ⟨false, 0, 0⟩, ⟨false, 0, 0⟩, ⟨false, 0, 0⟩, ⟨false, 0, 0⟩, ⟨false, 0, 0⟩, ⟨false, 0, 0⟩, ⟨false, 0, 0⟩, ⟨false, 0, 0⟩, ⟨false, 0, 0⟩, ⟨false, 0, 0⟩]
theorem c82_d18 : drawFine c82_r18 c82_a18 c82_m18 = true := by decide +kernel
abbrev c82_r19 : List Ins := [
  ⟨some 78, none, .mov (.t 11)⟩,
  ⟨some 79, none, .mov (.t 8)⟩,
  ⟨some 80, none, .iaddrA 100 500 (.t 7) (.t 78)⟩,
  ⟨some 81, none, .iaddrA 100 5 (.t 80) (.t 79)⟩,
  ⟨some 82, none, .iaddrA 5 1 (.t 81) (.c (.int .i64 2))⟩,
  ⟨none, none, .store 1 (.t 82) (.c (.bool true))⟩]
abbrev c82_r20 : List Ins := [
  ⟨some 12, none, .mov (.c (.int .i64 (-1)))⟩,
  ⟨some 13, none, .mov (.c (.int .i64 (-1)))⟩]
abbrev c82_r21 : List Ins := [
  ⟨some 14, none, .mov (.c (.int .i64 0))⟩]
abbrev c82_r22 : List Ins := [
  ⟨some 83, none, .mov (.t 14)⟩,
  ⟨some 84, none, .mov (.t 5)⟩,
  ⟨some 85, none, .bin .lss (.t 83) (.t 84)⟩]
abbrev c82_r23 : List Ins := [
  ⟨some 88, none, .load 17 true (.t 2)⟩,
  ⟨some 89, none, .mov (.t 1)⟩,
  ⟨some 90, none, .mov (.t 11)⟩,
  ⟨some 91, none, .mov (.t 14)⟩,
  ⟨some 92, none, .mov (.t 1)⟩,
  ⟨some 93, none, .mov (.t 8)⟩,
  ⟨some 94, none, .iaddr 6 (.t 92) (.t 93)⟩,
  ⟨some 95, none, .faddr 1 (.t 94)⟩,
  ⟨some 96, none, .load 1 false (.t 95)⟩,
  ⟨some 97, none, .call (.c (.fn 103 [] [])) [.t 88, .t 89, .t 90, .t 91, .t 96]⟩]
def c82_a23 : List (List Nat) := [[], [], [], [], [], [], [4, 5], [6], [7], [0, 1, 2, 3, 8]]
abbrev c82_m23 : List Am.Mark := [⟨false, 0, 0⟩, ⟨false, 0, 0⟩, ⟨false, 0, 0⟩, ⟨false, 0, 0⟩, ⟨false, 0, 0⟩, ⟨false, 0, 0⟩, ⟨false, 0, 0⟩, ⟨false, 0, 0⟩, ⟨false, 0, 0⟩, ⟨false, 0, 0⟩]
theorem c82_d23 : drawFine c82_r23 c82_a23 c82_m23 = true := by decide +kernel
abbrev c82_r24 : List Ins := [
  ⟨some 98, none, .mov (.t 14)⟩,
  ⟨some 13, none, .mov (.t 98)⟩]
abbrev c82_r25 : List Ins := [
  ⟨some 99, none, .mov (.t 12)⟩,
  ⟨some 100, none, .bin .lss (.t 99) (.c (.int .i64 0))⟩,
  ⟨some 101, none, .mov (.t 100)⟩,
  ⟨some 102, some (101, true), .load 17 true (.t 2)⟩,
  ⟨some 103, some (101, true), .mov (.t 1)⟩,
  ⟨some 104, some (101, true), .mov (.t 8)⟩,
  ⟨some 105, some (101, true), .mov (.t 14)⟩,
  ⟨some 106, some (101, true), .mov (.t 1)⟩,
  ⟨some 107, some (101, true), .mov (.t 11)⟩,
  ⟨some 108, some (101, true), .iaddr 6 (.t 106) (.t 107)⟩,
  ⟨some 109, some (101, true), .faddr 1 (.t 108)⟩,
  ⟨some 110, some (101, true), .load 1 false (.t 109)⟩,
  ⟨some 111, some (101, true), .call (.c (.fn 103 [] [])) [.t 102, .t 103, .t 104, .t 105, .t 110]⟩,
  ⟨some 112, none, .pick (.t 101) (.t 111) (.c (.bool false))⟩]
def c82_a25 : List (List Nat) := [[], [0], [1], [2], [2], [2], [2], [2], [2], [7, 8, 2], [9, 2], [10, 2], [3, 4, 5, 6, 11, 2, 2], [2, 12]]
abbrev c82_m25 : List Am.Mark := [⟨false, 0, 0⟩, ⟨false, 0, 0⟩, ⟨false, 0, 0⟩, ⟨false, 0, 0⟩, ⟨false, 0, 0⟩, ⟨false, 0, 0⟩, ⟨false, 0, 0⟩, ⟨false, 0, 0⟩, ⟨false, 0, 0⟩, ⟨false, 0, 0⟩, ⟨false, 0, 0⟩, ⟨false, 0, 0⟩, ⟨false, 0, 0⟩, ⟨false, 0, 0⟩]
theorem c82_d25 : drawFine c82_r25 c82_a25 c82_m25 = true := by decide +kernel
abbrev c82_r26 : List Ins := [
  ⟨some 113, none, .mov (.t 14)⟩,
  ⟨some 12, none, .mov (.t 113)⟩]
abbrev c82_r27 : List Ins := [
  ⟨some 86, none, .mov (.t 14)⟩,
  ⟨some 87, none, .bin .add (.t 86) (.c (.int .i64 1))⟩,
  ⟨some 14, none, .mov (.t 87)⟩]
abbrev c82_l28 : IR := .seq (.seq (.reg c82_r22) (.cond (.t 85) (.skip) (.exit 6))) (.seq (.blk 7 (.seq (.seq (.dreg c82_r23 c82_a23) (.cond (.t 97) (.reg c82_r24) (.skip))) (.seq (.dreg c82_r25 c82_a25) (.cond (.t 112) (.reg c82_r26) (.skip))))) (.reg c82_r27))
abbrev c82_r29 : List Ins := [
  ⟨some 114, none, .mov (.t 13)⟩,
  ⟨some 115, none, .mov (.t 8)⟩,
  ⟨some 116, none, .iaddrA 100 500 (.t 7) (.t 114)⟩,
  ⟨some 117, none, .iaddrA 100 5 (.t 116) (.t 115)⟩,
  ⟨some 118, none, .iaddrA 5 1 (.t 117) (.c (.int .i64 3))⟩,
  ⟨none, none, .store 1 (.t 118) (.c (.bool true))⟩]
abbrev c82_r30 : List Ins := [
  ⟨some 119, none, .mov (.t 11)⟩,
  ⟨some 120, none, .mov (.t 12)⟩,
  ⟨some 121, none, .iaddrA 100 500 (.t 7) (.t 119)⟩,
  ⟨some 122, none, .iaddrA 100 5 (.t 121) (.t 120)⟩,
  ⟨some 123, none, .iaddrA 5 1 (.t 122) (.c (.int .i64 4))⟩,
  ⟨none, none, .store 1 (.t 123) (.c (.bool true))⟩]
abbrev c82_r31 : List Ins := [
  ⟨some 55, none, .mov (.t 11)⟩,
  ⟨some 56, none, .bin .add (.t 55) (.c (.int .i64 1))⟩,
  ⟨some 11, none, .mov (.t 56)⟩]
abbrev c82_l32 : IR := .seq (.seq (.reg c82_r17) (.cond (.t 54) (.skip) (.exit 4))) (.seq (.blk 5 (.seq (.seq (.dreg c82_r18 c82_a18) (.cond (.t 77) (.exit 5) (.skip))) (.seq (.reg c82_r19) (.seq (.reg c82_r20) (.seq (.seq (.reg c82_r21) (.blk 6 (.loop c82_l28))) (.seq (.reg c82_r29) (.reg c82_r30))))))) (.reg c82_r31))
abbrev c82_r33 : List Ins := [
  ⟨some 26, none, .mov (.t 8)⟩,
  ⟨some 27, none, .bin .add (.t 26) (.c (.int .i64 1))⟩,
  ⟨some 8, none, .mov (.t 27)⟩]
abbrev c82_l34 : IR := .seq (.seq (.reg c82_r6) (.cond (.t 25) (.skip) (.exit 0))) (.seq (.blk 1 (.seq (.reg c82_r7) (.seq (.seq (.reg c82_r8) (.blk 2 (.loop c82_l13))) (.seq (.seq (.reg c82_r14) (.cond (.t 46) (.reg c82_r15) (.skip))) (.seq (.reg c82_r16) (.blk 4 (.loop c82_l32))))))) (.reg c82_r33))
abbrev c82_r35 : List Ins := [
  ⟨some 15, none, .mov (.c (.sl .full []))⟩]
abbrev c82_r36 : List Ins := [
  ⟨some 16, none, .mov (.c (.int .i64 0))⟩]
abbrev c82_r37 : List Ins := [
  ⟨some 124, none, .mov (.t 16)⟩,
  ⟨some 125, none, .mov (.t 5)⟩,
  ⟨some 126, none, .bin .lss (.t 124) (.t 125)⟩]
abbrev c82_r38 : List Ins := [
  ⟨some 17, none, .mov (.c (.int .i64 0))⟩]
abbrev c82_r39 : List Ins := [
  ⟨some 129, none, .mov (.t 17)⟩,
  ⟨some 130, none, .mov (.t 5)⟩,
  ⟨some 131, none, .bin .lss (.t 129) (.t 130)⟩]
abbrev c82_r40 : List Ins := [
  ⟨some 18, none, .mov (.c (.int .i64 1))⟩]
abbrev c82_r41 : List Ins := [
  ⟨some 134, none, .mov (.t 18)⟩,
  ⟨some 135, none, .bin .lss (.t 134) (.c (.int .i64 5))⟩]
abbrev c82_r42 : List Ins := [
  ⟨some 138, none, .mov (.t 16)⟩,
  ⟨some 139, none, .mov (.t 17)⟩,
  ⟨some 140, none, .mov (.t 18)⟩,
  ⟨some 141, none, .iaddrA 100 500 (.t 7) (.t 138)⟩,
  ⟨some 142, none, .iaddrA 100 5 (.t 141) (.t 139)⟩,
  ⟨some 143, none, .iaddrA 5 1 (.t 142) (.t 140)⟩,
  ⟨some 144, none, .load 1 false (.t 143)⟩]
abbrev c82_r43 : List Ins := [
  ⟨some 145, none, .mov (.t 15)⟩,
  ⟨some 146, none, .mov (.t 16)⟩,
  ⟨some 147, none, .mov (.t 17)⟩,
  ⟨some 148, none, .mov (.t 18)⟩,
  ⟨some 149, none, .build [.int .i64 0, .int .i64 0, .int .i64 0] [(0, (1, .t 146)), (1, (1, .t 147)), (2, (1, .t 148))]⟩,
  ⟨some 150, none, .bsl 3 1 [.int .i64 0, .int .i64 0, .int .i64 0] [(0, .t 149)]⟩,
  ⟨some 151, none, .append 3 24 (.t 145) (.t 150)⟩,
  ⟨some 15, none, .mov (.t 151)⟩]
abbrev c82_r44 : List Ins := [
  ⟨some 136, none, .mov (.t 18)⟩,
  ⟨some 137, none, .bin .add (.t 136) (.c (.int .i64 1))⟩,
  ⟨some 18, none, .mov (.t 137)⟩]
abbrev c82_l45 : IR := .seq (.seq (.reg c82_r41) (.cond (.t 135) (.skip) (.exit 12))) (.seq (.blk 13 (.seq (.reg c82_r42) (.cond (.t 144) (.reg c82_r43) (.skip)))) (.reg c82_r44))
abbrev c82_r46 : List Ins := [
  ⟨some 132, none, .mov (.t 17)⟩,
  ⟨some 133, none, .bin .add (.t 132) (.c (.int .i64 1))⟩,
  ⟨some 17, none, .mov (.t 133)⟩]
abbrev c82_l47 : IR := .seq (.seq (.reg c82_r39) (.cond (.t 131) (.skip) (.exit 10))) (.seq (.blk 11 (.seq (.reg c82_r40) (.blk 12 (.loop c82_l45)))) (.reg c82_r46))
abbrev c82_r48 : List Ins := [
  ⟨some 127, none, .mov (.t 16)⟩,
  ⟨some 128, none, .bin .add (.t 127) (.c (.int .i64 1))⟩,
  ⟨some 16, none, .mov (.t 128)⟩]
abbrev c82_l49 : IR := .seq (.seq (.reg c82_r37) (.cond (.t 126) (.skip) (.exit 8))) (.seq (.blk 9 (.seq (.reg c82_r38) (.blk 10 (.loop c82_l47)))) (.reg c82_r48))
abbrev c82_r50 : List Ins := [
  ⟨some 152, none, .mov (.t 15)⟩,
  ⟨some 4, none, .mov (.t 152)⟩]
abbrev c82 : IR := .seq (.reg c82_r1) (.seq (.reg c82_r2) (.seq (.reg c82_r3) (.seq (.reg c82_r4) (.seq (.seq (.reg c82_r5) (.blk 0 (.loop c82_l34))) (.seq (.reg c82_r35) (.seq (.seq (.reg c82_r36) (.blk 8 (.loop c82_l49))) (.seq (.reg c82_r50) (.ret))))))))
abbrev F82 : FnA := ⟨153, c82, [.t 4]⟩
theorem hb82 : HasBody Tryz.prog 82 := ⟨_, Tryz.func82, by kernel_rfl, by kernel_rfl⟩
/-! slices.IndexFunc:SpanT -/
abbrev c83_r1 : List Ins := [
  ⟨some 4, none, .mov (.c (.int .i64 0))⟩]
abbrev c83_r2 : List Ins := [
  ⟨some 6, none, .mov (.t 0)⟩,
  ⟨some 7, none, .len (.t 6)⟩,
  ⟨some 8, none, .mov (.c (.int .i64 0))⟩]
abbrev c83_r3 : List Ins := [
  ⟨some 9, none, .bin .lss (.t 8) (.t 7)⟩]
abbrev c83_r4 : List Ins := [
  ⟨some 10, none, .mov (.t 8)⟩,
  ⟨some 5, none, .mov (.t 10)⟩]
abbrev c83_r5 : List Ins := [
  ⟨some 11, none, .mov (.t 1)⟩,
  ⟨some 12, none, .mov (.t 0)⟩,
  ⟨some 13, none, .mov (.t 5)⟩,
  ⟨some 14, none, .iaddr 5 (.t 12) (.t 13)⟩,
  ⟨some 15, none, .load 5 true (.t 14)⟩,
  ⟨some 16, none, .call (.t 11) [.t 15]⟩]
abbrev c83_r6 : List Ins := [
  ⟨some 17, none, .mov (.t 5)⟩,
  ⟨some 4, none, .mov (.t 17)⟩]
abbrev c83_r7 : List Ins := [
  ⟨some 18, none, .bin .add (.t 8) (.c (.int .i64 1))⟩,
  ⟨some 8, none, .mov (.t 18)⟩]
abbrev c83_l8 : IR := .seq (.reg c83_r3) (.seq (.cond (.t 9) (.skip) (.exit 0)) (.seq (.blk 1 (.seq (.reg c83_r4) (.seq (.reg c83_r5) (.cond (.t 16) (.seq (.reg c83_r6) (.ret)) (.skip))))) (.reg c83_r7)))
abbrev c83_r9 : List Ins := [
  ⟨some 4, none, .mov (.c (.int .i64 (-1)))⟩]
abbrev c83 : IR := .seq (.reg c83_r1) (.seq (.seq (.reg c83_r2) (.blk 0 (.loop c83_l8))) (.seq (.reg c83_r9) (.ret)))
abbrev F83 : FnA := ⟨19, c83, [.t 4]⟩
theorem ok83 : cFn Tryz.prog 83 = some F83 := by kernel_rfl
theorem hb83 : HasBody Tryz.prog 83 := ⟨_, Tryz.func83, by kernel_rfl, by kernel_rfl⟩
/-! slices.IndexFunc:Class -/
abbrev c84_r1 : List Ins := [
  ⟨some 4, none, .mov (.c (.int .i64 0))⟩]
abbrev c84_r2 : List Ins := [
  ⟨some 6, none, .mov (.t 0)⟩,
  ⟨some 7, none, .len (.t 6)⟩,
  ⟨some 8, none, .mov (.c (.int .i64 0))⟩]
abbrev c84_r3 : List Ins := [
  ⟨some 9, none, .bin .lss (.t 8) (.t 7)⟩]
abbrev c84_r4 : List Ins := [
  ⟨some 10, none, .mov (.t 8)⟩,
  ⟨some 5, none, .mov (.t 10)⟩]
abbrev c84_r5 : List Ins := [
  ⟨some 11, none, .mov (.t 1)⟩,
  ⟨some 12, none, .mov (.t 0)⟩,
  ⟨some 13, none, .mov (.t 5)⟩,
  ⟨some 14, none, .iaddr 5 (.t 12) (.t 13)⟩,
  ⟨some 15, none, .load 5 true (.t 14)⟩,
  ⟨some 16, none, .call (.t 11) [.t 15]⟩]
abbrev c84_r6 : List Ins := [
  ⟨some 17, none, .mov (.t 5)⟩,
  ⟨some 4, none, .mov (.t 17)⟩]
abbrev c84_r7 : List Ins := [
  ⟨some 18, none, .bin .add (.t 8) (.c (.int .i64 1))⟩,
  ⟨some 8, none, .mov (.t 18)⟩]
abbrev c84_l8 : IR := .seq (.reg c84_r3) (.seq (.cond (.t 9) (.skip) (.exit 0)) (.seq (.blk 1 (.seq (.reg c84_r4) (.seq (.reg c84_r5) (.cond (.t 16) (.seq (.reg c84_r6) (.ret)) (.skip))))) (.reg c84_r7)))
abbrev c84_r9 : List Ins := [
  ⟨some 4, none, .mov (.c (.int .i64 (-1)))⟩]
abbrev c84 : IR := .seq (.reg c84_r1) (.seq (.seq (.reg c84_r2) (.blk 0 (.loop c84_l8))) (.seq (.reg c84_r9) (.ret)))
abbrev F84 : FnA := ⟨19, c84, [.t 4]⟩
theorem ok84 : cFn Tryz.prog 84 = some F84 := by kernel_rfl
theorem hb84 : HasBody Tryz.prog 84 := ⟨_, Tryz.func84, by kernel_rfl, by kernel_rfl⟩
/-! cat.pairs$1 -/
abbrev c85_r1 : List Ins := [
  ⟨some 6, none, .faddr 0 (.t 1)⟩,
  ⟨some 7, none, .load 1 false (.t 6)⟩,
  ⟨some 8, none, .len (.t 7)⟩,
  ⟨some 9, none, .mn [.t 8, .c (.int .i64 4)]⟩,
  ⟨some 3, none, .mov (.t 9)⟩]
abbrev c85_r2 : List Ins := [
  ⟨some 10, none, .mov (.t 3)⟩,
  ⟨some 11, none, .mov (.c (.int .i64 0))⟩]
abbrev c85_r3 : List Ins := [
  ⟨some 12, none, .bin .lss (.t 11) (.t 10)⟩]
abbrev c85_r4 : List Ins := [
  ⟨some 13, none, .mov (.t 11)⟩,
  ⟨some 4, none, .mov (.t 13)⟩]
abbrev c85_r5 : List Ins := [
  ⟨some 14, none, .mov (.t 3)⟩,
  ⟨some 15, none, .mov (.c (.int .i64 0))⟩]
abbrev c85_r6 : List Ins := [
  ⟨some 16, none, .bin .lss (.t 15) (.t 14)⟩]
abbrev c85_r7 : List Ins := [
  ⟨some 17, none, .mov (.t 15)⟩,
  ⟨some 5, none, .mov (.t 17)⟩]
abbrev c85_r8 : List Ins := [
  ⟨some 18, none, .mov (.t 0)⟩,
  ⟨some 19, none, .mov (.t 4)⟩,
  ⟨some 20, none, .mov (.t 5)⟩,
  ⟨some 21, none, .call (.t 18) [.t 19, .t 20]⟩,
  ⟨some 22, none, .un .not (.t 21)⟩]
abbrev c85_r9 : List Ins := [
  ⟨some 23, none, .bin .add (.t 15) (.c (.int .i64 1))⟩,
  ⟨some 15, none, .mov (.t 23)⟩]
abbrev c85_l10 : IR := .seq (.reg c85_r6) (.seq (.cond (.t 16) (.skip) (.exit 2)) (.seq (.blk 3 (.seq (.reg c85_r7) (.seq (.reg c85_r8) (.cond (.t 22) (.ret) (.skip))))) (.reg c85_r9)))
abbrev c85_r11 : List Ins := [
  ⟨some 24, none, .bin .add (.t 11) (.c (.int .i64 1))⟩,
  ⟨some 11, none, .mov (.t 24)⟩]
abbrev c85_l12 : IR := .seq (.reg c85_r3) (.seq (.cond (.t 12) (.skip) (.exit 0)) (.seq (.blk 1 (.seq (.reg c85_r4) (.seq (.reg c85_r5) (.blk 2 (.loop c85_l10))))) (.reg c85_r11)))
abbrev c85 : IR := .seq (.reg c85_r1) (.seq (.reg c85_r2) (.blk 0 (.loop c85_l12)))
abbrev F85 : FnA := ⟨25, c85, []⟩
theorem ok85 : cFn Tryz.prog 85 = some F85 := by kernel_rfl
theorem hb85 : HasBody Tryz.prog 85 := ⟨_, Tryz.func85, by kernel_rfl, by kernel_rfl⟩
/-! slices.Clone:Step -/
abbrev c86_r1 : List Ins := [
  ⟨some 2, none, .mov (.c (.sl .full []))⟩]
abbrev c86_r2 : List Ins := [
  ⟨some 3, none, .mov (.t 0)⟩,
  ⟨some 4, none, .isnil false (.t 3)⟩]
abbrev c86_r3 : List Ins := [
  ⟨some 2, none, .mov (.c (.sl .full []))⟩]
abbrev c86_r4 : List Ins := [
  ⟨some 5, none, .bsl 2 0 [.sl .full [], .sl .full []] []⟩,
  ⟨some 6, none, .mov (.t 0)⟩,
  ⟨some 7, none, .append 2 48 (.t 5) (.t 6)⟩,
  ⟨some 2, none, .mov (.t 7)⟩]
abbrev c86 : IR := .seq (.reg c86_r1) (.seq (.seq (.reg c86_r2) (.cond (.t 4) (.seq (.reg c86_r3) (.ret)) (.skip))) (.seq (.reg c86_r4) (.ret)))
abbrev F86 : FnA := ⟨8, c86, [.t 2]⟩
theorem ok86 : cFn Tryz.prog 86 = some F86 := by kernel_rfl
theorem hb86 : HasBody Tryz.prog 86 := ⟨_, Tryz.func86, by kernel_rfl, by kernel_rfl⟩
/-! slices.Clone:Instr -/
abbrev c87_r1 : List Ins := [
  ⟨some 2, none, .mov (.c (.sl .full []))⟩]
abbrev c87_r2 : List Ins := [
  ⟨some 3, none, .mov (.t 0)⟩,
  ⟨some 4, none, .isnil false (.t 3)⟩]
abbrev c87_r3 : List Ins := [
  ⟨some 2, none, .mov (.c (.sl .full []))⟩]
abbrev c87_r4 : List Ins := [
  ⟨some 5, none, .bsl 9 0 [.int .i64 0, .int .i64 0, .int .i64 0, .int .i64 0, .int .i64 0, .int .i64 0, .int .i64 0, .int .i64 0, .int .i64 0] []⟩,
  ⟨some 6, none, .mov (.t 0)⟩,
  ⟨some 7, none, .append 9 72 (.t 5) (.t 6)⟩,
  ⟨some 2, none, .mov (.t 7)⟩]
abbrev c87 : IR := .seq (.reg c87_r1) (.seq (.seq (.reg c87_r2) (.cond (.t 4) (.seq (.reg c87_r3) (.ret)) (.skip))) (.seq (.reg c87_r4) (.ret)))
abbrev F87 : FnA := ⟨8, c87, [.t 2]⟩
theorem ok87 : cFn Tryz.prog 87 = some F87 := by kernel_rfl
theorem hb87 : HasBody Tryz.prog 87 := ⟨_, Tryz.func87, by kernel_rfl, by kernel_rfl⟩
/-! slices.Clone:SpanT -/
abbrev c88_r1 : List Ins := [
  ⟨some 2, none, .mov (.c (.sl .full []))⟩]
abbrev c88_r2 : List Ins := [
  ⟨some 3, none, .mov (.t 0)⟩,
  ⟨some 4, none, .isnil false (.t 3)⟩]
abbrev c88_r3 : List Ins := [
  ⟨some 2, none, .mov (.c (.sl .full []))⟩]
abbrev c88_r4 : List Ins := [
  ⟨some 5, none, .bsl 5 0 [.int .i64 0, .int .i64 0, .int .i64 0, .int .i64 0, .bool false] []⟩,
  ⟨some 6, none, .mov (.t 0)⟩,
  ⟨some 7, none, .append 5 40 (.t 5) (.t 6)⟩,
  ⟨some 2, none, .mov (.t 7)⟩]
abbrev c88 : IR := .seq (.reg c88_r1) (.seq (.seq (.reg c88_r2) (.cond (.t 4) (.seq (.reg c88_r3) (.ret)) (.skip))) (.seq (.reg c88_r4) (.ret)))
abbrev F88 : FnA := ⟨8, c88, [.t 2]⟩
theorem ok88 : cFn Tryz.prog 88 = some F88 := by kernel_rfl
theorem hb88 : HasBody Tryz.prog 88 := ⟨_, Tryz.func88, by kernel_rfl, by kernel_rfl⟩
/-! slices.IndexFunc:Instr -/
abbrev c89_r1 : List Ins := [
  ⟨some 4, none, .mov (.c (.int .i64 0))⟩]
abbrev c89_r2 : List Ins := [
  ⟨some 6, none, .mov (.t 0)⟩,
  ⟨some 7, none, .len (.t 6)⟩,
  ⟨some 8, none, .mov (.c (.int .i64 0))⟩]
abbrev c89_r3 : List Ins := [
  ⟨some 9, none, .bin .lss (.t 8) (.t 7)⟩]
abbrev c89_r4 : List Ins := [
  ⟨some 10, none, .mov (.t 8)⟩,
  ⟨some 5, none, .mov (.t 10)⟩]
abbrev c89_r5 : List Ins := [
  ⟨some 11, none, .mov (.t 1)⟩,
  ⟨some 12, none, .mov (.t 0)⟩,
  ⟨some 13, none, .mov (.t 5)⟩,
  ⟨some 14, none, .iaddr 9 (.t 12) (.t 13)⟩,
  ⟨some 15, none, .load 9 true (.t 14)⟩,
  ⟨some 16, none, .call (.t 11) [.t 15]⟩]
abbrev c89_r6 : List Ins := [
  ⟨some 17, none, .mov (.t 5)⟩,
  ⟨some 4, none, .mov (.t 17)⟩]
abbrev c89_r7 : List Ins := [
  ⟨some 18, none, .bin .add (.t 8) (.c (.int .i64 1))⟩,
  ⟨some 8, none, .mov (.t 18)⟩]
abbrev c89_l8 : IR := .seq (.reg c89_r3) (.seq (.cond (.t 9) (.skip) (.exit 0)) (.seq (.blk 1 (.seq (.reg c89_r4) (.seq (.reg c89_r5) (.cond (.t 16) (.seq (.reg c89_r6) (.ret)) (.skip))))) (.reg c89_r7)))
abbrev c89_r9 : List Ins := [
  ⟨some 4, none, .mov (.c (.int .i64 (-1)))⟩]
abbrev c89 : IR := .seq (.reg c89_r1) (.seq (.seq (.reg c89_r2) (.blk 0 (.loop c89_l8))) (.seq (.reg c89_r9) (.ret)))
abbrev F89 : FnA := ⟨19, c89, [.t 4]⟩
theorem ok89 : cFn Tryz.prog 89 = some F89 := by kernel_rfl
theorem hb89 : HasBody Tryz.prog 89 := ⟨_, Tryz.func89, by kernel_rfl, by kernel_rfl⟩
/-! prog.only -/
abbrev c90_r1 : List Ins := [
  ⟨some 1, none, .box (.t 0)⟩,
  ⟨some 2, none, .alloc [.int .i64 0, .int .i64 0, .int .i64 0, .int .i64 0, .int .i64 0, .int .i64 0, .int .i64 0, .int .i64 0, .int .i64 0]⟩,
  ⟨some 3, none, .mov (.c (.bool false))⟩]
abbrev c90_r2 : List Ins := [
  ⟨some 5, none, .faddr 0 (.t 1)⟩,
  ⟨some 6, none, .load 1 false (.t 5)⟩,
  ⟨some 7, none, .faddr 1 (.t 1)⟩,
  ⟨some 8, none, .load 1 false (.t 7)⟩,
  ⟨some 9, none, .build [.int .i64 0, .int .i64 0, .int .i64 0, .int .i64 0, .int .i64 0, .int .i64 0, .int .i64 0, .int .i64 0, .int .i64 0] [(0, (1, .t 6)), (1, (1, .t 8))]⟩,
  ⟨some 4, none, .alloc [.int .i64 0, .int .i64 0, .int .i64 0, .int .i64 0, .int .i64 0, .int .i64 0, .int .i64 0, .int .i64 0, .int .i64 0]⟩,
  ⟨none, none, .store 9 (.t 4) (.t 9)⟩]
abbrev c90_r3 : List Ins := [
  ⟨some 10, none, .faddr 0 (.t 1)⟩,
  ⟨some 11, none, .load 1 false (.t 10)⟩]
abbrev c90_r4 : List Ins := [
  ⟨some 14, none, .bin .eql (.t 11) (.c (.int .i64 1))⟩,
  ⟨some 13, none, .mov (.t 14)⟩]
abbrev c90_r5 : List Ins := [
  ⟨some 15, none, .bin .eql (.t 11) (.c (.int .i64 2))⟩,
  ⟨some 13, none, .mov (.t 15)⟩]
abbrev c90_r6 : List Ins := [
  ⟨some 16, none, .faddr 4 (.t 1)⟩,
  ⟨some 17, none, .load 2 true (.t 16)⟩,
  ⟨some 18, none, .faddr 4 (.t 4)⟩,
  ⟨none, none, .store 2 (.t 18) (.t 17)⟩]
abbrev c90_r7 : List Ins := [
  ⟨some 20, none, .bin .eql (.t 11) (.c (.int .i64 3))⟩,
  ⟨some 19, none, .mov (.t 20)⟩]
abbrev c90_r8 : List Ins := [
  ⟨some 21, none, .faddr 4 (.t 1)⟩,
  ⟨some 22, none, .load 2 true (.t 21)⟩,
  ⟨some 23, none, .faddr 1 (.t 4)⟩,
  ⟨none, none, .store 1 (.t 23) (.c (.int .i64 0))⟩,
  ⟨some 24, none, .faddr 4 (.t 4)⟩,
  ⟨none, none, .store 2 (.t 24) (.t 22)⟩]
def c90_a8 : List (List Nat) := [[], [0], [], [2], [0, 1, 2, 3], [4, 1, 3, 0, 1, 2, 3]]
abbrev c90_m8 : List Am.Mark := [⟨false, 0, 1⟩, ⟨false, 0, 1⟩, ⟨false, 0, 0⟩, ⟨true, 0, 1⟩, ⟨false, 1, 1⟩, ⟨true, 1, 2⟩]
theorem c90_d8 : drawFine c90_r8 c90_a8 c90_m8 = true := by decide +kernel
abbrev c90_r9 : List Ins := [
  ⟨some 26, none, .bin .eql (.t 11) (.c (.int .i64 4))⟩,
  ⟨some 25, none, .mov (.t 26)⟩]
abbrev c90_r10 : List Ins := [
  ⟨some 27, none, .faddr 4 (.t 1)⟩,
  ⟨some 28, none, .load 2 true (.t 27)⟩,
  ⟨some 29, none, .faddr 6 (.t 1)⟩,
  ⟨some 30, none, .load 2 true (.t 29)⟩,
  ⟨some 31, none, .faddr 4 (.t 4)⟩,
  ⟨none, none, .store 2 (.t 31) (.t 28)⟩,
  ⟨some 32, none, .faddr 6 (.t 4)⟩,
  ⟨none, none, .store 2 (.t 32) (.t 30)⟩]
def c90_a10 : List (List Nat) := [[], [0], [], [2], [0, 1], [4, 1, 0, 1], [0, 1, 2, 3, 4, 5], [6, 3, 5, 0, 1, 2, 3, 4, 5]]
abbrev c90_m10 : List Am.Mark := [⟨false, 0, 0⟩, ⟨false, 0, 0⟩, ⟨false, 0, 1⟩, ⟨false, 0, 1⟩, ⟨false, 0, 0⟩, ⟨true, 0, 1⟩, ⟨false, 1, 1⟩, ⟨true, 1, 2⟩]
theorem c90_d10 : drawFine c90_r10 c90_a10 c90_m10 = true := by decide +kernel
abbrev c90_r11 : List Ins := [
  ⟨some 34, none, .bin .eql (.t 11) (.c (.int .i64 5))⟩,
  ⟨some 33, none, .mov (.t 34)⟩]
abbrev c90_r12 : List Ins := [
  ⟨some 35, none, .bin .eql (.t 11) (.c (.int .i64 8))⟩,
  ⟨some 33, none, .mov (.t 35)⟩]
abbrev c90_r13 : List Ins := [
  ⟨some 36, none, .faddr 8 (.t 1)⟩,
  ⟨some 37, none, .load 1 false (.t 36)⟩,
  ⟨some 38, none, .faddr 8 (.t 4)⟩,
  ⟨none, none, .store 1 (.t 38) (.t 37)⟩]
abbrev c90_r14 : List Ins := [
  ⟨some 40, none, .bin .eql (.t 11) (.c (.int .i64 6))⟩,
  ⟨some 39, none, .mov (.t 40)⟩]
abbrev c90_r15 : List Ins := [
  ⟨some 41, none, .bin .eql (.t 11) (.c (.int .i64 7))⟩,
  ⟨some 39, none, .mov (.t 41)⟩]
abbrev c90_r16 : List Ins := [
  ⟨some 42, none, .faddr 2 (.t 1)⟩,
  ⟨some 43, none, .load 1 false (.t 42)⟩,
  ⟨some 44, none, .faddr 3 (.t 1)⟩,
  ⟨some 45, none, .load 1 false (.t 44)⟩,
  ⟨some 46, none, .faddr 2 (.t 4)⟩,
  ⟨none, none, .store 1 (.t 46) (.t 43)⟩,
  ⟨some 47, none, .faddr 3 (.t 4)⟩,
  ⟨none, none, .store 1 (.t 47) (.t 45)⟩]
def c90_a16 : List (List Nat) := [[], [0], [], [2], [0, 1], [4, 1, 0, 1], [0, 1, 2, 3, 4, 5], [6, 3, 5, 0, 1, 2, 3, 4, 5]]
abbrev c90_m16 : List Am.Mark := [⟨false, 0, 0⟩, ⟨false, 0, 0⟩, ⟨false, 0, 1⟩, ⟨false, 0, 1⟩, ⟨false, 0, 0⟩, ⟨true, 0, 1⟩, ⟨false, 1, 1⟩, ⟨true, 1, 2⟩]
theorem c90_d16 : drawFine c90_r16 c90_a16 c90_m16 = true := by decide +kernel
abbrev c90_r17 : List Ins := [
  ⟨some 12, none, .load 9 true (.t 4)⟩,
  ⟨none, none, .store 9 (.t 2) (.t 12)⟩,
  ⟨some 3, none, .mov (.c (.bool false))⟩]
abbrev c90_r18 : List Ins := [
  ⟨some 48, none, .load 9 true (.t 4)⟩,
  ⟨none, none, .store 9 (.t 2) (.t 48)⟩,
  ⟨some 3, none, .mov (.c (.bool true))⟩]
abbrev c90 : IR := .seq (.reg c90_r1) (.seq (.reg c90_r2) (.seq (.seq (.reg c90_r3) (.blk 0 (.seq (.seq (.reg c90_r4) (.cond (.t 13) (.skip) (.reg c90_r5))) (.cond (.t 13) (.reg c90_r6) (.seq (.reg c90_r7) (.cond (.t 19) (.dreg c90_r8 c90_a8) (.seq (.reg c90_r9) (.cond (.t 25) (.dreg c90_r10 c90_a10) (.seq (.seq (.reg c90_r11) (.cond (.t 33) (.skip) (.reg c90_r12))) (.cond (.t 33) (.reg c90_r13) (.seq (.seq (.reg c90_r14) (.cond (.t 39) (.skip) (.reg c90_r15))) (.cond (.t 39) (.dreg c90_r16 c90_a16) (.seq (.reg c90_r17) (.ret)))))))))))))) (.seq (.reg c90_r18) (.ret))))
abbrev F90 : FnA := ⟨49, c90, [.cell 2 9 true, .t 3]⟩
theorem ok90 : cFn Tryz.prog 90 = some F90 := by kernel_rfl
theorem hb90 : HasBody Tryz.prog 90 := ⟨_, Tryz.func90, by kernel_rfl, by kernel_rfl⟩
/-! prog.may$1 -/
abbrev c91_r1 : List Ins := [
  ⟨some 2, none, .box (.t 0)⟩,
  ⟨some 3, none, .mov (.c (.bool false))⟩]
abbrev c91_r2 : List Ins := [
  ⟨some 4, none, .load 2 true (.t 2)⟩,
  ⟨some 5, none, .load 1 false (.t 1)⟩,
  ⟨some 6, none, .call (.c (.fn 92 [] [])) [.t 4, .t 5]⟩,
  ⟨some 7, none, .un .not (.t 6)⟩,
  ⟨some 3, none, .mov (.t 7)⟩]
abbrev c91 : IR := .seq (.reg c91_r1) (.seq (.reg c91_r2) (.ret))
abbrev F91 : FnA := ⟨8, c91, [.t 3]⟩
theorem ok91 : cFn Tryz.prog 91 = some F91 := by kernel_rfl
theorem hb91 : HasBody Tryz.prog 91 := ⟨_, Tryz.func91, by kernel_rfl, by kernel_rfl⟩
/-! prog.mayKey -/
abbrev c92_r1 : List Ins := [
  ⟨some 2, none, .box (.t 0)⟩,
  ⟨some 4, none, .mov (.c (.bool false))⟩]
abbrev c92_r2 : List Ins := [
  ⟨some 5, none, .faddr 0 (.t 2)⟩,
  ⟨some 6, none, .load 1 false (.t 5)⟩,
  ⟨some 7, none, .bin .geq (.t 6) (.c (.int .i64 (-1)))⟩,
  ⟨some 8, none, .mov (.t 7)⟩,
  ⟨some 9, some (8, true), .faddr 0 (.t 2)⟩,
  ⟨some 10, some (8, true), .load 1 false (.t 9)⟩,
  ⟨some 11, some (8, true), .mov (.t 1)⟩,
  ⟨some 12, some (8, true), .bin .lss (.t 10) (.t 11)⟩,
  ⟨some 13, none, .pick (.t 8) (.t 12) (.c (.bool false))⟩,
  ⟨some 14, none, .mov (.t 13)⟩,
  ⟨some 15, some (14, true), .faddr 1 (.t 2)⟩,
  ⟨some 16, some (14, true), .load 1 false (.t 15)⟩,
  ⟨some 17, some (14, true), .bin .geq (.t 16) (.c (.int .i64 0))⟩,
  ⟨some 18, none, .pick (.t 14) (.t 17) (.c (.bool false))⟩,
  ⟨some 19, none, .mov (.t 18)⟩,
  ⟨some 20, some (19, true), .faddr 1 (.t 2)⟩,
  ⟨some 21, some (19, true), .load 1 false (.t 20)⟩,
  ⟨some 22, some (19, true), .bin .leq (.t 21) (.c (.int .i64 900))⟩,
  ⟨some 23, none, .pick (.t 19) (.t 22) (.c (.bool false))⟩,
  ⟨some 4, none, .mov (.t 23)⟩]
abbrev c92 : IR := .seq (.reg c92_r1) (.seq (.reg c92_r2) (.ret))
abbrev F92 : FnA := ⟨24, c92, [.t 4]⟩
theorem ok92 : cFn Tryz.prog 92 = some F92 := by kernel_rfl
theorem hb92 : HasBody Tryz.prog 92 := ⟨_, Tryz.func92, by kernel_rfl, by kernel_rfl⟩
/-! prog.register -/
abbrev c93_r1 : List Ins := [
  ⟨some 2, none, .mov (.c (.bool false))⟩]
abbrev c93_r2 : List Ins := [
  ⟨some 3, none, .mov (.t 0)⟩,
  ⟨some 4, none, .bin .geq (.t 3) (.c (.int .i64 0))⟩,
  ⟨some 5, none, .mov (.t 4)⟩,
  ⟨some 6, some (5, true), .mov (.t 0)⟩,
  ⟨some 7, some (5, true), .bin .lss (.t 6) (.c (.int .i64 4))⟩,
  ⟨some 8, none, .pick (.t 5) (.t 7) (.c (.bool false))⟩,
  ⟨some 2, none, .mov (.t 8)⟩]
abbrev c93 : IR := .seq (.reg c93_r1) (.seq (.reg c93_r2) (.ret))
abbrev F93 : FnA := ⟨9, c93, [.t 2]⟩
theorem ok93 : cFn Tryz.prog 93 = some F93 := by kernel_rfl
theorem hb93 : HasBody Tryz.prog 93 := ⟨_, Tryz.func93, by kernel_rfl, by kernel_rfl⟩
/-! slices.ContainsFunc:KeyT -/
abbrev c94_r1 : List Ins := [
  ⟨some 4, none, .mov (.c (.bool false))⟩]
abbrev c94_r2 : List Ins := [
  ⟨some 5, none, .mov (.t 0)⟩,
  ⟨some 6, none, .mov (.t 1)⟩,
  ⟨some 7, none, .call (.c (.fn 104 [] [])) [.t 5, .t 6]⟩,
  ⟨some 8, none, .bin .geq (.t 7) (.c (.int .i64 0))⟩,
  ⟨some 4, none, .mov (.t 8)⟩]
abbrev c94 : IR := .seq (.reg c94_r1) (.seq (.reg c94_r2) (.ret))
abbrev F94 : FnA := ⟨9, c94, [.t 4]⟩
theorem ok94 : cFn Tryz.prog 94 = some F94 := by kernel_rfl
theorem hb94 : HasBody Tryz.prog 94 := ⟨_, Tryz.func94, by kernel_rfl, by kernel_rfl⟩
/-! prog.keys -/
abbrev c95_r1 : List Ins := [
  ⟨some 1, none, .box (.t 0)⟩,
  ⟨some 2, none, .mov (.c (.sl .full []))⟩]
abbrev c95_r2 : List Ins := [
  ⟨some 3, none, .faddr 0 (.t 1)⟩,
  ⟨some 4, none, .load 1 false (.t 3)⟩]
abbrev c95_r3 : List Ins := [
  ⟨some 6, none, .bin .eql (.t 4) (.c (.int .i64 1))⟩,
  ⟨some 5, none, .mov (.t 6)⟩]
abbrev c95_r4 : List Ins := [
  ⟨some 7, none, .bin .eql (.t 4) (.c (.int .i64 2))⟩,
  ⟨some 5, none, .mov (.t 7)⟩]
abbrev c95_r5 : List Ins := [
  ⟨some 8, none, .bin .eql (.t 4) (.c (.int .i64 3))⟩,
  ⟨some 5, none, .mov (.t 8)⟩]
abbrev c95_r6 : List Ins := [
  ⟨some 9, none, .faddr 4 (.t 1)⟩,
  ⟨some 10, none, .load 2 true (.t 9)⟩,
  ⟨some 11, none, .bsl 2 1 [.int .i64 0, .int .i64 0] [(0, .t 10)]⟩,
  ⟨some 2, none, .mov (.t 11)⟩]
abbrev c95_r7 : List Ins := [
  ⟨some 13, none, .bin .eql (.t 4) (.c (.int .i64 4))⟩,
  ⟨some 12, none, .mov (.t 13)⟩]
abbrev c95_r8 : List Ins := [
  ⟨some 14, none, .faddr 4 (.t 1)⟩,
  ⟨some 15, none, .load 2 true (.t 14)⟩,
  ⟨some 16, none, .faddr 6 (.t 1)⟩,
  ⟨some 17, none, .load 2 true (.t 16)⟩,
  ⟨some 18, none, .bsl 2 2 [.int .i64 0, .int .i64 0] [(0, .t 15), (1, .t 17)]⟩,
  ⟨some 2, none, .mov (.t 18)⟩]
abbrev c95_r9 : List Ins := [
  ⟨some 2, none, .mov (.c (.sl .full []))⟩]
abbrev c95 : IR := .seq (.reg c95_r1) (.seq (.seq (.reg c95_r2) (.blk 0 (.seq (.seq (.reg c95_r3) (.cond (.t 5) (.skip) (.seq (.reg c95_r4) (.cond (.t 5) (.skip) (.reg c95_r5))))) (.cond (.t 5) (.seq (.reg c95_r6) (.ret)) (.seq (.reg c95_r7) (.cond (.t 12) (.seq (.reg c95_r8) (.ret)) (.skip))))))) (.seq (.reg c95_r9) (.ret)))
abbrev F95 : FnA := ⟨19, c95, [.t 2]⟩
theorem ok95 : cFn Tryz.prog 95 = some F95 := by kernel_rfl
theorem hb95 : HasBody Tryz.prog 95 := ⟨_, Tryz.func95, by kernel_rfl, by kernel_rfl⟩
/-! prog.Sure$1 -/
abbrev c96_r1 : List Ins := [
  ⟨some 1, none, .box (.t 0)⟩,
  ⟨some 2, none, .mov (.c (.bool false))⟩]
abbrev c96_r2 : List Ins := [
  ⟨some 3, none, .faddr 0 (.t 1)⟩,
  ⟨some 4, none, .load 1 false (.t 3)⟩,
  ⟨some 5, none, .bin .eql (.t 4) (.c (.int .i64 6))⟩,
  ⟨some 6, none, .mov (.t 5)⟩,
  ⟨some 7, some (6, false), .faddr 0 (.t 1)⟩,
  ⟨some 8, some (6, false), .load 1 false (.t 7)⟩,
  ⟨some 9, some (6, false), .bin .eql (.t 8) (.c (.int .i64 7))⟩,
  ⟨some 10, none, .pick (.t 6) (.c (.bool true)) (.t 9)⟩,
  ⟨some 11, none, .mov (.t 10)⟩,
  ⟨some 12, some (11, false), .faddr 0 (.t 1)⟩,
  ⟨some 13, some (11, false), .load 1 false (.t 12)⟩,
  ⟨some 14, some (11, false), .bin .eql (.t 13) (.c (.int .i64 8))⟩,
  ⟨some 15, none, .pick (.t 11) (.c (.bool true)) (.t 14)⟩,
  ⟨some 2, none, .mov (.t 15)⟩]
abbrev c96 : IR := .seq (.reg c96_r1) (.seq (.reg c96_r2) (.ret))
abbrev F96 : FnA := ⟨16, c96, [.t 2]⟩
theorem ok96 : cFn Tryz.prog 96 = some F96 := by kernel_rfl
theorem hb96 : HasBody Tryz.prog 96 := ⟨_, Tryz.func96, by kernel_rfl, by kernel_rfl⟩
/-! slices.IndexFunc:Span -/
abbrev c97_r1 : List Ins := [
  ⟨some 4, none, .mov (.c (.int .i64 0))⟩]
abbrev c97_r2 : List Ins := [
  ⟨some 6, none, .mov (.t 0)⟩,
  ⟨some 7, none, .len (.t 6)⟩,
  ⟨some 8, none, .mov (.c (.int .i64 0))⟩]
abbrev c97_r3 : List Ins := [
  ⟨some 9, none, .bin .lss (.t 8) (.t 7)⟩]
abbrev c97_r4 : List Ins := [
  ⟨some 10, none, .mov (.t 8)⟩,
  ⟨some 5, none, .mov (.t 10)⟩]
abbrev c97_r5 : List Ins := [
  ⟨some 11, none, .mov (.t 1)⟩,
  ⟨some 12, none, .mov (.t 0)⟩,
  ⟨some 13, none, .mov (.t 5)⟩,
  ⟨some 14, none, .iaddr 2 (.t 12) (.t 13)⟩,
  ⟨some 15, none, .load 2 true (.t 14)⟩,
  ⟨some 16, none, .call (.t 11) [.t 15]⟩]
abbrev c97_r6 : List Ins := [
  ⟨some 17, none, .mov (.t 5)⟩,
  ⟨some 4, none, .mov (.t 17)⟩]
abbrev c97_r7 : List Ins := [
  ⟨some 18, none, .bin .add (.t 8) (.c (.int .i64 1))⟩,
  ⟨some 8, none, .mov (.t 18)⟩]
abbrev c97_l8 : IR := .seq (.reg c97_r3) (.seq (.cond (.t 9) (.skip) (.exit 0)) (.seq (.blk 1 (.seq (.reg c97_r4) (.seq (.reg c97_r5) (.cond (.t 16) (.seq (.reg c97_r6) (.ret)) (.skip))))) (.reg c97_r7)))
abbrev c97_r9 : List Ins := [
  ⟨some 4, none, .mov (.c (.int .i64 (-1)))⟩]
abbrev c97 : IR := .seq (.reg c97_r1) (.seq (.seq (.reg c97_r2) (.blk 0 (.loop c97_l8))) (.seq (.reg c97_r9) (.ret)))
abbrev F97 : FnA := ⟨19, c97, [.t 4]⟩
theorem ok97 : cFn Tryz.prog 97 = some F97 := by kernel_rfl
theorem hb97 : HasBody Tryz.prog 97 := ⟨_, Tryz.func97, by kernel_rfl, by kernel_rfl⟩
/-! slices.Grow:Span -/
-- f98: not compiled
/-! slices.pdqsortCmpFunc:Span -/
abbrev c99_r1 : List Ins := [
  ⟨some 10, none, .mov (.c (.bool true))⟩]
abbrev c99_r2 : List Ins := [
  ⟨some 11, none, .mov (.c (.bool true))⟩]
abbrev c99_r3 : List Ins := [
  ⟨some 21, none, .mov (.t 2)⟩,
  ⟨some 22, none, .mov (.t 1)⟩,
  ⟨some 23, none, .bin .sub (.t 21) (.t 22)⟩,
  ⟨some 12, none, .mov (.t 23)⟩]
abbrev c99_r4 : List Ins := [
  ⟨some 24, none, .mov (.t 12)⟩,
  ⟨some 25, none, .bin .leq (.t 24) (.c (.int .i64 12))⟩]
abbrev c99_r5 : List Ins := [
  ⟨some 26, none, .mov (.t 0)⟩,
  ⟨some 27, none, .mov (.t 1)⟩,
  ⟨some 28, none, .mov (.t 2)⟩,
  ⟨some 29, none, .mov (.t 4)⟩,
  ⟨some 30, none, .call (.c (.fn 105 [] [])) [.t 26, .t 27, .t 28, .t 29]⟩]
abbrev c99_r6 : List Ins := [
  ⟨some 31, none, .mov (.t 3)⟩,
  ⟨some 32, none, .bin .eql (.t 31) (.c (.int .i64 0))⟩]
abbrev c99_r7 : List Ins := [
  ⟨some 33, none, .mov (.t 0)⟩,
  ⟨some 34, none, .mov (.t 1)⟩,
  ⟨some 35, none, .mov (.t 2)⟩,
  ⟨some 36, none, .mov (.t 4)⟩,
  ⟨some 37, none, .call (.c (.fn 106 [] [])) [.t 33, .t 34, .t 35, .t 36]⟩]
abbrev c99_r8 : List Ins := [
  ⟨some 38, none, .mov (.t 10)⟩,
  ⟨some 39, none, .un .not (.t 38)⟩]
abbrev c99_r9 : List Ins := [
  ⟨some 40, none, .mov (.t 0)⟩,
  ⟨some 41, none, .mov (.t 1)⟩,
  ⟨some 42, none, .mov (.t 2)⟩,
  ⟨some 43, none, .mov (.t 4)⟩,
  ⟨some 44, none, .call (.c (.fn 107 [] [])) [.t 40, .t 41, .t 42, .t 43]⟩]
abbrev c99_r10 : List Ins := [
  ⟨some 45, none, .mov (.t 3)⟩,
  ⟨some 46, none, .bin .sub (.t 45) (.c (.int .i64 1))⟩,
  ⟨some 3, none, .mov (.t 46)⟩]
abbrev c99_r11 : List Ins := [
  ⟨some 48, none, .mov (.t 0)⟩,
  ⟨some 49, none, .mov (.t 1)⟩,
  ⟨some 50, none, .mov (.t 2)⟩,
  ⟨some 51, none, .mov (.t 4)⟩,
  ⟨some 52, none, .call (.c (.fn 108 [] [])) [.t 48, .t 49, .t 50, .t 51]⟩,
  ⟨some 47, none, .mov (.t 52)⟩,
  ⟨some 53, none, .ext (.t 47) 0⟩,
  ⟨some 54, none, .ext (.t 47) 1⟩,
  ⟨some 13, none, .mov (.t 53)⟩,
  ⟨some 14, none, .mov (.t 54)⟩]
abbrev c99_r12 : List Ins := [
  ⟨some 55, none, .mov (.t 14)⟩,
  ⟨some 56, none, .bin .eql (.t 55) (.c (.int .i64 2))⟩]
abbrev c99_r13 : List Ins := [
  ⟨some 57, none, .mov (.t 0)⟩,
  ⟨some 58, none, .mov (.t 1)⟩,
  ⟨some 59, none, .mov (.t 2)⟩,
  ⟨some 60, none, .mov (.t 4)⟩,
  ⟨some 61, none, .call (.c (.fn 109 [] [])) [.t 57, .t 58, .t 59, .t 60]⟩]
abbrev c99_r14 : List Ins := [
  ⟨some 62, none, .mov (.t 2)⟩,
  ⟨some 63, none, .bin .sub (.t 62) (.c (.int .i64 1))⟩,
  ⟨some 64, none, .mov (.t 13)⟩,
  ⟨some 65, none, .mov (.t 1)⟩,
  ⟨some 66, none, .bin .sub (.t 64) (.t 65)⟩,
  ⟨some 67, none, .bin .sub (.t 63) (.t 66)⟩,
  ⟨some 13, none, .mov (.t 67)⟩]
abbrev c99_r15 : List Ins := [
  ⟨some 14, none, .mov (.c (.int .i64 1))⟩]
abbrev c99_r16 : List Ins := [
  ⟨some 68, none, .mov (.t 10)⟩,
  ⟨some 69, none, .mov (.t 68)⟩,
  ⟨some 70, some (69, true), .mov (.t 11)⟩,
  ⟨some 71, none, .pick (.t 69) (.t 70) (.c (.bool false))⟩,
  ⟨some 72, none, .mov (.t 71)⟩,
  ⟨some 73, some (72, true), .mov (.t 14)⟩,
  ⟨some 74, some (72, true), .bin .eql (.t 73) (.c (.int .i64 1))⟩,
  ⟨some 75, none, .pick (.t 72) (.t 74) (.c (.bool false))⟩]
abbrev c99_r17 : List Ins := [
  ⟨some 76, none, .mov (.t 0)⟩,
  ⟨some 77, none, .mov (.t 1)⟩,
  ⟨some 78, none, .mov (.t 2)⟩,
  ⟨some 79, none, .mov (.t 4)⟩,
  ⟨some 80, none, .call (.c (.fn 110 [] [])) [.t 76, .t 77, .t 78, .t 79]⟩]
abbrev c99_r18 : List Ins := [
  ⟨some 81, none, .mov (.t 1)⟩,
  ⟨some 82, none, .bin .gtr (.t 81) (.c (.int .i64 0))⟩,
  ⟨some 83, none, .mov (.t 82)⟩,
  ⟨some 84, some (83, true), .mov (.t 4)⟩,
  ⟨some 85, some (83, true), .mov (.t 0)⟩,
  ⟨some 86, some (83, true), .mov (.t 1)⟩,
  ⟨some 87, some (83, true), .bin .sub (.t 86) (.c (.int .i64 1))⟩,
  ⟨some 88, some (83, true), .iaddr 2 (.t 85) (.t 87)⟩,
  ⟨some 89, some (83, true), .load 2 true (.t 88)⟩,
  ⟨some 90, some (83, true), .mov (.t 0)⟩,
  ⟨some 91, some (83, true), .mov (.t 13)⟩,
  ⟨some 92, some (83, true), .iaddr 2 (.t 90) (.t 91)⟩,
  ⟨some 93, some (83, true), .load 2 true (.t 92)⟩,
  ⟨some 94, some (83, true), .call (.t 84) [.t 89, .t 93]⟩,
  ⟨some 95, some (83, true), .bin .lss (.t 94) (.c (.int .i64 0))⟩,
  ⟨some 96, some (83, true), .un .not (.t 95)⟩,
  ⟨some 97, none, .pick (.t 83) (.t 96) (.c (.bool false))⟩]
def c99_a18 : List (List Nat) := [[], [0], [1], [2], [2], [2], [5, 2], [4, 6, 2], [7, 2], [2], [2], [9, 10, 2], [11, 2], [3, 8, 12, 2, 2], [13, 2], [14, 2], [2, 15]]
abbrev c99_m18 : List Am.Mark := [⟨false, 0, 1⟩, ⟨false, 0, 1⟩, ⟨false, 0, 0⟩, ⟨false, 0, 0⟩, ⟨false, 0, 1⟩, ⟨false, 0, 1⟩, ⟨false, 0, 1⟩, ⟨false, 0, 1⟩, ⟨false, 0, 0⟩, ⟨false, 0, 1⟩, ⟨false, 0, 1⟩, ⟨false, 0, 1⟩, ⟨false, 0, 0⟩, ⟨true, 0, 1⟩, ⟨false, 1, 1⟩, ⟨false, 1, 1⟩, ⟨false, 1, 1⟩]
theorem c99_d18 : drawFine c99_r18 c99_a18 c99_m18 = true := by decide +kernel
abbrev c99_r19 : List Ins := [
  ⟨some 98, none, .mov (.t 0)⟩,
  ⟨some 99, none, .mov (.t 1)⟩,
  ⟨some 100, none, .mov (.t 2)⟩,
  ⟨some 101, none, .mov (.t 13)⟩,
  ⟨some 102, none, .mov (.t 4)⟩,
  ⟨some 103, none, .call (.c (.fn 111 [] [])) [.t 98, .t 99, .t 100, .t 101, .t 102]⟩,
  ⟨some 15, none, .mov (.t 103)⟩]
abbrev c99_r20 : List Ins := [
  ⟨some 104, none, .mov (.t 15)⟩,
  ⟨some 1, none, .mov (.t 104)⟩]
abbrev c99_r21 : List Ins := [
  ⟨some 106, none, .mov (.t 0)⟩,
  ⟨some 107, none, .mov (.t 1)⟩,
  ⟨some 108, none, .mov (.t 2)⟩,
  ⟨some 109, none, .mov (.t 13)⟩,
  ⟨some 110, none, .mov (.t 4)⟩,
  ⟨some 111, none, .call (.c (.fn 112 [] [])) [.t 106, .t 107, .t 108, .t 109, .t 110]⟩,
  ⟨some 105, none, .mov (.t 111)⟩,
  ⟨some 112, none, .ext (.t 105) 0⟩,
  ⟨some 113, none, .ext (.t 105) 1⟩,
  ⟨some 16, none, .mov (.t 112)⟩,
  ⟨some 17, none, .mov (.t 113)⟩]
abbrev c99_r22 : List Ins := [
  ⟨some 114, none, .mov (.t 17)⟩,
  ⟨some 11, none, .mov (.t 114)⟩]
abbrev c99_r23 : List Ins := [
  ⟨some 115, none, .mov (.t 16)⟩,
  ⟨some 116, none, .mov (.t 1)⟩,
  ⟨some 117, none, .bin .sub (.t 115) (.t 116)⟩,
  ⟨some 118, none, .mov (.t 2)⟩,
  ⟨some 119, none, .mov (.t 16)⟩,
  ⟨some 120, none, .bin .sub (.t 118) (.t 119)⟩,
  ⟨some 18, none, .mov (.t 117)⟩,
  ⟨some 19, none, .mov (.t 120)⟩]
abbrev c99_r24 : List Ins := [
  ⟨some 121, none, .mov (.t 12)⟩,
  ⟨some 122, none, .bin .quo (.t 121) (.c (.int .i64 8))⟩,
  ⟨some 20, none, .mov (.t 122)⟩]
abbrev c99_r25 : List Ins := [
  ⟨some 123, none, .mov (.t 18)⟩,
  ⟨some 124, none, .mov (.t 19)⟩,
  ⟨some 125, none, .bin .lss (.t 123) (.t 124)⟩]
abbrev c99_r26 : List Ins := [
  ⟨some 126, none, .mov (.t 18)⟩,
  ⟨some 127, none, .mov (.t 20)⟩,
  ⟨some 128, none, .bin .geq (.t 126) (.t 127)⟩,
  ⟨some 10, none, .mov (.t 128)⟩]
abbrev c99_r27 : List Ins := [
  ⟨some 129, none, .mov (.t 0)⟩,
  ⟨some 130, none, .mov (.t 1)⟩,
  ⟨some 131, none, .mov (.t 16)⟩,
  ⟨some 132, none, .mov (.t 3)⟩,
  ⟨some 133, none, .mov (.t 4)⟩,
  ⟨some 134, none, .call (.c (.fn 99 [] [])) [.t 129, .t 130, .t 131, .t 132, .t 133]⟩]
abbrev c99_r28 : List Ins := [
  ⟨some 135, none, .mov (.t 16)⟩,
  ⟨some 136, none, .bin .add (.t 135) (.c (.int .i64 1))⟩,
  ⟨some 1, none, .mov (.t 136)⟩]
abbrev c99_r29 : List Ins := [
  ⟨some 137, none, .mov (.t 19)⟩,
  ⟨some 138, none, .mov (.t 20)⟩,
  ⟨some 139, none, .bin .geq (.t 137) (.t 138)⟩,
  ⟨some 10, none, .mov (.t 139)⟩]
abbrev c99_r30 : List Ins := [
  ⟨some 140, none, .mov (.t 0)⟩,
  ⟨some 141, none, .mov (.t 16)⟩,
  ⟨some 142, none, .bin .add (.t 141) (.c (.int .i64 1))⟩,
  ⟨some 143, none, .mov (.t 2)⟩,
  ⟨some 144, none, .mov (.t 3)⟩,
  ⟨some 145, none, .mov (.t 4)⟩,
  ⟨some 146, none, .call (.c (.fn 99 [] [])) [.t 140, .t 142, .t 143, .t 144, .t 145]⟩]
abbrev c99_r31 : List Ins := [
  ⟨some 147, none, .mov (.t 16)⟩,
  ⟨some 2, none, .mov (.t 147)⟩]
abbrev c99_l32 : IR := .blk 1 (.seq (.reg c99_r3) (.seq (.seq (.reg c99_r4) (.cond (.t 25) (.seq (.reg c99_r5) (.ret)) (.skip))) (.seq (.seq (.reg c99_r6) (.cond (.t 32) (.seq (.reg c99_r7) (.ret)) (.skip))) (.seq (.seq (.reg c99_r8) (.cond (.t 39) (.seq (.reg c99_r9) (.reg c99_r10)) (.skip))) (.seq (.reg c99_r11) (.seq (.seq (.reg c99_r12) (.cond (.t 56) (.seq (.reg c99_r13) (.seq (.reg c99_r14) (.reg c99_r15))) (.skip))) (.seq (.seq (.reg c99_r16) (.cond (.t 75) (.seq (.reg c99_r17) (.cond (.t 80) (.ret) (.skip))) (.skip))) (.seq (.seq (.dreg c99_r18 c99_a18) (.cond (.t 97) (.seq (.reg c99_r19) (.seq (.reg c99_r20) (.exit 1))) (.skip))) (.seq (.reg c99_r21) (.seq (.reg c99_r22) (.seq (.reg c99_r23) (.seq (.reg c99_r24) (.seq (.reg c99_r25) (.cond (.t 125) (.seq (.reg c99_r26) (.seq (.reg c99_r27) (.reg c99_r28))) (.seq (.reg c99_r29) (.seq (.reg c99_r30) (.reg c99_r31)))))))))))))))))
abbrev c99 : IR := .seq (.reg c99_r1) (.seq (.reg c99_r2) (.blk 0 (.loop c99_l32)))
abbrev F99 : FnA := ⟨148, c99, []⟩
theorem ok99 : cFn Tryz.prog 99 = some F99 := by kernel_rfl
theorem hb99 : HasBody Tryz.prog 99 := ⟨_, Tryz.func99, by kernel_rfl, by kernel_rfl⟩
/-! math/bits.Len -/
abbrev c100_r1 : List Ins := [
  ⟨some 2, none, .mov (.c (.int .i64 0))⟩]
abbrev c100_r2 : List Ins := [
  ⟨some 3, none, .mov (.t 0)⟩,
  ⟨some 4, none, .conv .u32 (.t 3)⟩,
  ⟨some 5, none, .call (.c (.fn 113 [] [])) [.t 4]⟩,
  ⟨some 2, none, .mov (.t 5)⟩]
abbrev c100_r3 : List Ins := [
  ⟨some 6, none, .mov (.t 0)⟩,
  ⟨some 7, none, .call (.c (.fn 114 [] [])) [.t 6]⟩,
  ⟨some 2, none, .mov (.t 7)⟩]
abbrev c100 : IR := .seq (.reg c100_r1) (.seq (.cond (.c (.bool false)) (.seq (.reg c100_r2) (.ret)) (.skip)) (.seq (.reg c100_r3) (.ret)))
abbrev F100 : FnA := ⟨8, c100, [.t 2]⟩
theorem ok100 : cFn Tryz.prog 100 = some F100 := by kernel_rfl
theorem hb100 : HasBody Tryz.prog 100 := ⟨_, Tryz.func100, by kernel_rfl, by kernel_rfl⟩
/-! cmp.isNaN:int -/
abbrev c101_r1 : List Ins := [
  ⟨some 2, none, .mov (.c (.bool false))⟩]
abbrev c101_r2 : List Ins := [
  ⟨some 3, none, .mov (.t 0)⟩,
  ⟨some 4, none, .mov (.t 0)⟩,
  ⟨some 5, none, .bin .neq (.t 3) (.t 4)⟩,
  ⟨some 2, none, .mov (.t 5)⟩]
abbrev c101 : IR := .seq (.reg c101_r1) (.seq (.reg c101_r2) (.ret))
abbrev F101 : FnA := ⟨6, c101, [.t 2]⟩
theorem ok101 : cFn Tryz.prog 101 = some F101 := by kernel_rfl
theorem hb101 : HasBody Tryz.prog 101 := ⟨_, Tryz.func101, by kernel_rfl, by kernel_rfl⟩
/-! ref15.Of -/
abbrev c102_r1 : List Ins := [
  ⟨some 2, none, .mov (.c (.sl .full []))⟩]
abbrev c102_r2 : List Ins := [
  ⟨some 10, none, .mov (.t 0)⟩,
  ⟨some 11, none, .len (.t 10)⟩,
  ⟨some 3, none, .mov (.t 11)⟩]
abbrev c102_r3 : List Ins := [
  ⟨some 12, none, .mov (.t 3)⟩,
  ⟨some 13, none, .mksl 1 24 [.sl .full []] (.t 12) (.t 12)⟩,
  ⟨some 4, none, .mov (.t 13)⟩]
abbrev c102_r4 : List Ins := [
  ⟨some 5, none, .mov (.c (.int .i64 0))⟩]
abbrev c102_r5 : List Ins := [
  ⟨some 14, none, .mov (.t 5)⟩,
  ⟨some 15, none, .mov (.t 3)⟩,
  ⟨some 16, none, .bin .lss (.t 14) (.t 15)⟩]
abbrev c102_r6 : List Ins := [
  ⟨some 19, none, .mov (.t 4)⟩,
  ⟨some 20, none, .mov (.t 5)⟩,
  ⟨some 21, none, .mov (.t 3)⟩,
  ⟨some 22, none, .mksl 1 1 [.bool false] (.t 21) (.t 21)⟩,
  ⟨some 23, none, .iaddr 1 (.t 19) (.t 20)⟩,
  ⟨none, none, .store 1 (.t 23) (.t 22)⟩]
abbrev c102_r7 : List Ins := [
  ⟨some 6, none, .mov (.c (.int .i64 0))⟩]
abbrev c102_r8 : List Ins := [
  ⟨some 24, none, .mov (.t 6)⟩,
  ⟨some 25, none, .mov (.t 5)⟩,
  ⟨some 26, none, .bin .lss (.t 24) (.t 25)⟩]
abbrev c102_r9 : List Ins := [
  ⟨some 29, none, .mov (.t 4)⟩,
  ⟨some 30, none, .mov (.t 5)⟩,
  ⟨some 31, none, .iaddr 1 (.t 29) (.t 30)⟩,
  ⟨some 32, none, .load 1 false (.t 31)⟩,
  ⟨some 33, none, .mov (.t 6)⟩,
  ⟨some 34, none, .mov (.t 0)⟩,
  ⟨some 35, none, .mov (.t 5)⟩,
  ⟨some 36, none, .iaddr 6 (.t 34) (.t 35)⟩,
  ⟨some 37, none, .faddr 0 (.t 36)⟩,
  ⟨some 38, none, .load 1 false (.t 37)⟩,
  ⟨some 39, none, .mov (.t 0)⟩,
  ⟨some 40, none, .mov (.t 6)⟩,
  ⟨some 41, none, .iaddr 6 (.t 39) (.t 40)⟩,
  ⟨some 42, none, .faddr 0 (.t 41)⟩,
  ⟨some 43, none, .load 1 false (.t 42)⟩,
  ⟨some 44, none, .bin .eql (.t 38) (.t 43)⟩,
  ⟨some 45, none, .mov (.t 44)⟩,
  ⟨some 46, some (45, false), .mov (.t 0)⟩,
  ⟨some 47, some (45, false), .mov (.t 5)⟩,
  ⟨some 48, some (45, false), .iaddr 6 (.t 46) (.t 47)⟩,
  ⟨some 49, some (45, false), .load 6 true (.t 48)⟩,
  ⟨some 50, some (45, false), .mov (.t 0)⟩,
  ⟨some 51, some (45, false), .mov (.t 6)⟩,
  ⟨some 52, some (45, false), .iaddr 6 (.t 50) (.t 51)⟩,
  ⟨some 53, some (45, false), .load 6 true (.t 52)⟩,
  ⟨some 54, some (45, false), .call (.c (.fn 115 [] [])) [.t 49, .t 53]⟩,
  ⟨some 55, none, .pick (.t 45) (.c (.bool true)) (.t 54)⟩,
  ⟨some 56, none, .iaddr 1 (.t 32) (.t 33)⟩,
  ⟨none, none, .store 1 (.t 56) (.t 55)⟩]
def c102_a9 : List (List Nat) := [[], [], [0, 1], [2], [], [], [], [5, 6], [7], [8], [], [], [10, 11], [12], [13], [9, 14], [15], [16], [16], [17, 18, 16], [19, 16], [16], [16], [21, 22, 16], [23, 16], [20, 24, 16, 16], [16, 25], [3, 4, 0, 1, 2, 3, 4, 5, 6, 7, 8, 9, 10, 11, 12, 13, 14, 15, 16, 17, 18, 19, 20, 21, 22, 23, 24, 25, 26], [27, 26, 25, 0, 1, 2, 3, 4, 5, 6, 7, 8, 9, 10, 11, 12, 13, 14, 15, 16, 17, 18, 19, 20, 21, 22, 23, 24, 25, 26]]
abbrev c102_m9 : List Am.Mark := [⟨false, 0, 0⟩, ⟨false, 0, 0⟩, ⟨false, 0, 0⟩, ⟨false, 0, 0⟩, ⟨false, 0, 0⟩, ⟨false, 0, 0⟩, ⟨false, 0, 0⟩, ⟨false, 0, 0⟩, ⟨false, 0, 0⟩, ⟨false, 0, 0⟩, ⟨false, 0, 0⟩, ⟨false, 0, 0⟩, ⟨false, 0, 0⟩, ⟨false, 0, 0⟩, ⟨false, 0, 0⟩, ⟨false, 0, 0⟩, ⟨false, 0, 0⟩, ⟨false, 0, 0⟩, ⟨false, 0, 0⟩, ⟨false, 0, 0⟩, ⟨false, 0, 0⟩, ⟨false, 0, 0⟩, ⟨false, 0, 0⟩, ⟨false, 0, 0⟩, ⟨false, 0, 0⟩, ⟨false, 0, 0⟩, ⟨false, 0, 0⟩, ⟨false, 0, 0⟩, ⟨true, 0, 1⟩]
theorem c102_d9 : drawFine c102_r9 c102_a9 c102_m9 = true := by decide +kernel
abbrev c102_r10 : List Ins := [
  ⟨some 27, none, .mov (.t 6)⟩,
  ⟨some 28, none, .bin .add (.t 27) (.c (.int .i64 1))⟩,
  ⟨some 6, none, .mov (.t 28)⟩]
abbrev c102_l11 : IR := .seq (.seq (.reg c102_r8) (.cond (.t 26) (.skip) (.exit 2))) (.seq (.blk 3 (.dreg c102_r9 c102_a9)) (.reg c102_r10))
abbrev c102_r12 : List Ins := [
  ⟨some 17, none, .mov (.t 5)⟩,
  ⟨some 18, none, .bin .add (.t 17) (.c (.int .i64 1))⟩,
  ⟨some 5, none, .mov (.t 18)⟩]
abbrev c102_l13 : IR := .seq (.seq (.reg c102_r5) (.cond (.t 16) (.skip) (.exit 0))) (.seq (.blk 1 (.seq (.reg c102_r6) (.seq (.reg c102_r7) (.blk 2 (.loop c102_l11))))) (.reg c102_r12))
abbrev c102_r14 : List Ins := [
  ⟨some 7, none, .mov (.c (.int .i64 0))⟩]
abbrev c102_r15 : List Ins := [
  ⟨some 57, none, .mov (.t 7)⟩,
  ⟨some 58, none, .mov (.t 3)⟩,
  ⟨some 59, none, .bin .lss (.t 57) (.t 58)⟩]
abbrev c102_r16 : List Ins := [
  ⟨some 8, none, .mov (.c (.int .i64 0))⟩]
abbrev c102_r17 : List Ins := [
  ⟨some 62, none, .mov (.t 8)⟩,
  ⟨some 63, none, .mov (.t 3)⟩,
  ⟨some 64, none, .bin .lss (.t 62) (.t 63)⟩]
abbrev c102_r18 : List Ins := [
  ⟨some 9, none, .mov (.c (.int .i64 0))⟩]
abbrev c102_r19 : List Ins := [
  ⟨some 67, none, .mov (.t 9)⟩,
  ⟨some 68, none, .mov (.t 3)⟩,
  ⟨some 69, none, .bin .lss (.t 67) (.t 68)⟩]
abbrev c102_r20 : List Ins := [
  ⟨some 72, none, .mov (.t 4)⟩,
  ⟨some 73, none, .mov (.t 8)⟩,
  ⟨some 74, none, .iaddr 1 (.t 72) (.t 73)⟩,
  ⟨some 75, none, .load 1 false (.t 74)⟩,
  ⟨some 76, none, .mov (.t 7)⟩,
  ⟨some 77, none, .iaddr 1 (.t 75) (.t 76)⟩,
  ⟨some 78, none, .load 1 false (.t 77)⟩,
  ⟨some 79, none, .mov (.t 78)⟩,
  ⟨some 80, some (79, true), .mov (.t 4)⟩,
  ⟨some 81, some (79, true), .mov (.t 7)⟩,
  ⟨some 82, some (79, true), .iaddr 1 (.t 80) (.t 81)⟩,
  ⟨some 83, some (79, true), .load 1 false (.t 82)⟩,
  ⟨some 84, some (79, true), .mov (.t 9)⟩,
  ⟨some 85, some (79, true), .iaddr 1 (.t 83) (.t 84)⟩,
  ⟨some 86, some (79, true), .load 1 false (.t 85)⟩,
  ⟨some 87, none, .pick (.t 79) (.t 86) (.c (.bool false))⟩]
abbrev c102_r21 : List Ins := [
  ⟨some 88, none, .mov (.t 4)⟩,
  ⟨some 89, none, .mov (.t 8)⟩,
  ⟨some 90, none, .iaddr 1 (.t 88) (.t 89)⟩,
  ⟨some 91, none, .load 1 false (.t 90)⟩,
  ⟨some 92, none, .mov (.t 9)⟩,
  ⟨some 93, none, .iaddr 1 (.t 91) (.t 92)⟩,
  ⟨none, none, .store 1 (.t 93) (.c (.bool true))⟩]
abbrev c102_r22 : List Ins := [
  ⟨some 70, none, .mov (.t 9)⟩,
  ⟨some 71, none, .bin .add (.t 70) (.c (.int .i64 1))⟩,
  ⟨some 9, none, .mov (.t 71)⟩]
abbrev c102_l23 : IR := .seq (.seq (.reg c102_r19) (.cond (.t 69) (.skip) (.exit 8))) (.seq (.blk 9 (.seq (.reg c102_r20) (.cond (.t 87) (.reg c102_r21) (.skip)))) (.reg c102_r22))
abbrev c102_r24 : List Ins := [
  ⟨some 65, none, .mov (.t 8)⟩,
  ⟨some 66, none, .bin .add (.t 65) (.c (.int .i64 1))⟩,
  ⟨some 8, none, .mov (.t 66)⟩]
abbrev c102_l25 : IR := .seq (.seq (.reg c102_r17) (.cond (.t 64) (.skip) (.exit 6))) (.seq (.blk 7 (.seq (.reg c102_r18) (.blk 8 (.loop c102_l23)))) (.reg c102_r24))
abbrev c102_r26 : List Ins := [
  ⟨some 60, none, .mov (.t 7)⟩,
  ⟨some 61, none, .bin .add (.t 60) (.c (.int .i64 1))⟩,
  ⟨some 7, none, .mov (.t 61)⟩]
abbrev c102_l27 : IR := .seq (.seq (.reg c102_r15) (.cond (.t 59) (.skip) (.exit 4))) (.seq (.blk 5 (.seq (.reg c102_r16) (.blk 6 (.loop c102_l25)))) (.reg c102_r26))
abbrev c102_r28 : List Ins := [
  ⟨some 94, none, .mov (.t 4)⟩,
  ⟨some 2, none, .mov (.t 94)⟩]
abbrev c102 : IR := .seq (.reg c102_r1) (.seq (.reg c102_r2) (.seq (.reg c102_r3) (.seq (.seq (.reg c102_r4) (.blk 0 (.loop c102_l13))) (.seq (.seq (.reg c102_r14) (.blk 4 (.loop c102_l27))) (.seq (.reg c102_r28) (.ret))))))
abbrev F102 : FnA := ⟨95, c102, [.t 2]⟩
theorem ok102 : cFn Tryz.prog 102 = some F102 := by kernel_rfl
theorem hb102 : HasBody Tryz.prog 102 := ⟨_, Tryz.func102, by kernel_rfl, by kernel_rfl⟩
/-! ref14.In -/
abbrev c103_r1 : List Ins := [
  ⟨some 5, none, .box (.t 0)⟩,
  ⟨some 10, none, .mov (.c (.bool false))⟩]
abbrev c103_r2 : List Ins := [
  ⟨some 13, none, .mov (.t 1)⟩,
  ⟨some 14, none, .mov (.t 2)⟩,
  ⟨some 15, none, .iaddr 6 (.t 13) (.t 14)⟩,
  ⟨some 16, none, .load 6 true (.t 15)⟩,
  ⟨some 17, none, .mov (.t 1)⟩,
  ⟨some 18, none, .mov (.t 3)⟩,
  ⟨some 19, none, .iaddr 6 (.t 17) (.t 18)⟩,
  ⟨some 20, none, .load 6 true (.t 19)⟩,
  ⟨some 11, none, .alloc [.int .i64 0, .int .i64 0, .int .i64 0, .bool false, .sl .full [], .sl .full []]⟩,
  ⟨some 12, none, .alloc [.int .i64 0, .int .i64 0, .int .i64 0, .bool false, .sl .full [], .sl .full []]⟩,
  ⟨none, none, .store 6 (.t 11) (.t 16)⟩,
  ⟨none, none, .store 6 (.t 12) (.t 20)⟩]
def c103_a2 : List (List Nat) := [[], [], [0, 1], [2], [], [], [4, 5], [6], [], [], [8, 3, 0, 1, 2, 3, 8, 9], [9, 7, 10, 0, 1, 2, 3, 4, 5, 6, 7, 8, 9, 10]]
abbrev c103_m2 : List Am.Mark := [⟨false, 0, 2⟩, ⟨false, 0, 2⟩, ⟨false, 0, 2⟩, ⟨false, 0, 2⟩, ⟨false, 0, 3⟩, ⟨false, 0, 3⟩, ⟨false, 0, 3⟩, ⟨false, 0, 3⟩, ⟨true, 0, 2⟩, ⟨true, 0, 2⟩, ⟨true, 2, 3⟩, ⟨true, 3, 4⟩]
abbrev c103_r3 : List Ins := [
  ⟨some 21, none, .mov (.t 2)⟩,
  ⟨some 22, none, .mov (.t 3)⟩,
  ⟨some 23, none, .bin .eql (.t 21) (.t 22)⟩]
abbrev c103_r4 : List Ins := [
  ⟨some 10, none, .mov (.c (.bool true))⟩]
abbrev c103_r5 : List Ins := [
  ⟨some 24, none, .faddr 0 (.t 11)⟩,
  ⟨some 25, none, .load 1 false (.t 24)⟩,
  ⟨some 26, none, .faddr 0 (.t 12)⟩,
  ⟨some 27, none, .load 1 false (.t 26)⟩,
  ⟨some 28, none, .bin .eql (.t 25) (.t 27)⟩,
  ⟨some 29, none, .mov (.t 28)⟩,
  ⟨some 30, some (29, true), .faddr 3 (.t 11)⟩,
  ⟨some 31, some (29, true), .load 1 false (.t 30)⟩,
  ⟨some 32, some (29, true), .un .not (.t 31)⟩,
  ⟨some 33, none, .pick (.t 29) (.t 32) (.c (.bool false))⟩,
  ⟨some 34, none, .mov (.t 33)⟩,
  ⟨some 35, some (34, true), .faddr 3 (.t 12)⟩,
  ⟨some 36, some (34, true), .load 1 false (.t 35)⟩,
  ⟨some 37, some (34, true), .un .not (.t 36)⟩,
  ⟨some 38, none, .pick (.t 34) (.t 37) (.c (.bool false))⟩,
  ⟨some 39, none, .mov (.t 38)⟩,
  ⟨some 40, some (39, true), .load 17 true (.t 5)⟩,
  ⟨some 41, some (39, true), .faddr 1 (.t 11)⟩,
  ⟨some 42, some (39, true), .load 1 false (.t 41)⟩,
  ⟨some 43, some (39, true), .mov (.t 4)⟩,
  ⟨some 44, some (39, true), .faddr 2 (.t 11)⟩,
  ⟨some 45, some (39, true), .load 1 false (.t 44)⟩,
  ⟨some 46, some (39, true), .call (.c (.fn 116 [] [])) [.t 40, .t 42, .t 43, .t 45]⟩,
  ⟨some 47, some (39, true), .load 17 true (.t 5)⟩,
  ⟨some 48, some (39, true), .faddr 1 (.t 11)⟩,
  ⟨some 49, some (39, true), .load 1 false (.t 48)⟩,
  ⟨some 50, some (39, true), .mov (.t 4)⟩,
  ⟨some 51, some (39, true), .faddr 2 (.t 12)⟩,
  ⟨some 52, some (39, true), .load 1 false (.t 51)⟩,
  ⟨some 53, some (39, true), .call (.c (.fn 116 [] [])) [.t 47, .t 49, .t 50, .t 52]⟩,
  ⟨some 54, some (39, true), .bin .eql (.t 46) (.t 53)⟩,
  ⟨some 55, none, .pick (.t 39) (.t 54) (.c (.bool false))⟩,
  ⟨some 10, none, .mov (.t 55)⟩]
def c103_a5 : List (List Nat) := [[], [0], [], [2], [1, 3], [4], [5], [6, 5], [7, 5], [5, 8], [9, 5], [10], [11, 10], [12, 10], [10, 13], [14, 10], [15], [15], [17, 15], [15], [15], [20, 15], [16, 18, 19, 21, 15, 15], [15], [15], [24, 15], [15], [15], [27, 15], [23, 25, 26, 28, 22, 15], [22, 29, 15], [15, 30], [31, 29, 0, 1, 2, 3, 4, 5, 6, 7, 8, 9, 10, 11, 12, 13, 14, 15, 16, 17, 18, 19, 20, 21, 22, 23, 24, 25, 26, 27, 28, 29, 30, 31]]
abbrev c103_m5 : List Am.Mark := [⟨false, 0, 0⟩, ⟨false, 0, 0⟩, ⟨false, 0, 0⟩, ⟨false, 0, 0⟩, ⟨false, 0, 0⟩, ⟨false, 0, 0⟩, ⟨false, 0, 0⟩, ⟨false, 0, 0⟩, ⟨false, 0, 0⟩, ⟨false, 0, 0⟩, ⟨false, 0, 0⟩, ⟨false, 0, 0⟩, ⟨false, 0, 0⟩, ⟨false, 0, 0⟩, ⟨false, 0, 0⟩, ⟨false, 0, 0⟩, ⟨false, 0, 0⟩, ⟨false, 0, 0⟩, ⟨false, 0, 0⟩, ⟨false, 0, 0⟩, ⟨false, 0, 0⟩, ⟨false, 0, 0⟩, ⟨false, 0, 0⟩, ⟨false, 0, 0⟩, ⟨false, 0, 0⟩, ⟨false, 0, 0⟩, ⟨false, 0, 0⟩, ⟨false, 0, 0⟩, ⟨false, 0, 0⟩, ⟨false, 0, 0⟩, ⟨false, 0, 0⟩, ⟨false, 0, 0⟩, ⟨false, 0, 0⟩]
theorem c103_d5 : drawFine c103_r5 c103_a5 c103_m5 = true := by decide +kernel
abbrev c103 : IR := .seq (.reg c103_r1) (.seq (.dreg c103_r2 c103_a2) (.seq (.seq (.reg c103_r3) (.cond (.t 23) (.seq (.reg c103_r4) (.ret)) (.skip))) (.seq (.dreg c103_r5 c103_a5) (.ret))))
abbrev F103 : FnA := ⟨56, c103, [.t 10]⟩
theorem ok103 : cFn Tryz.prog 103 = some F103 := by kernel_rfl
theorem hb103 : HasBody Tryz.prog 103 := ⟨_, Tryz.func103, by kernel_rfl, by kernel_rfl⟩
/-! slices.IndexFunc:KeyT -/
abbrev c104_r1 : List Ins := [
  ⟨some 4, none, .mov (.c (.int .i64 0))⟩]
abbrev c104_r2 : List Ins := [
  ⟨some 6, none, .mov (.t 0)⟩,
  ⟨some 7, none, .len (.t 6)⟩,
  ⟨some 8, none, .mov (.c (.int .i64 0))⟩]
abbrev c104_r3 : List Ins := [
  ⟨some 9, none, .bin .lss (.t 8) (.t 7)⟩]
abbrev c104_r4 : List Ins := [
  ⟨some 10, none, .mov (.t 8)⟩,
  ⟨some 5, none, .mov (.t 10)⟩]
abbrev c104_r5 : List Ins := [
  ⟨some 11, none, .mov (.t 1)⟩,
  ⟨some 12, none, .mov (.t 0)⟩,
  ⟨some 13, none, .mov (.t 5)⟩,
  ⟨some 14, none, .iaddr 2 (.t 12) (.t 13)⟩,
  ⟨some 15, none, .load 2 true (.t 14)⟩,
  ⟨some 16, none, .call (.t 11) [.t 15]⟩]
abbrev c104_r6 : List Ins := [
  ⟨some 17, none, .mov (.t 5)⟩,
  ⟨some 4, none, .mov (.t 17)⟩]
abbrev c104_r7 : List Ins := [
  ⟨some 18, none, .bin .add (.t 8) (.c (.int .i64 1))⟩,
  ⟨some 8, none, .mov (.t 18)⟩]
abbrev c104_l8 : IR := .seq (.reg c104_r3) (.seq (.cond (.t 9) (.skip) (.exit 0)) (.seq (.blk 1 (.seq (.reg c104_r4) (.seq (.reg c104_r5) (.cond (.t 16) (.seq (.reg c104_r6) (.ret)) (.skip))))) (.reg c104_r7)))
abbrev c104_r9 : List Ins := [
  ⟨some 4, none, .mov (.c (.int .i64 (-1)))⟩]
abbrev c104 : IR := .seq (.reg c104_r1) (.seq (.seq (.reg c104_r2) (.blk 0 (.loop c104_l8))) (.seq (.reg c104_r9) (.ret)))
abbrev F104 : FnA := ⟨19, c104, [.t 4]⟩
theorem ok104 : cFn Tryz.prog 104 = some F104 := by kernel_rfl
theorem hb104 : HasBody Tryz.prog 104 := ⟨_, Tryz.func104, by kernel_rfl, by kernel_rfl⟩
/-! slices.insertionSortCmpFunc:Span -/
abbrev c105_r1 : List Ins := [
  ⟨some 10, none, .mov (.t 1)⟩,
  ⟨some 11, none, .bin .add (.t 10) (.c (.int .i64 1))⟩,
  ⟨some 8, none, .mov (.t 11)⟩]
abbrev c105_r2 : List Ins := [
  ⟨some 12, none, .mov (.t 8)⟩,
  ⟨some 13, none, .mov (.t 2)⟩,
  ⟨some 14, none, .bin .lss (.t 12) (.t 13)⟩]
abbrev c105_r3 : List Ins := [
  ⟨some 17, none, .mov (.t 8)⟩,
  ⟨some 9, none, .mov (.t 17)⟩]
abbrev c105_r4 : List Ins := [
  ⟨some 18, none, .mov (.t 9)⟩,
  ⟨some 19, none, .mov (.t 1)⟩,
  ⟨some 20, none, .bin .gtr (.t 18) (.t 19)⟩,
  ⟨some 21, none, .mov (.t 20)⟩,
  ⟨some 22, some (21, true), .mov (.t 3)⟩,
  ⟨some 23, some (21, true), .mov (.t 0)⟩,
  ⟨some 24, some (21, true), .mov (.t 9)⟩,
  ⟨some 25, some (21, true), .iaddr 2 (.t 23) (.t 24)⟩,
  ⟨some 26, some (21, true), .load 2 true (.t 25)⟩,
  ⟨some 27, some (21, true), .mov (.t 0)⟩,
  ⟨some 28, some (21, true), .mov (.t 9)⟩,
  ⟨some 29, some (21, true), .bin .sub (.t 28) (.c (.int .i64 1))⟩,
  ⟨some 30, some (21, true), .iaddr 2 (.t 27) (.t 29)⟩,
  ⟨some 31, some (21, true), .load 2 true (.t 30)⟩,
  ⟨some 32, some (21, true), .call (.t 22) [.t 26, .t 31]⟩,
  ⟨some 33, some (21, true), .bin .lss (.t 32) (.c (.int .i64 0))⟩,
  ⟨some 34, none, .pick (.t 21) (.t 33) (.c (.bool false))⟩]
def c105_a4 : List (List Nat) := [[], [], [0, 1], [2], [3], [3], [3], [5, 6, 3], [7, 3], [3], [3], [10, 3], [9, 11, 3], [12, 3], [4, 8, 13, 3, 3], [14, 3], [3, 15]]
abbrev c105_m4 : List Am.Mark := [⟨false, 0, 1⟩, ⟨false, 0, 1⟩, ⟨false, 0, 1⟩, ⟨false, 0, 0⟩, ⟨false, 0, 0⟩, ⟨false, 0, 1⟩, ⟨false, 0, 1⟩, ⟨false, 0, 1⟩, ⟨false, 0, 0⟩, ⟨false, 0, 1⟩, ⟨false, 0, 1⟩, ⟨false, 0, 1⟩, ⟨false, 0, 1⟩, ⟨false, 0, 0⟩, ⟨true, 0, 1⟩, ⟨false, 1, 1⟩, ⟨false, 1, 1⟩]
theorem c105_d4 : drawFine c105_r4 c105_a4 c105_m4 = true := by decide +kernel
abbrev c105_r5 : List Ins := [
  ⟨some 37, none, .mov (.t 0)⟩,
  ⟨some 38, none, .mov (.t 9)⟩,
  ⟨some 39, none, .mov (.t 0)⟩,
  ⟨some 40, none, .mov (.t 9)⟩,
  ⟨some 41, none, .bin .sub (.t 40) (.c (.int .i64 1))⟩,
  ⟨some 42, none, .mov (.t 0)⟩,
  ⟨some 43, none, .mov (.t 9)⟩,
  ⟨some 44, none, .bin .sub (.t 43) (.c (.int .i64 1))⟩,
  ⟨some 45, none, .iaddr 2 (.t 42) (.t 44)⟩,
  ⟨some 46, none, .load 2 true (.t 45)⟩,
  ⟨some 47, none, .mov (.t 0)⟩,
  ⟨some 48, none, .mov (.t 9)⟩,
  ⟨some 49, none, .iaddr 2 (.t 47) (.t 48)⟩,
  ⟨some 50, none, .load 2 true (.t 49)⟩,
  ⟨some 51, none, .iaddr 2 (.t 37) (.t 38)⟩,
  ⟨none, none, .store 2 (.t 51) (.t 46)⟩,
  ⟨some 52, none, .iaddr 2 (.t 39) (.t 41)⟩,
  ⟨none, none, .store 2 (.t 52) (.t 50)⟩]
def c105_a5 : List (List Nat) := [[], [], [], [], [3], [], [], [6], [5, 7], [8], [], [], [10, 11], [12], [0, 1, 0, 1, 5, 6, 7, 8, 9, 13], [14, 9, 0, 1, 5, 6, 7, 8, 9, 13], [2, 4, 0, 1, 2, 3, 4, 5, 6, 7, 8, 9, 10, 11, 12, 13, 14, 15], [16, 13, 15, 0, 1, 2, 3, 4, 5, 6, 7, 8, 9, 10, 11, 12, 13, 14, 15]]
abbrev c105_m5 : List Am.Mark := [⟨false, 0, 0⟩, ⟨false, 0, 0⟩, ⟨false, 0, 1⟩, ⟨false, 0, 1⟩, ⟨false, 0, 1⟩, ⟨false, 0, 0⟩, ⟨false, 0, 0⟩, ⟨false, 0, 0⟩, ⟨false, 0, 0⟩, ⟨false, 0, 0⟩, ⟨false, 0, 1⟩, ⟨false, 0, 1⟩, ⟨false, 0, 1⟩, ⟨false, 0, 0⟩, ⟨false, 0, 0⟩, ⟨true, 0, 1⟩, ⟨false, 1, 1⟩, ⟨true, 1, 2⟩]
theorem c105_d5 : drawFine c105_r5 c105_a5 c105_m5 = true := by decide +kernel
abbrev c105_r6 : List Ins := [
  ⟨some 35, none, .mov (.t 9)⟩,
  ⟨some 36, none, .bin .sub (.t 35) (.c (.int .i64 1))⟩,
  ⟨some 9, none, .mov (.t 36)⟩]
abbrev c105_l7 : IR := .seq (.seq (.dreg c105_r4 c105_a4) (.cond (.t 34) (.skip) (.exit 2))) (.seq (.blk 3 (.dreg c105_r5 c105_a5)) (.reg c105_r6))
abbrev c105_r8 : List Ins := [
  ⟨some 15, none, .mov (.t 8)⟩,
  ⟨some 16, none, .bin .add (.t 15) (.c (.int .i64 1))⟩,
  ⟨some 8, none, .mov (.t 16)⟩]
abbrev c105_l9 : IR := .seq (.seq (.reg c105_r2) (.cond (.t 14) (.skip) (.exit 0))) (.seq (.blk 1 (.seq (.reg c105_r3) (.blk 2 (.loop c105_l7)))) (.reg c105_r8))
abbrev c105 : IR := .seq (.reg c105_r1) (.blk 0 (.loop c105_l9))
abbrev F105 : FnA := ⟨53, c105, []⟩
theorem ok105 : cFn Tryz.prog 105 = some F105 := by kernel_rfl
theorem hb105 : HasBody Tryz.prog 105 := ⟨_, Tryz.func105, by kernel_rfl, by kernel_rfl⟩
/-! slices.heapSortCmpFunc:Span -/
abbrev c106_r1 : List Ins := [
  ⟨some 13, none, .mov (.t 1)⟩,
  ⟨some 8, none, .mov (.t 13)⟩]
abbrev c106_r2 : List Ins := [
  ⟨some 9, none, .mov (.c (.int .i64 0))⟩]
abbrev c106_r3 : List Ins := [
  ⟨some 14, none, .mov (.t 2)⟩,
  ⟨some 15, none, .mov (.t 1)⟩,
  ⟨some 16, none, .bin .sub (.t 14) (.t 15)⟩,
  ⟨some 10, none, .mov (.t 16)⟩]
abbrev c106_r4 : List Ins := [
  ⟨some 17, none, .mov (.t 10)⟩,
  ⟨some 18, none, .bin .sub (.t 17) (.c (.int .i64 1))⟩,
  ⟨some 19, none, .bin .quo (.t 18) (.c (.int .i64 2))⟩,
  ⟨some 11, none, .mov (.t 19)⟩]
abbrev c106_r5 : List Ins := [
  ⟨some 20, none, .mov (.t 11)⟩,
  ⟨some 21, none, .bin .geq (.t 20) (.c (.int .i64 0))⟩]
abbrev c106_r6 : List Ins := [
  ⟨some 24, none, .mov (.t 0)⟩,
  ⟨some 25, none, .mov (.t 11)⟩,
  ⟨some 26, none, .mov (.t 10)⟩,
  ⟨some 27, none, .mov (.t 8)⟩,
  ⟨some 28, none, .mov (.t 3)⟩,
  ⟨some 29, none, .call (.c (.fn 117 [] [])) [.t 24, .t 25, .t 26, .t 27, .t 28]⟩]
abbrev c106_r7 : List Ins := [
  ⟨some 22, none, .mov (.t 11)⟩,
  ⟨some 23, none, .bin .sub (.t 22) (.c (.int .i64 1))⟩,
  ⟨some 11, none, .mov (.t 23)⟩]
abbrev c106_l8 : IR := .seq (.seq (.reg c106_r5) (.cond (.t 21) (.skip) (.exit 0))) (.seq (.blk 1 (.reg c106_r6)) (.reg c106_r7))
abbrev c106_r9 : List Ins := [
  ⟨some 30, none, .mov (.t 10)⟩,
  ⟨some 31, none, .bin .sub (.t 30) (.c (.int .i64 1))⟩,
  ⟨some 12, none, .mov (.t 31)⟩]
abbrev c106_r10 : List Ins := [
  ⟨some 32, none, .mov (.t 12)⟩,
  ⟨some 33, none, .bin .geq (.t 32) (.c (.int .i64 0))⟩]
abbrev c106_r11 : List Ins := [
  ⟨some 36, none, .mov (.t 0)⟩,
  ⟨some 37, none, .mov (.t 8)⟩,
  ⟨some 38, none, .mov (.t 0)⟩,
  ⟨some 39, none, .mov (.t 8)⟩,
  ⟨some 40, none, .mov (.t 12)⟩,
  ⟨some 41, none, .bin .add (.t 39) (.t 40)⟩,
  ⟨some 42, none, .mov (.t 0)⟩,
  ⟨some 43, none, .mov (.t 8)⟩,
  ⟨some 44, none, .mov (.t 12)⟩,
  ⟨some 45, none, .bin .add (.t 43) (.t 44)⟩,
  ⟨some 46, none, .iaddr 2 (.t 42) (.t 45)⟩,
  ⟨some 47, none, .load 2 true (.t 46)⟩,
  ⟨some 48, none, .mov (.t 0)⟩,
  ⟨some 49, none, .mov (.t 8)⟩,
  ⟨some 50, none, .iaddr 2 (.t 48) (.t 49)⟩,
  ⟨some 51, none, .load 2 true (.t 50)⟩,
  ⟨some 52, none, .iaddr 2 (.t 36) (.t 37)⟩,
  ⟨none, none, .store 2 (.t 52) (.t 47)⟩,
  ⟨some 53, none, .iaddr 2 (.t 38) (.t 41)⟩,
  ⟨none, none, .store 2 (.t 53) (.t 51)⟩]
def c106_a11 : List (List Nat) := [[], [], [], [], [], [3, 4], [], [], [], [7, 8], [6, 9], [10], [], [], [12, 13], [14], [0, 1, 0, 1, 6, 7, 8, 9, 10, 11, 15], [16, 11, 0, 1, 6, 7, 8, 9, 10, 11, 15], [2, 5, 0, 1, 2, 3, 4, 5, 6, 7, 8, 9, 10, 11, 12, 13, 14, 15, 16, 17], [18, 15, 17, 0, 1, 2, 3, 4, 5, 6, 7, 8, 9, 10, 11, 12, 13, 14, 15, 16, 17]]
abbrev c106_m11 : List Am.Mark := [⟨false, 0, 0⟩, ⟨false, 0, 0⟩, ⟨false, 0, 1⟩, ⟨false, 0, 1⟩, ⟨false, 0, 1⟩, ⟨false, 0, 1⟩, ⟨false, 0, 0⟩, ⟨false, 0, 0⟩, ⟨false, 0, 0⟩, ⟨false, 0, 0⟩, ⟨false, 0, 0⟩, ⟨false, 0, 0⟩, ⟨false, 0, 1⟩, ⟨false, 0, 1⟩, ⟨false, 0, 1⟩, ⟨false, 0, 0⟩, ⟨false, 0, 0⟩, ⟨true, 0, 1⟩, ⟨false, 1, 1⟩, ⟨true, 1, 2⟩]
theorem c106_d11 : drawFine c106_r11 c106_a11 c106_m11 = true := by decide +kernel
abbrev c106_r12 : List Ins := [
  ⟨some 54, none, .mov (.t 0)⟩,
  ⟨some 55, none, .mov (.t 9)⟩,
  ⟨some 56, none, .mov (.t 12)⟩,
  ⟨some 57, none, .mov (.t 8)⟩,
  ⟨some 58, none, .mov (.t 3)⟩,
  ⟨some 59, none, .call (.c (.fn 117 [] [])) [.t 54, .t 55, .t 56, .t 57, .t 58]⟩]
abbrev c106_r13 : List Ins := [
  ⟨some 34, none, .mov (.t 12)⟩,
  ⟨some 35, none, .bin .sub (.t 34) (.c (.int .i64 1))⟩,
  ⟨some 12, none, .mov (.t 35)⟩]
abbrev c106_l14 : IR := .seq (.seq (.reg c106_r10) (.cond (.t 33) (.skip) (.exit 2))) (.seq (.blk 3 (.seq (.dreg c106_r11 c106_a11) (.reg c106_r12))) (.reg c106_r13))
abbrev c106 : IR := .seq (.reg c106_r1) (.seq (.reg c106_r2) (.seq (.reg c106_r3) (.seq (.seq (.reg c106_r4) (.blk 0 (.loop c106_l8))) (.seq (.reg c106_r9) (.blk 2 (.loop c106_l14))))))
abbrev F106 : FnA := ⟨60, c106, []⟩
theorem ok106 : cFn Tryz.prog 106 = some F106 := by kernel_rfl
theorem hb106 : HasBody Tryz.prog 106 := ⟨_, Tryz.func106, by kernel_rfl, by kernel_rfl⟩
/-! slices.breakPatternsCmpFunc:Span -/
abbrev c107_r1 : List Ins := [
  ⟨some 13, none, .mov (.t 2)⟩,
  ⟨some 14, none, .mov (.t 1)⟩,
  ⟨some 15, none, .bin .sub (.t 13) (.t 14)⟩,
  ⟨some 8, none, .mov (.t 15)⟩]
abbrev c107_r2 : List Ins := [
  ⟨some 16, none, .mov (.t 8)⟩,
  ⟨some 17, none, .bin .geq (.t 16) (.c (.int .i64 8))⟩]
abbrev c107_r3 : List Ins := [
  ⟨some 18, none, .mov (.t 8)⟩,
  ⟨some 19, none, .conv .u64 (.t 18)⟩,
  ⟨some 9, none, .alloc [.int .u64 0]⟩,
  ⟨none, none, .store 1 (.t 9) (.t 19)⟩]
abbrev c107_r4 : List Ins := [
  ⟨some 20, none, .mov (.t 8)⟩,
  ⟨some 21, none, .call (.c (.fn 118 [] [])) [.t 20]⟩,
  ⟨some 10, none, .mov (.t 21)⟩]
abbrev c107_r5 : List Ins := [
  ⟨some 22, none, .mov (.t 1)⟩,
  ⟨some 23, none, .mov (.t 8)⟩,
  ⟨some 24, none, .bin .quo (.t 23) (.c (.int .i64 4))⟩,
  ⟨some 25, none, .bin .mul (.t 24) (.c (.int .i64 2))⟩,
  ⟨some 26, none, .bin .add (.t 22) (.t 25)⟩,
  ⟨some 27, none, .bin .sub (.t 26) (.c (.int .i64 1))⟩,
  ⟨some 11, none, .mov (.t 27)⟩]
abbrev c107_r6 : List Ins := [
  ⟨some 28, none, .mov (.t 11)⟩,
  ⟨some 29, none, .mov (.t 1)⟩,
  ⟨some 30, none, .mov (.t 8)⟩,
  ⟨some 31, none, .bin .quo (.t 30) (.c (.int .i64 4))⟩,
  ⟨some 32, none, .bin .mul (.t 31) (.c (.int .i64 2))⟩,
  ⟨some 33, none, .bin .add (.t 29) (.t 32)⟩,
  ⟨some 34, none, .bin .add (.t 33) (.c (.int .i64 1))⟩,
  ⟨some 35, none, .bin .leq (.t 28) (.t 34)⟩]
abbrev c107_r7 : List Ins := [
  ⟨some 38, none, .call (.c (.fn 119 [] [])) [.t 9]⟩,
  ⟨some 39, none, .mov (.t 10)⟩,
  ⟨some 40, none, .bin .sub (.t 39) (.c (.int .u64 1))⟩,
  ⟨some 41, none, .bin .and (.t 38) (.t 40)⟩,
  ⟨some 42, none, .conv .i64 (.t 41)⟩,
  ⟨some 12, none, .mov (.t 42)⟩]
abbrev c107_r8 : List Ins := [
  ⟨some 43, none, .mov (.t 12)⟩,
  ⟨some 44, none, .mov (.t 8)⟩,
  ⟨some 45, none, .bin .geq (.t 43) (.t 44)⟩]
abbrev c107_r9 : List Ins := [
  ⟨some 46, none, .mov (.t 12)⟩,
  ⟨some 47, none, .mov (.t 8)⟩,
  ⟨some 48, none, .bin .sub (.t 46) (.t 47)⟩,
  ⟨some 12, none, .mov (.t 48)⟩]
abbrev c107_r10 : List Ins := [
  ⟨some 49, none, .mov (.t 0)⟩,
  ⟨some 50, none, .mov (.t 11)⟩,
  ⟨some 51, none, .mov (.t 0)⟩,
  ⟨some 52, none, .mov (.t 1)⟩,
  ⟨some 53, none, .mov (.t 12)⟩,
  ⟨some 54, none, .bin .add (.t 52) (.t 53)⟩,
  ⟨some 55, none, .mov (.t 0)⟩,
  ⟨some 56, none, .mov (.t 1)⟩,
  ⟨some 57, none, .mov (.t 12)⟩,
  ⟨some 58, none, .bin .add (.t 56) (.t 57)⟩,
  ⟨some 59, none, .iaddr 2 (.t 55) (.t 58)⟩,
  ⟨some 60, none, .load 2 true (.t 59)⟩,
  ⟨some 61, none, .mov (.t 0)⟩,
  ⟨some 62, none, .mov (.t 11)⟩,
  ⟨some 63, none, .iaddr 2 (.t 61) (.t 62)⟩,
  ⟨some 64, none, .load 2 true (.t 63)⟩,
  ⟨some 65, none, .iaddr 2 (.t 49) (.t 50)⟩,
  ⟨none, none, .store 2 (.t 65) (.t 60)⟩,
  ⟨some 66, none, .iaddr 2 (.t 51) (.t 54)⟩,
  ⟨none, none, .store 2 (.t 66) (.t 64)⟩]
def c107_a10 : List (List Nat) := [[], [], [], [], [], [3, 4], [], [], [], [7, 8], [6, 9], [10], [], [], [12, 13], [14], [0, 1, 0, 1, 6, 7, 8, 9, 10, 11, 15], [16, 11, 0, 1, 6, 7, 8, 9, 10, 11, 15], [2, 5, 0, 1, 2, 3, 4, 5, 6, 7, 8, 9, 10, 11, 12, 13, 14, 15, 16, 17], [18, 15, 17, 0, 1, 2, 3, 4, 5, 6, 7, 8, 9, 10, 11, 12, 13, 14, 15, 16, 17]]
abbrev c107_m10 : List Am.Mark := [⟨false, 0, 0⟩, ⟨false, 0, 0⟩, ⟨false, 0, 1⟩, ⟨false, 0, 1⟩, ⟨false, 0, 1⟩, ⟨false, 0, 1⟩, ⟨false, 0, 0⟩, ⟨false, 0, 0⟩, ⟨false, 0, 0⟩, ⟨false, 0, 0⟩, ⟨false, 0, 0⟩, ⟨false, 0, 0⟩, ⟨false, 0, 1⟩, ⟨false, 0, 1⟩, ⟨false, 0, 1⟩, ⟨false, 0, 0⟩, ⟨false, 0, 0⟩, ⟨true, 0, 1⟩, ⟨false, 1, 1⟩, ⟨true, 1, 2⟩]
theorem c107_d10 : drawFine c107_r10 c107_a10 c107_m10 = true := by decide +kernel
abbrev c107_r11 : List Ins := [
  ⟨some 36, none, .mov (.t 11)⟩,
  ⟨some 37, none, .bin .add (.t 36) (.c (.int .i64 1))⟩,
  ⟨some 11, none, .mov (.t 37)⟩]
abbrev c107_l12 : IR := .seq (.seq (.reg c107_r6) (.cond (.t 35) (.skip) (.exit 0))) (.seq (.blk 1 (.seq (.reg c107_r7) (.seq (.seq (.reg c107_r8) (.cond (.t 45) (.reg c107_r9) (.skip))) (.dreg c107_r10 c107_a10)))) (.reg c107_r11))
abbrev c107 : IR := .seq (.reg c107_r1) (.seq (.reg c107_r2) (.cond (.t 17) (.seq (.reg c107_r3) (.seq (.reg c107_r4) (.seq (.reg c107_r5) (.blk 0 (.loop c107_l12))))) (.skip)))
abbrev F107 : FnA := ⟨67, c107, []⟩
theorem ok107 : cFn Tryz.prog 107 = some F107 := by kernel_rfl
theorem hb107 : HasBody Tryz.prog 107 := ⟨_, Tryz.func107, by kernel_rfl, by kernel_rfl⟩
/-! slices.choosePivotCmpFunc:Span -/
abbrev c108_r1 : List Ins := [
  ⟨some 8, none, .mov (.c (.int .i64 0))⟩,
  ⟨some 9, none, .mov (.c (.int .i64 0))⟩]
abbrev c108_r2 : List Ins := [
  ⟨some 15, none, .mov (.t 2)⟩,
  ⟨some 16, none, .mov (.t 1)⟩,
  ⟨some 17, none, .bin .sub (.t 15) (.t 16)⟩,
  ⟨some 10, none, .mov (.t 17)⟩]
abbrev c108_r3 : List Ins := [
  ⟨some 11, none, .alloc [.int .i64 0]⟩]
abbrev c108_r4 : List Ins := [
  ⟨some 18, none, .mov (.t 1)⟩,
  ⟨some 19, none, .mov (.t 10)⟩,
  ⟨some 20, none, .bin .quo (.t 19) (.c (.int .i64 4))⟩,
  ⟨some 21, none, .bin .mul (.t 20) (.c (.int .i64 1))⟩,
  ⟨some 22, none, .bin .add (.t 18) (.t 21)⟩,
  ⟨some 12, none, .mov (.t 22)⟩]
abbrev c108_r5 : List Ins := [
  ⟨some 23, none, .mov (.t 1)⟩,
  ⟨some 24, none, .mov (.t 10)⟩,
  ⟨some 25, none, .bin .quo (.t 24) (.c (.int .i64 4))⟩,
  ⟨some 26, none, .bin .mul (.t 25) (.c (.int .i64 2))⟩,
  ⟨some 27, none, .bin .add (.t 23) (.t 26)⟩,
  ⟨some 13, none, .mov (.t 27)⟩]
abbrev c108_r6 : List Ins := [
  ⟨some 28, none, .mov (.t 1)⟩,
  ⟨some 29, none, .mov (.t 10)⟩,
  ⟨some 30, none, .bin .quo (.t 29) (.c (.int .i64 4))⟩,
  ⟨some 31, none, .bin .mul (.t 30) (.c (.int .i64 3))⟩,
  ⟨some 32, none, .bin .add (.t 28) (.t 31)⟩,
  ⟨some 14, none, .mov (.t 32)⟩]
abbrev c108_r7 : List Ins := [
  ⟨some 33, none, .mov (.t 10)⟩,
  ⟨some 34, none, .bin .geq (.t 33) (.c (.int .i64 8))⟩]
abbrev c108_r8 : List Ins := [
  ⟨some 35, none, .mov (.t 10)⟩,
  ⟨some 36, none, .bin .geq (.t 35) (.c (.int .i64 50))⟩]
abbrev c108_r9 : List Ins := [
  ⟨some 37, none, .mov (.t 0)⟩,
  ⟨some 38, none, .mov (.t 12)⟩,
  ⟨some 39, none, .mov (.t 3)⟩,
  ⟨some 40, none, .call (.c (.fn 120 [] [])) [.t 37, .t 38, .t 11, .t 39]⟩,
  ⟨some 12, none, .mov (.t 40)⟩]
abbrev c108_r10 : List Ins := [
  ⟨some 41, none, .mov (.t 0)⟩,
  ⟨some 42, none, .mov (.t 13)⟩,
  ⟨some 43, none, .mov (.t 3)⟩,
  ⟨some 44, none, .call (.c (.fn 120 [] [])) [.t 41, .t 42, .t 11, .t 43]⟩,
  ⟨some 13, none, .mov (.t 44)⟩]
abbrev c108_r11 : List Ins := [
  ⟨some 45, none, .mov (.t 0)⟩,
  ⟨some 46, none, .mov (.t 14)⟩,
  ⟨some 47, none, .mov (.t 3)⟩,
  ⟨some 48, none, .call (.c (.fn 120 [] [])) [.t 45, .t 46, .t 11, .t 47]⟩,
  ⟨some 14, none, .mov (.t 48)⟩]
abbrev c108_r12 : List Ins := [
  ⟨some 49, none, .mov (.t 0)⟩,
  ⟨some 50, none, .mov (.t 12)⟩,
  ⟨some 51, none, .mov (.t 13)⟩,
  ⟨some 52, none, .mov (.t 14)⟩,
  ⟨some 53, none, .mov (.t 3)⟩,
  ⟨some 54, none, .call (.c (.fn 121 [] [])) [.t 49, .t 50, .t 51, .t 52, .t 11, .t 53]⟩,
  ⟨some 13, none, .mov (.t 54)⟩]
abbrev c108_r13 : List Ins := [
  ⟨some 55, none, .load 1 false (.t 11)⟩]
abbrev c108_r14 : List Ins := [
  ⟨some 58, none, .bin .eql (.t 55) (.c (.int .i64 0))⟩,
  ⟨some 57, none, .mov (.t 58)⟩]
abbrev c108_r15 : List Ins := [
  ⟨some 59, none, .mov (.t 13)⟩,
  ⟨some 8, none, .mov (.t 59)⟩,
  ⟨some 9, none, .mov (.c (.int .i64 1))⟩]
abbrev c108_r16 : List Ins := [
  ⟨some 61, none, .bin .eql (.t 55) (.c (.int .i64 12))⟩,
  ⟨some 60, none, .mov (.t 61)⟩]
abbrev c108_r17 : List Ins := [
  ⟨some 62, none, .mov (.t 13)⟩,
  ⟨some 8, none, .mov (.t 62)⟩,
  ⟨some 9, none, .mov (.c (.int .i64 2))⟩]
abbrev c108_r18 : List Ins := [
  ⟨some 56, none, .mov (.t 13)⟩,
  ⟨some 8, none, .mov (.t 56)⟩,
  ⟨some 9, none, .mov (.c (.int .i64 0))⟩]
abbrev c108 : IR := .seq (.reg c108_r1) (.seq (.reg c108_r2) (.seq (.reg c108_r3) (.seq (.reg c108_r4) (.seq (.reg c108_r5) (.seq (.reg c108_r6) (.seq (.seq (.reg c108_r7) (.cond (.t 34) (.seq (.seq (.reg c108_r8) (.cond (.t 36) (.seq (.reg c108_r9) (.seq (.reg c108_r10) (.reg c108_r11))) (.skip))) (.reg c108_r12)) (.skip))) (.seq (.reg c108_r13) (.blk 0 (.seq (.reg c108_r14) (.cond (.t 57) (.seq (.reg c108_r15) (.ret)) (.seq (.reg c108_r16) (.cond (.t 60) (.seq (.reg c108_r17) (.ret)) (.seq (.reg c108_r18) (.ret))))))))))))))
abbrev F108 : FnA := ⟨63, c108, [.t 8, .t 9]⟩
theorem ok108 : cFn Tryz.prog 108 = some F108 := by kernel_rfl
theorem hb108 : HasBody Tryz.prog 108 := ⟨_, Tryz.func108, by kernel_rfl, by kernel_rfl⟩
/-! slices.reverseRangeCmpFunc:Span -/
abbrev c109_r1 : List Ins := [
  ⟨some 10, none, .mov (.t 1)⟩,
  ⟨some 8, none, .mov (.t 10)⟩]
abbrev c109_r2 : List Ins := [
  ⟨some 11, none, .mov (.t 2)⟩,
  ⟨some 12, none, .bin .sub (.t 11) (.c (.int .i64 1))⟩,
  ⟨some 9, none, .mov (.t 12)⟩]
abbrev c109_r3 : List Ins := [
  ⟨some 13, none, .mov (.t 8)⟩,
  ⟨some 14, none, .mov (.t 9)⟩,
  ⟨some 15, none, .bin .lss (.t 13) (.t 14)⟩]
abbrev c109_r4 : List Ins := [
  ⟨some 16, none, .mov (.t 0)⟩,
  ⟨some 17, none, .mov (.t 8)⟩,
  ⟨some 18, none, .mov (.t 0)⟩,
  ⟨some 19, none, .mov (.t 9)⟩,
  ⟨some 20, none, .mov (.t 0)⟩,
  ⟨some 21, none, .mov (.t 9)⟩,
  ⟨some 22, none, .iaddr 2 (.t 20) (.t 21)⟩,
  ⟨some 23, none, .load 2 true (.t 22)⟩,
  ⟨some 24, none, .mov (.t 0)⟩,
  ⟨some 25, none, .mov (.t 8)⟩,
  ⟨some 26, none, .iaddr 2 (.t 24) (.t 25)⟩,
  ⟨some 27, none, .load 2 true (.t 26)⟩,
  ⟨some 28, none, .iaddr 2 (.t 16) (.t 17)⟩,
  ⟨none, none, .store 2 (.t 28) (.t 23)⟩,
  ⟨some 29, none, .iaddr 2 (.t 18) (.t 19)⟩,
  ⟨none, none, .store 2 (.t 29) (.t 27)⟩]
def c109_a4 : List (List Nat) := [[], [], [], [], [], [], [4, 5], [6], [], [], [8, 9], [10], [0, 1, 0, 1, 4, 5, 6, 7, 11], [12, 7, 0, 1, 4, 5, 6, 7, 11], [2, 3, 0, 1, 2, 3, 4, 5, 6, 7, 8, 9, 10, 11, 12, 13], [14, 11, 13, 0, 1, 2, 3, 4, 5, 6, 7, 8, 9, 10, 11, 12, 13]]
abbrev c109_m4 : List Am.Mark := [⟨false, 0, 0⟩, ⟨false, 0, 0⟩, ⟨false, 0, 1⟩, ⟨false, 0, 1⟩, ⟨false, 0, 0⟩, ⟨false, 0, 0⟩, ⟨false, 0, 0⟩, ⟨false, 0, 0⟩, ⟨false, 0, 1⟩, ⟨false, 0, 1⟩, ⟨false, 0, 1⟩, ⟨false, 0, 0⟩, ⟨false, 0, 0⟩, ⟨true, 0, 1⟩, ⟨false, 1, 1⟩, ⟨true, 1, 2⟩]
theorem c109_d4 : drawFine c109_r4 c109_a4 c109_m4 = true := by decide +kernel
abbrev c109_r5 : List Ins := [
  ⟨some 30, none, .mov (.t 8)⟩,
  ⟨some 31, none, .bin .add (.t 30) (.c (.int .i64 1))⟩,
  ⟨some 8, none, .mov (.t 31)⟩]
abbrev c109_r6 : List Ins := [
  ⟨some 32, none, .mov (.t 9)⟩,
  ⟨some 33, none, .bin .sub (.t 32) (.c (.int .i64 1))⟩,
  ⟨some 9, none, .mov (.t 33)⟩]
abbrev c109_l7 : IR := .seq (.seq (.reg c109_r3) (.cond (.t 15) (.skip) (.exit 0))) (.blk 1 (.seq (.dreg c109_r4 c109_a4) (.seq (.reg c109_r5) (.reg c109_r6))))
abbrev c109 : IR := .seq (.reg c109_r1) (.seq (.reg c109_r2) (.blk 0 (.loop c109_l7)))
abbrev F109 : FnA := ⟨34, c109, []⟩
theorem ok109 : cFn Tryz.prog 109 = some F109 := by kernel_rfl
theorem hb109 : HasBody Tryz.prog 109 := ⟨_, Tryz.func109, by kernel_rfl, by kernel_rfl⟩

end Go.Proofs
