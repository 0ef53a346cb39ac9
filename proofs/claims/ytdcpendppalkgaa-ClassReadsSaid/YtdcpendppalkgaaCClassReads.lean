/- The code of the functions that the statement reaches, as the abstract machine reads it. -/
import Derived.Test.YtdcpendppalkgaaK4
import Derived.Test.YtdcpendppalkgaaProg
namespace Go.Proofs
open Go Go.RowKit Go.Am

/-! law11.ClassReads -/
abbrev c3_r1 : List Ins := [
  ⟨some 2, none, .mov (.c (.bool false))⟩]
abbrev c3_r2 : List Ins := [
  ⟨some 9, none, .call (.c (.fn 9 [] [])) []⟩,
  ⟨some 10, none, .un .not (.t 9)⟩]
abbrev c3_r3 : List Ins := [
  ⟨some 2, none, .mov (.c (.bool false))⟩]
abbrev c3_r4 : List Ins := [
  ⟨some 11, none, .mov (.t 0)⟩,
  ⟨some 12, none, .len (.t 11)⟩,
  ⟨some 13, none, .bin .gtr (.t 12) (.c (.int .i64 800))⟩]
abbrev c3_r5 : List Ins := [
  ⟨some 2, none, .mov (.c (.bool true))⟩]
abbrev c3_r6 : List Ins := [
  ⟨some 14, none, .mov (.t 0)⟩,
  ⟨some 15, none, .call (.c (.fn 10 [] [])) [.t 14]⟩,
  ⟨some 16, none, .mov (.t 0)⟩,
  ⟨some 17, none, .build [.sl .full [], .bool false] [(0, (1, .t 16))]⟩,
  ⟨some 18, none, .box (.t 17)⟩,
  ⟨some 3, none, .mov (.t 15)⟩,
  ⟨some 4, none, .mov (.t 18)⟩]
abbrev c3_r7 : List Ins := [
  ⟨some 20, none, .mov (.t 3)⟩,
  ⟨some 21, none, .call (.c (.fn 11 [] [])) [.t 20]⟩,
  ⟨some 19, none, .mov (.t 21)⟩,
  ⟨some 22, none, .ext (.t 19) 0⟩,
  ⟨some 23, none, .ext (.t 19) 1⟩,
  ⟨some 5, none, .alloc [.str ⟨#[]⟩, .int .i64 0, .sl .full [], .sl .full [], .bool false]⟩,
  ⟨none, none, .store 5 (.t 5) (.t 22)⟩,
  ⟨some 6, none, .mov (.t 23)⟩]
abbrev c3_r8 : List Ins := [
  ⟨some 25, none, .mov (.t 4)⟩,
  ⟨some 26, none, .call (.c (.fn 12 [] [])) [.t 25]⟩,
  ⟨some 24, none, .mov (.t 26)⟩,
  ⟨some 27, none, .ext (.t 24) 0⟩,
  ⟨some 28, none, .ext (.t 24) 1⟩,
  ⟨some 7, none, .alloc [.str ⟨#[]⟩, .int .i64 0, .sl .full [], .sl .full [], .bool false]⟩,
  ⟨none, none, .store 5 (.t 7) (.t 27)⟩,
  ⟨some 8, none, .mov (.t 28)⟩]
abbrev c3_r9 : List Ins := [
  ⟨some 29, none, .mov (.t 6)⟩,
  ⟨some 30, none, .mov (.t 8)⟩,
  ⟨some 31, none, .eq [.b] false false (.t 29) (.t 30)⟩,
  ⟨some 32, none, .mov (.t 31)⟩,
  ⟨some 33, some (32, true), .load 5 true (.t 5)⟩,
  ⟨some 34, some (32, true), .load 5 true (.t 7)⟩,
  ⟨some 35, some (32, true), .call (.c (.fn 13 [] [])) [.t 33, .t 34]⟩,
  ⟨some 36, none, .pick (.t 32) (.t 35) (.c (.bool false))⟩,
  ⟨some 37, none, .mov (.t 36)⟩,
  ⟨some 38, some (37, true), .mov (.t 3)⟩,
  ⟨some 39, some (37, true), .call (.c (.fn 14 [] [])) [.t 38]⟩,
  ⟨some 40, some (37, true), .mov (.t 4)⟩,
  ⟨some 41, some (37, true), .nilck (.t 40)⟩,
  ⟨some 42, some (37, true), .faddr 1 (.t 41)⟩,
  ⟨some 43, some (37, true), .load 1 false (.t 42)⟩,
  ⟨some 44, some (37, true), .un .not (.t 43)⟩,
  ⟨some 45, some (37, true), .eq [.b] false false (.t 39) (.t 44)⟩,
  ⟨some 46, none, .pick (.t 37) (.t 45) (.c (.bool false))⟩,
  ⟨some 47, none, .mov (.t 46)⟩,
  ⟨some 48, some (47, true), .mov (.t 3)⟩,
  ⟨some 49, some (47, true), .call (.c (.fn 15 [] [])) [.t 48]⟩,
  ⟨some 50, some (47, true), .mov (.t 4)⟩,
  ⟨some 51, some (47, true), .nilck (.t 50)⟩,
  ⟨some 52, some (47, true), .faddr 1 (.t 51)⟩,
  ⟨some 53, some (47, true), .load 1 false (.t 52)⟩,
  ⟨some 54, some (47, true), .un .not (.t 53)⟩,
  ⟨some 55, some (47, true), .mov (.t 54)⟩,
  ⟨some 56, some (55, true), .mov (.t 4)⟩,
  ⟨some 57, some (55, true), .nilck (.t 56)⟩,
  ⟨some 58, some (55, true), .faddr 0 (.t 57)⟩,
  ⟨some 59, some (55, true), .load 1 false (.t 58)⟩,
  ⟨some 60, some (55, true), .len (.t 59)⟩,
  ⟨some 61, some (55, true), .bin .eql (.t 60) (.c (.int .i64 0))⟩,
  ⟨some 62, some (47, true), .pick (.t 55) (.t 61) (.c (.bool false))⟩,
  ⟨some 63, some (47, true), .eq [.b] false false (.t 49) (.t 62)⟩,
  ⟨some 64, none, .pick (.t 47) (.t 63) (.c (.bool false))⟩,
  ⟨some 2, none, .mov (.t 64)⟩]
def c3_a9 : List (List Nat) := [[], [], [0, 1], [2], [3], [3], [4, 5, 3, 3], [3, 6], [7, 6], [8], [9, 8, 8], [8], [11, 8], [12, 8], [13, 8], [14, 8], [10, 15, 8], [8, 16], [17, 10], [18], [19, 18, 18], [18], [21, 18], [22, 18], [23, 18], [24, 18], [25, 20, 18], [26], [27, 26], [28, 26], [29, 26], [30, 26], [31, 26], [26, 32, 18], [20, 33, 18], [18, 34], [35, 26, 0, 1, 2, 3, 4, 5, 6, 7, 8, 9, 10, 11, 12, 13, 14, 15, 16, 17, 18, 19, 20, 21, 22, 23, 24, 25, 26, 27, 28, 29, 30, 31, 32, 33, 34, 35]]
abbrev c3_m9 : List Am.Mark := [⟨false, 0, 2⟩, ⟨false, 0, 2⟩, ⟨false, 0, 2⟩, ⟨false, 0, 2⟩, ⟨false, 0, 2⟩, ⟨false, 0, 2⟩, ⟨false, 0, 2⟩, ⟨false, 0, 2⟩, ⟨false, 0, 0⟩, ⟨false, 0, 0⟩, ⟨true, 0, 2⟩, ⟨false, 0, 2⟩, ⟨false, 0, 2⟩, ⟨false, 0, 2⟩, ⟨false, 0, 2⟩, ⟨false, 0, 2⟩, ⟨false, 1, 2⟩, ⟨false, 1, 2⟩, ⟨false, 1, 1⟩, ⟨false, 1, 1⟩, ⟨true, 1, 2⟩, ⟨false, 1, 2⟩, ⟨false, 1, 2⟩, ⟨false, 1, 2⟩, ⟨false, 1, 2⟩, ⟨false, 1, 2⟩, ⟨false, 2, 2⟩, ⟨false, 2, 2⟩, ⟨false, 2, 2⟩, ⟨false, 2, 2⟩, ⟨false, 2, 2⟩, ⟨false, 2, 2⟩, ⟨false, 2, 2⟩, ⟨false, 2, 2⟩, ⟨false, 2, 2⟩, ⟨false, 2, 2⟩, ⟨false, 2, 2⟩]
theorem c3_d9 : drawFine c3_r9 c3_a9 c3_m9 = true := by decide +kernel
abbrev c3 : IR := .seq (.reg c3_r1) (.seq (.seq (.reg c3_r2) (.cond (.t 10) (.seq (.reg c3_r3) (.ret)) (.skip))) (.seq (.seq (.reg c3_r4) (.cond (.t 13) (.seq (.reg c3_r5) (.ret)) (.skip))) (.seq (.reg c3_r6) (.seq (.reg c3_r7) (.seq (.reg c3_r8) (.seq (.dreg c3_r9 c3_a9) (.ret)))))))
abbrev F3 : FnA := ⟨65, c3, [.t 2]⟩
theorem ok3 : cFn Try.prog 3 = some F3 := by kernel_rfl
theorem hb3 : HasBody Try.prog 3 := ⟨_, Try.func3, by kernel_rfl, by kernel_rfl⟩
/-! law11.alive -/
abbrev c9_r1 : List Ins := [
  ⟨some 0, none, .mov (.c (.bool false))⟩]
abbrev c9_r2 : List Ins := [
  ⟨some 1, none, .build [.int .i64 0, .int .i64 0, .int .i64 0, .int .i64 0, .int .i64 0, .int .i64 0, .int .i64 0, .int .i64 0, .int .i64 0] [(0, (1, .c (.int .i64 5)))]⟩,
  ⟨some 2, none, .bsl 9 1 [.int .i64 0, .int .i64 0, .int .i64 0, .int .i64 0, .int .i64 0, .int .i64 0, .int .i64 0, .int .i64 0, .int .i64 0] [(0, .t 1)]⟩,
  ⟨some 3, none, .build [.sl .full [], .sl .full []] [(0, (1, .t 2))]⟩,
  ⟨some 4, none, .bsl 2 1 [.sl .full [], .sl .full []] [(0, .t 3)]⟩,
  ⟨some 5, none, .build [.sl .full [], .sl .full []] []⟩,
  ⟨some 6, none, .bsl 2 1 [.sl .full [], .sl .full []] [(0, .t 5)]⟩,
  ⟨some 7, none, .build [.str ⟨#[]⟩, .int .i64 0, .sl .full [], .sl .full [], .bool false] [(0, (1, .c (.str ⟨#[97]⟩))), (2, (1, .t 4)), (3, (1, .t 6))]⟩,
  ⟨some 8, none, .call (.c (.fn 33 [] [])) [.t 7]⟩,
  ⟨some 0, none, .mov (.t 8)⟩]
abbrev c9 : IR := .seq (.reg c9_r1) (.seq (.reg c9_r2) (.ret))
abbrev F9 : FnA := ⟨9, c9, [.t 0]⟩
theorem ok9 : cFn Try.prog 9 = some F9 := by kernel_rfl
theorem hb9 : HasBody Try.prog 9 := ⟨_, Try.func9, by kernel_rfl, by kernel_rfl⟩
/-! codes.NewReader -/
abbrev c10_r1 : List Ins := [
  ⟨some 2, none, .mov (.c .nilptr)⟩]
abbrev c10_r2 : List Ins := [
  ⟨some 3, none, .mov (.t 0)⟩,
  ⟨some 4, none, .build [.sl .full [], .bool false] [(0, (1, .t 3))]⟩,
  ⟨some 5, none, .box (.t 4)⟩,
  ⟨some 2, none, .mov (.t 5)⟩]
abbrev c10 : IR := .seq (.reg c10_r1) (.seq (.reg c10_r2) (.ret))
abbrev F10 : FnA := ⟨6, c10, [.t 2]⟩
theorem ok10 : cFn Try.prog 10 = some F10 := by kernel_rfl
theorem hb10 : HasBody Try.prog 10 := ⟨_, Try.func10, by kernel_rfl, by kernel_rfl⟩
/-! class.Get -/
abbrev c11_r1 : List Ins := [
  ⟨some 2, none, .alloc [.str ⟨#[]⟩, .int .i64 0, .sl .full [], .sl .full [], .bool false]⟩,
  ⟨some 3, none, .mov (.c (.bool false))⟩]
abbrev c11_r2 : List Ins := [
  ⟨some 5, none, .mov (.t 0)⟩,
  ⟨some 6, none, .call (.c (.fn 34 [] [])) [.t 5]⟩,
  ⟨some 7, none, .mov (.t 0)⟩,
  ⟨some 8, none, .call (.c (.fn 35 [] [])) [.t 7, .c (.int .i64 3)]⟩,
  ⟨some 9, none, .build [.str ⟨#[]⟩, .int .i64 0, .sl .full [], .sl .full [], .bool false] [(0, (1, .t 6)), (1, (1, .t 8))]⟩,
  ⟨some 4, none, .alloc [.str ⟨#[]⟩, .int .i64 0, .sl .full [], .sl .full [], .bool false]⟩,
  ⟨none, none, .store 5 (.t 4) (.t 9)⟩]
abbrev c11_r3 : List Ins := [
  ⟨some 10, none, .mov (.t 0)⟩,
  ⟨some 11, none, .call (.c (.fn 35 [] [])) [.t 10, .c (.int .i64 4)]⟩,
  ⟨some 12, none, .mov (.c (.int .i64 0))⟩]
abbrev c11_r4 : List Ins := [
  ⟨some 13, none, .bin .lss (.t 12) (.t 11)⟩]
abbrev c11_r5 : List Ins := [
  ⟨some 14, none, .faddr 2 (.t 4)⟩,
  ⟨some 15, none, .load 1 false (.t 14)⟩,
  ⟨some 16, none, .mov (.t 0)⟩,
  ⟨some 17, none, .call (.c (.fn 36 [] [])) [.t 16]⟩,
  ⟨some 18, none, .bsl 2 1 [.sl .full [], .sl .full []] [(0, .t 17)]⟩,
  ⟨some 19, none, .append 2 48 (.t 15) (.t 18)⟩,
  ⟨some 20, none, .faddr 2 (.t 4)⟩,
  ⟨none, none, .store 1 (.t 20) (.t 19)⟩]
def c11_a5 : List (List Nat) := [[], [0], [], [2], [3], [1, 4, 3], [0, 1, 2, 3, 4, 5], [6, 5, 5, 0, 1, 2, 3, 4, 5]]
abbrev c11_m5 : List Am.Mark := [⟨false, 0, 2⟩, ⟨false, 0, 1⟩, ⟨false, 0, 0⟩, ⟨true, 0, 1⟩, ⟨false, 1, 1⟩, ⟨true, 1, 2⟩, ⟨false, 2, 2⟩, ⟨true, 2, 3⟩]
theorem c11_d5 : drawFine c11_r5 c11_a5 c11_m5 = true := by decide +kernel
abbrev c11_r6 : List Ins := [
  ⟨some 21, none, .faddr 3 (.t 4)⟩,
  ⟨some 22, none, .load 1 false (.t 21)⟩,
  ⟨some 23, none, .mov (.t 0)⟩,
  ⟨some 24, none, .call (.c (.fn 36 [] [])) [.t 23]⟩,
  ⟨some 25, none, .bsl 2 1 [.sl .full [], .sl .full []] [(0, .t 24)]⟩,
  ⟨some 26, none, .append 2 48 (.t 22) (.t 25)⟩,
  ⟨some 27, none, .faddr 3 (.t 4)⟩,
  ⟨none, none, .store 1 (.t 27) (.t 26)⟩]
def c11_a6 : List (List Nat) := [[], [0], [], [2], [3], [1, 4, 3], [0, 1, 2, 3, 4, 5], [6, 5, 5, 0, 1, 2, 3, 4, 5]]
abbrev c11_m6 : List Am.Mark := [⟨false, 0, 2⟩, ⟨false, 0, 1⟩, ⟨false, 0, 0⟩, ⟨true, 0, 1⟩, ⟨false, 1, 1⟩, ⟨true, 1, 2⟩, ⟨false, 2, 2⟩, ⟨true, 2, 3⟩]
theorem c11_d6 : drawFine c11_r6 c11_a6 c11_m6 = true := by decide +kernel
abbrev c11_r7 : List Ins := [
  ⟨some 28, none, .bin .add (.t 12) (.c (.int .i64 1))⟩,
  ⟨some 12, none, .mov (.t 28)⟩]
abbrev c11_l8 : IR := .seq (.reg c11_r4) (.seq (.cond (.t 13) (.skip) (.exit 0)) (.seq (.blk 1 (.seq (.dreg c11_r5 c11_a5) (.dreg c11_r6 c11_a6))) (.reg c11_r7)))
abbrev c11_r9 : List Ins := [
  ⟨some 29, none, .mov (.t 0)⟩,
  ⟨some 30, none, .call (.c (.fn 37 [] [])) [.t 29]⟩,
  ⟨some 31, none, .faddr 4 (.t 4)⟩,
  ⟨none, none, .store 1 (.t 31) (.t 30)⟩]
abbrev c11_r10 : List Ins := [
  ⟨some 32, none, .mov (.t 0)⟩,
  ⟨some 33, none, .call (.c (.fn 14 [] [])) [.t 32]⟩,
  ⟨some 34, none, .un .not (.t 33)⟩,
  ⟨some 35, none, .mov (.t 34)⟩,
  ⟨some 36, some (35, false), .load 5 true (.t 4)⟩,
  ⟨some 37, some (35, false), .call (.c (.fn 33 [] [])) [.t 36]⟩,
  ⟨some 38, some (35, false), .un .not (.t 37)⟩,
  ⟨some 39, none, .pick (.t 35) (.c (.bool true)) (.t 38)⟩]
abbrev c11_r11 : List Ins := [
  ⟨some 40, none, .mov (.t 0)⟩,
  ⟨some 41, none, .call (.c (.fn 35 [] [])) [.t 40, .c (.int .i64 (-1))]⟩]
abbrev c11_r12 : List Ins := [
  ⟨some 42, none, .build [.str ⟨#[]⟩, .int .i64 0, .sl .full [], .sl .full [], .bool false] []⟩,
  ⟨none, none, .store 5 (.t 2) (.t 42)⟩,
  ⟨some 3, none, .mov (.c (.bool false))⟩]
abbrev c11_r13 : List Ins := [
  ⟨some 43, none, .load 5 true (.t 4)⟩,
  ⟨none, none, .store 5 (.t 2) (.t 43)⟩,
  ⟨some 3, none, .mov (.c (.bool true))⟩]
abbrev c11 : IR := .seq (.reg c11_r1) (.seq (.reg c11_r2) (.seq (.seq (.reg c11_r3) (.blk 0 (.loop c11_l8))) (.seq (.reg c11_r9) (.seq (.seq (.reg c11_r10) (.cond (.t 39) (.seq (.reg c11_r11) (.seq (.reg c11_r12) (.ret))) (.skip))) (.seq (.reg c11_r13) (.ret))))))
abbrev F11 : FnA := ⟨44, c11, [.cell 2 5 true, .t 3]⟩
theorem ok11 : cFn Try.prog 11 = some F11 := by kernel_rfl
theorem hb11 : HasBody Try.prog 11 := ⟨_, Try.func11, by kernel_rfl, by kernel_rfl⟩
/-! ref11.Get -/
abbrev c12_r1 : List Ins := [
  ⟨some 2, none, .alloc [.str ⟨#[]⟩, .int .i64 0, .sl .full [], .sl .full [], .bool false]⟩,
  ⟨some 3, none, .mov (.c (.bool false))⟩]
abbrev c12_r2 : List Ins := [
  ⟨some 4, none, .alloc [.str ⟨#[]⟩, .int .i64 0, .sl .full [], .sl .full [], .bool false]⟩]
abbrev c12_r3 : List Ins := [
  ⟨some 9, none, .mov (.t 0)⟩,
  ⟨some 10, none, .call (.c (.fn 38 [] [])) [.t 9, .c (.int .i64 3), .c (.int .i64 0)]⟩,
  ⟨some 11, none, .fld 4 1 false (.t 10)⟩,
  ⟨some 12, none, .faddr 0 (.t 4)⟩,
  ⟨none, none, .store 1 (.t 12) (.t 11)⟩]
abbrev c12_r4 : List Ins := [
  ⟨some 13, none, .mov (.t 0)⟩,
  ⟨some 14, none, .call (.c (.fn 38 [] [])) [.t 13, .c (.int .i64 0), .c (.int .i64 3)]⟩,
  ⟨some 15, none, .fld 1 1 false (.t 14)⟩,
  ⟨some 16, none, .faddr 1 (.t 4)⟩,
  ⟨none, none, .store 1 (.t 16) (.t 15)⟩]
abbrev c12_r5 : List Ins := [
  ⟨some 17, none, .mov (.t 0)⟩,
  ⟨some 18, none, .call (.c (.fn 38 [] [])) [.t 17, .c (.int .i64 0), .c (.int .i64 4)]⟩,
  ⟨some 19, none, .fld 1 1 false (.t 18)⟩,
  ⟨some 5, none, .mov (.t 19)⟩]
abbrev c12_r6 : List Ins := [
  ⟨some 6, none, .mov (.c (.int .i64 0))⟩]
abbrev c12_r7 : List Ins := [
  ⟨some 20, none, .mov (.t 6)⟩,
  ⟨some 21, none, .mov (.t 5)⟩,
  ⟨some 22, none, .bin .lss (.t 20) (.t 21)⟩]
abbrev c12_r8 : List Ins := [
  ⟨some 7, none, .alloc [.sl .full [], .sl .full []]⟩,
  ⟨some 8, none, .alloc [.sl .full [], .sl .full []]⟩]
abbrev c12_r9 : List Ins := [
  ⟨some 25, none, .mov (.t 0)⟩,
  ⟨some 26, none, .call (.c (.fn 39 [] [])) [.t 25]⟩,
  ⟨some 27, none, .faddr 0 (.t 7)⟩,
  ⟨none, none, .store 1 (.t 27) (.t 26)⟩]
abbrev c12_r10 : List Ins := [
  ⟨some 28, none, .mov (.t 0)⟩,
  ⟨some 29, none, .call (.c (.fn 40 [] [])) [.t 28]⟩,
  ⟨some 30, none, .faddr 1 (.t 7)⟩,
  ⟨none, none, .store 1 (.t 30) (.t 29)⟩]
abbrev c12_r11 : List Ins := [
  ⟨some 31, none, .mov (.t 0)⟩,
  ⟨some 32, none, .call (.c (.fn 39 [] [])) [.t 31]⟩,
  ⟨some 33, none, .faddr 0 (.t 8)⟩,
  ⟨none, none, .store 1 (.t 33) (.t 32)⟩]
abbrev c12_r12 : List Ins := [
  ⟨some 34, none, .mov (.t 0)⟩,
  ⟨some 35, none, .call (.c (.fn 40 [] [])) [.t 34]⟩,
  ⟨some 36, none, .faddr 1 (.t 8)⟩,
  ⟨none, none, .store 1 (.t 36) (.t 35)⟩]
abbrev c12_r13 : List Ins := [
  ⟨some 37, none, .faddr 2 (.t 4)⟩,
  ⟨some 38, none, .load 1 false (.t 37)⟩,
  ⟨some 39, none, .load 2 true (.t 7)⟩,
  ⟨some 40, none, .bsl 2 1 [.sl .full [], .sl .full []] [(0, .t 39)]⟩,
  ⟨some 41, none, .append 2 48 (.t 38) (.t 40)⟩,
  ⟨some 42, none, .faddr 2 (.t 4)⟩,
  ⟨none, none, .store 1 (.t 42) (.t 41)⟩]
abbrev c12_r14 : List Ins := [
  ⟨some 43, none, .faddr 3 (.t 4)⟩,
  ⟨some 44, none, .load 1 false (.t 43)⟩,
  ⟨some 45, none, .load 2 true (.t 8)⟩,
  ⟨some 46, none, .bsl 2 1 [.sl .full [], .sl .full []] [(0, .t 45)]⟩,
  ⟨some 47, none, .append 2 48 (.t 44) (.t 46)⟩,
  ⟨some 48, none, .faddr 3 (.t 4)⟩,
  ⟨none, none, .store 1 (.t 48) (.t 47)⟩]
abbrev c12_r15 : List Ins := [
  ⟨some 23, none, .mov (.t 6)⟩,
  ⟨some 24, none, .bin .add (.t 23) (.c (.int .i64 1))⟩,
  ⟨some 6, none, .mov (.t 24)⟩]
abbrev c12_l16 : IR := .seq (.seq (.reg c12_r7) (.cond (.t 22) (.skip) (.exit 0))) (.seq (.blk 1 (.seq (.reg c12_r8) (.seq (.reg c12_r9) (.seq (.reg c12_r10) (.seq (.reg c12_r11) (.seq (.reg c12_r12) (.seq (.reg c12_r13) (.reg c12_r14)))))))) (.reg c12_r15))
abbrev c12_r17 : List Ins := [
  ⟨some 49, none, .mov (.t 0)⟩,
  ⟨some 50, none, .call (.c (.fn 38 [] [])) [.t 49, .c (.int .i64 2), .c (.int .i64 0)]⟩,
  ⟨some 51, none, .fld 1 1 false (.t 50)⟩,
  ⟨some 52, none, .bin .eql (.t 51) (.c (.int .i64 1))⟩,
  ⟨some 53, none, .faddr 4 (.t 4)⟩,
  ⟨none, none, .store 1 (.t 53) (.t 52)⟩]
abbrev c12_r18 : List Ins := [
  ⟨some 54, none, .mov (.t 0)⟩,
  ⟨some 55, none, .nilck (.t 54)⟩,
  ⟨some 56, none, .faddr 1 (.t 55)⟩,
  ⟨some 57, none, .load 1 false (.t 56)⟩,
  ⟨some 58, none, .mov (.t 57)⟩,
  ⟨some 59, some (58, false), .load 5 true (.t 4)⟩,
  ⟨some 60, some (58, false), .call (.c (.fn 41 [] [])) [.t 59]⟩,
  ⟨some 61, some (58, false), .un .not (.t 60)⟩,
  ⟨some 62, none, .pick (.t 58) (.c (.bool true)) (.t 61)⟩]
abbrev c12_r19 : List Ins := [
  ⟨some 63, none, .mov (.t 0)⟩,
  ⟨some 64, none, .nilck (.t 63)⟩,
  ⟨some 65, none, .faddr 1 (.t 64)⟩,
  ⟨none, none, .store 1 (.t 65) (.c (.bool true))⟩]
abbrev c12_r20 : List Ins := [
  ⟨some 66, none, .build [.str ⟨#[]⟩, .int .i64 0, .sl .full [], .sl .full [], .bool false] []⟩,
  ⟨none, none, .store 5 (.t 2) (.t 66)⟩,
  ⟨some 3, none, .mov (.c (.bool false))⟩]
abbrev c12_r21 : List Ins := [
  ⟨some 67, none, .load 5 true (.t 4)⟩,
  ⟨none, none, .store 5 (.t 2) (.t 67)⟩,
  ⟨some 3, none, .mov (.c (.bool true))⟩]
abbrev c12 : IR := .seq (.reg c12_r1) (.seq (.reg c12_r2) (.seq (.reg c12_r3) (.seq (.reg c12_r4) (.seq (.reg c12_r5) (.seq (.seq (.reg c12_r6) (.blk 0 (.loop c12_l16))) (.seq (.reg c12_r17) (.seq (.seq (.reg c12_r18) (.cond (.t 62) (.seq (.reg c12_r19) (.seq (.reg c12_r20) (.ret))) (.skip))) (.seq (.reg c12_r21) (.ret)))))))))
abbrev F12 : FnA := ⟨68, c12, [.cell 2 5 true, .t 3]⟩
theorem ok12 : cFn Try.prog 12 = some F12 := by kernel_rfl
theorem hb12 : HasBody Try.prog 12 := ⟨_, Try.func12, by kernel_rfl, by kernel_rfl⟩
/-! ref11.Same -/
abbrev c13_r1 : List Ins := [
  ⟨some 2, none, .box (.t 0)⟩,
  ⟨some 3, none, .box (.t 1)⟩,
  ⟨some 4, none, .mov (.c (.bool false))⟩]
abbrev c13_r2 : List Ins := [
  ⟨some 5, none, .faddr 0 (.t 2)⟩,
  ⟨some 6, none, .load 1 false (.t 5)⟩,
  ⟨some 7, none, .faddr 0 (.t 3)⟩,
  ⟨some 8, none, .load 1 false (.t 7)⟩,
  ⟨some 9, none, .bin .eql (.t 6) (.t 8)⟩,
  ⟨some 10, none, .mov (.t 9)⟩,
  ⟨some 11, some (10, true), .faddr 1 (.t 2)⟩,
  ⟨some 12, some (10, true), .load 1 false (.t 11)⟩,
  ⟨some 13, some (10, true), .faddr 1 (.t 3)⟩,
  ⟨some 14, some (10, true), .load 1 false (.t 13)⟩,
  ⟨some 15, some (10, true), .bin .eql (.t 12) (.t 14)⟩,
  ⟨some 16, none, .pick (.t 10) (.t 15) (.c (.bool false))⟩,
  ⟨some 17, none, .mov (.t 16)⟩,
  ⟨some 18, some (17, true), .faddr 4 (.t 2)⟩,
  ⟨some 19, some (17, true), .load 1 false (.t 18)⟩,
  ⟨some 20, some (17, true), .faddr 4 (.t 3)⟩,
  ⟨some 21, some (17, true), .load 1 false (.t 20)⟩,
  ⟨some 22, some (17, true), .eq [.b] false false (.t 19) (.t 21)⟩,
  ⟨some 23, none, .pick (.t 17) (.t 22) (.c (.bool false))⟩,
  ⟨some 24, none, .mov (.t 23)⟩,
  ⟨some 25, some (24, true), .faddr 2 (.t 2)⟩,
  ⟨some 26, some (24, true), .load 1 false (.t 25)⟩,
  ⟨some 27, some (24, true), .faddr 2 (.t 3)⟩,
  ⟨some 28, some (24, true), .load 1 false (.t 27)⟩,
  ⟨some 29, some (24, true), .call (.c (.fn 42 [] [])) [.t 26, .t 28]⟩,
  ⟨some 30, none, .pick (.t 24) (.t 29) (.c (.bool false))⟩,
  ⟨some 31, none, .mov (.t 30)⟩,
  ⟨some 32, some (31, true), .faddr 3 (.t 2)⟩,
  ⟨some 33, some (31, true), .load 1 false (.t 32)⟩,
  ⟨some 34, some (31, true), .faddr 3 (.t 3)⟩,
  ⟨some 35, some (31, true), .load 1 false (.t 34)⟩,
  ⟨some 36, some (31, true), .call (.c (.fn 42 [] [])) [.t 33, .t 35]⟩,
  ⟨some 37, none, .pick (.t 31) (.t 36) (.c (.bool false))⟩,
  ⟨some 4, none, .mov (.t 37)⟩]
abbrev c13 : IR := .seq (.reg c13_r1) (.seq (.reg c13_r2) (.ret))
abbrev F13 : FnA := ⟨38, c13, [.t 4]⟩
theorem ok13 : cFn Try.prog 13 = some F13 := by kernel_rfl
theorem hb13 : HasBody Try.prog 13 := ⟨_, Try.func13, by kernel_rfl, by kernel_rfl⟩
/-! codes.Reader.Ok -/
abbrev c14_r1 : List Ins := [
  ⟨some 2, none, .mov (.c (.bool false))⟩]
abbrev c14_r2 : List Ins := [
  ⟨some 3, none, .mov (.t 0)⟩,
  ⟨some 4, none, .nilck (.t 3)⟩,
  ⟨some 5, none, .faddr 1 (.t 4)⟩,
  ⟨some 6, none, .load 1 false (.t 5)⟩,
  ⟨some 7, none, .un .not (.t 6)⟩,
  ⟨some 2, none, .mov (.t 7)⟩]
abbrev c14 : IR := .seq (.reg c14_r1) (.seq (.reg c14_r2) (.ret))
abbrev F14 : FnA := ⟨8, c14, [.t 2]⟩
theorem ok14 : cFn Try.prog 14 = some F14 := by kernel_rfl
theorem hb14 : HasBody Try.prog 14 := ⟨_, Try.func14, by kernel_rfl, by kernel_rfl⟩
/-! codes.Reader.End -/
abbrev c15_r1 : List Ins := [
  ⟨some 2, none, .mov (.c (.bool false))⟩]
abbrev c15_r2 : List Ins := [
  ⟨some 3, none, .mov (.t 0)⟩,
  ⟨some 4, none, .nilck (.t 3)⟩,
  ⟨some 5, none, .faddr 1 (.t 4)⟩,
  ⟨some 6, none, .load 1 false (.t 5)⟩,
  ⟨some 7, none, .un .not (.t 6)⟩,
  ⟨some 8, none, .mov (.t 7)⟩,
  ⟨some 9, some (8, true), .mov (.t 0)⟩,
  ⟨some 10, some (8, true), .nilck (.t 9)⟩,
  ⟨some 11, some (8, true), .faddr 0 (.t 10)⟩,
  ⟨some 12, some (8, true), .load 1 false (.t 11)⟩,
  ⟨some 13, some (8, true), .len (.t 12)⟩,
  ⟨some 14, some (8, true), .bin .eql (.t 13) (.c (.int .i64 0))⟩,
  ⟨some 15, none, .pick (.t 8) (.t 14) (.c (.bool false))⟩,
  ⟨some 2, none, .mov (.t 15)⟩]
abbrev c15 : IR := .seq (.reg c15_r1) (.seq (.reg c15_r2) (.ret))
abbrev F15 : FnA := ⟨16, c15, [.t 2]⟩
theorem ok15 : cFn Try.prog 15 = some F15 := by kernel_rfl
theorem hb15 : HasBody Try.prog 15 := ⟨_, Try.func15, by kernel_rfl, by kernel_rfl⟩
/-! class.May -/
abbrev c33_r1 : List Ins := [
  ⟨some 1, none, .box (.t 0)⟩,
  ⟨some 2, none, .alloc [.bool false]⟩]
abbrev c33_r2 : List Ins := [
  ⟨some 6, none, .faddr 2 (.t 1)⟩,
  ⟨some 7, none, .load 1 false (.t 6)⟩,
  ⟨some 8, none, .len (.t 7)⟩,
  ⟨some 3, none, .mov (.t 8)⟩]
abbrev c33_r3 : List Ins := [
  ⟨some 9, none, .faddr 0 (.t 1)⟩,
  ⟨some 10, none, .load 1 false (.t 9)⟩,
  ⟨some 11, none, .lenS (.t 10)⟩,
  ⟨some 12, none, .bin .lss (.t 11) (.c (.int .i64 1))⟩,
  ⟨some 13, none, .mov (.t 12)⟩,
  ⟨some 14, some (13, false), .faddr 0 (.t 1)⟩,
  ⟨some 15, some (13, false), .load 1 false (.t 14)⟩,
  ⟨some 16, some (13, false), .lenS (.t 15)⟩,
  ⟨some 17, some (13, false), .bin .gtr (.t 16) (.c (.int .i64 16))⟩,
  ⟨some 18, none, .pick (.t 13) (.c (.bool true)) (.t 17)⟩,
  ⟨some 19, none, .mov (.t 18)⟩,
  ⟨some 20, some (19, false), .faddr 1 (.t 1)⟩,
  ⟨some 21, some (19, false), .load 1 false (.t 20)⟩,
  ⟨some 22, some (19, false), .bin .lss (.t 21) (.c (.int .i64 0))⟩,
  ⟨some 23, none, .pick (.t 19) (.c (.bool true)) (.t 22)⟩,
  ⟨some 24, none, .mov (.t 23)⟩,
  ⟨some 25, some (24, false), .faddr 1 (.t 1)⟩,
  ⟨some 26, some (24, false), .load 1 false (.t 25)⟩,
  ⟨some 27, some (24, false), .bin .gtr (.t 26) (.c (.int .i64 3))⟩,
  ⟨some 28, none, .pick (.t 24) (.c (.bool true)) (.t 27)⟩,
  ⟨some 29, none, .mov (.t 28)⟩,
  ⟨some 30, some (29, false), .mov (.t 3)⟩,
  ⟨some 31, some (29, false), .bin .lss (.t 30) (.c (.int .i64 1))⟩,
  ⟨some 32, none, .pick (.t 29) (.c (.bool true)) (.t 31)⟩,
  ⟨some 33, none, .mov (.t 32)⟩,
  ⟨some 34, some (33, false), .mov (.t 3)⟩,
  ⟨some 35, some (33, false), .bin .gtr (.t 34) (.c (.int .i64 4))⟩,
  ⟨some 36, none, .pick (.t 33) (.c (.bool true)) (.t 35)⟩,
  ⟨some 37, none, .mov (.t 36)⟩,
  ⟨some 38, some (37, false), .faddr 3 (.t 1)⟩,
  ⟨some 39, some (37, false), .load 1 false (.t 38)⟩,
  ⟨some 40, some (37, false), .len (.t 39)⟩,
  ⟨some 41, some (37, false), .mov (.t 3)⟩,
  ⟨some 42, some (37, false), .bin .neq (.t 40) (.t 41)⟩,
  ⟨some 43, none, .pick (.t 37) (.c (.bool true)) (.t 42)⟩]
abbrev c33_r4 : List Ins := [
  ⟨none, none, .store 1 (.t 2) (.c (.bool false))⟩]
abbrev c33_r5 : List Ins := [
  ⟨some 44, none, .load 5 true (.t 1)⟩,
  ⟨some 45, none, .call (.c (.fn 86 [] [])) [.t 44]⟩]
abbrev c33_r6 : List Ins := [
  ⟨some 4, none, .alloc [.sl .full [], .sl .full []]⟩,
  ⟨none, none, .store 2 (.t 4) (.t 46)⟩]
abbrev c33_r7 : List Ins := [
  ⟨some 5, none, .alloc [.sl .full [], .sl .full []]⟩,
  ⟨none, none, .store 2 (.t 5) (.t 47)⟩]
abbrev c33_r8 : List Ins := [
  ⟨some 48, none, .faddr 0 (.t 4)⟩,
  ⟨some 49, none, .load 1 false (.t 48)⟩,
  ⟨some 50, none, .faddr 1 (.t 1)⟩,
  ⟨some 51, none, .load 1 false (.t 50)⟩,
  ⟨some 52, none, .call (.c (.fn 46 [] [])) [.t 49, .t 51]⟩,
  ⟨some 53, none, .un .not (.t 52)⟩,
  ⟨some 54, none, .mov (.t 53)⟩,
  ⟨some 55, some (54, false), .faddr 1 (.t 4)⟩,
  ⟨some 56, some (54, false), .load 1 false (.t 55)⟩,
  ⟨some 57, some (54, false), .faddr 1 (.t 1)⟩,
  ⟨some 58, some (54, false), .load 1 false (.t 57)⟩,
  ⟨some 59, some (54, false), .call (.c (.fn 47 [] [])) [.t 56, .t 58]⟩,
  ⟨some 60, some (54, false), .un .not (.t 59)⟩,
  ⟨some 61, none, .pick (.t 54) (.c (.bool true)) (.t 60)⟩,
  ⟨some 62, none, .mov (.t 61)⟩,
  ⟨some 63, some (62, false), .load 2 true (.t 5)⟩,
  ⟨some 64, some (62, false), .faddr 1 (.t 1)⟩,
  ⟨some 65, some (62, false), .load 1 false (.t 64)⟩,
  ⟨some 66, some (62, false), .call (.c (.fn 87 [] [])) [.t 63, .t 65]⟩,
  ⟨some 67, some (62, false), .un .not (.t 66)⟩,
  ⟨some 68, none, .pick (.t 62) (.c (.bool true)) (.t 67)⟩]
abbrev c33_r9 : List Ins := [
  ⟨none, none, .store 1 (.t 2) (.c (.bool false))⟩]
abbrev c33_x10 : IR := .seq (.reg c33_r6) (.reg c33_r7)
abbrev c33_y11 : IR := .blk 1 (.seq (.reg c33_r8) (.cond (.t 68) (.seq (.reg c33_r9) (.ret)) (.skip)))
abbrev c33_r12 : List Ins := [
  ⟨none, none, .store 1 (.t 2) (.c (.bool true))⟩]
abbrev c33 : IR := .seq (.reg c33_r1) (.seq (.reg c33_r2) (.seq (.seq (.reg c33_r3) (.cond (.t 43) (.seq (.reg c33_r4) (.ret)) (.skip))) (.seq (.seq (.reg c33_r5) (.blk 0 (.rngf (.t 45) [46, 47] c33_x10 c33_y11))) (.seq (.reg c33_r12) (.ret)))))
abbrev F33 : FnA := ⟨69, c33, [.cell 2 1 false]⟩
theorem ok33 : cFn Try.prog 33 = some F33 := by kernel_rfl
theorem hb33 : HasBody Try.prog 33 := ⟨_, Try.func33, by kernel_rfl, by kernel_rfl⟩
/-! codes.Reader.Text -/
abbrev c34_r1 : List Ins := [
  ⟨some 2, none, .mov (.c (.str ⟨#[]⟩))⟩]
abbrev c34_r2 : List Ins := [
  ⟨some 7, none, .mov (.t 0)⟩,
  ⟨some 8, none, .call (.c (.fn 35 [] [])) [.t 7, .c (.int .i64 64)]⟩,
  ⟨some 3, none, .mov (.t 8)⟩]
abbrev c34_r3 : List Ins := [
  ⟨some 9, none, .mov (.t 0)⟩,
  ⟨some 10, none, .mov (.t 3)⟩,
  ⟨some 11, none, .bin .add (.t 10) (.c (.int .i64 8))⟩,
  ⟨some 12, none, .bin .sub (.t 11) (.c (.int .i64 1))⟩,
  ⟨some 13, none, .bin .quo (.t 12) (.c (.int .i64 8))⟩,
  ⟨some 14, none, .call (.c (.fn 88 [] [])) [.t 9, .t 13]⟩,
  ⟨some 4, none, .mov (.t 14)⟩]
abbrev c34_r4 : List Ins := [
  ⟨some 15, none, .mov (.t 0)⟩,
  ⟨some 16, none, .nilck (.t 15)⟩,
  ⟨some 17, none, .faddr 1 (.t 16)⟩,
  ⟨some 18, none, .load 1 false (.t 17)⟩]
abbrev c34_r5 : List Ins := [
  ⟨some 2, none, .mov (.c (.str ⟨#[]⟩))⟩]
abbrev c34_r6 : List Ins := [
  ⟨some 5, none, .mov (.c (.sl .full []))⟩]
abbrev c34_r7 : List Ins := [
  ⟨some 19, none, .mov (.t 3)⟩,
  ⟨some 20, none, .mov (.c (.int .i64 0))⟩]
abbrev c34_r8 : List Ins := [
  ⟨some 21, none, .bin .lss (.t 20) (.t 19)⟩]
abbrev c34_r9 : List Ins := [
  ⟨some 22, none, .mov (.t 20)⟩,
  ⟨some 6, none, .mov (.t 22)⟩]
abbrev c34_r10 : List Ins := [
  ⟨some 23, none, .mov (.t 5)⟩,
  ⟨some 24, none, .mov (.t 4)⟩,
  ⟨some 25, none, .mov (.t 6)⟩,
  ⟨some 26, none, .bin .quo (.t 25) (.c (.int .i64 8))⟩,
  ⟨some 27, none, .iaddr 1 (.t 24) (.t 26)⟩,
  ⟨some 28, none, .load 1 false (.t 27)⟩,
  ⟨some 29, none, .mov (.t 6)⟩,
  ⟨some 30, none, .bin .rem (.t 29) (.c (.int .i64 8))⟩,
  ⟨some 31, none, .bin .mul (.c (.int .i64 8)) (.t 30)⟩,
  ⟨some 32, none, .bin .shr (.t 28) (.t 31)⟩,
  ⟨some 33, none, .conv .u8 (.t 32)⟩,
  ⟨some 34, none, .bsl 1 1 [.int .u8 0] [(0, .t 33)]⟩,
  ⟨some 35, none, .append 1 1 (.t 23) (.t 34)⟩,
  ⟨some 5, none, .mov (.t 35)⟩]
abbrev c34_r11 : List Ins := [
  ⟨some 36, none, .bin .add (.t 20) (.c (.int .i64 1))⟩,
  ⟨some 20, none, .mov (.t 36)⟩]
abbrev c34_l12 : IR := .seq (.reg c34_r8) (.seq (.cond (.t 21) (.skip) (.exit 0)) (.seq (.blk 1 (.seq (.reg c34_r9) (.reg c34_r10))) (.reg c34_r11)))
abbrev c34_r13 : List Ins := [
  ⟨some 37, none, .mov (.t 5)⟩,
  ⟨some 38, none, .b2s (.t 37)⟩,
  ⟨some 39, none, .call (.c (.fn 90 [] [])) [.t 38]⟩,
  ⟨some 40, none, .mov (.t 4)⟩,
  ⟨some 41, none, .call (.c (.fn 89 [] [])) [.t 39, .t 40]⟩,
  ⟨some 42, none, .un .not (.t 41)⟩]
abbrev c34_r14 : List Ins := [
  ⟨some 43, none, .mov (.t 0)⟩,
  ⟨some 44, none, .nilck (.t 43)⟩,
  ⟨some 45, none, .faddr 1 (.t 44)⟩,
  ⟨none, none, .store 1 (.t 45) (.c (.bool true))⟩]
abbrev c34_r15 : List Ins := [
  ⟨some 2, none, .mov (.c (.str ⟨#[]⟩))⟩]
abbrev c34_r16 : List Ins := [
  ⟨some 46, none, .mov (.t 5)⟩,
  ⟨some 47, none, .b2s (.t 46)⟩,
  ⟨some 2, none, .mov (.t 47)⟩]
abbrev c34 : IR := .seq (.reg c34_r1) (.seq (.reg c34_r2) (.seq (.reg c34_r3) (.seq (.seq (.reg c34_r4) (.cond (.t 18) (.seq (.reg c34_r5) (.ret)) (.skip))) (.seq (.reg c34_r6) (.seq (.seq (.reg c34_r7) (.blk 0 (.loop c34_l12))) (.seq (.seq (.reg c34_r13) (.cond (.t 42) (.seq (.reg c34_r14) (.seq (.reg c34_r15) (.ret))) (.skip))) (.seq (.reg c34_r16) (.ret))))))))
abbrev F34 : FnA := ⟨48, c34, [.t 2]⟩
theorem ok34 : cFn Try.prog 34 = some F34 := by kernel_rfl
theorem hb34 : HasBody Try.prog 34 := ⟨_, Try.func34, by kernel_rfl, by kernel_rfl⟩
/-! codes.Reader.Count -/
abbrev c35_r1 : List Ins := [
  ⟨some 3, none, .box (.t 1)⟩,
  ⟨some 4, none, .mov (.c (.int .i64 0))⟩]
abbrev c35_r2 : List Ins := [
  ⟨some 5, none, .mov (.t 0)⟩,
  ⟨some 6, none, .mkfn 92 [] [.t 3]⟩,
  ⟨some 7, none, .call (.c (.fn 91 [] [])) [.t 5, .t 6]⟩,
  ⟨some 8, none, .conv .i64 (.t 7)⟩,
  ⟨some 4, none, .mov (.t 8)⟩]
abbrev c35 : IR := .seq (.reg c35_r1) (.seq (.reg c35_r2) (.ret))
abbrev F35 : FnA := ⟨9, c35, [.t 4]⟩
theorem ok35 : cFn Try.prog 35 = some F35 := by kernel_rfl
theorem hb35 : HasBody Try.prog 35 := ⟨_, Try.func35, by kernel_rfl, by kernel_rfl⟩
/-! class.step -/
abbrev c36_r1 : List Ins := [
  ⟨some 2, none, .alloc [.sl .full [], .sl .full []]⟩]
abbrev c36_r2 : List Ins := [
  ⟨some 4, none, .mov (.t 0)⟩,
  ⟨some 5, none, .call (.c (.fn 93 [] [])) [.t 4]⟩,
  ⟨some 3, none, .mov (.t 5)⟩]
abbrev c36_r3 : List Ins := [
  ⟨some 6, none, .mov (.t 3)⟩,
  ⟨some 7, none, .mov (.t 0)⟩,
  ⟨some 8, none, .call (.c (.fn 94 [] [])) [.t 7]⟩,
  ⟨some 9, none, .build [.sl .full [], .sl .full []] [(0, (1, .t 6)), (1, (1, .t 8))]⟩,
  ⟨none, none, .store 2 (.t 2) (.t 9)⟩]
abbrev c36 : IR := .seq (.reg c36_r1) (.seq (.reg c36_r2) (.seq (.reg c36_r3) (.ret)))
abbrev F36 : FnA := ⟨10, c36, [.cell 2 2 true]⟩
theorem ok36 : cFn Try.prog 36 = some F36 := by kernel_rfl
theorem hb36 : HasBody Try.prog 36 := ⟨_, Try.func36, by kernel_rfl, by kernel_rfl⟩
/-! codes.Reader.Flag -/
abbrev c37_r1 : List Ins := [
  ⟨some 2, none, .mov (.c (.bool false))⟩]
abbrev c37_r2 : List Ins := [
  ⟨some 3, none, .mov (.t 0)⟩,
  ⟨some 4, none, .call (.c (.fn 35 [] [])) [.t 3, .c (.int .i64 1)]⟩,
  ⟨some 5, none, .bin .eql (.t 4) (.c (.int .i64 1))⟩,
  ⟨some 2, none, .mov (.t 5)⟩]
abbrev c37 : IR := .seq (.reg c37_r1) (.seq (.reg c37_r2) (.ret))
abbrev F37 : FnA := ⟨6, c37, [.t 2]⟩
theorem ok37 : cFn Try.prog 37 = some F37 := by kernel_rfl
theorem hb37 : HasBody Try.prog 37 := ⟨_, Try.func37, by kernel_rfl, by kernel_rfl⟩
/-! ref09.Reader.Item -/
abbrev c38_r1 : List Ins := [
  ⟨some 6, none, .alloc [.int .i64 0, .int .i64 0, .int .i64 0, .int .i64 0, .str ⟨#[]⟩, .sl .full []]⟩]
abbrev c38_r2 : List Ins := [
  ⟨some 10, none, .mov (.t 0)⟩,
  ⟨some 11, none, .nilck (.t 10)⟩,
  ⟨some 12, none, .faddr 1 (.t 11)⟩,
  ⟨some 13, none, .load 1 false (.t 12)⟩]
abbrev c38_r3 : List Ins := [
  ⟨some 14, none, .build [.int .i64 0, .int .i64 0, .int .i64 0, .int .i64 0, .str ⟨#[]⟩, .sl .full []] []⟩,
  ⟨none, none, .store 6 (.t 6) (.t 14)⟩]
abbrev c38_r4 : List Ins := [
  ⟨some 16, none, .mov (.t 0)⟩,
  ⟨some 17, none, .nilck (.t 16)⟩,
  ⟨some 18, none, .faddr 0 (.t 17)⟩,
  ⟨some 19, none, .load 1 false (.t 18)⟩,
  ⟨some 20, none, .mov (.t 1)⟩,
  ⟨some 21, none, .mov (.t 2)⟩,
  ⟨some 22, none, .call (.c (.fn 95 [] [])) [.t 19, .t 20, .t 21]⟩,
  ⟨some 15, none, .mov (.t 22)⟩,
  ⟨some 23, none, .ext (.t 15) 0⟩,
  ⟨some 24, none, .ext (.t 15) 1⟩,
  ⟨some 25, none, .ext (.t 15) 2⟩,
  ⟨some 7, none, .alloc [.int .i64 0, .int .i64 0, .int .i64 0, .int .i64 0, .str ⟨#[]⟩, .sl .full []]⟩,
  ⟨none, none, .store 6 (.t 7) (.t 23)⟩,
  ⟨some 8, none, .mov (.t 24)⟩,
  ⟨some 9, none, .mov (.t 25)⟩]
abbrev c38_r5 : List Ins := [
  ⟨some 26, none, .mov (.t 9)⟩,
  ⟨some 27, none, .un .not (.t 26)⟩]
abbrev c38_r6 : List Ins := [
  ⟨some 28, none, .mov (.t 0)⟩,
  ⟨some 29, none, .nilck (.t 28)⟩,
  ⟨some 30, none, .faddr 1 (.t 29)⟩,
  ⟨none, none, .store 1 (.t 30) (.c (.bool true))⟩]
abbrev c38_r7 : List Ins := [
  ⟨some 31, none, .build [.int .i64 0, .int .i64 0, .int .i64 0, .int .i64 0, .str ⟨#[]⟩, .sl .full []] []⟩,
  ⟨none, none, .store 6 (.t 6) (.t 31)⟩]
abbrev c38_r8 : List Ins := [
  ⟨some 32, none, .mov (.t 0)⟩,
  ⟨some 33, none, .mov (.t 8)⟩,
  ⟨some 34, none, .nilck (.t 32)⟩,
  ⟨some 35, none, .faddr 0 (.t 34)⟩,
  ⟨none, none, .store 1 (.t 35) (.t 33)⟩]
abbrev c38_r9 : List Ins := [
  ⟨some 36, none, .load 6 true (.t 7)⟩,
  ⟨none, none, .store 6 (.t 6) (.t 36)⟩]
abbrev c38 : IR := .seq (.reg c38_r1) (.seq (.seq (.reg c38_r2) (.cond (.t 13) (.seq (.reg c38_r3) (.ret)) (.skip))) (.seq (.reg c38_r4) (.seq (.seq (.reg c38_r5) (.cond (.t 27) (.seq (.reg c38_r6) (.seq (.reg c38_r7) (.ret))) (.skip))) (.seq (.reg c38_r8) (.seq (.reg c38_r9) (.ret))))))
abbrev F38 : FnA := ⟨37, c38, [.cell 6 6 true]⟩
theorem ok38 : cFn Try.prog 38 = some F38 := by kernel_rfl
theorem hb38 : HasBody Try.prog 38 := ⟨_, Try.func38, by kernel_rfl, by kernel_rfl⟩
/-! ref09.Get -/
abbrev c39_r1 : List Ins := [
  ⟨some 2, none, .mov (.c (.sl .full []))⟩]
abbrev c39_r2 : List Ins := [
  ⟨some 7, none, .mov (.t 0)⟩,
  ⟨some 8, none, .call (.c (.fn 38 [] [])) [.t 7, .c (.int .i64 0), .c (.int .i64 8)]⟩,
  ⟨some 9, none, .fld 1 1 false (.t 8)⟩,
  ⟨some 3, none, .mov (.t 9)⟩]
abbrev c39_r3 : List Ins := [
  ⟨some 4, none, .mov (.c (.sl .full []))⟩]
abbrev c39_r4 : List Ins := [
  ⟨some 5, none, .mov (.c (.int .i64 0))⟩]
abbrev c39_r5 : List Ins := [
  ⟨some 10, none, .mov (.t 5)⟩,
  ⟨some 11, none, .mov (.t 3)⟩,
  ⟨some 12, none, .bin .lss (.t 10) (.t 11)⟩]
abbrev c39_r6 : List Ins := [
  ⟨some 6, none, .alloc [.int .i64 0, .int .i64 0, .int .i64 0, .int .i64 0, .int .i64 0, .int .i64 0, .int .i64 0, .int .i64 0, .int .i64 0]⟩]
abbrev c39_r7 : List Ins := [
  ⟨some 15, none, .mov (.t 0)⟩,
  ⟨some 16, none, .call (.c (.fn 38 [] [])) [.t 15, .c (.int .i64 0), .c (.int .i64 255)]⟩,
  ⟨some 17, none, .fld 1 1 false (.t 16)⟩,
  ⟨some 18, none, .faddr 0 (.t 6)⟩,
  ⟨none, none, .store 1 (.t 18) (.t 17)⟩]
abbrev c39_r8 : List Ins := [
  ⟨some 19, none, .mov (.t 0)⟩,
  ⟨some 20, none, .call (.c (.fn 38 [] [])) [.t 19, .c (.int .i64 0), .c (.int .i64 255)]⟩,
  ⟨some 21, none, .fld 1 1 false (.t 20)⟩,
  ⟨some 22, none, .faddr 1 (.t 6)⟩,
  ⟨none, none, .store 1 (.t 22) (.t 21)⟩]
abbrev c39_r9 : List Ins := [
  ⟨some 23, none, .mov (.t 0)⟩,
  ⟨some 24, none, .call (.c (.fn 38 [] [])) [.t 23, .c (.int .i64 0), .c (.int .i64 255)]⟩,
  ⟨some 25, none, .fld 1 1 false (.t 24)⟩,
  ⟨some 26, none, .faddr 2 (.t 6)⟩,
  ⟨none, none, .store 1 (.t 26) (.t 25)⟩]
abbrev c39_r10 : List Ins := [
  ⟨some 27, none, .mov (.t 0)⟩,
  ⟨some 28, none, .call (.c (.fn 38 [] [])) [.t 27, .c (.int .i64 0), .c (.int .i64 255)]⟩,
  ⟨some 29, none, .fld 1 1 false (.t 28)⟩,
  ⟨some 30, none, .faddr 3 (.t 6)⟩,
  ⟨none, none, .store 1 (.t 30) (.t 29)⟩]
abbrev c39_r11 : List Ins := [
  ⟨some 31, none, .mov (.t 0)⟩,
  ⟨some 32, none, .call (.c (.fn 96 [] [])) [.t 31]⟩,
  ⟨some 33, none, .faddr 4 (.t 6)⟩,
  ⟨none, none, .store 2 (.t 33) (.t 32)⟩]
abbrev c39_r12 : List Ins := [
  ⟨some 34, none, .mov (.t 0)⟩,
  ⟨some 35, none, .call (.c (.fn 96 [] [])) [.t 34]⟩,
  ⟨some 36, none, .faddr 6 (.t 6)⟩,
  ⟨none, none, .store 2 (.t 36) (.t 35)⟩]
abbrev c39_r13 : List Ins := [
  ⟨some 37, none, .mov (.t 0)⟩,
  ⟨some 38, none, .call (.c (.fn 38 [] [])) [.t 37, .c (.int .i64 1), .c (.int .i64 0)]⟩,
  ⟨some 39, none, .fld 3 1 false (.t 38)⟩,
  ⟨some 40, none, .faddr 8 (.t 6)⟩,
  ⟨none, none, .store 1 (.t 40) (.t 39)⟩]
abbrev c39_r14 : List Ins := [
  ⟨some 41, none, .mov (.t 4)⟩,
  ⟨some 42, none, .load 9 true (.t 6)⟩,
  ⟨some 43, none, .bsl 9 1 [.int .i64 0, .int .i64 0, .int .i64 0, .int .i64 0, .int .i64 0, .int .i64 0, .int .i64 0, .int .i64 0, .int .i64 0] [(0, .t 42)]⟩,
  ⟨some 44, none, .append 9 72 (.t 41) (.t 43)⟩,
  ⟨some 4, none, .mov (.t 44)⟩]
abbrev c39_r15 : List Ins := [
  ⟨some 13, none, .mov (.t 5)⟩,
  ⟨some 14, none, .bin .add (.t 13) (.c (.int .i64 1))⟩,
  ⟨some 5, none, .mov (.t 14)⟩]
abbrev c39_l16 : IR := .seq (.seq (.reg c39_r5) (.cond (.t 12) (.skip) (.exit 0))) (.seq (.blk 1 (.seq (.reg c39_r6) (.seq (.reg c39_r7) (.seq (.reg c39_r8) (.seq (.reg c39_r9) (.seq (.reg c39_r10) (.seq (.reg c39_r11) (.seq (.reg c39_r12) (.seq (.reg c39_r13) (.reg c39_r14)))))))))) (.reg c39_r15))
abbrev c39_r17 : List Ins := [
  ⟨some 45, none, .mov (.t 0)⟩,
  ⟨some 46, none, .nilck (.t 45)⟩,
  ⟨some 47, none, .faddr 1 (.t 46)⟩,
  ⟨some 48, none, .load 1 false (.t 47)⟩]
abbrev c39_r18 : List Ins := [
  ⟨some 2, none, .mov (.c (.sl .full []))⟩]
abbrev c39_r19 : List Ins := [
  ⟨some 49, none, .mov (.t 4)⟩,
  ⟨some 2, none, .mov (.t 49)⟩]
abbrev c39 : IR := .seq (.reg c39_r1) (.seq (.reg c39_r2) (.seq (.reg c39_r3) (.seq (.seq (.reg c39_r4) (.blk 0 (.loop c39_l16))) (.seq (.seq (.reg c39_r17) (.cond (.t 48) (.seq (.reg c39_r18) (.ret)) (.skip))) (.seq (.reg c39_r19) (.ret))))))
abbrev F39 : FnA := ⟨50, c39, [.t 2]⟩
theorem ok39 : cFn Try.prog 39 = some F39 := by kernel_rfl
theorem hb39 : HasBody Try.prog 39 := ⟨_, Try.func39, by kernel_rfl, by kernel_rfl⟩
/-! ref10.Get -/
abbrev c40_r1 : List Ins := [
  ⟨some 2, none, .mov (.c (.sl .full []))⟩]
abbrev c40_r2 : List Ins := [
  ⟨some 11, none, .mov (.t 0)⟩,
  ⟨some 12, none, .call (.c (.fn 38 [] [])) [.t 11, .c (.int .i64 0), .c (.int .i64 4)]⟩,
  ⟨some 13, none, .fld 1 1 false (.t 12)⟩,
  ⟨some 3, none, .mov (.t 13)⟩]
abbrev c40_r3 : List Ins := [
  ⟨some 4, none, .mov (.c (.sl .full []))⟩]
abbrev c40_r4 : List Ins := [
  ⟨some 5, none, .mov (.c (.int .i64 0))⟩]
abbrev c40_r5 : List Ins := [
  ⟨some 14, none, .mov (.t 5)⟩,
  ⟨some 15, none, .mov (.t 3)⟩,
  ⟨some 16, none, .bin .lss (.t 14) (.t 15)⟩]
abbrev c40_r6 : List Ins := [
  ⟨some 19, none, .mov (.t 0)⟩,
  ⟨some 20, none, .call (.c (.fn 38 [] [])) [.t 19, .c (.int .i64 1), .c (.int .i64 0)]⟩,
  ⟨some 21, none, .fld 3 1 false (.t 20)⟩,
  ⟨some 6, none, .mov (.t 21)⟩]
abbrev c40_r7 : List Ins := [
  ⟨some 22, none, .mov (.t 0)⟩,
  ⟨some 23, none, .call (.c (.fn 38 [] [])) [.t 22, .c (.int .i64 0), .c (.int .i64 999)]⟩,
  ⟨some 24, none, .fld 1 1 false (.t 23)⟩,
  ⟨some 7, none, .mov (.t 24)⟩]
abbrev c40_r8 : List Ins := [
  ⟨some 25, none, .mov (.t 0)⟩,
  ⟨some 26, none, .call (.c (.fn 38 [] [])) [.t 25, .c (.int .i64 1), .c (.int .i64 0)]⟩,
  ⟨some 27, none, .fld 3 1 false (.t 26)⟩,
  ⟨some 8, none, .mov (.t 27)⟩]
abbrev c40_r9 : List Ins := [
  ⟨some 28, none, .mov (.t 0)⟩,
  ⟨some 29, none, .call (.c (.fn 38 [] [])) [.t 28, .c (.int .i64 0), .c (.int .i64 999)]⟩,
  ⟨some 30, none, .fld 1 1 false (.t 29)⟩,
  ⟨some 9, none, .mov (.t 30)⟩]
abbrev c40_r10 : List Ins := [
  ⟨some 31, none, .mov (.t 6)⟩,
  ⟨some 32, none, .bin .lss (.t 31) (.c (.int .i64 (-1)))⟩,
  ⟨some 33, none, .mov (.t 32)⟩,
  ⟨some 34, some (33, false), .mov (.t 6)⟩,
  ⟨some 35, some (33, false), .bin .gtr (.t 34) (.c (.int .i64 255))⟩,
  ⟨some 36, none, .pick (.t 33) (.c (.bool true)) (.t 35)⟩,
  ⟨some 37, none, .mov (.t 36)⟩,
  ⟨some 38, some (37, false), .mov (.t 8)⟩,
  ⟨some 39, some (37, false), .bin .lss (.t 38) (.c (.int .i64 (-1)))⟩,
  ⟨some 40, none, .pick (.t 37) (.c (.bool true)) (.t 39)⟩,
  ⟨some 41, none, .mov (.t 40)⟩,
  ⟨some 42, some (41, false), .mov (.t 8)⟩,
  ⟨some 43, some (41, false), .bin .gtr (.t 42) (.c (.int .i64 255))⟩,
  ⟨some 44, none, .pick (.t 41) (.c (.bool true)) (.t 43)⟩]
abbrev c40_r11 : List Ins := [
  ⟨some 45, none, .mov (.t 0)⟩,
  ⟨some 46, none, .nilck (.t 45)⟩,
  ⟨some 47, none, .faddr 1 (.t 46)⟩,
  ⟨none, none, .store 1 (.t 47) (.c (.bool true))⟩]
abbrev c40_r12 : List Ins := [
  ⟨some 48, none, .mov (.t 0)⟩,
  ⟨some 49, none, .call (.c (.fn 38 [] [])) [.t 48, .c (.int .i64 2), .c (.int .i64 0)]⟩,
  ⟨some 50, none, .fld 1 1 false (.t 49)⟩,
  ⟨some 51, none, .bin .eql (.t 50) (.c (.int .i64 1))⟩,
  ⟨some 10, none, .mov (.t 51)⟩]
abbrev c40_r13 : List Ins := [
  ⟨some 52, none, .mov (.t 4)⟩,
  ⟨some 53, none, .mov (.t 6)⟩,
  ⟨some 54, none, .mov (.t 7)⟩,
  ⟨some 55, none, .build [.int .i64 0, .int .i64 0] [(0, (1, .t 53)), (1, (1, .t 54))]⟩,
  ⟨some 56, none, .mov (.t 8)⟩,
  ⟨some 57, none, .mov (.t 9)⟩,
  ⟨some 58, none, .build [.int .i64 0, .int .i64 0] [(0, (1, .t 56)), (1, (1, .t 57))]⟩,
  ⟨some 59, none, .mov (.t 10)⟩,
  ⟨some 60, none, .build [.int .i64 0, .int .i64 0, .int .i64 0, .int .i64 0, .bool false] [(0, (2, .t 55)), (2, (2, .t 58)), (4, (1, .t 59))]⟩,
  ⟨some 61, none, .bsl 5 1 [.int .i64 0, .int .i64 0, .int .i64 0, .int .i64 0, .bool false] [(0, .t 60)]⟩,
  ⟨some 62, none, .append 5 40 (.t 52) (.t 61)⟩,
  ⟨some 4, none, .mov (.t 62)⟩]
abbrev c40_r14 : List Ins := [
  ⟨some 17, none, .mov (.t 5)⟩,
  ⟨some 18, none, .bin .add (.t 17) (.c (.int .i64 1))⟩,
  ⟨some 5, none, .mov (.t 18)⟩]
abbrev c40_l15 : IR := .seq (.seq (.reg c40_r5) (.cond (.t 16) (.skip) (.exit 0))) (.seq (.blk 1 (.seq (.reg c40_r6) (.seq (.reg c40_r7) (.seq (.reg c40_r8) (.seq (.reg c40_r9) (.seq (.seq (.reg c40_r10) (.cond (.t 44) (.reg c40_r11) (.skip))) (.seq (.reg c40_r12) (.reg c40_r13)))))))) (.reg c40_r14))
abbrev c40_r16 : List Ins := [
  ⟨some 63, none, .mov (.t 0)⟩,
  ⟨some 64, none, .nilck (.t 63)⟩,
  ⟨some 65, none, .faddr 1 (.t 64)⟩,
  ⟨some 66, none, .load 1 false (.t 65)⟩]
abbrev c40_r17 : List Ins := [
  ⟨some 2, none, .mov (.c (.sl .full []))⟩]
abbrev c40_r18 : List Ins := [
  ⟨some 67, none, .mov (.t 4)⟩,
  ⟨some 2, none, .mov (.t 67)⟩]
abbrev c40 : IR := .seq (.reg c40_r1) (.seq (.reg c40_r2) (.seq (.reg c40_r3) (.seq (.seq (.reg c40_r4) (.blk 0 (.loop c40_l15))) (.seq (.seq (.reg c40_r16) (.cond (.t 66) (.seq (.reg c40_r17) (.ret)) (.skip))) (.seq (.reg c40_r18) (.ret))))))
abbrev F40 : FnA := ⟨68, c40, [.t 2]⟩
theorem ok40 : cFn Try.prog 40 = some F40 := by kernel_rfl
theorem hb40 : HasBody Try.prog 40 := ⟨_, Try.func40, by kernel_rfl, by kernel_rfl⟩
/-! ref11.May -/
abbrev c41_r1 : List Ins := [
  ⟨some 1, none, .box (.t 0)⟩,
  ⟨some 2, none, .mov (.c (.bool false))⟩]
abbrev c41_r2 : List Ins := [
  ⟨some 7, none, .faddr 2 (.t 1)⟩,
  ⟨some 8, none, .load 1 false (.t 7)⟩,
  ⟨some 9, none, .len (.t 8)⟩,
  ⟨some 3, none, .mov (.t 9)⟩]
abbrev c41_r3 : List Ins := [
  ⟨some 10, none, .faddr 0 (.t 1)⟩,
  ⟨some 11, none, .load 1 false (.t 10)⟩,
  ⟨some 12, none, .lenS (.t 11)⟩,
  ⟨some 13, none, .bin .lss (.t 12) (.c (.int .i64 1))⟩,
  ⟨some 14, none, .mov (.t 13)⟩,
  ⟨some 15, some (14, false), .faddr 0 (.t 1)⟩,
  ⟨some 16, some (14, false), .load 1 false (.t 15)⟩,
  ⟨some 17, some (14, false), .lenS (.t 16)⟩,
  ⟨some 18, some (14, false), .bin .gtr (.t 17) (.c (.int .i64 16))⟩,
  ⟨some 19, none, .pick (.t 14) (.c (.bool true)) (.t 18)⟩,
  ⟨some 20, none, .mov (.t 19)⟩,
  ⟨some 21, some (20, false), .faddr 1 (.t 1)⟩,
  ⟨some 22, some (20, false), .load 1 false (.t 21)⟩,
  ⟨some 23, some (20, false), .bin .lss (.t 22) (.c (.int .i64 0))⟩,
  ⟨some 24, none, .pick (.t 20) (.c (.bool true)) (.t 23)⟩,
  ⟨some 25, none, .mov (.t 24)⟩,
  ⟨some 26, some (25, false), .faddr 1 (.t 1)⟩,
  ⟨some 27, some (25, false), .load 1 false (.t 26)⟩,
  ⟨some 28, some (25, false), .bin .gtr (.t 27) (.c (.int .i64 3))⟩,
  ⟨some 29, none, .pick (.t 25) (.c (.bool true)) (.t 28)⟩,
  ⟨some 30, none, .mov (.t 29)⟩,
  ⟨some 31, some (30, false), .mov (.t 3)⟩,
  ⟨some 32, some (30, false), .bin .lss (.t 31) (.c (.int .i64 1))⟩,
  ⟨some 33, none, .pick (.t 30) (.c (.bool true)) (.t 32)⟩,
  ⟨some 34, none, .mov (.t 33)⟩,
  ⟨some 35, some (34, false), .mov (.t 3)⟩,
  ⟨some 36, some (34, false), .bin .gtr (.t 35) (.c (.int .i64 4))⟩,
  ⟨some 37, none, .pick (.t 34) (.c (.bool true)) (.t 36)⟩,
  ⟨some 38, none, .mov (.t 37)⟩,
  ⟨some 39, some (38, false), .faddr 3 (.t 1)⟩,
  ⟨some 40, some (38, false), .load 1 false (.t 39)⟩,
  ⟨some 41, some (38, false), .len (.t 40)⟩,
  ⟨some 42, some (38, false), .mov (.t 3)⟩,
  ⟨some 43, some (38, false), .bin .neq (.t 41) (.t 42)⟩,
  ⟨some 44, none, .pick (.t 38) (.c (.bool true)) (.t 43)⟩]
abbrev c41_r4 : List Ins := [
  ⟨some 2, none, .mov (.c (.bool false))⟩]
abbrev c41_r5 : List Ins := [
  ⟨some 4, none, .mov (.c (.int .i64 0))⟩]
abbrev c41_r6 : List Ins := [
  ⟨some 45, none, .mov (.t 4)⟩,
  ⟨some 46, none, .mov (.t 3)⟩,
  ⟨some 47, none, .bin .lss (.t 45) (.t 46)⟩]
abbrev c41_r7 : List Ins := [
  ⟨some 50, none, .faddr 2 (.t 1)⟩,
  ⟨some 51, none, .load 1 false (.t 50)⟩,
  ⟨some 52, none, .mov (.t 4)⟩,
  ⟨some 53, none, .iaddr 2 (.t 51) (.t 52)⟩,
  ⟨some 54, none, .faddr 0 (.t 53)⟩,
  ⟨some 55, none, .load 1 false (.t 54)⟩,
  ⟨some 56, none, .faddr 1 (.t 1)⟩,
  ⟨some 57, none, .load 1 false (.t 56)⟩,
  ⟨some 58, none, .call (.c (.fn 97 [] [])) [.t 55, .t 57]⟩,
  ⟨some 59, none, .un .not (.t 58)⟩,
  ⟨some 60, none, .mov (.t 59)⟩,
  ⟨some 61, some (60, false), .faddr 2 (.t 1)⟩,
  ⟨some 62, some (60, false), .load 1 false (.t 61)⟩,
  ⟨some 63, some (60, false), .mov (.t 4)⟩,
  ⟨some 64, some (60, false), .iaddr 2 (.t 62) (.t 63)⟩,
  ⟨some 65, some (60, false), .faddr 1 (.t 64)⟩,
  ⟨some 66, some (60, false), .load 1 false (.t 65)⟩,
  ⟨some 67, some (60, false), .faddr 1 (.t 1)⟩,
  ⟨some 68, some (60, false), .load 1 false (.t 67)⟩,
  ⟨some 69, some (60, false), .call (.c (.fn 98 [] [])) [.t 66, .t 68]⟩,
  ⟨some 70, some (60, false), .un .not (.t 69)⟩,
  ⟨some 71, none, .pick (.t 60) (.c (.bool true)) (.t 70)⟩,
  ⟨some 72, none, .mov (.t 71)⟩,
  ⟨some 73, some (72, false), .faddr 3 (.t 1)⟩,
  ⟨some 74, some (72, false), .load 1 false (.t 73)⟩,
  ⟨some 75, some (72, false), .mov (.t 4)⟩,
  ⟨some 76, some (72, false), .iaddr 2 (.t 74) (.t 75)⟩,
  ⟨some 77, some (72, false), .faddr 1 (.t 76)⟩,
  ⟨some 78, some (72, false), .load 1 false (.t 77)⟩,
  ⟨some 79, some (72, false), .faddr 1 (.t 1)⟩,
  ⟨some 80, some (72, false), .load 1 false (.t 79)⟩,
  ⟨some 81, some (72, false), .call (.c (.fn 98 [] [])) [.t 78, .t 80]⟩,
  ⟨some 82, some (72, false), .un .not (.t 81)⟩,
  ⟨some 83, none, .pick (.t 72) (.c (.bool true)) (.t 82)⟩]
def c41_a7 : List (List Nat) := [[], [0], [], [1, 2], [3], [4], [], [6], [5, 7], [8], [9, 8], [10], [11, 10], [10], [12, 13, 10], [14, 10], [15, 10], [10], [17, 10], [16, 18, 10, 10], [19, 10], [10, 20], [21, 19], [22], [23, 22], [22], [24, 25, 22], [26, 22], [27, 22], [22], [29, 22], [28, 30, 22, 22], [31, 22], [22, 32]]
abbrev c41_m7 : List Am.Mark := [⟨false, 0, 0⟩, ⟨false, 0, 0⟩, ⟨false, 0, 0⟩, ⟨false, 0, 0⟩, ⟨false, 0, 0⟩, ⟨false, 0, 0⟩, ⟨false, 0, 0⟩, ⟨false, 0, 0⟩, ⟨false, 0, 0⟩, ⟨false, 0, 0⟩, ⟨false, 0, 0⟩, ⟨false, 0, 0⟩, ⟨false, 0, 0⟩, ⟨false, 0, 0⟩, ⟨false, 0, 0⟩, ⟨false, 0, 0⟩, ⟨false, 0, 0⟩, ⟨false, 0, 0⟩, ⟨false, 0, 0⟩, ⟨false, 0, 0⟩, ⟨false, 0, 0⟩, ⟨false, 0, 0⟩, ⟨false, 0, 0⟩, ⟨false, 0, 0⟩, ⟨false, 0, 0⟩, ⟨false, 0, 0⟩, ⟨false, 0, 0⟩, ⟨false, 0, 0⟩, ⟨false, 0, 0⟩, ⟨false, 0, 0⟩, ⟨false, 0, 0⟩, ⟨false, 0, 0⟩, ⟨false, 0, 0⟩, ⟨false, 0, 0⟩]
theorem c41_d7 : drawFine c41_r7 c41_a7 c41_m7 = true := by decide +kernel
abbrev c41_r8 : List Ins := [
  ⟨some 2, none, .mov (.c (.bool false))⟩]
abbrev c41_r9 : List Ins := [
  ⟨some 84, none, .faddr 3 (.t 1)⟩,
  ⟨some 85, none, .load 1 false (.t 84)⟩,
  ⟨some 86, none, .mov (.t 4)⟩,
  ⟨some 87, none, .iaddr 2 (.t 85) (.t 86)⟩,
  ⟨some 88, none, .faddr 0 (.t 87)⟩,
  ⟨some 89, none, .load 1 false (.t 88)⟩,
  ⟨some 5, none, .mov (.t 89)⟩]
abbrev c41_r10 : List Ins := [
  ⟨some 90, none, .mov (.t 5)⟩,
  ⟨some 91, none, .len (.t 90)⟩,
  ⟨some 92, none, .bin .gtr (.t 91) (.c (.int .i64 0))⟩,
  ⟨some 93, none, .mov (.t 92)⟩,
  ⟨some 94, some (93, true), .mov (.t 5)⟩,
  ⟨some 95, some (93, true), .faddr 1 (.t 1)⟩,
  ⟨some 96, some (93, true), .load 1 false (.t 95)⟩,
  ⟨some 97, some (93, true), .call (.c (.fn 97 [] [])) [.t 94, .t 96]⟩,
  ⟨some 98, some (93, true), .un .not (.t 97)⟩,
  ⟨some 99, none, .pick (.t 93) (.t 98) (.c (.bool false))⟩]
abbrev c41_r11 : List Ins := [
  ⟨some 2, none, .mov (.c (.bool false))⟩]
abbrev c41_r12 : List Ins := [
  ⟨some 6, none, .mov (.c (.int .i64 0))⟩]
abbrev c41_r13 : List Ins := [
  ⟨some 100, none, .mov (.t 6)⟩,
  ⟨some 101, none, .mov (.t 5)⟩,
  ⟨some 102, none, .len (.t 101)⟩,
  ⟨some 103, none, .bin .lss (.t 100) (.t 102)⟩]
abbrev c41_r14 : List Ins := [
  ⟨some 106, none, .mov (.t 5)⟩,
  ⟨some 107, none, .mov (.t 6)⟩,
  ⟨some 108, none, .iaddr 9 (.t 106) (.t 107)⟩,
  ⟨some 109, none, .faddr 0 (.t 108)⟩,
  ⟨some 110, none, .load 1 false (.t 109)⟩,
  ⟨some 111, none, .bin .geq (.t 110) (.c (.int .i64 6))⟩]
abbrev c41_r15 : List Ins := [
  ⟨some 2, none, .mov (.c (.bool false))⟩]
abbrev c41_r16 : List Ins := [
  ⟨some 104, none, .mov (.t 6)⟩,
  ⟨some 105, none, .bin .add (.t 104) (.c (.int .i64 1))⟩,
  ⟨some 6, none, .mov (.t 105)⟩]
abbrev c41_l17 : IR := .seq (.seq (.reg c41_r13) (.cond (.t 103) (.skip) (.exit 2))) (.seq (.blk 3 (.seq (.reg c41_r14) (.cond (.t 111) (.seq (.reg c41_r15) (.ret)) (.skip)))) (.reg c41_r16))
abbrev c41_r18 : List Ins := [
  ⟨some 48, none, .mov (.t 4)⟩,
  ⟨some 49, none, .bin .add (.t 48) (.c (.int .i64 1))⟩,
  ⟨some 4, none, .mov (.t 49)⟩]
abbrev c41_l19 : IR := .seq (.seq (.reg c41_r6) (.cond (.t 47) (.skip) (.exit 0))) (.seq (.blk 1 (.seq (.seq (.dreg c41_r7 c41_a7) (.cond (.t 83) (.seq (.reg c41_r8) (.ret)) (.skip))) (.seq (.reg c41_r9) (.seq (.seq (.reg c41_r10) (.cond (.t 99) (.seq (.reg c41_r11) (.ret)) (.skip))) (.seq (.reg c41_r12) (.blk 2 (.loop c41_l17))))))) (.reg c41_r18))
abbrev c41_r20 : List Ins := [
  ⟨some 2, none, .mov (.c (.bool true))⟩]
abbrev c41 : IR := .seq (.reg c41_r1) (.seq (.reg c41_r2) (.seq (.seq (.reg c41_r3) (.cond (.t 44) (.seq (.reg c41_r4) (.ret)) (.skip))) (.seq (.seq (.reg c41_r5) (.blk 0 (.loop c41_l19))) (.seq (.reg c41_r20) (.ret)))))
abbrev F41 : FnA := ⟨112, c41, [.t 2]⟩
theorem ok41 : cFn Try.prog 41 = some F41 := by kernel_rfl
theorem hb41 : HasBody Try.prog 41 := ⟨_, Try.func41, by kernel_rfl, by kernel_rfl⟩
/-! ref11.steps -/
abbrev c42_r1 : List Ins := [
  ⟨some 4, none, .mov (.c (.bool false))⟩]
abbrev c42_r2 : List Ins := [
  ⟨some 6, none, .mov (.t 0)⟩,
  ⟨some 7, none, .len (.t 6)⟩,
  ⟨some 8, none, .mov (.t 1)⟩,
  ⟨some 9, none, .len (.t 8)⟩,
  ⟨some 10, none, .bin .neq (.t 7) (.t 9)⟩]
abbrev c42_r3 : List Ins := [
  ⟨some 4, none, .mov (.c (.bool false))⟩]
abbrev c42_r4 : List Ins := [
  ⟨some 5, none, .mov (.c (.int .i64 0))⟩]
abbrev c42_r5 : List Ins := [
  ⟨some 11, none, .mov (.t 5)⟩,
  ⟨some 12, none, .mov (.t 0)⟩,
  ⟨some 13, none, .len (.t 12)⟩,
  ⟨some 14, none, .bin .lss (.t 11) (.t 13)⟩]
abbrev c42_r6 : List Ins := [
  ⟨some 17, none, .mov (.t 0)⟩,
  ⟨some 18, none, .mov (.t 5)⟩,
  ⟨some 19, none, .iaddr 2 (.t 17) (.t 18)⟩,
  ⟨some 20, none, .faddr 0 (.t 19)⟩,
  ⟨some 21, none, .load 1 false (.t 20)⟩,
  ⟨some 22, none, .mov (.t 1)⟩,
  ⟨some 23, none, .mov (.t 5)⟩,
  ⟨some 24, none, .iaddr 2 (.t 22) (.t 23)⟩,
  ⟨some 25, none, .faddr 0 (.t 24)⟩,
  ⟨some 26, none, .load 1 false (.t 25)⟩,
  ⟨some 27, none, .call (.c (.fn 99 [] [])) [.t 21, .t 26]⟩,
  ⟨some 28, none, .un .not (.t 27)⟩,
  ⟨some 29, none, .mov (.t 28)⟩,
  ⟨some 30, some (29, false), .mov (.t 0)⟩,
  ⟨some 31, some (29, false), .mov (.t 5)⟩,
  ⟨some 32, some (29, false), .iaddr 2 (.t 30) (.t 31)⟩,
  ⟨some 33, some (29, false), .faddr 1 (.t 32)⟩,
  ⟨some 34, some (29, false), .load 1 false (.t 33)⟩,
  ⟨some 35, some (29, false), .mov (.t 1)⟩,
  ⟨some 36, some (29, false), .mov (.t 5)⟩,
  ⟨some 37, some (29, false), .iaddr 2 (.t 35) (.t 36)⟩,
  ⟨some 38, some (29, false), .faddr 1 (.t 37)⟩,
  ⟨some 39, some (29, false), .load 1 false (.t 38)⟩,
  ⟨some 40, some (29, false), .call (.c (.fn 100 [] [])) [.t 34, .t 39]⟩,
  ⟨some 41, some (29, false), .un .not (.t 40)⟩,
  ⟨some 42, none, .pick (.t 29) (.c (.bool true)) (.t 41)⟩]
def c42_a6 : List (List Nat) := [[], [], [0, 1], [2], [3], [], [], [5, 6], [7], [8], [4, 9], [10], [11, 10], [12], [12], [13, 14, 12], [15, 12], [16, 12], [12], [12], [18, 19, 12], [20, 12], [21, 12], [17, 22, 12, 12], [23, 12], [12, 24]]
abbrev c42_m6 : List Am.Mark := [⟨false, 0, 0⟩, ⟨false, 0, 0⟩, ⟨false, 0, 0⟩, ⟨false, 0, 0⟩, ⟨false, 0, 0⟩, ⟨false, 0, 0⟩, ⟨false, 0, 0⟩, ⟨false, 0, 0⟩, ⟨false, 0, 0⟩, ⟨false, 0, 0⟩, ⟨false, 0, 0⟩, ⟨false, 0, 0⟩, ⟨false, 0, 0⟩, ⟨false, 0, 0⟩, ⟨false, 0, 0⟩, ⟨false, 0, 0⟩, ⟨false, 0, 0⟩, ⟨false, 0, 0⟩, ⟨false, 0, 0⟩, ⟨false, 0, 0⟩, ⟨false, 0, 0⟩, ⟨false, 0, 0⟩, ⟨false, 0, 0⟩, ⟨false, 0, 0⟩, ⟨false, 0, 0⟩, ⟨false, 0, 0⟩]
theorem c42_d6 : drawFine c42_r6 c42_a6 c42_m6 = true := by decide +kernel
abbrev c42_r7 : List Ins := [
  ⟨some 4, none, .mov (.c (.bool false))⟩]
abbrev c42_r8 : List Ins := [
  ⟨some 15, none, .mov (.t 5)⟩,
  ⟨some 16, none, .bin .add (.t 15) (.c (.int .i64 1))⟩,
  ⟨some 5, none, .mov (.t 16)⟩]
abbrev c42_l9 : IR := .seq (.seq (.reg c42_r5) (.cond (.t 14) (.skip) (.exit 0))) (.seq (.blk 1 (.seq (.dreg c42_r6 c42_a6) (.cond (.t 42) (.seq (.reg c42_r7) (.ret)) (.skip)))) (.reg c42_r8))
abbrev c42_r10 : List Ins := [
  ⟨some 4, none, .mov (.c (.bool true))⟩]
abbrev c42 : IR := .seq (.reg c42_r1) (.seq (.seq (.reg c42_r2) (.cond (.t 10) (.seq (.reg c42_r3) (.ret)) (.skip))) (.seq (.seq (.reg c42_r4) (.blk 0 (.loop c42_l9))) (.seq (.reg c42_r10) (.ret))))
abbrev F42 : FnA := ⟨43, c42, [.t 4]⟩
theorem ok42 : cFn Try.prog 42 = some F42 := by kernel_rfl
theorem hb42 : HasBody Try.prog 42 := ⟨_, Try.func42, by kernel_rfl, by kernel_rfl⟩
/-! prog.May -/
abbrev c46_r1 : List Ins := [
  ⟨some 3, none, .box (.t 1)⟩,
  ⟨some 4, none, .mov (.c (.bool false))⟩]
abbrev c46_r2 : List Ins := [
  ⟨some 5, none, .load 1 false (.t 3)⟩,
  ⟨some 6, none, .bin .lss (.t 5) (.c (.int .i64 0))⟩,
  ⟨some 7, none, .mov (.t 6)⟩,
  ⟨some 8, some (7, false), .load 1 false (.t 3)⟩,
  ⟨some 9, some (7, false), .bin .gtr (.t 8) (.c (.int .i64 3))⟩,
  ⟨some 10, none, .pick (.t 7) (.c (.bool true)) (.t 9)⟩,
  ⟨some 11, none, .mov (.t 10)⟩,
  ⟨some 12, some (11, false), .mov (.t 0)⟩,
  ⟨some 13, some (11, false), .len (.t 12)⟩,
  ⟨some 14, some (11, false), .bin .lss (.t 13) (.c (.int .i64 1))⟩,
  ⟨some 15, none, .pick (.t 11) (.c (.bool true)) (.t 14)⟩,
  ⟨some 16, none, .mov (.t 15)⟩,
  ⟨some 17, some (16, false), .mov (.t 0)⟩,
  ⟨some 18, some (16, false), .len (.t 17)⟩,
  ⟨some 19, some (16, false), .bin .gtr (.t 18) (.c (.int .i64 8))⟩,
  ⟨some 20, none, .pick (.t 16) (.c (.bool true)) (.t 19)⟩]
abbrev c46_r3 : List Ins := [
  ⟨some 4, none, .mov (.c (.bool false))⟩]
abbrev c46_r4 : List Ins := [
  ⟨some 21, none, .mov (.t 0)⟩,
  ⟨some 22, none, .mkfn 103 [] [.t 3]⟩,
  ⟨some 23, none, .call (.c (.fn 53 [] [])) [.t 21, .t 22]⟩,
  ⟨some 24, none, .un .not (.t 23)⟩,
  ⟨some 4, none, .mov (.t 24)⟩]
abbrev c46 : IR := .seq (.reg c46_r1) (.seq (.seq (.reg c46_r2) (.cond (.t 20) (.seq (.reg c46_r3) (.ret)) (.skip))) (.seq (.reg c46_r4) (.ret)))
abbrev F46 : FnA := ⟨25, c46, [.t 4]⟩
theorem ok46 : cFn Try.prog 46 = some F46 := by kernel_rfl
theorem hb46 : HasBody Try.prog 46 := ⟨_, Try.func46, by kernel_rfl, by kernel_rfl⟩
/-! foot.May -/
abbrev c47_r1 : List Ins := [
  ⟨some 3, none, .box (.t 1)⟩,
  ⟨some 4, none, .mov (.c (.bool false))⟩]
abbrev c47_r2 : List Ins := [
  ⟨some 6, none, .mkfn 105 [] [.t 3]⟩,
  ⟨some 5, none, .mov (.t 6)⟩]
abbrev c47_r3 : List Ins := [
  ⟨some 7, none, .load 1 false (.t 3)⟩,
  ⟨some 8, none, .bin .geq (.t 7) (.c (.int .i64 0))⟩,
  ⟨some 9, none, .mov (.t 8)⟩,
  ⟨some 10, some (9, true), .load 1 false (.t 3)⟩,
  ⟨some 11, some (9, true), .bin .leq (.t 10) (.c (.int .i64 3))⟩,
  ⟨some 12, none, .pick (.t 9) (.t 11) (.c (.bool false))⟩,
  ⟨some 13, none, .mov (.t 12)⟩,
  ⟨some 14, some (13, true), .mov (.t 0)⟩,
  ⟨some 15, some (13, true), .len (.t 14)⟩,
  ⟨some 16, some (13, true), .bin .leq (.t 15) (.c (.int .i64 4))⟩,
  ⟨some 17, none, .pick (.t 13) (.t 16) (.c (.bool false))⟩,
  ⟨some 18, none, .mov (.t 17)⟩,
  ⟨some 19, some (18, true), .mov (.t 0)⟩,
  ⟨some 20, some (18, true), .mov (.t 5)⟩,
  ⟨some 21, some (18, true), .call (.c (.fn 50 [] [])) [.t 19, .t 20]⟩,
  ⟨some 22, some (18, true), .un .not (.t 21)⟩,
  ⟨some 23, none, .pick (.t 18) (.t 22) (.c (.bool false))⟩,
  ⟨some 4, none, .mov (.t 23)⟩]
abbrev c47 : IR := .seq (.reg c47_r1) (.seq (.reg c47_r2) (.seq (.reg c47_r3) (.ret)))
abbrev F47 : FnA := ⟨24, c47, [.t 4]⟩
theorem ok47 : cFn Try.prog 47 = some F47 := by kernel_rfl
theorem hb47 : HasBody Try.prog 47 := ⟨_, Try.func47, by kernel_rfl, by kernel_rfl⟩
/-! slices.ContainsFunc:SpanT -/
abbrev c50_r1 : List Ins := [
  ⟨some 4, none, .mov (.c (.bool false))⟩]
abbrev c50_r2 : List Ins := [
  ⟨some 5, none, .mov (.t 0)⟩,
  ⟨some 6, none, .mov (.t 1)⟩,
  ⟨some 7, none, .call (.c (.fn 107 [] [])) [.t 5, .t 6]⟩,
  ⟨some 8, none, .bin .geq (.t 7) (.c (.int .i64 0))⟩,
  ⟨some 4, none, .mov (.t 8)⟩]
abbrev c50 : IR := .seq (.reg c50_r1) (.seq (.reg c50_r2) (.ret))
abbrev F50 : FnA := ⟨9, c50, [.t 4]⟩
theorem ok50 : cFn Try.prog 50 = some F50 := by kernel_rfl
theorem hb50 : HasBody Try.prog 50 := ⟨_, Try.func50, by kernel_rfl, by kernel_rfl⟩
/-! slices.ContainsFunc:Instr -/
abbrev c53_r1 : List Ins := [
  ⟨some 4, none, .mov (.c (.bool false))⟩]
abbrev c53_r2 : List Ins := [
  ⟨some 5, none, .mov (.t 0)⟩,
  ⟨some 6, none, .mov (.t 1)⟩,
  ⟨some 7, none, .call (.c (.fn 108 [] [])) [.t 5, .t 6]⟩,
  ⟨some 8, none, .bin .geq (.t 7) (.c (.int .i64 0))⟩,
  ⟨some 4, none, .mov (.t 8)⟩]
abbrev c53 : IR := .seq (.reg c53_r1) (.seq (.reg c53_r2) (.ret))
abbrev F53 : FnA := ⟨9, c53, [.t 4]⟩
theorem ok53 : cFn Try.prog 53 = some F53 := by kernel_rfl
theorem hb53 : HasBody Try.prog 53 := ⟨_, Try.func53, by kernel_rfl, by kernel_rfl⟩
/-! codes.Writer.Count -/
abbrev c69_r1 : List Ins := [
  ⟨some 4, none, .mov (.t 0)⟩,
  ⟨some 5, none, .mov (.t 1)⟩,
  ⟨some 6, none, .mx [.t 5, .c (.int .i64 0)]⟩,
  ⟨some 7, none, .conv .u64 (.t 6)⟩,
  ⟨some 8, none, .bsl 1 1 [.int .u64 0] [(0, .t 7)]⟩,
  ⟨some 9, none, .call (.c (.fn 111 [] [])) [.t 4, .t 8]⟩]
abbrev c69 : IR := .reg c69_r1
abbrev F69 : FnA := ⟨10, c69, []⟩
theorem ok69 : cFn Try.prog 69 = some F69 := by kernel_rfl
theorem hb69 : HasBody Try.prog 69 := ⟨_, Try.func69, by kernel_rfl, by kernel_rfl⟩
/-! codes.Writer.Done -/
abbrev c72_r1 : List Ins := [
  ⟨some 2, none, .mov (.c (.sl .full []))⟩]
abbrev c72_r2 : List Ins := [
  ⟨some 3, none, .mov (.t 0)⟩,
  ⟨some 4, none, .nilck (.t 3)⟩,
  ⟨some 5, none, .faddr 0 (.t 4)⟩,
  ⟨some 6, none, .load 1 false (.t 5)⟩,
  ⟨some 7, none, .call (.c (.fn 118 [] [])) [.t 6]⟩,
  ⟨some 2, none, .mov (.t 7)⟩]
abbrev c72 : IR := .seq (.reg c72_r1) (.seq (.reg c72_r2) (.ret))
abbrev F72 : FnA := ⟨8, c72, [.t 2]⟩
theorem ok72 : cFn Try.prog 72 = some F72 := by kernel_rfl
theorem hb72 : HasBody Try.prog 72 := ⟨_, Try.func72, by kernel_rfl, by kernel_rfl⟩
/-! class.each -/
abbrev c86_r1 : List Ins := [
  ⟨some 1, none, .box (.t 0)⟩,
  ⟨some 2, none, .mov (.c .nilfn)⟩]
abbrev c86_r2 : List Ins := [
  ⟨some 3, none, .mkfn 127 [] [.t 1]⟩,
  ⟨some 2, none, .mov (.t 3)⟩]
abbrev c86 : IR := .seq (.reg c86_r1) (.seq (.reg c86_r2) (.ret))
abbrev F86 : FnA := ⟨4, c86, [.t 2]⟩
theorem ok86 : cFn Try.prog 86 = some F86 := by kernel_rfl
theorem hb86 : HasBody Try.prog 86 := ⟨_, Try.func86, by kernel_rfl, by kernel_rfl⟩
/-! class.mayComp -/
abbrev c87_r1 : List Ins := [
  ⟨some 2, none, .box (.t 0)⟩,
  ⟨some 4, none, .mov (.c (.bool false))⟩]
abbrev c87_r2 : List Ins := [
  ⟨some 5, none, .faddr 0 (.t 2)⟩,
  ⟨some 6, none, .load 1 false (.t 5)⟩,
  ⟨some 7, none, .len (.t 6)⟩,
  ⟨some 8, none, .bin .eql (.t 7) (.c (.int .i64 0))⟩,
  ⟨some 9, none, .mov (.t 8)⟩,
  ⟨some 10, some (9, false), .faddr 0 (.t 2)⟩,
  ⟨some 11, some (9, false), .load 1 false (.t 10)⟩,
  ⟨some 12, some (9, false), .mov (.t 1)⟩,
  ⟨some 13, some (9, false), .call (.c (.fn 46 [] [])) [.t 11, .t 12]⟩,
  ⟨some 14, some (9, false), .mov (.t 13)⟩,
  ⟨some 15, some (14, true), .faddr 0 (.t 2)⟩,
  ⟨some 16, some (14, true), .load 1 false (.t 15)⟩,
  ⟨some 17, some (14, true), .call (.c (.fn 128 [] [])) [.t 16]⟩,
  ⟨some 18, some (9, false), .pick (.t 14) (.t 17) (.c (.bool false))⟩,
  ⟨some 19, none, .pick (.t 9) (.c (.bool true)) (.t 18)⟩,
  ⟨some 20, none, .mov (.t 19)⟩,
  ⟨some 21, some (20, true), .faddr 1 (.t 2)⟩,
  ⟨some 22, some (20, true), .load 1 false (.t 21)⟩,
  ⟨some 23, some (20, true), .mov (.t 1)⟩,
  ⟨some 24, some (20, true), .call (.c (.fn 47 [] [])) [.t 22, .t 23]⟩,
  ⟨some 25, none, .pick (.t 20) (.t 24) (.c (.bool false))⟩,
  ⟨some 4, none, .mov (.t 25)⟩]
abbrev c87 : IR := .seq (.reg c87_r1) (.seq (.reg c87_r2) (.ret))
abbrev F87 : FnA := ⟨26, c87, [.t 4]⟩
theorem ok87 : cFn Try.prog 87 = some F87 := by kernel_rfl
theorem hb87 : HasBody Try.prog 87 := ⟨_, Try.func87, by kernel_rfl, by kernel_rfl⟩
/-! codes.Reader.take -/
abbrev c88_r1 : List Ins := [
  ⟨some 4, none, .mov (.c (.sl .full []))⟩]
abbrev c88_r2 : List Ins := [
  ⟨some 6, none, .mov (.t 0)⟩,
  ⟨some 7, none, .nilck (.t 6)⟩,
  ⟨some 8, none, .faddr 1 (.t 7)⟩,
  ⟨some 9, none, .load 1 false (.t 8)⟩,
  ⟨some 10, none, .mov (.t 9)⟩,
  ⟨some 11, some (10, false), .mov (.t 1)⟩,
  ⟨some 12, some (10, false), .mov (.t 0)⟩,
  ⟨some 13, some (10, false), .nilck (.t 12)⟩,
  ⟨some 14, some (10, false), .faddr 0 (.t 13)⟩,
  ⟨some 15, some (10, false), .load 1 false (.t 14)⟩,
  ⟨some 16, some (10, false), .len (.t 15)⟩,
  ⟨some 17, some (10, false), .bin .gtr (.t 11) (.t 16)⟩,
  ⟨some 18, none, .pick (.t 10) (.c (.bool true)) (.t 17)⟩]
abbrev c88_r3 : List Ins := [
  ⟨some 19, none, .mov (.t 0)⟩,
  ⟨some 20, none, .nilck (.t 19)⟩,
  ⟨some 21, none, .faddr 1 (.t 20)⟩,
  ⟨none, none, .store 1 (.t 21) (.c (.bool true))⟩]
abbrev c88_r4 : List Ins := [
  ⟨some 4, none, .mov (.c (.sl .full []))⟩]
abbrev c88_r5 : List Ins := [
  ⟨some 22, none, .mov (.t 0)⟩,
  ⟨some 23, none, .nilck (.t 22)⟩,
  ⟨some 24, none, .faddr 0 (.t 23)⟩,
  ⟨some 25, none, .load 1 false (.t 24)⟩,
  ⟨some 26, none, .mov (.t 1)⟩,
  ⟨some 27, none, .slice 1 (.t 25) none (some (.t 26)) none⟩,
  ⟨some 28, none, .call (.c (.fn 118 [] [])) [.t 27]⟩,
  ⟨some 5, none, .mov (.t 28)⟩]
abbrev c88_r6 : List Ins := [
  ⟨some 29, none, .mov (.t 0)⟩,
  ⟨some 30, none, .mov (.t 0)⟩,
  ⟨some 31, none, .nilck (.t 30)⟩,
  ⟨some 32, none, .faddr 0 (.t 31)⟩,
  ⟨some 33, none, .load 1 false (.t 32)⟩,
  ⟨some 34, none, .mov (.t 1)⟩,
  ⟨some 35, none, .slice 1 (.t 33) (some (.t 34)) none none⟩,
  ⟨some 36, none, .nilck (.t 29)⟩,
  ⟨some 37, none, .faddr 0 (.t 36)⟩,
  ⟨none, none, .store 1 (.t 37) (.t 35)⟩]
abbrev c88_r7 : List Ins := [
  ⟨some 38, none, .mov (.t 5)⟩,
  ⟨some 4, none, .mov (.t 38)⟩]
abbrev c88 : IR := .seq (.reg c88_r1) (.seq (.seq (.reg c88_r2) (.cond (.t 18) (.seq (.reg c88_r3) (.seq (.reg c88_r4) (.ret))) (.skip))) (.seq (.reg c88_r5) (.seq (.reg c88_r6) (.seq (.reg c88_r7) (.ret)))))
abbrev F88 : FnA := ⟨39, c88, [.t 4]⟩
theorem ok88 : cFn Try.prog 88 = some F88 := by kernel_rfl
theorem hb88 : HasBody Try.prog 88 := ⟨_, Try.func88, by kernel_rfl, by kernel_rfl⟩
/-! slices.Equal:uint64 -/
abbrev c89_r1 : List Ins := [
  ⟨some 4, none, .mov (.c (.bool false))⟩]
abbrev c89_r2 : List Ins := [
  ⟨some 6, none, .mov (.t 0)⟩,
  ⟨some 7, none, .len (.t 6)⟩,
  ⟨some 8, none, .mov (.t 1)⟩,
  ⟨some 9, none, .len (.t 8)⟩,
  ⟨some 10, none, .bin .neq (.t 7) (.t 9)⟩]
abbrev c89_r3 : List Ins := [
  ⟨some 4, none, .mov (.c (.bool false))⟩]
abbrev c89_r4 : List Ins := [
  ⟨some 11, none, .mov (.t 0)⟩,
  ⟨some 12, none, .len (.t 11)⟩,
  ⟨some 13, none, .mov (.c (.int .i64 0))⟩]
abbrev c89_r5 : List Ins := [
  ⟨some 14, none, .bin .lss (.t 13) (.t 12)⟩]
abbrev c89_r6 : List Ins := [
  ⟨some 15, none, .mov (.t 13)⟩,
  ⟨some 5, none, .mov (.t 15)⟩]
abbrev c89_r7 : List Ins := [
  ⟨some 16, none, .mov (.t 0)⟩,
  ⟨some 17, none, .mov (.t 5)⟩,
  ⟨some 18, none, .iaddr 1 (.t 16) (.t 17)⟩,
  ⟨some 19, none, .load 1 false (.t 18)⟩,
  ⟨some 20, none, .mov (.t 1)⟩,
  ⟨some 21, none, .mov (.t 5)⟩,
  ⟨some 22, none, .iaddr 1 (.t 20) (.t 21)⟩,
  ⟨some 23, none, .load 1 false (.t 22)⟩,
  ⟨some 24, none, .bin .neq (.t 19) (.t 23)⟩]
def c89_a7 : List (List Nat) := [[], [], [0, 1], [2], [], [], [4, 5], [6], [3, 7]]
abbrev c89_m7 : List Am.Mark := [⟨false, 0, 0⟩, ⟨false, 0, 0⟩, ⟨false, 0, 0⟩, ⟨false, 0, 0⟩, ⟨false, 0, 0⟩, ⟨false, 0, 0⟩, ⟨false, 0, 0⟩, ⟨false, 0, 0⟩, ⟨false, 0, 0⟩]
theorem c89_d7 : drawFine c89_r7 c89_a7 c89_m7 = true := by decide +kernel
abbrev c89_r8 : List Ins := [
  ⟨some 4, none, .mov (.c (.bool false))⟩]
abbrev c89_r9 : List Ins := [
  ⟨some 25, none, .bin .add (.t 13) (.c (.int .i64 1))⟩,
  ⟨some 13, none, .mov (.t 25)⟩]
abbrev c89_l10 : IR := .seq (.reg c89_r5) (.seq (.cond (.t 14) (.skip) (.exit 0)) (.seq (.blk 1 (.seq (.reg c89_r6) (.seq (.dreg c89_r7 c89_a7) (.cond (.t 24) (.seq (.reg c89_r8) (.ret)) (.skip))))) (.reg c89_r9)))
abbrev c89_r11 : List Ins := [
  ⟨some 4, none, .mov (.c (.bool true))⟩]
abbrev c89 : IR := .seq (.reg c89_r1) (.seq (.seq (.reg c89_r2) (.cond (.t 10) (.seq (.reg c89_r3) (.ret)) (.skip))) (.seq (.seq (.reg c89_r4) (.blk 0 (.loop c89_l10))) (.seq (.reg c89_r11) (.ret))))
abbrev F89 : FnA := ⟨26, c89, [.t 4]⟩
theorem ok89 : cFn Try.prog 89 = some F89 := by kernel_rfl
theorem hb89 : HasBody Try.prog 89 := ⟨_, Try.func89, by kernel_rfl, by kernel_rfl⟩
/-! codes.packed -/
abbrev c90_r1 : List Ins := [
  ⟨some 2, none, .mov (.c (.sl .full []))⟩]
abbrev c90_r2 : List Ins := [
  ⟨some 5, none, .mov (.t 0)⟩,
  ⟨some 6, none, .lenS (.t 5)⟩,
  ⟨some 7, none, .bin .add (.t 6) (.c (.int .i64 8))⟩,
  ⟨some 8, none, .bin .sub (.t 7) (.c (.int .i64 1))⟩,
  ⟨some 9, none, .bin .quo (.t 8) (.c (.int .i64 8))⟩,
  ⟨some 10, none, .mksl 1 8 [.int .u64 0] (.t 9) (.t 9)⟩,
  ⟨some 3, none, .mov (.t 10)⟩]
abbrev c90_r3 : List Ins := [
  ⟨some 11, none, .mov (.t 0)⟩,
  ⟨some 12, none, .lenS (.t 11)⟩,
  ⟨some 13, none, .mov (.c (.int .i64 0))⟩]
abbrev c90_r4 : List Ins := [
  ⟨some 14, none, .bin .lss (.t 13) (.t 12)⟩]
abbrev c90_r5 : List Ins := [
  ⟨some 15, none, .mov (.t 13)⟩,
  ⟨some 4, none, .mov (.t 15)⟩]
abbrev c90_r6 : List Ins := [
  ⟨some 16, none, .mov (.t 3)⟩,
  ⟨some 17, none, .mov (.t 4)⟩,
  ⟨some 18, none, .bin .quo (.t 17) (.c (.int .i64 8))⟩,
  ⟨some 19, none, .iaddr 1 (.t 16) (.t 18)⟩,
  ⟨some 20, none, .load 1 false (.t 19)⟩,
  ⟨some 21, none, .mov (.t 0)⟩,
  ⟨some 22, none, .mov (.t 4)⟩,
  ⟨some 23, none, .idxS (.t 21) (.t 22)⟩,
  ⟨some 24, none, .conv .u64 (.t 23)⟩,
  ⟨some 25, none, .mov (.t 4)⟩,
  ⟨some 26, none, .bin .rem (.t 25) (.c (.int .i64 8))⟩,
  ⟨some 27, none, .bin .mul (.c (.int .i64 8)) (.t 26)⟩,
  ⟨some 28, none, .bin .shl (.t 24) (.t 27)⟩,
  ⟨some 29, none, .bin .or (.t 20) (.t 28)⟩,
  ⟨some 30, none, .iaddr 1 (.t 16) (.t 18)⟩,
  ⟨none, none, .store 1 (.t 30) (.t 29)⟩]
def c90_a6 : List (List Nat) := [[], [], [1], [0, 2], [3], [], [], [5, 6], [7], [], [9], [10], [8, 11], [4, 12], [0, 2, 0, 1, 2, 3, 4, 5, 6, 7, 8, 9, 10, 11, 12, 13], [14, 13, 0, 1, 2, 3, 4, 5, 6, 7, 8, 9, 10, 11, 12, 13]]
abbrev c90_m6 : List Am.Mark := [⟨false, 0, 0⟩, ⟨false, 0, 0⟩, ⟨false, 0, 0⟩, ⟨false, 0, 0⟩, ⟨false, 0, 0⟩, ⟨false, 0, 0⟩, ⟨false, 0, 0⟩, ⟨false, 0, 0⟩, ⟨false, 0, 0⟩, ⟨false, 0, 0⟩, ⟨false, 0, 0⟩, ⟨false, 0, 0⟩, ⟨false, 0, 0⟩, ⟨false, 0, 0⟩, ⟨false, 0, 0⟩, ⟨true, 0, 1⟩]
theorem c90_d6 : drawFine c90_r6 c90_a6 c90_m6 = true := by decide +kernel
abbrev c90_r7 : List Ins := [
  ⟨some 31, none, .bin .add (.t 13) (.c (.int .i64 1))⟩,
  ⟨some 13, none, .mov (.t 31)⟩]
abbrev c90_l8 : IR := .seq (.reg c90_r4) (.seq (.cond (.t 14) (.skip) (.exit 0)) (.seq (.blk 1 (.seq (.reg c90_r5) (.dreg c90_r6 c90_a6))) (.reg c90_r7)))
abbrev c90_r9 : List Ins := [
  ⟨some 32, none, .mov (.t 3)⟩,
  ⟨some 2, none, .mov (.t 32)⟩]
abbrev c90 : IR := .seq (.reg c90_r1) (.seq (.reg c90_r2) (.seq (.seq (.reg c90_r3) (.blk 0 (.loop c90_l8))) (.seq (.reg c90_r9) (.ret))))
abbrev F90 : FnA := ⟨33, c90, [.t 2]⟩
theorem ok90 : cFn Try.prog 90 = some F90 := by kernel_rfl
theorem hb90 : HasBody Try.prog 90 := ⟨_, Try.func90, by kernel_rfl, by kernel_rfl⟩
/-! codes.Reader.next -/
abbrev c91_r1 : List Ins := [
  ⟨some 4, none, .mov (.c (.int .u64 0))⟩]
abbrev c91_r2 : List Ins := [
  ⟨some 6, none, .mov (.t 0)⟩,
  ⟨some 7, none, .nilck (.t 6)⟩,
  ⟨some 8, none, .faddr 1 (.t 7)⟩,
  ⟨some 9, none, .load 1 false (.t 8)⟩,
  ⟨some 10, none, .mov (.t 9)⟩,
  ⟨some 11, some (10, false), .mov (.t 0)⟩,
  ⟨some 12, some (10, false), .nilck (.t 11)⟩,
  ⟨some 13, some (10, false), .faddr 0 (.t 12)⟩,
  ⟨some 14, some (10, false), .load 1 false (.t 13)⟩,
  ⟨some 15, some (10, false), .len (.t 14)⟩,
  ⟨some 16, some (10, false), .bin .eql (.t 15) (.c (.int .i64 0))⟩,
  ⟨some 17, none, .pick (.t 10) (.c (.bool true)) (.t 16)⟩,
  ⟨some 18, none, .mov (.t 17)⟩,
  ⟨some 19, some (18, false), .mov (.t 1)⟩,
  ⟨some 20, some (18, false), .mov (.t 0)⟩,
  ⟨some 21, some (18, false), .nilck (.t 20)⟩,
  ⟨some 22, some (18, false), .faddr 0 (.t 21)⟩,
  ⟨some 23, some (18, false), .load 1 false (.t 22)⟩,
  ⟨some 24, some (18, false), .iaddr 1 (.t 23) (.c (.int .i64 0))⟩,
  ⟨some 25, some (18, false), .load 1 false (.t 24)⟩,
  ⟨some 26, some (18, false), .call (.t 19) [.t 25]⟩,
  ⟨some 27, some (18, false), .un .not (.t 26)⟩,
  ⟨some 28, none, .pick (.t 18) (.c (.bool true)) (.t 27)⟩]
abbrev c91_r3 : List Ins := [
  ⟨some 29, none, .mov (.t 0)⟩,
  ⟨some 30, none, .nilck (.t 29)⟩,
  ⟨some 31, none, .faddr 1 (.t 30)⟩,
  ⟨none, none, .store 1 (.t 31) (.c (.bool true))⟩]
abbrev c91_r4 : List Ins := [
  ⟨some 4, none, .mov (.c (.int .u64 0))⟩]
abbrev c91_r5 : List Ins := [
  ⟨some 32, none, .mov (.t 0)⟩,
  ⟨some 33, none, .nilck (.t 32)⟩,
  ⟨some 34, none, .faddr 0 (.t 33)⟩,
  ⟨some 35, none, .load 1 false (.t 34)⟩,
  ⟨some 36, none, .iaddr 1 (.t 35) (.c (.int .i64 0))⟩,
  ⟨some 37, none, .load 1 false (.t 36)⟩,
  ⟨some 5, none, .mov (.t 37)⟩]
abbrev c91_r6 : List Ins := [
  ⟨some 38, none, .mov (.t 0)⟩,
  ⟨some 39, none, .mov (.t 0)⟩,
  ⟨some 40, none, .nilck (.t 39)⟩,
  ⟨some 41, none, .faddr 0 (.t 40)⟩,
  ⟨some 42, none, .load 1 false (.t 41)⟩,
  ⟨some 43, none, .slice 1 (.t 42) (some (.c (.int .i64 1))) none none⟩,
  ⟨some 44, none, .nilck (.t 38)⟩,
  ⟨some 45, none, .faddr 0 (.t 44)⟩,
  ⟨none, none, .store 1 (.t 45) (.t 43)⟩]
abbrev c91_r7 : List Ins := [
  ⟨some 46, none, .mov (.t 5)⟩,
  ⟨some 4, none, .mov (.t 46)⟩]
abbrev c91 : IR := .seq (.reg c91_r1) (.seq (.seq (.reg c91_r2) (.cond (.t 28) (.seq (.reg c91_r3) (.seq (.reg c91_r4) (.ret))) (.skip))) (.seq (.reg c91_r5) (.seq (.reg c91_r6) (.seq (.reg c91_r7) (.ret)))))
abbrev F91 : FnA := ⟨47, c91, [.t 4]⟩
theorem ok91 : cFn Try.prog 91 = some F91 := by kernel_rfl
theorem hb91 : HasBody Try.prog 91 := ⟨_, Try.func91, by kernel_rfl, by kernel_rfl⟩
/-! codes.Reader.Count$1 -/
abbrev c92_r1 : List Ins := [
  ⟨some 3, none, .mov (.c (.bool false))⟩]
abbrev c92_r2 : List Ins := [
  ⟨some 4, none, .load 1 false (.t 1)⟩,
  ⟨some 5, none, .bin .geq (.t 4) (.c (.int .i64 0))⟩,
  ⟨some 6, none, .mov (.t 5)⟩,
  ⟨some 7, some (6, true), .mov (.t 0)⟩,
  ⟨some 8, some (6, true), .load 1 false (.t 1)⟩,
  ⟨some 9, some (6, true), .conv .u64 (.t 8)⟩,
  ⟨some 10, some (6, true), .bin .leq (.t 7) (.t 9)⟩,
  ⟨some 11, none, .pick (.t 6) (.t 10) (.c (.bool false))⟩,
  ⟨some 3, none, .mov (.t 11)⟩]
abbrev c92 : IR := .seq (.reg c92_r1) (.seq (.reg c92_r2) (.ret))
abbrev F92 : FnA := ⟨12, c92, [.t 3]⟩
theorem ok92 : cFn Try.prog 92 = some F92 := by kernel_rfl
theorem hb92 : HasBody Try.prog 92 := ⟨_, Try.func92, by kernel_rfl, by kernel_rfl⟩
/-! prog.Get -/
abbrev c93_r1 : List Ins := [
  ⟨some 2, none, .mov (.c (.sl .full []))⟩]
abbrev c93_r2 : List Ins := [
  ⟨some 3, none, .mov (.c (.sl .full []))⟩]
abbrev c93_r3 : List Ins := [
  ⟨some 6, none, .mov (.t 0)⟩,
  ⟨some 7, none, .call (.c (.fn 35 [] [])) [.t 6, .c (.int .i64 8)]⟩,
  ⟨some 8, none, .mov (.c (.int .i64 0))⟩]
abbrev c93_r4 : List Ins := [
  ⟨some 9, none, .bin .lss (.t 8) (.t 7)⟩]
abbrev c93_r5 : List Ins := [
  ⟨some 10, none, .mov (.t 0)⟩,
  ⟨some 11, none, .mkfn 35 [.t 10] []⟩,
  ⟨some 4, none, .mov (.t 11)⟩]
abbrev c93_r6 : List Ins := [
  ⟨some 12, none, .mov (.t 4)⟩,
  ⟨some 13, none, .call (.t 12) [.c (.int .i64 255)]⟩,
  ⟨some 14, none, .mov (.t 4)⟩,
  ⟨some 15, none, .call (.t 14) [.c (.int .i64 255)]⟩,
  ⟨some 16, none, .mov (.t 4)⟩,
  ⟨some 17, none, .call (.t 16) [.c (.int .i64 255)]⟩,
  ⟨some 18, none, .mov (.t 4)⟩,
  ⟨some 19, none, .call (.t 18) [.c (.int .i64 255)]⟩,
  ⟨some 20, none, .build [.int .i64 0, .int .i64 0, .int .i64 0, .int .i64 0, .int .i64 0, .int .i64 0, .int .i64 0, .int .i64 0, .int .i64 0] [(0, (1, .t 13)), (1, (1, .t 15)), (2, (1, .t 17)), (3, (1, .t 19))]⟩,
  ⟨some 5, none, .alloc [.int .i64 0, .int .i64 0, .int .i64 0, .int .i64 0, .int .i64 0, .int .i64 0, .int .i64 0, .int .i64 0, .int .i64 0]⟩,
  ⟨none, none, .store 9 (.t 5) (.t 20)⟩]
abbrev c93_r7 : List Ins := [
  ⟨some 21, none, .mov (.t 0)⟩,
  ⟨some 22, none, .call (.c (.fn 129 [] [])) [.t 21]⟩,
  ⟨some 23, none, .mov (.t 0)⟩,
  ⟨some 24, none, .call (.c (.fn 129 [] [])) [.t 23]⟩,
  ⟨some 25, none, .faddr 4 (.t 5)⟩,
  ⟨none, none, .store 2 (.t 25) (.t 22)⟩,
  ⟨some 26, none, .faddr 6 (.t 5)⟩,
  ⟨none, none, .store 2 (.t 26) (.t 24)⟩]
abbrev c93_r8 : List Ins := [
  ⟨some 27, none, .mov (.t 0)⟩,
  ⟨some 28, none, .call (.c (.fn 121 [] [])) [.t 27]⟩,
  ⟨some 29, none, .faddr 8 (.t 5)⟩,
  ⟨none, none, .store 1 (.t 29) (.t 28)⟩]
abbrev c93_r9 : List Ins := [
  ⟨some 30, none, .mov (.t 3)⟩,
  ⟨some 31, none, .load 9 true (.t 5)⟩,
  ⟨some 32, none, .bsl 9 1 [.int .i64 0, .int .i64 0, .int .i64 0, .int .i64 0, .int .i64 0, .int .i64 0, .int .i64 0, .int .i64 0, .int .i64 0] [(0, .t 31)]⟩,
  ⟨some 33, none, .append 9 72 (.t 30) (.t 32)⟩,
  ⟨some 3, none, .mov (.t 33)⟩]
abbrev c93_r10 : List Ins := [
  ⟨some 34, none, .bin .add (.t 8) (.c (.int .i64 1))⟩,
  ⟨some 8, none, .mov (.t 34)⟩]
abbrev c93_l11 : IR := .seq (.reg c93_r4) (.seq (.cond (.t 9) (.skip) (.exit 0)) (.seq (.blk 1 (.seq (.reg c93_r5) (.seq (.reg c93_r6) (.seq (.reg c93_r7) (.seq (.reg c93_r8) (.reg c93_r9)))))) (.reg c93_r10)))
abbrev c93_r12 : List Ins := [
  ⟨some 35, none, .mov (.t 0)⟩,
  ⟨some 36, none, .call (.c (.fn 14 [] [])) [.t 35]⟩,
  ⟨some 37, none, .un .not (.t 36)⟩]
abbrev c93_r13 : List Ins := [
  ⟨some 2, none, .mov (.c (.sl .full []))⟩]
abbrev c93_r14 : List Ins := [
  ⟨some 38, none, .mov (.t 3)⟩,
  ⟨some 2, none, .mov (.t 38)⟩]
abbrev c93 : IR := .seq (.reg c93_r1) (.seq (.reg c93_r2) (.seq (.seq (.reg c93_r3) (.blk 0 (.loop c93_l11))) (.seq (.seq (.reg c93_r12) (.cond (.t 37) (.seq (.reg c93_r13) (.ret)) (.skip))) (.seq (.reg c93_r14) (.ret)))))
abbrev F93 : FnA := ⟨39, c93, [.t 2]⟩
theorem ok93 : cFn Try.prog 93 = some F93 := by kernel_rfl
theorem hb93 : HasBody Try.prog 93 := ⟨_, Try.func93, by kernel_rfl, by kernel_rfl⟩
/-! foot.Get -/
abbrev c94_r1 : List Ins := [
  ⟨some 2, none, .mov (.c (.sl .full []))⟩]
abbrev c94_r2 : List Ins := [
  ⟨some 3, none, .mov (.c (.sl .full []))⟩]
abbrev c94_r3 : List Ins := [
  ⟨some 6, none, .mov (.t 0)⟩,
  ⟨some 7, none, .call (.c (.fn 35 [] [])) [.t 6, .c (.int .i64 4)]⟩,
  ⟨some 8, none, .mov (.c (.int .i64 0))⟩]
abbrev c94_r4 : List Ins := [
  ⟨some 9, none, .bin .lss (.t 8) (.t 7)⟩]
abbrev c94_r5 : List Ins := [
  ⟨some 10, none, .mov (.t 0)⟩,
  ⟨some 11, none, .call (.c (.fn 130 [] [])) [.t 10]⟩,
  ⟨some 12, none, .mov (.t 0)⟩,
  ⟨some 13, none, .call (.c (.fn 130 [] [])) [.t 12]⟩,
  ⟨some 4, none, .alloc [.int .i64 0, .int .i64 0]⟩,
  ⟨some 5, none, .alloc [.int .i64 0, .int .i64 0]⟩,
  ⟨none, none, .store 2 (.t 4) (.t 11)⟩,
  ⟨none, none, .store 2 (.t 5) (.t 13)⟩]
abbrev c94_r6 : List Ins := [
  ⟨some 14, none, .mov (.t 3)⟩,
  ⟨some 15, none, .load 2 true (.t 4)⟩,
  ⟨some 16, none, .load 2 true (.t 5)⟩,
  ⟨some 17, none, .mov (.t 0)⟩,
  ⟨some 18, none, .call (.c (.fn 37 [] [])) [.t 17]⟩,
  ⟨some 19, none, .build [.int .i64 0, .int .i64 0, .int .i64 0, .int .i64 0, .bool false] [(0, (2, .t 15)), (2, (2, .t 16)), (4, (1, .t 18))]⟩,
  ⟨some 20, none, .bsl 5 1 [.int .i64 0, .int .i64 0, .int .i64 0, .int .i64 0, .bool false] [(0, .t 19)]⟩,
  ⟨some 21, none, .append 5 40 (.t 14) (.t 20)⟩,
  ⟨some 3, none, .mov (.t 21)⟩]
def c94_a6 : List (List Nat) := [[], [], [], [], [3], [1, 2, 4], [5], [0, 6, 4], [7, 7, 0, 1, 2, 3, 4, 5, 6, 7]]
abbrev c94_m6 : List Am.Mark := [⟨false, 0, 1⟩, ⟨false, 0, 2⟩, ⟨false, 0, 2⟩, ⟨false, 0, 0⟩, ⟨true, 0, 1⟩, ⟨false, 1, 2⟩, ⟨false, 1, 1⟩, ⟨true, 1, 2⟩, ⟨false, 2, 2⟩]
theorem c94_d6 : drawFine c94_r6 c94_a6 c94_m6 = true := by decide +kernel
abbrev c94_r7 : List Ins := [
  ⟨some 22, none, .bin .add (.t 8) (.c (.int .i64 1))⟩,
  ⟨some 8, none, .mov (.t 22)⟩]
abbrev c94_l8 : IR := .seq (.reg c94_r4) (.seq (.cond (.t 9) (.skip) (.exit 0)) (.seq (.blk 1 (.seq (.reg c94_r5) (.dreg c94_r6 c94_a6))) (.reg c94_r7)))
abbrev c94_r9 : List Ins := [
  ⟨some 23, none, .mov (.t 0)⟩,
  ⟨some 24, none, .call (.c (.fn 14 [] [])) [.t 23]⟩,
  ⟨some 25, none, .un .not (.t 24)⟩]
abbrev c94_r10 : List Ins := [
  ⟨some 2, none, .mov (.c (.sl .full []))⟩]
abbrev c94_r11 : List Ins := [
  ⟨some 26, none, .mov (.t 3)⟩,
  ⟨some 2, none, .mov (.t 26)⟩]
abbrev c94 : IR := .seq (.reg c94_r1) (.seq (.reg c94_r2) (.seq (.seq (.reg c94_r3) (.blk 0 (.loop c94_l8))) (.seq (.seq (.reg c94_r9) (.cond (.t 25) (.seq (.reg c94_r10) (.ret)) (.skip))) (.seq (.reg c94_r11) (.ret)))))
abbrev F94 : FnA := ⟨27, c94, [.t 2]⟩
theorem ok94 : cFn Try.prog 94 = some F94 := by kernel_rfl
theorem hb94 : HasBody Try.prog 94 := ⟨_, Try.func94, by kernel_rfl, by kernel_rfl⟩
/-! ref01.Read -/
abbrev c95_r1 : List Ins := [
  ⟨some 6, none, .alloc [.int .i64 0, .int .i64 0, .int .i64 0, .int .i64 0, .str ⟨#[]⟩, .sl .full []]⟩,
  ⟨some 7, none, .mov (.c (.sl .full []))⟩,
  ⟨some 8, none, .mov (.c (.bool false))⟩]
abbrev c95_r2 : List Ins := [
  ⟨some 18, none, .mov (.t 1)⟩,
  ⟨some 19, none, .mov (.t 2)⟩,
  ⟨some 20, none, .build [.int .i64 0, .int .i64 0, .int .i64 0, .int .i64 0, .str ⟨#[]⟩, .sl .full []] [(0, (1, .t 18)), (2, (1, .t 19))]⟩,
  ⟨some 9, none, .alloc [.int .i64 0, .int .i64 0, .int .i64 0, .int .i64 0, .str ⟨#[]⟩, .sl .full []]⟩,
  ⟨none, none, .store 6 (.t 9) (.t 20)⟩]
abbrev c95_r3 : List Ins := [
  ⟨some 21, none, .mov (.t 0)⟩,
  ⟨some 22, none, .len (.t 21)⟩,
  ⟨some 23, none, .bin .eql (.t 22) (.c (.int .i64 0))⟩]
abbrev c95_r4 : List Ins := [
  ⟨some 24, none, .load 6 true (.t 9)⟩,
  ⟨some 25, none, .mov (.t 0)⟩,
  ⟨none, none, .store 6 (.t 6) (.t 24)⟩,
  ⟨some 7, none, .mov (.t 25)⟩,
  ⟨some 8, none, .mov (.c (.bool false))⟩]
abbrev c95_r5 : List Ins := [
  ⟨some 26, none, .mov (.t 0)⟩,
  ⟨some 27, none, .iaddr 1 (.t 26) (.c (.int .i64 0))⟩,
  ⟨some 28, none, .load 1 false (.t 27)⟩,
  ⟨some 10, none, .mov (.t 28)⟩]
abbrev c95_r6 : List Ins := [
  ⟨some 29, none, .mov (.t 0)⟩,
  ⟨some 30, none, .slice 1 (.t 29) (some (.c (.int .i64 1))) none none⟩,
  ⟨some 11, none, .mov (.t 30)⟩]
abbrev c95_r7 : List Ins := [
  ⟨some 31, none, .mov (.t 1)⟩,
  ⟨some 32, none, .bin .eql (.t 31) (.c (.int .i64 1))⟩]
abbrev c95_r8 : List Ins := [
  ⟨some 33, none, .mov (.t 10)⟩,
  ⟨some 34, none, .call (.c (.fn 131 [] [])) [.t 33]⟩,
  ⟨some 35, none, .faddr 3 (.t 9)⟩,
  ⟨none, none, .store 1 (.t 35) (.t 34)⟩]
abbrev c95_r9 : List Ins := [
  ⟨some 36, none, .load 6 true (.t 9)⟩,
  ⟨some 37, none, .mov (.t 11)⟩,
  ⟨none, none, .store 6 (.t 6) (.t 36)⟩,
  ⟨some 7, none, .mov (.t 37)⟩,
  ⟨some 8, none, .mov (.c (.bool true))⟩]
abbrev c95_r10 : List Ins := [
  ⟨some 38, none, .mov (.t 1)⟩,
  ⟨some 39, none, .bin .eql (.t 38) (.c (.int .i64 2))⟩]
abbrev c95_r11 : List Ins := [
  ⟨some 2, none, .mov (.c (.int .i64 1))⟩]
abbrev c95_r12 : List Ins := [
  ⟨some 40, none, .mov (.t 1)⟩,
  ⟨some 41, none, .bin .eql (.t 40) (.c (.int .i64 3))⟩]
abbrev c95_r13 : List Ins := [
  ⟨some 2, none, .mov (.c (.int .i64 64))⟩]
abbrev c95_r14 : List Ins := [
  ⟨some 42, none, .mov (.t 2)⟩,
  ⟨some 43, none, .bin .lss (.t 42) (.c (.int .i64 0))⟩,
  ⟨some 44, none, .mov (.t 43)⟩,
  ⟨some 45, some (44, false), .mov (.t 10)⟩,
  ⟨some 46, some (44, false), .mov (.t 2)⟩,
  ⟨some 47, some (44, false), .conv .u64 (.t 46)⟩,
  ⟨some 48, some (44, false), .bin .gtr (.t 45) (.t 47)⟩,
  ⟨some 49, none, .pick (.t 44) (.c (.bool true)) (.t 48)⟩]
abbrev c95_r15 : List Ins := [
  ⟨some 50, none, .load 6 true (.t 9)⟩,
  ⟨some 51, none, .mov (.t 0)⟩,
  ⟨none, none, .store 6 (.t 6) (.t 50)⟩,
  ⟨some 7, none, .mov (.t 51)⟩,
  ⟨some 8, none, .mov (.c (.bool false))⟩]
abbrev c95_r16 : List Ins := [
  ⟨some 52, none, .mov (.t 10)⟩,
  ⟨some 53, none, .conv .i64 (.t 52)⟩,
  ⟨some 12, none, .mov (.t 53)⟩]
abbrev c95_r17 : List Ins := [
  ⟨some 54, none, .mov (.t 1)⟩,
  ⟨some 55, none, .bin .eql (.t 54) (.c (.int .i64 0))⟩,
  ⟨some 56, none, .mov (.t 55)⟩,
  ⟨some 57, some (56, false), .mov (.t 1)⟩,
  ⟨some 58, some (56, false), .bin .eql (.t 57) (.c (.int .i64 2))⟩,
  ⟨some 59, none, .pick (.t 56) (.c (.bool true)) (.t 58)⟩]
abbrev c95_r18 : List Ins := [
  ⟨some 60, none, .mov (.t 12)⟩,
  ⟨some 61, none, .faddr 1 (.t 9)⟩,
  ⟨none, none, .store 1 (.t 61) (.t 60)⟩]
abbrev c95_r19 : List Ins := [
  ⟨some 62, none, .load 6 true (.t 9)⟩,
  ⟨some 63, none, .mov (.t 11)⟩,
  ⟨none, none, .store 6 (.t 6) (.t 62)⟩,
  ⟨some 7, none, .mov (.t 63)⟩,
  ⟨some 8, none, .mov (.c (.bool true))⟩]
abbrev c95_r20 : List Ins := [
  ⟨some 64, none, .mov (.t 12)⟩,
  ⟨some 13, none, .mov (.t 64)⟩]
abbrev c95_r21 : List Ins := [
  ⟨some 65, none, .mov (.t 1)⟩,
  ⟨some 66, none, .bin .eql (.t 65) (.c (.int .i64 3))⟩]
abbrev c95_r22 : List Ins := [
  ⟨some 67, none, .mov (.t 12)⟩,
  ⟨some 68, none, .bin .add (.t 67) (.c (.int .i64 7))⟩,
  ⟨some 69, none, .bin .quo (.t 68) (.c (.int .i64 8))⟩,
  ⟨some 13, none, .mov (.t 69)⟩]
abbrev c95_r23 : List Ins := [
  ⟨some 70, none, .mov (.t 13)⟩,
  ⟨some 71, none, .mov (.t 11)⟩,
  ⟨some 72, none, .len (.t 71)⟩,
  ⟨some 73, none, .bin .gtr (.t 70) (.t 72)⟩]
abbrev c95_r24 : List Ins := [
  ⟨some 74, none, .load 6 true (.t 9)⟩,
  ⟨some 75, none, .mov (.t 0)⟩,
  ⟨none, none, .store 6 (.t 6) (.t 74)⟩,
  ⟨some 7, none, .mov (.t 75)⟩,
  ⟨some 8, none, .mov (.c (.bool false))⟩]
abbrev c95_r25 : List Ins := [
  ⟨some 76, none, .bsl 1 0 [.int .u64 0] []⟩,
  ⟨some 77, none, .mov (.t 11)⟩,
  ⟨some 78, none, .mov (.t 13)⟩,
  ⟨some 79, none, .slice 1 (.t 77) none (some (.t 78)) none⟩,
  ⟨some 80, none, .append 1 8 (.t 76) (.t 79)⟩,
  ⟨some 81, none, .faddr 5 (.t 9)⟩,
  ⟨none, none, .store 1 (.t 81) (.t 80)⟩]
abbrev c95_r26 : List Ins := [
  ⟨some 82, none, .mov (.t 1)⟩,
  ⟨some 83, none, .bin .eql (.t 82) (.c (.int .i64 3))⟩]
abbrev c95_r27 : List Ins := [
  ⟨some 14, none, .mov (.c (.sl .full []))⟩]
abbrev c95_r28 : List Ins := [
  ⟨some 15, none, .mov (.c (.int .i64 0))⟩]
abbrev c95_r29 : List Ins := [
  ⟨some 84, none, .mov (.t 15)⟩,
  ⟨some 85, none, .mov (.t 13)⟩,
  ⟨some 86, none, .bin .mul (.c (.int .i64 8)) (.t 85)⟩,
  ⟨some 87, none, .bin .lss (.t 84) (.t 86)⟩]
abbrev c95_r30 : List Ins := [
  ⟨some 90, none, .faddr 5 (.t 9)⟩,
  ⟨some 91, none, .load 1 false (.t 90)⟩,
  ⟨some 92, none, .mov (.t 15)⟩,
  ⟨some 93, none, .bin .quo (.t 92) (.c (.int .i64 8))⟩,
  ⟨some 94, none, .iaddr 1 (.t 91) (.t 93)⟩,
  ⟨some 95, none, .load 1 false (.t 94)⟩,
  ⟨some 16, none, .mov (.t 95)⟩]
abbrev c95_r31 : List Ins := [
  ⟨some 17, none, .mov (.c (.int .i64 0))⟩]
abbrev c95_r32 : List Ins := [
  ⟨some 96, none, .mov (.t 17)⟩,
  ⟨some 97, none, .mov (.t 15)⟩,
  ⟨some 98, none, .bin .rem (.t 97) (.c (.int .i64 8))⟩,
  ⟨some 99, none, .bin .lss (.t 96) (.t 98)⟩]
abbrev c95_r33 : List Ins := [
  ⟨some 102, none, .mov (.t 16)⟩,
  ⟨some 103, none, .bin .quo (.t 102) (.c (.int .u64 256))⟩,
  ⟨some 16, none, .mov (.t 103)⟩]
abbrev c95_r34 : List Ins := [
  ⟨some 100, none, .mov (.t 17)⟩,
  ⟨some 101, none, .bin .add (.t 100) (.c (.int .i64 1))⟩,
  ⟨some 17, none, .mov (.t 101)⟩]
abbrev c95_l35 : IR := .seq (.seq (.reg c95_r32) (.cond (.t 99) (.skip) (.exit 2))) (.seq (.blk 3 (.reg c95_r33)) (.reg c95_r34))
abbrev c95_r36 : List Ins := [
  ⟨some 104, none, .mov (.t 15)⟩,
  ⟨some 105, none, .mov (.t 12)⟩,
  ⟨some 106, none, .bin .lss (.t 104) (.t 105)⟩]
abbrev c95_r37 : List Ins := [
  ⟨some 107, none, .mov (.t 14)⟩,
  ⟨some 108, none, .mov (.t 16)⟩,
  ⟨some 109, none, .bin .rem (.t 108) (.c (.int .u64 256))⟩,
  ⟨some 110, none, .conv .u8 (.t 109)⟩,
  ⟨some 111, none, .bsl 1 1 [.int .u8 0] [(0, .t 110)]⟩,
  ⟨some 112, none, .append 1 1 (.t 107) (.t 111)⟩,
  ⟨some 14, none, .mov (.t 112)⟩]
abbrev c95_r38 : List Ins := [
  ⟨some 113, none, .mov (.t 16)⟩,
  ⟨some 114, none, .bin .rem (.t 113) (.c (.int .u64 256))⟩,
  ⟨some 115, none, .bin .neq (.t 114) (.c (.int .u64 0))⟩]
abbrev c95_r39 : List Ins := [
  ⟨some 116, none, .load 6 true (.t 9)⟩,
  ⟨some 117, none, .mov (.t 0)⟩,
  ⟨none, none, .store 6 (.t 6) (.t 116)⟩,
  ⟨some 7, none, .mov (.t 117)⟩,
  ⟨some 8, none, .mov (.c (.bool false))⟩]
abbrev c95_r40 : List Ins := [
  ⟨some 88, none, .mov (.t 15)⟩,
  ⟨some 89, none, .bin .add (.t 88) (.c (.int .i64 1))⟩,
  ⟨some 15, none, .mov (.t 89)⟩]
abbrev c95_l41 : IR := .seq (.seq (.reg c95_r29) (.cond (.t 87) (.skip) (.exit 0))) (.seq (.blk 1 (.seq (.reg c95_r30) (.seq (.seq (.reg c95_r31) (.blk 2 (.loop c95_l35))) (.seq (.reg c95_r36) (.cond (.t 106) (.reg c95_r37) (.seq (.reg c95_r38) (.cond (.t 115) (.seq (.reg c95_r39) (.ret)) (.skip)))))))) (.reg c95_r40))
abbrev c95_r42 : List Ins := [
  ⟨some 118, none, .mov (.t 14)⟩,
  ⟨some 119, none, .b2s (.t 118)⟩,
  ⟨some 120, none, .faddr 4 (.t 9)⟩,
  ⟨none, none, .store 1 (.t 120) (.t 119)⟩]
abbrev c95_r43 : List Ins := [
  ⟨some 121, none, .load 6 true (.t 9)⟩,
  ⟨some 122, none, .mov (.t 11)⟩,
  ⟨some 123, none, .mov (.t 13)⟩,
  ⟨some 124, none, .slice 1 (.t 122) (some (.t 123)) none none⟩,
  ⟨none, none, .store 6 (.t 6) (.t 121)⟩,
  ⟨some 7, none, .mov (.t 124)⟩,
  ⟨some 8, none, .mov (.c (.bool true))⟩]
def c95_a43 : List (List Nat) := [[], [], [], [1, 2], [0, 0], [3, 4, 0, 1, 2, 3, 4], [5, 0, 1, 2, 3, 4, 5]]
abbrev c95_m43 : List Am.Mark := [⟨false, 0, 0⟩, ⟨false, 0, 1⟩, ⟨false, 0, 1⟩, ⟨false, 0, 1⟩, ⟨true, 0, 1⟩, ⟨false, 1, 1⟩, ⟨false, 1, 1⟩]
theorem c95_d43 : drawFine c95_r43 c95_a43 c95_m43 = true := by decide +kernel
abbrev c95 : IR := .seq (.reg c95_r1) (.seq (.reg c95_r2) (.seq (.seq (.reg c95_r3) (.cond (.t 23) (.seq (.reg c95_r4) (.ret)) (.skip))) (.seq (.reg c95_r5) (.seq (.reg c95_r6) (.seq (.seq (.reg c95_r7) (.cond (.t 32) (.seq (.reg c95_r8) (.seq (.reg c95_r9) (.ret))) (.skip))) (.seq (.seq (.reg c95_r10) (.cond (.t 39) (.reg c95_r11) (.skip))) (.seq (.seq (.reg c95_r12) (.cond (.t 41) (.reg c95_r13) (.skip))) (.seq (.seq (.reg c95_r14) (.cond (.t 49) (.seq (.reg c95_r15) (.ret)) (.skip))) (.seq (.reg c95_r16) (.seq (.seq (.reg c95_r17) (.cond (.t 59) (.seq (.reg c95_r18) (.seq (.reg c95_r19) (.ret))) (.skip))) (.seq (.reg c95_r20) (.seq (.seq (.reg c95_r21) (.cond (.t 66) (.reg c95_r22) (.skip))) (.seq (.seq (.reg c95_r23) (.cond (.t 73) (.seq (.reg c95_r24) (.ret)) (.skip))) (.seq (.reg c95_r25) (.seq (.seq (.reg c95_r26) (.cond (.t 83) (.seq (.reg c95_r27) (.seq (.seq (.reg c95_r28) (.blk 0 (.loop c95_l41))) (.reg c95_r42))) (.skip))) (.seq (.dreg c95_r43 c95_a43) (.ret)))))))))))))))))
abbrev F95 : FnA := ⟨125, c95, [.cell 6 6 true, .t 7, .t 8]⟩
theorem ok95 : cFn Try.prog 95 = some F95 := by kernel_rfl
theorem hb95 : HasBody Try.prog 95 := ⟨_, Try.func95, by kernel_rfl, by kernel_rfl⟩
/-! ref09.Reader.key -/
abbrev c96_r1 : List Ins := [
  ⟨some 2, none, .alloc [.int .i64 0, .int .i64 0]⟩]
abbrev c96_r2 : List Ins := [
  ⟨some 5, none, .mov (.t 0)⟩,
  ⟨some 6, none, .call (.c (.fn 38 [] [])) [.t 5, .c (.int .i64 1), .c (.int .i64 0)]⟩,
  ⟨some 7, none, .fld 3 1 false (.t 6)⟩,
  ⟨some 3, none, .mov (.t 7)⟩]
abbrev c96_r3 : List Ins := [
  ⟨some 8, none, .mov (.t 0)⟩,
  ⟨some 9, none, .call (.c (.fn 38 [] [])) [.t 8, .c (.int .i64 0), .c (.int .i64 999)]⟩,
  ⟨some 10, none, .fld 1 1 false (.t 9)⟩,
  ⟨some 4, none, .mov (.t 10)⟩]
abbrev c96_r4 : List Ins := [
  ⟨some 11, none, .mov (.t 3)⟩,
  ⟨some 12, none, .bin .lss (.t 11) (.c (.int .i64 (-1)))⟩,
  ⟨some 13, none, .mov (.t 12)⟩,
  ⟨some 14, some (13, false), .mov (.t 3)⟩,
  ⟨some 15, some (13, false), .bin .gtr (.t 14) (.c (.int .i64 255))⟩,
  ⟨some 16, none, .pick (.t 13) (.c (.bool true)) (.t 15)⟩]
abbrev c96_r5 : List Ins := [
  ⟨some 17, none, .mov (.t 0)⟩,
  ⟨some 18, none, .nilck (.t 17)⟩,
  ⟨some 19, none, .faddr 1 (.t 18)⟩,
  ⟨none, none, .store 1 (.t 19) (.c (.bool true))⟩]
abbrev c96_r6 : List Ins := [
  ⟨some 20, none, .mov (.t 3)⟩,
  ⟨some 21, none, .mov (.t 4)⟩,
  ⟨some 22, none, .build [.int .i64 0, .int .i64 0] [(0, (1, .t 20)), (1, (1, .t 21))]⟩,
  ⟨none, none, .store 2 (.t 2) (.t 22)⟩]
abbrev c96 : IR := .seq (.reg c96_r1) (.seq (.reg c96_r2) (.seq (.reg c96_r3) (.seq (.seq (.reg c96_r4) (.cond (.t 16) (.reg c96_r5) (.skip))) (.seq (.reg c96_r6) (.ret)))))
abbrev F96 : FnA := ⟨23, c96, [.cell 2 2 true]⟩
theorem ok96 : cFn Try.prog 96 = some F96 := by kernel_rfl
theorem hb96 : HasBody Try.prog 96 := ⟨_, Try.func96, by kernel_rfl, by kernel_rfl⟩
/-! ref09.May -/
abbrev c97_r1 : List Ins := [
  ⟨some 4, none, .mov (.c (.bool false))⟩]
abbrev c97_r2 : List Ins := [
  ⟨some 6, none, .mov (.t 1)⟩,
  ⟨some 7, none, .bin .lss (.t 6) (.c (.int .i64 0))⟩,
  ⟨some 8, none, .mov (.t 7)⟩,
  ⟨some 9, some (8, false), .mov (.t 1)⟩,
  ⟨some 10, some (8, false), .bin .gtr (.t 9) (.c (.int .i64 3))⟩,
  ⟨some 11, none, .pick (.t 8) (.c (.bool true)) (.t 10)⟩,
  ⟨some 12, none, .mov (.t 11)⟩,
  ⟨some 13, some (12, false), .mov (.t 0)⟩,
  ⟨some 14, some (12, false), .len (.t 13)⟩,
  ⟨some 15, some (12, false), .bin .lss (.t 14) (.c (.int .i64 1))⟩,
  ⟨some 16, none, .pick (.t 12) (.c (.bool true)) (.t 15)⟩,
  ⟨some 17, none, .mov (.t 16)⟩,
  ⟨some 18, some (17, false), .mov (.t 0)⟩,
  ⟨some 19, some (17, false), .len (.t 18)⟩,
  ⟨some 20, some (17, false), .bin .gtr (.t 19) (.c (.int .i64 8))⟩,
  ⟨some 21, none, .pick (.t 17) (.c (.bool true)) (.t 20)⟩]
abbrev c97_r3 : List Ins := [
  ⟨some 4, none, .mov (.c (.bool false))⟩]
abbrev c97_r4 : List Ins := [
  ⟨some 5, none, .mov (.c (.int .i64 0))⟩]
abbrev c97_r5 : List Ins := [
  ⟨some 22, none, .mov (.t 5)⟩,
  ⟨some 23, none, .mov (.t 0)⟩,
  ⟨some 24, none, .len (.t 23)⟩,
  ⟨some 25, none, .bin .lss (.t 22) (.t 24)⟩]
abbrev c97_r6 : List Ins := [
  ⟨some 28, none, .mov (.t 0)⟩,
  ⟨some 29, none, .mov (.t 5)⟩,
  ⟨some 30, none, .iaddr 9 (.t 28) (.t 29)⟩,
  ⟨some 31, none, .load 9 true (.t 30)⟩,
  ⟨some 32, none, .mov (.t 1)⟩,
  ⟨some 33, none, .call (.c (.fn 132 [] [])) [.t 31, .t 32]⟩,
  ⟨some 34, none, .un .not (.t 33)⟩]
abbrev c97_r7 : List Ins := [
  ⟨some 4, none, .mov (.c (.bool false))⟩]
abbrev c97_r8 : List Ins := [
  ⟨some 26, none, .mov (.t 5)⟩,
  ⟨some 27, none, .bin .add (.t 26) (.c (.int .i64 1))⟩,
  ⟨some 5, none, .mov (.t 27)⟩]
abbrev c97_l9 : IR := .seq (.seq (.reg c97_r5) (.cond (.t 25) (.skip) (.exit 0))) (.seq (.blk 1 (.seq (.reg c97_r6) (.cond (.t 34) (.seq (.reg c97_r7) (.ret)) (.skip)))) (.reg c97_r8))
abbrev c97_r10 : List Ins := [
  ⟨some 4, none, .mov (.c (.bool true))⟩]
abbrev c97 : IR := .seq (.reg c97_r1) (.seq (.seq (.reg c97_r2) (.cond (.t 21) (.seq (.reg c97_r3) (.ret)) (.skip))) (.seq (.seq (.reg c97_r4) (.blk 0 (.loop c97_l9))) (.seq (.reg c97_r10) (.ret))))
abbrev F97 : FnA := ⟨35, c97, [.t 4]⟩
theorem ok97 : cFn Try.prog 97 = some F97 := by kernel_rfl
theorem hb97 : HasBody Try.prog 97 := ⟨_, Try.func97, by kernel_rfl, by kernel_rfl⟩
/-! ref10.May -/
abbrev c98_r1 : List Ins := [
  ⟨some 4, none, .mov (.c (.bool false))⟩]
abbrev c98_r2 : List Ins := [
  ⟨some 6, none, .mov (.t 1)⟩,
  ⟨some 7, none, .bin .lss (.t 6) (.c (.int .i64 0))⟩,
  ⟨some 8, none, .mov (.t 7)⟩,
  ⟨some 9, some (8, false), .mov (.t 1)⟩,
  ⟨some 10, some (8, false), .bin .gtr (.t 9) (.c (.int .i64 3))⟩,
  ⟨some 11, none, .pick (.t 8) (.c (.bool true)) (.t 10)⟩,
  ⟨some 12, none, .mov (.t 11)⟩,
  ⟨some 13, some (12, false), .mov (.t 0)⟩,
  ⟨some 14, some (12, false), .len (.t 13)⟩,
  ⟨some 15, some (12, false), .bin .gtr (.t 14) (.c (.int .i64 4))⟩,
  ⟨some 16, none, .pick (.t 12) (.c (.bool true)) (.t 15)⟩]
abbrev c98_r3 : List Ins := [
  ⟨some 4, none, .mov (.c (.bool false))⟩]
abbrev c98_r4 : List Ins := [
  ⟨some 5, none, .mov (.c (.int .i64 0))⟩]
abbrev c98_r5 : List Ins := [
  ⟨some 17, none, .mov (.t 5)⟩,
  ⟨some 18, none, .mov (.t 0)⟩,
  ⟨some 19, none, .len (.t 18)⟩,
  ⟨some 20, none, .bin .lss (.t 17) (.t 19)⟩]
abbrev c98_r6 : List Ins := [
  ⟨some 23, none, .mov (.t 0)⟩,
  ⟨some 24, none, .mov (.t 5)⟩,
  ⟨some 25, none, .iaddr 5 (.t 23) (.t 24)⟩,
  ⟨some 26, none, .faddr 0 (.t 25)⟩,
  ⟨some 27, none, .load 2 true (.t 26)⟩,
  ⟨some 28, none, .mov (.t 1)⟩,
  ⟨some 29, none, .call (.c (.fn 133 [] [])) [.t 27, .t 28]⟩,
  ⟨some 30, none, .un .not (.t 29)⟩,
  ⟨some 31, none, .mov (.t 30)⟩,
  ⟨some 32, some (31, false), .mov (.t 0)⟩,
  ⟨some 33, some (31, false), .mov (.t 5)⟩,
  ⟨some 34, some (31, false), .iaddr 5 (.t 32) (.t 33)⟩,
  ⟨some 35, some (31, false), .faddr 2 (.t 34)⟩,
  ⟨some 36, some (31, false), .load 2 true (.t 35)⟩,
  ⟨some 37, some (31, false), .mov (.t 1)⟩,
  ⟨some 38, some (31, false), .call (.c (.fn 133 [] [])) [.t 36, .t 37]⟩,
  ⟨some 39, some (31, false), .un .not (.t 38)⟩,
  ⟨some 40, none, .pick (.t 31) (.c (.bool true)) (.t 39)⟩]
abbrev c98_r7 : List Ins := [
  ⟨some 4, none, .mov (.c (.bool false))⟩]
abbrev c98_r8 : List Ins := [
  ⟨some 21, none, .mov (.t 5)⟩,
  ⟨some 22, none, .bin .add (.t 21) (.c (.int .i64 1))⟩,
  ⟨some 5, none, .mov (.t 22)⟩]
abbrev c98_l9 : IR := .seq (.seq (.reg c98_r5) (.cond (.t 20) (.skip) (.exit 0))) (.seq (.blk 1 (.seq (.reg c98_r6) (.cond (.t 40) (.seq (.reg c98_r7) (.ret)) (.skip)))) (.reg c98_r8))
abbrev c98_r10 : List Ins := [
  ⟨some 4, none, .mov (.c (.bool true))⟩]
abbrev c98 : IR := .seq (.reg c98_r1) (.seq (.seq (.reg c98_r2) (.cond (.t 16) (.seq (.reg c98_r3) (.ret)) (.skip))) (.seq (.seq (.reg c98_r4) (.blk 0 (.loop c98_l9))) (.seq (.reg c98_r10) (.ret))))
abbrev F98 : FnA := ⟨41, c98, [.t 4]⟩
theorem ok98 : cFn Try.prog 98 = some F98 := by kernel_rfl
theorem hb98 : HasBody Try.prog 98 := ⟨_, Try.func98, by kernel_rfl, by kernel_rfl⟩
/-! ref09.Same -/
abbrev c99_r1 : List Ins := [
  ⟨some 4, none, .mov (.c (.bool false))⟩]
abbrev c99_r2 : List Ins := [
  ⟨some 6, none, .mov (.t 0)⟩,
  ⟨some 7, none, .len (.t 6)⟩,
  ⟨some 8, none, .mov (.t 1)⟩,
  ⟨some 9, none, .len (.t 8)⟩,
  ⟨some 10, none, .bin .neq (.t 7) (.t 9)⟩]
abbrev c99_r3 : List Ins := [
  ⟨some 4, none, .mov (.c (.bool false))⟩]
abbrev c99_r4 : List Ins := [
  ⟨some 5, none, .mov (.c (.int .i64 0))⟩]
abbrev c99_r5 : List Ins := [
  ⟨some 11, none, .mov (.t 5)⟩,
  ⟨some 12, none, .mov (.t 0)⟩,
  ⟨some 13, none, .len (.t 12)⟩,
  ⟨some 14, none, .bin .lss (.t 11) (.t 13)⟩]
abbrev c99_r6 : List Ins := [
  ⟨some 17, none, .mov (.t 0)⟩,
  ⟨some 18, none, .mov (.t 5)⟩,
  ⟨some 19, none, .iaddr 9 (.t 17) (.t 18)⟩,
  ⟨some 20, none, .load 9 true (.t 19)⟩,
  ⟨some 21, none, .mov (.t 1)⟩,
  ⟨some 22, none, .mov (.t 5)⟩,
  ⟨some 23, none, .iaddr 9 (.t 21) (.t 22)⟩,
  ⟨some 24, none, .load 9 true (.t 23)⟩,
  ⟨some 25, none, .eq [.i, .i, .i, .i, .i, .i, .i, .i, .i] true true (.t 20) (.t 24)⟩]
def c99_a6 : List (List Nat) := [[], [], [0, 1], [2], [], [], [4, 5], [6], [3, 7]]
abbrev c99_m6 : List Am.Mark := [⟨false, 0, 0⟩, ⟨false, 0, 0⟩, ⟨false, 0, 0⟩, ⟨false, 0, 0⟩, ⟨false, 0, 0⟩, ⟨false, 0, 0⟩, ⟨false, 0, 0⟩, ⟨false, 0, 0⟩, ⟨false, 0, 0⟩]
theorem c99_d6 : drawFine c99_r6 c99_a6 c99_m6 = true := by decide +kernel
abbrev c99_r7 : List Ins := [
  ⟨some 4, none, .mov (.c (.bool false))⟩]
abbrev c99_r8 : List Ins := [
  ⟨some 15, none, .mov (.t 5)⟩,
  ⟨some 16, none, .bin .add (.t 15) (.c (.int .i64 1))⟩,
  ⟨some 5, none, .mov (.t 16)⟩]
abbrev c99_l9 : IR := .seq (.seq (.reg c99_r5) (.cond (.t 14) (.skip) (.exit 0))) (.seq (.blk 1 (.seq (.dreg c99_r6 c99_a6) (.cond (.t 25) (.seq (.reg c99_r7) (.ret)) (.skip)))) (.reg c99_r8))
abbrev c99_r10 : List Ins := [
  ⟨some 4, none, .mov (.c (.bool true))⟩]
abbrev c99 : IR := .seq (.reg c99_r1) (.seq (.seq (.reg c99_r2) (.cond (.t 10) (.seq (.reg c99_r3) (.ret)) (.skip))) (.seq (.seq (.reg c99_r4) (.blk 0 (.loop c99_l9))) (.seq (.reg c99_r10) (.ret))))
abbrev F99 : FnA := ⟨26, c99, [.t 4]⟩
theorem ok99 : cFn Try.prog 99 = some F99 := by kernel_rfl
theorem hb99 : HasBody Try.prog 99 := ⟨_, Try.func99, by kernel_rfl, by kernel_rfl⟩
/-! ref10.Same -/
abbrev c100_r1 : List Ins := [
  ⟨some 4, none, .mov (.c (.bool false))⟩]
abbrev c100_r2 : List Ins := [
  ⟨some 6, none, .mov (.t 0)⟩,
  ⟨some 7, none, .len (.t 6)⟩,
  ⟨some 8, none, .mov (.t 1)⟩,
  ⟨some 9, none, .len (.t 8)⟩,
  ⟨some 10, none, .bin .neq (.t 7) (.t 9)⟩]
abbrev c100_r3 : List Ins := [
  ⟨some 4, none, .mov (.c (.bool false))⟩]
abbrev c100_r4 : List Ins := [
  ⟨some 5, none, .mov (.c (.int .i64 0))⟩]
abbrev c100_r5 : List Ins := [
  ⟨some 11, none, .mov (.t 5)⟩,
  ⟨some 12, none, .mov (.t 0)⟩,
  ⟨some 13, none, .len (.t 12)⟩,
  ⟨some 14, none, .bin .lss (.t 11) (.t 13)⟩]
abbrev c100_r6 : List Ins := [
  ⟨some 17, none, .mov (.t 0)⟩,
  ⟨some 18, none, .mov (.t 5)⟩,
  ⟨some 19, none, .iaddr 5 (.t 17) (.t 18)⟩,
  ⟨some 20, none, .load 5 true (.t 19)⟩,
  ⟨some 21, none, .mov (.t 1)⟩,
  ⟨some 22, none, .mov (.t 5)⟩,
  ⟨some 23, none, .iaddr 5 (.t 21) (.t 22)⟩,
  ⟨some 24, none, .load 5 true (.t 23)⟩,
  ⟨some 25, none, .eq [.i, .i, .i, .i, .b] true true (.t 20) (.t 24)⟩]
def c100_a6 : List (List Nat) := [[], [], [0, 1], [2], [], [], [4, 5], [6], [3, 7]]
abbrev c100_m6 : List Am.Mark := [⟨false, 0, 0⟩, ⟨false, 0, 0⟩, ⟨false, 0, 0⟩, ⟨false, 0, 0⟩, ⟨false, 0, 0⟩, ⟨false, 0, 0⟩, ⟨false, 0, 0⟩, ⟨false, 0, 0⟩, ⟨false, 0, 0⟩]
theorem c100_d6 : drawFine c100_r6 c100_a6 c100_m6 = true := by decide +kernel
abbrev c100_r7 : List Ins := [
  ⟨some 4, none, .mov (.c (.bool false))⟩]
abbrev c100_r8 : List Ins := [
  ⟨some 15, none, .mov (.t 5)⟩,
  ⟨some 16, none, .bin .add (.t 15) (.c (.int .i64 1))⟩,
  ⟨some 5, none, .mov (.t 16)⟩]
abbrev c100_l9 : IR := .seq (.seq (.reg c100_r5) (.cond (.t 14) (.skip) (.exit 0))) (.seq (.blk 1 (.seq (.dreg c100_r6 c100_a6) (.cond (.t 25) (.seq (.reg c100_r7) (.ret)) (.skip)))) (.reg c100_r8))
abbrev c100_r10 : List Ins := [
  ⟨some 4, none, .mov (.c (.bool true))⟩]
abbrev c100 : IR := .seq (.reg c100_r1) (.seq (.seq (.reg c100_r2) (.cond (.t 10) (.seq (.reg c100_r3) (.ret)) (.skip))) (.seq (.seq (.reg c100_r4) (.blk 0 (.loop c100_l9))) (.seq (.reg c100_r10) (.ret))))
abbrev F100 : FnA := ⟨26, c100, [.t 4]⟩
theorem ok100 : cFn Try.prog 100 = some F100 := by kernel_rfl
theorem hb100 : HasBody Try.prog 100 := ⟨_, Try.func100, by kernel_rfl, by kernel_rfl⟩
/-! prog.May$1 -/
abbrev c103_r1 : List Ins := [
  ⟨some 2, none, .box (.t 0)⟩,
  ⟨some 3, none, .mov (.c (.bool false))⟩]
abbrev c103_r2 : List Ins := [
  ⟨some 4, none, .load 9 true (.t 2)⟩,
  ⟨some 5, none, .load 1 false (.t 1)⟩,
  ⟨some 6, none, .call (.c (.fn 104 [] [])) [.t 4, .t 5]⟩,
  ⟨some 7, none, .un .not (.t 6)⟩,
  ⟨some 3, none, .mov (.t 7)⟩]
abbrev c103 : IR := .seq (.reg c103_r1) (.seq (.reg c103_r2) (.ret))
abbrev F103 : FnA := ⟨8, c103, [.t 3]⟩
theorem ok103 : cFn Try.prog 103 = some F103 := by kernel_rfl
theorem hb103 : HasBody Try.prog 103 := ⟨_, Try.func103, by kernel_rfl, by kernel_rfl⟩
/-! prog.may -/
abbrev c104_r1 : List Ins := [
  ⟨some 2, none, .box (.t 0)⟩,
  ⟨some 3, none, .box (.t 1)⟩,
  ⟨some 4, none, .mov (.c (.bool false))⟩]
abbrev c104_r2 : List Ins := [
  ⟨some 9, none, .load 9 true (.t 2)⟩,
  ⟨some 10, none, .call (.c (.fn 135 [] [])) [.t 9]⟩,
  ⟨some 8, none, .mov (.t 10)⟩,
  ⟨some 11, none, .ext (.t 8) 0⟩,
  ⟨some 12, none, .ext (.t 8) 1⟩,
  ⟨some 5, none, .alloc [.int .i64 0, .int .i64 0, .int .i64 0, .int .i64 0, .int .i64 0, .int .i64 0, .int .i64 0, .int .i64 0, .int .i64 0]⟩,
  ⟨none, none, .store 9 (.t 5) (.t 11)⟩,
  ⟨some 6, none, .mov (.t 12)⟩]
abbrev c104_r3 : List Ins := [
  ⟨some 13, none, .mkfn 136 [] [.t 3]⟩,
  ⟨some 7, none, .mov (.t 13)⟩]
abbrev c104_r4 : List Ins := [
  ⟨some 14, none, .mov (.t 6)⟩,
  ⟨some 15, none, .mov (.t 14)⟩,
  ⟨some 16, some (15, true), .load 9 true (.t 2)⟩,
  ⟨some 17, some (15, true), .load 9 true (.t 5)⟩,
  ⟨some 18, some (15, true), .eq [.i, .i, .i, .i, .i, .i, .i, .i, .i] true false (.t 16) (.t 17)⟩,
  ⟨some 19, none, .pick (.t 15) (.t 18) (.c (.bool false))⟩,
  ⟨some 20, none, .mov (.t 19)⟩,
  ⟨some 21, some (20, true), .faddr 1 (.t 2)⟩,
  ⟨some 22, some (20, true), .load 1 false (.t 21)⟩,
  ⟨some 23, some (20, true), .call (.c (.fn 138 [] [])) [.t 22]⟩,
  ⟨some 24, none, .pick (.t 20) (.t 23) (.c (.bool false))⟩,
  ⟨some 25, none, .mov (.t 24)⟩,
  ⟨some 26, some (25, true), .faddr 2 (.t 2)⟩,
  ⟨some 27, some (25, true), .load 1 false (.t 26)⟩,
  ⟨some 28, some (25, true), .call (.c (.fn 138 [] [])) [.t 27]⟩,
  ⟨some 29, none, .pick (.t 25) (.t 28) (.c (.bool false))⟩,
  ⟨some 30, none, .mov (.t 29)⟩,
  ⟨some 31, some (30, true), .faddr 3 (.t 2)⟩,
  ⟨some 32, some (30, true), .load 1 false (.t 31)⟩,
  ⟨some 33, some (30, true), .call (.c (.fn 138 [] [])) [.t 32]⟩,
  ⟨some 34, none, .pick (.t 30) (.t 33) (.c (.bool false))⟩,
  ⟨some 35, none, .mov (.t 34)⟩,
  ⟨some 36, some (35, true), .load 9 true (.t 2)⟩,
  ⟨some 37, some (35, true), .call (.c (.fn 140 [] [])) [.t 36]⟩,
  ⟨some 38, some (35, true), .mov (.t 7)⟩,
  ⟨some 39, some (35, true), .call (.c (.fn 139 [] [])) [.t 37, .t 38]⟩,
  ⟨some 40, some (35, true), .un .not (.t 39)⟩,
  ⟨some 41, none, .pick (.t 35) (.t 40) (.c (.bool false))⟩,
  ⟨some 4, none, .mov (.t 41)⟩]
abbrev c104 : IR := .seq (.reg c104_r1) (.seq (.reg c104_r2) (.seq (.reg c104_r3) (.seq (.reg c104_r4) (.ret))))
abbrev F104 : FnA := ⟨42, c104, [.t 4]⟩
theorem ok104 : cFn Try.prog 104 = some F104 := by kernel_rfl
theorem hb104 : HasBody Try.prog 104 := ⟨_, Try.func104, by kernel_rfl, by kernel_rfl⟩
/-! foot.May$1 -/
abbrev c105_r1 : List Ins := [
  ⟨some 2, none, .box (.t 0)⟩,
  ⟨some 3, none, .mov (.c (.bool false))⟩]
abbrev c105_r2 : List Ins := [
  ⟨some 4, none, .faddr 0 (.t 2)⟩,
  ⟨some 5, none, .load 2 true (.t 4)⟩,
  ⟨some 6, none, .call (.c (.fn 106 [] [])) [.t 5]⟩,
  ⟨some 7, none, .load 1 false (.t 1)⟩,
  ⟨some 8, none, .call (.c (.fn 46 [] [])) [.t 6, .t 7]⟩,
  ⟨some 9, none, .un .not (.t 8)⟩,
  ⟨some 10, none, .mov (.t 9)⟩,
  ⟨some 11, some (10, false), .faddr 2 (.t 2)⟩,
  ⟨some 12, some (10, false), .load 2 true (.t 11)⟩,
  ⟨some 13, some (10, false), .call (.c (.fn 106 [] [])) [.t 12]⟩,
  ⟨some 14, some (10, false), .load 1 false (.t 1)⟩,
  ⟨some 15, some (10, false), .call (.c (.fn 46 [] [])) [.t 13, .t 14]⟩,
  ⟨some 16, some (10, false), .un .not (.t 15)⟩,
  ⟨some 17, none, .pick (.t 10) (.c (.bool true)) (.t 16)⟩,
  ⟨some 3, none, .mov (.t 17)⟩]
def c105_a2 : List (List Nat) := [[], [0], [1], [], [2, 3, 2], [4], [5, 4], [6], [7, 6], [8, 6, 6], [6], [9, 10, 9, 6], [11, 6], [6, 12], [13, 11, 0, 1, 2, 3, 4, 5, 6, 7, 8, 9, 10, 11, 12, 13]]
abbrev c105_m2 : List Am.Mark := [⟨false, 0, 0⟩, ⟨false, 0, 0⟩, ⟨false, 0, 0⟩, ⟨false, 0, 0⟩, ⟨false, 0, 0⟩, ⟨false, 0, 0⟩, ⟨false, 0, 0⟩, ⟨false, 0, 0⟩, ⟨false, 0, 0⟩, ⟨false, 0, 0⟩, ⟨false, 0, 0⟩, ⟨false, 0, 0⟩, ⟨false, 0, 0⟩, ⟨false, 0, 0⟩, ⟨false, 0, 0⟩]
theorem c105_d2 : drawFine c105_r2 c105_a2 c105_m2 = true := by decide +kernel
abbrev c105 : IR := .seq (.reg c105_r1) (.seq (.dreg c105_r2 c105_a2) (.ret))
abbrev F105 : FnA := ⟨18, c105, [.t 3]⟩
theorem ok105 : cFn Try.prog 105 = some F105 := by kernel_rfl
theorem hb105 : HasBody Try.prog 105 := ⟨_, Try.func105, by kernel_rfl, by kernel_rfl⟩
/-! foot.reads -/
abbrev c106_r1 : List Ins := [
  ⟨some 1, none, .box (.t 0)⟩,
  ⟨some 2, none, .mov (.c (.sl .full []))⟩]
abbrev c106_r2 : List Ins := [
  ⟨some 3, none, .load 2 true (.t 1)⟩,
  ⟨some 4, none, .build [.int .i64 0, .int .i64 0, .int .i64 0, .int .i64 0, .int .i64 0, .int .i64 0, .int .i64 0, .int .i64 0, .int .i64 0] [(0, (1, .c (.int .i64 1))), (4, (2, .t 3))]⟩,
  ⟨some 5, none, .bsl 9 1 [.int .i64 0, .int .i64 0, .int .i64 0, .int .i64 0, .int .i64 0, .int .i64 0, .int .i64 0, .int .i64 0, .int .i64 0] [(0, .t 4)]⟩,
  ⟨some 2, none, .mov (.t 5)⟩]
abbrev c106 : IR := .seq (.reg c106_r1) (.seq (.reg c106_r2) (.ret))
abbrev F106 : FnA := ⟨6, c106, [.t 2]⟩
theorem ok106 : cFn Try.prog 106 = some F106 := by kernel_rfl
theorem hb106 : HasBody Try.prog 106 := ⟨_, Try.func106, by kernel_rfl, by kernel_rfl⟩
/-! slices.IndexFunc:SpanT -/
abbrev c107_r1 : List Ins := [
  ⟨some 4, none, .mov (.c (.int .i64 0))⟩]
abbrev c107_r2 : List Ins := [
  ⟨some 6, none, .mov (.t 0)⟩,
  ⟨some 7, none, .len (.t 6)⟩,
  ⟨some 8, none, .mov (.c (.int .i64 0))⟩]
abbrev c107_r3 : List Ins := [
  ⟨some 9, none, .bin .lss (.t 8) (.t 7)⟩]
abbrev c107_r4 : List Ins := [
  ⟨some 10, none, .mov (.t 8)⟩,
  ⟨some 5, none, .mov (.t 10)⟩]
abbrev c107_r5 : List Ins := [
  ⟨some 11, none, .mov (.t 1)⟩,
  ⟨some 12, none, .mov (.t 0)⟩,
  ⟨some 13, none, .mov (.t 5)⟩,
  ⟨some 14, none, .iaddr 5 (.t 12) (.t 13)⟩,
  ⟨some 15, none, .load 5 true (.t 14)⟩,
  ⟨some 16, none, .call (.t 11) [.t 15]⟩]
abbrev c107_r6 : List Ins := [
  ⟨some 17, none, .mov (.t 5)⟩,
  ⟨some 4, none, .mov (.t 17)⟩]
abbrev c107_r7 : List Ins := [
  ⟨some 18, none, .bin .add (.t 8) (.c (.int .i64 1))⟩,
  ⟨some 8, none, .mov (.t 18)⟩]
abbrev c107_l8 : IR := .seq (.reg c107_r3) (.seq (.cond (.t 9) (.skip) (.exit 0)) (.seq (.blk 1 (.seq (.reg c107_r4) (.seq (.reg c107_r5) (.cond (.t 16) (.seq (.reg c107_r6) (.ret)) (.skip))))) (.reg c107_r7)))
abbrev c107_r9 : List Ins := [
  ⟨some 4, none, .mov (.c (.int .i64 (-1)))⟩]
abbrev c107 : IR := .seq (.reg c107_r1) (.seq (.seq (.reg c107_r2) (.blk 0 (.loop c107_l8))) (.seq (.reg c107_r9) (.ret)))
abbrev F107 : FnA := ⟨19, c107, [.t 4]⟩
theorem ok107 : cFn Try.prog 107 = some F107 := by kernel_rfl
theorem hb107 : HasBody Try.prog 107 := ⟨_, Try.func107, by kernel_rfl, by kernel_rfl⟩
/-! slices.IndexFunc:Instr -/
abbrev c108_r1 : List Ins := [
  ⟨some 4, none, .mov (.c (.int .i64 0))⟩]
abbrev c108_r2 : List Ins := [
  ⟨some 6, none, .mov (.t 0)⟩,
  ⟨some 7, none, .len (.t 6)⟩,
  ⟨some 8, none, .mov (.c (.int .i64 0))⟩]
abbrev c108_r3 : List Ins := [
  ⟨some 9, none, .bin .lss (.t 8) (.t 7)⟩]
abbrev c108_r4 : List Ins := [
  ⟨some 10, none, .mov (.t 8)⟩,
  ⟨some 5, none, .mov (.t 10)⟩]
abbrev c108_r5 : List Ins := [
  ⟨some 11, none, .mov (.t 1)⟩,
  ⟨some 12, none, .mov (.t 0)⟩,
  ⟨some 13, none, .mov (.t 5)⟩,
  ⟨some 14, none, .iaddr 9 (.t 12) (.t 13)⟩,
  ⟨some 15, none, .load 9 true (.t 14)⟩,
  ⟨some 16, none, .call (.t 11) [.t 15]⟩]
abbrev c108_r6 : List Ins := [
  ⟨some 17, none, .mov (.t 5)⟩,
  ⟨some 4, none, .mov (.t 17)⟩]
abbrev c108_r7 : List Ins := [
  ⟨some 18, none, .bin .add (.t 8) (.c (.int .i64 1))⟩,
  ⟨some 8, none, .mov (.t 18)⟩]
abbrev c108_l8 : IR := .seq (.reg c108_r3) (.seq (.cond (.t 9) (.skip) (.exit 0)) (.seq (.blk 1 (.seq (.reg c108_r4) (.seq (.reg c108_r5) (.cond (.t 16) (.seq (.reg c108_r6) (.ret)) (.skip))))) (.reg c108_r7)))
abbrev c108_r9 : List Ins := [
  ⟨some 4, none, .mov (.c (.int .i64 (-1)))⟩]
abbrev c108 : IR := .seq (.reg c108_r1) (.seq (.seq (.reg c108_r2) (.blk 0 (.loop c108_l8))) (.seq (.reg c108_r9) (.ret)))
abbrev F108 : FnA := ⟨19, c108, [.t 4]⟩
theorem ok108 : cFn Try.prog 108 = some F108 := by kernel_rfl
theorem hb108 : HasBody Try.prog 108 := ⟨_, Try.func108, by kernel_rfl, by kernel_rfl⟩
/-! codes.Writer.put -/
abbrev c111_r1 : List Ins := [
  ⟨some 4, none, .mov (.t 0)⟩,
  ⟨some 5, none, .mov (.t 0)⟩,
  ⟨some 6, none, .nilck (.t 5)⟩,
  ⟨some 7, none, .faddr 0 (.t 6)⟩,
  ⟨some 8, none, .load 1 false (.t 7)⟩,
  ⟨some 9, none, .mov (.t 1)⟩,
  ⟨some 10, none, .append 1 8 (.t 8) (.t 9)⟩,
  ⟨some 11, none, .nilck (.t 4)⟩,
  ⟨some 12, none, .faddr 0 (.t 11)⟩,
  ⟨none, none, .store 1 (.t 12) (.t 10)⟩]
abbrev c111 : IR := .reg c111_r1
abbrev F111 : FnA := ⟨13, c111, []⟩
theorem ok111 : cFn Try.prog 111 = some F111 := by kernel_rfl
theorem hb111 : HasBody Try.prog 111 := ⟨_, Try.func111, by kernel_rfl, by kernel_rfl⟩
/-! codes.Writer.Flag -/
abbrev c112_r1 : List Ins := [
  ⟨some 4, none, .mov (.t 1)⟩]
abbrev c112_r2 : List Ins := [
  ⟨some 5, none, .mov (.t 0)⟩,
  ⟨some 6, none, .bsl 1 1 [.int .u64 0] [(0, .c (.int .u64 1))]⟩,
  ⟨some 7, none, .call (.c (.fn 111 [] [])) [.t 5, .t 6]⟩]
abbrev c112_r3 : List Ins := [
  ⟨some 8, none, .mov (.t 0)⟩,
  ⟨some 9, none, .bsl 1 1 [.int .u64 0] [(0, .c (.int .u64 0))]⟩,
  ⟨some 10, none, .call (.c (.fn 111 [] [])) [.t 8, .t 9]⟩]
abbrev c112 : IR := .seq (.seq (.reg c112_r1) (.cond (.t 4) (.seq (.reg c112_r2) (.ret)) (.skip))) (.reg c112_r3)
abbrev F112 : FnA := ⟨11, c112, []⟩
theorem ok112 : cFn Try.prog 112 = some F112 := by kernel_rfl
theorem hb112 : HasBody Try.prog 112 := ⟨_, Try.func112, by kernel_rfl, by kernel_rfl⟩
/-! codes.Writer.Signed -/
abbrev c115_r1 : List Ins := [
  ⟨some 4, none, .mov (.t 0)⟩,
  ⟨some 5, none, .mov (.t 1)⟩,
  ⟨some 6, none, .bin .shl (.t 5) (.c (.int .u64 1))⟩,
  ⟨some 7, none, .conv .u64 (.t 6)⟩,
  ⟨some 8, none, .mov (.t 1)⟩,
  ⟨some 9, none, .bin .shr (.t 8) (.c (.int .u64 63))⟩,
  ⟨some 10, none, .conv .u64 (.t 9)⟩,
  ⟨some 11, none, .bin .xor (.t 7) (.t 10)⟩,
  ⟨some 12, none, .bsl 1 1 [.int .u64 0] [(0, .t 11)]⟩,
  ⟨some 13, none, .call (.c (.fn 111 [] [])) [.t 4, .t 12]⟩]
abbrev c115 : IR := .reg c115_r1
abbrev F115 : FnA := ⟨14, c115, []⟩
theorem ok115 : cFn Try.prog 115 = some F115 := by kernel_rfl
theorem hb115 : HasBody Try.prog 115 := ⟨_, Try.func115, by kernel_rfl, by kernel_rfl⟩
/-! slices.Clone:uint64 -/
abbrev c118_r1 : List Ins := [
  ⟨some 2, none, .mov (.c (.sl .full []))⟩]
abbrev c118_r2 : List Ins := [
  ⟨some 3, none, .mov (.t 0)⟩,
  ⟨some 4, none, .isnil false (.t 3)⟩]
abbrev c118_r3 : List Ins := [
  ⟨some 2, none, .mov (.c (.sl .full []))⟩]
abbrev c118_r4 : List Ins := [
  ⟨some 5, none, .bsl 1 0 [.int .u64 0] []⟩,
  ⟨some 6, none, .mov (.t 0)⟩,
  ⟨some 7, none, .append 1 8 (.t 5) (.t 6)⟩,
  ⟨some 2, none, .mov (.t 7)⟩]
abbrev c118 : IR := .seq (.reg c118_r1) (.seq (.seq (.reg c118_r2) (.cond (.t 4) (.seq (.reg c118_r3) (.ret)) (.skip))) (.seq (.reg c118_r4) (.ret)))
abbrev F118 : FnA := ⟨8, c118, [.t 2]⟩
theorem ok118 : cFn Try.prog 118 = some F118 := by kernel_rfl
theorem hb118 : HasBody Try.prog 118 := ⟨_, Try.func118, by kernel_rfl, by kernel_rfl⟩
/-! codes.Reader.Signed -/
abbrev c121_r1 : List Ins := [
  ⟨some 2, none, .mov (.c (.int .i64 0))⟩]
abbrev c121_r2 : List Ins := [
  ⟨some 4, none, .mov (.t 0)⟩,
  ⟨some 5, none, .call (.c (.fn 91 [] [])) [.t 4, .c (.fn 141 [] [])]⟩,
  ⟨some 3, none, .mov (.t 5)⟩]
abbrev c121_r3 : List Ins := [
  ⟨some 6, none, .mov (.t 3)⟩,
  ⟨some 7, none, .bin .shr (.t 6) (.c (.int .u64 1))⟩,
  ⟨some 8, none, .conv .i64 (.t 7)⟩,
  ⟨some 9, none, .mov (.t 3)⟩,
  ⟨some 10, none, .bin .and (.t 9) (.c (.int .u64 1))⟩,
  ⟨some 11, none, .conv .i64 (.t 10)⟩,
  ⟨some 12, none, .un .neg (.t 11)⟩,
  ⟨some 13, none, .bin .xor (.t 8) (.t 12)⟩,
  ⟨some 2, none, .mov (.t 13)⟩]
abbrev c121 : IR := .seq (.reg c121_r1) (.seq (.reg c121_r2) (.seq (.reg c121_r3) (.ret)))
abbrev F121 : FnA := ⟨14, c121, [.t 2]⟩
theorem ok121 : cFn Try.prog 121 = some F121 := by kernel_rfl
theorem hb121 : HasBody Try.prog 121 := ⟨_, Try.func121, by kernel_rfl, by kernel_rfl⟩
/-! ref01.Write -/
abbrev c124_r1 : List Ins := [
  ⟨some 3, none, .box (.t 1)⟩,
  ⟨some 4, none, .mov (.c (.sl .full []))⟩]
abbrev c124_r2 : List Ins := [
  ⟨some 6, none, .faddr 0 (.t 3)⟩,
  ⟨some 7, none, .load 1 false (.t 6)⟩]
abbrev c124_r3 : List Ins := [
  ⟨some 9, none, .bin .eql (.t 7) (.c (.int .i64 0))⟩,
  ⟨some 8, none, .mov (.t 9)⟩]
abbrev c124_r4 : List Ins := [
  ⟨some 10, none, .faddr 1 (.t 3)⟩,
  ⟨some 11, none, .load 1 false (.t 10)⟩,
  ⟨some 12, none, .bin .lss (.t 11) (.c (.int .i64 0))⟩]
abbrev c124_r5 : List Ins := [
  ⟨some 13, none, .mov (.t 0)⟩,
  ⟨some 14, none, .bsl 1 1 [.int .u64 0] [(0, .c (.int .u64 0))]⟩,
  ⟨some 15, none, .append 1 8 (.t 13) (.t 14)⟩,
  ⟨some 4, none, .mov (.t 15)⟩]
abbrev c124_r6 : List Ins := [
  ⟨some 16, none, .mov (.t 0)⟩,
  ⟨some 17, none, .faddr 1 (.t 3)⟩,
  ⟨some 18, none, .load 1 false (.t 17)⟩,
  ⟨some 19, none, .conv .u64 (.t 18)⟩,
  ⟨some 20, none, .bsl 1 1 [.int .u64 0] [(0, .t 19)]⟩,
  ⟨some 21, none, .append 1 8 (.t 16) (.t 20)⟩,
  ⟨some 4, none, .mov (.t 21)⟩]
abbrev c124_r7 : List Ins := [
  ⟨some 23, none, .bin .eql (.t 7) (.c (.int .i64 1))⟩,
  ⟨some 22, none, .mov (.t 23)⟩]
abbrev c124_r8 : List Ins := [
  ⟨some 24, none, .mov (.t 0)⟩,
  ⟨some 25, none, .faddr 3 (.t 3)⟩,
  ⟨some 26, none, .load 1 false (.t 25)⟩,
  ⟨some 27, none, .call (.c (.fn 142 [] [])) [.t 26]⟩,
  ⟨some 28, none, .bsl 1 1 [.int .u64 0] [(0, .t 27)]⟩,
  ⟨some 29, none, .append 1 8 (.t 24) (.t 28)⟩,
  ⟨some 4, none, .mov (.t 29)⟩]
abbrev c124_r9 : List Ins := [
  ⟨some 31, none, .bin .eql (.t 7) (.c (.int .i64 2))⟩,
  ⟨some 30, none, .mov (.t 31)⟩]
abbrev c124_r10 : List Ins := [
  ⟨some 32, none, .faddr 1 (.t 3)⟩,
  ⟨some 33, none, .load 1 false (.t 32)⟩,
  ⟨some 34, none, .bin .eql (.t 33) (.c (.int .i64 1))⟩]
abbrev c124_r11 : List Ins := [
  ⟨some 35, none, .mov (.t 0)⟩,
  ⟨some 36, none, .bsl 1 1 [.int .u64 0] [(0, .c (.int .u64 1))]⟩,
  ⟨some 37, none, .append 1 8 (.t 35) (.t 36)⟩,
  ⟨some 4, none, .mov (.t 37)⟩]
abbrev c124_r12 : List Ins := [
  ⟨some 38, none, .mov (.t 0)⟩,
  ⟨some 39, none, .bsl 1 1 [.int .u64 0] [(0, .c (.int .u64 0))]⟩,
  ⟨some 40, none, .append 1 8 (.t 38) (.t 39)⟩,
  ⟨some 4, none, .mov (.t 40)⟩]
abbrev c124_r13 : List Ins := [
  ⟨some 42, none, .bin .eql (.t 7) (.c (.int .i64 3))⟩,
  ⟨some 41, none, .mov (.t 42)⟩]
abbrev c124_r14 : List Ins := [
  ⟨some 43, none, .faddr 4 (.t 3)⟩,
  ⟨some 44, none, .load 1 false (.t 43)⟩,
  ⟨some 5, none, .mov (.t 44)⟩]
abbrev c124_r15 : List Ins := [
  ⟨some 45, none, .mov (.t 5)⟩,
  ⟨some 46, none, .lenS (.t 45)⟩,
  ⟨some 47, none, .bin .gtr (.t 46) (.c (.int .i64 64))⟩]
abbrev c124_r16 : List Ins := [
  ⟨some 48, none, .mov (.t 5)⟩,
  ⟨some 49, none, .sliceS (.t 48) none (some (.c (.int .i64 64)))⟩,
  ⟨some 5, none, .mov (.t 49)⟩]
abbrev c124_r17 : List Ins := [
  ⟨some 50, none, .mov (.t 0)⟩,
  ⟨some 51, none, .mov (.t 5)⟩,
  ⟨some 52, none, .lenS (.t 51)⟩,
  ⟨some 53, none, .conv .u64 (.t 52)⟩,
  ⟨some 54, none, .bsl 1 1 [.int .u64 0] [(0, .t 53)]⟩,
  ⟨some 55, none, .append 1 8 (.t 50) (.t 54)⟩,
  ⟨some 56, none, .mov (.t 5)⟩,
  ⟨some 57, none, .call (.c (.fn 143 [] [])) [.t 56]⟩,
  ⟨some 58, none, .append 1 8 (.t 55) (.t 57)⟩,
  ⟨some 4, none, .mov (.t 58)⟩]
abbrev c124_r18 : List Ins := [
  ⟨some 59, none, .mov (.t 0)⟩,
  ⟨some 60, none, .faddr 5 (.t 3)⟩,
  ⟨some 61, none, .load 1 false (.t 60)⟩,
  ⟨some 62, none, .len (.t 61)⟩,
  ⟨some 63, none, .conv .u64 (.t 62)⟩,
  ⟨some 64, none, .bsl 1 1 [.int .u64 0] [(0, .t 63)]⟩,
  ⟨some 65, none, .append 1 8 (.t 59) (.t 64)⟩,
  ⟨some 66, none, .faddr 5 (.t 3)⟩,
  ⟨some 67, none, .load 1 false (.t 66)⟩,
  ⟨some 68, none, .append 1 8 (.t 65) (.t 67)⟩,
  ⟨some 4, none, .mov (.t 68)⟩]
def c124_a18 : List (List Nat) := [[], [], [1], [2], [3], [4], [0, 5], [], [7], [6, 8, 6], [9, 9, 0, 1, 2, 3, 4, 5, 6, 7, 8, 9]]
abbrev c124_m18 : List Am.Mark := [⟨false, 0, 0⟩, ⟨false, 0, 2⟩, ⟨false, 0, 2⟩, ⟨false, 0, 2⟩, ⟨false, 0, 2⟩, ⟨false, 0, 0⟩, ⟨true, 0, 1⟩, ⟨false, 0, 2⟩, ⟨false, 0, 1⟩, ⟨true, 1, 2⟩, ⟨false, 2, 2⟩]
theorem c124_d18 : drawFine c124_r18 c124_a18 c124_m18 = true := by decide +kernel
abbrev c124 : IR := .seq (.reg c124_r1) (.seq (.seq (.reg c124_r2) (.blk 0 (.seq (.reg c124_r3) (.cond (.t 8) (.seq (.seq (.reg c124_r4) (.cond (.t 12) (.seq (.reg c124_r5) (.ret)) (.skip))) (.seq (.reg c124_r6) (.ret))) (.seq (.reg c124_r7) (.cond (.t 22) (.seq (.reg c124_r8) (.ret)) (.seq (.reg c124_r9) (.cond (.t 30) (.seq (.seq (.reg c124_r10) (.cond (.t 34) (.seq (.reg c124_r11) (.ret)) (.skip))) (.seq (.reg c124_r12) (.ret))) (.seq (.reg c124_r13) (.cond (.t 41) (.seq (.reg c124_r14) (.seq (.seq (.reg c124_r15) (.cond (.t 47) (.reg c124_r16) (.skip))) (.seq (.reg c124_r17) (.ret)))) (.skip))))))))))) (.seq (.dreg c124_r18 c124_a18) (.ret)))
abbrev F124 : FnA := ⟨69, c124, [.t 4]⟩
theorem ok124 : cFn Try.prog 124 = some F124 := by kernel_rfl
theorem hb124 : HasBody Try.prog 124 := ⟨_, Try.func124, by kernel_rfl, by kernel_rfl⟩
/-! class.each$1 -/
abbrev c127_r1 : List Ins := [
  ⟨some 4, none, .faddr 2 (.t 1)⟩,
  ⟨some 5, none, .load 1 false (.t 4)⟩,
  ⟨some 6, none, .len (.t 5)⟩,
  ⟨some 7, none, .faddr 3 (.t 1)⟩,
  ⟨some 8, none, .load 1 false (.t 7)⟩,
  ⟨some 9, none, .len (.t 8)⟩,
  ⟨some 10, none, .mn [.t 6, .t 9]⟩,
  ⟨some 11, none, .mov (.c (.int .i64 0))⟩]
abbrev c127_r2 : List Ins := [
  ⟨some 12, none, .bin .lss (.t 11) (.t 10)⟩]
abbrev c127_r3 : List Ins := [
  ⟨some 13, none, .mov (.t 11)⟩,
  ⟨some 3, none, .mov (.t 13)⟩]
abbrev c127_r4 : List Ins := [
  ⟨some 14, none, .mov (.t 0)⟩,
  ⟨some 15, none, .faddr 2 (.t 1)⟩,
  ⟨some 16, none, .load 1 false (.t 15)⟩,
  ⟨some 17, none, .mov (.t 3)⟩,
  ⟨some 18, none, .iaddr 2 (.t 16) (.t 17)⟩,
  ⟨some 19, none, .load 2 true (.t 18)⟩,
  ⟨some 20, none, .faddr 3 (.t 1)⟩,
  ⟨some 21, none, .load 1 false (.t 20)⟩,
  ⟨some 22, none, .mov (.t 3)⟩,
  ⟨some 23, none, .iaddr 2 (.t 21) (.t 22)⟩,
  ⟨some 24, none, .load 2 true (.t 23)⟩,
  ⟨some 25, none, .call (.t 14) [.t 19, .t 24]⟩,
  ⟨some 26, none, .un .not (.t 25)⟩]
def c127_a4 : List (List Nat) := [[], [], [1], [], [2, 3], [4], [], [6], [], [7, 8], [9], [0, 5, 10], [11]]
abbrev c127_m4 : List Am.Mark := [⟨false, 0, 0⟩, ⟨false, 0, 1⟩, ⟨false, 0, 1⟩, ⟨false, 0, 1⟩, ⟨false, 0, 1⟩, ⟨false, 0, 0⟩, ⟨false, 0, 1⟩, ⟨false, 0, 1⟩, ⟨false, 0, 1⟩, ⟨false, 0, 1⟩, ⟨false, 0, 0⟩, ⟨true, 0, 1⟩, ⟨false, 1, 1⟩]
theorem c127_d4 : drawFine c127_r4 c127_a4 c127_m4 = true := by decide +kernel
abbrev c127_r5 : List Ins := [
  ⟨some 27, none, .bin .add (.t 11) (.c (.int .i64 1))⟩,
  ⟨some 11, none, .mov (.t 27)⟩]
abbrev c127_l6 : IR := .seq (.reg c127_r2) (.seq (.cond (.t 12) (.skip) (.exit 0)) (.seq (.blk 1 (.seq (.reg c127_r3) (.seq (.dreg c127_r4 c127_a4) (.cond (.t 26) (.ret) (.skip))))) (.reg c127_r5)))
abbrev c127 : IR := .seq (.reg c127_r1) (.blk 0 (.loop c127_l6))
abbrev F127 : FnA := ⟨28, c127, []⟩
theorem ok127 : cFn Try.prog 127 = some F127 := by kernel_rfl
theorem hb127 : HasBody Try.prog 127 := ⟨_, Try.func127, by kernel_rfl, by kernel_rfl⟩
/-! prog.Sure -/
abbrev c128_r1 : List Ins := [
  ⟨some 2, none, .mov (.c (.bool false))⟩]
abbrev c128_r2 : List Ins := [
  ⟨some 3, none, .mov (.t 0)⟩,
  ⟨some 4, none, .call (.c (.fn 53 [] [])) [.t 3, .c (.fn 144 [] [])]⟩,
  ⟨some 5, none, .un .not (.t 4)⟩,
  ⟨some 2, none, .mov (.t 5)⟩]
abbrev c128 : IR := .seq (.reg c128_r1) (.seq (.reg c128_r2) (.ret))
abbrev F128 : FnA := ⟨6, c128, [.t 2]⟩
theorem ok128 : cFn Try.prog 128 = some F128 := by kernel_rfl
theorem hb128 : HasBody Try.prog 128 := ⟨_, Try.func128, by kernel_rfl, by kernel_rfl⟩
/-! prog.getKey -/
abbrev c129_r1 : List Ins := [
  ⟨some 2, none, .alloc [.int .i64 0, .int .i64 0]⟩]
abbrev c129_r2 : List Ins := [
  ⟨some 4, none, .mov (.t 0)⟩,
  ⟨some 5, none, .call (.c (.fn 121 [] [])) [.t 4]⟩,
  ⟨some 3, none, .mov (.t 5)⟩]
abbrev c129_r3 : List Ins := [
  ⟨some 6, none, .mov (.t 3)⟩,
  ⟨some 7, none, .bin .lss (.t 6) (.c (.int .i64 (-1)))⟩,
  ⟨some 8, none, .mov (.t 7)⟩,
  ⟨some 9, some (8, false), .mov (.t 3)⟩,
  ⟨some 10, some (8, false), .bin .gtr (.t 9) (.c (.int .i64 255))⟩,
  ⟨some 11, none, .pick (.t 8) (.c (.bool true)) (.t 10)⟩]
abbrev c129_r4 : List Ins := [
  ⟨some 12, none, .mov (.t 0)⟩,
  ⟨some 13, none, .call (.c (.fn 35 [] [])) [.t 12, .c (.int .i64 (-1))]⟩]
abbrev c129_r5 : List Ins := [
  ⟨some 14, none, .build [.int .i64 0, .int .i64 0] []⟩,
  ⟨none, none, .store 2 (.t 2) (.t 14)⟩]
abbrev c129_r6 : List Ins := [
  ⟨some 15, none, .mov (.t 3)⟩,
  ⟨some 16, none, .mov (.t 0)⟩,
  ⟨some 17, none, .call (.c (.fn 35 [] [])) [.t 16, .c (.int .i64 999)]⟩,
  ⟨some 18, none, .build [.int .i64 0, .int .i64 0] [(0, (1, .t 15)), (1, (1, .t 17))]⟩,
  ⟨none, none, .store 2 (.t 2) (.t 18)⟩]
abbrev c129 : IR := .seq (.reg c129_r1) (.seq (.reg c129_r2) (.seq (.seq (.reg c129_r3) (.cond (.t 11) (.seq (.reg c129_r4) (.seq (.reg c129_r5) (.ret))) (.skip))) (.seq (.reg c129_r6) (.ret))))
abbrev F129 : FnA := ⟨19, c129, [.cell 2 2 true]⟩
theorem ok129 : cFn Try.prog 129 = some F129 := by kernel_rfl
theorem hb129 : HasBody Try.prog 129 := ⟨_, Try.func129, by kernel_rfl, by kernel_rfl⟩
/-! foot.template -/
abbrev c130_r1 : List Ins := [
  ⟨some 2, none, .alloc [.int .i64 0, .int .i64 0]⟩]
abbrev c130_r2 : List Ins := [
  ⟨some 4, none, .mov (.t 0)⟩,
  ⟨some 5, none, .call (.c (.fn 121 [] [])) [.t 4]⟩,
  ⟨some 3, none, .mov (.t 5)⟩]
abbrev c130_r3 : List Ins := [
  ⟨some 6, none, .mov (.t 3)⟩,
  ⟨some 7, none, .bin .lss (.t 6) (.c (.int .i64 (-1)))⟩,
  ⟨some 8, none, .mov (.t 7)⟩,
  ⟨some 9, some (8, false), .mov (.t 3)⟩,
  ⟨some 10, some (8, false), .bin .gtr (.t 9) (.c (.int .i64 255))⟩,
  ⟨some 11, none, .pick (.t 8) (.c (.bool true)) (.t 10)⟩]
abbrev c130_r4 : List Ins := [
  ⟨some 12, none, .mov (.t 0)⟩,
  ⟨some 13, none, .call (.c (.fn 35 [] [])) [.t 12, .c (.int .i64 (-1))]⟩]
abbrev c130_r5 : List Ins := [
  ⟨some 14, none, .mov (.t 3)⟩,
  ⟨some 15, none, .mov (.t 0)⟩,
  ⟨some 16, none, .call (.c (.fn 35 [] [])) [.t 15, .c (.int .i64 999)]⟩,
  ⟨some 17, none, .build [.int .i64 0, .int .i64 0] [(0, (1, .t 14)), (1, (1, .t 16))]⟩,
  ⟨none, none, .store 2 (.t 2) (.t 17)⟩]
abbrev c130 : IR := .seq (.reg c130_r1) (.seq (.reg c130_r2) (.seq (.seq (.reg c130_r3) (.cond (.t 11) (.reg c130_r4) (.skip))) (.seq (.reg c130_r5) (.ret))))
abbrev F130 : FnA := ⟨18, c130, [.cell 2 2 true]⟩
theorem ok130 : cFn Try.prog 130 = some F130 := by kernel_rfl
theorem hb130 : HasBody Try.prog 130 := ⟨_, Try.func130, by kernel_rfl, by kernel_rfl⟩
/-! ref01.Back -/
abbrev c131_r1 : List Ins := [
  ⟨some 2, none, .mov (.c (.int .i64 0))⟩]
abbrev c131_r2 : List Ins := [
  ⟨some 3, none, .mov (.t 0)⟩,
  ⟨some 4, none, .bin .rem (.t 3) (.c (.int .u64 2))⟩,
  ⟨some 5, none, .bin .eql (.t 4) (.c (.int .u64 0))⟩]
abbrev c131_r3 : List Ins := [
  ⟨some 6, none, .mov (.t 0)⟩,
  ⟨some 7, none, .bin .quo (.t 6) (.c (.int .u64 2))⟩,
  ⟨some 8, none, .conv .i64 (.t 7)⟩,
  ⟨some 2, none, .mov (.t 8)⟩]
abbrev c131_r4 : List Ins := [
  ⟨some 9, none, .mov (.t 0)⟩,
  ⟨some 10, none, .bin .quo (.t 9) (.c (.int .u64 2))⟩,
  ⟨some 11, none, .conv .i64 (.t 10)⟩,
  ⟨some 12, none, .un .neg (.t 11)⟩,
  ⟨some 13, none, .bin .sub (.t 12) (.c (.int .i64 1))⟩,
  ⟨some 2, none, .mov (.t 13)⟩]
abbrev c131 : IR := .seq (.reg c131_r1) (.seq (.seq (.reg c131_r2) (.cond (.t 5) (.seq (.reg c131_r3) (.ret)) (.skip))) (.seq (.reg c131_r4) (.ret)))
abbrev F131 : FnA := ⟨14, c131, [.t 2]⟩
theorem ok131 : cFn Try.prog 131 = some F131 := by kernel_rfl
theorem hb131 : HasBody Try.prog 131 := ⟨_, Try.func131, by kernel_rfl, by kernel_rfl⟩
/-! ref09.One -/
abbrev c132_r1 : List Ins := [
  ⟨some 2, none, .box (.t 0)⟩,
  ⟨some 4, none, .mov (.c (.bool false))⟩]
abbrev c132_r2 : List Ins := [
  ⟨some 11, none, .faddr 0 (.t 2)⟩,
  ⟨some 12, none, .load 1 false (.t 11)⟩,
  ⟨some 13, none, .bin .lss (.t 12) (.c (.int .i64 1))⟩,
  ⟨some 14, none, .mov (.t 13)⟩,
  ⟨some 15, some (14, false), .faddr 0 (.t 2)⟩,
  ⟨some 16, some (14, false), .load 1 false (.t 15)⟩,
  ⟨some 17, some (14, false), .bin .gtr (.t 16) (.c (.int .i64 8))⟩,
  ⟨some 18, none, .pick (.t 14) (.c (.bool true)) (.t 17)⟩,
  ⟨some 19, none, .mov (.t 18)⟩,
  ⟨some 20, some (19, false), .faddr 1 (.t 2)⟩,
  ⟨some 21, some (19, false), .load 1 false (.t 20)⟩,
  ⟨some 22, some (19, false), .bin .lss (.t 21) (.c (.int .i64 0))⟩,
  ⟨some 23, none, .pick (.t 19) (.c (.bool true)) (.t 22)⟩,
  ⟨some 24, none, .mov (.t 23)⟩,
  ⟨some 25, some (24, false), .faddr 1 (.t 2)⟩,
  ⟨some 26, some (24, false), .load 1 false (.t 25)⟩,
  ⟨some 27, some (24, false), .bin .gtr (.t 26) (.c (.int .i64 3))⟩,
  ⟨some 28, none, .pick (.t 24) (.c (.bool true)) (.t 27)⟩]
abbrev c132_r3 : List Ins := [
  ⟨some 4, none, .mov (.c (.bool false))⟩]
abbrev c132_r4 : List Ins := [
  ⟨some 5, none, .alloc [.int .i64 0, .int .i64 0]⟩]
abbrev c132_r5 : List Ins := [
  ⟨some 29, none, .faddr 0 (.t 2)⟩,
  ⟨some 30, none, .load 1 false (.t 29)⟩,
  ⟨some 31, none, .bin .neq (.t 30) (.c (.int .i64 3))⟩,
  ⟨some 6, none, .mov (.t 31)⟩]
abbrev c132_r6 : List Ins := [
  ⟨some 32, none, .faddr 0 (.t 2)⟩,
  ⟨some 33, none, .load 1 false (.t 32)⟩,
  ⟨some 34, none, .bin .leq (.t 33) (.c (.int .i64 4))⟩,
  ⟨some 7, none, .mov (.t 34)⟩]
abbrev c132_r7 : List Ins := [
  ⟨some 35, none, .faddr 0 (.t 2)⟩,
  ⟨some 36, none, .load 1 false (.t 35)⟩,
  ⟨some 37, none, .bin .eql (.t 36) (.c (.int .i64 4))⟩,
  ⟨some 8, none, .mov (.t 37)⟩]
abbrev c132_r8 : List Ins := [
  ⟨some 38, none, .faddr 0 (.t 2)⟩,
  ⟨some 39, none, .load 1 false (.t 38)⟩,
  ⟨some 40, none, .bin .eql (.t 39) (.c (.int .i64 6))⟩,
  ⟨some 41, none, .mov (.t 40)⟩,
  ⟨some 42, some (41, false), .faddr 0 (.t 2)⟩,
  ⟨some 43, some (41, false), .load 1 false (.t 42)⟩,
  ⟨some 44, some (41, false), .bin .eql (.t 43) (.c (.int .i64 7))⟩,
  ⟨some 45, none, .pick (.t 41) (.c (.bool true)) (.t 44)⟩,
  ⟨some 9, none, .mov (.t 45)⟩]
abbrev c132_r9 : List Ins := [
  ⟨some 46, none, .faddr 0 (.t 2)⟩,
  ⟨some 47, none, .load 1 false (.t 46)⟩,
  ⟨some 48, none, .bin .eql (.t 47) (.c (.int .i64 5))⟩,
  ⟨some 49, none, .mov (.t 48)⟩,
  ⟨some 50, some (49, false), .faddr 0 (.t 2)⟩,
  ⟨some 51, some (49, false), .load 1 false (.t 50)⟩,
  ⟨some 52, some (49, false), .bin .eql (.t 51) (.c (.int .i64 8))⟩,
  ⟨some 53, none, .pick (.t 49) (.c (.bool true)) (.t 52)⟩,
  ⟨some 10, none, .mov (.t 53)⟩]
abbrev c132_r10 : List Ins := [
  ⟨some 54, none, .mov (.t 6)⟩,
  ⟨some 55, none, .un .not (.t 54)⟩,
  ⟨some 56, none, .mov (.t 55)⟩,
  ⟨some 57, some (56, true), .faddr 1 (.t 2)⟩,
  ⟨some 58, some (56, true), .load 1 false (.t 57)⟩,
  ⟨some 59, some (56, true), .bin .neq (.t 58) (.c (.int .i64 0))⟩,
  ⟨some 60, none, .pick (.t 56) (.t 59) (.c (.bool false))⟩,
  ⟨some 61, none, .mov (.t 60)⟩,
  ⟨some 62, some (61, false), .mov (.t 10)⟩,
  ⟨some 63, some (61, false), .un .not (.t 62)⟩,
  ⟨some 64, some (61, false), .mov (.t 63)⟩,
  ⟨some 65, some (64, true), .faddr 8 (.t 2)⟩,
  ⟨some 66, some (64, true), .load 1 false (.t 65)⟩,
  ⟨some 67, some (64, true), .bin .neq (.t 66) (.c (.int .i64 0))⟩,
  ⟨some 68, some (61, false), .pick (.t 64) (.t 67) (.c (.bool false))⟩,
  ⟨some 69, none, .pick (.t 61) (.c (.bool true)) (.t 68)⟩,
  ⟨some 70, none, .mov (.t 69)⟩,
  ⟨some 71, some (70, false), .mov (.t 9)⟩,
  ⟨some 72, some (70, false), .un .not (.t 71)⟩,
  ⟨some 73, some (70, false), .mov (.t 72)⟩,
  ⟨some 74, some (73, true), .faddr 2 (.t 2)⟩,
  ⟨some 75, some (73, true), .load 1 false (.t 74)⟩,
  ⟨some 76, some (73, true), .bin .neq (.t 75) (.c (.int .i64 0))⟩,
  ⟨some 77, some (73, true), .mov (.t 76)⟩,
  ⟨some 78, some (77, false), .faddr 3 (.t 2)⟩,
  ⟨some 79, some (77, false), .load 1 false (.t 78)⟩,
  ⟨some 80, some (77, false), .bin .neq (.t 79) (.c (.int .i64 0))⟩,
  ⟨some 81, some (73, true), .pick (.t 77) (.c (.bool true)) (.t 80)⟩,
  ⟨some 82, some (70, false), .pick (.t 73) (.t 81) (.c (.bool false))⟩,
  ⟨some 83, none, .pick (.t 70) (.c (.bool true)) (.t 82)⟩,
  ⟨some 84, none, .mov (.t 83)⟩,
  ⟨some 85, some (84, false), .mov (.t 7)⟩,
  ⟨some 86, some (84, false), .un .not (.t 85)⟩,
  ⟨some 87, some (84, false), .mov (.t 86)⟩,
  ⟨some 88, some (87, true), .faddr 4 (.t 2)⟩,
  ⟨some 89, some (87, true), .load 2 true (.t 88)⟩,
  ⟨some 90, some (87, true), .load 2 true (.t 5)⟩,
  ⟨some 91, some (87, true), .eq [.i, .i] true true (.t 89) (.t 90)⟩,
  ⟨some 92, some (84, false), .pick (.t 87) (.t 91) (.c (.bool false))⟩,
  ⟨some 93, none, .pick (.t 84) (.c (.bool true)) (.t 92)⟩,
  ⟨some 94, none, .mov (.t 93)⟩,
  ⟨some 95, some (94, false), .mov (.t 8)⟩,
  ⟨some 96, some (94, false), .un .not (.t 95)⟩,
  ⟨some 97, some (94, false), .mov (.t 96)⟩,
  ⟨some 98, some (97, true), .faddr 6 (.t 2)⟩,
  ⟨some 99, some (97, true), .load 2 true (.t 98)⟩,
  ⟨some 100, some (97, true), .load 2 true (.t 5)⟩,
  ⟨some 101, some (97, true), .eq [.i, .i] true true (.t 99) (.t 100)⟩,
  ⟨some 102, some (94, false), .pick (.t 97) (.t 101) (.c (.bool false))⟩,
  ⟨some 103, none, .pick (.t 94) (.c (.bool true)) (.t 102)⟩]
abbrev c132_r11 : List Ins := [
  ⟨some 4, none, .mov (.c (.bool false))⟩]
abbrev c132_r12 : List Ins := [
  ⟨some 104, none, .mov (.t 9)⟩,
  ⟨some 105, none, .mov (.t 104)⟩,
  ⟨some 106, some (105, true), .faddr 2 (.t 2)⟩,
  ⟨some 107, some (105, true), .load 1 false (.t 106)⟩,
  ⟨some 108, some (105, true), .bin .lss (.t 107) (.c (.int .i64 0))⟩,
  ⟨some 109, some (105, true), .mov (.t 108)⟩,
  ⟨some 110, some (109, false), .faddr 2 (.t 2)⟩,
  ⟨some 111, some (109, false), .load 1 false (.t 110)⟩,
  ⟨some 112, some (109, false), .bin .gtr (.t 111) (.c (.int .i64 3))⟩,
  ⟨some 113, some (105, true), .pick (.t 109) (.c (.bool true)) (.t 112)⟩,
  ⟨some 114, some (105, true), .mov (.t 113)⟩,
  ⟨some 115, some (114, false), .faddr 3 (.t 2)⟩,
  ⟨some 116, some (114, false), .load 1 false (.t 115)⟩,
  ⟨some 117, some (114, false), .bin .lss (.t 116) (.c (.int .i64 0))⟩,
  ⟨some 118, some (105, true), .pick (.t 114) (.c (.bool true)) (.t 117)⟩,
  ⟨some 119, some (105, true), .mov (.t 118)⟩,
  ⟨some 120, some (119, false), .faddr 3 (.t 2)⟩,
  ⟨some 121, some (119, false), .load 1 false (.t 120)⟩,
  ⟨some 122, some (119, false), .bin .gtr (.t 121) (.c (.int .i64 3))⟩,
  ⟨some 123, some (105, true), .pick (.t 119) (.c (.bool true)) (.t 122)⟩,
  ⟨some 124, none, .pick (.t 105) (.t 123) (.c (.bool false))⟩]
abbrev c132_r13 : List Ins := [
  ⟨some 4, none, .mov (.c (.bool false))⟩]
abbrev c132_r14 : List Ins := [
  ⟨some 125, none, .mov (.t 7)⟩,
  ⟨some 126, none, .un .not (.t 125)⟩,
  ⟨some 127, none, .mov (.t 126)⟩,
  ⟨some 128, some (127, false), .faddr 4 (.t 2)⟩,
  ⟨some 129, some (127, false), .load 2 true (.t 128)⟩,
  ⟨some 130, some (127, false), .mov (.t 1)⟩,
  ⟨some 131, some (127, false), .call (.c (.fn 133 [] [])) [.t 129, .t 130]⟩,
  ⟨some 132, none, .pick (.t 127) (.c (.bool true)) (.t 131)⟩,
  ⟨some 133, none, .mov (.t 132)⟩,
  ⟨some 134, some (133, true), .mov (.t 8)⟩,
  ⟨some 135, some (133, true), .un .not (.t 134)⟩,
  ⟨some 136, some (133, true), .mov (.t 135)⟩,
  ⟨some 137, some (136, false), .faddr 6 (.t 2)⟩,
  ⟨some 138, some (136, false), .load 2 true (.t 137)⟩,
  ⟨some 139, some (136, false), .mov (.t 1)⟩,
  ⟨some 140, some (136, false), .call (.c (.fn 133 [] [])) [.t 138, .t 139]⟩,
  ⟨some 141, some (133, true), .pick (.t 136) (.c (.bool true)) (.t 140)⟩,
  ⟨some 142, none, .pick (.t 133) (.t 141) (.c (.bool false))⟩,
  ⟨some 4, none, .mov (.t 142)⟩]
abbrev c132 : IR := .seq (.reg c132_r1) (.seq (.seq (.reg c132_r2) (.cond (.t 28) (.seq (.reg c132_r3) (.ret)) (.skip))) (.seq (.reg c132_r4) (.seq (.reg c132_r5) (.seq (.reg c132_r6) (.seq (.reg c132_r7) (.seq (.reg c132_r8) (.seq (.reg c132_r9) (.seq (.seq (.reg c132_r10) (.cond (.t 103) (.seq (.reg c132_r11) (.ret)) (.skip))) (.seq (.seq (.reg c132_r12) (.cond (.t 124) (.seq (.reg c132_r13) (.ret)) (.skip))) (.seq (.reg c132_r14) (.ret)))))))))))
abbrev F132 : FnA := ⟨143, c132, [.t 4]⟩
theorem ok132 : cFn Try.prog 132 = some F132 := by kernel_rfl
theorem hb132 : HasBody Try.prog 132 := ⟨_, Try.func132, by kernel_rfl, by kernel_rfl⟩
/-! ref09.MayKey -/
abbrev c133_r1 : List Ins := [
  ⟨some 2, none, .box (.t 0)⟩,
  ⟨some 4, none, .mov (.c (.bool false))⟩]
abbrev c133_r2 : List Ins := [
  ⟨some 5, none, .faddr 0 (.t 2)⟩,
  ⟨some 6, none, .load 1 false (.t 5)⟩,
  ⟨some 7, none, .bin .geq (.t 6) (.c (.int .i64 (-1)))⟩,
  ⟨some 8, none, .mov (.t 7)⟩,
  ⟨some 9, some (8, true), .faddr 0 (.t 2)⟩,
  ⟨some 10, some (8, true), .load 1 false (.t 9)⟩,
  ⟨some 11, some (8, true), .mov (.t 1)⟩,
  ⟨some 12, some (8, true), .bin .lss (.t 10) (.t 11)⟩,
  ⟨some 13, none, .pick (.t 8) (.t 12) (.c (.bool false))⟩,
  ⟨some 14, none, .mov (.t 13)⟩,
  ⟨some 15, some (14, true), .faddr 1 (.t 2)⟩,
  ⟨some 16, some (14, true), .load 1 false (.t 15)⟩,
  ⟨some 17, some (14, true), .bin .geq (.t 16) (.c (.int .i64 0))⟩,
  ⟨some 18, none, .pick (.t 14) (.t 17) (.c (.bool false))⟩,
  ⟨some 19, none, .mov (.t 18)⟩,
  ⟨some 20, some (19, true), .faddr 1 (.t 2)⟩,
  ⟨some 21, some (19, true), .load 1 false (.t 20)⟩,
  ⟨some 22, some (19, true), .bin .leq (.t 21) (.c (.int .i64 900))⟩,
  ⟨some 23, none, .pick (.t 19) (.t 22) (.c (.bool false))⟩,
  ⟨some 4, none, .mov (.t 23)⟩]
abbrev c133 : IR := .seq (.reg c133_r1) (.seq (.reg c133_r2) (.ret))
abbrev F133 : FnA := ⟨24, c133, [.t 4]⟩
theorem ok133 : cFn Try.prog 133 = some F133 := by kernel_rfl
theorem hb133 : HasBody Try.prog 133 := ⟨_, Try.func133, by kernel_rfl, by kernel_rfl⟩
/-! prog.only -/
abbrev c135_r1 : List Ins := [
  ⟨some 1, none, .box (.t 0)⟩,
  ⟨some 2, none, .alloc [.int .i64 0, .int .i64 0, .int .i64 0, .int .i64 0, .int .i64 0, .int .i64 0, .int .i64 0, .int .i64 0, .int .i64 0]⟩,
  ⟨some 3, none, .mov (.c (.bool false))⟩]
abbrev c135_r2 : List Ins := [
  ⟨some 5, none, .faddr 0 (.t 1)⟩,
  ⟨some 6, none, .load 1 false (.t 5)⟩,
  ⟨some 7, none, .faddr 1 (.t 1)⟩,
  ⟨some 8, none, .load 1 false (.t 7)⟩,
  ⟨some 9, none, .build [.int .i64 0, .int .i64 0, .int .i64 0, .int .i64 0, .int .i64 0, .int .i64 0, .int .i64 0, .int .i64 0, .int .i64 0] [(0, (1, .t 6)), (1, (1, .t 8))]⟩,
  ⟨some 4, none, .alloc [.int .i64 0, .int .i64 0, .int .i64 0, .int .i64 0, .int .i64 0, .int .i64 0, .int .i64 0, .int .i64 0, .int .i64 0]⟩,
  ⟨none, none, .store 9 (.t 4) (.t 9)⟩]
abbrev c135_r3 : List Ins := [
  ⟨some 10, none, .faddr 0 (.t 1)⟩,
  ⟨some 11, none, .load 1 false (.t 10)⟩]
abbrev c135_r4 : List Ins := [
  ⟨some 14, none, .bin .eql (.t 11) (.c (.int .i64 1))⟩,
  ⟨some 13, none, .mov (.t 14)⟩]
abbrev c135_r5 : List Ins := [
  ⟨some 15, none, .bin .eql (.t 11) (.c (.int .i64 2))⟩,
  ⟨some 13, none, .mov (.t 15)⟩]
abbrev c135_r6 : List Ins := [
  ⟨some 16, none, .faddr 4 (.t 1)⟩,
  ⟨some 17, none, .load 2 true (.t 16)⟩,
  ⟨some 18, none, .faddr 4 (.t 4)⟩,
  ⟨none, none, .store 2 (.t 18) (.t 17)⟩]
abbrev c135_r7 : List Ins := [
  ⟨some 20, none, .bin .eql (.t 11) (.c (.int .i64 3))⟩,
  ⟨some 19, none, .mov (.t 20)⟩]
abbrev c135_r8 : List Ins := [
  ⟨some 21, none, .faddr 4 (.t 1)⟩,
  ⟨some 22, none, .load 2 true (.t 21)⟩,
  ⟨some 23, none, .faddr 1 (.t 4)⟩,
  ⟨none, none, .store 1 (.t 23) (.c (.int .i64 0))⟩,
  ⟨some 24, none, .faddr 4 (.t 4)⟩,
  ⟨none, none, .store 2 (.t 24) (.t 22)⟩]
def c135_a8 : List (List Nat) := [[], [0], [], [2], [0, 1, 2, 3], [4, 1, 3, 0, 1, 2, 3]]
abbrev c135_m8 : List Am.Mark := [⟨false, 0, 1⟩, ⟨false, 0, 1⟩, ⟨false, 0, 0⟩, ⟨true, 0, 1⟩, ⟨false, 1, 1⟩, ⟨true, 1, 2⟩]
theorem c135_d8 : drawFine c135_r8 c135_a8 c135_m8 = true := by decide +kernel
abbrev c135_r9 : List Ins := [
  ⟨some 26, none, .bin .eql (.t 11) (.c (.int .i64 4))⟩,
  ⟨some 25, none, .mov (.t 26)⟩]
abbrev c135_r10 : List Ins := [
  ⟨some 27, none, .faddr 4 (.t 1)⟩,
  ⟨some 28, none, .load 2 true (.t 27)⟩,
  ⟨some 29, none, .faddr 6 (.t 1)⟩,
  ⟨some 30, none, .load 2 true (.t 29)⟩,
  ⟨some 31, none, .faddr 4 (.t 4)⟩,
  ⟨none, none, .store 2 (.t 31) (.t 28)⟩,
  ⟨some 32, none, .faddr 6 (.t 4)⟩,
  ⟨none, none, .store 2 (.t 32) (.t 30)⟩]
def c135_a10 : List (List Nat) := [[], [0], [], [2], [0, 1], [4, 1, 0, 1], [0, 1, 2, 3, 4, 5], [6, 3, 5, 0, 1, 2, 3, 4, 5]]
abbrev c135_m10 : List Am.Mark := [⟨false, 0, 0⟩, ⟨false, 0, 0⟩, ⟨false, 0, 1⟩, ⟨false, 0, 1⟩, ⟨false, 0, 0⟩, ⟨true, 0, 1⟩, ⟨false, 1, 1⟩, ⟨true, 1, 2⟩]
theorem c135_d10 : drawFine c135_r10 c135_a10 c135_m10 = true := by decide +kernel
abbrev c135_r11 : List Ins := [
  ⟨some 34, none, .bin .eql (.t 11) (.c (.int .i64 5))⟩,
  ⟨some 33, none, .mov (.t 34)⟩]
abbrev c135_r12 : List Ins := [
  ⟨some 35, none, .bin .eql (.t 11) (.c (.int .i64 8))⟩,
  ⟨some 33, none, .mov (.t 35)⟩]
abbrev c135_r13 : List Ins := [
  ⟨some 36, none, .faddr 8 (.t 1)⟩,
  ⟨some 37, none, .load 1 false (.t 36)⟩,
  ⟨some 38, none, .faddr 8 (.t 4)⟩,
  ⟨none, none, .store 1 (.t 38) (.t 37)⟩]
abbrev c135_r14 : List Ins := [
  ⟨some 40, none, .bin .eql (.t 11) (.c (.int .i64 6))⟩,
  ⟨some 39, none, .mov (.t 40)⟩]
abbrev c135_r15 : List Ins := [
  ⟨some 41, none, .bin .eql (.t 11) (.c (.int .i64 7))⟩,
  ⟨some 39, none, .mov (.t 41)⟩]
abbrev c135_r16 : List Ins := [
  ⟨some 42, none, .faddr 2 (.t 1)⟩,
  ⟨some 43, none, .load 1 false (.t 42)⟩,
  ⟨some 44, none, .faddr 3 (.t 1)⟩,
  ⟨some 45, none, .load 1 false (.t 44)⟩,
  ⟨some 46, none, .faddr 2 (.t 4)⟩,
  ⟨none, none, .store 1 (.t 46) (.t 43)⟩,
  ⟨some 47, none, .faddr 3 (.t 4)⟩,
  ⟨none, none, .store 1 (.t 47) (.t 45)⟩]
def c135_a16 : List (List Nat) := [[], [0], [], [2], [0, 1], [4, 1, 0, 1], [0, 1, 2, 3, 4, 5], [6, 3, 5, 0, 1, 2, 3, 4, 5]]
abbrev c135_m16 : List Am.Mark := [⟨false, 0, 0⟩, ⟨false, 0, 0⟩, ⟨false, 0, 1⟩, ⟨false, 0, 1⟩, ⟨false, 0, 0⟩, ⟨true, 0, 1⟩, ⟨false, 1, 1⟩, ⟨true, 1, 2⟩]
theorem c135_d16 : drawFine c135_r16 c135_a16 c135_m16 = true := by decide +kernel
abbrev c135_r17 : List Ins := [
  ⟨some 12, none, .load 9 true (.t 4)⟩,
  ⟨none, none, .store 9 (.t 2) (.t 12)⟩,
  ⟨some 3, none, .mov (.c (.bool false))⟩]
abbrev c135_r18 : List Ins := [
  ⟨some 48, none, .load 9 true (.t 4)⟩,
  ⟨none, none, .store 9 (.t 2) (.t 48)⟩,
  ⟨some 3, none, .mov (.c (.bool true))⟩]
abbrev c135 : IR := .seq (.reg c135_r1) (.seq (.reg c135_r2) (.seq (.seq (.reg c135_r3) (.blk 0 (.seq (.seq (.reg c135_r4) (.cond (.t 13) (.skip) (.reg c135_r5))) (.cond (.t 13) (.reg c135_r6) (.seq (.reg c135_r7) (.cond (.t 19) (.dreg c135_r8 c135_a8) (.seq (.reg c135_r9) (.cond (.t 25) (.dreg c135_r10 c135_a10) (.seq (.seq (.reg c135_r11) (.cond (.t 33) (.skip) (.reg c135_r12))) (.cond (.t 33) (.reg c135_r13) (.seq (.seq (.reg c135_r14) (.cond (.t 39) (.skip) (.reg c135_r15))) (.cond (.t 39) (.dreg c135_r16 c135_a16) (.seq (.reg c135_r17) (.ret)))))))))))))) (.seq (.reg c135_r18) (.ret))))
abbrev F135 : FnA := ⟨49, c135, [.cell 2 9 true, .t 3]⟩
theorem ok135 : cFn Try.prog 135 = some F135 := by kernel_rfl
theorem hb135 : HasBody Try.prog 135 := ⟨_, Try.func135, by kernel_rfl, by kernel_rfl⟩
/-! prog.may$1 -/
abbrev c136_r1 : List Ins := [
  ⟨some 2, none, .box (.t 0)⟩,
  ⟨some 3, none, .mov (.c (.bool false))⟩]
abbrev c136_r2 : List Ins := [
  ⟨some 4, none, .load 2 true (.t 2)⟩,
  ⟨some 5, none, .load 1 false (.t 1)⟩,
  ⟨some 6, none, .call (.c (.fn 137 [] [])) [.t 4, .t 5]⟩,
  ⟨some 7, none, .un .not (.t 6)⟩,
  ⟨some 3, none, .mov (.t 7)⟩]
abbrev c136 : IR := .seq (.reg c136_r1) (.seq (.reg c136_r2) (.ret))
abbrev F136 : FnA := ⟨8, c136, [.t 3]⟩
theorem ok136 : cFn Try.prog 136 = some F136 := by kernel_rfl
theorem hb136 : HasBody Try.prog 136 := ⟨_, Try.func136, by kernel_rfl, by kernel_rfl⟩
/-! prog.mayKey -/
abbrev c137_r1 : List Ins := [
  ⟨some 2, none, .box (.t 0)⟩,
  ⟨some 4, none, .mov (.c (.bool false))⟩]
abbrev c137_r2 : List Ins := [
  ⟨some 5, none, .faddr 0 (.t 2)⟩,
  ⟨some 6, none, .load 1 false (.t 5)⟩,
  ⟨some 7, none, .bin .geq (.t 6) (.c (.int .i64 (-1)))⟩,
  ⟨some 8, none, .mov (.t 7)⟩,
  ⟨some 9, some (8, true), .faddr 0 (.t 2)⟩,
  ⟨some 10, some (8, true), .load 1 false (.t 9)⟩,
  ⟨some 11, some (8, true), .mov (.t 1)⟩,
  ⟨some 12, some (8, true), .bin .lss (.t 10) (.t 11)⟩,
  ⟨some 13, none, .pick (.t 8) (.t 12) (.c (.bool false))⟩,
  ⟨some 14, none, .mov (.t 13)⟩,
  ⟨some 15, some (14, true), .faddr 1 (.t 2)⟩,
  ⟨some 16, some (14, true), .load 1 false (.t 15)⟩,
  ⟨some 17, some (14, true), .bin .geq (.t 16) (.c (.int .i64 0))⟩,
  ⟨some 18, none, .pick (.t 14) (.t 17) (.c (.bool false))⟩,
  ⟨some 19, none, .mov (.t 18)⟩,
  ⟨some 20, some (19, true), .faddr 1 (.t 2)⟩,
  ⟨some 21, some (19, true), .load 1 false (.t 20)⟩,
  ⟨some 22, some (19, true), .bin .leq (.t 21) (.c (.int .i64 900))⟩,
  ⟨some 23, none, .pick (.t 19) (.t 22) (.c (.bool false))⟩,
  ⟨some 4, none, .mov (.t 23)⟩]
abbrev c137 : IR := .seq (.reg c137_r1) (.seq (.reg c137_r2) (.ret))
abbrev F137 : FnA := ⟨24, c137, [.t 4]⟩
theorem ok137 : cFn Try.prog 137 = some F137 := by kernel_rfl
theorem hb137 : HasBody Try.prog 137 := ⟨_, Try.func137, by kernel_rfl, by kernel_rfl⟩
/-! prog.register -/
abbrev c138_r1 : List Ins := [
  ⟨some 2, none, .mov (.c (.bool false))⟩]
abbrev c138_r2 : List Ins := [
  ⟨some 3, none, .mov (.t 0)⟩,
  ⟨some 4, none, .bin .geq (.t 3) (.c (.int .i64 0))⟩,
  ⟨some 5, none, .mov (.t 4)⟩,
  ⟨some 6, some (5, true), .mov (.t 0)⟩,
  ⟨some 7, some (5, true), .bin .lss (.t 6) (.c (.int .i64 4))⟩,
  ⟨some 8, none, .pick (.t 5) (.t 7) (.c (.bool false))⟩,
  ⟨some 2, none, .mov (.t 8)⟩]
abbrev c138 : IR := .seq (.reg c138_r1) (.seq (.reg c138_r2) (.ret))
abbrev F138 : FnA := ⟨9, c138, [.t 2]⟩
theorem ok138 : cFn Try.prog 138 = some F138 := by kernel_rfl
theorem hb138 : HasBody Try.prog 138 := ⟨_, Try.func138, by kernel_rfl, by kernel_rfl⟩
/-! slices.ContainsFunc:KeyT -/
abbrev c139_r1 : List Ins := [
  ⟨some 4, none, .mov (.c (.bool false))⟩]
abbrev c139_r2 : List Ins := [
  ⟨some 5, none, .mov (.t 0)⟩,
  ⟨some 6, none, .mov (.t 1)⟩,
  ⟨some 7, none, .call (.c (.fn 152 [] [])) [.t 5, .t 6]⟩,
  ⟨some 8, none, .bin .geq (.t 7) (.c (.int .i64 0))⟩,
  ⟨some 4, none, .mov (.t 8)⟩]
abbrev c139 : IR := .seq (.reg c139_r1) (.seq (.reg c139_r2) (.ret))
abbrev F139 : FnA := ⟨9, c139, [.t 4]⟩
theorem ok139 : cFn Try.prog 139 = some F139 := by kernel_rfl
theorem hb139 : HasBody Try.prog 139 := ⟨_, Try.func139, by kernel_rfl, by kernel_rfl⟩
/-! prog.keys -/
abbrev c140_r1 : List Ins := [
  ⟨some 1, none, .box (.t 0)⟩,
  ⟨some 2, none, .mov (.c (.sl .full []))⟩]
abbrev c140_r2 : List Ins := [
  ⟨some 3, none, .faddr 0 (.t 1)⟩,
  ⟨some 4, none, .load 1 false (.t 3)⟩]
abbrev c140_r3 : List Ins := [
  ⟨some 6, none, .bin .eql (.t 4) (.c (.int .i64 1))⟩,
  ⟨some 5, none, .mov (.t 6)⟩]
abbrev c140_r4 : List Ins := [
  ⟨some 7, none, .bin .eql (.t 4) (.c (.int .i64 2))⟩,
  ⟨some 5, none, .mov (.t 7)⟩]
abbrev c140_r5 : List Ins := [
  ⟨some 8, none, .bin .eql (.t 4) (.c (.int .i64 3))⟩,
  ⟨some 5, none, .mov (.t 8)⟩]
abbrev c140_r6 : List Ins := [
  ⟨some 9, none, .faddr 4 (.t 1)⟩,
  ⟨some 10, none, .load 2 true (.t 9)⟩,
  ⟨some 11, none, .bsl 2 1 [.int .i64 0, .int .i64 0] [(0, .t 10)]⟩,
  ⟨some 2, none, .mov (.t 11)⟩]
abbrev c140_r7 : List Ins := [
  ⟨some 13, none, .bin .eql (.t 4) (.c (.int .i64 4))⟩,
  ⟨some 12, none, .mov (.t 13)⟩]
abbrev c140_r8 : List Ins := [
  ⟨some 14, none, .faddr 4 (.t 1)⟩,
  ⟨some 15, none, .load 2 true (.t 14)⟩,
  ⟨some 16, none, .faddr 6 (.t 1)⟩,
  ⟨some 17, none, .load 2 true (.t 16)⟩,
  ⟨some 18, none, .bsl 2 2 [.int .i64 0, .int .i64 0] [(0, .t 15), (1, .t 17)]⟩,
  ⟨some 2, none, .mov (.t 18)⟩]
abbrev c140_r9 : List Ins := [
  ⟨some 2, none, .mov (.c (.sl .full []))⟩]
abbrev c140 : IR := .seq (.reg c140_r1) (.seq (.seq (.reg c140_r2) (.blk 0 (.seq (.seq (.reg c140_r3) (.cond (.t 5) (.skip) (.seq (.reg c140_r4) (.cond (.t 5) (.skip) (.reg c140_r5))))) (.cond (.t 5) (.seq (.reg c140_r6) (.ret)) (.seq (.reg c140_r7) (.cond (.t 12) (.seq (.reg c140_r8) (.ret)) (.skip))))))) (.seq (.reg c140_r9) (.ret)))
abbrev F140 : FnA := ⟨19, c140, [.t 2]⟩
theorem ok140 : cFn Try.prog 140 = some F140 := by kernel_rfl
theorem hb140 : HasBody Try.prog 140 := ⟨_, Try.func140, by kernel_rfl, by kernel_rfl⟩
/-! codes.Reader.Signed$1 -/
abbrev c141_r1 : List Ins := [
  ⟨some 2, none, .mov (.c (.bool false))⟩]
abbrev c141_r2 : List Ins := [
  ⟨some 2, none, .mov (.c (.bool true))⟩]
abbrev c141 : IR := .seq (.reg c141_r1) (.seq (.reg c141_r2) (.ret))
abbrev F141 : FnA := ⟨3, c141, [.t 2]⟩
theorem ok141 : cFn Try.prog 141 = some F141 := by kernel_rfl
theorem hb141 : HasBody Try.prog 141 := ⟨_, Try.func141, by kernel_rfl, by kernel_rfl⟩
/-! ref01.Signed -/
abbrev c142_r1 : List Ins := [
  ⟨some 2, none, .mov (.c (.int .u64 0))⟩]
abbrev c142_r2 : List Ins := [
  ⟨some 3, none, .mov (.t 0)⟩,
  ⟨some 4, none, .bin .geq (.t 3) (.c (.int .i64 0))⟩]
abbrev c142_r3 : List Ins := [
  ⟨some 5, none, .mov (.t 0)⟩,
  ⟨some 6, none, .conv .u64 (.t 5)⟩,
  ⟨some 7, none, .bin .mul (.c (.int .u64 2)) (.t 6)⟩,
  ⟨some 2, none, .mov (.t 7)⟩]
abbrev c142_r4 : List Ins := [
  ⟨some 8, none, .mov (.t 0)⟩,
  ⟨some 9, none, .bin .add (.t 8) (.c (.int .i64 1))⟩,
  ⟨some 10, none, .un .neg (.t 9)⟩,
  ⟨some 11, none, .conv .u64 (.t 10)⟩,
  ⟨some 12, none, .bin .mul (.c (.int .u64 2)) (.t 11)⟩,
  ⟨some 13, none, .bin .add (.t 12) (.c (.int .u64 1))⟩,
  ⟨some 2, none, .mov (.t 13)⟩]
abbrev c142 : IR := .seq (.reg c142_r1) (.seq (.seq (.reg c142_r2) (.cond (.t 4) (.seq (.reg c142_r3) (.ret)) (.skip))) (.seq (.reg c142_r4) (.ret)))
abbrev F142 : FnA := ⟨14, c142, [.t 2]⟩
theorem ok142 : cFn Try.prog 142 = some F142 := by kernel_rfl
theorem hb142 : HasBody Try.prog 142 := ⟨_, Try.func142, by kernel_rfl, by kernel_rfl⟩
/-! ref01.Packed -/
abbrev c143_r1 : List Ins := [
  ⟨some 2, none, .mov (.c (.sl .full []))⟩]
abbrev c143_r2 : List Ins := [
  ⟨some 3, none, .mov (.c (.sl .full []))⟩]
abbrev c143_r3 : List Ins := [
  ⟨some 4, none, .mov (.c (.int .i64 0))⟩]
abbrev c143_r4 : List Ins := [
  ⟨some 7, none, .mov (.t 4)⟩,
  ⟨some 8, none, .mov (.t 0)⟩,
  ⟨some 9, none, .lenS (.t 8)⟩,
  ⟨some 10, none, .bin .lss (.t 7) (.t 9)⟩]
abbrev c143_r5 : List Ins := [
  ⟨some 5, none, .mov (.c (.int .u64 0))⟩]
abbrev c143_r6 : List Ins := [
  ⟨some 6, none, .mov (.c (.int .i64 7))⟩]
abbrev c143_r7 : List Ins := [
  ⟨some 13, none, .mov (.t 6)⟩,
  ⟨some 14, none, .bin .geq (.t 13) (.c (.int .i64 0))⟩]
abbrev c143_r8 : List Ins := [
  ⟨some 17, none, .mov (.t 5)⟩,
  ⟨some 18, none, .bin .mul (.t 17) (.c (.int .u64 256))⟩,
  ⟨some 5, none, .mov (.t 18)⟩]
abbrev c143_r9 : List Ins := [
  ⟨some 19, none, .mov (.t 4)⟩,
  ⟨some 20, none, .mov (.t 6)⟩,
  ⟨some 21, none, .bin .add (.t 19) (.t 20)⟩,
  ⟨some 22, none, .mov (.t 0)⟩,
  ⟨some 23, none, .lenS (.t 22)⟩,
  ⟨some 24, none, .bin .lss (.t 21) (.t 23)⟩]
abbrev c143_r10 : List Ins := [
  ⟨some 25, none, .mov (.t 5)⟩,
  ⟨some 26, none, .mov (.t 0)⟩,
  ⟨some 27, none, .mov (.t 4)⟩,
  ⟨some 28, none, .mov (.t 6)⟩,
  ⟨some 29, none, .bin .add (.t 27) (.t 28)⟩,
  ⟨some 30, none, .idxS (.t 26) (.t 29)⟩,
  ⟨some 31, none, .conv .u64 (.t 30)⟩,
  ⟨some 32, none, .bin .add (.t 25) (.t 31)⟩,
  ⟨some 5, none, .mov (.t 32)⟩]
abbrev c143_r11 : List Ins := [
  ⟨some 15, none, .mov (.t 6)⟩,
  ⟨some 16, none, .bin .sub (.t 15) (.c (.int .i64 1))⟩,
  ⟨some 6, none, .mov (.t 16)⟩]
abbrev c143_l12 : IR := .seq (.seq (.reg c143_r7) (.cond (.t 14) (.skip) (.exit 2))) (.seq (.blk 3 (.seq (.reg c143_r8) (.seq (.reg c143_r9) (.cond (.t 24) (.reg c143_r10) (.skip))))) (.reg c143_r11))
abbrev c143_r13 : List Ins := [
  ⟨some 33, none, .mov (.t 3)⟩,
  ⟨some 34, none, .mov (.t 5)⟩,
  ⟨some 35, none, .bsl 1 1 [.int .u64 0] [(0, .t 34)]⟩,
  ⟨some 36, none, .append 1 8 (.t 33) (.t 35)⟩,
  ⟨some 3, none, .mov (.t 36)⟩]
abbrev c143_r14 : List Ins := [
  ⟨some 11, none, .mov (.t 4)⟩,
  ⟨some 12, none, .bin .add (.t 11) (.c (.int .i64 8))⟩,
  ⟨some 4, none, .mov (.t 12)⟩]
abbrev c143_l15 : IR := .seq (.seq (.reg c143_r4) (.cond (.t 10) (.skip) (.exit 0))) (.seq (.blk 1 (.seq (.reg c143_r5) (.seq (.seq (.reg c143_r6) (.blk 2 (.loop c143_l12))) (.reg c143_r13)))) (.reg c143_r14))
abbrev c143_r16 : List Ins := [
  ⟨some 37, none, .mov (.t 3)⟩,
  ⟨some 2, none, .mov (.t 37)⟩]
abbrev c143 : IR := .seq (.reg c143_r1) (.seq (.reg c143_r2) (.seq (.seq (.reg c143_r3) (.blk 0 (.loop c143_l15))) (.seq (.reg c143_r16) (.ret))))
abbrev F143 : FnA := ⟨38, c143, [.t 2]⟩
theorem ok143 : cFn Try.prog 143 = some F143 := by kernel_rfl
theorem hb143 : HasBody Try.prog 143 := ⟨_, Try.func143, by kernel_rfl, by kernel_rfl⟩
/-! prog.Sure$1 -/
abbrev c144_r1 : List Ins := [
  ⟨some 1, none, .box (.t 0)⟩,
  ⟨some 2, none, .mov (.c (.bool false))⟩]
abbrev c144_r2 : List Ins := [
  ⟨some 3, none, .faddr 0 (.t 1)⟩,
  ⟨some 4, none, .load 1 false (.t 3)⟩,
  ⟨some 5, none, .bin .eql (.t 4) (.c (.int .i64 6))⟩,
  ⟨some 6, none, .mov (.t 5)⟩,
  ⟨some 7, some (6, false), .faddr 0 (.t 1)⟩,
  ⟨some 8, some (6, false), .load 1 false (.t 7)⟩,
  ⟨some 9, some (6, false), .bin .eql (.t 8) (.c (.int .i64 7))⟩,
  ⟨some 10, none, .pick (.t 6) (.c (.bool true)) (.t 9)⟩,
  ⟨some 11, none, .mov (.t 10)⟩,
  ⟨some 12, some (11, false), .faddr 0 (.t 1)⟩,
  ⟨some 13, some (11, false), .load 1 false (.t 12)⟩,
  ⟨some 14, some (11, false), .bin .eql (.t 13) (.c (.int .i64 8))⟩,
  ⟨some 15, none, .pick (.t 11) (.c (.bool true)) (.t 14)⟩,
  ⟨some 2, none, .mov (.t 15)⟩]
abbrev c144 : IR := .seq (.reg c144_r1) (.seq (.reg c144_r2) (.ret))
abbrev F144 : FnA := ⟨16, c144, [.t 2]⟩
theorem ok144 : cFn Try.prog 144 = some F144 := by kernel_rfl
theorem hb144 : HasBody Try.prog 144 := ⟨_, Try.func144, by kernel_rfl, by kernel_rfl⟩
/-! slices.IndexFunc:KeyT -/
abbrev c152_r1 : List Ins := [
  ⟨some 4, none, .mov (.c (.int .i64 0))⟩]
abbrev c152_r2 : List Ins := [
  ⟨some 6, none, .mov (.t 0)⟩,
  ⟨some 7, none, .len (.t 6)⟩,
  ⟨some 8, none, .mov (.c (.int .i64 0))⟩]
abbrev c152_r3 : List Ins := [
  ⟨some 9, none, .bin .lss (.t 8) (.t 7)⟩]
abbrev c152_r4 : List Ins := [
  ⟨some 10, none, .mov (.t 8)⟩,
  ⟨some 5, none, .mov (.t 10)⟩]
abbrev c152_r5 : List Ins := [
  ⟨some 11, none, .mov (.t 1)⟩,
  ⟨some 12, none, .mov (.t 0)⟩,
  ⟨some 13, none, .mov (.t 5)⟩,
  ⟨some 14, none, .iaddr 2 (.t 12) (.t 13)⟩,
  ⟨some 15, none, .load 2 true (.t 14)⟩,
  ⟨some 16, none, .call (.t 11) [.t 15]⟩]
abbrev c152_r6 : List Ins := [
  ⟨some 17, none, .mov (.t 5)⟩,
  ⟨some 4, none, .mov (.t 17)⟩]
abbrev c152_r7 : List Ins := [
  ⟨some 18, none, .bin .add (.t 8) (.c (.int .i64 1))⟩,
  ⟨some 8, none, .mov (.t 18)⟩]
abbrev c152_l8 : IR := .seq (.reg c152_r3) (.seq (.cond (.t 9) (.skip) (.exit 0)) (.seq (.blk 1 (.seq (.reg c152_r4) (.seq (.reg c152_r5) (.cond (.t 16) (.seq (.reg c152_r6) (.ret)) (.skip))))) (.reg c152_r7)))
abbrev c152_r9 : List Ins := [
  ⟨some 4, none, .mov (.c (.int .i64 (-1)))⟩]
abbrev c152 : IR := .seq (.reg c152_r1) (.seq (.seq (.reg c152_r2) (.blk 0 (.loop c152_l8))) (.seq (.reg c152_r9) (.ret)))
abbrev F152 : FnA := ⟨19, c152, [.t 4]⟩
theorem ok152 : cFn Try.prog 152 = some F152 := by kernel_rfl
theorem hb152 : HasBody Try.prog 152 := ⟨_, Try.func152, by kernel_rfl, by kernel_rfl⟩


end Go.Proofs
