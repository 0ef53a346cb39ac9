/- The code of the functions that the statement reaches, as the abstract machine reads it. -/
import Derived.Test.YtejbnedogieocaaGreatK4
import Derived.Test.YtejbnedogieocaaGreatProg
namespace Go.Proofs
open Go Go.RowKit Go.Am

/-! law12.CatWords -/
abbrev c3_r1 : List Ins := [
  ⟨some 1, none, .box (.t 0)⟩,
  ⟨some 2, none, .mov (.c (.bool false))⟩]
abbrev c3_r2 : List Ins := [
  ⟨some 7, none, .call (.c (.fn 4 [] [])) []⟩,
  ⟨some 8, none, .un .not (.t 7)⟩]
abbrev c3_r3 : List Ins := [
  ⟨some 2, none, .mov (.c (.bool false))⟩]
abbrev c3_r4 : List Ins := [
  ⟨some 9, none, .load 17 true (.t 1)⟩,
  ⟨some 10, none, .call (.c (.fn 5 [] [])) [.t 9]⟩,
  ⟨some 11, none, .un .not (.t 10)⟩]
abbrev c3_r5 : List Ins := [
  ⟨some 2, none, .mov (.c (.bool true))⟩]
abbrev c3_r6 : List Ins := [
  ⟨some 3, none, .alloc [.sl .full []]⟩]
abbrev c3_r7 : List Ins := [
  ⟨some 12, none, .load 17 true (.t 1)⟩,
  ⟨some 13, none, .call (.c (.fn 6 [] [])) [.t 3, .t 12]⟩]
abbrev c3_r8 : List Ins := [
  ⟨some 14, none, .call (.c (.fn 8 [] [])) [.t 3]⟩,
  ⟨some 15, none, .call (.c (.fn 7 [] [])) [.t 14]⟩,
  ⟨some 4, none, .mov (.t 15)⟩]
abbrev c3_r9 : List Ins := [
  ⟨some 17, none, .mov (.t 4)⟩,
  ⟨some 18, none, .call (.c (.fn 9 [] [])) [.t 17]⟩,
  ⟨some 16, none, .mov (.t 18)⟩,
  ⟨some 19, none, .ext (.t 16) 0⟩,
  ⟨some 20, none, .ext (.t 16) 1⟩,
  ⟨some 5, none, .alloc [.sl .full [], .int .i64 0, .int .i64 0, .int .i64 0, .int .i64 0, .int .i64 0, .int .i64 0, .int .i64 0, .int .i64 0, .int .i64 0, .int .i64 0, .int .i64 0, .int .i64 0, .int .i64 0, .int .i64 0, .int .i64 0, .int .i64 0]⟩,
  ⟨none, none, .store 17 (.t 5) (.t 19)⟩,
  ⟨some 6, none, .mov (.t 20)⟩]
abbrev c3_r10 : List Ins := [
  ⟨some 21, none, .call (.c (.fn 8 [] [])) [.t 3]⟩,
  ⟨some 22, none, .load 17 true (.t 1)⟩,
  ⟨some 23, none, .call (.c (.fn 12 [] [])) [.t 22]⟩,
  ⟨some 24, none, .call (.c (.fn 11 [] [])) [.t 23]⟩,
  ⟨some 25, none, .call (.c (.fn 10 [] [])) [.t 21, .t 24]⟩,
  ⟨some 26, none, .mov (.t 25)⟩,
  ⟨some 27, some (26, true), .mov (.t 6)⟩,
  ⟨some 28, none, .pick (.t 26) (.t 27) (.c (.bool false))⟩,
  ⟨some 29, none, .mov (.t 28)⟩,
  ⟨some 30, some (29, true), .mov (.t 4)⟩,
  ⟨some 31, some (29, true), .call (.c (.fn 13 [] [])) [.t 30]⟩,
  ⟨some 32, none, .pick (.t 29) (.t 31) (.c (.bool false))⟩,
  ⟨some 33, none, .mov (.t 32)⟩,
  ⟨some 34, some (33, true), .load 17 true (.t 1)⟩,
  ⟨some 35, some (33, true), .load 17 true (.t 5)⟩,
  ⟨some 36, some (33, true), .call (.c (.fn 14 [] [])) [.t 34, .t 35]⟩,
  ⟨some 37, none, .pick (.t 33) (.t 36) (.c (.bool false))⟩,
  ⟨some 2, none, .mov (.t 37)⟩]
def c3_a10 : List (List Nat) := [[], [], [1, 0], [2, 2], [0, 3, 3], [4, 4], [5], [5, 6], [7, 5], [8], [9, 8, 8], [8, 10], [11, 10], [12], [12], [13, 14, 12, 12], [12, 15], [16, 15, 0, 1, 2, 3, 4, 5, 6, 7, 8, 9, 10, 11, 12, 13, 14, 15, 16]]
abbrev c3_m10 : List Am.Mark := [⟨true, 0, 2⟩, ⟨false, 0, 2⟩, ⟨false, 1, 2⟩, ⟨false, 1, 2⟩, ⟨false, 1, 2⟩, ⟨false, 1, 2⟩, ⟨false, 1, 2⟩, ⟨false, 1, 2⟩, ⟨false, 1, 1⟩, ⟨false, 1, 1⟩, ⟨true, 1, 2⟩, ⟨false, 2, 2⟩, ⟨false, 2, 2⟩, ⟨false, 2, 2⟩, ⟨false, 2, 2⟩, ⟨false, 2, 2⟩, ⟨false, 2, 2⟩, ⟨false, 2, 2⟩]
theorem c3_d10 : drawFine c3_r10 c3_a10 c3_m10 = true := by decide +kernel
abbrev c3 : IR := .seq (.reg c3_r1) (.seq (.seq (.reg c3_r2) (.cond (.t 8) (.seq (.reg c3_r3) (.ret)) (.skip))) (.seq (.seq (.reg c3_r4) (.cond (.t 11) (.seq (.reg c3_r5) (.ret)) (.skip))) (.seq (.reg c3_r6) (.seq (.reg c3_r7) (.seq (.reg c3_r8) (.seq (.reg c3_r9) (.seq (.dreg c3_r10 c3_a10) (.ret))))))))
abbrev F3 : FnA := ⟨38, c3, [.t 2]⟩
theorem ok3 : cFn Tryz.prog 3 = some F3 := by kernel_rfl
theorem hb3 : HasBody Tryz.prog 3 := ⟨_, Tryz.func3, by kernel_rfl, by kernel_rfl⟩
/-! law12.alive -/
abbrev c4_r1 : List Ins := [
  ⟨some 0, none, .mov (.c (.bool false))⟩]
abbrev c4_r2 : List Ins := [
  ⟨some 4, none, .build [.int .i64 0, .int .i64 0, .int .i64 0, .int .i64 0, .int .i64 0, .int .i64 0, .int .i64 0, .int .i64 0, .int .i64 0] [(0, (1, .c (.int .i64 5)))]⟩,
  ⟨some 5, none, .bsl 9 1 [.int .i64 0, .int .i64 0, .int .i64 0, .int .i64 0, .int .i64 0, .int .i64 0, .int .i64 0, .int .i64 0, .int .i64 0] [(0, .t 4)]⟩,
  ⟨some 6, none, .build [.sl .full [], .sl .full []] [(0, (1, .t 5))]⟩,
  ⟨some 1, none, .alloc [.sl .full [], .sl .full []]⟩,
  ⟨none, none, .store 2 (.t 1) (.t 6)⟩]
abbrev c4_r3 : List Ins := [
  ⟨some 7, none, .load 2 true (.t 1)⟩,
  ⟨some 8, none, .load 2 true (.t 1)⟩,
  ⟨some 9, none, .load 2 true (.t 1)⟩,
  ⟨some 10, none, .bsl 2 3 [.sl .full [], .sl .full []] [(0, .t 7), (1, .t 8), (2, .t 9)]⟩,
  ⟨some 11, none, .mksl 2 48 [.sl .full [], .sl .full []] (.c (.int .i64 3)) (.c (.int .i64 3))⟩,
  ⟨some 12, none, .build [.str ⟨#[]⟩, .int .i64 0, .sl .full [], .sl .full [], .bool false] [(0, (1, .c (.str ⟨#[97]⟩))), (2, (1, .t 10)), (3, (1, .t 11))]⟩,
  ⟨some 2, none, .alloc [.str ⟨#[]⟩, .int .i64 0, .sl .full [], .sl .full [], .bool false]⟩,
  ⟨none, none, .store 5 (.t 2) (.t 12)⟩]
def c4_a3 : List (List Nat) := [[], [], [], [0, 1, 2], [], [3, 4], [], [6, 5, 0, 1, 2, 3, 4, 5, 6]]
abbrev c4_m3 : List Am.Mark := [⟨false, 0, 1⟩, ⟨false, 0, 1⟩, ⟨false, 0, 1⟩, ⟨false, 0, 1⟩, ⟨false, 0, 1⟩, ⟨false, 0, 1⟩, ⟨true, 0, 1⟩, ⟨true, 1, 2⟩]
theorem c4_d3 : drawFine c4_r3 c4_a3 c4_m3 = true := by decide +kernel
abbrev c4_r4 : List Ins := [
  ⟨some 13, none, .load 5 true (.t 2)⟩,
  ⟨some 14, none, .bsl 5 1 [.str ⟨#[]⟩, .int .i64 0, .sl .full [], .sl .full [], .bool false] [(0, .t 13)]⟩,
  ⟨some 15, none, .build [.sl .full [], .int .i64 0, .int .i64 0, .int .i64 0, .int .i64 0, .int .i64 0, .int .i64 0, .int .i64 0, .int .i64 0, .int .i64 0, .int .i64 0, .int .i64 0, .int .i64 0, .int .i64 0, .int .i64 0, .int .i64 0, .int .i64 0] [(0, (1, .t 14))]⟩,
  ⟨some 16, none, .call (.c (.fn 15 [] [])) [.t 15]⟩,
  ⟨some 3, none, .alloc [.sl .full [], .int .i64 0, .int .i64 0, .int .i64 0, .int .i64 0, .int .i64 0, .int .i64 0, .int .i64 0, .int .i64 0, .int .i64 0, .int .i64 0, .int .i64 0, .int .i64 0, .int .i64 0, .int .i64 0, .int .i64 0, .int .i64 0]⟩,
  ⟨none, none, .store 17 (.t 3) (.t 16)⟩]
abbrev c4_r5 : List Ins := [
  ⟨some 17, none, .load 17 true (.t 3)⟩,
  ⟨some 18, none, .call (.c (.fn 16 [] [])) [.t 17]⟩,
  ⟨some 19, none, .mov (.t 18)⟩,
  ⟨some 20, some (19, true), .load 17 true (.t 3)⟩,
  ⟨some 21, some (19, true), .call (.c (.fn 17 [] [])) [.t 20]⟩,
  ⟨some 22, some (19, true), .bin .eql (.t 21) (.c (.int .i64 2))⟩,
  ⟨some 23, none, .pick (.t 19) (.t 22) (.c (.bool false))⟩,
  ⟨some 24, none, .mov (.t 23)⟩,
  ⟨some 25, some (24, true), .load 17 true (.t 3)⟩,
  ⟨some 26, some (24, true), .call (.c (.fn 18 [] [])) [.t 25, .c (.int .i64 0), .c (.int .i64 0), .c (.int .i64 1)]⟩,
  ⟨some 27, none, .pick (.t 24) (.t 26) (.c (.bool false))⟩,
  ⟨some 0, none, .mov (.t 27)⟩]
abbrev c4 : IR := .seq (.reg c4_r1) (.seq (.reg c4_r2) (.seq (.dreg c4_r3 c4_a3) (.seq (.reg c4_r4) (.seq (.reg c4_r5) (.ret)))))
abbrev F4 : FnA := ⟨28, c4, [.t 0]⟩
theorem ok4 : cFn Tryz.prog 4 = some F4 := by kernel_rfl
theorem hb4 : HasBody Tryz.prog 4 := ⟨_, Tryz.func4, by kernel_rfl, by kernel_rfl⟩
/-! ref12.May -/
abbrev c5_r1 : List Ins := [
  ⟨some 1, none, .box (.t 0)⟩,
  ⟨some 2, none, .mov (.c (.bool false))⟩]
abbrev c5_r2 : List Ins := [
  ⟨some 10, none, .faddr 0 (.t 1)⟩,
  ⟨some 11, none, .load 1 false (.t 10)⟩,
  ⟨some 12, none, .len (.t 11)⟩,
  ⟨some 3, none, .mov (.t 12)⟩]
abbrev c5_r3 : List Ins := [
  ⟨some 13, none, .mov (.t 3)⟩,
  ⟨some 14, none, .bin .lss (.t 13) (.c (.int .i64 1))⟩,
  ⟨some 15, none, .mov (.t 14)⟩,
  ⟨some 16, some (15, false), .mov (.t 3)⟩,
  ⟨some 17, some (15, false), .bin .gtr (.t 16) (.c (.int .i64 4))⟩,
  ⟨some 18, none, .pick (.t 15) (.c (.bool true)) (.t 17)⟩]
abbrev c5_r4 : List Ins := [
  ⟨some 2, none, .mov (.c (.bool false))⟩]
abbrev c5_r5 : List Ins := [
  ⟨some 4, none, .mov (.c (.int .i64 0))⟩]
abbrev c5_r6 : List Ins := [
  ⟨some 19, none, .mov (.t 4)⟩,
  ⟨some 20, none, .mov (.t 3)⟩,
  ⟨some 21, none, .bin .lss (.t 19) (.t 20)⟩]
abbrev c5_r7 : List Ins := [
  ⟨some 24, none, .faddr 0 (.t 1)⟩,
  ⟨some 25, none, .load 1 false (.t 24)⟩,
  ⟨some 26, none, .mov (.t 4)⟩,
  ⟨some 27, none, .iaddr 5 (.t 25) (.t 26)⟩,
  ⟨some 28, none, .load 5 true (.t 27)⟩,
  ⟨some 29, none, .call (.c (.fn 19 [] [])) [.t 28]⟩,
  ⟨some 30, none, .un .not (.t 29)⟩]
abbrev c5_r8 : List Ins := [
  ⟨some 2, none, .mov (.c (.bool false))⟩]
abbrev c5_r9 : List Ins := [
  ⟨some 5, none, .mov (.c (.int .i64 0))⟩]
abbrev c5_r10 : List Ins := [
  ⟨some 31, none, .mov (.t 5)⟩,
  ⟨some 32, none, .mov (.t 4)⟩,
  ⟨some 33, none, .bin .lss (.t 31) (.t 32)⟩]
abbrev c5_r11 : List Ins := [
  ⟨some 36, none, .faddr 0 (.t 1)⟩,
  ⟨some 37, none, .load 1 false (.t 36)⟩,
  ⟨some 38, none, .mov (.t 5)⟩,
  ⟨some 39, none, .iaddr 5 (.t 37) (.t 38)⟩,
  ⟨some 40, none, .faddr 0 (.t 39)⟩,
  ⟨some 41, none, .load 1 false (.t 40)⟩,
  ⟨some 42, none, .faddr 0 (.t 1)⟩,
  ⟨some 43, none, .load 1 false (.t 42)⟩,
  ⟨some 44, none, .mov (.t 4)⟩,
  ⟨some 45, none, .iaddr 5 (.t 43) (.t 44)⟩,
  ⟨some 46, none, .faddr 0 (.t 45)⟩,
  ⟨some 47, none, .load 1 false (.t 46)⟩,
  ⟨some 48, none, .bin .eql (.t 41) (.t 47)⟩]
def c5_a11 : List (List Nat) := [[], [0], [], [1, 2], [3], [4], [], [6], [], [7, 8], [9], [10], [5, 11]]
abbrev c5_m11 : List Am.Mark := [⟨false, 0, 0⟩, ⟨false, 0, 0⟩, ⟨false, 0, 0⟩, ⟨false, 0, 0⟩, ⟨false, 0, 0⟩, ⟨false, 0, 0⟩, ⟨false, 0, 0⟩, ⟨false, 0, 0⟩, ⟨false, 0, 0⟩, ⟨false, 0, 0⟩, ⟨false, 0, 0⟩, ⟨false, 0, 0⟩, ⟨false, 0, 0⟩]
theorem c5_d11 : drawFine c5_r11 c5_a11 c5_m11 = true := by decide +kernel
abbrev c5_r12 : List Ins := [
  ⟨some 2, none, .mov (.c (.bool false))⟩]
abbrev c5_r13 : List Ins := [
  ⟨some 34, none, .mov (.t 5)⟩,
  ⟨some 35, none, .bin .add (.t 34) (.c (.int .i64 1))⟩,
  ⟨some 5, none, .mov (.t 35)⟩]
abbrev c5_l14 : IR := .seq (.seq (.reg c5_r10) (.cond (.t 33) (.skip) (.exit 2))) (.seq (.blk 3 (.seq (.dreg c5_r11 c5_a11) (.cond (.t 48) (.seq (.reg c5_r12) (.ret)) (.skip)))) (.reg c5_r13))
abbrev c5_r15 : List Ins := [
  ⟨some 22, none, .mov (.t 4)⟩,
  ⟨some 23, none, .bin .add (.t 22) (.c (.int .i64 1))⟩,
  ⟨some 4, none, .mov (.t 23)⟩]
abbrev c5_l16 : IR := .seq (.seq (.reg c5_r6) (.cond (.t 21) (.skip) (.exit 0))) (.seq (.blk 1 (.seq (.seq (.reg c5_r7) (.cond (.t 30) (.seq (.reg c5_r8) (.ret)) (.skip))) (.seq (.reg c5_r9) (.blk 2 (.loop c5_l14))))) (.reg c5_r15))
abbrev c5_r17 : List Ins := [
  ⟨some 6, none, .mov (.c (.int .i64 0))⟩]
abbrev c5_r18 : List Ins := [
  ⟨some 49, none, .mov (.t 6)⟩,
  ⟨some 50, none, .bin .lss (.t 49) (.c (.int .i64 4))⟩]
abbrev c5_r19 : List Ins := [
  ⟨some 7, none, .mov (.c (.int .i64 0))⟩]
abbrev c5_r20 : List Ins := [
  ⟨some 53, none, .mov (.t 7)⟩,
  ⟨some 54, none, .bin .lss (.t 53) (.c (.int .i64 4))⟩]
abbrev c5_r21 : List Ins := [
  ⟨some 8, none, .mov (.c (.int .i64 1))⟩]
abbrev c5_r22 : List Ins := [
  ⟨some 57, none, .mov (.t 6)⟩,
  ⟨some 58, none, .mov (.t 3)⟩,
  ⟨some 59, none, .bin .lss (.t 57) (.t 58)⟩,
  ⟨some 60, none, .mov (.t 59)⟩,
  ⟨some 61, some (60, true), .mov (.t 7)⟩,
  ⟨some 62, some (60, true), .mov (.t 3)⟩,
  ⟨some 63, some (60, true), .bin .lss (.t 61) (.t 62)⟩,
  ⟨some 64, none, .pick (.t 60) (.t 63) (.c (.bool false))⟩]
abbrev c5_r23 : List Ins := [
  ⟨some 9, none, .mov (.c (.int .i64 1))⟩]
abbrev c5_r24 : List Ins := [
  ⟨some 65, none, .mov (.t 9)⟩,
  ⟨some 66, none, .faddr 0 (.t 1)⟩,
  ⟨some 67, none, .load 1 false (.t 66)⟩,
  ⟨some 68, none, .mov (.t 6)⟩,
  ⟨some 69, none, .iaddr 5 (.t 67) (.t 68)⟩,
  ⟨some 70, none, .faddr 2 (.t 69)⟩,
  ⟨some 71, none, .load 1 false (.t 70)⟩,
  ⟨some 72, none, .len (.t 71)⟩,
  ⟨some 73, none, .bin .lss (.t 65) (.t 72)⟩]
abbrev c5_r25 : List Ins := [
  ⟨some 76, none, .mov (.t 8)⟩,
  ⟨some 77, none, .bin .mul (.c (.int .i64 2)) (.t 76)⟩,
  ⟨some 8, none, .mov (.t 77)⟩]
abbrev c5_r26 : List Ins := [
  ⟨some 74, none, .mov (.t 9)⟩,
  ⟨some 75, none, .bin .add (.t 74) (.c (.int .i64 1))⟩,
  ⟨some 9, none, .mov (.t 75)⟩]
abbrev c5_l27 : IR := .seq (.seq (.reg c5_r24) (.cond (.t 73) (.skip) (.exit 8))) (.seq (.blk 9 (.reg c5_r25)) (.reg c5_r26))
abbrev c5_r28 : List Ins := [
  ⟨some 78, none, .mov (.t 6)⟩,
  ⟨some 79, none, .mov (.t 7)⟩,
  ⟨some 80, none, .faddr 1 (.t 1)⟩,
  ⟨some 81, none, .iaddrA 4 4 (.t 80) (.t 78)⟩,
  ⟨some 82, none, .iaddrA 4 1 (.t 81) (.t 79)⟩,
  ⟨some 83, none, .load 1 false (.t 82)⟩,
  ⟨some 84, none, .bin .lss (.t 83) (.c (.int .i64 0))⟩,
  ⟨some 85, none, .mov (.t 84)⟩,
  ⟨some 86, some (85, false), .mov (.t 6)⟩,
  ⟨some 87, some (85, false), .mov (.t 7)⟩,
  ⟨some 88, some (85, false), .faddr 1 (.t 1)⟩,
  ⟨some 89, some (85, false), .iaddrA 4 4 (.t 88) (.t 86)⟩,
  ⟨some 90, some (85, false), .iaddrA 4 1 (.t 89) (.t 87)⟩,
  ⟨some 91, some (85, false), .load 1 false (.t 90)⟩,
  ⟨some 92, some (85, false), .mov (.t 8)⟩,
  ⟨some 93, some (85, false), .bin .geq (.t 91) (.t 92)⟩,
  ⟨some 94, none, .pick (.t 85) (.c (.bool true)) (.t 93)⟩]
abbrev c5_r29 : List Ins := [
  ⟨some 2, none, .mov (.c (.bool false))⟩]
abbrev c5_r30 : List Ins := [
  ⟨some 55, none, .mov (.t 7)⟩,
  ⟨some 56, none, .bin .add (.t 55) (.c (.int .i64 1))⟩,
  ⟨some 7, none, .mov (.t 56)⟩]
abbrev c5_l31 : IR := .seq (.seq (.reg c5_r20) (.cond (.t 54) (.skip) (.exit 6))) (.seq (.blk 7 (.seq (.reg c5_r21) (.seq (.seq (.reg c5_r22) (.cond (.t 64) (.seq (.reg c5_r23) (.blk 8 (.loop c5_l27))) (.skip))) (.seq (.reg c5_r28) (.cond (.t 94) (.seq (.reg c5_r29) (.ret)) (.skip)))))) (.reg c5_r30))
abbrev c5_r32 : List Ins := [
  ⟨some 51, none, .mov (.t 6)⟩,
  ⟨some 52, none, .bin .add (.t 51) (.c (.int .i64 1))⟩,
  ⟨some 6, none, .mov (.t 52)⟩]
abbrev c5_l33 : IR := .seq (.seq (.reg c5_r18) (.cond (.t 50) (.skip) (.exit 4))) (.seq (.blk 5 (.seq (.reg c5_r19) (.blk 6 (.loop c5_l31)))) (.reg c5_r32))
abbrev c5_r34 : List Ins := [
  ⟨some 2, none, .mov (.c (.bool true))⟩]
abbrev c5 : IR := .seq (.reg c5_r1) (.seq (.reg c5_r2) (.seq (.seq (.reg c5_r3) (.cond (.t 18) (.seq (.reg c5_r4) (.ret)) (.skip))) (.seq (.seq (.reg c5_r5) (.blk 0 (.loop c5_l16))) (.seq (.seq (.reg c5_r17) (.blk 4 (.loop c5_l33))) (.seq (.reg c5_r34) (.ret))))))
abbrev F5 : FnA := ⟨95, c5, [.t 2]⟩
theorem ok5 : cFn Tryz.prog 5 = some F5 := by kernel_rfl
theorem hb5 : HasBody Tryz.prog 5 := ⟨_, Tryz.func5, by kernel_rfl, by kernel_rfl⟩
/-! cat.Put -/
abbrev c6_r1 : List Ins := [
  ⟨some 2, none, .box (.t 0)⟩,
  ⟨some 3, none, .box (.t 1)⟩]
abbrev c6_r2 : List Ins := [
  ⟨some 8, none, .load 1 false (.t 2)⟩,
  ⟨some 9, none, .faddr 0 (.t 3)⟩,
  ⟨some 10, none, .load 1 false (.t 9)⟩,
  ⟨some 11, none, .len (.t 10)⟩,
  ⟨some 12, none, .call (.c (.fn 20 [] [])) [.t 8, .t 11]⟩]
abbrev c6_r3 : List Ins := [
  ⟨some 13, none, .faddr 0 (.t 3)⟩,
  ⟨some 14, none, .load 1 false (.t 13)⟩,
  ⟨some 15, none, .len (.t 14)⟩,
  ⟨some 16, none, .mov (.c (.int .i64 0))⟩]
abbrev c6_r4 : List Ins := [
  ⟨some 17, none, .bin .lss (.t 16) (.t 15)⟩]
abbrev c6_r5 : List Ins := [
  ⟨some 18, none, .iaddr 5 (.t 14) (.t 16)⟩,
  ⟨some 19, none, .load 5 true (.t 18)⟩,
  ⟨some 5, none, .alloc [.str ⟨#[]⟩, .int .i64 0, .sl .full [], .sl .full [], .bool false]⟩,
  ⟨none, none, .store 5 (.t 5) (.t 19)⟩]
abbrev c6_r6 : List Ins := [
  ⟨some 20, none, .load 1 false (.t 2)⟩,
  ⟨some 21, none, .load 5 true (.t 5)⟩,
  ⟨some 22, none, .call (.c (.fn 21 [] [])) [.t 20, .t 21]⟩]
abbrev c6_r7 : List Ins := [
  ⟨some 23, none, .bin .add (.t 16) (.c (.int .i64 1))⟩,
  ⟨some 16, none, .mov (.t 23)⟩]
abbrev c6_l8 : IR := .seq (.reg c6_r4) (.seq (.cond (.t 17) (.skip) (.exit 0)) (.seq (.blk 1 (.seq (.reg c6_r5) (.reg c6_r6))) (.reg c6_r7)))
abbrev c6_r9 : List Ins := [
  ⟨some 24, none, .load 17 true (.t 3)⟩,
  ⟨some 25, none, .call (.c (.fn 22 [] [])) [.t 24]⟩]
abbrev c6_r10 : List Ins := [
  ⟨some 6, none, .mov (.t 26)⟩]
abbrev c6_r11 : List Ins := [
  ⟨some 7, none, .mov (.t 27)⟩]
abbrev c6_r12 : List Ins := [
  ⟨some 28, none, .load 1 false (.t 2)⟩,
  ⟨some 29, none, .mov (.t 6)⟩,
  ⟨some 30, none, .mov (.t 7)⟩,
  ⟨some 31, none, .faddr 1 (.t 3)⟩,
  ⟨some 32, none, .iaddrA 4 4 (.t 31) (.t 29)⟩,
  ⟨some 33, none, .iaddrA 4 1 (.t 32) (.t 30)⟩,
  ⟨some 34, none, .load 1 false (.t 33)⟩,
  ⟨some 35, none, .call (.c (.fn 20 [] [])) [.t 28, .t 34]⟩]
def c6_a12 : List (List Nat) := [[], [], [], [], [3, 1], [4, 2], [5], [0, 6]]
abbrev c6_m12 : List Am.Mark := [⟨false, 0, 0⟩, ⟨false, 0, 1⟩, ⟨false, 0, 1⟩, ⟨false, 0, 1⟩, ⟨false, 0, 1⟩, ⟨false, 0, 1⟩, ⟨false, 0, 0⟩, ⟨true, 0, 1⟩]
theorem c6_d12 : drawFine c6_r12 c6_a12 c6_m12 = true := by decide +kernel
abbrev c6_x13 : IR := .seq (.reg c6_r10) (.reg c6_r11)
abbrev c6_y14 : IR := .blk 3 (.dreg c6_r12 c6_a12)
abbrev c6 : IR := .seq (.reg c6_r1) (.seq (.reg c6_r2) (.seq (.seq (.reg c6_r3) (.blk 0 (.loop c6_l8))) (.seq (.reg c6_r9) (.blk 2 (.rngf (.t 25) [26, 27] c6_x13 c6_y14)))))
abbrev F6 : FnA := ⟨36, c6, []⟩
theorem ok6 : cFn Tryz.prog 6 = some F6 := by kernel_rfl
theorem hb6 : HasBody Tryz.prog 6 := ⟨_, Tryz.func6, by kernel_rfl, by kernel_rfl⟩
/-! codes.NewReader -/
abbrev c7_r1 : List Ins := [
  ⟨some 2, none, .mov (.c .nilptr)⟩]
abbrev c7_r2 : List Ins := [
  ⟨some 3, none, .mov (.t 0)⟩,
  ⟨some 4, none, .build [.sl .full [], .bool false] [(0, (1, .t 3))]⟩,
  ⟨some 5, none, .box (.t 4)⟩,
  ⟨some 2, none, .mov (.t 5)⟩]
abbrev c7 : IR := .seq (.reg c7_r1) (.seq (.reg c7_r2) (.ret))
abbrev F7 : FnA := ⟨6, c7, [.t 2]⟩
theorem ok7 : cFn Tryz.prog 7 = some F7 := by kernel_rfl
theorem hb7 : HasBody Tryz.prog 7 := ⟨_, Tryz.func7, by kernel_rfl, by kernel_rfl⟩
/-! codes.Writer.Done -/
abbrev c8_r1 : List Ins := [
  ⟨some 2, none, .mov (.c (.sl .full []))⟩]
abbrev c8_r2 : List Ins := [
  ⟨some 3, none, .mov (.t 0)⟩,
  ⟨some 4, none, .nilck (.t 3)⟩,
  ⟨some 5, none, .faddr 0 (.t 4)⟩,
  ⟨some 6, none, .load 1 false (.t 5)⟩,
  ⟨some 7, none, .call (.c (.fn 23 [] [])) [.t 6]⟩,
  ⟨some 2, none, .mov (.t 7)⟩]
abbrev c8 : IR := .seq (.reg c8_r1) (.seq (.reg c8_r2) (.ret))
abbrev F8 : FnA := ⟨8, c8, [.t 2]⟩
theorem ok8 : cFn Tryz.prog 8 = some F8 := by kernel_rfl
theorem hb8 : HasBody Tryz.prog 8 := ⟨_, Tryz.func8, by kernel_rfl, by kernel_rfl⟩
/-! cat.Get -/
abbrev c9_r1 : List Ins := [
  ⟨some 1, none, .box (.t 0)⟩,
  ⟨some 2, none, .alloc [.sl .full [], .int .i64 0, .int .i64 0, .int .i64 0, .int .i64 0, .int .i64 0, .int .i64 0, .int .i64 0, .int .i64 0, .int .i64 0, .int .i64 0, .int .i64 0, .int .i64 0, .int .i64 0, .int .i64 0, .int .i64 0, .int .i64 0]⟩,
  ⟨some 3, none, .mov (.c (.bool false))⟩]
abbrev c9_r2 : List Ins := [
  ⟨some 4, none, .alloc [.sl .full [], .int .i64 0, .int .i64 0, .int .i64 0, .int .i64 0, .int .i64 0, .int .i64 0, .int .i64 0, .int .i64 0, .int .i64 0, .int .i64 0, .int .i64 0, .int .i64 0, .int .i64 0, .int .i64 0, .int .i64 0, .int .i64 0]⟩]
abbrev c9_r3 : List Ins := [
  ⟨some 7, none, .load 1 false (.t 1)⟩,
  ⟨some 8, none, .call (.c (.fn 24 [] [])) [.t 7, .c (.int .i64 4)]⟩,
  ⟨some 9, none, .mov (.c (.int .i64 0))⟩]
abbrev c9_r4 : List Ins := [
  ⟨some 10, none, .bin .lss (.t 9) (.t 8)⟩]
abbrev c9_r5 : List Ins := [
  ⟨some 12, none, .load 1 false (.t 1)⟩,
  ⟨some 13, none, .call (.c (.fn 25 [] [])) [.t 12]⟩,
  ⟨some 11, none, .mov (.t 13)⟩,
  ⟨some 14, none, .ext (.t 11) 0⟩,
  ⟨some 15, none, .ext (.t 11) 1⟩,
  ⟨some 5, none, .alloc [.str ⟨#[]⟩, .int .i64 0, .sl .full [], .sl .full [], .bool false]⟩,
  ⟨none, none, .store 5 (.t 5) (.t 14)⟩,
  ⟨some 6, none, .mov (.t 15)⟩]
abbrev c9_r6 : List Ins := [
  ⟨some 16, none, .faddr 0 (.t 4)⟩,
  ⟨some 17, none, .load 1 false (.t 16)⟩,
  ⟨some 18, none, .load 5 true (.t 5)⟩,
  ⟨some 19, none, .bsl 5 1 [.str ⟨#[]⟩, .int .i64 0, .sl .full [], .sl .full [], .bool false] [(0, .t 18)]⟩,
  ⟨some 20, none, .append 5 80 (.t 17) (.t 19)⟩,
  ⟨some 21, none, .faddr 0 (.t 4)⟩,
  ⟨none, none, .store 1 (.t 21) (.t 20)⟩]
abbrev c9_r7 : List Ins := [
  ⟨some 22, none, .bin .add (.t 9) (.c (.int .i64 1))⟩,
  ⟨some 9, none, .mov (.t 22)⟩]
abbrev c9_l8 : IR := .seq (.reg c9_r4) (.seq (.cond (.t 10) (.skip) (.exit 0)) (.seq (.blk 1 (.seq (.reg c9_r5) (.reg c9_r6))) (.reg c9_r7)))
abbrev c9_r9 : List Ins := [
  ⟨some 23, none, .load 17 true (.t 4)⟩,
  ⟨some 24, none, .mkfn 27 [] [.t 1]⟩,
  ⟨some 25, none, .call (.c (.fn 26 [] [])) [.t 23, .t 24]⟩,
  ⟨some 26, none, .faddr 1 (.t 4)⟩,
  ⟨none, none, .store 16 (.t 26) (.t 25)⟩]
abbrev c9_r10 : List Ins := [
  ⟨some 27, none, .load 1 false (.t 1)⟩,
  ⟨some 28, none, .call (.c (.fn 28 [] [])) [.t 27]⟩,
  ⟨some 29, none, .un .not (.t 28)⟩,
  ⟨some 30, none, .mov (.t 29)⟩,
  ⟨some 31, some (30, false), .load 17 true (.t 4)⟩,
  ⟨some 32, some (30, false), .call (.c (.fn 16 [] [])) [.t 31]⟩,
  ⟨some 33, some (30, false), .un .not (.t 32)⟩,
  ⟨some 34, none, .pick (.t 30) (.c (.bool true)) (.t 33)⟩]
abbrev c9_r11 : List Ins := [
  ⟨some 35, none, .load 1 false (.t 1)⟩,
  ⟨some 36, none, .call (.c (.fn 24 [] [])) [.t 35, .c (.int .i64 (-1))]⟩]
abbrev c9_r12 : List Ins := [
  ⟨some 37, none, .build [.sl .full [], .int .i64 0, .int .i64 0, .int .i64 0, .int .i64 0, .int .i64 0, .int .i64 0, .int .i64 0, .int .i64 0, .int .i64 0, .int .i64 0, .int .i64 0, .int .i64 0, .int .i64 0, .int .i64 0, .int .i64 0, .int .i64 0] []⟩,
  ⟨none, none, .store 17 (.t 2) (.t 37)⟩,
  ⟨some 3, none, .mov (.c (.bool false))⟩]
abbrev c9_r13 : List Ins := [
  ⟨some 38, none, .load 17 true (.t 4)⟩,
  ⟨none, none, .store 17 (.t 2) (.t 38)⟩,
  ⟨some 3, none, .mov (.c (.bool true))⟩]
abbrev c9 : IR := .seq (.reg c9_r1) (.seq (.reg c9_r2) (.seq (.seq (.reg c9_r3) (.blk 0 (.loop c9_l8))) (.seq (.reg c9_r9) (.seq (.seq (.reg c9_r10) (.cond (.t 34) (.seq (.reg c9_r11) (.seq (.reg c9_r12) (.ret))) (.skip))) (.seq (.reg c9_r13) (.ret))))))
abbrev F9 : FnA := ⟨39, c9, [.cell 2 17 true, .t 3]⟩
theorem ok9 : cFn Tryz.prog 9 = some F9 := by kernel_rfl
theorem hb9 : HasBody Tryz.prog 9 := ⟨_, Tryz.func9, by kernel_rfl, by kernel_rfl⟩
/-! ref01.Words -/
abbrev c10_r1 : List Ins := [
  ⟨some 4, none, .mov (.c (.bool false))⟩]
abbrev c10_r2 : List Ins := [
  ⟨some 6, none, .mov (.t 0)⟩,
  ⟨some 7, none, .len (.t 6)⟩,
  ⟨some 8, none, .mov (.t 1)⟩,
  ⟨some 9, none, .len (.t 8)⟩,
  ⟨some 10, none, .bin .neq (.t 7) (.t 9)⟩]
abbrev c10_r3 : List Ins := [
  ⟨some 4, none, .mov (.c (.bool false))⟩]
abbrev c10_r4 : List Ins := [
  ⟨some 5, none, .mov (.c (.int .i64 0))⟩]
abbrev c10_r5 : List Ins := [
  ⟨some 11, none, .mov (.t 5)⟩,
  ⟨some 12, none, .mov (.t 0)⟩,
  ⟨some 13, none, .len (.t 12)⟩,
  ⟨some 14, none, .bin .lss (.t 11) (.t 13)⟩]
abbrev c10_r6 : List Ins := [
  ⟨some 17, none, .mov (.t 0)⟩,
  ⟨some 18, none, .mov (.t 5)⟩,
  ⟨some 19, none, .iaddr 1 (.t 17) (.t 18)⟩,
  ⟨some 20, none, .load 1 false (.t 19)⟩,
  ⟨some 21, none, .mov (.t 1)⟩,
  ⟨some 22, none, .mov (.t 5)⟩,
  ⟨some 23, none, .iaddr 1 (.t 21) (.t 22)⟩,
  ⟨some 24, none, .load 1 false (.t 23)⟩,
  ⟨some 25, none, .bin .neq (.t 20) (.t 24)⟩]
def c10_a6 : List (List Nat) := [[], [], [0, 1], [2], [], [], [4, 5], [6], [3, 7]]
abbrev c10_m6 : List Am.Mark := [⟨false, 0, 0⟩, ⟨false, 0, 0⟩, ⟨false, 0, 0⟩, ⟨false, 0, 0⟩, ⟨false, 0, 0⟩, ⟨false, 0, 0⟩, ⟨false, 0, 0⟩, ⟨false, 0, 0⟩, ⟨false, 0, 0⟩]
theorem c10_d6 : drawFine c10_r6 c10_a6 c10_m6 = true := by decide +kernel
abbrev c10_r7 : List Ins := [
  ⟨some 4, none, .mov (.c (.bool false))⟩]
abbrev c10_r8 : List Ins := [
  ⟨some 15, none, .mov (.t 5)⟩,
  ⟨some 16, none, .bin .add (.t 15) (.c (.int .i64 1))⟩,
  ⟨some 5, none, .mov (.t 16)⟩]
abbrev c10_l9 : IR := .seq (.seq (.reg c10_r5) (.cond (.t 14) (.skip) (.exit 0))) (.seq (.blk 1 (.seq (.dreg c10_r6 c10_a6) (.cond (.t 25) (.seq (.reg c10_r7) (.ret)) (.skip)))) (.reg c10_r8))
abbrev c10_r10 : List Ins := [
  ⟨some 4, none, .mov (.c (.bool true))⟩]
abbrev c10 : IR := .seq (.reg c10_r1) (.seq (.seq (.reg c10_r2) (.cond (.t 10) (.seq (.reg c10_r3) (.ret)) (.skip))) (.seq (.seq (.reg c10_r4) (.blk 0 (.loop c10_l9))) (.seq (.reg c10_r10) (.ret))))
abbrev F10 : FnA := ⟨26, c10, [.t 4]⟩
theorem ok10 : cFn Tryz.prog 10 = some F10 := by kernel_rfl
theorem hb10 : HasBody Tryz.prog 10 := ⟨_, Tryz.func10, by kernel_rfl, by kernel_rfl⟩
/-! ref09.Words -/
abbrev c11_r1 : List Ins := [
  ⟨some 2, none, .mov (.c (.sl .full []))⟩]
abbrev c11_r2 : List Ins := [
  ⟨some 3, none, .mov (.c (.sl .full []))⟩]
abbrev c11_r3 : List Ins := [
  ⟨some 4, none, .mov (.c (.int .i64 0))⟩]
abbrev c11_r4 : List Ins := [
  ⟨some 5, none, .mov (.t 4)⟩,
  ⟨some 6, none, .mov (.t 0)⟩,
  ⟨some 7, none, .len (.t 6)⟩,
  ⟨some 8, none, .bin .lss (.t 5) (.t 7)⟩]
abbrev c11_r5 : List Ins := [
  ⟨some 11, none, .mov (.t 3)⟩,
  ⟨some 12, none, .mov (.t 0)⟩,
  ⟨some 13, none, .mov (.t 4)⟩,
  ⟨some 14, none, .iaddr 6 (.t 12) (.t 13)⟩,
  ⟨some 15, none, .load 6 true (.t 14)⟩,
  ⟨some 16, none, .call (.c (.fn 29 [] [])) [.t 11, .t 15]⟩,
  ⟨some 3, none, .mov (.t 16)⟩]
abbrev c11_r6 : List Ins := [
  ⟨some 9, none, .mov (.t 4)⟩,
  ⟨some 10, none, .bin .add (.t 9) (.c (.int .i64 1))⟩,
  ⟨some 4, none, .mov (.t 10)⟩]
abbrev c11_l7 : IR := .seq (.seq (.reg c11_r4) (.cond (.t 8) (.skip) (.exit 0))) (.seq (.blk 1 (.reg c11_r5)) (.reg c11_r6))
abbrev c11_r8 : List Ins := [
  ⟨some 17, none, .mov (.t 3)⟩,
  ⟨some 2, none, .mov (.t 17)⟩]
abbrev c11 : IR := .seq (.reg c11_r1) (.seq (.reg c11_r2) (.seq (.seq (.reg c11_r3) (.blk 0 (.loop c11_l7))) (.seq (.reg c11_r8) (.ret))))
abbrev F11 : FnA := ⟨18, c11, [.t 2]⟩
theorem ok11 : cFn Tryz.prog 11 = some F11 := by kernel_rfl
theorem hb11 : HasBody Tryz.prog 11 := ⟨_, Tryz.func11, by kernel_rfl, by kernel_rfl⟩
/-! ref12.Items -/
abbrev c12_r1 : List Ins := [
  ⟨some 1, none, .box (.t 0)⟩,
  ⟨some 2, none, .mov (.c (.sl .full []))⟩]
abbrev c12_r2 : List Ins := [
  ⟨some 7, none, .faddr 0 (.t 1)⟩,
  ⟨some 8, none, .load 1 false (.t 7)⟩,
  ⟨some 9, none, .len (.t 8)⟩,
  ⟨some 10, none, .build [.int .i64 0, .int .i64 0, .int .i64 0, .int .i64 0, .str ⟨#[]⟩, .sl .full []] [(1, (1, .t 9)), (2, (1, .c (.int .i64 4)))]⟩,
  ⟨some 11, none, .bsl 6 1 [.int .i64 0, .int .i64 0, .int .i64 0, .int .i64 0, .str ⟨#[]⟩, .sl .full []] [(0, .t 10)]⟩,
  ⟨some 3, none, .mov (.t 11)⟩]
abbrev c12_r3 : List Ins := [
  ⟨some 4, none, .mov (.c (.int .i64 0))⟩]
abbrev c12_r4 : List Ins := [
  ⟨some 12, none, .mov (.t 4)⟩,
  ⟨some 13, none, .faddr 0 (.t 1)⟩,
  ⟨some 14, none, .load 1 false (.t 13)⟩,
  ⟨some 15, none, .len (.t 14)⟩,
  ⟨some 16, none, .bin .lss (.t 12) (.t 15)⟩]
abbrev c12_r5 : List Ins := [
  ⟨some 19, none, .mov (.t 3)⟩,
  ⟨some 20, none, .faddr 0 (.t 1)⟩,
  ⟨some 21, none, .load 1 false (.t 20)⟩,
  ⟨some 22, none, .mov (.t 4)⟩,
  ⟨some 23, none, .iaddr 5 (.t 21) (.t 22)⟩,
  ⟨some 24, none, .load 5 true (.t 23)⟩,
  ⟨some 25, none, .call (.c (.fn 30 [] [])) [.t 24]⟩,
  ⟨some 26, none, .append 6 72 (.t 19) (.t 25)⟩,
  ⟨some 3, none, .mov (.t 26)⟩]
abbrev c12_r6 : List Ins := [
  ⟨some 17, none, .mov (.t 4)⟩,
  ⟨some 18, none, .bin .add (.t 17) (.c (.int .i64 1))⟩,
  ⟨some 4, none, .mov (.t 18)⟩]
abbrev c12_l7 : IR := .seq (.seq (.reg c12_r4) (.cond (.t 16) (.skip) (.exit 0))) (.seq (.blk 1 (.reg c12_r5)) (.reg c12_r6))
abbrev c12_r8 : List Ins := [
  ⟨some 5, none, .mov (.c (.int .i64 0))⟩]
abbrev c12_r9 : List Ins := [
  ⟨some 27, none, .mov (.t 5)⟩,
  ⟨some 28, none, .faddr 0 (.t 1)⟩,
  ⟨some 29, none, .load 1 false (.t 28)⟩,
  ⟨some 30, none, .len (.t 29)⟩,
  ⟨some 31, none, .bin .lss (.t 27) (.t 30)⟩]
abbrev c12_r10 : List Ins := [
  ⟨some 6, none, .mov (.c (.int .i64 0))⟩]
abbrev c12_r11 : List Ins := [
  ⟨some 34, none, .mov (.t 6)⟩,
  ⟨some 35, none, .faddr 0 (.t 1)⟩,
  ⟨some 36, none, .load 1 false (.t 35)⟩,
  ⟨some 37, none, .len (.t 36)⟩,
  ⟨some 38, none, .bin .lss (.t 34) (.t 37)⟩]
abbrev c12_r12 : List Ins := [
  ⟨some 41, none, .mov (.t 3)⟩,
  ⟨some 42, none, .mov (.t 5)⟩,
  ⟨some 43, none, .mov (.t 6)⟩,
  ⟨some 44, none, .faddr 1 (.t 1)⟩,
  ⟨some 45, none, .iaddrA 4 4 (.t 44) (.t 42)⟩,
  ⟨some 46, none, .iaddrA 4 1 (.t 45) (.t 43)⟩,
  ⟨some 47, none, .load 1 false (.t 46)⟩,
  ⟨some 48, none, .build [.int .i64 0, .int .i64 0, .int .i64 0, .int .i64 0, .str ⟨#[]⟩, .sl .full []] [(1, (1, .t 47)), (2, (1, .c (.int .i64 255)))]⟩,
  ⟨some 49, none, .bsl 6 1 [.int .i64 0, .int .i64 0, .int .i64 0, .int .i64 0, .str ⟨#[]⟩, .sl .full []] [(0, .t 48)]⟩,
  ⟨some 50, none, .append 6 72 (.t 41) (.t 49)⟩,
  ⟨some 3, none, .mov (.t 50)⟩]
abbrev c12_r13 : List Ins := [
  ⟨some 39, none, .mov (.t 6)⟩,
  ⟨some 40, none, .bin .add (.t 39) (.c (.int .i64 1))⟩,
  ⟨some 6, none, .mov (.t 40)⟩]
abbrev c12_l14 : IR := .seq (.seq (.reg c12_r11) (.cond (.t 38) (.skip) (.exit 4))) (.seq (.blk 5 (.reg c12_r12)) (.reg c12_r13))
abbrev c12_r15 : List Ins := [
  ⟨some 32, none, .mov (.t 5)⟩,
  ⟨some 33, none, .bin .add (.t 32) (.c (.int .i64 1))⟩,
  ⟨some 5, none, .mov (.t 33)⟩]
abbrev c12_l16 : IR := .seq (.seq (.reg c12_r9) (.cond (.t 31) (.skip) (.exit 2))) (.seq (.blk 3 (.seq (.reg c12_r10) (.blk 4 (.loop c12_l14)))) (.reg c12_r15))
abbrev c12_r17 : List Ins := [
  ⟨some 51, none, .mov (.t 3)⟩,
  ⟨some 2, none, .mov (.t 51)⟩]
abbrev c12 : IR := .seq (.reg c12_r1) (.seq (.reg c12_r2) (.seq (.seq (.reg c12_r3) (.blk 0 (.loop c12_l7))) (.seq (.seq (.reg c12_r8) (.blk 2 (.loop c12_l16))) (.seq (.reg c12_r17) (.ret)))))
abbrev F12 : FnA := ⟨52, c12, [.t 2]⟩
theorem ok12 : cFn Tryz.prog 12 = some F12 := by kernel_rfl
theorem hb12 : HasBody Tryz.prog 12 := ⟨_, Tryz.func12, by kernel_rfl, by kernel_rfl⟩
/-! codes.Reader.End -/
abbrev c13_r1 : List Ins := [
  ⟨some 2, none, .mov (.c (.bool false))⟩]
abbrev c13_r2 : List Ins := [
  ⟨some 3, none, .mov (.t 0)⟩,
  ⟨some 4, none, .nilck (.t 3)⟩,
  ⟨some 5, none, .faddr 1 (.t 4)⟩,
  ⟨some 6, none, .load 1 false (.t 5)⟩,
  ⟨some 7, none, .un .not (.t 6)⟩,
  ⟨some 8, none, .mov (.t 7)⟩,
  ⟨some 9, some (8, true), .mov (.t 0)⟩,
  ⟨some 10, some (8, true), .nilck (.t 9)⟩,
  ⟨some 11, some (8, true), .faddr 0 (.t 10)⟩,
  ⟨some 12, some (8, true), .load 1 false (.t 11)⟩,
  ⟨some 13, some (8, true), .len (.t 12)⟩,
  ⟨some 14, some (8, true), .bin .eql (.t 13) (.c (.int .i64 0))⟩,
  ⟨some 15, none, .pick (.t 8) (.t 14) (.c (.bool false))⟩,
  ⟨some 2, none, .mov (.t 15)⟩]
abbrev c13 : IR := .seq (.reg c13_r1) (.seq (.reg c13_r2) (.ret))
abbrev F13 : FnA := ⟨16, c13, [.t 2]⟩
theorem ok13 : cFn Tryz.prog 13 = some F13 := by kernel_rfl
theorem hb13 : HasBody Tryz.prog 13 := ⟨_, Tryz.func13, by kernel_rfl, by kernel_rfl⟩
/-! ref12.Same -/
abbrev c14_r1 : List Ins := [
  ⟨some 2, none, .box (.t 0)⟩,
  ⟨some 3, none, .box (.t 1)⟩,
  ⟨some 4, none, .mov (.c (.bool false))⟩]
abbrev c14_r2 : List Ins := [
  ⟨some 6, none, .faddr 0 (.t 2)⟩,
  ⟨some 7, none, .load 1 false (.t 6)⟩,
  ⟨some 8, none, .len (.t 7)⟩,
  ⟨some 9, none, .faddr 0 (.t 3)⟩,
  ⟨some 10, none, .load 1 false (.t 9)⟩,
  ⟨some 11, none, .len (.t 10)⟩,
  ⟨some 12, none, .bin .neq (.t 8) (.t 11)⟩,
  ⟨some 13, none, .mov (.t 12)⟩,
  ⟨some 14, some (13, false), .faddr 1 (.t 2)⟩,
  ⟨some 15, some (13, false), .load 16 true (.t 14)⟩,
  ⟨some 16, some (13, false), .faddr 1 (.t 3)⟩,
  ⟨some 17, some (13, false), .load 16 true (.t 16)⟩,
  ⟨some 18, some (13, false), .eq [.i, .i, .i, .i, .i, .i, .i, .i, .i, .i, .i, .i, .i, .i, .i, .i] true true (.t 15) (.t 17)⟩,
  ⟨some 19, none, .pick (.t 13) (.c (.bool true)) (.t 18)⟩]
abbrev c14_r3 : List Ins := [
  ⟨some 4, none, .mov (.c (.bool false))⟩]
abbrev c14_r4 : List Ins := [
  ⟨some 5, none, .mov (.c (.int .i64 0))⟩]
abbrev c14_r5 : List Ins := [
  ⟨some 20, none, .mov (.t 5)⟩,
  ⟨some 21, none, .faddr 0 (.t 2)⟩,
  ⟨some 22, none, .load 1 false (.t 21)⟩,
  ⟨some 23, none, .len (.t 22)⟩,
  ⟨some 24, none, .bin .lss (.t 20) (.t 23)⟩]
abbrev c14_r6 : List Ins := [
  ⟨some 27, none, .faddr 0 (.t 2)⟩,
  ⟨some 28, none, .load 1 false (.t 27)⟩,
  ⟨some 29, none, .mov (.t 5)⟩,
  ⟨some 30, none, .iaddr 5 (.t 28) (.t 29)⟩,
  ⟨some 31, none, .load 5 true (.t 30)⟩,
  ⟨some 32, none, .faddr 0 (.t 3)⟩,
  ⟨some 33, none, .load 1 false (.t 32)⟩,
  ⟨some 34, none, .mov (.t 5)⟩,
  ⟨some 35, none, .iaddr 5 (.t 33) (.t 34)⟩,
  ⟨some 36, none, .load 5 true (.t 35)⟩,
  ⟨some 37, none, .call (.c (.fn 31 [] [])) [.t 31, .t 36]⟩,
  ⟨some 38, none, .un .not (.t 37)⟩]
def c14_a6 : List (List Nat) := [[], [0], [], [1, 2], [3], [], [5], [], [6, 7], [8], [4, 9], [10]]
abbrev c14_m6 : List Am.Mark := [⟨false, 0, 0⟩, ⟨false, 0, 0⟩, ⟨false, 0, 0⟩, ⟨false, 0, 0⟩, ⟨false, 0, 0⟩, ⟨false, 0, 0⟩, ⟨false, 0, 0⟩, ⟨false, 0, 0⟩, ⟨false, 0, 0⟩, ⟨false, 0, 0⟩, ⟨false, 0, 0⟩, ⟨false, 0, 0⟩]
theorem c14_d6 : drawFine c14_r6 c14_a6 c14_m6 = true := by decide +kernel
abbrev c14_r7 : List Ins := [
  ⟨some 4, none, .mov (.c (.bool false))⟩]
abbrev c14_r8 : List Ins := [
  ⟨some 25, none, .mov (.t 5)⟩,
  ⟨some 26, none, .bin .add (.t 25) (.c (.int .i64 1))⟩,
  ⟨some 5, none, .mov (.t 26)⟩]
abbrev c14_l9 : IR := .seq (.seq (.reg c14_r5) (.cond (.t 24) (.skip) (.exit 0))) (.seq (.blk 1 (.seq (.dreg c14_r6 c14_a6) (.cond (.t 38) (.seq (.reg c14_r7) (.ret)) (.skip)))) (.reg c14_r8))
abbrev c14_r10 : List Ins := [
  ⟨some 4, none, .mov (.c (.bool true))⟩]
abbrev c14 : IR := .seq (.reg c14_r1) (.seq (.seq (.reg c14_r2) (.cond (.t 19) (.seq (.reg c14_r3) (.ret)) (.skip))) (.seq (.seq (.reg c14_r4) (.blk 0 (.loop c14_l9))) (.seq (.reg c14_r10) (.ret))))
abbrev F14 : FnA := ⟨39, c14, [.t 4]⟩
theorem ok14 : cFn Tryz.prog 14 = some F14 := by kernel_rfl
theorem hb14 : HasBody Tryz.prog 14 := ⟨_, Tryz.func14, by kernel_rfl, by kernel_rfl⟩
/-! cat.Open -/
abbrev c15_r1 : List Ins := [
  ⟨some 1, none, .box (.t 0)⟩,
  ⟨some 2, none, .alloc [.sl .full [], .int .i64 0, .int .i64 0, .int .i64 0, .int .i64 0, .int .i64 0, .int .i64 0, .int .i64 0, .int .i64 0, .int .i64 0, .int .i64 0, .int .i64 0, .int .i64 0, .int .i64 0, .int .i64 0, .int .i64 0, .int .i64 0]⟩]
abbrev c15_r2 : List Ins := [
  ⟨some 3, none, .load 17 true (.t 1)⟩,
  ⟨some 4, none, .call (.c (.fn 32 [] [])) [.t 3]⟩,
  ⟨none, none, .store 17 (.t 1) (.t 4)⟩]
abbrev c15_r3 : List Ins := [
  ⟨some 5, none, .load 17 true (.t 1)⟩,
  ⟨some 6, none, .mkfn 33 [] [.t 1]⟩,
  ⟨some 7, none, .call (.c (.fn 26 [] [])) [.t 5, .t 6]⟩,
  ⟨some 8, none, .faddr 1 (.t 1)⟩,
  ⟨none, none, .store 16 (.t 8) (.t 7)⟩]
abbrev c15_r4 : List Ins := [
  ⟨some 9, none, .load 17 true (.t 1)⟩,
  ⟨none, none, .store 17 (.t 2) (.t 9)⟩]
abbrev c15 : IR := .seq (.reg c15_r1) (.seq (.reg c15_r2) (.seq (.reg c15_r3) (.seq (.reg c15_r4) (.ret))))
abbrev F15 : FnA := ⟨10, c15, [.cell 2 17 true]⟩
theorem ok15 : cFn Tryz.prog 15 = some F15 := by kernel_rfl
theorem hb15 : HasBody Tryz.prog 15 := ⟨_, Tryz.func15, by kernel_rfl, by kernel_rfl⟩
/-! cat.May -/
abbrev c16_r1 : List Ins := [
  ⟨some 1, none, .box (.t 0)⟩,
  ⟨some 2, none, .mov (.c (.bool false))⟩]
abbrev c16_r2 : List Ins := [
  ⟨some 4, none, .faddr 0 (.t 1)⟩,
  ⟨some 5, none, .load 1 false (.t 4)⟩,
  ⟨some 6, none, .len (.t 5)⟩,
  ⟨some 3, none, .mov (.t 6)⟩]
abbrev c16_r3 : List Ins := [
  ⟨some 7, none, .mov (.t 3)⟩,
  ⟨some 8, none, .bin .lss (.t 7) (.c (.int .i64 1))⟩,
  ⟨some 9, none, .mov (.t 8)⟩,
  ⟨some 10, some (9, false), .mov (.t 3)⟩,
  ⟨some 11, some (9, false), .bin .gtr (.t 10) (.c (.int .i64 4))⟩,
  ⟨some 12, none, .pick (.t 9) (.c (.bool true)) (.t 11)⟩,
  ⟨some 13, none, .mov (.t 12)⟩,
  ⟨some 14, some (13, false), .faddr 0 (.t 1)⟩,
  ⟨some 15, some (13, false), .load 1 false (.t 14)⟩,
  ⟨some 16, some (13, false), .call (.c (.fn 35 [] [])) [.t 15]⟩,
  ⟨some 17, some (13, false), .un .not (.t 16)⟩,
  ⟨some 18, none, .pick (.t 13) (.c (.bool true)) (.t 17)⟩]
abbrev c16_r4 : List Ins := [
  ⟨some 2, none, .mov (.c (.bool false))⟩]
abbrev c16_r5 : List Ins := [
  ⟨some 19, none, .faddr 1 (.t 1)⟩,
  ⟨some 20, none, .load 16 true (.t 19)⟩,
  ⟨some 21, none, .load 17 true (.t 1)⟩,
  ⟨some 22, none, .mkfn 36 [] [.t 1]⟩,
  ⟨some 23, none, .call (.c (.fn 26 [] [])) [.t 21, .t 22]⟩,
  ⟨some 24, none, .eq [.i, .i, .i, .i, .i, .i, .i, .i, .i, .i, .i, .i, .i, .i, .i, .i] true false (.t 20) (.t 23)⟩,
  ⟨some 2, none, .mov (.t 24)⟩]
def c16_a5 : List (List Nat) := [[], [0], [], [], [2, 3], [1, 4], [5, 4, 0, 1, 2, 3, 4, 5]]
abbrev c16_m5 : List Am.Mark := [⟨false, 0, 1⟩, ⟨false, 0, 1⟩, ⟨false, 0, 0⟩, ⟨false, 0, 0⟩, ⟨true, 0, 1⟩, ⟨false, 1, 1⟩, ⟨false, 1, 1⟩]
theorem c16_d5 : drawFine c16_r5 c16_a5 c16_m5 = true := by decide +kernel
abbrev c16 : IR := .seq (.reg c16_r1) (.seq (.reg c16_r2) (.seq (.seq (.reg c16_r3) (.cond (.t 18) (.seq (.reg c16_r4) (.ret)) (.skip))) (.seq (.dreg c16_r5 c16_a5) (.ret))))
abbrev F16 : FnA := ⟨25, c16, [.t 2]⟩
theorem ok16 : cFn Tryz.prog 16 = some F16 := by kernel_rfl
theorem hb16 : HasBody Tryz.prog 16 := ⟨_, Tryz.func16, by kernel_rfl, by kernel_rfl⟩
/-! cat.Breaks -/
abbrev c17_r1 : List Ins := [
  ⟨some 1, none, .box (.t 0)⟩,
  ⟨some 2, none, .mov (.c (.int .i64 0))⟩]
abbrev c17_r2 : List Ins := [
  ⟨some 3, none, .alloc [.int .i64 0]⟩,
  ⟨none, none, .store 1 (.t 3) (.c (.int .i64 0))⟩]
abbrev c17_r3 : List Ins := [
  ⟨some 6, none, .load 17 true (.t 1)⟩,
  ⟨some 7, none, .call (.c (.fn 22 [] [])) [.t 6]⟩]
abbrev c17_r4 : List Ins := [
  ⟨some 4, none, .mov (.t 8)⟩]
abbrev c17_r5 : List Ins := [
  ⟨some 5, none, .mov (.t 9)⟩]
abbrev c17_r6 : List Ins := [
  ⟨some 10, none, .load 1 false (.t 3)⟩,
  ⟨some 11, none, .mov (.t 4)⟩,
  ⟨some 12, none, .mov (.t 5)⟩,
  ⟨some 13, none, .faddr 1 (.t 1)⟩,
  ⟨some 14, none, .iaddrA 4 4 (.t 13) (.t 11)⟩,
  ⟨some 15, none, .iaddrA 4 1 (.t 14) (.t 12)⟩,
  ⟨some 16, none, .load 1 false (.t 15)⟩,
  ⟨some 17, none, .faddr 0 (.t 1)⟩,
  ⟨some 18, none, .load 1 false (.t 17)⟩,
  ⟨some 19, none, .mov (.t 4)⟩,
  ⟨some 20, none, .iaddr 5 (.t 18) (.t 19)⟩,
  ⟨some 21, none, .load 5 true (.t 20)⟩,
  ⟨some 22, none, .call (.c (.fn 34 [] [])) [.t 21]⟩,
  ⟨some 23, none, .bin .and (.t 16) (.t 22)⟩,
  ⟨some 24, none, .conv .u64 (.t 23)⟩,
  ⟨some 25, none, .call (.c (.fn 37 [] [])) [.t 24]⟩,
  ⟨some 26, none, .bin .add (.t 10) (.t 25)⟩,
  ⟨none, none, .store 1 (.t 3) (.t 26)⟩]
def c17_a6 : List (List Nat) := [[], [], [], [], [3, 1], [4, 2], [5], [], [7], [], [8, 9], [10], [11], [6, 12], [13], [14, 12], [0, 15], [16, 15, 0, 1, 2, 3, 4, 5, 6, 7, 8, 9, 10, 11, 12, 13, 14, 15, 16]]
abbrev c17_m6 : List Am.Mark := [⟨false, 0, 0⟩, ⟨false, 0, 0⟩, ⟨false, 0, 0⟩, ⟨false, 0, 0⟩, ⟨false, 0, 0⟩, ⟨false, 0, 0⟩, ⟨false, 0, 0⟩, ⟨false, 0, 0⟩, ⟨false, 0, 0⟩, ⟨false, 0, 0⟩, ⟨false, 0, 0⟩, ⟨false, 0, 0⟩, ⟨false, 0, 0⟩, ⟨false, 0, 0⟩, ⟨false, 0, 0⟩, ⟨false, 0, 0⟩, ⟨false, 0, 0⟩, ⟨true, 0, 1⟩]
theorem c17_d6 : drawFine c17_r6 c17_a6 c17_m6 = true := by decide +kernel
abbrev c17_x7 : IR := .seq (.reg c17_r4) (.reg c17_r5)
abbrev c17_y8 : IR := .blk 1 (.dreg c17_r6 c17_a6)
abbrev c17_r9 : List Ins := [
  ⟨some 27, none, .load 1 false (.t 3)⟩,
  ⟨some 2, none, .mov (.t 27)⟩]
abbrev c17 : IR := .seq (.reg c17_r1) (.seq (.reg c17_r2) (.seq (.seq (.reg c17_r3) (.blk 0 (.rngf (.t 7) [8, 9] c17_x7 c17_y8))) (.seq (.reg c17_r9) (.ret))))
abbrev F17 : FnA := ⟨28, c17, [.t 2]⟩
theorem ok17 : cFn Tryz.prog 17 = some F17 := by kernel_rfl
theorem hb17 : HasBody Tryz.prog 17 := ⟨_, Tryz.func17, by kernel_rfl, by kernel_rfl⟩
/-! cat.Break -/
abbrev c18_r1 : List Ins := [
  ⟨some 4, none, .box (.t 0)⟩,
  ⟨some 8, none, .mov (.c (.bool false))⟩]
abbrev c18_r2 : List Ins := [
  ⟨some 10, none, .mkfn 38 [] [.t 4]⟩,
  ⟨some 9, none, .mov (.t 10)⟩]
abbrev c18_r3 : List Ins := [
  ⟨some 11, none, .mov (.t 9)⟩,
  ⟨some 12, none, .mov (.t 1)⟩,
  ⟨some 13, none, .call (.t 11) [.t 12]⟩,
  ⟨some 14, none, .un .not (.t 13)⟩,
  ⟨some 15, none, .mov (.t 14)⟩,
  ⟨some 16, some (15, false), .mov (.t 9)⟩,
  ⟨some 17, some (15, false), .mov (.t 2)⟩,
  ⟨some 18, some (15, false), .call (.t 16) [.t 17]⟩,
  ⟨some 19, some (15, false), .un .not (.t 18)⟩,
  ⟨some 20, none, .pick (.t 15) (.c (.bool true)) (.t 19)⟩,
  ⟨some 21, none, .mov (.t 20)⟩,
  ⟨some 22, some (21, false), .mov (.t 3)⟩,
  ⟨some 23, some (21, false), .bin .lss (.t 22) (.c (.int .i64 0))⟩,
  ⟨some 24, none, .pick (.t 21) (.c (.bool true)) (.t 23)⟩,
  ⟨some 25, none, .mov (.t 24)⟩,
  ⟨some 26, some (25, false), .mov (.t 3)⟩,
  ⟨some 27, some (25, false), .faddr 0 (.t 4)⟩,
  ⟨some 28, some (25, false), .load 1 false (.t 27)⟩,
  ⟨some 29, some (25, false), .mov (.t 1)⟩,
  ⟨some 30, some (25, false), .iaddr 5 (.t 28) (.t 29)⟩,
  ⟨some 31, some (25, false), .faddr 2 (.t 30)⟩,
  ⟨some 32, some (25, false), .load 1 false (.t 31)⟩,
  ⟨some 33, some (25, false), .len (.t 32)⟩,
  ⟨some 34, some (25, false), .bin .sub (.t 33) (.c (.int .i64 1))⟩,
  ⟨some 35, some (25, false), .bin .geq (.t 26) (.t 34)⟩,
  ⟨some 36, none, .pick (.t 25) (.c (.bool true)) (.t 35)⟩]
abbrev c18_r4 : List Ins := [
  ⟨some 8, none, .mov (.c (.bool false))⟩]
abbrev c18_r5 : List Ins := [
  ⟨some 37, none, .mov (.t 1)⟩,
  ⟨some 38, none, .mov (.t 2)⟩,
  ⟨some 39, none, .faddr 1 (.t 4)⟩,
  ⟨some 40, none, .iaddrA 4 4 (.t 39) (.t 37)⟩,
  ⟨some 41, none, .iaddrA 4 1 (.t 40) (.t 38)⟩,
  ⟨some 42, none, .load 1 false (.t 41)⟩,
  ⟨some 43, none, .mov (.t 3)⟩,
  ⟨some 44, none, .bin .shr (.t 42) (.t 43)⟩,
  ⟨some 45, none, .bin .and (.t 44) (.c (.int .i64 1))⟩,
  ⟨some 46, none, .bin .eql (.t 45) (.c (.int .i64 1))⟩,
  ⟨some 8, none, .mov (.t 46)⟩]
abbrev c18 : IR := .seq (.reg c18_r1) (.seq (.reg c18_r2) (.seq (.seq (.reg c18_r3) (.cond (.t 36) (.seq (.reg c18_r4) (.ret)) (.skip))) (.seq (.reg c18_r5) (.ret))))
abbrev F18 : FnA := ⟨47, c18, [.t 8]⟩
theorem ok18 : cFn Tryz.prog 18 = some F18 := by kernel_rfl
theorem hb18 : HasBody Tryz.prog 18 := ⟨_, Tryz.func18, by kernel_rfl, by kernel_rfl⟩
/-! ref11.May -/
abbrev c19_r1 : List Ins := [
  ⟨some 1, none, .box (.t 0)⟩,
  ⟨some 2, none, .mov (.c (.bool false))⟩]
abbrev c19_r2 : List Ins := [
  ⟨some 7, none, .faddr 2 (.t 1)⟩,
  ⟨some 8, none, .load 1 false (.t 7)⟩,
  ⟨some 9, none, .len (.t 8)⟩,
  ⟨some 3, none, .mov (.t 9)⟩]
abbrev c19_r3 : List Ins := [
  ⟨some 10, none, .faddr 0 (.t 1)⟩,
  ⟨some 11, none, .load 1 false (.t 10)⟩,
  ⟨some 12, none, .lenS (.t 11)⟩,
  ⟨some 13, none, .bin .lss (.t 12) (.c (.int .i64 1))⟩,
  ⟨some 14, none, .mov (.t 13)⟩,
  ⟨some 15, some (14, false), .faddr 0 (.t 1)⟩,
  ⟨some 16, some (14, false), .load 1 false (.t 15)⟩,
  ⟨some 17, some (14, false), .lenS (.t 16)⟩,
  ⟨some 18, some (14, false), .bin .gtr (.t 17) (.c (.int .i64 16))⟩,
  ⟨some 19, none, .pick (.t 14) (.c (.bool true)) (.t 18)⟩,
  ⟨some 20, none, .mov (.t 19)⟩,
  ⟨some 21, some (20, false), .faddr 1 (.t 1)⟩,
  ⟨some 22, some (20, false), .load 1 false (.t 21)⟩,
  ⟨some 23, some (20, false), .bin .lss (.t 22) (.c (.int .i64 0))⟩,
  ⟨some 24, none, .pick (.t 20) (.c (.bool true)) (.t 23)⟩,
  ⟨some 25, none, .mov (.t 24)⟩,
  ⟨some 26, some (25, false), .faddr 1 (.t 1)⟩,
  ⟨some 27, some (25, false), .load 1 false (.t 26)⟩,
  ⟨some 28, some (25, false), .bin .gtr (.t 27) (.c (.int .i64 3))⟩,
  ⟨some 29, none, .pick (.t 25) (.c (.bool true)) (.t 28)⟩,
  ⟨some 30, none, .mov (.t 29)⟩,
  ⟨some 31, some (30, false), .mov (.t 3)⟩,
  ⟨some 32, some (30, false), .bin .lss (.t 31) (.c (.int .i64 1))⟩,
  ⟨some 33, none, .pick (.t 30) (.c (.bool true)) (.t 32)⟩,
  ⟨some 34, none, .mov (.t 33)⟩,
  ⟨some 35, some (34, false), .mov (.t 3)⟩,
  ⟨some 36, some (34, false), .bin .gtr (.t 35) (.c (.int .i64 4))⟩,
  ⟨some 37, none, .pick (.t 34) (.c (.bool true)) (.t 36)⟩,
  ⟨some 38, none, .mov (.t 37)⟩,
  ⟨some 39, some (38, false), .faddr 3 (.t 1)⟩,
  ⟨some 40, some (38, false), .load 1 false (.t 39)⟩,
  ⟨some 41, some (38, false), .len (.t 40)⟩,
  ⟨some 42, some (38, false), .mov (.t 3)⟩,
  ⟨some 43, some (38, false), .bin .neq (.t 41) (.t 42)⟩,
  ⟨some 44, none, .pick (.t 38) (.c (.bool true)) (.t 43)⟩]
abbrev c19_r4 : List Ins := [
  ⟨some 2, none, .mov (.c (.bool false))⟩]
abbrev c19_r5 : List Ins := [
  ⟨some 4, none, .mov (.c (.int .i64 0))⟩]
abbrev c19_r6 : List Ins := [
  ⟨some 45, none, .mov (.t 4)⟩,
  ⟨some 46, none, .mov (.t 3)⟩,
  ⟨some 47, none, .bin .lss (.t 45) (.t 46)⟩]
abbrev c19_r7 : List Ins := [
  ⟨some 50, none, .faddr 2 (.t 1)⟩,
  ⟨some 51, none, .load 1 false (.t 50)⟩,
  ⟨some 52, none, .mov (.t 4)⟩,
  ⟨some 53, none, .iaddr 2 (.t 51) (.t 52)⟩,
  ⟨some 54, none, .faddr 0 (.t 53)⟩,
  ⟨some 55, none, .load 1 false (.t 54)⟩,
  ⟨some 56, none, .faddr 1 (.t 1)⟩,
  ⟨some 57, none, .load 1 false (.t 56)⟩,
  ⟨some 58, none, .call (.c (.fn 39 [] [])) [.t 55, .t 57]⟩,
  ⟨some 59, none, .un .not (.t 58)⟩,
  ⟨some 60, none, .mov (.t 59)⟩,
  ⟨some 61, some (60, false), .faddr 2 (.t 1)⟩,
  ⟨some 62, some (60, false), .load 1 false (.t 61)⟩,
  ⟨some 63, some (60, false), .mov (.t 4)⟩,
  ⟨some 64, some (60, false), .iaddr 2 (.t 62) (.t 63)⟩,
  ⟨some 65, some (60, false), .faddr 1 (.t 64)⟩,
  ⟨some 66, some (60, false), .load 1 false (.t 65)⟩,
  ⟨some 67, some (60, false), .faddr 1 (.t 1)⟩,
  ⟨some 68, some (60, false), .load 1 false (.t 67)⟩,
  ⟨some 69, some (60, false), .call (.c (.fn 40 [] [])) [.t 66, .t 68]⟩,
  ⟨some 70, some (60, false), .un .not (.t 69)⟩,
  ⟨some 71, none, .pick (.t 60) (.c (.bool true)) (.t 70)⟩,
  ⟨some 72, none, .mov (.t 71)⟩,
  ⟨some 73, some (72, false), .faddr 3 (.t 1)⟩,
  ⟨some 74, some (72, false), .load 1 false (.t 73)⟩,
  ⟨some 75, some (72, false), .mov (.t 4)⟩,
  ⟨some 76, some (72, false), .iaddr 2 (.t 74) (.t 75)⟩,
  ⟨some 77, some (72, false), .faddr 1 (.t 76)⟩,
  ⟨some 78, some (72, false), .load 1 false (.t 77)⟩,
  ⟨some 79, some (72, false), .faddr 1 (.t 1)⟩,
  ⟨some 80, some (72, false), .load 1 false (.t 79)⟩,
  ⟨some 81, some (72, false), .call (.c (.fn 40 [] [])) [.t 78, .t 80]⟩,
  ⟨some 82, some (72, false), .un .not (.t 81)⟩,
  ⟨some 83, none, .pick (.t 72) (.c (.bool true)) (.t 82)⟩]
def c19_a7 : List (List Nat) := [[], [0], [], [1, 2], [3], [4], [], [6], [5, 7], [8], [9, 8], [10], [11, 10], [10], [12, 13, 10], [14, 10], [15, 10], [10], [17, 10], [16, 18, 10, 10], [19, 10], [10, 20], [21, 19], [22], [23, 22], [22], [24, 25, 22], [26, 22], [27, 22], [22], [29, 22], [28, 30, 22, 22], [31, 22], [22, 32]]
abbrev c19_m7 : List Am.Mark := [⟨false, 0, 0⟩, ⟨false, 0, 0⟩, ⟨false, 0, 0⟩, ⟨false, 0, 0⟩, ⟨false, 0, 0⟩, ⟨false, 0, 0⟩, ⟨false, 0, 0⟩, ⟨false, 0, 0⟩, ⟨false, 0, 0⟩, ⟨false, 0, 0⟩, ⟨false, 0, 0⟩, ⟨false, 0, 0⟩, ⟨false, 0, 0⟩, ⟨false, 0, 0⟩, ⟨false, 0, 0⟩, ⟨false, 0, 0⟩, ⟨false, 0, 0⟩, ⟨false, 0, 0⟩, ⟨false, 0, 0⟩, ⟨false, 0, 0⟩, ⟨false, 0, 0⟩, ⟨false, 0, 0⟩, ⟨false, 0, 0⟩, ⟨false, 0, 0⟩, ⟨false, 0, 0⟩, ⟨false, 0, 0⟩, ⟨false, 0, 0⟩, ⟨false, 0, 0⟩, ⟨false, 0, 0⟩, ⟨false, 0, 0⟩, ⟨false, 0, 0⟩, ⟨false, 0, 0⟩, ⟨false, 0, 0⟩, ⟨false, 0, 0⟩]
theorem c19_d7 : drawFine c19_r7 c19_a7 c19_m7 = true := by decide +kernel
abbrev c19_r8 : List Ins := [
  ⟨some 2, none, .mov (.c (.bool false))⟩]
abbrev c19_r9 : List Ins := [
  ⟨some 84, none, .faddr 3 (.t 1)⟩,
  ⟨some 85, none, .load 1 false (.t 84)⟩,
  ⟨some 86, none, .mov (.t 4)⟩,
  ⟨some 87, none, .iaddr 2 (.t 85) (.t 86)⟩,
  ⟨some 88, none, .faddr 0 (.t 87)⟩,
  ⟨some 89, none, .load 1 false (.t 88)⟩,
  ⟨some 5, none, .mov (.t 89)⟩]
abbrev c19_r10 : List Ins := [
  ⟨some 90, none, .mov (.t 5)⟩,
  ⟨some 91, none, .len (.t 90)⟩,
  ⟨some 92, none, .bin .gtr (.t 91) (.c (.int .i64 0))⟩,
  ⟨some 93, none, .mov (.t 92)⟩,
  ⟨some 94, some (93, true), .mov (.t 5)⟩,
  ⟨some 95, some (93, true), .faddr 1 (.t 1)⟩,
  ⟨some 96, some (93, true), .load 1 false (.t 95)⟩,
  ⟨some 97, some (93, true), .call (.c (.fn 39 [] [])) [.t 94, .t 96]⟩,
  ⟨some 98, some (93, true), .un .not (.t 97)⟩,
  ⟨some 99, none, .pick (.t 93) (.t 98) (.c (.bool false))⟩]
abbrev c19_r11 : List Ins := [
  ⟨some 2, none, .mov (.c (.bool false))⟩]
abbrev c19_r12 : List Ins := [
  ⟨some 6, none, .mov (.c (.int .i64 0))⟩]
abbrev c19_r13 : List Ins := [
  ⟨some 100, none, .mov (.t 6)⟩,
  ⟨some 101, none, .mov (.t 5)⟩,
  ⟨some 102, none, .len (.t 101)⟩,
  ⟨some 103, none, .bin .lss (.t 100) (.t 102)⟩]
abbrev c19_r14 : List Ins := [
  ⟨some 106, none, .mov (.t 5)⟩,
  ⟨some 107, none, .mov (.t 6)⟩,
  ⟨some 108, none, .iaddr 9 (.t 106) (.t 107)⟩,
  ⟨some 109, none, .faddr 0 (.t 108)⟩,
  ⟨some 110, none, .load 1 false (.t 109)⟩,
  ⟨some 111, none, .bin .geq (.t 110) (.c (.int .i64 6))⟩]
abbrev c19_r15 : List Ins := [
  ⟨some 2, none, .mov (.c (.bool false))⟩]
abbrev c19_r16 : List Ins := [
  ⟨some 104, none, .mov (.t 6)⟩,
  ⟨some 105, none, .bin .add (.t 104) (.c (.int .i64 1))⟩,
  ⟨some 6, none, .mov (.t 105)⟩]
abbrev c19_l17 : IR := .seq (.seq (.reg c19_r13) (.cond (.t 103) (.skip) (.exit 2))) (.seq (.blk 3 (.seq (.reg c19_r14) (.cond (.t 111) (.seq (.reg c19_r15) (.ret)) (.skip)))) (.reg c19_r16))
abbrev c19_r18 : List Ins := [
  ⟨some 48, none, .mov (.t 4)⟩,
  ⟨some 49, none, .bin .add (.t 48) (.c (.int .i64 1))⟩,
  ⟨some 4, none, .mov (.t 49)⟩]
abbrev c19_l19 : IR := .seq (.seq (.reg c19_r6) (.cond (.t 47) (.skip) (.exit 0))) (.seq (.blk 1 (.seq (.seq (.dreg c19_r7 c19_a7) (.cond (.t 83) (.seq (.reg c19_r8) (.ret)) (.skip))) (.seq (.reg c19_r9) (.seq (.seq (.reg c19_r10) (.cond (.t 99) (.seq (.reg c19_r11) (.ret)) (.skip))) (.seq (.reg c19_r12) (.blk 2 (.loop c19_l17))))))) (.reg c19_r18))
abbrev c19_r20 : List Ins := [
  ⟨some 2, none, .mov (.c (.bool true))⟩]
abbrev c19 : IR := .seq (.reg c19_r1) (.seq (.reg c19_r2) (.seq (.seq (.reg c19_r3) (.cond (.t 44) (.seq (.reg c19_r4) (.ret)) (.skip))) (.seq (.seq (.reg c19_r5) (.blk 0 (.loop c19_l19))) (.seq (.reg c19_r20) (.ret)))))
abbrev F19 : FnA := ⟨112, c19, [.t 2]⟩
theorem ok19 : cFn Tryz.prog 19 = some F19 := by kernel_rfl
theorem hb19 : HasBody Tryz.prog 19 := ⟨_, Tryz.func19, by kernel_rfl, by kernel_rfl⟩
/-! codes.Writer.Count -/
abbrev c20_r1 : List Ins := [
  ⟨some 4, none, .mov (.t 0)⟩,
  ⟨some 5, none, .mov (.t 1)⟩,
  ⟨some 6, none, .mx [.t 5, .c (.int .i64 0)]⟩,
  ⟨some 7, none, .conv .u64 (.t 6)⟩,
  ⟨some 8, none, .bsl 1 1 [.int .u64 0] [(0, .t 7)]⟩,
  ⟨some 9, none, .call (.c (.fn 41 [] [])) [.t 4, .t 8]⟩]
abbrev c20 : IR := .reg c20_r1
abbrev F20 : FnA := ⟨10, c20, []⟩
theorem ok20 : cFn Tryz.prog 20 = some F20 := by kernel_rfl
theorem hb20 : HasBody Tryz.prog 20 := ⟨_, Tryz.func20, by kernel_rfl, by kernel_rfl⟩
/-! class.Put -/
abbrev c21_r1 : List Ins := [
  ⟨some 2, none, .box (.t 0)⟩,
  ⟨some 3, none, .box (.t 1)⟩]
abbrev c21_r2 : List Ins := [
  ⟨some 6, none, .load 1 false (.t 2)⟩,
  ⟨some 7, none, .faddr 0 (.t 3)⟩,
  ⟨some 8, none, .load 1 false (.t 7)⟩,
  ⟨some 9, none, .call (.c (.fn 42 [] [])) [.t 6, .t 8]⟩]
abbrev c21_r3 : List Ins := [
  ⟨some 10, none, .load 1 false (.t 2)⟩,
  ⟨some 11, none, .faddr 1 (.t 3)⟩,
  ⟨some 12, none, .load 1 false (.t 11)⟩,
  ⟨some 13, none, .call (.c (.fn 20 [] [])) [.t 10, .t 12]⟩]
abbrev c21_r4 : List Ins := [
  ⟨some 14, none, .load 1 false (.t 2)⟩,
  ⟨some 15, none, .faddr 2 (.t 3)⟩,
  ⟨some 16, none, .load 1 false (.t 15)⟩,
  ⟨some 17, none, .len (.t 16)⟩,
  ⟨some 18, none, .call (.c (.fn 20 [] [])) [.t 14, .t 17]⟩]
abbrev c21_r5 : List Ins := [
  ⟨some 19, none, .load 5 true (.t 3)⟩,
  ⟨some 20, none, .call (.c (.fn 43 [] [])) [.t 19]⟩]
abbrev c21_r6 : List Ins := [
  ⟨some 4, none, .alloc [.sl .full [], .sl .full []]⟩,
  ⟨none, none, .store 2 (.t 4) (.t 21)⟩]
abbrev c21_r7 : List Ins := [
  ⟨some 5, none, .alloc [.sl .full [], .sl .full []]⟩,
  ⟨none, none, .store 2 (.t 5) (.t 22)⟩]
abbrev c21_r8 : List Ins := [
  ⟨some 23, none, .load 1 false (.t 2)⟩,
  ⟨some 24, none, .load 2 true (.t 4)⟩,
  ⟨some 25, none, .load 2 true (.t 5)⟩,
  ⟨some 26, none, .bsl 2 2 [.sl .full [], .sl .full []] [(0, .t 24), (1, .t 25)]⟩,
  ⟨some 27, none, .call (.c (.fn 44 [] [])) [.t 23, .t 26]⟩]
abbrev c21_x9 : IR := .seq (.reg c21_r6) (.reg c21_r7)
abbrev c21_y10 : IR := .blk 1 (.reg c21_r8)
abbrev c21_r11 : List Ins := [
  ⟨some 28, none, .load 1 false (.t 2)⟩,
  ⟨some 29, none, .faddr 4 (.t 3)⟩,
  ⟨some 30, none, .load 1 false (.t 29)⟩,
  ⟨some 31, none, .call (.c (.fn 45 [] [])) [.t 28, .t 30]⟩]
abbrev c21 : IR := .seq (.reg c21_r1) (.seq (.reg c21_r2) (.seq (.reg c21_r3) (.seq (.reg c21_r4) (.seq (.seq (.reg c21_r5) (.blk 0 (.rngf (.t 20) [21, 22] c21_x9 c21_y10))) (.reg c21_r11)))))
abbrev F21 : FnA := ⟨32, c21, []⟩
theorem ok21 : cFn Tryz.prog 21 = some F21 := by kernel_rfl
theorem hb21 : HasBody Tryz.prog 21 := ⟨_, Tryz.func21, by kernel_rfl, by kernel_rfl⟩
/-! cat.pairs -/
abbrev c22_r1 : List Ins := [
  ⟨some 1, none, .box (.t 0)⟩,
  ⟨some 2, none, .mov (.c .nilfn)⟩]
abbrev c22_r2 : List Ins := [
  ⟨some 3, none, .mkfn 46 [] [.t 1]⟩,
  ⟨some 2, none, .mov (.t 3)⟩]
abbrev c22 : IR := .seq (.reg c22_r1) (.seq (.reg c22_r2) (.ret))
abbrev F22 : FnA := ⟨4, c22, [.t 2]⟩
theorem ok22 : cFn Tryz.prog 22 = some F22 := by kernel_rfl
theorem hb22 : HasBody Tryz.prog 22 := ⟨_, Tryz.func22, by kernel_rfl, by kernel_rfl⟩
/-! slices.Clone:uint64 -/
abbrev c23_r1 : List Ins := [
  ⟨some 2, none, .mov (.c (.sl .full []))⟩]
abbrev c23_r2 : List Ins := [
  ⟨some 3, none, .mov (.t 0)⟩,
  ⟨some 4, none, .isnil false (.t 3)⟩]
abbrev c23_r3 : List Ins := [
  ⟨some 2, none, .mov (.c (.sl .full []))⟩]
abbrev c23_r4 : List Ins := [
  ⟨some 5, none, .bsl 1 0 [.int .u64 0] []⟩,
  ⟨some 6, none, .mov (.t 0)⟩,
  ⟨some 7, none, .append 1 8 (.t 5) (.t 6)⟩,
  ⟨some 2, none, .mov (.t 7)⟩]
abbrev c23 : IR := .seq (.reg c23_r1) (.seq (.seq (.reg c23_r2) (.cond (.t 4) (.seq (.reg c23_r3) (.ret)) (.skip))) (.seq (.reg c23_r4) (.ret)))
abbrev F23 : FnA := ⟨8, c23, [.t 2]⟩
theorem ok23 : cFn Tryz.prog 23 = some F23 := by kernel_rfl
theorem hb23 : HasBody Tryz.prog 23 := ⟨_, Tryz.func23, by kernel_rfl, by kernel_rfl⟩
/-! codes.Reader.Count -/
abbrev c24_r1 : List Ins := [
  ⟨some 3, none, .box (.t 1)⟩,
  ⟨some 4, none, .mov (.c (.int .i64 0))⟩]
abbrev c24_r2 : List Ins := [
  ⟨some 5, none, .mov (.t 0)⟩,
  ⟨some 6, none, .mkfn 48 [] [.t 3]⟩,
  ⟨some 7, none, .call (.c (.fn 47 [] [])) [.t 5, .t 6]⟩,
  ⟨some 8, none, .conv .i64 (.t 7)⟩,
  ⟨some 4, none, .mov (.t 8)⟩]
abbrev c24 : IR := .seq (.reg c24_r1) (.seq (.reg c24_r2) (.ret))
abbrev F24 : FnA := ⟨9, c24, [.t 4]⟩
theorem ok24 : cFn Tryz.prog 24 = some F24 := by kernel_rfl
theorem hb24 : HasBody Tryz.prog 24 := ⟨_, Tryz.func24, by kernel_rfl, by kernel_rfl⟩
/-! class.Get -/
abbrev c25_r1 : List Ins := [
  ⟨some 2, none, .alloc [.str ⟨#[]⟩, .int .i64 0, .sl .full [], .sl .full [], .bool false]⟩,
  ⟨some 3, none, .mov (.c (.bool false))⟩]
abbrev c25_r2 : List Ins := [
  ⟨some 5, none, .mov (.t 0)⟩,
  ⟨some 6, none, .call (.c (.fn 49 [] [])) [.t 5]⟩,
  ⟨some 7, none, .mov (.t 0)⟩,
  ⟨some 8, none, .call (.c (.fn 24 [] [])) [.t 7, .c (.int .i64 3)]⟩,
  ⟨some 9, none, .build [.str ⟨#[]⟩, .int .i64 0, .sl .full [], .sl .full [], .bool false] [(0, (1, .t 6)), (1, (1, .t 8))]⟩,
  ⟨some 4, none, .alloc [.str ⟨#[]⟩, .int .i64 0, .sl .full [], .sl .full [], .bool false]⟩,
  ⟨none, none, .store 5 (.t 4) (.t 9)⟩]
abbrev c25_r3 : List Ins := [
  ⟨some 10, none, .mov (.t 0)⟩,
  ⟨some 11, none, .call (.c (.fn 24 [] [])) [.t 10, .c (.int .i64 4)]⟩,
  ⟨some 12, none, .mov (.c (.int .i64 0))⟩]
abbrev c25_r4 : List Ins := [
  ⟨some 13, none, .bin .lss (.t 12) (.t 11)⟩]
abbrev c25_r5 : List Ins := [
  ⟨some 14, none, .faddr 2 (.t 4)⟩,
  ⟨some 15, none, .load 1 false (.t 14)⟩,
  ⟨some 16, none, .mov (.t 0)⟩,
  ⟨some 17, none, .call (.c (.fn 50 [] [])) [.t 16]⟩,
  ⟨some 18, none, .bsl 2 1 [.sl .full [], .sl .full []] [(0, .t 17)]⟩,
  ⟨some 19, none, .append 2 48 (.t 15) (.t 18)⟩,
  ⟨some 20, none, .faddr 2 (.t 4)⟩,
  ⟨none, none, .store 1 (.t 20) (.t 19)⟩]
def c25_a5 : List (List Nat) := [[], [0], [], [2], [3], [1, 4, 3], [0, 1, 2, 3, 4, 5], [6, 5, 5, 0, 1, 2, 3, 4, 5]]
abbrev c25_m5 : List Am.Mark := [⟨false, 0, 2⟩, ⟨false, 0, 1⟩, ⟨false, 0, 0⟩, ⟨true, 0, 1⟩, ⟨false, 1, 1⟩, ⟨true, 1, 2⟩, ⟨false, 2, 2⟩, ⟨true, 2, 3⟩]
theorem c25_d5 : drawFine c25_r5 c25_a5 c25_m5 = true := by decide +kernel
abbrev c25_r6 : List Ins := [
  ⟨some 21, none, .faddr 3 (.t 4)⟩,
  ⟨some 22, none, .load 1 false (.t 21)⟩,
  ⟨some 23, none, .mov (.t 0)⟩,
  ⟨some 24, none, .call (.c (.fn 50 [] [])) [.t 23]⟩,
  ⟨some 25, none, .bsl 2 1 [.sl .full [], .sl .full []] [(0, .t 24)]⟩,
  ⟨some 26, none, .append 2 48 (.t 22) (.t 25)⟩,
  ⟨some 27, none, .faddr 3 (.t 4)⟩,
  ⟨none, none, .store 1 (.t 27) (.t 26)⟩]
def c25_a6 : List (List Nat) := [[], [0], [], [2], [3], [1, 4, 3], [0, 1, 2, 3, 4, 5], [6, 5, 5, 0, 1, 2, 3, 4, 5]]
abbrev c25_m6 : List Am.Mark := [⟨false, 0, 2⟩, ⟨false, 0, 1⟩, ⟨false, 0, 0⟩, ⟨true, 0, 1⟩, ⟨false, 1, 1⟩, ⟨true, 1, 2⟩, ⟨false, 2, 2⟩, ⟨true, 2, 3⟩]
theorem c25_d6 : drawFine c25_r6 c25_a6 c25_m6 = true := by decide +kernel
abbrev c25_r7 : List Ins := [
  ⟨some 28, none, .bin .add (.t 12) (.c (.int .i64 1))⟩,
  ⟨some 12, none, .mov (.t 28)⟩]
abbrev c25_l8 : IR := .seq (.reg c25_r4) (.seq (.cond (.t 13) (.skip) (.exit 0)) (.seq (.blk 1 (.seq (.dreg c25_r5 c25_a5) (.dreg c25_r6 c25_a6))) (.reg c25_r7)))
abbrev c25_r9 : List Ins := [
  ⟨some 29, none, .mov (.t 0)⟩,
  ⟨some 30, none, .call (.c (.fn 51 [] [])) [.t 29]⟩,
  ⟨some 31, none, .faddr 4 (.t 4)⟩,
  ⟨none, none, .store 1 (.t 31) (.t 30)⟩]
abbrev c25_r10 : List Ins := [
  ⟨some 32, none, .mov (.t 0)⟩,
  ⟨some 33, none, .call (.c (.fn 28 [] [])) [.t 32]⟩,
  ⟨some 34, none, .un .not (.t 33)⟩,
  ⟨some 35, none, .mov (.t 34)⟩,
  ⟨some 36, some (35, false), .load 5 true (.t 4)⟩,
  ⟨some 37, some (35, false), .call (.c (.fn 52 [] [])) [.t 36]⟩,
  ⟨some 38, some (35, false), .un .not (.t 37)⟩,
  ⟨some 39, none, .pick (.t 35) (.c (.bool true)) (.t 38)⟩]
abbrev c25_r11 : List Ins := [
  ⟨some 40, none, .mov (.t 0)⟩,
  ⟨some 41, none, .call (.c (.fn 24 [] [])) [.t 40, .c (.int .i64 (-1))]⟩]
abbrev c25_r12 : List Ins := [
  ⟨some 42, none, .build [.str ⟨#[]⟩, .int .i64 0, .sl .full [], .sl .full [], .bool false] []⟩,
  ⟨none, none, .store 5 (.t 2) (.t 42)⟩,
  ⟨some 3, none, .mov (.c (.bool false))⟩]
abbrev c25_r13 : List Ins := [
  ⟨some 43, none, .load 5 true (.t 4)⟩,
  ⟨none, none, .store 5 (.t 2) (.t 43)⟩,
  ⟨some 3, none, .mov (.c (.bool true))⟩]
abbrev c25 : IR := .seq (.reg c25_r1) (.seq (.reg c25_r2) (.seq (.seq (.reg c25_r3) (.blk 0 (.loop c25_l8))) (.seq (.reg c25_r9) (.seq (.seq (.reg c25_r10) (.cond (.t 39) (.seq (.reg c25_r11) (.seq (.reg c25_r12) (.ret))) (.skip))) (.seq (.reg c25_r13) (.ret))))))
abbrev F25 : FnA := ⟨44, c25, [.cell 2 5 true, .t 3]⟩
theorem ok25 : cFn Tryz.prog 25 = some F25 := by kernel_rfl
theorem hb25 : HasBody Tryz.prog 25 := ⟨_, Tryz.func25, by kernel_rfl, by kernel_rfl⟩
/-! cat.turned -/
abbrev c26_r1 : List Ins := [
  ⟨some 2, none, .box (.t 0)⟩,
  ⟨some 3, none, .box (.t 1)⟩,
  ⟨some 4, none, .alloc [.int .i64 0, .int .i64 0, .int .i64 0, .int .i64 0, .int .i64 0, .int .i64 0, .int .i64 0, .int .i64 0, .int .i64 0, .int .i64 0, .int .i64 0, .int .i64 0, .int .i64 0, .int .i64 0, .int .i64 0, .int .i64 0]⟩]
abbrev c26_r2 : List Ins := [
  ⟨some 5, none, .alloc [.int .i64 0, .int .i64 0, .int .i64 0, .int .i64 0, .int .i64 0, .int .i64 0, .int .i64 0, .int .i64 0, .int .i64 0, .int .i64 0, .int .i64 0, .int .i64 0, .int .i64 0, .int .i64 0, .int .i64 0, .int .i64 0]⟩]
abbrev c26_r3 : List Ins := [
  ⟨some 8, none, .load 17 true (.t 2)⟩,
  ⟨some 9, none, .call (.c (.fn 22 [] [])) [.t 8]⟩]
abbrev c26_r4 : List Ins := [
  ⟨some 6, none, .mov (.t 10)⟩]
abbrev c26_r5 : List Ins := [
  ⟨some 7, none, .mov (.t 11)⟩]
abbrev c26_r6 : List Ins := [
  ⟨some 12, none, .mov (.t 6)⟩,
  ⟨some 13, none, .mov (.t 7)⟩,
  ⟨some 14, none, .load 1 false (.t 3)⟩,
  ⟨some 15, none, .mov (.t 6)⟩,
  ⟨some 16, none, .mov (.t 7)⟩,
  ⟨some 17, none, .call (.t 14) [.t 15, .t 16]⟩,
  ⟨some 18, none, .iaddrA 4 4 (.t 5) (.t 12)⟩,
  ⟨some 19, none, .iaddrA 4 1 (.t 18) (.t 13)⟩,
  ⟨none, none, .store 1 (.t 19) (.t 17)⟩]
def c26_a6 : List (List Nat) := [[], [], [], [], [], [2, 3, 4], [0], [6, 1, 0, 1, 2, 3, 4, 5], [7, 5, 5, 0, 1, 2, 3, 4, 5]]
abbrev c26_m6 : List Am.Mark := [⟨false, 0, 1⟩, ⟨false, 0, 1⟩, ⟨false, 0, 0⟩, ⟨false, 0, 0⟩, ⟨false, 0, 0⟩, ⟨true, 0, 1⟩, ⟨false, 0, 2⟩, ⟨false, 1, 1⟩, ⟨true, 1, 2⟩]
theorem c26_d6 : drawFine c26_r6 c26_a6 c26_m6 = true := by decide +kernel
abbrev c26_x7 : IR := .seq (.reg c26_r4) (.reg c26_r5)
abbrev c26_y8 : IR := .blk 1 (.dreg c26_r6 c26_a6)
abbrev c26_r9 : List Ins := [
  ⟨some 20, none, .load 16 true (.t 5)⟩,
  ⟨none, none, .store 16 (.t 4) (.t 20)⟩]
abbrev c26 : IR := .seq (.reg c26_r1) (.seq (.reg c26_r2) (.seq (.seq (.reg c26_r3) (.blk 0 (.rngf (.t 9) [10, 11] c26_x7 c26_y8))) (.seq (.reg c26_r9) (.ret))))
abbrev F26 : FnA := ⟨21, c26, [.cell 4 16 true]⟩
theorem ok26 : cFn Tryz.prog 26 = some F26 := by kernel_rfl
theorem hb26 : HasBody Tryz.prog 26 := ⟨_, Tryz.func26, by kernel_rfl, by kernel_rfl⟩
/-! cat.Get$1 -/
abbrev c27_r1 : List Ins := [
  ⟨some 5, none, .mov (.c (.int .i64 0))⟩]
abbrev c27_r2 : List Ins := [
  ⟨some 6, none, .load 1 false (.t 2)⟩,
  ⟨some 7, none, .call (.c (.fn 24 [] [])) [.t 6, .c (.int .i64 255)]⟩,
  ⟨some 5, none, .mov (.t 7)⟩]
abbrev c27 : IR := .seq (.reg c27_r1) (.seq (.reg c27_r2) (.ret))
abbrev F27 : FnA := ⟨8, c27, [.t 5]⟩
theorem ok27 : cFn Tryz.prog 27 = some F27 := by kernel_rfl
theorem hb27 : HasBody Tryz.prog 27 := ⟨_, Tryz.func27, by kernel_rfl, by kernel_rfl⟩
/-! codes.Reader.Ok -/
abbrev c28_r1 : List Ins := [
  ⟨some 2, none, .mov (.c (.bool false))⟩]
abbrev c28_r2 : List Ins := [
  ⟨some 3, none, .mov (.t 0)⟩,
  ⟨some 4, none, .nilck (.t 3)⟩,
  ⟨some 5, none, .faddr 1 (.t 4)⟩,
  ⟨some 6, none, .load 1 false (.t 5)⟩,
  ⟨some 7, none, .un .not (.t 6)⟩,
  ⟨some 2, none, .mov (.t 7)⟩]
abbrev c28 : IR := .seq (.reg c28_r1) (.seq (.reg c28_r2) (.ret))
abbrev F28 : FnA := ⟨8, c28, [.t 2]⟩
theorem ok28 : cFn Tryz.prog 28 = some F28 := by kernel_rfl
theorem hb28 : HasBody Tryz.prog 28 := ⟨_, Tryz.func28, by kernel_rfl, by kernel_rfl⟩
/-! ref01.Write -/
abbrev c29_r1 : List Ins := [
  ⟨some 3, none, .box (.t 1)⟩,
  ⟨some 4, none, .mov (.c (.sl .full []))⟩]
abbrev c29_r2 : List Ins := [
  ⟨some 6, none, .faddr 0 (.t 3)⟩,
  ⟨some 7, none, .load 1 false (.t 6)⟩]
abbrev c29_r3 : List Ins := [
  ⟨some 9, none, .bin .eql (.t 7) (.c (.int .i64 0))⟩,
  ⟨some 8, none, .mov (.t 9)⟩]
abbrev c29_r4 : List Ins := [
  ⟨some 10, none, .faddr 1 (.t 3)⟩,
  ⟨some 11, none, .load 1 false (.t 10)⟩,
  ⟨some 12, none, .bin .lss (.t 11) (.c (.int .i64 0))⟩]
abbrev c29_r5 : List Ins := [
  ⟨some 13, none, .mov (.t 0)⟩,
  ⟨some 14, none, .bsl 1 1 [.int .u64 0] [(0, .c (.int .u64 0))]⟩,
  ⟨some 15, none, .append 1 8 (.t 13) (.t 14)⟩,
  ⟨some 4, none, .mov (.t 15)⟩]
abbrev c29_r6 : List Ins := [
  ⟨some 16, none, .mov (.t 0)⟩,
  ⟨some 17, none, .faddr 1 (.t 3)⟩,
  ⟨some 18, none, .load 1 false (.t 17)⟩,
  ⟨some 19, none, .conv .u64 (.t 18)⟩,
  ⟨some 20, none, .bsl 1 1 [.int .u64 0] [(0, .t 19)]⟩,
  ⟨some 21, none, .append 1 8 (.t 16) (.t 20)⟩,
  ⟨some 4, none, .mov (.t 21)⟩]
abbrev c29_r7 : List Ins := [
  ⟨some 23, none, .bin .eql (.t 7) (.c (.int .i64 1))⟩,
  ⟨some 22, none, .mov (.t 23)⟩]
abbrev c29_r8 : List Ins := [
  ⟨some 24, none, .mov (.t 0)⟩,
  ⟨some 25, none, .faddr 3 (.t 3)⟩,
  ⟨some 26, none, .load 1 false (.t 25)⟩,
  ⟨some 27, none, .call (.c (.fn 53 [] [])) [.t 26]⟩,
  ⟨some 28, none, .bsl 1 1 [.int .u64 0] [(0, .t 27)]⟩,
  ⟨some 29, none, .append 1 8 (.t 24) (.t 28)⟩,
  ⟨some 4, none, .mov (.t 29)⟩]
abbrev c29_r9 : List Ins := [
  ⟨some 31, none, .bin .eql (.t 7) (.c (.int .i64 2))⟩,
  ⟨some 30, none, .mov (.t 31)⟩]
abbrev c29_r10 : List Ins := [
  ⟨some 32, none, .faddr 1 (.t 3)⟩,
  ⟨some 33, none, .load 1 false (.t 32)⟩,
  ⟨some 34, none, .bin .eql (.t 33) (.c (.int .i64 1))⟩]
abbrev c29_r11 : List Ins := [
  ⟨some 35, none, .mov (.t 0)⟩,
  ⟨some 36, none, .bsl 1 1 [.int .u64 0] [(0, .c (.int .u64 1))]⟩,
  ⟨some 37, none, .append 1 8 (.t 35) (.t 36)⟩,
  ⟨some 4, none, .mov (.t 37)⟩]
abbrev c29_r12 : List Ins := [
  ⟨some 38, none, .mov (.t 0)⟩,
  ⟨some 39, none, .bsl 1 1 [.int .u64 0] [(0, .c (.int .u64 0))]⟩,
  ⟨some 40, none, .append 1 8 (.t 38) (.t 39)⟩,
  ⟨some 4, none, .mov (.t 40)⟩]
abbrev c29_r13 : List Ins := [
  ⟨some 42, none, .bin .eql (.t 7) (.c (.int .i64 3))⟩,
  ⟨some 41, none, .mov (.t 42)⟩]
abbrev c29_r14 : List Ins := [
  ⟨some 43, none, .faddr 4 (.t 3)⟩,
  ⟨some 44, none, .load 1 false (.t 43)⟩,
  ⟨some 5, none, .mov (.t 44)⟩]
abbrev c29_r15 : List Ins := [
  ⟨some 45, none, .mov (.t 5)⟩,
  ⟨some 46, none, .lenS (.t 45)⟩,
  ⟨some 47, none, .bin .gtr (.t 46) (.c (.int .i64 64))⟩]
abbrev c29_r16 : List Ins := [
  ⟨some 48, none, .mov (.t 5)⟩,
  ⟨some 49, none, .sliceS (.t 48) none (some (.c (.int .i64 64)))⟩,
  ⟨some 5, none, .mov (.t 49)⟩]
abbrev c29_r17 : List Ins := [
  ⟨some 50, none, .mov (.t 0)⟩,
  ⟨some 51, none, .mov (.t 5)⟩,
  ⟨some 52, none, .lenS (.t 51)⟩,
  ⟨some 53, none, .conv .u64 (.t 52)⟩,
  ⟨some 54, none, .bsl 1 1 [.int .u64 0] [(0, .t 53)]⟩,
  ⟨some 55, none, .append 1 8 (.t 50) (.t 54)⟩,
  ⟨some 56, none, .mov (.t 5)⟩,
  ⟨some 57, none, .call (.c (.fn 54 [] [])) [.t 56]⟩,
  ⟨some 58, none, .append 1 8 (.t 55) (.t 57)⟩,
  ⟨some 4, none, .mov (.t 58)⟩]
abbrev c29_r18 : List Ins := [
  ⟨some 59, none, .mov (.t 0)⟩,
  ⟨some 60, none, .faddr 5 (.t 3)⟩,
  ⟨some 61, none, .load 1 false (.t 60)⟩,
  ⟨some 62, none, .len (.t 61)⟩,
  ⟨some 63, none, .conv .u64 (.t 62)⟩,
  ⟨some 64, none, .bsl 1 1 [.int .u64 0] [(0, .t 63)]⟩,
  ⟨some 65, none, .append 1 8 (.t 59) (.t 64)⟩,
  ⟨some 66, none, .faddr 5 (.t 3)⟩,
  ⟨some 67, none, .load 1 false (.t 66)⟩,
  ⟨some 68, none, .append 1 8 (.t 65) (.t 67)⟩,
  ⟨some 4, none, .mov (.t 68)⟩]
def c29_a18 : List (List Nat) := [[], [], [1], [2], [3], [4], [0, 5], [], [7], [6, 8, 6], [9, 9, 0, 1, 2, 3, 4, 5, 6, 7, 8, 9]]
abbrev c29_m18 : List Am.Mark := [⟨false, 0, 0⟩, ⟨false, 0, 2⟩, ⟨false, 0, 2⟩, ⟨false, 0, 2⟩, ⟨false, 0, 2⟩, ⟨false, 0, 0⟩, ⟨true, 0, 1⟩, ⟨false, 0, 2⟩, ⟨false, 0, 1⟩, ⟨true, 1, 2⟩, ⟨false, 2, 2⟩]
theorem c29_d18 : drawFine c29_r18 c29_a18 c29_m18 = true := by decide +kernel
abbrev c29 : IR := .seq (.reg c29_r1) (.seq (.seq (.reg c29_r2) (.blk 0 (.seq (.reg c29_r3) (.cond (.t 8) (.seq (.seq (.reg c29_r4) (.cond (.t 12) (.seq (.reg c29_r5) (.ret)) (.skip))) (.seq (.reg c29_r6) (.ret))) (.seq (.reg c29_r7) (.cond (.t 22) (.seq (.reg c29_r8) (.ret)) (.seq (.reg c29_r9) (.cond (.t 30) (.seq (.seq (.reg c29_r10) (.cond (.t 34) (.seq (.reg c29_r11) (.ret)) (.skip))) (.seq (.reg c29_r12) (.ret))) (.seq (.reg c29_r13) (.cond (.t 41) (.seq (.reg c29_r14) (.seq (.seq (.reg c29_r15) (.cond (.t 47) (.reg c29_r16) (.skip))) (.seq (.reg c29_r17) (.ret)))) (.skip))))))))))) (.seq (.dreg c29_r18 c29_a18) (.ret)))
abbrev F29 : FnA := ⟨69, c29, [.t 4]⟩
theorem ok29 : cFn Tryz.prog 29 = some F29 := by kernel_rfl
theorem hb29 : HasBody Tryz.prog 29 := ⟨_, Tryz.func29, by kernel_rfl, by kernel_rfl⟩
/-! ref11.Items -/
abbrev c30_r1 : List Ins := [
  ⟨some 1, none, .box (.t 0)⟩,
  ⟨some 2, none, .mov (.c (.sl .full []))⟩]
abbrev c30_r2 : List Ins := [
  ⟨some 6, none, .faddr 0 (.t 1)⟩,
  ⟨some 7, none, .load 1 false (.t 6)⟩,
  ⟨some 8, none, .build [.int .i64 0, .int .i64 0, .int .i64 0, .int .i64 0, .str ⟨#[]⟩, .sl .full []] [(0, (1, .c (.int .i64 3))), (4, (1, .t 7))]⟩,
  ⟨some 9, none, .faddr 1 (.t 1)⟩,
  ⟨some 10, none, .load 1 false (.t 9)⟩,
  ⟨some 11, none, .build [.int .i64 0, .int .i64 0, .int .i64 0, .int .i64 0, .str ⟨#[]⟩, .sl .full []] [(1, (1, .t 10)), (2, (1, .c (.int .i64 3)))]⟩,
  ⟨some 12, none, .faddr 2 (.t 1)⟩,
  ⟨some 13, none, .load 1 false (.t 12)⟩,
  ⟨some 14, none, .len (.t 13)⟩,
  ⟨some 15, none, .build [.int .i64 0, .int .i64 0, .int .i64 0, .int .i64 0, .str ⟨#[]⟩, .sl .full []] [(1, (1, .t 14)), (2, (1, .c (.int .i64 4)))]⟩,
  ⟨some 16, none, .bsl 6 3 [.int .i64 0, .int .i64 0, .int .i64 0, .int .i64 0, .str ⟨#[]⟩, .sl .full []] [(0, .t 8), (1, .t 11), (2, .t 15)]⟩,
  ⟨some 3, none, .mov (.t 16)⟩]
abbrev c30_r3 : List Ins := [
  ⟨some 4, none, .mov (.c (.int .i64 0))⟩]
abbrev c30_r4 : List Ins := [
  ⟨some 17, none, .mov (.t 4)⟩,
  ⟨some 18, none, .faddr 2 (.t 1)⟩,
  ⟨some 19, none, .load 1 false (.t 18)⟩,
  ⟨some 20, none, .len (.t 19)⟩,
  ⟨some 21, none, .bin .lss (.t 17) (.t 20)⟩,
  ⟨some 22, none, .mov (.t 21)⟩,
  ⟨some 23, some (22, true), .mov (.t 4)⟩,
  ⟨some 24, some (22, true), .faddr 3 (.t 1)⟩,
  ⟨some 25, some (22, true), .load 1 false (.t 24)⟩,
  ⟨some 26, some (22, true), .len (.t 25)⟩,
  ⟨some 27, some (22, true), .bin .lss (.t 23) (.t 26)⟩,
  ⟨some 28, none, .pick (.t 22) (.t 27) (.c (.bool false))⟩]
abbrev c30_r5 : List Ins := [
  ⟨some 31, none, .mov (.t 3)⟩,
  ⟨some 32, none, .faddr 2 (.t 1)⟩,
  ⟨some 33, none, .load 1 false (.t 32)⟩,
  ⟨some 34, none, .mov (.t 4)⟩,
  ⟨some 35, none, .iaddr 2 (.t 33) (.t 34)⟩,
  ⟨some 36, none, .faddr 0 (.t 35)⟩,
  ⟨some 37, none, .load 1 false (.t 36)⟩,
  ⟨some 38, none, .call (.c (.fn 55 [] [])) [.t 37]⟩,
  ⟨some 39, none, .append 6 72 (.t 31) (.t 38)⟩,
  ⟨some 3, none, .mov (.t 39)⟩]
abbrev c30_r6 : List Ins := [
  ⟨some 40, none, .mov (.t 3)⟩,
  ⟨some 41, none, .faddr 2 (.t 1)⟩,
  ⟨some 42, none, .load 1 false (.t 41)⟩,
  ⟨some 43, none, .mov (.t 4)⟩,
  ⟨some 44, none, .iaddr 2 (.t 42) (.t 43)⟩,
  ⟨some 45, none, .faddr 1 (.t 44)⟩,
  ⟨some 46, none, .load 1 false (.t 45)⟩,
  ⟨some 47, none, .call (.c (.fn 56 [] [])) [.t 46]⟩,
  ⟨some 48, none, .append 6 72 (.t 40) (.t 47)⟩,
  ⟨some 3, none, .mov (.t 48)⟩]
abbrev c30_r7 : List Ins := [
  ⟨some 49, none, .mov (.t 3)⟩,
  ⟨some 50, none, .faddr 3 (.t 1)⟩,
  ⟨some 51, none, .load 1 false (.t 50)⟩,
  ⟨some 52, none, .mov (.t 4)⟩,
  ⟨some 53, none, .iaddr 2 (.t 51) (.t 52)⟩,
  ⟨some 54, none, .faddr 0 (.t 53)⟩,
  ⟨some 55, none, .load 1 false (.t 54)⟩,
  ⟨some 56, none, .call (.c (.fn 55 [] [])) [.t 55]⟩,
  ⟨some 57, none, .append 6 72 (.t 49) (.t 56)⟩,
  ⟨some 3, none, .mov (.t 57)⟩]
abbrev c30_r8 : List Ins := [
  ⟨some 58, none, .mov (.t 3)⟩,
  ⟨some 59, none, .faddr 3 (.t 1)⟩,
  ⟨some 60, none, .load 1 false (.t 59)⟩,
  ⟨some 61, none, .mov (.t 4)⟩,
  ⟨some 62, none, .iaddr 2 (.t 60) (.t 61)⟩,
  ⟨some 63, none, .faddr 1 (.t 62)⟩,
  ⟨some 64, none, .load 1 false (.t 63)⟩,
  ⟨some 65, none, .call (.c (.fn 56 [] [])) [.t 64]⟩,
  ⟨some 66, none, .append 6 72 (.t 58) (.t 65)⟩,
  ⟨some 3, none, .mov (.t 66)⟩]
abbrev c30_r9 : List Ins := [
  ⟨some 29, none, .mov (.t 4)⟩,
  ⟨some 30, none, .bin .add (.t 29) (.c (.int .i64 1))⟩,
  ⟨some 4, none, .mov (.t 30)⟩]
abbrev c30_l10 : IR := .seq (.seq (.reg c30_r4) (.cond (.t 28) (.skip) (.exit 0))) (.seq (.blk 1 (.seq (.reg c30_r5) (.seq (.reg c30_r6) (.seq (.reg c30_r7) (.reg c30_r8))))) (.reg c30_r9))
abbrev c30_r11 : List Ins := [
  ⟨some 5, none, .mov (.c (.int .i64 0))⟩]
abbrev c30_r12 : List Ins := [
  ⟨some 67, none, .faddr 4 (.t 1)⟩,
  ⟨some 68, none, .load 1 false (.t 67)⟩]
abbrev c30_r13 : List Ins := [
  ⟨some 5, none, .mov (.c (.int .i64 1))⟩]
abbrev c30_r14 : List Ins := [
  ⟨some 69, none, .mov (.t 3)⟩,
  ⟨some 70, none, .mov (.t 5)⟩,
  ⟨some 71, none, .build [.int .i64 0, .int .i64 0, .int .i64 0, .int .i64 0, .str ⟨#[]⟩, .sl .full []] [(0, (1, .c (.int .i64 2))), (1, (1, .t 70))]⟩,
  ⟨some 72, none, .bsl 6 1 [.int .i64 0, .int .i64 0, .int .i64 0, .int .i64 0, .str ⟨#[]⟩, .sl .full []] [(0, .t 71)]⟩,
  ⟨some 73, none, .append 6 72 (.t 69) (.t 72)⟩,
  ⟨some 2, none, .mov (.t 73)⟩]
abbrev c30 : IR := .seq (.reg c30_r1) (.seq (.reg c30_r2) (.seq (.seq (.reg c30_r3) (.blk 0 (.loop c30_l10))) (.seq (.reg c30_r11) (.seq (.seq (.reg c30_r12) (.cond (.t 68) (.reg c30_r13) (.skip))) (.seq (.reg c30_r14) (.ret))))))
abbrev F30 : FnA := ⟨74, c30, [.t 2]⟩
theorem ok30 : cFn Tryz.prog 30 = some F30 := by kernel_rfl
theorem hb30 : HasBody Tryz.prog 30 := ⟨_, Tryz.func30, by kernel_rfl, by kernel_rfl⟩
/-! ref11.Same -/
abbrev c31_r1 : List Ins := [
  ⟨some 2, none, .box (.t 0)⟩,
  ⟨some 3, none, .box (.t 1)⟩,
  ⟨some 4, none, .mov (.c (.bool false))⟩]
abbrev c31_r2 : List Ins := [
  ⟨some 5, none, .faddr 0 (.t 2)⟩,
  ⟨some 6, none, .load 1 false (.t 5)⟩,
  ⟨some 7, none, .faddr 0 (.t 3)⟩,
  ⟨some 8, none, .load 1 false (.t 7)⟩,
  ⟨some 9, none, .bin .eql (.t 6) (.t 8)⟩,
  ⟨some 10, none, .mov (.t 9)⟩,
  ⟨some 11, some (10, true), .faddr 1 (.t 2)⟩,
  ⟨some 12, some (10, true), .load 1 false (.t 11)⟩,
  ⟨some 13, some (10, true), .faddr 1 (.t 3)⟩,
  ⟨some 14, some (10, true), .load 1 false (.t 13)⟩,
  ⟨some 15, some (10, true), .bin .eql (.t 12) (.t 14)⟩,
  ⟨some 16, none, .pick (.t 10) (.t 15) (.c (.bool false))⟩,
  ⟨some 17, none, .mov (.t 16)⟩,
  ⟨some 18, some (17, true), .faddr 4 (.t 2)⟩,
  ⟨some 19, some (17, true), .load 1 false (.t 18)⟩,
  ⟨some 20, some (17, true), .faddr 4 (.t 3)⟩,
  ⟨some 21, some (17, true), .load 1 false (.t 20)⟩,
  ⟨some 22, some (17, true), .eq [.b] false false (.t 19) (.t 21)⟩,
  ⟨some 23, none, .pick (.t 17) (.t 22) (.c (.bool false))⟩,
  ⟨some 24, none, .mov (.t 23)⟩,
  ⟨some 25, some (24, true), .faddr 2 (.t 2)⟩,
  ⟨some 26, some (24, true), .load 1 false (.t 25)⟩,
  ⟨some 27, some (24, true), .faddr 2 (.t 3)⟩,
  ⟨some 28, some (24, true), .load 1 false (.t 27)⟩,
  ⟨some 29, some (24, true), .call (.c (.fn 57 [] [])) [.t 26, .t 28]⟩,
  ⟨some 30, none, .pick (.t 24) (.t 29) (.c (.bool false))⟩,
  ⟨some 31, none, .mov (.t 30)⟩,
  ⟨some 32, some (31, true), .faddr 3 (.t 2)⟩,
  ⟨some 33, some (31, true), .load 1 false (.t 32)⟩,
  ⟨some 34, some (31, true), .faddr 3 (.t 3)⟩,
  ⟨some 35, some (31, true), .load 1 false (.t 34)⟩,
  ⟨some 36, some (31, true), .call (.c (.fn 57 [] [])) [.t 33, .t 35]⟩,
  ⟨some 37, none, .pick (.t 31) (.t 36) (.c (.bool false))⟩,
  ⟨some 4, none, .mov (.t 37)⟩]
abbrev c31 : IR := .seq (.reg c31_r1) (.seq (.reg c31_r2) (.ret))
abbrev F31 : FnA := ⟨38, c31, [.t 4]⟩
theorem ok31 : cFn Tryz.prog 31 = some F31 := by kernel_rfl
theorem hb31 : HasBody Tryz.prog 31 := ⟨_, Tryz.func31, by kernel_rfl, by kernel_rfl⟩
/-! cat.copied -/
abbrev c32_r1 : List Ins := [
  ⟨some 1, none, .box (.t 0)⟩,
  ⟨some 2, none, .alloc [.sl .full [], .int .i64 0, .int .i64 0, .int .i64 0, .int .i64 0, .int .i64 0, .int .i64 0, .int .i64 0, .int .i64 0, .int .i64 0, .int .i64 0, .int .i64 0, .int .i64 0, .int .i64 0, .int .i64 0, .int .i64 0, .int .i64 0]⟩]
abbrev c32_r2 : List Ins := [
  ⟨some 5, none, .faddr 0 (.t 1)⟩,
  ⟨some 6, none, .load 1 false (.t 5)⟩,
  ⟨some 7, none, .call (.c (.fn 58 [] [])) [.t 6]⟩,
  ⟨some 8, none, .faddr 0 (.t 1)⟩,
  ⟨none, none, .store 1 (.t 8) (.t 7)⟩]
abbrev c32_r3 : List Ins := [
  ⟨some 9, none, .faddr 0 (.t 1)⟩,
  ⟨some 10, none, .load 1 false (.t 9)⟩,
  ⟨some 11, none, .len (.t 10)⟩,
  ⟨some 12, none, .mov (.c (.int .i64 0))⟩]
abbrev c32_r4 : List Ins := [
  ⟨some 13, none, .bin .lss (.t 12) (.t 11)⟩]
abbrev c32_r5 : List Ins := [
  ⟨some 14, none, .mov (.t 12)⟩,
  ⟨some 15, none, .iaddr 5 (.t 10) (.t 12)⟩,
  ⟨some 16, none, .load 5 true (.t 15)⟩,
  ⟨some 4, none, .alloc [.str ⟨#[]⟩, .int .i64 0, .sl .full [], .sl .full [], .bool false]⟩,
  ⟨some 3, none, .mov (.t 14)⟩,
  ⟨none, none, .store 5 (.t 4) (.t 16)⟩]
abbrev c32_r6 : List Ins := [
  ⟨some 17, none, .faddr 0 (.t 1)⟩,
  ⟨some 18, none, .load 1 false (.t 17)⟩,
  ⟨some 19, none, .mov (.t 3)⟩,
  ⟨some 20, none, .faddr 0 (.t 1)⟩,
  ⟨some 21, none, .load 1 false (.t 20)⟩,
  ⟨some 22, none, .mov (.t 3)⟩,
  ⟨some 23, none, .faddr 2 (.t 4)⟩,
  ⟨some 24, none, .load 1 false (.t 23)⟩,
  ⟨some 25, none, .call (.c (.fn 59 [] [])) [.t 24]⟩,
  ⟨some 26, none, .faddr 3 (.t 4)⟩,
  ⟨some 27, none, .load 1 false (.t 26)⟩,
  ⟨some 28, none, .call (.c (.fn 59 [] [])) [.t 27]⟩,
  ⟨some 29, none, .iaddr 5 (.t 18) (.t 19)⟩,
  ⟨some 30, none, .faddr 2 (.t 29)⟩,
  ⟨none, none, .store 1 (.t 30) (.t 25)⟩,
  ⟨some 31, none, .iaddr 5 (.t 21) (.t 22)⟩,
  ⟨some 32, none, .faddr 3 (.t 31)⟩,
  ⟨none, none, .store 1 (.t 32) (.t 28)⟩]
def c32_a6 : List (List Nat) := [[], [0], [], [], [3], [], [], [6], [7], [], [9], [10, 8], [1, 2, 0, 1, 2, 6, 7, 8, 11], [12, 0, 1, 2, 6, 7, 8, 11], [13, 8, 11, 0, 1, 2, 6, 7, 8, 11], [4, 5, 0, 1, 2, 3, 4, 5, 6, 7, 8, 9, 10, 11, 12, 13, 14], [15, 0, 1, 2, 3, 4, 5, 6, 7, 8, 9, 10, 11, 12, 13, 14], [16, 11, 14, 0, 1, 2, 3, 4, 5, 6, 7, 8, 9, 10, 11, 12, 13, 14]]
abbrev c32_m6 : List Am.Mark := [⟨false, 0, 0⟩, ⟨false, 0, 0⟩, ⟨false, 0, 0⟩, ⟨false, 0, 1⟩, ⟨false, 0, 1⟩, ⟨false, 0, 1⟩, ⟨false, 0, 0⟩, ⟨false, 0, 0⟩, ⟨false, 0, 0⟩, ⟨false, 0, 1⟩, ⟨false, 0, 1⟩, ⟨false, 0, 0⟩, ⟨false, 0, 1⟩, ⟨false, 0, 0⟩, ⟨true, 0, 1⟩, ⟨false, 1, 2⟩, ⟨false, 1, 1⟩, ⟨true, 1, 2⟩]
theorem c32_d6 : drawFine c32_r6 c32_a6 c32_m6 = true := by decide +kernel
abbrev c32_r7 : List Ins := [
  ⟨some 33, none, .bin .add (.t 12) (.c (.int .i64 1))⟩,
  ⟨some 12, none, .mov (.t 33)⟩]
abbrev c32_l8 : IR := .seq (.reg c32_r4) (.seq (.cond (.t 13) (.skip) (.exit 0)) (.seq (.blk 1 (.seq (.reg c32_r5) (.dreg c32_r6 c32_a6))) (.reg c32_r7)))
abbrev c32_r9 : List Ins := [
  ⟨some 34, none, .load 17 true (.t 1)⟩,
  ⟨none, none, .store 17 (.t 2) (.t 34)⟩]
abbrev c32 : IR := .seq (.reg c32_r1) (.seq (.reg c32_r2) (.seq (.seq (.reg c32_r3) (.blk 0 (.loop c32_l8))) (.seq (.reg c32_r9) (.ret))))
abbrev F32 : FnA := ⟨35, c32, [.cell 2 17 true]⟩
theorem ok32 : cFn Tryz.prog 32 = some F32 := by kernel_rfl
theorem hb32 : HasBody Tryz.prog 32 := ⟨_, Tryz.func32, by kernel_rfl, by kernel_rfl⟩
/-! cat.Open$1 -/
abbrev c33_r1 : List Ins := [
  ⟨some 5, none, .mov (.c (.int .i64 0))⟩]
abbrev c33_r2 : List Ins := [
  ⟨some 6, none, .faddr 0 (.t 2)⟩,
  ⟨some 7, none, .load 1 false (.t 6)⟩,
  ⟨some 8, none, .mov (.t 0)⟩,
  ⟨some 9, none, .iaddr 5 (.t 7) (.t 8)⟩,
  ⟨some 10, none, .load 5 true (.t 9)⟩,
  ⟨some 11, none, .call (.c (.fn 34 [] [])) [.t 10]⟩,
  ⟨some 5, none, .mov (.t 11)⟩]
abbrev c33 : IR := .seq (.reg c33_r1) (.seq (.reg c33_r2) (.ret))
abbrev F33 : FnA := ⟨12, c33, [.t 5]⟩
theorem ok33 : cFn Tryz.prog 33 = some F33 := by kernel_rfl
theorem hb33 : HasBody Tryz.prog 33 := ⟨_, Tryz.func33, by kernel_rfl, by kernel_rfl⟩
/-! cat.all -/
abbrev c34_r1 : List Ins := [
  ⟨some 1, none, .box (.t 0)⟩,
  ⟨some 2, none, .mov (.c (.int .i64 0))⟩]
abbrev c34_r2 : List Ins := [
  ⟨some 3, none, .faddr 2 (.t 1)⟩,
  ⟨some 4, none, .load 1 false (.t 3)⟩,
  ⟨some 5, none, .len (.t 4)⟩,
  ⟨some 6, none, .bin .sub (.t 5) (.c (.int .i64 1))⟩,
  ⟨some 7, none, .mx [.t 6, .c (.int .i64 0)]⟩,
  ⟨some 8, none, .bin .shl (.c (.int .i64 1)) (.t 7)⟩,
  ⟨some 9, none, .bin .sub (.t 8) (.c (.int .i64 1))⟩,
  ⟨some 2, none, .mov (.t 9)⟩]
abbrev c34 : IR := .seq (.reg c34_r1) (.seq (.reg c34_r2) (.ret))
abbrev F34 : FnA := ⟨10, c34, [.t 2]⟩
theorem ok34 : cFn Tryz.prog 34 = some F34 := by kernel_rfl
theorem hb34 : HasBody Tryz.prog 34 := ⟨_, Tryz.func34, by kernel_rfl, by kernel_rfl⟩
/-! cat.named -/
abbrev c35_r1 : List Ins := [
  ⟨some 2, none, .mov (.c (.bool false))⟩]
abbrev c35_r2 : List Ins := [
  ⟨some 5, none, .mov (.t 0)⟩,
  ⟨some 6, none, .len (.t 5)⟩,
  ⟨some 7, none, .mov (.c (.int .i64 0))⟩]
abbrev c35_r3 : List Ins := [
  ⟨some 8, none, .bin .lss (.t 7) (.t 6)⟩]
abbrev c35_r4 : List Ins := [
  ⟨some 9, none, .mov (.t 7)⟩,
  ⟨some 10, none, .iaddr 5 (.t 5) (.t 7)⟩,
  ⟨some 11, none, .load 5 true (.t 10)⟩,
  ⟨some 4, none, .alloc [.str ⟨#[]⟩, .int .i64 0, .sl .full [], .sl .full [], .bool false]⟩,
  ⟨some 3, none, .mov (.t 9)⟩,
  ⟨none, none, .store 5 (.t 4) (.t 11)⟩]
abbrev c35_r5 : List Ins := [
  ⟨some 12, none, .load 5 true (.t 4)⟩,
  ⟨some 13, none, .call (.c (.fn 52 [] [])) [.t 12]⟩,
  ⟨some 14, none, .un .not (.t 13)⟩,
  ⟨some 15, none, .mov (.t 14)⟩,
  ⟨some 16, some (15, false), .mov (.t 0)⟩,
  ⟨some 17, some (15, false), .mov (.t 3)⟩,
  ⟨some 18, some (15, false), .slice 5 (.t 16) none (some (.t 17)) none⟩,
  ⟨some 19, some (15, false), .mkfn 61 [] [.t 4]⟩,
  ⟨some 20, some (15, false), .call (.c (.fn 60 [] [])) [.t 18, .t 19]⟩,
  ⟨some 21, none, .pick (.t 15) (.c (.bool true)) (.t 20)⟩]
abbrev c35_r6 : List Ins := [
  ⟨some 2, none, .mov (.c (.bool false))⟩]
abbrev c35_r7 : List Ins := [
  ⟨some 22, none, .bin .add (.t 7) (.c (.int .i64 1))⟩,
  ⟨some 7, none, .mov (.t 22)⟩]
abbrev c35_l8 : IR := .seq (.reg c35_r3) (.seq (.cond (.t 8) (.skip) (.exit 0)) (.seq (.blk 1 (.seq (.reg c35_r4) (.seq (.reg c35_r5) (.cond (.t 21) (.seq (.reg c35_r6) (.ret)) (.skip))))) (.reg c35_r7)))
abbrev c35_r9 : List Ins := [
  ⟨some 2, none, .mov (.c (.bool true))⟩]
abbrev c35 : IR := .seq (.reg c35_r1) (.seq (.seq (.reg c35_r2) (.blk 0 (.loop c35_l8))) (.seq (.reg c35_r9) (.ret)))
abbrev F35 : FnA := ⟨23, c35, [.t 2]⟩
theorem ok35 : cFn Tryz.prog 35 = some F35 := by kernel_rfl
theorem hb35 : HasBody Tryz.prog 35 := ⟨_, Tryz.func35, by kernel_rfl, by kernel_rfl⟩
/-! cat.May$1 -/
abbrev c36_r1 : List Ins := [
  ⟨some 5, none, .mov (.c (.int .i64 0))⟩]
abbrev c36_r2 : List Ins := [
  ⟨some 6, none, .mov (.t 0)⟩,
  ⟨some 7, none, .mov (.t 1)⟩,
  ⟨some 8, none, .faddr 1 (.t 2)⟩,
  ⟨some 9, none, .iaddrA 4 4 (.t 8) (.t 6)⟩,
  ⟨some 10, none, .iaddrA 4 1 (.t 9) (.t 7)⟩,
  ⟨some 11, none, .load 1 false (.t 10)⟩,
  ⟨some 12, none, .faddr 0 (.t 2)⟩,
  ⟨some 13, none, .load 1 false (.t 12)⟩,
  ⟨some 14, none, .mov (.t 0)⟩,
  ⟨some 15, none, .iaddr 5 (.t 13) (.t 14)⟩,
  ⟨some 16, none, .load 5 true (.t 15)⟩,
  ⟨some 17, none, .call (.c (.fn 34 [] [])) [.t 16]⟩,
  ⟨some 18, none, .bin .and (.t 11) (.t 17)⟩,
  ⟨some 5, none, .mov (.t 18)⟩]
def c36_a2 : List (List Nat) := [[], [], [], [2, 0], [3, 1], [4], [], [6], [], [7, 8], [9], [10], [5, 11], [12, 11, 0, 1, 2, 3, 4, 5, 6, 7, 8, 9, 10, 11, 12]]
abbrev c36_m2 : List Am.Mark := [⟨false, 0, 0⟩, ⟨false, 0, 0⟩, ⟨false, 0, 0⟩, ⟨false, 0, 0⟩, ⟨false, 0, 0⟩, ⟨false, 0, 0⟩, ⟨false, 0, 0⟩, ⟨false, 0, 0⟩, ⟨false, 0, 0⟩, ⟨false, 0, 0⟩, ⟨false, 0, 0⟩, ⟨false, 0, 0⟩, ⟨false, 0, 0⟩, ⟨false, 0, 0⟩]
theorem c36_d2 : drawFine c36_r2 c36_a2 c36_m2 = true := by decide +kernel
abbrev c36 : IR := .seq (.reg c36_r1) (.seq (.dreg c36_r2 c36_a2) (.ret))
abbrev F36 : FnA := ⟨19, c36, [.t 5]⟩
theorem ok36 : cFn Tryz.prog 36 = some F36 := by kernel_rfl
theorem hb36 : HasBody Tryz.prog 36 := ⟨_, Tryz.func36, by kernel_rfl, by kernel_rfl⟩
/-! math/bits.OnesCount -/
abbrev c37_r1 : List Ins := [
  ⟨some 2, none, .mov (.c (.int .i64 0))⟩]
abbrev c37_r2 : List Ins := [
  ⟨some 3, none, .mov (.t 0)⟩,
  ⟨some 4, none, .conv .u32 (.t 3)⟩,
  ⟨some 5, none, .call (.c (.fn 62 [] [])) [.t 4]⟩,
  ⟨some 2, none, .mov (.t 5)⟩]
abbrev c37_r3 : List Ins := [
  ⟨some 6, none, .mov (.t 0)⟩,
  ⟨some 7, none, .call (.c (.fn 63 [] [])) [.t 6]⟩,
  ⟨some 2, none, .mov (.t 7)⟩]
abbrev c37 : IR := .seq (.reg c37_r1) (.seq (.cond (.c (.bool false)) (.seq (.reg c37_r2) (.ret)) (.skip)) (.seq (.reg c37_r3) (.ret)))
abbrev F37 : FnA := ⟨8, c37, [.t 2]⟩
theorem ok37 : cFn Tryz.prog 37 = some F37 := by kernel_rfl
theorem hb37 : HasBody Tryz.prog 37 := ⟨_, Tryz.func37, by kernel_rfl, by kernel_rfl⟩
/-! cat.Break$1 -/
abbrev c38_r1 : List Ins := [
  ⟨some 3, none, .mov (.c (.bool false))⟩]
abbrev c38_r2 : List Ins := [
  ⟨some 4, none, .mov (.t 0)⟩,
  ⟨some 5, none, .bin .geq (.t 4) (.c (.int .i64 0))⟩,
  ⟨some 6, none, .mov (.t 5)⟩,
  ⟨some 7, some (6, true), .mov (.t 0)⟩,
  ⟨some 8, some (6, true), .faddr 0 (.t 1)⟩,
  ⟨some 9, some (6, true), .load 1 false (.t 8)⟩,
  ⟨some 10, some (6, true), .len (.t 9)⟩,
  ⟨some 11, some (6, true), .mn [.t 10, .c (.int .i64 4)]⟩,
  ⟨some 12, some (6, true), .bin .lss (.t 7) (.t 11)⟩,
  ⟨some 13, none, .pick (.t 6) (.t 12) (.c (.bool false))⟩,
  ⟨some 3, none, .mov (.t 13)⟩]
abbrev c38 : IR := .seq (.reg c38_r1) (.seq (.reg c38_r2) (.ret))
abbrev F38 : FnA := ⟨14, c38, [.t 3]⟩
theorem ok38 : cFn Tryz.prog 38 = some F38 := by kernel_rfl
theorem hb38 : HasBody Tryz.prog 38 := ⟨_, Tryz.func38, by kernel_rfl, by kernel_rfl⟩
/-! ref09.May -/
abbrev c39_r1 : List Ins := [
  ⟨some 4, none, .mov (.c (.bool false))⟩]
abbrev c39_r2 : List Ins := [
  ⟨some 6, none, .mov (.t 1)⟩,
  ⟨some 7, none, .bin .lss (.t 6) (.c (.int .i64 0))⟩,
  ⟨some 8, none, .mov (.t 7)⟩,
  ⟨some 9, some (8, false), .mov (.t 1)⟩,
  ⟨some 10, some (8, false), .bin .gtr (.t 9) (.c (.int .i64 3))⟩,
  ⟨some 11, none, .pick (.t 8) (.c (.bool true)) (.t 10)⟩,
  ⟨some 12, none, .mov (.t 11)⟩,
  ⟨some 13, some (12, false), .mov (.t 0)⟩,
  ⟨some 14, some (12, false), .len (.t 13)⟩,
  ⟨some 15, some (12, false), .bin .lss (.t 14) (.c (.int .i64 1))⟩,
  ⟨some 16, none, .pick (.t 12) (.c (.bool true)) (.t 15)⟩,
  ⟨some 17, none, .mov (.t 16)⟩,
  ⟨some 18, some (17, false), .mov (.t 0)⟩,
  ⟨some 19, some (17, false), .len (.t 18)⟩,
  ⟨some 20, some (17, false), .bin .gtr (.t 19) (.c (.int .i64 8))⟩,
  ⟨some 21, none, .pick (.t 17) (.c (.bool true)) (.t 20)⟩]
abbrev c39_r3 : List Ins := [
  ⟨some 4, none, .mov (.c (.bool false))⟩]
abbrev c39_r4 : List Ins := [
  ⟨some 5, none, .mov (.c (.int .i64 0))⟩]
abbrev c39_r5 : List Ins := [
  ⟨some 22, none, .mov (.t 5)⟩,
  ⟨some 23, none, .mov (.t 0)⟩,
  ⟨some 24, none, .len (.t 23)⟩,
  ⟨some 25, none, .bin .lss (.t 22) (.t 24)⟩]
abbrev c39_r6 : List Ins := [
  ⟨some 28, none, .mov (.t 0)⟩,
  ⟨some 29, none, .mov (.t 5)⟩,
  ⟨some 30, none, .iaddr 9 (.t 28) (.t 29)⟩,
  ⟨some 31, none, .load 9 true (.t 30)⟩,
  ⟨some 32, none, .mov (.t 1)⟩,
  ⟨some 33, none, .call (.c (.fn 64 [] [])) [.t 31, .t 32]⟩,
  ⟨some 34, none, .un .not (.t 33)⟩]
abbrev c39_r7 : List Ins := [
  ⟨some 4, none, .mov (.c (.bool false))⟩]
abbrev c39_r8 : List Ins := [
  ⟨some 26, none, .mov (.t 5)⟩,
  ⟨some 27, none, .bin .add (.t 26) (.c (.int .i64 1))⟩,
  ⟨some 5, none, .mov (.t 27)⟩]
abbrev c39_l9 : IR := .seq (.seq (.reg c39_r5) (.cond (.t 25) (.skip) (.exit 0))) (.seq (.blk 1 (.seq (.reg c39_r6) (.cond (.t 34) (.seq (.reg c39_r7) (.ret)) (.skip)))) (.reg c39_r8))
abbrev c39_r10 : List Ins := [
  ⟨some 4, none, .mov (.c (.bool true))⟩]
abbrev c39 : IR := .seq (.reg c39_r1) (.seq (.seq (.reg c39_r2) (.cond (.t 21) (.seq (.reg c39_r3) (.ret)) (.skip))) (.seq (.seq (.reg c39_r4) (.blk 0 (.loop c39_l9))) (.seq (.reg c39_r10) (.ret))))
abbrev F39 : FnA := ⟨35, c39, [.t 4]⟩
theorem ok39 : cFn Tryz.prog 39 = some F39 := by kernel_rfl
theorem hb39 : HasBody Tryz.prog 39 := ⟨_, Tryz.func39, by kernel_rfl, by kernel_rfl⟩
/-! ref10.May -/
abbrev c40_r1 : List Ins := [
  ⟨some 4, none, .mov (.c (.bool false))⟩]
abbrev c40_r2 : List Ins := [
  ⟨some 6, none, .mov (.t 1)⟩,
  ⟨some 7, none, .bin .lss (.t 6) (.c (.int .i64 0))⟩,
  ⟨some 8, none, .mov (.t 7)⟩,
  ⟨some 9, some (8, false), .mov (.t 1)⟩,
  ⟨some 10, some (8, false), .bin .gtr (.t 9) (.c (.int .i64 3))⟩,
  ⟨some 11, none, .pick (.t 8) (.c (.bool true)) (.t 10)⟩,
  ⟨some 12, none, .mov (.t 11)⟩,
  ⟨some 13, some (12, false), .mov (.t 0)⟩,
  ⟨some 14, some (12, false), .len (.t 13)⟩,
  ⟨some 15, some (12, false), .bin .gtr (.t 14) (.c (.int .i64 4))⟩,
  ⟨some 16, none, .pick (.t 12) (.c (.bool true)) (.t 15)⟩]
abbrev c40_r3 : List Ins := [
  ⟨some 4, none, .mov (.c (.bool false))⟩]
abbrev c40_r4 : List Ins := [
  ⟨some 5, none, .mov (.c (.int .i64 0))⟩]
abbrev c40_r5 : List Ins := [
  ⟨some 17, none, .mov (.t 5)⟩,
  ⟨some 18, none, .mov (.t 0)⟩,
  ⟨some 19, none, .len (.t 18)⟩,
  ⟨some 20, none, .bin .lss (.t 17) (.t 19)⟩]
abbrev c40_r6 : List Ins := [
  ⟨some 23, none, .mov (.t 0)⟩,
  ⟨some 24, none, .mov (.t 5)⟩,
  ⟨some 25, none, .iaddr 5 (.t 23) (.t 24)⟩,
  ⟨some 26, none, .faddr 0 (.t 25)⟩,
  ⟨some 27, none, .load 2 true (.t 26)⟩,
  ⟨some 28, none, .mov (.t 1)⟩,
  ⟨some 29, none, .call (.c (.fn 65 [] [])) [.t 27, .t 28]⟩,
  ⟨some 30, none, .un .not (.t 29)⟩,
  ⟨some 31, none, .mov (.t 30)⟩,
  ⟨some 32, some (31, false), .mov (.t 0)⟩,
  ⟨some 33, some (31, false), .mov (.t 5)⟩,
  ⟨some 34, some (31, false), .iaddr 5 (.t 32) (.t 33)⟩,
  ⟨some 35, some (31, false), .faddr 2 (.t 34)⟩,
  ⟨some 36, some (31, false), .load 2 true (.t 35)⟩,
  ⟨some 37, some (31, false), .mov (.t 1)⟩,
  ⟨some 38, some (31, false), .call (.c (.fn 65 [] [])) [.t 36, .t 37]⟩,
  ⟨some 39, some (31, false), .un .not (.t 38)⟩,
  ⟨some 40, none, .pick (.t 31) (.c (.bool true)) (.t 39)⟩]
abbrev c40_r7 : List Ins := [
  ⟨some 4, none, .mov (.c (.bool false))⟩]
abbrev c40_r8 : List Ins := [
  ⟨some 21, none, .mov (.t 5)⟩,
  ⟨some 22, none, .bin .add (.t 21) (.c (.int .i64 1))⟩,
  ⟨some 5, none, .mov (.t 22)⟩]
abbrev c40_l9 : IR := .seq (.seq (.reg c40_r5) (.cond (.t 20) (.skip) (.exit 0))) (.seq (.blk 1 (.seq (.reg c40_r6) (.cond (.t 40) (.seq (.reg c40_r7) (.ret)) (.skip)))) (.reg c40_r8))
abbrev c40_r10 : List Ins := [
  ⟨some 4, none, .mov (.c (.bool true))⟩]
abbrev c40 : IR := .seq (.reg c40_r1) (.seq (.seq (.reg c40_r2) (.cond (.t 16) (.seq (.reg c40_r3) (.ret)) (.skip))) (.seq (.seq (.reg c40_r4) (.blk 0 (.loop c40_l9))) (.seq (.reg c40_r10) (.ret))))
abbrev F40 : FnA := ⟨41, c40, [.t 4]⟩
theorem ok40 : cFn Tryz.prog 40 = some F40 := by kernel_rfl
theorem hb40 : HasBody Tryz.prog 40 := ⟨_, Tryz.func40, by kernel_rfl, by kernel_rfl⟩
/-! codes.Writer.put -/
abbrev c41_r1 : List Ins := [
  ⟨some 4, none, .mov (.t 0)⟩,
  ⟨some 5, none, .mov (.t 0)⟩,
  ⟨some 6, none, .nilck (.t 5)⟩,
  ⟨some 7, none, .faddr 0 (.t 6)⟩,
  ⟨some 8, none, .load 1 false (.t 7)⟩,
  ⟨some 9, none, .mov (.t 1)⟩,
  ⟨some 10, none, .append 1 8 (.t 8) (.t 9)⟩,
  ⟨some 11, none, .nilck (.t 4)⟩,
  ⟨some 12, none, .faddr 0 (.t 11)⟩,
  ⟨none, none, .store 1 (.t 12) (.t 10)⟩]
abbrev c41 : IR := .reg c41_r1
abbrev F41 : FnA := ⟨13, c41, []⟩
theorem ok41 : cFn Tryz.prog 41 = some F41 := by kernel_rfl
theorem hb41 : HasBody Tryz.prog 41 := ⟨_, Tryz.func41, by kernel_rfl, by kernel_rfl⟩
/-! codes.Writer.Text -/
abbrev c42_r1 : List Ins := [
  ⟨some 4, none, .mov (.t 1)⟩,
  ⟨some 5, none, .mov (.t 1)⟩,
  ⟨some 6, none, .lenS (.t 5)⟩,
  ⟨some 7, none, .mn [.t 6, .c (.int .i64 64)]⟩,
  ⟨some 8, none, .sliceS (.t 4) none (some (.t 7))⟩,
  ⟨some 1, none, .mov (.t 8)⟩]
abbrev c42_r2 : List Ins := [
  ⟨some 9, none, .mov (.t 0)⟩,
  ⟨some 10, none, .mov (.t 1)⟩,
  ⟨some 11, none, .lenS (.t 10)⟩,
  ⟨some 12, none, .call (.c (.fn 20 [] [])) [.t 9, .t 11]⟩]
abbrev c42_r3 : List Ins := [
  ⟨some 13, none, .mov (.t 0)⟩,
  ⟨some 14, none, .mov (.t 1)⟩,
  ⟨some 15, none, .call (.c (.fn 66 [] [])) [.t 14]⟩,
  ⟨some 16, none, .call (.c (.fn 41 [] [])) [.t 13, .t 15]⟩]
abbrev c42 : IR := .seq (.reg c42_r1) (.seq (.reg c42_r2) (.reg c42_r3))
abbrev F42 : FnA := ⟨17, c42, []⟩
theorem ok42 : cFn Tryz.prog 42 = some F42 := by kernel_rfl
theorem hb42 : HasBody Tryz.prog 42 := ⟨_, Tryz.func42, by kernel_rfl, by kernel_rfl⟩
/-! class.each -/
abbrev c43_r1 : List Ins := [
  ⟨some 1, none, .box (.t 0)⟩,
  ⟨some 2, none, .mov (.c .nilfn)⟩]
abbrev c43_r2 : List Ins := [
  ⟨some 3, none, .mkfn 67 [] [.t 1]⟩,
  ⟨some 2, none, .mov (.t 3)⟩]
abbrev c43 : IR := .seq (.reg c43_r1) (.seq (.reg c43_r2) (.ret))
abbrev F43 : FnA := ⟨4, c43, [.t 2]⟩
theorem ok43 : cFn Tryz.prog 43 = some F43 := by kernel_rfl
theorem hb43 : HasBody Tryz.prog 43 := ⟨_, Tryz.func43, by kernel_rfl, by kernel_rfl⟩
/-! class.put -/
abbrev c44_r1 : List Ins := [
  ⟨some 6, none, .mov (.t 1)⟩,
  ⟨some 7, none, .len (.t 6)⟩,
  ⟨some 8, none, .mov (.c (.int .i64 0))⟩]
abbrev c44_r2 : List Ins := [
  ⟨some 9, none, .bin .lss (.t 8) (.t 7)⟩]
abbrev c44_r3 : List Ins := [
  ⟨some 10, none, .iaddr 2 (.t 6) (.t 8)⟩,
  ⟨some 11, none, .load 2 true (.t 10)⟩,
  ⟨some 5, none, .alloc [.sl .full [], .sl .full []]⟩,
  ⟨none, none, .store 2 (.t 5) (.t 11)⟩]
abbrev c44_r4 : List Ins := [
  ⟨some 12, none, .mov (.t 0)⟩,
  ⟨some 13, none, .faddr 0 (.t 5)⟩,
  ⟨some 14, none, .load 1 false (.t 13)⟩,
  ⟨some 15, none, .call (.c (.fn 68 [] [])) [.t 12, .t 14]⟩]
abbrev c44_r5 : List Ins := [
  ⟨some 16, none, .mov (.t 0)⟩,
  ⟨some 17, none, .faddr 1 (.t 5)⟩,
  ⟨some 18, none, .load 1 false (.t 17)⟩,
  ⟨some 19, none, .call (.c (.fn 69 [] [])) [.t 16, .t 18]⟩]
abbrev c44_r6 : List Ins := [
  ⟨some 20, none, .bin .add (.t 8) (.c (.int .i64 1))⟩,
  ⟨some 8, none, .mov (.t 20)⟩]
abbrev c44_l7 : IR := .seq (.reg c44_r2) (.seq (.cond (.t 9) (.skip) (.exit 0)) (.seq (.blk 1 (.seq (.reg c44_r3) (.seq (.reg c44_r4) (.reg c44_r5)))) (.reg c44_r6)))
abbrev c44 : IR := .seq (.reg c44_r1) (.blk 0 (.loop c44_l7))
abbrev F44 : FnA := ⟨21, c44, []⟩
theorem ok44 : cFn Tryz.prog 44 = some F44 := by kernel_rfl
theorem hb44 : HasBody Tryz.prog 44 := ⟨_, Tryz.func44, by kernel_rfl, by kernel_rfl⟩
/-! codes.Writer.Flag -/
abbrev c45_r1 : List Ins := [
  ⟨some 4, none, .mov (.t 1)⟩]
abbrev c45_r2 : List Ins := [
  ⟨some 5, none, .mov (.t 0)⟩,
  ⟨some 6, none, .bsl 1 1 [.int .u64 0] [(0, .c (.int .u64 1))]⟩,
  ⟨some 7, none, .call (.c (.fn 41 [] [])) [.t 5, .t 6]⟩]
abbrev c45_r3 : List Ins := [
  ⟨some 8, none, .mov (.t 0)⟩,
  ⟨some 9, none, .bsl 1 1 [.int .u64 0] [(0, .c (.int .u64 0))]⟩,
  ⟨some 10, none, .call (.c (.fn 41 [] [])) [.t 8, .t 9]⟩]
abbrev c45 : IR := .seq (.seq (.reg c45_r1) (.cond (.t 4) (.seq (.reg c45_r2) (.ret)) (.skip))) (.reg c45_r3)
abbrev F45 : FnA := ⟨11, c45, []⟩
theorem ok45 : cFn Tryz.prog 45 = some F45 := by kernel_rfl
theorem hb45 : HasBody Tryz.prog 45 := ⟨_, Tryz.func45, by kernel_rfl, by kernel_rfl⟩
/-! cat.pairs$1 -/
abbrev c46_r1 : List Ins := [
  ⟨some 6, none, .faddr 0 (.t 1)⟩,
  ⟨some 7, none, .load 1 false (.t 6)⟩,
  ⟨some 8, none, .len (.t 7)⟩,
  ⟨some 9, none, .mn [.t 8, .c (.int .i64 4)]⟩,
  ⟨some 3, none, .mov (.t 9)⟩]
abbrev c46_r2 : List Ins := [
  ⟨some 10, none, .mov (.t 3)⟩,
  ⟨some 11, none, .mov (.c (.int .i64 0))⟩]
abbrev c46_r3 : List Ins := [
  ⟨some 12, none, .bin .lss (.t 11) (.t 10)⟩]
abbrev c46_r4 : List Ins := [
  ⟨some 13, none, .mov (.t 11)⟩,
  ⟨some 4, none, .mov (.t 13)⟩]
abbrev c46_r5 : List Ins := [
  ⟨some 14, none, .mov (.t 3)⟩,
  ⟨some 15, none, .mov (.c (.int .i64 0))⟩]
abbrev c46_r6 : List Ins := [
  ⟨some 16, none, .bin .lss (.t 15) (.t 14)⟩]
abbrev c46_r7 : List Ins := [
  ⟨some 17, none, .mov (.t 15)⟩,
  ⟨some 5, none, .mov (.t 17)⟩]
abbrev c46_r8 : List Ins := [
  ⟨some 18, none, .mov (.t 0)⟩,
  ⟨some 19, none, .mov (.t 4)⟩,
  ⟨some 20, none, .mov (.t 5)⟩,
  ⟨some 21, none, .call (.t 18) [.t 19, .t 20]⟩,
  ⟨some 22, none, .un .not (.t 21)⟩]
abbrev c46_r9 : List Ins := [
  ⟨some 23, none, .bin .add (.t 15) (.c (.int .i64 1))⟩,
  ⟨some 15, none, .mov (.t 23)⟩]
abbrev c46_l10 : IR := .seq (.reg c46_r6) (.seq (.cond (.t 16) (.skip) (.exit 2)) (.seq (.blk 3 (.seq (.reg c46_r7) (.seq (.reg c46_r8) (.cond (.t 22) (.ret) (.skip))))) (.reg c46_r9)))
abbrev c46_r11 : List Ins := [
  ⟨some 24, none, .bin .add (.t 11) (.c (.int .i64 1))⟩,
  ⟨some 11, none, .mov (.t 24)⟩]
abbrev c46_l12 : IR := .seq (.reg c46_r3) (.seq (.cond (.t 12) (.skip) (.exit 0)) (.seq (.blk 1 (.seq (.reg c46_r4) (.seq (.reg c46_r5) (.blk 2 (.loop c46_l10))))) (.reg c46_r11)))
abbrev c46 : IR := .seq (.reg c46_r1) (.seq (.reg c46_r2) (.blk 0 (.loop c46_l12)))
abbrev F46 : FnA := ⟨25, c46, []⟩
theorem ok46 : cFn Tryz.prog 46 = some F46 := by kernel_rfl
theorem hb46 : HasBody Tryz.prog 46 := ⟨_, Tryz.func46, by kernel_rfl, by kernel_rfl⟩
/-! codes.Reader.next -/
abbrev c47_r1 : List Ins := [
  ⟨some 4, none, .mov (.c (.int .u64 0))⟩]
abbrev c47_r2 : List Ins := [
  ⟨some 6, none, .mov (.t 0)⟩,
  ⟨some 7, none, .nilck (.t 6)⟩,
  ⟨some 8, none, .faddr 1 (.t 7)⟩,
  ⟨some 9, none, .load 1 false (.t 8)⟩,
  ⟨some 10, none, .mov (.t 9)⟩,
  ⟨some 11, some (10, false), .mov (.t 0)⟩,
  ⟨some 12, some (10, false), .nilck (.t 11)⟩,
  ⟨some 13, some (10, false), .faddr 0 (.t 12)⟩,
  ⟨some 14, some (10, false), .load 1 false (.t 13)⟩,
  ⟨some 15, some (10, false), .len (.t 14)⟩,
  ⟨some 16, some (10, false), .bin .eql (.t 15) (.c (.int .i64 0))⟩,
  ⟨some 17, none, .pick (.t 10) (.c (.bool true)) (.t 16)⟩,
  ⟨some 18, none, .mov (.t 17)⟩,
  ⟨some 19, some (18, false), .mov (.t 1)⟩,
  ⟨some 20, some (18, false), .mov (.t 0)⟩,
  ⟨some 21, some (18, false), .nilck (.t 20)⟩,
  ⟨some 22, some (18, false), .faddr 0 (.t 21)⟩,
  ⟨some 23, some (18, false), .load 1 false (.t 22)⟩,
  ⟨some 24, some (18, false), .iaddr 1 (.t 23) (.c (.int .i64 0))⟩,
  ⟨some 25, some (18, false), .load 1 false (.t 24)⟩,
  ⟨some 26, some (18, false), .call (.t 19) [.t 25]⟩,
  ⟨some 27, some (18, false), .un .not (.t 26)⟩,
  ⟨some 28, none, .pick (.t 18) (.c (.bool true)) (.t 27)⟩]
abbrev c47_r3 : List Ins := [
  ⟨some 29, none, .mov (.t 0)⟩,
  ⟨some 30, none, .nilck (.t 29)⟩,
  ⟨some 31, none, .faddr 1 (.t 30)⟩,
  ⟨none, none, .store 1 (.t 31) (.c (.bool true))⟩]
abbrev c47_r4 : List Ins := [
  ⟨some 4, none, .mov (.c (.int .u64 0))⟩]
abbrev c47_r5 : List Ins := [
  ⟨some 32, none, .mov (.t 0)⟩,
  ⟨some 33, none, .nilck (.t 32)⟩,
  ⟨some 34, none, .faddr 0 (.t 33)⟩,
  ⟨some 35, none, .load 1 false (.t 34)⟩,
  ⟨some 36, none, .iaddr 1 (.t 35) (.c (.int .i64 0))⟩,
  ⟨some 37, none, .load 1 false (.t 36)⟩,
  ⟨some 5, none, .mov (.t 37)⟩]
abbrev c47_r6 : List Ins := [
  ⟨some 38, none, .mov (.t 0)⟩,
  ⟨some 39, none, .mov (.t 0)⟩,
  ⟨some 40, none, .nilck (.t 39)⟩,
  ⟨some 41, none, .faddr 0 (.t 40)⟩,
  ⟨some 42, none, .load 1 false (.t 41)⟩,
  ⟨some 43, none, .slice 1 (.t 42) (some (.c (.int .i64 1))) none none⟩,
  ⟨some 44, none, .nilck (.t 38)⟩,
  ⟨some 45, none, .faddr 0 (.t 44)⟩,
  ⟨none, none, .store 1 (.t 45) (.t 43)⟩]
abbrev c47_r7 : List Ins := [
  ⟨some 46, none, .mov (.t 5)⟩,
  ⟨some 4, none, .mov (.t 46)⟩]
abbrev c47 : IR := .seq (.reg c47_r1) (.seq (.seq (.reg c47_r2) (.cond (.t 28) (.seq (.reg c47_r3) (.seq (.reg c47_r4) (.ret))) (.skip))) (.seq (.reg c47_r5) (.seq (.reg c47_r6) (.seq (.reg c47_r7) (.ret)))))
abbrev F47 : FnA := ⟨47, c47, [.t 4]⟩
theorem ok47 : cFn Tryz.prog 47 = some F47 := by kernel_rfl
theorem hb47 : HasBody Tryz.prog 47 := ⟨_, Tryz.func47, by kernel_rfl, by kernel_rfl⟩
/-! codes.Reader.Count$1 -/
abbrev c48_r1 : List Ins := [
  ⟨some 3, none, .mov (.c (.bool false))⟩]
abbrev c48_r2 : List Ins := [
  ⟨some 4, none, .load 1 false (.t 1)⟩,
  ⟨some 5, none, .bin .geq (.t 4) (.c (.int .i64 0))⟩,
  ⟨some 6, none, .mov (.t 5)⟩,
  ⟨some 7, some (6, true), .mov (.t 0)⟩,
  ⟨some 8, some (6, true), .load 1 false (.t 1)⟩,
  ⟨some 9, some (6, true), .conv .u64 (.t 8)⟩,
  ⟨some 10, some (6, true), .bin .leq (.t 7) (.t 9)⟩,
  ⟨some 11, none, .pick (.t 6) (.t 10) (.c (.bool false))⟩,
  ⟨some 3, none, .mov (.t 11)⟩]
abbrev c48 : IR := .seq (.reg c48_r1) (.seq (.reg c48_r2) (.ret))
abbrev F48 : FnA := ⟨12, c48, [.t 3]⟩
theorem ok48 : cFn Tryz.prog 48 = some F48 := by kernel_rfl
theorem hb48 : HasBody Tryz.prog 48 := ⟨_, Tryz.func48, by kernel_rfl, by kernel_rfl⟩
/-! codes.Reader.Text -/
abbrev c49_r1 : List Ins := [
  ⟨some 2, none, .mov (.c (.str ⟨#[]⟩))⟩]
abbrev c49_r2 : List Ins := [
  ⟨some 7, none, .mov (.t 0)⟩,
  ⟨some 8, none, .call (.c (.fn 24 [] [])) [.t 7, .c (.int .i64 64)]⟩,
  ⟨some 3, none, .mov (.t 8)⟩]
abbrev c49_r3 : List Ins := [
  ⟨some 9, none, .mov (.t 0)⟩,
  ⟨some 10, none, .mov (.t 3)⟩,
  ⟨some 11, none, .bin .add (.t 10) (.c (.int .i64 8))⟩,
  ⟨some 12, none, .bin .sub (.t 11) (.c (.int .i64 1))⟩,
  ⟨some 13, none, .bin .quo (.t 12) (.c (.int .i64 8))⟩,
  ⟨some 14, none, .call (.c (.fn 70 [] [])) [.t 9, .t 13]⟩,
  ⟨some 4, none, .mov (.t 14)⟩]
abbrev c49_r4 : List Ins := [
  ⟨some 15, none, .mov (.t 0)⟩,
  ⟨some 16, none, .nilck (.t 15)⟩,
  ⟨some 17, none, .faddr 1 (.t 16)⟩,
  ⟨some 18, none, .load 1 false (.t 17)⟩]
abbrev c49_r5 : List Ins := [
  ⟨some 2, none, .mov (.c (.str ⟨#[]⟩))⟩]
abbrev c49_r6 : List Ins := [
  ⟨some 5, none, .mov (.c (.sl .full []))⟩]
abbrev c49_r7 : List Ins := [
  ⟨some 19, none, .mov (.t 3)⟩,
  ⟨some 20, none, .mov (.c (.int .i64 0))⟩]
abbrev c49_r8 : List Ins := [
  ⟨some 21, none, .bin .lss (.t 20) (.t 19)⟩]
abbrev c49_r9 : List Ins := [
  ⟨some 22, none, .mov (.t 20)⟩,
  ⟨some 6, none, .mov (.t 22)⟩]
abbrev c49_r10 : List Ins := [
  ⟨some 23, none, .mov (.t 5)⟩,
  ⟨some 24, none, .mov (.t 4)⟩,
  ⟨some 25, none, .mov (.t 6)⟩,
  ⟨some 26, none, .bin .quo (.t 25) (.c (.int .i64 8))⟩,
  ⟨some 27, none, .iaddr 1 (.t 24) (.t 26)⟩,
  ⟨some 28, none, .load 1 false (.t 27)⟩,
  ⟨some 29, none, .mov (.t 6)⟩,
  ⟨some 30, none, .bin .rem (.t 29) (.c (.int .i64 8))⟩,
  ⟨some 31, none, .bin .mul (.c (.int .i64 8)) (.t 30)⟩,
  ⟨some 32, none, .bin .shr (.t 28) (.t 31)⟩,
  ⟨some 33, none, .conv .u8 (.t 32)⟩,
  ⟨some 34, none, .bsl 1 1 [.int .u8 0] [(0, .t 33)]⟩,
  ⟨some 35, none, .append 1 1 (.t 23) (.t 34)⟩,
  ⟨some 5, none, .mov (.t 35)⟩]
abbrev c49_r11 : List Ins := [
  ⟨some 36, none, .bin .add (.t 20) (.c (.int .i64 1))⟩,
  ⟨some 20, none, .mov (.t 36)⟩]
abbrev c49_l12 : IR := .seq (.reg c49_r8) (.seq (.cond (.t 21) (.skip) (.exit 0)) (.seq (.blk 1 (.seq (.reg c49_r9) (.reg c49_r10))) (.reg c49_r11)))
abbrev c49_r13 : List Ins := [
  ⟨some 37, none, .mov (.t 5)⟩,
  ⟨some 38, none, .b2s (.t 37)⟩,
  ⟨some 39, none, .call (.c (.fn 66 [] [])) [.t 38]⟩,
  ⟨some 40, none, .mov (.t 4)⟩,
  ⟨some 41, none, .call (.c (.fn 71 [] [])) [.t 39, .t 40]⟩,
  ⟨some 42, none, .un .not (.t 41)⟩]
abbrev c49_r14 : List Ins := [
  ⟨some 43, none, .mov (.t 0)⟩,
  ⟨some 44, none, .nilck (.t 43)⟩,
  ⟨some 45, none, .faddr 1 (.t 44)⟩,
  ⟨none, none, .store 1 (.t 45) (.c (.bool true))⟩]
abbrev c49_r15 : List Ins := [
  ⟨some 2, none, .mov (.c (.str ⟨#[]⟩))⟩]
abbrev c49_r16 : List Ins := [
  ⟨some 46, none, .mov (.t 5)⟩,
  ⟨some 47, none, .b2s (.t 46)⟩,
  ⟨some 2, none, .mov (.t 47)⟩]
abbrev c49 : IR := .seq (.reg c49_r1) (.seq (.reg c49_r2) (.seq (.reg c49_r3) (.seq (.seq (.reg c49_r4) (.cond (.t 18) (.seq (.reg c49_r5) (.ret)) (.skip))) (.seq (.reg c49_r6) (.seq (.seq (.reg c49_r7) (.blk 0 (.loop c49_l12))) (.seq (.seq (.reg c49_r13) (.cond (.t 42) (.seq (.reg c49_r14) (.seq (.reg c49_r15) (.ret))) (.skip))) (.seq (.reg c49_r16) (.ret))))))))
abbrev F49 : FnA := ⟨48, c49, [.t 2]⟩
theorem ok49 : cFn Tryz.prog 49 = some F49 := by kernel_rfl
theorem hb49 : HasBody Tryz.prog 49 := ⟨_, Tryz.func49, by kernel_rfl, by kernel_rfl⟩
/-! class.step -/
abbrev c50_r1 : List Ins := [
  ⟨some 2, none, .alloc [.sl .full [], .sl .full []]⟩]
abbrev c50_r2 : List Ins := [
  ⟨some 4, none, .mov (.t 0)⟩,
  ⟨some 5, none, .call (.c (.fn 72 [] [])) [.t 4]⟩,
  ⟨some 3, none, .mov (.t 5)⟩]
abbrev c50_r3 : List Ins := [
  ⟨some 6, none, .mov (.t 3)⟩,
  ⟨some 7, none, .mov (.t 0)⟩,
  ⟨some 8, none, .call (.c (.fn 73 [] [])) [.t 7]⟩,
  ⟨some 9, none, .build [.sl .full [], .sl .full []] [(0, (1, .t 6)), (1, (1, .t 8))]⟩,
  ⟨none, none, .store 2 (.t 2) (.t 9)⟩]
abbrev c50 : IR := .seq (.reg c50_r1) (.seq (.reg c50_r2) (.seq (.reg c50_r3) (.ret)))
abbrev F50 : FnA := ⟨10, c50, [.cell 2 2 true]⟩
theorem ok50 : cFn Tryz.prog 50 = some F50 := by kernel_rfl
theorem hb50 : HasBody Tryz.prog 50 := ⟨_, Tryz.func50, by kernel_rfl, by kernel_rfl⟩
/-! codes.Reader.Flag -/
abbrev c51_r1 : List Ins := [
  ⟨some 2, none, .mov (.c (.bool false))⟩]
abbrev c51_r2 : List Ins := [
  ⟨some 3, none, .mov (.t 0)⟩,
  ⟨some 4, none, .call (.c (.fn 24 [] [])) [.t 3, .c (.int .i64 1)]⟩,
  ⟨some 5, none, .bin .eql (.t 4) (.c (.int .i64 1))⟩,
  ⟨some 2, none, .mov (.t 5)⟩]
abbrev c51 : IR := .seq (.reg c51_r1) (.seq (.reg c51_r2) (.ret))
abbrev F51 : FnA := ⟨6, c51, [.t 2]⟩
theorem ok51 : cFn Tryz.prog 51 = some F51 := by kernel_rfl
theorem hb51 : HasBody Tryz.prog 51 := ⟨_, Tryz.func51, by kernel_rfl, by kernel_rfl⟩
/-! class.May -/
abbrev c52_r1 : List Ins := [
  ⟨some 1, none, .box (.t 0)⟩,
  ⟨some 2, none, .alloc [.bool false]⟩]
abbrev c52_r2 : List Ins := [
  ⟨some 6, none, .faddr 2 (.t 1)⟩,
  ⟨some 7, none, .load 1 false (.t 6)⟩,
  ⟨some 8, none, .len (.t 7)⟩,
  ⟨some 3, none, .mov (.t 8)⟩]
abbrev c52_r3 : List Ins := [
  ⟨some 9, none, .faddr 0 (.t 1)⟩,
  ⟨some 10, none, .load 1 false (.t 9)⟩,
  ⟨some 11, none, .lenS (.t 10)⟩,
  ⟨some 12, none, .bin .lss (.t 11) (.c (.int .i64 1))⟩,
  ⟨some 13, none, .mov (.t 12)⟩,
  ⟨some 14, some (13, false), .faddr 0 (.t 1)⟩,
  ⟨some 15, some (13, false), .load 1 false (.t 14)⟩,
  ⟨some 16, some (13, false), .lenS (.t 15)⟩,
  ⟨some 17, some (13, false), .bin .gtr (.t 16) (.c (.int .i64 16))⟩,
  ⟨some 18, none, .pick (.t 13) (.c (.bool true)) (.t 17)⟩,
  ⟨some 19, none, .mov (.t 18)⟩,
  ⟨some 20, some (19, false), .faddr 1 (.t 1)⟩,
  ⟨some 21, some (19, false), .load 1 false (.t 20)⟩,
  ⟨some 22, some (19, false), .bin .lss (.t 21) (.c (.int .i64 0))⟩,
  ⟨some 23, none, .pick (.t 19) (.c (.bool true)) (.t 22)⟩,
  ⟨some 24, none, .mov (.t 23)⟩,
  ⟨some 25, some (24, false), .faddr 1 (.t 1)⟩,
  ⟨some 26, some (24, false), .load 1 false (.t 25)⟩,
  ⟨some 27, some (24, false), .bin .gtr (.t 26) (.c (.int .i64 3))⟩,
  ⟨some 28, none, .pick (.t 24) (.c (.bool true)) (.t 27)⟩,
  ⟨some 29, none, .mov (.t 28)⟩,
  ⟨some 30, some (29, false), .mov (.t 3)⟩,
  ⟨some 31, some (29, false), .bin .lss (.t 30) (.c (.int .i64 1))⟩,
  ⟨some 32, none, .pick (.t 29) (.c (.bool true)) (.t 31)⟩,
  ⟨some 33, none, .mov (.t 32)⟩,
  ⟨some 34, some (33, false), .mov (.t 3)⟩,
  ⟨some 35, some (33, false), .bin .gtr (.t 34) (.c (.int .i64 4))⟩,
  ⟨some 36, none, .pick (.t 33) (.c (.bool true)) (.t 35)⟩,
  ⟨some 37, none, .mov (.t 36)⟩,
  ⟨some 38, some (37, false), .faddr 3 (.t 1)⟩,
  ⟨some 39, some (37, false), .load 1 false (.t 38)⟩,
  ⟨some 40, some (37, false), .len (.t 39)⟩,
  ⟨some 41, some (37, false), .mov (.t 3)⟩,
  ⟨some 42, some (37, false), .bin .neq (.t 40) (.t 41)⟩,
  ⟨some 43, none, .pick (.t 37) (.c (.bool true)) (.t 42)⟩]
abbrev c52_r4 : List Ins := [
  ⟨none, none, .store 1 (.t 2) (.c (.bool false))⟩]
abbrev c52_r5 : List Ins := [
  ⟨some 44, none, .load 5 true (.t 1)⟩,
  ⟨some 45, none, .call (.c (.fn 43 [] [])) [.t 44]⟩]
abbrev c52_r6 : List Ins := [
  ⟨some 4, none, .alloc [.sl .full [], .sl .full []]⟩,
  ⟨none, none, .store 2 (.t 4) (.t 46)⟩]
abbrev c52_r7 : List Ins := [
  ⟨some 5, none, .alloc [.sl .full [], .sl .full []]⟩,
  ⟨none, none, .store 2 (.t 5) (.t 47)⟩]
abbrev c52_r8 : List Ins := [
  ⟨some 48, none, .faddr 0 (.t 4)⟩,
  ⟨some 49, none, .load 1 false (.t 48)⟩,
  ⟨some 50, none, .faddr 1 (.t 1)⟩,
  ⟨some 51, none, .load 1 false (.t 50)⟩,
  ⟨some 52, none, .call (.c (.fn 74 [] [])) [.t 49, .t 51]⟩,
  ⟨some 53, none, .un .not (.t 52)⟩,
  ⟨some 54, none, .mov (.t 53)⟩,
  ⟨some 55, some (54, false), .faddr 1 (.t 4)⟩,
  ⟨some 56, some (54, false), .load 1 false (.t 55)⟩,
  ⟨some 57, some (54, false), .faddr 1 (.t 1)⟩,
  ⟨some 58, some (54, false), .load 1 false (.t 57)⟩,
  ⟨some 59, some (54, false), .call (.c (.fn 75 [] [])) [.t 56, .t 58]⟩,
  ⟨some 60, some (54, false), .un .not (.t 59)⟩,
  ⟨some 61, none, .pick (.t 54) (.c (.bool true)) (.t 60)⟩,
  ⟨some 62, none, .mov (.t 61)⟩,
  ⟨some 63, some (62, false), .load 2 true (.t 5)⟩,
  ⟨some 64, some (62, false), .faddr 1 (.t 1)⟩,
  ⟨some 65, some (62, false), .load 1 false (.t 64)⟩,
  ⟨some 66, some (62, false), .call (.c (.fn 76 [] [])) [.t 63, .t 65]⟩,
  ⟨some 67, some (62, false), .un .not (.t 66)⟩,
  ⟨some 68, none, .pick (.t 62) (.c (.bool true)) (.t 67)⟩]
abbrev c52_r9 : List Ins := [
  ⟨none, none, .store 1 (.t 2) (.c (.bool false))⟩]
abbrev c52_x10 : IR := .seq (.reg c52_r6) (.reg c52_r7)
abbrev c52_y11 : IR := .blk 1 (.seq (.reg c52_r8) (.cond (.t 68) (.seq (.reg c52_r9) (.ret)) (.skip)))
abbrev c52_r12 : List Ins := [
  ⟨none, none, .store 1 (.t 2) (.c (.bool true))⟩]
abbrev c52 : IR := .seq (.reg c52_r1) (.seq (.reg c52_r2) (.seq (.seq (.reg c52_r3) (.cond (.t 43) (.seq (.reg c52_r4) (.ret)) (.skip))) (.seq (.seq (.reg c52_r5) (.blk 0 (.rngf (.t 45) [46, 47] c52_x10 c52_y11))) (.seq (.reg c52_r12) (.ret)))))
abbrev F52 : FnA := ⟨69, c52, [.cell 2 1 false]⟩
theorem ok52 : cFn Tryz.prog 52 = some F52 := by kernel_rfl
theorem hb52 : HasBody Tryz.prog 52 := ⟨_, Tryz.func52, by kernel_rfl, by kernel_rfl⟩
/-! ref01.Signed -/
abbrev c53_r1 : List Ins := [
  ⟨some 2, none, .mov (.c (.int .u64 0))⟩]
abbrev c53_r2 : List Ins := [
  ⟨some 3, none, .mov (.t 0)⟩,
  ⟨some 4, none, .bin .geq (.t 3) (.c (.int .i64 0))⟩]
abbrev c53_r3 : List Ins := [
  ⟨some 5, none, .mov (.t 0)⟩,
  ⟨some 6, none, .conv .u64 (.t 5)⟩,
  ⟨some 7, none, .bin .mul (.c (.int .u64 2)) (.t 6)⟩,
  ⟨some 2, none, .mov (.t 7)⟩]
abbrev c53_r4 : List Ins := [
  ⟨some 8, none, .mov (.t 0)⟩,
  ⟨some 9, none, .bin .add (.t 8) (.c (.int .i64 1))⟩,
  ⟨some 10, none, .un .neg (.t 9)⟩,
  ⟨some 11, none, .conv .u64 (.t 10)⟩,
  ⟨some 12, none, .bin .mul (.c (.int .u64 2)) (.t 11)⟩,
  ⟨some 13, none, .bin .add (.t 12) (.c (.int .u64 1))⟩,
  ⟨some 2, none, .mov (.t 13)⟩]
abbrev c53 : IR := .seq (.reg c53_r1) (.seq (.seq (.reg c53_r2) (.cond (.t 4) (.seq (.reg c53_r3) (.ret)) (.skip))) (.seq (.reg c53_r4) (.ret)))
abbrev F53 : FnA := ⟨14, c53, [.t 2]⟩
theorem ok53 : cFn Tryz.prog 53 = some F53 := by kernel_rfl
theorem hb53 : HasBody Tryz.prog 53 := ⟨_, Tryz.func53, by kernel_rfl, by kernel_rfl⟩
/-! ref01.Packed -/
abbrev c54_r1 : List Ins := [
  ⟨some 2, none, .mov (.c (.sl .full []))⟩]
abbrev c54_r2 : List Ins := [
  ⟨some 3, none, .mov (.c (.sl .full []))⟩]
abbrev c54_r3 : List Ins := [
  ⟨some 4, none, .mov (.c (.int .i64 0))⟩]
abbrev c54_r4 : List Ins := [
  ⟨some 7, none, .mov (.t 4)⟩,
  ⟨some 8, none, .mov (.t 0)⟩,
  ⟨some 9, none, .lenS (.t 8)⟩,
  ⟨some 10, none, .bin .lss (.t 7) (.t 9)⟩]
abbrev c54_r5 : List Ins := [
  ⟨some 5, none, .mov (.c (.int .u64 0))⟩]
abbrev c54_r6 : List Ins := [
  ⟨some 6, none, .mov (.c (.int .i64 7))⟩]
abbrev c54_r7 : List Ins := [
  ⟨some 13, none, .mov (.t 6)⟩,
  ⟨some 14, none, .bin .geq (.t 13) (.c (.int .i64 0))⟩]
abbrev c54_r8 : List Ins := [
  ⟨some 17, none, .mov (.t 5)⟩,
  ⟨some 18, none, .bin .mul (.t 17) (.c (.int .u64 256))⟩,
  ⟨some 5, none, .mov (.t 18)⟩]
abbrev c54_r9 : List Ins := [
  ⟨some 19, none, .mov (.t 4)⟩,
  ⟨some 20, none, .mov (.t 6)⟩,
  ⟨some 21, none, .bin .add (.t 19) (.t 20)⟩,
  ⟨some 22, none, .mov (.t 0)⟩,
  ⟨some 23, none, .lenS (.t 22)⟩,
  ⟨some 24, none, .bin .lss (.t 21) (.t 23)⟩]
abbrev c54_r10 : List Ins := [
  ⟨some 25, none, .mov (.t 5)⟩,
  ⟨some 26, none, .mov (.t 0)⟩,
  ⟨some 27, none, .mov (.t 4)⟩,
  ⟨some 28, none, .mov (.t 6)⟩,
  ⟨some 29, none, .bin .add (.t 27) (.t 28)⟩,
  ⟨some 30, none, .idxS (.t 26) (.t 29)⟩,
  ⟨some 31, none, .conv .u64 (.t 30)⟩,
  ⟨some 32, none, .bin .add (.t 25) (.t 31)⟩,
  ⟨some 5, none, .mov (.t 32)⟩]
abbrev c54_r11 : List Ins := [
  ⟨some 15, none, .mov (.t 6)⟩,
  ⟨some 16, none, .bin .sub (.t 15) (.c (.int .i64 1))⟩,
  ⟨some 6, none, .mov (.t 16)⟩]
abbrev c54_l12 : IR := .seq (.seq (.reg c54_r7) (.cond (.t 14) (.skip) (.exit 2))) (.seq (.blk 3 (.seq (.reg c54_r8) (.seq (.reg c54_r9) (.cond (.t 24) (.reg c54_r10) (.skip))))) (.reg c54_r11))
abbrev c54_r13 : List Ins := [
  ⟨some 33, none, .mov (.t 3)⟩,
  ⟨some 34, none, .mov (.t 5)⟩,
  ⟨some 35, none, .bsl 1 1 [.int .u64 0] [(0, .t 34)]⟩,
  ⟨some 36, none, .append 1 8 (.t 33) (.t 35)⟩,
  ⟨some 3, none, .mov (.t 36)⟩]
abbrev c54_r14 : List Ins := [
  ⟨some 11, none, .mov (.t 4)⟩,
  ⟨some 12, none, .bin .add (.t 11) (.c (.int .i64 8))⟩,
  ⟨some 4, none, .mov (.t 12)⟩]
abbrev c54_l15 : IR := .seq (.seq (.reg c54_r4) (.cond (.t 10) (.skip) (.exit 0))) (.seq (.blk 1 (.seq (.reg c54_r5) (.seq (.seq (.reg c54_r6) (.blk 2 (.loop c54_l12))) (.reg c54_r13)))) (.reg c54_r14))
abbrev c54_r16 : List Ins := [
  ⟨some 37, none, .mov (.t 3)⟩,
  ⟨some 2, none, .mov (.t 37)⟩]
abbrev c54 : IR := .seq (.reg c54_r1) (.seq (.reg c54_r2) (.seq (.seq (.reg c54_r3) (.blk 0 (.loop c54_l15))) (.seq (.reg c54_r16) (.ret))))
abbrev F54 : FnA := ⟨38, c54, [.t 2]⟩
theorem ok54 : cFn Tryz.prog 54 = some F54 := by kernel_rfl
theorem hb54 : HasBody Tryz.prog 54 := ⟨_, Tryz.func54, by kernel_rfl, by kernel_rfl⟩
/-! ref09.Items -/
abbrev c55_r1 : List Ins := [
  ⟨some 2, none, .mov (.c (.sl .full []))⟩]
abbrev c55_r2 : List Ins := [
  ⟨some 6, none, .mov (.t 0)⟩,
  ⟨some 7, none, .len (.t 6)⟩,
  ⟨some 8, none, .build [.int .i64 0, .int .i64 0, .int .i64 0, .int .i64 0, .str ⟨#[]⟩, .sl .full []] [(1, (1, .t 7)), (2, (1, .c (.int .i64 8)))]⟩,
  ⟨some 9, none, .bsl 6 1 [.int .i64 0, .int .i64 0, .int .i64 0, .int .i64 0, .str ⟨#[]⟩, .sl .full []] [(0, .t 8)]⟩,
  ⟨some 3, none, .mov (.t 9)⟩]
abbrev c55_r3 : List Ins := [
  ⟨some 4, none, .mov (.c (.int .i64 0))⟩]
abbrev c55_r4 : List Ins := [
  ⟨some 10, none, .mov (.t 4)⟩,
  ⟨some 11, none, .mov (.t 0)⟩,
  ⟨some 12, none, .len (.t 11)⟩,
  ⟨some 13, none, .bin .lss (.t 10) (.t 12)⟩]
abbrev c55_r5 : List Ins := [
  ⟨some 16, none, .mov (.t 0)⟩,
  ⟨some 17, none, .mov (.t 4)⟩,
  ⟨some 18, none, .iaddr 9 (.t 16) (.t 17)⟩,
  ⟨some 19, none, .load 9 true (.t 18)⟩,
  ⟨some 5, none, .alloc [.int .i64 0, .int .i64 0, .int .i64 0, .int .i64 0, .int .i64 0, .int .i64 0, .int .i64 0, .int .i64 0, .int .i64 0]⟩,
  ⟨none, none, .store 9 (.t 5) (.t 19)⟩]
abbrev c55_r6 : List Ins := [
  ⟨some 20, none, .mov (.t 3)⟩,
  ⟨some 21, none, .faddr 0 (.t 5)⟩,
  ⟨some 22, none, .load 1 false (.t 21)⟩,
  ⟨some 23, none, .build [.int .i64 0, .int .i64 0, .int .i64 0, .int .i64 0, .str ⟨#[]⟩, .sl .full []] [(1, (1, .t 22)), (2, (1, .c (.int .i64 255)))]⟩,
  ⟨some 24, none, .faddr 1 (.t 5)⟩,
  ⟨some 25, none, .load 1 false (.t 24)⟩,
  ⟨some 26, none, .build [.int .i64 0, .int .i64 0, .int .i64 0, .int .i64 0, .str ⟨#[]⟩, .sl .full []] [(1, (1, .t 25)), (2, (1, .c (.int .i64 255)))]⟩,
  ⟨some 27, none, .faddr 2 (.t 5)⟩,
  ⟨some 28, none, .load 1 false (.t 27)⟩,
  ⟨some 29, none, .build [.int .i64 0, .int .i64 0, .int .i64 0, .int .i64 0, .str ⟨#[]⟩, .sl .full []] [(1, (1, .t 28)), (2, (1, .c (.int .i64 255)))]⟩,
  ⟨some 30, none, .faddr 3 (.t 5)⟩,
  ⟨some 31, none, .load 1 false (.t 30)⟩,
  ⟨some 32, none, .build [.int .i64 0, .int .i64 0, .int .i64 0, .int .i64 0, .str ⟨#[]⟩, .sl .full []] [(1, (1, .t 31)), (2, (1, .c (.int .i64 255)))]⟩,
  ⟨some 33, none, .bsl 6 4 [.int .i64 0, .int .i64 0, .int .i64 0, .int .i64 0, .str ⟨#[]⟩, .sl .full []] [(0, .t 23), (1, .t 26), (2, .t 29), (3, .t 32)]⟩,
  ⟨some 34, none, .append 6 72 (.t 20) (.t 33)⟩,
  ⟨some 3, none, .mov (.t 34)⟩]
abbrev c55_r7 : List Ins := [
  ⟨some 35, none, .mov (.t 3)⟩,
  ⟨some 36, none, .faddr 4 (.t 5)⟩,
  ⟨some 37, none, .load 2 true (.t 36)⟩,
  ⟨some 38, none, .call (.c (.fn 77 [] [])) [.t 37]⟩,
  ⟨some 39, none, .append 6 72 (.t 35) (.t 38)⟩,
  ⟨some 40, none, .faddr 6 (.t 5)⟩,
  ⟨some 41, none, .load 2 true (.t 40)⟩,
  ⟨some 42, none, .call (.c (.fn 77 [] [])) [.t 41]⟩,
  ⟨some 43, none, .append 6 72 (.t 39) (.t 42)⟩,
  ⟨some 3, none, .mov (.t 43)⟩]
def c55_a7 : List (List Nat) := [[], [], [1], [2], [0, 3, 3], [], [5], [6, 4], [4, 7, 7], [8, 8, 0, 1, 2, 3, 4, 5, 6, 7, 8]]
abbrev c55_m7 : List Am.Mark := [⟨false, 0, 0⟩, ⟨false, 0, 2⟩, ⟨false, 0, 2⟩, ⟨false, 0, 0⟩, ⟨true, 0, 1⟩, ⟨false, 0, 2⟩, ⟨false, 0, 2⟩, ⟨false, 1, 1⟩, ⟨true, 1, 2⟩, ⟨false, 2, 2⟩]
theorem c55_d7 : drawFine c55_r7 c55_a7 c55_m7 = true := by decide +kernel
abbrev c55_r8 : List Ins := [
  ⟨some 44, none, .mov (.t 3)⟩,
  ⟨some 45, none, .faddr 8 (.t 5)⟩,
  ⟨some 46, none, .load 1 false (.t 45)⟩,
  ⟨some 47, none, .build [.int .i64 0, .int .i64 0, .int .i64 0, .int .i64 0, .str ⟨#[]⟩, .sl .full []] [(0, (1, .c (.int .i64 1))), (3, (1, .t 46))]⟩,
  ⟨some 48, none, .bsl 6 1 [.int .i64 0, .int .i64 0, .int .i64 0, .int .i64 0, .str ⟨#[]⟩, .sl .full []] [(0, .t 47)]⟩,
  ⟨some 49, none, .append 6 72 (.t 44) (.t 48)⟩,
  ⟨some 3, none, .mov (.t 49)⟩]
abbrev c55_r9 : List Ins := [
  ⟨some 14, none, .mov (.t 4)⟩,
  ⟨some 15, none, .bin .add (.t 14) (.c (.int .i64 1))⟩,
  ⟨some 4, none, .mov (.t 15)⟩]
abbrev c55_l10 : IR := .seq (.seq (.reg c55_r4) (.cond (.t 13) (.skip) (.exit 0))) (.seq (.blk 1 (.seq (.reg c55_r5) (.seq (.reg c55_r6) (.seq (.dreg c55_r7 c55_a7) (.reg c55_r8))))) (.reg c55_r9))
abbrev c55_r11 : List Ins := [
  ⟨some 50, none, .mov (.t 3)⟩,
  ⟨some 2, none, .mov (.t 50)⟩]
abbrev c55 : IR := .seq (.reg c55_r1) (.seq (.reg c55_r2) (.seq (.seq (.reg c55_r3) (.blk 0 (.loop c55_l10))) (.seq (.reg c55_r11) (.ret))))
abbrev F55 : FnA := ⟨51, c55, [.t 2]⟩
theorem ok55 : cFn Tryz.prog 55 = some F55 := by kernel_rfl
theorem hb55 : HasBody Tryz.prog 55 := ⟨_, Tryz.func55, by kernel_rfl, by kernel_rfl⟩
/-! ref10.Items -/
abbrev c56_r1 : List Ins := [
  ⟨some 2, none, .mov (.c (.sl .full []))⟩]
abbrev c56_r2 : List Ins := [
  ⟨some 6, none, .mov (.t 0)⟩,
  ⟨some 7, none, .len (.t 6)⟩,
  ⟨some 8, none, .build [.int .i64 0, .int .i64 0, .int .i64 0, .int .i64 0, .str ⟨#[]⟩, .sl .full []] [(1, (1, .t 7)), (2, (1, .c (.int .i64 4)))]⟩,
  ⟨some 9, none, .bsl 6 1 [.int .i64 0, .int .i64 0, .int .i64 0, .int .i64 0, .str ⟨#[]⟩, .sl .full []] [(0, .t 8)]⟩,
  ⟨some 3, none, .mov (.t 9)⟩]
abbrev c56_r3 : List Ins := [
  ⟨some 4, none, .mov (.c (.int .i64 0))⟩]
abbrev c56_r4 : List Ins := [
  ⟨some 10, none, .mov (.t 4)⟩,
  ⟨some 11, none, .mov (.t 0)⟩,
  ⟨some 12, none, .len (.t 11)⟩,
  ⟨some 13, none, .bin .lss (.t 10) (.t 12)⟩]
abbrev c56_r5 : List Ins := [
  ⟨some 5, none, .mov (.c (.int .i64 0))⟩]
abbrev c56_r6 : List Ins := [
  ⟨some 16, none, .mov (.t 0)⟩,
  ⟨some 17, none, .mov (.t 4)⟩,
  ⟨some 18, none, .iaddr 5 (.t 16) (.t 17)⟩,
  ⟨some 19, none, .faddr 4 (.t 18)⟩,
  ⟨some 20, none, .load 1 false (.t 19)⟩]
abbrev c56_r7 : List Ins := [
  ⟨some 5, none, .mov (.c (.int .i64 1))⟩]
abbrev c56_r8 : List Ins := [
  ⟨some 21, none, .mov (.t 3)⟩,
  ⟨some 22, none, .mov (.t 0)⟩,
  ⟨some 23, none, .mov (.t 4)⟩,
  ⟨some 24, none, .iaddr 5 (.t 22) (.t 23)⟩,
  ⟨some 25, none, .faddr 0 (.t 24)⟩,
  ⟨some 26, none, .faddr 0 (.t 25)⟩,
  ⟨some 27, none, .load 1 false (.t 26)⟩,
  ⟨some 28, none, .build [.int .i64 0, .int .i64 0, .int .i64 0, .int .i64 0, .str ⟨#[]⟩, .sl .full []] [(0, (1, .c (.int .i64 1))), (3, (1, .t 27))]⟩,
  ⟨some 29, none, .mov (.t 0)⟩,
  ⟨some 30, none, .mov (.t 4)⟩,
  ⟨some 31, none, .iaddr 5 (.t 29) (.t 30)⟩,
  ⟨some 32, none, .faddr 0 (.t 31)⟩,
  ⟨some 33, none, .faddr 1 (.t 32)⟩,
  ⟨some 34, none, .load 1 false (.t 33)⟩,
  ⟨some 35, none, .build [.int .i64 0, .int .i64 0, .int .i64 0, .int .i64 0, .str ⟨#[]⟩, .sl .full []] [(1, (1, .t 34)), (2, (1, .c (.int .i64 999)))]⟩,
  ⟨some 36, none, .mov (.t 0)⟩,
  ⟨some 37, none, .mov (.t 4)⟩,
  ⟨some 38, none, .iaddr 5 (.t 36) (.t 37)⟩,
  ⟨some 39, none, .faddr 2 (.t 38)⟩,
  ⟨some 40, none, .faddr 0 (.t 39)⟩,
  ⟨some 41, none, .load 1 false (.t 40)⟩,
  ⟨some 42, none, .build [.int .i64 0, .int .i64 0, .int .i64 0, .int .i64 0, .str ⟨#[]⟩, .sl .full []] [(0, (1, .c (.int .i64 1))), (3, (1, .t 41))]⟩,
  ⟨some 43, none, .mov (.t 0)⟩,
  ⟨some 44, none, .mov (.t 4)⟩,
  ⟨some 45, none, .iaddr 5 (.t 43) (.t 44)⟩,
  ⟨some 46, none, .faddr 2 (.t 45)⟩,
  ⟨some 47, none, .faddr 1 (.t 46)⟩,
  ⟨some 48, none, .load 1 false (.t 47)⟩,
  ⟨some 49, none, .build [.int .i64 0, .int .i64 0, .int .i64 0, .int .i64 0, .str ⟨#[]⟩, .sl .full []] [(1, (1, .t 48)), (2, (1, .c (.int .i64 999)))]⟩,
  ⟨some 50, none, .mov (.t 5)⟩,
  ⟨some 51, none, .build [.int .i64 0, .int .i64 0, .int .i64 0, .int .i64 0, .str ⟨#[]⟩, .sl .full []] [(0, (1, .c (.int .i64 2))), (1, (1, .t 50))]⟩,
  ⟨some 52, none, .bsl 6 5 [.int .i64 0, .int .i64 0, .int .i64 0, .int .i64 0, .str ⟨#[]⟩, .sl .full []] [(0, .t 28), (1, .t 35), (2, .t 42), (3, .t 49), (4, .t 51)]⟩,
  ⟨some 53, none, .append 6 72 (.t 21) (.t 52)⟩,
  ⟨some 3, none, .mov (.t 53)⟩]
def c56_a8 : List (List Nat) := [[], [], [], [1, 2], [3], [4], [5], [6], [], [], [8, 9], [10], [11], [12], [13], [], [], [15, 16], [17], [18], [19], [20], [], [], [22, 23], [24], [25], [26], [27], [], [29], [7, 14, 21, 28, 30], [0, 31], [32, 32, 0, 1, 2, 3, 4, 5, 6, 7, 8, 9, 10, 11, 12, 13, 14, 15, 16, 17, 18, 19, 20, 21, 22, 23, 24, 25, 26, 27, 28, 29, 30, 31, 32]]
abbrev c56_m8 : List Am.Mark := [⟨false, 0, 0⟩, ⟨false, 0, 1⟩, ⟨false, 0, 1⟩, ⟨false, 0, 1⟩, ⟨false, 0, 1⟩, ⟨false, 0, 1⟩, ⟨false, 0, 1⟩, ⟨false, 0, 1⟩, ⟨false, 0, 1⟩, ⟨false, 0, 1⟩, ⟨false, 0, 1⟩, ⟨false, 0, 1⟩, ⟨false, 0, 1⟩, ⟨false, 0, 1⟩, ⟨false, 0, 1⟩, ⟨false, 0, 1⟩, ⟨false, 0, 1⟩, ⟨false, 0, 1⟩, ⟨false, 0, 1⟩, ⟨false, 0, 1⟩, ⟨false, 0, 1⟩, ⟨false, 0, 1⟩, ⟨false, 0, 1⟩, ⟨false, 0, 1⟩, ⟨false, 0, 1⟩, ⟨false, 0, 1⟩, ⟨false, 0, 1⟩, ⟨false, 0, 1⟩, ⟨false, 0, 1⟩, ⟨false, 0, 1⟩, ⟨false, 0, 1⟩, ⟨false, 0, 0⟩, ⟨true, 0, 1⟩, ⟨false, 1, 1⟩]
theorem c56_d8 : drawFine c56_r8 c56_a8 c56_m8 = true := by decide +kernel
abbrev c56_r9 : List Ins := [
  ⟨some 14, none, .mov (.t 4)⟩,
  ⟨some 15, none, .bin .add (.t 14) (.c (.int .i64 1))⟩,
  ⟨some 4, none, .mov (.t 15)⟩]
abbrev c56_l10 : IR := .seq (.seq (.reg c56_r4) (.cond (.t 13) (.skip) (.exit 0))) (.seq (.blk 1 (.seq (.reg c56_r5) (.seq (.seq (.reg c56_r6) (.cond (.t 20) (.reg c56_r7) (.skip))) (.dreg c56_r8 c56_a8)))) (.reg c56_r9))
abbrev c56_r11 : List Ins := [
  ⟨some 54, none, .mov (.t 3)⟩,
  ⟨some 2, none, .mov (.t 54)⟩]
abbrev c56 : IR := .seq (.reg c56_r1) (.seq (.reg c56_r2) (.seq (.seq (.reg c56_r3) (.blk 0 (.loop c56_l10))) (.seq (.reg c56_r11) (.ret))))
abbrev F56 : FnA := ⟨55, c56, [.t 2]⟩
theorem ok56 : cFn Tryz.prog 56 = some F56 := by kernel_rfl
theorem hb56 : HasBody Tryz.prog 56 := ⟨_, Tryz.func56, by kernel_rfl, by kernel_rfl⟩
/-! ref11.steps -/
abbrev c57_r1 : List Ins := [
  ⟨some 4, none, .mov (.c (.bool false))⟩]
abbrev c57_r2 : List Ins := [
  ⟨some 6, none, .mov (.t 0)⟩,
  ⟨some 7, none, .len (.t 6)⟩,
  ⟨some 8, none, .mov (.t 1)⟩,
  ⟨some 9, none, .len (.t 8)⟩,
  ⟨some 10, none, .bin .neq (.t 7) (.t 9)⟩]
abbrev c57_r3 : List Ins := [
  ⟨some 4, none, .mov (.c (.bool false))⟩]
abbrev c57_r4 : List Ins := [
  ⟨some 5, none, .mov (.c (.int .i64 0))⟩]
abbrev c57_r5 : List Ins := [
  ⟨some 11, none, .mov (.t 5)⟩,
  ⟨some 12, none, .mov (.t 0)⟩,
  ⟨some 13, none, .len (.t 12)⟩,
  ⟨some 14, none, .bin .lss (.t 11) (.t 13)⟩]
abbrev c57_r6 : List Ins := [
  ⟨some 17, none, .mov (.t 0)⟩,
  ⟨some 18, none, .mov (.t 5)⟩,
  ⟨some 19, none, .iaddr 2 (.t 17) (.t 18)⟩,
  ⟨some 20, none, .faddr 0 (.t 19)⟩,
  ⟨some 21, none, .load 1 false (.t 20)⟩,
  ⟨some 22, none, .mov (.t 1)⟩,
  ⟨some 23, none, .mov (.t 5)⟩,
  ⟨some 24, none, .iaddr 2 (.t 22) (.t 23)⟩,
  ⟨some 25, none, .faddr 0 (.t 24)⟩,
  ⟨some 26, none, .load 1 false (.t 25)⟩,
  ⟨some 27, none, .call (.c (.fn 78 [] [])) [.t 21, .t 26]⟩,
  ⟨some 28, none, .un .not (.t 27)⟩,
  ⟨some 29, none, .mov (.t 28)⟩,
  ⟨some 30, some (29, false), .mov (.t 0)⟩,
  ⟨some 31, some (29, false), .mov (.t 5)⟩,
  ⟨some 32, some (29, false), .iaddr 2 (.t 30) (.t 31)⟩,
  ⟨some 33, some (29, false), .faddr 1 (.t 32)⟩,
  ⟨some 34, some (29, false), .load 1 false (.t 33)⟩,
  ⟨some 35, some (29, false), .mov (.t 1)⟩,
  ⟨some 36, some (29, false), .mov (.t 5)⟩,
  ⟨some 37, some (29, false), .iaddr 2 (.t 35) (.t 36)⟩,
  ⟨some 38, some (29, false), .faddr 1 (.t 37)⟩,
  ⟨some 39, some (29, false), .load 1 false (.t 38)⟩,
  ⟨some 40, some (29, false), .call (.c (.fn 79 [] [])) [.t 34, .t 39]⟩,
  ⟨some 41, some (29, false), .un .not (.t 40)⟩,
  ⟨some 42, none, .pick (.t 29) (.c (.bool true)) (.t 41)⟩]
def c57_a6 : List (List Nat) := [[], [], [0, 1], [2], [3], [], [], [5, 6], [7], [8], [4, 9], [10], [11, 10], [12], [12], [13, 14, 12], [15, 12], [16, 12], [12], [12], [18, 19, 12], [20, 12], [21, 12], [17, 22, 12, 12], [23, 12], [12, 24]]
abbrev c57_m6 : List Am.Mark := [⟨false, 0, 0⟩, ⟨false, 0, 0⟩, ⟨false, 0, 0⟩, ⟨false, 0, 0⟩, ⟨false, 0, 0⟩, ⟨false, 0, 0⟩, ⟨false, 0, 0⟩, ⟨false, 0, 0⟩, ⟨false, 0, 0⟩, ⟨false, 0, 0⟩, ⟨false, 0, 0⟩, ⟨false, 0, 0⟩, ⟨false, 0, 0⟩, ⟨false, 0, 0⟩, ⟨false, 0, 0⟩, ⟨false, 0, 0⟩, ⟨false, 0, 0⟩, ⟨false, 0, 0⟩, ⟨false, 0, 0⟩, ⟨false, 0, 0⟩, ⟨false, 0, 0⟩, ⟨false, 0, 0⟩, ⟨false, 0, 0⟩, ⟨false, 0, 0⟩, ⟨false, 0, 0⟩, ⟨false, 0, 0⟩]
theorem c57_d6 : drawFine c57_r6 c57_a6 c57_m6 = true := by decide +kernel
abbrev c57_r7 : List Ins := [
  ⟨some 4, none, .mov (.c (.bool false))⟩]
abbrev c57_r8 : List Ins := [
  ⟨some 15, none, .mov (.t 5)⟩,
  ⟨some 16, none, .bin .add (.t 15) (.c (.int .i64 1))⟩,
  ⟨some 5, none, .mov (.t 16)⟩]
abbrev c57_l9 : IR := .seq (.seq (.reg c57_r5) (.cond (.t 14) (.skip) (.exit 0))) (.seq (.blk 1 (.seq (.dreg c57_r6 c57_a6) (.cond (.t 42) (.seq (.reg c57_r7) (.ret)) (.skip)))) (.reg c57_r8))
abbrev c57_r10 : List Ins := [
  ⟨some 4, none, .mov (.c (.bool true))⟩]
abbrev c57 : IR := .seq (.reg c57_r1) (.seq (.seq (.reg c57_r2) (.cond (.t 10) (.seq (.reg c57_r3) (.ret)) (.skip))) (.seq (.seq (.reg c57_r4) (.blk 0 (.loop c57_l9))) (.seq (.reg c57_r10) (.ret))))
abbrev F57 : FnA := ⟨43, c57, [.t 4]⟩
theorem ok57 : cFn Tryz.prog 57 = some F57 := by kernel_rfl
theorem hb57 : HasBody Tryz.prog 57 := ⟨_, Tryz.func57, by kernel_rfl, by kernel_rfl⟩
/-! slices.Clone:Class -/
abbrev c58_r1 : List Ins := [
  ⟨some 2, none, .mov (.c (.sl .full []))⟩]
abbrev c58_r2 : List Ins := [
  ⟨some 3, none, .mov (.t 0)⟩,
  ⟨some 4, none, .isnil false (.t 3)⟩]
abbrev c58_r3 : List Ins := [
  ⟨some 2, none, .mov (.c (.sl .full []))⟩]
abbrev c58_r4 : List Ins := [
  ⟨some 5, none, .bsl 5 0 [.str ⟨#[]⟩, .int .i64 0, .sl .full [], .sl .full [], .bool false] []⟩,
  ⟨some 6, none, .mov (.t 0)⟩,
  ⟨some 7, none, .append 5 80 (.t 5) (.t 6)⟩,
  ⟨some 2, none, .mov (.t 7)⟩]
abbrev c58 : IR := .seq (.reg c58_r1) (.seq (.seq (.reg c58_r2) (.cond (.t 4) (.seq (.reg c58_r3) (.ret)) (.skip))) (.seq (.reg c58_r4) (.ret)))
abbrev F58 : FnA := ⟨8, c58, [.t 2]⟩
theorem ok58 : cFn Tryz.prog 58 = some F58 := by kernel_rfl
theorem hb58 : HasBody Tryz.prog 58 := ⟨_, Tryz.func58, by kernel_rfl, by kernel_rfl⟩
/-! cat.steps -/
abbrev c59_r1 : List Ins := [
  ⟨some 2, none, .mov (.c (.sl .full []))⟩]
abbrev c59_r2 : List Ins := [
  ⟨some 6, none, .mov (.t 0)⟩,
  ⟨some 7, none, .call (.c (.fn 80 [] [])) [.t 6]⟩,
  ⟨some 3, none, .mov (.t 7)⟩]
abbrev c59_r3 : List Ins := [
  ⟨some 8, none, .mov (.t 3)⟩,
  ⟨some 9, none, .len (.t 8)⟩,
  ⟨some 10, none, .mov (.c (.int .i64 0))⟩]
abbrev c59_r4 : List Ins := [
  ⟨some 11, none, .bin .lss (.t 10) (.t 9)⟩]
abbrev c59_r5 : List Ins := [
  ⟨some 12, none, .mov (.t 10)⟩,
  ⟨some 13, none, .iaddr 2 (.t 8) (.t 10)⟩,
  ⟨some 14, none, .load 2 true (.t 13)⟩,
  ⟨some 5, none, .alloc [.sl .full [], .sl .full []]⟩,
  ⟨some 4, none, .mov (.t 12)⟩,
  ⟨none, none, .store 2 (.t 5) (.t 14)⟩]
abbrev c59_r6 : List Ins := [
  ⟨some 15, none, .mov (.t 3)⟩,
  ⟨some 16, none, .mov (.t 4)⟩,
  ⟨some 17, none, .faddr 0 (.t 5)⟩,
  ⟨some 18, none, .load 1 false (.t 17)⟩,
  ⟨some 19, none, .call (.c (.fn 81 [] [])) [.t 18]⟩,
  ⟨some 20, none, .faddr 1 (.t 5)⟩,
  ⟨some 21, none, .load 1 false (.t 20)⟩,
  ⟨some 22, none, .call (.c (.fn 82 [] [])) [.t 21]⟩,
  ⟨some 23, none, .build [.sl .full [], .sl .full []] [(0, (1, .t 19)), (1, (1, .t 22))]⟩,
  ⟨some 24, none, .iaddr 2 (.t 15) (.t 16)⟩,
  ⟨none, none, .store 2 (.t 24) (.t 23)⟩]
def c59_a6 : List (List Nat) := [[], [], [], [2], [3], [], [5], [6, 4], [4, 7], [0, 1, 0, 1, 2, 3, 4, 5, 6, 7, 8], [9, 8, 7, 0, 1, 2, 3, 4, 5, 6, 7, 8]]
abbrev c59_m6 : List Am.Mark := [⟨false, 0, 0⟩, ⟨false, 0, 0⟩, ⟨false, 0, 0⟩, ⟨false, 0, 0⟩, ⟨false, 0, 0⟩, ⟨false, 0, 0⟩, ⟨false, 0, 0⟩, ⟨false, 0, 0⟩, ⟨false, 0, 0⟩, ⟨false, 0, 0⟩, ⟨true, 0, 1⟩]
theorem c59_d6 : drawFine c59_r6 c59_a6 c59_m6 = true := by decide +kernel
abbrev c59_r7 : List Ins := [
  ⟨some 25, none, .bin .add (.t 10) (.c (.int .i64 1))⟩,
  ⟨some 10, none, .mov (.t 25)⟩]
abbrev c59_l8 : IR := .seq (.reg c59_r4) (.seq (.cond (.t 11) (.skip) (.exit 0)) (.seq (.blk 1 (.seq (.reg c59_r5) (.dreg c59_r6 c59_a6))) (.reg c59_r7)))
abbrev c59_r9 : List Ins := [
  ⟨some 26, none, .mov (.t 3)⟩,
  ⟨some 2, none, .mov (.t 26)⟩]
abbrev c59 : IR := .seq (.reg c59_r1) (.seq (.reg c59_r2) (.seq (.seq (.reg c59_r3) (.blk 0 (.loop c59_l8))) (.seq (.reg c59_r9) (.ret))))
abbrev F59 : FnA := ⟨27, c59, [.t 2]⟩
theorem ok59 : cFn Tryz.prog 59 = some F59 := by kernel_rfl
theorem hb59 : HasBody Tryz.prog 59 := ⟨_, Tryz.func59, by kernel_rfl, by kernel_rfl⟩
/-! slices.ContainsFunc:Class -/
abbrev c60_r1 : List Ins := [
  ⟨some 4, none, .mov (.c (.bool false))⟩]
abbrev c60_r2 : List Ins := [
  ⟨some 5, none, .mov (.t 0)⟩,
  ⟨some 6, none, .mov (.t 1)⟩,
  ⟨some 7, none, .call (.c (.fn 83 [] [])) [.t 5, .t 6]⟩,
  ⟨some 8, none, .bin .geq (.t 7) (.c (.int .i64 0))⟩,
  ⟨some 4, none, .mov (.t 8)⟩]
abbrev c60 : IR := .seq (.reg c60_r1) (.seq (.reg c60_r2) (.ret))
abbrev F60 : FnA := ⟨9, c60, [.t 4]⟩
theorem ok60 : cFn Tryz.prog 60 = some F60 := by kernel_rfl
theorem hb60 : HasBody Tryz.prog 60 := ⟨_, Tryz.func60, by kernel_rfl, by kernel_rfl⟩
/-! cat.named$1 -/
abbrev c61_r1 : List Ins := [
  ⟨some 2, none, .box (.t 0)⟩,
  ⟨some 3, none, .mov (.c (.bool false))⟩]
abbrev c61_r2 : List Ins := [
  ⟨some 4, none, .faddr 0 (.t 2)⟩,
  ⟨some 5, none, .load 1 false (.t 4)⟩,
  ⟨some 6, none, .faddr 0 (.t 1)⟩,
  ⟨some 7, none, .load 1 false (.t 6)⟩,
  ⟨some 8, none, .bin .eql (.t 5) (.t 7)⟩,
  ⟨some 3, none, .mov (.t 8)⟩]
abbrev c61 : IR := .seq (.reg c61_r1) (.seq (.reg c61_r2) (.ret))
abbrev F61 : FnA := ⟨9, c61, [.t 3]⟩
theorem ok61 : cFn Tryz.prog 61 = some F61 := by kernel_rfl
theorem hb61 : HasBody Tryz.prog 61 := ⟨_, Tryz.func61, by kernel_rfl, by kernel_rfl⟩
/-! math/bits.OnesCount64 -/
abbrev c63_r1 : List Ins := [
  ⟨some 2, none, .mov (.c (.int .i64 0))⟩]
abbrev c63_r2 : List Ins := [
  ⟨some 3, none, .mov (.t 0)⟩,
  ⟨some 4, none, .bin .shr (.t 3) (.c (.int .u64 1))⟩,
  ⟨some 5, none, .bin .and (.t 4) (.c (.int .u64 6148914691236517205))⟩,
  ⟨some 6, none, .mov (.t 0)⟩,
  ⟨some 7, none, .bin .and (.t 6) (.c (.int .u64 6148914691236517205))⟩,
  ⟨some 8, none, .bin .add (.t 5) (.t 7)⟩,
  ⟨some 0, none, .mov (.t 8)⟩]
abbrev c63_r3 : List Ins := [
  ⟨some 9, none, .mov (.t 0)⟩,
  ⟨some 10, none, .bin .shr (.t 9) (.c (.int .u64 2))⟩,
  ⟨some 11, none, .bin .and (.t 10) (.c (.int .u64 3689348814741910323))⟩,
  ⟨some 12, none, .mov (.t 0)⟩,
  ⟨some 13, none, .bin .and (.t 12) (.c (.int .u64 3689348814741910323))⟩,
  ⟨some 14, none, .bin .add (.t 11) (.t 13)⟩,
  ⟨some 0, none, .mov (.t 14)⟩]
abbrev c63_r4 : List Ins := [
  ⟨some 15, none, .mov (.t 0)⟩,
  ⟨some 16, none, .bin .shr (.t 15) (.c (.int .u64 4))⟩,
  ⟨some 17, none, .mov (.t 0)⟩,
  ⟨some 18, none, .bin .add (.t 16) (.t 17)⟩,
  ⟨some 19, none, .bin .and (.t 18) (.c (.int .u64 1085102592571150095))⟩,
  ⟨some 0, none, .mov (.t 19)⟩]
abbrev c63_r5 : List Ins := [
  ⟨some 20, none, .mov (.t 0)⟩,
  ⟨some 21, none, .mov (.t 0)⟩,
  ⟨some 22, none, .bin .shr (.t 21) (.c (.int .u64 8))⟩,
  ⟨some 23, none, .bin .add (.t 20) (.t 22)⟩,
  ⟨some 0, none, .mov (.t 23)⟩]
abbrev c63_r6 : List Ins := [
  ⟨some 24, none, .mov (.t 0)⟩,
  ⟨some 25, none, .mov (.t 0)⟩,
  ⟨some 26, none, .bin .shr (.t 25) (.c (.int .u64 16))⟩,
  ⟨some 27, none, .bin .add (.t 24) (.t 26)⟩,
  ⟨some 0, none, .mov (.t 27)⟩]
abbrev c63_r7 : List Ins := [
  ⟨some 28, none, .mov (.t 0)⟩,
  ⟨some 29, none, .mov (.t 0)⟩,
  ⟨some 30, none, .bin .shr (.t 29) (.c (.int .u64 32))⟩,
  ⟨some 31, none, .bin .add (.t 28) (.t 30)⟩,
  ⟨some 0, none, .mov (.t 31)⟩]
abbrev c63_r8 : List Ins := [
  ⟨some 32, none, .mov (.t 0)⟩,
  ⟨some 33, none, .conv .i64 (.t 32)⟩,
  ⟨some 34, none, .bin .and (.t 33) (.c (.int .i64 127))⟩,
  ⟨some 2, none, .mov (.t 34)⟩]
abbrev c63 : IR := .seq (.reg c63_r1) (.seq (.reg c63_r2) (.seq (.reg c63_r3) (.seq (.reg c63_r4) (.seq (.reg c63_r5) (.seq (.reg c63_r6) (.seq (.reg c63_r7) (.seq (.reg c63_r8) (.ret))))))))
abbrev F63 : FnA := ⟨35, c63, [.t 2]⟩
theorem ok63 : cFn Tryz.prog 63 = some F63 := by kernel_rfl
theorem hb63 : HasBody Tryz.prog 63 := ⟨_, Tryz.func63, by kernel_rfl, by kernel_rfl⟩
/-! ref09.One -/
abbrev c64_r1 : List Ins := [
  ⟨some 2, none, .box (.t 0)⟩,
  ⟨some 4, none, .mov (.c (.bool false))⟩]
abbrev c64_r2 : List Ins := [
  ⟨some 11, none, .faddr 0 (.t 2)⟩,
  ⟨some 12, none, .load 1 false (.t 11)⟩,
  ⟨some 13, none, .bin .lss (.t 12) (.c (.int .i64 1))⟩,
  ⟨some 14, none, .mov (.t 13)⟩,
  ⟨some 15, some (14, false), .faddr 0 (.t 2)⟩,
  ⟨some 16, some (14, false), .load 1 false (.t 15)⟩,
  ⟨some 17, some (14, false), .bin .gtr (.t 16) (.c (.int .i64 8))⟩,
  ⟨some 18, none, .pick (.t 14) (.c (.bool true)) (.t 17)⟩,
  ⟨some 19, none, .mov (.t 18)⟩,
  ⟨some 20, some (19, false), .faddr 1 (.t 2)⟩,
  ⟨some 21, some (19, false), .load 1 false (.t 20)⟩,
  ⟨some 22, some (19, false), .bin .lss (.t 21) (.c (.int .i64 0))⟩,
  ⟨some 23, none, .pick (.t 19) (.c (.bool true)) (.t 22)⟩,
  ⟨some 24, none, .mov (.t 23)⟩,
  ⟨some 25, some (24, false), .faddr 1 (.t 2)⟩,
  ⟨some 26, some (24, false), .load 1 false (.t 25)⟩,
  ⟨some 27, some (24, false), .bin .gtr (.t 26) (.c (.int .i64 3))⟩,
  ⟨some 28, none, .pick (.t 24) (.c (.bool true)) (.t 27)⟩]
abbrev c64_r3 : List Ins := [
  ⟨some 4, none, .mov (.c (.bool false))⟩]
abbrev c64_r4 : List Ins := [
  ⟨some 5, none, .alloc [.int .i64 0, .int .i64 0]⟩]
abbrev c64_r5 : List Ins := [
  ⟨some 29, none, .faddr 0 (.t 2)⟩,
  ⟨some 30, none, .load 1 false (.t 29)⟩,
  ⟨some 31, none, .bin .neq (.t 30) (.c (.int .i64 3))⟩,
  ⟨some 6, none, .mov (.t 31)⟩]
abbrev c64_r6 : List Ins := [
  ⟨some 32, none, .faddr 0 (.t 2)⟩,
  ⟨some 33, none, .load 1 false (.t 32)⟩,
  ⟨some 34, none, .bin .leq (.t 33) (.c (.int .i64 4))⟩,
  ⟨some 7, none, .mov (.t 34)⟩]
abbrev c64_r7 : List Ins := [
  ⟨some 35, none, .faddr 0 (.t 2)⟩,
  ⟨some 36, none, .load 1 false (.t 35)⟩,
  ⟨some 37, none, .bin .eql (.t 36) (.c (.int .i64 4))⟩,
  ⟨some 8, none, .mov (.t 37)⟩]
abbrev c64_r8 : List Ins := [
  ⟨some 38, none, .faddr 0 (.t 2)⟩,
  ⟨some 39, none, .load 1 false (.t 38)⟩,
  ⟨some 40, none, .bin .eql (.t 39) (.c (.int .i64 6))⟩,
  ⟨some 41, none, .mov (.t 40)⟩,
  ⟨some 42, some (41, false), .faddr 0 (.t 2)⟩,
  ⟨some 43, some (41, false), .load 1 false (.t 42)⟩,
  ⟨some 44, some (41, false), .bin .eql (.t 43) (.c (.int .i64 7))⟩,
  ⟨some 45, none, .pick (.t 41) (.c (.bool true)) (.t 44)⟩,
  ⟨some 9, none, .mov (.t 45)⟩]
abbrev c64_r9 : List Ins := [
  ⟨some 46, none, .faddr 0 (.t 2)⟩,
  ⟨some 47, none, .load 1 false (.t 46)⟩,
  ⟨some 48, none, .bin .eql (.t 47) (.c (.int .i64 5))⟩,
  ⟨some 49, none, .mov (.t 48)⟩,
  ⟨some 50, some (49, false), .faddr 0 (.t 2)⟩,
  ⟨some 51, some (49, false), .load 1 false (.t 50)⟩,
  ⟨some 52, some (49, false), .bin .eql (.t 51) (.c (.int .i64 8))⟩,
  ⟨some 53, none, .pick (.t 49) (.c (.bool true)) (.t 52)⟩,
  ⟨some 10, none, .mov (.t 53)⟩]
abbrev c64_r10 : List Ins := [
  ⟨some 54, none, .mov (.t 6)⟩,
  ⟨some 55, none, .un .not (.t 54)⟩,
  ⟨some 56, none, .mov (.t 55)⟩,
  ⟨some 57, some (56, true), .faddr 1 (.t 2)⟩,
  ⟨some 58, some (56, true), .load 1 false (.t 57)⟩,
  ⟨some 59, some (56, true), .bin .neq (.t 58) (.c (.int .i64 0))⟩,
  ⟨some 60, none, .pick (.t 56) (.t 59) (.c (.bool false))⟩,
  ⟨some 61, none, .mov (.t 60)⟩,
  ⟨some 62, some (61, false), .mov (.t 10)⟩,
  ⟨some 63, some (61, false), .un .not (.t 62)⟩,
  ⟨some 64, some (61, false), .mov (.t 63)⟩,
  ⟨some 65, some (64, true), .faddr 8 (.t 2)⟩,
  ⟨some 66, some (64, true), .load 1 false (.t 65)⟩,
  ⟨some 67, some (64, true), .bin .neq (.t 66) (.c (.int .i64 0))⟩,
  ⟨some 68, some (61, false), .pick (.t 64) (.t 67) (.c (.bool false))⟩,
  ⟨some 69, none, .pick (.t 61) (.c (.bool true)) (.t 68)⟩,
  ⟨some 70, none, .mov (.t 69)⟩,
  ⟨some 71, some (70, false), .mov (.t 9)⟩,
  ⟨some 72, some (70, false), .un .not (.t 71)⟩,
  ⟨some 73, some (70, false), .mov (.t 72)⟩,
  ⟨some 74, some (73, true), .faddr 2 (.t 2)⟩,
  ⟨some 75, some (73, true), .load 1 false (.t 74)⟩,
  ⟨some 76, some (73, true), .bin .neq (.t 75) (.c (.int .i64 0))⟩,
  ⟨some 77, some (73, true), .mov (.t 76)⟩,
  ⟨some 78, some (77, false), .faddr 3 (.t 2)⟩,
  ⟨some 79, some (77, false), .load 1 false (.t 78)⟩,
  ⟨some 80, some (77, false), .bin .neq (.t 79) (.c (.int .i64 0))⟩,
  ⟨some 81, some (73, true), .pick (.t 77) (.c (.bool true)) (.t 80)⟩,
  ⟨some 82, some (70, false), .pick (.t 73) (.t 81) (.c (.bool false))⟩,
  ⟨some 83, none, .pick (.t 70) (.c (.bool true)) (.t 82)⟩,
  ⟨some 84, none, .mov (.t 83)⟩,
  ⟨some 85, some (84, false), .mov (.t 7)⟩,
  ⟨some 86, some (84, false), .un .not (.t 85)⟩,
  ⟨some 87, some (84, false), .mov (.t 86)⟩,
  ⟨some 88, some (87, true), .faddr 4 (.t 2)⟩,
  ⟨some 89, some (87, true), .load 2 true (.t 88)⟩,
  ⟨some 90, some (87, true), .load 2 true (.t 5)⟩,
  ⟨some 91, some (87, true), .eq [.i, .i] true true (.t 89) (.t 90)⟩,
  ⟨some 92, some (84, false), .pick (.t 87) (.t 91) (.c (.bool false))⟩,
  ⟨some 93, none, .pick (.t 84) (.c (.bool true)) (.t 92)⟩,
  ⟨some 94, none, .mov (.t 93)⟩,
  ⟨some 95, some (94, false), .mov (.t 8)⟩,
  ⟨some 96, some (94, false), .un .not (.t 95)⟩,
  ⟨some 97, some (94, false), .mov (.t 96)⟩,
  ⟨some 98, some (97, true), .faddr 6 (.t 2)⟩,
  ⟨some 99, some (97, true), .load 2 true (.t 98)⟩,
  ⟨some 100, some (97, true), .load 2 true (.t 5)⟩,
  ⟨some 101, some (97, true), .eq [.i, .i] true true (.t 99) (.t 100)⟩,
  ⟨some 102, some (94, false), .pick (.t 97) (.t 101) (.c (.bool false))⟩,
  ⟨some 103, none, .pick (.t 94) (.c (.bool true)) (.t 102)⟩]
abbrev c64_r11 : List Ins := [
  ⟨some 4, none, .mov (.c (.bool false))⟩]
abbrev c64_r12 : List Ins := [
  ⟨some 104, none, .mov (.t 9)⟩,
  ⟨some 105, none, .mov (.t 104)⟩,
  ⟨some 106, some (105, true), .faddr 2 (.t 2)⟩,
  ⟨some 107, some (105, true), .load 1 false (.t 106)⟩,
  ⟨some 108, some (105, true), .bin .lss (.t 107) (.c (.int .i64 0))⟩,
  ⟨some 109, some (105, true), .mov (.t 108)⟩,
  ⟨some 110, some (109, false), .faddr 2 (.t 2)⟩,
  ⟨some 111, some (109, false), .load 1 false (.t 110)⟩,
  ⟨some 112, some (109, false), .bin .gtr (.t 111) (.c (.int .i64 3))⟩,
  ⟨some 113, some (105, true), .pick (.t 109) (.c (.bool true)) (.t 112)⟩,
  ⟨some 114, some (105, true), .mov (.t 113)⟩,
  ⟨some 115, some (114, false), .faddr 3 (.t 2)⟩,
  ⟨some 116, some (114, false), .load 1 false (.t 115)⟩,
  ⟨some 117, some (114, false), .bin .lss (.t 116) (.c (.int .i64 0))⟩,
  ⟨some 118, some (105, true), .pick (.t 114) (.c (.bool true)) (.t 117)⟩,
  ⟨some 119, some (105, true), .mov (.t 118)⟩,
  ⟨some 120, some (119, false), .faddr 3 (.t 2)⟩,
  ⟨some 121, some (119, false), .load 1 false (.t 120)⟩,
  ⟨some 122, some (119, false), .bin .gtr (.t 121) (.c (.int .i64 3))⟩,
  ⟨some 123, some (105, true), .pick (.t 119) (.c (.bool true)) (.t 122)⟩,
  ⟨some 124, none, .pick (.t 105) (.t 123) (.c (.bool false))⟩]
abbrev c64_r13 : List Ins := [
  ⟨some 4, none, .mov (.c (.bool false))⟩]
abbrev c64_r14 : List Ins := [
  ⟨some 125, none, .mov (.t 7)⟩,
  ⟨some 126, none, .un .not (.t 125)⟩,
  ⟨some 127, none, .mov (.t 126)⟩,
  ⟨some 128, some (127, false), .faddr 4 (.t 2)⟩,
  ⟨some 129, some (127, false), .load 2 true (.t 128)⟩,
  ⟨some 130, some (127, false), .mov (.t 1)⟩,
  ⟨some 131, some (127, false), .call (.c (.fn 65 [] [])) [.t 129, .t 130]⟩,
  ⟨some 132, none, .pick (.t 127) (.c (.bool true)) (.t 131)⟩,
  ⟨some 133, none, .mov (.t 132)⟩,
  ⟨some 134, some (133, true), .mov (.t 8)⟩,
  ⟨some 135, some (133, true), .un .not (.t 134)⟩,
  ⟨some 136, some (133, true), .mov (.t 135)⟩,
  ⟨some 137, some (136, false), .faddr 6 (.t 2)⟩,
  ⟨some 138, some (136, false), .load 2 true (.t 137)⟩,
  ⟨some 139, some (136, false), .mov (.t 1)⟩,
  ⟨some 140, some (136, false), .call (.c (.fn 65 [] [])) [.t 138, .t 139]⟩,
  ⟨some 141, some (133, true), .pick (.t 136) (.c (.bool true)) (.t 140)⟩,
  ⟨some 142, none, .pick (.t 133) (.t 141) (.c (.bool false))⟩,
  ⟨some 4, none, .mov (.t 142)⟩]
abbrev c64 : IR := .seq (.reg c64_r1) (.seq (.seq (.reg c64_r2) (.cond (.t 28) (.seq (.reg c64_r3) (.ret)) (.skip))) (.seq (.reg c64_r4) (.seq (.reg c64_r5) (.seq (.reg c64_r6) (.seq (.reg c64_r7) (.seq (.reg c64_r8) (.seq (.reg c64_r9) (.seq (.seq (.reg c64_r10) (.cond (.t 103) (.seq (.reg c64_r11) (.ret)) (.skip))) (.seq (.seq (.reg c64_r12) (.cond (.t 124) (.seq (.reg c64_r13) (.ret)) (.skip))) (.seq (.reg c64_r14) (.ret)))))))))))
abbrev F64 : FnA := ⟨143, c64, [.t 4]⟩
theorem ok64 : cFn Tryz.prog 64 = some F64 := by kernel_rfl
theorem hb64 : HasBody Tryz.prog 64 := ⟨_, Tryz.func64, by kernel_rfl, by kernel_rfl⟩
/-! ref09.MayKey -/
abbrev c65_r1 : List Ins := [
  ⟨some 2, none, .box (.t 0)⟩,
  ⟨some 4, none, .mov (.c (.bool false))⟩]
abbrev c65_r2 : List Ins := [
  ⟨some 5, none, .faddr 0 (.t 2)⟩,
  ⟨some 6, none, .load 1 false (.t 5)⟩,
  ⟨some 7, none, .bin .geq (.t 6) (.c (.int .i64 (-1)))⟩,
  ⟨some 8, none, .mov (.t 7)⟩,
  ⟨some 9, some (8, true), .faddr 0 (.t 2)⟩,
  ⟨some 10, some (8, true), .load 1 false (.t 9)⟩,
  ⟨some 11, some (8, true), .mov (.t 1)⟩,
  ⟨some 12, some (8, true), .bin .lss (.t 10) (.t 11)⟩,
  ⟨some 13, none, .pick (.t 8) (.t 12) (.c (.bool false))⟩,
  ⟨some 14, none, .mov (.t 13)⟩,
  ⟨some 15, some (14, true), .faddr 1 (.t 2)⟩,
  ⟨some 16, some (14, true), .load 1 false (.t 15)⟩,
  ⟨some 17, some (14, true), .bin .geq (.t 16) (.c (.int .i64 0))⟩,
  ⟨some 18, none, .pick (.t 14) (.t 17) (.c (.bool false))⟩,
  ⟨some 19, none, .mov (.t 18)⟩,
  ⟨some 20, some (19, true), .faddr 1 (.t 2)⟩,
  ⟨some 21, some (19, true), .load 1 false (.t 20)⟩,
  ⟨some 22, some (19, true), .bin .leq (.t 21) (.c (.int .i64 900))⟩,
  ⟨some 23, none, .pick (.t 19) (.t 22) (.c (.bool false))⟩,
  ⟨some 4, none, .mov (.t 23)⟩]
abbrev c65 : IR := .seq (.reg c65_r1) (.seq (.reg c65_r2) (.ret))
abbrev F65 : FnA := ⟨24, c65, [.t 4]⟩
theorem ok65 : cFn Tryz.prog 65 = some F65 := by kernel_rfl
theorem hb65 : HasBody Tryz.prog 65 := ⟨_, Tryz.func65, by kernel_rfl, by kernel_rfl⟩
/-! codes.packed -/
abbrev c66_r1 : List Ins := [
  ⟨some 2, none, .mov (.c (.sl .full []))⟩]
abbrev c66_r2 : List Ins := [
  ⟨some 5, none, .mov (.t 0)⟩,
  ⟨some 6, none, .lenS (.t 5)⟩,
  ⟨some 7, none, .bin .add (.t 6) (.c (.int .i64 8))⟩,
  ⟨some 8, none, .bin .sub (.t 7) (.c (.int .i64 1))⟩,
  ⟨some 9, none, .bin .quo (.t 8) (.c (.int .i64 8))⟩,
  ⟨some 10, none, .mksl 1 8 [.int .u64 0] (.t 9) (.t 9)⟩,
  ⟨some 3, none, .mov (.t 10)⟩]
abbrev c66_r3 : List Ins := [
  ⟨some 11, none, .mov (.t 0)⟩,
  ⟨some 12, none, .lenS (.t 11)⟩,
  ⟨some 13, none, .mov (.c (.int .i64 0))⟩]
abbrev c66_r4 : List Ins := [
  ⟨some 14, none, .bin .lss (.t 13) (.t 12)⟩]
abbrev c66_r5 : List Ins := [
  ⟨some 15, none, .mov (.t 13)⟩,
  ⟨some 4, none, .mov (.t 15)⟩]
abbrev c66_r6 : List Ins := [
  ⟨some 16, none, .mov (.t 3)⟩,
  ⟨some 17, none, .mov (.t 4)⟩,
  ⟨some 18, none, .bin .quo (.t 17) (.c (.int .i64 8))⟩,
  ⟨some 19, none, .iaddr 1 (.t 16) (.t 18)⟩,
  ⟨some 20, none, .load 1 false (.t 19)⟩,
  ⟨some 21, none, .mov (.t 0)⟩,
  ⟨some 22, none, .mov (.t 4)⟩,
  ⟨some 23, none, .idxS (.t 21) (.t 22)⟩,
  ⟨some 24, none, .conv .u64 (.t 23)⟩,
  ⟨some 25, none, .mov (.t 4)⟩,
  ⟨some 26, none, .bin .rem (.t 25) (.c (.int .i64 8))⟩,
  ⟨some 27, none, .bin .mul (.c (.int .i64 8)) (.t 26)⟩,
  ⟨some 28, none, .bin .shl (.t 24) (.t 27)⟩,
  ⟨some 29, none, .bin .or (.t 20) (.t 28)⟩,
  ⟨some 30, none, .iaddr 1 (.t 16) (.t 18)⟩,
  ⟨none, none, .store 1 (.t 30) (.t 29)⟩]
def c66_a6 : List (List Nat) := [[], [], [1], [0, 2], [3], [], [], [5, 6], [7], [], [9], [10], [8, 11], [4, 12], [0, 2, 0, 1, 2, 3, 4, 5, 6, 7, 8, 9, 10, 11, 12, 13], [14, 13, 0, 1, 2, 3, 4, 5, 6, 7, 8, 9, 10, 11, 12, 13]]
abbrev c66_m6 : List Am.Mark := [⟨false, 0, 0⟩, ⟨false, 0, 0⟩, ⟨false, 0, 0⟩, ⟨false, 0, 0⟩, ⟨false, 0, 0⟩, ⟨false, 0, 0⟩, ⟨false, 0, 0⟩, ⟨false, 0, 0⟩, ⟨false, 0, 0⟩, ⟨false, 0, 0⟩, ⟨false, 0, 0⟩, ⟨false, 0, 0⟩, ⟨false, 0, 0⟩, ⟨false, 0, 0⟩, ⟨false, 0, 0⟩, ⟨true, 0, 1⟩]
theorem c66_d6 : drawFine c66_r6 c66_a6 c66_m6 = true := by decide +kernel
abbrev c66_r7 : List Ins := [
  ⟨some 31, none, .bin .add (.t 13) (.c (.int .i64 1))⟩,
  ⟨some 13, none, .mov (.t 31)⟩]
abbrev c66_l8 : IR := .seq (.reg c66_r4) (.seq (.cond (.t 14) (.skip) (.exit 0)) (.seq (.blk 1 (.seq (.reg c66_r5) (.dreg c66_r6 c66_a6))) (.reg c66_r7)))
abbrev c66_r9 : List Ins := [
  ⟨some 32, none, .mov (.t 3)⟩,
  ⟨some 2, none, .mov (.t 32)⟩]
abbrev c66 : IR := .seq (.reg c66_r1) (.seq (.reg c66_r2) (.seq (.seq (.reg c66_r3) (.blk 0 (.loop c66_l8))) (.seq (.reg c66_r9) (.ret))))
abbrev F66 : FnA := ⟨33, c66, [.t 2]⟩
theorem ok66 : cFn Tryz.prog 66 = some F66 := by kernel_rfl
theorem hb66 : HasBody Tryz.prog 66 := ⟨_, Tryz.func66, by kernel_rfl, by kernel_rfl⟩
/-! class.each$1 -/
abbrev c67_r1 : List Ins := [
  ⟨some 4, none, .faddr 2 (.t 1)⟩,
  ⟨some 5, none, .load 1 false (.t 4)⟩,
  ⟨some 6, none, .len (.t 5)⟩,
  ⟨some 7, none, .faddr 3 (.t 1)⟩,
  ⟨some 8, none, .load 1 false (.t 7)⟩,
  ⟨some 9, none, .len (.t 8)⟩,
  ⟨some 10, none, .mn [.t 6, .t 9]⟩,
  ⟨some 11, none, .mov (.c (.int .i64 0))⟩]
abbrev c67_r2 : List Ins := [
  ⟨some 12, none, .bin .lss (.t 11) (.t 10)⟩]
abbrev c67_r3 : List Ins := [
  ⟨some 13, none, .mov (.t 11)⟩,
  ⟨some 3, none, .mov (.t 13)⟩]
abbrev c67_r4 : List Ins := [
  ⟨some 14, none, .mov (.t 0)⟩,
  ⟨some 15, none, .faddr 2 (.t 1)⟩,
  ⟨some 16, none, .load 1 false (.t 15)⟩,
  ⟨some 17, none, .mov (.t 3)⟩,
  ⟨some 18, none, .iaddr 2 (.t 16) (.t 17)⟩,
  ⟨some 19, none, .load 2 true (.t 18)⟩,
  ⟨some 20, none, .faddr 3 (.t 1)⟩,
  ⟨some 21, none, .load 1 false (.t 20)⟩,
  ⟨some 22, none, .mov (.t 3)⟩,
  ⟨some 23, none, .iaddr 2 (.t 21) (.t 22)⟩,
  ⟨some 24, none, .load 2 true (.t 23)⟩,
  ⟨some 25, none, .call (.t 14) [.t 19, .t 24]⟩,
  ⟨some 26, none, .un .not (.t 25)⟩]
def c67_a4 : List (List Nat) := [[], [], [1], [], [2, 3], [4], [], [6], [], [7, 8], [9], [0, 5, 10], [11]]
abbrev c67_m4 : List Am.Mark := [⟨false, 0, 0⟩, ⟨false, 0, 1⟩, ⟨false, 0, 1⟩, ⟨false, 0, 1⟩, ⟨false, 0, 1⟩, ⟨false, 0, 0⟩, ⟨false, 0, 1⟩, ⟨false, 0, 1⟩, ⟨false, 0, 1⟩, ⟨false, 0, 1⟩, ⟨false, 0, 0⟩, ⟨true, 0, 1⟩, ⟨false, 1, 1⟩]
theorem c67_d4 : drawFine c67_r4 c67_a4 c67_m4 = true := by decide +kernel
abbrev c67_r5 : List Ins := [
  ⟨some 27, none, .bin .add (.t 11) (.c (.int .i64 1))⟩,
  ⟨some 11, none, .mov (.t 27)⟩]
abbrev c67_l6 : IR := .seq (.reg c67_r2) (.seq (.cond (.t 12) (.skip) (.exit 0)) (.seq (.blk 1 (.seq (.reg c67_r3) (.seq (.dreg c67_r4 c67_a4) (.cond (.t 26) (.ret) (.skip))))) (.reg c67_r5)))
abbrev c67 : IR := .seq (.reg c67_r1) (.blk 0 (.loop c67_l6))
abbrev F67 : FnA := ⟨28, c67, []⟩
theorem ok67 : cFn Tryz.prog 67 = some F67 := by kernel_rfl
theorem hb67 : HasBody Tryz.prog 67 := ⟨_, Tryz.func67, by kernel_rfl, by kernel_rfl⟩
/-! prog.Put -/
abbrev c68_r1 : List Ins := [
  ⟨some 8, none, .mov (.t 0)⟩,
  ⟨some 9, none, .mov (.t 1)⟩,
  ⟨some 10, none, .len (.t 9)⟩,
  ⟨some 11, none, .call (.c (.fn 20 [] [])) [.t 8, .t 10]⟩]
abbrev c68_r2 : List Ins := [
  ⟨some 12, none, .mov (.t 1)⟩,
  ⟨some 13, none, .len (.t 12)⟩,
  ⟨some 14, none, .mov (.c (.int .i64 0))⟩]
abbrev c68_r3 : List Ins := [
  ⟨some 15, none, .bin .lss (.t 14) (.t 13)⟩]
abbrev c68_r4 : List Ins := [
  ⟨some 16, none, .iaddr 9 (.t 12) (.t 14)⟩,
  ⟨some 17, none, .load 9 true (.t 16)⟩,
  ⟨some 5, none, .alloc [.int .i64 0, .int .i64 0, .int .i64 0, .int .i64 0, .int .i64 0, .int .i64 0, .int .i64 0, .int .i64 0, .int .i64 0]⟩,
  ⟨none, none, .store 9 (.t 5) (.t 17)⟩]
abbrev c68_r5 : List Ins := [
  ⟨some 18, none, .mov (.t 0)⟩,
  ⟨some 19, none, .faddr 0 (.t 5)⟩,
  ⟨some 20, none, .load 1 false (.t 19)⟩,
  ⟨some 21, none, .faddr 1 (.t 5)⟩,
  ⟨some 22, none, .load 1 false (.t 21)⟩,
  ⟨some 23, none, .faddr 2 (.t 5)⟩,
  ⟨some 24, none, .load 1 false (.t 23)⟩,
  ⟨some 25, none, .faddr 3 (.t 5)⟩,
  ⟨some 26, none, .load 1 false (.t 25)⟩,
  ⟨some 27, none, .bsl 1 4 [.int .i64 0] [(0, .t 20), (1, .t 22), (2, .t 24), (3, .t 26)]⟩,
  ⟨some 28, none, .call (.c (.fn 84 [] [])) [.t 18, .t 27]⟩]
abbrev c68_r6 : List Ins := [
  ⟨some 29, none, .faddr 4 (.t 5)⟩,
  ⟨some 30, none, .load 2 true (.t 29)⟩,
  ⟨some 31, none, .faddr 6 (.t 5)⟩,
  ⟨some 32, none, .load 2 true (.t 31)⟩,
  ⟨some 33, none, .bsl 2 2 [.int .i64 0, .int .i64 0] [(0, .t 30), (1, .t 32)]⟩,
  ⟨some 34, none, .len (.t 33)⟩,
  ⟨some 35, none, .mov (.c (.int .i64 0))⟩]
abbrev c68_r7 : List Ins := [
  ⟨some 36, none, .bin .lss (.t 35) (.t 34)⟩]
abbrev c68_r8 : List Ins := [
  ⟨some 37, none, .iaddr 2 (.t 33) (.t 35)⟩,
  ⟨some 38, none, .load 2 true (.t 37)⟩,
  ⟨some 7, none, .alloc [.int .i64 0, .int .i64 0]⟩,
  ⟨none, none, .store 2 (.t 7) (.t 38)⟩]
abbrev c68_r9 : List Ins := [
  ⟨some 39, none, .mov (.t 0)⟩,
  ⟨some 40, none, .faddr 0 (.t 7)⟩,
  ⟨some 41, none, .load 1 false (.t 40)⟩,
  ⟨some 42, none, .call (.c (.fn 85 [] [])) [.t 39, .t 41]⟩]
abbrev c68_r10 : List Ins := [
  ⟨some 43, none, .mov (.t 0)⟩,
  ⟨some 44, none, .faddr 1 (.t 7)⟩,
  ⟨some 45, none, .load 1 false (.t 44)⟩,
  ⟨some 46, none, .call (.c (.fn 20 [] [])) [.t 43, .t 45]⟩]
abbrev c68_r11 : List Ins := [
  ⟨some 47, none, .bin .add (.t 35) (.c (.int .i64 1))⟩,
  ⟨some 35, none, .mov (.t 47)⟩]
abbrev c68_l12 : IR := .seq (.reg c68_r7) (.seq (.cond (.t 36) (.skip) (.exit 2)) (.seq (.blk 3 (.seq (.reg c68_r8) (.seq (.reg c68_r9) (.reg c68_r10)))) (.reg c68_r11)))
abbrev c68_r13 : List Ins := [
  ⟨some 48, none, .mov (.t 0)⟩,
  ⟨some 49, none, .faddr 8 (.t 5)⟩,
  ⟨some 50, none, .load 1 false (.t 49)⟩,
  ⟨some 51, none, .call (.c (.fn 85 [] [])) [.t 48, .t 50]⟩]
abbrev c68_r14 : List Ins := [
  ⟨some 52, none, .bin .add (.t 14) (.c (.int .i64 1))⟩,
  ⟨some 14, none, .mov (.t 52)⟩]
abbrev c68_l15 : IR := .seq (.reg c68_r3) (.seq (.cond (.t 15) (.skip) (.exit 0)) (.seq (.blk 1 (.seq (.reg c68_r4) (.seq (.reg c68_r5) (.seq (.seq (.reg c68_r6) (.blk 2 (.loop c68_l12))) (.reg c68_r13))))) (.reg c68_r14)))
abbrev c68 : IR := .seq (.reg c68_r1) (.seq (.reg c68_r2) (.blk 0 (.loop c68_l15)))
abbrev F68 : FnA := ⟨53, c68, []⟩
theorem ok68 : cFn Tryz.prog 68 = some F68 := by kernel_rfl
theorem hb68 : HasBody Tryz.prog 68 := ⟨_, Tryz.func68, by kernel_rfl, by kernel_rfl⟩
/-! foot.Put -/
abbrev c69_r1 : List Ins := [
  ⟨some 6, none, .mov (.t 0)⟩,
  ⟨some 7, none, .mov (.t 1)⟩,
  ⟨some 8, none, .len (.t 7)⟩,
  ⟨some 9, none, .call (.c (.fn 20 [] [])) [.t 6, .t 8]⟩]
abbrev c69_r2 : List Ins := [
  ⟨some 10, none, .mov (.t 1)⟩,
  ⟨some 11, none, .len (.t 10)⟩,
  ⟨some 12, none, .mov (.c (.int .i64 0))⟩]
abbrev c69_r3 : List Ins := [
  ⟨some 13, none, .bin .lss (.t 12) (.t 11)⟩]
abbrev c69_r4 : List Ins := [
  ⟨some 14, none, .iaddr 5 (.t 10) (.t 12)⟩,
  ⟨some 15, none, .load 5 true (.t 14)⟩,
  ⟨some 5, none, .alloc [.int .i64 0, .int .i64 0, .int .i64 0, .int .i64 0, .bool false]⟩,
  ⟨none, none, .store 5 (.t 5) (.t 15)⟩]
abbrev c69_r5 : List Ins := [
  ⟨some 16, none, .mov (.t 0)⟩,
  ⟨some 17, none, .faddr 0 (.t 5)⟩,
  ⟨some 18, none, .load 2 true (.t 17)⟩,
  ⟨some 19, none, .faddr 2 (.t 5)⟩,
  ⟨some 20, none, .load 2 true (.t 19)⟩,
  ⟨some 21, none, .bsl 2 2 [.int .i64 0, .int .i64 0] [(0, .t 18), (1, .t 20)]⟩,
  ⟨some 22, none, .call (.c (.fn 86 [] [])) [.t 16, .t 21]⟩]
abbrev c69_r6 : List Ins := [
  ⟨some 23, none, .mov (.t 0)⟩,
  ⟨some 24, none, .faddr 4 (.t 5)⟩,
  ⟨some 25, none, .load 1 false (.t 24)⟩,
  ⟨some 26, none, .call (.c (.fn 45 [] [])) [.t 23, .t 25]⟩]
abbrev c69_r7 : List Ins := [
  ⟨some 27, none, .bin .add (.t 12) (.c (.int .i64 1))⟩,
  ⟨some 12, none, .mov (.t 27)⟩]
abbrev c69_l8 : IR := .seq (.reg c69_r3) (.seq (.cond (.t 13) (.skip) (.exit 0)) (.seq (.blk 1 (.seq (.reg c69_r4) (.seq (.reg c69_r5) (.reg c69_r6)))) (.reg c69_r7)))
abbrev c69 : IR := .seq (.reg c69_r1) (.seq (.reg c69_r2) (.blk 0 (.loop c69_l8)))
abbrev F69 : FnA := ⟨28, c69, []⟩
theorem ok69 : cFn Tryz.prog 69 = some F69 := by kernel_rfl
theorem hb69 : HasBody Tryz.prog 69 := ⟨_, Tryz.func69, by kernel_rfl, by kernel_rfl⟩
/-! codes.Reader.take -/
abbrev c70_r1 : List Ins := [
  ⟨some 4, none, .mov (.c (.sl .full []))⟩]
abbrev c70_r2 : List Ins := [
  ⟨some 6, none, .mov (.t 0)⟩,
  ⟨some 7, none, .nilck (.t 6)⟩,
  ⟨some 8, none, .faddr 1 (.t 7)⟩,
  ⟨some 9, none, .load 1 false (.t 8)⟩,
  ⟨some 10, none, .mov (.t 9)⟩,
  ⟨some 11, some (10, false), .mov (.t 1)⟩,
  ⟨some 12, some (10, false), .mov (.t 0)⟩,
  ⟨some 13, some (10, false), .nilck (.t 12)⟩,
  ⟨some 14, some (10, false), .faddr 0 (.t 13)⟩,
  ⟨some 15, some (10, false), .load 1 false (.t 14)⟩,
  ⟨some 16, some (10, false), .len (.t 15)⟩,
  ⟨some 17, some (10, false), .bin .gtr (.t 11) (.t 16)⟩,
  ⟨some 18, none, .pick (.t 10) (.c (.bool true)) (.t 17)⟩]
abbrev c70_r3 : List Ins := [
  ⟨some 19, none, .mov (.t 0)⟩,
  ⟨some 20, none, .nilck (.t 19)⟩,
  ⟨some 21, none, .faddr 1 (.t 20)⟩,
  ⟨none, none, .store 1 (.t 21) (.c (.bool true))⟩]
abbrev c70_r4 : List Ins := [
  ⟨some 4, none, .mov (.c (.sl .full []))⟩]
abbrev c70_r5 : List Ins := [
  ⟨some 22, none, .mov (.t 0)⟩,
  ⟨some 23, none, .nilck (.t 22)⟩,
  ⟨some 24, none, .faddr 0 (.t 23)⟩,
  ⟨some 25, none, .load 1 false (.t 24)⟩,
  ⟨some 26, none, .mov (.t 1)⟩,
  ⟨some 27, none, .slice 1 (.t 25) none (some (.t 26)) none⟩,
  ⟨some 28, none, .call (.c (.fn 23 [] [])) [.t 27]⟩,
  ⟨some 5, none, .mov (.t 28)⟩]
abbrev c70_r6 : List Ins := [
  ⟨some 29, none, .mov (.t 0)⟩,
  ⟨some 30, none, .mov (.t 0)⟩,
  ⟨some 31, none, .nilck (.t 30)⟩,
  ⟨some 32, none, .faddr 0 (.t 31)⟩,
  ⟨some 33, none, .load 1 false (.t 32)⟩,
  ⟨some 34, none, .mov (.t 1)⟩,
  ⟨some 35, none, .slice 1 (.t 33) (some (.t 34)) none none⟩,
  ⟨some 36, none, .nilck (.t 29)⟩,
  ⟨some 37, none, .faddr 0 (.t 36)⟩,
  ⟨none, none, .store 1 (.t 37) (.t 35)⟩]
abbrev c70_r7 : List Ins := [
  ⟨some 38, none, .mov (.t 5)⟩,
  ⟨some 4, none, .mov (.t 38)⟩]
abbrev c70 : IR := .seq (.reg c70_r1) (.seq (.seq (.reg c70_r2) (.cond (.t 18) (.seq (.reg c70_r3) (.seq (.reg c70_r4) (.ret))) (.skip))) (.seq (.reg c70_r5) (.seq (.reg c70_r6) (.seq (.reg c70_r7) (.ret)))))
abbrev F70 : FnA := ⟨39, c70, [.t 4]⟩
theorem ok70 : cFn Tryz.prog 70 = some F70 := by kernel_rfl
theorem hb70 : HasBody Tryz.prog 70 := ⟨_, Tryz.func70, by kernel_rfl, by kernel_rfl⟩
/-! slices.Equal:uint64 -/
abbrev c71_r1 : List Ins := [
  ⟨some 4, none, .mov (.c (.bool false))⟩]
abbrev c71_r2 : List Ins := [
  ⟨some 6, none, .mov (.t 0)⟩,
  ⟨some 7, none, .len (.t 6)⟩,
  ⟨some 8, none, .mov (.t 1)⟩,
  ⟨some 9, none, .len (.t 8)⟩,
  ⟨some 10, none, .bin .neq (.t 7) (.t 9)⟩]
abbrev c71_r3 : List Ins := [
  ⟨some 4, none, .mov (.c (.bool false))⟩]
abbrev c71_r4 : List Ins := [
  ⟨some 11, none, .mov (.t 0)⟩,
  ⟨some 12, none, .len (.t 11)⟩,
  ⟨some 13, none, .mov (.c (.int .i64 0))⟩]
abbrev c71_r5 : List Ins := [
  ⟨some 14, none, .bin .lss (.t 13) (.t 12)⟩]
abbrev c71_r6 : List Ins := [
  ⟨some 15, none, .mov (.t 13)⟩,
  ⟨some 5, none, .mov (.t 15)⟩]
abbrev c71_r7 : List Ins := [
  ⟨some 16, none, .mov (.t 0)⟩,
  ⟨some 17, none, .mov (.t 5)⟩,
  ⟨some 18, none, .iaddr 1 (.t 16) (.t 17)⟩,
  ⟨some 19, none, .load 1 false (.t 18)⟩,
  ⟨some 20, none, .mov (.t 1)⟩,
  ⟨some 21, none, .mov (.t 5)⟩,
  ⟨some 22, none, .iaddr 1 (.t 20) (.t 21)⟩,
  ⟨some 23, none, .load 1 false (.t 22)⟩,
  ⟨some 24, none, .bin .neq (.t 19) (.t 23)⟩]
def c71_a7 : List (List Nat) := [[], [], [0, 1], [2], [], [], [4, 5], [6], [3, 7]]
abbrev c71_m7 : List Am.Mark := [⟨false, 0, 0⟩, ⟨false, 0, 0⟩, ⟨false, 0, 0⟩, ⟨false, 0, 0⟩, ⟨false, 0, 0⟩, ⟨false, 0, 0⟩, ⟨false, 0, 0⟩, ⟨false, 0, 0⟩, ⟨false, 0, 0⟩]
theorem c71_d7 : drawFine c71_r7 c71_a7 c71_m7 = true := by decide +kernel
abbrev c71_r8 : List Ins := [
  ⟨some 4, none, .mov (.c (.bool false))⟩]
abbrev c71_r9 : List Ins := [
  ⟨some 25, none, .bin .add (.t 13) (.c (.int .i64 1))⟩,
  ⟨some 13, none, .mov (.t 25)⟩]
abbrev c71_l10 : IR := .seq (.reg c71_r5) (.seq (.cond (.t 14) (.skip) (.exit 0)) (.seq (.blk 1 (.seq (.reg c71_r6) (.seq (.dreg c71_r7 c71_a7) (.cond (.t 24) (.seq (.reg c71_r8) (.ret)) (.skip))))) (.reg c71_r9)))
abbrev c71_r11 : List Ins := [
  ⟨some 4, none, .mov (.c (.bool true))⟩]
abbrev c71 : IR := .seq (.reg c71_r1) (.seq (.seq (.reg c71_r2) (.cond (.t 10) (.seq (.reg c71_r3) (.ret)) (.skip))) (.seq (.seq (.reg c71_r4) (.blk 0 (.loop c71_l10))) (.seq (.reg c71_r11) (.ret))))
abbrev F71 : FnA := ⟨26, c71, [.t 4]⟩
theorem ok71 : cFn Tryz.prog 71 = some F71 := by kernel_rfl
theorem hb71 : HasBody Tryz.prog 71 := ⟨_, Tryz.func71, by kernel_rfl, by kernel_rfl⟩
/-! prog.Get -/
abbrev c72_r1 : List Ins := [
  ⟨some 2, none, .mov (.c (.sl .full []))⟩]
abbrev c72_r2 : List Ins := [
  ⟨some 3, none, .mov (.c (.sl .full []))⟩]
abbrev c72_r3 : List Ins := [
  ⟨some 6, none, .mov (.t 0)⟩,
  ⟨some 7, none, .call (.c (.fn 24 [] [])) [.t 6, .c (.int .i64 8)]⟩,
  ⟨some 8, none, .mov (.c (.int .i64 0))⟩]
abbrev c72_r4 : List Ins := [
  ⟨some 9, none, .bin .lss (.t 8) (.t 7)⟩]
abbrev c72_r5 : List Ins := [
  ⟨some 10, none, .mov (.t 0)⟩,
  ⟨some 11, none, .mkfn 24 [.t 10] []⟩,
  ⟨some 4, none, .mov (.t 11)⟩]
abbrev c72_r6 : List Ins := [
  ⟨some 12, none, .mov (.t 4)⟩,
  ⟨some 13, none, .call (.t 12) [.c (.int .i64 255)]⟩,
  ⟨some 14, none, .mov (.t 4)⟩,
  ⟨some 15, none, .call (.t 14) [.c (.int .i64 255)]⟩,
  ⟨some 16, none, .mov (.t 4)⟩,
  ⟨some 17, none, .call (.t 16) [.c (.int .i64 255)]⟩,
  ⟨some 18, none, .mov (.t 4)⟩,
  ⟨some 19, none, .call (.t 18) [.c (.int .i64 255)]⟩,
  ⟨some 20, none, .build [.int .i64 0, .int .i64 0, .int .i64 0, .int .i64 0, .int .i64 0, .int .i64 0, .int .i64 0, .int .i64 0, .int .i64 0] [(0, (1, .t 13)), (1, (1, .t 15)), (2, (1, .t 17)), (3, (1, .t 19))]⟩,
  ⟨some 5, none, .alloc [.int .i64 0, .int .i64 0, .int .i64 0, .int .i64 0, .int .i64 0, .int .i64 0, .int .i64 0, .int .i64 0, .int .i64 0]⟩,
  ⟨none, none, .store 9 (.t 5) (.t 20)⟩]
abbrev c72_r7 : List Ins := [
  ⟨some 21, none, .mov (.t 0)⟩,
  ⟨some 22, none, .call (.c (.fn 87 [] [])) [.t 21]⟩,
  ⟨some 23, none, .mov (.t 0)⟩,
  ⟨some 24, none, .call (.c (.fn 87 [] [])) [.t 23]⟩,
  ⟨some 25, none, .faddr 4 (.t 5)⟩,
  ⟨none, none, .store 2 (.t 25) (.t 22)⟩,
  ⟨some 26, none, .faddr 6 (.t 5)⟩,
  ⟨none, none, .store 2 (.t 26) (.t 24)⟩]
abbrev c72_r8 : List Ins := [
  ⟨some 27, none, .mov (.t 0)⟩,
  ⟨some 28, none, .call (.c (.fn 88 [] [])) [.t 27]⟩,
  ⟨some 29, none, .faddr 8 (.t 5)⟩,
  ⟨none, none, .store 1 (.t 29) (.t 28)⟩]
abbrev c72_r9 : List Ins := [
  ⟨some 30, none, .mov (.t 3)⟩,
  ⟨some 31, none, .load 9 true (.t 5)⟩,
  ⟨some 32, none, .bsl 9 1 [.int .i64 0, .int .i64 0, .int .i64 0, .int .i64 0, .int .i64 0, .int .i64 0, .int .i64 0, .int .i64 0, .int .i64 0] [(0, .t 31)]⟩,
  ⟨some 33, none, .append 9 72 (.t 30) (.t 32)⟩,
  ⟨some 3, none, .mov (.t 33)⟩]
abbrev c72_r10 : List Ins := [
  ⟨some 34, none, .bin .add (.t 8) (.c (.int .i64 1))⟩,
  ⟨some 8, none, .mov (.t 34)⟩]
abbrev c72_l11 : IR := .seq (.reg c72_r4) (.seq (.cond (.t 9) (.skip) (.exit 0)) (.seq (.blk 1 (.seq (.reg c72_r5) (.seq (.reg c72_r6) (.seq (.reg c72_r7) (.seq (.reg c72_r8) (.reg c72_r9)))))) (.reg c72_r10)))
abbrev c72_r12 : List Ins := [
  ⟨some 35, none, .mov (.t 0)⟩,
  ⟨some 36, none, .call (.c (.fn 28 [] [])) [.t 35]⟩,
  ⟨some 37, none, .un .not (.t 36)⟩]
abbrev c72_r13 : List Ins := [
  ⟨some 2, none, .mov (.c (.sl .full []))⟩]
abbrev c72_r14 : List Ins := [
  ⟨some 38, none, .mov (.t 3)⟩,
  ⟨some 2, none, .mov (.t 38)⟩]
abbrev c72 : IR := .seq (.reg c72_r1) (.seq (.reg c72_r2) (.seq (.seq (.reg c72_r3) (.blk 0 (.loop c72_l11))) (.seq (.seq (.reg c72_r12) (.cond (.t 37) (.seq (.reg c72_r13) (.ret)) (.skip))) (.seq (.reg c72_r14) (.ret)))))
abbrev F72 : FnA := ⟨39, c72, [.t 2]⟩
theorem ok72 : cFn Tryz.prog 72 = some F72 := by kernel_rfl
theorem hb72 : HasBody Tryz.prog 72 := ⟨_, Tryz.func72, by kernel_rfl, by kernel_rfl⟩
/-! foot.Get -/
abbrev c73_r1 : List Ins := [
  ⟨some 2, none, .mov (.c (.sl .full []))⟩]
abbrev c73_r2 : List Ins := [
  ⟨some 3, none, .mov (.c (.sl .full []))⟩]
abbrev c73_r3 : List Ins := [
  ⟨some 6, none, .mov (.t 0)⟩,
  ⟨some 7, none, .call (.c (.fn 24 [] [])) [.t 6, .c (.int .i64 4)]⟩,
  ⟨some 8, none, .mov (.c (.int .i64 0))⟩]
abbrev c73_r4 : List Ins := [
  ⟨some 9, none, .bin .lss (.t 8) (.t 7)⟩]
abbrev c73_r5 : List Ins := [
  ⟨some 10, none, .mov (.t 0)⟩,
  ⟨some 11, none, .call (.c (.fn 89 [] [])) [.t 10]⟩,
  ⟨some 12, none, .mov (.t 0)⟩,
  ⟨some 13, none, .call (.c (.fn 89 [] [])) [.t 12]⟩,
  ⟨some 4, none, .alloc [.int .i64 0, .int .i64 0]⟩,
  ⟨some 5, none, .alloc [.int .i64 0, .int .i64 0]⟩,
  ⟨none, none, .store 2 (.t 4) (.t 11)⟩,
  ⟨none, none, .store 2 (.t 5) (.t 13)⟩]
abbrev c73_r6 : List Ins := [
  ⟨some 14, none, .mov (.t 3)⟩,
  ⟨some 15, none, .load 2 true (.t 4)⟩,
  ⟨some 16, none, .load 2 true (.t 5)⟩,
  ⟨some 17, none, .mov (.t 0)⟩,
  ⟨some 18, none, .call (.c (.fn 51 [] [])) [.t 17]⟩,
  ⟨some 19, none, .build [.int .i64 0, .int .i64 0, .int .i64 0, .int .i64 0, .bool false] [(0, (2, .t 15)), (2, (2, .t 16)), (4, (1, .t 18))]⟩,
  ⟨some 20, none, .bsl 5 1 [.int .i64 0, .int .i64 0, .int .i64 0, .int .i64 0, .bool false] [(0, .t 19)]⟩,
  ⟨some 21, none, .append 5 40 (.t 14) (.t 20)⟩,
  ⟨some 3, none, .mov (.t 21)⟩]
def c73_a6 : List (List Nat) := [[], [], [], [], [3], [1, 2, 4], [5], [0, 6, 4], [7, 7, 0, 1, 2, 3, 4, 5, 6, 7]]
abbrev c73_m6 : List Am.Mark := [⟨false, 0, 1⟩, ⟨false, 0, 2⟩, ⟨false, 0, 2⟩, ⟨false, 0, 0⟩, ⟨true, 0, 1⟩, ⟨false, 1, 2⟩, ⟨false, 1, 1⟩, ⟨true, 1, 2⟩, ⟨false, 2, 2⟩]
theorem c73_d6 : drawFine c73_r6 c73_a6 c73_m6 = true := by decide +kernel
abbrev c73_r7 : List Ins := [
  ⟨some 22, none, .bin .add (.t 8) (.c (.int .i64 1))⟩,
  ⟨some 8, none, .mov (.t 22)⟩]
abbrev c73_l8 : IR := .seq (.reg c73_r4) (.seq (.cond (.t 9) (.skip) (.exit 0)) (.seq (.blk 1 (.seq (.reg c73_r5) (.dreg c73_r6 c73_a6))) (.reg c73_r7)))
abbrev c73_r9 : List Ins := [
  ⟨some 23, none, .mov (.t 0)⟩,
  ⟨some 24, none, .call (.c (.fn 28 [] [])) [.t 23]⟩,
  ⟨some 25, none, .un .not (.t 24)⟩]
abbrev c73_r10 : List Ins := [
  ⟨some 2, none, .mov (.c (.sl .full []))⟩]
abbrev c73_r11 : List Ins := [
  ⟨some 26, none, .mov (.t 3)⟩,
  ⟨some 2, none, .mov (.t 26)⟩]
abbrev c73 : IR := .seq (.reg c73_r1) (.seq (.reg c73_r2) (.seq (.seq (.reg c73_r3) (.blk 0 (.loop c73_l8))) (.seq (.seq (.reg c73_r9) (.cond (.t 25) (.seq (.reg c73_r10) (.ret)) (.skip))) (.seq (.reg c73_r11) (.ret)))))
abbrev F73 : FnA := ⟨27, c73, [.t 2]⟩
theorem ok73 : cFn Tryz.prog 73 = some F73 := by kernel_rfl
theorem hb73 : HasBody Tryz.prog 73 := ⟨_, Tryz.func73, by kernel_rfl, by kernel_rfl⟩
/-! prog.May -/
abbrev c74_r1 : List Ins := [
  ⟨some 3, none, .box (.t 1)⟩,
  ⟨some 4, none, .mov (.c (.bool false))⟩]
abbrev c74_r2 : List Ins := [
  ⟨some 5, none, .load 1 false (.t 3)⟩,
  ⟨some 6, none, .bin .lss (.t 5) (.c (.int .i64 0))⟩,
  ⟨some 7, none, .mov (.t 6)⟩,
  ⟨some 8, some (7, false), .load 1 false (.t 3)⟩,
  ⟨some 9, some (7, false), .bin .gtr (.t 8) (.c (.int .i64 3))⟩,
  ⟨some 10, none, .pick (.t 7) (.c (.bool true)) (.t 9)⟩,
  ⟨some 11, none, .mov (.t 10)⟩,
  ⟨some 12, some (11, false), .mov (.t 0)⟩,
  ⟨some 13, some (11, false), .len (.t 12)⟩,
  ⟨some 14, some (11, false), .bin .lss (.t 13) (.c (.int .i64 1))⟩,
  ⟨some 15, none, .pick (.t 11) (.c (.bool true)) (.t 14)⟩,
  ⟨some 16, none, .mov (.t 15)⟩,
  ⟨some 17, some (16, false), .mov (.t 0)⟩,
  ⟨some 18, some (16, false), .len (.t 17)⟩,
  ⟨some 19, some (16, false), .bin .gtr (.t 18) (.c (.int .i64 8))⟩,
  ⟨some 20, none, .pick (.t 16) (.c (.bool true)) (.t 19)⟩]
abbrev c74_r3 : List Ins := [
  ⟨some 4, none, .mov (.c (.bool false))⟩]
abbrev c74_r4 : List Ins := [
  ⟨some 21, none, .mov (.t 0)⟩,
  ⟨some 22, none, .mkfn 91 [] [.t 3]⟩,
  ⟨some 23, none, .call (.c (.fn 90 [] [])) [.t 21, .t 22]⟩,
  ⟨some 24, none, .un .not (.t 23)⟩,
  ⟨some 4, none, .mov (.t 24)⟩]
abbrev c74 : IR := .seq (.reg c74_r1) (.seq (.seq (.reg c74_r2) (.cond (.t 20) (.seq (.reg c74_r3) (.ret)) (.skip))) (.seq (.reg c74_r4) (.ret)))
abbrev F74 : FnA := ⟨25, c74, [.t 4]⟩
theorem ok74 : cFn Tryz.prog 74 = some F74 := by kernel_rfl
theorem hb74 : HasBody Tryz.prog 74 := ⟨_, Tryz.func74, by kernel_rfl, by kernel_rfl⟩
/-! foot.May -/
abbrev c75_r1 : List Ins := [
  ⟨some 3, none, .box (.t 1)⟩,
  ⟨some 4, none, .mov (.c (.bool false))⟩]
abbrev c75_r2 : List Ins := [
  ⟨some 6, none, .mkfn 93 [] [.t 3]⟩,
  ⟨some 5, none, .mov (.t 6)⟩]
abbrev c75_r3 : List Ins := [
  ⟨some 7, none, .load 1 false (.t 3)⟩,
  ⟨some 8, none, .bin .geq (.t 7) (.c (.int .i64 0))⟩,
  ⟨some 9, none, .mov (.t 8)⟩,
  ⟨some 10, some (9, true), .load 1 false (.t 3)⟩,
  ⟨some 11, some (9, true), .bin .leq (.t 10) (.c (.int .i64 3))⟩,
  ⟨some 12, none, .pick (.t 9) (.t 11) (.c (.bool false))⟩,
  ⟨some 13, none, .mov (.t 12)⟩,
  ⟨some 14, some (13, true), .mov (.t 0)⟩,
  ⟨some 15, some (13, true), .len (.t 14)⟩,
  ⟨some 16, some (13, true), .bin .leq (.t 15) (.c (.int .i64 4))⟩,
  ⟨some 17, none, .pick (.t 13) (.t 16) (.c (.bool false))⟩,
  ⟨some 18, none, .mov (.t 17)⟩,
  ⟨some 19, some (18, true), .mov (.t 0)⟩,
  ⟨some 20, some (18, true), .mov (.t 5)⟩,
  ⟨some 21, some (18, true), .call (.c (.fn 95 [] [])) [.t 19, .t 20]⟩,
  ⟨some 22, some (18, true), .un .not (.t 21)⟩,
  ⟨some 23, none, .pick (.t 18) (.t 22) (.c (.bool false))⟩,
  ⟨some 4, none, .mov (.t 23)⟩]
abbrev c75 : IR := .seq (.reg c75_r1) (.seq (.reg c75_r2) (.seq (.reg c75_r3) (.ret)))
abbrev F75 : FnA := ⟨24, c75, [.t 4]⟩
theorem ok75 : cFn Tryz.prog 75 = some F75 := by kernel_rfl
theorem hb75 : HasBody Tryz.prog 75 := ⟨_, Tryz.func75, by kernel_rfl, by kernel_rfl⟩
/-! class.mayComp -/
abbrev c76_r1 : List Ins := [
  ⟨some 2, none, .box (.t 0)⟩,
  ⟨some 4, none, .mov (.c (.bool false))⟩]
abbrev c76_r2 : List Ins := [
  ⟨some 5, none, .faddr 0 (.t 2)⟩,
  ⟨some 6, none, .load 1 false (.t 5)⟩,
  ⟨some 7, none, .len (.t 6)⟩,
  ⟨some 8, none, .bin .eql (.t 7) (.c (.int .i64 0))⟩,
  ⟨some 9, none, .mov (.t 8)⟩,
  ⟨some 10, some (9, false), .faddr 0 (.t 2)⟩,
  ⟨some 11, some (9, false), .load 1 false (.t 10)⟩,
  ⟨some 12, some (9, false), .mov (.t 1)⟩,
  ⟨some 13, some (9, false), .call (.c (.fn 74 [] [])) [.t 11, .t 12]⟩,
  ⟨some 14, some (9, false), .mov (.t 13)⟩,
  ⟨some 15, some (14, true), .faddr 0 (.t 2)⟩,
  ⟨some 16, some (14, true), .load 1 false (.t 15)⟩,
  ⟨some 17, some (14, true), .call (.c (.fn 96 [] [])) [.t 16]⟩,
  ⟨some 18, some (9, false), .pick (.t 14) (.t 17) (.c (.bool false))⟩,
  ⟨some 19, none, .pick (.t 9) (.c (.bool true)) (.t 18)⟩,
  ⟨some 20, none, .mov (.t 19)⟩,
  ⟨some 21, some (20, true), .faddr 1 (.t 2)⟩,
  ⟨some 22, some (20, true), .load 1 false (.t 21)⟩,
  ⟨some 23, some (20, true), .mov (.t 1)⟩,
  ⟨some 24, some (20, true), .call (.c (.fn 75 [] [])) [.t 22, .t 23]⟩,
  ⟨some 25, none, .pick (.t 20) (.t 24) (.c (.bool false))⟩,
  ⟨some 4, none, .mov (.t 25)⟩]
abbrev c76 : IR := .seq (.reg c76_r1) (.seq (.reg c76_r2) (.ret))
abbrev F76 : FnA := ⟨26, c76, [.t 4]⟩
theorem ok76 : cFn Tryz.prog 76 = some F76 := by kernel_rfl
theorem hb76 : HasBody Tryz.prog 76 := ⟨_, Tryz.func76, by kernel_rfl, by kernel_rfl⟩
/-! ref09.keyItems -/
abbrev c77_r1 : List Ins := [
  ⟨some 1, none, .box (.t 0)⟩,
  ⟨some 2, none, .mov (.c (.sl .full []))⟩]
abbrev c77_r2 : List Ins := [
  ⟨some 3, none, .faddr 0 (.t 1)⟩,
  ⟨some 4, none, .load 1 false (.t 3)⟩,
  ⟨some 5, none, .build [.int .i64 0, .int .i64 0, .int .i64 0, .int .i64 0, .str ⟨#[]⟩, .sl .full []] [(0, (1, .c (.int .i64 1))), (3, (1, .t 4))]⟩,
  ⟨some 6, none, .faddr 1 (.t 1)⟩,
  ⟨some 7, none, .load 1 false (.t 6)⟩,
  ⟨some 8, none, .build [.int .i64 0, .int .i64 0, .int .i64 0, .int .i64 0, .str ⟨#[]⟩, .sl .full []] [(1, (1, .t 7)), (2, (1, .c (.int .i64 999)))]⟩,
  ⟨some 9, none, .bsl 6 2 [.int .i64 0, .int .i64 0, .int .i64 0, .int .i64 0, .str ⟨#[]⟩, .sl .full []] [(0, .t 5), (1, .t 8)]⟩,
  ⟨some 2, none, .mov (.t 9)⟩]
abbrev c77 : IR := .seq (.reg c77_r1) (.seq (.reg c77_r2) (.ret))
abbrev F77 : FnA := ⟨10, c77, [.t 2]⟩
theorem ok77 : cFn Tryz.prog 77 = some F77 := by kernel_rfl
theorem hb77 : HasBody Tryz.prog 77 := ⟨_, Tryz.func77, by kernel_rfl, by kernel_rfl⟩
/-! ref09.Same -/
abbrev c78_r1 : List Ins := [
  ⟨some 4, none, .mov (.c (.bool false))⟩]
abbrev c78_r2 : List Ins := [
  ⟨some 6, none, .mov (.t 0)⟩,
  ⟨some 7, none, .len (.t 6)⟩,
  ⟨some 8, none, .mov (.t 1)⟩,
  ⟨some 9, none, .len (.t 8)⟩,
  ⟨some 10, none, .bin .neq (.t 7) (.t 9)⟩]
abbrev c78_r3 : List Ins := [
  ⟨some 4, none, .mov (.c (.bool false))⟩]
abbrev c78_r4 : List Ins := [
  ⟨some 5, none, .mov (.c (.int .i64 0))⟩]
abbrev c78_r5 : List Ins := [
  ⟨some 11, none, .mov (.t 5)⟩,
  ⟨some 12, none, .mov (.t 0)⟩,
  ⟨some 13, none, .len (.t 12)⟩,
  ⟨some 14, none, .bin .lss (.t 11) (.t 13)⟩]
abbrev c78_r6 : List Ins := [
  ⟨some 17, none, .mov (.t 0)⟩,
  ⟨some 18, none, .mov (.t 5)⟩,
  ⟨some 19, none, .iaddr 9 (.t 17) (.t 18)⟩,
  ⟨some 20, none, .load 9 true (.t 19)⟩,
  ⟨some 21, none, .mov (.t 1)⟩,
  ⟨some 22, none, .mov (.t 5)⟩,
  ⟨some 23, none, .iaddr 9 (.t 21) (.t 22)⟩,
  ⟨some 24, none, .load 9 true (.t 23)⟩,
  ⟨some 25, none, .eq [.i, .i, .i, .i, .i, .i, .i, .i, .i] true true (.t 20) (.t 24)⟩]
def c78_a6 : List (List Nat) := [[], [], [0, 1], [2], [], [], [4, 5], [6], [3, 7]]
abbrev c78_m6 : List Am.Mark := [⟨false, 0, 0⟩, ⟨false, 0, 0⟩, ⟨false, 0, 0⟩, ⟨false, 0, 0⟩, ⟨false, 0, 0⟩, ⟨false, 0, 0⟩, ⟨false, 0, 0⟩, ⟨false, 0, 0⟩, ⟨false, 0, 0⟩]
theorem c78_d6 : drawFine c78_r6 c78_a6 c78_m6 = true := by decide +kernel
abbrev c78_r7 : List Ins := [
  ⟨some 4, none, .mov (.c (.bool false))⟩]
abbrev c78_r8 : List Ins := [
  ⟨some 15, none, .mov (.t 5)⟩,
  ⟨some 16, none, .bin .add (.t 15) (.c (.int .i64 1))⟩,
  ⟨some 5, none, .mov (.t 16)⟩]
abbrev c78_l9 : IR := .seq (.seq (.reg c78_r5) (.cond (.t 14) (.skip) (.exit 0))) (.seq (.blk 1 (.seq (.dreg c78_r6 c78_a6) (.cond (.t 25) (.seq (.reg c78_r7) (.ret)) (.skip)))) (.reg c78_r8))
abbrev c78_r10 : List Ins := [
  ⟨some 4, none, .mov (.c (.bool true))⟩]
abbrev c78 : IR := .seq (.reg c78_r1) (.seq (.seq (.reg c78_r2) (.cond (.t 10) (.seq (.reg c78_r3) (.ret)) (.skip))) (.seq (.seq (.reg c78_r4) (.blk 0 (.loop c78_l9))) (.seq (.reg c78_r10) (.ret))))
abbrev F78 : FnA := ⟨26, c78, [.t 4]⟩
theorem ok78 : cFn Tryz.prog 78 = some F78 := by kernel_rfl
theorem hb78 : HasBody Tryz.prog 78 := ⟨_, Tryz.func78, by kernel_rfl, by kernel_rfl⟩
/-! ref10.Same -/
abbrev c79_r1 : List Ins := [
  ⟨some 4, none, .mov (.c (.bool false))⟩]
abbrev c79_r2 : List Ins := [
  ⟨some 6, none, .mov (.t 0)⟩,
  ⟨some 7, none, .len (.t 6)⟩,
  ⟨some 8, none, .mov (.t 1)⟩,
  ⟨some 9, none, .len (.t 8)⟩,
  ⟨some 10, none, .bin .neq (.t 7) (.t 9)⟩]
abbrev c79_r3 : List Ins := [
  ⟨some 4, none, .mov (.c (.bool false))⟩]
abbrev c79_r4 : List Ins := [
  ⟨some 5, none, .mov (.c (.int .i64 0))⟩]
abbrev c79_r5 : List Ins := [
  ⟨some 11, none, .mov (.t 5)⟩,
  ⟨some 12, none, .mov (.t 0)⟩,
  ⟨some 13, none, .len (.t 12)⟩,
  ⟨some 14, none, .bin .lss (.t 11) (.t 13)⟩]
abbrev c79_r6 : List Ins := [
  ⟨some 17, none, .mov (.t 0)⟩,
  ⟨some 18, none, .mov (.t 5)⟩,
  ⟨some 19, none, .iaddr 5 (.t 17) (.t 18)⟩,
  ⟨some 20, none, .load 5 true (.t 19)⟩,
  ⟨some 21, none, .mov (.t 1)⟩,
  ⟨some 22, none, .mov (.t 5)⟩,
  ⟨some 23, none, .iaddr 5 (.t 21) (.t 22)⟩,
  ⟨some 24, none, .load 5 true (.t 23)⟩,
  ⟨some 25, none, .eq [.i, .i, .i, .i, .b] true true (.t 20) (.t 24)⟩]
def c79_a6 : List (List Nat) := [[], [], [0, 1], [2], [], [], [4, 5], [6], [3, 7]]
abbrev c79_m6 : List Am.Mark := [⟨false, 0, 0⟩, ⟨false, 0, 0⟩, ⟨false, 0, 0⟩, ⟨false, 0, 0⟩, ⟨false, 0, 0⟩, ⟨false, 0, 0⟩, ⟨false, 0, 0⟩, ⟨false, 0, 0⟩, ⟨false, 0, 0⟩]
theorem c79_d6 : drawFine c79_r6 c79_a6 c79_m6 = true := by decide +kernel
abbrev c79_r7 : List Ins := [
  ⟨some 4, none, .mov (.c (.bool false))⟩]
abbrev c79_r8 : List Ins := [
  ⟨some 15, none, .mov (.t 5)⟩,
  ⟨some 16, none, .bin .add (.t 15) (.c (.int .i64 1))⟩,
  ⟨some 5, none, .mov (.t 16)⟩]
abbrev c79_l9 : IR := .seq (.seq (.reg c79_r5) (.cond (.t 14) (.skip) (.exit 0))) (.seq (.blk 1 (.seq (.dreg c79_r6 c79_a6) (.cond (.t 25) (.seq (.reg c79_r7) (.ret)) (.skip)))) (.reg c79_r8))
abbrev c79_r10 : List Ins := [
  ⟨some 4, none, .mov (.c (.bool true))⟩]
abbrev c79 : IR := .seq (.reg c79_r1) (.seq (.seq (.reg c79_r2) (.cond (.t 10) (.seq (.reg c79_r3) (.ret)) (.skip))) (.seq (.seq (.reg c79_r4) (.blk 0 (.loop c79_l9))) (.seq (.reg c79_r10) (.ret))))
abbrev F79 : FnA := ⟨26, c79, [.t 4]⟩
theorem ok79 : cFn Tryz.prog 79 = some F79 := by kernel_rfl
theorem hb79 : HasBody Tryz.prog 79 := ⟨_, Tryz.func79, by kernel_rfl, by kernel_rfl⟩
/-! slices.Clone:Step -/
abbrev c80_r1 : List Ins := [
  ⟨some 2, none, .mov (.c (.sl .full []))⟩]
abbrev c80_r2 : List Ins := [
  ⟨some 3, none, .mov (.t 0)⟩,
  ⟨some 4, none, .isnil false (.t 3)⟩]
abbrev c80_r3 : List Ins := [
  ⟨some 2, none, .mov (.c (.sl .full []))⟩]
abbrev c80_r4 : List Ins := [
  ⟨some 5, none, .bsl 2 0 [.sl .full [], .sl .full []] []⟩,
  ⟨some 6, none, .mov (.t 0)⟩,
  ⟨some 7, none, .append 2 48 (.t 5) (.t 6)⟩,
  ⟨some 2, none, .mov (.t 7)⟩]
abbrev c80 : IR := .seq (.reg c80_r1) (.seq (.seq (.reg c80_r2) (.cond (.t 4) (.seq (.reg c80_r3) (.ret)) (.skip))) (.seq (.reg c80_r4) (.ret)))
abbrev F80 : FnA := ⟨8, c80, [.t 2]⟩
theorem ok80 : cFn Tryz.prog 80 = some F80 := by kernel_rfl
theorem hb80 : HasBody Tryz.prog 80 := ⟨_, Tryz.func80, by kernel_rfl, by kernel_rfl⟩
/-! slices.Clone:Instr -/
abbrev c81_r1 : List Ins := [
  ⟨some 2, none, .mov (.c (.sl .full []))⟩]
abbrev c81_r2 : List Ins := [
  ⟨some 3, none, .mov (.t 0)⟩,
  ⟨some 4, none, .isnil false (.t 3)⟩]
abbrev c81_r3 : List Ins := [
  ⟨some 2, none, .mov (.c (.sl .full []))⟩]
abbrev c81_r4 : List Ins := [
  ⟨some 5, none, .bsl 9 0 [.int .i64 0, .int .i64 0, .int .i64 0, .int .i64 0, .int .i64 0, .int .i64 0, .int .i64 0, .int .i64 0, .int .i64 0] []⟩,
  ⟨some 6, none, .mov (.t 0)⟩,
  ⟨some 7, none, .append 9 72 (.t 5) (.t 6)⟩,
  ⟨some 2, none, .mov (.t 7)⟩]
abbrev c81 : IR := .seq (.reg c81_r1) (.seq (.seq (.reg c81_r2) (.cond (.t 4) (.seq (.reg c81_r3) (.ret)) (.skip))) (.seq (.reg c81_r4) (.ret)))
abbrev F81 : FnA := ⟨8, c81, [.t 2]⟩
theorem ok81 : cFn Tryz.prog 81 = some F81 := by kernel_rfl
theorem hb81 : HasBody Tryz.prog 81 := ⟨_, Tryz.func81, by kernel_rfl, by kernel_rfl⟩
/-! slices.Clone:SpanT -/
abbrev c82_r1 : List Ins := [
  ⟨some 2, none, .mov (.c (.sl .full []))⟩]
abbrev c82_r2 : List Ins := [
  ⟨some 3, none, .mov (.t 0)⟩,
  ⟨some 4, none, .isnil false (.t 3)⟩]
abbrev c82_r3 : List Ins := [
  ⟨some 2, none, .mov (.c (.sl .full []))⟩]
abbrev c82_r4 : List Ins := [
  ⟨some 5, none, .bsl 5 0 [.int .i64 0, .int .i64 0, .int .i64 0, .int .i64 0, .bool false] []⟩,
  ⟨some 6, none, .mov (.t 0)⟩,
  ⟨some 7, none, .append 5 40 (.t 5) (.t 6)⟩,
  ⟨some 2, none, .mov (.t 7)⟩]
abbrev c82 : IR := .seq (.reg c82_r1) (.seq (.seq (.reg c82_r2) (.cond (.t 4) (.seq (.reg c82_r3) (.ret)) (.skip))) (.seq (.reg c82_r4) (.ret)))
abbrev F82 : FnA := ⟨8, c82, [.t 2]⟩
theorem ok82 : cFn Tryz.prog 82 = some F82 := by kernel_rfl
theorem hb82 : HasBody Tryz.prog 82 := ⟨_, Tryz.func82, by kernel_rfl, by kernel_rfl⟩
/-! slices.IndexFunc:Class -/
abbrev c83_r1 : List Ins := [
  ⟨some 4, none, .mov (.c (.int .i64 0))⟩]
abbrev c83_r2 : List Ins := [
  ⟨some 6, none, .mov (.t 0)⟩,
  ⟨some 7, none, .len (.t 6)⟩,
  ⟨some 8, none, .mov (.c (.int .i64 0))⟩]
abbrev c83_r3 : List Ins := [
  ⟨some 9, none, .bin .lss (.t 8) (.t 7)⟩]
abbrev c83_r4 : List Ins := [
  ⟨some 10, none, .mov (.t 8)⟩,
  ⟨some 5, none, .mov (.t 10)⟩]
abbrev c83_r5 : List Ins := [
  ⟨some 11, none, .mov (.t 1)⟩,
  ⟨some 12, none, .mov (.t 0)⟩,
  ⟨some 13, none, .mov (.t 5)⟩,
  ⟨some 14, none, .iaddr 5 (.t 12) (.t 13)⟩,
  ⟨some 15, none, .load 5 true (.t 14)⟩,
  ⟨some 16, none, .call (.t 11) [.t 15]⟩]
abbrev c83_r6 : List Ins := [
  ⟨some 17, none, .mov (.t 5)⟩,
  ⟨some 4, none, .mov (.t 17)⟩]
abbrev c83_r7 : List Ins := [
  ⟨some 18, none, .bin .add (.t 8) (.c (.int .i64 1))⟩,
  ⟨some 8, none, .mov (.t 18)⟩]
abbrev c83_l8 : IR := .seq (.reg c83_r3) (.seq (.cond (.t 9) (.skip) (.exit 0)) (.seq (.blk 1 (.seq (.reg c83_r4) (.seq (.reg c83_r5) (.cond (.t 16) (.seq (.reg c83_r6) (.ret)) (.skip))))) (.reg c83_r7)))
abbrev c83_r9 : List Ins := [
  ⟨some 4, none, .mov (.c (.int .i64 (-1)))⟩]
abbrev c83 : IR := .seq (.reg c83_r1) (.seq (.seq (.reg c83_r2) (.blk 0 (.loop c83_l8))) (.seq (.reg c83_r9) (.ret)))
abbrev F83 : FnA := ⟨19, c83, [.t 4]⟩
theorem ok83 : cFn Tryz.prog 83 = some F83 := by kernel_rfl
theorem hb83 : HasBody Tryz.prog 83 := ⟨_, Tryz.func83, by kernel_rfl, by kernel_rfl⟩
/-! prog.counts -/
abbrev c84_r1 : List Ins := [
  ⟨some 6, none, .mov (.t 1)⟩,
  ⟨some 7, none, .len (.t 6)⟩,
  ⟨some 8, none, .mov (.c (.int .i64 0))⟩]
abbrev c84_r2 : List Ins := [
  ⟨some 9, none, .bin .lss (.t 8) (.t 7)⟩]
abbrev c84_r3 : List Ins := [
  ⟨some 10, none, .iaddr 1 (.t 6) (.t 8)⟩,
  ⟨some 11, none, .load 1 false (.t 10)⟩,
  ⟨some 5, none, .mov (.t 11)⟩]
abbrev c84_r4 : List Ins := [
  ⟨some 12, none, .mov (.t 0)⟩,
  ⟨some 13, none, .mov (.t 5)⟩,
  ⟨some 14, none, .call (.c (.fn 20 [] [])) [.t 12, .t 13]⟩]
abbrev c84_r5 : List Ins := [
  ⟨some 15, none, .bin .add (.t 8) (.c (.int .i64 1))⟩,
  ⟨some 8, none, .mov (.t 15)⟩]
abbrev c84_l6 : IR := .seq (.reg c84_r2) (.seq (.cond (.t 9) (.skip) (.exit 0)) (.seq (.blk 1 (.seq (.reg c84_r3) (.reg c84_r4))) (.reg c84_r5)))
abbrev c84 : IR := .seq (.reg c84_r1) (.blk 0 (.loop c84_l6))
abbrev F84 : FnA := ⟨16, c84, []⟩
theorem ok84 : cFn Tryz.prog 84 = some F84 := by kernel_rfl
theorem hb84 : HasBody Tryz.prog 84 := ⟨_, Tryz.func84, by kernel_rfl, by kernel_rfl⟩
/-! codes.Writer.Signed -/
abbrev c85_r1 : List Ins := [
  ⟨some 4, none, .mov (.t 0)⟩,
  ⟨some 5, none, .mov (.t 1)⟩,
  ⟨some 6, none, .bin .shl (.t 5) (.c (.int .u64 1))⟩,
  ⟨some 7, none, .conv .u64 (.t 6)⟩,
  ⟨some 8, none, .mov (.t 1)⟩,
  ⟨some 9, none, .bin .shr (.t 8) (.c (.int .u64 63))⟩,
  ⟨some 10, none, .conv .u64 (.t 9)⟩,
  ⟨some 11, none, .bin .xor (.t 7) (.t 10)⟩,
  ⟨some 12, none, .bsl 1 1 [.int .u64 0] [(0, .t 11)]⟩,
  ⟨some 13, none, .call (.c (.fn 41 [] [])) [.t 4, .t 12]⟩]
abbrev c85 : IR := .reg c85_r1
abbrev F85 : FnA := ⟨14, c85, []⟩
theorem ok85 : cFn Tryz.prog 85 = some F85 := by kernel_rfl
theorem hb85 : HasBody Tryz.prog 85 := ⟨_, Tryz.func85, by kernel_rfl, by kernel_rfl⟩
/-! foot.templates -/
abbrev c86_r1 : List Ins := [
  ⟨some 6, none, .mov (.t 1)⟩,
  ⟨some 7, none, .len (.t 6)⟩,
  ⟨some 8, none, .mov (.c (.int .i64 0))⟩]
abbrev c86_r2 : List Ins := [
  ⟨some 9, none, .bin .lss (.t 8) (.t 7)⟩]
abbrev c86_r3 : List Ins := [
  ⟨some 10, none, .iaddr 2 (.t 6) (.t 8)⟩,
  ⟨some 11, none, .load 2 true (.t 10)⟩,
  ⟨some 5, none, .alloc [.int .i64 0, .int .i64 0]⟩,
  ⟨none, none, .store 2 (.t 5) (.t 11)⟩]
abbrev c86_r4 : List Ins := [
  ⟨some 12, none, .mov (.t 0)⟩,
  ⟨some 13, none, .faddr 0 (.t 5)⟩,
  ⟨some 14, none, .load 1 false (.t 13)⟩,
  ⟨some 15, none, .call (.c (.fn 85 [] [])) [.t 12, .t 14]⟩]
abbrev c86_r5 : List Ins := [
  ⟨some 16, none, .mov (.t 0)⟩,
  ⟨some 17, none, .faddr 1 (.t 5)⟩,
  ⟨some 18, none, .load 1 false (.t 17)⟩,
  ⟨some 19, none, .call (.c (.fn 20 [] [])) [.t 16, .t 18]⟩]
abbrev c86_r6 : List Ins := [
  ⟨some 20, none, .bin .add (.t 8) (.c (.int .i64 1))⟩,
  ⟨some 8, none, .mov (.t 20)⟩]
abbrev c86_l7 : IR := .seq (.reg c86_r2) (.seq (.cond (.t 9) (.skip) (.exit 0)) (.seq (.blk 1 (.seq (.reg c86_r3) (.seq (.reg c86_r4) (.reg c86_r5)))) (.reg c86_r6)))
abbrev c86 : IR := .seq (.reg c86_r1) (.blk 0 (.loop c86_l7))
abbrev F86 : FnA := ⟨21, c86, []⟩
theorem ok86 : cFn Tryz.prog 86 = some F86 := by kernel_rfl
theorem hb86 : HasBody Tryz.prog 86 := ⟨_, Tryz.func86, by kernel_rfl, by kernel_rfl⟩
/-! prog.getKey -/
abbrev c87_r1 : List Ins := [
  ⟨some 2, none, .alloc [.int .i64 0, .int .i64 0]⟩]
abbrev c87_r2 : List Ins := [
  ⟨some 4, none, .mov (.t 0)⟩,
  ⟨some 5, none, .call (.c (.fn 88 [] [])) [.t 4]⟩,
  ⟨some 3, none, .mov (.t 5)⟩]
abbrev c87_r3 : List Ins := [
  ⟨some 6, none, .mov (.t 3)⟩,
  ⟨some 7, none, .bin .lss (.t 6) (.c (.int .i64 (-1)))⟩,
  ⟨some 8, none, .mov (.t 7)⟩,
  ⟨some 9, some (8, false), .mov (.t 3)⟩,
  ⟨some 10, some (8, false), .bin .gtr (.t 9) (.c (.int .i64 255))⟩,
  ⟨some 11, none, .pick (.t 8) (.c (.bool true)) (.t 10)⟩]
abbrev c87_r4 : List Ins := [
  ⟨some 12, none, .mov (.t 0)⟩,
  ⟨some 13, none, .call (.c (.fn 24 [] [])) [.t 12, .c (.int .i64 (-1))]⟩]
abbrev c87_r5 : List Ins := [
  ⟨some 14, none, .build [.int .i64 0, .int .i64 0] []⟩,
  ⟨none, none, .store 2 (.t 2) (.t 14)⟩]
abbrev c87_r6 : List Ins := [
  ⟨some 15, none, .mov (.t 3)⟩,
  ⟨some 16, none, .mov (.t 0)⟩,
  ⟨some 17, none, .call (.c (.fn 24 [] [])) [.t 16, .c (.int .i64 999)]⟩,
  ⟨some 18, none, .build [.int .i64 0, .int .i64 0] [(0, (1, .t 15)), (1, (1, .t 17))]⟩,
  ⟨none, none, .store 2 (.t 2) (.t 18)⟩]
abbrev c87 : IR := .seq (.reg c87_r1) (.seq (.reg c87_r2) (.seq (.seq (.reg c87_r3) (.cond (.t 11) (.seq (.reg c87_r4) (.seq (.reg c87_r5) (.ret))) (.skip))) (.seq (.reg c87_r6) (.ret))))
abbrev F87 : FnA := ⟨19, c87, [.cell 2 2 true]⟩
theorem ok87 : cFn Tryz.prog 87 = some F87 := by kernel_rfl
theorem hb87 : HasBody Tryz.prog 87 := ⟨_, Tryz.func87, by kernel_rfl, by kernel_rfl⟩
/-! codes.Reader.Signed -/
abbrev c88_r1 : List Ins := [
  ⟨some 2, none, .mov (.c (.int .i64 0))⟩]
abbrev c88_r2 : List Ins := [
  ⟨some 4, none, .mov (.t 0)⟩,
  ⟨some 5, none, .call (.c (.fn 47 [] [])) [.t 4, .c (.fn 97 [] [])]⟩,
  ⟨some 3, none, .mov (.t 5)⟩]
abbrev c88_r3 : List Ins := [
  ⟨some 6, none, .mov (.t 3)⟩,
  ⟨some 7, none, .bin .shr (.t 6) (.c (.int .u64 1))⟩,
  ⟨some 8, none, .conv .i64 (.t 7)⟩,
  ⟨some 9, none, .mov (.t 3)⟩,
  ⟨some 10, none, .bin .and (.t 9) (.c (.int .u64 1))⟩,
  ⟨some 11, none, .conv .i64 (.t 10)⟩,
  ⟨some 12, none, .un .neg (.t 11)⟩,
  ⟨some 13, none, .bin .xor (.t 8) (.t 12)⟩,
  ⟨some 2, none, .mov (.t 13)⟩]
abbrev c88 : IR := .seq (.reg c88_r1) (.seq (.reg c88_r2) (.seq (.reg c88_r3) (.ret)))
abbrev F88 : FnA := ⟨14, c88, [.t 2]⟩
theorem ok88 : cFn Tryz.prog 88 = some F88 := by kernel_rfl
theorem hb88 : HasBody Tryz.prog 88 := ⟨_, Tryz.func88, by kernel_rfl, by kernel_rfl⟩
/-! foot.template -/
abbrev c89_r1 : List Ins := [
  ⟨some 2, none, .alloc [.int .i64 0, .int .i64 0]⟩]
abbrev c89_r2 : List Ins := [
  ⟨some 4, none, .mov (.t 0)⟩,
  ⟨some 5, none, .call (.c (.fn 88 [] [])) [.t 4]⟩,
  ⟨some 3, none, .mov (.t 5)⟩]
abbrev c89_r3 : List Ins := [
  ⟨some 6, none, .mov (.t 3)⟩,
  ⟨some 7, none, .bin .lss (.t 6) (.c (.int .i64 (-1)))⟩,
  ⟨some 8, none, .mov (.t 7)⟩,
  ⟨some 9, some (8, false), .mov (.t 3)⟩,
  ⟨some 10, some (8, false), .bin .gtr (.t 9) (.c (.int .i64 255))⟩,
  ⟨some 11, none, .pick (.t 8) (.c (.bool true)) (.t 10)⟩]
abbrev c89_r4 : List Ins := [
  ⟨some 12, none, .mov (.t 0)⟩,
  ⟨some 13, none, .call (.c (.fn 24 [] [])) [.t 12, .c (.int .i64 (-1))]⟩]
abbrev c89_r5 : List Ins := [
  ⟨some 14, none, .mov (.t 3)⟩,
  ⟨some 15, none, .mov (.t 0)⟩,
  ⟨some 16, none, .call (.c (.fn 24 [] [])) [.t 15, .c (.int .i64 999)]⟩,
  ⟨some 17, none, .build [.int .i64 0, .int .i64 0] [(0, (1, .t 14)), (1, (1, .t 16))]⟩,
  ⟨none, none, .store 2 (.t 2) (.t 17)⟩]
abbrev c89 : IR := .seq (.reg c89_r1) (.seq (.reg c89_r2) (.seq (.seq (.reg c89_r3) (.cond (.t 11) (.reg c89_r4) (.skip))) (.seq (.reg c89_r5) (.ret))))
abbrev F89 : FnA := ⟨18, c89, [.cell 2 2 true]⟩
theorem ok89 : cFn Tryz.prog 89 = some F89 := by kernel_rfl
theorem hb89 : HasBody Tryz.prog 89 := ⟨_, Tryz.func89, by kernel_rfl, by kernel_rfl⟩
/-! slices.ContainsFunc:Instr -/
abbrev c90_r1 : List Ins := [
  ⟨some 4, none, .mov (.c (.bool false))⟩]
abbrev c90_r2 : List Ins := [
  ⟨some 5, none, .mov (.t 0)⟩,
  ⟨some 6, none, .mov (.t 1)⟩,
  ⟨some 7, none, .call (.c (.fn 98 [] [])) [.t 5, .t 6]⟩,
  ⟨some 8, none, .bin .geq (.t 7) (.c (.int .i64 0))⟩,
  ⟨some 4, none, .mov (.t 8)⟩]
abbrev c90 : IR := .seq (.reg c90_r1) (.seq (.reg c90_r2) (.ret))
abbrev F90 : FnA := ⟨9, c90, [.t 4]⟩
theorem ok90 : cFn Tryz.prog 90 = some F90 := by kernel_rfl
theorem hb90 : HasBody Tryz.prog 90 := ⟨_, Tryz.func90, by kernel_rfl, by kernel_rfl⟩
/-! prog.May$1 -/
abbrev c91_r1 : List Ins := [
  ⟨some 2, none, .box (.t 0)⟩,
  ⟨some 3, none, .mov (.c (.bool false))⟩]
abbrev c91_r2 : List Ins := [
  ⟨some 4, none, .load 9 true (.t 2)⟩,
  ⟨some 5, none, .load 1 false (.t 1)⟩,
  ⟨some 6, none, .call (.c (.fn 92 [] [])) [.t 4, .t 5]⟩,
  ⟨some 7, none, .un .not (.t 6)⟩,
  ⟨some 3, none, .mov (.t 7)⟩]
abbrev c91 : IR := .seq (.reg c91_r1) (.seq (.reg c91_r2) (.ret))
abbrev F91 : FnA := ⟨8, c91, [.t 3]⟩
theorem ok91 : cFn Tryz.prog 91 = some F91 := by kernel_rfl
theorem hb91 : HasBody Tryz.prog 91 := ⟨_, Tryz.func91, by kernel_rfl, by kernel_rfl⟩
/-! prog.may -/
abbrev c92_r1 : List Ins := [
  ⟨some 2, none, .box (.t 0)⟩,
  ⟨some 3, none, .box (.t 1)⟩,
  ⟨some 4, none, .mov (.c (.bool false))⟩]
abbrev c92_r2 : List Ins := [
  ⟨some 9, none, .load 9 true (.t 2)⟩,
  ⟨some 10, none, .call (.c (.fn 99 [] [])) [.t 9]⟩,
  ⟨some 8, none, .mov (.t 10)⟩,
  ⟨some 11, none, .ext (.t 8) 0⟩,
  ⟨some 12, none, .ext (.t 8) 1⟩,
  ⟨some 5, none, .alloc [.int .i64 0, .int .i64 0, .int .i64 0, .int .i64 0, .int .i64 0, .int .i64 0, .int .i64 0, .int .i64 0, .int .i64 0]⟩,
  ⟨none, none, .store 9 (.t 5) (.t 11)⟩,
  ⟨some 6, none, .mov (.t 12)⟩]
abbrev c92_r3 : List Ins := [
  ⟨some 13, none, .mkfn 100 [] [.t 3]⟩,
  ⟨some 7, none, .mov (.t 13)⟩]
abbrev c92_r4 : List Ins := [
  ⟨some 14, none, .mov (.t 6)⟩,
  ⟨some 15, none, .mov (.t 14)⟩,
  ⟨some 16, some (15, true), .load 9 true (.t 2)⟩,
  ⟨some 17, some (15, true), .load 9 true (.t 5)⟩,
  ⟨some 18, some (15, true), .eq [.i, .i, .i, .i, .i, .i, .i, .i, .i] true false (.t 16) (.t 17)⟩,
  ⟨some 19, none, .pick (.t 15) (.t 18) (.c (.bool false))⟩,
  ⟨some 20, none, .mov (.t 19)⟩,
  ⟨some 21, some (20, true), .faddr 1 (.t 2)⟩,
  ⟨some 22, some (20, true), .load 1 false (.t 21)⟩,
  ⟨some 23, some (20, true), .call (.c (.fn 102 [] [])) [.t 22]⟩,
  ⟨some 24, none, .pick (.t 20) (.t 23) (.c (.bool false))⟩,
  ⟨some 25, none, .mov (.t 24)⟩,
  ⟨some 26, some (25, true), .faddr 2 (.t 2)⟩,
  ⟨some 27, some (25, true), .load 1 false (.t 26)⟩,
  ⟨some 28, some (25, true), .call (.c (.fn 102 [] [])) [.t 27]⟩,
  ⟨some 29, none, .pick (.t 25) (.t 28) (.c (.bool false))⟩,
  ⟨some 30, none, .mov (.t 29)⟩,
  ⟨some 31, some (30, true), .faddr 3 (.t 2)⟩,
  ⟨some 32, some (30, true), .load 1 false (.t 31)⟩,
  ⟨some 33, some (30, true), .call (.c (.fn 102 [] [])) [.t 32]⟩,
  ⟨some 34, none, .pick (.t 30) (.t 33) (.c (.bool false))⟩,
  ⟨some 35, none, .mov (.t 34)⟩,
  ⟨some 36, some (35, true), .load 9 true (.t 2)⟩,
  ⟨some 37, some (35, true), .call (.c (.fn 104 [] [])) [.t 36]⟩,
  ⟨some 38, some (35, true), .mov (.t 7)⟩,
  ⟨some 39, some (35, true), .call (.c (.fn 103 [] [])) [.t 37, .t 38]⟩,
  ⟨some 40, some (35, true), .un .not (.t 39)⟩,
  ⟨some 41, none, .pick (.t 35) (.t 40) (.c (.bool false))⟩,
  ⟨some 4, none, .mov (.t 41)⟩]
abbrev c92 : IR := .seq (.reg c92_r1) (.seq (.reg c92_r2) (.seq (.reg c92_r3) (.seq (.reg c92_r4) (.ret))))
abbrev F92 : FnA := ⟨42, c92, [.t 4]⟩
theorem ok92 : cFn Tryz.prog 92 = some F92 := by kernel_rfl
theorem hb92 : HasBody Tryz.prog 92 := ⟨_, Tryz.func92, by kernel_rfl, by kernel_rfl⟩
/-! foot.May$1 -/
abbrev c93_r1 : List Ins := [
  ⟨some 2, none, .box (.t 0)⟩,
  ⟨some 3, none, .mov (.c (.bool false))⟩]
abbrev c93_r2 : List Ins := [
  ⟨some 4, none, .faddr 0 (.t 2)⟩,
  ⟨some 5, none, .load 2 true (.t 4)⟩,
  ⟨some 6, none, .call (.c (.fn 94 [] [])) [.t 5]⟩,
  ⟨some 7, none, .load 1 false (.t 1)⟩,
  ⟨some 8, none, .call (.c (.fn 74 [] [])) [.t 6, .t 7]⟩,
  ⟨some 9, none, .un .not (.t 8)⟩,
  ⟨some 10, none, .mov (.t 9)⟩,
  ⟨some 11, some (10, false), .faddr 2 (.t 2)⟩,
  ⟨some 12, some (10, false), .load 2 true (.t 11)⟩,
  ⟨some 13, some (10, false), .call (.c (.fn 94 [] [])) [.t 12]⟩,
  ⟨some 14, some (10, false), .load 1 false (.t 1)⟩,
  ⟨some 15, some (10, false), .call (.c (.fn 74 [] [])) [.t 13, .t 14]⟩,
  ⟨some 16, some (10, false), .un .not (.t 15)⟩,
  ⟨some 17, none, .pick (.t 10) (.c (.bool true)) (.t 16)⟩,
  ⟨some 3, none, .mov (.t 17)⟩]
def c93_a2 : List (List Nat) := [[], [0], [1], [], [2, 3, 2], [4], [5, 4], [6], [7, 6], [8, 6, 6], [6], [9, 10, 9, 6], [11, 6], [6, 12], [13, 11, 0, 1, 2, 3, 4, 5, 6, 7, 8, 9, 10, 11, 12, 13]]
abbrev c93_m2 : List Am.Mark := [⟨false, 0, 0⟩, ⟨false, 0, 0⟩, ⟨false, 0, 0⟩, ⟨false, 0, 0⟩, ⟨false, 0, 0⟩, ⟨false, 0, 0⟩, ⟨false, 0, 0⟩, ⟨false, 0, 0⟩, ⟨false, 0, 0⟩, ⟨false, 0, 0⟩, ⟨false, 0, 0⟩, ⟨false, 0, 0⟩, ⟨false, 0, 0⟩, ⟨false, 0, 0⟩, ⟨false, 0, 0⟩]
theorem c93_d2 : drawFine c93_r2 c93_a2 c93_m2 = true := by decide +kernel
abbrev c93 : IR := .seq (.reg c93_r1) (.seq (.dreg c93_r2 c93_a2) (.ret))
abbrev F93 : FnA := ⟨18, c93, [.t 3]⟩
theorem ok93 : cFn Tryz.prog 93 = some F93 := by kernel_rfl
theorem hb93 : HasBody Tryz.prog 93 := ⟨_, Tryz.func93, by kernel_rfl, by kernel_rfl⟩
/-! foot.reads -/
abbrev c94_r1 : List Ins := [
  ⟨some 1, none, .box (.t 0)⟩,
  ⟨some 2, none, .mov (.c (.sl .full []))⟩]
abbrev c94_r2 : List Ins := [
  ⟨some 3, none, .load 2 true (.t 1)⟩,
  ⟨some 4, none, .build [.int .i64 0, .int .i64 0, .int .i64 0, .int .i64 0, .int .i64 0, .int .i64 0, .int .i64 0, .int .i64 0, .int .i64 0] [(0, (1, .c (.int .i64 1))), (4, (2, .t 3))]⟩,
  ⟨some 5, none, .bsl 9 1 [.int .i64 0, .int .i64 0, .int .i64 0, .int .i64 0, .int .i64 0, .int .i64 0, .int .i64 0, .int .i64 0, .int .i64 0] [(0, .t 4)]⟩,
  ⟨some 2, none, .mov (.t 5)⟩]
abbrev c94 : IR := .seq (.reg c94_r1) (.seq (.reg c94_r2) (.ret))
abbrev F94 : FnA := ⟨6, c94, [.t 2]⟩
theorem ok94 : cFn Tryz.prog 94 = some F94 := by kernel_rfl
theorem hb94 : HasBody Tryz.prog 94 := ⟨_, Tryz.func94, by kernel_rfl, by kernel_rfl⟩
/-! slices.ContainsFunc:SpanT -/
abbrev c95_r1 : List Ins := [
  ⟨some 4, none, .mov (.c (.bool false))⟩]
abbrev c95_r2 : List Ins := [
  ⟨some 5, none, .mov (.t 0)⟩,
  ⟨some 6, none, .mov (.t 1)⟩,
  ⟨some 7, none, .call (.c (.fn 105 [] [])) [.t 5, .t 6]⟩,
  ⟨some 8, none, .bin .geq (.t 7) (.c (.int .i64 0))⟩,
  ⟨some 4, none, .mov (.t 8)⟩]
abbrev c95 : IR := .seq (.reg c95_r1) (.seq (.reg c95_r2) (.ret))
abbrev F95 : FnA := ⟨9, c95, [.t 4]⟩
theorem ok95 : cFn Tryz.prog 95 = some F95 := by kernel_rfl
theorem hb95 : HasBody Tryz.prog 95 := ⟨_, Tryz.func95, by kernel_rfl, by kernel_rfl⟩
/-! prog.Sure -/
abbrev c96_r1 : List Ins := [
  ⟨some 2, none, .mov (.c (.bool false))⟩]
abbrev c96_r2 : List Ins := [
  ⟨some 3, none, .mov (.t 0)⟩,
  ⟨some 4, none, .call (.c (.fn 90 [] [])) [.t 3, .c (.fn 106 [] [])]⟩,
  ⟨some 5, none, .un .not (.t 4)⟩,
  ⟨some 2, none, .mov (.t 5)⟩]
abbrev c96 : IR := .seq (.reg c96_r1) (.seq (.reg c96_r2) (.ret))
abbrev F96 : FnA := ⟨6, c96, [.t 2]⟩
theorem ok96 : cFn Tryz.prog 96 = some F96 := by kernel_rfl
theorem hb96 : HasBody Tryz.prog 96 := ⟨_, Tryz.func96, by kernel_rfl, by kernel_rfl⟩
/-! codes.Reader.Signed$1 -/
abbrev c97_r1 : List Ins := [
  ⟨some 2, none, .mov (.c (.bool false))⟩]
abbrev c97_r2 : List Ins := [
  ⟨some 2, none, .mov (.c (.bool true))⟩]
abbrev c97 : IR := .seq (.reg c97_r1) (.seq (.reg c97_r2) (.ret))
abbrev F97 : FnA := ⟨3, c97, [.t 2]⟩
theorem ok97 : cFn Tryz.prog 97 = some F97 := by kernel_rfl
theorem hb97 : HasBody Tryz.prog 97 := ⟨_, Tryz.func97, by kernel_rfl, by kernel_rfl⟩
/-! slices.IndexFunc:Instr -/
abbrev c98_r1 : List Ins := [
  ⟨some 4, none, .mov (.c (.int .i64 0))⟩]
abbrev c98_r2 : List Ins := [
  ⟨some 6, none, .mov (.t 0)⟩,
  ⟨some 7, none, .len (.t 6)⟩,
  ⟨some 8, none, .mov (.c (.int .i64 0))⟩]
abbrev c98_r3 : List Ins := [
  ⟨some 9, none, .bin .lss (.t 8) (.t 7)⟩]
abbrev c98_r4 : List Ins := [
  ⟨some 10, none, .mov (.t 8)⟩,
  ⟨some 5, none, .mov (.t 10)⟩]
abbrev c98_r5 : List Ins := [
  ⟨some 11, none, .mov (.t 1)⟩,
  ⟨some 12, none, .mov (.t 0)⟩,
  ⟨some 13, none, .mov (.t 5)⟩,
  ⟨some 14, none, .iaddr 9 (.t 12) (.t 13)⟩,
  ⟨some 15, none, .load 9 true (.t 14)⟩,
  ⟨some 16, none, .call (.t 11) [.t 15]⟩]
abbrev c98_r6 : List Ins := [
  ⟨some 17, none, .mov (.t 5)⟩,
  ⟨some 4, none, .mov (.t 17)⟩]
abbrev c98_r7 : List Ins := [
  ⟨some 18, none, .bin .add (.t 8) (.c (.int .i64 1))⟩,
  ⟨some 8, none, .mov (.t 18)⟩]
abbrev c98_l8 : IR := .seq (.reg c98_r3) (.seq (.cond (.t 9) (.skip) (.exit 0)) (.seq (.blk 1 (.seq (.reg c98_r4) (.seq (.reg c98_r5) (.cond (.t 16) (.seq (.reg c98_r6) (.ret)) (.skip))))) (.reg c98_r7)))
abbrev c98_r9 : List Ins := [
  ⟨some 4, none, .mov (.c (.int .i64 (-1)))⟩]
abbrev c98 : IR := .seq (.reg c98_r1) (.seq (.seq (.reg c98_r2) (.blk 0 (.loop c98_l8))) (.seq (.reg c98_r9) (.ret)))
abbrev F98 : FnA := ⟨19, c98, [.t 4]⟩
theorem ok98 : cFn Tryz.prog 98 = some F98 := by kernel_rfl
theorem hb98 : HasBody Tryz.prog 98 := ⟨_, Tryz.func98, by kernel_rfl, by kernel_rfl⟩
/-! prog.only -/
abbrev c99_r1 : List Ins := [
  ⟨some 1, none, .box (.t 0)⟩,
  ⟨some 2, none, .alloc [.int .i64 0, .int .i64 0, .int .i64 0, .int .i64 0, .int .i64 0, .int .i64 0, .int .i64 0, .int .i64 0, .int .i64 0]⟩,
  ⟨some 3, none, .mov (.c (.bool false))⟩]
abbrev c99_r2 : List Ins := [
  ⟨some 5, none, .faddr 0 (.t 1)⟩,
  ⟨some 6, none, .load 1 false (.t 5)⟩,
  ⟨some 7, none, .faddr 1 (.t 1)⟩,
  ⟨some 8, none, .load 1 false (.t 7)⟩,
  ⟨some 9, none, .build [.int .i64 0, .int .i64 0, .int .i64 0, .int .i64 0, .int .i64 0, .int .i64 0, .int .i64 0, .int .i64 0, .int .i64 0] [(0, (1, .t 6)), (1, (1, .t 8))]⟩,
  ⟨some 4, none, .alloc [.int .i64 0, .int .i64 0, .int .i64 0, .int .i64 0, .int .i64 0, .int .i64 0, .int .i64 0, .int .i64 0, .int .i64 0]⟩,
  ⟨none, none, .store 9 (.t 4) (.t 9)⟩]
abbrev c99_r3 : List Ins := [
  ⟨some 10, none, .faddr 0 (.t 1)⟩,
  ⟨some 11, none, .load 1 false (.t 10)⟩]
abbrev c99_r4 : List Ins := [
  ⟨some 14, none, .bin .eql (.t 11) (.c (.int .i64 1))⟩,
  ⟨some 13, none, .mov (.t 14)⟩]
abbrev c99_r5 : List Ins := [
  ⟨some 15, none, .bin .eql (.t 11) (.c (.int .i64 2))⟩,
  ⟨some 13, none, .mov (.t 15)⟩]
abbrev c99_r6 : List Ins := [
  ⟨some 16, none, .faddr 4 (.t 1)⟩,
  ⟨some 17, none, .load 2 true (.t 16)⟩,
  ⟨some 18, none, .faddr 4 (.t 4)⟩,
  ⟨none, none, .store 2 (.t 18) (.t 17)⟩]
abbrev c99_r7 : List Ins := [
  ⟨some 20, none, .bin .eql (.t 11) (.c (.int .i64 3))⟩,
  ⟨some 19, none, .mov (.t 20)⟩]
abbrev c99_r8 : List Ins := [
  ⟨some 21, none, .faddr 4 (.t 1)⟩,
  ⟨some 22, none, .load 2 true (.t 21)⟩,
  ⟨some 23, none, .faddr 1 (.t 4)⟩,
  ⟨none, none, .store 1 (.t 23) (.c (.int .i64 0))⟩,
  ⟨some 24, none, .faddr 4 (.t 4)⟩,
  ⟨none, none, .store 2 (.t 24) (.t 22)⟩]
def c99_a8 : List (List Nat) := [[], [0], [], [2], [0, 1, 2, 3], [4, 1, 3, 0, 1, 2, 3]]
abbrev c99_m8 : List Am.Mark := [⟨false, 0, 1⟩, ⟨false, 0, 1⟩, ⟨false, 0, 0⟩, ⟨true, 0, 1⟩, ⟨false, 1, 1⟩, ⟨true, 1, 2⟩]
theorem c99_d8 : drawFine c99_r8 c99_a8 c99_m8 = true := by decide +kernel
abbrev c99_r9 : List Ins := [
  ⟨some 26, none, .bin .eql (.t 11) (.c (.int .i64 4))⟩,
  ⟨some 25, none, .mov (.t 26)⟩]
abbrev c99_r10 : List Ins := [
  ⟨some 27, none, .faddr 4 (.t 1)⟩,
  ⟨some 28, none, .load 2 true (.t 27)⟩,
  ⟨some 29, none, .faddr 6 (.t 1)⟩,
  ⟨some 30, none, .load 2 true (.t 29)⟩,
  ⟨some 31, none, .faddr 4 (.t 4)⟩,
  ⟨none, none, .store 2 (.t 31) (.t 28)⟩,
  ⟨some 32, none, .faddr 6 (.t 4)⟩,
  ⟨none, none, .store 2 (.t 32) (.t 30)⟩]
def c99_a10 : List (List Nat) := [[], [0], [], [2], [0, 1], [4, 1, 0, 1], [0, 1, 2, 3, 4, 5], [6, 3, 5, 0, 1, 2, 3, 4, 5]]
abbrev c99_m10 : List Am.Mark := [⟨false, 0, 0⟩, ⟨false, 0, 0⟩, ⟨false, 0, 1⟩, ⟨false, 0, 1⟩, ⟨false, 0, 0⟩, ⟨true, 0, 1⟩, ⟨false, 1, 1⟩, ⟨true, 1, 2⟩]
theorem c99_d10 : drawFine c99_r10 c99_a10 c99_m10 = true := by decide +kernel
abbrev c99_r11 : List Ins := [
  ⟨some 34, none, .bin .eql (.t 11) (.c (.int .i64 5))⟩,
  ⟨some 33, none, .mov (.t 34)⟩]
abbrev c99_r12 : List Ins := [
  ⟨some 35, none, .bin .eql (.t 11) (.c (.int .i64 8))⟩,
  ⟨some 33, none, .mov (.t 35)⟩]
abbrev c99_r13 : List Ins := [
  ⟨some 36, none, .faddr 8 (.t 1)⟩,
  ⟨some 37, none, .load 1 false (.t 36)⟩,
  ⟨some 38, none, .faddr 8 (.t 4)⟩,
  ⟨none, none, .store 1 (.t 38) (.t 37)⟩]
abbrev c99_r14 : List Ins := [
  ⟨some 40, none, .bin .eql (.t 11) (.c (.int .i64 6))⟩,
  ⟨some 39, none, .mov (.t 40)⟩]
abbrev c99_r15 : List Ins := [
  ⟨some 41, none, .bin .eql (.t 11) (.c (.int .i64 7))⟩,
  ⟨some 39, none, .mov (.t 41)⟩]
abbrev c99_r16 : List Ins := [
  ⟨some 42, none, .faddr 2 (.t 1)⟩,
  ⟨some 43, none, .load 1 false (.t 42)⟩,
  ⟨some 44, none, .faddr 3 (.t 1)⟩,
  ⟨some 45, none, .load 1 false (.t 44)⟩,
  ⟨some 46, none, .faddr 2 (.t 4)⟩,
  ⟨none, none, .store 1 (.t 46) (.t 43)⟩,
  ⟨some 47, none, .faddr 3 (.t 4)⟩,
  ⟨none, none, .store 1 (.t 47) (.t 45)⟩]
def c99_a16 : List (List Nat) := [[], [0], [], [2], [0, 1], [4, 1, 0, 1], [0, 1, 2, 3, 4, 5], [6, 3, 5, 0, 1, 2, 3, 4, 5]]
abbrev c99_m16 : List Am.Mark := [⟨false, 0, 0⟩, ⟨false, 0, 0⟩, ⟨false, 0, 1⟩, ⟨false, 0, 1⟩, ⟨false, 0, 0⟩, ⟨true, 0, 1⟩, ⟨false, 1, 1⟩, ⟨true, 1, 2⟩]
theorem c99_d16 : drawFine c99_r16 c99_a16 c99_m16 = true := by decide +kernel
abbrev c99_r17 : List Ins := [
  ⟨some 12, none, .load 9 true (.t 4)⟩,
  ⟨none, none, .store 9 (.t 2) (.t 12)⟩,
  ⟨some 3, none, .mov (.c (.bool false))⟩]
abbrev c99_r18 : List Ins := [
  ⟨some 48, none, .load 9 true (.t 4)⟩,
  ⟨none, none, .store 9 (.t 2) (.t 48)⟩,
  ⟨some 3, none, .mov (.c (.bool true))⟩]
abbrev c99 : IR := .seq (.reg c99_r1) (.seq (.reg c99_r2) (.seq (.seq (.reg c99_r3) (.blk 0 (.seq (.seq (.reg c99_r4) (.cond (.t 13) (.skip) (.reg c99_r5))) (.cond (.t 13) (.reg c99_r6) (.seq (.reg c99_r7) (.cond (.t 19) (.dreg c99_r8 c99_a8) (.seq (.reg c99_r9) (.cond (.t 25) (.dreg c99_r10 c99_a10) (.seq (.seq (.reg c99_r11) (.cond (.t 33) (.skip) (.reg c99_r12))) (.cond (.t 33) (.reg c99_r13) (.seq (.seq (.reg c99_r14) (.cond (.t 39) (.skip) (.reg c99_r15))) (.cond (.t 39) (.dreg c99_r16 c99_a16) (.seq (.reg c99_r17) (.ret)))))))))))))) (.seq (.reg c99_r18) (.ret))))
abbrev F99 : FnA := ⟨49, c99, [.cell 2 9 true, .t 3]⟩
theorem ok99 : cFn Tryz.prog 99 = some F99 := by kernel_rfl
theorem hb99 : HasBody Tryz.prog 99 := ⟨_, Tryz.func99, by kernel_rfl, by kernel_rfl⟩
/-! prog.may$1 -/
abbrev c100_r1 : List Ins := [
  ⟨some 2, none, .box (.t 0)⟩,
  ⟨some 3, none, .mov (.c (.bool false))⟩]
abbrev c100_r2 : List Ins := [
  ⟨some 4, none, .load 2 true (.t 2)⟩,
  ⟨some 5, none, .load 1 false (.t 1)⟩,
  ⟨some 6, none, .call (.c (.fn 101 [] [])) [.t 4, .t 5]⟩,
  ⟨some 7, none, .un .not (.t 6)⟩,
  ⟨some 3, none, .mov (.t 7)⟩]
abbrev c100 : IR := .seq (.reg c100_r1) (.seq (.reg c100_r2) (.ret))
abbrev F100 : FnA := ⟨8, c100, [.t 3]⟩
theorem ok100 : cFn Tryz.prog 100 = some F100 := by kernel_rfl
theorem hb100 : HasBody Tryz.prog 100 := ⟨_, Tryz.func100, by kernel_rfl, by kernel_rfl⟩
/-! prog.mayKey -/
abbrev c101_r1 : List Ins := [
  ⟨some 2, none, .box (.t 0)⟩,
  ⟨some 4, none, .mov (.c (.bool false))⟩]
abbrev c101_r2 : List Ins := [
  ⟨some 5, none, .faddr 0 (.t 2)⟩,
  ⟨some 6, none, .load 1 false (.t 5)⟩,
  ⟨some 7, none, .bin .geq (.t 6) (.c (.int .i64 (-1)))⟩,
  ⟨some 8, none, .mov (.t 7)⟩,
  ⟨some 9, some (8, true), .faddr 0 (.t 2)⟩,
  ⟨some 10, some (8, true), .load 1 false (.t 9)⟩,
  ⟨some 11, some (8, true), .mov (.t 1)⟩,
  ⟨some 12, some (8, true), .bin .lss (.t 10) (.t 11)⟩,
  ⟨some 13, none, .pick (.t 8) (.t 12) (.c (.bool false))⟩,
  ⟨some 14, none, .mov (.t 13)⟩,
  ⟨some 15, some (14, true), .faddr 1 (.t 2)⟩,
  ⟨some 16, some (14, true), .load 1 false (.t 15)⟩,
  ⟨some 17, some (14, true), .bin .geq (.t 16) (.c (.int .i64 0))⟩,
  ⟨some 18, none, .pick (.t 14) (.t 17) (.c (.bool false))⟩,
  ⟨some 19, none, .mov (.t 18)⟩,
  ⟨some 20, some (19, true), .faddr 1 (.t 2)⟩,
  ⟨some 21, some (19, true), .load 1 false (.t 20)⟩,
  ⟨some 22, some (19, true), .bin .leq (.t 21) (.c (.int .i64 900))⟩,
  ⟨some 23, none, .pick (.t 19) (.t 22) (.c (.bool false))⟩,
  ⟨some 4, none, .mov (.t 23)⟩]
abbrev c101 : IR := .seq (.reg c101_r1) (.seq (.reg c101_r2) (.ret))
abbrev F101 : FnA := ⟨24, c101, [.t 4]⟩
theorem ok101 : cFn Tryz.prog 101 = some F101 := by kernel_rfl
theorem hb101 : HasBody Tryz.prog 101 := ⟨_, Tryz.func101, by kernel_rfl, by kernel_rfl⟩
/-! prog.register -/
abbrev c102_r1 : List Ins := [
  ⟨some 2, none, .mov (.c (.bool false))⟩]
abbrev c102_r2 : List Ins := [
  ⟨some 3, none, .mov (.t 0)⟩,
  ⟨some 4, none, .bin .geq (.t 3) (.c (.int .i64 0))⟩,
  ⟨some 5, none, .mov (.t 4)⟩,
  ⟨some 6, some (5, true), .mov (.t 0)⟩,
  ⟨some 7, some (5, true), .bin .lss (.t 6) (.c (.int .i64 4))⟩,
  ⟨some 8, none, .pick (.t 5) (.t 7) (.c (.bool false))⟩,
  ⟨some 2, none, .mov (.t 8)⟩]
abbrev c102 : IR := .seq (.reg c102_r1) (.seq (.reg c102_r2) (.ret))
abbrev F102 : FnA := ⟨9, c102, [.t 2]⟩
theorem ok102 : cFn Tryz.prog 102 = some F102 := by kernel_rfl
theorem hb102 : HasBody Tryz.prog 102 := ⟨_, Tryz.func102, by kernel_rfl, by kernel_rfl⟩
/-! slices.ContainsFunc:KeyT -/
abbrev c103_r1 : List Ins := [
  ⟨some 4, none, .mov (.c (.bool false))⟩]
abbrev c103_r2 : List Ins := [
  ⟨some 5, none, .mov (.t 0)⟩,
  ⟨some 6, none, .mov (.t 1)⟩,
  ⟨some 7, none, .call (.c (.fn 107 [] [])) [.t 5, .t 6]⟩,
  ⟨some 8, none, .bin .geq (.t 7) (.c (.int .i64 0))⟩,
  ⟨some 4, none, .mov (.t 8)⟩]
abbrev c103 : IR := .seq (.reg c103_r1) (.seq (.reg c103_r2) (.ret))
abbrev F103 : FnA := ⟨9, c103, [.t 4]⟩
theorem ok103 : cFn Tryz.prog 103 = some F103 := by kernel_rfl
theorem hb103 : HasBody Tryz.prog 103 := ⟨_, Tryz.func103, by kernel_rfl, by kernel_rfl⟩
/-! prog.keys -/
abbrev c104_r1 : List Ins := [
  ⟨some 1, none, .box (.t 0)⟩,
  ⟨some 2, none, .mov (.c (.sl .full []))⟩]
abbrev c104_r2 : List Ins := [
  ⟨some 3, none, .faddr 0 (.t 1)⟩,
  ⟨some 4, none, .load 1 false (.t 3)⟩]
abbrev c104_r3 : List Ins := [
  ⟨some 6, none, .bin .eql (.t 4) (.c (.int .i64 1))⟩,
  ⟨some 5, none, .mov (.t 6)⟩]
abbrev c104_r4 : List Ins := [
  ⟨some 7, none, .bin .eql (.t 4) (.c (.int .i64 2))⟩,
  ⟨some 5, none, .mov (.t 7)⟩]
abbrev c104_r5 : List Ins := [
  ⟨some 8, none, .bin .eql (.t 4) (.c (.int .i64 3))⟩,
  ⟨some 5, none, .mov (.t 8)⟩]
abbrev c104_r6 : List Ins := [
  ⟨some 9, none, .faddr 4 (.t 1)⟩,
  ⟨some 10, none, .load 2 true (.t 9)⟩,
  ⟨some 11, none, .bsl 2 1 [.int .i64 0, .int .i64 0] [(0, .t 10)]⟩,
  ⟨some 2, none, .mov (.t 11)⟩]
abbrev c104_r7 : List Ins := [
  ⟨some 13, none, .bin .eql (.t 4) (.c (.int .i64 4))⟩,
  ⟨some 12, none, .mov (.t 13)⟩]
abbrev c104_r8 : List Ins := [
  ⟨some 14, none, .faddr 4 (.t 1)⟩,
  ⟨some 15, none, .load 2 true (.t 14)⟩,
  ⟨some 16, none, .faddr 6 (.t 1)⟩,
  ⟨some 17, none, .load 2 true (.t 16)⟩,
  ⟨some 18, none, .bsl 2 2 [.int .i64 0, .int .i64 0] [(0, .t 15), (1, .t 17)]⟩,
  ⟨some 2, none, .mov (.t 18)⟩]
abbrev c104_r9 : List Ins := [
  ⟨some 2, none, .mov (.c (.sl .full []))⟩]
abbrev c104 : IR := .seq (.reg c104_r1) (.seq (.seq (.reg c104_r2) (.blk 0 (.seq (.seq (.reg c104_r3) (.cond (.t 5) (.skip) (.seq (.reg c104_r4) (.cond (.t 5) (.skip) (.reg c104_r5))))) (.cond (.t 5) (.seq (.reg c104_r6) (.ret)) (.seq (.reg c104_r7) (.cond (.t 12) (.seq (.reg c104_r8) (.ret)) (.skip))))))) (.seq (.reg c104_r9) (.ret)))
abbrev F104 : FnA := ⟨19, c104, [.t 2]⟩
theorem ok104 : cFn Tryz.prog 104 = some F104 := by kernel_rfl
theorem hb104 : HasBody Tryz.prog 104 := ⟨_, Tryz.func104, by kernel_rfl, by kernel_rfl⟩
/-! slices.IndexFunc:SpanT -/
abbrev c105_r1 : List Ins := [
  ⟨some 4, none, .mov (.c (.int .i64 0))⟩]
abbrev c105_r2 : List Ins := [
  ⟨some 6, none, .mov (.t 0)⟩,
  ⟨some 7, none, .len (.t 6)⟩,
  ⟨some 8, none, .mov (.c (.int .i64 0))⟩]
abbrev c105_r3 : List Ins := [
  ⟨some 9, none, .bin .lss (.t 8) (.t 7)⟩]
abbrev c105_r4 : List Ins := [
  ⟨some 10, none, .mov (.t 8)⟩,
  ⟨some 5, none, .mov (.t 10)⟩]
abbrev c105_r5 : List Ins := [
  ⟨some 11, none, .mov (.t 1)⟩,
  ⟨some 12, none, .mov (.t 0)⟩,
  ⟨some 13, none, .mov (.t 5)⟩,
  ⟨some 14, none, .iaddr 5 (.t 12) (.t 13)⟩,
  ⟨some 15, none, .load 5 true (.t 14)⟩,
  ⟨some 16, none, .call (.t 11) [.t 15]⟩]
abbrev c105_r6 : List Ins := [
  ⟨some 17, none, .mov (.t 5)⟩,
  ⟨some 4, none, .mov (.t 17)⟩]
abbrev c105_r7 : List Ins := [
  ⟨some 18, none, .bin .add (.t 8) (.c (.int .i64 1))⟩,
  ⟨some 8, none, .mov (.t 18)⟩]
abbrev c105_l8 : IR := .seq (.reg c105_r3) (.seq (.cond (.t 9) (.skip) (.exit 0)) (.seq (.blk 1 (.seq (.reg c105_r4) (.seq (.reg c105_r5) (.cond (.t 16) (.seq (.reg c105_r6) (.ret)) (.skip))))) (.reg c105_r7)))
abbrev c105_r9 : List Ins := [
  ⟨some 4, none, .mov (.c (.int .i64 (-1)))⟩]
abbrev c105 : IR := .seq (.reg c105_r1) (.seq (.seq (.reg c105_r2) (.blk 0 (.loop c105_l8))) (.seq (.reg c105_r9) (.ret)))
abbrev F105 : FnA := ⟨19, c105, [.t 4]⟩
theorem ok105 : cFn Tryz.prog 105 = some F105 := by kernel_rfl
theorem hb105 : HasBody Tryz.prog 105 := ⟨_, Tryz.func105, by kernel_rfl, by kernel_rfl⟩
/-! prog.Sure$1 -/
abbrev c106_r1 : List Ins := [
  ⟨some 1, none, .box (.t 0)⟩,
  ⟨some 2, none, .mov (.c (.bool false))⟩]
abbrev c106_r2 : List Ins := [
  ⟨some 3, none, .faddr 0 (.t 1)⟩,
  ⟨some 4, none, .load 1 false (.t 3)⟩,
  ⟨some 5, none, .bin .eql (.t 4) (.c (.int .i64 6))⟩,
  ⟨some 6, none, .mov (.t 5)⟩,
  ⟨some 7, some (6, false), .faddr 0 (.t 1)⟩,
  ⟨some 8, some (6, false), .load 1 false (.t 7)⟩,
  ⟨some 9, some (6, false), .bin .eql (.t 8) (.c (.int .i64 7))⟩,
  ⟨some 10, none, .pick (.t 6) (.c (.bool true)) (.t 9)⟩,
  ⟨some 11, none, .mov (.t 10)⟩,
  ⟨some 12, some (11, false), .faddr 0 (.t 1)⟩,
  ⟨some 13, some (11, false), .load 1 false (.t 12)⟩,
  ⟨some 14, some (11, false), .bin .eql (.t 13) (.c (.int .i64 8))⟩,
  ⟨some 15, none, .pick (.t 11) (.c (.bool true)) (.t 14)⟩,
  ⟨some 2, none, .mov (.t 15)⟩]
abbrev c106 : IR := .seq (.reg c106_r1) (.seq (.reg c106_r2) (.ret))
abbrev F106 : FnA := ⟨16, c106, [.t 2]⟩
theorem ok106 : cFn Tryz.prog 106 = some F106 := by kernel_rfl
theorem hb106 : HasBody Tryz.prog 106 := ⟨_, Tryz.func106, by kernel_rfl, by kernel_rfl⟩
/-! slices.IndexFunc:KeyT -/
abbrev c107_r1 : List Ins := [
  ⟨some 4, none, .mov (.c (.int .i64 0))⟩]
abbrev c107_r2 : List Ins := [
  ⟨some 6, none, .mov (.t 0)⟩,
  ⟨some 7, none, .len (.t 6)⟩,
  ⟨some 8, none, .mov (.c (.int .i64 0))⟩]
abbrev c107_r3 : List Ins := [
  ⟨some 9, none, .bin .lss (.t 8) (.t 7)⟩]
abbrev c107_r4 : List Ins := [
  ⟨some 10, none, .mov (.t 8)⟩,
  ⟨some 5, none, .mov (.t 10)⟩]
abbrev c107_r5 : List Ins := [
  ⟨some 11, none, .mov (.t 1)⟩,
  ⟨some 12, none, .mov (.t 0)⟩,
  ⟨some 13, none, .mov (.t 5)⟩,
  ⟨some 14, none, .iaddr 2 (.t 12) (.t 13)⟩,
  ⟨some 15, none, .load 2 true (.t 14)⟩,
  ⟨some 16, none, .call (.t 11) [.t 15]⟩]
abbrev c107_r6 : List Ins := [
  ⟨some 17, none, .mov (.t 5)⟩,
  ⟨some 4, none, .mov (.t 17)⟩]
abbrev c107_r7 : List Ins := [
  ⟨some 18, none, .bin .add (.t 8) (.c (.int .i64 1))⟩,
  ⟨some 8, none, .mov (.t 18)⟩]
abbrev c107_l8 : IR := .seq (.reg c107_r3) (.seq (.cond (.t 9) (.skip) (.exit 0)) (.seq (.blk 1 (.seq (.reg c107_r4) (.seq (.reg c107_r5) (.cond (.t 16) (.seq (.reg c107_r6) (.ret)) (.skip))))) (.reg c107_r7)))
abbrev c107_r9 : List Ins := [
  ⟨some 4, none, .mov (.c (.int .i64 (-1)))⟩]
abbrev c107 : IR := .seq (.reg c107_r1) (.seq (.seq (.reg c107_r2) (.blk 0 (.loop c107_l8))) (.seq (.reg c107_r9) (.ret)))
abbrev F107 : FnA := ⟨19, c107, [.t 4]⟩
theorem ok107 : cFn Tryz.prog 107 = some F107 := by kernel_rfl
theorem hb107 : HasBody Tryz.prog 107 := ⟨_, Tryz.func107, by kernel_rfl, by kernel_rfl⟩


end Go.Proofs
