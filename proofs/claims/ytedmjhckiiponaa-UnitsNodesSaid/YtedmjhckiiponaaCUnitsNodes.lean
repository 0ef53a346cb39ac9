/- The code of the functions that the statement reaches, as the abstract machine reads it. -/
import Derived.Test.YtedmjhckiiponaaK4
import Derived.Test.YtedmjhckiiponaaProg
namespace Go.Proofs
open Go Go.RowKit Go.Am

/-! law01.CodesWrite -/
abbrev c3_r1 : List Ins := [
  ⟨some 2, none, .mov (.c (.bool false))⟩]
abbrev c3_r2 : List Ins := [
  ⟨some 6, none, .call (.c (.fn 14 [] [])) []⟩,
  ⟨some 7, none, .un .not (.t 6)⟩]
abbrev c3_r3 : List Ins := [
  ⟨some 2, none, .mov (.c (.bool false))⟩]
abbrev c3_r4 : List Ins := [
  ⟨some 8, none, .mov (.t 0)⟩,
  ⟨some 9, none, .call (.c (.fn 15 [] [])) [.t 8]⟩]
abbrev c3_r5 : List Ins := [
  ⟨some 2, none, .mov (.c (.bool true))⟩]
abbrev c3_r6 : List Ins := [
  ⟨some 3, none, .alloc [.sl .full []]⟩]
abbrev c3_r7 : List Ins := [
  ⟨some 4, none, .mov (.c (.sl .full []))⟩]
abbrev c3_r8 : List Ins := [
  ⟨some 5, none, .mov (.c (.int .i64 0))⟩]
abbrev c3_r9 : List Ins := [
  ⟨some 10, none, .mov (.t 5)⟩,
  ⟨some 11, none, .mov (.t 0)⟩,
  ⟨some 12, none, .len (.t 11)⟩,
  ⟨some 13, none, .bin .lss (.t 10) (.t 12)⟩]
abbrev c3_r10 : List Ins := [
  ⟨some 16, none, .mov (.t 0)⟩,
  ⟨some 17, none, .mov (.t 5)⟩,
  ⟨some 18, none, .iaddr 6 (.t 16) (.t 17)⟩,
  ⟨some 19, none, .load 6 true (.t 18)⟩,
  ⟨some 20, none, .call (.c (.fn 16 [] [])) [.t 3, .t 19]⟩]
abbrev c3_r11 : List Ins := [
  ⟨some 21, none, .mov (.t 4)⟩,
  ⟨some 22, none, .mov (.t 0)⟩,
  ⟨some 23, none, .mov (.t 5)⟩,
  ⟨some 24, none, .iaddr 6 (.t 22) (.t 23)⟩,
  ⟨some 25, none, .load 6 true (.t 24)⟩,
  ⟨some 26, none, .call (.c (.fn 17 [] [])) [.t 21, .t 25]⟩,
  ⟨some 4, none, .mov (.t 26)⟩]
abbrev c3_r12 : List Ins := [
  ⟨some 14, none, .mov (.t 5)⟩,
  ⟨some 15, none, .bin .add (.t 14) (.c (.int .i64 1))⟩,
  ⟨some 5, none, .mov (.t 15)⟩]
abbrev c3_l13 : IR := .seq (.seq (.reg c3_r9) (.cond (.t 13) (.skip) (.exit 0))) (.seq (.blk 1 (.seq (.reg c3_r10) (.reg c3_r11))) (.reg c3_r12))
abbrev c3_r14 : List Ins := [
  ⟨some 27, none, .call (.c (.fn 19 [] [])) [.t 3]⟩,
  ⟨some 28, none, .mov (.t 4)⟩,
  ⟨some 29, none, .call (.c (.fn 18 [] [])) [.t 27, .t 28]⟩,
  ⟨some 2, none, .mov (.t 29)⟩]
abbrev c3 : IR := .seq (.reg c3_r1) (.seq (.seq (.reg c3_r2) (.cond (.t 7) (.seq (.reg c3_r3) (.ret)) (.skip))) (.seq (.seq (.reg c3_r4) (.cond (.t 9) (.seq (.reg c3_r5) (.ret)) (.skip))) (.seq (.reg c3_r6) (.seq (.reg c3_r7) (.seq (.seq (.reg c3_r8) (.blk 0 (.loop c3_l13))) (.seq (.reg c3_r14) (.ret)))))))
abbrev F3 : FnA := ⟨30, c3, [.t 2]⟩
theorem ok3 : cFn Try.prog 3 = some F3 := by kernel_rfl
theorem hb3 : HasBody Try.prog 3 := ⟨_, Try.func3, by kernel_rfl, by kernel_rfl⟩
/-! law14.UnitsParts -/
abbrev c4_r1 : List Ins := [
  ⟨some 3, none, .box (.t 0)⟩,
  ⟨some 6, none, .mov (.c (.bool false))⟩]
abbrev c4_r2 : List Ins := [
  ⟨some 18, none, .call (.c (.fn 20 [] [])) []⟩,
  ⟨some 19, none, .un .not (.t 18)⟩]
abbrev c4_r3 : List Ins := [
  ⟨some 6, none, .mov (.c (.bool false))⟩]
abbrev c4_r4 : List Ins := [
  ⟨some 20, none, .load 17 true (.t 3)⟩,
  ⟨some 21, none, .call (.c (.fn 21 [] [])) [.t 20]⟩,
  ⟨some 22, none, .un .not (.t 21)⟩,
  ⟨some 23, none, .mov (.t 22)⟩,
  ⟨some 24, some (23, false), .load 17 true (.t 3)⟩,
  ⟨some 25, some (23, false), .mov (.t 1)⟩,
  ⟨some 26, some (23, false), .call (.c (.fn 22 [] [])) [.t 24, .t 25]⟩,
  ⟨some 27, some (23, false), .un .not (.t 26)⟩,
  ⟨some 28, none, .pick (.t 23) (.c (.bool true)) (.t 27)⟩,
  ⟨some 29, none, .mov (.t 28)⟩,
  ⟨some 30, some (29, false), .load 17 true (.t 3)⟩,
  ⟨some 31, some (29, false), .mov (.t 2)⟩,
  ⟨some 32, some (29, false), .call (.c (.fn 22 [] [])) [.t 30, .t 31]⟩,
  ⟨some 33, some (29, false), .un .not (.t 32)⟩,
  ⟨some 34, none, .pick (.t 29) (.c (.bool true)) (.t 33)⟩]
abbrev c4_r5 : List Ins := [
  ⟨some 6, none, .mov (.c (.bool true))⟩]
abbrev c4_r6 : List Ins := [
  ⟨some 7, none, .mov (.c (.int .i64 0))⟩]
abbrev c4_r7 : List Ins := [
  ⟨some 35, none, .mov (.t 7)⟩,
  ⟨some 36, none, .faddr 0 (.t 3)⟩,
  ⟨some 37, none, .load 1 false (.t 36)⟩,
  ⟨some 38, none, .mov (.t 1)⟩,
  ⟨some 39, none, .iaddr 5 (.t 37) (.t 38)⟩,
  ⟨some 40, none, .faddr 2 (.t 39)⟩,
  ⟨some 41, none, .load 1 false (.t 40)⟩,
  ⟨some 42, none, .len (.t 41)⟩,
  ⟨some 43, none, .bin .lss (.t 35) (.t 42)⟩]
abbrev c4_r8 : List Ins := [
  ⟨some 45, none, .load 17 true (.t 3)⟩,
  ⟨some 46, none, .mov (.t 1)⟩,
  ⟨some 47, none, .mov (.t 2)⟩,
  ⟨some 48, none, .mov (.t 7)⟩,
  ⟨some 49, none, .call (.c (.fn 23 [] [])) [.t 45, .t 46, .t 47, .t 48]⟩,
  ⟨some 44, none, .mov (.t 49)⟩,
  ⟨some 50, none, .ext (.t 44) 0⟩,
  ⟨some 51, none, .ext (.t 44) 1⟩,
  ⟨some 52, none, .ext (.t 44) 2⟩,
  ⟨some 8, none, .mov (.t 50)⟩,
  ⟨some 9, none, .mov (.t 51)⟩,
  ⟨some 10, none, .mov (.t 52)⟩]
abbrev c4_r9 : List Ins := [
  ⟨some 53, none, .mov (.t 10)⟩,
  ⟨some 54, none, .un .not (.t 53)⟩,
  ⟨some 55, none, .mov (.t 54)⟩,
  ⟨some 56, some (55, false), .mov (.t 8)⟩,
  ⟨some 57, some (55, false), .mov (.t 7)⟩,
  ⟨some 58, some (55, false), .bin .neq (.t 56) (.t 57)⟩,
  ⟨some 59, none, .pick (.t 55) (.c (.bool true)) (.t 58)⟩,
  ⟨some 60, none, .mov (.t 59)⟩,
  ⟨some 61, some (60, false), .mov (.t 9)⟩,
  ⟨some 62, some (60, false), .mov (.t 8)⟩,
  ⟨some 63, some (60, false), .bin .lss (.t 61) (.t 62)⟩,
  ⟨some 64, none, .pick (.t 60) (.c (.bool true)) (.t 63)⟩]
abbrev c4_r10 : List Ins := [
  ⟨some 6, none, .mov (.c (.bool false))⟩]
abbrev c4_r11 : List Ins := [
  ⟨some 65, none, .mov (.t 8)⟩,
  ⟨some 11, none, .mov (.t 65)⟩]
abbrev c4_r12 : List Ins := [
  ⟨some 66, none, .mov (.t 11)⟩,
  ⟨some 67, none, .mov (.t 9)⟩,
  ⟨some 68, none, .bin .leq (.t 66) (.t 67)⟩]
abbrev c4_r13 : List Ins := [
  ⟨some 72, none, .load 17 true (.t 3)⟩,
  ⟨some 73, none, .mov (.t 1)⟩,
  ⟨some 74, none, .mov (.t 2)⟩,
  ⟨some 75, none, .mov (.t 11)⟩,
  ⟨some 76, none, .call (.c (.fn 23 [] [])) [.t 72, .t 73, .t 74, .t 75]⟩,
  ⟨some 71, none, .mov (.t 76)⟩,
  ⟨some 77, none, .ext (.t 71) 0⟩,
  ⟨some 78, none, .ext (.t 71) 1⟩,
  ⟨some 79, none, .ext (.t 71) 2⟩,
  ⟨some 12, none, .mov (.t 77)⟩,
  ⟨some 13, none, .mov (.t 78)⟩,
  ⟨some 14, none, .mov (.t 79)⟩]
abbrev c4_r14 : List Ins := [
  ⟨some 81, none, .load 17 true (.t 3)⟩,
  ⟨some 82, none, .call (.c (.fn 24 [] [])) [.t 81]⟩,
  ⟨some 83, none, .mov (.t 1)⟩,
  ⟨some 84, none, .mov (.t 2)⟩,
  ⟨some 85, none, .mov (.t 11)⟩,
  ⟨some 86, none, .call (.c (.fn 23 [] [])) [.t 82, .t 83, .t 84, .t 85]⟩,
  ⟨some 80, none, .mov (.t 86)⟩,
  ⟨some 87, none, .ext (.t 80) 0⟩,
  ⟨some 88, none, .ext (.t 80) 1⟩,
  ⟨some 89, none, .ext (.t 80) 2⟩,
  ⟨some 15, none, .mov (.t 87)⟩,
  ⟨some 16, none, .mov (.t 88)⟩,
  ⟨some 17, none, .mov (.t 89)⟩]
abbrev c4_r15 : List Ins := [
  ⟨some 90, none, .mov (.t 14)⟩,
  ⟨some 91, none, .un .not (.t 90)⟩,
  ⟨some 92, none, .mov (.t 91)⟩,
  ⟨some 93, some (92, false), .mov (.t 12)⟩,
  ⟨some 94, some (92, false), .mov (.t 8)⟩,
  ⟨some 95, some (92, false), .bin .neq (.t 93) (.t 94)⟩,
  ⟨some 96, none, .pick (.t 92) (.c (.bool true)) (.t 95)⟩,
  ⟨some 97, none, .mov (.t 96)⟩,
  ⟨some 98, some (97, false), .mov (.t 13)⟩,
  ⟨some 99, some (97, false), .mov (.t 9)⟩,
  ⟨some 100, some (97, false), .bin .neq (.t 98) (.t 99)⟩,
  ⟨some 101, none, .pick (.t 97) (.c (.bool true)) (.t 100)⟩,
  ⟨some 102, none, .mov (.t 101)⟩,
  ⟨some 103, some (102, false), .mov (.t 17)⟩,
  ⟨some 104, some (102, false), .un .not (.t 103)⟩,
  ⟨some 105, none, .pick (.t 102) (.c (.bool true)) (.t 104)⟩,
  ⟨some 106, none, .mov (.t 105)⟩,
  ⟨some 107, some (106, false), .mov (.t 15)⟩,
  ⟨some 108, some (106, false), .mov (.t 8)⟩,
  ⟨some 109, some (106, false), .bin .lss (.t 107) (.t 108)⟩,
  ⟨some 110, none, .pick (.t 106) (.c (.bool true)) (.t 109)⟩,
  ⟨some 111, none, .mov (.t 110)⟩,
  ⟨some 112, some (111, false), .mov (.t 16)⟩,
  ⟨some 113, some (111, false), .mov (.t 9)⟩,
  ⟨some 114, some (111, false), .bin .gtr (.t 112) (.t 113)⟩,
  ⟨some 115, none, .pick (.t 111) (.c (.bool true)) (.t 114)⟩]
abbrev c4_r16 : List Ins := [
  ⟨some 6, none, .mov (.c (.bool false))⟩]
abbrev c4_r17 : List Ins := [
  ⟨some 69, none, .mov (.t 11)⟩,
  ⟨some 70, none, .bin .add (.t 69) (.c (.int .i64 1))⟩,
  ⟨some 11, none, .mov (.t 70)⟩]
abbrev c4_l18 : IR := .seq (.seq (.reg c4_r12) (.cond (.t 68) (.skip) (.exit 2))) (.seq (.blk 3 (.seq (.reg c4_r13) (.seq (.reg c4_r14) (.seq (.reg c4_r15) (.cond (.t 115) (.seq (.reg c4_r16) (.ret)) (.skip)))))) (.reg c4_r17))
abbrev c4_r19 : List Ins := [
  ⟨some 116, none, .mov (.t 9)⟩,
  ⟨some 117, none, .bin .add (.t 116) (.c (.int .i64 1))⟩,
  ⟨some 7, none, .mov (.t 117)⟩]
abbrev c4_l20 : IR := .seq (.seq (.reg c4_r7) (.cond (.t 43) (.skip) (.exit 0))) (.blk 1 (.seq (.reg c4_r8) (.seq (.seq (.reg c4_r9) (.cond (.t 64) (.seq (.reg c4_r10) (.ret)) (.skip))) (.seq (.seq (.reg c4_r11) (.blk 2 (.loop c4_l18))) (.reg c4_r19)))))
abbrev c4_r21 : List Ins := [
  ⟨some 118, none, .mov (.t 7)⟩,
  ⟨some 119, none, .faddr 0 (.t 3)⟩,
  ⟨some 120, none, .load 1 false (.t 119)⟩,
  ⟨some 121, none, .mov (.t 1)⟩,
  ⟨some 122, none, .iaddr 5 (.t 120) (.t 121)⟩,
  ⟨some 123, none, .faddr 2 (.t 122)⟩,
  ⟨some 124, none, .load 1 false (.t 123)⟩,
  ⟨some 125, none, .len (.t 124)⟩,
  ⟨some 126, none, .bin .eql (.t 118) (.t 125)⟩,
  ⟨some 6, none, .mov (.t 126)⟩]
abbrev c4 : IR := .seq (.reg c4_r1) (.seq (.seq (.reg c4_r2) (.cond (.t 19) (.seq (.reg c4_r3) (.ret)) (.skip))) (.seq (.seq (.reg c4_r4) (.cond (.t 34) (.seq (.reg c4_r5) (.ret)) (.skip))) (.seq (.reg c4_r6) (.seq (.blk 0 (.loop c4_l20)) (.seq (.reg c4_r21) (.ret))))))
abbrev F4 : FnA := ⟨127, c4, [.t 6]⟩
theorem ok4 : cFn Try.prog 4 = some F4 := by kernel_rfl
theorem hb4 : HasBody Try.prog 4 := ⟨_, Try.func4, by kernel_rfl, by kernel_rfl⟩
/-! law14.UnitsBounds -/
abbrev c6_r1 : List Ins := [
  ⟨some 4, none, .box (.t 0)⟩,
  ⟨some 8, none, .mov (.c (.bool false))⟩]
abbrev c6_r2 : List Ins := [
  ⟨some 25, none, .call (.c (.fn 20 [] [])) []⟩,
  ⟨some 26, none, .un .not (.t 25)⟩]
abbrev c6_r3 : List Ins := [
  ⟨some 8, none, .mov (.c (.bool false))⟩]
abbrev c6_r4 : List Ins := [
  ⟨some 27, none, .load 17 true (.t 4)⟩,
  ⟨some 28, none, .call (.c (.fn 21 [] [])) [.t 27]⟩,
  ⟨some 29, none, .un .not (.t 28)⟩]
abbrev c6_r5 : List Ins := [
  ⟨some 8, none, .mov (.c (.bool true))⟩]
abbrev c6_r6 : List Ins := [
  ⟨some 31, none, .load 17 true (.t 4)⟩,
  ⟨some 32, none, .mov (.t 1)⟩,
  ⟨some 33, none, .mov (.t 2)⟩,
  ⟨some 34, none, .mov (.t 3)⟩,
  ⟨some 35, none, .call (.c (.fn 23 [] [])) [.t 31, .t 32, .t 33, .t 34]⟩,
  ⟨some 30, none, .mov (.t 35)⟩,
  ⟨some 36, none, .ext (.t 30) 0⟩,
  ⟨some 37, none, .ext (.t 30) 1⟩,
  ⟨some 38, none, .ext (.t 30) 2⟩,
  ⟨some 9, none, .mov (.t 36)⟩,
  ⟨some 10, none, .mov (.t 37)⟩,
  ⟨some 11, none, .mov (.t 38)⟩]
abbrev c6_r7 : List Ins := [
  ⟨some 40, none, .load 17 true (.t 4)⟩,
  ⟨some 41, none, .mov (.t 1)⟩,
  ⟨some 42, none, .mov (.t 2)⟩,
  ⟨some 43, none, .mov (.t 3)⟩,
  ⟨some 44, none, .call (.c (.fn 30 [] [])) [.t 40, .t 41, .t 42, .t 43]⟩,
  ⟨some 39, none, .mov (.t 44)⟩,
  ⟨some 45, none, .ext (.t 39) 0⟩,
  ⟨some 46, none, .ext (.t 39) 1⟩,
  ⟨some 47, none, .ext (.t 39) 2⟩,
  ⟨some 12, none, .mov (.t 45)⟩,
  ⟨some 13, none, .mov (.t 46)⟩,
  ⟨some 14, none, .mov (.t 47)⟩]
abbrev c6_r8 : List Ins := [
  ⟨some 48, none, .mov (.t 9)⟩,
  ⟨some 49, none, .mov (.t 12)⟩,
  ⟨some 50, none, .bin .neq (.t 48) (.t 49)⟩,
  ⟨some 51, none, .mov (.t 50)⟩,
  ⟨some 52, some (51, false), .mov (.t 10)⟩,
  ⟨some 53, some (51, false), .mov (.t 13)⟩,
  ⟨some 54, some (51, false), .bin .neq (.t 52) (.t 53)⟩,
  ⟨some 55, none, .pick (.t 51) (.c (.bool true)) (.t 54)⟩,
  ⟨some 56, none, .mov (.t 55)⟩,
  ⟨some 57, some (56, false), .mov (.t 11)⟩,
  ⟨some 58, some (56, false), .mov (.t 14)⟩,
  ⟨some 59, some (56, false), .eq [.b] false true (.t 57) (.t 58)⟩,
  ⟨some 60, none, .pick (.t 56) (.c (.bool true)) (.t 59)⟩]
abbrev c6_r9 : List Ins := [
  ⟨some 8, none, .mov (.c (.bool false))⟩]
abbrev c6_r10 : List Ins := [
  ⟨some 15, none, .mov (.c (.bool false))⟩]
abbrev c6_r11 : List Ins := [
  ⟨some 61, none, .mov (.t 3)⟩,
  ⟨some 62, none, .bin .gtr (.t 61) (.c (.int .i64 0))⟩]
abbrev c6_r12 : List Ins := [
  ⟨some 64, none, .load 17 true (.t 4)⟩,
  ⟨some 65, none, .mov (.t 1)⟩,
  ⟨some 66, none, .mov (.t 2)⟩,
  ⟨some 67, none, .mov (.t 3)⟩,
  ⟨some 68, none, .bin .sub (.t 67) (.c (.int .i64 1))⟩,
  ⟨some 69, none, .call (.c (.fn 30 [] [])) [.t 64, .t 65, .t 66, .t 68]⟩,
  ⟨some 63, none, .mov (.t 69)⟩,
  ⟨some 70, none, .ext (.t 63) 0⟩,
  ⟨some 71, none, .ext (.t 63) 1⟩,
  ⟨some 72, none, .ext (.t 63) 2⟩,
  ⟨some 16, none, .mov (.t 70)⟩,
  ⟨some 17, none, .mov (.t 71)⟩,
  ⟨some 18, none, .mov (.t 72)⟩]
abbrev c6_r13 : List Ins := [
  ⟨some 73, none, .mov (.t 18)⟩,
  ⟨some 74, none, .mov (.t 73)⟩,
  ⟨some 75, some (74, true), .mov (.t 17)⟩,
  ⟨some 76, some (74, true), .mov (.t 3)⟩,
  ⟨some 77, some (74, true), .bin .geq (.t 75) (.t 76)⟩,
  ⟨some 78, none, .pick (.t 74) (.t 77) (.c (.bool false))⟩,
  ⟨some 15, none, .mov (.t 78)⟩]
abbrev c6_r14 : List Ins := [
  ⟨some 79, none, .load 17 true (.t 4)⟩,
  ⟨some 80, none, .mov (.t 1)⟩,
  ⟨some 81, none, .mov (.t 2)⟩,
  ⟨some 82, none, .mov (.t 3)⟩,
  ⟨some 83, none, .call (.c (.fn 31 [] [])) [.t 79, .t 80, .t 81, .t 82]⟩,
  ⟨some 84, none, .mov (.t 15)⟩,
  ⟨some 85, none, .eq [.b] false true (.t 83) (.t 84)⟩]
abbrev c6_r15 : List Ins := [
  ⟨some 8, none, .mov (.c (.bool false))⟩]
abbrev c6_r16 : List Ins := [
  ⟨some 86, none, .mov (.t 11)⟩,
  ⟨some 87, none, .un .not (.t 86)⟩]
abbrev c6_r17 : List Ins := [
  ⟨some 88, none, .mov (.t 9)⟩,
  ⟨some 89, none, .bin .eql (.t 88) (.c (.int .i64 0))⟩,
  ⟨some 90, none, .mov (.t 89)⟩,
  ⟨some 91, some (90, true), .mov (.t 10)⟩,
  ⟨some 92, some (90, true), .bin .eql (.t 91) (.c (.int .i64 0))⟩,
  ⟨some 93, none, .pick (.t 90) (.t 92) (.c (.bool false))⟩,
  ⟨some 8, none, .mov (.t 93)⟩]
abbrev c6_r18 : List Ins := [
  ⟨some 95, none, .load 17 true (.t 4)⟩,
  ⟨some 96, none, .call (.c (.fn 24 [] [])) [.t 95]⟩,
  ⟨some 97, none, .mov (.t 1)⟩,
  ⟨some 98, none, .mov (.t 2)⟩,
  ⟨some 99, none, .mov (.t 3)⟩,
  ⟨some 100, none, .call (.c (.fn 23 [] [])) [.t 96, .t 97, .t 98, .t 99]⟩,
  ⟨some 94, none, .mov (.t 100)⟩,
  ⟨some 101, none, .ext (.t 94) 0⟩,
  ⟨some 102, none, .ext (.t 94) 1⟩,
  ⟨some 103, none, .ext (.t 94) 2⟩,
  ⟨some 19, none, .mov (.t 101)⟩,
  ⟨some 20, none, .mov (.t 102)⟩,
  ⟨some 21, none, .mov (.t 103)⟩]
abbrev c6_r19 : List Ins := [
  ⟨some 105, none, .load 17 true (.t 4)⟩,
  ⟨some 106, none, .call (.c (.fn 32 [] [])) [.t 105]⟩,
  ⟨some 107, none, .mov (.t 1)⟩,
  ⟨some 108, none, .mov (.t 2)⟩,
  ⟨some 109, none, .mov (.t 3)⟩,
  ⟨some 110, none, .call (.c (.fn 23 [] [])) [.t 106, .t 107, .t 108, .t 109]⟩,
  ⟨some 104, none, .mov (.t 110)⟩,
  ⟨some 111, none, .ext (.t 104) 0⟩,
  ⟨some 112, none, .ext (.t 104) 1⟩,
  ⟨some 113, none, .ext (.t 104) 2⟩,
  ⟨some 22, none, .mov (.t 111)⟩,
  ⟨some 23, none, .mov (.t 112)⟩,
  ⟨some 24, none, .mov (.t 113)⟩]
abbrev c6_r20 : List Ins := [
  ⟨some 114, none, .mov (.t 19)⟩,
  ⟨some 115, none, .mov (.t 3)⟩,
  ⟨some 116, none, .bin .eql (.t 114) (.t 115)⟩,
  ⟨some 117, none, .mov (.t 116)⟩,
  ⟨some 118, some (117, true), .mov (.t 20)⟩,
  ⟨some 119, some (117, true), .mov (.t 3)⟩,
  ⟨some 120, some (117, true), .bin .eql (.t 118) (.t 119)⟩,
  ⟨some 121, none, .pick (.t 117) (.t 120) (.c (.bool false))⟩,
  ⟨some 122, none, .mov (.t 121)⟩,
  ⟨some 123, some (122, true), .mov (.t 22)⟩,
  ⟨some 124, some (122, true), .bin .eql (.t 123) (.c (.int .i64 0))⟩,
  ⟨some 125, none, .pick (.t 122) (.t 124) (.c (.bool false))⟩,
  ⟨some 126, none, .mov (.t 125)⟩,
  ⟨some 127, some (126, true), .mov (.t 23)⟩,
  ⟨some 128, some (126, true), .faddr 0 (.t 4)⟩,
  ⟨some 129, some (126, true), .load 1 false (.t 128)⟩,
  ⟨some 130, some (126, true), .mov (.t 1)⟩,
  ⟨some 131, some (126, true), .iaddr 5 (.t 129) (.t 130)⟩,
  ⟨some 132, some (126, true), .faddr 2 (.t 131)⟩,
  ⟨some 133, some (126, true), .load 1 false (.t 132)⟩,
  ⟨some 134, some (126, true), .len (.t 133)⟩,
  ⟨some 135, some (126, true), .bin .sub (.t 134) (.c (.int .i64 1))⟩,
  ⟨some 136, some (126, true), .bin .eql (.t 127) (.t 135)⟩,
  ⟨some 137, none, .pick (.t 126) (.t 136) (.c (.bool false))⟩,
  ⟨some 8, none, .mov (.t 137)⟩]
abbrev c6 : IR := .seq (.reg c6_r1) (.seq (.seq (.reg c6_r2) (.cond (.t 26) (.seq (.reg c6_r3) (.ret)) (.skip))) (.seq (.seq (.reg c6_r4) (.cond (.t 29) (.seq (.reg c6_r5) (.ret)) (.skip))) (.seq (.reg c6_r6) (.seq (.reg c6_r7) (.seq (.seq (.reg c6_r8) (.cond (.t 60) (.seq (.reg c6_r9) (.ret)) (.skip))) (.seq (.reg c6_r10) (.seq (.seq (.reg c6_r11) (.cond (.t 62) (.seq (.reg c6_r12) (.reg c6_r13)) (.skip))) (.seq (.seq (.reg c6_r14) (.cond (.t 85) (.seq (.reg c6_r15) (.ret)) (.skip))) (.seq (.seq (.reg c6_r16) (.cond (.t 87) (.seq (.reg c6_r17) (.ret)) (.skip))) (.seq (.reg c6_r18) (.seq (.reg c6_r19) (.seq (.reg c6_r20) (.ret)))))))))))))
abbrev F6 : FnA := ⟨138, c6, [.t 8]⟩
theorem ok6 : cFn Try.prog 6 = some F6 := by kernel_rfl
theorem hb6 : HasBody Try.prog 6 := ⟨_, Try.func6, by kernel_rfl, by kernel_rfl⟩
/-! law14.UnitsMay -/
abbrev c8_r1 : List Ins := [
  ⟨some 2, none, .box (.t 0)⟩,
  ⟨some 4, none, .mov (.c (.bool false))⟩]
abbrev c8_r2 : List Ins := [
  ⟨some 5, none, .call (.c (.fn 20 [] [])) []⟩,
  ⟨some 6, none, .un .not (.t 5)⟩]
abbrev c8_r3 : List Ins := [
  ⟨some 4, none, .mov (.c (.bool false))⟩]
abbrev c8_r4 : List Ins := [
  ⟨some 7, none, .load 17 true (.t 2)⟩,
  ⟨some 8, none, .mov (.t 1)⟩,
  ⟨some 9, none, .call (.c (.fn 33 [] [])) [.t 7, .t 8]⟩,
  ⟨some 10, none, .mov (.t 9)⟩,
  ⟨some 11, some (10, false), .load 17 true (.t 2)⟩,
  ⟨some 12, some (10, false), .mov (.t 1)⟩,
  ⟨some 13, some (10, false), .call (.c (.fn 34 [] [])) [.t 11, .t 12]⟩,
  ⟨some 14, some (10, false), .load 17 true (.t 2)⟩,
  ⟨some 15, some (10, false), .mov (.t 1)⟩,
  ⟨some 16, some (10, false), .call (.c (.fn 35 [] [])) [.t 14, .t 15]⟩,
  ⟨some 17, some (10, false), .eq [.b] false false (.t 13) (.t 16)⟩,
  ⟨some 18, none, .pick (.t 10) (.c (.bool true)) (.t 17)⟩,
  ⟨some 4, none, .mov (.t 18)⟩]
def c8_a4 : List (List Nat) := [[], [], [0, 1], [2, 2], [3], [3], [4, 5, 3, 3], [3], [3], [7, 8, 6, 3], [6, 9, 3], [3, 10], [11, 9, 0, 1, 2, 3, 4, 5, 6, 7, 8, 9, 10, 11]]
abbrev c8_m4 : List Am.Mark := [⟨false, 0, 0⟩, ⟨false, 0, 0⟩, ⟨false, 0, 0⟩, ⟨false, 0, 0⟩, ⟨false, 0, 0⟩, ⟨false, 0, 0⟩, ⟨false, 0, 0⟩, ⟨false, 0, 0⟩, ⟨false, 0, 0⟩, ⟨false, 0, 0⟩, ⟨false, 0, 0⟩, ⟨false, 0, 0⟩, ⟨false, 0, 0⟩]
theorem c8_d4 : drawFine c8_r4 c8_a4 c8_m4 = true := by decide +kernel
abbrev c8 : IR := .seq (.reg c8_r1) (.seq (.seq (.reg c8_r2) (.cond (.t 6) (.seq (.reg c8_r3) (.ret)) (.skip))) (.seq (.dreg c8_r4 c8_a4) (.ret)))
abbrev F8 : FnA := ⟨19, c8, [.t 4]⟩
theorem ok8 : cFn Try.prog 8 = some F8 := by kernel_rfl
theorem hb8 : HasBody Try.prog 8 := ⟨_, Try.func8, by kernel_rfl, by kernel_rfl⟩
/-! law14.UnitsNodes -/
abbrev c12_r1 : List Ins := [
  ⟨some 4, none, .box (.t 0)⟩,
  ⟨some 8, none, .mov (.c (.bool false))⟩]
abbrev c12_r2 : List Ins := [
  ⟨some 12, none, .call (.c (.fn 20 [] [])) []⟩,
  ⟨some 13, none, .un .not (.t 12)⟩]
abbrev c12_r3 : List Ins := [
  ⟨some 8, none, .mov (.c (.bool false))⟩]
abbrev c12_r4 : List Ins := [
  ⟨some 14, none, .load 17 true (.t 4)⟩,
  ⟨some 15, none, .mov (.t 1)⟩,
  ⟨some 16, none, .call (.c (.fn 33 [] [])) [.t 14, .t 15]⟩]
abbrev c12_r5 : List Ins := [
  ⟨some 8, none, .mov (.c (.bool true))⟩]
abbrev c12_r6 : List Ins := [
  ⟨some 9, none, .mov (.c (.int .i64 (-1)))⟩,
  ⟨some 10, none, .mov (.c (.int .i64 (-1)))⟩]
abbrev c12_r7 : List Ins := [
  ⟨some 17, none, .load 17 true (.t 4)⟩,
  ⟨some 18, none, .mov (.t 1)⟩,
  ⟨some 19, none, .call (.c (.fn 35 [] [])) [.t 17, .t 18]⟩,
  ⟨some 20, none, .mov (.t 19)⟩,
  ⟨some 21, some (20, true), .mov (.t 2)⟩,
  ⟨some 22, some (20, true), .bin .geq (.t 21) (.c (.int .i64 0))⟩,
  ⟨some 23, none, .pick (.t 20) (.t 22) (.c (.bool false))⟩,
  ⟨some 24, none, .mov (.t 23)⟩,
  ⟨some 25, some (24, true), .mov (.t 2)⟩,
  ⟨some 26, some (24, true), .mov (.t 1)⟩,
  ⟨some 27, some (24, true), .len (.t 26)⟩,
  ⟨some 28, some (24, true), .bin .lss (.t 25) (.t 27)⟩,
  ⟨some 29, none, .pick (.t 24) (.t 28) (.c (.bool false))⟩,
  ⟨some 30, none, .mov (.t 29)⟩,
  ⟨some 31, some (30, true), .load 17 true (.t 4)⟩,
  ⟨some 32, some (30, true), .mov (.t 3)⟩,
  ⟨some 33, some (30, true), .call (.c (.fn 22 [] [])) [.t 31, .t 32]⟩,
  ⟨some 34, none, .pick (.t 30) (.t 33) (.c (.bool false))⟩]
abbrev c12_r8 : List Ins := [
  ⟨some 11, none, .mov (.c (.int .i64 0))⟩]
abbrev c12_r9 : List Ins := [
  ⟨some 35, none, .mov (.t 11)⟩,
  ⟨some 36, none, .mov (.t 1)⟩,
  ⟨some 37, none, .len (.t 36)⟩,
  ⟨some 38, none, .bin .lss (.t 35) (.t 37)⟩]
abbrev c12_r10 : List Ins := [
  ⟨some 41, none, .load 17 true (.t 4)⟩,
  ⟨some 42, none, .mov (.t 1)⟩,
  ⟨some 43, none, .mov (.t 2)⟩,
  ⟨some 44, none, .mov (.t 11)⟩,
  ⟨some 45, none, .mov (.t 3)⟩,
  ⟨some 46, none, .call (.c (.fn 46 [] [])) [.t 41, .t 42, .t 43, .t 44, .t 45]⟩]
abbrev c12_r11 : List Ins := [
  ⟨some 47, none, .mov (.t 9)⟩,
  ⟨some 48, none, .bin .lss (.t 47) (.c (.int .i64 0))⟩]
abbrev c12_r12 : List Ins := [
  ⟨some 49, none, .mov (.t 11)⟩,
  ⟨some 9, none, .mov (.t 49)⟩]
abbrev c12_r13 : List Ins := [
  ⟨some 50, none, .mov (.t 11)⟩,
  ⟨some 10, none, .mov (.t 50)⟩]
abbrev c12_r14 : List Ins := [
  ⟨some 39, none, .mov (.t 11)⟩,
  ⟨some 40, none, .bin .add (.t 39) (.c (.int .i64 1))⟩,
  ⟨some 11, none, .mov (.t 40)⟩]
abbrev c12_l15 : IR := .seq (.seq (.reg c12_r9) (.cond (.t 38) (.skip) (.exit 0))) (.seq (.blk 1 (.seq (.reg c12_r10) (.cond (.t 46) (.seq (.seq (.reg c12_r11) (.cond (.t 48) (.reg c12_r12) (.skip))) (.reg c12_r13)) (.skip)))) (.reg c12_r14))
abbrev c12_r16 : List Ins := [
  ⟨some 51, none, .load 17 true (.t 4)⟩,
  ⟨some 52, none, .mov (.t 1)⟩,
  ⟨some 53, none, .mov (.t 2)⟩,
  ⟨some 54, none, .mov (.t 3)⟩,
  ⟨some 55, none, .call (.c (.fn 47 [] [])) [.t 51, .t 52, .t 53, .t 54]⟩,
  ⟨some 56, none, .mov (.t 9)⟩,
  ⟨some 57, none, .bin .eql (.t 55) (.t 56)⟩,
  ⟨some 58, none, .mov (.t 57)⟩,
  ⟨some 59, some (58, true), .load 17 true (.t 4)⟩,
  ⟨some 60, some (58, true), .mov (.t 1)⟩,
  ⟨some 61, some (58, true), .mov (.t 2)⟩,
  ⟨some 62, some (58, true), .mov (.t 3)⟩,
  ⟨some 63, some (58, true), .call (.c (.fn 48 [] [])) [.t 59, .t 60, .t 61, .t 62]⟩,
  ⟨some 64, some (58, true), .mov (.t 10)⟩,
  ⟨some 65, some (58, true), .bin .eql (.t 63) (.t 64)⟩,
  ⟨some 66, none, .pick (.t 58) (.t 65) (.c (.bool false))⟩,
  ⟨some 8, none, .mov (.t 66)⟩]
abbrev c12 : IR := .seq (.reg c12_r1) (.seq (.seq (.reg c12_r2) (.cond (.t 13) (.seq (.reg c12_r3) (.ret)) (.skip))) (.seq (.seq (.reg c12_r4) (.cond (.t 16) (.seq (.reg c12_r5) (.ret)) (.skip))) (.seq (.reg c12_r6) (.seq (.seq (.reg c12_r7) (.cond (.t 34) (.seq (.reg c12_r8) (.blk 0 (.loop c12_l15))) (.skip))) (.seq (.reg c12_r16) (.ret))))))
abbrev F12 : FnA := ⟨67, c12, [.t 8]⟩
theorem ok12 : cFn Try.prog 12 = some F12 := by kernel_rfl
theorem hb12 : HasBody Try.prog 12 := ⟨_, Try.func12, by kernel_rfl, by kernel_rfl⟩
/-! law01.alive -/
abbrev c14_r1 : List Ins := [
  ⟨some 0, none, .mov (.c (.bool false))⟩]
abbrev c14_r2 : List Ins := [
  ⟨some 1, none, .alloc [.sl .full []]⟩]
abbrev c14_r3 : List Ins := [
  ⟨some 2, none, .call (.c (.fn 54 [] [])) [.t 1, .c (.int .i64 (-1))]⟩]
abbrev c14_r4 : List Ins := [
  ⟨some 3, none, .call (.c (.fn 54 [] [])) [.t 1, .c (.int .i64 1)]⟩]
abbrev c14_r5 : List Ins := [
  ⟨some 4, none, .call (.c (.fn 55 [] [])) [.t 1, .c (.str ⟨#[97, 98]⟩)]⟩]
abbrev c14_r6 : List Ins := [
  ⟨some 5, none, .call (.c (.fn 19 [] [])) [.t 1]⟩,
  ⟨some 6, none, .bsl 1 4 [.int .u64 0] [(0, .c (.int .u64 1)), (1, .c (.int .u64 2)), (2, .c (.int .u64 2)), (3, .c (.int .u64 25185))]⟩,
  ⟨some 7, none, .call (.c (.fn 18 [] [])) [.t 5, .t 6]⟩,
  ⟨some 0, none, .mov (.t 7)⟩]
abbrev c14 : IR := .seq (.reg c14_r1) (.seq (.reg c14_r2) (.seq (.reg c14_r3) (.seq (.reg c14_r4) (.seq (.reg c14_r5) (.seq (.reg c14_r6) (.ret))))))
abbrev F14 : FnA := ⟨8, c14, [.t 0]⟩
theorem ok14 : cFn Try.prog 14 = some F14 := by kernel_rfl
theorem hb14 : HasBody Try.prog 14 := ⟨_, Try.func14, by kernel_rfl, by kernel_rfl⟩
/-! law01.great -/
abbrev c15_r1 : List Ins := [
  ⟨some 2, none, .mov (.c (.bool false))⟩]
abbrev c15_r2 : List Ins := [
  ⟨some 3, none, .mov (.c (.int .i64 0))⟩]
abbrev c15_r3 : List Ins := [
  ⟨some 4, none, .mov (.t 3)⟩,
  ⟨some 5, none, .mov (.t 0)⟩,
  ⟨some 6, none, .len (.t 5)⟩,
  ⟨some 7, none, .bin .lss (.t 4) (.t 6)⟩]
abbrev c15_r4 : List Ins := [
  ⟨some 10, none, .mov (.t 0)⟩,
  ⟨some 11, none, .mov (.t 3)⟩,
  ⟨some 12, none, .iaddr 6 (.t 10) (.t 11)⟩,
  ⟨some 13, none, .faddr 5 (.t 12)⟩,
  ⟨some 14, none, .load 1 false (.t 13)⟩,
  ⟨some 15, none, .len (.t 14)⟩,
  ⟨some 16, none, .bin .gtr (.t 15) (.c (.int .i64 100))⟩,
  ⟨some 17, none, .mov (.t 16)⟩,
  ⟨some 18, some (17, false), .mov (.t 0)⟩,
  ⟨some 19, some (17, false), .mov (.t 3)⟩,
  ⟨some 20, some (17, false), .iaddr 6 (.t 18) (.t 19)⟩,
  ⟨some 21, some (17, false), .faddr 4 (.t 20)⟩,
  ⟨some 22, some (17, false), .load 1 false (.t 21)⟩,
  ⟨some 23, some (17, false), .lenS (.t 22)⟩,
  ⟨some 24, some (17, false), .bin .gtr (.t 23) (.c (.int .i64 200))⟩,
  ⟨some 25, none, .pick (.t 17) (.c (.bool true)) (.t 24)⟩,
  ⟨some 26, none, .mov (.t 25)⟩,
  ⟨some 27, some (26, false), .mov (.t 0)⟩,
  ⟨some 28, some (26, false), .mov (.t 3)⟩,
  ⟨some 29, some (26, false), .iaddr 6 (.t 27) (.t 28)⟩,
  ⟨some 30, some (26, false), .faddr 0 (.t 29)⟩,
  ⟨some 31, some (26, false), .load 1 false (.t 30)⟩,
  ⟨some 32, some (26, false), .bin .lss (.t 31) (.c (.int .i64 0))⟩,
  ⟨some 33, none, .pick (.t 26) (.c (.bool true)) (.t 32)⟩,
  ⟨some 34, none, .mov (.t 33)⟩,
  ⟨some 35, some (34, false), .mov (.t 0)⟩,
  ⟨some 36, some (34, false), .mov (.t 3)⟩,
  ⟨some 37, some (34, false), .iaddr 6 (.t 35) (.t 36)⟩,
  ⟨some 38, some (34, false), .faddr 0 (.t 37)⟩,
  ⟨some 39, some (34, false), .load 1 false (.t 38)⟩,
  ⟨some 40, some (34, false), .bin .gtr (.t 39) (.c (.int .i64 4))⟩,
  ⟨some 41, none, .pick (.t 34) (.c (.bool true)) (.t 40)⟩]
abbrev c15_r5 : List Ins := [
  ⟨some 2, none, .mov (.c (.bool true))⟩]
abbrev c15_r6 : List Ins := [
  ⟨some 8, none, .mov (.t 3)⟩,
  ⟨some 9, none, .bin .add (.t 8) (.c (.int .i64 1))⟩,
  ⟨some 3, none, .mov (.t 9)⟩]
abbrev c15_l7 : IR := .seq (.seq (.reg c15_r3) (.cond (.t 7) (.skip) (.exit 0))) (.seq (.blk 1 (.seq (.reg c15_r4) (.cond (.t 41) (.seq (.reg c15_r5) (.ret)) (.skip)))) (.reg c15_r6))
abbrev c15_r8 : List Ins := [
  ⟨some 42, none, .mov (.t 0)⟩,
  ⟨some 43, none, .len (.t 42)⟩,
  ⟨some 44, none, .bin .gtr (.t 43) (.c (.int .i64 60))⟩,
  ⟨some 2, none, .mov (.t 44)⟩]
abbrev c15 : IR := .seq (.reg c15_r1) (.seq (.seq (.reg c15_r2) (.blk 0 (.loop c15_l7))) (.seq (.reg c15_r8) (.ret)))
abbrev F15 : FnA := ⟨45, c15, [.t 2]⟩
theorem ok15 : cFn Try.prog 15 = some F15 := by kernel_rfl
theorem hb15 : HasBody Try.prog 15 := ⟨_, Try.func15, by kernel_rfl, by kernel_rfl⟩
/-! law01.write -/
abbrev c16_r1 : List Ins := [
  ⟨some 3, none, .box (.t 1)⟩]
abbrev c16_r2 : List Ins := [
  ⟨some 4, none, .faddr 0 (.t 3)⟩,
  ⟨some 5, none, .load 1 false (.t 4)⟩]
abbrev c16_r3 : List Ins := [
  ⟨some 11, none, .bin .eql (.t 5) (.c (.int .i64 0))⟩,
  ⟨some 10, none, .mov (.t 11)⟩]
abbrev c16_r4 : List Ins := [
  ⟨some 12, none, .mov (.t 0)⟩,
  ⟨some 13, none, .faddr 1 (.t 3)⟩,
  ⟨some 14, none, .load 1 false (.t 13)⟩,
  ⟨some 15, none, .call (.c (.fn 56 [] [])) [.t 12, .t 14]⟩]
abbrev c16_r5 : List Ins := [
  ⟨some 17, none, .bin .eql (.t 5) (.c (.int .i64 1))⟩,
  ⟨some 16, none, .mov (.t 17)⟩]
abbrev c16_r6 : List Ins := [
  ⟨some 18, none, .mov (.t 0)⟩,
  ⟨some 19, none, .faddr 3 (.t 3)⟩,
  ⟨some 20, none, .load 1 false (.t 19)⟩,
  ⟨some 21, none, .call (.c (.fn 54 [] [])) [.t 18, .t 20]⟩]
abbrev c16_r7 : List Ins := [
  ⟨some 23, none, .bin .eql (.t 5) (.c (.int .i64 2))⟩,
  ⟨some 22, none, .mov (.t 23)⟩]
abbrev c16_r8 : List Ins := [
  ⟨some 24, none, .mov (.t 0)⟩,
  ⟨some 25, none, .faddr 1 (.t 3)⟩,
  ⟨some 26, none, .load 1 false (.t 25)⟩,
  ⟨some 27, none, .bin .eql (.t 26) (.c (.int .i64 1))⟩,
  ⟨some 28, none, .call (.c (.fn 57 [] [])) [.t 24, .t 27]⟩]
abbrev c16_r9 : List Ins := [
  ⟨some 30, none, .bin .eql (.t 5) (.c (.int .i64 3))⟩,
  ⟨some 29, none, .mov (.t 30)⟩]
abbrev c16_r10 : List Ins := [
  ⟨some 31, none, .mov (.t 0)⟩,
  ⟨some 32, none, .faddr 4 (.t 3)⟩,
  ⟨some 33, none, .load 1 false (.t 32)⟩,
  ⟨some 34, none, .call (.c (.fn 55 [] [])) [.t 31, .t 33]⟩]
abbrev c16_r11 : List Ins := [
  ⟨some 6, none, .mov (.t 0)⟩,
  ⟨some 7, none, .faddr 5 (.t 3)⟩,
  ⟨some 8, none, .load 1 false (.t 7)⟩,
  ⟨some 9, none, .call (.c (.fn 58 [] [])) [.t 6, .t 8]⟩]
abbrev c16 : IR := .seq (.reg c16_r1) (.seq (.reg c16_r2) (.blk 0 (.seq (.reg c16_r3) (.cond (.t 10) (.reg c16_r4) (.seq (.reg c16_r5) (.cond (.t 16) (.reg c16_r6) (.seq (.reg c16_r7) (.cond (.t 22) (.reg c16_r8) (.seq (.reg c16_r9) (.cond (.t 29) (.reg c16_r10) (.reg c16_r11)))))))))))
abbrev F16 : FnA := ⟨35, c16, []⟩
theorem ok16 : cFn Try.prog 16 = some F16 := by kernel_rfl
theorem hb16 : HasBody Try.prog 16 := ⟨_, Try.func16, by kernel_rfl, by kernel_rfl⟩
/-! ref01.Write -/
abbrev c17_r1 : List Ins := [
  ⟨some 3, none, .box (.t 1)⟩,
  ⟨some 4, none, .mov (.c (.sl .full []))⟩]
abbrev c17_r2 : List Ins := [
  ⟨some 6, none, .faddr 0 (.t 3)⟩,
  ⟨some 7, none, .load 1 false (.t 6)⟩]
abbrev c17_r3 : List Ins := [
  ⟨some 9, none, .bin .eql (.t 7) (.c (.int .i64 0))⟩,
  ⟨some 8, none, .mov (.t 9)⟩]
abbrev c17_r4 : List Ins := [
  ⟨some 10, none, .faddr 1 (.t 3)⟩,
  ⟨some 11, none, .load 1 false (.t 10)⟩,
  ⟨some 12, none, .bin .lss (.t 11) (.c (.int .i64 0))⟩]
abbrev c17_r5 : List Ins := [
  ⟨some 13, none, .mov (.t 0)⟩,
  ⟨some 14, none, .bsl 1 1 [.int .u64 0] [(0, .c (.int .u64 0))]⟩,
  ⟨some 15, none, .append 1 8 (.t 13) (.t 14)⟩,
  ⟨some 4, none, .mov (.t 15)⟩]
abbrev c17_r6 : List Ins := [
  ⟨some 16, none, .mov (.t 0)⟩,
  ⟨some 17, none, .faddr 1 (.t 3)⟩,
  ⟨some 18, none, .load 1 false (.t 17)⟩,
  ⟨some 19, none, .conv .u64 (.t 18)⟩,
  ⟨some 20, none, .bsl 1 1 [.int .u64 0] [(0, .t 19)]⟩,
  ⟨some 21, none, .append 1 8 (.t 16) (.t 20)⟩,
  ⟨some 4, none, .mov (.t 21)⟩]
abbrev c17_r7 : List Ins := [
  ⟨some 23, none, .bin .eql (.t 7) (.c (.int .i64 1))⟩,
  ⟨some 22, none, .mov (.t 23)⟩]
abbrev c17_r8 : List Ins := [
  ⟨some 24, none, .mov (.t 0)⟩,
  ⟨some 25, none, .faddr 3 (.t 3)⟩,
  ⟨some 26, none, .load 1 false (.t 25)⟩,
  ⟨some 27, none, .call (.c (.fn 59 [] [])) [.t 26]⟩,
  ⟨some 28, none, .bsl 1 1 [.int .u64 0] [(0, .t 27)]⟩,
  ⟨some 29, none, .append 1 8 (.t 24) (.t 28)⟩,
  ⟨some 4, none, .mov (.t 29)⟩]
abbrev c17_r9 : List Ins := [
  ⟨some 31, none, .bin .eql (.t 7) (.c (.int .i64 2))⟩,
  ⟨some 30, none, .mov (.t 31)⟩]
abbrev c17_r10 : List Ins := [
  ⟨some 32, none, .faddr 1 (.t 3)⟩,
  ⟨some 33, none, .load 1 false (.t 32)⟩,
  ⟨some 34, none, .bin .eql (.t 33) (.c (.int .i64 1))⟩]
abbrev c17_r11 : List Ins := [
  ⟨some 35, none, .mov (.t 0)⟩,
  ⟨some 36, none, .bsl 1 1 [.int .u64 0] [(0, .c (.int .u64 1))]⟩,
  ⟨some 37, none, .append 1 8 (.t 35) (.t 36)⟩,
  ⟨some 4, none, .mov (.t 37)⟩]
abbrev c17_r12 : List Ins := [
  ⟨some 38, none, .mov (.t 0)⟩,
  ⟨some 39, none, .bsl 1 1 [.int .u64 0] [(0, .c (.int .u64 0))]⟩,
  ⟨some 40, none, .append 1 8 (.t 38) (.t 39)⟩,
  ⟨some 4, none, .mov (.t 40)⟩]
abbrev c17_r13 : List Ins := [
  ⟨some 42, none, .bin .eql (.t 7) (.c (.int .i64 3))⟩,
  ⟨some 41, none, .mov (.t 42)⟩]
abbrev c17_r14 : List Ins := [
  ⟨some 43, none, .faddr 4 (.t 3)⟩,
  ⟨some 44, none, .load 1 false (.t 43)⟩,
  ⟨some 5, none, .mov (.t 44)⟩]
abbrev c17_r15 : List Ins := [
  ⟨some 45, none, .mov (.t 5)⟩,
  ⟨some 46, none, .lenS (.t 45)⟩,
  ⟨some 47, none, .bin .gtr (.t 46) (.c (.int .i64 64))⟩]
abbrev c17_r16 : List Ins := [
  ⟨some 48, none, .mov (.t 5)⟩,
  ⟨some 49, none, .sliceS (.t 48) none (some (.c (.int .i64 64)))⟩,
  ⟨some 5, none, .mov (.t 49)⟩]
abbrev c17_r17 : List Ins := [
  ⟨some 50, none, .mov (.t 0)⟩,
  ⟨some 51, none, .mov (.t 5)⟩,
  ⟨some 52, none, .lenS (.t 51)⟩,
  ⟨some 53, none, .conv .u64 (.t 52)⟩,
  ⟨some 54, none, .bsl 1 1 [.int .u64 0] [(0, .t 53)]⟩,
  ⟨some 55, none, .append 1 8 (.t 50) (.t 54)⟩,
  ⟨some 56, none, .mov (.t 5)⟩,
  ⟨some 57, none, .call (.c (.fn 60 [] [])) [.t 56]⟩,
  ⟨some 58, none, .append 1 8 (.t 55) (.t 57)⟩,
  ⟨some 4, none, .mov (.t 58)⟩]
abbrev c17_r18 : List Ins := [
  ⟨some 59, none, .mov (.t 0)⟩,
  ⟨some 60, none, .faddr 5 (.t 3)⟩,
  ⟨some 61, none, .load 1 false (.t 60)⟩,
  ⟨some 62, none, .len (.t 61)⟩,
  ⟨some 63, none, .conv .u64 (.t 62)⟩,
  ⟨some 64, none, .bsl 1 1 [.int .u64 0] [(0, .t 63)]⟩,
  ⟨some 65, none, .append 1 8 (.t 59) (.t 64)⟩,
  ⟨some 66, none, .faddr 5 (.t 3)⟩,
  ⟨some 67, none, .load 1 false (.t 66)⟩,
  ⟨some 68, none, .append 1 8 (.t 65) (.t 67)⟩,
  ⟨some 4, none, .mov (.t 68)⟩]
def c17_a18 : List (List Nat) := [[], [], [1], [2], [3], [4], [0, 5], [], [7], [6, 8, 6], [9, 9, 0, 1, 2, 3, 4, 5, 6, 7, 8, 9]]
abbrev c17_m18 : List Am.Mark := [⟨false, 0, 0⟩, ⟨false, 0, 2⟩, ⟨false, 0, 2⟩, ⟨false, 0, 2⟩, ⟨false, 0, 2⟩, ⟨false, 0, 0⟩, ⟨true, 0, 1⟩, ⟨false, 0, 2⟩, ⟨false, 0, 1⟩, ⟨true, 1, 2⟩, ⟨false, 2, 2⟩]
theorem c17_d18 : drawFine c17_r18 c17_a18 c17_m18 = true := by decide +kernel
abbrev c17 : IR := .seq (.reg c17_r1) (.seq (.seq (.reg c17_r2) (.blk 0 (.seq (.reg c17_r3) (.cond (.t 8) (.seq (.seq (.reg c17_r4) (.cond (.t 12) (.seq (.reg c17_r5) (.ret)) (.skip))) (.seq (.reg c17_r6) (.ret))) (.seq (.reg c17_r7) (.cond (.t 22) (.seq (.reg c17_r8) (.ret)) (.seq (.reg c17_r9) (.cond (.t 30) (.seq (.seq (.reg c17_r10) (.cond (.t 34) (.seq (.reg c17_r11) (.ret)) (.skip))) (.seq (.reg c17_r12) (.ret))) (.seq (.reg c17_r13) (.cond (.t 41) (.seq (.reg c17_r14) (.seq (.seq (.reg c17_r15) (.cond (.t 47) (.reg c17_r16) (.skip))) (.seq (.reg c17_r17) (.ret)))) (.skip))))))))))) (.seq (.dreg c17_r18 c17_a18) (.ret)))
abbrev F17 : FnA := ⟨69, c17, [.t 4]⟩
theorem ok17 : cFn Try.prog 17 = some F17 := by kernel_rfl
theorem hb17 : HasBody Try.prog 17 := ⟨_, Try.func17, by kernel_rfl, by kernel_rfl⟩
/-! ref01.Words -/
abbrev c18_r1 : List Ins := [
  ⟨some 4, none, .mov (.c (.bool false))⟩]
abbrev c18_r2 : List Ins := [
  ⟨some 6, none, .mov (.t 0)⟩,
  ⟨some 7, none, .len (.t 6)⟩,
  ⟨some 8, none, .mov (.t 1)⟩,
  ⟨some 9, none, .len (.t 8)⟩,
  ⟨some 10, none, .bin .neq (.t 7) (.t 9)⟩]
abbrev c18_r3 : List Ins := [
  ⟨some 4, none, .mov (.c (.bool false))⟩]
abbrev c18_r4 : List Ins := [
  ⟨some 5, none, .mov (.c (.int .i64 0))⟩]
abbrev c18_r5 : List Ins := [
  ⟨some 11, none, .mov (.t 5)⟩,
  ⟨some 12, none, .mov (.t 0)⟩,
  ⟨some 13, none, .len (.t 12)⟩,
  ⟨some 14, none, .bin .lss (.t 11) (.t 13)⟩]
abbrev c18_r6 : List Ins := [
  ⟨some 17, none, .mov (.t 0)⟩,
  ⟨some 18, none, .mov (.t 5)⟩,
  ⟨some 19, none, .iaddr 1 (.t 17) (.t 18)⟩,
  ⟨some 20, none, .load 1 false (.t 19)⟩,
  ⟨some 21, none, .mov (.t 1)⟩,
  ⟨some 22, none, .mov (.t 5)⟩,
  ⟨some 23, none, .iaddr 1 (.t 21) (.t 22)⟩,
  ⟨some 24, none, .load 1 false (.t 23)⟩,
  ⟨some 25, none, .bin .neq (.t 20) (.t 24)⟩]
def c18_a6 : List (List Nat) := [[], [], [0, 1], [2], [], [], [4, 5], [6], [3, 7]]
abbrev c18_m6 : List Am.Mark := [⟨false, 0, 0⟩, ⟨false, 0, 0⟩, ⟨false, 0, 0⟩, ⟨false, 0, 0⟩, ⟨false, 0, 0⟩, ⟨false, 0, 0⟩, ⟨false, 0, 0⟩, ⟨false, 0, 0⟩, ⟨false, 0, 0⟩]
theorem c18_d6 : drawFine c18_r6 c18_a6 c18_m6 = true := by decide +kernel
abbrev c18_r7 : List Ins := [
  ⟨some 4, none, .mov (.c (.bool false))⟩]
abbrev c18_r8 : List Ins := [
  ⟨some 15, none, .mov (.t 5)⟩,
  ⟨some 16, none, .bin .add (.t 15) (.c (.int .i64 1))⟩,
  ⟨some 5, none, .mov (.t 16)⟩]
abbrev c18_l9 : IR := .seq (.seq (.reg c18_r5) (.cond (.t 14) (.skip) (.exit 0))) (.seq (.blk 1 (.seq (.dreg c18_r6 c18_a6) (.cond (.t 25) (.seq (.reg c18_r7) (.ret)) (.skip)))) (.reg c18_r8))
abbrev c18_r10 : List Ins := [
  ⟨some 4, none, .mov (.c (.bool true))⟩]
abbrev c18 : IR := .seq (.reg c18_r1) (.seq (.seq (.reg c18_r2) (.cond (.t 10) (.seq (.reg c18_r3) (.ret)) (.skip))) (.seq (.seq (.reg c18_r4) (.blk 0 (.loop c18_l9))) (.seq (.reg c18_r10) (.ret))))
abbrev F18 : FnA := ⟨26, c18, [.t 4]⟩
theorem ok18 : cFn Try.prog 18 = some F18 := by kernel_rfl
theorem hb18 : HasBody Try.prog 18 := ⟨_, Try.func18, by kernel_rfl, by kernel_rfl⟩
/-! codes.Writer.Done -/
abbrev c19_r1 : List Ins := [
  ⟨some 2, none, .mov (.c (.sl .full []))⟩]
abbrev c19_r2 : List Ins := [
  ⟨some 3, none, .mov (.t 0)⟩,
  ⟨some 4, none, .nilck (.t 3)⟩,
  ⟨some 5, none, .faddr 0 (.t 4)⟩,
  ⟨some 6, none, .load 1 false (.t 5)⟩,
  ⟨some 7, none, .call (.c (.fn 61 [] [])) [.t 6]⟩,
  ⟨some 2, none, .mov (.t 7)⟩]
abbrev c19 : IR := .seq (.reg c19_r1) (.seq (.reg c19_r2) (.ret))
abbrev F19 : FnA := ⟨8, c19, [.t 2]⟩
theorem ok19 : cFn Try.prog 19 = some F19 := by kernel_rfl
theorem hb19 : HasBody Try.prog 19 := ⟨_, Try.func19, by kernel_rfl, by kernel_rfl⟩
/-! law14.alive -/
abbrev c20_r1 : List Ins := [
  ⟨some 0, none, .mov (.c (.bool false))⟩]
abbrev c20_r2 : List Ins := [
  ⟨some 6, none, .build [.int .i64 0, .int .i64 0, .int .i64 0, .int .i64 0, .int .i64 0, .int .i64 0, .int .i64 0, .int .i64 0, .int .i64 0] [(0, (1, .c (.int .i64 5)))]⟩,
  ⟨some 7, none, .bsl 9 1 [.int .i64 0, .int .i64 0, .int .i64 0, .int .i64 0, .int .i64 0, .int .i64 0, .int .i64 0, .int .i64 0, .int .i64 0] [(0, .t 6)]⟩,
  ⟨some 8, none, .build [.sl .full [], .sl .full []] [(0, (1, .t 7))]⟩,
  ⟨some 1, none, .alloc [.sl .full [], .sl .full []]⟩,
  ⟨none, none, .store 2 (.t 1) (.t 8)⟩]
abbrev c20_r3 : List Ins := [
  ⟨some 9, none, .load 2 true (.t 1)⟩,
  ⟨some 10, none, .load 2 true (.t 1)⟩,
  ⟨some 11, none, .load 2 true (.t 1)⟩,
  ⟨some 12, none, .bsl 2 3 [.sl .full [], .sl .full []] [(0, .t 9), (1, .t 10), (2, .t 11)]⟩,
  ⟨some 13, none, .mksl 2 48 [.sl .full [], .sl .full []] (.c (.int .i64 3)) (.c (.int .i64 3))⟩,
  ⟨some 14, none, .build [.str ⟨#[]⟩, .int .i64 0, .sl .full [], .sl .full [], .bool false] [(0, (1, .c (.str ⟨#[97]⟩))), (2, (1, .t 12)), (3, (1, .t 13))]⟩,
  ⟨some 15, none, .bsl 5 1 [.str ⟨#[]⟩, .int .i64 0, .sl .full [], .sl .full [], .bool false] [(0, .t 14)]⟩,
  ⟨some 16, none, .build [.sl .full [], .int .i64 0, .int .i64 0, .int .i64 0, .int .i64 0, .int .i64 0, .int .i64 0, .int .i64 0, .int .i64 0, .int .i64 0, .int .i64 0, .int .i64 0, .int .i64 0, .int .i64 0, .int .i64 0, .int .i64 0, .int .i64 0] [(0, (1, .t 15))]⟩,
  ⟨some 2, none, .alloc [.sl .full [], .int .i64 0, .int .i64 0, .int .i64 0, .int .i64 0, .int .i64 0, .int .i64 0, .int .i64 0, .int .i64 0, .int .i64 0, .int .i64 0, .int .i64 0, .int .i64 0, .int .i64 0, .int .i64 0, .int .i64 0, .int .i64 0]⟩,
  ⟨none, none, .store 17 (.t 2) (.t 16)⟩]
def c20_a3 : List (List Nat) := [[], [], [], [0, 1, 2], [], [3, 4], [5], [6], [], [8, 7, 0, 1, 2, 3, 4, 5, 6, 7, 8]]
abbrev c20_m3 : List Am.Mark := [⟨false, 0, 1⟩, ⟨false, 0, 1⟩, ⟨false, 0, 1⟩, ⟨false, 0, 1⟩, ⟨false, 0, 1⟩, ⟨false, 0, 1⟩, ⟨false, 0, 1⟩, ⟨false, 0, 1⟩, ⟨true, 0, 1⟩, ⟨true, 1, 2⟩]
theorem c20_d3 : drawFine c20_r3 c20_a3 c20_m3 = true := by decide +kernel
abbrev c20_r4 : List Ins := [
  ⟨some 17, none, .faddr 1 (.t 2)⟩,
  ⟨some 18, none, .iaddrA 4 4 (.t 17) (.c (.int .i64 0))⟩,
  ⟨some 19, none, .iaddrA 4 1 (.t 18) (.c (.int .i64 0))⟩,
  ⟨none, none, .store 1 (.t 19) (.c (.int .i64 2))⟩]
abbrev c20_r5 : List Ins := [
  ⟨some 21, none, .load 17 true (.t 2)⟩,
  ⟨some 22, none, .call (.c (.fn 23 [] [])) [.t 21, .c (.int .i64 0), .c (.int .i64 0), .c (.int .i64 0)]⟩,
  ⟨some 20, none, .mov (.t 22)⟩,
  ⟨some 23, none, .ext (.t 20) 0⟩,
  ⟨some 24, none, .ext (.t 20) 1⟩,
  ⟨some 25, none, .ext (.t 20) 2⟩,
  ⟨some 3, none, .mov (.t 23)⟩,
  ⟨some 4, none, .mov (.t 24)⟩,
  ⟨some 5, none, .mov (.t 25)⟩]
abbrev c20_r6 : List Ins := [
  ⟨some 26, none, .mov (.t 5)⟩,
  ⟨some 27, none, .mov (.t 26)⟩,
  ⟨some 28, some (27, true), .mov (.t 3)⟩,
  ⟨some 29, some (27, true), .bin .eql (.t 28) (.c (.int .i64 0))⟩,
  ⟨some 30, none, .pick (.t 27) (.t 29) (.c (.bool false))⟩,
  ⟨some 31, none, .mov (.t 30)⟩,
  ⟨some 32, some (31, true), .mov (.t 4)⟩,
  ⟨some 33, some (31, true), .bin .eql (.t 32) (.c (.int .i64 1))⟩,
  ⟨some 34, none, .pick (.t 31) (.t 33) (.c (.bool false))⟩,
  ⟨some 0, none, .mov (.t 34)⟩]
abbrev c20 : IR := .seq (.reg c20_r1) (.seq (.reg c20_r2) (.seq (.dreg c20_r3 c20_a3) (.seq (.reg c20_r4) (.seq (.reg c20_r5) (.seq (.reg c20_r6) (.ret))))))
abbrev F20 : FnA := ⟨35, c20, [.t 0]⟩
theorem ok20 : cFn Try.prog 20 = some F20 := by kernel_rfl
theorem hb20 : HasBody Try.prog 20 := ⟨_, Try.func20, by kernel_rfl, by kernel_rfl⟩
/-! ref12.May -/
abbrev c21_r1 : List Ins := [
  ⟨some 1, none, .box (.t 0)⟩,
  ⟨some 2, none, .mov (.c (.bool false))⟩]
abbrev c21_r2 : List Ins := [
  ⟨some 10, none, .faddr 0 (.t 1)⟩,
  ⟨some 11, none, .load 1 false (.t 10)⟩,
  ⟨some 12, none, .len (.t 11)⟩,
  ⟨some 3, none, .mov (.t 12)⟩]
abbrev c21_r3 : List Ins := [
  ⟨some 13, none, .mov (.t 3)⟩,
  ⟨some 14, none, .bin .lss (.t 13) (.c (.int .i64 1))⟩,
  ⟨some 15, none, .mov (.t 14)⟩,
  ⟨some 16, some (15, false), .mov (.t 3)⟩,
  ⟨some 17, some (15, false), .bin .gtr (.t 16) (.c (.int .i64 4))⟩,
  ⟨some 18, none, .pick (.t 15) (.c (.bool true)) (.t 17)⟩]
abbrev c21_r4 : List Ins := [
  ⟨some 2, none, .mov (.c (.bool false))⟩]
abbrev c21_r5 : List Ins := [
  ⟨some 4, none, .mov (.c (.int .i64 0))⟩]
abbrev c21_r6 : List Ins := [
  ⟨some 19, none, .mov (.t 4)⟩,
  ⟨some 20, none, .mov (.t 3)⟩,
  ⟨some 21, none, .bin .lss (.t 19) (.t 20)⟩]
abbrev c21_r7 : List Ins := [
  ⟨some 24, none, .faddr 0 (.t 1)⟩,
  ⟨some 25, none, .load 1 false (.t 24)⟩,
  ⟨some 26, none, .mov (.t 4)⟩,
  ⟨some 27, none, .iaddr 5 (.t 25) (.t 26)⟩,
  ⟨some 28, none, .load 5 true (.t 27)⟩,
  ⟨some 29, none, .call (.c (.fn 49 [] [])) [.t 28]⟩,
  ⟨some 30, none, .un .not (.t 29)⟩]
abbrev c21_r8 : List Ins := [
  ⟨some 2, none, .mov (.c (.bool false))⟩]
abbrev c21_r9 : List Ins := [
  ⟨some 5, none, .mov (.c (.int .i64 0))⟩]
abbrev c21_r10 : List Ins := [
  ⟨some 31, none, .mov (.t 5)⟩,
  ⟨some 32, none, .mov (.t 4)⟩,
  ⟨some 33, none, .bin .lss (.t 31) (.t 32)⟩]
abbrev c21_r11 : List Ins := [
  ⟨some 36, none, .faddr 0 (.t 1)⟩,
  ⟨some 37, none, .load 1 false (.t 36)⟩,
  ⟨some 38, none, .mov (.t 5)⟩,
  ⟨some 39, none, .iaddr 5 (.t 37) (.t 38)⟩,
  ⟨some 40, none, .faddr 0 (.t 39)⟩,
  ⟨some 41, none, .load 1 false (.t 40)⟩,
  ⟨some 42, none, .faddr 0 (.t 1)⟩,
  ⟨some 43, none, .load 1 false (.t 42)⟩,
  ⟨some 44, none, .mov (.t 4)⟩,
  ⟨some 45, none, .iaddr 5 (.t 43) (.t 44)⟩,
  ⟨some 46, none, .faddr 0 (.t 45)⟩,
  ⟨some 47, none, .load 1 false (.t 46)⟩,
  ⟨some 48, none, .bin .eql (.t 41) (.t 47)⟩]
def c21_a11 : List (List Nat) := [[], [0], [], [1, 2], [3], [4], [], [6], [], [7, 8], [9], [10], [5, 11]]
abbrev c21_m11 : List Am.Mark := [⟨false, 0, 0⟩, ⟨false, 0, 0⟩, ⟨false, 0, 0⟩, ⟨false, 0, 0⟩, ⟨false, 0, 0⟩, ⟨false, 0, 0⟩, ⟨false, 0, 0⟩, ⟨false, 0, 0⟩, ⟨false, 0, 0⟩, ⟨false, 0, 0⟩, ⟨false, 0, 0⟩, ⟨false, 0, 0⟩, ⟨false, 0, 0⟩]
theorem c21_d11 : drawFine c21_r11 c21_a11 c21_m11 = true := by decide +kernel
abbrev c21_r12 : List Ins := [
  ⟨some 2, none, .mov (.c (.bool false))⟩]
abbrev c21_r13 : List Ins := [
  ⟨some 34, none, .mov (.t 5)⟩,
  ⟨some 35, none, .bin .add (.t 34) (.c (.int .i64 1))⟩,
  ⟨some 5, none, .mov (.t 35)⟩]
abbrev c21_l14 : IR := .seq (.seq (.reg c21_r10) (.cond (.t 33) (.skip) (.exit 2))) (.seq (.blk 3 (.seq (.dreg c21_r11 c21_a11) (.cond (.t 48) (.seq (.reg c21_r12) (.ret)) (.skip)))) (.reg c21_r13))
abbrev c21_r15 : List Ins := [
  ⟨some 22, none, .mov (.t 4)⟩,
  ⟨some 23, none, .bin .add (.t 22) (.c (.int .i64 1))⟩,
  ⟨some 4, none, .mov (.t 23)⟩]
abbrev c21_l16 : IR := .seq (.seq (.reg c21_r6) (.cond (.t 21) (.skip) (.exit 0))) (.seq (.blk 1 (.seq (.seq (.reg c21_r7) (.cond (.t 30) (.seq (.reg c21_r8) (.ret)) (.skip))) (.seq (.reg c21_r9) (.blk 2 (.loop c21_l14))))) (.reg c21_r15))
abbrev c21_r17 : List Ins := [
  ⟨some 6, none, .mov (.c (.int .i64 0))⟩]
abbrev c21_r18 : List Ins := [
  ⟨some 49, none, .mov (.t 6)⟩,
  ⟨some 50, none, .bin .lss (.t 49) (.c (.int .i64 4))⟩]
abbrev c21_r19 : List Ins := [
  ⟨some 7, none, .mov (.c (.int .i64 0))⟩]
abbrev c21_r20 : List Ins := [
  ⟨some 53, none, .mov (.t 7)⟩,
  ⟨some 54, none, .bin .lss (.t 53) (.c (.int .i64 4))⟩]
abbrev c21_r21 : List Ins := [
  ⟨some 8, none, .mov (.c (.int .i64 1))⟩]
abbrev c21_r22 : List Ins := [
  ⟨some 57, none, .mov (.t 6)⟩,
  ⟨some 58, none, .mov (.t 3)⟩,
  ⟨some 59, none, .bin .lss (.t 57) (.t 58)⟩,
  ⟨some 60, none, .mov (.t 59)⟩,
  ⟨some 61, some (60, true), .mov (.t 7)⟩,
  ⟨some 62, some (60, true), .mov (.t 3)⟩,
  ⟨some 63, some (60, true), .bin .lss (.t 61) (.t 62)⟩,
  ⟨some 64, none, .pick (.t 60) (.t 63) (.c (.bool false))⟩]
abbrev c21_r23 : List Ins := [
  ⟨some 9, none, .mov (.c (.int .i64 1))⟩]
abbrev c21_r24 : List Ins := [
  ⟨some 65, none, .mov (.t 9)⟩,
  ⟨some 66, none, .faddr 0 (.t 1)⟩,
  ⟨some 67, none, .load 1 false (.t 66)⟩,
  ⟨some 68, none, .mov (.t 6)⟩,
  ⟨some 69, none, .iaddr 5 (.t 67) (.t 68)⟩,
  ⟨some 70, none, .faddr 2 (.t 69)⟩,
  ⟨some 71, none, .load 1 false (.t 70)⟩,
  ⟨some 72, none, .len (.t 71)⟩,
  ⟨some 73, none, .bin .lss (.t 65) (.t 72)⟩]
abbrev c21_r25 : List Ins := [
  ⟨some 76, none, .mov (.t 8)⟩,
  ⟨some 77, none, .bin .mul (.c (.int .i64 2)) (.t 76)⟩,
  ⟨some 8, none, .mov (.t 77)⟩]
abbrev c21_r26 : List Ins := [
  ⟨some 74, none, .mov (.t 9)⟩,
  ⟨some 75, none, .bin .add (.t 74) (.c (.int .i64 1))⟩,
  ⟨some 9, none, .mov (.t 75)⟩]
abbrev c21_l27 : IR := .seq (.seq (.reg c21_r24) (.cond (.t 73) (.skip) (.exit 8))) (.seq (.blk 9 (.reg c21_r25)) (.reg c21_r26))
abbrev c21_r28 : List Ins := [
  ⟨some 78, none, .mov (.t 6)⟩,
  ⟨some 79, none, .mov (.t 7)⟩,
  ⟨some 80, none, .faddr 1 (.t 1)⟩,
  ⟨some 81, none, .iaddrA 4 4 (.t 80) (.t 78)⟩,
  ⟨some 82, none, .iaddrA 4 1 (.t 81) (.t 79)⟩,
  ⟨some 83, none, .load 1 false (.t 82)⟩,
  ⟨some 84, none, .bin .lss (.t 83) (.c (.int .i64 0))⟩,
  ⟨some 85, none, .mov (.t 84)⟩,
  ⟨some 86, some (85, false), .mov (.t 6)⟩,
  ⟨some 87, some (85, false), .mov (.t 7)⟩,
  ⟨some 88, some (85, false), .faddr 1 (.t 1)⟩,
  ⟨some 89, some (85, false), .iaddrA 4 4 (.t 88) (.t 86)⟩,
  ⟨some 90, some (85, false), .iaddrA 4 1 (.t 89) (.t 87)⟩,
  ⟨some 91, some (85, false), .load 1 false (.t 90)⟩,
  ⟨some 92, some (85, false), .mov (.t 8)⟩,
  ⟨some 93, some (85, false), .bin .geq (.t 91) (.t 92)⟩,
  ⟨some 94, none, .pick (.t 85) (.c (.bool true)) (.t 93)⟩]
abbrev c21_r29 : List Ins := [
  ⟨some 2, none, .mov (.c (.bool false))⟩]
abbrev c21_r30 : List Ins := [
  ⟨some 55, none, .mov (.t 7)⟩,
  ⟨some 56, none, .bin .add (.t 55) (.c (.int .i64 1))⟩,
  ⟨some 7, none, .mov (.t 56)⟩]
abbrev c21_l31 : IR := .seq (.seq (.reg c21_r20) (.cond (.t 54) (.skip) (.exit 6))) (.seq (.blk 7 (.seq (.reg c21_r21) (.seq (.seq (.reg c21_r22) (.cond (.t 64) (.seq (.reg c21_r23) (.blk 8 (.loop c21_l27))) (.skip))) (.seq (.reg c21_r28) (.cond (.t 94) (.seq (.reg c21_r29) (.ret)) (.skip)))))) (.reg c21_r30))
abbrev c21_r32 : List Ins := [
  ⟨some 51, none, .mov (.t 6)⟩,
  ⟨some 52, none, .bin .add (.t 51) (.c (.int .i64 1))⟩,
  ⟨some 6, none, .mov (.t 52)⟩]
abbrev c21_l33 : IR := .seq (.seq (.reg c21_r18) (.cond (.t 50) (.skip) (.exit 4))) (.seq (.blk 5 (.seq (.reg c21_r19) (.blk 6 (.loop c21_l31)))) (.reg c21_r32))
abbrev c21_r34 : List Ins := [
  ⟨some 2, none, .mov (.c (.bool true))⟩]
abbrev c21 : IR := .seq (.reg c21_r1) (.seq (.reg c21_r2) (.seq (.seq (.reg c21_r3) (.cond (.t 18) (.seq (.reg c21_r4) (.ret)) (.skip))) (.seq (.seq (.reg c21_r5) (.blk 0 (.loop c21_l16))) (.seq (.seq (.reg c21_r17) (.blk 4 (.loop c21_l33))) (.seq (.reg c21_r34) (.ret))))))
abbrev F21 : FnA := ⟨95, c21, [.t 2]⟩
theorem ok21 : cFn Try.prog 21 = some F21 := by kernel_rfl
theorem hb21 : HasBody Try.prog 21 := ⟨_, Try.func21, by kernel_rfl, by kernel_rfl⟩
/-! ref14.There -/
abbrev c22_r1 : List Ins := [
  ⟨some 2, none, .box (.t 0)⟩,
  ⟨some 4, none, .mov (.c (.bool false))⟩]
abbrev c22_r2 : List Ins := [
  ⟨some 5, none, .mov (.t 1)⟩,
  ⟨some 6, none, .bin .geq (.t 5) (.c (.int .i64 0))⟩,
  ⟨some 7, none, .mov (.t 6)⟩,
  ⟨some 8, some (7, true), .mov (.t 1)⟩,
  ⟨some 9, some (7, true), .faddr 0 (.t 2)⟩,
  ⟨some 10, some (7, true), .load 1 false (.t 9)⟩,
  ⟨some 11, some (7, true), .len (.t 10)⟩,
  ⟨some 12, some (7, true), .bin .lss (.t 8) (.t 11)⟩,
  ⟨some 13, none, .pick (.t 7) (.t 12) (.c (.bool false))⟩,
  ⟨some 4, none, .mov (.t 13)⟩]
abbrev c22 : IR := .seq (.reg c22_r1) (.seq (.reg c22_r2) (.ret))
abbrev F22 : FnA := ⟨14, c22, [.t 4]⟩
theorem ok22 : cFn Try.prog 22 = some F22 := by kernel_rfl
theorem hb22 : HasBody Try.prog 22 := ⟨_, Try.func22, by kernel_rfl, by kernel_rfl⟩
/-! units.Bounds -/
abbrev c23_r1 : List Ins := [
  ⟨some 4, none, .box (.t 0)⟩,
  ⟨some 8, none, .mov (.c (.int .i64 0))⟩,
  ⟨some 9, none, .mov (.c (.int .i64 0))⟩,
  ⟨some 10, none, .mov (.c (.bool false))⟩]
abbrev c23_r2 : List Ins := [
  ⟨some 13, none, .load 17 true (.t 4)⟩,
  ⟨some 14, none, .mov (.t 1)⟩,
  ⟨some 15, none, .call (.c (.fn 62 [] [])) [.t 13, .t 14]⟩,
  ⟨some 16, none, .un .not (.t 15)⟩,
  ⟨some 17, none, .mov (.t 16)⟩,
  ⟨some 18, some (17, false), .load 17 true (.t 4)⟩,
  ⟨some 19, some (17, false), .mov (.t 2)⟩,
  ⟨some 20, some (17, false), .call (.c (.fn 62 [] [])) [.t 18, .t 19]⟩,
  ⟨some 21, some (17, false), .un .not (.t 20)⟩,
  ⟨some 22, none, .pick (.t 17) (.c (.bool true)) (.t 21)⟩,
  ⟨some 23, none, .mov (.t 22)⟩,
  ⟨some 24, some (23, false), .mov (.t 3)⟩,
  ⟨some 25, some (23, false), .bin .lss (.t 24) (.c (.int .i64 0))⟩,
  ⟨some 26, none, .pick (.t 23) (.c (.bool true)) (.t 25)⟩,
  ⟨some 27, none, .mov (.t 26)⟩,
  ⟨some 28, some (27, false), .mov (.t 3)⟩,
  ⟨some 29, some (27, false), .faddr 0 (.t 4)⟩,
  ⟨some 30, some (27, false), .load 1 false (.t 29)⟩,
  ⟨some 31, some (27, false), .mov (.t 1)⟩,
  ⟨some 32, some (27, false), .iaddr 5 (.t 30) (.t 31)⟩,
  ⟨some 33, some (27, false), .faddr 2 (.t 32)⟩,
  ⟨some 34, some (27, false), .load 1 false (.t 33)⟩,
  ⟨some 35, some (27, false), .len (.t 34)⟩,
  ⟨some 36, some (27, false), .bin .geq (.t 28) (.t 35)⟩,
  ⟨some 37, none, .pick (.t 27) (.c (.bool true)) (.t 36)⟩]
abbrev c23_r3 : List Ins := [
  ⟨some 8, none, .mov (.c (.int .i64 0))⟩,
  ⟨some 9, none, .mov (.c (.int .i64 0))⟩,
  ⟨some 10, none, .mov (.c (.bool false))⟩]
abbrev c23_r4 : List Ins := [
  ⟨some 38, none, .mov (.t 3)⟩,
  ⟨some 39, none, .mov (.t 3)⟩,
  ⟨some 11, none, .mov (.t 38)⟩,
  ⟨some 12, none, .mov (.t 39)⟩]
abbrev c23_r5 : List Ins := [
  ⟨some 40, none, .mov (.t 11)⟩,
  ⟨some 41, none, .bin .gtr (.t 40) (.c (.int .i64 0))⟩]
abbrev c23_r6 : List Ins := [
  ⟨some 42, none, .load 17 true (.t 4)⟩,
  ⟨some 43, none, .mov (.t 1)⟩,
  ⟨some 44, none, .mov (.t 2)⟩,
  ⟨some 45, none, .mov (.t 11)⟩,
  ⟨some 46, none, .bin .sub (.t 45) (.c (.int .i64 1))⟩,
  ⟨some 47, none, .call (.c (.fn 37 [] [])) [.t 42, .t 43, .t 44, .t 46]⟩]
abbrev c23_r7 : List Ins := [
  ⟨some 48, none, .mov (.t 11)⟩,
  ⟨some 49, none, .bin .sub (.t 48) (.c (.int .i64 1))⟩,
  ⟨some 11, none, .mov (.t 49)⟩]
abbrev c23_l8 : IR := .seq (.seq (.reg c23_r5) (.cond (.t 41) (.skip) (.exit 0))) (.blk 1 (.seq (.seq (.reg c23_r6) (.cond (.t 47) (.exit 0) (.skip))) (.reg c23_r7)))
abbrev c23_r9 : List Ins := [
  ⟨some 50, none, .mov (.t 12)⟩,
  ⟨some 51, none, .bin .add (.t 50) (.c (.int .i64 1))⟩,
  ⟨some 52, none, .faddr 0 (.t 4)⟩,
  ⟨some 53, none, .load 1 false (.t 52)⟩,
  ⟨some 54, none, .mov (.t 1)⟩,
  ⟨some 55, none, .iaddr 5 (.t 53) (.t 54)⟩,
  ⟨some 56, none, .faddr 2 (.t 55)⟩,
  ⟨some 57, none, .load 1 false (.t 56)⟩,
  ⟨some 58, none, .len (.t 57)⟩,
  ⟨some 59, none, .bin .lss (.t 51) (.t 58)⟩]
abbrev c23_r10 : List Ins := [
  ⟨some 60, none, .load 17 true (.t 4)⟩,
  ⟨some 61, none, .mov (.t 1)⟩,
  ⟨some 62, none, .mov (.t 2)⟩,
  ⟨some 63, none, .mov (.t 12)⟩,
  ⟨some 64, none, .call (.c (.fn 37 [] [])) [.t 60, .t 61, .t 62, .t 63]⟩]
abbrev c23_r11 : List Ins := [
  ⟨some 65, none, .mov (.t 12)⟩,
  ⟨some 66, none, .bin .add (.t 65) (.c (.int .i64 1))⟩,
  ⟨some 12, none, .mov (.t 66)⟩]
abbrev c23_l12 : IR := .seq (.seq (.reg c23_r9) (.cond (.t 59) (.skip) (.exit 2))) (.blk 3 (.seq (.seq (.reg c23_r10) (.cond (.t 64) (.exit 2) (.skip))) (.reg c23_r11)))
abbrev c23_r13 : List Ins := [
  ⟨some 67, none, .mov (.t 11)⟩,
  ⟨some 68, none, .mov (.t 12)⟩,
  ⟨some 8, none, .mov (.t 67)⟩,
  ⟨some 9, none, .mov (.t 68)⟩,
  ⟨some 10, none, .mov (.c (.bool true))⟩]
abbrev c23 : IR := .seq (.reg c23_r1) (.scp (.seq (.seq (.reg c23_r2) (.cond (.t 37) (.seq (.reg c23_r3) (.ret)) (.skip))) (.seq (.reg c23_r4) (.seq (.skip) (.seq (.blk 0 (.loop c23_l8)) (.seq (.skip) (.seq (.blk 2 (.loop c23_l12)) (.seq (.reg c23_r13) (.ret)))))))))
abbrev F23 : FnA := ⟨69, c23, [.t 8, .t 9, .t 10]⟩
theorem ok23 : cFn Try.prog 23 = some F23 := by kernel_rfl
theorem hb23 : HasBody Try.prog 23 := ⟨_, Try.func23, by kernel_rfl, by kernel_rfl⟩
/-! cat.Open -/
abbrev c24_r1 : List Ins := [
  ⟨some 1, none, .box (.t 0)⟩,
  ⟨some 2, none, .alloc [.sl .full [], .int .i64 0, .int .i64 0, .int .i64 0, .int .i64 0, .int .i64 0, .int .i64 0, .int .i64 0, .int .i64 0, .int .i64 0, .int .i64 0, .int .i64 0, .int .i64 0, .int .i64 0, .int .i64 0, .int .i64 0, .int .i64 0]⟩]
abbrev c24_r2 : List Ins := [
  ⟨some 3, none, .load 17 true (.t 1)⟩,
  ⟨some 4, none, .call (.c (.fn 63 [] [])) [.t 3]⟩,
  ⟨none, none, .store 17 (.t 1) (.t 4)⟩]
abbrev c24_r3 : List Ins := [
  ⟨some 5, none, .load 17 true (.t 1)⟩,
  ⟨some 6, none, .mkfn 65 [] [.t 1]⟩,
  ⟨some 7, none, .call (.c (.fn 64 [] [])) [.t 5, .t 6]⟩,
  ⟨some 8, none, .faddr 1 (.t 1)⟩,
  ⟨none, none, .store 16 (.t 8) (.t 7)⟩]
abbrev c24_r4 : List Ins := [
  ⟨some 9, none, .load 17 true (.t 1)⟩,
  ⟨none, none, .store 17 (.t 2) (.t 9)⟩]
abbrev c24 : IR := .seq (.reg c24_r1) (.seq (.reg c24_r2) (.seq (.reg c24_r3) (.seq (.reg c24_r4) (.ret))))
abbrev F24 : FnA := ⟨10, c24, [.cell 2 17 true]⟩
theorem ok24 : cFn Try.prog 24 = some F24 := by kernel_rfl
theorem hb24 : HasBody Try.prog 24 := ⟨_, Try.func24, by kernel_rfl, by kernel_rfl⟩
/-! ref14.Bounds -/
abbrev c30_r1 : List Ins := [
  ⟨some 4, none, .box (.t 0)⟩,
  ⟨some 8, none, .mov (.c (.int .i64 0))⟩,
  ⟨some 9, none, .mov (.c (.int .i64 0))⟩,
  ⟨some 10, none, .mov (.c (.bool false))⟩]
abbrev c30_r2 : List Ins := [
  ⟨some 14, none, .load 17 true (.t 4)⟩,
  ⟨some 15, none, .mov (.t 1)⟩,
  ⟨some 16, none, .call (.c (.fn 22 [] [])) [.t 14, .t 15]⟩,
  ⟨some 17, none, .un .not (.t 16)⟩,
  ⟨some 18, none, .mov (.t 17)⟩,
  ⟨some 19, some (18, false), .load 17 true (.t 4)⟩,
  ⟨some 20, some (18, false), .mov (.t 2)⟩,
  ⟨some 21, some (18, false), .call (.c (.fn 22 [] [])) [.t 19, .t 20]⟩,
  ⟨some 22, some (18, false), .un .not (.t 21)⟩,
  ⟨some 23, none, .pick (.t 18) (.c (.bool true)) (.t 22)⟩,
  ⟨some 24, none, .mov (.t 23)⟩,
  ⟨some 25, some (24, false), .mov (.t 3)⟩,
  ⟨some 26, some (24, false), .bin .lss (.t 25) (.c (.int .i64 0))⟩,
  ⟨some 27, none, .pick (.t 24) (.c (.bool true)) (.t 26)⟩,
  ⟨some 28, none, .mov (.t 27)⟩,
  ⟨some 29, some (28, false), .mov (.t 3)⟩,
  ⟨some 30, some (28, false), .faddr 0 (.t 4)⟩,
  ⟨some 31, some (28, false), .load 1 false (.t 30)⟩,
  ⟨some 32, some (28, false), .mov (.t 1)⟩,
  ⟨some 33, some (28, false), .iaddr 5 (.t 31) (.t 32)⟩,
  ⟨some 34, some (28, false), .faddr 2 (.t 33)⟩,
  ⟨some 35, some (28, false), .load 1 false (.t 34)⟩,
  ⟨some 36, some (28, false), .len (.t 35)⟩,
  ⟨some 37, some (28, false), .bin .geq (.t 29) (.t 36)⟩,
  ⟨some 38, none, .pick (.t 28) (.c (.bool true)) (.t 37)⟩]
abbrev c30_r3 : List Ins := [
  ⟨some 8, none, .mov (.c (.int .i64 0))⟩,
  ⟨some 9, none, .mov (.c (.int .i64 0))⟩,
  ⟨some 10, none, .mov (.c (.bool false))⟩]
abbrev c30_r4 : List Ins := [
  ⟨some 11, none, .mov (.c (.int .i64 (-1)))⟩,
  ⟨some 12, none, .mov (.c (.int .i64 (-1)))⟩]
abbrev c30_r5 : List Ins := [
  ⟨some 13, none, .mov (.c (.int .i64 0))⟩]
abbrev c30_r6 : List Ins := [
  ⟨some 39, none, .mov (.t 13)⟩,
  ⟨some 40, none, .faddr 0 (.t 4)⟩,
  ⟨some 41, none, .load 1 false (.t 40)⟩,
  ⟨some 42, none, .mov (.t 1)⟩,
  ⟨some 43, none, .iaddr 5 (.t 41) (.t 42)⟩,
  ⟨some 44, none, .faddr 2 (.t 43)⟩,
  ⟨some 45, none, .load 1 false (.t 44)⟩,
  ⟨some 46, none, .len (.t 45)⟩,
  ⟨some 47, none, .bin .lss (.t 39) (.t 46)⟩]
abbrev c30_r7 : List Ins := [
  ⟨some 50, none, .load 17 true (.t 4)⟩,
  ⟨some 51, none, .mov (.t 1)⟩,
  ⟨some 52, none, .mov (.t 2)⟩,
  ⟨some 53, none, .mov (.t 13)⟩,
  ⟨some 54, none, .call (.c (.fn 73 [] [])) [.t 50, .t 51, .t 52, .t 53]⟩,
  ⟨some 55, none, .load 17 true (.t 4)⟩,
  ⟨some 56, none, .mov (.t 1)⟩,
  ⟨some 57, none, .mov (.t 2)⟩,
  ⟨some 58, none, .mov (.t 3)⟩,
  ⟨some 59, none, .call (.c (.fn 73 [] [])) [.t 55, .t 56, .t 57, .t 58]⟩,
  ⟨some 60, none, .bin .eql (.t 54) (.t 59)⟩]
def c30_a7 : List (List Nat) := [[], [], [], [], [0, 1, 2, 3], [], [], [], [], [5, 6, 7, 8, 4], [4, 9]]
abbrev c30_m7 : List Am.Mark := [⟨false, 0, 0⟩, ⟨false, 0, 0⟩, ⟨false, 0, 0⟩, ⟨false, 0, 0⟩, ⟨false, 0, 0⟩, ⟨false, 0, 0⟩, ⟨false, 0, 0⟩, ⟨false, 0, 0⟩, ⟨false, 0, 0⟩, ⟨false, 0, 0⟩, ⟨false, 0, 0⟩]
theorem c30_d7 : drawFine c30_r7 c30_a7 c30_m7 = true := by decide +kernel
abbrev c30_r8 : List Ins := [
  ⟨some 61, none, .mov (.t 11)⟩,
  ⟨some 62, none, .bin .lss (.t 61) (.c (.int .i64 0))⟩]
abbrev c30_r9 : List Ins := [
  ⟨some 63, none, .mov (.t 13)⟩,
  ⟨some 11, none, .mov (.t 63)⟩]
abbrev c30_r10 : List Ins := [
  ⟨some 64, none, .mov (.t 13)⟩,
  ⟨some 12, none, .mov (.t 64)⟩]
abbrev c30_r11 : List Ins := [
  ⟨some 48, none, .mov (.t 13)⟩,
  ⟨some 49, none, .bin .add (.t 48) (.c (.int .i64 1))⟩,
  ⟨some 13, none, .mov (.t 49)⟩]
abbrev c30_l12 : IR := .seq (.seq (.reg c30_r6) (.cond (.t 47) (.skip) (.exit 0))) (.seq (.blk 1 (.seq (.dreg c30_r7 c30_a7) (.cond (.t 60) (.seq (.seq (.reg c30_r8) (.cond (.t 62) (.reg c30_r9) (.skip))) (.reg c30_r10)) (.skip)))) (.reg c30_r11))
abbrev c30_r13 : List Ins := [
  ⟨some 65, none, .mov (.t 11)⟩,
  ⟨some 66, none, .mov (.t 12)⟩,
  ⟨some 8, none, .mov (.t 65)⟩,
  ⟨some 9, none, .mov (.t 66)⟩,
  ⟨some 10, none, .mov (.c (.bool true))⟩]
abbrev c30 : IR := .seq (.reg c30_r1) (.seq (.seq (.reg c30_r2) (.cond (.t 38) (.seq (.reg c30_r3) (.ret)) (.skip))) (.seq (.reg c30_r4) (.seq (.seq (.reg c30_r5) (.blk 0 (.loop c30_l12))) (.seq (.reg c30_r13) (.ret)))))
abbrev F30 : FnA := ⟨67, c30, [.t 8, .t 9, .t 10]⟩
theorem ok30 : cFn Try.prog 30 = some F30 := by kernel_rfl
theorem hb30 : HasBody Try.prog 30 := ⟨_, Try.func30, by kernel_rfl, by kernel_rfl⟩
/-! units.Open -/
abbrev c31_r1 : List Ins := [
  ⟨some 4, none, .box (.t 0)⟩,
  ⟨some 8, none, .mov (.c (.bool false))⟩]
abbrev c31_r2 : List Ins := [
  ⟨some 13, none, .load 17 true (.t 4)⟩,
  ⟨some 14, none, .mov (.t 1)⟩,
  ⟨some 15, none, .mov (.t 2)⟩,
  ⟨some 16, none, .mov (.t 3)⟩,
  ⟨some 17, none, .bin .sub (.t 16) (.c (.int .i64 1))⟩,
  ⟨some 18, none, .call (.c (.fn 23 [] [])) [.t 13, .t 14, .t 15, .t 17]⟩,
  ⟨some 12, none, .mov (.t 18)⟩,
  ⟨some 19, none, .ext (.t 12) 0⟩,
  ⟨some 20, none, .ext (.t 12) 1⟩,
  ⟨some 21, none, .ext (.t 12) 2⟩,
  ⟨some 9, none, .mov (.t 19)⟩,
  ⟨some 10, none, .mov (.t 20)⟩,
  ⟨some 11, none, .mov (.t 21)⟩]
abbrev c31_r3 : List Ins := [
  ⟨some 22, none, .mov (.t 11)⟩,
  ⟨some 23, none, .mov (.t 22)⟩,
  ⟨some 24, some (23, true), .mov (.t 10)⟩,
  ⟨some 25, some (23, true), .mov (.t 3)⟩,
  ⟨some 26, some (23, true), .bin .sub (.t 25) (.c (.int .i64 1))⟩,
  ⟨some 27, some (23, true), .bin .gtr (.t 24) (.t 26)⟩,
  ⟨some 28, none, .pick (.t 23) (.t 27) (.c (.bool false))⟩,
  ⟨some 8, none, .mov (.t 28)⟩]
abbrev c31 : IR := .seq (.reg c31_r1) (.seq (.reg c31_r2) (.seq (.reg c31_r3) (.ret)))
abbrev F31 : FnA := ⟨29, c31, [.t 8]⟩
theorem ok31 : cFn Try.prog 31 = some F31 := by kernel_rfl
theorem hb31 : HasBody Try.prog 31 := ⟨_, Try.func31, by kernel_rfl, by kernel_rfl⟩
/-! cat.Closed -/
abbrev c32_r1 : List Ins := [
  ⟨some 1, none, .box (.t 0)⟩,
  ⟨some 2, none, .alloc [.sl .full [], .int .i64 0, .int .i64 0, .int .i64 0, .int .i64 0, .int .i64 0, .int .i64 0, .int .i64 0, .int .i64 0, .int .i64 0, .int .i64 0, .int .i64 0, .int .i64 0, .int .i64 0, .int .i64 0, .int .i64 0, .int .i64 0]⟩]
abbrev c32_r2 : List Ins := [
  ⟨some 3, none, .load 17 true (.t 1)⟩,
  ⟨some 4, none, .call (.c (.fn 63 [] [])) [.t 3]⟩,
  ⟨none, none, .store 17 (.t 1) (.t 4)⟩]
abbrev c32_r3 : List Ins := [
  ⟨some 5, none, .build [.int .i64 0, .int .i64 0, .int .i64 0, .int .i64 0, .int .i64 0, .int .i64 0, .int .i64 0, .int .i64 0, .int .i64 0, .int .i64 0, .int .i64 0, .int .i64 0, .int .i64 0, .int .i64 0, .int .i64 0, .int .i64 0] []⟩,
  ⟨some 6, none, .faddr 1 (.t 1)⟩,
  ⟨none, none, .store 16 (.t 6) (.t 5)⟩]
abbrev c32_r4 : List Ins := [
  ⟨some 7, none, .load 17 true (.t 1)⟩,
  ⟨none, none, .store 17 (.t 2) (.t 7)⟩]
abbrev c32 : IR := .seq (.reg c32_r1) (.seq (.reg c32_r2) (.seq (.reg c32_r3) (.seq (.reg c32_r4) (.ret))))
abbrev F32 : FnA := ⟨8, c32, [.cell 2 17 true]⟩
theorem ok32 : cFn Try.prog 32 = some F32 := by kernel_rfl
theorem hb32 : HasBody Try.prog 32 := ⟨_, Try.func32, by kernel_rfl, by kernel_rfl⟩
/-! law14.Great -/
abbrev c33_r1 : List Ins := [
  ⟨some 2, none, .box (.t 0)⟩,
  ⟨some 4, none, .mov (.c (.bool false))⟩]
abbrev c33_r2 : List Ins := [
  ⟨some 5, none, .mov (.c (.int .i64 0))⟩]
abbrev c33_r3 : List Ins := [
  ⟨some 6, none, .mov (.t 5)⟩,
  ⟨some 7, none, .mov (.t 1)⟩,
  ⟨some 8, none, .len (.t 7)⟩,
  ⟨some 9, none, .bin .lss (.t 6) (.t 8)⟩]
abbrev c33_r4 : List Ins := [
  ⟨some 12, none, .mov (.t 1)⟩,
  ⟨some 13, none, .mov (.t 5)⟩,
  ⟨some 14, none, .iaddr 6 (.t 12) (.t 13)⟩,
  ⟨some 15, none, .faddr 4 (.t 14)⟩,
  ⟨some 16, none, .load 1 false (.t 15)⟩,
  ⟨some 17, none, .len (.t 16)⟩,
  ⟨some 18, none, .bin .gtr (.t 17) (.c (.int .i64 60))⟩,
  ⟨some 19, none, .mov (.t 18)⟩,
  ⟨some 20, some (19, false), .mov (.t 1)⟩,
  ⟨some 21, some (19, false), .mov (.t 5)⟩,
  ⟨some 22, some (19, false), .iaddr 6 (.t 20) (.t 21)⟩,
  ⟨some 23, some (19, false), .faddr 5 (.t 22)⟩,
  ⟨some 24, some (19, false), .load 1 false (.t 23)⟩,
  ⟨some 25, some (19, false), .len (.t 24)⟩,
  ⟨some 26, some (19, false), .bin .gtr (.t 25) (.c (.int .i64 60))⟩,
  ⟨some 27, none, .pick (.t 19) (.c (.bool true)) (.t 26)⟩]
abbrev c33_r5 : List Ins := [
  ⟨some 4, none, .mov (.c (.bool true))⟩]
abbrev c33_r6 : List Ins := [
  ⟨some 10, none, .mov (.t 5)⟩,
  ⟨some 11, none, .bin .add (.t 10) (.c (.int .i64 1))⟩,
  ⟨some 5, none, .mov (.t 11)⟩]
abbrev c33_l7 : IR := .seq (.seq (.reg c33_r3) (.cond (.t 9) (.skip) (.exit 0))) (.seq (.blk 1 (.seq (.reg c33_r4) (.cond (.t 27) (.seq (.reg c33_r5) (.ret)) (.skip)))) (.reg c33_r6))
abbrev c33_r8 : List Ins := [
  ⟨some 28, none, .load 17 true (.t 2)⟩,
  ⟨some 29, none, .call (.c (.fn 74 [] [])) [.t 28]⟩,
  ⟨some 30, none, .mov (.t 29)⟩,
  ⟨some 31, some (30, false), .mov (.t 1)⟩,
  ⟨some 32, some (30, false), .len (.t 31)⟩,
  ⟨some 33, some (30, false), .bin .gtr (.t 32) (.c (.int .i64 110))⟩,
  ⟨some 34, none, .pick (.t 30) (.c (.bool true)) (.t 33)⟩,
  ⟨some 4, none, .mov (.t 34)⟩]
abbrev c33 : IR := .seq (.reg c33_r1) (.seq (.seq (.reg c33_r2) (.blk 0 (.loop c33_l7))) (.seq (.reg c33_r8) (.ret)))
abbrev F33 : FnA := ⟨35, c33, [.t 4]⟩
theorem ok33 : cFn Try.prog 33 = some F33 := by kernel_rfl
theorem hb33 : HasBody Try.prog 33 := ⟨_, Try.func33, by kernel_rfl, by kernel_rfl⟩
/-! units.May -/
abbrev c34_r1 : List Ins := [
  ⟨some 2, none, .box (.t 0)⟩,
  ⟨some 4, none, .mov (.c (.bool false))⟩]
abbrev c34_r2 : List Ins := [
  ⟨some 8, none, .load 17 true (.t 2)⟩,
  ⟨some 9, none, .call (.c (.fn 39 [] [])) [.t 8]⟩,
  ⟨some 10, none, .un .not (.t 9)⟩,
  ⟨some 11, none, .mov (.t 10)⟩,
  ⟨some 12, some (11, false), .mov (.t 1)⟩,
  ⟨some 13, some (11, false), .len (.t 12)⟩,
  ⟨some 14, some (11, false), .bin .gtr (.t 13) (.c (.int .i64 100))⟩,
  ⟨some 15, none, .pick (.t 11) (.c (.bool true)) (.t 14)⟩]
abbrev c34_r3 : List Ins := [
  ⟨some 4, none, .mov (.c (.bool false))⟩]
abbrev c34_r4 : List Ins := [
  ⟨some 16, none, .mkmap⟩,
  ⟨some 5, none, .mov (.t 16)⟩]
abbrev c34_r5 : List Ins := [
  ⟨some 17, none, .mov (.t 1)⟩,
  ⟨some 18, none, .len (.t 17)⟩,
  ⟨some 19, none, .mov (.c (.int .i64 0))⟩]
abbrev c34_r6 : List Ins := [
  ⟨some 20, none, .bin .lss (.t 19) (.t 18)⟩]
abbrev c34_r7 : List Ins := [
  ⟨some 21, none, .iaddr 6 (.t 17) (.t 19)⟩,
  ⟨some 22, none, .load 6 true (.t 21)⟩,
  ⟨some 7, none, .alloc [.int .i64 0, .int .i64 0, .int .i64 0, .bool false, .sl .full [], .sl .full []]⟩,
  ⟨none, none, .store 6 (.t 7) (.t 22)⟩]
abbrev c34_r8 : List Ins := [
  ⟨some 23, none, .faddr 0 (.t 7)⟩,
  ⟨some 24, none, .load 1 false (.t 23)⟩,
  ⟨some 25, none, .bin .lss (.t 24) (.c (.int .i64 0))⟩,
  ⟨some 26, none, .mov (.t 25)⟩,
  ⟨some 27, some (26, false), .load 17 true (.t 2)⟩,
  ⟨some 28, some (26, false), .faddr 1 (.t 7)⟩,
  ⟨some 29, some (26, false), .load 1 false (.t 28)⟩,
  ⟨some 30, some (26, false), .call (.c (.fn 62 [] [])) [.t 27, .t 29]⟩,
  ⟨some 31, some (26, false), .un .not (.t 30)⟩,
  ⟨some 32, none, .pick (.t 26) (.c (.bool true)) (.t 31)⟩,
  ⟨some 33, none, .mov (.t 32)⟩,
  ⟨some 34, some (33, false), .faddr 2 (.t 7)⟩,
  ⟨some 35, some (33, false), .load 1 false (.t 34)⟩,
  ⟨some 36, some (33, false), .bin .lss (.t 35) (.c (.int .i64 0))⟩,
  ⟨some 37, none, .pick (.t 33) (.c (.bool true)) (.t 36)⟩,
  ⟨some 38, none, .mov (.t 37)⟩,
  ⟨some 39, some (38, false), .faddr 4 (.t 7)⟩,
  ⟨some 40, some (38, false), .load 1 false (.t 39)⟩,
  ⟨some 41, some (38, false), .call (.c (.fn 75 [] [])) [.t 40]⟩,
  ⟨some 42, some (38, false), .un .not (.t 41)⟩,
  ⟨some 43, none, .pick (.t 38) (.c (.bool true)) (.t 42)⟩,
  ⟨some 44, none, .mov (.t 43)⟩,
  ⟨some 45, some (44, false), .faddr 5 (.t 7)⟩,
  ⟨some 46, some (44, false), .load 1 false (.t 45)⟩,
  ⟨some 47, some (44, false), .call (.c (.fn 75 [] [])) [.t 46]⟩,
  ⟨some 48, some (44, false), .un .not (.t 47)⟩,
  ⟨some 49, none, .pick (.t 44) (.c (.bool true)) (.t 48)⟩,
  ⟨some 50, none, .mov (.t 49)⟩,
  ⟨some 51, some (50, false), .mov (.t 5)⟩,
  ⟨some 52, some (50, false), .faddr 0 (.t 7)⟩,
  ⟨some 53, some (50, false), .load 1 false (.t 52)⟩,
  ⟨some 54, some (50, false), .lookup (.sl .full []) (.t 51) (.t 53) false⟩,
  ⟨some 55, some (50, false), .load 6 true (.t 7)⟩,
  ⟨some 56, some (50, false), .faddr 0 (.t 2)⟩,
  ⟨some 57, some (50, false), .load 1 false (.t 56)⟩,
  ⟨some 58, some (50, false), .faddr 1 (.t 7)⟩,
  ⟨some 59, some (50, false), .load 1 false (.t 58)⟩,
  ⟨some 60, some (50, false), .iaddr 5 (.t 57) (.t 59)⟩,
  ⟨some 61, some (50, false), .faddr 2 (.t 60)⟩,
  ⟨some 62, some (50, false), .load 1 false (.t 61)⟩,
  ⟨some 63, some (50, false), .len (.t 62)⟩,
  ⟨some 64, some (50, false), .call (.c (.fn 76 [] [])) [.t 54, .t 55, .t 63]⟩,
  ⟨some 65, some (50, false), .un .not (.t 64)⟩,
  ⟨some 66, none, .pick (.t 50) (.c (.bool true)) (.t 65)⟩]
def c34_a8 : List (List Nat) := [[], [0], [1], [2], [3], [3], [5, 3], [4, 6, 3, 3], [7, 3], [3, 8], [9, 7], [10], [11, 10], [12, 10], [10, 13], [14, 10], [15], [16, 15], [17, 15, 15], [18, 15], [15, 19], [20, 18], [21], [22, 21], [23, 21, 21], [24, 21], [21, 25], [26, 24], [27], [27], [29, 27], [28, 30, 27], [27], [27], [33, 27], [27], [35, 27], [34, 36, 27], [37, 27], [38, 27], [39, 27], [31, 32, 40, 27, 27], [41, 27], [27, 42]]
abbrev c34_m8 : List Am.Mark := [⟨false, 0, 0⟩, ⟨false, 0, 0⟩, ⟨false, 0, 0⟩, ⟨false, 0, 0⟩, ⟨false, 0, 0⟩, ⟨false, 0, 0⟩, ⟨false, 0, 0⟩, ⟨false, 0, 0⟩, ⟨false, 0, 0⟩, ⟨false, 0, 0⟩, ⟨false, 0, 0⟩, ⟨false, 0, 0⟩, ⟨false, 0, 0⟩, ⟨false, 0, 0⟩, ⟨false, 0, 0⟩, ⟨false, 0, 0⟩, ⟨false, 0, 0⟩, ⟨false, 0, 0⟩, ⟨false, 0, 0⟩, ⟨false, 0, 0⟩, ⟨false, 0, 0⟩, ⟨false, 0, 0⟩, ⟨false, 0, 0⟩, ⟨false, 0, 0⟩, ⟨false, 0, 0⟩, ⟨false, 0, 0⟩, ⟨false, 0, 0⟩, ⟨false, 0, 0⟩, ⟨false, 0, 0⟩, ⟨false, 0, 0⟩, ⟨false, 0, 0⟩, ⟨false, 0, 0⟩, ⟨false, 0, 0⟩, ⟨false, 0, 0⟩, ⟨false, 0, 0⟩, ⟨false, 0, 0⟩, ⟨false, 0, 0⟩, ⟨false, 0, 0⟩, ⟨false, 0, 0⟩, ⟨false, 0, 0⟩, ⟨false, 0, 0⟩, ⟨false, 0, 0⟩, ⟨false, 0, 0⟩, ⟨false, 0, 0⟩]
theorem c34_d8 : drawFine c34_r8 c34_a8 c34_m8 = true := by decide +kernel
abbrev c34_r9 : List Ins := [
  ⟨some 4, none, .mov (.c (.bool false))⟩]
abbrev c34_r10 : List Ins := [
  ⟨some 67, none, .mov (.t 5)⟩,
  ⟨some 68, none, .faddr 0 (.t 7)⟩,
  ⟨some 69, none, .load 1 false (.t 68)⟩,
  ⟨some 70, none, .mov (.t 5)⟩,
  ⟨some 71, none, .faddr 0 (.t 7)⟩,
  ⟨some 72, none, .load 1 false (.t 71)⟩,
  ⟨some 73, none, .lookup (.sl .full []) (.t 70) (.t 72) false⟩,
  ⟨some 74, none, .load 6 true (.t 7)⟩,
  ⟨some 75, none, .bsl 6 1 [.int .i64 0, .int .i64 0, .int .i64 0, .bool false, .sl .full [], .sl .full []] [(0, .t 74)]⟩,
  ⟨some 76, none, .append 6 80 (.t 73) (.t 75)⟩,
  ⟨none, none, .mapup (.t 67) (.t 69) (.t 76)⟩]
def c34_a10 : List (List Nat) := [[], [], [1], [], [], [4], [3, 5], [], [7], [6, 8], [0, 2, 9, 9, 0, 1, 2, 3, 4, 5, 6, 7, 8, 9]]
abbrev c34_m10 : List Am.Mark := [⟨false, 0, 1⟩, ⟨false, 0, 1⟩, ⟨false, 0, 1⟩, ⟨false, 0, 1⟩, ⟨false, 0, 1⟩, ⟨false, 0, 1⟩, ⟨false, 0, 0⟩, ⟨false, 0, 1⟩, ⟨false, 0, 0⟩, ⟨true, 0, 1⟩, ⟨true, 1, 2⟩]
theorem c34_d10 : drawFine c34_r10 c34_a10 c34_m10 = true := by decide +kernel
abbrev c34_r11 : List Ins := [
  ⟨some 77, none, .bin .add (.t 19) (.c (.int .i64 1))⟩,
  ⟨some 19, none, .mov (.t 77)⟩]
abbrev c34_l12 : IR := .seq (.reg c34_r6) (.seq (.cond (.t 20) (.skip) (.exit 0)) (.seq (.blk 1 (.seq (.reg c34_r7) (.seq (.seq (.dreg c34_r8 c34_a8) (.cond (.t 66) (.seq (.reg c34_r9) (.ret)) (.skip))) (.dreg c34_r10 c34_a10)))) (.reg c34_r11)))
abbrev c34_r13 : List Ins := [
  ⟨some 4, none, .mov (.c (.bool true))⟩]
abbrev c34 : IR := .seq (.reg c34_r1) (.seq (.seq (.reg c34_r2) (.cond (.t 15) (.seq (.reg c34_r3) (.ret)) (.skip))) (.seq (.reg c34_r4) (.seq (.seq (.reg c34_r5) (.blk 0 (.loop c34_l12))) (.seq (.reg c34_r13) (.ret)))))
abbrev F34 : FnA := ⟨78, c34, [.t 4]⟩
theorem ok34 : cFn Try.prog 34 = some F34 := by kernel_rfl
theorem hb34 : HasBody Try.prog 34 := ⟨_, Try.func34, by kernel_rfl, by kernel_rfl⟩
/-! ref14.May -/
abbrev c35_r1 : List Ins := [
  ⟨some 2, none, .box (.t 0)⟩,
  ⟨some 4, none, .mov (.c (.bool false))⟩]
abbrev c35_r2 : List Ins := [
  ⟨some 11, none, .load 17 true (.t 2)⟩,
  ⟨some 12, none, .call (.c (.fn 21 [] [])) [.t 11]⟩,
  ⟨some 13, none, .un .not (.t 12)⟩,
  ⟨some 14, none, .mov (.t 13)⟩,
  ⟨some 15, some (14, false), .mov (.t 1)⟩,
  ⟨some 16, some (14, false), .len (.t 15)⟩,
  ⟨some 17, some (14, false), .bin .gtr (.t 16) (.c (.int .i64 100))⟩,
  ⟨some 18, none, .pick (.t 14) (.c (.bool true)) (.t 17)⟩]
abbrev c35_r3 : List Ins := [
  ⟨some 4, none, .mov (.c (.bool false))⟩]
abbrev c35_r4 : List Ins := [
  ⟨some 5, none, .mov (.c (.int .i64 0))⟩]
abbrev c35_r5 : List Ins := [
  ⟨some 19, none, .mov (.t 5)⟩,
  ⟨some 20, none, .mov (.t 1)⟩,
  ⟨some 21, none, .len (.t 20)⟩,
  ⟨some 22, none, .bin .lss (.t 19) (.t 21)⟩]
abbrev c35_r6 : List Ins := [
  ⟨some 25, none, .mov (.t 1)⟩,
  ⟨some 26, none, .mov (.t 5)⟩,
  ⟨some 27, none, .iaddr 6 (.t 25) (.t 26)⟩,
  ⟨some 28, none, .load 6 true (.t 27)⟩,
  ⟨some 6, none, .alloc [.int .i64 0, .int .i64 0, .int .i64 0, .bool false, .sl .full [], .sl .full []]⟩,
  ⟨none, none, .store 6 (.t 6) (.t 28)⟩]
abbrev c35_r7 : List Ins := [
  ⟨some 29, none, .faddr 0 (.t 6)⟩,
  ⟨some 30, none, .load 1 false (.t 29)⟩,
  ⟨some 31, none, .bin .lss (.t 30) (.c (.int .i64 0))⟩,
  ⟨some 32, none, .mov (.t 31)⟩,
  ⟨some 33, some (32, false), .load 17 true (.t 2)⟩,
  ⟨some 34, some (32, false), .faddr 1 (.t 6)⟩,
  ⟨some 35, some (32, false), .load 1 false (.t 34)⟩,
  ⟨some 36, some (32, false), .call (.c (.fn 22 [] [])) [.t 33, .t 35]⟩,
  ⟨some 37, some (32, false), .un .not (.t 36)⟩,
  ⟨some 38, none, .pick (.t 32) (.c (.bool true)) (.t 37)⟩,
  ⟨some 39, none, .mov (.t 38)⟩,
  ⟨some 40, some (39, false), .faddr 4 (.t 6)⟩,
  ⟨some 41, some (39, false), .load 1 false (.t 40)⟩,
  ⟨some 42, some (39, false), .call (.c (.fn 77 [] [])) [.t 41]⟩,
  ⟨some 43, some (39, false), .un .not (.t 42)⟩,
  ⟨some 44, none, .pick (.t 39) (.c (.bool true)) (.t 43)⟩,
  ⟨some 45, none, .mov (.t 44)⟩,
  ⟨some 46, some (45, false), .faddr 5 (.t 6)⟩,
  ⟨some 47, some (45, false), .load 1 false (.t 46)⟩,
  ⟨some 48, some (45, false), .call (.c (.fn 77 [] [])) [.t 47]⟩,
  ⟨some 49, some (45, false), .un .not (.t 48)⟩,
  ⟨some 50, none, .pick (.t 45) (.c (.bool true)) (.t 49)⟩,
  ⟨some 51, none, .mov (.t 50)⟩,
  ⟨some 52, some (51, false), .faddr 2 (.t 6)⟩,
  ⟨some 53, some (51, false), .load 1 false (.t 52)⟩,
  ⟨some 54, some (51, false), .bin .lss (.t 53) (.c (.int .i64 0))⟩,
  ⟨some 55, none, .pick (.t 51) (.c (.bool true)) (.t 54)⟩,
  ⟨some 56, none, .mov (.t 55)⟩,
  ⟨some 57, some (56, false), .faddr 2 (.t 6)⟩,
  ⟨some 58, some (56, false), .load 1 false (.t 57)⟩,
  ⟨some 59, some (56, false), .faddr 0 (.t 2)⟩,
  ⟨some 60, some (56, false), .load 1 false (.t 59)⟩,
  ⟨some 61, some (56, false), .faddr 1 (.t 6)⟩,
  ⟨some 62, some (56, false), .load 1 false (.t 61)⟩,
  ⟨some 63, some (56, false), .iaddr 5 (.t 60) (.t 62)⟩,
  ⟨some 64, some (56, false), .faddr 2 (.t 63)⟩,
  ⟨some 65, some (56, false), .load 1 false (.t 64)⟩,
  ⟨some 66, some (56, false), .len (.t 65)⟩,
  ⟨some 67, some (56, false), .bin .geq (.t 58) (.t 66)⟩,
  ⟨some 68, none, .pick (.t 56) (.c (.bool true)) (.t 67)⟩]
def c35_a7 : List (List Nat) := [[], [0], [1], [2], [3], [3], [5, 3], [4, 6, 3, 3], [7, 3], [3, 8], [9, 7], [10], [11, 10], [12, 10, 10], [13, 10], [10, 14], [15, 13], [16], [17, 16], [18, 16, 16], [19, 16], [16, 20], [21, 19], [22], [23, 22], [24, 22], [22, 25], [26, 22], [27], [28, 27], [27], [30, 27], [27], [32, 27], [31, 33, 27], [34, 27], [35, 27], [36, 27], [29, 37, 27], [27, 38]]
abbrev c35_m7 : List Am.Mark := [⟨false, 0, 0⟩, ⟨false, 0, 0⟩, ⟨false, 0, 0⟩, ⟨false, 0, 0⟩, ⟨false, 0, 0⟩, ⟨false, 0, 0⟩, ⟨false, 0, 0⟩, ⟨false, 0, 0⟩, ⟨false, 0, 0⟩, ⟨false, 0, 0⟩, ⟨false, 0, 0⟩, ⟨false, 0, 0⟩, ⟨false, 0, 0⟩, ⟨false, 0, 0⟩, ⟨false, 0, 0⟩, ⟨false, 0, 0⟩, ⟨false, 0, 0⟩, ⟨false, 0, 0⟩, ⟨false, 0, 0⟩, ⟨false, 0, 0⟩, ⟨false, 0, 0⟩, ⟨false, 0, 0⟩, ⟨false, 0, 0⟩, ⟨false, 0, 0⟩, ⟨false, 0, 0⟩, ⟨false, 0, 0⟩, ⟨false, 0, 0⟩, ⟨false, 0, 0⟩, ⟨false, 0, 0⟩, ⟨false, 0, 0⟩, ⟨false, 0, 0⟩, ⟨false, 0, 0⟩, ⟨false, 0, 0⟩, ⟨false, 0, 0⟩, ⟨false, 0, 0⟩, ⟨false, 0, 0⟩, ⟨false, 0, 0⟩, ⟨false, 0, 0⟩, ⟨false, 0, 0⟩, ⟨false, 0, 0⟩]
theorem c35_d7 : drawFine c35_r7 c35_a7 c35_m7 = true := by decide +kernel
abbrev c35_r8 : List Ins := [
  ⟨some 4, none, .mov (.c (.bool false))⟩]
abbrev c35_r9 : List Ins := [
  ⟨some 7, none, .mov (.c (.int .i64 (-1)))⟩]
abbrev c35_r10 : List Ins := [
  ⟨some 8, none, .mov (.c (.int .i64 0))⟩]
abbrev c35_r11 : List Ins := [
  ⟨some 69, none, .mov (.t 8)⟩,
  ⟨some 70, none, .mov (.t 5)⟩,
  ⟨some 71, none, .bin .lss (.t 69) (.t 70)⟩]
abbrev c35_r12 : List Ins := [
  ⟨some 74, none, .mov (.t 1)⟩,
  ⟨some 75, none, .mov (.t 8)⟩,
  ⟨some 76, none, .iaddr 6 (.t 74) (.t 75)⟩,
  ⟨some 77, none, .faddr 0 (.t 76)⟩,
  ⟨some 78, none, .load 1 false (.t 77)⟩,
  ⟨some 79, none, .faddr 0 (.t 6)⟩,
  ⟨some 80, none, .load 1 false (.t 79)⟩,
  ⟨some 81, none, .bin .eql (.t 78) (.t 80)⟩]
def c35_a12 : List (List Nat) := [[], [], [0, 1], [2], [3], [], [5], [4, 6]]
abbrev c35_m12 : List Am.Mark := [⟨false, 0, 0⟩, ⟨false, 0, 0⟩, ⟨false, 0, 0⟩, ⟨false, 0, 0⟩, ⟨false, 0, 0⟩, ⟨false, 0, 0⟩, ⟨false, 0, 0⟩, ⟨false, 0, 0⟩]
theorem c35_d12 : drawFine c35_r12 c35_a12 c35_m12 = true := by decide +kernel
abbrev c35_r13 : List Ins := [
  ⟨some 82, none, .mov (.t 8)⟩,
  ⟨some 7, none, .mov (.t 82)⟩]
abbrev c35_r14 : List Ins := [
  ⟨some 72, none, .mov (.t 8)⟩,
  ⟨some 73, none, .bin .add (.t 72) (.c (.int .i64 1))⟩,
  ⟨some 8, none, .mov (.t 73)⟩]
abbrev c35_l15 : IR := .seq (.seq (.reg c35_r11) (.cond (.t 71) (.skip) (.exit 2))) (.seq (.blk 3 (.seq (.dreg c35_r12 c35_a12) (.cond (.t 81) (.reg c35_r13) (.skip)))) (.reg c35_r14))
abbrev c35_r16 : List Ins := [
  ⟨some 83, none, .mov (.t 7)⟩,
  ⟨some 84, none, .bin .lss (.t 83) (.c (.int .i64 0))⟩]
abbrev c35_r17 : List Ins := [
  ⟨some 85, none, .faddr 3 (.t 6)⟩,
  ⟨some 86, none, .load 1 false (.t 85)⟩,
  ⟨some 87, none, .mov (.t 86)⟩,
  ⟨some 88, some (87, false), .faddr 2 (.t 6)⟩,
  ⟨some 89, some (87, false), .load 1 false (.t 88)⟩,
  ⟨some 90, some (87, false), .bin .neq (.t 89) (.c (.int .i64 0))⟩,
  ⟨some 91, none, .pick (.t 87) (.c (.bool true)) (.t 90)⟩]
abbrev c35_r18 : List Ins := [
  ⟨some 4, none, .mov (.c (.bool false))⟩]
abbrev c35_r19 : List Ins := [
  ⟨some 92, none, .mov (.t 1)⟩,
  ⟨some 93, none, .mov (.t 7)⟩,
  ⟨some 94, none, .iaddr 6 (.t 92) (.t 93)⟩,
  ⟨some 95, none, .load 6 true (.t 94)⟩,
  ⟨some 9, none, .alloc [.int .i64 0, .int .i64 0, .int .i64 0, .bool false, .sl .full [], .sl .full []]⟩,
  ⟨none, none, .store 6 (.t 9) (.t 95)⟩]
abbrev c35_r20 : List Ins := [
  ⟨some 96, none, .faddr 2 (.t 9)⟩,
  ⟨some 97, none, .load 1 false (.t 96)⟩,
  ⟨some 98, none, .bin .add (.t 97) (.c (.int .i64 1))⟩,
  ⟨some 10, none, .mov (.t 98)⟩]
abbrev c35_r21 : List Ins := [
  ⟨some 99, none, .faddr 3 (.t 6)⟩,
  ⟨some 100, none, .load 1 false (.t 99)⟩]
abbrev c35_r22 : List Ins := [
  ⟨some 101, none, .faddr 2 (.t 9)⟩,
  ⟨some 102, none, .load 1 false (.t 101)⟩,
  ⟨some 10, none, .mov (.t 102)⟩]
abbrev c35_r23 : List Ins := [
  ⟨some 103, none, .faddr 3 (.t 9)⟩,
  ⟨some 104, none, .load 1 false (.t 103)⟩]
abbrev c35_r24 : List Ins := [
  ⟨some 105, none, .faddr 2 (.t 9)⟩,
  ⟨some 106, none, .load 1 false (.t 105)⟩,
  ⟨some 107, none, .bin .sub (.t 106) (.c (.int .i64 1))⟩,
  ⟨some 10, none, .mov (.t 107)⟩]
abbrev c35_r25 : List Ins := [
  ⟨some 108, none, .faddr 1 (.t 6)⟩,
  ⟨some 109, none, .load 1 false (.t 108)⟩,
  ⟨some 110, none, .faddr 1 (.t 9)⟩,
  ⟨some 111, none, .load 1 false (.t 110)⟩,
  ⟨some 112, none, .bin .neq (.t 109) (.t 111)⟩,
  ⟨some 113, none, .mov (.t 112)⟩,
  ⟨some 114, some (113, false), .faddr 2 (.t 6)⟩,
  ⟨some 115, some (113, false), .load 1 false (.t 114)⟩,
  ⟨some 116, some (113, false), .mov (.t 10)⟩,
  ⟨some 117, some (113, false), .bin .neq (.t 115) (.t 116)⟩,
  ⟨some 118, none, .pick (.t 113) (.c (.bool true)) (.t 117)⟩,
  ⟨some 119, none, .mov (.t 118)⟩,
  ⟨some 120, some (119, false), .faddr 3 (.t 9)⟩,
  ⟨some 121, some (119, false), .load 1 false (.t 120)⟩,
  ⟨some 122, some (119, false), .mov (.t 121)⟩,
  ⟨some 123, some (122, true), .faddr 3 (.t 6)⟩,
  ⟨some 124, some (122, true), .load 1 false (.t 123)⟩,
  ⟨some 125, some (122, true), .un .not (.t 124)⟩,
  ⟨some 126, some (119, false), .pick (.t 122) (.t 125) (.c (.bool false))⟩,
  ⟨some 127, none, .pick (.t 119) (.c (.bool true)) (.t 126)⟩]
abbrev c35_r26 : List Ins := [
  ⟨some 4, none, .mov (.c (.bool false))⟩]
abbrev c35_r27 : List Ins := [
  ⟨some 23, none, .mov (.t 5)⟩,
  ⟨some 24, none, .bin .add (.t 23) (.c (.int .i64 1))⟩,
  ⟨some 5, none, .mov (.t 24)⟩]
abbrev c35_l28 : IR := .seq (.seq (.reg c35_r5) (.cond (.t 22) (.skip) (.exit 0))) (.seq (.blk 1 (.seq (.reg c35_r6) (.seq (.seq (.dreg c35_r7 c35_a7) (.cond (.t 68) (.seq (.reg c35_r8) (.ret)) (.skip))) (.seq (.reg c35_r9) (.seq (.seq (.reg c35_r10) (.blk 2 (.loop c35_l15))) (.seq (.seq (.reg c35_r16) (.cond (.t 84) (.seq (.seq (.reg c35_r17) (.cond (.t 91) (.seq (.reg c35_r18) (.ret)) (.skip))) (.exit 1)) (.skip))) (.seq (.reg c35_r19) (.seq (.reg c35_r20) (.seq (.seq (.reg c35_r21) (.cond (.t 100) (.seq (.reg c35_r22) (.seq (.reg c35_r23) (.cond (.t 104) (.reg c35_r24) (.skip)))) (.skip))) (.seq (.reg c35_r25) (.cond (.t 127) (.seq (.reg c35_r26) (.ret)) (.skip)))))))))))) (.reg c35_r27))
abbrev c35_r29 : List Ins := [
  ⟨some 4, none, .mov (.c (.bool true))⟩]
abbrev c35 : IR := .seq (.reg c35_r1) (.seq (.seq (.reg c35_r2) (.cond (.t 18) (.seq (.reg c35_r3) (.ret)) (.skip))) (.seq (.seq (.reg c35_r4) (.blk 0 (.loop c35_l28))) (.seq (.reg c35_r29) (.ret))))
abbrev F35 : FnA := ⟨128, c35, [.t 4]⟩
theorem ok35 : cFn Try.prog 35 = some F35 := by kernel_rfl
theorem hb35 : HasBody Try.prog 35 := ⟨_, Try.func35, by kernel_rfl, by kernel_rfl⟩
/-! cat.Break -/
abbrev c37_r1 : List Ins := [
  ⟨some 4, none, .box (.t 0)⟩,
  ⟨some 8, none, .mov (.c (.bool false))⟩]
abbrev c37_r2 : List Ins := [
  ⟨some 10, none, .mkfn 78 [] [.t 4]⟩,
  ⟨some 9, none, .mov (.t 10)⟩]
abbrev c37_r3 : List Ins := [
  ⟨some 11, none, .mov (.t 9)⟩,
  ⟨some 12, none, .mov (.t 1)⟩,
  ⟨some 13, none, .call (.t 11) [.t 12]⟩,
  ⟨some 14, none, .un .not (.t 13)⟩,
  ⟨some 15, none, .mov (.t 14)⟩,
  ⟨some 16, some (15, false), .mov (.t 9)⟩,
  ⟨some 17, some (15, false), .mov (.t 2)⟩,
  ⟨some 18, some (15, false), .call (.t 16) [.t 17]⟩,
  ⟨some 19, some (15, false), .un .not (.t 18)⟩,
  ⟨some 20, none, .pick (.t 15) (.c (.bool true)) (.t 19)⟩,
  ⟨some 21, none, .mov (.t 20)⟩,
  ⟨some 22, some (21, false), .mov (.t 3)⟩,
  ⟨some 23, some (21, false), .bin .lss (.t 22) (.c (.int .i64 0))⟩,
  ⟨some 24, none, .pick (.t 21) (.c (.bool true)) (.t 23)⟩,
  ⟨some 25, none, .mov (.t 24)⟩,
  ⟨some 26, some (25, false), .mov (.t 3)⟩,
  ⟨some 27, some (25, false), .faddr 0 (.t 4)⟩,
  ⟨some 28, some (25, false), .load 1 false (.t 27)⟩,
  ⟨some 29, some (25, false), .mov (.t 1)⟩,
  ⟨some 30, some (25, false), .iaddr 5 (.t 28) (.t 29)⟩,
  ⟨some 31, some (25, false), .faddr 2 (.t 30)⟩,
  ⟨some 32, some (25, false), .load 1 false (.t 31)⟩,
  ⟨some 33, some (25, false), .len (.t 32)⟩,
  ⟨some 34, some (25, false), .bin .sub (.t 33) (.c (.int .i64 1))⟩,
  ⟨some 35, some (25, false), .bin .geq (.t 26) (.t 34)⟩,
  ⟨some 36, none, .pick (.t 25) (.c (.bool true)) (.t 35)⟩]
abbrev c37_r4 : List Ins := [
  ⟨some 8, none, .mov (.c (.bool false))⟩]
abbrev c37_r5 : List Ins := [
  ⟨some 37, none, .mov (.t 1)⟩,
  ⟨some 38, none, .mov (.t 2)⟩,
  ⟨some 39, none, .faddr 1 (.t 4)⟩,
  ⟨some 40, none, .iaddrA 4 4 (.t 39) (.t 37)⟩,
  ⟨some 41, none, .iaddrA 4 1 (.t 40) (.t 38)⟩,
  ⟨some 42, none, .load 1 false (.t 41)⟩,
  ⟨some 43, none, .mov (.t 3)⟩,
  ⟨some 44, none, .bin .shr (.t 42) (.t 43)⟩,
  ⟨some 45, none, .bin .and (.t 44) (.c (.int .i64 1))⟩,
  ⟨some 46, none, .bin .eql (.t 45) (.c (.int .i64 1))⟩,
  ⟨some 8, none, .mov (.t 46)⟩]
abbrev c37 : IR := .seq (.reg c37_r1) (.seq (.reg c37_r2) (.seq (.seq (.reg c37_r3) (.cond (.t 36) (.seq (.reg c37_r4) (.ret)) (.skip))) (.seq (.reg c37_r5) (.ret))))
abbrev F37 : FnA := ⟨47, c37, [.t 8]⟩
theorem ok37 : cFn Try.prog 37 = some F37 := by kernel_rfl
theorem hb37 : HasBody Try.prog 37 := ⟨_, Try.func37, by kernel_rfl, by kernel_rfl⟩
/-! ref12.Break -/
abbrev c38_r1 : List Ins := [
  ⟨some 4, none, .box (.t 0)⟩,
  ⟨some 8, none, .mov (.c (.bool false))⟩]
abbrev c38_r2 : List Ins := [
  ⟨some 10, none, .faddr 0 (.t 4)⟩,
  ⟨some 11, none, .load 1 false (.t 10)⟩,
  ⟨some 12, none, .len (.t 11)⟩,
  ⟨some 9, none, .mov (.t 12)⟩]
abbrev c38_r3 : List Ins := [
  ⟨some 13, none, .mov (.t 1)⟩,
  ⟨some 14, none, .bin .geq (.t 13) (.c (.int .i64 0))⟩,
  ⟨some 15, none, .mov (.t 14)⟩,
  ⟨some 16, some (15, true), .mov (.t 1)⟩,
  ⟨some 17, some (15, true), .mov (.t 9)⟩,
  ⟨some 18, some (15, true), .bin .lss (.t 16) (.t 17)⟩,
  ⟨some 19, none, .pick (.t 15) (.t 18) (.c (.bool false))⟩,
  ⟨some 20, none, .mov (.t 19)⟩,
  ⟨some 21, some (20, true), .mov (.t 1)⟩,
  ⟨some 22, some (20, true), .bin .lss (.t 21) (.c (.int .i64 4))⟩,
  ⟨some 23, none, .pick (.t 20) (.t 22) (.c (.bool false))⟩,
  ⟨some 24, none, .mov (.t 23)⟩,
  ⟨some 25, some (24, true), .mov (.t 2)⟩,
  ⟨some 26, some (24, true), .bin .geq (.t 25) (.c (.int .i64 0))⟩,
  ⟨some 27, none, .pick (.t 24) (.t 26) (.c (.bool false))⟩,
  ⟨some 28, none, .mov (.t 27)⟩,
  ⟨some 29, some (28, true), .mov (.t 2)⟩,
  ⟨some 30, some (28, true), .mov (.t 9)⟩,
  ⟨some 31, some (28, true), .bin .lss (.t 29) (.t 30)⟩,
  ⟨some 32, none, .pick (.t 28) (.t 31) (.c (.bool false))⟩,
  ⟨some 33, none, .mov (.t 32)⟩,
  ⟨some 34, some (33, true), .mov (.t 2)⟩,
  ⟨some 35, some (33, true), .bin .lss (.t 34) (.c (.int .i64 4))⟩,
  ⟨some 36, none, .pick (.t 33) (.t 35) (.c (.bool false))⟩,
  ⟨some 37, none, .mov (.t 36)⟩,
  ⟨some 38, some (37, true), .mov (.t 3)⟩,
  ⟨some 39, some (37, true), .bin .geq (.t 38) (.c (.int .i64 0))⟩,
  ⟨some 40, none, .pick (.t 37) (.t 39) (.c (.bool false))⟩,
  ⟨some 41, none, .mov (.t 40)⟩,
  ⟨some 42, some (41, true), .mov (.t 3)⟩,
  ⟨some 43, some (41, true), .bin .add (.t 42) (.c (.int .i64 1))⟩,
  ⟨some 44, some (41, true), .faddr 0 (.t 4)⟩,
  ⟨some 45, some (41, true), .load 1 false (.t 44)⟩,
  ⟨some 46, some (41, true), .mov (.t 1)⟩,
  ⟨some 47, some (41, true), .iaddr 5 (.t 45) (.t 46)⟩,
  ⟨some 48, some (41, true), .faddr 2 (.t 47)⟩,
  ⟨some 49, some (41, true), .load 1 false (.t 48)⟩,
  ⟨some 50, some (41, true), .len (.t 49)⟩,
  ⟨some 51, some (41, true), .bin .lss (.t 43) (.t 50)⟩,
  ⟨some 52, none, .pick (.t 41) (.t 51) (.c (.bool false))⟩,
  ⟨some 53, none, .mov (.t 52)⟩,
  ⟨some 54, some (53, true), .mov (.t 1)⟩,
  ⟨some 55, some (53, true), .mov (.t 2)⟩,
  ⟨some 56, some (53, true), .faddr 1 (.t 4)⟩,
  ⟨some 57, some (53, true), .iaddrA 4 4 (.t 56) (.t 54)⟩,
  ⟨some 58, some (53, true), .iaddrA 4 1 (.t 57) (.t 55)⟩,
  ⟨some 59, some (53, true), .load 1 false (.t 58)⟩,
  ⟨some 60, some (53, true), .mov (.t 3)⟩,
  ⟨some 61, some (53, true), .call (.c (.fn 79 [] [])) [.t 59, .t 60]⟩,
  ⟨some 62, none, .pick (.t 53) (.t 61) (.c (.bool false))⟩,
  ⟨some 8, none, .mov (.t 62)⟩]
abbrev c38 : IR := .seq (.reg c38_r1) (.seq (.reg c38_r2) (.seq (.reg c38_r3) (.ret)))
abbrev F38 : FnA := ⟨63, c38, [.t 8]⟩
theorem ok38 : cFn Try.prog 38 = some F38 := by kernel_rfl
theorem hb38 : HasBody Try.prog 38 := ⟨_, Try.func38, by kernel_rfl, by kernel_rfl⟩
/-! cat.May -/
abbrev c39_r1 : List Ins := [
  ⟨some 1, none, .box (.t 0)⟩,
  ⟨some 2, none, .mov (.c (.bool false))⟩]
abbrev c39_r2 : List Ins := [
  ⟨some 4, none, .faddr 0 (.t 1)⟩,
  ⟨some 5, none, .load 1 false (.t 4)⟩,
  ⟨some 6, none, .len (.t 5)⟩,
  ⟨some 3, none, .mov (.t 6)⟩]
abbrev c39_r3 : List Ins := [
  ⟨some 7, none, .mov (.t 3)⟩,
  ⟨some 8, none, .bin .lss (.t 7) (.c (.int .i64 1))⟩,
  ⟨some 9, none, .mov (.t 8)⟩,
  ⟨some 10, some (9, false), .mov (.t 3)⟩,
  ⟨some 11, some (9, false), .bin .gtr (.t 10) (.c (.int .i64 4))⟩,
  ⟨some 12, none, .pick (.t 9) (.c (.bool true)) (.t 11)⟩,
  ⟨some 13, none, .mov (.t 12)⟩,
  ⟨some 14, some (13, false), .faddr 0 (.t 1)⟩,
  ⟨some 15, some (13, false), .load 1 false (.t 14)⟩,
  ⟨some 16, some (13, false), .call (.c (.fn 80 [] [])) [.t 15]⟩,
  ⟨some 17, some (13, false), .un .not (.t 16)⟩,
  ⟨some 18, none, .pick (.t 13) (.c (.bool true)) (.t 17)⟩]
abbrev c39_r4 : List Ins := [
  ⟨some 2, none, .mov (.c (.bool false))⟩]
abbrev c39_r5 : List Ins := [
  ⟨some 19, none, .faddr 1 (.t 1)⟩,
  ⟨some 20, none, .load 16 true (.t 19)⟩,
  ⟨some 21, none, .load 17 true (.t 1)⟩,
  ⟨some 22, none, .mkfn 81 [] [.t 1]⟩,
  ⟨some 23, none, .call (.c (.fn 64 [] [])) [.t 21, .t 22]⟩,
  ⟨some 24, none, .eq [.i, .i, .i, .i, .i, .i, .i, .i, .i, .i, .i, .i, .i, .i, .i, .i] true false (.t 20) (.t 23)⟩,
  ⟨some 2, none, .mov (.t 24)⟩]
def c39_a5 : List (List Nat) := [[], [0], [], [], [2, 3], [1, 4], [5, 4, 0, 1, 2, 3, 4, 5]]
abbrev c39_m5 : List Am.Mark := [⟨false, 0, 1⟩, ⟨false, 0, 1⟩, ⟨false, 0, 0⟩, ⟨false, 0, 0⟩, ⟨true, 0, 1⟩, ⟨false, 1, 1⟩, ⟨false, 1, 1⟩]
theorem c39_d5 : drawFine c39_r5 c39_a5 c39_m5 = true := by decide +kernel
abbrev c39 : IR := .seq (.reg c39_r1) (.seq (.reg c39_r2) (.seq (.seq (.reg c39_r3) (.cond (.t 18) (.seq (.reg c39_r4) (.ret)) (.skip))) (.seq (.dreg c39_r5 c39_a5) (.ret))))
abbrev F39 : FnA := ⟨25, c39, [.t 2]⟩
theorem ok39 : cFn Try.prog 39 = some F39 := by kernel_rfl
theorem hb39 : HasBody Try.prog 39 := ⟨_, Try.func39, by kernel_rfl, by kernel_rfl⟩
/-! ref14.In -/
abbrev c46_r1 : List Ins := [
  ⟨some 5, none, .box (.t 0)⟩,
  ⟨some 10, none, .mov (.c (.bool false))⟩]
abbrev c46_r2 : List Ins := [
  ⟨some 13, none, .mov (.t 1)⟩,
  ⟨some 14, none, .mov (.t 2)⟩,
  ⟨some 15, none, .iaddr 6 (.t 13) (.t 14)⟩,
  ⟨some 16, none, .load 6 true (.t 15)⟩,
  ⟨some 17, none, .mov (.t 1)⟩,
  ⟨some 18, none, .mov (.t 3)⟩,
  ⟨some 19, none, .iaddr 6 (.t 17) (.t 18)⟩,
  ⟨some 20, none, .load 6 true (.t 19)⟩,
  ⟨some 11, none, .alloc [.int .i64 0, .int .i64 0, .int .i64 0, .bool false, .sl .full [], .sl .full []]⟩,
  ⟨some 12, none, .alloc [.int .i64 0, .int .i64 0, .int .i64 0, .bool false, .sl .full [], .sl .full []]⟩,
  ⟨none, none, .store 6 (.t 11) (.t 16)⟩,
  ⟨none, none, .store 6 (.t 12) (.t 20)⟩]
def c46_a2 : List (List Nat) := [[], [], [0, 1], [2], [], [], [4, 5], [6], [], [], [8, 3, 0, 1, 2, 3, 8, 9], [9, 7, 10, 0, 1, 2, 3, 4, 5, 6, 7, 8, 9, 10]]
abbrev c46_m2 : List Am.Mark := [⟨false, 0, 2⟩, ⟨false, 0, 2⟩, ⟨false, 0, 2⟩, ⟨false, 0, 2⟩, ⟨false, 0, 3⟩, ⟨false, 0, 3⟩, ⟨false, 0, 3⟩, ⟨false, 0, 3⟩, ⟨true, 0, 2⟩, ⟨true, 0, 2⟩, ⟨true, 2, 3⟩, ⟨true, 3, 4⟩]
abbrev c46_r3 : List Ins := [
  ⟨some 21, none, .mov (.t 2)⟩,
  ⟨some 22, none, .mov (.t 3)⟩,
  ⟨some 23, none, .bin .eql (.t 21) (.t 22)⟩]
abbrev c46_r4 : List Ins := [
  ⟨some 10, none, .mov (.c (.bool true))⟩]
abbrev c46_r5 : List Ins := [
  ⟨some 24, none, .faddr 0 (.t 11)⟩,
  ⟨some 25, none, .load 1 false (.t 24)⟩,
  ⟨some 26, none, .faddr 0 (.t 12)⟩,
  ⟨some 27, none, .load 1 false (.t 26)⟩,
  ⟨some 28, none, .bin .eql (.t 25) (.t 27)⟩,
  ⟨some 29, none, .mov (.t 28)⟩,
  ⟨some 30, some (29, true), .faddr 3 (.t 11)⟩,
  ⟨some 31, some (29, true), .load 1 false (.t 30)⟩,
  ⟨some 32, some (29, true), .un .not (.t 31)⟩,
  ⟨some 33, none, .pick (.t 29) (.t 32) (.c (.bool false))⟩,
  ⟨some 34, none, .mov (.t 33)⟩,
  ⟨some 35, some (34, true), .faddr 3 (.t 12)⟩,
  ⟨some 36, some (34, true), .load 1 false (.t 35)⟩,
  ⟨some 37, some (34, true), .un .not (.t 36)⟩,
  ⟨some 38, none, .pick (.t 34) (.t 37) (.c (.bool false))⟩,
  ⟨some 39, none, .mov (.t 38)⟩,
  ⟨some 40, some (39, true), .load 17 true (.t 5)⟩,
  ⟨some 41, some (39, true), .faddr 1 (.t 11)⟩,
  ⟨some 42, some (39, true), .load 1 false (.t 41)⟩,
  ⟨some 43, some (39, true), .mov (.t 4)⟩,
  ⟨some 44, some (39, true), .faddr 2 (.t 11)⟩,
  ⟨some 45, some (39, true), .load 1 false (.t 44)⟩,
  ⟨some 46, some (39, true), .call (.c (.fn 73 [] [])) [.t 40, .t 42, .t 43, .t 45]⟩,
  ⟨some 47, some (39, true), .load 17 true (.t 5)⟩,
  ⟨some 48, some (39, true), .faddr 1 (.t 11)⟩,
  ⟨some 49, some (39, true), .load 1 false (.t 48)⟩,
  ⟨some 50, some (39, true), .mov (.t 4)⟩,
  ⟨some 51, some (39, true), .faddr 2 (.t 12)⟩,
  ⟨some 52, some (39, true), .load 1 false (.t 51)⟩,
  ⟨some 53, some (39, true), .call (.c (.fn 73 [] [])) [.t 47, .t 49, .t 50, .t 52]⟩,
  ⟨some 54, some (39, true), .bin .eql (.t 46) (.t 53)⟩,
  ⟨some 55, none, .pick (.t 39) (.t 54) (.c (.bool false))⟩,
  ⟨some 10, none, .mov (.t 55)⟩]
def c46_a5 : List (List Nat) := [[], [0], [], [2], [1, 3], [4], [5], [6, 5], [7, 5], [5, 8], [9, 5], [10], [11, 10], [12, 10], [10, 13], [14, 10], [15], [15], [17, 15], [15], [15], [20, 15], [16, 18, 19, 21, 15, 15], [15], [15], [24, 15], [15], [15], [27, 15], [23, 25, 26, 28, 22, 15], [22, 29, 15], [15, 30], [31, 29, 0, 1, 2, 3, 4, 5, 6, 7, 8, 9, 10, 11, 12, 13, 14, 15, 16, 17, 18, 19, 20, 21, 22, 23, 24, 25, 26, 27, 28, 29, 30, 31]]
abbrev c46_m5 : List Am.Mark := [⟨false, 0, 0⟩, ⟨false, 0, 0⟩, ⟨false, 0, 0⟩, ⟨false, 0, 0⟩, ⟨false, 0, 0⟩, ⟨false, 0, 0⟩, ⟨false, 0, 0⟩, ⟨false, 0, 0⟩, ⟨false, 0, 0⟩, ⟨false, 0, 0⟩, ⟨false, 0, 0⟩, ⟨false, 0, 0⟩, ⟨false, 0, 0⟩, ⟨false, 0, 0⟩, ⟨false, 0, 0⟩, ⟨false, 0, 0⟩, ⟨false, 0, 0⟩, ⟨false, 0, 0⟩, ⟨false, 0, 0⟩, ⟨false, 0, 0⟩, ⟨false, 0, 0⟩, ⟨false, 0, 0⟩, ⟨false, 0, 0⟩, ⟨false, 0, 0⟩, ⟨false, 0, 0⟩, ⟨false, 0, 0⟩, ⟨false, 0, 0⟩, ⟨false, 0, 0⟩, ⟨false, 0, 0⟩, ⟨false, 0, 0⟩, ⟨false, 0, 0⟩, ⟨false, 0, 0⟩, ⟨false, 0, 0⟩]
theorem c46_d5 : drawFine c46_r5 c46_a5 c46_m5 = true := by decide +kernel
abbrev c46 : IR := .seq (.reg c46_r1) (.seq (.dreg c46_r2 c46_a2) (.seq (.seq (.reg c46_r3) (.cond (.t 23) (.seq (.reg c46_r4) (.ret)) (.skip))) (.seq (.dreg c46_r5 c46_a5) (.ret))))
abbrev F46 : FnA := ⟨56, c46, [.t 10]⟩
theorem ok46 : cFn Try.prog 46 = some F46 := by kernel_rfl
theorem hb46 : HasBody Try.prog 46 := ⟨_, Try.func46, by kernel_rfl, by kernel_rfl⟩
/-! units.First -/
abbrev c47_r1 : List Ins := [
  ⟨some 4, none, .box (.t 0)⟩,
  ⟨some 8, none, .mov (.c (.int .i64 0))⟩]
abbrev c47_r2 : List Ins := [
  ⟨some 12, none, .load 17 true (.t 4)⟩,
  ⟨some 13, none, .mov (.t 1)⟩,
  ⟨some 14, none, .mov (.t 2)⟩,
  ⟨some 15, none, .mov (.t 3)⟩,
  ⟨some 16, none, .call (.c (.fn 90 [] [])) [.t 12, .t 13, .t 14, .t 15]⟩,
  ⟨some 11, none, .mov (.t 16)⟩,
  ⟨some 17, none, .ext (.t 11) 0⟩,
  ⟨some 18, none, .ext (.t 11) 1⟩,
  ⟨some 9, none, .mov (.t 17)⟩,
  ⟨some 10, none, .mov (.t 18)⟩]
abbrev c47_r3 : List Ins := [
  ⟨some 19, none, .mov (.t 10)⟩,
  ⟨some 20, none, .un .not (.t 19)⟩]
abbrev c47_r4 : List Ins := [
  ⟨some 8, none, .mov (.c (.int .i64 (-1)))⟩]
abbrev c47_r5 : List Ins := [
  ⟨some 21, none, .mov (.t 1)⟩,
  ⟨some 22, none, .mov (.t 9)⟩,
  ⟨some 23, none, .call (.c (.fn 91 [] [])) [.t 21, .t 22]⟩,
  ⟨some 8, none, .mov (.t 23)⟩]
abbrev c47 : IR := .seq (.reg c47_r1) (.seq (.reg c47_r2) (.seq (.seq (.reg c47_r3) (.cond (.t 20) (.seq (.reg c47_r4) (.ret)) (.skip))) (.seq (.reg c47_r5) (.ret))))
abbrev F47 : FnA := ⟨24, c47, [.t 8]⟩
theorem ok47 : cFn Try.prog 47 = some F47 := by kernel_rfl
theorem hb47 : HasBody Try.prog 47 := ⟨_, Try.func47, by kernel_rfl, by kernel_rfl⟩
/-! units.Last -/
abbrev c48_r1 : List Ins := [
  ⟨some 4, none, .box (.t 0)⟩,
  ⟨some 8, none, .alloc [.int .i64 0]⟩]
abbrev c48_r2 : List Ins := [
  ⟨some 14, none, .load 17 true (.t 4)⟩,
  ⟨some 15, none, .mov (.t 1)⟩,
  ⟨some 16, none, .mov (.t 2)⟩,
  ⟨some 17, none, .mov (.t 3)⟩,
  ⟨some 18, none, .call (.c (.fn 90 [] [])) [.t 14, .t 15, .t 16, .t 17]⟩,
  ⟨some 13, none, .mov (.t 18)⟩,
  ⟨some 19, none, .ext (.t 13) 0⟩,
  ⟨some 20, none, .ext (.t 13) 1⟩,
  ⟨some 9, none, .alloc [.nilfn]⟩,
  ⟨none, none, .store 1 (.t 9) (.t 19)⟩,
  ⟨some 10, none, .mov (.t 20)⟩]
abbrev c48_r3 : List Ins := [
  ⟨some 21, none, .mov (.t 10)⟩,
  ⟨some 22, none, .un .not (.t 21)⟩]
abbrev c48_r4 : List Ins := [
  ⟨none, none, .store 1 (.t 8) (.c (.int .i64 (-1)))⟩]
abbrev c48_r5 : List Ins := [
  ⟨some 23, none, .mov (.t 1)⟩,
  ⟨some 24, none, .call (.c (.fn 92 [] [])) [.t 23]⟩]
abbrev c48_r6 : List Ins := [
  ⟨some 11, none, .mov (.t 25)⟩]
abbrev c48_r7 : List Ins := [
  ⟨some 12, none, .alloc [.int .i64 0, .int .i64 0, .int .i64 0, .bool false, .sl .full [], .sl .full []]⟩,
  ⟨none, none, .store 6 (.t 12) (.t 26)⟩]
abbrev c48_r8 : List Ins := [
  ⟨some 27, none, .load 1 false (.t 9)⟩,
  ⟨some 28, none, .load 6 true (.t 12)⟩,
  ⟨some 29, none, .call (.t 27) [.t 28]⟩]
abbrev c48_r9 : List Ins := [
  ⟨some 30, none, .mov (.t 11)⟩,
  ⟨none, none, .store 1 (.t 8) (.t 30)⟩]
abbrev c48_x10 : IR := .seq (.reg c48_r6) (.reg c48_r7)
abbrev c48_y11 : IR := .blk 1 (.seq (.reg c48_r8) (.cond (.t 29) (.seq (.reg c48_r9) (.ret)) (.skip)))
abbrev c48_r12 : List Ins := [
  ⟨none, none, .store 1 (.t 8) (.c (.int .i64 (-1)))⟩]
abbrev c48 : IR := .seq (.reg c48_r1) (.seq (.reg c48_r2) (.seq (.seq (.reg c48_r3) (.cond (.t 22) (.seq (.reg c48_r4) (.ret)) (.skip))) (.seq (.seq (.reg c48_r5) (.blk 0 (.rngf (.t 24) [25, 26] c48_x10 c48_y11))) (.seq (.reg c48_r12) (.ret)))))
abbrev F48 : FnA := ⟨31, c48, [.cell 8 1 false]⟩
theorem ok48 : cFn Try.prog 48 = some F48 := by kernel_rfl
theorem hb48 : HasBody Try.prog 48 := ⟨_, Try.func48, by kernel_rfl, by kernel_rfl⟩
/-! ref11.May -/
abbrev c49_r1 : List Ins := [
  ⟨some 1, none, .box (.t 0)⟩,
  ⟨some 2, none, .mov (.c (.bool false))⟩]
abbrev c49_r2 : List Ins := [
  ⟨some 7, none, .faddr 2 (.t 1)⟩,
  ⟨some 8, none, .load 1 false (.t 7)⟩,
  ⟨some 9, none, .len (.t 8)⟩,
  ⟨some 3, none, .mov (.t 9)⟩]
abbrev c49_r3 : List Ins := [
  ⟨some 10, none, .faddr 0 (.t 1)⟩,
  ⟨some 11, none, .load 1 false (.t 10)⟩,
  ⟨some 12, none, .lenS (.t 11)⟩,
  ⟨some 13, none, .bin .lss (.t 12) (.c (.int .i64 1))⟩,
  ⟨some 14, none, .mov (.t 13)⟩,
  ⟨some 15, some (14, false), .faddr 0 (.t 1)⟩,
  ⟨some 16, some (14, false), .load 1 false (.t 15)⟩,
  ⟨some 17, some (14, false), .lenS (.t 16)⟩,
  ⟨some 18, some (14, false), .bin .gtr (.t 17) (.c (.int .i64 16))⟩,
  ⟨some 19, none, .pick (.t 14) (.c (.bool true)) (.t 18)⟩,
  ⟨some 20, none, .mov (.t 19)⟩,
  ⟨some 21, some (20, false), .faddr 1 (.t 1)⟩,
  ⟨some 22, some (20, false), .load 1 false (.t 21)⟩,
  ⟨some 23, some (20, false), .bin .lss (.t 22) (.c (.int .i64 0))⟩,
  ⟨some 24, none, .pick (.t 20) (.c (.bool true)) (.t 23)⟩,
  ⟨some 25, none, .mov (.t 24)⟩,
  ⟨some 26, some (25, false), .faddr 1 (.t 1)⟩,
  ⟨some 27, some (25, false), .load 1 false (.t 26)⟩,
  ⟨some 28, some (25, false), .bin .gtr (.t 27) (.c (.int .i64 3))⟩,
  ⟨some 29, none, .pick (.t 25) (.c (.bool true)) (.t 28)⟩,
  ⟨some 30, none, .mov (.t 29)⟩,
  ⟨some 31, some (30, false), .mov (.t 3)⟩,
  ⟨some 32, some (30, false), .bin .lss (.t 31) (.c (.int .i64 1))⟩,
  ⟨some 33, none, .pick (.t 30) (.c (.bool true)) (.t 32)⟩,
  ⟨some 34, none, .mov (.t 33)⟩,
  ⟨some 35, some (34, false), .mov (.t 3)⟩,
  ⟨some 36, some (34, false), .bin .gtr (.t 35) (.c (.int .i64 4))⟩,
  ⟨some 37, none, .pick (.t 34) (.c (.bool true)) (.t 36)⟩,
  ⟨some 38, none, .mov (.t 37)⟩,
  ⟨some 39, some (38, false), .faddr 3 (.t 1)⟩,
  ⟨some 40, some (38, false), .load 1 false (.t 39)⟩,
  ⟨some 41, some (38, false), .len (.t 40)⟩,
  ⟨some 42, some (38, false), .mov (.t 3)⟩,
  ⟨some 43, some (38, false), .bin .neq (.t 41) (.t 42)⟩,
  ⟨some 44, none, .pick (.t 38) (.c (.bool true)) (.t 43)⟩]
abbrev c49_r4 : List Ins := [
  ⟨some 2, none, .mov (.c (.bool false))⟩]
abbrev c49_r5 : List Ins := [
  ⟨some 4, none, .mov (.c (.int .i64 0))⟩]
abbrev c49_r6 : List Ins := [
  ⟨some 45, none, .mov (.t 4)⟩,
  ⟨some 46, none, .mov (.t 3)⟩,
  ⟨some 47, none, .bin .lss (.t 45) (.t 46)⟩]
abbrev c49_r7 : List Ins := [
  ⟨some 50, none, .faddr 2 (.t 1)⟩,
  ⟨some 51, none, .load 1 false (.t 50)⟩,
  ⟨some 52, none, .mov (.t 4)⟩,
  ⟨some 53, none, .iaddr 2 (.t 51) (.t 52)⟩,
  ⟨some 54, none, .faddr 0 (.t 53)⟩,
  ⟨some 55, none, .load 1 false (.t 54)⟩,
  ⟨some 56, none, .faddr 1 (.t 1)⟩,
  ⟨some 57, none, .load 1 false (.t 56)⟩,
  ⟨some 58, none, .call (.c (.fn 93 [] [])) [.t 55, .t 57]⟩,
  ⟨some 59, none, .un .not (.t 58)⟩,
  ⟨some 60, none, .mov (.t 59)⟩,
  ⟨some 61, some (60, false), .faddr 2 (.t 1)⟩,
  ⟨some 62, some (60, false), .load 1 false (.t 61)⟩,
  ⟨some 63, some (60, false), .mov (.t 4)⟩,
  ⟨some 64, some (60, false), .iaddr 2 (.t 62) (.t 63)⟩,
  ⟨some 65, some (60, false), .faddr 1 (.t 64)⟩,
  ⟨some 66, some (60, false), .load 1 false (.t 65)⟩,
  ⟨some 67, some (60, false), .faddr 1 (.t 1)⟩,
  ⟨some 68, some (60, false), .load 1 false (.t 67)⟩,
  ⟨some 69, some (60, false), .call (.c (.fn 94 [] [])) [.t 66, .t 68]⟩,
  ⟨some 70, some (60, false), .un .not (.t 69)⟩,
  ⟨some 71, none, .pick (.t 60) (.c (.bool true)) (.t 70)⟩,
  ⟨some 72, none, .mov (.t 71)⟩,
  ⟨some 73, some (72, false), .faddr 3 (.t 1)⟩,
  ⟨some 74, some (72, false), .load 1 false (.t 73)⟩,
  ⟨some 75, some (72, false), .mov (.t 4)⟩,
  ⟨some 76, some (72, false), .iaddr 2 (.t 74) (.t 75)⟩,
  ⟨some 77, some (72, false), .faddr 1 (.t 76)⟩,
  ⟨some 78, some (72, false), .load 1 false (.t 77)⟩,
  ⟨some 79, some (72, false), .faddr 1 (.t 1)⟩,
  ⟨some 80, some (72, false), .load 1 false (.t 79)⟩,
  ⟨some 81, some (72, false), .call (.c (.fn 94 [] [])) [.t 78, .t 80]⟩,
  ⟨some 82, some (72, false), .un .not (.t 81)⟩,
  ⟨some 83, none, .pick (.t 72) (.c (.bool true)) (.t 82)⟩]
def c49_a7 : List (List Nat) := [[], [0], [], [1, 2], [3], [4], [], [6], [5, 7], [8], [9, 8], [10], [11, 10], [10], [12, 13, 10], [14, 10], [15, 10], [10], [17, 10], [16, 18, 10, 10], [19, 10], [10, 20], [21, 19], [22], [23, 22], [22], [24, 25, 22], [26, 22], [27, 22], [22], [29, 22], [28, 30, 22, 22], [31, 22], [22, 32]]
abbrev c49_m7 : List Am.Mark := [⟨false, 0, 0⟩, ⟨false, 0, 0⟩, ⟨false, 0, 0⟩, ⟨false, 0, 0⟩, ⟨false, 0, 0⟩, ⟨false, 0, 0⟩, ⟨false, 0, 0⟩, ⟨false, 0, 0⟩, ⟨false, 0, 0⟩, ⟨false, 0, 0⟩, ⟨false, 0, 0⟩, ⟨false, 0, 0⟩, ⟨false, 0, 0⟩, ⟨false, 0, 0⟩, ⟨false, 0, 0⟩, ⟨false, 0, 0⟩, ⟨false, 0, 0⟩, ⟨false, 0, 0⟩, ⟨false, 0, 0⟩, ⟨false, 0, 0⟩, ⟨false, 0, 0⟩, ⟨false, 0, 0⟩, ⟨false, 0, 0⟩, ⟨false, 0, 0⟩, ⟨false, 0, 0⟩, ⟨false, 0, 0⟩, ⟨false, 0, 0⟩, ⟨false, 0, 0⟩, ⟨false, 0, 0⟩, ⟨false, 0, 0⟩, ⟨false, 0, 0⟩, ⟨false, 0, 0⟩, ⟨false, 0, 0⟩, ⟨false, 0, 0⟩]
theorem c49_d7 : drawFine c49_r7 c49_a7 c49_m7 = true := by decide +kernel
abbrev c49_r8 : List Ins := [
  ⟨some 2, none, .mov (.c (.bool false))⟩]
abbrev c49_r9 : List Ins := [
  ⟨some 84, none, .faddr 3 (.t 1)⟩,
  ⟨some 85, none, .load 1 false (.t 84)⟩,
  ⟨some 86, none, .mov (.t 4)⟩,
  ⟨some 87, none, .iaddr 2 (.t 85) (.t 86)⟩,
  ⟨some 88, none, .faddr 0 (.t 87)⟩,
  ⟨some 89, none, .load 1 false (.t 88)⟩,
  ⟨some 5, none, .mov (.t 89)⟩]
abbrev c49_r10 : List Ins := [
  ⟨some 90, none, .mov (.t 5)⟩,
  ⟨some 91, none, .len (.t 90)⟩,
  ⟨some 92, none, .bin .gtr (.t 91) (.c (.int .i64 0))⟩,
  ⟨some 93, none, .mov (.t 92)⟩,
  ⟨some 94, some (93, true), .mov (.t 5)⟩,
  ⟨some 95, some (93, true), .faddr 1 (.t 1)⟩,
  ⟨some 96, some (93, true), .load 1 false (.t 95)⟩,
  ⟨some 97, some (93, true), .call (.c (.fn 93 [] [])) [.t 94, .t 96]⟩,
  ⟨some 98, some (93, true), .un .not (.t 97)⟩,
  ⟨some 99, none, .pick (.t 93) (.t 98) (.c (.bool false))⟩]
abbrev c49_r11 : List Ins := [
  ⟨some 2, none, .mov (.c (.bool false))⟩]
abbrev c49_r12 : List Ins := [
  ⟨some 6, none, .mov (.c (.int .i64 0))⟩]
abbrev c49_r13 : List Ins := [
  ⟨some 100, none, .mov (.t 6)⟩,
  ⟨some 101, none, .mov (.t 5)⟩,
  ⟨some 102, none, .len (.t 101)⟩,
  ⟨some 103, none, .bin .lss (.t 100) (.t 102)⟩]
abbrev c49_r14 : List Ins := [
  ⟨some 106, none, .mov (.t 5)⟩,
  ⟨some 107, none, .mov (.t 6)⟩,
  ⟨some 108, none, .iaddr 9 (.t 106) (.t 107)⟩,
  ⟨some 109, none, .faddr 0 (.t 108)⟩,
  ⟨some 110, none, .load 1 false (.t 109)⟩,
  ⟨some 111, none, .bin .geq (.t 110) (.c (.int .i64 6))⟩]
abbrev c49_r15 : List Ins := [
  ⟨some 2, none, .mov (.c (.bool false))⟩]
abbrev c49_r16 : List Ins := [
  ⟨some 104, none, .mov (.t 6)⟩,
  ⟨some 105, none, .bin .add (.t 104) (.c (.int .i64 1))⟩,
  ⟨some 6, none, .mov (.t 105)⟩]
abbrev c49_l17 : IR := .seq (.seq (.reg c49_r13) (.cond (.t 103) (.skip) (.exit 2))) (.seq (.blk 3 (.seq (.reg c49_r14) (.cond (.t 111) (.seq (.reg c49_r15) (.ret)) (.skip)))) (.reg c49_r16))
abbrev c49_r18 : List Ins := [
  ⟨some 48, none, .mov (.t 4)⟩,
  ⟨some 49, none, .bin .add (.t 48) (.c (.int .i64 1))⟩,
  ⟨some 4, none, .mov (.t 49)⟩]
abbrev c49_l19 : IR := .seq (.seq (.reg c49_r6) (.cond (.t 47) (.skip) (.exit 0))) (.seq (.blk 1 (.seq (.seq (.dreg c49_r7 c49_a7) (.cond (.t 83) (.seq (.reg c49_r8) (.ret)) (.skip))) (.seq (.reg c49_r9) (.seq (.seq (.reg c49_r10) (.cond (.t 99) (.seq (.reg c49_r11) (.ret)) (.skip))) (.seq (.reg c49_r12) (.blk 2 (.loop c49_l17))))))) (.reg c49_r18))
abbrev c49_r20 : List Ins := [
  ⟨some 2, none, .mov (.c (.bool true))⟩]
abbrev c49 : IR := .seq (.reg c49_r1) (.seq (.reg c49_r2) (.seq (.seq (.reg c49_r3) (.cond (.t 44) (.seq (.reg c49_r4) (.ret)) (.skip))) (.seq (.seq (.reg c49_r5) (.blk 0 (.loop c49_l19))) (.seq (.reg c49_r20) (.ret)))))
abbrev F49 : FnA := ⟨112, c49, [.t 2]⟩
theorem ok49 : cFn Try.prog 49 = some F49 := by kernel_rfl
theorem hb49 : HasBody Try.prog 49 := ⟨_, Try.func49, by kernel_rfl, by kernel_rfl⟩
/-! codes.Writer.Signed -/
abbrev c54_r1 : List Ins := [
  ⟨some 4, none, .mov (.t 0)⟩,
  ⟨some 5, none, .mov (.t 1)⟩,
  ⟨some 6, none, .bin .shl (.t 5) (.c (.int .u64 1))⟩,
  ⟨some 7, none, .conv .u64 (.t 6)⟩,
  ⟨some 8, none, .mov (.t 1)⟩,
  ⟨some 9, none, .bin .shr (.t 8) (.c (.int .u64 63))⟩,
  ⟨some 10, none, .conv .u64 (.t 9)⟩,
  ⟨some 11, none, .bin .xor (.t 7) (.t 10)⟩,
  ⟨some 12, none, .bsl 1 1 [.int .u64 0] [(0, .t 11)]⟩,
  ⟨some 13, none, .call (.c (.fn 101 [] [])) [.t 4, .t 12]⟩]
abbrev c54 : IR := .reg c54_r1
abbrev F54 : FnA := ⟨14, c54, []⟩
theorem ok54 : cFn Try.prog 54 = some F54 := by kernel_rfl
theorem hb54 : HasBody Try.prog 54 := ⟨_, Try.func54, by kernel_rfl, by kernel_rfl⟩
/-! codes.Writer.Text -/
abbrev c55_r1 : List Ins := [
  ⟨some 4, none, .mov (.t 1)⟩,
  ⟨some 5, none, .mov (.t 1)⟩,
  ⟨some 6, none, .lenS (.t 5)⟩,
  ⟨some 7, none, .mn [.t 6, .c (.int .i64 64)]⟩,
  ⟨some 8, none, .sliceS (.t 4) none (some (.t 7))⟩,
  ⟨some 1, none, .mov (.t 8)⟩]
abbrev c55_r2 : List Ins := [
  ⟨some 9, none, .mov (.t 0)⟩,
  ⟨some 10, none, .mov (.t 1)⟩,
  ⟨some 11, none, .lenS (.t 10)⟩,
  ⟨some 12, none, .call (.c (.fn 56 [] [])) [.t 9, .t 11]⟩]
abbrev c55_r3 : List Ins := [
  ⟨some 13, none, .mov (.t 0)⟩,
  ⟨some 14, none, .mov (.t 1)⟩,
  ⟨some 15, none, .call (.c (.fn 102 [] [])) [.t 14]⟩,
  ⟨some 16, none, .call (.c (.fn 101 [] [])) [.t 13, .t 15]⟩]
abbrev c55 : IR := .seq (.reg c55_r1) (.seq (.reg c55_r2) (.reg c55_r3))
abbrev F55 : FnA := ⟨17, c55, []⟩
theorem ok55 : cFn Try.prog 55 = some F55 := by kernel_rfl
theorem hb55 : HasBody Try.prog 55 := ⟨_, Try.func55, by kernel_rfl, by kernel_rfl⟩
/-! codes.Writer.Count -/
abbrev c56_r1 : List Ins := [
  ⟨some 4, none, .mov (.t 0)⟩,
  ⟨some 5, none, .mov (.t 1)⟩,
  ⟨some 6, none, .mx [.t 5, .c (.int .i64 0)]⟩,
  ⟨some 7, none, .conv .u64 (.t 6)⟩,
  ⟨some 8, none, .bsl 1 1 [.int .u64 0] [(0, .t 7)]⟩,
  ⟨some 9, none, .call (.c (.fn 101 [] [])) [.t 4, .t 8]⟩]
abbrev c56 : IR := .reg c56_r1
abbrev F56 : FnA := ⟨10, c56, []⟩
theorem ok56 : cFn Try.prog 56 = some F56 := by kernel_rfl
theorem hb56 : HasBody Try.prog 56 := ⟨_, Try.func56, by kernel_rfl, by kernel_rfl⟩
/-! codes.Writer.Flag -/
abbrev c57_r1 : List Ins := [
  ⟨some 4, none, .mov (.t 1)⟩]
abbrev c57_r2 : List Ins := [
  ⟨some 5, none, .mov (.t 0)⟩,
  ⟨some 6, none, .bsl 1 1 [.int .u64 0] [(0, .c (.int .u64 1))]⟩,
  ⟨some 7, none, .call (.c (.fn 101 [] [])) [.t 5, .t 6]⟩]
abbrev c57_r3 : List Ins := [
  ⟨some 8, none, .mov (.t 0)⟩,
  ⟨some 9, none, .bsl 1 1 [.int .u64 0] [(0, .c (.int .u64 0))]⟩,
  ⟨some 10, none, .call (.c (.fn 101 [] [])) [.t 8, .t 9]⟩]
abbrev c57 : IR := .seq (.seq (.reg c57_r1) (.cond (.t 4) (.seq (.reg c57_r2) (.ret)) (.skip))) (.reg c57_r3)
abbrev F57 : FnA := ⟨11, c57, []⟩
theorem ok57 : cFn Try.prog 57 = some F57 := by kernel_rfl
theorem hb57 : HasBody Try.prog 57 := ⟨_, Try.func57, by kernel_rfl, by kernel_rfl⟩
/-! codes.Writer.Words -/
abbrev c58_r1 : List Ins := [
  ⟨some 4, none, .mov (.t 0)⟩,
  ⟨some 5, none, .mov (.t 1)⟩,
  ⟨some 6, none, .len (.t 5)⟩,
  ⟨some 7, none, .call (.c (.fn 56 [] [])) [.t 4, .t 6]⟩]
abbrev c58_r2 : List Ins := [
  ⟨some 8, none, .mov (.t 0)⟩,
  ⟨some 9, none, .mov (.t 1)⟩,
  ⟨some 10, none, .call (.c (.fn 101 [] [])) [.t 8, .t 9]⟩]
abbrev c58 : IR := .seq (.reg c58_r1) (.reg c58_r2)
abbrev F58 : FnA := ⟨11, c58, []⟩
theorem ok58 : cFn Try.prog 58 = some F58 := by kernel_rfl
theorem hb58 : HasBody Try.prog 58 := ⟨_, Try.func58, by kernel_rfl, by kernel_rfl⟩
/-! ref01.Signed -/
abbrev c59_r1 : List Ins := [
  ⟨some 2, none, .mov (.c (.int .u64 0))⟩]
abbrev c59_r2 : List Ins := [
  ⟨some 3, none, .mov (.t 0)⟩,
  ⟨some 4, none, .bin .geq (.t 3) (.c (.int .i64 0))⟩]
abbrev c59_r3 : List Ins := [
  ⟨some 5, none, .mov (.t 0)⟩,
  ⟨some 6, none, .conv .u64 (.t 5)⟩,
  ⟨some 7, none, .bin .mul (.c (.int .u64 2)) (.t 6)⟩,
  ⟨some 2, none, .mov (.t 7)⟩]
abbrev c59_r4 : List Ins := [
  ⟨some 8, none, .mov (.t 0)⟩,
  ⟨some 9, none, .bin .add (.t 8) (.c (.int .i64 1))⟩,
  ⟨some 10, none, .un .neg (.t 9)⟩,
  ⟨some 11, none, .conv .u64 (.t 10)⟩,
  ⟨some 12, none, .bin .mul (.c (.int .u64 2)) (.t 11)⟩,
  ⟨some 13, none, .bin .add (.t 12) (.c (.int .u64 1))⟩,
  ⟨some 2, none, .mov (.t 13)⟩]
abbrev c59 : IR := .seq (.reg c59_r1) (.seq (.seq (.reg c59_r2) (.cond (.t 4) (.seq (.reg c59_r3) (.ret)) (.skip))) (.seq (.reg c59_r4) (.ret)))
abbrev F59 : FnA := ⟨14, c59, [.t 2]⟩
theorem ok59 : cFn Try.prog 59 = some F59 := by kernel_rfl
theorem hb59 : HasBody Try.prog 59 := ⟨_, Try.func59, by kernel_rfl, by kernel_rfl⟩
/-! ref01.Packed -/
abbrev c60_r1 : List Ins := [
  ⟨some 2, none, .mov (.c (.sl .full []))⟩]
abbrev c60_r2 : List Ins := [
  ⟨some 3, none, .mov (.c (.sl .full []))⟩]
abbrev c60_r3 : List Ins := [
  ⟨some 4, none, .mov (.c (.int .i64 0))⟩]
abbrev c60_r4 : List Ins := [
  ⟨some 7, none, .mov (.t 4)⟩,
  ⟨some 8, none, .mov (.t 0)⟩,
  ⟨some 9, none, .lenS (.t 8)⟩,
  ⟨some 10, none, .bin .lss (.t 7) (.t 9)⟩]
abbrev c60_r5 : List Ins := [
  ⟨some 5, none, .mov (.c (.int .u64 0))⟩]
abbrev c60_r6 : List Ins := [
  ⟨some 6, none, .mov (.c (.int .i64 7))⟩]
abbrev c60_r7 : List Ins := [
  ⟨some 13, none, .mov (.t 6)⟩,
  ⟨some 14, none, .bin .geq (.t 13) (.c (.int .i64 0))⟩]
abbrev c60_r8 : List Ins := [
  ⟨some 17, none, .mov (.t 5)⟩,
  ⟨some 18, none, .bin .mul (.t 17) (.c (.int .u64 256))⟩,
  ⟨some 5, none, .mov (.t 18)⟩]
abbrev c60_r9 : List Ins := [
  ⟨some 19, none, .mov (.t 4)⟩,
  ⟨some 20, none, .mov (.t 6)⟩,
  ⟨some 21, none, .bin .add (.t 19) (.t 20)⟩,
  ⟨some 22, none, .mov (.t 0)⟩,
  ⟨some 23, none, .lenS (.t 22)⟩,
  ⟨some 24, none, .bin .lss (.t 21) (.t 23)⟩]
abbrev c60_r10 : List Ins := [
  ⟨some 25, none, .mov (.t 5)⟩,
  ⟨some 26, none, .mov (.t 0)⟩,
  ⟨some 27, none, .mov (.t 4)⟩,
  ⟨some 28, none, .mov (.t 6)⟩,
  ⟨some 29, none, .bin .add (.t 27) (.t 28)⟩,
  ⟨some 30, none, .idxS (.t 26) (.t 29)⟩,
  ⟨some 31, none, .conv .u64 (.t 30)⟩,
  ⟨some 32, none, .bin .add (.t 25) (.t 31)⟩,
  ⟨some 5, none, .mov (.t 32)⟩]
abbrev c60_r11 : List Ins := [
  ⟨some 15, none, .mov (.t 6)⟩,
  ⟨some 16, none, .bin .sub (.t 15) (.c (.int .i64 1))⟩,
  ⟨some 6, none, .mov (.t 16)⟩]
abbrev c60_l12 : IR := .seq (.seq (.reg c60_r7) (.cond (.t 14) (.skip) (.exit 2))) (.seq (.blk 3 (.seq (.reg c60_r8) (.seq (.reg c60_r9) (.cond (.t 24) (.reg c60_r10) (.skip))))) (.reg c60_r11))
abbrev c60_r13 : List Ins := [
  ⟨some 33, none, .mov (.t 3)⟩,
  ⟨some 34, none, .mov (.t 5)⟩,
  ⟨some 35, none, .bsl 1 1 [.int .u64 0] [(0, .t 34)]⟩,
  ⟨some 36, none, .append 1 8 (.t 33) (.t 35)⟩,
  ⟨some 3, none, .mov (.t 36)⟩]
abbrev c60_r14 : List Ins := [
  ⟨some 11, none, .mov (.t 4)⟩,
  ⟨some 12, none, .bin .add (.t 11) (.c (.int .i64 8))⟩,
  ⟨some 4, none, .mov (.t 12)⟩]
abbrev c60_l15 : IR := .seq (.seq (.reg c60_r4) (.cond (.t 10) (.skip) (.exit 0))) (.seq (.blk 1 (.seq (.reg c60_r5) (.seq (.seq (.reg c60_r6) (.blk 2 (.loop c60_l12))) (.reg c60_r13)))) (.reg c60_r14))
abbrev c60_r16 : List Ins := [
  ⟨some 37, none, .mov (.t 3)⟩,
  ⟨some 2, none, .mov (.t 37)⟩]
abbrev c60 : IR := .seq (.reg c60_r1) (.seq (.reg c60_r2) (.seq (.seq (.reg c60_r3) (.blk 0 (.loop c60_l15))) (.seq (.reg c60_r16) (.ret))))
abbrev F60 : FnA := ⟨38, c60, [.t 2]⟩
theorem ok60 : cFn Try.prog 60 = some F60 := by kernel_rfl
theorem hb60 : HasBody Try.prog 60 := ⟨_, Try.func60, by kernel_rfl, by kernel_rfl⟩
/-! slices.Clone:uint64 -/
abbrev c61_r1 : List Ins := [
  ⟨some 2, none, .mov (.c (.sl .full []))⟩]
abbrev c61_r2 : List Ins := [
  ⟨some 3, none, .mov (.t 0)⟩,
  ⟨some 4, none, .isnil false (.t 3)⟩]
abbrev c61_r3 : List Ins := [
  ⟨some 2, none, .mov (.c (.sl .full []))⟩]
abbrev c61_r4 : List Ins := [
  ⟨some 5, none, .bsl 1 0 [.int .u64 0] []⟩,
  ⟨some 6, none, .mov (.t 0)⟩,
  ⟨some 7, none, .append 1 8 (.t 5) (.t 6)⟩,
  ⟨some 2, none, .mov (.t 7)⟩]
abbrev c61 : IR := .seq (.reg c61_r1) (.seq (.seq (.reg c61_r2) (.cond (.t 4) (.seq (.reg c61_r3) (.ret)) (.skip))) (.seq (.reg c61_r4) (.ret)))
abbrev F61 : FnA := ⟨8, c61, [.t 2]⟩
theorem ok61 : cFn Try.prog 61 = some F61 := by kernel_rfl
theorem hb61 : HasBody Try.prog 61 := ⟨_, Try.func61, by kernel_rfl, by kernel_rfl⟩
/-! units.there -/
abbrev c62_r1 : List Ins := [
  ⟨some 2, none, .box (.t 0)⟩,
  ⟨some 4, none, .mov (.c (.bool false))⟩]
abbrev c62_r2 : List Ins := [
  ⟨some 5, none, .mov (.t 1)⟩,
  ⟨some 6, none, .bin .geq (.t 5) (.c (.int .i64 0))⟩,
  ⟨some 7, none, .mov (.t 6)⟩,
  ⟨some 8, some (7, true), .mov (.t 1)⟩,
  ⟨some 9, some (7, true), .faddr 0 (.t 2)⟩,
  ⟨some 10, some (7, true), .load 1 false (.t 9)⟩,
  ⟨some 11, some (7, true), .len (.t 10)⟩,
  ⟨some 12, some (7, true), .bin .lss (.t 8) (.t 11)⟩,
  ⟨some 13, none, .pick (.t 7) (.t 12) (.c (.bool false))⟩,
  ⟨some 14, none, .mov (.t 13)⟩,
  ⟨some 15, some (14, true), .mov (.t 1)⟩,
  ⟨some 16, some (14, true), .bin .lss (.t 15) (.c (.int .i64 4))⟩,
  ⟨some 17, none, .pick (.t 14) (.t 16) (.c (.bool false))⟩,
  ⟨some 4, none, .mov (.t 17)⟩]
abbrev c62 : IR := .seq (.reg c62_r1) (.seq (.reg c62_r2) (.ret))
abbrev F62 : FnA := ⟨18, c62, [.t 4]⟩
theorem ok62 : cFn Try.prog 62 = some F62 := by kernel_rfl
theorem hb62 : HasBody Try.prog 62 := ⟨_, Try.func62, by kernel_rfl, by kernel_rfl⟩
/-! cat.copied -/
abbrev c63_r1 : List Ins := [
  ⟨some 1, none, .box (.t 0)⟩,
  ⟨some 2, none, .alloc [.sl .full [], .int .i64 0, .int .i64 0, .int .i64 0, .int .i64 0, .int .i64 0, .int .i64 0, .int .i64 0, .int .i64 0, .int .i64 0, .int .i64 0, .int .i64 0, .int .i64 0, .int .i64 0, .int .i64 0, .int .i64 0, .int .i64 0]⟩]
abbrev c63_r2 : List Ins := [
  ⟨some 5, none, .faddr 0 (.t 1)⟩,
  ⟨some 6, none, .load 1 false (.t 5)⟩,
  ⟨some 7, none, .call (.c (.fn 103 [] [])) [.t 6]⟩,
  ⟨some 8, none, .faddr 0 (.t 1)⟩,
  ⟨none, none, .store 1 (.t 8) (.t 7)⟩]
abbrev c63_r3 : List Ins := [
  ⟨some 9, none, .faddr 0 (.t 1)⟩,
  ⟨some 10, none, .load 1 false (.t 9)⟩,
  ⟨some 11, none, .len (.t 10)⟩,
  ⟨some 12, none, .mov (.c (.int .i64 0))⟩]
abbrev c63_r4 : List Ins := [
  ⟨some 13, none, .bin .lss (.t 12) (.t 11)⟩]
abbrev c63_r5 : List Ins := [
  ⟨some 14, none, .mov (.t 12)⟩,
  ⟨some 15, none, .iaddr 5 (.t 10) (.t 12)⟩,
  ⟨some 16, none, .load 5 true (.t 15)⟩,
  ⟨some 4, none, .alloc [.str ⟨#[]⟩, .int .i64 0, .sl .full [], .sl .full [], .bool false]⟩,
  ⟨some 3, none, .mov (.t 14)⟩,
  ⟨none, none, .store 5 (.t 4) (.t 16)⟩]
abbrev c63_r6 : List Ins := [
  ⟨some 17, none, .faddr 0 (.t 1)⟩,
  ⟨some 18, none, .load 1 false (.t 17)⟩,
  ⟨some 19, none, .mov (.t 3)⟩,
  ⟨some 20, none, .faddr 0 (.t 1)⟩,
  ⟨some 21, none, .load 1 false (.t 20)⟩,
  ⟨some 22, none, .mov (.t 3)⟩,
  ⟨some 23, none, .faddr 2 (.t 4)⟩,
  ⟨some 24, none, .load 1 false (.t 23)⟩,
  ⟨some 25, none, .call (.c (.fn 104 [] [])) [.t 24]⟩,
  ⟨some 26, none, .faddr 3 (.t 4)⟩,
  ⟨some 27, none, .load 1 false (.t 26)⟩,
  ⟨some 28, none, .call (.c (.fn 104 [] [])) [.t 27]⟩,
  ⟨some 29, none, .iaddr 5 (.t 18) (.t 19)⟩,
  ⟨some 30, none, .faddr 2 (.t 29)⟩,
  ⟨none, none, .store 1 (.t 30) (.t 25)⟩,
  ⟨some 31, none, .iaddr 5 (.t 21) (.t 22)⟩,
  ⟨some 32, none, .faddr 3 (.t 31)⟩,
  ⟨none, none, .store 1 (.t 32) (.t 28)⟩]
def c63_a6 : List (List Nat) := [[], [0], [], [], [3], [], [], [6], [7], [], [9], [10, 8], [1, 2, 0, 1, 2, 6, 7, 8, 11], [12, 0, 1, 2, 6, 7, 8, 11], [13, 8, 11, 0, 1, 2, 6, 7, 8, 11], [4, 5, 0, 1, 2, 3, 4, 5, 6, 7, 8, 9, 10, 11, 12, 13, 14], [15, 0, 1, 2, 3, 4, 5, 6, 7, 8, 9, 10, 11, 12, 13, 14], [16, 11, 14, 0, 1, 2, 3, 4, 5, 6, 7, 8, 9, 10, 11, 12, 13, 14]]
abbrev c63_m6 : List Am.Mark := [⟨false, 0, 0⟩, ⟨false, 0, 0⟩, ⟨false, 0, 0⟩, ⟨false, 0, 1⟩, ⟨false, 0, 1⟩, ⟨false, 0, 1⟩, ⟨false, 0, 0⟩, ⟨false, 0, 0⟩, ⟨false, 0, 0⟩, ⟨false, 0, 1⟩, ⟨false, 0, 1⟩, ⟨false, 0, 0⟩, ⟨false, 0, 1⟩, ⟨false, 0, 0⟩, ⟨true, 0, 1⟩, ⟨false, 1, 2⟩, ⟨false, 1, 1⟩, ⟨true, 1, 2⟩]
theorem c63_d6 : drawFine c63_r6 c63_a6 c63_m6 = true := by decide +kernel
abbrev c63_r7 : List Ins := [
  ⟨some 33, none, .bin .add (.t 12) (.c (.int .i64 1))⟩,
  ⟨some 12, none, .mov (.t 33)⟩]
abbrev c63_l8 : IR := .seq (.reg c63_r4) (.seq (.cond (.t 13) (.skip) (.exit 0)) (.seq (.blk 1 (.seq (.reg c63_r5) (.dreg c63_r6 c63_a6))) (.reg c63_r7)))
abbrev c63_r9 : List Ins := [
  ⟨some 34, none, .load 17 true (.t 1)⟩,
  ⟨none, none, .store 17 (.t 2) (.t 34)⟩]
abbrev c63 : IR := .seq (.reg c63_r1) (.seq (.reg c63_r2) (.seq (.seq (.reg c63_r3) (.blk 0 (.loop c63_l8))) (.seq (.reg c63_r9) (.ret))))
abbrev F63 : FnA := ⟨35, c63, [.cell 2 17 true]⟩
theorem ok63 : cFn Try.prog 63 = some F63 := by kernel_rfl
theorem hb63 : HasBody Try.prog 63 := ⟨_, Try.func63, by kernel_rfl, by kernel_rfl⟩
/-! cat.turned -/
abbrev c64_r1 : List Ins := [
  ⟨some 2, none, .box (.t 0)⟩,
  ⟨some 3, none, .box (.t 1)⟩,
  ⟨some 4, none, .alloc [.int .i64 0, .int .i64 0, .int .i64 0, .int .i64 0, .int .i64 0, .int .i64 0, .int .i64 0, .int .i64 0, .int .i64 0, .int .i64 0, .int .i64 0, .int .i64 0, .int .i64 0, .int .i64 0, .int .i64 0, .int .i64 0]⟩]
abbrev c64_r2 : List Ins := [
  ⟨some 5, none, .alloc [.int .i64 0, .int .i64 0, .int .i64 0, .int .i64 0, .int .i64 0, .int .i64 0, .int .i64 0, .int .i64 0, .int .i64 0, .int .i64 0, .int .i64 0, .int .i64 0, .int .i64 0, .int .i64 0, .int .i64 0, .int .i64 0]⟩]
abbrev c64_r3 : List Ins := [
  ⟨some 8, none, .load 17 true (.t 2)⟩,
  ⟨some 9, none, .call (.c (.fn 82 [] [])) [.t 8]⟩]
abbrev c64_r4 : List Ins := [
  ⟨some 6, none, .mov (.t 10)⟩]
abbrev c64_r5 : List Ins := [
  ⟨some 7, none, .mov (.t 11)⟩]
abbrev c64_r6 : List Ins := [
  ⟨some 12, none, .mov (.t 6)⟩,
  ⟨some 13, none, .mov (.t 7)⟩,
  ⟨some 14, none, .load 1 false (.t 3)⟩,
  ⟨some 15, none, .mov (.t 6)⟩,
  ⟨some 16, none, .mov (.t 7)⟩,
  ⟨some 17, none, .call (.t 14) [.t 15, .t 16]⟩,
  ⟨some 18, none, .iaddrA 4 4 (.t 5) (.t 12)⟩,
  ⟨some 19, none, .iaddrA 4 1 (.t 18) (.t 13)⟩,
  ⟨none, none, .store 1 (.t 19) (.t 17)⟩]
def c64_a6 : List (List Nat) := [[], [], [], [], [], [2, 3, 4], [0], [6, 1, 0, 1, 2, 3, 4, 5], [7, 5, 5, 0, 1, 2, 3, 4, 5]]
abbrev c64_m6 : List Am.Mark := [⟨false, 0, 1⟩, ⟨false, 0, 1⟩, ⟨false, 0, 0⟩, ⟨false, 0, 0⟩, ⟨false, 0, 0⟩, ⟨true, 0, 1⟩, ⟨false, 0, 2⟩, ⟨false, 1, 1⟩, ⟨true, 1, 2⟩]
theorem c64_d6 : drawFine c64_r6 c64_a6 c64_m6 = true := by decide +kernel
abbrev c64_x7 : IR := .seq (.reg c64_r4) (.reg c64_r5)
abbrev c64_y8 : IR := .blk 1 (.dreg c64_r6 c64_a6)
abbrev c64_r9 : List Ins := [
  ⟨some 20, none, .load 16 true (.t 5)⟩,
  ⟨none, none, .store 16 (.t 4) (.t 20)⟩]
abbrev c64 : IR := .seq (.reg c64_r1) (.seq (.reg c64_r2) (.seq (.seq (.reg c64_r3) (.blk 0 (.rngf (.t 9) [10, 11] c64_x7 c64_y8))) (.seq (.reg c64_r9) (.ret))))
abbrev F64 : FnA := ⟨21, c64, [.cell 4 16 true]⟩
theorem ok64 : cFn Try.prog 64 = some F64 := by kernel_rfl
theorem hb64 : HasBody Try.prog 64 := ⟨_, Try.func64, by kernel_rfl, by kernel_rfl⟩
/-! cat.Open$1 -/
abbrev c65_r1 : List Ins := [
  ⟨some 5, none, .mov (.c (.int .i64 0))⟩]
abbrev c65_r2 : List Ins := [
  ⟨some 6, none, .faddr 0 (.t 2)⟩,
  ⟨some 7, none, .load 1 false (.t 6)⟩,
  ⟨some 8, none, .mov (.t 0)⟩,
  ⟨some 9, none, .iaddr 5 (.t 7) (.t 8)⟩,
  ⟨some 10, none, .load 5 true (.t 9)⟩,
  ⟨some 11, none, .call (.c (.fn 66 [] [])) [.t 10]⟩,
  ⟨some 5, none, .mov (.t 11)⟩]
abbrev c65 : IR := .seq (.reg c65_r1) (.seq (.reg c65_r2) (.ret))
abbrev F65 : FnA := ⟨12, c65, [.t 5]⟩
theorem ok65 : cFn Try.prog 65 = some F65 := by kernel_rfl
theorem hb65 : HasBody Try.prog 65 := ⟨_, Try.func65, by kernel_rfl, by kernel_rfl⟩
/-! cat.all -/
abbrev c66_r1 : List Ins := [
  ⟨some 1, none, .box (.t 0)⟩,
  ⟨some 2, none, .mov (.c (.int .i64 0))⟩]
abbrev c66_r2 : List Ins := [
  ⟨some 3, none, .faddr 2 (.t 1)⟩,
  ⟨some 4, none, .load 1 false (.t 3)⟩,
  ⟨some 5, none, .len (.t 4)⟩,
  ⟨some 6, none, .bin .sub (.t 5) (.c (.int .i64 1))⟩,
  ⟨some 7, none, .mx [.t 6, .c (.int .i64 0)]⟩,
  ⟨some 8, none, .bin .shl (.c (.int .i64 1)) (.t 7)⟩,
  ⟨some 9, none, .bin .sub (.t 8) (.c (.int .i64 1))⟩,
  ⟨some 2, none, .mov (.t 9)⟩]
abbrev c66 : IR := .seq (.reg c66_r1) (.seq (.reg c66_r2) (.ret))
abbrev F66 : FnA := ⟨10, c66, [.t 2]⟩
theorem ok66 : cFn Try.prog 66 = some F66 := by kernel_rfl
theorem hb66 : HasBody Try.prog 66 := ⟨_, Try.func66, by kernel_rfl, by kernel_rfl⟩
/-! ref14.Unit -/
abbrev c73_r1 : List Ins := [
  ⟨some 4, none, .box (.t 0)⟩,
  ⟨some 8, none, .mov (.c (.int .i64 0))⟩]
abbrev c73_r2 : List Ins := [
  ⟨some 9, none, .mov (.c (.int .i64 0))⟩]
abbrev c73_r3 : List Ins := [
  ⟨some 10, none, .mov (.c (.int .i64 0))⟩]
abbrev c73_r4 : List Ins := [
  ⟨some 11, none, .mov (.t 10)⟩,
  ⟨some 12, none, .mov (.t 3)⟩,
  ⟨some 13, none, .bin .lss (.t 11) (.t 12)⟩]
abbrev c73_r5 : List Ins := [
  ⟨some 16, none, .load 17 true (.t 4)⟩,
  ⟨some 17, none, .mov (.t 1)⟩,
  ⟨some 18, none, .mov (.t 2)⟩,
  ⟨some 19, none, .mov (.t 10)⟩,
  ⟨some 20, none, .call (.c (.fn 38 [] [])) [.t 16, .t 17, .t 18, .t 19]⟩]
abbrev c73_r6 : List Ins := [
  ⟨some 21, none, .mov (.t 9)⟩,
  ⟨some 22, none, .bin .add (.t 21) (.c (.int .i64 1))⟩,
  ⟨some 9, none, .mov (.t 22)⟩]
abbrev c73_r7 : List Ins := [
  ⟨some 14, none, .mov (.t 10)⟩,
  ⟨some 15, none, .bin .add (.t 14) (.c (.int .i64 1))⟩,
  ⟨some 10, none, .mov (.t 15)⟩]
abbrev c73_l8 : IR := .seq (.seq (.reg c73_r4) (.cond (.t 13) (.skip) (.exit 0))) (.seq (.blk 1 (.seq (.reg c73_r5) (.cond (.t 20) (.reg c73_r6) (.skip)))) (.reg c73_r7))
abbrev c73_r9 : List Ins := [
  ⟨some 23, none, .mov (.t 9)⟩,
  ⟨some 8, none, .mov (.t 23)⟩]
abbrev c73 : IR := .seq (.reg c73_r1) (.seq (.reg c73_r2) (.seq (.seq (.reg c73_r3) (.blk 0 (.loop c73_l8))) (.seq (.reg c73_r9) (.ret))))
abbrev F73 : FnA := ⟨24, c73, [.t 8]⟩
theorem ok73 : cFn Try.prog 73 = some F73 := by kernel_rfl
theorem hb73 : HasBody Try.prog 73 := ⟨_, Try.func73, by kernel_rfl, by kernel_rfl⟩
/-! law12.Great -/
abbrev c74_r1 : List Ins := [
  ⟨some 1, none, .box (.t 0)⟩,
  ⟨some 2, none, .mov (.c (.bool false))⟩]
abbrev c74_r2 : List Ins := [
  ⟨some 3, none, .mov (.c (.int .i64 0))⟩]
abbrev c74_r3 : List Ins := [
  ⟨some 4, none, .mov (.t 3)⟩,
  ⟨some 5, none, .faddr 0 (.t 1)⟩,
  ⟨some 6, none, .load 1 false (.t 5)⟩,
  ⟨some 7, none, .len (.t 6)⟩,
  ⟨some 8, none, .bin .lss (.t 4) (.t 7)⟩]
abbrev c74_r4 : List Ins := [
  ⟨some 11, none, .faddr 0 (.t 1)⟩,
  ⟨some 12, none, .load 1 false (.t 11)⟩,
  ⟨some 13, none, .mov (.t 3)⟩,
  ⟨some 14, none, .iaddr 5 (.t 12) (.t 13)⟩,
  ⟨some 15, none, .load 5 true (.t 14)⟩,
  ⟨some 16, none, .call (.c (.fn 110 [] [])) [.t 15]⟩]
abbrev c74_r5 : List Ins := [
  ⟨some 2, none, .mov (.c (.bool true))⟩]
abbrev c74_r6 : List Ins := [
  ⟨some 9, none, .mov (.t 3)⟩,
  ⟨some 10, none, .bin .add (.t 9) (.c (.int .i64 1))⟩,
  ⟨some 3, none, .mov (.t 10)⟩]
abbrev c74_l7 : IR := .seq (.seq (.reg c74_r3) (.cond (.t 8) (.skip) (.exit 0))) (.seq (.blk 1 (.seq (.reg c74_r4) (.cond (.t 16) (.seq (.reg c74_r5) (.ret)) (.skip)))) (.reg c74_r6))
abbrev c74_r8 : List Ins := [
  ⟨some 17, none, .faddr 0 (.t 1)⟩,
  ⟨some 18, none, .load 1 false (.t 17)⟩,
  ⟨some 19, none, .len (.t 18)⟩,
  ⟨some 20, none, .bin .gtr (.t 19) (.c (.int .i64 12))⟩,
  ⟨some 2, none, .mov (.t 20)⟩]
abbrev c74 : IR := .seq (.reg c74_r1) (.seq (.seq (.reg c74_r2) (.blk 0 (.loop c74_l7))) (.seq (.reg c74_r8) (.ret)))
abbrev F74 : FnA := ⟨21, c74, [.t 2]⟩
theorem ok74 : cFn Try.prog 74 = some F74 := by kernel_rfl
theorem hb74 : HasBody Try.prog 74 := ⟨_, Try.func74, by kernel_rfl, by kernel_rfl⟩
/-! units.spans -/
abbrev c75_r1 : List Ins := [
  ⟨some 2, none, .mov (.c (.bool false))⟩]
abbrev c75_r2 : List Ins := [
  ⟨some 3, none, .mov (.t 0)⟩,
  ⟨some 4, none, .len (.t 3)⟩,
  ⟨some 5, none, .bin .leq (.t 4) (.c (.int .i64 40))⟩,
  ⟨some 6, none, .mov (.t 5)⟩,
  ⟨some 7, some (6, true), .mov (.t 0)⟩,
  ⟨some 8, some (6, true), .call (.c (.fn 111 [] [])) [.t 7, .c (.fn 112 [] [])]⟩,
  ⟨some 9, some (6, true), .un .not (.t 8)⟩,
  ⟨some 10, none, .pick (.t 6) (.t 9) (.c (.bool false))⟩,
  ⟨some 2, none, .mov (.t 10)⟩]
abbrev c75 : IR := .seq (.reg c75_r1) (.seq (.reg c75_r2) (.ret))
abbrev F75 : FnA := ⟨11, c75, [.t 2]⟩
theorem ok75 : cFn Try.prog 75 = some F75 := by kernel_rfl
theorem hb75 : HasBody Try.prog 75 := ⟨_, Try.func75, by kernel_rfl, by kernel_rfl⟩
/-! units.next -/
abbrev c76_r1 : List Ins := [
  ⟨some 4, none, .box (.t 1)⟩,
  ⟨some 6, none, .mov (.c (.bool false))⟩]
abbrev c76_r2 : List Ins := [
  ⟨some 8, none, .mov (.t 0)⟩,
  ⟨some 9, none, .len (.t 8)⟩,
  ⟨some 10, none, .bin .eql (.t 9) (.c (.int .i64 0))⟩]
abbrev c76_r3 : List Ins := [
  ⟨some 11, none, .faddr 3 (.t 4)⟩,
  ⟨some 12, none, .load 1 false (.t 11)⟩,
  ⟨some 13, none, .un .not (.t 12)⟩,
  ⟨some 14, none, .mov (.t 13)⟩,
  ⟨some 15, some (14, true), .faddr 2 (.t 4)⟩,
  ⟨some 16, some (14, true), .load 1 false (.t 15)⟩,
  ⟨some 17, some (14, true), .bin .eql (.t 16) (.c (.int .i64 0))⟩,
  ⟨some 18, none, .pick (.t 14) (.t 17) (.c (.bool false))⟩,
  ⟨some 6, none, .mov (.t 18)⟩]
abbrev c76_r4 : List Ins := [
  ⟨some 19, none, .mov (.t 0)⟩,
  ⟨some 20, none, .mov (.t 0)⟩,
  ⟨some 21, none, .len (.t 20)⟩,
  ⟨some 22, none, .bin .sub (.t 21) (.c (.int .i64 1))⟩,
  ⟨some 23, none, .iaddr 6 (.t 19) (.t 22)⟩,
  ⟨some 24, none, .load 6 true (.t 23)⟩,
  ⟨some 7, none, .alloc [.int .i64 0, .int .i64 0, .int .i64 0, .bool false, .sl .full [], .sl .full []]⟩,
  ⟨none, none, .store 6 (.t 7) (.t 24)⟩]
abbrev c76_r5 : List Ins := [
  ⟨some 26, none, .faddr 1 (.t 4)⟩,
  ⟨some 27, none, .load 1 false (.t 26)⟩,
  ⟨some 28, none, .faddr 1 (.t 7)⟩,
  ⟨some 29, none, .load 1 false (.t 28)⟩,
  ⟨some 30, none, .bin .neq (.t 27) (.t 29)⟩,
  ⟨some 25, none, .mov (.t 30)⟩]
abbrev c76_r6 : List Ins := [
  ⟨some 6, none, .mov (.c (.bool false))⟩]
abbrev c76_r7 : List Ins := [
  ⟨some 32, none, .faddr 3 (.t 4)⟩,
  ⟨some 33, none, .load 1 false (.t 32)⟩,
  ⟨some 34, none, .un .not (.t 33)⟩,
  ⟨some 31, none, .mov (.t 34)⟩]
abbrev c76_r8 : List Ins := [
  ⟨some 35, none, .faddr 3 (.t 7)⟩,
  ⟨some 36, none, .load 1 false (.t 35)⟩,
  ⟨some 37, none, .un .not (.t 36)⟩,
  ⟨some 38, none, .mov (.t 37)⟩,
  ⟨some 39, some (38, true), .faddr 2 (.t 4)⟩,
  ⟨some 40, some (38, true), .load 1 false (.t 39)⟩,
  ⟨some 41, some (38, true), .faddr 2 (.t 7)⟩,
  ⟨some 42, some (38, true), .load 1 false (.t 41)⟩,
  ⟨some 43, some (38, true), .bin .add (.t 42) (.c (.int .i64 1))⟩,
  ⟨some 44, some (38, true), .bin .eql (.t 40) (.t 43)⟩,
  ⟨some 45, none, .pick (.t 38) (.t 44) (.c (.bool false))⟩,
  ⟨some 46, none, .mov (.t 45)⟩,
  ⟨some 47, some (46, true), .faddr 2 (.t 4)⟩,
  ⟨some 48, some (46, true), .load 1 false (.t 47)⟩,
  ⟨some 49, some (46, true), .mov (.t 2)⟩,
  ⟨some 50, some (46, true), .bin .lss (.t 48) (.t 49)⟩,
  ⟨some 51, none, .pick (.t 46) (.t 50) (.c (.bool false))⟩,
  ⟨some 6, none, .mov (.t 51)⟩]
abbrev c76_r9 : List Ins := [
  ⟨some 53, none, .faddr 3 (.t 7)⟩,
  ⟨some 54, none, .load 1 false (.t 53)⟩,
  ⟨some 55, none, .un .not (.t 54)⟩,
  ⟨some 52, none, .mov (.t 55)⟩]
abbrev c76_r10 : List Ins := [
  ⟨some 56, none, .faddr 2 (.t 4)⟩,
  ⟨some 57, none, .load 1 false (.t 56)⟩,
  ⟨some 58, none, .faddr 2 (.t 7)⟩,
  ⟨some 59, none, .load 1 false (.t 58)⟩,
  ⟨some 60, none, .bin .eql (.t 57) (.t 59)⟩,
  ⟨some 6, none, .mov (.t 60)⟩]
abbrev c76_r11 : List Ins := [
  ⟨some 61, none, .faddr 2 (.t 4)⟩,
  ⟨some 62, none, .load 1 false (.t 61)⟩,
  ⟨some 63, none, .faddr 2 (.t 7)⟩,
  ⟨some 64, none, .load 1 false (.t 63)⟩,
  ⟨some 65, none, .bin .sub (.t 64) (.c (.int .i64 1))⟩,
  ⟨some 66, none, .bin .eql (.t 62) (.t 65)⟩,
  ⟨some 6, none, .mov (.t 66)⟩]
abbrev c76 : IR := .seq (.reg c76_r1) (.seq (.seq (.reg c76_r2) (.cond (.t 10) (.seq (.reg c76_r3) (.ret)) (.skip))) (.seq (.reg c76_r4) (.seq (.blk 0 (.seq (.reg c76_r5) (.cond (.t 25) (.seq (.reg c76_r6) (.ret)) (.seq (.reg c76_r7) (.cond (.t 31) (.seq (.reg c76_r8) (.ret)) (.seq (.reg c76_r9) (.cond (.t 52) (.seq (.reg c76_r10) (.ret)) (.skip)))))))) (.seq (.reg c76_r11) (.ret)))))
abbrev F76 : FnA := ⟨67, c76, [.t 6]⟩
theorem ok76 : cFn Try.prog 76 = some F76 := by kernel_rfl
theorem hb76 : HasBody Try.prog 76 := ⟨_, Try.func76, by kernel_rfl, by kernel_rfl⟩
/-! ref14.spans -/
abbrev c77_r1 : List Ins := [
  ⟨some 2, none, .mov (.c (.bool false))⟩]
abbrev c77_r2 : List Ins := [
  ⟨some 3, none, .mov (.c (.int .i64 0))⟩]
abbrev c77_r3 : List Ins := [
  ⟨some 4, none, .mov (.t 3)⟩,
  ⟨some 5, none, .mov (.t 0)⟩,
  ⟨some 6, none, .len (.t 5)⟩,
  ⟨some 7, none, .bin .lss (.t 4) (.t 6)⟩]
abbrev c77_r4 : List Ins := [
  ⟨some 10, none, .mov (.t 0)⟩,
  ⟨some 11, none, .mov (.t 3)⟩,
  ⟨some 12, none, .iaddr 2 (.t 10) (.t 11)⟩,
  ⟨some 13, none, .faddr 0 (.t 12)⟩,
  ⟨some 14, none, .load 1 false (.t 13)⟩,
  ⟨some 15, none, .bin .lss (.t 14) (.c (.int .i64 0))⟩,
  ⟨some 16, none, .mov (.t 15)⟩,
  ⟨some 17, some (16, false), .mov (.t 0)⟩,
  ⟨some 18, some (16, false), .mov (.t 3)⟩,
  ⟨some 19, some (16, false), .iaddr 2 (.t 17) (.t 18)⟩,
  ⟨some 20, some (16, false), .faddr 0 (.t 19)⟩,
  ⟨some 21, some (16, false), .load 1 false (.t 20)⟩,
  ⟨some 22, some (16, false), .mov (.t 0)⟩,
  ⟨some 23, some (16, false), .mov (.t 3)⟩,
  ⟨some 24, some (16, false), .iaddr 2 (.t 22) (.t 23)⟩,
  ⟨some 25, some (16, false), .faddr 1 (.t 24)⟩,
  ⟨some 26, some (16, false), .load 1 false (.t 25)⟩,
  ⟨some 27, some (16, false), .bin .gtr (.t 21) (.t 26)⟩,
  ⟨some 28, none, .pick (.t 16) (.c (.bool true)) (.t 27)⟩,
  ⟨some 29, none, .mov (.t 28)⟩,
  ⟨some 30, some (29, false), .mov (.t 0)⟩,
  ⟨some 31, some (29, false), .mov (.t 3)⟩,
  ⟨some 32, some (29, false), .iaddr 2 (.t 30) (.t 31)⟩,
  ⟨some 33, some (29, false), .faddr 1 (.t 32)⟩,
  ⟨some 34, some (29, false), .load 1 false (.t 33)⟩,
  ⟨some 35, some (29, false), .bin .gtr (.t 34) (.c (.int .i64 999))⟩,
  ⟨some 36, none, .pick (.t 29) (.c (.bool true)) (.t 35)⟩]
def c77_a4 : List (List Nat) := [[], [], [0, 1], [2], [3], [4], [5], [6], [6], [7, 8, 6], [9, 6], [10, 6], [6], [6], [12, 13, 6], [14, 6], [15, 6], [11, 16, 6], [6, 17], [18, 6], [19], [19], [20, 21, 19], [22, 19], [23, 19], [24, 19], [19, 25]]
abbrev c77_m4 : List Am.Mark := [⟨false, 0, 0⟩, ⟨false, 0, 0⟩, ⟨false, 0, 0⟩, ⟨false, 0, 0⟩, ⟨false, 0, 0⟩, ⟨false, 0, 0⟩, ⟨false, 0, 0⟩, ⟨false, 0, 0⟩, ⟨false, 0, 0⟩, ⟨false, 0, 0⟩, ⟨false, 0, 0⟩, ⟨false, 0, 0⟩, ⟨false, 0, 0⟩, ⟨false, 0, 0⟩, ⟨false, 0, 0⟩, ⟨false, 0, 0⟩, ⟨false, 0, 0⟩, ⟨false, 0, 0⟩, ⟨false, 0, 0⟩, ⟨false, 0, 0⟩, ⟨false, 0, 0⟩, ⟨false, 0, 0⟩, ⟨false, 0, 0⟩, ⟨false, 0, 0⟩, ⟨false, 0, 0⟩, ⟨false, 0, 0⟩, ⟨false, 0, 0⟩]
theorem c77_d4 : drawFine c77_r4 c77_a4 c77_m4 = true := by decide +kernel
abbrev c77_r5 : List Ins := [
  ⟨some 2, none, .mov (.c (.bool false))⟩]
abbrev c77_r6 : List Ins := [
  ⟨some 8, none, .mov (.t 3)⟩,
  ⟨some 9, none, .bin .add (.t 8) (.c (.int .i64 1))⟩,
  ⟨some 3, none, .mov (.t 9)⟩]
abbrev c77_l7 : IR := .seq (.seq (.reg c77_r3) (.cond (.t 7) (.skip) (.exit 0))) (.seq (.blk 1 (.seq (.dreg c77_r4 c77_a4) (.cond (.t 36) (.seq (.reg c77_r5) (.ret)) (.skip)))) (.reg c77_r6))
abbrev c77_r8 : List Ins := [
  ⟨some 37, none, .mov (.t 0)⟩,
  ⟨some 38, none, .len (.t 37)⟩,
  ⟨some 39, none, .bin .leq (.t 38) (.c (.int .i64 40))⟩,
  ⟨some 2, none, .mov (.t 39)⟩]
abbrev c77 : IR := .seq (.reg c77_r1) (.seq (.seq (.reg c77_r2) (.blk 0 (.loop c77_l7))) (.seq (.reg c77_r8) (.ret)))
abbrev F77 : FnA := ⟨40, c77, [.t 2]⟩
theorem ok77 : cFn Try.prog 77 = some F77 := by kernel_rfl
theorem hb77 : HasBody Try.prog 77 := ⟨_, Try.func77, by kernel_rfl, by kernel_rfl⟩
/-! cat.Break$1 -/
abbrev c78_r1 : List Ins := [
  ⟨some 3, none, .mov (.c (.bool false))⟩]
abbrev c78_r2 : List Ins := [
  ⟨some 4, none, .mov (.t 0)⟩,
  ⟨some 5, none, .bin .geq (.t 4) (.c (.int .i64 0))⟩,
  ⟨some 6, none, .mov (.t 5)⟩,
  ⟨some 7, some (6, true), .mov (.t 0)⟩,
  ⟨some 8, some (6, true), .faddr 0 (.t 1)⟩,
  ⟨some 9, some (6, true), .load 1 false (.t 8)⟩,
  ⟨some 10, some (6, true), .len (.t 9)⟩,
  ⟨some 11, some (6, true), .mn [.t 10, .c (.int .i64 4)]⟩,
  ⟨some 12, some (6, true), .bin .lss (.t 7) (.t 11)⟩,
  ⟨some 13, none, .pick (.t 6) (.t 12) (.c (.bool false))⟩,
  ⟨some 3, none, .mov (.t 13)⟩]
abbrev c78 : IR := .seq (.reg c78_r1) (.seq (.reg c78_r2) (.ret))
abbrev F78 : FnA := ⟨14, c78, [.t 3]⟩
theorem ok78 : cFn Try.prog 78 = some F78 := by kernel_rfl
theorem hb78 : HasBody Try.prog 78 := ⟨_, Try.func78, by kernel_rfl, by kernel_rfl⟩
/-! ref12.Bit -/
abbrev c79_r1 : List Ins := [
  ⟨some 4, none, .mov (.c (.bool false))⟩]
abbrev c79_r2 : List Ins := [
  ⟨some 5, none, .mov (.c (.int .i64 0))⟩]
abbrev c79_r3 : List Ins := [
  ⟨some 6, none, .mov (.t 5)⟩,
  ⟨some 7, none, .mov (.t 1)⟩,
  ⟨some 8, none, .bin .lss (.t 6) (.t 7)⟩]
abbrev c79_r4 : List Ins := [
  ⟨some 11, none, .mov (.t 0)⟩,
  ⟨some 12, none, .bin .quo (.t 11) (.c (.int .i64 2))⟩,
  ⟨some 0, none, .mov (.t 12)⟩]
abbrev c79_r5 : List Ins := [
  ⟨some 9, none, .mov (.t 5)⟩,
  ⟨some 10, none, .bin .add (.t 9) (.c (.int .i64 1))⟩,
  ⟨some 5, none, .mov (.t 10)⟩]
abbrev c79_l6 : IR := .seq (.seq (.reg c79_r3) (.cond (.t 8) (.skip) (.exit 0))) (.seq (.blk 1 (.reg c79_r4)) (.reg c79_r5))
abbrev c79_r7 : List Ins := [
  ⟨some 13, none, .mov (.t 0)⟩,
  ⟨some 14, none, .bin .rem (.t 13) (.c (.int .i64 2))⟩,
  ⟨some 15, none, .bin .eql (.t 14) (.c (.int .i64 1))⟩,
  ⟨some 4, none, .mov (.t 15)⟩]
abbrev c79 : IR := .seq (.reg c79_r1) (.seq (.seq (.reg c79_r2) (.blk 0 (.loop c79_l6))) (.seq (.reg c79_r7) (.ret)))
abbrev F79 : FnA := ⟨16, c79, [.t 4]⟩
theorem ok79 : cFn Try.prog 79 = some F79 := by kernel_rfl
theorem hb79 : HasBody Try.prog 79 := ⟨_, Try.func79, by kernel_rfl, by kernel_rfl⟩
/-! cat.named -/
abbrev c80_r1 : List Ins := [
  ⟨some 2, none, .mov (.c (.bool false))⟩]
abbrev c80_r2 : List Ins := [
  ⟨some 5, none, .mov (.t 0)⟩,
  ⟨some 6, none, .len (.t 5)⟩,
  ⟨some 7, none, .mov (.c (.int .i64 0))⟩]
abbrev c80_r3 : List Ins := [
  ⟨some 8, none, .bin .lss (.t 7) (.t 6)⟩]
abbrev c80_r4 : List Ins := [
  ⟨some 9, none, .mov (.t 7)⟩,
  ⟨some 10, none, .iaddr 5 (.t 5) (.t 7)⟩,
  ⟨some 11, none, .load 5 true (.t 10)⟩,
  ⟨some 4, none, .alloc [.str ⟨#[]⟩, .int .i64 0, .sl .full [], .sl .full [], .bool false]⟩,
  ⟨some 3, none, .mov (.t 9)⟩,
  ⟨none, none, .store 5 (.t 4) (.t 11)⟩]
abbrev c80_r5 : List Ins := [
  ⟨some 12, none, .load 5 true (.t 4)⟩,
  ⟨some 13, none, .call (.c (.fn 84 [] [])) [.t 12]⟩,
  ⟨some 14, none, .un .not (.t 13)⟩,
  ⟨some 15, none, .mov (.t 14)⟩,
  ⟨some 16, some (15, false), .mov (.t 0)⟩,
  ⟨some 17, some (15, false), .mov (.t 3)⟩,
  ⟨some 18, some (15, false), .slice 5 (.t 16) none (some (.t 17)) none⟩,
  ⟨some 19, some (15, false), .mkfn 115 [] [.t 4]⟩,
  ⟨some 20, some (15, false), .call (.c (.fn 114 [] [])) [.t 18, .t 19]⟩,
  ⟨some 21, none, .pick (.t 15) (.c (.bool true)) (.t 20)⟩]
abbrev c80_r6 : List Ins := [
  ⟨some 2, none, .mov (.c (.bool false))⟩]
abbrev c80_r7 : List Ins := [
  ⟨some 22, none, .bin .add (.t 7) (.c (.int .i64 1))⟩,
  ⟨some 7, none, .mov (.t 22)⟩]
abbrev c80_l8 : IR := .seq (.reg c80_r3) (.seq (.cond (.t 8) (.skip) (.exit 0)) (.seq (.blk 1 (.seq (.reg c80_r4) (.seq (.reg c80_r5) (.cond (.t 21) (.seq (.reg c80_r6) (.ret)) (.skip))))) (.reg c80_r7)))
abbrev c80_r9 : List Ins := [
  ⟨some 2, none, .mov (.c (.bool true))⟩]
abbrev c80 : IR := .seq (.reg c80_r1) (.seq (.seq (.reg c80_r2) (.blk 0 (.loop c80_l8))) (.seq (.reg c80_r9) (.ret)))
abbrev F80 : FnA := ⟨23, c80, [.t 2]⟩
theorem ok80 : cFn Try.prog 80 = some F80 := by kernel_rfl
theorem hb80 : HasBody Try.prog 80 := ⟨_, Try.func80, by kernel_rfl, by kernel_rfl⟩
/-! cat.May$1 -/
abbrev c81_r1 : List Ins := [
  ⟨some 5, none, .mov (.c (.int .i64 0))⟩]
abbrev c81_r2 : List Ins := [
  ⟨some 6, none, .mov (.t 0)⟩,
  ⟨some 7, none, .mov (.t 1)⟩,
  ⟨some 8, none, .faddr 1 (.t 2)⟩,
  ⟨some 9, none, .iaddrA 4 4 (.t 8) (.t 6)⟩,
  ⟨some 10, none, .iaddrA 4 1 (.t 9) (.t 7)⟩,
  ⟨some 11, none, .load 1 false (.t 10)⟩,
  ⟨some 12, none, .faddr 0 (.t 2)⟩,
  ⟨some 13, none, .load 1 false (.t 12)⟩,
  ⟨some 14, none, .mov (.t 0)⟩,
  ⟨some 15, none, .iaddr 5 (.t 13) (.t 14)⟩,
  ⟨some 16, none, .load 5 true (.t 15)⟩,
  ⟨some 17, none, .call (.c (.fn 66 [] [])) [.t 16]⟩,
  ⟨some 18, none, .bin .and (.t 11) (.t 17)⟩,
  ⟨some 5, none, .mov (.t 18)⟩]
def c81_a2 : List (List Nat) := [[], [], [], [2, 0], [3, 1], [4], [], [6], [], [7, 8], [9], [10], [5, 11], [12, 11, 0, 1, 2, 3, 4, 5, 6, 7, 8, 9, 10, 11, 12]]
abbrev c81_m2 : List Am.Mark := [⟨false, 0, 0⟩, ⟨false, 0, 0⟩, ⟨false, 0, 0⟩, ⟨false, 0, 0⟩, ⟨false, 0, 0⟩, ⟨false, 0, 0⟩, ⟨false, 0, 0⟩, ⟨false, 0, 0⟩, ⟨false, 0, 0⟩, ⟨false, 0, 0⟩, ⟨false, 0, 0⟩, ⟨false, 0, 0⟩, ⟨false, 0, 0⟩, ⟨false, 0, 0⟩]
theorem c81_d2 : drawFine c81_r2 c81_a2 c81_m2 = true := by decide +kernel
abbrev c81 : IR := .seq (.reg c81_r1) (.seq (.dreg c81_r2 c81_a2) (.ret))
abbrev F81 : FnA := ⟨19, c81, [.t 5]⟩
theorem ok81 : cFn Try.prog 81 = some F81 := by kernel_rfl
theorem hb81 : HasBody Try.prog 81 := ⟨_, Try.func81, by kernel_rfl, by kernel_rfl⟩
/-! cat.pairs -/
abbrev c82_r1 : List Ins := [
  ⟨some 1, none, .box (.t 0)⟩,
  ⟨some 2, none, .mov (.c .nilfn)⟩]
abbrev c82_r2 : List Ins := [
  ⟨some 3, none, .mkfn 116 [] [.t 1]⟩,
  ⟨some 2, none, .mov (.t 3)⟩]
abbrev c82 : IR := .seq (.reg c82_r1) (.seq (.reg c82_r2) (.ret))
abbrev F82 : FnA := ⟨4, c82, [.t 2]⟩
theorem ok82 : cFn Try.prog 82 = some F82 := by kernel_rfl
theorem hb82 : HasBody Try.prog 82 := ⟨_, Try.func82, by kernel_rfl, by kernel_rfl⟩
/-! class.May -/
abbrev c84_r1 : List Ins := [
  ⟨some 1, none, .box (.t 0)⟩,
  ⟨some 2, none, .alloc [.bool false]⟩]
abbrev c84_r2 : List Ins := [
  ⟨some 6, none, .faddr 2 (.t 1)⟩,
  ⟨some 7, none, .load 1 false (.t 6)⟩,
  ⟨some 8, none, .len (.t 7)⟩,
  ⟨some 3, none, .mov (.t 8)⟩]
abbrev c84_r3 : List Ins := [
  ⟨some 9, none, .faddr 0 (.t 1)⟩,
  ⟨some 10, none, .load 1 false (.t 9)⟩,
  ⟨some 11, none, .lenS (.t 10)⟩,
  ⟨some 12, none, .bin .lss (.t 11) (.c (.int .i64 1))⟩,
  ⟨some 13, none, .mov (.t 12)⟩,
  ⟨some 14, some (13, false), .faddr 0 (.t 1)⟩,
  ⟨some 15, some (13, false), .load 1 false (.t 14)⟩,
  ⟨some 16, some (13, false), .lenS (.t 15)⟩,
  ⟨some 17, some (13, false), .bin .gtr (.t 16) (.c (.int .i64 16))⟩,
  ⟨some 18, none, .pick (.t 13) (.c (.bool true)) (.t 17)⟩,
  ⟨some 19, none, .mov (.t 18)⟩,
  ⟨some 20, some (19, false), .faddr 1 (.t 1)⟩,
  ⟨some 21, some (19, false), .load 1 false (.t 20)⟩,
  ⟨some 22, some (19, false), .bin .lss (.t 21) (.c (.int .i64 0))⟩,
  ⟨some 23, none, .pick (.t 19) (.c (.bool true)) (.t 22)⟩,
  ⟨some 24, none, .mov (.t 23)⟩,
  ⟨some 25, some (24, false), .faddr 1 (.t 1)⟩,
  ⟨some 26, some (24, false), .load 1 false (.t 25)⟩,
  ⟨some 27, some (24, false), .bin .gtr (.t 26) (.c (.int .i64 3))⟩,
  ⟨some 28, none, .pick (.t 24) (.c (.bool true)) (.t 27)⟩,
  ⟨some 29, none, .mov (.t 28)⟩,
  ⟨some 30, some (29, false), .mov (.t 3)⟩,
  ⟨some 31, some (29, false), .bin .lss (.t 30) (.c (.int .i64 1))⟩,
  ⟨some 32, none, .pick (.t 29) (.c (.bool true)) (.t 31)⟩,
  ⟨some 33, none, .mov (.t 32)⟩,
  ⟨some 34, some (33, false), .mov (.t 3)⟩,
  ⟨some 35, some (33, false), .bin .gtr (.t 34) (.c (.int .i64 4))⟩,
  ⟨some 36, none, .pick (.t 33) (.c (.bool true)) (.t 35)⟩,
  ⟨some 37, none, .mov (.t 36)⟩,
  ⟨some 38, some (37, false), .faddr 3 (.t 1)⟩,
  ⟨some 39, some (37, false), .load 1 false (.t 38)⟩,
  ⟨some 40, some (37, false), .len (.t 39)⟩,
  ⟨some 41, some (37, false), .mov (.t 3)⟩,
  ⟨some 42, some (37, false), .bin .neq (.t 40) (.t 41)⟩,
  ⟨some 43, none, .pick (.t 37) (.c (.bool true)) (.t 42)⟩]
abbrev c84_r4 : List Ins := [
  ⟨none, none, .store 1 (.t 2) (.c (.bool false))⟩]
abbrev c84_r5 : List Ins := [
  ⟨some 44, none, .load 5 true (.t 1)⟩,
  ⟨some 45, none, .call (.c (.fn 95 [] [])) [.t 44]⟩]
abbrev c84_r6 : List Ins := [
  ⟨some 4, none, .alloc [.sl .full [], .sl .full []]⟩,
  ⟨none, none, .store 2 (.t 4) (.t 46)⟩]
abbrev c84_r7 : List Ins := [
  ⟨some 5, none, .alloc [.sl .full [], .sl .full []]⟩,
  ⟨none, none, .store 2 (.t 5) (.t 47)⟩]
abbrev c84_r8 : List Ins := [
  ⟨some 48, none, .faddr 0 (.t 4)⟩,
  ⟨some 49, none, .load 1 false (.t 48)⟩,
  ⟨some 50, none, .faddr 1 (.t 1)⟩,
  ⟨some 51, none, .load 1 false (.t 50)⟩,
  ⟨some 52, none, .call (.c (.fn 119 [] [])) [.t 49, .t 51]⟩,
  ⟨some 53, none, .un .not (.t 52)⟩,
  ⟨some 54, none, .mov (.t 53)⟩,
  ⟨some 55, some (54, false), .faddr 1 (.t 4)⟩,
  ⟨some 56, some (54, false), .load 1 false (.t 55)⟩,
  ⟨some 57, some (54, false), .faddr 1 (.t 1)⟩,
  ⟨some 58, some (54, false), .load 1 false (.t 57)⟩,
  ⟨some 59, some (54, false), .call (.c (.fn 120 [] [])) [.t 56, .t 58]⟩,
  ⟨some 60, some (54, false), .un .not (.t 59)⟩,
  ⟨some 61, none, .pick (.t 54) (.c (.bool true)) (.t 60)⟩,
  ⟨some 62, none, .mov (.t 61)⟩,
  ⟨some 63, some (62, false), .load 2 true (.t 5)⟩,
  ⟨some 64, some (62, false), .faddr 1 (.t 1)⟩,
  ⟨some 65, some (62, false), .load 1 false (.t 64)⟩,
  ⟨some 66, some (62, false), .call (.c (.fn 121 [] [])) [.t 63, .t 65]⟩,
  ⟨some 67, some (62, false), .un .not (.t 66)⟩,
  ⟨some 68, none, .pick (.t 62) (.c (.bool true)) (.t 67)⟩]
abbrev c84_r9 : List Ins := [
  ⟨none, none, .store 1 (.t 2) (.c (.bool false))⟩]
abbrev c84_x10 : IR := .seq (.reg c84_r6) (.reg c84_r7)
abbrev c84_y11 : IR := .blk 1 (.seq (.reg c84_r8) (.cond (.t 68) (.seq (.reg c84_r9) (.ret)) (.skip)))
abbrev c84_r12 : List Ins := [
  ⟨none, none, .store 1 (.t 2) (.c (.bool true))⟩]
abbrev c84 : IR := .seq (.reg c84_r1) (.seq (.reg c84_r2) (.seq (.seq (.reg c84_r3) (.cond (.t 43) (.seq (.reg c84_r4) (.ret)) (.skip))) (.seq (.seq (.reg c84_r5) (.blk 0 (.rngf (.t 45) [46, 47] c84_x10 c84_y11))) (.seq (.reg c84_r12) (.ret)))))
abbrev F84 : FnA := ⟨69, c84, [.cell 2 1 false]⟩
theorem ok84 : cFn Try.prog 84 = some F84 := by kernel_rfl
theorem hb84 : HasBody Try.prog 84 := ⟨_, Try.func84, by kernel_rfl, by kernel_rfl⟩
/-! units.unit -/
abbrev c90_r1 : List Ins := [
  ⟨some 4, none, .box (.t 0)⟩,
  ⟨some 8, none, .mov (.c .nilfn)⟩,
  ⟨some 9, none, .mov (.c (.bool false))⟩]
abbrev c90_r2 : List Ins := [
  ⟨some 14, none, .load 17 true (.t 4)⟩,
  ⟨some 15, none, .mov (.t 1)⟩,
  ⟨some 16, none, .call (.c (.fn 34 [] [])) [.t 14, .t 15]⟩,
  ⟨some 17, none, .un .not (.t 16)⟩,
  ⟨some 18, none, .mov (.t 17)⟩,
  ⟨some 19, some (18, false), .mov (.t 2)⟩,
  ⟨some 20, some (18, false), .bin .lss (.t 19) (.c (.int .i64 0))⟩,
  ⟨some 21, none, .pick (.t 18) (.c (.bool true)) (.t 20)⟩,
  ⟨some 22, none, .mov (.t 21)⟩,
  ⟨some 23, some (22, false), .mov (.t 2)⟩,
  ⟨some 24, some (22, false), .mov (.t 1)⟩,
  ⟨some 25, some (22, false), .len (.t 24)⟩,
  ⟨some 26, some (22, false), .bin .geq (.t 23) (.t 25)⟩,
  ⟨some 27, none, .pick (.t 22) (.c (.bool true)) (.t 26)⟩,
  ⟨some 28, none, .mov (.t 27)⟩,
  ⟨some 29, some (28, false), .load 17 true (.t 4)⟩,
  ⟨some 30, some (28, false), .mov (.t 3)⟩,
  ⟨some 31, some (28, false), .call (.c (.fn 62 [] [])) [.t 29, .t 30]⟩,
  ⟨some 32, some (28, false), .un .not (.t 31)⟩,
  ⟨some 33, none, .pick (.t 28) (.c (.bool true)) (.t 32)⟩]
abbrev c90_r3 : List Ins := [
  ⟨some 8, none, .mov (.c .nilfn)⟩,
  ⟨some 9, none, .mov (.c (.bool false))⟩]
abbrev c90_r4 : List Ins := [
  ⟨some 34, none, .mov (.t 1)⟩,
  ⟨some 35, none, .mov (.t 2)⟩,
  ⟨some 36, none, .iaddr 6 (.t 34) (.t 35)⟩,
  ⟨some 37, none, .load 6 true (.t 36)⟩,
  ⟨some 10, none, .alloc [.int .i64 0, .int .i64 0, .int .i64 0, .bool false, .sl .full [], .sl .full []]⟩,
  ⟨none, none, .store 6 (.t 10) (.t 37)⟩]
abbrev c90_r5 : List Ins := [
  ⟨some 39, none, .load 17 true (.t 4)⟩,
  ⟨some 40, none, .faddr 1 (.t 10)⟩,
  ⟨some 41, none, .load 1 false (.t 40)⟩,
  ⟨some 42, none, .mov (.t 3)⟩,
  ⟨some 43, none, .faddr 2 (.t 10)⟩,
  ⟨some 44, none, .load 1 false (.t 43)⟩,
  ⟨some 45, none, .call (.c (.fn 23 [] [])) [.t 39, .t 41, .t 42, .t 44]⟩,
  ⟨some 38, none, .mov (.t 45)⟩,
  ⟨some 46, none, .ext (.t 38) 0⟩,
  ⟨some 47, none, .ext (.t 38) 1⟩,
  ⟨some 48, none, .ext (.t 38) 2⟩,
  ⟨some 11, none, .alloc [.int .i64 0]⟩,
  ⟨some 12, none, .alloc [.int .i64 0]⟩,
  ⟨none, none, .store 1 (.t 11) (.t 46)⟩,
  ⟨none, none, .store 1 (.t 12) (.t 47)⟩,
  ⟨some 13, none, .mov (.t 48)⟩]
abbrev c90_r6 : List Ins := [
  ⟨some 49, none, .mkfn 127 [] [.t 10, .t 11, .t 12]⟩,
  ⟨some 8, none, .mov (.t 49)⟩,
  ⟨some 9, none, .mov (.c (.bool true))⟩]
abbrev c90 : IR := .seq (.reg c90_r1) (.seq (.seq (.reg c90_r2) (.cond (.t 33) (.seq (.reg c90_r3) (.ret)) (.skip))) (.seq (.reg c90_r4) (.seq (.reg c90_r5) (.seq (.reg c90_r6) (.ret)))))
abbrev F90 : FnA := ⟨50, c90, [.t 8, .t 9]⟩
theorem ok90 : cFn Try.prog 90 = some F90 := by kernel_rfl
theorem hb90 : HasBody Try.prog 90 := ⟨_, Try.func90, by kernel_rfl, by kernel_rfl⟩
/-! slices.IndexFunc:Node -/
abbrev c91_r1 : List Ins := [
  ⟨some 4, none, .mov (.c (.int .i64 0))⟩]
abbrev c91_r2 : List Ins := [
  ⟨some 6, none, .mov (.t 0)⟩,
  ⟨some 7, none, .len (.t 6)⟩,
  ⟨some 8, none, .mov (.c (.int .i64 0))⟩]
abbrev c91_r3 : List Ins := [
  ⟨some 9, none, .bin .lss (.t 8) (.t 7)⟩]
abbrev c91_r4 : List Ins := [
  ⟨some 10, none, .mov (.t 8)⟩,
  ⟨some 5, none, .mov (.t 10)⟩]
abbrev c91_r5 : List Ins := [
  ⟨some 11, none, .mov (.t 1)⟩,
  ⟨some 12, none, .mov (.t 0)⟩,
  ⟨some 13, none, .mov (.t 5)⟩,
  ⟨some 14, none, .iaddr 6 (.t 12) (.t 13)⟩,
  ⟨some 15, none, .load 6 true (.t 14)⟩,
  ⟨some 16, none, .call (.t 11) [.t 15]⟩]
abbrev c91_r6 : List Ins := [
  ⟨some 17, none, .mov (.t 5)⟩,
  ⟨some 4, none, .mov (.t 17)⟩]
abbrev c91_r7 : List Ins := [
  ⟨some 18, none, .bin .add (.t 8) (.c (.int .i64 1))⟩,
  ⟨some 8, none, .mov (.t 18)⟩]
abbrev c91_l8 : IR := .seq (.reg c91_r3) (.seq (.cond (.t 9) (.skip) (.exit 0)) (.seq (.blk 1 (.seq (.reg c91_r4) (.seq (.reg c91_r5) (.cond (.t 16) (.seq (.reg c91_r6) (.ret)) (.skip))))) (.reg c91_r7)))
abbrev c91_r9 : List Ins := [
  ⟨some 4, none, .mov (.c (.int .i64 (-1)))⟩]
abbrev c91 : IR := .seq (.reg c91_r1) (.seq (.seq (.reg c91_r2) (.blk 0 (.loop c91_l8))) (.seq (.reg c91_r9) (.ret)))
abbrev F91 : FnA := ⟨19, c91, [.t 4]⟩
theorem ok91 : cFn Try.prog 91 = some F91 := by kernel_rfl
theorem hb91 : HasBody Try.prog 91 := ⟨_, Try.func91, by kernel_rfl, by kernel_rfl⟩
/-! slices.Backward:Node -/
abbrev c92_r1 : List Ins := [
  ⟨some 1, none, .box (.t 0)⟩,
  ⟨some 2, none, .mov (.c .nilfn)⟩]
abbrev c92_r2 : List Ins := [
  ⟨some 3, none, .mkfn 128 [] [.t 1]⟩,
  ⟨some 2, none, .mov (.t 3)⟩]
abbrev c92 : IR := .seq (.reg c92_r1) (.seq (.reg c92_r2) (.ret))
abbrev F92 : FnA := ⟨4, c92, [.t 2]⟩
theorem ok92 : cFn Try.prog 92 = some F92 := by kernel_rfl
theorem hb92 : HasBody Try.prog 92 := ⟨_, Try.func92, by kernel_rfl, by kernel_rfl⟩
/-! ref09.May -/
abbrev c93_r1 : List Ins := [
  ⟨some 4, none, .mov (.c (.bool false))⟩]
abbrev c93_r2 : List Ins := [
  ⟨some 6, none, .mov (.t 1)⟩,
  ⟨some 7, none, .bin .lss (.t 6) (.c (.int .i64 0))⟩,
  ⟨some 8, none, .mov (.t 7)⟩,
  ⟨some 9, some (8, false), .mov (.t 1)⟩,
  ⟨some 10, some (8, false), .bin .gtr (.t 9) (.c (.int .i64 3))⟩,
  ⟨some 11, none, .pick (.t 8) (.c (.bool true)) (.t 10)⟩,
  ⟨some 12, none, .mov (.t 11)⟩,
  ⟨some 13, some (12, false), .mov (.t 0)⟩,
  ⟨some 14, some (12, false), .len (.t 13)⟩,
  ⟨some 15, some (12, false), .bin .lss (.t 14) (.c (.int .i64 1))⟩,
  ⟨some 16, none, .pick (.t 12) (.c (.bool true)) (.t 15)⟩,
  ⟨some 17, none, .mov (.t 16)⟩,
  ⟨some 18, some (17, false), .mov (.t 0)⟩,
  ⟨some 19, some (17, false), .len (.t 18)⟩,
  ⟨some 20, some (17, false), .bin .gtr (.t 19) (.c (.int .i64 8))⟩,
  ⟨some 21, none, .pick (.t 17) (.c (.bool true)) (.t 20)⟩]
abbrev c93_r3 : List Ins := [
  ⟨some 4, none, .mov (.c (.bool false))⟩]
abbrev c93_r4 : List Ins := [
  ⟨some 5, none, .mov (.c (.int .i64 0))⟩]
abbrev c93_r5 : List Ins := [
  ⟨some 22, none, .mov (.t 5)⟩,
  ⟨some 23, none, .mov (.t 0)⟩,
  ⟨some 24, none, .len (.t 23)⟩,
  ⟨some 25, none, .bin .lss (.t 22) (.t 24)⟩]
abbrev c93_r6 : List Ins := [
  ⟨some 28, none, .mov (.t 0)⟩,
  ⟨some 29, none, .mov (.t 5)⟩,
  ⟨some 30, none, .iaddr 9 (.t 28) (.t 29)⟩,
  ⟨some 31, none, .load 9 true (.t 30)⟩,
  ⟨some 32, none, .mov (.t 1)⟩,
  ⟨some 33, none, .call (.c (.fn 129 [] [])) [.t 31, .t 32]⟩,
  ⟨some 34, none, .un .not (.t 33)⟩]
abbrev c93_r7 : List Ins := [
  ⟨some 4, none, .mov (.c (.bool false))⟩]
abbrev c93_r8 : List Ins := [
  ⟨some 26, none, .mov (.t 5)⟩,
  ⟨some 27, none, .bin .add (.t 26) (.c (.int .i64 1))⟩,
  ⟨some 5, none, .mov (.t 27)⟩]
abbrev c93_l9 : IR := .seq (.seq (.reg c93_r5) (.cond (.t 25) (.skip) (.exit 0))) (.seq (.blk 1 (.seq (.reg c93_r6) (.cond (.t 34) (.seq (.reg c93_r7) (.ret)) (.skip)))) (.reg c93_r8))
abbrev c93_r10 : List Ins := [
  ⟨some 4, none, .mov (.c (.bool true))⟩]
abbrev c93 : IR := .seq (.reg c93_r1) (.seq (.seq (.reg c93_r2) (.cond (.t 21) (.seq (.reg c93_r3) (.ret)) (.skip))) (.seq (.seq (.reg c93_r4) (.blk 0 (.loop c93_l9))) (.seq (.reg c93_r10) (.ret))))
abbrev F93 : FnA := ⟨35, c93, [.t 4]⟩
theorem ok93 : cFn Try.prog 93 = some F93 := by kernel_rfl
theorem hb93 : HasBody Try.prog 93 := ⟨_, Try.func93, by kernel_rfl, by kernel_rfl⟩
/-! ref10.May -/
abbrev c94_r1 : List Ins := [
  ⟨some 4, none, .mov (.c (.bool false))⟩]
abbrev c94_r2 : List Ins := [
  ⟨some 6, none, .mov (.t 1)⟩,
  ⟨some 7, none, .bin .lss (.t 6) (.c (.int .i64 0))⟩,
  ⟨some 8, none, .mov (.t 7)⟩,
  ⟨some 9, some (8, false), .mov (.t 1)⟩,
  ⟨some 10, some (8, false), .bin .gtr (.t 9) (.c (.int .i64 3))⟩,
  ⟨some 11, none, .pick (.t 8) (.c (.bool true)) (.t 10)⟩,
  ⟨some 12, none, .mov (.t 11)⟩,
  ⟨some 13, some (12, false), .mov (.t 0)⟩,
  ⟨some 14, some (12, false), .len (.t 13)⟩,
  ⟨some 15, some (12, false), .bin .gtr (.t 14) (.c (.int .i64 4))⟩,
  ⟨some 16, none, .pick (.t 12) (.c (.bool true)) (.t 15)⟩]
abbrev c94_r3 : List Ins := [
  ⟨some 4, none, .mov (.c (.bool false))⟩]
abbrev c94_r4 : List Ins := [
  ⟨some 5, none, .mov (.c (.int .i64 0))⟩]
abbrev c94_r5 : List Ins := [
  ⟨some 17, none, .mov (.t 5)⟩,
  ⟨some 18, none, .mov (.t 0)⟩,
  ⟨some 19, none, .len (.t 18)⟩,
  ⟨some 20, none, .bin .lss (.t 17) (.t 19)⟩]
abbrev c94_r6 : List Ins := [
  ⟨some 23, none, .mov (.t 0)⟩,
  ⟨some 24, none, .mov (.t 5)⟩,
  ⟨some 25, none, .iaddr 5 (.t 23) (.t 24)⟩,
  ⟨some 26, none, .faddr 0 (.t 25)⟩,
  ⟨some 27, none, .load 2 true (.t 26)⟩,
  ⟨some 28, none, .mov (.t 1)⟩,
  ⟨some 29, none, .call (.c (.fn 130 [] [])) [.t 27, .t 28]⟩,
  ⟨some 30, none, .un .not (.t 29)⟩,
  ⟨some 31, none, .mov (.t 30)⟩,
  ⟨some 32, some (31, false), .mov (.t 0)⟩,
  ⟨some 33, some (31, false), .mov (.t 5)⟩,
  ⟨some 34, some (31, false), .iaddr 5 (.t 32) (.t 33)⟩,
  ⟨some 35, some (31, false), .faddr 2 (.t 34)⟩,
  ⟨some 36, some (31, false), .load 2 true (.t 35)⟩,
  ⟨some 37, some (31, false), .mov (.t 1)⟩,
  ⟨some 38, some (31, false), .call (.c (.fn 130 [] [])) [.t 36, .t 37]⟩,
  ⟨some 39, some (31, false), .un .not (.t 38)⟩,
  ⟨some 40, none, .pick (.t 31) (.c (.bool true)) (.t 39)⟩]
abbrev c94_r7 : List Ins := [
  ⟨some 4, none, .mov (.c (.bool false))⟩]
abbrev c94_r8 : List Ins := [
  ⟨some 21, none, .mov (.t 5)⟩,
  ⟨some 22, none, .bin .add (.t 21) (.c (.int .i64 1))⟩,
  ⟨some 5, none, .mov (.t 22)⟩]
abbrev c94_l9 : IR := .seq (.seq (.reg c94_r5) (.cond (.t 20) (.skip) (.exit 0))) (.seq (.blk 1 (.seq (.reg c94_r6) (.cond (.t 40) (.seq (.reg c94_r7) (.ret)) (.skip)))) (.reg c94_r8))
abbrev c94_r10 : List Ins := [
  ⟨some 4, none, .mov (.c (.bool true))⟩]
abbrev c94 : IR := .seq (.reg c94_r1) (.seq (.seq (.reg c94_r2) (.cond (.t 16) (.seq (.reg c94_r3) (.ret)) (.skip))) (.seq (.seq (.reg c94_r4) (.blk 0 (.loop c94_l9))) (.seq (.reg c94_r10) (.ret))))
abbrev F94 : FnA := ⟨41, c94, [.t 4]⟩
theorem ok94 : cFn Try.prog 94 = some F94 := by kernel_rfl
theorem hb94 : HasBody Try.prog 94 := ⟨_, Try.func94, by kernel_rfl, by kernel_rfl⟩
/-! class.each -/
abbrev c95_r1 : List Ins := [
  ⟨some 1, none, .box (.t 0)⟩,
  ⟨some 2, none, .mov (.c .nilfn)⟩]
abbrev c95_r2 : List Ins := [
  ⟨some 3, none, .mkfn 131 [] [.t 1]⟩,
  ⟨some 2, none, .mov (.t 3)⟩]
abbrev c95 : IR := .seq (.reg c95_r1) (.seq (.reg c95_r2) (.ret))
abbrev F95 : FnA := ⟨4, c95, [.t 2]⟩
theorem ok95 : cFn Try.prog 95 = some F95 := by kernel_rfl
theorem hb95 : HasBody Try.prog 95 := ⟨_, Try.func95, by kernel_rfl, by kernel_rfl⟩
/-! codes.Writer.put -/
abbrev c101_r1 : List Ins := [
  ⟨some 4, none, .mov (.t 0)⟩,
  ⟨some 5, none, .mov (.t 0)⟩,
  ⟨some 6, none, .nilck (.t 5)⟩,
  ⟨some 7, none, .faddr 0 (.t 6)⟩,
  ⟨some 8, none, .load 1 false (.t 7)⟩,
  ⟨some 9, none, .mov (.t 1)⟩,
  ⟨some 10, none, .append 1 8 (.t 8) (.t 9)⟩,
  ⟨some 11, none, .nilck (.t 4)⟩,
  ⟨some 12, none, .faddr 0 (.t 11)⟩,
  ⟨none, none, .store 1 (.t 12) (.t 10)⟩]
abbrev c101 : IR := .reg c101_r1
abbrev F101 : FnA := ⟨13, c101, []⟩
theorem ok101 : cFn Try.prog 101 = some F101 := by kernel_rfl
theorem hb101 : HasBody Try.prog 101 := ⟨_, Try.func101, by kernel_rfl, by kernel_rfl⟩
/-! codes.packed -/
abbrev c102_r1 : List Ins := [
  ⟨some 2, none, .mov (.c (.sl .full []))⟩]
abbrev c102_r2 : List Ins := [
  ⟨some 5, none, .mov (.t 0)⟩,
  ⟨some 6, none, .lenS (.t 5)⟩,
  ⟨some 7, none, .bin .add (.t 6) (.c (.int .i64 8))⟩,
  ⟨some 8, none, .bin .sub (.t 7) (.c (.int .i64 1))⟩,
  ⟨some 9, none, .bin .quo (.t 8) (.c (.int .i64 8))⟩,
  ⟨some 10, none, .mksl 1 8 [.int .u64 0] (.t 9) (.t 9)⟩,
  ⟨some 3, none, .mov (.t 10)⟩]
abbrev c102_r3 : List Ins := [
  ⟨some 11, none, .mov (.t 0)⟩,
  ⟨some 12, none, .lenS (.t 11)⟩,
  ⟨some 13, none, .mov (.c (.int .i64 0))⟩]
abbrev c102_r4 : List Ins := [
  ⟨some 14, none, .bin .lss (.t 13) (.t 12)⟩]
abbrev c102_r5 : List Ins := [
  ⟨some 15, none, .mov (.t 13)⟩,
  ⟨some 4, none, .mov (.t 15)⟩]
abbrev c102_r6 : List Ins := [
  ⟨some 16, none, .mov (.t 3)⟩,
  ⟨some 17, none, .mov (.t 4)⟩,
  ⟨some 18, none, .bin .quo (.t 17) (.c (.int .i64 8))⟩,
  ⟨some 19, none, .iaddr 1 (.t 16) (.t 18)⟩,
  ⟨some 20, none, .load 1 false (.t 19)⟩,
  ⟨some 21, none, .mov (.t 0)⟩,
  ⟨some 22, none, .mov (.t 4)⟩,
  ⟨some 23, none, .idxS (.t 21) (.t 22)⟩,
  ⟨some 24, none, .conv .u64 (.t 23)⟩,
  ⟨some 25, none, .mov (.t 4)⟩,
  ⟨some 26, none, .bin .rem (.t 25) (.c (.int .i64 8))⟩,
  ⟨some 27, none, .bin .mul (.c (.int .i64 8)) (.t 26)⟩,
  ⟨some 28, none, .bin .shl (.t 24) (.t 27)⟩,
  ⟨some 29, none, .bin .or (.t 20) (.t 28)⟩,
  ⟨some 30, none, .iaddr 1 (.t 16) (.t 18)⟩,
  ⟨none, none, .store 1 (.t 30) (.t 29)⟩]
def c102_a6 : List (List Nat) := [[], [], [1], [0, 2], [3], [], [], [5, 6], [7], [], [9], [10], [8, 11], [4, 12], [0, 2, 0, 1, 2, 3, 4, 5, 6, 7, 8, 9, 10, 11, 12, 13], [14, 13, 0, 1, 2, 3, 4, 5, 6, 7, 8, 9, 10, 11, 12, 13]]
abbrev c102_m6 : List Am.Mark := [⟨false, 0, 0⟩, ⟨false, 0, 0⟩, ⟨false, 0, 0⟩, ⟨false, 0, 0⟩, ⟨false, 0, 0⟩, ⟨false, 0, 0⟩, ⟨false, 0, 0⟩, ⟨false, 0, 0⟩, ⟨false, 0, 0⟩, ⟨false, 0, 0⟩, ⟨false, 0, 0⟩, ⟨false, 0, 0⟩, ⟨false, 0, 0⟩, ⟨false, 0, 0⟩, ⟨false, 0, 0⟩, ⟨true, 0, 1⟩]
theorem c102_d6 : drawFine c102_r6 c102_a6 c102_m6 = true := by decide +kernel
abbrev c102_r7 : List Ins := [
  ⟨some 31, none, .bin .add (.t 13) (.c (.int .i64 1))⟩,
  ⟨some 13, none, .mov (.t 31)⟩]
abbrev c102_l8 : IR := .seq (.reg c102_r4) (.seq (.cond (.t 14) (.skip) (.exit 0)) (.seq (.blk 1 (.seq (.reg c102_r5) (.dreg c102_r6 c102_a6))) (.reg c102_r7)))
abbrev c102_r9 : List Ins := [
  ⟨some 32, none, .mov (.t 3)⟩,
  ⟨some 2, none, .mov (.t 32)⟩]
abbrev c102 : IR := .seq (.reg c102_r1) (.seq (.reg c102_r2) (.seq (.seq (.reg c102_r3) (.blk 0 (.loop c102_l8))) (.seq (.reg c102_r9) (.ret))))
abbrev F102 : FnA := ⟨33, c102, [.t 2]⟩
theorem ok102 : cFn Try.prog 102 = some F102 := by kernel_rfl
theorem hb102 : HasBody Try.prog 102 := ⟨_, Try.func102, by kernel_rfl, by kernel_rfl⟩
/-! slices.Clone:Class -/
abbrev c103_r1 : List Ins := [
  ⟨some 2, none, .mov (.c (.sl .full []))⟩]
abbrev c103_r2 : List Ins := [
  ⟨some 3, none, .mov (.t 0)⟩,
  ⟨some 4, none, .isnil false (.t 3)⟩]
abbrev c103_r3 : List Ins := [
  ⟨some 2, none, .mov (.c (.sl .full []))⟩]
abbrev c103_r4 : List Ins := [
  ⟨some 5, none, .bsl 5 0 [.str ⟨#[]⟩, .int .i64 0, .sl .full [], .sl .full [], .bool false] []⟩,
  ⟨some 6, none, .mov (.t 0)⟩,
  ⟨some 7, none, .append 5 80 (.t 5) (.t 6)⟩,
  ⟨some 2, none, .mov (.t 7)⟩]
abbrev c103 : IR := .seq (.reg c103_r1) (.seq (.seq (.reg c103_r2) (.cond (.t 4) (.seq (.reg c103_r3) (.ret)) (.skip))) (.seq (.reg c103_r4) (.ret)))
abbrev F103 : FnA := ⟨8, c103, [.t 2]⟩
theorem ok103 : cFn Try.prog 103 = some F103 := by kernel_rfl
theorem hb103 : HasBody Try.prog 103 := ⟨_, Try.func103, by kernel_rfl, by kernel_rfl⟩
/-! cat.steps -/
abbrev c104_r1 : List Ins := [
  ⟨some 2, none, .mov (.c (.sl .full []))⟩]
abbrev c104_r2 : List Ins := [
  ⟨some 6, none, .mov (.t 0)⟩,
  ⟨some 7, none, .call (.c (.fn 137 [] [])) [.t 6]⟩,
  ⟨some 3, none, .mov (.t 7)⟩]
abbrev c104_r3 : List Ins := [
  ⟨some 8, none, .mov (.t 3)⟩,
  ⟨some 9, none, .len (.t 8)⟩,
  ⟨some 10, none, .mov (.c (.int .i64 0))⟩]
abbrev c104_r4 : List Ins := [
  ⟨some 11, none, .bin .lss (.t 10) (.t 9)⟩]
abbrev c104_r5 : List Ins := [
  ⟨some 12, none, .mov (.t 10)⟩,
  ⟨some 13, none, .iaddr 2 (.t 8) (.t 10)⟩,
  ⟨some 14, none, .load 2 true (.t 13)⟩,
  ⟨some 5, none, .alloc [.sl .full [], .sl .full []]⟩,
  ⟨some 4, none, .mov (.t 12)⟩,
  ⟨none, none, .store 2 (.t 5) (.t 14)⟩]
abbrev c104_r6 : List Ins := [
  ⟨some 15, none, .mov (.t 3)⟩,
  ⟨some 16, none, .mov (.t 4)⟩,
  ⟨some 17, none, .faddr 0 (.t 5)⟩,
  ⟨some 18, none, .load 1 false (.t 17)⟩,
  ⟨some 19, none, .call (.c (.fn 138 [] [])) [.t 18]⟩,
  ⟨some 20, none, .faddr 1 (.t 5)⟩,
  ⟨some 21, none, .load 1 false (.t 20)⟩,
  ⟨some 22, none, .call (.c (.fn 139 [] [])) [.t 21]⟩,
  ⟨some 23, none, .build [.sl .full [], .sl .full []] [(0, (1, .t 19)), (1, (1, .t 22))]⟩,
  ⟨some 24, none, .iaddr 2 (.t 15) (.t 16)⟩,
  ⟨none, none, .store 2 (.t 24) (.t 23)⟩]
def c104_a6 : List (List Nat) := [[], [], [], [2], [3], [], [5], [6, 4], [4, 7], [0, 1, 0, 1, 2, 3, 4, 5, 6, 7, 8], [9, 8, 7, 0, 1, 2, 3, 4, 5, 6, 7, 8]]
abbrev c104_m6 : List Am.Mark := [⟨false, 0, 0⟩, ⟨false, 0, 0⟩, ⟨false, 0, 0⟩, ⟨false, 0, 0⟩, ⟨false, 0, 0⟩, ⟨false, 0, 0⟩, ⟨false, 0, 0⟩, ⟨false, 0, 0⟩, ⟨false, 0, 0⟩, ⟨false, 0, 0⟩, ⟨true, 0, 1⟩]
theorem c104_d6 : drawFine c104_r6 c104_a6 c104_m6 = true := by decide +kernel
abbrev c104_r7 : List Ins := [
  ⟨some 25, none, .bin .add (.t 10) (.c (.int .i64 1))⟩,
  ⟨some 10, none, .mov (.t 25)⟩]
abbrev c104_l8 : IR := .seq (.reg c104_r4) (.seq (.cond (.t 11) (.skip) (.exit 0)) (.seq (.blk 1 (.seq (.reg c104_r5) (.dreg c104_r6 c104_a6))) (.reg c104_r7)))
abbrev c104_r9 : List Ins := [
  ⟨some 26, none, .mov (.t 3)⟩,
  ⟨some 2, none, .mov (.t 26)⟩]
abbrev c104 : IR := .seq (.reg c104_r1) (.seq (.reg c104_r2) (.seq (.seq (.reg c104_r3) (.blk 0 (.loop c104_l8))) (.seq (.reg c104_r9) (.ret))))
abbrev F104 : FnA := ⟨27, c104, [.t 2]⟩
theorem ok104 : cFn Try.prog 104 = some F104 := by kernel_rfl
theorem hb104 : HasBody Try.prog 104 := ⟨_, Try.func104, by kernel_rfl, by kernel_rfl⟩
/-! law11.Great -/
abbrev c110_r1 : List Ins := [
  ⟨some 1, none, .box (.t 0)⟩,
  ⟨some 2, none, .mov (.c (.bool false))⟩]
abbrev c110_r2 : List Ins := [
  ⟨some 5, none, .faddr 0 (.t 1)⟩,
  ⟨some 6, none, .load 1 false (.t 5)⟩,
  ⟨some 7, none, .lenS (.t 6)⟩,
  ⟨some 8, none, .bin .gtr (.t 7) (.c (.int .i64 300))⟩,
  ⟨some 9, none, .mov (.t 8)⟩,
  ⟨some 10, some (9, false), .faddr 2 (.t 1)⟩,
  ⟨some 11, some (9, false), .load 1 false (.t 10)⟩,
  ⟨some 12, some (9, false), .len (.t 11)⟩,
  ⟨some 13, some (9, false), .bin .gtr (.t 12) (.c (.int .i64 20))⟩,
  ⟨some 14, none, .pick (.t 9) (.c (.bool true)) (.t 13)⟩,
  ⟨some 15, none, .mov (.t 14)⟩,
  ⟨some 16, some (15, false), .faddr 3 (.t 1)⟩,
  ⟨some 17, some (15, false), .load 1 false (.t 16)⟩,
  ⟨some 18, some (15, false), .len (.t 17)⟩,
  ⟨some 19, some (15, false), .bin .gtr (.t 18) (.c (.int .i64 20))⟩,
  ⟨some 20, none, .pick (.t 15) (.c (.bool true)) (.t 19)⟩]
abbrev c110_r3 : List Ins := [
  ⟨some 2, none, .mov (.c (.bool true))⟩]
abbrev c110_r4 : List Ins := [
  ⟨some 21, none, .bsl 2 0 [.sl .full [], .sl .full []] []⟩,
  ⟨some 22, none, .faddr 2 (.t 1)⟩,
  ⟨some 23, none, .load 1 false (.t 22)⟩,
  ⟨some 24, none, .append 2 48 (.t 21) (.t 23)⟩,
  ⟨some 25, none, .faddr 3 (.t 1)⟩,
  ⟨some 26, none, .load 1 false (.t 25)⟩,
  ⟨some 27, none, .append 2 48 (.t 24) (.t 26)⟩,
  ⟨some 3, none, .mov (.t 27)⟩]
def c110_a4 : List (List Nat) := [[], [], [1], [0, 2], [], [4], [3, 5, 3], [6, 6, 0, 1, 2, 3, 4, 5, 6]]
abbrev c110_m4 : List Am.Mark := [⟨false, 0, 0⟩, ⟨false, 0, 2⟩, ⟨false, 0, 0⟩, ⟨true, 0, 1⟩, ⟨false, 0, 2⟩, ⟨false, 0, 1⟩, ⟨true, 1, 2⟩, ⟨false, 2, 2⟩]
theorem c110_d4 : drawFine c110_r4 c110_a4 c110_m4 = true := by decide +kernel
abbrev c110_r5 : List Ins := [
  ⟨some 4, none, .mov (.c (.int .i64 0))⟩]
abbrev c110_r6 : List Ins := [
  ⟨some 28, none, .mov (.t 4)⟩,
  ⟨some 29, none, .mov (.t 3)⟩,
  ⟨some 30, none, .len (.t 29)⟩,
  ⟨some 31, none, .bin .lss (.t 28) (.t 30)⟩]
abbrev c110_r7 : List Ins := [
  ⟨some 34, none, .mov (.t 3)⟩,
  ⟨some 35, none, .mov (.t 4)⟩,
  ⟨some 36, none, .iaddr 2 (.t 34) (.t 35)⟩,
  ⟨some 37, none, .faddr 0 (.t 36)⟩,
  ⟨some 38, none, .load 1 false (.t 37)⟩,
  ⟨some 39, none, .len (.t 38)⟩,
  ⟨some 40, none, .bin .gtr (.t 39) (.c (.int .i64 40))⟩,
  ⟨some 41, none, .mov (.t 40)⟩,
  ⟨some 42, some (41, false), .mov (.t 3)⟩,
  ⟨some 43, some (41, false), .mov (.t 4)⟩,
  ⟨some 44, some (41, false), .iaddr 2 (.t 42) (.t 43)⟩,
  ⟨some 45, some (41, false), .faddr 1 (.t 44)⟩,
  ⟨some 46, some (41, false), .load 1 false (.t 45)⟩,
  ⟨some 47, some (41, false), .len (.t 46)⟩,
  ⟨some 48, some (41, false), .bin .gtr (.t 47) (.c (.int .i64 40))⟩,
  ⟨some 49, none, .pick (.t 41) (.c (.bool true)) (.t 48)⟩]
abbrev c110_r8 : List Ins := [
  ⟨some 2, none, .mov (.c (.bool true))⟩]
abbrev c110_r9 : List Ins := [
  ⟨some 32, none, .mov (.t 4)⟩,
  ⟨some 33, none, .bin .add (.t 32) (.c (.int .i64 1))⟩,
  ⟨some 4, none, .mov (.t 33)⟩]
abbrev c110_l10 : IR := .seq (.seq (.reg c110_r6) (.cond (.t 31) (.skip) (.exit 0))) (.seq (.blk 1 (.seq (.reg c110_r7) (.cond (.t 49) (.seq (.reg c110_r8) (.ret)) (.skip)))) (.reg c110_r9))
abbrev c110_r11 : List Ins := [
  ⟨some 2, none, .mov (.c (.bool false))⟩]
abbrev c110 : IR := .seq (.reg c110_r1) (.seq (.seq (.reg c110_r2) (.cond (.t 20) (.seq (.reg c110_r3) (.ret)) (.skip))) (.seq (.dreg c110_r4 c110_a4) (.seq (.seq (.reg c110_r5) (.blk 0 (.loop c110_l10))) (.seq (.reg c110_r11) (.ret)))))
abbrev F110 : FnA := ⟨50, c110, [.t 2]⟩
theorem ok110 : cFn Try.prog 110 = some F110 := by kernel_rfl
theorem hb110 : HasBody Try.prog 110 := ⟨_, Try.func110, by kernel_rfl, by kernel_rfl⟩
/-! slices.ContainsFunc:Span -/
abbrev c111_r1 : List Ins := [
  ⟨some 4, none, .mov (.c (.bool false))⟩]
abbrev c111_r2 : List Ins := [
  ⟨some 5, none, .mov (.t 0)⟩,
  ⟨some 6, none, .mov (.t 1)⟩,
  ⟨some 7, none, .call (.c (.fn 140 [] [])) [.t 5, .t 6]⟩,
  ⟨some 8, none, .bin .geq (.t 7) (.c (.int .i64 0))⟩,
  ⟨some 4, none, .mov (.t 8)⟩]
abbrev c111 : IR := .seq (.reg c111_r1) (.seq (.reg c111_r2) (.ret))
abbrev F111 : FnA := ⟨9, c111, [.t 4]⟩
theorem ok111 : cFn Try.prog 111 = some F111 := by kernel_rfl
theorem hb111 : HasBody Try.prog 111 := ⟨_, Try.func111, by kernel_rfl, by kernel_rfl⟩
/-! units.spans$1 -/
abbrev c112_r1 : List Ins := [
  ⟨some 1, none, .box (.t 0)⟩,
  ⟨some 2, none, .mov (.c (.bool false))⟩]
abbrev c112_r2 : List Ins := [
  ⟨some 3, none, .load 2 true (.t 1)⟩,
  ⟨some 4, none, .call (.c (.fn 113 [] [])) [.t 3]⟩,
  ⟨some 5, none, .un .not (.t 4)⟩,
  ⟨some 2, none, .mov (.t 5)⟩]
abbrev c112 : IR := .seq (.reg c112_r1) (.seq (.reg c112_r2) (.ret))
abbrev F112 : FnA := ⟨6, c112, [.t 2]⟩
theorem ok112 : cFn Try.prog 112 = some F112 := by kernel_rfl
theorem hb112 : HasBody Try.prog 112 := ⟨_, Try.func112, by kernel_rfl, by kernel_rfl⟩
/-! keys.May -/
abbrev c113_r1 : List Ins := [
  ⟨some 1, none, .box (.t 0)⟩,
  ⟨some 2, none, .mov (.c (.bool false))⟩]
abbrev c113_r2 : List Ins := [
  ⟨some 3, none, .faddr 0 (.t 1)⟩,
  ⟨some 4, none, .load 1 false (.t 3)⟩,
  ⟨some 5, none, .bin .geq (.t 4) (.c (.int .i64 0))⟩,
  ⟨some 6, none, .mov (.t 5)⟩,
  ⟨some 7, some (6, true), .faddr 0 (.t 1)⟩,
  ⟨some 8, some (6, true), .load 1 false (.t 7)⟩,
  ⟨some 9, some (6, true), .faddr 1 (.t 1)⟩,
  ⟨some 10, some (6, true), .load 1 false (.t 9)⟩,
  ⟨some 11, some (6, true), .bin .leq (.t 8) (.t 10)⟩,
  ⟨some 12, none, .pick (.t 6) (.t 11) (.c (.bool false))⟩,
  ⟨some 13, none, .mov (.t 12)⟩,
  ⟨some 14, some (13, true), .faddr 1 (.t 1)⟩,
  ⟨some 15, some (13, true), .load 1 false (.t 14)⟩,
  ⟨some 16, some (13, true), .bin .leq (.t 15) (.c (.int .i64 999))⟩,
  ⟨some 17, none, .pick (.t 13) (.t 16) (.c (.bool false))⟩,
  ⟨some 2, none, .mov (.t 17)⟩]
abbrev c113 : IR := .seq (.reg c113_r1) (.seq (.reg c113_r2) (.ret))
abbrev F113 : FnA := ⟨18, c113, [.t 2]⟩
theorem ok113 : cFn Try.prog 113 = some F113 := by kernel_rfl
theorem hb113 : HasBody Try.prog 113 := ⟨_, Try.func113, by kernel_rfl, by kernel_rfl⟩
/-! slices.ContainsFunc:Class -/
abbrev c114_r1 : List Ins := [
  ⟨some 4, none, .mov (.c (.bool false))⟩]
abbrev c114_r2 : List Ins := [
  ⟨some 5, none, .mov (.t 0)⟩,
  ⟨some 6, none, .mov (.t 1)⟩,
  ⟨some 7, none, .call (.c (.fn 141 [] [])) [.t 5, .t 6]⟩,
  ⟨some 8, none, .bin .geq (.t 7) (.c (.int .i64 0))⟩,
  ⟨some 4, none, .mov (.t 8)⟩]
abbrev c114 : IR := .seq (.reg c114_r1) (.seq (.reg c114_r2) (.ret))
abbrev F114 : FnA := ⟨9, c114, [.t 4]⟩
theorem ok114 : cFn Try.prog 114 = some F114 := by kernel_rfl
theorem hb114 : HasBody Try.prog 114 := ⟨_, Try.func114, by kernel_rfl, by kernel_rfl⟩
/-! cat.named$1 -/
abbrev c115_r1 : List Ins := [
  ⟨some 2, none, .box (.t 0)⟩,
  ⟨some 3, none, .mov (.c (.bool false))⟩]
abbrev c115_r2 : List Ins := [
  ⟨some 4, none, .faddr 0 (.t 2)⟩,
  ⟨some 5, none, .load 1 false (.t 4)⟩,
  ⟨some 6, none, .faddr 0 (.t 1)⟩,
  ⟨some 7, none, .load 1 false (.t 6)⟩,
  ⟨some 8, none, .bin .eql (.t 5) (.t 7)⟩,
  ⟨some 3, none, .mov (.t 8)⟩]
abbrev c115 : IR := .seq (.reg c115_r1) (.seq (.reg c115_r2) (.ret))
abbrev F115 : FnA := ⟨9, c115, [.t 3]⟩
theorem ok115 : cFn Try.prog 115 = some F115 := by kernel_rfl
theorem hb115 : HasBody Try.prog 115 := ⟨_, Try.func115, by kernel_rfl, by kernel_rfl⟩
/-! cat.pairs$1 -/
abbrev c116_r1 : List Ins := [
  ⟨some 6, none, .faddr 0 (.t 1)⟩,
  ⟨some 7, none, .load 1 false (.t 6)⟩,
  ⟨some 8, none, .len (.t 7)⟩,
  ⟨some 9, none, .mn [.t 8, .c (.int .i64 4)]⟩,
  ⟨some 3, none, .mov (.t 9)⟩]
abbrev c116_r2 : List Ins := [
  ⟨some 10, none, .mov (.t 3)⟩,
  ⟨some 11, none, .mov (.c (.int .i64 0))⟩]
abbrev c116_r3 : List Ins := [
  ⟨some 12, none, .bin .lss (.t 11) (.t 10)⟩]
abbrev c116_r4 : List Ins := [
  ⟨some 13, none, .mov (.t 11)⟩,
  ⟨some 4, none, .mov (.t 13)⟩]
abbrev c116_r5 : List Ins := [
  ⟨some 14, none, .mov (.t 3)⟩,
  ⟨some 15, none, .mov (.c (.int .i64 0))⟩]
abbrev c116_r6 : List Ins := [
  ⟨some 16, none, .bin .lss (.t 15) (.t 14)⟩]
abbrev c116_r7 : List Ins := [
  ⟨some 17, none, .mov (.t 15)⟩,
  ⟨some 5, none, .mov (.t 17)⟩]
abbrev c116_r8 : List Ins := [
  ⟨some 18, none, .mov (.t 0)⟩,
  ⟨some 19, none, .mov (.t 4)⟩,
  ⟨some 20, none, .mov (.t 5)⟩,
  ⟨some 21, none, .call (.t 18) [.t 19, .t 20]⟩,
  ⟨some 22, none, .un .not (.t 21)⟩]
abbrev c116_r9 : List Ins := [
  ⟨some 23, none, .bin .add (.t 15) (.c (.int .i64 1))⟩,
  ⟨some 15, none, .mov (.t 23)⟩]
abbrev c116_l10 : IR := .seq (.reg c116_r6) (.seq (.cond (.t 16) (.skip) (.exit 2)) (.seq (.blk 3 (.seq (.reg c116_r7) (.seq (.reg c116_r8) (.cond (.t 22) (.ret) (.skip))))) (.reg c116_r9)))
abbrev c116_r11 : List Ins := [
  ⟨some 24, none, .bin .add (.t 11) (.c (.int .i64 1))⟩,
  ⟨some 11, none, .mov (.t 24)⟩]
abbrev c116_l12 : IR := .seq (.reg c116_r3) (.seq (.cond (.t 12) (.skip) (.exit 0)) (.seq (.blk 1 (.seq (.reg c116_r4) (.seq (.reg c116_r5) (.blk 2 (.loop c116_l10))))) (.reg c116_r11)))
abbrev c116 : IR := .seq (.reg c116_r1) (.seq (.reg c116_r2) (.blk 0 (.loop c116_l12)))
abbrev F116 : FnA := ⟨25, c116, []⟩
theorem ok116 : cFn Try.prog 116 = some F116 := by kernel_rfl
theorem hb116 : HasBody Try.prog 116 := ⟨_, Try.func116, by kernel_rfl, by kernel_rfl⟩
/-! prog.May -/
abbrev c119_r1 : List Ins := [
  ⟨some 3, none, .box (.t 1)⟩,
  ⟨some 4, none, .mov (.c (.bool false))⟩]
abbrev c119_r2 : List Ins := [
  ⟨some 5, none, .load 1 false (.t 3)⟩,
  ⟨some 6, none, .bin .lss (.t 5) (.c (.int .i64 0))⟩,
  ⟨some 7, none, .mov (.t 6)⟩,
  ⟨some 8, some (7, false), .load 1 false (.t 3)⟩,
  ⟨some 9, some (7, false), .bin .gtr (.t 8) (.c (.int .i64 3))⟩,
  ⟨some 10, none, .pick (.t 7) (.c (.bool true)) (.t 9)⟩,
  ⟨some 11, none, .mov (.t 10)⟩,
  ⟨some 12, some (11, false), .mov (.t 0)⟩,
  ⟨some 13, some (11, false), .len (.t 12)⟩,
  ⟨some 14, some (11, false), .bin .lss (.t 13) (.c (.int .i64 1))⟩,
  ⟨some 15, none, .pick (.t 11) (.c (.bool true)) (.t 14)⟩,
  ⟨some 16, none, .mov (.t 15)⟩,
  ⟨some 17, some (16, false), .mov (.t 0)⟩,
  ⟨some 18, some (16, false), .len (.t 17)⟩,
  ⟨some 19, some (16, false), .bin .gtr (.t 18) (.c (.int .i64 8))⟩,
  ⟨some 20, none, .pick (.t 16) (.c (.bool true)) (.t 19)⟩]
abbrev c119_r3 : List Ins := [
  ⟨some 4, none, .mov (.c (.bool false))⟩]
abbrev c119_r4 : List Ins := [
  ⟨some 21, none, .mov (.t 0)⟩,
  ⟨some 22, none, .mkfn 143 [] [.t 3]⟩,
  ⟨some 23, none, .call (.c (.fn 142 [] [])) [.t 21, .t 22]⟩,
  ⟨some 24, none, .un .not (.t 23)⟩,
  ⟨some 4, none, .mov (.t 24)⟩]
abbrev c119 : IR := .seq (.reg c119_r1) (.seq (.seq (.reg c119_r2) (.cond (.t 20) (.seq (.reg c119_r3) (.ret)) (.skip))) (.seq (.reg c119_r4) (.ret)))
abbrev F119 : FnA := ⟨25, c119, [.t 4]⟩
theorem ok119 : cFn Try.prog 119 = some F119 := by kernel_rfl
theorem hb119 : HasBody Try.prog 119 := ⟨_, Try.func119, by kernel_rfl, by kernel_rfl⟩
/-! foot.May -/
abbrev c120_r1 : List Ins := [
  ⟨some 3, none, .box (.t 1)⟩,
  ⟨some 4, none, .mov (.c (.bool false))⟩]
abbrev c120_r2 : List Ins := [
  ⟨some 6, none, .mkfn 145 [] [.t 3]⟩,
  ⟨some 5, none, .mov (.t 6)⟩]
abbrev c120_r3 : List Ins := [
  ⟨some 7, none, .load 1 false (.t 3)⟩,
  ⟨some 8, none, .bin .geq (.t 7) (.c (.int .i64 0))⟩,
  ⟨some 9, none, .mov (.t 8)⟩,
  ⟨some 10, some (9, true), .load 1 false (.t 3)⟩,
  ⟨some 11, some (9, true), .bin .leq (.t 10) (.c (.int .i64 3))⟩,
  ⟨some 12, none, .pick (.t 9) (.t 11) (.c (.bool false))⟩,
  ⟨some 13, none, .mov (.t 12)⟩,
  ⟨some 14, some (13, true), .mov (.t 0)⟩,
  ⟨some 15, some (13, true), .len (.t 14)⟩,
  ⟨some 16, some (13, true), .bin .leq (.t 15) (.c (.int .i64 4))⟩,
  ⟨some 17, none, .pick (.t 13) (.t 16) (.c (.bool false))⟩,
  ⟨some 18, none, .mov (.t 17)⟩,
  ⟨some 19, some (18, true), .mov (.t 0)⟩,
  ⟨some 20, some (18, true), .mov (.t 5)⟩,
  ⟨some 21, some (18, true), .call (.c (.fn 147 [] [])) [.t 19, .t 20]⟩,
  ⟨some 22, some (18, true), .un .not (.t 21)⟩,
  ⟨some 23, none, .pick (.t 18) (.t 22) (.c (.bool false))⟩,
  ⟨some 4, none, .mov (.t 23)⟩]
abbrev c120 : IR := .seq (.reg c120_r1) (.seq (.reg c120_r2) (.seq (.reg c120_r3) (.ret)))
abbrev F120 : FnA := ⟨24, c120, [.t 4]⟩
theorem ok120 : cFn Try.prog 120 = some F120 := by kernel_rfl
theorem hb120 : HasBody Try.prog 120 := ⟨_, Try.func120, by kernel_rfl, by kernel_rfl⟩
/-! class.mayComp -/
abbrev c121_r1 : List Ins := [
  ⟨some 2, none, .box (.t 0)⟩,
  ⟨some 4, none, .mov (.c (.bool false))⟩]
abbrev c121_r2 : List Ins := [
  ⟨some 5, none, .faddr 0 (.t 2)⟩,
  ⟨some 6, none, .load 1 false (.t 5)⟩,
  ⟨some 7, none, .len (.t 6)⟩,
  ⟨some 8, none, .bin .eql (.t 7) (.c (.int .i64 0))⟩,
  ⟨some 9, none, .mov (.t 8)⟩,
  ⟨some 10, some (9, false), .faddr 0 (.t 2)⟩,
  ⟨some 11, some (9, false), .load 1 false (.t 10)⟩,
  ⟨some 12, some (9, false), .mov (.t 1)⟩,
  ⟨some 13, some (9, false), .call (.c (.fn 119 [] [])) [.t 11, .t 12]⟩,
  ⟨some 14, some (9, false), .mov (.t 13)⟩,
  ⟨some 15, some (14, true), .faddr 0 (.t 2)⟩,
  ⟨some 16, some (14, true), .load 1 false (.t 15)⟩,
  ⟨some 17, some (14, true), .call (.c (.fn 148 [] [])) [.t 16]⟩,
  ⟨some 18, some (9, false), .pick (.t 14) (.t 17) (.c (.bool false))⟩,
  ⟨some 19, none, .pick (.t 9) (.c (.bool true)) (.t 18)⟩,
  ⟨some 20, none, .mov (.t 19)⟩,
  ⟨some 21, some (20, true), .faddr 1 (.t 2)⟩,
  ⟨some 22, some (20, true), .load 1 false (.t 21)⟩,
  ⟨some 23, some (20, true), .mov (.t 1)⟩,
  ⟨some 24, some (20, true), .call (.c (.fn 120 [] [])) [.t 22, .t 23]⟩,
  ⟨some 25, none, .pick (.t 20) (.t 24) (.c (.bool false))⟩,
  ⟨some 4, none, .mov (.t 25)⟩]
abbrev c121 : IR := .seq (.reg c121_r1) (.seq (.reg c121_r2) (.ret))
abbrev F121 : FnA := ⟨26, c121, [.t 4]⟩
theorem ok121 : cFn Try.prog 121 = some F121 := by kernel_rfl
theorem hb121 : HasBody Try.prog 121 := ⟨_, Try.func121, by kernel_rfl, by kernel_rfl⟩
/-! units.unit$1 -/
abbrev c127_r1 : List Ins := [
  ⟨some 4, none, .box (.t 0)⟩,
  ⟨some 5, none, .mov (.c (.bool false))⟩]
abbrev c127_r2 : List Ins := [
  ⟨some 6, none, .faddr 3 (.t 1)⟩,
  ⟨some 7, none, .load 1 false (.t 6)⟩,
  ⟨some 8, none, .mov (.t 7)⟩,
  ⟨some 9, some (8, false), .faddr 3 (.t 4)⟩,
  ⟨some 10, some (8, false), .load 1 false (.t 9)⟩,
  ⟨some 11, none, .pick (.t 8) (.c (.bool true)) (.t 10)⟩]
abbrev c127_r3 : List Ins := [
  ⟨some 12, none, .faddr 0 (.t 4)⟩,
  ⟨some 13, none, .load 1 false (.t 12)⟩,
  ⟨some 14, none, .faddr 0 (.t 1)⟩,
  ⟨some 15, none, .load 1 false (.t 14)⟩,
  ⟨some 16, none, .bin .eql (.t 13) (.t 15)⟩,
  ⟨some 17, none, .mov (.t 16)⟩,
  ⟨some 18, some (17, true), .faddr 3 (.t 4)⟩,
  ⟨some 19, some (17, true), .load 1 false (.t 18)⟩,
  ⟨some 20, some (17, true), .faddr 3 (.t 1)⟩,
  ⟨some 21, some (17, true), .load 1 false (.t 20)⟩,
  ⟨some 22, some (17, true), .eq [.b] false false (.t 19) (.t 21)⟩,
  ⟨some 23, none, .pick (.t 17) (.t 22) (.c (.bool false))⟩,
  ⟨some 24, none, .mov (.t 23)⟩,
  ⟨some 25, some (24, true), .faddr 2 (.t 4)⟩,
  ⟨some 26, some (24, true), .load 1 false (.t 25)⟩,
  ⟨some 27, some (24, true), .faddr 2 (.t 1)⟩,
  ⟨some 28, some (24, true), .load 1 false (.t 27)⟩,
  ⟨some 29, some (24, true), .bin .eql (.t 26) (.t 28)⟩,
  ⟨some 30, none, .pick (.t 24) (.t 29) (.c (.bool false))⟩,
  ⟨some 5, none, .mov (.t 30)⟩]
abbrev c127_r4 : List Ins := [
  ⟨some 31, none, .faddr 0 (.t 4)⟩,
  ⟨some 32, none, .load 1 false (.t 31)⟩,
  ⟨some 33, none, .faddr 0 (.t 1)⟩,
  ⟨some 34, none, .load 1 false (.t 33)⟩,
  ⟨some 35, none, .bin .eql (.t 32) (.t 34)⟩,
  ⟨some 36, none, .mov (.t 35)⟩,
  ⟨some 37, some (36, true), .faddr 2 (.t 4)⟩,
  ⟨some 38, some (36, true), .load 1 false (.t 37)⟩,
  ⟨some 39, some (36, true), .load 1 false (.t 2)⟩,
  ⟨some 40, some (36, true), .bin .geq (.t 38) (.t 39)⟩,
  ⟨some 41, none, .pick (.t 36) (.t 40) (.c (.bool false))⟩,
  ⟨some 42, none, .mov (.t 41)⟩,
  ⟨some 43, some (42, true), .faddr 2 (.t 4)⟩,
  ⟨some 44, some (42, true), .load 1 false (.t 43)⟩,
  ⟨some 45, some (42, true), .load 1 false (.t 3)⟩,
  ⟨some 46, some (42, true), .bin .leq (.t 44) (.t 45)⟩,
  ⟨some 47, none, .pick (.t 42) (.t 46) (.c (.bool false))⟩,
  ⟨some 5, none, .mov (.t 47)⟩]
abbrev c127 : IR := .seq (.reg c127_r1) (.seq (.seq (.reg c127_r2) (.cond (.t 11) (.seq (.reg c127_r3) (.ret)) (.skip))) (.seq (.reg c127_r4) (.ret)))
abbrev F127 : FnA := ⟨48, c127, [.t 5]⟩
theorem ok127 : cFn Try.prog 127 = some F127 := by kernel_rfl
theorem hb127 : HasBody Try.prog 127 := ⟨_, Try.func127, by kernel_rfl, by kernel_rfl⟩
/-! slices.Backward:Node$1 -/
abbrev c128_r1 : List Ins := [
  ⟨some 4, none, .load 1 false (.t 1)⟩,
  ⟨some 5, none, .len (.t 4)⟩,
  ⟨some 6, none, .bin .sub (.t 5) (.c (.int .i64 1))⟩,
  ⟨some 3, none, .mov (.t 6)⟩]
abbrev c128_r2 : List Ins := [
  ⟨some 7, none, .mov (.t 3)⟩,
  ⟨some 8, none, .bin .geq (.t 7) (.c (.int .i64 0))⟩]
abbrev c128_r3 : List Ins := [
  ⟨some 11, none, .mov (.t 0)⟩,
  ⟨some 12, none, .mov (.t 3)⟩,
  ⟨some 13, none, .load 1 false (.t 1)⟩,
  ⟨some 14, none, .mov (.t 3)⟩,
  ⟨some 15, none, .iaddr 6 (.t 13) (.t 14)⟩,
  ⟨some 16, none, .load 6 true (.t 15)⟩,
  ⟨some 17, none, .call (.t 11) [.t 12, .t 16]⟩,
  ⟨some 18, none, .un .not (.t 17)⟩]
abbrev c128_r4 : List Ins := [
  ⟨some 9, none, .mov (.t 3)⟩,
  ⟨some 10, none, .bin .sub (.t 9) (.c (.int .i64 1))⟩,
  ⟨some 3, none, .mov (.t 10)⟩]
abbrev c128_l5 : IR := .seq (.seq (.reg c128_r2) (.cond (.t 8) (.skip) (.exit 0))) (.seq (.blk 1 (.seq (.reg c128_r3) (.cond (.t 18) (.ret) (.skip)))) (.reg c128_r4))
abbrev c128 : IR := .seq (.reg c128_r1) (.blk 0 (.loop c128_l5))
abbrev F128 : FnA := ⟨19, c128, []⟩
theorem ok128 : cFn Try.prog 128 = some F128 := by kernel_rfl
theorem hb128 : HasBody Try.prog 128 := ⟨_, Try.func128, by kernel_rfl, by kernel_rfl⟩
/-! ref09.One -/
abbrev c129_r1 : List Ins := [
  ⟨some 2, none, .box (.t 0)⟩,
  ⟨some 4, none, .mov (.c (.bool false))⟩]
abbrev c129_r2 : List Ins := [
  ⟨some 11, none, .faddr 0 (.t 2)⟩,
  ⟨some 12, none, .load 1 false (.t 11)⟩,
  ⟨some 13, none, .bin .lss (.t 12) (.c (.int .i64 1))⟩,
  ⟨some 14, none, .mov (.t 13)⟩,
  ⟨some 15, some (14, false), .faddr 0 (.t 2)⟩,
  ⟨some 16, some (14, false), .load 1 false (.t 15)⟩,
  ⟨some 17, some (14, false), .bin .gtr (.t 16) (.c (.int .i64 8))⟩,
  ⟨some 18, none, .pick (.t 14) (.c (.bool true)) (.t 17)⟩,
  ⟨some 19, none, .mov (.t 18)⟩,
  ⟨some 20, some (19, false), .faddr 1 (.t 2)⟩,
  ⟨some 21, some (19, false), .load 1 false (.t 20)⟩,
  ⟨some 22, some (19, false), .bin .lss (.t 21) (.c (.int .i64 0))⟩,
  ⟨some 23, none, .pick (.t 19) (.c (.bool true)) (.t 22)⟩,
  ⟨some 24, none, .mov (.t 23)⟩,
  ⟨some 25, some (24, false), .faddr 1 (.t 2)⟩,
  ⟨some 26, some (24, false), .load 1 false (.t 25)⟩,
  ⟨some 27, some (24, false), .bin .gtr (.t 26) (.c (.int .i64 3))⟩,
  ⟨some 28, none, .pick (.t 24) (.c (.bool true)) (.t 27)⟩]
abbrev c129_r3 : List Ins := [
  ⟨some 4, none, .mov (.c (.bool false))⟩]
abbrev c129_r4 : List Ins := [
  ⟨some 5, none, .alloc [.int .i64 0, .int .i64 0]⟩]
abbrev c129_r5 : List Ins := [
  ⟨some 29, none, .faddr 0 (.t 2)⟩,
  ⟨some 30, none, .load 1 false (.t 29)⟩,
  ⟨some 31, none, .bin .neq (.t 30) (.c (.int .i64 3))⟩,
  ⟨some 6, none, .mov (.t 31)⟩]
abbrev c129_r6 : List Ins := [
  ⟨some 32, none, .faddr 0 (.t 2)⟩,
  ⟨some 33, none, .load 1 false (.t 32)⟩,
  ⟨some 34, none, .bin .leq (.t 33) (.c (.int .i64 4))⟩,
  ⟨some 7, none, .mov (.t 34)⟩]
abbrev c129_r7 : List Ins := [
  ⟨some 35, none, .faddr 0 (.t 2)⟩,
  ⟨some 36, none, .load 1 false (.t 35)⟩,
  ⟨some 37, none, .bin .eql (.t 36) (.c (.int .i64 4))⟩,
  ⟨some 8, none, .mov (.t 37)⟩]
abbrev c129_r8 : List Ins := [
  ⟨some 38, none, .faddr 0 (.t 2)⟩,
  ⟨some 39, none, .load 1 false (.t 38)⟩,
  ⟨some 40, none, .bin .eql (.t 39) (.c (.int .i64 6))⟩,
  ⟨some 41, none, .mov (.t 40)⟩,
  ⟨some 42, some (41, false), .faddr 0 (.t 2)⟩,
  ⟨some 43, some (41, false), .load 1 false (.t 42)⟩,
  ⟨some 44, some (41, false), .bin .eql (.t 43) (.c (.int .i64 7))⟩,
  ⟨some 45, none, .pick (.t 41) (.c (.bool true)) (.t 44)⟩,
  ⟨some 9, none, .mov (.t 45)⟩]
abbrev c129_r9 : List Ins := [
  ⟨some 46, none, .faddr 0 (.t 2)⟩,
  ⟨some 47, none, .load 1 false (.t 46)⟩,
  ⟨some 48, none, .bin .eql (.t 47) (.c (.int .i64 5))⟩,
  ⟨some 49, none, .mov (.t 48)⟩,
  ⟨some 50, some (49, false), .faddr 0 (.t 2)⟩,
  ⟨some 51, some (49, false), .load 1 false (.t 50)⟩,
  ⟨some 52, some (49, false), .bin .eql (.t 51) (.c (.int .i64 8))⟩,
  ⟨some 53, none, .pick (.t 49) (.c (.bool true)) (.t 52)⟩,
  ⟨some 10, none, .mov (.t 53)⟩]
abbrev c129_r10 : List Ins := [
  ⟨some 54, none, .mov (.t 6)⟩,
  ⟨some 55, none, .un .not (.t 54)⟩,
  ⟨some 56, none, .mov (.t 55)⟩,
  ⟨some 57, some (56, true), .faddr 1 (.t 2)⟩,
  ⟨some 58, some (56, true), .load 1 false (.t 57)⟩,
  ⟨some 59, some (56, true), .bin .neq (.t 58) (.c (.int .i64 0))⟩,
  ⟨some 60, none, .pick (.t 56) (.t 59) (.c (.bool false))⟩,
  ⟨some 61, none, .mov (.t 60)⟩,
  ⟨some 62, some (61, false), .mov (.t 10)⟩,
  ⟨some 63, some (61, false), .un .not (.t 62)⟩,
  ⟨some 64, some (61, false), .mov (.t 63)⟩,
  ⟨some 65, some (64, true), .faddr 8 (.t 2)⟩,
  ⟨some 66, some (64, true), .load 1 false (.t 65)⟩,
  ⟨some 67, some (64, true), .bin .neq (.t 66) (.c (.int .i64 0))⟩,
  ⟨some 68, some (61, false), .pick (.t 64) (.t 67) (.c (.bool false))⟩,
  ⟨some 69, none, .pick (.t 61) (.c (.bool true)) (.t 68)⟩,
  ⟨some 70, none, .mov (.t 69)⟩,
  ⟨some 71, some (70, false), .mov (.t 9)⟩,
  ⟨some 72, some (70, false), .un .not (.t 71)⟩,
  ⟨some 73, some (70, false), .mov (.t 72)⟩,
  ⟨some 74, some (73, true), .faddr 2 (.t 2)⟩,
  ⟨some 75, some (73, true), .load 1 false (.t 74)⟩,
  ⟨some 76, some (73, true), .bin .neq (.t 75) (.c (.int .i64 0))⟩,
  ⟨some 77, some (73, true), .mov (.t 76)⟩,
  ⟨some 78, some (77, false), .faddr 3 (.t 2)⟩,
  ⟨some 79, some (77, false), .load 1 false (.t 78)⟩,
  ⟨some 80, some (77, false), .bin .neq (.t 79) (.c (.int .i64 0))⟩,
  ⟨some 81, some (73, true), .pick (.t 77) (.c (.bool true)) (.t 80)⟩,
  ⟨some 82, some (70, false), .pick (.t 73) (.t 81) (.c (.bool false))⟩,
  ⟨some 83, none, .pick (.t 70) (.c (.bool true)) (.t 82)⟩,
  ⟨some 84, none, .mov (.t 83)⟩,
  ⟨some 85, some (84, false), .mov (.t 7)⟩,
  ⟨some 86, some (84, false), .un .not (.t 85)⟩,
  ⟨some 87, some (84, false), .mov (.t 86)⟩,
  ⟨some 88, some (87, true), .faddr 4 (.t 2)⟩,
  ⟨some 89, some (87, true), .load 2 true (.t 88)⟩,
  ⟨some 90, some (87, true), .load 2 true (.t 5)⟩,
  ⟨some 91, some (87, true), .eq [.i, .i] true true (.t 89) (.t 90)⟩,
  ⟨some 92, some (84, false), .pick (.t 87) (.t 91) (.c (.bool false))⟩,
  ⟨some 93, none, .pick (.t 84) (.c (.bool true)) (.t 92)⟩,
  ⟨some 94, none, .mov (.t 93)⟩,
  ⟨some 95, some (94, false), .mov (.t 8)⟩,
  ⟨some 96, some (94, false), .un .not (.t 95)⟩,
  ⟨some 97, some (94, false), .mov (.t 96)⟩,
  ⟨some 98, some (97, true), .faddr 6 (.t 2)⟩,
  ⟨some 99, some (97, true), .load 2 true (.t 98)⟩,
  ⟨some 100, some (97, true), .load 2 true (.t 5)⟩,
  ⟨some 101, some (97, true), .eq [.i, .i] true true (.t 99) (.t 100)⟩,
  ⟨some 102, some (94, false), .pick (.t 97) (.t 101) (.c (.bool false))⟩,
  ⟨some 103, none, .pick (.t 94) (.c (.bool true)) (.t 102)⟩]
abbrev c129_r11 : List Ins := [
  ⟨some 4, none, .mov (.c (.bool false))⟩]
abbrev c129_r12 : List Ins := [
  ⟨some 104, none, .mov (.t 9)⟩,
  ⟨some 105, none, .mov (.t 104)⟩,
  ⟨some 106, some (105, true), .faddr 2 (.t 2)⟩,
  ⟨some 107, some (105, true), .load 1 false (.t 106)⟩,
  ⟨some 108, some (105, true), .bin .lss (.t 107) (.c (.int .i64 0))⟩,
  ⟨some 109, some (105, true), .mov (.t 108)⟩,
  ⟨some 110, some (109, false), .faddr 2 (.t 2)⟩,
  ⟨some 111, some (109, false), .load 1 false (.t 110)⟩,
  ⟨some 112, some (109, false), .bin .gtr (.t 111) (.c (.int .i64 3))⟩,
  ⟨some 113, some (105, true), .pick (.t 109) (.c (.bool true)) (.t 112)⟩,
  ⟨some 114, some (105, true), .mov (.t 113)⟩,
  ⟨some 115, some (114, false), .faddr 3 (.t 2)⟩,
  ⟨some 116, some (114, false), .load 1 false (.t 115)⟩,
  ⟨some 117, some (114, false), .bin .lss (.t 116) (.c (.int .i64 0))⟩,
  ⟨some 118, some (105, true), .pick (.t 114) (.c (.bool true)) (.t 117)⟩,
  ⟨some 119, some (105, true), .mov (.t 118)⟩,
  ⟨some 120, some (119, false), .faddr 3 (.t 2)⟩,
  ⟨some 121, some (119, false), .load 1 false (.t 120)⟩,
  ⟨some 122, some (119, false), .bin .gtr (.t 121) (.c (.int .i64 3))⟩,
  ⟨some 123, some (105, true), .pick (.t 119) (.c (.bool true)) (.t 122)⟩,
  ⟨some 124, none, .pick (.t 105) (.t 123) (.c (.bool false))⟩]
abbrev c129_r13 : List Ins := [
  ⟨some 4, none, .mov (.c (.bool false))⟩]
abbrev c129_r14 : List Ins := [
  ⟨some 125, none, .mov (.t 7)⟩,
  ⟨some 126, none, .un .not (.t 125)⟩,
  ⟨some 127, none, .mov (.t 126)⟩,
  ⟨some 128, some (127, false), .faddr 4 (.t 2)⟩,
  ⟨some 129, some (127, false), .load 2 true (.t 128)⟩,
  ⟨some 130, some (127, false), .mov (.t 1)⟩,
  ⟨some 131, some (127, false), .call (.c (.fn 130 [] [])) [.t 129, .t 130]⟩,
  ⟨some 132, none, .pick (.t 127) (.c (.bool true)) (.t 131)⟩,
  ⟨some 133, none, .mov (.t 132)⟩,
  ⟨some 134, some (133, true), .mov (.t 8)⟩,
  ⟨some 135, some (133, true), .un .not (.t 134)⟩,
  ⟨some 136, some (133, true), .mov (.t 135)⟩,
  ⟨some 137, some (136, false), .faddr 6 (.t 2)⟩,
  ⟨some 138, some (136, false), .load 2 true (.t 137)⟩,
  ⟨some 139, some (136, false), .mov (.t 1)⟩,
  ⟨some 140, some (136, false), .call (.c (.fn 130 [] [])) [.t 138, .t 139]⟩,
  ⟨some 141, some (133, true), .pick (.t 136) (.c (.bool true)) (.t 140)⟩,
  ⟨some 142, none, .pick (.t 133) (.t 141) (.c (.bool false))⟩,
  ⟨some 4, none, .mov (.t 142)⟩]
abbrev c129 : IR := .seq (.reg c129_r1) (.seq (.seq (.reg c129_r2) (.cond (.t 28) (.seq (.reg c129_r3) (.ret)) (.skip))) (.seq (.reg c129_r4) (.seq (.reg c129_r5) (.seq (.reg c129_r6) (.seq (.reg c129_r7) (.seq (.reg c129_r8) (.seq (.reg c129_r9) (.seq (.seq (.reg c129_r10) (.cond (.t 103) (.seq (.reg c129_r11) (.ret)) (.skip))) (.seq (.seq (.reg c129_r12) (.cond (.t 124) (.seq (.reg c129_r13) (.ret)) (.skip))) (.seq (.reg c129_r14) (.ret)))))))))))
abbrev F129 : FnA := ⟨143, c129, [.t 4]⟩
theorem ok129 : cFn Try.prog 129 = some F129 := by kernel_rfl
theorem hb129 : HasBody Try.prog 129 := ⟨_, Try.func129, by kernel_rfl, by kernel_rfl⟩
/-! ref09.MayKey -/
abbrev c130_r1 : List Ins := [
  ⟨some 2, none, .box (.t 0)⟩,
  ⟨some 4, none, .mov (.c (.bool false))⟩]
abbrev c130_r2 : List Ins := [
  ⟨some 5, none, .faddr 0 (.t 2)⟩,
  ⟨some 6, none, .load 1 false (.t 5)⟩,
  ⟨some 7, none, .bin .geq (.t 6) (.c (.int .i64 (-1)))⟩,
  ⟨some 8, none, .mov (.t 7)⟩,
  ⟨some 9, some (8, true), .faddr 0 (.t 2)⟩,
  ⟨some 10, some (8, true), .load 1 false (.t 9)⟩,
  ⟨some 11, some (8, true), .mov (.t 1)⟩,
  ⟨some 12, some (8, true), .bin .lss (.t 10) (.t 11)⟩,
  ⟨some 13, none, .pick (.t 8) (.t 12) (.c (.bool false))⟩,
  ⟨some 14, none, .mov (.t 13)⟩,
  ⟨some 15, some (14, true), .faddr 1 (.t 2)⟩,
  ⟨some 16, some (14, true), .load 1 false (.t 15)⟩,
  ⟨some 17, some (14, true), .bin .geq (.t 16) (.c (.int .i64 0))⟩,
  ⟨some 18, none, .pick (.t 14) (.t 17) (.c (.bool false))⟩,
  ⟨some 19, none, .mov (.t 18)⟩,
  ⟨some 20, some (19, true), .faddr 1 (.t 2)⟩,
  ⟨some 21, some (19, true), .load 1 false (.t 20)⟩,
  ⟨some 22, some (19, true), .bin .leq (.t 21) (.c (.int .i64 900))⟩,
  ⟨some 23, none, .pick (.t 19) (.t 22) (.c (.bool false))⟩,
  ⟨some 4, none, .mov (.t 23)⟩]
abbrev c130 : IR := .seq (.reg c130_r1) (.seq (.reg c130_r2) (.ret))
abbrev F130 : FnA := ⟨24, c130, [.t 4]⟩
theorem ok130 : cFn Try.prog 130 = some F130 := by kernel_rfl
theorem hb130 : HasBody Try.prog 130 := ⟨_, Try.func130, by kernel_rfl, by kernel_rfl⟩
/-! class.each$1 -/
abbrev c131_r1 : List Ins := [
  ⟨some 4, none, .faddr 2 (.t 1)⟩,
  ⟨some 5, none, .load 1 false (.t 4)⟩,
  ⟨some 6, none, .len (.t 5)⟩,
  ⟨some 7, none, .faddr 3 (.t 1)⟩,
  ⟨some 8, none, .load 1 false (.t 7)⟩,
  ⟨some 9, none, .len (.t 8)⟩,
  ⟨some 10, none, .mn [.t 6, .t 9]⟩,
  ⟨some 11, none, .mov (.c (.int .i64 0))⟩]
abbrev c131_r2 : List Ins := [
  ⟨some 12, none, .bin .lss (.t 11) (.t 10)⟩]
abbrev c131_r3 : List Ins := [
  ⟨some 13, none, .mov (.t 11)⟩,
  ⟨some 3, none, .mov (.t 13)⟩]
abbrev c131_r4 : List Ins := [
  ⟨some 14, none, .mov (.t 0)⟩,
  ⟨some 15, none, .faddr 2 (.t 1)⟩,
  ⟨some 16, none, .load 1 false (.t 15)⟩,
  ⟨some 17, none, .mov (.t 3)⟩,
  ⟨some 18, none, .iaddr 2 (.t 16) (.t 17)⟩,
  ⟨some 19, none, .load 2 true (.t 18)⟩,
  ⟨some 20, none, .faddr 3 (.t 1)⟩,
  ⟨some 21, none, .load 1 false (.t 20)⟩,
  ⟨some 22, none, .mov (.t 3)⟩,
  ⟨some 23, none, .iaddr 2 (.t 21) (.t 22)⟩,
  ⟨some 24, none, .load 2 true (.t 23)⟩,
  ⟨some 25, none, .call (.t 14) [.t 19, .t 24]⟩,
  ⟨some 26, none, .un .not (.t 25)⟩]
def c131_a4 : List (List Nat) := [[], [], [1], [], [2, 3], [4], [], [6], [], [7, 8], [9], [0, 5, 10], [11]]
abbrev c131_m4 : List Am.Mark := [⟨false, 0, 0⟩, ⟨false, 0, 1⟩, ⟨false, 0, 1⟩, ⟨false, 0, 1⟩, ⟨false, 0, 1⟩, ⟨false, 0, 0⟩, ⟨false, 0, 1⟩, ⟨false, 0, 1⟩, ⟨false, 0, 1⟩, ⟨false, 0, 1⟩, ⟨false, 0, 0⟩, ⟨true, 0, 1⟩, ⟨false, 1, 1⟩]
theorem c131_d4 : drawFine c131_r4 c131_a4 c131_m4 = true := by decide +kernel
abbrev c131_r5 : List Ins := [
  ⟨some 27, none, .bin .add (.t 11) (.c (.int .i64 1))⟩,
  ⟨some 11, none, .mov (.t 27)⟩]
abbrev c131_l6 : IR := .seq (.reg c131_r2) (.seq (.cond (.t 12) (.skip) (.exit 0)) (.seq (.blk 1 (.seq (.reg c131_r3) (.seq (.dreg c131_r4 c131_a4) (.cond (.t 26) (.ret) (.skip))))) (.reg c131_r5)))
abbrev c131 : IR := .seq (.reg c131_r1) (.blk 0 (.loop c131_l6))
abbrev F131 : FnA := ⟨28, c131, []⟩
theorem ok131 : cFn Try.prog 131 = some F131 := by kernel_rfl
theorem hb131 : HasBody Try.prog 131 := ⟨_, Try.func131, by kernel_rfl, by kernel_rfl⟩
/-! slices.Clone:Step -/
abbrev c137_r1 : List Ins := [
  ⟨some 2, none, .mov (.c (.sl .full []))⟩]
abbrev c137_r2 : List Ins := [
  ⟨some 3, none, .mov (.t 0)⟩,
  ⟨some 4, none, .isnil false (.t 3)⟩]
abbrev c137_r3 : List Ins := [
  ⟨some 2, none, .mov (.c (.sl .full []))⟩]
abbrev c137_r4 : List Ins := [
  ⟨some 5, none, .bsl 2 0 [.sl .full [], .sl .full []] []⟩,
  ⟨some 6, none, .mov (.t 0)⟩,
  ⟨some 7, none, .append 2 48 (.t 5) (.t 6)⟩,
  ⟨some 2, none, .mov (.t 7)⟩]
abbrev c137 : IR := .seq (.reg c137_r1) (.seq (.seq (.reg c137_r2) (.cond (.t 4) (.seq (.reg c137_r3) (.ret)) (.skip))) (.seq (.reg c137_r4) (.ret)))
abbrev F137 : FnA := ⟨8, c137, [.t 2]⟩
theorem ok137 : cFn Try.prog 137 = some F137 := by kernel_rfl
theorem hb137 : HasBody Try.prog 137 := ⟨_, Try.func137, by kernel_rfl, by kernel_rfl⟩
/-! slices.Clone:Instr -/
abbrev c138_r1 : List Ins := [
  ⟨some 2, none, .mov (.c (.sl .full []))⟩]
abbrev c138_r2 : List Ins := [
  ⟨some 3, none, .mov (.t 0)⟩,
  ⟨some 4, none, .isnil false (.t 3)⟩]
abbrev c138_r3 : List Ins := [
  ⟨some 2, none, .mov (.c (.sl .full []))⟩]
abbrev c138_r4 : List Ins := [
  ⟨some 5, none, .bsl 9 0 [.int .i64 0, .int .i64 0, .int .i64 0, .int .i64 0, .int .i64 0, .int .i64 0, .int .i64 0, .int .i64 0, .int .i64 0] []⟩,
  ⟨some 6, none, .mov (.t 0)⟩,
  ⟨some 7, none, .append 9 72 (.t 5) (.t 6)⟩,
  ⟨some 2, none, .mov (.t 7)⟩]
abbrev c138 : IR := .seq (.reg c138_r1) (.seq (.seq (.reg c138_r2) (.cond (.t 4) (.seq (.reg c138_r3) (.ret)) (.skip))) (.seq (.reg c138_r4) (.ret)))
abbrev F138 : FnA := ⟨8, c138, [.t 2]⟩
theorem ok138 : cFn Try.prog 138 = some F138 := by kernel_rfl
theorem hb138 : HasBody Try.prog 138 := ⟨_, Try.func138, by kernel_rfl, by kernel_rfl⟩
/-! slices.Clone:SpanT -/
abbrev c139_r1 : List Ins := [
  ⟨some 2, none, .mov (.c (.sl .full []))⟩]
abbrev c139_r2 : List Ins := [
  ⟨some 3, none, .mov (.t 0)⟩,
  ⟨some 4, none, .isnil false (.t 3)⟩]
abbrev c139_r3 : List Ins := [
  ⟨some 2, none, .mov (.c (.sl .full []))⟩]
abbrev c139_r4 : List Ins := [
  ⟨some 5, none, .bsl 5 0 [.int .i64 0, .int .i64 0, .int .i64 0, .int .i64 0, .bool false] []⟩,
  ⟨some 6, none, .mov (.t 0)⟩,
  ⟨some 7, none, .append 5 40 (.t 5) (.t 6)⟩,
  ⟨some 2, none, .mov (.t 7)⟩]
abbrev c139 : IR := .seq (.reg c139_r1) (.seq (.seq (.reg c139_r2) (.cond (.t 4) (.seq (.reg c139_r3) (.ret)) (.skip))) (.seq (.reg c139_r4) (.ret)))
abbrev F139 : FnA := ⟨8, c139, [.t 2]⟩
theorem ok139 : cFn Try.prog 139 = some F139 := by kernel_rfl
theorem hb139 : HasBody Try.prog 139 := ⟨_, Try.func139, by kernel_rfl, by kernel_rfl⟩
/-! slices.IndexFunc:Span -/
abbrev c140_r1 : List Ins := [
  ⟨some 4, none, .mov (.c (.int .i64 0))⟩]
abbrev c140_r2 : List Ins := [
  ⟨some 6, none, .mov (.t 0)⟩,
  ⟨some 7, none, .len (.t 6)⟩,
  ⟨some 8, none, .mov (.c (.int .i64 0))⟩]
abbrev c140_r3 : List Ins := [
  ⟨some 9, none, .bin .lss (.t 8) (.t 7)⟩]
abbrev c140_r4 : List Ins := [
  ⟨some 10, none, .mov (.t 8)⟩,
  ⟨some 5, none, .mov (.t 10)⟩]
abbrev c140_r5 : List Ins := [
  ⟨some 11, none, .mov (.t 1)⟩,
  ⟨some 12, none, .mov (.t 0)⟩,
  ⟨some 13, none, .mov (.t 5)⟩,
  ⟨some 14, none, .iaddr 2 (.t 12) (.t 13)⟩,
  ⟨some 15, none, .load 2 true (.t 14)⟩,
  ⟨some 16, none, .call (.t 11) [.t 15]⟩]
abbrev c140_r6 : List Ins := [
  ⟨some 17, none, .mov (.t 5)⟩,
  ⟨some 4, none, .mov (.t 17)⟩]
abbrev c140_r7 : List Ins := [
  ⟨some 18, none, .bin .add (.t 8) (.c (.int .i64 1))⟩,
  ⟨some 8, none, .mov (.t 18)⟩]
abbrev c140_l8 : IR := .seq (.reg c140_r3) (.seq (.cond (.t 9) (.skip) (.exit 0)) (.seq (.blk 1 (.seq (.reg c140_r4) (.seq (.reg c140_r5) (.cond (.t 16) (.seq (.reg c140_r6) (.ret)) (.skip))))) (.reg c140_r7)))
abbrev c140_r9 : List Ins := [
  ⟨some 4, none, .mov (.c (.int .i64 (-1)))⟩]
abbrev c140 : IR := .seq (.reg c140_r1) (.seq (.seq (.reg c140_r2) (.blk 0 (.loop c140_l8))) (.seq (.reg c140_r9) (.ret)))
abbrev F140 : FnA := ⟨19, c140, [.t 4]⟩
theorem ok140 : cFn Try.prog 140 = some F140 := by kernel_rfl
theorem hb140 : HasBody Try.prog 140 := ⟨_, Try.func140, by kernel_rfl, by kernel_rfl⟩
/-! slices.IndexFunc:Class -/
abbrev c141_r1 : List Ins := [
  ⟨some 4, none, .mov (.c (.int .i64 0))⟩]
abbrev c141_r2 : List Ins := [
  ⟨some 6, none, .mov (.t 0)⟩,
  ⟨some 7, none, .len (.t 6)⟩,
  ⟨some 8, none, .mov (.c (.int .i64 0))⟩]
abbrev c141_r3 : List Ins := [
  ⟨some 9, none, .bin .lss (.t 8) (.t 7)⟩]
abbrev c141_r4 : List Ins := [
  ⟨some 10, none, .mov (.t 8)⟩,
  ⟨some 5, none, .mov (.t 10)⟩]
abbrev c141_r5 : List Ins := [
  ⟨some 11, none, .mov (.t 1)⟩,
  ⟨some 12, none, .mov (.t 0)⟩,
  ⟨some 13, none, .mov (.t 5)⟩,
  ⟨some 14, none, .iaddr 5 (.t 12) (.t 13)⟩,
  ⟨some 15, none, .load 5 true (.t 14)⟩,
  ⟨some 16, none, .call (.t 11) [.t 15]⟩]
abbrev c141_r6 : List Ins := [
  ⟨some 17, none, .mov (.t 5)⟩,
  ⟨some 4, none, .mov (.t 17)⟩]
abbrev c141_r7 : List Ins := [
  ⟨some 18, none, .bin .add (.t 8) (.c (.int .i64 1))⟩,
  ⟨some 8, none, .mov (.t 18)⟩]
abbrev c141_l8 : IR := .seq (.reg c141_r3) (.seq (.cond (.t 9) (.skip) (.exit 0)) (.seq (.blk 1 (.seq (.reg c141_r4) (.seq (.reg c141_r5) (.cond (.t 16) (.seq (.reg c141_r6) (.ret)) (.skip))))) (.reg c141_r7)))
abbrev c141_r9 : List Ins := [
  ⟨some 4, none, .mov (.c (.int .i64 (-1)))⟩]
abbrev c141 : IR := .seq (.reg c141_r1) (.seq (.seq (.reg c141_r2) (.blk 0 (.loop c141_l8))) (.seq (.reg c141_r9) (.ret)))
abbrev F141 : FnA := ⟨19, c141, [.t 4]⟩
theorem ok141 : cFn Try.prog 141 = some F141 := by kernel_rfl
theorem hb141 : HasBody Try.prog 141 := ⟨_, Try.func141, by kernel_rfl, by kernel_rfl⟩
/-! slices.ContainsFunc:Instr -/
abbrev c142_r1 : List Ins := [
  ⟨some 4, none, .mov (.c (.bool false))⟩]
abbrev c142_r2 : List Ins := [
  ⟨some 5, none, .mov (.t 0)⟩,
  ⟨some 6, none, .mov (.t 1)⟩,
  ⟨some 7, none, .call (.c (.fn 153 [] [])) [.t 5, .t 6]⟩,
  ⟨some 8, none, .bin .geq (.t 7) (.c (.int .i64 0))⟩,
  ⟨some 4, none, .mov (.t 8)⟩]
abbrev c142 : IR := .seq (.reg c142_r1) (.seq (.reg c142_r2) (.ret))
abbrev F142 : FnA := ⟨9, c142, [.t 4]⟩
theorem ok142 : cFn Try.prog 142 = some F142 := by kernel_rfl
theorem hb142 : HasBody Try.prog 142 := ⟨_, Try.func142, by kernel_rfl, by kernel_rfl⟩
/-! prog.May$1 -/
abbrev c143_r1 : List Ins := [
  ⟨some 2, none, .box (.t 0)⟩,
  ⟨some 3, none, .mov (.c (.bool false))⟩]
abbrev c143_r2 : List Ins := [
  ⟨some 4, none, .load 9 true (.t 2)⟩,
  ⟨some 5, none, .load 1 false (.t 1)⟩,
  ⟨some 6, none, .call (.c (.fn 144 [] [])) [.t 4, .t 5]⟩,
  ⟨some 7, none, .un .not (.t 6)⟩,
  ⟨some 3, none, .mov (.t 7)⟩]
abbrev c143 : IR := .seq (.reg c143_r1) (.seq (.reg c143_r2) (.ret))
abbrev F143 : FnA := ⟨8, c143, [.t 3]⟩
theorem ok143 : cFn Try.prog 143 = some F143 := by kernel_rfl
theorem hb143 : HasBody Try.prog 143 := ⟨_, Try.func143, by kernel_rfl, by kernel_rfl⟩
/-! prog.may -/
abbrev c144_r1 : List Ins := [
  ⟨some 2, none, .box (.t 0)⟩,
  ⟨some 3, none, .box (.t 1)⟩,
  ⟨some 4, none, .mov (.c (.bool false))⟩]
abbrev c144_r2 : List Ins := [
  ⟨some 9, none, .load 9 true (.t 2)⟩,
  ⟨some 10, none, .call (.c (.fn 154 [] [])) [.t 9]⟩,
  ⟨some 8, none, .mov (.t 10)⟩,
  ⟨some 11, none, .ext (.t 8) 0⟩,
  ⟨some 12, none, .ext (.t 8) 1⟩,
  ⟨some 5, none, .alloc [.int .i64 0, .int .i64 0, .int .i64 0, .int .i64 0, .int .i64 0, .int .i64 0, .int .i64 0, .int .i64 0, .int .i64 0]⟩,
  ⟨none, none, .store 9 (.t 5) (.t 11)⟩,
  ⟨some 6, none, .mov (.t 12)⟩]
abbrev c144_r3 : List Ins := [
  ⟨some 13, none, .mkfn 155 [] [.t 3]⟩,
  ⟨some 7, none, .mov (.t 13)⟩]
abbrev c144_r4 : List Ins := [
  ⟨some 14, none, .mov (.t 6)⟩,
  ⟨some 15, none, .mov (.t 14)⟩,
  ⟨some 16, some (15, true), .load 9 true (.t 2)⟩,
  ⟨some 17, some (15, true), .load 9 true (.t 5)⟩,
  ⟨some 18, some (15, true), .eq [.i, .i, .i, .i, .i, .i, .i, .i, .i] true false (.t 16) (.t 17)⟩,
  ⟨some 19, none, .pick (.t 15) (.t 18) (.c (.bool false))⟩,
  ⟨some 20, none, .mov (.t 19)⟩,
  ⟨some 21, some (20, true), .faddr 1 (.t 2)⟩,
  ⟨some 22, some (20, true), .load 1 false (.t 21)⟩,
  ⟨some 23, some (20, true), .call (.c (.fn 157 [] [])) [.t 22]⟩,
  ⟨some 24, none, .pick (.t 20) (.t 23) (.c (.bool false))⟩,
  ⟨some 25, none, .mov (.t 24)⟩,
  ⟨some 26, some (25, true), .faddr 2 (.t 2)⟩,
  ⟨some 27, some (25, true), .load 1 false (.t 26)⟩,
  ⟨some 28, some (25, true), .call (.c (.fn 157 [] [])) [.t 27]⟩,
  ⟨some 29, none, .pick (.t 25) (.t 28) (.c (.bool false))⟩,
  ⟨some 30, none, .mov (.t 29)⟩,
  ⟨some 31, some (30, true), .faddr 3 (.t 2)⟩,
  ⟨some 32, some (30, true), .load 1 false (.t 31)⟩,
  ⟨some 33, some (30, true), .call (.c (.fn 157 [] [])) [.t 32]⟩,
  ⟨some 34, none, .pick (.t 30) (.t 33) (.c (.bool false))⟩,
  ⟨some 35, none, .mov (.t 34)⟩,
  ⟨some 36, some (35, true), .load 9 true (.t 2)⟩,
  ⟨some 37, some (35, true), .call (.c (.fn 159 [] [])) [.t 36]⟩,
  ⟨some 38, some (35, true), .mov (.t 7)⟩,
  ⟨some 39, some (35, true), .call (.c (.fn 158 [] [])) [.t 37, .t 38]⟩,
  ⟨some 40, some (35, true), .un .not (.t 39)⟩,
  ⟨some 41, none, .pick (.t 35) (.t 40) (.c (.bool false))⟩,
  ⟨some 4, none, .mov (.t 41)⟩]
abbrev c144 : IR := .seq (.reg c144_r1) (.seq (.reg c144_r2) (.seq (.reg c144_r3) (.seq (.reg c144_r4) (.ret))))
abbrev F144 : FnA := ⟨42, c144, [.t 4]⟩
theorem ok144 : cFn Try.prog 144 = some F144 := by kernel_rfl
theorem hb144 : HasBody Try.prog 144 := ⟨_, Try.func144, by kernel_rfl, by kernel_rfl⟩
/-! foot.May$1 -/
abbrev c145_r1 : List Ins := [
  ⟨some 2, none, .box (.t 0)⟩,
  ⟨some 3, none, .mov (.c (.bool false))⟩]
abbrev c145_r2 : List Ins := [
  ⟨some 4, none, .faddr 0 (.t 2)⟩,
  ⟨some 5, none, .load 2 true (.t 4)⟩,
  ⟨some 6, none, .call (.c (.fn 146 [] [])) [.t 5]⟩,
  ⟨some 7, none, .load 1 false (.t 1)⟩,
  ⟨some 8, none, .call (.c (.fn 119 [] [])) [.t 6, .t 7]⟩,
  ⟨some 9, none, .un .not (.t 8)⟩,
  ⟨some 10, none, .mov (.t 9)⟩,
  ⟨some 11, some (10, false), .faddr 2 (.t 2)⟩,
  ⟨some 12, some (10, false), .load 2 true (.t 11)⟩,
  ⟨some 13, some (10, false), .call (.c (.fn 146 [] [])) [.t 12]⟩,
  ⟨some 14, some (10, false), .load 1 false (.t 1)⟩,
  ⟨some 15, some (10, false), .call (.c (.fn 119 [] [])) [.t 13, .t 14]⟩,
  ⟨some 16, some (10, false), .un .not (.t 15)⟩,
  ⟨some 17, none, .pick (.t 10) (.c (.bool true)) (.t 16)⟩,
  ⟨some 3, none, .mov (.t 17)⟩]
def c145_a2 : List (List Nat) := [[], [0], [1], [], [2, 3, 2], [4], [5, 4], [6], [7, 6], [8, 6, 6], [6], [9, 10, 9, 6], [11, 6], [6, 12], [13, 11, 0, 1, 2, 3, 4, 5, 6, 7, 8, 9, 10, 11, 12, 13]]
abbrev c145_m2 : List Am.Mark := [⟨false, 0, 0⟩, ⟨false, 0, 0⟩, ⟨false, 0, 0⟩, ⟨false, 0, 0⟩, ⟨false, 0, 0⟩, ⟨false, 0, 0⟩, ⟨false, 0, 0⟩, ⟨false, 0, 0⟩, ⟨false, 0, 0⟩, ⟨false, 0, 0⟩, ⟨false, 0, 0⟩, ⟨false, 0, 0⟩, ⟨false, 0, 0⟩, ⟨false, 0, 0⟩, ⟨false, 0, 0⟩]
theorem c145_d2 : drawFine c145_r2 c145_a2 c145_m2 = true := by decide +kernel
abbrev c145 : IR := .seq (.reg c145_r1) (.seq (.dreg c145_r2 c145_a2) (.ret))
abbrev F145 : FnA := ⟨18, c145, [.t 3]⟩
theorem ok145 : cFn Try.prog 145 = some F145 := by kernel_rfl
theorem hb145 : HasBody Try.prog 145 := ⟨_, Try.func145, by kernel_rfl, by kernel_rfl⟩
/-! foot.reads -/
abbrev c146_r1 : List Ins := [
  ⟨some 1, none, .box (.t 0)⟩,
  ⟨some 2, none, .mov (.c (.sl .full []))⟩]
abbrev c146_r2 : List Ins := [
  ⟨some 3, none, .load 2 true (.t 1)⟩,
  ⟨some 4, none, .build [.int .i64 0, .int .i64 0, .int .i64 0, .int .i64 0, .int .i64 0, .int .i64 0, .int .i64 0, .int .i64 0, .int .i64 0] [(0, (1, .c (.int .i64 1))), (4, (2, .t 3))]⟩,
  ⟨some 5, none, .bsl 9 1 [.int .i64 0, .int .i64 0, .int .i64 0, .int .i64 0, .int .i64 0, .int .i64 0, .int .i64 0, .int .i64 0, .int .i64 0] [(0, .t 4)]⟩,
  ⟨some 2, none, .mov (.t 5)⟩]
abbrev c146 : IR := .seq (.reg c146_r1) (.seq (.reg c146_r2) (.ret))
abbrev F146 : FnA := ⟨6, c146, [.t 2]⟩
theorem ok146 : cFn Try.prog 146 = some F146 := by kernel_rfl
theorem hb146 : HasBody Try.prog 146 := ⟨_, Try.func146, by kernel_rfl, by kernel_rfl⟩
/-! slices.ContainsFunc:SpanT -/
abbrev c147_r1 : List Ins := [
  ⟨some 4, none, .mov (.c (.bool false))⟩]
abbrev c147_r2 : List Ins := [
  ⟨some 5, none, .mov (.t 0)⟩,
  ⟨some 6, none, .mov (.t 1)⟩,
  ⟨some 7, none, .call (.c (.fn 160 [] [])) [.t 5, .t 6]⟩,
  ⟨some 8, none, .bin .geq (.t 7) (.c (.int .i64 0))⟩,
  ⟨some 4, none, .mov (.t 8)⟩]
abbrev c147 : IR := .seq (.reg c147_r1) (.seq (.reg c147_r2) (.ret))
abbrev F147 : FnA := ⟨9, c147, [.t 4]⟩
theorem ok147 : cFn Try.prog 147 = some F147 := by kernel_rfl
theorem hb147 : HasBody Try.prog 147 := ⟨_, Try.func147, by kernel_rfl, by kernel_rfl⟩
/-! prog.Sure -/
abbrev c148_r1 : List Ins := [
  ⟨some 2, none, .mov (.c (.bool false))⟩]
abbrev c148_r2 : List Ins := [
  ⟨some 3, none, .mov (.t 0)⟩,
  ⟨some 4, none, .call (.c (.fn 142 [] [])) [.t 3, .c (.fn 161 [] [])]⟩,
  ⟨some 5, none, .un .not (.t 4)⟩,
  ⟨some 2, none, .mov (.t 5)⟩]
abbrev c148 : IR := .seq (.reg c148_r1) (.seq (.reg c148_r2) (.ret))
abbrev F148 : FnA := ⟨6, c148, [.t 2]⟩
theorem ok148 : cFn Try.prog 148 = some F148 := by kernel_rfl
theorem hb148 : HasBody Try.prog 148 := ⟨_, Try.func148, by kernel_rfl, by kernel_rfl⟩
/-! slices.IndexFunc:Instr -/
abbrev c153_r1 : List Ins := [
  ⟨some 4, none, .mov (.c (.int .i64 0))⟩]
abbrev c153_r2 : List Ins := [
  ⟨some 6, none, .mov (.t 0)⟩,
  ⟨some 7, none, .len (.t 6)⟩,
  ⟨some 8, none, .mov (.c (.int .i64 0))⟩]
abbrev c153_r3 : List Ins := [
  ⟨some 9, none, .bin .lss (.t 8) (.t 7)⟩]
abbrev c153_r4 : List Ins := [
  ⟨some 10, none, .mov (.t 8)⟩,
  ⟨some 5, none, .mov (.t 10)⟩]
abbrev c153_r5 : List Ins := [
  ⟨some 11, none, .mov (.t 1)⟩,
  ⟨some 12, none, .mov (.t 0)⟩,
  ⟨some 13, none, .mov (.t 5)⟩,
  ⟨some 14, none, .iaddr 9 (.t 12) (.t 13)⟩,
  ⟨some 15, none, .load 9 true (.t 14)⟩,
  ⟨some 16, none, .call (.t 11) [.t 15]⟩]
abbrev c153_r6 : List Ins := [
  ⟨some 17, none, .mov (.t 5)⟩,
  ⟨some 4, none, .mov (.t 17)⟩]
abbrev c153_r7 : List Ins := [
  ⟨some 18, none, .bin .add (.t 8) (.c (.int .i64 1))⟩,
  ⟨some 8, none, .mov (.t 18)⟩]
abbrev c153_l8 : IR := .seq (.reg c153_r3) (.seq (.cond (.t 9) (.skip) (.exit 0)) (.seq (.blk 1 (.seq (.reg c153_r4) (.seq (.reg c153_r5) (.cond (.t 16) (.seq (.reg c153_r6) (.ret)) (.skip))))) (.reg c153_r7)))
abbrev c153_r9 : List Ins := [
  ⟨some 4, none, .mov (.c (.int .i64 (-1)))⟩]
abbrev c153 : IR := .seq (.reg c153_r1) (.seq (.seq (.reg c153_r2) (.blk 0 (.loop c153_l8))) (.seq (.reg c153_r9) (.ret)))
abbrev F153 : FnA := ⟨19, c153, [.t 4]⟩
theorem ok153 : cFn Try.prog 153 = some F153 := by kernel_rfl
theorem hb153 : HasBody Try.prog 153 := ⟨_, Try.func153, by kernel_rfl, by kernel_rfl⟩
/-! prog.only -/
abbrev c154_r1 : List Ins := [
  ⟨some 1, none, .box (.t 0)⟩,
  ⟨some 2, none, .alloc [.int .i64 0, .int .i64 0, .int .i64 0, .int .i64 0, .int .i64 0, .int .i64 0, .int .i64 0, .int .i64 0, .int .i64 0]⟩,
  ⟨some 3, none, .mov (.c (.bool false))⟩]
abbrev c154_r2 : List Ins := [
  ⟨some 5, none, .faddr 0 (.t 1)⟩,
  ⟨some 6, none, .load 1 false (.t 5)⟩,
  ⟨some 7, none, .faddr 1 (.t 1)⟩,
  ⟨some 8, none, .load 1 false (.t 7)⟩,
  ⟨some 9, none, .build [.int .i64 0, .int .i64 0, .int .i64 0, .int .i64 0, .int .i64 0, .int .i64 0, .int .i64 0, .int .i64 0, .int .i64 0] [(0, (1, .t 6)), (1, (1, .t 8))]⟩,
  ⟨some 4, none, .alloc [.int .i64 0, .int .i64 0, .int .i64 0, .int .i64 0, .int .i64 0, .int .i64 0, .int .i64 0, .int .i64 0, .int .i64 0]⟩,
  ⟨none, none, .store 9 (.t 4) (.t 9)⟩]
abbrev c154_r3 : List Ins := [
  ⟨some 10, none, .faddr 0 (.t 1)⟩,
  ⟨some 11, none, .load 1 false (.t 10)⟩]
abbrev c154_r4 : List Ins := [
  ⟨some 14, none, .bin .eql (.t 11) (.c (.int .i64 1))⟩,
  ⟨some 13, none, .mov (.t 14)⟩]
abbrev c154_r5 : List Ins := [
  ⟨some 15, none, .bin .eql (.t 11) (.c (.int .i64 2))⟩,
  ⟨some 13, none, .mov (.t 15)⟩]
abbrev c154_r6 : List Ins := [
  ⟨some 16, none, .faddr 4 (.t 1)⟩,
  ⟨some 17, none, .load 2 true (.t 16)⟩,
  ⟨some 18, none, .faddr 4 (.t 4)⟩,
  ⟨none, none, .store 2 (.t 18) (.t 17)⟩]
abbrev c154_r7 : List Ins := [
  ⟨some 20, none, .bin .eql (.t 11) (.c (.int .i64 3))⟩,
  ⟨some 19, none, .mov (.t 20)⟩]
abbrev c154_r8 : List Ins := [
  ⟨some 21, none, .faddr 4 (.t 1)⟩,
  ⟨some 22, none, .load 2 true (.t 21)⟩,
  ⟨some 23, none, .faddr 1 (.t 4)⟩,
  ⟨none, none, .store 1 (.t 23) (.c (.int .i64 0))⟩,
  ⟨some 24, none, .faddr 4 (.t 4)⟩,
  ⟨none, none, .store 2 (.t 24) (.t 22)⟩]
def c154_a8 : List (List Nat) := [[], [0], [], [2], [0, 1, 2, 3], [4, 1, 3, 0, 1, 2, 3]]
abbrev c154_m8 : List Am.Mark := [⟨false, 0, 1⟩, ⟨false, 0, 1⟩, ⟨false, 0, 0⟩, ⟨true, 0, 1⟩, ⟨false, 1, 1⟩, ⟨true, 1, 2⟩]
theorem c154_d8 : drawFine c154_r8 c154_a8 c154_m8 = true := by decide +kernel
abbrev c154_r9 : List Ins := [
  ⟨some 26, none, .bin .eql (.t 11) (.c (.int .i64 4))⟩,
  ⟨some 25, none, .mov (.t 26)⟩]
abbrev c154_r10 : List Ins := [
  ⟨some 27, none, .faddr 4 (.t 1)⟩,
  ⟨some 28, none, .load 2 true (.t 27)⟩,
  ⟨some 29, none, .faddr 6 (.t 1)⟩,
  ⟨some 30, none, .load 2 true (.t 29)⟩,
  ⟨some 31, none, .faddr 4 (.t 4)⟩,
  ⟨none, none, .store 2 (.t 31) (.t 28)⟩,
  ⟨some 32, none, .faddr 6 (.t 4)⟩,
  ⟨none, none, .store 2 (.t 32) (.t 30)⟩]
def c154_a10 : List (List Nat) := [[], [0], [], [2], [0, 1], [4, 1, 0, 1], [0, 1, 2, 3, 4, 5], [6, 3, 5, 0, 1, 2, 3, 4, 5]]
abbrev c154_m10 : List Am.Mark := [⟨false, 0, 0⟩, ⟨false, 0, 0⟩, ⟨false, 0, 1⟩, ⟨false, 0, 1⟩, ⟨false, 0, 0⟩, ⟨true, 0, 1⟩, ⟨false, 1, 1⟩, ⟨true, 1, 2⟩]
theorem c154_d10 : drawFine c154_r10 c154_a10 c154_m10 = true := by decide +kernel
abbrev c154_r11 : List Ins := [
  ⟨some 34, none, .bin .eql (.t 11) (.c (.int .i64 5))⟩,
  ⟨some 33, none, .mov (.t 34)⟩]
abbrev c154_r12 : List Ins := [
  ⟨some 35, none, .bin .eql (.t 11) (.c (.int .i64 8))⟩,
  ⟨some 33, none, .mov (.t 35)⟩]
abbrev c154_r13 : List Ins := [
  ⟨some 36, none, .faddr 8 (.t 1)⟩,
  ⟨some 37, none, .load 1 false (.t 36)⟩,
  ⟨some 38, none, .faddr 8 (.t 4)⟩,
  ⟨none, none, .store 1 (.t 38) (.t 37)⟩]
abbrev c154_r14 : List Ins := [
  ⟨some 40, none, .bin .eql (.t 11) (.c (.int .i64 6))⟩,
  ⟨some 39, none, .mov (.t 40)⟩]
abbrev c154_r15 : List Ins := [
  ⟨some 41, none, .bin .eql (.t 11) (.c (.int .i64 7))⟩,
  ⟨some 39, none, .mov (.t 41)⟩]
abbrev c154_r16 : List Ins := [
  ⟨some 42, none, .faddr 2 (.t 1)⟩,
  ⟨some 43, none, .load 1 false (.t 42)⟩,
  ⟨some 44, none, .faddr 3 (.t 1)⟩,
  ⟨some 45, none, .load 1 false (.t 44)⟩,
  ⟨some 46, none, .faddr 2 (.t 4)⟩,
  ⟨none, none, .store 1 (.t 46) (.t 43)⟩,
  ⟨some 47, none, .faddr 3 (.t 4)⟩,
  ⟨none, none, .store 1 (.t 47) (.t 45)⟩]
def c154_a16 : List (List Nat) := [[], [0], [], [2], [0, 1], [4, 1, 0, 1], [0, 1, 2, 3, 4, 5], [6, 3, 5, 0, 1, 2, 3, 4, 5]]
abbrev c154_m16 : List Am.Mark := [⟨false, 0, 0⟩, ⟨false, 0, 0⟩, ⟨false, 0, 1⟩, ⟨false, 0, 1⟩, ⟨false, 0, 0⟩, ⟨true, 0, 1⟩, ⟨false, 1, 1⟩, ⟨true, 1, 2⟩]
theorem c154_d16 : drawFine c154_r16 c154_a16 c154_m16 = true := by decide +kernel
abbrev c154_r17 : List Ins := [
  ⟨some 12, none, .load 9 true (.t 4)⟩,
  ⟨none, none, .store 9 (.t 2) (.t 12)⟩,
  ⟨some 3, none, .mov (.c (.bool false))⟩]
abbrev c154_r18 : List Ins := [
  ⟨some 48, none, .load 9 true (.t 4)⟩,
  ⟨none, none, .store 9 (.t 2) (.t 48)⟩,
  ⟨some 3, none, .mov (.c (.bool true))⟩]
abbrev c154 : IR := .seq (.reg c154_r1) (.seq (.reg c154_r2) (.seq (.seq (.reg c154_r3) (.blk 0 (.seq (.seq (.reg c154_r4) (.cond (.t 13) (.skip) (.reg c154_r5))) (.cond (.t 13) (.reg c154_r6) (.seq (.reg c154_r7) (.cond (.t 19) (.dreg c154_r8 c154_a8) (.seq (.reg c154_r9) (.cond (.t 25) (.dreg c154_r10 c154_a10) (.seq (.seq (.reg c154_r11) (.cond (.t 33) (.skip) (.reg c154_r12))) (.cond (.t 33) (.reg c154_r13) (.seq (.seq (.reg c154_r14) (.cond (.t 39) (.skip) (.reg c154_r15))) (.cond (.t 39) (.dreg c154_r16 c154_a16) (.seq (.reg c154_r17) (.ret)))))))))))))) (.seq (.reg c154_r18) (.ret))))
abbrev F154 : FnA := ⟨49, c154, [.cell 2 9 true, .t 3]⟩
theorem ok154 : cFn Try.prog 154 = some F154 := by kernel_rfl
theorem hb154 : HasBody Try.prog 154 := ⟨_, Try.func154, by kernel_rfl, by kernel_rfl⟩
/-! prog.may$1 -/
abbrev c155_r1 : List Ins := [
  ⟨some 2, none, .box (.t 0)⟩,
  ⟨some 3, none, .mov (.c (.bool false))⟩]
abbrev c155_r2 : List Ins := [
  ⟨some 4, none, .load 2 true (.t 2)⟩,
  ⟨some 5, none, .load 1 false (.t 1)⟩,
  ⟨some 6, none, .call (.c (.fn 156 [] [])) [.t 4, .t 5]⟩,
  ⟨some 7, none, .un .not (.t 6)⟩,
  ⟨some 3, none, .mov (.t 7)⟩]
abbrev c155 : IR := .seq (.reg c155_r1) (.seq (.reg c155_r2) (.ret))
abbrev F155 : FnA := ⟨8, c155, [.t 3]⟩
theorem ok155 : cFn Try.prog 155 = some F155 := by kernel_rfl
theorem hb155 : HasBody Try.prog 155 := ⟨_, Try.func155, by kernel_rfl, by kernel_rfl⟩
/-! prog.mayKey -/
abbrev c156_r1 : List Ins := [
  ⟨some 2, none, .box (.t 0)⟩,
  ⟨some 4, none, .mov (.c (.bool false))⟩]
abbrev c156_r2 : List Ins := [
  ⟨some 5, none, .faddr 0 (.t 2)⟩,
  ⟨some 6, none, .load 1 false (.t 5)⟩,
  ⟨some 7, none, .bin .geq (.t 6) (.c (.int .i64 (-1)))⟩,
  ⟨some 8, none, .mov (.t 7)⟩,
  ⟨some 9, some (8, true), .faddr 0 (.t 2)⟩,
  ⟨some 10, some (8, true), .load 1 false (.t 9)⟩,
  ⟨some 11, some (8, true), .mov (.t 1)⟩,
  ⟨some 12, some (8, true), .bin .lss (.t 10) (.t 11)⟩,
  ⟨some 13, none, .pick (.t 8) (.t 12) (.c (.bool false))⟩,
  ⟨some 14, none, .mov (.t 13)⟩,
  ⟨some 15, some (14, true), .faddr 1 (.t 2)⟩,
  ⟨some 16, some (14, true), .load 1 false (.t 15)⟩,
  ⟨some 17, some (14, true), .bin .geq (.t 16) (.c (.int .i64 0))⟩,
  ⟨some 18, none, .pick (.t 14) (.t 17) (.c (.bool false))⟩,
  ⟨some 19, none, .mov (.t 18)⟩,
  ⟨some 20, some (19, true), .faddr 1 (.t 2)⟩,
  ⟨some 21, some (19, true), .load 1 false (.t 20)⟩,
  ⟨some 22, some (19, true), .bin .leq (.t 21) (.c (.int .i64 900))⟩,
  ⟨some 23, none, .pick (.t 19) (.t 22) (.c (.bool false))⟩,
  ⟨some 4, none, .mov (.t 23)⟩]
abbrev c156 : IR := .seq (.reg c156_r1) (.seq (.reg c156_r2) (.ret))
abbrev F156 : FnA := ⟨24, c156, [.t 4]⟩
theorem ok156 : cFn Try.prog 156 = some F156 := by kernel_rfl
theorem hb156 : HasBody Try.prog 156 := ⟨_, Try.func156, by kernel_rfl, by kernel_rfl⟩
/-! prog.register -/
abbrev c157_r1 : List Ins := [
  ⟨some 2, none, .mov (.c (.bool false))⟩]
abbrev c157_r2 : List Ins := [
  ⟨some 3, none, .mov (.t 0)⟩,
  ⟨some 4, none, .bin .geq (.t 3) (.c (.int .i64 0))⟩,
  ⟨some 5, none, .mov (.t 4)⟩,
  ⟨some 6, some (5, true), .mov (.t 0)⟩,
  ⟨some 7, some (5, true), .bin .lss (.t 6) (.c (.int .i64 4))⟩,
  ⟨some 8, none, .pick (.t 5) (.t 7) (.c (.bool false))⟩,
  ⟨some 2, none, .mov (.t 8)⟩]
abbrev c157 : IR := .seq (.reg c157_r1) (.seq (.reg c157_r2) (.ret))
abbrev F157 : FnA := ⟨9, c157, [.t 2]⟩
theorem ok157 : cFn Try.prog 157 = some F157 := by kernel_rfl
theorem hb157 : HasBody Try.prog 157 := ⟨_, Try.func157, by kernel_rfl, by kernel_rfl⟩
/-! slices.ContainsFunc:KeyT -/
abbrev c158_r1 : List Ins := [
  ⟨some 4, none, .mov (.c (.bool false))⟩]
abbrev c158_r2 : List Ins := [
  ⟨some 5, none, .mov (.t 0)⟩,
  ⟨some 6, none, .mov (.t 1)⟩,
  ⟨some 7, none, .call (.c (.fn 162 [] [])) [.t 5, .t 6]⟩,
  ⟨some 8, none, .bin .geq (.t 7) (.c (.int .i64 0))⟩,
  ⟨some 4, none, .mov (.t 8)⟩]
abbrev c158 : IR := .seq (.reg c158_r1) (.seq (.reg c158_r2) (.ret))
abbrev F158 : FnA := ⟨9, c158, [.t 4]⟩
theorem ok158 : cFn Try.prog 158 = some F158 := by kernel_rfl
theorem hb158 : HasBody Try.prog 158 := ⟨_, Try.func158, by kernel_rfl, by kernel_rfl⟩
/-! prog.keys -/
abbrev c159_r1 : List Ins := [
  ⟨some 1, none, .box (.t 0)⟩,
  ⟨some 2, none, .mov (.c (.sl .full []))⟩]
abbrev c159_r2 : List Ins := [
  ⟨some 3, none, .faddr 0 (.t 1)⟩,
  ⟨some 4, none, .load 1 false (.t 3)⟩]
abbrev c159_r3 : List Ins := [
  ⟨some 6, none, .bin .eql (.t 4) (.c (.int .i64 1))⟩,
  ⟨some 5, none, .mov (.t 6)⟩]
abbrev c159_r4 : List Ins := [
  ⟨some 7, none, .bin .eql (.t 4) (.c (.int .i64 2))⟩,
  ⟨some 5, none, .mov (.t 7)⟩]
abbrev c159_r5 : List Ins := [
  ⟨some 8, none, .bin .eql (.t 4) (.c (.int .i64 3))⟩,
  ⟨some 5, none, .mov (.t 8)⟩]
abbrev c159_r6 : List Ins := [
  ⟨some 9, none, .faddr 4 (.t 1)⟩,
  ⟨some 10, none, .load 2 true (.t 9)⟩,
  ⟨some 11, none, .bsl 2 1 [.int .i64 0, .int .i64 0] [(0, .t 10)]⟩,
  ⟨some 2, none, .mov (.t 11)⟩]
abbrev c159_r7 : List Ins := [
  ⟨some 13, none, .bin .eql (.t 4) (.c (.int .i64 4))⟩,
  ⟨some 12, none, .mov (.t 13)⟩]
abbrev c159_r8 : List Ins := [
  ⟨some 14, none, .faddr 4 (.t 1)⟩,
  ⟨some 15, none, .load 2 true (.t 14)⟩,
  ⟨some 16, none, .faddr 6 (.t 1)⟩,
  ⟨some 17, none, .load 2 true (.t 16)⟩,
  ⟨some 18, none, .bsl 2 2 [.int .i64 0, .int .i64 0] [(0, .t 15), (1, .t 17)]⟩,
  ⟨some 2, none, .mov (.t 18)⟩]
abbrev c159_r9 : List Ins := [
  ⟨some 2, none, .mov (.c (.sl .full []))⟩]
abbrev c159 : IR := .seq (.reg c159_r1) (.seq (.seq (.reg c159_r2) (.blk 0 (.seq (.seq (.reg c159_r3) (.cond (.t 5) (.skip) (.seq (.reg c159_r4) (.cond (.t 5) (.skip) (.reg c159_r5))))) (.cond (.t 5) (.seq (.reg c159_r6) (.ret)) (.seq (.reg c159_r7) (.cond (.t 12) (.seq (.reg c159_r8) (.ret)) (.skip))))))) (.seq (.reg c159_r9) (.ret)))
abbrev F159 : FnA := ⟨19, c159, [.t 2]⟩
theorem ok159 : cFn Try.prog 159 = some F159 := by kernel_rfl
theorem hb159 : HasBody Try.prog 159 := ⟨_, Try.func159, by kernel_rfl, by kernel_rfl⟩
/-! slices.IndexFunc:SpanT -/
abbrev c160_r1 : List Ins := [
  ⟨some 4, none, .mov (.c (.int .i64 0))⟩]
abbrev c160_r2 : List Ins := [
  ⟨some 6, none, .mov (.t 0)⟩,
  ⟨some 7, none, .len (.t 6)⟩,
  ⟨some 8, none, .mov (.c (.int .i64 0))⟩]
abbrev c160_r3 : List Ins := [
  ⟨some 9, none, .bin .lss (.t 8) (.t 7)⟩]
abbrev c160_r4 : List Ins := [
  ⟨some 10, none, .mov (.t 8)⟩,
  ⟨some 5, none, .mov (.t 10)⟩]
abbrev c160_r5 : List Ins := [
  ⟨some 11, none, .mov (.t 1)⟩,
  ⟨some 12, none, .mov (.t 0)⟩,
  ⟨some 13, none, .mov (.t 5)⟩,
  ⟨some 14, none, .iaddr 5 (.t 12) (.t 13)⟩,
  ⟨some 15, none, .load 5 true (.t 14)⟩,
  ⟨some 16, none, .call (.t 11) [.t 15]⟩]
abbrev c160_r6 : List Ins := [
  ⟨some 17, none, .mov (.t 5)⟩,
  ⟨some 4, none, .mov (.t 17)⟩]
abbrev c160_r7 : List Ins := [
  ⟨some 18, none, .bin .add (.t 8) (.c (.int .i64 1))⟩,
  ⟨some 8, none, .mov (.t 18)⟩]
abbrev c160_l8 : IR := .seq (.reg c160_r3) (.seq (.cond (.t 9) (.skip) (.exit 0)) (.seq (.blk 1 (.seq (.reg c160_r4) (.seq (.reg c160_r5) (.cond (.t 16) (.seq (.reg c160_r6) (.ret)) (.skip))))) (.reg c160_r7)))
abbrev c160_r9 : List Ins := [
  ⟨some 4, none, .mov (.c (.int .i64 (-1)))⟩]
abbrev c160 : IR := .seq (.reg c160_r1) (.seq (.seq (.reg c160_r2) (.blk 0 (.loop c160_l8))) (.seq (.reg c160_r9) (.ret)))
abbrev F160 : FnA := ⟨19, c160, [.t 4]⟩
theorem ok160 : cFn Try.prog 160 = some F160 := by kernel_rfl
theorem hb160 : HasBody Try.prog 160 := ⟨_, Try.func160, by kernel_rfl, by kernel_rfl⟩
/-! prog.Sure$1 -/
abbrev c161_r1 : List Ins := [
  ⟨some 1, none, .box (.t 0)⟩,
  ⟨some 2, none, .mov (.c (.bool false))⟩]
abbrev c161_r2 : List Ins := [
  ⟨some 3, none, .faddr 0 (.t 1)⟩,
  ⟨some 4, none, .load 1 false (.t 3)⟩,
  ⟨some 5, none, .bin .eql (.t 4) (.c (.int .i64 6))⟩,
  ⟨some 6, none, .mov (.t 5)⟩,
  ⟨some 7, some (6, false), .faddr 0 (.t 1)⟩,
  ⟨some 8, some (6, false), .load 1 false (.t 7)⟩,
  ⟨some 9, some (6, false), .bin .eql (.t 8) (.c (.int .i64 7))⟩,
  ⟨some 10, none, .pick (.t 6) (.c (.bool true)) (.t 9)⟩,
  ⟨some 11, none, .mov (.t 10)⟩,
  ⟨some 12, some (11, false), .faddr 0 (.t 1)⟩,
  ⟨some 13, some (11, false), .load 1 false (.t 12)⟩,
  ⟨some 14, some (11, false), .bin .eql (.t 13) (.c (.int .i64 8))⟩,
  ⟨some 15, none, .pick (.t 11) (.c (.bool true)) (.t 14)⟩,
  ⟨some 2, none, .mov (.t 15)⟩]
abbrev c161 : IR := .seq (.reg c161_r1) (.seq (.reg c161_r2) (.ret))
abbrev F161 : FnA := ⟨16, c161, [.t 2]⟩
theorem ok161 : cFn Try.prog 161 = some F161 := by kernel_rfl
theorem hb161 : HasBody Try.prog 161 := ⟨_, Try.func161, by kernel_rfl, by kernel_rfl⟩
/-! slices.IndexFunc:KeyT -/
abbrev c162_r1 : List Ins := [
  ⟨some 4, none, .mov (.c (.int .i64 0))⟩]
abbrev c162_r2 : List Ins := [
  ⟨some 6, none, .mov (.t 0)⟩,
  ⟨some 7, none, .len (.t 6)⟩,
  ⟨some 8, none, .mov (.c (.int .i64 0))⟩]
abbrev c162_r3 : List Ins := [
  ⟨some 9, none, .bin .lss (.t 8) (.t 7)⟩]
abbrev c162_r4 : List Ins := [
  ⟨some 10, none, .mov (.t 8)⟩,
  ⟨some 5, none, .mov (.t 10)⟩]
abbrev c162_r5 : List Ins := [
  ⟨some 11, none, .mov (.t 1)⟩,
  ⟨some 12, none, .mov (.t 0)⟩,
  ⟨some 13, none, .mov (.t 5)⟩,
  ⟨some 14, none, .iaddr 2 (.t 12) (.t 13)⟩,
  ⟨some 15, none, .load 2 true (.t 14)⟩,
  ⟨some 16, none, .call (.t 11) [.t 15]⟩]
abbrev c162_r6 : List Ins := [
  ⟨some 17, none, .mov (.t 5)⟩,
  ⟨some 4, none, .mov (.t 17)⟩]
abbrev c162_r7 : List Ins := [
  ⟨some 18, none, .bin .add (.t 8) (.c (.int .i64 1))⟩,
  ⟨some 8, none, .mov (.t 18)⟩]
abbrev c162_l8 : IR := .seq (.reg c162_r3) (.seq (.cond (.t 9) (.skip) (.exit 0)) (.seq (.blk 1 (.seq (.reg c162_r4) (.seq (.reg c162_r5) (.cond (.t 16) (.seq (.reg c162_r6) (.ret)) (.skip))))) (.reg c162_r7)))
abbrev c162_r9 : List Ins := [
  ⟨some 4, none, .mov (.c (.int .i64 (-1)))⟩]
abbrev c162 : IR := .seq (.reg c162_r1) (.seq (.seq (.reg c162_r2) (.blk 0 (.loop c162_l8))) (.seq (.reg c162_r9) (.ret)))
abbrev F162 : FnA := ⟨19, c162, [.t 4]⟩
theorem ok162 : cFn Try.prog 162 = some F162 := by kernel_rfl
theorem hb162 : HasBody Try.prog 162 := ⟨_, Try.func162, by kernel_rfl, by kernel_rfl⟩


end Go.Proofs
