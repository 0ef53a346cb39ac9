/- The code of the functions that the statement reaches, as the abstract machine reads it. -/
import Derived.Test.YtaepkklbckgbhaaDoorK4
import Derived.Test.YtaepkklbckgbhaaDoorProg
namespace Go.Proofs
open Go Go.RowKit Go.Am

/-! law09.ProgSure -/
abbrev c4_r1 : List Ins := [
  ⟨some 4, none, .mov (.c (.bool false))⟩]
abbrev c4_r2 : List Ins := [
  ⟨some 7, none, .call (.c (.fn 7 [] [])) []⟩,
  ⟨some 8, none, .un .not (.t 7)⟩]
abbrev c4_r3 : List Ins := [
  ⟨some 4, none, .mov (.c (.bool false))⟩]
abbrev c4_r4 : List Ins := [
  ⟨some 9, none, .mov (.t 0)⟩,
  ⟨some 10, none, .len (.t 9)⟩,
  ⟨some 11, none, .bin .gtr (.t 10) (.c (.int .i64 20))⟩]
abbrev c4_r5 : List Ins := [
  ⟨some 4, none, .mov (.c (.bool true))⟩]
abbrev c4_r6 : List Ins := [
  ⟨some 12, none, .mov (.t 1)⟩,
  ⟨some 13, none, .bin .rem (.t 12) (.c (.int .u8 4))⟩,
  ⟨some 14, none, .conv .i64 (.t 13)⟩,
  ⟨some 5, none, .mov (.t 14)⟩]
abbrev c4_r7 : List Ins := [
  ⟨some 15, none, .mov (.t 0)⟩,
  ⟨some 16, none, .mov (.t 5)⟩,
  ⟨some 17, none, .call (.c (.fn 14 [] [])) [.t 15, .t 16]⟩,
  ⟨some 18, none, .mov (.t 17)⟩,
  ⟨some 19, some (18, true), .mov (.t 5)⟩,
  ⟨some 20, some (18, true), .bin .lss (.t 19) (.c (.int .i64 3))⟩,
  ⟨some 21, none, .pick (.t 18) (.t 20) (.c (.bool false))⟩,
  ⟨some 22, none, .mov (.t 21)⟩,
  ⟨some 23, some (22, true), .mov (.t 0)⟩,
  ⟨some 24, some (22, true), .mov (.t 5)⟩,
  ⟨some 25, some (22, true), .bin .add (.t 24) (.c (.int .i64 1))⟩,
  ⟨some 26, some (22, true), .call (.c (.fn 14 [] [])) [.t 23, .t 25]⟩,
  ⟨some 27, some (22, true), .un .not (.t 26)⟩,
  ⟨some 28, none, .pick (.t 22) (.t 27) (.c (.bool false))⟩]
abbrev c4_r8 : List Ins := [
  ⟨some 4, none, .mov (.c (.bool false))⟩]
abbrev c4_r9 : List Ins := [
  ⟨some 6, none, .mov (.c (.int .i64 0))⟩]
abbrev c4_r10 : List Ins := [
  ⟨some 29, none, .mov (.t 6)⟩,
  ⟨some 30, none, .mov (.t 0)⟩,
  ⟨some 31, none, .len (.t 30)⟩,
  ⟨some 32, none, .bin .lss (.t 29) (.t 31)⟩,
  ⟨some 33, none, .mov (.t 32)⟩,
  ⟨some 34, some (33, true), .mov (.t 0)⟩,
  ⟨some 35, some (33, true), .call (.c (.fn 15 [] [])) [.t 34]⟩,
  ⟨some 36, none, .pick (.t 33) (.t 35) (.c (.bool false))⟩]
abbrev c4_r11 : List Ins := [
  ⟨some 39, none, .mov (.t 0)⟩,
  ⟨some 40, none, .mov (.t 6)⟩,
  ⟨some 41, none, .mov (.t 6)⟩,
  ⟨some 42, none, .bin .add (.t 41) (.c (.int .i64 1))⟩,
  ⟨some 43, none, .slice 9 (.t 39) (some (.t 40)) (some (.t 42)) none⟩,
  ⟨some 44, none, .call (.c (.fn 15 [] [])) [.t 43]⟩,
  ⟨some 45, none, .un .not (.t 44)⟩,
  ⟨some 46, none, .mov (.t 45)⟩,
  ⟨some 47, some (46, false), .mov (.t 0)⟩,
  ⟨some 48, some (46, false), .mov (.t 6)⟩,
  ⟨some 49, some (46, false), .slice 9 (.t 47) none (some (.t 48)) none⟩,
  ⟨some 50, some (46, false), .call (.c (.fn 15 [] [])) [.t 49]⟩,
  ⟨some 51, some (46, false), .un .not (.t 50)⟩,
  ⟨some 52, none, .pick (.t 46) (.c (.bool true)) (.t 51)⟩]
abbrev c4_r12 : List Ins := [
  ⟨some 4, none, .mov (.c (.bool false))⟩]
abbrev c4_r13 : List Ins := [
  ⟨some 37, none, .mov (.t 6)⟩,
  ⟨some 38, none, .bin .add (.t 37) (.c (.int .i64 1))⟩,
  ⟨some 6, none, .mov (.t 38)⟩]
abbrev c4_l14 : IR := .seq (.seq (.reg c4_r10) (.cond (.t 36) (.skip) (.exit 0))) (.seq (.blk 1 (.seq (.reg c4_r11) (.cond (.t 52) (.seq (.reg c4_r12) (.ret)) (.skip)))) (.reg c4_r13))
abbrev c4_r15 : List Ins := [
  ⟨some 4, none, .mov (.c (.bool true))⟩]
abbrev c4 : IR := .seq (.reg c4_r1) (.seq (.seq (.reg c4_r2) (.cond (.t 8) (.seq (.reg c4_r3) (.ret)) (.skip))) (.seq (.seq (.reg c4_r4) (.cond (.t 11) (.seq (.reg c4_r5) (.ret)) (.skip))) (.seq (.reg c4_r6) (.seq (.seq (.reg c4_r7) (.cond (.t 28) (.seq (.reg c4_r8) (.ret)) (.skip))) (.seq (.seq (.reg c4_r9) (.blk 0 (.loop c4_l14))) (.seq (.reg c4_r15) (.ret)))))))
abbrev F4 : FnA := ⟨53, c4, [.t 4]⟩
theorem ok4 : cFn Tryd.prog 4 = some F4 := by kernel_rfl
theorem hb4 : HasBody Tryd.prog 4 := ⟨_, Tryd.func4, by kernel_rfl, by kernel_rfl⟩
/-! law09.ProgMay -/
abbrev c5_r1 : List Ins := [
  ⟨some 6, none, .box (.t 2)⟩,
  ⟨some 8, none, .mov (.c (.bool false))⟩]
abbrev c5_r2 : List Ins := [
  ⟨some 14, none, .call (.c (.fn 7 [] [])) []⟩,
  ⟨some 15, none, .un .not (.t 14)⟩]
abbrev c5_r3 : List Ins := [
  ⟨some 8, none, .mov (.c (.bool false))⟩]
abbrev c5_r4 : List Ins := [
  ⟨some 16, none, .mov (.t 0)⟩,
  ⟨some 17, none, .len (.t 16)⟩,
  ⟨some 18, none, .bin .gtr (.t 17) (.c (.int .i64 20))⟩,
  ⟨some 19, none, .mov (.t 18)⟩,
  ⟨some 20, some (19, false), .mov (.t 3)⟩,
  ⟨some 21, some (19, false), .len (.t 20)⟩,
  ⟨some 22, some (19, false), .bin .gtr (.t 21) (.c (.int .i64 10))⟩,
  ⟨some 23, none, .pick (.t 19) (.c (.bool true)) (.t 22)⟩]
abbrev c5_r5 : List Ins := [
  ⟨some 8, none, .mov (.c (.bool true))⟩]
abbrev c5_r6 : List Ins := [
  ⟨some 9, none, .mov (.c (.bool true))⟩]
abbrev c5_r7 : List Ins := [
  ⟨some 10, none, .mov (.c (.int .i64 0))⟩]
abbrev c5_r8 : List Ins := [
  ⟨some 24, none, .mov (.t 10)⟩,
  ⟨some 25, none, .mov (.t 0)⟩,
  ⟨some 26, none, .len (.t 25)⟩,
  ⟨some 27, none, .bin .lss (.t 24) (.t 26)⟩]
abbrev c5_r9 : List Ins := [
  ⟨some 30, none, .mov (.t 9)⟩,
  ⟨some 31, none, .mov (.t 30)⟩,
  ⟨some 32, some (31, true), .mov (.t 0)⟩,
  ⟨some 33, some (31, true), .mov (.t 10)⟩,
  ⟨some 34, some (31, true), .iaddr 9 (.t 32) (.t 33)⟩,
  ⟨some 35, some (31, true), .faddr 0 (.t 34)⟩,
  ⟨some 36, some (31, true), .load 1 false (.t 35)⟩,
  ⟨some 37, some (31, true), .bin .neq (.t 36) (.c (.int .i64 6))⟩,
  ⟨some 38, none, .pick (.t 31) (.t 37) (.c (.bool false))⟩,
  ⟨some 39, none, .mov (.t 38)⟩,
  ⟨some 40, some (39, true), .mov (.t 0)⟩,
  ⟨some 41, some (39, true), .mov (.t 10)⟩,
  ⟨some 42, some (39, true), .iaddr 9 (.t 40) (.t 41)⟩,
  ⟨some 43, some (39, true), .faddr 0 (.t 42)⟩,
  ⟨some 44, some (39, true), .load 1 false (.t 43)⟩,
  ⟨some 45, some (39, true), .bin .neq (.t 44) (.c (.int .i64 7))⟩,
  ⟨some 46, none, .pick (.t 39) (.t 45) (.c (.bool false))⟩,
  ⟨some 47, none, .mov (.t 46)⟩,
  ⟨some 48, some (47, true), .mov (.t 0)⟩,
  ⟨some 49, some (47, true), .mov (.t 10)⟩,
  ⟨some 50, some (47, true), .iaddr 9 (.t 48) (.t 49)⟩,
  ⟨some 51, some (47, true), .faddr 0 (.t 50)⟩,
  ⟨some 52, some (47, true), .load 1 false (.t 51)⟩,
  ⟨some 53, some (47, true), .bin .neq (.t 52) (.c (.int .i64 8))⟩,
  ⟨some 54, none, .pick (.t 47) (.t 53) (.c (.bool false))⟩,
  ⟨some 9, none, .mov (.t 54)⟩]
abbrev c5_r10 : List Ins := [
  ⟨some 28, none, .mov (.t 10)⟩,
  ⟨some 29, none, .bin .add (.t 28) (.c (.int .i64 1))⟩,
  ⟨some 10, none, .mov (.t 29)⟩]
abbrev c5_l11 : IR := .seq (.seq (.reg c5_r8) (.cond (.t 27) (.skip) (.exit 0))) (.seq (.blk 1 (.reg c5_r9)) (.reg c5_r10))
abbrev c5_r12 : List Ins := [
  ⟨some 56, none, .load 2 true (.t 6)⟩,
  ⟨some 57, none, .mov (.t 3)⟩,
  ⟨some 58, none, .call (.c (.fn 16 [] [])) [.t 56, .t 57]⟩,
  ⟨some 55, none, .mov (.t 58)⟩,
  ⟨some 59, none, .ext (.t 55) 0⟩,
  ⟨some 60, none, .ext (.t 55) 1⟩,
  ⟨some 11, none, .mov (.t 59)⟩,
  ⟨some 12, none, .mov (.t 60)⟩]
abbrev c5_r13 : List Ins := [
  ⟨some 61, none, .mov (.t 3)⟩,
  ⟨some 62, none, .call (.c (.fn 17 [] [])) [.t 61]⟩,
  ⟨some 63, none, .mov (.t 62)⟩,
  ⟨some 64, some (63, true), .load 2 true (.t 6)⟩,
  ⟨some 65, some (63, true), .mov (.t 3)⟩,
  ⟨some 66, some (63, true), .len (.t 65)⟩,
  ⟨some 67, some (63, true), .call (.c (.fn 18 [] [])) [.t 64, .t 66]⟩,
  ⟨some 68, none, .pick (.t 63) (.t 67) (.c (.bool false))⟩,
  ⟨some 13, none, .mov (.t 68)⟩]
abbrev c5_r14 : List Ins := [
  ⟨some 69, none, .mov (.t 0)⟩,
  ⟨some 70, none, .mov (.t 1)⟩,
  ⟨some 71, none, .call (.c (.fn 14 [] [])) [.t 69, .t 70]⟩,
  ⟨some 72, none, .mov (.t 0)⟩,
  ⟨some 73, none, .mov (.t 1)⟩,
  ⟨some 74, none, .call (.c (.fn 19 [] [])) [.t 72, .t 73]⟩,
  ⟨some 75, none, .eq [.b] false true (.t 71) (.t 74)⟩,
  ⟨some 76, none, .mov (.t 75)⟩,
  ⟨some 77, some (76, false), .mov (.t 0)⟩,
  ⟨some 78, some (76, false), .call (.c (.fn 15 [] [])) [.t 77]⟩,
  ⟨some 79, some (76, false), .mov (.t 9)⟩,
  ⟨some 80, some (76, false), .eq [.b] false true (.t 78) (.t 79)⟩,
  ⟨some 81, none, .pick (.t 76) (.c (.bool true)) (.t 80)⟩,
  ⟨some 82, none, .mov (.t 81)⟩,
  ⟨some 83, some (82, false), .mov (.t 12)⟩,
  ⟨some 84, some (82, false), .mov (.t 13)⟩,
  ⟨some 85, some (82, false), .eq [.b] false true (.t 83) (.t 84)⟩,
  ⟨some 86, none, .pick (.t 82) (.c (.bool true)) (.t 85)⟩]
abbrev c5_r15 : List Ins := [
  ⟨some 8, none, .mov (.c (.bool false))⟩]
abbrev c5_r16 : List Ins := [
  ⟨some 87, none, .mov (.t 12)⟩,
  ⟨some 88, none, .un .not (.t 87)⟩]
abbrev c5_r17 : List Ins := [
  ⟨some 89, none, .mov (.t 11)⟩,
  ⟨some 90, none, .bin .eql (.t 89) (.c (.int .i64 0))⟩,
  ⟨some 8, none, .mov (.t 90)⟩]
abbrev c5_r18 : List Ins := [
  ⟨some 91, none, .mov (.t 11)⟩,
  ⟨some 92, none, .load 2 true (.t 6)⟩,
  ⟨some 93, none, .mov (.t 3)⟩,
  ⟨some 94, none, .call (.c (.fn 20 [] [])) [.t 92, .t 93]⟩,
  ⟨some 95, none, .bin .eql (.t 91) (.t 94)⟩,
  ⟨some 96, none, .mov (.t 95)⟩,
  ⟨some 97, some (96, true), .mov (.t 11)⟩,
  ⟨some 98, some (96, true), .bin .geq (.t 97) (.c (.int .i64 0))⟩,
  ⟨some 99, none, .pick (.t 96) (.t 98) (.c (.bool false))⟩,
  ⟨some 100, none, .mov (.t 99)⟩,
  ⟨some 101, some (100, true), .mov (.t 11)⟩,
  ⟨some 102, some (100, true), .bin .leq (.t 101) (.c (.int .i64 999))⟩,
  ⟨some 103, none, .pick (.t 100) (.t 102) (.c (.bool false))⟩,
  ⟨some 8, none, .mov (.t 103)⟩]
abbrev c5 : IR := .seq (.reg c5_r1) (.seq (.seq (.reg c5_r2) (.cond (.t 15) (.seq (.reg c5_r3) (.ret)) (.skip))) (.seq (.seq (.reg c5_r4) (.cond (.t 23) (.seq (.reg c5_r5) (.ret)) (.skip))) (.seq (.reg c5_r6) (.seq (.seq (.reg c5_r7) (.blk 0 (.loop c5_l11))) (.seq (.reg c5_r12) (.seq (.reg c5_r13) (.seq (.seq (.reg c5_r14) (.cond (.t 86) (.seq (.reg c5_r15) (.ret)) (.skip))) (.seq (.seq (.reg c5_r16) (.cond (.t 88) (.seq (.reg c5_r17) (.ret)) (.skip))) (.seq (.reg c5_r18) (.ret))))))))))
abbrev F5 : FnA := ⟨104, c5, [.t 8]⟩
theorem ok5 : cFn Tryd.prog 5 = some F5 := by kernel_rfl
theorem hb5 : HasBody Tryd.prog 5 := ⟨_, Tryd.func5, by kernel_rfl, by kernel_rfl⟩
/-! law09.alive -/
abbrev c7_r1 : List Ins := [
  ⟨some 0, none, .mov (.c (.bool false))⟩]
abbrev c7_r2 : List Ins := [
  ⟨some 1, none, .build [.int .i64 0, .int .i64 0] [(1, (1, .c (.int .i64 5)))]⟩,
  ⟨some 2, none, .build [.int .i64 0, .int .i64 0, .int .i64 0, .int .i64 0, .int .i64 0, .int .i64 0, .int .i64 0, .int .i64 0, .int .i64 0] [(0, (1, .c (.int .i64 1))), (1, (1, .c (.int .i64 2))), (4, (2, .t 1))]⟩,
  ⟨some 3, none, .call (.c (.fn 26 [] [])) [.t 2]⟩,
  ⟨some 4, none, .bin .eql (.t 3) (.c (.str ⟨#[103, 101, 116, 32, 114, 50, 32, 53, 43, 97, 48]⟩))⟩,
  ⟨some 0, none, .mov (.t 4)⟩]
abbrev c7 : IR := .seq (.reg c7_r1) (.seq (.reg c7_r2) (.ret))
abbrev F7 : FnA := ⟨5, c7, [.t 0]⟩
theorem ok7 : cFn Tryd.prog 7 = some F7 := by kernel_rfl
theorem hb7 : HasBody Tryd.prog 7 := ⟨_, Tryd.func7, by kernel_rfl, by kernel_rfl⟩
/-! prog.May -/
abbrev c14_r1 : List Ins := [
  ⟨some 3, none, .box (.t 1)⟩,
  ⟨some 4, none, .mov (.c (.bool false))⟩]
abbrev c14_r2 : List Ins := [
  ⟨some 5, none, .load 1 false (.t 3)⟩,
  ⟨some 6, none, .bin .lss (.t 5) (.c (.int .i64 0))⟩,
  ⟨some 7, none, .mov (.t 6)⟩,
  ⟨some 8, some (7, false), .load 1 false (.t 3)⟩,
  ⟨some 9, some (7, false), .bin .gtr (.t 8) (.c (.int .i64 3))⟩,
  ⟨some 10, none, .pick (.t 7) (.c (.bool true)) (.t 9)⟩,
  ⟨some 11, none, .mov (.t 10)⟩,
  ⟨some 12, some (11, false), .mov (.t 0)⟩,
  ⟨some 13, some (11, false), .len (.t 12)⟩,
  ⟨some 14, some (11, false), .bin .lss (.t 13) (.c (.int .i64 1))⟩,
  ⟨some 15, none, .pick (.t 11) (.c (.bool true)) (.t 14)⟩,
  ⟨some 16, none, .mov (.t 15)⟩,
  ⟨some 17, some (16, false), .mov (.t 0)⟩,
  ⟨some 18, some (16, false), .len (.t 17)⟩,
  ⟨some 19, some (16, false), .bin .gtr (.t 18) (.c (.int .i64 8))⟩,
  ⟨some 20, none, .pick (.t 16) (.c (.bool true)) (.t 19)⟩]
abbrev c14_r3 : List Ins := [
  ⟨some 4, none, .mov (.c (.bool false))⟩]
abbrev c14_r4 : List Ins := [
  ⟨some 21, none, .mov (.t 0)⟩,
  ⟨some 22, none, .mkfn 33 [] [.t 3]⟩,
  ⟨some 23, none, .call (.c (.fn 32 [] [])) [.t 21, .t 22]⟩,
  ⟨some 24, none, .un .not (.t 23)⟩,
  ⟨some 4, none, .mov (.t 24)⟩]
abbrev c14 : IR := .seq (.reg c14_r1) (.seq (.seq (.reg c14_r2) (.cond (.t 20) (.seq (.reg c14_r3) (.ret)) (.skip))) (.seq (.reg c14_r4) (.ret)))
abbrev F14 : FnA := ⟨25, c14, [.t 4]⟩
theorem ok14 : cFn Tryd.prog 14 = some F14 := by kernel_rfl
theorem hb14 : HasBody Tryd.prog 14 := ⟨_, Tryd.func14, by kernel_rfl, by kernel_rfl⟩
/-! prog.Sure -/
abbrev c15_r1 : List Ins := [
  ⟨some 2, none, .mov (.c (.bool false))⟩]
abbrev c15_r2 : List Ins := [
  ⟨some 3, none, .mov (.t 0)⟩,
  ⟨some 4, none, .call (.c (.fn 32 [] [])) [.t 3, .c (.fn 35 [] [])]⟩,
  ⟨some 5, none, .un .not (.t 4)⟩,
  ⟨some 2, none, .mov (.t 5)⟩]
abbrev c15 : IR := .seq (.reg c15_r1) (.seq (.reg c15_r2) (.ret))
abbrev F15 : FnA := ⟨6, c15, [.t 2]⟩
theorem ok15 : cFn Tryd.prog 15 = some F15 := by kernel_rfl
theorem hb15 : HasBody Tryd.prog 15 := ⟨_, Tryd.func15, by kernel_rfl, by kernel_rfl⟩
/-! prog.Key -/
abbrev c16_r1 : List Ins := [
  ⟨some 2, none, .box (.t 0)⟩,
  ⟨some 4, none, .mov (.c (.int .i64 0))⟩,
  ⟨some 5, none, .mov (.c (.bool false))⟩]
abbrev c16_r2 : List Ins := [
  ⟨some 6, none, .mov (.c (.fn 36 [] []))⟩]
abbrev c16_r3 : List Ins := [
  ⟨some 7, none, .load 2 true (.t 2)⟩,
  ⟨some 8, none, .mov (.t 1)⟩,
  ⟨some 9, none, .len (.t 8)⟩,
  ⟨some 10, none, .call (.c (.fn 37 [] [])) [.t 7, .t 9]⟩,
  ⟨some 11, none, .un .not (.t 10)⟩,
  ⟨some 12, none, .mov (.t 11)⟩,
  ⟨some 13, some (12, false), .mov (.t 1)⟩,
  ⟨some 14, some (12, false), .len (.t 13)⟩,
  ⟨some 15, some (12, false), .bin .gtr (.t 14) (.c (.int .i64 3))⟩,
  ⟨some 16, none, .pick (.t 12) (.c (.bool true)) (.t 15)⟩,
  ⟨some 17, none, .mov (.t 16)⟩,
  ⟨some 18, some (17, false), .mov (.t 1)⟩,
  ⟨some 19, some (17, false), .mov (.t 6)⟩,
  ⟨some 20, some (17, false), .call (.c (.fn 38 [] [])) [.t 18, .t 19]⟩,
  ⟨some 21, none, .pick (.t 17) (.c (.bool true)) (.t 20)⟩]
abbrev c16_r4 : List Ins := [
  ⟨some 4, none, .mov (.c (.int .i64 0))⟩,
  ⟨some 5, none, .mov (.c (.bool false))⟩]
abbrev c16_r5 : List Ins := [
  ⟨some 22, none, .faddr 0 (.t 2)⟩,
  ⟨some 23, none, .load 1 false (.t 22)⟩,
  ⟨some 24, none, .bin .lss (.t 23) (.c (.int .i64 0))⟩]
abbrev c16_r6 : List Ins := [
  ⟨some 25, none, .faddr 1 (.t 2)⟩,
  ⟨some 26, none, .load 1 false (.t 25)⟩,
  ⟨some 4, none, .mov (.t 26)⟩,
  ⟨some 5, none, .mov (.c (.bool true))⟩]
abbrev c16_r7 : List Ins := [
  ⟨some 27, none, .faddr 1 (.t 2)⟩,
  ⟨some 28, none, .load 1 false (.t 27)⟩,
  ⟨some 29, none, .mov (.t 1)⟩,
  ⟨some 30, none, .faddr 0 (.t 2)⟩,
  ⟨some 31, none, .load 1 false (.t 30)⟩,
  ⟨some 32, none, .iaddr 1 (.t 29) (.t 31)⟩,
  ⟨some 33, none, .load 1 false (.t 32)⟩,
  ⟨some 34, none, .bin .add (.t 28) (.t 33)⟩,
  ⟨some 4, none, .mov (.t 34)⟩,
  ⟨some 5, none, .mov (.c (.bool true))⟩]
def c16_a7 : List (List Nat) := [[], [0], [], [], [3], [2, 4], [5], [1, 6], [7, 0, 1, 2, 3, 4, 5, 6, 7], [8, 0, 1, 2, 3, 4, 5, 6, 7, 8]]
abbrev c16_m7 : List Am.Mark := [⟨false, 0, 0⟩, ⟨false, 0, 0⟩, ⟨false, 0, 0⟩, ⟨false, 0, 0⟩, ⟨false, 0, 0⟩, ⟨false, 0, 0⟩, ⟨false, 0, 0⟩, ⟨false, 0, 0⟩, ⟨false, 0, 0⟩, ⟨false, 0, 0⟩]
theorem c16_d7 : drawFine c16_r7 c16_a7 c16_m7 = true := by decide +kernel
abbrev c16 : IR := .seq (.reg c16_r1) (.seq (.reg c16_r2) (.seq (.seq (.reg c16_r3) (.cond (.t 21) (.seq (.reg c16_r4) (.ret)) (.skip))) (.seq (.seq (.reg c16_r5) (.cond (.t 24) (.seq (.reg c16_r6) (.ret)) (.skip))) (.seq (.dreg c16_r7 c16_a7) (.ret)))))
abbrev F16 : FnA := ⟨35, c16, [.t 4, .t 5]⟩
theorem ok16 : cFn Tryd.prog 16 = some F16 := by kernel_rfl
theorem hb16 : HasBody Tryd.prog 16 := ⟨_, Tryd.func16, by kernel_rfl, by kernel_rfl⟩
/-! ref09.Args -/
abbrev c17_r1 : List Ins := [
  ⟨some 2, none, .mov (.c (.bool false))⟩]
abbrev c17_r2 : List Ins := [
  ⟨some 3, none, .mov (.c (.int .i64 0))⟩]
abbrev c17_r3 : List Ins := [
  ⟨some 4, none, .mov (.t 3)⟩,
  ⟨some 5, none, .mov (.t 0)⟩,
  ⟨some 6, none, .len (.t 5)⟩,
  ⟨some 7, none, .bin .lss (.t 4) (.t 6)⟩]
abbrev c17_r4 : List Ins := [
  ⟨some 10, none, .mov (.t 0)⟩,
  ⟨some 11, none, .mov (.t 3)⟩,
  ⟨some 12, none, .iaddr 1 (.t 10) (.t 11)⟩,
  ⟨some 13, none, .load 1 false (.t 12)⟩,
  ⟨some 14, none, .bin .lss (.t 13) (.c (.int .i64 0))⟩,
  ⟨some 15, none, .mov (.t 14)⟩,
  ⟨some 16, some (15, false), .mov (.t 0)⟩,
  ⟨some 17, some (15, false), .mov (.t 3)⟩,
  ⟨some 18, some (15, false), .iaddr 1 (.t 16) (.t 17)⟩,
  ⟨some 19, some (15, false), .load 1 false (.t 18)⟩,
  ⟨some 20, some (15, false), .bin .gtr (.t 19) (.c (.int .i64 99))⟩,
  ⟨some 21, none, .pick (.t 15) (.c (.bool true)) (.t 20)⟩]
abbrev c17_r5 : List Ins := [
  ⟨some 2, none, .mov (.c (.bool false))⟩]
abbrev c17_r6 : List Ins := [
  ⟨some 8, none, .mov (.t 3)⟩,
  ⟨some 9, none, .bin .add (.t 8) (.c (.int .i64 1))⟩,
  ⟨some 3, none, .mov (.t 9)⟩]
abbrev c17_l7 : IR := .seq (.seq (.reg c17_r3) (.cond (.t 7) (.skip) (.exit 0))) (.seq (.blk 1 (.seq (.reg c17_r4) (.cond (.t 21) (.seq (.reg c17_r5) (.ret)) (.skip)))) (.reg c17_r6))
abbrev c17_r8 : List Ins := [
  ⟨some 22, none, .mov (.t 0)⟩,
  ⟨some 23, none, .len (.t 22)⟩,
  ⟨some 24, none, .bin .leq (.t 23) (.c (.int .i64 3))⟩,
  ⟨some 2, none, .mov (.t 24)⟩]
abbrev c17 : IR := .seq (.reg c17_r1) (.seq (.seq (.reg c17_r2) (.blk 0 (.loop c17_l7))) (.seq (.reg c17_r8) (.ret)))
abbrev F17 : FnA := ⟨25, c17, [.t 2]⟩
theorem ok17 : cFn Tryd.prog 17 = some F17 := by kernel_rfl
theorem hb17 : HasBody Tryd.prog 17 := ⟨_, Tryd.func17, by kernel_rfl, by kernel_rfl⟩
/-! ref09.MayKey -/
abbrev c18_r1 : List Ins := [
  ⟨some 2, none, .box (.t 0)⟩,
  ⟨some 4, none, .mov (.c (.bool false))⟩]
abbrev c18_r2 : List Ins := [
  ⟨some 5, none, .faddr 0 (.t 2)⟩,
  ⟨some 6, none, .load 1 false (.t 5)⟩,
  ⟨some 7, none, .bin .geq (.t 6) (.c (.int .i64 (-1)))⟩,
  ⟨some 8, none, .mov (.t 7)⟩,
  ⟨some 9, some (8, true), .faddr 0 (.t 2)⟩,
  ⟨some 10, some (8, true), .load 1 false (.t 9)⟩,
  ⟨some 11, some (8, true), .mov (.t 1)⟩,
  ⟨some 12, some (8, true), .bin .lss (.t 10) (.t 11)⟩,
  ⟨some 13, none, .pick (.t 8) (.t 12) (.c (.bool false))⟩,
  ⟨some 14, none, .mov (.t 13)⟩,
  ⟨some 15, some (14, true), .faddr 1 (.t 2)⟩,
  ⟨some 16, some (14, true), .load 1 false (.t 15)⟩,
  ⟨some 17, some (14, true), .bin .geq (.t 16) (.c (.int .i64 0))⟩,
  ⟨some 18, none, .pick (.t 14) (.t 17) (.c (.bool false))⟩,
  ⟨some 19, none, .mov (.t 18)⟩,
  ⟨some 20, some (19, true), .faddr 1 (.t 2)⟩,
  ⟨some 21, some (19, true), .load 1 false (.t 20)⟩,
  ⟨some 22, some (19, true), .bin .leq (.t 21) (.c (.int .i64 900))⟩,
  ⟨some 23, none, .pick (.t 19) (.t 22) (.c (.bool false))⟩,
  ⟨some 4, none, .mov (.t 23)⟩]
abbrev c18 : IR := .seq (.reg c18_r1) (.seq (.reg c18_r2) (.ret))
abbrev F18 : FnA := ⟨24, c18, [.t 4]⟩
theorem ok18 : cFn Tryd.prog 18 = some F18 := by kernel_rfl
theorem hb18 : HasBody Tryd.prog 18 := ⟨_, Tryd.func18, by kernel_rfl, by kernel_rfl⟩
/-! ref09.May -/
abbrev c19_r1 : List Ins := [
  ⟨some 4, none, .mov (.c (.bool false))⟩]
abbrev c19_r2 : List Ins := [
  ⟨some 6, none, .mov (.t 1)⟩,
  ⟨some 7, none, .bin .lss (.t 6) (.c (.int .i64 0))⟩,
  ⟨some 8, none, .mov (.t 7)⟩,
  ⟨some 9, some (8, false), .mov (.t 1)⟩,
  ⟨some 10, some (8, false), .bin .gtr (.t 9) (.c (.int .i64 3))⟩,
  ⟨some 11, none, .pick (.t 8) (.c (.bool true)) (.t 10)⟩,
  ⟨some 12, none, .mov (.t 11)⟩,
  ⟨some 13, some (12, false), .mov (.t 0)⟩,
  ⟨some 14, some (12, false), .len (.t 13)⟩,
  ⟨some 15, some (12, false), .bin .lss (.t 14) (.c (.int .i64 1))⟩,
  ⟨some 16, none, .pick (.t 12) (.c (.bool true)) (.t 15)⟩,
  ⟨some 17, none, .mov (.t 16)⟩,
  ⟨some 18, some (17, false), .mov (.t 0)⟩,
  ⟨some 19, some (17, false), .len (.t 18)⟩,
  ⟨some 20, some (17, false), .bin .gtr (.t 19) (.c (.int .i64 8))⟩,
  ⟨some 21, none, .pick (.t 17) (.c (.bool true)) (.t 20)⟩]
abbrev c19_r3 : List Ins := [
  ⟨some 4, none, .mov (.c (.bool false))⟩]
abbrev c19_r4 : List Ins := [
  ⟨some 5, none, .mov (.c (.int .i64 0))⟩]
abbrev c19_r5 : List Ins := [
  ⟨some 22, none, .mov (.t 5)⟩,
  ⟨some 23, none, .mov (.t 0)⟩,
  ⟨some 24, none, .len (.t 23)⟩,
  ⟨some 25, none, .bin .lss (.t 22) (.t 24)⟩]
abbrev c19_r6 : List Ins := [
  ⟨some 28, none, .mov (.t 0)⟩,
  ⟨some 29, none, .mov (.t 5)⟩,
  ⟨some 30, none, .iaddr 9 (.t 28) (.t 29)⟩,
  ⟨some 31, none, .load 9 true (.t 30)⟩,
  ⟨some 32, none, .mov (.t 1)⟩,
  ⟨some 33, none, .call (.c (.fn 39 [] [])) [.t 31, .t 32]⟩,
  ⟨some 34, none, .un .not (.t 33)⟩]
abbrev c19_r7 : List Ins := [
  ⟨some 4, none, .mov (.c (.bool false))⟩]
abbrev c19_r8 : List Ins := [
  ⟨some 26, none, .mov (.t 5)⟩,
  ⟨some 27, none, .bin .add (.t 26) (.c (.int .i64 1))⟩,
  ⟨some 5, none, .mov (.t 27)⟩]
abbrev c19_l9 : IR := .seq (.seq (.reg c19_r5) (.cond (.t 25) (.skip) (.exit 0))) (.seq (.blk 1 (.seq (.reg c19_r6) (.cond (.t 34) (.seq (.reg c19_r7) (.ret)) (.skip)))) (.reg c19_r8))
abbrev c19_r10 : List Ins := [
  ⟨some 4, none, .mov (.c (.bool true))⟩]
abbrev c19 : IR := .seq (.reg c19_r1) (.seq (.seq (.reg c19_r2) (.cond (.t 21) (.seq (.reg c19_r3) (.ret)) (.skip))) (.seq (.seq (.reg c19_r4) (.blk 0 (.loop c19_l9))) (.seq (.reg c19_r10) (.ret))))
abbrev F19 : FnA := ⟨35, c19, [.t 4]⟩
theorem ok19 : cFn Tryd.prog 19 = some F19 := by kernel_rfl
theorem hb19 : HasBody Tryd.prog 19 := ⟨_, Tryd.func19, by kernel_rfl, by kernel_rfl⟩
/-! ref09.Key -/
abbrev c20_r1 : List Ins := [
  ⟨some 2, none, .box (.t 0)⟩,
  ⟨some 4, none, .mov (.c (.int .i64 0))⟩]
abbrev c20_r2 : List Ins := [
  ⟨some 5, none, .faddr 0 (.t 2)⟩,
  ⟨some 6, none, .load 1 false (.t 5)⟩,
  ⟨some 7, none, .bin .lss (.t 6) (.c (.int .i64 0))⟩]
abbrev c20_r3 : List Ins := [
  ⟨some 8, none, .faddr 1 (.t 2)⟩,
  ⟨some 9, none, .load 1 false (.t 8)⟩,
  ⟨some 4, none, .mov (.t 9)⟩]
abbrev c20_r4 : List Ins := [
  ⟨some 10, none, .faddr 1 (.t 2)⟩,
  ⟨some 11, none, .load 1 false (.t 10)⟩,
  ⟨some 12, none, .mov (.t 1)⟩,
  ⟨some 13, none, .faddr 0 (.t 2)⟩,
  ⟨some 14, none, .load 1 false (.t 13)⟩,
  ⟨some 15, none, .iaddr 1 (.t 12) (.t 14)⟩,
  ⟨some 16, none, .load 1 false (.t 15)⟩,
  ⟨some 17, none, .bin .add (.t 11) (.t 16)⟩,
  ⟨some 4, none, .mov (.t 17)⟩]
def c20_a4 : List (List Nat) := [[], [0], [], [], [3], [2, 4], [5], [1, 6], [7, 0, 1, 2, 3, 4, 5, 6, 7]]
abbrev c20_m4 : List Am.Mark := [⟨false, 0, 0⟩, ⟨false, 0, 0⟩, ⟨false, 0, 0⟩, ⟨false, 0, 0⟩, ⟨false, 0, 0⟩, ⟨false, 0, 0⟩, ⟨false, 0, 0⟩, ⟨false, 0, 0⟩, ⟨false, 0, 0⟩]
theorem c20_d4 : drawFine c20_r4 c20_a4 c20_m4 = true := by decide +kernel
abbrev c20 : IR := .seq (.reg c20_r1) (.seq (.seq (.reg c20_r2) (.cond (.t 7) (.seq (.reg c20_r3) (.ret)) (.skip))) (.seq (.dreg c20_r4 c20_a4) (.ret)))
abbrev F20 : FnA := ⟨18, c20, [.t 4]⟩
theorem ok20 : cFn Tryd.prog 20 = some F20 := by kernel_rfl
theorem hb20 : HasBody Tryd.prog 20 := ⟨_, Tryd.func20, by kernel_rfl, by kernel_rfl⟩
/-! codes.Writer.Done -/
abbrev c22_r1 : List Ins := [
  ⟨some 2, none, .mov (.c (.sl .full []))⟩]
abbrev c22_r2 : List Ins := [
  ⟨some 3, none, .mov (.t 0)⟩,
  ⟨some 4, none, .nilck (.t 3)⟩,
  ⟨some 5, none, .faddr 0 (.t 4)⟩,
  ⟨some 6, none, .load 1 false (.t 5)⟩,
  ⟨some 7, none, .call (.c (.fn 43 [] [])) [.t 6]⟩,
  ⟨some 2, none, .mov (.t 7)⟩]
abbrev c22 : IR := .seq (.reg c22_r1) (.seq (.reg c22_r2) (.ret))
abbrev F22 : FnA := ⟨8, c22, [.t 2]⟩
theorem ok22 : cFn Tryd.prog 22 = some F22 := by kernel_rfl
theorem hb22 : HasBody Tryd.prog 22 := ⟨_, Tryd.func22, by kernel_rfl, by kernel_rfl⟩
/-! ref01.Words -/
abbrev c23_r1 : List Ins := [
  ⟨some 4, none, .mov (.c (.bool false))⟩]
abbrev c23_r2 : List Ins := [
  ⟨some 6, none, .mov (.t 0)⟩,
  ⟨some 7, none, .len (.t 6)⟩,
  ⟨some 8, none, .mov (.t 1)⟩,
  ⟨some 9, none, .len (.t 8)⟩,
  ⟨some 10, none, .bin .neq (.t 7) (.t 9)⟩]
abbrev c23_r3 : List Ins := [
  ⟨some 4, none, .mov (.c (.bool false))⟩]
abbrev c23_r4 : List Ins := [
  ⟨some 5, none, .mov (.c (.int .i64 0))⟩]
abbrev c23_r5 : List Ins := [
  ⟨some 11, none, .mov (.t 5)⟩,
  ⟨some 12, none, .mov (.t 0)⟩,
  ⟨some 13, none, .len (.t 12)⟩,
  ⟨some 14, none, .bin .lss (.t 11) (.t 13)⟩]
abbrev c23_r6 : List Ins := [
  ⟨some 17, none, .mov (.t 0)⟩,
  ⟨some 18, none, .mov (.t 5)⟩,
  ⟨some 19, none, .iaddr 1 (.t 17) (.t 18)⟩,
  ⟨some 20, none, .load 1 false (.t 19)⟩,
  ⟨some 21, none, .mov (.t 1)⟩,
  ⟨some 22, none, .mov (.t 5)⟩,
  ⟨some 23, none, .iaddr 1 (.t 21) (.t 22)⟩,
  ⟨some 24, none, .load 1 false (.t 23)⟩,
  ⟨some 25, none, .bin .neq (.t 20) (.t 24)⟩]
def c23_a6 : List (List Nat) := [[], [], [0, 1], [2], [], [], [4, 5], [6], [3, 7]]
abbrev c23_m6 : List Am.Mark := [⟨false, 0, 0⟩, ⟨false, 0, 0⟩, ⟨false, 0, 0⟩, ⟨false, 0, 0⟩, ⟨false, 0, 0⟩, ⟨false, 0, 0⟩, ⟨false, 0, 0⟩, ⟨false, 0, 0⟩, ⟨false, 0, 0⟩]
theorem c23_d6 : drawFine c23_r6 c23_a6 c23_m6 = true := by decide +kernel
abbrev c23_r7 : List Ins := [
  ⟨some 4, none, .mov (.c (.bool false))⟩]
abbrev c23_r8 : List Ins := [
  ⟨some 15, none, .mov (.t 5)⟩,
  ⟨some 16, none, .bin .add (.t 15) (.c (.int .i64 1))⟩,
  ⟨some 5, none, .mov (.t 16)⟩]
abbrev c23_l9 : IR := .seq (.seq (.reg c23_r5) (.cond (.t 14) (.skip) (.exit 0))) (.seq (.blk 1 (.seq (.dreg c23_r6 c23_a6) (.cond (.t 25) (.seq (.reg c23_r7) (.ret)) (.skip)))) (.reg c23_r8))
abbrev c23_r10 : List Ins := [
  ⟨some 4, none, .mov (.c (.bool true))⟩]
abbrev c23 : IR := .seq (.reg c23_r1) (.seq (.seq (.reg c23_r2) (.cond (.t 10) (.seq (.reg c23_r3) (.ret)) (.skip))) (.seq (.seq (.reg c23_r4) (.blk 0 (.loop c23_l9))) (.seq (.reg c23_r10) (.ret))))
abbrev F23 : FnA := ⟨26, c23, [.t 4]⟩
theorem ok23 : cFn Tryd.prog 23 = some F23 := by kernel_rfl
theorem hb23 : HasBody Tryd.prog 23 := ⟨_, Tryd.func23, by kernel_rfl, by kernel_rfl⟩
/-! prog.Text -/
abbrev c26_r1 : List Ins := [
  ⟨some 1, none, .box (.t 0)⟩,
  ⟨some 2, none, .mov (.c (.str ⟨#[]⟩))⟩]
abbrev c26_r2 : List Ins := [
  ⟨some 3, none, .mov (.c (.fn 46 [] []))⟩]
abbrev c26_r3 : List Ins := [
  ⟨some 5, none, .faddr 8 (.t 1)⟩,
  ⟨some 6, none, .load 1 false (.t 5)⟩,
  ⟨some 7, none, .call (.c (.fn 48 [] [])) [.t 6, .c (.int .i64 10)]⟩,
  ⟨some 4, none, .mov (.t 7)⟩]
abbrev c26_r4 : List Ins := [
  ⟨some 8, none, .faddr 0 (.t 1)⟩,
  ⟨some 9, none, .load 1 false (.t 8)⟩]
abbrev c26_r5 : List Ins := [
  ⟨some 11, none, .bin .eql (.t 9) (.c (.int .i64 1))⟩,
  ⟨some 10, none, .mov (.t 11)⟩]
abbrev c26_r6 : List Ins := [
  ⟨some 12, none, .mov (.t 3)⟩,
  ⟨some 13, none, .faddr 1 (.t 1)⟩,
  ⟨some 14, none, .load 1 false (.t 13)⟩,
  ⟨some 15, none, .call (.t 12) [.t 14]⟩,
  ⟨some 16, none, .faddr 4 (.t 1)⟩,
  ⟨some 17, none, .load 2 true (.t 16)⟩,
  ⟨some 18, none, .call (.c (.fn 50 [] [])) [.t 17]⟩,
  ⟨some 19, none, .bsl 1 3 [.str ⟨#[]⟩] [(0, .c (.str ⟨#[103, 101, 116]⟩)), (1, .t 15), (2, .t 18)]⟩,
  ⟨some 20, none, .call (.c (.fn 49 [] [])) [.t 19]⟩,
  ⟨some 2, none, .mov (.t 20)⟩]
def c26_a6 : List (List Nat) := [[], [], [1], [0, 2], [], [4], [5, 3], [3, 6], [7, 6], [8, 8, 0, 1, 2, 3, 4, 5, 6, 7, 8]]
abbrev c26_m6 : List Am.Mark := [⟨false, 0, 0⟩, ⟨false, 0, 1⟩, ⟨false, 0, 0⟩, ⟨true, 0, 1⟩, ⟨false, 0, 1⟩, ⟨false, 0, 1⟩, ⟨false, 1, 1⟩, ⟨false, 1, 1⟩, ⟨false, 1, 1⟩, ⟨false, 1, 1⟩]
theorem c26_d6 : drawFine c26_r6 c26_a6 c26_m6 = true := by decide +kernel
abbrev c26_r7 : List Ins := [
  ⟨some 22, none, .bin .eql (.t 9) (.c (.int .i64 2))⟩,
  ⟨some 21, none, .mov (.t 22)⟩]
abbrev c26_r8 : List Ins := [
  ⟨some 23, none, .faddr 4 (.t 1)⟩,
  ⟨some 24, none, .load 2 true (.t 23)⟩,
  ⟨some 25, none, .call (.c (.fn 50 [] [])) [.t 24]⟩,
  ⟨some 26, none, .mov (.t 3)⟩,
  ⟨some 27, none, .faddr 1 (.t 1)⟩,
  ⟨some 28, none, .load 1 false (.t 27)⟩,
  ⟨some 29, none, .call (.t 26) [.t 28]⟩,
  ⟨some 30, none, .bsl 1 3 [.str ⟨#[]⟩] [(0, .c (.str ⟨#[112, 117, 116]⟩)), (1, .t 25), (2, .t 29)]⟩,
  ⟨some 31, none, .call (.c (.fn 49 [] [])) [.t 30]⟩,
  ⟨some 2, none, .mov (.t 31)⟩]
def c26_a8 : List (List Nat) := [[], [0], [1], [], [], [4], [3, 5, 2], [2, 6], [7, 6], [8, 8, 0, 1, 2, 3, 4, 5, 6, 7, 8]]
abbrev c26_m8 : List Am.Mark := [⟨false, 0, 1⟩, ⟨false, 0, 1⟩, ⟨false, 0, 0⟩, ⟨false, 0, 0⟩, ⟨false, 0, 1⟩, ⟨false, 0, 0⟩, ⟨true, 0, 1⟩, ⟨false, 1, 1⟩, ⟨false, 1, 1⟩, ⟨false, 1, 1⟩]
theorem c26_d8 : drawFine c26_r8 c26_a8 c26_m8 = true := by decide +kernel
abbrev c26_r9 : List Ins := [
  ⟨some 33, none, .bin .eql (.t 9) (.c (.int .i64 3))⟩,
  ⟨some 32, none, .mov (.t 33)⟩]
abbrev c26_r10 : List Ins := [
  ⟨some 34, none, .faddr 4 (.t 1)⟩,
  ⟨some 35, none, .load 2 true (.t 34)⟩,
  ⟨some 36, none, .call (.c (.fn 50 [] [])) [.t 35]⟩,
  ⟨some 37, none, .bsl 1 2 [.str ⟨#[]⟩] [(0, .c (.str ⟨#[100, 101, 108, 101, 116, 101]⟩)), (1, .t 36)]⟩,
  ⟨some 38, none, .call (.c (.fn 49 [] [])) [.t 37]⟩,
  ⟨some 2, none, .mov (.t 38)⟩]
abbrev c26_r11 : List Ins := [
  ⟨some 40, none, .bin .eql (.t 9) (.c (.int .i64 4))⟩,
  ⟨some 39, none, .mov (.t 40)⟩]
abbrev c26_r12 : List Ins := [
  ⟨some 41, none, .mov (.t 3)⟩,
  ⟨some 42, none, .faddr 1 (.t 1)⟩,
  ⟨some 43, none, .load 1 false (.t 42)⟩,
  ⟨some 44, none, .call (.t 41) [.t 43]⟩,
  ⟨some 45, none, .faddr 4 (.t 1)⟩,
  ⟨some 46, none, .load 2 true (.t 45)⟩,
  ⟨some 47, none, .call (.c (.fn 50 [] [])) [.t 46]⟩,
  ⟨some 48, none, .faddr 6 (.t 1)⟩,
  ⟨some 49, none, .load 2 true (.t 48)⟩,
  ⟨some 50, none, .call (.c (.fn 50 [] [])) [.t 49]⟩,
  ⟨some 51, none, .bsl 1 4 [.str ⟨#[]⟩] [(0, .c (.str ⟨#[115, 99, 97, 110]⟩)), (1, .t 44), (2, .t 47), (3, .t 50)]⟩,
  ⟨some 52, none, .call (.c (.fn 49 [] [])) [.t 51]⟩,
  ⟨some 2, none, .mov (.t 52)⟩]
def c26_a12 : List (List Nat) := [[], [], [1], [0, 2], [], [4], [5, 3], [], [7], [8, 6], [3, 6, 9], [10, 9], [11, 11, 0, 1, 2, 3, 4, 5, 6, 7, 8, 9, 10, 11]]
abbrev c26_m12 : List Am.Mark := [⟨false, 0, 0⟩, ⟨false, 0, 1⟩, ⟨false, 0, 0⟩, ⟨true, 0, 1⟩, ⟨false, 0, 1⟩, ⟨false, 0, 1⟩, ⟨false, 1, 1⟩, ⟨false, 0, 1⟩, ⟨false, 0, 1⟩, ⟨false, 1, 1⟩, ⟨false, 1, 1⟩, ⟨false, 1, 1⟩, ⟨false, 1, 1⟩]
theorem c26_d12 : drawFine c26_r12 c26_a12 c26_m12 = true := by decide +kernel
abbrev c26_r13 : List Ins := [
  ⟨some 54, none, .bin .eql (.t 9) (.c (.int .i64 5))⟩,
  ⟨some 53, none, .mov (.t 54)⟩]
abbrev c26_r14 : List Ins := [
  ⟨some 55, none, .mov (.t 3)⟩,
  ⟨some 56, none, .faddr 1 (.t 1)⟩,
  ⟨some 57, none, .load 1 false (.t 56)⟩,
  ⟨some 58, none, .call (.t 55) [.t 57]⟩,
  ⟨some 59, none, .mov (.t 4)⟩,
  ⟨some 60, none, .bsl 1 3 [.str ⟨#[]⟩] [(0, .c (.str ⟨#[115, 101, 116]⟩)), (1, .t 58), (2, .t 59)]⟩,
  ⟨some 61, none, .call (.c (.fn 49 [] [])) [.t 60]⟩,
  ⟨some 2, none, .mov (.t 61)⟩]
abbrev c26_r15 : List Ins := [
  ⟨some 63, none, .bin .eql (.t 9) (.c (.int .i64 6))⟩,
  ⟨some 62, none, .mov (.t 63)⟩]
abbrev c26_r16 : List Ins := [
  ⟨some 64, none, .mov (.t 3)⟩,
  ⟨some 65, none, .faddr 1 (.t 1)⟩,
  ⟨some 66, none, .load 1 false (.t 65)⟩,
  ⟨some 67, none, .call (.t 64) [.t 66]⟩,
  ⟨some 68, none, .mov (.t 3)⟩,
  ⟨some 69, none, .faddr 2 (.t 1)⟩,
  ⟨some 70, none, .load 1 false (.t 69)⟩,
  ⟨some 71, none, .call (.t 68) [.t 70]⟩,
  ⟨some 72, none, .mov (.t 3)⟩,
  ⟨some 73, none, .faddr 3 (.t 1)⟩,
  ⟨some 74, none, .load 1 false (.t 73)⟩,
  ⟨some 75, none, .call (.t 72) [.t 74]⟩,
  ⟨some 76, none, .bsl 1 4 [.str ⟨#[]⟩] [(0, .c (.str ⟨#[97, 100, 100]⟩)), (1, .t 67), (2, .t 71), (3, .t 75)]⟩,
  ⟨some 77, none, .call (.c (.fn 49 [] [])) [.t 76]⟩,
  ⟨some 2, none, .mov (.t 77)⟩]
def c26_a16 : List (List Nat) := [[], [], [1], [0, 2], [], [], [5], [4, 6, 3], [], [], [9], [8, 10, 7], [3, 7, 11], [12, 11], [13, 13, 0, 1, 2, 3, 4, 5, 6, 7, 8, 9, 10, 11, 12, 13]]
abbrev c26_m16 : List Am.Mark := [⟨false, 0, 0⟩, ⟨false, 0, 3⟩, ⟨false, 0, 0⟩, ⟨true, 0, 1⟩, ⟨false, 0, 1⟩, ⟨false, 0, 3⟩, ⟨false, 0, 1⟩, ⟨true, 1, 2⟩, ⟨false, 0, 2⟩, ⟨false, 0, 3⟩, ⟨false, 0, 2⟩, ⟨true, 2, 3⟩, ⟨false, 3, 3⟩, ⟨false, 3, 3⟩, ⟨false, 3, 3⟩]
theorem c26_d16 : drawFine c26_r16 c26_a16 c26_m16 = true := by decide +kernel
abbrev c26_r17 : List Ins := [
  ⟨some 79, none, .bin .eql (.t 9) (.c (.int .i64 7))⟩,
  ⟨some 78, none, .mov (.t 79)⟩]
abbrev c26_r18 : List Ins := [
  ⟨some 80, none, .mov (.t 3)⟩,
  ⟨some 81, none, .faddr 1 (.t 1)⟩,
  ⟨some 82, none, .load 1 false (.t 81)⟩,
  ⟨some 83, none, .call (.t 80) [.t 82]⟩,
  ⟨some 84, none, .mov (.t 3)⟩,
  ⟨some 85, none, .faddr 2 (.t 1)⟩,
  ⟨some 86, none, .load 1 false (.t 85)⟩,
  ⟨some 87, none, .call (.t 84) [.t 86]⟩,
  ⟨some 88, none, .mov (.t 3)⟩,
  ⟨some 89, none, .faddr 3 (.t 1)⟩,
  ⟨some 90, none, .load 1 false (.t 89)⟩,
  ⟨some 91, none, .call (.t 88) [.t 90]⟩,
  ⟨some 92, none, .bsl 1 4 [.str ⟨#[]⟩] [(0, .c (.str ⟨#[115, 117, 98]⟩)), (1, .t 83), (2, .t 87), (3, .t 91)]⟩,
  ⟨some 93, none, .call (.c (.fn 49 [] [])) [.t 92]⟩,
  ⟨some 2, none, .mov (.t 93)⟩]
def c26_a18 : List (List Nat) := [[], [], [1], [0, 2], [], [], [5], [4, 6, 3], [], [], [9], [8, 10, 7], [3, 7, 11], [12, 11], [13, 13, 0, 1, 2, 3, 4, 5, 6, 7, 8, 9, 10, 11, 12, 13]]
abbrev c26_m18 : List Am.Mark := [⟨false, 0, 0⟩, ⟨false, 0, 3⟩, ⟨false, 0, 0⟩, ⟨true, 0, 1⟩, ⟨false, 0, 1⟩, ⟨false, 0, 3⟩, ⟨false, 0, 1⟩, ⟨true, 1, 2⟩, ⟨false, 0, 2⟩, ⟨false, 0, 3⟩, ⟨false, 0, 2⟩, ⟨true, 2, 3⟩, ⟨false, 3, 3⟩, ⟨false, 3, 3⟩, ⟨false, 3, 3⟩]
theorem c26_d18 : drawFine c26_r18 c26_a18 c26_m18 = true := by decide +kernel
abbrev c26_r19 : List Ins := [
  ⟨some 95, none, .bin .eql (.t 9) (.c (.int .i64 8))⟩,
  ⟨some 94, none, .mov (.t 95)⟩]
abbrev c26_r20 : List Ins := [
  ⟨some 96, none, .mov (.t 3)⟩,
  ⟨some 97, none, .faddr 1 (.t 1)⟩,
  ⟨some 98, none, .load 1 false (.t 97)⟩,
  ⟨some 99, none, .call (.t 96) [.t 98]⟩,
  ⟨some 100, none, .mov (.t 4)⟩,
  ⟨some 101, none, .bsl 1 3 [.str ⟨#[]⟩] [(0, .c (.str ⟨#[103, 117, 97, 114, 100]⟩)), (1, .t 99), (2, .t 100)]⟩,
  ⟨some 102, none, .call (.c (.fn 49 [] [])) [.t 101]⟩,
  ⟨some 2, none, .mov (.t 102)⟩]
abbrev c26_r21 : List Ins := [
  ⟨some 2, none, .mov (.c (.str ⟨#[63]⟩))⟩]
abbrev c26 : IR := .seq (.reg c26_r1) (.seq (.reg c26_r2) (.seq (.reg c26_r3) (.seq (.seq (.reg c26_r4) (.blk 0 (.seq (.reg c26_r5) (.cond (.t 10) (.seq (.dreg c26_r6 c26_a6) (.ret)) (.seq (.reg c26_r7) (.cond (.t 21) (.seq (.dreg c26_r8 c26_a8) (.ret)) (.seq (.reg c26_r9) (.cond (.t 32) (.seq (.reg c26_r10) (.ret)) (.seq (.reg c26_r11) (.cond (.t 39) (.seq (.dreg c26_r12 c26_a12) (.ret)) (.seq (.reg c26_r13) (.cond (.t 53) (.seq (.reg c26_r14) (.ret)) (.seq (.reg c26_r15) (.cond (.t 62) (.seq (.dreg c26_r16 c26_a16) (.ret)) (.seq (.reg c26_r17) (.cond (.t 78) (.seq (.dreg c26_r18 c26_a18) (.ret)) (.seq (.reg c26_r19) (.cond (.t 94) (.seq (.reg c26_r20) (.ret)) (.skip))))))))))))))))))) (.seq (.reg c26_r21) (.ret)))))
abbrev F26 : FnA := ⟨103, c26, [.t 2]⟩
theorem ok26 : cFn Tryd.prog 26 = some F26 := by kernel_rfl
theorem hb26 : HasBody Tryd.prog 26 := ⟨_, Tryd.func26, by kernel_rfl, by kernel_rfl⟩
/-! slices.ContainsFunc:Instr -/
abbrev c32_r1 : List Ins := [
  ⟨some 4, none, .mov (.c (.bool false))⟩]
abbrev c32_r2 : List Ins := [
  ⟨some 5, none, .mov (.t 0)⟩,
  ⟨some 6, none, .mov (.t 1)⟩,
  ⟨some 7, none, .call (.c (.fn 55 [] [])) [.t 5, .t 6]⟩,
  ⟨some 8, none, .bin .geq (.t 7) (.c (.int .i64 0))⟩,
  ⟨some 4, none, .mov (.t 8)⟩]
abbrev c32 : IR := .seq (.reg c32_r1) (.seq (.reg c32_r2) (.ret))
abbrev F32 : FnA := ⟨9, c32, [.t 4]⟩
theorem ok32 : cFn Tryd.prog 32 = some F32 := by kernel_rfl
theorem hb32 : HasBody Tryd.prog 32 := ⟨_, Tryd.func32, by kernel_rfl, by kernel_rfl⟩
/-! prog.May$1 -/
abbrev c33_r1 : List Ins := [
  ⟨some 2, none, .box (.t 0)⟩,
  ⟨some 3, none, .mov (.c (.bool false))⟩]
abbrev c33_r2 : List Ins := [
  ⟨some 4, none, .load 9 true (.t 2)⟩,
  ⟨some 5, none, .load 1 false (.t 1)⟩,
  ⟨some 6, none, .call (.c (.fn 34 [] [])) [.t 4, .t 5]⟩,
  ⟨some 7, none, .un .not (.t 6)⟩,
  ⟨some 3, none, .mov (.t 7)⟩]
abbrev c33 : IR := .seq (.reg c33_r1) (.seq (.reg c33_r2) (.ret))
abbrev F33 : FnA := ⟨8, c33, [.t 3]⟩
theorem ok33 : cFn Tryd.prog 33 = some F33 := by kernel_rfl
theorem hb33 : HasBody Tryd.prog 33 := ⟨_, Tryd.func33, by kernel_rfl, by kernel_rfl⟩
/-! prog.may -/
abbrev c34_r1 : List Ins := [
  ⟨some 2, none, .box (.t 0)⟩,
  ⟨some 3, none, .box (.t 1)⟩,
  ⟨some 4, none, .mov (.c (.bool false))⟩]
abbrev c34_r2 : List Ins := [
  ⟨some 9, none, .load 9 true (.t 2)⟩,
  ⟨some 10, none, .call (.c (.fn 56 [] [])) [.t 9]⟩,
  ⟨some 8, none, .mov (.t 10)⟩,
  ⟨some 11, none, .ext (.t 8) 0⟩,
  ⟨some 12, none, .ext (.t 8) 1⟩,
  ⟨some 5, none, .alloc [.int .i64 0, .int .i64 0, .int .i64 0, .int .i64 0, .int .i64 0, .int .i64 0, .int .i64 0, .int .i64 0, .int .i64 0]⟩,
  ⟨none, none, .store 9 (.t 5) (.t 11)⟩,
  ⟨some 6, none, .mov (.t 12)⟩]
abbrev c34_r3 : List Ins := [
  ⟨some 13, none, .mkfn 57 [] [.t 3]⟩,
  ⟨some 7, none, .mov (.t 13)⟩]
abbrev c34_r4 : List Ins := [
  ⟨some 14, none, .mov (.t 6)⟩,
  ⟨some 15, none, .mov (.t 14)⟩,
  ⟨some 16, some (15, true), .load 9 true (.t 2)⟩,
  ⟨some 17, some (15, true), .load 9 true (.t 5)⟩,
  ⟨some 18, some (15, true), .eq [.i, .i, .i, .i, .i, .i, .i, .i, .i] true false (.t 16) (.t 17)⟩,
  ⟨some 19, none, .pick (.t 15) (.t 18) (.c (.bool false))⟩,
  ⟨some 20, none, .mov (.t 19)⟩,
  ⟨some 21, some (20, true), .faddr 1 (.t 2)⟩,
  ⟨some 22, some (20, true), .load 1 false (.t 21)⟩,
  ⟨some 23, some (20, true), .call (.c (.fn 58 [] [])) [.t 22]⟩,
  ⟨some 24, none, .pick (.t 20) (.t 23) (.c (.bool false))⟩,
  ⟨some 25, none, .mov (.t 24)⟩,
  ⟨some 26, some (25, true), .faddr 2 (.t 2)⟩,
  ⟨some 27, some (25, true), .load 1 false (.t 26)⟩,
  ⟨some 28, some (25, true), .call (.c (.fn 58 [] [])) [.t 27]⟩,
  ⟨some 29, none, .pick (.t 25) (.t 28) (.c (.bool false))⟩,
  ⟨some 30, none, .mov (.t 29)⟩,
  ⟨some 31, some (30, true), .faddr 3 (.t 2)⟩,
  ⟨some 32, some (30, true), .load 1 false (.t 31)⟩,
  ⟨some 33, some (30, true), .call (.c (.fn 58 [] [])) [.t 32]⟩,
  ⟨some 34, none, .pick (.t 30) (.t 33) (.c (.bool false))⟩,
  ⟨some 35, none, .mov (.t 34)⟩,
  ⟨some 36, some (35, true), .load 9 true (.t 2)⟩,
  ⟨some 37, some (35, true), .call (.c (.fn 60 [] [])) [.t 36]⟩,
  ⟨some 38, some (35, true), .mov (.t 7)⟩,
  ⟨some 39, some (35, true), .call (.c (.fn 59 [] [])) [.t 37, .t 38]⟩,
  ⟨some 40, some (35, true), .un .not (.t 39)⟩,
  ⟨some 41, none, .pick (.t 35) (.t 40) (.c (.bool false))⟩,
  ⟨some 4, none, .mov (.t 41)⟩]
abbrev c34 : IR := .seq (.reg c34_r1) (.seq (.reg c34_r2) (.seq (.reg c34_r3) (.seq (.reg c34_r4) (.ret))))
abbrev F34 : FnA := ⟨42, c34, [.t 4]⟩
theorem ok34 : cFn Tryd.prog 34 = some F34 := by kernel_rfl
theorem hb34 : HasBody Tryd.prog 34 := ⟨_, Tryd.func34, by kernel_rfl, by kernel_rfl⟩
/-! prog.Sure$1 -/
abbrev c35_r1 : List Ins := [
  ⟨some 1, none, .box (.t 0)⟩,
  ⟨some 2, none, .mov (.c (.bool false))⟩]
abbrev c35_r2 : List Ins := [
  ⟨some 3, none, .faddr 0 (.t 1)⟩,
  ⟨some 4, none, .load 1 false (.t 3)⟩,
  ⟨some 5, none, .bin .eql (.t 4) (.c (.int .i64 6))⟩,
  ⟨some 6, none, .mov (.t 5)⟩,
  ⟨some 7, some (6, false), .faddr 0 (.t 1)⟩,
  ⟨some 8, some (6, false), .load 1 false (.t 7)⟩,
  ⟨some 9, some (6, false), .bin .eql (.t 8) (.c (.int .i64 7))⟩,
  ⟨some 10, none, .pick (.t 6) (.c (.bool true)) (.t 9)⟩,
  ⟨some 11, none, .mov (.t 10)⟩,
  ⟨some 12, some (11, false), .faddr 0 (.t 1)⟩,
  ⟨some 13, some (11, false), .load 1 false (.t 12)⟩,
  ⟨some 14, some (11, false), .bin .eql (.t 13) (.c (.int .i64 8))⟩,
  ⟨some 15, none, .pick (.t 11) (.c (.bool true)) (.t 14)⟩,
  ⟨some 2, none, .mov (.t 15)⟩]
abbrev c35 : IR := .seq (.reg c35_r1) (.seq (.reg c35_r2) (.ret))
abbrev F35 : FnA := ⟨16, c35, [.t 2]⟩
theorem ok35 : cFn Tryd.prog 35 = some F35 := by kernel_rfl
theorem hb35 : HasBody Tryd.prog 35 := ⟨_, Tryd.func35, by kernel_rfl, by kernel_rfl⟩
/-! prog.Key$1 -/
abbrev c36_r1 : List Ins := [
  ⟨some 2, none, .mov (.c (.bool false))⟩]
abbrev c36_r2 : List Ins := [
  ⟨some 3, none, .mov (.t 0)⟩,
  ⟨some 4, none, .bin .lss (.t 3) (.c (.int .i64 0))⟩,
  ⟨some 5, none, .mov (.t 4)⟩,
  ⟨some 6, some (5, false), .mov (.t 0)⟩,
  ⟨some 7, some (5, false), .bin .gtr (.t 6) (.c (.int .i64 99))⟩,
  ⟨some 8, none, .pick (.t 5) (.c (.bool true)) (.t 7)⟩,
  ⟨some 2, none, .mov (.t 8)⟩]
abbrev c36 : IR := .seq (.reg c36_r1) (.seq (.reg c36_r2) (.ret))
abbrev F36 : FnA := ⟨9, c36, [.t 2]⟩
theorem ok36 : cFn Tryd.prog 36 = some F36 := by kernel_rfl
theorem hb36 : HasBody Tryd.prog 36 := ⟨_, Tryd.func36, by kernel_rfl, by kernel_rfl⟩
/-! prog.mayKey -/
abbrev c37_r1 : List Ins := [
  ⟨some 2, none, .box (.t 0)⟩,
  ⟨some 4, none, .mov (.c (.bool false))⟩]
abbrev c37_r2 : List Ins := [
  ⟨some 5, none, .faddr 0 (.t 2)⟩,
  ⟨some 6, none, .load 1 false (.t 5)⟩,
  ⟨some 7, none, .bin .geq (.t 6) (.c (.int .i64 (-1)))⟩,
  ⟨some 8, none, .mov (.t 7)⟩,
  ⟨some 9, some (8, true), .faddr 0 (.t 2)⟩,
  ⟨some 10, some (8, true), .load 1 false (.t 9)⟩,
  ⟨some 11, some (8, true), .mov (.t 1)⟩,
  ⟨some 12, some (8, true), .bin .lss (.t 10) (.t 11)⟩,
  ⟨some 13, none, .pick (.t 8) (.t 12) (.c (.bool false))⟩,
  ⟨some 14, none, .mov (.t 13)⟩,
  ⟨some 15, some (14, true), .faddr 1 (.t 2)⟩,
  ⟨some 16, some (14, true), .load 1 false (.t 15)⟩,
  ⟨some 17, some (14, true), .bin .geq (.t 16) (.c (.int .i64 0))⟩,
  ⟨some 18, none, .pick (.t 14) (.t 17) (.c (.bool false))⟩,
  ⟨some 19, none, .mov (.t 18)⟩,
  ⟨some 20, some (19, true), .faddr 1 (.t 2)⟩,
  ⟨some 21, some (19, true), .load 1 false (.t 20)⟩,
  ⟨some 22, some (19, true), .bin .leq (.t 21) (.c (.int .i64 900))⟩,
  ⟨some 23, none, .pick (.t 19) (.t 22) (.c (.bool false))⟩,
  ⟨some 4, none, .mov (.t 23)⟩]
abbrev c37 : IR := .seq (.reg c37_r1) (.seq (.reg c37_r2) (.ret))
abbrev F37 : FnA := ⟨24, c37, [.t 4]⟩
theorem ok37 : cFn Tryd.prog 37 = some F37 := by kernel_rfl
theorem hb37 : HasBody Tryd.prog 37 := ⟨_, Tryd.func37, by kernel_rfl, by kernel_rfl⟩
/-! slices.ContainsFunc:int -/
abbrev c38_r1 : List Ins := [
  ⟨some 4, none, .mov (.c (.bool false))⟩]
abbrev c38_r2 : List Ins := [
  ⟨some 5, none, .mov (.t 0)⟩,
  ⟨some 6, none, .mov (.t 1)⟩,
  ⟨some 7, none, .call (.c (.fn 61 [] [])) [.t 5, .t 6]⟩,
  ⟨some 8, none, .bin .geq (.t 7) (.c (.int .i64 0))⟩,
  ⟨some 4, none, .mov (.t 8)⟩]
abbrev c38 : IR := .seq (.reg c38_r1) (.seq (.reg c38_r2) (.ret))
abbrev F38 : FnA := ⟨9, c38, [.t 4]⟩
theorem ok38 : cFn Tryd.prog 38 = some F38 := by kernel_rfl
theorem hb38 : HasBody Tryd.prog 38 := ⟨_, Tryd.func38, by kernel_rfl, by kernel_rfl⟩
/-! ref09.One -/
abbrev c39_r1 : List Ins := [
  ⟨some 2, none, .box (.t 0)⟩,
  ⟨some 4, none, .mov (.c (.bool false))⟩]
abbrev c39_r2 : List Ins := [
  ⟨some 11, none, .faddr 0 (.t 2)⟩,
  ⟨some 12, none, .load 1 false (.t 11)⟩,
  ⟨some 13, none, .bin .lss (.t 12) (.c (.int .i64 1))⟩,
  ⟨some 14, none, .mov (.t 13)⟩,
  ⟨some 15, some (14, false), .faddr 0 (.t 2)⟩,
  ⟨some 16, some (14, false), .load 1 false (.t 15)⟩,
  ⟨some 17, some (14, false), .bin .gtr (.t 16) (.c (.int .i64 8))⟩,
  ⟨some 18, none, .pick (.t 14) (.c (.bool true)) (.t 17)⟩,
  ⟨some 19, none, .mov (.t 18)⟩,
  ⟨some 20, some (19, false), .faddr 1 (.t 2)⟩,
  ⟨some 21, some (19, false), .load 1 false (.t 20)⟩,
  ⟨some 22, some (19, false), .bin .lss (.t 21) (.c (.int .i64 0))⟩,
  ⟨some 23, none, .pick (.t 19) (.c (.bool true)) (.t 22)⟩,
  ⟨some 24, none, .mov (.t 23)⟩,
  ⟨some 25, some (24, false), .faddr 1 (.t 2)⟩,
  ⟨some 26, some (24, false), .load 1 false (.t 25)⟩,
  ⟨some 27, some (24, false), .bin .gtr (.t 26) (.c (.int .i64 3))⟩,
  ⟨some 28, none, .pick (.t 24) (.c (.bool true)) (.t 27)⟩]
abbrev c39_r3 : List Ins := [
  ⟨some 4, none, .mov (.c (.bool false))⟩]
abbrev c39_r4 : List Ins := [
  ⟨some 5, none, .alloc [.int .i64 0, .int .i64 0]⟩]
abbrev c39_r5 : List Ins := [
  ⟨some 29, none, .faddr 0 (.t 2)⟩,
  ⟨some 30, none, .load 1 false (.t 29)⟩,
  ⟨some 31, none, .bin .neq (.t 30) (.c (.int .i64 3))⟩,
  ⟨some 6, none, .mov (.t 31)⟩]
abbrev c39_r6 : List Ins := [
  ⟨some 32, none, .faddr 0 (.t 2)⟩,
  ⟨some 33, none, .load 1 false (.t 32)⟩,
  ⟨some 34, none, .bin .leq (.t 33) (.c (.int .i64 4))⟩,
  ⟨some 7, none, .mov (.t 34)⟩]
abbrev c39_r7 : List Ins := [
  ⟨some 35, none, .faddr 0 (.t 2)⟩,
  ⟨some 36, none, .load 1 false (.t 35)⟩,
  ⟨some 37, none, .bin .eql (.t 36) (.c (.int .i64 4))⟩,
  ⟨some 8, none, .mov (.t 37)⟩]
abbrev c39_r8 : List Ins := [
  ⟨some 38, none, .faddr 0 (.t 2)⟩,
  ⟨some 39, none, .load 1 false (.t 38)⟩,
  ⟨some 40, none, .bin .eql (.t 39) (.c (.int .i64 6))⟩,
  ⟨some 41, none, .mov (.t 40)⟩,
  ⟨some 42, some (41, false), .faddr 0 (.t 2)⟩,
  ⟨some 43, some (41, false), .load 1 false (.t 42)⟩,
  ⟨some 44, some (41, false), .bin .eql (.t 43) (.c (.int .i64 7))⟩,
  ⟨some 45, none, .pick (.t 41) (.c (.bool true)) (.t 44)⟩,
  ⟨some 9, none, .mov (.t 45)⟩]
abbrev c39_r9 : List Ins := [
  ⟨some 46, none, .faddr 0 (.t 2)⟩,
  ⟨some 47, none, .load 1 false (.t 46)⟩,
  ⟨some 48, none, .bin .eql (.t 47) (.c (.int .i64 5))⟩,
  ⟨some 49, none, .mov (.t 48)⟩,
  ⟨some 50, some (49, false), .faddr 0 (.t 2)⟩,
  ⟨some 51, some (49, false), .load 1 false (.t 50)⟩,
  ⟨some 52, some (49, false), .bin .eql (.t 51) (.c (.int .i64 8))⟩,
  ⟨some 53, none, .pick (.t 49) (.c (.bool true)) (.t 52)⟩,
  ⟨some 10, none, .mov (.t 53)⟩]
abbrev c39_r10 : List Ins := [
  ⟨some 54, none, .mov (.t 6)⟩,
  ⟨some 55, none, .un .not (.t 54)⟩,
  ⟨some 56, none, .mov (.t 55)⟩,
  ⟨some 57, some (56, true), .faddr 1 (.t 2)⟩,
  ⟨some 58, some (56, true), .load 1 false (.t 57)⟩,
  ⟨some 59, some (56, true), .bin .neq (.t 58) (.c (.int .i64 0))⟩,
  ⟨some 60, none, .pick (.t 56) (.t 59) (.c (.bool false))⟩,
  ⟨some 61, none, .mov (.t 60)⟩,
  ⟨some 62, some (61, false), .mov (.t 10)⟩,
  ⟨some 63, some (61, false), .un .not (.t 62)⟩,
  ⟨some 64, some (61, false), .mov (.t 63)⟩,
  ⟨some 65, some (64, true), .faddr 8 (.t 2)⟩,
  ⟨some 66, some (64, true), .load 1 false (.t 65)⟩,
  ⟨some 67, some (64, true), .bin .neq (.t 66) (.c (.int .i64 0))⟩,
  ⟨some 68, some (61, false), .pick (.t 64) (.t 67) (.c (.bool false))⟩,
  ⟨some 69, none, .pick (.t 61) (.c (.bool true)) (.t 68)⟩,
  ⟨some 70, none, .mov (.t 69)⟩,
  ⟨some 71, some (70, false), .mov (.t 9)⟩,
  ⟨some 72, some (70, false), .un .not (.t 71)⟩,
  ⟨some 73, some (70, false), .mov (.t 72)⟩,
  ⟨some 74, some (73, true), .faddr 2 (.t 2)⟩,
  ⟨some 75, some (73, true), .load 1 false (.t 74)⟩,
  ⟨some 76, some (73, true), .bin .neq (.t 75) (.c (.int .i64 0))⟩,
  ⟨some 77, some (73, true), .mov (.t 76)⟩,
  ⟨some 78, some (77, false), .faddr 3 (.t 2)⟩,
  ⟨some 79, some (77, false), .load 1 false (.t 78)⟩,
  ⟨some 80, some (77, false), .bin .neq (.t 79) (.c (.int .i64 0))⟩,
  ⟨some 81, some (73, true), .pick (.t 77) (.c (.bool true)) (.t 80)⟩,
  ⟨some 82, some (70, false), .pick (.t 73) (.t 81) (.c (.bool false))⟩,
  ⟨some 83, none, .pick (.t 70) (.c (.bool true)) (.t 82)⟩,
  ⟨some 84, none, .mov (.t 83)⟩,
  ⟨some 85, some (84, false), .mov (.t 7)⟩,
  ⟨some 86, some (84, false), .un .not (.t 85)⟩,
  ⟨some 87, some (84, false), .mov (.t 86)⟩,
  ⟨some 88, some (87, true), .faddr 4 (.t 2)⟩,
  ⟨some 89, some (87, true), .load 2 true (.t 88)⟩,
  ⟨some 90, some (87, true), .load 2 true (.t 5)⟩,
  ⟨some 91, some (87, true), .eq [.i, .i] true true (.t 89) (.t 90)⟩,
  ⟨some 92, some (84, false), .pick (.t 87) (.t 91) (.c (.bool false))⟩,
  ⟨some 93, none, .pick (.t 84) (.c (.bool true)) (.t 92)⟩,
  ⟨some 94, none, .mov (.t 93)⟩,
  ⟨some 95, some (94, false), .mov (.t 8)⟩,
  ⟨some 96, some (94, false), .un .not (.t 95)⟩,
  ⟨some 97, some (94, false), .mov (.t 96)⟩,
  ⟨some 98, some (97, true), .faddr 6 (.t 2)⟩,
  ⟨some 99, some (97, true), .load 2 true (.t 98)⟩,
  ⟨some 100, some (97, true), .load 2 true (.t 5)⟩,
  ⟨some 101, some (97, true), .eq [.i, .i] true true (.t 99) (.t 100)⟩,
  ⟨some 102, some (94, false), .pick (.t 97) (.t 101) (.c (.bool false))⟩,
  ⟨some 103, none, .pick (.t 94) (.c (.bool true)) (.t 102)⟩]
abbrev c39_r11 : List Ins := [
  ⟨some 4, none, .mov (.c (.bool false))⟩]
abbrev c39_r12 : List Ins := [
  ⟨some 104, none, .mov (.t 9)⟩,
  ⟨some 105, none, .mov (.t 104)⟩,
  ⟨some 106, some (105, true), .faddr 2 (.t 2)⟩,
  ⟨some 107, some (105, true), .load 1 false (.t 106)⟩,
  ⟨some 108, some (105, true), .bin .lss (.t 107) (.c (.int .i64 0))⟩,
  ⟨some 109, some (105, true), .mov (.t 108)⟩,
  ⟨some 110, some (109, false), .faddr 2 (.t 2)⟩,
  ⟨some 111, some (109, false), .load 1 false (.t 110)⟩,
  ⟨some 112, some (109, false), .bin .gtr (.t 111) (.c (.int .i64 3))⟩,
  ⟨some 113, some (105, true), .pick (.t 109) (.c (.bool true)) (.t 112)⟩,
  ⟨some 114, some (105, true), .mov (.t 113)⟩,
  ⟨some 115, some (114, false), .faddr 3 (.t 2)⟩,
  ⟨some 116, some (114, false), .load 1 false (.t 115)⟩,
  ⟨some 117, some (114, false), .bin .lss (.t 116) (.c (.int .i64 0))⟩,
  ⟨some 118, some (105, true), .pick (.t 114) (.c (.bool true)) (.t 117)⟩,
  ⟨some 119, some (105, true), .mov (.t 118)⟩,
  ⟨some 120, some (119, false), .faddr 3 (.t 2)⟩,
  ⟨some 121, some (119, false), .load 1 false (.t 120)⟩,
  ⟨some 122, some (119, false), .bin .gtr (.t 121) (.c (.int .i64 3))⟩,
  ⟨some 123, some (105, true), .pick (.t 119) (.c (.bool true)) (.t 122)⟩,
  ⟨some 124, none, .pick (.t 105) (.t 123) (.c (.bool false))⟩]
abbrev c39_r13 : List Ins := [
  ⟨some 4, none, .mov (.c (.bool false))⟩]
abbrev c39_r14 : List Ins := [
  ⟨some 125, none, .mov (.t 7)⟩,
  ⟨some 126, none, .un .not (.t 125)⟩,
  ⟨some 127, none, .mov (.t 126)⟩,
  ⟨some 128, some (127, false), .faddr 4 (.t 2)⟩,
  ⟨some 129, some (127, false), .load 2 true (.t 128)⟩,
  ⟨some 130, some (127, false), .mov (.t 1)⟩,
  ⟨some 131, some (127, false), .call (.c (.fn 18 [] [])) [.t 129, .t 130]⟩,
  ⟨some 132, none, .pick (.t 127) (.c (.bool true)) (.t 131)⟩,
  ⟨some 133, none, .mov (.t 132)⟩,
  ⟨some 134, some (133, true), .mov (.t 8)⟩,
  ⟨some 135, some (133, true), .un .not (.t 134)⟩,
  ⟨some 136, some (133, true), .mov (.t 135)⟩,
  ⟨some 137, some (136, false), .faddr 6 (.t 2)⟩,
  ⟨some 138, some (136, false), .load 2 true (.t 137)⟩,
  ⟨some 139, some (136, false), .mov (.t 1)⟩,
  ⟨some 140, some (136, false), .call (.c (.fn 18 [] [])) [.t 138, .t 139]⟩,
  ⟨some 141, some (133, true), .pick (.t 136) (.c (.bool true)) (.t 140)⟩,
  ⟨some 142, none, .pick (.t 133) (.t 141) (.c (.bool false))⟩,
  ⟨some 4, none, .mov (.t 142)⟩]
abbrev c39 : IR := .seq (.reg c39_r1) (.seq (.seq (.reg c39_r2) (.cond (.t 28) (.seq (.reg c39_r3) (.ret)) (.skip))) (.seq (.reg c39_r4) (.seq (.reg c39_r5) (.seq (.reg c39_r6) (.seq (.reg c39_r7) (.seq (.reg c39_r8) (.seq (.reg c39_r9) (.seq (.seq (.reg c39_r10) (.cond (.t 103) (.seq (.reg c39_r11) (.ret)) (.skip))) (.seq (.seq (.reg c39_r12) (.cond (.t 124) (.seq (.reg c39_r13) (.ret)) (.skip))) (.seq (.reg c39_r14) (.ret)))))))))))
abbrev F39 : FnA := ⟨143, c39, [.t 4]⟩
theorem ok39 : cFn Tryd.prog 39 = some F39 := by kernel_rfl
theorem hb39 : HasBody Tryd.prog 39 := ⟨_, Tryd.func39, by kernel_rfl, by kernel_rfl⟩
/-! codes.Writer.Count -/
abbrev c40_r1 : List Ins := [
  ⟨some 4, none, .mov (.t 0)⟩,
  ⟨some 5, none, .mov (.t 1)⟩,
  ⟨some 6, none, .mx [.t 5, .c (.int .i64 0)]⟩,
  ⟨some 7, none, .conv .u64 (.t 6)⟩,
  ⟨some 8, none, .bsl 1 1 [.int .u64 0] [(0, .t 7)]⟩,
  ⟨some 9, none, .call (.c (.fn 62 [] [])) [.t 4, .t 8]⟩]
abbrev c40 : IR := .reg c40_r1
abbrev F40 : FnA := ⟨10, c40, []⟩
theorem ok40 : cFn Tryd.prog 40 = some F40 := by kernel_rfl
theorem hb40 : HasBody Tryd.prog 40 := ⟨_, Tryd.func40, by kernel_rfl, by kernel_rfl⟩
/-! codes.Writer.Signed -/
abbrev c42_r1 : List Ins := [
  ⟨some 4, none, .mov (.t 0)⟩,
  ⟨some 5, none, .mov (.t 1)⟩,
  ⟨some 6, none, .bin .shl (.t 5) (.c (.int .u64 1))⟩,
  ⟨some 7, none, .conv .u64 (.t 6)⟩,
  ⟨some 8, none, .mov (.t 1)⟩,
  ⟨some 9, none, .bin .shr (.t 8) (.c (.int .u64 63))⟩,
  ⟨some 10, none, .conv .u64 (.t 9)⟩,
  ⟨some 11, none, .bin .xor (.t 7) (.t 10)⟩,
  ⟨some 12, none, .bsl 1 1 [.int .u64 0] [(0, .t 11)]⟩,
  ⟨some 13, none, .call (.c (.fn 62 [] [])) [.t 4, .t 12]⟩]
abbrev c42 : IR := .reg c42_r1
abbrev F42 : FnA := ⟨14, c42, []⟩
theorem ok42 : cFn Tryd.prog 42 = some F42 := by kernel_rfl
theorem hb42 : HasBody Tryd.prog 42 := ⟨_, Tryd.func42, by kernel_rfl, by kernel_rfl⟩
/-! slices.Clone:uint64 -/
abbrev c43_r1 : List Ins := [
  ⟨some 2, none, .mov (.c (.sl .full []))⟩]
abbrev c43_r2 : List Ins := [
  ⟨some 3, none, .mov (.t 0)⟩,
  ⟨some 4, none, .isnil false (.t 3)⟩]
abbrev c43_r3 : List Ins := [
  ⟨some 2, none, .mov (.c (.sl .full []))⟩]
abbrev c43_r4 : List Ins := [
  ⟨some 5, none, .bsl 1 0 [.int .u64 0] []⟩,
  ⟨some 6, none, .mov (.t 0)⟩,
  ⟨some 7, none, .append 1 8 (.t 5) (.t 6)⟩,
  ⟨some 2, none, .mov (.t 7)⟩]
abbrev c43 : IR := .seq (.reg c43_r1) (.seq (.seq (.reg c43_r2) (.cond (.t 4) (.seq (.reg c43_r3) (.ret)) (.skip))) (.seq (.reg c43_r4) (.ret)))
abbrev F43 : FnA := ⟨8, c43, [.t 2]⟩
theorem ok43 : cFn Tryd.prog 43 = some F43 := by kernel_rfl
theorem hb43 : HasBody Tryd.prog 43 := ⟨_, Tryd.func43, by kernel_rfl, by kernel_rfl⟩
/-! ref01.Write -/
abbrev c44_r1 : List Ins := [
  ⟨some 3, none, .box (.t 1)⟩,
  ⟨some 4, none, .mov (.c (.sl .full []))⟩]
abbrev c44_r2 : List Ins := [
  ⟨some 6, none, .faddr 0 (.t 3)⟩,
  ⟨some 7, none, .load 1 false (.t 6)⟩]
abbrev c44_r3 : List Ins := [
  ⟨some 9, none, .bin .eql (.t 7) (.c (.int .i64 0))⟩,
  ⟨some 8, none, .mov (.t 9)⟩]
abbrev c44_r4 : List Ins := [
  ⟨some 10, none, .faddr 1 (.t 3)⟩,
  ⟨some 11, none, .load 1 false (.t 10)⟩,
  ⟨some 12, none, .bin .lss (.t 11) (.c (.int .i64 0))⟩]
abbrev c44_r5 : List Ins := [
  ⟨some 13, none, .mov (.t 0)⟩,
  ⟨some 14, none, .bsl 1 1 [.int .u64 0] [(0, .c (.int .u64 0))]⟩,
  ⟨some 15, none, .append 1 8 (.t 13) (.t 14)⟩,
  ⟨some 4, none, .mov (.t 15)⟩]
abbrev c44_r6 : List Ins := [
  ⟨some 16, none, .mov (.t 0)⟩,
  ⟨some 17, none, .faddr 1 (.t 3)⟩,
  ⟨some 18, none, .load 1 false (.t 17)⟩,
  ⟨some 19, none, .conv .u64 (.t 18)⟩,
  ⟨some 20, none, .bsl 1 1 [.int .u64 0] [(0, .t 19)]⟩,
  ⟨some 21, none, .append 1 8 (.t 16) (.t 20)⟩,
  ⟨some 4, none, .mov (.t 21)⟩]
abbrev c44_r7 : List Ins := [
  ⟨some 23, none, .bin .eql (.t 7) (.c (.int .i64 1))⟩,
  ⟨some 22, none, .mov (.t 23)⟩]
abbrev c44_r8 : List Ins := [
  ⟨some 24, none, .mov (.t 0)⟩,
  ⟨some 25, none, .faddr 3 (.t 3)⟩,
  ⟨some 26, none, .load 1 false (.t 25)⟩,
  ⟨some 27, none, .call (.c (.fn 63 [] [])) [.t 26]⟩,
  ⟨some 28, none, .bsl 1 1 [.int .u64 0] [(0, .t 27)]⟩,
  ⟨some 29, none, .append 1 8 (.t 24) (.t 28)⟩,
  ⟨some 4, none, .mov (.t 29)⟩]
abbrev c44_r9 : List Ins := [
  ⟨some 31, none, .bin .eql (.t 7) (.c (.int .i64 2))⟩,
  ⟨some 30, none, .mov (.t 31)⟩]
abbrev c44_r10 : List Ins := [
  ⟨some 32, none, .faddr 1 (.t 3)⟩,
  ⟨some 33, none, .load 1 false (.t 32)⟩,
  ⟨some 34, none, .bin .eql (.t 33) (.c (.int .i64 1))⟩]
abbrev c44_r11 : List Ins := [
  ⟨some 35, none, .mov (.t 0)⟩,
  ⟨some 36, none, .bsl 1 1 [.int .u64 0] [(0, .c (.int .u64 1))]⟩,
  ⟨some 37, none, .append 1 8 (.t 35) (.t 36)⟩,
  ⟨some 4, none, .mov (.t 37)⟩]
abbrev c44_r12 : List Ins := [
  ⟨some 38, none, .mov (.t 0)⟩,
  ⟨some 39, none, .bsl 1 1 [.int .u64 0] [(0, .c (.int .u64 0))]⟩,
  ⟨some 40, none, .append 1 8 (.t 38) (.t 39)⟩,
  ⟨some 4, none, .mov (.t 40)⟩]
abbrev c44_r13 : List Ins := [
  ⟨some 42, none, .bin .eql (.t 7) (.c (.int .i64 3))⟩,
  ⟨some 41, none, .mov (.t 42)⟩]
abbrev c44_r14 : List Ins := [
  ⟨some 43, none, .faddr 4 (.t 3)⟩,
  ⟨some 44, none, .load 1 false (.t 43)⟩,
  ⟨some 5, none, .mov (.t 44)⟩]
abbrev c44_r15 : List Ins := [
  ⟨some 45, none, .mov (.t 5)⟩,
  ⟨some 46, none, .lenS (.t 45)⟩,
  ⟨some 47, none, .bin .gtr (.t 46) (.c (.int .i64 64))⟩]
abbrev c44_r16 : List Ins := [
  ⟨some 48, none, .mov (.t 5)⟩,
  ⟨some 49, none, .sliceS (.t 48) none (some (.c (.int .i64 64)))⟩,
  ⟨some 5, none, .mov (.t 49)⟩]
abbrev c44_r17 : List Ins := [
  ⟨some 50, none, .mov (.t 0)⟩,
  ⟨some 51, none, .mov (.t 5)⟩,
  ⟨some 52, none, .lenS (.t 51)⟩,
  ⟨some 53, none, .conv .u64 (.t 52)⟩,
  ⟨some 54, none, .bsl 1 1 [.int .u64 0] [(0, .t 53)]⟩,
  ⟨some 55, none, .append 1 8 (.t 50) (.t 54)⟩,
  ⟨some 56, none, .mov (.t 5)⟩,
  ⟨some 57, none, .call (.c (.fn 64 [] [])) [.t 56]⟩,
  ⟨some 58, none, .append 1 8 (.t 55) (.t 57)⟩,
  ⟨some 4, none, .mov (.t 58)⟩]
abbrev c44_r18 : List Ins := [
  ⟨some 59, none, .mov (.t 0)⟩,
  ⟨some 60, none, .faddr 5 (.t 3)⟩,
  ⟨some 61, none, .load 1 false (.t 60)⟩,
  ⟨some 62, none, .len (.t 61)⟩,
  ⟨some 63, none, .conv .u64 (.t 62)⟩,
  ⟨some 64, none, .bsl 1 1 [.int .u64 0] [(0, .t 63)]⟩,
  ⟨some 65, none, .append 1 8 (.t 59) (.t 64)⟩,
  ⟨some 66, none, .faddr 5 (.t 3)⟩,
  ⟨some 67, none, .load 1 false (.t 66)⟩,
  ⟨some 68, none, .append 1 8 (.t 65) (.t 67)⟩,
  ⟨some 4, none, .mov (.t 68)⟩]
def c44_a18 : List (List Nat) := [[], [], [1], [2], [3], [4], [0, 5], [], [7], [6, 8, 6], [9, 9, 0, 1, 2, 3, 4, 5, 6, 7, 8, 9]]
abbrev c44_m18 : List Am.Mark := [⟨false, 0, 0⟩, ⟨false, 0, 2⟩, ⟨false, 0, 2⟩, ⟨false, 0, 2⟩, ⟨false, 0, 2⟩, ⟨false, 0, 0⟩, ⟨true, 0, 1⟩, ⟨false, 0, 2⟩, ⟨false, 0, 1⟩, ⟨true, 1, 2⟩, ⟨false, 2, 2⟩]
theorem c44_d18 : drawFine c44_r18 c44_a18 c44_m18 = true := by decide +kernel
abbrev c44 : IR := .seq (.reg c44_r1) (.seq (.seq (.reg c44_r2) (.blk 0 (.seq (.reg c44_r3) (.cond (.t 8) (.seq (.seq (.reg c44_r4) (.cond (.t 12) (.seq (.reg c44_r5) (.ret)) (.skip))) (.seq (.reg c44_r6) (.ret))) (.seq (.reg c44_r7) (.cond (.t 22) (.seq (.reg c44_r8) (.ret)) (.seq (.reg c44_r9) (.cond (.t 30) (.seq (.seq (.reg c44_r10) (.cond (.t 34) (.seq (.reg c44_r11) (.ret)) (.skip))) (.seq (.reg c44_r12) (.ret))) (.seq (.reg c44_r13) (.cond (.t 41) (.seq (.reg c44_r14) (.seq (.seq (.reg c44_r15) (.cond (.t 47) (.reg c44_r16) (.skip))) (.seq (.reg c44_r17) (.ret)))) (.skip))))))))))) (.seq (.dreg c44_r18 c44_a18) (.ret)))
abbrev F44 : FnA := ⟨69, c44, [.t 4]⟩
theorem ok44 : cFn Tryd.prog 44 = some F44 := by kernel_rfl
theorem hb44 : HasBody Tryd.prog 44 := ⟨_, Tryd.func44, by kernel_rfl, by kernel_rfl⟩
/-! prog.Text$1 -/
abbrev c46_r1 : List Ins := [
  ⟨some 2, none, .mov (.c (.str ⟨#[]⟩))⟩]
abbrev c46_r2 : List Ins := [
  ⟨some 3, none, .mov (.t 0)⟩,
  ⟨some 4, none, .call (.c (.fn 47 [] [])) [.t 3]⟩,
  ⟨some 5, none, .bin .add (.c (.str ⟨#[114]⟩)) (.t 4)⟩,
  ⟨some 2, none, .mov (.t 5)⟩]
abbrev c46 : IR := .seq (.reg c46_r1) (.seq (.reg c46_r2) (.ret))
abbrev F46 : FnA := ⟨6, c46, [.t 2]⟩
theorem ok46 : cFn Tryd.prog 46 = some F46 := by kernel_rfl
theorem hb46 : HasBody Tryd.prog 46 := ⟨_, Tryd.func46, by kernel_rfl, by kernel_rfl⟩
/-! strconv.Itoa -/
abbrev c47_r1 : List Ins := [
  ⟨some 2, none, .mov (.c (.str ⟨#[]⟩))⟩]
abbrev c47_r2 : List Ins := [
  ⟨some 3, none, .mov (.t 0)⟩,
  ⟨some 4, none, .call (.c (.fn 65 [] [])) [.t 3]⟩,
  ⟨some 2, none, .mov (.t 4)⟩]
abbrev c47 : IR := .seq (.reg c47_r1) (.seq (.reg c47_r2) (.ret))
abbrev F47 : FnA := ⟨5, c47, [.t 2]⟩
theorem ok47 : cFn Tryd.prog 47 = some F47 := by kernel_rfl
theorem hb47 : HasBody Tryd.prog 47 := ⟨_, Tryd.func47, by kernel_rfl, by kernel_rfl⟩
/-! strconv.FormatInt -/
abbrev c48_r1 : List Ins := [
  ⟨some 4, none, .mov (.c (.str ⟨#[]⟩))⟩]
abbrev c48_r2 : List Ins := [
  ⟨some 5, none, .mov (.t 0)⟩,
  ⟨some 6, none, .mov (.t 1)⟩,
  ⟨some 7, none, .call (.c (.fn 66 [] [])) [.t 5, .t 6]⟩,
  ⟨some 4, none, .mov (.t 7)⟩]
abbrev c48 : IR := .seq (.reg c48_r1) (.seq (.reg c48_r2) (.ret))
abbrev F48 : FnA := ⟨8, c48, [.t 4]⟩
theorem ok48 : cFn Tryd.prog 48 = some F48 := by kernel_rfl
theorem hb48 : HasBody Tryd.prog 48 := ⟨_, Tryd.func48, by kernel_rfl, by kernel_rfl⟩
/-! prog.words -/
abbrev c49_r1 : List Ins := [
  ⟨some 2, none, .mov (.c (.str ⟨#[]⟩))⟩]
abbrev c49_r2 : List Ins := [
  ⟨some 3, none, .mov (.t 0)⟩,
  ⟨some 4, none, .call (.c (.fn 67 [] [])) [.t 3, .c (.str ⟨#[32]⟩)]⟩,
  ⟨some 2, none, .mov (.t 4)⟩]
abbrev c49 : IR := .seq (.reg c49_r1) (.seq (.reg c49_r2) (.ret))
abbrev F49 : FnA := ⟨5, c49, [.t 2]⟩
theorem ok49 : cFn Tryd.prog 49 = some F49 := by kernel_rfl
theorem hb49 : HasBody Tryd.prog 49 := ⟨_, Tryd.func49, by kernel_rfl, by kernel_rfl⟩
/-! prog.key -/
abbrev c50_r1 : List Ins := [
  ⟨some 1, none, .box (.t 0)⟩,
  ⟨some 2, none, .mov (.c (.str ⟨#[]⟩))⟩]
abbrev c50_r2 : List Ins := [
  ⟨some 4, none, .faddr 1 (.t 1)⟩,
  ⟨some 5, none, .load 1 false (.t 4)⟩,
  ⟨some 6, none, .call (.c (.fn 47 [] [])) [.t 5]⟩,
  ⟨some 3, none, .mov (.t 6)⟩]
abbrev c50_r3 : List Ins := [
  ⟨some 7, none, .faddr 0 (.t 1)⟩,
  ⟨some 8, none, .load 1 false (.t 7)⟩,
  ⟨some 9, none, .bin .geq (.t 8) (.c (.int .i64 0))⟩]
abbrev c50_r4 : List Ins := [
  ⟨some 10, none, .mov (.t 3)⟩,
  ⟨some 11, none, .faddr 0 (.t 1)⟩,
  ⟨some 12, none, .load 1 false (.t 11)⟩,
  ⟨some 13, none, .call (.c (.fn 47 [] [])) [.t 12]⟩,
  ⟨some 14, none, .bin .add (.c (.str ⟨#[43, 97]⟩)) (.t 13)⟩,
  ⟨some 15, none, .bin .add (.t 10) (.t 14)⟩,
  ⟨some 3, none, .mov (.t 15)⟩]
abbrev c50_r5 : List Ins := [
  ⟨some 16, none, .mov (.t 3)⟩,
  ⟨some 2, none, .mov (.t 16)⟩]
abbrev c50 : IR := .seq (.reg c50_r1) (.seq (.reg c50_r2) (.seq (.seq (.reg c50_r3) (.cond (.t 9) (.reg c50_r4) (.skip))) (.seq (.reg c50_r5) (.ret))))
abbrev F50 : FnA := ⟨17, c50, [.t 2]⟩
theorem ok50 : cFn Tryd.prog 50 = some F50 := by kernel_rfl
theorem hb50 : HasBody Tryd.prog 50 := ⟨_, Tryd.func50, by kernel_rfl, by kernel_rfl⟩
/-! slices.IndexFunc:Instr -/
abbrev c55_r1 : List Ins := [
  ⟨some 4, none, .mov (.c (.int .i64 0))⟩]
abbrev c55_r2 : List Ins := [
  ⟨some 6, none, .mov (.t 0)⟩,
  ⟨some 7, none, .len (.t 6)⟩,
  ⟨some 8, none, .mov (.c (.int .i64 0))⟩]
abbrev c55_r3 : List Ins := [
  ⟨some 9, none, .bin .lss (.t 8) (.t 7)⟩]
abbrev c55_r4 : List Ins := [
  ⟨some 10, none, .mov (.t 8)⟩,
  ⟨some 5, none, .mov (.t 10)⟩]
abbrev c55_r5 : List Ins := [
  ⟨some 11, none, .mov (.t 1)⟩,
  ⟨some 12, none, .mov (.t 0)⟩,
  ⟨some 13, none, .mov (.t 5)⟩,
  ⟨some 14, none, .iaddr 9 (.t 12) (.t 13)⟩,
  ⟨some 15, none, .load 9 true (.t 14)⟩,
  ⟨some 16, none, .call (.t 11) [.t 15]⟩]
abbrev c55_r6 : List Ins := [
  ⟨some 17, none, .mov (.t 5)⟩,
  ⟨some 4, none, .mov (.t 17)⟩]
abbrev c55_r7 : List Ins := [
  ⟨some 18, none, .bin .add (.t 8) (.c (.int .i64 1))⟩,
  ⟨some 8, none, .mov (.t 18)⟩]
abbrev c55_l8 : IR := .seq (.reg c55_r3) (.seq (.cond (.t 9) (.skip) (.exit 0)) (.seq (.blk 1 (.seq (.reg c55_r4) (.seq (.reg c55_r5) (.cond (.t 16) (.seq (.reg c55_r6) (.ret)) (.skip))))) (.reg c55_r7)))
abbrev c55_r9 : List Ins := [
  ⟨some 4, none, .mov (.c (.int .i64 (-1)))⟩]
abbrev c55 : IR := .seq (.reg c55_r1) (.seq (.seq (.reg c55_r2) (.blk 0 (.loop c55_l8))) (.seq (.reg c55_r9) (.ret)))
abbrev F55 : FnA := ⟨19, c55, [.t 4]⟩
theorem ok55 : cFn Tryd.prog 55 = some F55 := by kernel_rfl
theorem hb55 : HasBody Tryd.prog 55 := ⟨_, Tryd.func55, by kernel_rfl, by kernel_rfl⟩
/-! prog.only -/
abbrev c56_r1 : List Ins := [
  ⟨some 1, none, .box (.t 0)⟩,
  ⟨some 2, none, .alloc [.int .i64 0, .int .i64 0, .int .i64 0, .int .i64 0, .int .i64 0, .int .i64 0, .int .i64 0, .int .i64 0, .int .i64 0]⟩,
  ⟨some 3, none, .mov (.c (.bool false))⟩]
abbrev c56_r2 : List Ins := [
  ⟨some 5, none, .faddr 0 (.t 1)⟩,
  ⟨some 6, none, .load 1 false (.t 5)⟩,
  ⟨some 7, none, .faddr 1 (.t 1)⟩,
  ⟨some 8, none, .load 1 false (.t 7)⟩,
  ⟨some 9, none, .build [.int .i64 0, .int .i64 0, .int .i64 0, .int .i64 0, .int .i64 0, .int .i64 0, .int .i64 0, .int .i64 0, .int .i64 0] [(0, (1, .t 6)), (1, (1, .t 8))]⟩,
  ⟨some 4, none, .alloc [.int .i64 0, .int .i64 0, .int .i64 0, .int .i64 0, .int .i64 0, .int .i64 0, .int .i64 0, .int .i64 0, .int .i64 0]⟩,
  ⟨none, none, .store 9 (.t 4) (.t 9)⟩]
abbrev c56_r3 : List Ins := [
  ⟨some 10, none, .faddr 0 (.t 1)⟩,
  ⟨some 11, none, .load 1 false (.t 10)⟩]
abbrev c56_r4 : List Ins := [
  ⟨some 14, none, .bin .eql (.t 11) (.c (.int .i64 1))⟩,
  ⟨some 13, none, .mov (.t 14)⟩]
abbrev c56_r5 : List Ins := [
  ⟨some 15, none, .bin .eql (.t 11) (.c (.int .i64 2))⟩,
  ⟨some 13, none, .mov (.t 15)⟩]
abbrev c56_r6 : List Ins := [
  ⟨some 16, none, .faddr 4 (.t 1)⟩,
  ⟨some 17, none, .load 2 true (.t 16)⟩,
  ⟨some 18, none, .faddr 4 (.t 4)⟩,
  ⟨none, none, .store 2 (.t 18) (.t 17)⟩]
abbrev c56_r7 : List Ins := [
  ⟨some 20, none, .bin .eql (.t 11) (.c (.int .i64 3))⟩,
  ⟨some 19, none, .mov (.t 20)⟩]
abbrev c56_r8 : List Ins := [
  ⟨some 21, none, .faddr 4 (.t 1)⟩,
  ⟨some 22, none, .load 2 true (.t 21)⟩,
  ⟨some 23, none, .faddr 1 (.t 4)⟩,
  ⟨none, none, .store 1 (.t 23) (.c (.int .i64 0))⟩,
  ⟨some 24, none, .faddr 4 (.t 4)⟩,
  ⟨none, none, .store 2 (.t 24) (.t 22)⟩]
def c56_a8 : List (List Nat) := [[], [0], [], [2], [0, 1, 2, 3], [4, 1, 3, 0, 1, 2, 3]]
abbrev c56_m8 : List Am.Mark := [⟨false, 0, 1⟩, ⟨false, 0, 1⟩, ⟨false, 0, 0⟩, ⟨true, 0, 1⟩, ⟨false, 1, 1⟩, ⟨true, 1, 2⟩]
theorem c56_d8 : drawFine c56_r8 c56_a8 c56_m8 = true := by decide +kernel
abbrev c56_r9 : List Ins := [
  ⟨some 26, none, .bin .eql (.t 11) (.c (.int .i64 4))⟩,
  ⟨some 25, none, .mov (.t 26)⟩]
abbrev c56_r10 : List Ins := [
  ⟨some 27, none, .faddr 4 (.t 1)⟩,
  ⟨some 28, none, .load 2 true (.t 27)⟩,
  ⟨some 29, none, .faddr 6 (.t 1)⟩,
  ⟨some 30, none, .load 2 true (.t 29)⟩,
  ⟨some 31, none, .faddr 4 (.t 4)⟩,
  ⟨none, none, .store 2 (.t 31) (.t 28)⟩,
  ⟨some 32, none, .faddr 6 (.t 4)⟩,
  ⟨none, none, .store 2 (.t 32) (.t 30)⟩]
def c56_a10 : List (List Nat) := [[], [0], [], [2], [0, 1], [4, 1, 0, 1], [0, 1, 2, 3, 4, 5], [6, 3, 5, 0, 1, 2, 3, 4, 5]]
abbrev c56_m10 : List Am.Mark := [⟨false, 0, 0⟩, ⟨false, 0, 0⟩, ⟨false, 0, 1⟩, ⟨false, 0, 1⟩, ⟨false, 0, 0⟩, ⟨true, 0, 1⟩, ⟨false, 1, 1⟩, ⟨true, 1, 2⟩]
theorem c56_d10 : drawFine c56_r10 c56_a10 c56_m10 = true := by decide +kernel
abbrev c56_r11 : List Ins := [
  ⟨some 34, none, .bin .eql (.t 11) (.c (.int .i64 5))⟩,
  ⟨some 33, none, .mov (.t 34)⟩]
abbrev c56_r12 : List Ins := [
  ⟨some 35, none, .bin .eql (.t 11) (.c (.int .i64 8))⟩,
  ⟨some 33, none, .mov (.t 35)⟩]
abbrev c56_r13 : List Ins := [
  ⟨some 36, none, .faddr 8 (.t 1)⟩,
  ⟨some 37, none, .load 1 false (.t 36)⟩,
  ⟨some 38, none, .faddr 8 (.t 4)⟩,
  ⟨none, none, .store 1 (.t 38) (.t 37)⟩]
abbrev c56_r14 : List Ins := [
  ⟨some 40, none, .bin .eql (.t 11) (.c (.int .i64 6))⟩,
  ⟨some 39, none, .mov (.t 40)⟩]
abbrev c56_r15 : List Ins := [
  ⟨some 41, none, .bin .eql (.t 11) (.c (.int .i64 7))⟩,
  ⟨some 39, none, .mov (.t 41)⟩]
abbrev c56_r16 : List Ins := [
  ⟨some 42, none, .faddr 2 (.t 1)⟩,
  ⟨some 43, none, .load 1 false (.t 42)⟩,
  ⟨some 44, none, .faddr 3 (.t 1)⟩,
  ⟨some 45, none, .load 1 false (.t 44)⟩,
  ⟨some 46, none, .faddr 2 (.t 4)⟩,
  ⟨none, none, .store 1 (.t 46) (.t 43)⟩,
  ⟨some 47, none, .faddr 3 (.t 4)⟩,
  ⟨none, none, .store 1 (.t 47) (.t 45)⟩]
def c56_a16 : List (List Nat) := [[], [0], [], [2], [0, 1], [4, 1, 0, 1], [0, 1, 2, 3, 4, 5], [6, 3, 5, 0, 1, 2, 3, 4, 5]]
abbrev c56_m16 : List Am.Mark := [⟨false, 0, 0⟩, ⟨false, 0, 0⟩, ⟨false, 0, 1⟩, ⟨false, 0, 1⟩, ⟨false, 0, 0⟩, ⟨true, 0, 1⟩, ⟨false, 1, 1⟩, ⟨true, 1, 2⟩]
theorem c56_d16 : drawFine c56_r16 c56_a16 c56_m16 = true := by decide +kernel
abbrev c56_r17 : List Ins := [
  ⟨some 12, none, .load 9 true (.t 4)⟩,
  ⟨none, none, .store 9 (.t 2) (.t 12)⟩,
  ⟨some 3, none, .mov (.c (.bool false))⟩]
abbrev c56_r18 : List Ins := [
  ⟨some 48, none, .load 9 true (.t 4)⟩,
  ⟨none, none, .store 9 (.t 2) (.t 48)⟩,
  ⟨some 3, none, .mov (.c (.bool true))⟩]
abbrev c56 : IR := .seq (.reg c56_r1) (.seq (.reg c56_r2) (.seq (.seq (.reg c56_r3) (.blk 0 (.seq (.seq (.reg c56_r4) (.cond (.t 13) (.skip) (.reg c56_r5))) (.cond (.t 13) (.reg c56_r6) (.seq (.reg c56_r7) (.cond (.t 19) (.dreg c56_r8 c56_a8) (.seq (.reg c56_r9) (.cond (.t 25) (.dreg c56_r10 c56_a10) (.seq (.seq (.reg c56_r11) (.cond (.t 33) (.skip) (.reg c56_r12))) (.cond (.t 33) (.reg c56_r13) (.seq (.seq (.reg c56_r14) (.cond (.t 39) (.skip) (.reg c56_r15))) (.cond (.t 39) (.dreg c56_r16 c56_a16) (.seq (.reg c56_r17) (.ret)))))))))))))) (.seq (.reg c56_r18) (.ret))))
abbrev F56 : FnA := ⟨49, c56, [.cell 2 9 true, .t 3]⟩
theorem ok56 : cFn Tryd.prog 56 = some F56 := by kernel_rfl
theorem hb56 : HasBody Tryd.prog 56 := ⟨_, Tryd.func56, by kernel_rfl, by kernel_rfl⟩
/-! prog.may$1 -/
abbrev c57_r1 : List Ins := [
  ⟨some 2, none, .box (.t 0)⟩,
  ⟨some 3, none, .mov (.c (.bool false))⟩]
abbrev c57_r2 : List Ins := [
  ⟨some 4, none, .load 2 true (.t 2)⟩,
  ⟨some 5, none, .load 1 false (.t 1)⟩,
  ⟨some 6, none, .call (.c (.fn 37 [] [])) [.t 4, .t 5]⟩,
  ⟨some 7, none, .un .not (.t 6)⟩,
  ⟨some 3, none, .mov (.t 7)⟩]
abbrev c57 : IR := .seq (.reg c57_r1) (.seq (.reg c57_r2) (.ret))
abbrev F57 : FnA := ⟨8, c57, [.t 3]⟩
theorem ok57 : cFn Tryd.prog 57 = some F57 := by kernel_rfl
theorem hb57 : HasBody Tryd.prog 57 := ⟨_, Tryd.func57, by kernel_rfl, by kernel_rfl⟩
/-! prog.register -/
abbrev c58_r1 : List Ins := [
  ⟨some 2, none, .mov (.c (.bool false))⟩]
abbrev c58_r2 : List Ins := [
  ⟨some 3, none, .mov (.t 0)⟩,
  ⟨some 4, none, .bin .geq (.t 3) (.c (.int .i64 0))⟩,
  ⟨some 5, none, .mov (.t 4)⟩,
  ⟨some 6, some (5, true), .mov (.t 0)⟩,
  ⟨some 7, some (5, true), .bin .lss (.t 6) (.c (.int .i64 4))⟩,
  ⟨some 8, none, .pick (.t 5) (.t 7) (.c (.bool false))⟩,
  ⟨some 2, none, .mov (.t 8)⟩]
abbrev c58 : IR := .seq (.reg c58_r1) (.seq (.reg c58_r2) (.ret))
abbrev F58 : FnA := ⟨9, c58, [.t 2]⟩
theorem ok58 : cFn Tryd.prog 58 = some F58 := by kernel_rfl
theorem hb58 : HasBody Tryd.prog 58 := ⟨_, Tryd.func58, by kernel_rfl, by kernel_rfl⟩
/-! slices.ContainsFunc:KeyT -/
abbrev c59_r1 : List Ins := [
  ⟨some 4, none, .mov (.c (.bool false))⟩]
abbrev c59_r2 : List Ins := [
  ⟨some 5, none, .mov (.t 0)⟩,
  ⟨some 6, none, .mov (.t 1)⟩,
  ⟨some 7, none, .call (.c (.fn 69 [] [])) [.t 5, .t 6]⟩,
  ⟨some 8, none, .bin .geq (.t 7) (.c (.int .i64 0))⟩,
  ⟨some 4, none, .mov (.t 8)⟩]
abbrev c59 : IR := .seq (.reg c59_r1) (.seq (.reg c59_r2) (.ret))
abbrev F59 : FnA := ⟨9, c59, [.t 4]⟩
theorem ok59 : cFn Tryd.prog 59 = some F59 := by kernel_rfl
theorem hb59 : HasBody Tryd.prog 59 := ⟨_, Tryd.func59, by kernel_rfl, by kernel_rfl⟩
/-! prog.keys -/
abbrev c60_r1 : List Ins := [
  ⟨some 1, none, .box (.t 0)⟩,
  ⟨some 2, none, .mov (.c (.sl .full []))⟩]
abbrev c60_r2 : List Ins := [
  ⟨some 3, none, .faddr 0 (.t 1)⟩,
  ⟨some 4, none, .load 1 false (.t 3)⟩]
abbrev c60_r3 : List Ins := [
  ⟨some 6, none, .bin .eql (.t 4) (.c (.int .i64 1))⟩,
  ⟨some 5, none, .mov (.t 6)⟩]
abbrev c60_r4 : List Ins := [
  ⟨some 7, none, .bin .eql (.t 4) (.c (.int .i64 2))⟩,
  ⟨some 5, none, .mov (.t 7)⟩]
abbrev c60_r5 : List Ins := [
  ⟨some 8, none, .bin .eql (.t 4) (.c (.int .i64 3))⟩,
  ⟨some 5, none, .mov (.t 8)⟩]
abbrev c60_r6 : List Ins := [
  ⟨some 9, none, .faddr 4 (.t 1)⟩,
  ⟨some 10, none, .load 2 true (.t 9)⟩,
  ⟨some 11, none, .bsl 2 1 [.int .i64 0, .int .i64 0] [(0, .t 10)]⟩,
  ⟨some 2, none, .mov (.t 11)⟩]
abbrev c60_r7 : List Ins := [
  ⟨some 13, none, .bin .eql (.t 4) (.c (.int .i64 4))⟩,
  ⟨some 12, none, .mov (.t 13)⟩]
abbrev c60_r8 : List Ins := [
  ⟨some 14, none, .faddr 4 (.t 1)⟩,
  ⟨some 15, none, .load 2 true (.t 14)⟩,
  ⟨some 16, none, .faddr 6 (.t 1)⟩,
  ⟨some 17, none, .load 2 true (.t 16)⟩,
  ⟨some 18, none, .bsl 2 2 [.int .i64 0, .int .i64 0] [(0, .t 15), (1, .t 17)]⟩,
  ⟨some 2, none, .mov (.t 18)⟩]
abbrev c60_r9 : List Ins := [
  ⟨some 2, none, .mov (.c (.sl .full []))⟩]
abbrev c60 : IR := .seq (.reg c60_r1) (.seq (.seq (.reg c60_r2) (.blk 0 (.seq (.seq (.reg c60_r3) (.cond (.t 5) (.skip) (.seq (.reg c60_r4) (.cond (.t 5) (.skip) (.reg c60_r5))))) (.cond (.t 5) (.seq (.reg c60_r6) (.ret)) (.seq (.reg c60_r7) (.cond (.t 12) (.seq (.reg c60_r8) (.ret)) (.skip))))))) (.seq (.reg c60_r9) (.ret)))
abbrev F60 : FnA := ⟨19, c60, [.t 2]⟩
theorem ok60 : cFn Tryd.prog 60 = some F60 := by kernel_rfl
theorem hb60 : HasBody Tryd.prog 60 := ⟨_, Tryd.func60, by kernel_rfl, by kernel_rfl⟩
/-! slices.IndexFunc:int -/
abbrev c61_r1 : List Ins := [
  ⟨some 4, none, .mov (.c (.int .i64 0))⟩]
abbrev c61_r2 : List Ins := [
  ⟨some 6, none, .mov (.t 0)⟩,
  ⟨some 7, none, .len (.t 6)⟩,
  ⟨some 8, none, .mov (.c (.int .i64 0))⟩]
abbrev c61_r3 : List Ins := [
  ⟨some 9, none, .bin .lss (.t 8) (.t 7)⟩]
abbrev c61_r4 : List Ins := [
  ⟨some 10, none, .mov (.t 8)⟩,
  ⟨some 5, none, .mov (.t 10)⟩]
abbrev c61_r5 : List Ins := [
  ⟨some 11, none, .mov (.t 1)⟩,
  ⟨some 12, none, .mov (.t 0)⟩,
  ⟨some 13, none, .mov (.t 5)⟩,
  ⟨some 14, none, .iaddr 1 (.t 12) (.t 13)⟩,
  ⟨some 15, none, .load 1 false (.t 14)⟩,
  ⟨some 16, none, .call (.t 11) [.t 15]⟩]
abbrev c61_r6 : List Ins := [
  ⟨some 17, none, .mov (.t 5)⟩,
  ⟨some 4, none, .mov (.t 17)⟩]
abbrev c61_r7 : List Ins := [
  ⟨some 18, none, .bin .add (.t 8) (.c (.int .i64 1))⟩,
  ⟨some 8, none, .mov (.t 18)⟩]
abbrev c61_l8 : IR := .seq (.reg c61_r3) (.seq (.cond (.t 9) (.skip) (.exit 0)) (.seq (.blk 1 (.seq (.reg c61_r4) (.seq (.reg c61_r5) (.cond (.t 16) (.seq (.reg c61_r6) (.ret)) (.skip))))) (.reg c61_r7)))
abbrev c61_r9 : List Ins := [
  ⟨some 4, none, .mov (.c (.int .i64 (-1)))⟩]
abbrev c61 : IR := .seq (.reg c61_r1) (.seq (.seq (.reg c61_r2) (.blk 0 (.loop c61_l8))) (.seq (.reg c61_r9) (.ret)))
abbrev F61 : FnA := ⟨19, c61, [.t 4]⟩
theorem ok61 : cFn Tryd.prog 61 = some F61 := by kernel_rfl
theorem hb61 : HasBody Tryd.prog 61 := ⟨_, Tryd.func61, by kernel_rfl, by kernel_rfl⟩
/-! codes.Writer.put -/
abbrev c62_r1 : List Ins := [
  ⟨some 4, none, .mov (.t 0)⟩,
  ⟨some 5, none, .mov (.t 0)⟩,
  ⟨some 6, none, .nilck (.t 5)⟩,
  ⟨some 7, none, .faddr 0 (.t 6)⟩,
  ⟨some 8, none, .load 1 false (.t 7)⟩,
  ⟨some 9, none, .mov (.t 1)⟩,
  ⟨some 10, none, .append 1 8 (.t 8) (.t 9)⟩,
  ⟨some 11, none, .nilck (.t 4)⟩,
  ⟨some 12, none, .faddr 0 (.t 11)⟩,
  ⟨none, none, .store 1 (.t 12) (.t 10)⟩]
abbrev c62 : IR := .reg c62_r1
abbrev F62 : FnA := ⟨13, c62, []⟩
theorem ok62 : cFn Tryd.prog 62 = some F62 := by kernel_rfl
theorem hb62 : HasBody Tryd.prog 62 := ⟨_, Tryd.func62, by kernel_rfl, by kernel_rfl⟩
/-! ref01.Signed -/
abbrev c63_r1 : List Ins := [
  ⟨some 2, none, .mov (.c (.int .u64 0))⟩]
abbrev c63_r2 : List Ins := [
  ⟨some 3, none, .mov (.t 0)⟩,
  ⟨some 4, none, .bin .geq (.t 3) (.c (.int .i64 0))⟩]
abbrev c63_r3 : List Ins := [
  ⟨some 5, none, .mov (.t 0)⟩,
  ⟨some 6, none, .conv .u64 (.t 5)⟩,
  ⟨some 7, none, .bin .mul (.c (.int .u64 2)) (.t 6)⟩,
  ⟨some 2, none, .mov (.t 7)⟩]
abbrev c63_r4 : List Ins := [
  ⟨some 8, none, .mov (.t 0)⟩,
  ⟨some 9, none, .bin .add (.t 8) (.c (.int .i64 1))⟩,
  ⟨some 10, none, .un .neg (.t 9)⟩,
  ⟨some 11, none, .conv .u64 (.t 10)⟩,
  ⟨some 12, none, .bin .mul (.c (.int .u64 2)) (.t 11)⟩,
  ⟨some 13, none, .bin .add (.t 12) (.c (.int .u64 1))⟩,
  ⟨some 2, none, .mov (.t 13)⟩]
abbrev c63 : IR := .seq (.reg c63_r1) (.seq (.seq (.reg c63_r2) (.cond (.t 4) (.seq (.reg c63_r3) (.ret)) (.skip))) (.seq (.reg c63_r4) (.ret)))
abbrev F63 : FnA := ⟨14, c63, [.t 2]⟩
theorem ok63 : cFn Tryd.prog 63 = some F63 := by kernel_rfl
theorem hb63 : HasBody Tryd.prog 63 := ⟨_, Tryd.func63, by kernel_rfl, by kernel_rfl⟩
/-! ref01.Packed -/
abbrev c64_r1 : List Ins := [
  ⟨some 2, none, .mov (.c (.sl .full []))⟩]
abbrev c64_r2 : List Ins := [
  ⟨some 3, none, .mov (.c (.sl .full []))⟩]
abbrev c64_r3 : List Ins := [
  ⟨some 4, none, .mov (.c (.int .i64 0))⟩]
abbrev c64_r4 : List Ins := [
  ⟨some 7, none, .mov (.t 4)⟩,
  ⟨some 8, none, .mov (.t 0)⟩,
  ⟨some 9, none, .lenS (.t 8)⟩,
  ⟨some 10, none, .bin .lss (.t 7) (.t 9)⟩]
abbrev c64_r5 : List Ins := [
  ⟨some 5, none, .mov (.c (.int .u64 0))⟩]
abbrev c64_r6 : List Ins := [
  ⟨some 6, none, .mov (.c (.int .i64 7))⟩]
abbrev c64_r7 : List Ins := [
  ⟨some 13, none, .mov (.t 6)⟩,
  ⟨some 14, none, .bin .geq (.t 13) (.c (.int .i64 0))⟩]
abbrev c64_r8 : List Ins := [
  ⟨some 17, none, .mov (.t 5)⟩,
  ⟨some 18, none, .bin .mul (.t 17) (.c (.int .u64 256))⟩,
  ⟨some 5, none, .mov (.t 18)⟩]
abbrev c64_r9 : List Ins := [
  ⟨some 19, none, .mov (.t 4)⟩,
  ⟨some 20, none, .mov (.t 6)⟩,
  ⟨some 21, none, .bin .add (.t 19) (.t 20)⟩,
  ⟨some 22, none, .mov (.t 0)⟩,
  ⟨some 23, none, .lenS (.t 22)⟩,
  ⟨some 24, none, .bin .lss (.t 21) (.t 23)⟩]
abbrev c64_r10 : List Ins := [
  ⟨some 25, none, .mov (.t 5)⟩,
  ⟨some 26, none, .mov (.t 0)⟩,
  ⟨some 27, none, .mov (.t 4)⟩,
  ⟨some 28, none, .mov (.t 6)⟩,
  ⟨some 29, none, .bin .add (.t 27) (.t 28)⟩,
  ⟨some 30, none, .idxS (.t 26) (.t 29)⟩,
  ⟨some 31, none, .conv .u64 (.t 30)⟩,
  ⟨some 32, none, .bin .add (.t 25) (.t 31)⟩,
  ⟨some 5, none, .mov (.t 32)⟩]
abbrev c64_r11 : List Ins := [
  ⟨some 15, none, .mov (.t 6)⟩,
  ⟨some 16, none, .bin .sub (.t 15) (.c (.int .i64 1))⟩,
  ⟨some 6, none, .mov (.t 16)⟩]
abbrev c64_l12 : IR := .seq (.seq (.reg c64_r7) (.cond (.t 14) (.skip) (.exit 2))) (.seq (.blk 3 (.seq (.reg c64_r8) (.seq (.reg c64_r9) (.cond (.t 24) (.reg c64_r10) (.skip))))) (.reg c64_r11))
abbrev c64_r13 : List Ins := [
  ⟨some 33, none, .mov (.t 3)⟩,
  ⟨some 34, none, .mov (.t 5)⟩,
  ⟨some 35, none, .bsl 1 1 [.int .u64 0] [(0, .t 34)]⟩,
  ⟨some 36, none, .append 1 8 (.t 33) (.t 35)⟩,
  ⟨some 3, none, .mov (.t 36)⟩]
abbrev c64_r14 : List Ins := [
  ⟨some 11, none, .mov (.t 4)⟩,
  ⟨some 12, none, .bin .add (.t 11) (.c (.int .i64 8))⟩,
  ⟨some 4, none, .mov (.t 12)⟩]
abbrev c64_l15 : IR := .seq (.seq (.reg c64_r4) (.cond (.t 10) (.skip) (.exit 0))) (.seq (.blk 1 (.seq (.reg c64_r5) (.seq (.seq (.reg c64_r6) (.blk 2 (.loop c64_l12))) (.reg c64_r13)))) (.reg c64_r14))
abbrev c64_r16 : List Ins := [
  ⟨some 37, none, .mov (.t 3)⟩,
  ⟨some 2, none, .mov (.t 37)⟩]
abbrev c64 : IR := .seq (.reg c64_r1) (.seq (.reg c64_r2) (.seq (.seq (.reg c64_r3) (.blk 0 (.loop c64_l15))) (.seq (.reg c64_r16) (.ret))))
abbrev F64 : FnA := ⟨38, c64, [.t 2]⟩
theorem ok64 : cFn Tryd.prog 64 = some F64 := by kernel_rfl
theorem hb64 : HasBody Tryd.prog 64 := ⟨_, Tryd.func64, by kernel_rfl, by kernel_rfl⟩
/-! internal/strconv.Itoa -/
abbrev c65_r1 : List Ins := [
  ⟨some 2, none, .mov (.c (.str ⟨#[]⟩))⟩]
abbrev c65_r2 : List Ins := [
  ⟨some 3, none, .mov (.t 0)⟩,
  ⟨some 4, none, .call (.c (.fn 66 [] [])) [.t 3, .c (.int .i64 10)]⟩,
  ⟨some 2, none, .mov (.t 4)⟩]
abbrev c65 : IR := .seq (.reg c65_r1) (.seq (.reg c65_r2) (.ret))
abbrev F65 : FnA := ⟨5, c65, [.t 2]⟩
theorem ok65 : cFn Tryd.prog 65 = some F65 := by kernel_rfl
theorem hb65 : HasBody Tryd.prog 65 := ⟨_, Tryd.func65, by kernel_rfl, by kernel_rfl⟩
/-! internal/strconv.FormatInt -/
-- f66: not compiled
/-! strings.Join -/
abbrev c67_r1 : List Ins := [
  ⟨some 4, none, .mov (.c (.str ⟨#[]⟩))⟩]
abbrev c67_r2 : List Ins := [
  ⟨some 11, none, .mov (.t 0)⟩,
  ⟨some 12, none, .len (.t 11)⟩]
abbrev c67_r3 : List Ins := [
  ⟨some 14, none, .bin .eql (.t 12) (.c (.int .i64 0))⟩,
  ⟨some 13, none, .mov (.t 14)⟩]
abbrev c67_r4 : List Ins := [
  ⟨some 4, none, .mov (.c (.str ⟨#[]⟩))⟩]
abbrev c67_r5 : List Ins := [
  ⟨some 16, none, .bin .eql (.t 12) (.c (.int .i64 1))⟩,
  ⟨some 15, none, .mov (.t 16)⟩]
abbrev c67_r6 : List Ins := [
  ⟨some 17, none, .mov (.t 0)⟩,
  ⟨some 18, none, .iaddr 1 (.t 17) (.c (.int .i64 0))⟩,
  ⟨some 19, none, .load 1 false (.t 18)⟩,
  ⟨some 4, none, .mov (.t 19)⟩]
abbrev c67_r7 : List Ins := [
  ⟨some 5, none, .mov (.c (.int .i64 0))⟩]
abbrev c67_r8 : List Ins := [
  ⟨some 20, none, .mov (.t 1)⟩,
  ⟨some 21, none, .lenS (.t 20)⟩,
  ⟨some 22, none, .bin .gtr (.t 21) (.c (.int .i64 0))⟩]
abbrev c67_r9 : List Ins := [
  ⟨some 23, none, .mov (.t 1)⟩,
  ⟨some 24, none, .lenS (.t 23)⟩,
  ⟨some 25, none, .mov (.t 0)⟩,
  ⟨some 26, none, .len (.t 25)⟩,
  ⟨some 27, none, .bin .sub (.t 26) (.c (.int .i64 1))⟩,
  ⟨some 28, none, .bin .quo (.c (.int .i64 9223372036854775807)) (.t 27)⟩,
  ⟨some 29, none, .bin .geq (.t 24) (.t 28)⟩]
abbrev c67_r10 : List Ins := [
  ⟨some 30, none, .copy 0 (.c .undef) (.c .undef)⟩,
  ⟨none, none, .copy 0 (.c .undef) (.c .undef)⟩]
abbrev c67_r11 : List Ins := [
  ⟨some 31, none, .mov (.t 5)⟩,
  ⟨some 32, none, .mov (.t 1)⟩,
  ⟨some 33, none, .lenS (.t 32)⟩,
  ⟨some 34, none, .mov (.t 0)⟩,
  ⟨some 35, none, .len (.t 34)⟩,
  ⟨some 36, none, .bin .sub (.t 35) (.c (.int .i64 1))⟩,
  ⟨some 37, none, .bin .mul (.t 33) (.t 36)⟩,
  ⟨some 38, none, .bin .add (.t 31) (.t 37)⟩,
  ⟨some 5, none, .mov (.t 38)⟩]
abbrev c67_r12 : List Ins := [
  ⟨some 39, none, .mov (.t 0)⟩,
  ⟨some 40, none, .len (.t 39)⟩,
  ⟨some 41, none, .mov (.c (.int .i64 0))⟩]
abbrev c67_r13 : List Ins := [
  ⟨some 42, none, .bin .lss (.t 41) (.t 40)⟩]
abbrev c67_r14 : List Ins := [
  ⟨some 43, none, .iaddr 1 (.t 39) (.t 41)⟩,
  ⟨some 44, none, .load 1 false (.t 43)⟩,
  ⟨some 7, none, .mov (.t 44)⟩]
abbrev c67_r15 : List Ins := [
  ⟨some 45, none, .mov (.t 7)⟩,
  ⟨some 46, none, .lenS (.t 45)⟩,
  ⟨some 47, none, .mov (.t 5)⟩,
  ⟨some 48, none, .bin .sub (.c (.int .i64 9223372036854775807)) (.t 47)⟩,
  ⟨some 49, none, .bin .gtr (.t 46) (.t 48)⟩]
abbrev c67_r16 : List Ins := [
  ⟨some 50, none, .copy 0 (.c .undef) (.c .undef)⟩,
  ⟨none, none, .copy 0 (.c .undef) (.c .undef)⟩]
abbrev c67_r17 : List Ins := [
  ⟨some 51, none, .mov (.t 5)⟩,
  ⟨some 52, none, .mov (.t 7)⟩,
  ⟨some 53, none, .lenS (.t 52)⟩,
  ⟨some 54, none, .bin .add (.t 51) (.t 53)⟩,
  ⟨some 5, none, .mov (.t 54)⟩]
abbrev c67_r18 : List Ins := [
  ⟨some 55, none, .bin .add (.t 41) (.c (.int .i64 1))⟩,
  ⟨some 41, none, .mov (.t 55)⟩]
abbrev c67_l19 : IR := .seq (.reg c67_r13) (.seq (.cond (.t 42) (.skip) (.exit 1)) (.seq (.blk 2 (.seq (.reg c67_r14) (.seq (.seq (.reg c67_r15) (.cond (.t 49) (.reg c67_r16) (.skip))) (.reg c67_r17)))) (.reg c67_r18)))
abbrev c67_r20 : List Ins := [
  ⟨some 8, none, .alloc [.nilptr, .sl .full []]⟩]
abbrev c67_r21 : List Ins := [
  ⟨some 56, none, .mov (.t 5)⟩,
  ⟨some 57, none, .call (.c (.fn 74 [] [])) [.t 8, .t 56]⟩]
abbrev c67_r22 : List Ins := [
  ⟨some 58, none, .mov (.t 0)⟩,
  ⟨some 59, none, .iaddr 1 (.t 58) (.c (.int .i64 0))⟩,
  ⟨some 60, none, .load 1 false (.t 59)⟩,
  ⟨some 61, none, .call (.c (.fn 75 [] [])) [.t 8, .t 60]⟩]
abbrev c67_r23 : List Ins := [
  ⟨some 62, none, .mov (.t 0)⟩,
  ⟨some 63, none, .slice 1 (.t 62) (some (.c (.int .i64 1))) none none⟩,
  ⟨some 64, none, .len (.t 63)⟩,
  ⟨some 65, none, .mov (.c (.int .i64 0))⟩]
abbrev c67_r24 : List Ins := [
  ⟨some 66, none, .bin .lss (.t 65) (.t 64)⟩]
abbrev c67_r25 : List Ins := [
  ⟨some 67, none, .iaddr 1 (.t 63) (.t 65)⟩,
  ⟨some 68, none, .load 1 false (.t 67)⟩,
  ⟨some 10, none, .mov (.t 68)⟩]
abbrev c67_r26 : List Ins := [
  ⟨some 69, none, .mov (.t 1)⟩,
  ⟨some 70, none, .call (.c (.fn 75 [] [])) [.t 8, .t 69]⟩]
abbrev c67_r27 : List Ins := [
  ⟨some 71, none, .mov (.t 10)⟩,
  ⟨some 72, none, .call (.c (.fn 75 [] [])) [.t 8, .t 71]⟩]
abbrev c67_r28 : List Ins := [
  ⟨some 73, none, .bin .add (.t 65) (.c (.int .i64 1))⟩,
  ⟨some 65, none, .mov (.t 73)⟩]
abbrev c67_l29 : IR := .seq (.reg c67_r24) (.seq (.cond (.t 66) (.skip) (.exit 3)) (.seq (.blk 4 (.seq (.reg c67_r25) (.seq (.reg c67_r26) (.reg c67_r27)))) (.reg c67_r28)))
abbrev c67_r30 : List Ins := [
  ⟨some 74, none, .call (.c (.fn 76 [] [])) [.t 8]⟩,
  ⟨some 4, none, .mov (.t 74)⟩]
abbrev c67 : IR := .seq (.reg c67_r1) (.seq (.seq (.reg c67_r2) (.blk 0 (.seq (.reg c67_r3) (.cond (.t 13) (.seq (.reg c67_r4) (.ret)) (.seq (.reg c67_r5) (.cond (.t 15) (.seq (.reg c67_r6) (.ret)) (.skip))))))) (.seq (.reg c67_r7) (.seq (.seq (.reg c67_r8) (.cond (.t 22) (.seq (.seq (.reg c67_r9) (.cond (.t 29) (.reg c67_r10) (.skip))) (.reg c67_r11)) (.skip))) (.seq (.seq (.reg c67_r12) (.blk 1 (.loop c67_l19))) (.seq (.reg c67_r20) (.seq (.reg c67_r21) (.seq (.reg c67_r22) (.seq (.seq (.reg c67_r23) (.blk 3 (.loop c67_l29))) (.seq (.reg c67_r30) (.ret))))))))))
abbrev F67 : FnA := ⟨75, c67, [.t 4]⟩
theorem ok67 : cFn Tryd.prog 67 = some F67 := by kernel_rfl
theorem hb67 : HasBody Tryd.prog 67 := ⟨_, Tryd.func67, by kernel_rfl, by kernel_rfl⟩
/-! slices.IndexFunc:KeyT -/
abbrev c69_r1 : List Ins := [
  ⟨some 4, none, .mov (.c (.int .i64 0))⟩]
abbrev c69_r2 : List Ins := [
  ⟨some 6, none, .mov (.t 0)⟩,
  ⟨some 7, none, .len (.t 6)⟩,
  ⟨some 8, none, .mov (.c (.int .i64 0))⟩]
abbrev c69_r3 : List Ins := [
  ⟨some 9, none, .bin .lss (.t 8) (.t 7)⟩]
abbrev c69_r4 : List Ins := [
  ⟨some 10, none, .mov (.t 8)⟩,
  ⟨some 5, none, .mov (.t 10)⟩]
abbrev c69_r5 : List Ins := [
  ⟨some 11, none, .mov (.t 1)⟩,
  ⟨some 12, none, .mov (.t 0)⟩,
  ⟨some 13, none, .mov (.t 5)⟩,
  ⟨some 14, none, .iaddr 2 (.t 12) (.t 13)⟩,
  ⟨some 15, none, .load 2 true (.t 14)⟩,
  ⟨some 16, none, .call (.t 11) [.t 15]⟩]
abbrev c69_r6 : List Ins := [
  ⟨some 17, none, .mov (.t 5)⟩,
  ⟨some 4, none, .mov (.t 17)⟩]
abbrev c69_r7 : List Ins := [
  ⟨some 18, none, .bin .add (.t 8) (.c (.int .i64 1))⟩,
  ⟨some 8, none, .mov (.t 18)⟩]
abbrev c69_l8 : IR := .seq (.reg c69_r3) (.seq (.cond (.t 9) (.skip) (.exit 0)) (.seq (.blk 1 (.seq (.reg c69_r4) (.seq (.reg c69_r5) (.cond (.t 16) (.seq (.reg c69_r6) (.ret)) (.skip))))) (.reg c69_r7)))
abbrev c69_r9 : List Ins := [
  ⟨some 4, none, .mov (.c (.int .i64 (-1)))⟩]
abbrev c69 : IR := .seq (.reg c69_r1) (.seq (.seq (.reg c69_r2) (.blk 0 (.loop c69_l8))) (.seq (.reg c69_r9) (.ret)))
abbrev F69 : FnA := ⟨19, c69, [.t 4]⟩
theorem ok69 : cFn Tryd.prog 69 = some F69 := by kernel_rfl
theorem hb69 : HasBody Tryd.prog 69 := ⟨_, Tryd.func69, by kernel_rfl, by kernel_rfl⟩
/-! internal/strconv.small -/
abbrev c70_r1 : List Ins := [
  ⟨some 2, none, .mov (.c (.str ⟨#[]⟩))⟩]
abbrev c70_r2 : List Ins := [
  ⟨some 3, none, .mov (.t 0)⟩,
  ⟨some 4, none, .bin .lss (.t 3) (.c (.int .i64 10))⟩]
abbrev c70_r3 : List Ins := [
  ⟨some 5, none, .mov (.t 0)⟩,
  ⟨some 6, none, .mov (.t 0)⟩,
  ⟨some 7, none, .bin .add (.t 6) (.c (.int .i64 1))⟩,
  ⟨some 8, none, .sliceS (.c (.str ⟨#[48, 49, 50, 51, 52, 53, 54, 55, 56, 57, 97, 98, 99, 100, 101, 102, 103, 104, 105, 106, 107, 108, 109, 110, 111, 112, 113, 114, 115, 116, 117, 118, 119, 120, 121, 122]⟩)) (some (.t 5)) (some (.t 7))⟩,
  ⟨some 2, none, .mov (.t 8)⟩]
abbrev c70_r4 : List Ins := [
  ⟨some 9, none, .mov (.t 0)⟩,
  ⟨some 10, none, .bin .mul (.t 9) (.c (.int .i64 2))⟩,
  ⟨some 11, none, .mov (.t 0)⟩,
  ⟨some 12, none, .bin .mul (.t 11) (.c (.int .i64 2))⟩,
  ⟨some 13, none, .bin .add (.t 12) (.c (.int .i64 2))⟩,
  ⟨some 14, none, .sliceS (.c (.str ⟨#[48, 48, 48, 49, 48, 50, 48, 51, 48, 52, 48, 53, 48, 54, 48, 55, 48, 56, 48, 57, 49, 48, 49, 49, 49, 50, 49, 51, 49, 52, 49, 53, 49, 54, 49, 55, 49, 56, 49, 57, 50, 48, 50, 49, 50, 50, 50, 51, 50, 52, 50, 53, 50, 54, 50, 55, 50, 56, 50, 57, 51, 48, 51, 49, 51, 50, 51, 51, 51, 52, 51, 53, 51, 54, 51, 55, 51, 56, 51, 57, 52, 48, 52, 49, 52, 50, 52, 51, 52, 52, 52, 53, 52, 54, 52, 55, 52, 56, 52, 57, 53, 48, 53, 49, 53, 50, 53, 51, 53, 52, 53, 53, 53, 54, 53, 55, 53, 56, 53, 57, 54, 48, 54, 49, 54, 50, 54, 51, 54, 52, 54, 53, 54, 54, 54, 55, 54, 56, 54, 57, 55, 48, 55, 49, 55, 50, 55, 51, 55, 52, 55, 53, 55, 54, 55, 55, 55, 56, 55, 57, 56, 48, 56, 49, 56, 50, 56, 51, 56, 52, 56, 53, 56, 54, 56, 55, 56, 56, 56, 57, 57, 48, 57, 49, 57, 50, 57, 51, 57, 52, 57, 53, 57, 54, 57, 55, 57, 56, 57, 57]⟩)) (some (.t 10)) (some (.t 13))⟩,
  ⟨some 2, none, .mov (.t 14)⟩]
abbrev c70 : IR := .seq (.reg c70_r1) (.seq (.seq (.reg c70_r2) (.cond (.t 4) (.seq (.reg c70_r3) (.ret)) (.skip))) (.seq (.reg c70_r4) (.ret)))
abbrev F70 : FnA := ⟨15, c70, [.t 2]⟩
theorem ok70 : cFn Tryd.prog 70 = some F70 := by kernel_rfl
theorem hb70 : HasBody Tryd.prog 70 := ⟨_, Tryd.func70, by kernel_rfl, by kernel_rfl⟩
/-! internal/strconv.numDigits -/
-- f71: not compiled
/-! internal/strconv.formatBase10 -/
abbrev c72_r1 : List Ins := [
  ⟨some 17, none, .mov (.t 0)⟩,
  ⟨some 18, none, .len (.t 17)⟩,
  ⟨some 4, none, .mov (.t 18)⟩]
abbrev c72_r2 : List Ins := [
  ⟨some 19, none, .mov (.t 4)⟩,
  ⟨some 20, none, .bin .geq (.t 19) (.c (.int .i64 8))⟩]
abbrev c72_r3 : List Ins := [
  ⟨some 21, none, .mov (.t 1)⟩,
  ⟨some 22, none, .bin .rem (.t 21) (.c (.int .u64 100000000))⟩,
  ⟨some 23, none, .conv .u32 (.t 22)⟩,
  ⟨some 5, none, .mov (.t 23)⟩]
abbrev c72_r4 : List Ins := [
  ⟨some 24, none, .mov (.t 1)⟩,
  ⟨some 25, none, .bin .quo (.t 24) (.c (.int .u64 100000000))⟩,
  ⟨some 1, none, .mov (.t 25)⟩]
abbrev c72_r5 : List Ins := [
  ⟨some 26, none, .mov (.t 5)⟩,
  ⟨some 27, none, .bin .quo (.t 26) (.c (.int .u32 10000))⟩,
  ⟨some 28, none, .mov (.t 5)⟩,
  ⟨some 29, none, .bin .rem (.t 28) (.c (.int .u32 10000))⟩,
  ⟨some 6, none, .mov (.t 27)⟩,
  ⟨some 7, none, .mov (.t 29)⟩]
abbrev c72_r6 : List Ins := [
  ⟨some 30, none, .mov (.t 7)⟩,
  ⟨some 31, none, .bin .quo (.t 30) (.c (.int .u32 100))⟩,
  ⟨some 32, none, .bin .mul (.t 31) (.c (.int .u32 2))⟩,
  ⟨some 33, none, .mov (.t 7)⟩,
  ⟨some 34, none, .bin .rem (.t 33) (.c (.int .u32 100))⟩,
  ⟨some 35, none, .bin .mul (.t 34) (.c (.int .u32 2))⟩,
  ⟨some 8, none, .mov (.t 32)⟩,
  ⟨some 9, none, .mov (.t 35)⟩]
abbrev c72_r7 : List Ins := [
  ⟨some 36, none, .mov (.t 6)⟩,
  ⟨some 37, none, .bin .quo (.t 36) (.c (.int .u32 100))⟩,
  ⟨some 38, none, .bin .mul (.t 37) (.c (.int .u32 2))⟩,
  ⟨some 39, none, .mov (.t 6)⟩,
  ⟨some 40, none, .bin .rem (.t 39) (.c (.int .u32 100))⟩,
  ⟨some 41, none, .bin .mul (.t 40) (.c (.int .u32 2))⟩,
  ⟨some 10, none, .mov (.t 38)⟩,
  ⟨some 11, none, .mov (.t 41)⟩]
abbrev c72_r8 : List Ins := [
  ⟨some 42, none, .mov (.t 0)⟩,
  ⟨some 43, none, .mov (.t 4)⟩,
  ⟨some 44, none, .bin .sub (.t 43) (.c (.int .i64 1))⟩,
  ⟨some 45, none, .mov (.t 0)⟩,
  ⟨some 46, none, .mov (.t 4)⟩,
  ⟨some 47, none, .bin .sub (.t 46) (.c (.int .i64 2))⟩,
  ⟨some 48, none, .mov (.t 9)⟩,
  ⟨some 49, none, .bin .add (.t 48) (.c (.int .u32 1))⟩,
  ⟨some 50, none, .idxS (.c (.str ⟨#[48, 48, 48, 49, 48, 50, 48, 51, 48, 52, 48, 53, 48, 54, 48, 55, 48, 56, 48, 57, 49, 48, 49, 49, 49, 50, 49, 51, 49, 52, 49, 53, 49, 54, 49, 55, 49, 56, 49, 57, 50, 48, 50, 49, 50, 50, 50, 51, 50, 52, 50, 53, 50, 54, 50, 55, 50, 56, 50, 57, 51, 48, 51, 49, 51, 50, 51, 51, 51, 52, 51, 53, 51, 54, 51, 55, 51, 56, 51, 57, 52, 48, 52, 49, 52, 50, 52, 51, 52, 52, 52, 53, 52, 54, 52, 55, 52, 56, 52, 57, 53, 48, 53, 49, 53, 50, 53, 51, 53, 52, 53, 53, 53, 54, 53, 55, 53, 56, 53, 57, 54, 48, 54, 49, 54, 50, 54, 51, 54, 52, 54, 53, 54, 54, 54, 55, 54, 56, 54, 57, 55, 48, 55, 49, 55, 50, 55, 51, 55, 52, 55, 53, 55, 54, 55, 55, 55, 56, 55, 57, 56, 48, 56, 49, 56, 50, 56, 51, 56, 52, 56, 53, 56, 54, 56, 55, 56, 56, 56, 57, 57, 48, 57, 49, 57, 50, 57, 51, 57, 52, 57, 53, 57, 54, 57, 55, 57, 56, 57, 57]⟩)) (.t 49)⟩,
  ⟨some 51, none, .mov (.t 9)⟩,
  ⟨some 52, none, .idxS (.c (.str ⟨#[48, 48, 48, 49, 48, 50, 48, 51, 48, 52, 48, 53, 48, 54, 48, 55, 48, 56, 48, 57, 49, 48, 49, 49, 49, 50, 49, 51, 49, 52, 49, 53, 49, 54, 49, 55, 49, 56, 49, 57, 50, 48, 50, 49, 50, 50, 50, 51, 50, 52, 50, 53, 50, 54, 50, 55, 50, 56, 50, 57, 51, 48, 51, 49, 51, 50, 51, 51, 51, 52, 51, 53, 51, 54, 51, 55, 51, 56, 51, 57, 52, 48, 52, 49, 52, 50, 52, 51, 52, 52, 52, 53, 52, 54, 52, 55, 52, 56, 52, 57, 53, 48, 53, 49, 53, 50, 53, 51, 53, 52, 53, 53, 53, 54, 53, 55, 53, 56, 53, 57, 54, 48, 54, 49, 54, 50, 54, 51, 54, 52, 54, 53, 54, 54, 54, 55, 54, 56, 54, 57, 55, 48, 55, 49, 55, 50, 55, 51, 55, 52, 55, 53, 55, 54, 55, 55, 55, 56, 55, 57, 56, 48, 56, 49, 56, 50, 56, 51, 56, 52, 56, 53, 56, 54, 56, 55, 56, 56, 56, 57, 57, 48, 57, 49, 57, 50, 57, 51, 57, 52, 57, 53, 57, 54, 57, 55, 57, 56, 57, 57]⟩)) (.t 51)⟩,
  ⟨some 53, none, .iaddr 1 (.t 42) (.t 44)⟩,
  ⟨none, none, .store 1 (.t 53) (.t 50)⟩,
  ⟨some 54, none, .iaddr 1 (.t 45) (.t 47)⟩,
  ⟨none, none, .store 1 (.t 54) (.t 52)⟩]
def c72_a8 : List (List Nat) := [[], [], [1], [], [], [4], [], [6], [7], [], [9], [0, 2, 0, 1, 2, 6, 7, 8], [11, 8, 0, 1, 2, 6, 7, 8], [3, 5, 0, 1, 2, 3, 4, 5, 6, 7, 8, 9, 10, 11, 12], [13, 10, 12, 0, 1, 2, 3, 4, 5, 6, 7, 8, 9, 10, 11, 12]]
abbrev c72_m8 : List Am.Mark := [⟨false, 0, 0⟩, ⟨false, 0, 0⟩, ⟨false, 0, 0⟩, ⟨false, 0, 1⟩, ⟨false, 0, 1⟩, ⟨false, 0, 1⟩, ⟨false, 0, 0⟩, ⟨false, 0, 0⟩, ⟨false, 0, 0⟩, ⟨false, 0, 1⟩, ⟨false, 0, 1⟩, ⟨false, 0, 0⟩, ⟨true, 0, 1⟩, ⟨false, 1, 1⟩, ⟨true, 1, 2⟩]
theorem c72_d8 : drawFine c72_r8 c72_a8 c72_m8 = true := by decide +kernel
abbrev c72_r9 : List Ins := [
  ⟨some 55, none, .mov (.t 0)⟩,
  ⟨some 56, none, .mov (.t 4)⟩,
  ⟨some 57, none, .bin .sub (.t 56) (.c (.int .i64 3))⟩,
  ⟨some 58, none, .mov (.t 0)⟩,
  ⟨some 59, none, .mov (.t 4)⟩,
  ⟨some 60, none, .bin .sub (.t 59) (.c (.int .i64 4))⟩,
  ⟨some 61, none, .mov (.t 8)⟩,
  ⟨some 62, none, .bin .add (.t 61) (.c (.int .u32 1))⟩,
  ⟨some 63, none, .idxS (.c (.str ⟨#[48, 48, 48, 49, 48, 50, 48, 51, 48, 52, 48, 53, 48, 54, 48, 55, 48, 56, 48, 57, 49, 48, 49, 49, 49, 50, 49, 51, 49, 52, 49, 53, 49, 54, 49, 55, 49, 56, 49, 57, 50, 48, 50, 49, 50, 50, 50, 51, 50, 52, 50, 53, 50, 54, 50, 55, 50, 56, 50, 57, 51, 48, 51, 49, 51, 50, 51, 51, 51, 52, 51, 53, 51, 54, 51, 55, 51, 56, 51, 57, 52, 48, 52, 49, 52, 50, 52, 51, 52, 52, 52, 53, 52, 54, 52, 55, 52, 56, 52, 57, 53, 48, 53, 49, 53, 50, 53, 51, 53, 52, 53, 53, 53, 54, 53, 55, 53, 56, 53, 57, 54, 48, 54, 49, 54, 50, 54, 51, 54, 52, 54, 53, 54, 54, 54, 55, 54, 56, 54, 57, 55, 48, 55, 49, 55, 50, 55, 51, 55, 52, 55, 53, 55, 54, 55, 55, 55, 56, 55, 57, 56, 48, 56, 49, 56, 50, 56, 51, 56, 52, 56, 53, 56, 54, 56, 55, 56, 56, 56, 57, 57, 48, 57, 49, 57, 50, 57, 51, 57, 52, 57, 53, 57, 54, 57, 55, 57, 56, 57, 57]⟩)) (.t 62)⟩,
  ⟨some 64, none, .mov (.t 8)⟩,
  ⟨some 65, none, .idxS (.c (.str ⟨#[48, 48, 48, 49, 48, 50, 48, 51, 48, 52, 48, 53, 48, 54, 48, 55, 48, 56, 48, 57, 49, 48, 49, 49, 49, 50, 49, 51, 49, 52, 49, 53, 49, 54, 49, 55, 49, 56, 49, 57, 50, 48, 50, 49, 50, 50, 50, 51, 50, 52, 50, 53, 50, 54, 50, 55, 50, 56, 50, 57, 51, 48, 51, 49, 51, 50, 51, 51, 51, 52, 51, 53, 51, 54, 51, 55, 51, 56, 51, 57, 52, 48, 52, 49, 52, 50, 52, 51, 52, 52, 52, 53, 52, 54, 52, 55, 52, 56, 52, 57, 53, 48, 53, 49, 53, 50, 53, 51, 53, 52, 53, 53, 53, 54, 53, 55, 53, 56, 53, 57, 54, 48, 54, 49, 54, 50, 54, 51, 54, 52, 54, 53, 54, 54, 54, 55, 54, 56, 54, 57, 55, 48, 55, 49, 55, 50, 55, 51, 55, 52, 55, 53, 55, 54, 55, 55, 55, 56, 55, 57, 56, 48, 56, 49, 56, 50, 56, 51, 56, 52, 56, 53, 56, 54, 56, 55, 56, 56, 56, 57, 57, 48, 57, 49, 57, 50, 57, 51, 57, 52, 57, 53, 57, 54, 57, 55, 57, 56, 57, 57]⟩)) (.t 64)⟩,
  ⟨some 66, none, .iaddr 1 (.t 55) (.t 57)⟩,
  ⟨none, none, .store 1 (.t 66) (.t 63)⟩,
  ⟨some 67, none, .iaddr 1 (.t 58) (.t 60)⟩,
  ⟨none, none, .store 1 (.t 67) (.t 65)⟩]
def c72_a9 : List (List Nat) := [[], [], [1], [], [], [4], [], [6], [7], [], [9], [0, 2, 0, 1, 2, 6, 7, 8], [11, 8, 0, 1, 2, 6, 7, 8], [3, 5, 0, 1, 2, 3, 4, 5, 6, 7, 8, 9, 10, 11, 12], [13, 10, 12, 0, 1, 2, 3, 4, 5, 6, 7, 8, 9, 10, 11, 12]]
abbrev c72_m9 : List Am.Mark := [⟨false, 0, 0⟩, ⟨false, 0, 0⟩, ⟨false, 0, 0⟩, ⟨false, 0, 1⟩, ⟨false, 0, 1⟩, ⟨false, 0, 1⟩, ⟨false, 0, 0⟩, ⟨false, 0, 0⟩, ⟨false, 0, 0⟩, ⟨false, 0, 1⟩, ⟨false, 0, 1⟩, ⟨false, 0, 0⟩, ⟨true, 0, 1⟩, ⟨false, 1, 1⟩, ⟨true, 1, 2⟩]
theorem c72_d9 : drawFine c72_r9 c72_a9 c72_m9 = true := by decide +kernel
abbrev c72_r10 : List Ins := [
  ⟨some 68, none, .mov (.t 0)⟩,
  ⟨some 69, none, .mov (.t 4)⟩,
  ⟨some 70, none, .bin .sub (.t 69) (.c (.int .i64 5))⟩,
  ⟨some 71, none, .mov (.t 0)⟩,
  ⟨some 72, none, .mov (.t 4)⟩,
  ⟨some 73, none, .bin .sub (.t 72) (.c (.int .i64 6))⟩,
  ⟨some 74, none, .mov (.t 11)⟩,
  ⟨some 75, none, .bin .add (.t 74) (.c (.int .u32 1))⟩,
  ⟨some 76, none, .idxS (.c (.str ⟨#[48, 48, 48, 49, 48, 50, 48, 51, 48, 52, 48, 53, 48, 54, 48, 55, 48, 56, 48, 57, 49, 48, 49, 49, 49, 50, 49, 51, 49, 52, 49, 53, 49, 54, 49, 55, 49, 56, 49, 57, 50, 48, 50, 49, 50, 50, 50, 51, 50, 52, 50, 53, 50, 54, 50, 55, 50, 56, 50, 57, 51, 48, 51, 49, 51, 50, 51, 51, 51, 52, 51, 53, 51, 54, 51, 55, 51, 56, 51, 57, 52, 48, 52, 49, 52, 50, 52, 51, 52, 52, 52, 53, 52, 54, 52, 55, 52, 56, 52, 57, 53, 48, 53, 49, 53, 50, 53, 51, 53, 52, 53, 53, 53, 54, 53, 55, 53, 56, 53, 57, 54, 48, 54, 49, 54, 50, 54, 51, 54, 52, 54, 53, 54, 54, 54, 55, 54, 56, 54, 57, 55, 48, 55, 49, 55, 50, 55, 51, 55, 52, 55, 53, 55, 54, 55, 55, 55, 56, 55, 57, 56, 48, 56, 49, 56, 50, 56, 51, 56, 52, 56, 53, 56, 54, 56, 55, 56, 56, 56, 57, 57, 48, 57, 49, 57, 50, 57, 51, 57, 52, 57, 53, 57, 54, 57, 55, 57, 56, 57, 57]⟩)) (.t 75)⟩,
  ⟨some 77, none, .mov (.t 11)⟩,
  ⟨some 78, none, .idxS (.c (.str ⟨#[48, 48, 48, 49, 48, 50, 48, 51, 48, 52, 48, 53, 48, 54, 48, 55, 48, 56, 48, 57, 49, 48, 49, 49, 49, 50, 49, 51, 49, 52, 49, 53, 49, 54, 49, 55, 49, 56, 49, 57, 50, 48, 50, 49, 50, 50, 50, 51, 50, 52, 50, 53, 50, 54, 50, 55, 50, 56, 50, 57, 51, 48, 51, 49, 51, 50, 51, 51, 51, 52, 51, 53, 51, 54, 51, 55, 51, 56, 51, 57, 52, 48, 52, 49, 52, 50, 52, 51, 52, 52, 52, 53, 52, 54, 52, 55, 52, 56, 52, 57, 53, 48, 53, 49, 53, 50, 53, 51, 53, 52, 53, 53, 53, 54, 53, 55, 53, 56, 53, 57, 54, 48, 54, 49, 54, 50, 54, 51, 54, 52, 54, 53, 54, 54, 54, 55, 54, 56, 54, 57, 55, 48, 55, 49, 55, 50, 55, 51, 55, 52, 55, 53, 55, 54, 55, 55, 55, 56, 55, 57, 56, 48, 56, 49, 56, 50, 56, 51, 56, 52, 56, 53, 56, 54, 56, 55, 56, 56, 56, 57, 57, 48, 57, 49, 57, 50, 57, 51, 57, 52, 57, 53, 57, 54, 57, 55, 57, 56, 57, 57]⟩)) (.t 77)⟩,
  ⟨some 79, none, .iaddr 1 (.t 68) (.t 70)⟩,
  ⟨none, none, .store 1 (.t 79) (.t 76)⟩,
  ⟨some 80, none, .iaddr 1 (.t 71) (.t 73)⟩,
  ⟨none, none, .store 1 (.t 80) (.t 78)⟩]
def c72_a10 : List (List Nat) := [[], [], [1], [], [], [4], [], [6], [7], [], [9], [0, 2, 0, 1, 2, 6, 7, 8], [11, 8, 0, 1, 2, 6, 7, 8], [3, 5, 0, 1, 2, 3, 4, 5, 6, 7, 8, 9, 10, 11, 12], [13, 10, 12, 0, 1, 2, 3, 4, 5, 6, 7, 8, 9, 10, 11, 12]]
abbrev c72_m10 : List Am.Mark := [⟨false, 0, 0⟩, ⟨false, 0, 0⟩, ⟨false, 0, 0⟩, ⟨false, 0, 1⟩, ⟨false, 0, 1⟩, ⟨false, 0, 1⟩, ⟨false, 0, 0⟩, ⟨false, 0, 0⟩, ⟨false, 0, 0⟩, ⟨false, 0, 1⟩, ⟨false, 0, 1⟩, ⟨false, 0, 0⟩, ⟨true, 0, 1⟩, ⟨false, 1, 1⟩, ⟨true, 1, 2⟩]
theorem c72_d10 : drawFine c72_r10 c72_a10 c72_m10 = true := by decide +kernel
abbrev c72_r11 : List Ins := [
  ⟨some 81, none, .mov (.t 0)⟩,
  ⟨some 82, none, .mov (.t 4)⟩,
  ⟨some 83, none, .bin .sub (.t 82) (.c (.int .i64 7))⟩,
  ⟨some 84, none, .mov (.t 0)⟩,
  ⟨some 85, none, .mov (.t 4)⟩,
  ⟨some 86, none, .bin .sub (.t 85) (.c (.int .i64 8))⟩,
  ⟨some 87, none, .mov (.t 10)⟩,
  ⟨some 88, none, .bin .add (.t 87) (.c (.int .u32 1))⟩,
  ⟨some 89, none, .idxS (.c (.str ⟨#[48, 48, 48, 49, 48, 50, 48, 51, 48, 52, 48, 53, 48, 54, 48, 55, 48, 56, 48, 57, 49, 48, 49, 49, 49, 50, 49, 51, 49, 52, 49, 53, 49, 54, 49, 55, 49, 56, 49, 57, 50, 48, 50, 49, 50, 50, 50, 51, 50, 52, 50, 53, 50, 54, 50, 55, 50, 56, 50, 57, 51, 48, 51, 49, 51, 50, 51, 51, 51, 52, 51, 53, 51, 54, 51, 55, 51, 56, 51, 57, 52, 48, 52, 49, 52, 50, 52, 51, 52, 52, 52, 53, 52, 54, 52, 55, 52, 56, 52, 57, 53, 48, 53, 49, 53, 50, 53, 51, 53, 52, 53, 53, 53, 54, 53, 55, 53, 56, 53, 57, 54, 48, 54, 49, 54, 50, 54, 51, 54, 52, 54, 53, 54, 54, 54, 55, 54, 56, 54, 57, 55, 48, 55, 49, 55, 50, 55, 51, 55, 52, 55, 53, 55, 54, 55, 55, 55, 56, 55, 57, 56, 48, 56, 49, 56, 50, 56, 51, 56, 52, 56, 53, 56, 54, 56, 55, 56, 56, 56, 57, 57, 48, 57, 49, 57, 50, 57, 51, 57, 52, 57, 53, 57, 54, 57, 55, 57, 56, 57, 57]⟩)) (.t 88)⟩,
  ⟨some 90, none, .mov (.t 10)⟩,
  ⟨some 91, none, .idxS (.c (.str ⟨#[48, 48, 48, 49, 48, 50, 48, 51, 48, 52, 48, 53, 48, 54, 48, 55, 48, 56, 48, 57, 49, 48, 49, 49, 49, 50, 49, 51, 49, 52, 49, 53, 49, 54, 49, 55, 49, 56, 49, 57, 50, 48, 50, 49, 50, 50, 50, 51, 50, 52, 50, 53, 50, 54, 50, 55, 50, 56, 50, 57, 51, 48, 51, 49, 51, 50, 51, 51, 51, 52, 51, 53, 51, 54, 51, 55, 51, 56, 51, 57, 52, 48, 52, 49, 52, 50, 52, 51, 52, 52, 52, 53, 52, 54, 52, 55, 52, 56, 52, 57, 53, 48, 53, 49, 53, 50, 53, 51, 53, 52, 53, 53, 53, 54, 53, 55, 53, 56, 53, 57, 54, 48, 54, 49, 54, 50, 54, 51, 54, 52, 54, 53, 54, 54, 54, 55, 54, 56, 54, 57, 55, 48, 55, 49, 55, 50, 55, 51, 55, 52, 55, 53, 55, 54, 55, 55, 55, 56, 55, 57, 56, 48, 56, 49, 56, 50, 56, 51, 56, 52, 56, 53, 56, 54, 56, 55, 56, 56, 56, 57, 57, 48, 57, 49, 57, 50, 57, 51, 57, 52, 57, 53, 57, 54, 57, 55, 57, 56, 57, 57]⟩)) (.t 90)⟩,
  ⟨some 92, none, .iaddr 1 (.t 81) (.t 83)⟩,
  ⟨none, none, .store 1 (.t 92) (.t 89)⟩,
  ⟨some 93, none, .iaddr 1 (.t 84) (.t 86)⟩,
  ⟨none, none, .store 1 (.t 93) (.t 91)⟩]
def c72_a11 : List (List Nat) := [[], [], [1], [], [], [4], [], [6], [7], [], [9], [0, 2, 0, 1, 2, 6, 7, 8], [11, 8, 0, 1, 2, 6, 7, 8], [3, 5, 0, 1, 2, 3, 4, 5, 6, 7, 8, 9, 10, 11, 12], [13, 10, 12, 0, 1, 2, 3, 4, 5, 6, 7, 8, 9, 10, 11, 12]]
abbrev c72_m11 : List Am.Mark := [⟨false, 0, 0⟩, ⟨false, 0, 0⟩, ⟨false, 0, 0⟩, ⟨false, 0, 1⟩, ⟨false, 0, 1⟩, ⟨false, 0, 1⟩, ⟨false, 0, 0⟩, ⟨false, 0, 0⟩, ⟨false, 0, 0⟩, ⟨false, 0, 1⟩, ⟨false, 0, 1⟩, ⟨false, 0, 0⟩, ⟨true, 0, 1⟩, ⟨false, 1, 1⟩, ⟨true, 1, 2⟩]
theorem c72_d11 : drawFine c72_r11 c72_a11 c72_m11 = true := by decide +kernel
abbrev c72_r12 : List Ins := [
  ⟨some 94, none, .mov (.t 4)⟩,
  ⟨some 95, none, .bin .sub (.t 94) (.c (.int .i64 8))⟩,
  ⟨some 4, none, .mov (.t 95)⟩]
abbrev c72_l13 : IR := .seq (.seq (.reg c72_r2) (.cond (.t 20) (.skip) (.exit 0))) (.blk 1 (.seq (.reg c72_r3) (.seq (.reg c72_r4) (.seq (.reg c72_r5) (.seq (.reg c72_r6) (.seq (.reg c72_r7) (.seq (.dreg c72_r8 c72_a8) (.seq (.dreg c72_r9 c72_a9) (.seq (.dreg c72_r10 c72_a10) (.seq (.dreg c72_r11 c72_a11) (.reg c72_r12)))))))))))
abbrev c72_r14 : List Ins := [
  ⟨some 96, none, .mov (.t 1)⟩,
  ⟨some 97, none, .conv .u32 (.t 96)⟩,
  ⟨some 12, none, .mov (.t 97)⟩]
abbrev c72_r15 : List Ins := [
  ⟨some 98, none, .mov (.t 4)⟩,
  ⟨some 99, none, .bin .geq (.t 98) (.c (.int .i64 4))⟩]
abbrev c72_r16 : List Ins := [
  ⟨some 100, none, .mov (.t 12)⟩,
  ⟨some 101, none, .bin .rem (.t 100) (.c (.int .u32 10000))⟩,
  ⟨some 13, none, .mov (.t 101)⟩]
abbrev c72_r17 : List Ins := [
  ⟨some 102, none, .mov (.t 12)⟩,
  ⟨some 103, none, .bin .quo (.t 102) (.c (.int .u32 10000))⟩,
  ⟨some 12, none, .mov (.t 103)⟩]
abbrev c72_r18 : List Ins := [
  ⟨some 104, none, .mov (.t 13)⟩,
  ⟨some 105, none, .bin .quo (.t 104) (.c (.int .u32 100))⟩,
  ⟨some 106, none, .bin .mul (.t 105) (.c (.int .u32 2))⟩,
  ⟨some 107, none, .mov (.t 13)⟩,
  ⟨some 108, none, .bin .rem (.t 107) (.c (.int .u32 100))⟩,
  ⟨some 109, none, .bin .mul (.t 108) (.c (.int .u32 2))⟩,
  ⟨some 14, none, .mov (.t 106)⟩,
  ⟨some 15, none, .mov (.t 109)⟩]
abbrev c72_r19 : List Ins := [
  ⟨some 110, none, .mov (.t 0)⟩,
  ⟨some 111, none, .mov (.t 4)⟩,
  ⟨some 112, none, .bin .sub (.t 111) (.c (.int .i64 1))⟩,
  ⟨some 113, none, .mov (.t 0)⟩,
  ⟨some 114, none, .mov (.t 4)⟩,
  ⟨some 115, none, .bin .sub (.t 114) (.c (.int .i64 2))⟩,
  ⟨some 116, none, .mov (.t 15)⟩,
  ⟨some 117, none, .bin .add (.t 116) (.c (.int .u32 1))⟩,
  ⟨some 118, none, .idxS (.c (.str ⟨#[48, 48, 48, 49, 48, 50, 48, 51, 48, 52, 48, 53, 48, 54, 48, 55, 48, 56, 48, 57, 49, 48, 49, 49, 49, 50, 49, 51, 49, 52, 49, 53, 49, 54, 49, 55, 49, 56, 49, 57, 50, 48, 50, 49, 50, 50, 50, 51, 50, 52, 50, 53, 50, 54, 50, 55, 50, 56, 50, 57, 51, 48, 51, 49, 51, 50, 51, 51, 51, 52, 51, 53, 51, 54, 51, 55, 51, 56, 51, 57, 52, 48, 52, 49, 52, 50, 52, 51, 52, 52, 52, 53, 52, 54, 52, 55, 52, 56, 52, 57, 53, 48, 53, 49, 53, 50, 53, 51, 53, 52, 53, 53, 53, 54, 53, 55, 53, 56, 53, 57, 54, 48, 54, 49, 54, 50, 54, 51, 54, 52, 54, 53, 54, 54, 54, 55, 54, 56, 54, 57, 55, 48, 55, 49, 55, 50, 55, 51, 55, 52, 55, 53, 55, 54, 55, 55, 55, 56, 55, 57, 56, 48, 56, 49, 56, 50, 56, 51, 56, 52, 56, 53, 56, 54, 56, 55, 56, 56, 56, 57, 57, 48, 57, 49, 57, 50, 57, 51, 57, 52, 57, 53, 57, 54, 57, 55, 57, 56, 57, 57]⟩)) (.t 117)⟩,
  ⟨some 119, none, .mov (.t 15)⟩,
  ⟨some 120, none, .idxS (.c (.str ⟨#[48, 48, 48, 49, 48, 50, 48, 51, 48, 52, 48, 53, 48, 54, 48, 55, 48, 56, 48, 57, 49, 48, 49, 49, 49, 50, 49, 51, 49, 52, 49, 53, 49, 54, 49, 55, 49, 56, 49, 57, 50, 48, 50, 49, 50, 50, 50, 51, 50, 52, 50, 53, 50, 54, 50, 55, 50, 56, 50, 57, 51, 48, 51, 49, 51, 50, 51, 51, 51, 52, 51, 53, 51, 54, 51, 55, 51, 56, 51, 57, 52, 48, 52, 49, 52, 50, 52, 51, 52, 52, 52, 53, 52, 54, 52, 55, 52, 56, 52, 57, 53, 48, 53, 49, 53, 50, 53, 51, 53, 52, 53, 53, 53, 54, 53, 55, 53, 56, 53, 57, 54, 48, 54, 49, 54, 50, 54, 51, 54, 52, 54, 53, 54, 54, 54, 55, 54, 56, 54, 57, 55, 48, 55, 49, 55, 50, 55, 51, 55, 52, 55, 53, 55, 54, 55, 55, 55, 56, 55, 57, 56, 48, 56, 49, 56, 50, 56, 51, 56, 52, 56, 53, 56, 54, 56, 55, 56, 56, 56, 57, 57, 48, 57, 49, 57, 50, 57, 51, 57, 52, 57, 53, 57, 54, 57, 55, 57, 56, 57, 57]⟩)) (.t 119)⟩,
  ⟨some 121, none, .iaddr 1 (.t 110) (.t 112)⟩,
  ⟨none, none, .store 1 (.t 121) (.t 118)⟩,
  ⟨some 122, none, .iaddr 1 (.t 113) (.t 115)⟩,
  ⟨none, none, .store 1 (.t 122) (.t 120)⟩]
def c72_a19 : List (List Nat) := [[], [], [1], [], [], [4], [], [6], [7], [], [9], [0, 2, 0, 1, 2, 6, 7, 8], [11, 8, 0, 1, 2, 6, 7, 8], [3, 5, 0, 1, 2, 3, 4, 5, 6, 7, 8, 9, 10, 11, 12], [13, 10, 12, 0, 1, 2, 3, 4, 5, 6, 7, 8, 9, 10, 11, 12]]
abbrev c72_m19 : List Am.Mark := [⟨false, 0, 0⟩, ⟨false, 0, 0⟩, ⟨false, 0, 0⟩, ⟨false, 0, 1⟩, ⟨false, 0, 1⟩, ⟨false, 0, 1⟩, ⟨false, 0, 0⟩, ⟨false, 0, 0⟩, ⟨false, 0, 0⟩, ⟨false, 0, 1⟩, ⟨false, 0, 1⟩, ⟨false, 0, 0⟩, ⟨true, 0, 1⟩, ⟨false, 1, 1⟩, ⟨true, 1, 2⟩]
theorem c72_d19 : drawFine c72_r19 c72_a19 c72_m19 = true := by decide +kernel
abbrev c72_r20 : List Ins := [
  ⟨some 123, none, .mov (.t 0)⟩,
  ⟨some 124, none, .mov (.t 4)⟩,
  ⟨some 125, none, .bin .sub (.t 124) (.c (.int .i64 3))⟩,
  ⟨some 126, none, .mov (.t 0)⟩,
  ⟨some 127, none, .mov (.t 4)⟩,
  ⟨some 128, none, .bin .sub (.t 127) (.c (.int .i64 4))⟩,
  ⟨some 129, none, .mov (.t 14)⟩,
  ⟨some 130, none, .bin .add (.t 129) (.c (.int .u32 1))⟩,
  ⟨some 131, none, .idxS (.c (.str ⟨#[48, 48, 48, 49, 48, 50, 48, 51, 48, 52, 48, 53, 48, 54, 48, 55, 48, 56, 48, 57, 49, 48, 49, 49, 49, 50, 49, 51, 49, 52, 49, 53, 49, 54, 49, 55, 49, 56, 49, 57, 50, 48, 50, 49, 50, 50, 50, 51, 50, 52, 50, 53, 50, 54, 50, 55, 50, 56, 50, 57, 51, 48, 51, 49, 51, 50, 51, 51, 51, 52, 51, 53, 51, 54, 51, 55, 51, 56, 51, 57, 52, 48, 52, 49, 52, 50, 52, 51, 52, 52, 52, 53, 52, 54, 52, 55, 52, 56, 52, 57, 53, 48, 53, 49, 53, 50, 53, 51, 53, 52, 53, 53, 53, 54, 53, 55, 53, 56, 53, 57, 54, 48, 54, 49, 54, 50, 54, 51, 54, 52, 54, 53, 54, 54, 54, 55, 54, 56, 54, 57, 55, 48, 55, 49, 55, 50, 55, 51, 55, 52, 55, 53, 55, 54, 55, 55, 55, 56, 55, 57, 56, 48, 56, 49, 56, 50, 56, 51, 56, 52, 56, 53, 56, 54, 56, 55, 56, 56, 56, 57, 57, 48, 57, 49, 57, 50, 57, 51, 57, 52, 57, 53, 57, 54, 57, 55, 57, 56, 57, 57]⟩)) (.t 130)⟩,
  ⟨some 132, none, .mov (.t 14)⟩,
  ⟨some 133, none, .idxS (.c (.str ⟨#[48, 48, 48, 49, 48, 50, 48, 51, 48, 52, 48, 53, 48, 54, 48, 55, 48, 56, 48, 57, 49, 48, 49, 49, 49, 50, 49, 51, 49, 52, 49, 53, 49, 54, 49, 55, 49, 56, 49, 57, 50, 48, 50, 49, 50, 50, 50, 51, 50, 52, 50, 53, 50, 54, 50, 55, 50, 56, 50, 57, 51, 48, 51, 49, 51, 50, 51, 51, 51, 52, 51, 53, 51, 54, 51, 55, 51, 56, 51, 57, 52, 48, 52, 49, 52, 50, 52, 51, 52, 52, 52, 53, 52, 54, 52, 55, 52, 56, 52, 57, 53, 48, 53, 49, 53, 50, 53, 51, 53, 52, 53, 53, 53, 54, 53, 55, 53, 56, 53, 57, 54, 48, 54, 49, 54, 50, 54, 51, 54, 52, 54, 53, 54, 54, 54, 55, 54, 56, 54, 57, 55, 48, 55, 49, 55, 50, 55, 51, 55, 52, 55, 53, 55, 54, 55, 55, 55, 56, 55, 57, 56, 48, 56, 49, 56, 50, 56, 51, 56, 52, 56, 53, 56, 54, 56, 55, 56, 56, 56, 57, 57, 48, 57, 49, 57, 50, 57, 51, 57, 52, 57, 53, 57, 54, 57, 55, 57, 56, 57, 57]⟩)) (.t 132)⟩,
  ⟨some 134, none, .iaddr 1 (.t 123) (.t 125)⟩,
  ⟨none, none, .store 1 (.t 134) (.t 131)⟩,
  ⟨some 135, none, .iaddr 1 (.t 126) (.t 128)⟩,
  ⟨none, none, .store 1 (.t 135) (.t 133)⟩]
def c72_a20 : List (List Nat) := [[], [], [1], [], [], [4], [], [6], [7], [], [9], [0, 2, 0, 1, 2, 6, 7, 8], [11, 8, 0, 1, 2, 6, 7, 8], [3, 5, 0, 1, 2, 3, 4, 5, 6, 7, 8, 9, 10, 11, 12], [13, 10, 12, 0, 1, 2, 3, 4, 5, 6, 7, 8, 9, 10, 11, 12]]
abbrev c72_m20 : List Am.Mark := [⟨false, 0, 0⟩, ⟨false, 0, 0⟩, ⟨false, 0, 0⟩, ⟨false, 0, 1⟩, ⟨false, 0, 1⟩, ⟨false, 0, 1⟩, ⟨false, 0, 0⟩, ⟨false, 0, 0⟩, ⟨false, 0, 0⟩, ⟨false, 0, 1⟩, ⟨false, 0, 1⟩, ⟨false, 0, 0⟩, ⟨true, 0, 1⟩, ⟨false, 1, 1⟩, ⟨true, 1, 2⟩]
theorem c72_d20 : drawFine c72_r20 c72_a20 c72_m20 = true := by decide +kernel
abbrev c72_r21 : List Ins := [
  ⟨some 136, none, .mov (.t 4)⟩,
  ⟨some 137, none, .bin .sub (.t 136) (.c (.int .i64 4))⟩,
  ⟨some 4, none, .mov (.t 137)⟩]
abbrev c72_r22 : List Ins := [
  ⟨some 138, none, .mov (.t 4)⟩,
  ⟨some 139, none, .bin .geq (.t 138) (.c (.int .i64 2))⟩]
abbrev c72_r23 : List Ins := [
  ⟨some 140, none, .mov (.t 12)⟩,
  ⟨some 141, none, .bin .rem (.t 140) (.c (.int .u32 100))⟩,
  ⟨some 142, none, .bin .mul (.t 141) (.c (.int .u32 2))⟩,
  ⟨some 16, none, .mov (.t 142)⟩]
abbrev c72_r24 : List Ins := [
  ⟨some 143, none, .mov (.t 12)⟩,
  ⟨some 144, none, .bin .quo (.t 143) (.c (.int .u32 100))⟩,
  ⟨some 12, none, .mov (.t 144)⟩]
abbrev c72_r25 : List Ins := [
  ⟨some 145, none, .mov (.t 0)⟩,
  ⟨some 146, none, .mov (.t 4)⟩,
  ⟨some 147, none, .bin .sub (.t 146) (.c (.int .i64 1))⟩,
  ⟨some 148, none, .mov (.t 0)⟩,
  ⟨some 149, none, .mov (.t 4)⟩,
  ⟨some 150, none, .bin .sub (.t 149) (.c (.int .i64 2))⟩,
  ⟨some 151, none, .mov (.t 16)⟩,
  ⟨some 152, none, .bin .add (.t 151) (.c (.int .u32 1))⟩,
  ⟨some 153, none, .idxS (.c (.str ⟨#[48, 48, 48, 49, 48, 50, 48, 51, 48, 52, 48, 53, 48, 54, 48, 55, 48, 56, 48, 57, 49, 48, 49, 49, 49, 50, 49, 51, 49, 52, 49, 53, 49, 54, 49, 55, 49, 56, 49, 57, 50, 48, 50, 49, 50, 50, 50, 51, 50, 52, 50, 53, 50, 54, 50, 55, 50, 56, 50, 57, 51, 48, 51, 49, 51, 50, 51, 51, 51, 52, 51, 53, 51, 54, 51, 55, 51, 56, 51, 57, 52, 48, 52, 49, 52, 50, 52, 51, 52, 52, 52, 53, 52, 54, 52, 55, 52, 56, 52, 57, 53, 48, 53, 49, 53, 50, 53, 51, 53, 52, 53, 53, 53, 54, 53, 55, 53, 56, 53, 57, 54, 48, 54, 49, 54, 50, 54, 51, 54, 52, 54, 53, 54, 54, 54, 55, 54, 56, 54, 57, 55, 48, 55, 49, 55, 50, 55, 51, 55, 52, 55, 53, 55, 54, 55, 55, 55, 56, 55, 57, 56, 48, 56, 49, 56, 50, 56, 51, 56, 52, 56, 53, 56, 54, 56, 55, 56, 56, 56, 57, 57, 48, 57, 49, 57, 50, 57, 51, 57, 52, 57, 53, 57, 54, 57, 55, 57, 56, 57, 57]⟩)) (.t 152)⟩,
  ⟨some 154, none, .mov (.t 16)⟩,
  ⟨some 155, none, .idxS (.c (.str ⟨#[48, 48, 48, 49, 48, 50, 48, 51, 48, 52, 48, 53, 48, 54, 48, 55, 48, 56, 48, 57, 49, 48, 49, 49, 49, 50, 49, 51, 49, 52, 49, 53, 49, 54, 49, 55, 49, 56, 49, 57, 50, 48, 50, 49, 50, 50, 50, 51, 50, 52, 50, 53, 50, 54, 50, 55, 50, 56, 50, 57, 51, 48, 51, 49, 51, 50, 51, 51, 51, 52, 51, 53, 51, 54, 51, 55, 51, 56, 51, 57, 52, 48, 52, 49, 52, 50, 52, 51, 52, 52, 52, 53, 52, 54, 52, 55, 52, 56, 52, 57, 53, 48, 53, 49, 53, 50, 53, 51, 53, 52, 53, 53, 53, 54, 53, 55, 53, 56, 53, 57, 54, 48, 54, 49, 54, 50, 54, 51, 54, 52, 54, 53, 54, 54, 54, 55, 54, 56, 54, 57, 55, 48, 55, 49, 55, 50, 55, 51, 55, 52, 55, 53, 55, 54, 55, 55, 55, 56, 55, 57, 56, 48, 56, 49, 56, 50, 56, 51, 56, 52, 56, 53, 56, 54, 56, 55, 56, 56, 56, 57, 57, 48, 57, 49, 57, 50, 57, 51, 57, 52, 57, 53, 57, 54, 57, 55, 57, 56, 57, 57]⟩)) (.t 154)⟩,
  ⟨some 156, none, .iaddr 1 (.t 145) (.t 147)⟩,
  ⟨none, none, .store 1 (.t 156) (.t 153)⟩,
  ⟨some 157, none, .iaddr 1 (.t 148) (.t 150)⟩,
  ⟨none, none, .store 1 (.t 157) (.t 155)⟩]
def c72_a25 : List (List Nat) := [[], [], [1], [], [], [4], [], [6], [7], [], [9], [0, 2, 0, 1, 2, 6, 7, 8], [11, 8, 0, 1, 2, 6, 7, 8], [3, 5, 0, 1, 2, 3, 4, 5, 6, 7, 8, 9, 10, 11, 12], [13, 10, 12, 0, 1, 2, 3, 4, 5, 6, 7, 8, 9, 10, 11, 12]]
abbrev c72_m25 : List Am.Mark := [⟨false, 0, 0⟩, ⟨false, 0, 0⟩, ⟨false, 0, 0⟩, ⟨false, 0, 1⟩, ⟨false, 0, 1⟩, ⟨false, 0, 1⟩, ⟨false, 0, 0⟩, ⟨false, 0, 0⟩, ⟨false, 0, 0⟩, ⟨false, 0, 1⟩, ⟨false, 0, 1⟩, ⟨false, 0, 0⟩, ⟨true, 0, 1⟩, ⟨false, 1, 1⟩, ⟨true, 1, 2⟩]
theorem c72_d25 : drawFine c72_r25 c72_a25 c72_m25 = true := by decide +kernel
abbrev c72_r26 : List Ins := [
  ⟨some 158, none, .mov (.t 4)⟩,
  ⟨some 159, none, .bin .sub (.t 158) (.c (.int .i64 2))⟩,
  ⟨some 4, none, .mov (.t 159)⟩]
abbrev c72_r27 : List Ins := [
  ⟨some 160, none, .mov (.t 4)⟩,
  ⟨some 161, none, .bin .gtr (.t 160) (.c (.int .i64 0))⟩]
abbrev c72_r28 : List Ins := [
  ⟨some 162, none, .mov (.t 0)⟩,
  ⟨some 163, none, .mov (.t 12)⟩,
  ⟨some 164, none, .bin .add (.c (.int .u32 48)) (.t 163)⟩,
  ⟨some 165, none, .conv .u8 (.t 164)⟩,
  ⟨some 166, none, .iaddr 1 (.t 162) (.c (.int .i64 0))⟩,
  ⟨none, none, .store 1 (.t 166) (.t 165)⟩]
abbrev c72 : IR := .seq (.reg c72_r1) (.seq (.blk 0 (.loop c72_l13)) (.seq (.reg c72_r14) (.seq (.seq (.reg c72_r15) (.cond (.t 99) (.seq (.reg c72_r16) (.seq (.reg c72_r17) (.seq (.reg c72_r18) (.seq (.dreg c72_r19 c72_a19) (.seq (.dreg c72_r20 c72_a20) (.reg c72_r21)))))) (.skip))) (.seq (.seq (.reg c72_r22) (.cond (.t 139) (.seq (.reg c72_r23) (.seq (.reg c72_r24) (.seq (.dreg c72_r25 c72_a25) (.reg c72_r26)))) (.skip))) (.seq (.reg c72_r27) (.cond (.t 161) (.reg c72_r28) (.skip)))))))
abbrev F72 : FnA := ⟨167, c72, []⟩
theorem ok72 : cFn Tryd.prog 72 = some F72 := by kernel_rfl
theorem hb72 : HasBody Tryd.prog 72 := ⟨_, Tryd.func72, by kernel_rfl, by kernel_rfl⟩
/-! internal/strconv.formatBits -/
-- f73: not compiled
/-! strings.Builder.Grow -/
abbrev c74_r1 : List Ins := [
  ⟨some 4, none, .mov (.t 0)⟩,
  ⟨some 5, none, .call (.c (.fn 82 [] [])) [.t 4]⟩]
abbrev c74_r2 : List Ins := [
  ⟨some 6, none, .mov (.t 1)⟩,
  ⟨some 7, none, .bin .lss (.t 6) (.c (.int .i64 0))⟩]
abbrev c74_r3 : List Ins := [
  ⟨some 8, none, .copy 0 (.c .undef) (.c .undef)⟩,
  ⟨none, none, .copy 0 (.c .undef) (.c .undef)⟩]
abbrev c74_r4 : List Ins := [
  ⟨some 9, none, .mov (.t 0)⟩,
  ⟨some 10, none, .nilck (.t 9)⟩,
  ⟨some 11, none, .faddr 1 (.t 10)⟩,
  ⟨some 12, none, .load 1 false (.t 11)⟩,
  ⟨some 13, none, .cap (.t 12)⟩,
  ⟨some 14, none, .mov (.t 0)⟩,
  ⟨some 15, none, .nilck (.t 14)⟩,
  ⟨some 16, none, .faddr 1 (.t 15)⟩,
  ⟨some 17, none, .load 1 false (.t 16)⟩,
  ⟨some 18, none, .len (.t 17)⟩,
  ⟨some 19, none, .bin .sub (.t 13) (.t 18)⟩,
  ⟨some 20, none, .mov (.t 1)⟩,
  ⟨some 21, none, .bin .lss (.t 19) (.t 20)⟩]
def c74_a4 : List (List Nat) := [[], [0], [1], [2], [3], [], [5], [6], [7], [8], [4, 9], [], [10, 11]]
abbrev c74_m4 : List Am.Mark := [⟨false, 0, 0⟩, ⟨false, 0, 0⟩, ⟨false, 0, 0⟩, ⟨false, 0, 0⟩, ⟨false, 0, 0⟩, ⟨false, 0, 0⟩, ⟨false, 0, 0⟩, ⟨false, 0, 0⟩, ⟨false, 0, 0⟩, ⟨false, 0, 0⟩, ⟨false, 0, 0⟩, ⟨false, 0, 0⟩, ⟨false, 0, 0⟩]
theorem c74_d4 : drawFine c74_r4 c74_a4 c74_m4 = true := by decide +kernel
abbrev c74_r5 : List Ins := [
  ⟨some 22, none, .mov (.t 0)⟩,
  ⟨some 23, none, .mov (.t 1)⟩,
  ⟨some 24, none, .call (.c (.fn 83 [] [])) [.t 22, .t 23]⟩]
abbrev c74 : IR := .seq (.reg c74_r1) (.seq (.seq (.reg c74_r2) (.cond (.t 7) (.reg c74_r3) (.skip))) (.seq (.dreg c74_r4 c74_a4) (.cond (.t 21) (.reg c74_r5) (.skip))))
abbrev F74 : FnA := ⟨25, c74, []⟩
theorem ok74 : cFn Tryd.prog 74 = some F74 := by kernel_rfl
theorem hb74 : HasBody Tryd.prog 74 := ⟨_, Tryd.func74, by kernel_rfl, by kernel_rfl⟩
/-! strings.Builder.WriteString -/
abbrev c75_r1 : List Ins := [
  ⟨some 4, none, .mov (.c (.int .i64 0))⟩,
  ⟨some 5, none, .mov (.c .niface)⟩]
abbrev c75_r2 : List Ins := [
  ⟨some 6, none, .mov (.t 0)⟩,
  ⟨some 7, none, .call (.c (.fn 82 [] [])) [.t 6]⟩]
abbrev c75_r3 : List Ins := [
  ⟨some 8, none, .mov (.t 0)⟩,
  ⟨some 9, none, .mov (.t 0)⟩,
  ⟨some 10, none, .nilck (.t 9)⟩,
  ⟨some 11, none, .faddr 1 (.t 10)⟩,
  ⟨some 12, none, .load 1 false (.t 11)⟩,
  ⟨some 13, none, .mov (.t 1)⟩,
  ⟨some 14, none, .append 1 1 (.t 12) (.t 13)⟩,
  ⟨some 15, none, .nilck (.t 8)⟩,
  ⟨some 16, none, .faddr 1 (.t 15)⟩,
  ⟨none, none, .store 1 (.t 16) (.t 14)⟩]
abbrev c75_r4 : List Ins := [
  ⟨some 17, none, .mov (.t 1)⟩,
  ⟨some 18, none, .lenS (.t 17)⟩,
  ⟨some 4, none, .mov (.t 18)⟩,
  ⟨some 5, none, .mov (.c .niface)⟩]
abbrev c75 : IR := .seq (.reg c75_r1) (.seq (.reg c75_r2) (.seq (.reg c75_r3) (.seq (.reg c75_r4) (.ret))))
abbrev F75 : FnA := ⟨19, c75, [.t 4, .t 5]⟩
theorem ok75 : cFn Tryd.prog 75 = some F75 := by kernel_rfl
theorem hb75 : HasBody Tryd.prog 75 := ⟨_, Tryd.func75, by kernel_rfl, by kernel_rfl⟩
/-! strings.Builder.String -/
-- f76: not compiled
/-! internal/strconv.log10Pow2 -/
abbrev c77_r1 : List Ins := [
  ⟨some 2, none, .mov (.c (.int .i64 0))⟩]
abbrev c77_r2 : List Ins := [
  ⟨some 3, none, .mov (.t 0)⟩,
  ⟨some 4, none, .bin .mul (.t 3) (.c (.int .i64 78913))⟩,
  ⟨some 5, none, .bin .shr (.t 4) (.c (.int .u64 18))⟩,
  ⟨some 2, none, .mov (.t 5)⟩]
abbrev c77 : IR := .seq (.reg c77_r1) (.seq (.reg c77_r2) (.ret))
abbrev F77 : FnA := ⟨6, c77, [.t 2]⟩
theorem ok77 : cFn Tryd.prog 77 = some F77 := by kernel_rfl
theorem hb77 : HasBody Tryd.prog 77 := ⟨_, Tryd.func77, by kernel_rfl, by kernel_rfl⟩
/-! math/bits.Len64 -/
abbrev c78_r1 : List Ins := [
  ⟨some 2, none, .mov (.c (.int .i64 0))⟩]
abbrev c78_r2 : List Ins := [
  ⟨some 3, none, .mov (.t 0)⟩,
  ⟨some 4, none, .bin .geq (.t 3) (.c (.int .u64 4294967296))⟩]
abbrev c78_r3 : List Ins := [
  ⟨some 5, none, .mov (.t 0)⟩,
  ⟨some 6, none, .bin .shr (.t 5) (.c (.int .u64 32))⟩,
  ⟨some 0, none, .mov (.t 6)⟩]
abbrev c78_r4 : List Ins := [
  ⟨some 2, none, .mov (.c (.int .i64 32))⟩]
abbrev c78_r5 : List Ins := [
  ⟨some 7, none, .mov (.t 0)⟩,
  ⟨some 8, none, .bin .geq (.t 7) (.c (.int .u64 65536))⟩]
abbrev c78_r6 : List Ins := [
  ⟨some 9, none, .mov (.t 0)⟩,
  ⟨some 10, none, .bin .shr (.t 9) (.c (.int .u64 16))⟩,
  ⟨some 0, none, .mov (.t 10)⟩]
abbrev c78_r7 : List Ins := [
  ⟨some 11, none, .mov (.t 2)⟩,
  ⟨some 12, none, .bin .add (.t 11) (.c (.int .i64 16))⟩,
  ⟨some 2, none, .mov (.t 12)⟩]
abbrev c78_r8 : List Ins := [
  ⟨some 13, none, .mov (.t 0)⟩,
  ⟨some 14, none, .bin .geq (.t 13) (.c (.int .u64 256))⟩]
abbrev c78_r9 : List Ins := [
  ⟨some 15, none, .mov (.t 0)⟩,
  ⟨some 16, none, .bin .shr (.t 15) (.c (.int .u64 8))⟩,
  ⟨some 0, none, .mov (.t 16)⟩]
abbrev c78_r10 : List Ins := [
  ⟨some 17, none, .mov (.t 2)⟩,
  ⟨some 18, none, .bin .add (.t 17) (.c (.int .i64 8))⟩,
  ⟨some 2, none, .mov (.t 18)⟩]
abbrev c78_r11 : List Ins := [
  ⟨some 19, none, .mov (.t 2)⟩,
  ⟨some 20, none, .mov (.t 0)⟩,
  ⟨some 21, none, .conv .u8 (.t 20)⟩,
  ⟨some 22, none, .idxS (.c (.str ⟨#[0, 1, 2, 2, 3, 3, 3, 3, 4, 4, 4, 4, 4, 4, 4, 4, 5, 5, 5, 5, 5, 5, 5, 5, 5, 5, 5, 5, 5, 5, 5, 5, 6, 6, 6, 6, 6, 6, 6, 6, 6, 6, 6, 6, 6, 6, 6, 6, 6, 6, 6, 6, 6, 6, 6, 6, 6, 6, 6, 6, 6, 6, 6, 6, 7, 7, 7, 7, 7, 7, 7, 7, 7, 7, 7, 7, 7, 7, 7, 7, 7, 7, 7, 7, 7, 7, 7, 7, 7, 7, 7, 7, 7, 7, 7, 7, 7, 7, 7, 7, 7, 7, 7, 7, 7, 7, 7, 7, 7, 7, 7, 7, 7, 7, 7, 7, 7, 7, 7, 7, 7, 7, 7, 7, 7, 7, 7, 7, 8, 8, 8, 8, 8, 8, 8, 8, 8, 8, 8, 8, 8, 8, 8, 8, 8, 8, 8, 8, 8, 8, 8, 8, 8, 8, 8, 8, 8, 8, 8, 8, 8, 8, 8, 8, 8, 8, 8, 8, 8, 8, 8, 8, 8, 8, 8, 8, 8, 8, 8, 8, 8, 8, 8, 8, 8, 8, 8, 8, 8, 8, 8, 8, 8, 8, 8, 8, 8, 8, 8, 8, 8, 8, 8, 8, 8, 8, 8, 8, 8, 8, 8, 8, 8, 8, 8, 8, 8, 8, 8, 8, 8, 8, 8, 8, 8, 8, 8, 8, 8, 8, 8, 8, 8, 8, 8, 8, 8, 8, 8, 8, 8, 8, 8, 8, 8, 8, 8, 8, 8, 8, 8, 8, 8, 8, 8, 8]⟩)) (.t 21)⟩,
  ⟨some 23, none, .conv .i64 (.t 22)⟩,
  ⟨some 24, none, .bin .add (.t 19) (.t 23)⟩,
  ⟨some 2, none, .mov (.t 24)⟩]
abbrev c78 : IR := .seq (.reg c78_r1) (.seq (.seq (.reg c78_r2) (.cond (.t 4) (.seq (.reg c78_r3) (.reg c78_r4)) (.skip))) (.seq (.seq (.reg c78_r5) (.cond (.t 8) (.seq (.reg c78_r6) (.reg c78_r7)) (.skip))) (.seq (.seq (.reg c78_r8) (.cond (.t 14) (.seq (.reg c78_r9) (.reg c78_r10)) (.skip))) (.seq (.reg c78_r11) (.ret)))))
abbrev F78 : FnA := ⟨25, c78, [.t 2]⟩
theorem ok78 : cFn Tryd.prog 78 = some F78 := by kernel_rfl
theorem hb78 : HasBody Tryd.prog 78 := ⟨_, Tryd.func78, by kernel_rfl, by kernel_rfl⟩
/-! internal/strconv.bool2:int -/
abbrev c79_r1 : List Ins := [
  ⟨some 2, none, .mov (.c (.int .i64 0))⟩]
abbrev c79_r2 : List Ins := [
  ⟨some 3, none, .mov (.t 0)⟩]
abbrev c79_r3 : List Ins := [
  ⟨some 2, none, .mov (.c (.int .i64 1))⟩]
abbrev c79_r4 : List Ins := [
  ⟨some 2, none, .mov (.c (.int .i64 0))⟩]
abbrev c79 : IR := .seq (.reg c79_r1) (.seq (.seq (.reg c79_r2) (.cond (.t 3) (.seq (.reg c79_r3) (.ret)) (.skip))) (.seq (.reg c79_r4) (.ret)))
abbrev F79 : FnA := ⟨4, c79, [.t 2]⟩
theorem ok79 : cFn Tryd.prog 79 = some F79 := by kernel_rfl
theorem hb79 : HasBody Tryd.prog 79 := ⟨_, Tryd.func79, by kernel_rfl, by kernel_rfl⟩
/-! internal/strconv.isPowerOfTwo -/
abbrev c80_r1 : List Ins := [
  ⟨some 2, none, .mov (.c (.bool false))⟩]
abbrev c80_r2 : List Ins := [
  ⟨some 3, none, .mov (.t 0)⟩,
  ⟨some 4, none, .mov (.t 0)⟩,
  ⟨some 5, none, .bin .sub (.t 4) (.c (.int .i64 1))⟩,
  ⟨some 6, none, .bin .and (.t 3) (.t 5)⟩,
  ⟨some 7, none, .bin .eql (.t 6) (.c (.int .i64 0))⟩,
  ⟨some 2, none, .mov (.t 7)⟩]
abbrev c80 : IR := .seq (.reg c80_r1) (.seq (.reg c80_r2) (.ret))
abbrev F80 : FnA := ⟨8, c80, [.t 2]⟩
theorem ok80 : cFn Tryd.prog 80 = some F80 := by kernel_rfl
theorem hb80 : HasBody Tryd.prog 80 := ⟨_, Tryd.func80, by kernel_rfl, by kernel_rfl⟩
/-! math/bits.TrailingZeros -/
abbrev c81_r1 : List Ins := [
  ⟨some 2, none, .mov (.c (.int .i64 0))⟩]
abbrev c81_r2 : List Ins := [
  ⟨some 3, none, .mov (.t 0)⟩,
  ⟨some 4, none, .conv .u32 (.t 3)⟩,
  ⟨some 5, none, .call (.c (.fn 84 [] [])) [.t 4]⟩,
  ⟨some 2, none, .mov (.t 5)⟩]
abbrev c81_r3 : List Ins := [
  ⟨some 6, none, .mov (.t 0)⟩,
  ⟨some 7, none, .call (.c (.fn 85 [] [])) [.t 6]⟩,
  ⟨some 2, none, .mov (.t 7)⟩]
abbrev c81 : IR := .seq (.reg c81_r1) (.seq (.cond (.c (.bool false)) (.seq (.reg c81_r2) (.ret)) (.skip)) (.seq (.reg c81_r3) (.ret)))
abbrev F81 : FnA := ⟨8, c81, [.t 2]⟩
theorem ok81 : cFn Tryd.prog 81 = some F81 := by kernel_rfl
theorem hb81 : HasBody Tryd.prog 81 := ⟨_, Tryd.func81, by kernel_rfl, by kernel_rfl⟩
/-! strings.Builder.copyCheck -/
-- f82: not compiled
/-! strings.Builder.grow -/
-- f83: not compiled
/-! math/bits.TrailingZeros32 -/
-- f84: not compiled
/-! math/bits.TrailingZeros64 -/
-- f85: not compiled
/-! internal/abi.NoEscape -/
-- f86: not compiled
/-! internal/bytealg.MakeNoZero -/
-- f87: not compiled


end Go.Proofs
