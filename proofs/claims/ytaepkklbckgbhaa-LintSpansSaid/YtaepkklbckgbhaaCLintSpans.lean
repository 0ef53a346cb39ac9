/- The code of the functions that the statement reaches, as the abstract machine reads it. -/
import Derived.Test.YtaepkklbckgbhaaK4
import Derived.Test.YtaepkklbckgbhaaProg
namespace Go.Proofs
open Go Go.RowKit Go.Am

/-! law04.KeysTwo -/
abbrev c4_r1 : List Ins := [
  ⟨some 4, none, .mov (.c (.bool false))⟩]
abbrev c4_r2 : List Ins := [
  ⟨some 12, none, .call (.c (.fn 11 [] [])) []⟩,
  ⟨some 13, none, .un .not (.t 12)⟩]
abbrev c4_r3 : List Ins := [
  ⟨some 4, none, .mov (.c (.bool false))⟩]
abbrev c4_r4 : List Ins := [
  ⟨some 14, none, .mov (.t 0)⟩,
  ⟨some 15, none, .len (.t 14)⟩,
  ⟨some 16, none, .bin .gtr (.t 15) (.c (.int .i64 40))⟩,
  ⟨some 17, none, .mov (.t 16)⟩,
  ⟨some 18, some (17, false), .mov (.t 1)⟩,
  ⟨some 19, some (17, false), .len (.t 18)⟩,
  ⟨some 20, some (17, false), .bin .gtr (.t 19) (.c (.int .i64 40))⟩,
  ⟨some 21, none, .pick (.t 17) (.c (.bool true)) (.t 20)⟩]
abbrev c4_r5 : List Ins := [
  ⟨some 4, none, .mov (.c (.bool true))⟩]
abbrev c4_r6 : List Ins := [
  ⟨some 22, none, .mov (.t 0)⟩,
  ⟨some 23, none, .call (.c (.fn 12 [] [])) [.t 22]⟩,
  ⟨some 24, none, .mov (.t 1)⟩,
  ⟨some 25, none, .call (.c (.fn 12 [] [])) [.t 24]⟩,
  ⟨some 5, none, .mov (.t 23)⟩,
  ⟨some 6, none, .mov (.t 25)⟩]
abbrev c4_r7 : List Ins := [
  ⟨some 7, none, .alloc (List.replicate 1000 (.bool false))⟩,
  ⟨some 8, none, .alloc (List.replicate 1000 (.bool false))⟩,
  ⟨some 9, none, .alloc (List.replicate 1000 (.bool false))⟩]
abbrev c4_r8 : List Ins := [
  ⟨some 10, none, .mov (.c (.bool true))⟩]
abbrev c4_r9 : List Ins := [
  ⟨some 11, none, .mov (.c (.int .i64 0))⟩]
abbrev c4_r10 : List Ins := [
  ⟨some 26, none, .mov (.t 11)⟩,
  ⟨some 27, none, .bin .lss (.t 26) (.c (.int .i64 1000))⟩]
abbrev c4_r11 : List Ins := [
  ⟨some 30, none, .mov (.t 11)⟩,
  ⟨some 31, none, .mov (.t 5)⟩,
  ⟨some 32, none, .mov (.t 11)⟩,
  ⟨some 33, none, .nilck (.t 31)⟩,
  ⟨some 34, none, .iaddrA 1000 1 (.t 33) (.t 32)⟩,
  ⟨some 35, none, .load 1 false (.t 34)⟩,
  ⟨some 36, none, .mov (.t 35)⟩,
  ⟨some 37, some (36, false), .mov (.t 6)⟩,
  ⟨some 38, some (36, false), .mov (.t 11)⟩,
  ⟨some 39, some (36, false), .nilck (.t 37)⟩,
  ⟨some 40, some (36, false), .iaddrA 1000 1 (.t 39) (.t 38)⟩,
  ⟨some 41, some (36, false), .load 1 false (.t 40)⟩,
  ⟨some 42, none, .pick (.t 36) (.c (.bool true)) (.t 41)⟩,
  ⟨some 43, none, .iaddrA 1000 1 (.t 7) (.t 30)⟩,
  ⟨none, none, .store 1 (.t 43) (.t 42)⟩]
abbrev c4_r12 : List Ins := [
  ⟨some 44, none, .mov (.t 11)⟩,
  ⟨some 45, none, .mov (.t 5)⟩,
  ⟨some 46, none, .mov (.t 11)⟩,
  ⟨some 47, none, .nilck (.t 45)⟩,
  ⟨some 48, none, .iaddrA 1000 1 (.t 47) (.t 46)⟩,
  ⟨some 49, none, .load 1 false (.t 48)⟩,
  ⟨some 50, none, .mov (.t 49)⟩,
  ⟨some 51, some (50, true), .mov (.t 6)⟩,
  ⟨some 52, some (50, true), .mov (.t 11)⟩,
  ⟨some 53, some (50, true), .nilck (.t 51)⟩,
  ⟨some 54, some (50, true), .iaddrA 1000 1 (.t 53) (.t 52)⟩,
  ⟨some 55, some (50, true), .load 1 false (.t 54)⟩,
  ⟨some 56, none, .pick (.t 50) (.t 55) (.c (.bool false))⟩,
  ⟨some 57, none, .iaddrA 1000 1 (.t 8) (.t 44)⟩,
  ⟨none, none, .store 1 (.t 57) (.t 56)⟩]
abbrev c4_r13 : List Ins := [
  ⟨some 58, none, .mov (.t 11)⟩,
  ⟨some 59, none, .mov (.t 5)⟩,
  ⟨some 60, none, .mov (.t 11)⟩,
  ⟨some 61, none, .nilck (.t 59)⟩,
  ⟨some 62, none, .iaddrA 1000 1 (.t 61) (.t 60)⟩,
  ⟨some 63, none, .load 1 false (.t 62)⟩,
  ⟨some 64, none, .mov (.t 63)⟩,
  ⟨some 65, some (64, true), .mov (.t 6)⟩,
  ⟨some 66, some (64, true), .mov (.t 11)⟩,
  ⟨some 67, some (64, true), .nilck (.t 65)⟩,
  ⟨some 68, some (64, true), .iaddrA 1000 1 (.t 67) (.t 66)⟩,
  ⟨some 69, some (64, true), .load 1 false (.t 68)⟩,
  ⟨some 70, some (64, true), .un .not (.t 69)⟩,
  ⟨some 71, none, .pick (.t 64) (.t 70) (.c (.bool false))⟩,
  ⟨some 72, none, .iaddrA 1000 1 (.t 9) (.t 58)⟩,
  ⟨none, none, .store 1 (.t 72) (.t 71)⟩]
abbrev c4_r14 : List Ins := [
  ⟨some 73, none, .mov (.t 10)⟩,
  ⟨some 74, none, .mov (.t 73)⟩,
  ⟨some 75, some (74, true), .mov (.t 11)⟩,
  ⟨some 76, some (74, true), .iaddrA 1000 1 (.t 9) (.t 75)⟩,
  ⟨some 77, some (74, true), .load 1 false (.t 76)⟩,
  ⟨some 78, some (74, true), .un .not (.t 77)⟩,
  ⟨some 79, none, .pick (.t 74) (.t 78) (.c (.bool false))⟩,
  ⟨some 10, none, .mov (.t 79)⟩]
abbrev c4_r15 : List Ins := [
  ⟨some 28, none, .mov (.t 11)⟩,
  ⟨some 29, none, .bin .add (.t 28) (.c (.int .i64 1))⟩,
  ⟨some 11, none, .mov (.t 29)⟩]
abbrev c4_l16 : IR := .seq (.seq (.reg c4_r10) (.cond (.t 27) (.skip) (.exit 0))) (.seq (.blk 1 (.seq (.reg c4_r11) (.seq (.reg c4_r12) (.seq (.reg c4_r13) (.reg c4_r14))))) (.reg c4_r15))
abbrev c4_r17 : List Ins := [
  ⟨some 80, none, .mov (.t 0)⟩,
  ⟨some 81, none, .mov (.t 1)⟩,
  ⟨some 82, none, .call (.c (.fn 16 [] [])) [.t 80, .t 81]⟩,
  ⟨some 83, none, .call (.c (.fn 17 [] [])) [.t 7]⟩,
  ⟨some 84, none, .call (.c (.fn 13 [] [])) [.t 82, .t 83]⟩,
  ⟨some 85, none, .mov (.t 84)⟩,
  ⟨some 86, some (85, true), .mov (.t 0)⟩,
  ⟨some 87, some (85, true), .mov (.t 1)⟩,
  ⟨some 88, some (85, true), .call (.c (.fn 18 [] [])) [.t 86, .t 87]⟩,
  ⟨some 89, some (85, true), .call (.c (.fn 17 [] [])) [.t 8]⟩,
  ⟨some 90, some (85, true), .call (.c (.fn 13 [] [])) [.t 88, .t 89]⟩,
  ⟨some 91, none, .pick (.t 85) (.t 90) (.c (.bool false))⟩,
  ⟨some 92, none, .mov (.t 91)⟩,
  ⟨some 93, some (92, true), .mov (.t 0)⟩,
  ⟨some 94, some (92, true), .mov (.t 1)⟩,
  ⟨some 95, some (92, true), .call (.c (.fn 19 [] [])) [.t 93, .t 94]⟩,
  ⟨some 96, some (92, true), .call (.c (.fn 17 [] [])) [.t 9]⟩,
  ⟨some 97, some (92, true), .call (.c (.fn 13 [] [])) [.t 95, .t 96]⟩,
  ⟨some 98, none, .pick (.t 92) (.t 97) (.c (.bool false))⟩,
  ⟨some 99, none, .mov (.t 98)⟩,
  ⟨some 100, some (99, true), .mov (.t 0)⟩,
  ⟨some 101, some (99, true), .mov (.t 1)⟩,
  ⟨some 102, some (99, true), .call (.c (.fn 20 [] [])) [.t 100, .t 101]⟩,
  ⟨some 103, some (99, true), .mov (.t 5)⟩,
  ⟨some 104, some (99, true), .mov (.t 6)⟩,
  ⟨some 105, some (99, true), .call (.c (.fn 21 [] [])) [.t 103, .t 104]⟩,
  ⟨some 106, some (99, true), .eq [.b] false false (.t 102) (.t 105)⟩,
  ⟨some 107, none, .pick (.t 99) (.t 106) (.c (.bool false))⟩,
  ⟨some 108, none, .mov (.t 107)⟩,
  ⟨some 109, some (108, true), .mov (.t 0)⟩,
  ⟨some 110, some (108, true), .mov (.t 1)⟩,
  ⟨some 111, some (108, true), .call (.c (.fn 22 [] [])) [.t 109, .t 110]⟩,
  ⟨some 112, some (108, true), .mov (.t 10)⟩,
  ⟨some 113, some (108, true), .eq [.b] false false (.t 111) (.t 112)⟩,
  ⟨some 114, none, .pick (.t 108) (.t 113) (.c (.bool false))⟩,
  ⟨some 4, none, .mov (.t 114)⟩]
abbrev c4 : IR := .seq (.reg c4_r1) (.seq (.seq (.reg c4_r2) (.cond (.t 13) (.seq (.reg c4_r3) (.ret)) (.skip))) (.seq (.seq (.reg c4_r4) (.cond (.t 21) (.seq (.reg c4_r5) (.ret)) (.skip))) (.seq (.reg c4_r6) (.seq (.reg c4_r7) (.seq (.reg c4_r8) (.seq (.seq (.reg c4_r9) (.blk 0 (.loop c4_l16))) (.seq (.reg c4_r17) (.ret))))))))
abbrev F4 : FnA := ⟨115, c4, [.t 4]⟩
theorem ok4 : cFn Try.prog 4 = some F4 := by kernel_rfl
theorem hb4 : HasBody Try.prog 4 := ⟨_, Try.func4, by kernel_rfl, by kernel_rfl⟩
/-! law04.KeysParts -/
abbrev c5_r1 : List Ins := [
  ⟨some 6, none, .mov (.c (.bool false))⟩]
abbrev c5_r2 : List Ins := [
  ⟨some 9, none, .call (.c (.fn 11 [] [])) []⟩,
  ⟨some 10, none, .un .not (.t 9)⟩]
abbrev c5_r3 : List Ins := [
  ⟨some 6, none, .mov (.c (.bool false))⟩]
abbrev c5_r4 : List Ins := [
  ⟨some 11, none, .mov (.t 0)⟩,
  ⟨some 12, none, .len (.t 11)⟩,
  ⟨some 13, none, .bin .gtr (.t 12) (.c (.int .i64 30))⟩,
  ⟨some 14, none, .mov (.t 13)⟩,
  ⟨some 15, some (14, false), .mov (.t 1)⟩,
  ⟨some 16, some (14, false), .len (.t 15)⟩,
  ⟨some 17, some (14, false), .bin .gtr (.t 16) (.c (.int .i64 30))⟩,
  ⟨some 18, none, .pick (.t 14) (.c (.bool true)) (.t 17)⟩,
  ⟨some 19, none, .mov (.t 18)⟩,
  ⟨some 20, some (19, false), .mov (.t 2)⟩,
  ⟨some 21, some (19, false), .len (.t 20)⟩,
  ⟨some 22, some (19, false), .bin .gtr (.t 21) (.c (.int .i64 30))⟩,
  ⟨some 23, none, .pick (.t 19) (.c (.bool true)) (.t 22)⟩]
abbrev c5_r5 : List Ins := [
  ⟨some 6, none, .mov (.c (.bool true))⟩]
abbrev c5_r6 : List Ins := [
  ⟨some 24, none, .mov (.t 0)⟩,
  ⟨some 25, none, .mov (.t 1)⟩,
  ⟨some 26, none, .call (.c (.fn 18 [] [])) [.t 24, .t 25]⟩,
  ⟨some 27, none, .mov (.t 0)⟩,
  ⟨some 28, none, .mov (.t 1)⟩,
  ⟨some 29, none, .call (.c (.fn 19 [] [])) [.t 27, .t 28]⟩,
  ⟨some 7, none, .mov (.t 26)⟩,
  ⟨some 8, none, .mov (.t 29)⟩]
abbrev c5_r7 : List Ins := [
  ⟨some 30, none, .mov (.t 7)⟩,
  ⟨some 31, none, .mov (.t 8)⟩,
  ⟨some 32, none, .call (.c (.fn 20 [] [])) [.t 30, .t 31]⟩,
  ⟨some 33, none, .mov (.t 32)⟩,
  ⟨some 34, some (33, false), .mov (.t 7)⟩,
  ⟨some 35, some (33, false), .mov (.t 8)⟩,
  ⟨some 36, some (33, false), .call (.c (.fn 16 [] [])) [.t 34, .t 35]⟩,
  ⟨some 37, some (33, false), .mov (.t 0)⟩,
  ⟨some 38, some (33, false), .call (.c (.fn 14 [] [])) [.t 37]⟩,
  ⟨some 39, some (33, false), .call (.c (.fn 13 [] [])) [.t 36, .t 38]⟩,
  ⟨some 40, some (33, false), .un .not (.t 39)⟩,
  ⟨some 41, none, .pick (.t 33) (.c (.bool true)) (.t 40)⟩,
  ⟨some 42, none, .mov (.t 41)⟩,
  ⟨some 43, some (42, false), .mov (.t 7)⟩,
  ⟨some 44, some (42, false), .call (.c (.fn 23 [] [])) [.t 43]⟩,
  ⟨some 45, some (42, false), .mov (.t 8)⟩,
  ⟨some 46, some (42, false), .call (.c (.fn 23 [] [])) [.t 45]⟩,
  ⟨some 47, some (42, false), .bin .add (.t 44) (.t 46)⟩,
  ⟨some 48, some (42, false), .mov (.t 0)⟩,
  ⟨some 49, some (42, false), .call (.c (.fn 23 [] [])) [.t 48]⟩,
  ⟨some 50, some (42, false), .bin .neq (.t 47) (.t 49)⟩,
  ⟨some 51, none, .pick (.t 42) (.c (.bool true)) (.t 50)⟩]
abbrev c5_r8 : List Ins := [
  ⟨some 6, none, .mov (.c (.bool false))⟩]
abbrev c5_r9 : List Ins := [
  ⟨some 52, none, .mov (.t 2)⟩,
  ⟨some 53, none, .mov (.t 7)⟩,
  ⟨some 54, none, .call (.c (.fn 22 [] [])) [.t 52, .t 53]⟩,
  ⟨some 55, none, .mov (.t 2)⟩,
  ⟨some 56, none, .mov (.t 0)⟩,
  ⟨some 57, none, .call (.c (.fn 22 [] [])) [.t 55, .t 56]⟩,
  ⟨some 58, none, .mov (.t 57)⟩,
  ⟨some 59, some (58, true), .mov (.t 2)⟩,
  ⟨some 60, some (58, true), .mov (.t 1)⟩,
  ⟨some 61, some (58, true), .call (.c (.fn 22 [] [])) [.t 59, .t 60]⟩,
  ⟨some 62, none, .pick (.t 58) (.t 61) (.c (.bool false))⟩,
  ⟨some 63, none, .eq [.b] false false (.t 54) (.t 62)⟩,
  ⟨some 64, none, .mov (.t 63)⟩,
  ⟨some 65, some (64, true), .mov (.t 0)⟩,
  ⟨some 66, some (64, true), .mov (.t 1)⟩,
  ⟨some 67, some (64, true), .call (.c (.fn 20 [] [])) [.t 65, .t 66]⟩,
  ⟨some 68, some (64, true), .mov (.t 7)⟩,
  ⟨some 69, some (64, true), .len (.t 68)⟩,
  ⟨some 70, some (64, true), .bin .gtr (.t 69) (.c (.int .i64 0))⟩,
  ⟨some 71, some (64, true), .eq [.b] false false (.t 67) (.t 70)⟩,
  ⟨some 72, none, .pick (.t 64) (.t 71) (.c (.bool false))⟩,
  ⟨some 6, none, .mov (.t 72)⟩]
abbrev c5 : IR := .seq (.reg c5_r1) (.seq (.seq (.reg c5_r2) (.cond (.t 10) (.seq (.reg c5_r3) (.ret)) (.skip))) (.seq (.seq (.reg c5_r4) (.cond (.t 23) (.seq (.reg c5_r5) (.ret)) (.skip))) (.seq (.reg c5_r6) (.seq (.seq (.reg c5_r7) (.cond (.t 51) (.seq (.reg c5_r8) (.ret)) (.skip))) (.seq (.reg c5_r9) (.ret))))))
abbrev F5 : FnA := ⟨73, c5, [.t 6]⟩
theorem ok5 : cFn Try.prog 5 = some F5 := by kernel_rfl
theorem hb5 : HasBody Try.prog 5 := ⟨_, Try.func5, by kernel_rfl, by kernel_rfl⟩
/-! law04.KeysSets -/
abbrev c7_r1 : List Ins := [
  ⟨some 4, none, .mov (.c (.bool false))⟩]
abbrev c7_r2 : List Ins := [
  ⟨some 11, none, .call (.c (.fn 11 [] [])) []⟩,
  ⟨some 12, none, .un .not (.t 11)⟩]
abbrev c7_r3 : List Ins := [
  ⟨some 4, none, .mov (.c (.bool false))⟩]
abbrev c7_r4 : List Ins := [
  ⟨some 13, none, .mov (.t 0)⟩,
  ⟨some 14, none, .len (.t 13)⟩,
  ⟨some 15, none, .bin .gtr (.t 14) (.c (.int .i64 60))⟩]
abbrev c7_r5 : List Ins := [
  ⟨some 4, none, .mov (.c (.bool true))⟩]
abbrev c7_r6 : List Ins := [
  ⟨some 16, none, .mov (.t 0)⟩,
  ⟨some 17, none, .call (.c (.fn 12 [] [])) [.t 16]⟩,
  ⟨some 5, none, .mov (.t 17)⟩]
abbrev c7_r7 : List Ins := [
  ⟨some 18, none, .mov (.t 0)⟩,
  ⟨some 19, none, .call (.c (.fn 27 [] [])) [.t 18]⟩,
  ⟨some 6, none, .mov (.t 19)⟩]
abbrev c7_r8 : List Ins := [
  ⟨some 7, none, .mov (.c (.int .i64 0))⟩]
abbrev c7_r9 : List Ins := [
  ⟨some 8, none, .mov (.c (.int .i64 0))⟩]
abbrev c7_r10 : List Ins := [
  ⟨some 20, none, .mov (.t 8)⟩,
  ⟨some 21, none, .bin .lss (.t 20) (.c (.int .i64 1000))⟩]
abbrev c7_r11 : List Ins := [
  ⟨some 24, none, .mov (.t 5)⟩,
  ⟨some 25, none, .mov (.t 8)⟩,
  ⟨some 26, none, .nilck (.t 24)⟩,
  ⟨some 27, none, .iaddrA 1000 1 (.t 26) (.t 25)⟩,
  ⟨some 28, none, .load 1 false (.t 27)⟩,
  ⟨some 29, none, .un .not (.t 28)⟩]
abbrev c7_r12 : List Ins := [
  ⟨some 30, none, .mov (.t 7)⟩,
  ⟨some 31, none, .mov (.t 6)⟩,
  ⟨some 32, none, .len (.t 31)⟩,
  ⟨some 33, none, .bin .geq (.t 30) (.t 32)⟩,
  ⟨some 34, none, .mov (.t 33)⟩,
  ⟨some 35, some (34, false), .mov (.t 6)⟩,
  ⟨some 36, some (34, false), .mov (.t 7)⟩,
  ⟨some 37, some (34, false), .iaddr 1 (.t 35) (.t 36)⟩,
  ⟨some 38, some (34, false), .load 1 false (.t 37)⟩,
  ⟨some 39, some (34, false), .mov (.t 8)⟩,
  ⟨some 40, some (34, false), .bin .neq (.t 38) (.t 39)⟩,
  ⟨some 41, none, .pick (.t 34) (.c (.bool true)) (.t 40)⟩]
abbrev c7_r13 : List Ins := [
  ⟨some 4, none, .mov (.c (.bool false))⟩]
abbrev c7_r14 : List Ins := [
  ⟨some 42, none, .mov (.t 7)⟩,
  ⟨some 43, none, .bin .add (.t 42) (.c (.int .i64 1))⟩,
  ⟨some 7, none, .mov (.t 43)⟩]
abbrev c7_r15 : List Ins := [
  ⟨some 22, none, .mov (.t 8)⟩,
  ⟨some 23, none, .bin .add (.t 22) (.c (.int .i64 1))⟩,
  ⟨some 8, none, .mov (.t 23)⟩]
abbrev c7_l16 : IR := .seq (.seq (.reg c7_r10) (.cond (.t 21) (.skip) (.exit 0))) (.seq (.blk 1 (.seq (.seq (.reg c7_r11) (.cond (.t 29) (.exit 1) (.skip))) (.seq (.seq (.reg c7_r12) (.cond (.t 41) (.seq (.reg c7_r13) (.ret)) (.skip))) (.reg c7_r14)))) (.reg c7_r15))
abbrev c7_r17 : List Ins := [
  ⟨some 44, none, .mov (.t 1)⟩,
  ⟨some 45, none, .bin .geq (.t 44) (.c (.int .i64 0))⟩,
  ⟨some 46, none, .mov (.t 45)⟩,
  ⟨some 47, some (46, true), .mov (.t 1)⟩,
  ⟨some 48, some (46, true), .bin .leq (.t 47) (.c (.int .i64 999))⟩,
  ⟨some 49, none, .pick (.t 46) (.t 48) (.c (.bool false))⟩,
  ⟨some 50, none, .mov (.t 49)⟩,
  ⟨some 51, some (50, true), .mov (.t 5)⟩,
  ⟨some 52, some (50, true), .mov (.t 1)⟩,
  ⟨some 53, some (50, true), .nilck (.t 51)⟩,
  ⟨some 54, some (50, true), .iaddrA 1000 1 (.t 53) (.t 52)⟩,
  ⟨some 55, some (50, true), .load 1 false (.t 54)⟩,
  ⟨some 56, none, .pick (.t 50) (.t 55) (.c (.bool false))⟩,
  ⟨some 9, none, .mov (.t 56)⟩]
abbrev c7_r18 : List Ins := [
  ⟨some 57, none, .mov (.t 1)⟩,
  ⟨some 58, none, .call (.c (.fn 28 [] [])) [.t 57]⟩,
  ⟨some 10, none, .mov (.t 58)⟩]
abbrev c7_r19 : List Ins := [
  ⟨some 59, none, .mov (.t 1)⟩,
  ⟨some 60, none, .bin .geq (.t 59) (.c (.int .i64 0))⟩,
  ⟨some 61, none, .mov (.t 60)⟩,
  ⟨some 62, some (61, true), .mov (.t 1)⟩,
  ⟨some 63, some (61, true), .bin .leq (.t 62) (.c (.int .i64 999))⟩,
  ⟨some 64, none, .pick (.t 61) (.t 63) (.c (.bool false))⟩,
  ⟨some 65, none, .mov (.t 64)⟩,
  ⟨some 66, some (65, true), .mov (.t 10)⟩,
  ⟨some 67, some (65, true), .len (.t 66)⟩,
  ⟨some 68, some (65, true), .bin .neq (.t 67) (.c (.int .i64 1))⟩,
  ⟨some 69, some (65, true), .mov (.t 68)⟩,
  ⟨some 70, some (69, false), .mov (.t 10)⟩,
  ⟨some 71, some (69, false), .iaddr 2 (.t 70) (.c (.int .i64 0))⟩,
  ⟨some 72, some (69, false), .load 2 true (.t 71)⟩,
  ⟨some 73, some (69, false), .mov (.t 1)⟩,
  ⟨some 74, some (69, false), .mov (.t 1)⟩,
  ⟨some 75, some (69, false), .build [.int .i64 0, .int .i64 0] [(0, (1, .t 73)), (1, (1, .t 74))]⟩,
  ⟨some 76, some (69, false), .eq [.i, .i] true true (.t 72) (.t 75)⟩,
  ⟨some 77, some (65, true), .pick (.t 69) (.c (.bool true)) (.t 76)⟩,
  ⟨some 78, none, .pick (.t 65) (.t 77) (.c (.bool false))⟩,
  ⟨some 79, none, .mov (.t 78)⟩,
  ⟨some 80, some (79, false), .mov (.t 1)⟩,
  ⟨some 81, some (79, false), .bin .lss (.t 80) (.c (.int .i64 0))⟩,
  ⟨some 82, some (79, false), .mov (.t 81)⟩,
  ⟨some 83, some (82, false), .mov (.t 1)⟩,
  ⟨some 84, some (82, false), .bin .gtr (.t 83) (.c (.int .i64 999))⟩,
  ⟨some 85, some (79, false), .pick (.t 82) (.c (.bool true)) (.t 84)⟩,
  ⟨some 86, some (79, false), .mov (.t 85)⟩,
  ⟨some 87, some (86, true), .mov (.t 10)⟩,
  ⟨some 88, some (86, true), .len (.t 87)⟩,
  ⟨some 89, some (86, true), .bin .neq (.t 88) (.c (.int .i64 0))⟩,
  ⟨some 90, some (79, false), .pick (.t 86) (.t 89) (.c (.bool false))⟩,
  ⟨some 91, none, .pick (.t 79) (.c (.bool true)) (.t 90)⟩]
abbrev c7_r20 : List Ins := [
  ⟨some 4, none, .mov (.c (.bool false))⟩]
abbrev c7_r21 : List Ins := [
  ⟨some 92, none, .mov (.t 7)⟩,
  ⟨some 93, none, .mov (.t 6)⟩,
  ⟨some 94, none, .len (.t 93)⟩,
  ⟨some 95, none, .bin .eql (.t 92) (.t 94)⟩,
  ⟨some 96, none, .mov (.t 95)⟩,
  ⟨some 97, some (96, true), .mov (.t 0)⟩,
  ⟨some 98, some (96, true), .call (.c (.fn 23 [] [])) [.t 97]⟩,
  ⟨some 99, some (96, true), .mov (.t 7)⟩,
  ⟨some 100, some (96, true), .bin .eql (.t 98) (.t 99)⟩,
  ⟨some 101, none, .pick (.t 96) (.t 100) (.c (.bool false))⟩,
  ⟨some 102, none, .mov (.t 101)⟩,
  ⟨some 103, some (102, true), .mov (.t 0)⟩,
  ⟨some 104, some (102, true), .mov (.t 1)⟩,
  ⟨some 105, some (102, true), .call (.c (.fn 29 [] [])) [.t 103, .t 104]⟩,
  ⟨some 106, some (102, true), .mov (.t 9)⟩,
  ⟨some 107, some (102, true), .eq [.b] false false (.t 105) (.t 106)⟩,
  ⟨some 108, none, .pick (.t 102) (.t 107) (.c (.bool false))⟩,
  ⟨some 109, none, .mov (.t 108)⟩,
  ⟨some 110, some (109, true), .mov (.t 0)⟩,
  ⟨some 111, some (109, true), .call (.c (.fn 14 [] [])) [.t 110]⟩,
  ⟨some 112, some (109, true), .mov (.t 5)⟩,
  ⟨some 113, some (109, true), .call (.c (.fn 17 [] [])) [.t 112]⟩,
  ⟨some 114, some (109, true), .call (.c (.fn 13 [] [])) [.t 111, .t 113]⟩,
  ⟨some 115, none, .pick (.t 109) (.t 114) (.c (.bool false))⟩,
  ⟨some 4, none, .mov (.t 115)⟩]
abbrev c7 : IR := .seq (.reg c7_r1) (.seq (.seq (.reg c7_r2) (.cond (.t 12) (.seq (.reg c7_r3) (.ret)) (.skip))) (.seq (.seq (.reg c7_r4) (.cond (.t 15) (.seq (.reg c7_r5) (.ret)) (.skip))) (.seq (.reg c7_r6) (.seq (.reg c7_r7) (.seq (.reg c7_r8) (.seq (.seq (.reg c7_r9) (.blk 0 (.loop c7_l16))) (.seq (.reg c7_r17) (.seq (.reg c7_r18) (.seq (.seq (.reg c7_r19) (.cond (.t 91) (.seq (.reg c7_r20) (.ret)) (.skip))) (.seq (.reg c7_r21) (.ret)))))))))))
abbrev F7 : FnA := ⟨116, c7, [.t 4]⟩
theorem ok7 : cFn Try.prog 7 = some F7 := by kernel_rfl
theorem hb7 : HasBody Try.prog 7 := ⟨_, Try.func7, by kernel_rfl, by kernel_rfl⟩
/-! law27.LintSpans -/
abbrev c8_r1 : List Ins := [
  ⟨some 2, none, .box (.t 0)⟩,
  ⟨some 4, none, .mov (.c (.bool false))⟩]
abbrev c8_r2 : List Ins := [
  ⟨some 6, none, .call (.c (.fn 30 [] [])) []⟩,
  ⟨some 7, none, .un .not (.t 6)⟩]
abbrev c8_r3 : List Ins := [
  ⟨some 4, none, .mov (.c (.bool false))⟩]
abbrev c8_r4 : List Ins := [
  ⟨some 8, none, .load 5 true (.t 2)⟩,
  ⟨some 9, none, .mov (.t 1)⟩,
  ⟨some 10, none, .call (.c (.fn 31 [] [])) [.t 8, .t 9]⟩,
  ⟨some 5, none, .mov (.t 10)⟩]
abbrev c8_r5 : List Ins := [
  ⟨some 11, none, .load 5 true (.t 2)⟩,
  ⟨some 12, none, .bsl 5 1 [.int .i64 0, .int .i64 0, .int .i64 0, .int .i64 0, .bool false] [(0, .t 11)]⟩,
  ⟨some 13, none, .mov (.t 1)⟩,
  ⟨some 14, none, .call (.c (.fn 32 [] [])) [.t 12, .t 13]⟩,
  ⟨some 15, none, .un .not (.t 14)⟩]
abbrev c8_r6 : List Ins := [
  ⟨some 16, none, .mov (.t 5)⟩,
  ⟨some 17, none, .len (.t 16)⟩,
  ⟨some 18, none, .bin .eql (.t 17) (.c (.int .i64 0))⟩,
  ⟨some 4, none, .mov (.t 18)⟩]
abbrev c8_r7 : List Ins := [
  ⟨some 19, none, .mov (.t 5)⟩,
  ⟨some 20, none, .load 5 true (.t 2)⟩,
  ⟨some 21, none, .call (.c (.fn 33 [] [])) [.t 20]⟩,
  ⟨some 22, none, .call (.c (.fn 17 [] [])) [.t 21]⟩,
  ⟨some 23, none, .call (.c (.fn 13 [] [])) [.t 19, .t 22]⟩,
  ⟨some 4, none, .mov (.t 23)⟩]
abbrev c8 : IR := .seq (.reg c8_r1) (.seq (.seq (.reg c8_r2) (.cond (.t 7) (.seq (.reg c8_r3) (.ret)) (.skip))) (.seq (.reg c8_r4) (.seq (.seq (.reg c8_r5) (.cond (.t 15) (.seq (.reg c8_r6) (.ret)) (.skip))) (.seq (.reg c8_r7) (.ret)))))
abbrev F8 : FnA := ⟨24, c8, [.t 4]⟩
theorem ok8 : cFn Try.prog 8 = some F8 := by kernel_rfl
theorem hb8 : HasBody Try.prog 8 := ⟨_, Try.func8, by kernel_rfl, by kernel_rfl⟩
/-! law04.alive -/
abbrev c11_r1 : List Ins := [
  ⟨some 0, none, .mov (.c (.bool false))⟩]
abbrev c11_r2 : List Ins := [
  ⟨some 3, none, .build [.int .i64 0, .int .i64 0] [(0, (1, .c (.int .i64 5))), (1, (1, .c (.int .i64 7)))]⟩,
  ⟨some 4, none, .build [.int .i64 0, .int .i64 0] [(0, (1, .c (.int .i64 1))), (1, (1, .c (.int .i64 2)))]⟩,
  ⟨some 5, none, .build [.int .i64 0, .int .i64 0] [(0, (1, .c (.int .i64 3))), (1, (1, .c (.int .i64 4)))]⟩,
  ⟨some 6, none, .bsl 2 3 [.int .i64 0, .int .i64 0] [(0, .t 3), (1, .t 4), (2, .t 5)]⟩,
  ⟨some 7, none, .call (.c (.fn 14 [] [])) [.t 6]⟩,
  ⟨some 1, none, .mov (.t 7)⟩]
abbrev c11_r3 : List Ins := [
  ⟨some 8, none, .build [.int .i64 0, .int .i64 0] [(0, (1, .c (.int .i64 1))), (1, (1, .c (.int .i64 9)))]⟩,
  ⟨some 9, none, .bsl 2 1 [.int .i64 0, .int .i64 0] [(0, .t 8)]⟩,
  ⟨some 10, none, .build [.int .i64 0, .int .i64 0] [(0, (1, .c (.int .i64 3))), (1, (1, .c (.int .i64 4)))]⟩,
  ⟨some 11, none, .bsl 2 1 [.int .i64 0, .int .i64 0] [(0, .t 10)]⟩,
  ⟨some 12, none, .call (.c (.fn 19 [] [])) [.t 9, .t 11]⟩,
  ⟨some 2, none, .mov (.t 12)⟩]
abbrev c11_r4 : List Ins := [
  ⟨some 13, none, .mov (.t 1)⟩,
  ⟨some 14, none, .build [.int .i64 0, .int .i64 0] [(0, (1, .c (.int .i64 1))), (1, (1, .c (.int .i64 7)))]⟩,
  ⟨some 15, none, .bsl 2 1 [.int .i64 0, .int .i64 0] [(0, .t 14)]⟩,
  ⟨some 16, none, .call (.c (.fn 13 [] [])) [.t 13, .t 15]⟩,
  ⟨some 17, none, .mov (.t 16)⟩,
  ⟨some 18, some (17, true), .mov (.t 2)⟩,
  ⟨some 19, some (17, true), .build [.int .i64 0, .int .i64 0] [(0, (1, .c (.int .i64 1))), (1, (1, .c (.int .i64 2)))]⟩,
  ⟨some 20, some (17, true), .build [.int .i64 0, .int .i64 0] [(0, (1, .c (.int .i64 5))), (1, (1, .c (.int .i64 9)))]⟩,
  ⟨some 21, some (17, true), .bsl 2 2 [.int .i64 0, .int .i64 0] [(0, .t 19), (1, .t 20)]⟩,
  ⟨some 22, some (17, true), .call (.c (.fn 13 [] [])) [.t 18, .t 21]⟩,
  ⟨some 23, none, .pick (.t 17) (.t 22) (.c (.bool false))⟩,
  ⟨some 0, none, .mov (.t 23)⟩]
abbrev c11 : IR := .seq (.reg c11_r1) (.seq (.reg c11_r2) (.seq (.reg c11_r3) (.seq (.reg c11_r4) (.ret))))
abbrev F11 : FnA := ⟨24, c11, [.t 0]⟩
theorem ok11 : cFn Try.prog 11 = some F11 := by kernel_rfl
theorem hb11 : HasBody Try.prog 11 := ⟨_, Try.func11, by kernel_rfl, by kernel_rfl⟩
/-! ref04.Of -/
abbrev c12_r1 : List Ins := [
  ⟨some 2, none, .mov (.c .nilptr)⟩]
abbrev c12_r2 : List Ins := [
  ⟨some 3, none, .alloc (List.replicate 1000 (.bool false))⟩]
abbrev c12_r3 : List Ins := [
  ⟨some 4, none, .mov (.c (.int .i64 0))⟩]
abbrev c12_r4 : List Ins := [
  ⟨some 6, none, .mov (.t 4)⟩,
  ⟨some 7, none, .mov (.t 0)⟩,
  ⟨some 8, none, .len (.t 7)⟩,
  ⟨some 9, none, .bin .lss (.t 6) (.t 8)⟩]
abbrev c12_r5 : List Ins := [
  ⟨some 12, none, .mov (.t 0)⟩,
  ⟨some 13, none, .mov (.t 4)⟩,
  ⟨some 14, none, .iaddr 2 (.t 12) (.t 13)⟩,
  ⟨some 15, none, .faddr 0 (.t 14)⟩,
  ⟨some 16, none, .load 1 false (.t 15)⟩,
  ⟨some 17, none, .bin .lss (.t 16) (.c (.int .i64 0))⟩,
  ⟨some 18, none, .mov (.t 17)⟩,
  ⟨some 19, some (18, false), .mov (.t 0)⟩,
  ⟨some 20, some (18, false), .mov (.t 4)⟩,
  ⟨some 21, some (18, false), .iaddr 2 (.t 19) (.t 20)⟩,
  ⟨some 22, some (18, false), .faddr 1 (.t 21)⟩,
  ⟨some 23, some (18, false), .load 1 false (.t 22)⟩,
  ⟨some 24, some (18, false), .bin .gtr (.t 23) (.c (.int .i64 999))⟩,
  ⟨some 25, none, .pick (.t 18) (.c (.bool true)) (.t 24)⟩]
abbrev c12_r6 : List Ins := [
  ⟨some 26, none, .mov (.t 0)⟩,
  ⟨some 27, none, .mov (.t 4)⟩,
  ⟨some 28, none, .iaddr 2 (.t 26) (.t 27)⟩,
  ⟨some 29, none, .faddr 0 (.t 28)⟩,
  ⟨some 30, none, .load 1 false (.t 29)⟩,
  ⟨some 5, none, .mov (.t 30)⟩]
abbrev c12_r7 : List Ins := [
  ⟨some 31, none, .mov (.t 5)⟩,
  ⟨some 32, none, .mov (.t 0)⟩,
  ⟨some 33, none, .mov (.t 4)⟩,
  ⟨some 34, none, .iaddr 2 (.t 32) (.t 33)⟩,
  ⟨some 35, none, .faddr 1 (.t 34)⟩,
  ⟨some 36, none, .load 1 false (.t 35)⟩,
  ⟨some 37, none, .bin .leq (.t 31) (.t 36)⟩]
abbrev c12_r8 : List Ins := [
  ⟨some 40, none, .mov (.t 5)⟩,
  ⟨some 41, none, .iaddrA 1000 1 (.t 3) (.t 40)⟩,
  ⟨none, none, .store 1 (.t 41) (.c (.bool true))⟩]
abbrev c12_r9 : List Ins := [
  ⟨some 38, none, .mov (.t 5)⟩,
  ⟨some 39, none, .bin .add (.t 38) (.c (.int .i64 1))⟩,
  ⟨some 5, none, .mov (.t 39)⟩]
abbrev c12_l10 : IR := .seq (.seq (.reg c12_r7) (.cond (.t 37) (.skip) (.exit 2))) (.seq (.blk 3 (.reg c12_r8)) (.reg c12_r9))
abbrev c12_r11 : List Ins := [
  ⟨some 10, none, .mov (.t 4)⟩,
  ⟨some 11, none, .bin .add (.t 10) (.c (.int .i64 1))⟩,
  ⟨some 4, none, .mov (.t 11)⟩]
abbrev c12_l12 : IR := .seq (.seq (.reg c12_r4) (.cond (.t 9) (.skip) (.exit 0))) (.seq (.blk 1 (.seq (.seq (.reg c12_r5) (.cond (.t 25) (.exit 1) (.skip))) (.seq (.reg c12_r6) (.blk 2 (.loop c12_l10))))) (.reg c12_r11))
abbrev c12_r13 : List Ins := [
  ⟨some 2, none, .mov (.t 3)⟩]
abbrev c12 : IR := .seq (.reg c12_r1) (.seq (.reg c12_r2) (.seq (.seq (.reg c12_r3) (.blk 0 (.loop c12_l12))) (.seq (.reg c12_r13) (.ret))))
abbrev F12 : FnA := ⟨42, c12, [.t 2]⟩
theorem ok12 : cFn Try.prog 12 = some F12 := by kernel_rfl
theorem hb12 : HasBody Try.prog 12 := ⟨_, Try.func12, by kernel_rfl, by kernel_rfl⟩
/-! ref04.Same -/
abbrev c13_r1 : List Ins := [
  ⟨some 4, none, .mov (.c (.bool false))⟩]
abbrev c13_r2 : List Ins := [
  ⟨some 6, none, .mov (.t 0)⟩,
  ⟨some 7, none, .len (.t 6)⟩,
  ⟨some 8, none, .mov (.t 1)⟩,
  ⟨some 9, none, .len (.t 8)⟩,
  ⟨some 10, none, .bin .neq (.t 7) (.t 9)⟩]
abbrev c13_r3 : List Ins := [
  ⟨some 4, none, .mov (.c (.bool false))⟩]
abbrev c13_r4 : List Ins := [
  ⟨some 5, none, .mov (.c (.int .i64 0))⟩]
abbrev c13_r5 : List Ins := [
  ⟨some 11, none, .mov (.t 5)⟩,
  ⟨some 12, none, .mov (.t 0)⟩,
  ⟨some 13, none, .len (.t 12)⟩,
  ⟨some 14, none, .bin .lss (.t 11) (.t 13)⟩]
abbrev c13_r6 : List Ins := [
  ⟨some 17, none, .mov (.t 0)⟩,
  ⟨some 18, none, .mov (.t 5)⟩,
  ⟨some 19, none, .iaddr 2 (.t 17) (.t 18)⟩,
  ⟨some 20, none, .load 2 true (.t 19)⟩,
  ⟨some 21, none, .mov (.t 1)⟩,
  ⟨some 22, none, .mov (.t 5)⟩,
  ⟨some 23, none, .iaddr 2 (.t 21) (.t 22)⟩,
  ⟨some 24, none, .load 2 true (.t 23)⟩,
  ⟨some 25, none, .eq [.i, .i] true true (.t 20) (.t 24)⟩]
def c13_a6 : List (List Nat) := [[], [], [0, 1], [2], [], [], [4, 5], [6], [3, 7]]
abbrev c13_m6 : List Am.Mark := [⟨false, 0, 0⟩, ⟨false, 0, 0⟩, ⟨false, 0, 0⟩, ⟨false, 0, 0⟩, ⟨false, 0, 0⟩, ⟨false, 0, 0⟩, ⟨false, 0, 0⟩, ⟨false, 0, 0⟩, ⟨false, 0, 0⟩]
theorem c13_d6 : drawFine c13_r6 c13_a6 c13_m6 = true := by decide +kernel
abbrev c13_r7 : List Ins := [
  ⟨some 4, none, .mov (.c (.bool false))⟩]
abbrev c13_r8 : List Ins := [
  ⟨some 15, none, .mov (.t 5)⟩,
  ⟨some 16, none, .bin .add (.t 15) (.c (.int .i64 1))⟩,
  ⟨some 5, none, .mov (.t 16)⟩]
abbrev c13_l9 : IR := .seq (.seq (.reg c13_r5) (.cond (.t 14) (.skip) (.exit 0))) (.seq (.blk 1 (.seq (.dreg c13_r6 c13_a6) (.cond (.t 25) (.seq (.reg c13_r7) (.ret)) (.skip)))) (.reg c13_r8))
abbrev c13_r10 : List Ins := [
  ⟨some 4, none, .mov (.c (.bool true))⟩]
abbrev c13 : IR := .seq (.reg c13_r1) (.seq (.seq (.reg c13_r2) (.cond (.t 10) (.seq (.reg c13_r3) (.ret)) (.skip))) (.seq (.seq (.reg c13_r4) (.blk 0 (.loop c13_l9))) (.seq (.reg c13_r10) (.ret))))
abbrev F13 : FnA := ⟨26, c13, [.t 4]⟩
theorem ok13 : cFn Try.prog 13 = some F13 := by kernel_rfl
theorem hb13 : HasBody Try.prog 13 := ⟨_, Try.func13, by kernel_rfl, by kernel_rfl⟩
/-! keys.Plain -/
abbrev c14_r1 : List Ins := [
  ⟨some 2, none, .mov (.c (.sl .full []))⟩]
abbrev c14_r2 : List Ins := [
  ⟨some 3, none, .mov (.t 0)⟩,
  ⟨some 4, none, .bsl 1 1 [.sl .full []] [(0, .t 3)]⟩,
  ⟨some 5, none, .call (.c (.fn 41 [] [])) [.t 4]⟩,
  ⟨some 2, none, .mov (.t 5)⟩]
abbrev c14 : IR := .seq (.reg c14_r1) (.seq (.reg c14_r2) (.ret))
abbrev F14 : FnA := ⟨6, c14, [.t 2]⟩
theorem ok14 : cFn Try.prog 14 = some F14 := by kernel_rfl
theorem hb14 : HasBody Try.prog 14 := ⟨_, Try.func14, by kernel_rfl, by kernel_rfl⟩
/-! keys.May -/
abbrev c15_r1 : List Ins := [
  ⟨some 1, none, .box (.t 0)⟩,
  ⟨some 2, none, .mov (.c (.bool false))⟩]
abbrev c15_r2 : List Ins := [
  ⟨some 3, none, .faddr 0 (.t 1)⟩,
  ⟨some 4, none, .load 1 false (.t 3)⟩,
  ⟨some 5, none, .bin .geq (.t 4) (.c (.int .i64 0))⟩,
  ⟨some 6, none, .mov (.t 5)⟩,
  ⟨some 7, some (6, true), .faddr 0 (.t 1)⟩,
  ⟨some 8, some (6, true), .load 1 false (.t 7)⟩,
  ⟨some 9, some (6, true), .faddr 1 (.t 1)⟩,
  ⟨some 10, some (6, true), .load 1 false (.t 9)⟩,
  ⟨some 11, some (6, true), .bin .leq (.t 8) (.t 10)⟩,
  ⟨some 12, none, .pick (.t 6) (.t 11) (.c (.bool false))⟩,
  ⟨some 13, none, .mov (.t 12)⟩,
  ⟨some 14, some (13, true), .faddr 1 (.t 1)⟩,
  ⟨some 15, some (13, true), .load 1 false (.t 14)⟩,
  ⟨some 16, some (13, true), .bin .leq (.t 15) (.c (.int .i64 999))⟩,
  ⟨some 17, none, .pick (.t 13) (.t 16) (.c (.bool false))⟩,
  ⟨some 2, none, .mov (.t 17)⟩]
abbrev c15 : IR := .seq (.reg c15_r1) (.seq (.reg c15_r2) (.ret))
abbrev F15 : FnA := ⟨18, c15, [.t 2]⟩
theorem ok15 : cFn Try.prog 15 = some F15 := by kernel_rfl
theorem hb15 : HasBody Try.prog 15 := ⟨_, Try.func15, by kernel_rfl, by kernel_rfl⟩
/-! keys.Union -/
abbrev c16_r1 : List Ins := [
  ⟨some 4, none, .mov (.c (.sl .full []))⟩]
abbrev c16_r2 : List Ins := [
  ⟨some 5, none, .mov (.t 0)⟩,
  ⟨some 6, none, .mov (.t 1)⟩,
  ⟨some 7, none, .bsl 1 2 [.sl .full []] [(0, .t 5), (1, .t 6)]⟩,
  ⟨some 8, none, .call (.c (.fn 41 [] [])) [.t 7]⟩,
  ⟨some 4, none, .mov (.t 8)⟩]
abbrev c16 : IR := .seq (.reg c16_r1) (.seq (.reg c16_r2) (.ret))
abbrev F16 : FnA := ⟨9, c16, [.t 4]⟩
theorem ok16 : cFn Try.prog 16 = some F16 := by kernel_rfl
theorem hb16 : HasBody Try.prog 16 := ⟨_, Try.func16, by kernel_rfl, by kernel_rfl⟩
/-! ref04.Plain -/
abbrev c17_r1 : List Ins := [
  ⟨some 2, none, .mov (.c (.sl .full []))⟩]
abbrev c17_r2 : List Ins := [
  ⟨some 3, none, .mov (.c (.sl .full []))⟩]
abbrev c17_r3 : List Ins := [
  ⟨some 4, none, .mov (.c (.int .i64 0))⟩]
abbrev c17_r4 : List Ins := [
  ⟨some 5, none, .mov (.t 4)⟩,
  ⟨some 6, none, .bin .lss (.t 5) (.c (.int .i64 1000))⟩]
abbrev c17_r5 : List Ins := [
  ⟨some 9, none, .mov (.t 0)⟩,
  ⟨some 10, none, .mov (.t 4)⟩,
  ⟨some 11, none, .nilck (.t 9)⟩,
  ⟨some 12, none, .iaddrA 1000 1 (.t 11) (.t 10)⟩,
  ⟨some 13, none, .load 1 false (.t 12)⟩,
  ⟨some 14, none, .un .not (.t 13)⟩]
abbrev c17_r6 : List Ins := [
  ⟨some 15, none, .mov (.t 4)⟩,
  ⟨some 16, none, .bin .gtr (.t 15) (.c (.int .i64 0))⟩,
  ⟨some 17, none, .mov (.t 16)⟩,
  ⟨some 18, some (17, true), .mov (.t 0)⟩,
  ⟨some 19, some (17, true), .mov (.t 4)⟩,
  ⟨some 20, some (17, true), .bin .sub (.t 19) (.c (.int .i64 1))⟩,
  ⟨some 21, some (17, true), .nilck (.t 18)⟩,
  ⟨some 22, some (17, true), .iaddrA 1000 1 (.t 21) (.t 20)⟩,
  ⟨some 23, some (17, true), .load 1 false (.t 22)⟩,
  ⟨some 24, none, .pick (.t 17) (.t 23) (.c (.bool false))⟩]
abbrev c17_r7 : List Ins := [
  ⟨some 25, none, .mov (.t 3)⟩,
  ⟨some 26, none, .mov (.t 3)⟩,
  ⟨some 27, none, .len (.t 26)⟩,
  ⟨some 28, none, .bin .sub (.t 27) (.c (.int .i64 1))⟩,
  ⟨some 29, none, .mov (.t 4)⟩,
  ⟨some 30, none, .iaddr 2 (.t 25) (.t 28)⟩,
  ⟨some 31, none, .faddr 1 (.t 30)⟩,
  ⟨none, none, .store 1 (.t 31) (.t 29)⟩]
abbrev c17_r8 : List Ins := [
  ⟨some 32, none, .mov (.t 3)⟩,
  ⟨some 33, none, .mov (.t 4)⟩,
  ⟨some 34, none, .mov (.t 4)⟩,
  ⟨some 35, none, .build [.int .i64 0, .int .i64 0] [(0, (1, .t 33)), (1, (1, .t 34))]⟩,
  ⟨some 36, none, .bsl 2 1 [.int .i64 0, .int .i64 0] [(0, .t 35)]⟩,
  ⟨some 37, none, .append 2 16 (.t 32) (.t 36)⟩,
  ⟨some 3, none, .mov (.t 37)⟩]
abbrev c17_r9 : List Ins := [
  ⟨some 7, none, .mov (.t 4)⟩,
  ⟨some 8, none, .bin .add (.t 7) (.c (.int .i64 1))⟩,
  ⟨some 4, none, .mov (.t 8)⟩]
abbrev c17_l10 : IR := .seq (.seq (.reg c17_r4) (.cond (.t 6) (.skip) (.exit 0))) (.seq (.blk 1 (.seq (.seq (.reg c17_r5) (.cond (.t 14) (.exit 1) (.skip))) (.seq (.reg c17_r6) (.cond (.t 24) (.reg c17_r7) (.reg c17_r8))))) (.reg c17_r9))
abbrev c17_r11 : List Ins := [
  ⟨some 38, none, .mov (.t 3)⟩,
  ⟨some 2, none, .mov (.t 38)⟩]
abbrev c17 : IR := .seq (.reg c17_r1) (.seq (.reg c17_r2) (.seq (.seq (.reg c17_r3) (.blk 0 (.loop c17_l10))) (.seq (.reg c17_r11) (.ret))))
abbrev F17 : FnA := ⟨39, c17, [.t 2]⟩
theorem ok17 : cFn Try.prog 17 = some F17 := by kernel_rfl
theorem hb17 : HasBody Try.prog 17 := ⟨_, Try.func17, by kernel_rfl, by kernel_rfl⟩
/-! keys.Both -/
abbrev c18_r1 : List Ins := [
  ⟨some 4, none, .mov (.c (.sl .full []))⟩]
abbrev c18_r2 : List Ins := [
  ⟨some 5, none, .mov (.t 0)⟩,
  ⟨some 6, none, .bsl 1 1 [.sl .full []] [(0, .t 5)]⟩,
  ⟨some 7, none, .call (.c (.fn 41 [] [])) [.t 6]⟩,
  ⟨some 8, none, .mov (.t 1)⟩,
  ⟨some 9, none, .bsl 1 1 [.sl .full []] [(0, .t 8)]⟩,
  ⟨some 10, none, .call (.c (.fn 41 [] [])) [.t 9]⟩,
  ⟨some 11, none, .call (.c (.fn 43 [] [])) [.t 7, .t 10]⟩,
  ⟨some 12, none, .call (.c (.fn 42 [] [])) [.t 11]⟩,
  ⟨some 13, none, .bsl 1 1 [.sl .full []] [(0, .t 12)]⟩,
  ⟨some 14, none, .call (.c (.fn 41 [] [])) [.t 13]⟩,
  ⟨some 4, none, .mov (.t 14)⟩]
abbrev c18 : IR := .seq (.reg c18_r1) (.seq (.reg c18_r2) (.ret))
abbrev F18 : FnA := ⟨15, c18, [.t 4]⟩
theorem ok18 : cFn Try.prog 18 = some F18 := by kernel_rfl
theorem hb18 : HasBody Try.prog 18 := ⟨_, Try.func18, by kernel_rfl, by kernel_rfl⟩
/-! keys.Less -/
abbrev c19_r1 : List Ins := [
  ⟨some 4, none, .mov (.c (.sl .full []))⟩]
abbrev c19_r2 : List Ins := [
  ⟨some 5, none, .mov (.t 0)⟩,
  ⟨some 6, none, .mov (.t 1)⟩,
  ⟨some 7, none, .bsl 1 1 [.sl .full []] [(0, .t 6)]⟩,
  ⟨some 8, none, .call (.c (.fn 41 [] [])) [.t 7]⟩,
  ⟨some 9, none, .call (.c (.fn 44 [] [])) [.t 8]⟩,
  ⟨some 10, none, .call (.c (.fn 18 [] [])) [.t 5, .t 9]⟩,
  ⟨some 4, none, .mov (.t 10)⟩]
abbrev c19 : IR := .seq (.reg c19_r1) (.seq (.reg c19_r2) (.ret))
abbrev F19 : FnA := ⟨11, c19, [.t 4]⟩
theorem ok19 : cFn Try.prog 19 = some F19 := by kernel_rfl
theorem hb19 : HasBody Try.prog 19 := ⟨_, Try.func19, by kernel_rfl, by kernel_rfl⟩
/-! keys.Meet -/
abbrev c20_r1 : List Ins := [
  ⟨some 4, none, .alloc [.bool false]⟩]
abbrev c20_r2 : List Ins := [
  ⟨some 5, none, .mov (.t 0)⟩,
  ⟨some 6, none, .bsl 1 1 [.sl .full []] [(0, .t 5)]⟩,
  ⟨some 7, none, .call (.c (.fn 41 [] [])) [.t 6]⟩,
  ⟨some 8, none, .mov (.t 1)⟩,
  ⟨some 9, none, .bsl 1 1 [.sl .full []] [(0, .t 8)]⟩,
  ⟨some 10, none, .call (.c (.fn 41 [] [])) [.t 9]⟩,
  ⟨some 11, none, .call (.c (.fn 43 [] [])) [.t 7, .t 10]⟩]
abbrev c20_r3 : List Ins := [
  ⟨none, none, .store 1 (.t 4) (.c (.bool true))⟩]
abbrev c20_x4 : IR := .skip
abbrev c20_y5 : IR := .blk 1 (.seq (.reg c20_r3) (.ret))
abbrev c20_r6 : List Ins := [
  ⟨none, none, .store 1 (.t 4) (.c (.bool false))⟩]
abbrev c20 : IR := .seq (.reg c20_r1) (.seq (.seq (.reg c20_r2) (.blk 0 (.rngf (.t 11) [12] c20_x4 c20_y5))) (.seq (.reg c20_r6) (.ret)))
abbrev F20 : FnA := ⟨13, c20, [.cell 4 1 false]⟩
theorem ok20 : cFn Try.prog 20 = some F20 := by kernel_rfl
theorem hb20 : HasBody Try.prog 20 := ⟨_, Try.func20, by kernel_rfl, by kernel_rfl⟩
/-! ref04.Meet -/
abbrev c21_r1 : List Ins := [
  ⟨some 4, none, .mov (.c (.bool false))⟩]
abbrev c21_r2 : List Ins := [
  ⟨some 5, none, .mov (.c (.int .i64 0))⟩]
abbrev c21_r3 : List Ins := [
  ⟨some 6, none, .mov (.t 5)⟩,
  ⟨some 7, none, .bin .lss (.t 6) (.c (.int .i64 1000))⟩]
abbrev c21_r4 : List Ins := [
  ⟨some 10, none, .mov (.t 0)⟩,
  ⟨some 11, none, .mov (.t 5)⟩,
  ⟨some 12, none, .nilck (.t 10)⟩,
  ⟨some 13, none, .iaddrA 1000 1 (.t 12) (.t 11)⟩,
  ⟨some 14, none, .load 1 false (.t 13)⟩,
  ⟨some 15, none, .mov (.t 14)⟩,
  ⟨some 16, some (15, true), .mov (.t 1)⟩,
  ⟨some 17, some (15, true), .mov (.t 5)⟩,
  ⟨some 18, some (15, true), .nilck (.t 16)⟩,
  ⟨some 19, some (15, true), .iaddrA 1000 1 (.t 18) (.t 17)⟩,
  ⟨some 20, some (15, true), .load 1 false (.t 19)⟩,
  ⟨some 21, none, .pick (.t 15) (.t 20) (.c (.bool false))⟩]
abbrev c21_r5 : List Ins := [
  ⟨some 4, none, .mov (.c (.bool true))⟩]
abbrev c21_r6 : List Ins := [
  ⟨some 8, none, .mov (.t 5)⟩,
  ⟨some 9, none, .bin .add (.t 8) (.c (.int .i64 1))⟩,
  ⟨some 5, none, .mov (.t 9)⟩]
abbrev c21_l7 : IR := .seq (.seq (.reg c21_r3) (.cond (.t 7) (.skip) (.exit 0))) (.seq (.blk 1 (.seq (.reg c21_r4) (.cond (.t 21) (.seq (.reg c21_r5) (.ret)) (.skip)))) (.reg c21_r6))
abbrev c21_r8 : List Ins := [
  ⟨some 4, none, .mov (.c (.bool false))⟩]
abbrev c21 : IR := .seq (.reg c21_r1) (.seq (.seq (.reg c21_r2) (.blk 0 (.loop c21_l7))) (.seq (.reg c21_r8) (.ret)))
abbrev F21 : FnA := ⟨22, c21, [.t 4]⟩
theorem ok21 : cFn Try.prog 21 = some F21 := by kernel_rfl
theorem hb21 : HasBody Try.prog 21 := ⟨_, Try.func21, by kernel_rfl, by kernel_rfl⟩
/-! keys.Inside -/
abbrev c22_r1 : List Ins := [
  ⟨some 4, none, .mov (.c (.bool false))⟩]
abbrev c22_r2 : List Ins := [
  ⟨some 5, none, .mov (.t 0)⟩,
  ⟨some 6, none, .mov (.t 1)⟩,
  ⟨some 7, none, .call (.c (.fn 19 [] [])) [.t 5, .t 6]⟩,
  ⟨some 8, none, .len (.t 7)⟩,
  ⟨some 9, none, .bin .eql (.t 8) (.c (.int .i64 0))⟩,
  ⟨some 4, none, .mov (.t 9)⟩]
abbrev c22 : IR := .seq (.reg c22_r1) (.seq (.reg c22_r2) (.ret))
abbrev F22 : FnA := ⟨10, c22, [.t 4]⟩
theorem ok22 : cFn Try.prog 22 = some F22 := by kernel_rfl
theorem hb22 : HasBody Try.prog 22 := ⟨_, Try.func22, by kernel_rfl, by kernel_rfl⟩
/-! keys.Size -/
abbrev c23_r1 : List Ins := [
  ⟨some 2, none, .mov (.c (.int .i64 0))⟩]
abbrev c23_r2 : List Ins := [
  ⟨some 3, none, .mov (.c (.int .i64 0))⟩]
abbrev c23_r3 : List Ins := [
  ⟨some 6, none, .mov (.t 0)⟩,
  ⟨some 7, none, .bsl 1 1 [.sl .full []] [(0, .t 6)]⟩,
  ⟨some 8, none, .call (.c (.fn 41 [] [])) [.t 7]⟩,
  ⟨some 9, none, .len (.t 8)⟩,
  ⟨some 10, none, .mov (.c (.int .i64 0))⟩]
abbrev c23_r4 : List Ins := [
  ⟨some 11, none, .bin .lss (.t 10) (.t 9)⟩]
abbrev c23_r5 : List Ins := [
  ⟨some 12, none, .iaddr 2 (.t 8) (.t 10)⟩,
  ⟨some 13, none, .load 2 true (.t 12)⟩,
  ⟨some 5, none, .alloc [.int .i64 0, .int .i64 0]⟩,
  ⟨none, none, .store 2 (.t 5) (.t 13)⟩]
abbrev c23_r6 : List Ins := [
  ⟨some 14, none, .mov (.t 3)⟩,
  ⟨some 15, none, .faddr 1 (.t 5)⟩,
  ⟨some 16, none, .load 1 false (.t 15)⟩,
  ⟨some 17, none, .faddr 0 (.t 5)⟩,
  ⟨some 18, none, .load 1 false (.t 17)⟩,
  ⟨some 19, none, .bin .sub (.t 16) (.t 18)⟩,
  ⟨some 20, none, .bin .add (.t 19) (.c (.int .i64 1))⟩,
  ⟨some 21, none, .bin .add (.t 14) (.t 20)⟩,
  ⟨some 3, none, .mov (.t 21)⟩]
abbrev c23_r7 : List Ins := [
  ⟨some 22, none, .bin .add (.t 10) (.c (.int .i64 1))⟩,
  ⟨some 10, none, .mov (.t 22)⟩]
abbrev c23_l8 : IR := .seq (.reg c23_r4) (.seq (.cond (.t 11) (.skip) (.exit 0)) (.seq (.blk 1 (.seq (.reg c23_r5) (.reg c23_r6))) (.reg c23_r7)))
abbrev c23_r9 : List Ins := [
  ⟨some 23, none, .mov (.t 3)⟩,
  ⟨some 2, none, .mov (.t 23)⟩]
abbrev c23 : IR := .seq (.reg c23_r1) (.seq (.reg c23_r2) (.seq (.seq (.reg c23_r3) (.blk 0 (.loop c23_l8))) (.seq (.reg c23_r9) (.ret))))
abbrev F23 : FnA := ⟨24, c23, [.t 2]⟩
theorem ok23 : cFn Try.prog 23 = some F23 := by kernel_rfl
theorem hb23 : HasBody Try.prog 23 := ⟨_, Try.func23, by kernel_rfl, by kernel_rfl⟩
/-! keys.All -/
abbrev c27_r1 : List Ins := [
  ⟨some 2, none, .mov (.c (.sl .full []))⟩]
abbrev c27_r2 : List Ins := [
  ⟨some 3, none, .mov (.c (.sl .full []))⟩]
abbrev c27_r3 : List Ins := [
  ⟨some 7, none, .mov (.t 0)⟩,
  ⟨some 8, none, .bsl 1 1 [.sl .full []] [(0, .t 7)]⟩,
  ⟨some 9, none, .call (.c (.fn 41 [] [])) [.t 8]⟩,
  ⟨some 10, none, .len (.t 9)⟩,
  ⟨some 11, none, .mov (.c (.int .i64 0))⟩]
abbrev c27_r4 : List Ins := [
  ⟨some 12, none, .bin .lss (.t 11) (.t 10)⟩]
abbrev c27_r5 : List Ins := [
  ⟨some 13, none, .iaddr 2 (.t 9) (.t 11)⟩,
  ⟨some 14, none, .load 2 true (.t 13)⟩,
  ⟨some 5, none, .alloc [.int .i64 0, .int .i64 0]⟩,
  ⟨none, none, .store 2 (.t 5) (.t 14)⟩]
abbrev c27_r6 : List Ins := [
  ⟨some 15, none, .faddr 0 (.t 5)⟩,
  ⟨some 16, none, .load 1 false (.t 15)⟩,
  ⟨some 6, none, .mov (.t 16)⟩]
abbrev c27_r7 : List Ins := [
  ⟨some 17, none, .mov (.t 6)⟩,
  ⟨some 18, none, .faddr 1 (.t 5)⟩,
  ⟨some 19, none, .load 1 false (.t 18)⟩,
  ⟨some 20, none, .bin .leq (.t 17) (.t 19)⟩]
abbrev c27_r8 : List Ins := [
  ⟨some 23, none, .mov (.t 3)⟩,
  ⟨some 24, none, .mov (.t 6)⟩,
  ⟨some 25, none, .bsl 1 1 [.int .i64 0] [(0, .t 24)]⟩,
  ⟨some 26, none, .append 1 8 (.t 23) (.t 25)⟩,
  ⟨some 3, none, .mov (.t 26)⟩]
abbrev c27_r9 : List Ins := [
  ⟨some 21, none, .mov (.t 6)⟩,
  ⟨some 22, none, .bin .add (.t 21) (.c (.int .i64 1))⟩,
  ⟨some 6, none, .mov (.t 22)⟩]
abbrev c27_l10 : IR := .seq (.seq (.reg c27_r7) (.cond (.t 20) (.skip) (.exit 2))) (.seq (.blk 3 (.reg c27_r8)) (.reg c27_r9))
abbrev c27_r11 : List Ins := [
  ⟨some 27, none, .bin .add (.t 11) (.c (.int .i64 1))⟩,
  ⟨some 11, none, .mov (.t 27)⟩]
abbrev c27_l12 : IR := .seq (.reg c27_r4) (.seq (.cond (.t 12) (.skip) (.exit 0)) (.seq (.blk 1 (.seq (.reg c27_r5) (.seq (.reg c27_r6) (.blk 2 (.loop c27_l10))))) (.reg c27_r11)))
abbrev c27_r13 : List Ins := [
  ⟨some 28, none, .mov (.t 3)⟩,
  ⟨some 2, none, .mov (.t 28)⟩]
abbrev c27 : IR := .seq (.reg c27_r1) (.seq (.reg c27_r2) (.seq (.seq (.reg c27_r3) (.blk 0 (.loop c27_l12))) (.seq (.reg c27_r13) (.ret))))
abbrev F27 : FnA := ⟨29, c27, [.t 2]⟩
theorem ok27 : cFn Try.prog 27 = some F27 := by kernel_rfl
theorem hb27 : HasBody Try.prog 27 := ⟨_, Try.func27, by kernel_rfl, by kernel_rfl⟩
/-! keys.One -/
abbrev c28_r1 : List Ins := [
  ⟨some 2, none, .mov (.c (.sl .full []))⟩]
abbrev c28_r2 : List Ins := [
  ⟨some 3, none, .mov (.t 0)⟩,
  ⟨some 4, none, .mov (.t 0)⟩,
  ⟨some 5, none, .build [.int .i64 0, .int .i64 0] [(0, (1, .t 3)), (1, (1, .t 4))]⟩,
  ⟨some 6, none, .bsl 2 1 [.int .i64 0, .int .i64 0] [(0, .t 5)]⟩,
  ⟨some 7, none, .bsl 1 1 [.sl .full []] [(0, .t 6)]⟩,
  ⟨some 8, none, .call (.c (.fn 41 [] [])) [.t 7]⟩,
  ⟨some 2, none, .mov (.t 8)⟩]
abbrev c28 : IR := .seq (.reg c28_r1) (.seq (.reg c28_r2) (.ret))
abbrev F28 : FnA := ⟨9, c28, [.t 2]⟩
theorem ok28 : cFn Try.prog 28 = some F28 := by kernel_rfl
theorem hb28 : HasBody Try.prog 28 := ⟨_, Try.func28, by kernel_rfl, by kernel_rfl⟩
/-! keys.Has -/
abbrev c29_r1 : List Ins := [
  ⟨some 3, none, .box (.t 1)⟩,
  ⟨some 4, none, .mov (.c (.bool false))⟩]
abbrev c29_r2 : List Ins := [
  ⟨some 5, none, .mov (.t 0)⟩,
  ⟨some 6, none, .mkfn 47 [] [.t 3]⟩,
  ⟨some 7, none, .call (.c (.fn 46 [] [])) [.t 5, .t 6]⟩,
  ⟨some 4, none, .mov (.t 7)⟩]
abbrev c29 : IR := .seq (.reg c29_r1) (.seq (.reg c29_r2) (.ret))
abbrev F29 : FnA := ⟨8, c29, [.t 4]⟩
theorem ok29 : cFn Try.prog 29 = some F29 := by kernel_rfl
theorem hb29 : HasBody Try.prog 29 := ⟨_, Try.func29, by kernel_rfl, by kernel_rfl⟩
/-! law27.alive -/
abbrev c30_r1 : List Ins := [
  ⟨some 0, none, .mov (.c (.bool false))⟩]
abbrev c30_r2 : List Ins := [
  ⟨some 1, none, .mov (.c (.fn 48 [] []))⟩]
abbrev c30_r3 : List Ins := [
  ⟨some 4, none, .mov (.t 1)⟩,
  ⟨some 5, none, .call (.t 4) [.c (.int .i64 0), .c (.int .i64 5)]⟩,
  ⟨some 6, none, .mov (.t 1)⟩,
  ⟨some 7, none, .call (.t 6) [.c (.int .i64 0), .c (.int .i64 7)]⟩,
  ⟨some 8, none, .build [.int .i64 0, .int .i64 0, .int .i64 0, .int .i64 0, .bool false] [(0, (2, .t 5)), (2, (2, .t 7))]⟩,
  ⟨some 9, none, .call (.c (.fn 31 [] [])) [.t 8, .c (.int .i64 1)]⟩,
  ⟨some 2, none, .mov (.t 9)⟩]
abbrev c30_r4 : List Ins := [
  ⟨some 10, none, .mov (.t 1)⟩,
  ⟨some 11, none, .call (.t 10) [.c (.int .i64 0), .c (.int .i64 5)]⟩,
  ⟨some 12, none, .mov (.t 1)⟩,
  ⟨some 13, none, .call (.t 12) [.c (.int .i64 (-1)), .c (.int .i64 7)]⟩,
  ⟨some 14, none, .build [.int .i64 0, .int .i64 0, .int .i64 0, .int .i64 0, .bool false] [(0, (2, .t 11)), (2, (2, .t 13))]⟩,
  ⟨some 15, none, .call (.c (.fn 31 [] [])) [.t 14, .c (.int .i64 1)]⟩,
  ⟨some 3, none, .mov (.t 15)⟩]
abbrev c30_r5 : List Ins := [
  ⟨some 16, none, .mov (.t 2)⟩,
  ⟨some 17, none, .build [.int .i64 0, .int .i64 0] [(0, (1, .c (.int .i64 5))), (1, (1, .c (.int .i64 106)))]⟩,
  ⟨some 18, none, .bsl 2 1 [.int .i64 0, .int .i64 0] [(0, .t 17)]⟩,
  ⟨some 19, none, .call (.c (.fn 13 [] [])) [.t 16, .t 18]⟩,
  ⟨some 20, none, .mov (.t 19)⟩,
  ⟨some 21, some (20, true), .mov (.t 3)⟩,
  ⟨some 22, some (20, true), .build [.int .i64 0, .int .i64 0] [(0, (1, .c (.int .i64 5))), (1, (1, .c (.int .i64 7)))]⟩,
  ⟨some 23, some (20, true), .bsl 2 1 [.int .i64 0, .int .i64 0] [(0, .t 22)]⟩,
  ⟨some 24, some (20, true), .call (.c (.fn 13 [] [])) [.t 21, .t 23]⟩,
  ⟨some 25, none, .pick (.t 20) (.t 24) (.c (.bool false))⟩,
  ⟨some 0, none, .mov (.t 25)⟩]
abbrev c30 : IR := .seq (.reg c30_r1) (.seq (.reg c30_r2) (.seq (.reg c30_r3) (.seq (.reg c30_r4) (.seq (.reg c30_r5) (.ret)))))
abbrev F30 : FnA := ⟨26, c30, [.t 0]⟩
theorem ok30 : cFn Try.prog 30 = some F30 := by kernel_rfl
theorem hb30 : HasBody Try.prog 30 := ⟨_, Try.func30, by kernel_rfl, by kernel_rfl⟩
/-! lint.Span -/
abbrev c31_r1 : List Ins := [
  ⟨some 2, none, .box (.t 0)⟩,
  ⟨some 4, none, .mov (.c (.sl .full []))⟩]
abbrev c31_r2 : List Ins := [
  ⟨some 5, none, .load 5 true (.t 2)⟩,
  ⟨some 6, none, .bsl 5 1 [.int .i64 0, .int .i64 0, .int .i64 0, .int .i64 0, .bool false] [(0, .t 5)]⟩,
  ⟨some 7, none, .mov (.t 1)⟩,
  ⟨some 8, none, .call (.c (.fn 36 [] [])) [.t 6, .t 7]⟩,
  ⟨some 9, none, .un .not (.t 8)⟩]
abbrev c31_r3 : List Ins := [
  ⟨some 4, none, .mov (.c (.sl .full []))⟩]
abbrev c31_r4 : List Ins := [
  ⟨some 10, none, .faddr 0 (.t 2)⟩,
  ⟨some 11, none, .faddr 0 (.t 10)⟩,
  ⟨some 12, none, .load 1 false (.t 11)⟩,
  ⟨some 13, none, .faddr 2 (.t 2)⟩,
  ⟨some 14, none, .faddr 0 (.t 13)⟩,
  ⟨some 15, none, .load 1 false (.t 14)⟩,
  ⟨some 16, none, .bin .eql (.t 12) (.t 15)⟩,
  ⟨some 17, none, .mov (.t 16)⟩,
  ⟨some 18, some (17, true), .faddr 0 (.t 2)⟩,
  ⟨some 19, some (17, true), .faddr 1 (.t 18)⟩,
  ⟨some 20, some (17, true), .load 1 false (.t 19)⟩,
  ⟨some 21, some (17, true), .faddr 2 (.t 2)⟩,
  ⟨some 22, some (17, true), .faddr 1 (.t 21)⟩,
  ⟨some 23, some (17, true), .load 1 false (.t 22)⟩,
  ⟨some 24, some (17, true), .bin .gtr (.t 20) (.t 23)⟩,
  ⟨some 25, none, .pick (.t 17) (.t 24) (.c (.bool false))⟩]
abbrev c31_r5 : List Ins := [
  ⟨some 4, none, .mov (.c (.sl .full []))⟩]
abbrev c31_r6 : List Ins := [
  ⟨some 26, none, .faddr 0 (.t 2)⟩,
  ⟨some 27, none, .faddr 1 (.t 26)⟩,
  ⟨some 28, none, .load 1 false (.t 27)⟩,
  ⟨some 29, none, .faddr 2 (.t 2)⟩,
  ⟨some 30, none, .load 2 true (.t 29)⟩,
  ⟨some 31, none, .call (.c (.fn 49 [] [])) [.t 30]⟩,
  ⟨some 32, none, .build [.int .i64 0, .int .i64 0] [(0, (1, .t 28)), (1, (1, .t 31))]⟩,
  ⟨some 33, none, .bsl 2 1 [.int .i64 0, .int .i64 0] [(0, .t 32)]⟩,
  ⟨some 34, none, .call (.c (.fn 14 [] [])) [.t 33]⟩,
  ⟨some 4, none, .mov (.t 34)⟩]
def c31_a6 : List (List Nat) := [[], [0], [1], [], [3], [4], [2, 5], [6], [7, 5], [8, 8, 0, 1, 2, 3, 4, 5, 6, 7, 8]]
abbrev c31_m6 : List Am.Mark := [⟨false, 0, 0⟩, ⟨false, 0, 0⟩, ⟨false, 0, 0⟩, ⟨false, 0, 0⟩, ⟨false, 0, 0⟩, ⟨false, 0, 0⟩, ⟨false, 0, 0⟩, ⟨false, 0, 0⟩, ⟨false, 0, 0⟩, ⟨false, 0, 0⟩]
theorem c31_d6 : drawFine c31_r6 c31_a6 c31_m6 = true := by decide +kernel
abbrev c31 : IR := .seq (.reg c31_r1) (.seq (.seq (.reg c31_r2) (.cond (.t 9) (.seq (.reg c31_r3) (.ret)) (.skip))) (.seq (.seq (.reg c31_r4) (.cond (.t 25) (.seq (.reg c31_r5) (.ret)) (.skip))) (.seq (.dreg c31_r6 c31_a6) (.ret))))
abbrev F31 : FnA := ⟨35, c31, [.t 4]⟩
theorem ok31 : cFn Try.prog 31 = some F31 := by kernel_rfl
theorem hb31 : HasBody Try.prog 31 := ⟨_, Try.func31, by kernel_rfl, by kernel_rfl⟩
/-! ref10.May -/
abbrev c32_r1 : List Ins := [
  ⟨some 4, none, .mov (.c (.bool false))⟩]
abbrev c32_r2 : List Ins := [
  ⟨some 6, none, .mov (.t 1)⟩,
  ⟨some 7, none, .bin .lss (.t 6) (.c (.int .i64 0))⟩,
  ⟨some 8, none, .mov (.t 7)⟩,
  ⟨some 9, some (8, false), .mov (.t 1)⟩,
  ⟨some 10, some (8, false), .bin .gtr (.t 9) (.c (.int .i64 3))⟩,
  ⟨some 11, none, .pick (.t 8) (.c (.bool true)) (.t 10)⟩,
  ⟨some 12, none, .mov (.t 11)⟩,
  ⟨some 13, some (12, false), .mov (.t 0)⟩,
  ⟨some 14, some (12, false), .len (.t 13)⟩,
  ⟨some 15, some (12, false), .bin .gtr (.t 14) (.c (.int .i64 4))⟩,
  ⟨some 16, none, .pick (.t 12) (.c (.bool true)) (.t 15)⟩]
abbrev c32_r3 : List Ins := [
  ⟨some 4, none, .mov (.c (.bool false))⟩]
abbrev c32_r4 : List Ins := [
  ⟨some 5, none, .mov (.c (.int .i64 0))⟩]
abbrev c32_r5 : List Ins := [
  ⟨some 17, none, .mov (.t 5)⟩,
  ⟨some 18, none, .mov (.t 0)⟩,
  ⟨some 19, none, .len (.t 18)⟩,
  ⟨some 20, none, .bin .lss (.t 17) (.t 19)⟩]
abbrev c32_r6 : List Ins := [
  ⟨some 23, none, .mov (.t 0)⟩,
  ⟨some 24, none, .mov (.t 5)⟩,
  ⟨some 25, none, .iaddr 5 (.t 23) (.t 24)⟩,
  ⟨some 26, none, .faddr 0 (.t 25)⟩,
  ⟨some 27, none, .load 2 true (.t 26)⟩,
  ⟨some 28, none, .mov (.t 1)⟩,
  ⟨some 29, none, .call (.c (.fn 50 [] [])) [.t 27, .t 28]⟩,
  ⟨some 30, none, .un .not (.t 29)⟩,
  ⟨some 31, none, .mov (.t 30)⟩,
  ⟨some 32, some (31, false), .mov (.t 0)⟩,
  ⟨some 33, some (31, false), .mov (.t 5)⟩,
  ⟨some 34, some (31, false), .iaddr 5 (.t 32) (.t 33)⟩,
  ⟨some 35, some (31, false), .faddr 2 (.t 34)⟩,
  ⟨some 36, some (31, false), .load 2 true (.t 35)⟩,
  ⟨some 37, some (31, false), .mov (.t 1)⟩,
  ⟨some 38, some (31, false), .call (.c (.fn 50 [] [])) [.t 36, .t 37]⟩,
  ⟨some 39, some (31, false), .un .not (.t 38)⟩,
  ⟨some 40, none, .pick (.t 31) (.c (.bool true)) (.t 39)⟩]
abbrev c32_r7 : List Ins := [
  ⟨some 4, none, .mov (.c (.bool false))⟩]
abbrev c32_r8 : List Ins := [
  ⟨some 21, none, .mov (.t 5)⟩,
  ⟨some 22, none, .bin .add (.t 21) (.c (.int .i64 1))⟩,
  ⟨some 5, none, .mov (.t 22)⟩]
abbrev c32_l9 : IR := .seq (.seq (.reg c32_r5) (.cond (.t 20) (.skip) (.exit 0))) (.seq (.blk 1 (.seq (.reg c32_r6) (.cond (.t 40) (.seq (.reg c32_r7) (.ret)) (.skip)))) (.reg c32_r8))
abbrev c32_r10 : List Ins := [
  ⟨some 4, none, .mov (.c (.bool true))⟩]
abbrev c32 : IR := .seq (.reg c32_r1) (.seq (.seq (.reg c32_r2) (.cond (.t 16) (.seq (.reg c32_r3) (.ret)) (.skip))) (.seq (.seq (.reg c32_r4) (.blk 0 (.loop c32_l9))) (.seq (.reg c32_r10) (.ret))))
abbrev F32 : FnA := ⟨41, c32, [.t 4]⟩
theorem ok32 : cFn Try.prog 32 = some F32 := by kernel_rfl
theorem hb32 : HasBody Try.prog 32 := ⟨_, Try.func32, by kernel_rfl, by kernel_rfl⟩
/-! ref27.Keys -/
abbrev c33_r1 : List Ins := [
  ⟨some 1, none, .box (.t 0)⟩,
  ⟨some 2, none, .mov (.c .nilptr)⟩]
abbrev c33_r2 : List Ins := [
  ⟨some 3, none, .alloc (List.replicate 1000 (.bool false))⟩]
abbrev c33_r3 : List Ins := [
  ⟨some 4, none, .mov (.c (.int .i64 0))⟩]
abbrev c33_r4 : List Ins := [
  ⟨some 9, none, .mov (.t 4)⟩,
  ⟨some 10, none, .bin .lss (.t 9) (.c (.int .i64 100))⟩]
abbrev c33_r5 : List Ins := [
  ⟨some 5, none, .mov (.c (.int .i64 0))⟩]
abbrev c33_r6 : List Ins := [
  ⟨some 13, none, .mov (.t 5)⟩,
  ⟨some 14, none, .bin .lss (.t 13) (.c (.int .i64 100))⟩]
abbrev c33_r7 : List Ins := [
  ⟨some 17, none, .faddr 0 (.t 1)⟩,
  ⟨some 18, none, .faddr 1 (.t 17)⟩,
  ⟨some 19, none, .load 1 false (.t 18)⟩,
  ⟨some 20, none, .faddr 2 (.t 1)⟩,
  ⟨some 21, none, .faddr 1 (.t 20)⟩,
  ⟨some 22, none, .load 1 false (.t 21)⟩,
  ⟨some 6, none, .mov (.t 19)⟩,
  ⟨some 7, none, .mov (.t 22)⟩]
def c33_a7 : List (List Nat) := [[], [0], [1], [], [3], [4], [2, 0, 1, 2], [5, 6, 0, 1, 2, 3, 4, 5, 6]]
abbrev c33_m7 : List Am.Mark := [⟨false, 0, 0⟩, ⟨false, 0, 0⟩, ⟨false, 0, 0⟩, ⟨false, 0, 0⟩, ⟨false, 0, 0⟩, ⟨false, 0, 0⟩, ⟨false, 0, 0⟩, ⟨false, 0, 0⟩]
theorem c33_d7 : drawFine c33_r7 c33_a7 c33_m7 = true := by decide +kernel
abbrev c33_r8 : List Ins := [
  ⟨some 23, none, .faddr 0 (.t 1)⟩,
  ⟨some 24, none, .faddr 0 (.t 23)⟩,
  ⟨some 25, none, .load 1 false (.t 24)⟩,
  ⟨some 26, none, .bin .geq (.t 25) (.c (.int .i64 0))⟩]
abbrev c33_r9 : List Ins := [
  ⟨some 27, none, .mov (.t 6)⟩,
  ⟨some 28, none, .mov (.t 4)⟩,
  ⟨some 29, none, .bin .add (.t 27) (.t 28)⟩,
  ⟨some 6, none, .mov (.t 29)⟩]
abbrev c33_r10 : List Ins := [
  ⟨some 30, none, .faddr 2 (.t 1)⟩,
  ⟨some 31, none, .faddr 0 (.t 30)⟩,
  ⟨some 32, none, .load 1 false (.t 31)⟩,
  ⟨some 33, none, .bin .geq (.t 32) (.c (.int .i64 0))⟩]
abbrev c33_r11 : List Ins := [
  ⟨some 34, none, .faddr 2 (.t 1)⟩,
  ⟨some 35, none, .faddr 0 (.t 34)⟩,
  ⟨some 36, none, .load 1 false (.t 35)⟩,
  ⟨some 37, none, .faddr 0 (.t 1)⟩,
  ⟨some 38, none, .faddr 0 (.t 37)⟩,
  ⟨some 39, none, .load 1 false (.t 38)⟩,
  ⟨some 40, none, .bin .eql (.t 36) (.t 39)⟩]
abbrev c33_r12 : List Ins := [
  ⟨some 41, none, .mov (.t 7)⟩,
  ⟨some 42, none, .mov (.t 4)⟩,
  ⟨some 43, none, .bin .add (.t 41) (.t 42)⟩,
  ⟨some 7, none, .mov (.t 43)⟩]
abbrev c33_r13 : List Ins := [
  ⟨some 44, none, .mov (.t 7)⟩,
  ⟨some 45, none, .mov (.t 5)⟩,
  ⟨some 46, none, .bin .add (.t 44) (.t 45)⟩,
  ⟨some 7, none, .mov (.t 46)⟩]
abbrev c33_r14 : List Ins := [
  ⟨some 47, none, .mov (.t 6)⟩,
  ⟨some 8, none, .mov (.t 47)⟩]
abbrev c33_r15 : List Ins := [
  ⟨some 48, none, .mov (.t 8)⟩,
  ⟨some 49, none, .mov (.t 7)⟩,
  ⟨some 50, none, .bin .leq (.t 48) (.t 49)⟩]
abbrev c33_r16 : List Ins := [
  ⟨some 53, none, .mov (.t 8)⟩,
  ⟨some 54, none, .iaddrA 1000 1 (.t 3) (.t 53)⟩,
  ⟨none, none, .store 1 (.t 54) (.c (.bool true))⟩]
abbrev c33_r17 : List Ins := [
  ⟨some 51, none, .mov (.t 8)⟩,
  ⟨some 52, none, .bin .add (.t 51) (.c (.int .i64 1))⟩,
  ⟨some 8, none, .mov (.t 52)⟩]
abbrev c33_l18 : IR := .seq (.seq (.reg c33_r15) (.cond (.t 50) (.skip) (.exit 4))) (.seq (.blk 5 (.reg c33_r16)) (.reg c33_r17))
abbrev c33_r19 : List Ins := [
  ⟨some 15, none, .mov (.t 5)⟩,
  ⟨some 16, none, .bin .add (.t 15) (.c (.int .i64 99))⟩,
  ⟨some 5, none, .mov (.t 16)⟩]
abbrev c33_l20 : IR := .seq (.seq (.reg c33_r6) (.cond (.t 14) (.skip) (.exit 2))) (.seq (.blk 3 (.seq (.dreg c33_r7 c33_a7) (.seq (.seq (.reg c33_r8) (.cond (.t 26) (.reg c33_r9) (.skip))) (.seq (.seq (.reg c33_r10) (.cond (.t 33) (.seq (.reg c33_r11) (.cond (.t 40) (.reg c33_r12) (.reg c33_r13))) (.skip))) (.seq (.reg c33_r14) (.blk 4 (.loop c33_l18))))))) (.reg c33_r19))
abbrev c33_r21 : List Ins := [
  ⟨some 11, none, .mov (.t 4)⟩,
  ⟨some 12, none, .bin .add (.t 11) (.c (.int .i64 1))⟩,
  ⟨some 4, none, .mov (.t 12)⟩]
abbrev c33_l22 : IR := .seq (.seq (.reg c33_r4) (.cond (.t 10) (.skip) (.exit 0))) (.seq (.blk 1 (.seq (.reg c33_r5) (.blk 2 (.loop c33_l20)))) (.reg c33_r21))
abbrev c33_r23 : List Ins := [
  ⟨some 2, none, .mov (.t 3)⟩]
abbrev c33 : IR := .seq (.reg c33_r1) (.seq (.reg c33_r2) (.seq (.seq (.reg c33_r3) (.blk 0 (.loop c33_l22))) (.seq (.reg c33_r23) (.ret))))
abbrev F33 : FnA := ⟨55, c33, [.t 2]⟩
theorem ok33 : cFn Try.prog 33 = some F33 := by kernel_rfl
theorem hb33 : HasBody Try.prog 33 := ⟨_, Try.func33, by kernel_rfl, by kernel_rfl⟩
/-! foot.May -/
abbrev c36_r1 : List Ins := [
  ⟨some 3, none, .box (.t 1)⟩,
  ⟨some 4, none, .mov (.c (.bool false))⟩]
abbrev c36_r2 : List Ins := [
  ⟨some 6, none, .mkfn 55 [] [.t 3]⟩,
  ⟨some 5, none, .mov (.t 6)⟩]
abbrev c36_r3 : List Ins := [
  ⟨some 7, none, .load 1 false (.t 3)⟩,
  ⟨some 8, none, .bin .geq (.t 7) (.c (.int .i64 0))⟩,
  ⟨some 9, none, .mov (.t 8)⟩,
  ⟨some 10, some (9, true), .load 1 false (.t 3)⟩,
  ⟨some 11, some (9, true), .bin .leq (.t 10) (.c (.int .i64 3))⟩,
  ⟨some 12, none, .pick (.t 9) (.t 11) (.c (.bool false))⟩,
  ⟨some 13, none, .mov (.t 12)⟩,
  ⟨some 14, some (13, true), .mov (.t 0)⟩,
  ⟨some 15, some (13, true), .len (.t 14)⟩,
  ⟨some 16, some (13, true), .bin .leq (.t 15) (.c (.int .i64 4))⟩,
  ⟨some 17, none, .pick (.t 13) (.t 16) (.c (.bool false))⟩,
  ⟨some 18, none, .mov (.t 17)⟩,
  ⟨some 19, some (18, true), .mov (.t 0)⟩,
  ⟨some 20, some (18, true), .mov (.t 5)⟩,
  ⟨some 21, some (18, true), .call (.c (.fn 58 [] [])) [.t 19, .t 20]⟩,
  ⟨some 22, some (18, true), .un .not (.t 21)⟩,
  ⟨some 23, none, .pick (.t 18) (.t 22) (.c (.bool false))⟩,
  ⟨some 4, none, .mov (.t 23)⟩]
abbrev c36 : IR := .seq (.reg c36_r1) (.seq (.reg c36_r2) (.seq (.reg c36_r3) (.ret)))
abbrev F36 : FnA := ⟨24, c36, [.t 4]⟩
theorem ok36 : cFn Try.prog 36 = some F36 := by kernel_rfl
theorem hb36 : HasBody Try.prog 36 := ⟨_, Try.func36, by kernel_rfl, by kernel_rfl⟩
/-! keys.plain -/
abbrev c41_r1 : List Ins := [
  ⟨some 2, none, .mov (.c (.sl .full []))⟩]
abbrev c41_r2 : List Ins := [
  ⟨some 8, none, .mov (.t 0)⟩,
  ⟨some 9, none, .call (.c (.fn 62 [] [])) [.t 8]⟩,
  ⟨some 10, none, .call (.c (.fn 61 [] [])) [.t 9, .c (.fn 63 [] [])]⟩,
  ⟨some 3, none, .mov (.t 10)⟩]
abbrev c41_r3 : List Ins := [
  ⟨some 11, none, .mov (.t 3)⟩,
  ⟨some 12, none, .call (.c (.fn 64 [] [])) [.t 11, .c (.fn 65 [] [])]⟩]
abbrev c41_r4 : List Ins := [
  ⟨some 4, none, .mov (.c (.sl .full []))⟩]
abbrev c41_r5 : List Ins := [
  ⟨some 13, none, .mov (.t 3)⟩,
  ⟨some 14, none, .len (.t 13)⟩,
  ⟨some 15, none, .mov (.c (.int .i64 0))⟩]
abbrev c41_r6 : List Ins := [
  ⟨some 16, none, .bin .lss (.t 15) (.t 14)⟩]
abbrev c41_r7 : List Ins := [
  ⟨some 17, none, .iaddr 2 (.t 13) (.t 15)⟩,
  ⟨some 18, none, .load 2 true (.t 17)⟩,
  ⟨some 6, none, .alloc [.int .i64 0, .int .i64 0]⟩,
  ⟨none, none, .store 2 (.t 6) (.t 18)⟩]
abbrev c41_r8 : List Ins := [
  ⟨some 19, none, .mov (.t 4)⟩,
  ⟨some 20, none, .len (.t 19)⟩,
  ⟨some 7, none, .mov (.t 20)⟩]
abbrev c41_r9 : List Ins := [
  ⟨some 21, none, .mov (.t 7)⟩,
  ⟨some 22, none, .bin .gtr (.t 21) (.c (.int .i64 0))⟩,
  ⟨some 23, none, .mov (.t 22)⟩,
  ⟨some 24, some (23, true), .faddr 0 (.t 6)⟩,
  ⟨some 25, some (23, true), .load 1 false (.t 24)⟩,
  ⟨some 26, some (23, true), .mov (.t 4)⟩,
  ⟨some 27, some (23, true), .mov (.t 7)⟩,
  ⟨some 28, some (23, true), .bin .sub (.t 27) (.c (.int .i64 1))⟩,
  ⟨some 29, some (23, true), .iaddr 2 (.t 26) (.t 28)⟩,
  ⟨some 30, some (23, true), .faddr 1 (.t 29)⟩,
  ⟨some 31, some (23, true), .load 1 false (.t 30)⟩,
  ⟨some 32, some (23, true), .bin .add (.t 31) (.c (.int .i64 1))⟩,
  ⟨some 33, some (23, true), .bin .leq (.t 25) (.t 32)⟩,
  ⟨some 34, none, .pick (.t 23) (.t 33) (.c (.bool false))⟩]
def c41_a9 : List (List Nat) := [[], [0], [1], [2], [3, 2], [2], [2], [6, 2], [5, 7, 2], [8, 2], [9, 2], [10, 2], [4, 11, 2], [2, 12]]
abbrev c41_m9 : List Am.Mark := [⟨false, 0, 0⟩, ⟨false, 0, 0⟩, ⟨false, 0, 0⟩, ⟨false, 0, 0⟩, ⟨false, 0, 0⟩, ⟨false, 0, 0⟩, ⟨false, 0, 0⟩, ⟨false, 0, 0⟩, ⟨false, 0, 0⟩, ⟨false, 0, 0⟩, ⟨false, 0, 0⟩, ⟨false, 0, 0⟩, ⟨false, 0, 0⟩, ⟨false, 0, 0⟩]
theorem c41_d9 : drawFine c41_r9 c41_a9 c41_m9 = true := by decide +kernel
abbrev c41_r10 : List Ins := [
  ⟨some 35, none, .mov (.t 4)⟩,
  ⟨some 36, none, .mov (.t 7)⟩,
  ⟨some 37, none, .bin .sub (.t 36) (.c (.int .i64 1))⟩,
  ⟨some 38, none, .mov (.t 4)⟩,
  ⟨some 39, none, .mov (.t 7)⟩,
  ⟨some 40, none, .bin .sub (.t 39) (.c (.int .i64 1))⟩,
  ⟨some 41, none, .iaddr 2 (.t 38) (.t 40)⟩,
  ⟨some 42, none, .faddr 1 (.t 41)⟩,
  ⟨some 43, none, .load 1 false (.t 42)⟩,
  ⟨some 44, none, .faddr 1 (.t 6)⟩,
  ⟨some 45, none, .load 1 false (.t 44)⟩,
  ⟨some 46, none, .mx [.t 43, .t 45]⟩,
  ⟨some 47, none, .iaddr 2 (.t 35) (.t 37)⟩,
  ⟨some 48, none, .faddr 1 (.t 47)⟩,
  ⟨none, none, .store 1 (.t 48) (.t 46)⟩]
def c41_a10 : List (List Nat) := [[], [], [1], [], [], [4], [3, 5], [6], [7], [], [9], [8, 10], [0, 2, 0, 1, 2, 3, 4, 5, 6, 7, 8, 9, 10, 11], [12, 0, 1, 2, 3, 4, 5, 6, 7, 8, 9, 10, 11], [13, 11, 0, 1, 2, 3, 4, 5, 6, 7, 8, 9, 10, 11]]
abbrev c41_m10 : List Am.Mark := [⟨false, 0, 0⟩, ⟨false, 0, 0⟩, ⟨false, 0, 0⟩, ⟨false, 0, 0⟩, ⟨false, 0, 0⟩, ⟨false, 0, 0⟩, ⟨false, 0, 0⟩, ⟨false, 0, 0⟩, ⟨false, 0, 0⟩, ⟨false, 0, 0⟩, ⟨false, 0, 0⟩, ⟨false, 0, 0⟩, ⟨false, 0, 1⟩, ⟨false, 0, 0⟩, ⟨true, 0, 1⟩]
theorem c41_d10 : drawFine c41_r10 c41_a10 c41_m10 = true := by decide +kernel
abbrev c41_r11 : List Ins := [
  ⟨some 49, none, .mov (.t 4)⟩,
  ⟨some 50, none, .load 2 true (.t 6)⟩,
  ⟨some 51, none, .bsl 2 1 [.int .i64 0, .int .i64 0] [(0, .t 50)]⟩,
  ⟨some 52, none, .append 2 16 (.t 49) (.t 51)⟩,
  ⟨some 4, none, .mov (.t 52)⟩]
abbrev c41_r12 : List Ins := [
  ⟨some 53, none, .bin .add (.t 15) (.c (.int .i64 1))⟩,
  ⟨some 15, none, .mov (.t 53)⟩]
abbrev c41_l13 : IR := .seq (.reg c41_r6) (.seq (.cond (.t 16) (.skip) (.exit 0)) (.seq (.blk 1 (.seq (.reg c41_r7) (.seq (.reg c41_r8) (.seq (.seq (.dreg c41_r9 c41_a9) (.cond (.t 34) (.seq (.dreg c41_r10 c41_a10) (.exit 1)) (.skip))) (.reg c41_r11))))) (.reg c41_r12)))
abbrev c41_r14 : List Ins := [
  ⟨some 54, none, .mov (.t 4)⟩,
  ⟨some 2, none, .mov (.t 54)⟩]
abbrev c41 : IR := .seq (.reg c41_r1) (.seq (.reg c41_r2) (.seq (.reg c41_r3) (.seq (.reg c41_r4) (.seq (.seq (.reg c41_r5) (.blk 0 (.loop c41_l13))) (.seq (.reg c41_r14) (.ret))))))
abbrev F41 : FnA := ⟨55, c41, [.t 2]⟩
theorem ok41 : cFn Try.prog 41 = some F41 := by kernel_rfl
theorem hb41 : HasBody Try.prog 41 := ⟨_, Try.func41, by kernel_rfl, by kernel_rfl⟩
/-! slices.Collect:Span -/
abbrev c42_r1 : List Ins := [
  ⟨some 2, none, .mov (.c (.sl .full []))⟩]
abbrev c42_r2 : List Ins := [
  ⟨some 3, none, .mov (.t 0)⟩,
  ⟨some 4, none, .call (.c (.fn 67 [] [])) [.c (.sl .full []), .t 3]⟩,
  ⟨some 2, none, .mov (.t 4)⟩]
abbrev c42 : IR := .seq (.reg c42_r1) (.seq (.reg c42_r2) (.ret))
abbrev F42 : FnA := ⟨5, c42, [.t 2]⟩
theorem ok42 : cFn Try.prog 42 = some F42 := by kernel_rfl
theorem hb42 : HasBody Try.prog 42 := ⟨_, Try.func42, by kernel_rfl, by kernel_rfl⟩
/-! keys.meets -/
abbrev c43_r1 : List Ins := [
  ⟨some 2, none, .box (.t 0)⟩,
  ⟨some 3, none, .box (.t 1)⟩,
  ⟨some 4, none, .mov (.c .nilfn)⟩]
abbrev c43_r2 : List Ins := [
  ⟨some 5, none, .mkfn 68 [] [.t 2, .t 3]⟩,
  ⟨some 4, none, .mov (.t 5)⟩]
abbrev c43 : IR := .seq (.reg c43_r1) (.seq (.reg c43_r2) (.ret))
abbrev F43 : FnA := ⟨6, c43, [.t 4]⟩
theorem ok43 : cFn Try.prog 43 = some F43 := by kernel_rfl
theorem hb43 : HasBody Try.prog 43 := ⟨_, Try.func43, by kernel_rfl, by kernel_rfl⟩
/-! keys.others -/
abbrev c44_r1 : List Ins := [
  ⟨some 2, none, .mov (.c (.sl .full []))⟩]
abbrev c44_r2 : List Ins := [
  ⟨some 3, none, .mov (.c (.sl .full []))⟩]
abbrev c44_r3 : List Ins := [
  ⟨some 4, none, .mov (.c (.int .i64 0))⟩]
abbrev c44_r4 : List Ins := [
  ⟨some 7, none, .mov (.t 0)⟩,
  ⟨some 8, none, .len (.t 7)⟩,
  ⟨some 9, none, .mov (.c (.int .i64 0))⟩]
abbrev c44_r5 : List Ins := [
  ⟨some 10, none, .bin .lss (.t 9) (.t 8)⟩]
abbrev c44_r6 : List Ins := [
  ⟨some 11, none, .iaddr 2 (.t 7) (.t 9)⟩,
  ⟨some 12, none, .load 2 true (.t 11)⟩,
  ⟨some 6, none, .alloc [.int .i64 0, .int .i64 0]⟩,
  ⟨none, none, .store 2 (.t 6) (.t 12)⟩]
abbrev c44_r7 : List Ins := [
  ⟨some 13, none, .mov (.t 3)⟩,
  ⟨some 14, none, .mov (.t 4)⟩,
  ⟨some 15, none, .faddr 0 (.t 6)⟩,
  ⟨some 16, none, .load 1 false (.t 15)⟩,
  ⟨some 17, none, .bin .sub (.t 16) (.c (.int .i64 1))⟩,
  ⟨some 18, none, .build [.int .i64 0, .int .i64 0] [(0, (1, .t 14)), (1, (1, .t 17))]⟩,
  ⟨some 19, none, .bsl 2 1 [.int .i64 0, .int .i64 0] [(0, .t 18)]⟩,
  ⟨some 20, none, .append 2 16 (.t 13) (.t 19)⟩,
  ⟨some 3, none, .mov (.t 20)⟩]
abbrev c44_r8 : List Ins := [
  ⟨some 21, none, .faddr 1 (.t 6)⟩,
  ⟨some 22, none, .load 1 false (.t 21)⟩,
  ⟨some 23, none, .bin .add (.t 22) (.c (.int .i64 1))⟩,
  ⟨some 4, none, .mov (.t 23)⟩]
abbrev c44_r9 : List Ins := [
  ⟨some 24, none, .bin .add (.t 9) (.c (.int .i64 1))⟩,
  ⟨some 9, none, .mov (.t 24)⟩]
abbrev c44_l10 : IR := .seq (.reg c44_r5) (.seq (.cond (.t 10) (.skip) (.exit 0)) (.seq (.blk 1 (.seq (.reg c44_r6) (.seq (.reg c44_r7) (.reg c44_r8)))) (.reg c44_r9)))
abbrev c44_r11 : List Ins := [
  ⟨some 25, none, .mov (.t 3)⟩,
  ⟨some 26, none, .mov (.t 4)⟩,
  ⟨some 27, none, .build [.int .i64 0, .int .i64 0] [(0, (1, .t 26)), (1, (1, .c (.int .i64 999)))]⟩,
  ⟨some 28, none, .bsl 2 1 [.int .i64 0, .int .i64 0] [(0, .t 27)]⟩,
  ⟨some 29, none, .append 2 16 (.t 25) (.t 28)⟩,
  ⟨some 30, none, .bsl 1 1 [.sl .full []] [(0, .t 29)]⟩,
  ⟨some 31, none, .call (.c (.fn 41 [] [])) [.t 30]⟩,
  ⟨some 2, none, .mov (.t 31)⟩]
abbrev c44 : IR := .seq (.reg c44_r1) (.seq (.reg c44_r2) (.seq (.reg c44_r3) (.seq (.seq (.reg c44_r4) (.blk 0 (.loop c44_l10))) (.seq (.reg c44_r11) (.ret)))))
abbrev F44 : FnA := ⟨32, c44, [.t 2]⟩
theorem ok44 : cFn Try.prog 44 = some F44 := by kernel_rfl
theorem hb44 : HasBody Try.prog 44 := ⟨_, Try.func44, by kernel_rfl, by kernel_rfl⟩
/-! slices.ContainsFunc:Span -/
abbrev c46_r1 : List Ins := [
  ⟨some 4, none, .mov (.c (.bool false))⟩]
abbrev c46_r2 : List Ins := [
  ⟨some 5, none, .mov (.t 0)⟩,
  ⟨some 6, none, .mov (.t 1)⟩,
  ⟨some 7, none, .call (.c (.fn 71 [] [])) [.t 5, .t 6]⟩,
  ⟨some 8, none, .bin .geq (.t 7) (.c (.int .i64 0))⟩,
  ⟨some 4, none, .mov (.t 8)⟩]
abbrev c46 : IR := .seq (.reg c46_r1) (.seq (.reg c46_r2) (.ret))
abbrev F46 : FnA := ⟨9, c46, [.t 4]⟩
theorem ok46 : cFn Try.prog 46 = some F46 := by kernel_rfl
theorem hb46 : HasBody Try.prog 46 := ⟨_, Try.func46, by kernel_rfl, by kernel_rfl⟩
/-! keys.Has$1 -/
abbrev c47_r1 : List Ins := [
  ⟨some 2, none, .box (.t 0)⟩,
  ⟨some 3, none, .mov (.c (.bool false))⟩]
abbrev c47_r2 : List Ins := [
  ⟨some 4, none, .load 2 true (.t 2)⟩,
  ⟨some 5, none, .call (.c (.fn 15 [] [])) [.t 4]⟩,
  ⟨some 6, none, .mov (.t 5)⟩,
  ⟨some 7, some (6, true), .load 1 false (.t 1)⟩,
  ⟨some 8, some (6, true), .faddr 0 (.t 2)⟩,
  ⟨some 9, some (6, true), .load 1 false (.t 8)⟩,
  ⟨some 10, some (6, true), .bin .geq (.t 7) (.t 9)⟩,
  ⟨some 11, none, .pick (.t 6) (.t 10) (.c (.bool false))⟩,
  ⟨some 12, none, .mov (.t 11)⟩,
  ⟨some 13, some (12, true), .load 1 false (.t 1)⟩,
  ⟨some 14, some (12, true), .faddr 1 (.t 2)⟩,
  ⟨some 15, some (12, true), .load 1 false (.t 14)⟩,
  ⟨some 16, some (12, true), .bin .leq (.t 13) (.t 15)⟩,
  ⟨some 17, none, .pick (.t 12) (.t 16) (.c (.bool false))⟩,
  ⟨some 3, none, .mov (.t 17)⟩]
abbrev c47 : IR := .seq (.reg c47_r1) (.seq (.reg c47_r2) (.ret))
abbrev F47 : FnA := ⟨18, c47, [.t 3]⟩
theorem ok47 : cFn Try.prog 47 = some F47 := by kernel_rfl
theorem hb47 : HasBody Try.prog 47 := ⟨_, Try.func47, by kernel_rfl, by kernel_rfl⟩
/-! law27.alive$1 -/
abbrev c48_r1 : List Ins := [
  ⟨some 4, none, .alloc [.int .i64 0, .int .i64 0]⟩]
abbrev c48_r2 : List Ins := [
  ⟨some 5, none, .mov (.t 0)⟩,
  ⟨some 6, none, .mov (.t 1)⟩,
  ⟨some 7, none, .build [.int .i64 0, .int .i64 0] [(0, (1, .t 5)), (1, (1, .t 6))]⟩,
  ⟨none, none, .store 2 (.t 4) (.t 7)⟩]
abbrev c48 : IR := .seq (.reg c48_r1) (.seq (.reg c48_r2) (.ret))
abbrev F48 : FnA := ⟨8, c48, [.cell 4 2 true]⟩
theorem ok48 : cFn Try.prog 48 = some F48 := by kernel_rfl
theorem hb48 : HasBody Try.prog 48 := ⟨_, Try.func48, by kernel_rfl, by kernel_rfl⟩
/-! lint.most -/
abbrev c49_r1 : List Ins := [
  ⟨some 1, none, .box (.t 0)⟩,
  ⟨some 2, none, .mov (.c (.int .i64 0))⟩]
abbrev c49_r2 : List Ins := [
  ⟨some 3, none, .faddr 0 (.t 1)⟩,
  ⟨some 4, none, .load 1 false (.t 3)⟩,
  ⟨some 5, none, .bin .lss (.t 4) (.c (.int .i64 0))⟩]
abbrev c49_r3 : List Ins := [
  ⟨some 6, none, .faddr 1 (.t 1)⟩,
  ⟨some 7, none, .load 1 false (.t 6)⟩,
  ⟨some 2, none, .mov (.t 7)⟩]
abbrev c49_r4 : List Ins := [
  ⟨some 8, none, .faddr 1 (.t 1)⟩,
  ⟨some 9, none, .load 1 false (.t 8)⟩,
  ⟨some 10, none, .bin .add (.t 9) (.c (.int .i64 99))⟩,
  ⟨some 2, none, .mov (.t 10)⟩]
abbrev c49 : IR := .seq (.reg c49_r1) (.seq (.seq (.reg c49_r2) (.cond (.t 5) (.seq (.reg c49_r3) (.ret)) (.skip))) (.seq (.reg c49_r4) (.ret)))
abbrev F49 : FnA := ⟨11, c49, [.t 2]⟩
theorem ok49 : cFn Try.prog 49 = some F49 := by kernel_rfl
theorem hb49 : HasBody Try.prog 49 := ⟨_, Try.func49, by kernel_rfl, by kernel_rfl⟩
/-! ref09.MayKey -/
abbrev c50_r1 : List Ins := [
  ⟨some 2, none, .box (.t 0)⟩,
  ⟨some 4, none, .mov (.c (.bool false))⟩]
abbrev c50_r2 : List Ins := [
  ⟨some 5, none, .faddr 0 (.t 2)⟩,
  ⟨some 6, none, .load 1 false (.t 5)⟩,
  ⟨some 7, none, .bin .geq (.t 6) (.c (.int .i64 (-1)))⟩,
  ⟨some 8, none, .mov (.t 7)⟩,
  ⟨some 9, some (8, true), .faddr 0 (.t 2)⟩,
  ⟨some 10, some (8, true), .load 1 false (.t 9)⟩,
  ⟨some 11, some (8, true), .mov (.t 1)⟩,
  ⟨some 12, some (8, true), .bin .lss (.t 10) (.t 11)⟩,
  ⟨some 13, none, .pick (.t 8) (.t 12) (.c (.bool false))⟩,
  ⟨some 14, none, .mov (.t 13)⟩,
  ⟨some 15, some (14, true), .faddr 1 (.t 2)⟩,
  ⟨some 16, some (14, true), .load 1 false (.t 15)⟩,
  ⟨some 17, some (14, true), .bin .geq (.t 16) (.c (.int .i64 0))⟩,
  ⟨some 18, none, .pick (.t 14) (.t 17) (.c (.bool false))⟩,
  ⟨some 19, none, .mov (.t 18)⟩,
  ⟨some 20, some (19, true), .faddr 1 (.t 2)⟩,
  ⟨some 21, some (19, true), .load 1 false (.t 20)⟩,
  ⟨some 22, some (19, true), .bin .leq (.t 21) (.c (.int .i64 900))⟩,
  ⟨some 23, none, .pick (.t 19) (.t 22) (.c (.bool false))⟩,
  ⟨some 4, none, .mov (.t 23)⟩]
abbrev c50 : IR := .seq (.reg c50_r1) (.seq (.reg c50_r2) (.ret))
abbrev F50 : FnA := ⟨24, c50, [.t 4]⟩
theorem ok50 : cFn Try.prog 50 = some F50 := by kernel_rfl
theorem hb50 : HasBody Try.prog 50 := ⟨_, Try.func50, by kernel_rfl, by kernel_rfl⟩
/-! foot.May$1 -/
abbrev c55_r1 : List Ins := [
  ⟨some 2, none, .box (.t 0)⟩,
  ⟨some 3, none, .mov (.c (.bool false))⟩]
abbrev c55_r2 : List Ins := [
  ⟨some 4, none, .faddr 0 (.t 2)⟩,
  ⟨some 5, none, .load 2 true (.t 4)⟩,
  ⟨some 6, none, .call (.c (.fn 57 [] [])) [.t 5]⟩,
  ⟨some 7, none, .load 1 false (.t 1)⟩,
  ⟨some 8, none, .call (.c (.fn 56 [] [])) [.t 6, .t 7]⟩,
  ⟨some 9, none, .un .not (.t 8)⟩,
  ⟨some 10, none, .mov (.t 9)⟩,
  ⟨some 11, some (10, false), .faddr 2 (.t 2)⟩,
  ⟨some 12, some (10, false), .load 2 true (.t 11)⟩,
  ⟨some 13, some (10, false), .call (.c (.fn 57 [] [])) [.t 12]⟩,
  ⟨some 14, some (10, false), .load 1 false (.t 1)⟩,
  ⟨some 15, some (10, false), .call (.c (.fn 56 [] [])) [.t 13, .t 14]⟩,
  ⟨some 16, some (10, false), .un .not (.t 15)⟩,
  ⟨some 17, none, .pick (.t 10) (.c (.bool true)) (.t 16)⟩,
  ⟨some 3, none, .mov (.t 17)⟩]
def c55_a2 : List (List Nat) := [[], [0], [1], [], [2, 3, 2], [4], [5, 4], [6], [7, 6], [8, 6, 6], [6], [9, 10, 9, 6], [11, 6], [6, 12], [13, 11, 0, 1, 2, 3, 4, 5, 6, 7, 8, 9, 10, 11, 12, 13]]
abbrev c55_m2 : List Am.Mark := [⟨false, 0, 0⟩, ⟨false, 0, 0⟩, ⟨false, 0, 0⟩, ⟨false, 0, 0⟩, ⟨false, 0, 0⟩, ⟨false, 0, 0⟩, ⟨false, 0, 0⟩, ⟨false, 0, 0⟩, ⟨false, 0, 0⟩, ⟨false, 0, 0⟩, ⟨false, 0, 0⟩, ⟨false, 0, 0⟩, ⟨false, 0, 0⟩, ⟨false, 0, 0⟩, ⟨false, 0, 0⟩]
theorem c55_d2 : drawFine c55_r2 c55_a2 c55_m2 = true := by decide +kernel
abbrev c55 : IR := .seq (.reg c55_r1) (.seq (.dreg c55_r2 c55_a2) (.ret))
abbrev F55 : FnA := ⟨18, c55, [.t 3]⟩
theorem ok55 : cFn Try.prog 55 = some F55 := by kernel_rfl
theorem hb55 : HasBody Try.prog 55 := ⟨_, Try.func55, by kernel_rfl, by kernel_rfl⟩
/-! prog.May -/
abbrev c56_r1 : List Ins := [
  ⟨some 3, none, .box (.t 1)⟩,
  ⟨some 4, none, .mov (.c (.bool false))⟩]
abbrev c56_r2 : List Ins := [
  ⟨some 5, none, .load 1 false (.t 3)⟩,
  ⟨some 6, none, .bin .lss (.t 5) (.c (.int .i64 0))⟩,
  ⟨some 7, none, .mov (.t 6)⟩,
  ⟨some 8, some (7, false), .load 1 false (.t 3)⟩,
  ⟨some 9, some (7, false), .bin .gtr (.t 8) (.c (.int .i64 3))⟩,
  ⟨some 10, none, .pick (.t 7) (.c (.bool true)) (.t 9)⟩,
  ⟨some 11, none, .mov (.t 10)⟩,
  ⟨some 12, some (11, false), .mov (.t 0)⟩,
  ⟨some 13, some (11, false), .len (.t 12)⟩,
  ⟨some 14, some (11, false), .bin .lss (.t 13) (.c (.int .i64 1))⟩,
  ⟨some 15, none, .pick (.t 11) (.c (.bool true)) (.t 14)⟩,
  ⟨some 16, none, .mov (.t 15)⟩,
  ⟨some 17, some (16, false), .mov (.t 0)⟩,
  ⟨some 18, some (16, false), .len (.t 17)⟩,
  ⟨some 19, some (16, false), .bin .gtr (.t 18) (.c (.int .i64 8))⟩,
  ⟨some 20, none, .pick (.t 16) (.c (.bool true)) (.t 19)⟩]
abbrev c56_r3 : List Ins := [
  ⟨some 4, none, .mov (.c (.bool false))⟩]
abbrev c56_r4 : List Ins := [
  ⟨some 21, none, .mov (.t 0)⟩,
  ⟨some 22, none, .mkfn 74 [] [.t 3]⟩,
  ⟨some 23, none, .call (.c (.fn 73 [] [])) [.t 21, .t 22]⟩,
  ⟨some 24, none, .un .not (.t 23)⟩,
  ⟨some 4, none, .mov (.t 24)⟩]
abbrev c56 : IR := .seq (.reg c56_r1) (.seq (.seq (.reg c56_r2) (.cond (.t 20) (.seq (.reg c56_r3) (.ret)) (.skip))) (.seq (.reg c56_r4) (.ret)))
abbrev F56 : FnA := ⟨25, c56, [.t 4]⟩
theorem ok56 : cFn Try.prog 56 = some F56 := by kernel_rfl
theorem hb56 : HasBody Try.prog 56 := ⟨_, Try.func56, by kernel_rfl, by kernel_rfl⟩
/-! foot.reads -/
abbrev c57_r1 : List Ins := [
  ⟨some 1, none, .box (.t 0)⟩,
  ⟨some 2, none, .mov (.c (.sl .full []))⟩]
abbrev c57_r2 : List Ins := [
  ⟨some 3, none, .load 2 true (.t 1)⟩,
  ⟨some 4, none, .build [.int .i64 0, .int .i64 0, .int .i64 0, .int .i64 0, .int .i64 0, .int .i64 0, .int .i64 0, .int .i64 0, .int .i64 0] [(0, (1, .c (.int .i64 1))), (4, (2, .t 3))]⟩,
  ⟨some 5, none, .bsl 9 1 [.int .i64 0, .int .i64 0, .int .i64 0, .int .i64 0, .int .i64 0, .int .i64 0, .int .i64 0, .int .i64 0, .int .i64 0] [(0, .t 4)]⟩,
  ⟨some 2, none, .mov (.t 5)⟩]
abbrev c57 : IR := .seq (.reg c57_r1) (.seq (.reg c57_r2) (.ret))
abbrev F57 : FnA := ⟨6, c57, [.t 2]⟩
theorem ok57 : cFn Try.prog 57 = some F57 := by kernel_rfl
theorem hb57 : HasBody Try.prog 57 := ⟨_, Try.func57, by kernel_rfl, by kernel_rfl⟩
/-! slices.ContainsFunc:SpanT -/
abbrev c58_r1 : List Ins := [
  ⟨some 4, none, .mov (.c (.bool false))⟩]
abbrev c58_r2 : List Ins := [
  ⟨some 5, none, .mov (.t 0)⟩,
  ⟨some 6, none, .mov (.t 1)⟩,
  ⟨some 7, none, .call (.c (.fn 76 [] [])) [.t 5, .t 6]⟩,
  ⟨some 8, none, .bin .geq (.t 7) (.c (.int .i64 0))⟩,
  ⟨some 4, none, .mov (.t 8)⟩]
abbrev c58 : IR := .seq (.reg c58_r1) (.seq (.reg c58_r2) (.ret))
abbrev F58 : FnA := ⟨9, c58, [.t 4]⟩
theorem ok58 : cFn Try.prog 58 = some F58 := by kernel_rfl
theorem hb58 : HasBody Try.prog 58 := ⟨_, Try.func58, by kernel_rfl, by kernel_rfl⟩
/-! slices.DeleteFunc:Span -/
abbrev c61_r1 : List Ins := [
  ⟨some 4, none, .mov (.c (.sl .full []))⟩]
abbrev c61_r2 : List Ins := [
  ⟨some 8, none, .mov (.t 0)⟩,
  ⟨some 9, none, .mov (.t 1)⟩,
  ⟨some 10, none, .call (.c (.fn 71 [] [])) [.t 8, .t 9]⟩,
  ⟨some 5, none, .mov (.t 10)⟩]
abbrev c61_r3 : List Ins := [
  ⟨some 11, none, .mov (.t 5)⟩,
  ⟨some 12, none, .bin .eql (.t 11) (.c (.int .i64 (-1)))⟩]
abbrev c61_r4 : List Ins := [
  ⟨some 13, none, .mov (.t 0)⟩,
  ⟨some 4, none, .mov (.t 13)⟩]
abbrev c61_r5 : List Ins := [
  ⟨some 14, none, .mov (.t 5)⟩,
  ⟨some 15, none, .bin .add (.t 14) (.c (.int .i64 1))⟩,
  ⟨some 6, none, .mov (.t 15)⟩]
abbrev c61_r6 : List Ins := [
  ⟨some 16, none, .mov (.t 6)⟩,
  ⟨some 17, none, .mov (.t 0)⟩,
  ⟨some 18, none, .len (.t 17)⟩,
  ⟨some 19, none, .bin .lss (.t 16) (.t 18)⟩]
abbrev c61_r7 : List Ins := [
  ⟨some 22, none, .mov (.t 0)⟩,
  ⟨some 23, none, .mov (.t 6)⟩,
  ⟨some 24, none, .iaddr 2 (.t 22) (.t 23)⟩,
  ⟨some 25, none, .load 2 true (.t 24)⟩,
  ⟨some 7, none, .alloc [.int .i64 0, .int .i64 0]⟩,
  ⟨none, none, .store 2 (.t 7) (.t 25)⟩]
abbrev c61_r8 : List Ins := [
  ⟨some 26, none, .mov (.t 1)⟩,
  ⟨some 27, none, .load 2 true (.t 7)⟩,
  ⟨some 28, none, .call (.t 26) [.t 27]⟩,
  ⟨some 29, none, .un .not (.t 28)⟩]
abbrev c61_r9 : List Ins := [
  ⟨some 30, none, .mov (.t 0)⟩,
  ⟨some 31, none, .mov (.t 5)⟩,
  ⟨some 32, none, .load 2 true (.t 7)⟩,
  ⟨some 33, none, .iaddr 2 (.t 30) (.t 31)⟩,
  ⟨none, none, .store 2 (.t 33) (.t 32)⟩]
abbrev c61_r10 : List Ins := [
  ⟨some 34, none, .mov (.t 5)⟩,
  ⟨some 35, none, .bin .add (.t 34) (.c (.int .i64 1))⟩,
  ⟨some 5, none, .mov (.t 35)⟩]
abbrev c61_r11 : List Ins := [
  ⟨some 20, none, .mov (.t 6)⟩,
  ⟨some 21, none, .bin .add (.t 20) (.c (.int .i64 1))⟩,
  ⟨some 6, none, .mov (.t 21)⟩]
abbrev c61_l12 : IR := .seq (.seq (.reg c61_r6) (.cond (.t 19) (.skip) (.exit 0))) (.seq (.blk 1 (.seq (.reg c61_r7) (.seq (.reg c61_r8) (.cond (.t 29) (.seq (.reg c61_r9) (.reg c61_r10)) (.skip))))) (.reg c61_r11))
abbrev c61_r13 : List Ins := [
  ⟨some 36, none, .mov (.t 0)⟩,
  ⟨some 37, none, .mov (.t 5)⟩,
  ⟨some 38, none, .slice 2 (.t 36) (some (.t 37)) none none⟩,
  ⟨none, none, .clear 2 [.int .i64 0, .int .i64 0] (.t 38)⟩]
abbrev c61_r14 : List Ins := [
  ⟨some 39, none, .mov (.t 0)⟩,
  ⟨some 40, none, .mov (.t 5)⟩,
  ⟨some 41, none, .slice 2 (.t 39) none (some (.t 40)) none⟩,
  ⟨some 4, none, .mov (.t 41)⟩]
abbrev c61 : IR := .seq (.reg c61_r1) (.seq (.reg c61_r2) (.seq (.seq (.reg c61_r3) (.cond (.t 12) (.seq (.reg c61_r4) (.ret)) (.skip))) (.seq (.seq (.reg c61_r5) (.blk 0 (.loop c61_l12))) (.seq (.reg c61_r13) (.seq (.reg c61_r14) (.ret))))))
abbrev F61 : FnA := ⟨42, c61, [.t 4]⟩
theorem ok61 : cFn Try.prog 61 = some F61 := by kernel_rfl
theorem hb61 : HasBody Try.prog 61 := ⟨_, Try.func61, by kernel_rfl, by kernel_rfl⟩
/-! slices.Concat:Span -/
abbrev c62_r1 : List Ins := [
  ⟨some 2, none, .mov (.c (.sl .full []))⟩]
abbrev c62_r2 : List Ins := [
  ⟨some 3, none, .mov (.c (.int .i64 0))⟩]
abbrev c62_r3 : List Ins := [
  ⟨some 9, none, .mov (.t 0)⟩,
  ⟨some 10, none, .len (.t 9)⟩,
  ⟨some 11, none, .mov (.c (.int .i64 0))⟩]
abbrev c62_r4 : List Ins := [
  ⟨some 12, none, .bin .lss (.t 11) (.t 10)⟩]
abbrev c62_r5 : List Ins := [
  ⟨some 13, none, .iaddr 1 (.t 9) (.t 11)⟩,
  ⟨some 14, none, .load 1 false (.t 13)⟩,
  ⟨some 5, none, .mov (.t 14)⟩]
abbrev c62_r6 : List Ins := [
  ⟨some 15, none, .mov (.t 3)⟩,
  ⟨some 16, none, .mov (.t 5)⟩,
  ⟨some 17, none, .len (.t 16)⟩,
  ⟨some 18, none, .bin .add (.t 15) (.t 17)⟩,
  ⟨some 3, none, .mov (.t 18)⟩]
abbrev c62_r7 : List Ins := [
  ⟨some 19, none, .mov (.t 3)⟩,
  ⟨some 20, none, .bin .lss (.t 19) (.c (.int .i64 0))⟩]
abbrev c62_r8 : List Ins := [
  ⟨some 21, none, .copy 0 (.c .undef) (.c .undef)⟩,
  ⟨none, none, .copy 0 (.c .undef) (.c .undef)⟩]
abbrev c62_r9 : List Ins := [
  ⟨some 22, none, .bin .add (.t 11) (.c (.int .i64 1))⟩,
  ⟨some 11, none, .mov (.t 22)⟩]
abbrev c62_l10 : IR := .seq (.reg c62_r4) (.seq (.cond (.t 12) (.skip) (.exit 0)) (.seq (.blk 1 (.seq (.reg c62_r5) (.seq (.reg c62_r6) (.seq (.reg c62_r7) (.cond (.t 20) (.reg c62_r8) (.skip)))))) (.reg c62_r9)))
abbrev c62_r11 : List Ins := [
  ⟨some 23, none, .mov (.t 3)⟩,
  ⟨some 24, none, .call (.c (.fn 77 [] [])) [.c (.sl .full []), .t 23]⟩,
  ⟨some 6, none, .mov (.t 24)⟩]
abbrev c62_r12 : List Ins := [
  ⟨some 25, none, .mov (.t 0)⟩,
  ⟨some 26, none, .len (.t 25)⟩,
  ⟨some 27, none, .mov (.c (.int .i64 0))⟩]
abbrev c62_r13 : List Ins := [
  ⟨some 28, none, .bin .lss (.t 27) (.t 26)⟩]
abbrev c62_r14 : List Ins := [
  ⟨some 29, none, .iaddr 1 (.t 25) (.t 27)⟩,
  ⟨some 30, none, .load 1 false (.t 29)⟩,
  ⟨some 8, none, .mov (.t 30)⟩]
abbrev c62_r15 : List Ins := [
  ⟨some 31, none, .mov (.t 6)⟩,
  ⟨some 32, none, .mov (.t 8)⟩,
  ⟨some 33, none, .append 2 16 (.t 31) (.t 32)⟩,
  ⟨some 6, none, .mov (.t 33)⟩]
abbrev c62_r16 : List Ins := [
  ⟨some 34, none, .bin .add (.t 27) (.c (.int .i64 1))⟩,
  ⟨some 27, none, .mov (.t 34)⟩]
abbrev c62_l17 : IR := .seq (.reg c62_r13) (.seq (.cond (.t 28) (.skip) (.exit 2)) (.seq (.blk 3 (.seq (.reg c62_r14) (.reg c62_r15))) (.reg c62_r16)))
abbrev c62_r18 : List Ins := [
  ⟨some 35, none, .mov (.t 6)⟩,
  ⟨some 2, none, .mov (.t 35)⟩]
abbrev c62 : IR := .seq (.reg c62_r1) (.seq (.reg c62_r2) (.seq (.seq (.reg c62_r3) (.blk 0 (.loop c62_l10))) (.seq (.reg c62_r11) (.seq (.seq (.reg c62_r12) (.blk 2 (.loop c62_l17))) (.seq (.reg c62_r18) (.ret))))))
abbrev F62 : FnA := ⟨36, c62, [.t 2]⟩
theorem ok62 : cFn Try.prog 62 = some F62 := by kernel_rfl
theorem hb62 : HasBody Try.prog 62 := ⟨_, Try.func62, by kernel_rfl, by kernel_rfl⟩
/-! keys.plain$1 -/
abbrev c63_r1 : List Ins := [
  ⟨some 1, none, .box (.t 0)⟩,
  ⟨some 2, none, .mov (.c (.bool false))⟩]
abbrev c63_r2 : List Ins := [
  ⟨some 3, none, .load 2 true (.t 1)⟩,
  ⟨some 4, none, .call (.c (.fn 15 [] [])) [.t 3]⟩,
  ⟨some 5, none, .un .not (.t 4)⟩,
  ⟨some 2, none, .mov (.t 5)⟩]
abbrev c63 : IR := .seq (.reg c63_r1) (.seq (.reg c63_r2) (.ret))
abbrev F63 : FnA := ⟨6, c63, [.t 2]⟩
theorem ok63 : cFn Try.prog 63 = some F63 := by kernel_rfl
theorem hb63 : HasBody Try.prog 63 := ⟨_, Try.func63, by kernel_rfl, by kernel_rfl⟩
/-! slices.SortFunc:Span -/
abbrev c64_r1 : List Ins := [
  ⟨some 5, none, .mov (.t 0)⟩,
  ⟨some 6, none, .len (.t 5)⟩,
  ⟨some 4, none, .mov (.t 6)⟩]
abbrev c64_r2 : List Ins := [
  ⟨some 7, none, .mov (.t 0)⟩,
  ⟨some 8, none, .mov (.t 4)⟩,
  ⟨some 9, none, .mov (.t 4)⟩,
  ⟨some 10, none, .conv .u64 (.t 9)⟩,
  ⟨some 11, none, .call (.c (.fn 79 [] [])) [.t 10]⟩,
  ⟨some 12, none, .mov (.t 1)⟩,
  ⟨some 13, none, .call (.c (.fn 78 [] [])) [.t 7, .c (.int .i64 0), .t 8, .t 11, .t 12]⟩]
abbrev c64 : IR := .seq (.reg c64_r1) (.reg c64_r2)
abbrev F64 : FnA := ⟨14, c64, []⟩
theorem ok64 : cFn Try.prog 64 = some F64 := by kernel_rfl
theorem hb64 : HasBody Try.prog 64 := ⟨_, Try.func64, by kernel_rfl, by kernel_rfl⟩
/-! keys.plain$2 -/
abbrev c65_r1 : List Ins := [
  ⟨some 2, none, .box (.t 0)⟩,
  ⟨some 3, none, .box (.t 1)⟩,
  ⟨some 4, none, .mov (.c (.int .i64 0))⟩]
abbrev c65_r2 : List Ins := [
  ⟨some 5, none, .faddr 0 (.t 2)⟩,
  ⟨some 6, none, .load 1 false (.t 5)⟩,
  ⟨some 7, none, .faddr 0 (.t 3)⟩,
  ⟨some 8, none, .load 1 false (.t 7)⟩,
  ⟨some 9, none, .call (.c (.fn 66 [] [])) [.t 6, .t 8]⟩,
  ⟨some 4, none, .mov (.t 9)⟩]
abbrev c65 : IR := .seq (.reg c65_r1) (.seq (.reg c65_r2) (.ret))
abbrev F65 : FnA := ⟨10, c65, [.t 4]⟩
theorem ok65 : cFn Try.prog 65 = some F65 := by kernel_rfl
theorem hb65 : HasBody Try.prog 65 := ⟨_, Try.func65, by kernel_rfl, by kernel_rfl⟩
/-! cmp.Compare:int -/
abbrev c66_r1 : List Ins := [
  ⟨some 4, none, .mov (.c (.int .i64 0))⟩]
abbrev c66_r2 : List Ins := [
  ⟨some 7, none, .mov (.t 0)⟩,
  ⟨some 8, none, .call (.c (.fn 80 [] [])) [.t 7]⟩,
  ⟨some 5, none, .mov (.t 8)⟩]
abbrev c66_r3 : List Ins := [
  ⟨some 9, none, .mov (.t 1)⟩,
  ⟨some 10, none, .call (.c (.fn 80 [] [])) [.t 9]⟩,
  ⟨some 6, none, .mov (.t 10)⟩]
abbrev c66_r4 : List Ins := [
  ⟨some 11, none, .mov (.t 5)⟩]
abbrev c66_r5 : List Ins := [
  ⟨some 12, none, .mov (.t 6)⟩]
abbrev c66_r6 : List Ins := [
  ⟨some 4, none, .mov (.c (.int .i64 0))⟩]
abbrev c66_r7 : List Ins := [
  ⟨some 4, none, .mov (.c (.int .i64 (-1)))⟩]
abbrev c66_r8 : List Ins := [
  ⟨some 13, none, .mov (.t 6)⟩]
abbrev c66_r9 : List Ins := [
  ⟨some 4, none, .mov (.c (.int .i64 1))⟩]
abbrev c66_r10 : List Ins := [
  ⟨some 14, none, .mov (.t 0)⟩,
  ⟨some 15, none, .mov (.t 1)⟩,
  ⟨some 16, none, .bin .lss (.t 14) (.t 15)⟩]
abbrev c66_r11 : List Ins := [
  ⟨some 4, none, .mov (.c (.int .i64 (-1)))⟩]
abbrev c66_r12 : List Ins := [
  ⟨some 17, none, .mov (.t 0)⟩,
  ⟨some 18, none, .mov (.t 1)⟩,
  ⟨some 19, none, .bin .gtr (.t 17) (.t 18)⟩]
abbrev c66_r13 : List Ins := [
  ⟨some 4, none, .mov (.c (.int .i64 1))⟩]
abbrev c66_r14 : List Ins := [
  ⟨some 4, none, .mov (.c (.int .i64 0))⟩]
abbrev c66 : IR := .seq (.reg c66_r1) (.seq (.reg c66_r2) (.seq (.reg c66_r3) (.seq (.seq (.reg c66_r4) (.cond (.t 11) (.seq (.seq (.reg c66_r5) (.cond (.t 12) (.seq (.reg c66_r6) (.ret)) (.skip))) (.seq (.reg c66_r7) (.ret))) (.skip))) (.seq (.seq (.reg c66_r8) (.cond (.t 13) (.seq (.reg c66_r9) (.ret)) (.skip))) (.seq (.seq (.reg c66_r10) (.cond (.t 16) (.seq (.reg c66_r11) (.ret)) (.skip))) (.seq (.seq (.reg c66_r12) (.cond (.t 19) (.seq (.reg c66_r13) (.ret)) (.skip))) (.seq (.reg c66_r14) (.ret))))))))
abbrev F66 : FnA := ⟨20, c66, [.t 4]⟩
theorem ok66 : cFn Try.prog 66 = some F66 := by kernel_rfl
theorem hb66 : HasBody Try.prog 66 := ⟨_, Try.func66, by kernel_rfl, by kernel_rfl⟩
/-! slices.AppendSeq:Span -/
abbrev c67_r1 : List Ins := [
  ⟨some 2, none, .box (.t 0)⟩,
  ⟨some 4, none, .mov (.c (.sl .full []))⟩]
abbrev c67_r2 : List Ins := [
  ⟨some 6, none, .mov (.t 1)⟩]
abbrev c67_r3 : List Ins := [
  ⟨some 5, none, .alloc [.int .i64 0, .int .i64 0]⟩,
  ⟨none, none, .store 2 (.t 5) (.t 7)⟩]
abbrev c67_r4 : List Ins := [
  ⟨some 8, none, .load 1 false (.t 2)⟩,
  ⟨some 9, none, .load 2 true (.t 5)⟩,
  ⟨some 10, none, .bsl 2 1 [.int .i64 0, .int .i64 0] [(0, .t 9)]⟩,
  ⟨some 11, none, .append 2 16 (.t 8) (.t 10)⟩,
  ⟨none, none, .store 1 (.t 2) (.t 11)⟩]
abbrev c67_x5 : IR := .reg c67_r3
abbrev c67_y6 : IR := .blk 1 (.reg c67_r4)
abbrev c67_r7 : List Ins := [
  ⟨some 12, none, .load 1 false (.t 2)⟩,
  ⟨some 4, none, .mov (.t 12)⟩]
abbrev c67 : IR := .seq (.reg c67_r1) (.seq (.seq (.reg c67_r2) (.blk 0 (.rngf (.t 6) [7] c67_x5 c67_y6))) (.seq (.reg c67_r7) (.ret)))
abbrev F67 : FnA := ⟨13, c67, [.t 4]⟩
theorem ok67 : cFn Try.prog 67 = some F67 := by kernel_rfl
theorem hb67 : HasBody Try.prog 67 := ⟨_, Try.func67, by kernel_rfl, by kernel_rfl⟩
/-! keys.meets$1 -/
abbrev c68_r1 : List Ins := [
  ⟨some 9, none, .load 1 false (.t 1)⟩,
  ⟨some 10, none, .len (.t 9)⟩,
  ⟨some 11, none, .mov (.c (.int .i64 0))⟩]
abbrev c68_r2 : List Ins := [
  ⟨some 12, none, .bin .lss (.t 11) (.t 10)⟩]
abbrev c68_r3 : List Ins := [
  ⟨some 13, none, .iaddr 2 (.t 9) (.t 11)⟩,
  ⟨some 14, none, .load 2 true (.t 13)⟩,
  ⟨some 5, none, .alloc [.int .i64 0, .int .i64 0]⟩,
  ⟨none, none, .store 2 (.t 5) (.t 14)⟩]
abbrev c68_r4 : List Ins := [
  ⟨some 15, none, .load 1 false (.t 2)⟩,
  ⟨some 16, none, .len (.t 15)⟩,
  ⟨some 17, none, .mov (.c (.int .i64 0))⟩]
abbrev c68_r5 : List Ins := [
  ⟨some 18, none, .bin .lss (.t 17) (.t 16)⟩]
abbrev c68_r6 : List Ins := [
  ⟨some 19, none, .iaddr 2 (.t 15) (.t 17)⟩,
  ⟨some 20, none, .load 2 true (.t 19)⟩,
  ⟨some 7, none, .alloc [.int .i64 0, .int .i64 0]⟩,
  ⟨none, none, .store 2 (.t 7) (.t 20)⟩]
abbrev c68_r7 : List Ins := [
  ⟨some 21, none, .faddr 0 (.t 5)⟩,
  ⟨some 22, none, .load 1 false (.t 21)⟩,
  ⟨some 23, none, .faddr 0 (.t 7)⟩,
  ⟨some 24, none, .load 1 false (.t 23)⟩,
  ⟨some 25, none, .mx [.t 22, .t 24]⟩,
  ⟨some 26, none, .faddr 1 (.t 5)⟩,
  ⟨some 27, none, .load 1 false (.t 26)⟩,
  ⟨some 28, none, .faddr 1 (.t 7)⟩,
  ⟨some 29, none, .load 1 false (.t 28)⟩,
  ⟨some 30, none, .mn [.t 27, .t 29]⟩,
  ⟨some 31, none, .build [.int .i64 0, .int .i64 0] [(0, (1, .t 25)), (1, (1, .t 30))]⟩,
  ⟨some 8, none, .alloc [.int .i64 0, .int .i64 0]⟩,
  ⟨none, none, .store 2 (.t 8) (.t 31)⟩]
abbrev c68_r8 : List Ins := [
  ⟨some 32, none, .faddr 0 (.t 8)⟩,
  ⟨some 33, none, .load 1 false (.t 32)⟩,
  ⟨some 34, none, .faddr 1 (.t 8)⟩,
  ⟨some 35, none, .load 1 false (.t 34)⟩,
  ⟨some 36, none, .bin .leq (.t 33) (.t 35)⟩,
  ⟨some 37, none, .mov (.t 36)⟩,
  ⟨some 38, some (37, true), .mov (.t 0)⟩,
  ⟨some 39, some (37, true), .load 2 true (.t 8)⟩,
  ⟨some 40, some (37, true), .call (.t 38) [.t 39]⟩,
  ⟨some 41, some (37, true), .un .not (.t 40)⟩,
  ⟨some 42, none, .pick (.t 37) (.t 41) (.c (.bool false))⟩]
abbrev c68_r9 : List Ins := [
  ⟨some 43, none, .bin .add (.t 17) (.c (.int .i64 1))⟩,
  ⟨some 17, none, .mov (.t 43)⟩]
abbrev c68_l10 : IR := .seq (.reg c68_r5) (.seq (.cond (.t 18) (.skip) (.exit 2)) (.seq (.blk 3 (.seq (.reg c68_r6) (.seq (.reg c68_r7) (.seq (.reg c68_r8) (.cond (.t 42) (.ret) (.skip)))))) (.reg c68_r9)))
abbrev c68_r11 : List Ins := [
  ⟨some 44, none, .bin .add (.t 11) (.c (.int .i64 1))⟩,
  ⟨some 11, none, .mov (.t 44)⟩]
abbrev c68_l12 : IR := .seq (.reg c68_r2) (.seq (.cond (.t 12) (.skip) (.exit 0)) (.seq (.blk 1 (.seq (.reg c68_r3) (.seq (.reg c68_r4) (.blk 2 (.loop c68_l10))))) (.reg c68_r11)))
abbrev c68 : IR := .seq (.reg c68_r1) (.blk 0 (.loop c68_l12))
abbrev F68 : FnA := ⟨45, c68, []⟩
theorem ok68 : cFn Try.prog 68 = some F68 := by kernel_rfl
theorem hb68 : HasBody Try.prog 68 := ⟨_, Try.func68, by kernel_rfl, by kernel_rfl⟩
/-! slices.IndexFunc:Span -/
abbrev c71_r1 : List Ins := [
  ⟨some 4, none, .mov (.c (.int .i64 0))⟩]
abbrev c71_r2 : List Ins := [
  ⟨some 6, none, .mov (.t 0)⟩,
  ⟨some 7, none, .len (.t 6)⟩,
  ⟨some 8, none, .mov (.c (.int .i64 0))⟩]
abbrev c71_r3 : List Ins := [
  ⟨some 9, none, .bin .lss (.t 8) (.t 7)⟩]
abbrev c71_r4 : List Ins := [
  ⟨some 10, none, .mov (.t 8)⟩,
  ⟨some 5, none, .mov (.t 10)⟩]
abbrev c71_r5 : List Ins := [
  ⟨some 11, none, .mov (.t 1)⟩,
  ⟨some 12, none, .mov (.t 0)⟩,
  ⟨some 13, none, .mov (.t 5)⟩,
  ⟨some 14, none, .iaddr 2 (.t 12) (.t 13)⟩,
  ⟨some 15, none, .load 2 true (.t 14)⟩,
  ⟨some 16, none, .call (.t 11) [.t 15]⟩]
abbrev c71_r6 : List Ins := [
  ⟨some 17, none, .mov (.t 5)⟩,
  ⟨some 4, none, .mov (.t 17)⟩]
abbrev c71_r7 : List Ins := [
  ⟨some 18, none, .bin .add (.t 8) (.c (.int .i64 1))⟩,
  ⟨some 8, none, .mov (.t 18)⟩]
abbrev c71_l8 : IR := .seq (.reg c71_r3) (.seq (.cond (.t 9) (.skip) (.exit 0)) (.seq (.blk 1 (.seq (.reg c71_r4) (.seq (.reg c71_r5) (.cond (.t 16) (.seq (.reg c71_r6) (.ret)) (.skip))))) (.reg c71_r7)))
abbrev c71_r9 : List Ins := [
  ⟨some 4, none, .mov (.c (.int .i64 (-1)))⟩]
abbrev c71 : IR := .seq (.reg c71_r1) (.seq (.seq (.reg c71_r2) (.blk 0 (.loop c71_l8))) (.seq (.reg c71_r9) (.ret)))
abbrev F71 : FnA := ⟨19, c71, [.t 4]⟩
theorem ok71 : cFn Try.prog 71 = some F71 := by kernel_rfl
theorem hb71 : HasBody Try.prog 71 := ⟨_, Try.func71, by kernel_rfl, by kernel_rfl⟩
/-! slices.ContainsFunc:Instr -/
abbrev c73_r1 : List Ins := [
  ⟨some 4, none, .mov (.c (.bool false))⟩]
abbrev c73_r2 : List Ins := [
  ⟨some 5, none, .mov (.t 0)⟩,
  ⟨some 6, none, .mov (.t 1)⟩,
  ⟨some 7, none, .call (.c (.fn 85 [] [])) [.t 5, .t 6]⟩,
  ⟨some 8, none, .bin .geq (.t 7) (.c (.int .i64 0))⟩,
  ⟨some 4, none, .mov (.t 8)⟩]
abbrev c73 : IR := .seq (.reg c73_r1) (.seq (.reg c73_r2) (.ret))
abbrev F73 : FnA := ⟨9, c73, [.t 4]⟩
theorem ok73 : cFn Try.prog 73 = some F73 := by kernel_rfl
theorem hb73 : HasBody Try.prog 73 := ⟨_, Try.func73, by kernel_rfl, by kernel_rfl⟩
/-! prog.May$1 -/
abbrev c74_r1 : List Ins := [
  ⟨some 2, none, .box (.t 0)⟩,
  ⟨some 3, none, .mov (.c (.bool false))⟩]
abbrev c74_r2 : List Ins := [
  ⟨some 4, none, .load 9 true (.t 2)⟩,
  ⟨some 5, none, .load 1 false (.t 1)⟩,
  ⟨some 6, none, .call (.c (.fn 75 [] [])) [.t 4, .t 5]⟩,
  ⟨some 7, none, .un .not (.t 6)⟩,
  ⟨some 3, none, .mov (.t 7)⟩]
abbrev c74 : IR := .seq (.reg c74_r1) (.seq (.reg c74_r2) (.ret))
abbrev F74 : FnA := ⟨8, c74, [.t 3]⟩
theorem ok74 : cFn Try.prog 74 = some F74 := by kernel_rfl
theorem hb74 : HasBody Try.prog 74 := ⟨_, Try.func74, by kernel_rfl, by kernel_rfl⟩
/-! prog.may -/
abbrev c75_r1 : List Ins := [
  ⟨some 2, none, .box (.t 0)⟩,
  ⟨some 3, none, .box (.t 1)⟩,
  ⟨some 4, none, .mov (.c (.bool false))⟩]
abbrev c75_r2 : List Ins := [
  ⟨some 9, none, .load 9 true (.t 2)⟩,
  ⟨some 10, none, .call (.c (.fn 86 [] [])) [.t 9]⟩,
  ⟨some 8, none, .mov (.t 10)⟩,
  ⟨some 11, none, .ext (.t 8) 0⟩,
  ⟨some 12, none, .ext (.t 8) 1⟩,
  ⟨some 5, none, .alloc [.int .i64 0, .int .i64 0, .int .i64 0, .int .i64 0, .int .i64 0, .int .i64 0, .int .i64 0, .int .i64 0, .int .i64 0]⟩,
  ⟨none, none, .store 9 (.t 5) (.t 11)⟩,
  ⟨some 6, none, .mov (.t 12)⟩]
abbrev c75_r3 : List Ins := [
  ⟨some 13, none, .mkfn 87 [] [.t 3]⟩,
  ⟨some 7, none, .mov (.t 13)⟩]
abbrev c75_r4 : List Ins := [
  ⟨some 14, none, .mov (.t 6)⟩,
  ⟨some 15, none, .mov (.t 14)⟩,
  ⟨some 16, some (15, true), .load 9 true (.t 2)⟩,
  ⟨some 17, some (15, true), .load 9 true (.t 5)⟩,
  ⟨some 18, some (15, true), .eq [.i, .i, .i, .i, .i, .i, .i, .i, .i] true false (.t 16) (.t 17)⟩,
  ⟨some 19, none, .pick (.t 15) (.t 18) (.c (.bool false))⟩,
  ⟨some 20, none, .mov (.t 19)⟩,
  ⟨some 21, some (20, true), .faddr 1 (.t 2)⟩,
  ⟨some 22, some (20, true), .load 1 false (.t 21)⟩,
  ⟨some 23, some (20, true), .call (.c (.fn 88 [] [])) [.t 22]⟩,
  ⟨some 24, none, .pick (.t 20) (.t 23) (.c (.bool false))⟩,
  ⟨some 25, none, .mov (.t 24)⟩,
  ⟨some 26, some (25, true), .faddr 2 (.t 2)⟩,
  ⟨some 27, some (25, true), .load 1 false (.t 26)⟩,
  ⟨some 28, some (25, true), .call (.c (.fn 88 [] [])) [.t 27]⟩,
  ⟨some 29, none, .pick (.t 25) (.t 28) (.c (.bool false))⟩,
  ⟨some 30, none, .mov (.t 29)⟩,
  ⟨some 31, some (30, true), .faddr 3 (.t 2)⟩,
  ⟨some 32, some (30, true), .load 1 false (.t 31)⟩,
  ⟨some 33, some (30, true), .call (.c (.fn 88 [] [])) [.t 32]⟩,
  ⟨some 34, none, .pick (.t 30) (.t 33) (.c (.bool false))⟩,
  ⟨some 35, none, .mov (.t 34)⟩,
  ⟨some 36, some (35, true), .load 9 true (.t 2)⟩,
  ⟨some 37, some (35, true), .call (.c (.fn 90 [] [])) [.t 36]⟩,
  ⟨some 38, some (35, true), .mov (.t 7)⟩,
  ⟨some 39, some (35, true), .call (.c (.fn 89 [] [])) [.t 37, .t 38]⟩,
  ⟨some 40, some (35, true), .un .not (.t 39)⟩,
  ⟨some 41, none, .pick (.t 35) (.t 40) (.c (.bool false))⟩,
  ⟨some 4, none, .mov (.t 41)⟩]
abbrev c75 : IR := .seq (.reg c75_r1) (.seq (.reg c75_r2) (.seq (.reg c75_r3) (.seq (.reg c75_r4) (.ret))))
abbrev F75 : FnA := ⟨42, c75, [.t 4]⟩
theorem ok75 : cFn Try.prog 75 = some F75 := by kernel_rfl
theorem hb75 : HasBody Try.prog 75 := ⟨_, Try.func75, by kernel_rfl, by kernel_rfl⟩
/-! slices.IndexFunc:SpanT -/
abbrev c76_r1 : List Ins := [
  ⟨some 4, none, .mov (.c (.int .i64 0))⟩]
abbrev c76_r2 : List Ins := [
  ⟨some 6, none, .mov (.t 0)⟩,
  ⟨some 7, none, .len (.t 6)⟩,
  ⟨some 8, none, .mov (.c (.int .i64 0))⟩]
abbrev c76_r3 : List Ins := [
  ⟨some 9, none, .bin .lss (.t 8) (.t 7)⟩]
abbrev c76_r4 : List Ins := [
  ⟨some 10, none, .mov (.t 8)⟩,
  ⟨some 5, none, .mov (.t 10)⟩]
abbrev c76_r5 : List Ins := [
  ⟨some 11, none, .mov (.t 1)⟩,
  ⟨some 12, none, .mov (.t 0)⟩,
  ⟨some 13, none, .mov (.t 5)⟩,
  ⟨some 14, none, .iaddr 5 (.t 12) (.t 13)⟩,
  ⟨some 15, none, .load 5 true (.t 14)⟩,
  ⟨some 16, none, .call (.t 11) [.t 15]⟩]
abbrev c76_r6 : List Ins := [
  ⟨some 17, none, .mov (.t 5)⟩,
  ⟨some 4, none, .mov (.t 17)⟩]
abbrev c76_r7 : List Ins := [
  ⟨some 18, none, .bin .add (.t 8) (.c (.int .i64 1))⟩,
  ⟨some 8, none, .mov (.t 18)⟩]
abbrev c76_l8 : IR := .seq (.reg c76_r3) (.seq (.cond (.t 9) (.skip) (.exit 0)) (.seq (.blk 1 (.seq (.reg c76_r4) (.seq (.reg c76_r5) (.cond (.t 16) (.seq (.reg c76_r6) (.ret)) (.skip))))) (.reg c76_r7)))
abbrev c76_r9 : List Ins := [
  ⟨some 4, none, .mov (.c (.int .i64 (-1)))⟩]
abbrev c76 : IR := .seq (.reg c76_r1) (.seq (.seq (.reg c76_r2) (.blk 0 (.loop c76_l8))) (.seq (.reg c76_r9) (.ret)))
abbrev F76 : FnA := ⟨19, c76, [.t 4]⟩
theorem ok76 : cFn Try.prog 76 = some F76 := by kernel_rfl
theorem hb76 : HasBody Try.prog 76 := ⟨_, Try.func76, by kernel_rfl, by kernel_rfl⟩
/-! slices.Grow:Span -/
-- f77: not compiled
/-! slices.pdqsortCmpFunc:Span -/
abbrev c78_r1 : List Ins := [
  ⟨some 10, none, .mov (.c (.bool true))⟩]
abbrev c78_r2 : List Ins := [
  ⟨some 11, none, .mov (.c (.bool true))⟩]
abbrev c78_r3 : List Ins := [
  ⟨some 21, none, .mov (.t 2)⟩,
  ⟨some 22, none, .mov (.t 1)⟩,
  ⟨some 23, none, .bin .sub (.t 21) (.t 22)⟩,
  ⟨some 12, none, .mov (.t 23)⟩]
abbrev c78_r4 : List Ins := [
  ⟨some 24, none, .mov (.t 12)⟩,
  ⟨some 25, none, .bin .leq (.t 24) (.c (.int .i64 12))⟩]
abbrev c78_r5 : List Ins := [
  ⟨some 26, none, .mov (.t 0)⟩,
  ⟨some 27, none, .mov (.t 1)⟩,
  ⟨some 28, none, .mov (.t 2)⟩,
  ⟨some 29, none, .mov (.t 4)⟩,
  ⟨some 30, none, .call (.c (.fn 91 [] [])) [.t 26, .t 27, .t 28, .t 29]⟩]
abbrev c78_r6 : List Ins := [
  ⟨some 31, none, .mov (.t 3)⟩,
  ⟨some 32, none, .bin .eql (.t 31) (.c (.int .i64 0))⟩]
abbrev c78_r7 : List Ins := [
  ⟨some 33, none, .mov (.t 0)⟩,
  ⟨some 34, none, .mov (.t 1)⟩,
  ⟨some 35, none, .mov (.t 2)⟩,
  ⟨some 36, none, .mov (.t 4)⟩,
  ⟨some 37, none, .call (.c (.fn 92 [] [])) [.t 33, .t 34, .t 35, .t 36]⟩]
abbrev c78_r8 : List Ins := [
  ⟨some 38, none, .mov (.t 10)⟩,
  ⟨some 39, none, .un .not (.t 38)⟩]
abbrev c78_r9 : List Ins := [
  ⟨some 40, none, .mov (.t 0)⟩,
  ⟨some 41, none, .mov (.t 1)⟩,
  ⟨some 42, none, .mov (.t 2)⟩,
  ⟨some 43, none, .mov (.t 4)⟩,
  ⟨some 44, none, .call (.c (.fn 93 [] [])) [.t 40, .t 41, .t 42, .t 43]⟩]
abbrev c78_r10 : List Ins := [
  ⟨some 45, none, .mov (.t 3)⟩,
  ⟨some 46, none, .bin .sub (.t 45) (.c (.int .i64 1))⟩,
  ⟨some 3, none, .mov (.t 46)⟩]
abbrev c78_r11 : List Ins := [
  ⟨some 48, none, .mov (.t 0)⟩,
  ⟨some 49, none, .mov (.t 1)⟩,
  ⟨some 50, none, .mov (.t 2)⟩,
  ⟨some 51, none, .mov (.t 4)⟩,
  ⟨some 52, none, .call (.c (.fn 94 [] [])) [.t 48, .t 49, .t 50, .t 51]⟩,
  ⟨some 47, none, .mov (.t 52)⟩,
  ⟨some 53, none, .ext (.t 47) 0⟩,
  ⟨some 54, none, .ext (.t 47) 1⟩,
  ⟨some 13, none, .mov (.t 53)⟩,
  ⟨some 14, none, .mov (.t 54)⟩]
abbrev c78_r12 : List Ins := [
  ⟨some 55, none, .mov (.t 14)⟩,
  ⟨some 56, none, .bin .eql (.t 55) (.c (.int .i64 2))⟩]
abbrev c78_r13 : List Ins := [
  ⟨some 57, none, .mov (.t 0)⟩,
  ⟨some 58, none, .mov (.t 1)⟩,
  ⟨some 59, none, .mov (.t 2)⟩,
  ⟨some 60, none, .mov (.t 4)⟩,
  ⟨some 61, none, .call (.c (.fn 95 [] [])) [.t 57, .t 58, .t 59, .t 60]⟩]
abbrev c78_r14 : List Ins := [
  ⟨some 62, none, .mov (.t 2)⟩,
  ⟨some 63, none, .bin .sub (.t 62) (.c (.int .i64 1))⟩,
  ⟨some 64, none, .mov (.t 13)⟩,
  ⟨some 65, none, .mov (.t 1)⟩,
  ⟨some 66, none, .bin .sub (.t 64) (.t 65)⟩,
  ⟨some 67, none, .bin .sub (.t 63) (.t 66)⟩,
  ⟨some 13, none, .mov (.t 67)⟩]
abbrev c78_r15 : List Ins := [
  ⟨some 14, none, .mov (.c (.int .i64 1))⟩]
abbrev c78_r16 : List Ins := [
  ⟨some 68, none, .mov (.t 10)⟩,
  ⟨some 69, none, .mov (.t 68)⟩,
  ⟨some 70, some (69, true), .mov (.t 11)⟩,
  ⟨some 71, none, .pick (.t 69) (.t 70) (.c (.bool false))⟩,
  ⟨some 72, none, .mov (.t 71)⟩,
  ⟨some 73, some (72, true), .mov (.t 14)⟩,
  ⟨some 74, some (72, true), .bin .eql (.t 73) (.c (.int .i64 1))⟩,
  ⟨some 75, none, .pick (.t 72) (.t 74) (.c (.bool false))⟩]
abbrev c78_r17 : List Ins := [
  ⟨some 76, none, .mov (.t 0)⟩,
  ⟨some 77, none, .mov (.t 1)⟩,
  ⟨some 78, none, .mov (.t 2)⟩,
  ⟨some 79, none, .mov (.t 4)⟩,
  ⟨some 80, none, .call (.c (.fn 96 [] [])) [.t 76, .t 77, .t 78, .t 79]⟩]
abbrev c78_r18 : List Ins := [
  ⟨some 81, none, .mov (.t 1)⟩,
  ⟨some 82, none, .bin .gtr (.t 81) (.c (.int .i64 0))⟩,
  ⟨some 83, none, .mov (.t 82)⟩,
  ⟨some 84, some (83, true), .mov (.t 4)⟩,
  ⟨some 85, some (83, true), .mov (.t 0)⟩,
  ⟨some 86, some (83, true), .mov (.t 1)⟩,
  ⟨some 87, some (83, true), .bin .sub (.t 86) (.c (.int .i64 1))⟩,
  ⟨some 88, some (83, true), .iaddr 2 (.t 85) (.t 87)⟩,
  ⟨some 89, some (83, true), .load 2 true (.t 88)⟩,
  ⟨some 90, some (83, true), .mov (.t 0)⟩,
  ⟨some 91, some (83, true), .mov (.t 13)⟩,
  ⟨some 92, some (83, true), .iaddr 2 (.t 90) (.t 91)⟩,
  ⟨some 93, some (83, true), .load 2 true (.t 92)⟩,
  ⟨some 94, some (83, true), .call (.t 84) [.t 89, .t 93]⟩,
  ⟨some 95, some (83, true), .bin .lss (.t 94) (.c (.int .i64 0))⟩,
  ⟨some 96, some (83, true), .un .not (.t 95)⟩,
  ⟨some 97, none, .pick (.t 83) (.t 96) (.c (.bool false))⟩]
def c78_a18 : List (List Nat) := [[], [0], [1], [2], [2], [2], [5, 2], [4, 6, 2], [7, 2], [2], [2], [9, 10, 2], [11, 2], [3, 8, 12, 2, 2], [13, 2], [14, 2], [2, 15]]
abbrev c78_m18 : List Am.Mark := [⟨false, 0, 1⟩, ⟨false, 0, 1⟩, ⟨false, 0, 0⟩, ⟨false, 0, 0⟩, ⟨false, 0, 1⟩, ⟨false, 0, 1⟩, ⟨false, 0, 1⟩, ⟨false, 0, 1⟩, ⟨false, 0, 0⟩, ⟨false, 0, 1⟩, ⟨false, 0, 1⟩, ⟨false, 0, 1⟩, ⟨false, 0, 0⟩, ⟨true, 0, 1⟩, ⟨false, 1, 1⟩, ⟨false, 1, 1⟩, ⟨false, 1, 1⟩]
theorem c78_d18 : drawFine c78_r18 c78_a18 c78_m18 = true := by decide +kernel
abbrev c78_r19 : List Ins := [
  ⟨some 98, none, .mov (.t 0)⟩,
  ⟨some 99, none, .mov (.t 1)⟩,
  ⟨some 100, none, .mov (.t 2)⟩,
  ⟨some 101, none, .mov (.t 13)⟩,
  ⟨some 102, none, .mov (.t 4)⟩,
  ⟨some 103, none, .call (.c (.fn 97 [] [])) [.t 98, .t 99, .t 100, .t 101, .t 102]⟩,
  ⟨some 15, none, .mov (.t 103)⟩]
abbrev c78_r20 : List Ins := [
  ⟨some 104, none, .mov (.t 15)⟩,
  ⟨some 1, none, .mov (.t 104)⟩]
abbrev c78_r21 : List Ins := [
  ⟨some 106, none, .mov (.t 0)⟩,
  ⟨some 107, none, .mov (.t 1)⟩,
  ⟨some 108, none, .mov (.t 2)⟩,
  ⟨some 109, none, .mov (.t 13)⟩,
  ⟨some 110, none, .mov (.t 4)⟩,
  ⟨some 111, none, .call (.c (.fn 98 [] [])) [.t 106, .t 107, .t 108, .t 109, .t 110]⟩,
  ⟨some 105, none, .mov (.t 111)⟩,
  ⟨some 112, none, .ext (.t 105) 0⟩,
  ⟨some 113, none, .ext (.t 105) 1⟩,
  ⟨some 16, none, .mov (.t 112)⟩,
  ⟨some 17, none, .mov (.t 113)⟩]
abbrev c78_r22 : List Ins := [
  ⟨some 114, none, .mov (.t 17)⟩,
  ⟨some 11, none, .mov (.t 114)⟩]
abbrev c78_r23 : List Ins := [
  ⟨some 115, none, .mov (.t 16)⟩,
  ⟨some 116, none, .mov (.t 1)⟩,
  ⟨some 117, none, .bin .sub (.t 115) (.t 116)⟩,
  ⟨some 118, none, .mov (.t 2)⟩,
  ⟨some 119, none, .mov (.t 16)⟩,
  ⟨some 120, none, .bin .sub (.t 118) (.t 119)⟩,
  ⟨some 18, none, .mov (.t 117)⟩,
  ⟨some 19, none, .mov (.t 120)⟩]
abbrev c78_r24 : List Ins := [
  ⟨some 121, none, .mov (.t 12)⟩,
  ⟨some 122, none, .bin .quo (.t 121) (.c (.int .i64 8))⟩,
  ⟨some 20, none, .mov (.t 122)⟩]
abbrev c78_r25 : List Ins := [
  ⟨some 123, none, .mov (.t 18)⟩,
  ⟨some 124, none, .mov (.t 19)⟩,
  ⟨some 125, none, .bin .lss (.t 123) (.t 124)⟩]
abbrev c78_r26 : List Ins := [
  ⟨some 126, none, .mov (.t 18)⟩,
  ⟨some 127, none, .mov (.t 20)⟩,
  ⟨some 128, none, .bin .geq (.t 126) (.t 127)⟩,
  ⟨some 10, none, .mov (.t 128)⟩]
abbrev c78_r27 : List Ins := [
  ⟨some 129, none, .mov (.t 0)⟩,
  ⟨some 130, none, .mov (.t 1)⟩,
  ⟨some 131, none, .mov (.t 16)⟩,
  ⟨some 132, none, .mov (.t 3)⟩,
  ⟨some 133, none, .mov (.t 4)⟩,
  ⟨some 134, none, .call (.c (.fn 78 [] [])) [.t 129, .t 130, .t 131, .t 132, .t 133]⟩]
abbrev c78_r28 : List Ins := [
  ⟨some 135, none, .mov (.t 16)⟩,
  ⟨some 136, none, .bin .add (.t 135) (.c (.int .i64 1))⟩,
  ⟨some 1, none, .mov (.t 136)⟩]
abbrev c78_r29 : List Ins := [
  ⟨some 137, none, .mov (.t 19)⟩,
  ⟨some 138, none, .mov (.t 20)⟩,
  ⟨some 139, none, .bin .geq (.t 137) (.t 138)⟩,
  ⟨some 10, none, .mov (.t 139)⟩]
abbrev c78_r30 : List Ins := [
  ⟨some 140, none, .mov (.t 0)⟩,
  ⟨some 141, none, .mov (.t 16)⟩,
  ⟨some 142, none, .bin .add (.t 141) (.c (.int .i64 1))⟩,
  ⟨some 143, none, .mov (.t 2)⟩,
  ⟨some 144, none, .mov (.t 3)⟩,
  ⟨some 145, none, .mov (.t 4)⟩,
  ⟨some 146, none, .call (.c (.fn 78 [] [])) [.t 140, .t 142, .t 143, .t 144, .t 145]⟩]
abbrev c78_r31 : List Ins := [
  ⟨some 147, none, .mov (.t 16)⟩,
  ⟨some 2, none, .mov (.t 147)⟩]
abbrev c78_l32 : IR := .blk 1 (.seq (.reg c78_r3) (.seq (.seq (.reg c78_r4) (.cond (.t 25) (.seq (.reg c78_r5) (.ret)) (.skip))) (.seq (.seq (.reg c78_r6) (.cond (.t 32) (.seq (.reg c78_r7) (.ret)) (.skip))) (.seq (.seq (.reg c78_r8) (.cond (.t 39) (.seq (.reg c78_r9) (.reg c78_r10)) (.skip))) (.seq (.reg c78_r11) (.seq (.seq (.reg c78_r12) (.cond (.t 56) (.seq (.reg c78_r13) (.seq (.reg c78_r14) (.reg c78_r15))) (.skip))) (.seq (.seq (.reg c78_r16) (.cond (.t 75) (.seq (.reg c78_r17) (.cond (.t 80) (.ret) (.skip))) (.skip))) (.seq (.seq (.dreg c78_r18 c78_a18) (.cond (.t 97) (.seq (.reg c78_r19) (.seq (.reg c78_r20) (.exit 1))) (.skip))) (.seq (.reg c78_r21) (.seq (.reg c78_r22) (.seq (.reg c78_r23) (.seq (.reg c78_r24) (.seq (.reg c78_r25) (.cond (.t 125) (.seq (.reg c78_r26) (.seq (.reg c78_r27) (.reg c78_r28))) (.seq (.reg c78_r29) (.seq (.reg c78_r30) (.reg c78_r31)))))))))))))))))
abbrev c78 : IR := .seq (.reg c78_r1) (.seq (.reg c78_r2) (.blk 0 (.loop c78_l32)))
abbrev F78 : FnA := ⟨148, c78, []⟩
theorem ok78 : cFn Try.prog 78 = some F78 := by kernel_rfl
theorem hb78 : HasBody Try.prog 78 := ⟨_, Try.func78, by kernel_rfl, by kernel_rfl⟩
/-! math/bits.Len -/
abbrev c79_r1 : List Ins := [
  ⟨some 2, none, .mov (.c (.int .i64 0))⟩]
abbrev c79_r2 : List Ins := [
  ⟨some 3, none, .mov (.t 0)⟩,
  ⟨some 4, none, .conv .u32 (.t 3)⟩,
  ⟨some 5, none, .call (.c (.fn 99 [] [])) [.t 4]⟩,
  ⟨some 2, none, .mov (.t 5)⟩]
abbrev c79_r3 : List Ins := [
  ⟨some 6, none, .mov (.t 0)⟩,
  ⟨some 7, none, .call (.c (.fn 100 [] [])) [.t 6]⟩,
  ⟨some 2, none, .mov (.t 7)⟩]
abbrev c79 : IR := .seq (.reg c79_r1) (.seq (.cond (.c (.bool false)) (.seq (.reg c79_r2) (.ret)) (.skip)) (.seq (.reg c79_r3) (.ret)))
abbrev F79 : FnA := ⟨8, c79, [.t 2]⟩
theorem ok79 : cFn Try.prog 79 = some F79 := by kernel_rfl
theorem hb79 : HasBody Try.prog 79 := ⟨_, Try.func79, by kernel_rfl, by kernel_rfl⟩
/-! cmp.isNaN:int -/
abbrev c80_r1 : List Ins := [
  ⟨some 2, none, .mov (.c (.bool false))⟩]
abbrev c80_r2 : List Ins := [
  ⟨some 3, none, .mov (.t 0)⟩,
  ⟨some 4, none, .mov (.t 0)⟩,
  ⟨some 5, none, .bin .neq (.t 3) (.t 4)⟩,
  ⟨some 2, none, .mov (.t 5)⟩]
abbrev c80 : IR := .seq (.reg c80_r1) (.seq (.reg c80_r2) (.ret))
abbrev F80 : FnA := ⟨6, c80, [.t 2]⟩
theorem ok80 : cFn Try.prog 80 = some F80 := by kernel_rfl
theorem hb80 : HasBody Try.prog 80 := ⟨_, Try.func80, by kernel_rfl, by kernel_rfl⟩
/-! prog.mayKey -/
abbrev c83_r1 : List Ins := [
  ⟨some 2, none, .box (.t 0)⟩,
  ⟨some 4, none, .mov (.c (.bool false))⟩]
abbrev c83_r2 : List Ins := [
  ⟨some 5, none, .faddr 0 (.t 2)⟩,
  ⟨some 6, none, .load 1 false (.t 5)⟩,
  ⟨some 7, none, .bin .geq (.t 6) (.c (.int .i64 (-1)))⟩,
  ⟨some 8, none, .mov (.t 7)⟩,
  ⟨some 9, some (8, true), .faddr 0 (.t 2)⟩,
  ⟨some 10, some (8, true), .load 1 false (.t 9)⟩,
  ⟨some 11, some (8, true), .mov (.t 1)⟩,
  ⟨some 12, some (8, true), .bin .lss (.t 10) (.t 11)⟩,
  ⟨some 13, none, .pick (.t 8) (.t 12) (.c (.bool false))⟩,
  ⟨some 14, none, .mov (.t 13)⟩,
  ⟨some 15, some (14, true), .faddr 1 (.t 2)⟩,
  ⟨some 16, some (14, true), .load 1 false (.t 15)⟩,
  ⟨some 17, some (14, true), .bin .geq (.t 16) (.c (.int .i64 0))⟩,
  ⟨some 18, none, .pick (.t 14) (.t 17) (.c (.bool false))⟩,
  ⟨some 19, none, .mov (.t 18)⟩,
  ⟨some 20, some (19, true), .faddr 1 (.t 2)⟩,
  ⟨some 21, some (19, true), .load 1 false (.t 20)⟩,
  ⟨some 22, some (19, true), .bin .leq (.t 21) (.c (.int .i64 900))⟩,
  ⟨some 23, none, .pick (.t 19) (.t 22) (.c (.bool false))⟩,
  ⟨some 4, none, .mov (.t 23)⟩]
abbrev c83 : IR := .seq (.reg c83_r1) (.seq (.reg c83_r2) (.ret))
abbrev F83 : FnA := ⟨24, c83, [.t 4]⟩
theorem ok83 : cFn Try.prog 83 = some F83 := by kernel_rfl
theorem hb83 : HasBody Try.prog 83 := ⟨_, Try.func83, by kernel_rfl, by kernel_rfl⟩
/-! slices.IndexFunc:Instr -/
abbrev c85_r1 : List Ins := [
  ⟨some 4, none, .mov (.c (.int .i64 0))⟩]
abbrev c85_r2 : List Ins := [
  ⟨some 6, none, .mov (.t 0)⟩,
  ⟨some 7, none, .len (.t 6)⟩,
  ⟨some 8, none, .mov (.c (.int .i64 0))⟩]
abbrev c85_r3 : List Ins := [
  ⟨some 9, none, .bin .lss (.t 8) (.t 7)⟩]
abbrev c85_r4 : List Ins := [
  ⟨some 10, none, .mov (.t 8)⟩,
  ⟨some 5, none, .mov (.t 10)⟩]
abbrev c85_r5 : List Ins := [
  ⟨some 11, none, .mov (.t 1)⟩,
  ⟨some 12, none, .mov (.t 0)⟩,
  ⟨some 13, none, .mov (.t 5)⟩,
  ⟨some 14, none, .iaddr 9 (.t 12) (.t 13)⟩,
  ⟨some 15, none, .load 9 true (.t 14)⟩,
  ⟨some 16, none, .call (.t 11) [.t 15]⟩]
abbrev c85_r6 : List Ins := [
  ⟨some 17, none, .mov (.t 5)⟩,
  ⟨some 4, none, .mov (.t 17)⟩]
abbrev c85_r7 : List Ins := [
  ⟨some 18, none, .bin .add (.t 8) (.c (.int .i64 1))⟩,
  ⟨some 8, none, .mov (.t 18)⟩]
abbrev c85_l8 : IR := .seq (.reg c85_r3) (.seq (.cond (.t 9) (.skip) (.exit 0)) (.seq (.blk 1 (.seq (.reg c85_r4) (.seq (.reg c85_r5) (.cond (.t 16) (.seq (.reg c85_r6) (.ret)) (.skip))))) (.reg c85_r7)))
abbrev c85_r9 : List Ins := [
  ⟨some 4, none, .mov (.c (.int .i64 (-1)))⟩]
abbrev c85 : IR := .seq (.reg c85_r1) (.seq (.seq (.reg c85_r2) (.blk 0 (.loop c85_l8))) (.seq (.reg c85_r9) (.ret)))
abbrev F85 : FnA := ⟨19, c85, [.t 4]⟩
theorem ok85 : cFn Try.prog 85 = some F85 := by kernel_rfl
theorem hb85 : HasBody Try.prog 85 := ⟨_, Try.func85, by kernel_rfl, by kernel_rfl⟩
/-! prog.only -/
abbrev c86_r1 : List Ins := [
  ⟨some 1, none, .box (.t 0)⟩,
  ⟨some 2, none, .alloc [.int .i64 0, .int .i64 0, .int .i64 0, .int .i64 0, .int .i64 0, .int .i64 0, .int .i64 0, .int .i64 0, .int .i64 0]⟩,
  ⟨some 3, none, .mov (.c (.bool false))⟩]
abbrev c86_r2 : List Ins := [
  ⟨some 5, none, .faddr 0 (.t 1)⟩,
  ⟨some 6, none, .load 1 false (.t 5)⟩,
  ⟨some 7, none, .faddr 1 (.t 1)⟩,
  ⟨some 8, none, .load 1 false (.t 7)⟩,
  ⟨some 9, none, .build [.int .i64 0, .int .i64 0, .int .i64 0, .int .i64 0, .int .i64 0, .int .i64 0, .int .i64 0, .int .i64 0, .int .i64 0] [(0, (1, .t 6)), (1, (1, .t 8))]⟩,
  ⟨some 4, none, .alloc [.int .i64 0, .int .i64 0, .int .i64 0, .int .i64 0, .int .i64 0, .int .i64 0, .int .i64 0, .int .i64 0, .int .i64 0]⟩,
  ⟨none, none, .store 9 (.t 4) (.t 9)⟩]
abbrev c86_r3 : List Ins := [
  ⟨some 10, none, .faddr 0 (.t 1)⟩,
  ⟨some 11, none, .load 1 false (.t 10)⟩]
abbrev c86_r4 : List Ins := [
  ⟨some 14, none, .bin .eql (.t 11) (.c (.int .i64 1))⟩,
  ⟨some 13, none, .mov (.t 14)⟩]
abbrev c86_r5 : List Ins := [
  ⟨some 15, none, .bin .eql (.t 11) (.c (.int .i64 2))⟩,
  ⟨some 13, none, .mov (.t 15)⟩]
abbrev c86_r6 : List Ins := [
  ⟨some 16, none, .faddr 4 (.t 1)⟩,
  ⟨some 17, none, .load 2 true (.t 16)⟩,
  ⟨some 18, none, .faddr 4 (.t 4)⟩,
  ⟨none, none, .store 2 (.t 18) (.t 17)⟩]
abbrev c86_r7 : List Ins := [
  ⟨some 20, none, .bin .eql (.t 11) (.c (.int .i64 3))⟩,
  ⟨some 19, none, .mov (.t 20)⟩]
abbrev c86_r8 : List Ins := [
  ⟨some 21, none, .faddr 4 (.t 1)⟩,
  ⟨some 22, none, .load 2 true (.t 21)⟩,
  ⟨some 23, none, .faddr 1 (.t 4)⟩,
  ⟨none, none, .store 1 (.t 23) (.c (.int .i64 0))⟩,
  ⟨some 24, none, .faddr 4 (.t 4)⟩,
  ⟨none, none, .store 2 (.t 24) (.t 22)⟩]
def c86_a8 : List (List Nat) := [[], [0], [], [2], [0, 1, 2, 3], [4, 1, 3, 0, 1, 2, 3]]
abbrev c86_m8 : List Am.Mark := [⟨false, 0, 1⟩, ⟨false, 0, 1⟩, ⟨false, 0, 0⟩, ⟨true, 0, 1⟩, ⟨false, 1, 1⟩, ⟨true, 1, 2⟩]
theorem c86_d8 : drawFine c86_r8 c86_a8 c86_m8 = true := by decide +kernel
abbrev c86_r9 : List Ins := [
  ⟨some 26, none, .bin .eql (.t 11) (.c (.int .i64 4))⟩,
  ⟨some 25, none, .mov (.t 26)⟩]
abbrev c86_r10 : List Ins := [
  ⟨some 27, none, .faddr 4 (.t 1)⟩,
  ⟨some 28, none, .load 2 true (.t 27)⟩,
  ⟨some 29, none, .faddr 6 (.t 1)⟩,
  ⟨some 30, none, .load 2 true (.t 29)⟩,
  ⟨some 31, none, .faddr 4 (.t 4)⟩,
  ⟨none, none, .store 2 (.t 31) (.t 28)⟩,
  ⟨some 32, none, .faddr 6 (.t 4)⟩,
  ⟨none, none, .store 2 (.t 32) (.t 30)⟩]
def c86_a10 : List (List Nat) := [[], [0], [], [2], [0, 1], [4, 1, 0, 1], [0, 1, 2, 3, 4, 5], [6, 3, 5, 0, 1, 2, 3, 4, 5]]
abbrev c86_m10 : List Am.Mark := [⟨false, 0, 0⟩, ⟨false, 0, 0⟩, ⟨false, 0, 1⟩, ⟨false, 0, 1⟩, ⟨false, 0, 0⟩, ⟨true, 0, 1⟩, ⟨false, 1, 1⟩, ⟨true, 1, 2⟩]
theorem c86_d10 : drawFine c86_r10 c86_a10 c86_m10 = true := by decide +kernel
abbrev c86_r11 : List Ins := [
  ⟨some 34, none, .bin .eql (.t 11) (.c (.int .i64 5))⟩,
  ⟨some 33, none, .mov (.t 34)⟩]
abbrev c86_r12 : List Ins := [
  ⟨some 35, none, .bin .eql (.t 11) (.c (.int .i64 8))⟩,
  ⟨some 33, none, .mov (.t 35)⟩]
abbrev c86_r13 : List Ins := [
  ⟨some 36, none, .faddr 8 (.t 1)⟩,
  ⟨some 37, none, .load 1 false (.t 36)⟩,
  ⟨some 38, none, .faddr 8 (.t 4)⟩,
  ⟨none, none, .store 1 (.t 38) (.t 37)⟩]
abbrev c86_r14 : List Ins := [
  ⟨some 40, none, .bin .eql (.t 11) (.c (.int .i64 6))⟩,
  ⟨some 39, none, .mov (.t 40)⟩]
abbrev c86_r15 : List Ins := [
  ⟨some 41, none, .bin .eql (.t 11) (.c (.int .i64 7))⟩,
  ⟨some 39, none, .mov (.t 41)⟩]
abbrev c86_r16 : List Ins := [
  ⟨some 42, none, .faddr 2 (.t 1)⟩,
  ⟨some 43, none, .load 1 false (.t 42)⟩,
  ⟨some 44, none, .faddr 3 (.t 1)⟩,
  ⟨some 45, none, .load 1 false (.t 44)⟩,
  ⟨some 46, none, .faddr 2 (.t 4)⟩,
  ⟨none, none, .store 1 (.t 46) (.t 43)⟩,
  ⟨some 47, none, .faddr 3 (.t 4)⟩,
  ⟨none, none, .store 1 (.t 47) (.t 45)⟩]
def c86_a16 : List (List Nat) := [[], [0], [], [2], [0, 1], [4, 1, 0, 1], [0, 1, 2, 3, 4, 5], [6, 3, 5, 0, 1, 2, 3, 4, 5]]
abbrev c86_m16 : List Am.Mark := [⟨false, 0, 0⟩, ⟨false, 0, 0⟩, ⟨false, 0, 1⟩, ⟨false, 0, 1⟩, ⟨false, 0, 0⟩, ⟨true, 0, 1⟩, ⟨false, 1, 1⟩, ⟨true, 1, 2⟩]
theorem c86_d16 : drawFine c86_r16 c86_a16 c86_m16 = true := by decide +kernel
abbrev c86_r17 : List Ins := [
  ⟨some 12, none, .load 9 true (.t 4)⟩,
  ⟨none, none, .store 9 (.t 2) (.t 12)⟩,
  ⟨some 3, none, .mov (.c (.bool false))⟩]
abbrev c86_r18 : List Ins := [
  ⟨some 48, none, .load 9 true (.t 4)⟩,
  ⟨none, none, .store 9 (.t 2) (.t 48)⟩,
  ⟨some 3, none, .mov (.c (.bool true))⟩]
abbrev c86 : IR := .seq (.reg c86_r1) (.seq (.reg c86_r2) (.seq (.seq (.reg c86_r3) (.blk 0 (.seq (.seq (.reg c86_r4) (.cond (.t 13) (.skip) (.reg c86_r5))) (.cond (.t 13) (.reg c86_r6) (.seq (.reg c86_r7) (.cond (.t 19) (.dreg c86_r8 c86_a8) (.seq (.reg c86_r9) (.cond (.t 25) (.dreg c86_r10 c86_a10) (.seq (.seq (.reg c86_r11) (.cond (.t 33) (.skip) (.reg c86_r12))) (.cond (.t 33) (.reg c86_r13) (.seq (.seq (.reg c86_r14) (.cond (.t 39) (.skip) (.reg c86_r15))) (.cond (.t 39) (.dreg c86_r16 c86_a16) (.seq (.reg c86_r17) (.ret)))))))))))))) (.seq (.reg c86_r18) (.ret))))
abbrev F86 : FnA := ⟨49, c86, [.cell 2 9 true, .t 3]⟩
theorem ok86 : cFn Try.prog 86 = some F86 := by kernel_rfl
theorem hb86 : HasBody Try.prog 86 := ⟨_, Try.func86, by kernel_rfl, by kernel_rfl⟩
/-! prog.may$1 -/
abbrev c87_r1 : List Ins := [
  ⟨some 2, none, .box (.t 0)⟩,
  ⟨some 3, none, .mov (.c (.bool false))⟩]
abbrev c87_r2 : List Ins := [
  ⟨some 4, none, .load 2 true (.t 2)⟩,
  ⟨some 5, none, .load 1 false (.t 1)⟩,
  ⟨some 6, none, .call (.c (.fn 83 [] [])) [.t 4, .t 5]⟩,
  ⟨some 7, none, .un .not (.t 6)⟩,
  ⟨some 3, none, .mov (.t 7)⟩]
abbrev c87 : IR := .seq (.reg c87_r1) (.seq (.reg c87_r2) (.ret))
abbrev F87 : FnA := ⟨8, c87, [.t 3]⟩
theorem ok87 : cFn Try.prog 87 = some F87 := by kernel_rfl
theorem hb87 : HasBody Try.prog 87 := ⟨_, Try.func87, by kernel_rfl, by kernel_rfl⟩
/-! prog.register -/
abbrev c88_r1 : List Ins := [
  ⟨some 2, none, .mov (.c (.bool false))⟩]
abbrev c88_r2 : List Ins := [
  ⟨some 3, none, .mov (.t 0)⟩,
  ⟨some 4, none, .bin .geq (.t 3) (.c (.int .i64 0))⟩,
  ⟨some 5, none, .mov (.t 4)⟩,
  ⟨some 6, some (5, true), .mov (.t 0)⟩,
  ⟨some 7, some (5, true), .bin .lss (.t 6) (.c (.int .i64 4))⟩,
  ⟨some 8, none, .pick (.t 5) (.t 7) (.c (.bool false))⟩,
  ⟨some 2, none, .mov (.t 8)⟩]
abbrev c88 : IR := .seq (.reg c88_r1) (.seq (.reg c88_r2) (.ret))
abbrev F88 : FnA := ⟨9, c88, [.t 2]⟩
theorem ok88 : cFn Try.prog 88 = some F88 := by kernel_rfl
theorem hb88 : HasBody Try.prog 88 := ⟨_, Try.func88, by kernel_rfl, by kernel_rfl⟩
/-! slices.ContainsFunc:KeyT -/
abbrev c89_r1 : List Ins := [
  ⟨some 4, none, .mov (.c (.bool false))⟩]
abbrev c89_r2 : List Ins := [
  ⟨some 5, none, .mov (.t 0)⟩,
  ⟨some 6, none, .mov (.t 1)⟩,
  ⟨some 7, none, .call (.c (.fn 102 [] [])) [.t 5, .t 6]⟩,
  ⟨some 8, none, .bin .geq (.t 7) (.c (.int .i64 0))⟩,
  ⟨some 4, none, .mov (.t 8)⟩]
abbrev c89 : IR := .seq (.reg c89_r1) (.seq (.reg c89_r2) (.ret))
abbrev F89 : FnA := ⟨9, c89, [.t 4]⟩
theorem ok89 : cFn Try.prog 89 = some F89 := by kernel_rfl
theorem hb89 : HasBody Try.prog 89 := ⟨_, Try.func89, by kernel_rfl, by kernel_rfl⟩
/-! prog.keys -/
abbrev c90_r1 : List Ins := [
  ⟨some 1, none, .box (.t 0)⟩,
  ⟨some 2, none, .mov (.c (.sl .full []))⟩]
abbrev c90_r2 : List Ins := [
  ⟨some 3, none, .faddr 0 (.t 1)⟩,
  ⟨some 4, none, .load 1 false (.t 3)⟩]
abbrev c90_r3 : List Ins := [
  ⟨some 6, none, .bin .eql (.t 4) (.c (.int .i64 1))⟩,
  ⟨some 5, none, .mov (.t 6)⟩]
abbrev c90_r4 : List Ins := [
  ⟨some 7, none, .bin .eql (.t 4) (.c (.int .i64 2))⟩,
  ⟨some 5, none, .mov (.t 7)⟩]
abbrev c90_r5 : List Ins := [
  ⟨some 8, none, .bin .eql (.t 4) (.c (.int .i64 3))⟩,
  ⟨some 5, none, .mov (.t 8)⟩]
abbrev c90_r6 : List Ins := [
  ⟨some 9, none, .faddr 4 (.t 1)⟩,
  ⟨some 10, none, .load 2 true (.t 9)⟩,
  ⟨some 11, none, .bsl 2 1 [.int .i64 0, .int .i64 0] [(0, .t 10)]⟩,
  ⟨some 2, none, .mov (.t 11)⟩]
abbrev c90_r7 : List Ins := [
  ⟨some 13, none, .bin .eql (.t 4) (.c (.int .i64 4))⟩,
  ⟨some 12, none, .mov (.t 13)⟩]
abbrev c90_r8 : List Ins := [
  ⟨some 14, none, .faddr 4 (.t 1)⟩,
  ⟨some 15, none, .load 2 true (.t 14)⟩,
  ⟨some 16, none, .faddr 6 (.t 1)⟩,
  ⟨some 17, none, .load 2 true (.t 16)⟩,
  ⟨some 18, none, .bsl 2 2 [.int .i64 0, .int .i64 0] [(0, .t 15), (1, .t 17)]⟩,
  ⟨some 2, none, .mov (.t 18)⟩]
abbrev c90_r9 : List Ins := [
  ⟨some 2, none, .mov (.c (.sl .full []))⟩]
abbrev c90 : IR := .seq (.reg c90_r1) (.seq (.seq (.reg c90_r2) (.blk 0 (.seq (.seq (.reg c90_r3) (.cond (.t 5) (.skip) (.seq (.reg c90_r4) (.cond (.t 5) (.skip) (.reg c90_r5))))) (.cond (.t 5) (.seq (.reg c90_r6) (.ret)) (.seq (.reg c90_r7) (.cond (.t 12) (.seq (.reg c90_r8) (.ret)) (.skip))))))) (.seq (.reg c90_r9) (.ret)))
abbrev F90 : FnA := ⟨19, c90, [.t 2]⟩
theorem ok90 : cFn Try.prog 90 = some F90 := by kernel_rfl
theorem hb90 : HasBody Try.prog 90 := ⟨_, Try.func90, by kernel_rfl, by kernel_rfl⟩
/-! slices.insertionSortCmpFunc:Span -/
abbrev c91_r1 : List Ins := [
  ⟨some 10, none, .mov (.t 1)⟩,
  ⟨some 11, none, .bin .add (.t 10) (.c (.int .i64 1))⟩,
  ⟨some 8, none, .mov (.t 11)⟩]
abbrev c91_r2 : List Ins := [
  ⟨some 12, none, .mov (.t 8)⟩,
  ⟨some 13, none, .mov (.t 2)⟩,
  ⟨some 14, none, .bin .lss (.t 12) (.t 13)⟩]
abbrev c91_r3 : List Ins := [
  ⟨some 17, none, .mov (.t 8)⟩,
  ⟨some 9, none, .mov (.t 17)⟩]
abbrev c91_r4 : List Ins := [
  ⟨some 18, none, .mov (.t 9)⟩,
  ⟨some 19, none, .mov (.t 1)⟩,
  ⟨some 20, none, .bin .gtr (.t 18) (.t 19)⟩,
  ⟨some 21, none, .mov (.t 20)⟩,
  ⟨some 22, some (21, true), .mov (.t 3)⟩,
  ⟨some 23, some (21, true), .mov (.t 0)⟩,
  ⟨some 24, some (21, true), .mov (.t 9)⟩,
  ⟨some 25, some (21, true), .iaddr 2 (.t 23) (.t 24)⟩,
  ⟨some 26, some (21, true), .load 2 true (.t 25)⟩,
  ⟨some 27, some (21, true), .mov (.t 0)⟩,
  ⟨some 28, some (21, true), .mov (.t 9)⟩,
  ⟨some 29, some (21, true), .bin .sub (.t 28) (.c (.int .i64 1))⟩,
  ⟨some 30, some (21, true), .iaddr 2 (.t 27) (.t 29)⟩,
  ⟨some 31, some (21, true), .load 2 true (.t 30)⟩,
  ⟨some 32, some (21, true), .call (.t 22) [.t 26, .t 31]⟩,
  ⟨some 33, some (21, true), .bin .lss (.t 32) (.c (.int .i64 0))⟩,
  ⟨some 34, none, .pick (.t 21) (.t 33) (.c (.bool false))⟩]
def c91_a4 : List (List Nat) := [[], [], [0, 1], [2], [3], [3], [3], [5, 6, 3], [7, 3], [3], [3], [10, 3], [9, 11, 3], [12, 3], [4, 8, 13, 3, 3], [14, 3], [3, 15]]
abbrev c91_m4 : List Am.Mark := [⟨false, 0, 1⟩, ⟨false, 0, 1⟩, ⟨false, 0, 1⟩, ⟨false, 0, 0⟩, ⟨false, 0, 0⟩, ⟨false, 0, 1⟩, ⟨false, 0, 1⟩, ⟨false, 0, 1⟩, ⟨false, 0, 0⟩, ⟨false, 0, 1⟩, ⟨false, 0, 1⟩, ⟨false, 0, 1⟩, ⟨false, 0, 1⟩, ⟨false, 0, 0⟩, ⟨true, 0, 1⟩, ⟨false, 1, 1⟩, ⟨false, 1, 1⟩]
theorem c91_d4 : drawFine c91_r4 c91_a4 c91_m4 = true := by decide +kernel
abbrev c91_r5 : List Ins := [
  ⟨some 37, none, .mov (.t 0)⟩,
  ⟨some 38, none, .mov (.t 9)⟩,
  ⟨some 39, none, .mov (.t 0)⟩,
  ⟨some 40, none, .mov (.t 9)⟩,
  ⟨some 41, none, .bin .sub (.t 40) (.c (.int .i64 1))⟩,
  ⟨some 42, none, .mov (.t 0)⟩,
  ⟨some 43, none, .mov (.t 9)⟩,
  ⟨some 44, none, .bin .sub (.t 43) (.c (.int .i64 1))⟩,
  ⟨some 45, none, .iaddr 2 (.t 42) (.t 44)⟩,
  ⟨some 46, none, .load 2 true (.t 45)⟩,
  ⟨some 47, none, .mov (.t 0)⟩,
  ⟨some 48, none, .mov (.t 9)⟩,
  ⟨some 49, none, .iaddr 2 (.t 47) (.t 48)⟩,
  ⟨some 50, none, .load 2 true (.t 49)⟩,
  ⟨some 51, none, .iaddr 2 (.t 37) (.t 38)⟩,
  ⟨none, none, .store 2 (.t 51) (.t 46)⟩,
  ⟨some 52, none, .iaddr 2 (.t 39) (.t 41)⟩,
  ⟨none, none, .store 2 (.t 52) (.t 50)⟩]
def c91_a5 : List (List Nat) := [[], [], [], [], [3], [], [], [6], [5, 7], [8], [], [], [10, 11], [12], [0, 1, 0, 1, 5, 6, 7, 8, 9, 13], [14, 9, 0, 1, 5, 6, 7, 8, 9, 13], [2, 4, 0, 1, 2, 3, 4, 5, 6, 7, 8, 9, 10, 11, 12, 13, 14, 15], [16, 13, 15, 0, 1, 2, 3, 4, 5, 6, 7, 8, 9, 10, 11, 12, 13, 14, 15]]
abbrev c91_m5 : List Am.Mark := [⟨false, 0, 0⟩, ⟨false, 0, 0⟩, ⟨false, 0, 1⟩, ⟨false, 0, 1⟩, ⟨false, 0, 1⟩, ⟨false, 0, 0⟩, ⟨false, 0, 0⟩, ⟨false, 0, 0⟩, ⟨false, 0, 0⟩, ⟨false, 0, 0⟩, ⟨false, 0, 1⟩, ⟨false, 0, 1⟩, ⟨false, 0, 1⟩, ⟨false, 0, 0⟩, ⟨false, 0, 0⟩, ⟨true, 0, 1⟩, ⟨false, 1, 1⟩, ⟨true, 1, 2⟩]
theorem c91_d5 : drawFine c91_r5 c91_a5 c91_m5 = true := by decide +kernel
abbrev c91_r6 : List Ins := [
  ⟨some 35, none, .mov (.t 9)⟩,
  ⟨some 36, none, .bin .sub (.t 35) (.c (.int .i64 1))⟩,
  ⟨some 9, none, .mov (.t 36)⟩]
abbrev c91_l7 : IR := .seq (.seq (.dreg c91_r4 c91_a4) (.cond (.t 34) (.skip) (.exit 2))) (.seq (.blk 3 (.dreg c91_r5 c91_a5)) (.reg c91_r6))
abbrev c91_r8 : List Ins := [
  ⟨some 15, none, .mov (.t 8)⟩,
  ⟨some 16, none, .bin .add (.t 15) (.c (.int .i64 1))⟩,
  ⟨some 8, none, .mov (.t 16)⟩]
abbrev c91_l9 : IR := .seq (.seq (.reg c91_r2) (.cond (.t 14) (.skip) (.exit 0))) (.seq (.blk 1 (.seq (.reg c91_r3) (.blk 2 (.loop c91_l7)))) (.reg c91_r8))
abbrev c91 : IR := .seq (.reg c91_r1) (.blk 0 (.loop c91_l9))
abbrev F91 : FnA := ⟨53, c91, []⟩
theorem ok91 : cFn Try.prog 91 = some F91 := by kernel_rfl
theorem hb91 : HasBody Try.prog 91 := ⟨_, Try.func91, by kernel_rfl, by kernel_rfl⟩
/-! slices.heapSortCmpFunc:Span -/
abbrev c92_r1 : List Ins := [
  ⟨some 13, none, .mov (.t 1)⟩,
  ⟨some 8, none, .mov (.t 13)⟩]
abbrev c92_r2 : List Ins := [
  ⟨some 9, none, .mov (.c (.int .i64 0))⟩]
abbrev c92_r3 : List Ins := [
  ⟨some 14, none, .mov (.t 2)⟩,
  ⟨some 15, none, .mov (.t 1)⟩,
  ⟨some 16, none, .bin .sub (.t 14) (.t 15)⟩,
  ⟨some 10, none, .mov (.t 16)⟩]
abbrev c92_r4 : List Ins := [
  ⟨some 17, none, .mov (.t 10)⟩,
  ⟨some 18, none, .bin .sub (.t 17) (.c (.int .i64 1))⟩,
  ⟨some 19, none, .bin .quo (.t 18) (.c (.int .i64 2))⟩,
  ⟨some 11, none, .mov (.t 19)⟩]
abbrev c92_r5 : List Ins := [
  ⟨some 20, none, .mov (.t 11)⟩,
  ⟨some 21, none, .bin .geq (.t 20) (.c (.int .i64 0))⟩]
abbrev c92_r6 : List Ins := [
  ⟨some 24, none, .mov (.t 0)⟩,
  ⟨some 25, none, .mov (.t 11)⟩,
  ⟨some 26, none, .mov (.t 10)⟩,
  ⟨some 27, none, .mov (.t 8)⟩,
  ⟨some 28, none, .mov (.t 3)⟩,
  ⟨some 29, none, .call (.c (.fn 103 [] [])) [.t 24, .t 25, .t 26, .t 27, .t 28]⟩]
abbrev c92_r7 : List Ins := [
  ⟨some 22, none, .mov (.t 11)⟩,
  ⟨some 23, none, .bin .sub (.t 22) (.c (.int .i64 1))⟩,
  ⟨some 11, none, .mov (.t 23)⟩]
abbrev c92_l8 : IR := .seq (.seq (.reg c92_r5) (.cond (.t 21) (.skip) (.exit 0))) (.seq (.blk 1 (.reg c92_r6)) (.reg c92_r7))
abbrev c92_r9 : List Ins := [
  ⟨some 30, none, .mov (.t 10)⟩,
  ⟨some 31, none, .bin .sub (.t 30) (.c (.int .i64 1))⟩,
  ⟨some 12, none, .mov (.t 31)⟩]
abbrev c92_r10 : List Ins := [
  ⟨some 32, none, .mov (.t 12)⟩,
  ⟨some 33, none, .bin .geq (.t 32) (.c (.int .i64 0))⟩]
abbrev c92_r11 : List Ins := [
  ⟨some 36, none, .mov (.t 0)⟩,
  ⟨some 37, none, .mov (.t 8)⟩,
  ⟨some 38, none, .mov (.t 0)⟩,
  ⟨some 39, none, .mov (.t 8)⟩,
  ⟨some 40, none, .mov (.t 12)⟩,
  ⟨some 41, none, .bin .add (.t 39) (.t 40)⟩,
  ⟨some 42, none, .mov (.t 0)⟩,
  ⟨some 43, none, .mov (.t 8)⟩,
  ⟨some 44, none, .mov (.t 12)⟩,
  ⟨some 45, none, .bin .add (.t 43) (.t 44)⟩,
  ⟨some 46, none, .iaddr 2 (.t 42) (.t 45)⟩,
  ⟨some 47, none, .load 2 true (.t 46)⟩,
  ⟨some 48, none, .mov (.t 0)⟩,
  ⟨some 49, none, .mov (.t 8)⟩,
  ⟨some 50, none, .iaddr 2 (.t 48) (.t 49)⟩,
  ⟨some 51, none, .load 2 true (.t 50)⟩,
  ⟨some 52, none, .iaddr 2 (.t 36) (.t 37)⟩,
  ⟨none, none, .store 2 (.t 52) (.t 47)⟩,
  ⟨some 53, none, .iaddr 2 (.t 38) (.t 41)⟩,
  ⟨none, none, .store 2 (.t 53) (.t 51)⟩]
def c92_a11 : List (List Nat) := [[], [], [], [], [], [3, 4], [], [], [], [7, 8], [6, 9], [10], [], [], [12, 13], [14], [0, 1, 0, 1, 6, 7, 8, 9, 10, 11, 15], [16, 11, 0, 1, 6, 7, 8, 9, 10, 11, 15], [2, 5, 0, 1, 2, 3, 4, 5, 6, 7, 8, 9, 10, 11, 12, 13, 14, 15, 16, 17], [18, 15, 17, 0, 1, 2, 3, 4, 5, 6, 7, 8, 9, 10, 11, 12, 13, 14, 15, 16, 17]]
abbrev c92_m11 : List Am.Mark := [⟨false, 0, 0⟩, ⟨false, 0, 0⟩, ⟨false, 0, 1⟩, ⟨false, 0, 1⟩, ⟨false, 0, 1⟩, ⟨false, 0, 1⟩, ⟨false, 0, 0⟩, ⟨false, 0, 0⟩, ⟨false, 0, 0⟩, ⟨false, 0, 0⟩, ⟨false, 0, 0⟩, ⟨false, 0, 0⟩, ⟨false, 0, 1⟩, ⟨false, 0, 1⟩, ⟨false, 0, 1⟩, ⟨false, 0, 0⟩, ⟨false, 0, 0⟩, ⟨true, 0, 1⟩, ⟨false, 1, 1⟩, ⟨true, 1, 2⟩]
theorem c92_d11 : drawFine c92_r11 c92_a11 c92_m11 = true := by decide +kernel
abbrev c92_r12 : List Ins := [
  ⟨some 54, none, .mov (.t 0)⟩,
  ⟨some 55, none, .mov (.t 9)⟩,
  ⟨some 56, none, .mov (.t 12)⟩,
  ⟨some 57, none, .mov (.t 8)⟩,
  ⟨some 58, none, .mov (.t 3)⟩,
  ⟨some 59, none, .call (.c (.fn 103 [] [])) [.t 54, .t 55, .t 56, .t 57, .t 58]⟩]
abbrev c92_r13 : List Ins := [
  ⟨some 34, none, .mov (.t 12)⟩,
  ⟨some 35, none, .bin .sub (.t 34) (.c (.int .i64 1))⟩,
  ⟨some 12, none, .mov (.t 35)⟩]
abbrev c92_l14 : IR := .seq (.seq (.reg c92_r10) (.cond (.t 33) (.skip) (.exit 2))) (.seq (.blk 3 (.seq (.dreg c92_r11 c92_a11) (.reg c92_r12))) (.reg c92_r13))
abbrev c92 : IR := .seq (.reg c92_r1) (.seq (.reg c92_r2) (.seq (.reg c92_r3) (.seq (.seq (.reg c92_r4) (.blk 0 (.loop c92_l8))) (.seq (.reg c92_r9) (.blk 2 (.loop c92_l14))))))
abbrev F92 : FnA := ⟨60, c92, []⟩
theorem ok92 : cFn Try.prog 92 = some F92 := by kernel_rfl
theorem hb92 : HasBody Try.prog 92 := ⟨_, Try.func92, by kernel_rfl, by kernel_rfl⟩
/-! slices.breakPatternsCmpFunc:Span -/
abbrev c93_r1 : List Ins := [
  ⟨some 13, none, .mov (.t 2)⟩,
  ⟨some 14, none, .mov (.t 1)⟩,
  ⟨some 15, none, .bin .sub (.t 13) (.t 14)⟩,
  ⟨some 8, none, .mov (.t 15)⟩]
abbrev c93_r2 : List Ins := [
  ⟨some 16, none, .mov (.t 8)⟩,
  ⟨some 17, none, .bin .geq (.t 16) (.c (.int .i64 8))⟩]
abbrev c93_r3 : List Ins := [
  ⟨some 18, none, .mov (.t 8)⟩,
  ⟨some 19, none, .conv .u64 (.t 18)⟩,
  ⟨some 9, none, .alloc [.int .u64 0]⟩,
  ⟨none, none, .store 1 (.t 9) (.t 19)⟩]
abbrev c93_r4 : List Ins := [
  ⟨some 20, none, .mov (.t 8)⟩,
  ⟨some 21, none, .call (.c (.fn 104 [] [])) [.t 20]⟩,
  ⟨some 10, none, .mov (.t 21)⟩]
abbrev c93_r5 : List Ins := [
  ⟨some 22, none, .mov (.t 1)⟩,
  ⟨some 23, none, .mov (.t 8)⟩,
  ⟨some 24, none, .bin .quo (.t 23) (.c (.int .i64 4))⟩,
  ⟨some 25, none, .bin .mul (.t 24) (.c (.int .i64 2))⟩,
  ⟨some 26, none, .bin .add (.t 22) (.t 25)⟩,
  ⟨some 27, none, .bin .sub (.t 26) (.c (.int .i64 1))⟩,
  ⟨some 11, none, .mov (.t 27)⟩]
abbrev c93_r6 : List Ins := [
  ⟨some 28, none, .mov (.t 11)⟩,
  ⟨some 29, none, .mov (.t 1)⟩,
  ⟨some 30, none, .mov (.t 8)⟩,
  ⟨some 31, none, .bin .quo (.t 30) (.c (.int .i64 4))⟩,
  ⟨some 32, none, .bin .mul (.t 31) (.c (.int .i64 2))⟩,
  ⟨some 33, none, .bin .add (.t 29) (.t 32)⟩,
  ⟨some 34, none, .bin .add (.t 33) (.c (.int .i64 1))⟩,
  ⟨some 35, none, .bin .leq (.t 28) (.t 34)⟩]
abbrev c93_r7 : List Ins := [
  ⟨some 38, none, .call (.c (.fn 105 [] [])) [.t 9]⟩,
  ⟨some 39, none, .mov (.t 10)⟩,
  ⟨some 40, none, .bin .sub (.t 39) (.c (.int .u64 1))⟩,
  ⟨some 41, none, .bin .and (.t 38) (.t 40)⟩,
  ⟨some 42, none, .conv .i64 (.t 41)⟩,
  ⟨some 12, none, .mov (.t 42)⟩]
abbrev c93_r8 : List Ins := [
  ⟨some 43, none, .mov (.t 12)⟩,
  ⟨some 44, none, .mov (.t 8)⟩,
  ⟨some 45, none, .bin .geq (.t 43) (.t 44)⟩]
abbrev c93_r9 : List Ins := [
  ⟨some 46, none, .mov (.t 12)⟩,
  ⟨some 47, none, .mov (.t 8)⟩,
  ⟨some 48, none, .bin .sub (.t 46) (.t 47)⟩,
  ⟨some 12, none, .mov (.t 48)⟩]
abbrev c93_r10 : List Ins := [
  ⟨some 49, none, .mov (.t 0)⟩,
  ⟨some 50, none, .mov (.t 11)⟩,
  ⟨some 51, none, .mov (.t 0)⟩,
  ⟨some 52, none, .mov (.t 1)⟩,
  ⟨some 53, none, .mov (.t 12)⟩,
  ⟨some 54, none, .bin .add (.t 52) (.t 53)⟩,
  ⟨some 55, none, .mov (.t 0)⟩,
  ⟨some 56, none, .mov (.t 1)⟩,
  ⟨some 57, none, .mov (.t 12)⟩,
  ⟨some 58, none, .bin .add (.t 56) (.t 57)⟩,
  ⟨some 59, none, .iaddr 2 (.t 55) (.t 58)⟩,
  ⟨some 60, none, .load 2 true (.t 59)⟩,
  ⟨some 61, none, .mov (.t 0)⟩,
  ⟨some 62, none, .mov (.t 11)⟩,
  ⟨some 63, none, .iaddr 2 (.t 61) (.t 62)⟩,
  ⟨some 64, none, .load 2 true (.t 63)⟩,
  ⟨some 65, none, .iaddr 2 (.t 49) (.t 50)⟩,
  ⟨none, none, .store 2 (.t 65) (.t 60)⟩,
  ⟨some 66, none, .iaddr 2 (.t 51) (.t 54)⟩,
  ⟨none, none, .store 2 (.t 66) (.t 64)⟩]
def c93_a10 : List (List Nat) := [[], [], [], [], [], [3, 4], [], [], [], [7, 8], [6, 9], [10], [], [], [12, 13], [14], [0, 1, 0, 1, 6, 7, 8, 9, 10, 11, 15], [16, 11, 0, 1, 6, 7, 8, 9, 10, 11, 15], [2, 5, 0, 1, 2, 3, 4, 5, 6, 7, 8, 9, 10, 11, 12, 13, 14, 15, 16, 17], [18, 15, 17, 0, 1, 2, 3, 4, 5, 6, 7, 8, 9, 10, 11, 12, 13, 14, 15, 16, 17]]
abbrev c93_m10 : List Am.Mark := [⟨false, 0, 0⟩, ⟨false, 0, 0⟩, ⟨false, 0, 1⟩, ⟨false, 0, 1⟩, ⟨false, 0, 1⟩, ⟨false, 0, 1⟩, ⟨false, 0, 0⟩, ⟨false, 0, 0⟩, ⟨false, 0, 0⟩, ⟨false, 0, 0⟩, ⟨false, 0, 0⟩, ⟨false, 0, 0⟩, ⟨false, 0, 1⟩, ⟨false, 0, 1⟩, ⟨false, 0, 1⟩, ⟨false, 0, 0⟩, ⟨false, 0, 0⟩, ⟨true, 0, 1⟩, ⟨false, 1, 1⟩, ⟨true, 1, 2⟩]
theorem c93_d10 : drawFine c93_r10 c93_a10 c93_m10 = true := by decide +kernel
abbrev c93_r11 : List Ins := [
  ⟨some 36, none, .mov (.t 11)⟩,
  ⟨some 37, none, .bin .add (.t 36) (.c (.int .i64 1))⟩,
  ⟨some 11, none, .mov (.t 37)⟩]
abbrev c93_l12 : IR := .seq (.seq (.reg c93_r6) (.cond (.t 35) (.skip) (.exit 0))) (.seq (.blk 1 (.seq (.reg c93_r7) (.seq (.seq (.reg c93_r8) (.cond (.t 45) (.reg c93_r9) (.skip))) (.dreg c93_r10 c93_a10)))) (.reg c93_r11))
abbrev c93 : IR := .seq (.reg c93_r1) (.seq (.reg c93_r2) (.cond (.t 17) (.seq (.reg c93_r3) (.seq (.reg c93_r4) (.seq (.reg c93_r5) (.blk 0 (.loop c93_l12))))) (.skip)))
abbrev F93 : FnA := ⟨67, c93, []⟩
theorem ok93 : cFn Try.prog 93 = some F93 := by kernel_rfl
theorem hb93 : HasBody Try.prog 93 := ⟨_, Try.func93, by kernel_rfl, by kernel_rfl⟩
/-! slices.choosePivotCmpFunc:Span -/
abbrev c94_r1 : List Ins := [
  ⟨some 8, none, .mov (.c (.int .i64 0))⟩,
  ⟨some 9, none, .mov (.c (.int .i64 0))⟩]
abbrev c94_r2 : List Ins := [
  ⟨some 15, none, .mov (.t 2)⟩,
  ⟨some 16, none, .mov (.t 1)⟩,
  ⟨some 17, none, .bin .sub (.t 15) (.t 16)⟩,
  ⟨some 10, none, .mov (.t 17)⟩]
abbrev c94_r3 : List Ins := [
  ⟨some 11, none, .alloc [.int .i64 0]⟩]
abbrev c94_r4 : List Ins := [
  ⟨some 18, none, .mov (.t 1)⟩,
  ⟨some 19, none, .mov (.t 10)⟩,
  ⟨some 20, none, .bin .quo (.t 19) (.c (.int .i64 4))⟩,
  ⟨some 21, none, .bin .mul (.t 20) (.c (.int .i64 1))⟩,
  ⟨some 22, none, .bin .add (.t 18) (.t 21)⟩,
  ⟨some 12, none, .mov (.t 22)⟩]
abbrev c94_r5 : List Ins := [
  ⟨some 23, none, .mov (.t 1)⟩,
  ⟨some 24, none, .mov (.t 10)⟩,
  ⟨some 25, none, .bin .quo (.t 24) (.c (.int .i64 4))⟩,
  ⟨some 26, none, .bin .mul (.t 25) (.c (.int .i64 2))⟩,
  ⟨some 27, none, .bin .add (.t 23) (.t 26)⟩,
  ⟨some 13, none, .mov (.t 27)⟩]
abbrev c94_r6 : List Ins := [
  ⟨some 28, none, .mov (.t 1)⟩,
  ⟨some 29, none, .mov (.t 10)⟩,
  ⟨some 30, none, .bin .quo (.t 29) (.c (.int .i64 4))⟩,
  ⟨some 31, none, .bin .mul (.t 30) (.c (.int .i64 3))⟩,
  ⟨some 32, none, .bin .add (.t 28) (.t 31)⟩,
  ⟨some 14, none, .mov (.t 32)⟩]
abbrev c94_r7 : List Ins := [
  ⟨some 33, none, .mov (.t 10)⟩,
  ⟨some 34, none, .bin .geq (.t 33) (.c (.int .i64 8))⟩]
abbrev c94_r8 : List Ins := [
  ⟨some 35, none, .mov (.t 10)⟩,
  ⟨some 36, none, .bin .geq (.t 35) (.c (.int .i64 50))⟩]
abbrev c94_r9 : List Ins := [
  ⟨some 37, none, .mov (.t 0)⟩,
  ⟨some 38, none, .mov (.t 12)⟩,
  ⟨some 39, none, .mov (.t 3)⟩,
  ⟨some 40, none, .call (.c (.fn 106 [] [])) [.t 37, .t 38, .t 11, .t 39]⟩,
  ⟨some 12, none, .mov (.t 40)⟩]
abbrev c94_r10 : List Ins := [
  ⟨some 41, none, .mov (.t 0)⟩,
  ⟨some 42, none, .mov (.t 13)⟩,
  ⟨some 43, none, .mov (.t 3)⟩,
  ⟨some 44, none, .call (.c (.fn 106 [] [])) [.t 41, .t 42, .t 11, .t 43]⟩,
  ⟨some 13, none, .mov (.t 44)⟩]
abbrev c94_r11 : List Ins := [
  ⟨some 45, none, .mov (.t 0)⟩,
  ⟨some 46, none, .mov (.t 14)⟩,
  ⟨some 47, none, .mov (.t 3)⟩,
  ⟨some 48, none, .call (.c (.fn 106 [] [])) [.t 45, .t 46, .t 11, .t 47]⟩,
  ⟨some 14, none, .mov (.t 48)⟩]
abbrev c94_r12 : List Ins := [
  ⟨some 49, none, .mov (.t 0)⟩,
  ⟨some 50, none, .mov (.t 12)⟩,
  ⟨some 51, none, .mov (.t 13)⟩,
  ⟨some 52, none, .mov (.t 14)⟩,
  ⟨some 53, none, .mov (.t 3)⟩,
  ⟨some 54, none, .call (.c (.fn 107 [] [])) [.t 49, .t 50, .t 51, .t 52, .t 11, .t 53]⟩,
  ⟨some 13, none, .mov (.t 54)⟩]
abbrev c94_r13 : List Ins := [
  ⟨some 55, none, .load 1 false (.t 11)⟩]
abbrev c94_r14 : List Ins := [
  ⟨some 58, none, .bin .eql (.t 55) (.c (.int .i64 0))⟩,
  ⟨some 57, none, .mov (.t 58)⟩]
abbrev c94_r15 : List Ins := [
  ⟨some 59, none, .mov (.t 13)⟩,
  ⟨some 8, none, .mov (.t 59)⟩,
  ⟨some 9, none, .mov (.c (.int .i64 1))⟩]
abbrev c94_r16 : List Ins := [
  ⟨some 61, none, .bin .eql (.t 55) (.c (.int .i64 12))⟩,
  ⟨some 60, none, .mov (.t 61)⟩]
abbrev c94_r17 : List Ins := [
  ⟨some 62, none, .mov (.t 13)⟩,
  ⟨some 8, none, .mov (.t 62)⟩,
  ⟨some 9, none, .mov (.c (.int .i64 2))⟩]
abbrev c94_r18 : List Ins := [
  ⟨some 56, none, .mov (.t 13)⟩,
  ⟨some 8, none, .mov (.t 56)⟩,
  ⟨some 9, none, .mov (.c (.int .i64 0))⟩]
abbrev c94 : IR := .seq (.reg c94_r1) (.seq (.reg c94_r2) (.seq (.reg c94_r3) (.seq (.reg c94_r4) (.seq (.reg c94_r5) (.seq (.reg c94_r6) (.seq (.seq (.reg c94_r7) (.cond (.t 34) (.seq (.seq (.reg c94_r8) (.cond (.t 36) (.seq (.reg c94_r9) (.seq (.reg c94_r10) (.reg c94_r11))) (.skip))) (.reg c94_r12)) (.skip))) (.seq (.reg c94_r13) (.blk 0 (.seq (.reg c94_r14) (.cond (.t 57) (.seq (.reg c94_r15) (.ret)) (.seq (.reg c94_r16) (.cond (.t 60) (.seq (.reg c94_r17) (.ret)) (.seq (.reg c94_r18) (.ret))))))))))))))
abbrev F94 : FnA := ⟨63, c94, [.t 8, .t 9]⟩
theorem ok94 : cFn Try.prog 94 = some F94 := by kernel_rfl
theorem hb94 : HasBody Try.prog 94 := ⟨_, Try.func94, by kernel_rfl, by kernel_rfl⟩
/-! slices.reverseRangeCmpFunc:Span -/
abbrev c95_r1 : List Ins := [
  ⟨some 10, none, .mov (.t 1)⟩,
  ⟨some 8, none, .mov (.t 10)⟩]
abbrev c95_r2 : List Ins := [
  ⟨some 11, none, .mov (.t 2)⟩,
  ⟨some 12, none, .bin .sub (.t 11) (.c (.int .i64 1))⟩,
  ⟨some 9, none, .mov (.t 12)⟩]
abbrev c95_r3 : List Ins := [
  ⟨some 13, none, .mov (.t 8)⟩,
  ⟨some 14, none, .mov (.t 9)⟩,
  ⟨some 15, none, .bin .lss (.t 13) (.t 14)⟩]
abbrev c95_r4 : List Ins := [
  ⟨some 16, none, .mov (.t 0)⟩,
  ⟨some 17, none, .mov (.t 8)⟩,
  ⟨some 18, none, .mov (.t 0)⟩,
  ⟨some 19, none, .mov (.t 9)⟩,
  ⟨some 20, none, .mov (.t 0)⟩,
  ⟨some 21, none, .mov (.t 9)⟩,
  ⟨some 22, none, .iaddr 2 (.t 20) (.t 21)⟩,
  ⟨some 23, none, .load 2 true (.t 22)⟩,
  ⟨some 24, none, .mov (.t 0)⟩,
  ⟨some 25, none, .mov (.t 8)⟩,
  ⟨some 26, none, .iaddr 2 (.t 24) (.t 25)⟩,
  ⟨some 27, none, .load 2 true (.t 26)⟩,
  ⟨some 28, none, .iaddr 2 (.t 16) (.t 17)⟩,
  ⟨none, none, .store 2 (.t 28) (.t 23)⟩,
  ⟨some 29, none, .iaddr 2 (.t 18) (.t 19)⟩,
  ⟨none, none, .store 2 (.t 29) (.t 27)⟩]
def c95_a4 : List (List Nat) := [[], [], [], [], [], [], [4, 5], [6], [], [], [8, 9], [10], [0, 1, 0, 1, 4, 5, 6, 7, 11], [12, 7, 0, 1, 4, 5, 6, 7, 11], [2, 3, 0, 1, 2, 3, 4, 5, 6, 7, 8, 9, 10, 11, 12, 13], [14, 11, 13, 0, 1, 2, 3, 4, 5, 6, 7, 8, 9, 10, 11, 12, 13]]
abbrev c95_m4 : List Am.Mark := [⟨false, 0, 0⟩, ⟨false, 0, 0⟩, ⟨false, 0, 1⟩, ⟨false, 0, 1⟩, ⟨false, 0, 0⟩, ⟨false, 0, 0⟩, ⟨false, 0, 0⟩, ⟨false, 0, 0⟩, ⟨false, 0, 1⟩, ⟨false, 0, 1⟩, ⟨false, 0, 1⟩, ⟨false, 0, 0⟩, ⟨false, 0, 0⟩, ⟨true, 0, 1⟩, ⟨false, 1, 1⟩, ⟨true, 1, 2⟩]
theorem c95_d4 : drawFine c95_r4 c95_a4 c95_m4 = true := by decide +kernel
abbrev c95_r5 : List Ins := [
  ⟨some 30, none, .mov (.t 8)⟩,
  ⟨some 31, none, .bin .add (.t 30) (.c (.int .i64 1))⟩,
  ⟨some 8, none, .mov (.t 31)⟩]
abbrev c95_r6 : List Ins := [
  ⟨some 32, none, .mov (.t 9)⟩,
  ⟨some 33, none, .bin .sub (.t 32) (.c (.int .i64 1))⟩,
  ⟨some 9, none, .mov (.t 33)⟩]
abbrev c95_l7 : IR := .seq (.seq (.reg c95_r3) (.cond (.t 15) (.skip) (.exit 0))) (.blk 1 (.seq (.dreg c95_r4 c95_a4) (.seq (.reg c95_r5) (.reg c95_r6))))
abbrev c95 : IR := .seq (.reg c95_r1) (.seq (.reg c95_r2) (.blk 0 (.loop c95_l7)))
abbrev F95 : FnA := ⟨34, c95, []⟩
theorem ok95 : cFn Try.prog 95 = some F95 := by kernel_rfl
theorem hb95 : HasBody Try.prog 95 := ⟨_, Try.func95, by kernel_rfl, by kernel_rfl⟩
/-! slices.partialInsertionSortCmpFunc:Span -/
abbrev c96_r1 : List Ins := [
  ⟨some 8, none, .mov (.c (.bool false))⟩]
abbrev c96_r2 : List Ins := [
  ⟨some 13, none, .mov (.t 1)⟩,
  ⟨some 14, none, .bin .add (.t 13) (.c (.int .i64 1))⟩,
  ⟨some 9, none, .mov (.t 14)⟩]
abbrev c96_r3 : List Ins := [
  ⟨some 10, none, .mov (.c (.int .i64 0))⟩]
abbrev c96_r4 : List Ins := [
  ⟨some 15, none, .mov (.t 10)⟩,
  ⟨some 16, none, .bin .lss (.t 15) (.c (.int .i64 5))⟩]
abbrev c96_r5 : List Ins := [
  ⟨some 19, none, .mov (.t 9)⟩,
  ⟨some 20, none, .mov (.t 2)⟩,
  ⟨some 21, none, .bin .lss (.t 19) (.t 20)⟩,
  ⟨some 22, none, .mov (.t 21)⟩,
  ⟨some 23, some (22, true), .mov (.t 3)⟩,
  ⟨some 24, some (22, true), .mov (.t 0)⟩,
  ⟨some 25, some (22, true), .mov (.t 9)⟩,
  ⟨some 26, some (22, true), .iaddr 2 (.t 24) (.t 25)⟩,
  ⟨some 27, some (22, true), .load 2 true (.t 26)⟩,
  ⟨some 28, some (22, true), .mov (.t 0)⟩,
  ⟨some 29, some (22, true), .mov (.t 9)⟩,
  ⟨some 30, some (22, true), .bin .sub (.t 29) (.c (.int .i64 1))⟩,
  ⟨some 31, some (22, true), .iaddr 2 (.t 28) (.t 30)⟩,
  ⟨some 32, some (22, true), .load 2 true (.t 31)⟩,
  ⟨some 33, some (22, true), .call (.t 23) [.t 27, .t 32]⟩,
  ⟨some 34, some (22, true), .bin .lss (.t 33) (.c (.int .i64 0))⟩,
  ⟨some 35, some (22, true), .un .not (.t 34)⟩,
  ⟨some 36, none, .pick (.t 22) (.t 35) (.c (.bool false))⟩]
def c96_a5 : List (List Nat) := [[], [], [0, 1], [2], [3], [3], [3], [5, 6, 3], [7, 3], [3], [3], [10, 3], [9, 11, 3], [12, 3], [4, 8, 13, 3, 3], [14, 3], [15, 3], [3, 16]]
abbrev c96_m5 : List Am.Mark := [⟨false, 0, 1⟩, ⟨false, 0, 1⟩, ⟨false, 0, 1⟩, ⟨false, 0, 0⟩, ⟨false, 0, 0⟩, ⟨false, 0, 1⟩, ⟨false, 0, 1⟩, ⟨false, 0, 1⟩, ⟨false, 0, 0⟩, ⟨false, 0, 1⟩, ⟨false, 0, 1⟩, ⟨false, 0, 1⟩, ⟨false, 0, 1⟩, ⟨false, 0, 0⟩, ⟨true, 0, 1⟩, ⟨false, 1, 1⟩, ⟨false, 1, 1⟩, ⟨false, 1, 1⟩]
theorem c96_d5 : drawFine c96_r5 c96_a5 c96_m5 = true := by decide +kernel
abbrev c96_r6 : List Ins := [
  ⟨some 37, none, .mov (.t 9)⟩,
  ⟨some 38, none, .bin .add (.t 37) (.c (.int .i64 1))⟩,
  ⟨some 9, none, .mov (.t 38)⟩]
abbrev c96_l7 : IR := .seq (.seq (.dreg c96_r5 c96_a5) (.cond (.t 36) (.skip) (.exit 2))) (.blk 3 (.reg c96_r6))
abbrev c96_r8 : List Ins := [
  ⟨some 39, none, .mov (.t 9)⟩,
  ⟨some 40, none, .mov (.t 2)⟩,
  ⟨some 41, none, .bin .eql (.t 39) (.t 40)⟩]
abbrev c96_r9 : List Ins := [
  ⟨some 8, none, .mov (.c (.bool true))⟩]
abbrev c96_r10 : List Ins := [
  ⟨some 42, none, .mov (.t 2)⟩,
  ⟨some 43, none, .mov (.t 1)⟩,
  ⟨some 44, none, .bin .sub (.t 42) (.t 43)⟩,
  ⟨some 45, none, .bin .lss (.t 44) (.c (.int .i64 50))⟩]
abbrev c96_r11 : List Ins := [
  ⟨some 8, none, .mov (.c (.bool false))⟩]
abbrev c96_r12 : List Ins := [
  ⟨some 46, none, .mov (.t 0)⟩,
  ⟨some 47, none, .mov (.t 9)⟩,
  ⟨some 48, none, .mov (.t 0)⟩,
  ⟨some 49, none, .mov (.t 9)⟩,
  ⟨some 50, none, .bin .sub (.t 49) (.c (.int .i64 1))⟩,
  ⟨some 51, none, .mov (.t 0)⟩,
  ⟨some 52, none, .mov (.t 9)⟩,
  ⟨some 53, none, .bin .sub (.t 52) (.c (.int .i64 1))⟩,
  ⟨some 54, none, .iaddr 2 (.t 51) (.t 53)⟩,
  ⟨some 55, none, .load 2 true (.t 54)⟩,
  ⟨some 56, none, .mov (.t 0)⟩,
  ⟨some 57, none, .mov (.t 9)⟩,
  ⟨some 58, none, .iaddr 2 (.t 56) (.t 57)⟩,
  ⟨some 59, none, .load 2 true (.t 58)⟩,
  ⟨some 60, none, .iaddr 2 (.t 46) (.t 47)⟩,
  ⟨none, none, .store 2 (.t 60) (.t 55)⟩,
  ⟨some 61, none, .iaddr 2 (.t 48) (.t 50)⟩,
  ⟨none, none, .store 2 (.t 61) (.t 59)⟩]
def c96_a12 : List (List Nat) := [[], [], [], [], [3], [], [], [6], [5, 7], [8], [], [], [10, 11], [12], [0, 1, 0, 1, 5, 6, 7, 8, 9, 13], [14, 9, 0, 1, 5, 6, 7, 8, 9, 13], [2, 4, 0, 1, 2, 3, 4, 5, 6, 7, 8, 9, 10, 11, 12, 13, 14, 15], [16, 13, 15, 0, 1, 2, 3, 4, 5, 6, 7, 8, 9, 10, 11, 12, 13, 14, 15]]
abbrev c96_m12 : List Am.Mark := [⟨false, 0, 0⟩, ⟨false, 0, 0⟩, ⟨false, 0, 1⟩, ⟨false, 0, 1⟩, ⟨false, 0, 1⟩, ⟨false, 0, 0⟩, ⟨false, 0, 0⟩, ⟨false, 0, 0⟩, ⟨false, 0, 0⟩, ⟨false, 0, 0⟩, ⟨false, 0, 1⟩, ⟨false, 0, 1⟩, ⟨false, 0, 1⟩, ⟨false, 0, 0⟩, ⟨false, 0, 0⟩, ⟨true, 0, 1⟩, ⟨false, 1, 1⟩, ⟨true, 1, 2⟩]
theorem c96_d12 : drawFine c96_r12 c96_a12 c96_m12 = true := by decide +kernel
abbrev c96_r13 : List Ins := [
  ⟨some 62, none, .mov (.t 9)⟩,
  ⟨some 63, none, .mov (.t 1)⟩,
  ⟨some 64, none, .bin .sub (.t 62) (.t 63)⟩,
  ⟨some 65, none, .bin .geq (.t 64) (.c (.int .i64 2))⟩]
abbrev c96_r14 : List Ins := [
  ⟨some 66, none, .mov (.t 9)⟩,
  ⟨some 67, none, .bin .sub (.t 66) (.c (.int .i64 1))⟩,
  ⟨some 11, none, .mov (.t 67)⟩]
abbrev c96_r15 : List Ins := [
  ⟨some 68, none, .mov (.t 11)⟩,
  ⟨some 69, none, .bin .geq (.t 68) (.c (.int .i64 1))⟩]
abbrev c96_r16 : List Ins := [
  ⟨some 72, none, .mov (.t 3)⟩,
  ⟨some 73, none, .mov (.t 0)⟩,
  ⟨some 74, none, .mov (.t 11)⟩,
  ⟨some 75, none, .iaddr 2 (.t 73) (.t 74)⟩,
  ⟨some 76, none, .load 2 true (.t 75)⟩,
  ⟨some 77, none, .mov (.t 0)⟩,
  ⟨some 78, none, .mov (.t 11)⟩,
  ⟨some 79, none, .bin .sub (.t 78) (.c (.int .i64 1))⟩,
  ⟨some 80, none, .iaddr 2 (.t 77) (.t 79)⟩,
  ⟨some 81, none, .load 2 true (.t 80)⟩,
  ⟨some 82, none, .call (.t 72) [.t 76, .t 81]⟩,
  ⟨some 83, none, .bin .lss (.t 82) (.c (.int .i64 0))⟩,
  ⟨some 84, none, .un .not (.t 83)⟩]
def c96_a16 : List (List Nat) := [[], [], [], [1, 2], [3], [], [], [6], [5, 7], [8], [0, 4, 9], [10], [11]]
abbrev c96_m16 : List Am.Mark := [⟨false, 0, 0⟩, ⟨false, 0, 1⟩, ⟨false, 0, 1⟩, ⟨false, 0, 1⟩, ⟨false, 0, 0⟩, ⟨false, 0, 1⟩, ⟨false, 0, 1⟩, ⟨false, 0, 1⟩, ⟨false, 0, 1⟩, ⟨false, 0, 0⟩, ⟨true, 0, 1⟩, ⟨false, 1, 1⟩, ⟨false, 1, 1⟩]
theorem c96_d16 : drawFine c96_r16 c96_a16 c96_m16 = true := by decide +kernel
abbrev c96_r17 : List Ins := [
  ⟨some 85, none, .mov (.t 0)⟩,
  ⟨some 86, none, .mov (.t 11)⟩,
  ⟨some 87, none, .mov (.t 0)⟩,
  ⟨some 88, none, .mov (.t 11)⟩,
  ⟨some 89, none, .bin .sub (.t 88) (.c (.int .i64 1))⟩,
  ⟨some 90, none, .mov (.t 0)⟩,
  ⟨some 91, none, .mov (.t 11)⟩,
  ⟨some 92, none, .bin .sub (.t 91) (.c (.int .i64 1))⟩,
  ⟨some 93, none, .iaddr 2 (.t 90) (.t 92)⟩,
  ⟨some 94, none, .load 2 true (.t 93)⟩,
  ⟨some 95, none, .mov (.t 0)⟩,
  ⟨some 96, none, .mov (.t 11)⟩,
  ⟨some 97, none, .iaddr 2 (.t 95) (.t 96)⟩,
  ⟨some 98, none, .load 2 true (.t 97)⟩,
  ⟨some 99, none, .iaddr 2 (.t 85) (.t 86)⟩,
  ⟨none, none, .store 2 (.t 99) (.t 94)⟩,
  ⟨some 100, none, .iaddr 2 (.t 87) (.t 89)⟩,
  ⟨none, none, .store 2 (.t 100) (.t 98)⟩]
def c96_a17 : List (List Nat) := [[], [], [], [], [3], [], [], [6], [5, 7], [8], [], [], [10, 11], [12], [0, 1, 0, 1, 5, 6, 7, 8, 9, 13], [14, 9, 0, 1, 5, 6, 7, 8, 9, 13], [2, 4, 0, 1, 2, 3, 4, 5, 6, 7, 8, 9, 10, 11, 12, 13, 14, 15], [16, 13, 15, 0, 1, 2, 3, 4, 5, 6, 7, 8, 9, 10, 11, 12, 13, 14, 15]]
abbrev c96_m17 : List Am.Mark := [⟨false, 0, 0⟩, ⟨false, 0, 0⟩, ⟨false, 0, 1⟩, ⟨false, 0, 1⟩, ⟨false, 0, 1⟩, ⟨false, 0, 0⟩, ⟨false, 0, 0⟩, ⟨false, 0, 0⟩, ⟨false, 0, 0⟩, ⟨false, 0, 0⟩, ⟨false, 0, 1⟩, ⟨false, 0, 1⟩, ⟨false, 0, 1⟩, ⟨false, 0, 0⟩, ⟨false, 0, 0⟩, ⟨true, 0, 1⟩, ⟨false, 1, 1⟩, ⟨true, 1, 2⟩]
theorem c96_d17 : drawFine c96_r17 c96_a17 c96_m17 = true := by decide +kernel
abbrev c96_r18 : List Ins := [
  ⟨some 70, none, .mov (.t 11)⟩,
  ⟨some 71, none, .bin .sub (.t 70) (.c (.int .i64 1))⟩,
  ⟨some 11, none, .mov (.t 71)⟩]
abbrev c96_l19 : IR := .seq (.seq (.reg c96_r15) (.cond (.t 69) (.skip) (.exit 4))) (.seq (.blk 5 (.seq (.seq (.dreg c96_r16 c96_a16) (.cond (.t 84) (.exit 4) (.skip))) (.dreg c96_r17 c96_a17))) (.reg c96_r18))
abbrev c96_r20 : List Ins := [
  ⟨some 101, none, .mov (.t 2)⟩,
  ⟨some 102, none, .mov (.t 9)⟩,
  ⟨some 103, none, .bin .sub (.t 101) (.t 102)⟩,
  ⟨some 104, none, .bin .geq (.t 103) (.c (.int .i64 2))⟩]
abbrev c96_r21 : List Ins := [
  ⟨some 105, none, .mov (.t 9)⟩,
  ⟨some 106, none, .bin .add (.t 105) (.c (.int .i64 1))⟩,
  ⟨some 12, none, .mov (.t 106)⟩]
abbrev c96_r22 : List Ins := [
  ⟨some 107, none, .mov (.t 12)⟩,
  ⟨some 108, none, .mov (.t 2)⟩,
  ⟨some 109, none, .bin .lss (.t 107) (.t 108)⟩]
abbrev c96_r23 : List Ins := [
  ⟨some 112, none, .mov (.t 3)⟩,
  ⟨some 113, none, .mov (.t 0)⟩,
  ⟨some 114, none, .mov (.t 12)⟩,
  ⟨some 115, none, .iaddr 2 (.t 113) (.t 114)⟩,
  ⟨some 116, none, .load 2 true (.t 115)⟩,
  ⟨some 117, none, .mov (.t 0)⟩,
  ⟨some 118, none, .mov (.t 12)⟩,
  ⟨some 119, none, .bin .sub (.t 118) (.c (.int .i64 1))⟩,
  ⟨some 120, none, .iaddr 2 (.t 117) (.t 119)⟩,
  ⟨some 121, none, .load 2 true (.t 120)⟩,
  ⟨some 122, none, .call (.t 112) [.t 116, .t 121]⟩,
  ⟨some 123, none, .bin .lss (.t 122) (.c (.int .i64 0))⟩,
  ⟨some 124, none, .un .not (.t 123)⟩]
def c96_a23 : List (List Nat) := [[], [], [], [1, 2], [3], [], [], [6], [5, 7], [8], [0, 4, 9], [10], [11]]
abbrev c96_m23 : List Am.Mark := [⟨false, 0, 0⟩, ⟨false, 0, 1⟩, ⟨false, 0, 1⟩, ⟨false, 0, 1⟩, ⟨false, 0, 0⟩, ⟨false, 0, 1⟩, ⟨false, 0, 1⟩, ⟨false, 0, 1⟩, ⟨false, 0, 1⟩, ⟨false, 0, 0⟩, ⟨true, 0, 1⟩, ⟨false, 1, 1⟩, ⟨false, 1, 1⟩]
theorem c96_d23 : drawFine c96_r23 c96_a23 c96_m23 = true := by decide +kernel
abbrev c96_r24 : List Ins := [
  ⟨some 125, none, .mov (.t 0)⟩,
  ⟨some 126, none, .mov (.t 12)⟩,
  ⟨some 127, none, .mov (.t 0)⟩,
  ⟨some 128, none, .mov (.t 12)⟩,
  ⟨some 129, none, .bin .sub (.t 128) (.c (.int .i64 1))⟩,
  ⟨some 130, none, .mov (.t 0)⟩,
  ⟨some 131, none, .mov (.t 12)⟩,
  ⟨some 132, none, .bin .sub (.t 131) (.c (.int .i64 1))⟩,
  ⟨some 133, none, .iaddr 2 (.t 130) (.t 132)⟩,
  ⟨some 134, none, .load 2 true (.t 133)⟩,
  ⟨some 135, none, .mov (.t 0)⟩,
  ⟨some 136, none, .mov (.t 12)⟩,
  ⟨some 137, none, .iaddr 2 (.t 135) (.t 136)⟩,
  ⟨some 138, none, .load 2 true (.t 137)⟩,
  ⟨some 139, none, .iaddr 2 (.t 125) (.t 126)⟩,
  ⟨none, none, .store 2 (.t 139) (.t 134)⟩,
  ⟨some 140, none, .iaddr 2 (.t 127) (.t 129)⟩,
  ⟨none, none, .store 2 (.t 140) (.t 138)⟩]
def c96_a24 : List (List Nat) := [[], [], [], [], [3], [], [], [6], [5, 7], [8], [], [], [10, 11], [12], [0, 1, 0, 1, 5, 6, 7, 8, 9, 13], [14, 9, 0, 1, 5, 6, 7, 8, 9, 13], [2, 4, 0, 1, 2, 3, 4, 5, 6, 7, 8, 9, 10, 11, 12, 13, 14, 15], [16, 13, 15, 0, 1, 2, 3, 4, 5, 6, 7, 8, 9, 10, 11, 12, 13, 14, 15]]
abbrev c96_m24 : List Am.Mark := [⟨false, 0, 0⟩, ⟨false, 0, 0⟩, ⟨false, 0, 1⟩, ⟨false, 0, 1⟩, ⟨false, 0, 1⟩, ⟨false, 0, 0⟩, ⟨false, 0, 0⟩, ⟨false, 0, 0⟩, ⟨false, 0, 0⟩, ⟨false, 0, 0⟩, ⟨false, 0, 1⟩, ⟨false, 0, 1⟩, ⟨false, 0, 1⟩, ⟨false, 0, 0⟩, ⟨false, 0, 0⟩, ⟨true, 0, 1⟩, ⟨false, 1, 1⟩, ⟨true, 1, 2⟩]
theorem c96_d24 : drawFine c96_r24 c96_a24 c96_m24 = true := by decide +kernel
abbrev c96_r25 : List Ins := [
  ⟨some 110, none, .mov (.t 12)⟩,
  ⟨some 111, none, .bin .add (.t 110) (.c (.int .i64 1))⟩,
  ⟨some 12, none, .mov (.t 111)⟩]
abbrev c96_l26 : IR := .seq (.seq (.reg c96_r22) (.cond (.t 109) (.skip) (.exit 6))) (.seq (.blk 7 (.seq (.seq (.dreg c96_r23 c96_a23) (.cond (.t 124) (.exit 6) (.skip))) (.dreg c96_r24 c96_a24))) (.reg c96_r25))
abbrev c96_r27 : List Ins := [
  ⟨some 17, none, .mov (.t 10)⟩,
  ⟨some 18, none, .bin .add (.t 17) (.c (.int .i64 1))⟩,
  ⟨some 10, none, .mov (.t 18)⟩]
abbrev c96_l28 : IR := .seq (.seq (.reg c96_r4) (.cond (.t 16) (.skip) (.exit 0))) (.seq (.blk 1 (.seq (.blk 2 (.loop c96_l7)) (.seq (.seq (.reg c96_r8) (.cond (.t 41) (.seq (.reg c96_r9) (.ret)) (.skip))) (.seq (.seq (.reg c96_r10) (.cond (.t 45) (.seq (.reg c96_r11) (.ret)) (.skip))) (.seq (.dreg c96_r12 c96_a12) (.seq (.seq (.reg c96_r13) (.cond (.t 65) (.seq (.reg c96_r14) (.blk 4 (.loop c96_l19))) (.skip))) (.seq (.reg c96_r20) (.cond (.t 104) (.seq (.reg c96_r21) (.blk 6 (.loop c96_l26))) (.skip))))))))) (.reg c96_r27))
abbrev c96_r29 : List Ins := [
  ⟨some 8, none, .mov (.c (.bool false))⟩]
abbrev c96 : IR := .seq (.reg c96_r1) (.seq (.reg c96_r2) (.seq (.seq (.reg c96_r3) (.blk 0 (.loop c96_l28))) (.seq (.reg c96_r29) (.ret))))
abbrev F96 : FnA := ⟨141, c96, [.t 8]⟩
theorem ok96 : cFn Try.prog 96 = some F96 := by kernel_rfl
theorem hb96 : HasBody Try.prog 96 := ⟨_, Try.func96, by kernel_rfl, by kernel_rfl⟩
/-! slices.partitionEqualCmpFunc:Span -/
abbrev c97_r1 : List Ins := [
  ⟨some 10, none, .mov (.c (.int .i64 0))⟩]
abbrev c97_r2 : List Ins := [
  ⟨some 13, none, .mov (.t 0)⟩,
  ⟨some 14, none, .mov (.t 1)⟩,
  ⟨some 15, none, .mov (.t 0)⟩,
  ⟨some 16, none, .mov (.t 3)⟩,
  ⟨some 17, none, .mov (.t 0)⟩,
  ⟨some 18, none, .mov (.t 3)⟩,
  ⟨some 19, none, .iaddr 2 (.t 17) (.t 18)⟩,
  ⟨some 20, none, .load 2 true (.t 19)⟩,
  ⟨some 21, none, .mov (.t 0)⟩,
  ⟨some 22, none, .mov (.t 1)⟩,
  ⟨some 23, none, .iaddr 2 (.t 21) (.t 22)⟩,
  ⟨some 24, none, .load 2 true (.t 23)⟩,
  ⟨some 25, none, .iaddr 2 (.t 13) (.t 14)⟩,
  ⟨none, none, .store 2 (.t 25) (.t 20)⟩,
  ⟨some 26, none, .iaddr 2 (.t 15) (.t 16)⟩,
  ⟨none, none, .store 2 (.t 26) (.t 24)⟩]
def c97_a2 : List (List Nat) := [[], [], [], [], [], [], [4, 5], [6], [], [], [8, 9], [10], [0, 1, 0, 1, 4, 5, 6, 7, 11], [12, 7, 0, 1, 4, 5, 6, 7, 11], [2, 3, 0, 1, 2, 3, 4, 5, 6, 7, 8, 9, 10, 11, 12, 13], [14, 11, 13, 0, 1, 2, 3, 4, 5, 6, 7, 8, 9, 10, 11, 12, 13]]
abbrev c97_m2 : List Am.Mark := [⟨false, 0, 0⟩, ⟨false, 0, 0⟩, ⟨false, 0, 1⟩, ⟨false, 0, 1⟩, ⟨false, 0, 0⟩, ⟨false, 0, 0⟩, ⟨false, 0, 0⟩, ⟨false, 0, 0⟩, ⟨false, 0, 1⟩, ⟨false, 0, 1⟩, ⟨false, 0, 1⟩, ⟨false, 0, 0⟩, ⟨false, 0, 0⟩, ⟨true, 0, 1⟩, ⟨false, 1, 1⟩, ⟨true, 1, 2⟩]
theorem c97_d2 : drawFine c97_r2 c97_a2 c97_m2 = true := by decide +kernel
abbrev c97_r3 : List Ins := [
  ⟨some 27, none, .mov (.t 1)⟩,
  ⟨some 28, none, .bin .add (.t 27) (.c (.int .i64 1))⟩,
  ⟨some 29, none, .mov (.t 2)⟩,
  ⟨some 30, none, .bin .sub (.t 29) (.c (.int .i64 1))⟩,
  ⟨some 11, none, .mov (.t 28)⟩,
  ⟨some 12, none, .mov (.t 30)⟩]
abbrev c97_r4 : List Ins := [
  ⟨some 31, none, .mov (.t 11)⟩,
  ⟨some 32, none, .mov (.t 12)⟩,
  ⟨some 33, none, .bin .leq (.t 31) (.t 32)⟩,
  ⟨some 34, none, .mov (.t 33)⟩,
  ⟨some 35, some (34, true), .mov (.t 4)⟩,
  ⟨some 36, some (34, true), .mov (.t 0)⟩,
  ⟨some 37, some (34, true), .mov (.t 1)⟩,
  ⟨some 38, some (34, true), .iaddr 2 (.t 36) (.t 37)⟩,
  ⟨some 39, some (34, true), .load 2 true (.t 38)⟩,
  ⟨some 40, some (34, true), .mov (.t 0)⟩,
  ⟨some 41, some (34, true), .mov (.t 11)⟩,
  ⟨some 42, some (34, true), .iaddr 2 (.t 40) (.t 41)⟩,
  ⟨some 43, some (34, true), .load 2 true (.t 42)⟩,
  ⟨some 44, some (34, true), .call (.t 35) [.t 39, .t 43]⟩,
  ⟨some 45, some (34, true), .bin .lss (.t 44) (.c (.int .i64 0))⟩,
  ⟨some 46, some (34, true), .un .not (.t 45)⟩,
  ⟨some 47, none, .pick (.t 34) (.t 46) (.c (.bool false))⟩]
def c97_a4 : List (List Nat) := [[], [], [0, 1], [2], [3], [3], [3], [5, 6, 3], [7, 3], [3], [3], [9, 10, 3], [11, 3], [4, 8, 12, 3, 3], [13, 3], [14, 3], [3, 15]]
abbrev c97_m4 : List Am.Mark := [⟨false, 0, 1⟩, ⟨false, 0, 1⟩, ⟨false, 0, 1⟩, ⟨false, 0, 0⟩, ⟨false, 0, 0⟩, ⟨false, 0, 1⟩, ⟨false, 0, 1⟩, ⟨false, 0, 1⟩, ⟨false, 0, 0⟩, ⟨false, 0, 1⟩, ⟨false, 0, 1⟩, ⟨false, 0, 1⟩, ⟨false, 0, 0⟩, ⟨true, 0, 1⟩, ⟨false, 1, 1⟩, ⟨false, 1, 1⟩, ⟨false, 1, 1⟩]
theorem c97_d4 : drawFine c97_r4 c97_a4 c97_m4 = true := by decide +kernel
abbrev c97_r5 : List Ins := [
  ⟨some 48, none, .mov (.t 11)⟩,
  ⟨some 49, none, .bin .add (.t 48) (.c (.int .i64 1))⟩,
  ⟨some 11, none, .mov (.t 49)⟩]
abbrev c97_l6 : IR := .seq (.seq (.dreg c97_r4 c97_a4) (.cond (.t 47) (.skip) (.exit 2))) (.blk 3 (.reg c97_r5))
abbrev c97_r7 : List Ins := [
  ⟨some 50, none, .mov (.t 11)⟩,
  ⟨some 51, none, .mov (.t 12)⟩,
  ⟨some 52, none, .bin .leq (.t 50) (.t 51)⟩,
  ⟨some 53, none, .mov (.t 52)⟩,
  ⟨some 54, some (53, true), .mov (.t 4)⟩,
  ⟨some 55, some (53, true), .mov (.t 0)⟩,
  ⟨some 56, some (53, true), .mov (.t 1)⟩,
  ⟨some 57, some (53, true), .iaddr 2 (.t 55) (.t 56)⟩,
  ⟨some 58, some (53, true), .load 2 true (.t 57)⟩,
  ⟨some 59, some (53, true), .mov (.t 0)⟩,
  ⟨some 60, some (53, true), .mov (.t 12)⟩,
  ⟨some 61, some (53, true), .iaddr 2 (.t 59) (.t 60)⟩,
  ⟨some 62, some (53, true), .load 2 true (.t 61)⟩,
  ⟨some 63, some (53, true), .call (.t 54) [.t 58, .t 62]⟩,
  ⟨some 64, some (53, true), .bin .lss (.t 63) (.c (.int .i64 0))⟩,
  ⟨some 65, none, .pick (.t 53) (.t 64) (.c (.bool false))⟩]
def c97_a7 : List (List Nat) := [[], [], [0, 1], [2], [3], [3], [3], [5, 6, 3], [7, 3], [3], [3], [9, 10, 3], [11, 3], [4, 8, 12, 3, 3], [13, 3], [3, 14]]
abbrev c97_m7 : List Am.Mark := [⟨false, 0, 1⟩, ⟨false, 0, 1⟩, ⟨false, 0, 1⟩, ⟨false, 0, 0⟩, ⟨false, 0, 0⟩, ⟨false, 0, 1⟩, ⟨false, 0, 1⟩, ⟨false, 0, 1⟩, ⟨false, 0, 0⟩, ⟨false, 0, 1⟩, ⟨false, 0, 1⟩, ⟨false, 0, 1⟩, ⟨false, 0, 0⟩, ⟨true, 0, 1⟩, ⟨false, 1, 1⟩, ⟨false, 1, 1⟩]
theorem c97_d7 : drawFine c97_r7 c97_a7 c97_m7 = true := by decide +kernel
abbrev c97_r8 : List Ins := [
  ⟨some 66, none, .mov (.t 12)⟩,
  ⟨some 67, none, .bin .sub (.t 66) (.c (.int .i64 1))⟩,
  ⟨some 12, none, .mov (.t 67)⟩]
abbrev c97_l9 : IR := .seq (.seq (.dreg c97_r7 c97_a7) (.cond (.t 65) (.skip) (.exit 4))) (.blk 5 (.reg c97_r8))
abbrev c97_r10 : List Ins := [
  ⟨some 68, none, .mov (.t 11)⟩,
  ⟨some 69, none, .mov (.t 12)⟩,
  ⟨some 70, none, .bin .gtr (.t 68) (.t 69)⟩]
abbrev c97_r11 : List Ins := [
  ⟨some 71, none, .mov (.t 0)⟩,
  ⟨some 72, none, .mov (.t 11)⟩,
  ⟨some 73, none, .mov (.t 0)⟩,
  ⟨some 74, none, .mov (.t 12)⟩,
  ⟨some 75, none, .mov (.t 0)⟩,
  ⟨some 76, none, .mov (.t 12)⟩,
  ⟨some 77, none, .iaddr 2 (.t 75) (.t 76)⟩,
  ⟨some 78, none, .load 2 true (.t 77)⟩,
  ⟨some 79, none, .mov (.t 0)⟩,
  ⟨some 80, none, .mov (.t 11)⟩,
  ⟨some 81, none, .iaddr 2 (.t 79) (.t 80)⟩,
  ⟨some 82, none, .load 2 true (.t 81)⟩,
  ⟨some 83, none, .iaddr 2 (.t 71) (.t 72)⟩,
  ⟨none, none, .store 2 (.t 83) (.t 78)⟩,
  ⟨some 84, none, .iaddr 2 (.t 73) (.t 74)⟩,
  ⟨none, none, .store 2 (.t 84) (.t 82)⟩]
def c97_a11 : List (List Nat) := [[], [], [], [], [], [], [4, 5], [6], [], [], [8, 9], [10], [0, 1, 0, 1, 4, 5, 6, 7, 11], [12, 7, 0, 1, 4, 5, 6, 7, 11], [2, 3, 0, 1, 2, 3, 4, 5, 6, 7, 8, 9, 10, 11, 12, 13], [14, 11, 13, 0, 1, 2, 3, 4, 5, 6, 7, 8, 9, 10, 11, 12, 13]]
abbrev c97_m11 : List Am.Mark := [⟨false, 0, 0⟩, ⟨false, 0, 0⟩, ⟨false, 0, 1⟩, ⟨false, 0, 1⟩, ⟨false, 0, 0⟩, ⟨false, 0, 0⟩, ⟨false, 0, 0⟩, ⟨false, 0, 0⟩, ⟨false, 0, 1⟩, ⟨false, 0, 1⟩, ⟨false, 0, 1⟩, ⟨false, 0, 0⟩, ⟨false, 0, 0⟩, ⟨true, 0, 1⟩, ⟨false, 1, 1⟩, ⟨true, 1, 2⟩]
theorem c97_d11 : drawFine c97_r11 c97_a11 c97_m11 = true := by decide +kernel
abbrev c97_r12 : List Ins := [
  ⟨some 85, none, .mov (.t 11)⟩,
  ⟨some 86, none, .bin .add (.t 85) (.c (.int .i64 1))⟩,
  ⟨some 11, none, .mov (.t 86)⟩]
abbrev c97_r13 : List Ins := [
  ⟨some 87, none, .mov (.t 12)⟩,
  ⟨some 88, none, .bin .sub (.t 87) (.c (.int .i64 1))⟩,
  ⟨some 12, none, .mov (.t 88)⟩]
abbrev c97_l14 : IR := .blk 1 (.seq (.blk 2 (.loop c97_l6)) (.seq (.blk 4 (.loop c97_l9)) (.seq (.seq (.reg c97_r10) (.cond (.t 70) (.exit 0) (.skip))) (.seq (.dreg c97_r11 c97_a11) (.seq (.reg c97_r12) (.reg c97_r13))))))
abbrev c97_r15 : List Ins := [
  ⟨some 89, none, .mov (.t 11)⟩,
  ⟨some 10, none, .mov (.t 89)⟩]
abbrev c97 : IR := .seq (.reg c97_r1) (.seq (.dreg c97_r2 c97_a2) (.seq (.reg c97_r3) (.seq (.blk 0 (.loop c97_l14)) (.seq (.reg c97_r15) (.ret)))))
abbrev F97 : FnA := ⟨90, c97, [.t 10]⟩
theorem ok97 : cFn Try.prog 97 = some F97 := by kernel_rfl
theorem hb97 : HasBody Try.prog 97 := ⟨_, Try.func97, by kernel_rfl, by kernel_rfl⟩
/-! slices.partitionCmpFunc:Span -/
abbrev c98_r1 : List Ins := [
  ⟨some 10, none, .mov (.c (.int .i64 0))⟩,
  ⟨some 11, none, .mov (.c (.bool false))⟩]
abbrev c98_r2 : List Ins := [
  ⟨some 14, none, .mov (.t 0)⟩,
  ⟨some 15, none, .mov (.t 1)⟩,
  ⟨some 16, none, .mov (.t 0)⟩,
  ⟨some 17, none, .mov (.t 3)⟩,
  ⟨some 18, none, .mov (.t 0)⟩,
  ⟨some 19, none, .mov (.t 3)⟩,
  ⟨some 20, none, .iaddr 2 (.t 18) (.t 19)⟩,
  ⟨some 21, none, .load 2 true (.t 20)⟩,
  ⟨some 22, none, .mov (.t 0)⟩,
  ⟨some 23, none, .mov (.t 1)⟩,
  ⟨some 24, none, .iaddr 2 (.t 22) (.t 23)⟩,
  ⟨some 25, none, .load 2 true (.t 24)⟩,
  ⟨some 26, none, .iaddr 2 (.t 14) (.t 15)⟩,
  ⟨none, none, .store 2 (.t 26) (.t 21)⟩,
  ⟨some 27, none, .iaddr 2 (.t 16) (.t 17)⟩,
  ⟨none, none, .store 2 (.t 27) (.t 25)⟩]
def c98_a2 : List (List Nat) := [[], [], [], [], [], [], [4, 5], [6], [], [], [8, 9], [10], [0, 1, 0, 1, 4, 5, 6, 7, 11], [12, 7, 0, 1, 4, 5, 6, 7, 11], [2, 3, 0, 1, 2, 3, 4, 5, 6, 7, 8, 9, 10, 11, 12, 13], [14, 11, 13, 0, 1, 2, 3, 4, 5, 6, 7, 8, 9, 10, 11, 12, 13]]
abbrev c98_m2 : List Am.Mark := [⟨false, 0, 0⟩, ⟨false, 0, 0⟩, ⟨false, 0, 1⟩, ⟨false, 0, 1⟩, ⟨false, 0, 0⟩, ⟨false, 0, 0⟩, ⟨false, 0, 0⟩, ⟨false, 0, 0⟩, ⟨false, 0, 1⟩, ⟨false, 0, 1⟩, ⟨false, 0, 1⟩, ⟨false, 0, 0⟩, ⟨false, 0, 0⟩, ⟨true, 0, 1⟩, ⟨false, 1, 1⟩, ⟨true, 1, 2⟩]
theorem c98_d2 : drawFine c98_r2 c98_a2 c98_m2 = true := by decide +kernel
abbrev c98_r3 : List Ins := [
  ⟨some 28, none, .mov (.t 1)⟩,
  ⟨some 29, none, .bin .add (.t 28) (.c (.int .i64 1))⟩,
  ⟨some 30, none, .mov (.t 2)⟩,
  ⟨some 31, none, .bin .sub (.t 30) (.c (.int .i64 1))⟩,
  ⟨some 12, none, .mov (.t 29)⟩,
  ⟨some 13, none, .mov (.t 31)⟩]
abbrev c98_r4 : List Ins := [
  ⟨some 32, none, .mov (.t 12)⟩,
  ⟨some 33, none, .mov (.t 13)⟩,
  ⟨some 34, none, .bin .leq (.t 32) (.t 33)⟩,
  ⟨some 35, none, .mov (.t 34)⟩,
  ⟨some 36, some (35, true), .mov (.t 4)⟩,
  ⟨some 37, some (35, true), .mov (.t 0)⟩,
  ⟨some 38, some (35, true), .mov (.t 12)⟩,
  ⟨some 39, some (35, true), .iaddr 2 (.t 37) (.t 38)⟩,
  ⟨some 40, some (35, true), .load 2 true (.t 39)⟩,
  ⟨some 41, some (35, true), .mov (.t 0)⟩,
  ⟨some 42, some (35, true), .mov (.t 1)⟩,
  ⟨some 43, some (35, true), .iaddr 2 (.t 41) (.t 42)⟩,
  ⟨some 44, some (35, true), .load 2 true (.t 43)⟩,
  ⟨some 45, some (35, true), .call (.t 36) [.t 40, .t 44]⟩,
  ⟨some 46, some (35, true), .bin .lss (.t 45) (.c (.int .i64 0))⟩,
  ⟨some 47, none, .pick (.t 35) (.t 46) (.c (.bool false))⟩]
def c98_a4 : List (List Nat) := [[], [], [0, 1], [2], [3], [3], [3], [5, 6, 3], [7, 3], [3], [3], [9, 10, 3], [11, 3], [4, 8, 12, 3, 3], [13, 3], [3, 14]]
abbrev c98_m4 : List Am.Mark := [⟨false, 0, 1⟩, ⟨false, 0, 1⟩, ⟨false, 0, 1⟩, ⟨false, 0, 0⟩, ⟨false, 0, 0⟩, ⟨false, 0, 1⟩, ⟨false, 0, 1⟩, ⟨false, 0, 1⟩, ⟨false, 0, 0⟩, ⟨false, 0, 1⟩, ⟨false, 0, 1⟩, ⟨false, 0, 1⟩, ⟨false, 0, 0⟩, ⟨true, 0, 1⟩, ⟨false, 1, 1⟩, ⟨false, 1, 1⟩]
theorem c98_d4 : drawFine c98_r4 c98_a4 c98_m4 = true := by decide +kernel
abbrev c98_r5 : List Ins := [
  ⟨some 48, none, .mov (.t 12)⟩,
  ⟨some 49, none, .bin .add (.t 48) (.c (.int .i64 1))⟩,
  ⟨some 12, none, .mov (.t 49)⟩]
abbrev c98_l6 : IR := .seq (.seq (.dreg c98_r4 c98_a4) (.cond (.t 47) (.skip) (.exit 0))) (.blk 1 (.reg c98_r5))
abbrev c98_r7 : List Ins := [
  ⟨some 50, none, .mov (.t 12)⟩,
  ⟨some 51, none, .mov (.t 13)⟩,
  ⟨some 52, none, .bin .leq (.t 50) (.t 51)⟩,
  ⟨some 53, none, .mov (.t 52)⟩,
  ⟨some 54, some (53, true), .mov (.t 4)⟩,
  ⟨some 55, some (53, true), .mov (.t 0)⟩,
  ⟨some 56, some (53, true), .mov (.t 13)⟩,
  ⟨some 57, some (53, true), .iaddr 2 (.t 55) (.t 56)⟩,
  ⟨some 58, some (53, true), .load 2 true (.t 57)⟩,
  ⟨some 59, some (53, true), .mov (.t 0)⟩,
  ⟨some 60, some (53, true), .mov (.t 1)⟩,
  ⟨some 61, some (53, true), .iaddr 2 (.t 59) (.t 60)⟩,
  ⟨some 62, some (53, true), .load 2 true (.t 61)⟩,
  ⟨some 63, some (53, true), .call (.t 54) [.t 58, .t 62]⟩,
  ⟨some 64, some (53, true), .bin .lss (.t 63) (.c (.int .i64 0))⟩,
  ⟨some 65, some (53, true), .un .not (.t 64)⟩,
  ⟨some 66, none, .pick (.t 53) (.t 65) (.c (.bool false))⟩]
def c98_a7 : List (List Nat) := [[], [], [0, 1], [2], [3], [3], [3], [5, 6, 3], [7, 3], [3], [3], [9, 10, 3], [11, 3], [4, 8, 12, 3, 3], [13, 3], [14, 3], [3, 15]]
abbrev c98_m7 : List Am.Mark := [⟨false, 0, 1⟩, ⟨false, 0, 1⟩, ⟨false, 0, 1⟩, ⟨false, 0, 0⟩, ⟨false, 0, 0⟩, ⟨false, 0, 1⟩, ⟨false, 0, 1⟩, ⟨false, 0, 1⟩, ⟨false, 0, 0⟩, ⟨false, 0, 1⟩, ⟨false, 0, 1⟩, ⟨false, 0, 1⟩, ⟨false, 0, 0⟩, ⟨true, 0, 1⟩, ⟨false, 1, 1⟩, ⟨false, 1, 1⟩, ⟨false, 1, 1⟩]
theorem c98_d7 : drawFine c98_r7 c98_a7 c98_m7 = true := by decide +kernel
abbrev c98_r8 : List Ins := [
  ⟨some 67, none, .mov (.t 13)⟩,
  ⟨some 68, none, .bin .sub (.t 67) (.c (.int .i64 1))⟩,
  ⟨some 13, none, .mov (.t 68)⟩]
abbrev c98_l9 : IR := .seq (.seq (.dreg c98_r7 c98_a7) (.cond (.t 66) (.skip) (.exit 2))) (.blk 3 (.reg c98_r8))
abbrev c98_r10 : List Ins := [
  ⟨some 69, none, .mov (.t 12)⟩,
  ⟨some 70, none, .mov (.t 13)⟩,
  ⟨some 71, none, .bin .gtr (.t 69) (.t 70)⟩]
abbrev c98_r11 : List Ins := [
  ⟨some 72, none, .mov (.t 0)⟩,
  ⟨some 73, none, .mov (.t 13)⟩,
  ⟨some 74, none, .mov (.t 0)⟩,
  ⟨some 75, none, .mov (.t 1)⟩,
  ⟨some 76, none, .mov (.t 0)⟩,
  ⟨some 77, none, .mov (.t 1)⟩,
  ⟨some 78, none, .iaddr 2 (.t 76) (.t 77)⟩,
  ⟨some 79, none, .load 2 true (.t 78)⟩,
  ⟨some 80, none, .mov (.t 0)⟩,
  ⟨some 81, none, .mov (.t 13)⟩,
  ⟨some 82, none, .iaddr 2 (.t 80) (.t 81)⟩,
  ⟨some 83, none, .load 2 true (.t 82)⟩,
  ⟨some 84, none, .iaddr 2 (.t 72) (.t 73)⟩,
  ⟨none, none, .store 2 (.t 84) (.t 79)⟩,
  ⟨some 85, none, .iaddr 2 (.t 74) (.t 75)⟩,
  ⟨none, none, .store 2 (.t 85) (.t 83)⟩]
def c98_a11 : List (List Nat) := [[], [], [], [], [], [], [4, 5], [6], [], [], [8, 9], [10], [0, 1, 0, 1, 4, 5, 6, 7, 11], [12, 7, 0, 1, 4, 5, 6, 7, 11], [2, 3, 0, 1, 2, 3, 4, 5, 6, 7, 8, 9, 10, 11, 12, 13], [14, 11, 13, 0, 1, 2, 3, 4, 5, 6, 7, 8, 9, 10, 11, 12, 13]]
abbrev c98_m11 : List Am.Mark := [⟨false, 0, 0⟩, ⟨false, 0, 0⟩, ⟨false, 0, 1⟩, ⟨false, 0, 1⟩, ⟨false, 0, 0⟩, ⟨false, 0, 0⟩, ⟨false, 0, 0⟩, ⟨false, 0, 0⟩, ⟨false, 0, 1⟩, ⟨false, 0, 1⟩, ⟨false, 0, 1⟩, ⟨false, 0, 0⟩, ⟨false, 0, 0⟩, ⟨true, 0, 1⟩, ⟨false, 1, 1⟩, ⟨true, 1, 2⟩]
theorem c98_d11 : drawFine c98_r11 c98_a11 c98_m11 = true := by decide +kernel
abbrev c98_r12 : List Ins := [
  ⟨some 86, none, .mov (.t 13)⟩,
  ⟨some 10, none, .mov (.t 86)⟩,
  ⟨some 11, none, .mov (.c (.bool true))⟩]
abbrev c98_r13 : List Ins := [
  ⟨some 87, none, .mov (.t 0)⟩,
  ⟨some 88, none, .mov (.t 12)⟩,
  ⟨some 89, none, .mov (.t 0)⟩,
  ⟨some 90, none, .mov (.t 13)⟩,
  ⟨some 91, none, .mov (.t 0)⟩,
  ⟨some 92, none, .mov (.t 13)⟩,
  ⟨some 93, none, .iaddr 2 (.t 91) (.t 92)⟩,
  ⟨some 94, none, .load 2 true (.t 93)⟩,
  ⟨some 95, none, .mov (.t 0)⟩,
  ⟨some 96, none, .mov (.t 12)⟩,
  ⟨some 97, none, .iaddr 2 (.t 95) (.t 96)⟩,
  ⟨some 98, none, .load 2 true (.t 97)⟩,
  ⟨some 99, none, .iaddr 2 (.t 87) (.t 88)⟩,
  ⟨none, none, .store 2 (.t 99) (.t 94)⟩,
  ⟨some 100, none, .iaddr 2 (.t 89) (.t 90)⟩,
  ⟨none, none, .store 2 (.t 100) (.t 98)⟩]
def c98_a13 : List (List Nat) := [[], [], [], [], [], [], [4, 5], [6], [], [], [8, 9], [10], [0, 1, 0, 1, 4, 5, 6, 7, 11], [12, 7, 0, 1, 4, 5, 6, 7, 11], [2, 3, 0, 1, 2, 3, 4, 5, 6, 7, 8, 9, 10, 11, 12, 13], [14, 11, 13, 0, 1, 2, 3, 4, 5, 6, 7, 8, 9, 10, 11, 12, 13]]
abbrev c98_m13 : List Am.Mark := [⟨false, 0, 0⟩, ⟨false, 0, 0⟩, ⟨false, 0, 1⟩, ⟨false, 0, 1⟩, ⟨false, 0, 0⟩, ⟨false, 0, 0⟩, ⟨false, 0, 0⟩, ⟨false, 0, 0⟩, ⟨false, 0, 1⟩, ⟨false, 0, 1⟩, ⟨false, 0, 1⟩, ⟨false, 0, 0⟩, ⟨false, 0, 0⟩, ⟨true, 0, 1⟩, ⟨false, 1, 1⟩, ⟨true, 1, 2⟩]
theorem c98_d13 : drawFine c98_r13 c98_a13 c98_m13 = true := by decide +kernel
abbrev c98_r14 : List Ins := [
  ⟨some 101, none, .mov (.t 12)⟩,
  ⟨some 102, none, .bin .add (.t 101) (.c (.int .i64 1))⟩,
  ⟨some 12, none, .mov (.t 102)⟩]
abbrev c98_r15 : List Ins := [
  ⟨some 103, none, .mov (.t 13)⟩,
  ⟨some 104, none, .bin .sub (.t 103) (.c (.int .i64 1))⟩,
  ⟨some 13, none, .mov (.t 104)⟩]
abbrev c98_r16 : List Ins := [
  ⟨some 105, none, .mov (.t 12)⟩,
  ⟨some 106, none, .mov (.t 13)⟩,
  ⟨some 107, none, .bin .leq (.t 105) (.t 106)⟩,
  ⟨some 108, none, .mov (.t 107)⟩,
  ⟨some 109, some (108, true), .mov (.t 4)⟩,
  ⟨some 110, some (108, true), .mov (.t 0)⟩,
  ⟨some 111, some (108, true), .mov (.t 12)⟩,
  ⟨some 112, some (108, true), .iaddr 2 (.t 110) (.t 111)⟩,
  ⟨some 113, some (108, true), .load 2 true (.t 112)⟩,
  ⟨some 114, some (108, true), .mov (.t 0)⟩,
  ⟨some 115, some (108, true), .mov (.t 1)⟩,
  ⟨some 116, some (108, true), .iaddr 2 (.t 114) (.t 115)⟩,
  ⟨some 117, some (108, true), .load 2 true (.t 116)⟩,
  ⟨some 118, some (108, true), .call (.t 109) [.t 113, .t 117]⟩,
  ⟨some 119, some (108, true), .bin .lss (.t 118) (.c (.int .i64 0))⟩,
  ⟨some 120, none, .pick (.t 108) (.t 119) (.c (.bool false))⟩]
def c98_a16 : List (List Nat) := [[], [], [0, 1], [2], [3], [3], [3], [5, 6, 3], [7, 3], [3], [3], [9, 10, 3], [11, 3], [4, 8, 12, 3, 3], [13, 3], [3, 14]]
abbrev c98_m16 : List Am.Mark := [⟨false, 0, 1⟩, ⟨false, 0, 1⟩, ⟨false, 0, 1⟩, ⟨false, 0, 0⟩, ⟨false, 0, 0⟩, ⟨false, 0, 1⟩, ⟨false, 0, 1⟩, ⟨false, 0, 1⟩, ⟨false, 0, 0⟩, ⟨false, 0, 1⟩, ⟨false, 0, 1⟩, ⟨false, 0, 1⟩, ⟨false, 0, 0⟩, ⟨true, 0, 1⟩, ⟨false, 1, 1⟩, ⟨false, 1, 1⟩]
theorem c98_d16 : drawFine c98_r16 c98_a16 c98_m16 = true := by decide +kernel
abbrev c98_r17 : List Ins := [
  ⟨some 121, none, .mov (.t 12)⟩,
  ⟨some 122, none, .bin .add (.t 121) (.c (.int .i64 1))⟩,
  ⟨some 12, none, .mov (.t 122)⟩]
abbrev c98_l18 : IR := .seq (.seq (.dreg c98_r16 c98_a16) (.cond (.t 120) (.skip) (.exit 6))) (.blk 7 (.reg c98_r17))
abbrev c98_r19 : List Ins := [
  ⟨some 123, none, .mov (.t 12)⟩,
  ⟨some 124, none, .mov (.t 13)⟩,
  ⟨some 125, none, .bin .leq (.t 123) (.t 124)⟩,
  ⟨some 126, none, .mov (.t 125)⟩,
  ⟨some 127, some (126, true), .mov (.t 4)⟩,
  ⟨some 128, some (126, true), .mov (.t 0)⟩,
  ⟨some 129, some (126, true), .mov (.t 13)⟩,
  ⟨some 130, some (126, true), .iaddr 2 (.t 128) (.t 129)⟩,
  ⟨some 131, some (126, true), .load 2 true (.t 130)⟩,
  ⟨some 132, some (126, true), .mov (.t 0)⟩,
  ⟨some 133, some (126, true), .mov (.t 1)⟩,
  ⟨some 134, some (126, true), .iaddr 2 (.t 132) (.t 133)⟩,
  ⟨some 135, some (126, true), .load 2 true (.t 134)⟩,
  ⟨some 136, some (126, true), .call (.t 127) [.t 131, .t 135]⟩,
  ⟨some 137, some (126, true), .bin .lss (.t 136) (.c (.int .i64 0))⟩,
  ⟨some 138, some (126, true), .un .not (.t 137)⟩,
  ⟨some 139, none, .pick (.t 126) (.t 138) (.c (.bool false))⟩]
def c98_a19 : List (List Nat) := [[], [], [0, 1], [2], [3], [3], [3], [5, 6, 3], [7, 3], [3], [3], [9, 10, 3], [11, 3], [4, 8, 12, 3, 3], [13, 3], [14, 3], [3, 15]]
abbrev c98_m19 : List Am.Mark := [⟨false, 0, 1⟩, ⟨false, 0, 1⟩, ⟨false, 0, 1⟩, ⟨false, 0, 0⟩, ⟨false, 0, 0⟩, ⟨false, 0, 1⟩, ⟨false, 0, 1⟩, ⟨false, 0, 1⟩, ⟨false, 0, 0⟩, ⟨false, 0, 1⟩, ⟨false, 0, 1⟩, ⟨false, 0, 1⟩, ⟨false, 0, 0⟩, ⟨true, 0, 1⟩, ⟨false, 1, 1⟩, ⟨false, 1, 1⟩, ⟨false, 1, 1⟩]
theorem c98_d19 : drawFine c98_r19 c98_a19 c98_m19 = true := by decide +kernel
abbrev c98_r20 : List Ins := [
  ⟨some 140, none, .mov (.t 13)⟩,
  ⟨some 141, none, .bin .sub (.t 140) (.c (.int .i64 1))⟩,
  ⟨some 13, none, .mov (.t 141)⟩]
abbrev c98_l21 : IR := .seq (.seq (.dreg c98_r19 c98_a19) (.cond (.t 139) (.skip) (.exit 8))) (.blk 9 (.reg c98_r20))
abbrev c98_r22 : List Ins := [
  ⟨some 142, none, .mov (.t 12)⟩,
  ⟨some 143, none, .mov (.t 13)⟩,
  ⟨some 144, none, .bin .gtr (.t 142) (.t 143)⟩]
abbrev c98_r23 : List Ins := [
  ⟨some 145, none, .mov (.t 0)⟩,
  ⟨some 146, none, .mov (.t 12)⟩,
  ⟨some 147, none, .mov (.t 0)⟩,
  ⟨some 148, none, .mov (.t 13)⟩,
  ⟨some 149, none, .mov (.t 0)⟩,
  ⟨some 150, none, .mov (.t 13)⟩,
  ⟨some 151, none, .iaddr 2 (.t 149) (.t 150)⟩,
  ⟨some 152, none, .load 2 true (.t 151)⟩,
  ⟨some 153, none, .mov (.t 0)⟩,
  ⟨some 154, none, .mov (.t 12)⟩,
  ⟨some 155, none, .iaddr 2 (.t 153) (.t 154)⟩,
  ⟨some 156, none, .load 2 true (.t 155)⟩,
  ⟨some 157, none, .iaddr 2 (.t 145) (.t 146)⟩,
  ⟨none, none, .store 2 (.t 157) (.t 152)⟩,
  ⟨some 158, none, .iaddr 2 (.t 147) (.t 148)⟩,
  ⟨none, none, .store 2 (.t 158) (.t 156)⟩]
def c98_a23 : List (List Nat) := [[], [], [], [], [], [], [4, 5], [6], [], [], [8, 9], [10], [0, 1, 0, 1, 4, 5, 6, 7, 11], [12, 7, 0, 1, 4, 5, 6, 7, 11], [2, 3, 0, 1, 2, 3, 4, 5, 6, 7, 8, 9, 10, 11, 12, 13], [14, 11, 13, 0, 1, 2, 3, 4, 5, 6, 7, 8, 9, 10, 11, 12, 13]]
abbrev c98_m23 : List Am.Mark := [⟨false, 0, 0⟩, ⟨false, 0, 0⟩, ⟨false, 0, 1⟩, ⟨false, 0, 1⟩, ⟨false, 0, 0⟩, ⟨false, 0, 0⟩, ⟨false, 0, 0⟩, ⟨false, 0, 0⟩, ⟨false, 0, 1⟩, ⟨false, 0, 1⟩, ⟨false, 0, 1⟩, ⟨false, 0, 0⟩, ⟨false, 0, 0⟩, ⟨true, 0, 1⟩, ⟨false, 1, 1⟩, ⟨true, 1, 2⟩]
theorem c98_d23 : drawFine c98_r23 c98_a23 c98_m23 = true := by decide +kernel
abbrev c98_r24 : List Ins := [
  ⟨some 159, none, .mov (.t 12)⟩,
  ⟨some 160, none, .bin .add (.t 159) (.c (.int .i64 1))⟩,
  ⟨some 12, none, .mov (.t 160)⟩]
abbrev c98_r25 : List Ins := [
  ⟨some 161, none, .mov (.t 13)⟩,
  ⟨some 162, none, .bin .sub (.t 161) (.c (.int .i64 1))⟩,
  ⟨some 13, none, .mov (.t 162)⟩]
abbrev c98_l26 : IR := .blk 5 (.seq (.blk 6 (.loop c98_l18)) (.seq (.blk 8 (.loop c98_l21)) (.seq (.seq (.reg c98_r22) (.cond (.t 144) (.exit 4) (.skip))) (.seq (.dreg c98_r23 c98_a23) (.seq (.reg c98_r24) (.reg c98_r25))))))
abbrev c98_r27 : List Ins := [
  ⟨some 163, none, .mov (.t 0)⟩,
  ⟨some 164, none, .mov (.t 13)⟩,
  ⟨some 165, none, .mov (.t 0)⟩,
  ⟨some 166, none, .mov (.t 1)⟩,
  ⟨some 167, none, .mov (.t 0)⟩,
  ⟨some 168, none, .mov (.t 1)⟩,
  ⟨some 169, none, .iaddr 2 (.t 167) (.t 168)⟩,
  ⟨some 170, none, .load 2 true (.t 169)⟩,
  ⟨some 171, none, .mov (.t 0)⟩,
  ⟨some 172, none, .mov (.t 13)⟩,
  ⟨some 173, none, .iaddr 2 (.t 171) (.t 172)⟩,
  ⟨some 174, none, .load 2 true (.t 173)⟩,
  ⟨some 175, none, .iaddr 2 (.t 163) (.t 164)⟩,
  ⟨none, none, .store 2 (.t 175) (.t 170)⟩,
  ⟨some 176, none, .iaddr 2 (.t 165) (.t 166)⟩,
  ⟨none, none, .store 2 (.t 176) (.t 174)⟩]
def c98_a27 : List (List Nat) := [[], [], [], [], [], [], [4, 5], [6], [], [], [8, 9], [10], [0, 1, 0, 1, 4, 5, 6, 7, 11], [12, 7, 0, 1, 4, 5, 6, 7, 11], [2, 3, 0, 1, 2, 3, 4, 5, 6, 7, 8, 9, 10, 11, 12, 13], [14, 11, 13, 0, 1, 2, 3, 4, 5, 6, 7, 8, 9, 10, 11, 12, 13]]
abbrev c98_m27 : List Am.Mark := [⟨false, 0, 0⟩, ⟨false, 0, 0⟩, ⟨false, 0, 1⟩, ⟨false, 0, 1⟩, ⟨false, 0, 0⟩, ⟨false, 0, 0⟩, ⟨false, 0, 0⟩, ⟨false, 0, 0⟩, ⟨false, 0, 1⟩, ⟨false, 0, 1⟩, ⟨false, 0, 1⟩, ⟨false, 0, 0⟩, ⟨false, 0, 0⟩, ⟨true, 0, 1⟩, ⟨false, 1, 1⟩, ⟨true, 1, 2⟩]
theorem c98_d27 : drawFine c98_r27 c98_a27 c98_m27 = true := by decide +kernel
abbrev c98_r28 : List Ins := [
  ⟨some 177, none, .mov (.t 13)⟩,
  ⟨some 10, none, .mov (.t 177)⟩,
  ⟨some 11, none, .mov (.c (.bool false))⟩]
abbrev c98 : IR := .seq (.reg c98_r1) (.seq (.dreg c98_r2 c98_a2) (.seq (.reg c98_r3) (.seq (.blk 0 (.loop c98_l6)) (.seq (.blk 2 (.loop c98_l9)) (.seq (.seq (.reg c98_r10) (.cond (.t 71) (.seq (.dreg c98_r11 c98_a11) (.seq (.reg c98_r12) (.ret))) (.skip))) (.seq (.dreg c98_r13 c98_a13) (.seq (.reg c98_r14) (.seq (.reg c98_r15) (.seq (.blk 4 (.loop c98_l26)) (.seq (.dreg c98_r27 c98_a27) (.seq (.reg c98_r28) (.ret))))))))))))
abbrev F98 : FnA := ⟨178, c98, [.t 10, .t 11]⟩
theorem ok98 : cFn Try.prog 98 = some F98 := by kernel_rfl
theorem hb98 : HasBody Try.prog 98 := ⟨_, Try.func98, by kernel_rfl, by kernel_rfl⟩
/-! math/bits.Len32 -/
abbrev c99_r1 : List Ins := [
  ⟨some 2, none, .mov (.c (.int .i64 0))⟩]
abbrev c99_r2 : List Ins := [
  ⟨some 3, none, .mov (.t 0)⟩,
  ⟨some 4, none, .bin .geq (.t 3) (.c (.int .u32 65536))⟩]
abbrev c99_r3 : List Ins := [
  ⟨some 5, none, .mov (.t 0)⟩,
  ⟨some 6, none, .bin .shr (.t 5) (.c (.int .u64 16))⟩,
  ⟨some 0, none, .mov (.t 6)⟩]
abbrev c99_r4 : List Ins := [
  ⟨some 2, none, .mov (.c (.int .i64 16))⟩]
abbrev c99_r5 : List Ins := [
  ⟨some 7, none, .mov (.t 0)⟩,
  ⟨some 8, none, .bin .geq (.t 7) (.c (.int .u32 256))⟩]
abbrev c99_r6 : List Ins := [
  ⟨some 9, none, .mov (.t 0)⟩,
  ⟨some 10, none, .bin .shr (.t 9) (.c (.int .u64 8))⟩,
  ⟨some 0, none, .mov (.t 10)⟩]
abbrev c99_r7 : List Ins := [
  ⟨some 11, none, .mov (.t 2)⟩,
  ⟨some 12, none, .bin .add (.t 11) (.c (.int .i64 8))⟩,
  ⟨some 2, none, .mov (.t 12)⟩]
abbrev c99_r8 : List Ins := [
  ⟨some 13, none, .mov (.t 2)⟩,
  ⟨some 14, none, .mov (.t 0)⟩,
  ⟨some 15, none, .conv .u8 (.t 14)⟩,
  ⟨some 16, none, .idxS (.c (.str ⟨#[0, 1, 2, 2, 3, 3, 3, 3, 4, 4, 4, 4, 4, 4, 4, 4, 5, 5, 5, 5, 5, 5, 5, 5, 5, 5, 5, 5, 5, 5, 5, 5, 6, 6, 6, 6, 6, 6, 6, 6, 6, 6, 6, 6, 6, 6, 6, 6, 6, 6, 6, 6, 6, 6, 6, 6, 6, 6, 6, 6, 6, 6, 6, 6, 7, 7, 7, 7, 7, 7, 7, 7, 7, 7, 7, 7, 7, 7, 7, 7, 7, 7, 7, 7, 7, 7, 7, 7, 7, 7, 7, 7, 7, 7, 7, 7, 7, 7, 7, 7, 7, 7, 7, 7, 7, 7, 7, 7, 7, 7, 7, 7, 7, 7, 7, 7, 7, 7, 7, 7, 7, 7, 7, 7, 7, 7, 7, 7, 8, 8, 8, 8, 8, 8, 8, 8, 8, 8, 8, 8, 8, 8, 8, 8, 8, 8, 8, 8, 8, 8, 8, 8, 8, 8, 8, 8, 8, 8, 8, 8, 8, 8, 8, 8, 8, 8, 8, 8, 8, 8, 8, 8, 8, 8, 8, 8, 8, 8, 8, 8, 8, 8, 8, 8, 8, 8, 8, 8, 8, 8, 8, 8, 8, 8, 8, 8, 8, 8, 8, 8, 8, 8, 8, 8, 8, 8, 8, 8, 8, 8, 8, 8, 8, 8, 8, 8, 8, 8, 8, 8, 8, 8, 8, 8, 8, 8, 8, 8, 8, 8, 8, 8, 8, 8, 8, 8, 8, 8, 8, 8, 8, 8, 8, 8, 8, 8, 8, 8, 8, 8, 8, 8, 8, 8, 8, 8]⟩)) (.t 15)⟩,
  ⟨some 17, none, .conv .i64 (.t 16)⟩,
  ⟨some 18, none, .bin .add (.t 13) (.t 17)⟩,
  ⟨some 2, none, .mov (.t 18)⟩]
abbrev c99 : IR := .seq (.reg c99_r1) (.seq (.seq (.reg c99_r2) (.cond (.t 4) (.seq (.reg c99_r3) (.reg c99_r4)) (.skip))) (.seq (.seq (.reg c99_r5) (.cond (.t 8) (.seq (.reg c99_r6) (.reg c99_r7)) (.skip))) (.seq (.reg c99_r8) (.ret))))
abbrev F99 : FnA := ⟨19, c99, [.t 2]⟩
theorem ok99 : cFn Try.prog 99 = some F99 := by kernel_rfl
theorem hb99 : HasBody Try.prog 99 := ⟨_, Try.func99, by kernel_rfl, by kernel_rfl⟩
/-! math/bits.Len64 -/
abbrev c100_r1 : List Ins := [
  ⟨some 2, none, .mov (.c (.int .i64 0))⟩]
abbrev c100_r2 : List Ins := [
  ⟨some 3, none, .mov (.t 0)⟩,
  ⟨some 4, none, .bin .geq (.t 3) (.c (.int .u64 4294967296))⟩]
abbrev c100_r3 : List Ins := [
  ⟨some 5, none, .mov (.t 0)⟩,
  ⟨some 6, none, .bin .shr (.t 5) (.c (.int .u64 32))⟩,
  ⟨some 0, none, .mov (.t 6)⟩]
abbrev c100_r4 : List Ins := [
  ⟨some 2, none, .mov (.c (.int .i64 32))⟩]
abbrev c100_r5 : List Ins := [
  ⟨some 7, none, .mov (.t 0)⟩,
  ⟨some 8, none, .bin .geq (.t 7) (.c (.int .u64 65536))⟩]
abbrev c100_r6 : List Ins := [
  ⟨some 9, none, .mov (.t 0)⟩,
  ⟨some 10, none, .bin .shr (.t 9) (.c (.int .u64 16))⟩,
  ⟨some 0, none, .mov (.t 10)⟩]
abbrev c100_r7 : List Ins := [
  ⟨some 11, none, .mov (.t 2)⟩,
  ⟨some 12, none, .bin .add (.t 11) (.c (.int .i64 16))⟩,
  ⟨some 2, none, .mov (.t 12)⟩]
abbrev c100_r8 : List Ins := [
  ⟨some 13, none, .mov (.t 0)⟩,
  ⟨some 14, none, .bin .geq (.t 13) (.c (.int .u64 256))⟩]
abbrev c100_r9 : List Ins := [
  ⟨some 15, none, .mov (.t 0)⟩,
  ⟨some 16, none, .bin .shr (.t 15) (.c (.int .u64 8))⟩,
  ⟨some 0, none, .mov (.t 16)⟩]
abbrev c100_r10 : List Ins := [
  ⟨some 17, none, .mov (.t 2)⟩,
  ⟨some 18, none, .bin .add (.t 17) (.c (.int .i64 8))⟩,
  ⟨some 2, none, .mov (.t 18)⟩]
abbrev c100_r11 : List Ins := [
  ⟨some 19, none, .mov (.t 2)⟩,
  ⟨some 20, none, .mov (.t 0)⟩,
  ⟨some 21, none, .conv .u8 (.t 20)⟩,
  ⟨some 22, none, .idxS (.c (.str ⟨#[0, 1, 2, 2, 3, 3, 3, 3, 4, 4, 4, 4, 4, 4, 4, 4, 5, 5, 5, 5, 5, 5, 5, 5, 5, 5, 5, 5, 5, 5, 5, 5, 6, 6, 6, 6, 6, 6, 6, 6, 6, 6, 6, 6, 6, 6, 6, 6, 6, 6, 6, 6, 6, 6, 6, 6, 6, 6, 6, 6, 6, 6, 6, 6, 7, 7, 7, 7, 7, 7, 7, 7, 7, 7, 7, 7, 7, 7, 7, 7, 7, 7, 7, 7, 7, 7, 7, 7, 7, 7, 7, 7, 7, 7, 7, 7, 7, 7, 7, 7, 7, 7, 7, 7, 7, 7, 7, 7, 7, 7, 7, 7, 7, 7, 7, 7, 7, 7, 7, 7, 7, 7, 7, 7, 7, 7, 7, 7, 8, 8, 8, 8, 8, 8, 8, 8, 8, 8, 8, 8, 8, 8, 8, 8, 8, 8, 8, 8, 8, 8, 8, 8, 8, 8, 8, 8, 8, 8, 8, 8, 8, 8, 8, 8, 8, 8, 8, 8, 8, 8, 8, 8, 8, 8, 8, 8, 8, 8, 8, 8, 8, 8, 8, 8, 8, 8, 8, 8, 8, 8, 8, 8, 8, 8, 8, 8, 8, 8, 8, 8, 8, 8, 8, 8, 8, 8, 8, 8, 8, 8, 8, 8, 8, 8, 8, 8, 8, 8, 8, 8, 8, 8, 8, 8, 8, 8, 8, 8, 8, 8, 8, 8, 8, 8, 8, 8, 8, 8, 8, 8, 8, 8, 8, 8, 8, 8, 8, 8, 8, 8, 8, 8, 8, 8, 8, 8]⟩)) (.t 21)⟩,
  ⟨some 23, none, .conv .i64 (.t 22)⟩,
  ⟨some 24, none, .bin .add (.t 19) (.t 23)⟩,
  ⟨some 2, none, .mov (.t 24)⟩]
abbrev c100 : IR := .seq (.reg c100_r1) (.seq (.seq (.reg c100_r2) (.cond (.t 4) (.seq (.reg c100_r3) (.reg c100_r4)) (.skip))) (.seq (.seq (.reg c100_r5) (.cond (.t 8) (.seq (.reg c100_r6) (.reg c100_r7)) (.skip))) (.seq (.seq (.reg c100_r8) (.cond (.t 14) (.seq (.reg c100_r9) (.reg c100_r10)) (.skip))) (.seq (.reg c100_r11) (.ret)))))
abbrev F100 : FnA := ⟨25, c100, [.t 2]⟩
theorem ok100 : cFn Try.prog 100 = some F100 := by kernel_rfl
theorem hb100 : HasBody Try.prog 100 := ⟨_, Try.func100, by kernel_rfl, by kernel_rfl⟩
/-! slices.IndexFunc:KeyT -/
abbrev c102_r1 : List Ins := [
  ⟨some 4, none, .mov (.c (.int .i64 0))⟩]
abbrev c102_r2 : List Ins := [
  ⟨some 6, none, .mov (.t 0)⟩,
  ⟨some 7, none, .len (.t 6)⟩,
  ⟨some 8, none, .mov (.c (.int .i64 0))⟩]
abbrev c102_r3 : List Ins := [
  ⟨some 9, none, .bin .lss (.t 8) (.t 7)⟩]
abbrev c102_r4 : List Ins := [
  ⟨some 10, none, .mov (.t 8)⟩,
  ⟨some 5, none, .mov (.t 10)⟩]
abbrev c102_r5 : List Ins := [
  ⟨some 11, none, .mov (.t 1)⟩,
  ⟨some 12, none, .mov (.t 0)⟩,
  ⟨some 13, none, .mov (.t 5)⟩,
  ⟨some 14, none, .iaddr 2 (.t 12) (.t 13)⟩,
  ⟨some 15, none, .load 2 true (.t 14)⟩,
  ⟨some 16, none, .call (.t 11) [.t 15]⟩]
abbrev c102_r6 : List Ins := [
  ⟨some 17, none, .mov (.t 5)⟩,
  ⟨some 4, none, .mov (.t 17)⟩]
abbrev c102_r7 : List Ins := [
  ⟨some 18, none, .bin .add (.t 8) (.c (.int .i64 1))⟩,
  ⟨some 8, none, .mov (.t 18)⟩]
abbrev c102_l8 : IR := .seq (.reg c102_r3) (.seq (.cond (.t 9) (.skip) (.exit 0)) (.seq (.blk 1 (.seq (.reg c102_r4) (.seq (.reg c102_r5) (.cond (.t 16) (.seq (.reg c102_r6) (.ret)) (.skip))))) (.reg c102_r7)))
abbrev c102_r9 : List Ins := [
  ⟨some 4, none, .mov (.c (.int .i64 (-1)))⟩]
abbrev c102 : IR := .seq (.reg c102_r1) (.seq (.seq (.reg c102_r2) (.blk 0 (.loop c102_l8))) (.seq (.reg c102_r9) (.ret)))
abbrev F102 : FnA := ⟨19, c102, [.t 4]⟩
theorem ok102 : cFn Try.prog 102 = some F102 := by kernel_rfl
theorem hb102 : HasBody Try.prog 102 := ⟨_, Try.func102, by kernel_rfl, by kernel_rfl⟩
/-! slices.siftDownCmpFunc:Span -/
abbrev c103_r1 : List Ins := [
  ⟨some 12, none, .mov (.t 1)⟩,
  ⟨some 10, none, .mov (.t 12)⟩]
abbrev c103_r2 : List Ins := [
  ⟨some 13, none, .mov (.t 10)⟩,
  ⟨some 14, none, .bin .mul (.c (.int .i64 2)) (.t 13)⟩,
  ⟨some 15, none, .bin .add (.t 14) (.c (.int .i64 1))⟩,
  ⟨some 11, none, .mov (.t 15)⟩]
abbrev c103_r3 : List Ins := [
  ⟨some 16, none, .mov (.t 11)⟩,
  ⟨some 17, none, .mov (.t 2)⟩,
  ⟨some 18, none, .bin .geq (.t 16) (.t 17)⟩]
abbrev c103_r4 : List Ins := [
  ⟨some 19, none, .mov (.t 11)⟩,
  ⟨some 20, none, .bin .add (.t 19) (.c (.int .i64 1))⟩,
  ⟨some 21, none, .mov (.t 2)⟩,
  ⟨some 22, none, .bin .lss (.t 20) (.t 21)⟩,
  ⟨some 23, none, .mov (.t 22)⟩,
  ⟨some 24, some (23, true), .mov (.t 4)⟩,
  ⟨some 25, some (23, true), .mov (.t 0)⟩,
  ⟨some 26, some (23, true), .mov (.t 3)⟩,
  ⟨some 27, some (23, true), .mov (.t 11)⟩,
  ⟨some 28, some (23, true), .bin .add (.t 26) (.t 27)⟩,
  ⟨some 29, some (23, true), .iaddr 2 (.t 25) (.t 28)⟩,
  ⟨some 30, some (23, true), .load 2 true (.t 29)⟩,
  ⟨some 31, some (23, true), .mov (.t 0)⟩,
  ⟨some 32, some (23, true), .mov (.t 3)⟩,
  ⟨some 33, some (23, true), .mov (.t 11)⟩,
  ⟨some 34, some (23, true), .bin .add (.t 32) (.t 33)⟩,
  ⟨some 35, some (23, true), .bin .add (.t 34) (.c (.int .i64 1))⟩,
  ⟨some 36, some (23, true), .iaddr 2 (.t 31) (.t 35)⟩,
  ⟨some 37, some (23, true), .load 2 true (.t 36)⟩,
  ⟨some 38, some (23, true), .call (.t 24) [.t 30, .t 37]⟩,
  ⟨some 39, some (23, true), .bin .lss (.t 38) (.c (.int .i64 0))⟩,
  ⟨some 40, none, .pick (.t 23) (.t 39) (.c (.bool false))⟩]
def c103_a4 : List (List Nat) := [[], [0], [], [1, 2], [3], [4], [4], [4], [4], [7, 8, 4], [6, 9, 4], [10, 4], [4], [4], [4], [13, 14, 4], [15, 4], [12, 16, 4], [17, 4], [5, 11, 18, 4, 4], [19, 4], [4, 20]]
abbrev c103_m4 : List Am.Mark := [⟨false, 0, 1⟩, ⟨false, 0, 1⟩, ⟨false, 0, 1⟩, ⟨false, 0, 1⟩, ⟨false, 0, 0⟩, ⟨false, 0, 0⟩, ⟨false, 0, 1⟩, ⟨false, 0, 1⟩, ⟨false, 0, 1⟩, ⟨false, 0, 1⟩, ⟨false, 0, 1⟩, ⟨false, 0, 0⟩, ⟨false, 0, 1⟩, ⟨false, 0, 1⟩, ⟨false, 0, 1⟩, ⟨false, 0, 1⟩, ⟨false, 0, 1⟩, ⟨false, 0, 1⟩, ⟨false, 0, 0⟩, ⟨true, 0, 1⟩, ⟨false, 1, 1⟩, ⟨false, 1, 1⟩]
theorem c103_d4 : drawFine c103_r4 c103_a4 c103_m4 = true := by decide +kernel
abbrev c103_r5 : List Ins := [
  ⟨some 41, none, .mov (.t 11)⟩,
  ⟨some 42, none, .bin .add (.t 41) (.c (.int .i64 1))⟩,
  ⟨some 11, none, .mov (.t 42)⟩]
abbrev c103_r6 : List Ins := [
  ⟨some 43, none, .mov (.t 4)⟩,
  ⟨some 44, none, .mov (.t 0)⟩,
  ⟨some 45, none, .mov (.t 3)⟩,
  ⟨some 46, none, .mov (.t 10)⟩,
  ⟨some 47, none, .bin .add (.t 45) (.t 46)⟩,
  ⟨some 48, none, .iaddr 2 (.t 44) (.t 47)⟩,
  ⟨some 49, none, .load 2 true (.t 48)⟩,
  ⟨some 50, none, .mov (.t 0)⟩,
  ⟨some 51, none, .mov (.t 3)⟩,
  ⟨some 52, none, .mov (.t 11)⟩,
  ⟨some 53, none, .bin .add (.t 51) (.t 52)⟩,
  ⟨some 54, none, .iaddr 2 (.t 50) (.t 53)⟩,
  ⟨some 55, none, .load 2 true (.t 54)⟩,
  ⟨some 56, none, .call (.t 43) [.t 49, .t 55]⟩,
  ⟨some 57, none, .bin .lss (.t 56) (.c (.int .i64 0))⟩,
  ⟨some 58, none, .un .not (.t 57)⟩]
def c103_a6 : List (List Nat) := [[], [], [], [], [2, 3], [1, 4], [5], [], [], [], [8, 9], [7, 10], [11], [0, 6, 12], [13], [14]]
abbrev c103_m6 : List Am.Mark := [⟨false, 0, 0⟩, ⟨false, 0, 1⟩, ⟨false, 0, 1⟩, ⟨false, 0, 1⟩, ⟨false, 0, 1⟩, ⟨false, 0, 1⟩, ⟨false, 0, 0⟩, ⟨false, 0, 1⟩, ⟨false, 0, 1⟩, ⟨false, 0, 1⟩, ⟨false, 0, 1⟩, ⟨false, 0, 1⟩, ⟨false, 0, 0⟩, ⟨true, 0, 1⟩, ⟨false, 1, 1⟩, ⟨false, 1, 1⟩]
theorem c103_d6 : drawFine c103_r6 c103_a6 c103_m6 = true := by decide +kernel
abbrev c103_r7 : List Ins := [
  ⟨some 59, none, .mov (.t 0)⟩,
  ⟨some 60, none, .mov (.t 3)⟩,
  ⟨some 61, none, .mov (.t 10)⟩,
  ⟨some 62, none, .bin .add (.t 60) (.t 61)⟩,
  ⟨some 63, none, .mov (.t 0)⟩,
  ⟨some 64, none, .mov (.t 3)⟩,
  ⟨some 65, none, .mov (.t 11)⟩,
  ⟨some 66, none, .bin .add (.t 64) (.t 65)⟩,
  ⟨some 67, none, .mov (.t 0)⟩,
  ⟨some 68, none, .mov (.t 3)⟩,
  ⟨some 69, none, .mov (.t 11)⟩,
  ⟨some 70, none, .bin .add (.t 68) (.t 69)⟩,
  ⟨some 71, none, .iaddr 2 (.t 67) (.t 70)⟩,
  ⟨some 72, none, .load 2 true (.t 71)⟩,
  ⟨some 73, none, .mov (.t 0)⟩,
  ⟨some 74, none, .mov (.t 3)⟩,
  ⟨some 75, none, .mov (.t 10)⟩,
  ⟨some 76, none, .bin .add (.t 74) (.t 75)⟩,
  ⟨some 77, none, .iaddr 2 (.t 73) (.t 76)⟩,
  ⟨some 78, none, .load 2 true (.t 77)⟩,
  ⟨some 79, none, .iaddr 2 (.t 59) (.t 62)⟩,
  ⟨none, none, .store 2 (.t 79) (.t 72)⟩,
  ⟨some 80, none, .iaddr 2 (.t 63) (.t 66)⟩,
  ⟨none, none, .store 2 (.t 80) (.t 78)⟩]
def c103_a7 : List (List Nat) := [[], [], [], [1, 2], [], [], [], [5, 6], [], [], [], [9, 10], [8, 11], [12], [], [], [], [15, 16], [14, 17], [18], [0, 3, 0, 1, 2, 3, 8, 9, 10, 11, 12, 13, 19], [20, 13, 0, 1, 2, 3, 8, 9, 10, 11, 12, 13, 19], [4, 7, 0, 1, 2, 3, 4, 5, 6, 7, 8, 9, 10, 11, 12, 13, 14, 15, 16, 17, 18, 19, 20, 21], [22, 19, 21, 0, 1, 2, 3, 4, 5, 6, 7, 8, 9, 10, 11, 12, 13, 14, 15, 16, 17, 18, 19, 20, 21]]
abbrev c103_m7 : List Am.Mark := [⟨false, 0, 0⟩, ⟨false, 0, 0⟩, ⟨false, 0, 0⟩, ⟨false, 0, 0⟩, ⟨false, 0, 1⟩, ⟨false, 0, 1⟩, ⟨false, 0, 1⟩, ⟨false, 0, 1⟩, ⟨false, 0, 0⟩, ⟨false, 0, 0⟩, ⟨false, 0, 0⟩, ⟨false, 0, 0⟩, ⟨false, 0, 0⟩, ⟨false, 0, 0⟩, ⟨false, 0, 1⟩, ⟨false, 0, 1⟩, ⟨false, 0, 1⟩, ⟨false, 0, 1⟩, ⟨false, 0, 1⟩, ⟨false, 0, 0⟩, ⟨false, 0, 0⟩, ⟨true, 0, 1⟩, ⟨false, 1, 1⟩, ⟨true, 1, 2⟩]
theorem c103_d7 : drawFine c103_r7 c103_a7 c103_m7 = true := by decide +kernel
abbrev c103_r8 : List Ins := [
  ⟨some 81, none, .mov (.t 11)⟩,
  ⟨some 10, none, .mov (.t 81)⟩]
abbrev c103_l9 : IR := .blk 1 (.seq (.reg c103_r2) (.seq (.seq (.reg c103_r3) (.cond (.t 18) (.exit 0) (.skip))) (.seq (.seq (.dreg c103_r4 c103_a4) (.cond (.t 40) (.reg c103_r5) (.skip))) (.seq (.seq (.dreg c103_r6 c103_a6) (.cond (.t 58) (.ret) (.skip))) (.seq (.dreg c103_r7 c103_a7) (.reg c103_r8))))))
abbrev c103 : IR := .seq (.reg c103_r1) (.blk 0 (.loop c103_l9))
abbrev F103 : FnA := ⟨82, c103, []⟩
theorem ok103 : cFn Try.prog 103 = some F103 := by kernel_rfl
theorem hb103 : HasBody Try.prog 103 := ⟨_, Try.func103, by kernel_rfl, by kernel_rfl⟩
/-! slices.nextPowerOfTwo -/
abbrev c104_r1 : List Ins := [
  ⟨some 2, none, .mov (.c (.int .u64 0))⟩]
abbrev c104_r2 : List Ins := [
  ⟨some 3, none, .mov (.t 0)⟩,
  ⟨some 4, none, .conv .u64 (.t 3)⟩,
  ⟨some 5, none, .call (.c (.fn 79 [] [])) [.t 4]⟩,
  ⟨some 6, none, .bin .shl (.c (.int .u64 1)) (.t 5)⟩,
  ⟨some 2, none, .mov (.t 6)⟩]
abbrev c104 : IR := .seq (.reg c104_r1) (.seq (.reg c104_r2) (.ret))
abbrev F104 : FnA := ⟨7, c104, [.t 2]⟩
theorem ok104 : cFn Try.prog 104 = some F104 := by kernel_rfl
theorem hb104 : HasBody Try.prog 104 := ⟨_, Try.func104, by kernel_rfl, by kernel_rfl⟩
/-! slices.xorshift.Next -/
abbrev c105_r1 : List Ins := [
  ⟨some 2, none, .mov (.c (.int .u64 0))⟩]
abbrev c105_r2 : List Ins := [
  ⟨some 3, none, .mov (.t 0)⟩,
  ⟨some 4, none, .nilck (.t 3)⟩,
  ⟨some 5, none, .load 1 false (.t 4)⟩,
  ⟨some 6, none, .mov (.t 0)⟩,
  ⟨some 7, none, .nilck (.t 6)⟩,
  ⟨some 8, none, .load 1 false (.t 7)⟩,
  ⟨some 9, none, .bin .shl (.t 8) (.c (.int .u64 13))⟩,
  ⟨some 10, none, .bin .xor (.t 5) (.t 9)⟩,
  ⟨some 11, none, .nilck (.t 3)⟩,
  ⟨none, none, .store 1 (.t 11) (.t 10)⟩]
def c105_a2 : List (List Nat) := [[], [0], [1], [], [3], [4], [5], [2, 6], [0, 0, 1, 2, 3, 4, 5, 6, 7], [8, 7, 0, 1, 2, 3, 4, 5, 6, 7]]
abbrev c105_m2 : List Am.Mark := [⟨false, 0, 0⟩, ⟨false, 0, 0⟩, ⟨false, 0, 0⟩, ⟨false, 0, 0⟩, ⟨false, 0, 0⟩, ⟨false, 0, 0⟩, ⟨false, 0, 0⟩, ⟨false, 0, 0⟩, ⟨false, 0, 0⟩, ⟨true, 0, 1⟩]
theorem c105_d2 : drawFine c105_r2 c105_a2 c105_m2 = true := by decide +kernel
abbrev c105_r3 : List Ins := [
  ⟨some 12, none, .mov (.t 0)⟩,
  ⟨some 13, none, .nilck (.t 12)⟩,
  ⟨some 14, none, .load 1 false (.t 13)⟩,
  ⟨some 15, none, .mov (.t 0)⟩,
  ⟨some 16, none, .nilck (.t 15)⟩,
  ⟨some 17, none, .load 1 false (.t 16)⟩,
  ⟨some 18, none, .bin .shr (.t 17) (.c (.int .u64 7))⟩,
  ⟨some 19, none, .bin .xor (.t 14) (.t 18)⟩,
  ⟨some 20, none, .nilck (.t 12)⟩,
  ⟨none, none, .store 1 (.t 20) (.t 19)⟩]
def c105_a3 : List (List Nat) := [[], [0], [1], [], [3], [4], [5], [2, 6], [0, 0, 1, 2, 3, 4, 5, 6, 7], [8, 7, 0, 1, 2, 3, 4, 5, 6, 7]]
abbrev c105_m3 : List Am.Mark := [⟨false, 0, 0⟩, ⟨false, 0, 0⟩, ⟨false, 0, 0⟩, ⟨false, 0, 0⟩, ⟨false, 0, 0⟩, ⟨false, 0, 0⟩, ⟨false, 0, 0⟩, ⟨false, 0, 0⟩, ⟨false, 0, 0⟩, ⟨true, 0, 1⟩]
theorem c105_d3 : drawFine c105_r3 c105_a3 c105_m3 = true := by decide +kernel
abbrev c105_r4 : List Ins := [
  ⟨some 21, none, .mov (.t 0)⟩,
  ⟨some 22, none, .nilck (.t 21)⟩,
  ⟨some 23, none, .load 1 false (.t 22)⟩,
  ⟨some 24, none, .mov (.t 0)⟩,
  ⟨some 25, none, .nilck (.t 24)⟩,
  ⟨some 26, none, .load 1 false (.t 25)⟩,
  ⟨some 27, none, .bin .shl (.t 26) (.c (.int .u64 17))⟩,
  ⟨some 28, none, .bin .xor (.t 23) (.t 27)⟩,
  ⟨some 29, none, .nilck (.t 21)⟩,
  ⟨none, none, .store 1 (.t 29) (.t 28)⟩]
def c105_a4 : List (List Nat) := [[], [0], [1], [], [3], [4], [5], [2, 6], [0, 0, 1, 2, 3, 4, 5, 6, 7], [8, 7, 0, 1, 2, 3, 4, 5, 6, 7]]
abbrev c105_m4 : List Am.Mark := [⟨false, 0, 0⟩, ⟨false, 0, 0⟩, ⟨false, 0, 0⟩, ⟨false, 0, 0⟩, ⟨false, 0, 0⟩, ⟨false, 0, 0⟩, ⟨false, 0, 0⟩, ⟨false, 0, 0⟩, ⟨false, 0, 0⟩, ⟨true, 0, 1⟩]
theorem c105_d4 : drawFine c105_r4 c105_a4 c105_m4 = true := by decide +kernel
abbrev c105_r5 : List Ins := [
  ⟨some 30, none, .mov (.t 0)⟩,
  ⟨some 31, none, .nilck (.t 30)⟩,
  ⟨some 32, none, .load 1 false (.t 31)⟩,
  ⟨some 2, none, .mov (.t 32)⟩]
abbrev c105 : IR := .seq (.reg c105_r1) (.seq (.dreg c105_r2 c105_a2) (.seq (.dreg c105_r3 c105_a3) (.seq (.dreg c105_r4 c105_a4) (.seq (.reg c105_r5) (.ret)))))
abbrev F105 : FnA := ⟨33, c105, [.t 2]⟩
theorem ok105 : cFn Try.prog 105 = some F105 := by kernel_rfl
theorem hb105 : HasBody Try.prog 105 := ⟨_, Try.func105, by kernel_rfl, by kernel_rfl⟩
/-! slices.medianAdjacentCmpFunc:Span -/
abbrev c106_r1 : List Ins := [
  ⟨some 8, none, .mov (.c (.int .i64 0))⟩]
abbrev c106_r2 : List Ins := [
  ⟨some 9, none, .mov (.t 0)⟩,
  ⟨some 10, none, .mov (.t 1)⟩,
  ⟨some 11, none, .bin .sub (.t 10) (.c (.int .i64 1))⟩,
  ⟨some 12, none, .mov (.t 1)⟩,
  ⟨some 13, none, .mov (.t 1)⟩,
  ⟨some 14, none, .bin .add (.t 13) (.c (.int .i64 1))⟩,
  ⟨some 15, none, .mov (.t 2)⟩,
  ⟨some 16, none, .mov (.t 3)⟩,
  ⟨some 17, none, .call (.c (.fn 107 [] [])) [.t 9, .t 11, .t 12, .t 14, .t 15, .t 16]⟩,
  ⟨some 8, none, .mov (.t 17)⟩]
abbrev c106 : IR := .seq (.reg c106_r1) (.seq (.reg c106_r2) (.ret))
abbrev F106 : FnA := ⟨18, c106, [.t 8]⟩
theorem ok106 : cFn Try.prog 106 = some F106 := by kernel_rfl
theorem hb106 : HasBody Try.prog 106 := ⟨_, Try.func106, by kernel_rfl, by kernel_rfl⟩
/-! slices.medianCmpFunc:Span -/
abbrev c107_r1 : List Ins := [
  ⟨some 12, none, .mov (.c (.int .i64 0))⟩]
abbrev c107_r2 : List Ins := [
  ⟨some 14, none, .mov (.t 0)⟩,
  ⟨some 15, none, .mov (.t 1)⟩,
  ⟨some 16, none, .mov (.t 2)⟩,
  ⟨some 17, none, .mov (.t 4)⟩,
  ⟨some 18, none, .mov (.t 5)⟩,
  ⟨some 19, none, .call (.c (.fn 108 [] [])) [.t 14, .t 15, .t 16, .t 17, .t 18]⟩,
  ⟨some 13, none, .mov (.t 19)⟩,
  ⟨some 20, none, .ext (.t 13) 0⟩,
  ⟨some 21, none, .ext (.t 13) 1⟩,
  ⟨some 1, none, .mov (.t 20)⟩,
  ⟨some 2, none, .mov (.t 21)⟩]
abbrev c107_r3 : List Ins := [
  ⟨some 23, none, .mov (.t 0)⟩,
  ⟨some 24, none, .mov (.t 2)⟩,
  ⟨some 25, none, .mov (.t 3)⟩,
  ⟨some 26, none, .mov (.t 4)⟩,
  ⟨some 27, none, .mov (.t 5)⟩,
  ⟨some 28, none, .call (.c (.fn 108 [] [])) [.t 23, .t 24, .t 25, .t 26, .t 27]⟩,
  ⟨some 22, none, .mov (.t 28)⟩,
  ⟨some 29, none, .ext (.t 22) 0⟩,
  ⟨some 30, none, .ext (.t 22) 1⟩,
  ⟨some 2, none, .mov (.t 29)⟩,
  ⟨some 3, none, .mov (.t 30)⟩]
abbrev c107_r4 : List Ins := [
  ⟨some 32, none, .mov (.t 0)⟩,
  ⟨some 33, none, .mov (.t 1)⟩,
  ⟨some 34, none, .mov (.t 2)⟩,
  ⟨some 35, none, .mov (.t 4)⟩,
  ⟨some 36, none, .mov (.t 5)⟩,
  ⟨some 37, none, .call (.c (.fn 108 [] [])) [.t 32, .t 33, .t 34, .t 35, .t 36]⟩,
  ⟨some 31, none, .mov (.t 37)⟩,
  ⟨some 38, none, .ext (.t 31) 0⟩,
  ⟨some 39, none, .ext (.t 31) 1⟩,
  ⟨some 1, none, .mov (.t 38)⟩,
  ⟨some 2, none, .mov (.t 39)⟩]
abbrev c107_r5 : List Ins := [
  ⟨some 40, none, .mov (.t 2)⟩,
  ⟨some 12, none, .mov (.t 40)⟩]
abbrev c107 : IR := .seq (.reg c107_r1) (.seq (.reg c107_r2) (.seq (.reg c107_r3) (.seq (.reg c107_r4) (.seq (.reg c107_r5) (.ret)))))
abbrev F107 : FnA := ⟨41, c107, [.t 12]⟩
theorem ok107 : cFn Try.prog 107 = some F107 := by kernel_rfl
theorem hb107 : HasBody Try.prog 107 := ⟨_, Try.func107, by kernel_rfl, by kernel_rfl⟩
/-! slices.order2CmpFunc:Span -/
abbrev c108_r1 : List Ins := [
  ⟨some 10, none, .mov (.c (.int .i64 0))⟩,
  ⟨some 11, none, .mov (.c (.int .i64 0))⟩]
abbrev c108_r2 : List Ins := [
  ⟨some 12, none, .mov (.t 4)⟩,
  ⟨some 13, none, .mov (.t 0)⟩,
  ⟨some 14, none, .mov (.t 2)⟩,
  ⟨some 15, none, .iaddr 2 (.t 13) (.t 14)⟩,
  ⟨some 16, none, .load 2 true (.t 15)⟩,
  ⟨some 17, none, .mov (.t 0)⟩,
  ⟨some 18, none, .mov (.t 1)⟩,
  ⟨some 19, none, .iaddr 2 (.t 17) (.t 18)⟩,
  ⟨some 20, none, .load 2 true (.t 19)⟩,
  ⟨some 21, none, .call (.t 12) [.t 16, .t 20]⟩,
  ⟨some 22, none, .bin .lss (.t 21) (.c (.int .i64 0))⟩]
def c108_a2 : List (List Nat) := [[], [], [], [1, 2], [3], [], [], [5, 6], [7], [0, 4, 8], [9]]
abbrev c108_m2 : List Am.Mark := [⟨false, 0, 0⟩, ⟨false, 0, 1⟩, ⟨false, 0, 1⟩, ⟨false, 0, 1⟩, ⟨false, 0, 0⟩, ⟨false, 0, 1⟩, ⟨false, 0, 1⟩, ⟨false, 0, 1⟩, ⟨false, 0, 0⟩, ⟨true, 0, 1⟩, ⟨false, 1, 1⟩]
theorem c108_d2 : drawFine c108_r2 c108_a2 c108_m2 = true := by decide +kernel
abbrev c108_r3 : List Ins := [
  ⟨some 23, none, .mov (.t 3)⟩,
  ⟨some 24, none, .nilck (.t 23)⟩,
  ⟨some 25, none, .load 1 false (.t 24)⟩,
  ⟨some 26, none, .bin .add (.t 25) (.c (.int .i64 1))⟩,
  ⟨some 27, none, .nilck (.t 23)⟩,
  ⟨none, none, .store 1 (.t 27) (.t 26)⟩]
abbrev c108_r4 : List Ins := [
  ⟨some 28, none, .mov (.t 2)⟩,
  ⟨some 29, none, .mov (.t 1)⟩,
  ⟨some 10, none, .mov (.t 28)⟩,
  ⟨some 11, none, .mov (.t 29)⟩]
abbrev c108_r5 : List Ins := [
  ⟨some 30, none, .mov (.t 1)⟩,
  ⟨some 31, none, .mov (.t 2)⟩,
  ⟨some 10, none, .mov (.t 30)⟩,
  ⟨some 11, none, .mov (.t 31)⟩]
abbrev c108 : IR := .seq (.reg c108_r1) (.seq (.seq (.dreg c108_r2 c108_a2) (.cond (.t 22) (.seq (.reg c108_r3) (.seq (.reg c108_r4) (.ret))) (.skip))) (.seq (.reg c108_r5) (.ret)))
abbrev F108 : FnA := ⟨32, c108, [.t 10, .t 11]⟩
theorem ok108 : cFn Try.prog 108 = some F108 := by kernel_rfl
theorem hb108 : HasBody Try.prog 108 := ⟨_, Try.func108, by kernel_rfl, by kernel_rfl⟩


end Go.Proofs
