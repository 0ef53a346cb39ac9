/- The code of the functions that the statement reaches, as the abstract machine reads it. -/
import Derived.Test.YtaepkklbckgbhaaDoorK4
import Derived.Test.YtaepkklbckgbhaaDoorProg
namespace Go.Proofs
open Go Go.RowKit Go.Am

/-! law09.ProgReads -/
abbrev c3_r1 : List Ins := [
  ⟨some 2, none, .mov (.c (.bool false))⟩]
abbrev c3_r2 : List Ins := [
  ⟨some 7, none, .call (.c (.fn 7 [] [])) []⟩,
  ⟨some 8, none, .un .not (.t 7)⟩]
abbrev c3_r3 : List Ins := [
  ⟨some 2, none, .mov (.c (.bool false))⟩]
abbrev c3_r4 : List Ins := [
  ⟨some 9, none, .mov (.t 0)⟩,
  ⟨some 10, none, .len (.t 9)⟩,
  ⟨some 11, none, .bin .gtr (.t 10) (.c (.int .i64 300))⟩]
abbrev c3_r5 : List Ins := [
  ⟨some 2, none, .mov (.c (.bool true))⟩]
abbrev c3_r6 : List Ins := [
  ⟨some 12, none, .mov (.t 0)⟩,
  ⟨some 13, none, .call (.c (.fn 8 [] [])) [.t 12]⟩,
  ⟨some 14, none, .mov (.t 0)⟩,
  ⟨some 15, none, .build [.sl .full [], .bool false] [(0, (1, .t 14))]⟩,
  ⟨some 16, none, .box (.t 15)⟩,
  ⟨some 3, none, .mov (.t 13)⟩,
  ⟨some 4, none, .mov (.t 16)⟩]
abbrev c3_r7 : List Ins := [
  ⟨some 17, none, .mov (.t 3)⟩,
  ⟨some 18, none, .call (.c (.fn 9 [] [])) [.t 17]⟩,
  ⟨some 19, none, .mov (.t 4)⟩,
  ⟨some 20, none, .call (.c (.fn 10 [] [])) [.t 19]⟩,
  ⟨some 5, none, .mov (.t 18)⟩,
  ⟨some 6, none, .mov (.t 20)⟩]
abbrev c3_r8 : List Ins := [
  ⟨some 21, none, .mov (.t 5)⟩,
  ⟨some 22, none, .mov (.t 6)⟩,
  ⟨some 23, none, .call (.c (.fn 11 [] [])) [.t 21, .t 22]⟩,
  ⟨some 24, none, .mov (.t 23)⟩,
  ⟨some 25, some (24, true), .mov (.t 3)⟩,
  ⟨some 26, some (24, true), .call (.c (.fn 12 [] [])) [.t 25]⟩,
  ⟨some 27, some (24, true), .mov (.t 4)⟩,
  ⟨some 28, some (24, true), .nilck (.t 27)⟩,
  ⟨some 29, some (24, true), .faddr 1 (.t 28)⟩,
  ⟨some 30, some (24, true), .load 1 false (.t 29)⟩,
  ⟨some 31, some (24, true), .un .not (.t 30)⟩,
  ⟨some 32, some (24, true), .eq [.b] false false (.t 26) (.t 31)⟩,
  ⟨some 33, none, .pick (.t 24) (.t 32) (.c (.bool false))⟩,
  ⟨some 34, none, .mov (.t 33)⟩,
  ⟨some 35, some (34, true), .mov (.t 3)⟩,
  ⟨some 36, some (34, true), .call (.c (.fn 13 [] [])) [.t 35]⟩,
  ⟨some 37, some (34, true), .mov (.t 4)⟩,
  ⟨some 38, some (34, true), .nilck (.t 37)⟩,
  ⟨some 39, some (34, true), .faddr 1 (.t 38)⟩,
  ⟨some 40, some (34, true), .load 1 false (.t 39)⟩,
  ⟨some 41, some (34, true), .un .not (.t 40)⟩,
  ⟨some 42, some (34, true), .mov (.t 41)⟩,
  ⟨some 43, some (42, true), .mov (.t 4)⟩,
  ⟨some 44, some (42, true), .nilck (.t 43)⟩,
  ⟨some 45, some (42, true), .faddr 0 (.t 44)⟩,
  ⟨some 46, some (42, true), .load 1 false (.t 45)⟩,
  ⟨some 47, some (42, true), .len (.t 46)⟩,
  ⟨some 48, some (42, true), .bin .eql (.t 47) (.c (.int .i64 0))⟩,
  ⟨some 49, some (34, true), .pick (.t 42) (.t 48) (.c (.bool false))⟩,
  ⟨some 50, some (34, true), .eq [.b] false false (.t 36) (.t 49)⟩,
  ⟨some 51, none, .pick (.t 34) (.t 50) (.c (.bool false))⟩,
  ⟨some 2, none, .mov (.t 51)⟩]
def c3_a8 : List (List Nat) := [[], [], [0, 1], [2, 2], [3], [4, 3, 3], [3], [6, 3], [7, 3], [8, 3], [9, 3], [5, 10, 3], [3, 11], [12, 5], [13], [14, 13, 13], [13], [16, 13], [17, 13], [18, 13], [19, 13], [20, 15, 13], [21], [22, 21], [23, 21], [24, 21], [25, 21], [26, 21], [21, 27, 13], [15, 28, 13], [13, 29], [30, 21, 0, 1, 2, 3, 4, 5, 6, 7, 8, 9, 10, 11, 12, 13, 14, 15, 16, 17, 18, 19, 20, 21, 22, 23, 24, 25, 26, 27, 28, 29, 30]]
abbrev c3_m8 : List Am.Mark := [⟨false, 0, 2⟩, ⟨false, 0, 2⟩, ⟨false, 0, 2⟩, ⟨false, 0, 0⟩, ⟨false, 0, 0⟩, ⟨true, 0, 2⟩, ⟨false, 0, 2⟩, ⟨false, 0, 2⟩, ⟨false, 0, 2⟩, ⟨false, 0, 2⟩, ⟨false, 0, 2⟩, ⟨false, 1, 2⟩, ⟨false, 1, 2⟩, ⟨false, 1, 1⟩, ⟨false, 1, 1⟩, ⟨true, 1, 2⟩, ⟨false, 1, 2⟩, ⟨false, 1, 2⟩, ⟨false, 1, 2⟩, ⟨false, 1, 2⟩, ⟨false, 1, 2⟩, ⟨false, 2, 2⟩, ⟨false, 2, 2⟩, ⟨false, 2, 2⟩, ⟨false, 2, 2⟩, ⟨false, 2, 2⟩, ⟨false, 2, 2⟩, ⟨false, 2, 2⟩, ⟨false, 2, 2⟩, ⟨false, 2, 2⟩, ⟨false, 2, 2⟩, ⟨false, 2, 2⟩]
theorem c3_d8 : drawFine c3_r8 c3_a8 c3_m8 = true := by decide +kernel
abbrev c3 : IR := .seq (.reg c3_r1) (.seq (.seq (.reg c3_r2) (.cond (.t 8) (.seq (.reg c3_r3) (.ret)) (.skip))) (.seq (.seq (.reg c3_r4) (.cond (.t 11) (.seq (.reg c3_r5) (.ret)) (.skip))) (.seq (.reg c3_r6) (.seq (.reg c3_r7) (.seq (.dreg c3_r8 c3_a8) (.ret))))))
abbrev F3 : FnA := ⟨52, c3, [.t 2]⟩
theorem ok3 : cFn Tryd.prog 3 = some F3 := by kernel_rfl
theorem hb3 : HasBody Tryd.prog 3 := ⟨_, Tryd.func3, by kernel_rfl, by kernel_rfl⟩
/-! law09.ProgWords -/
abbrev c6_r1 : List Ins := [
  ⟨some 4, none, .mov (.c (.bool false))⟩]
abbrev c6_r2 : List Ins := [
  ⟨some 8, none, .call (.c (.fn 7 [] [])) []⟩,
  ⟨some 9, none, .un .not (.t 8)⟩]
abbrev c6_r3 : List Ins := [
  ⟨some 4, none, .mov (.c (.bool false))⟩]
abbrev c6_r4 : List Ins := [
  ⟨some 10, none, .mov (.t 0)⟩,
  ⟨some 11, none, .mov (.t 1)⟩,
  ⟨some 12, none, .call (.c (.fn 19 [] [])) [.t 10, .t 11]⟩,
  ⟨some 13, none, .un .not (.t 12)⟩]
abbrev c6_r5 : List Ins := [
  ⟨some 4, none, .mov (.c (.bool true))⟩]
abbrev c6_r6 : List Ins := [
  ⟨some 5, none, .alloc [.sl .full []]⟩]
abbrev c6_r7 : List Ins := [
  ⟨some 14, none, .mov (.t 0)⟩,
  ⟨some 15, none, .call (.c (.fn 21 [] [])) [.t 5, .t 14]⟩]
abbrev c6_r8 : List Ins := [
  ⟨some 16, none, .call (.c (.fn 22 [] [])) [.t 5]⟩,
  ⟨some 17, none, .call (.c (.fn 8 [] [])) [.t 16]⟩,
  ⟨some 6, none, .mov (.t 17)⟩]
abbrev c6_r9 : List Ins := [
  ⟨some 18, none, .mov (.t 6)⟩,
  ⟨some 19, none, .call (.c (.fn 9 [] [])) [.t 18]⟩,
  ⟨some 7, none, .mov (.t 19)⟩]
abbrev c6_r10 : List Ins := [
  ⟨some 20, none, .call (.c (.fn 22 [] [])) [.t 5]⟩,
  ⟨some 21, none, .mov (.t 0)⟩,
  ⟨some 22, none, .call (.c (.fn 25 [] [])) [.t 21]⟩,
  ⟨some 23, none, .call (.c (.fn 24 [] [])) [.t 22]⟩,
  ⟨some 24, none, .call (.c (.fn 23 [] [])) [.t 20, .t 23]⟩,
  ⟨some 25, none, .mov (.t 24)⟩,
  ⟨some 26, some (25, true), .mov (.t 6)⟩,
  ⟨some 27, some (25, true), .call (.c (.fn 13 [] [])) [.t 26]⟩,
  ⟨some 28, none, .pick (.t 25) (.t 27) (.c (.bool false))⟩,
  ⟨some 29, none, .mov (.t 28)⟩,
  ⟨some 30, some (29, true), .mov (.t 0)⟩,
  ⟨some 31, some (29, true), .mov (.t 7)⟩,
  ⟨some 32, some (29, true), .call (.c (.fn 11 [] [])) [.t 30, .t 31]⟩,
  ⟨some 33, none, .pick (.t 29) (.t 32) (.c (.bool false))⟩,
  ⟨some 4, none, .mov (.t 33)⟩]
abbrev c6 : IR := .seq (.reg c6_r1) (.seq (.seq (.reg c6_r2) (.cond (.t 9) (.seq (.reg c6_r3) (.ret)) (.skip))) (.seq (.seq (.reg c6_r4) (.cond (.t 13) (.seq (.reg c6_r5) (.ret)) (.skip))) (.seq (.reg c6_r6) (.seq (.reg c6_r7) (.seq (.reg c6_r8) (.seq (.reg c6_r9) (.seq (.reg c6_r10) (.ret))))))))
abbrev F6 : FnA := ⟨34, c6, [.t 4]⟩
theorem ok6 : cFn Tryd.prog 6 = some F6 := by kernel_rfl
theorem hb6 : HasBody Tryd.prog 6 := ⟨_, Tryd.func6, by kernel_rfl, by kernel_rfl⟩
/-! law09.alive -/
abbrev c7_r1 : List Ins := [
  ⟨some 0, none, .mov (.c (.bool false))⟩]
abbrev c7_r2 : List Ins := [
  ⟨some 1, none, .build [.int .i64 0, .int .i64 0] [(1, (1, .c (.int .i64 5)))]⟩,
  ⟨some 2, none, .build [.int .i64 0, .int .i64 0, .int .i64 0, .int .i64 0, .int .i64 0, .int .i64 0, .int .i64 0, .int .i64 0, .int .i64 0] [(0, (1, .c (.int .i64 1))), (1, (1, .c (.int .i64 2))), (4, (2, .t 1))]⟩,
  ⟨some 3, none, .call (.c (.fn 26 [] [])) [.t 2]⟩,
  ⟨some 4, none, .bin .eql (.t 3) (.c (.str ⟨#[103, 101, 116, 32, 114, 50, 32, 53, 43, 97, 48]⟩))⟩,
  ⟨some 0, none, .mov (.t 4)⟩]
abbrev c7 : IR := .seq (.reg c7_r1) (.seq (.reg c7_r2) (.ret))
abbrev F7 : FnA := ⟨5, c7, [.t 0]⟩
theorem ok7 : cFn Tryd.prog 7 = some F7 := by kernel_rfl
theorem hb7 : HasBody Tryd.prog 7 := ⟨_, Tryd.func7, by kernel_rfl, by kernel_rfl⟩
/-! codes.NewReader -/
abbrev c8_r1 : List Ins := [
  ⟨some 2, none, .mov (.c .nilptr)⟩]
abbrev c8_r2 : List Ins := [
  ⟨some 3, none, .mov (.t 0)⟩,
  ⟨some 4, none, .build [.sl .full [], .bool false] [(0, (1, .t 3))]⟩,
  ⟨some 5, none, .box (.t 4)⟩,
  ⟨some 2, none, .mov (.t 5)⟩]
abbrev c8 : IR := .seq (.reg c8_r1) (.seq (.reg c8_r2) (.ret))
abbrev F8 : FnA := ⟨6, c8, [.t 2]⟩
theorem ok8 : cFn Tryd.prog 8 = some F8 := by kernel_rfl
theorem hb8 : HasBody Tryd.prog 8 := ⟨_, Tryd.func8, by kernel_rfl, by kernel_rfl⟩
/-! prog.Get -/
abbrev c9_r1 : List Ins := [
  ⟨some 2, none, .mov (.c (.sl .full []))⟩]
abbrev c9_r2 : List Ins := [
  ⟨some 3, none, .mov (.c (.sl .full []))⟩]
abbrev c9_r3 : List Ins := [
  ⟨some 6, none, .mov (.t 0)⟩,
  ⟨some 7, none, .call (.c (.fn 27 [] [])) [.t 6, .c (.int .i64 8)]⟩,
  ⟨some 8, none, .mov (.c (.int .i64 0))⟩]
abbrev c9_r4 : List Ins := [
  ⟨some 9, none, .bin .lss (.t 8) (.t 7)⟩]
abbrev c9_r5 : List Ins := [
  ⟨some 10, none, .mov (.t 0)⟩,
  ⟨some 11, none, .mkfn 27 [.t 10] []⟩,
  ⟨some 4, none, .mov (.t 11)⟩]
abbrev c9_r6 : List Ins := [
  ⟨some 12, none, .mov (.t 4)⟩,
  ⟨some 13, none, .call (.t 12) [.c (.int .i64 255)]⟩,
  ⟨some 14, none, .mov (.t 4)⟩,
  ⟨some 15, none, .call (.t 14) [.c (.int .i64 255)]⟩,
  ⟨some 16, none, .mov (.t 4)⟩,
  ⟨some 17, none, .call (.t 16) [.c (.int .i64 255)]⟩,
  ⟨some 18, none, .mov (.t 4)⟩,
  ⟨some 19, none, .call (.t 18) [.c (.int .i64 255)]⟩,
  ⟨some 20, none, .build [.int .i64 0, .int .i64 0, .int .i64 0, .int .i64 0, .int .i64 0, .int .i64 0, .int .i64 0, .int .i64 0, .int .i64 0] [(0, (1, .t 13)), (1, (1, .t 15)), (2, (1, .t 17)), (3, (1, .t 19))]⟩,
  ⟨some 5, none, .alloc [.int .i64 0, .int .i64 0, .int .i64 0, .int .i64 0, .int .i64 0, .int .i64 0, .int .i64 0, .int .i64 0, .int .i64 0]⟩,
  ⟨none, none, .store 9 (.t 5) (.t 20)⟩]
abbrev c9_r7 : List Ins := [
  ⟨some 21, none, .mov (.t 0)⟩,
  ⟨some 22, none, .call (.c (.fn 28 [] [])) [.t 21]⟩,
  ⟨some 23, none, .mov (.t 0)⟩,
  ⟨some 24, none, .call (.c (.fn 28 [] [])) [.t 23]⟩,
  ⟨some 25, none, .faddr 4 (.t 5)⟩,
  ⟨none, none, .store 2 (.t 25) (.t 22)⟩,
  ⟨some 26, none, .faddr 6 (.t 5)⟩,
  ⟨none, none, .store 2 (.t 26) (.t 24)⟩]
abbrev c9_r8 : List Ins := [
  ⟨some 27, none, .mov (.t 0)⟩,
  ⟨some 28, none, .call (.c (.fn 29 [] [])) [.t 27]⟩,
  ⟨some 29, none, .faddr 8 (.t 5)⟩,
  ⟨none, none, .store 1 (.t 29) (.t 28)⟩]
abbrev c9_r9 : List Ins := [
  ⟨some 30, none, .mov (.t 3)⟩,
  ⟨some 31, none, .load 9 true (.t 5)⟩,
  ⟨some 32, none, .bsl 9 1 [.int .i64 0, .int .i64 0, .int .i64 0, .int .i64 0, .int .i64 0, .int .i64 0, .int .i64 0, .int .i64 0, .int .i64 0] [(0, .t 31)]⟩,
  ⟨some 33, none, .append 9 72 (.t 30) (.t 32)⟩,
  ⟨some 3, none, .mov (.t 33)⟩]
abbrev c9_r10 : List Ins := [
  ⟨some 34, none, .bin .add (.t 8) (.c (.int .i64 1))⟩,
  ⟨some 8, none, .mov (.t 34)⟩]
abbrev c9_l11 : IR := .seq (.reg c9_r4) (.seq (.cond (.t 9) (.skip) (.exit 0)) (.seq (.blk 1 (.seq (.reg c9_r5) (.seq (.reg c9_r6) (.seq (.reg c9_r7) (.seq (.reg c9_r8) (.reg c9_r9)))))) (.reg c9_r10)))
abbrev c9_r12 : List Ins := [
  ⟨some 35, none, .mov (.t 0)⟩,
  ⟨some 36, none, .call (.c (.fn 12 [] [])) [.t 35]⟩,
  ⟨some 37, none, .un .not (.t 36)⟩]
abbrev c9_r13 : List Ins := [
  ⟨some 2, none, .mov (.c (.sl .full []))⟩]
abbrev c9_r14 : List Ins := [
  ⟨some 38, none, .mov (.t 3)⟩,
  ⟨some 2, none, .mov (.t 38)⟩]
abbrev c9 : IR := .seq (.reg c9_r1) (.seq (.reg c9_r2) (.seq (.seq (.reg c9_r3) (.blk 0 (.loop c9_l11))) (.seq (.seq (.reg c9_r12) (.cond (.t 37) (.seq (.reg c9_r13) (.ret)) (.skip))) (.seq (.reg c9_r14) (.ret)))))
abbrev F9 : FnA := ⟨39, c9, [.t 2]⟩
theorem ok9 : cFn Tryd.prog 9 = some F9 := by kernel_rfl
theorem hb9 : HasBody Tryd.prog 9 := ⟨_, Tryd.func9, by kernel_rfl, by kernel_rfl⟩
/-! ref09.Get -/
abbrev c10_r1 : List Ins := [
  ⟨some 2, none, .mov (.c (.sl .full []))⟩]
abbrev c10_r2 : List Ins := [
  ⟨some 7, none, .mov (.t 0)⟩,
  ⟨some 8, none, .call (.c (.fn 30 [] [])) [.t 7, .c (.int .i64 0), .c (.int .i64 8)]⟩,
  ⟨some 9, none, .fld 1 1 false (.t 8)⟩,
  ⟨some 3, none, .mov (.t 9)⟩]
abbrev c10_r3 : List Ins := [
  ⟨some 4, none, .mov (.c (.sl .full []))⟩]
abbrev c10_r4 : List Ins := [
  ⟨some 5, none, .mov (.c (.int .i64 0))⟩]
abbrev c10_r5 : List Ins := [
  ⟨some 10, none, .mov (.t 5)⟩,
  ⟨some 11, none, .mov (.t 3)⟩,
  ⟨some 12, none, .bin .lss (.t 10) (.t 11)⟩]
abbrev c10_r6 : List Ins := [
  ⟨some 6, none, .alloc [.int .i64 0, .int .i64 0, .int .i64 0, .int .i64 0, .int .i64 0, .int .i64 0, .int .i64 0, .int .i64 0, .int .i64 0]⟩]
abbrev c10_r7 : List Ins := [
  ⟨some 15, none, .mov (.t 0)⟩,
  ⟨some 16, none, .call (.c (.fn 30 [] [])) [.t 15, .c (.int .i64 0), .c (.int .i64 255)]⟩,
  ⟨some 17, none, .fld 1 1 false (.t 16)⟩,
  ⟨some 18, none, .faddr 0 (.t 6)⟩,
  ⟨none, none, .store 1 (.t 18) (.t 17)⟩]
abbrev c10_r8 : List Ins := [
  ⟨some 19, none, .mov (.t 0)⟩,
  ⟨some 20, none, .call (.c (.fn 30 [] [])) [.t 19, .c (.int .i64 0), .c (.int .i64 255)]⟩,
  ⟨some 21, none, .fld 1 1 false (.t 20)⟩,
  ⟨some 22, none, .faddr 1 (.t 6)⟩,
  ⟨none, none, .store 1 (.t 22) (.t 21)⟩]
abbrev c10_r9 : List Ins := [
  ⟨some 23, none, .mov (.t 0)⟩,
  ⟨some 24, none, .call (.c (.fn 30 [] [])) [.t 23, .c (.int .i64 0), .c (.int .i64 255)]⟩,
  ⟨some 25, none, .fld 1 1 false (.t 24)⟩,
  ⟨some 26, none, .faddr 2 (.t 6)⟩,
  ⟨none, none, .store 1 (.t 26) (.t 25)⟩]
abbrev c10_r10 : List Ins := [
  ⟨some 27, none, .mov (.t 0)⟩,
  ⟨some 28, none, .call (.c (.fn 30 [] [])) [.t 27, .c (.int .i64 0), .c (.int .i64 255)]⟩,
  ⟨some 29, none, .fld 1 1 false (.t 28)⟩,
  ⟨some 30, none, .faddr 3 (.t 6)⟩,
  ⟨none, none, .store 1 (.t 30) (.t 29)⟩]
abbrev c10_r11 : List Ins := [
  ⟨some 31, none, .mov (.t 0)⟩,
  ⟨some 32, none, .call (.c (.fn 31 [] [])) [.t 31]⟩,
  ⟨some 33, none, .faddr 4 (.t 6)⟩,
  ⟨none, none, .store 2 (.t 33) (.t 32)⟩]
abbrev c10_r12 : List Ins := [
  ⟨some 34, none, .mov (.t 0)⟩,
  ⟨some 35, none, .call (.c (.fn 31 [] [])) [.t 34]⟩,
  ⟨some 36, none, .faddr 6 (.t 6)⟩,
  ⟨none, none, .store 2 (.t 36) (.t 35)⟩]
abbrev c10_r13 : List Ins := [
  ⟨some 37, none, .mov (.t 0)⟩,
  ⟨some 38, none, .call (.c (.fn 30 [] [])) [.t 37, .c (.int .i64 1), .c (.int .i64 0)]⟩,
  ⟨some 39, none, .fld 3 1 false (.t 38)⟩,
  ⟨some 40, none, .faddr 8 (.t 6)⟩,
  ⟨none, none, .store 1 (.t 40) (.t 39)⟩]
abbrev c10_r14 : List Ins := [
  ⟨some 41, none, .mov (.t 4)⟩,
  ⟨some 42, none, .load 9 true (.t 6)⟩,
  ⟨some 43, none, .bsl 9 1 [.int .i64 0, .int .i64 0, .int .i64 0, .int .i64 0, .int .i64 0, .int .i64 0, .int .i64 0, .int .i64 0, .int .i64 0] [(0, .t 42)]⟩,
  ⟨some 44, none, .append 9 72 (.t 41) (.t 43)⟩,
  ⟨some 4, none, .mov (.t 44)⟩]
abbrev c10_r15 : List Ins := [
  ⟨some 13, none, .mov (.t 5)⟩,
  ⟨some 14, none, .bin .add (.t 13) (.c (.int .i64 1))⟩,
  ⟨some 5, none, .mov (.t 14)⟩]
abbrev c10_l16 : IR := .seq (.seq (.reg c10_r5) (.cond (.t 12) (.skip) (.exit 0))) (.seq (.blk 1 (.seq (.reg c10_r6) (.seq (.reg c10_r7) (.seq (.reg c10_r8) (.seq (.reg c10_r9) (.seq (.reg c10_r10) (.seq (.reg c10_r11) (.seq (.reg c10_r12) (.seq (.reg c10_r13) (.reg c10_r14)))))))))) (.reg c10_r15))
abbrev c10_r17 : List Ins := [
  ⟨some 45, none, .mov (.t 0)⟩,
  ⟨some 46, none, .nilck (.t 45)⟩,
  ⟨some 47, none, .faddr 1 (.t 46)⟩,
  ⟨some 48, none, .load 1 false (.t 47)⟩]
abbrev c10_r18 : List Ins := [
  ⟨some 2, none, .mov (.c (.sl .full []))⟩]
abbrev c10_r19 : List Ins := [
  ⟨some 49, none, .mov (.t 4)⟩,
  ⟨some 2, none, .mov (.t 49)⟩]
abbrev c10 : IR := .seq (.reg c10_r1) (.seq (.reg c10_r2) (.seq (.reg c10_r3) (.seq (.seq (.reg c10_r4) (.blk 0 (.loop c10_l16))) (.seq (.seq (.reg c10_r17) (.cond (.t 48) (.seq (.reg c10_r18) (.ret)) (.skip))) (.seq (.reg c10_r19) (.ret))))))
abbrev F10 : FnA := ⟨50, c10, [.t 2]⟩
theorem ok10 : cFn Tryd.prog 10 = some F10 := by kernel_rfl
theorem hb10 : HasBody Tryd.prog 10 := ⟨_, Tryd.func10, by kernel_rfl, by kernel_rfl⟩
/-! ref09.Same -/
abbrev c11_r1 : List Ins := [
  ⟨some 4, none, .mov (.c (.bool false))⟩]
abbrev c11_r2 : List Ins := [
  ⟨some 6, none, .mov (.t 0)⟩,
  ⟨some 7, none, .len (.t 6)⟩,
  ⟨some 8, none, .mov (.t 1)⟩,
  ⟨some 9, none, .len (.t 8)⟩,
  ⟨some 10, none, .bin .neq (.t 7) (.t 9)⟩]
abbrev c11_r3 : List Ins := [
  ⟨some 4, none, .mov (.c (.bool false))⟩]
abbrev c11_r4 : List Ins := [
  ⟨some 5, none, .mov (.c (.int .i64 0))⟩]
abbrev c11_r5 : List Ins := [
  ⟨some 11, none, .mov (.t 5)⟩,
  ⟨some 12, none, .mov (.t 0)⟩,
  ⟨some 13, none, .len (.t 12)⟩,
  ⟨some 14, none, .bin .lss (.t 11) (.t 13)⟩]
abbrev c11_r6 : List Ins := [
  ⟨some 17, none, .mov (.t 0)⟩,
  ⟨some 18, none, .mov (.t 5)⟩,
  ⟨some 19, none, .iaddr 9 (.t 17) (.t 18)⟩,
  ⟨some 20, none, .load 9 true (.t 19)⟩,
  ⟨some 21, none, .mov (.t 1)⟩,
  ⟨some 22, none, .mov (.t 5)⟩,
  ⟨some 23, none, .iaddr 9 (.t 21) (.t 22)⟩,
  ⟨some 24, none, .load 9 true (.t 23)⟩,
  ⟨some 25, none, .eq [.i, .i, .i, .i, .i, .i, .i, .i, .i] true true (.t 20) (.t 24)⟩]
def c11_a6 : List (List Nat) := [[], [], [0, 1], [2], [], [], [4, 5], [6], [3, 7]]
abbrev c11_m6 : List Am.Mark := [⟨false, 0, 0⟩, ⟨false, 0, 0⟩, ⟨false, 0, 0⟩, ⟨false, 0, 0⟩, ⟨false, 0, 0⟩, ⟨false, 0, 0⟩, ⟨false, 0, 0⟩, ⟨false, 0, 0⟩, ⟨false, 0, 0⟩]
theorem c11_d6 : drawFine c11_r6 c11_a6 c11_m6 = true := by decide +kernel
abbrev c11_r7 : List Ins := [
  ⟨some 4, none, .mov (.c (.bool false))⟩]
abbrev c11_r8 : List Ins := [
  ⟨some 15, none, .mov (.t 5)⟩,
  ⟨some 16, none, .bin .add (.t 15) (.c (.int .i64 1))⟩,
  ⟨some 5, none, .mov (.t 16)⟩]
abbrev c11_l9 : IR := .seq (.seq (.reg c11_r5) (.cond (.t 14) (.skip) (.exit 0))) (.seq (.blk 1 (.seq (.dreg c11_r6 c11_a6) (.cond (.t 25) (.seq (.reg c11_r7) (.ret)) (.skip)))) (.reg c11_r8))
abbrev c11_r10 : List Ins := [
  ⟨some 4, none, .mov (.c (.bool true))⟩]
abbrev c11 : IR := .seq (.reg c11_r1) (.seq (.seq (.reg c11_r2) (.cond (.t 10) (.seq (.reg c11_r3) (.ret)) (.skip))) (.seq (.seq (.reg c11_r4) (.blk 0 (.loop c11_l9))) (.seq (.reg c11_r10) (.ret))))
abbrev F11 : FnA := ⟨26, c11, [.t 4]⟩
theorem ok11 : cFn Tryd.prog 11 = some F11 := by kernel_rfl
theorem hb11 : HasBody Tryd.prog 11 := ⟨_, Tryd.func11, by kernel_rfl, by kernel_rfl⟩
/-! codes.Reader.Ok -/
abbrev c12_r1 : List Ins := [
  ⟨some 2, none, .mov (.c (.bool false))⟩]
abbrev c12_r2 : List Ins := [
  ⟨some 3, none, .mov (.t 0)⟩,
  ⟨some 4, none, .nilck (.t 3)⟩,
  ⟨some 5, none, .faddr 1 (.t 4)⟩,
  ⟨some 6, none, .load 1 false (.t 5)⟩,
  ⟨some 7, none, .un .not (.t 6)⟩,
  ⟨some 2, none, .mov (.t 7)⟩]
abbrev c12 : IR := .seq (.reg c12_r1) (.seq (.reg c12_r2) (.ret))
abbrev F12 : FnA := ⟨8, c12, [.t 2]⟩
theorem ok12 : cFn Tryd.prog 12 = some F12 := by kernel_rfl
theorem hb12 : HasBody Tryd.prog 12 := ⟨_, Tryd.func12, by kernel_rfl, by kernel_rfl⟩
/-! codes.Reader.End -/
abbrev c13_r1 : List Ins := [
  ⟨some 2, none, .mov (.c (.bool false))⟩]
abbrev c13_r2 : List Ins := [
  ⟨some 3, none, .mov (.t 0)⟩,
  ⟨some 4, none, .nilck (.t 3)⟩,
  ⟨some 5, none, .faddr 1 (.t 4)⟩,
  ⟨some 6, none, .load 1 false (.t 5)⟩,
  ⟨some 7, none, .un .not (.t 6)⟩,
  ⟨some 8, none, .mov (.t 7)⟩,
  ⟨some 9, some (8, true), .mov (.t 0)⟩,
  ⟨some 10, some (8, true), .nilck (.t 9)⟩,
  ⟨some 11, some (8, true), .faddr 0 (.t 10)⟩,
  ⟨some 12, some (8, true), .load 1 false (.t 11)⟩,
  ⟨some 13, some (8, true), .len (.t 12)⟩,
  ⟨some 14, some (8, true), .bin .eql (.t 13) (.c (.int .i64 0))⟩,
  ⟨some 15, none, .pick (.t 8) (.t 14) (.c (.bool false))⟩,
  ⟨some 2, none, .mov (.t 15)⟩]
abbrev c13 : IR := .seq (.reg c13_r1) (.seq (.reg c13_r2) (.ret))
abbrev F13 : FnA := ⟨16, c13, [.t 2]⟩
theorem ok13 : cFn Tryd.prog 13 = some F13 := by kernel_rfl
theorem hb13 : HasBody Tryd.prog 13 := ⟨_, Tryd.func13, by kernel_rfl, by kernel_rfl⟩
/-! prog.May -/
abbrev c14_r1 : List Ins := [
  ⟨some 3, none, .box (.t 1)⟩,
  ⟨some 4, none, .mov (.c (.bool false))⟩]
abbrev c14_r2 : List Ins := [
  ⟨some 5, none, .load 1 false (.t 3)⟩,
  ⟨some 6, none, .bin .lss (.t 5) (.c (.int .i64 0))⟩,
  ⟨some 7, none, .mov (.t 6)⟩,
  ⟨some 8, some (7, false), .load 1 false (.t 3)⟩,
  ⟨some 9, some (7, false), .bin .gtr (.t 8) (.c (.int .i64 3))⟩,
  ⟨some 10, none, .pick (.t 7) (.c (.bool true)) (.t 9)⟩,
  ⟨some 11, none, .mov (.t 10)⟩,
  ⟨some 12, some (11, false), .mov (.t 0)⟩,
  ⟨some 13, some (11, false), .len (.t 12)⟩,
  ⟨some 14, some (11, false), .bin .lss (.t 13) (.c (.int .i64 1))⟩,
  ⟨some 15, none, .pick (.t 11) (.c (.bool true)) (.t 14)⟩,
  ⟨some 16, none, .mov (.t 15)⟩,
  ⟨some 17, some (16, false), .mov (.t 0)⟩,
  ⟨some 18, some (16, false), .len (.t 17)⟩,
  ⟨some 19, some (16, false), .bin .gtr (.t 18) (.c (.int .i64 8))⟩,
  ⟨some 20, none, .pick (.t 16) (.c (.bool true)) (.t 19)⟩]
abbrev c14_r3 : List Ins := [
  ⟨some 4, none, .mov (.c (.bool false))⟩]
abbrev c14_r4 : List Ins := [
  ⟨some 21, none, .mov (.t 0)⟩,
  ⟨some 22, none, .mkfn 33 [] [.t 3]⟩,
  ⟨some 23, none, .call (.c (.fn 32 [] [])) [.t 21, .t 22]⟩,
  ⟨some 24, none, .un .not (.t 23)⟩,
  ⟨some 4, none, .mov (.t 24)⟩]
abbrev c14 : IR := .seq (.reg c14_r1) (.seq (.seq (.reg c14_r2) (.cond (.t 20) (.seq (.reg c14_r3) (.ret)) (.skip))) (.seq (.reg c14_r4) (.ret)))
abbrev F14 : FnA := ⟨25, c14, [.t 4]⟩
theorem ok14 : cFn Tryd.prog 14 = some F14 := by kernel_rfl
theorem hb14 : HasBody Tryd.prog 14 := ⟨_, Tryd.func14, by kernel_rfl, by kernel_rfl⟩
/-! prog.Sure -/
abbrev c15_r1 : List Ins := [
  ⟨some 2, none, .mov (.c (.bool false))⟩]
abbrev c15_r2 : List Ins := [
  ⟨some 3, none, .mov (.t 0)⟩,
  ⟨some 4, none, .call (.c (.fn 32 [] [])) [.t 3, .c (.fn 35 [] [])]⟩,
  ⟨some 5, none, .un .not (.t 4)⟩,
  ⟨some 2, none, .mov (.t 5)⟩]
abbrev c15 : IR := .seq (.reg c15_r1) (.seq (.reg c15_r2) (.ret))
abbrev F15 : FnA := ⟨6, c15, [.t 2]⟩
theorem ok15 : cFn Tryd.prog 15 = some F15 := by kernel_rfl
theorem hb15 : HasBody Tryd.prog 15 := ⟨_, Tryd.func15, by kernel_rfl, by kernel_rfl⟩
/-! ref09.MayKey -/
abbrev c18_r1 : List Ins := [
  ⟨some 2, none, .box (.t 0)⟩,
  ⟨some 4, none, .mov (.c (.bool false))⟩]
abbrev c18_r2 : List Ins := [
  ⟨some 5, none, .faddr 0 (.t 2)⟩,
  ⟨some 6, none, .load 1 false (.t 5)⟩,
  ⟨some 7, none, .bin .geq (.t 6) (.c (.int .i64 (-1)))⟩,
  ⟨some 8, none, .mov (.t 7)⟩,
  ⟨some 9, some (8, true), .faddr 0 (.t 2)⟩,
  ⟨some 10, some (8, true), .load 1 false (.t 9)⟩,
  ⟨some 11, some (8, true), .mov (.t 1)⟩,
  ⟨some 12, some (8, true), .bin .lss (.t 10) (.t 11)⟩,
  ⟨some 13, none, .pick (.t 8) (.t 12) (.c (.bool false))⟩,
  ⟨some 14, none, .mov (.t 13)⟩,
  ⟨some 15, some (14, true), .faddr 1 (.t 2)⟩,
  ⟨some 16, some (14, true), .load 1 false (.t 15)⟩,
  ⟨some 17, some (14, true), .bin .geq (.t 16) (.c (.int .i64 0))⟩,
  ⟨some 18, none, .pick (.t 14) (.t 17) (.c (.bool false))⟩,
  ⟨some 19, none, .mov (.t 18)⟩,
  ⟨some 20, some (19, true), .faddr 1 (.t 2)⟩,
  ⟨some 21, some (19, true), .load 1 false (.t 20)⟩,
  ⟨some 22, some (19, true), .bin .leq (.t 21) (.c (.int .i64 900))⟩,
  ⟨some 23, none, .pick (.t 19) (.t 22) (.c (.bool false))⟩,
  ⟨some 4, none, .mov (.t 23)⟩]
abbrev c18 : IR := .seq (.reg c18_r1) (.seq (.reg c18_r2) (.ret))
abbrev F18 : FnA := ⟨24, c18, [.t 4]⟩
theorem ok18 : cFn Tryd.prog 18 = some F18 := by kernel_rfl
theorem hb18 : HasBody Tryd.prog 18 := ⟨_, Tryd.func18, by kernel_rfl, by kernel_rfl⟩
/-! ref09.May -/
abbrev c19_r1 : List Ins := [
  ⟨some 4, none, .mov (.c (.bool false))⟩]
abbrev c19_r2 : List Ins := [
  ⟨some 6, none, .mov (.t 1)⟩,
  ⟨some 7, none, .bin .lss (.t 6) (.c (.int .i64 0))⟩,
  ⟨some 8, none, .mov (.t 7)⟩,
  ⟨some 9, some (8, false), .mov (.t 1)⟩,
  ⟨some 10, some (8, false), .bin .gtr (.t 9) (.c (.int .i64 3))⟩,
  ⟨some 11, none, .pick (.t 8) (.c (.bool true)) (.t 10)⟩,
  ⟨some 12, none, .mov (.t 11)⟩,
  ⟨some 13, some (12, false), .mov (.t 0)⟩,
  ⟨some 14, some (12, false), .len (.t 13)⟩,
  ⟨some 15, some (12, false), .bin .lss (.t 14) (.c (.int .i64 1))⟩,
  ⟨some 16, none, .pick (.t 12) (.c (.bool true)) (.t 15)⟩,
  ⟨some 17, none, .mov (.t 16)⟩,
  ⟨some 18, some (17, false), .mov (.t 0)⟩,
  ⟨some 19, some (17, false), .len (.t 18)⟩,
  ⟨some 20, some (17, false), .bin .gtr (.t 19) (.c (.int .i64 8))⟩,
  ⟨some 21, none, .pick (.t 17) (.c (.bool true)) (.t 20)⟩]
abbrev c19_r3 : List Ins := [
  ⟨some 4, none, .mov (.c (.bool false))⟩]
abbrev c19_r4 : List Ins := [
  ⟨some 5, none, .mov (.c (.int .i64 0))⟩]
abbrev c19_r5 : List Ins := [
  ⟨some 22, none, .mov (.t 5)⟩,
  ⟨some 23, none, .mov (.t 0)⟩,
  ⟨some 24, none, .len (.t 23)⟩,
  ⟨some 25, none, .bin .lss (.t 22) (.t 24)⟩]
abbrev c19_r6 : List Ins := [
  ⟨some 28, none, .mov (.t 0)⟩,
  ⟨some 29, none, .mov (.t 5)⟩,
  ⟨some 30, none, .iaddr 9 (.t 28) (.t 29)⟩,
  ⟨some 31, none, .load 9 true (.t 30)⟩,
  ⟨some 32, none, .mov (.t 1)⟩,
  ⟨some 33, none, .call (.c (.fn 39 [] [])) [.t 31, .t 32]⟩,
  ⟨some 34, none, .un .not (.t 33)⟩]
abbrev c19_r7 : List Ins := [
  ⟨some 4, none, .mov (.c (.bool false))⟩]
abbrev c19_r8 : List Ins := [
  ⟨some 26, none, .mov (.t 5)⟩,
  ⟨some 27, none, .bin .add (.t 26) (.c (.int .i64 1))⟩,
  ⟨some 5, none, .mov (.t 27)⟩]
abbrev c19_l9 : IR := .seq (.seq (.reg c19_r5) (.cond (.t 25) (.skip) (.exit 0))) (.seq (.blk 1 (.seq (.reg c19_r6) (.cond (.t 34) (.seq (.reg c19_r7) (.ret)) (.skip)))) (.reg c19_r8))
abbrev c19_r10 : List Ins := [
  ⟨some 4, none, .mov (.c (.bool true))⟩]
abbrev c19 : IR := .seq (.reg c19_r1) (.seq (.seq (.reg c19_r2) (.cond (.t 21) (.seq (.reg c19_r3) (.ret)) (.skip))) (.seq (.seq (.reg c19_r4) (.blk 0 (.loop c19_l9))) (.seq (.reg c19_r10) (.ret))))
abbrev F19 : FnA := ⟨35, c19, [.t 4]⟩
theorem ok19 : cFn Tryd.prog 19 = some F19 := by kernel_rfl
theorem hb19 : HasBody Tryd.prog 19 := ⟨_, Tryd.func19, by kernel_rfl, by kernel_rfl⟩
/-! prog.Put -/
abbrev c21_r1 : List Ins := [
  ⟨some 8, none, .mov (.t 0)⟩,
  ⟨some 9, none, .mov (.t 1)⟩,
  ⟨some 10, none, .len (.t 9)⟩,
  ⟨some 11, none, .call (.c (.fn 40 [] [])) [.t 8, .t 10]⟩]
abbrev c21_r2 : List Ins := [
  ⟨some 12, none, .mov (.t 1)⟩,
  ⟨some 13, none, .len (.t 12)⟩,
  ⟨some 14, none, .mov (.c (.int .i64 0))⟩]
abbrev c21_r3 : List Ins := [
  ⟨some 15, none, .bin .lss (.t 14) (.t 13)⟩]
abbrev c21_r4 : List Ins := [
  ⟨some 16, none, .iaddr 9 (.t 12) (.t 14)⟩,
  ⟨some 17, none, .load 9 true (.t 16)⟩,
  ⟨some 5, none, .alloc [.int .i64 0, .int .i64 0, .int .i64 0, .int .i64 0, .int .i64 0, .int .i64 0, .int .i64 0, .int .i64 0, .int .i64 0]⟩,
  ⟨none, none, .store 9 (.t 5) (.t 17)⟩]
abbrev c21_r5 : List Ins := [
  ⟨some 18, none, .mov (.t 0)⟩,
  ⟨some 19, none, .faddr 0 (.t 5)⟩,
  ⟨some 20, none, .load 1 false (.t 19)⟩,
  ⟨some 21, none, .faddr 1 (.t 5)⟩,
  ⟨some 22, none, .load 1 false (.t 21)⟩,
  ⟨some 23, none, .faddr 2 (.t 5)⟩,
  ⟨some 24, none, .load 1 false (.t 23)⟩,
  ⟨some 25, none, .faddr 3 (.t 5)⟩,
  ⟨some 26, none, .load 1 false (.t 25)⟩,
  ⟨some 27, none, .bsl 1 4 [.int .i64 0] [(0, .t 20), (1, .t 22), (2, .t 24), (3, .t 26)]⟩,
  ⟨some 28, none, .call (.c (.fn 41 [] [])) [.t 18, .t 27]⟩]
abbrev c21_r6 : List Ins := [
  ⟨some 29, none, .faddr 4 (.t 5)⟩,
  ⟨some 30, none, .load 2 true (.t 29)⟩,
  ⟨some 31, none, .faddr 6 (.t 5)⟩,
  ⟨some 32, none, .load 2 true (.t 31)⟩,
  ⟨some 33, none, .bsl 2 2 [.int .i64 0, .int .i64 0] [(0, .t 30), (1, .t 32)]⟩,
  ⟨some 34, none, .len (.t 33)⟩,
  ⟨some 35, none, .mov (.c (.int .i64 0))⟩]
abbrev c21_r7 : List Ins := [
  ⟨some 36, none, .bin .lss (.t 35) (.t 34)⟩]
abbrev c21_r8 : List Ins := [
  ⟨some 37, none, .iaddr 2 (.t 33) (.t 35)⟩,
  ⟨some 38, none, .load 2 true (.t 37)⟩,
  ⟨some 7, none, .alloc [.int .i64 0, .int .i64 0]⟩,
  ⟨none, none, .store 2 (.t 7) (.t 38)⟩]
abbrev c21_r9 : List Ins := [
  ⟨some 39, none, .mov (.t 0)⟩,
  ⟨some 40, none, .faddr 0 (.t 7)⟩,
  ⟨some 41, none, .load 1 false (.t 40)⟩,
  ⟨some 42, none, .call (.c (.fn 42 [] [])) [.t 39, .t 41]⟩]
abbrev c21_r10 : List Ins := [
  ⟨some 43, none, .mov (.t 0)⟩,
  ⟨some 44, none, .faddr 1 (.t 7)⟩,
  ⟨some 45, none, .load 1 false (.t 44)⟩,
  ⟨some 46, none, .call (.c (.fn 40 [] [])) [.t 43, .t 45]⟩]
abbrev c21_r11 : List Ins := [
  ⟨some 47, none, .bin .add (.t 35) (.c (.int .i64 1))⟩,
  ⟨some 35, none, .mov (.t 47)⟩]
abbrev c21_l12 : IR := .seq (.reg c21_r7) (.seq (.cond (.t 36) (.skip) (.exit 2)) (.seq (.blk 3 (.seq (.reg c21_r8) (.seq (.reg c21_r9) (.reg c21_r10)))) (.reg c21_r11)))
abbrev c21_r13 : List Ins := [
  ⟨some 48, none, .mov (.t 0)⟩,
  ⟨some 49, none, .faddr 8 (.t 5)⟩,
  ⟨some 50, none, .load 1 false (.t 49)⟩,
  ⟨some 51, none, .call (.c (.fn 42 [] [])) [.t 48, .t 50]⟩]
abbrev c21_r14 : List Ins := [
  ⟨some 52, none, .bin .add (.t 14) (.c (.int .i64 1))⟩,
  ⟨some 14, none, .mov (.t 52)⟩]
abbrev c21_l15 : IR := .seq (.reg c21_r3) (.seq (.cond (.t 15) (.skip) (.exit 0)) (.seq (.blk 1 (.seq (.reg c21_r4) (.seq (.reg c21_r5) (.seq (.seq (.reg c21_r6) (.blk 2 (.loop c21_l12))) (.reg c21_r13))))) (.reg c21_r14)))
abbrev c21 : IR := .seq (.reg c21_r1) (.seq (.reg c21_r2) (.blk 0 (.loop c21_l15)))
abbrev F21 : FnA := ⟨53, c21, []⟩
theorem ok21 : cFn Tryd.prog 21 = some F21 := by kernel_rfl
theorem hb21 : HasBody Tryd.prog 21 := ⟨_, Tryd.func21, by kernel_rfl, by kernel_rfl⟩
/-! codes.Writer.Done -/
abbrev c22_r1 : List Ins := [
  ⟨some 2, none, .mov (.c (.sl .full []))⟩]
abbrev c22_r2 : List Ins := [
  ⟨some 3, none, .mov (.t 0)⟩,
  ⟨some 4, none, .nilck (.t 3)⟩,
  ⟨some 5, none, .faddr 0 (.t 4)⟩,
  ⟨some 6, none, .load 1 false (.t 5)⟩,
  ⟨some 7, none, .call (.c (.fn 43 [] [])) [.t 6]⟩,
  ⟨some 2, none, .mov (.t 7)⟩]
abbrev c22 : IR := .seq (.reg c22_r1) (.seq (.reg c22_r2) (.ret))
abbrev F22 : FnA := ⟨8, c22, [.t 2]⟩
theorem ok22 : cFn Tryd.prog 22 = some F22 := by kernel_rfl
theorem hb22 : HasBody Tryd.prog 22 := ⟨_, Tryd.func22, by kernel_rfl, by kernel_rfl⟩
/-! ref01.Words -/
abbrev c23_r1 : List Ins := [
  ⟨some 4, none, .mov (.c (.bool false))⟩]
abbrev c23_r2 : List Ins := [
  ⟨some 6, none, .mov (.t 0)⟩,
  ⟨some 7, none, .len (.t 6)⟩,
  ⟨some 8, none, .mov (.t 1)⟩,
  ⟨some 9, none, .len (.t 8)⟩,
  ⟨some 10, none, .bin .neq (.t 7) (.t 9)⟩]
abbrev c23_r3 : List Ins := [
  ⟨some 4, none, .mov (.c (.bool false))⟩]
abbrev c23_r4 : List Ins := [
  ⟨some 5, none, .mov (.c (.int .i64 0))⟩]
abbrev c23_r5 : List Ins := [
  ⟨some 11, none, .mov (.t 5)⟩,
  ⟨some 12, none, .mov (.t 0)⟩,
  ⟨some 13, none, .len (.t 12)⟩,
  ⟨some 14, none, .bin .lss (.t 11) (.t 13)⟩]
abbrev c23_r6 : List Ins := [
  ⟨some 17, none, .mov (.t 0)⟩,
  ⟨some 18, none, .mov (.t 5)⟩,
  ⟨some 19, none, .iaddr 1 (.t 17) (.t 18)⟩,
  ⟨some 20, none, .load 1 false (.t 19)⟩,
  ⟨some 21, none, .mov (.t 1)⟩,
  ⟨some 22, none, .mov (.t 5)⟩,
  ⟨some 23, none, .iaddr 1 (.t 21) (.t 22)⟩,
  ⟨some 24, none, .load 1 false (.t 23)⟩,
  ⟨some 25, none, .bin .neq (.t 20) (.t 24)⟩]
def c23_a6 : List (List Nat) := [[], [], [0, 1], [2], [], [], [4, 5], [6], [3, 7]]
abbrev c23_m6 : List Am.Mark := [⟨false, 0, 0⟩, ⟨false, 0, 0⟩, ⟨false, 0, 0⟩, ⟨false, 0, 0⟩, ⟨false, 0, 0⟩, ⟨false, 0, 0⟩, ⟨false, 0, 0⟩, ⟨false, 0, 0⟩, ⟨false, 0, 0⟩]
theorem c23_d6 : drawFine c23_r6 c23_a6 c23_m6 = true := by decide +kernel
abbrev c23_r7 : List Ins := [
  ⟨some 4, none, .mov (.c (.bool false))⟩]
abbrev c23_r8 : List Ins := [
  ⟨some 15, none, .mov (.t 5)⟩,
  ⟨some 16, none, .bin .add (.t 15) (.c (.int .i64 1))⟩,
  ⟨some 5, none, .mov (.t 16)⟩]
abbrev c23_l9 : IR := .seq (.seq (.reg c23_r5) (.cond (.t 14) (.skip) (.exit 0))) (.seq (.blk 1 (.seq (.dreg c23_r6 c23_a6) (.cond (.t 25) (.seq (.reg c23_r7) (.ret)) (.skip)))) (.reg c23_r8))
abbrev c23_r10 : List Ins := [
  ⟨some 4, none, .mov (.c (.bool true))⟩]
abbrev c23 : IR := .seq (.reg c23_r1) (.seq (.seq (.reg c23_r2) (.cond (.t 10) (.seq (.reg c23_r3) (.ret)) (.skip))) (.seq (.seq (.reg c23_r4) (.blk 0 (.loop c23_l9))) (.seq (.reg c23_r10) (.ret))))
abbrev F23 : FnA := ⟨26, c23, [.t 4]⟩
theorem ok23 : cFn Tryd.prog 23 = some F23 := by kernel_rfl
theorem hb23 : HasBody Tryd.prog 23 := ⟨_, Tryd.func23, by kernel_rfl, by kernel_rfl⟩
/-! ref09.Words -/
abbrev c24_r1 : List Ins := [
  ⟨some 2, none, .mov (.c (.sl .full []))⟩]
abbrev c24_r2 : List Ins := [
  ⟨some 3, none, .mov (.c (.sl .full []))⟩]
abbrev c24_r3 : List Ins := [
  ⟨some 4, none, .mov (.c (.int .i64 0))⟩]
abbrev c24_r4 : List Ins := [
  ⟨some 5, none, .mov (.t 4)⟩,
  ⟨some 6, none, .mov (.t 0)⟩,
  ⟨some 7, none, .len (.t 6)⟩,
  ⟨some 8, none, .bin .lss (.t 5) (.t 7)⟩]
abbrev c24_r5 : List Ins := [
  ⟨some 11, none, .mov (.t 3)⟩,
  ⟨some 12, none, .mov (.t 0)⟩,
  ⟨some 13, none, .mov (.t 4)⟩,
  ⟨some 14, none, .iaddr 6 (.t 12) (.t 13)⟩,
  ⟨some 15, none, .load 6 true (.t 14)⟩,
  ⟨some 16, none, .call (.c (.fn 44 [] [])) [.t 11, .t 15]⟩,
  ⟨some 3, none, .mov (.t 16)⟩]
abbrev c24_r6 : List Ins := [
  ⟨some 9, none, .mov (.t 4)⟩,
  ⟨some 10, none, .bin .add (.t 9) (.c (.int .i64 1))⟩,
  ⟨some 4, none, .mov (.t 10)⟩]
abbrev c24_l7 : IR := .seq (.seq (.reg c24_r4) (.cond (.t 8) (.skip) (.exit 0))) (.seq (.blk 1 (.reg c24_r5)) (.reg c24_r6))
abbrev c24_r8 : List Ins := [
  ⟨some 17, none, .mov (.t 3)⟩,
  ⟨some 2, none, .mov (.t 17)⟩]
abbrev c24 : IR := .seq (.reg c24_r1) (.seq (.reg c24_r2) (.seq (.seq (.reg c24_r3) (.blk 0 (.loop c24_l7))) (.seq (.reg c24_r8) (.ret))))
abbrev F24 : FnA := ⟨18, c24, [.t 2]⟩
theorem ok24 : cFn Tryd.prog 24 = some F24 := by kernel_rfl
theorem hb24 : HasBody Tryd.prog 24 := ⟨_, Tryd.func24, by kernel_rfl, by kernel_rfl⟩
/-! ref09.Items -/
abbrev c25_r1 : List Ins := [
  ⟨some 2, none, .mov (.c (.sl .full []))⟩]
abbrev c25_r2 : List Ins := [
  ⟨some 6, none, .mov (.t 0)⟩,
  ⟨some 7, none, .len (.t 6)⟩,
  ⟨some 8, none, .build [.int .i64 0, .int .i64 0, .int .i64 0, .int .i64 0, .str ⟨#[]⟩, .sl .full []] [(1, (1, .t 7)), (2, (1, .c (.int .i64 8)))]⟩,
  ⟨some 9, none, .bsl 6 1 [.int .i64 0, .int .i64 0, .int .i64 0, .int .i64 0, .str ⟨#[]⟩, .sl .full []] [(0, .t 8)]⟩,
  ⟨some 3, none, .mov (.t 9)⟩]
abbrev c25_r3 : List Ins := [
  ⟨some 4, none, .mov (.c (.int .i64 0))⟩]
abbrev c25_r4 : List Ins := [
  ⟨some 10, none, .mov (.t 4)⟩,
  ⟨some 11, none, .mov (.t 0)⟩,
  ⟨some 12, none, .len (.t 11)⟩,
  ⟨some 13, none, .bin .lss (.t 10) (.t 12)⟩]
abbrev c25_r5 : List Ins := [
  ⟨some 16, none, .mov (.t 0)⟩,
  ⟨some 17, none, .mov (.t 4)⟩,
  ⟨some 18, none, .iaddr 9 (.t 16) (.t 17)⟩,
  ⟨some 19, none, .load 9 true (.t 18)⟩,
  ⟨some 5, none, .alloc [.int .i64 0, .int .i64 0, .int .i64 0, .int .i64 0, .int .i64 0, .int .i64 0, .int .i64 0, .int .i64 0, .int .i64 0]⟩,
  ⟨none, none, .store 9 (.t 5) (.t 19)⟩]
abbrev c25_r6 : List Ins := [
  ⟨some 20, none, .mov (.t 3)⟩,
  ⟨some 21, none, .faddr 0 (.t 5)⟩,
  ⟨some 22, none, .load 1 false (.t 21)⟩,
  ⟨some 23, none, .build [.int .i64 0, .int .i64 0, .int .i64 0, .int .i64 0, .str ⟨#[]⟩, .sl .full []] [(1, (1, .t 22)), (2, (1, .c (.int .i64 255)))]⟩,
  ⟨some 24, none, .faddr 1 (.t 5)⟩,
  ⟨some 25, none, .load 1 false (.t 24)⟩,
  ⟨some 26, none, .build [.int .i64 0, .int .i64 0, .int .i64 0, .int .i64 0, .str ⟨#[]⟩, .sl .full []] [(1, (1, .t 25)), (2, (1, .c (.int .i64 255)))]⟩,
  ⟨some 27, none, .faddr 2 (.t 5)⟩,
  ⟨some 28, none, .load 1 false (.t 27)⟩,
  ⟨some 29, none, .build [.int .i64 0, .int .i64 0, .int .i64 0, .int .i64 0, .str ⟨#[]⟩, .sl .full []] [(1, (1, .t 28)), (2, (1, .c (.int .i64 255)))]⟩,
  ⟨some 30, none, .faddr 3 (.t 5)⟩,
  ⟨some 31, none, .load 1 false (.t 30)⟩,
  ⟨some 32, none, .build [.int .i64 0, .int .i64 0, .int .i64 0, .int .i64 0, .str ⟨#[]⟩, .sl .full []] [(1, (1, .t 31)), (2, (1, .c (.int .i64 255)))]⟩,
  ⟨some 33, none, .bsl 6 4 [.int .i64 0, .int .i64 0, .int .i64 0, .int .i64 0, .str ⟨#[]⟩, .sl .full []] [(0, .t 23), (1, .t 26), (2, .t 29), (3, .t 32)]⟩,
  ⟨some 34, none, .append 6 72 (.t 20) (.t 33)⟩,
  ⟨some 3, none, .mov (.t 34)⟩]
abbrev c25_r7 : List Ins := [
  ⟨some 35, none, .mov (.t 3)⟩,
  ⟨some 36, none, .faddr 4 (.t 5)⟩,
  ⟨some 37, none, .load 2 true (.t 36)⟩,
  ⟨some 38, none, .call (.c (.fn 45 [] [])) [.t 37]⟩,
  ⟨some 39, none, .append 6 72 (.t 35) (.t 38)⟩,
  ⟨some 40, none, .faddr 6 (.t 5)⟩,
  ⟨some 41, none, .load 2 true (.t 40)⟩,
  ⟨some 42, none, .call (.c (.fn 45 [] [])) [.t 41]⟩,
  ⟨some 43, none, .append 6 72 (.t 39) (.t 42)⟩,
  ⟨some 3, none, .mov (.t 43)⟩]
def c25_a7 : List (List Nat) := [[], [], [1], [2], [0, 3, 3], [], [5], [6, 4], [4, 7, 7], [8, 8, 0, 1, 2, 3, 4, 5, 6, 7, 8]]
abbrev c25_m7 : List Am.Mark := [⟨false, 0, 0⟩, ⟨false, 0, 2⟩, ⟨false, 0, 2⟩, ⟨false, 0, 0⟩, ⟨true, 0, 1⟩, ⟨false, 0, 2⟩, ⟨false, 0, 2⟩, ⟨false, 1, 1⟩, ⟨true, 1, 2⟩, ⟨false, 2, 2⟩]
theorem c25_d7 : drawFine c25_r7 c25_a7 c25_m7 = true := by decide +kernel
abbrev c25_r8 : List Ins := [
  ⟨some 44, none, .mov (.t 3)⟩,
  ⟨some 45, none, .faddr 8 (.t 5)⟩,
  ⟨some 46, none, .load 1 false (.t 45)⟩,
  ⟨some 47, none, .build [.int .i64 0, .int .i64 0, .int .i64 0, .int .i64 0, .str ⟨#[]⟩, .sl .full []] [(0, (1, .c (.int .i64 1))), (3, (1, .t 46))]⟩,
  ⟨some 48, none, .bsl 6 1 [.int .i64 0, .int .i64 0, .int .i64 0, .int .i64 0, .str ⟨#[]⟩, .sl .full []] [(0, .t 47)]⟩,
  ⟨some 49, none, .append 6 72 (.t 44) (.t 48)⟩,
  ⟨some 3, none, .mov (.t 49)⟩]
abbrev c25_r9 : List Ins := [
  ⟨some 14, none, .mov (.t 4)⟩,
  ⟨some 15, none, .bin .add (.t 14) (.c (.int .i64 1))⟩,
  ⟨some 4, none, .mov (.t 15)⟩]
abbrev c25_l10 : IR := .seq (.seq (.reg c25_r4) (.cond (.t 13) (.skip) (.exit 0))) (.seq (.blk 1 (.seq (.reg c25_r5) (.seq (.reg c25_r6) (.seq (.dreg c25_r7 c25_a7) (.reg c25_r8))))) (.reg c25_r9))
abbrev c25_r11 : List Ins := [
  ⟨some 50, none, .mov (.t 3)⟩,
  ⟨some 2, none, .mov (.t 50)⟩]
abbrev c25 : IR := .seq (.reg c25_r1) (.seq (.reg c25_r2) (.seq (.seq (.reg c25_r3) (.blk 0 (.loop c25_l10))) (.seq (.reg c25_r11) (.ret))))
abbrev F25 : FnA := ⟨51, c25, [.t 2]⟩
theorem ok25 : cFn Tryd.prog 25 = some F25 := by kernel_rfl
theorem hb25 : HasBody Tryd.prog 25 := ⟨_, Tryd.func25, by kernel_rfl, by kernel_rfl⟩
/-! prog.Text -/
abbrev c26_r1 : List Ins := [
  ⟨some 1, none, .box (.t 0)⟩,
  ⟨some 2, none, .mov (.c (.str ⟨#[]⟩))⟩]
abbrev c26_r2 : List Ins := [
  ⟨some 3, none, .mov (.c (.fn 46 [] []))⟩]
abbrev c26_r3 : List Ins := [
  ⟨some 5, none, .faddr 8 (.t 1)⟩,
  ⟨some 6, none, .load 1 false (.t 5)⟩,
  ⟨some 7, none, .call (.c (.fn 48 [] [])) [.t 6, .c (.int .i64 10)]⟩,
  ⟨some 4, none, .mov (.t 7)⟩]
abbrev c26_r4 : List Ins := [
  ⟨some 8, none, .faddr 0 (.t 1)⟩,
  ⟨some 9, none, .load 1 false (.t 8)⟩]
abbrev c26_r5 : List Ins := [
  ⟨some 11, none, .bin .eql (.t 9) (.c (.int .i64 1))⟩,
  ⟨some 10, none, .mov (.t 11)⟩]
abbrev c26_r6 : List Ins := [
  ⟨some 12, none, .mov (.t 3)⟩,
  ⟨some 13, none, .faddr 1 (.t 1)⟩,
  ⟨some 14, none, .load 1 false (.t 13)⟩,
  ⟨some 15, none, .call (.t 12) [.t 14]⟩,
  ⟨some 16, none, .faddr 4 (.t 1)⟩,
  ⟨some 17, none, .load 2 true (.t 16)⟩,
  ⟨some 18, none, .call (.c (.fn 50 [] [])) [.t 17]⟩,
  ⟨some 19, none, .bsl 1 3 [.str ⟨#[]⟩] [(0, .c (.str ⟨#[103, 101, 116]⟩)), (1, .t 15), (2, .t 18)]⟩,
  ⟨some 20, none, .call (.c (.fn 49 [] [])) [.t 19]⟩,
  ⟨some 2, none, .mov (.t 20)⟩]
def c26_a6 : List (List Nat) := [[], [], [1], [0, 2], [], [4], [5, 3], [3, 6], [7, 6], [8, 8, 0, 1, 2, 3, 4, 5, 6, 7, 8]]
abbrev c26_m6 : List Am.Mark := [⟨false, 0, 0⟩, ⟨false, 0, 1⟩, ⟨false, 0, 0⟩, ⟨true, 0, 1⟩, ⟨false, 0, 1⟩, ⟨false, 0, 1⟩, ⟨false, 1, 1⟩, ⟨false, 1, 1⟩, ⟨false, 1, 1⟩, ⟨false, 1, 1⟩]
theorem c26_d6 : drawFine c26_r6 c26_a6 c26_m6 = true := by decide +kernel
abbrev c26_r7 : List Ins := [
  ⟨some 22, none, .bin .eql (.t 9) (.c (.int .i64 2))⟩,
  ⟨some 21, none, .mov (.t 22)⟩]
abbrev c26_r8 : List Ins := [
  ⟨some 23, none, .faddr 4 (.t 1)⟩,
  ⟨some 24, none, .load 2 true (.t 23)⟩,
  ⟨some 25, none, .call (.c (.fn 50 [] [])) [.t 24]⟩,
  ⟨some 26, none, .mov (.t 3)⟩,
  ⟨some 27, none, .faddr 1 (.t 1)⟩,
  ⟨some 28, none, .load 1 false (.t 27)⟩,
  ⟨some 29, none, .call (.t 26) [.t 28]⟩,
  ⟨some 30, none, .bsl 1 3 [.str ⟨#[]⟩] [(0, .c (.str ⟨#[112, 117, 116]⟩)), (1, .t 25), (2, .t 29)]⟩,
  ⟨some 31, none, .call (.c (.fn 49 [] [])) [.t 30]⟩,
  ⟨some 2, none, .mov (.t 31)⟩]
def c26_a8 : List (List Nat) := [[], [0], [1], [], [], [4], [3, 5, 2], [2, 6], [7, 6], [8, 8, 0, 1, 2, 3, 4, 5, 6, 7, 8]]
abbrev c26_m8 : List Am.Mark := [⟨false, 0, 1⟩, ⟨false, 0, 1⟩, ⟨false, 0, 0⟩, ⟨false, 0, 0⟩, ⟨false, 0, 1⟩, ⟨false, 0, 0⟩, ⟨true, 0, 1⟩, ⟨false, 1, 1⟩, ⟨false, 1, 1⟩, ⟨false, 1, 1⟩]
theorem c26_d8 : drawFine c26_r8 c26_a8 c26_m8 = true := by decide +kernel
abbrev c26_r9 : List Ins := [
  ⟨some 33, none, .bin .eql (.t 9) (.c (.int .i64 3))⟩,
  ⟨some 32, none, .mov (.t 33)⟩]
abbrev c26_r10 : List Ins := [
  ⟨some 34, none, .faddr 4 (.t 1)⟩,
  ⟨some 35, none, .load 2 true (.t 34)⟩,
  ⟨some 36, none, .call (.c (.fn 50 [] [])) [.t 35]⟩,
  ⟨some 37, none, .bsl 1 2 [.str ⟨#[]⟩] [(0, .c (.str ⟨#[100, 101, 108, 101, 116, 101]⟩)), (1, .t 36)]⟩,
  ⟨some 38, none, .call (.c (.fn 49 [] [])) [.t 37]⟩,
  ⟨some 2, none, .mov (.t 38)⟩]
abbrev c26_r11 : List Ins := [
  ⟨some 40, none, .bin .eql (.t 9) (.c (.int .i64 4))⟩,
  ⟨some 39, none, .mov (.t 40)⟩]
abbrev c26_r12 : List Ins := [
  ⟨some 41, none, .mov (.t 3)⟩,
  ⟨some 42, none, .faddr 1 (.t 1)⟩,
  ⟨some 43, none, .load 1 false (.t 42)⟩,
  ⟨some 44, none, .call (.t 41) [.t 43]⟩,
  ⟨some 45, none, .faddr 4 (.t 1)⟩,
  ⟨some 46, none, .load 2 true (.t 45)⟩,
  ⟨some 47, none, .call (.c (.fn 50 [] [])) [.t 46]⟩,
  ⟨some 48, none, .faddr 6 (.t 1)⟩,
  ⟨some 49, none, .load 2 true (.t 48)⟩,
  ⟨some 50, none, .call (.c (.fn 50 [] [])) [.t 49]⟩,
  ⟨some 51, none, .bsl 1 4 [.str ⟨#[]⟩] [(0, .c (.str ⟨#[115, 99, 97, 110]⟩)), (1, .t 44), (2, .t 47), (3, .t 50)]⟩,
  ⟨some 52, none, .call (.c (.fn 49 [] [])) [.t 51]⟩,
  ⟨some 2, none, .mov (.t 52)⟩]
def c26_a12 : List (List Nat) := [[], [], [1], [0, 2], [], [4], [5, 3], [], [7], [8, 6], [3, 6, 9], [10, 9], [11, 11, 0, 1, 2, 3, 4, 5, 6, 7, 8, 9, 10, 11]]
abbrev c26_m12 : List Am.Mark := [⟨false, 0, 0⟩, ⟨false, 0, 1⟩, ⟨false, 0, 0⟩, ⟨true, 0, 1⟩, ⟨false, 0, 1⟩, ⟨false, 0, 1⟩, ⟨false, 1, 1⟩, ⟨false, 0, 1⟩, ⟨false, 0, 1⟩, ⟨false, 1, 1⟩, ⟨false, 1, 1⟩, ⟨false, 1, 1⟩, ⟨false, 1, 1⟩]
theorem c26_d12 : drawFine c26_r12 c26_a12 c26_m12 = true := by decide +kernel
abbrev c26_r13 : List Ins := [
  ⟨some 54, none, .bin .eql (.t 9) (.c (.int .i64 5))⟩,
  ⟨some 53, none, .mov (.t 54)⟩]
abbrev c26_r14 : List Ins := [
  ⟨some 55, none, .mov (.t 3)⟩,
  ⟨some 56, none, .faddr 1 (.t 1)⟩,
  ⟨some 57, none, .load 1 false (.t 56)⟩,
  ⟨some 58, none, .call (.t 55) [.t 57]⟩,
  ⟨some 59, none, .mov (.t 4)⟩,
  ⟨some 60, none, .bsl 1 3 [.str ⟨#[]⟩] [(0, .c (.str ⟨#[115, 101, 116]⟩)), (1, .t 58), (2, .t 59)]⟩,
  ⟨some 61, none, .call (.c (.fn 49 [] [])) [.t 60]⟩,
  ⟨some 2, none, .mov (.t 61)⟩]
abbrev c26_r15 : List Ins := [
  ⟨some 63, none, .bin .eql (.t 9) (.c (.int .i64 6))⟩,
  ⟨some 62, none, .mov (.t 63)⟩]
abbrev c26_r16 : List Ins := [
  ⟨some 64, none, .mov (.t 3)⟩,
  ⟨some 65, none, .faddr 1 (.t 1)⟩,
  ⟨some 66, none, .load 1 false (.t 65)⟩,
  ⟨some 67, none, .call (.t 64) [.t 66]⟩,
  ⟨some 68, none, .mov (.t 3)⟩,
  ⟨some 69, none, .faddr 2 (.t 1)⟩,
  ⟨some 70, none, .load 1 false (.t 69)⟩,
  ⟨some 71, none, .call (.t 68) [.t 70]⟩,
  ⟨some 72, none, .mov (.t 3)⟩,
  ⟨some 73, none, .faddr 3 (.t 1)⟩,
  ⟨some 74, none, .load 1 false (.t 73)⟩,
  ⟨some 75, none, .call (.t 72) [.t 74]⟩,
  ⟨some 76, none, .bsl 1 4 [.str ⟨#[]⟩] [(0, .c (.str ⟨#[97, 100, 100]⟩)), (1, .t 67), (2, .t 71), (3, .t 75)]⟩,
  ⟨some 77, none, .call (.c (.fn 49 [] [])) [.t 76]⟩,
  ⟨some 2, none, .mov (.t 77)⟩]
def c26_a16 : List (List Nat) := [[], [], [1], [0, 2], [], [], [5], [4, 6, 3], [], [], [9], [8, 10, 7], [3, 7, 11], [12, 11], [13, 13, 0, 1, 2, 3, 4, 5, 6, 7, 8, 9, 10, 11, 12, 13]]
abbrev c26_m16 : List Am.Mark := [⟨false, 0, 0⟩, ⟨false, 0, 3⟩, ⟨false, 0, 0⟩, ⟨true, 0, 1⟩, ⟨false, 0, 1⟩, ⟨false, 0, 3⟩, ⟨false, 0, 1⟩, ⟨true, 1, 2⟩, ⟨false, 0, 2⟩, ⟨false, 0, 3⟩, ⟨false, 0, 2⟩, ⟨true, 2, 3⟩, ⟨false, 3, 3⟩, ⟨false, 3, 3⟩, ⟨false, 3, 3⟩]
theorem c26_d16 : drawFine c26_r16 c26_a16 c26_m16 = true := by decide +kernel
abbrev c26_r17 : List Ins := [
  ⟨some 79, none, .bin .eql (.t 9) (.c (.int .i64 7))⟩,
  ⟨some 78, none, .mov (.t 79)⟩]
abbrev c26_r18 : List Ins := [
  ⟨some 80, none, .mov (.t 3)⟩,
  ⟨some 81, none, .faddr 1 (.t 1)⟩,
  ⟨some 82, none, .load 1 false (.t 81)⟩,
  ⟨some 83, none, .call (.t 80) [.t 82]⟩,
  ⟨some 84, none, .mov (.t 3)⟩,
  ⟨some 85, none, .faddr 2 (.t 1)⟩,
  ⟨some 86, none, .load 1 false (.t 85)⟩,
  ⟨some 87, none, .call (.t 84) [.t 86]⟩,
  ⟨some 88, none, .mov (.t 3)⟩,
  ⟨some 89, none, .faddr 3 (.t 1)⟩,
  ⟨some 90, none, .load 1 false (.t 89)⟩,
  ⟨some 91, none, .call (.t 88) [.t 90]⟩,
  ⟨some 92, none, .bsl 1 4 [.str ⟨#[]⟩] [(0, .c (.str ⟨#[115, 117, 98]⟩)), (1, .t 83), (2, .t 87), (3, .t 91)]⟩,
  ⟨some 93, none, .call (.c (.fn 49 [] [])) [.t 92]⟩,
  ⟨some 2, none, .mov (.t 93)⟩]
def c26_a18 : List (List Nat) := [[], [], [1], [0, 2], [], [], [5], [4, 6, 3], [], [], [9], [8, 10, 7], [3, 7, 11], [12, 11], [13, 13, 0, 1, 2, 3, 4, 5, 6, 7, 8, 9, 10, 11, 12, 13]]
abbrev c26_m18 : List Am.Mark := [⟨false, 0, 0⟩, ⟨false, 0, 3⟩, ⟨false, 0, 0⟩, ⟨true, 0, 1⟩, ⟨false, 0, 1⟩, ⟨false, 0, 3⟩, ⟨false, 0, 1⟩, ⟨true, 1, 2⟩, ⟨false, 0, 2⟩, ⟨false, 0, 3⟩, ⟨false, 0, 2⟩, ⟨true, 2, 3⟩, ⟨false, 3, 3⟩, ⟨false, 3, 3⟩, ⟨false, 3, 3⟩]
theorem c26_d18 : drawFine c26_r18 c26_a18 c26_m18 = true := by decide +kernel
abbrev c26_r19 : List Ins := [
  ⟨some 95, none, .bin .eql (.t 9) (.c (.int .i64 8))⟩,
  ⟨some 94, none, .mov (.t 95)⟩]
abbrev c26_r20 : List Ins := [
  ⟨some 96, none, .mov (.t 3)⟩,
  ⟨some 97, none, .faddr 1 (.t 1)⟩,
  ⟨some 98, none, .load 1 false (.t 97)⟩,
  ⟨some 99, none, .call (.t 96) [.t 98]⟩,
  ⟨some 100, none, .mov (.t 4)⟩,
  ⟨some 101, none, .bsl 1 3 [.str ⟨#[]⟩] [(0, .c (.str ⟨#[103, 117, 97, 114, 100]⟩)), (1, .t 99), (2, .t 100)]⟩,
  ⟨some 102, none, .call (.c (.fn 49 [] [])) [.t 101]⟩,
  ⟨some 2, none, .mov (.t 102)⟩]
abbrev c26_r21 : List Ins := [
  ⟨some 2, none, .mov (.c (.str ⟨#[63]⟩))⟩]
abbrev c26 : IR := .seq (.reg c26_r1) (.seq (.reg c26_r2) (.seq (.reg c26_r3) (.seq (.seq (.reg c26_r4) (.blk 0 (.seq (.reg c26_r5) (.cond (.t 10) (.seq (.dreg c26_r6 c26_a6) (.ret)) (.seq (.reg c26_r7) (.cond (.t 21) (.seq (.dreg c26_r8 c26_a8) (.ret)) (.seq (.reg c26_r9) (.cond (.t 32) (.seq (.reg c26_r10) (.ret)) (.seq (.reg c26_r11) (.cond (.t 39) (.seq (.dreg c26_r12 c26_a12) (.ret)) (.seq (.reg c26_r13) (.cond (.t 53) (.seq (.reg c26_r14) (.ret)) (.seq (.reg c26_r15) (.cond (.t 62) (.seq (.dreg c26_r16 c26_a16) (.ret)) (.seq (.reg c26_r17) (.cond (.t 78) (.seq (.dreg c26_r18 c26_a18) (.ret)) (.seq (.reg c26_r19) (.cond (.t 94) (.seq (.reg c26_r20) (.ret)) (.skip))))))))))))))))))) (.seq (.reg c26_r21) (.ret)))))
abbrev F26 : FnA := ⟨103, c26, [.t 2]⟩
theorem ok26 : cFn Tryd.prog 26 = some F26 := by kernel_rfl
theorem hb26 : HasBody Tryd.prog 26 := ⟨_, Tryd.func26, by kernel_rfl, by kernel_rfl⟩
/-! codes.Reader.Count -/
abbrev c27_r1 : List Ins := [
  ⟨some 3, none, .box (.t 1)⟩,
  ⟨some 4, none, .mov (.c (.int .i64 0))⟩]
abbrev c27_r2 : List Ins := [
  ⟨some 5, none, .mov (.t 0)⟩,
  ⟨some 6, none, .mkfn 52 [] [.t 3]⟩,
  ⟨some 7, none, .call (.c (.fn 51 [] [])) [.t 5, .t 6]⟩,
  ⟨some 8, none, .conv .i64 (.t 7)⟩,
  ⟨some 4, none, .mov (.t 8)⟩]
abbrev c27 : IR := .seq (.reg c27_r1) (.seq (.reg c27_r2) (.ret))
abbrev F27 : FnA := ⟨9, c27, [.t 4]⟩
theorem ok27 : cFn Tryd.prog 27 = some F27 := by kernel_rfl
theorem hb27 : HasBody Tryd.prog 27 := ⟨_, Tryd.func27, by kernel_rfl, by kernel_rfl⟩
/-! prog.getKey -/
abbrev c28_r1 : List Ins := [
  ⟨some 2, none, .alloc [.int .i64 0, .int .i64 0]⟩]
abbrev c28_r2 : List Ins := [
  ⟨some 4, none, .mov (.t 0)⟩,
  ⟨some 5, none, .call (.c (.fn 29 [] [])) [.t 4]⟩,
  ⟨some 3, none, .mov (.t 5)⟩]
abbrev c28_r3 : List Ins := [
  ⟨some 6, none, .mov (.t 3)⟩,
  ⟨some 7, none, .bin .lss (.t 6) (.c (.int .i64 (-1)))⟩,
  ⟨some 8, none, .mov (.t 7)⟩,
  ⟨some 9, some (8, false), .mov (.t 3)⟩,
  ⟨some 10, some (8, false), .bin .gtr (.t 9) (.c (.int .i64 255))⟩,
  ⟨some 11, none, .pick (.t 8) (.c (.bool true)) (.t 10)⟩]
abbrev c28_r4 : List Ins := [
  ⟨some 12, none, .mov (.t 0)⟩,
  ⟨some 13, none, .call (.c (.fn 27 [] [])) [.t 12, .c (.int .i64 (-1))]⟩]
abbrev c28_r5 : List Ins := [
  ⟨some 14, none, .build [.int .i64 0, .int .i64 0] []⟩,
  ⟨none, none, .store 2 (.t 2) (.t 14)⟩]
abbrev c28_r6 : List Ins := [
  ⟨some 15, none, .mov (.t 3)⟩,
  ⟨some 16, none, .mov (.t 0)⟩,
  ⟨some 17, none, .call (.c (.fn 27 [] [])) [.t 16, .c (.int .i64 999)]⟩,
  ⟨some 18, none, .build [.int .i64 0, .int .i64 0] [(0, (1, .t 15)), (1, (1, .t 17))]⟩,
  ⟨none, none, .store 2 (.t 2) (.t 18)⟩]
abbrev c28 : IR := .seq (.reg c28_r1) (.seq (.reg c28_r2) (.seq (.seq (.reg c28_r3) (.cond (.t 11) (.seq (.reg c28_r4) (.seq (.reg c28_r5) (.ret))) (.skip))) (.seq (.reg c28_r6) (.ret))))
abbrev F28 : FnA := ⟨19, c28, [.cell 2 2 true]⟩
theorem ok28 : cFn Tryd.prog 28 = some F28 := by kernel_rfl
theorem hb28 : HasBody Tryd.prog 28 := ⟨_, Tryd.func28, by kernel_rfl, by kernel_rfl⟩
/-! codes.Reader.Signed -/
abbrev c29_r1 : List Ins := [
  ⟨some 2, none, .mov (.c (.int .i64 0))⟩]
abbrev c29_r2 : List Ins := [
  ⟨some 4, none, .mov (.t 0)⟩,
  ⟨some 5, none, .call (.c (.fn 51 [] [])) [.t 4, .c (.fn 53 [] [])]⟩,
  ⟨some 3, none, .mov (.t 5)⟩]
abbrev c29_r3 : List Ins := [
  ⟨some 6, none, .mov (.t 3)⟩,
  ⟨some 7, none, .bin .shr (.t 6) (.c (.int .u64 1))⟩,
  ⟨some 8, none, .conv .i64 (.t 7)⟩,
  ⟨some 9, none, .mov (.t 3)⟩,
  ⟨some 10, none, .bin .and (.t 9) (.c (.int .u64 1))⟩,
  ⟨some 11, none, .conv .i64 (.t 10)⟩,
  ⟨some 12, none, .un .neg (.t 11)⟩,
  ⟨some 13, none, .bin .xor (.t 8) (.t 12)⟩,
  ⟨some 2, none, .mov (.t 13)⟩]
abbrev c29 : IR := .seq (.reg c29_r1) (.seq (.reg c29_r2) (.seq (.reg c29_r3) (.ret)))
abbrev F29 : FnA := ⟨14, c29, [.t 2]⟩
theorem ok29 : cFn Tryd.prog 29 = some F29 := by kernel_rfl
theorem hb29 : HasBody Tryd.prog 29 := ⟨_, Tryd.func29, by kernel_rfl, by kernel_rfl⟩
/-! ref09.Reader.Item -/
abbrev c30_r1 : List Ins := [
  ⟨some 6, none, .alloc [.int .i64 0, .int .i64 0, .int .i64 0, .int .i64 0, .str ⟨#[]⟩, .sl .full []]⟩]
abbrev c30_r2 : List Ins := [
  ⟨some 10, none, .mov (.t 0)⟩,
  ⟨some 11, none, .nilck (.t 10)⟩,
  ⟨some 12, none, .faddr 1 (.t 11)⟩,
  ⟨some 13, none, .load 1 false (.t 12)⟩]
abbrev c30_r3 : List Ins := [
  ⟨some 14, none, .build [.int .i64 0, .int .i64 0, .int .i64 0, .int .i64 0, .str ⟨#[]⟩, .sl .full []] []⟩,
  ⟨none, none, .store 6 (.t 6) (.t 14)⟩]
abbrev c30_r4 : List Ins := [
  ⟨some 16, none, .mov (.t 0)⟩,
  ⟨some 17, none, .nilck (.t 16)⟩,
  ⟨some 18, none, .faddr 0 (.t 17)⟩,
  ⟨some 19, none, .load 1 false (.t 18)⟩,
  ⟨some 20, none, .mov (.t 1)⟩,
  ⟨some 21, none, .mov (.t 2)⟩,
  ⟨some 22, none, .call (.c (.fn 54 [] [])) [.t 19, .t 20, .t 21]⟩,
  ⟨some 15, none, .mov (.t 22)⟩,
  ⟨some 23, none, .ext (.t 15) 0⟩,
  ⟨some 24, none, .ext (.t 15) 1⟩,
  ⟨some 25, none, .ext (.t 15) 2⟩,
  ⟨some 7, none, .alloc [.int .i64 0, .int .i64 0, .int .i64 0, .int .i64 0, .str ⟨#[]⟩, .sl .full []]⟩,
  ⟨none, none, .store 6 (.t 7) (.t 23)⟩,
  ⟨some 8, none, .mov (.t 24)⟩,
  ⟨some 9, none, .mov (.t 25)⟩]
abbrev c30_r5 : List Ins := [
  ⟨some 26, none, .mov (.t 9)⟩,
  ⟨some 27, none, .un .not (.t 26)⟩]
abbrev c30_r6 : List Ins := [
  ⟨some 28, none, .mov (.t 0)⟩,
  ⟨some 29, none, .nilck (.t 28)⟩,
  ⟨some 30, none, .faddr 1 (.t 29)⟩,
  ⟨none, none, .store 1 (.t 30) (.c (.bool true))⟩]
abbrev c30_r7 : List Ins := [
  ⟨some 31, none, .build [.int .i64 0, .int .i64 0, .int .i64 0, .int .i64 0, .str ⟨#[]⟩, .sl .full []] []⟩,
  ⟨none, none, .store 6 (.t 6) (.t 31)⟩]
abbrev c30_r8 : List Ins := [
  ⟨some 32, none, .mov (.t 0)⟩,
  ⟨some 33, none, .mov (.t 8)⟩,
  ⟨some 34, none, .nilck (.t 32)⟩,
  ⟨some 35, none, .faddr 0 (.t 34)⟩,
  ⟨none, none, .store 1 (.t 35) (.t 33)⟩]
abbrev c30_r9 : List Ins := [
  ⟨some 36, none, .load 6 true (.t 7)⟩,
  ⟨none, none, .store 6 (.t 6) (.t 36)⟩]
abbrev c30 : IR := .seq (.reg c30_r1) (.seq (.seq (.reg c30_r2) (.cond (.t 13) (.seq (.reg c30_r3) (.ret)) (.skip))) (.seq (.reg c30_r4) (.seq (.seq (.reg c30_r5) (.cond (.t 27) (.seq (.reg c30_r6) (.seq (.reg c30_r7) (.ret))) (.skip))) (.seq (.reg c30_r8) (.seq (.reg c30_r9) (.ret))))))
abbrev F30 : FnA := ⟨37, c30, [.cell 6 6 true]⟩
theorem ok30 : cFn Tryd.prog 30 = some F30 := by kernel_rfl
theorem hb30 : HasBody Tryd.prog 30 := ⟨_, Tryd.func30, by kernel_rfl, by kernel_rfl⟩
/-! ref09.Reader.key -/
abbrev c31_r1 : List Ins := [
  ⟨some 2, none, .alloc [.int .i64 0, .int .i64 0]⟩]
abbrev c31_r2 : List Ins := [
  ⟨some 5, none, .mov (.t 0)⟩,
  ⟨some 6, none, .call (.c (.fn 30 [] [])) [.t 5, .c (.int .i64 1), .c (.int .i64 0)]⟩,
  ⟨some 7, none, .fld 3 1 false (.t 6)⟩,
  ⟨some 3, none, .mov (.t 7)⟩]
abbrev c31_r3 : List Ins := [
  ⟨some 8, none, .mov (.t 0)⟩,
  ⟨some 9, none, .call (.c (.fn 30 [] [])) [.t 8, .c (.int .i64 0), .c (.int .i64 999)]⟩,
  ⟨some 10, none, .fld 1 1 false (.t 9)⟩,
  ⟨some 4, none, .mov (.t 10)⟩]
abbrev c31_r4 : List Ins := [
  ⟨some 11, none, .mov (.t 3)⟩,
  ⟨some 12, none, .bin .lss (.t 11) (.c (.int .i64 (-1)))⟩,
  ⟨some 13, none, .mov (.t 12)⟩,
  ⟨some 14, some (13, false), .mov (.t 3)⟩,
  ⟨some 15, some (13, false), .bin .gtr (.t 14) (.c (.int .i64 255))⟩,
  ⟨some 16, none, .pick (.t 13) (.c (.bool true)) (.t 15)⟩]
abbrev c31_r5 : List Ins := [
  ⟨some 17, none, .mov (.t 0)⟩,
  ⟨some 18, none, .nilck (.t 17)⟩,
  ⟨some 19, none, .faddr 1 (.t 18)⟩,
  ⟨none, none, .store 1 (.t 19) (.c (.bool true))⟩]
abbrev c31_r6 : List Ins := [
  ⟨some 20, none, .mov (.t 3)⟩,
  ⟨some 21, none, .mov (.t 4)⟩,
  ⟨some 22, none, .build [.int .i64 0, .int .i64 0] [(0, (1, .t 20)), (1, (1, .t 21))]⟩,
  ⟨none, none, .store 2 (.t 2) (.t 22)⟩]
abbrev c31 : IR := .seq (.reg c31_r1) (.seq (.reg c31_r2) (.seq (.reg c31_r3) (.seq (.seq (.reg c31_r4) (.cond (.t 16) (.reg c31_r5) (.skip))) (.seq (.reg c31_r6) (.ret)))))
abbrev F31 : FnA := ⟨23, c31, [.cell 2 2 true]⟩
theorem ok31 : cFn Tryd.prog 31 = some F31 := by kernel_rfl
theorem hb31 : HasBody Tryd.prog 31 := ⟨_, Tryd.func31, by kernel_rfl, by kernel_rfl⟩
/-! slices.ContainsFunc:Instr -/
abbrev c32_r1 : List Ins := [
  ⟨some 4, none, .mov (.c (.bool false))⟩]
abbrev c32_r2 : List Ins := [
  ⟨some 5, none, .mov (.t 0)⟩,
  ⟨some 6, none, .mov (.t 1)⟩,
  ⟨some 7, none, .call (.c (.fn 55 [] [])) [.t 5, .t 6]⟩,
  ⟨some 8, none, .bin .geq (.t 7) (.c (.int .i64 0))⟩,
  ⟨some 4, none, .mov (.t 8)⟩]
abbrev c32 : IR := .seq (.reg c32_r1) (.seq (.reg c32_r2) (.ret))
abbrev F32 : FnA := ⟨9, c32, [.t 4]⟩
theorem ok32 : cFn Tryd.prog 32 = some F32 := by kernel_rfl
theorem hb32 : HasBody Tryd.prog 32 := ⟨_, Tryd.func32, by kernel_rfl, by kernel_rfl⟩
/-! prog.May$1 -/
abbrev c33_r1 : List Ins := [
  ⟨some 2, none, .box (.t 0)⟩,
  ⟨some 3, none, .mov (.c (.bool false))⟩]
abbrev c33_r2 : List Ins := [
  ⟨some 4, none, .load 9 true (.t 2)⟩,
  ⟨some 5, none, .load 1 false (.t 1)⟩,
  ⟨some 6, none, .call (.c (.fn 34 [] [])) [.t 4, .t 5]⟩,
  ⟨some 7, none, .un .not (.t 6)⟩,
  ⟨some 3, none, .mov (.t 7)⟩]
abbrev c33 : IR := .seq (.reg c33_r1) (.seq (.reg c33_r2) (.ret))
abbrev F33 : FnA := ⟨8, c33, [.t 3]⟩
theorem ok33 : cFn Tryd.prog 33 = some F33 := by kernel_rfl
theorem hb33 : HasBody Tryd.prog 33 := ⟨_, Tryd.func33, by kernel_rfl, by kernel_rfl⟩
/-! prog.may -/
abbrev c34_r1 : List Ins := [
  ⟨some 2, none, .box (.t 0)⟩,
  ⟨some 3, none, .box (.t 1)⟩,
  ⟨some 4, none, .mov (.c (.bool false))⟩]
abbrev c34_r2 : List Ins := [
  ⟨some 9, none, .load 9 true (.t 2)⟩,
  ⟨some 10, none, .call (.c (.fn 56 [] [])) [.t 9]⟩,
  ⟨some 8, none, .mov (.t 10)⟩,
  ⟨some 11, none, .ext (.t 8) 0⟩,
  ⟨some 12, none, .ext (.t 8) 1⟩,
  ⟨some 5, none, .alloc [.int .i64 0, .int .i64 0, .int .i64 0, .int .i64 0, .int .i64 0, .int .i64 0, .int .i64 0, .int .i64 0, .int .i64 0]⟩,
  ⟨none, none, .store 9 (.t 5) (.t 11)⟩,
  ⟨some 6, none, .mov (.t 12)⟩]
abbrev c34_r3 : List Ins := [
  ⟨some 13, none, .mkfn 57 [] [.t 3]⟩,
  ⟨some 7, none, .mov (.t 13)⟩]
abbrev c34_r4 : List Ins := [
  ⟨some 14, none, .mov (.t 6)⟩,
  ⟨some 15, none, .mov (.t 14)⟩,
  ⟨some 16, some (15, true), .load 9 true (.t 2)⟩,
  ⟨some 17, some (15, true), .load 9 true (.t 5)⟩,
  ⟨some 18, some (15, true), .eq [.i, .i, .i, .i, .i, .i, .i, .i, .i] true false (.t 16) (.t 17)⟩,
  ⟨some 19, none, .pick (.t 15) (.t 18) (.c (.bool false))⟩,
  ⟨some 20, none, .mov (.t 19)⟩,
  ⟨some 21, some (20, true), .faddr 1 (.t 2)⟩,
  ⟨some 22, some (20, true), .load 1 false (.t 21)⟩,
  ⟨some 23, some (20, true), .call (.c (.fn 58 [] [])) [.t 22]⟩,
  ⟨some 24, none, .pick (.t 20) (.t 23) (.c (.bool false))⟩,
  ⟨some 25, none, .mov (.t 24)⟩,
  ⟨some 26, some (25, true), .faddr 2 (.t 2)⟩,
  ⟨some 27, some (25, true), .load 1 false (.t 26)⟩,
  ⟨some 28, some (25, true), .call (.c (.fn 58 [] [])) [.t 27]⟩,
  ⟨some 29, none, .pick (.t 25) (.t 28) (.c (.bool false))⟩,
  ⟨some 30, none, .mov (.t 29)⟩,
  ⟨some 31, some (30, true), .faddr 3 (.t 2)⟩,
  ⟨some 32, some (30, true), .load 1 false (.t 31)⟩,
  ⟨some 33, some (30, true), .call (.c (.fn 58 [] [])) [.t 32]⟩,
  ⟨some 34, none, .pick (.t 30) (.t 33) (.c (.bool false))⟩,
  ⟨some 35, none, .mov (.t 34)⟩,
  ⟨some 36, some (35, true), .load 9 true (.t 2)⟩,
  ⟨some 37, some (35, true), .call (.c (.fn 60 [] [])) [.t 36]⟩,
  ⟨some 38, some (35, true), .mov (.t 7)⟩,
  ⟨some 39, some (35, true), .call (.c (.fn 59 [] [])) [.t 37, .t 38]⟩,
  ⟨some 40, some (35, true), .un .not (.t 39)⟩,
  ⟨some 41, none, .pick (.t 35) (.t 40) (.c (.bool false))⟩,
  ⟨some 4, none, .mov (.t 41)⟩]
abbrev c34 : IR := .seq (.reg c34_r1) (.seq (.reg c34_r2) (.seq (.reg c34_r3) (.seq (.reg c34_r4) (.ret))))
abbrev F34 : FnA := ⟨42, c34, [.t 4]⟩
theorem ok34 : cFn Tryd.prog 34 = some F34 := by kernel_rfl
theorem hb34 : HasBody Tryd.prog 34 := ⟨_, Tryd.func34, by kernel_rfl, by kernel_rfl⟩
/-! prog.Sure$1 -/
abbrev c35_r1 : List Ins := [
  ⟨some 1, none, .box (.t 0)⟩,
  ⟨some 2, none, .mov (.c (.bool false))⟩]
abbrev c35_r2 : List Ins := [
  ⟨some 3, none, .faddr 0 (.t 1)⟩,
  ⟨some 4, none, .load 1 false (.t 3)⟩,
  ⟨some 5, none, .bin .eql (.t 4) (.c (.int .i64 6))⟩,
  ⟨some 6, none, .mov (.t 5)⟩,
  ⟨some 7, some (6, false), .faddr 0 (.t 1)⟩,
  ⟨some 8, some (6, false), .load 1 false (.t 7)⟩,
  ⟨some 9, some (6, false), .bin .eql (.t 8) (.c (.int .i64 7))⟩,
  ⟨some 10, none, .pick (.t 6) (.c (.bool true)) (.t 9)⟩,
  ⟨some 11, none, .mov (.t 10)⟩,
  ⟨some 12, some (11, false), .faddr 0 (.t 1)⟩,
  ⟨some 13, some (11, false), .load 1 false (.t 12)⟩,
  ⟨some 14, some (11, false), .bin .eql (.t 13) (.c (.int .i64 8))⟩,
  ⟨some 15, none, .pick (.t 11) (.c (.bool true)) (.t 14)⟩,
  ⟨some 2, none, .mov (.t 15)⟩]
abbrev c35 : IR := .seq (.reg c35_r1) (.seq (.reg c35_r2) (.ret))
abbrev F35 : FnA := ⟨16, c35, [.t 2]⟩
theorem ok35 : cFn Tryd.prog 35 = some F35 := by kernel_rfl
theorem hb35 : HasBody Tryd.prog 35 := ⟨_, Tryd.func35, by kernel_rfl, by kernel_rfl⟩
/-! prog.mayKey -/
abbrev c37_r1 : List Ins := [
  ⟨some 2, none, .box (.t 0)⟩,
  ⟨some 4, none, .mov (.c (.bool false))⟩]
abbrev c37_r2 : List Ins := [
  ⟨some 5, none, .faddr 0 (.t 2)⟩,
  ⟨some 6, none, .load 1 false (.t 5)⟩,
  ⟨some 7, none, .bin .geq (.t 6) (.c (.int .i64 (-1)))⟩,
  ⟨some 8, none, .mov (.t 7)⟩,
  ⟨some 9, some (8, true), .faddr 0 (.t 2)⟩,
  ⟨some 10, some (8, true), .load 1 false (.t 9)⟩,
  ⟨some 11, some (8, true), .mov (.t 1)⟩,
  ⟨some 12, some (8, true), .bin .lss (.t 10) (.t 11)⟩,
  ⟨some 13, none, .pick (.t 8) (.t 12) (.c (.bool false))⟩,
  ⟨some 14, none, .mov (.t 13)⟩,
  ⟨some 15, some (14, true), .faddr 1 (.t 2)⟩,
  ⟨some 16, some (14, true), .load 1 false (.t 15)⟩,
  ⟨some 17, some (14, true), .bin .geq (.t 16) (.c (.int .i64 0))⟩,
  ⟨some 18, none, .pick (.t 14) (.t 17) (.c (.bool false))⟩,
  ⟨some 19, none, .mov (.t 18)⟩,
  ⟨some 20, some (19, true), .faddr 1 (.t 2)⟩,
  ⟨some 21, some (19, true), .load 1 false (.t 20)⟩,
  ⟨some 22, some (19, true), .bin .leq (.t 21) (.c (.int .i64 900))⟩,
  ⟨some 23, none, .pick (.t 19) (.t 22) (.c (.bool false))⟩,
  ⟨some 4, none, .mov (.t 23)⟩]
abbrev c37 : IR := .seq (.reg c37_r1) (.seq (.reg c37_r2) (.ret))
abbrev F37 : FnA := ⟨24, c37, [.t 4]⟩
theorem ok37 : cFn Tryd.prog 37 = some F37 := by kernel_rfl
theorem hb37 : HasBody Tryd.prog 37 := ⟨_, Tryd.func37, by kernel_rfl, by kernel_rfl⟩
/-! ref09.One -/
abbrev c39_r1 : List Ins := [
  ⟨some 2, none, .box (.t 0)⟩,
  ⟨some 4, none, .mov (.c (.bool false))⟩]
abbrev c39_r2 : List Ins := [
  ⟨some 11, none, .faddr 0 (.t 2)⟩,
  ⟨some 12, none, .load 1 false (.t 11)⟩,
  ⟨some 13, none, .bin .lss (.t 12) (.c (.int .i64 1))⟩,
  ⟨some 14, none, .mov (.t 13)⟩,
  ⟨some 15, some (14, false), .faddr 0 (.t 2)⟩,
  ⟨some 16, some (14, false), .load 1 false (.t 15)⟩,
  ⟨some 17, some (14, false), .bin .gtr (.t 16) (.c (.int .i64 8))⟩,
  ⟨some 18, none, .pick (.t 14) (.c (.bool true)) (.t 17)⟩,
  ⟨some 19, none, .mov (.t 18)⟩,
  ⟨some 20, some (19, false), .faddr 1 (.t 2)⟩,
  ⟨some 21, some (19, false), .load 1 false (.t 20)⟩,
  ⟨some 22, some (19, false), .bin .lss (.t 21) (.c (.int .i64 0))⟩,
  ⟨some 23, none, .pick (.t 19) (.c (.bool true)) (.t 22)⟩,
  ⟨some 24, none, .mov (.t 23)⟩,
  ⟨some 25, some (24, false), .faddr 1 (.t 2)⟩,
  ⟨some 26, some (24, false), .load 1 false (.t 25)⟩,
  ⟨some 27, some (24, false), .bin .gtr (.t 26) (.c (.int .i64 3))⟩,
  ⟨some 28, none, .pick (.t 24) (.c (.bool true)) (.t 27)⟩]
abbrev c39_r3 : List Ins := [
  ⟨some 4, none, .mov (.c (.bool false))⟩]
abbrev c39_r4 : List Ins := [
  ⟨some 5, none, .alloc [.int .i64 0, .int .i64 0]⟩]
abbrev c39_r5 : List Ins := [
  ⟨some 29, none, .faddr 0 (.t 2)⟩,
  ⟨some 30, none, .load 1 false (.t 29)⟩,
  ⟨some 31, none, .bin .neq (.t 30) (.c (.int .i64 3))⟩,
  ⟨some 6, none, .mov (.t 31)⟩]
abbrev c39_r6 : List Ins := [
  ⟨some 32, none, .faddr 0 (.t 2)⟩,
  ⟨some 33, none, .load 1 false (.t 32)⟩,
  ⟨some 34, none, .bin .leq (.t 33) (.c (.int .i64 4))⟩,
  ⟨some 7, none, .mov (.t 34)⟩]
abbrev c39_r7 : List Ins := [
  ⟨some 35, none, .faddr 0 (.t 2)⟩,
  ⟨some 36, none, .load 1 false (.t 35)⟩,
  ⟨some 37, none, .bin .eql (.t 36) (.c (.int .i64 4))⟩,
  ⟨some 8, none, .mov (.t 37)⟩]
abbrev c39_r8 : List Ins := [
  ⟨some 38, none, .faddr 0 (.t 2)⟩,
  ⟨some 39, none, .load 1 false (.t 38)⟩,
  ⟨some 40, none, .bin .eql (.t 39) (.c (.int .i64 6))⟩,
  ⟨some 41, none, .mov (.t 40)⟩,
  ⟨some 42, some (41, false), .faddr 0 (.t 2)⟩,
  ⟨some 43, some (41, false), .load 1 false (.t 42)⟩,
  ⟨some 44, some (41, false), .bin .eql (.t 43) (.c (.int .i64 7))⟩,
  ⟨some 45, none, .pick (.t 41) (.c (.bool true)) (.t 44)⟩,
  ⟨some 9, none, .mov (.t 45)⟩]
abbrev c39_r9 : List Ins := [
  ⟨some 46, none, .faddr 0 (.t 2)⟩,
  ⟨some 47, none, .load 1 false (.t 46)⟩,
  ⟨some 48, none, .bin .eql (.t 47) (.c (.int .i64 5))⟩,
  ⟨some 49, none, .mov (.t 48)⟩,
  ⟨some 50, some (49, false), .faddr 0 (.t 2)⟩,
  ⟨some 51, some (49, false), .load 1 false (.t 50)⟩,
  ⟨some 52, some (49, false), .bin .eql (.t 51) (.c (.int .i64 8))⟩,
  ⟨some 53, none, .pick (.t 49) (.c (.bool true)) (.t 52)⟩,
  ⟨some 10, none, .mov (.t 53)⟩]
abbrev c39_r10 : List Ins := [
  ⟨some 54, none, .mov (.t 6)⟩,
  ⟨some 55, none, .un .not (.t 54)⟩,
  ⟨some 56, none, .mov (.t 55)⟩,
  ⟨some 57, some (56, true), .faddr 1 (.t 2)⟩,
  ⟨some 58, some (56, true), .load 1 false (.t 57)⟩,
  ⟨some 59, some (56, true), .bin .neq (.t 58) (.c (.int .i64 0))⟩,
  ⟨some 60, none, .pick (.t 56) (.t 59) (.c (.bool false))⟩,
  ⟨some 61, none, .mov (.t 60)⟩,
  ⟨some 62, some (61, false), .mov (.t 10)⟩,
  ⟨some 63, some (61, false), .un .not (.t 62)⟩,
  ⟨some 64, some (61, false), .mov (.t 63)⟩,
  ⟨some 65, some (64, true), .faddr 8 (.t 2)⟩,
  ⟨some 66, some (64, true), .load 1 false (.t 65)⟩,
  ⟨some 67, some (64, true), .bin .neq (.t 66) (.c (.int .i64 0))⟩,
  ⟨some 68, some (61, false), .pick (.t 64) (.t 67) (.c (.bool false))⟩,
  ⟨some 69, none, .pick (.t 61) (.c (.bool true)) (.t 68)⟩,
  ⟨some 70, none, .mov (.t 69)⟩,
  ⟨some 71, some (70, false), .mov (.t 9)⟩,
  ⟨some 72, some (70, false), .un .not (.t 71)⟩,
  ⟨some 73, some (70, false), .mov (.t 72)⟩,
  ⟨some 74, some (73, true), .faddr 2 (.t 2)⟩,
  ⟨some 75, some (73, true), .load 1 false (.t 74)⟩,
  ⟨some 76, some (73, true), .bin .neq (.t 75) (.c (.int .i64 0))⟩,
  ⟨some 77, some (73, true), .mov (.t 76)⟩,
  ⟨some 78, some (77, false), .faddr 3 (.t 2)⟩,
  ⟨some 79, some (77, false), .load 1 false (.t 78)⟩,
  ⟨some 80, some (77, false), .bin .neq (.t 79) (.c (.int .i64 0))⟩,
  ⟨some 81, some (73, true), .pick (.t 77) (.c (.bool true)) (.t 80)⟩,
  ⟨some 82, some (70, false), .pick (.t 73) (.t 81) (.c (.bool false))⟩,
  ⟨some 83, none, .pick (.t 70) (.c (.bool true)) (.t 82)⟩,
  ⟨some 84, none, .mov (.t 83)⟩,
  ⟨some 85, some (84, false), .mov (.t 7)⟩,
  ⟨some 86, some (84, false), .un .not (.t 85)⟩,
  ⟨some 87, some (84, false), .mov (.t 86)⟩,
  ⟨some 88, some (87, true), .faddr 4 (.t 2)⟩,
  ⟨some 89, some (87, true), .load 2 true (.t 88)⟩,
  ⟨some 90, some (87, true), .load 2 true (.t 5)⟩,
  ⟨some 91, some (87, true), .eq [.i, .i] true true (.t 89) (.t 90)⟩,
  ⟨some 92, some (84, false), .pick (.t 87) (.t 91) (.c (.bool false))⟩,
  ⟨some 93, none, .pick (.t 84) (.c (.bool true)) (.t 92)⟩,
  ⟨some 94, none, .mov (.t 93)⟩,
  ⟨some 95, some (94, false), .mov (.t 8)⟩,
  ⟨some 96, some (94, false), .un .not (.t 95)⟩,
  ⟨some 97, some (94, false), .mov (.t 96)⟩,
  ⟨some 98, some (97, true), .faddr 6 (.t 2)⟩,
  ⟨some 99, some (97, true), .load 2 true (.t 98)⟩,
  ⟨some 100, some (97, true), .load 2 true (.t 5)⟩,
  ⟨some 101, some (97, true), .eq [.i, .i] true true (.t 99) (.t 100)⟩,
  ⟨some 102, some (94, false), .pick (.t 97) (.t 101) (.c (.bool false))⟩,
  ⟨some 103, none, .pick (.t 94) (.c (.bool true)) (.t 102)⟩]
abbrev c39_r11 : List Ins := [
  ⟨some 4, none, .mov (.c (.bool false))⟩]
abbrev c39_r12 : List Ins := [
  ⟨some 104, none, .mov (.t 9)⟩,
  ⟨some 105, none, .mov (.t 104)⟩,
  ⟨some 106, some (105, true), .faddr 2 (.t 2)⟩,
  ⟨some 107, some (105, true), .load 1 false (.t 106)⟩,
  ⟨some 108, some (105, true), .bin .lss (.t 107) (.c (.int .i64 0))⟩,
  ⟨some 109, some (105, true), .mov (.t 108)⟩,
  ⟨some 110, some (109, false), .faddr 2 (.t 2)⟩,
  ⟨some 111, some (109, false), .load 1 false (.t 110)⟩,
  ⟨some 112, some (109, false), .bin .gtr (.t 111) (.c (.int .i64 3))⟩,
  ⟨some 113, some (105, true), .pick (.t 109) (.c (.bool true)) (.t 112)⟩,
  ⟨some 114, some (105, true), .mov (.t 113)⟩,
  ⟨some 115, some (114, false), .faddr 3 (.t 2)⟩,
  ⟨some 116, some (114, false), .load 1 false (.t 115)⟩,
  ⟨some 117, some (114, false), .bin .lss (.t 116) (.c (.int .i64 0))⟩,
  ⟨some 118, some (105, true), .pick (.t 114) (.c (.bool true)) (.t 117)⟩,
  ⟨some 119, some (105, true), .mov (.t 118)⟩,
  ⟨some 120, some (119, false), .faddr 3 (.t 2)⟩,
  ⟨some 121, some (119, false), .load 1 false (.t 120)⟩,
  ⟨some 122, some (119, false), .bin .gtr (.t 121) (.c (.int .i64 3))⟩,
  ⟨some 123, some (105, true), .pick (.t 119) (.c (.bool true)) (.t 122)⟩,
  ⟨some 124, none, .pick (.t 105) (.t 123) (.c (.bool false))⟩]
abbrev c39_r13 : List Ins := [
  ⟨some 4, none, .mov (.c (.bool false))⟩]
abbrev c39_r14 : List Ins := [
  ⟨some 125, none, .mov (.t 7)⟩,
  ⟨some 126, none, .un .not (.t 125)⟩,
  ⟨some 127, none, .mov (.t 126)⟩,
  ⟨some 128, some (127, false), .faddr 4 (.t 2)⟩,
  ⟨some 129, some (127, false), .load 2 true (.t 128)⟩,
  ⟨some 130, some (127, false), .mov (.t 1)⟩,
  ⟨some 131, some (127, false), .call (.c (.fn 18 [] [])) [.t 129, .t 130]⟩,
  ⟨some 132, none, .pick (.t 127) (.c (.bool true)) (.t 131)⟩,
  ⟨some 133, none, .mov (.t 132)⟩,
  ⟨some 134, some (133, true), .mov (.t 8)⟩,
  ⟨some 135, some (133, true), .un .not (.t 134)⟩,
  ⟨some 136, some (133, true), .mov (.t 135)⟩,
  ⟨some 137, some (136, false), .faddr 6 (.t 2)⟩,
  ⟨some 138, some (136, false), .load 2 true (.t 137)⟩,
  ⟨some 139, some (136, false), .mov (.t 1)⟩,
  ⟨some 140, some (136, false), .call (.c (.fn 18 [] [])) [.t 138, .t 139]⟩,
  ⟨some 141, some (133, true), .pick (.t 136) (.c (.bool true)) (.t 140)⟩,
  ⟨some 142, none, .pick (.t 133) (.t 141) (.c (.bool false))⟩,
  ⟨some 4, none, .mov (.t 142)⟩]
abbrev c39 : IR := .seq (.reg c39_r1) (.seq (.seq (.reg c39_r2) (.cond (.t 28) (.seq (.reg c39_r3) (.ret)) (.skip))) (.seq (.reg c39_r4) (.seq (.reg c39_r5) (.seq (.reg c39_r6) (.seq (.reg c39_r7) (.seq (.reg c39_r8) (.seq (.reg c39_r9) (.seq (.seq (.reg c39_r10) (.cond (.t 103) (.seq (.reg c39_r11) (.ret)) (.skip))) (.seq (.seq (.reg c39_r12) (.cond (.t 124) (.seq (.reg c39_r13) (.ret)) (.skip))) (.seq (.reg c39_r14) (.ret)))))))))))
abbrev F39 : FnA := ⟨143, c39, [.t 4]⟩
theorem ok39 : cFn Tryd.prog 39 = some F39 := by kernel_rfl
theorem hb39 : HasBody Tryd.prog 39 := ⟨_, Tryd.func39, by kernel_rfl, by kernel_rfl⟩
/-! codes.Writer.Count -/
abbrev c40_r1 : List Ins := [
  ⟨some 4, none, .mov (.t 0)⟩,
  ⟨some 5, none, .mov (.t 1)⟩,
  ⟨some 6, none, .mx [.t 5, .c (.int .i64 0)]⟩,
  ⟨some 7, none, .conv .u64 (.t 6)⟩,
  ⟨some 8, none, .bsl 1 1 [.int .u64 0] [(0, .t 7)]⟩,
  ⟨some 9, none, .call (.c (.fn 62 [] [])) [.t 4, .t 8]⟩]
abbrev c40 : IR := .reg c40_r1
abbrev F40 : FnA := ⟨10, c40, []⟩
theorem ok40 : cFn Tryd.prog 40 = some F40 := by kernel_rfl
theorem hb40 : HasBody Tryd.prog 40 := ⟨_, Tryd.func40, by kernel_rfl, by kernel_rfl⟩
/-! prog.counts -/
abbrev c41_r1 : List Ins := [
  ⟨some 6, none, .mov (.t 1)⟩,
  ⟨some 7, none, .len (.t 6)⟩,
  ⟨some 8, none, .mov (.c (.int .i64 0))⟩]
abbrev c41_r2 : List Ins := [
  ⟨some 9, none, .bin .lss (.t 8) (.t 7)⟩]
abbrev c41_r3 : List Ins := [
  ⟨some 10, none, .iaddr 1 (.t 6) (.t 8)⟩,
  ⟨some 11, none, .load 1 false (.t 10)⟩,
  ⟨some 5, none, .mov (.t 11)⟩]
abbrev c41_r4 : List Ins := [
  ⟨some 12, none, .mov (.t 0)⟩,
  ⟨some 13, none, .mov (.t 5)⟩,
  ⟨some 14, none, .call (.c (.fn 40 [] [])) [.t 12, .t 13]⟩]
abbrev c41_r5 : List Ins := [
  ⟨some 15, none, .bin .add (.t 8) (.c (.int .i64 1))⟩,
  ⟨some 8, none, .mov (.t 15)⟩]
abbrev c41_l6 : IR := .seq (.reg c41_r2) (.seq (.cond (.t 9) (.skip) (.exit 0)) (.seq (.blk 1 (.seq (.reg c41_r3) (.reg c41_r4))) (.reg c41_r5)))
abbrev c41 : IR := .seq (.reg c41_r1) (.blk 0 (.loop c41_l6))
abbrev F41 : FnA := ⟨16, c41, []⟩
theorem ok41 : cFn Tryd.prog 41 = some F41 := by kernel_rfl
theorem hb41 : HasBody Tryd.prog 41 := ⟨_, Tryd.func41, by kernel_rfl, by kernel_rfl⟩
/-! codes.Writer.Signed -/
abbrev c42_r1 : List Ins := [
  ⟨some 4, none, .mov (.t 0)⟩,
  ⟨some 5, none, .mov (.t 1)⟩,
  ⟨some 6, none, .bin .shl (.t 5) (.c (.int .u64 1))⟩,
  ⟨some 7, none, .conv .u64 (.t 6)⟩,
  ⟨some 8, none, .mov (.t 1)⟩,
  ⟨some 9, none, .bin .shr (.t 8) (.c (.int .u64 63))⟩,
  ⟨some 10, none, .conv .u64 (.t 9)⟩,
  ⟨some 11, none, .bin .xor (.t 7) (.t 10)⟩,
  ⟨some 12, none, .bsl 1 1 [.int .u64 0] [(0, .t 11)]⟩,
  ⟨some 13, none, .call (.c (.fn 62 [] [])) [.t 4, .t 12]⟩]
abbrev c42 : IR := .reg c42_r1
abbrev F42 : FnA := ⟨14, c42, []⟩
theorem ok42 : cFn Tryd.prog 42 = some F42 := by kernel_rfl
theorem hb42 : HasBody Tryd.prog 42 := ⟨_, Tryd.func42, by kernel_rfl, by kernel_rfl⟩
/-! slices.Clone:uint64 -/
abbrev c43_r1 : List Ins := [
  ⟨some 2, none, .mov (.c (.sl .full []))⟩]
abbrev c43_r2 : List Ins := [
  ⟨some 3, none, .mov (.t 0)⟩,
  ⟨some 4, none, .isnil false (.t 3)⟩]
abbrev c43_r3 : List Ins := [
  ⟨some 2, none, .mov (.c (.sl .full []))⟩]
abbrev c43_r4 : List Ins := [
  ⟨some 5, none, .bsl 1 0 [.int .u64 0] []⟩,
  ⟨some 6, none, .mov (.t 0)⟩,
  ⟨some 7, none, .append 1 8 (.t 5) (.t 6)⟩,
  ⟨some 2, none, .mov (.t 7)⟩]
abbrev c43 : IR := .seq (.reg c43_r1) (.seq (.seq (.reg c43_r2) (.cond (.t 4) (.seq (.reg c43_r3) (.ret)) (.skip))) (.seq (.reg c43_r4) (.ret)))
abbrev F43 : FnA := ⟨8, c43, [.t 2]⟩
theorem ok43 : cFn Tryd.prog 43 = some F43 := by kernel_rfl
theorem hb43 : HasBody Tryd.prog 43 := ⟨_, Tryd.func43, by kernel_rfl, by kernel_rfl⟩
/-! ref01.Write -/
abbrev c44_r1 : List Ins := [
  ⟨some 3, none, .box (.t 1)⟩,
  ⟨some 4, none, .mov (.c (.sl .full []))⟩]
abbrev c44_r2 : List Ins := [
  ⟨some 6, none, .faddr 0 (.t 3)⟩,
  ⟨some 7, none, .load 1 false (.t 6)⟩]
abbrev c44_r3 : List Ins := [
  ⟨some 9, none, .bin .eql (.t 7) (.c (.int .i64 0))⟩,
  ⟨some 8, none, .mov (.t 9)⟩]
abbrev c44_r4 : List Ins := [
  ⟨some 10, none, .faddr 1 (.t 3)⟩,
  ⟨some 11, none, .load 1 false (.t 10)⟩,
  ⟨some 12, none, .bin .lss (.t 11) (.c (.int .i64 0))⟩]
abbrev c44_r5 : List Ins := [
  ⟨some 13, none, .mov (.t 0)⟩,
  ⟨some 14, none, .bsl 1 1 [.int .u64 0] [(0, .c (.int .u64 0))]⟩,
  ⟨some 15, none, .append 1 8 (.t 13) (.t 14)⟩,
  ⟨some 4, none, .mov (.t 15)⟩]
abbrev c44_r6 : List Ins := [
  ⟨some 16, none, .mov (.t 0)⟩,
  ⟨some 17, none, .faddr 1 (.t 3)⟩,
  ⟨some 18, none, .load 1 false (.t 17)⟩,
  ⟨some 19, none, .conv .u64 (.t 18)⟩,
  ⟨some 20, none, .bsl 1 1 [.int .u64 0] [(0, .t 19)]⟩,
  ⟨some 21, none, .append 1 8 (.t 16) (.t 20)⟩,
  ⟨some 4, none, .mov (.t 21)⟩]
abbrev c44_r7 : List Ins := [
  ⟨some 23, none, .bin .eql (.t 7) (.c (.int .i64 1))⟩,
  ⟨some 22, none, .mov (.t 23)⟩]
abbrev c44_r8 : List Ins := [
  ⟨some 24, none, .mov (.t 0)⟩,
  ⟨some 25, none, .faddr 3 (.t 3)⟩,
  ⟨some 26, none, .load 1 false (.t 25)⟩,
  ⟨some 27, none, .call (.c (.fn 63 [] [])) [.t 26]⟩,
  ⟨some 28, none, .bsl 1 1 [.int .u64 0] [(0, .t 27)]⟩,
  ⟨some 29, none, .append 1 8 (.t 24) (.t 28)⟩,
  ⟨some 4, none, .mov (.t 29)⟩]
abbrev c44_r9 : List Ins := [
  ⟨some 31, none, .bin .eql (.t 7) (.c (.int .i64 2))⟩,
  ⟨some 30, none, .mov (.t 31)⟩]
abbrev c44_r10 : List Ins := [
  ⟨some 32, none, .faddr 1 (.t 3)⟩,
  ⟨some 33, none, .load 1 false (.t 32)⟩,
  ⟨some 34, none, .bin .eql (.t 33) (.c (.int .i64 1))⟩]
abbrev c44_r11 : List Ins := [
  ⟨some 35, none, .mov (.t 0)⟩,
  ⟨some 36, none, .bsl 1 1 [.int .u64 0] [(0, .c (.int .u64 1))]⟩,
  ⟨some 37, none, .append 1 8 (.t 35) (.t 36)⟩,
  ⟨some 4, none, .mov (.t 37)⟩]
abbrev c44_r12 : List Ins := [
  ⟨some 38, none, .mov (.t 0)⟩,
  ⟨some 39, none, .bsl 1 1 [.int .u64 0] [(0, .c (.int .u64 0))]⟩,
  ⟨some 40, none, .append 1 8 (.t 38) (.t 39)⟩,
  ⟨some 4, none, .mov (.t 40)⟩]
abbrev c44_r13 : List Ins := [
  ⟨some 42, none, .bin .eql (.t 7) (.c (.int .i64 3))⟩,
  ⟨some 41, none, .mov (.t 42)⟩]
abbrev c44_r14 : List Ins := [
  ⟨some 43, none, .faddr 4 (.t 3)⟩,
  ⟨some 44, none, .load 1 false (.t 43)⟩,
  ⟨some 5, none, .mov (.t 44)⟩]
abbrev c44_r15 : List Ins := [
  ⟨some 45, none, .mov (.t 5)⟩,
  ⟨some 46, none, .lenS (.t 45)⟩,
  ⟨some 47, none, .bin .gtr (.t 46) (.c (.int .i64 64))⟩]
abbrev c44_r16 : List Ins := [
  ⟨some 48, none, .mov (.t 5)⟩,
  ⟨some 49, none, .sliceS (.t 48) none (some (.c (.int .i64 64)))⟩,
  ⟨some 5, none, .mov (.t 49)⟩]
abbrev c44_r17 : List Ins := [
  ⟨some 50, none, .mov (.t 0)⟩,
  ⟨some 51, none, .mov (.t 5)⟩,
  ⟨some 52, none, .lenS (.t 51)⟩,
  ⟨some 53, none, .conv .u64 (.t 52)⟩,
  ⟨some 54, none, .bsl 1 1 [.int .u64 0] [(0, .t 53)]⟩,
  ⟨some 55, none, .append 1 8 (.t 50) (.t 54)⟩,
  ⟨some 56, none, .mov (.t 5)⟩,
  ⟨some 57, none, .call (.c (.fn 64 [] [])) [.t 56]⟩,
  ⟨some 58, none, .append 1 8 (.t 55) (.t 57)⟩,
  ⟨some 4, none, .mov (.t 58)⟩]
abbrev c44_r18 : List Ins := [
  ⟨some 59, none, .mov (.t 0)⟩,
  ⟨some 60, none, .faddr 5 (.t 3)⟩,
  ⟨some 61, none, .load 1 false (.t 60)⟩,
  ⟨some 62, none, .len (.t 61)⟩,
  ⟨some 63, none, .conv .u64 (.t 62)⟩,
  ⟨some 64, none, .bsl 1 1 [.int .u64 0] [(0, .t 63)]⟩,
  ⟨some 65, none, .append 1 8 (.t 59) (.t 64)⟩,
  ⟨some 66, none, .faddr 5 (.t 3)⟩,
  ⟨some 67, none, .load 1 false (.t 66)⟩,
  ⟨some 68, none, .append 1 8 (.t 65) (.t 67)⟩,
  ⟨some 4, none, .mov (.t 68)⟩]
def c44_a18 : List (List Nat) := [[], [], [1], [2], [3], [4], [0, 5], [], [7], [6, 8, 6], [9, 9, 0, 1, 2, 3, 4, 5, 6, 7, 8, 9]]
abbrev c44_m18 : List Am.Mark := [⟨false, 0, 0⟩, ⟨false, 0, 2⟩, ⟨false, 0, 2⟩, ⟨false, 0, 2⟩, ⟨false, 0, 2⟩, ⟨false, 0, 0⟩, ⟨true, 0, 1⟩, ⟨false, 0, 2⟩, ⟨false, 0, 1⟩, ⟨true, 1, 2⟩, ⟨false, 2, 2⟩]
theorem c44_d18 : drawFine c44_r18 c44_a18 c44_m18 = true := by decide +kernel
abbrev c44 : IR := .seq (.reg c44_r1) (.seq (.seq (.reg c44_r2) (.blk 0 (.seq (.reg c44_r3) (.cond (.t 8) (.seq (.seq (.reg c44_r4) (.cond (.t 12) (.seq (.reg c44_r5) (.ret)) (.skip))) (.seq (.reg c44_r6) (.ret))) (.seq (.reg c44_r7) (.cond (.t 22) (.seq (.reg c44_r8) (.ret)) (.seq (.reg c44_r9) (.cond (.t 30) (.seq (.seq (.reg c44_r10) (.cond (.t 34) (.seq (.reg c44_r11) (.ret)) (.skip))) (.seq (.reg c44_r12) (.ret))) (.seq (.reg c44_r13) (.cond (.t 41) (.seq (.reg c44_r14) (.seq (.seq (.reg c44_r15) (.cond (.t 47) (.reg c44_r16) (.skip))) (.seq (.reg c44_r17) (.ret)))) (.skip))))))))))) (.seq (.dreg c44_r18 c44_a18) (.ret)))
abbrev F44 : FnA := ⟨69, c44, [.t 4]⟩
theorem ok44 : cFn Tryd.prog 44 = some F44 := by kernel_rfl
theorem hb44 : HasBody Tryd.prog 44 := ⟨_, Tryd.func44, by kernel_rfl, by kernel_rfl⟩
/-! ref09.keyItems -/
abbrev c45_r1 : List Ins := [
  ⟨some 1, none, .box (.t 0)⟩,
  ⟨some 2, none, .mov (.c (.sl .full []))⟩]
abbrev c45_r2 : List Ins := [
  ⟨some 3, none, .faddr 0 (.t 1)⟩,
  ⟨some 4, none, .load 1 false (.t 3)⟩,
  ⟨some 5, none, .build [.int .i64 0, .int .i64 0, .int .i64 0, .int .i64 0, .str ⟨#[]⟩, .sl .full []] [(0, (1, .c (.int .i64 1))), (3, (1, .t 4))]⟩,
  ⟨some 6, none, .faddr 1 (.t 1)⟩,
  ⟨some 7, none, .load 1 false (.t 6)⟩,
  ⟨some 8, none, .build [.int .i64 0, .int .i64 0, .int .i64 0, .int .i64 0, .str ⟨#[]⟩, .sl .full []] [(1, (1, .t 7)), (2, (1, .c (.int .i64 999)))]⟩,
  ⟨some 9, none, .bsl 6 2 [.int .i64 0, .int .i64 0, .int .i64 0, .int .i64 0, .str ⟨#[]⟩, .sl .full []] [(0, .t 5), (1, .t 8)]⟩,
  ⟨some 2, none, .mov (.t 9)⟩]
abbrev c45 : IR := .seq (.reg c45_r1) (.seq (.reg c45_r2) (.ret))
abbrev F45 : FnA := ⟨10, c45, [.t 2]⟩
theorem ok45 : cFn Tryd.prog 45 = some F45 := by kernel_rfl
theorem hb45 : HasBody Tryd.prog 45 := ⟨_, Tryd.func45, by kernel_rfl, by kernel_rfl⟩
/-! prog.Text$1 -/
abbrev c46_r1 : List Ins := [
  ⟨some 2, none, .mov (.c (.str ⟨#[]⟩))⟩]
abbrev c46_r2 : List Ins := [
  ⟨some 3, none, .mov (.t 0)⟩,
  ⟨some 4, none, .call (.c (.fn 47 [] [])) [.t 3]⟩,
  ⟨some 5, none, .bin .add (.c (.str ⟨#[114]⟩)) (.t 4)⟩,
  ⟨some 2, none, .mov (.t 5)⟩]
abbrev c46 : IR := .seq (.reg c46_r1) (.seq (.reg c46_r2) (.ret))
abbrev F46 : FnA := ⟨6, c46, [.t 2]⟩
theorem ok46 : cFn Tryd.prog 46 = some F46 := by kernel_rfl
theorem hb46 : HasBody Tryd.prog 46 := ⟨_, Tryd.func46, by kernel_rfl, by kernel_rfl⟩
/-! strconv.Itoa -/
abbrev c47_r1 : List Ins := [
  ⟨some 2, none, .mov (.c (.str ⟨#[]⟩))⟩]
abbrev c47_r2 : List Ins := [
  ⟨some 3, none, .mov (.t 0)⟩,
  ⟨some 4, none, .call (.c (.fn 65 [] [])) [.t 3]⟩,
  ⟨some 2, none, .mov (.t 4)⟩]
abbrev c47 : IR := .seq (.reg c47_r1) (.seq (.reg c47_r2) (.ret))
abbrev F47 : FnA := ⟨5, c47, [.t 2]⟩
theorem ok47 : cFn Tryd.prog 47 = some F47 := by kernel_rfl
theorem hb47 : HasBody Tryd.prog 47 := ⟨_, Tryd.func47, by kernel_rfl, by kernel_rfl⟩
/-! strconv.FormatInt -/
abbrev c48_r1 : List Ins := [
  ⟨some 4, none, .mov (.c (.str ⟨#[]⟩))⟩]
abbrev c48_r2 : List Ins := [
  ⟨some 5, none, .mov (.t 0)⟩,
  ⟨some 6, none, .mov (.t 1)⟩,
  ⟨some 7, none, .call (.c (.fn 66 [] [])) [.t 5, .t 6]⟩,
  ⟨some 4, none, .mov (.t 7)⟩]
abbrev c48 : IR := .seq (.reg c48_r1) (.seq (.reg c48_r2) (.ret))
abbrev F48 : FnA := ⟨8, c48, [.t 4]⟩
theorem ok48 : cFn Tryd.prog 48 = some F48 := by kernel_rfl
theorem hb48 : HasBody Tryd.prog 48 := ⟨_, Tryd.func48, by kernel_rfl, by kernel_rfl⟩
/-! prog.words -/
abbrev c49_r1 : List Ins := [
  ⟨some 2, none, .mov (.c (.str ⟨#[]⟩))⟩]
abbrev c49_r2 : List Ins := [
  ⟨some 3, none, .mov (.t 0)⟩,
  ⟨some 4, none, .call (.c (.fn 67 [] [])) [.t 3, .c (.str ⟨#[32]⟩)]⟩,
  ⟨some 2, none, .mov (.t 4)⟩]
abbrev c49 : IR := .seq (.reg c49_r1) (.seq (.reg c49_r2) (.ret))
abbrev F49 : FnA := ⟨5, c49, [.t 2]⟩
theorem ok49 : cFn Tryd.prog 49 = some F49 := by kernel_rfl
theorem hb49 : HasBody Tryd.prog 49 := ⟨_, Tryd.func49, by kernel_rfl, by kernel_rfl⟩
/-! prog.key -/
abbrev c50_r1 : List Ins := [
  ⟨some 1, none, .box (.t 0)⟩,
  ⟨some 2, none, .mov (.c (.str ⟨#[]⟩))⟩]
abbrev c50_r2 : List Ins := [
  ⟨some 4, none, .faddr 1 (.t 1)⟩,
  ⟨some 5, none, .load 1 false (.t 4)⟩,
  ⟨some 6, none, .call (.c (.fn 47 [] [])) [.t 5]⟩,
  ⟨some 3, none, .mov (.t 6)⟩]
abbrev c50_r3 : List Ins := [
  ⟨some 7, none, .faddr 0 (.t 1)⟩,
  ⟨some 8, none, .load 1 false (.t 7)⟩,
  ⟨some 9, none, .bin .geq (.t 8) (.c (.int .i64 0))⟩]
abbrev c50_r4 : List Ins := [
  ⟨some 10, none, .mov (.t 3)⟩,
  ⟨some 11, none, .faddr 0 (.t 1)⟩,
  ⟨some 12, none, .load 1 false (.t 11)⟩,
  ⟨some 13, none, .call (.c (.fn 47 [] [])) [.t 12]⟩,
  ⟨some 14, none, .bin .add (.c (.str ⟨#[43, 97]⟩)) (.t 13)⟩,
  ⟨some 15, none, .bin .add (.t 10) (.t 14)⟩,
  ⟨some 3, none, .mov (.t 15)⟩]
abbrev c50_r5 : List Ins := [
  ⟨some 16, none, .mov (.t 3)⟩,
  ⟨some 2, none, .mov (.t 16)⟩]
abbrev c50 : IR := .seq (.reg c50_r1) (.seq (.reg c50_r2) (.seq (.seq (.reg c50_r3) (.cond (.t 9) (.reg c50_r4) (.skip))) (.seq (.reg c50_r5) (.ret))))
abbrev F50 : FnA := ⟨17, c50, [.t 2]⟩
theorem ok50 : cFn Tryd.prog 50 = some F50 := by kernel_rfl
theorem hb50 : HasBody Tryd.prog 50 := ⟨_, Tryd.func50, by kernel_rfl, by kernel_rfl⟩
/-! codes.Reader.next -/
abbrev c51_r1 : List Ins := [
  ⟨some 4, none, .mov (.c (.int .u64 0))⟩]
abbrev c51_r2 : List Ins := [
  ⟨some 6, none, .mov (.t 0)⟩,
  ⟨some 7, none, .nilck (.t 6)⟩,
  ⟨some 8, none, .faddr 1 (.t 7)⟩,
  ⟨some 9, none, .load 1 false (.t 8)⟩,
  ⟨some 10, none, .mov (.t 9)⟩,
  ⟨some 11, some (10, false), .mov (.t 0)⟩,
  ⟨some 12, some (10, false), .nilck (.t 11)⟩,
  ⟨some 13, some (10, false), .faddr 0 (.t 12)⟩,
  ⟨some 14, some (10, false), .load 1 false (.t 13)⟩,
  ⟨some 15, some (10, false), .len (.t 14)⟩,
  ⟨some 16, some (10, false), .bin .eql (.t 15) (.c (.int .i64 0))⟩,
  ⟨some 17, none, .pick (.t 10) (.c (.bool true)) (.t 16)⟩,
  ⟨some 18, none, .mov (.t 17)⟩,
  ⟨some 19, some (18, false), .mov (.t 1)⟩,
  ⟨some 20, some (18, false), .mov (.t 0)⟩,
  ⟨some 21, some (18, false), .nilck (.t 20)⟩,
  ⟨some 22, some (18, false), .faddr 0 (.t 21)⟩,
  ⟨some 23, some (18, false), .load 1 false (.t 22)⟩,
  ⟨some 24, some (18, false), .iaddr 1 (.t 23) (.c (.int .i64 0))⟩,
  ⟨some 25, some (18, false), .load 1 false (.t 24)⟩,
  ⟨some 26, some (18, false), .call (.t 19) [.t 25]⟩,
  ⟨some 27, some (18, false), .un .not (.t 26)⟩,
  ⟨some 28, none, .pick (.t 18) (.c (.bool true)) (.t 27)⟩]
abbrev c51_r3 : List Ins := [
  ⟨some 29, none, .mov (.t 0)⟩,
  ⟨some 30, none, .nilck (.t 29)⟩,
  ⟨some 31, none, .faddr 1 (.t 30)⟩,
  ⟨none, none, .store 1 (.t 31) (.c (.bool true))⟩]
abbrev c51_r4 : List Ins := [
  ⟨some 4, none, .mov (.c (.int .u64 0))⟩]
abbrev c51_r5 : List Ins := [
  ⟨some 32, none, .mov (.t 0)⟩,
  ⟨some 33, none, .nilck (.t 32)⟩,
  ⟨some 34, none, .faddr 0 (.t 33)⟩,
  ⟨some 35, none, .load 1 false (.t 34)⟩,
  ⟨some 36, none, .iaddr 1 (.t 35) (.c (.int .i64 0))⟩,
  ⟨some 37, none, .load 1 false (.t 36)⟩,
  ⟨some 5, none, .mov (.t 37)⟩]
abbrev c51_r6 : List Ins := [
  ⟨some 38, none, .mov (.t 0)⟩,
  ⟨some 39, none, .mov (.t 0)⟩,
  ⟨some 40, none, .nilck (.t 39)⟩,
  ⟨some 41, none, .faddr 0 (.t 40)⟩,
  ⟨some 42, none, .load 1 false (.t 41)⟩,
  ⟨some 43, none, .slice 1 (.t 42) (some (.c (.int .i64 1))) none none⟩,
  ⟨some 44, none, .nilck (.t 38)⟩,
  ⟨some 45, none, .faddr 0 (.t 44)⟩,
  ⟨none, none, .store 1 (.t 45) (.t 43)⟩]
abbrev c51_r7 : List Ins := [
  ⟨some 46, none, .mov (.t 5)⟩,
  ⟨some 4, none, .mov (.t 46)⟩]
abbrev c51 : IR := .seq (.reg c51_r1) (.seq (.seq (.reg c51_r2) (.cond (.t 28) (.seq (.reg c51_r3) (.seq (.reg c51_r4) (.ret))) (.skip))) (.seq (.reg c51_r5) (.seq (.reg c51_r6) (.seq (.reg c51_r7) (.ret)))))
abbrev F51 : FnA := ⟨47, c51, [.t 4]⟩
theorem ok51 : cFn Tryd.prog 51 = some F51 := by kernel_rfl
theorem hb51 : HasBody Tryd.prog 51 := ⟨_, Tryd.func51, by kernel_rfl, by kernel_rfl⟩
/-! codes.Reader.Count$1 -/
abbrev c52_r1 : List Ins := [
  ⟨some 3, none, .mov (.c (.bool false))⟩]
abbrev c52_r2 : List Ins := [
  ⟨some 4, none, .load 1 false (.t 1)⟩,
  ⟨some 5, none, .bin .geq (.t 4) (.c (.int .i64 0))⟩,
  ⟨some 6, none, .mov (.t 5)⟩,
  ⟨some 7, some (6, true), .mov (.t 0)⟩,
  ⟨some 8, some (6, true), .load 1 false (.t 1)⟩,
  ⟨some 9, some (6, true), .conv .u64 (.t 8)⟩,
  ⟨some 10, some (6, true), .bin .leq (.t 7) (.t 9)⟩,
  ⟨some 11, none, .pick (.t 6) (.t 10) (.c (.bool false))⟩,
  ⟨some 3, none, .mov (.t 11)⟩]
abbrev c52 : IR := .seq (.reg c52_r1) (.seq (.reg c52_r2) (.ret))
abbrev F52 : FnA := ⟨12, c52, [.t 3]⟩
theorem ok52 : cFn Tryd.prog 52 = some F52 := by kernel_rfl
theorem hb52 : HasBody Tryd.prog 52 := ⟨_, Tryd.func52, by kernel_rfl, by kernel_rfl⟩
/-! codes.Reader.Signed$1 -/
abbrev c53_r1 : List Ins := [
  ⟨some 2, none, .mov (.c (.bool false))⟩]
abbrev c53_r2 : List Ins := [
  ⟨some 2, none, .mov (.c (.bool true))⟩]
abbrev c53 : IR := .seq (.reg c53_r1) (.seq (.reg c53_r2) (.ret))
abbrev F53 : FnA := ⟨3, c53, [.t 2]⟩
theorem ok53 : cFn Tryd.prog 53 = some F53 := by kernel_rfl
theorem hb53 : HasBody Tryd.prog 53 := ⟨_, Tryd.func53, by kernel_rfl, by kernel_rfl⟩
/-! ref01.Read -/
abbrev c54_r1 : List Ins := [
  ⟨some 6, none, .alloc [.int .i64 0, .int .i64 0, .int .i64 0, .int .i64 0, .str ⟨#[]⟩, .sl .full []]⟩,
  ⟨some 7, none, .mov (.c (.sl .full []))⟩,
  ⟨some 8, none, .mov (.c (.bool false))⟩]
abbrev c54_r2 : List Ins := [
  ⟨some 18, none, .mov (.t 1)⟩,
  ⟨some 19, none, .mov (.t 2)⟩,
  ⟨some 20, none, .build [.int .i64 0, .int .i64 0, .int .i64 0, .int .i64 0, .str ⟨#[]⟩, .sl .full []] [(0, (1, .t 18)), (2, (1, .t 19))]⟩,
  ⟨some 9, none, .alloc [.int .i64 0, .int .i64 0, .int .i64 0, .int .i64 0, .str ⟨#[]⟩, .sl .full []]⟩,
  ⟨none, none, .store 6 (.t 9) (.t 20)⟩]
abbrev c54_r3 : List Ins := [
  ⟨some 21, none, .mov (.t 0)⟩,
  ⟨some 22, none, .len (.t 21)⟩,
  ⟨some 23, none, .bin .eql (.t 22) (.c (.int .i64 0))⟩]
abbrev c54_r4 : List Ins := [
  ⟨some 24, none, .load 6 true (.t 9)⟩,
  ⟨some 25, none, .mov (.t 0)⟩,
  ⟨none, none, .store 6 (.t 6) (.t 24)⟩,
  ⟨some 7, none, .mov (.t 25)⟩,
  ⟨some 8, none, .mov (.c (.bool false))⟩]
abbrev c54_r5 : List Ins := [
  ⟨some 26, none, .mov (.t 0)⟩,
  ⟨some 27, none, .iaddr 1 (.t 26) (.c (.int .i64 0))⟩,
  ⟨some 28, none, .load 1 false (.t 27)⟩,
  ⟨some 10, none, .mov (.t 28)⟩]
abbrev c54_r6 : List Ins := [
  ⟨some 29, none, .mov (.t 0)⟩,
  ⟨some 30, none, .slice 1 (.t 29) (some (.c (.int .i64 1))) none none⟩,
  ⟨some 11, none, .mov (.t 30)⟩]
abbrev c54_r7 : List Ins := [
  ⟨some 31, none, .mov (.t 1)⟩,
  ⟨some 32, none, .bin .eql (.t 31) (.c (.int .i64 1))⟩]
abbrev c54_r8 : List Ins := [
  ⟨some 33, none, .mov (.t 10)⟩,
  ⟨some 34, none, .call (.c (.fn 68 [] [])) [.t 33]⟩,
  ⟨some 35, none, .faddr 3 (.t 9)⟩,
  ⟨none, none, .store 1 (.t 35) (.t 34)⟩]
abbrev c54_r9 : List Ins := [
  ⟨some 36, none, .load 6 true (.t 9)⟩,
  ⟨some 37, none, .mov (.t 11)⟩,
  ⟨none, none, .store 6 (.t 6) (.t 36)⟩,
  ⟨some 7, none, .mov (.t 37)⟩,
  ⟨some 8, none, .mov (.c (.bool true))⟩]
abbrev c54_r10 : List Ins := [
  ⟨some 38, none, .mov (.t 1)⟩,
  ⟨some 39, none, .bin .eql (.t 38) (.c (.int .i64 2))⟩]
abbrev c54_r11 : List Ins := [
  ⟨some 2, none, .mov (.c (.int .i64 1))⟩]
abbrev c54_r12 : List Ins := [
  ⟨some 40, none, .mov (.t 1)⟩,
  ⟨some 41, none, .bin .eql (.t 40) (.c (.int .i64 3))⟩]
abbrev c54_r13 : List Ins := [
  ⟨some 2, none, .mov (.c (.int .i64 64))⟩]
abbrev c54_r14 : List Ins := [
  ⟨some 42, none, .mov (.t 2)⟩,
  ⟨some 43, none, .bin .lss (.t 42) (.c (.int .i64 0))⟩,
  ⟨some 44, none, .mov (.t 43)⟩,
  ⟨some 45, some (44, false), .mov (.t 10)⟩,
  ⟨some 46, some (44, false), .mov (.t 2)⟩,
  ⟨some 47, some (44, false), .conv .u64 (.t 46)⟩,
  ⟨some 48, some (44, false), .bin .gtr (.t 45) (.t 47)⟩,
  ⟨some 49, none, .pick (.t 44) (.c (.bool true)) (.t 48)⟩]
abbrev c54_r15 : List Ins := [
  ⟨some 50, none, .load 6 true (.t 9)⟩,
  ⟨some 51, none, .mov (.t 0)⟩,
  ⟨none, none, .store 6 (.t 6) (.t 50)⟩,
  ⟨some 7, none, .mov (.t 51)⟩,
  ⟨some 8, none, .mov (.c (.bool false))⟩]
abbrev c54_r16 : List Ins := [
  ⟨some 52, none, .mov (.t 10)⟩,
  ⟨some 53, none, .conv .i64 (.t 52)⟩,
  ⟨some 12, none, .mov (.t 53)⟩]
abbrev c54_r17 : List Ins := [
  ⟨some 54, none, .mov (.t 1)⟩,
  ⟨some 55, none, .bin .eql (.t 54) (.c (.int .i64 0))⟩,
  ⟨some 56, none, .mov (.t 55)⟩,
  ⟨some 57, some (56, false), .mov (.t 1)⟩,
  ⟨some 58, some (56, false), .bin .eql (.t 57) (.c (.int .i64 2))⟩,
  ⟨some 59, none, .pick (.t 56) (.c (.bool true)) (.t 58)⟩]
abbrev c54_r18 : List Ins := [
  ⟨some 60, none, .mov (.t 12)⟩,
  ⟨some 61, none, .faddr 1 (.t 9)⟩,
  ⟨none, none, .store 1 (.t 61) (.t 60)⟩]
abbrev c54_r19 : List Ins := [
  ⟨some 62, none, .load 6 true (.t 9)⟩,
  ⟨some 63, none, .mov (.t 11)⟩,
  ⟨none, none, .store 6 (.t 6) (.t 62)⟩,
  ⟨some 7, none, .mov (.t 63)⟩,
  ⟨some 8, none, .mov (.c (.bool true))⟩]
abbrev c54_r20 : List Ins := [
  ⟨some 64, none, .mov (.t 12)⟩,
  ⟨some 13, none, .mov (.t 64)⟩]
abbrev c54_r21 : List Ins := [
  ⟨some 65, none, .mov (.t 1)⟩,
  ⟨some 66, none, .bin .eql (.t 65) (.c (.int .i64 3))⟩]
abbrev c54_r22 : List Ins := [
  ⟨some 67, none, .mov (.t 12)⟩,
  ⟨some 68, none, .bin .add (.t 67) (.c (.int .i64 7))⟩,
  ⟨some 69, none, .bin .quo (.t 68) (.c (.int .i64 8))⟩,
  ⟨some 13, none, .mov (.t 69)⟩]
abbrev c54_r23 : List Ins := [
  ⟨some 70, none, .mov (.t 13)⟩,
  ⟨some 71, none, .mov (.t 11)⟩,
  ⟨some 72, none, .len (.t 71)⟩,
  ⟨some 73, none, .bin .gtr (.t 70) (.t 72)⟩]
abbrev c54_r24 : List Ins := [
  ⟨some 74, none, .load 6 true (.t 9)⟩,
  ⟨some 75, none, .mov (.t 0)⟩,
  ⟨none, none, .store 6 (.t 6) (.t 74)⟩,
  ⟨some 7, none, .mov (.t 75)⟩,
  ⟨some 8, none, .mov (.c (.bool false))⟩]
abbrev c54_r25 : List Ins := [
  ⟨some 76, none, .bsl 1 0 [.int .u64 0] []⟩,
  ⟨some 77, none, .mov (.t 11)⟩,
  ⟨some 78, none, .mov (.t 13)⟩,
  ⟨some 79, none, .slice 1 (.t 77) none (some (.t 78)) none⟩,
  ⟨some 80, none, .append 1 8 (.t 76) (.t 79)⟩,
  ⟨some 81, none, .faddr 5 (.t 9)⟩,
  ⟨none, none, .store 1 (.t 81) (.t 80)⟩]
abbrev c54_r26 : List Ins := [
  ⟨some 82, none, .mov (.t 1)⟩,
  ⟨some 83, none, .bin .eql (.t 82) (.c (.int .i64 3))⟩]
abbrev c54_r27 : List Ins := [
  ⟨some 14, none, .mov (.c (.sl .full []))⟩]
abbrev c54_r28 : List Ins := [
  ⟨some 15, none, .mov (.c (.int .i64 0))⟩]
abbrev c54_r29 : List Ins := [
  ⟨some 84, none, .mov (.t 15)⟩,
  ⟨some 85, none, .mov (.t 13)⟩,
  ⟨some 86, none, .bin .mul (.c (.int .i64 8)) (.t 85)⟩,
  ⟨some 87, none, .bin .lss (.t 84) (.t 86)⟩]
abbrev c54_r30 : List Ins := [
  ⟨some 90, none, .faddr 5 (.t 9)⟩,
  ⟨some 91, none, .load 1 false (.t 90)⟩,
  ⟨some 92, none, .mov (.t 15)⟩,
  ⟨some 93, none, .bin .quo (.t 92) (.c (.int .i64 8))⟩,
  ⟨some 94, none, .iaddr 1 (.t 91) (.t 93)⟩,
  ⟨some 95, none, .load 1 false (.t 94)⟩,
  ⟨some 16, none, .mov (.t 95)⟩]
abbrev c54_r31 : List Ins := [
  ⟨some 17, none, .mov (.c (.int .i64 0))⟩]
abbrev c54_r32 : List Ins := [
  ⟨some 96, none, .mov (.t 17)⟩,
  ⟨some 97, none, .mov (.t 15)⟩,
  ⟨some 98, none, .bin .rem (.t 97) (.c (.int .i64 8))⟩,
  ⟨some 99, none, .bin .lss (.t 96) (.t 98)⟩]
abbrev c54_r33 : List Ins := [
  ⟨some 102, none, .mov (.t 16)⟩,
  ⟨some 103, none, .bin .quo (.t 102) (.c (.int .u64 256))⟩,
  ⟨some 16, none, .mov (.t 103)⟩]
abbrev c54_r34 : List Ins := [
  ⟨some 100, none, .mov (.t 17)⟩,
  ⟨some 101, none, .bin .add (.t 100) (.c (.int .i64 1))⟩,
  ⟨some 17, none, .mov (.t 101)⟩]
abbrev c54_l35 : IR := .seq (.seq (.reg c54_r32) (.cond (.t 99) (.skip) (.exit 2))) (.seq (.blk 3 (.reg c54_r33)) (.reg c54_r34))
abbrev c54_r36 : List Ins := [
  ⟨some 104, none, .mov (.t 15)⟩,
  ⟨some 105, none, .mov (.t 12)⟩,
  ⟨some 106, none, .bin .lss (.t 104) (.t 105)⟩]
abbrev c54_r37 : List Ins := [
  ⟨some 107, none, .mov (.t 14)⟩,
  ⟨some 108, none, .mov (.t 16)⟩,
  ⟨some 109, none, .bin .rem (.t 108) (.c (.int .u64 256))⟩,
  ⟨some 110, none, .conv .u8 (.t 109)⟩,
  ⟨some 111, none, .bsl 1 1 [.int .u8 0] [(0, .t 110)]⟩,
  ⟨some 112, none, .append 1 1 (.t 107) (.t 111)⟩,
  ⟨some 14, none, .mov (.t 112)⟩]
abbrev c54_r38 : List Ins := [
  ⟨some 113, none, .mov (.t 16)⟩,
  ⟨some 114, none, .bin .rem (.t 113) (.c (.int .u64 256))⟩,
  ⟨some 115, none, .bin .neq (.t 114) (.c (.int .u64 0))⟩]
abbrev c54_r39 : List Ins := [
  ⟨some 116, none, .load 6 true (.t 9)⟩,
  ⟨some 117, none, .mov (.t 0)⟩,
  ⟨none, none, .store 6 (.t 6) (.t 116)⟩,
  ⟨some 7, none, .mov (.t 117)⟩,
  ⟨some 8, none, .mov (.c (.bool false))⟩]
abbrev c54_r40 : List Ins := [
  ⟨some 88, none, .mov (.t 15)⟩,
  ⟨some 89, none, .bin .add (.t 88) (.c (.int .i64 1))⟩,
  ⟨some 15, none, .mov (.t 89)⟩]
abbrev c54_l41 : IR := .seq (.seq (.reg c54_r29) (.cond (.t 87) (.skip) (.exit 0))) (.seq (.blk 1 (.seq (.reg c54_r30) (.seq (.seq (.reg c54_r31) (.blk 2 (.loop c54_l35))) (.seq (.reg c54_r36) (.cond (.t 106) (.reg c54_r37) (.seq (.reg c54_r38) (.cond (.t 115) (.seq (.reg c54_r39) (.ret)) (.skip)))))))) (.reg c54_r40))
abbrev c54_r42 : List Ins := [
  ⟨some 118, none, .mov (.t 14)⟩,
  ⟨some 119, none, .b2s (.t 118)⟩,
  ⟨some 120, none, .faddr 4 (.t 9)⟩,
  ⟨none, none, .store 1 (.t 120) (.t 119)⟩]
abbrev c54_r43 : List Ins := [
  ⟨some 121, none, .load 6 true (.t 9)⟩,
  ⟨some 122, none, .mov (.t 11)⟩,
  ⟨some 123, none, .mov (.t 13)⟩,
  ⟨some 124, none, .slice 1 (.t 122) (some (.t 123)) none none⟩,
  ⟨none, none, .store 6 (.t 6) (.t 121)⟩,
  ⟨some 7, none, .mov (.t 124)⟩,
  ⟨some 8, none, .mov (.c (.bool true))⟩]
def c54_a43 : List (List Nat) := [[], [], [], [1, 2], [0, 0], [3, 4, 0, 1, 2, 3, 4], [5, 0, 1, 2, 3, 4, 5]]
abbrev c54_m43 : List Am.Mark := [⟨false, 0, 0⟩, ⟨false, 0, 1⟩, ⟨false, 0, 1⟩, ⟨false, 0, 1⟩, ⟨true, 0, 1⟩, ⟨false, 1, 1⟩, ⟨false, 1, 1⟩]
theorem c54_d43 : drawFine c54_r43 c54_a43 c54_m43 = true := by decide +kernel
abbrev c54 : IR := .seq (.reg c54_r1) (.seq (.reg c54_r2) (.seq (.seq (.reg c54_r3) (.cond (.t 23) (.seq (.reg c54_r4) (.ret)) (.skip))) (.seq (.reg c54_r5) (.seq (.reg c54_r6) (.seq (.seq (.reg c54_r7) (.cond (.t 32) (.seq (.reg c54_r8) (.seq (.reg c54_r9) (.ret))) (.skip))) (.seq (.seq (.reg c54_r10) (.cond (.t 39) (.reg c54_r11) (.skip))) (.seq (.seq (.reg c54_r12) (.cond (.t 41) (.reg c54_r13) (.skip))) (.seq (.seq (.reg c54_r14) (.cond (.t 49) (.seq (.reg c54_r15) (.ret)) (.skip))) (.seq (.reg c54_r16) (.seq (.seq (.reg c54_r17) (.cond (.t 59) (.seq (.reg c54_r18) (.seq (.reg c54_r19) (.ret))) (.skip))) (.seq (.reg c54_r20) (.seq (.seq (.reg c54_r21) (.cond (.t 66) (.reg c54_r22) (.skip))) (.seq (.seq (.reg c54_r23) (.cond (.t 73) (.seq (.reg c54_r24) (.ret)) (.skip))) (.seq (.reg c54_r25) (.seq (.seq (.reg c54_r26) (.cond (.t 83) (.seq (.reg c54_r27) (.seq (.seq (.reg c54_r28) (.blk 0 (.loop c54_l41))) (.reg c54_r42))) (.skip))) (.seq (.dreg c54_r43 c54_a43) (.ret)))))))))))))))))
abbrev F54 : FnA := ⟨125, c54, [.cell 6 6 true, .t 7, .t 8]⟩
theorem ok54 : cFn Tryd.prog 54 = some F54 := by kernel_rfl
theorem hb54 : HasBody Tryd.prog 54 := ⟨_, Tryd.func54, by kernel_rfl, by kernel_rfl⟩
/-! slices.IndexFunc:Instr -/
abbrev c55_r1 : List Ins := [
  ⟨some 4, none, .mov (.c (.int .i64 0))⟩]
abbrev c55_r2 : List Ins := [
  ⟨some 6, none, .mov (.t 0)⟩,
  ⟨some 7, none, .len (.t 6)⟩,
  ⟨some 8, none, .mov (.c (.int .i64 0))⟩]
abbrev c55_r3 : List Ins := [
  ⟨some 9, none, .bin .lss (.t 8) (.t 7)⟩]
abbrev c55_r4 : List Ins := [
  ⟨some 10, none, .mov (.t 8)⟩,
  ⟨some 5, none, .mov (.t 10)⟩]
abbrev c55_r5 : List Ins := [
  ⟨some 11, none, .mov (.t 1)⟩,
  ⟨some 12, none, .mov (.t 0)⟩,
  ⟨some 13, none, .mov (.t 5)⟩,
  ⟨some 14, none, .iaddr 9 (.t 12) (.t 13)⟩,
  ⟨some 15, none, .load 9 true (.t 14)⟩,
  ⟨some 16, none, .call (.t 11) [.t 15]⟩]
abbrev c55_r6 : List Ins := [
  ⟨some 17, none, .mov (.t 5)⟩,
  ⟨some 4, none, .mov (.t 17)⟩]
abbrev c55_r7 : List Ins := [
  ⟨some 18, none, .bin .add (.t 8) (.c (.int .i64 1))⟩,
  ⟨some 8, none, .mov (.t 18)⟩]
abbrev c55_l8 : IR := .seq (.reg c55_r3) (.seq (.cond (.t 9) (.skip) (.exit 0)) (.seq (.blk 1 (.seq (.reg c55_r4) (.seq (.reg c55_r5) (.cond (.t 16) (.seq (.reg c55_r6) (.ret)) (.skip))))) (.reg c55_r7)))
abbrev c55_r9 : List Ins := [
  ⟨some 4, none, .mov (.c (.int .i64 (-1)))⟩]
abbrev c55 : IR := .seq (.reg c55_r1) (.seq (.seq (.reg c55_r2) (.blk 0 (.loop c55_l8))) (.seq (.reg c55_r9) (.ret)))
abbrev F55 : FnA := ⟨19, c55, [.t 4]⟩
theorem ok55 : cFn Tryd.prog 55 = some F55 := by kernel_rfl
theorem hb55 : HasBody Tryd.prog 55 := ⟨_, Tryd.func55, by kernel_rfl, by kernel_rfl⟩
/-! prog.only -/
abbrev c56_r1 : List Ins := [
  ⟨some 1, none, .box (.t 0)⟩,
  ⟨some 2, none, .alloc [.int .i64 0, .int .i64 0, .int .i64 0, .int .i64 0, .int .i64 0, .int .i64 0, .int .i64 0, .int .i64 0, .int .i64 0]⟩,
  ⟨some 3, none, .mov (.c (.bool false))⟩]
abbrev c56_r2 : List Ins := [
  ⟨some 5, none, .faddr 0 (.t 1)⟩,
  ⟨some 6, none, .load 1 false (.t 5)⟩,
  ⟨some 7, none, .faddr 1 (.t 1)⟩,
  ⟨some 8, none, .load 1 false (.t 7)⟩,
  ⟨some 9, none, .build [.int .i64 0, .int .i64 0, .int .i64 0, .int .i64 0, .int .i64 0, .int .i64 0, .int .i64 0, .int .i64 0, .int .i64 0] [(0, (1, .t 6)), (1, (1, .t 8))]⟩,
  ⟨some 4, none, .alloc [.int .i64 0, .int .i64 0, .int .i64 0, .int .i64 0, .int .i64 0, .int .i64 0, .int .i64 0, .int .i64 0, .int .i64 0]⟩,
  ⟨none, none, .store 9 (.t 4) (.t 9)⟩]
abbrev c56_r3 : List Ins := [
  ⟨some 10, none, .faddr 0 (.t 1)⟩,
  ⟨some 11, none, .load 1 false (.t 10)⟩]
abbrev c56_r4 : List Ins := [
  ⟨some 14, none, .bin .eql (.t 11) (.c (.int .i64 1))⟩,
  ⟨some 13, none, .mov (.t 14)⟩]
abbrev c56_r5 : List Ins := [
  ⟨some 15, none, .bin .eql (.t 11) (.c (.int .i64 2))⟩,
  ⟨some 13, none, .mov (.t 15)⟩]
abbrev c56_r6 : List Ins := [
  ⟨some 16, none, .faddr 4 (.t 1)⟩,
  ⟨some 17, none, .load 2 true (.t 16)⟩,
  ⟨some 18, none, .faddr 4 (.t 4)⟩,
  ⟨none, none, .store 2 (.t 18) (.t 17)⟩]
abbrev c56_r7 : List Ins := [
  ⟨some 20, none, .bin .eql (.t 11) (.c (.int .i64 3))⟩,
  ⟨some 19, none, .mov (.t 20)⟩]
abbrev c56_r8 : List Ins := [
  ⟨some 21, none, .faddr 4 (.t 1)⟩,
  ⟨some 22, none, .load 2 true (.t 21)⟩,
  ⟨some 23, none, .faddr 1 (.t 4)⟩,
  ⟨none, none, .store 1 (.t 23) (.c (.int .i64 0))⟩,
  ⟨some 24, none, .faddr 4 (.t 4)⟩,
  ⟨none, none, .store 2 (.t 24) (.t 22)⟩]
def c56_a8 : List (List Nat) := [[], [0], [], [2], [0, 1, 2, 3], [4, 1, 3, 0, 1, 2, 3]]
abbrev c56_m8 : List Am.Mark := [⟨false, 0, 1⟩, ⟨false, 0, 1⟩, ⟨false, 0, 0⟩, ⟨true, 0, 1⟩, ⟨false, 1, 1⟩, ⟨true, 1, 2⟩]
theorem c56_d8 : drawFine c56_r8 c56_a8 c56_m8 = true := by decide +kernel
abbrev c56_r9 : List Ins := [
  ⟨some 26, none, .bin .eql (.t 11) (.c (.int .i64 4))⟩,
  ⟨some 25, none, .mov (.t 26)⟩]
abbrev c56_r10 : List Ins := [
  ⟨some 27, none, .faddr 4 (.t 1)⟩,
  ⟨some 28, none, .load 2 true (.t 27)⟩,
  ⟨some 29, none, .faddr 6 (.t 1)⟩,
  ⟨some 30, none, .load 2 true (.t 29)⟩,
  ⟨some 31, none, .faddr 4 (.t 4)⟩,
  ⟨none, none, .store 2 (.t 31) (.t 28)⟩,
  ⟨some 32, none, .faddr 6 (.t 4)⟩,
  ⟨none, none, .store 2 (.t 32) (.t 30)⟩]
def c56_a10 : List (List Nat) := [[], [0], [], [2], [0, 1], [4, 1, 0, 1], [0, 1, 2, 3, 4, 5], [6, 3, 5, 0, 1, 2, 3, 4, 5]]
abbrev c56_m10 : List Am.Mark := [⟨false, 0, 0⟩, ⟨false, 0, 0⟩, ⟨false, 0, 1⟩, ⟨false, 0, 1⟩, ⟨false, 0, 0⟩, ⟨true, 0, 1⟩, ⟨false, 1, 1⟩, ⟨true, 1, 2⟩]
theorem c56_d10 : drawFine c56_r10 c56_a10 c56_m10 = true := by decide +kernel
abbrev c56_r11 : List Ins := [
  ⟨some 34, none, .bin .eql (.t 11) (.c (.int .i64 5))⟩,
  ⟨some 33, none, .mov (.t 34)⟩]
abbrev c56_r12 : List Ins := [
  ⟨some 35, none, .bin .eql (.t 11) (.c (.int .i64 8))⟩,
  ⟨some 33, none, .mov (.t 35)⟩]
abbrev c56_r13 : List Ins := [
  ⟨some 36, none, .faddr 8 (.t 1)⟩,
  ⟨some 37, none, .load 1 false (.t 36)⟩,
  ⟨some 38, none, .faddr 8 (.t 4)⟩,
  ⟨none, none, .store 1 (.t 38) (.t 37)⟩]
abbrev c56_r14 : List Ins := [
  ⟨some 40, none, .bin .eql (.t 11) (.c (.int .i64 6))⟩,
  ⟨some 39, none, .mov (.t 40)⟩]
abbrev c56_r15 : List Ins := [
  ⟨some 41, none, .bin .eql (.t 11) (.c (.int .i64 7))⟩,
  ⟨some 39, none, .mov (.t 41)⟩]
abbrev c56_r16 : List Ins := [
  ⟨some 42, none, .faddr 2 (.t 1)⟩,
  ⟨some 43, none, .load 1 false (.t 42)⟩,
  ⟨some 44, none, .faddr 3 (.t 1)⟩,
  ⟨some 45, none, .load 1 false (.t 44)⟩,
  ⟨some 46, none, .faddr 2 (.t 4)⟩,
  ⟨none, none, .store 1 (.t 46) (.t 43)⟩,
  ⟨some 47, none, .faddr 3 (.t 4)⟩,
  ⟨none, none, .store 1 (.t 47) (.t 45)⟩]
def c56_a16 : List (List Nat) := [[], [0], [], [2], [0, 1], [4, 1, 0, 1], [0, 1, 2, 3, 4, 5], [6, 3, 5, 0, 1, 2, 3, 4, 5]]
abbrev c56_m16 : List Am.Mark := [⟨false, 0, 0⟩, ⟨false, 0, 0⟩, ⟨false, 0, 1⟩, ⟨false, 0, 1⟩, ⟨false, 0, 0⟩, ⟨true, 0, 1⟩, ⟨false, 1, 1⟩, ⟨true, 1, 2⟩]
theorem c56_d16 : drawFine c56_r16 c56_a16 c56_m16 = true := by decide +kernel
abbrev c56_r17 : List Ins := [
  ⟨some 12, none, .load 9 true (.t 4)⟩,
  ⟨none, none, .store 9 (.t 2) (.t 12)⟩,
  ⟨some 3, none, .mov (.c (.bool false))⟩]
abbrev c56_r18 : List Ins := [
  ⟨some 48, none, .load 9 true (.t 4)⟩,
  ⟨none, none, .store 9 (.t 2) (.t 48)⟩,
  ⟨some 3, none, .mov (.c (.bool true))⟩]
abbrev c56 : IR := .seq (.reg c56_r1) (.seq (.reg c56_r2) (.seq (.seq (.reg c56_r3) (.blk 0 (.seq (.seq (.reg c56_r4) (.cond (.t 13) (.skip) (.reg c56_r5))) (.cond (.t 13) (.reg c56_r6) (.seq (.reg c56_r7) (.cond (.t 19) (.dreg c56_r8 c56_a8) (.seq (.reg c56_r9) (.cond (.t 25) (.dreg c56_r10 c56_a10) (.seq (.seq (.reg c56_r11) (.cond (.t 33) (.skip) (.reg c56_r12))) (.cond (.t 33) (.reg c56_r13) (.seq (.seq (.reg c56_r14) (.cond (.t 39) (.skip) (.reg c56_r15))) (.cond (.t 39) (.dreg c56_r16 c56_a16) (.seq (.reg c56_r17) (.ret)))))))))))))) (.seq (.reg c56_r18) (.ret))))
abbrev F56 : FnA := ⟨49, c56, [.cell 2 9 true, .t 3]⟩
theorem ok56 : cFn Tryd.prog 56 = some F56 := by kernel_rfl
theorem hb56 : HasBody Tryd.prog 56 := ⟨_, Tryd.func56, by kernel_rfl, by kernel_rfl⟩
/-! prog.may$1 -/
abbrev c57_r1 : List Ins := [
  ⟨some 2, none, .box (.t 0)⟩,
  ⟨some 3, none, .mov (.c (.bool false))⟩]
abbrev c57_r2 : List Ins := [
  ⟨some 4, none, .load 2 true (.t 2)⟩,
  ⟨some 5, none, .load 1 false (.t 1)⟩,
  ⟨some 6, none, .call (.c (.fn 37 [] [])) [.t 4, .t 5]⟩,
  ⟨some 7, none, .un .not (.t 6)⟩,
  ⟨some 3, none, .mov (.t 7)⟩]
abbrev c57 : IR := .seq (.reg c57_r1) (.seq (.reg c57_r2) (.ret))
abbrev F57 : FnA := ⟨8, c57, [.t 3]⟩
theorem ok57 : cFn Tryd.prog 57 = some F57 := by kernel_rfl
theorem hb57 : HasBody Tryd.prog 57 := ⟨_, Tryd.func57, by kernel_rfl, by kernel_rfl⟩
/-! prog.register -/
abbrev c58_r1 : List Ins := [
  ⟨some 2, none, .mov (.c (.bool false))⟩]
abbrev c58_r2 : List Ins := [
  ⟨some 3, none, .mov (.t 0)⟩,
  ⟨some 4, none, .bin .geq (.t 3) (.c (.int .i64 0))⟩,
  ⟨some 5, none, .mov (.t 4)⟩,
  ⟨some 6, some (5, true), .mov (.t 0)⟩,
  ⟨some 7, some (5, true), .bin .lss (.t 6) (.c (.int .i64 4))⟩,
  ⟨some 8, none, .pick (.t 5) (.t 7) (.c (.bool false))⟩,
  ⟨some 2, none, .mov (.t 8)⟩]
abbrev c58 : IR := .seq (.reg c58_r1) (.seq (.reg c58_r2) (.ret))
abbrev F58 : FnA := ⟨9, c58, [.t 2]⟩
theorem ok58 : cFn Tryd.prog 58 = some F58 := by kernel_rfl
theorem hb58 : HasBody Tryd.prog 58 := ⟨_, Tryd.func58, by kernel_rfl, by kernel_rfl⟩
/-! slices.ContainsFunc:KeyT -/
abbrev c59_r1 : List Ins := [
  ⟨some 4, none, .mov (.c (.bool false))⟩]
abbrev c59_r2 : List Ins := [
  ⟨some 5, none, .mov (.t 0)⟩,
  ⟨some 6, none, .mov (.t 1)⟩,
  ⟨some 7, none, .call (.c (.fn 69 [] [])) [.t 5, .t 6]⟩,
  ⟨some 8, none, .bin .geq (.t 7) (.c (.int .i64 0))⟩,
  ⟨some 4, none, .mov (.t 8)⟩]
abbrev c59 : IR := .seq (.reg c59_r1) (.seq (.reg c59_r2) (.ret))
abbrev F59 : FnA := ⟨9, c59, [.t 4]⟩
theorem ok59 : cFn Tryd.prog 59 = some F59 := by kernel_rfl
theorem hb59 : HasBody Tryd.prog 59 := ⟨_, Tryd.func59, by kernel_rfl, by kernel_rfl⟩
/-! prog.keys -/
abbrev c60_r1 : List Ins := [
  ⟨some 1, none, .box (.t 0)⟩,
  ⟨some 2, none, .mov (.c (.sl .full []))⟩]
abbrev c60_r2 : List Ins := [
  ⟨some 3, none, .faddr 0 (.t 1)⟩,
  ⟨some 4, none, .load 1 false (.t 3)⟩]
abbrev c60_r3 : List Ins := [
  ⟨some 6, none, .bin .eql (.t 4) (.c (.int .i64 1))⟩,
  ⟨some 5, none, .mov (.t 6)⟩]
abbrev c60_r4 : List Ins := [
  ⟨some 7, none, .bin .eql (.t 4) (.c (.int .i64 2))⟩,
  ⟨some 5, none, .mov (.t 7)⟩]
abbrev c60_r5 : List Ins := [
  ⟨some 8, none, .bin .eql (.t 4) (.c (.int .i64 3))⟩,
  ⟨some 5, none, .mov (.t 8)⟩]
abbrev c60_r6 : List Ins := [
  ⟨some 9, none, .faddr 4 (.t 1)⟩,
  ⟨some 10, none, .load 2 true (.t 9)⟩,
  ⟨some 11, none, .bsl 2 1 [.int .i64 0, .int .i64 0] [(0, .t 10)]⟩,
  ⟨some 2, none, .mov (.t 11)⟩]
abbrev c60_r7 : List Ins := [
  ⟨some 13, none, .bin .eql (.t 4) (.c (.int .i64 4))⟩,
  ⟨some 12, none, .mov (.t 13)⟩]
abbrev c60_r8 : List Ins := [
  ⟨some 14, none, .faddr 4 (.t 1)⟩,
  ⟨some 15, none, .load 2 true (.t 14)⟩,
  ⟨some 16, none, .faddr 6 (.t 1)⟩,
  ⟨some 17, none, .load 2 true (.t 16)⟩,
  ⟨some 18, none, .bsl 2 2 [.int .i64 0, .int .i64 0] [(0, .t 15), (1, .t 17)]⟩,
  ⟨some 2, none, .mov (.t 18)⟩]
abbrev c60_r9 : List Ins := [
  ⟨some 2, none, .mov (.c (.sl .full []))⟩]
abbrev c60 : IR := .seq (.reg c60_r1) (.seq (.seq (.reg c60_r2) (.blk 0 (.seq (.seq (.reg c60_r3) (.cond (.t 5) (.skip) (.seq (.reg c60_r4) (.cond (.t 5) (.skip) (.reg c60_r5))))) (.cond (.t 5) (.seq (.reg c60_r6) (.ret)) (.seq (.reg c60_r7) (.cond (.t 12) (.seq (.reg c60_r8) (.ret)) (.skip))))))) (.seq (.reg c60_r9) (.ret)))
abbrev F60 : FnA := ⟨19, c60, [.t 2]⟩
theorem ok60 : cFn Tryd.prog 60 = some F60 := by kernel_rfl
theorem hb60 : HasBody Tryd.prog 60 := ⟨_, Tryd.func60, by kernel_rfl, by kernel_rfl⟩
/-! codes.Writer.put -/
abbrev c62_r1 : List Ins := [
  ⟨some 4, none, .mov (.t 0)⟩,
  ⟨some 5, none, .mov (.t 0)⟩,
  ⟨some 6, none, .nilck (.t 5)⟩,
  ⟨some 7, none, .faddr 0 (.t 6)⟩,
  ⟨some 8, none, .load 1 false (.t 7)⟩,
  ⟨some 9, none, .mov (.t 1)⟩,
  ⟨some 10, none, .append 1 8 (.t 8) (.t 9)⟩,
  ⟨some 11, none, .nilck (.t 4)⟩,
  ⟨some 12, none, .faddr 0 (.t 11)⟩,
  ⟨none, none, .store 1 (.t 12) (.t 10)⟩]
abbrev c62 : IR := .reg c62_r1
abbrev F62 : FnA := ⟨13, c62, []⟩
theorem ok62 : cFn Tryd.prog 62 = some F62 := by kernel_rfl
theorem hb62 : HasBody Tryd.prog 62 := ⟨_, Tryd.func62, by kernel_rfl, by kernel_rfl⟩
/-! ref01.Signed -/
abbrev c63_r1 : List Ins := [
  ⟨some 2, none, .mov (.c (.int .u64 0))⟩]
abbrev c63_r2 : List Ins := [
  ⟨some 3, none, .mov (.t 0)⟩,
  ⟨some 4, none, .bin .geq (.t 3) (.c (.int .i64 0))⟩]
abbrev c63_r3 : List Ins := [
  ⟨some 5, none, .mov (.t 0)⟩,
  ⟨some 6, none, .conv .u64 (.t 5)⟩,
  ⟨some 7, none, .bin .mul (.c (.int .u64 2)) (.t 6)⟩,
  ⟨some 2, none, .mov (.t 7)⟩]
abbrev c63_r4 : List Ins := [
  ⟨some 8, none, .mov (.t 0)⟩,
  ⟨some 9, none, .bin .add (.t 8) (.c (.int .i64 1))⟩,
  ⟨some 10, none, .un .neg (.t 9)⟩,
  ⟨some 11, none, .conv .u64 (.t 10)⟩,
  ⟨some 12, none, .bin .mul (.c (.int .u64 2)) (.t 11)⟩,
  ⟨some 13, none, .bin .add (.t 12) (.c (.int .u64 1))⟩,
  ⟨some 2, none, .mov (.t 13)⟩]
abbrev c63 : IR := .seq (.reg c63_r1) (.seq (.seq (.reg c63_r2) (.cond (.t 4) (.seq (.reg c63_r3) (.ret)) (.skip))) (.seq (.reg c63_r4) (.ret)))
abbrev F63 : FnA := ⟨14, c63, [.t 2]⟩
theorem ok63 : cFn Tryd.prog 63 = some F63 := by kernel_rfl
theorem hb63 : HasBody Tryd.prog 63 := ⟨_, Tryd.func63, by kernel_rfl, by kernel_rfl⟩
/-! ref01.Packed -/
abbrev c64_r1 : List Ins := [
  ⟨some 2, none, .mov (.c (.sl .full []))⟩]
abbrev c64_r2 : List Ins := [
  ⟨some 3, none, .mov (.c (.sl .full []))⟩]
abbrev c64_r3 : List Ins := [
  ⟨some 4, none, .mov (.c (.int .i64 0))⟩]
abbrev c64_r4 : List Ins := [
  ⟨some 7, none, .mov (.t 4)⟩,
  ⟨some 8, none, .mov (.t 0)⟩,
  ⟨some 9, none, .lenS (.t 8)⟩,
  ⟨some 10, none, .bin .lss (.t 7) (.t 9)⟩]
abbrev c64_r5 : List Ins := [
  ⟨some 5, none, .mov (.c (.int .u64 0))⟩]
abbrev c64_r6 : List Ins := [
  ⟨some 6, none, .mov (.c (.int .i64 7))⟩]
abbrev c64_r7 : List Ins := [
  ⟨some 13, none, .mov (.t 6)⟩,
  ⟨some 14, none, .bin .geq (.t 13) (.c (.int .i64 0))⟩]
abbrev c64_r8 : List Ins := [
  ⟨some 17, none, .mov (.t 5)⟩,
  ⟨some 18, none, .bin .mul (.t 17) (.c (.int .u64 256))⟩,
  ⟨some 5, none, .mov (.t 18)⟩]
abbrev c64_r9 : List Ins := [
  ⟨some 19, none, .mov (.t 4)⟩,
  ⟨some 20, none, .mov (.t 6)⟩,
  ⟨some 21, none, .bin .add (.t 19) (.t 20)⟩,
  ⟨some 22, none, .mov (.t 0)⟩,
  ⟨some 23, none, .lenS (.t 22)⟩,
  ⟨some 24, none, .bin .lss (.t 21) (.t 23)⟩]
abbrev c64_r10 : List Ins := [
  ⟨some 25, none, .mov (.t 5)⟩,
  ⟨some 26, none, .mov (.t 0)⟩,
  ⟨some 27, none, .mov (.t 4)⟩,
  ⟨some 28, none, .mov (.t 6)⟩,
  ⟨some 29, none, .bin .add (.t 27) (.t 28)⟩,
  ⟨some 30, none, .idxS (.t 26) (.t 29)⟩,
  ⟨some 31, none, .conv .u64 (.t 30)⟩,
  ⟨some 32, none, .bin .add (.t 25) (.t 31)⟩,
  ⟨some 5, none, .mov (.t 32)⟩]
abbrev c64_r11 : List Ins := [
  ⟨some 15, none, .mov (.t 6)⟩,
  ⟨some 16, none, .bin .sub (.t 15) (.c (.int .i64 1))⟩,
  ⟨some 6, none, .mov (.t 16)⟩]
abbrev c64_l12 : IR := .seq (.seq (.reg c64_r7) (.cond (.t 14) (.skip) (.exit 2))) (.seq (.blk 3 (.seq (.reg c64_r8) (.seq (.reg c64_r9) (.cond (.t 24) (.reg c64_r10) (.skip))))) (.reg c64_r11))
abbrev c64_r13 : List Ins := [
  ⟨some 33, none, .mov (.t 3)⟩,
  ⟨some 34, none, .mov (.t 5)⟩,
  ⟨some 35, none, .bsl 1 1 [.int .u64 0] [(0, .t 34)]⟩,
  ⟨some 36, none, .append 1 8 (.t 33) (.t 35)⟩,
  ⟨some 3, none, .mov (.t 36)⟩]
abbrev c64_r14 : List Ins := [
  ⟨some 11, none, .mov (.t 4)⟩,
  ⟨some 12, none, .bin .add (.t 11) (.c (.int .i64 8))⟩,
  ⟨some 4, none, .mov (.t 12)⟩]
abbrev c64_l15 : IR := .seq (.seq (.reg c64_r4) (.cond (.t 10) (.skip) (.exit 0))) (.seq (.blk 1 (.seq (.reg c64_r5) (.seq (.seq (.reg c64_r6) (.blk 2 (.loop c64_l12))) (.reg c64_r13)))) (.reg c64_r14))
abbrev c64_r16 : List Ins := [
  ⟨some 37, none, .mov (.t 3)⟩,
  ⟨some 2, none, .mov (.t 37)⟩]
abbrev c64 : IR := .seq (.reg c64_r1) (.seq (.reg c64_r2) (.seq (.seq (.reg c64_r3) (.blk 0 (.loop c64_l15))) (.seq (.reg c64_r16) (.ret))))
abbrev F64 : FnA := ⟨38, c64, [.t 2]⟩
theorem ok64 : cFn Tryd.prog 64 = some F64 := by kernel_rfl
theorem hb64 : HasBody Tryd.prog 64 := ⟨_, Tryd.func64, by kernel_rfl, by kernel_rfl⟩
/-! internal/strconv.Itoa -/
abbrev c65_r1 : List Ins := [
  ⟨some 2, none, .mov (.c (.str ⟨#[]⟩))⟩]
abbrev c65_r2 : List Ins := [
  ⟨some 3, none, .mov (.t 0)⟩,
  ⟨some 4, none, .call (.c (.fn 66 [] [])) [.t 3, .c (.int .i64 10)]⟩,
  ⟨some 2, none, .mov (.t 4)⟩]
abbrev c65 : IR := .seq (.reg c65_r1) (.seq (.reg c65_r2) (.ret))
abbrev F65 : FnA := ⟨5, c65, [.t 2]⟩
theorem ok65 : cFn Tryd.prog 65 = some F65 := by kernel_rfl
theorem hb65 : HasBody Tryd.prog 65 := ⟨_, Tryd.func65, by kernel_rfl, by kernel_rfl⟩
/-! internal/strconv.FormatInt -/
-- f66: not compiled
/-! strings.Join -/
abbrev c67_r1 : List Ins := [
  ⟨some 4, none, .mov (.c (.str ⟨#[]⟩))⟩]
abbrev c67_r2 : List Ins := [
  ⟨some 11, none, .mov (.t 0)⟩,
  ⟨some 12, none, .len (.t 11)⟩]
abbrev c67_r3 : List Ins := [
  ⟨some 14, none, .bin .eql (.t 12) (.c (.int .i64 0))⟩,
  ⟨some 13, none, .mov (.t 14)⟩]
abbrev c67_r4 : List Ins := [
  ⟨some 4, none, .mov (.c (.str ⟨#[]⟩))⟩]
abbrev c67_r5 : List Ins := [
  ⟨some 16, none, .bin .eql (.t 12) (.c (.int .i64 1))⟩,
  ⟨some 15, none, .mov (.t 16)⟩]
abbrev c67_r6 : List Ins := [
  ⟨some 17, none, .mov (.t 0)⟩,
  ⟨some 18, none, .iaddr 1 (.t 17) (.c (.int .i64 0))⟩,
  ⟨some 19, none, .load 1 false (.t 18)⟩,
  ⟨some 4, none, .mov (.t 19)⟩]
abbrev c67_r7 : List Ins := [
  ⟨some 5, none, .mov (.c (.int .i64 0))⟩]
abbrev c67_r8 : List Ins := [
  ⟨some 20, none, .mov (.t 1)⟩,
  ⟨some 21, none, .lenS (.t 20)⟩,
  ⟨some 22, none, .bin .gtr (.t 21) (.c (.int .i64 0))⟩]
abbrev c67_r9 : List Ins := [
  ⟨some 23, none, .mov (.t 1)⟩,
  ⟨some 24, none, .lenS (.t 23)⟩,
  ⟨some 25, none, .mov (.t 0)⟩,
  ⟨some 26, none, .len (.t 25)⟩,
  ⟨some 27, none, .bin .sub (.t 26) (.c (.int .i64 1))⟩,
  ⟨some 28, none, .bin .quo (.c (.int .i64 9223372036854775807)) (.t 27)⟩,
  ⟨some 29, none, .bin .geq (.t 24) (.t 28)⟩]
abbrev c67_r10 : List Ins := [
  ⟨some 30, none, .copy 0 (.c .undef) (.c .undef)⟩,
  ⟨none, none, .copy 0 (.c .undef) (.c .undef)⟩]
abbrev c67_r11 : List Ins := [
  ⟨some 31, none, .mov (.t 5)⟩,
  ⟨some 32, none, .mov (.t 1)⟩,
  ⟨some 33, none, .lenS (.t 32)⟩,
  ⟨some 34, none, .mov (.t 0)⟩,
  ⟨some 35, none, .len (.t 34)⟩,
  ⟨some 36, none, .bin .sub (.t 35) (.c (.int .i64 1))⟩,
  ⟨some 37, none, .bin .mul (.t 33) (.t 36)⟩,
  ⟨some 38, none, .bin .add (.t 31) (.t 37)⟩,
  ⟨some 5, none, .mov (.t 38)⟩]
abbrev c67_r12 : List Ins := [
  ⟨some 39, none, .mov (.t 0)⟩,
  ⟨some 40, none, .len (.t 39)⟩,
  ⟨some 41, none, .mov (.c (.int .i64 0))⟩]
abbrev c67_r13 : List Ins := [
  ⟨some 42, none, .bin .lss (.t 41) (.t 40)⟩]
abbrev c67_r14 : List Ins := [
  ⟨some 43, none, .iaddr 1 (.t 39) (.t 41)⟩,
  ⟨some 44, none, .load 1 false (.t 43)⟩,
  ⟨some 7, none, .mov (.t 44)⟩]
abbrev c67_r15 : List Ins := [
  ⟨some 45, none, .mov (.t 7)⟩,
  ⟨some 46, none, .lenS (.t 45)⟩,
  ⟨some 47, none, .mov (.t 5)⟩,
  ⟨some 48, none, .bin .sub (.c (.int .i64 9223372036854775807)) (.t 47)⟩,
  ⟨some 49, none, .bin .gtr (.t 46) (.t 48)⟩]
abbrev c67_r16 : List Ins := [
  ⟨some 50, none, .copy 0 (.c .undef) (.c .undef)⟩,
  ⟨none, none, .copy 0 (.c .undef) (.c .undef)⟩]
abbrev c67_r17 : List Ins := [
  ⟨some 51, none, .mov (.t 5)⟩,
  ⟨some 52, none, .mov (.t 7)⟩,
  ⟨some 53, none, .lenS (.t 52)⟩,
  ⟨some 54, none, .bin .add (.t 51) (.t 53)⟩,
  ⟨some 5, none, .mov (.t 54)⟩]
abbrev c67_r18 : List Ins := [
  ⟨some 55, none, .bin .add (.t 41) (.c (.int .i64 1))⟩,
  ⟨some 41, none, .mov (.t 55)⟩]
abbrev c67_l19 : IR := .seq (.reg c67_r13) (.seq (.cond (.t 42) (.skip) (.exit 1)) (.seq (.blk 2 (.seq (.reg c67_r14) (.seq (.seq (.reg c67_r15) (.cond (.t 49) (.reg c67_r16) (.skip))) (.reg c67_r17)))) (.reg c67_r18)))
abbrev c67_r20 : List Ins := [
  ⟨some 8, none, .alloc [.nilptr, .sl .full []]⟩]
abbrev c67_r21 : List Ins := [
  ⟨some 56, none, .mov (.t 5)⟩,
  ⟨some 57, none, .call (.c (.fn 74 [] [])) [.t 8, .t 56]⟩]
abbrev c67_r22 : List Ins := [
  ⟨some 58, none, .mov (.t 0)⟩,
  ⟨some 59, none, .iaddr 1 (.t 58) (.c (.int .i64 0))⟩,
  ⟨some 60, none, .load 1 false (.t 59)⟩,
  ⟨some 61, none, .call (.c (.fn 75 [] [])) [.t 8, .t 60]⟩]
abbrev c67_r23 : List Ins := [
  ⟨some 62, none, .mov (.t 0)⟩,
  ⟨some 63, none, .slice 1 (.t 62) (some (.c (.int .i64 1))) none none⟩,
  ⟨some 64, none, .len (.t 63)⟩,
  ⟨some 65, none, .mov (.c (.int .i64 0))⟩]
abbrev c67_r24 : List Ins := [
  ⟨some 66, none, .bin .lss (.t 65) (.t 64)⟩]
abbrev c67_r25 : List Ins := [
  ⟨some 67, none, .iaddr 1 (.t 63) (.t 65)⟩,
  ⟨some 68, none, .load 1 false (.t 67)⟩,
  ⟨some 10, none, .mov (.t 68)⟩]
abbrev c67_r26 : List Ins := [
  ⟨some 69, none, .mov (.t 1)⟩,
  ⟨some 70, none, .call (.c (.fn 75 [] [])) [.t 8, .t 69]⟩]
abbrev c67_r27 : List Ins := [
  ⟨some 71, none, .mov (.t 10)⟩,
  ⟨some 72, none, .call (.c (.fn 75 [] [])) [.t 8, .t 71]⟩]
abbrev c67_r28 : List Ins := [
  ⟨some 73, none, .bin .add (.t 65) (.c (.int .i64 1))⟩,
  ⟨some 65, none, .mov (.t 73)⟩]
abbrev c67_l29 : IR := .seq (.reg c67_r24) (.seq (.cond (.t 66) (.skip) (.exit 3)) (.seq (.blk 4 (.seq (.reg c67_r25) (.seq (.reg c67_r26) (.reg c67_r27)))) (.reg c67_r28)))
abbrev c67_r30 : List Ins := [
  ⟨some 74, none, .call (.c (.fn 76 [] [])) [.t 8]⟩,
  ⟨some 4, none, .mov (.t 74)⟩]
abbrev c67 : IR := .seq (.reg c67_r1) (.seq (.seq (.reg c67_r2) (.blk 0 (.seq (.reg c67_r3) (.cond (.t 13) (.seq (.reg c67_r4) (.ret)) (.seq (.reg c67_r5) (.cond (.t 15) (.seq (.reg c67_r6) (.ret)) (.skip))))))) (.seq (.reg c67_r7) (.seq (.seq (.reg c67_r8) (.cond (.t 22) (.seq (.seq (.reg c67_r9) (.cond (.t 29) (.reg c67_r10) (.skip))) (.reg c67_r11)) (.skip))) (.seq (.seq (.reg c67_r12) (.blk 1 (.loop c67_l19))) (.seq (.reg c67_r20) (.seq (.reg c67_r21) (.seq (.reg c67_r22) (.seq (.seq (.reg c67_r23) (.blk 3 (.loop c67_l29))) (.seq (.reg c67_r30) (.ret))))))))))
abbrev F67 : FnA := ⟨75, c67, [.t 4]⟩
theorem ok67 : cFn Tryd.prog 67 = some F67 := by kernel_rfl
theorem hb67 : HasBody Tryd.prog 67 := ⟨_, Tryd.func67, by kernel_rfl, by kernel_rfl⟩
/-! ref01.Back -/
abbrev c68_r1 : List Ins := [
  ⟨some 2, none, .mov (.c (.int .i64 0))⟩]
abbrev c68_r2 : List Ins := [
  ⟨some 3, none, .mov (.t 0)⟩,
  ⟨some 4, none, .bin .rem (.t 3) (.c (.int .u64 2))⟩,
  ⟨some 5, none, .bin .eql (.t 4) (.c (.int .u64 0))⟩]
abbrev c68_r3 : List Ins := [
  ⟨some 6, none, .mov (.t 0)⟩,
  ⟨some 7, none, .bin .quo (.t 6) (.c (.int .u64 2))⟩,
  ⟨some 8, none, .conv .i64 (.t 7)⟩,
  ⟨some 2, none, .mov (.t 8)⟩]
abbrev c68_r4 : List Ins := [
  ⟨some 9, none, .mov (.t 0)⟩,
  ⟨some 10, none, .bin .quo (.t 9) (.c (.int .u64 2))⟩,
  ⟨some 11, none, .conv .i64 (.t 10)⟩,
  ⟨some 12, none, .un .neg (.t 11)⟩,
  ⟨some 13, none, .bin .sub (.t 12) (.c (.int .i64 1))⟩,
  ⟨some 2, none, .mov (.t 13)⟩]
abbrev c68 : IR := .seq (.reg c68_r1) (.seq (.seq (.reg c68_r2) (.cond (.t 5) (.seq (.reg c68_r3) (.ret)) (.skip))) (.seq (.reg c68_r4) (.ret)))
abbrev F68 : FnA := ⟨14, c68, [.t 2]⟩
theorem ok68 : cFn Tryd.prog 68 = some F68 := by kernel_rfl
theorem hb68 : HasBody Tryd.prog 68 := ⟨_, Tryd.func68, by kernel_rfl, by kernel_rfl⟩
/-! slices.IndexFunc:KeyT -/
abbrev c69_r1 : List Ins := [
  ⟨some 4, none, .mov (.c (.int .i64 0))⟩]
abbrev c69_r2 : List Ins := [
  ⟨some 6, none, .mov (.t 0)⟩,
  ⟨some 7, none, .len (.t 6)⟩,
  ⟨some 8, none, .mov (.c (.int .i64 0))⟩]
abbrev c69_r3 : List Ins := [
  ⟨some 9, none, .bin .lss (.t 8) (.t 7)⟩]
abbrev c69_r4 : List Ins := [
  ⟨some 10, none, .mov (.t 8)⟩,
  ⟨some 5, none, .mov (.t 10)⟩]
abbrev c69_r5 : List Ins := [
  ⟨some 11, none, .mov (.t 1)⟩,
  ⟨some 12, none, .mov (.t 0)⟩,
  ⟨some 13, none, .mov (.t 5)⟩,
  ⟨some 14, none, .iaddr 2 (.t 12) (.t 13)⟩,
  ⟨some 15, none, .load 2 true (.t 14)⟩,
  ⟨some 16, none, .call (.t 11) [.t 15]⟩]
abbrev c69_r6 : List Ins := [
  ⟨some 17, none, .mov (.t 5)⟩,
  ⟨some 4, none, .mov (.t 17)⟩]
abbrev c69_r7 : List Ins := [
  ⟨some 18, none, .bin .add (.t 8) (.c (.int .i64 1))⟩,
  ⟨some 8, none, .mov (.t 18)⟩]
abbrev c69_l8 : IR := .seq (.reg c69_r3) (.seq (.cond (.t 9) (.skip) (.exit 0)) (.seq (.blk 1 (.seq (.reg c69_r4) (.seq (.reg c69_r5) (.cond (.t 16) (.seq (.reg c69_r6) (.ret)) (.skip))))) (.reg c69_r7)))
abbrev c69_r9 : List Ins := [
  ⟨some 4, none, .mov (.c (.int .i64 (-1)))⟩]
abbrev c69 : IR := .seq (.reg c69_r1) (.seq (.seq (.reg c69_r2) (.blk 0 (.loop c69_l8))) (.seq (.reg c69_r9) (.ret)))
abbrev F69 : FnA := ⟨19, c69, [.t 4]⟩
theorem ok69 : cFn Tryd.prog 69 = some F69 := by kernel_rfl
theorem hb69 : HasBody Tryd.prog 69 := ⟨_, Tryd.func69, by kernel_rfl, by kernel_rfl⟩
/-! internal/strconv.small -/
abbrev c70_r1 : List Ins := [
  ⟨some 2, none, .mov (.c (.str ⟨#[]⟩))⟩]
abbrev c70_r2 : List Ins := [
  ⟨some 3, none, .mov (.t 0)⟩,
  ⟨some 4, none, .bin .lss (.t 3) (.c (.int .i64 10))⟩]
abbrev c70_r3 : List Ins := [
  ⟨some 5, none, .mov (.t 0)⟩,
  ⟨some 6, none, .mov (.t 0)⟩,
  ⟨some 7, none, .bin .add (.t 6) (.c (.int .i64 1))⟩,
  ⟨some 8, none, .sliceS (.c (.str ⟨#[48, 49, 50, 51, 52, 53, 54, 55, 56, 57, 97, 98, 99, 100, 101, 102, 103, 104, 105, 106, 107, 108, 109, 110, 111, 112, 113, 114, 115, 116, 117, 118, 119, 120, 121, 122]⟩)) (some (.t 5)) (some (.t 7))⟩,
  ⟨some 2, none, .mov (.t 8)⟩]
abbrev c70_r4 : List Ins := [
  ⟨some 9, none, .mov (.t 0)⟩,
  ⟨some 10, none, .bin .mul (.t 9) (.c (.int .i64 2))⟩,
  ⟨some 11, none, .mov (.t 0)⟩,
  ⟨some 12, none, .bin .mul (.t 11) (.c (.int .i64 2))⟩,
  ⟨some 13, none, .bin .add (.t 12) (.c (.int .i64 2))⟩,
  ⟨some 14, none, .sliceS (.c (.str ⟨#[48, 48, 48, 49, 48, 50, 48, 51, 48, 52, 48, 53, 48, 54, 48, 55, 48, 56, 48, 57, 49, 48, 49, 49, 49, 50, 49, 51, 49, 52, 49, 53, 49, 54, 49, 55, 49, 56, 49, 57, 50, 48, 50, 49, 50, 50, 50, 51, 50, 52, 50, 53, 50, 54, 50, 55, 50, 56, 50, 57, 51, 48, 51, 49, 51, 50, 51, 51, 51, 52, 51, 53, 51, 54, 51, 55, 51, 56, 51, 57, 52, 48, 52, 49, 52, 50, 52, 51, 52, 52, 52, 53, 52, 54, 52, 55, 52, 56, 52, 57, 53, 48, 53, 49, 53, 50, 53, 51, 53, 52, 53, 53, 53, 54, 53, 55, 53, 56, 53, 57, 54, 48, 54, 49, 54, 50, 54, 51, 54, 52, 54, 53, 54, 54, 54, 55, 54, 56, 54, 57, 55, 48, 55, 49, 55, 50, 55, 51, 55, 52, 55, 53, 55, 54, 55, 55, 55, 56, 55, 57, 56, 48, 56, 49, 56, 50, 56, 51, 56, 52, 56, 53, 56, 54, 56, 55, 56, 56, 56, 57, 57, 48, 57, 49, 57, 50, 57, 51, 57, 52, 57, 53, 57, 54, 57, 55, 57, 56, 57, 57]⟩)) (some (.t 10)) (some (.t 13))⟩,
  ⟨some 2, none, .mov (.t 14)⟩]
abbrev c70 : IR := .seq (.reg c70_r1) (.seq (.seq (.reg c70_r2) (.cond (.t 4) (.seq (.reg c70_r3) (.ret)) (.skip))) (.seq (.reg c70_r4) (.ret)))
abbrev F70 : FnA := ⟨15, c70, [.t 2]⟩
theorem ok70 : cFn Tryd.prog 70 = some F70 := by kernel_rfl
theorem hb70 : HasBody Tryd.prog 70 := ⟨_, Tryd.func70, by kernel_rfl, by kernel_rfl⟩
/-! internal/strconv.numDigits -/
-- f71: not compiled
/-! internal/strconv.formatBase10 -/
abbrev c72_r1 : List Ins := [
  ⟨some 17, none, .mov (.t 0)⟩,
  ⟨some 18, none, .len (.t 17)⟩,
  ⟨some 4, none, .mov (.t 18)⟩]
abbrev c72_r2 : List Ins := [
  ⟨some 19, none, .mov (.t 4)⟩,
  ⟨some 20, none, .bin .geq (.t 19) (.c (.int .i64 8))⟩]
abbrev c72_r3 : List Ins := [
  ⟨some 21, none, .mov (.t 1)⟩,
  ⟨some 22, none, .bin .rem (.t 21) (.c (.int .u64 100000000))⟩,
  ⟨some 23, none, .conv .u32 (.t 22)⟩,
  ⟨some 5, none, .mov (.t 23)⟩]
abbrev c72_r4 : List Ins := [
  ⟨some 24, none, .mov (.t 1)⟩,
  ⟨some 25, none, .bin .quo (.t 24) (.c (.int .u64 100000000))⟩,
  ⟨some 1, none, .mov (.t 25)⟩]
abbrev c72_r5 : List Ins := [
  ⟨some 26, none, .mov (.t 5)⟩,
  ⟨some 27, none, .bin .quo (.t 26) (.c (.int .u32 10000))⟩,
  ⟨some 28, none, .mov (.t 5)⟩,
  ⟨some 29, none, .bin .rem (.t 28) (.c (.int .u32 10000))⟩,
  ⟨some 6, none, .mov (.t 27)⟩,
  ⟨some 7, none, .mov (.t 29)⟩]
abbrev c72_r6 : List Ins := [
  ⟨some 30, none, .mov (.t 7)⟩,
  ⟨some 31, none, .bin .quo (.t 30) (.c (.int .u32 100))⟩,
  ⟨some 32, none, .bin .mul (.t 31) (.c (.int .u32 2))⟩,
  ⟨some 33, none, .mov (.t 7)⟩,
  ⟨some 34, none, .bin .rem (.t 33) (.c (.int .u32 100))⟩,
  ⟨some 35, none, .bin .mul (.t 34) (.c (.int .u32 2))⟩,
  ⟨some 8, none, .mov (.t 32)⟩,
  ⟨some 9, none, .mov (.t 35)⟩]
abbrev c72_r7 : List Ins := [
  ⟨some 36, none, .mov (.t 6)⟩,
  ⟨some 37, none, .bin .quo (.t 36) (.c (.int .u32 100))⟩,
  ⟨some 38, none, .bin .mul (.t 37) (.c (.int .u32 2))⟩,
  ⟨some 39, none, .mov (.t 6)⟩,
  ⟨some 40, none, .bin .rem (.t 39) (.c (.int .u32 100))⟩,
  ⟨some 41, none, .bin .mul (.t 40) (.c (.int .u32 2))⟩,
  ⟨some 10, none, .mov (.t 38)⟩,
  ⟨some 11, none, .mov (.t 41)⟩]
abbrev c72_r8 : List Ins := [
  ⟨some 42, none, .mov (.t 0)⟩,
  ⟨some 43, none, .mov (.t 4)⟩,
  ⟨some 44, none, .bin .sub (.t 43) (.c (.int .i64 1))⟩,
  ⟨some 45, none, .mov (.t 0)⟩,
  ⟨some 46, none, .mov (.t 4)⟩,
  ⟨some 47, none, .bin .sub (.t 46) (.c (.int .i64 2))⟩,
  ⟨some 48, none, .mov (.t 9)⟩,
  ⟨some 49, none, .bin .add (.t 48) (.c (.int .u32 1))⟩,
  ⟨some 50, none, .idxS (.c (.str ⟨#[48, 48, 48, 49, 48, 50, 48, 51, 48, 52, 48, 53, 48, 54, 48, 55, 48, 56, 48, 57, 49, 48, 49, 49, 49, 50, 49, 51, 49, 52, 49, 53, 49, 54, 49, 55, 49, 56, 49, 57, 50, 48, 50, 49, 50, 50, 50, 51, 50, 52, 50, 53, 50, 54, 50, 55, 50, 56, 50, 57, 51, 48, 51, 49, 51, 50, 51, 51, 51, 52, 51, 53, 51, 54, 51, 55, 51, 56, 51, 57, 52, 48, 52, 49, 52, 50, 52, 51, 52, 52, 52, 53, 52, 54, 52, 55, 52, 56, 52, 57, 53, 48, 53, 49, 53, 50, 53, 51, 53, 52, 53, 53, 53, 54, 53, 55, 53, 56, 53, 57, 54, 48, 54, 49, 54, 50, 54, 51, 54, 52, 54, 53, 54, 54, 54, 55, 54, 56, 54, 57, 55, 48, 55, 49, 55, 50, 55, 51, 55, 52, 55, 53, 55, 54, 55, 55, 55, 56, 55, 57, 56, 48, 56, 49, 56, 50, 56, 51, 56, 52, 56, 53, 56, 54, 56, 55, 56, 56, 56, 57, 57, 48, 57, 49, 57, 50, 57, 51, 57, 52, 57, 53, 57, 54, 57, 55, 57, 56, 57, 57]⟩)) (.t 49)⟩,
  ⟨some 51, none, .mov (.t 9)⟩,
  ⟨some 52, none, .idxS (.c (.str ⟨#[48, 48, 48, 49, 48, 50, 48, 51, 48, 52, 48, 53, 48, 54, 48, 55, 48, 56, 48, 57, 49, 48, 49, 49, 49, 50, 49, 51, 49, 52, 49, 53, 49, 54, 49, 55, 49, 56, 49, 57, 50, 48, 50, 49, 50, 50, 50, 51, 50, 52, 50, 53, 50, 54, 50, 55, 50, 56, 50, 57, 51, 48, 51, 49, 51, 50, 51, 51, 51, 52, 51, 53, 51, 54, 51, 55, 51, 56, 51, 57, 52, 48, 52, 49, 52, 50, 52, 51, 52, 52, 52, 53, 52, 54, 52, 55, 52, 56, 52, 57, 53, 48, 53, 49, 53, 50, 53, 51, 53, 52, 53, 53, 53, 54, 53, 55, 53, 56, 53, 57, 54, 48, 54, 49, 54, 50, 54, 51, 54, 52, 54, 53, 54, 54, 54, 55, 54, 56, 54, 57, 55, 48, 55, 49, 55, 50, 55, 51, 55, 52, 55, 53, 55, 54, 55, 55, 55, 56, 55, 57, 56, 48, 56, 49, 56, 50, 56, 51, 56, 52, 56, 53, 56, 54, 56, 55, 56, 56, 56, 57, 57, 48, 57, 49, 57, 50, 57, 51, 57, 52, 57, 53, 57, 54, 57, 55, 57, 56, 57, 57]⟩)) (.t 51)⟩,
  ⟨some 53, none, .iaddr 1 (.t 42) (.t 44)⟩,
  ⟨none, none, .store 1 (.t 53) (.t 50)⟩,
  ⟨some 54, none, .iaddr 1 (.t 45) (.t 47)⟩,
  ⟨none, none, .store 1 (.t 54) (.t 52)⟩]
def c72_a8 : List (List Nat) := [[], [], [1], [], [], [4], [], [6], [7], [], [9], [0, 2, 0, 1, 2, 6, 7, 8], [11, 8, 0, 1, 2, 6, 7, 8], [3, 5, 0, 1, 2, 3, 4, 5, 6, 7, 8, 9, 10, 11, 12], [13, 10, 12, 0, 1, 2, 3, 4, 5, 6, 7, 8, 9, 10, 11, 12]]
abbrev c72_m8 : List Am.Mark := [⟨false, 0, 0⟩, ⟨false, 0, 0⟩, ⟨false, 0, 0⟩, ⟨false, 0, 1⟩, ⟨false, 0, 1⟩, ⟨false, 0, 1⟩, ⟨false, 0, 0⟩, ⟨false, 0, 0⟩, ⟨false, 0, 0⟩, ⟨false, 0, 1⟩, ⟨false, 0, 1⟩, ⟨false, 0, 0⟩, ⟨true, 0, 1⟩, ⟨false, 1, 1⟩, ⟨true, 1, 2⟩]
theorem c72_d8 : drawFine c72_r8 c72_a8 c72_m8 = true := by decide +kernel
abbrev c72_r9 : List Ins := [
  ⟨some 55, none, .mov (.t 0)⟩,
  ⟨some 56, none, .mov (.t 4)⟩,
  ⟨some 57, none, .bin .sub (.t 56) (.c (.int .i64 3))⟩,
  ⟨some 58, none, .mov (.t 0)⟩,
  ⟨some 59, none, .mov (.t 4)⟩,
  ⟨some 60, none, .bin .sub (.t 59) (.c (.int .i64 4))⟩,
  ⟨some 61, none, .mov (.t 8)⟩,
  ⟨some 62, none, .bin .add (.t 61) (.c (.int .u32 1))⟩,
  ⟨some 63, none, .idxS (.c (.str ⟨#[48, 48, 48, 49, 48, 50, 48, 51, 48, 52, 48, 53, 48, 54, 48, 55, 48, 56, 48, 57, 49, 48, 49, 49, 49, 50, 49, 51, 49, 52, 49, 53, 49, 54, 49, 55, 49, 56, 49, 57, 50, 48, 50, 49, 50, 50, 50, 51, 50, 52, 50, 53, 50, 54, 50, 55, 50, 56, 50, 57, 51, 48, 51, 49, 51, 50, 51, 51, 51, 52, 51, 53, 51, 54, 51, 55, 51, 56, 51, 57, 52, 48, 52, 49, 52, 50, 52, 51, 52, 52, 52, 53, 52, 54, 52, 55, 52, 56, 52, 57, 53, 48, 53, 49, 53, 50, 53, 51, 53, 52, 53, 53, 53, 54, 53, 55, 53, 56, 53, 57, 54, 48, 54, 49, 54, 50, 54, 51, 54, 52, 54, 53, 54, 54, 54, 55, 54, 56, 54, 57, 55, 48, 55, 49, 55, 50, 55, 51, 55, 52, 55, 53, 55, 54, 55, 55, 55, 56, 55, 57, 56, 48, 56, 49, 56, 50, 56, 51, 56, 52, 56, 53, 56, 54, 56, 55, 56, 56, 56, 57, 57, 48, 57, 49, 57, 50, 57, 51, 57, 52, 57, 53, 57, 54, 57, 55, 57, 56, 57, 57]⟩)) (.t 62)⟩,
  ⟨some 64, none, .mov (.t 8)⟩,
  ⟨some 65, none, .idxS (.c (.str ⟨#[48, 48, 48, 49, 48, 50, 48, 51, 48, 52, 48, 53, 48, 54, 48, 55, 48, 56, 48, 57, 49, 48, 49, 49, 49, 50, 49, 51, 49, 52, 49, 53, 49, 54, 49, 55, 49, 56, 49, 57, 50, 48, 50, 49, 50, 50, 50, 51, 50, 52, 50, 53, 50, 54, 50, 55, 50, 56, 50, 57, 51, 48, 51, 49, 51, 50, 51, 51, 51, 52, 51, 53, 51, 54, 51, 55, 51, 56, 51, 57, 52, 48, 52, 49, 52, 50, 52, 51, 52, 52, 52, 53, 52, 54, 52, 55, 52, 56, 52, 57, 53, 48, 53, 49, 53, 50, 53, 51, 53, 52, 53, 53, 53, 54, 53, 55, 53, 56, 53, 57, 54, 48, 54, 49, 54, 50, 54, 51, 54, 52, 54, 53, 54, 54, 54, 55, 54, 56, 54, 57, 55, 48, 55, 49, 55, 50, 55, 51, 55, 52, 55, 53, 55, 54, 55, 55, 55, 56, 55, 57, 56, 48, 56, 49, 56, 50, 56, 51, 56, 52, 56, 53, 56, 54, 56, 55, 56, 56, 56, 57, 57, 48, 57, 49, 57, 50, 57, 51, 57, 52, 57, 53, 57, 54, 57, 55, 57, 56, 57, 57]⟩)) (.t 64)⟩,
  ⟨some 66, none, .iaddr 1 (.t 55) (.t 57)⟩,
  ⟨none, none, .store 1 (.t 66) (.t 63)⟩,
  ⟨some 67, none, .iaddr 1 (.t 58) (.t 60)⟩,
  ⟨none, none, .store 1 (.t 67) (.t 65)⟩]
def c72_a9 : List (List Nat) := [[], [], [1], [], [], [4], [], [6], [7], [], [9], [0, 2, 0, 1, 2, 6, 7, 8], [11, 8, 0, 1, 2, 6, 7, 8], [3, 5, 0, 1, 2, 3, 4, 5, 6, 7, 8, 9, 10, 11, 12], [13, 10, 12, 0, 1, 2, 3, 4, 5, 6, 7, 8, 9, 10, 11, 12]]
abbrev c72_m9 : List Am.Mark := [⟨false, 0, 0⟩, ⟨false, 0, 0⟩, ⟨false, 0, 0⟩, ⟨false, 0, 1⟩, ⟨false, 0, 1⟩, ⟨false, 0, 1⟩, ⟨false, 0, 0⟩, ⟨false, 0, 0⟩, ⟨false, 0, 0⟩, ⟨false, 0, 1⟩, ⟨false, 0, 1⟩, ⟨false, 0, 0⟩, ⟨true, 0, 1⟩, ⟨false, 1, 1⟩, ⟨true, 1, 2⟩]
theorem c72_d9 : drawFine c72_r9 c72_a9 c72_m9 = true := by decide +kernel
abbrev c72_r10 : List Ins := [
  ⟨some 68, none, .mov (.t 0)⟩,
  ⟨some 69, none, .mov (.t 4)⟩,
  ⟨some 70, none, .bin .sub (.t 69) (.c (.int .i64 5))⟩,
  ⟨some 71, none, .mov (.t 0)⟩,
  ⟨some 72, none, .mov (.t 4)⟩,
  ⟨some 73, none, .bin .sub (.t 72) (.c (.int .i64 6))⟩,
  ⟨some 74, none, .mov (.t 11)⟩,
  ⟨some 75, none, .bin .add (.t 74) (.c (.int .u32 1))⟩,
  ⟨some 76, none, .idxS (.c (.str ⟨#[48, 48, 48, 49, 48, 50, 48, 51, 48, 52, 48, 53, 48, 54, 48, 55, 48, 56, 48, 57, 49, 48, 49, 49, 49, 50, 49, 51, 49, 52, 49, 53, 49, 54, 49, 55, 49, 56, 49, 57, 50, 48, 50, 49, 50, 50, 50, 51, 50, 52, 50, 53, 50, 54, 50, 55, 50, 56, 50, 57, 51, 48, 51, 49, 51, 50, 51, 51, 51, 52, 51, 53, 51, 54, 51, 55, 51, 56, 51, 57, 52, 48, 52, 49, 52, 50, 52, 51, 52, 52, 52, 53, 52, 54, 52, 55, 52, 56, 52, 57, 53, 48, 53, 49, 53, 50, 53, 51, 53, 52, 53, 53, 53, 54, 53, 55, 53, 56, 53, 57, 54, 48, 54, 49, 54, 50, 54, 51, 54, 52, 54, 53, 54, 54, 54, 55, 54, 56, 54, 57, 55, 48, 55, 49, 55, 50, 55, 51, 55, 52, 55, 53, 55, 54, 55, 55, 55, 56, 55, 57, 56, 48, 56, 49, 56, 50, 56, 51, 56, 52, 56, 53, 56, 54, 56, 55, 56, 56, 56, 57, 57, 48, 57, 49, 57, 50, 57, 51, 57, 52, 57, 53, 57, 54, 57, 55, 57, 56, 57, 57]⟩)) (.t 75)⟩,
  ⟨some 77, none, .mov (.t 11)⟩,
  ⟨some 78, none, .idxS (.c (.str ⟨#[48, 48, 48, 49, 48, 50, 48, 51, 48, 52, 48, 53, 48, 54, 48, 55, 48, 56, 48, 57, 49, 48, 49, 49, 49, 50, 49, 51, 49, 52, 49, 53, 49, 54, 49, 55, 49, 56, 49, 57, 50, 48, 50, 49, 50, 50, 50, 51, 50, 52, 50, 53, 50, 54, 50, 55, 50, 56, 50, 57, 51, 48, 51, 49, 51, 50, 51, 51, 51, 52, 51, 53, 51, 54, 51, 55, 51, 56, 51, 57, 52, 48, 52, 49, 52, 50, 52, 51, 52, 52, 52, 53, 52, 54, 52, 55, 52, 56, 52, 57, 53, 48, 53, 49, 53, 50, 53, 51, 53, 52, 53, 53, 53, 54, 53, 55, 53, 56, 53, 57, 54, 48, 54, 49, 54, 50, 54, 51, 54, 52, 54, 53, 54, 54, 54, 55, 54, 56, 54, 57, 55, 48, 55, 49, 55, 50, 55, 51, 55, 52, 55, 53, 55, 54, 55, 55, 55, 56, 55, 57, 56, 48, 56, 49, 56, 50, 56, 51, 56, 52, 56, 53, 56, 54, 56, 55, 56, 56, 56, 57, 57, 48, 57, 49, 57, 50, 57, 51, 57, 52, 57, 53, 57, 54, 57, 55, 57, 56, 57, 57]⟩)) (.t 77)⟩,
  ⟨some 79, none, .iaddr 1 (.t 68) (.t 70)⟩,
  ⟨none, none, .store 1 (.t 79) (.t 76)⟩,
  ⟨some 80, none, .iaddr 1 (.t 71) (.t 73)⟩,
  ⟨none, none, .store 1 (.t 80) (.t 78)⟩]
def c72_a10 : List (List Nat) := [[], [], [1], [], [], [4], [], [6], [7], [], [9], [0, 2, 0, 1, 2, 6, 7, 8], [11, 8, 0, 1, 2, 6, 7, 8], [3, 5, 0, 1, 2, 3, 4, 5, 6, 7, 8, 9, 10, 11, 12], [13, 10, 12, 0, 1, 2, 3, 4, 5, 6, 7, 8, 9, 10, 11, 12]]
abbrev c72_m10 : List Am.Mark := [⟨false, 0, 0⟩, ⟨false, 0, 0⟩, ⟨false, 0, 0⟩, ⟨false, 0, 1⟩, ⟨false, 0, 1⟩, ⟨false, 0, 1⟩, ⟨false, 0, 0⟩, ⟨false, 0, 0⟩, ⟨false, 0, 0⟩, ⟨false, 0, 1⟩, ⟨false, 0, 1⟩, ⟨false, 0, 0⟩, ⟨true, 0, 1⟩, ⟨false, 1, 1⟩, ⟨true, 1, 2⟩]
theorem c72_d10 : drawFine c72_r10 c72_a10 c72_m10 = true := by decide +kernel
abbrev c72_r11 : List Ins := [
  ⟨some 81, none, .mov (.t 0)⟩,
  ⟨some 82, none, .mov (.t 4)⟩,
  ⟨some 83, none, .bin .sub (.t 82) (.c (.int .i64 7))⟩,
  ⟨some 84, none, .mov (.t 0)⟩,
  ⟨some 85, none, .mov (.t 4)⟩,
  ⟨some 86, none, .bin .sub (.t 85) (.c (.int .i64 8))⟩,
  ⟨some 87, none, .mov (.t 10)⟩,
  ⟨some 88, none, .bin .add (.t 87) (.c (.int .u32 1))⟩,
  ⟨some 89, none, .idxS (.c (.str ⟨#[48, 48, 48, 49, 48, 50, 48, 51, 48, 52, 48, 53, 48, 54, 48, 55, 48, 56, 48, 57, 49, 48, 49, 49, 49, 50, 49, 51, 49, 52, 49, 53, 49, 54, 49, 55, 49, 56, 49, 57, 50, 48, 50, 49, 50, 50, 50, 51, 50, 52, 50, 53, 50, 54, 50, 55, 50, 56, 50, 57, 51, 48, 51, 49, 51, 50, 51, 51, 51, 52, 51, 53, 51, 54, 51, 55, 51, 56, 51, 57, 52, 48, 52, 49, 52, 50, 52, 51, 52, 52, 52, 53, 52, 54, 52, 55, 52, 56, 52, 57, 53, 48, 53, 49, 53, 50, 53, 51, 53, 52, 53, 53, 53, 54, 53, 55, 53, 56, 53, 57, 54, 48, 54, 49, 54, 50, 54, 51, 54, 52, 54, 53, 54, 54, 54, 55, 54, 56, 54, 57, 55, 48, 55, 49, 55, 50, 55, 51, 55, 52, 55, 53, 55, 54, 55, 55, 55, 56, 55, 57, 56, 48, 56, 49, 56, 50, 56, 51, 56, 52, 56, 53, 56, 54, 56, 55, 56, 56, 56, 57, 57, 48, 57, 49, 57, 50, 57, 51, 57, 52, 57, 53, 57, 54, 57, 55, 57, 56, 57, 57]⟩)) (.t 88)⟩,
  ⟨some 90, none, .mov (.t 10)⟩,
  ⟨some 91, none, .idxS (.c (.str ⟨#[48, 48, 48, 49, 48, 50, 48, 51, 48, 52, 48, 53, 48, 54, 48, 55, 48, 56, 48, 57, 49, 48, 49, 49, 49, 50, 49, 51, 49, 52, 49, 53, 49, 54, 49, 55, 49, 56, 49, 57, 50, 48, 50, 49, 50, 50, 50, 51, 50, 52, 50, 53, 50, 54, 50, 55, 50, 56, 50, 57, 51, 48, 51, 49, 51, 50, 51, 51, 51, 52, 51, 53, 51, 54, 51, 55, 51, 56, 51, 57, 52, 48, 52, 49, 52, 50, 52, 51, 52, 52, 52, 53, 52, 54, 52, 55, 52, 56, 52, 57, 53, 48, 53, 49, 53, 50, 53, 51, 53, 52, 53, 53, 53, 54, 53, 55, 53, 56, 53, 57, 54, 48, 54, 49, 54, 50, 54, 51, 54, 52, 54, 53, 54, 54, 54, 55, 54, 56, 54, 57, 55, 48, 55, 49, 55, 50, 55, 51, 55, 52, 55, 53, 55, 54, 55, 55, 55, 56, 55, 57, 56, 48, 56, 49, 56, 50, 56, 51, 56, 52, 56, 53, 56, 54, 56, 55, 56, 56, 56, 57, 57, 48, 57, 49, 57, 50, 57, 51, 57, 52, 57, 53, 57, 54, 57, 55, 57, 56, 57, 57]⟩)) (.t 90)⟩,
  ⟨some 92, none, .iaddr 1 (.t 81) (.t 83)⟩,
  ⟨none, none, .store 1 (.t 92) (.t 89)⟩,
  ⟨some 93, none, .iaddr 1 (.t 84) (.t 86)⟩,
  ⟨none, none, .store 1 (.t 93) (.t 91)⟩]
def c72_a11 : List (List Nat) := [[], [], [1], [], [], [4], [], [6], [7], [], [9], [0, 2, 0, 1, 2, 6, 7, 8], [11, 8, 0, 1, 2, 6, 7, 8], [3, 5, 0, 1, 2, 3, 4, 5, 6, 7, 8, 9, 10, 11, 12], [13, 10, 12, 0, 1, 2, 3, 4, 5, 6, 7, 8, 9, 10, 11, 12]]
abbrev c72_m11 : List Am.Mark := [⟨false, 0, 0⟩, ⟨false, 0, 0⟩, ⟨false, 0, 0⟩, ⟨false, 0, 1⟩, ⟨false, 0, 1⟩, ⟨false, 0, 1⟩, ⟨false, 0, 0⟩, ⟨false, 0, 0⟩, ⟨false, 0, 0⟩, ⟨false, 0, 1⟩, ⟨false, 0, 1⟩, ⟨false, 0, 0⟩, ⟨true, 0, 1⟩, ⟨false, 1, 1⟩, ⟨true, 1, 2⟩]
theorem c72_d11 : drawFine c72_r11 c72_a11 c72_m11 = true := by decide +kernel
abbrev c72_r12 : List Ins := [
  ⟨some 94, none, .mov (.t 4)⟩,
  ⟨some 95, none, .bin .sub (.t 94) (.c (.int .i64 8))⟩,
  ⟨some 4, none, .mov (.t 95)⟩]
abbrev c72_l13 : IR := .seq (.seq (.reg c72_r2) (.cond (.t 20) (.skip) (.exit 0))) (.blk 1 (.seq (.reg c72_r3) (.seq (.reg c72_r4) (.seq (.reg c72_r5) (.seq (.reg c72_r6) (.seq (.reg c72_r7) (.seq (.dreg c72_r8 c72_a8) (.seq (.dreg c72_r9 c72_a9) (.seq (.dreg c72_r10 c72_a10) (.seq (.dreg c72_r11 c72_a11) (.reg c72_r12)))))))))))
abbrev c72_r14 : List Ins := [
  ⟨some 96, none, .mov (.t 1)⟩,
  ⟨some 97, none, .conv .u32 (.t 96)⟩,
  ⟨some 12, none, .mov (.t 97)⟩]
abbrev c72_r15 : List Ins := [
  ⟨some 98, none, .mov (.t 4)⟩,
  ⟨some 99, none, .bin .geq (.t 98) (.c (.int .i64 4))⟩]
abbrev c72_r16 : List Ins := [
  ⟨some 100, none, .mov (.t 12)⟩,
  ⟨some 101, none, .bin .rem (.t 100) (.c (.int .u32 10000))⟩,
  ⟨some 13, none, .mov (.t 101)⟩]
abbrev c72_r17 : List Ins := [
  ⟨some 102, none, .mov (.t 12)⟩,
  ⟨some 103, none, .bin .quo (.t 102) (.c (.int .u32 10000))⟩,
  ⟨some 12, none, .mov (.t 103)⟩]
abbrev c72_r18 : List Ins := [
  ⟨some 104, none, .mov (.t 13)⟩,
  ⟨some 105, none, .bin .quo (.t 104) (.c (.int .u32 100))⟩,
  ⟨some 106, none, .bin .mul (.t 105) (.c (.int .u32 2))⟩,
  ⟨some 107, none, .mov (.t 13)⟩,
  ⟨some 108, none, .bin .rem (.t 107) (.c (.int .u32 100))⟩,
  ⟨some 109, none, .bin .mul (.t 108) (.c (.int .u32 2))⟩,
  ⟨some 14, none, .mov (.t 106)⟩,
  ⟨some 15, none, .mov (.t 109)⟩]
abbrev c72_r19 : List Ins := [
  ⟨some 110, none, .mov (.t 0)⟩,
  ⟨some 111, none, .mov (.t 4)⟩,
  ⟨some 112, none, .bin .sub (.t 111) (.c (.int .i64 1))⟩,
  ⟨some 113, none, .mov (.t 0)⟩,
  ⟨some 114, none, .mov (.t 4)⟩,
  ⟨some 115, none, .bin .sub (.t 114) (.c (.int .i64 2))⟩,
  ⟨some 116, none, .mov (.t 15)⟩,
  ⟨some 117, none, .bin .add (.t 116) (.c (.int .u32 1))⟩,
  ⟨some 118, none, .idxS (.c (.str ⟨#[48, 48, 48, 49, 48, 50, 48, 51, 48, 52, 48, 53, 48, 54, 48, 55, 48, 56, 48, 57, 49, 48, 49, 49, 49, 50, 49, 51, 49, 52, 49, 53, 49, 54, 49, 55, 49, 56, 49, 57, 50, 48, 50, 49, 50, 50, 50, 51, 50, 52, 50, 53, 50, 54, 50, 55, 50, 56, 50, 57, 51, 48, 51, 49, 51, 50, 51, 51, 51, 52, 51, 53, 51, 54, 51, 55, 51, 56, 51, 57, 52, 48, 52, 49, 52, 50, 52, 51, 52, 52, 52, 53, 52, 54, 52, 55, 52, 56, 52, 57, 53, 48, 53, 49, 53, 50, 53, 51, 53, 52, 53, 53, 53, 54, 53, 55, 53, 56, 53, 57, 54, 48, 54, 49, 54, 50, 54, 51, 54, 52, 54, 53, 54, 54, 54, 55, 54, 56, 54, 57, 55, 48, 55, 49, 55, 50, 55, 51, 55, 52, 55, 53, 55, 54, 55, 55, 55, 56, 55, 57, 56, 48, 56, 49, 56, 50, 56, 51, 56, 52, 56, 53, 56, 54, 56, 55, 56, 56, 56, 57, 57, 48, 57, 49, 57, 50, 57, 51, 57, 52, 57, 53, 57, 54, 57, 55, 57, 56, 57, 57]⟩)) (.t 117)⟩,
  ⟨some 119, none, .mov (.t 15)⟩,
  ⟨some 120, none, .idxS (.c (.str ⟨#[48, 48, 48, 49, 48, 50, 48, 51, 48, 52, 48, 53, 48, 54, 48, 55, 48, 56, 48, 57, 49, 48, 49, 49, 49, 50, 49, 51, 49, 52, 49, 53, 49, 54, 49, 55, 49, 56, 49, 57, 50, 48, 50, 49, 50, 50, 50, 51, 50, 52, 50, 53, 50, 54, 50, 55, 50, 56, 50, 57, 51, 48, 51, 49, 51, 50, 51, 51, 51, 52, 51, 53, 51, 54, 51, 55, 51, 56, 51, 57, 52, 48, 52, 49, 52, 50, 52, 51, 52, 52, 52, 53, 52, 54, 52, 55, 52, 56, 52, 57, 53, 48, 53, 49, 53, 50, 53, 51, 53, 52, 53, 53, 53, 54, 53, 55, 53, 56, 53, 57, 54, 48, 54, 49, 54, 50, 54, 51, 54, 52, 54, 53, 54, 54, 54, 55, 54, 56, 54, 57, 55, 48, 55, 49, 55, 50, 55, 51, 55, 52, 55, 53, 55, 54, 55, 55, 55, 56, 55, 57, 56, 48, 56, 49, 56, 50, 56, 51, 56, 52, 56, 53, 56, 54, 56, 55, 56, 56, 56, 57, 57, 48, 57, 49, 57, 50, 57, 51, 57, 52, 57, 53, 57, 54, 57, 55, 57, 56, 57, 57]⟩)) (.t 119)⟩,
  ⟨some 121, none, .iaddr 1 (.t 110) (.t 112)⟩,
  ⟨none, none, .store 1 (.t 121) (.t 118)⟩,
  ⟨some 122, none, .iaddr 1 (.t 113) (.t 115)⟩,
  ⟨none, none, .store 1 (.t 122) (.t 120)⟩]
def c72_a19 : List (List Nat) := [[], [], [1], [], [], [4], [], [6], [7], [], [9], [0, 2, 0, 1, 2, 6, 7, 8], [11, 8, 0, 1, 2, 6, 7, 8], [3, 5, 0, 1, 2, 3, 4, 5, 6, 7, 8, 9, 10, 11, 12], [13, 10, 12, 0, 1, 2, 3, 4, 5, 6, 7, 8, 9, 10, 11, 12]]
abbrev c72_m19 : List Am.Mark := [⟨false, 0, 0⟩, ⟨false, 0, 0⟩, ⟨false, 0, 0⟩, ⟨false, 0, 1⟩, ⟨false, 0, 1⟩, ⟨false, 0, 1⟩, ⟨false, 0, 0⟩, ⟨false, 0, 0⟩, ⟨false, 0, 0⟩, ⟨false, 0, 1⟩, ⟨false, 0, 1⟩, ⟨false, 0, 0⟩, ⟨true, 0, 1⟩, ⟨false, 1, 1⟩, ⟨true, 1, 2⟩]
theorem c72_d19 : drawFine c72_r19 c72_a19 c72_m19 = true := by decide +kernel
abbrev c72_r20 : List Ins := [
  ⟨some 123, none, .mov (.t 0)⟩,
  ⟨some 124, none, .mov (.t 4)⟩,
  ⟨some 125, none, .bin .sub (.t 124) (.c (.int .i64 3))⟩,
  ⟨some 126, none, .mov (.t 0)⟩,
  ⟨some 127, none, .mov (.t 4)⟩,
  ⟨some 128, none, .bin .sub (.t 127) (.c (.int .i64 4))⟩,
  ⟨some 129, none, .mov (.t 14)⟩,
  ⟨some 130, none, .bin .add (.t 129) (.c (.int .u32 1))⟩,
  ⟨some 131, none, .idxS (.c (.str ⟨#[48, 48, 48, 49, 48, 50, 48, 51, 48, 52, 48, 53, 48, 54, 48, 55, 48, 56, 48, 57, 49, 48, 49, 49, 49, 50, 49, 51, 49, 52, 49, 53, 49, 54, 49, 55, 49, 56, 49, 57, 50, 48, 50, 49, 50, 50, 50, 51, 50, 52, 50, 53, 50, 54, 50, 55, 50, 56, 50, 57, 51, 48, 51, 49, 51, 50, 51, 51, 51, 52, 51, 53, 51, 54, 51, 55, 51, 56, 51, 57, 52, 48, 52, 49, 52, 50, 52, 51, 52, 52, 52, 53, 52, 54, 52, 55, 52, 56, 52, 57, 53, 48, 53, 49, 53, 50, 53, 51, 53, 52, 53, 53, 53, 54, 53, 55, 53, 56, 53, 57, 54, 48, 54, 49, 54, 50, 54, 51, 54, 52, 54, 53, 54, 54, 54, 55, 54, 56, 54, 57, 55, 48, 55, 49, 55, 50, 55, 51, 55, 52, 55, 53, 55, 54, 55, 55, 55, 56, 55, 57, 56, 48, 56, 49, 56, 50, 56, 51, 56, 52, 56, 53, 56, 54, 56, 55, 56, 56, 56, 57, 57, 48, 57, 49, 57, 50, 57, 51, 57, 52, 57, 53, 57, 54, 57, 55, 57, 56, 57, 57]⟩)) (.t 130)⟩,
  ⟨some 132, none, .mov (.t 14)⟩,
  ⟨some 133, none, .idxS (.c (.str ⟨#[48, 48, 48, 49, 48, 50, 48, 51, 48, 52, 48, 53, 48, 54, 48, 55, 48, 56, 48, 57, 49, 48, 49, 49, 49, 50, 49, 51, 49, 52, 49, 53, 49, 54, 49, 55, 49, 56, 49, 57, 50, 48, 50, 49, 50, 50, 50, 51, 50, 52, 50, 53, 50, 54, 50, 55, 50, 56, 50, 57, 51, 48, 51, 49, 51, 50, 51, 51, 51, 52, 51, 53, 51, 54, 51, 55, 51, 56, 51, 57, 52, 48, 52, 49, 52, 50, 52, 51, 52, 52, 52, 53, 52, 54, 52, 55, 52, 56, 52, 57, 53, 48, 53, 49, 53, 50, 53, 51, 53, 52, 53, 53, 53, 54, 53, 55, 53, 56, 53, 57, 54, 48, 54, 49, 54, 50, 54, 51, 54, 52, 54, 53, 54, 54, 54, 55, 54, 56, 54, 57, 55, 48, 55, 49, 55, 50, 55, 51, 55, 52, 55, 53, 55, 54, 55, 55, 55, 56, 55, 57, 56, 48, 56, 49, 56, 50, 56, 51, 56, 52, 56, 53, 56, 54, 56, 55, 56, 56, 56, 57, 57, 48, 57, 49, 57, 50, 57, 51, 57, 52, 57, 53, 57, 54, 57, 55, 57, 56, 57, 57]⟩)) (.t 132)⟩,
  ⟨some 134, none, .iaddr 1 (.t 123) (.t 125)⟩,
  ⟨none, none, .store 1 (.t 134) (.t 131)⟩,
  ⟨some 135, none, .iaddr 1 (.t 126) (.t 128)⟩,
  ⟨none, none, .store 1 (.t 135) (.t 133)⟩]
def c72_a20 : List (List Nat) := [[], [], [1], [], [], [4], [], [6], [7], [], [9], [0, 2, 0, 1, 2, 6, 7, 8], [11, 8, 0, 1, 2, 6, 7, 8], [3, 5, 0, 1, 2, 3, 4, 5, 6, 7, 8, 9, 10, 11, 12], [13, 10, 12, 0, 1, 2, 3, 4, 5, 6, 7, 8, 9, 10, 11, 12]]
abbrev c72_m20 : List Am.Mark := [⟨false, 0, 0⟩, ⟨false, 0, 0⟩, ⟨false, 0, 0⟩, ⟨false, 0, 1⟩, ⟨false, 0, 1⟩, ⟨false, 0, 1⟩, ⟨false, 0, 0⟩, ⟨false, 0, 0⟩, ⟨false, 0, 0⟩, ⟨false, 0, 1⟩, ⟨false, 0, 1⟩, ⟨false, 0, 0⟩, ⟨true, 0, 1⟩, ⟨false, 1, 1⟩, ⟨true, 1, 2⟩]
theorem c72_d20 : drawFine c72_r20 c72_a20 c72_m20 = true := by decide +kernel
abbrev c72_r21 : List Ins := [
  ⟨some 136, none, .mov (.t 4)⟩,
  ⟨some 137, none, .bin .sub (.t 136) (.c (.int .i64 4))⟩,
  ⟨some 4, none, .mov (.t 137)⟩]
abbrev c72_r22 : List Ins := [
  ⟨some 138, none, .mov (.t 4)⟩,
  ⟨some 139, none, .bin .geq (.t 138) (.c (.int .i64 2))⟩]
abbrev c72_r23 : List Ins := [
  ⟨some 140, none, .mov (.t 12)⟩,
  ⟨some 141, none, .bin .rem (.t 140) (.c (.int .u32 100))⟩,
  ⟨some 142, none, .bin .mul (.t 141) (.c (.int .u32 2))⟩,
  ⟨some 16, none, .mov (.t 142)⟩]
abbrev c72_r24 : List Ins := [
  ⟨some 143, none, .mov (.t 12)⟩,
  ⟨some 144, none, .bin .quo (.t 143) (.c (.int .u32 100))⟩,
  ⟨some 12, none, .mov (.t 144)⟩]
abbrev c72_r25 : List Ins := [
  ⟨some 145, none, .mov (.t 0)⟩,
  ⟨some 146, none, .mov (.t 4)⟩,
  ⟨some 147, none, .bin .sub (.t 146) (.c (.int .i64 1))⟩,
  ⟨some 148, none, .mov (.t 0)⟩,
  ⟨some 149, none, .mov (.t 4)⟩,
  ⟨some 150, none, .bin .sub (.t 149) (.c (.int .i64 2))⟩,
  ⟨some 151, none, .mov (.t 16)⟩,
  ⟨some 152, none, .bin .add (.t 151) (.c (.int .u32 1))⟩,
  ⟨some 153, none, .idxS (.c (.str ⟨#[48, 48, 48, 49, 48, 50, 48, 51, 48, 52, 48, 53, 48, 54, 48, 55, 48, 56, 48, 57, 49, 48, 49, 49, 49, 50, 49, 51, 49, 52, 49, 53, 49, 54, 49, 55, 49, 56, 49, 57, 50, 48, 50, 49, 50, 50, 50, 51, 50, 52, 50, 53, 50, 54, 50, 55, 50, 56, 50, 57, 51, 48, 51, 49, 51, 50, 51, 51, 51, 52, 51, 53, 51, 54, 51, 55, 51, 56, 51, 57, 52, 48, 52, 49, 52, 50, 52, 51, 52, 52, 52, 53, 52, 54, 52, 55, 52, 56, 52, 57, 53, 48, 53, 49, 53, 50, 53, 51, 53, 52, 53, 53, 53, 54, 53, 55, 53, 56, 53, 57, 54, 48, 54, 49, 54, 50, 54, 51, 54, 52, 54, 53, 54, 54, 54, 55, 54, 56, 54, 57, 55, 48, 55, 49, 55, 50, 55, 51, 55, 52, 55, 53, 55, 54, 55, 55, 55, 56, 55, 57, 56, 48, 56, 49, 56, 50, 56, 51, 56, 52, 56, 53, 56, 54, 56, 55, 56, 56, 56, 57, 57, 48, 57, 49, 57, 50, 57, 51, 57, 52, 57, 53, 57, 54, 57, 55, 57, 56, 57, 57]⟩)) (.t 152)⟩,
  ⟨some 154, none, .mov (.t 16)⟩,
  ⟨some 155, none, .idxS (.c (.str ⟨#[48, 48, 48, 49, 48, 50, 48, 51, 48, 52, 48, 53, 48, 54, 48, 55, 48, 56, 48, 57, 49, 48, 49, 49, 49, 50, 49, 51, 49, 52, 49, 53, 49, 54, 49, 55, 49, 56, 49, 57, 50, 48, 50, 49, 50, 50, 50, 51, 50, 52, 50, 53, 50, 54, 50, 55, 50, 56, 50, 57, 51, 48, 51, 49, 51, 50, 51, 51, 51, 52, 51, 53, 51, 54, 51, 55, 51, 56, 51, 57, 52, 48, 52, 49, 52, 50, 52, 51, 52, 52, 52, 53, 52, 54, 52, 55, 52, 56, 52, 57, 53, 48, 53, 49, 53, 50, 53, 51, 53, 52, 53, 53, 53, 54, 53, 55, 53, 56, 53, 57, 54, 48, 54, 49, 54, 50, 54, 51, 54, 52, 54, 53, 54, 54, 54, 55, 54, 56, 54, 57, 55, 48, 55, 49, 55, 50, 55, 51, 55, 52, 55, 53, 55, 54, 55, 55, 55, 56, 55, 57, 56, 48, 56, 49, 56, 50, 56, 51, 56, 52, 56, 53, 56, 54, 56, 55, 56, 56, 56, 57, 57, 48, 57, 49, 57, 50, 57, 51, 57, 52, 57, 53, 57, 54, 57, 55, 57, 56, 57, 57]⟩)) (.t 154)⟩,
  ⟨some 156, none, .iaddr 1 (.t 145) (.t 147)⟩,
  ⟨none, none, .store 1 (.t 156) (.t 153)⟩,
  ⟨some 157, none, .iaddr 1 (.t 148) (.t 150)⟩,
  ⟨none, none, .store 1 (.t 157) (.t 155)⟩]
def c72_a25 : List (List Nat) := [[], [], [1], [], [], [4], [], [6], [7], [], [9], [0, 2, 0, 1, 2, 6, 7, 8], [11, 8, 0, 1, 2, 6, 7, 8], [3, 5, 0, 1, 2, 3, 4, 5, 6, 7, 8, 9, 10, 11, 12], [13, 10, 12, 0, 1, 2, 3, 4, 5, 6, 7, 8, 9, 10, 11, 12]]
abbrev c72_m25 : List Am.Mark := [⟨false, 0, 0⟩, ⟨false, 0, 0⟩, ⟨false, 0, 0⟩, ⟨false, 0, 1⟩, ⟨false, 0, 1⟩, ⟨false, 0, 1⟩, ⟨false, 0, 0⟩, ⟨false, 0, 0⟩, ⟨false, 0, 0⟩, ⟨false, 0, 1⟩, ⟨false, 0, 1⟩, ⟨false, 0, 0⟩, ⟨true, 0, 1⟩, ⟨false, 1, 1⟩, ⟨true, 1, 2⟩]
theorem c72_d25 : drawFine c72_r25 c72_a25 c72_m25 = true := by decide +kernel
abbrev c72_r26 : List Ins := [
  ⟨some 158, none, .mov (.t 4)⟩,
  ⟨some 159, none, .bin .sub (.t 158) (.c (.int .i64 2))⟩,
  ⟨some 4, none, .mov (.t 159)⟩]
abbrev c72_r27 : List Ins := [
  ⟨some 160, none, .mov (.t 4)⟩,
  ⟨some 161, none, .bin .gtr (.t 160) (.c (.int .i64 0))⟩]
abbrev c72_r28 : List Ins := [
  ⟨some 162, none, .mov (.t 0)⟩,
  ⟨some 163, none, .mov (.t 12)⟩,
  ⟨some 164, none, .bin .add (.c (.int .u32 48)) (.t 163)⟩,
  ⟨some 165, none, .conv .u8 (.t 164)⟩,
  ⟨some 166, none, .iaddr 1 (.t 162) (.c (.int .i64 0))⟩,
  ⟨none, none, .store 1 (.t 166) (.t 165)⟩]
abbrev c72 : IR := .seq (.reg c72_r1) (.seq (.blk 0 (.loop c72_l13)) (.seq (.reg c72_r14) (.seq (.seq (.reg c72_r15) (.cond (.t 99) (.seq (.reg c72_r16) (.seq (.reg c72_r17) (.seq (.reg c72_r18) (.seq (.dreg c72_r19 c72_a19) (.seq (.dreg c72_r20 c72_a20) (.reg c72_r21)))))) (.skip))) (.seq (.seq (.reg c72_r22) (.cond (.t 139) (.seq (.reg c72_r23) (.seq (.reg c72_r24) (.seq (.dreg c72_r25 c72_a25) (.reg c72_r26)))) (.skip))) (.seq (.reg c72_r27) (.cond (.t 161) (.reg c72_r28) (.skip)))))))
abbrev F72 : FnA := ⟨167, c72, []⟩
theorem ok72 : cFn Tryd.prog 72 = some F72 := by kernel_rfl
theorem hb72 : HasBody Tryd.prog 72 := ⟨_, Tryd.func72, by kernel_rfl, by kernel_rfl⟩
/-! internal/strconv.formatBits -/
-- f73: not compiled
/-! strings.Builder.Grow -/
abbrev c74_r1 : List Ins := [
  ⟨some 4, none, .mov (.t 0)⟩,
  ⟨some 5, none, .call (.c (.fn 82 [] [])) [.t 4]⟩]
abbrev c74_r2 : List Ins := [
  ⟨some 6, none, .mov (.t 1)⟩,
  ⟨some 7, none, .bin .lss (.t 6) (.c (.int .i64 0))⟩]
abbrev c74_r3 : List Ins := [
  ⟨some 8, none, .copy 0 (.c .undef) (.c .undef)⟩,
  ⟨none, none, .copy 0 (.c .undef) (.c .undef)⟩]
abbrev c74_r4 : List Ins := [
  ⟨some 9, none, .mov (.t 0)⟩,
  ⟨some 10, none, .nilck (.t 9)⟩,
  ⟨some 11, none, .faddr 1 (.t 10)⟩,
  ⟨some 12, none, .load 1 false (.t 11)⟩,
  ⟨some 13, none, .cap (.t 12)⟩,
  ⟨some 14, none, .mov (.t 0)⟩,
  ⟨some 15, none, .nilck (.t 14)⟩,
  ⟨some 16, none, .faddr 1 (.t 15)⟩,
  ⟨some 17, none, .load 1 false (.t 16)⟩,
  ⟨some 18, none, .len (.t 17)⟩,
  ⟨some 19, none, .bin .sub (.t 13) (.t 18)⟩,
  ⟨some 20, none, .mov (.t 1)⟩,
  ⟨some 21, none, .bin .lss (.t 19) (.t 20)⟩]
def c74_a4 : List (List Nat) := [[], [0], [1], [2], [3], [], [5], [6], [7], [8], [4, 9], [], [10, 11]]
abbrev c74_m4 : List Am.Mark := [⟨false, 0, 0⟩, ⟨false, 0, 0⟩, ⟨false, 0, 0⟩, ⟨false, 0, 0⟩, ⟨false, 0, 0⟩, ⟨false, 0, 0⟩, ⟨false, 0, 0⟩, ⟨false, 0, 0⟩, ⟨false, 0, 0⟩, ⟨false, 0, 0⟩, ⟨false, 0, 0⟩, ⟨false, 0, 0⟩, ⟨false, 0, 0⟩]
theorem c74_d4 : drawFine c74_r4 c74_a4 c74_m4 = true := by decide +kernel
abbrev c74_r5 : List Ins := [
  ⟨some 22, none, .mov (.t 0)⟩,
  ⟨some 23, none, .mov (.t 1)⟩,
  ⟨some 24, none, .call (.c (.fn 83 [] [])) [.t 22, .t 23]⟩]
abbrev c74 : IR := .seq (.reg c74_r1) (.seq (.seq (.reg c74_r2) (.cond (.t 7) (.reg c74_r3) (.skip))) (.seq (.dreg c74_r4 c74_a4) (.cond (.t 21) (.reg c74_r5) (.skip))))
abbrev F74 : FnA := ⟨25, c74, []⟩
theorem ok74 : cFn Tryd.prog 74 = some F74 := by kernel_rfl
theorem hb74 : HasBody Tryd.prog 74 := ⟨_, Tryd.func74, by kernel_rfl, by kernel_rfl⟩
/-! strings.Builder.WriteString -/
abbrev c75_r1 : List Ins := [
  ⟨some 4, none, .mov (.c (.int .i64 0))⟩,
  ⟨some 5, none, .mov (.c .niface)⟩]
abbrev c75_r2 : List Ins := [
  ⟨some 6, none, .mov (.t 0)⟩,
  ⟨some 7, none, .call (.c (.fn 82 [] [])) [.t 6]⟩]
abbrev c75_r3 : List Ins := [
  ⟨some 8, none, .mov (.t 0)⟩,
  ⟨some 9, none, .mov (.t 0)⟩,
  ⟨some 10, none, .nilck (.t 9)⟩,
  ⟨some 11, none, .faddr 1 (.t 10)⟩,
  ⟨some 12, none, .load 1 false (.t 11)⟩,
  ⟨some 13, none, .mov (.t 1)⟩,
  ⟨some 14, none, .append 1 1 (.t 12) (.t 13)⟩,
  ⟨some 15, none, .nilck (.t 8)⟩,
  ⟨some 16, none, .faddr 1 (.t 15)⟩,
  ⟨none, none, .store 1 (.t 16) (.t 14)⟩]
abbrev c75_r4 : List Ins := [
  ⟨some 17, none, .mov (.t 1)⟩,
  ⟨some 18, none, .lenS (.t 17)⟩,
  ⟨some 4, none, .mov (.t 18)⟩,
  ⟨some 5, none, .mov (.c .niface)⟩]
abbrev c75 : IR := .seq (.reg c75_r1) (.seq (.reg c75_r2) (.seq (.reg c75_r3) (.seq (.reg c75_r4) (.ret))))
abbrev F75 : FnA := ⟨19, c75, [.t 4, .t 5]⟩
theorem ok75 : cFn Tryd.prog 75 = some F75 := by kernel_rfl
theorem hb75 : HasBody Tryd.prog 75 := ⟨_, Tryd.func75, by kernel_rfl, by kernel_rfl⟩
/-! strings.Builder.String -/
-- f76: not compiled
/-! internal/strconv.log10Pow2 -/
abbrev c77_r1 : List Ins := [
  ⟨some 2, none, .mov (.c (.int .i64 0))⟩]
abbrev c77_r2 : List Ins := [
  ⟨some 3, none, .mov (.t 0)⟩,
  ⟨some 4, none, .bin .mul (.t 3) (.c (.int .i64 78913))⟩,
  ⟨some 5, none, .bin .shr (.t 4) (.c (.int .u64 18))⟩,
  ⟨some 2, none, .mov (.t 5)⟩]
abbrev c77 : IR := .seq (.reg c77_r1) (.seq (.reg c77_r2) (.ret))
abbrev F77 : FnA := ⟨6, c77, [.t 2]⟩
theorem ok77 : cFn Tryd.prog 77 = some F77 := by kernel_rfl
theorem hb77 : HasBody Tryd.prog 77 := ⟨_, Tryd.func77, by kernel_rfl, by kernel_rfl⟩
/-! math/bits.Len64 -/
abbrev c78_r1 : List Ins := [
  ⟨some 2, none, .mov (.c (.int .i64 0))⟩]
abbrev c78_r2 : List Ins := [
  ⟨some 3, none, .mov (.t 0)⟩,
  ⟨some 4, none, .bin .geq (.t 3) (.c (.int .u64 4294967296))⟩]
abbrev c78_r3 : List Ins := [
  ⟨some 5, none, .mov (.t 0)⟩,
  ⟨some 6, none, .bin .shr (.t 5) (.c (.int .u64 32))⟩,
  ⟨some 0, none, .mov (.t 6)⟩]
abbrev c78_r4 : List Ins := [
  ⟨some 2, none, .mov (.c (.int .i64 32))⟩]
abbrev c78_r5 : List Ins := [
  ⟨some 7, none, .mov (.t 0)⟩,
  ⟨some 8, none, .bin .geq (.t 7) (.c (.int .u64 65536))⟩]
abbrev c78_r6 : List Ins := [
  ⟨some 9, none, .mov (.t 0)⟩,
  ⟨some 10, none, .bin .shr (.t 9) (.c (.int .u64 16))⟩,
  ⟨some 0, none, .mov (.t 10)⟩]
abbrev c78_r7 : List Ins := [
  ⟨some 11, none, .mov (.t 2)⟩,
  ⟨some 12, none, .bin .add (.t 11) (.c (.int .i64 16))⟩,
  ⟨some 2, none, .mov (.t 12)⟩]
abbrev c78_r8 : List Ins := [
  ⟨some 13, none, .mov (.t 0)⟩,
  ⟨some 14, none, .bin .geq (.t 13) (.c (.int .u64 256))⟩]
abbrev c78_r9 : List Ins := [
  ⟨some 15, none, .mov (.t 0)⟩,
  ⟨some 16, none, .bin .shr (.t 15) (.c (.int .u64 8))⟩,
  ⟨some 0, none, .mov (.t 16)⟩]
abbrev c78_r10 : List Ins := [
  ⟨some 17, none, .mov (.t 2)⟩,
  ⟨some 18, none, .bin .add (.t 17) (.c (.int .i64 8))⟩,
  ⟨some 2, none, .mov (.t 18)⟩]
abbrev c78_r11 : List Ins := [
  ⟨some 19, none, .mov (.t 2)⟩,
  ⟨some 20, none, .mov (.t 0)⟩,
  ⟨some 21, none, .conv .u8 (.t 20)⟩,
  ⟨some 22, none, .idxS (.c (.str ⟨#[0, 1, 2, 2, 3, 3, 3, 3, 4, 4, 4, 4, 4, 4, 4, 4, 5, 5, 5, 5, 5, 5, 5, 5, 5, 5, 5, 5, 5, 5, 5, 5, 6, 6, 6, 6, 6, 6, 6, 6, 6, 6, 6, 6, 6, 6, 6, 6, 6, 6, 6, 6, 6, 6, 6, 6, 6, 6, 6, 6, 6, 6, 6, 6, 7, 7, 7, 7, 7, 7, 7, 7, 7, 7, 7, 7, 7, 7, 7, 7, 7, 7, 7, 7, 7, 7, 7, 7, 7, 7, 7, 7, 7, 7, 7, 7, 7, 7, 7, 7, 7, 7, 7, 7, 7, 7, 7, 7, 7, 7, 7, 7, 7, 7, 7, 7, 7, 7, 7, 7, 7, 7, 7, 7, 7, 7, 7, 7, 8, 8, 8, 8, 8, 8, 8, 8, 8, 8, 8, 8, 8, 8, 8, 8, 8, 8, 8, 8, 8, 8, 8, 8, 8, 8, 8, 8, 8, 8, 8, 8, 8, 8, 8, 8, 8, 8, 8, 8, 8, 8, 8, 8, 8, 8, 8, 8, 8, 8, 8, 8, 8, 8, 8, 8, 8, 8, 8, 8, 8, 8, 8, 8, 8, 8, 8, 8, 8, 8, 8, 8, 8, 8, 8, 8, 8, 8, 8, 8, 8, 8, 8, 8, 8, 8, 8, 8, 8, 8, 8, 8, 8, 8, 8, 8, 8, 8, 8, 8, 8, 8, 8, 8, 8, 8, 8, 8, 8, 8, 8, 8, 8, 8, 8, 8, 8, 8, 8, 8, 8, 8, 8, 8, 8, 8, 8, 8]⟩)) (.t 21)⟩,
  ⟨some 23, none, .conv .i64 (.t 22)⟩,
  ⟨some 24, none, .bin .add (.t 19) (.t 23)⟩,
  ⟨some 2, none, .mov (.t 24)⟩]
abbrev c78 : IR := .seq (.reg c78_r1) (.seq (.seq (.reg c78_r2) (.cond (.t 4) (.seq (.reg c78_r3) (.reg c78_r4)) (.skip))) (.seq (.seq (.reg c78_r5) (.cond (.t 8) (.seq (.reg c78_r6) (.reg c78_r7)) (.skip))) (.seq (.seq (.reg c78_r8) (.cond (.t 14) (.seq (.reg c78_r9) (.reg c78_r10)) (.skip))) (.seq (.reg c78_r11) (.ret)))))
abbrev F78 : FnA := ⟨25, c78, [.t 2]⟩
theorem ok78 : cFn Tryd.prog 78 = some F78 := by kernel_rfl
theorem hb78 : HasBody Tryd.prog 78 := ⟨_, Tryd.func78, by kernel_rfl, by kernel_rfl⟩
/-! internal/strconv.bool2:int -/
abbrev c79_r1 : List Ins := [
  ⟨some 2, none, .mov (.c (.int .i64 0))⟩]
abbrev c79_r2 : List Ins := [
  ⟨some 3, none, .mov (.t 0)⟩]
abbrev c79_r3 : List Ins := [
  ⟨some 2, none, .mov (.c (.int .i64 1))⟩]
abbrev c79_r4 : List Ins := [
  ⟨some 2, none, .mov (.c (.int .i64 0))⟩]
abbrev c79 : IR := .seq (.reg c79_r1) (.seq (.seq (.reg c79_r2) (.cond (.t 3) (.seq (.reg c79_r3) (.ret)) (.skip))) (.seq (.reg c79_r4) (.ret)))
abbrev F79 : FnA := ⟨4, c79, [.t 2]⟩
theorem ok79 : cFn Tryd.prog 79 = some F79 := by kernel_rfl
theorem hb79 : HasBody Tryd.prog 79 := ⟨_, Tryd.func79, by kernel_rfl, by kernel_rfl⟩
/-! internal/strconv.isPowerOfTwo -/
abbrev c80_r1 : List Ins := [
  ⟨some 2, none, .mov (.c (.bool false))⟩]
abbrev c80_r2 : List Ins := [
  ⟨some 3, none, .mov (.t 0)⟩,
  ⟨some 4, none, .mov (.t 0)⟩,
  ⟨some 5, none, .bin .sub (.t 4) (.c (.int .i64 1))⟩,
  ⟨some 6, none, .bin .and (.t 3) (.t 5)⟩,
  ⟨some 7, none, .bin .eql (.t 6) (.c (.int .i64 0))⟩,
  ⟨some 2, none, .mov (.t 7)⟩]
abbrev c80 : IR := .seq (.reg c80_r1) (.seq (.reg c80_r2) (.ret))
abbrev F80 : FnA := ⟨8, c80, [.t 2]⟩
theorem ok80 : cFn Tryd.prog 80 = some F80 := by kernel_rfl
theorem hb80 : HasBody Tryd.prog 80 := ⟨_, Tryd.func80, by kernel_rfl, by kernel_rfl⟩
/-! math/bits.TrailingZeros -/
abbrev c81_r1 : List Ins := [
  ⟨some 2, none, .mov (.c (.int .i64 0))⟩]
abbrev c81_r2 : List Ins := [
  ⟨some 3, none, .mov (.t 0)⟩,
  ⟨some 4, none, .conv .u32 (.t 3)⟩,
  ⟨some 5, none, .call (.c (.fn 84 [] [])) [.t 4]⟩,
  ⟨some 2, none, .mov (.t 5)⟩]
abbrev c81_r3 : List Ins := [
  ⟨some 6, none, .mov (.t 0)⟩,
  ⟨some 7, none, .call (.c (.fn 85 [] [])) [.t 6]⟩,
  ⟨some 2, none, .mov (.t 7)⟩]
abbrev c81 : IR := .seq (.reg c81_r1) (.seq (.cond (.c (.bool false)) (.seq (.reg c81_r2) (.ret)) (.skip)) (.seq (.reg c81_r3) (.ret)))
abbrev F81 : FnA := ⟨8, c81, [.t 2]⟩
theorem ok81 : cFn Tryd.prog 81 = some F81 := by kernel_rfl
theorem hb81 : HasBody Tryd.prog 81 := ⟨_, Tryd.func81, by kernel_rfl, by kernel_rfl⟩
/-! strings.Builder.copyCheck -/
-- f82: not compiled
/-! strings.Builder.grow -/
-- f83: not compiled
/-! math/bits.TrailingZeros32 -/
-- f84: not compiled
/-! math/bits.TrailingZeros64 -/
-- f85: not compiled
/-! internal/abi.NoEscape -/
-- f86: not compiled
/-! internal/bytealg.MakeNoZero -/
-- f87: not compiled


end Go.Proofs
