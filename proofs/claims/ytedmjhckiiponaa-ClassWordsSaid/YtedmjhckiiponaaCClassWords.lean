/- The code of the functions that the statement reaches, as the abstract machine reads it. -/
import Derived.Test.YtedmjhckiiponaaK4
import Derived.Test.YtedmjhckiiponaaProg
import Derived.Test.YtedmjhckiiponaaCClassWordsa
namespace Go.Proofs
open Go Go.RowKit Go.Am

/-! slices.Clone:Step -/
abbrev c137_r1 : List Ins := [
  ⟨some 2, none, .mov (.c (.sl .full []))⟩]
abbrev c137_r2 : List Ins := [
  ⟨some 3, none, .mov (.t 0)⟩,
  ⟨some 4, none, .isnil false (.t 3)⟩]
abbrev c137_r3 : List Ins := [
  ⟨some 2, none, .mov (.c (.sl .full []))⟩]
abbrev c137_r4 : List Ins := [
  ⟨some 5, none, .bsl 2 0 [.sl .full [], .sl .full []] []⟩,
  ⟨some 6, none, .mov (.t 0)⟩,
  ⟨some 7, none, .append 2 48 (.t 5) (.t 6)⟩,
  ⟨some 2, none, .mov (.t 7)⟩]
abbrev c137 : IR := .seq (.reg c137_r1) (.seq (.seq (.reg c137_r2) (.cond (.t 4) (.seq (.reg c137_r3) (.ret)) (.skip))) (.seq (.reg c137_r4) (.ret)))
abbrev F137 : FnA := ⟨8, c137, [.t 2]⟩
theorem ok137 : cFn Try.prog 137 = some F137 := by kernel_rfl
theorem hb137 : HasBody Try.prog 137 := ⟨_, Try.func137, by kernel_rfl, by kernel_rfl⟩
/-! slices.Clone:Instr -/
abbrev c138_r1 : List Ins := [
  ⟨some 2, none, .mov (.c (.sl .full []))⟩]
abbrev c138_r2 : List Ins := [
  ⟨some 3, none, .mov (.t 0)⟩,
  ⟨some 4, none, .isnil false (.t 3)⟩]
abbrev c138_r3 : List Ins := [
  ⟨some 2, none, .mov (.c (.sl .full []))⟩]
abbrev c138_r4 : List Ins := [
  ⟨some 5, none, .bsl 9 0 [.int .i64 0, .int .i64 0, .int .i64 0, .int .i64 0, .int .i64 0, .int .i64 0, .int .i64 0, .int .i64 0, .int .i64 0] []⟩,
  ⟨some 6, none, .mov (.t 0)⟩,
  ⟨some 7, none, .append 9 72 (.t 5) (.t 6)⟩,
  ⟨some 2, none, .mov (.t 7)⟩]
abbrev c138 : IR := .seq (.reg c138_r1) (.seq (.seq (.reg c138_r2) (.cond (.t 4) (.seq (.reg c138_r3) (.ret)) (.skip))) (.seq (.reg c138_r4) (.ret)))
abbrev F138 : FnA := ⟨8, c138, [.t 2]⟩
theorem ok138 : cFn Try.prog 138 = some F138 := by kernel_rfl
theorem hb138 : HasBody Try.prog 138 := ⟨_, Try.func138, by kernel_rfl, by kernel_rfl⟩
/-! slices.Clone:SpanT -/
abbrev c139_r1 : List Ins := [
  ⟨some 2, none, .mov (.c (.sl .full []))⟩]
abbrev c139_r2 : List Ins := [
  ⟨some 3, none, .mov (.t 0)⟩,
  ⟨some 4, none, .isnil false (.t 3)⟩]
abbrev c139_r3 : List Ins := [
  ⟨some 2, none, .mov (.c (.sl .full []))⟩]
abbrev c139_r4 : List Ins := [
  ⟨some 5, none, .bsl 5 0 [.int .i64 0, .int .i64 0, .int .i64 0, .int .i64 0, .bool false] []⟩,
  ⟨some 6, none, .mov (.t 0)⟩,
  ⟨some 7, none, .append 5 40 (.t 5) (.t 6)⟩,
  ⟨some 2, none, .mov (.t 7)⟩]
abbrev c139 : IR := .seq (.reg c139_r1) (.seq (.seq (.reg c139_r2) (.cond (.t 4) (.seq (.reg c139_r3) (.ret)) (.skip))) (.seq (.reg c139_r4) (.ret)))
abbrev F139 : FnA := ⟨8, c139, [.t 2]⟩
theorem ok139 : cFn Try.prog 139 = some F139 := by kernel_rfl
theorem hb139 : HasBody Try.prog 139 := ⟨_, Try.func139, by kernel_rfl, by kernel_rfl⟩
/-! slices.ContainsFunc:Instr -/
abbrev c142_r1 : List Ins := [
  ⟨some 4, none, .mov (.c (.bool false))⟩]
abbrev c142_r2 : List Ins := [
  ⟨some 5, none, .mov (.t 0)⟩,
  ⟨some 6, none, .mov (.t 1)⟩,
  ⟨some 7, none, .call (.c (.fn 153 [] [])) [.t 5, .t 6]⟩,
  ⟨some 8, none, .bin .geq (.t 7) (.c (.int .i64 0))⟩,
  ⟨some 4, none, .mov (.t 8)⟩]
abbrev c142 : IR := .seq (.reg c142_r1) (.seq (.reg c142_r2) (.ret))
abbrev F142 : FnA := ⟨9, c142, [.t 4]⟩
theorem ok142 : cFn Try.prog 142 = some F142 := by kernel_rfl
theorem hb142 : HasBody Try.prog 142 := ⟨_, Try.func142, by kernel_rfl, by kernel_rfl⟩
/-! prog.May$1 -/
abbrev c143_r1 : List Ins := [
  ⟨some 2, none, .box (.t 0)⟩,
  ⟨some 3, none, .mov (.c (.bool false))⟩]
abbrev c143_r2 : List Ins := [
  ⟨some 4, none, .load 9 true (.t 2)⟩,
  ⟨some 5, none, .load 1 false (.t 1)⟩,
  ⟨some 6, none, .call (.c (.fn 144 [] [])) [.t 4, .t 5]⟩,
  ⟨some 7, none, .un .not (.t 6)⟩,
  ⟨some 3, none, .mov (.t 7)⟩]
abbrev c143 : IR := .seq (.reg c143_r1) (.seq (.reg c143_r2) (.ret))
abbrev F143 : FnA := ⟨8, c143, [.t 3]⟩
theorem ok143 : cFn Try.prog 143 = some F143 := by kernel_rfl
theorem hb143 : HasBody Try.prog 143 := ⟨_, Try.func143, by kernel_rfl, by kernel_rfl⟩
/-! prog.may -/
abbrev c144_r1 : List Ins := [
  ⟨some 2, none, .box (.t 0)⟩,
  ⟨some 3, none, .box (.t 1)⟩,
  ⟨some 4, none, .mov (.c (.bool false))⟩]
abbrev c144_r2 : List Ins := [
  ⟨some 9, none, .load 9 true (.t 2)⟩,
  ⟨some 10, none, .call (.c (.fn 154 [] [])) [.t 9]⟩,
  ⟨some 8, none, .mov (.t 10)⟩,
  ⟨some 11, none, .ext (.t 8) 0⟩,
  ⟨some 12, none, .ext (.t 8) 1⟩,
  ⟨some 5, none, .alloc [.int .i64 0, .int .i64 0, .int .i64 0, .int .i64 0, .int .i64 0, .int .i64 0, .int .i64 0, .int .i64 0, .int .i64 0]⟩,
  ⟨none, none, .store 9 (.t 5) (.t 11)⟩,
  ⟨some 6, none, .mov (.t 12)⟩]
abbrev c144_r3 : List Ins := [
  ⟨some 13, none, .mkfn 155 [] [.t 3]⟩,
  ⟨some 7, none, .mov (.t 13)⟩]
abbrev c144_r4 : List Ins := [
  ⟨some 14, none, .mov (.t 6)⟩,
  ⟨some 15, none, .mov (.t 14)⟩,
  ⟨some 16, some (15, true), .load 9 true (.t 2)⟩,
  ⟨some 17, some (15, true), .load 9 true (.t 5)⟩,
  ⟨some 18, some (15, true), .eq [.i, .i, .i, .i, .i, .i, .i, .i, .i] true false (.t 16) (.t 17)⟩,
  ⟨some 19, none, .pick (.t 15) (.t 18) (.c (.bool false))⟩,
  ⟨some 20, none, .mov (.t 19)⟩,
  ⟨some 21, some (20, true), .faddr 1 (.t 2)⟩,
  ⟨some 22, some (20, true), .load 1 false (.t 21)⟩,
  ⟨some 23, some (20, true), .call (.c (.fn 157 [] [])) [.t 22]⟩,
  ⟨some 24, none, .pick (.t 20) (.t 23) (.c (.bool false))⟩,
  ⟨some 25, none, .mov (.t 24)⟩,
  ⟨some 26, some (25, true), .faddr 2 (.t 2)⟩,
  ⟨some 27, some (25, true), .load 1 false (.t 26)⟩,
  ⟨some 28, some (25, true), .call (.c (.fn 157 [] [])) [.t 27]⟩,
  ⟨some 29, none, .pick (.t 25) (.t 28) (.c (.bool false))⟩,
  ⟨some 30, none, .mov (.t 29)⟩,
  ⟨some 31, some (30, true), .faddr 3 (.t 2)⟩,
  ⟨some 32, some (30, true), .load 1 false (.t 31)⟩,
  ⟨some 33, some (30, true), .call (.c (.fn 157 [] [])) [.t 32]⟩,
  ⟨some 34, none, .pick (.t 30) (.t 33) (.c (.bool false))⟩,
  ⟨some 35, none, .mov (.t 34)⟩,
  ⟨some 36, some (35, true), .load 9 true (.t 2)⟩,
  ⟨some 37, some (35, true), .call (.c (.fn 159 [] [])) [.t 36]⟩,
  ⟨some 38, some (35, true), .mov (.t 7)⟩,
  ⟨some 39, some (35, true), .call (.c (.fn 158 [] [])) [.t 37, .t 38]⟩,
  ⟨some 40, some (35, true), .un .not (.t 39)⟩,
  ⟨some 41, none, .pick (.t 35) (.t 40) (.c (.bool false))⟩,
  ⟨some 4, none, .mov (.t 41)⟩]
abbrev c144 : IR := .seq (.reg c144_r1) (.seq (.reg c144_r2) (.seq (.reg c144_r3) (.seq (.reg c144_r4) (.ret))))
abbrev F144 : FnA := ⟨42, c144, [.t 4]⟩
theorem ok144 : cFn Try.prog 144 = some F144 := by kernel_rfl
theorem hb144 : HasBody Try.prog 144 := ⟨_, Try.func144, by kernel_rfl, by kernel_rfl⟩
/-! foot.May$1 -/
abbrev c145_r1 : List Ins := [
  ⟨some 2, none, .box (.t 0)⟩,
  ⟨some 3, none, .mov (.c (.bool false))⟩]
abbrev c145_r2 : List Ins := [
  ⟨some 4, none, .faddr 0 (.t 2)⟩,
  ⟨some 5, none, .load 2 true (.t 4)⟩,
  ⟨some 6, none, .call (.c (.fn 146 [] [])) [.t 5]⟩,
  ⟨some 7, none, .load 1 false (.t 1)⟩,
  ⟨some 8, none, .call (.c (.fn 119 [] [])) [.t 6, .t 7]⟩,
  ⟨some 9, none, .un .not (.t 8)⟩,
  ⟨some 10, none, .mov (.t 9)⟩,
  ⟨some 11, some (10, false), .faddr 2 (.t 2)⟩,
  ⟨some 12, some (10, false), .load 2 true (.t 11)⟩,
  ⟨some 13, some (10, false), .call (.c (.fn 146 [] [])) [.t 12]⟩,
  ⟨some 14, some (10, false), .load 1 false (.t 1)⟩,
  ⟨some 15, some (10, false), .call (.c (.fn 119 [] [])) [.t 13, .t 14]⟩,
  ⟨some 16, some (10, false), .un .not (.t 15)⟩,
  ⟨some 17, none, .pick (.t 10) (.c (.bool true)) (.t 16)⟩,
  ⟨some 3, none, .mov (.t 17)⟩]
def c145_a2 : List (List Nat) := [[], [0], [1], [], [2, 3, 2], [4], [5, 4], [6], [7, 6], [8, 6, 6], [6], [9, 10, 9, 6], [11, 6], [6, 12], [13, 11, 0, 1, 2, 3, 4, 5, 6, 7, 8, 9, 10, 11, 12, 13]]
abbrev c145_m2 : List Am.Mark := [⟨false, 0, 0⟩, ⟨false, 0, 0⟩, ⟨false, 0, 0⟩, ⟨false, 0, 0⟩, ⟨false, 0, 0⟩, ⟨false, 0, 0⟩, ⟨false, 0, 0⟩, ⟨false, 0, 0⟩, ⟨false, 0, 0⟩, ⟨false, 0, 0⟩, ⟨false, 0, 0⟩, ⟨false, 0, 0⟩, ⟨false, 0, 0⟩, ⟨false, 0, 0⟩, ⟨false, 0, 0⟩]
theorem c145_d2 : drawFine c145_r2 c145_a2 c145_m2 = true := by decide +kernel
abbrev c145 : IR := .seq (.reg c145_r1) (.seq (.dreg c145_r2 c145_a2) (.ret))
abbrev F145 : FnA := ⟨18, c145, [.t 3]⟩
theorem ok145 : cFn Try.prog 145 = some F145 := by kernel_rfl
theorem hb145 : HasBody Try.prog 145 := ⟨_, Try.func145, by kernel_rfl, by kernel_rfl⟩
/-! foot.reads -/
abbrev c146_r1 : List Ins := [
  ⟨some 1, none, .box (.t 0)⟩,
  ⟨some 2, none, .mov (.c (.sl .full []))⟩]
abbrev c146_r2 : List Ins := [
  ⟨some 3, none, .load 2 true (.t 1)⟩,
  ⟨some 4, none, .build [.int .i64 0, .int .i64 0, .int .i64 0, .int .i64 0, .int .i64 0, .int .i64 0, .int .i64 0, .int .i64 0, .int .i64 0] [(0, (1, .c (.int .i64 1))), (4, (2, .t 3))]⟩,
  ⟨some 5, none, .bsl 9 1 [.int .i64 0, .int .i64 0, .int .i64 0, .int .i64 0, .int .i64 0, .int .i64 0, .int .i64 0, .int .i64 0, .int .i64 0] [(0, .t 4)]⟩,
  ⟨some 2, none, .mov (.t 5)⟩]
abbrev c146 : IR := .seq (.reg c146_r1) (.seq (.reg c146_r2) (.ret))
abbrev F146 : FnA := ⟨6, c146, [.t 2]⟩
theorem ok146 : cFn Try.prog 146 = some F146 := by kernel_rfl
theorem hb146 : HasBody Try.prog 146 := ⟨_, Try.func146, by kernel_rfl, by kernel_rfl⟩
/-! slices.ContainsFunc:SpanT -/
abbrev c147_r1 : List Ins := [
  ⟨some 4, none, .mov (.c (.bool false))⟩]
abbrev c147_r2 : List Ins := [
  ⟨some 5, none, .mov (.t 0)⟩,
  ⟨some 6, none, .mov (.t 1)⟩,
  ⟨some 7, none, .call (.c (.fn 160 [] [])) [.t 5, .t 6]⟩,
  ⟨some 8, none, .bin .geq (.t 7) (.c (.int .i64 0))⟩,
  ⟨some 4, none, .mov (.t 8)⟩]
abbrev c147 : IR := .seq (.reg c147_r1) (.seq (.reg c147_r2) (.ret))
abbrev F147 : FnA := ⟨9, c147, [.t 4]⟩
theorem ok147 : cFn Try.prog 147 = some F147 := by kernel_rfl
theorem hb147 : HasBody Try.prog 147 := ⟨_, Try.func147, by kernel_rfl, by kernel_rfl⟩
/-! prog.Sure -/
abbrev c148_r1 : List Ins := [
  ⟨some 2, none, .mov (.c (.bool false))⟩]
abbrev c148_r2 : List Ins := [
  ⟨some 3, none, .mov (.t 0)⟩,
  ⟨some 4, none, .call (.c (.fn 142 [] [])) [.t 3, .c (.fn 161 [] [])]⟩,
  ⟨some 5, none, .un .not (.t 4)⟩,
  ⟨some 2, none, .mov (.t 5)⟩]
abbrev c148 : IR := .seq (.reg c148_r1) (.seq (.reg c148_r2) (.ret))
abbrev F148 : FnA := ⟨6, c148, [.t 2]⟩
theorem ok148 : cFn Try.prog 148 = some F148 := by kernel_rfl
theorem hb148 : HasBody Try.prog 148 := ⟨_, Try.func148, by kernel_rfl, by kernel_rfl⟩
/-! prog.getKey -/
abbrev c149_r1 : List Ins := [
  ⟨some 2, none, .alloc [.int .i64 0, .int .i64 0]⟩]
abbrev c149_r2 : List Ins := [
  ⟨some 4, none, .mov (.t 0)⟩,
  ⟨some 5, none, .call (.c (.fn 69 [] [])) [.t 4]⟩,
  ⟨some 3, none, .mov (.t 5)⟩]
abbrev c149_r3 : List Ins := [
  ⟨some 6, none, .mov (.t 3)⟩,
  ⟨some 7, none, .bin .lss (.t 6) (.c (.int .i64 (-1)))⟩,
  ⟨some 8, none, .mov (.t 7)⟩,
  ⟨some 9, some (8, false), .mov (.t 3)⟩,
  ⟨some 10, some (8, false), .bin .gtr (.t 9) (.c (.int .i64 255))⟩,
  ⟨some 11, none, .pick (.t 8) (.c (.bool true)) (.t 10)⟩]
abbrev c149_r4 : List Ins := [
  ⟨some 12, none, .mov (.t 0)⟩,
  ⟨some 13, none, .call (.c (.fn 68 [] [])) [.t 12, .c (.int .i64 (-1))]⟩]
abbrev c149_r5 : List Ins := [
  ⟨some 14, none, .build [.int .i64 0, .int .i64 0] []⟩,
  ⟨none, none, .store 2 (.t 2) (.t 14)⟩]
abbrev c149_r6 : List Ins := [
  ⟨some 15, none, .mov (.t 3)⟩,
  ⟨some 16, none, .mov (.t 0)⟩,
  ⟨some 17, none, .call (.c (.fn 68 [] [])) [.t 16, .c (.int .i64 999)]⟩,
  ⟨some 18, none, .build [.int .i64 0, .int .i64 0] [(0, (1, .t 15)), (1, (1, .t 17))]⟩,
  ⟨none, none, .store 2 (.t 2) (.t 18)⟩]
abbrev c149 : IR := .seq (.reg c149_r1) (.seq (.reg c149_r2) (.seq (.seq (.reg c149_r3) (.cond (.t 11) (.seq (.reg c149_r4) (.seq (.reg c149_r5) (.ret))) (.skip))) (.seq (.reg c149_r6) (.ret))))
abbrev F149 : FnA := ⟨19, c149, [.cell 2 2 true]⟩
theorem ok149 : cFn Try.prog 149 = some F149 := by kernel_rfl
theorem hb149 : HasBody Try.prog 149 := ⟨_, Try.func149, by kernel_rfl, by kernel_rfl⟩
/-! foot.template -/
abbrev c150_r1 : List Ins := [
  ⟨some 2, none, .alloc [.int .i64 0, .int .i64 0]⟩]
abbrev c150_r2 : List Ins := [
  ⟨some 4, none, .mov (.t 0)⟩,
  ⟨some 5, none, .call (.c (.fn 69 [] [])) [.t 4]⟩,
  ⟨some 3, none, .mov (.t 5)⟩]
abbrev c150_r3 : List Ins := [
  ⟨some 6, none, .mov (.t 3)⟩,
  ⟨some 7, none, .bin .lss (.t 6) (.c (.int .i64 (-1)))⟩,
  ⟨some 8, none, .mov (.t 7)⟩,
  ⟨some 9, some (8, false), .mov (.t 3)⟩,
  ⟨some 10, some (8, false), .bin .gtr (.t 9) (.c (.int .i64 255))⟩,
  ⟨some 11, none, .pick (.t 8) (.c (.bool true)) (.t 10)⟩]
abbrev c150_r4 : List Ins := [
  ⟨some 12, none, .mov (.t 0)⟩,
  ⟨some 13, none, .call (.c (.fn 68 [] [])) [.t 12, .c (.int .i64 (-1))]⟩]
abbrev c150_r5 : List Ins := [
  ⟨some 14, none, .mov (.t 3)⟩,
  ⟨some 15, none, .mov (.t 0)⟩,
  ⟨some 16, none, .call (.c (.fn 68 [] [])) [.t 15, .c (.int .i64 999)]⟩,
  ⟨some 17, none, .build [.int .i64 0, .int .i64 0] [(0, (1, .t 14)), (1, (1, .t 16))]⟩,
  ⟨none, none, .store 2 (.t 2) (.t 17)⟩]
abbrev c150 : IR := .seq (.reg c150_r1) (.seq (.reg c150_r2) (.seq (.seq (.reg c150_r3) (.cond (.t 11) (.reg c150_r4) (.skip))) (.seq (.reg c150_r5) (.ret))))
abbrev F150 : FnA := ⟨18, c150, [.cell 2 2 true]⟩
theorem ok150 : cFn Try.prog 150 = some F150 := by kernel_rfl
theorem hb150 : HasBody Try.prog 150 := ⟨_, Try.func150, by kernel_rfl, by kernel_rfl⟩
/-! prog.counts -/
abbrev c151_r1 : List Ins := [
  ⟨some 6, none, .mov (.t 1)⟩,
  ⟨some 7, none, .len (.t 6)⟩,
  ⟨some 8, none, .mov (.c (.int .i64 0))⟩]
abbrev c151_r2 : List Ins := [
  ⟨some 9, none, .bin .lss (.t 8) (.t 7)⟩]
abbrev c151_r3 : List Ins := [
  ⟨some 10, none, .iaddr 1 (.t 6) (.t 8)⟩,
  ⟨some 11, none, .load 1 false (.t 10)⟩,
  ⟨some 5, none, .mov (.t 11)⟩]
abbrev c151_r4 : List Ins := [
  ⟨some 12, none, .mov (.t 0)⟩,
  ⟨some 13, none, .mov (.t 5)⟩,
  ⟨some 14, none, .call (.c (.fn 56 [] [])) [.t 12, .t 13]⟩]
abbrev c151_r5 : List Ins := [
  ⟨some 15, none, .bin .add (.t 8) (.c (.int .i64 1))⟩,
  ⟨some 8, none, .mov (.t 15)⟩]
abbrev c151_l6 : IR := .seq (.reg c151_r2) (.seq (.cond (.t 9) (.skip) (.exit 0)) (.seq (.blk 1 (.seq (.reg c151_r3) (.reg c151_r4))) (.reg c151_r5)))
abbrev c151 : IR := .seq (.reg c151_r1) (.blk 0 (.loop c151_l6))
abbrev F151 : FnA := ⟨16, c151, []⟩
theorem ok151 : cFn Try.prog 151 = some F151 := by kernel_rfl
theorem hb151 : HasBody Try.prog 151 := ⟨_, Try.func151, by kernel_rfl, by kernel_rfl⟩
/-! foot.templates -/
abbrev c152_r1 : List Ins := [
  ⟨some 6, none, .mov (.t 1)⟩,
  ⟨some 7, none, .len (.t 6)⟩,
  ⟨some 8, none, .mov (.c (.int .i64 0))⟩]
abbrev c152_r2 : List Ins := [
  ⟨some 9, none, .bin .lss (.t 8) (.t 7)⟩]
abbrev c152_r3 : List Ins := [
  ⟨some 10, none, .iaddr 2 (.t 6) (.t 8)⟩,
  ⟨some 11, none, .load 2 true (.t 10)⟩,
  ⟨some 5, none, .alloc [.int .i64 0, .int .i64 0]⟩,
  ⟨none, none, .store 2 (.t 5) (.t 11)⟩]
abbrev c152_r4 : List Ins := [
  ⟨some 12, none, .mov (.t 0)⟩,
  ⟨some 13, none, .faddr 0 (.t 5)⟩,
  ⟨some 14, none, .load 1 false (.t 13)⟩,
  ⟨some 15, none, .call (.c (.fn 54 [] [])) [.t 12, .t 14]⟩]
abbrev c152_r5 : List Ins := [
  ⟨some 16, none, .mov (.t 0)⟩,
  ⟨some 17, none, .faddr 1 (.t 5)⟩,
  ⟨some 18, none, .load 1 false (.t 17)⟩,
  ⟨some 19, none, .call (.c (.fn 56 [] [])) [.t 16, .t 18]⟩]
abbrev c152_r6 : List Ins := [
  ⟨some 20, none, .bin .add (.t 8) (.c (.int .i64 1))⟩,
  ⟨some 8, none, .mov (.t 20)⟩]
abbrev c152_l7 : IR := .seq (.reg c152_r2) (.seq (.cond (.t 9) (.skip) (.exit 0)) (.seq (.blk 1 (.seq (.reg c152_r3) (.seq (.reg c152_r4) (.reg c152_r5)))) (.reg c152_r6)))
abbrev c152 : IR := .seq (.reg c152_r1) (.blk 0 (.loop c152_l7))
abbrev F152 : FnA := ⟨21, c152, []⟩
theorem ok152 : cFn Try.prog 152 = some F152 := by kernel_rfl
theorem hb152 : HasBody Try.prog 152 := ⟨_, Try.func152, by kernel_rfl, by kernel_rfl⟩
/-! slices.IndexFunc:Instr -/
abbrev c153_r1 : List Ins := [
  ⟨some 4, none, .mov (.c (.int .i64 0))⟩]
abbrev c153_r2 : List Ins := [
  ⟨some 6, none, .mov (.t 0)⟩,
  ⟨some 7, none, .len (.t 6)⟩,
  ⟨some 8, none, .mov (.c (.int .i64 0))⟩]
abbrev c153_r3 : List Ins := [
  ⟨some 9, none, .bin .lss (.t 8) (.t 7)⟩]
abbrev c153_r4 : List Ins := [
  ⟨some 10, none, .mov (.t 8)⟩,
  ⟨some 5, none, .mov (.t 10)⟩]
abbrev c153_r5 : List Ins := [
  ⟨some 11, none, .mov (.t 1)⟩,
  ⟨some 12, none, .mov (.t 0)⟩,
  ⟨some 13, none, .mov (.t 5)⟩,
  ⟨some 14, none, .iaddr 9 (.t 12) (.t 13)⟩,
  ⟨some 15, none, .load 9 true (.t 14)⟩,
  ⟨some 16, none, .call (.t 11) [.t 15]⟩]
abbrev c153_r6 : List Ins := [
  ⟨some 17, none, .mov (.t 5)⟩,
  ⟨some 4, none, .mov (.t 17)⟩]
abbrev c153_r7 : List Ins := [
  ⟨some 18, none, .bin .add (.t 8) (.c (.int .i64 1))⟩,
  ⟨some 8, none, .mov (.t 18)⟩]
abbrev c153_l8 : IR := .seq (.reg c153_r3) (.seq (.cond (.t 9) (.skip) (.exit 0)) (.seq (.blk 1 (.seq (.reg c153_r4) (.seq (.reg c153_r5) (.cond (.t 16) (.seq (.reg c153_r6) (.ret)) (.skip))))) (.reg c153_r7)))
abbrev c153_r9 : List Ins := [
  ⟨some 4, none, .mov (.c (.int .i64 (-1)))⟩]
abbrev c153 : IR := .seq (.reg c153_r1) (.seq (.seq (.reg c153_r2) (.blk 0 (.loop c153_l8))) (.seq (.reg c153_r9) (.ret)))
abbrev F153 : FnA := ⟨19, c153, [.t 4]⟩
theorem ok153 : cFn Try.prog 153 = some F153 := by kernel_rfl
theorem hb153 : HasBody Try.prog 153 := ⟨_, Try.func153, by kernel_rfl, by kernel_rfl⟩
/-! prog.only -/
abbrev c154_r1 : List Ins := [
  ⟨some 1, none, .box (.t 0)⟩,
  ⟨some 2, none, .alloc [.int .i64 0, .int .i64 0, .int .i64 0, .int .i64 0, .int .i64 0, .int .i64 0, .int .i64 0, .int .i64 0, .int .i64 0]⟩,
  ⟨some 3, none, .mov (.c (.bool false))⟩]
abbrev c154_r2 : List Ins := [
  ⟨some 5, none, .faddr 0 (.t 1)⟩,
  ⟨some 6, none, .load 1 false (.t 5)⟩,
  ⟨some 7, none, .faddr 1 (.t 1)⟩,
  ⟨some 8, none, .load 1 false (.t 7)⟩,
  ⟨some 9, none, .build [.int .i64 0, .int .i64 0, .int .i64 0, .int .i64 0, .int .i64 0, .int .i64 0, .int .i64 0, .int .i64 0, .int .i64 0] [(0, (1, .t 6)), (1, (1, .t 8))]⟩,
  ⟨some 4, none, .alloc [.int .i64 0, .int .i64 0, .int .i64 0, .int .i64 0, .int .i64 0, .int .i64 0, .int .i64 0, .int .i64 0, .int .i64 0]⟩,
  ⟨none, none, .store 9 (.t 4) (.t 9)⟩]
abbrev c154_r3 : List Ins := [
  ⟨some 10, none, .faddr 0 (.t 1)⟩,
  ⟨some 11, none, .load 1 false (.t 10)⟩]
abbrev c154_r4 : List Ins := [
  ⟨some 14, none, .bin .eql (.t 11) (.c (.int .i64 1))⟩,
  ⟨some 13, none, .mov (.t 14)⟩]
abbrev c154_r5 : List Ins := [
  ⟨some 15, none, .bin .eql (.t 11) (.c (.int .i64 2))⟩,
  ⟨some 13, none, .mov (.t 15)⟩]
abbrev c154_r6 : List Ins := [
  ⟨some 16, none, .faddr 4 (.t 1)⟩,
  ⟨some 17, none, .load 2 true (.t 16)⟩,
  ⟨some 18, none, .faddr 4 (.t 4)⟩,
  ⟨none, none, .store 2 (.t 18) (.t 17)⟩]
abbrev c154_r7 : List Ins := [
  ⟨some 20, none, .bin .eql (.t 11) (.c (.int .i64 3))⟩,
  ⟨some 19, none, .mov (.t 20)⟩]
abbrev c154_r8 : List Ins := [
  ⟨some 21, none, .faddr 4 (.t 1)⟩,
  ⟨some 22, none, .load 2 true (.t 21)⟩,
  ⟨some 23, none, .faddr 1 (.t 4)⟩,
  ⟨none, none, .store 1 (.t 23) (.c (.int .i64 0))⟩,
  ⟨some 24, none, .faddr 4 (.t 4)⟩,
  ⟨none, none, .store 2 (.t 24) (.t 22)⟩]
def c154_a8 : List (List Nat) := [[], [0], [], [2], [0, 1, 2, 3], [4, 1, 3, 0, 1, 2, 3]]
abbrev c154_m8 : List Am.Mark := [⟨false, 0, 1⟩, ⟨false, 0, 1⟩, ⟨false, 0, 0⟩, ⟨true, 0, 1⟩, ⟨false, 1, 1⟩, ⟨true, 1, 2⟩]
theorem c154_d8 : drawFine c154_r8 c154_a8 c154_m8 = true := by decide +kernel
abbrev c154_r9 : List Ins := [
  ⟨some 26, none, .bin .eql (.t 11) (.c (.int .i64 4))⟩,
  ⟨some 25, none, .mov (.t 26)⟩]
abbrev c154_r10 : List Ins := [
  ⟨some 27, none, .faddr 4 (.t 1)⟩,
  ⟨some 28, none, .load 2 true (.t 27)⟩,
  ⟨some 29, none, .faddr 6 (.t 1)⟩,
  ⟨some 30, none, .load 2 true (.t 29)⟩,
  ⟨some 31, none, .faddr 4 (.t 4)⟩,
  ⟨none, none, .store 2 (.t 31) (.t 28)⟩,
  ⟨some 32, none, .faddr 6 (.t 4)⟩,
  ⟨none, none, .store 2 (.t 32) (.t 30)⟩]
def c154_a10 : List (List Nat) := [[], [0], [], [2], [0, 1], [4, 1, 0, 1], [0, 1, 2, 3, 4, 5], [6, 3, 5, 0, 1, 2, 3, 4, 5]]
abbrev c154_m10 : List Am.Mark := [⟨false, 0, 0⟩, ⟨false, 0, 0⟩, ⟨false, 0, 1⟩, ⟨false, 0, 1⟩, ⟨false, 0, 0⟩, ⟨true, 0, 1⟩, ⟨false, 1, 1⟩, ⟨true, 1, 2⟩]
theorem c154_d10 : drawFine c154_r10 c154_a10 c154_m10 = true := by decide +kernel
abbrev c154_r11 : List Ins := [
  ⟨some 34, none, .bin .eql (.t 11) (.c (.int .i64 5))⟩,
  ⟨some 33, none, .mov (.t 34)⟩]
abbrev c154_r12 : List Ins := [
  ⟨some 35, none, .bin .eql (.t 11) (.c (.int .i64 8))⟩,
  ⟨some 33, none, .mov (.t 35)⟩]
abbrev c154_r13 : List Ins := [
  ⟨some 36, none, .faddr 8 (.t 1)⟩,
  ⟨some 37, none, .load 1 false (.t 36)⟩,
  ⟨some 38, none, .faddr 8 (.t 4)⟩,
  ⟨none, none, .store 1 (.t 38) (.t 37)⟩]
abbrev c154_r14 : List Ins := [
  ⟨some 40, none, .bin .eql (.t 11) (.c (.int .i64 6))⟩,
  ⟨some 39, none, .mov (.t 40)⟩]
abbrev c154_r15 : List Ins := [
  ⟨some 41, none, .bin .eql (.t 11) (.c (.int .i64 7))⟩,
  ⟨some 39, none, .mov (.t 41)⟩]
abbrev c154_r16 : List Ins := [
  ⟨some 42, none, .faddr 2 (.t 1)⟩,
  ⟨some 43, none, .load 1 false (.t 42)⟩,
  ⟨some 44, none, .faddr 3 (.t 1)⟩,
  ⟨some 45, none, .load 1 false (.t 44)⟩,
  ⟨some 46, none, .faddr 2 (.t 4)⟩,
  ⟨none, none, .store 1 (.t 46) (.t 43)⟩,
  ⟨some 47, none, .faddr 3 (.t 4)⟩,
  ⟨none, none, .store 1 (.t 47) (.t 45)⟩]
def c154_a16 : List (List Nat) := [[], [0], [], [2], [0, 1], [4, 1, 0, 1], [0, 1, 2, 3, 4, 5], [6, 3, 5, 0, 1, 2, 3, 4, 5]]
abbrev c154_m16 : List Am.Mark := [⟨false, 0, 0⟩, ⟨false, 0, 0⟩, ⟨false, 0, 1⟩, ⟨false, 0, 1⟩, ⟨false, 0, 0⟩, ⟨true, 0, 1⟩, ⟨false, 1, 1⟩, ⟨true, 1, 2⟩]
theorem c154_d16 : drawFine c154_r16 c154_a16 c154_m16 = true := by decide +kernel
abbrev c154_r17 : List Ins := [
  ⟨some 12, none, .load 9 true (.t 4)⟩,
  ⟨none, none, .store 9 (.t 2) (.t 12)⟩,
  ⟨some 3, none, .mov (.c (.bool false))⟩]
abbrev c154_r18 : List Ins := [
  ⟨some 48, none, .load 9 true (.t 4)⟩,
  ⟨none, none, .store 9 (.t 2) (.t 48)⟩,
  ⟨some 3, none, .mov (.c (.bool true))⟩]
abbrev c154 : IR := .seq (.reg c154_r1) (.seq (.reg c154_r2) (.seq (.seq (.reg c154_r3) (.blk 0 (.seq (.seq (.reg c154_r4) (.cond (.t 13) (.skip) (.reg c154_r5))) (.cond (.t 13) (.reg c154_r6) (.seq (.reg c154_r7) (.cond (.t 19) (.dreg c154_r8 c154_a8) (.seq (.reg c154_r9) (.cond (.t 25) (.dreg c154_r10 c154_a10) (.seq (.seq (.reg c154_r11) (.cond (.t 33) (.skip) (.reg c154_r12))) (.cond (.t 33) (.reg c154_r13) (.seq (.seq (.reg c154_r14) (.cond (.t 39) (.skip) (.reg c154_r15))) (.cond (.t 39) (.dreg c154_r16 c154_a16) (.seq (.reg c154_r17) (.ret)))))))))))))) (.seq (.reg c154_r18) (.ret))))
abbrev F154 : FnA := ⟨49, c154, [.cell 2 9 true, .t 3]⟩
theorem ok154 : cFn Try.prog 154 = some F154 := by kernel_rfl
theorem hb154 : HasBody Try.prog 154 := ⟨_, Try.func154, by kernel_rfl, by kernel_rfl⟩
/-! prog.may$1 -/
abbrev c155_r1 : List Ins := [
  ⟨some 2, none, .box (.t 0)⟩,
  ⟨some 3, none, .mov (.c (.bool false))⟩]
abbrev c155_r2 : List Ins := [
  ⟨some 4, none, .load 2 true (.t 2)⟩,
  ⟨some 5, none, .load 1 false (.t 1)⟩,
  ⟨some 6, none, .call (.c (.fn 156 [] [])) [.t 4, .t 5]⟩,
  ⟨some 7, none, .un .not (.t 6)⟩,
  ⟨some 3, none, .mov (.t 7)⟩]
abbrev c155 : IR := .seq (.reg c155_r1) (.seq (.reg c155_r2) (.ret))
abbrev F155 : FnA := ⟨8, c155, [.t 3]⟩
theorem ok155 : cFn Try.prog 155 = some F155 := by kernel_rfl
theorem hb155 : HasBody Try.prog 155 := ⟨_, Try.func155, by kernel_rfl, by kernel_rfl⟩
/-! prog.mayKey -/
abbrev c156_r1 : List Ins := [
  ⟨some 2, none, .box (.t 0)⟩,
  ⟨some 4, none, .mov (.c (.bool false))⟩]
abbrev c156_r2 : List Ins := [
  ⟨some 5, none, .faddr 0 (.t 2)⟩,
  ⟨some 6, none, .load 1 false (.t 5)⟩,
  ⟨some 7, none, .bin .geq (.t 6) (.c (.int .i64 (-1)))⟩,
  ⟨some 8, none, .mov (.t 7)⟩,
  ⟨some 9, some (8, true), .faddr 0 (.t 2)⟩,
  ⟨some 10, some (8, true), .load 1 false (.t 9)⟩,
  ⟨some 11, some (8, true), .mov (.t 1)⟩,
  ⟨some 12, some (8, true), .bin .lss (.t 10) (.t 11)⟩,
  ⟨some 13, none, .pick (.t 8) (.t 12) (.c (.bool false))⟩,
  ⟨some 14, none, .mov (.t 13)⟩,
  ⟨some 15, some (14, true), .faddr 1 (.t 2)⟩,
  ⟨some 16, some (14, true), .load 1 false (.t 15)⟩,
  ⟨some 17, some (14, true), .bin .geq (.t 16) (.c (.int .i64 0))⟩,
  ⟨some 18, none, .pick (.t 14) (.t 17) (.c (.bool false))⟩,
  ⟨some 19, none, .mov (.t 18)⟩,
  ⟨some 20, some (19, true), .faddr 1 (.t 2)⟩,
  ⟨some 21, some (19, true), .load 1 false (.t 20)⟩,
  ⟨some 22, some (19, true), .bin .leq (.t 21) (.c (.int .i64 900))⟩,
  ⟨some 23, none, .pick (.t 19) (.t 22) (.c (.bool false))⟩,
  ⟨some 4, none, .mov (.t 23)⟩]
abbrev c156 : IR := .seq (.reg c156_r1) (.seq (.reg c156_r2) (.ret))
abbrev F156 : FnA := ⟨24, c156, [.t 4]⟩
theorem ok156 : cFn Try.prog 156 = some F156 := by kernel_rfl
theorem hb156 : HasBody Try.prog 156 := ⟨_, Try.func156, by kernel_rfl, by kernel_rfl⟩
/-! prog.register -/
abbrev c157_r1 : List Ins := [
  ⟨some 2, none, .mov (.c (.bool false))⟩]
abbrev c157_r2 : List Ins := [
  ⟨some 3, none, .mov (.t 0)⟩,
  ⟨some 4, none, .bin .geq (.t 3) (.c (.int .i64 0))⟩,
  ⟨some 5, none, .mov (.t 4)⟩,
  ⟨some 6, some (5, true), .mov (.t 0)⟩,
  ⟨some 7, some (5, true), .bin .lss (.t 6) (.c (.int .i64 4))⟩,
  ⟨some 8, none, .pick (.t 5) (.t 7) (.c (.bool false))⟩,
  ⟨some 2, none, .mov (.t 8)⟩]
abbrev c157 : IR := .seq (.reg c157_r1) (.seq (.reg c157_r2) (.ret))
abbrev F157 : FnA := ⟨9, c157, [.t 2]⟩
theorem ok157 : cFn Try.prog 157 = some F157 := by kernel_rfl
theorem hb157 : HasBody Try.prog 157 := ⟨_, Try.func157, by kernel_rfl, by kernel_rfl⟩
/-! slices.ContainsFunc:KeyT -/
abbrev c158_r1 : List Ins := [
  ⟨some 4, none, .mov (.c (.bool false))⟩]
abbrev c158_r2 : List Ins := [
  ⟨some 5, none, .mov (.t 0)⟩,
  ⟨some 6, none, .mov (.t 1)⟩,
  ⟨some 7, none, .call (.c (.fn 162 [] [])) [.t 5, .t 6]⟩,
  ⟨some 8, none, .bin .geq (.t 7) (.c (.int .i64 0))⟩,
  ⟨some 4, none, .mov (.t 8)⟩]
abbrev c158 : IR := .seq (.reg c158_r1) (.seq (.reg c158_r2) (.ret))
abbrev F158 : FnA := ⟨9, c158, [.t 4]⟩
theorem ok158 : cFn Try.prog 158 = some F158 := by kernel_rfl
theorem hb158 : HasBody Try.prog 158 := ⟨_, Try.func158, by kernel_rfl, by kernel_rfl⟩
/-! prog.keys -/
abbrev c159_r1 : List Ins := [
  ⟨some 1, none, .box (.t 0)⟩,
  ⟨some 2, none, .mov (.c (.sl .full []))⟩]
abbrev c159_r2 : List Ins := [
  ⟨some 3, none, .faddr 0 (.t 1)⟩,
  ⟨some 4, none, .load 1 false (.t 3)⟩]
abbrev c159_r3 : List Ins := [
  ⟨some 6, none, .bin .eql (.t 4) (.c (.int .i64 1))⟩,
  ⟨some 5, none, .mov (.t 6)⟩]
abbrev c159_r4 : List Ins := [
  ⟨some 7, none, .bin .eql (.t 4) (.c (.int .i64 2))⟩,
  ⟨some 5, none, .mov (.t 7)⟩]
abbrev c159_r5 : List Ins := [
  ⟨some 8, none, .bin .eql (.t 4) (.c (.int .i64 3))⟩,
  ⟨some 5, none, .mov (.t 8)⟩]
abbrev c159_r6 : List Ins := [
  ⟨some 9, none, .faddr 4 (.t 1)⟩,
  ⟨some 10, none, .load 2 true (.t 9)⟩,
  ⟨some 11, none, .bsl 2 1 [.int .i64 0, .int .i64 0] [(0, .t 10)]⟩,
  ⟨some 2, none, .mov (.t 11)⟩]
abbrev c159_r7 : List Ins := [
  ⟨some 13, none, .bin .eql (.t 4) (.c (.int .i64 4))⟩,
  ⟨some 12, none, .mov (.t 13)⟩]
abbrev c159_r8 : List Ins := [
  ⟨some 14, none, .faddr 4 (.t 1)⟩,
  ⟨some 15, none, .load 2 true (.t 14)⟩,
  ⟨some 16, none, .faddr 6 (.t 1)⟩,
  ⟨some 17, none, .load 2 true (.t 16)⟩,
  ⟨some 18, none, .bsl 2 2 [.int .i64 0, .int .i64 0] [(0, .t 15), (1, .t 17)]⟩,
  ⟨some 2, none, .mov (.t 18)⟩]
abbrev c159_r9 : List Ins := [
  ⟨some 2, none, .mov (.c (.sl .full []))⟩]
abbrev c159 : IR := .seq (.reg c159_r1) (.seq (.seq (.reg c159_r2) (.blk 0 (.seq (.seq (.reg c159_r3) (.cond (.t 5) (.skip) (.seq (.reg c159_r4) (.cond (.t 5) (.skip) (.reg c159_r5))))) (.cond (.t 5) (.seq (.reg c159_r6) (.ret)) (.seq (.reg c159_r7) (.cond (.t 12) (.seq (.reg c159_r8) (.ret)) (.skip))))))) (.seq (.reg c159_r9) (.ret)))
abbrev F159 : FnA := ⟨19, c159, [.t 2]⟩
theorem ok159 : cFn Try.prog 159 = some F159 := by kernel_rfl
theorem hb159 : HasBody Try.prog 159 := ⟨_, Try.func159, by kernel_rfl, by kernel_rfl⟩
/-! slices.IndexFunc:SpanT -/
abbrev c160_r1 : List Ins := [
  ⟨some 4, none, .mov (.c (.int .i64 0))⟩]
abbrev c160_r2 : List Ins := [
  ⟨some 6, none, .mov (.t 0)⟩,
  ⟨some 7, none, .len (.t 6)⟩,
  ⟨some 8, none, .mov (.c (.int .i64 0))⟩]
abbrev c160_r3 : List Ins := [
  ⟨some 9, none, .bin .lss (.t 8) (.t 7)⟩]
abbrev c160_r4 : List Ins := [
  ⟨some 10, none, .mov (.t 8)⟩,
  ⟨some 5, none, .mov (.t 10)⟩]
abbrev c160_r5 : List Ins := [
  ⟨some 11, none, .mov (.t 1)⟩,
  ⟨some 12, none, .mov (.t 0)⟩,
  ⟨some 13, none, .mov (.t 5)⟩,
  ⟨some 14, none, .iaddr 5 (.t 12) (.t 13)⟩,
  ⟨some 15, none, .load 5 true (.t 14)⟩,
  ⟨some 16, none, .call (.t 11) [.t 15]⟩]
abbrev c160_r6 : List Ins := [
  ⟨some 17, none, .mov (.t 5)⟩,
  ⟨some 4, none, .mov (.t 17)⟩]
abbrev c160_r7 : List Ins := [
  ⟨some 18, none, .bin .add (.t 8) (.c (.int .i64 1))⟩,
  ⟨some 8, none, .mov (.t 18)⟩]
abbrev c160_l8 : IR := .seq (.reg c160_r3) (.seq (.cond (.t 9) (.skip) (.exit 0)) (.seq (.blk 1 (.seq (.reg c160_r4) (.seq (.reg c160_r5) (.cond (.t 16) (.seq (.reg c160_r6) (.ret)) (.skip))))) (.reg c160_r7)))
abbrev c160_r9 : List Ins := [
  ⟨some 4, none, .mov (.c (.int .i64 (-1)))⟩]
abbrev c160 : IR := .seq (.reg c160_r1) (.seq (.seq (.reg c160_r2) (.blk 0 (.loop c160_l8))) (.seq (.reg c160_r9) (.ret)))
abbrev F160 : FnA := ⟨19, c160, [.t 4]⟩
theorem ok160 : cFn Try.prog 160 = some F160 := by kernel_rfl
theorem hb160 : HasBody Try.prog 160 := ⟨_, Try.func160, by kernel_rfl, by kernel_rfl⟩
/-! prog.Sure$1 -/
abbrev c161_r1 : List Ins := [
  ⟨some 1, none, .box (.t 0)⟩,
  ⟨some 2, none, .mov (.c (.bool false))⟩]
abbrev c161_r2 : List Ins := [
  ⟨some 3, none, .faddr 0 (.t 1)⟩,
  ⟨some 4, none, .load 1 false (.t 3)⟩,
  ⟨some 5, none, .bin .eql (.t 4) (.c (.int .i64 6))⟩,
  ⟨some 6, none, .mov (.t 5)⟩,
  ⟨some 7, some (6, false), .faddr 0 (.t 1)⟩,
  ⟨some 8, some (6, false), .load 1 false (.t 7)⟩,
  ⟨some 9, some (6, false), .bin .eql (.t 8) (.c (.int .i64 7))⟩,
  ⟨some 10, none, .pick (.t 6) (.c (.bool true)) (.t 9)⟩,
  ⟨some 11, none, .mov (.t 10)⟩,
  ⟨some 12, some (11, false), .faddr 0 (.t 1)⟩,
  ⟨some 13, some (11, false), .load 1 false (.t 12)⟩,
  ⟨some 14, some (11, false), .bin .eql (.t 13) (.c (.int .i64 8))⟩,
  ⟨some 15, none, .pick (.t 11) (.c (.bool true)) (.t 14)⟩,
  ⟨some 2, none, .mov (.t 15)⟩]
abbrev c161 : IR := .seq (.reg c161_r1) (.seq (.reg c161_r2) (.ret))
abbrev F161 : FnA := ⟨16, c161, [.t 2]⟩
theorem ok161 : cFn Try.prog 161 = some F161 := by kernel_rfl
theorem hb161 : HasBody Try.prog 161 := ⟨_, Try.func161, by kernel_rfl, by kernel_rfl⟩
/-! slices.IndexFunc:KeyT -/
abbrev c162_r1 : List Ins := [
  ⟨some 4, none, .mov (.c (.int .i64 0))⟩]
abbrev c162_r2 : List Ins := [
  ⟨some 6, none, .mov (.t 0)⟩,
  ⟨some 7, none, .len (.t 6)⟩,
  ⟨some 8, none, .mov (.c (.int .i64 0))⟩]
abbrev c162_r3 : List Ins := [
  ⟨some 9, none, .bin .lss (.t 8) (.t 7)⟩]
abbrev c162_r4 : List Ins := [
  ⟨some 10, none, .mov (.t 8)⟩,
  ⟨some 5, none, .mov (.t 10)⟩]
abbrev c162_r5 : List Ins := [
  ⟨some 11, none, .mov (.t 1)⟩,
  ⟨some 12, none, .mov (.t 0)⟩,
  ⟨some 13, none, .mov (.t 5)⟩,
  ⟨some 14, none, .iaddr 2 (.t 12) (.t 13)⟩,
  ⟨some 15, none, .load 2 true (.t 14)⟩,
  ⟨some 16, none, .call (.t 11) [.t 15]⟩]
abbrev c162_r6 : List Ins := [
  ⟨some 17, none, .mov (.t 5)⟩,
  ⟨some 4, none, .mov (.t 17)⟩]
abbrev c162_r7 : List Ins := [
  ⟨some 18, none, .bin .add (.t 8) (.c (.int .i64 1))⟩,
  ⟨some 8, none, .mov (.t 18)⟩]
abbrev c162_l8 : IR := .seq (.reg c162_r3) (.seq (.cond (.t 9) (.skip) (.exit 0)) (.seq (.blk 1 (.seq (.reg c162_r4) (.seq (.reg c162_r5) (.cond (.t 16) (.seq (.reg c162_r6) (.ret)) (.skip))))) (.reg c162_r7)))
abbrev c162_r9 : List Ins := [
  ⟨some 4, none, .mov (.c (.int .i64 (-1)))⟩]
abbrev c162 : IR := .seq (.reg c162_r1) (.seq (.seq (.reg c162_r2) (.blk 0 (.loop c162_l8))) (.seq (.reg c162_r9) (.ret)))
abbrev F162 : FnA := ⟨19, c162, [.t 4]⟩
theorem ok162 : cFn Try.prog 162 = some F162 := by kernel_rfl
theorem hb162 : HasBody Try.prog 162 := ⟨_, Try.func162, by kernel_rfl, by kernel_rfl⟩


end Go.Proofs
