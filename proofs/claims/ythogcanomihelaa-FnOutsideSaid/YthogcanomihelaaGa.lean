/- MADE BY PROGRAM (gen.py): what each function of the program does, in the evaluator's words, each held against the program's text by the kernel. -/
import Derived.Test.YthogcanomihelaaAe17
import Derived.Test.YthogcanomihelaaChecked
import Derived.KernelRfl
set_option linter.unusedSimpArgs false
set_option linter.unusedVariables false
namespace Go.Proofs.Ythogcanomihelaa.Ga
open Go Go.Proofs Go.Proofs.Ythogcanomihelaa.Ae
/-- loop.example/g00293/laws.FnOutside -/
def c3 : FC := ⟨1, 15, .seq (.reg [⟨.mov (.c (.bool false)), (some 1), none⟩] [])
 (.seq (.reg [⟨.mov (.v 0), none, none⟩, ⟨.call 7 [.l 0], none, none⟩, ⟨.mov (.l 1), none, none⟩, ⟨.ext (.l 2) 0, none, none⟩, ⟨.ext (.l 2) 1, none, none⟩, ⟨.ext (.l 2) 2, none, none⟩, ⟨.ext (.l 2) 3, none, none⟩, ⟨.alloc 26 [.imm true 0 [], .int .i64 0, .int .i64 0, .int .i64 0, .imm true 0 []], (some 2), none⟩, ⟨.store 5 (.l 7) (.l 3), none, none⟩, ⟨.mov (.l 4), (some 3), none⟩, ⟨.mov (.l 5), (some 4), none⟩, ⟨.mov (.l 6), (some 5), none⟩] [])
 (.seq (.reg [⟨.load (some 5) (.v 2), none, none⟩, ⟨.mov (.v 3), none, none⟩, ⟨.mov (.v 4), none, none⟩, ⟨.mov (.v 5), none, none⟩, ⟨.call 8 [.l 0, .l 1, .l 2, .l 3], none, none⟩, ⟨.mov (.l 4), none, none⟩, ⟨.ext (.l 5) 0, none, none⟩, ⟨.ext (.l 5) 1, none, none⟩, ⟨.alloc 26 [.imm true 0 [], .int .i64 0, .int .i64 0, .int .i64 0, .imm true 0 []], (some 6), none⟩, ⟨.store 5 (.l 8) (.l 6), none, none⟩, ⟨.mov (.l 7), (some 7), none⟩] [])
 (.seq (.reg [⟨.load (some 5) (.v 2), none, none⟩, ⟨.mov (.v 3), none, none⟩, ⟨.mov (.v 4), none, none⟩, ⟨.call 9 [.l 0, .l 1, .l 2], none, none⟩, ⟨.mov (.l 3), none, none⟩, ⟨.ext (.l 4) 0, none, none⟩, ⟨.ext (.l 4) 1, none, none⟩, ⟨.ext (.l 4) 2, none, none⟩, ⟨.alloc 26 [.imm true 0 [], .int .i64 0, .int .i64 0, .int .i64 0, .imm true 0 []], (some 8), none⟩, ⟨.store 5 (.l 8) (.l 5), none, none⟩, ⟨.mov (.l 6), (some 9), none⟩, ⟨.mov (.l 7), (some 10), none⟩] [])
 (.seq (.seq (.reg [⟨.load (some 5) (.v 2), none, none⟩, ⟨.call 10 [.l 0], none, none⟩, ⟨.un .not (.l 1), (some 12), none⟩] [])
 (.cond (.v 12) (.seq (.reg [⟨.mov (.v 7), none, none⟩, ⟨.un .not (.l 0), none, none⟩, ⟨.mov (.l 1), none, none⟩, ⟨.mov (.v 10), none, (some (2, true))⟩, ⟨.un .not (.l 3), none, (some (2, true))⟩, ⟨.pick (.l 2) (.l 4) (.c (.bool false)), none, none⟩, ⟨.mov (.l 5), (some 1), none⟩] [])
 (.ret))
 (.skip)))
 (.seq (.reg [⟨.mov (.v 3), none, none⟩, ⟨.fptr 2 (.v 2), none, none⟩, ⟨.load none (.l 1), none, none⟩, ⟨.bin .geq (.l 0) (.l 2), none, none⟩, ⟨.mov (.l 3), none, none⟩, ⟨.mov (.v 3), none, (some (4, true))⟩, ⟨.fptr 3 (.v 2), none, (some (4, true))⟩, ⟨.load none (.l 6), none, (some (4, true))⟩, ⟨.bin .lss (.l 5) (.l 7), none, (some (4, true))⟩, ⟨.pick (.l 4) (.l 8) (.c (.bool false)), none, none⟩, ⟨.mov (.l 9), none, none⟩, ⟨.mov (.v 4), none, (some (10, true))⟩, ⟨.bin .geq (.l 11) (.c (.int .i64 0)), none, (some (10, true))⟩, ⟨.pick (.l 10) (.l 12) (.c (.bool false)), none, none⟩, ⟨.mov (.l 13), none, none⟩, ⟨.mov (.v 4), none, (some (14, true))⟩, ⟨.fptr 3 (.v 2), none, (some (14, true))⟩, ⟨.load none (.l 16), none, (some (14, true))⟩, ⟨.mov (.v 3), none, (some (14, true))⟩, ⟨.bin .sub (.l 17) (.l 18), none, (some (14, true))⟩, ⟨.bin .lss (.l 15) (.l 19), none, (some (14, true))⟩, ⟨.pick (.l 14) (.l 20) (.c (.bool false)), none, none⟩, ⟨.mov (.l 21), (some 11), none⟩] [])
 (.seq (.seq (.reg [⟨.mov (.v 7), none, none⟩, ⟨.mov (.v 11), none, none⟩, ⟨.beq true (.l 0) (.l 1), none, none⟩, ⟨.mov (.l 2), none, none⟩, ⟨.mov (.v 10), none, (some (3, false))⟩, ⟨.mov (.v 11), none, (some (3, false))⟩, ⟨.beq true (.l 4) (.l 5), none, (some (3, false))⟩, ⟨.pick (.l 3) (.c (.bool true)) (.l 6), none, none⟩, ⟨.mov (.l 7), none, none⟩, ⟨.fptr 0 (.v 8), none, (some (8, false))⟩, ⟨.load none (.l 9), none, (some (8, false))⟩, ⟨.fptr 0 (.v 2), none, (some (8, false))⟩, ⟨.load none (.l 11), none, (some (8, false))⟩, ⟨.call 11 [.l 10, .l 12], none, (some (8, false))⟩, ⟨.un .not (.l 13), none, (some (8, false))⟩, ⟨.pick (.l 8) (.c (.bool true)) (.l 14), none, none⟩, ⟨.mov (.l 15), none, none⟩, ⟨.load (some 5) (.v 6), none, (some (16, false))⟩, ⟨.call 12 [.l 17], none, (some (16, false))⟩, ⟨.load (some 5) (.v 2), none, (some (16, false))⟩, ⟨.call 13 [.l 19], none, (some (16, false))⟩, ⟨.bin .neq (.l 18) (.l 20), none, (some (16, false))⟩, ⟨.pick (.l 16) (.c (.bool true)) (.l 21), (some 13), none⟩] [(19, 18)])
 (.cond (.v 13) (.seq (.reg [⟨.mov (.c (.bool false)), (some 1), none⟩] [])
 (.ret))
 (.skip)))
 (.seq (.seq (.reg [⟨.mov (.v 11), none, none⟩, ⟨.un .not (.l 0), (some 14), none⟩] [])
 (.cond (.v 14) (.seq (.reg [⟨.fptr 0 (.v 6), none, none⟩, ⟨.load none (.l 0), none, none⟩, ⟨.fptr 0 (.v 2), none, none⟩, ⟨.load none (.l 2), none, none⟩, ⟨.call 11 [.l 1, .l 3], none, none⟩, ⟨.mov (.l 4), none, none⟩, ⟨.mov (.v 9), none, (some (5, true))⟩, ⟨.bin .eql (.l 6) (.c (.int .i64 0)), none, (some (5, true))⟩, ⟨.pick (.l 5) (.l 7) (.c (.bool false)), none, none⟩, ⟨.mov (.l 8), none, none⟩, ⟨.fptr 4 (.v 6), none, (some (9, true))⟩, ⟨.load none (.l 10), none, (some (9, true))⟩, ⟨.len false (.l 11), none, (some (9, true))⟩, ⟨.fptr 4 (.v 2), none, (some (9, true))⟩, ⟨.load none (.l 13), none, (some (9, true))⟩, ⟨.len false (.l 14), none, (some (9, true))⟩, ⟨.bin .eql (.l 12) (.l 15), none, (some (9, true))⟩, ⟨.pick (.l 9) (.l 16) (.c (.bool false)), none, none⟩, ⟨.mov (.l 17), (some 1), none⟩] [])
 (.ret))
 (.skip)))
 (.seq (.reg [⟨.fptr 0 (.v 6), none, none⟩, ⟨.load none (.l 0), none, none⟩, ⟨.mov (.v 3), none, none⟩, ⟨.mov (.v 4), none, none⟩, ⟨.bin .add (.l 2) (.l 3), none, none⟩, ⟨.iptr 1 (.l 1) (.l 4), none, none⟩, ⟨.load none (.l 5), none, none⟩, ⟨.mov (.v 5), none, none⟩, ⟨.bin .eql (.l 6) (.l 7), none, none⟩, ⟨.mov (.l 8), none, none⟩, ⟨.mov (.v 9), none, (some (9, true))⟩, ⟨.fptr 0 (.v 2), none, (some (9, true))⟩, ⟨.load none (.l 11), none, (some (9, true))⟩, ⟨.mov (.v 3), none, (some (9, true))⟩, ⟨.mov (.v 4), none, (some (9, true))⟩, ⟨.bin .add (.l 13) (.l 14), none, (some (9, true))⟩, ⟨.iptr 1 (.l 12) (.l 15), none, (some (9, true))⟩, ⟨.load none (.l 16), none, (some (9, true))⟩, ⟨.bin .eql (.l 10) (.l 17), none, (some (9, true))⟩, ⟨.pick (.l 9) (.l 18) (.c (.bool false)), none, none⟩, ⟨.mov (.l 19), none, none⟩, ⟨.load (some 5) (.v 2), none, (some (20, true))⟩, ⟨.call 14 [.l 21], none, (some (20, true))⟩, ⟨.un .not (.l 22), none, (some (20, true))⟩, ⟨.mov (.l 23), none, (some (20, true))⟩, ⟨.load (some 5) (.v 6), none, (some (24, false))⟩, ⟨.call 15 [.l 25], none, (some (24, false))⟩, ⟨.mov (.l 26), none, (some (24, false))⟩, ⟨.load (some 5) (.v 8), none, (some (27, true))⟩, ⟨.call 15 [.l 28], none, (some (27, true))⟩, ⟨.pick (.l 27) (.l 29) (.c (.bool false)), none, (some (24, false))⟩, ⟨.pick (.l 24) (.c (.bool true)) (.l 30), none, (some (20, true))⟩, ⟨.pick (.l 20) (.l 31) (.c (.bool false)), none, none⟩, ⟨.mov (.l 32), (some 1), none⟩] [])
 (.ret))))))))),
 [.t 1], false, false⟩
def m3 : List Nat := [0, 2, 3, 4, 5, 6, 7, 8, 9, 10, 11, 12, 38, 89, 91]

/-- loop.example/g00293/spec.DrawStore -/
def c7 : FC := ⟨1, 9, .seq (.reg [⟨.alloc 26 [.imm true 0 [], .int .i64 0, .int .i64 0, .int .i64 0, .imm true 0 []], (some 1), none⟩, ⟨.mov (.c (.int .i64 0)), (some 2), none⟩, ⟨.mov (.c (.int .i64 0)), (some 3), none⟩, ⟨.mov (.c (.int .i64 0)), (some 4), none⟩] [])
 (.seq (.reg [⟨.mov (.v 0), none, none⟩, ⟨.call 36 [.l 0], none, none⟩, ⟨.mov (.l 1), (some 5), none⟩] [])
 (.seq (.reg [⟨.mov (.v 5), none, none⟩, ⟨.call 37 [.l 0], none, none⟩, ⟨.alloc 26 [.imm true 0 [], .int .i64 0, .int .i64 0, .int .i64 0, .imm true 0 []], (some 6), none⟩, ⟨.store 5 (.l 2) (.l 1), none, none⟩] [])
 (.seq (.reg [⟨.mov (.v 5), none, none⟩, ⟨.load (some 5) (.v 6), none, none⟩, ⟨.call 38 [.l 0, .l 1], none, none⟩, ⟨.mov (.l 2), none, none⟩, ⟨.ext (.l 3) 0, none, none⟩, ⟨.ext (.l 3) 1, none, none⟩, ⟨.mov (.l 4), (some 7), none⟩, ⟨.mov (.l 5), (some 8), none⟩] [])
 (.seq (.reg [⟨.load (some 5) (.v 6), none, none⟩, ⟨.mov (.v 7), none, none⟩, ⟨.mov (.v 8), none, none⟩, ⟨.mov (.v 5), none, none⟩, ⟨.call 39 [.l 3], none, none⟩, ⟨.store 5 (.v 1) (.l 0), none, none⟩, ⟨.mov (.l 1), (some 2), none⟩, ⟨.mov (.l 2), (some 3), none⟩, ⟨.mov (.l 4), (some 4), none⟩] [(0, 5)])
 (.ret))))),
 [.cl (some 5) 1, .t 2, .t 3, .t 4], false, false⟩
def m7 : List Nat := [0, 2, 3, 4, 5, 6, 7, 8, 9]

/-- loop.example/g00293/impl.Store -/
def c8 : FC := ⟨4, 10, .seq (.reg [⟨.box 26 5 (.v 0), (some 4), none⟩, ⟨.alloc 26 [.imm true 0 [], .int .i64 0, .int .i64 0, .int .i64 0, .imm true 0 []], (some 5), none⟩, ⟨.mov (.c (.bool false)), (some 6), none⟩] [])
 (.seq (.seq (.reg [⟨.load (some 5) (.v 4), none, none⟩, ⟨.call 40 [.l 0], none, none⟩, ⟨.un .not (.l 1), (some 9), none⟩] [])
 (.cond (.v 9) (.seq (.reg [⟨.build [.imm true 0 [], .int .i64 0, .int .i64 0, .int .i64 0, .imm true 0 []] [], none, none⟩, ⟨.store 5 (.v 5) (.l 0), none, none⟩, ⟨.mov (.c (.bool false)), (some 6), none⟩] [])
 (.ret))
 (.skip)))
 (.seq (.reg [⟨.load (some 5) (.v 4), none, none⟩, ⟨.call 41 [.l 0], none, none⟩, ⟨.alloc 26 [.imm true 0 [], .int .i64 0, .int .i64 0, .int .i64 0, .imm true 0 []], (some 7), none⟩, ⟨.store 5 (.l 2) (.l 1), none, none⟩] [])
 (.seq (.reg [⟨.mov (.v 1), none, none⟩, ⟨.mov (.v 2), none, none⟩, ⟨.mov (.v 3), none, none⟩, ⟨.call 42 [.v 7, .l 0, .l 1, .l 2], none, none⟩, ⟨.mov (.l 3), (some 8), none⟩] [])
 (.seq (.reg [⟨.load (some 5) (.v 7), none, none⟩, ⟨.mov (.v 8), none, none⟩, ⟨.store 5 (.v 5) (.l 0), none, none⟩, ⟨.mov (.l 1), (some 6), none⟩] [])
 (.ret))))),
 [.cl (some 5) 5, .t 6], false, false⟩
def m8 : List Nat := [0, 1, 2, 3, 4, 8, 9, 10, 11, 14]

/-- loop.example/g00293/impl.Load -/
def c9 : FC := ⟨3, 11, .seq (.reg [⟨.box 26 5 (.v 0), (some 3), none⟩, ⟨.alloc 26 [.imm true 0 [], .int .i64 0, .int .i64 0, .int .i64 0, .imm true 0 []], (some 4), none⟩, ⟨.mov (.c (.int .i64 0)), (some 5), none⟩, ⟨.mov (.c (.bool false)), (some 6), none⟩] [])
 (.seq (.seq (.reg [⟨.load (some 5) (.v 3), none, none⟩, ⟨.call 40 [.l 0], none, none⟩, ⟨.un .not (.l 1), (some 10), none⟩] [])
 (.cond (.v 10) (.seq (.reg [⟨.build [.imm true 0 [], .int .i64 0, .int .i64 0, .int .i64 0, .imm true 0 []] [], none, none⟩, ⟨.store 5 (.v 4) (.l 0), none, none⟩, ⟨.mov (.c (.int .i64 0)), (some 5), none⟩, ⟨.mov (.c (.bool false)), (some 6), none⟩] [])
 (.ret))
 (.skip)))
 (.seq (.reg [⟨.load (some 5) (.v 3), none, none⟩, ⟨.call 41 [.l 0], none, none⟩, ⟨.alloc 26 [.imm true 0 [], .int .i64 0, .int .i64 0, .int .i64 0, .imm true 0 []], (some 7), none⟩, ⟨.store 5 (.l 2) (.l 1), none, none⟩] [])
 (.seq (.reg [⟨.mov (.v 1), none, none⟩, ⟨.mov (.v 2), none, none⟩, ⟨.call 43 [.v 7, .l 0, .l 1], none, none⟩, ⟨.mov (.l 2), none, none⟩, ⟨.ext (.l 3) 0, none, none⟩, ⟨.ext (.l 3) 1, none, none⟩, ⟨.mov (.l 4), (some 8), none⟩, ⟨.mov (.l 5), (some 9), none⟩] [])
 (.seq (.reg [⟨.load (some 5) (.v 7), none, none⟩, ⟨.mov (.v 8), none, none⟩, ⟨.mov (.v 9), none, none⟩, ⟨.store 5 (.v 4) (.l 0), none, none⟩, ⟨.mov (.l 1), (some 5), none⟩, ⟨.mov (.l 2), (some 6), none⟩] [])
 (.ret))))),
 [.cl (some 5) 4, .t 5, .t 6], false, false⟩
def m9 : List Nat := [0, 1, 2, 3, 6, 7, 8, 9, 10, 11, 14]

/-- loop.example/g00293/spec.HeapOk -/
def c10 : FC := ⟨1, 4, .seq (.reg [⟨.box 26 5 (.v 0), (some 1), none⟩, ⟨.mov (.c (.bool false)), (some 2), none⟩] [])
 (.seq (.seq (.reg [⟨.fptr 1 (.v 1), none, none⟩, ⟨.load none (.l 0), none, none⟩, ⟨.bin .lss (.l 1) (.c (.int .i64 16)), none, none⟩, ⟨.mov (.l 2), none, none⟩, ⟨.fptr 1 (.v 1), none, (some (3, false))⟩, ⟨.load none (.l 4), none, (some (3, false))⟩, ⟨.bin .gtr (.l 5) (.c (.int .i64 4096)), none, (some (3, false))⟩, ⟨.pick (.l 3) (.c (.bool true)) (.l 6), none, none⟩, ⟨.mov (.l 7), none, none⟩, ⟨.fptr 0 (.v 1), none, (some (8, false))⟩, ⟨.load none (.l 9), none, (some (8, false))⟩, ⟨.len false (.l 10), none, (some (8, false))⟩, ⟨.fptr 1 (.v 1), none, (some (8, false))⟩, ⟨.load none (.l 12), none, (some (8, false))⟩, ⟨.bin .mul (.c (.int .i64 2)) (.l 13), none, (some (8, false))⟩, ⟨.bin .neq (.l 11) (.l 14), none, (some (8, false))⟩, ⟨.pick (.l 8) (.c (.bool true)) (.l 15), none, none⟩, ⟨.mov (.l 16), none, none⟩, ⟨.fptr 4 (.v 1), none, (some (17, false))⟩, ⟨.load none (.l 18), none, (some (17, false))⟩, ⟨.len false (.l 19), none, (some (17, false))⟩, ⟨.bin .gtr (.l 20) (.c (.int .i64 4000)), none, (some (17, false))⟩, ⟨.pick (.l 17) (.c (.bool true)) (.l 21), (some 3), none⟩] [])
 (.cond (.v 3) (.seq (.reg [⟨.mov (.c (.bool false)), (some 2), none⟩] [])
 (.ret))
 (.skip)))
 (.seq (.reg [⟨.fptr 2 (.v 1), none, none⟩, ⟨.load none (.l 0), none, none⟩, ⟨.bin .eql (.l 1) (.c (.int .i64 0)), none, none⟩, ⟨.mov (.l 2), none, none⟩, ⟨.fptr 2 (.v 1), none, (some (3, false))⟩, ⟨.load none (.l 4), none, (some (3, false))⟩, ⟨.fptr 1 (.v 1), none, (some (3, false))⟩, ⟨.load none (.l 6), none, (some (3, false))⟩, ⟨.bin .eql (.l 5) (.l 7), none, (some (3, false))⟩, ⟨.pick (.l 3) (.c (.bool true)) (.l 8), none, none⟩, ⟨.mov (.l 9), none, none⟩, ⟨.fptr 3 (.v 1), none, (some (10, true))⟩, ⟨.load none (.l 11), none, (some (10, true))⟩, ⟨.fptr 2 (.v 1), none, (some (10, true))⟩, ⟨.load none (.l 13), none, (some (10, true))⟩, ⟨.bin .geq (.l 12) (.l 14), none, (some (10, true))⟩, ⟨.pick (.l 10) (.l 15) (.c (.bool false)), none, none⟩, ⟨.mov (.l 16), none, none⟩, ⟨.fptr 3 (.v 1), none, (some (17, true))⟩, ⟨.load none (.l 18), none, (some (17, true))⟩, ⟨.fptr 2 (.v 1), none, (some (17, true))⟩, ⟨.load none (.l 20), none, (some (17, true))⟩, ⟨.fptr 1 (.v 1), none, (some (17, true))⟩, ⟨.load none (.l 22), none, (some (17, true))⟩, ⟨.bin .add (.l 21) (.l 23), none, (some (17, true))⟩, ⟨.bin .leq (.l 19) (.l 24), none, (some (17, true))⟩, ⟨.pick (.l 17) (.l 25) (.c (.bool false)), none, none⟩, ⟨.mov (.l 26), (some 2), none⟩] [])
 (.ret))),
 [.t 2], false, false⟩
def m10 : List Nat := [0, 1, 2, 25]

/-- loop.example/g00293/laws.sameInts -/
def c11 : FC := ⟨2, 7, .seq (.reg [⟨.mov (.c (.bool false)), (some 2), none⟩] [])
 (.seq (.seq (.reg [⟨.mov (.v 0), none, none⟩, ⟨.len false (.l 0), none, none⟩, ⟨.mov (.v 1), none, none⟩, ⟨.len false (.l 2), none, none⟩, ⟨.bin .neq (.l 1) (.l 3), (some 4), none⟩] [])
 (.cond (.v 4) (.seq (.reg [⟨.mov (.c (.bool false)), (some 2), none⟩] [])
 (.ret))
 (.skip)))
 (.seq (.seq (.reg [⟨.mov (.c (.int .i64 0)), (some 3), none⟩] [])
 (.block 0 (.loop (.seq (.seq (.reg [⟨.mov (.v 3), none, none⟩, ⟨.mov (.v 0), none, none⟩, ⟨.len false (.l 1), none, none⟩, ⟨.bin .lss (.l 0) (.l 2), (some 5), none⟩] [])
 (.cond (.v 5) (.skip)
 (.exit 0)))
 (.seq (.block 1 (.seq (.reg [⟨.mov (.v 0), none, none⟩, ⟨.mov (.v 3), none, none⟩, ⟨.iptr 1 (.l 0) (.l 1), none, none⟩, ⟨.load none (.l 2), none, none⟩, ⟨.mov (.v 1), none, none⟩, ⟨.mov (.v 3), none, none⟩, ⟨.iptr 1 (.l 4) (.l 5), none, none⟩, ⟨.load none (.l 6), none, none⟩, ⟨.bin .neq (.l 3) (.l 7), (some 6), none⟩] [])
 (.cond (.v 6) (.seq (.reg [⟨.mov (.c (.bool false)), (some 2), none⟩] [])
 (.ret))
 (.skip))))
 (.reg [⟨.mov (.v 3), none, none⟩, ⟨.bin .add (.l 0) (.c (.int .i64 1)), none, none⟩, ⟨.mov (.l 1), (some 3), none⟩] []))))))
 (.seq (.reg [⟨.mov (.c (.bool true)), (some 2), none⟩] [])
 (.ret)))),
 [.t 2], false, false⟩
def m11 : List Nat := [0, 1, 4, 5, 10, 14, 25]

/-- loop.example/g00293/impl.HeapRoom -/
def c12 : FC := ⟨1, 4, .seq (.reg [⟨.box 26 5 (.v 0), (some 1), none⟩, ⟨.mov (.c (.int .i64 0)), (some 2), none⟩] [])
 (.seq (.seq (.reg [⟨.load (some 5) (.v 1), none, none⟩, ⟨.call 40 [.l 0], none, none⟩, ⟨.un .not (.l 1), (some 3), none⟩] [])
 (.cond (.v 3) (.seq (.reg [⟨.mov (.c (.int .i64 0)), (some 2), none⟩] [])
 (.ret))
 (.skip)))
 (.seq (.reg [⟨.call 44 [.v 1], none, none⟩, ⟨.mov (.l 0), (some 2), none⟩] [])
 (.ret))),
 [.t 2], false, false⟩
def m12 : List Nat := [0, 1, 2, 5]

/-- loop.example/g00293/spec.HeapRoom -/
def c13 : FC := ⟨1, 4, .seq (.reg [⟨.box 26 5 (.v 0), (some 1), none⟩, ⟨.mov (.c (.int .i64 0)), (some 2), none⟩] [])
 (.seq (.seq (.reg [⟨.load (some 5) (.v 1), none, none⟩, ⟨.call 10 [.l 0], none, none⟩, ⟨.un .not (.l 1), (some 3), none⟩] [])
 (.cond (.v 3) (.seq (.reg [⟨.mov (.c (.int .i64 0)), (some 2), none⟩] [])
 (.ret))
 (.skip)))
 (.seq (.reg [⟨.fptr 2 (.v 1), none, none⟩, ⟨.load none (.l 0), none, none⟩, ⟨.fptr 1 (.v 1), none, none⟩, ⟨.load none (.l 2), none, none⟩, ⟨.bin .add (.l 1) (.l 3), none, none⟩, ⟨.fptr 3 (.v 1), none, none⟩, ⟨.load none (.l 5), none, none⟩, ⟨.bin .sub (.l 4) (.l 6), none, none⟩, ⟨.mov (.l 7), (some 2), none⟩] [])
 (.ret))),
 [.t 2], false, false⟩
def m13 : List Nat := [0, 1, 2, 5]

/-- loop.example/g00293/spec.LogInside -/
def c14 : FC := ⟨1, 8, .seq (.reg [⟨.box 26 5 (.v 0), (some 1), none⟩, ⟨.mov (.c (.bool false)), (some 2), none⟩] [])
 (.seq (.seq (.reg [⟨.load (some 5) (.v 1), none, none⟩, ⟨.call 10 [.l 0], none, none⟩, ⟨.un .not (.l 1), (some 5), none⟩] [])
 (.cond (.v 5) (.seq (.reg [⟨.mov (.c (.bool false)), (some 2), none⟩] [])
 (.ret))
 (.skip)))
 (.seq (.seq (.reg [⟨.mov (.c (.int .i64 0)), (some 3), none⟩] [])
 (.block 0 (.loop (.seq (.seq (.reg [⟨.mov (.v 3), none, none⟩, ⟨.fptr 4 (.v 1), none, none⟩, ⟨.load none (.l 1), none, none⟩, ⟨.len false (.l 2), none, none⟩, ⟨.bin .lss (.l 0) (.l 3), (some 6), none⟩] [])
 (.cond (.v 6) (.skip)
 (.exit 0)))
 (.seq (.block 1 (.seq (.reg [⟨.fptr 4 (.v 1), none, none⟩, ⟨.load none (.l 0), none, none⟩, ⟨.mov (.v 3), none, none⟩, ⟨.iptr 3 (.l 1) (.l 2), none, none⟩, ⟨.load (some 3) (.l 3), none, none⟩, ⟨.alloc 99 [.int .i64 0, .int .i64 0, .int .i64 0], (some 4), none⟩, ⟨.store 3 (.l 5) (.l 4), none, none⟩] [])
 (.seq (.reg [⟨.fptr 0 (.v 4), none, none⟩, ⟨.load none (.l 0), none, none⟩, ⟨.fptr 1 (.v 4), none, none⟩, ⟨.load none (.l 2), none, none⟩, ⟨.bin .lss (.l 1) (.l 3), none, none⟩, ⟨.mov (.l 4), none, none⟩, ⟨.fptr 0 (.v 4), none, (some (5, false))⟩, ⟨.load none (.l 6), none, (some (5, false))⟩, ⟨.fptr 2 (.v 4), none, (some (5, false))⟩, ⟨.load none (.l 8), none, (some (5, false))⟩, ⟨.bin .geq (.l 7) (.l 9), none, (some (5, false))⟩, ⟨.pick (.l 5) (.c (.bool true)) (.l 10), none, none⟩, ⟨.mov (.l 11), none, none⟩, ⟨.fptr 1 (.v 4), none, (some (12, false))⟩, ⟨.load none (.l 13), none, (some (12, false))⟩, ⟨.bin .lss (.l 14) (.c (.int .i64 0)), none, (some (12, false))⟩, ⟨.pick (.l 12) (.c (.bool true)) (.l 15), none, none⟩, ⟨.mov (.l 16), none, none⟩, ⟨.fptr 2 (.v 4), none, (some (17, false))⟩, ⟨.load none (.l 18), none, (some (17, false))⟩, ⟨.fptr 1 (.v 1), none, (some (17, false))⟩, ⟨.load none (.l 20), none, (some (17, false))⟩, ⟨.bin .mul (.c (.int .i64 2)) (.l 21), none, (some (17, false))⟩, ⟨.bin .gtr (.l 19) (.l 22), none, (some (17, false))⟩, ⟨.pick (.l 17) (.c (.bool true)) (.l 23), none, none⟩, ⟨.mov (.l 24), none, none⟩, ⟨.fptr 1 (.v 4), none, (some (25, false))⟩, ⟨.load none (.l 26), none, (some (25, false))⟩, ⟨.bin .neq (.l 27) (.c (.int .i64 0)), none, (some (25, false))⟩, ⟨.mov (.l 28), none, (some (25, false))⟩, ⟨.fptr 1 (.v 4), none, (some (29, true))⟩, ⟨.load none (.l 30), none, (some (29, true))⟩, ⟨.fptr 1 (.v 1), none, (some (29, true))⟩, ⟨.load none (.l 32), none, (some (29, true))⟩, ⟨.bin .neq (.l 31) (.l 33), none, (some (29, true))⟩, ⟨.pick (.l 29) (.l 34) (.c (.bool false)), none, (some (25, false))⟩, ⟨.pick (.l 25) (.c (.bool true)) (.l 35), none, none⟩, ⟨.mov (.l 36), none, none⟩, ⟨.fptr 2 (.v 4), none, (some (37, false))⟩, ⟨.load none (.l 38), none, (some (37, false))⟩, ⟨.fptr 1 (.v 4), none, (some (37, false))⟩, ⟨.load none (.l 40), none, (some (37, false))⟩, ⟨.fptr 1 (.v 1), none, (some (37, false))⟩, ⟨.load none (.l 42), none, (some (37, false))⟩, ⟨.bin .add (.l 41) (.l 43), none, (some (37, false))⟩, ⟨.bin .gtr (.l 39) (.l 44), none, (some (37, false))⟩, ⟨.pick (.l 37) (.c (.bool true)) (.l 45), (some 7), none⟩] [])
 (.cond (.v 7) (.seq (.reg [⟨.mov (.c (.bool false)), (some 2), none⟩] [])
 (.ret))
 (.skip)))))
 (.reg [⟨.mov (.v 3), none, none⟩, ⟨.bin .add (.l 0) (.c (.int .i64 1)), none, none⟩, ⟨.mov (.l 1), (some 3), none⟩] []))))))
 (.seq (.reg [⟨.mov (.c (.bool true)), (some 2), none⟩] [])
 (.ret)))),
 [.t 2], false, false⟩
def m14 : List Nat := [0, 1, 2, 3, 4, 7, 12, 66]

/-- loop.example/g00293/impl.LogInside -/
def c15 : FC := ⟨1, 3, .seq (.reg [⟨.box 26 5 (.v 0), (some 1), none⟩, ⟨.mov (.c (.bool false)), (some 2), none⟩] [])
 (.seq (.reg [⟨.load (some 5) (.v 1), none, none⟩, ⟨.call 40 [.l 0], none, none⟩, ⟨.mov (.l 1), none, none⟩, ⟨.fptr 4 (.v 1), none, (some (2, true))⟩, ⟨.load none (.l 3), none, (some (2, true))⟩, ⟨.mkfn 46 [] [.v 1], none, (some (2, true))⟩, ⟨.call 45 [.l 4, .l 5], none, (some (2, true))⟩, ⟨.un .not (.l 6), none, (some (2, true))⟩, ⟨.pick (.l 2) (.l 7) (.c (.bool false)), none, none⟩, ⟨.mov (.l 8), (some 2), none⟩] [])
 (.ret)),
 [.t 2], false, false⟩
def m15 : List Nat := [0, 1, 2]

/-- loop.example/g00293/spec.l1New -/
def c36 : FC := ⟨1, 5, .seq (.reg [⟨.mov (.c (.nilp)), (some 1), none⟩] [])
 (.seq (.reg [⟨.mov (.v 0), none, none⟩, ⟨.len false (.l 0), none, none⟩, ⟨.bin .add (.c (.int .i64 29393)) (.l 1), none, none⟩, ⟨.mov (.l 2), (some 2), none⟩] [])
 (.seq (.seq (.reg [⟨.mov (.c (.int .i64 0)), (some 3), none⟩] [])
 (.block 0 (.loop (.seq (.seq (.reg [⟨.mov (.v 3), none, none⟩, ⟨.mov (.v 0), none, none⟩, ⟨.len false (.l 1), none, none⟩, ⟨.bin .lss (.l 0) (.l 2), none, none⟩, ⟨.mov (.l 3), none, none⟩, ⟨.mov (.v 3), none, (some (4, true))⟩, ⟨.bin .lss (.l 5) (.c (.int .i64 4000)), none, (some (4, true))⟩, ⟨.pick (.l 4) (.l 6) (.c (.bool false)), (some 4), none⟩] [])
 (.cond (.v 4) (.skip)
 (.exit 0)))
 (.seq (.block 1 (.reg [⟨.mov (.v 2), none, none⟩, ⟨.bin .mul (.l 0) (.c (.int .i64 131)), none, none⟩, ⟨.mov (.v 0), none, none⟩, ⟨.mov (.v 3), none, none⟩, ⟨.iptr 1 (.l 2) (.l 3), none, none⟩, ⟨.load none (.l 4), none, none⟩, ⟨.conv .i64 (.l 5), none, none⟩, ⟨.bin .add (.l 1) (.l 6), none, none⟩, ⟨.bin .add (.l 7) (.c (.int .i64 7)), none, none⟩, ⟨.bin .and (.l 8) (.c (.int .i64 1073741823)), none, none⟩, ⟨.mov (.l 9), (some 2), none⟩] []))
 (.reg [⟨.mov (.v 3), none, none⟩, ⟨.bin .add (.l 0) (.c (.int .i64 1)), none, none⟩, ⟨.mov (.l 1), (some 3), none⟩] []))))))
 (.seq (.reg [⟨.mov (.v 0), none, none⟩, ⟨.mov (.v 2), none, none⟩, ⟨.build [.imm true 0 [], .int .i64 0, .int .i64 0] [(0, 1, .l 0), (2, 1, .l 1)], none, none⟩, ⟨.box 144 3 (.l 2), none, none⟩, ⟨.mov (.l 3), (some 1), none⟩] [])
 (.ret)))),
 [.t 1], false, true⟩
def m36 : List Nat := [0, 2, 3, 4, 15]

/-- loop.example/g00293/spec.l2heap -/
def c37 : FC := ⟨1, 18, .seq (.reg [⟨.alloc 26 [.imm true 0 [], .int .i64 0, .int .i64 0, .int .i64 0, .imm true 0 []], (some 1), none⟩] [])
 (.seq (.reg [⟨.mov (.v 0), none, none⟩, ⟨.call 50 [.l 0, .c (.int .i64 20)], none, none⟩, ⟨.bin .add (.c (.int .i64 16)) (.l 1), none, none⟩, ⟨.call 90 [.l 2], none, none⟩, ⟨.mov (.l 3), none, none⟩, ⟨.ext (.l 4) 0, none, none⟩, ⟨.ext (.l 4) 1, none, none⟩, ⟨.alloc 26 [.imm true 0 [], .int .i64 0, .int .i64 0, .int .i64 0, .imm true 0 []], (some 2), none⟩, ⟨.store 5 (.l 7) (.l 5), none, none⟩, ⟨.mov (.l 6), none, none⟩] [])
 (.seq (.reg [⟨.mov (.v 0), none, none⟩, ⟨.call 50 [.l 0, .c (.int .i64 6)], none, none⟩, ⟨.mov (.l 1), (some 3), none⟩] [])
 (.seq (.seq (.reg [⟨.mov (.c (.int .i64 0)), (some 4), none⟩] [])
 (.block 0 (.loop (.seq (.seq (.reg [⟨.mov (.v 4), none, none⟩, ⟨.mov (.v 3), none, none⟩, ⟨.bin .lss (.l 0) (.l 1), (some 7), none⟩] [])
 (.cond (.v 7) (.skip)
 (.exit 0)))
 (.seq (.block 1 (.seq (.reg [⟨.mov (.v 0), none, none⟩, ⟨.call 50 [.l 0, .c (.int .i64 5)], none, none⟩, ⟨.bin .add (.c (.int .i64 1)) (.l 1), none, none⟩, ⟨.call 91 [.v 2, .l 2], none, none⟩, ⟨.mov (.l 3), none, none⟩, ⟨.ext (.l 4) 0, none, none⟩, ⟨.ext (.l 4) 1, none, none⟩, ⟨.mov (.l 5), (some 5), none⟩, ⟨.mov (.l 6), (some 6), none⟩] [])
 (.seq (.reg [⟨.mov (.v 6), (some 8), none⟩] [])
 (.cond (.v 8) (.reg [⟨.mov (.v 5), none, none⟩, ⟨.mov (.v 0), none, none⟩, ⟨.call 50 [.l 1, .c (.int .i64 3)], none, none⟩, ⟨.mov (.v 0), none, none⟩, ⟨.call 39 [.l 3], none, none⟩, ⟨.call 92 [.v 2, .l 0, .l 2, .l 4], none, none⟩] [])
 (.skip)))))
 (.reg [⟨.mov (.v 4), none, none⟩, ⟨.bin .add (.l 0) (.c (.int .i64 1)), none, none⟩, ⟨.mov (.l 1), (some 4), none⟩] []))))))
 (.seq (.seq (.reg [⟨.mov (.v 0), none, none⟩, ⟨.call 52 [.l 0, .c (.int .i64 4)], (some 9), none⟩] [])
 (.cond (.v 9) (.seq (.reg [⟨.fptr 1 (.v 2), none, none⟩, ⟨.load none (.l 0), none, none⟩, ⟨.fptr 2 (.v 2), none, none⟩, ⟨.store 1 (.l 2) (.l 1), none, none⟩] [])
 (.reg [⟨.fptr 1 (.v 2), none, none⟩, ⟨.load none (.l 0), none, none⟩, ⟨.mov (.v 0), none, none⟩, ⟨.fptr 1 (.v 2), none, none⟩, ⟨.load none (.l 3), none, none⟩, ⟨.bin .add (.l 4) (.c (.int .i64 1)), none, none⟩, ⟨.call 50 [.l 2, .l 5], none, none⟩, ⟨.bin .add (.l 1) (.l 6), none, none⟩, ⟨.fptr 3 (.v 2), none, none⟩, ⟨.store 1 (.l 8) (.l 7), none, none⟩] [(1, 9)]))
 (.skip)))
 (.seq (.seq (.reg [⟨.mov (.v 0), none, none⟩, ⟨.call 52 [.l 0, .c (.int .i64 12)], (some 10), none⟩] [])
 (.cond (.v 10) (.seq (.reg [⟨.mov (.v 0), none, none⟩, ⟨.call 50 [.l 0, .c (.int .i64 7)], (some 11), none⟩] [])
 (.block 2 (.seq (.reg [⟨.bin .eql (.v 11) (.c (.int .i64 0)), none, none⟩, ⟨.mov (.l 0), (some 12), none⟩] [])
 (.cond (.v 12) (.reg [⟨.mov (.v 0), none, none⟩, ⟨.fptr 1 (.v 2), none, none⟩, ⟨.load none (.l 1), none, none⟩, ⟨.bin .add (.l 2) (.c (.int .i64 1)), none, none⟩, ⟨.lit 3 1 [.int .i64 0] [(0, .c (.int .i64 15)), (1, .c (.int .i64 4097)), (2, .c (.int .i64 (-1))), (3, .l 3)] false true, none, none⟩, ⟨.call 53 [.l 0, .l 4], none, none⟩, ⟨.fptr 1 (.v 2), none, none⟩, ⟨.store 1 (.l 6) (.l 5), none, none⟩] [])
 (.seq (.reg [⟨.bin .eql (.v 11) (.c (.int .i64 1)), none, none⟩, ⟨.mov (.l 0), (some 13), none⟩] [])
 (.cond (.v 13) (.reg [⟨.mov (.v 0), none, none⟩, ⟨.fptr 1 (.v 2), none, none⟩, ⟨.load none (.l 1), none, none⟩, ⟨.bin .mul (.c (.int .i64 2)) (.l 2), none, none⟩, ⟨.lit 3 1 [.int .i64 0] [(0, .c (.int .i64 1)), (1, .c (.int .i64 (-1))), (2, .l 3)] false true, none, none⟩, ⟨.call 53 [.l 0, .l 4], none, none⟩, ⟨.fptr 2 (.v 2), none, none⟩, ⟨.store 1 (.l 6) (.l 5), none, none⟩] [])
 (.seq (.reg [⟨.bin .eql (.v 11) (.c (.int .i64 2)), none, none⟩, ⟨.mov (.l 0), (some 14), none⟩] [])
 (.cond (.v 14) (.reg [⟨.mov (.v 0), none, none⟩, ⟨.fptr 1 (.v 2), none, none⟩, ⟨.load none (.l 1), none, none⟩, ⟨.bin .mul (.c (.int .i64 2)) (.l 2), none, none⟩, ⟨.bin .add (.l 3) (.c (.int .i64 1)), none, none⟩, ⟨.fptr 1 (.v 2), none, none⟩, ⟨.load none (.l 5), none, none⟩, ⟨.bin .add (.l 6) (.c (.int .i64 1)), none, none⟩, ⟨.lit 3 1 [.int .i64 0] [(0, .c (.int .i64 (-1))), (1, .l 4), (2, .l 7)] false true, none, none⟩, ⟨.call 53 [.l 0, .l 8], none, none⟩, ⟨.fptr 3 (.v 2), none, none⟩, ⟨.store 1 (.l 10) (.l 9), none, none⟩] [])
 (.seq (.reg [⟨.bin .eql (.v 11) (.c (.int .i64 3)), none, none⟩, ⟨.mov (.l 0), (some 15), none⟩] [])
 (.cond (.v 15) (.reg [⟨.fptr 0 (.v 2), none, none⟩, ⟨.load none (.l 0), none, none⟩, ⟨.fptr 0 (.v 2), none, none⟩, ⟨.load none (.l 2), none, none⟩, ⟨.len false (.l 3), none, none⟩, ⟨.bin .sub (.l 4) (.c (.int .i64 1)), none, none⟩, ⟨.slice 1 (.l 1) none (some (.l 5)) none, none, none⟩, ⟨.fptr 0 (.v 2), none, none⟩, ⟨.store 1 (.l 7) (.l 6), none, none⟩] [])
 (.seq (.reg [⟨.bin .eql (.v 11) (.c (.int .i64 4)), none, none⟩, ⟨.mov (.l 0), (some 16), none⟩] [])
 (.cond (.v 16) (.reg [⟨.mk 99 3 24 [.int .i64 0, .int .i64 0, .int .i64 0] (.c (.int .i64 4001)) (.c (.int .i64 4001)), none, none⟩, ⟨.fptr 4 (.v 2), none, none⟩, ⟨.store 1 (.l 1) (.l 0), none, none⟩] [])
 (.seq (.reg [⟨.bin .eql (.v 11) (.c (.int .i64 5)), none, none⟩, ⟨.mov (.l 0), (some 17), none⟩] [])
 (.cond (.v 17) (.reg [⟨.mk 99 3 24 [.int .i64 0, .int .i64 0, .int .i64 0] (.c (.int .i64 4000)) (.c (.int .i64 4000)), none, none⟩, ⟨.fptr 4 (.v 2), none, none⟩, ⟨.store 1 (.l 1) (.l 0), none, none⟩] [])
 (.reg [⟨.fptr 0 (.v 2), none, none⟩, ⟨.store 1 (.l 0) (.c (.imm true 0 [])), none, none⟩] [])))))))))))))))
 (.skip)))
 (.seq (.reg [⟨.load (some 5) (.v 2), none, none⟩, ⟨.store 5 (.v 1) (.l 0), none, none⟩] [])
 (.ret))))))),
 [.cl (some 5) 1], false, false⟩
def m37 : List Nat := [0, 2, 3, 5, 6, 7, 8, 20, 30, 38, 52, 54, 56, 65, 74, 87, 97, 101]

/-- loop.example/g00293/spec.l2place -/
def c38 : FC := ⟨2, 9, .seq (.reg [⟨.box 26 5 (.v 1), (some 2), none⟩, ⟨.mov (.c (.int .i64 0)), (some 3), none⟩, ⟨.mov (.c (.int .i64 0)), (some 4), none⟩] [])
 (.seq (.reg [⟨.fptr 2 (.v 2), none, none⟩, ⟨.load none (.l 0), none, none⟩, ⟨.mov (.v 0), none, none⟩, ⟨.call 50 [.l 2, .c (.int .i64 12)], none, none⟩, ⟨.bin .add (.l 1) (.l 3), none, none⟩, ⟨.mov (.l 4), (some 5), none⟩] [(1, 6)])
 (.seq (.reg [⟨.mov (.v 0), none, none⟩, ⟨.call 50 [.l 0, .c (.int .i64 5)], none, none⟩, ⟨.mov (.l 1), (some 6), none⟩] [])
 (.seq (.seq (.reg [⟨.mov (.v 0), none, none⟩, ⟨.call 52 [.l 0, .c (.int .i64 5)], (some 7), none⟩] [])
 (.cond (.v 7) (.reg [⟨.mov (.v 0), none, none⟩, ⟨.fptr 3 (.v 2), none, none⟩, ⟨.load none (.l 1), none, none⟩, ⟨.fptr 3 (.v 2), none, none⟩, ⟨.load none (.l 3), none, none⟩, ⟨.bin .sub (.l 4) (.c (.int .i64 1)), none, none⟩, ⟨.fptr 2 (.v 2), none, none⟩, ⟨.load none (.l 6), none, none⟩, ⟨.bin .sub (.l 7) (.c (.int .i64 1)), none, none⟩, ⟨.lit 3 1 [.int .i64 0] [(0, .c (.int .i64 (-1))), (1, .l 2), (2, .l 5), (3, .l 8), (4, .c (.int .i64 4611686018427387904)), (5, .c (.int .i64 (-9223372036854775808)))] false true, none, none⟩, ⟨.call 53 [.l 0, .l 9], none, none⟩, ⟨.mov (.l 10), (some 5), none⟩] [])
 (.skip)))
 (.seq (.seq (.reg [⟨.mov (.v 0), none, none⟩, ⟨.call 52 [.l 0, .c (.int .i64 6)], (some 8), none⟩] [])
 (.cond (.v 8) (.reg [⟨.mov (.v 0), none, none⟩, ⟨.fptr 3 (.v 2), none, none⟩, ⟨.load none (.l 1), none, none⟩, ⟨.mov (.v 5), none, none⟩, ⟨.bin .sub (.l 2) (.l 3), none, none⟩, ⟨.fptr 3 (.v 2), none, none⟩, ⟨.load none (.l 5), none, none⟩, ⟨.mov (.v 5), none, none⟩, ⟨.bin .sub (.l 6) (.l 7), none, none⟩, ⟨.bin .sub (.l 8) (.c (.int .i64 1)), none, none⟩, ⟨.lit 3 1 [.int .i64 0] [(0, .c (.int .i64 (-1))), (1, .c (.int .i64 4611686018427387904)), (2, .c (.int .i64 9223372036854775807)), (3, .l 4), (4, .l 9)] false true, none, none⟩, ⟨.call 53 [.l 0, .l 10], none, none⟩, ⟨.mov (.l 11), (some 6), none⟩] [])
 (.skip)))
 (.seq (.reg [⟨.mov (.v 5), none, none⟩, ⟨.mov (.v 6), none, none⟩, ⟨.mov (.l 0), (some 3), none⟩, ⟨.mov (.l 1), (some 4), none⟩] [])
 (.ret)))))),
 [.t 3, .t 4], false, false⟩
def m38 : List Nat := [0, 1, 3, 4, 5, 6, 7, 16, 29]

/-- loop.example/g00293/spec.l1signed -/
def c39 : FC := ⟨1, 6, .seq (.reg [⟨.mov (.c (.int .i64 0)), (some 1), none⟩] [])
 (.seq (.seq (.reg [⟨.mov (.v 0), none, none⟩, ⟨.call 50 [.l 0, .c (.int .i64 4)], (some 2), none⟩] [])
 (.block 0 (.seq (.reg [⟨.bin .eql (.v 2) (.c (.int .i64 0)), none, none⟩, ⟨.mov (.l 0), (some 3), none⟩] [])
 (.cond (.v 3) (.seq (.reg [⟨.mov (.v 0), none, none⟩, ⟨.call 50 [.l 0, .c (.int .i64 9)], none, none⟩, ⟨.bin .sub (.l 1) (.c (.int .i64 4)), none, none⟩, ⟨.mov (.l 2), (some 1), none⟩] [])
 (.ret))
 (.seq (.reg [⟨.bin .eql (.v 2) (.c (.int .i64 1)), none, none⟩, ⟨.mov (.l 0), (some 4), none⟩] [])
 (.cond (.v 4) (.seq (.reg [⟨.mov (.v 0), none, none⟩, ⟨.lit 3 1 [.int .i64 0] [(0, .c (.int .i64 1073741823)), (1, .c (.int .i64 1073741824)), (2, .c (.int .i64 (-1073741824))), (3, .c (.int .i64 (-1073741825))), (4, .c (.int .i64 (-9223372036854775808))), (5, .c (.int .i64 9223372036854775807)), (6, .c (.int .i64 4611686018427387904)), (7, .c (.int .i64 (-4611686018427387904))), (8, .c (.int .i64 4611686018427387903)), (9, .c (.int .i64 (-4611686018427387905)))] false true, none, none⟩, ⟨.call 53 [.l 0, .l 1], none, none⟩, ⟨.mov (.l 2), (some 1), none⟩] [])
 (.ret))
 (.seq (.reg [⟨.bin .eql (.v 2) (.c (.int .i64 2)), none, none⟩, ⟨.mov (.l 0), (some 5), none⟩] [])
 (.cond (.v 5) (.seq (.reg [⟨.mov (.v 0), none, none⟩, ⟨.call 93 [.l 0], none, none⟩, ⟨.mov (.l 1), (some 1), none⟩] [])
 (.ret))
 (.skip)))))))))
 (.seq (.reg [⟨.mov (.v 0), none, none⟩, ⟨.call 50 [.l 0, .c (.int .i64 1073741824)], none, none⟩, ⟨.un .neg (.l 1), none, none⟩, ⟨.mov (.l 2), (some 1), none⟩] [])
 (.ret))),
 [.t 1], false, false⟩
def m39 : List Nat := [0, 2, 4, 5, 10, 15]

/-- loop.example/g00293/impl.HeapOk -/
def c40 : FC := ⟨1, 4, .seq (.reg [⟨.box 26 5 (.v 0), (some 1), none⟩, ⟨.mov (.c (.bool false)), (some 2), none⟩] [])
 (.seq (.reg [⟨.fptr 1 (.v 1), none, none⟩, ⟨.load none (.l 0), none, none⟩, ⟨.call 47 [.l 1, .c (.int .i64 16), .c (.int .i64 4096)], none, none⟩, ⟨.mov (.l 2), none, none⟩, ⟨.fptr 0 (.v 1), none, (some (3, true))⟩, ⟨.load none (.l 4), none, (some (3, true))⟩, ⟨.len false (.l 5), none, (some (3, true))⟩, ⟨.fptr 1 (.v 1), none, (some (3, true))⟩, ⟨.load none (.l 7), none, (some (3, true))⟩, ⟨.bin .mul (.c (.int .i64 2)) (.l 8), none, (some (3, true))⟩, ⟨.bin .eql (.l 6) (.l 9), none, (some (3, true))⟩, ⟨.pick (.l 3) (.l 10) (.c (.bool false)), none, none⟩, ⟨.mov (.l 11), none, none⟩, ⟨.fptr 4 (.v 1), none, (some (12, true))⟩, ⟨.load none (.l 13), none, (some (12, true))⟩, ⟨.len false (.l 14), none, (some (12, true))⟩, ⟨.bin .leq (.l 15) (.c (.int .i64 4000)), none, (some (12, true))⟩, ⟨.pick (.l 12) (.l 16) (.c (.bool false)), none, none⟩, ⟨.mov (.l 17), (some 3), none⟩] [])
 (.seq (.reg [⟨.mov (.v 3), none, none⟩, ⟨.mov (.l 0), none, none⟩, ⟨.fptr 2 (.v 1), none, (some (1, true))⟩, ⟨.load none (.l 2), none, (some (1, true))⟩, ⟨.bin .eql (.l 3) (.c (.int .i64 0)), none, (some (1, true))⟩, ⟨.mov (.l 4), none, (some (1, true))⟩, ⟨.fptr 2 (.v 1), none, (some (5, false))⟩, ⟨.load none (.l 6), none, (some (5, false))⟩, ⟨.fptr 1 (.v 1), none, (some (5, false))⟩, ⟨.load none (.l 8), none, (some (5, false))⟩, ⟨.bin .eql (.l 7) (.l 9), none, (some (5, false))⟩, ⟨.pick (.l 5) (.c (.bool true)) (.l 10), none, (some (1, true))⟩, ⟨.pick (.l 1) (.l 11) (.c (.bool false)), none, none⟩, ⟨.mov (.l 12), none, none⟩, ⟨.fptr 3 (.v 1), none, (some (13, true))⟩, ⟨.load none (.l 14), none, (some (13, true))⟩, ⟨.fptr 2 (.v 1), none, (some (13, true))⟩, ⟨.load none (.l 16), none, (some (13, true))⟩, ⟨.fptr 2 (.v 1), none, (some (13, true))⟩, ⟨.load none (.l 18), none, (some (13, true))⟩, ⟨.fptr 1 (.v 1), none, (some (13, true))⟩, ⟨.load none (.l 20), none, (some (13, true))⟩, ⟨.bin .add (.l 19) (.l 21), none, (some (13, true))⟩, ⟨.call 47 [.l 15, .l 17, .l 22], none, (some (13, true))⟩, ⟨.pick (.l 13) (.l 23) (.c (.bool false)), none, none⟩, ⟨.mov (.l 24), (some 2), none⟩] [])
 (.ret))),
 [.t 2], false, false⟩
def m40 : List Nat := [0, 1, 2, 3]

/-- loop.example/g00293/impl.cloneHeap -/
def c41 : FC := ⟨1, 3, .seq (.reg [⟨.box 26 5 (.v 0), (some 1), none⟩, ⟨.alloc 26 [.imm true 0 [], .int .i64 0, .int .i64 0, .int .i64 0, .imm true 0 []], (some 2), none⟩] [])
 (.seq (.reg [⟨.fptr 0 (.v 1), none, none⟩, ⟨.load none (.l 0), none, none⟩, ⟨.call 94 [.l 1], none, none⟩, ⟨.fptr 4 (.v 1), none, none⟩, ⟨.load none (.l 3), none, none⟩, ⟨.call 95 [.l 4], none, none⟩, ⟨.fptr 0 (.v 1), none, none⟩, ⟨.store 1 (.l 6) (.l 2), none, none⟩, ⟨.fptr 4 (.v 1), none, none⟩, ⟨.store 1 (.l 8) (.l 5), none, none⟩] [(4, 2)])
 (.seq (.reg [⟨.load (some 5) (.v 1), none, none⟩, ⟨.store 5 (.v 2) (.l 0), none, none⟩] [])
 (.ret))),
 [.cl (some 5) 2], false, true⟩
def m41 : List Nat := [0, 1, 2]

/-- (*loop.example/g00293/impl.Heap).store -/
def c42 : FC := ⟨4, 6, .seq (.reg [⟨.mov (.c (.bool false)), (some 4), none⟩] [])
 (.seq (.seq (.reg [⟨.mov (.v 0), none, none⟩, ⟨.mov (.v 1), none, none⟩, ⟨.mov (.v 2), none, none⟩, ⟨.call 96 [.l 0, .l 1, .l 2], none, none⟩, ⟨.un .not (.l 3), (some 5), none⟩] [])
 (.cond (.v 5) (.seq (.reg [⟨.mov (.c (.bool false)), (some 4), none⟩] [])
 (.ret))
 (.skip)))
 (.seq (.reg [⟨.mov (.v 0), none, none⟩, ⟨.nilck (.l 0), none, none⟩, ⟨.fptr 0 (.l 1), none, none⟩, ⟨.load none (.l 2), none, none⟩, ⟨.mov (.v 1), none, none⟩, ⟨.mov (.v 2), none, none⟩, ⟨.bin .add (.l 4) (.l 5), none, none⟩, ⟨.mov (.v 3), none, none⟩, ⟨.iptr 1 (.l 3) (.l 6), none, none⟩, ⟨.store 1 (.l 8) (.l 7), none, none⟩] [])
 (.seq (.reg [⟨.mov (.c (.bool true)), (some 4), none⟩] [])
 (.ret)))),
 [.t 4], false, true⟩
def m42 : List Nat := [0, 1, 2, 3, 8, 13]

/-- (*loop.example/g00293/impl.Heap).load -/
def c43 : FC := ⟨3, 6, .seq (.reg [⟨.mov (.c (.int .i64 0)), (some 3), none⟩, ⟨.mov (.c (.bool false)), (some 4), none⟩] [])
 (.seq (.seq (.reg [⟨.mov (.v 0), none, none⟩, ⟨.mov (.v 1), none, none⟩, ⟨.mov (.v 2), none, none⟩, ⟨.call 96 [.l 0, .l 1, .l 2], none, none⟩, ⟨.un .not (.l 3), (some 5), none⟩] [])
 (.cond (.v 5) (.seq (.reg [⟨.mov (.c (.int .i64 0)), (some 3), none⟩, ⟨.mov (.c (.bool false)), (some 4), none⟩] [])
 (.ret))
 (.skip)))
 (.seq (.reg [⟨.mov (.v 0), none, none⟩, ⟨.nilck (.l 0), none, none⟩, ⟨.fptr 0 (.l 1), none, none⟩, ⟨.load none (.l 2), none, none⟩, ⟨.mov (.v 1), none, none⟩, ⟨.mov (.v 2), none, none⟩, ⟨.bin .add (.l 4) (.l 5), none, none⟩, ⟨.iptr 1 (.l 3) (.l 6), none, none⟩, ⟨.load none (.l 7), none, none⟩, ⟨.mov (.l 8), (some 3), none⟩, ⟨.mov (.c (.bool true)), (some 4), none⟩] [])
 (.ret))),
 [.t 3, .t 4], false, true⟩
def m43 : List Nat := [0, 1, 2, 6, 7, 12]

/-- (*loop.example/g00293/impl.Heap).room -/
def c44 : FC := ⟨1, 2, .seq (.reg [⟨.mov (.c (.int .i64 0)), (some 1), none⟩] [])
 (.seq (.reg [⟨.mov (.v 0), none, none⟩, ⟨.nilck (.l 0), none, none⟩, ⟨.fptr 2 (.l 1), none, none⟩, ⟨.load none (.l 2), none, none⟩, ⟨.mov (.v 0), none, none⟩, ⟨.nilck (.l 4), none, none⟩, ⟨.fptr 1 (.l 5), none, none⟩, ⟨.load none (.l 6), none, none⟩, ⟨.bin .add (.l 3) (.l 7), none, none⟩, ⟨.mov (.v 0), none, none⟩, ⟨.nilck (.l 9), none, none⟩, ⟨.fptr 3 (.l 10), none, none⟩, ⟨.load none (.l 11), none, none⟩, ⟨.bin .sub (.l 8) (.l 12), none, none⟩, ⟨.mov (.l 13), (some 1), none⟩] [])
 (.ret)),
 [.t 1], false, false⟩
def m44 : List Nat := [0, 2]

/-- slices.ContainsFunc[[]loop.example/g00293/impl.Access,loop.example/g00293/impl.Access] -/
def c45 : FC := ⟨2, 3, .seq (.reg [⟨.mov (.c (.bool false)), (some 2), none⟩] [])
 (.seq (.reg [⟨.mov (.v 0), none, none⟩, ⟨.mov (.v 1), none, none⟩, ⟨.call 97 [.l 0, .l 1], none, none⟩, ⟨.bin .geq (.l 2) (.c (.int .i64 0)), none, none⟩, ⟨.mov (.l 3), (some 2), none⟩] [])
 (.ret)),
 [.t 2], false, false⟩
def m45 : List Nat := [0, 1, 4]

/-- loop.example/g00293/impl.LogInside$1 -/
def c46 : FC := ⟨2, 4, .seq (.reg [⟨.box 99 3 (.v 0), (some 2), none⟩, ⟨.mov (.c (.bool false)), (some 3), none⟩] [])
 (.seq (.reg [⟨.fptr 1 (.v 2), none, none⟩, ⟨.load none (.l 0), none, none⟩, ⟨.bin .neq (.l 1) (.c (.int .i64 0)), none, none⟩, ⟨.mov (.l 2), none, none⟩, ⟨.fptr 1 (.v 2), none, (some (3, true))⟩, ⟨.load none (.l 4), none, (some (3, true))⟩, ⟨.fptr 1 (.v 1), none, (some (3, true))⟩, ⟨.load none (.l 6), none, (some (3, true))⟩, ⟨.bin .neq (.l 5) (.l 7), none, (some (3, true))⟩, ⟨.pick (.l 3) (.l 8) (.c (.bool false)), none, none⟩, ⟨.mov (.l 9), none, none⟩, ⟨.fptr 2 (.v 2), none, (some (10, false))⟩, ⟨.load none (.l 11), none, (some (10, false))⟩, ⟨.fptr 1 (.v 2), none, (some (10, false))⟩, ⟨.load none (.l 13), none, (some (10, false))⟩, ⟨.fptr 1 (.v 1), none, (some (10, false))⟩, ⟨.load none (.l 15), none, (some (10, false))⟩, ⟨.bin .add (.l 14) (.l 16), none, (some (10, false))⟩, ⟨.bin .gtr (.l 12) (.l 17), none, (some (10, false))⟩, ⟨.pick (.l 10) (.c (.bool true)) (.l 18), none, none⟩, ⟨.mov (.l 19), none, none⟩, ⟨.fptr 0 (.v 2), none, (some (20, false))⟩, ⟨.load none (.l 21), none, (some (20, false))⟩, ⟨.fptr 1 (.v 2), none, (some (20, false))⟩, ⟨.load none (.l 23), none, (some (20, false))⟩, ⟨.fptr 2 (.v 2), none, (some (20, false))⟩, ⟨.load none (.l 25), none, (some (20, false))⟩, ⟨.bin .sub (.l 26) (.c (.int .i64 1)), none, (some (20, false))⟩, ⟨.call 47 [.l 22, .l 24, .l 27], none, (some (20, false))⟩, ⟨.un .not (.l 28), none, (some (20, false))⟩, ⟨.pick (.l 20) (.c (.bool true)) (.l 29), none, none⟩, ⟨.mov (.l 30), (some 3), none⟩] [])
 (.ret)),
 [.t 3], false, false⟩
def m46 : List Nat := [0, 1, 2, 3]

/-- loop.example/g00293/impl.within -/
def c47 : FC := ⟨3, 4, .seq (.reg [⟨.mov (.c (.bool false)), (some 3), none⟩] [])
 (.seq (.reg [⟨.mov (.v 0), none, none⟩, ⟨.mov (.v 1), none, none⟩, ⟨.bin .geq (.l 0) (.l 1), none, none⟩, ⟨.mov (.l 2), none, none⟩, ⟨.mov (.v 0), none, (some (3, true))⟩, ⟨.mov (.v 2), none, (some (3, true))⟩, ⟨.bin .leq (.l 4) (.l 5), none, (some (3, true))⟩, ⟨.pick (.l 3) (.l 6) (.c (.bool false)), none, none⟩, ⟨.mov (.l 7), (some 3), none⟩] [])
 (.ret)),
 [.t 3], false, false⟩
def m47 : List Nat := [0, 1, 2, 6]

/-- loop.example/g00293/spec.l1Below -/
def c50 : FC := ⟨2, 9, .seq (.reg [⟨.mov (.c (.int .i64 0)), (some 2), none⟩] [])
 (.seq (.seq (.reg [⟨.mov (.v 1), none, none⟩, ⟨.bin .leq (.l 0) (.c (.int .i64 0)), (some 7), none⟩] [])
 (.cond (.v 7) (.seq (.reg [⟨.mov (.c (.int .i64 0)), (some 2), none⟩] [])
 (.ret))
 (.skip)))
 (.seq (.seq (.reg [⟨.mov (.v 1), none, none⟩, ⟨.bin .leq (.l 0) (.c (.int .i64 256)), (some 8), none⟩] [])
 (.cond (.v 8) (.seq (.reg [⟨.mov (.v 0), none, none⟩, ⟨.call 99 [.l 0], none, none⟩, ⟨.mov (.v 1), none, none⟩, ⟨.bin .rem (.l 1) (.l 2), none, none⟩, ⟨.mov (.l 3), (some 2), none⟩] [])
 (.ret))
 (.skip)))
 (.seq (.reg [⟨.mov (.v 0), none, none⟩, ⟨.call 99 [.l 0], none, none⟩, ⟨.mov (.l 1), (some 3), none⟩] [])
 (.seq (.reg [⟨.mov (.v 0), none, none⟩, ⟨.call 99 [.l 0], none, none⟩, ⟨.mov (.l 1), (some 4), none⟩] [])
 (.seq (.reg [⟨.mov (.v 0), none, none⟩, ⟨.call 99 [.l 0], none, none⟩, ⟨.mov (.l 1), (some 5), none⟩] [])
 (.seq (.reg [⟨.mov (.v 0), none, none⟩, ⟨.call 99 [.l 0], none, none⟩, ⟨.mov (.l 1), (some 6), none⟩] [])
 (.seq (.reg [⟨.mov (.v 3), none, none⟩, ⟨.bin .mul (.l 0) (.c (.int .i64 16777216)), none, none⟩, ⟨.mov (.v 4), none, none⟩, ⟨.bin .mul (.l 2) (.c (.int .i64 65536)), none, none⟩, ⟨.bin .add (.l 1) (.l 3), none, none⟩, ⟨.mov (.v 5), none, none⟩, ⟨.bin .mul (.l 5) (.c (.int .i64 256)), none, none⟩, ⟨.bin .add (.l 4) (.l 6), none, none⟩, ⟨.mov (.v 6), none, none⟩, ⟨.bin .add (.l 7) (.l 8), none, none⟩, ⟨.mov (.v 1), none, none⟩, ⟨.bin .rem (.l 9) (.l 10), none, none⟩, ⟨.mov (.l 11), (some 2), none⟩] [])
 (.ret)))))))),
 [.t 2], false, false⟩
def m50 : List Nat := [0, 1, 4, 5, 6, 7, 8, 10, 12]

/-- loop.example/g00293/spec.l1Once -/
def c52 : FC := ⟨2, 3, .seq (.reg [⟨.mov (.c (.bool false)), (some 2), none⟩] [])
 (.seq (.reg [⟨.mov (.v 0), none, none⟩, ⟨.mov (.v 1), none, none⟩, ⟨.call 50 [.l 0, .l 1], none, none⟩, ⟨.bin .eql (.l 2) (.c (.int .i64 0)), none, none⟩, ⟨.mov (.l 3), (some 2), none⟩] [])
 (.ret)),
 [.t 2], false, false⟩
def m52 : List Nat := [0, 1, 4]

/-- loop.example/g00293/spec.l1PickInt -/
def c53 : FC := ⟨2, 3, .seq (.reg [⟨.mov (.c (.int .i64 0)), (some 2), none⟩] [])
 (.seq (.reg [⟨.mov (.v 1), none, none⟩, ⟨.mov (.v 0), none, none⟩, ⟨.mov (.v 1), none, none⟩, ⟨.len false (.l 2), none, none⟩, ⟨.call 50 [.l 1, .l 3], none, none⟩, ⟨.iptr 1 (.l 0) (.l 4), none, none⟩, ⟨.load none (.l 5), none, none⟩, ⟨.mov (.l 6), (some 2), none⟩] [])
 (.ret)),
 [.t 2], false, false⟩
def m53 : List Nat := [0, 1, 4]

/-- loop.example/g00293/spec.HeapNew -/
def c90 : FC := ⟨1, 4, .seq (.reg [⟨.alloc 26 [.imm true 0 [], .int .i64 0, .int .i64 0, .int .i64 0, .imm true 0 []], (some 1), none⟩, ⟨.mov (.c (.bool false)), (some 2), none⟩] [])
 (.seq (.seq (.reg [⟨.mov (.v 0), none, none⟩, ⟨.bin .lss (.l 0) (.c (.int .i64 16)), none, none⟩, ⟨.mov (.l 1), none, none⟩, ⟨.mov (.v 0), none, (some (2, false))⟩, ⟨.bin .gtr (.l 3) (.c (.int .i64 4096)), none, (some (2, false))⟩, ⟨.pick (.l 2) (.c (.bool true)) (.l 4), (some 3), none⟩] [])
 (.cond (.v 3) (.seq (.reg [⟨.build [.imm true 0 [], .int .i64 0, .int .i64 0, .int .i64 0, .imm true 0 []] [], none, none⟩, ⟨.store 5 (.v 1) (.l 0), none, none⟩, ⟨.mov (.c (.bool false)), (some 2), none⟩] [])
 (.ret))
 (.skip)))
 (.seq (.reg [⟨.mov (.v 0), none, none⟩, ⟨.bin .mul (.c (.int .i64 2)) (.l 0), none, none⟩, ⟨.mk 3 1 8 [.int .i64 0] (.l 1) (.l 1), none, none⟩, ⟨.mov (.v 0), none, none⟩, ⟨.build [.imm true 0 [], .int .i64 0, .int .i64 0, .int .i64 0, .imm true 0 []] [(0, 1, .l 2), (1, 1, .l 3)], none, none⟩, ⟨.store 5 (.v 1) (.l 4), none, none⟩, ⟨.mov (.c (.bool true)), (some 2), none⟩] [])
 (.ret))),
 [.cl (some 5) 1, .t 2], false, true⟩
def m90 : List Nat := [0, 2, 3, 9]

/-- loop.example/g00293/spec.l2alloc -/
def c91 : FC := ⟨2, 8, .seq (.reg [⟨.mov (.c (.int .i64 0)), (some 2), none⟩, ⟨.mov (.c (.bool false)), (some 3), none⟩] [])
 (.seq (.seq (.reg [⟨.mov (.v 1), none, none⟩, ⟨.bin .lss (.l 0) (.c (.int .i64 1)), none, none⟩, ⟨.mov (.l 1), none, none⟩, ⟨.mov (.v 1), none, (some (2, false))⟩, ⟨.bin .gtr (.l 3) (.c (.int .i64 64)), none, (some (2, false))⟩, ⟨.pick (.l 2) (.c (.bool true)) (.l 4), none, none⟩, ⟨.mov (.l 5), none, none⟩, ⟨.mov (.v 1), none, (some (6, false))⟩, ⟨.mov (.v 0), none, (some (6, false))⟩, ⟨.nilck (.l 8), none, (some (6, false))⟩, ⟨.fptr 2 (.l 9), none, (some (6, false))⟩, ⟨.load none (.l 10), none, (some (6, false))⟩, ⟨.mov (.v 0), none, (some (6, false))⟩, ⟨.nilck (.l 12), none, (some (6, false))⟩, ⟨.fptr 1 (.l 13), none, (some (6, false))⟩, ⟨.load none (.l 14), none, (some (6, false))⟩, ⟨.bin .add (.l 11) (.l 15), none, (some (6, false))⟩, ⟨.mov (.v 0), none, (some (6, false))⟩, ⟨.nilck (.l 17), none, (some (6, false))⟩, ⟨.fptr 3 (.l 18), none, (some (6, false))⟩, ⟨.load none (.l 19), none, (some (6, false))⟩, ⟨.bin .sub (.l 16) (.l 20), none, (some (6, false))⟩, ⟨.bin .gtr (.l 7) (.l 21), none, (some (6, false))⟩, ⟨.pick (.l 6) (.c (.bool true)) (.l 22), (some 6), none⟩] [])
 (.cond (.v 6) (.seq (.reg [⟨.mov (.c (.int .i64 0)), (some 2), none⟩, ⟨.mov (.c (.bool false)), (some 3), none⟩] [])
 (.ret))
 (.skip)))
 (.seq (.reg [⟨.mov (.v 0), none, none⟩, ⟨.nilck (.l 0), none, none⟩, ⟨.fptr 3 (.l 1), none, none⟩, ⟨.load none (.l 2), none, none⟩, ⟨.mov (.l 3), (some 4), none⟩] [])
 (.seq (.seq (.reg [⟨.mov (.c (.int .i64 0)), (some 5), none⟩] [])
 (.block 0 (.loop (.seq (.seq (.reg [⟨.mov (.v 5), none, none⟩, ⟨.mov (.v 1), none, none⟩, ⟨.bin .lss (.l 0) (.l 1), (some 7), none⟩] [])
 (.cond (.v 7) (.skip)
 (.exit 0)))
 (.seq (.block 1 (.reg [⟨.mov (.v 0), none, none⟩, ⟨.nilck (.l 0), none, none⟩, ⟨.fptr 0 (.l 1), none, none⟩, ⟨.load none (.l 2), none, none⟩, ⟨.mov (.v 4), none, none⟩, ⟨.mov (.v 5), none, none⟩, ⟨.bin .add (.l 4) (.l 5), none, none⟩, ⟨.iptr 1 (.l 3) (.l 6), none, none⟩, ⟨.store 1 (.l 7) (.c (.int .i64 0)), none, none⟩] []))
 (.reg [⟨.mov (.v 5), none, none⟩, ⟨.bin .add (.l 0) (.c (.int .i64 1)), none, none⟩, ⟨.mov (.l 1), (some 5), none⟩] []))))))
 (.seq (.reg [⟨.mov (.v 0), none, none⟩, ⟨.mov (.v 4), none, none⟩, ⟨.mov (.v 1), none, none⟩, ⟨.bin .add (.l 1) (.l 2), none, none⟩, ⟨.nilck (.l 0), none, none⟩, ⟨.fptr 3 (.l 4), none, none⟩, ⟨.store 1 (.l 5) (.l 3), none, none⟩] [])
 (.seq (.reg [⟨.mov (.v 4), none, none⟩, ⟨.mov (.l 0), (some 2), none⟩, ⟨.mov (.c (.bool true)), (some 3), none⟩] [])
 (.ret)))))),
 [.t 2, .t 3], false, true⟩
def m91 : List Nat := [0, 1, 4, 5, 6, 7, 31, 38]

/-- loop.example/g00293/spec.l2store -/
def c92 : FC := ⟨4, 6, .seq (.reg [⟨.mov (.c (.bool false)), (some 4), none⟩] [])
 (.seq (.seq (.reg [⟨.mov (.v 0), none, none⟩, ⟨.mov (.v 1), none, none⟩, ⟨.mov (.v 2), none, none⟩, ⟨.call 148 [.l 0, .l 1, .l 2], none, none⟩, ⟨.un .not (.l 3), (some 5), none⟩] [])
 (.cond (.v 5) (.seq (.reg [⟨.mov (.c (.bool false)), (some 4), none⟩] [])
 (.ret))
 (.skip)))
 (.seq (.reg [⟨.mov (.v 0), none, none⟩, ⟨.mov (.v 1), none, none⟩, ⟨.mov (.v 2), none, none⟩, ⟨.bin .add (.l 1) (.l 2), none, none⟩, ⟨.call 149 [.l 0, .l 3], none, none⟩] [])
 (.seq (.reg [⟨.mov (.v 0), none, none⟩, ⟨.nilck (.l 0), none, none⟩, ⟨.fptr 0 (.l 1), none, none⟩, ⟨.load none (.l 2), none, none⟩, ⟨.mov (.v 1), none, none⟩, ⟨.mov (.v 2), none, none⟩, ⟨.bin .add (.l 4) (.l 5), none, none⟩, ⟨.mov (.v 3), none, none⟩, ⟨.iptr 1 (.l 3) (.l 6), none, none⟩, ⟨.store 1 (.l 8) (.l 7), none, none⟩] [])
 (.seq (.reg [⟨.mov (.c (.bool true)), (some 4), none⟩] [])
 (.ret))))),
 [.t 4], false, true⟩
def m92 : List Nat := [0, 1, 2, 3, 8, 13]

/-- loop.example/g00293/spec.l1num -/
def c93 : FC := ⟨1, 7, .seq (.reg [⟨.mov (.c (.int .i64 0)), (some 1), none⟩] [])
 (.seq (.seq (.reg [⟨.mov (.v 0), none, none⟩, ⟨.call 50 [.l 0, .c (.int .i64 5)], (some 2), none⟩] [])
 (.block 0 (.seq (.reg [⟨.bin .eql (.v 2) (.c (.int .i64 0)), none, none⟩, ⟨.mov (.l 0), (some 3), none⟩] [])
 (.cond (.v 3) (.seq (.reg [⟨.mov (.v 0), none, none⟩, ⟨.call 50 [.l 0, .c (.int .i64 4)], none, none⟩, ⟨.mov (.l 1), (some 1), none⟩] [])
 (.ret))
 (.seq (.reg [⟨.bin .eql (.v 2) (.c (.int .i64 1)), none, none⟩, ⟨.mov (.l 0), (some 4), none⟩] [])
 (.cond (.v 4) (.seq (.reg [⟨.mov (.v 0), none, none⟩, ⟨.lit 3 1 [.int .i64 0] [(0, .c (.int .i64 126)), (1, .c (.int .i64 127)), (2, .c (.int .i64 128)), (3, .c (.int .i64 129)), (4, .c (.int .i64 16383)), (5, .c (.int .i64 16384)), (6, .c (.int .i64 2097151)), (7, .c (.int .i64 2097152)), (8, .c (.int .i64 2147483646)), (9, .c (.int .i64 2147483647))] false true, none, none⟩, ⟨.call 53 [.l 0, .l 1], none, none⟩, ⟨.mov (.l 2), (some 1), none⟩] [])
 (.ret))
 (.seq (.reg [⟨.bin .eql (.v 2) (.c (.int .i64 2)), none, none⟩, ⟨.mov (.l 0), (some 5), none⟩] [])
 (.cond (.v 5) (.seq (.reg [⟨.mov (.v 0), none, none⟩, ⟨.call 50 [.l 0, .c (.int .i64 40000)], none, none⟩, ⟨.mov (.l 1), (some 1), none⟩] [])
 (.ret))
 (.seq (.reg [⟨.bin .eql (.v 2) (.c (.int .i64 3)), none, none⟩, ⟨.mov (.l 0), (some 6), none⟩] [])
 (.cond (.v 6) (.seq (.reg [⟨.mov (.v 0), none, none⟩, ⟨.lit 3 1 [.int .i64 0] [(0, .c (.int .i64 (-1))), (1, .c (.int .i64 (-2))), (2, .c (.int .i64 2147483648)), (3, .c (.int .i64 4611686018427387904)), (4, .c (.int .i64 (-9223372036854775808))), (5, .c (.int .i64 9223372036854775807))] false true, none, none⟩, ⟨.call 53 [.l 0, .l 1], none, none⟩, ⟨.mov (.l 2), (some 1), none⟩] [])
 (.ret))
 (.skip)))))))))))
 (.seq (.reg [⟨.mov (.v 0), none, none⟩, ⟨.call 50 [.l 0, .c (.int .i64 2147483647)], none, none⟩, ⟨.mov (.l 1), (some 1), none⟩] [])
 (.ret))),
 [.t 1], false, false⟩
def m93 : List Nat := [0, 2, 4, 5, 9, 14, 18]

/-- slices.Clone[[]int,int] -/
def c94 : FC := ⟨1, 3, .seq (.reg [⟨.mov (.c (.imm true 0 [])), (some 1), none⟩] [])
 (.alt (.reg [⟨.mov (.v 0), none, none⟩, ⟨.isnil 0 false (.l 0), (some 2), none⟩] []) (.v 2) (.seq (.reg [⟨.mov (.c (.imm true 0 [])), (some 1), none⟩] [])
 (.ret))
 (.skip)
 (.seq (.reg [⟨.lit 3 1 [.int .i64 0] [] false true, none, none⟩, ⟨.mov (.v 0), none, none⟩, ⟨.app 3 1 8 (.l 0) (.l 1), none, none⟩, ⟨.mov (.l 2), (some 1), none⟩] [])
 (.ret))),
 [.t 1], false, true⟩
def m94 : List Nat := [0, 2, 4]

/-- slices.Clone[[]loop.example/g00293/impl.Access,loop.example/g00293/impl.Access] -/
def c95 : FC := ⟨1, 3, .seq (.reg [⟨.mov (.c (.imm true 0 [])), (some 1), none⟩] [])
 (.alt (.reg [⟨.mov (.v 0), none, none⟩, ⟨.isnil 0 false (.l 0), (some 2), none⟩] []) (.v 2) (.seq (.reg [⟨.mov (.c (.imm true 0 [])), (some 1), none⟩] [])
 (.ret))
 (.skip)
 (.seq (.reg [⟨.lit 99 3 [.int .i64 0, .int .i64 0, .int .i64 0] [] false true, none, none⟩, ⟨.mov (.v 0), none, none⟩, ⟨.app 99 3 24 (.l 0) (.l 1), none, none⟩, ⟨.mov (.l 2), (some 1), none⟩] [])
 (.ret))),
 [.t 1], false, true⟩
def m95 : List Nat := [0, 2, 4]

/-- (*loop.example/g00293/impl.Heap).touch -/
def c96 : FC := ⟨3, 6, .seq (.reg [⟨.mov (.c (.bool false)), (some 3), none⟩] [])
 (.seq (.seq (.reg [⟨.mov (.v 0), none, none⟩, ⟨.mov (.v 1), none, none⟩, ⟨.call 150 [.l 0, .l 1], none, none⟩, ⟨.un .not (.l 2), none, none⟩, ⟨.mov (.l 3), none, none⟩, ⟨.mov (.v 2), none, (some (4, false))⟩, ⟨.bin .lss (.l 5) (.c (.int .i64 0)), none, (some (4, false))⟩, ⟨.pick (.l 4) (.c (.bool true)) (.l 6), none, none⟩, ⟨.mov (.l 7), none, none⟩, ⟨.mov (.v 2), none, (some (8, false))⟩, ⟨.mov (.v 0), none, (some (8, false))⟩, ⟨.nilck (.l 10), none, (some (8, false))⟩, ⟨.fptr 3 (.l 11), none, (some (8, false))⟩, ⟨.load none (.l 12), none, (some (8, false))⟩, ⟨.mov (.v 1), none, (some (8, false))⟩, ⟨.bin .sub (.l 13) (.l 14), none, (some (8, false))⟩, ⟨.bin .geq (.l 9) (.l 15), none, (some (8, false))⟩, ⟨.pick (.l 8) (.c (.bool true)) (.l 16), (some 4), none⟩] [])
 (.cond (.v 4) (.seq (.reg [⟨.mov (.c (.bool false)), (some 3), none⟩] [])
 (.ret))
 (.skip)))
 (.seq (.seq (.reg [⟨.mov (.v 0), none, none⟩, ⟨.nilck (.l 0), none, none⟩, ⟨.fptr 4 (.l 1), none, none⟩, ⟨.load none (.l 2), none, none⟩, ⟨.len false (.l 3), none, none⟩, ⟨.bin .eql (.l 4) (.c (.int .i64 4000)), (some 5), none⟩] [])
 (.cond (.v 5) (.reg [⟨.mov (.v 0), none, none⟩, ⟨.mov (.v 0), none, none⟩, ⟨.nilck (.l 1), none, none⟩, ⟨.fptr 4 (.l 2), none, none⟩, ⟨.load none (.l 3), none, none⟩, ⟨.slice 3 (.l 4) (some (.c (.int .i64 1))) none none, none, none⟩, ⟨.nilck (.l 0), none, none⟩, ⟨.fptr 4 (.l 6), none, none⟩, ⟨.store 1 (.l 7) (.l 5), none, none⟩] [])
 (.skip)))
 (.seq (.reg [⟨.mov (.v 0), none, none⟩, ⟨.mov (.v 0), none, none⟩, ⟨.nilck (.l 1), none, none⟩, ⟨.fptr 4 (.l 2), none, none⟩, ⟨.load none (.l 3), none, none⟩, ⟨.mov (.v 1), none, none⟩, ⟨.mov (.v 2), none, none⟩, ⟨.bin .add (.l 5) (.l 6), none, none⟩, ⟨.mov (.v 0), none, none⟩, ⟨.nilck (.l 8), none, none⟩, ⟨.fptr 2 (.l 9), none, none⟩, ⟨.load none (.l 10), none, none⟩, ⟨.mov (.v 0), none, none⟩, ⟨.nilck (.l 12), none, none⟩, ⟨.fptr 3 (.l 13), none, none⟩, ⟨.load none (.l 14), none, none⟩, ⟨.build [.int .i64 0, .int .i64 0, .int .i64 0] [(0, 1, .l 7), (1, 1, .l 11), (2, 1, .l 15)], none, none⟩, ⟨.lit 99 3 [.int .i64 0, .int .i64 0, .int .i64 0] [(0, .l 16)] false true, none, none⟩, ⟨.app 99 3 24 (.l 4) (.l 17), none, none⟩, ⟨.nilck (.l 0), none, none⟩, ⟨.fptr 4 (.l 19), none, none⟩, ⟨.store 1 (.l 20) (.l 18), none, none⟩] [(4, 18)])
 (.seq (.reg [⟨.mov (.c (.bool true)), (some 3), none⟩] [])
 (.ret))))),
 [.t 3], false, true⟩
def m96 : List Nat := [0, 1, 2, 6, 24, 30]

/-- slices.IndexFunc[[]loop.example/g00293/impl.Access,loop.example/g00293/impl.Access] -/
def c97 : FC := ⟨2, 8, .seq (.reg [⟨.mov (.c (.int .i64 0)), (some 2), none⟩] [])
 (.seq (.seq (.reg [⟨.mov (.v 0), none, none⟩, ⟨.len false (.l 0), (some 4), none⟩, ⟨.mov (.c (.int .i64 0)), (some 5), none⟩] [])
 (.block 0 (.loop (.seq (.reg [⟨.bin .lss (.v 5) (.v 4), (some 6), none⟩] [])
 (.seq (.cond (.v 6) (.skip)
 (.exit 0))
 (.seq (.block 1 (.seq (.reg [⟨.mov (.v 5), none, none⟩, ⟨.mov (.l 0), (some 3), none⟩] [])
 (.seq (.reg [⟨.mov (.v 1), none, none⟩, ⟨.mov (.v 0), none, none⟩, ⟨.mov (.v 3), none, none⟩, ⟨.iptr 3 (.l 1) (.l 2), none, none⟩, ⟨.load (some 3) (.l 3), none, none⟩, ⟨.callv (.l 0) [.l 4], (some 7), none⟩] [])
 (.cond (.v 7) (.seq (.reg [⟨.mov (.v 3), none, none⟩, ⟨.mov (.l 0), (some 2), none⟩] [])
 (.ret))
 (.skip)))))
 (.reg [⟨.bin .add (.v 5) (.c (.int .i64 1)), none, none⟩, ⟨.mov (.l 0), (some 5), none⟩] [])))))))
 (.seq (.reg [⟨.mov (.c (.int .i64 (-1))), (some 2), none⟩] [])
 (.ret))),
 [.t 2], false, false⟩
def m97 : List Nat := [0, 1, 4, 5, 7, 8, 9, 16]

/-- loop.example/g00293/spec.l1Byte -/
def c99 : FC := ⟨1, 4, .seq (.reg [⟨.mov (.c (.int .i64 0)), (some 1), none⟩] [])
 (.seq (.reg [⟨.mov (.v 0), none, none⟩, ⟨.mov (.v 0), none, none⟩, ⟨.nilck (.l 1), none, none⟩, ⟨.fptr 2 (.l 2), none, none⟩, ⟨.load none (.l 3), none, none⟩, ⟨.bin .mul (.l 4) (.c (.int .i64 6364136223846793005)), none, none⟩, ⟨.bin .add (.l 5) (.c (.int .i64 1442695040888963407)), none, none⟩, ⟨.nilck (.l 0), none, none⟩, ⟨.fptr 2 (.l 7), none, none⟩, ⟨.store 1 (.l 8) (.l 6), none, none⟩] [])
 (.seq (.reg [⟨.mov (.v 0), none, none⟩, ⟨.nilck (.l 0), none, none⟩, ⟨.fptr 2 (.l 1), none, none⟩, ⟨.load none (.l 2), none, none⟩, ⟨.bin .shr (.l 3) (.c (.int .u64 33)), none, none⟩, ⟨.mov (.v 0), none, none⟩, ⟨.nilck (.l 5), none, none⟩, ⟨.fptr 2 (.l 6), none, none⟩, ⟨.load none (.l 7), none, none⟩, ⟨.bin .shr (.l 8) (.c (.int .u64 45)), none, none⟩, ⟨.bin .xor (.l 4) (.l 9), none, none⟩, ⟨.bin .and (.l 10) (.c (.int .i64 255)), none, none⟩, ⟨.mov (.l 11), (some 2), none⟩] [])
 (.seq (.seq (.reg [⟨.mov (.v 0), none, none⟩, ⟨.nilck (.l 0), none, none⟩, ⟨.fptr 1 (.l 1), none, none⟩, ⟨.load none (.l 2), none, none⟩, ⟨.mov (.v 0), none, none⟩, ⟨.nilck (.l 4), none, none⟩, ⟨.fptr 0 (.l 5), none, none⟩, ⟨.load none (.l 6), none, none⟩, ⟨.len false (.l 7), none, none⟩, ⟨.bin .lss (.l 3) (.l 8), (some 3), none⟩] [])
 (.cond (.v 3) (.seq (.reg [⟨.mov (.v 2), none, none⟩, ⟨.mov (.v 0), none, none⟩, ⟨.nilck (.l 1), none, none⟩, ⟨.fptr 0 (.l 2), none, none⟩, ⟨.load none (.l 3), none, none⟩, ⟨.mov (.v 0), none, none⟩, ⟨.nilck (.l 5), none, none⟩, ⟨.fptr 1 (.l 6), none, none⟩, ⟨.load none (.l 7), none, none⟩, ⟨.iptr 1 (.l 4) (.l 8), none, none⟩, ⟨.load none (.l 9), none, none⟩, ⟨.conv .i64 (.l 10), none, none⟩, ⟨.bin .add (.l 0) (.l 11), none, none⟩, ⟨.bin .and (.l 12) (.c (.int .i64 255)), none, none⟩, ⟨.mov (.l 13), (some 2), none⟩] [])
 (.reg [⟨.mov (.v 0), none, none⟩, ⟨.mov (.v 0), none, none⟩, ⟨.nilck (.l 1), none, none⟩, ⟨.fptr 1 (.l 2), none, none⟩, ⟨.load none (.l 3), none, none⟩, ⟨.bin .add (.l 4) (.c (.int .i64 1)), none, none⟩, ⟨.nilck (.l 0), none, none⟩, ⟨.fptr 1 (.l 6), none, none⟩, ⟨.store 1 (.l 7) (.l 5), none, none⟩] []))
 (.skip)))
 (.seq (.reg [⟨.mov (.v 2), none, none⟩, ⟨.mov (.l 0), (some 1), none⟩] [])
 (.ret))))),
 [.t 1], false, false⟩
def m99 : List Nat := [0, 2, 3, 34]

/-- loop.example/g00293/spec.l2in -/
def c148 : FC := ⟨3, 4, .seq (.reg [⟨.mov (.c (.bool false)), (some 3), none⟩] [])
 (.seq (.reg [⟨.mov (.v 1), none, none⟩, ⟨.mov (.v 0), none, none⟩, ⟨.nilck (.l 1), none, none⟩, ⟨.fptr 2 (.l 2), none, none⟩, ⟨.load none (.l 3), none, none⟩, ⟨.bin .geq (.l 0) (.l 4), none, none⟩, ⟨.mov (.l 5), none, none⟩, ⟨.mov (.v 1), none, (some (6, true))⟩, ⟨.mov (.v 0), none, (some (6, true))⟩, ⟨.nilck (.l 8), none, (some (6, true))⟩, ⟨.fptr 3 (.l 9), none, (some (6, true))⟩, ⟨.load none (.l 10), none, (some (6, true))⟩, ⟨.bin .lss (.l 7) (.l 11), none, (some (6, true))⟩, ⟨.pick (.l 6) (.l 12) (.c (.bool false)), none, none⟩, ⟨.mov (.l 13), none, none⟩, ⟨.mov (.v 2), none, (some (14, true))⟩, ⟨.bin .geq (.l 15) (.c (.int .i64 0)), none, (some (14, true))⟩, ⟨.pick (.l 14) (.l 16) (.c (.bool false)), none, none⟩, ⟨.mov (.l 17), none, none⟩, ⟨.mov (.v 2), none, (some (18, true))⟩, ⟨.mov (.v 0), none, (some (18, true))⟩, ⟨.nilck (.l 20), none, (some (18, true))⟩, ⟨.fptr 3 (.l 21), none, (some (18, true))⟩, ⟨.load none (.l 22), none, (some (18, true))⟩, ⟨.mov (.v 1), none, (some (18, true))⟩, ⟨.bin .sub (.l 23) (.l 24), none, (some (18, true))⟩, ⟨.bin .lss (.l 19) (.l 25), none, (some (18, true))⟩, ⟨.pick (.l 18) (.l 26) (.c (.bool false)), none, none⟩, ⟨.mov (.l 27), (some 3), none⟩] [])
 (.ret)),
 [.t 3], false, false⟩
def m148 : List Nat := [0, 1, 2, 6]

/-- loop.example/g00293/spec.l2log -/
def c149 : FC := ⟨2, 3, .seq (.seq (.reg [⟨.mov (.v 0), none, none⟩, ⟨.nilck (.l 0), none, none⟩, ⟨.fptr 4 (.l 1), none, none⟩, ⟨.load none (.l 2), none, none⟩, ⟨.len false (.l 3), none, none⟩, ⟨.bin .eql (.l 4) (.c (.int .i64 4000)), (some 2), none⟩] [])
 (.cond (.v 2) (.reg [⟨.mov (.v 0), none, none⟩, ⟨.mov (.v 0), none, none⟩, ⟨.nilck (.l 1), none, none⟩, ⟨.fptr 4 (.l 2), none, none⟩, ⟨.load none (.l 3), none, none⟩, ⟨.slice 3 (.l 4) (some (.c (.int .i64 1))) none none, none, none⟩, ⟨.nilck (.l 0), none, none⟩, ⟨.fptr 4 (.l 6), none, none⟩, ⟨.store 1 (.l 7) (.l 5), none, none⟩] [])
 (.skip)))
 (.reg [⟨.mov (.v 0), none, none⟩, ⟨.mov (.v 0), none, none⟩, ⟨.nilck (.l 1), none, none⟩, ⟨.fptr 4 (.l 2), none, none⟩, ⟨.load none (.l 3), none, none⟩, ⟨.mov (.v 1), none, none⟩, ⟨.mov (.v 0), none, none⟩, ⟨.nilck (.l 6), none, none⟩, ⟨.fptr 2 (.l 7), none, none⟩, ⟨.load none (.l 8), none, none⟩, ⟨.mov (.v 0), none, none⟩, ⟨.nilck (.l 10), none, none⟩, ⟨.fptr 3 (.l 11), none, none⟩, ⟨.load none (.l 12), none, none⟩, ⟨.build [.int .i64 0, .int .i64 0, .int .i64 0] [(0, 1, .l 5), (1, 1, .l 9), (2, 1, .l 13)], none, none⟩, ⟨.lit 99 3 [.int .i64 0, .int .i64 0, .int .i64 0] [(0, .l 14)] false true, none, none⟩, ⟨.app 99 3 24 (.l 4) (.l 15), none, none⟩, ⟨.nilck (.l 0), none, none⟩, ⟨.fptr 4 (.l 17), none, none⟩, ⟨.store 1 (.l 18) (.l 16), none, none⟩] [(4, 16)]),
 [], false, true⟩
def m149 : List Nat := [0, 1, 9]

/-- (*loop.example/g00293/impl.Heap).taken -/
def c150 : FC := ⟨2, 3, .seq (.reg [⟨.mov (.c (.bool false)), (some 2), none⟩] [])
 (.seq (.reg [⟨.mov (.v 1), none, none⟩, ⟨.mov (.v 0), none, none⟩, ⟨.nilck (.l 1), none, none⟩, ⟨.fptr 2 (.l 2), none, none⟩, ⟨.load none (.l 3), none, none⟩, ⟨.mov (.v 0), none, none⟩, ⟨.nilck (.l 5), none, none⟩, ⟨.fptr 3 (.l 6), none, none⟩, ⟨.load none (.l 7), none, none⟩, ⟨.bin .sub (.l 8) (.c (.int .i64 1)), none, none⟩, ⟨.call 47 [.l 0, .l 4, .l 9], none, none⟩, ⟨.mov (.l 10), (some 2), none⟩] [])
 (.ret)),
 [.t 2], false, false⟩
def m150 : List Nat := [0, 1, 4]

theorem p3 : Fit Try.prog 3 c3 := ⟨Try.f3, m3, by kernel_rfl, by kernel_rfl⟩
theorem p7 : Fit Try.prog 7 c7 := ⟨Try.f7, m7, by kernel_rfl, by kernel_rfl⟩
theorem p8 : Fit Try.prog 8 c8 := ⟨Try.f8, m8, by kernel_rfl, by kernel_rfl⟩
theorem p9 : Fit Try.prog 9 c9 := ⟨Try.f9, m9, by kernel_rfl, by kernel_rfl⟩
theorem p10 : Fit Try.prog 10 c10 := ⟨Try.f10, m10, by kernel_rfl, by kernel_rfl⟩
theorem p11 : Fit Try.prog 11 c11 := ⟨Try.f11, m11, by kernel_rfl, by kernel_rfl⟩
theorem p12 : Fit Try.prog 12 c12 := ⟨Try.f12, m12, by kernel_rfl, by kernel_rfl⟩
theorem p13 : Fit Try.prog 13 c13 := ⟨Try.f13, m13, by kernel_rfl, by kernel_rfl⟩
theorem p14 : Fit Try.prog 14 c14 := ⟨Try.f14, m14, by kernel_rfl, by kernel_rfl⟩
theorem p15 : Fit Try.prog 15 c15 := ⟨Try.f15, m15, by kernel_rfl, by kernel_rfl⟩
theorem p36 : Fit Try.prog 36 c36 := ⟨Try.f36, m36, by kernel_rfl, by kernel_rfl⟩
theorem p37 : Fit Try.prog 37 c37 := ⟨Try.f37, m37, by kernel_rfl, by kernel_rfl⟩
theorem p38 : Fit Try.prog 38 c38 := ⟨Try.f38, m38, by kernel_rfl, by kernel_rfl⟩
theorem p39 : Fit Try.prog 39 c39 := ⟨Try.f39, m39, by kernel_rfl, by kernel_rfl⟩
theorem p40 : Fit Try.prog 40 c40 := ⟨Try.f40, m40, by kernel_rfl, by kernel_rfl⟩
theorem p41 : Fit Try.prog 41 c41 := ⟨Try.f41, m41, by kernel_rfl, by kernel_rfl⟩
theorem p42 : Fit Try.prog 42 c42 := ⟨Try.f42, m42, by kernel_rfl, by kernel_rfl⟩
theorem p43 : Fit Try.prog 43 c43 := ⟨Try.f43, m43, by kernel_rfl, by kernel_rfl⟩
theorem p44 : Fit Try.prog 44 c44 := ⟨Try.f44, m44, by kernel_rfl, by kernel_rfl⟩
theorem p45 : Fit Try.prog 45 c45 := ⟨Try.f45, m45, by kernel_rfl, by kernel_rfl⟩
theorem p46 : Fit Try.prog 46 c46 := ⟨Try.f46, m46, by kernel_rfl, by kernel_rfl⟩
theorem p47 : Fit Try.prog 47 c47 := ⟨Try.f47, m47, by kernel_rfl, by kernel_rfl⟩
theorem p50 : Fit Try.prog 50 c50 := ⟨Try.f50, m50, by kernel_rfl, by kernel_rfl⟩
theorem p52 : Fit Try.prog 52 c52 := ⟨Try.f52, m52, by kernel_rfl, by kernel_rfl⟩
theorem p53 : Fit Try.prog 53 c53 := ⟨Try.f53, m53, by kernel_rfl, by kernel_rfl⟩
theorem p90 : Fit Try.prog 90 c90 := ⟨Try.f90, m90, by kernel_rfl, by kernel_rfl⟩
theorem p91 : Fit Try.prog 91 c91 := ⟨Try.f91, m91, by kernel_rfl, by kernel_rfl⟩
theorem p92 : Fit Try.prog 92 c92 := ⟨Try.f92, m92, by kernel_rfl, by kernel_rfl⟩
theorem p93 : Fit Try.prog 93 c93 := ⟨Try.f93, m93, by kernel_rfl, by kernel_rfl⟩
theorem p94 : Fit Try.prog 94 c94 := ⟨Try.f94, m94, by kernel_rfl, by kernel_rfl⟩
theorem p95 : Fit Try.prog 95 c95 := ⟨Try.f95, m95, by kernel_rfl, by kernel_rfl⟩
theorem p96 : Fit Try.prog 96 c96 := ⟨Try.f96, m96, by kernel_rfl, by kernel_rfl⟩
theorem p97 : Fit Try.prog 97 c97 := ⟨Try.f97, m97, by kernel_rfl, by kernel_rfl⟩
theorem p99 : Fit Try.prog 99 c99 := ⟨Try.f99, m99, by kernel_rfl, by kernel_rfl⟩
theorem p148 : Fit Try.prog 148 c148 := ⟨Try.f148, m148, by kernel_rfl, by kernel_rfl⟩
theorem p149 : Fit Try.prog 149 c149 := ⟨Try.f149, m149, by kernel_rfl, by kernel_rfl⟩
theorem p150 : Fit Try.prog 150 c150 := ⟨Try.f150, m150, by kernel_rfl, by kernel_rfl⟩
def tbl : List (Nat × FC) := [(3, c3), (7, c7), (8, c8), (9, c9), (10, c10), (11, c11), (12, c12), (13, c13), (14, c14), (15, c15), (36, c36), (37, c37), (38, c38), (39, c39), (40, c40), (41, c41), (42, c42), (43, c43), (44, c44), (45, c45), (46, c46), (47, c47), (50, c50), (52, c52), (53, c53), (90, c90), (91, c91), (92, c92), (93, c93), (94, c94), (95, c95), (96, c96), (97, c97), (99, c99), (148, c148), (149, c149), (150, c150)]
theorem tbl_fits : FitL Try.prog tbl := FitL.cons p3 (FitL.cons p7 (FitL.cons p8 (FitL.cons p9 (FitL.cons p10 (FitL.cons p11 (FitL.cons p12 (FitL.cons p13 (FitL.cons p14 (FitL.cons p15 (FitL.cons p36 (FitL.cons p37 (FitL.cons p38 (FitL.cons p39 (FitL.cons p40 (FitL.cons p41 (FitL.cons p42 (FitL.cons p43 (FitL.cons p44 (FitL.cons p45 (FitL.cons p46 (FitL.cons p47 (FitL.cons p50 (FitL.cons p52 (FitL.cons p53 (FitL.cons p90 (FitL.cons p91 (FitL.cons p92 (FitL.cons p93 (FitL.cons p94 (FitL.cons p95 (FitL.cons p96 (FitL.cons p97 (FitL.cons p99 (FitL.cons p148 (FitL.cons p149 (FitL.cons p150 (FitL.nil)))))))))))))))))))))))))))))))))))))
end Go.Proofs.Ythogcanomihelaa.Ga
