/- MADE BY PROGRAM (gen.py): what each function of the program does, in the evaluator's words, each held against the program's text by the kernel. -/
import Derived.Test.YthogcanomihelaaAe17
import Derived.Test.YthogcanomihelaaChecked
import Derived.KernelRfl
import Derived.Test.YthogcanomihelaaPr
set_option linter.unusedSimpArgs false
set_option linter.unusedVariables false
namespace Go.Proofs.Ythogcanomihelaa.Gw
open Go Go.Proofs Go.Proofs.Ythogcanomihelaa.Ae
/-- loop.example/g00293/laws.FnWorlds -/
def c4 : FC := ⟨1, 18, .seq (.reg [⟨.mov (.c (.bool false)), (some 1), none⟩] [])
 (.seq (.reg [⟨.mov (.v 0), none, none⟩, ⟨.call 16 [.l 0], none, none⟩, ⟨.mov (.l 1), none, none⟩, ⟨.ext (.l 2) 0, none, none⟩, ⟨.ext (.l 2) 1, none, none⟩, ⟨.ext (.l 2) 2, none, none⟩, ⟨.ext (.l 2) 3, none, none⟩, ⟨.ext (.l 2) 4, none, none⟩, ⟨.alloc 40 [.int .i64 0, .imm true 0 [], .imm true 0 [], .imm true 0 []], (some 2), none⟩, ⟨.store 4 (.l 8) (.l 3), none, none⟩, ⟨.mov (.l 4), (some 3), none⟩, ⟨.mov (.l 5), (some 4), none⟩, ⟨.mov (.l 6), (some 5), none⟩, ⟨.mov (.l 7), (some 6), none⟩] [])
 (.seq (.reg [⟨.load (some 4) (.v 2), none, none⟩, ⟨.mov (.v 3), none, none⟩, ⟨.mov (.v 4), none, none⟩, ⟨.mov (.v 5), none, none⟩, ⟨.mov (.v 6), none, none⟩, ⟨.call 17 [.l 0, .l 1, .l 2, .l 3, .l 4], none, none⟩, ⟨.mov (.l 5), none, none⟩, ⟨.ext (.l 6) 0, none, none⟩, ⟨.ext (.l 6) 1, none, none⟩, ⟨.ext (.l 6) 2, none, none⟩, ⟨.alloc 40 [.int .i64 0, .imm true 0 [], .imm true 0 [], .imm true 0 []], (some 7), none⟩, ⟨.store 4 (.l 10) (.l 7), none, none⟩, ⟨.mov (.l 8), (some 8), none⟩, ⟨.mov (.l 9), (some 9), none⟩] [])
 (.seq (.seq (.reg [⟨.mov (.v 9), none, none⟩, ⟨.un .not (.l 0), (some 16), none⟩] [])
 (.cond (.v 16) (.seq (.reg [⟨.mov (.v 8), none, none⟩, ⟨.bin .eql (.l 0) (.c (.int .i64 0)), none, none⟩, ⟨.mov (.l 1), none, none⟩, ⟨.load (some 4) (.v 2), none, (some (2, true))⟩, ⟨.call 18 [.l 3], none, (some (2, true))⟩, ⟨.un .not (.l 4), none, (some (2, true))⟩, ⟨.pick (.l 2) (.l 5) (.c (.bool false)), none, none⟩, ⟨.mov (.l 6), none, none⟩, ⟨.mov (.v 3), none, (some (7, false))⟩, ⟨.bin .lss (.l 8) (.c (.int .i64 0)), none, (some (7, false))⟩, ⟨.pick (.l 7) (.c (.bool true)) (.l 9), none, none⟩, ⟨.mov (.l 10), none, none⟩, ⟨.mov (.v 3), none, (some (11, false))⟩, ⟨.bin .gtr (.l 12) (.c (.int .i64 4)), none, (some (11, false))⟩, ⟨.pick (.l 11) (.c (.bool true)) (.l 13), none, none⟩, ⟨.mov (.l 14), none, none⟩, ⟨.mov (.v 4), none, (some (15, false))⟩, ⟨.mov (.v 4), none, (some (15, false))⟩, ⟨.call 19 [.l 17], none, (some (15, false))⟩, ⟨.bin .neq (.l 16) (.l 18), none, (some (15, false))⟩, ⟨.pick (.l 15) (.c (.bool true)) (.l 19), none, none⟩, ⟨.mov (.l 20), none, none⟩, ⟨.mov (.v 5), none, (some (21, false))⟩, ⟨.mov (.v 5), none, (some (21, false))⟩, ⟨.call 19 [.l 23], none, (some (21, false))⟩, ⟨.bin .neq (.l 22) (.l 24), none, (some (21, false))⟩, ⟨.pick (.l 21) (.c (.bool true)) (.l 25), none, none⟩, ⟨.mov (.l 26), none, none⟩, ⟨.mov (.v 6), none, (some (27, false))⟩, ⟨.len false (.l 28), none, (some (27, false))⟩, ⟨.bin .gtr (.l 29) (.c (.int .i64 64)), none, (some (27, false))⟩, ⟨.pick (.l 27) (.c (.bool true)) (.l 30), none, none⟩, ⟨.mov (.l 31), (some 1), none⟩] [])
 (.ret))
 (.skip)))
 (.seq (.reg [⟨.fptr 3 (.v 2), none, none⟩, ⟨.load none (.l 0), none, none⟩, ⟨.len false (.l 1), none, none⟩, ⟨.mov (.l 2), (some 10), none⟩] [])
 (.seq (.seq (.reg [⟨.load (some 4) (.v 7), none, none⟩, ⟨.call 20 [.l 0], none, none⟩, ⟨.un .not (.l 1), none, none⟩, ⟨.mov (.l 2), none, none⟩, ⟨.fptr 3 (.v 7), none, (some (3, false))⟩, ⟨.load none (.l 4), none, (some (3, false))⟩, ⟨.len false (.l 5), none, (some (3, false))⟩, ⟨.mov (.v 10), none, (some (3, false))⟩, ⟨.bin .add (.l 7) (.c (.int .i64 1)), none, (some (3, false))⟩, ⟨.bin .neq (.l 6) (.l 8), none, (some (3, false))⟩, ⟨.pick (.l 3) (.c (.bool true)) (.l 9), none, none⟩, ⟨.mov (.l 10), none, none⟩, ⟨.fptr 3 (.v 2), none, (some (11, false))⟩, ⟨.load none (.l 12), none, (some (11, false))⟩, ⟨.fptr 3 (.v 7), none, (some (11, false))⟩, ⟨.load none (.l 14), none, (some (11, false))⟩, ⟨.call 21 [.l 13, .l 15], none, (some (11, false))⟩, ⟨.un .not (.l 16), none, (some (11, false))⟩, ⟨.pick (.l 11) (.c (.bool true)) (.l 17), none, none⟩, ⟨.mov (.l 18), none, none⟩, ⟨.fptr 3 (.v 7), none, (some (19, false))⟩, ⟨.load none (.l 20), none, (some (19, false))⟩, ⟨.mov (.v 10), none, (some (19, false))⟩, ⟨.iptr 5 (.l 21) (.l 22), none, (some (19, false))⟩, ⟨.fptr 4 (.l 23), none, (some (19, false))⟩, ⟨.load none (.l 24), none, (some (19, false))⟩, ⟨.mov (.v 8), none, (some (19, false))⟩, ⟨.bin .neq (.l 25) (.l 26), none, (some (19, false))⟩, ⟨.pick (.l 19) (.c (.bool true)) (.l 27), none, none⟩, ⟨.mov (.l 28), none, none⟩, ⟨.fptr 3 (.v 7), none, (some (29, false))⟩, ⟨.load none (.l 30), none, (some (29, false))⟩, ⟨.mov (.v 10), none, (some (29, false))⟩, ⟨.iptr 5 (.l 31) (.l 32), none, (some (29, false))⟩, ⟨.fptr 0 (.l 33), none, (some (29, false))⟩, ⟨.load none (.l 34), none, (some (29, false))⟩, ⟨.mov (.v 3), none, (some (29, false))⟩, ⟨.bin .neq (.l 35) (.l 36), none, (some (29, false))⟩, ⟨.pick (.l 29) (.c (.bool true)) (.l 37), (some 17), none⟩] [])
 (.cond (.v 17) (.seq (.reg [⟨.mov (.c (.bool false)), (some 1), none⟩] [])
 (.ret))
 (.skip)))
 (.seq (.reg [⟨.load (some 4) (.v 2), none, none⟩, ⟨.mov (.v 4), none, none⟩, ⟨.mov (.v 5), none, none⟩, ⟨.call 17 [.l 0, .c (.int .i64 4), .l 1, .l 2, .c (.imm true 0 [])], none, none⟩, ⟨.mov (.l 3), none, none⟩, ⟨.ext (.l 4) 0, none, none⟩, ⟨.ext (.l 4) 1, none, none⟩, ⟨.ext (.l 4) 2, none, none⟩, ⟨.alloc 40 [.int .i64 0, .imm true 0 [], .imm true 0 [], .imm true 0 []], (some 11), none⟩, ⟨.store 4 (.l 8) (.l 5), none, none⟩, ⟨.mov (.l 6), none, none⟩, ⟨.mov (.l 7), (some 12), none⟩] [])
 (.seq (.reg [⟨.load (some 4) (.v 11), none, none⟩, ⟨.mov (.v 4), none, none⟩, ⟨.call 17 [.l 0, .c (.int .i64 3), .l 1, .c (.int .i64 0), .c (.imm true 0 [])], none, none⟩, ⟨.mov (.l 2), none, none⟩, ⟨.ext (.l 3) 0, none, none⟩, ⟨.ext (.l 3) 1, none, none⟩, ⟨.ext (.l 3) 2, none, none⟩, ⟨.alloc 40 [.int .i64 0, .imm true 0 [], .imm true 0 [], .imm true 0 []], none, none⟩, ⟨.store 4 (.l 7) (.l 4), none, none⟩, ⟨.mov (.l 5), (some 13), none⟩, ⟨.mov (.l 6), (some 14), none⟩] [])
 (.seq (.reg [⟨.load (some 4) (.v 2), none, none⟩, ⟨.mov (.v 4), none, none⟩, ⟨.call 17 [.l 0, .c (.int .i64 3), .l 1, .c (.int .i64 0), .c (.imm true 0 [])], none, none⟩, ⟨.mov (.l 2), none, none⟩, ⟨.ext (.l 3) 0, none, none⟩, ⟨.ext (.l 3) 1, none, none⟩, ⟨.ext (.l 3) 2, none, none⟩, ⟨.alloc 40 [.int .i64 0, .imm true 0 [], .imm true 0 [], .imm true 0 []], none, none⟩, ⟨.store 4 (.l 7) (.l 4), none, none⟩, ⟨.mov (.l 5), (some 15), none⟩, ⟨.mov (.l 6), none, none⟩] [])
 (.seq (.reg [⟨.mov (.v 12), none, none⟩, ⟨.mov (.l 0), none, none⟩, ⟨.mov (.v 14), none, (some (1, true))⟩, ⟨.pick (.l 1) (.l 2) (.c (.bool false)), none, none⟩, ⟨.mov (.l 3), none, none⟩, ⟨.mov (.v 13), none, (some (4, true))⟩, ⟨.mov (.v 5), none, (some (4, true))⟩, ⟨.bin .eql (.l 5) (.l 6), none, (some (4, true))⟩, ⟨.mov (.l 7), none, (some (4, true))⟩, ⟨.fptr 2 (.v 2), none, (some (8, false))⟩, ⟨.load none (.l 9), none, (some (8, false))⟩, ⟨.len false (.l 10), none, (some (8, false))⟩, ⟨.bin .eql (.l 11) (.c (.int .i64 20)), none, (some (8, false))⟩, ⟨.mov (.l 12), none, (some (8, false))⟩, ⟨.mov (.v 15), none, (some (13, true))⟩, ⟨.bin .eql (.l 14) (.c (.int .i64 0)), none, (some (13, true))⟩, ⟨.pick (.l 13) (.l 15) (.c (.bool false)), none, (some (8, false))⟩, ⟨.pick (.l 8) (.c (.bool true)) (.l 16), none, (some (4, true))⟩, ⟨.pick (.l 4) (.l 17) (.c (.bool false)), none, none⟩, ⟨.mov (.l 18), (some 1), none⟩] [])
 (.ret)))))))))),
 [.t 1], false, false⟩
def m4 : List Nat := [0, 2, 3, 4, 5, 6, 7, 8, 9, 10, 11, 12, 14, 16, 17, 19, 40, 114]

/-- loop.example/g00293/spec.DrawForeign -/
def c16 : FC := ⟨1, 15, .seq (.reg [⟨.alloc 40 [.int .i64 0, .imm true 0 [], .imm true 0 [], .imm true 0 []], (some 1), none⟩, ⟨.mov (.c (.int .i64 0)), (some 2), none⟩, ⟨.mov (.c (.int .i64 0)), (some 3), none⟩, ⟨.mov (.c (.int .i64 0)), (some 4), none⟩, ⟨.mov (.c (.imm true 0 [])), (some 5), none⟩] [])
 (.seq (.reg [⟨.mov (.v 0), none, none⟩, ⟨.call 36 [.l 0], none, none⟩, ⟨.mov (.l 1), (some 6), none⟩] [])
 (.seq (.reg [⟨.mov (.v 6), none, none⟩, ⟨.mov (.v 6), none, none⟩, ⟨.call 49 [.l 1], none, none⟩, ⟨.call 48 [.l 0, .l 2], none, none⟩, ⟨.alloc 40 [.int .i64 0, .imm true 0 [], .imm true 0 [], .imm true 0 []], (some 7), none⟩, ⟨.store 4 (.l 4) (.l 3), none, none⟩] [])
 (.seq (.reg [⟨.mov (.v 6), none, none⟩, ⟨.call 50 [.l 0, .c (.int .i64 4)], none, none⟩, ⟨.mov (.l 1), (some 8), none⟩] [])
 (.seq (.seq (.reg [⟨.mov (.c (.int .i64 0)), (some 9), none⟩] [])
 (.block 0 (.loop (.seq (.seq (.reg [⟨.mov (.v 9), none, none⟩, ⟨.mov (.v 8), none, none⟩, ⟨.bin .lss (.l 0) (.l 1), (some 12), none⟩] [])
 (.cond (.v 12) (.skip)
 (.exit 0)))
 (.seq (.block 1 (.reg [⟨.mov (.v 6), none, none⟩, ⟨.call 50 [.l 0, .c (.int .i64 5)], none, none⟩, ⟨.mov (.v 6), none, none⟩, ⟨.call 50 [.l 2, .c (.int .i64 6)], none, none⟩, ⟨.mov (.v 6), none, none⟩, ⟨.call 50 [.l 4, .c (.int .i64 6)], none, none⟩, ⟨.lit 5 1 [.int .u8 0] [(0, .c (.int .u8 97))] false false, none, none⟩, ⟨.convs (.l 6), none, none⟩, ⟨.call 51 [.v 7, .l 1, .l 3, .l 5, .l 7], none, none⟩] []))
 (.reg [⟨.mov (.v 9), none, none⟩, ⟨.bin .add (.l 0) (.c (.int .i64 1)), none, none⟩, ⟨.mov (.l 1), (some 9), none⟩] []))))))
 (.seq (.reg [⟨.mov (.v 6), none, none⟩, ⟨.call 50 [.l 0, .c (.int .i64 5)], none, none⟩, ⟨.mov (.l 1), (some 10), none⟩] [])
 (.seq (.seq (.reg [⟨.mov (.v 6), none, none⟩, ⟨.call 52 [.l 0, .c (.int .i64 12)], (some 13), none⟩] [])
 (.cond (.v 13) (.reg [⟨.mov (.v 6), none, none⟩, ⟨.lit 3 1 [.int .i64 0] [(0, .c (.int .i64 (-1))), (1, .c (.int .i64 5))] false false, none, none⟩, ⟨.call 53 [.l 0, .l 1], none, none⟩, ⟨.mov (.l 2), (some 10), none⟩] [])
 (.skip)))
 (.seq (.reg [⟨.mov (.v 6), none, none⟩, ⟨.call 50 [.l 0, .c (.int .i64 9)], none, none⟩, ⟨.bin .sub (.l 1) (.c (.int .i64 2)), none, none⟩, ⟨.mov (.l 2), (some 11), none⟩] [])
 (.seq (.seq (.reg [⟨.mov (.v 6), none, none⟩, ⟨.call 52 [.l 0, .c (.int .i64 6)], (some 14), none⟩] [])
 (.cond (.v 14) (.reg [⟨.mov (.v 6), none, none⟩, ⟨.call 39 [.l 0], none, none⟩, ⟨.mov (.l 1), (some 11), none⟩] [])
 (.skip)))
 (.seq (.reg [⟨.load (some 4) (.v 7), none, none⟩, ⟨.mov (.v 10), none, none⟩, ⟨.mov (.v 11), none, none⟩, ⟨.mov (.v 6), none, none⟩, ⟨.call 39 [.l 3], none, none⟩, ⟨.mov (.v 6), none, none⟩, ⟨.call 54 [.l 5, .c (.int .i64 5)], none, none⟩, ⟨.store 4 (.v 1) (.l 0), none, none⟩, ⟨.mov (.l 1), (some 2), none⟩, ⟨.mov (.l 2), (some 3), none⟩, ⟨.mov (.l 4), (some 4), none⟩, ⟨.mov (.l 6), (some 5), none⟩] [(0, 6), (0, 7)])
 (.ret)))))))))),
 [.cl (some 4) 1, .t 2, .t 3, .t 4, .t 5], false, false⟩
def m16 : List Nat := [0, 2, 3, 4, 5, 6, 7, 8, 9, 10, 11, 12, 23, 38, 46]

/-- loop.example/g00293/impl.Foreign -/
def c17 : FC := ⟨5, 14, .seq (.reg [⟨.box 40 4 (.v 0), (some 5), none⟩, ⟨.alloc 40 [.int .i64 0, .imm true 0 [], .imm true 0 [], .imm true 0 []], (some 6), none⟩, ⟨.mov (.c (.int .i64 0)), (some 7), none⟩, ⟨.mov (.c (.bool false)), (some 8), none⟩] [])
 (.seq (.seq (.reg [⟨.load (some 4) (.v 5), none, none⟩, ⟨.call 20 [.l 0], none, none⟩, ⟨.un .not (.l 1), none, none⟩, ⟨.mov (.l 2), none, none⟩, ⟨.fptr 3 (.v 5), none, (some (3, false))⟩, ⟨.load none (.l 4), none, (some (3, false))⟩, ⟨.len false (.l 5), none, (some (3, false))⟩, ⟨.bin .eql (.l 6) (.c (.int .i64 20000)), none, (some (3, false))⟩, ⟨.pick (.l 3) (.c (.bool true)) (.l 7), (some 12), none⟩] [])
 (.cond (.v 12) (.seq (.reg [⟨.build [.int .i64 0, .imm true 0 [], .imm true 0 [], .imm true 0 []] [], none, none⟩, ⟨.store 4 (.v 6) (.l 0), none, none⟩, ⟨.mov (.c (.int .i64 0)), (some 7), none⟩, ⟨.mov (.c (.bool false)), (some 8), none⟩] [])
 (.ret))
 (.skip)))
 (.seq (.reg [⟨.load (some 4) (.v 5), none, none⟩, ⟨.call 55 [.l 0], none, none⟩, ⟨.alloc 40 [.int .i64 0, .imm true 0 [], .imm true 0 [], .imm true 0 []], (some 9), none⟩, ⟨.store 4 (.l 2) (.l 1), none, none⟩] [])
 (.seq (.reg [⟨.mov (.v 1), none, none⟩, ⟨.mov (.v 2), none, none⟩, ⟨.mov (.v 3), none, none⟩, ⟨.mov (.v 4), none, none⟩, ⟨.call 56 [.v 9, .l 0, .l 1, .l 2, .l 3], none, none⟩, ⟨.mov (.l 4), none, none⟩, ⟨.ext (.l 5) 0, none, none⟩, ⟨.ext (.l 5) 1, none, none⟩, ⟨.mov (.l 6), (some 10), none⟩, ⟨.mov (.l 7), (some 11), none⟩] [])
 (.seq (.seq (.reg [⟨.mov (.v 11), none, none⟩, ⟨.un .not (.l 0), (some 13), none⟩] [])
 (.cond (.v 13) (.seq (.reg [⟨.build [.int .i64 0, .imm true 0 [], .imm true 0 [], .imm true 0 []] [], none, none⟩, ⟨.store 4 (.v 6) (.l 0), none, none⟩, ⟨.mov (.c (.int .i64 0)), (some 7), none⟩, ⟨.mov (.c (.bool false)), (some 8), none⟩] [])
 (.ret))
 (.skip)))
 (.seq (.reg [⟨.load (some 4) (.v 9), none, none⟩, ⟨.mov (.v 10), none, none⟩, ⟨.store 4 (.v 6) (.l 0), none, none⟩, ⟨.mov (.l 1), (some 7), none⟩, ⟨.mov (.c (.bool true)), (some 8), none⟩] [])
 (.ret)))))),
 [.cl (some 4) 6, .t 7, .t 8], false, false⟩
def m17 : List Nat := [0, 1, 2, 3, 4, 5, 10, 11, 12, 13, 14, 15, 24, 37]

/-- loop.example/g00293/spec.WorldOk -/
def c18 : FC := ⟨1, 10, .seq (.reg [⟨.box 40 4 (.v 0), (some 1), none⟩, ⟨.mov (.c (.bool false)), (some 2), none⟩] [])
 (.seq (.seq (.reg [⟨.fptr 0 (.v 1), none, none⟩, ⟨.load none (.l 0), none, none⟩, ⟨.bin .lss (.l 1) (.c (.int .i64 0)), none, none⟩, ⟨.mov (.l 2), none, none⟩, ⟨.fptr 0 (.v 1), none, (some (3, false))⟩, ⟨.load none (.l 4), none, (some (3, false))⟩, ⟨.bin .gtr (.l 5) (.c (.int .i64 2147483647)), none, (some (3, false))⟩, ⟨.pick (.l 3) (.c (.bool true)) (.l 6), none, none⟩, ⟨.mov (.l 7), none, none⟩, ⟨.fptr 1 (.v 1), none, (some (8, false))⟩, ⟨.load none (.l 9), none, (some (8, false))⟩, ⟨.len false (.l 10), none, (some (8, false))⟩, ⟨.bin .gtr (.l 11) (.c (.int .i64 200)), none, (some (8, false))⟩, ⟨.pick (.l 8) (.c (.bool true)) (.l 12), none, none⟩, ⟨.mov (.l 13), none, none⟩, ⟨.fptr 2 (.v 1), none, (some (14, false))⟩, ⟨.load none (.l 15), none, (some (14, false))⟩, ⟨.len false (.l 16), none, (some (14, false))⟩, ⟨.bin .gtr (.l 17) (.c (.int .i64 20)), none, (some (14, false))⟩, ⟨.pick (.l 14) (.c (.bool true)) (.l 18), none, none⟩, ⟨.mov (.l 19), none, none⟩, ⟨.fptr 3 (.v 1), none, (some (20, false))⟩, ⟨.load none (.l 21), none, (some (20, false))⟩, ⟨.len false (.l 22), none, (some (20, false))⟩, ⟨.bin .gtr (.l 23) (.c (.int .i64 20000)), none, (some (20, false))⟩, ⟨.pick (.l 20) (.c (.bool true)) (.l 24), (some 5), none⟩] [])
 (.cond (.v 5) (.seq (.reg [⟨.mov (.c (.bool false)), (some 2), none⟩] [])
 (.ret))
 (.skip)))
 (.seq (.seq (.reg [⟨.mov (.c (.int .i64 0)), (some 3), none⟩] [])
 (.block 0 (.loop (.seq (.seq (.reg [⟨.mov (.v 3), none, none⟩, ⟨.fptr 1 (.v 1), none, none⟩, ⟨.load none (.l 1), none, none⟩, ⟨.len false (.l 2), none, none⟩, ⟨.bin .lss (.l 0) (.l 3), (some 6), none⟩] [])
 (.cond (.v 6) (.skip)
 (.exit 0)))
 (.seq (.block 1 (.seq (.reg [⟨.fptr 1 (.v 1), none, none⟩, ⟨.load none (.l 0), none, none⟩, ⟨.mov (.v 3), none, none⟩, ⟨.iptr 1 (.l 1) (.l 2), none, none⟩, ⟨.load none (.l 3), none, none⟩, ⟨.bin .lss (.l 4) (.c (.int .i64 0)), none, none⟩, ⟨.mov (.l 5), none, none⟩, ⟨.fptr 1 (.v 1), none, (some (6, false))⟩, ⟨.load none (.l 7), none, (some (6, false))⟩, ⟨.mov (.v 3), none, (some (6, false))⟩, ⟨.iptr 1 (.l 8) (.l 9), none, (some (6, false))⟩, ⟨.load none (.l 10), none, (some (6, false))⟩, ⟨.bin .gtr (.l 11) (.c (.int .i64 2147483647)), none, (some (6, false))⟩, ⟨.pick (.l 6) (.c (.bool true)) (.l 12), (some 7), none⟩] [])
 (.cond (.v 7) (.seq (.reg [⟨.mov (.c (.bool false)), (some 2), none⟩] [])
 (.ret))
 (.skip))))
 (.reg [⟨.mov (.v 3), none, none⟩, ⟨.bin .add (.l 0) (.c (.int .i64 1)), none, none⟩, ⟨.mov (.l 1), (some 3), none⟩] []))))))
 (.seq (.seq (.reg [⟨.mov (.c (.int .i64 0)), (some 4), none⟩] [])
 (.block 2 (.loop (.seq (.seq (.reg [⟨.mov (.v 4), none, none⟩, ⟨.fptr 2 (.v 1), none, none⟩, ⟨.load none (.l 1), none, none⟩, ⟨.len false (.l 2), none, none⟩, ⟨.bin .lss (.l 0) (.l 3), (some 8), none⟩] [])
 (.cond (.v 8) (.skip)
 (.exit 2)))
 (.seq (.block 3 (.seq (.reg [⟨.fptr 2 (.v 1), none, none⟩, ⟨.load none (.l 0), none, none⟩, ⟨.mov (.v 4), none, none⟩, ⟨.iptr 2 (.l 1) (.l 2), none, none⟩, ⟨.fptr 0 (.l 3), none, none⟩, ⟨.load none (.l 4), none, none⟩, ⟨.fptr 2 (.v 1), none, none⟩, ⟨.load none (.l 6), none, none⟩, ⟨.mov (.v 4), none, none⟩, ⟨.iptr 2 (.l 7) (.l 8), none, none⟩, ⟨.fptr 0 (.l 9), none, none⟩, ⟨.load none (.l 10), none, none⟩, ⟨.call 19 [.l 11], none, none⟩, ⟨.bin .neq (.l 5) (.l 12), none, none⟩, ⟨.mov (.l 13), none, none⟩, ⟨.fptr 2 (.v 1), none, (some (14, false))⟩, ⟨.load none (.l 15), none, (some (14, false))⟩, ⟨.mov (.v 4), none, (some (14, false))⟩, ⟨.iptr 2 (.l 16) (.l 17), none, (some (14, false))⟩, ⟨.fptr 1 (.l 18), none, (some (14, false))⟩, ⟨.load none (.l 19), none, (some (14, false))⟩, ⟨.fptr 2 (.v 1), none, (some (14, false))⟩, ⟨.load none (.l 21), none, (some (14, false))⟩, ⟨.mov (.v 4), none, (some (14, false))⟩, ⟨.iptr 2 (.l 22) (.l 23), none, (some (14, false))⟩, ⟨.fptr 1 (.l 24), none, (some (14, false))⟩, ⟨.load none (.l 25), none, (some (14, false))⟩, ⟨.call 19 [.l 26], none, (some (14, false))⟩, ⟨.bin .neq (.l 20) (.l 27), none, (some (14, false))⟩, ⟨.pick (.l 14) (.c (.bool true)) (.l 28), none, none⟩, ⟨.mov (.l 29), none, none⟩, ⟨.mov (.v 4), none, (some (30, false))⟩, ⟨.bin .gtr (.l 31) (.c (.int .i64 0)), none, (some (30, false))⟩, ⟨.mov (.l 32), none, (some (30, false))⟩, ⟨.fptr 2 (.v 1), none, (some (33, true))⟩, ⟨.load none (.l 34), none, (some (33, true))⟩, ⟨.mov (.v 4), none, (some (33, true))⟩, ⟨.iptr 2 (.l 35) (.l 36), none, (some (33, true))⟩, ⟨.fptr 0 (.l 37), none, (some (33, true))⟩, ⟨.load none (.l 38), none, (some (33, true))⟩, ⟨.fptr 2 (.v 1), none, (some (33, true))⟩, ⟨.load none (.l 40), none, (some (33, true))⟩, ⟨.mov (.v 4), none, (some (33, true))⟩, ⟨.bin .sub (.l 42) (.c (.int .i64 1)), none, (some (33, true))⟩, ⟨.iptr 2 (.l 41) (.l 43), none, (some (33, true))⟩, ⟨.fptr 0 (.l 44), none, (some (33, true))⟩, ⟨.load none (.l 45), none, (some (33, true))⟩, ⟨.bin .leq (.l 39) (.l 46), none, (some (33, true))⟩, ⟨.pick (.l 33) (.l 47) (.c (.bool false)), none, (some (30, false))⟩, ⟨.pick (.l 30) (.c (.bool true)) (.l 48), (some 9), none⟩] [(1, 27), (5, 27), (16, 50), (20, 50)])
 (.cond (.v 9) (.seq (.reg [⟨.mov (.c (.bool false)), (some 2), none⟩] [])
 (.ret))
 (.skip))))
 (.reg [⟨.mov (.v 4), none, none⟩, ⟨.bin .add (.l 0) (.c (.int .i64 1)), none, none⟩, ⟨.mov (.l 1), (some 4), none⟩] []))))))
 (.seq (.reg [⟨.mov (.c (.bool true)), (some 2), none⟩] [])
 (.ret))))),
 [.t 2], false, false⟩
def m18 : List Nat := [0, 1, 2, 3, 4, 30, 35, 51, 56, 108]

/-- loop.example/g00293/spec.Wrap -/
def c19 : FC := ⟨1, 2, .seq (.reg [⟨.mov (.c (.int .i64 0)), (some 1), none⟩] [])
 (.seq (.reg [⟨.mov (.v 0), none, none⟩, ⟨.bin .shl (.l 0) (.c (.int .u64 1)), none, none⟩, ⟨.bin .shr (.l 1) (.c (.int .u64 1)), none, none⟩, ⟨.mov (.l 2), (some 1), none⟩] [])
 (.ret)),
 [.t 1], false, false⟩
def m19 : List Nat := [0, 2]

/-- loop.example/g00293/impl.WorldOk -/
def c20 : FC := ⟨1, 11, .seq (.reg [⟨.box 40 4 (.v 0), (some 1), none⟩, ⟨.mov (.c (.bool false)), (some 2), none⟩] [])
 (.seq (.seq (.reg [⟨.fptr 0 (.v 1), none, none⟩, ⟨.load none (.l 0), none, none⟩, ⟨.call 47 [.l 1, .c (.int .i64 0), .c (.int .i64 2147483647)], none, none⟩, ⟨.un .not (.l 2), none, none⟩, ⟨.mov (.l 3), none, none⟩, ⟨.fptr 1 (.v 1), none, (some (4, false))⟩, ⟨.load none (.l 5), none, (some (4, false))⟩, ⟨.len false (.l 6), none, (some (4, false))⟩, ⟨.bin .gtr (.l 7) (.c (.int .i64 200)), none, (some (4, false))⟩, ⟨.pick (.l 4) (.c (.bool true)) (.l 8), none, none⟩, ⟨.mov (.l 9), none, none⟩, ⟨.fptr 2 (.v 1), none, (some (10, false))⟩, ⟨.load none (.l 11), none, (some (10, false))⟩, ⟨.len false (.l 12), none, (some (10, false))⟩, ⟨.bin .gtr (.l 13) (.c (.int .i64 20)), none, (some (10, false))⟩, ⟨.pick (.l 10) (.c (.bool true)) (.l 14), none, none⟩, ⟨.mov (.l 15), none, none⟩, ⟨.fptr 3 (.v 1), none, (some (16, false))⟩, ⟨.load none (.l 17), none, (some (16, false))⟩, ⟨.len false (.l 18), none, (some (16, false))⟩, ⟨.bin .gtr (.l 19) (.c (.int .i64 20000)), none, (some (16, false))⟩, ⟨.pick (.l 16) (.c (.bool true)) (.l 20), (some 5), none⟩] [])
 (.cond (.v 5) (.seq (.reg [⟨.mov (.c (.bool false)), (some 2), none⟩] [])
 (.ret))
 (.skip)))
 (.seq (.seq (.reg [⟨.fptr 2 (.v 1), none, none⟩, ⟨.load none (.l 0), (some 6), none⟩, ⟨.len false (.l 1), (some 7), none⟩, ⟨.mov (.c (.int .i64 0)), (some 8), none⟩] [])
 (.block 0 (.loop (.seq (.reg [⟨.bin .lss (.v 8) (.v 7), (some 9), none⟩] [])
 (.seq (.cond (.v 9) (.skip)
 (.exit 0))
 (.seq (.block 1 (.seq (.reg [⟨.mov (.v 8), none, none⟩, ⟨.iptr 2 (.v 6) (.v 8), none, none⟩, ⟨.load (some 2) (.l 1), none, none⟩, ⟨.alloc 113 [.int .i64 0, .int .i64 0], (some 4), none⟩, ⟨.mov (.l 0), (some 3), none⟩, ⟨.store 2 (.l 3) (.l 2), none, none⟩] [])
 (.seq (.reg [⟨.fptr 0 (.v 4), none, none⟩, ⟨.load none (.l 0), none, none⟩, ⟨.call 57 [.l 1], none, none⟩, ⟨.un .not (.l 2), none, none⟩, ⟨.mov (.l 3), none, none⟩, ⟨.fptr 1 (.v 4), none, (some (4, false))⟩, ⟨.load none (.l 5), none, (some (4, false))⟩, ⟨.call 57 [.l 6], none, (some (4, false))⟩, ⟨.un .not (.l 7), none, (some (4, false))⟩, ⟨.pick (.l 4) (.c (.bool true)) (.l 8), none, none⟩, ⟨.mov (.l 9), none, none⟩, ⟨.mov (.v 3), none, (some (10, false))⟩, ⟨.bin .gtr (.l 11) (.c (.int .i64 0)), none, (some (10, false))⟩, ⟨.mov (.l 12), none, (some (10, false))⟩, ⟨.fptr 2 (.v 1), none, (some (13, true))⟩, ⟨.load none (.l 14), none, (some (13, true))⟩, ⟨.mov (.v 3), none, (some (13, true))⟩, ⟨.bin .sub (.l 16) (.c (.int .i64 1)), none, (some (13, true))⟩, ⟨.iptr 2 (.l 15) (.l 17), none, (some (13, true))⟩, ⟨.fptr 0 (.l 18), none, (some (13, true))⟩, ⟨.load none (.l 19), none, (some (13, true))⟩, ⟨.fptr 0 (.v 4), none, (some (13, true))⟩, ⟨.load none (.l 21), none, (some (13, true))⟩, ⟨.bin .geq (.l 20) (.l 22), none, (some (13, true))⟩, ⟨.pick (.l 13) (.l 23) (.c (.bool false)), none, (some (10, false))⟩, ⟨.pick (.l 10) (.c (.bool true)) (.l 24), (some 10), none⟩] [])
 (.cond (.v 10) (.seq (.reg [⟨.mov (.c (.bool false)), (some 2), none⟩] [])
 (.ret))
 (.skip)))))
 (.reg [⟨.bin .add (.v 8) (.c (.int .i64 1)), none, none⟩, ⟨.mov (.l 0), (some 8), none⟩] [])))))))
 (.seq (.reg [⟨.fptr 1 (.v 1), none, none⟩, ⟨.load none (.l 0), none, none⟩, ⟨.call 58 [.l 1, .c (.fn 59 [] [])], none, none⟩, ⟨.un .not (.l 2), none, none⟩, ⟨.mov (.l 3), (some 2), none⟩] [])
 (.ret)))),
 [.t 2], false, false⟩
def m20 : List Nat := [0, 1, 2, 3, 4, 26, 28, 29, 30, 31, 60]

/-- loop.example/g00293/laws.begins -/
def c21 : FC := ⟨2, 7, .seq (.reg [⟨.mov (.c (.bool false)), (some 2), none⟩] [])
 (.seq (.seq (.reg [⟨.mov (.v 0), none, none⟩, ⟨.len false (.l 0), none, none⟩, ⟨.mov (.v 1), none, none⟩, ⟨.len false (.l 2), none, none⟩, ⟨.bin .gtr (.l 1) (.l 3), (some 4), none⟩] [])
 (.cond (.v 4) (.seq (.reg [⟨.mov (.c (.bool false)), (some 2), none⟩] [])
 (.ret))
 (.skip)))
 (.seq (.seq (.reg [⟨.mov (.c (.int .i64 0)), (some 3), none⟩] [])
 (.block 0 (.loop (.seq (.seq (.reg [⟨.mov (.v 3), none, none⟩, ⟨.mov (.v 0), none, none⟩, ⟨.len false (.l 1), none, none⟩, ⟨.bin .lss (.l 0) (.l 2), (some 5), none⟩] [])
 (.cond (.v 5) (.skip)
 (.exit 0)))
 (.seq (.block 1 (.seq (.reg [⟨.mov (.v 0), none, none⟩, ⟨.mov (.v 3), none, none⟩, ⟨.iptr 5 (.l 0) (.l 1), none, none⟩, ⟨.load (some 5) (.l 2), none, none⟩, ⟨.mov (.v 1), none, none⟩, ⟨.mov (.v 3), none, none⟩, ⟨.iptr 5 (.l 4) (.l 5), none, none⟩, ⟨.load (some 5) (.l 6), none, none⟩, ⟨.call 60 [.l 3, .l 7], none, none⟩, ⟨.un .not (.l 8), (some 6), none⟩] [])
 (.cond (.v 6) (.seq (.reg [⟨.mov (.c (.bool false)), (some 2), none⟩] [])
 (.ret))
 (.skip))))
 (.reg [⟨.mov (.v 3), none, none⟩, ⟨.bin .add (.l 0) (.c (.int .i64 1)), none, none⟩, ⟨.mov (.l 1), (some 3), none⟩] []))))))
 (.seq (.reg [⟨.mov (.c (.bool true)), (some 2), none⟩] [])
 (.ret)))),
 [.t 2], false, false⟩
def m21 : List Nat := [0, 1, 4, 5, 10, 14, 26]

/-- loop.example/g00293/spec.l1New -/
def c36 : FC := ⟨1, 5, .seq (.reg [⟨.mov (.c (.nilp)), (some 1), none⟩] [])
 (.seq (.reg [⟨.mov (.v 0), none, none⟩, ⟨.len false (.l 0), none, none⟩, ⟨.bin .add (.c (.int .i64 29393)) (.l 1), none, none⟩, ⟨.mov (.l 2), (some 2), none⟩] [])
 (.seq (.seq (.reg [⟨.mov (.c (.int .i64 0)), (some 3), none⟩] [])
 (.block 0 (.loop (.seq (.seq (.reg [⟨.mov (.v 3), none, none⟩, ⟨.mov (.v 0), none, none⟩, ⟨.len false (.l 1), none, none⟩, ⟨.bin .lss (.l 0) (.l 2), none, none⟩, ⟨.mov (.l 3), none, none⟩, ⟨.mov (.v 3), none, (some (4, true))⟩, ⟨.bin .lss (.l 5) (.c (.int .i64 4000)), none, (some (4, true))⟩, ⟨.pick (.l 4) (.l 6) (.c (.bool false)), (some 4), none⟩] [])
 (.cond (.v 4) (.skip)
 (.exit 0)))
 (.seq (.block 1 (.reg [⟨.mov (.v 2), none, none⟩, ⟨.bin .mul (.l 0) (.c (.int .i64 131)), none, none⟩, ⟨.mov (.v 0), none, none⟩, ⟨.mov (.v 3), none, none⟩, ⟨.iptr 1 (.l 2) (.l 3), none, none⟩, ⟨.load none (.l 4), none, none⟩, ⟨.conv .i64 (.l 5), none, none⟩, ⟨.bin .add (.l 1) (.l 6), none, none⟩, ⟨.bin .add (.l 7) (.c (.int .i64 7)), none, none⟩, ⟨.bin .and (.l 8) (.c (.int .i64 1073741823)), none, none⟩, ⟨.mov (.l 9), (some 2), none⟩] []))
 (.reg [⟨.mov (.v 3), none, none⟩, ⟨.bin .add (.l 0) (.c (.int .i64 1)), none, none⟩, ⟨.mov (.l 1), (some 3), none⟩] []))))))
 (.seq (.reg [⟨.mov (.v 0), none, none⟩, ⟨.mov (.v 2), none, none⟩, ⟨.build [.imm true 0 [], .int .i64 0, .int .i64 0] [(0, 1, .l 0), (2, 1, .l 1)], none, none⟩, ⟨.box 144 3 (.l 2), none, none⟩, ⟨.mov (.l 3), (some 1), none⟩] [])
 (.ret)))),
 [.t 1], false, true⟩
def m36 : List Nat := [0, 2, 3, 4, 15]

/-- loop.example/g00293/spec.l1signed -/
def c39 : FC := ⟨1, 6, .seq (.reg [⟨.mov (.c (.int .i64 0)), (some 1), none⟩] [])
 (.seq (.seq (.reg [⟨.mov (.v 0), none, none⟩, ⟨.call 50 [.l 0, .c (.int .i64 4)], (some 2), none⟩] [])
 (.block 0 (.seq (.reg [⟨.bin .eql (.v 2) (.c (.int .i64 0)), none, none⟩, ⟨.mov (.l 0), (some 3), none⟩] [])
 (.cond (.v 3) (.seq (.reg [⟨.mov (.v 0), none, none⟩, ⟨.call 50 [.l 0, .c (.int .i64 9)], none, none⟩, ⟨.bin .sub (.l 1) (.c (.int .i64 4)), none, none⟩, ⟨.mov (.l 2), (some 1), none⟩] [])
 (.ret))
 (.seq (.reg [⟨.bin .eql (.v 2) (.c (.int .i64 1)), none, none⟩, ⟨.mov (.l 0), (some 4), none⟩] [])
 (.cond (.v 4) (.seq (.reg [⟨.mov (.v 0), none, none⟩, ⟨.lit 3 1 [.int .i64 0] [(0, .c (.int .i64 1073741823)), (1, .c (.int .i64 1073741824)), (2, .c (.int .i64 (-1073741824))), (3, .c (.int .i64 (-1073741825))), (4, .c (.int .i64 (-9223372036854775808))), (5, .c (.int .i64 9223372036854775807)), (6, .c (.int .i64 4611686018427387904)), (7, .c (.int .i64 (-4611686018427387904))), (8, .c (.int .i64 4611686018427387903)), (9, .c (.int .i64 (-4611686018427387905)))] false false, none, none⟩, ⟨.call 53 [.l 0, .l 1], none, none⟩, ⟨.mov (.l 2), (some 1), none⟩] [])
 (.ret))
 (.seq (.reg [⟨.bin .eql (.v 2) (.c (.int .i64 2)), none, none⟩, ⟨.mov (.l 0), (some 5), none⟩] [])
 (.cond (.v 5) (.seq (.reg [⟨.mov (.v 0), none, none⟩, ⟨.call 93 [.l 0], none, none⟩, ⟨.mov (.l 1), (some 1), none⟩] [])
 (.ret))
 (.skip)))))))))
 (.seq (.reg [⟨.mov (.v 0), none, none⟩, ⟨.call 50 [.l 0, .c (.int .i64 1073741824)], none, none⟩, ⟨.un .neg (.l 1), none, none⟩, ⟨.mov (.l 2), (some 1), none⟩] [])
 (.ret))),
 [.t 1], false, false⟩
def m39 : List Nat := [0, 2, 4, 5, 10, 15]

/-- loop.example/g00293/impl.within -/
def c47 : FC := ⟨3, 4, .seq (.reg [⟨.mov (.c (.bool false)), (some 3), none⟩] [])
 (.seq (.reg [⟨.mov (.v 0), none, none⟩, ⟨.mov (.v 1), none, none⟩, ⟨.bin .geq (.l 0) (.l 1), none, none⟩, ⟨.mov (.l 2), none, none⟩, ⟨.mov (.v 0), none, (some (3, true))⟩, ⟨.mov (.v 2), none, (some (3, true))⟩, ⟨.bin .leq (.l 4) (.l 5), none, (some (3, true))⟩, ⟨.pick (.l 3) (.l 6) (.c (.bool false)), none, none⟩, ⟨.mov (.l 7), (some 3), none⟩] [])
 (.ret)),
 [.t 3], false, false⟩
def m47 : List Nat := [0, 1, 2, 6]

/-- loop.example/g00293/spec.l11bent -/
def c48 : FC := ⟨2, 12, .seq (.reg [⟨.box 40 4 (.v 1), (some 2), none⟩, ⟨.alloc 40 [.int .i64 0, .imm true 0 [], .imm true 0 [], .imm true 0 []], (some 3), none⟩] [])
 (.seq (.seq (.reg [⟨.mov (.v 0), none, none⟩, ⟨.call 52 [.l 0, .c (.int .i64 9)], none, none⟩, ⟨.un .not (.l 1), (some 5), none⟩] [])
 (.cond (.v 5) (.seq (.reg [⟨.load (some 4) (.v 2), none, none⟩, ⟨.store 4 (.v 3) (.l 0), none, none⟩] [])
 (.ret))
 (.skip)))
 (.seq (.seq (.reg [⟨.mov (.v 0), none, none⟩, ⟨.call 50 [.l 0, .c (.int .i64 5)], (some 6), none⟩] [])
 (.block 0 (.seq (.reg [⟨.bin .eql (.v 6) (.c (.int .i64 0)), none, none⟩, ⟨.mov (.l 0), (some 7), none⟩] [])
 (.cond (.v 7) (.reg [⟨.mov (.v 0), none, none⟩, ⟨.lit 3 1 [.int .i64 0] [(0, .c (.int .i64 (-1))), (1, .c (.int .i64 2147483647)), (2, .c (.int .i64 2147483648))] false false, none, none⟩, ⟨.call 53 [.l 0, .l 1], none, none⟩, ⟨.fptr 0 (.v 2), none, none⟩, ⟨.store 1 (.l 3) (.l 2), none, none⟩] [])
 (.seq (.reg [⟨.bin .eql (.v 6) (.c (.int .i64 1)), none, none⟩, ⟨.mov (.l 0), (some 8), none⟩] [])
 (.cond (.v 8) (.reg [⟨.fptr 1 (.v 2), none, none⟩, ⟨.load none (.l 0), none, none⟩, ⟨.mov (.v 0), none, none⟩, ⟨.lit 3 1 [.int .i64 0] [(0, .c (.int .i64 (-1))), (1, .c (.int .i64 2147483648))] false false, none, none⟩, ⟨.call 53 [.l 2, .l 3], none, none⟩, ⟨.lit 3 1 [.int .i64 0] [(0, .l 4)] false true, none, none⟩, ⟨.app 3 1 8 (.l 1) (.l 5), none, none⟩, ⟨.fptr 1 (.v 2), none, none⟩, ⟨.store 1 (.l 7) (.l 6), none, none⟩] [(1, 5), (1, 6)])
 (.seq (.reg [⟨.bin .eql (.v 6) (.c (.int .i64 2)), none, none⟩, ⟨.mov (.l 0), (some 9), none⟩] [])
 (.cond (.v 9) (.reg [⟨.fptr 2 (.v 2), none, none⟩, ⟨.load none (.l 0), none, none⟩, ⟨.mov (.v 0), none, none⟩, ⟨.lit 3 1 [.int .i64 0] [(0, .c (.int .i64 (-9))), (1, .c (.int .i64 4611686018427387904)), (2, .c (.int .i64 (-4611686018427387904))), (3, .c (.int .i64 4611686018427387903))] false false, none, none⟩, ⟨.call 53 [.l 2, .l 3], none, none⟩, ⟨.build [.int .i64 0, .int .i64 0] [(0, 1, .l 4)], none, none⟩, ⟨.lit 113 2 [.int .i64 0, .int .i64 0] [(0, .l 5)] false true, none, none⟩, ⟨.app 113 2 16 (.l 1) (.l 6), none, none⟩, ⟨.fptr 2 (.v 2), none, none⟩, ⟨.store 1 (.l 8) (.l 7), none, none⟩] [(1, 6), (1, 7)])
 (.seq (.reg [⟨.bin .eql (.v 6) (.c (.int .i64 3)), none, none⟩, ⟨.mov (.l 0), (some 10), none⟩] [])
 (.cond (.v 10) (.seq (.reg [⟨.mov (.c (.int .i64 0)), (some 4), none⟩] [])
 (.block 1 (.loop (.seq (.seq (.reg [⟨.mov (.v 4), none, none⟩, ⟨.mov (.v 0), none, none⟩, ⟨.call 50 [.l 1, .c (.int .i64 2)], none, none⟩, ⟨.bin .add (.c (.int .i64 20)) (.l 2), none, none⟩, ⟨.bin .lss (.l 0) (.l 3), (some 11), none⟩] [])
 (.cond (.v 11) (.skip)
 (.exit 1)))
 (.seq (.block 2 (.reg [⟨.fptr 2 (.v 2), none, none⟩, ⟨.load none (.l 0), none, none⟩, ⟨.mov (.v 4), none, none⟩, ⟨.bin .add (.c (.int .i64 100)) (.l 2), none, none⟩, ⟨.build [.int .i64 0, .int .i64 0] [(0, 1, .l 3)], none, none⟩, ⟨.lit 113 2 [.int .i64 0, .int .i64 0] [(0, .l 4)] false true, none, none⟩, ⟨.app 113 2 16 (.l 1) (.l 5), none, none⟩, ⟨.fptr 2 (.v 2), none, none⟩, ⟨.store 1 (.l 7) (.l 6), none, none⟩] []))
 (.reg [⟨.mov (.v 4), none, none⟩, ⟨.bin .add (.l 0) (.c (.int .i64 1)), none, none⟩, ⟨.mov (.l 1), (some 4), none⟩] []))))))
 (.reg [⟨.mov (.v 0), none, none⟩, ⟨.call 50 [.l 0, .c (.int .i64 2)], none, none⟩, ⟨.bin .add (.c (.int .i64 200)) (.l 1), none, none⟩, ⟨.mk 3 1 8 [.int .i64 0] (.l 2) (.l 2), none, none⟩, ⟨.fptr 1 (.v 2), none, none⟩, ⟨.store 1 (.l 4) (.l 3), none, none⟩] [])))))))))))
 (.seq (.reg [⟨.load (some 4) (.v 2), none, none⟩, ⟨.store 4 (.v 3) (.l 0), none, none⟩] [])
 (.ret)))),
 [.cl (some 4) 3], true, true⟩
def m48 : List Nat := [0, 1, 3, 4, 5, 8, 11, 17, 23, 33, 44, 50]

/-- loop.example/g00293/spec.l11world -/
def c49 : FC := ⟨1, 8, .seq (.reg [⟨.alloc 40 [.int .i64 0, .imm true 0 [], .imm true 0 [], .imm true 0 []], (some 1), none⟩] [])
 (.seq (.reg [⟨.mov (.v 0), none, none⟩, ⟨.call 50 [.l 0, .c (.int .i64 3)], none, none⟩, ⟨.build [.int .i64 0, .imm true 0 [], .imm true 0 [], .imm true 0 []] [(0, 1, .l 1)], none, none⟩, ⟨.alloc 40 [.int .i64 0, .imm true 0 [], .imm true 0 [], .imm true 0 []], (some 2), none⟩, ⟨.store 4 (.l 3) (.l 2), none, none⟩] [])
 (.seq (.reg [⟨.mov (.v 0), none, none⟩, ⟨.call 50 [.l 0, .c (.int .i64 6)], none, none⟩, ⟨.mov (.l 1), (some 3), none⟩] [])
 (.seq (.seq (.reg [⟨.mov (.c (.int .i64 0)), (some 4), none⟩] [])
 (.block 0 (.loop (.seq (.seq (.reg [⟨.mov (.v 4), none, none⟩, ⟨.mov (.v 3), none, none⟩, ⟨.bin .lss (.l 0) (.l 1), (some 6), none⟩] [])
 (.cond (.v 6) (.skip)
 (.exit 0)))
 (.seq (.block 1 (.reg [⟨.fptr 1 (.v 2), none, none⟩, ⟨.load none (.l 0), none, none⟩, ⟨.mov (.v 0), none, none⟩, ⟨.call 50 [.l 2, .c (.int .i64 2147483647)], none, none⟩, ⟨.lit 3 1 [.int .i64 0] [(0, .l 3)] false true, none, none⟩, ⟨.app 3 1 8 (.l 1) (.l 4), none, none⟩, ⟨.fptr 1 (.v 2), none, none⟩, ⟨.store 1 (.l 6) (.l 5), none, none⟩] [(1, 4), (1, 5)]))
 (.reg [⟨.mov (.v 4), none, none⟩, ⟨.bin .add (.l 0) (.c (.int .i64 1)), none, none⟩, ⟨.mov (.l 1), (some 4), none⟩] []))))))
 (.seq (.reg [⟨.mov (.v 0), none, none⟩, ⟨.call 50 [.l 0, .c (.int .i64 4)], none, none⟩, ⟨.mov (.l 1), (some 3), none⟩] [])
 (.seq (.seq (.reg [⟨.mov (.c (.int .i64 0)), (some 5), none⟩] [])
 (.block 2 (.loop (.seq (.seq (.reg [⟨.mov (.v 5), none, none⟩, ⟨.mov (.v 3), none, none⟩, ⟨.bin .lss (.l 0) (.l 1), (some 7), none⟩] [])
 (.cond (.v 7) (.skip)
 (.exit 2)))
 (.seq (.block 3 (.reg [⟨.mov (.v 0), none, none⟩, ⟨.call 50 [.l 0, .c (.int .i64 5)], none, none⟩, ⟨.mov (.v 0), none, none⟩, ⟨.call 50 [.l 2, .c (.int .i64 100)], none, none⟩, ⟨.bin .sub (.l 3) (.c (.int .i64 50)), none, none⟩, ⟨.call 98 [.v 2, .l 1, .l 4], none, none⟩] []))
 (.reg [⟨.mov (.v 5), none, none⟩, ⟨.bin .add (.l 0) (.c (.int .i64 1)), none, none⟩, ⟨.mov (.l 1), (some 5), none⟩] []))))))
 (.seq (.reg [⟨.load (some 4) (.v 2), none, none⟩, ⟨.store 4 (.v 1) (.l 0), none, none⟩] [])
 (.ret))))))),
 [.cl (some 4) 1], false, true⟩
def m49 : List Nat := [0, 2, 3, 4, 5, 6, 14, 28]

/-- loop.example/g00293/spec.l1Below -/
def c50 : FC := ⟨2, 9, .seq (.reg [⟨.mov (.c (.int .i64 0)), (some 2), none⟩] [])
 (.seq (.seq (.reg [⟨.mov (.v 1), none, none⟩, ⟨.bin .leq (.l 0) (.c (.int .i64 0)), (some 7), none⟩] [])
 (.cond (.v 7) (.seq (.reg [⟨.mov (.c (.int .i64 0)), (some 2), none⟩] [])
 (.ret))
 (.skip)))
 (.seq (.seq (.reg [⟨.mov (.v 1), none, none⟩, ⟨.bin .leq (.l 0) (.c (.int .i64 256)), (some 8), none⟩] [])
 (.cond (.v 8) (.seq (.reg [⟨.mov (.v 0), none, none⟩, ⟨.call 99 [.l 0], none, none⟩, ⟨.mov (.v 1), none, none⟩, ⟨.bin .rem (.l 1) (.l 2), none, none⟩, ⟨.mov (.l 3), (some 2), none⟩] [])
 (.ret))
 (.skip)))
 (.seq (.reg [⟨.mov (.v 0), none, none⟩, ⟨.call 99 [.l 0], none, none⟩, ⟨.mov (.l 1), (some 3), none⟩] [])
 (.seq (.reg [⟨.mov (.v 0), none, none⟩, ⟨.call 99 [.l 0], none, none⟩, ⟨.mov (.l 1), (some 4), none⟩] [])
 (.seq (.reg [⟨.mov (.v 0), none, none⟩, ⟨.call 99 [.l 0], none, none⟩, ⟨.mov (.l 1), (some 5), none⟩] [])
 (.seq (.reg [⟨.mov (.v 0), none, none⟩, ⟨.call 99 [.l 0], none, none⟩, ⟨.mov (.l 1), (some 6), none⟩] [])
 (.seq (.reg [⟨.mov (.v 3), none, none⟩, ⟨.bin .mul (.l 0) (.c (.int .i64 16777216)), none, none⟩, ⟨.mov (.v 4), none, none⟩, ⟨.bin .mul (.l 2) (.c (.int .i64 65536)), none, none⟩, ⟨.bin .add (.l 1) (.l 3), none, none⟩, ⟨.mov (.v 5), none, none⟩, ⟨.bin .mul (.l 5) (.c (.int .i64 256)), none, none⟩, ⟨.bin .add (.l 4) (.l 6), none, none⟩, ⟨.mov (.v 6), none, none⟩, ⟨.bin .add (.l 7) (.l 8), none, none⟩, ⟨.mov (.v 1), none, none⟩, ⟨.bin .rem (.l 9) (.l 10), none, none⟩, ⟨.mov (.l 11), (some 2), none⟩] [])
 (.ret)))))))),
 [.t 2], false, false⟩
def m50 : List Nat := [0, 1, 4, 5, 6, 7, 8, 10, 12]

/-- loop.example/g00293/spec.l11call -/
def c51 : FC := ⟨5, 18, .seq (.reg [⟨.mov (.c (.int .i64 0)), (some 5), none⟩] [])
 (.seq (.reg [⟨.mov (.c (.int .i64 0)), (some 6), none⟩] [])
 (.seq (.reg [⟨.mov (.v 1), none, none⟩, ⟨.build [.int .i64 0, .int .i64 0, .int .i64 0, .imm true 0 [], .int .i64 0] [(0, 1, .l 0)], none, none⟩, ⟨.alloc 49 [.int .i64 0, .int .i64 0, .int .i64 0, .imm true 0 [], .int .i64 0], (some 7), none⟩, ⟨.store 5 (.l 2) (.l 1), none, none⟩] [])
 (.seq (.seq (.reg [⟨.mov (.v 1), (some 9), none⟩] [])
 (.block 0 (.seq (.reg [⟨.bin .eql (.v 9) (.c (.int .i64 0)), none, none⟩, ⟨.mov (.l 0), (some 10), none⟩] [])
 (.cond (.v 10) (.reg [⟨.lit 5 1 [.int .u8 0] [] false false, none, none⟩, ⟨.mov (.v 4), none, none⟩, ⟨.app 5 1 1 (.l 0) (.l 1), none, none⟩, ⟨.fptr 3 (.v 7), none, none⟩, ⟨.store 1 (.l 3) (.l 2), none, none⟩] [])
 (.seq (.reg [⟨.bin .eql (.v 9) (.c (.int .i64 1)), none, none⟩, ⟨.mov (.l 0), (some 11), none⟩] [])
 (.cond (.v 11) (.seq (.reg [⟨.mov (.v 0), none, none⟩, ⟨.nilck (.l 0), none, none⟩, ⟨.fptr 0 (.l 1), none, none⟩, ⟨.load none (.l 2), none, none⟩, ⟨.mov (.l 3), (some 6), none⟩] [])
 (.seq (.reg [⟨.mov (.v 0), none, none⟩, ⟨.nilck (.l 0), none, none⟩, ⟨.fptr 0 (.l 1), none, none⟩, ⟨.load none (.l 2), none, none⟩, ⟨.bin .lss (.l 3) (.c (.int .i64 2147483647)), (some 12), none⟩] [])
 (.cond (.v 12) (.reg [⟨.mov (.v 0), none, none⟩, ⟨.nilck (.l 0), none, none⟩, ⟨.fptr 0 (.l 1), none, none⟩, ⟨.load none (.l 2), none, none⟩, ⟨.bin .add (.l 3) (.c (.int .i64 1)), none, none⟩, ⟨.nilck (.l 0), none, none⟩, ⟨.fptr 0 (.l 5), none, none⟩, ⟨.store 1 (.l 6) (.l 4), none, none⟩] [])
 (.skip))))
 (.seq (.reg [⟨.bin .eql (.v 9) (.c (.int .i64 2)), none, none⟩, ⟨.mov (.l 0), (some 13), none⟩] [])
 (.cond (.v 13) (.seq (.reg [⟨.mov (.v 2), none, none⟩, ⟨.fptr 1 (.v 7), none, none⟩, ⟨.store 1 (.l 1) (.l 0), none, none⟩] [])
 (.seq (.reg [⟨.mov (.v 0), none, none⟩, ⟨.nilck (.l 0), none, none⟩, ⟨.fptr 1 (.l 1), none, none⟩, ⟨.load none (.l 2), none, none⟩, ⟨.len false (.l 3), none, none⟩, ⟨.bin .gtr (.l 4) (.c (.int .i64 0)), none, none⟩, ⟨.mov (.l 5), none, none⟩, ⟨.mov (.v 2), none, (some (6, true))⟩, ⟨.bin .gtr (.l 7) (.c (.int .i64 0)), none, (some (6, true))⟩, ⟨.pick (.l 6) (.l 8) (.c (.bool false)), (some 14), none⟩] [])
 (.cond (.v 14) (.seq (.reg [⟨.mov (.v 0), none, none⟩, ⟨.nilck (.l 0), none, none⟩, ⟨.fptr 1 (.l 1), none, none⟩, ⟨.load none (.l 2), none, none⟩, ⟨.iptr 1 (.l 3) (.c (.int .i64 0)), none, none⟩, ⟨.load none (.l 4), none, none⟩, ⟨.mov (.v 2), none, none⟩, ⟨.bin .rem (.l 5) (.l 6), none, none⟩, ⟨.mov (.l 7), (some 6), none⟩] [])
 (.reg [⟨.mov (.v 0), none, none⟩, ⟨.mov (.v 0), none, none⟩, ⟨.nilck (.l 1), none, none⟩, ⟨.fptr 1 (.l 2), none, none⟩, ⟨.load none (.l 3), none, none⟩, ⟨.slice 1 (.l 4) (some (.c (.int .i64 1))) none none, none, none⟩, ⟨.nilck (.l 0), none, none⟩, ⟨.fptr 1 (.l 6), none, none⟩, ⟨.store 1 (.l 7) (.l 5), none, none⟩] []))
 (.skip))))
 (.seq (.reg [⟨.bin .eql (.v 9) (.c (.int .i64 3)), none, none⟩, ⟨.mov (.l 0), (some 15), none⟩] [])
 (.cond (.v 15) (.seq (.reg [⟨.mov (.v 2), none, none⟩, ⟨.fptr 1 (.v 7), none, none⟩, ⟨.store 1 (.l 1) (.l 0), none, none⟩] [])
 (.seq (.reg [⟨.mov (.c (.int .i64 0)), (some 8), none⟩] [])
 (.block 1 (.loop (.seq (.seq (.reg [⟨.mov (.v 8), none, none⟩, ⟨.mov (.v 0), none, none⟩, ⟨.nilck (.l 1), none, none⟩, ⟨.fptr 2 (.l 2), none, none⟩, ⟨.load none (.l 3), none, none⟩, ⟨.len false (.l 4), none, none⟩, ⟨.bin .lss (.l 0) (.l 5), (some 16), none⟩] [])
 (.cond (.v 16) (.skip)
 (.exit 1)))
 (.seq (.block 2 (.seq (.reg [⟨.mov (.v 0), none, none⟩, ⟨.nilck (.l 0), none, none⟩, ⟨.fptr 2 (.l 1), none, none⟩, ⟨.load none (.l 2), none, none⟩, ⟨.mov (.v 8), none, none⟩, ⟨.iptr 2 (.l 3) (.l 4), none, none⟩, ⟨.fptr 0 (.l 5), none, none⟩, ⟨.load none (.l 6), none, none⟩, ⟨.mov (.v 2), none, none⟩, ⟨.bin .eql (.l 7) (.l 8), (some 17), none⟩] [])
 (.cond (.v 17) (.reg [⟨.mov (.v 0), none, none⟩, ⟨.nilck (.l 0), none, none⟩, ⟨.fptr 2 (.l 1), none, none⟩, ⟨.load none (.l 2), none, none⟩, ⟨.mov (.v 8), none, none⟩, ⟨.iptr 2 (.l 3) (.l 4), none, none⟩, ⟨.fptr 1 (.l 5), none, none⟩, ⟨.load none (.l 6), none, none⟩, ⟨.mov (.l 7), (some 6), none⟩] [])
 (.skip))))
 (.reg [⟨.mov (.v 8), none, none⟩, ⟨.bin .add (.l 0) (.c (.int .i64 1)), none, none⟩, ⟨.mov (.l 1), (some 8), none⟩] [])))))))
 (.seq (.reg [⟨.mov (.v 2), none, none⟩, ⟨.fptr 1 (.v 7), none, none⟩, ⟨.store 1 (.l 1) (.l 0), none, none⟩] [])
 (.seq (.reg [⟨.mov (.v 3), none, none⟩, ⟨.fptr 2 (.v 7), none, none⟩, ⟨.store 1 (.l 1) (.l 0), none, none⟩] [])
 (.reg [⟨.mov (.v 0), none, none⟩, ⟨.mov (.v 2), none, none⟩, ⟨.mov (.v 3), none, none⟩, ⟨.call 98 [.l 0, .l 1, .l 2], none, none⟩] [])))))))))))))
 (.seq (.reg [⟨.mov (.v 6), none, none⟩, ⟨.fptr 4 (.v 7), none, none⟩, ⟨.store 1 (.l 1) (.l 0), none, none⟩] [])
 (.seq (.reg [⟨.mov (.v 0), none, none⟩, ⟨.mov (.v 0), none, none⟩, ⟨.nilck (.l 1), none, none⟩, ⟨.fptr 3 (.l 2), none, none⟩, ⟨.load none (.l 3), none, none⟩, ⟨.load (some 5) (.v 7), none, none⟩, ⟨.lit 49 5 [.int .i64 0, .int .i64 0, .int .i64 0, .imm true 0 [], .int .i64 0] [(0, .l 5)] false true, none, none⟩, ⟨.app 49 5 56 (.l 4) (.l 6), none, none⟩, ⟨.nilck (.l 0), none, none⟩, ⟨.fptr 3 (.l 8), none, none⟩, ⟨.store 1 (.l 9) (.l 7), none, none⟩] [(4, 7)])
 (.seq (.reg [⟨.mov (.v 6), none, none⟩, ⟨.mov (.l 0), (some 5), none⟩] [])
 (.ret))))))),
 [.t 5], false, true⟩
def m51 : List Nat := [0, 1, 2, 3, 4, 10, 11, 12, 13, 16, 25, 31, 41, 49, 62, 79, 89, 101]

/-- loop.example/g00293/spec.l1Once -/
def c52 : FC := ⟨2, 3, .seq (.reg [⟨.mov (.c (.bool false)), (some 2), none⟩] [])
 (.seq (.reg [⟨.mov (.v 0), none, none⟩, ⟨.mov (.v 1), none, none⟩, ⟨.call 50 [.l 0, .l 1], none, none⟩, ⟨.bin .eql (.l 2) (.c (.int .i64 0)), none, none⟩, ⟨.mov (.l 3), (some 2), none⟩] [])
 (.ret)),
 [.t 2], false, false⟩
def m52 : List Nat := [0, 1, 4]

/-- loop.example/g00293/spec.l1PickInt -/
def c53 : FC := ⟨2, 3, .seq (.reg [⟨.mov (.c (.int .i64 0)), (some 2), none⟩] [])
 (.seq (.reg [⟨.mov (.v 1), none, none⟩, ⟨.mov (.v 0), none, none⟩, ⟨.mov (.v 1), none, none⟩, ⟨.len false (.l 2), none, none⟩, ⟨.call 50 [.l 1, .l 3], none, none⟩, ⟨.iptr 1 (.l 0) (.l 4), none, none⟩, ⟨.load none (.l 5), none, none⟩, ⟨.mov (.l 6), (some 2), none⟩] [])
 (.ret)),
 [.t 2], false, false⟩
def m53 : List Nat := [0, 1, 4]

/-- loop.example/g00293/spec.l1some -/
def c54 : FC := ⟨2, 7, .seq (.reg [⟨.mov (.c (.imm true 0 [])), (some 2), none⟩] [])
 (.seq (.reg [⟨.mov (.v 0), none, none⟩, ⟨.mov (.v 1), none, none⟩, ⟨.bin .add (.l 1) (.c (.int .i64 1)), none, none⟩, ⟨.call 50 [.l 0, .l 2], none, none⟩, ⟨.mov (.l 3), (some 3), none⟩] [])
 (.seq (.reg [⟨.mov (.c (.imm true 0 [])), (some 4), none⟩] [])
 (.seq (.seq (.reg [⟨.mov (.c (.int .i64 0)), (some 5), none⟩] [])
 (.block 0 (.loop (.seq (.seq (.reg [⟨.mov (.v 5), none, none⟩, ⟨.mov (.v 3), none, none⟩, ⟨.bin .lss (.l 0) (.l 1), (some 6), none⟩] [])
 (.cond (.v 6) (.skip)
 (.exit 0)))
 (.seq (.block 1 (.reg [⟨.mov (.v 4), none, none⟩, ⟨.mov (.v 0), none, none⟩, ⟨.call 99 [.l 1], none, none⟩, ⟨.conv .u8 (.l 2), none, none⟩, ⟨.lit 5 1 [.int .u8 0] [(0, .l 3)] false true, none, none⟩, ⟨.app 5 1 1 (.l 0) (.l 4), none, none⟩, ⟨.mov (.l 5), (some 4), none⟩] []))
 (.reg [⟨.mov (.v 5), none, none⟩, ⟨.bin .add (.l 0) (.c (.int .i64 1)), none, none⟩, ⟨.mov (.l 1), (some 5), none⟩] []))))))
 (.seq (.reg [⟨.mov (.v 4), none, none⟩, ⟨.mov (.l 0), (some 2), none⟩] [])
 (.ret))))),
 [.t 2], false, false⟩
def m54 : List Nat := [0, 1, 4, 5, 6, 7, 14]

/-- loop.example/g00293/impl.cloneWorld -/
def c55 : FC := ⟨1, 3, .seq (.reg [⟨.box 40 4 (.v 0), (some 1), none⟩, ⟨.alloc 40 [.int .i64 0, .imm true 0 [], .imm true 0 [], .imm true 0 []], (some 2), none⟩] [])
 (.seq (.reg [⟨.fptr 0 (.v 1), none, none⟩, ⟨.load none (.l 0), none, none⟩, ⟨.fptr 1 (.v 1), none, none⟩, ⟨.load none (.l 2), none, none⟩, ⟨.call 94 [.l 3], none, none⟩, ⟨.fptr 2 (.v 1), none, none⟩, ⟨.load none (.l 5), none, none⟩, ⟨.call 100 [.l 6], none, none⟩, ⟨.fptr 3 (.v 1), none, none⟩, ⟨.load none (.l 8), none, none⟩, ⟨.call 101 [.l 9], none, none⟩, ⟨.build [.int .i64 0, .imm true 0 [], .imm true 0 [], .imm true 0 []] [(0, 1, .l 1), (1, 1, .l 4), (2, 1, .l 7), (3, 1, .l 10)], none, none⟩, ⟨.store 4 (.v 2) (.l 11), none, none⟩] [(1, 7), (1, 10), (1, 12), (6, 4), (9, 4), (9, 7)])
 (.ret)),
 [.cl (some 4) 2], false, true⟩
def m55 : List Nat := [0, 1, 2]

/-- (*loop.example/g00293/impl.World).call -/
def c56 : FC := ⟨5, 19, .seq (.reg [⟨.mov (.c (.int .i64 0)), (some 5), none⟩, ⟨.mov (.c (.bool false)), (some 6), none⟩] [])
 (.seq (.seq (.reg [⟨.mov (.v 1), none, none⟩, ⟨.call 47 [.l 0, .c (.int .i64 0), .c (.int .i64 4)], none, none⟩, ⟨.un .not (.l 1), none, none⟩, ⟨.mov (.l 2), none, none⟩, ⟨.mov (.v 2), none, (some (3, false))⟩, ⟨.call 57 [.l 4], none, (some (3, false))⟩, ⟨.un .not (.l 5), none, (some (3, false))⟩, ⟨.pick (.l 3) (.c (.bool true)) (.l 6), none, none⟩, ⟨.mov (.l 7), none, none⟩, ⟨.mov (.v 3), none, (some (8, false))⟩, ⟨.call 57 [.l 9], none, (some (8, false))⟩, ⟨.un .not (.l 10), none, (some (8, false))⟩, ⟨.pick (.l 8) (.c (.bool true)) (.l 11), none, none⟩, ⟨.mov (.l 12), none, none⟩, ⟨.mov (.v 4), none, (some (13, false))⟩, ⟨.len false (.l 14), none, (some (13, false))⟩, ⟨.bin .gtr (.l 15) (.c (.int .i64 64)), none, (some (13, false))⟩, ⟨.pick (.l 13) (.c (.bool true)) (.l 16), (some 10), none⟩] [])
 (.cond (.v 10) (.seq (.reg [⟨.mov (.c (.int .i64 0)), (some 5), none⟩, ⟨.mov (.c (.bool false)), (some 6), none⟩] [])
 (.ret))
 (.skip)))
 (.seq (.reg [⟨.mov (.v 1), none, none⟩, ⟨.build [.int .i64 0, .int .i64 0, .int .i64 0, .imm true 0 [], .int .i64 0] [(0, 1, .l 0)], none, none⟩, ⟨.alloc 49 [.int .i64 0, .int .i64 0, .int .i64 0, .imm true 0 [], .int .i64 0], (some 7), none⟩, ⟨.store 5 (.l 2) (.l 1), none, none⟩] [])
 (.seq (.seq (.reg [⟨.mov (.v 1), (some 11), none⟩] [])
 (.block 0 (.seq (.reg [⟨.bin .eql (.v 11) (.c (.int .i64 0)), none, none⟩, ⟨.mov (.l 0), (some 12), none⟩] [])
 (.cond (.v 12) (.reg [⟨.mov (.v 4), none, none⟩, ⟨.call 102 [.l 0], none, none⟩, ⟨.fptr 3 (.v 7), none, none⟩, ⟨.store 1 (.l 2) (.l 1), none, none⟩] [])
 (.seq (.reg [⟨.bin .eql (.v 11) (.c (.int .i64 1)), none, none⟩, ⟨.mov (.l 0), (some 13), none⟩] [])
 (.cond (.v 13) (.seq (.reg [⟨.mov (.v 0), none, none⟩, ⟨.nilck (.l 0), none, none⟩, ⟨.fptr 0 (.l 1), none, none⟩, ⟨.load none (.l 2), none, none⟩, ⟨.fptr 4 (.v 7), none, none⟩, ⟨.store 1 (.l 4) (.l 3), none, none⟩] [])
 (.reg [⟨.mov (.v 0), none, none⟩, ⟨.mov (.v 0), none, none⟩, ⟨.nilck (.l 1), none, none⟩, ⟨.fptr 0 (.l 2), none, none⟩, ⟨.load none (.l 3), none, none⟩, ⟨.bin .add (.l 4) (.c (.int .i64 1)), none, none⟩, ⟨.min (.l 5) (.c (.int .i64 2147483647)), none, none⟩, ⟨.nilck (.l 0), none, none⟩, ⟨.fptr 0 (.l 7), none, none⟩, ⟨.store 1 (.l 8) (.l 6), none, none⟩] []))
 (.seq (.reg [⟨.bin .eql (.v 11) (.c (.int .i64 2)), none, none⟩, ⟨.mov (.l 0), (some 14), none⟩] [])
 (.cond (.v 14) (.seq (.reg [⟨.mov (.v 2), none, none⟩, ⟨.fptr 1 (.v 7), none, none⟩, ⟨.store 1 (.l 1) (.l 0), none, none⟩] [])
 (.seq (.reg [⟨.mov (.v 0), none, none⟩, ⟨.nilck (.l 0), none, none⟩, ⟨.fptr 1 (.l 1), none, none⟩, ⟨.load none (.l 2), none, none⟩, ⟨.len false (.l 3), none, none⟩, ⟨.bin .gtr (.l 4) (.c (.int .i64 0)), none, none⟩, ⟨.mov (.l 5), none, none⟩, ⟨.mov (.v 2), none, (some (6, true))⟩, ⟨.bin .gtr (.l 7) (.c (.int .i64 0)), none, (some (6, true))⟩, ⟨.pick (.l 6) (.l 8) (.c (.bool false)), (some 15), none⟩] [])
 (.cond (.v 15) (.seq (.reg [⟨.mov (.v 0), none, none⟩, ⟨.nilck (.l 0), none, none⟩, ⟨.fptr 1 (.l 1), none, none⟩, ⟨.load none (.l 2), none, none⟩, ⟨.iptr 1 (.l 3) (.c (.int .i64 0)), none, none⟩, ⟨.load none (.l 4), none, none⟩, ⟨.mov (.v 2), none, none⟩, ⟨.bin .rem (.l 5) (.l 6), none, none⟩, ⟨.fptr 4 (.v 7), none, none⟩, ⟨.store 1 (.l 8) (.l 7), none, none⟩] [])
 (.reg [⟨.mov (.v 0), none, none⟩, ⟨.mov (.v 0), none, none⟩, ⟨.nilck (.l 1), none, none⟩, ⟨.fptr 1 (.l 2), none, none⟩, ⟨.load none (.l 3), none, none⟩, ⟨.slice 1 (.l 4) (some (.c (.int .i64 1))) none none, none, none⟩, ⟨.nilck (.l 0), none, none⟩, ⟨.fptr 1 (.l 6), none, none⟩, ⟨.store 1 (.l 7) (.l 5), none, none⟩] []))
 (.skip))))
 (.seq (.reg [⟨.bin .eql (.v 11) (.c (.int .i64 3)), none, none⟩, ⟨.mov (.l 0), (some 16), none⟩] [])
 (.cond (.v 16) (.seq (.reg [⟨.mov (.v 2), none, none⟩, ⟨.fptr 1 (.v 7), none, none⟩, ⟨.store 1 (.l 1) (.l 0), none, none⟩] [])
 (.seq (.reg [⟨.mov (.v 0), none, none⟩, ⟨.mov (.v 2), none, none⟩, ⟨.call 103 [.l 0, .l 1], none, none⟩, ⟨.mov (.l 2), none, none⟩, ⟨.ext (.l 3) 0, none, none⟩, ⟨.ext (.l 3) 1, none, none⟩, ⟨.mov (.l 4), (some 8), none⟩, ⟨.mov (.l 5), (some 9), none⟩] [])
 (.seq (.reg [⟨.mov (.v 9), (some 17), none⟩] [])
 (.cond (.v 17) (.reg [⟨.mov (.v 0), none, none⟩, ⟨.nilck (.l 0), none, none⟩, ⟨.fptr 2 (.l 1), none, none⟩, ⟨.load none (.l 2), none, none⟩, ⟨.mov (.v 8), none, none⟩, ⟨.iptr 2 (.l 3) (.l 4), none, none⟩, ⟨.fptr 1 (.l 5), none, none⟩, ⟨.load none (.l 6), none, none⟩, ⟨.fptr 4 (.v 7), none, none⟩, ⟨.store 1 (.l 8) (.l 7), none, none⟩] [])
 (.skip)))))
 (.seq (.reg [⟨.bin .eql (.v 11) (.c (.int .i64 4)), none, none⟩, ⟨.mov (.l 0), (some 18), none⟩] [])
 (.cond (.v 18) (.seq (.reg [⟨.mov (.v 2), none, none⟩, ⟨.mov (.v 3), none, none⟩, ⟨.fptr 1 (.v 7), none, none⟩, ⟨.store 1 (.l 2) (.l 0), none, none⟩, ⟨.fptr 2 (.v 7), none, none⟩, ⟨.store 1 (.l 4) (.l 1), none, none⟩] [])
 (.reg [⟨.mov (.v 0), none, none⟩, ⟨.mov (.v 2), none, none⟩, ⟨.mov (.v 3), none, none⟩, ⟨.call 104 [.l 0, .l 1, .l 2], none, none⟩] []))
 (.skip)))))))))))))
 (.seq (.reg [⟨.mov (.v 0), none, none⟩, ⟨.mov (.v 0), none, none⟩, ⟨.nilck (.l 1), none, none⟩, ⟨.fptr 3 (.l 2), none, none⟩, ⟨.load none (.l 3), none, none⟩, ⟨.load (some 5) (.v 7), none, none⟩, ⟨.lit 49 5 [.int .i64 0, .int .i64 0, .int .i64 0, .imm true 0 [], .int .i64 0] [(0, .l 5)] false true, none, none⟩, ⟨.app 49 5 56 (.l 4) (.l 6), none, none⟩, ⟨.nilck (.l 0), none, none⟩, ⟨.fptr 3 (.l 8), none, none⟩, ⟨.store 1 (.l 9) (.l 7), none, none⟩] [(4, 7)])
 (.seq (.reg [⟨.fptr 4 (.v 7), none, none⟩, ⟨.load none (.l 0), none, none⟩, ⟨.mov (.l 1), (some 5), none⟩, ⟨.mov (.c (.bool true)), (some 6), none⟩] [])
 (.ret)))))),
 [.t 5, .t 6], false, true⟩
def m56 : List Nat := [0, 1, 2, 3, 4, 10, 11, 12, 13, 14, 32, 35, 36, 41, 57, 70, 88, 98, 108]

/-- loop.example/g00293/impl.wrapped -/
def c57 : FC := ⟨1, 2, .seq (.reg [⟨.mov (.c (.bool false)), (some 1), none⟩] [])
 (.seq (.reg [⟨.mov (.v 0), none, none⟩, ⟨.call 105 [.l 0], none, none⟩, ⟨.mov (.v 0), none, none⟩, ⟨.bin .eql (.l 1) (.l 2), none, none⟩, ⟨.mov (.l 3), (some 1), none⟩] [])
 (.ret)),
 [.t 1], false, false⟩
def m57 : List Nat := [0, 2]

/-- slices.ContainsFunc[[]int,int] -/
def c58 : FC := ⟨2, 3, .seq (.reg [⟨.mov (.c (.bool false)), (some 2), none⟩] [])
 (.seq (.reg [⟨.mov (.v 0), none, none⟩, ⟨.mov (.v 1), none, none⟩, ⟨.call 106 [.l 0, .l 1], none, none⟩, ⟨.bin .geq (.l 2) (.c (.int .i64 0)), none, none⟩, ⟨.mov (.l 3), (some 2), none⟩] [])
 (.ret)),
 [.t 2], false, false⟩
def m58 : List Nat := [0, 1, 4]

/-- loop.example/g00293/impl.WorldOk$1 -/
def c59 : FC := ⟨1, 2, .seq (.reg [⟨.mov (.c (.bool false)), (some 1), none⟩] [])
 (.seq (.reg [⟨.mov (.v 0), none, none⟩, ⟨.call 47 [.l 0, .c (.int .i64 0), .c (.int .i64 2147483647)], none, none⟩, ⟨.un .not (.l 1), none, none⟩, ⟨.mov (.l 2), (some 1), none⟩] [])
 (.ret)),
 [.t 1], false, false⟩
def m59 : List Nat := [0, 2]

/-- loop.example/g00293/laws.sameEvent -/
def c60 : FC := ⟨2, 5, .seq (.reg [⟨.box 49 5 (.v 0), (some 2), none⟩, ⟨.box 49 5 (.v 1), (some 3), none⟩, ⟨.mov (.c (.bool false)), (some 4), none⟩] [])
 (.seq (.reg [⟨.fptr 0 (.v 2), none, none⟩, ⟨.load none (.l 0), none, none⟩, ⟨.fptr 0 (.v 3), none, none⟩, ⟨.load none (.l 2), none, none⟩, ⟨.bin .eql (.l 1) (.l 3), none, none⟩, ⟨.mov (.l 4), none, none⟩, ⟨.fptr 1 (.v 2), none, (some (5, true))⟩, ⟨.load none (.l 6), none, (some (5, true))⟩, ⟨.fptr 1 (.v 3), none, (some (5, true))⟩, ⟨.load none (.l 8), none, (some (5, true))⟩, ⟨.bin .eql (.l 7) (.l 9), none, (some (5, true))⟩, ⟨.pick (.l 5) (.l 10) (.c (.bool false)), none, none⟩, ⟨.mov (.l 11), none, none⟩, ⟨.fptr 2 (.v 2), none, (some (12, true))⟩, ⟨.load none (.l 13), none, (some (12, true))⟩, ⟨.fptr 2 (.v 3), none, (some (12, true))⟩, ⟨.load none (.l 15), none, (some (12, true))⟩, ⟨.bin .eql (.l 14) (.l 16), none, (some (12, true))⟩, ⟨.pick (.l 12) (.l 17) (.c (.bool false)), none, none⟩, ⟨.mov (.l 18), none, none⟩, ⟨.fptr 4 (.v 2), none, (some (19, true))⟩, ⟨.load none (.l 20), none, (some (19, true))⟩, ⟨.fptr 4 (.v 3), none, (some (19, true))⟩, ⟨.load none (.l 22), none, (some (19, true))⟩, ⟨.bin .eql (.l 21) (.l 23), none, (some (19, true))⟩, ⟨.pick (.l 19) (.l 24) (.c (.bool false)), none, none⟩, ⟨.mov (.l 25), none, none⟩, ⟨.fptr 3 (.v 2), none, (some (26, true))⟩, ⟨.load none (.l 27), none, (some (26, true))⟩, ⟨.fptr 3 (.v 3), none, (some (26, true))⟩, ⟨.load none (.l 29), none, (some (26, true))⟩, ⟨.call 107 [.l 28, .l 30], none, (some (26, true))⟩, ⟨.pick (.l 26) (.l 31) (.c (.bool false)), none, none⟩, ⟨.mov (.l 32), (some 4), none⟩] [])
 (.ret)),
 [.t 4], false, false⟩
def m60 : List Nat := [0, 1, 2, 3, 4]

/-- loop.example/g00293/spec.l1num -/
def c93 : FC := ⟨1, 7, .seq (.reg [⟨.mov (.c (.int .i64 0)), (some 1), none⟩] [])
 (.seq (.seq (.reg [⟨.mov (.v 0), none, none⟩, ⟨.call 50 [.l 0, .c (.int .i64 5)], (some 2), none⟩] [])
 (.block 0 (.seq (.reg [⟨.bin .eql (.v 2) (.c (.int .i64 0)), none, none⟩, ⟨.mov (.l 0), (some 3), none⟩] [])
 (.cond (.v 3) (.seq (.reg [⟨.mov (.v 0), none, none⟩, ⟨.call 50 [.l 0, .c (.int .i64 4)], none, none⟩, ⟨.mov (.l 1), (some 1), none⟩] [])
 (.ret))
 (.seq (.reg [⟨.bin .eql (.v 2) (.c (.int .i64 1)), none, none⟩, ⟨.mov (.l 0), (some 4), none⟩] [])
 (.cond (.v 4) (.seq (.reg [⟨.mov (.v 0), none, none⟩, ⟨.lit 3 1 [.int .i64 0] [(0, .c (.int .i64 126)), (1, .c (.int .i64 127)), (2, .c (.int .i64 128)), (3, .c (.int .i64 129)), (4, .c (.int .i64 16383)), (5, .c (.int .i64 16384)), (6, .c (.int .i64 2097151)), (7, .c (.int .i64 2097152)), (8, .c (.int .i64 2147483646)), (9, .c (.int .i64 2147483647))] false false, none, none⟩, ⟨.call 53 [.l 0, .l 1], none, none⟩, ⟨.mov (.l 2), (some 1), none⟩] [])
 (.ret))
 (.seq (.reg [⟨.bin .eql (.v 2) (.c (.int .i64 2)), none, none⟩, ⟨.mov (.l 0), (some 5), none⟩] [])
 (.cond (.v 5) (.seq (.reg [⟨.mov (.v 0), none, none⟩, ⟨.call 50 [.l 0, .c (.int .i64 40000)], none, none⟩, ⟨.mov (.l 1), (some 1), none⟩] [])
 (.ret))
 (.seq (.reg [⟨.bin .eql (.v 2) (.c (.int .i64 3)), none, none⟩, ⟨.mov (.l 0), (some 6), none⟩] [])
 (.cond (.v 6) (.seq (.reg [⟨.mov (.v 0), none, none⟩, ⟨.lit 3 1 [.int .i64 0] [(0, .c (.int .i64 (-1))), (1, .c (.int .i64 (-2))), (2, .c (.int .i64 2147483648)), (3, .c (.int .i64 4611686018427387904)), (4, .c (.int .i64 (-9223372036854775808))), (5, .c (.int .i64 9223372036854775807))] false false, none, none⟩, ⟨.call 53 [.l 0, .l 1], none, none⟩, ⟨.mov (.l 2), (some 1), none⟩] [])
 (.ret))
 (.skip)))))))))))
 (.seq (.reg [⟨.mov (.v 0), none, none⟩, ⟨.call 50 [.l 0, .c (.int .i64 2147483647)], none, none⟩, ⟨.mov (.l 1), (some 1), none⟩] [])
 (.ret))),
 [.t 1], false, false⟩
def m93 : List Nat := [0, 2, 4, 5, 9, 14, 18]

/-- slices.Clone[[]int,int] -/
def c94 : FC := ⟨1, 3, .seq (.reg [⟨.mov (.c (.imm true 0 [])), (some 1), none⟩] [])
 (.alt (.reg [⟨.mov (.v 0), none, none⟩, ⟨.isnil 0 false (.l 0), (some 2), none⟩] []) (.v 2) (.seq (.reg [⟨.mov (.c (.imm true 0 [])), (some 1), none⟩] [])
 (.ret))
 (.skip)
 (.seq (.reg [⟨.lit 3 1 [.int .i64 0] [] false false, none, none⟩, ⟨.mov (.v 0), none, none⟩, ⟨.app 3 1 8 (.l 0) (.l 1), none, none⟩, ⟨.mov (.l 2), (some 1), none⟩] [])
 (.ret))),
 [.t 1], false, true⟩
def m94 : List Nat := [0, 2, 4]

/-- loop.example/g00293/spec.l11put -/
def c98 : FC := ⟨3, 8, .seq (.reg [⟨.mov (.c (.int .i64 0)), (some 3), none⟩] [])
 (.seq (.block 0 (.loop (.seq (.seq (.reg [⟨.mov (.v 3), none, none⟩, ⟨.mov (.v 0), none, none⟩, ⟨.nilck (.l 1), none, none⟩, ⟨.fptr 2 (.l 2), none, none⟩, ⟨.load none (.l 3), none, none⟩, ⟨.len false (.l 4), none, none⟩, ⟨.bin .lss (.l 0) (.l 5), none, none⟩, ⟨.mov (.l 6), none, none⟩, ⟨.mov (.v 0), none, (some (7, true))⟩, ⟨.nilck (.l 8), none, (some (7, true))⟩, ⟨.fptr 2 (.l 9), none, (some (7, true))⟩, ⟨.load none (.l 10), none, (some (7, true))⟩, ⟨.mov (.v 3), none, (some (7, true))⟩, ⟨.iptr 2 (.l 11) (.l 12), none, (some (7, true))⟩, ⟨.fptr 0 (.l 13), none, (some (7, true))⟩, ⟨.load none (.l 14), none, (some (7, true))⟩, ⟨.mov (.v 1), none, (some (7, true))⟩, ⟨.bin .lss (.l 15) (.l 16), none, (some (7, true))⟩, ⟨.pick (.l 7) (.l 17) (.c (.bool false)), (some 5), none⟩] [])
 (.cond (.v 5) (.skip)
 (.exit 0)))
 (.block 1 (.reg [⟨.mov (.v 3), none, none⟩, ⟨.bin .add (.l 0) (.c (.int .i64 1)), none, none⟩, ⟨.mov (.l 1), (some 3), none⟩] [])))))
 (.seq (.seq (.reg [⟨.mov (.v 3), none, none⟩, ⟨.mov (.v 0), none, none⟩, ⟨.nilck (.l 1), none, none⟩, ⟨.fptr 2 (.l 2), none, none⟩, ⟨.load none (.l 3), none, none⟩, ⟨.len false (.l 4), none, none⟩, ⟨.bin .lss (.l 0) (.l 5), none, none⟩, ⟨.mov (.l 6), none, none⟩, ⟨.mov (.v 0), none, (some (7, true))⟩, ⟨.nilck (.l 8), none, (some (7, true))⟩, ⟨.fptr 2 (.l 9), none, (some (7, true))⟩, ⟨.load none (.l 10), none, (some (7, true))⟩, ⟨.mov (.v 3), none, (some (7, true))⟩, ⟨.iptr 2 (.l 11) (.l 12), none, (some (7, true))⟩, ⟨.fptr 0 (.l 13), none, (some (7, true))⟩, ⟨.load none (.l 14), none, (some (7, true))⟩, ⟨.mov (.v 1), none, (some (7, true))⟩, ⟨.bin .eql (.l 15) (.l 16), none, (some (7, true))⟩, ⟨.pick (.l 7) (.l 17) (.c (.bool false)), (some 6), none⟩] [])
 (.cond (.v 6) (.seq (.reg [⟨.mov (.v 0), none, none⟩, ⟨.nilck (.l 0), none, none⟩, ⟨.fptr 2 (.l 1), none, none⟩, ⟨.load none (.l 2), none, none⟩, ⟨.mov (.v 3), none, none⟩, ⟨.mov (.v 2), none, none⟩, ⟨.iptr 2 (.l 3) (.l 4), none, none⟩, ⟨.fptr 1 (.l 6), none, none⟩, ⟨.store 1 (.l 7) (.l 5), none, none⟩] [])
 (.ret))
 (.skip)))
 (.seq (.seq (.reg [⟨.mov (.v 0), none, none⟩, ⟨.nilck (.l 0), none, none⟩, ⟨.fptr 2 (.l 1), none, none⟩, ⟨.load none (.l 2), none, none⟩, ⟨.len false (.l 3), none, none⟩, ⟨.bin .geq (.l 4) (.c (.int .i64 20)), (some 7), none⟩] [])
 (.cond (.v 7) (.ret)
 (.skip)))
 (.seq (.reg [⟨.mov (.c (.imm true 0 [])), (some 4), none⟩] [])
 (.seq (.reg [⟨.mov (.v 4), none, none⟩, ⟨.mov (.v 0), none, none⟩, ⟨.nilck (.l 1), none, none⟩, ⟨.fptr 2 (.l 2), none, none⟩, ⟨.load none (.l 3), none, none⟩, ⟨.mov (.v 3), none, none⟩, ⟨.slice 2 (.l 4) none (some (.l 5)) none, none, none⟩, ⟨.app 113 2 16 (.l 0) (.l 6), none, none⟩, ⟨.mov (.l 7), (some 4), none⟩] [])
 (.seq (.reg [⟨.mov (.v 4), none, none⟩, ⟨.mov (.v 1), none, none⟩, ⟨.mov (.v 2), none, none⟩, ⟨.build [.int .i64 0, .int .i64 0] [(0, 1, .l 1), (1, 1, .l 2)], none, none⟩, ⟨.lit 113 2 [.int .i64 0, .int .i64 0] [(0, .l 3)] false true, none, none⟩, ⟨.app 113 2 16 (.l 0) (.l 4), none, none⟩, ⟨.mov (.l 5), (some 4), none⟩] [])
 (.reg [⟨.mov (.v 0), none, none⟩, ⟨.mov (.v 4), none, none⟩, ⟨.mov (.v 0), none, none⟩, ⟨.nilck (.l 2), none, none⟩, ⟨.fptr 2 (.l 3), none, none⟩, ⟨.load none (.l 4), none, none⟩, ⟨.mov (.v 3), none, none⟩, ⟨.slice 2 (.l 5) (some (.l 6)) none none, none, none⟩, ⟨.app 113 2 16 (.l 1) (.l 7), none, none⟩, ⟨.nilck (.l 0), none, none⟩, ⟨.fptr 2 (.l 9), none, none⟩, ⟨.store 1 (.l 10) (.l 8), none, none⟩] []))))))),
 [], false, true⟩
def m98 : List Nat := [0, 1, 2, 6, 7, 26, 47, 61]

/-- loop.example/g00293/spec.l1Byte -/
def c99 : FC := ⟨1, 4, .seq (.reg [⟨.mov (.c (.int .i64 0)), (some 1), none⟩] [])
 (.seq (.reg [⟨.mov (.v 0), none, none⟩, ⟨.mov (.v 0), none, none⟩, ⟨.nilck (.l 1), none, none⟩, ⟨.fptr 2 (.l 2), none, none⟩, ⟨.load none (.l 3), none, none⟩, ⟨.bin .mul (.l 4) (.c (.int .i64 6364136223846793005)), none, none⟩, ⟨.bin .add (.l 5) (.c (.int .i64 1442695040888963407)), none, none⟩, ⟨.nilck (.l 0), none, none⟩, ⟨.fptr 2 (.l 7), none, none⟩, ⟨.store 1 (.l 8) (.l 6), none, none⟩] [])
 (.seq (.reg [⟨.mov (.v 0), none, none⟩, ⟨.nilck (.l 0), none, none⟩, ⟨.fptr 2 (.l 1), none, none⟩, ⟨.load none (.l 2), none, none⟩, ⟨.bin .shr (.l 3) (.c (.int .u64 33)), none, none⟩, ⟨.mov (.v 0), none, none⟩, ⟨.nilck (.l 5), none, none⟩, ⟨.fptr 2 (.l 6), none, none⟩, ⟨.load none (.l 7), none, none⟩, ⟨.bin .shr (.l 8) (.c (.int .u64 45)), none, none⟩, ⟨.bin .xor (.l 4) (.l 9), none, none⟩, ⟨.bin .and (.l 10) (.c (.int .i64 255)), none, none⟩, ⟨.mov (.l 11), (some 2), none⟩] [])
 (.seq (.seq (.reg [⟨.mov (.v 0), none, none⟩, ⟨.nilck (.l 0), none, none⟩, ⟨.fptr 1 (.l 1), none, none⟩, ⟨.load none (.l 2), none, none⟩, ⟨.mov (.v 0), none, none⟩, ⟨.nilck (.l 4), none, none⟩, ⟨.fptr 0 (.l 5), none, none⟩, ⟨.load none (.l 6), none, none⟩, ⟨.len false (.l 7), none, none⟩, ⟨.bin .lss (.l 3) (.l 8), (some 3), none⟩] [])
 (.cond (.v 3) (.seq (.reg [⟨.mov (.v 2), none, none⟩, ⟨.mov (.v 0), none, none⟩, ⟨.nilck (.l 1), none, none⟩, ⟨.fptr 0 (.l 2), none, none⟩, ⟨.load none (.l 3), none, none⟩, ⟨.mov (.v 0), none, none⟩, ⟨.nilck (.l 5), none, none⟩, ⟨.fptr 1 (.l 6), none, none⟩, ⟨.load none (.l 7), none, none⟩, ⟨.iptr 1 (.l 4) (.l 8), none, none⟩, ⟨.load none (.l 9), none, none⟩, ⟨.conv .i64 (.l 10), none, none⟩, ⟨.bin .add (.l 0) (.l 11), none, none⟩, ⟨.bin .and (.l 12) (.c (.int .i64 255)), none, none⟩, ⟨.mov (.l 13), (some 2), none⟩] [])
 (.reg [⟨.mov (.v 0), none, none⟩, ⟨.mov (.v 0), none, none⟩, ⟨.nilck (.l 1), none, none⟩, ⟨.fptr 1 (.l 2), none, none⟩, ⟨.load none (.l 3), none, none⟩, ⟨.bin .add (.l 4) (.c (.int .i64 1)), none, none⟩, ⟨.nilck (.l 0), none, none⟩, ⟨.fptr 1 (.l 6), none, none⟩, ⟨.store 1 (.l 7) (.l 5), none, none⟩] []))
 (.skip)))
 (.seq (.reg [⟨.mov (.v 2), none, none⟩, ⟨.mov (.l 0), (some 1), none⟩] [])
 (.ret))))),
 [.t 1], false, false⟩
def m99 : List Nat := [0, 2, 3, 34]

/-- slices.Clone[[]loop.example/g00293/impl.Entry,loop.example/g00293/impl.Entry] -/
def c100 : FC := ⟨1, 3, .seq (.reg [⟨.mov (.c (.imm true 0 [])), (some 1), none⟩] [])
 (.alt (.reg [⟨.mov (.v 0), none, none⟩, ⟨.isnil 0 false (.l 0), (some 2), none⟩] []) (.v 2) (.seq (.reg [⟨.mov (.c (.imm true 0 [])), (some 1), none⟩] [])
 (.ret))
 (.skip)
 (.seq (.reg [⟨.lit 113 2 [.int .i64 0, .int .i64 0] [] false false, none, none⟩, ⟨.mov (.v 0), none, none⟩, ⟨.app 113 2 16 (.l 0) (.l 1), none, none⟩, ⟨.mov (.l 2), (some 1), none⟩] [])
 (.ret))),
 [.t 1], false, true⟩
def m100 : List Nat := [0, 2, 4]

/-- loop.example/g00293/impl.cloneEvents -/
def c101 : FC := ⟨1, 8, .seq (.reg [⟨.mov (.c (.imm true 0 [])), (some 1), none⟩] [])
 (.seq (.reg [⟨.lit 49 5 [.int .i64 0, .int .i64 0, .int .i64 0, .imm true 0 [], .int .i64 0] [] false false, none, none⟩, ⟨.mov (.l 0), (some 2), none⟩] [])
 (.seq (.seq (.reg [⟨.mov (.v 0), (some 4), none⟩, ⟨.len false (.l 0), (some 5), none⟩, ⟨.mov (.c (.int .i64 0)), (some 6), none⟩] [])
 (.block 0 (.loop (.seq (.reg [⟨.bin .lss (.v 6) (.v 5), (some 7), none⟩] [])
 (.seq (.cond (.v 7) (.skip)
 (.exit 0))
 (.seq (.block 1 (.seq (.reg [⟨.iptr 5 (.v 4) (.v 6), none, none⟩, ⟨.load (some 5) (.l 0), none, none⟩, ⟨.alloc 49 [.int .i64 0, .int .i64 0, .int .i64 0, .imm true 0 [], .int .i64 0], (some 3), none⟩, ⟨.store 5 (.l 2) (.l 1), none, none⟩] [])
 (.seq (.reg [⟨.fptr 3 (.v 3), none, none⟩, ⟨.load none (.l 0), none, none⟩, ⟨.call 102 [.l 1], none, none⟩, ⟨.fptr 3 (.v 3), none, none⟩, ⟨.store 1 (.l 3) (.l 2), none, none⟩] [])
 (.reg [⟨.mov (.v 2), none, none⟩, ⟨.load (some 5) (.v 3), none, none⟩, ⟨.lit 49 5 [.int .i64 0, .int .i64 0, .int .i64 0, .imm true 0 [], .int .i64 0] [(0, .l 1)] false true, none, none⟩, ⟨.app 49 5 56 (.l 0) (.l 2), none, none⟩, ⟨.mov (.l 3), (some 2), none⟩] []))))
 (.reg [⟨.bin .add (.v 6) (.c (.int .i64 1)), none, none⟩, ⟨.mov (.l 0), (some 6), none⟩] [])))))))
 (.seq (.reg [⟨.mov (.v 2), none, none⟩, ⟨.mov (.l 0), (some 1), none⟩] [])
 (.ret)))),
 [.t 1], false, true⟩
def m101 : List Nat := [0, 2, 3, 5, 7, 8, 9, 10]

/-- bytes.Clone -/
def c102 : FC := ⟨1, 3, .seq (.reg [⟨.mov (.c (.imm true 0 [])), (some 1), none⟩] [])
 (.alt (.reg [⟨.mov (.v 0), none, none⟩, ⟨.isnil 0 false (.l 0), (some 2), none⟩] []) (.v 2) (.seq (.reg [⟨.mov (.c (.imm true 0 [])), (some 1), none⟩] [])
 (.ret))
 (.skip)
 (.seq (.reg [⟨.lit 5 1 [.int .u8 0] [] false false, none, none⟩, ⟨.mov (.v 0), none, none⟩, ⟨.app 5 1 1 (.l 0) (.l 1), none, none⟩, ⟨.mov (.l 2), (some 1), none⟩] [])
 (.ret))),
 [.t 1], false, false⟩
def m102 : List Nat := [0, 2, 4]

/-- (*loop.example/g00293/impl.World).entry -/
def c103 : FC := ⟨2, 6, .seq (.reg [⟨.mov (.c (.int .i64 0)), (some 2), none⟩, ⟨.mov (.c (.bool false)), (some 3), none⟩] [])
 (.seq (.reg [⟨.mov (.c (.int .i64 0)), (some 4), none⟩] [])
 (.seq (.block 0 (.loop (.seq (.seq (.reg [⟨.mov (.v 4), none, none⟩, ⟨.mov (.v 0), none, none⟩, ⟨.nilck (.l 1), none, none⟩, ⟨.fptr 2 (.l 2), none, none⟩, ⟨.load none (.l 3), none, none⟩, ⟨.len false (.l 4), none, none⟩, ⟨.bin .lss (.l 0) (.l 5), none, none⟩, ⟨.mov (.l 6), none, none⟩, ⟨.mov (.v 0), none, (some (7, true))⟩, ⟨.nilck (.l 8), none, (some (7, true))⟩, ⟨.fptr 2 (.l 9), none, (some (7, true))⟩, ⟨.load none (.l 10), none, (some (7, true))⟩, ⟨.mov (.v 4), none, (some (7, true))⟩, ⟨.iptr 2 (.l 11) (.l 12), none, (some (7, true))⟩, ⟨.fptr 0 (.l 13), none, (some (7, true))⟩, ⟨.load none (.l 14), none, (some (7, true))⟩, ⟨.mov (.v 1), none, (some (7, true))⟩, ⟨.bin .lss (.l 15) (.l 16), none, (some (7, true))⟩, ⟨.pick (.l 7) (.l 17) (.c (.bool false)), (some 5), none⟩] [])
 (.cond (.v 5) (.skip)
 (.exit 0)))
 (.block 1 (.reg [⟨.mov (.v 4), none, none⟩, ⟨.bin .add (.l 0) (.c (.int .i64 1)), none, none⟩, ⟨.mov (.l 1), (some 4), none⟩] [])))))
 (.seq (.reg [⟨.mov (.v 4), none, none⟩, ⟨.mov (.v 4), none, none⟩, ⟨.mov (.v 0), none, none⟩, ⟨.nilck (.l 2), none, none⟩, ⟨.fptr 2 (.l 3), none, none⟩, ⟨.load none (.l 4), none, none⟩, ⟨.len false (.l 5), none, none⟩, ⟨.bin .lss (.l 1) (.l 6), none, none⟩, ⟨.mov (.l 7), none, none⟩, ⟨.mov (.v 0), none, (some (8, true))⟩, ⟨.nilck (.l 9), none, (some (8, true))⟩, ⟨.fptr 2 (.l 10), none, (some (8, true))⟩, ⟨.load none (.l 11), none, (some (8, true))⟩, ⟨.mov (.v 4), none, (some (8, true))⟩, ⟨.iptr 2 (.l 12) (.l 13), none, (some (8, true))⟩, ⟨.fptr 0 (.l 14), none, (some (8, true))⟩, ⟨.load none (.l 15), none, (some (8, true))⟩, ⟨.mov (.v 1), none, (some (8, true))⟩, ⟨.bin .eql (.l 16) (.l 17), none, (some (8, true))⟩, ⟨.pick (.l 8) (.l 18) (.c (.bool false)), none, none⟩, ⟨.mov (.l 0), (some 2), none⟩, ⟨.mov (.l 19), (some 3), none⟩] [])
 (.ret)))),
 [.t 2, .t 3], false, false⟩
def m103 : List Nat := [0, 1, 4, 5, 6, 25]

/-- (*loop.example/g00293/impl.World).put -/
def c104 : FC := ⟨3, 7, .seq (.reg [⟨.mov (.v 0), none, none⟩, ⟨.mov (.v 1), none, none⟩, ⟨.call 103 [.l 0, .l 1], none, none⟩, ⟨.mov (.l 2), none, none⟩, ⟨.ext (.l 3) 0, none, none⟩, ⟨.ext (.l 3) 1, none, none⟩, ⟨.mov (.l 4), (some 3), none⟩, ⟨.mov (.l 5), (some 4), none⟩] [])
 (.block 0 (.seq (.reg [⟨.mov (.v 4), none, none⟩, ⟨.mov (.l 0), (some 5), none⟩] [])
 (.cond (.v 5) (.reg [⟨.mov (.v 0), none, none⟩, ⟨.nilck (.l 0), none, none⟩, ⟨.fptr 2 (.l 1), none, none⟩, ⟨.load none (.l 2), none, none⟩, ⟨.mov (.v 3), none, none⟩, ⟨.mov (.v 2), none, none⟩, ⟨.iptr 2 (.l 3) (.l 4), none, none⟩, ⟨.fptr 1 (.l 6), none, none⟩, ⟨.store 1 (.l 7) (.l 5), none, none⟩] [])
 (.seq (.reg [⟨.mov (.v 0), none, none⟩, ⟨.nilck (.l 0), none, none⟩, ⟨.fptr 2 (.l 1), none, none⟩, ⟨.load none (.l 2), none, none⟩, ⟨.len false (.l 3), none, none⟩, ⟨.bin .lss (.l 4) (.c (.int .i64 20)), none, none⟩, ⟨.mov (.l 5), (some 6), none⟩] [])
 (.cond (.v 6) (.reg [⟨.mov (.v 0), none, none⟩, ⟨.mov (.v 0), none, none⟩, ⟨.nilck (.l 1), none, none⟩, ⟨.fptr 2 (.l 2), none, none⟩, ⟨.load none (.l 3), none, none⟩, ⟨.mov (.v 3), none, none⟩, ⟨.mov (.v 1), none, none⟩, ⟨.mov (.v 2), none, none⟩, ⟨.build [.int .i64 0, .int .i64 0] [(0, 1, .l 6), (1, 1, .l 7)], none, none⟩, ⟨.lit 113 2 [.int .i64 0, .int .i64 0] [(0, .l 8)] false true, none, none⟩, ⟨.call 151 [.l 4, .l 5, .l 9], none, none⟩, ⟨.nilck (.l 0), none, none⟩, ⟨.fptr 2 (.l 11), none, none⟩, ⟨.store 1 (.l 12) (.l 10), none, none⟩] [])
 (.skip)))))),
 [], false, true⟩
def m104 : List Nat := [0, 1, 2, 6, 7, 14, 24]

/-- loop.example/g00293/impl.Wrap -/
def c105 : FC := ⟨1, 2, .seq (.reg [⟨.mov (.c (.int .i64 0)), (some 1), none⟩] [])
 (.seq (.reg [⟨.mov (.v 0), none, none⟩, ⟨.bin .shl (.l 0) (.c (.int .u64 1)), none, none⟩, ⟨.bin .shr (.l 1) (.c (.int .u64 1)), none, none⟩, ⟨.mov (.l 2), (some 1), none⟩] [])
 (.ret)),
 [.t 1], false, false⟩
def m105 : List Nat := [0, 2]

/-- slices.IndexFunc[[]int,int] -/
def c106 : FC := ⟨2, 8, .seq (.reg [⟨.mov (.c (.int .i64 0)), (some 2), none⟩] [])
 (.seq (.seq (.reg [⟨.mov (.v 0), none, none⟩, ⟨.len false (.l 0), (some 4), none⟩, ⟨.mov (.c (.int .i64 0)), (some 5), none⟩] [])
 (.block 0 (.loop (.seq (.reg [⟨.bin .lss (.v 5) (.v 4), (some 6), none⟩] [])
 (.seq (.cond (.v 6) (.skip)
 (.exit 0))
 (.seq (.block 1 (.seq (.reg [⟨.mov (.v 5), none, none⟩, ⟨.mov (.l 0), (some 3), none⟩] [])
 (.seq (.reg [⟨.mov (.v 1), none, none⟩, ⟨.mov (.v 0), none, none⟩, ⟨.mov (.v 3), none, none⟩, ⟨.iptr 1 (.l 1) (.l 2), none, none⟩, ⟨.load none (.l 3), none, none⟩, ⟨.callv (.l 0) [.l 4], (some 7), none⟩] [])
 (.cond (.v 7) (.seq (.reg [⟨.mov (.v 3), none, none⟩, ⟨.mov (.l 0), (some 2), none⟩] [])
 (.ret))
 (.skip)))))
 (.reg [⟨.bin .add (.v 5) (.c (.int .i64 1)), none, none⟩, ⟨.mov (.l 0), (some 5), none⟩] [])))))))
 (.seq (.reg [⟨.mov (.c (.int .i64 (-1))), (some 2), none⟩] [])
 (.ret))),
 [.t 2], false, false⟩
def m106 : List Nat := [0, 1, 4, 5, 7, 8, 9, 16]

/-- loop.example/g00293/laws.sameBytes -/
def c107 : FC := ⟨2, 3, .seq (.reg [⟨.mov (.c (.bool false)), (some 2), none⟩] [])
 (.seq (.reg [⟨.mov (.v 0), none, none⟩, ⟨.b2s (.l 0), none, none⟩, ⟨.mov (.v 1), none, none⟩, ⟨.b2s (.l 2), none, none⟩, ⟨.bin .eql (.l 1) (.l 3), none, none⟩, ⟨.mov (.l 4), (some 2), none⟩] [])
 (.ret)),
 [.t 2], false, false⟩
def m107 : List Nat := [0, 1, 4]

theorem p4 : Fit Try.prog 4 c4 := ⟨Try.f4, m4, by kernel_rfl, by kernel_rfl⟩
theorem p16 : Fit Try.prog 16 c16 := ⟨Try.f16, m16, by kernel_rfl, by kernel_rfl⟩
theorem p17 : Fit Try.prog 17 c17 := ⟨Try.f17, m17, by kernel_rfl, by kernel_rfl⟩
theorem p18 : Fit Try.prog 18 c18 := ⟨Try.f18, m18, by kernel_rfl, by kernel_rfl⟩
theorem p19 : Fit Try.prog 19 c19 := ⟨Try.f19, m19, by kernel_rfl, by kernel_rfl⟩
theorem p20 : Fit Try.prog 20 c20 := ⟨Try.f20, m20, by kernel_rfl, by kernel_rfl⟩
theorem p21 : Fit Try.prog 21 c21 := ⟨Try.f21, m21, by kernel_rfl, by kernel_rfl⟩
theorem p36 : Fit Try.prog 36 c36 := ⟨Try.f36, m36, by kernel_rfl, by kernel_rfl⟩
theorem p39 : Fit Try.prog 39 c39 := ⟨Try.f39, m39, by kernel_rfl, by kernel_rfl⟩
theorem p47 : Fit Try.prog 47 c47 := ⟨Try.f47, m47, by kernel_rfl, by kernel_rfl⟩
theorem p48 : Fit Try.prog 48 c48 := ⟨Try.f48, m48, by kernel_rfl, by kernel_rfl⟩
theorem p49 : Fit Try.prog 49 c49 := ⟨Try.f49, m49, by kernel_rfl, by kernel_rfl⟩
theorem p50 : Fit Try.prog 50 c50 := ⟨Try.f50, m50, by kernel_rfl, by kernel_rfl⟩
theorem p51 : Fit Try.prog 51 c51 := ⟨Try.f51, m51, by kernel_rfl, by kernel_rfl⟩
theorem p52 : Fit Try.prog 52 c52 := ⟨Try.f52, m52, by kernel_rfl, by kernel_rfl⟩
theorem p53 : Fit Try.prog 53 c53 := ⟨Try.f53, m53, by kernel_rfl, by kernel_rfl⟩
theorem p54 : Fit Try.prog 54 c54 := ⟨Try.f54, m54, by kernel_rfl, by kernel_rfl⟩
theorem p55 : Fit Try.prog 55 c55 := ⟨Try.f55, m55, by kernel_rfl, by kernel_rfl⟩
theorem p56 : Fit Try.prog 56 c56 := ⟨Try.f56, m56, by kernel_rfl, by kernel_rfl⟩
theorem p57 : Fit Try.prog 57 c57 := ⟨Try.f57, m57, by kernel_rfl, by kernel_rfl⟩
theorem p58 : Fit Try.prog 58 c58 := ⟨Try.f58, m58, by kernel_rfl, by kernel_rfl⟩
theorem p59 : Fit Try.prog 59 c59 := ⟨Try.f59, m59, by kernel_rfl, by kernel_rfl⟩
theorem p60 : Fit Try.prog 60 c60 := ⟨Try.f60, m60, by kernel_rfl, by kernel_rfl⟩
theorem p93 : Fit Try.prog 93 c93 := ⟨Try.f93, m93, by kernel_rfl, by kernel_rfl⟩
theorem p94 : Fit Try.prog 94 c94 := ⟨Try.f94, m94, by kernel_rfl, by kernel_rfl⟩
theorem p98 : Fit Try.prog 98 c98 := ⟨Try.f98, m98, by kernel_rfl, by kernel_rfl⟩
theorem p99 : Fit Try.prog 99 c99 := ⟨Try.f99, m99, by kernel_rfl, by kernel_rfl⟩
theorem p100 : Fit Try.prog 100 c100 := ⟨Try.f100, m100, by kernel_rfl, by kernel_rfl⟩
theorem p101 : Fit Try.prog 101 c101 := ⟨Try.f101, m101, by kernel_rfl, by kernel_rfl⟩
theorem p102 : Fit Try.prog 102 c102 := ⟨Try.f102, m102, by kernel_rfl, by kernel_rfl⟩
theorem p103 : Fit Try.prog 103 c103 := ⟨Try.f103, m103, by kernel_rfl, by kernel_rfl⟩
theorem p104 : Fit Try.prog 104 c104 := ⟨Try.f104, m104, by kernel_rfl, by kernel_rfl⟩
theorem p105 : Fit Try.prog 105 c105 := ⟨Try.f105, m105, by kernel_rfl, by kernel_rfl⟩
theorem p106 : Fit Try.prog 106 c106 := ⟨Try.f106, m106, by kernel_rfl, by kernel_rfl⟩
theorem p107 : Fit Try.prog 107 c107 := ⟨Try.f107, m107, by kernel_rfl, by kernel_rfl⟩
def tbl : List (Nat × FC) := [(4, c4), (16, c16), (17, c17), (18, c18), (19, c19), (20, c20), (21, c21), (36, c36), (39, c39), (47, c47), (48, c48), (49, c49), (50, c50), (51, c51), (52, c52), (53, c53), (54, c54), (55, c55), (56, c56), (57, c57), (58, c58), (59, c59), (60, c60), (93, c93), (94, c94), (98, c98), (99, c99), (100, c100), (101, c101), (102, c102), (103, c103), (104, c104), (105, c105), (106, c106), (107, c107)]
theorem tbl_fits : FitL Try.prog tbl := FitL.cons p4 (FitL.cons p16 (FitL.cons p17 (FitL.cons p18 (FitL.cons p19 (FitL.cons p20 (FitL.cons p21 (FitL.cons p36 (FitL.cons p39 (FitL.cons p47 (FitL.cons p48 (FitL.cons p49 (FitL.cons p50 (FitL.cons p51 (FitL.cons p52 (FitL.cons p53 (FitL.cons p54 (FitL.cons p55 (FitL.cons p56 (FitL.cons p57 (FitL.cons p58 (FitL.cons p59 (FitL.cons p60 (FitL.cons p93 (FitL.cons p94 (FitL.cons p98 (FitL.cons p99 (FitL.cons p100 (FitL.cons p101 (FitL.cons p102 (FitL.cons p103 (FitL.cons p104 (FitL.cons p105 (FitL.cons p106 (FitL.cons p107 (FitL.nil)))))))))))))))))))))))))))))))))))
end Go.Proofs.Ythogcanomihelaa.Gw
