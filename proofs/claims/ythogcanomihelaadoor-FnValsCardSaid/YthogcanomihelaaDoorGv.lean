/- MADE BY PROGRAM (gen.py): what each function of the program does, in the evaluator's words, each held against the program's text by the kernel. -/
import Derived.Test.YthogcanomihelaaDoorAe17
import Derived.Test.YthogcanomihelaaDoorChecked
import Derived.KernelRfl
import Derived.Test.YthogcanomihelaaDoorPr
set_option linter.unusedSimpArgs false
set_option linter.unusedVariables false
namespace Go.Proofs.YthogcanomihelaaDoor.Gv
open Go Go.Proofs Go.Proofs.YthogcanomihelaaDoor.Ae
/-- loop.example/g00293/laws.FnVals -/
def c3 : FC := ⟨1, 7, .seq (.reg [⟨.mov (.c (.bool false)), (some 1), none⟩] [])
 (.seq (.reg [⟨.mov (.v 0), none, none⟩, ⟨.call 5 [.l 0], none, none⟩, ⟨.mov (.l 1), none, none⟩, ⟨.ext (.l 2) 0, none, none⟩, ⟨.ext (.l 2) 1, none, none⟩, ⟨.alloc 25 [.int .i64 0, .int .i64 0, .imm true 0 [], .imm true 0 []], (some 2), none⟩, ⟨.store 4 (.l 5) (.l 3), none, none⟩, ⟨.mov (.l 4), (some 3), none⟩] [])
 (.seq (.reg [⟨.load (some 4) (.v 2), none, none⟩, ⟨.mov (.v 3), none, none⟩, ⟨.call 6 [.l 0, .l 1], none, none⟩, ⟨.mov (.l 2), (some 4), none⟩] [])
 (.seq (.reg [⟨.mov (.c (.imm true 0 [])), (some 5), none⟩] [])
 (.seq (.reg [⟨.mov (.v 5), none, none⟩, ⟨.mov (.v 3), none, none⟩, ⟨.app 25 4 64 (.l 0) (.l 1), none, none⟩, ⟨.mov (.l 2), (some 5), none⟩] [])
 (.seq (.seq (.reg [⟨.mov (.v 3), none, none⟩, ⟨.len false (.l 0), none, none⟩, ⟨.bin .lss (.l 1) (.c (.int .i64 5)), (some 6), none⟩] [])
 (.cond (.v 6) (.seq (.reg [⟨.build [.int .i64 0, .int .i64 0, .imm true 0 [], .imm true 0 []] [(0, 1, .c (.int .i64 1)), (1, 1, .c (.int .i64 (-7)))], none, none⟩, ⟨.call 6 [.l 0, .c (.imm true 0 [])], none, none⟩, ⟨.len false (.l 1), none, none⟩, ⟨.bin .eql (.l 2) (.c (.int .i64 2)), none, none⟩, ⟨.mov (.l 3), none, none⟩, ⟨.mov (.v 4), none, (some (4, true))⟩, ⟨.len false (.l 5), none, (some (4, true))⟩, ⟨.bin .leq (.l 6) (.c (.int .i64 30000)), none, (some (4, true))⟩, ⟨.pick (.l 4) (.l 7) (.c (.bool false)), none, none⟩, ⟨.mov (.l 8), (some 1), none⟩] [])
 (.ret))
 (.skip)))
 (.seq (.reg [⟨.mov (.v 5), none, none⟩, ⟨.build [.int .i64 0, .int .i64 0, .imm true 0 [], .imm true 0 []] [], none, none⟩, ⟨.lit 25 4 [.int .i64 0, .int .i64 0, .imm true 0 [], .imm true 0 []] [(0, .l 1)] false true, none, none⟩, ⟨.app 25 4 64 (.l 0) (.l 2), none, none⟩, ⟨.mov (.l 3), (some 5), none⟩] [])
 (.seq (.reg [⟨.mov (.v 4), none, none⟩, ⟨.load (some 4) (.v 2), none, none⟩, ⟨.mov (.v 5), none, none⟩, ⟨.call 6 [.l 1, .l 2], none, none⟩, ⟨.call 7 [.l 0, .l 3], none, none⟩, ⟨.mov (.l 4), (some 1), none⟩] [])
 (.ret)))))))),
 [.t 1], false, false⟩
def m3 : List Nat := [0, 2, 3, 4, 5, 6, 20]

/-- loop.example/g00293/spec.DrawShowVal -/
def c5 : FC := ⟨1, 13, .seq (.reg [⟨.alloc 25 [.int .i64 0, .int .i64 0, .imm true 0 [], .imm true 0 []], (some 1), none⟩, ⟨.mov (.c (.imm true 0 [])), (some 2), none⟩] [])
 (.seq (.reg [⟨.mov (.v 0), none, none⟩, ⟨.call 20 [.l 0], none, none⟩, ⟨.mov (.l 1), (some 3), none⟩] [])
 (.seq (.reg [⟨.mov (.c (.imm true 0 [])), (some 4), none⟩] [])
 (.seq (.reg [⟨.mov (.v 3), none, none⟩, ⟨.call 21 [.l 0, .c (.int .i64 4)], none, none⟩, ⟨.mov (.l 1), (some 5), none⟩] [])
 (.seq (.seq (.reg [⟨.mov (.c (.int .i64 0)), (some 6), none⟩] [])
 (.block 0 (.loop (.seq (.seq (.reg [⟨.mov (.v 6), none, none⟩, ⟨.mov (.v 5), none, none⟩, ⟨.bin .lss (.l 0) (.l 1), (some 10), none⟩] [])
 (.cond (.v 10) (.skip)
 (.exit 0)))
 (.seq (.block 1 (.reg [⟨.mov (.v 4), none, none⟩, ⟨.mov (.v 3), none, none⟩, ⟨.call 22 [.l 1, .c (.int .i64 2)], none, none⟩, ⟨.lit 25 4 [.int .i64 0, .int .i64 0, .imm true 0 [], .imm true 0 []] [(0, .l 2)] false true, none, none⟩, ⟨.app 25 4 64 (.l 0) (.l 3), none, none⟩, ⟨.mov (.l 4), (some 4), none⟩] []))
 (.reg [⟨.mov (.v 6), none, none⟩, ⟨.bin .add (.l 0) (.c (.int .i64 1)), none, none⟩, ⟨.mov (.l 1), (some 6), none⟩] []))))))
 (.seq (.reg [⟨.mov (.v 3), none, none⟩, ⟨.call 22 [.l 0, .c (.int .i64 3)], none, none⟩, ⟨.alloc 25 [.int .i64 0, .int .i64 0, .imm true 0 [], .imm true 0 []], (some 7), none⟩, ⟨.store 4 (.l 2) (.l 1), none, none⟩] [])
 (.seq (.seq (.reg [⟨.mov (.v 3), none, none⟩, ⟨.call 23 [.l 0, .c (.int .i64 4)], (some 11), none⟩] [])
 (.cond (.v 11) (.seq (.reg [⟨.mov (.v 3), none, none⟩, ⟨.call 21 [.l 0, .c (.int .i64 10)], none, none⟩, ⟨.mov (.l 1), (some 8), none⟩] [])
 (.seq (.reg [⟨.mov (.c (.int .i64 0)), (some 9), none⟩] [])
 (.block 2 (.loop (.seq (.seq (.reg [⟨.mov (.v 9), none, none⟩, ⟨.mov (.v 8), none, none⟩, ⟨.bin .lss (.l 0) (.l 1), (some 12), none⟩] [])
 (.cond (.v 12) (.skip)
 (.exit 2)))
 (.seq (.block 3 (.reg [⟨.load (some 4) (.v 7), none, none⟩, ⟨.lit 25 4 [.int .i64 0, .int .i64 0, .imm true 0 [], .imm true 0 []] [(0, .l 0)] false true, none, none⟩, ⟨.build [.int .i64 0, .int .i64 0, .imm true 0 [], .imm true 0 []] [(0, 1, .c (.int .i64 3)), (3, 1, .l 1)], none, none⟩, ⟨.store 4 (.v 7) (.l 2), none, none⟩] []))
 (.reg [⟨.mov (.v 9), none, none⟩, ⟨.bin .add (.l 0) (.c (.int .i64 1)), none, none⟩, ⟨.mov (.l 1), (some 9), none⟩] [])))))))
 (.skip)))
 (.seq (.reg [⟨.load (some 4) (.v 7), none, none⟩, ⟨.mov (.v 4), none, none⟩, ⟨.store 4 (.v 1) (.l 0), none, none⟩, ⟨.mov (.l 1), (some 2), none⟩] [])
 (.ret)))))))),
 [.cl (some 4) 1, .t 2], false, false⟩
def m5 : List Nat := [0, 2, 3, 4, 5, 6, 7, 8, 9, 10, 17, 28, 33]

/-- loop.example/g00293/impl.ShowVal -/
def c6 : FC := ⟨2, 5, .seq (.reg [⟨.box 25 4 (.v 0), (some 2), none⟩, ⟨.mov (.c (.imm true 0 [])), (some 3), none⟩] [])
 (.seq (.reg [⟨.build [.imm true 0 []] [], none, none⟩, ⟨.alloc 50 [.imm true 0 []], (some 4), none⟩, ⟨.store 1 (.l 1) (.l 0), none, none⟩] [])
 (.seq (.reg [⟨.mov (.v 1), none, none⟩, ⟨.call 24 [.v 4, .v 2, .l 0, .c (.int .i64 0)], none, none⟩] [])
 (.seq (.reg [⟨.call 26 [.v 4], none, none⟩, ⟨.call 25 [.l 0], none, none⟩, ⟨.mov (.l 1), (some 3), none⟩] [])
 (.ret)))),
 [.t 3], false, false⟩
def m6 : List Nat := [0, 1, 2, 4, 5]

/-- loop.example/g00293/laws.sameBytes -/
def c7 : FC := ⟨2, 3, .seq (.reg [⟨.mov (.c (.bool false)), (some 2), none⟩] [])
 (.seq (.reg [⟨.mov (.v 0), none, none⟩, ⟨.b2s (.l 0), none, none⟩, ⟨.mov (.v 1), none, none⟩, ⟨.b2s (.l 2), none, none⟩, ⟨.bin .eql (.l 1) (.l 3), none, none⟩, ⟨.mov (.l 4), (some 2), none⟩] [])
 (.ret)),
 [.t 2], false, false⟩
def m7 : List Nat := [0, 1, 4]

/-- loop.example/g00293/spec.l1New -/
def c20 : FC := ⟨1, 5, .seq (.reg [⟨.mov (.c (.nilp)), (some 1), none⟩] [])
 (.seq (.reg [⟨.mov (.v 0), none, none⟩, ⟨.len false (.l 0), none, none⟩, ⟨.bin .add (.c (.int .i64 29393)) (.l 1), none, none⟩, ⟨.mov (.l 2), (some 2), none⟩] [])
 (.seq (.seq (.reg [⟨.mov (.c (.int .i64 0)), (some 3), none⟩] [])
 (.block 0 (.loop (.seq (.seq (.reg [⟨.mov (.v 3), none, none⟩, ⟨.mov (.v 0), none, none⟩, ⟨.len false (.l 1), none, none⟩, ⟨.bin .lss (.l 0) (.l 2), none, none⟩, ⟨.mov (.l 3), none, none⟩, ⟨.mov (.v 3), none, (some (4, true))⟩, ⟨.bin .lss (.l 5) (.c (.int .i64 4000)), none, (some (4, true))⟩, ⟨.pick (.l 4) (.l 6) (.c (.bool false)), (some 4), none⟩] [])
 (.cond (.v 4) (.skip)
 (.exit 0)))
 (.seq (.block 1 (.reg [⟨.mov (.v 2), none, none⟩, ⟨.bin .mul (.l 0) (.c (.int .i64 131)), none, none⟩, ⟨.mov (.v 0), none, none⟩, ⟨.mov (.v 3), none, none⟩, ⟨.iptr 1 (.l 2) (.l 3), none, none⟩, ⟨.load none (.l 4), none, none⟩, ⟨.conv .i64 (.l 5), none, none⟩, ⟨.bin .add (.l 1) (.l 6), none, none⟩, ⟨.bin .add (.l 7) (.c (.int .i64 7)), none, none⟩, ⟨.bin .and (.l 8) (.c (.int .i64 1073741823)), none, none⟩, ⟨.mov (.l 9), (some 2), none⟩] []))
 (.reg [⟨.mov (.v 3), none, none⟩, ⟨.bin .add (.l 0) (.c (.int .i64 1)), none, none⟩, ⟨.mov (.l 1), (some 3), none⟩] []))))))
 (.seq (.reg [⟨.mov (.v 0), none, none⟩, ⟨.mov (.v 2), none, none⟩, ⟨.build [.imm true 0 [], .int .i64 0, .int .i64 0] [(0, 1, .l 0), (2, 1, .l 1)], none, none⟩, ⟨.box 58 3 (.l 2), none, none⟩, ⟨.mov (.l 3), (some 1), none⟩] [])
 (.ret)))),
 [.t 1], false, true⟩
def m20 : List Nat := [0, 2, 3, 4, 15]

/-- loop.example/g00293/spec.l1Below -/
def c21 : FC := ⟨2, 9, .seq (.reg [⟨.mov (.c (.int .i64 0)), (some 2), none⟩] [])
 (.seq (.seq (.reg [⟨.mov (.v 1), none, none⟩, ⟨.bin .leq (.l 0) (.c (.int .i64 0)), (some 7), none⟩] [])
 (.cond (.v 7) (.seq (.reg [⟨.mov (.c (.int .i64 0)), (some 2), none⟩] [])
 (.ret))
 (.skip)))
 (.seq (.seq (.reg [⟨.mov (.v 1), none, none⟩, ⟨.bin .leq (.l 0) (.c (.int .i64 256)), (some 8), none⟩] [])
 (.cond (.v 8) (.seq (.reg [⟨.mov (.v 0), none, none⟩, ⟨.call 31 [.l 0], none, none⟩, ⟨.mov (.v 1), none, none⟩, ⟨.bin .rem (.l 1) (.l 2), none, none⟩, ⟨.mov (.l 3), (some 2), none⟩] [])
 (.ret))
 (.skip)))
 (.seq (.reg [⟨.mov (.v 0), none, none⟩, ⟨.call 31 [.l 0], none, none⟩, ⟨.mov (.l 1), (some 3), none⟩] [])
 (.seq (.reg [⟨.mov (.v 0), none, none⟩, ⟨.call 31 [.l 0], none, none⟩, ⟨.mov (.l 1), (some 4), none⟩] [])
 (.seq (.reg [⟨.mov (.v 0), none, none⟩, ⟨.call 31 [.l 0], none, none⟩, ⟨.mov (.l 1), (some 5), none⟩] [])
 (.seq (.reg [⟨.mov (.v 0), none, none⟩, ⟨.call 31 [.l 0], none, none⟩, ⟨.mov (.l 1), (some 6), none⟩] [])
 (.seq (.reg [⟨.mov (.v 3), none, none⟩, ⟨.bin .mul (.l 0) (.c (.int .i64 16777216)), none, none⟩, ⟨.mov (.v 4), none, none⟩, ⟨.bin .mul (.l 2) (.c (.int .i64 65536)), none, none⟩, ⟨.bin .add (.l 1) (.l 3), none, none⟩, ⟨.mov (.v 5), none, none⟩, ⟨.bin .mul (.l 5) (.c (.int .i64 256)), none, none⟩, ⟨.bin .add (.l 4) (.l 6), none, none⟩, ⟨.mov (.v 6), none, none⟩, ⟨.bin .add (.l 7) (.l 8), none, none⟩, ⟨.mov (.v 1), none, none⟩, ⟨.bin .rem (.l 9) (.l 10), none, none⟩, ⟨.mov (.l 11), (some 2), none⟩] [])
 (.ret)))))))),
 [.t 2], false, false⟩
def m21 : List Nat := [0, 1, 4, 5, 6, 7, 8, 10, 12]

/-- loop.example/g00293/spec.l14val -/
def c22 : FC := ⟨2, 9, .seq (.reg [⟨.alloc 25 [.int .i64 0, .int .i64 0, .imm true 0 [], .imm true 0 []], (some 2), none⟩] [])
 (.seq (.reg [⟨.mov (.v 0), none, none⟩, ⟨.call 21 [.l 0, .c (.int .i64 7)], none, none⟩, ⟨.mov (.v 0), none, none⟩, ⟨.call 21 [.l 2, .c (.int .i64 5)], none, none⟩, ⟨.build [.int .i64 0, .int .i64 0, .imm true 0 [], .imm true 0 []] [(0, 1, .l 1), (1, 1, .l 3)], none, none⟩, ⟨.alloc 25 [.int .i64 0, .int .i64 0, .imm true 0 [], .imm true 0 []], (some 3), none⟩, ⟨.store 4 (.l 5) (.l 4), none, none⟩] [])
 (.seq (.seq (.reg [⟨.mov (.v 0), none, none⟩, ⟨.call 23 [.l 0, .c (.int .i64 20)], (some 6), none⟩] [])
 (.cond (.v 6) (.seq (.reg [⟨.mov (.v 0), none, none⟩, ⟨.lit 3 1 [.int .i64 0] [(0, .c (.int .i64 (-1))), (1, .c (.int .i64 7)), (2, .c (.int .i64 9))] false false, none, none⟩, ⟨.call 32 [.l 0, .l 1], none, none⟩, ⟨.fptr 0 (.v 3), none, none⟩, ⟨.store 1 (.l 3) (.l 2), none, none⟩] [])
 (.reg [⟨.mov (.v 0), none, none⟩, ⟨.call 33 [.l 0], none, none⟩, ⟨.fptr 1 (.v 3), none, none⟩, ⟨.store 1 (.l 2) (.l 1), none, none⟩] []))
 (.skip)))
 (.seq (.seq (.reg [⟨.fptr 0 (.v 3), none, none⟩, ⟨.load none (.l 0), none, none⟩, ⟨.bin .eql (.l 1) (.c (.int .i64 2)), (some 7), none⟩] [])
 (.cond (.v 7) (.reg [⟨.mov (.v 0), none, none⟩, ⟨.call 34 [.l 0, .c (.int .i64 5)], none, none⟩, ⟨.fptr 2 (.v 3), none, none⟩, ⟨.store 1 (.l 2) (.l 1), none, none⟩] [])
 (.skip)))
 (.seq (.reg [⟨.mov (.v 0), none, none⟩, ⟨.call 21 [.l 0, .c (.int .i64 4)], none, none⟩, ⟨.mov (.l 1), (some 4), none⟩] [])
 (.seq (.seq (.reg [⟨.mov (.c (.int .i64 0)), (some 5), none⟩] [])
 (.block 0 (.loop (.seq (.seq (.reg [⟨.mov (.v 5), none, none⟩, ⟨.mov (.v 4), none, none⟩, ⟨.bin .lss (.l 0) (.l 1), none, none⟩, ⟨.mov (.l 2), none, none⟩, ⟨.mov (.v 1), none, (some (3, true))⟩, ⟨.bin .gtr (.l 4) (.c (.int .i64 0)), none, (some (3, true))⟩, ⟨.pick (.l 3) (.l 5) (.c (.bool false)), (some 8), none⟩] [])
 (.cond (.v 8) (.skip)
 (.exit 0)))
 (.seq (.block 1 (.reg [⟨.fptr 3 (.v 3), none, none⟩, ⟨.load none (.l 0), none, none⟩, ⟨.mov (.v 0), none, none⟩, ⟨.mov (.v 1), none, none⟩, ⟨.bin .sub (.l 3) (.c (.int .i64 1)), none, none⟩, ⟨.call 22 [.l 2, .l 4], none, none⟩, ⟨.lit 25 4 [.int .i64 0, .int .i64 0, .imm true 0 [], .imm true 0 []] [(0, .l 5)] false true, none, none⟩, ⟨.app 25 4 64 (.l 1) (.l 6), none, none⟩, ⟨.fptr 3 (.v 3), none, none⟩, ⟨.store 1 (.l 8) (.l 7), none, none⟩] [(1, 6), (1, 7)]))
 (.reg [⟨.mov (.v 5), none, none⟩, ⟨.bin .add (.l 0) (.c (.int .i64 1)), none, none⟩, ⟨.mov (.l 1), (some 5), none⟩] []))))))
 (.seq (.reg [⟨.load (some 4) (.v 3), none, none⟩, ⟨.store 4 (.v 2) (.l 0), none, none⟩] [])
 (.ret))))))),
 [.cl (some 4) 2], false, false⟩
def m22 : List Nat := [0, 1, 4, 5, 6, 7, 14, 24, 36]

/-- loop.example/g00293/spec.l1Once -/
def c23 : FC := ⟨2, 3, .seq (.reg [⟨.mov (.c (.bool false)), (some 2), none⟩] [])
 (.seq (.reg [⟨.mov (.v 0), none, none⟩, ⟨.mov (.v 1), none, none⟩, ⟨.call 21 [.l 0, .l 1], none, none⟩, ⟨.bin .eql (.l 2) (.c (.int .i64 0)), none, none⟩, ⟨.mov (.l 3), (some 2), none⟩] [])
 (.ret)),
 [.t 2], false, false⟩
def m23 : List Nat := [0, 1, 4]

/-- loop.example/g00293/impl.showVal -/
def c24 : FC := ⟨4, 15, .seq (.reg [⟨.box 52 1 (.v 0), (some 4), none⟩, ⟨.box 23 1 (.v 2), (some 5), none⟩, ⟨.box 3 1 (.v 3), (some 6), none⟩, ⟨.mov (.c (.bool false)), (some 7), none⟩] [])
 (.seq (.seq (.reg [⟨.mov (.v 1), none, none⟩, ⟨.nilck (.l 0), none, none⟩, ⟨.fptr 0 (.l 1), none, none⟩, ⟨.load none (.l 2), none, none⟩, ⟨.mov (.v 1), none, none⟩, ⟨.nilck (.l 4), none, none⟩, ⟨.fptr 1 (.l 5), none, none⟩, ⟨.load none (.l 6), none, none⟩, ⟨.mov (.v 1), none, none⟩, ⟨.nilck (.l 8), none, none⟩, ⟨.fptr 2 (.l 9), none, none⟩, ⟨.load none (.l 10), none, none⟩, ⟨.call 35 [.l 3, .l 7, .l 11], none, none⟩, ⟨.mov (.l 12), none, none⟩, ⟨.ext (.l 13) 0, none, none⟩, ⟨.ext (.l 13) 1, none, none⟩, ⟨.mov (.l 14), (some 8), none⟩, ⟨.mov (.l 15), (some 9), none⟩] [])
 (.seq (.reg [⟨.mov (.v 9), (some 11), none⟩] [])
 (.cond (.v 11) (.seq (.reg [⟨.load none (.v 4), none, none⟩, ⟨.mov (.v 8), none, none⟩, ⟨.call 36 [.l 0, .l 1], none, none⟩, ⟨.mov (.l 2), (some 7), none⟩] [])
 (.ret))
 (.skip))))
 (.seq (.seq (.reg [⟨.load none (.v 6), none, none⟩, ⟨.bin .eql (.l 0) (.c (.int .i64 8)), (some 12), none⟩] [])
 (.cond (.v 12) (.seq (.reg [⟨.load none (.v 4), none, none⟩, ⟨.call 36 [.l 0, .c (.str ⟨#[46, 46]⟩)], none, none⟩, ⟨.mov (.l 1), (some 7), none⟩] [])
 (.ret))
 (.skip)))
 (.seq (.reg [⟨.mov (.v 1), none, none⟩, ⟨.nilck (.l 0), none, none⟩, ⟨.fptr 3 (.l 1), none, none⟩, ⟨.load none (.l 2), none, none⟩, ⟨.alloc 23 [.imm true 0 []], (some 10), none⟩, ⟨.store 1 (.l 4) (.l 3), none, none⟩] [])
 (.seq (.seq (.reg [⟨.mov (.v 1), none, none⟩, ⟨.nilck (.l 0), none, none⟩, ⟨.fptr 0 (.l 1), none, none⟩, ⟨.load none (.l 2), none, none⟩, ⟨.bin .eql (.l 3) (.c (.int .i64 5)), (some 13), none⟩] [])
 (.cond (.v 13) (.seq (.reg [⟨.store 1 (.v 10) (.c (.imm true 0 [])), none, none⟩] [])
 (.seq (.reg [⟨.mov (.v 1), none, none⟩, ⟨.nilck (.l 0), none, none⟩, ⟨.fptr 1 (.l 1), none, none⟩, ⟨.load none (.l 2), none, none⟩, ⟨.load none (.v 5), none, none⟩, ⟨.len false (.l 4), none, none⟩, ⟨.bin .sub (.l 5) (.c (.int .i64 1)), none, none⟩, ⟨.call 37 [.l 3, .c (.int .i64 0), .l 6], (some 14), none⟩] [])
 (.cond (.v 14) (.reg [⟨.load none (.v 5), none, none⟩, ⟨.mov (.v 1), none, none⟩, ⟨.nilck (.l 1), none, none⟩, ⟨.fptr 1 (.l 2), none, none⟩, ⟨.load none (.l 3), none, none⟩, ⟨.mov (.v 1), none, none⟩, ⟨.nilck (.l 5), none, none⟩, ⟨.fptr 1 (.l 6), none, none⟩, ⟨.load none (.l 7), none, none⟩, ⟨.bin .add (.l 8) (.c (.int .i64 1)), none, none⟩, ⟨.slice 4 (.l 0) (some (.l 4)) (some (.l 9)) none, none, none⟩, ⟨.store 1 (.v 10) (.l 10), none, none⟩] [])
 (.skip))))
 (.skip)))
 (.seq (.reg [⟨.load none (.v 4), none, none⟩, ⟨.mov (.v 1), none, none⟩, ⟨.nilck (.l 1), none, none⟩, ⟨.fptr 0 (.l 2), none, none⟩, ⟨.load none (.l 3), none, none⟩, ⟨.mov (.v 1), none, none⟩, ⟨.nilck (.l 5), none, none⟩, ⟨.fptr 1 (.l 6), none, none⟩, ⟨.load none (.l 7), none, none⟩, ⟨.call 38 [.l 4, .l 8], none, none⟩, ⟨.call 36 [.l 0, .l 9], none, none⟩, ⟨.mov (.l 10), none, none⟩, ⟨.load none (.v 4), none, (some (11, true))⟩, ⟨.load none (.v 10), none, (some (11, true))⟩, ⟨.len false (.l 13), none, (some (11, true))⟩, ⟨.mkfn 40 [] [.v 4, .v 10, .v 5, .v 6], none, (some (11, true))⟩, ⟨.call 39 [.l 12, .l 14, .l 15], none, (some (11, true))⟩, ⟨.pick (.l 11) (.l 16) (.c (.bool false)), none, none⟩, ⟨.mov (.l 17), (some 7), none⟩] [(0, 10)])
 (.ret)))))),
 [.t 7], false, true⟩
def m24 : List Nat := [0, 1, 2, 3, 4, 6, 7, 8, 9, 10, 11, 28, 33, 44, 52]

/-- bytes.Clone -/
def c25 : FC := ⟨1, 3, .seq (.reg [⟨.mov (.c (.imm true 0 [])), (some 1), none⟩] [])
 (.alt (.reg [⟨.mov (.v 0), none, none⟩, ⟨.isnil 0 false (.l 0), (some 2), none⟩] []) (.v 2) (.seq (.reg [⟨.mov (.c (.imm true 0 [])), (some 1), none⟩] [])
 (.ret))
 (.skip)
 (.seq (.reg [⟨.lit 5 1 [.int .u8 0] [] false false, none, none⟩, ⟨.mov (.v 0), none, none⟩, ⟨.app 5 1 1 (.l 0) (.l 1), none, none⟩, ⟨.mov (.l 2), (some 1), none⟩] [])
 (.ret))),
 [.t 1], false, false⟩
def m25 : List Nat := [0, 2, 4]

/-- (*loop.example/g00293/impl.shower).told -/
def c26 : FC := ⟨1, 2, .seq (.reg [⟨.mov (.c (.imm true 0 [])), (some 1), none⟩] [])
 (.seq (.reg [⟨.mov (.v 0), none, none⟩, ⟨.nilck (.l 0), none, none⟩, ⟨.fptr 0 (.l 1), none, none⟩, ⟨.load none (.l 2), none, none⟩, ⟨.mov (.v 0), none, none⟩, ⟨.nilck (.l 4), none, none⟩, ⟨.fptr 0 (.l 5), none, none⟩, ⟨.load none (.l 6), none, none⟩, ⟨.len false (.l 7), none, none⟩, ⟨.min (.l 8) (.c (.int .i64 30000)), none, none⟩, ⟨.slice 1 (.l 3) none (some (.l 9)) none, none, none⟩, ⟨.mov (.l 10), (some 1), none⟩] [])
 (.ret)),
 [.t 1], false, false⟩
def m26 : List Nat := [0, 2]

/-- loop.example/g00293/spec.l1Byte -/
def c31 : FC := ⟨1, 4, .seq (.reg [⟨.mov (.c (.int .i64 0)), (some 1), none⟩] [])
 (.seq (.reg [⟨.mov (.v 0), none, none⟩, ⟨.mov (.v 0), none, none⟩, ⟨.nilck (.l 1), none, none⟩, ⟨.fptr 2 (.l 2), none, none⟩, ⟨.load none (.l 3), none, none⟩, ⟨.bin .mul (.l 4) (.c (.int .i64 6364136223846793005)), none, none⟩, ⟨.bin .add (.l 5) (.c (.int .i64 1442695040888963407)), none, none⟩, ⟨.nilck (.l 0), none, none⟩, ⟨.fptr 2 (.l 7), none, none⟩, ⟨.store 1 (.l 8) (.l 6), none, none⟩] [])
 (.seq (.reg [⟨.mov (.v 0), none, none⟩, ⟨.nilck (.l 0), none, none⟩, ⟨.fptr 2 (.l 1), none, none⟩, ⟨.load none (.l 2), none, none⟩, ⟨.bin .shr (.l 3) (.c (.int .u64 33)), none, none⟩, ⟨.mov (.v 0), none, none⟩, ⟨.nilck (.l 5), none, none⟩, ⟨.fptr 2 (.l 6), none, none⟩, ⟨.load none (.l 7), none, none⟩, ⟨.bin .shr (.l 8) (.c (.int .u64 45)), none, none⟩, ⟨.bin .xor (.l 4) (.l 9), none, none⟩, ⟨.bin .and (.l 10) (.c (.int .i64 255)), none, none⟩, ⟨.mov (.l 11), (some 2), none⟩] [])
 (.seq (.seq (.reg [⟨.mov (.v 0), none, none⟩, ⟨.nilck (.l 0), none, none⟩, ⟨.fptr 1 (.l 1), none, none⟩, ⟨.load none (.l 2), none, none⟩, ⟨.mov (.v 0), none, none⟩, ⟨.nilck (.l 4), none, none⟩, ⟨.fptr 0 (.l 5), none, none⟩, ⟨.load none (.l 6), none, none⟩, ⟨.len false (.l 7), none, none⟩, ⟨.bin .lss (.l 3) (.l 8), (some 3), none⟩] [])
 (.cond (.v 3) (.seq (.reg [⟨.mov (.v 2), none, none⟩, ⟨.mov (.v 0), none, none⟩, ⟨.nilck (.l 1), none, none⟩, ⟨.fptr 0 (.l 2), none, none⟩, ⟨.load none (.l 3), none, none⟩, ⟨.mov (.v 0), none, none⟩, ⟨.nilck (.l 5), none, none⟩, ⟨.fptr 1 (.l 6), none, none⟩, ⟨.load none (.l 7), none, none⟩, ⟨.iptr 1 (.l 4) (.l 8), none, none⟩, ⟨.load none (.l 9), none, none⟩, ⟨.conv .i64 (.l 10), none, none⟩, ⟨.bin .add (.l 0) (.l 11), none, none⟩, ⟨.bin .and (.l 12) (.c (.int .i64 255)), none, none⟩, ⟨.mov (.l 13), (some 2), none⟩] [])
 (.reg [⟨.mov (.v 0), none, none⟩, ⟨.mov (.v 0), none, none⟩, ⟨.nilck (.l 1), none, none⟩, ⟨.fptr 1 (.l 2), none, none⟩, ⟨.load none (.l 3), none, none⟩, ⟨.bin .add (.l 4) (.c (.int .i64 1)), none, none⟩, ⟨.nilck (.l 0), none, none⟩, ⟨.fptr 1 (.l 6), none, none⟩, ⟨.store 1 (.l 7) (.l 5), none, none⟩] []))
 (.skip)))
 (.seq (.reg [⟨.mov (.v 2), none, none⟩, ⟨.mov (.l 0), (some 1), none⟩] [])
 (.ret))))),
 [.t 1], false, false⟩
def m31 : List Nat := [0, 2, 3, 34]

/-- loop.example/g00293/spec.l1PickInt -/
def c32 : FC := ⟨2, 3, .seq (.reg [⟨.mov (.c (.int .i64 0)), (some 2), none⟩] [])
 (.seq (.reg [⟨.mov (.v 1), none, none⟩, ⟨.mov (.v 0), none, none⟩, ⟨.mov (.v 1), none, none⟩, ⟨.len false (.l 2), none, none⟩, ⟨.call 21 [.l 1, .l 3], none, none⟩, ⟨.iptr 1 (.l 0) (.l 4), none, none⟩, ⟨.load none (.l 5), none, none⟩, ⟨.mov (.l 6), (some 2), none⟩] [])
 (.ret)),
 [.t 2], false, false⟩
def m32 : List Nat := [0, 1, 4]

/-- loop.example/g00293/spec.l1signed -/
def c33 : FC := ⟨1, 6, .seq (.reg [⟨.mov (.c (.int .i64 0)), (some 1), none⟩] [])
 (.seq (.seq (.reg [⟨.mov (.v 0), none, none⟩, ⟨.call 21 [.l 0, .c (.int .i64 4)], (some 2), none⟩] [])
 (.block 0 (.seq (.reg [⟨.bin .eql (.v 2) (.c (.int .i64 0)), none, none⟩, ⟨.mov (.l 0), (some 3), none⟩] [])
 (.cond (.v 3) (.seq (.reg [⟨.mov (.v 0), none, none⟩, ⟨.call 21 [.l 0, .c (.int .i64 9)], none, none⟩, ⟨.bin .sub (.l 1) (.c (.int .i64 4)), none, none⟩, ⟨.mov (.l 2), (some 1), none⟩] [])
 (.ret))
 (.seq (.reg [⟨.bin .eql (.v 2) (.c (.int .i64 1)), none, none⟩, ⟨.mov (.l 0), (some 4), none⟩] [])
 (.cond (.v 4) (.seq (.reg [⟨.mov (.v 0), none, none⟩, ⟨.lit 3 1 [.int .i64 0] [(0, .c (.int .i64 1073741823)), (1, .c (.int .i64 1073741824)), (2, .c (.int .i64 (-1073741824))), (3, .c (.int .i64 (-1073741825))), (4, .c (.int .i64 (-9223372036854775808))), (5, .c (.int .i64 9223372036854775807)), (6, .c (.int .i64 4611686018427387904)), (7, .c (.int .i64 (-4611686018427387904))), (8, .c (.int .i64 4611686018427387903)), (9, .c (.int .i64 (-4611686018427387905)))] false false, none, none⟩, ⟨.call 32 [.l 0, .l 1], none, none⟩, ⟨.mov (.l 2), (some 1), none⟩] [])
 (.ret))
 (.seq (.reg [⟨.bin .eql (.v 2) (.c (.int .i64 2)), none, none⟩, ⟨.mov (.l 0), (some 5), none⟩] [])
 (.cond (.v 5) (.seq (.reg [⟨.mov (.v 0), none, none⟩, ⟨.call 42 [.l 0], none, none⟩, ⟨.mov (.l 1), (some 1), none⟩] [])
 (.ret))
 (.skip)))))))))
 (.seq (.reg [⟨.mov (.v 0), none, none⟩, ⟨.call 21 [.l 0, .c (.int .i64 1073741824)], none, none⟩, ⟨.un .neg (.l 1), none, none⟩, ⟨.mov (.l 2), (some 1), none⟩] [])
 (.ret))),
 [.t 1], false, false⟩
def m33 : List Nat := [0, 2, 4, 5, 10, 15]

/-- loop.example/g00293/spec.l1some -/
def c34 : FC := ⟨2, 7, .seq (.reg [⟨.mov (.c (.imm true 0 [])), (some 2), none⟩] [])
 (.seq (.reg [⟨.mov (.v 0), none, none⟩, ⟨.mov (.v 1), none, none⟩, ⟨.bin .add (.l 1) (.c (.int .i64 1)), none, none⟩, ⟨.call 21 [.l 0, .l 2], none, none⟩, ⟨.mov (.l 3), (some 3), none⟩] [])
 (.seq (.reg [⟨.mov (.c (.imm true 0 [])), (some 4), none⟩] [])
 (.seq (.seq (.reg [⟨.mov (.c (.int .i64 0)), (some 5), none⟩] [])
 (.block 0 (.loop (.seq (.seq (.reg [⟨.mov (.v 5), none, none⟩, ⟨.mov (.v 3), none, none⟩, ⟨.bin .lss (.l 0) (.l 1), (some 6), none⟩] [])
 (.cond (.v 6) (.skip)
 (.exit 0)))
 (.seq (.block 1 (.reg [⟨.mov (.v 4), none, none⟩, ⟨.mov (.v 0), none, none⟩, ⟨.call 31 [.l 1], none, none⟩, ⟨.conv .u8 (.l 2), none, none⟩, ⟨.lit 5 1 [.int .u8 0] [(0, .l 3)] false true, none, none⟩, ⟨.app 5 1 1 (.l 0) (.l 4), none, none⟩, ⟨.mov (.l 5), (some 4), none⟩] []))
 (.reg [⟨.mov (.v 5), none, none⟩, ⟨.bin .add (.l 0) (.c (.int .i64 1)), none, none⟩, ⟨.mov (.l 1), (some 5), none⟩] []))))))
 (.seq (.reg [⟨.mov (.v 4), none, none⟩, ⟨.mov (.l 0), (some 2), none⟩] [])
 (.ret))))),
 [.t 2], false, false⟩
def m34 : List Nat := [0, 1, 4, 5, 6, 7, 14]

/-- loop.example/g00293/impl.plainShown -/
def c35 : FC := ⟨3, 10, .seq (.reg [⟨.mov (.c (.str ⟨#[]⟩)), (some 3), none⟩, ⟨.mov (.c (.bool false)), (some 4), none⟩] [])
 (.seq (.seq (.reg [⟨.mov (.v 0), (some 5), none⟩] [])
 (.block 0 (.seq (.reg [⟨.bin .eql (.v 5) (.c (.int .i64 0)), none, none⟩, ⟨.mov (.l 0), (some 6), none⟩] [])
 (.cond (.v 6) (.seq (.reg [⟨.mov (.c (.str ⟨#[40, 41]⟩)), (some 3), none⟩, ⟨.mov (.c (.bool true)), (some 4), none⟩] [])
 (.ret))
 (.seq (.reg [⟨.bin .eql (.v 5) (.c (.int .i64 1)), none, none⟩, ⟨.mov (.l 0), (some 7), none⟩] [])
 (.cond (.v 7) (.seq (.reg [⟨.mov (.v 1), none, none⟩, ⟨.call 43 [.l 0], none, none⟩, ⟨.mov (.l 1), (some 3), none⟩, ⟨.mov (.c (.bool true)), (some 4), none⟩] [])
 (.ret))
 (.seq (.reg [⟨.bin .eql (.v 5) (.c (.int .i64 2)), none, none⟩, ⟨.mov (.l 0), (some 8), none⟩] [])
 (.cond (.v 8) (.seq (.reg [⟨.mov (.v 2), none, none⟩, ⟨.b2s (.l 0), none, none⟩, ⟨.bin .add (.c (.str ⟨#[34]⟩)) (.l 1), none, none⟩, ⟨.bin .add (.l 2) (.c (.str ⟨#[34]⟩)), none, none⟩, ⟨.mov (.l 3), (some 3), none⟩, ⟨.mov (.c (.bool true)), (some 4), none⟩] [])
 (.ret))
 (.seq (.reg [⟨.bin .eql (.v 5) (.c (.int .i64 4)), none, none⟩, ⟨.mov (.l 0), (some 9), none⟩] [])
 (.cond (.v 9) (.seq (.reg [⟨.mov (.c (.str ⟨#[102, 110]⟩)), (some 3), none⟩, ⟨.mov (.c (.bool true)), (some 4), none⟩] [])
 (.ret))
 (.skip)))))))))))
 (.seq (.reg [⟨.mov (.c (.str ⟨#[]⟩)), (some 3), none⟩, ⟨.mov (.c (.bool false)), (some 4), none⟩] [])
 (.ret))),
 [.t 3, .t 4], false, false⟩
def m35 : List Nat := [0, 1, 2, 6, 7, 8, 9, 11, 15, 21]

/-- (*loop.example/g00293/impl.shower).say -/
def c36 : FC := ⟨2, 3, .seq (.reg [⟨.mov (.c (.bool false)), (some 2), none⟩] [])
 (.seq (.reg [⟨.mov (.v 0), none, none⟩, ⟨.mov (.v 0), none, none⟩, ⟨.nilck (.l 1), none, none⟩, ⟨.fptr 0 (.l 2), none, none⟩, ⟨.load none (.l 3), none, none⟩, ⟨.mov (.v 1), none, none⟩, ⟨.app 5 1 1 (.l 4) (.l 5), none, none⟩, ⟨.nilck (.l 0), none, none⟩, ⟨.fptr 0 (.l 7), none, none⟩, ⟨.store 1 (.l 8) (.l 6), none, none⟩] [])
 (.seq (.reg [⟨.mov (.v 0), none, none⟩, ⟨.nilck (.l 0), none, none⟩, ⟨.fptr 0 (.l 1), none, none⟩, ⟨.load none (.l 2), none, none⟩, ⟨.len false (.l 3), none, none⟩, ⟨.bin .lss (.l 4) (.c (.int .i64 30000)), none, none⟩, ⟨.mov (.l 5), (some 2), none⟩] [])
 (.ret))),
 [.t 2], false, true⟩
def m36 : List Nat := [0, 1, 4]

/-- loop.example/g00293/impl.within -/
def c37 : FC := ⟨3, 4, .seq (.reg [⟨.mov (.c (.bool false)), (some 3), none⟩] [])
 (.seq (.reg [⟨.mov (.v 0), none, none⟩, ⟨.mov (.v 1), none, none⟩, ⟨.bin .geq (.l 0) (.l 1), none, none⟩, ⟨.mov (.l 2), none, none⟩, ⟨.mov (.v 0), none, (some (3, true))⟩, ⟨.mov (.v 2), none, (some (3, true))⟩, ⟨.bin .leq (.l 4) (.l 5), none, (some (3, true))⟩, ⟨.pick (.l 3) (.l 6) (.c (.bool false)), none, none⟩, ⟨.mov (.l 7), (some 3), none⟩] [])
 (.ret)),
 [.t 3], false, false⟩
def m37 : List Nat := [0, 1, 2, 6]

/-- loop.example/g00293/impl.headShown -/
def c38 : FC := ⟨2, 6, .seq (.reg [⟨.mov (.c (.str ⟨#[]⟩)), (some 2), none⟩] [])
 (.seq (.seq (.reg [⟨.mov (.v 0), (some 3), none⟩] [])
 (.block 0 (.seq (.reg [⟨.bin .eql (.v 3) (.c (.int .i64 5)), none, none⟩, ⟨.mov (.l 0), (some 4), none⟩] [])
 (.cond (.v 4) (.seq (.reg [⟨.mov (.c (.str ⟨#[114, 101, 102]⟩)), (some 2), none⟩] [])
 (.ret))
 (.seq (.reg [⟨.bin .eql (.v 3) (.c (.int .i64 6)), none, none⟩, ⟨.mov (.l 0), (some 5), none⟩] [])
 (.cond (.v 5) (.seq (.reg [⟨.mov (.v 1), none, none⟩, ⟨.call 43 [.l 0], none, none⟩, ⟨.bin .add (.c (.str ⟨#[35]⟩)) (.l 1), none, none⟩, ⟨.mov (.l 2), (some 2), none⟩] [])
 (.ret))
 (.skip)))))))
 (.seq (.reg [⟨.mov (.c (.str ⟨#[]⟩)), (some 2), none⟩] [])
 (.ret))),
 [.t 2], false, false⟩
def m38 : List Nat := [0, 1, 4, 5, 6, 8]

/-- (*loop.example/g00293/impl.shower).parts -/
def c39 : FC := ⟨3, 11, .seq (.reg [⟨.mov (.c (.bool false)), (some 3), none⟩] [])
 (.seq (.seq (.reg [⟨.mov (.v 1), (some 6), none⟩, ⟨.mov (.c (.int .i64 0)), (some 7), none⟩] [])
 (.block 0 (.loop (.seq (.reg [⟨.bin .lss (.v 7) (.v 6), (some 8), none⟩] [])
 (.seq (.cond (.v 8) (.skip)
 (.exit 0))
 (.seq (.block 1 (.seq (.reg [⟨.mov (.v 7), none, none⟩, ⟨.mov (.l 0), (some 4), none⟩] [])
 (.seq (.reg [⟨.mov (.c (.str ⟨#[44, 32]⟩)), (some 5), none⟩] [])
 (.seq (.seq (.reg [⟨.mov (.v 4), none, none⟩, ⟨.bin .eql (.l 0) (.c (.int .i64 0)), (some 9), none⟩] [])
 (.cond (.v 9) (.reg [⟨.mov (.c (.str ⟨#[40]⟩)), (some 5), none⟩] [])
 (.skip)))
 (.seq (.reg [⟨.mov (.v 0), none, none⟩, ⟨.mov (.v 5), none, none⟩, ⟨.call 36 [.l 0, .l 1], none, none⟩, ⟨.un .not (.l 2), none, none⟩, ⟨.mov (.l 3), none, none⟩, ⟨.mov (.v 2), none, (some (4, false))⟩, ⟨.mov (.v 4), none, (some (4, false))⟩, ⟨.callv (.l 5) [.l 6], none, (some (4, false))⟩, ⟨.un .not (.l 7), none, (some (4, false))⟩, ⟨.pick (.l 4) (.c (.bool true)) (.l 8), (some 10), none⟩] [])
 (.cond (.v 10) (.seq (.reg [⟨.mov (.c (.bool false)), (some 3), none⟩] [])
 (.ret))
 (.skip)))))))
 (.reg [⟨.bin .add (.v 7) (.c (.int .i64 1)), none, none⟩, ⟨.mov (.l 0), (some 7), none⟩] [])))))))
 (.seq (.reg [⟨.mov (.v 1), none, none⟩, ⟨.bin .eql (.l 0) (.c (.int .i64 0)), none, none⟩, ⟨.mov (.l 1), none, none⟩, ⟨.mov (.v 0), none, (some (2, false))⟩, ⟨.call 36 [.l 3, .c (.str ⟨#[41]⟩)], none, (some (2, false))⟩, ⟨.pick (.l 2) (.c (.bool true)) (.l 4), none, none⟩, ⟨.mov (.l 5), (some 3), none⟩] [])
 (.ret))),
 [.t 3], false, true⟩
def m39 : List Nat := [0, 1, 2, 6, 7, 8, 9, 10, 11, 14, 24]

/-- loop.example/g00293/impl.showVal$1 -/
def c40 : FC := ⟨5, 6, .seq (.reg [⟨.mov (.c (.bool false)), (some 5), none⟩] [])
 (.seq (.reg [⟨.load none (.v 1), none, none⟩, ⟨.load none (.v 2), none, none⟩, ⟨.mov (.v 0), none, none⟩, ⟨.iptr 4 (.l 1) (.l 2), none, none⟩, ⟨.load none (.v 3), none, none⟩, ⟨.load none (.v 4), none, none⟩, ⟨.bin .add (.l 5) (.c (.int .i64 1)), none, none⟩, ⟨.call 24 [.l 0, .l 3, .l 4, .l 6], none, none⟩, ⟨.mov (.l 7), (some 5), none⟩] [])
 (.ret)),
 [.t 5], false, true⟩
def m40 : List Nat := [0, 1, 2, 3, 4, 6]

/-- loop.example/g00293/spec.l1num -/
def c42 : FC := ⟨1, 7, .seq (.reg [⟨.mov (.c (.int .i64 0)), (some 1), none⟩] [])
 (.seq (.seq (.reg [⟨.mov (.v 0), none, none⟩, ⟨.call 21 [.l 0, .c (.int .i64 5)], (some 2), none⟩] [])
 (.block 0 (.seq (.reg [⟨.bin .eql (.v 2) (.c (.int .i64 0)), none, none⟩, ⟨.mov (.l 0), (some 3), none⟩] [])
 (.cond (.v 3) (.seq (.reg [⟨.mov (.v 0), none, none⟩, ⟨.call 21 [.l 0, .c (.int .i64 4)], none, none⟩, ⟨.mov (.l 1), (some 1), none⟩] [])
 (.ret))
 (.seq (.reg [⟨.bin .eql (.v 2) (.c (.int .i64 1)), none, none⟩, ⟨.mov (.l 0), (some 4), none⟩] [])
 (.cond (.v 4) (.seq (.reg [⟨.mov (.v 0), none, none⟩, ⟨.lit 3 1 [.int .i64 0] [(0, .c (.int .i64 126)), (1, .c (.int .i64 127)), (2, .c (.int .i64 128)), (3, .c (.int .i64 129)), (4, .c (.int .i64 16383)), (5, .c (.int .i64 16384)), (6, .c (.int .i64 2097151)), (7, .c (.int .i64 2097152)), (8, .c (.int .i64 2147483646)), (9, .c (.int .i64 2147483647))] false false, none, none⟩, ⟨.call 32 [.l 0, .l 1], none, none⟩, ⟨.mov (.l 2), (some 1), none⟩] [])
 (.ret))
 (.seq (.reg [⟨.bin .eql (.v 2) (.c (.int .i64 2)), none, none⟩, ⟨.mov (.l 0), (some 5), none⟩] [])
 (.cond (.v 5) (.seq (.reg [⟨.mov (.v 0), none, none⟩, ⟨.call 21 [.l 0, .c (.int .i64 40000)], none, none⟩, ⟨.mov (.l 1), (some 1), none⟩] [])
 (.ret))
 (.seq (.reg [⟨.bin .eql (.v 2) (.c (.int .i64 3)), none, none⟩, ⟨.mov (.l 0), (some 6), none⟩] [])
 (.cond (.v 6) (.seq (.reg [⟨.mov (.v 0), none, none⟩, ⟨.lit 3 1 [.int .i64 0] [(0, .c (.int .i64 (-1))), (1, .c (.int .i64 (-2))), (2, .c (.int .i64 2147483648)), (3, .c (.int .i64 4611686018427387904)), (4, .c (.int .i64 (-9223372036854775808))), (5, .c (.int .i64 9223372036854775807))] false false, none, none⟩, ⟨.call 32 [.l 0, .l 1], none, none⟩, ⟨.mov (.l 2), (some 1), none⟩] [])
 (.ret))
 (.skip)))))))))))
 (.seq (.reg [⟨.mov (.v 0), none, none⟩, ⟨.call 21 [.l 0, .c (.int .i64 2147483647)], none, none⟩, ⟨.mov (.l 1), (some 1), none⟩] [])
 (.ret))),
 [.t 1], false, false⟩
def m42 : List Nat := [0, 2, 4, 5, 9, 14, 18]

theorem p3 : Fit Tryd.prog 3 c3 := ⟨Tryd.f3, m3, by kernel_rfl, by kernel_rfl⟩
theorem p5 : Fit Tryd.prog 5 c5 := ⟨Tryd.f5, m5, by kernel_rfl, by kernel_rfl⟩
theorem p6 : Fit Tryd.prog 6 c6 := ⟨Tryd.f6, m6, by kernel_rfl, by kernel_rfl⟩
theorem p7 : Fit Tryd.prog 7 c7 := ⟨Tryd.f7, m7, by kernel_rfl, by kernel_rfl⟩
theorem p20 : Fit Tryd.prog 20 c20 := ⟨Tryd.f20, m20, by kernel_rfl, by kernel_rfl⟩
theorem p21 : Fit Tryd.prog 21 c21 := ⟨Tryd.f21, m21, by kernel_rfl, by kernel_rfl⟩
theorem p22 : Fit Tryd.prog 22 c22 := ⟨Tryd.f22, m22, by kernel_rfl, by kernel_rfl⟩
theorem p23 : Fit Tryd.prog 23 c23 := ⟨Tryd.f23, m23, by kernel_rfl, by kernel_rfl⟩
theorem p24 : Fit Tryd.prog 24 c24 := ⟨Tryd.f24, m24, by kernel_rfl, by kernel_rfl⟩
theorem p25 : Fit Tryd.prog 25 c25 := ⟨Tryd.f25, m25, by kernel_rfl, by kernel_rfl⟩
theorem p26 : Fit Tryd.prog 26 c26 := ⟨Tryd.f26, m26, by kernel_rfl, by kernel_rfl⟩
theorem p31 : Fit Tryd.prog 31 c31 := ⟨Tryd.f31, m31, by kernel_rfl, by kernel_rfl⟩
theorem p32 : Fit Tryd.prog 32 c32 := ⟨Tryd.f32, m32, by kernel_rfl, by kernel_rfl⟩
theorem p33 : Fit Tryd.prog 33 c33 := ⟨Tryd.f33, m33, by kernel_rfl, by kernel_rfl⟩
theorem p34 : Fit Tryd.prog 34 c34 := ⟨Tryd.f34, m34, by kernel_rfl, by kernel_rfl⟩
theorem p35 : Fit Tryd.prog 35 c35 := ⟨Tryd.f35, m35, by kernel_rfl, by kernel_rfl⟩
theorem p36 : Fit Tryd.prog 36 c36 := ⟨Tryd.f36, m36, by kernel_rfl, by kernel_rfl⟩
theorem p37 : Fit Tryd.prog 37 c37 := ⟨Tryd.f37, m37, by kernel_rfl, by kernel_rfl⟩
theorem p38 : Fit Tryd.prog 38 c38 := ⟨Tryd.f38, m38, by kernel_rfl, by kernel_rfl⟩
theorem p39 : Fit Tryd.prog 39 c39 := ⟨Tryd.f39, m39, by kernel_rfl, by kernel_rfl⟩
theorem p40 : Fit Tryd.prog 40 c40 := ⟨Tryd.f40, m40, by kernel_rfl, by kernel_rfl⟩
theorem p42 : Fit Tryd.prog 42 c42 := ⟨Tryd.f42, m42, by kernel_rfl, by kernel_rfl⟩
def tbl : List (Nat × FC) := [(3, c3), (5, c5), (6, c6), (7, c7), (20, c20), (21, c21), (22, c22), (23, c23), (24, c24), (25, c25), (26, c26), (31, c31), (32, c32), (33, c33), (34, c34), (35, c35), (36, c36), (37, c37), (38, c38), (39, c39), (40, c40), (42, c42)]
theorem tbl_fits : FitL Tryd.prog tbl := FitL.cons p3 (FitL.cons p5 (FitL.cons p6 (FitL.cons p7 (FitL.cons p20 (FitL.cons p21 (FitL.cons p22 (FitL.cons p23 (FitL.cons p24 (FitL.cons p25 (FitL.cons p26 (FitL.cons p31 (FitL.cons p32 (FitL.cons p33 (FitL.cons p34 (FitL.cons p35 (FitL.cons p36 (FitL.cons p37 (FitL.cons p38 (FitL.cons p39 (FitL.cons p40 (FitL.cons p42 (FitL.nil))))))))))))))))))))))
end Go.Proofs.YthogcanomihelaaDoor.Gv
