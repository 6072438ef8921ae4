/- MADE BY PROGRAM (gen.py): what each function of the program does, in the evaluator's words, each held against the program's text by the kernel. -/
import Derived.Test.YthogcanomihelaaDoorAe17
import Derived.Test.YthogcanomihelaaDoorChecked
import Derived.KernelRfl
import Derived.Test.YthogcanomihelaaDoorPr
set_option linter.unusedSimpArgs false
set_option linter.unusedVariables false
namespace Go.Proofs.YthogcanomihelaaDoor.Gx
open Go Go.Proofs Go.Proofs.YthogcanomihelaaDoor.Ae
/-- loop.example/g00293/laws.FnExactShowVal -/
def c4 : FC := ⟨2, 24, .seq (.reg [⟨.box 33 4 (.v 0), (some 2), none⟩, ⟨.mov (.c (.bool false)), (some 3), none⟩] [])
 (.seq (.reg [⟨.mov (.c (.int .i64 1048576)), (some 4), none⟩] [])
 (.seq (.reg [⟨.load (some 4) (.v 2), none, none⟩, ⟨.mov (.v 4), none, none⟩, ⟨.call 8 [.l 0, .l 1], none, none⟩, ⟨.mov (.l 2), (some 4), none⟩] [])
 (.seq (.seq (.reg [⟨.mov (.v 4), none, none⟩, ⟨.bin .lss (.l 0) (.c (.int .i64 0)), (some 13), none⟩] [])
 (.cond (.v 13) (.seq (.reg [⟨.mov (.c (.bool true)), (some 3), none⟩] [])
 (.ret))
 (.skip)))
 (.seq (.reg [⟨.mov (.v 1), none, none⟩, ⟨.mov (.v 4), none, none⟩, ⟨.call 9 [.l 0, .l 1], none, none⟩, ⟨.mov (.l 2), (some 4), none⟩] [])
 (.seq (.seq (.reg [⟨.mov (.v 4), none, none⟩, ⟨.bin .lss (.l 0) (.c (.int .i64 0)), (some 14), none⟩] [])
 (.cond (.v 14) (.seq (.reg [⟨.mov (.c (.bool true)), (some 3), none⟩] [])
 (.ret))
 (.skip)))
 (.seq (.reg [⟨.load (some 4) (.v 2), none, none⟩, ⟨.call 11 [.l 0], none, none⟩, ⟨.mov (.v 1), none, none⟩, ⟨.call 12 [.l 2], none, none⟩, ⟨.call 10 [.l 1, .l 3], none, none⟩, ⟨.mov (.l 4), (some 5), none⟩] [])
 (.seq (.reg [⟨.load (some 4) (.v 2), none, none⟩, ⟨.call 11 [.l 0], none, none⟩, ⟨.alloc 25 [.int .i64 0, .int .i64 0, .imm true 0 [], .imm true 0 []], (some 6), none⟩, ⟨.store 4 (.l 2) (.l 1), none, none⟩] [])
 (.seq (.reg [⟨.mov (.v 1), none, none⟩, ⟨.call 12 [.l 0], none, none⟩, ⟨.mov (.l 1), (some 7), none⟩] [])
 (.seq (.reg [⟨.load (some 4) (.v 6), none, none⟩, ⟨.mov (.v 7), none, none⟩, ⟨.call 6 [.l 0, .l 1], none, none⟩, ⟨.mov (.l 2), (some 8), none⟩] [])
 (.seq (.seq (.reg [⟨.mov (.v 8), none, none⟩, ⟨.mov (.v 5), none, none⟩, ⟨.call 13 [.l 0, .l 1], none, none⟩, ⟨.un .not (.l 2), (some 15), none⟩] [])
 (.cond (.v 15) (.seq (.reg [⟨.mov (.c (.bool false)), (some 3), none⟩] [])
 (.ret))
 (.skip)))
 (.seq (.seq (.reg [⟨.load (some 4) (.v 6), none, none⟩, ⟨.load (some 4) (.v 2), none, none⟩, ⟨.call 11 [.l 1], none, none⟩, ⟨.call 14 [.l 0, .l 2], none, none⟩, ⟨.un .not (.l 3), (some 16), none⟩] [(0, 3)])
 (.cond (.v 16) (.seq (.reg [⟨.mov (.c (.bool false)), (some 3), none⟩] [])
 (.ret))
 (.skip)))
 (.seq (.seq (.reg [⟨.mov (.v 7), none, none⟩, ⟨.mov (.v 1), none, none⟩, ⟨.call 12 [.l 1], none, none⟩, ⟨.call 15 [.l 0, .l 2], none, none⟩, ⟨.un .not (.l 3), (some 17), none⟩] [])
 (.cond (.v 17) (.seq (.reg [⟨.mov (.c (.bool false)), (some 3), none⟩] [])
 (.ret))
 (.skip)))
 (.seq (.reg [⟨.mov (.c (.int .i64 1)), (some 9), none⟩] [])
 (.seq (.reg [⟨.load (some 4) (.v 6), none, none⟩, ⟨.mov (.v 9), none, none⟩, ⟨.call 16 [.l 0, .l 1], none, none⟩, ⟨.mov (.l 2), (some 9), none⟩] [])
 (.seq (.reg [⟨.mov (.v 7), none, none⟩, ⟨.mov (.v 9), none, none⟩, ⟨.call 17 [.l 0, .l 1], none, none⟩, ⟨.mov (.l 2), (some 9), none⟩] [])
 (.seq (.seq (.reg [⟨.mov (.v 9), none, none⟩, ⟨.bin .lss (.l 0) (.c (.int .i64 0)), none, none⟩, ⟨.mov (.l 1), none, none⟩, ⟨.mov (.v 8), none, (some (2, false))⟩, ⟨.mov (.v 5), none, (some (2, false))⟩, ⟨.call 13 [.l 3, .l 4], none, (some (2, false))⟩, ⟨.un .not (.l 5), none, (some (2, false))⟩, ⟨.pick (.l 2) (.c (.bool true)) (.l 6), (some 18), none⟩] [])
 (.cond (.v 18) (.seq (.reg [⟨.mov (.c (.bool false)), (some 3), none⟩] [])
 (.ret))
 (.skip)))
 (.seq (.reg [⟨.mov (.c (.int .i64 1)), (some 10), none⟩] [])
 (.seq (.reg [⟨.mov (.v 8), none, none⟩, ⟨.mov (.v 10), none, none⟩, ⟨.call 18 [.l 0, .l 1], none, none⟩, ⟨.mov (.l 2), (some 10), none⟩] [])
 (.seq (.reg [⟨.mov (.c (.int .i64 1)), (some 11), none⟩] [])
 (.seq (.reg [⟨.mov (.v 8), none, none⟩, ⟨.mov (.v 11), none, none⟩, ⟨.call 19 [.l 0, .l 1], none, none⟩, ⟨.mov (.l 2), (some 11), none⟩] [])
 (.seq (.seq (.reg [⟨.mov (.v 11), none, none⟩, ⟨.bin .lss (.l 0) (.c (.int .i64 0)), (some 19), none⟩] [])
 (.cond (.v 19) (.seq (.reg [⟨.mov (.c (.bool false)), (some 3), none⟩] [])
 (.ret))
 (.skip)))
 (.seq (.seq (.reg [⟨.mov (.v 11), none, none⟩, ⟨.mov (.v 10), none, none⟩, ⟨.bin .neq (.l 0) (.l 1), (some 20), none⟩] [])
 (.cond (.v 20) (.seq (.reg [⟨.mov (.c (.bool false)), (some 3), none⟩] [])
 (.ret))
 (.skip)))
 (.seq (.reg [⟨.load (some 4) (.v 2), none, none⟩, ⟨.call 11 [.l 0], none, none⟩, ⟨.mov (.v 1), none, none⟩, ⟨.call 12 [.l 2], none, none⟩, ⟨.call 6 [.l 1, .l 3], none, none⟩, ⟨.mov (.l 4), (some 12), none⟩] [])
 (.seq (.seq (.reg [⟨.mov (.v 12), none, none⟩, ⟨.mov (.v 5), none, none⟩, ⟨.call 13 [.l 0, .l 1], none, none⟩, ⟨.un .not (.l 2), (some 21), none⟩] [])
 (.cond (.v 21) (.seq (.reg [⟨.mov (.c (.bool false)), (some 3), none⟩] [])
 (.ret))
 (.skip)))
 (.seq (.reg [⟨.mov (.c (.int .i64 1)), (some 11), none⟩] [])
 (.seq (.reg [⟨.mov (.v 8), none, none⟩, ⟨.mov (.v 11), none, none⟩, ⟨.call 19 [.l 0, .l 1], none, none⟩, ⟨.mov (.l 2), (some 11), none⟩] [])
 (.seq (.seq (.reg [⟨.mov (.v 11), none, none⟩, ⟨.bin .lss (.l 0) (.c (.int .i64 0)), (some 22), none⟩] [])
 (.cond (.v 22) (.seq (.reg [⟨.mov (.c (.bool false)), (some 3), none⟩] [])
 (.ret))
 (.skip)))
 (.seq (.seq (.reg [⟨.mov (.v 11), none, none⟩, ⟨.mov (.v 10), none, none⟩, ⟨.bin .neq (.l 0) (.l 1), (some 23), none⟩] [])
 (.cond (.v 23) (.seq (.reg [⟨.mov (.c (.bool false)), (some 3), none⟩] [])
 (.ret))
 (.skip)))
 (.seq (.reg [⟨.mov (.c (.bool true)), (some 3), none⟩] [])
 (.ret)))))))))))))))))))))))))))))),
 [.t 3], false, false⟩
def m4 : List Nat := [0, 1, 2, 4, 5, 6, 7, 8, 9, 10, 11, 12, 13, 18, 23, 39, 44, 49, 63, 71, 74, 83, 88, 91]

/-- loop.example/g00293/laws.szVal -/
def c8 : FC := ⟨2, 6, .seq (.reg [⟨.box 33 4 (.v 0), (some 2), none⟩, ⟨.mov (.c (.int .i64 0)), (some 3), none⟩] [])
 (.seq (.reg [⟨.fptr 2 (.v 2), none, none⟩, ⟨.load none (.l 0), none, none⟩, ⟨.mov (.v 1), none, none⟩, ⟨.call 27 [.l 1, .l 2], none, none⟩, ⟨.mov (.l 3), (some 1), none⟩] [])
 (.seq (.seq (.reg [⟨.mov (.v 1), none, none⟩, ⟨.bin .lss (.l 0) (.c (.int .i64 0)), (some 4), none⟩] [])
 (.cond (.v 4) (.seq (.reg [⟨.mov (.c (.int .i64 (-1))), (some 3), none⟩] [])
 (.ret))
 (.skip)))
 (.seq (.reg [⟨.fptr 3 (.v 2), none, none⟩, ⟨.load none (.l 0), none, none⟩, ⟨.mov (.v 1), none, none⟩, ⟨.call 9 [.l 1, .l 2], none, none⟩, ⟨.mov (.l 3), (some 1), none⟩] [])
 (.seq (.seq (.reg [⟨.mov (.v 1), none, none⟩, ⟨.bin .lss (.l 0) (.c (.int .i64 0)), (some 5), none⟩] [])
 (.cond (.v 5) (.seq (.reg [⟨.mov (.c (.int .i64 (-1))), (some 3), none⟩] [])
 (.ret))
 (.skip)))
 (.seq (.reg [⟨.mov (.v 1), none, none⟩, ⟨.mov (.l 0), (some 3), none⟩] [])
 (.ret)))))),
 [.t 3], false, false⟩
def m8 : List Nat := [0, 1, 2, 4, 10, 16]

/-- loop.example/g00293/laws.szValS -/
def c9 : FC := ⟨2, 7, .seq (.reg [⟨.mov (.c (.int .i64 0)), (some 2), none⟩] [])
 (.seq (.reg [⟨.mov (.v 1), none, none⟩, ⟨.mov (.v 0), none, none⟩, ⟨.len false (.l 1), none, none⟩, ⟨.bin .sub (.l 0) (.l 2), none, none⟩, ⟨.mov (.l 3), (some 1), none⟩] [])
 (.seq (.seq (.reg [⟨.mov (.v 1), none, none⟩, ⟨.bin .lss (.l 0) (.c (.int .i64 0)), (some 4), none⟩] [])
 (.cond (.v 4) (.seq (.reg [⟨.mov (.c (.int .i64 (-1))), (some 2), none⟩] [])
 (.ret))
 (.skip)))
 (.seq (.seq (.reg [⟨.mov (.c (.int .i64 0)), (some 3), none⟩] [])
 (.block 0 (.loop (.seq (.seq (.reg [⟨.mov (.v 3), none, none⟩, ⟨.mov (.v 0), none, none⟩, ⟨.len false (.l 1), none, none⟩, ⟨.bin .lss (.l 0) (.l 2), (some 5), none⟩] [])
 (.cond (.v 5) (.skip)
 (.exit 0)))
 (.seq (.block 1 (.seq (.reg [⟨.mov (.v 0), none, none⟩, ⟨.mov (.v 3), none, none⟩, ⟨.iptr 4 (.l 0) (.l 1), none, none⟩, ⟨.load (some 4) (.l 2), none, none⟩, ⟨.mov (.v 1), none, none⟩, ⟨.call 8 [.l 3, .l 4], none, none⟩, ⟨.mov (.l 5), (some 1), none⟩] [])
 (.seq (.reg [⟨.mov (.v 1), none, none⟩, ⟨.bin .lss (.l 0) (.c (.int .i64 0)), (some 6), none⟩] [])
 (.cond (.v 6) (.seq (.reg [⟨.mov (.c (.int .i64 (-1))), (some 2), none⟩] [])
 (.ret))
 (.skip)))))
 (.reg [⟨.mov (.v 3), none, none⟩, ⟨.bin .add (.l 0) (.c (.int .i64 1)), none, none⟩, ⟨.mov (.l 1), (some 3), none⟩] []))))))
 (.seq (.reg [⟨.mov (.v 1), none, none⟩, ⟨.mov (.l 0), (some 2), none⟩] [])
 (.ret))))),
 [.t 2], false, false⟩
def m9 : List Nat := [0, 1, 4, 5, 11, 15, 25]

/-- loop.example/g00293/laws.toVal -/
def c11 : FC := ⟨1, 4, .seq (.reg [⟨.box 33 4 (.v 0), (some 1), none⟩, ⟨.alloc 25 [.int .i64 0, .int .i64 0, .imm true 0 [], .imm true 0 []], (some 2), none⟩] [])
 (.seq (.reg [⟨.alloc 25 [.int .i64 0, .int .i64 0, .imm true 0 [], .imm true 0 []], (some 3), none⟩] [])
 (.seq (.reg [⟨.fptr 0 (.v 1), none, none⟩, ⟨.load none (.l 0), none, none⟩, ⟨.fptr 0 (.v 3), none, none⟩, ⟨.store 1 (.l 2) (.l 1), none, none⟩] [])
 (.seq (.reg [⟨.fptr 1 (.v 1), none, none⟩, ⟨.load none (.l 0), none, none⟩, ⟨.fptr 1 (.v 3), none, none⟩, ⟨.store 1 (.l 2) (.l 1), none, none⟩] [])
 (.seq (.reg [⟨.fptr 2 (.v 1), none, none⟩, ⟨.load none (.l 0), none, none⟩, ⟨.call 30 [.l 1], none, none⟩, ⟨.fptr 2 (.v 3), none, none⟩, ⟨.store 1 (.l 3) (.l 2), none, none⟩] [])
 (.seq (.reg [⟨.fptr 3 (.v 1), none, none⟩, ⟨.load none (.l 0), none, none⟩, ⟨.call 12 [.l 1], none, none⟩, ⟨.fptr 3 (.v 3), none, none⟩, ⟨.store 1 (.l 3) (.l 2), none, none⟩] [])
 (.seq (.reg [⟨.load (some 4) (.v 3), none, none⟩, ⟨.store 4 (.v 2) (.l 0), none, none⟩] [])
 (.ret))))))),
 [.cl (some 4) 2], true, true⟩
def m11 : List Nat := [0, 1, 2, 3]

/-- loop.example/g00293/laws.toValS -/
def c12 : FC := ⟨1, 5, .seq (.reg [⟨.mov (.c (.imm true 0 [])), (some 1), none⟩] [])
 (.seq (.reg [⟨.mov (.v 0), none, none⟩, ⟨.len false (.l 0), none, none⟩, ⟨.mk 25 4 64 [.int .i64 0, .int .i64 0, .imm true 0 [], .imm true 0 []] (.l 1) (.l 1), none, none⟩, ⟨.mov (.l 2), (some 2), none⟩] [])
 (.seq (.seq (.reg [⟨.mov (.c (.int .i64 0)), (some 3), none⟩] [])
 (.block 0 (.loop (.seq (.seq (.reg [⟨.mov (.v 3), none, none⟩, ⟨.mov (.v 0), none, none⟩, ⟨.len false (.l 1), none, none⟩, ⟨.bin .lss (.l 0) (.l 2), (some 4), none⟩] [])
 (.cond (.v 4) (.skip)
 (.exit 0)))
 (.seq (.block 1 (.reg [⟨.mov (.v 2), none, none⟩, ⟨.mov (.v 3), none, none⟩, ⟨.mov (.v 0), none, none⟩, ⟨.mov (.v 3), none, none⟩, ⟨.iptr 4 (.l 2) (.l 3), none, none⟩, ⟨.load (some 4) (.l 4), none, none⟩, ⟨.call 11 [.l 5], none, none⟩, ⟨.iptr 4 (.l 0) (.l 1), none, none⟩, ⟨.store 4 (.l 7) (.l 6), none, none⟩] []))
 (.reg [⟨.mov (.v 3), none, none⟩, ⟨.bin .add (.l 0) (.c (.int .i64 1)), none, none⟩, ⟨.mov (.l 1), (some 3), none⟩] []))))))
 (.seq (.reg [⟨.mov (.v 2), none, none⟩, ⟨.mov (.l 0), (some 1), none⟩] [])
 (.ret)))),
 [.t 1], true, true⟩
def m12 : List Nat := [0, 2, 3, 4, 11]

/-- loop.example/g00293/laws.eqByteS -/
def c13 : FC := ⟨2, 7, .seq (.reg [⟨.mov (.c (.bool false)), (some 2), none⟩] [])
 (.seq (.seq (.reg [⟨.mov (.v 0), none, none⟩, ⟨.len false (.l 0), none, none⟩, ⟨.mov (.v 1), none, none⟩, ⟨.len false (.l 2), none, none⟩, ⟨.bin .neq (.l 1) (.l 3), (some 4), none⟩] [])
 (.cond (.v 4) (.seq (.reg [⟨.mov (.c (.bool false)), (some 2), none⟩] [])
 (.ret))
 (.skip)))
 (.seq (.seq (.reg [⟨.mov (.c (.int .i64 0)), (some 3), none⟩] [])
 (.block 0 (.loop (.seq (.seq (.reg [⟨.mov (.v 3), none, none⟩, ⟨.mov (.v 0), none, none⟩, ⟨.len false (.l 1), none, none⟩, ⟨.bin .lss (.l 0) (.l 2), (some 5), none⟩] [])
 (.cond (.v 5) (.skip)
 (.exit 0)))
 (.seq (.block 1 (.seq (.reg [⟨.mov (.v 0), none, none⟩, ⟨.mov (.v 3), none, none⟩, ⟨.iptr 1 (.l 0) (.l 1), none, none⟩, ⟨.load none (.l 2), none, none⟩, ⟨.mov (.v 1), none, none⟩, ⟨.mov (.v 3), none, none⟩, ⟨.iptr 1 (.l 4) (.l 5), none, none⟩, ⟨.load none (.l 6), none, none⟩, ⟨.bin .neq (.l 3) (.l 7), (some 6), none⟩] [])
 (.cond (.v 6) (.seq (.reg [⟨.mov (.c (.bool false)), (some 2), none⟩] [])
 (.ret))
 (.skip))))
 (.reg [⟨.mov (.v 3), none, none⟩, ⟨.bin .add (.l 0) (.c (.int .i64 1)), none, none⟩, ⟨.mov (.l 1), (some 3), none⟩] []))))))
 (.seq (.reg [⟨.mov (.c (.bool true)), (some 2), none⟩] [])
 (.ret)))),
 [.t 2], true, false⟩
def m13 : List Nat := [0, 1, 4, 5, 10, 14, 25]

/-- loop.example/g00293/laws.eqVal -/
def c14 : FC := ⟨2, 9, .seq (.reg [⟨.box 25 4 (.v 0), (some 2), none⟩, ⟨.box 25 4 (.v 1), (some 3), none⟩, ⟨.mov (.c (.bool false)), (some 4), none⟩] [])
 (.seq (.seq (.reg [⟨.fptr 0 (.v 2), none, none⟩, ⟨.load none (.l 0), none, none⟩, ⟨.fptr 0 (.v 3), none, none⟩, ⟨.load none (.l 2), none, none⟩, ⟨.bin .neq (.l 1) (.l 3), (some 5), none⟩] [])
 (.cond (.v 5) (.seq (.reg [⟨.mov (.c (.bool false)), (some 4), none⟩] [])
 (.ret))
 (.skip)))
 (.seq (.seq (.reg [⟨.fptr 1 (.v 2), none, none⟩, ⟨.load none (.l 0), none, none⟩, ⟨.fptr 1 (.v 3), none, none⟩, ⟨.load none (.l 2), none, none⟩, ⟨.bin .neq (.l 1) (.l 3), (some 6), none⟩] [])
 (.cond (.v 6) (.seq (.reg [⟨.mov (.c (.bool false)), (some 4), none⟩] [])
 (.ret))
 (.skip)))
 (.seq (.seq (.reg [⟨.fptr 2 (.v 2), none, none⟩, ⟨.load none (.l 0), none, none⟩, ⟨.fptr 2 (.v 3), none, none⟩, ⟨.load none (.l 2), none, none⟩, ⟨.call 13 [.l 1, .l 3], none, none⟩, ⟨.un .not (.l 4), (some 7), none⟩] [])
 (.cond (.v 7) (.seq (.reg [⟨.mov (.c (.bool false)), (some 4), none⟩] [])
 (.ret))
 (.skip)))
 (.seq (.seq (.reg [⟨.fptr 3 (.v 2), none, none⟩, ⟨.load none (.l 0), none, none⟩, ⟨.fptr 3 (.v 3), none, none⟩, ⟨.load none (.l 2), none, none⟩, ⟨.call 15 [.l 1, .l 3], none, none⟩, ⟨.un .not (.l 4), (some 8), none⟩] [])
 (.cond (.v 8) (.seq (.reg [⟨.mov (.c (.bool false)), (some 4), none⟩] [])
 (.ret))
 (.skip)))
 (.seq (.reg [⟨.mov (.c (.bool true)), (some 4), none⟩] [])
 (.ret)))))),
 [.t 4], true, false⟩
def m14 : List Nat := [0, 1, 2, 3, 4, 9, 14, 20, 26]

/-- loop.example/g00293/laws.eqValS -/
def c15 : FC := ⟨2, 7, .seq (.reg [⟨.mov (.c (.bool false)), (some 2), none⟩] [])
 (.seq (.seq (.reg [⟨.mov (.v 0), none, none⟩, ⟨.len false (.l 0), none, none⟩, ⟨.mov (.v 1), none, none⟩, ⟨.len false (.l 2), none, none⟩, ⟨.bin .neq (.l 1) (.l 3), (some 4), none⟩] [])
 (.cond (.v 4) (.seq (.reg [⟨.mov (.c (.bool false)), (some 2), none⟩] [])
 (.ret))
 (.skip)))
 (.seq (.seq (.reg [⟨.mov (.c (.int .i64 0)), (some 3), none⟩] [])
 (.block 0 (.loop (.seq (.seq (.reg [⟨.mov (.v 3), none, none⟩, ⟨.mov (.v 0), none, none⟩, ⟨.len false (.l 1), none, none⟩, ⟨.bin .lss (.l 0) (.l 2), (some 5), none⟩] [])
 (.cond (.v 5) (.skip)
 (.exit 0)))
 (.seq (.block 1 (.seq (.reg [⟨.mov (.v 0), none, none⟩, ⟨.mov (.v 3), none, none⟩, ⟨.iptr 4 (.l 0) (.l 1), none, none⟩, ⟨.load (some 4) (.l 2), none, none⟩, ⟨.mov (.v 1), none, none⟩, ⟨.mov (.v 3), none, none⟩, ⟨.iptr 4 (.l 4) (.l 5), none, none⟩, ⟨.load (some 4) (.l 6), none, none⟩, ⟨.call 14 [.l 3, .l 7], none, none⟩, ⟨.un .not (.l 8), (some 6), none⟩] [])
 (.cond (.v 6) (.seq (.reg [⟨.mov (.c (.bool false)), (some 2), none⟩] [])
 (.ret))
 (.skip))))
 (.reg [⟨.mov (.v 3), none, none⟩, ⟨.bin .add (.l 0) (.c (.int .i64 1)), none, none⟩, ⟨.mov (.l 1), (some 3), none⟩] []))))))
 (.seq (.reg [⟨.mov (.c (.bool true)), (some 2), none⟩] [])
 (.ret)))),
 [.t 2], true, false⟩
def m15 : List Nat := [0, 1, 4, 5, 10, 14, 26]

/-- loop.example/g00293/laws.markVal -/
def c16 : FC := ⟨2, 4, .seq (.reg [⟨.box 25 4 (.v 0), (some 2), none⟩, ⟨.mov (.c (.int .i64 0)), (some 3), none⟩] [])
 (.seq (.reg [⟨.fptr 2 (.v 2), none, none⟩, ⟨.load none (.l 0), none, none⟩, ⟨.mov (.v 1), none, none⟩, ⟨.call 18 [.l 1, .l 2], none, none⟩, ⟨.mov (.l 3), (some 1), none⟩] [])
 (.seq (.reg [⟨.fptr 3 (.v 2), none, none⟩, ⟨.load none (.l 0), none, none⟩, ⟨.mov (.v 1), none, none⟩, ⟨.call 17 [.l 1, .l 2], none, none⟩, ⟨.mov (.l 3), (some 1), none⟩] [])
 (.seq (.reg [⟨.mov (.v 1), none, none⟩, ⟨.mov (.l 0), (some 3), none⟩] [])
 (.ret)))),
 [.t 3], true, false⟩
def m16 : List Nat := [0, 1, 2, 4]

/-- loop.example/g00293/laws.markValS -/
def c17 : FC := ⟨2, 5, .seq (.reg [⟨.mov (.c (.int .i64 0)), (some 2), none⟩] [])
 (.seq (.seq (.reg [⟨.mov (.c (.int .i64 0)), (some 3), none⟩] [])
 (.block 0 (.loop (.seq (.seq (.reg [⟨.mov (.v 3), none, none⟩, ⟨.mov (.v 0), none, none⟩, ⟨.len false (.l 1), none, none⟩, ⟨.bin .lss (.l 0) (.l 2), (some 4), none⟩] [])
 (.cond (.v 4) (.skip)
 (.exit 0)))
 (.seq (.block 1 (.seq (.reg [⟨.mov (.v 0), none, none⟩, ⟨.mov (.v 3), none, none⟩, ⟨.mov (.v 1), none, none⟩, ⟨.iptr 4 (.l 0) (.l 1), none, none⟩, ⟨.fptr 0 (.l 3), none, none⟩, ⟨.store 1 (.l 4) (.l 2), none, none⟩] [])
 (.seq (.reg [⟨.mov (.v 1), none, none⟩, ⟨.bin .add (.l 0) (.c (.int .i64 1)), none, none⟩, ⟨.mov (.l 1), (some 1), none⟩] [])
 (.seq (.reg [⟨.mov (.v 0), none, none⟩, ⟨.mov (.v 3), none, none⟩, ⟨.mov (.v 1), none, none⟩, ⟨.iptr 4 (.l 0) (.l 1), none, none⟩, ⟨.fptr 1 (.l 3), none, none⟩, ⟨.store 1 (.l 4) (.l 2), none, none⟩] [])
 (.seq (.reg [⟨.mov (.v 1), none, none⟩, ⟨.bin .add (.l 0) (.c (.int .i64 1)), none, none⟩, ⟨.mov (.l 1), (some 1), none⟩] [])
 (.seq (.reg [⟨.mov (.v 0), none, none⟩, ⟨.mov (.v 3), none, none⟩, ⟨.iptr 4 (.l 0) (.l 1), none, none⟩, ⟨.fptr 2 (.l 2), none, none⟩, ⟨.load none (.l 3), none, none⟩, ⟨.mov (.v 1), none, none⟩, ⟨.call 18 [.l 4, .l 5], none, none⟩, ⟨.mov (.l 6), (some 1), none⟩] [])
 (.reg [⟨.mov (.v 0), none, none⟩, ⟨.mov (.v 3), none, none⟩, ⟨.iptr 4 (.l 0) (.l 1), none, none⟩, ⟨.fptr 3 (.l 2), none, none⟩, ⟨.load none (.l 3), none, none⟩, ⟨.mov (.v 1), none, none⟩, ⟨.call 17 [.l 4, .l 5], none, none⟩, ⟨.mov (.l 6), (some 1), none⟩] [])))))))
 (.reg [⟨.mov (.v 3), none, none⟩, ⟨.bin .add (.l 0) (.c (.int .i64 1)), none, none⟩, ⟨.mov (.l 1), (some 3), none⟩] []))))))
 (.seq (.reg [⟨.mov (.v 1), none, none⟩, ⟨.mov (.l 0), (some 2), none⟩] [])
 (.ret))),
 [.t 2], true, false⟩
def m17 : List Nat := [0, 1, 4, 5, 9]

/-- loop.example/g00293/laws.markByteS -/
def c18 : FC := ⟨2, 5, .seq (.reg [⟨.mov (.c (.int .i64 0)), (some 2), none⟩] [])
 (.seq (.seq (.reg [⟨.mov (.c (.int .i64 0)), (some 3), none⟩] [])
 (.block 0 (.loop (.seq (.seq (.reg [⟨.mov (.v 3), none, none⟩, ⟨.mov (.v 0), none, none⟩, ⟨.len false (.l 1), none, none⟩, ⟨.bin .lss (.l 0) (.l 2), (some 4), none⟩] [])
 (.cond (.v 4) (.skip)
 (.exit 0)))
 (.seq (.block 1 (.seq (.reg [⟨.mov (.v 0), none, none⟩, ⟨.mov (.v 3), none, none⟩, ⟨.mov (.v 1), none, none⟩, ⟨.conv .u8 (.l 2), none, none⟩, ⟨.iptr 1 (.l 0) (.l 1), none, none⟩, ⟨.store 1 (.l 4) (.l 3), none, none⟩] [])
 (.reg [⟨.mov (.v 1), none, none⟩, ⟨.bin .add (.l 0) (.c (.int .i64 1)), none, none⟩, ⟨.mov (.l 1), (some 1), none⟩] [])))
 (.reg [⟨.mov (.v 3), none, none⟩, ⟨.bin .add (.l 0) (.c (.int .i64 1)), none, none⟩, ⟨.mov (.l 1), (some 3), none⟩] []))))))
 (.seq (.reg [⟨.mov (.v 1), none, none⟩, ⟨.mov (.l 0), (some 2), none⟩] [])
 (.ret))),
 [.t 2], true, false⟩
def m18 : List Nat := [0, 1, 4, 5, 9]

/-- loop.example/g00293/laws.heldByteS -/
def c19 : FC := ⟨2, 6, .seq (.reg [⟨.mov (.c (.int .i64 0)), (some 2), none⟩] [])
 (.seq (.seq (.reg [⟨.mov (.c (.int .i64 0)), (some 3), none⟩] [])
 (.block 0 (.loop (.seq (.seq (.reg [⟨.mov (.v 3), none, none⟩, ⟨.mov (.v 0), none, none⟩, ⟨.len false (.l 1), none, none⟩, ⟨.bin .lss (.l 0) (.l 2), (some 4), none⟩] [])
 (.cond (.v 4) (.skip)
 (.exit 0)))
 (.seq (.block 1 (.seq (.seq (.reg [⟨.mov (.v 0), none, none⟩, ⟨.mov (.v 3), none, none⟩, ⟨.iptr 1 (.l 0) (.l 1), none, none⟩, ⟨.load none (.l 2), none, none⟩, ⟨.mov (.v 1), none, none⟩, ⟨.conv .u8 (.l 4), none, none⟩, ⟨.bin .neq (.l 3) (.l 5), (some 5), none⟩] [])
 (.cond (.v 5) (.seq (.reg [⟨.mov (.c (.int .i64 (-1))), (some 2), none⟩] [])
 (.ret))
 (.skip)))
 (.reg [⟨.mov (.v 1), none, none⟩, ⟨.bin .add (.l 0) (.c (.int .i64 1)), none, none⟩, ⟨.mov (.l 1), (some 1), none⟩] [])))
 (.reg [⟨.mov (.v 3), none, none⟩, ⟨.bin .add (.l 0) (.c (.int .i64 1)), none, none⟩, ⟨.mov (.l 1), (some 3), none⟩] []))))))
 (.seq (.reg [⟨.mov (.v 1), none, none⟩, ⟨.mov (.l 0), (some 2), none⟩] [])
 (.ret))),
 [.t 2], true, false⟩
def m19 : List Nat := [0, 1, 4, 5, 9, 18]

/-- loop.example/g00293/laws.szByteS -/
def c27 : FC := ⟨2, 4, .seq (.reg [⟨.mov (.c (.int .i64 0)), (some 2), none⟩] [])
 (.seq (.reg [⟨.mov (.v 1), none, none⟩, ⟨.mov (.v 0), none, none⟩, ⟨.len false (.l 1), none, none⟩, ⟨.bin .sub (.l 0) (.l 2), none, none⟩, ⟨.mov (.l 3), (some 1), none⟩] [])
 (.seq (.seq (.reg [⟨.mov (.v 1), none, none⟩, ⟨.bin .lss (.l 0) (.c (.int .i64 0)), (some 3), none⟩] [])
 (.cond (.v 3) (.seq (.reg [⟨.mov (.c (.int .i64 (-1))), (some 2), none⟩] [])
 (.ret))
 (.skip)))
 (.seq (.reg [⟨.mov (.v 1), none, none⟩, ⟨.mov (.l 0), (some 2), none⟩] [])
 (.ret)))),
 [.t 2], false, false⟩
def m27 : List Nat := [0, 1, 4, 10]

/-- loop.example/g00293/laws.toByteS -/
def c30 : FC := ⟨1, 5, .seq (.reg [⟨.mov (.c (.imm true 0 [])), (some 1), none⟩] [])
 (.seq (.reg [⟨.mov (.v 0), none, none⟩, ⟨.len false (.l 0), none, none⟩, ⟨.mk 5 1 1 [.int .u8 0] (.l 1) (.l 1), none, none⟩, ⟨.mov (.l 2), (some 2), none⟩] [])
 (.seq (.seq (.reg [⟨.mov (.c (.int .i64 0)), (some 3), none⟩] [])
 (.block 0 (.loop (.seq (.seq (.reg [⟨.mov (.v 3), none, none⟩, ⟨.mov (.v 0), none, none⟩, ⟨.len false (.l 1), none, none⟩, ⟨.bin .lss (.l 0) (.l 2), (some 4), none⟩] [])
 (.cond (.v 4) (.skip)
 (.exit 0)))
 (.seq (.block 1 (.reg [⟨.mov (.v 2), none, none⟩, ⟨.mov (.v 3), none, none⟩, ⟨.mov (.v 0), none, none⟩, ⟨.mov (.v 3), none, none⟩, ⟨.iptr 1 (.l 2) (.l 3), none, none⟩, ⟨.load none (.l 4), none, none⟩, ⟨.iptr 1 (.l 0) (.l 1), none, none⟩, ⟨.store 1 (.l 6) (.l 5), none, none⟩] []))
 (.reg [⟨.mov (.v 3), none, none⟩, ⟨.bin .add (.l 0) (.c (.int .i64 1)), none, none⟩, ⟨.mov (.l 1), (some 3), none⟩] []))))))
 (.seq (.reg [⟨.mov (.v 2), none, none⟩, ⟨.mov (.l 0), (some 1), none⟩] [])
 (.ret)))),
 [.t 1], true, true⟩
def m30 : List Nat := [0, 2, 3, 4, 11]

theorem p4 : Fit Tryd.prog 4 c4 := ⟨Tryd.f4, m4, by kernel_rfl, by kernel_rfl⟩
theorem p8 : Fit Tryd.prog 8 c8 := ⟨Tryd.f8, m8, by kernel_rfl, by kernel_rfl⟩
theorem p9 : Fit Tryd.prog 9 c9 := ⟨Tryd.f9, m9, by kernel_rfl, by kernel_rfl⟩
theorem p11 : Fit Tryd.prog 11 c11 := ⟨Tryd.f11, m11, by kernel_rfl, by kernel_rfl⟩
theorem p12 : Fit Tryd.prog 12 c12 := ⟨Tryd.f12, m12, by kernel_rfl, by kernel_rfl⟩
theorem p13 : Fit Tryd.prog 13 c13 := ⟨Tryd.f13, m13, by kernel_rfl, by kernel_rfl⟩
theorem p14 : Fit Tryd.prog 14 c14 := ⟨Tryd.f14, m14, by kernel_rfl, by kernel_rfl⟩
theorem p15 : Fit Tryd.prog 15 c15 := ⟨Tryd.f15, m15, by kernel_rfl, by kernel_rfl⟩
theorem p16 : Fit Tryd.prog 16 c16 := ⟨Tryd.f16, m16, by kernel_rfl, by kernel_rfl⟩
theorem p17 : Fit Tryd.prog 17 c17 := ⟨Tryd.f17, m17, by kernel_rfl, by kernel_rfl⟩
theorem p18 : Fit Tryd.prog 18 c18 := ⟨Tryd.f18, m18, by kernel_rfl, by kernel_rfl⟩
theorem p19 : Fit Tryd.prog 19 c19 := ⟨Tryd.f19, m19, by kernel_rfl, by kernel_rfl⟩
theorem p27 : Fit Tryd.prog 27 c27 := ⟨Tryd.f27, m27, by kernel_rfl, by kernel_rfl⟩
theorem p30 : Fit Tryd.prog 30 c30 := ⟨Tryd.f30, m30, by kernel_rfl, by kernel_rfl⟩
def tbl : List (Nat × FC) := [(4, c4), (8, c8), (9, c9), (11, c11), (12, c12), (13, c13), (14, c14), (15, c15), (16, c16), (17, c17), (18, c18), (19, c19), (27, c27), (30, c30)]
theorem tbl_fits : FitL Tryd.prog tbl := FitL.cons p4 (FitL.cons p8 (FitL.cons p9 (FitL.cons p11 (FitL.cons p12 (FitL.cons p13 (FitL.cons p14 (FitL.cons p15 (FitL.cons p16 (FitL.cons p17 (FitL.cons p18 (FitL.cons p19 (FitL.cons p27 (FitL.cons p30 (FitL.nil))))))))))))))
end Go.Proofs.YthogcanomihelaaDoor.Gx
