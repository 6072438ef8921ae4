/- MADE BY PROGRAM (gen.py): what each function of the program does, in the evaluator's words, each held against the program's text by the kernel. -/
import Derived.Test.YthogcanomihelaaDoorAe17
import Derived.Test.YthogcanomihelaaDoorChecked
import Derived.KernelRfl
import Derived.Test.YthogcanomihelaaDoorPr
set_option linter.unusedSimpArgs false
set_option linter.unusedVariables false
namespace Go.Proofs.YthogcanomihelaaDoor.Gs
open Go Go.Proofs Go.Proofs.YthogcanomihelaaDoor.Ae
/-- loop.example/g00293/impl.ShowVal -/
def c6 : FC := ⟨2, 5, .seq (.reg [⟨.box 25 4 (.v 0), (some 2), none⟩, ⟨.mov (.c (.imm true 0 [])), (some 3), none⟩] [])
 (.seq (.reg [⟨.build [.imm true 0 []] [], none, none⟩, ⟨.alloc 50 [.imm true 0 []], (some 4), none⟩, ⟨.store 1 (.l 1) (.l 0), none, none⟩] [])
 (.seq (.reg [⟨.mov (.v 1), none, none⟩, ⟨.call 24 [.v 4, .v 2, .l 0, .c (.int .i64 0)], none, none⟩] [])
 (.seq (.reg [⟨.call 26 [.v 4], none, none⟩, ⟨.call 25 [.l 0], none, none⟩, ⟨.mov (.l 1), (some 3), none⟩] [])
 (.ret)))),
 [.t 3], false, true⟩
def m6 : List Nat := [0, 1, 2, 4, 5]

/-- loop.example/g00293/spec.ShowVal -/
def c10 : FC := ⟨2, 4, .seq (.reg [⟨.box 25 4 (.v 0), (some 2), none⟩, ⟨.mov (.c (.imm true 0 [])), (some 3), none⟩] [])
 (.seq (.reg [⟨.load (some 4) (.v 2), none, none⟩, ⟨.mov (.v 1), none, none⟩, ⟨.call 29 [.c (.imm true 0 []), .l 0, .l 1, .c (.int .i64 8)], none, none⟩, ⟨.call 28 [.l 2], none, none⟩, ⟨.mov (.l 3), (some 3), none⟩] [])
 (.ret)),
 [.t 3], false, true⟩
def m10 : List Nat := [0, 1, 2, 4]

/-- loop.example/g00293/impl.showVal -/
def c24 : FC := ⟨4, 15, .seq (.reg [⟨.box 52 1 (.v 0), (some 4), none⟩, ⟨.box 23 1 (.v 2), (some 5), none⟩, ⟨.box 3 1 (.v 3), (some 6), none⟩, ⟨.mov (.c (.bool false)), (some 7), none⟩] [])
 (.seq (.seq (.reg [⟨.mov (.v 1), none, none⟩, ⟨.nilck (.l 0), none, none⟩, ⟨.fptr 0 (.l 1), none, none⟩, ⟨.load none (.l 2), none, none⟩, ⟨.mov (.v 1), none, none⟩, ⟨.nilck (.l 4), none, none⟩, ⟨.fptr 1 (.l 5), none, none⟩, ⟨.load none (.l 6), none, none⟩, ⟨.mov (.v 1), none, none⟩, ⟨.nilck (.l 8), none, none⟩, ⟨.fptr 2 (.l 9), none, none⟩, ⟨.load none (.l 10), none, none⟩, ⟨.call 35 [.l 3, .l 7, .l 11], none, none⟩, ⟨.mov (.l 12), none, none⟩, ⟨.ext (.l 13) 0, none, none⟩, ⟨.ext (.l 13) 1, none, none⟩, ⟨.mov (.l 14), (some 8), none⟩, ⟨.mov (.l 15), (some 9), none⟩] [])
 (.seq (.reg [⟨.mov (.v 9), (some 11), none⟩] [])
 (.cond (.v 11) (.seq (.reg [⟨.load none (.v 4), none, none⟩, ⟨.mov (.v 8), none, none⟩, ⟨.call 36 [.l 0, .l 1], none, none⟩, ⟨.mov (.l 2), (some 7), none⟩] [])
 (.ret))
 (.skip))))
 (.seq (.seq (.reg [⟨.load none (.v 6), none, none⟩, ⟨.bin .eql (.l 0) (.c (.int .i64 8)), (some 12), none⟩] [])
 (.cond (.v 12) (.seq (.reg [⟨.load none (.v 4), none, none⟩, ⟨.call 36 [.l 0, .c (.str ⟨#[46, 46]⟩)], none, none⟩, ⟨.mov (.l 1), (some 7), none⟩] [])
 (.ret))
 (.skip)))
 (.seq (.reg [⟨.mov (.v 1), none, none⟩, ⟨.nilck (.l 0), none, none⟩, ⟨.fptr 3 (.l 1), none, none⟩, ⟨.load none (.l 2), none, none⟩, ⟨.alloc 23 [.imm true 0 []], (some 10), none⟩, ⟨.store 1 (.l 4) (.l 3), none, none⟩] [])
 (.seq (.seq (.reg [⟨.mov (.v 1), none, none⟩, ⟨.nilck (.l 0), none, none⟩, ⟨.fptr 0 (.l 1), none, none⟩, ⟨.load none (.l 2), none, none⟩, ⟨.bin .eql (.l 3) (.c (.int .i64 5)), (some 13), none⟩] [])
 (.cond (.v 13) (.seq (.reg [⟨.store 1 (.v 10) (.c (.imm true 0 [])), none, none⟩] [])
 (.seq (.reg [⟨.mov (.v 1), none, none⟩, ⟨.nilck (.l 0), none, none⟩, ⟨.fptr 1 (.l 1), none, none⟩, ⟨.load none (.l 2), none, none⟩, ⟨.load none (.v 5), none, none⟩, ⟨.len false (.l 4), none, none⟩, ⟨.bin .sub (.l 5) (.c (.int .i64 1)), none, none⟩, ⟨.call 37 [.l 3, .c (.int .i64 0), .l 6], (some 14), none⟩] [])
 (.cond (.v 14) (.reg [⟨.load none (.v 5), none, none⟩, ⟨.mov (.v 1), none, none⟩, ⟨.nilck (.l 1), none, none⟩, ⟨.fptr 1 (.l 2), none, none⟩, ⟨.load none (.l 3), none, none⟩, ⟨.mov (.v 1), none, none⟩, ⟨.nilck (.l 5), none, none⟩, ⟨.fptr 1 (.l 6), none, none⟩, ⟨.load none (.l 7), none, none⟩, ⟨.bin .add (.l 8) (.c (.int .i64 1)), none, none⟩, ⟨.slice 4 (.l 0) (some (.l 4)) (some (.l 9)) none, none, none⟩, ⟨.store 1 (.v 10) (.l 10), none, none⟩] [])
 (.skip))))
 (.skip)))
 (.seq (.reg [⟨.load none (.v 4), none, none⟩, ⟨.mov (.v 1), none, none⟩, ⟨.nilck (.l 1), none, none⟩, ⟨.fptr 0 (.l 2), none, none⟩, ⟨.load none (.l 3), none, none⟩, ⟨.mov (.v 1), none, none⟩, ⟨.nilck (.l 5), none, none⟩, ⟨.fptr 1 (.l 6), none, none⟩, ⟨.load none (.l 7), none, none⟩, ⟨.call 38 [.l 4, .l 8], none, none⟩, ⟨.call 36 [.l 0, .l 9], none, none⟩, ⟨.mov (.l 10), none, none⟩, ⟨.load none (.v 4), none, (some (11, true))⟩, ⟨.load none (.v 10), none, (some (11, true))⟩, ⟨.len false (.l 13), none, (some (11, true))⟩, ⟨.mkfn 40 [] [.v 4, .v 10, .v 5, .v 6], none, (some (11, true))⟩, ⟨.call 39 [.l 12, .l 14, .l 15], none, (some (11, true))⟩, ⟨.pick (.l 11) (.l 16) (.c (.bool false)), none, none⟩, ⟨.mov (.l 17), (some 7), none⟩] [(0, 10)])
 (.ret)))))),
 [.t 7], false, true⟩
def m24 : List Nat := [0, 1, 2, 3, 4, 6, 7, 8, 9, 10, 11, 28, 33, 44, 52]

/-- bytes.Clone -/
def c25 : FC := ⟨1, 3, .seq (.reg [⟨.mov (.c (.imm true 0 [])), (some 1), none⟩] [])
 (.alt (.reg [⟨.mov (.v 0), none, none⟩, ⟨.isnil 0 false (.l 0), (some 2), none⟩] []) (.v 2) (.seq (.reg [⟨.mov (.c (.imm true 0 [])), (some 1), none⟩] [])
 (.ret))
 (.skip)
 (.seq (.reg [⟨.lit 5 1 [.int .u8 0] [] false false, none, none⟩, ⟨.mov (.v 0), none, none⟩, ⟨.app 5 1 1 (.l 0) (.l 1), none, none⟩, ⟨.mov (.l 2), (some 1), none⟩] [])
 (.ret))),
 [.t 1], false, true⟩
def m25 : List Nat := [0, 2, 4]

/-- (*loop.example/g00293/impl.shower).told -/
def c26 : FC := ⟨1, 2, .seq (.reg [⟨.mov (.c (.imm true 0 [])), (some 1), none⟩] [])
 (.seq (.reg [⟨.mov (.v 0), none, none⟩, ⟨.nilck (.l 0), none, none⟩, ⟨.fptr 0 (.l 1), none, none⟩, ⟨.load none (.l 2), none, none⟩, ⟨.mov (.v 0), none, none⟩, ⟨.nilck (.l 4), none, none⟩, ⟨.fptr 0 (.l 5), none, none⟩, ⟨.load none (.l 6), none, none⟩, ⟨.len false (.l 7), none, none⟩, ⟨.min (.l 8) (.c (.int .i64 30000)), none, none⟩, ⟨.slice 1 (.l 3) none (some (.l 9)) none, none, none⟩, ⟨.mov (.l 10), (some 1), none⟩] [])
 (.ret)),
 [.t 1], false, false⟩
def m26 : List Nat := [0, 2]

/-- loop.example/g00293/spec.l14cut -/
def c28 : FC := ⟨1, 3, .seq (.reg [⟨.mov (.c (.imm true 0 [])), (some 1), none⟩] [])
 (.seq (.seq (.reg [⟨.mov (.v 0), none, none⟩, ⟨.len false (.l 0), none, none⟩, ⟨.bin .gtr (.l 1) (.c (.int .i64 30000)), (some 2), none⟩] [])
 (.cond (.v 2) (.seq (.reg [⟨.mov (.v 0), none, none⟩, ⟨.slice 1 (.l 0) none (some (.c (.int .i64 30000))) none, none, none⟩, ⟨.mov (.l 1), (some 1), none⟩] [])
 (.ret))
 (.skip)))
 (.seq (.reg [⟨.mov (.v 0), none, none⟩, ⟨.mov (.l 0), (some 1), none⟩] [])
 (.ret))),
 [.t 1], true, true⟩
def m28 : List Nat := [0, 2, 5]

/-- loop.example/g00293/spec.l14show -/
def c29 : FC := ⟨4, 22, .seq (.reg [⟨.box 25 4 (.v 1), (some 4), none⟩, ⟨.mov (.c (.imm true 0 [])), (some 5), none⟩] [])
 (.seq (.seq (.reg [⟨.fptr 0 (.v 4), none, none⟩, ⟨.load none (.l 0), (some 8), none⟩] [])
 (.block 0 (.seq (.reg [⟨.bin .eql (.v 8) (.c (.int .i64 0)), none, none⟩, ⟨.mov (.l 0), (some 9), none⟩] [])
 (.cond (.v 9) (.seq (.reg [⟨.mov (.v 0), none, none⟩, ⟨.app 5 1 1 (.l 0) (.c (.str ⟨#[40, 41]⟩)), none, none⟩, ⟨.mov (.l 1), (some 5), none⟩] [])
 (.ret))
 (.seq (.reg [⟨.bin .eql (.v 8) (.c (.int .i64 1)), none, none⟩, ⟨.mov (.l 0), (some 10), none⟩] [])
 (.cond (.v 10) (.seq (.reg [⟨.mov (.v 0), none, none⟩, ⟨.fptr 1 (.v 4), none, none⟩, ⟨.load none (.l 1), none, none⟩, ⟨.call 41 [.l 2], none, none⟩, ⟨.app 5 1 1 (.l 0) (.l 3), none, none⟩, ⟨.mov (.l 4), (some 5), none⟩] [])
 (.ret))
 (.seq (.reg [⟨.bin .eql (.v 8) (.c (.int .i64 4)), none, none⟩, ⟨.mov (.l 0), (some 11), none⟩] [])
 (.cond (.v 11) (.seq (.reg [⟨.mov (.v 0), none, none⟩, ⟨.app 5 1 1 (.l 0) (.c (.str ⟨#[102, 110]⟩)), none, none⟩, ⟨.mov (.l 1), (some 5), none⟩] [])
 (.ret))
 (.seq (.reg [⟨.bin .eql (.v 8) (.c (.int .i64 2)), none, none⟩, ⟨.mov (.l 0), (some 12), none⟩] [])
 (.cond (.v 12) (.seq (.reg [⟨.mov (.v 0), none, none⟩, ⟨.lit 5 1 [.int .u8 0] [(0, .c (.int .u8 34))] false false, none, none⟩, ⟨.app 5 1 1 (.l 0) (.l 1), none, none⟩, ⟨.fptr 2 (.v 4), none, none⟩, ⟨.load none (.l 3), none, none⟩, ⟨.app 5 1 1 (.l 2) (.l 4), none, none⟩, ⟨.lit 5 1 [.int .u8 0] [(0, .c (.int .u8 34))] false false, none, none⟩, ⟨.app 5 1 1 (.l 5) (.l 6), none, none⟩, ⟨.mov (.l 7), (some 5), none⟩] [(4, 2)])
 (.ret))
 (.skip)))))))))))
 (.seq (.seq (.reg [⟨.mov (.v 3), none, none⟩, ⟨.bin .leq (.l 0) (.c (.int .i64 0)), (some 13), none⟩] [])
 (.cond (.v 13) (.seq (.reg [⟨.mov (.v 0), none, none⟩, ⟨.app 5 1 1 (.l 0) (.c (.str ⟨#[46, 46]⟩)), none, none⟩, ⟨.mov (.l 1), (some 5), none⟩] [])
 (.ret))
 (.skip)))
 (.seq (.reg [⟨.fptr 3 (.v 4), none, none⟩, ⟨.load none (.l 0), none, none⟩, ⟨.mov (.l 1), (some 6), none⟩] [])
 (.seq (.seq (.reg [⟨.fptr 0 (.v 4), none, none⟩, ⟨.load none (.l 0), (some 14), none⟩] [])
 (.block 1 (.seq (.reg [⟨.bin .eql (.v 14) (.c (.int .i64 5)), none, none⟩, ⟨.mov (.l 0), (some 15), none⟩] [])
 (.cond (.v 15) (.seq (.reg [⟨.mov (.v 0), none, none⟩, ⟨.app 5 1 1 (.l 0) (.c (.str ⟨#[114, 101, 102]⟩)), none, none⟩, ⟨.mov (.l 1), (some 0), none⟩] [])
 (.seq (.reg [⟨.mov (.c (.imm true 0 [])), (some 6), none⟩] [])
 (.seq (.reg [⟨.fptr 1 (.v 4), none, none⟩, ⟨.load none (.l 0), none, none⟩, ⟨.bin .geq (.l 1) (.c (.int .i64 0)), none, none⟩, ⟨.mov (.l 2), none, none⟩, ⟨.fptr 1 (.v 4), none, (some (3, true))⟩, ⟨.load none (.l 4), none, (some (3, true))⟩, ⟨.mov (.v 2), none, (some (3, true))⟩, ⟨.len false (.l 6), none, (some (3, true))⟩, ⟨.bin .lss (.l 5) (.l 7), none, (some (3, true))⟩, ⟨.pick (.l 3) (.l 8) (.c (.bool false)), (some 16), none⟩] [])
 (.cond (.v 16) (.reg [⟨.mov (.v 2), none, none⟩, ⟨.fptr 1 (.v 4), none, none⟩, ⟨.load none (.l 1), none, none⟩, ⟨.iptr 4 (.l 0) (.l 2), none, none⟩, ⟨.load (some 4) (.l 3), none, none⟩, ⟨.lit 25 4 [.int .i64 0, .int .i64 0, .imm true 0 [], .imm true 0 []] [(0, .l 4)] false true, none, none⟩, ⟨.mov (.l 5), (some 6), none⟩] [])
 (.skip)))))
 (.seq (.reg [⟨.bin .eql (.v 14) (.c (.int .i64 6)), none, none⟩, ⟨.mov (.l 0), (some 17), none⟩] [])
 (.cond (.v 17) (.reg [⟨.mov (.v 0), none, none⟩, ⟨.lit 5 1 [.int .u8 0] [(0, .c (.int .u8 35))] false false, none, none⟩, ⟨.app 5 1 1 (.l 0) (.l 1), none, none⟩, ⟨.fptr 1 (.v 4), none, none⟩, ⟨.load none (.l 3), none, none⟩, ⟨.call 41 [.l 4], none, none⟩, ⟨.app 5 1 1 (.l 2) (.l 5), none, none⟩, ⟨.mov (.l 6), (some 0), none⟩] [(4, 2)])
 (.skip)))))))
 (.seq (.seq (.reg [⟨.mov (.v 6), none, none⟩, ⟨.len false (.l 0), none, none⟩, ⟨.bin .eql (.l 1) (.c (.int .i64 0)), (some 18), none⟩] [])
 (.cond (.v 18) (.seq (.reg [⟨.mov (.v 0), none, none⟩, ⟨.mov (.l 0), (some 5), none⟩] [])
 (.ret))
 (.skip)))
 (.seq (.reg [⟨.mov (.v 0), none, none⟩, ⟨.lit 5 1 [.int .u8 0] [(0, .c (.int .u8 40))] false false, none, none⟩, ⟨.app 5 1 1 (.l 0) (.l 1), none, none⟩, ⟨.mov (.l 2), (some 0), none⟩] [])
 (.seq (.seq (.reg [⟨.mov (.c (.int .i64 0)), (some 7), none⟩] [])
 (.block 2 (.loop (.seq (.seq (.reg [⟨.mov (.v 7), none, none⟩, ⟨.mov (.v 6), none, none⟩, ⟨.len false (.l 1), none, none⟩, ⟨.bin .lss (.l 0) (.l 2), (some 19), none⟩] [])
 (.cond (.v 19) (.skip)
 (.exit 2)))
 (.seq (.block 3 (.seq (.seq (.reg [⟨.mov (.v 7), none, none⟩, ⟨.bin .gtr (.l 0) (.c (.int .i64 0)), (some 20), none⟩] [])
 (.cond (.v 20) (.reg [⟨.mov (.v 0), none, none⟩, ⟨.app 5 1 1 (.l 0) (.c (.str ⟨#[44, 32]⟩)), none, none⟩, ⟨.mov (.l 1), (some 0), none⟩] [])
 (.skip)))
 (.seq (.reg [⟨.mov (.v 0), none, none⟩, ⟨.mov (.v 6), none, none⟩, ⟨.mov (.v 7), none, none⟩, ⟨.iptr 4 (.l 1) (.l 2), none, none⟩, ⟨.load (some 4) (.l 3), none, none⟩, ⟨.mov (.v 2), none, none⟩, ⟨.mov (.v 3), none, none⟩, ⟨.bin .sub (.l 6) (.c (.int .i64 1)), none, none⟩, ⟨.call 29 [.l 0, .l 4, .l 5, .l 7], none, none⟩, ⟨.mov (.l 8), (some 0), none⟩] [])
 (.seq (.reg [⟨.mov (.v 0), none, none⟩, ⟨.len false (.l 0), none, none⟩, ⟨.bin .gtr (.l 1) (.c (.int .i64 30000)), (some 21), none⟩] [])
 (.cond (.v 21) (.seq (.reg [⟨.mov (.v 0), none, none⟩, ⟨.mov (.l 0), (some 5), none⟩] [])
 (.ret))
 (.skip))))))
 (.reg [⟨.mov (.v 7), none, none⟩, ⟨.bin .add (.l 0) (.c (.int .i64 1)), none, none⟩, ⟨.mov (.l 1), (some 7), none⟩] []))))))
 (.seq (.reg [⟨.mov (.v 0), none, none⟩, ⟨.lit 5 1 [.int .u8 0] [(0, .c (.int .u8 41))] false false, none, none⟩, ⟨.app 5 1 1 (.l 0) (.l 1), none, none⟩, ⟨.mov (.l 2), (some 5), none⟩] [])
 (.ret))))))))),
 [.t 5], true, true⟩
def m29 : List Nat := [0, 1, 2, 3, 5, 8, 9, 10, 12, 13, 17, 24, 28, 39, 45, 46, 59, 66, 77, 85, 89, 103]

/-- loop.example/g00293/impl.plainShown -/
def c35 : FC := ⟨3, 10, .seq (.reg [⟨.mov (.c (.str ⟨#[]⟩)), (some 3), none⟩, ⟨.mov (.c (.bool false)), (some 4), none⟩] [])
 (.seq (.seq (.reg [⟨.mov (.v 0), (some 5), none⟩] [])
 (.block 0 (.seq (.reg [⟨.bin .eql (.v 5) (.c (.int .i64 0)), none, none⟩, ⟨.mov (.l 0), (some 6), none⟩] [])
 (.cond (.v 6) (.seq (.reg [⟨.mov (.c (.str ⟨#[40, 41]⟩)), (some 3), none⟩, ⟨.mov (.c (.bool true)), (some 4), none⟩] [])
 (.ret))
 (.seq (.reg [⟨.bin .eql (.v 5) (.c (.int .i64 1)), none, none⟩, ⟨.mov (.l 0), (some 7), none⟩] [])
 (.cond (.v 7) (.seq (.reg [⟨.mov (.v 1), none, none⟩, ⟨.call 43 [.l 0], none, none⟩, ⟨.mov (.l 1), (some 3), none⟩, ⟨.mov (.c (.bool true)), (some 4), none⟩] [])
 (.ret))
 (.seq (.reg [⟨.bin .eql (.v 5) (.c (.int .i64 2)), none, none⟩, ⟨.mov (.l 0), (some 8), none⟩] [])
 (.cond (.v 8) (.seq (.reg [⟨.mov (.v 2), none, none⟩, ⟨.b2s (.l 0), none, none⟩, ⟨.bin .add (.c (.str ⟨#[34]⟩)) (.l 1), none, none⟩, ⟨.bin .add (.l 2) (.c (.str ⟨#[34]⟩)), none, none⟩, ⟨.mov (.l 3), (some 3), none⟩, ⟨.mov (.c (.bool true)), (some 4), none⟩] [])
 (.ret))
 (.seq (.reg [⟨.bin .eql (.v 5) (.c (.int .i64 4)), none, none⟩, ⟨.mov (.l 0), (some 9), none⟩] [])
 (.cond (.v 9) (.seq (.reg [⟨.mov (.c (.str ⟨#[102, 110]⟩)), (some 3), none⟩, ⟨.mov (.c (.bool true)), (some 4), none⟩] [])
 (.ret))
 (.skip)))))))))))
 (.seq (.reg [⟨.mov (.c (.str ⟨#[]⟩)), (some 3), none⟩, ⟨.mov (.c (.bool false)), (some 4), none⟩] [])
 (.ret))),
 [.t 3, .t 4], false, false⟩
def m35 : List Nat := [0, 1, 2, 6, 7, 8, 9, 11, 15, 21]

/-- (*loop.example/g00293/impl.shower).say -/
def c36 : FC := ⟨2, 3, .seq (.reg [⟨.mov (.c (.bool false)), (some 2), none⟩] [])
 (.seq (.reg [⟨.mov (.v 0), none, none⟩, ⟨.mov (.v 0), none, none⟩, ⟨.nilck (.l 1), none, none⟩, ⟨.fptr 0 (.l 2), none, none⟩, ⟨.load none (.l 3), none, none⟩, ⟨.mov (.v 1), none, none⟩, ⟨.app 5 1 1 (.l 4) (.l 5), none, none⟩, ⟨.nilck (.l 0), none, none⟩, ⟨.fptr 0 (.l 7), none, none⟩, ⟨.store 1 (.l 8) (.l 6), none, none⟩] [])
 (.seq (.reg [⟨.mov (.v 0), none, none⟩, ⟨.nilck (.l 0), none, none⟩, ⟨.fptr 0 (.l 1), none, none⟩, ⟨.load none (.l 2), none, none⟩, ⟨.len false (.l 3), none, none⟩, ⟨.bin .lss (.l 4) (.c (.int .i64 30000)), none, none⟩, ⟨.mov (.l 5), (some 2), none⟩] [])
 (.ret))),
 [.t 2], false, true⟩
def m36 : List Nat := [0, 1, 4]

/-- loop.example/g00293/impl.within -/
def c37 : FC := ⟨3, 4, .seq (.reg [⟨.mov (.c (.bool false)), (some 3), none⟩] [])
 (.seq (.reg [⟨.mov (.v 0), none, none⟩, ⟨.mov (.v 1), none, none⟩, ⟨.bin .geq (.l 0) (.l 1), none, none⟩, ⟨.mov (.l 2), none, none⟩, ⟨.mov (.v 0), none, (some (3, true))⟩, ⟨.mov (.v 2), none, (some (3, true))⟩, ⟨.bin .leq (.l 4) (.l 5), none, (some (3, true))⟩, ⟨.pick (.l 3) (.l 6) (.c (.bool false)), none, none⟩, ⟨.mov (.l 7), (some 3), none⟩] [])
 (.ret)),
 [.t 3], false, false⟩
def m37 : List Nat := [0, 1, 2, 6]

/-- loop.example/g00293/impl.headShown -/
def c38 : FC := ⟨2, 6, .seq (.reg [⟨.mov (.c (.str ⟨#[]⟩)), (some 2), none⟩] [])
 (.seq (.seq (.reg [⟨.mov (.v 0), (some 3), none⟩] [])
 (.block 0 (.seq (.reg [⟨.bin .eql (.v 3) (.c (.int .i64 5)), none, none⟩, ⟨.mov (.l 0), (some 4), none⟩] [])
 (.cond (.v 4) (.seq (.reg [⟨.mov (.c (.str ⟨#[114, 101, 102]⟩)), (some 2), none⟩] [])
 (.ret))
 (.seq (.reg [⟨.bin .eql (.v 3) (.c (.int .i64 6)), none, none⟩, ⟨.mov (.l 0), (some 5), none⟩] [])
 (.cond (.v 5) (.seq (.reg [⟨.mov (.v 1), none, none⟩, ⟨.call 43 [.l 0], none, none⟩, ⟨.bin .add (.c (.str ⟨#[35]⟩)) (.l 1), none, none⟩, ⟨.mov (.l 2), (some 2), none⟩] [])
 (.ret))
 (.skip)))))))
 (.seq (.reg [⟨.mov (.c (.str ⟨#[]⟩)), (some 2), none⟩] [])
 (.ret))),
 [.t 2], false, false⟩
def m38 : List Nat := [0, 1, 4, 5, 6, 8]

/-- (*loop.example/g00293/impl.shower).parts -/
def c39 : FC := ⟨3, 11, .seq (.reg [⟨.mov (.c (.bool false)), (some 3), none⟩] [])
 (.seq (.seq (.reg [⟨.mov (.v 1), (some 6), none⟩, ⟨.mov (.c (.int .i64 0)), (some 7), none⟩] [])
 (.block 0 (.loop (.seq (.reg [⟨.bin .lss (.v 7) (.v 6), (some 8), none⟩] [])
 (.seq (.cond (.v 8) (.skip)
 (.exit 0))
 (.seq (.block 1 (.seq (.reg [⟨.mov (.v 7), none, none⟩, ⟨.mov (.l 0), (some 4), none⟩] [])
 (.seq (.reg [⟨.mov (.c (.str ⟨#[44, 32]⟩)), (some 5), none⟩] [])
 (.seq (.seq (.reg [⟨.mov (.v 4), none, none⟩, ⟨.bin .eql (.l 0) (.c (.int .i64 0)), (some 9), none⟩] [])
 (.cond (.v 9) (.reg [⟨.mov (.c (.str ⟨#[40]⟩)), (some 5), none⟩] [])
 (.skip)))
 (.seq (.reg [⟨.mov (.v 0), none, none⟩, ⟨.mov (.v 5), none, none⟩, ⟨.call 36 [.l 0, .l 1], none, none⟩, ⟨.un .not (.l 2), none, none⟩, ⟨.mov (.l 3), none, none⟩, ⟨.mov (.v 2), none, (some (4, false))⟩, ⟨.mov (.v 4), none, (some (4, false))⟩, ⟨.callv (.l 5) [.l 6], none, (some (4, false))⟩, ⟨.un .not (.l 7), none, (some (4, false))⟩, ⟨.pick (.l 4) (.c (.bool true)) (.l 8), (some 10), none⟩] [])
 (.cond (.v 10) (.seq (.reg [⟨.mov (.c (.bool false)), (some 3), none⟩] [])
 (.ret))
 (.skip)))))))
 (.reg [⟨.bin .add (.v 7) (.c (.int .i64 1)), none, none⟩, ⟨.mov (.l 0), (some 7), none⟩] [])))))))
 (.seq (.reg [⟨.mov (.v 1), none, none⟩, ⟨.bin .eql (.l 0) (.c (.int .i64 0)), none, none⟩, ⟨.mov (.l 1), none, none⟩, ⟨.mov (.v 0), none, (some (2, false))⟩, ⟨.call 36 [.l 3, .c (.str ⟨#[41]⟩)], none, (some (2, false))⟩, ⟨.pick (.l 2) (.c (.bool true)) (.l 4), none, none⟩, ⟨.mov (.l 5), (some 3), none⟩] [])
 (.ret))),
 [.t 3], false, true⟩
def m39 : List Nat := [0, 1, 2, 6, 7, 8, 9, 10, 11, 14, 24]

/-- loop.example/g00293/impl.showVal$1 -/
def c40 : FC := ⟨5, 6, .seq (.reg [⟨.mov (.c (.bool false)), (some 5), none⟩] [])
 (.seq (.reg [⟨.load none (.v 1), none, none⟩, ⟨.load none (.v 2), none, none⟩, ⟨.mov (.v 0), none, none⟩, ⟨.iptr 4 (.l 1) (.l 2), none, none⟩, ⟨.load none (.v 3), none, none⟩, ⟨.load none (.v 4), none, none⟩, ⟨.bin .add (.l 5) (.c (.int .i64 1)), none, none⟩, ⟨.call 24 [.l 0, .l 3, .l 4, .l 6], none, none⟩, ⟨.mov (.l 7), (some 5), none⟩] [])
 (.ret)),
 [.t 5], false, true⟩
def m40 : List Nat := [0, 1, 2, 3, 4, 6]

/-- loop.example/g00293/spec.l3digits -/
def c41 : FC := ⟨1, 3, .seq (.reg [⟨.mov (.c (.imm true 0 [])), (some 1), none⟩] [])
 (.seq (.seq (.reg [⟨.mov (.v 0), none, none⟩, ⟨.bin .lss (.l 0) (.c (.int .i64 0)), (some 2), none⟩] [])
 (.cond (.v 2) (.seq (.reg [⟨.lit 5 1 [.int .u8 0] [(0, .c (.int .u8 45))] false false, none, none⟩, ⟨.mov (.v 0), none, none⟩, ⟨.conv .u64 (.l 1), none, none⟩, ⟨.un .neg (.l 2), none, none⟩, ⟨.call 44 [.l 3], none, none⟩, ⟨.app 5 1 1 (.l 0) (.l 4), none, none⟩, ⟨.mov (.l 5), (some 1), none⟩] [])
 (.ret))
 (.skip)))
 (.seq (.reg [⟨.mov (.v 0), none, none⟩, ⟨.conv .u64 (.l 0), none, none⟩, ⟨.call 44 [.l 1], none, none⟩, ⟨.mov (.l 2), (some 1), none⟩] [])
 (.ret))),
 [.t 1], false, true⟩
def m41 : List Nat := [0, 2, 4]

/-- loop.example/g00293/spec.l3tens -/
def c44 : FC := ⟨1, 3, .seq (.reg [⟨.mov (.c (.imm true 0 [])), (some 1), none⟩] [])
 (.seq (.seq (.reg [⟨.mov (.v 0), none, none⟩, ⟨.bin .lss (.l 0) (.c (.int .u64 10)), (some 2), none⟩] [])
 (.cond (.v 2) (.seq (.reg [⟨.mov (.v 0), none, none⟩, ⟨.bin .add (.c (.int .u64 48)) (.l 0), none, none⟩, ⟨.conv .u8 (.l 1), none, none⟩, ⟨.lit 5 1 [.int .u8 0] [(0, .l 2)] false true, none, none⟩, ⟨.mov (.l 3), (some 1), none⟩] [])
 (.ret))
 (.skip)))
 (.seq (.reg [⟨.mov (.v 0), none, none⟩, ⟨.bin .quo (.l 0) (.c (.int .u64 10)), none, none⟩, ⟨.call 44 [.l 1], none, none⟩, ⟨.mov (.v 0), none, none⟩, ⟨.bin .rem (.l 3) (.c (.int .u64 10)), none, none⟩, ⟨.bin .add (.c (.int .u64 48)) (.l 4), none, none⟩, ⟨.conv .u8 (.l 5), none, none⟩, ⟨.lit 5 1 [.int .u8 0] [(0, .l 6)] false true, none, none⟩, ⟨.app 5 1 1 (.l 2) (.l 7), none, none⟩, ⟨.mov (.l 8), (some 1), none⟩] [])
 (.ret))),
 [.t 1], false, true⟩
def m44 : List Nat := [0, 2, 4]

theorem p6 : Fit Tryd.prog 6 c6 := ⟨Tryd.f6, m6, by kernel_rfl, by kernel_rfl⟩
theorem p10 : Fit Tryd.prog 10 c10 := ⟨Tryd.f10, m10, by kernel_rfl, by kernel_rfl⟩
theorem p24 : Fit Tryd.prog 24 c24 := ⟨Tryd.f24, m24, by kernel_rfl, by kernel_rfl⟩
theorem p25 : Fit Tryd.prog 25 c25 := ⟨Tryd.f25, m25, by kernel_rfl, by kernel_rfl⟩
theorem p26 : Fit Tryd.prog 26 c26 := ⟨Tryd.f26, m26, by kernel_rfl, by kernel_rfl⟩
theorem p28 : Fit Tryd.prog 28 c28 := ⟨Tryd.f28, m28, by kernel_rfl, by kernel_rfl⟩
theorem p29 : Fit Tryd.prog 29 c29 := ⟨Tryd.f29, m29, by kernel_rfl, by kernel_rfl⟩
theorem p35 : Fit Tryd.prog 35 c35 := ⟨Tryd.f35, m35, by kernel_rfl, by kernel_rfl⟩
theorem p36 : Fit Tryd.prog 36 c36 := ⟨Tryd.f36, m36, by kernel_rfl, by kernel_rfl⟩
theorem p37 : Fit Tryd.prog 37 c37 := ⟨Tryd.f37, m37, by kernel_rfl, by kernel_rfl⟩
theorem p38 : Fit Tryd.prog 38 c38 := ⟨Tryd.f38, m38, by kernel_rfl, by kernel_rfl⟩
theorem p39 : Fit Tryd.prog 39 c39 := ⟨Tryd.f39, m39, by kernel_rfl, by kernel_rfl⟩
theorem p40 : Fit Tryd.prog 40 c40 := ⟨Tryd.f40, m40, by kernel_rfl, by kernel_rfl⟩
theorem p41 : Fit Tryd.prog 41 c41 := ⟨Tryd.f41, m41, by kernel_rfl, by kernel_rfl⟩
theorem p44 : Fit Tryd.prog 44 c44 := ⟨Tryd.f44, m44, by kernel_rfl, by kernel_rfl⟩
def tbl : List (Nat × FC) := [(6, c6), (10, c10), (24, c24), (25, c25), (26, c26), (28, c28), (29, c29), (35, c35), (36, c36), (37, c37), (38, c38), (39, c39), (40, c40), (41, c41), (44, c44)]
theorem tbl_fits : FitL Tryd.prog tbl := FitL.cons p6 (FitL.cons p10 (FitL.cons p24 (FitL.cons p25 (FitL.cons p26 (FitL.cons p28 (FitL.cons p29 (FitL.cons p35 (FitL.cons p36 (FitL.cons p37 (FitL.cons p38 (FitL.cons p39 (FitL.cons p40 (FitL.cons p41 (FitL.cons p44 (FitL.nil)))))))))))))))
end Go.Proofs.YthogcanomihelaaDoor.Gs
