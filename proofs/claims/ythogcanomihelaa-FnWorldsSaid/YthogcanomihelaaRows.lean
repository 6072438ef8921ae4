/-
  NARROWER THAN 'FOR EVERY INPUT', by the rows' own cells (each row's printed sentence says how): FnExactWholeOk: loops.
  DERIVED. THE GIVEN ROWS OF THIS SEAT. 4 by the template 'for every input the law returns true; each argument reads behind the call as it read before'; 0 by the template 'total and deterministic' (their statements: YthogcanomihelaaTotals.lean).
  GIVEN WITH THE SEED: the statements are not yours to turn. If you find one false, say at which input.
  Laid BY PROGRAM, IN A SANDBOX (cutbox-rows.mjs): the forced cells as the released guide's own fill.sh prints them over the translation 900c751b3d8178c8… (all of the seat's roots in one cut). By AI agents, Wed Nov 11 2026. No macro, syntax, notation, axiom, sorry.
-/
import Derived.Test.YthogcanomihelaaChecked
import GoSem.Claim
import GoSem.ClaimJoined
import GoSem.ClaimMapViews
import Derived.JoinedTies
import Derived.KernelRfl
namespace Go.Proofs.Ythogcanomihelaa
/- THE CELL 'sum', in the pinned program and in every row, IS THE sha256 OF THE DUMP (.gsa) THAT YthogcanomihelaaProg.lean LOADS. Nothing in Lean hashes anything: it is a label: what it is worth is what the hold of that sum in a sandbox is worth. -/
noncomputable def Try.pinned : Pinned := { name := "ythogcanomihelaa", sum := "900c751b3d8178c8d2853fe13493d345089ec2f0c93f4992b5b22f420ca720b7", checked := Try.checked }
namespace Rows
def none {H : Type} : Left H := { results := [], args := [] }

/-- 'laws.FnOutside': WHATEVER THE INPUT: true; the input reads as it did. -/
def fnOutsideSpec : ChangeSpec := { name := "fnOutside", fn := fun _ => fun
  | [d] => { results := [.lit (.bool true)], args := [d] }
  | _ => none }
def fnOutsideRow : OpenClaim := { program := "ythogcanomihelaa", sum := "900c751b3d8178c8d2853fe13493d345089ec2f0c93f4992b5b22f420ca720b7", func := "loop.example/g00293/laws.FnOutside", spec := "fnOutside", unfollowed := true, recurses := true, apart := false }
def FnOutsideSaid : Prop := fnOutsideRow.holds Try.pinned (OpenSpec.ofChange fnOutsideSpec)

/-- ITS FALSE NEIGHBOUR: 'it returns false'. Refute it at one input. -/
def fnOutsideWrong : ChangeSpec := { name := "fnOutside", fn := fun _ => fun
  | [d] => { results := [.lit (.bool false)], args := [d] }
  | _ => none }
def FnOutsideWrongFalsely : Prop := fnOutsideRow.holds Try.pinned (OpenSpec.ofChange fnOutsideWrong)

/-- 'laws.FnWorlds': WHATEVER THE INPUT: true; the input reads as it did. -/
def fnWorldsSpec : ChangeSpec := { name := "fnWorlds", fn := fun _ => fun
  | [d] => { results := [.lit (.bool true)], args := [d] }
  | _ => none }
def fnWorldsRow : OpenClaim := { program := "ythogcanomihelaa", sum := "900c751b3d8178c8d2853fe13493d345089ec2f0c93f4992b5b22f420ca720b7", func := "loop.example/g00293/laws.FnWorlds", spec := "fnWorlds", inPlace := ["slices.overlaps[loop.example/g00293/impl.Entry]"], unfollowed := true, recurses := true, apart := false }
def FnWorldsSaid : Prop := fnWorldsRow.holds Try.pinned (OpenSpec.ofChange fnWorldsSpec)

/-- ITS FALSE NEIGHBOUR: 'it returns false'. Refute it at one input. -/
def fnWorldsWrong : ChangeSpec := { name := "fnWorlds", fn := fun _ => fun
  | [d] => { results := [.lit (.bool false)], args := [d] }
  | _ => none }
def FnWorldsWrongFalsely : Prop := fnWorldsRow.holds Try.pinned (OpenSpec.ofChange fnWorldsWrong)

/-- 'laws.FnExactForeign': WHATEVER THE INPUT: true; the input reads as it did. -/
def fnExactForeignSpec : ChangeSpec := { name := "fnExactForeign", fn := fun _ => fun
  | [d1, d2, d3, d4, d5] => { results := [.lit (.bool true)], args := [d1, d2, d3, d4, d5] }
  | _ => none }
def fnExactForeignRow : OpenClaim := { program := "ythogcanomihelaa", sum := "900c751b3d8178c8d2853fe13493d345089ec2f0c93f4992b5b22f420ca720b7", func := "loop.example/g00293/laws.FnExactForeign", spec := "fnExactForeign", inPlace := ["slices.overlaps[loop.example/g00293/impl.Entry]"], unfollowed := true, recurses := true, apart := false }
def FnExactForeignSaid : Prop := fnExactForeignRow.holds Try.pinned (OpenSpec.ofChange fnExactForeignSpec)

/-- ITS FALSE NEIGHBOUR: 'it returns false'. Refute it at one input. -/
def fnExactForeignWrong : ChangeSpec := { name := "fnExactForeign", fn := fun _ => fun
  | [d1, d2, d3, d4, d5] => { results := [.lit (.bool false)], args := [d1, d2, d3, d4, d5] }
  | _ => none }
def FnExactForeignWrongFalsely : Prop := fnExactForeignRow.holds Try.pinned (OpenSpec.ofChange fnExactForeignWrong)

/-- 'laws.FnExactWholeOk': WHATEVER THE INPUT: true; the input reads as it did. -/
def fnExactWholeOkSpec : ChangeSpec := { name := "fnExactWholeOk", fn := fun _ => fun
  | [d] => { results := [.lit (.bool true)], args := [d] }
  | _ => none }
def fnExactWholeOkRow : OpenClaim := { program := "ythogcanomihelaa", sum := "900c751b3d8178c8d2853fe13493d345089ec2f0c93f4992b5b22f420ca720b7", func := "loop.example/g00293/laws.FnExactWholeOk", spec := "fnExactWholeOk", unfollowed := true, recurses := true, loops := true, apart := false }
def FnExactWholeOkSaid : Prop := fnExactWholeOkRow.holds Try.pinned (OpenSpec.ofChange fnExactWholeOkSpec)

/-- ITS FALSE NEIGHBOUR: 'it returns false'. Refute it at one input. -/
def fnExactWholeOkWrong : ChangeSpec := { name := "fnExactWholeOk", fn := fun _ => fun
  | [d] => { results := [.lit (.bool false)], args := [d] }
  | _ => none }
def FnExactWholeOkWrongFalsely : Prop := fnExactWholeOkRow.holds Try.pinned (OpenSpec.ofChange fnExactWholeOkWrong)

/- THE SECOND FORM. 'bulk': how many values and letters a reading holds, each counted each time it is reached (what is shared counts as often as it is met; a slice's spare places count too). A statement '..UptoSaid' is the law's where the arguments, and the package variables that the reading takes, are together of bulk at most 1048576: NARROWER than '..Said'. Prove '..Said' where nothing that the law and all that it calls make is longer than what came in: it says more and counts as full. Else prove '..UptoSaid'. A law counts once. -/
mutual
def uptoBulk {H : Type} : DataW H → Nat
  | .lit (.string bytes) => bytes.length + 1
  | .lit _ => 1
  | .nil => 1
  | .ptr d => uptoBulk d + 1
  | .slice elems spare => uptoBulkAll elems + uptoBulkAll spare + 1
  | .agg parts => uptoBulkAll parts + 1
  | .iface _ d => uptoBulk d + 1
  | .map entries => uptoBulkEntries entries + 1
  | .held _ => 1
def uptoBulkAll {H : Type} : List (DataW H) → Nat
  | [] => 0
  | d :: r => uptoBulk d + uptoBulkAll r
def uptoBulkEntries {H : Type} : List (Lit × DataW H) → Nat
  | [] => 0
  | x :: r => uptoBulkEntry x + uptoBulkEntries r
def uptoBulkEntry {H : Type} : Lit × DataW H → Nat
  | (.string bytes, d) => bytes.length + uptoBulk d + 1
  | (_, d) => uptoBulk d + 1
 end
def uptoSmall : (H : Type) → List (DataW H) → Bool := fun _ ds => decide (uptoBulkAll ds ≤ 1048576)
def OpenSpec.upto (s : _root_.Go.ChangeSpec) : _root_.Go.OpenSpec := { _root_.Go.OpenSpec.ofChange s with cond := some uptoSmall }

/-- 'laws.FnOutside', WHERE WHAT IT READS IS OF BULK AT MOST 1048576: true; the input reads as it did. -/
def fnOutsideUptoRow : OpenClaim := { program := "ythogcanomihelaa", sum := "900c751b3d8178c8d2853fe13493d345089ec2f0c93f4992b5b22f420ca720b7", func := "loop.example/g00293/laws.FnOutside", spec := "fnOutside", unfollowed := true, recurses := true, apart := false, narrowed := true }
def FnOutsideUptoSaid : Prop := fnOutsideUptoRow.holds Try.pinned (OpenSpec.upto fnOutsideSpec)

/-- 'laws.FnWorlds', WHERE WHAT IT READS IS OF BULK AT MOST 1048576: true; the input reads as it did. -/
def fnWorldsUptoRow : OpenClaim := { program := "ythogcanomihelaa", sum := "900c751b3d8178c8d2853fe13493d345089ec2f0c93f4992b5b22f420ca720b7", func := "loop.example/g00293/laws.FnWorlds", spec := "fnWorlds", inPlace := ["slices.overlaps[loop.example/g00293/impl.Entry]"], unfollowed := true, recurses := true, apart := false, narrowed := true }
def FnWorldsUptoSaid : Prop := fnWorldsUptoRow.holds Try.pinned (OpenSpec.upto fnWorldsSpec)

/-- 'laws.FnExactForeign', WHERE WHAT IT READS IS OF BULK AT MOST 1048576: true; the input reads as it did. -/
def fnExactForeignUptoRow : OpenClaim := { program := "ythogcanomihelaa", sum := "900c751b3d8178c8d2853fe13493d345089ec2f0c93f4992b5b22f420ca720b7", func := "loop.example/g00293/laws.FnExactForeign", spec := "fnExactForeign", inPlace := ["slices.overlaps[loop.example/g00293/impl.Entry]"], unfollowed := true, recurses := true, apart := false, narrowed := true }
def FnExactForeignUptoSaid : Prop := fnExactForeignUptoRow.holds Try.pinned (OpenSpec.upto fnExactForeignSpec)

/-- 'laws.FnExactWholeOk', WHERE WHAT IT READS IS OF BULK AT MOST 1048576: true; the input reads as it did. -/
def fnExactWholeOkUptoRow : OpenClaim := { program := "ythogcanomihelaa", sum := "900c751b3d8178c8d2853fe13493d345089ec2f0c93f4992b5b22f420ca720b7", func := "loop.example/g00293/laws.FnExactWholeOk", spec := "fnExactWholeOk", unfollowed := true, recurses := true, loops := true, apart := false, narrowed := true }
def FnExactWholeOkUptoSaid : Prop := fnExactWholeOkUptoRow.holds Try.pinned (OpenSpec.upto fnExactWholeOkSpec)

end Rows
end Go.Proofs.Ythogcanomihelaa
