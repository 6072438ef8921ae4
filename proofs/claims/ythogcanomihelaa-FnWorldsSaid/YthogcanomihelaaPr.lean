/- The library functions that are taken by a law of their own: slices.Insert of one entry. -/
import Derived.Test.YthogcanomihelaaAe1
set_option linter.unusedSimpArgs false
set_option linter.unusedVariables false
namespace Go.Proofs.Ythogcanomihelaa.Ae
open Go
/-- An entry put ahead of others. -/
def insV (s : Store) (d i off n ver : Nat) (k : Nat) (ys : List AV) : Option (AV × Store) :=
  match s.get d i with
  | some (.arr e sz cs ver' pr) =>
    if e = 113 ∧ sz = 2 ∧ (n + 1) * 16 ≤ 140737488355328 ∧ ver = ver' ∧ off + n * 2 ≤ cs.length ∧ cellsOk (d + 1) ys = true ∧ ys.length = 2 ∧ pr ≤ off + k * 2 then
      some (.slr d i 0 (n + 1) (ver + 1) false, s.set d i (.arr e 2 ((cs.drop off).take (k * 2) ++ ys ++ (cs.drop (off + k * 2)).take ((n - k) * 2)) (ver + 1) (pr - off)))
    else none
  | _ => none
def insPrim (s : Store) (x : AV) (k : Int) (ys : List AV) : Option (AV × Store) :=
  match x with
  | .imm true n cs => if k = n ∧ n < 1000 then appV s 113 2 16 (.imm true n cs) (.imm true 1 ys) else none
  | .slr d i off n ver full =>
    if k = n ∧ n < 1000 then appV s 113 2 16 (.slr d i off n ver full) (.imm true 1 ys)
    else if 0 ≤ k ∧ k < n ∧ full = false then insV s d i off n ver k.toNat ys else none
  | _ => none
def prim : CallT := fun f args s => match f, args with
  | 151, [x, .int .i64 k, .imm true 1 (y :: ys)] => insPrim s x k (y :: ys)
  | _, _ => none
end Go.Proofs.Ythogcanomihelaa.Ae
