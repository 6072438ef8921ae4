/- Stepping through the evaluator a step at a time: one rule for each statement and operation. -/
import Derived.Test.YthogcanomihelaaDoorAe19
set_option linter.unusedSimpArgs false
set_option linter.unusedVariables false
namespace Go.Proofs.YthogcanomihelaaDoor.Ae
open Go
section
variable {call : CallT}
theorem opsNil {ls vs : List AV} {s : Store} : evOps call [] ls vs s = some (vs, s) := rfl
theorem opsCons {o : AO} {r : List AO} {ls vs : List AV} {s : Store} {p : AV × Store} {q : List AV × Store} (h1 : evOne call o ls vs s = some p) (h2 : evOps call r (ls ++ [p.1]) (putV o.dv vs p.1) p.2 = some q) : evOps call (o :: r) ls vs s = some q := by
  simp only [evOps, h1, Option.bind_some]
  exact h2
theorem regI {ops : List AO} {vs : List AV} {s : Store} {q : List AV × Store} (h : evOps call ops [] vs s = some q) : exS call (.reg ops []) ⟨vs, s⟩ = some (.nor, ⟨q.1, q.2⟩) := by
  rw [exS_reg, evReg_plain]
  simp only [h, Option.bind_some]
theorem trNil {t : Tr} : evTr call [] t = some [t] := rfl
theorem trCons {o : AO} {r : List AO} {ls vs : List AV} {s : Store} {p : AV × Store} {l : List Tr} (h1 : evOne call o ls vs s = some p) (h2 : evTr call r ⟨ls ++ [p.1], putV o.dv vs p.1, p.2⟩ = some l) : evTr call (o :: r) ⟨ls, vs, s⟩ = some (⟨ls, vs, s⟩ :: l) := by
  simp only [evTr, h1, Option.bind_some, h2]
theorem regD {ops : List AO} {c : Nat × Nat} {cs : List (Nat × Nat)} {vs : List AV} {s : Store} {l : List Tr} {t : Tr} (h : evTr call ops ⟨[], vs, s⟩ = some l) (hl : l.getLast? = some t) (hc : (c :: cs).all (chkOne ops l) = true) :
    exS call (.reg ops (c :: cs)) ⟨vs, s⟩ = some (.nor, ⟨t.vs, t.s⟩) := by
  rw [exS_reg]
  simp only [evReg, h, Option.bind_some, hc, if_true, hl]
theorem seqI {a b : Stm} {st : St} {p r : Ex × St} (h1 : exS call a st = some p) (h2 : (match p.1 with | .nor => exS call b p.2 | _ => some p) = some r) : exS call (.seq a b) st = some r := by
  rw [exS_seq, h1]
  exact h2
theorem condT {c : Opd} {a b : Stm} {st : St} {r : Ex × St} (hc : rd [] st.vs c = .bool true) (h : exS call a st = some r) : exS call (.cond c a b) st = some r := by
  rw [exS_cond, hc]
  simpa using h
theorem condF {c : Opd} {a b : Stm} {st : St} {r : Ex × St} (hc : rd [] st.vs c = .bool false) (h : exS call b st = some r) : exS call (.cond c a b) st = some r := by
  rw [exS_cond, hc]
  simpa using h
theorem blockI {id : Nat} {b : Stm} {st : St} {p r : Ex × St} (h1 : exS call b st = some p) (h2 : (match p.1 with | .exit k => if k = id then some (.nor, p.2) else some p | _ => some p) = some r) : exS call (.block id b) st = some r := by
  rw [exS_block, h1]
  exact h2
theorem exitI {id : Nat} {st : St} : exS call (.exit id) st = some (.exit id, st) := exS_exit id st
theorem retI {st : St} : exS call .ret st = some (.ret, st) := exS_ret st
theorem skipI {st : St} : exS call .skip st = some (.nor, st) := exS_skip st
end
theorem funI {T : Nat → Option FC} {prim : CallT} {f : Nat} {fc : FC} {args : List AV} {s : Store} {a : List AV × Store} {r : Ex × St} {v : AV × Store} (hf : T f = some fc) (ha : argsV fc args s = some a)
    (hb : exS (callF T prim) fc.body (st0 fc a.1 a.2) = some r) (he : evEnd fc r = some v) : callF T prim f args s = some v := by
  refine callF_fc hf ?_
  unfold exF
  rw [ha]
  simp only [Option.bind_some, hb]
  exact he
end Go.Proofs.YthogcanomihelaaDoor.Ae
