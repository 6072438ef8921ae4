/- Slices that are built by append, in a frame. -/
import Derived.Test.YthogcanomihelaaLa
import Derived.Test.YthogcanomihelaaLb
import Derived.Test.YthogcanomihelaaAe21
set_option linter.unusedSimpArgs false
set_option linter.unusedVariables false
namespace Go.Proofs.Ythogcanomihelaa.Gw
open Go Go.Proofs Go.Proofs.Ythogcanomihelaa.Ae
attribute [local congr] obind_congr
attribute [local push_cast] exF argsV frzs frz frzL frz1 exS_reg exS_seq exS_cond exS_alt exS_block exS_loop exS_exit exS_ret exS_skip evReg evOps evOne evAct evOp rd putV st0 evEnd resV resL resOne oneOr frzR loadV storeV binV binI unV push_frm pop_frm frm_len frm_top frm_get_top frm_set_top frm_new AV.cells AV.lowB AV.lowL AV.isCell cellsOk set_len Option.bind_some Option.map_some Option.map_none List.getD_cons_zero List.getD_cons_succ List.nil_append List.cons_append List.append_nil List.length_cons List.length_nil List.set_cons_zero List.set_cons_succ List.map_cons List.map_nil List.replicate if_true if_false ite_true ite_false ite_self Bool.false_eq_true List.all_cons List.all_nil Bool.and_true Bool.true_and Bool.and_self Bool.and_eq_true List.getElem?_cons_zero List.getElem?_cons_succ List.drop_succ_cons List.drop_zero List.take_succ_cons List.take_zero true_and and_true and_self decide_true decide_false Bool.not_true Bool.not_false Prod.mk.injEq Option.some.injEq List.getElem?_drop optInt elems sliceV partsOf Nat.add_zero Nat.zero_add Nat.mul_one beq_self_eq_true litParts Bool.or_false Bool.false_or Bool.or_true Bool.true_or Bool.false_and Bool.and_false List.cons.injEq not_false_eq_true not_true_eq_false Nat.zero_le Nat.le_refl gt_iff_lt ge_iff_le List.drop_nil List.take_nil newBox List.length_append List.length_map bne_self_eq_false eq_self Nat.lt_add_one ne_eq false_implies Int.le_refl

theorem low_of' {D : Nat} : ∀ {cs : List AV}, cellsOk D cs = true → AV.lowL D cs = true
  | [], _ => rfl
  | c :: r, h => by
    simp only [cellsOk, List.all_cons, Bool.and_eq_true] at h
    simp only [AV.lowL, Bool.and_eq_true]
    exact ⟨h.1.2, low_of' (by simpa [cellsOk] using h.2)⟩
/-- A slice of n elements that is built: nothing yet, or the array that lies at place k, the last of its frame. -/
def BuildSt (D k e sz : Nat) (v : AV) (R : List Ae.Obj) (n : Nat) (cs : List AV) : Prop :=
  cs.length = n * sz ∧ ((v = .imm true 0 [] ∧ R = [] ∧ n = 0 ∧ cs = []) ∨ ∃ ver, v = .slr D k 0 n ver false ∧ R = [.arr e sz cs ver 0])
theorem build0 (D k e sz : Nat) : BuildSt D k e sz (.imm true 0 []) [] 0 [] := ⟨by simp, .inl ⟨rfl, rfl, rfl, rfl⟩⟩
theorem app_build {s S : Store} {T0 R : List Ae.Obj} {D k e sz bytes n : Nat} {v : AV} {cs ys : List AV} {f : Bool} (hB : BuildSt D k e sz v R n cs) (hS : S = frm s (T0 ++ R)) (hD : D = s.low.length + 1) (hk : k = T0.length) (hy : cellsOk 0 ys = true) (hys : ys.length = sz) (hb : (n + 1) * bytes ≤ 140737488355328) :
    ∃ v' S', appV S e sz bytes v (.imm f 1 ys) = some (v', S') ∧ ∃ ver, v' = .slr D k 0 (n + 1) ver false ∧ S' = frm s (T0 ++ [.arr e sz (cs ++ ys) ver 0]) ∧ (cs ++ ys).length = (n + 1) * sz := by
  obtain ⟨hc, h⟩ := hB
  have hy' : ∀ d, cellsOk d ys = true := fun d => cellsOk_mono (Nat.zero_le _) hy
  have hlen : (cs ++ ys).length = (n + 1) * sz := by rw [List.length_append, hc, hys, Nat.succ_mul]
  rcases h with ⟨rfl, rfl, rfl, rfl⟩ | ⟨ver, rfl, rfl⟩
  · refine ⟨.slr D k 0 1 0 false, frm s (T0 ++ [.arr e sz ys 0 0]), ?_, 0, by simp, by simp, hlen⟩
    subst hS hD hk
    have hne : ¬ (1 : Nat) = 0 := by omega
    have hb' : bytes ≤ 140737488355328 := by simpa using hb
    simp only [appV, srcOf, elems, Option.bind_some, appTo, Nat.zero_add, hb', hy', hys, List.length_nil, Nat.zero_mul, Nat.one_mul, true_and, and_self, if_true, hne, if_false, List.nil_append, List.append_nil, newArr, frm_len, frm_top, frm_new]
  · refine ⟨.slr D k 0 (n + 1) (ver + 1) false, frm s (T0 ++ [.arr e sz (cs ++ ys) (ver + 1) 0]), ?_, ver + 1, rfl, rfl, hlen⟩
    subst hS hD hk
    have hg : (frm s (T0 ++ [.arr e sz cs ver 0])).get (s.low.length + 1) T0.length = some (.arr e sz cs ver 0) := by rw [frm_get_top]; simp
    have htake : (cs.drop 0).take (n * sz) = cs := by rw [List.drop_zero]; exact List.take_of_length_le (by omega)
    have h0 : 0 + n * sz ≤ cs.length := by omega
    simp only [appV, srcOf, elems, Option.bind_some, appTo, hg, hb, hys, hy', h0, Nat.one_mul, Nat.zero_le, true_and, and_self, if_true, Bool.false_eq_true, if_false, htake, frm_set_top]
    simp
end Go.Proofs.Ythogcanomihelaa.Gw
