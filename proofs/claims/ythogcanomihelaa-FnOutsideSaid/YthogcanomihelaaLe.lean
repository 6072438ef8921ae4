/- Slices that are cloned. -/
import Derived.Test.YthogcanomihelaaLd
set_option linter.unusedSimpArgs false
set_option linter.unusedVariables false
namespace Go.Proofs.Ythogcanomihelaa.Ga
open Go Go.Proofs Go.Proofs.Ythogcanomihelaa.Ae
attribute [local congr] obind_congr
attribute [local push_cast] exF argsV frzs frz frzL frz1 exS_reg exS_seq exS_cond exS_alt exS_block exS_loop exS_exit exS_ret exS_skip evReg evOps evOne evAct evOp rd putV st0 evEnd resV resL resOne oneOr frzR loadV storeV binV binI unV push_frm pop_frm frm_len frm_top frm_get_top frm_set_top frm_new AV.cells AV.lowB AV.lowL AV.isCell cellsOk set_len Option.bind_some Option.map_some Option.map_none List.getD_cons_zero List.getD_cons_succ List.nil_append List.cons_append List.append_nil List.length_cons List.length_nil List.set_cons_zero List.set_cons_succ List.map_cons List.map_nil List.replicate if_true if_false ite_true ite_false ite_self Bool.false_eq_true List.all_cons List.all_nil Bool.and_true Bool.true_and Bool.and_self Bool.and_eq_true List.getElem?_cons_zero List.getElem?_cons_succ List.drop_succ_cons List.drop_zero List.take_succ_cons List.take_zero true_and and_true and_self decide_true decide_false Bool.not_true Bool.not_false Prod.mk.injEq Option.some.injEq List.getElem?_drop optInt elems sliceV partsOf Nat.add_zero Nat.zero_add Nat.mul_one beq_self_eq_true litParts Bool.or_false Bool.false_or Bool.or_true Bool.true_or Bool.false_and Bool.and_false List.cons.injEq not_false_eq_true not_true_eq_false Nat.zero_le Nat.le_refl gt_iff_lt ge_iff_le List.drop_nil List.take_nil newBox List.length_append List.length_map bne_self_eq_false eq_self Nat.lt_add_one ne_eq false_implies Int.le_refl

theorem appV_new {s : Store} {e sz bytes n : Nat} {f : Bool} {cs : List AV} (hc : cellsOk 0 cs = true) (hn : cs.length = n * sz) (h0 : 0 < n) (hb : n * bytes ≤ 140737488355328) :
    appV s e sz bytes (.imm true 0 []) (.imm f n cs) = some (.slr s.low.length s.top.length 0 n 0 false, s.new (.arr e sz cs 0 0)) := by
  have hc' : cellsOk (s.low.length + 1) cs = true := cellsOk_mono (Nat.zero_le _) hc
  have hne : ¬ n = 0 := by omega
  simp only [appV, srcOf, elems, Option.bind_some, appTo, Nat.zero_add, List.length_nil, Nat.zero_mul, hb, hc', hn, true_and, and_self, if_true, hne, if_false, List.nil_append, newArr]
theorem appV_none {s : Store} {e sz bytes : Nat} {f : Bool} : appV s e sz bytes (.imm true 0 []) (.imm f 0 []) = some (.imm true 0 [], s) := by
  simp [appV, srcOf, elems, appTo, cellsOk]
theorem cloneInts_some {s : Store} {n : Nat} {f : Bool} {cs : List AV} (hc : cellsOk 0 cs = true) (hn : cs.length = n * 1) (h0 : 0 < n) (hb : n * 8 ≤ 140737488355328) :
    callF (tab tbl) noCall 94 [.imm f n cs] s = some (.slr s.low.length s.top.length 0 n 0 false, s.new (.arr 3 1 cs 0 0)) := by
  have hne : ¬ n = 0 := by omega
  refine callF_fc (fc := c94) rfl ?_
  simp only [c94, push_cast, reduceCtorEq, Nat.reduceAdd, Nat.reduceSub, Nat.reduceMul, Nat.reduceLeDiff, Nat.reduceLT, Nat.reduceEqDiff, Int.reduceToNat, Int.reduceLT, Int.reduceLE, Int.reduceBEq, Int.reduceEq, Int.reduceSub, Int.reduceAdd, Int.reduceMul, Int.reduceNeg, fillL, repL, hne, appV_new hc hn h0 hb]
theorem cloneLog_some {s : Store} {n : Nat} {f : Bool} {cs : List AV} (hc : cellsOk 0 cs = true) (hn : cs.length = n * 3) (h0 : 0 < n) (hb : n * 24 ≤ 140737488355328) :
    callF (tab tbl) noCall 95 [.imm f n cs] s = some (.slr s.low.length s.top.length 0 n 0 false, s.new (.arr 99 3 cs 0 0)) := by
  have hne : ¬ n = 0 := by omega
  refine callF_fc (fc := c95) rfl ?_
  simp only [c95, push_cast, reduceCtorEq, Nat.reduceAdd, Nat.reduceSub, Nat.reduceMul, Nat.reduceLeDiff, Nat.reduceLT, Nat.reduceEqDiff, Int.reduceToNat, Int.reduceLT, Int.reduceLE, Int.reduceBEq, Int.reduceEq, Int.reduceSub, Int.reduceAdd, Int.reduceMul, Int.reduceNeg, fillL, repL, hne, appV_new hc hn h0 hb]
theorem cloneLog_none {s : Store} {f : Bool} : callF (tab tbl) noCall 95 [.imm f 0 []] s = some (.imm true 0 [], s) := by
  refine callF_fc (fc := c95) rfl ?_
  simp only [c95, push_cast, reduceCtorEq, Nat.reduceAdd, Nat.reduceSub, Nat.reduceMul, Nat.reduceLeDiff, Nat.reduceLT, Nat.reduceEqDiff, Int.reduceToNat, Int.reduceLT, Int.reduceLE, Int.reduceBEq, Int.reduceEq, Int.reduceSub, Int.reduceAdd, Int.reduceMul, Int.reduceNeg, fillL, repL, appV_none, joinR, Store.same_self, joinVs, same_self]
end Go.Proofs.Ythogcanomihelaa.Ga
