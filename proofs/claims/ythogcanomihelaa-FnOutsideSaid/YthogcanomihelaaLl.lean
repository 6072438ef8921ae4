/- The program's word on the accesses of a heap: yes, where all lie inside. -/
import Derived.Test.YthogcanomihelaaLk
set_option linter.unusedSimpArgs false
set_option linter.unusedVariables false
namespace Go.Proofs.Ythogcanomihelaa.Ga
open Go Go.Proofs Go.Proofs.Ythogcanomihelaa.Ae
attribute [local congr] obind_congr
attribute [local push_cast] exF argsV frzs frz frzL frz1 exS_reg exS_seq exS_cond exS_alt exS_block exS_loop exS_exit exS_ret exS_skip evReg evOps evOne evAct evOp rd putV st0 evEnd resV resL resOne oneOr frzR loadV storeV binV binI unV push_frm pop_frm frm_len frm_top frm_get_top frm_set_top frm_new AV.cells AV.lowB AV.lowL AV.isCell cellsOk set_len Option.bind_some Option.map_some Option.map_none List.getD_cons_zero List.getD_cons_succ List.nil_append List.cons_append List.append_nil List.length_cons List.length_nil List.set_cons_zero List.set_cons_succ List.map_cons List.map_nil List.replicate if_true if_false ite_true ite_false ite_self Bool.false_eq_true List.all_cons List.all_nil Bool.and_true Bool.true_and Bool.and_self Bool.and_eq_true List.getElem?_cons_zero List.getElem?_cons_succ List.drop_succ_cons List.drop_zero List.take_succ_cons List.take_zero true_and and_true and_self decide_true decide_false Bool.not_true Bool.not_false Prod.mk.injEq Option.some.injEq List.getElem?_drop optInt elems sliceV partsOf Nat.add_zero Nat.zero_add Nat.mul_one beq_self_eq_true litParts Bool.or_false Bool.false_or Bool.or_true Bool.true_or Bool.false_and Bool.and_false List.cons.injEq not_false_eq_true not_true_eq_false Nat.zero_le Nat.le_refl gt_iff_lt ge_iff_le List.drop_nil List.take_nil newBox List.length_append List.length_map bne_self_eq_false eq_self Nat.lt_add_one ne_eq false_implies Int.le_refl

set_option maxHeartbeats 4000000 in
theorem good_ok {s : Store} {d i : Nat} {w lg : AV} {half low next a b c : Int} (hg : s.get d i = some (.box 26 [w, .int .i64 half, .int .i64 low, .int .i64 next, lg])) (h1 : 16 ≤ half ∧ half ≤ 4096) (hin : inside half (a, b, c)) :
    callF (tab tbl) noCall 46 [.agg [.int .i64 a, .int .i64 b, .int .i64 c], .ptr d i 0] s = some (.bool false, s) := by
  have hd := get_le hg
  obtain ⟨i1, i2, i3, i4, i5, i6⟩ := hin
  simp only at i1 i2 i3 i4 i5 i6
  have hw1 : IntKind.i64.wrap (b + half) = b + half := wrap_id (by omega) (by omega)
  have hw2 : IntKind.i64.wrap (c - 1) = c - 1 := wrap_id (by omega) (by omega)
  have hA : ¬ b + half < c := by omega
  have hB : b ≤ a ∧ a ≤ c - 1 := by omega
  by_cases e5 : b = 0
  · have e5' : (b != 0) = false := by simpa using e5
    apply funI (fc := c46) rfl (by simp only [c46, push_cast, reduceCtorEq, Nat.reduceAdd, Nat.reduceSub, Nat.reduceMul, Nat.reduceLeDiff, Nat.reduceLT, Nat.reduceEqDiff, Int.reduceToNat, Int.reduceLT, Int.reduceLE, Int.reduceBEq, Int.reduceEq, Int.reduceSub, Int.reduceAdd, Int.reduceMul, Int.reduceNeg, fillL, repL, hd, hg, e5', hw1, hw2, hA, hB, within_ok]; rfl)
    · simp only [c46, st0, push_frm, if_false, if_true, Bool.false_eq_true, Nat.reduceSub, List.replicate, List.cons_append, List.nil_append, hd, hg, e5', hw1, hw2, hA, hB, within_ok]
      repeat' (first
        | with_reducible exact opsNil
        | with_reducible exact retI
        | with_reducible exact skipI
        | with_reducible exact exitI
        | with_reducible exact if_pos rfl
        | with_reducible exact if_neg (by decide)
        | (with_reducible apply seqI)
        | (with_reducible apply regI)
        | (with_reducible apply regD)
        | with_reducible exact trNil
        | (with_reducible apply blockI)
        | (with_reducible apply condT; focus (simp only [push_cast, reduceCtorEq, Nat.reduceAdd, Nat.reduceSub, Nat.reduceMul, Nat.reduceLeDiff, Nat.reduceLT, Nat.reduceEqDiff, Int.reduceToNat, Int.reduceLT, Int.reduceLE, Int.reduceBEq, Int.reduceEq, Int.reduceSub, Int.reduceAdd, Int.reduceMul, Int.reduceNeg, fillL, repL, hd, hg, e5', hw1, hw2, hA, hB, within_ok]; done))
        | (with_reducible apply condF; focus (simp only [push_cast, reduceCtorEq, Nat.reduceAdd, Nat.reduceSub, Nat.reduceMul, Nat.reduceLeDiff, Nat.reduceLT, Nat.reduceEqDiff, Int.reduceToNat, Int.reduceLT, Int.reduceLE, Int.reduceBEq, Int.reduceEq, Int.reduceSub, Int.reduceAdd, Int.reduceMul, Int.reduceNeg, fillL, repL, hd, hg, e5', hw1, hw2, hA, hB, within_ok]; done))
        | (with_reducible apply opsCons (by simp only [push_cast, reduceCtorEq, Nat.reduceAdd, Nat.reduceSub, Nat.reduceMul, Nat.reduceLeDiff, Nat.reduceLT, Nat.reduceEqDiff, Int.reduceToNat, Int.reduceLT, Int.reduceLE, Int.reduceBEq, Int.reduceEq, Int.reduceSub, Int.reduceAdd, Int.reduceMul, Int.reduceNeg, fillL, repL, frm_get, frm_set, set_set, hd, hg, e5', hw1, hw2, hA, hB, within_ok]; rfl); dsimp only [List.cons_append, List.nil_append, putV, List.set])
        | (with_reducible apply trCons (by simp only [push_cast, reduceCtorEq, Nat.reduceAdd, Nat.reduceSub, Nat.reduceMul, Nat.reduceLeDiff, Nat.reduceLT, Nat.reduceEqDiff, Int.reduceToNat, Int.reduceLT, Int.reduceLE, Int.reduceBEq, Int.reduceEq, Int.reduceSub, Int.reduceAdd, Int.reduceMul, Int.reduceNeg, fillL, repL, frm_get, frm_set, set_set, hd, hg, e5', hw1, hw2, hA, hB, within_ok]; rfl); dsimp only [List.cons_append, List.nil_append, putV, List.set])
        | (simp only [List.getLast?_cons_cons, List.getLast?_singleton]; rfl)
        | (refine (?_ : List.all _ _ = true); simp only [chkOne, noCall, same_self, push_cast, reduceCtorEq, Nat.reduceAdd, Nat.reduceSub, Nat.reduceMul, Nat.reduceLeDiff, Nat.reduceLT, Nat.reduceEqDiff, Int.reduceToNat, Int.reduceLT, Int.reduceLE, Int.reduceBEq, Int.reduceEq, Int.reduceSub, Int.reduceAdd, Int.reduceMul, Int.reduceNeg, fillL, repL, frm_get, frm_set, set_set, hd, hg, e5', hw1, hw2, hA, hB, within_ok]; done)
        | (dsimp only))
    · simp only [c46, push_cast, reduceCtorEq, Nat.reduceAdd, Nat.reduceSub, Nat.reduceMul, Nat.reduceLeDiff, Nat.reduceLT, Nat.reduceEqDiff, Int.reduceToNat, Int.reduceLT, Int.reduceLE, Int.reduceBEq, Int.reduceEq, Int.reduceSub, Int.reduceAdd, Int.reduceMul, Int.reduceNeg, fillL, repL, frm_get, frm_set, set_set, hd, hg, e5', hw1, hw2, hA, hB, within_ok]
  · have e5' : (b != 0) = true := by simpa using e5
    have e6' : (b != half) = false := by simp; omega
    apply funI (fc := c46) rfl (by simp only [c46, push_cast, reduceCtorEq, Nat.reduceAdd, Nat.reduceSub, Nat.reduceMul, Nat.reduceLeDiff, Nat.reduceLT, Nat.reduceEqDiff, Int.reduceToNat, Int.reduceLT, Int.reduceLE, Int.reduceBEq, Int.reduceEq, Int.reduceSub, Int.reduceAdd, Int.reduceMul, Int.reduceNeg, fillL, repL, hd, hg, e5', e6', hw1, hw2, hA, hB, within_ok]; rfl)
    · simp only [c46, st0, push_frm, if_false, if_true, Bool.false_eq_true, Nat.reduceSub, List.replicate, List.cons_append, List.nil_append, hd, hg, e5', e6', hw1, hw2, hA, hB, within_ok]
      repeat' (first
        | with_reducible exact opsNil
        | with_reducible exact retI
        | with_reducible exact skipI
        | with_reducible exact exitI
        | with_reducible exact if_pos rfl
        | with_reducible exact if_neg (by decide)
        | (with_reducible apply seqI)
        | (with_reducible apply regI)
        | (with_reducible apply regD)
        | with_reducible exact trNil
        | (with_reducible apply blockI)
        | (with_reducible apply condT; focus (simp only [push_cast, reduceCtorEq, Nat.reduceAdd, Nat.reduceSub, Nat.reduceMul, Nat.reduceLeDiff, Nat.reduceLT, Nat.reduceEqDiff, Int.reduceToNat, Int.reduceLT, Int.reduceLE, Int.reduceBEq, Int.reduceEq, Int.reduceSub, Int.reduceAdd, Int.reduceMul, Int.reduceNeg, fillL, repL, hd, hg, e5', e6', hw1, hw2, hA, hB, within_ok]; done))
        | (with_reducible apply condF; focus (simp only [push_cast, reduceCtorEq, Nat.reduceAdd, Nat.reduceSub, Nat.reduceMul, Nat.reduceLeDiff, Nat.reduceLT, Nat.reduceEqDiff, Int.reduceToNat, Int.reduceLT, Int.reduceLE, Int.reduceBEq, Int.reduceEq, Int.reduceSub, Int.reduceAdd, Int.reduceMul, Int.reduceNeg, fillL, repL, hd, hg, e5', e6', hw1, hw2, hA, hB, within_ok]; done))
        | (with_reducible apply opsCons (by simp only [push_cast, reduceCtorEq, Nat.reduceAdd, Nat.reduceSub, Nat.reduceMul, Nat.reduceLeDiff, Nat.reduceLT, Nat.reduceEqDiff, Int.reduceToNat, Int.reduceLT, Int.reduceLE, Int.reduceBEq, Int.reduceEq, Int.reduceSub, Int.reduceAdd, Int.reduceMul, Int.reduceNeg, fillL, repL, frm_get, frm_set, set_set, hd, hg, e5', e6', hw1, hw2, hA, hB, within_ok]; rfl); dsimp only [List.cons_append, List.nil_append, putV, List.set])
        | (with_reducible apply trCons (by simp only [push_cast, reduceCtorEq, Nat.reduceAdd, Nat.reduceSub, Nat.reduceMul, Nat.reduceLeDiff, Nat.reduceLT, Nat.reduceEqDiff, Int.reduceToNat, Int.reduceLT, Int.reduceLE, Int.reduceBEq, Int.reduceEq, Int.reduceSub, Int.reduceAdd, Int.reduceMul, Int.reduceNeg, fillL, repL, frm_get, frm_set, set_set, hd, hg, e5', e6', hw1, hw2, hA, hB, within_ok]; rfl); dsimp only [List.cons_append, List.nil_append, putV, List.set])
        | (simp only [List.getLast?_cons_cons, List.getLast?_singleton]; rfl)
        | (refine (?_ : List.all _ _ = true); simp only [chkOne, noCall, same_self, push_cast, reduceCtorEq, Nat.reduceAdd, Nat.reduceSub, Nat.reduceMul, Nat.reduceLeDiff, Nat.reduceLT, Nat.reduceEqDiff, Int.reduceToNat, Int.reduceLT, Int.reduceLE, Int.reduceBEq, Int.reduceEq, Int.reduceSub, Int.reduceAdd, Int.reduceMul, Int.reduceNeg, fillL, repL, frm_get, frm_set, set_set, hd, hg, e5', e6', hw1, hw2, hA, hB, within_ok]; done)
        | (dsimp only))
    · simp only [c46, push_cast, reduceCtorEq, Nat.reduceAdd, Nat.reduceSub, Nat.reduceMul, Nat.reduceLeDiff, Nat.reduceLT, Nat.reduceEqDiff, Int.reduceToNat, Int.reduceLT, Int.reduceLE, Int.reduceBEq, Int.reduceEq, Int.reduceSub, Int.reduceAdd, Int.reduceMul, Int.reduceNeg, fillL, repL, frm_get, frm_set, set_set, hd, hg, e5', e6', hw1, hw2, hA, hB, within_ok]
end Go.Proofs.Ythogcanomihelaa.Ga
