/- Heaps that are read: whether one may be, by the reference and by the program. -/
import Derived.Test.YthogcanomihelaaLa
import Derived.Test.YthogcanomihelaaAe20
set_option linter.unusedSimpArgs false
set_option linter.unusedVariables false
namespace Go.Proofs.Ythogcanomihelaa.Ga
open Go Go.Proofs Go.Proofs.Ythogcanomihelaa.Ae
attribute [local congr] obind_congr
attribute [local push_cast] exF argsV frzs frz frzL frz1 exS_reg exS_seq exS_cond exS_alt exS_block exS_loop exS_exit exS_ret exS_skip evReg evOps evOne evAct evOp rd putV st0 evEnd resV resL resOne oneOr frzR loadV storeV binV binI unV push_frm pop_frm frm_len frm_top frm_get_top frm_set_top frm_new AV.cells AV.lowB AV.lowL AV.isCell cellsOk set_len Option.bind_some Option.map_some Option.map_none List.getD_cons_zero List.getD_cons_succ List.nil_append List.cons_append List.append_nil List.length_cons List.length_nil List.set_cons_zero List.set_cons_succ List.map_cons List.map_nil List.replicate if_true if_false ite_true ite_false ite_self Bool.false_eq_true List.all_cons List.all_nil Bool.and_true Bool.true_and Bool.and_self Bool.and_eq_true List.getElem?_cons_zero List.getElem?_cons_succ List.drop_succ_cons List.drop_zero List.take_succ_cons List.take_zero true_and and_true and_self decide_true decide_false Bool.not_true Bool.not_false Prod.mk.injEq Option.some.injEq List.getElem?_drop optInt elems sliceV partsOf Nat.add_zero Nat.zero_add Nat.mul_one beq_self_eq_true litParts Bool.or_false Bool.false_or Bool.or_true Bool.true_or Bool.false_and Bool.and_false List.cons.injEq not_false_eq_true not_true_eq_false Nat.zero_le Nat.le_refl gt_iff_lt ge_iff_le List.drop_nil List.take_nil newBox List.length_append List.length_map bne_self_eq_false eq_self Nat.lt_add_one ne_eq false_implies Int.le_refl

def heapV (f1 : Bool) (n : Nat) (ws : List AV) (half low next : Int) (f2 : Bool) (m : Nat) (ls : List AV) : AV := .agg [.imm f1 n ws, .int .i64 half, .int .i64 low, .int .i64 next, .imm f2 m ls]
def hOk (half low next : Int) (n m : Nat) : Bool := decide (16 ≤ half ∧ half ≤ 4096 ∧ (n : Int) = 2 * half ∧ m ≤ 4000 ∧ (low = 0 ∨ low = half) ∧ low ≤ next ∧ next ≤ low + half)

theorem within_ok (x a b : Int) (s : Store) : callF (tab tbl) noCall 47 [.int .i64 x, .int .i64 a, .int .i64 b] s = some (.bool (decide (a ≤ x ∧ x ≤ b)), s) := by
  refine callF_fc (fc := c47) rfl ?_
  by_cases h1 : a ≤ x
  · by_cases h2 : x ≤ b <;> simp only [c47, push_cast, reduceCtorEq, Nat.reduceAdd, Nat.reduceSub, Nat.reduceMul, Nat.reduceLeDiff, Nat.reduceLT, Nat.reduceEqDiff, Int.reduceToNat, Int.reduceLT, Int.reduceLE, Int.reduceBEq, Int.reduceEq, Int.reduceSub, Int.reduceAdd, Int.reduceMul, Int.reduceNeg, fillL, repL, h1, h2]
  · simp only [c47, push_cast, reduceCtorEq, Nat.reduceAdd, Nat.reduceSub, Nat.reduceMul, Nat.reduceLeDiff, Nat.reduceLT, Nat.reduceEqDiff, Int.reduceToNat, Int.reduceLT, Int.reduceLE, Int.reduceBEq, Int.reduceEq, Int.reduceSub, Int.reduceAdd, Int.reduceMul, Int.reduceNeg, fillL, repL, h1, false_and]

set_option maxHeartbeats 4000000 in
theorem specOk (f1 f2 : Bool) (n m : Nat) (ws ls : List AV) (half low next : Int) (s : Store) :
    callF (tab tbl) noCall 10 [heapV f1 n ws half low next f2 m ls] s = some (.bool (hOk half low next n m), s) := by
  unfold heapV hOk
  by_cases h1 : half < 16
  · have e : ¬ 16 ≤ half := by omega
    apply funI (fc := c10) rfl (by simp only [c10, push_cast, reduceCtorEq, Nat.reduceAdd, Nat.reduceSub, Nat.reduceMul, Nat.reduceLeDiff, Nat.reduceLT, Nat.reduceEqDiff, Int.reduceToNat, Int.reduceLT, Int.reduceLE, Int.reduceBEq, Int.reduceEq, Int.reduceSub, Int.reduceAdd, Int.reduceMul, Int.reduceNeg, fillL, repL, h1, e, false_and]; rfl)
    · simp only [c10, st0, push_frm, if_false, if_true, Bool.false_eq_true, Nat.reduceSub, List.replicate, List.cons_append, List.nil_append, h1, e, false_and]
      repeat' (first
        | with_reducible exact opsNil
        | with_reducible exact retI
        | with_reducible exact skipI
        | with_reducible exact exitI
        | with_reducible exact if_pos rfl
        | with_reducible exact if_neg (by decide)
        | (with_reducible apply seqI)
        | (with_reducible apply regI)
        | (with_reducible apply regD)
        | with_reducible exact trNil
        | (with_reducible apply blockI)
        | (with_reducible apply condT; focus (simp only [push_cast, reduceCtorEq, Nat.reduceAdd, Nat.reduceSub, Nat.reduceMul, Nat.reduceLeDiff, Nat.reduceLT, Nat.reduceEqDiff, Int.reduceToNat, Int.reduceLT, Int.reduceLE, Int.reduceBEq, Int.reduceEq, Int.reduceSub, Int.reduceAdd, Int.reduceMul, Int.reduceNeg, fillL, repL, h1, e, false_and]; done))
        | (with_reducible apply condF; focus (simp only [push_cast, reduceCtorEq, Nat.reduceAdd, Nat.reduceSub, Nat.reduceMul, Nat.reduceLeDiff, Nat.reduceLT, Nat.reduceEqDiff, Int.reduceToNat, Int.reduceLT, Int.reduceLE, Int.reduceBEq, Int.reduceEq, Int.reduceSub, Int.reduceAdd, Int.reduceMul, Int.reduceNeg, fillL, repL, h1, e, false_and]; done))
        | (with_reducible apply opsCons (by simp only [push_cast, reduceCtorEq, Nat.reduceAdd, Nat.reduceSub, Nat.reduceMul, Nat.reduceLeDiff, Nat.reduceLT, Nat.reduceEqDiff, Int.reduceToNat, Int.reduceLT, Int.reduceLE, Int.reduceBEq, Int.reduceEq, Int.reduceSub, Int.reduceAdd, Int.reduceMul, Int.reduceNeg, fillL, repL, frm_get, frm_set, set_set, h1, e, false_and]; rfl); dsimp only [List.cons_append, List.nil_append, putV, List.set])
        | (with_reducible apply trCons (by simp only [push_cast, reduceCtorEq, Nat.reduceAdd, Nat.reduceSub, Nat.reduceMul, Nat.reduceLeDiff, Nat.reduceLT, Nat.reduceEqDiff, Int.reduceToNat, Int.reduceLT, Int.reduceLE, Int.reduceBEq, Int.reduceEq, Int.reduceSub, Int.reduceAdd, Int.reduceMul, Int.reduceNeg, fillL, repL, frm_get, frm_set, set_set, h1, e, false_and]; rfl); dsimp only [List.cons_append, List.nil_append, putV, List.set])
        | (simp only [List.getLast?_cons_cons, List.getLast?_singleton]; rfl)
        | (refine (?_ : List.all _ _ = true); simp only [chkOne, noCall, same_self, push_cast, reduceCtorEq, Nat.reduceAdd, Nat.reduceSub, Nat.reduceMul, Nat.reduceLeDiff, Nat.reduceLT, Nat.reduceEqDiff, Int.reduceToNat, Int.reduceLT, Int.reduceLE, Int.reduceBEq, Int.reduceEq, Int.reduceSub, Int.reduceAdd, Int.reduceMul, Int.reduceNeg, fillL, repL, frm_get, frm_set, set_set, h1, e, false_and]; done)
        | (dsimp only))
    · simp only [c10, push_cast, reduceCtorEq, Nat.reduceAdd, Nat.reduceSub, Nat.reduceMul, Nat.reduceLeDiff, Nat.reduceLT, Nat.reduceEqDiff, Int.reduceToNat, Int.reduceLT, Int.reduceLE, Int.reduceBEq, Int.reduceEq, Int.reduceSub, Int.reduceAdd, Int.reduceMul, Int.reduceNeg, fillL, repL, frm_get, frm_set, set_set, h1, e, false_and]
  have h1' : 16 ≤ half := by omega
  by_cases h2 : 4096 < half
  · have e : ¬ half ≤ 4096 := by omega
    apply funI (fc := c10) rfl (by simp only [c10, push_cast, reduceCtorEq, Nat.reduceAdd, Nat.reduceSub, Nat.reduceMul, Nat.reduceLeDiff, Nat.reduceLT, Nat.reduceEqDiff, Int.reduceToNat, Int.reduceLT, Int.reduceLE, Int.reduceBEq, Int.reduceEq, Int.reduceSub, Int.reduceAdd, Int.reduceMul, Int.reduceNeg, fillL, repL, h1, h2, e, false_and, and_false]; rfl)
    · simp only [c10, st0, push_frm, if_false, if_true, Bool.false_eq_true, Nat.reduceSub, List.replicate, List.cons_append, List.nil_append, h1, h2, e, false_and, and_false]
      repeat' (first
        | with_reducible exact opsNil
        | with_reducible exact retI
        | with_reducible exact skipI
        | with_reducible exact exitI
        | with_reducible exact if_pos rfl
        | with_reducible exact if_neg (by decide)
        | (with_reducible apply seqI)
        | (with_reducible apply regI)
        | (with_reducible apply regD)
        | with_reducible exact trNil
        | (with_reducible apply blockI)
        | (with_reducible apply condT; focus (simp only [push_cast, reduceCtorEq, Nat.reduceAdd, Nat.reduceSub, Nat.reduceMul, Nat.reduceLeDiff, Nat.reduceLT, Nat.reduceEqDiff, Int.reduceToNat, Int.reduceLT, Int.reduceLE, Int.reduceBEq, Int.reduceEq, Int.reduceSub, Int.reduceAdd, Int.reduceMul, Int.reduceNeg, fillL, repL, h1, h2, e, false_and, and_false]; done))
        | (with_reducible apply condF; focus (simp only [push_cast, reduceCtorEq, Nat.reduceAdd, Nat.reduceSub, Nat.reduceMul, Nat.reduceLeDiff, Nat.reduceLT, Nat.reduceEqDiff, Int.reduceToNat, Int.reduceLT, Int.reduceLE, Int.reduceBEq, Int.reduceEq, Int.reduceSub, Int.reduceAdd, Int.reduceMul, Int.reduceNeg, fillL, repL, h1, h2, e, false_and, and_false]; done))
        | (with_reducible apply opsCons (by simp only [push_cast, reduceCtorEq, Nat.reduceAdd, Nat.reduceSub, Nat.reduceMul, Nat.reduceLeDiff, Nat.reduceLT, Nat.reduceEqDiff, Int.reduceToNat, Int.reduceLT, Int.reduceLE, Int.reduceBEq, Int.reduceEq, Int.reduceSub, Int.reduceAdd, Int.reduceMul, Int.reduceNeg, fillL, repL, frm_get, frm_set, set_set, h1, h2, e, false_and, and_false]; rfl); dsimp only [List.cons_append, List.nil_append, putV, List.set])
        | (with_reducible apply trCons (by simp only [push_cast, reduceCtorEq, Nat.reduceAdd, Nat.reduceSub, Nat.reduceMul, Nat.reduceLeDiff, Nat.reduceLT, Nat.reduceEqDiff, Int.reduceToNat, Int.reduceLT, Int.reduceLE, Int.reduceBEq, Int.reduceEq, Int.reduceSub, Int.reduceAdd, Int.reduceMul, Int.reduceNeg, fillL, repL, frm_get, frm_set, set_set, h1, h2, e, false_and, and_false]; rfl); dsimp only [List.cons_append, List.nil_append, putV, List.set])
        | (simp only [List.getLast?_cons_cons, List.getLast?_singleton]; rfl)
        | (refine (?_ : List.all _ _ = true); simp only [chkOne, noCall, same_self, push_cast, reduceCtorEq, Nat.reduceAdd, Nat.reduceSub, Nat.reduceMul, Nat.reduceLeDiff, Nat.reduceLT, Nat.reduceEqDiff, Int.reduceToNat, Int.reduceLT, Int.reduceLE, Int.reduceBEq, Int.reduceEq, Int.reduceSub, Int.reduceAdd, Int.reduceMul, Int.reduceNeg, fillL, repL, frm_get, frm_set, set_set, h1, h2, e, false_and, and_false]; done)
        | (dsimp only))
    · simp only [c10, push_cast, reduceCtorEq, Nat.reduceAdd, Nat.reduceSub, Nat.reduceMul, Nat.reduceLeDiff, Nat.reduceLT, Nat.reduceEqDiff, Int.reduceToNat, Int.reduceLT, Int.reduceLE, Int.reduceBEq, Int.reduceEq, Int.reduceSub, Int.reduceAdd, Int.reduceMul, Int.reduceNeg, fillL, repL, frm_get, frm_set, set_set, h1, h2, e, false_and, and_false]
  have h2' : half ≤ 4096 := by omega
  have w : IntKind.i64.wrap (2 * half) = 2 * half := wrap_id (by omega) (by omega)
  by_cases h3 : ¬ (n : Int) = 2 * half
  · have e : ((n : Int) != 2 * half) = true := by simpa using h3
    apply funI (fc := c10) rfl (by simp only [c10, push_cast, reduceCtorEq, Nat.reduceAdd, Nat.reduceSub, Nat.reduceMul, Nat.reduceLeDiff, Nat.reduceLT, Nat.reduceEqDiff, Int.reduceToNat, Int.reduceLT, Int.reduceLE, Int.reduceBEq, Int.reduceEq, Int.reduceSub, Int.reduceAdd, Int.reduceMul, Int.reduceNeg, fillL, repL, h1, h2, w, e, h3, false_and, and_false]; rfl)
    · simp only [c10, st0, push_frm, if_false, if_true, Bool.false_eq_true, Nat.reduceSub, List.replicate, List.cons_append, List.nil_append, h1, h2, w, e, h3, false_and, and_false]
      repeat' (first
        | with_reducible exact opsNil
        | with_reducible exact retI
        | with_reducible exact skipI
        | with_reducible exact exitI
        | with_reducible exact if_pos rfl
        | with_reducible exact if_neg (by decide)
        | (with_reducible apply seqI)
        | (with_reducible apply regI)
        | (with_reducible apply regD)
        | with_reducible exact trNil
        | (with_reducible apply blockI)
        | (with_reducible apply condT; focus (simp only [push_cast, reduceCtorEq, Nat.reduceAdd, Nat.reduceSub, Nat.reduceMul, Nat.reduceLeDiff, Nat.reduceLT, Nat.reduceEqDiff, Int.reduceToNat, Int.reduceLT, Int.reduceLE, Int.reduceBEq, Int.reduceEq, Int.reduceSub, Int.reduceAdd, Int.reduceMul, Int.reduceNeg, fillL, repL, h1, h2, w, e, h3, false_and, and_false]; done))
        | (with_reducible apply condF; focus (simp only [push_cast, reduceCtorEq, Nat.reduceAdd, Nat.reduceSub, Nat.reduceMul, Nat.reduceLeDiff, Nat.reduceLT, Nat.reduceEqDiff, Int.reduceToNat, Int.reduceLT, Int.reduceLE, Int.reduceBEq, Int.reduceEq, Int.reduceSub, Int.reduceAdd, Int.reduceMul, Int.reduceNeg, fillL, repL, h1, h2, w, e, h3, false_and, and_false]; done))
        | (with_reducible apply opsCons (by simp only [push_cast, reduceCtorEq, Nat.reduceAdd, Nat.reduceSub, Nat.reduceMul, Nat.reduceLeDiff, Nat.reduceLT, Nat.reduceEqDiff, Int.reduceToNat, Int.reduceLT, Int.reduceLE, Int.reduceBEq, Int.reduceEq, Int.reduceSub, Int.reduceAdd, Int.reduceMul, Int.reduceNeg, fillL, repL, frm_get, frm_set, set_set, h1, h2, w, e, h3, false_and, and_false]; rfl); dsimp only [List.cons_append, List.nil_append, putV, List.set])
        | (with_reducible apply trCons (by simp only [push_cast, reduceCtorEq, Nat.reduceAdd, Nat.reduceSub, Nat.reduceMul, Nat.reduceLeDiff, Nat.reduceLT, Nat.reduceEqDiff, Int.reduceToNat, Int.reduceLT, Int.reduceLE, Int.reduceBEq, Int.reduceEq, Int.reduceSub, Int.reduceAdd, Int.reduceMul, Int.reduceNeg, fillL, repL, frm_get, frm_set, set_set, h1, h2, w, e, h3, false_and, and_false]; rfl); dsimp only [List.cons_append, List.nil_append, putV, List.set])
        | (simp only [List.getLast?_cons_cons, List.getLast?_singleton]; rfl)
        | (refine (?_ : List.all _ _ = true); simp only [chkOne, noCall, same_self, push_cast, reduceCtorEq, Nat.reduceAdd, Nat.reduceSub, Nat.reduceMul, Nat.reduceLeDiff, Nat.reduceLT, Nat.reduceEqDiff, Int.reduceToNat, Int.reduceLT, Int.reduceLE, Int.reduceBEq, Int.reduceEq, Int.reduceSub, Int.reduceAdd, Int.reduceMul, Int.reduceNeg, fillL, repL, frm_get, frm_set, set_set, h1, h2, w, e, h3, false_and, and_false]; done)
        | (dsimp only))
    · simp only [c10, push_cast, reduceCtorEq, Nat.reduceAdd, Nat.reduceSub, Nat.reduceMul, Nat.reduceLeDiff, Nat.reduceLT, Nat.reduceEqDiff, Int.reduceToNat, Int.reduceLT, Int.reduceLE, Int.reduceBEq, Int.reduceEq, Int.reduceSub, Int.reduceAdd, Int.reduceMul, Int.reduceNeg, fillL, repL, frm_get, frm_set, set_set, h1, h2, w, e, h3, false_and, and_false]
  have e3 : ((n : Int) != 2 * half) = false := by simpa using h3
  have h3 : (n : Int) = 2 * half := by omega
  by_cases h4 : (4000 : Int) < m
  · have e : ¬ m ≤ 4000 := by omega
    apply funI (fc := c10) rfl (by simp only [c10, push_cast, reduceCtorEq, Nat.reduceAdd, Nat.reduceSub, Nat.reduceMul, Nat.reduceLeDiff, Nat.reduceLT, Nat.reduceEqDiff, Int.reduceToNat, Int.reduceLT, Int.reduceLE, Int.reduceBEq, Int.reduceEq, Int.reduceSub, Int.reduceAdd, Int.reduceMul, Int.reduceNeg, fillL, repL, h1, h2, w, e3, h4, e, false_and, and_false]; rfl)
    · simp only [c10, st0, push_frm, if_false, if_true, Bool.false_eq_true, Nat.reduceSub, List.replicate, List.cons_append, List.nil_append, h1, h2, w, e3, h4, e, false_and, and_false]
      repeat' (first
        | with_reducible exact opsNil
        | with_reducible exact retI
        | with_reducible exact skipI
        | with_reducible exact exitI
        | with_reducible exact if_pos rfl
        | with_reducible exact if_neg (by decide)
        | (with_reducible apply seqI)
        | (with_reducible apply regI)
        | (with_reducible apply regD)
        | with_reducible exact trNil
        | (with_reducible apply blockI)
        | (with_reducible apply condT; focus (simp only [push_cast, reduceCtorEq, Nat.reduceAdd, Nat.reduceSub, Nat.reduceMul, Nat.reduceLeDiff, Nat.reduceLT, Nat.reduceEqDiff, Int.reduceToNat, Int.reduceLT, Int.reduceLE, Int.reduceBEq, Int.reduceEq, Int.reduceSub, Int.reduceAdd, Int.reduceMul, Int.reduceNeg, fillL, repL, h1, h2, w, e3, h4, e, false_and, and_false]; done))
        | (with_reducible apply condF; focus (simp only [push_cast, reduceCtorEq, Nat.reduceAdd, Nat.reduceSub, Nat.reduceMul, Nat.reduceLeDiff, Nat.reduceLT, Nat.reduceEqDiff, Int.reduceToNat, Int.reduceLT, Int.reduceLE, Int.reduceBEq, Int.reduceEq, Int.reduceSub, Int.reduceAdd, Int.reduceMul, Int.reduceNeg, fillL, repL, h1, h2, w, e3, h4, e, false_and, and_false]; done))
        | (with_reducible apply opsCons (by simp only [push_cast, reduceCtorEq, Nat.reduceAdd, Nat.reduceSub, Nat.reduceMul, Nat.reduceLeDiff, Nat.reduceLT, Nat.reduceEqDiff, Int.reduceToNat, Int.reduceLT, Int.reduceLE, Int.reduceBEq, Int.reduceEq, Int.reduceSub, Int.reduceAdd, Int.reduceMul, Int.reduceNeg, fillL, repL, frm_get, frm_set, set_set, h1, h2, w, e3, h4, e, false_and, and_false]; rfl); dsimp only [List.cons_append, List.nil_append, putV, List.set])
        | (with_reducible apply trCons (by simp only [push_cast, reduceCtorEq, Nat.reduceAdd, Nat.reduceSub, Nat.reduceMul, Nat.reduceLeDiff, Nat.reduceLT, Nat.reduceEqDiff, Int.reduceToNat, Int.reduceLT, Int.reduceLE, Int.reduceBEq, Int.reduceEq, Int.reduceSub, Int.reduceAdd, Int.reduceMul, Int.reduceNeg, fillL, repL, frm_get, frm_set, set_set, h1, h2, w, e3, h4, e, false_and, and_false]; rfl); dsimp only [List.cons_append, List.nil_append, putV, List.set])
        | (simp only [List.getLast?_cons_cons, List.getLast?_singleton]; rfl)
        | (refine (?_ : List.all _ _ = true); simp only [chkOne, noCall, same_self, push_cast, reduceCtorEq, Nat.reduceAdd, Nat.reduceSub, Nat.reduceMul, Nat.reduceLeDiff, Nat.reduceLT, Nat.reduceEqDiff, Int.reduceToNat, Int.reduceLT, Int.reduceLE, Int.reduceBEq, Int.reduceEq, Int.reduceSub, Int.reduceAdd, Int.reduceMul, Int.reduceNeg, fillL, repL, frm_get, frm_set, set_set, h1, h2, w, e3, h4, e, false_and, and_false]; done)
        | (dsimp only))
    · simp only [c10, push_cast, reduceCtorEq, Nat.reduceAdd, Nat.reduceSub, Nat.reduceMul, Nat.reduceLeDiff, Nat.reduceLT, Nat.reduceEqDiff, Int.reduceToNat, Int.reduceLT, Int.reduceLE, Int.reduceBEq, Int.reduceEq, Int.reduceSub, Int.reduceAdd, Int.reduceMul, Int.reduceNeg, fillL, repL, frm_get, frm_set, set_set, h1, h2, w, e3, h4, e, false_and, and_false]
  have h4' : m ≤ 4000 := by omega
  by_cases h5 : low = 0
  · subst h5
    have e5 : ((0 : Int) == 0) = true := rfl
    by_cases h6 : 0 ≤ next
    · have w2 : IntKind.i64.wrap (0 + half) = 0 + half := wrap_id (by omega) (by omega)
      by_cases h7 : next ≤ 0 + half
      · apply funI (fc := c10) rfl (by simp only [c10, push_cast, reduceCtorEq, Nat.reduceAdd, Nat.reduceSub, Nat.reduceMul, Nat.reduceLeDiff, Nat.reduceLT, Nat.reduceEqDiff, Int.reduceToNat, Int.reduceLT, Int.reduceLE, Int.reduceBEq, Int.reduceEq, Int.reduceSub, Int.reduceAdd, Int.reduceMul, Int.reduceNeg, fillL, repL, h1, h2, h1', h2', w, e3, h3, h4, h4', h6, h7, w2, true_or, true_and]; rfl)
        · simp only [c10, st0, push_frm, if_false, if_true, Bool.false_eq_true, Nat.reduceSub, List.replicate, List.cons_append, List.nil_append, h1, h2, h1', h2', w, e3, h3, h4, h4', h6, h7, w2, true_or, true_and]
          repeat' (first
            | with_reducible exact opsNil
            | with_reducible exact retI
            | with_reducible exact skipI
            | with_reducible exact exitI
            | with_reducible exact if_pos rfl
            | with_reducible exact if_neg (by decide)
            | (with_reducible apply seqI)
            | (with_reducible apply regI)
            | (with_reducible apply regD)
            | with_reducible exact trNil
            | (with_reducible apply blockI)
            | (with_reducible apply condT; focus (simp only [push_cast, reduceCtorEq, Nat.reduceAdd, Nat.reduceSub, Nat.reduceMul, Nat.reduceLeDiff, Nat.reduceLT, Nat.reduceEqDiff, Int.reduceToNat, Int.reduceLT, Int.reduceLE, Int.reduceBEq, Int.reduceEq, Int.reduceSub, Int.reduceAdd, Int.reduceMul, Int.reduceNeg, fillL, repL, h1, h2, h1', h2', w, e3, h3, h4, h4', h6, h7, w2, true_or, true_and]; done))
            | (with_reducible apply condF; focus (simp only [push_cast, reduceCtorEq, Nat.reduceAdd, Nat.reduceSub, Nat.reduceMul, Nat.reduceLeDiff, Nat.reduceLT, Nat.reduceEqDiff, Int.reduceToNat, Int.reduceLT, Int.reduceLE, Int.reduceBEq, Int.reduceEq, Int.reduceSub, Int.reduceAdd, Int.reduceMul, Int.reduceNeg, fillL, repL, h1, h2, h1', h2', w, e3, h3, h4, h4', h6, h7, w2, true_or, true_and]; done))
            | (with_reducible apply opsCons (by simp only [push_cast, reduceCtorEq, Nat.reduceAdd, Nat.reduceSub, Nat.reduceMul, Nat.reduceLeDiff, Nat.reduceLT, Nat.reduceEqDiff, Int.reduceToNat, Int.reduceLT, Int.reduceLE, Int.reduceBEq, Int.reduceEq, Int.reduceSub, Int.reduceAdd, Int.reduceMul, Int.reduceNeg, fillL, repL, frm_get, frm_set, set_set, h1, h2, h1', h2', w, e3, h3, h4, h4', h6, h7, w2, true_or, true_and]; rfl); dsimp only [List.cons_append, List.nil_append, putV, List.set])
            | (with_reducible apply trCons (by simp only [push_cast, reduceCtorEq, Nat.reduceAdd, Nat.reduceSub, Nat.reduceMul, Nat.reduceLeDiff, Nat.reduceLT, Nat.reduceEqDiff, Int.reduceToNat, Int.reduceLT, Int.reduceLE, Int.reduceBEq, Int.reduceEq, Int.reduceSub, Int.reduceAdd, Int.reduceMul, Int.reduceNeg, fillL, repL, frm_get, frm_set, set_set, h1, h2, h1', h2', w, e3, h3, h4, h4', h6, h7, w2, true_or, true_and]; rfl); dsimp only [List.cons_append, List.nil_append, putV, List.set])
            | (simp only [List.getLast?_cons_cons, List.getLast?_singleton]; rfl)
            | (refine (?_ : List.all _ _ = true); simp only [chkOne, noCall, same_self, push_cast, reduceCtorEq, Nat.reduceAdd, Nat.reduceSub, Nat.reduceMul, Nat.reduceLeDiff, Nat.reduceLT, Nat.reduceEqDiff, Int.reduceToNat, Int.reduceLT, Int.reduceLE, Int.reduceBEq, Int.reduceEq, Int.reduceSub, Int.reduceAdd, Int.reduceMul, Int.reduceNeg, fillL, repL, frm_get, frm_set, set_set, h1, h2, h1', h2', w, e3, h3, h4, h4', h6, h7, w2, true_or, true_and]; done)
            | (dsimp only))
        · simp only [c10, push_cast, reduceCtorEq, Nat.reduceAdd, Nat.reduceSub, Nat.reduceMul, Nat.reduceLeDiff, Nat.reduceLT, Nat.reduceEqDiff, Int.reduceToNat, Int.reduceLT, Int.reduceLE, Int.reduceBEq, Int.reduceEq, Int.reduceSub, Int.reduceAdd, Int.reduceMul, Int.reduceNeg, fillL, repL, frm_get, frm_set, set_set, h1, h2, h1', h2', w, e3, h3, h4, h4', h6, h7, w2, true_or, true_and]
      · apply funI (fc := c10) rfl (by simp only [c10, push_cast, reduceCtorEq, Nat.reduceAdd, Nat.reduceSub, Nat.reduceMul, Nat.reduceLeDiff, Nat.reduceLT, Nat.reduceEqDiff, Int.reduceToNat, Int.reduceLT, Int.reduceLE, Int.reduceBEq, Int.reduceEq, Int.reduceSub, Int.reduceAdd, Int.reduceMul, Int.reduceNeg, fillL, repL, h1, h2, h1', h2', w, e3, h3, h4, h4', h6, h7, w2, true_or, true_and]; rfl)
        · simp only [c10, st0, push_frm, if_false, if_true, Bool.false_eq_true, Nat.reduceSub, List.replicate, List.cons_append, List.nil_append, h1, h2, h1', h2', w, e3, h3, h4, h4', h6, h7, w2, true_or, true_and]
          repeat' (first
            | with_reducible exact opsNil
            | with_reducible exact retI
            | with_reducible exact skipI
            | with_reducible exact exitI
            | with_reducible exact if_pos rfl
            | with_reducible exact if_neg (by decide)
            | (with_reducible apply seqI)
            | (with_reducible apply regI)
            | (with_reducible apply regD)
            | with_reducible exact trNil
            | (with_reducible apply blockI)
            | (with_reducible apply condT; focus (simp only [push_cast, reduceCtorEq, Nat.reduceAdd, Nat.reduceSub, Nat.reduceMul, Nat.reduceLeDiff, Nat.reduceLT, Nat.reduceEqDiff, Int.reduceToNat, Int.reduceLT, Int.reduceLE, Int.reduceBEq, Int.reduceEq, Int.reduceSub, Int.reduceAdd, Int.reduceMul, Int.reduceNeg, fillL, repL, h1, h2, h1', h2', w, e3, h3, h4, h4', h6, h7, w2, true_or, true_and]; done))
            | (with_reducible apply condF; focus (simp only [push_cast, reduceCtorEq, Nat.reduceAdd, Nat.reduceSub, Nat.reduceMul, Nat.reduceLeDiff, Nat.reduceLT, Nat.reduceEqDiff, Int.reduceToNat, Int.reduceLT, Int.reduceLE, Int.reduceBEq, Int.reduceEq, Int.reduceSub, Int.reduceAdd, Int.reduceMul, Int.reduceNeg, fillL, repL, h1, h2, h1', h2', w, e3, h3, h4, h4', h6, h7, w2, true_or, true_and]; done))
            | (with_reducible apply opsCons (by simp only [push_cast, reduceCtorEq, Nat.reduceAdd, Nat.reduceSub, Nat.reduceMul, Nat.reduceLeDiff, Nat.reduceLT, Nat.reduceEqDiff, Int.reduceToNat, Int.reduceLT, Int.reduceLE, Int.reduceBEq, Int.reduceEq, Int.reduceSub, Int.reduceAdd, Int.reduceMul, Int.reduceNeg, fillL, repL, frm_get, frm_set, set_set, h1, h2, h1', h2', w, e3, h3, h4, h4', h6, h7, w2, true_or, true_and]; rfl); dsimp only [List.cons_append, List.nil_append, putV, List.set])
            | (with_reducible apply trCons (by simp only [push_cast, reduceCtorEq, Nat.reduceAdd, Nat.reduceSub, Nat.reduceMul, Nat.reduceLeDiff, Nat.reduceLT, Nat.reduceEqDiff, Int.reduceToNat, Int.reduceLT, Int.reduceLE, Int.reduceBEq, Int.reduceEq, Int.reduceSub, Int.reduceAdd, Int.reduceMul, Int.reduceNeg, fillL, repL, frm_get, frm_set, set_set, h1, h2, h1', h2', w, e3, h3, h4, h4', h6, h7, w2, true_or, true_and]; rfl); dsimp only [List.cons_append, List.nil_append, putV, List.set])
            | (simp only [List.getLast?_cons_cons, List.getLast?_singleton]; rfl)
            | (refine (?_ : List.all _ _ = true); simp only [chkOne, noCall, same_self, push_cast, reduceCtorEq, Nat.reduceAdd, Nat.reduceSub, Nat.reduceMul, Nat.reduceLeDiff, Nat.reduceLT, Nat.reduceEqDiff, Int.reduceToNat, Int.reduceLT, Int.reduceLE, Int.reduceBEq, Int.reduceEq, Int.reduceSub, Int.reduceAdd, Int.reduceMul, Int.reduceNeg, fillL, repL, frm_get, frm_set, set_set, h1, h2, h1', h2', w, e3, h3, h4, h4', h6, h7, w2, true_or, true_and]; done)
            | (dsimp only))
        · simp only [c10, push_cast, reduceCtorEq, Nat.reduceAdd, Nat.reduceSub, Nat.reduceMul, Nat.reduceLeDiff, Nat.reduceLT, Nat.reduceEqDiff, Int.reduceToNat, Int.reduceLT, Int.reduceLE, Int.reduceBEq, Int.reduceEq, Int.reduceSub, Int.reduceAdd, Int.reduceMul, Int.reduceNeg, fillL, repL, frm_get, frm_set, set_set, h1, h2, h1', h2', w, e3, h3, h4, h4', h6, h7, w2, true_or, true_and]
    · apply funI (fc := c10) rfl (by simp only [c10, push_cast, reduceCtorEq, Nat.reduceAdd, Nat.reduceSub, Nat.reduceMul, Nat.reduceLeDiff, Nat.reduceLT, Nat.reduceEqDiff, Int.reduceToNat, Int.reduceLT, Int.reduceLE, Int.reduceBEq, Int.reduceEq, Int.reduceSub, Int.reduceAdd, Int.reduceMul, Int.reduceNeg, fillL, repL, h1, h2, h1', h2', w, e3, h3, h4, h4', h6, true_or, true_and, false_and]; rfl)
      · simp only [c10, st0, push_frm, if_false, if_true, Bool.false_eq_true, Nat.reduceSub, List.replicate, List.cons_append, List.nil_append, h1, h2, h1', h2', w, e3, h3, h4, h4', h6, true_or, true_and, false_and]
        repeat' (first
          | with_reducible exact opsNil
          | with_reducible exact retI
          | with_reducible exact skipI
          | with_reducible exact exitI
          | with_reducible exact if_pos rfl
          | with_reducible exact if_neg (by decide)
          | (with_reducible apply seqI)
          | (with_reducible apply regI)
          | (with_reducible apply regD)
          | with_reducible exact trNil
          | (with_reducible apply blockI)
          | (with_reducible apply condT; focus (simp only [push_cast, reduceCtorEq, Nat.reduceAdd, Nat.reduceSub, Nat.reduceMul, Nat.reduceLeDiff, Nat.reduceLT, Nat.reduceEqDiff, Int.reduceToNat, Int.reduceLT, Int.reduceLE, Int.reduceBEq, Int.reduceEq, Int.reduceSub, Int.reduceAdd, Int.reduceMul, Int.reduceNeg, fillL, repL, h1, h2, h1', h2', w, e3, h3, h4, h4', h6, true_or, true_and, false_and]; done))
          | (with_reducible apply condF; focus (simp only [push_cast, reduceCtorEq, Nat.reduceAdd, Nat.reduceSub, Nat.reduceMul, Nat.reduceLeDiff, Nat.reduceLT, Nat.reduceEqDiff, Int.reduceToNat, Int.reduceLT, Int.reduceLE, Int.reduceBEq, Int.reduceEq, Int.reduceSub, Int.reduceAdd, Int.reduceMul, Int.reduceNeg, fillL, repL, h1, h2, h1', h2', w, e3, h3, h4, h4', h6, true_or, true_and, false_and]; done))
          | (with_reducible apply opsCons (by simp only [push_cast, reduceCtorEq, Nat.reduceAdd, Nat.reduceSub, Nat.reduceMul, Nat.reduceLeDiff, Nat.reduceLT, Nat.reduceEqDiff, Int.reduceToNat, Int.reduceLT, Int.reduceLE, Int.reduceBEq, Int.reduceEq, Int.reduceSub, Int.reduceAdd, Int.reduceMul, Int.reduceNeg, fillL, repL, frm_get, frm_set, set_set, h1, h2, h1', h2', w, e3, h3, h4, h4', h6, true_or, true_and, false_and]; rfl); dsimp only [List.cons_append, List.nil_append, putV, List.set])
          | (with_reducible apply trCons (by simp only [push_cast, reduceCtorEq, Nat.reduceAdd, Nat.reduceSub, Nat.reduceMul, Nat.reduceLeDiff, Nat.reduceLT, Nat.reduceEqDiff, Int.reduceToNat, Int.reduceLT, Int.reduceLE, Int.reduceBEq, Int.reduceEq, Int.reduceSub, Int.reduceAdd, Int.reduceMul, Int.reduceNeg, fillL, repL, frm_get, frm_set, set_set, h1, h2, h1', h2', w, e3, h3, h4, h4', h6, true_or, true_and, false_and]; rfl); dsimp only [List.cons_append, List.nil_append, putV, List.set])
          | (simp only [List.getLast?_cons_cons, List.getLast?_singleton]; rfl)
          | (refine (?_ : List.all _ _ = true); simp only [chkOne, noCall, same_self, push_cast, reduceCtorEq, Nat.reduceAdd, Nat.reduceSub, Nat.reduceMul, Nat.reduceLeDiff, Nat.reduceLT, Nat.reduceEqDiff, Int.reduceToNat, Int.reduceLT, Int.reduceLE, Int.reduceBEq, Int.reduceEq, Int.reduceSub, Int.reduceAdd, Int.reduceMul, Int.reduceNeg, fillL, repL, frm_get, frm_set, set_set, h1, h2, h1', h2', w, e3, h3, h4, h4', h6, true_or, true_and, false_and]; done)
          | (dsimp only))
      · simp only [c10, push_cast, reduceCtorEq, Nat.reduceAdd, Nat.reduceSub, Nat.reduceMul, Nat.reduceLeDiff, Nat.reduceLT, Nat.reduceEqDiff, Int.reduceToNat, Int.reduceLT, Int.reduceLE, Int.reduceBEq, Int.reduceEq, Int.reduceSub, Int.reduceAdd, Int.reduceMul, Int.reduceNeg, fillL, repL, frm_get, frm_set, set_set, h1, h2, h1', h2', w, e3, h3, h4, h4', h6, true_or, true_and, false_and]
  have e5 : (low == 0) = false := by simpa using h5
  by_cases h6 : low = half
  · subst h6
    have w2 : IntKind.i64.wrap (low + low) = low + low := wrap_id (by omega) (by omega)
    by_cases h7 : low ≤ next
    · by_cases h8 : next ≤ low + low
      · apply funI (fc := c10) rfl (by simp only [c10, push_cast, reduceCtorEq, Nat.reduceAdd, Nat.reduceSub, Nat.reduceMul, Nat.reduceLeDiff, Nat.reduceLT, Nat.reduceEqDiff, Int.reduceToNat, Int.reduceLT, Int.reduceLE, Int.reduceBEq, Int.reduceEq, Int.reduceSub, Int.reduceAdd, Int.reduceMul, Int.reduceNeg, fillL, repL, h1, h2, h1', h2', w, e3, h3, h4, h4', e5, h5, h7, h8, w2, or_true, true_and]; rfl)
        · simp only [c10, st0, push_frm, if_false, if_true, Bool.false_eq_true, Nat.reduceSub, List.replicate, List.cons_append, List.nil_append, h1, h2, h1', h2', w, e3, h3, h4, h4', e5, h5, h7, h8, w2, or_true, true_and]
          repeat' (first
            | with_reducible exact opsNil
            | with_reducible exact retI
            | with_reducible exact skipI
            | with_reducible exact exitI
            | with_reducible exact if_pos rfl
            | with_reducible exact if_neg (by decide)
            | (with_reducible apply seqI)
            | (with_reducible apply regI)
            | (with_reducible apply regD)
            | with_reducible exact trNil
            | (with_reducible apply blockI)
            | (with_reducible apply condT; focus (simp only [push_cast, reduceCtorEq, Nat.reduceAdd, Nat.reduceSub, Nat.reduceMul, Nat.reduceLeDiff, Nat.reduceLT, Nat.reduceEqDiff, Int.reduceToNat, Int.reduceLT, Int.reduceLE, Int.reduceBEq, Int.reduceEq, Int.reduceSub, Int.reduceAdd, Int.reduceMul, Int.reduceNeg, fillL, repL, h1, h2, h1', h2', w, e3, h3, h4, h4', e5, h5, h7, h8, w2, or_true, true_and]; done))
            | (with_reducible apply condF; focus (simp only [push_cast, reduceCtorEq, Nat.reduceAdd, Nat.reduceSub, Nat.reduceMul, Nat.reduceLeDiff, Nat.reduceLT, Nat.reduceEqDiff, Int.reduceToNat, Int.reduceLT, Int.reduceLE, Int.reduceBEq, Int.reduceEq, Int.reduceSub, Int.reduceAdd, Int.reduceMul, Int.reduceNeg, fillL, repL, h1, h2, h1', h2', w, e3, h3, h4, h4', e5, h5, h7, h8, w2, or_true, true_and]; done))
            | (with_reducible apply opsCons (by simp only [push_cast, reduceCtorEq, Nat.reduceAdd, Nat.reduceSub, Nat.reduceMul, Nat.reduceLeDiff, Nat.reduceLT, Nat.reduceEqDiff, Int.reduceToNat, Int.reduceLT, Int.reduceLE, Int.reduceBEq, Int.reduceEq, Int.reduceSub, Int.reduceAdd, Int.reduceMul, Int.reduceNeg, fillL, repL, frm_get, frm_set, set_set, h1, h2, h1', h2', w, e3, h3, h4, h4', e5, h5, h7, h8, w2, or_true, true_and]; rfl); dsimp only [List.cons_append, List.nil_append, putV, List.set])
            | (with_reducible apply trCons (by simp only [push_cast, reduceCtorEq, Nat.reduceAdd, Nat.reduceSub, Nat.reduceMul, Nat.reduceLeDiff, Nat.reduceLT, Nat.reduceEqDiff, Int.reduceToNat, Int.reduceLT, Int.reduceLE, Int.reduceBEq, Int.reduceEq, Int.reduceSub, Int.reduceAdd, Int.reduceMul, Int.reduceNeg, fillL, repL, frm_get, frm_set, set_set, h1, h2, h1', h2', w, e3, h3, h4, h4', e5, h5, h7, h8, w2, or_true, true_and]; rfl); dsimp only [List.cons_append, List.nil_append, putV, List.set])
            | (simp only [List.getLast?_cons_cons, List.getLast?_singleton]; rfl)
            | (refine (?_ : List.all _ _ = true); simp only [chkOne, noCall, same_self, push_cast, reduceCtorEq, Nat.reduceAdd, Nat.reduceSub, Nat.reduceMul, Nat.reduceLeDiff, Nat.reduceLT, Nat.reduceEqDiff, Int.reduceToNat, Int.reduceLT, Int.reduceLE, Int.reduceBEq, Int.reduceEq, Int.reduceSub, Int.reduceAdd, Int.reduceMul, Int.reduceNeg, fillL, repL, frm_get, frm_set, set_set, h1, h2, h1', h2', w, e3, h3, h4, h4', e5, h5, h7, h8, w2, or_true, true_and]; done)
            | (dsimp only))
        · simp only [c10, push_cast, reduceCtorEq, Nat.reduceAdd, Nat.reduceSub, Nat.reduceMul, Nat.reduceLeDiff, Nat.reduceLT, Nat.reduceEqDiff, Int.reduceToNat, Int.reduceLT, Int.reduceLE, Int.reduceBEq, Int.reduceEq, Int.reduceSub, Int.reduceAdd, Int.reduceMul, Int.reduceNeg, fillL, repL, frm_get, frm_set, set_set, h1, h2, h1', h2', w, e3, h3, h4, h4', e5, h5, h7, h8, w2, or_true, true_and]
      · apply funI (fc := c10) rfl (by simp only [c10, push_cast, reduceCtorEq, Nat.reduceAdd, Nat.reduceSub, Nat.reduceMul, Nat.reduceLeDiff, Nat.reduceLT, Nat.reduceEqDiff, Int.reduceToNat, Int.reduceLT, Int.reduceLE, Int.reduceBEq, Int.reduceEq, Int.reduceSub, Int.reduceAdd, Int.reduceMul, Int.reduceNeg, fillL, repL, h1, h2, h1', h2', w, e3, h3, h4, h4', e5, h5, h7, h8, w2, or_true, true_and]; rfl)
        · simp only [c10, st0, push_frm, if_false, if_true, Bool.false_eq_true, Nat.reduceSub, List.replicate, List.cons_append, List.nil_append, h1, h2, h1', h2', w, e3, h3, h4, h4', e5, h5, h7, h8, w2, or_true, true_and]
          repeat' (first
            | with_reducible exact opsNil
            | with_reducible exact retI
            | with_reducible exact skipI
            | with_reducible exact exitI
            | with_reducible exact if_pos rfl
            | with_reducible exact if_neg (by decide)
            | (with_reducible apply seqI)
            | (with_reducible apply regI)
            | (with_reducible apply regD)
            | with_reducible exact trNil
            | (with_reducible apply blockI)
            | (with_reducible apply condT; focus (simp only [push_cast, reduceCtorEq, Nat.reduceAdd, Nat.reduceSub, Nat.reduceMul, Nat.reduceLeDiff, Nat.reduceLT, Nat.reduceEqDiff, Int.reduceToNat, Int.reduceLT, Int.reduceLE, Int.reduceBEq, Int.reduceEq, Int.reduceSub, Int.reduceAdd, Int.reduceMul, Int.reduceNeg, fillL, repL, h1, h2, h1', h2', w, e3, h3, h4, h4', e5, h5, h7, h8, w2, or_true, true_and]; done))
            | (with_reducible apply condF; focus (simp only [push_cast, reduceCtorEq, Nat.reduceAdd, Nat.reduceSub, Nat.reduceMul, Nat.reduceLeDiff, Nat.reduceLT, Nat.reduceEqDiff, Int.reduceToNat, Int.reduceLT, Int.reduceLE, Int.reduceBEq, Int.reduceEq, Int.reduceSub, Int.reduceAdd, Int.reduceMul, Int.reduceNeg, fillL, repL, h1, h2, h1', h2', w, e3, h3, h4, h4', e5, h5, h7, h8, w2, or_true, true_and]; done))
            | (with_reducible apply opsCons (by simp only [push_cast, reduceCtorEq, Nat.reduceAdd, Nat.reduceSub, Nat.reduceMul, Nat.reduceLeDiff, Nat.reduceLT, Nat.reduceEqDiff, Int.reduceToNat, Int.reduceLT, Int.reduceLE, Int.reduceBEq, Int.reduceEq, Int.reduceSub, Int.reduceAdd, Int.reduceMul, Int.reduceNeg, fillL, repL, frm_get, frm_set, set_set, h1, h2, h1', h2', w, e3, h3, h4, h4', e5, h5, h7, h8, w2, or_true, true_and]; rfl); dsimp only [List.cons_append, List.nil_append, putV, List.set])
            | (with_reducible apply trCons (by simp only [push_cast, reduceCtorEq, Nat.reduceAdd, Nat.reduceSub, Nat.reduceMul, Nat.reduceLeDiff, Nat.reduceLT, Nat.reduceEqDiff, Int.reduceToNat, Int.reduceLT, Int.reduceLE, Int.reduceBEq, Int.reduceEq, Int.reduceSub, Int.reduceAdd, Int.reduceMul, Int.reduceNeg, fillL, repL, frm_get, frm_set, set_set, h1, h2, h1', h2', w, e3, h3, h4, h4', e5, h5, h7, h8, w2, or_true, true_and]; rfl); dsimp only [List.cons_append, List.nil_append, putV, List.set])
            | (simp only [List.getLast?_cons_cons, List.getLast?_singleton]; rfl)
            | (refine (?_ : List.all _ _ = true); simp only [chkOne, noCall, same_self, push_cast, reduceCtorEq, Nat.reduceAdd, Nat.reduceSub, Nat.reduceMul, Nat.reduceLeDiff, Nat.reduceLT, Nat.reduceEqDiff, Int.reduceToNat, Int.reduceLT, Int.reduceLE, Int.reduceBEq, Int.reduceEq, Int.reduceSub, Int.reduceAdd, Int.reduceMul, Int.reduceNeg, fillL, repL, frm_get, frm_set, set_set, h1, h2, h1', h2', w, e3, h3, h4, h4', e5, h5, h7, h8, w2, or_true, true_and]; done)
            | (dsimp only))
        · simp only [c10, push_cast, reduceCtorEq, Nat.reduceAdd, Nat.reduceSub, Nat.reduceMul, Nat.reduceLeDiff, Nat.reduceLT, Nat.reduceEqDiff, Int.reduceToNat, Int.reduceLT, Int.reduceLE, Int.reduceBEq, Int.reduceEq, Int.reduceSub, Int.reduceAdd, Int.reduceMul, Int.reduceNeg, fillL, repL, frm_get, frm_set, set_set, h1, h2, h1', h2', w, e3, h3, h4, h4', e5, h5, h7, h8, w2, or_true, true_and]
    · apply funI (fc := c10) rfl (by simp only [c10, push_cast, reduceCtorEq, Nat.reduceAdd, Nat.reduceSub, Nat.reduceMul, Nat.reduceLeDiff, Nat.reduceLT, Nat.reduceEqDiff, Int.reduceToNat, Int.reduceLT, Int.reduceLE, Int.reduceBEq, Int.reduceEq, Int.reduceSub, Int.reduceAdd, Int.reduceMul, Int.reduceNeg, fillL, repL, h1, h2, h1', h2', w, e3, h3, h4, h4', e5, h5, h7, or_true, true_and, false_and]; rfl)
      · simp only [c10, st0, push_frm, if_false, if_true, Bool.false_eq_true, Nat.reduceSub, List.replicate, List.cons_append, List.nil_append, h1, h2, h1', h2', w, e3, h3, h4, h4', e5, h5, h7, or_true, true_and, false_and]
        repeat' (first
          | with_reducible exact opsNil
          | with_reducible exact retI
          | with_reducible exact skipI
          | with_reducible exact exitI
          | with_reducible exact if_pos rfl
          | with_reducible exact if_neg (by decide)
          | (with_reducible apply seqI)
          | (with_reducible apply regI)
          | (with_reducible apply regD)
          | with_reducible exact trNil
          | (with_reducible apply blockI)
          | (with_reducible apply condT; focus (simp only [push_cast, reduceCtorEq, Nat.reduceAdd, Nat.reduceSub, Nat.reduceMul, Nat.reduceLeDiff, Nat.reduceLT, Nat.reduceEqDiff, Int.reduceToNat, Int.reduceLT, Int.reduceLE, Int.reduceBEq, Int.reduceEq, Int.reduceSub, Int.reduceAdd, Int.reduceMul, Int.reduceNeg, fillL, repL, h1, h2, h1', h2', w, e3, h3, h4, h4', e5, h5, h7, or_true, true_and, false_and]; done))
          | (with_reducible apply condF; focus (simp only [push_cast, reduceCtorEq, Nat.reduceAdd, Nat.reduceSub, Nat.reduceMul, Nat.reduceLeDiff, Nat.reduceLT, Nat.reduceEqDiff, Int.reduceToNat, Int.reduceLT, Int.reduceLE, Int.reduceBEq, Int.reduceEq, Int.reduceSub, Int.reduceAdd, Int.reduceMul, Int.reduceNeg, fillL, repL, h1, h2, h1', h2', w, e3, h3, h4, h4', e5, h5, h7, or_true, true_and, false_and]; done))
          | (with_reducible apply opsCons (by simp only [push_cast, reduceCtorEq, Nat.reduceAdd, Nat.reduceSub, Nat.reduceMul, Nat.reduceLeDiff, Nat.reduceLT, Nat.reduceEqDiff, Int.reduceToNat, Int.reduceLT, Int.reduceLE, Int.reduceBEq, Int.reduceEq, Int.reduceSub, Int.reduceAdd, Int.reduceMul, Int.reduceNeg, fillL, repL, frm_get, frm_set, set_set, h1, h2, h1', h2', w, e3, h3, h4, h4', e5, h5, h7, or_true, true_and, false_and]; rfl); dsimp only [List.cons_append, List.nil_append, putV, List.set])
          | (with_reducible apply trCons (by simp only [push_cast, reduceCtorEq, Nat.reduceAdd, Nat.reduceSub, Nat.reduceMul, Nat.reduceLeDiff, Nat.reduceLT, Nat.reduceEqDiff, Int.reduceToNat, Int.reduceLT, Int.reduceLE, Int.reduceBEq, Int.reduceEq, Int.reduceSub, Int.reduceAdd, Int.reduceMul, Int.reduceNeg, fillL, repL, frm_get, frm_set, set_set, h1, h2, h1', h2', w, e3, h3, h4, h4', e5, h5, h7, or_true, true_and, false_and]; rfl); dsimp only [List.cons_append, List.nil_append, putV, List.set])
          | (simp only [List.getLast?_cons_cons, List.getLast?_singleton]; rfl)
          | (refine (?_ : List.all _ _ = true); simp only [chkOne, noCall, same_self, push_cast, reduceCtorEq, Nat.reduceAdd, Nat.reduceSub, Nat.reduceMul, Nat.reduceLeDiff, Nat.reduceLT, Nat.reduceEqDiff, Int.reduceToNat, Int.reduceLT, Int.reduceLE, Int.reduceBEq, Int.reduceEq, Int.reduceSub, Int.reduceAdd, Int.reduceMul, Int.reduceNeg, fillL, repL, frm_get, frm_set, set_set, h1, h2, h1', h2', w, e3, h3, h4, h4', e5, h5, h7, or_true, true_and, false_and]; done)
          | (dsimp only))
      · simp only [c10, push_cast, reduceCtorEq, Nat.reduceAdd, Nat.reduceSub, Nat.reduceMul, Nat.reduceLeDiff, Nat.reduceLT, Nat.reduceEqDiff, Int.reduceToNat, Int.reduceLT, Int.reduceLE, Int.reduceBEq, Int.reduceEq, Int.reduceSub, Int.reduceAdd, Int.reduceMul, Int.reduceNeg, fillL, repL, frm_get, frm_set, set_set, h1, h2, h1', h2', w, e3, h3, h4, h4', e5, h5, h7, or_true, true_and, false_and]
  · have e6 : (low == half) = false := by simpa using h6
    apply funI (fc := c10) rfl (by simp only [c10, push_cast, reduceCtorEq, Nat.reduceAdd, Nat.reduceSub, Nat.reduceMul, Nat.reduceLeDiff, Nat.reduceLT, Nat.reduceEqDiff, Int.reduceToNat, Int.reduceLT, Int.reduceLE, Int.reduceBEq, Int.reduceEq, Int.reduceSub, Int.reduceAdd, Int.reduceMul, Int.reduceNeg, fillL, repL, h1, h2, h1', h2', w, e3, h3, h4, h4', e5, h5, e6, h6, or_self, true_and, false_and]; rfl)
    · simp only [c10, st0, push_frm, if_false, if_true, Bool.false_eq_true, Nat.reduceSub, List.replicate, List.cons_append, List.nil_append, h1, h2, h1', h2', w, e3, h3, h4, h4', e5, h5, e6, h6, or_self, true_and, false_and]
      repeat' (first
        | with_reducible exact opsNil
        | with_reducible exact retI
        | with_reducible exact skipI
        | with_reducible exact exitI
        | with_reducible exact if_pos rfl
        | with_reducible exact if_neg (by decide)
        | (with_reducible apply seqI)
        | (with_reducible apply regI)
        | (with_reducible apply regD)
        | with_reducible exact trNil
        | (with_reducible apply blockI)
        | (with_reducible apply condT; focus (simp only [push_cast, reduceCtorEq, Nat.reduceAdd, Nat.reduceSub, Nat.reduceMul, Nat.reduceLeDiff, Nat.reduceLT, Nat.reduceEqDiff, Int.reduceToNat, Int.reduceLT, Int.reduceLE, Int.reduceBEq, Int.reduceEq, Int.reduceSub, Int.reduceAdd, Int.reduceMul, Int.reduceNeg, fillL, repL, h1, h2, h1', h2', w, e3, h3, h4, h4', e5, h5, e6, h6, or_self, true_and, false_and]; done))
        | (with_reducible apply condF; focus (simp only [push_cast, reduceCtorEq, Nat.reduceAdd, Nat.reduceSub, Nat.reduceMul, Nat.reduceLeDiff, Nat.reduceLT, Nat.reduceEqDiff, Int.reduceToNat, Int.reduceLT, Int.reduceLE, Int.reduceBEq, Int.reduceEq, Int.reduceSub, Int.reduceAdd, Int.reduceMul, Int.reduceNeg, fillL, repL, h1, h2, h1', h2', w, e3, h3, h4, h4', e5, h5, e6, h6, or_self, true_and, false_and]; done))
        | (with_reducible apply opsCons (by simp only [push_cast, reduceCtorEq, Nat.reduceAdd, Nat.reduceSub, Nat.reduceMul, Nat.reduceLeDiff, Nat.reduceLT, Nat.reduceEqDiff, Int.reduceToNat, Int.reduceLT, Int.reduceLE, Int.reduceBEq, Int.reduceEq, Int.reduceSub, Int.reduceAdd, Int.reduceMul, Int.reduceNeg, fillL, repL, frm_get, frm_set, set_set, h1, h2, h1', h2', w, e3, h3, h4, h4', e5, h5, e6, h6, or_self, true_and, false_and]; rfl); dsimp only [List.cons_append, List.nil_append, putV, List.set])
        | (with_reducible apply trCons (by simp only [push_cast, reduceCtorEq, Nat.reduceAdd, Nat.reduceSub, Nat.reduceMul, Nat.reduceLeDiff, Nat.reduceLT, Nat.reduceEqDiff, Int.reduceToNat, Int.reduceLT, Int.reduceLE, Int.reduceBEq, Int.reduceEq, Int.reduceSub, Int.reduceAdd, Int.reduceMul, Int.reduceNeg, fillL, repL, frm_get, frm_set, set_set, h1, h2, h1', h2', w, e3, h3, h4, h4', e5, h5, e6, h6, or_self, true_and, false_and]; rfl); dsimp only [List.cons_append, List.nil_append, putV, List.set])
        | (simp only [List.getLast?_cons_cons, List.getLast?_singleton]; rfl)
        | (refine (?_ : List.all _ _ = true); simp only [chkOne, noCall, same_self, push_cast, reduceCtorEq, Nat.reduceAdd, Nat.reduceSub, Nat.reduceMul, Nat.reduceLeDiff, Nat.reduceLT, Nat.reduceEqDiff, Int.reduceToNat, Int.reduceLT, Int.reduceLE, Int.reduceBEq, Int.reduceEq, Int.reduceSub, Int.reduceAdd, Int.reduceMul, Int.reduceNeg, fillL, repL, frm_get, frm_set, set_set, h1, h2, h1', h2', w, e3, h3, h4, h4', e5, h5, e6, h6, or_self, true_and, false_and]; done)
        | (dsimp only))
    · simp only [c10, push_cast, reduceCtorEq, Nat.reduceAdd, Nat.reduceSub, Nat.reduceMul, Nat.reduceLeDiff, Nat.reduceLT, Nat.reduceEqDiff, Int.reduceToNat, Int.reduceLT, Int.reduceLE, Int.reduceBEq, Int.reduceEq, Int.reduceSub, Int.reduceAdd, Int.reduceMul, Int.reduceNeg, fillL, repL, frm_get, frm_set, set_set, h1, h2, h1', h2', w, e3, h3, h4, h4', e5, h5, e6, h6, or_self, true_and, false_and]

theorem hOk_parts (half low next : Int) (n m : Nat) : hOk half low next n m = (decide (16 ≤ half ∧ half ≤ 4096) && decide ((n : Int) = 2 * half) && decide (m ≤ 4000) && (decide (low = 0) || decide (low = half)) && decide (low ≤ next ∧ next ≤ low + half)) := by
  unfold hOk
  rw [Bool.eq_iff_iff]
  simp only [decide_eq_true_eq, Bool.and_eq_true, Bool.or_eq_true]
  constructor
  · rintro ⟨a, b, c, d, e, f, g⟩; exact ⟨⟨⟨⟨⟨a, b⟩, c⟩, d⟩, e⟩, f, g⟩
  · rintro ⟨⟨⟨⟨⟨a, b⟩, c⟩, d⟩, e⟩, f, g⟩; exact ⟨a, b, c, d, e, f, g⟩
set_option maxHeartbeats 4000000 in
theorem implOk (f1 f2 : Bool) (n m : Nat) (ws ls : List AV) (half low next : Int) (s : Store) :
    callF (tab tbl) noCall 40 [heapV f1 n ws half low next f2 m ls] s = some (.bool (hOk half low next n m), s) := by
  rw [hOk_parts]
  unfold heapV
  by_cases h1 : 16 ≤ half ∧ half ≤ 4096
  · have w : IntKind.i64.wrap (2 * half) = 2 * half := wrap_id (by omega) (by omega)
    by_cases h3 : (n : Int) = 2 * half
    · have e3 : ((n : Int) == 2 * half) = true := by simpa using h3
      by_cases h4 : m ≤ 4000
      · have h4' : (m : Int) ≤ 4000 := by omega
        by_cases h5 : low = 0
        · subst h5
          have w2 : IntKind.i64.wrap (0 + half) = 0 + half := wrap_id (by omega) (by omega)
          apply funI (fc := c40) rfl (by simp only [c40, push_cast, reduceCtorEq, Nat.reduceAdd, Nat.reduceSub, Nat.reduceMul, Nat.reduceLeDiff, Nat.reduceLT, Nat.reduceEqDiff, Int.reduceToNat, Int.reduceLT, Int.reduceLE, Int.reduceBEq, Int.reduceEq, Int.reduceSub, Int.reduceAdd, Int.reduceMul, Int.reduceNeg, fillL, repL, within_ok, h1, w, h3, h4, h4', w2]; rfl)
          · simp only [c40, st0, push_frm, if_false, if_true, Bool.false_eq_true, Nat.reduceSub, List.replicate, List.cons_append, List.nil_append, within_ok, h1, w, h3, h4, h4', w2]
            repeat' (first
              | with_reducible exact opsNil
              | with_reducible exact retI
              | with_reducible exact skipI
              | with_reducible exact exitI
              | with_reducible exact if_pos rfl
              | with_reducible exact if_neg (by decide)
              | (with_reducible apply seqI)
              | (with_reducible apply regI)
              | (with_reducible apply regD)
              | with_reducible exact trNil
              | (with_reducible apply blockI)
              | (with_reducible apply condT; focus (simp only [push_cast, reduceCtorEq, Nat.reduceAdd, Nat.reduceSub, Nat.reduceMul, Nat.reduceLeDiff, Nat.reduceLT, Nat.reduceEqDiff, Int.reduceToNat, Int.reduceLT, Int.reduceLE, Int.reduceBEq, Int.reduceEq, Int.reduceSub, Int.reduceAdd, Int.reduceMul, Int.reduceNeg, fillL, repL, within_ok, h1, w, h3, h4, h4', w2]; done))
              | (with_reducible apply condF; focus (simp only [push_cast, reduceCtorEq, Nat.reduceAdd, Nat.reduceSub, Nat.reduceMul, Nat.reduceLeDiff, Nat.reduceLT, Nat.reduceEqDiff, Int.reduceToNat, Int.reduceLT, Int.reduceLE, Int.reduceBEq, Int.reduceEq, Int.reduceSub, Int.reduceAdd, Int.reduceMul, Int.reduceNeg, fillL, repL, within_ok, h1, w, h3, h4, h4', w2]; done))
              | (with_reducible apply opsCons (by simp only [push_cast, reduceCtorEq, Nat.reduceAdd, Nat.reduceSub, Nat.reduceMul, Nat.reduceLeDiff, Nat.reduceLT, Nat.reduceEqDiff, Int.reduceToNat, Int.reduceLT, Int.reduceLE, Int.reduceBEq, Int.reduceEq, Int.reduceSub, Int.reduceAdd, Int.reduceMul, Int.reduceNeg, fillL, repL, frm_get, frm_set, set_set, within_ok, h1, w, h3, h4, h4', w2]; rfl); dsimp only [List.cons_append, List.nil_append, putV, List.set])
              | (with_reducible apply trCons (by simp only [push_cast, reduceCtorEq, Nat.reduceAdd, Nat.reduceSub, Nat.reduceMul, Nat.reduceLeDiff, Nat.reduceLT, Nat.reduceEqDiff, Int.reduceToNat, Int.reduceLT, Int.reduceLE, Int.reduceBEq, Int.reduceEq, Int.reduceSub, Int.reduceAdd, Int.reduceMul, Int.reduceNeg, fillL, repL, frm_get, frm_set, set_set, within_ok, h1, w, h3, h4, h4', w2]; rfl); dsimp only [List.cons_append, List.nil_append, putV, List.set])
              | (simp only [List.getLast?_cons_cons, List.getLast?_singleton]; rfl)
              | (refine (?_ : List.all _ _ = true); simp only [chkOne, noCall, same_self, push_cast, reduceCtorEq, Nat.reduceAdd, Nat.reduceSub, Nat.reduceMul, Nat.reduceLeDiff, Nat.reduceLT, Nat.reduceEqDiff, Int.reduceToNat, Int.reduceLT, Int.reduceLE, Int.reduceBEq, Int.reduceEq, Int.reduceSub, Int.reduceAdd, Int.reduceMul, Int.reduceNeg, fillL, repL, frm_get, frm_set, set_set, within_ok, h1, w, h3, h4, h4', w2]; done)
              | (dsimp only))
          · simp only [c40, push_cast, reduceCtorEq, Nat.reduceAdd, Nat.reduceSub, Nat.reduceMul, Nat.reduceLeDiff, Nat.reduceLT, Nat.reduceEqDiff, Int.reduceToNat, Int.reduceLT, Int.reduceLE, Int.reduceBEq, Int.reduceEq, Int.reduceSub, Int.reduceAdd, Int.reduceMul, Int.reduceNeg, fillL, repL, frm_get, frm_set, set_set, within_ok, h1, w, h3, h4, h4', w2]
        · have e5 : (low == 0) = false := by simpa using h5
          by_cases h6 : low = half
          · subst h6
            have w2 : IntKind.i64.wrap (low + low) = low + low := wrap_id (by omega) (by omega)
            apply funI (fc := c40) rfl (by simp only [c40, push_cast, reduceCtorEq, Nat.reduceAdd, Nat.reduceSub, Nat.reduceMul, Nat.reduceLeDiff, Nat.reduceLT, Nat.reduceEqDiff, Int.reduceToNat, Int.reduceLT, Int.reduceLE, Int.reduceBEq, Int.reduceEq, Int.reduceSub, Int.reduceAdd, Int.reduceMul, Int.reduceNeg, fillL, repL, within_ok, h1, w, h3, h4, h4', w2, e5, h5]; rfl)
            · simp only [c40, st0, push_frm, if_false, if_true, Bool.false_eq_true, Nat.reduceSub, List.replicate, List.cons_append, List.nil_append, within_ok, h1, w, h3, h4, h4', w2, e5, h5]
              repeat' (first
                | with_reducible exact opsNil
                | with_reducible exact retI
                | with_reducible exact skipI
                | with_reducible exact exitI
                | with_reducible exact if_pos rfl
                | with_reducible exact if_neg (by decide)
                | (with_reducible apply seqI)
                | (with_reducible apply regI)
                | (with_reducible apply regD)
                | with_reducible exact trNil
                | (with_reducible apply blockI)
                | (with_reducible apply condT; focus (simp only [push_cast, reduceCtorEq, Nat.reduceAdd, Nat.reduceSub, Nat.reduceMul, Nat.reduceLeDiff, Nat.reduceLT, Nat.reduceEqDiff, Int.reduceToNat, Int.reduceLT, Int.reduceLE, Int.reduceBEq, Int.reduceEq, Int.reduceSub, Int.reduceAdd, Int.reduceMul, Int.reduceNeg, fillL, repL, within_ok, h1, w, h3, h4, h4', w2, e5, h5]; done))
                | (with_reducible apply condF; focus (simp only [push_cast, reduceCtorEq, Nat.reduceAdd, Nat.reduceSub, Nat.reduceMul, Nat.reduceLeDiff, Nat.reduceLT, Nat.reduceEqDiff, Int.reduceToNat, Int.reduceLT, Int.reduceLE, Int.reduceBEq, Int.reduceEq, Int.reduceSub, Int.reduceAdd, Int.reduceMul, Int.reduceNeg, fillL, repL, within_ok, h1, w, h3, h4, h4', w2, e5, h5]; done))
                | (with_reducible apply opsCons (by simp only [push_cast, reduceCtorEq, Nat.reduceAdd, Nat.reduceSub, Nat.reduceMul, Nat.reduceLeDiff, Nat.reduceLT, Nat.reduceEqDiff, Int.reduceToNat, Int.reduceLT, Int.reduceLE, Int.reduceBEq, Int.reduceEq, Int.reduceSub, Int.reduceAdd, Int.reduceMul, Int.reduceNeg, fillL, repL, frm_get, frm_set, set_set, within_ok, h1, w, h3, h4, h4', w2, e5, h5]; rfl); dsimp only [List.cons_append, List.nil_append, putV, List.set])
                | (with_reducible apply trCons (by simp only [push_cast, reduceCtorEq, Nat.reduceAdd, Nat.reduceSub, Nat.reduceMul, Nat.reduceLeDiff, Nat.reduceLT, Nat.reduceEqDiff, Int.reduceToNat, Int.reduceLT, Int.reduceLE, Int.reduceBEq, Int.reduceEq, Int.reduceSub, Int.reduceAdd, Int.reduceMul, Int.reduceNeg, fillL, repL, frm_get, frm_set, set_set, within_ok, h1, w, h3, h4, h4', w2, e5, h5]; rfl); dsimp only [List.cons_append, List.nil_append, putV, List.set])
                | (simp only [List.getLast?_cons_cons, List.getLast?_singleton]; rfl)
                | (refine (?_ : List.all _ _ = true); simp only [chkOne, noCall, same_self, push_cast, reduceCtorEq, Nat.reduceAdd, Nat.reduceSub, Nat.reduceMul, Nat.reduceLeDiff, Nat.reduceLT, Nat.reduceEqDiff, Int.reduceToNat, Int.reduceLT, Int.reduceLE, Int.reduceBEq, Int.reduceEq, Int.reduceSub, Int.reduceAdd, Int.reduceMul, Int.reduceNeg, fillL, repL, frm_get, frm_set, set_set, within_ok, h1, w, h3, h4, h4', w2, e5, h5]; done)
                | (dsimp only))
            · simp only [c40, push_cast, reduceCtorEq, Nat.reduceAdd, Nat.reduceSub, Nat.reduceMul, Nat.reduceLeDiff, Nat.reduceLT, Nat.reduceEqDiff, Int.reduceToNat, Int.reduceLT, Int.reduceLE, Int.reduceBEq, Int.reduceEq, Int.reduceSub, Int.reduceAdd, Int.reduceMul, Int.reduceNeg, fillL, repL, frm_get, frm_set, set_set, within_ok, h1, w, h3, h4, h4', w2, e5, h5]
          · have e6 : (low == half) = false := by simpa using h6
            apply funI (fc := c40) rfl (by simp only [c40, push_cast, reduceCtorEq, Nat.reduceAdd, Nat.reduceSub, Nat.reduceMul, Nat.reduceLeDiff, Nat.reduceLT, Nat.reduceEqDiff, Int.reduceToNat, Int.reduceLT, Int.reduceLE, Int.reduceBEq, Int.reduceEq, Int.reduceSub, Int.reduceAdd, Int.reduceMul, Int.reduceNeg, fillL, repL, within_ok, h1, w, h3, h4, h4', e5, h5, e6, h6]; rfl)
            · simp only [c40, st0, push_frm, if_false, if_true, Bool.false_eq_true, Nat.reduceSub, List.replicate, List.cons_append, List.nil_append, within_ok, h1, w, h3, h4, h4', e5, h5, e6, h6]
              repeat' (first
                | with_reducible exact opsNil
                | with_reducible exact retI
                | with_reducible exact skipI
                | with_reducible exact exitI
                | with_reducible exact if_pos rfl
                | with_reducible exact if_neg (by decide)
                | (with_reducible apply seqI)
                | (with_reducible apply regI)
                | (with_reducible apply regD)
                | with_reducible exact trNil
                | (with_reducible apply blockI)
                | (with_reducible apply condT; focus (simp only [push_cast, reduceCtorEq, Nat.reduceAdd, Nat.reduceSub, Nat.reduceMul, Nat.reduceLeDiff, Nat.reduceLT, Nat.reduceEqDiff, Int.reduceToNat, Int.reduceLT, Int.reduceLE, Int.reduceBEq, Int.reduceEq, Int.reduceSub, Int.reduceAdd, Int.reduceMul, Int.reduceNeg, fillL, repL, within_ok, h1, w, h3, h4, h4', e5, h5, e6, h6]; done))
                | (with_reducible apply condF; focus (simp only [push_cast, reduceCtorEq, Nat.reduceAdd, Nat.reduceSub, Nat.reduceMul, Nat.reduceLeDiff, Nat.reduceLT, Nat.reduceEqDiff, Int.reduceToNat, Int.reduceLT, Int.reduceLE, Int.reduceBEq, Int.reduceEq, Int.reduceSub, Int.reduceAdd, Int.reduceMul, Int.reduceNeg, fillL, repL, within_ok, h1, w, h3, h4, h4', e5, h5, e6, h6]; done))
                | (with_reducible apply opsCons (by simp only [push_cast, reduceCtorEq, Nat.reduceAdd, Nat.reduceSub, Nat.reduceMul, Nat.reduceLeDiff, Nat.reduceLT, Nat.reduceEqDiff, Int.reduceToNat, Int.reduceLT, Int.reduceLE, Int.reduceBEq, Int.reduceEq, Int.reduceSub, Int.reduceAdd, Int.reduceMul, Int.reduceNeg, fillL, repL, frm_get, frm_set, set_set, within_ok, h1, w, h3, h4, h4', e5, h5, e6, h6]; rfl); dsimp only [List.cons_append, List.nil_append, putV, List.set])
                | (with_reducible apply trCons (by simp only [push_cast, reduceCtorEq, Nat.reduceAdd, Nat.reduceSub, Nat.reduceMul, Nat.reduceLeDiff, Nat.reduceLT, Nat.reduceEqDiff, Int.reduceToNat, Int.reduceLT, Int.reduceLE, Int.reduceBEq, Int.reduceEq, Int.reduceSub, Int.reduceAdd, Int.reduceMul, Int.reduceNeg, fillL, repL, frm_get, frm_set, set_set, within_ok, h1, w, h3, h4, h4', e5, h5, e6, h6]; rfl); dsimp only [List.cons_append, List.nil_append, putV, List.set])
                | (simp only [List.getLast?_cons_cons, List.getLast?_singleton]; rfl)
                | (refine (?_ : List.all _ _ = true); simp only [chkOne, noCall, same_self, push_cast, reduceCtorEq, Nat.reduceAdd, Nat.reduceSub, Nat.reduceMul, Nat.reduceLeDiff, Nat.reduceLT, Nat.reduceEqDiff, Int.reduceToNat, Int.reduceLT, Int.reduceLE, Int.reduceBEq, Int.reduceEq, Int.reduceSub, Int.reduceAdd, Int.reduceMul, Int.reduceNeg, fillL, repL, frm_get, frm_set, set_set, within_ok, h1, w, h3, h4, h4', e5, h5, e6, h6]; done)
                | (dsimp only))
            · simp only [c40, push_cast, reduceCtorEq, Nat.reduceAdd, Nat.reduceSub, Nat.reduceMul, Nat.reduceLeDiff, Nat.reduceLT, Nat.reduceEqDiff, Int.reduceToNat, Int.reduceLT, Int.reduceLE, Int.reduceBEq, Int.reduceEq, Int.reduceSub, Int.reduceAdd, Int.reduceMul, Int.reduceNeg, fillL, repL, frm_get, frm_set, set_set, within_ok, h1, w, h3, h4, h4', e5, h5, e6, h6]
      · have h4' : ¬ (m : Int) ≤ 4000 := by omega
        apply funI (fc := c40) rfl (by simp only [c40, push_cast, reduceCtorEq, Nat.reduceAdd, Nat.reduceSub, Nat.reduceMul, Nat.reduceLeDiff, Nat.reduceLT, Nat.reduceEqDiff, Int.reduceToNat, Int.reduceLT, Int.reduceLE, Int.reduceBEq, Int.reduceEq, Int.reduceSub, Int.reduceAdd, Int.reduceMul, Int.reduceNeg, fillL, repL, within_ok, h1, w, h3, h4, h4']; rfl)
        · simp only [c40, st0, push_frm, if_false, if_true, Bool.false_eq_true, Nat.reduceSub, List.replicate, List.cons_append, List.nil_append, within_ok, h1, w, h3, h4, h4']
          repeat' (first
            | with_reducible exact opsNil
            | with_reducible exact retI
            | with_reducible exact skipI
            | with_reducible exact exitI
            | with_reducible exact if_pos rfl
            | with_reducible exact if_neg (by decide)
            | (with_reducible apply seqI)
            | (with_reducible apply regI)
            | (with_reducible apply regD)
            | with_reducible exact trNil
            | (with_reducible apply blockI)
            | (with_reducible apply condT; focus (simp only [push_cast, reduceCtorEq, Nat.reduceAdd, Nat.reduceSub, Nat.reduceMul, Nat.reduceLeDiff, Nat.reduceLT, Nat.reduceEqDiff, Int.reduceToNat, Int.reduceLT, Int.reduceLE, Int.reduceBEq, Int.reduceEq, Int.reduceSub, Int.reduceAdd, Int.reduceMul, Int.reduceNeg, fillL, repL, within_ok, h1, w, h3, h4, h4']; done))
            | (with_reducible apply condF; focus (simp only [push_cast, reduceCtorEq, Nat.reduceAdd, Nat.reduceSub, Nat.reduceMul, Nat.reduceLeDiff, Nat.reduceLT, Nat.reduceEqDiff, Int.reduceToNat, Int.reduceLT, Int.reduceLE, Int.reduceBEq, Int.reduceEq, Int.reduceSub, Int.reduceAdd, Int.reduceMul, Int.reduceNeg, fillL, repL, within_ok, h1, w, h3, h4, h4']; done))
            | (with_reducible apply opsCons (by simp only [push_cast, reduceCtorEq, Nat.reduceAdd, Nat.reduceSub, Nat.reduceMul, Nat.reduceLeDiff, Nat.reduceLT, Nat.reduceEqDiff, Int.reduceToNat, Int.reduceLT, Int.reduceLE, Int.reduceBEq, Int.reduceEq, Int.reduceSub, Int.reduceAdd, Int.reduceMul, Int.reduceNeg, fillL, repL, frm_get, frm_set, set_set, within_ok, h1, w, h3, h4, h4']; rfl); dsimp only [List.cons_append, List.nil_append, putV, List.set])
            | (with_reducible apply trCons (by simp only [push_cast, reduceCtorEq, Nat.reduceAdd, Nat.reduceSub, Nat.reduceMul, Nat.reduceLeDiff, Nat.reduceLT, Nat.reduceEqDiff, Int.reduceToNat, Int.reduceLT, Int.reduceLE, Int.reduceBEq, Int.reduceEq, Int.reduceSub, Int.reduceAdd, Int.reduceMul, Int.reduceNeg, fillL, repL, frm_get, frm_set, set_set, within_ok, h1, w, h3, h4, h4']; rfl); dsimp only [List.cons_append, List.nil_append, putV, List.set])
            | (simp only [List.getLast?_cons_cons, List.getLast?_singleton]; rfl)
            | (refine (?_ : List.all _ _ = true); simp only [chkOne, noCall, same_self, push_cast, reduceCtorEq, Nat.reduceAdd, Nat.reduceSub, Nat.reduceMul, Nat.reduceLeDiff, Nat.reduceLT, Nat.reduceEqDiff, Int.reduceToNat, Int.reduceLT, Int.reduceLE, Int.reduceBEq, Int.reduceEq, Int.reduceSub, Int.reduceAdd, Int.reduceMul, Int.reduceNeg, fillL, repL, frm_get, frm_set, set_set, within_ok, h1, w, h3, h4, h4']; done)
            | (dsimp only))
        · simp only [c40, push_cast, reduceCtorEq, Nat.reduceAdd, Nat.reduceSub, Nat.reduceMul, Nat.reduceLeDiff, Nat.reduceLT, Nat.reduceEqDiff, Int.reduceToNat, Int.reduceLT, Int.reduceLE, Int.reduceBEq, Int.reduceEq, Int.reduceSub, Int.reduceAdd, Int.reduceMul, Int.reduceNeg, fillL, repL, frm_get, frm_set, set_set, within_ok, h1, w, h3, h4, h4']
    · have e3 : ((n : Int) == 2 * half) = false := by simpa using h3
      apply funI (fc := c40) rfl (by simp only [c40, push_cast, reduceCtorEq, Nat.reduceAdd, Nat.reduceSub, Nat.reduceMul, Nat.reduceLeDiff, Nat.reduceLT, Nat.reduceEqDiff, Int.reduceToNat, Int.reduceLT, Int.reduceLE, Int.reduceBEq, Int.reduceEq, Int.reduceSub, Int.reduceAdd, Int.reduceMul, Int.reduceNeg, fillL, repL, within_ok, h1, w, e3, h3]; rfl)
      · simp only [c40, st0, push_frm, if_false, if_true, Bool.false_eq_true, Nat.reduceSub, List.replicate, List.cons_append, List.nil_append, within_ok, h1, w, e3, h3]
        repeat' (first
          | with_reducible exact opsNil
          | with_reducible exact retI
          | with_reducible exact skipI
          | with_reducible exact exitI
          | with_reducible exact if_pos rfl
          | with_reducible exact if_neg (by decide)
          | (with_reducible apply seqI)
          | (with_reducible apply regI)
          | (with_reducible apply regD)
          | with_reducible exact trNil
          | (with_reducible apply blockI)
          | (with_reducible apply condT; focus (simp only [push_cast, reduceCtorEq, Nat.reduceAdd, Nat.reduceSub, Nat.reduceMul, Nat.reduceLeDiff, Nat.reduceLT, Nat.reduceEqDiff, Int.reduceToNat, Int.reduceLT, Int.reduceLE, Int.reduceBEq, Int.reduceEq, Int.reduceSub, Int.reduceAdd, Int.reduceMul, Int.reduceNeg, fillL, repL, within_ok, h1, w, e3, h3]; done))
          | (with_reducible apply condF; focus (simp only [push_cast, reduceCtorEq, Nat.reduceAdd, Nat.reduceSub, Nat.reduceMul, Nat.reduceLeDiff, Nat.reduceLT, Nat.reduceEqDiff, Int.reduceToNat, Int.reduceLT, Int.reduceLE, Int.reduceBEq, Int.reduceEq, Int.reduceSub, Int.reduceAdd, Int.reduceMul, Int.reduceNeg, fillL, repL, within_ok, h1, w, e3, h3]; done))
          | (with_reducible apply opsCons (by simp only [push_cast, reduceCtorEq, Nat.reduceAdd, Nat.reduceSub, Nat.reduceMul, Nat.reduceLeDiff, Nat.reduceLT, Nat.reduceEqDiff, Int.reduceToNat, Int.reduceLT, Int.reduceLE, Int.reduceBEq, Int.reduceEq, Int.reduceSub, Int.reduceAdd, Int.reduceMul, Int.reduceNeg, fillL, repL, frm_get, frm_set, set_set, within_ok, h1, w, e3, h3]; rfl); dsimp only [List.cons_append, List.nil_append, putV, List.set])
          | (with_reducible apply trCons (by simp only [push_cast, reduceCtorEq, Nat.reduceAdd, Nat.reduceSub, Nat.reduceMul, Nat.reduceLeDiff, Nat.reduceLT, Nat.reduceEqDiff, Int.reduceToNat, Int.reduceLT, Int.reduceLE, Int.reduceBEq, Int.reduceEq, Int.reduceSub, Int.reduceAdd, Int.reduceMul, Int.reduceNeg, fillL, repL, frm_get, frm_set, set_set, within_ok, h1, w, e3, h3]; rfl); dsimp only [List.cons_append, List.nil_append, putV, List.set])
          | (simp only [List.getLast?_cons_cons, List.getLast?_singleton]; rfl)
          | (refine (?_ : List.all _ _ = true); simp only [chkOne, noCall, same_self, push_cast, reduceCtorEq, Nat.reduceAdd, Nat.reduceSub, Nat.reduceMul, Nat.reduceLeDiff, Nat.reduceLT, Nat.reduceEqDiff, Int.reduceToNat, Int.reduceLT, Int.reduceLE, Int.reduceBEq, Int.reduceEq, Int.reduceSub, Int.reduceAdd, Int.reduceMul, Int.reduceNeg, fillL, repL, frm_get, frm_set, set_set, within_ok, h1, w, e3, h3]; done)
          | (dsimp only))
      · simp only [c40, push_cast, reduceCtorEq, Nat.reduceAdd, Nat.reduceSub, Nat.reduceMul, Nat.reduceLeDiff, Nat.reduceLT, Nat.reduceEqDiff, Int.reduceToNat, Int.reduceLT, Int.reduceLE, Int.reduceBEq, Int.reduceEq, Int.reduceSub, Int.reduceAdd, Int.reduceMul, Int.reduceNeg, fillL, repL, frm_get, frm_set, set_set, within_ok, h1, w, e3, h3]
  · apply funI (fc := c40) rfl (by simp only [c40, push_cast, reduceCtorEq, Nat.reduceAdd, Nat.reduceSub, Nat.reduceMul, Nat.reduceLeDiff, Nat.reduceLT, Nat.reduceEqDiff, Int.reduceToNat, Int.reduceLT, Int.reduceLE, Int.reduceBEq, Int.reduceEq, Int.reduceSub, Int.reduceAdd, Int.reduceMul, Int.reduceNeg, fillL, repL, within_ok, h1]; rfl)
    · simp only [c40, st0, push_frm, if_false, if_true, Bool.false_eq_true, Nat.reduceSub, List.replicate, List.cons_append, List.nil_append, within_ok, h1]
      repeat' (first
        | with_reducible exact opsNil
        | with_reducible exact retI
        | with_reducible exact skipI
        | with_reducible exact exitI
        | with_reducible exact if_pos rfl
        | with_reducible exact if_neg (by decide)
        | (with_reducible apply seqI)
        | (with_reducible apply regI)
        | (with_reducible apply regD)
        | with_reducible exact trNil
        | (with_reducible apply blockI)
        | (with_reducible apply condT; focus (simp only [push_cast, reduceCtorEq, Nat.reduceAdd, Nat.reduceSub, Nat.reduceMul, Nat.reduceLeDiff, Nat.reduceLT, Nat.reduceEqDiff, Int.reduceToNat, Int.reduceLT, Int.reduceLE, Int.reduceBEq, Int.reduceEq, Int.reduceSub, Int.reduceAdd, Int.reduceMul, Int.reduceNeg, fillL, repL, within_ok, h1]; done))
        | (with_reducible apply condF; focus (simp only [push_cast, reduceCtorEq, Nat.reduceAdd, Nat.reduceSub, Nat.reduceMul, Nat.reduceLeDiff, Nat.reduceLT, Nat.reduceEqDiff, Int.reduceToNat, Int.reduceLT, Int.reduceLE, Int.reduceBEq, Int.reduceEq, Int.reduceSub, Int.reduceAdd, Int.reduceMul, Int.reduceNeg, fillL, repL, within_ok, h1]; done))
        | (with_reducible apply opsCons (by simp only [push_cast, reduceCtorEq, Nat.reduceAdd, Nat.reduceSub, Nat.reduceMul, Nat.reduceLeDiff, Nat.reduceLT, Nat.reduceEqDiff, Int.reduceToNat, Int.reduceLT, Int.reduceLE, Int.reduceBEq, Int.reduceEq, Int.reduceSub, Int.reduceAdd, Int.reduceMul, Int.reduceNeg, fillL, repL, frm_get, frm_set, set_set, within_ok, h1]; rfl); dsimp only [List.cons_append, List.nil_append, putV, List.set])
        | (with_reducible apply trCons (by simp only [push_cast, reduceCtorEq, Nat.reduceAdd, Nat.reduceSub, Nat.reduceMul, Nat.reduceLeDiff, Nat.reduceLT, Nat.reduceEqDiff, Int.reduceToNat, Int.reduceLT, Int.reduceLE, Int.reduceBEq, Int.reduceEq, Int.reduceSub, Int.reduceAdd, Int.reduceMul, Int.reduceNeg, fillL, repL, frm_get, frm_set, set_set, within_ok, h1]; rfl); dsimp only [List.cons_append, List.nil_append, putV, List.set])
        | (simp only [List.getLast?_cons_cons, List.getLast?_singleton]; rfl)
        | (refine (?_ : List.all _ _ = true); simp only [chkOne, noCall, same_self, push_cast, reduceCtorEq, Nat.reduceAdd, Nat.reduceSub, Nat.reduceMul, Nat.reduceLeDiff, Nat.reduceLT, Nat.reduceEqDiff, Int.reduceToNat, Int.reduceLT, Int.reduceLE, Int.reduceBEq, Int.reduceEq, Int.reduceSub, Int.reduceAdd, Int.reduceMul, Int.reduceNeg, fillL, repL, frm_get, frm_set, set_set, within_ok, h1]; done)
        | (dsimp only))
    · simp only [c40, push_cast, reduceCtorEq, Nat.reduceAdd, Nat.reduceSub, Nat.reduceMul, Nat.reduceLeDiff, Nat.reduceLT, Nat.reduceEqDiff, Int.reduceToNat, Int.reduceLT, Int.reduceLE, Int.reduceBEq, Int.reduceEq, Int.reduceSub, Int.reduceAdd, Int.reduceMul, Int.reduceNeg, fillL, repL, frm_get, frm_set, set_set, within_ok, h1]
end Go.Proofs.Ythogcanomihelaa.Ga
