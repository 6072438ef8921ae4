/- The room of a heap, by the reference and by the program; a list is the same as itself. -/
import Derived.Test.YthogcanomihelaaLc
set_option linter.unusedSimpArgs false
set_option linter.unusedVariables false
namespace Go.Proofs.Ythogcanomihelaa.Ga
open Go Go.Proofs Go.Proofs.Ythogcanomihelaa.Ae
attribute [local congr] obind_congr
attribute [local push_cast] exF argsV frzs frz frzL frz1 exS_reg exS_seq exS_cond exS_alt exS_block exS_loop exS_exit exS_ret exS_skip evReg evOps evOne evAct evOp rd putV st0 evEnd resV resL resOne oneOr frzR loadV storeV binV binI unV push_frm pop_frm frm_len frm_top frm_get_top frm_set_top frm_new AV.cells AV.lowB AV.lowL AV.isCell cellsOk set_len Option.bind_some Option.map_some Option.map_none List.getD_cons_zero List.getD_cons_succ List.nil_append List.cons_append List.append_nil List.length_cons List.length_nil List.set_cons_zero List.set_cons_succ List.map_cons List.map_nil List.replicate if_true if_false ite_true ite_false ite_self Bool.false_eq_true List.all_cons List.all_nil Bool.and_true Bool.true_and Bool.and_self Bool.and_eq_true List.getElem?_cons_zero List.getElem?_cons_succ List.drop_succ_cons List.drop_zero List.take_succ_cons List.take_zero true_and and_true and_self decide_true decide_false Bool.not_true Bool.not_false Prod.mk.injEq Option.some.injEq List.getElem?_drop optInt elems sliceV partsOf Nat.add_zero Nat.zero_add Nat.mul_one beq_self_eq_true litParts Bool.or_false Bool.false_or Bool.or_true Bool.true_or Bool.false_and Bool.and_false List.cons.injEq not_false_eq_true not_true_eq_false Nat.zero_le Nat.le_refl gt_iff_lt ge_iff_le List.drop_nil List.take_nil newBox List.length_append List.length_map bne_self_eq_false eq_self Nat.lt_add_one ne_eq false_implies Int.le_refl

theorem specOk' (f1 f2 : Bool) (n m : Nat) (ws ls : List AV) (half low next : Int) (s : Store) :
    callF (tab tbl) noCall 10 [.agg [.imm f1 n ws, .int .i64 half, .int .i64 low, .int .i64 next, .imm f2 m ls]] s = some (.bool (hOk half low next n m), s) := specOk f1 f2 n m ws ls half low next s
theorem implOk' (f1 f2 : Bool) (n m : Nat) (ws ls : List AV) (half low next : Int) (s : Store) :
    callF (tab tbl) noCall 40 [.agg [.imm f1 n ws, .int .i64 half, .int .i64 low, .int .i64 next, .imm f2 m ls]] s = some (.bool (hOk half low next n m), s) := implOk f1 f2 n m ws ls half low next s
def roomOf (half low next : Int) : Int := IntKind.i64.wrap (IntKind.i64.wrap (low + half) - next)
theorem room_ok {s : Store} {d i : Nat} {w l : AV} {half low next : Int} (hg : s.get d i = some (.box 26 [w, .int .i64 half, .int .i64 low, .int .i64 next, l])) :
    callF (tab tbl) noCall 44 [.ptr d i 0] s = some (.int .i64 (roomOf half low next), s) := by
  have hd := get_le hg
  unfold roomOf
  apply funI (fc := c44) rfl (by simp only [c44, push_cast, reduceCtorEq, Nat.reduceAdd, Nat.reduceSub, Nat.reduceMul, Nat.reduceLeDiff, Nat.reduceLT, Nat.reduceEqDiff, Int.reduceToNat, Int.reduceLT, Int.reduceLE, Int.reduceBEq, Int.reduceEq, Int.reduceSub, Int.reduceAdd, Int.reduceMul, Int.reduceNeg, fillL, repL, hd, hg]; rfl)
  · simp only [c44, st0, push_frm, if_false, if_true, Bool.false_eq_true, Nat.reduceSub, List.replicate, List.cons_append, List.nil_append, hd, hg]
    repeat' (first
      | with_reducible exact opsNil
      | with_reducible exact retI
      | with_reducible exact skipI
      | with_reducible exact exitI
      | with_reducible exact if_pos rfl
      | with_reducible exact if_neg (by decide)
      | (with_reducible apply seqI)
      | (with_reducible apply regI)
      | (with_reducible apply regD)
      | with_reducible exact trNil
      | (with_reducible apply blockI)
      | (with_reducible apply condT; focus (simp only [push_cast, reduceCtorEq, Nat.reduceAdd, Nat.reduceSub, Nat.reduceMul, Nat.reduceLeDiff, Nat.reduceLT, Nat.reduceEqDiff, Int.reduceToNat, Int.reduceLT, Int.reduceLE, Int.reduceBEq, Int.reduceEq, Int.reduceSub, Int.reduceAdd, Int.reduceMul, Int.reduceNeg, fillL, repL, hd, hg]; done))
      | (with_reducible apply condF; focus (simp only [push_cast, reduceCtorEq, Nat.reduceAdd, Nat.reduceSub, Nat.reduceMul, Nat.reduceLeDiff, Nat.reduceLT, Nat.reduceEqDiff, Int.reduceToNat, Int.reduceLT, Int.reduceLE, Int.reduceBEq, Int.reduceEq, Int.reduceSub, Int.reduceAdd, Int.reduceMul, Int.reduceNeg, fillL, repL, hd, hg]; done))
      | (with_reducible apply opsCons (by simp only [push_cast, reduceCtorEq, Nat.reduceAdd, Nat.reduceSub, Nat.reduceMul, Nat.reduceLeDiff, Nat.reduceLT, Nat.reduceEqDiff, Int.reduceToNat, Int.reduceLT, Int.reduceLE, Int.reduceBEq, Int.reduceEq, Int.reduceSub, Int.reduceAdd, Int.reduceMul, Int.reduceNeg, fillL, repL, frm_get, frm_set, set_set, hd, hg]; rfl); dsimp only [List.cons_append, List.nil_append, putV, List.set])
      | (with_reducible apply trCons (by simp only [push_cast, reduceCtorEq, Nat.reduceAdd, Nat.reduceSub, Nat.reduceMul, Nat.reduceLeDiff, Nat.reduceLT, Nat.reduceEqDiff, Int.reduceToNat, Int.reduceLT, Int.reduceLE, Int.reduceBEq, Int.reduceEq, Int.reduceSub, Int.reduceAdd, Int.reduceMul, Int.reduceNeg, fillL, repL, frm_get, frm_set, set_set, hd, hg]; rfl); dsimp only [List.cons_append, List.nil_append, putV, List.set])
      | (simp only [List.getLast?_cons_cons, List.getLast?_singleton]; rfl)
      | (refine (?_ : List.all _ _ = true); simp only [chkOne, noCall, same_self, push_cast, reduceCtorEq, Nat.reduceAdd, Nat.reduceSub, Nat.reduceMul, Nat.reduceLeDiff, Nat.reduceLT, Nat.reduceEqDiff, Int.reduceToNat, Int.reduceLT, Int.reduceLE, Int.reduceBEq, Int.reduceEq, Int.reduceSub, Int.reduceAdd, Int.reduceMul, Int.reduceNeg, fillL, repL, frm_get, frm_set, set_set, hd, hg]; done)
      | (dsimp only))
  · simp only [c44, push_cast, reduceCtorEq, Nat.reduceAdd, Nat.reduceSub, Nat.reduceMul, Nat.reduceLeDiff, Nat.reduceLT, Nat.reduceEqDiff, Int.reduceToNat, Int.reduceLT, Int.reduceLE, Int.reduceBEq, Int.reduceEq, Int.reduceSub, Int.reduceAdd, Int.reduceMul, Int.reduceNeg, fillL, repL, frm_get, frm_set, set_set, hd, hg]
theorem specRoom (f1 f2 : Bool) (n m : Nat) (ws ls : List AV) (half low next : Int) (s : Store) :
    callF (tab tbl) noCall 13 [heapV f1 n ws half low next f2 m ls] s = some (.int .i64 (if hOk half low next n m = true then roomOf half low next else 0), s) := by
  unfold heapV roomOf
  cases h : hOk half low next n m with
  | false =>
    apply funI (fc := c13) rfl (by simp only [c13, push_cast, reduceCtorEq, Nat.reduceAdd, Nat.reduceSub, Nat.reduceMul, Nat.reduceLeDiff, Nat.reduceLT, Nat.reduceEqDiff, Int.reduceToNat, Int.reduceLT, Int.reduceLE, Int.reduceBEq, Int.reduceEq, Int.reduceSub, Int.reduceAdd, Int.reduceMul, Int.reduceNeg, fillL, repL, specOk', h]; rfl)
    · simp only [c13, st0, push_frm, if_false, if_true, Bool.false_eq_true, Nat.reduceSub, List.replicate, List.cons_append, List.nil_append, specOk', h]
      repeat' (first
        | with_reducible exact opsNil
        | with_reducible exact retI
        | with_reducible exact skipI
        | with_reducible exact exitI
        | with_reducible exact if_pos rfl
        | with_reducible exact if_neg (by decide)
        | (with_reducible apply seqI)
        | (with_reducible apply regI)
        | (with_reducible apply regD)
        | with_reducible exact trNil
        | (with_reducible apply blockI)
        | (with_reducible apply condT; focus (simp only [push_cast, reduceCtorEq, Nat.reduceAdd, Nat.reduceSub, Nat.reduceMul, Nat.reduceLeDiff, Nat.reduceLT, Nat.reduceEqDiff, Int.reduceToNat, Int.reduceLT, Int.reduceLE, Int.reduceBEq, Int.reduceEq, Int.reduceSub, Int.reduceAdd, Int.reduceMul, Int.reduceNeg, fillL, repL, specOk', h]; done))
        | (with_reducible apply condF; focus (simp only [push_cast, reduceCtorEq, Nat.reduceAdd, Nat.reduceSub, Nat.reduceMul, Nat.reduceLeDiff, Nat.reduceLT, Nat.reduceEqDiff, Int.reduceToNat, Int.reduceLT, Int.reduceLE, Int.reduceBEq, Int.reduceEq, Int.reduceSub, Int.reduceAdd, Int.reduceMul, Int.reduceNeg, fillL, repL, specOk', h]; done))
        | (with_reducible apply opsCons (by simp only [push_cast, reduceCtorEq, Nat.reduceAdd, Nat.reduceSub, Nat.reduceMul, Nat.reduceLeDiff, Nat.reduceLT, Nat.reduceEqDiff, Int.reduceToNat, Int.reduceLT, Int.reduceLE, Int.reduceBEq, Int.reduceEq, Int.reduceSub, Int.reduceAdd, Int.reduceMul, Int.reduceNeg, fillL, repL, frm_get, frm_set, set_set, specOk', h]; rfl); dsimp only [List.cons_append, List.nil_append, putV, List.set])
        | (with_reducible apply trCons (by simp only [push_cast, reduceCtorEq, Nat.reduceAdd, Nat.reduceSub, Nat.reduceMul, Nat.reduceLeDiff, Nat.reduceLT, Nat.reduceEqDiff, Int.reduceToNat, Int.reduceLT, Int.reduceLE, Int.reduceBEq, Int.reduceEq, Int.reduceSub, Int.reduceAdd, Int.reduceMul, Int.reduceNeg, fillL, repL, frm_get, frm_set, set_set, specOk', h]; rfl); dsimp only [List.cons_append, List.nil_append, putV, List.set])
        | (simp only [List.getLast?_cons_cons, List.getLast?_singleton]; rfl)
        | (refine (?_ : List.all _ _ = true); simp only [chkOne, noCall, same_self, push_cast, reduceCtorEq, Nat.reduceAdd, Nat.reduceSub, Nat.reduceMul, Nat.reduceLeDiff, Nat.reduceLT, Nat.reduceEqDiff, Int.reduceToNat, Int.reduceLT, Int.reduceLE, Int.reduceBEq, Int.reduceEq, Int.reduceSub, Int.reduceAdd, Int.reduceMul, Int.reduceNeg, fillL, repL, frm_get, frm_set, set_set, specOk', h]; done)
        | (dsimp only))
    · simp only [c13, push_cast, reduceCtorEq, Nat.reduceAdd, Nat.reduceSub, Nat.reduceMul, Nat.reduceLeDiff, Nat.reduceLT, Nat.reduceEqDiff, Int.reduceToNat, Int.reduceLT, Int.reduceLE, Int.reduceBEq, Int.reduceEq, Int.reduceSub, Int.reduceAdd, Int.reduceMul, Int.reduceNeg, fillL, repL, frm_get, frm_set, set_set, specOk', h]
  | true =>
    apply funI (fc := c13) rfl (by simp only [c13, push_cast, reduceCtorEq, Nat.reduceAdd, Nat.reduceSub, Nat.reduceMul, Nat.reduceLeDiff, Nat.reduceLT, Nat.reduceEqDiff, Int.reduceToNat, Int.reduceLT, Int.reduceLE, Int.reduceBEq, Int.reduceEq, Int.reduceSub, Int.reduceAdd, Int.reduceMul, Int.reduceNeg, fillL, repL, specOk', h]; rfl)
    · simp only [c13, st0, push_frm, if_false, if_true, Bool.false_eq_true, Nat.reduceSub, List.replicate, List.cons_append, List.nil_append, specOk', h]
      repeat' (first
        | with_reducible exact opsNil
        | with_reducible exact retI
        | with_reducible exact skipI
        | with_reducible exact exitI
        | with_reducible exact if_pos rfl
        | with_reducible exact if_neg (by decide)
        | (with_reducible apply seqI)
        | (with_reducible apply regI)
        | (with_reducible apply regD)
        | with_reducible exact trNil
        | (with_reducible apply blockI)
        | (with_reducible apply condT; focus (simp only [push_cast, reduceCtorEq, Nat.reduceAdd, Nat.reduceSub, Nat.reduceMul, Nat.reduceLeDiff, Nat.reduceLT, Nat.reduceEqDiff, Int.reduceToNat, Int.reduceLT, Int.reduceLE, Int.reduceBEq, Int.reduceEq, Int.reduceSub, Int.reduceAdd, Int.reduceMul, Int.reduceNeg, fillL, repL, specOk', h]; done))
        | (with_reducible apply condF; focus (simp only [push_cast, reduceCtorEq, Nat.reduceAdd, Nat.reduceSub, Nat.reduceMul, Nat.reduceLeDiff, Nat.reduceLT, Nat.reduceEqDiff, Int.reduceToNat, Int.reduceLT, Int.reduceLE, Int.reduceBEq, Int.reduceEq, Int.reduceSub, Int.reduceAdd, Int.reduceMul, Int.reduceNeg, fillL, repL, specOk', h]; done))
        | (with_reducible apply opsCons (by simp only [push_cast, reduceCtorEq, Nat.reduceAdd, Nat.reduceSub, Nat.reduceMul, Nat.reduceLeDiff, Nat.reduceLT, Nat.reduceEqDiff, Int.reduceToNat, Int.reduceLT, Int.reduceLE, Int.reduceBEq, Int.reduceEq, Int.reduceSub, Int.reduceAdd, Int.reduceMul, Int.reduceNeg, fillL, repL, frm_get, frm_set, set_set, specOk', h]; rfl); dsimp only [List.cons_append, List.nil_append, putV, List.set])
        | (with_reducible apply trCons (by simp only [push_cast, reduceCtorEq, Nat.reduceAdd, Nat.reduceSub, Nat.reduceMul, Nat.reduceLeDiff, Nat.reduceLT, Nat.reduceEqDiff, Int.reduceToNat, Int.reduceLT, Int.reduceLE, Int.reduceBEq, Int.reduceEq, Int.reduceSub, Int.reduceAdd, Int.reduceMul, Int.reduceNeg, fillL, repL, frm_get, frm_set, set_set, specOk', h]; rfl); dsimp only [List.cons_append, List.nil_append, putV, List.set])
        | (simp only [List.getLast?_cons_cons, List.getLast?_singleton]; rfl)
        | (refine (?_ : List.all _ _ = true); simp only [chkOne, noCall, same_self, push_cast, reduceCtorEq, Nat.reduceAdd, Nat.reduceSub, Nat.reduceMul, Nat.reduceLeDiff, Nat.reduceLT, Nat.reduceEqDiff, Int.reduceToNat, Int.reduceLT, Int.reduceLE, Int.reduceBEq, Int.reduceEq, Int.reduceSub, Int.reduceAdd, Int.reduceMul, Int.reduceNeg, fillL, repL, frm_get, frm_set, set_set, specOk', h]; done)
        | (dsimp only))
    · simp only [c13, push_cast, reduceCtorEq, Nat.reduceAdd, Nat.reduceSub, Nat.reduceMul, Nat.reduceLeDiff, Nat.reduceLT, Nat.reduceEqDiff, Int.reduceToNat, Int.reduceLT, Int.reduceLE, Int.reduceBEq, Int.reduceEq, Int.reduceSub, Int.reduceAdd, Int.reduceMul, Int.reduceNeg, fillL, repL, frm_get, frm_set, set_set, specOk', h]
theorem implRoom (f1 f2 : Bool) (n m : Nat) (ws ls : List AV) (half low next : Int) (s : Store) :
    callF (tab tbl) noCall 12 [heapV f1 n ws half low next f2 m ls] s = some (.int .i64 (if hOk half low next n m = true then roomOf half low next else 0), s) := by
  unfold heapV
  cases h : hOk half low next n m with
  | false =>
    apply funI (fc := c12) rfl (by simp only [c12, push_cast, reduceCtorEq, Nat.reduceAdd, Nat.reduceSub, Nat.reduceMul, Nat.reduceLeDiff, Nat.reduceLT, Nat.reduceEqDiff, Int.reduceToNat, Int.reduceLT, Int.reduceLE, Int.reduceBEq, Int.reduceEq, Int.reduceSub, Int.reduceAdd, Int.reduceMul, Int.reduceNeg, fillL, repL, implOk', h]; rfl)
    · simp only [c12, st0, push_frm, if_false, if_true, Bool.false_eq_true, Nat.reduceSub, List.replicate, List.cons_append, List.nil_append, implOk', h]
      repeat' (first
        | with_reducible exact opsNil
        | with_reducible exact retI
        | with_reducible exact skipI
        | with_reducible exact exitI
        | with_reducible exact if_pos rfl
        | with_reducible exact if_neg (by decide)
        | (with_reducible apply seqI)
        | (with_reducible apply regI)
        | (with_reducible apply regD)
        | with_reducible exact trNil
        | (with_reducible apply blockI)
        | (with_reducible apply condT; focus (simp only [push_cast, reduceCtorEq, Nat.reduceAdd, Nat.reduceSub, Nat.reduceMul, Nat.reduceLeDiff, Nat.reduceLT, Nat.reduceEqDiff, Int.reduceToNat, Int.reduceLT, Int.reduceLE, Int.reduceBEq, Int.reduceEq, Int.reduceSub, Int.reduceAdd, Int.reduceMul, Int.reduceNeg, fillL, repL, implOk', h]; done))
        | (with_reducible apply condF; focus (simp only [push_cast, reduceCtorEq, Nat.reduceAdd, Nat.reduceSub, Nat.reduceMul, Nat.reduceLeDiff, Nat.reduceLT, Nat.reduceEqDiff, Int.reduceToNat, Int.reduceLT, Int.reduceLE, Int.reduceBEq, Int.reduceEq, Int.reduceSub, Int.reduceAdd, Int.reduceMul, Int.reduceNeg, fillL, repL, implOk', h]; done))
        | (with_reducible apply opsCons (by simp only [push_cast, reduceCtorEq, Nat.reduceAdd, Nat.reduceSub, Nat.reduceMul, Nat.reduceLeDiff, Nat.reduceLT, Nat.reduceEqDiff, Int.reduceToNat, Int.reduceLT, Int.reduceLE, Int.reduceBEq, Int.reduceEq, Int.reduceSub, Int.reduceAdd, Int.reduceMul, Int.reduceNeg, fillL, repL, frm_get, frm_set, set_set, implOk', h]; rfl); dsimp only [List.cons_append, List.nil_append, putV, List.set])
        | (with_reducible apply trCons (by simp only [push_cast, reduceCtorEq, Nat.reduceAdd, Nat.reduceSub, Nat.reduceMul, Nat.reduceLeDiff, Nat.reduceLT, Nat.reduceEqDiff, Int.reduceToNat, Int.reduceLT, Int.reduceLE, Int.reduceBEq, Int.reduceEq, Int.reduceSub, Int.reduceAdd, Int.reduceMul, Int.reduceNeg, fillL, repL, frm_get, frm_set, set_set, implOk', h]; rfl); dsimp only [List.cons_append, List.nil_append, putV, List.set])
        | (simp only [List.getLast?_cons_cons, List.getLast?_singleton]; rfl)
        | (refine (?_ : List.all _ _ = true); simp only [chkOne, noCall, same_self, push_cast, reduceCtorEq, Nat.reduceAdd, Nat.reduceSub, Nat.reduceMul, Nat.reduceLeDiff, Nat.reduceLT, Nat.reduceEqDiff, Int.reduceToNat, Int.reduceLT, Int.reduceLE, Int.reduceBEq, Int.reduceEq, Int.reduceSub, Int.reduceAdd, Int.reduceMul, Int.reduceNeg, fillL, repL, frm_get, frm_set, set_set, implOk', h]; done)
        | (dsimp only))
    · simp only [c12, push_cast, reduceCtorEq, Nat.reduceAdd, Nat.reduceSub, Nat.reduceMul, Nat.reduceLeDiff, Nat.reduceLT, Nat.reduceEqDiff, Int.reduceToNat, Int.reduceLT, Int.reduceLE, Int.reduceBEq, Int.reduceEq, Int.reduceSub, Int.reduceAdd, Int.reduceMul, Int.reduceNeg, fillL, repL, frm_get, frm_set, set_set, implOk', h]
  | true =>
    have e := room_ok (s := frm s [.box 26 [.imm false n ws, .int .i64 half, .int .i64 low, .int .i64 next, .imm false m ls]]) (d := s.low.length + 1) (i := 0) (by rw [frm_get_top]; rfl)
    apply funI (fc := c12) rfl (by simp only [c12, push_cast, reduceCtorEq, Nat.reduceAdd, Nat.reduceSub, Nat.reduceMul, Nat.reduceLeDiff, Nat.reduceLT, Nat.reduceEqDiff, Int.reduceToNat, Int.reduceLT, Int.reduceLE, Int.reduceBEq, Int.reduceEq, Int.reduceSub, Int.reduceAdd, Int.reduceMul, Int.reduceNeg, fillL, repL, implOk', h, e]; rfl)
    · simp only [c12, st0, push_frm, if_false, if_true, Bool.false_eq_true, Nat.reduceSub, List.replicate, List.cons_append, List.nil_append, implOk', h, e]
      repeat' (first
        | with_reducible exact opsNil
        | with_reducible exact retI
        | with_reducible exact skipI
        | with_reducible exact exitI
        | with_reducible exact if_pos rfl
        | with_reducible exact if_neg (by decide)
        | (with_reducible apply seqI)
        | (with_reducible apply regI)
        | (with_reducible apply regD)
        | with_reducible exact trNil
        | (with_reducible apply blockI)
        | (with_reducible apply condT; focus (simp only [push_cast, reduceCtorEq, Nat.reduceAdd, Nat.reduceSub, Nat.reduceMul, Nat.reduceLeDiff, Nat.reduceLT, Nat.reduceEqDiff, Int.reduceToNat, Int.reduceLT, Int.reduceLE, Int.reduceBEq, Int.reduceEq, Int.reduceSub, Int.reduceAdd, Int.reduceMul, Int.reduceNeg, fillL, repL, implOk', h, e]; done))
        | (with_reducible apply condF; focus (simp only [push_cast, reduceCtorEq, Nat.reduceAdd, Nat.reduceSub, Nat.reduceMul, Nat.reduceLeDiff, Nat.reduceLT, Nat.reduceEqDiff, Int.reduceToNat, Int.reduceLT, Int.reduceLE, Int.reduceBEq, Int.reduceEq, Int.reduceSub, Int.reduceAdd, Int.reduceMul, Int.reduceNeg, fillL, repL, implOk', h, e]; done))
        | (with_reducible apply opsCons (by simp only [push_cast, reduceCtorEq, Nat.reduceAdd, Nat.reduceSub, Nat.reduceMul, Nat.reduceLeDiff, Nat.reduceLT, Nat.reduceEqDiff, Int.reduceToNat, Int.reduceLT, Int.reduceLE, Int.reduceBEq, Int.reduceEq, Int.reduceSub, Int.reduceAdd, Int.reduceMul, Int.reduceNeg, fillL, repL, frm_get, frm_set, set_set, implOk', h, e]; rfl); dsimp only [List.cons_append, List.nil_append, putV, List.set])
        | (with_reducible apply trCons (by simp only [push_cast, reduceCtorEq, Nat.reduceAdd, Nat.reduceSub, Nat.reduceMul, Nat.reduceLeDiff, Nat.reduceLT, Nat.reduceEqDiff, Int.reduceToNat, Int.reduceLT, Int.reduceLE, Int.reduceBEq, Int.reduceEq, Int.reduceSub, Int.reduceAdd, Int.reduceMul, Int.reduceNeg, fillL, repL, frm_get, frm_set, set_set, implOk', h, e]; rfl); dsimp only [List.cons_append, List.nil_append, putV, List.set])
        | (simp only [List.getLast?_cons_cons, List.getLast?_singleton]; rfl)
        | (refine (?_ : List.all _ _ = true); simp only [chkOne, noCall, same_self, push_cast, reduceCtorEq, Nat.reduceAdd, Nat.reduceSub, Nat.reduceMul, Nat.reduceLeDiff, Nat.reduceLT, Nat.reduceEqDiff, Int.reduceToNat, Int.reduceLT, Int.reduceLE, Int.reduceBEq, Int.reduceEq, Int.reduceSub, Int.reduceAdd, Int.reduceMul, Int.reduceNeg, fillL, repL, frm_get, frm_set, set_set, implOk', h, e]; done)
        | (dsimp only))
    · simp only [c12, push_cast, reduceCtorEq, Nat.reduceAdd, Nat.reduceSub, Nat.reduceMul, Nat.reduceLeDiff, Nat.reduceLT, Nat.reduceEqDiff, Int.reduceToNat, Int.reduceLT, Int.reduceLE, Int.reduceBEq, Int.reduceEq, Int.reduceSub, Int.reduceAdd, Int.reduceMul, Int.reduceNeg, fillL, repL, frm_get, frm_set, set_set, implOk', h, e]
theorem sameInts_loop {call : CallT} {s : Store} {f1 f2 : Bool} {l : List Int} (hl : l.length < 9223372036854775808) : ∀ (m : Nat) (i : Int) (a b : AV), 0 ≤ i → i ≤ l.length → m = l.length - i.toNat →
    ∃ a' b', loopE call (loopAt c11 0) ⟨[.imm f1 l.length (l.map (.int .i64)), .imm f2 l.length (l.map (.int .i64)), .bool false, .int .i64 i, .bool false, a, b], s⟩ =
      some (.exit 0, ⟨[.imm f1 l.length (l.map (.int .i64)), .imm f2 l.length (l.map (.int .i64)), .bool false, .int .i64 l.length, .bool false, a', b'], s⟩) := by
  intro m
  induction m with
  | zero =>
    intro i a b h0 h1 hm
    have hi : i = l.length := by omega
    subst hi
    have hlt : ¬ (l.length : Int) < l.length := by omega
    refine ⟨.bool false, b, loopE_end ?_ (by simp)⟩
    simp only [loopAt, loops, c11, push_cast, reduceCtorEq, Nat.reduceAdd, Nat.reduceSub, Nat.reduceMul, Nat.reduceLeDiff, Nat.reduceLT, Nat.reduceEqDiff, Int.reduceToNat, Int.reduceLT, Int.reduceLE, Int.reduceBEq, Int.reduceEq, Int.reduceSub, Int.reduceAdd, Int.reduceMul, Int.reduceNeg, fillL, repL, hlt]
  | succ m ih =>
    intro i a b h0 h1 hm
    have hlt : i < l.length := by omega
    have hget : (l.map (AV.int .i64))[i.toNat]? = some (.int .i64 (l[i.toNat]'(by omega))) := by simp [List.getElem?_eq_getElem (show i.toNat < l.length by omega)]
    have hw : IntKind.i64.wrap (i + 1) = i + 1 := wrap_id (by omega) (by omega)
    obtain ⟨a', b', e⟩ := ih (i + 1) (.bool true) (.bool false) (by omega) (by omega) (by omega)
    refine ⟨a', b', ?_⟩
    rw [← e]
    refine loopE_step ?_
    simp only [loopAt, loops, c11, push_cast, reduceCtorEq, Nat.reduceAdd, Nat.reduceSub, Nat.reduceMul, Nat.reduceLeDiff, Nat.reduceLT, Nat.reduceEqDiff, Int.reduceToNat, Int.reduceLT, Int.reduceLE, Int.reduceBEq, Int.reduceEq, Int.reduceSub, Int.reduceAdd, Int.reduceMul, Int.reduceNeg, fillL, repL, hlt, h0, hget, hw]
theorem sameInts_self {f1 f2 : Bool} {l : List Int} (hl : l.length < 9223372036854775808) (s : Store) :
    callF (tab tbl) noCall 11 [.imm f1 l.length (l.map (.int .i64)), .imm f2 l.length (l.map (.int .i64))] s = some (.bool true, s) := by
  obtain ⟨a', b', e⟩ := sameInts_loop (call := callF (tab tbl) noCall) (s := frm s []) (f1 := false) (f2 := false) hl l.length 0 .undef .undef (Int.le_refl _) (by omega) (by simp)
  simp only [loopAt, loops, c11, List.nil_append, List.append_nil, List.getD_cons_zero] at e
  apply funI (fc := c11) rfl (by simp only [c11, push_cast, reduceCtorEq, Nat.reduceAdd, Nat.reduceSub, Nat.reduceMul, Nat.reduceLeDiff, Nat.reduceLT, Nat.reduceEqDiff, Int.reduceToNat, Int.reduceLT, Int.reduceLE, Int.reduceBEq, Int.reduceEq, Int.reduceSub, Int.reduceAdd, Int.reduceMul, Int.reduceNeg, fillL, repL]; rfl)
  · simp only [c11, st0, push_frm, if_false, if_true, Bool.false_eq_true, Nat.reduceSub, List.replicate, List.cons_append, List.nil_append]
    repeat' (first
      | with_reducible exact opsNil
      | with_reducible exact retI
      | with_reducible exact skipI
      | with_reducible exact exitI
      | with_reducible exact if_pos rfl
      | with_reducible exact if_neg (by decide)
      | (rw [exS_loop]; exact e)
      | (with_reducible apply seqI)
      | (with_reducible apply regI)
      | (with_reducible apply regD)
      | with_reducible exact trNil
      | (with_reducible apply blockI)
      | (with_reducible apply condT; focus (simp only [push_cast, reduceCtorEq, Nat.reduceAdd, Nat.reduceSub, Nat.reduceMul, Nat.reduceLeDiff, Nat.reduceLT, Nat.reduceEqDiff, Int.reduceToNat, Int.reduceLT, Int.reduceLE, Int.reduceBEq, Int.reduceEq, Int.reduceSub, Int.reduceAdd, Int.reduceMul, Int.reduceNeg, fillL, repL]; done))
      | (with_reducible apply condF; focus (simp only [push_cast, reduceCtorEq, Nat.reduceAdd, Nat.reduceSub, Nat.reduceMul, Nat.reduceLeDiff, Nat.reduceLT, Nat.reduceEqDiff, Int.reduceToNat, Int.reduceLT, Int.reduceLE, Int.reduceBEq, Int.reduceEq, Int.reduceSub, Int.reduceAdd, Int.reduceMul, Int.reduceNeg, fillL, repL]; done))
      | (with_reducible apply opsCons (by simp only [push_cast, reduceCtorEq, Nat.reduceAdd, Nat.reduceSub, Nat.reduceMul, Nat.reduceLeDiff, Nat.reduceLT, Nat.reduceEqDiff, Int.reduceToNat, Int.reduceLT, Int.reduceLE, Int.reduceBEq, Int.reduceEq, Int.reduceSub, Int.reduceAdd, Int.reduceMul, Int.reduceNeg, fillL, repL, frm_get, frm_set, set_set]; rfl); dsimp only [List.cons_append, List.nil_append, putV, List.set])
      | (with_reducible apply trCons (by simp only [push_cast, reduceCtorEq, Nat.reduceAdd, Nat.reduceSub, Nat.reduceMul, Nat.reduceLeDiff, Nat.reduceLT, Nat.reduceEqDiff, Int.reduceToNat, Int.reduceLT, Int.reduceLE, Int.reduceBEq, Int.reduceEq, Int.reduceSub, Int.reduceAdd, Int.reduceMul, Int.reduceNeg, fillL, repL, frm_get, frm_set, set_set]; rfl); dsimp only [List.cons_append, List.nil_append, putV, List.set])
      | (simp only [List.getLast?_cons_cons, List.getLast?_singleton]; rfl)
      | (refine (?_ : List.all _ _ = true); simp only [chkOne, noCall, same_self, push_cast, reduceCtorEq, Nat.reduceAdd, Nat.reduceSub, Nat.reduceMul, Nat.reduceLeDiff, Nat.reduceLT, Nat.reduceEqDiff, Int.reduceToNat, Int.reduceLT, Int.reduceLE, Int.reduceBEq, Int.reduceEq, Int.reduceSub, Int.reduceAdd, Int.reduceMul, Int.reduceNeg, fillL, repL, frm_get, frm_set, set_set]; done)
      | (dsimp only))
  · simp only [c11, push_cast, reduceCtorEq, Nat.reduceAdd, Nat.reduceSub, Nat.reduceMul, Nat.reduceLeDiff, Nat.reduceLT, Nat.reduceEqDiff, Int.reduceToNat, Int.reduceLT, Int.reduceLE, Int.reduceBEq, Int.reduceEq, Int.reduceSub, Int.reduceAdd, Int.reduceMul, Int.reduceNeg, fillL, repL, frm_get, frm_set, set_set]
end Go.Proofs.Ythogcanomihelaa.Ga
