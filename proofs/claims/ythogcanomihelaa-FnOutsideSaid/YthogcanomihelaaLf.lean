/- A heap that is cloned. -/
import Derived.Test.YthogcanomihelaaLe
set_option linter.unusedSimpArgs false
set_option linter.unusedVariables false
namespace Go.Proofs.Ythogcanomihelaa.Ga
open Go Go.Proofs Go.Proofs.Ythogcanomihelaa.Ae
attribute [local congr] obind_congr
attribute [local push_cast] exF argsV frzs frz frzL frz1 exS_reg exS_seq exS_cond exS_alt exS_block exS_loop exS_exit exS_ret exS_skip evReg evOps evOne evAct evOp rd putV st0 evEnd resV resL resOne oneOr frzR loadV storeV binV binI unV push_frm pop_frm frm_len frm_top frm_get_top frm_set_top frm_new AV.cells AV.lowB AV.lowL AV.isCell cellsOk set_len Option.bind_some Option.map_some Option.map_none List.getD_cons_zero List.getD_cons_succ List.nil_append List.cons_append List.append_nil List.length_cons List.length_nil List.set_cons_zero List.set_cons_succ List.map_cons List.map_nil List.replicate if_true if_false ite_true ite_false ite_self Bool.false_eq_true List.all_cons List.all_nil Bool.and_true Bool.true_and Bool.and_self Bool.and_eq_true List.getElem?_cons_zero List.getElem?_cons_succ List.drop_succ_cons List.drop_zero List.take_succ_cons List.take_zero true_and and_true and_self decide_true decide_false Bool.not_true Bool.not_false Prod.mk.injEq Option.some.injEq List.getElem?_drop optInt elems sliceV partsOf Nat.add_zero Nat.zero_add Nat.mul_one beq_self_eq_true litParts Bool.or_false Bool.false_or Bool.or_true Bool.true_or Bool.false_and Bool.and_false List.cons.injEq not_false_eq_true not_true_eq_false Nat.zero_le Nat.le_refl gt_iff_lt ge_iff_le List.drop_nil List.take_nil newBox List.length_append List.length_map bne_self_eq_false eq_self Nat.lt_add_one ne_eq false_implies Int.le_refl

set_option maxHeartbeats 4000000 in
theorem cloneHeap_some {s : Store} {o0 o1 : Ae.Obj} {f1 f2 : Bool} {n m : Nat} {ws ls : List AV} {half low next : Int} (hw : cellsOk 0 ws = true) (hl : cellsOk 0 ls = true) (hwn : ws.length = n * 1) (hln : ls.length = m * 3)
    (hn : 0 < n) (hm : 0 < m) (hn2 : n * 8 ≤ 140737488355328) (hm2 : m * 24 ≤ 140737488355328) :
    callF (tab tbl) noCall 41 [.agg [.imm f1 n ws, .int .i64 half, .int .i64 low, .int .i64 next, .imm f2 m ls]] (frm s [o0, o1]) =
      some (.agg [.slr (s.low.length + 1) 4 0 n 0 false, .int .i64 half, .int .i64 low, .int .i64 next, .slr (s.low.length + 1) 5 0 m 0 false],
        frm s [o0, o1, .box 26 [.slr (s.low.length + 1) 4 0 n 0 false, .int .i64 half, .int .i64 low, .int .i64 next, .slr (s.low.length + 1) 5 0 m 0 false],
          .box 26 [.slr (s.low.length + 1) 4 0 n 0 false, .int .i64 half, .int .i64 low, .int .i64 next, .slr (s.low.length + 1) 5 0 m 0 false], .arr 3 1 ws 0 0, .arr 99 3 ls 0 0]) := by
  have e1 := fun s => cloneInts_some (s := s) (f := false) hw hwn hn hn2
  have e2 := fun s => cloneLog_some (s := s) (f := false) hl hln hm hm2
  apply funI (fc := c41) rfl (by simp only [c41, push_cast, reduceCtorEq, Nat.reduceAdd, Nat.reduceSub, Nat.reduceMul, Nat.reduceLeDiff, Nat.reduceLT, Nat.reduceEqDiff, Int.reduceToNat, Int.reduceLT, Int.reduceLE, Int.reduceBEq, Int.reduceEq, Int.reduceSub, Int.reduceAdd, Int.reduceMul, Int.reduceNeg, fillL, repL, e1, e2]; rfl)
  · simp only [c41, st0, push_frm, if_false, if_true, Bool.false_eq_true, Nat.reduceSub, List.replicate, List.cons_append, List.nil_append, e1, e2]
    repeat' (first
      | with_reducible exact opsNil
      | with_reducible exact retI
      | with_reducible exact skipI
      | with_reducible exact exitI
      | with_reducible exact if_pos rfl
      | with_reducible exact if_neg (by decide)
      | (with_reducible apply seqI)
      | (with_reducible apply regI)
      | (with_reducible apply regD)
      | with_reducible exact trNil
      | (with_reducible apply blockI)
      | (with_reducible apply condT; focus (simp only [push_cast, reduceCtorEq, Nat.reduceAdd, Nat.reduceSub, Nat.reduceMul, Nat.reduceLeDiff, Nat.reduceLT, Nat.reduceEqDiff, Int.reduceToNat, Int.reduceLT, Int.reduceLE, Int.reduceBEq, Int.reduceEq, Int.reduceSub, Int.reduceAdd, Int.reduceMul, Int.reduceNeg, fillL, repL, e1, e2]; done))
      | (with_reducible apply condF; focus (simp only [push_cast, reduceCtorEq, Nat.reduceAdd, Nat.reduceSub, Nat.reduceMul, Nat.reduceLeDiff, Nat.reduceLT, Nat.reduceEqDiff, Int.reduceToNat, Int.reduceLT, Int.reduceLE, Int.reduceBEq, Int.reduceEq, Int.reduceSub, Int.reduceAdd, Int.reduceMul, Int.reduceNeg, fillL, repL, e1, e2]; done))
      | (with_reducible apply opsCons (by simp only [push_cast, reduceCtorEq, Nat.reduceAdd, Nat.reduceSub, Nat.reduceMul, Nat.reduceLeDiff, Nat.reduceLT, Nat.reduceEqDiff, Int.reduceToNat, Int.reduceLT, Int.reduceLE, Int.reduceBEq, Int.reduceEq, Int.reduceSub, Int.reduceAdd, Int.reduceMul, Int.reduceNeg, fillL, repL, frm_get, frm_set, set_set, e1, e2]; rfl); dsimp only [List.cons_append, List.nil_append, putV, List.set])
      | (with_reducible apply trCons (by simp only [push_cast, reduceCtorEq, Nat.reduceAdd, Nat.reduceSub, Nat.reduceMul, Nat.reduceLeDiff, Nat.reduceLT, Nat.reduceEqDiff, Int.reduceToNat, Int.reduceLT, Int.reduceLE, Int.reduceBEq, Int.reduceEq, Int.reduceSub, Int.reduceAdd, Int.reduceMul, Int.reduceNeg, fillL, repL, frm_get, frm_set, set_set, e1, e2]; rfl); dsimp only [List.cons_append, List.nil_append, putV, List.set])
      | (simp only [List.getLast?_cons_cons, List.getLast?_singleton]; rfl)
      | (refine (?_ : List.all _ _ = true); simp only [chkOne, noCall, same_self, push_cast, reduceCtorEq, Nat.reduceAdd, Nat.reduceSub, Nat.reduceMul, Nat.reduceLeDiff, Nat.reduceLT, Nat.reduceEqDiff, Int.reduceToNat, Int.reduceLT, Int.reduceLE, Int.reduceBEq, Int.reduceEq, Int.reduceSub, Int.reduceAdd, Int.reduceMul, Int.reduceNeg, fillL, repL, frm_get, frm_set, set_set, e1, e2]; done)
      | (dsimp only))
  · simp only [c41, push_cast, reduceCtorEq, Nat.reduceAdd, Nat.reduceSub, Nat.reduceMul, Nat.reduceLeDiff, Nat.reduceLT, Nat.reduceEqDiff, Int.reduceToNat, Int.reduceLT, Int.reduceLE, Int.reduceBEq, Int.reduceEq, Int.reduceSub, Int.reduceAdd, Int.reduceMul, Int.reduceNeg, fillL, repL, frm_get, frm_set, set_set, e1, e2]
set_option maxHeartbeats 4000000 in
theorem cloneHeap_none {s : Store} {o0 o1 : Ae.Obj} {f1 f2 : Bool} {n : Nat} {ws : List AV} {half low next : Int} (hw : cellsOk 0 ws = true) (hwn : ws.length = n * 1) (hn : 0 < n) (hn2 : n * 8 ≤ 140737488355328) :
    callF (tab tbl) noCall 41 [.agg [.imm f1 n ws, .int .i64 half, .int .i64 low, .int .i64 next, .imm f2 0 []]] (frm s [o0, o1]) =
      some (.agg [.slr (s.low.length + 1) 4 0 n 0 false, .int .i64 half, .int .i64 low, .int .i64 next, .imm true 0 []],
        frm s [o0, o1, .box 26 [.slr (s.low.length + 1) 4 0 n 0 false, .int .i64 half, .int .i64 low, .int .i64 next, .imm true 0 []],
          .box 26 [.slr (s.low.length + 1) 4 0 n 0 false, .int .i64 half, .int .i64 low, .int .i64 next, .imm true 0 []], .arr 3 1 ws 0 0]) := by
  have e1 := fun s => cloneInts_some (s := s) (f := false) hw hwn hn hn2
  have e2 := fun s => cloneLog_none (s := s) (f := false)
  apply funI (fc := c41) rfl (by simp only [c41, push_cast, reduceCtorEq, Nat.reduceAdd, Nat.reduceSub, Nat.reduceMul, Nat.reduceLeDiff, Nat.reduceLT, Nat.reduceEqDiff, Int.reduceToNat, Int.reduceLT, Int.reduceLE, Int.reduceBEq, Int.reduceEq, Int.reduceSub, Int.reduceAdd, Int.reduceMul, Int.reduceNeg, fillL, repL, e1, e2]; rfl)
  · simp only [c41, st0, push_frm, if_false, if_true, Bool.false_eq_true, Nat.reduceSub, List.replicate, List.cons_append, List.nil_append, e1, e2]
    repeat' (first
      | with_reducible exact opsNil
      | with_reducible exact retI
      | with_reducible exact skipI
      | with_reducible exact exitI
      | with_reducible exact if_pos rfl
      | with_reducible exact if_neg (by decide)
      | (with_reducible apply seqI)
      | (with_reducible apply regI)
      | (with_reducible apply regD)
      | with_reducible exact trNil
      | (with_reducible apply blockI)
      | (with_reducible apply condT; focus (simp only [push_cast, reduceCtorEq, Nat.reduceAdd, Nat.reduceSub, Nat.reduceMul, Nat.reduceLeDiff, Nat.reduceLT, Nat.reduceEqDiff, Int.reduceToNat, Int.reduceLT, Int.reduceLE, Int.reduceBEq, Int.reduceEq, Int.reduceSub, Int.reduceAdd, Int.reduceMul, Int.reduceNeg, fillL, repL, e1, e2]; done))
      | (with_reducible apply condF; focus (simp only [push_cast, reduceCtorEq, Nat.reduceAdd, Nat.reduceSub, Nat.reduceMul, Nat.reduceLeDiff, Nat.reduceLT, Nat.reduceEqDiff, Int.reduceToNat, Int.reduceLT, Int.reduceLE, Int.reduceBEq, Int.reduceEq, Int.reduceSub, Int.reduceAdd, Int.reduceMul, Int.reduceNeg, fillL, repL, e1, e2]; done))
      | (with_reducible apply opsCons (by simp only [push_cast, reduceCtorEq, Nat.reduceAdd, Nat.reduceSub, Nat.reduceMul, Nat.reduceLeDiff, Nat.reduceLT, Nat.reduceEqDiff, Int.reduceToNat, Int.reduceLT, Int.reduceLE, Int.reduceBEq, Int.reduceEq, Int.reduceSub, Int.reduceAdd, Int.reduceMul, Int.reduceNeg, fillL, repL, frm_get, frm_set, set_set, e1, e2]; rfl); dsimp only [List.cons_append, List.nil_append, putV, List.set])
      | (with_reducible apply trCons (by simp only [push_cast, reduceCtorEq, Nat.reduceAdd, Nat.reduceSub, Nat.reduceMul, Nat.reduceLeDiff, Nat.reduceLT, Nat.reduceEqDiff, Int.reduceToNat, Int.reduceLT, Int.reduceLE, Int.reduceBEq, Int.reduceEq, Int.reduceSub, Int.reduceAdd, Int.reduceMul, Int.reduceNeg, fillL, repL, frm_get, frm_set, set_set, e1, e2]; rfl); dsimp only [List.cons_append, List.nil_append, putV, List.set])
      | (simp only [List.getLast?_cons_cons, List.getLast?_singleton]; rfl)
      | (refine (?_ : List.all _ _ = true); simp only [chkOne, noCall, same_self, push_cast, reduceCtorEq, Nat.reduceAdd, Nat.reduceSub, Nat.reduceMul, Nat.reduceLeDiff, Nat.reduceLT, Nat.reduceEqDiff, Int.reduceToNat, Int.reduceLT, Int.reduceLE, Int.reduceBEq, Int.reduceEq, Int.reduceSub, Int.reduceAdd, Int.reduceMul, Int.reduceNeg, fillL, repL, frm_get, frm_set, set_set, e1, e2]; done)
      | (dsimp only))
  · simp only [c41, push_cast, reduceCtorEq, Nat.reduceAdd, Nat.reduceSub, Nat.reduceMul, Nat.reduceLeDiff, Nat.reduceLT, Nat.reduceEqDiff, Int.reduceToNat, Int.reduceLT, Int.reduceLE, Int.reduceBEq, Int.reduceEq, Int.reduceSub, Int.reduceAdd, Int.reduceMul, Int.reduceNeg, fillL, repL, frm_get, frm_set, set_set, e1, e2]
theorem taken_ok {s : Store} {d i : Nat} {w l : AV} {half low next p : Int} (hg : s.get d i = some (.box 26 [w, .int .i64 half, .int .i64 low, .int .i64 next, l])) (h1 : -1000000 ≤ next) (h2 : next ≤ 1000000) :
    callF (tab tbl) noCall 150 [.ptr d i 0, .int .i64 p] s = some (.bool (decide (low ≤ p ∧ p ≤ next - 1)), s) := by
  have hd := get_le hg
  have hw : IntKind.i64.wrap (next - 1) = next - 1 := wrap_id (by omega) (by omega)
  apply funI (fc := c150) rfl (by simp only [c150, push_cast, reduceCtorEq, Nat.reduceAdd, Nat.reduceSub, Nat.reduceMul, Nat.reduceLeDiff, Nat.reduceLT, Nat.reduceEqDiff, Int.reduceToNat, Int.reduceLT, Int.reduceLE, Int.reduceBEq, Int.reduceEq, Int.reduceSub, Int.reduceAdd, Int.reduceMul, Int.reduceNeg, fillL, repL, hd, hg, hw, within_ok]; rfl)
  · simp only [c150, st0, push_frm, if_false, if_true, Bool.false_eq_true, Nat.reduceSub, List.replicate, List.cons_append, List.nil_append, hd, hg, hw, within_ok]
    repeat' (first
      | with_reducible exact opsNil
      | with_reducible exact retI
      | with_reducible exact skipI
      | with_reducible exact exitI
      | with_reducible exact if_pos rfl
      | with_reducible exact if_neg (by decide)
      | (with_reducible apply seqI)
      | (with_reducible apply regI)
      | (with_reducible apply regD)
      | with_reducible exact trNil
      | (with_reducible apply blockI)
      | (with_reducible apply condT; focus (simp only [push_cast, reduceCtorEq, Nat.reduceAdd, Nat.reduceSub, Nat.reduceMul, Nat.reduceLeDiff, Nat.reduceLT, Nat.reduceEqDiff, Int.reduceToNat, Int.reduceLT, Int.reduceLE, Int.reduceBEq, Int.reduceEq, Int.reduceSub, Int.reduceAdd, Int.reduceMul, Int.reduceNeg, fillL, repL, hd, hg, hw, within_ok]; done))
      | (with_reducible apply condF; focus (simp only [push_cast, reduceCtorEq, Nat.reduceAdd, Nat.reduceSub, Nat.reduceMul, Nat.reduceLeDiff, Nat.reduceLT, Nat.reduceEqDiff, Int.reduceToNat, Int.reduceLT, Int.reduceLE, Int.reduceBEq, Int.reduceEq, Int.reduceSub, Int.reduceAdd, Int.reduceMul, Int.reduceNeg, fillL, repL, hd, hg, hw, within_ok]; done))
      | (with_reducible apply opsCons (by simp only [push_cast, reduceCtorEq, Nat.reduceAdd, Nat.reduceSub, Nat.reduceMul, Nat.reduceLeDiff, Nat.reduceLT, Nat.reduceEqDiff, Int.reduceToNat, Int.reduceLT, Int.reduceLE, Int.reduceBEq, Int.reduceEq, Int.reduceSub, Int.reduceAdd, Int.reduceMul, Int.reduceNeg, fillL, repL, frm_get, frm_set, set_set, hd, hg, hw, within_ok]; rfl); dsimp only [List.cons_append, List.nil_append, putV, List.set])
      | (with_reducible apply trCons (by simp only [push_cast, reduceCtorEq, Nat.reduceAdd, Nat.reduceSub, Nat.reduceMul, Nat.reduceLeDiff, Nat.reduceLT, Nat.reduceEqDiff, Int.reduceToNat, Int.reduceLT, Int.reduceLE, Int.reduceBEq, Int.reduceEq, Int.reduceSub, Int.reduceAdd, Int.reduceMul, Int.reduceNeg, fillL, repL, frm_get, frm_set, set_set, hd, hg, hw, within_ok]; rfl); dsimp only [List.cons_append, List.nil_append, putV, List.set])
      | (simp only [List.getLast?_cons_cons, List.getLast?_singleton]; rfl)
      | (refine (?_ : List.all _ _ = true); simp only [chkOne, noCall, same_self, push_cast, reduceCtorEq, Nat.reduceAdd, Nat.reduceSub, Nat.reduceMul, Nat.reduceLeDiff, Nat.reduceLT, Nat.reduceEqDiff, Int.reduceToNat, Int.reduceLT, Int.reduceLE, Int.reduceBEq, Int.reduceEq, Int.reduceSub, Int.reduceAdd, Int.reduceMul, Int.reduceNeg, fillL, repL, frm_get, frm_set, set_set, hd, hg, hw, within_ok]; done)
      | (dsimp only))
  · simp only [c150, push_cast, reduceCtorEq, Nat.reduceAdd, Nat.reduceSub, Nat.reduceMul, Nat.reduceLeDiff, Nat.reduceLT, Nat.reduceEqDiff, Int.reduceToNat, Int.reduceLT, Int.reduceLE, Int.reduceBEq, Int.reduceEq, Int.reduceSub, Int.reduceAdd, Int.reduceMul, Int.reduceNeg, fillL, repL, frm_get, frm_set, set_set, hd, hg, hw, within_ok]
/-- What of a heap is taken. -/
def inB (low next p off : Int) : Bool := decide (low ≤ p ∧ p < next ∧ 0 ≤ off ∧ off < next - p)
set_option maxHeartbeats 4000000 in
theorem touch_no {s : Store} {d i : Nat} {w l : AV} {half low next p off : Int} (hg : s.get d i = some (.box 26 [w, .int .i64 half, .int .i64 low, .int .i64 next, l])) (h1 : 0 ≤ low) (h2 : next ≤ 1000000) (h3 : -1000000 ≤ next)
    (hin : inB low next p off = false) : callF (tab tbl) noCall 96 [.ptr d i 0, .int .i64 p, .int .i64 off] s = some (.bool false, s) := by
  have hd := get_le hg
  have ht := taken_ok (p := p) hg h3 h2
  unfold inB at hin
  simp only [decide_eq_false_iff_not] at hin
  by_cases hA : low ≤ p ∧ p ≤ next - 1
  · have hw : IntKind.i64.wrap (next - p) = next - p := wrap_id (by omega) (by omega)
    by_cases hB : off < 0
    · apply funI (fc := c96) rfl (by simp only [c96, push_cast, reduceCtorEq, Nat.reduceAdd, Nat.reduceSub, Nat.reduceMul, Nat.reduceLeDiff, Nat.reduceLT, Nat.reduceEqDiff, Int.reduceToNat, Int.reduceLT, Int.reduceLE, Int.reduceBEq, Int.reduceEq, Int.reduceSub, Int.reduceAdd, Int.reduceMul, Int.reduceNeg, fillL, repL, hd, hg, ht, hA, hB]; rfl)
      · simp only [c96, st0, push_frm, if_false, if_true, Bool.false_eq_true, Nat.reduceSub, List.replicate, List.cons_append, List.nil_append, hd, hg, ht, hA, hB]
        repeat' (first
          | with_reducible exact opsNil
          | with_reducible exact retI
          | with_reducible exact skipI
          | with_reducible exact exitI
          | with_reducible exact if_pos rfl
          | with_reducible exact if_neg (by decide)
          | (with_reducible apply seqI)
          | (with_reducible apply regI)
          | (with_reducible apply regD)
          | with_reducible exact trNil
          | (with_reducible apply blockI)
          | (with_reducible apply condT; focus (simp only [push_cast, reduceCtorEq, Nat.reduceAdd, Nat.reduceSub, Nat.reduceMul, Nat.reduceLeDiff, Nat.reduceLT, Nat.reduceEqDiff, Int.reduceToNat, Int.reduceLT, Int.reduceLE, Int.reduceBEq, Int.reduceEq, Int.reduceSub, Int.reduceAdd, Int.reduceMul, Int.reduceNeg, fillL, repL, hd, hg, ht, hA, hB]; done))
          | (with_reducible apply condF; focus (simp only [push_cast, reduceCtorEq, Nat.reduceAdd, Nat.reduceSub, Nat.reduceMul, Nat.reduceLeDiff, Nat.reduceLT, Nat.reduceEqDiff, Int.reduceToNat, Int.reduceLT, Int.reduceLE, Int.reduceBEq, Int.reduceEq, Int.reduceSub, Int.reduceAdd, Int.reduceMul, Int.reduceNeg, fillL, repL, hd, hg, ht, hA, hB]; done))
          | (with_reducible apply opsCons (by simp only [push_cast, reduceCtorEq, Nat.reduceAdd, Nat.reduceSub, Nat.reduceMul, Nat.reduceLeDiff, Nat.reduceLT, Nat.reduceEqDiff, Int.reduceToNat, Int.reduceLT, Int.reduceLE, Int.reduceBEq, Int.reduceEq, Int.reduceSub, Int.reduceAdd, Int.reduceMul, Int.reduceNeg, fillL, repL, frm_get, frm_set, set_set, hd, hg, ht, hA, hB]; rfl); dsimp only [List.cons_append, List.nil_append, putV, List.set])
          | (with_reducible apply trCons (by simp only [push_cast, reduceCtorEq, Nat.reduceAdd, Nat.reduceSub, Nat.reduceMul, Nat.reduceLeDiff, Nat.reduceLT, Nat.reduceEqDiff, Int.reduceToNat, Int.reduceLT, Int.reduceLE, Int.reduceBEq, Int.reduceEq, Int.reduceSub, Int.reduceAdd, Int.reduceMul, Int.reduceNeg, fillL, repL, frm_get, frm_set, set_set, hd, hg, ht, hA, hB]; rfl); dsimp only [List.cons_append, List.nil_append, putV, List.set])
          | (simp only [List.getLast?_cons_cons, List.getLast?_singleton]; rfl)
          | (refine (?_ : List.all _ _ = true); simp only [chkOne, noCall, same_self, push_cast, reduceCtorEq, Nat.reduceAdd, Nat.reduceSub, Nat.reduceMul, Nat.reduceLeDiff, Nat.reduceLT, Nat.reduceEqDiff, Int.reduceToNat, Int.reduceLT, Int.reduceLE, Int.reduceBEq, Int.reduceEq, Int.reduceSub, Int.reduceAdd, Int.reduceMul, Int.reduceNeg, fillL, repL, frm_get, frm_set, set_set, hd, hg, ht, hA, hB]; done)
          | (dsimp only))
      · simp only [c96, push_cast, reduceCtorEq, Nat.reduceAdd, Nat.reduceSub, Nat.reduceMul, Nat.reduceLeDiff, Nat.reduceLT, Nat.reduceEqDiff, Int.reduceToNat, Int.reduceLT, Int.reduceLE, Int.reduceBEq, Int.reduceEq, Int.reduceSub, Int.reduceAdd, Int.reduceMul, Int.reduceNeg, fillL, repL, frm_get, frm_set, set_set, hd, hg, ht, hA, hB]
    · have hC : next - p ≤ off := by omega
      apply funI (fc := c96) rfl (by simp only [c96, push_cast, reduceCtorEq, Nat.reduceAdd, Nat.reduceSub, Nat.reduceMul, Nat.reduceLeDiff, Nat.reduceLT, Nat.reduceEqDiff, Int.reduceToNat, Int.reduceLT, Int.reduceLE, Int.reduceBEq, Int.reduceEq, Int.reduceSub, Int.reduceAdd, Int.reduceMul, Int.reduceNeg, fillL, repL, hd, hg, ht, hA, hB, hw, hC]; rfl)
      · simp only [c96, st0, push_frm, if_false, if_true, Bool.false_eq_true, Nat.reduceSub, List.replicate, List.cons_append, List.nil_append, hd, hg, ht, hA, hB, hw, hC]
        repeat' (first
          | with_reducible exact opsNil
          | with_reducible exact retI
          | with_reducible exact skipI
          | with_reducible exact exitI
          | with_reducible exact if_pos rfl
          | with_reducible exact if_neg (by decide)
          | (with_reducible apply seqI)
          | (with_reducible apply regI)
          | (with_reducible apply regD)
          | with_reducible exact trNil
          | (with_reducible apply blockI)
          | (with_reducible apply condT; focus (simp only [push_cast, reduceCtorEq, Nat.reduceAdd, Nat.reduceSub, Nat.reduceMul, Nat.reduceLeDiff, Nat.reduceLT, Nat.reduceEqDiff, Int.reduceToNat, Int.reduceLT, Int.reduceLE, Int.reduceBEq, Int.reduceEq, Int.reduceSub, Int.reduceAdd, Int.reduceMul, Int.reduceNeg, fillL, repL, hd, hg, ht, hA, hB, hw, hC]; done))
          | (with_reducible apply condF; focus (simp only [push_cast, reduceCtorEq, Nat.reduceAdd, Nat.reduceSub, Nat.reduceMul, Nat.reduceLeDiff, Nat.reduceLT, Nat.reduceEqDiff, Int.reduceToNat, Int.reduceLT, Int.reduceLE, Int.reduceBEq, Int.reduceEq, Int.reduceSub, Int.reduceAdd, Int.reduceMul, Int.reduceNeg, fillL, repL, hd, hg, ht, hA, hB, hw, hC]; done))
          | (with_reducible apply opsCons (by simp only [push_cast, reduceCtorEq, Nat.reduceAdd, Nat.reduceSub, Nat.reduceMul, Nat.reduceLeDiff, Nat.reduceLT, Nat.reduceEqDiff, Int.reduceToNat, Int.reduceLT, Int.reduceLE, Int.reduceBEq, Int.reduceEq, Int.reduceSub, Int.reduceAdd, Int.reduceMul, Int.reduceNeg, fillL, repL, frm_get, frm_set, set_set, hd, hg, ht, hA, hB, hw, hC]; rfl); dsimp only [List.cons_append, List.nil_append, putV, List.set])
          | (with_reducible apply trCons (by simp only [push_cast, reduceCtorEq, Nat.reduceAdd, Nat.reduceSub, Nat.reduceMul, Nat.reduceLeDiff, Nat.reduceLT, Nat.reduceEqDiff, Int.reduceToNat, Int.reduceLT, Int.reduceLE, Int.reduceBEq, Int.reduceEq, Int.reduceSub, Int.reduceAdd, Int.reduceMul, Int.reduceNeg, fillL, repL, frm_get, frm_set, set_set, hd, hg, ht, hA, hB, hw, hC]; rfl); dsimp only [List.cons_append, List.nil_append, putV, List.set])
          | (simp only [List.getLast?_cons_cons, List.getLast?_singleton]; rfl)
          | (refine (?_ : List.all _ _ = true); simp only [chkOne, noCall, same_self, push_cast, reduceCtorEq, Nat.reduceAdd, Nat.reduceSub, Nat.reduceMul, Nat.reduceLeDiff, Nat.reduceLT, Nat.reduceEqDiff, Int.reduceToNat, Int.reduceLT, Int.reduceLE, Int.reduceBEq, Int.reduceEq, Int.reduceSub, Int.reduceAdd, Int.reduceMul, Int.reduceNeg, fillL, repL, frm_get, frm_set, set_set, hd, hg, ht, hA, hB, hw, hC]; done)
          | (dsimp only))
      · simp only [c96, push_cast, reduceCtorEq, Nat.reduceAdd, Nat.reduceSub, Nat.reduceMul, Nat.reduceLeDiff, Nat.reduceLT, Nat.reduceEqDiff, Int.reduceToNat, Int.reduceLT, Int.reduceLE, Int.reduceBEq, Int.reduceEq, Int.reduceSub, Int.reduceAdd, Int.reduceMul, Int.reduceNeg, fillL, repL, frm_get, frm_set, set_set, hd, hg, ht, hA, hB, hw, hC]
  · apply funI (fc := c96) rfl (by simp only [c96, push_cast, reduceCtorEq, Nat.reduceAdd, Nat.reduceSub, Nat.reduceMul, Nat.reduceLeDiff, Nat.reduceLT, Nat.reduceEqDiff, Int.reduceToNat, Int.reduceLT, Int.reduceLE, Int.reduceBEq, Int.reduceEq, Int.reduceSub, Int.reduceAdd, Int.reduceMul, Int.reduceNeg, fillL, repL, hd, hg, ht, hA]; rfl)
    · simp only [c96, st0, push_frm, if_false, if_true, Bool.false_eq_true, Nat.reduceSub, List.replicate, List.cons_append, List.nil_append, hd, hg, ht, hA]
      repeat' (first
        | with_reducible exact opsNil
        | with_reducible exact retI
        | with_reducible exact skipI
        | with_reducible exact exitI
        | with_reducible exact if_pos rfl
        | with_reducible exact if_neg (by decide)
        | (with_reducible apply seqI)
        | (with_reducible apply regI)
        | (with_reducible apply regD)
        | with_reducible exact trNil
        | (with_reducible apply blockI)
        | (with_reducible apply condT; focus (simp only [push_cast, reduceCtorEq, Nat.reduceAdd, Nat.reduceSub, Nat.reduceMul, Nat.reduceLeDiff, Nat.reduceLT, Nat.reduceEqDiff, Int.reduceToNat, Int.reduceLT, Int.reduceLE, Int.reduceBEq, Int.reduceEq, Int.reduceSub, Int.reduceAdd, Int.reduceMul, Int.reduceNeg, fillL, repL, hd, hg, ht, hA]; done))
        | (with_reducible apply condF; focus (simp only [push_cast, reduceCtorEq, Nat.reduceAdd, Nat.reduceSub, Nat.reduceMul, Nat.reduceLeDiff, Nat.reduceLT, Nat.reduceEqDiff, Int.reduceToNat, Int.reduceLT, Int.reduceLE, Int.reduceBEq, Int.reduceEq, Int.reduceSub, Int.reduceAdd, Int.reduceMul, Int.reduceNeg, fillL, repL, hd, hg, ht, hA]; done))
        | (with_reducible apply opsCons (by simp only [push_cast, reduceCtorEq, Nat.reduceAdd, Nat.reduceSub, Nat.reduceMul, Nat.reduceLeDiff, Nat.reduceLT, Nat.reduceEqDiff, Int.reduceToNat, Int.reduceLT, Int.reduceLE, Int.reduceBEq, Int.reduceEq, Int.reduceSub, Int.reduceAdd, Int.reduceMul, Int.reduceNeg, fillL, repL, frm_get, frm_set, set_set, hd, hg, ht, hA]; rfl); dsimp only [List.cons_append, List.nil_append, putV, List.set])
        | (with_reducible apply trCons (by simp only [push_cast, reduceCtorEq, Nat.reduceAdd, Nat.reduceSub, Nat.reduceMul, Nat.reduceLeDiff, Nat.reduceLT, Nat.reduceEqDiff, Int.reduceToNat, Int.reduceLT, Int.reduceLE, Int.reduceBEq, Int.reduceEq, Int.reduceSub, Int.reduceAdd, Int.reduceMul, Int.reduceNeg, fillL, repL, frm_get, frm_set, set_set, hd, hg, ht, hA]; rfl); dsimp only [List.cons_append, List.nil_append, putV, List.set])
        | (simp only [List.getLast?_cons_cons, List.getLast?_singleton]; rfl)
        | (refine (?_ : List.all _ _ = true); simp only [chkOne, noCall, same_self, push_cast, reduceCtorEq, Nat.reduceAdd, Nat.reduceSub, Nat.reduceMul, Nat.reduceLeDiff, Nat.reduceLT, Nat.reduceEqDiff, Int.reduceToNat, Int.reduceLT, Int.reduceLE, Int.reduceBEq, Int.reduceEq, Int.reduceSub, Int.reduceAdd, Int.reduceMul, Int.reduceNeg, fillL, repL, frm_get, frm_set, set_set, hd, hg, ht, hA]; done)
        | (dsimp only))
    · simp only [c96, push_cast, reduceCtorEq, Nat.reduceAdd, Nat.reduceSub, Nat.reduceMul, Nat.reduceLeDiff, Nat.reduceLT, Nat.reduceEqDiff, Int.reduceToNat, Int.reduceLT, Int.reduceLE, Int.reduceBEq, Int.reduceEq, Int.reduceSub, Int.reduceAdd, Int.reduceMul, Int.reduceNeg, fillL, repL, frm_get, frm_set, set_set, hd, hg, ht, hA]
end Go.Proofs.Ythogcanomihelaa.Ga
