/- A store into a heap that was cloned. -/
import Derived.Test.YthogcanomihelaaLg
set_option linter.unusedSimpArgs false
set_option linter.unusedVariables false
namespace Go.Proofs.Ythogcanomihelaa.Ga
open Go Go.Proofs Go.Proofs.Ythogcanomihelaa.Ae
attribute [local congr] obind_congr
attribute [local push_cast] exF argsV frzs frz frzL frz1 exS_reg exS_seq exS_cond exS_alt exS_block exS_loop exS_exit exS_ret exS_skip evReg evOps evOne evAct evOp rd putV st0 evEnd resV resL resOne oneOr frzR loadV storeV binV binI unV push_frm pop_frm frm_len frm_top frm_get_top frm_set_top frm_new AV.cells AV.lowB AV.lowL AV.isCell cellsOk set_len Option.bind_some Option.map_some Option.map_none List.getD_cons_zero List.getD_cons_succ List.nil_append List.cons_append List.append_nil List.length_cons List.length_nil List.set_cons_zero List.set_cons_succ List.map_cons List.map_nil List.replicate if_true if_false ite_true ite_false ite_self Bool.false_eq_true List.all_cons List.all_nil Bool.and_true Bool.true_and Bool.and_self Bool.and_eq_true List.getElem?_cons_zero List.getElem?_cons_succ List.drop_succ_cons List.drop_zero List.take_succ_cons List.take_zero true_and and_true and_self decide_true decide_false Bool.not_true Bool.not_false Prod.mk.injEq Option.some.injEq List.getElem?_drop optInt elems sliceV partsOf Nat.add_zero Nat.zero_add Nat.mul_one beq_self_eq_true litParts Bool.or_false Bool.false_or Bool.or_true Bool.true_or Bool.false_and Bool.and_false List.cons.injEq not_false_eq_true not_true_eq_false Nat.zero_le Nat.le_refl gt_iff_lt ge_iff_le List.drop_nil List.take_nil newBox List.length_append List.length_map bne_self_eq_false eq_self Nat.lt_add_one ne_eq false_implies Int.le_refl

theorem store_no {s : Store} {d i : Nat} {w l : AV} {half low next p off v : Int} (hg : s.get d i = some (.box 26 [w, .int .i64 half, .int .i64 low, .int .i64 next, l])) (h1 : 0 ≤ low) (h2 : next ≤ 1000000) (h3 : -1000000 ≤ next)
    (hin : inB low next p off = false) : callF (tab tbl) noCall 42 [.ptr d i 0, .int .i64 p, .int .i64 off, .int .i64 v] s = some (.bool false, s) := by
  have ht := touch_no hg h1 h2 h3 hin
  apply funI (fc := c42) rfl (by simp only [c42, push_cast, reduceCtorEq, Nat.reduceAdd, Nat.reduceSub, Nat.reduceMul, Nat.reduceLeDiff, Nat.reduceLT, Nat.reduceEqDiff, Int.reduceToNat, Int.reduceLT, Int.reduceLE, Int.reduceBEq, Int.reduceEq, Int.reduceSub, Int.reduceAdd, Int.reduceMul, Int.reduceNeg, fillL, repL, ht]; rfl)
  · simp only [c42, st0, push_frm, if_false, if_true, Bool.false_eq_true, Nat.reduceSub, List.replicate, List.cons_append, List.nil_append, ht]
    repeat' (first
      | with_reducible exact opsNil
      | with_reducible exact retI
      | with_reducible exact skipI
      | with_reducible exact exitI
      | with_reducible exact if_pos rfl
      | with_reducible exact if_neg (by decide)
      | (with_reducible apply seqI)
      | (with_reducible apply regI)
      | (with_reducible apply regD)
      | with_reducible exact trNil
      | (with_reducible apply blockI)
      | (with_reducible apply condT; focus (simp only [push_cast, reduceCtorEq, Nat.reduceAdd, Nat.reduceSub, Nat.reduceMul, Nat.reduceLeDiff, Nat.reduceLT, Nat.reduceEqDiff, Int.reduceToNat, Int.reduceLT, Int.reduceLE, Int.reduceBEq, Int.reduceEq, Int.reduceSub, Int.reduceAdd, Int.reduceMul, Int.reduceNeg, fillL, repL, ht]; done))
      | (with_reducible apply condF; focus (simp only [push_cast, reduceCtorEq, Nat.reduceAdd, Nat.reduceSub, Nat.reduceMul, Nat.reduceLeDiff, Nat.reduceLT, Nat.reduceEqDiff, Int.reduceToNat, Int.reduceLT, Int.reduceLE, Int.reduceBEq, Int.reduceEq, Int.reduceSub, Int.reduceAdd, Int.reduceMul, Int.reduceNeg, fillL, repL, ht]; done))
      | (with_reducible apply opsCons (by simp only [push_cast, reduceCtorEq, Nat.reduceAdd, Nat.reduceSub, Nat.reduceMul, Nat.reduceLeDiff, Nat.reduceLT, Nat.reduceEqDiff, Int.reduceToNat, Int.reduceLT, Int.reduceLE, Int.reduceBEq, Int.reduceEq, Int.reduceSub, Int.reduceAdd, Int.reduceMul, Int.reduceNeg, fillL, repL, frm_get, frm_set, set_set, ht]; rfl); dsimp only [List.cons_append, List.nil_append, putV, List.set])
      | (with_reducible apply trCons (by simp only [push_cast, reduceCtorEq, Nat.reduceAdd, Nat.reduceSub, Nat.reduceMul, Nat.reduceLeDiff, Nat.reduceLT, Nat.reduceEqDiff, Int.reduceToNat, Int.reduceLT, Int.reduceLE, Int.reduceBEq, Int.reduceEq, Int.reduceSub, Int.reduceAdd, Int.reduceMul, Int.reduceNeg, fillL, repL, frm_get, frm_set, set_set, ht]; rfl); dsimp only [List.cons_append, List.nil_append, putV, List.set])
      | (simp only [List.getLast?_cons_cons, List.getLast?_singleton]; rfl)
      | (refine (?_ : List.all _ _ = true); simp only [chkOne, noCall, same_self, push_cast, reduceCtorEq, Nat.reduceAdd, Nat.reduceSub, Nat.reduceMul, Nat.reduceLeDiff, Nat.reduceLT, Nat.reduceEqDiff, Int.reduceToNat, Int.reduceLT, Int.reduceLE, Int.reduceBEq, Int.reduceEq, Int.reduceSub, Int.reduceAdd, Int.reduceMul, Int.reduceNeg, fillL, repL, frm_get, frm_set, set_set, ht]; done)
      | (dsimp only))
  · simp only [c42, push_cast, reduceCtorEq, Nat.reduceAdd, Nat.reduceSub, Nat.reduceMul, Nat.reduceLeDiff, Nat.reduceLT, Nat.reduceEqDiff, Int.reduceToNat, Int.reduceLT, Int.reduceLE, Int.reduceBEq, Int.reduceEq, Int.reduceSub, Int.reduceAdd, Int.reduceMul, Int.reduceNeg, fillL, repL, frm_get, frm_set, set_set, ht]
theorem load_no {s : Store} {d i : Nat} {w l : AV} {half low next p off : Int} (hg : s.get d i = some (.box 26 [w, .int .i64 half, .int .i64 low, .int .i64 next, l])) (h1 : 0 ≤ low) (h2 : next ≤ 1000000) (h3 : -1000000 ≤ next)
    (hin : inB low next p off = false) : callF (tab tbl) noCall 43 [.ptr d i 0, .int .i64 p, .int .i64 off] s = some (.tup [.int .i64 0, .bool false], s) := by
  have ht := touch_no hg h1 h2 h3 hin
  apply funI (fc := c43) rfl (by simp only [c43, push_cast, reduceCtorEq, Nat.reduceAdd, Nat.reduceSub, Nat.reduceMul, Nat.reduceLeDiff, Nat.reduceLT, Nat.reduceEqDiff, Int.reduceToNat, Int.reduceLT, Int.reduceLE, Int.reduceBEq, Int.reduceEq, Int.reduceSub, Int.reduceAdd, Int.reduceMul, Int.reduceNeg, fillL, repL, ht]; rfl)
  · simp only [c43, st0, push_frm, if_false, if_true, Bool.false_eq_true, Nat.reduceSub, List.replicate, List.cons_append, List.nil_append, ht]
    repeat' (first
      | with_reducible exact opsNil
      | with_reducible exact retI
      | with_reducible exact skipI
      | with_reducible exact exitI
      | with_reducible exact if_pos rfl
      | with_reducible exact if_neg (by decide)
      | (with_reducible apply seqI)
      | (with_reducible apply regI)
      | (with_reducible apply regD)
      | with_reducible exact trNil
      | (with_reducible apply blockI)
      | (with_reducible apply condT; focus (simp only [push_cast, reduceCtorEq, Nat.reduceAdd, Nat.reduceSub, Nat.reduceMul, Nat.reduceLeDiff, Nat.reduceLT, Nat.reduceEqDiff, Int.reduceToNat, Int.reduceLT, Int.reduceLE, Int.reduceBEq, Int.reduceEq, Int.reduceSub, Int.reduceAdd, Int.reduceMul, Int.reduceNeg, fillL, repL, ht]; done))
      | (with_reducible apply condF; focus (simp only [push_cast, reduceCtorEq, Nat.reduceAdd, Nat.reduceSub, Nat.reduceMul, Nat.reduceLeDiff, Nat.reduceLT, Nat.reduceEqDiff, Int.reduceToNat, Int.reduceLT, Int.reduceLE, Int.reduceBEq, Int.reduceEq, Int.reduceSub, Int.reduceAdd, Int.reduceMul, Int.reduceNeg, fillL, repL, ht]; done))
      | (with_reducible apply opsCons (by simp only [push_cast, reduceCtorEq, Nat.reduceAdd, Nat.reduceSub, Nat.reduceMul, Nat.reduceLeDiff, Nat.reduceLT, Nat.reduceEqDiff, Int.reduceToNat, Int.reduceLT, Int.reduceLE, Int.reduceBEq, Int.reduceEq, Int.reduceSub, Int.reduceAdd, Int.reduceMul, Int.reduceNeg, fillL, repL, frm_get, frm_set, set_set, ht]; rfl); dsimp only [List.cons_append, List.nil_append, putV, List.set])
      | (with_reducible apply trCons (by simp only [push_cast, reduceCtorEq, Nat.reduceAdd, Nat.reduceSub, Nat.reduceMul, Nat.reduceLeDiff, Nat.reduceLT, Nat.reduceEqDiff, Int.reduceToNat, Int.reduceLT, Int.reduceLE, Int.reduceBEq, Int.reduceEq, Int.reduceSub, Int.reduceAdd, Int.reduceMul, Int.reduceNeg, fillL, repL, frm_get, frm_set, set_set, ht]; rfl); dsimp only [List.cons_append, List.nil_append, putV, List.set])
      | (simp only [List.getLast?_cons_cons, List.getLast?_singleton]; rfl)
      | (refine (?_ : List.all _ _ = true); simp only [chkOne, noCall, same_self, push_cast, reduceCtorEq, Nat.reduceAdd, Nat.reduceSub, Nat.reduceMul, Nat.reduceLeDiff, Nat.reduceLT, Nat.reduceEqDiff, Int.reduceToNat, Int.reduceLT, Int.reduceLE, Int.reduceBEq, Int.reduceEq, Int.reduceSub, Int.reduceAdd, Int.reduceMul, Int.reduceNeg, fillL, repL, frm_get, frm_set, set_set, ht]; done)
      | (dsimp only))
  · simp only [c43, push_cast, reduceCtorEq, Nat.reduceAdd, Nat.reduceSub, Nat.reduceMul, Nat.reduceLeDiff, Nat.reduceLT, Nat.reduceEqDiff, Int.reduceToNat, Int.reduceLT, Int.reduceLE, Int.reduceBEq, Int.reduceEq, Int.reduceSub, Int.reduceAdd, Int.reduceMul, Int.reduceNeg, fillL, repL, frm_get, frm_set, set_set, ht]
set_option maxHeartbeats 4000000 in
theorem store_first {s : Store} {o0 o1 o2 o3 : Ae.Obj} {ws : List AV} {n : Nat} {half low next p off v : Int} (h1 : 0 ≤ low) (h2 : next ≤ 1000000) (hin : inB low next p off = true) (hn : next ≤ n) (hwn : ws.length = n) :
    callF (tab tbl) noCall 42 [.ptr (s.low.length + 1) 5 0, .int .i64 p, .int .i64 off, .int .i64 v] (frm s [o0, o1, o2, o3, .arr 3 1 ws 0 0, .box 26 [.slr (s.low.length + 1) 4 0 n 0 false, .int .i64 half, .int .i64 low, .int .i64 next, .imm true 0 []]]) =
      some (.bool true, frm s [o0, o1, o2, o3, .arr 3 1 (ws.take (p + off).toNat ++ [.int .i64 v] ++ ws.drop ((p + off).toNat + 1)) 0 0, .box 26 [.slr (s.low.length + 1) 4 0 n 0 false, .int .i64 half, .int .i64 low, .int .i64 next, .slr (s.low.length + 1) 6 0 1 0 false], .arr 99 3 [.int .i64 (p + off), .int .i64 low, .int .i64 next] 0 0]) := by
  have ht := touch_first (s := s) (o0 := o0) (o1 := o1) (o2 := o2) (o3 := o3) (o4 := .arr 3 1 ws 0 0) (w := .slr (s.low.length + 1) 4 0 n 0 false) (half := half) h1 h2 hin
  unfold inB at hin
  simp only [decide_eq_true_eq] at hin
  obtain ⟨i1, i2, i3, i4⟩ := hin
  have hw2 : IntKind.i64.wrap (p + off) = p + off := wrap_id (by omega) (by omega)
  have hA : (0 ≤ p + off ∧ p + off < n) := by omega
  have hB : (p + off).toNat + 1 ≤ ws.length := by omega
  apply funI (fc := c42) rfl (by simp only [c42, push_cast, reduceCtorEq, Nat.reduceAdd, Nat.reduceSub, Nat.reduceMul, Nat.reduceLeDiff, Nat.reduceLT, Nat.reduceEqDiff, Int.reduceToNat, Int.reduceLT, Int.reduceLE, Int.reduceBEq, Int.reduceEq, Int.reduceSub, Int.reduceAdd, Int.reduceMul, Int.reduceNeg, fillL, repL, ht, hw2, hA, hB]; rfl)
  · simp only [c42, st0, push_frm, if_false, if_true, Bool.false_eq_true, Nat.reduceSub, List.replicate, List.cons_append, List.nil_append, ht, hw2, hA, hB]
    repeat' (first
      | with_reducible exact opsNil
      | with_reducible exact retI
      | with_reducible exact skipI
      | with_reducible exact exitI
      | with_reducible exact if_pos rfl
      | with_reducible exact if_neg (by decide)
      | (with_reducible apply seqI)
      | (with_reducible apply regI)
      | (with_reducible apply regD)
      | with_reducible exact trNil
      | (with_reducible apply blockI)
      | (with_reducible apply condT; focus (simp only [push_cast, reduceCtorEq, Nat.reduceAdd, Nat.reduceSub, Nat.reduceMul, Nat.reduceLeDiff, Nat.reduceLT, Nat.reduceEqDiff, Int.reduceToNat, Int.reduceLT, Int.reduceLE, Int.reduceBEq, Int.reduceEq, Int.reduceSub, Int.reduceAdd, Int.reduceMul, Int.reduceNeg, fillL, repL, ht, hw2, hA, hB]; done))
      | (with_reducible apply condF; focus (simp only [push_cast, reduceCtorEq, Nat.reduceAdd, Nat.reduceSub, Nat.reduceMul, Nat.reduceLeDiff, Nat.reduceLT, Nat.reduceEqDiff, Int.reduceToNat, Int.reduceLT, Int.reduceLE, Int.reduceBEq, Int.reduceEq, Int.reduceSub, Int.reduceAdd, Int.reduceMul, Int.reduceNeg, fillL, repL, ht, hw2, hA, hB]; done))
      | (with_reducible apply opsCons (by simp only [push_cast, reduceCtorEq, Nat.reduceAdd, Nat.reduceSub, Nat.reduceMul, Nat.reduceLeDiff, Nat.reduceLT, Nat.reduceEqDiff, Int.reduceToNat, Int.reduceLT, Int.reduceLE, Int.reduceBEq, Int.reduceEq, Int.reduceSub, Int.reduceAdd, Int.reduceMul, Int.reduceNeg, fillL, repL, frm_get, frm_set, set_set, ht, hw2, hA, hB]; rfl); dsimp only [List.cons_append, List.nil_append, putV, List.set])
      | (with_reducible apply trCons (by simp only [push_cast, reduceCtorEq, Nat.reduceAdd, Nat.reduceSub, Nat.reduceMul, Nat.reduceLeDiff, Nat.reduceLT, Nat.reduceEqDiff, Int.reduceToNat, Int.reduceLT, Int.reduceLE, Int.reduceBEq, Int.reduceEq, Int.reduceSub, Int.reduceAdd, Int.reduceMul, Int.reduceNeg, fillL, repL, frm_get, frm_set, set_set, ht, hw2, hA, hB]; rfl); dsimp only [List.cons_append, List.nil_append, putV, List.set])
      | (simp only [List.getLast?_cons_cons, List.getLast?_singleton]; rfl)
      | (refine (?_ : List.all _ _ = true); simp only [chkOne, noCall, same_self, push_cast, reduceCtorEq, Nat.reduceAdd, Nat.reduceSub, Nat.reduceMul, Nat.reduceLeDiff, Nat.reduceLT, Nat.reduceEqDiff, Int.reduceToNat, Int.reduceLT, Int.reduceLE, Int.reduceBEq, Int.reduceEq, Int.reduceSub, Int.reduceAdd, Int.reduceMul, Int.reduceNeg, fillL, repL, frm_get, frm_set, set_set, ht, hw2, hA, hB]; done)
      | (dsimp only))
  · simp only [c42, push_cast, reduceCtorEq, Nat.reduceAdd, Nat.reduceSub, Nat.reduceMul, Nat.reduceLeDiff, Nat.reduceLT, Nat.reduceEqDiff, Int.reduceToNat, Int.reduceLT, Int.reduceLE, Int.reduceBEq, Int.reduceEq, Int.reduceSub, Int.reduceAdd, Int.reduceMul, Int.reduceNeg, fillL, repL, frm_get, frm_set, set_set, ht, hw2, hA, hB]
set_option maxHeartbeats 4000000 in
theorem store_more {s : Store} {o0 o1 o2 o3 : Ae.Obj} {ws : List AV} {n : Nat} {half low next p off v : Int} {m : Nat} {ls : List AV} (h1 : 0 ≤ low) (h2 : next ≤ 1000000) (hin : inB low next p off = true) (hn : next ≤ n) (hwn : ws.length = n) (hm : m < 4000) (hl : ls.length = m * 3) :
    callF (tab tbl) noCall 42 [.ptr (s.low.length + 1) 6 0, .int .i64 p, .int .i64 off, .int .i64 v] (frm s [o0, o1, o2, o3, .arr 3 1 ws 0 0, .arr 99 3 ls 0 0, .box 26 [.slr (s.low.length + 1) 4 0 n 0 false, .int .i64 half, .int .i64 low, .int .i64 next, .slr (s.low.length + 1) 5 0 m 0 false]]) =
      some (.bool true, frm s [o0, o1, o2, o3, .arr 3 1 (ws.take (p + off).toNat ++ [.int .i64 v] ++ ws.drop ((p + off).toNat + 1)) 0 0, .arr 99 3 (ls ++ [.int .i64 (p + off), .int .i64 low, .int .i64 next]) 1 0, .box 26 [.slr (s.low.length + 1) 4 0 n 0 false, .int .i64 half, .int .i64 low, .int .i64 next, .slr (s.low.length + 1) 5 0 (m + 1) 1 false]]) := by
  have ht := touch_more (s := s) (o0 := o0) (o1 := o1) (o2 := o2) (o3 := o3) (o4 := .arr 3 1 ws 0 0) (w := .slr (s.low.length + 1) 4 0 n 0 false) (half := half) h1 h2 hin hm hl
  unfold inB at hin
  simp only [decide_eq_true_eq] at hin
  obtain ⟨i1, i2, i3, i4⟩ := hin
  have hw2 : IntKind.i64.wrap (p + off) = p + off := wrap_id (by omega) (by omega)
  have hA : (0 ≤ p + off ∧ p + off < n) := by omega
  have hB : (p + off).toNat + 1 ≤ ws.length := by omega
  apply funI (fc := c42) rfl (by simp only [c42, push_cast, reduceCtorEq, Nat.reduceAdd, Nat.reduceSub, Nat.reduceMul, Nat.reduceLeDiff, Nat.reduceLT, Nat.reduceEqDiff, Int.reduceToNat, Int.reduceLT, Int.reduceLE, Int.reduceBEq, Int.reduceEq, Int.reduceSub, Int.reduceAdd, Int.reduceMul, Int.reduceNeg, fillL, repL, ht, hw2, hA, hB]; rfl)
  · simp only [c42, st0, push_frm, if_false, if_true, Bool.false_eq_true, Nat.reduceSub, List.replicate, List.cons_append, List.nil_append, ht, hw2, hA, hB]
    repeat' (first
      | with_reducible exact opsNil
      | with_reducible exact retI
      | with_reducible exact skipI
      | with_reducible exact exitI
      | with_reducible exact if_pos rfl
      | with_reducible exact if_neg (by decide)
      | (with_reducible apply seqI)
      | (with_reducible apply regI)
      | (with_reducible apply regD)
      | with_reducible exact trNil
      | (with_reducible apply blockI)
      | (with_reducible apply condT; focus (simp only [push_cast, reduceCtorEq, Nat.reduceAdd, Nat.reduceSub, Nat.reduceMul, Nat.reduceLeDiff, Nat.reduceLT, Nat.reduceEqDiff, Int.reduceToNat, Int.reduceLT, Int.reduceLE, Int.reduceBEq, Int.reduceEq, Int.reduceSub, Int.reduceAdd, Int.reduceMul, Int.reduceNeg, fillL, repL, ht, hw2, hA, hB]; done))
      | (with_reducible apply condF; focus (simp only [push_cast, reduceCtorEq, Nat.reduceAdd, Nat.reduceSub, Nat.reduceMul, Nat.reduceLeDiff, Nat.reduceLT, Nat.reduceEqDiff, Int.reduceToNat, Int.reduceLT, Int.reduceLE, Int.reduceBEq, Int.reduceEq, Int.reduceSub, Int.reduceAdd, Int.reduceMul, Int.reduceNeg, fillL, repL, ht, hw2, hA, hB]; done))
      | (with_reducible apply opsCons (by simp only [push_cast, reduceCtorEq, Nat.reduceAdd, Nat.reduceSub, Nat.reduceMul, Nat.reduceLeDiff, Nat.reduceLT, Nat.reduceEqDiff, Int.reduceToNat, Int.reduceLT, Int.reduceLE, Int.reduceBEq, Int.reduceEq, Int.reduceSub, Int.reduceAdd, Int.reduceMul, Int.reduceNeg, fillL, repL, frm_get, frm_set, set_set, ht, hw2, hA, hB]; rfl); dsimp only [List.cons_append, List.nil_append, putV, List.set])
      | (with_reducible apply trCons (by simp only [push_cast, reduceCtorEq, Nat.reduceAdd, Nat.reduceSub, Nat.reduceMul, Nat.reduceLeDiff, Nat.reduceLT, Nat.reduceEqDiff, Int.reduceToNat, Int.reduceLT, Int.reduceLE, Int.reduceBEq, Int.reduceEq, Int.reduceSub, Int.reduceAdd, Int.reduceMul, Int.reduceNeg, fillL, repL, frm_get, frm_set, set_set, ht, hw2, hA, hB]; rfl); dsimp only [List.cons_append, List.nil_append, putV, List.set])
      | (simp only [List.getLast?_cons_cons, List.getLast?_singleton]; rfl)
      | (refine (?_ : List.all _ _ = true); simp only [chkOne, noCall, same_self, push_cast, reduceCtorEq, Nat.reduceAdd, Nat.reduceSub, Nat.reduceMul, Nat.reduceLeDiff, Nat.reduceLT, Nat.reduceEqDiff, Int.reduceToNat, Int.reduceLT, Int.reduceLE, Int.reduceBEq, Int.reduceEq, Int.reduceSub, Int.reduceAdd, Int.reduceMul, Int.reduceNeg, fillL, repL, frm_get, frm_set, set_set, ht, hw2, hA, hB]; done)
      | (dsimp only))
  · simp only [c42, push_cast, reduceCtorEq, Nat.reduceAdd, Nat.reduceSub, Nat.reduceMul, Nat.reduceLeDiff, Nat.reduceLT, Nat.reduceEqDiff, Int.reduceToNat, Int.reduceLT, Int.reduceLE, Int.reduceBEq, Int.reduceEq, Int.reduceSub, Int.reduceAdd, Int.reduceMul, Int.reduceNeg, fillL, repL, frm_get, frm_set, set_set, ht, hw2, hA, hB]
set_option maxHeartbeats 4000000 in
theorem store_full {s : Store} {o0 o1 o2 o3 : Ae.Obj} {ws : List AV} {n : Nat} {half low next p off v : Int} {m : Nat} {ls : List AV} (h1 : 0 ≤ low) (h2 : next ≤ 1000000) (hin : inB low next p off = true) (hn : next ≤ n) (hwn : ws.length = n) (hm : m = 4000) (hl : ls.length = m * 3) :
    callF (tab tbl) noCall 42 [.ptr (s.low.length + 1) 6 0, .int .i64 p, .int .i64 off, .int .i64 v] (frm s [o0, o1, o2, o3, .arr 3 1 ws 0 0, .arr 99 3 ls 0 0, .box 26 [.slr (s.low.length + 1) 4 0 n 0 false, .int .i64 half, .int .i64 low, .int .i64 next, .slr (s.low.length + 1) 5 0 m 0 false]]) =
      some (.bool true, frm s [o0, o1, o2, o3, .arr 3 1 (ws.take (p + off).toNat ++ [.int .i64 v] ++ ws.drop ((p + off).toNat + 1)) 0 0, .arr 99 3 (ls.drop 3 ++ [.int .i64 (p + off), .int .i64 low, .int .i64 next]) 1 0, .box 26 [.slr (s.low.length + 1) 4 0 n 0 false, .int .i64 half, .int .i64 low, .int .i64 next, .slr (s.low.length + 1) 5 0 4000 1 false]]) := by
  have ht := touch_full (s := s) (o0 := o0) (o1 := o1) (o2 := o2) (o3 := o3) (o4 := .arr 3 1 ws 0 0) (w := .slr (s.low.length + 1) 4 0 n 0 false) (half := half) h1 h2 hin hm hl
  unfold inB at hin
  simp only [decide_eq_true_eq] at hin
  obtain ⟨i1, i2, i3, i4⟩ := hin
  have hw2 : IntKind.i64.wrap (p + off) = p + off := wrap_id (by omega) (by omega)
  have hA : (0 ≤ p + off ∧ p + off < n) := by omega
  have hB : (p + off).toNat + 1 ≤ ws.length := by omega
  apply funI (fc := c42) rfl (by simp only [c42, push_cast, reduceCtorEq, Nat.reduceAdd, Nat.reduceSub, Nat.reduceMul, Nat.reduceLeDiff, Nat.reduceLT, Nat.reduceEqDiff, Int.reduceToNat, Int.reduceLT, Int.reduceLE, Int.reduceBEq, Int.reduceEq, Int.reduceSub, Int.reduceAdd, Int.reduceMul, Int.reduceNeg, fillL, repL, ht, hw2, hA, hB]; rfl)
  · simp only [c42, st0, push_frm, if_false, if_true, Bool.false_eq_true, Nat.reduceSub, List.replicate, List.cons_append, List.nil_append, ht, hw2, hA, hB]
    repeat' (first
      | with_reducible exact opsNil
      | with_reducible exact retI
      | with_reducible exact skipI
      | with_reducible exact exitI
      | with_reducible exact if_pos rfl
      | with_reducible exact if_neg (by decide)
      | (with_reducible apply seqI)
      | (with_reducible apply regI)
      | (with_reducible apply regD)
      | with_reducible exact trNil
      | (with_reducible apply blockI)
      | (with_reducible apply condT; focus (simp only [push_cast, reduceCtorEq, Nat.reduceAdd, Nat.reduceSub, Nat.reduceMul, Nat.reduceLeDiff, Nat.reduceLT, Nat.reduceEqDiff, Int.reduceToNat, Int.reduceLT, Int.reduceLE, Int.reduceBEq, Int.reduceEq, Int.reduceSub, Int.reduceAdd, Int.reduceMul, Int.reduceNeg, fillL, repL, ht, hw2, hA, hB]; done))
      | (with_reducible apply condF; focus (simp only [push_cast, reduceCtorEq, Nat.reduceAdd, Nat.reduceSub, Nat.reduceMul, Nat.reduceLeDiff, Nat.reduceLT, Nat.reduceEqDiff, Int.reduceToNat, Int.reduceLT, Int.reduceLE, Int.reduceBEq, Int.reduceEq, Int.reduceSub, Int.reduceAdd, Int.reduceMul, Int.reduceNeg, fillL, repL, ht, hw2, hA, hB]; done))
      | (with_reducible apply opsCons (by simp only [push_cast, reduceCtorEq, Nat.reduceAdd, Nat.reduceSub, Nat.reduceMul, Nat.reduceLeDiff, Nat.reduceLT, Nat.reduceEqDiff, Int.reduceToNat, Int.reduceLT, Int.reduceLE, Int.reduceBEq, Int.reduceEq, Int.reduceSub, Int.reduceAdd, Int.reduceMul, Int.reduceNeg, fillL, repL, frm_get, frm_set, set_set, ht, hw2, hA, hB]; rfl); dsimp only [List.cons_append, List.nil_append, putV, List.set])
      | (with_reducible apply trCons (by simp only [push_cast, reduceCtorEq, Nat.reduceAdd, Nat.reduceSub, Nat.reduceMul, Nat.reduceLeDiff, Nat.reduceLT, Nat.reduceEqDiff, Int.reduceToNat, Int.reduceLT, Int.reduceLE, Int.reduceBEq, Int.reduceEq, Int.reduceSub, Int.reduceAdd, Int.reduceMul, Int.reduceNeg, fillL, repL, frm_get, frm_set, set_set, ht, hw2, hA, hB]; rfl); dsimp only [List.cons_append, List.nil_append, putV, List.set])
      | (simp only [List.getLast?_cons_cons, List.getLast?_singleton]; rfl)
      | (refine (?_ : List.all _ _ = true); simp only [chkOne, noCall, same_self, push_cast, reduceCtorEq, Nat.reduceAdd, Nat.reduceSub, Nat.reduceMul, Nat.reduceLeDiff, Nat.reduceLT, Nat.reduceEqDiff, Int.reduceToNat, Int.reduceLT, Int.reduceLE, Int.reduceBEq, Int.reduceEq, Int.reduceSub, Int.reduceAdd, Int.reduceMul, Int.reduceNeg, fillL, repL, frm_get, frm_set, set_set, ht, hw2, hA, hB]; done)
      | (dsimp only))
  · simp only [c42, push_cast, reduceCtorEq, Nat.reduceAdd, Nat.reduceSub, Nat.reduceMul, Nat.reduceLeDiff, Nat.reduceLT, Nat.reduceEqDiff, Int.reduceToNat, Int.reduceLT, Int.reduceLE, Int.reduceBEq, Int.reduceEq, Int.reduceSub, Int.reduceAdd, Int.reduceMul, Int.reduceNeg, fillL, repL, frm_get, frm_set, set_set, ht, hw2, hA, hB]
set_option maxHeartbeats 4000000 in
theorem load_first {s : Store} {o0 o1 o2 o3 : Ae.Obj} {ws : List AV} {n : Nat} {half low next p off x : Int} (h1 : 0 ≤ low) (h2 : next ≤ 1000000) (hin : inB low next p off = true) (hn : next ≤ n) (hwn : ws.length = n) (hx : ws[(p + off).toNat]? = some (.int .i64 x)) :
    callF (tab tbl) noCall 43 [.ptr (s.low.length + 1) 5 0, .int .i64 p, .int .i64 off] (frm s [o0, o1, o2, o3, .arr 3 1 ws 0 0, .box 26 [.slr (s.low.length + 1) 4 0 n 0 false, .int .i64 half, .int .i64 low, .int .i64 next, .imm true 0 []]]) =
      some (.tup [.int .i64 x, .bool true], frm s [o0, o1, o2, o3, .arr 3 1 ws 0 0, .box 26 [.slr (s.low.length + 1) 4 0 n 0 false, .int .i64 half, .int .i64 low, .int .i64 next, .slr (s.low.length + 1) 6 0 1 0 false], .arr 99 3 [.int .i64 (p + off), .int .i64 low, .int .i64 next] 0 0]) := by
  have ht := touch_first (s := s) (o0 := o0) (o1 := o1) (o2 := o2) (o3 := o3) (o4 := .arr 3 1 ws 0 0) (w := .slr (s.low.length + 1) 4 0 n 0 false) (half := half) h1 h2 hin
  unfold inB at hin
  simp only [decide_eq_true_eq] at hin
  obtain ⟨i1, i2, i3, i4⟩ := hin
  have hw2 : IntKind.i64.wrap (p + off) = p + off := wrap_id (by omega) (by omega)
  have hA : (0 ≤ p + off ∧ p + off < n) := by omega
  apply funI (fc := c43) rfl (by simp only [c43, push_cast, reduceCtorEq, Nat.reduceAdd, Nat.reduceSub, Nat.reduceMul, Nat.reduceLeDiff, Nat.reduceLT, Nat.reduceEqDiff, Int.reduceToNat, Int.reduceLT, Int.reduceLE, Int.reduceBEq, Int.reduceEq, Int.reduceSub, Int.reduceAdd, Int.reduceMul, Int.reduceNeg, fillL, repL, ht, hw2, hA, hx]; rfl)
  · simp only [c43, st0, push_frm, if_false, if_true, Bool.false_eq_true, Nat.reduceSub, List.replicate, List.cons_append, List.nil_append, ht, hw2, hA, hx]
    repeat' (first
      | with_reducible exact opsNil
      | with_reducible exact retI
      | with_reducible exact skipI
      | with_reducible exact exitI
      | with_reducible exact if_pos rfl
      | with_reducible exact if_neg (by decide)
      | (with_reducible apply seqI)
      | (with_reducible apply regI)
      | (with_reducible apply regD)
      | with_reducible exact trNil
      | (with_reducible apply blockI)
      | (with_reducible apply condT; focus (simp only [push_cast, reduceCtorEq, Nat.reduceAdd, Nat.reduceSub, Nat.reduceMul, Nat.reduceLeDiff, Nat.reduceLT, Nat.reduceEqDiff, Int.reduceToNat, Int.reduceLT, Int.reduceLE, Int.reduceBEq, Int.reduceEq, Int.reduceSub, Int.reduceAdd, Int.reduceMul, Int.reduceNeg, fillL, repL, ht, hw2, hA, hx]; done))
      | (with_reducible apply condF; focus (simp only [push_cast, reduceCtorEq, Nat.reduceAdd, Nat.reduceSub, Nat.reduceMul, Nat.reduceLeDiff, Nat.reduceLT, Nat.reduceEqDiff, Int.reduceToNat, Int.reduceLT, Int.reduceLE, Int.reduceBEq, Int.reduceEq, Int.reduceSub, Int.reduceAdd, Int.reduceMul, Int.reduceNeg, fillL, repL, ht, hw2, hA, hx]; done))
      | (with_reducible apply opsCons (by simp only [push_cast, reduceCtorEq, Nat.reduceAdd, Nat.reduceSub, Nat.reduceMul, Nat.reduceLeDiff, Nat.reduceLT, Nat.reduceEqDiff, Int.reduceToNat, Int.reduceLT, Int.reduceLE, Int.reduceBEq, Int.reduceEq, Int.reduceSub, Int.reduceAdd, Int.reduceMul, Int.reduceNeg, fillL, repL, frm_get, frm_set, set_set, ht, hw2, hA, hx]; rfl); dsimp only [List.cons_append, List.nil_append, putV, List.set])
      | (with_reducible apply trCons (by simp only [push_cast, reduceCtorEq, Nat.reduceAdd, Nat.reduceSub, Nat.reduceMul, Nat.reduceLeDiff, Nat.reduceLT, Nat.reduceEqDiff, Int.reduceToNat, Int.reduceLT, Int.reduceLE, Int.reduceBEq, Int.reduceEq, Int.reduceSub, Int.reduceAdd, Int.reduceMul, Int.reduceNeg, fillL, repL, frm_get, frm_set, set_set, ht, hw2, hA, hx]; rfl); dsimp only [List.cons_append, List.nil_append, putV, List.set])
      | (simp only [List.getLast?_cons_cons, List.getLast?_singleton]; rfl)
      | (refine (?_ : List.all _ _ = true); simp only [chkOne, noCall, same_self, push_cast, reduceCtorEq, Nat.reduceAdd, Nat.reduceSub, Nat.reduceMul, Nat.reduceLeDiff, Nat.reduceLT, Nat.reduceEqDiff, Int.reduceToNat, Int.reduceLT, Int.reduceLE, Int.reduceBEq, Int.reduceEq, Int.reduceSub, Int.reduceAdd, Int.reduceMul, Int.reduceNeg, fillL, repL, frm_get, frm_set, set_set, ht, hw2, hA, hx]; done)
      | (dsimp only))
  · simp only [c43, push_cast, reduceCtorEq, Nat.reduceAdd, Nat.reduceSub, Nat.reduceMul, Nat.reduceLeDiff, Nat.reduceLT, Nat.reduceEqDiff, Int.reduceToNat, Int.reduceLT, Int.reduceLE, Int.reduceBEq, Int.reduceEq, Int.reduceSub, Int.reduceAdd, Int.reduceMul, Int.reduceNeg, fillL, repL, frm_get, frm_set, set_set, ht, hw2, hA, hx]
set_option maxHeartbeats 4000000 in
theorem load_more {s : Store} {o0 o1 o2 o3 : Ae.Obj} {ws : List AV} {n : Nat} {half low next p off x : Int} {m : Nat} {ls : List AV} (h1 : 0 ≤ low) (h2 : next ≤ 1000000) (hin : inB low next p off = true) (hn : next ≤ n) (hwn : ws.length = n) (hm : m < 4000) (hl : ls.length = m * 3) (hx : ws[(p + off).toNat]? = some (.int .i64 x)) :
    callF (tab tbl) noCall 43 [.ptr (s.low.length + 1) 6 0, .int .i64 p, .int .i64 off] (frm s [o0, o1, o2, o3, .arr 3 1 ws 0 0, .arr 99 3 ls 0 0, .box 26 [.slr (s.low.length + 1) 4 0 n 0 false, .int .i64 half, .int .i64 low, .int .i64 next, .slr (s.low.length + 1) 5 0 m 0 false]]) =
      some (.tup [.int .i64 x, .bool true], frm s [o0, o1, o2, o3, .arr 3 1 ws 0 0, .arr 99 3 (ls ++ [.int .i64 (p + off), .int .i64 low, .int .i64 next]) 1 0, .box 26 [.slr (s.low.length + 1) 4 0 n 0 false, .int .i64 half, .int .i64 low, .int .i64 next, .slr (s.low.length + 1) 5 0 (m + 1) 1 false]]) := by
  have ht := touch_more (s := s) (o0 := o0) (o1 := o1) (o2 := o2) (o3 := o3) (o4 := .arr 3 1 ws 0 0) (w := .slr (s.low.length + 1) 4 0 n 0 false) (half := half) h1 h2 hin hm hl
  unfold inB at hin
  simp only [decide_eq_true_eq] at hin
  obtain ⟨i1, i2, i3, i4⟩ := hin
  have hw2 : IntKind.i64.wrap (p + off) = p + off := wrap_id (by omega) (by omega)
  have hA : (0 ≤ p + off ∧ p + off < n) := by omega
  apply funI (fc := c43) rfl (by simp only [c43, push_cast, reduceCtorEq, Nat.reduceAdd, Nat.reduceSub, Nat.reduceMul, Nat.reduceLeDiff, Nat.reduceLT, Nat.reduceEqDiff, Int.reduceToNat, Int.reduceLT, Int.reduceLE, Int.reduceBEq, Int.reduceEq, Int.reduceSub, Int.reduceAdd, Int.reduceMul, Int.reduceNeg, fillL, repL, ht, hw2, hA, hx]; rfl)
  · simp only [c43, st0, push_frm, if_false, if_true, Bool.false_eq_true, Nat.reduceSub, List.replicate, List.cons_append, List.nil_append, ht, hw2, hA, hx]
    repeat' (first
      | with_reducible exact opsNil
      | with_reducible exact retI
      | with_reducible exact skipI
      | with_reducible exact exitI
      | with_reducible exact if_pos rfl
      | with_reducible exact if_neg (by decide)
      | (with_reducible apply seqI)
      | (with_reducible apply regI)
      | (with_reducible apply regD)
      | with_reducible exact trNil
      | (with_reducible apply blockI)
      | (with_reducible apply condT; focus (simp only [push_cast, reduceCtorEq, Nat.reduceAdd, Nat.reduceSub, Nat.reduceMul, Nat.reduceLeDiff, Nat.reduceLT, Nat.reduceEqDiff, Int.reduceToNat, Int.reduceLT, Int.reduceLE, Int.reduceBEq, Int.reduceEq, Int.reduceSub, Int.reduceAdd, Int.reduceMul, Int.reduceNeg, fillL, repL, ht, hw2, hA, hx]; done))
      | (with_reducible apply condF; focus (simp only [push_cast, reduceCtorEq, Nat.reduceAdd, Nat.reduceSub, Nat.reduceMul, Nat.reduceLeDiff, Nat.reduceLT, Nat.reduceEqDiff, Int.reduceToNat, Int.reduceLT, Int.reduceLE, Int.reduceBEq, Int.reduceEq, Int.reduceSub, Int.reduceAdd, Int.reduceMul, Int.reduceNeg, fillL, repL, ht, hw2, hA, hx]; done))
      | (with_reducible apply opsCons (by simp only [push_cast, reduceCtorEq, Nat.reduceAdd, Nat.reduceSub, Nat.reduceMul, Nat.reduceLeDiff, Nat.reduceLT, Nat.reduceEqDiff, Int.reduceToNat, Int.reduceLT, Int.reduceLE, Int.reduceBEq, Int.reduceEq, Int.reduceSub, Int.reduceAdd, Int.reduceMul, Int.reduceNeg, fillL, repL, frm_get, frm_set, set_set, ht, hw2, hA, hx]; rfl); dsimp only [List.cons_append, List.nil_append, putV, List.set])
      | (with_reducible apply trCons (by simp only [push_cast, reduceCtorEq, Nat.reduceAdd, Nat.reduceSub, Nat.reduceMul, Nat.reduceLeDiff, Nat.reduceLT, Nat.reduceEqDiff, Int.reduceToNat, Int.reduceLT, Int.reduceLE, Int.reduceBEq, Int.reduceEq, Int.reduceSub, Int.reduceAdd, Int.reduceMul, Int.reduceNeg, fillL, repL, frm_get, frm_set, set_set, ht, hw2, hA, hx]; rfl); dsimp only [List.cons_append, List.nil_append, putV, List.set])
      | (simp only [List.getLast?_cons_cons, List.getLast?_singleton]; rfl)
      | (refine (?_ : List.all _ _ = true); simp only [chkOne, noCall, same_self, push_cast, reduceCtorEq, Nat.reduceAdd, Nat.reduceSub, Nat.reduceMul, Nat.reduceLeDiff, Nat.reduceLT, Nat.reduceEqDiff, Int.reduceToNat, Int.reduceLT, Int.reduceLE, Int.reduceBEq, Int.reduceEq, Int.reduceSub, Int.reduceAdd, Int.reduceMul, Int.reduceNeg, fillL, repL, frm_get, frm_set, set_set, ht, hw2, hA, hx]; done)
      | (dsimp only))
  · simp only [c43, push_cast, reduceCtorEq, Nat.reduceAdd, Nat.reduceSub, Nat.reduceMul, Nat.reduceLeDiff, Nat.reduceLT, Nat.reduceEqDiff, Int.reduceToNat, Int.reduceLT, Int.reduceLE, Int.reduceBEq, Int.reduceEq, Int.reduceSub, Int.reduceAdd, Int.reduceMul, Int.reduceNeg, fillL, repL, frm_get, frm_set, set_set, ht, hw2, hA, hx]
set_option maxHeartbeats 4000000 in
theorem load_full {s : Store} {o0 o1 o2 o3 : Ae.Obj} {ws : List AV} {n : Nat} {half low next p off x : Int} {m : Nat} {ls : List AV} (h1 : 0 ≤ low) (h2 : next ≤ 1000000) (hin : inB low next p off = true) (hn : next ≤ n) (hwn : ws.length = n) (hm : m = 4000) (hl : ls.length = m * 3) (hx : ws[(p + off).toNat]? = some (.int .i64 x)) :
    callF (tab tbl) noCall 43 [.ptr (s.low.length + 1) 6 0, .int .i64 p, .int .i64 off] (frm s [o0, o1, o2, o3, .arr 3 1 ws 0 0, .arr 99 3 ls 0 0, .box 26 [.slr (s.low.length + 1) 4 0 n 0 false, .int .i64 half, .int .i64 low, .int .i64 next, .slr (s.low.length + 1) 5 0 m 0 false]]) =
      some (.tup [.int .i64 x, .bool true], frm s [o0, o1, o2, o3, .arr 3 1 ws 0 0, .arr 99 3 (ls.drop 3 ++ [.int .i64 (p + off), .int .i64 low, .int .i64 next]) 1 0, .box 26 [.slr (s.low.length + 1) 4 0 n 0 false, .int .i64 half, .int .i64 low, .int .i64 next, .slr (s.low.length + 1) 5 0 4000 1 false]]) := by
  have ht := touch_full (s := s) (o0 := o0) (o1 := o1) (o2 := o2) (o3 := o3) (o4 := .arr 3 1 ws 0 0) (w := .slr (s.low.length + 1) 4 0 n 0 false) (half := half) h1 h2 hin hm hl
  unfold inB at hin
  simp only [decide_eq_true_eq] at hin
  obtain ⟨i1, i2, i3, i4⟩ := hin
  have hw2 : IntKind.i64.wrap (p + off) = p + off := wrap_id (by omega) (by omega)
  have hA : (0 ≤ p + off ∧ p + off < n) := by omega
  apply funI (fc := c43) rfl (by simp only [c43, push_cast, reduceCtorEq, Nat.reduceAdd, Nat.reduceSub, Nat.reduceMul, Nat.reduceLeDiff, Nat.reduceLT, Nat.reduceEqDiff, Int.reduceToNat, Int.reduceLT, Int.reduceLE, Int.reduceBEq, Int.reduceEq, Int.reduceSub, Int.reduceAdd, Int.reduceMul, Int.reduceNeg, fillL, repL, ht, hw2, hA, hx]; rfl)
  · simp only [c43, st0, push_frm, if_false, if_true, Bool.false_eq_true, Nat.reduceSub, List.replicate, List.cons_append, List.nil_append, ht, hw2, hA, hx]
    repeat' (first
      | with_reducible exact opsNil
      | with_reducible exact retI
      | with_reducible exact skipI
      | with_reducible exact exitI
      | with_reducible exact if_pos rfl
      | with_reducible exact if_neg (by decide)
      | (with_reducible apply seqI)
      | (with_reducible apply regI)
      | (with_reducible apply regD)
      | with_reducible exact trNil
      | (with_reducible apply blockI)
      | (with_reducible apply condT; focus (simp only [push_cast, reduceCtorEq, Nat.reduceAdd, Nat.reduceSub, Nat.reduceMul, Nat.reduceLeDiff, Nat.reduceLT, Nat.reduceEqDiff, Int.reduceToNat, Int.reduceLT, Int.reduceLE, Int.reduceBEq, Int.reduceEq, Int.reduceSub, Int.reduceAdd, Int.reduceMul, Int.reduceNeg, fillL, repL, ht, hw2, hA, hx]; done))
      | (with_reducible apply condF; focus (simp only [push_cast, reduceCtorEq, Nat.reduceAdd, Nat.reduceSub, Nat.reduceMul, Nat.reduceLeDiff, Nat.reduceLT, Nat.reduceEqDiff, Int.reduceToNat, Int.reduceLT, Int.reduceLE, Int.reduceBEq, Int.reduceEq, Int.reduceSub, Int.reduceAdd, Int.reduceMul, Int.reduceNeg, fillL, repL, ht, hw2, hA, hx]; done))
      | (with_reducible apply opsCons (by simp only [push_cast, reduceCtorEq, Nat.reduceAdd, Nat.reduceSub, Nat.reduceMul, Nat.reduceLeDiff, Nat.reduceLT, Nat.reduceEqDiff, Int.reduceToNat, Int.reduceLT, Int.reduceLE, Int.reduceBEq, Int.reduceEq, Int.reduceSub, Int.reduceAdd, Int.reduceMul, Int.reduceNeg, fillL, repL, frm_get, frm_set, set_set, ht, hw2, hA, hx]; rfl); dsimp only [List.cons_append, List.nil_append, putV, List.set])
      | (with_reducible apply trCons (by simp only [push_cast, reduceCtorEq, Nat.reduceAdd, Nat.reduceSub, Nat.reduceMul, Nat.reduceLeDiff, Nat.reduceLT, Nat.reduceEqDiff, Int.reduceToNat, Int.reduceLT, Int.reduceLE, Int.reduceBEq, Int.reduceEq, Int.reduceSub, Int.reduceAdd, Int.reduceMul, Int.reduceNeg, fillL, repL, frm_get, frm_set, set_set, ht, hw2, hA, hx]; rfl); dsimp only [List.cons_append, List.nil_append, putV, List.set])
      | (simp only [List.getLast?_cons_cons, List.getLast?_singleton]; rfl)
      | (refine (?_ : List.all _ _ = true); simp only [chkOne, noCall, same_self, push_cast, reduceCtorEq, Nat.reduceAdd, Nat.reduceSub, Nat.reduceMul, Nat.reduceLeDiff, Nat.reduceLT, Nat.reduceEqDiff, Int.reduceToNat, Int.reduceLT, Int.reduceLE, Int.reduceBEq, Int.reduceEq, Int.reduceSub, Int.reduceAdd, Int.reduceMul, Int.reduceNeg, fillL, repL, frm_get, frm_set, set_set, ht, hw2, hA, hx]; done)
      | (dsimp only))
  · simp only [c43, push_cast, reduceCtorEq, Nat.reduceAdd, Nat.reduceSub, Nat.reduceMul, Nat.reduceLeDiff, Nat.reduceLT, Nat.reduceEqDiff, Int.reduceToNat, Int.reduceLT, Int.reduceLE, Int.reduceBEq, Int.reduceEq, Int.reduceSub, Int.reduceAdd, Int.reduceMul, Int.reduceNeg, fillL, repL, frm_get, frm_set, set_set, ht, hw2, hA, hx]
end Go.Proofs.Ythogcanomihelaa.Ga
