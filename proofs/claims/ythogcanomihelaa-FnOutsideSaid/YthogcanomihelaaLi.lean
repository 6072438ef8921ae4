/- The program's Store, on whatever heap. -/
import Derived.Test.YthogcanomihelaaLh
set_option linter.unusedSimpArgs false
set_option linter.unusedVariables false
namespace Go.Proofs.Ythogcanomihelaa.Ga
open Go Go.Proofs Go.Proofs.Ythogcanomihelaa.Ae
attribute [local congr] obind_congr
attribute [local push_cast] exF argsV frzs frz frzL frz1 exS_reg exS_seq exS_cond exS_alt exS_block exS_loop exS_exit exS_ret exS_skip evReg evOps evOne evAct evOp rd putV st0 evEnd resV resL resOne oneOr frzR loadV storeV binV binI unV push_frm pop_frm frm_len frm_top frm_get_top frm_set_top frm_new AV.cells AV.lowB AV.lowL AV.isCell cellsOk set_len Option.bind_some Option.map_some Option.map_none List.getD_cons_zero List.getD_cons_succ List.nil_append List.cons_append List.append_nil List.length_cons List.length_nil List.set_cons_zero List.set_cons_succ List.map_cons List.map_nil List.replicate if_true if_false ite_true ite_false ite_self Bool.false_eq_true List.all_cons List.all_nil Bool.and_true Bool.true_and Bool.and_self Bool.and_eq_true List.getElem?_cons_zero List.getElem?_cons_succ List.drop_succ_cons List.drop_zero List.take_succ_cons List.take_zero true_and and_true and_self decide_true decide_false Bool.not_true Bool.not_false Prod.mk.injEq Option.some.injEq List.getElem?_drop optInt elems sliceV partsOf Nat.add_zero Nat.zero_add Nat.mul_one beq_self_eq_true litParts Bool.or_false Bool.false_or Bool.or_true Bool.true_or Bool.false_and Bool.and_false List.cons.injEq not_false_eq_true not_true_eq_false Nat.zero_le Nat.le_refl gt_iff_lt ge_iff_le List.drop_nil List.take_nil newBox List.length_append List.length_map bne_self_eq_false eq_self Nat.lt_add_one ne_eq false_implies Int.le_refl

theorem low_of {D : Nat} : ∀ {cs : List AV}, cellsOk D cs = true → AV.lowL D cs = true
  | [], _ => rfl
  | c :: r, h => by
    simp only [cellsOk, List.all_cons, Bool.and_eq_true] at h
    simp only [AV.lowL, Bool.and_eq_true]
    exact ⟨h.1.2, low_of (by simpa [cellsOk] using h.2)⟩
theorem store_bad (f1 f2 : Bool) (n m : Nat) (ws ls : List AV) (half low next p off v : Int) (s : Store) (hk : hOk half low next n m = false) :
    callF (tab tbl) noCall 8 [heapV f1 n ws half low next f2 m ls, .int .i64 p, .int .i64 off, .int .i64 v] s = some (.tup [heapV false 0 [] 0 0 0 false 0 [], .bool false], s) := by
  unfold heapV
  apply funI (fc := c8) rfl (by simp only [c8, push_cast, reduceCtorEq, Nat.reduceAdd, Nat.reduceSub, Nat.reduceMul, Nat.reduceLeDiff, Nat.reduceLT, Nat.reduceEqDiff, Int.reduceToNat, Int.reduceLT, Int.reduceLE, Int.reduceBEq, Int.reduceEq, Int.reduceSub, Int.reduceAdd, Int.reduceMul, Int.reduceNeg, fillL, repL, implOk', hk]; rfl)
  · simp only [c8, st0, push_frm, if_false, if_true, Bool.false_eq_true, Nat.reduceSub, List.replicate, List.cons_append, List.nil_append, implOk', hk]
    repeat' (first
      | with_reducible exact opsNil
      | with_reducible exact retI
      | with_reducible exact skipI
      | with_reducible exact exitI
      | with_reducible exact if_pos rfl
      | with_reducible exact if_neg (by decide)
      | (with_reducible apply seqI)
      | (with_reducible apply regI)
      | (with_reducible apply regD)
      | with_reducible exact trNil
      | (with_reducible apply blockI)
      | (with_reducible apply condT; focus (simp only [push_cast, reduceCtorEq, Nat.reduceAdd, Nat.reduceSub, Nat.reduceMul, Nat.reduceLeDiff, Nat.reduceLT, Nat.reduceEqDiff, Int.reduceToNat, Int.reduceLT, Int.reduceLE, Int.reduceBEq, Int.reduceEq, Int.reduceSub, Int.reduceAdd, Int.reduceMul, Int.reduceNeg, fillL, repL, implOk', hk]; done))
      | (with_reducible apply condF; focus (simp only [push_cast, reduceCtorEq, Nat.reduceAdd, Nat.reduceSub, Nat.reduceMul, Nat.reduceLeDiff, Nat.reduceLT, Nat.reduceEqDiff, Int.reduceToNat, Int.reduceLT, Int.reduceLE, Int.reduceBEq, Int.reduceEq, Int.reduceSub, Int.reduceAdd, Int.reduceMul, Int.reduceNeg, fillL, repL, implOk', hk]; done))
      | (with_reducible apply opsCons (by simp only [push_cast, reduceCtorEq, Nat.reduceAdd, Nat.reduceSub, Nat.reduceMul, Nat.reduceLeDiff, Nat.reduceLT, Nat.reduceEqDiff, Int.reduceToNat, Int.reduceLT, Int.reduceLE, Int.reduceBEq, Int.reduceEq, Int.reduceSub, Int.reduceAdd, Int.reduceMul, Int.reduceNeg, fillL, repL, frm_get, frm_set, set_set, implOk', hk]; rfl); dsimp only [List.cons_append, List.nil_append, putV, List.set])
      | (with_reducible apply trCons (by simp only [push_cast, reduceCtorEq, Nat.reduceAdd, Nat.reduceSub, Nat.reduceMul, Nat.reduceLeDiff, Nat.reduceLT, Nat.reduceEqDiff, Int.reduceToNat, Int.reduceLT, Int.reduceLE, Int.reduceBEq, Int.reduceEq, Int.reduceSub, Int.reduceAdd, Int.reduceMul, Int.reduceNeg, fillL, repL, frm_get, frm_set, set_set, implOk', hk]; rfl); dsimp only [List.cons_append, List.nil_append, putV, List.set])
      | (simp only [List.getLast?_cons_cons, List.getLast?_singleton]; rfl)
      | (refine (?_ : List.all _ _ = true); simp only [chkOne, noCall, same_self, push_cast, reduceCtorEq, Nat.reduceAdd, Nat.reduceSub, Nat.reduceMul, Nat.reduceLeDiff, Nat.reduceLT, Nat.reduceEqDiff, Int.reduceToNat, Int.reduceLT, Int.reduceLE, Int.reduceBEq, Int.reduceEq, Int.reduceSub, Int.reduceAdd, Int.reduceMul, Int.reduceNeg, fillL, repL, frm_get, frm_set, set_set, implOk', hk]; done)
      | (dsimp only))
  · simp only [c8, push_cast, reduceCtorEq, Nat.reduceAdd, Nat.reduceSub, Nat.reduceMul, Nat.reduceLeDiff, Nat.reduceLT, Nat.reduceEqDiff, Int.reduceToNat, Int.reduceLT, Int.reduceLE, Int.reduceBEq, Int.reduceEq, Int.reduceSub, Int.reduceAdd, Int.reduceMul, Int.reduceNeg, fillL, repL, frm_get, frm_set, set_set, implOk', hk]
theorem load_bad (f1 f2 : Bool) (n m : Nat) (ws ls : List AV) (half low next p off : Int) (s : Store) (hk : hOk half low next n m = false) :
    callF (tab tbl) noCall 9 [heapV f1 n ws half low next f2 m ls, .int .i64 p, .int .i64 off] s = some (.tup [heapV false 0 [] 0 0 0 false 0 [], .int .i64 0, .bool false], s) := by
  unfold heapV
  apply funI (fc := c9) rfl (by simp only [c9, push_cast, reduceCtorEq, Nat.reduceAdd, Nat.reduceSub, Nat.reduceMul, Nat.reduceLeDiff, Nat.reduceLT, Nat.reduceEqDiff, Int.reduceToNat, Int.reduceLT, Int.reduceLE, Int.reduceBEq, Int.reduceEq, Int.reduceSub, Int.reduceAdd, Int.reduceMul, Int.reduceNeg, fillL, repL, implOk', hk]; rfl)
  · simp only [c9, st0, push_frm, if_false, if_true, Bool.false_eq_true, Nat.reduceSub, List.replicate, List.cons_append, List.nil_append, implOk', hk]
    repeat' (first
      | with_reducible exact opsNil
      | with_reducible exact retI
      | with_reducible exact skipI
      | with_reducible exact exitI
      | with_reducible exact if_pos rfl
      | with_reducible exact if_neg (by decide)
      | (with_reducible apply seqI)
      | (with_reducible apply regI)
      | (with_reducible apply regD)
      | with_reducible exact trNil
      | (with_reducible apply blockI)
      | (with_reducible apply condT; focus (simp only [push_cast, reduceCtorEq, Nat.reduceAdd, Nat.reduceSub, Nat.reduceMul, Nat.reduceLeDiff, Nat.reduceLT, Nat.reduceEqDiff, Int.reduceToNat, Int.reduceLT, Int.reduceLE, Int.reduceBEq, Int.reduceEq, Int.reduceSub, Int.reduceAdd, Int.reduceMul, Int.reduceNeg, fillL, repL, implOk', hk]; done))
      | (with_reducible apply condF; focus (simp only [push_cast, reduceCtorEq, Nat.reduceAdd, Nat.reduceSub, Nat.reduceMul, Nat.reduceLeDiff, Nat.reduceLT, Nat.reduceEqDiff, Int.reduceToNat, Int.reduceLT, Int.reduceLE, Int.reduceBEq, Int.reduceEq, Int.reduceSub, Int.reduceAdd, Int.reduceMul, Int.reduceNeg, fillL, repL, implOk', hk]; done))
      | (with_reducible apply opsCons (by simp only [push_cast, reduceCtorEq, Nat.reduceAdd, Nat.reduceSub, Nat.reduceMul, Nat.reduceLeDiff, Nat.reduceLT, Nat.reduceEqDiff, Int.reduceToNat, Int.reduceLT, Int.reduceLE, Int.reduceBEq, Int.reduceEq, Int.reduceSub, Int.reduceAdd, Int.reduceMul, Int.reduceNeg, fillL, repL, frm_get, frm_set, set_set, implOk', hk]; rfl); dsimp only [List.cons_append, List.nil_append, putV, List.set])
      | (with_reducible apply trCons (by simp only [push_cast, reduceCtorEq, Nat.reduceAdd, Nat.reduceSub, Nat.reduceMul, Nat.reduceLeDiff, Nat.reduceLT, Nat.reduceEqDiff, Int.reduceToNat, Int.reduceLT, Int.reduceLE, Int.reduceBEq, Int.reduceEq, Int.reduceSub, Int.reduceAdd, Int.reduceMul, Int.reduceNeg, fillL, repL, frm_get, frm_set, set_set, implOk', hk]; rfl); dsimp only [List.cons_append, List.nil_append, putV, List.set])
      | (simp only [List.getLast?_cons_cons, List.getLast?_singleton]; rfl)
      | (refine (?_ : List.all _ _ = true); simp only [chkOne, noCall, same_self, push_cast, reduceCtorEq, Nat.reduceAdd, Nat.reduceSub, Nat.reduceMul, Nat.reduceLeDiff, Nat.reduceLT, Nat.reduceEqDiff, Int.reduceToNat, Int.reduceLT, Int.reduceLE, Int.reduceBEq, Int.reduceEq, Int.reduceSub, Int.reduceAdd, Int.reduceMul, Int.reduceNeg, fillL, repL, frm_get, frm_set, set_set, implOk', hk]; done)
      | (dsimp only))
  · simp only [c9, push_cast, reduceCtorEq, Nat.reduceAdd, Nat.reduceSub, Nat.reduceMul, Nat.reduceLeDiff, Nat.reduceLT, Nat.reduceEqDiff, Int.reduceToNat, Int.reduceLT, Int.reduceLE, Int.reduceBEq, Int.reduceEq, Int.reduceSub, Int.reduceAdd, Int.reduceMul, Int.reduceNeg, fillL, repL, frm_get, frm_set, set_set, implOk', hk]
set_option maxHeartbeats 4000000 in
theorem Store_first (f1 f2 : Bool) (n : Nat) (ws : List AV) (half low next p off v : Int) (s : Store) (hk : hOk half low next n 0 = true) (hin : inB low next p off = true) (hw : cellsOk 0 ws = true) (hwn : ws.length = n) :
    callF (tab tbl) noCall 8 [heapV f1 n ws half low next f2 0 [], .int .i64 p, .int .i64 off, .int .i64 v] s = some (.tup [heapV false n (ws.take (p + off).toNat ++ [AV.int .i64 v] ++ ws.drop ((p + off).toNat + 1)) half low next false 1 [AV.int .i64 (p + off), AV.int .i64 low, AV.int .i64 next], .bool true], s) := by
  have hk' := hk
  unfold hOk at hk'
  simp only [decide_eq_true_eq] at hk'
  obtain ⟨a1, a2, a3, a4, a5, a6, a7⟩ := hk'
  have e1 := fun o0 o1 => cloneHeap_none (s := s) (o0 := o0) (o1 := o1) (f1 := false) (f2 := false) (n := n) (half := half) (low := low) (next := next) hw (by omega) (by omega) (by omega)
  have e2 := fun o0 o1 o2 o3 => store_first (s := s) (o0 := o0) (o1 := o1) (o2 := o2) (o3 := o3) (ws := ws) (n := n) (half := half) (low := low) (next := next) (p := p) (off := off) (v := v) (by omega) (by omega) hin (by omega) hwn
  have hi := hin
  unfold inB at hi
  simp only [decide_eq_true_eq] at hi
  have hW1 : (ws.take (p + off).toNat ++ [AV.int .i64 v] ++ ws.drop ((p + off).toNat + 1)).length = n := by simp; omega
  have hW2 : AV.lowL 0 (ws.take (p + off).toNat ++ [AV.int .i64 v] ++ ws.drop ((p + off).toNat + 1)) = true := low_of (cellsOk_splice hw rfl _ _)
  generalize ws.take (p + off).toNat ++ [AV.int .i64 v] ++ ws.drop ((p + off).toNat + 1) = W at e2 hW1 hW2 ⊢
  have hW3 : List.take n W = W := List.take_of_length_le (by omega)
  have hW4 : n ≤ W.length := by omega
  unfold heapV
  apply funI (fc := c8) rfl (by simp only [c8, push_cast, reduceCtorEq, Nat.reduceAdd, Nat.reduceSub, Nat.reduceMul, Nat.reduceLeDiff, Nat.reduceLT, Nat.reduceEqDiff, Int.reduceToNat, Int.reduceLT, Int.reduceLE, Int.reduceBEq, Int.reduceEq, Int.reduceSub, Int.reduceAdd, Int.reduceMul, Int.reduceNeg, fillL, repL, implOk', hk, e1, e2, hW2, hW3, hW4]; rfl)
  · simp only [c8, st0, push_frm, if_false, if_true, Bool.false_eq_true, Nat.reduceSub, List.replicate, List.cons_append, List.nil_append, implOk', hk, e1, e2, hW2, hW3, hW4]
    repeat' (first
      | with_reducible exact opsNil
      | with_reducible exact retI
      | with_reducible exact skipI
      | with_reducible exact exitI
      | with_reducible exact if_pos rfl
      | with_reducible exact if_neg (by decide)
      | (with_reducible apply seqI)
      | (with_reducible apply regI)
      | (with_reducible apply regD)
      | with_reducible exact trNil
      | (with_reducible apply blockI)
      | (with_reducible apply condT; focus (simp only [push_cast, reduceCtorEq, Nat.reduceAdd, Nat.reduceSub, Nat.reduceMul, Nat.reduceLeDiff, Nat.reduceLT, Nat.reduceEqDiff, Int.reduceToNat, Int.reduceLT, Int.reduceLE, Int.reduceBEq, Int.reduceEq, Int.reduceSub, Int.reduceAdd, Int.reduceMul, Int.reduceNeg, fillL, repL, implOk', hk, e1, e2, hW2, hW3, hW4]; done))
      | (with_reducible apply condF; focus (simp only [push_cast, reduceCtorEq, Nat.reduceAdd, Nat.reduceSub, Nat.reduceMul, Nat.reduceLeDiff, Nat.reduceLT, Nat.reduceEqDiff, Int.reduceToNat, Int.reduceLT, Int.reduceLE, Int.reduceBEq, Int.reduceEq, Int.reduceSub, Int.reduceAdd, Int.reduceMul, Int.reduceNeg, fillL, repL, implOk', hk, e1, e2, hW2, hW3, hW4]; done))
      | (with_reducible apply opsCons (by simp only [push_cast, reduceCtorEq, Nat.reduceAdd, Nat.reduceSub, Nat.reduceMul, Nat.reduceLeDiff, Nat.reduceLT, Nat.reduceEqDiff, Int.reduceToNat, Int.reduceLT, Int.reduceLE, Int.reduceBEq, Int.reduceEq, Int.reduceSub, Int.reduceAdd, Int.reduceMul, Int.reduceNeg, fillL, repL, frm_get, frm_set, set_set, implOk', hk, e1, e2, hW2, hW3, hW4]; rfl); dsimp only [List.cons_append, List.nil_append, putV, List.set])
      | (with_reducible apply trCons (by simp only [push_cast, reduceCtorEq, Nat.reduceAdd, Nat.reduceSub, Nat.reduceMul, Nat.reduceLeDiff, Nat.reduceLT, Nat.reduceEqDiff, Int.reduceToNat, Int.reduceLT, Int.reduceLE, Int.reduceBEq, Int.reduceEq, Int.reduceSub, Int.reduceAdd, Int.reduceMul, Int.reduceNeg, fillL, repL, frm_get, frm_set, set_set, implOk', hk, e1, e2, hW2, hW3, hW4]; rfl); dsimp only [List.cons_append, List.nil_append, putV, List.set])
      | (simp only [List.getLast?_cons_cons, List.getLast?_singleton]; rfl)
      | (refine (?_ : List.all _ _ = true); simp only [chkOne, noCall, same_self, push_cast, reduceCtorEq, Nat.reduceAdd, Nat.reduceSub, Nat.reduceMul, Nat.reduceLeDiff, Nat.reduceLT, Nat.reduceEqDiff, Int.reduceToNat, Int.reduceLT, Int.reduceLE, Int.reduceBEq, Int.reduceEq, Int.reduceSub, Int.reduceAdd, Int.reduceMul, Int.reduceNeg, fillL, repL, frm_get, frm_set, set_set, implOk', hk, e1, e2, hW2, hW3, hW4]; done)
      | (dsimp only))
  · simp only [c8, push_cast, reduceCtorEq, Nat.reduceAdd, Nat.reduceSub, Nat.reduceMul, Nat.reduceLeDiff, Nat.reduceLT, Nat.reduceEqDiff, Int.reduceToNat, Int.reduceLT, Int.reduceLE, Int.reduceBEq, Int.reduceEq, Int.reduceSub, Int.reduceAdd, Int.reduceMul, Int.reduceNeg, fillL, repL, frm_get, frm_set, set_set, implOk', hk, e1, e2, hW2, hW3, hW4]
set_option maxHeartbeats 4000000 in
theorem Store_more (f1 f2 : Bool) (n m : Nat) (ws ls : List AV) (half low next p off v : Int) (s : Store) (hk : hOk half low next n m = true) (hin : inB low next p off = true) (hw : cellsOk 0 ws = true) (hwn : ws.length = n) (hln : ls.length = m * 3) (hm0 : 0 < m) (hm : m < 4000) (hl : cellsOk 0 ls = true) :
    callF (tab tbl) noCall 8 [heapV f1 n ws half low next f2 m ls, .int .i64 p, .int .i64 off, .int .i64 v] s = some (.tup [heapV false n (ws.take (p + off).toNat ++ [AV.int .i64 v] ++ ws.drop ((p + off).toNat + 1)) half low next false (m + 1) (ls ++ [AV.int .i64 (p + off), AV.int .i64 low, AV.int .i64 next]), .bool true], s) := by
  have hk' := hk
  unfold hOk at hk'
  simp only [decide_eq_true_eq] at hk'
  obtain ⟨a1, a2, a3, a4, a5, a6, a7⟩ := hk'
  have e1 := fun o0 o1 => cloneHeap_some (s := s) (o0 := o0) (o1 := o1) (f1 := false) (f2 := false) (n := n) (m := m) (half := half) (low := low) (next := next) hw hl (by omega) hln (by omega) hm0 (by omega) (by omega)
  have e2 := fun o0 o1 o2 o3 => store_more (s := s) (o0 := o0) (o1 := o1) (o2 := o2) (o3 := o3) (ws := ws) (n := n) (m := m) (half := half) (low := low) (next := next) (p := p) (off := off) (v := v) (by omega) (by omega) hin (by omega) hwn hm hln
  have hi := hin
  unfold inB at hi
  simp only [decide_eq_true_eq] at hi
  have hW1 : (ws.take (p + off).toNat ++ [AV.int .i64 v] ++ ws.drop ((p + off).toNat + 1)).length = n := by simp; omega
  have hW2 : AV.lowL 0 (ws.take (p + off).toNat ++ [AV.int .i64 v] ++ ws.drop ((p + off).toNat + 1)) = true := low_of (cellsOk_splice hw rfl _ _)
  generalize ws.take (p + off).toNat ++ [AV.int .i64 v] ++ ws.drop ((p + off).toNat + 1) = W at e2 hW1 hW2 ⊢
  have hW3 : List.take n W = W := List.take_of_length_le (by omega)
  have hW4 : n ≤ W.length := by omega
  have hL1 : (ls ++ [AV.int .i64 (p + off), AV.int .i64 low, AV.int .i64 next]).length = (m + 1) * 3 := by simp; omega
  have hL2 : AV.lowL 0 (ls ++ [AV.int .i64 (p + off), AV.int .i64 low, AV.int .i64 next]) = true := low_of (cellsOk_append.2 ⟨hl, rfl⟩)
  generalize ls ++ [AV.int .i64 (p + off), AV.int .i64 low, AV.int .i64 next] = Lg at e2 hL1 hL2 ⊢
  have hL3 : List.take ((m + 1) * 3) Lg = Lg := List.take_of_length_le (by omega)
  have hL4 : (m + 1) * 3 ≤ Lg.length := by omega
  unfold heapV
  apply funI (fc := c8) rfl (by simp only [c8, push_cast, reduceCtorEq, Nat.reduceAdd, Nat.reduceSub, Nat.reduceMul, Nat.reduceLeDiff, Nat.reduceLT, Nat.reduceEqDiff, Int.reduceToNat, Int.reduceLT, Int.reduceLE, Int.reduceBEq, Int.reduceEq, Int.reduceSub, Int.reduceAdd, Int.reduceMul, Int.reduceNeg, fillL, repL, implOk', hk, e1, e2, hW2, hW3, hW4, hL2, hL3, hL4]; rfl)
  · simp only [c8, st0, push_frm, if_false, if_true, Bool.false_eq_true, Nat.reduceSub, List.replicate, List.cons_append, List.nil_append, implOk', hk, e1, e2, hW2, hW3, hW4, hL2, hL3, hL4]
    repeat' (first
      | with_reducible exact opsNil
      | with_reducible exact retI
      | with_reducible exact skipI
      | with_reducible exact exitI
      | with_reducible exact if_pos rfl
      | with_reducible exact if_neg (by decide)
      | (with_reducible apply seqI)
      | (with_reducible apply regI)
      | (with_reducible apply regD)
      | with_reducible exact trNil
      | (with_reducible apply blockI)
      | (with_reducible apply condT; focus (simp only [push_cast, reduceCtorEq, Nat.reduceAdd, Nat.reduceSub, Nat.reduceMul, Nat.reduceLeDiff, Nat.reduceLT, Nat.reduceEqDiff, Int.reduceToNat, Int.reduceLT, Int.reduceLE, Int.reduceBEq, Int.reduceEq, Int.reduceSub, Int.reduceAdd, Int.reduceMul, Int.reduceNeg, fillL, repL, implOk', hk, e1, e2, hW2, hW3, hW4, hL2, hL3, hL4]; done))
      | (with_reducible apply condF; focus (simp only [push_cast, reduceCtorEq, Nat.reduceAdd, Nat.reduceSub, Nat.reduceMul, Nat.reduceLeDiff, Nat.reduceLT, Nat.reduceEqDiff, Int.reduceToNat, Int.reduceLT, Int.reduceLE, Int.reduceBEq, Int.reduceEq, Int.reduceSub, Int.reduceAdd, Int.reduceMul, Int.reduceNeg, fillL, repL, implOk', hk, e1, e2, hW2, hW3, hW4, hL2, hL3, hL4]; done))
      | (with_reducible apply opsCons (by simp only [push_cast, reduceCtorEq, Nat.reduceAdd, Nat.reduceSub, Nat.reduceMul, Nat.reduceLeDiff, Nat.reduceLT, Nat.reduceEqDiff, Int.reduceToNat, Int.reduceLT, Int.reduceLE, Int.reduceBEq, Int.reduceEq, Int.reduceSub, Int.reduceAdd, Int.reduceMul, Int.reduceNeg, fillL, repL, frm_get, frm_set, set_set, implOk', hk, e1, e2, hW2, hW3, hW4, hL2, hL3, hL4]; rfl); dsimp only [List.cons_append, List.nil_append, putV, List.set])
      | (with_reducible apply trCons (by simp only [push_cast, reduceCtorEq, Nat.reduceAdd, Nat.reduceSub, Nat.reduceMul, Nat.reduceLeDiff, Nat.reduceLT, Nat.reduceEqDiff, Int.reduceToNat, Int.reduceLT, Int.reduceLE, Int.reduceBEq, Int.reduceEq, Int.reduceSub, Int.reduceAdd, Int.reduceMul, Int.reduceNeg, fillL, repL, frm_get, frm_set, set_set, implOk', hk, e1, e2, hW2, hW3, hW4, hL2, hL3, hL4]; rfl); dsimp only [List.cons_append, List.nil_append, putV, List.set])
      | (simp only [List.getLast?_cons_cons, List.getLast?_singleton]; rfl)
      | (refine (?_ : List.all _ _ = true); simp only [chkOne, noCall, same_self, push_cast, reduceCtorEq, Nat.reduceAdd, Nat.reduceSub, Nat.reduceMul, Nat.reduceLeDiff, Nat.reduceLT, Nat.reduceEqDiff, Int.reduceToNat, Int.reduceLT, Int.reduceLE, Int.reduceBEq, Int.reduceEq, Int.reduceSub, Int.reduceAdd, Int.reduceMul, Int.reduceNeg, fillL, repL, frm_get, frm_set, set_set, implOk', hk, e1, e2, hW2, hW3, hW4, hL2, hL3, hL4]; done)
      | (dsimp only))
  · simp only [c8, push_cast, reduceCtorEq, Nat.reduceAdd, Nat.reduceSub, Nat.reduceMul, Nat.reduceLeDiff, Nat.reduceLT, Nat.reduceEqDiff, Int.reduceToNat, Int.reduceLT, Int.reduceLE, Int.reduceBEq, Int.reduceEq, Int.reduceSub, Int.reduceAdd, Int.reduceMul, Int.reduceNeg, fillL, repL, frm_get, frm_set, set_set, implOk', hk, e1, e2, hW2, hW3, hW4, hL2, hL3, hL4]
set_option maxHeartbeats 4000000 in
theorem Store_full (f1 f2 : Bool) (n m : Nat) (ws ls : List AV) (half low next p off v : Int) (s : Store) (hk : hOk half low next n m = true) (hin : inB low next p off = true) (hw : cellsOk 0 ws = true) (hwn : ws.length = n) (hln : ls.length = m * 3) (hm0 : 0 < m) (hm : m = 4000) (hl : cellsOk 0 ls = true) :
    callF (tab tbl) noCall 8 [heapV f1 n ws half low next f2 m ls, .int .i64 p, .int .i64 off, .int .i64 v] s = some (.tup [heapV false n (ws.take (p + off).toNat ++ [AV.int .i64 v] ++ ws.drop ((p + off).toNat + 1)) half low next false 4000 (ls.drop 3 ++ [AV.int .i64 (p + off), AV.int .i64 low, AV.int .i64 next]), .bool true], s) := by
  have hk' := hk
  unfold hOk at hk'
  simp only [decide_eq_true_eq] at hk'
  obtain ⟨a1, a2, a3, a4, a5, a6, a7⟩ := hk'
  have e1 := fun o0 o1 => cloneHeap_some (s := s) (o0 := o0) (o1 := o1) (f1 := false) (f2 := false) (n := n) (m := m) (half := half) (low := low) (next := next) hw hl (by omega) hln (by omega) hm0 (by omega) (by omega)
  have e2 := fun o0 o1 o2 o3 => store_full (s := s) (o0 := o0) (o1 := o1) (o2 := o2) (o3 := o3) (ws := ws) (n := n) (m := m) (half := half) (low := low) (next := next) (p := p) (off := off) (v := v) (by omega) (by omega) hin (by omega) hwn hm hln
  have hi := hin
  unfold inB at hi
  simp only [decide_eq_true_eq] at hi
  have hW1 : (ws.take (p + off).toNat ++ [AV.int .i64 v] ++ ws.drop ((p + off).toNat + 1)).length = n := by simp; omega
  have hW2 : AV.lowL 0 (ws.take (p + off).toNat ++ [AV.int .i64 v] ++ ws.drop ((p + off).toNat + 1)) = true := low_of (cellsOk_splice hw rfl _ _)
  generalize ws.take (p + off).toNat ++ [AV.int .i64 v] ++ ws.drop ((p + off).toNat + 1) = W at e2 hW1 hW2 ⊢
  have hW3 : List.take n W = W := List.take_of_length_le (by omega)
  have hW4 : n ≤ W.length := by omega
  have hL1 : (ls.drop 3 ++ [AV.int .i64 (p + off), AV.int .i64 low, AV.int .i64 next]).length = 4000 * 3 := by simp; omega
  have hL2 : AV.lowL 0 (ls.drop 3 ++ [AV.int .i64 (p + off), AV.int .i64 low, AV.int .i64 next]) = true := low_of (cellsOk_append.2 ⟨cellsOk_drop hl 3, rfl⟩)
  generalize ls.drop 3 ++ [AV.int .i64 (p + off), AV.int .i64 low, AV.int .i64 next] = Lg at e2 hL1 hL2 ⊢
  have hL3 : List.take (4000 * 3) Lg = Lg := List.take_of_length_le (by omega)
  have hL4 : 4000 * 3 ≤ Lg.length := by omega
  simp only [Nat.reduceMul] at hL3 hL4
  unfold heapV
  apply funI (fc := c8) rfl (by simp only [c8, push_cast, reduceCtorEq, Nat.reduceAdd, Nat.reduceSub, Nat.reduceMul, Nat.reduceLeDiff, Nat.reduceLT, Nat.reduceEqDiff, Int.reduceToNat, Int.reduceLT, Int.reduceLE, Int.reduceBEq, Int.reduceEq, Int.reduceSub, Int.reduceAdd, Int.reduceMul, Int.reduceNeg, fillL, repL, implOk', hk, e1, e2, hW2, hW3, hW4, hL2, hL3, hL4]; rfl)
  · simp only [c8, st0, push_frm, if_false, if_true, Bool.false_eq_true, Nat.reduceSub, List.replicate, List.cons_append, List.nil_append, implOk', hk, e1, e2, hW2, hW3, hW4, hL2, hL3, hL4]
    repeat' (first
      | with_reducible exact opsNil
      | with_reducible exact retI
      | with_reducible exact skipI
      | with_reducible exact exitI
      | with_reducible exact if_pos rfl
      | with_reducible exact if_neg (by decide)
      | (with_reducible apply seqI)
      | (with_reducible apply regI)
      | (with_reducible apply regD)
      | with_reducible exact trNil
      | (with_reducible apply blockI)
      | (with_reducible apply condT; focus (simp only [push_cast, reduceCtorEq, Nat.reduceAdd, Nat.reduceSub, Nat.reduceMul, Nat.reduceLeDiff, Nat.reduceLT, Nat.reduceEqDiff, Int.reduceToNat, Int.reduceLT, Int.reduceLE, Int.reduceBEq, Int.reduceEq, Int.reduceSub, Int.reduceAdd, Int.reduceMul, Int.reduceNeg, fillL, repL, implOk', hk, e1, e2, hW2, hW3, hW4, hL2, hL3, hL4]; done))
      | (with_reducible apply condF; focus (simp only [push_cast, reduceCtorEq, Nat.reduceAdd, Nat.reduceSub, Nat.reduceMul, Nat.reduceLeDiff, Nat.reduceLT, Nat.reduceEqDiff, Int.reduceToNat, Int.reduceLT, Int.reduceLE, Int.reduceBEq, Int.reduceEq, Int.reduceSub, Int.reduceAdd, Int.reduceMul, Int.reduceNeg, fillL, repL, implOk', hk, e1, e2, hW2, hW3, hW4, hL2, hL3, hL4]; done))
      | (with_reducible apply opsCons (by simp only [push_cast, reduceCtorEq, Nat.reduceAdd, Nat.reduceSub, Nat.reduceMul, Nat.reduceLeDiff, Nat.reduceLT, Nat.reduceEqDiff, Int.reduceToNat, Int.reduceLT, Int.reduceLE, Int.reduceBEq, Int.reduceEq, Int.reduceSub, Int.reduceAdd, Int.reduceMul, Int.reduceNeg, fillL, repL, frm_get, frm_set, set_set, implOk', hk, e1, e2, hW2, hW3, hW4, hL2, hL3, hL4]; rfl); dsimp only [List.cons_append, List.nil_append, putV, List.set])
      | (with_reducible apply trCons (by simp only [push_cast, reduceCtorEq, Nat.reduceAdd, Nat.reduceSub, Nat.reduceMul, Nat.reduceLeDiff, Nat.reduceLT, Nat.reduceEqDiff, Int.reduceToNat, Int.reduceLT, Int.reduceLE, Int.reduceBEq, Int.reduceEq, Int.reduceSub, Int.reduceAdd, Int.reduceMul, Int.reduceNeg, fillL, repL, frm_get, frm_set, set_set, implOk', hk, e1, e2, hW2, hW3, hW4, hL2, hL3, hL4]; rfl); dsimp only [List.cons_append, List.nil_append, putV, List.set])
      | (simp only [List.getLast?_cons_cons, List.getLast?_singleton]; rfl)
      | (refine (?_ : List.all _ _ = true); simp only [chkOne, noCall, same_self, push_cast, reduceCtorEq, Nat.reduceAdd, Nat.reduceSub, Nat.reduceMul, Nat.reduceLeDiff, Nat.reduceLT, Nat.reduceEqDiff, Int.reduceToNat, Int.reduceLT, Int.reduceLE, Int.reduceBEq, Int.reduceEq, Int.reduceSub, Int.reduceAdd, Int.reduceMul, Int.reduceNeg, fillL, repL, frm_get, frm_set, set_set, implOk', hk, e1, e2, hW2, hW3, hW4, hL2, hL3, hL4]; done)
      | (dsimp only))
  · simp only [c8, push_cast, reduceCtorEq, Nat.reduceAdd, Nat.reduceSub, Nat.reduceMul, Nat.reduceLeDiff, Nat.reduceLT, Nat.reduceEqDiff, Int.reduceToNat, Int.reduceLT, Int.reduceLE, Int.reduceBEq, Int.reduceEq, Int.reduceSub, Int.reduceAdd, Int.reduceMul, Int.reduceNeg, fillL, repL, frm_get, frm_set, set_set, implOk', hk, e1, e2, hW2, hW3, hW4, hL2, hL3, hL4]
set_option maxHeartbeats 4000000 in
theorem Load_first (f1 f2 : Bool) (n : Nat) (ws : List AV) (half low next p off x : Int) (s : Store) (hk : hOk half low next n 0 = true) (hin : inB low next p off = true) (hw : cellsOk 0 ws = true) (hwn : ws.length = n) (hx : ws[(p + off).toNat]? = some (.int .i64 x)) :
    callF (tab tbl) noCall 9 [heapV f1 n ws half low next f2 0 [], .int .i64 p, .int .i64 off] s = some (.tup [heapV false n ws half low next false 1 [AV.int .i64 (p + off), AV.int .i64 low, AV.int .i64 next], .int .i64 x, .bool true], s) := by
  have hk' := hk
  unfold hOk at hk'
  simp only [decide_eq_true_eq] at hk'
  obtain ⟨a1, a2, a3, a4, a5, a6, a7⟩ := hk'
  have e1 := fun o0 o1 => cloneHeap_none (s := s) (o0 := o0) (o1 := o1) (f1 := false) (f2 := false) (n := n) (half := half) (low := low) (next := next) hw (by omega) (by omega) (by omega)
  have e2 := fun o0 o1 o2 o3 => load_first (s := s) (o0 := o0) (o1 := o1) (o2 := o2) (o3 := o3) (ws := ws) (n := n) (half := half) (low := low) (next := next) (p := p) (off := off) (x := x) (by omega) (by omega) hin (by omega) hwn hx
  have hi := hin
  unfold inB at hi
  simp only [decide_eq_true_eq] at hi
  have hW1 : ws.length = n := hwn
  have hW2 : AV.lowL 0 ws = true := low_of hw
  have hW3 : List.take n ws = ws := List.take_of_length_le (by omega)
  have hW4 : n ≤ ws.length := by omega
  unfold heapV
  apply funI (fc := c9) rfl (by simp only [c9, push_cast, reduceCtorEq, Nat.reduceAdd, Nat.reduceSub, Nat.reduceMul, Nat.reduceLeDiff, Nat.reduceLT, Nat.reduceEqDiff, Int.reduceToNat, Int.reduceLT, Int.reduceLE, Int.reduceBEq, Int.reduceEq, Int.reduceSub, Int.reduceAdd, Int.reduceMul, Int.reduceNeg, fillL, repL, implOk', hk, e1, e2, hW2, hW3, hW4]; rfl)
  · simp only [c9, st0, push_frm, if_false, if_true, Bool.false_eq_true, Nat.reduceSub, List.replicate, List.cons_append, List.nil_append, implOk', hk, e1, e2, hW2, hW3, hW4]
    repeat' (first
      | with_reducible exact opsNil
      | with_reducible exact retI
      | with_reducible exact skipI
      | with_reducible exact exitI
      | with_reducible exact if_pos rfl
      | with_reducible exact if_neg (by decide)
      | (with_reducible apply seqI)
      | (with_reducible apply regI)
      | (with_reducible apply regD)
      | with_reducible exact trNil
      | (with_reducible apply blockI)
      | (with_reducible apply condT; focus (simp only [push_cast, reduceCtorEq, Nat.reduceAdd, Nat.reduceSub, Nat.reduceMul, Nat.reduceLeDiff, Nat.reduceLT, Nat.reduceEqDiff, Int.reduceToNat, Int.reduceLT, Int.reduceLE, Int.reduceBEq, Int.reduceEq, Int.reduceSub, Int.reduceAdd, Int.reduceMul, Int.reduceNeg, fillL, repL, implOk', hk, e1, e2, hW2, hW3, hW4]; done))
      | (with_reducible apply condF; focus (simp only [push_cast, reduceCtorEq, Nat.reduceAdd, Nat.reduceSub, Nat.reduceMul, Nat.reduceLeDiff, Nat.reduceLT, Nat.reduceEqDiff, Int.reduceToNat, Int.reduceLT, Int.reduceLE, Int.reduceBEq, Int.reduceEq, Int.reduceSub, Int.reduceAdd, Int.reduceMul, Int.reduceNeg, fillL, repL, implOk', hk, e1, e2, hW2, hW3, hW4]; done))
      | (with_reducible apply opsCons (by simp only [push_cast, reduceCtorEq, Nat.reduceAdd, Nat.reduceSub, Nat.reduceMul, Nat.reduceLeDiff, Nat.reduceLT, Nat.reduceEqDiff, Int.reduceToNat, Int.reduceLT, Int.reduceLE, Int.reduceBEq, Int.reduceEq, Int.reduceSub, Int.reduceAdd, Int.reduceMul, Int.reduceNeg, fillL, repL, frm_get, frm_set, set_set, implOk', hk, e1, e2, hW2, hW3, hW4]; rfl); dsimp only [List.cons_append, List.nil_append, putV, List.set])
      | (with_reducible apply trCons (by simp only [push_cast, reduceCtorEq, Nat.reduceAdd, Nat.reduceSub, Nat.reduceMul, Nat.reduceLeDiff, Nat.reduceLT, Nat.reduceEqDiff, Int.reduceToNat, Int.reduceLT, Int.reduceLE, Int.reduceBEq, Int.reduceEq, Int.reduceSub, Int.reduceAdd, Int.reduceMul, Int.reduceNeg, fillL, repL, frm_get, frm_set, set_set, implOk', hk, e1, e2, hW2, hW3, hW4]; rfl); dsimp only [List.cons_append, List.nil_append, putV, List.set])
      | (simp only [List.getLast?_cons_cons, List.getLast?_singleton]; rfl)
      | (refine (?_ : List.all _ _ = true); simp only [chkOne, noCall, same_self, push_cast, reduceCtorEq, Nat.reduceAdd, Nat.reduceSub, Nat.reduceMul, Nat.reduceLeDiff, Nat.reduceLT, Nat.reduceEqDiff, Int.reduceToNat, Int.reduceLT, Int.reduceLE, Int.reduceBEq, Int.reduceEq, Int.reduceSub, Int.reduceAdd, Int.reduceMul, Int.reduceNeg, fillL, repL, frm_get, frm_set, set_set, implOk', hk, e1, e2, hW2, hW3, hW4]; done)
      | (dsimp only))
  · simp only [c9, push_cast, reduceCtorEq, Nat.reduceAdd, Nat.reduceSub, Nat.reduceMul, Nat.reduceLeDiff, Nat.reduceLT, Nat.reduceEqDiff, Int.reduceToNat, Int.reduceLT, Int.reduceLE, Int.reduceBEq, Int.reduceEq, Int.reduceSub, Int.reduceAdd, Int.reduceMul, Int.reduceNeg, fillL, repL, frm_get, frm_set, set_set, implOk', hk, e1, e2, hW2, hW3, hW4]
set_option maxHeartbeats 4000000 in
theorem Load_more (f1 f2 : Bool) (n m : Nat) (ws ls : List AV) (half low next p off x : Int) (s : Store) (hk : hOk half low next n m = true) (hin : inB low next p off = true) (hw : cellsOk 0 ws = true) (hwn : ws.length = n) (hln : ls.length = m * 3) (hm0 : 0 < m) (hm : m < 4000) (hl : cellsOk 0 ls = true) (hx : ws[(p + off).toNat]? = some (.int .i64 x)) :
    callF (tab tbl) noCall 9 [heapV f1 n ws half low next f2 m ls, .int .i64 p, .int .i64 off] s = some (.tup [heapV false n ws half low next false (m + 1) (ls ++ [AV.int .i64 (p + off), AV.int .i64 low, AV.int .i64 next]), .int .i64 x, .bool true], s) := by
  have hk' := hk
  unfold hOk at hk'
  simp only [decide_eq_true_eq] at hk'
  obtain ⟨a1, a2, a3, a4, a5, a6, a7⟩ := hk'
  have e1 := fun o0 o1 => cloneHeap_some (s := s) (o0 := o0) (o1 := o1) (f1 := false) (f2 := false) (n := n) (m := m) (half := half) (low := low) (next := next) hw hl (by omega) hln (by omega) hm0 (by omega) (by omega)
  have e2 := fun o0 o1 o2 o3 => load_more (s := s) (o0 := o0) (o1 := o1) (o2 := o2) (o3 := o3) (ws := ws) (n := n) (m := m) (half := half) (low := low) (next := next) (p := p) (off := off) (x := x) (by omega) (by omega) hin (by omega) hwn hm hln hx
  have hi := hin
  unfold inB at hi
  simp only [decide_eq_true_eq] at hi
  have hW1 : ws.length = n := hwn
  have hW2 : AV.lowL 0 ws = true := low_of hw
  have hW3 : List.take n ws = ws := List.take_of_length_le (by omega)
  have hW4 : n ≤ ws.length := by omega
  have hL1 : (ls ++ [AV.int .i64 (p + off), AV.int .i64 low, AV.int .i64 next]).length = (m + 1) * 3 := by simp; omega
  have hL2 : AV.lowL 0 (ls ++ [AV.int .i64 (p + off), AV.int .i64 low, AV.int .i64 next]) = true := low_of (cellsOk_append.2 ⟨hl, rfl⟩)
  generalize ls ++ [AV.int .i64 (p + off), AV.int .i64 low, AV.int .i64 next] = Lg at e2 hL1 hL2 ⊢
  have hL3 : List.take ((m + 1) * 3) Lg = Lg := List.take_of_length_le (by omega)
  have hL4 : (m + 1) * 3 ≤ Lg.length := by omega
  unfold heapV
  apply funI (fc := c9) rfl (by simp only [c9, push_cast, reduceCtorEq, Nat.reduceAdd, Nat.reduceSub, Nat.reduceMul, Nat.reduceLeDiff, Nat.reduceLT, Nat.reduceEqDiff, Int.reduceToNat, Int.reduceLT, Int.reduceLE, Int.reduceBEq, Int.reduceEq, Int.reduceSub, Int.reduceAdd, Int.reduceMul, Int.reduceNeg, fillL, repL, implOk', hk, e1, e2, hW2, hW3, hW4, hL2, hL3, hL4]; rfl)
  · simp only [c9, st0, push_frm, if_false, if_true, Bool.false_eq_true, Nat.reduceSub, List.replicate, List.cons_append, List.nil_append, implOk', hk, e1, e2, hW2, hW3, hW4, hL2, hL3, hL4]
    repeat' (first
      | with_reducible exact opsNil
      | with_reducible exact retI
      | with_reducible exact skipI
      | with_reducible exact exitI
      | with_reducible exact if_pos rfl
      | with_reducible exact if_neg (by decide)
      | (with_reducible apply seqI)
      | (with_reducible apply regI)
      | (with_reducible apply regD)
      | with_reducible exact trNil
      | (with_reducible apply blockI)
      | (with_reducible apply condT; focus (simp only [push_cast, reduceCtorEq, Nat.reduceAdd, Nat.reduceSub, Nat.reduceMul, Nat.reduceLeDiff, Nat.reduceLT, Nat.reduceEqDiff, Int.reduceToNat, Int.reduceLT, Int.reduceLE, Int.reduceBEq, Int.reduceEq, Int.reduceSub, Int.reduceAdd, Int.reduceMul, Int.reduceNeg, fillL, repL, implOk', hk, e1, e2, hW2, hW3, hW4, hL2, hL3, hL4]; done))
      | (with_reducible apply condF; focus (simp only [push_cast, reduceCtorEq, Nat.reduceAdd, Nat.reduceSub, Nat.reduceMul, Nat.reduceLeDiff, Nat.reduceLT, Nat.reduceEqDiff, Int.reduceToNat, Int.reduceLT, Int.reduceLE, Int.reduceBEq, Int.reduceEq, Int.reduceSub, Int.reduceAdd, Int.reduceMul, Int.reduceNeg, fillL, repL, implOk', hk, e1, e2, hW2, hW3, hW4, hL2, hL3, hL4]; done))
      | (with_reducible apply opsCons (by simp only [push_cast, reduceCtorEq, Nat.reduceAdd, Nat.reduceSub, Nat.reduceMul, Nat.reduceLeDiff, Nat.reduceLT, Nat.reduceEqDiff, Int.reduceToNat, Int.reduceLT, Int.reduceLE, Int.reduceBEq, Int.reduceEq, Int.reduceSub, Int.reduceAdd, Int.reduceMul, Int.reduceNeg, fillL, repL, frm_get, frm_set, set_set, implOk', hk, e1, e2, hW2, hW3, hW4, hL2, hL3, hL4]; rfl); dsimp only [List.cons_append, List.nil_append, putV, List.set])
      | (with_reducible apply trCons (by simp only [push_cast, reduceCtorEq, Nat.reduceAdd, Nat.reduceSub, Nat.reduceMul, Nat.reduceLeDiff, Nat.reduceLT, Nat.reduceEqDiff, Int.reduceToNat, Int.reduceLT, Int.reduceLE, Int.reduceBEq, Int.reduceEq, Int.reduceSub, Int.reduceAdd, Int.reduceMul, Int.reduceNeg, fillL, repL, frm_get, frm_set, set_set, implOk', hk, e1, e2, hW2, hW3, hW4, hL2, hL3, hL4]; rfl); dsimp only [List.cons_append, List.nil_append, putV, List.set])
      | (simp only [List.getLast?_cons_cons, List.getLast?_singleton]; rfl)
      | (refine (?_ : List.all _ _ = true); simp only [chkOne, noCall, same_self, push_cast, reduceCtorEq, Nat.reduceAdd, Nat.reduceSub, Nat.reduceMul, Nat.reduceLeDiff, Nat.reduceLT, Nat.reduceEqDiff, Int.reduceToNat, Int.reduceLT, Int.reduceLE, Int.reduceBEq, Int.reduceEq, Int.reduceSub, Int.reduceAdd, Int.reduceMul, Int.reduceNeg, fillL, repL, frm_get, frm_set, set_set, implOk', hk, e1, e2, hW2, hW3, hW4, hL2, hL3, hL4]; done)
      | (dsimp only))
  · simp only [c9, push_cast, reduceCtorEq, Nat.reduceAdd, Nat.reduceSub, Nat.reduceMul, Nat.reduceLeDiff, Nat.reduceLT, Nat.reduceEqDiff, Int.reduceToNat, Int.reduceLT, Int.reduceLE, Int.reduceBEq, Int.reduceEq, Int.reduceSub, Int.reduceAdd, Int.reduceMul, Int.reduceNeg, fillL, repL, frm_get, frm_set, set_set, implOk', hk, e1, e2, hW2, hW3, hW4, hL2, hL3, hL4]
set_option maxHeartbeats 4000000 in
theorem Load_full (f1 f2 : Bool) (n m : Nat) (ws ls : List AV) (half low next p off x : Int) (s : Store) (hk : hOk half low next n m = true) (hin : inB low next p off = true) (hw : cellsOk 0 ws = true) (hwn : ws.length = n) (hln : ls.length = m * 3) (hm0 : 0 < m) (hm : m = 4000) (hl : cellsOk 0 ls = true) (hx : ws[(p + off).toNat]? = some (.int .i64 x)) :
    callF (tab tbl) noCall 9 [heapV f1 n ws half low next f2 m ls, .int .i64 p, .int .i64 off] s = some (.tup [heapV false n ws half low next false 4000 (ls.drop 3 ++ [AV.int .i64 (p + off), AV.int .i64 low, AV.int .i64 next]), .int .i64 x, .bool true], s) := by
  have hk' := hk
  unfold hOk at hk'
  simp only [decide_eq_true_eq] at hk'
  obtain ⟨a1, a2, a3, a4, a5, a6, a7⟩ := hk'
  have e1 := fun o0 o1 => cloneHeap_some (s := s) (o0 := o0) (o1 := o1) (f1 := false) (f2 := false) (n := n) (m := m) (half := half) (low := low) (next := next) hw hl (by omega) hln (by omega) hm0 (by omega) (by omega)
  have e2 := fun o0 o1 o2 o3 => load_full (s := s) (o0 := o0) (o1 := o1) (o2 := o2) (o3 := o3) (ws := ws) (n := n) (m := m) (half := half) (low := low) (next := next) (p := p) (off := off) (x := x) (by omega) (by omega) hin (by omega) hwn hm hln hx
  have hi := hin
  unfold inB at hi
  simp only [decide_eq_true_eq] at hi
  have hW1 : ws.length = n := hwn
  have hW2 : AV.lowL 0 ws = true := low_of hw
  have hW3 : List.take n ws = ws := List.take_of_length_le (by omega)
  have hW4 : n ≤ ws.length := by omega
  have hL1 : (ls.drop 3 ++ [AV.int .i64 (p + off), AV.int .i64 low, AV.int .i64 next]).length = 4000 * 3 := by simp; omega
  have hL2 : AV.lowL 0 (ls.drop 3 ++ [AV.int .i64 (p + off), AV.int .i64 low, AV.int .i64 next]) = true := low_of (cellsOk_append.2 ⟨cellsOk_drop hl 3, rfl⟩)
  generalize ls.drop 3 ++ [AV.int .i64 (p + off), AV.int .i64 low, AV.int .i64 next] = Lg at e2 hL1 hL2 ⊢
  have hL3 : List.take (4000 * 3) Lg = Lg := List.take_of_length_le (by omega)
  have hL4 : 4000 * 3 ≤ Lg.length := by omega
  simp only [Nat.reduceMul] at hL3 hL4
  unfold heapV
  apply funI (fc := c9) rfl (by simp only [c9, push_cast, reduceCtorEq, Nat.reduceAdd, Nat.reduceSub, Nat.reduceMul, Nat.reduceLeDiff, Nat.reduceLT, Nat.reduceEqDiff, Int.reduceToNat, Int.reduceLT, Int.reduceLE, Int.reduceBEq, Int.reduceEq, Int.reduceSub, Int.reduceAdd, Int.reduceMul, Int.reduceNeg, fillL, repL, implOk', hk, e1, e2, hW2, hW3, hW4, hL2, hL3, hL4]; rfl)
  · simp only [c9, st0, push_frm, if_false, if_true, Bool.false_eq_true, Nat.reduceSub, List.replicate, List.cons_append, List.nil_append, implOk', hk, e1, e2, hW2, hW3, hW4, hL2, hL3, hL4]
    repeat' (first
      | with_reducible exact opsNil
      | with_reducible exact retI
      | with_reducible exact skipI
      | with_reducible exact exitI
      | with_reducible exact if_pos rfl
      | with_reducible exact if_neg (by decide)
      | (with_reducible apply seqI)
      | (with_reducible apply regI)
      | (with_reducible apply regD)
      | with_reducible exact trNil
      | (with_reducible apply blockI)
      | (with_reducible apply condT; focus (simp only [push_cast, reduceCtorEq, Nat.reduceAdd, Nat.reduceSub, Nat.reduceMul, Nat.reduceLeDiff, Nat.reduceLT, Nat.reduceEqDiff, Int.reduceToNat, Int.reduceLT, Int.reduceLE, Int.reduceBEq, Int.reduceEq, Int.reduceSub, Int.reduceAdd, Int.reduceMul, Int.reduceNeg, fillL, repL, implOk', hk, e1, e2, hW2, hW3, hW4, hL2, hL3, hL4]; done))
      | (with_reducible apply condF; focus (simp only [push_cast, reduceCtorEq, Nat.reduceAdd, Nat.reduceSub, Nat.reduceMul, Nat.reduceLeDiff, Nat.reduceLT, Nat.reduceEqDiff, Int.reduceToNat, Int.reduceLT, Int.reduceLE, Int.reduceBEq, Int.reduceEq, Int.reduceSub, Int.reduceAdd, Int.reduceMul, Int.reduceNeg, fillL, repL, implOk', hk, e1, e2, hW2, hW3, hW4, hL2, hL3, hL4]; done))
      | (with_reducible apply opsCons (by simp only [push_cast, reduceCtorEq, Nat.reduceAdd, Nat.reduceSub, Nat.reduceMul, Nat.reduceLeDiff, Nat.reduceLT, Nat.reduceEqDiff, Int.reduceToNat, Int.reduceLT, Int.reduceLE, Int.reduceBEq, Int.reduceEq, Int.reduceSub, Int.reduceAdd, Int.reduceMul, Int.reduceNeg, fillL, repL, frm_get, frm_set, set_set, implOk', hk, e1, e2, hW2, hW3, hW4, hL2, hL3, hL4]; rfl); dsimp only [List.cons_append, List.nil_append, putV, List.set])
      | (with_reducible apply trCons (by simp only [push_cast, reduceCtorEq, Nat.reduceAdd, Nat.reduceSub, Nat.reduceMul, Nat.reduceLeDiff, Nat.reduceLT, Nat.reduceEqDiff, Int.reduceToNat, Int.reduceLT, Int.reduceLE, Int.reduceBEq, Int.reduceEq, Int.reduceSub, Int.reduceAdd, Int.reduceMul, Int.reduceNeg, fillL, repL, frm_get, frm_set, set_set, implOk', hk, e1, e2, hW2, hW3, hW4, hL2, hL3, hL4]; rfl); dsimp only [List.cons_append, List.nil_append, putV, List.set])
      | (simp only [List.getLast?_cons_cons, List.getLast?_singleton]; rfl)
      | (refine (?_ : List.all _ _ = true); simp only [chkOne, noCall, same_self, push_cast, reduceCtorEq, Nat.reduceAdd, Nat.reduceSub, Nat.reduceMul, Nat.reduceLeDiff, Nat.reduceLT, Nat.reduceEqDiff, Int.reduceToNat, Int.reduceLT, Int.reduceLE, Int.reduceBEq, Int.reduceEq, Int.reduceSub, Int.reduceAdd, Int.reduceMul, Int.reduceNeg, fillL, repL, frm_get, frm_set, set_set, implOk', hk, e1, e2, hW2, hW3, hW4, hL2, hL3, hL4]; done)
      | (dsimp only))
  · simp only [c9, push_cast, reduceCtorEq, Nat.reduceAdd, Nat.reduceSub, Nat.reduceMul, Nat.reduceLeDiff, Nat.reduceLT, Nat.reduceEqDiff, Int.reduceToNat, Int.reduceLT, Int.reduceLE, Int.reduceBEq, Int.reduceEq, Int.reduceSub, Int.reduceAdd, Int.reduceMul, Int.reduceNeg, fillL, repL, frm_get, frm_set, set_set, implOk', hk, e1, e2, hW2, hW3, hW4, hL2, hL3, hL4]
set_option maxHeartbeats 4000000 in
theorem Store_no0 (f1 f2 : Bool) (n : Nat) (ws : List AV) (half low next p off v : Int) (s : Store) (hk : hOk half low next n 0 = true) (hin : inB low next p off = false) (hw : cellsOk 0 ws = true) (hwn : ws.length = n) :
    callF (tab tbl) noCall 8 [heapV f1 n ws half low next f2 0 [], .int .i64 p, .int .i64 off, .int .i64 v] s = some (.tup [heapV false n ws half low next false 0 [], .bool false], s) := by
  have hk' := hk
  unfold hOk at hk'
  simp only [decide_eq_true_eq] at hk'
  obtain ⟨a1, a2, a3, a4, a5, a6, a7⟩ := hk'
  have e1 := fun o0 o1 => cloneHeap_none (s := s) (o0 := o0) (o1 := o1) (f1 := false) (f2 := false) (n := n) (half := half) (low := low) (next := next) hw (by omega) (by omega) (by omega)
  have e2 := fun o0 o1 o2 o3 => store_no (s := frm s [o0, o1, o2, o3, .arr 3 1 ws 0 0, .box 26 [.slr (s.low.length + 1) 4 0 n 0 false, .int .i64 half, .int .i64 low, .int .i64 next, .imm true 0 []]]) (d := s.low.length + 1) (i := 5) (low := low) (next := next) (p := p) (off := off) (v := v) (by rw [frm_get_top]; rfl) (by omega) (by omega) (by omega) hin
  have hW1 : ws.length = n := hwn
  have hW2 : AV.lowL 0 ws = true := low_of hw
  have hW3 : List.take n ws = ws := List.take_of_length_le (by omega)
  have hW4 : n ≤ ws.length := by omega
  unfold heapV
  apply funI (fc := c8) rfl (by simp only [c8, push_cast, reduceCtorEq, Nat.reduceAdd, Nat.reduceSub, Nat.reduceMul, Nat.reduceLeDiff, Nat.reduceLT, Nat.reduceEqDiff, Int.reduceToNat, Int.reduceLT, Int.reduceLE, Int.reduceBEq, Int.reduceEq, Int.reduceSub, Int.reduceAdd, Int.reduceMul, Int.reduceNeg, fillL, repL, implOk', hk, e1, e2, hW2, hW3, hW4]; rfl)
  · simp only [c8, st0, push_frm, if_false, if_true, Bool.false_eq_true, Nat.reduceSub, List.replicate, List.cons_append, List.nil_append, implOk', hk, e1, e2, hW2, hW3, hW4]
    repeat' (first
      | with_reducible exact opsNil
      | with_reducible exact retI
      | with_reducible exact skipI
      | with_reducible exact exitI
      | with_reducible exact if_pos rfl
      | with_reducible exact if_neg (by decide)
      | (with_reducible apply seqI)
      | (with_reducible apply regI)
      | (with_reducible apply regD)
      | with_reducible exact trNil
      | (with_reducible apply blockI)
      | (with_reducible apply condT; focus (simp only [push_cast, reduceCtorEq, Nat.reduceAdd, Nat.reduceSub, Nat.reduceMul, Nat.reduceLeDiff, Nat.reduceLT, Nat.reduceEqDiff, Int.reduceToNat, Int.reduceLT, Int.reduceLE, Int.reduceBEq, Int.reduceEq, Int.reduceSub, Int.reduceAdd, Int.reduceMul, Int.reduceNeg, fillL, repL, implOk', hk, e1, e2, hW2, hW3, hW4]; done))
      | (with_reducible apply condF; focus (simp only [push_cast, reduceCtorEq, Nat.reduceAdd, Nat.reduceSub, Nat.reduceMul, Nat.reduceLeDiff, Nat.reduceLT, Nat.reduceEqDiff, Int.reduceToNat, Int.reduceLT, Int.reduceLE, Int.reduceBEq, Int.reduceEq, Int.reduceSub, Int.reduceAdd, Int.reduceMul, Int.reduceNeg, fillL, repL, implOk', hk, e1, e2, hW2, hW3, hW4]; done))
      | (with_reducible apply opsCons (by simp only [push_cast, reduceCtorEq, Nat.reduceAdd, Nat.reduceSub, Nat.reduceMul, Nat.reduceLeDiff, Nat.reduceLT, Nat.reduceEqDiff, Int.reduceToNat, Int.reduceLT, Int.reduceLE, Int.reduceBEq, Int.reduceEq, Int.reduceSub, Int.reduceAdd, Int.reduceMul, Int.reduceNeg, fillL, repL, frm_get, frm_set, set_set, implOk', hk, e1, e2, hW2, hW3, hW4]; rfl); dsimp only [List.cons_append, List.nil_append, putV, List.set])
      | (with_reducible apply trCons (by simp only [push_cast, reduceCtorEq, Nat.reduceAdd, Nat.reduceSub, Nat.reduceMul, Nat.reduceLeDiff, Nat.reduceLT, Nat.reduceEqDiff, Int.reduceToNat, Int.reduceLT, Int.reduceLE, Int.reduceBEq, Int.reduceEq, Int.reduceSub, Int.reduceAdd, Int.reduceMul, Int.reduceNeg, fillL, repL, frm_get, frm_set, set_set, implOk', hk, e1, e2, hW2, hW3, hW4]; rfl); dsimp only [List.cons_append, List.nil_append, putV, List.set])
      | (simp only [List.getLast?_cons_cons, List.getLast?_singleton]; rfl)
      | (refine (?_ : List.all _ _ = true); simp only [chkOne, noCall, same_self, push_cast, reduceCtorEq, Nat.reduceAdd, Nat.reduceSub, Nat.reduceMul, Nat.reduceLeDiff, Nat.reduceLT, Nat.reduceEqDiff, Int.reduceToNat, Int.reduceLT, Int.reduceLE, Int.reduceBEq, Int.reduceEq, Int.reduceSub, Int.reduceAdd, Int.reduceMul, Int.reduceNeg, fillL, repL, frm_get, frm_set, set_set, implOk', hk, e1, e2, hW2, hW3, hW4]; done)
      | (dsimp only))
  · simp only [c8, push_cast, reduceCtorEq, Nat.reduceAdd, Nat.reduceSub, Nat.reduceMul, Nat.reduceLeDiff, Nat.reduceLT, Nat.reduceEqDiff, Int.reduceToNat, Int.reduceLT, Int.reduceLE, Int.reduceBEq, Int.reduceEq, Int.reduceSub, Int.reduceAdd, Int.reduceMul, Int.reduceNeg, fillL, repL, frm_get, frm_set, set_set, implOk', hk, e1, e2, hW2, hW3, hW4]
set_option maxHeartbeats 4000000 in
theorem Store_no (f1 f2 : Bool) (n m : Nat) (ws ls : List AV) (half low next p off v : Int) (s : Store) (hk : hOk half low next n m = true) (hin : inB low next p off = false) (hw : cellsOk 0 ws = true) (hwn : ws.length = n) (hln : ls.length = m * 3) (hm0 : 0 < m) (hl : cellsOk 0 ls = true) :
    callF (tab tbl) noCall 8 [heapV f1 n ws half low next f2 m ls, .int .i64 p, .int .i64 off, .int .i64 v] s = some (.tup [heapV false n ws half low next false m ls, .bool false], s) := by
  have hk' := hk
  unfold hOk at hk'
  simp only [decide_eq_true_eq] at hk'
  obtain ⟨a1, a2, a3, a4, a5, a6, a7⟩ := hk'
  have e1 := fun o0 o1 => cloneHeap_some (s := s) (o0 := o0) (o1 := o1) (f1 := false) (f2 := false) (n := n) (m := m) (half := half) (low := low) (next := next) hw hl (by omega) hln (by omega) hm0 (by omega) (by omega)
  have e2 := fun o0 o1 o2 o3 => store_no (s := frm s [o0, o1, o2, o3, .arr 3 1 ws 0 0, .arr 99 3 ls 0 0, .box 26 [.slr (s.low.length + 1) 4 0 n 0 false, .int .i64 half, .int .i64 low, .int .i64 next, .slr (s.low.length + 1) 5 0 m 0 false]]) (d := s.low.length + 1) (i := 6) (low := low) (next := next) (p := p) (off := off) (v := v) (by rw [frm_get_top]; rfl) (by omega) (by omega) (by omega) hin
  have hW1 : ws.length = n := hwn
  have hW2 : AV.lowL 0 ws = true := low_of hw
  have hW3 : List.take n ws = ws := List.take_of_length_le (by omega)
  have hW4 : n ≤ ws.length := by omega
  have hL2 : AV.lowL 0 ls = true := low_of hl
  have hL3 : List.take (m * 3) ls = ls := List.take_of_length_le (by omega)
  have hL4 : m * 3 ≤ ls.length := by omega
  unfold heapV
  apply funI (fc := c8) rfl (by simp only [c8, push_cast, reduceCtorEq, Nat.reduceAdd, Nat.reduceSub, Nat.reduceMul, Nat.reduceLeDiff, Nat.reduceLT, Nat.reduceEqDiff, Int.reduceToNat, Int.reduceLT, Int.reduceLE, Int.reduceBEq, Int.reduceEq, Int.reduceSub, Int.reduceAdd, Int.reduceMul, Int.reduceNeg, fillL, repL, implOk', hk, e1, e2, hW2, hW3, hW4, hL2, hL3, hL4]; rfl)
  · simp only [c8, st0, push_frm, if_false, if_true, Bool.false_eq_true, Nat.reduceSub, List.replicate, List.cons_append, List.nil_append, implOk', hk, e1, e2, hW2, hW3, hW4, hL2, hL3, hL4]
    repeat' (first
      | with_reducible exact opsNil
      | with_reducible exact retI
      | with_reducible exact skipI
      | with_reducible exact exitI
      | with_reducible exact if_pos rfl
      | with_reducible exact if_neg (by decide)
      | (with_reducible apply seqI)
      | (with_reducible apply regI)
      | (with_reducible apply regD)
      | with_reducible exact trNil
      | (with_reducible apply blockI)
      | (with_reducible apply condT; focus (simp only [push_cast, reduceCtorEq, Nat.reduceAdd, Nat.reduceSub, Nat.reduceMul, Nat.reduceLeDiff, Nat.reduceLT, Nat.reduceEqDiff, Int.reduceToNat, Int.reduceLT, Int.reduceLE, Int.reduceBEq, Int.reduceEq, Int.reduceSub, Int.reduceAdd, Int.reduceMul, Int.reduceNeg, fillL, repL, implOk', hk, e1, e2, hW2, hW3, hW4, hL2, hL3, hL4]; done))
      | (with_reducible apply condF; focus (simp only [push_cast, reduceCtorEq, Nat.reduceAdd, Nat.reduceSub, Nat.reduceMul, Nat.reduceLeDiff, Nat.reduceLT, Nat.reduceEqDiff, Int.reduceToNat, Int.reduceLT, Int.reduceLE, Int.reduceBEq, Int.reduceEq, Int.reduceSub, Int.reduceAdd, Int.reduceMul, Int.reduceNeg, fillL, repL, implOk', hk, e1, e2, hW2, hW3, hW4, hL2, hL3, hL4]; done))
      | (with_reducible apply opsCons (by simp only [push_cast, reduceCtorEq, Nat.reduceAdd, Nat.reduceSub, Nat.reduceMul, Nat.reduceLeDiff, Nat.reduceLT, Nat.reduceEqDiff, Int.reduceToNat, Int.reduceLT, Int.reduceLE, Int.reduceBEq, Int.reduceEq, Int.reduceSub, Int.reduceAdd, Int.reduceMul, Int.reduceNeg, fillL, repL, frm_get, frm_set, set_set, implOk', hk, e1, e2, hW2, hW3, hW4, hL2, hL3, hL4]; rfl); dsimp only [List.cons_append, List.nil_append, putV, List.set])
      | (with_reducible apply trCons (by simp only [push_cast, reduceCtorEq, Nat.reduceAdd, Nat.reduceSub, Nat.reduceMul, Nat.reduceLeDiff, Nat.reduceLT, Nat.reduceEqDiff, Int.reduceToNat, Int.reduceLT, Int.reduceLE, Int.reduceBEq, Int.reduceEq, Int.reduceSub, Int.reduceAdd, Int.reduceMul, Int.reduceNeg, fillL, repL, frm_get, frm_set, set_set, implOk', hk, e1, e2, hW2, hW3, hW4, hL2, hL3, hL4]; rfl); dsimp only [List.cons_append, List.nil_append, putV, List.set])
      | (simp only [List.getLast?_cons_cons, List.getLast?_singleton]; rfl)
      | (refine (?_ : List.all _ _ = true); simp only [chkOne, noCall, same_self, push_cast, reduceCtorEq, Nat.reduceAdd, Nat.reduceSub, Nat.reduceMul, Nat.reduceLeDiff, Nat.reduceLT, Nat.reduceEqDiff, Int.reduceToNat, Int.reduceLT, Int.reduceLE, Int.reduceBEq, Int.reduceEq, Int.reduceSub, Int.reduceAdd, Int.reduceMul, Int.reduceNeg, fillL, repL, frm_get, frm_set, set_set, implOk', hk, e1, e2, hW2, hW3, hW4, hL2, hL3, hL4]; done)
      | (dsimp only))
  · simp only [c8, push_cast, reduceCtorEq, Nat.reduceAdd, Nat.reduceSub, Nat.reduceMul, Nat.reduceLeDiff, Nat.reduceLT, Nat.reduceEqDiff, Int.reduceToNat, Int.reduceLT, Int.reduceLE, Int.reduceBEq, Int.reduceEq, Int.reduceSub, Int.reduceAdd, Int.reduceMul, Int.reduceNeg, fillL, repL, frm_get, frm_set, set_set, implOk', hk, e1, e2, hW2, hW3, hW4, hL2, hL3, hL4]
set_option maxHeartbeats 4000000 in
theorem Load_no0 (f1 f2 : Bool) (n : Nat) (ws : List AV) (half low next p off : Int) (s : Store) (hk : hOk half low next n 0 = true) (hin : inB low next p off = false) (hw : cellsOk 0 ws = true) (hwn : ws.length = n) :
    callF (tab tbl) noCall 9 [heapV f1 n ws half low next f2 0 [], .int .i64 p, .int .i64 off] s = some (.tup [heapV false n ws half low next false 0 [], .int .i64 0, .bool false], s) := by
  have hk' := hk
  unfold hOk at hk'
  simp only [decide_eq_true_eq] at hk'
  obtain ⟨a1, a2, a3, a4, a5, a6, a7⟩ := hk'
  have e1 := fun o0 o1 => cloneHeap_none (s := s) (o0 := o0) (o1 := o1) (f1 := false) (f2 := false) (n := n) (half := half) (low := low) (next := next) hw (by omega) (by omega) (by omega)
  have e2 := fun o0 o1 o2 o3 => load_no (s := frm s [o0, o1, o2, o3, .arr 3 1 ws 0 0, .box 26 [.slr (s.low.length + 1) 4 0 n 0 false, .int .i64 half, .int .i64 low, .int .i64 next, .imm true 0 []]]) (d := s.low.length + 1) (i := 5) (low := low) (next := next) (p := p) (off := off) (by rw [frm_get_top]; rfl) (by omega) (by omega) (by omega) hin
  have hW1 : ws.length = n := hwn
  have hW2 : AV.lowL 0 ws = true := low_of hw
  have hW3 : List.take n ws = ws := List.take_of_length_le (by omega)
  have hW4 : n ≤ ws.length := by omega
  unfold heapV
  apply funI (fc := c9) rfl (by simp only [c9, push_cast, reduceCtorEq, Nat.reduceAdd, Nat.reduceSub, Nat.reduceMul, Nat.reduceLeDiff, Nat.reduceLT, Nat.reduceEqDiff, Int.reduceToNat, Int.reduceLT, Int.reduceLE, Int.reduceBEq, Int.reduceEq, Int.reduceSub, Int.reduceAdd, Int.reduceMul, Int.reduceNeg, fillL, repL, implOk', hk, e1, e2, hW2, hW3, hW4]; rfl)
  · simp only [c9, st0, push_frm, if_false, if_true, Bool.false_eq_true, Nat.reduceSub, List.replicate, List.cons_append, List.nil_append, implOk', hk, e1, e2, hW2, hW3, hW4]
    repeat' (first
      | with_reducible exact opsNil
      | with_reducible exact retI
      | with_reducible exact skipI
      | with_reducible exact exitI
      | with_reducible exact if_pos rfl
      | with_reducible exact if_neg (by decide)
      | (with_reducible apply seqI)
      | (with_reducible apply regI)
      | (with_reducible apply regD)
      | with_reducible exact trNil
      | (with_reducible apply blockI)
      | (with_reducible apply condT; focus (simp only [push_cast, reduceCtorEq, Nat.reduceAdd, Nat.reduceSub, Nat.reduceMul, Nat.reduceLeDiff, Nat.reduceLT, Nat.reduceEqDiff, Int.reduceToNat, Int.reduceLT, Int.reduceLE, Int.reduceBEq, Int.reduceEq, Int.reduceSub, Int.reduceAdd, Int.reduceMul, Int.reduceNeg, fillL, repL, implOk', hk, e1, e2, hW2, hW3, hW4]; done))
      | (with_reducible apply condF; focus (simp only [push_cast, reduceCtorEq, Nat.reduceAdd, Nat.reduceSub, Nat.reduceMul, Nat.reduceLeDiff, Nat.reduceLT, Nat.reduceEqDiff, Int.reduceToNat, Int.reduceLT, Int.reduceLE, Int.reduceBEq, Int.reduceEq, Int.reduceSub, Int.reduceAdd, Int.reduceMul, Int.reduceNeg, fillL, repL, implOk', hk, e1, e2, hW2, hW3, hW4]; done))
      | (with_reducible apply opsCons (by simp only [push_cast, reduceCtorEq, Nat.reduceAdd, Nat.reduceSub, Nat.reduceMul, Nat.reduceLeDiff, Nat.reduceLT, Nat.reduceEqDiff, Int.reduceToNat, Int.reduceLT, Int.reduceLE, Int.reduceBEq, Int.reduceEq, Int.reduceSub, Int.reduceAdd, Int.reduceMul, Int.reduceNeg, fillL, repL, frm_get, frm_set, set_set, implOk', hk, e1, e2, hW2, hW3, hW4]; rfl); dsimp only [List.cons_append, List.nil_append, putV, List.set])
      | (with_reducible apply trCons (by simp only [push_cast, reduceCtorEq, Nat.reduceAdd, Nat.reduceSub, Nat.reduceMul, Nat.reduceLeDiff, Nat.reduceLT, Nat.reduceEqDiff, Int.reduceToNat, Int.reduceLT, Int.reduceLE, Int.reduceBEq, Int.reduceEq, Int.reduceSub, Int.reduceAdd, Int.reduceMul, Int.reduceNeg, fillL, repL, frm_get, frm_set, set_set, implOk', hk, e1, e2, hW2, hW3, hW4]; rfl); dsimp only [List.cons_append, List.nil_append, putV, List.set])
      | (simp only [List.getLast?_cons_cons, List.getLast?_singleton]; rfl)
      | (refine (?_ : List.all _ _ = true); simp only [chkOne, noCall, same_self, push_cast, reduceCtorEq, Nat.reduceAdd, Nat.reduceSub, Nat.reduceMul, Nat.reduceLeDiff, Nat.reduceLT, Nat.reduceEqDiff, Int.reduceToNat, Int.reduceLT, Int.reduceLE, Int.reduceBEq, Int.reduceEq, Int.reduceSub, Int.reduceAdd, Int.reduceMul, Int.reduceNeg, fillL, repL, frm_get, frm_set, set_set, implOk', hk, e1, e2, hW2, hW3, hW4]; done)
      | (dsimp only))
  · simp only [c9, push_cast, reduceCtorEq, Nat.reduceAdd, Nat.reduceSub, Nat.reduceMul, Nat.reduceLeDiff, Nat.reduceLT, Nat.reduceEqDiff, Int.reduceToNat, Int.reduceLT, Int.reduceLE, Int.reduceBEq, Int.reduceEq, Int.reduceSub, Int.reduceAdd, Int.reduceMul, Int.reduceNeg, fillL, repL, frm_get, frm_set, set_set, implOk', hk, e1, e2, hW2, hW3, hW4]
set_option maxHeartbeats 4000000 in
theorem Load_no (f1 f2 : Bool) (n m : Nat) (ws ls : List AV) (half low next p off : Int) (s : Store) (hk : hOk half low next n m = true) (hin : inB low next p off = false) (hw : cellsOk 0 ws = true) (hwn : ws.length = n) (hln : ls.length = m * 3) (hm0 : 0 < m) (hl : cellsOk 0 ls = true) :
    callF (tab tbl) noCall 9 [heapV f1 n ws half low next f2 m ls, .int .i64 p, .int .i64 off] s = some (.tup [heapV false n ws half low next false m ls, .int .i64 0, .bool false], s) := by
  have hk' := hk
  unfold hOk at hk'
  simp only [decide_eq_true_eq] at hk'
  obtain ⟨a1, a2, a3, a4, a5, a6, a7⟩ := hk'
  have e1 := fun o0 o1 => cloneHeap_some (s := s) (o0 := o0) (o1 := o1) (f1 := false) (f2 := false) (n := n) (m := m) (half := half) (low := low) (next := next) hw hl (by omega) hln (by omega) hm0 (by omega) (by omega)
  have e2 := fun o0 o1 o2 o3 => load_no (s := frm s [o0, o1, o2, o3, .arr 3 1 ws 0 0, .arr 99 3 ls 0 0, .box 26 [.slr (s.low.length + 1) 4 0 n 0 false, .int .i64 half, .int .i64 low, .int .i64 next, .slr (s.low.length + 1) 5 0 m 0 false]]) (d := s.low.length + 1) (i := 6) (low := low) (next := next) (p := p) (off := off) (by rw [frm_get_top]; rfl) (by omega) (by omega) (by omega) hin
  have hW1 : ws.length = n := hwn
  have hW2 : AV.lowL 0 ws = true := low_of hw
  have hW3 : List.take n ws = ws := List.take_of_length_le (by omega)
  have hW4 : n ≤ ws.length := by omega
  have hL2 : AV.lowL 0 ls = true := low_of hl
  have hL3 : List.take (m * 3) ls = ls := List.take_of_length_le (by omega)
  have hL4 : m * 3 ≤ ls.length := by omega
  unfold heapV
  apply funI (fc := c9) rfl (by simp only [c9, push_cast, reduceCtorEq, Nat.reduceAdd, Nat.reduceSub, Nat.reduceMul, Nat.reduceLeDiff, Nat.reduceLT, Nat.reduceEqDiff, Int.reduceToNat, Int.reduceLT, Int.reduceLE, Int.reduceBEq, Int.reduceEq, Int.reduceSub, Int.reduceAdd, Int.reduceMul, Int.reduceNeg, fillL, repL, implOk', hk, e1, e2, hW2, hW3, hW4, hL2, hL3, hL4]; rfl)
  · simp only [c9, st0, push_frm, if_false, if_true, Bool.false_eq_true, Nat.reduceSub, List.replicate, List.cons_append, List.nil_append, implOk', hk, e1, e2, hW2, hW3, hW4, hL2, hL3, hL4]
    repeat' (first
      | with_reducible exact opsNil
      | with_reducible exact retI
      | with_reducible exact skipI
      | with_reducible exact exitI
      | with_reducible exact if_pos rfl
      | with_reducible exact if_neg (by decide)
      | (with_reducible apply seqI)
      | (with_reducible apply regI)
      | (with_reducible apply regD)
      | with_reducible exact trNil
      | (with_reducible apply blockI)
      | (with_reducible apply condT; focus (simp only [push_cast, reduceCtorEq, Nat.reduceAdd, Nat.reduceSub, Nat.reduceMul, Nat.reduceLeDiff, Nat.reduceLT, Nat.reduceEqDiff, Int.reduceToNat, Int.reduceLT, Int.reduceLE, Int.reduceBEq, Int.reduceEq, Int.reduceSub, Int.reduceAdd, Int.reduceMul, Int.reduceNeg, fillL, repL, implOk', hk, e1, e2, hW2, hW3, hW4, hL2, hL3, hL4]; done))
      | (with_reducible apply condF; focus (simp only [push_cast, reduceCtorEq, Nat.reduceAdd, Nat.reduceSub, Nat.reduceMul, Nat.reduceLeDiff, Nat.reduceLT, Nat.reduceEqDiff, Int.reduceToNat, Int.reduceLT, Int.reduceLE, Int.reduceBEq, Int.reduceEq, Int.reduceSub, Int.reduceAdd, Int.reduceMul, Int.reduceNeg, fillL, repL, implOk', hk, e1, e2, hW2, hW3, hW4, hL2, hL3, hL4]; done))
      | (with_reducible apply opsCons (by simp only [push_cast, reduceCtorEq, Nat.reduceAdd, Nat.reduceSub, Nat.reduceMul, Nat.reduceLeDiff, Nat.reduceLT, Nat.reduceEqDiff, Int.reduceToNat, Int.reduceLT, Int.reduceLE, Int.reduceBEq, Int.reduceEq, Int.reduceSub, Int.reduceAdd, Int.reduceMul, Int.reduceNeg, fillL, repL, frm_get, frm_set, set_set, implOk', hk, e1, e2, hW2, hW3, hW4, hL2, hL3, hL4]; rfl); dsimp only [List.cons_append, List.nil_append, putV, List.set])
      | (with_reducible apply trCons (by simp only [push_cast, reduceCtorEq, Nat.reduceAdd, Nat.reduceSub, Nat.reduceMul, Nat.reduceLeDiff, Nat.reduceLT, Nat.reduceEqDiff, Int.reduceToNat, Int.reduceLT, Int.reduceLE, Int.reduceBEq, Int.reduceEq, Int.reduceSub, Int.reduceAdd, Int.reduceMul, Int.reduceNeg, fillL, repL, frm_get, frm_set, set_set, implOk', hk, e1, e2, hW2, hW3, hW4, hL2, hL3, hL4]; rfl); dsimp only [List.cons_append, List.nil_append, putV, List.set])
      | (simp only [List.getLast?_cons_cons, List.getLast?_singleton]; rfl)
      | (refine (?_ : List.all _ _ = true); simp only [chkOne, noCall, same_self, push_cast, reduceCtorEq, Nat.reduceAdd, Nat.reduceSub, Nat.reduceMul, Nat.reduceLeDiff, Nat.reduceLT, Nat.reduceEqDiff, Int.reduceToNat, Int.reduceLT, Int.reduceLE, Int.reduceBEq, Int.reduceEq, Int.reduceSub, Int.reduceAdd, Int.reduceMul, Int.reduceNeg, fillL, repL, frm_get, frm_set, set_set, implOk', hk, e1, e2, hW2, hW3, hW4, hL2, hL3, hL4]; done)
      | (dsimp only))
  · simp only [c9, push_cast, reduceCtorEq, Nat.reduceAdd, Nat.reduceSub, Nat.reduceMul, Nat.reduceLeDiff, Nat.reduceLT, Nat.reduceEqDiff, Int.reduceToNat, Int.reduceLT, Int.reduceLE, Int.reduceBEq, Int.reduceEq, Int.reduceSub, Int.reduceAdd, Int.reduceMul, Int.reduceNeg, fillL, repL, frm_get, frm_set, set_set, implOk', hk, e1, e2, hW2, hW3, hW4, hL2, hL3, hL4]
end Go.Proofs.Ythogcanomihelaa.Ga
