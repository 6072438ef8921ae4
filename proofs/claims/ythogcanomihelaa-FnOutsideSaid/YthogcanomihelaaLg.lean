/- A word that is taken: the access is noted. -/
import Derived.Test.YthogcanomihelaaLf
set_option linter.unusedSimpArgs false
set_option linter.unusedVariables false
namespace Go.Proofs.Ythogcanomihelaa.Ga
open Go Go.Proofs Go.Proofs.Ythogcanomihelaa.Ae
attribute [local congr] obind_congr
attribute [local push_cast] exF argsV frzs frz frzL frz1 exS_reg exS_seq exS_cond exS_alt exS_block exS_loop exS_exit exS_ret exS_skip evReg evOps evOne evAct evOp rd putV st0 evEnd resV resL resOne oneOr frzR loadV storeV binV binI unV push_frm pop_frm frm_len frm_top frm_get_top frm_set_top frm_new AV.cells AV.lowB AV.lowL AV.isCell cellsOk set_len Option.bind_some Option.map_some Option.map_none List.getD_cons_zero List.getD_cons_succ List.nil_append List.cons_append List.append_nil List.length_cons List.length_nil List.set_cons_zero List.set_cons_succ List.map_cons List.map_nil List.replicate if_true if_false ite_true ite_false ite_self Bool.false_eq_true List.all_cons List.all_nil Bool.and_true Bool.true_and Bool.and_self Bool.and_eq_true List.getElem?_cons_zero List.getElem?_cons_succ List.drop_succ_cons List.drop_zero List.take_succ_cons List.take_zero true_and and_true and_self decide_true decide_false Bool.not_true Bool.not_false Prod.mk.injEq Option.some.injEq List.getElem?_drop optInt elems sliceV partsOf Nat.add_zero Nat.zero_add Nat.mul_one beq_self_eq_true litParts Bool.or_false Bool.false_or Bool.or_true Bool.true_or Bool.false_and Bool.and_false List.cons.injEq not_false_eq_true not_true_eq_false Nat.zero_le Nat.le_refl gt_iff_lt ge_iff_le List.drop_nil List.take_nil newBox List.length_append List.length_map bne_self_eq_false eq_self Nat.lt_add_one ne_eq false_implies Int.le_refl

theorem appV_grow {s : Store} {e sz bytes d i off m ver pr : Nat} {cs ys : List AV} {f : Bool} (hg : s.get d i = some (.arr e sz cs ver pr)) (h1 : (m + 1) * bytes ≤ 140737488355328) (h2 : off + m * sz ≤ cs.length) (hy : ys.length = 1 * sz)
    (hyc : cellsOk 0 ys = true) (hp : pr ≤ off + m * sz) :
    appV s e sz bytes (.slr d i off m ver false) (.imm f 1 ys) = some (.slr d i 0 (m + 1) (ver + 1) false, s.set d i (.arr e sz ((cs.drop off).take (m * sz) ++ ys) (ver + 1) (pr - off))) := by
  have hc' : cellsOk (d + 1) ys = true := cellsOk_mono (Nat.zero_le _) hyc
  simp only [appV, srcOf, elems, Option.bind_some, appTo, hg, h1, h2, hy, hc', hp, true_and, and_self, if_true, Bool.false_eq_true, if_false]

set_option maxHeartbeats 4000000 in
theorem touch_first {s : Store} {o0 o1 o2 o3 o4 : Ae.Obj} {w : AV} {half low next p off : Int} (h1 : 0 ≤ low) (h2 : next ≤ 1000000) (hin : inB low next p off = true) :
    callF (tab tbl) noCall 96 [.ptr (s.low.length + 1) 5 0, .int .i64 p, .int .i64 off] (frm s [o0, o1, o2, o3, o4, .box 26 [w, .int .i64 half, .int .i64 low, .int .i64 next, .imm true 0 []]]) =
      some (.bool true, frm s [o0, o1, o2, o3, o4, .box 26 [w, .int .i64 half, .int .i64 low, .int .i64 next, .slr (s.low.length + 1) 6 0 1 0 false], .arr 99 3 [.int .i64 (p + off), .int .i64 low, .int .i64 next] 0 0]) := by
  unfold inB at hin
  simp only [decide_eq_true_eq] at hin
  obtain ⟨i1, i2, i3, i4⟩ := hin
  have hA : low ≤ p ∧ p ≤ next - 1 := ⟨i1, by omega⟩
  have hB : ¬ off < 0 := by omega
  have hC : ¬ next - p ≤ off := by omega
  have hw : IntKind.i64.wrap (next - p) = next - p := wrap_id (by omega) (by omega)
  have hw2 : IntKind.i64.wrap (p + off) = p + off := wrap_id (by omega) (by omega)
  have hg : (frm s [o0, o1, o2, o3, o4, .box 26 [w, .int .i64 half, .int .i64 low, .int .i64 next, .imm true 0 []]]).get (s.low.length + 1) 5 = some (.box 26 [w, .int .i64 half, .int .i64 low, .int .i64 next, .imm true 0 []]) := by rw [frm_get_top]; rfl
  have ht := taken_ok (p := p) hg (by omega) h2
  have ha := fun (q : Store) => appV_new (s := q) (e := 99) (sz := 3) (bytes := 24) (n := 1) (f := true) (cs := [.int .i64 (p + off), .int .i64 low, .int .i64 next]) rfl rfl (by omega) (by omega)
  apply funI (fc := c96) rfl (by simp only [c96, push_cast, reduceCtorEq, Nat.reduceAdd, Nat.reduceSub, Nat.reduceMul, Nat.reduceLeDiff, Nat.reduceLT, Nat.reduceEqDiff, Int.reduceToNat, Int.reduceLT, Int.reduceLE, Int.reduceBEq, Int.reduceEq, Int.reduceSub, Int.reduceAdd, Int.reduceMul, Int.reduceNeg, fillL, repL, ht, hA, hB, hw, hC, hw2, ha]; rfl)
  · simp only [c96, st0, push_frm, if_false, if_true, Bool.false_eq_true, Nat.reduceSub, List.replicate, List.cons_append, List.nil_append, ht, hA, hB, hw, hC, hw2, ha]
    repeat' (first
      | with_reducible exact opsNil
      | with_reducible exact retI
      | with_reducible exact skipI
      | with_reducible exact exitI
      | with_reducible exact if_pos rfl
      | with_reducible exact if_neg (by decide)
      | (with_reducible apply seqI)
      | (with_reducible apply regI)
      | (with_reducible apply regD)
      | with_reducible exact trNil
      | (with_reducible apply blockI)
      | (with_reducible apply condT; focus (simp only [push_cast, reduceCtorEq, Nat.reduceAdd, Nat.reduceSub, Nat.reduceMul, Nat.reduceLeDiff, Nat.reduceLT, Nat.reduceEqDiff, Int.reduceToNat, Int.reduceLT, Int.reduceLE, Int.reduceBEq, Int.reduceEq, Int.reduceSub, Int.reduceAdd, Int.reduceMul, Int.reduceNeg, fillL, repL, ht, hA, hB, hw, hC, hw2, ha]; done))
      | (with_reducible apply condF; focus (simp only [push_cast, reduceCtorEq, Nat.reduceAdd, Nat.reduceSub, Nat.reduceMul, Nat.reduceLeDiff, Nat.reduceLT, Nat.reduceEqDiff, Int.reduceToNat, Int.reduceLT, Int.reduceLE, Int.reduceBEq, Int.reduceEq, Int.reduceSub, Int.reduceAdd, Int.reduceMul, Int.reduceNeg, fillL, repL, ht, hA, hB, hw, hC, hw2, ha]; done))
      | (with_reducible apply opsCons (by simp only [push_cast, reduceCtorEq, Nat.reduceAdd, Nat.reduceSub, Nat.reduceMul, Nat.reduceLeDiff, Nat.reduceLT, Nat.reduceEqDiff, Int.reduceToNat, Int.reduceLT, Int.reduceLE, Int.reduceBEq, Int.reduceEq, Int.reduceSub, Int.reduceAdd, Int.reduceMul, Int.reduceNeg, fillL, repL, frm_get, frm_set, set_set, ht, hA, hB, hw, hC, hw2, ha]; rfl); dsimp only [List.cons_append, List.nil_append, putV, List.set])
      | (with_reducible apply trCons (by simp only [push_cast, reduceCtorEq, Nat.reduceAdd, Nat.reduceSub, Nat.reduceMul, Nat.reduceLeDiff, Nat.reduceLT, Nat.reduceEqDiff, Int.reduceToNat, Int.reduceLT, Int.reduceLE, Int.reduceBEq, Int.reduceEq, Int.reduceSub, Int.reduceAdd, Int.reduceMul, Int.reduceNeg, fillL, repL, frm_get, frm_set, set_set, ht, hA, hB, hw, hC, hw2, ha]; rfl); dsimp only [List.cons_append, List.nil_append, putV, List.set])
      | (simp only [List.getLast?_cons_cons, List.getLast?_singleton]; rfl)
      | (refine (?_ : List.all _ _ = true); simp only [chkOne, noCall, same_self, push_cast, reduceCtorEq, Nat.reduceAdd, Nat.reduceSub, Nat.reduceMul, Nat.reduceLeDiff, Nat.reduceLT, Nat.reduceEqDiff, Int.reduceToNat, Int.reduceLT, Int.reduceLE, Int.reduceBEq, Int.reduceEq, Int.reduceSub, Int.reduceAdd, Int.reduceMul, Int.reduceNeg, fillL, repL, frm_get, frm_set, set_set, ht, hA, hB, hw, hC, hw2, ha]; done)
      | (dsimp only))
  · simp only [c96, push_cast, reduceCtorEq, Nat.reduceAdd, Nat.reduceSub, Nat.reduceMul, Nat.reduceLeDiff, Nat.reduceLT, Nat.reduceEqDiff, Int.reduceToNat, Int.reduceLT, Int.reduceLE, Int.reduceBEq, Int.reduceEq, Int.reduceSub, Int.reduceAdd, Int.reduceMul, Int.reduceNeg, fillL, repL, frm_get, frm_set, set_set, ht, hA, hB, hw, hC, hw2, ha]
set_option maxHeartbeats 4000000 in
theorem touch_more {s : Store} {o0 o1 o2 o3 o4 : Ae.Obj} {w : AV} {half low next p off : Int} {m : Nat} {ls : List AV} (h1 : 0 ≤ low) (h2 : next ≤ 1000000) (hin : inB low next p off = true) (hm : m < 4000) (hl : ls.length = m * 3) :
    callF (tab tbl) noCall 96 [.ptr (s.low.length + 1) 6 0, .int .i64 p, .int .i64 off] (frm s [o0, o1, o2, o3, o4, .arr 99 3 ls 0 0, .box 26 [w, .int .i64 half, .int .i64 low, .int .i64 next, .slr (s.low.length + 1) 5 0 m 0 false]]) =
      some (.bool true, frm s [o0, o1, o2, o3, o4, .arr 99 3 (ls ++ [.int .i64 (p + off), .int .i64 low, .int .i64 next]) 1 0, .box 26 [w, .int .i64 half, .int .i64 low, .int .i64 next, .slr (s.low.length + 1) 5 0 (m + 1) 1 false]]) := by
  unfold inB at hin
  simp only [decide_eq_true_eq] at hin
  obtain ⟨i1, i2, i3, i4⟩ := hin
  have hA : low ≤ p ∧ p ≤ next - 1 := ⟨i1, by omega⟩
  have hB : ¬ off < 0 := by omega
  have hC : ¬ next - p ≤ off := by omega
  have hw : IntKind.i64.wrap (next - p) = next - p := wrap_id (by omega) (by omega)
  have hw2 : IntKind.i64.wrap (p + off) = p + off := wrap_id (by omega) (by omega)
  have hg : (frm s [o0, o1, o2, o3, o4, .arr 99 3 ls 0 0, .box 26 [w, .int .i64 half, .int .i64 low, .int .i64 next, .slr (s.low.length + 1) 5 0 m 0 false]]).get (s.low.length + 1) 6 = some (.box 26 [w, .int .i64 half, .int .i64 low, .int .i64 next, .slr (s.low.length + 1) 5 0 m 0 false]) := by rw [frm_get_top]; rfl
  have ht := taken_ok (p := p) hg (by omega) h2
  have hm4 : ((m : Int) == 4000) = false := by simp; omega
  have ha := fun (q : Store) (hq : q.get (s.low.length + 1) 5 = some (.arr 99 3 ls 0 0)) => appV_grow (s := q) (bytes := 24) (f := true) (off := 0) (m := m) (ys := [.int .i64 (p + off), .int .i64 low, .int .i64 next]) hq (by omega) (by omega) rfl rfl (Nat.zero_le _)
  have ha' := ha (frm s [o0, o1, o2, o3, o4, .arr 99 3 ls 0 0, .box 26 [w, .int .i64 half, .int .i64 low, .int .i64 next, .slr (s.low.length + 1) 5 0 m 0 false]]) (by rw [frm_get_top]; rfl)
  rw [show (ls.drop 0).take (m * 3) = ls by rw [List.drop_zero, List.take_of_length_le (by omega)]] at ha'
  apply funI (fc := c96) rfl (by simp only [c96, push_cast, reduceCtorEq, Nat.reduceAdd, Nat.reduceSub, Nat.reduceMul, Nat.reduceLeDiff, Nat.reduceLT, Nat.reduceEqDiff, Int.reduceToNat, Int.reduceLT, Int.reduceLE, Int.reduceBEq, Int.reduceEq, Int.reduceSub, Int.reduceAdd, Int.reduceMul, Int.reduceNeg, fillL, repL, ht, hA, hB, hw, hC, hw2, hm4, ha']; rfl)
  · simp only [c96, st0, push_frm, if_false, if_true, Bool.false_eq_true, Nat.reduceSub, List.replicate, List.cons_append, List.nil_append, ht, hA, hB, hw, hC, hw2, hm4, ha']
    repeat' (first
      | with_reducible exact opsNil
      | with_reducible exact retI
      | with_reducible exact skipI
      | with_reducible exact exitI
      | with_reducible exact if_pos rfl
      | with_reducible exact if_neg (by decide)
      | (with_reducible apply seqI)
      | (with_reducible apply regI)
      | (with_reducible apply regD)
      | with_reducible exact trNil
      | (with_reducible apply blockI)
      | (with_reducible apply condT; focus (simp only [push_cast, reduceCtorEq, Nat.reduceAdd, Nat.reduceSub, Nat.reduceMul, Nat.reduceLeDiff, Nat.reduceLT, Nat.reduceEqDiff, Int.reduceToNat, Int.reduceLT, Int.reduceLE, Int.reduceBEq, Int.reduceEq, Int.reduceSub, Int.reduceAdd, Int.reduceMul, Int.reduceNeg, fillL, repL, ht, hA, hB, hw, hC, hw2, hm4, ha']; done))
      | (with_reducible apply condF; focus (simp only [push_cast, reduceCtorEq, Nat.reduceAdd, Nat.reduceSub, Nat.reduceMul, Nat.reduceLeDiff, Nat.reduceLT, Nat.reduceEqDiff, Int.reduceToNat, Int.reduceLT, Int.reduceLE, Int.reduceBEq, Int.reduceEq, Int.reduceSub, Int.reduceAdd, Int.reduceMul, Int.reduceNeg, fillL, repL, ht, hA, hB, hw, hC, hw2, hm4, ha']; done))
      | (with_reducible apply opsCons (by simp only [push_cast, reduceCtorEq, Nat.reduceAdd, Nat.reduceSub, Nat.reduceMul, Nat.reduceLeDiff, Nat.reduceLT, Nat.reduceEqDiff, Int.reduceToNat, Int.reduceLT, Int.reduceLE, Int.reduceBEq, Int.reduceEq, Int.reduceSub, Int.reduceAdd, Int.reduceMul, Int.reduceNeg, fillL, repL, frm_get, frm_set, set_set, ht, hA, hB, hw, hC, hw2, hm4, ha']; rfl); dsimp only [List.cons_append, List.nil_append, putV, List.set])
      | (with_reducible apply trCons (by simp only [push_cast, reduceCtorEq, Nat.reduceAdd, Nat.reduceSub, Nat.reduceMul, Nat.reduceLeDiff, Nat.reduceLT, Nat.reduceEqDiff, Int.reduceToNat, Int.reduceLT, Int.reduceLE, Int.reduceBEq, Int.reduceEq, Int.reduceSub, Int.reduceAdd, Int.reduceMul, Int.reduceNeg, fillL, repL, frm_get, frm_set, set_set, ht, hA, hB, hw, hC, hw2, hm4, ha']; rfl); dsimp only [List.cons_append, List.nil_append, putV, List.set])
      | (simp only [List.getLast?_cons_cons, List.getLast?_singleton]; rfl)
      | (refine (?_ : List.all _ _ = true); simp only [chkOne, noCall, same_self, push_cast, reduceCtorEq, Nat.reduceAdd, Nat.reduceSub, Nat.reduceMul, Nat.reduceLeDiff, Nat.reduceLT, Nat.reduceEqDiff, Int.reduceToNat, Int.reduceLT, Int.reduceLE, Int.reduceBEq, Int.reduceEq, Int.reduceSub, Int.reduceAdd, Int.reduceMul, Int.reduceNeg, fillL, repL, frm_get, frm_set, set_set, ht, hA, hB, hw, hC, hw2, hm4, ha']; done)
      | (dsimp only))
  · simp only [c96, push_cast, reduceCtorEq, Nat.reduceAdd, Nat.reduceSub, Nat.reduceMul, Nat.reduceLeDiff, Nat.reduceLT, Nat.reduceEqDiff, Int.reduceToNat, Int.reduceLT, Int.reduceLE, Int.reduceBEq, Int.reduceEq, Int.reduceSub, Int.reduceAdd, Int.reduceMul, Int.reduceNeg, fillL, repL, frm_get, frm_set, set_set, ht, hA, hB, hw, hC, hw2, hm4, ha']
set_option maxHeartbeats 4000000 in
theorem touch_full {s : Store} {o0 o1 o2 o3 o4 : Ae.Obj} {w : AV} {half low next p off : Int} {m : Nat} {ls : List AV} (h1 : 0 ≤ low) (h2 : next ≤ 1000000) (hin : inB low next p off = true) (hm : m = 4000) (hl : ls.length = m * 3) :
    callF (tab tbl) noCall 96 [.ptr (s.low.length + 1) 6 0, .int .i64 p, .int .i64 off] (frm s [o0, o1, o2, o3, o4, .arr 99 3 ls 0 0, .box 26 [w, .int .i64 half, .int .i64 low, .int .i64 next, .slr (s.low.length + 1) 5 0 m 0 false]]) =
      some (.bool true, frm s [o0, o1, o2, o3, o4, .arr 99 3 (ls.drop 3 ++ [.int .i64 (p + off), .int .i64 low, .int .i64 next]) 1 0, .box 26 [w, .int .i64 half, .int .i64 low, .int .i64 next, .slr (s.low.length + 1) 5 0 4000 1 false]]) := by
  unfold inB at hin
  simp only [decide_eq_true_eq] at hin
  obtain ⟨i1, i2, i3, i4⟩ := hin
  have hA : low ≤ p ∧ p ≤ next - 1 := ⟨i1, by omega⟩
  have hB : ¬ off < 0 := by omega
  have hC : ¬ next - p ≤ off := by omega
  have hw : IntKind.i64.wrap (next - p) = next - p := wrap_id (by omega) (by omega)
  have hw2 : IntKind.i64.wrap (p + off) = p + off := wrap_id (by omega) (by omega)
  have hg : (frm s [o0, o1, o2, o3, o4, .arr 99 3 ls 0 0, .box 26 [w, .int .i64 half, .int .i64 low, .int .i64 next, .slr (s.low.length + 1) 5 0 m 0 false]]).get (s.low.length + 1) 6 = some (.box 26 [w, .int .i64 half, .int .i64 low, .int .i64 next, .slr (s.low.length + 1) 5 0 m 0 false]) := by rw [frm_get_top]; rfl
  have ht := taken_ok (p := p) hg (by omega) h2
  subst hm
  have c4 : ((4000 : Nat) : Int) = 4000 := rfl
  have ha := fun (q : Store) (hq : q.get (s.low.length + 1) 5 = some (.arr 99 3 ls 0 0)) => appV_grow (s := q) (bytes := 24) (f := true) (off := 3) (m := 3999) (ys := [.int .i64 (p + off), .int .i64 low, .int .i64 next]) hq (by omega) (by omega) rfl rfl (Nat.zero_le _)
  have ha' := ha (frm s [o0, o1, o2, o3, o4, .arr 99 3 ls 0 0, .box 26 [w, .int .i64 half, .int .i64 low, .int .i64 next, .slr (s.low.length + 1) 5 3 3999 0 false]]) (by rw [frm_get_top]; rfl)
  rw [show (ls.drop 3).take (3999 * 3) = ls.drop 3 by rw [List.take_of_length_le (by rw [List.length_drop]; omega)]] at ha'
  apply funI (fc := c96) rfl (by simp only [c96, push_cast, reduceCtorEq, Nat.reduceAdd, Nat.reduceSub, Nat.reduceMul, Nat.reduceLeDiff, Nat.reduceLT, Nat.reduceEqDiff, Int.reduceToNat, Int.reduceLT, Int.reduceLE, Int.reduceBEq, Int.reduceEq, Int.reduceSub, Int.reduceAdd, Int.reduceMul, Int.reduceNeg, fillL, repL, ht, hA, hB, hw, hC, hw2, c4, ha']; rfl)
  · simp only [c96, st0, push_frm, if_false, if_true, Bool.false_eq_true, Nat.reduceSub, List.replicate, List.cons_append, List.nil_append, ht, hA, hB, hw, hC, hw2, c4, ha']
    repeat' (first
      | with_reducible exact opsNil
      | with_reducible exact retI
      | with_reducible exact skipI
      | with_reducible exact exitI
      | with_reducible exact if_pos rfl
      | with_reducible exact if_neg (by decide)
      | (with_reducible apply seqI)
      | (with_reducible apply regI)
      | (with_reducible apply regD)
      | with_reducible exact trNil
      | (with_reducible apply blockI)
      | (with_reducible apply condT; focus (simp only [push_cast, reduceCtorEq, Nat.reduceAdd, Nat.reduceSub, Nat.reduceMul, Nat.reduceLeDiff, Nat.reduceLT, Nat.reduceEqDiff, Int.reduceToNat, Int.reduceLT, Int.reduceLE, Int.reduceBEq, Int.reduceEq, Int.reduceSub, Int.reduceAdd, Int.reduceMul, Int.reduceNeg, fillL, repL, ht, hA, hB, hw, hC, hw2, c4, ha']; done))
      | (with_reducible apply condF; focus (simp only [push_cast, reduceCtorEq, Nat.reduceAdd, Nat.reduceSub, Nat.reduceMul, Nat.reduceLeDiff, Nat.reduceLT, Nat.reduceEqDiff, Int.reduceToNat, Int.reduceLT, Int.reduceLE, Int.reduceBEq, Int.reduceEq, Int.reduceSub, Int.reduceAdd, Int.reduceMul, Int.reduceNeg, fillL, repL, ht, hA, hB, hw, hC, hw2, c4, ha']; done))
      | (with_reducible apply opsCons (by simp only [push_cast, reduceCtorEq, Nat.reduceAdd, Nat.reduceSub, Nat.reduceMul, Nat.reduceLeDiff, Nat.reduceLT, Nat.reduceEqDiff, Int.reduceToNat, Int.reduceLT, Int.reduceLE, Int.reduceBEq, Int.reduceEq, Int.reduceSub, Int.reduceAdd, Int.reduceMul, Int.reduceNeg, fillL, repL, frm_get, frm_set, set_set, ht, hA, hB, hw, hC, hw2, c4, ha']; rfl); dsimp only [List.cons_append, List.nil_append, putV, List.set])
      | (with_reducible apply trCons (by simp only [push_cast, reduceCtorEq, Nat.reduceAdd, Nat.reduceSub, Nat.reduceMul, Nat.reduceLeDiff, Nat.reduceLT, Nat.reduceEqDiff, Int.reduceToNat, Int.reduceLT, Int.reduceLE, Int.reduceBEq, Int.reduceEq, Int.reduceSub, Int.reduceAdd, Int.reduceMul, Int.reduceNeg, fillL, repL, frm_get, frm_set, set_set, ht, hA, hB, hw, hC, hw2, c4, ha']; rfl); dsimp only [List.cons_append, List.nil_append, putV, List.set])
      | (simp only [List.getLast?_cons_cons, List.getLast?_singleton]; rfl)
      | (refine (?_ : List.all _ _ = true); simp only [chkOne, noCall, same_self, push_cast, reduceCtorEq, Nat.reduceAdd, Nat.reduceSub, Nat.reduceMul, Nat.reduceLeDiff, Nat.reduceLT, Nat.reduceEqDiff, Int.reduceToNat, Int.reduceLT, Int.reduceLE, Int.reduceBEq, Int.reduceEq, Int.reduceSub, Int.reduceAdd, Int.reduceMul, Int.reduceNeg, fillL, repL, frm_get, frm_set, set_set, ht, hA, hB, hw, hC, hw2, c4, ha']; done)
      | (dsimp only))
  · simp only [c96, push_cast, reduceCtorEq, Nat.reduceAdd, Nat.reduceSub, Nat.reduceMul, Nat.reduceLeDiff, Nat.reduceLT, Nat.reduceEqDiff, Int.reduceToNat, Int.reduceLT, Int.reduceLE, Int.reduceBEq, Int.reduceEq, Int.reduceSub, Int.reduceAdd, Int.reduceMul, Int.reduceNeg, fillL, repL, frm_get, frm_set, set_set, ht, hA, hB, hw, hC, hw2, c4, ha']
end Go.Proofs.Ythogcanomihelaa.Ga
