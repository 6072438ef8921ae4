/- An entry put in a world of a frame, as the reference does. -/
import Derived.Test.YthogcanomihelaaWa
set_option linter.unusedSimpArgs false
set_option linter.unusedVariables false
namespace Go.Proofs.Ythogcanomihelaa.Gw
open Go Go.Proofs Go.Proofs.Ythogcanomihelaa.Ae
attribute [local congr] obind_congr
attribute [local push_cast] exF argsV frzs frz frzL frz1 exS_reg exS_seq exS_cond exS_alt exS_block exS_loop exS_exit exS_ret exS_skip evReg evOps evOne evAct evOp rd putV st0 evEnd resV resL resOne oneOr frzR loadV storeV binV binI unV push_frm pop_frm frm_len frm_top frm_get_top frm_set_top frm_new AV.cells AV.lowB AV.lowL AV.isCell cellsOk set_len Option.bind_some Option.map_some Option.map_none List.getD_cons_zero List.getD_cons_succ List.nil_append List.cons_append List.append_nil List.length_cons List.length_nil List.set_cons_zero List.set_cons_succ List.map_cons List.map_nil List.replicate if_true if_false ite_true ite_false ite_self Bool.false_eq_true List.all_cons List.all_nil Bool.and_true Bool.true_and Bool.and_self Bool.and_eq_true List.getElem?_cons_zero List.getElem?_cons_succ List.drop_succ_cons List.drop_zero List.take_succ_cons List.take_zero true_and and_true and_self decide_true decide_false Bool.not_true Bool.not_false Prod.mk.injEq Option.some.injEq List.getElem?_drop optInt elems sliceV partsOf Nat.add_zero Nat.zero_add Nat.mul_one beq_self_eq_true litParts Bool.or_false Bool.false_or Bool.or_true Bool.true_or Bool.false_and Bool.and_false List.cons.injEq not_false_eq_true not_true_eq_false Nat.zero_le Nat.le_refl gt_iff_lt ge_iff_le List.drop_nil List.take_nil newBox List.length_append List.length_map bne_self_eq_false eq_self Nat.lt_add_one ne_eq false_implies Int.le_refl

set_option maxHeartbeats 4000000 in
theorem l11put_ok {s : Store} {T : List Ae.Obj} {D i : Nat} {t a b : Int} {ds : List Int} {st : List (Int × Int)} {tr : List Ev} (hD : D = s.low.length + 1) (hW : WAt D T i t ds st tr) (hn : st.length ≤ 1000) :
    ∃ v s', callF (tab tbl) prim 98 [.ptr D i 0, .int .i64 a, .int .i64 b] (frm s T) = some (v, s') ∧ ∃ T', v = .tup [] ∧ s' = frm s T' ∧ WAt D T' i t ds (putL a b st) tr ∧ KpW i T T' := by
  obtain ⟨dv, sv, tv, hbx, hd, hs, ht⟩ := hW
  have hs' := hs
  obtain ⟨h0, ⟨rfl, hn0⟩ | ⟨k, off, ver, all, rfl, hk, hall, hlen⟩⟩ := hs
  · have hst : st = [] := List.length_eq_zero_iff.1 hn0
    subst hst
    subst hD
    refine funW (fc := c98) rfl (by simp (disch := first | omega | assumption | (simp only [set_len, frm_len, List.length_set, List.length_append, List.length_cons, List.length_nil]; first | done | omega) | (simp only [seqOk, List.length_cons, List.length_nil, Nat.reduceAdd, Nat.reduceMul, Nat.zero_mul, Nat.reduceBEq, beq_self_eq_true, Bool.and_self, Bool.and_true, Bool.true_and]; done) | fail) only [push_cast, reduceCtorEq, Nat.reduceAdd, Nat.reduceSub, Nat.reduceMul, Nat.reduceLeDiff, Nat.reduceLT, Nat.reduceEqDiff, Int.reduceToNat, Int.reduceLT, Int.reduceLE, Int.reduceBEq, Int.reduceEq, Int.reduceSub, Int.reduceAdd, Int.reduceMul, Int.reduceNeg, frm_get, frm_set, set_set, fill_ok, fillL_n, fillL_c, List.flatMap_cons, List.flatMap_nil, set_len, frm_getC, frm_setC, wrapI, wrapB, if_pos, if_neg, decT, decF, beqT, beqF, bneT, bneF, c98, hbx]; rfl) (by simp only [c98]; rfl) (by simp only [c98, st0, push_frm, if_false, if_true, Bool.false_eq_true, Nat.reduceSub, List.replicate, List.cons_append, List.nil_append]; rfl) ?_
    repeat' (first
      | (with_reducible apply wSeq)
      | (with_reducible apply wReg)
      | (with_reducible apply wBlock)
      | (with_reducible apply thenNor)
      | (with_reducible apply oNil)
      | ((with_reducible apply oOp); (focus (simp (disch := first | omega | assumption | (simp only [set_len, frm_len, List.length_set, List.length_append, List.length_cons, List.length_nil]; first | done | omega) | (simp only [seqOk, List.length_cons, List.length_nil, Nat.reduceAdd, Nat.reduceMul, Nat.zero_mul, Nat.reduceBEq, beq_self_eq_true, Bool.and_self, Bool.and_true, Bool.true_and]; done) | fail) only [push_cast, reduceCtorEq, Nat.reduceAdd, Nat.reduceSub, Nat.reduceMul, Nat.reduceLeDiff, Nat.reduceLT, Nat.reduceEqDiff, Int.reduceToNat, Int.reduceLT, Int.reduceLE, Int.reduceBEq, Int.reduceEq, Int.reduceSub, Int.reduceAdd, Int.reduceMul, Int.reduceNeg, frm_get, frm_set, set_set, fill_ok, fillL_n, fillL_c, List.flatMap_cons, List.flatMap_nil, set_len, frm_getC, frm_setC, wrapI, wrapB, if_pos, if_neg, decT, decF, beqT, beqF, bneT, bneF, hbx]; rfl)); (focus rfl); (first | with_reducible apply nT | with_reducible apply nF | (with_reducible refine nB (fun hb => ?_) (fun hb => ?_) <;> (try simp only [decide_eq_true_eq, decide_eq_false_iff_not, beq_iff_eq, bne_iff_ne, ne_eq, beq_eq_false_iff_ne, bne_eq_false_iff_eq, Decidable.not_not, Int.not_lt, Int.not_le] at hb)) | with_reducible apply nV) <;> dsimp only [List.cons_append, List.nil_append, putV, List.set]))
    refine wLoop (fun m x => m = 0 ∧ x = ⟨[.ptr (s.low.length + 1) i 0, .int .i64 a, .int .i64 b, .int .i64 0, .undef, .undef, .undef, .undef], frm s T⟩) 0 ?_ ?_
    · exact ⟨rfl, rfl⟩
    · rintro m x ⟨rfl, rfl⟩
      have A1 := slAt_app (bytes := 16) (y := .imm true 0 []) (s := s) (SlAt.nil (s.low.length + 1) T 113 2) rfl (by decide) rfl rfl rfl (by omega)
      repeat' (first
        | (with_reducible apply wSeq)
        | (with_reducible apply wReg)
        | (with_reducible apply thenNor)
        | (with_reducible apply thenExit)
        | (with_reducible apply blockExit)
        | (with_reducible apply oNil)
        | (with_reducible apply wExit)
        | (with_reducible apply wSkip)
        | (with_reducible apply loopExit)
        | ((with_reducible apply wCondF); (focus (simp only [rd, List.getD_cons_zero, List.getD_cons_succ]; done)))
        | ((with_reducible apply oApp (h := A1)); (focus (simp only [rd, List.getD_cons_zero, List.getD_cons_succ] <;> rfl)); (focus (simp only [rd, List.getD_cons_zero, List.getD_cons_succ] <;> rfl)); rintro _ _ ⟨T1, rfl, hS1, ho1, hc1⟩; (first | with_reducible apply nT | with_reducible apply nF | (with_reducible refine nB (fun hb => ?_) (fun hb => ?_) <;> (try simp only [decide_eq_true_eq, decide_eq_false_iff_not, beq_iff_eq, bne_iff_ne, ne_eq, beq_eq_false_iff_ne, bne_eq_false_iff_eq, Decidable.not_not, Int.not_lt, Int.not_le] at hb)) | with_reducible apply nV) <;> dsimp only [List.cons_append, List.nil_append, putV, List.set])
        | ((with_reducible apply oOp); (focus (simp (disch := first | omega | assumption | (simp only [set_len, frm_len, List.length_set, List.length_append, List.length_cons, List.length_nil]; first | done | omega) | (simp only [seqOk, List.length_cons, List.length_nil, Nat.reduceAdd, Nat.reduceMul, Nat.zero_mul, Nat.reduceBEq, beq_self_eq_true, Bool.and_self, Bool.and_true, Bool.true_and]; done) | fail) only [push_cast, reduceCtorEq, Nat.reduceAdd, Nat.reduceSub, Nat.reduceMul, Nat.reduceLeDiff, Nat.reduceLT, Nat.reduceEqDiff, Int.reduceToNat, Int.reduceLT, Int.reduceLE, Int.reduceBEq, Int.reduceEq, Int.reduceSub, Int.reduceAdd, Int.reduceMul, Int.reduceNeg, frm_get, frm_set, set_set, fill_ok, fillL_n, fillL_c, List.flatMap_cons, List.flatMap_nil, set_len, frm_getC, frm_setC, wrapI, wrapB, if_pos, if_neg, decT, decF, beqT, beqF, bneT, bneF, hbx]; rfl)); (focus rfl); (first | with_reducible apply nT | with_reducible apply nF | (with_reducible refine nB (fun hb => ?_) (fun hb => ?_) <;> (try simp only [decide_eq_true_eq, decide_eq_false_iff_not, beq_iff_eq, bne_iff_ne, ne_eq, beq_eq_false_iff_ne, bne_eq_false_iff_eq, Decidable.not_not, Int.not_lt, Int.not_le] at hb)) | with_reducible apply nV) <;> dsimp only [List.cons_append, List.nil_append, putV, List.set]))
      have hbx1 := ho1.box hbx
      have A2 := slAt_app (bytes := 16) (y := .imm true 1 [.int .i64 a, .int .i64 b]) hS1 rfl (by decide) rfl rfl rfl (by omega)
      repeat' (first
        | (with_reducible apply wReg)
        | (with_reducible apply thenNor)
        | (with_reducible apply oNil)
        | ((with_reducible apply oApp (h := A2)); (focus (simp only [rd, List.getD_cons_zero, List.getD_cons_succ] <;> rfl)); (focus (simp only [rd, List.getD_cons_zero, List.getD_cons_succ] <;> rfl)); rintro _ _ ⟨T2, rfl, hS2, ho2, hc2⟩; (first | with_reducible apply nT | with_reducible apply nF | (with_reducible refine nB (fun hb => ?_) (fun hb => ?_) <;> (try simp only [decide_eq_true_eq, decide_eq_false_iff_not, beq_iff_eq, bne_iff_ne, ne_eq, beq_eq_false_iff_ne, bne_eq_false_iff_eq, Decidable.not_not, Int.not_lt, Int.not_le] at hb)) | with_reducible apply nV) <;> dsimp only [List.cons_append, List.nil_append, putV, List.set])
        | ((with_reducible apply oOp); (focus (simp (disch := first | omega | assumption | (simp only [set_len, frm_len, List.length_set, List.length_append, List.length_cons, List.length_nil]; first | done | omega) | (simp only [seqOk, List.length_cons, List.length_nil, Nat.reduceAdd, Nat.reduceMul, Nat.zero_mul, Nat.reduceBEq, beq_self_eq_true, Bool.and_self, Bool.and_true, Bool.true_and]; done) | fail) only [push_cast, reduceCtorEq, Nat.reduceAdd, Nat.reduceSub, Nat.reduceMul, Nat.reduceLeDiff, Nat.reduceLT, Nat.reduceEqDiff, Int.reduceToNat, Int.reduceLT, Int.reduceLE, Int.reduceBEq, Int.reduceEq, Int.reduceSub, Int.reduceAdd, Int.reduceMul, Int.reduceNeg, frm_get, frm_set, set_set, fill_ok, fillL_n, fillL_c, List.flatMap_cons, List.flatMap_nil, set_len, frm_getC, frm_setC, wrapI, wrapB, if_pos, if_neg, decT, decF, beqT, beqF, bneT, bneF, hbx1]; rfl)); (focus rfl); (first | with_reducible apply nT | with_reducible apply nF | (with_reducible refine nB (fun hb => ?_) (fun hb => ?_) <;> (try simp only [decide_eq_true_eq, decide_eq_false_iff_not, beq_iff_eq, bne_iff_ne, ne_eq, beq_eq_false_iff_ne, bne_eq_false_iff_eq, Decidable.not_not, Int.not_lt, Int.not_le] at hb)) | with_reducible apply nV) <;> dsimp only [List.cons_append, List.nil_append, putV, List.set]))
      have hbx2 := ho2.box hbx1
      have A3 := slAt_app (bytes := 16) (y := .imm true 0 []) hS2 rfl (by decide) rfl rfl rfl (by omega)
      repeat' (first
        | ((with_reducible apply oApp (h := A3)); (focus (simp only [rd, List.getD_cons_zero, List.getD_cons_succ] <;> rfl)); (focus (simp only [rd, List.getD_cons_zero, List.getD_cons_succ] <;> rfl)); rintro _ _ ⟨T3, rfl, hS3, ho3, hc3⟩; (first | with_reducible apply nT | with_reducible apply nF | (with_reducible refine nB (fun hb => ?_) (fun hb => ?_) <;> (try simp only [decide_eq_true_eq, decide_eq_false_iff_not, beq_iff_eq, bne_iff_ne, ne_eq, beq_eq_false_iff_ne, bne_eq_false_iff_eq, Decidable.not_not, Int.not_lt, Int.not_le] at hb)) | with_reducible apply nV) <;> dsimp only [List.cons_append, List.nil_append, putV, List.set])
        | ((with_reducible apply oOp); (focus (simp (disch := first | omega | assumption | (simp only [set_len, frm_len, List.length_set, List.length_append, List.length_cons, List.length_nil]; first | done | omega) | (simp only [seqOk, List.length_cons, List.length_nil, Nat.reduceAdd, Nat.reduceMul, Nat.zero_mul, Nat.reduceBEq, beq_self_eq_true, Bool.and_self, Bool.and_true, Bool.true_and]; done) | fail) only [push_cast, reduceCtorEq, Nat.reduceAdd, Nat.reduceSub, Nat.reduceMul, Nat.reduceLeDiff, Nat.reduceLT, Nat.reduceEqDiff, Int.reduceToNat, Int.reduceLT, Int.reduceLE, Int.reduceBEq, Int.reduceEq, Int.reduceSub, Int.reduceAdd, Int.reduceMul, Int.reduceNeg, frm_get, frm_set, set_set, fill_ok, fillL_n, fillL_c, List.flatMap_cons, List.flatMap_nil, set_len, frm_getC, frm_setC, wrapI, wrapB, if_pos, if_neg, decT, decF, beqT, beqF, bneT, bneF, hbx2]; rfl)); (focus rfl); (first | with_reducible apply nT | with_reducible apply nF | (with_reducible refine nB (fun hb => ?_) (fun hb => ?_) <;> (try simp only [decide_eq_true_eq, decide_eq_false_iff_not, beq_iff_eq, bne_iff_ne, ne_eq, beq_eq_false_iff_ne, bne_eq_false_iff_eq, Decidable.not_not, Int.not_lt, Int.not_le] at hb)) | with_reducible apply nV) <;> dsimp only [List.cons_append, List.nil_append, putV, List.set]))
      have hbx3 := ho3.box hbx2
      obtain ⟨k3, off3, ver3, all3, rfl, -, -, -⟩ := hS3.pos (by omega)
      repeat' (first
        | (with_reducible apply oNil)
        | ((with_reducible apply oOp); (focus (simp (disch := first | omega | assumption | (simp only [set_len, frm_len, List.length_set, List.length_append, List.length_cons, List.length_nil]; first | done | omega) | (simp only [seqOk, List.length_cons, List.length_nil, Nat.reduceAdd, Nat.reduceMul, Nat.zero_mul, Nat.reduceBEq, beq_self_eq_true, Bool.and_self, Bool.and_true, Bool.true_and]; done) | fail) only [push_cast, reduceCtorEq, Nat.reduceAdd, Nat.reduceSub, Nat.reduceMul, Nat.reduceLeDiff, Nat.reduceLT, Nat.reduceEqDiff, Int.reduceToNat, Int.reduceLT, Int.reduceLE, Int.reduceBEq, Int.reduceEq, Int.reduceSub, Int.reduceAdd, Int.reduceMul, Int.reduceNeg, frm_get, frm_set, set_set, fill_ok, fillL_n, fillL_c, List.flatMap_cons, List.flatMap_nil, set_len, frm_getC, frm_setC, wrapI, wrapB, if_pos, if_neg, decT, decF, beqT, beqF, bneT, bneF, hbx3]; rfl)); (focus rfl); (first | with_reducible apply nT | with_reducible apply nF | (with_reducible refine nB (fun hb => ?_) (fun hb => ?_) <;> (try simp only [decide_eq_true_eq, decide_eq_false_iff_not, beq_iff_eq, bne_iff_ne, ne_eq, beq_eq_false_iff_ne, bne_eq_false_iff_eq, Decidable.not_not, Int.not_lt, Int.not_le] at hb)) | with_reducible apply nV) <;> dsimp only [List.cons_append, List.nil_append, putV, List.set])
        | ((with_reducible apply endI); (focus (simp (disch := first | omega | assumption | (simp only [set_len, frm_len, List.length_set, List.length_append, List.length_cons, List.length_nil]; first | done | omega) | (simp only [seqOk, List.length_cons, List.length_nil, Nat.reduceAdd, Nat.reduceMul, Nat.zero_mul, Nat.reduceBEq, beq_self_eq_true, Bool.and_self, Bool.and_true, Bool.true_and]; done) | fail) only [push_cast, reduceCtorEq, Nat.reduceAdd, Nat.reduceSub, Nat.reduceMul, Nat.reduceLeDiff, Nat.reduceLT, Nat.reduceEqDiff, Int.reduceToNat, Int.reduceLT, Int.reduceLE, Int.reduceBEq, Int.reduceEq, Int.reduceSub, Int.reduceAdd, Int.reduceMul, Int.reduceNeg, frm_get, frm_set, set_set, fill_ok, fillL_n, fillL_c, List.flatMap_cons, List.flatMap_nil, set_len, frm_getC, frm_setC, wrapI, wrapB, if_pos, if_neg, decT, decF, beqT, beqF, bneT, bneF, c98, hbx3]; rfl)); (focus rfl)))
      refine ⟨_, rfl, rfl, ⟨dv, _, tv, List.getElem?_set_self (List.getElem?_eq_some_iff.1 hbx3).1, ?_, ?_, ?_⟩, ((ho1.kp.trans ho2.kp).trans ho3.kp).trans (kp_set _ hbx3)⟩
      · exact (((hd.other ho1 (by decide)).other ho2 (by decide)).other ho3 (by decide)).box hbx3 _
      · exact hS3.box hbx3 _
      · exact (((ht.other ho1 (by decide)).other ho2 (by decide)).other ho3 (by decide)).box hbx3 _
  · subst hD
    refine funW (fc := c98) rfl (by simp (disch := first | omega | assumption | (simp only [set_len, frm_len, List.length_set, List.length_append, List.length_cons, List.length_nil]; first | done | omega) | (simp only [seqOk, List.length_cons, List.length_nil, Nat.reduceAdd, Nat.reduceMul, Nat.zero_mul, Nat.reduceBEq, beq_self_eq_true, Bool.and_self, Bool.and_true, Bool.true_and]; done) | fail) only [push_cast, reduceCtorEq, Nat.reduceAdd, Nat.reduceSub, Nat.reduceMul, Nat.reduceLeDiff, Nat.reduceLT, Nat.reduceEqDiff, Int.reduceToNat, Int.reduceLT, Int.reduceLE, Int.reduceBEq, Int.reduceEq, Int.reduceSub, Int.reduceAdd, Int.reduceMul, Int.reduceNeg, frm_get, frm_set, set_set, fill_ok, fillL_n, fillL_c, List.flatMap_cons, List.flatMap_nil, set_len, frm_getC, frm_setC, wrapI, wrapB, if_pos, if_neg, decT, decF, beqT, beqF, bneT, bneF, c98, hbx, hk]; rfl) (by simp only [c98]; rfl) (by simp only [c98, st0, push_frm, if_false, if_true, Bool.false_eq_true, Nat.reduceSub, List.replicate, List.cons_append, List.nil_append]; rfl) ?_
    repeat' (first
      | (with_reducible apply wSeq)
      | (with_reducible apply wReg)
      | (with_reducible apply wBlock)
      | (with_reducible apply thenNor)
      | (with_reducible apply oNil)
      | ((with_reducible apply oOp); (focus (simp (disch := first | omega | assumption | (simp only [set_len, frm_len, List.length_set, List.length_append, List.length_cons, List.length_nil]; first | done | omega) | (simp only [seqOk, List.length_cons, List.length_nil, Nat.reduceAdd, Nat.reduceMul, Nat.zero_mul, Nat.reduceBEq, beq_self_eq_true, Bool.and_self, Bool.and_true, Bool.true_and]; done) | fail) only [push_cast, reduceCtorEq, Nat.reduceAdd, Nat.reduceSub, Nat.reduceMul, Nat.reduceLeDiff, Nat.reduceLT, Nat.reduceEqDiff, Int.reduceToNat, Int.reduceLT, Int.reduceLE, Int.reduceBEq, Int.reduceEq, Int.reduceSub, Int.reduceAdd, Int.reduceMul, Int.reduceNeg, frm_get, frm_set, set_set, fill_ok, fillL_n, fillL_c, List.flatMap_cons, List.flatMap_nil, set_len, frm_getC, frm_setC, wrapI, wrapB, if_pos, if_neg, decT, decF, beqT, beqF, bneT, bneF, hbx, hk]; rfl)); (focus rfl); (first | with_reducible apply nT | with_reducible apply nF | (with_reducible refine nB (fun hb => ?_) (fun hb => ?_) <;> (try simp only [decide_eq_true_eq, decide_eq_false_iff_not, beq_iff_eq, bne_iff_ne, ne_eq, beq_eq_false_iff_ne, bne_eq_false_iff_eq, Decidable.not_not, Int.not_lt, Int.not_le] at hb)) | with_reducible apply nV) <;> dsimp only [List.cons_append, List.nil_append, putV, List.set]))
    refine wLoop (fun m x => ∃ (q : Int) (y5 : AV), (m : Int) = st.length - q ∧ 0 ≤ q ∧ (∀ j, (hj : j < st.length) → (j : Int) < q → st[j].1 < a) ∧ x = ⟨[.ptr (s.low.length + 1) i 0, .int .i64 a, .int .i64 b, .int .i64 q, .undef, y5, .undef, .undef], frm s T⟩) st.length ?_ ?_
    · exact ⟨0, _, by omega, by omega, fun j hj h => by omega, rfl⟩
    · rintro m x ⟨q, y5, hm, hq, hlt, rfl⟩
      have hkl := (List.getElem?_eq_some_iff.1 hk).1
      have hsl : srcOf (frm s T) (.slr (s.low.length + 1) k off (q - 0).toNat ver false) = some ((q - 0).toNat, prs (st.take q.toNat)) := by
        have h5 : off + (q - 0).toNat * 2 ≤ all.length := by omega
        simp only [srcOf, elems, frm_get_top, hk, h5, and_self, if_true]
        rw [← prs_take, ← hall, List.take_take, show min (q.toNat * 2) (st.length * 2) = (q - 0).toNat * 2 by omega]
      have A1 := slAt_app (bytes := 16) (SlAt.nil (s.low.length + 1) T 113 2) rfl (by decide) hsl (prs_ok _) (by rw [prs_len, List.length_take]; omega) (by omega)
      by_cases hql : q < st.length
      · have hj : q.toNat < st.length := by omega
        obtain ⟨x1, x2⟩ := prs_at st q.toNat hj
        have hx1 := part_at hall x1
        have hx2 := part_at hall x2
        have hkey : (st[q.toNat].1 < a → False) → keyAt a st = q.toNat := fun h => keyAt_eq (fun j hj hji => hlt j hj (by omega)) (by omega) (fun _ hh => h hh)
        have e1 : a ≤ st[q.toNat].1 → st[q.toNat].1 = a → putL a b st = st.set q.toNat (st[q.toNat].1, b) := fun h1 h2 => by
          unfold putL
          rw [hkey (by omega), if_pos (by simp [isAt, List.getElem?_eq_getElem hj, h2]), h2]
        have e2 : a ≤ st[q.toNat].1 → ¬ st[q.toNat].1 = a → 20 ≤ (st.length : Int) → putL a b st = st := fun h1 h2 h3 => by
          unfold putL
          rw [hkey (by omega), if_neg (by simp [isAt, List.getElem?_eq_getElem hj, h2]), if_pos (by omega)]
        have e3 : a ≤ st[q.toNat].1 → ¬ st[q.toNat].1 = a → (st.length : Int) < 20 → putL a b st = st.take q.toNat ++ [(a, b)] ++ st.drop q.toNat := fun h1 h2 h3 => by
          unfold putL
          rw [hkey (by omega), if_neg (by simp [isAt, List.getElem?_eq_getElem hj, h2]), if_neg (by omega)]
        repeat' (first
          | (with_reducible apply wSeq)
          | (with_reducible apply wReg)
          | (with_reducible apply wBlock)
          | (with_reducible apply thenNor)
          | (with_reducible apply thenRet)
          | (with_reducible apply thenExit)
          | (with_reducible apply blockNor)
          | (with_reducible apply blockExit)
          | (with_reducible apply oNil)
          | (with_reducible apply wExit)
          | (with_reducible apply wRet)
          | (with_reducible apply wSkip)
          | (with_reducible apply loopExit)
          | ((with_reducible apply wCondT); (focus (simp only [rd, List.getD_cons_zero, List.getD_cons_succ]; done)))
          | ((with_reducible apply wCondF); (focus (simp only [rd, List.getD_cons_zero, List.getD_cons_succ]; done)))
          | ((with_reducible apply oApp (h := A1)); (focus (simp only [rd, List.getD_cons_zero, List.getD_cons_succ] <;> rfl)); (focus (simp only [rd, List.getD_cons_zero, List.getD_cons_succ] <;> rfl)); rintro _ _ ⟨T1, rfl, hS1, ho1, hc1⟩; (first | with_reducible apply nT | with_reducible apply nF | (with_reducible refine nB (fun hb => ?_) (fun hb => ?_) <;> (try simp only [decide_eq_true_eq, decide_eq_false_iff_not, beq_iff_eq, bne_iff_ne, ne_eq, beq_eq_false_iff_ne, bne_eq_false_iff_eq, Decidable.not_not, Int.not_lt, Int.not_le] at hb)) | with_reducible apply nV) <;> dsimp only [List.cons_append, List.nil_append, putV, List.set])
          | ((with_reducible apply oOp); (focus (simp (disch := first | omega | assumption | (simp only [set_len, frm_len, List.length_set, List.length_append, List.length_cons, List.length_nil]; first | done | omega) | (simp only [seqOk, List.length_cons, List.length_nil, Nat.reduceAdd, Nat.reduceMul, Nat.zero_mul, Nat.reduceBEq, beq_self_eq_true, Bool.and_self, Bool.and_true, Bool.true_and]; done) | fail) only [push_cast, reduceCtorEq, Nat.reduceAdd, Nat.reduceSub, Nat.reduceMul, Nat.reduceLeDiff, Nat.reduceLT, Nat.reduceEqDiff, Int.reduceToNat, Int.reduceLT, Int.reduceLE, Int.reduceBEq, Int.reduceEq, Int.reduceSub, Int.reduceAdd, Int.reduceMul, Int.reduceNeg, frm_get, frm_set, set_set, fill_ok, fillL_n, fillL_c, List.flatMap_cons, List.flatMap_nil, set_len, frm_getC, frm_setC, wrapI, wrapB, if_pos, if_neg, decT, decF, beqT, beqF, bneT, bneF, hbx, hk, hx1, hx2]; rfl)); (focus rfl); (first | with_reducible apply nT | with_reducible apply nF | (with_reducible refine nB (fun hb => ?_) (fun hb => ?_) <;> (try simp only [decide_eq_true_eq, decide_eq_false_iff_not, beq_iff_eq, bne_iff_ne, ne_eq, beq_eq_false_iff_ne, bne_eq_false_iff_eq, Decidable.not_not, Int.not_lt, Int.not_le] at hb)) | with_reducible apply nV) <;> dsimp only [List.cons_append, List.nil_append, putV, List.set])
          | ((with_reducible apply endI); (focus (simp (disch := first | omega | assumption | (simp only [set_len, frm_len, List.length_set, List.length_append, List.length_cons, List.length_nil]; first | done | omega) | (simp only [seqOk, List.length_cons, List.length_nil, Nat.reduceAdd, Nat.reduceMul, Nat.zero_mul, Nat.reduceBEq, beq_self_eq_true, Bool.and_self, Bool.and_true, Bool.true_and]; done) | fail) only [push_cast, reduceCtorEq, Nat.reduceAdd, Nat.reduceSub, Nat.reduceMul, Nat.reduceLeDiff, Nat.reduceLT, Nat.reduceEqDiff, Int.reduceToNat, Int.reduceLT, Int.reduceLE, Int.reduceBEq, Int.reduceEq, Int.reduceSub, Int.reduceAdd, Int.reduceMul, Int.reduceNeg, frm_get, frm_set, set_set, fill_ok, fillL_n, fillL_c, List.flatMap_cons, List.flatMap_nil, set_len, frm_getC, frm_setC, wrapI, wrapB, if_pos, if_neg, decT, decF, beqT, beqF, bneT, bneF, c98, hbx, hk, hx1, hx2]; rfl)); (focus rfl)))
        · exact loopNor (m - 1) (by omega) ⟨q + 1, _, by omega, by omega, fun j hj h => by
            rcases Int.lt_or_eq_of_le (show (j : Int) ≤ q by omega) with h1 | h1
            · exact hlt j hj h1
            · have : j = q.toNat := by omega
              subst this; exact hb, rfl⟩
        · -- the key is there
          refine ⟨_, rfl, rfl, ?_, (oth_set _ hk).kp⟩
          have hp := part_set b hall hlen hj
          have e := e1 (by assumption) (by assumption)
          refine ⟨dv, _, tv, (oth_set _ hk).box hbx, hd.other (oth_set _ hk) (by decide), ⟨by rw [prs_len], .inr ⟨k, off, ver, _, ?_, List.getElem?_set_self hkl, ?_, ?_⟩⟩, ht.other (oth_set _ hk) (by decide)⟩
          · rw [e, List.length_set]
          · rw [e, List.length_set]; exact hp.1
          · rw [e, List.length_set]; exact hp.2
        · exact ⟨T, rfl, rfl, ⟨dv, _, tv, hbx, hd, by rw [e2 (by assumption) (by assumption) (by assumption)]; exact hs', ht⟩, (Oth.refl 0 T).kp⟩
        · have e := e3 (by assumption) (by assumption) (by assumption)
          have hk1 := hc1.1 k _ hk (by simp [idx])
          have hbx1 := ho1.box hbx
          have A2 := slAt_app (bytes := 16) (y := .imm true 1 [.int .i64 a, .int .i64 b]) hS1 rfl (by decide) rfl rfl rfl (by omega)
          repeat' (first
            | (with_reducible apply wReg)
            | (with_reducible apply thenNor)
            | (with_reducible apply oNil)
            | ((with_reducible apply oApp (h := A2)); (focus (simp only [rd, List.getD_cons_zero, List.getD_cons_succ] <;> rfl)); (focus (simp only [rd, List.getD_cons_zero, List.getD_cons_succ] <;> rfl)); rintro _ _ ⟨T2, rfl, hS2, ho2, hc2⟩; (first | with_reducible apply nT | with_reducible apply nF | (with_reducible refine nB (fun hb => ?_) (fun hb => ?_) <;> (try simp only [decide_eq_true_eq, decide_eq_false_iff_not, beq_iff_eq, bne_iff_ne, ne_eq, beq_eq_false_iff_ne, bne_eq_false_iff_eq, Decidable.not_not, Int.not_lt, Int.not_le] at hb)) | with_reducible apply nV) <;> dsimp only [List.cons_append, List.nil_append, putV, List.set])
            | ((with_reducible apply oOp); (focus (simp (disch := first | omega | assumption | (simp only [set_len, frm_len, List.length_set, List.length_append, List.length_cons, List.length_nil]; first | done | omega) | (simp only [seqOk, List.length_cons, List.length_nil, Nat.reduceAdd, Nat.reduceMul, Nat.zero_mul, Nat.reduceBEq, beq_self_eq_true, Bool.and_self, Bool.and_true, Bool.true_and]; done) | fail) only [push_cast, reduceCtorEq, Nat.reduceAdd, Nat.reduceSub, Nat.reduceMul, Nat.reduceLeDiff, Nat.reduceLT, Nat.reduceEqDiff, Int.reduceToNat, Int.reduceLT, Int.reduceLE, Int.reduceBEq, Int.reduceEq, Int.reduceSub, Int.reduceAdd, Int.reduceMul, Int.reduceNeg, frm_get, frm_set, set_set, fill_ok, fillL_n, fillL_c, List.flatMap_cons, List.flatMap_nil, set_len, frm_getC, frm_setC, wrapI, wrapB, if_pos, if_neg, decT, decF, beqT, beqF, bneT, bneF, hbx1, hk1]; rfl)); (focus rfl); (first | with_reducible apply nT | with_reducible apply nF | (with_reducible refine nB (fun hb => ?_) (fun hb => ?_) <;> (try simp only [decide_eq_true_eq, decide_eq_false_iff_not, beq_iff_eq, bne_iff_ne, ne_eq, beq_eq_false_iff_ne, bne_eq_false_iff_eq, Decidable.not_not, Int.not_lt, Int.not_le] at hb)) | with_reducible apply nV) <;> dsimp only [List.cons_append, List.nil_append, putV, List.set]))
          have hk2 := hc2.1 k _ hk1 (fun h => by
            rcases hc1.2 k h with h1 | h1
            · simp [idx] at h1
            · omega)
          have hbx2 := ho2.box hbx1
          have hsl3 : srcOf (frm s T2) (.slr (s.low.length + 1) k (off + q.toNat * 2) ((st.length : Int) - q).toNat ver false) = some (((st.length : Int) - q).toNat, prs (st.drop q.toNat)) := by
            have h5 : off + q.toNat * 2 + ((st.length : Int) - q).toNat * 2 ≤ all.length := by omega
            simp only [srcOf, elems, frm_get_top, hk2, h5, and_self, if_true]
            rw [← prs_drop, ← hall, List.drop_take, List.drop_drop, show st.length * 2 - q.toNat * 2 = ((st.length : Int) - q).toNat * 2 by omega]
          have A3 := slAt_app (bytes := 16) hS2 rfl (by decide) hsl3 (prs_ok _) (by rw [prs_len, List.length_drop]; omega) (by omega)
          repeat' (first
            | ((with_reducible apply oApp (h := A3)); (focus (simp only [rd, List.getD_cons_zero, List.getD_cons_succ] <;> rfl)); (focus (simp only [rd, List.getD_cons_zero, List.getD_cons_succ] <;> rfl)); rintro _ _ ⟨T3, rfl, hS3, ho3, hc3⟩; (first | with_reducible apply nT | with_reducible apply nF | (with_reducible refine nB (fun hb => ?_) (fun hb => ?_) <;> (try simp only [decide_eq_true_eq, decide_eq_false_iff_not, beq_iff_eq, bne_iff_ne, ne_eq, beq_eq_false_iff_ne, bne_eq_false_iff_eq, Decidable.not_not, Int.not_lt, Int.not_le] at hb)) | with_reducible apply nV) <;> dsimp only [List.cons_append, List.nil_append, putV, List.set])
            | ((with_reducible apply oOp); (focus (simp (disch := first | omega | assumption | (simp only [set_len, frm_len, List.length_set, List.length_append, List.length_cons, List.length_nil]; first | done | omega) | (simp only [seqOk, List.length_cons, List.length_nil, Nat.reduceAdd, Nat.reduceMul, Nat.zero_mul, Nat.reduceBEq, beq_self_eq_true, Bool.and_self, Bool.and_true, Bool.true_and]; done) | fail) only [push_cast, reduceCtorEq, Nat.reduceAdd, Nat.reduceSub, Nat.reduceMul, Nat.reduceLeDiff, Nat.reduceLT, Nat.reduceEqDiff, Int.reduceToNat, Int.reduceLT, Int.reduceLE, Int.reduceBEq, Int.reduceEq, Int.reduceSub, Int.reduceAdd, Int.reduceMul, Int.reduceNeg, frm_get, frm_set, set_set, fill_ok, fillL_n, fillL_c, List.flatMap_cons, List.flatMap_nil, set_len, frm_getC, frm_setC, wrapI, wrapB, if_pos, if_neg, decT, decF, beqT, beqF, bneT, bneF, hbx2, hk2]; rfl)); (focus rfl); (first | with_reducible apply nT | with_reducible apply nF | (with_reducible refine nB (fun hb => ?_) (fun hb => ?_) <;> (try simp only [decide_eq_true_eq, decide_eq_false_iff_not, beq_iff_eq, bne_iff_ne, ne_eq, beq_eq_false_iff_ne, bne_eq_false_iff_eq, Decidable.not_not, Int.not_lt, Int.not_le] at hb)) | with_reducible apply nV) <;> dsimp only [List.cons_append, List.nil_append, putV, List.set]))
          have hbx3 := ho3.box hbx2
          simp only [Nat.zero_add, List.nil_append] at hS3
          obtain ⟨k3, off3, ver3, all3, rfl, -, -, -⟩ := hS3.pos (by omega)
          repeat' (first
            | (with_reducible apply oNil)
            | ((with_reducible apply oOp); (focus (simp (disch := first | omega | assumption | (simp only [set_len, frm_len, List.length_set, List.length_append, List.length_cons, List.length_nil]; first | done | omega) | (simp only [seqOk, List.length_cons, List.length_nil, Nat.reduceAdd, Nat.reduceMul, Nat.zero_mul, Nat.reduceBEq, beq_self_eq_true, Bool.and_self, Bool.and_true, Bool.true_and]; done) | fail) only [push_cast, reduceCtorEq, Nat.reduceAdd, Nat.reduceSub, Nat.reduceMul, Nat.reduceLeDiff, Nat.reduceLT, Nat.reduceEqDiff, Int.reduceToNat, Int.reduceLT, Int.reduceLE, Int.reduceBEq, Int.reduceEq, Int.reduceSub, Int.reduceAdd, Int.reduceMul, Int.reduceNeg, frm_get, frm_set, set_set, fill_ok, fillL_n, fillL_c, List.flatMap_cons, List.flatMap_nil, set_len, frm_getC, frm_setC, wrapI, wrapB, if_pos, if_neg, decT, decF, beqT, beqF, bneT, bneF, hbx3]; rfl)); (focus rfl); (first | with_reducible apply nT | with_reducible apply nF | (with_reducible refine nB (fun hb => ?_) (fun hb => ?_) <;> (try simp only [decide_eq_true_eq, decide_eq_false_iff_not, beq_iff_eq, bne_iff_ne, ne_eq, beq_eq_false_iff_ne, bne_eq_false_iff_eq, Decidable.not_not, Int.not_lt, Int.not_le] at hb)) | with_reducible apply nV) <;> dsimp only [List.cons_append, List.nil_append, putV, List.set])
            | ((with_reducible apply endI); (focus (simp (disch := first | omega | assumption | (simp only [set_len, frm_len, List.length_set, List.length_append, List.length_cons, List.length_nil]; first | done | omega) | (simp only [seqOk, List.length_cons, List.length_nil, Nat.reduceAdd, Nat.reduceMul, Nat.zero_mul, Nat.reduceBEq, beq_self_eq_true, Bool.and_self, Bool.and_true, Bool.true_and]; done) | fail) only [push_cast, reduceCtorEq, Nat.reduceAdd, Nat.reduceSub, Nat.reduceMul, Nat.reduceLeDiff, Nat.reduceLT, Nat.reduceEqDiff, Int.reduceToNat, Int.reduceLT, Int.reduceLE, Int.reduceBEq, Int.reduceEq, Int.reduceSub, Int.reduceAdd, Int.reduceMul, Int.reduceNeg, frm_get, frm_set, set_set, fill_ok, fillL_n, fillL_c, List.flatMap_cons, List.flatMap_nil, set_len, frm_getC, frm_setC, wrapI, wrapB, if_pos, if_neg, decT, decF, beqT, beqF, bneT, bneF, c98, hbx3]; rfl)); (focus rfl)))
          refine ⟨_, rfl, rfl, ⟨dv, _, tv, List.getElem?_set_self (List.getElem?_eq_some_iff.1 hbx3).1, ?_, ?_, ?_⟩, ((ho1.kp.trans ho2.kp).trans ho3.kp).trans (kp_set _ hbx3)⟩
          · exact (((hd.other ho1 (by decide)).other ho2 (by decide)).other ho3 (by decide)).box hbx3 _
          · rw [e, prs_app, prs_app]
            have hl : (st.take q.toNat ++ [(a, b)] ++ st.drop q.toNat).length = (q - 0).toNat + 1 + ((st.length : Int) - q).toNat := by
              simp only [List.length_append, List.length_take, List.length_drop, List.length_cons, List.length_nil]; omega
            rw [hl]
            exact hS3.box hbx3 _
          · exact (((ht.other ho1 (by decide)).other ho2 (by decide)).other ho3 (by decide)).box hbx3 _
      · have hqe : q = st.length ∨ (st.length : Int) < q := by omega
        rcases hqe with hqe | hqe
        · have hkey : keyAt a st = q.toNat := keyAt_eq (fun j hj hji => hlt j hj (by omega)) (by omega) (fun h _ => by omega)
          have e2 : 20 ≤ (st.length : Int) → putL a b st = st := fun h3 => by
            unfold putL
            rw [hkey, if_neg (by simp [isAt, List.getElem?_eq_none (show st.length ≤ q.toNat by omega)]), if_pos (by omega)]
          have e3 : (st.length : Int) < 20 → putL a b st = st.take q.toNat ++ [(a, b)] ++ st.drop q.toNat := fun h3 => by
            unfold putL
            rw [hkey, if_neg (by simp [isAt, List.getElem?_eq_none (show st.length ≤ q.toNat by omega)]), if_neg (by omega)]
          repeat' (first
            | (with_reducible apply wSeq)
            | (with_reducible apply wReg)
            | (with_reducible apply thenNor)
            | (with_reducible apply thenRet)
            | (with_reducible apply thenExit)
            | (with_reducible apply blockExit)
            | (with_reducible apply oNil)
            | (with_reducible apply wExit)
            | (with_reducible apply wRet)
            | (with_reducible apply wSkip)
            | (with_reducible apply loopExit)
            | ((with_reducible apply wCondT); (focus (simp only [rd, List.getD_cons_zero, List.getD_cons_succ]; done)))
            | ((with_reducible apply wCondF); (focus (simp only [rd, List.getD_cons_zero, List.getD_cons_succ]; done)))
            | ((with_reducible apply oApp (h := A1)); (focus (simp only [rd, List.getD_cons_zero, List.getD_cons_succ] <;> rfl)); (focus (simp only [rd, List.getD_cons_zero, List.getD_cons_succ] <;> rfl)); rintro _ _ ⟨T1, rfl, hS1, ho1, hc1⟩; (first | with_reducible apply nT | with_reducible apply nF | (with_reducible refine nB (fun hb => ?_) (fun hb => ?_) <;> (try simp only [decide_eq_true_eq, decide_eq_false_iff_not, beq_iff_eq, bne_iff_ne, ne_eq, beq_eq_false_iff_ne, bne_eq_false_iff_eq, Decidable.not_not, Int.not_lt, Int.not_le] at hb)) | with_reducible apply nV) <;> dsimp only [List.cons_append, List.nil_append, putV, List.set])
            | ((with_reducible apply oOp); (focus (simp (disch := first | omega | assumption | (simp only [set_len, frm_len, List.length_set, List.length_append, List.length_cons, List.length_nil]; first | done | omega) | (simp only [seqOk, List.length_cons, List.length_nil, Nat.reduceAdd, Nat.reduceMul, Nat.zero_mul, Nat.reduceBEq, beq_self_eq_true, Bool.and_self, Bool.and_true, Bool.true_and]; done) | fail) only [push_cast, reduceCtorEq, Nat.reduceAdd, Nat.reduceSub, Nat.reduceMul, Nat.reduceLeDiff, Nat.reduceLT, Nat.reduceEqDiff, Int.reduceToNat, Int.reduceLT, Int.reduceLE, Int.reduceBEq, Int.reduceEq, Int.reduceSub, Int.reduceAdd, Int.reduceMul, Int.reduceNeg, frm_get, frm_set, set_set, fill_ok, fillL_n, fillL_c, List.flatMap_cons, List.flatMap_nil, set_len, frm_getC, frm_setC, wrapI, wrapB, if_pos, if_neg, decT, decF, beqT, beqF, bneT, bneF, hbx, hk]; rfl)); (focus rfl); (first | with_reducible apply nT | with_reducible apply nF | (with_reducible refine nB (fun hb => ?_) (fun hb => ?_) <;> (try simp only [decide_eq_true_eq, decide_eq_false_iff_not, beq_iff_eq, bne_iff_ne, ne_eq, beq_eq_false_iff_ne, bne_eq_false_iff_eq, Decidable.not_not, Int.not_lt, Int.not_le] at hb)) | with_reducible apply nV) <;> dsimp only [List.cons_append, List.nil_append, putV, List.set])
            | ((with_reducible apply endI); (focus (simp (disch := first | omega | assumption | (simp only [set_len, frm_len, List.length_set, List.length_append, List.length_cons, List.length_nil]; first | done | omega) | (simp only [seqOk, List.length_cons, List.length_nil, Nat.reduceAdd, Nat.reduceMul, Nat.zero_mul, Nat.reduceBEq, beq_self_eq_true, Bool.and_self, Bool.and_true, Bool.true_and]; done) | fail) only [push_cast, reduceCtorEq, Nat.reduceAdd, Nat.reduceSub, Nat.reduceMul, Nat.reduceLeDiff, Nat.reduceLT, Nat.reduceEqDiff, Int.reduceToNat, Int.reduceLT, Int.reduceLE, Int.reduceBEq, Int.reduceEq, Int.reduceSub, Int.reduceAdd, Int.reduceMul, Int.reduceNeg, frm_get, frm_set, set_set, fill_ok, fillL_n, fillL_c, List.flatMap_cons, List.flatMap_nil, set_len, frm_getC, frm_setC, wrapI, wrapB, if_pos, if_neg, decT, decF, beqT, beqF, bneT, bneF, c98, hbx, hk]; rfl)); (focus rfl)))
          · exact ⟨T, rfl, rfl, ⟨dv, _, tv, hbx, hd, by rw [e2 (by assumption)]; exact hs', ht⟩, (Oth.refl 0 T).kp⟩
          · have e := e3 (by assumption)
            have hk1 := hc1.1 k _ hk (by simp [idx])
            have hbx1 := ho1.box hbx
            have A2 := slAt_app (bytes := 16) (y := .imm true 1 [.int .i64 a, .int .i64 b]) hS1 rfl (by decide) rfl rfl rfl (by omega)
            repeat' (first
              | (with_reducible apply wReg)
              | (with_reducible apply thenNor)
              | (with_reducible apply oNil)
              | ((with_reducible apply oApp (h := A2)); (focus (simp only [rd, List.getD_cons_zero, List.getD_cons_succ] <;> rfl)); (focus (simp only [rd, List.getD_cons_zero, List.getD_cons_succ] <;> rfl)); rintro _ _ ⟨T2, rfl, hS2, ho2, hc2⟩; (first | with_reducible apply nT | with_reducible apply nF | (with_reducible refine nB (fun hb => ?_) (fun hb => ?_) <;> (try simp only [decide_eq_true_eq, decide_eq_false_iff_not, beq_iff_eq, bne_iff_ne, ne_eq, beq_eq_false_iff_ne, bne_eq_false_iff_eq, Decidable.not_not, Int.not_lt, Int.not_le] at hb)) | with_reducible apply nV) <;> dsimp only [List.cons_append, List.nil_append, putV, List.set])
              | ((with_reducible apply oOp); (focus (simp (disch := first | omega | assumption | (simp only [set_len, frm_len, List.length_set, List.length_append, List.length_cons, List.length_nil]; first | done | omega) | (simp only [seqOk, List.length_cons, List.length_nil, Nat.reduceAdd, Nat.reduceMul, Nat.zero_mul, Nat.reduceBEq, beq_self_eq_true, Bool.and_self, Bool.and_true, Bool.true_and]; done) | fail) only [push_cast, reduceCtorEq, Nat.reduceAdd, Nat.reduceSub, Nat.reduceMul, Nat.reduceLeDiff, Nat.reduceLT, Nat.reduceEqDiff, Int.reduceToNat, Int.reduceLT, Int.reduceLE, Int.reduceBEq, Int.reduceEq, Int.reduceSub, Int.reduceAdd, Int.reduceMul, Int.reduceNeg, frm_get, frm_set, set_set, fill_ok, fillL_n, fillL_c, List.flatMap_cons, List.flatMap_nil, set_len, frm_getC, frm_setC, wrapI, wrapB, if_pos, if_neg, decT, decF, beqT, beqF, bneT, bneF, hbx1, hk1]; rfl)); (focus rfl); (first | with_reducible apply nT | with_reducible apply nF | (with_reducible refine nB (fun hb => ?_) (fun hb => ?_) <;> (try simp only [decide_eq_true_eq, decide_eq_false_iff_not, beq_iff_eq, bne_iff_ne, ne_eq, beq_eq_false_iff_ne, bne_eq_false_iff_eq, Decidable.not_not, Int.not_lt, Int.not_le] at hb)) | with_reducible apply nV) <;> dsimp only [List.cons_append, List.nil_append, putV, List.set]))
            have hk2 := hc2.1 k _ hk1 (fun h => by
              rcases hc1.2 k h with h1 | h1
              · simp [idx] at h1
              · omega)
            have hbx2 := ho2.box hbx1
            have hsl3 : srcOf (frm s T2) (.slr (s.low.length + 1) k (off + q.toNat * 2) ((st.length : Int) - q).toNat ver false) = some (((st.length : Int) - q).toNat, prs (st.drop q.toNat)) := by
              have h5 : off + q.toNat * 2 + ((st.length : Int) - q).toNat * 2 ≤ all.length := by omega
              simp only [srcOf, elems, frm_get_top, hk2, h5, and_self, if_true]
              rw [← prs_drop, ← hall, List.drop_take, List.drop_drop, show st.length * 2 - q.toNat * 2 = ((st.length : Int) - q).toNat * 2 by omega]
            have A3 := slAt_app (bytes := 16) hS2 rfl (by decide) hsl3 (prs_ok _) (by rw [prs_len, List.length_drop]; omega) (by omega)
            repeat' (first
              | ((with_reducible apply oApp (h := A3)); (focus (simp only [rd, List.getD_cons_zero, List.getD_cons_succ] <;> rfl)); (focus (simp only [rd, List.getD_cons_zero, List.getD_cons_succ] <;> rfl)); rintro _ _ ⟨T3, rfl, hS3, ho3, hc3⟩; (first | with_reducible apply nT | with_reducible apply nF | (with_reducible refine nB (fun hb => ?_) (fun hb => ?_) <;> (try simp only [decide_eq_true_eq, decide_eq_false_iff_not, beq_iff_eq, bne_iff_ne, ne_eq, beq_eq_false_iff_ne, bne_eq_false_iff_eq, Decidable.not_not, Int.not_lt, Int.not_le] at hb)) | with_reducible apply nV) <;> dsimp only [List.cons_append, List.nil_append, putV, List.set])
              | ((with_reducible apply oOp); (focus (simp (disch := first | omega | assumption | (simp only [set_len, frm_len, List.length_set, List.length_append, List.length_cons, List.length_nil]; first | done | omega) | (simp only [seqOk, List.length_cons, List.length_nil, Nat.reduceAdd, Nat.reduceMul, Nat.zero_mul, Nat.reduceBEq, beq_self_eq_true, Bool.and_self, Bool.and_true, Bool.true_and]; done) | fail) only [push_cast, reduceCtorEq, Nat.reduceAdd, Nat.reduceSub, Nat.reduceMul, Nat.reduceLeDiff, Nat.reduceLT, Nat.reduceEqDiff, Int.reduceToNat, Int.reduceLT, Int.reduceLE, Int.reduceBEq, Int.reduceEq, Int.reduceSub, Int.reduceAdd, Int.reduceMul, Int.reduceNeg, frm_get, frm_set, set_set, fill_ok, fillL_n, fillL_c, List.flatMap_cons, List.flatMap_nil, set_len, frm_getC, frm_setC, wrapI, wrapB, if_pos, if_neg, decT, decF, beqT, beqF, bneT, bneF, hbx2, hk2]; rfl)); (focus rfl); (first | with_reducible apply nT | with_reducible apply nF | (with_reducible refine nB (fun hb => ?_) (fun hb => ?_) <;> (try simp only [decide_eq_true_eq, decide_eq_false_iff_not, beq_iff_eq, bne_iff_ne, ne_eq, beq_eq_false_iff_ne, bne_eq_false_iff_eq, Decidable.not_not, Int.not_lt, Int.not_le] at hb)) | with_reducible apply nV) <;> dsimp only [List.cons_append, List.nil_append, putV, List.set]))
            have hbx3 := ho3.box hbx2
            simp only [Nat.zero_add, List.nil_append] at hS3
            obtain ⟨k3, off3, ver3, all3, rfl, -, -, -⟩ := hS3.pos (by omega)
            repeat' (first
              | (with_reducible apply oNil)
              | ((with_reducible apply oOp); (focus (simp (disch := first | omega | assumption | (simp only [set_len, frm_len, List.length_set, List.length_append, List.length_cons, List.length_nil]; first | done | omega) | (simp only [seqOk, List.length_cons, List.length_nil, Nat.reduceAdd, Nat.reduceMul, Nat.zero_mul, Nat.reduceBEq, beq_self_eq_true, Bool.and_self, Bool.and_true, Bool.true_and]; done) | fail) only [push_cast, reduceCtorEq, Nat.reduceAdd, Nat.reduceSub, Nat.reduceMul, Nat.reduceLeDiff, Nat.reduceLT, Nat.reduceEqDiff, Int.reduceToNat, Int.reduceLT, Int.reduceLE, Int.reduceBEq, Int.reduceEq, Int.reduceSub, Int.reduceAdd, Int.reduceMul, Int.reduceNeg, frm_get, frm_set, set_set, fill_ok, fillL_n, fillL_c, List.flatMap_cons, List.flatMap_nil, set_len, frm_getC, frm_setC, wrapI, wrapB, if_pos, if_neg, decT, decF, beqT, beqF, bneT, bneF, hbx3]; rfl)); (focus rfl); (first | with_reducible apply nT | with_reducible apply nF | (with_reducible refine nB (fun hb => ?_) (fun hb => ?_) <;> (try simp only [decide_eq_true_eq, decide_eq_false_iff_not, beq_iff_eq, bne_iff_ne, ne_eq, beq_eq_false_iff_ne, bne_eq_false_iff_eq, Decidable.not_not, Int.not_lt, Int.not_le] at hb)) | with_reducible apply nV) <;> dsimp only [List.cons_append, List.nil_append, putV, List.set])
              | ((with_reducible apply endI); (focus (simp (disch := first | omega | assumption | (simp only [set_len, frm_len, List.length_set, List.length_append, List.length_cons, List.length_nil]; first | done | omega) | (simp only [seqOk, List.length_cons, List.length_nil, Nat.reduceAdd, Nat.reduceMul, Nat.zero_mul, Nat.reduceBEq, beq_self_eq_true, Bool.and_self, Bool.and_true, Bool.true_and]; done) | fail) only [push_cast, reduceCtorEq, Nat.reduceAdd, Nat.reduceSub, Nat.reduceMul, Nat.reduceLeDiff, Nat.reduceLT, Nat.reduceEqDiff, Int.reduceToNat, Int.reduceLT, Int.reduceLE, Int.reduceBEq, Int.reduceEq, Int.reduceSub, Int.reduceAdd, Int.reduceMul, Int.reduceNeg, frm_get, frm_set, set_set, fill_ok, fillL_n, fillL_c, List.flatMap_cons, List.flatMap_nil, set_len, frm_getC, frm_setC, wrapI, wrapB, if_pos, if_neg, decT, decF, beqT, beqF, bneT, bneF, c98, hbx3]; rfl)); (focus rfl)))
            refine ⟨_, rfl, rfl, ⟨dv, _, tv, List.getElem?_set_self (List.getElem?_eq_some_iff.1 hbx3).1, ?_, ?_, ?_⟩, ((ho1.kp.trans ho2.kp).trans ho3.kp).trans (kp_set _ hbx3)⟩
            · exact (((hd.other ho1 (by decide)).other ho2 (by decide)).other ho3 (by decide)).box hbx3 _
            · rw [e, prs_app, prs_app]
              have hl : (st.take q.toNat ++ [(a, b)] ++ st.drop q.toNat).length = (q - 0).toNat + 1 + ((st.length : Int) - q).toNat := by
                simp only [List.length_append, List.length_take, List.length_drop, List.length_cons, List.length_nil]; omega
              rw [hl]
              exact hS3.box hbx3 _
            · exact (((ht.other ho1 (by decide)).other ho2 (by decide)).other ho3 (by decide)).box hbx3 _
        · omega
end Go.Proofs.Ythogcanomihelaa.Gw
