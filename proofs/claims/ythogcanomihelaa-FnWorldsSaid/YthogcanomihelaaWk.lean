/- Entries put by the program. -/
import Derived.Test.YthogcanomihelaaWj
set_option linter.unusedSimpArgs false
set_option linter.unusedVariables false
namespace Go.Proofs.Ythogcanomihelaa.Gw
open Go Go.Proofs Go.Proofs.Ythogcanomihelaa.Ae
attribute [local congr] obind_congr
attribute [local push_cast] exF argsV frzs frz frzL frz1 exS_reg exS_seq exS_cond exS_alt exS_block exS_loop exS_exit exS_ret exS_skip evReg evOps evOne evAct evOp rd putV st0 evEnd resV resL resOne oneOr frzR loadV storeV binV binI unV push_frm pop_frm frm_len frm_top frm_get_top frm_set_top frm_new AV.cells AV.lowB AV.lowL AV.isCell cellsOk set_len Option.bind_some Option.map_some Option.map_none List.getD_cons_zero List.getD_cons_succ List.nil_append List.cons_append List.append_nil List.length_cons List.length_nil List.set_cons_zero List.set_cons_succ List.map_cons List.map_nil List.replicate if_true if_false ite_true ite_false ite_self Bool.false_eq_true List.all_cons List.all_nil Bool.and_true Bool.true_and Bool.and_self Bool.and_eq_true List.getElem?_cons_zero List.getElem?_cons_succ List.drop_succ_cons List.drop_zero List.take_succ_cons List.take_zero true_and and_true and_self decide_true decide_false Bool.not_true Bool.not_false Prod.mk.injEq Option.some.injEq List.getElem?_drop optInt elems sliceV partsOf Nat.add_zero Nat.zero_add Nat.mul_one beq_self_eq_true litParts Bool.or_false Bool.false_or Bool.or_true Bool.true_or Bool.false_and Bool.and_false List.cons.injEq not_false_eq_true not_true_eq_false Nat.zero_le Nat.le_refl gt_iff_lt ge_iff_le List.drop_nil List.take_nil newBox List.length_append List.length_map bne_self_eq_false eq_self Nat.lt_add_one ne_eq false_implies Int.le_refl

theorem ins_ok {s : Store} {T : List Ae.Obj} {D k : Nat} {a b : Int} {sv : AV} {st : List (Int × Int)} (hD : D = s.low.length + 1) (hs : SlAt D T 113 2 sv st.length (prs st)) (hk : k ≤ st.length) (hn : st.length < 1000) :
    ∃ v S', callF (tab tbl) prim 151 [sv, .int .i64 k, .imm true 1 [.int .i64 a, .int .i64 b]] (frm s T) = some (v, S') ∧ ∃ T' k' off ver, v = .slr D k' off (st.length + 1) ver false ∧ S' = frm s T' ∧
      SlAt D T' 113 2 (.slr D k' off (st.length + 1) ver false) (st.length + 1) (prs (st.take k ++ [(a, b)] ++ st.drop k)) ∧ Oth 113 T T' := by
  have hend : k = st.length → ∃ v S', appV (frm s T) 113 2 16 sv (.imm true 1 [.int .i64 a, .int .i64 b]) = some (v, S') ∧ ∃ T' k' off ver, v = .slr D k' off (st.length + 1) ver false ∧ S' = frm s T' ∧
      SlAt D T' 113 2 (.slr D k' off (st.length + 1) ver false) (st.length + 1) (prs (st.take k ++ [(a, b)] ++ st.drop k)) ∧ Oth 113 T T' := by
    intro he
    obtain ⟨v, S', e1, T', k', off, ver, rfl, rfl, h1, h2, _⟩ := slAt_app_pos (bytes := 16) (y := .imm true 1 [.int .i64 a, .int .i64 b]) hD (by decide) rfl rfl rfl (by omega) (by omega) hs
    refine ⟨_, _, e1, T', k', off, ver, rfl, rfl, ?_, h2⟩
    rw [he, List.take_length, List.drop_length, List.append_nil, ← prs_snoc]
    exact h1
  have hs' := hs
  obtain ⟨h0, ⟨rfl, hn0⟩ | ⟨kk, off, ver, all, rfl, hkk, hall, hlen⟩⟩ := hs
  · obtain ⟨v, S', e, r⟩ := hend (by omega)
    refine ⟨v, S', callF_prim rfl ?_, r⟩
    simp only [prim, insPrim]
    rw [if_pos ⟨by omega, by omega⟩]
    exact e
  · subst hD
    by_cases he : k = st.length
    · obtain ⟨v, S', e, r⟩ := hend he
      refine ⟨v, S', callF_prim rfl ?_, r⟩
      simp only [prim, insPrim]
      rw [if_pos ⟨by omega, by omega⟩]
      exact e
    · have e1 : (all.drop off).take (k * 2) = prs (st.take k) := by
        rw [← prs_take, ← hall, List.take_take, show min (k * 2) (st.length * 2) = k * 2 by omega]
      have e2 : (all.drop (off + k * 2)).take ((st.length - k) * 2) = prs (st.drop k) := by
        rw [← prs_drop, ← hall, List.drop_take, List.drop_drop, show st.length * 2 - k * 2 = (st.length - k) * 2 by omega]
      have e3 : prs (st.take k) ++ [.int .i64 a, .int .i64 b] ++ prs (st.drop k) = prs (st.take k ++ [(a, b)] ++ st.drop k) := by
        rw [prs_app, prs_app]; rfl
      have hkl := (List.getElem?_eq_some_iff.1 hkk).1
      refine ⟨.slr (s.low.length + 1) kk 0 (st.length + 1) (ver + 1) false, frm s (T.set kk (.arr 113 2 (prs (st.take k ++ [(a, b)] ++ st.drop k)) (ver + 1) (0 - off))), callF_prim rfl ?_, _, kk, 0, ver + 1, rfl, rfl, ⟨?_, .inr ⟨kk, 0, ver + 1, prs (st.take k ++ [(a, b)] ++ st.drop k), rfl, ?_, ?_, ?_⟩⟩, oth_set _ hkk⟩
      · have hkn : ((k : Nat) : Int).toNat = k := by omega
        simp only [prim, insPrim]
        rw [if_neg (by omega), if_pos ⟨by omega, by omega, (by first | trivial | rfl | omega | exact hlen)⟩]
        simp only [insV, frm_get_top, hkk, hkn]
        rw [if_pos ⟨(by first | trivial | rfl | omega | exact hlen), (by first | trivial | rfl | omega | exact hlen), (by first | trivial | rfl | omega | exact hlen), (by first | trivial | rfl | omega | exact hlen), (by first | trivial | rfl | omega | exact hlen), (by first | trivial | rfl | omega | exact hlen), (by first | trivial | rfl | omega | exact hlen), (by first | trivial | rfl | omega | exact hlen)⟩, e1, e2, e3, frm_set_top]
      · rw [prs_len]
        simp only [List.length_append, List.length_take, List.length_drop, List.length_cons, List.length_nil]
        omega
      · rw [List.getElem?_set_self hkl, Nat.zero_sub]
      · rw [List.drop_zero]
        exact List.take_of_length_le (by rw [prs_len]; simp only [List.length_append, List.length_take, List.length_drop, List.length_cons, List.length_nil]; omega)
      · rw [prs_len]
        simp only [List.length_append, List.length_take, List.length_drop, List.length_cons, List.length_nil]
        omega
theorem lenW {call : CallT} {ls vs : List AV} {s : Store} {D e sz n : Nat} {T : List Ae.Obj} {v : AV} {cs : List AV} {x : Opd} {q : Option Nat} (hx : rd ls vs x = v) (h : SlAt D T e sz v n cs) : evOne call ⟨.len false x, q, none⟩ ls vs (frm s T) = some (.int .i64 n, frm s T) := by
  obtain ⟨h0, ⟨rfl, rfl⟩ | ⟨k, off, ver, all, rfl, h2, h3, h4⟩⟩ := h
  · simp only [evOne, evAct, evOp, hx]
  · simp only [evOne, evAct, evOp, hx]
theorem keyAt_le (a : Int) : ∀ l : List (Int × Int), keyAt a l ≤ l.length
  | [] => Nat.le_refl _
  | e :: r => by
    have := keyAt_le a r
    unfold keyAt
    split <;> simp <;> omega
theorem isAt_iff {a : Int} {l : List (Int × Int)} {k : Nat} : isAt a l k = true ↔ ∃ h : k < l.length, l[k].1 = a := by
  unfold isAt
  split
  · rename_i e he
    obtain ⟨h, rfl⟩ := List.getElem?_eq_some_iff.1 he
    simp [h]
  · rename_i he
    have := List.getElem?_eq_none_iff.1 he
    simp
    omega
set_option maxHeartbeats 4000000 in
theorem put_ok {s : Store} {T : List Ae.Obj} {D i : Nat} {t a b : Int} {ds : List Int} {st : List (Int × Int)} {tr : List Ev} (hD : D = s.low.length + 1) (hW : WAt D T i t ds st tr) (hn : st.length < 1000) :
    ∃ v s', callF (tab tbl) prim 104 [.ptr D i 0, .int .i64 a, .int .i64 b] (frm s T) = some (v, s') ∧ ∃ T', v = .tup [] ∧ s' = frm s T' ∧ WAt D T' i t ds (putL a b st) tr ∧ KpW i T T' := by
  have hE := entry_ok (key := a) hD hW (by omega)
  obtain ⟨dv, sv, tv, hbx, hd, hs, ht⟩ := hW
  have hI := ins_ok (a := a) (b := b) hD hs (keyAt_le a st) hn
  have hs' := hs
  subst hD
  by_cases his : isAt a st (keyAt a st) = true
  · obtain ⟨hkl, hka⟩ := isAt_iff.1 his
    obtain ⟨h0, ⟨rfl, hn0⟩ | ⟨k, off, ver, all, rfl, hk, hall, hlen⟩⟩ := hs
    · omega
    · have hkt : (((keyAt a st : Nat) : Int)).toNat = keyAt a st := by omega
      have hkT := (List.getElem?_eq_some_iff.1 hk).1
      have hp := part_set b hall hlen hkl
      have e : putL a b st = st.set (keyAt a st) (st[keyAt a st].1, b) := by unfold putL; rw [if_pos his, hka]
      refine funW (fc := c104) rfl (by simp (disch := first | omega | assumption | (simp only [set_len, frm_len, List.length_set, List.length_append, List.length_cons, List.length_nil]; first | done | omega) | (simp only [seqOk, List.length_cons, List.length_nil, Nat.reduceAdd, Nat.reduceMul, Nat.zero_mul, Nat.reduceBEq, beq_self_eq_true, Bool.and_self, Bool.and_true, Bool.true_and]; done) | fail) only [push_cast, reduceCtorEq, Nat.reduceAdd, Nat.reduceSub, Nat.reduceMul, Nat.reduceLeDiff, Nat.reduceLT, Nat.reduceEqDiff, Int.reduceToNat, Int.reduceLT, Int.reduceLE, Int.reduceBEq, Int.reduceEq, Int.reduceSub, Int.reduceAdd, Int.reduceMul, Int.reduceNeg, frm_get, frm_set, set_set, fill_ok, fillL_n, fillL_c, List.flatMap_cons, List.flatMap_nil, set_len, frm_getC, frm_setC, wrapI, wrapB, if_pos, if_neg, decT, decF, beqT, beqF, bneT, bneF, c104, hE, his, hbx, hk, hkt]; rfl) (by simp only [c104]; rfl) (by simp only [c104, st0, push_frm, if_false, if_true, Bool.false_eq_true, Nat.reduceSub, List.replicate, List.cons_append, List.nil_append]; rfl) ?_
      repeat' (first
        | (with_reducible apply wSeq)
        | (with_reducible apply wReg)
        | (with_reducible apply wBlock)
        | (with_reducible apply thenNor)
        | (with_reducible apply blockNor)
        | (with_reducible apply oNil)
        | ((with_reducible apply wCondT); (focus (simp only [rd, List.getD_cons_zero, List.getD_cons_succ]; done)))
        | ((with_reducible apply oOp); (focus (simp (disch := first | omega | assumption | (simp only [set_len, frm_len, List.length_set, List.length_append, List.length_cons, List.length_nil]; first | done | omega) | (simp only [seqOk, List.length_cons, List.length_nil, Nat.reduceAdd, Nat.reduceMul, Nat.zero_mul, Nat.reduceBEq, beq_self_eq_true, Bool.and_self, Bool.and_true, Bool.true_and]; done) | fail) only [push_cast, reduceCtorEq, Nat.reduceAdd, Nat.reduceSub, Nat.reduceMul, Nat.reduceLeDiff, Nat.reduceLT, Nat.reduceEqDiff, Int.reduceToNat, Int.reduceLT, Int.reduceLE, Int.reduceBEq, Int.reduceEq, Int.reduceSub, Int.reduceAdd, Int.reduceMul, Int.reduceNeg, frm_get, frm_set, set_set, fill_ok, fillL_n, fillL_c, List.flatMap_cons, List.flatMap_nil, set_len, frm_getC, frm_setC, wrapI, wrapB, if_pos, if_neg, decT, decF, beqT, beqF, bneT, bneF, hE, his, hbx, hk, hkt]; rfl)); (focus rfl); (first | with_reducible apply nT | with_reducible apply nF | (with_reducible refine nB (fun hb => ?_) (fun hb => ?_) <;> (try simp only [decide_eq_true_eq, decide_eq_false_iff_not, beq_iff_eq, bne_iff_ne, ne_eq, beq_eq_false_iff_ne, bne_eq_false_iff_eq, Decidable.not_not, Int.not_lt, Int.not_le] at hb)) | with_reducible apply nV) <;> dsimp only [List.cons_append, List.nil_append, putV, List.set])
        | ((with_reducible apply endI); (focus (simp (disch := first | omega | assumption | (simp only [set_len, frm_len, List.length_set, List.length_append, List.length_cons, List.length_nil]; first | done | omega) | (simp only [seqOk, List.length_cons, List.length_nil, Nat.reduceAdd, Nat.reduceMul, Nat.zero_mul, Nat.reduceBEq, beq_self_eq_true, Bool.and_self, Bool.and_true, Bool.true_and]; done) | fail) only [push_cast, reduceCtorEq, Nat.reduceAdd, Nat.reduceSub, Nat.reduceMul, Nat.reduceLeDiff, Nat.reduceLT, Nat.reduceEqDiff, Int.reduceToNat, Int.reduceLT, Int.reduceLE, Int.reduceBEq, Int.reduceEq, Int.reduceSub, Int.reduceAdd, Int.reduceMul, Int.reduceNeg, frm_get, frm_set, set_set, fill_ok, fillL_n, fillL_c, List.flatMap_cons, List.flatMap_nil, set_len, frm_getC, frm_setC, wrapI, wrapB, if_pos, if_neg, decT, decF, beqT, beqF, bneT, bneF, c104, hE, his, hbx, hk, hkt]; rfl)); (focus rfl)))
      refine ⟨_, rfl, rfl, ?_, (oth_set _ hk).kp⟩
      refine ⟨dv, _, tv, (oth_set _ hk).box hbx, hd.other (oth_set _ hk) (by decide), ⟨by rw [prs_len], .inr ⟨k, off, ver, _, ?_, List.getElem?_set_self hkT, ?_, ?_⟩⟩, ht.other (oth_set _ hk) (by decide)⟩
      · rw [e, List.length_set]
      · rw [e, List.length_set]; exact hp.1
      · rw [e, List.length_set]; exact hp.2
  · have his' : isAt a st (keyAt a st) = false := by simpa using his
    by_cases h20 : st.length < 20
    · have e : putL a b st = st.take (keyAt a st) ++ [(a, b)] ++ st.drop (keyAt a st) := by unfold putL; rw [if_neg his, if_neg (by omega)]
      refine funW (fc := c104) rfl (by simp (disch := first | omega | assumption | (simp only [set_len, frm_len, List.length_set, List.length_append, List.length_cons, List.length_nil]; first | done | omega) | (simp only [seqOk, List.length_cons, List.length_nil, Nat.reduceAdd, Nat.reduceMul, Nat.zero_mul, Nat.reduceBEq, beq_self_eq_true, Bool.and_self, Bool.and_true, Bool.true_and]; done) | fail) only [push_cast, reduceCtorEq, Nat.reduceAdd, Nat.reduceSub, Nat.reduceMul, Nat.reduceLeDiff, Nat.reduceLT, Nat.reduceEqDiff, Int.reduceToNat, Int.reduceLT, Int.reduceLE, Int.reduceBEq, Int.reduceEq, Int.reduceSub, Int.reduceAdd, Int.reduceMul, Int.reduceNeg, frm_get, frm_set, set_set, fill_ok, fillL_n, fillL_c, List.flatMap_cons, List.flatMap_nil, set_len, frm_getC, frm_setC, wrapI, wrapB, if_pos, if_neg, decT, decF, beqT, beqF, bneT, bneF, c104, hE, his', hbx]; rfl) (by simp only [c104]; rfl) (by simp only [c104, st0, push_frm, if_false, if_true, Bool.false_eq_true, Nat.reduceSub, List.replicate, List.cons_append, List.nil_append]; rfl) ?_
      repeat' (first
        | (with_reducible apply wSeq)
        | (with_reducible apply wReg)
        | (with_reducible apply wBlock)
        | (with_reducible apply thenNor)
        | (with_reducible apply oNil)
        | ((with_reducible apply wCondT); (focus (simp only [rd, List.getD_cons_zero, List.getD_cons_succ]; done)))
        | ((with_reducible apply wCondF); (focus (simp only [rd, List.getD_cons_zero, List.getD_cons_succ]; done)))
        | (apply oOp (lenW ?_ hs) rfl; (any_goals (focus (simp only [rd, List.getD_cons_zero, List.getD_cons_succ]; done))); with_reducible apply nV; dsimp only [List.cons_append, List.nil_append, putV, List.set])
        | ((with_reducible apply oCall (h := hI)); (focus (simp only [rd, List.map_cons, List.map_nil, List.getD_cons_zero, List.getD_cons_succ] <;> rfl)); rintro _ _ ⟨T2, k2, off2, ver2, rfl, rfl, hS2, ho2⟩; (first | with_reducible apply nT | with_reducible apply nF | (with_reducible refine nB (fun hb => ?_) (fun hb => ?_) <;> (try simp only [decide_eq_true_eq, decide_eq_false_iff_not, beq_iff_eq, bne_iff_ne, ne_eq, beq_eq_false_iff_ne, bne_eq_false_iff_eq, Decidable.not_not, Int.not_lt, Int.not_le] at hb)) | with_reducible apply nV) <;> dsimp only [List.cons_append, List.nil_append, putV, List.set])
        | ((with_reducible apply oOp); (focus (simp (disch := first | omega | assumption | (simp only [set_len, frm_len, List.length_set, List.length_append, List.length_cons, List.length_nil]; first | done | omega) | (simp only [seqOk, List.length_cons, List.length_nil, Nat.reduceAdd, Nat.reduceMul, Nat.zero_mul, Nat.reduceBEq, beq_self_eq_true, Bool.and_self, Bool.and_true, Bool.true_and]; done) | fail) only [push_cast, reduceCtorEq, Nat.reduceAdd, Nat.reduceSub, Nat.reduceMul, Nat.reduceLeDiff, Nat.reduceLT, Nat.reduceEqDiff, Int.reduceToNat, Int.reduceLT, Int.reduceLE, Int.reduceBEq, Int.reduceEq, Int.reduceSub, Int.reduceAdd, Int.reduceMul, Int.reduceNeg, frm_get, frm_set, set_set, fill_ok, fillL_n, fillL_c, List.flatMap_cons, List.flatMap_nil, set_len, frm_getC, frm_setC, wrapI, wrapB, if_pos, if_neg, decT, decF, beqT, beqF, bneT, bneF, hE, his', hbx]; rfl)); (focus rfl); (first | with_reducible apply nT | with_reducible apply nF | (with_reducible refine nB (fun hb => ?_) (fun hb => ?_) <;> (try simp only [decide_eq_true_eq, decide_eq_false_iff_not, beq_iff_eq, bne_iff_ne, ne_eq, beq_eq_false_iff_ne, bne_eq_false_iff_eq, Decidable.not_not, Int.not_lt, Int.not_le] at hb)) | with_reducible apply nV) <;> dsimp only [List.cons_append, List.nil_append, putV, List.set]))
      have hx2 := ho2.box hbx
      have hxl := (List.getElem?_eq_some_iff.1 hx2).1
      repeat' (first
        | (with_reducible apply blockNor)
        | (with_reducible apply oNil)
        | ((with_reducible apply oOp); (focus (simp (disch := first | omega | assumption | (simp only [set_len, frm_len, List.length_set, List.length_append, List.length_cons, List.length_nil]; first | done | omega) | (simp only [seqOk, List.length_cons, List.length_nil, Nat.reduceAdd, Nat.reduceMul, Nat.zero_mul, Nat.reduceBEq, beq_self_eq_true, Bool.and_self, Bool.and_true, Bool.true_and]; done) | fail) only [push_cast, reduceCtorEq, Nat.reduceAdd, Nat.reduceSub, Nat.reduceMul, Nat.reduceLeDiff, Nat.reduceLT, Nat.reduceEqDiff, Int.reduceToNat, Int.reduceLT, Int.reduceLE, Int.reduceBEq, Int.reduceEq, Int.reduceSub, Int.reduceAdd, Int.reduceMul, Int.reduceNeg, frm_get, frm_set, set_set, fill_ok, fillL_n, fillL_c, List.flatMap_cons, List.flatMap_nil, set_len, frm_getC, frm_setC, wrapI, wrapB, if_pos, if_neg, decT, decF, beqT, beqF, bneT, bneF, hx2]; rfl)); (focus rfl); (first | with_reducible apply nT | with_reducible apply nF | (with_reducible refine nB (fun hb => ?_) (fun hb => ?_) <;> (try simp only [decide_eq_true_eq, decide_eq_false_iff_not, beq_iff_eq, bne_iff_ne, ne_eq, beq_eq_false_iff_ne, bne_eq_false_iff_eq, Decidable.not_not, Int.not_lt, Int.not_le] at hb)) | with_reducible apply nV) <;> dsimp only [List.cons_append, List.nil_append, putV, List.set])
        | ((with_reducible apply endI); (focus (simp (disch := first | omega | assumption | (simp only [set_len, frm_len, List.length_set, List.length_append, List.length_cons, List.length_nil]; first | done | omega) | (simp only [seqOk, List.length_cons, List.length_nil, Nat.reduceAdd, Nat.reduceMul, Nat.zero_mul, Nat.reduceBEq, beq_self_eq_true, Bool.and_self, Bool.and_true, Bool.true_and]; done) | fail) only [push_cast, reduceCtorEq, Nat.reduceAdd, Nat.reduceSub, Nat.reduceMul, Nat.reduceLeDiff, Nat.reduceLT, Nat.reduceEqDiff, Int.reduceToNat, Int.reduceLT, Int.reduceLE, Int.reduceBEq, Int.reduceEq, Int.reduceSub, Int.reduceAdd, Int.reduceMul, Int.reduceNeg, frm_get, frm_set, set_set, fill_ok, fillL_n, fillL_c, List.flatMap_cons, List.flatMap_nil, set_len, frm_getC, frm_setC, wrapI, wrapB, if_pos, if_neg, decT, decF, beqT, beqF, bneT, bneF, c104, hx2]; rfl)); (focus rfl)))
      refine ⟨_, rfl, rfl, ⟨dv, _, tv, List.getElem?_set_self hxl, (hd.other ho2 (by decide)).box hx2 _, ?_, (ht.other ho2 (by decide)).box hx2 _⟩, ho2.kp.trans (kp_set _ hx2)⟩
      rw [e]
      have hl : (st.take (keyAt a st) ++ [(a, b)] ++ st.drop (keyAt a st)).length = st.length + 1 := by
        have := keyAt_le a st
        simp only [List.length_append, List.length_take, List.length_drop, List.length_cons, List.length_nil]; omega
      rw [hl]
      exact hS2.box hx2 _
    · have e : putL a b st = st := by unfold putL; rw [if_neg his, if_pos (by omega)]
      refine funW (fc := c104) rfl (by simp (disch := first | omega | assumption | (simp only [set_len, frm_len, List.length_set, List.length_append, List.length_cons, List.length_nil]; first | done | omega) | (simp only [seqOk, List.length_cons, List.length_nil, Nat.reduceAdd, Nat.reduceMul, Nat.zero_mul, Nat.reduceBEq, beq_self_eq_true, Bool.and_self, Bool.and_true, Bool.true_and]; done) | fail) only [push_cast, reduceCtorEq, Nat.reduceAdd, Nat.reduceSub, Nat.reduceMul, Nat.reduceLeDiff, Nat.reduceLT, Nat.reduceEqDiff, Int.reduceToNat, Int.reduceLT, Int.reduceLE, Int.reduceBEq, Int.reduceEq, Int.reduceSub, Int.reduceAdd, Int.reduceMul, Int.reduceNeg, frm_get, frm_set, set_set, fill_ok, fillL_n, fillL_c, List.flatMap_cons, List.flatMap_nil, set_len, frm_getC, frm_setC, wrapI, wrapB, if_pos, if_neg, decT, decF, beqT, beqF, bneT, bneF, c104, hE, his', hbx]; rfl) (by simp only [c104]; rfl) (by simp only [c104, st0, push_frm, if_false, if_true, Bool.false_eq_true, Nat.reduceSub, List.replicate, List.cons_append, List.nil_append]; rfl) ?_
      repeat' (first
        | (with_reducible apply wSeq)
        | (with_reducible apply wReg)
        | (with_reducible apply wBlock)
        | (with_reducible apply thenNor)
        | (with_reducible apply blockNor)
        | (with_reducible apply oNil)
        | (with_reducible apply wSkip)
        | ((with_reducible apply wCondF); (focus (simp only [rd, List.getD_cons_zero, List.getD_cons_succ]; done)))
        | (apply oOp (lenW ?_ hs) rfl; (any_goals (focus (simp only [rd, List.getD_cons_zero, List.getD_cons_succ]; done))); with_reducible apply nV; dsimp only [List.cons_append, List.nil_append, putV, List.set])
        | ((with_reducible apply oOp); (focus (simp (disch := first | omega | assumption | (simp only [set_len, frm_len, List.length_set, List.length_append, List.length_cons, List.length_nil]; first | done | omega) | (simp only [seqOk, List.length_cons, List.length_nil, Nat.reduceAdd, Nat.reduceMul, Nat.zero_mul, Nat.reduceBEq, beq_self_eq_true, Bool.and_self, Bool.and_true, Bool.true_and]; done) | fail) only [push_cast, reduceCtorEq, Nat.reduceAdd, Nat.reduceSub, Nat.reduceMul, Nat.reduceLeDiff, Nat.reduceLT, Nat.reduceEqDiff, Int.reduceToNat, Int.reduceLT, Int.reduceLE, Int.reduceBEq, Int.reduceEq, Int.reduceSub, Int.reduceAdd, Int.reduceMul, Int.reduceNeg, frm_get, frm_set, set_set, fill_ok, fillL_n, fillL_c, List.flatMap_cons, List.flatMap_nil, set_len, frm_getC, frm_setC, wrapI, wrapB, if_pos, if_neg, decT, decF, beqT, beqF, bneT, bneF, hE, his', hbx]; rfl)); (focus rfl); (first | with_reducible apply nT | with_reducible apply nF | (with_reducible refine nB (fun hb => ?_) (fun hb => ?_) <;> (try simp only [decide_eq_true_eq, decide_eq_false_iff_not, beq_iff_eq, bne_iff_ne, ne_eq, beq_eq_false_iff_ne, bne_eq_false_iff_eq, Decidable.not_not, Int.not_lt, Int.not_le] at hb)) | with_reducible apply nV) <;> dsimp only [List.cons_append, List.nil_append, putV, List.set])
        | ((with_reducible apply endI); (focus (simp (disch := first | omega | assumption | (simp only [set_len, frm_len, List.length_set, List.length_append, List.length_cons, List.length_nil]; first | done | omega) | (simp only [seqOk, List.length_cons, List.length_nil, Nat.reduceAdd, Nat.reduceMul, Nat.zero_mul, Nat.reduceBEq, beq_self_eq_true, Bool.and_self, Bool.and_true, Bool.true_and]; done) | fail) only [push_cast, reduceCtorEq, Nat.reduceAdd, Nat.reduceSub, Nat.reduceMul, Nat.reduceLeDiff, Nat.reduceLT, Nat.reduceEqDiff, Int.reduceToNat, Int.reduceLT, Int.reduceLE, Int.reduceBEq, Int.reduceEq, Int.reduceSub, Int.reduceAdd, Int.reduceMul, Int.reduceNeg, frm_get, frm_set, set_set, fill_ok, fillL_n, fillL_c, List.flatMap_cons, List.flatMap_nil, set_len, frm_getC, frm_setC, wrapI, wrapB, if_pos, if_neg, decT, decF, beqT, beqF, bneT, bneF, c104, hE, his', hbx]; rfl)); (focus rfl)))
      exact ⟨T, rfl, rfl, ⟨dv, sv, tv, hbx, hd, by rw [e]; exact hs, ht⟩, (Oth.refl 0 T).kp⟩
end Go.Proofs.Ythogcanomihelaa.Gw
