/- Worlds that are drawn. -/
import Derived.Test.YthogcanomihelaaWc
import Derived.Test.YthogcanomihelaaVa
set_option linter.unusedSimpArgs false
set_option linter.unusedVariables false
namespace Go.Proofs.Ythogcanomihelaa.Gw
open Go Go.Proofs Go.Proofs.Ythogcanomihelaa.Ae
attribute [local congr] obind_congr
attribute [local push_cast] exF argsV frzs frz frzL frz1 exS_reg exS_seq exS_cond exS_alt exS_block exS_loop exS_exit exS_ret exS_skip evReg evOps evOne evAct evOp rd putV st0 evEnd resV resL resOne oneOr frzR loadV storeV binV binI unV push_frm pop_frm frm_len frm_top frm_get_top frm_set_top frm_new AV.cells AV.lowB AV.lowL AV.isCell cellsOk set_len Option.bind_some Option.map_some Option.map_none List.getD_cons_zero List.getD_cons_succ List.nil_append List.cons_append List.append_nil List.length_cons List.length_nil List.set_cons_zero List.set_cons_succ List.map_cons List.map_nil List.replicate if_true if_false ite_true ite_false ite_self Bool.false_eq_true List.all_cons List.all_nil Bool.and_true Bool.true_and Bool.and_self Bool.and_eq_true List.getElem?_cons_zero List.getElem?_cons_succ List.drop_succ_cons List.drop_zero List.take_succ_cons List.take_zero true_and and_true and_self decide_true decide_false Bool.not_true Bool.not_false Prod.mk.injEq Option.some.injEq List.getElem?_drop optInt elems sliceV partsOf Nat.add_zero Nat.zero_add Nat.mul_one beq_self_eq_true litParts Bool.or_false Bool.false_or Bool.or_true Bool.true_or Bool.false_and Bool.and_false List.cons.injEq not_false_eq_true not_true_eq_false Nat.zero_le Nat.le_refl gt_iff_lt ge_iff_le List.drop_nil List.take_nil newBox List.length_append List.length_map bne_self_eq_false eq_self Nat.lt_add_one ne_eq false_implies Int.le_refl

/-- A draw, by a cursor in the frame. -/
theorem draw_at {f : Nat} {args : List AV} {R : AV → Prop} (h : Draws f args R) {s : Store} {T : List Ae.Obj} {D c : Nat} {o : Ae.Obj} (hD : D = s.low.length + 1) (hc : T[c]? = some o) (hO : CurO o) :
    ∃ v s', callF (tab tbl) prim f (.ptr D c 0 :: args) (frm s T) = some (v, s') ∧ ∃ o2, s' = frm s (T.set c o2) ∧ CurO o2 ∧ R v := by
  subst hD
  obtain ⟨v, o2, e, h1, h2⟩ := h (frm s T) (s.low.length + 1) c o (by rw [frm_get_top]; exact hc) hO
  rw [frm_set_top] at e
  exact ⟨v, _, e, o2, rfl, h1, h2⟩
theorem CurO.box {o : Ae.Obj} (h : CurO o) : ∃ bs, o = .box 144 bs := by
  obtain ⟨n, f, cs, k, h, rfl, _⟩ := h
  exact ⟨_, rfl⟩
theorem WAt.cur {D i c : Nat} {T : List Ae.Obj} {t : Int} {ds : List Int} {st : List (Int × Int)} {tr : List Ev} {o : Ae.Obj} (h : WAt D T i t ds st tr) (hc : T[c]? = some o) (hO : CurO o) (hne : c ≠ i) (o2 : Ae.Obj) : WAt D (T.set c o2) i t ds st tr := by
  obtain ⟨bs, rfl⟩ := hO.box
  exact h.other hc hne o2
/-- What drawing with a cursor at c has left of a frame. -/
def KpC (c : Nat) (T T' : List Ae.Obj) : Prop := KpW c T T' ∧ ∃ o, T'[c]? = some o ∧ CurO o
theorem kpw_set {c : Nat} {T : List Ae.Obj} (o : Ae.Obj) : KpW c T (T.set c o) := ⟨by simp, fun j t bs hj ht => by rw [List.getElem?_set_ne (Ne.symm hj)]; exact ht⟩
theorem kpw_of {c i : Nat} {T X Y : List Ae.Obj} (h : KpW c T X) (k : KpW i X Y) (hi : T.length ≤ i) : KpW c T Y :=
  ⟨Nat.le_trans h.1 k.1, fun j t cs hj ht => k.2 j t cs (by have := (List.getElem?_eq_some_iff.1 ht).1; omega) (h.2 j t cs hj ht)⟩
set_option maxHeartbeats 4000000 in
theorem l11world_ok {s : Store} {T : List Ae.Obj} {D c : Nat} {o : Ae.Obj} (hD : D = s.low.length + 1) (hc : T[c]? = some o) (hO : CurO o) :
    ∃ v s', callF (tab tbl) prim 49 [.ptr D c 0] (frm s T) = some (v, s') ∧ ∃ T' t dv sv tv ds st, v = .agg [.int .i64 t, dv, sv, tv] ∧ s' = frm s T' ∧ KpC c T T' ∧ (0 ≤ t ∧ t ≤ 3) ∧
      SlAt D T' 3 1 dv ds.length (ints ds) ∧ SlAt D T' 113 2 sv st.length (prs st) ∧ SlAt D T' 49 5 tv 0 [] ∧ ds.length ≤ 6 ∧ st.length ≤ 6 := by
  subst hD
  have hcl := (List.getElem?_eq_some_iff.1 hc).1
  have hc1 : ∀ x, (T ++ [x])[c]? = some o := fun x => by rw [List.getElem?_append_left hcl]; exact hc
  refine funW (fc := c49) rfl (by simp (disch := first | omega | assumption | (simp only [set_len, frm_len, List.length_set, List.length_append, List.length_cons, List.length_nil]; first | done | omega) | (simp only [seqOk, List.length_cons, List.length_nil, Nat.reduceAdd, Nat.reduceMul, Nat.zero_mul, Nat.reduceBEq, beq_self_eq_true, Bool.and_self, Bool.and_true, Bool.true_and]; done) | fail) only [push_cast, reduceCtorEq, Nat.reduceAdd, Nat.reduceSub, Nat.reduceMul, Nat.reduceLeDiff, Nat.reduceLT, Nat.reduceEqDiff, Int.reduceToNat, Int.reduceLT, Int.reduceLE, Int.reduceBEq, Int.reduceEq, Int.reduceSub, Int.reduceAdd, Int.reduceMul, Int.reduceNeg, frm_get, frm_set, set_set, fill_ok, fillL_n, fillL_c, List.flatMap_cons, List.flatMap_nil, set_len, frm_getC, frm_setC, wrapI, wrapB, if_pos, if_neg, decT, decF, beqT, beqF, bneT, bneF, c49]; rfl) (by simp only [c49]; rfl) (by simp only [c49, st0, push_frm, if_false, if_true, Bool.false_eq_true, Nat.reduceSub, List.replicate, List.cons_append, List.nil_append]; rfl) ?_
  repeat' (first
    | (with_reducible apply wSeq)
    | (with_reducible apply wReg)
    | (with_reducible apply thenNor)
    | (with_reducible apply oNil)
    | ((with_reducible apply oCall (h := draw_at (l1Below_ok 3 (by omega)) rfl (hc1 _) hO)); (focus (simp only [rd, List.map_cons, List.map_nil, List.getD_cons_zero, List.getD_cons_succ] <;> rfl)); rintro _ _ ⟨o2, rfl, hO2, x, rfl, hx0, hx1, hx2⟩; (first | with_reducible apply nT | with_reducible apply nF | (with_reducible refine nB (fun hb => ?_) (fun hb => ?_) <;> (try simp only [decide_eq_true_eq, decide_eq_false_iff_not, beq_iff_eq, bne_iff_ne, ne_eq, beq_eq_false_iff_ne, bne_eq_false_iff_eq, Decidable.not_not, Int.not_lt, Int.not_le] at hb)) | with_reducible apply nV) <;> dsimp only [List.cons_append, List.nil_append, putV, List.set])
    | ((with_reducible apply oOp); (focus (simp (disch := first | omega | assumption | (simp only [set_len, frm_len, List.length_set, List.length_append, List.length_cons, List.length_nil]; first | done | omega) | (simp only [seqOk, List.length_cons, List.length_nil, Nat.reduceAdd, Nat.reduceMul, Nat.zero_mul, Nat.reduceBEq, beq_self_eq_true, Bool.and_self, Bool.and_true, Bool.true_and]; done) | fail) only [push_cast, reduceCtorEq, Nat.reduceAdd, Nat.reduceSub, Nat.reduceMul, Nat.reduceLeDiff, Nat.reduceLT, Nat.reduceEqDiff, Int.reduceToNat, Int.reduceLT, Int.reduceLE, Int.reduceBEq, Int.reduceEq, Int.reduceSub, Int.reduceAdd, Int.reduceMul, Int.reduceNeg, frm_get, frm_set, set_set, fill_ok, fillL_n, fillL_c, List.flatMap_cons, List.flatMap_nil, set_len, frm_getC, frm_setC, wrapI, wrapB, if_pos, if_neg, decT, decF, beqT, beqF, bneT, bneF]; rfl)); (focus rfl); (first | with_reducible apply nT | with_reducible apply nF | (with_reducible refine nB (fun hb => ?_) (fun hb => ?_) <;> (try simp only [decide_eq_true_eq, decide_eq_false_iff_not, beq_iff_eq, bne_iff_ne, ne_eq, beq_eq_false_iff_ne, bne_eq_false_iff_eq, Decidable.not_not, Int.not_lt, Int.not_le] at hb)) | with_reducible apply nV) <;> dsimp only [List.cons_append, List.nil_append, putV, List.set]))
  have hx1 := hx1 (by omega)
  obtain ⟨R, hR⟩ : ∃ R, R = T.length := ⟨_, rfl⟩
  have hcR : c ≠ R := by omega
  have hR0 : (T ++ [Ae.Obj.box 40 [.int .i64 0, .imm true 0 [], .imm true 0 [], .imm true 0 []]])[R]? = some (.box 40 [.int .i64 0, .imm true 0 [], .imm true 0 [], .imm true 0 []]) := by rw [hR]; simp
  have hk0 : KpW c T ((T ++ [Ae.Obj.box 40 [.int .i64 0, .imm true 0 [], .imm true 0 [], .imm true 0 []]]).set c o2) := ((oth_snoc 0 _ _).kp).trans (kpw_set _)
  rw [← hR]
  have hRX : ((T ++ [Ae.Obj.box 40 [.int .i64 0, .imm true 0 [], .imm true 0 [], .imm true 0 []]]).set c o2)[R]? = some (.box 40 [.int .i64 0, .imm true 0 [], .imm true 0 [], .imm true 0 []]) := by rw [List.getElem?_set_ne hcR]; exact hR0
  have hcX : ((T ++ [Ae.Obj.box 40 [.int .i64 0, .imm true 0 [], .imm true 0 [], .imm true 0 []]]).set c o2)[c]? = some o2 := List.getElem?_set_self (by simp; omega)
  generalize (T ++ [Ae.Obj.box 40 [.int .i64 0, .imm true 0 [], .imm true 0 [], .imm true 0 []]]).set c o2 = X at *
  obtain ⟨W, hW⟩ : ∃ W, W = X.length := ⟨_, rfl⟩
  have hRl := (List.getElem?_eq_some_iff.1 hRX).1
  have hcXl := (List.getElem?_eq_some_iff.1 hcX).1
  have hcW : c ≠ W := by omega
  have hRW : R ≠ W := by omega
  have hWX : (X ++ [Ae.Obj.box 40 [.int .i64 0, .imm true 0 [], .imm true 0 [], .imm true 0 []]])[W]? = some (.box 40 [.int .i64 0, .imm true 0 [], .imm true 0 [], .imm true 0 []]) := by rw [hW]; simp
  have hRY : (X ++ [Ae.Obj.box 40 [.int .i64 0, .imm true 0 [], .imm true 0 [], .imm true 0 []]])[R]? = some (.box 40 [.int .i64 0, .imm true 0 [], .imm true 0 [], .imm true 0 []]) := by rw [List.getElem?_append_left hRl]; exact hRX
  have hcY : (X ++ [Ae.Obj.box 40 [.int .i64 0, .imm true 0 [], .imm true 0 [], .imm true 0 []]])[c]? = some o2 := by rw [List.getElem?_append_left hcXl]; exact hcX
  have hkY : KpW c T (X ++ [Ae.Obj.box 40 [.int .i64 0, .imm true 0 [], .imm true 0 [], .imm true 0 []]]) := hk0.trans (oth_snoc 0 _ _).kp
  rw [← hW]
  clear hc1
  generalize X ++ [Ae.Obj.box 40 [.int .i64 0, .imm true 0 [], .imm true 0 [], .imm true 0 []]] = Y at *
  have hcY1 : ∀ b, (Y.set W b)[c]? = some o2 := fun b => (List.getElem?_set_ne (Ne.symm hcW)).trans hcY
  have hTW : T.length ≤ W := by omega
  repeat' (first
    | (with_reducible apply wSeq)
    | (with_reducible apply wReg)
    | (with_reducible apply wBlock)
    | (with_reducible apply thenNor)
    | (with_reducible apply oNil)
    | ((with_reducible apply oCall (h := draw_at (l1Below_ok 6 (by omega)) rfl (hcY1 _) hO2)); (focus (simp only [rd, List.map_cons, List.map_nil, List.getD_cons_zero, List.getD_cons_succ] <;> rfl)); rintro _ _ ⟨o3, rfl, hO3, n, rfl, hn0, hn1, hn2⟩; (first | with_reducible apply nT | with_reducible apply nF | (with_reducible refine nB (fun hb => ?_) (fun hb => ?_) <;> (try simp only [decide_eq_true_eq, decide_eq_false_iff_not, beq_iff_eq, bne_iff_ne, ne_eq, beq_eq_false_iff_ne, bne_eq_false_iff_eq, Decidable.not_not, Int.not_lt, Int.not_le] at hb)) | with_reducible apply nV) <;> dsimp only [List.cons_append, List.nil_append, putV, List.set])
    | ((with_reducible apply oOp); (focus (simp (disch := first | omega | assumption | (simp only [set_len, frm_len, List.length_set, List.length_append, List.length_cons, List.length_nil]; first | done | omega) | (simp only [seqOk, List.length_cons, List.length_nil, Nat.reduceAdd, Nat.reduceMul, Nat.zero_mul, Nat.reduceBEq, beq_self_eq_true, Bool.and_self, Bool.and_true, Bool.true_and]; done) | fail) only [push_cast, reduceCtorEq, Nat.reduceAdd, Nat.reduceSub, Nat.reduceMul, Nat.reduceLeDiff, Nat.reduceLT, Nat.reduceEqDiff, Int.reduceToNat, Int.reduceLT, Int.reduceLE, Int.reduceBEq, Int.reduceEq, Int.reduceSub, Int.reduceAdd, Int.reduceMul, Int.reduceNeg, frm_get, frm_set, set_set, fill_ok, fillL_n, fillL_c, List.flatMap_cons, List.flatMap_nil, set_len, frm_getC, frm_setC, wrapI, wrapB, if_pos, if_neg, decT, decF, beqT, beqF, bneT, bneF, hWX, List.getElem?_set_ne, List.getElem?_set_self]; rfl)); (focus rfl); (first | with_reducible apply nT | with_reducible apply nF | (with_reducible refine nB (fun hb => ?_) (fun hb => ?_) <;> (try simp only [decide_eq_true_eq, decide_eq_false_iff_not, beq_iff_eq, bne_iff_ne, ne_eq, beq_eq_false_iff_ne, bne_eq_false_iff_eq, Decidable.not_not, Int.not_lt, Int.not_le] at hb)) | with_reducible apply nV) <;> dsimp only [List.cons_append, List.nil_append, putV, List.set]))
  have hn1 := hn1 (by omega)
  have hW0 : WAt (s.low.length + 1) ((Y.set W (.box 40 [.int .i64 x, .imm true 0 [], .imm true 0 [], .imm true 0 []])).set c o3) W x [] [] [] := by
    refine WAt.cur ⟨_, _, _, List.getElem?_set_self (List.getElem?_eq_some_iff.1 hWX).1, .nil _ _ _ _, .nil _ _ _ _, .nil _ _ _ _⟩ (hcY1 _) hO2 hcW o3
  refine wLoop (fun m z => ∃ (q : Int) (T3 : List Ae.Obj) (o3 : Ae.Obj) (ds : List Int) (y6 y7 : AV), (m : Int) = n - q ∧ 0 ≤ q ∧ q ≤ n ∧ (ds.length : Int) = q ∧ WAt (s.low.length + 1) T3 W x ds [] [] ∧ T3[c]? = some o3 ∧ CurO o3 ∧ T3[R]? = some (.box 40 [.int .i64 0, .imm true 0 [], .imm true 0 [], .imm true 0 []]) ∧ KpW c T T3 ∧
    z = ⟨[.ptr (s.low.length + 1) c 0, .ptr (s.low.length + 1) R 0, .ptr (s.low.length + 1) W 0, .int .i64 n, .int .i64 q, .undef, y6, y7], frm s T3⟩) n.toNat ⟨0, _, o3, [], _, _, by omega, by omega, by omega, rfl, hW0, ?_, hO3, ?_, ?_, rfl⟩ ?_
  · exact List.getElem?_set_self (by rw [List.length_set]; exact (List.getElem?_eq_some_iff.1 hcY).1)
  · rw [List.getElem?_set_ne hcR, List.getElem?_set_ne (Ne.symm hRW)]; exact hRY
  · exact (hkY.new hTW _).trans (kpw_set _)
  · rintro m z ⟨q, T3, o3, ds, y6, y7, hm, hq, hqn, hdl, hW3, hc3, hO3, hR3, hk3, rfl⟩
    have hW3' := hW3
    obtain ⟨dv, sv, tv, hbx, hd, hs, ht⟩ := hW3
    obtain ⟨cb, hcb⟩ := hO3.box
    have hcb3 : T3[c]? = some (.box 144 cb) := by rw [hc3, hcb]
    have g1 : ∀ o, (T3.set c o)[W]? = some (.box 40 [.int .i64 x, dv, sv, tv]) := fun o => (List.getElem?_set_ne hcW).trans hbx
    by_cases hql : q < n
    · have A := fun o z => slAt_app_pos (s := s) (T := T3.set c o) (bytes := 8) (y := .imm true 1 [.int .i64 z]) rfl (by decide) rfl rfl rfl (by omega) (by omega) (hd.box hcb3 o)
      repeat' (first
        | (with_reducible apply wSeq)
        | (with_reducible apply wReg)
        | (with_reducible apply wBlock)
        | (with_reducible apply thenNor)
        | (with_reducible apply oNil)
        | (with_reducible apply wSkip)
        | (with_reducible apply wRegT)
        | ((with_reducible apply wCondT); (focus (simp only [rd, List.getD_cons_zero, List.getD_cons_succ]; done)))
        | ((with_reducible apply tCall (h := draw_at (l1Below_ok 2147483647 (by omega)) rfl hc3 hO3)); (focus (simp only [rd, List.map_cons, List.map_nil, List.getD_cons_zero, List.getD_cons_succ] <;> rfl)); rintro _ _ ⟨o4, rfl, hO4, u, rfl, hu0, hu1, hu2⟩; (first | with_reducible apply tT | with_reducible apply tF | (with_reducible refine tB (fun hb => ?_) (fun hb => ?_) <;> (try simp only [decide_eq_true_eq, decide_eq_false_iff_not, beq_iff_eq, bne_iff_ne, ne_eq, beq_eq_false_iff_ne, bne_eq_false_iff_eq, Decidable.not_not, Int.not_lt, Int.not_le] at hb)) | with_reducible apply tV) <;> dsimp only [List.cons_append, List.nil_append, putV, List.set])
        | ((with_reducible apply tApp (h := A _ _)); (focus (simp only [rd, List.getD_cons_zero, List.getD_cons_succ] <;> rfl)); (focus (simp only [rd, List.getD_cons_zero, List.getD_cons_succ] <;> rfl)); rintro _ _ ⟨T5, k5, off5, ver5, rfl, rfl, hS5, ho5, hc5⟩; (first | with_reducible apply tT | with_reducible apply tF | (with_reducible refine tB (fun hb => ?_) (fun hb => ?_) <;> (try simp only [decide_eq_true_eq, decide_eq_false_iff_not, beq_iff_eq, bne_iff_ne, ne_eq, beq_eq_false_iff_ne, bne_eq_false_iff_eq, Decidable.not_not, Int.not_lt, Int.not_le] at hb)) | with_reducible apply tV) <;> dsimp only [List.cons_append, List.nil_append, putV, List.set])
        | ((with_reducible apply oOp); (focus (simp (disch := first | omega | assumption | (simp only [set_len, frm_len, List.length_set, List.length_append, List.length_cons, List.length_nil]; first | done | omega) | (simp only [seqOk, List.length_cons, List.length_nil, Nat.reduceAdd, Nat.reduceMul, Nat.zero_mul, Nat.reduceBEq, beq_self_eq_true, Bool.and_self, Bool.and_true, Bool.true_and]; done) | fail) only [push_cast, reduceCtorEq, Nat.reduceAdd, Nat.reduceSub, Nat.reduceMul, Nat.reduceLeDiff, Nat.reduceLT, Nat.reduceEqDiff, Int.reduceToNat, Int.reduceLT, Int.reduceLE, Int.reduceBEq, Int.reduceEq, Int.reduceSub, Int.reduceAdd, Int.reduceMul, Int.reduceNeg, frm_get, frm_set, set_set, fill_ok, fillL_n, fillL_c, List.flatMap_cons, List.flatMap_nil, set_len, frm_getC, frm_setC, wrapI, wrapB, if_pos, if_neg, decT, decF, beqT, beqF, bneT, bneF, hbx, g1]; rfl)); (focus rfl); (first | with_reducible apply nT | with_reducible apply nF | (with_reducible refine nB (fun hb => ?_) (fun hb => ?_) <;> (try simp only [decide_eq_true_eq, decide_eq_false_iff_not, beq_iff_eq, bne_iff_ne, ne_eq, beq_eq_false_iff_ne, bne_eq_false_iff_eq, Decidable.not_not, Int.not_lt, Int.not_le] at hb)) | with_reducible apply nV) <;> dsimp only [List.cons_append, List.nil_append, putV, List.set])
        | ((with_reducible apply tOp); (focus (simp (disch := first | omega | assumption | (simp only [set_len, frm_len, List.length_set, List.length_append, List.length_cons, List.length_nil]; first | done | omega) | (simp only [seqOk, List.length_cons, List.length_nil, Nat.reduceAdd, Nat.reduceMul, Nat.zero_mul, Nat.reduceBEq, beq_self_eq_true, Bool.and_self, Bool.and_true, Bool.true_and]; done) | fail) only [push_cast, reduceCtorEq, Nat.reduceAdd, Nat.reduceSub, Nat.reduceMul, Nat.reduceLeDiff, Nat.reduceLT, Nat.reduceEqDiff, Int.reduceToNat, Int.reduceLT, Int.reduceLE, Int.reduceBEq, Int.reduceEq, Int.reduceSub, Int.reduceAdd, Int.reduceMul, Int.reduceNeg, frm_get, frm_set, set_set, fill_ok, fillL_n, fillL_c, List.flatMap_cons, List.flatMap_nil, set_len, frm_getC, frm_setC, wrapI, wrapB, if_pos, if_neg, decT, decF, beqT, beqF, bneT, bneF, hbx, g1]; rfl)); (focus rfl); (first | with_reducible apply tT | with_reducible apply tF | (with_reducible refine tB (fun hb => ?_) (fun hb => ?_) <;> (try simp only [decide_eq_true_eq, decide_eq_false_iff_not, beq_iff_eq, bne_iff_ne, ne_eq, beq_eq_false_iff_ne, bne_eq_false_iff_eq, Decidable.not_not, Int.not_lt, Int.not_le] at hb)) | with_reducible apply tV) <;> dsimp only [List.cons_append, List.nil_append, putV, List.set]))
      have hx5 : T5[W]? = some (.box 40 [.int .i64 x, dv, sv, tv]) := ho5.box (g1 _)
      repeat' (first
        | (with_reducible apply wReg)
        | (with_reducible apply thenNor)
        | (with_reducible apply blockNor)
        | (with_reducible apply oNil)
        | ((with_reducible apply oOp); (focus (simp (disch := first | omega | assumption | (simp only [set_len, frm_len, List.length_set, List.length_append, List.length_cons, List.length_nil]; first | done | omega) | (simp only [seqOk, List.length_cons, List.length_nil, Nat.reduceAdd, Nat.reduceMul, Nat.zero_mul, Nat.reduceBEq, beq_self_eq_true, Bool.and_self, Bool.and_true, Bool.true_and]; done) | fail) only [push_cast, reduceCtorEq, Nat.reduceAdd, Nat.reduceSub, Nat.reduceMul, Nat.reduceLeDiff, Nat.reduceLT, Nat.reduceEqDiff, Int.reduceToNat, Int.reduceLT, Int.reduceLE, Int.reduceBEq, Int.reduceEq, Int.reduceSub, Int.reduceAdd, Int.reduceMul, Int.reduceNeg, frm_get, frm_set, set_set, fill_ok, fillL_n, fillL_c, List.flatMap_cons, List.flatMap_nil, set_len, frm_getC, frm_setC, wrapI, wrapB, if_pos, if_neg, decT, decF, beqT, beqF, bneT, bneF, hx5, hbx, g1]; rfl)); (focus rfl); (first | with_reducible apply nT | with_reducible apply nF | (with_reducible refine nB (fun hb => ?_) (fun hb => ?_) <;> (try simp only [decide_eq_true_eq, decide_eq_false_iff_not, beq_iff_eq, bne_iff_ne, ne_eq, beq_eq_false_iff_ne, bne_eq_false_iff_eq, Decidable.not_not, Int.not_lt, Int.not_le] at hb)) | with_reducible apply nV) <;> dsimp only [List.cons_append, List.nil_append, putV, List.set])
        | ((with_reducible apply tOp); (focus (simp (disch := first | omega | assumption | (simp only [set_len, frm_len, List.length_set, List.length_append, List.length_cons, List.length_nil]; first | done | omega) | (simp only [seqOk, List.length_cons, List.length_nil, Nat.reduceAdd, Nat.reduceMul, Nat.zero_mul, Nat.reduceBEq, beq_self_eq_true, Bool.and_self, Bool.and_true, Bool.true_and]; done) | fail) only [push_cast, reduceCtorEq, Nat.reduceAdd, Nat.reduceSub, Nat.reduceMul, Nat.reduceLeDiff, Nat.reduceLT, Nat.reduceEqDiff, Int.reduceToNat, Int.reduceLT, Int.reduceLE, Int.reduceBEq, Int.reduceEq, Int.reduceSub, Int.reduceAdd, Int.reduceMul, Int.reduceNeg, frm_get, frm_set, set_set, fill_ok, fillL_n, fillL_c, List.flatMap_cons, List.flatMap_nil, set_len, frm_getC, frm_setC, wrapI, wrapB, if_pos, if_neg, decT, decF, beqT, beqF, bneT, bneF, hx5, hbx, g1]; rfl)); (focus rfl); (first | with_reducible apply tT | with_reducible apply tF | (with_reducible refine tB (fun hb => ?_) (fun hb => ?_) <;> (try simp only [decide_eq_true_eq, decide_eq_false_iff_not, beq_iff_eq, bne_iff_ne, ne_eq, beq_eq_false_iff_ne, bne_eq_false_iff_eq, Decidable.not_not, Int.not_lt, Int.not_le] at hb)) | with_reducible apply tV) <;> dsimp only [List.cons_append, List.nil_append, putV, List.set])
        | ((with_reducible apply tNil); (focus (simp (disch := first | omega | assumption | (simp only [set_len, frm_len, List.length_set, List.length_append, List.length_cons, List.length_nil]; first | done | omega) | (simp only [seqOk, List.length_cons, List.length_nil, Nat.reduceAdd, Nat.reduceMul, Nat.zero_mul, Nat.reduceBEq, beq_self_eq_true, Bool.and_self, Bool.and_true, Bool.true_and]; done) | fail) only [chkOne, noCall, same_self, List.nil_append, List.cons_append, push_cast, reduceCtorEq, Nat.reduceAdd, Nat.reduceSub, Nat.reduceMul, Nat.reduceLeDiff, Nat.reduceLT, Nat.reduceEqDiff, Int.reduceToNat, Int.reduceLT, Int.reduceLE, Int.reduceBEq, Int.reduceEq, Int.reduceSub, Int.reduceAdd, Int.reduceMul, Int.reduceNeg, frm_get, frm_set, set_set, fill_ok, fillL_n, fillL_c, List.flatMap_cons, List.flatMap_nil, set_len, frm_getC, frm_setC, wrapI, wrapB, if_pos, if_neg, decT, decF, beqT, beqF, bneT, bneF, hx5, hbx, g1]; done))))
      have hc5' : T5[c]? = some o4 := by
        obtain ⟨cb4, hcb4⟩ := hO4.box
        rw [hcb4]
        exact ho5.box (by rw [← hcb4]; exact List.getElem?_set_self (List.getElem?_eq_some_iff.1 hc3).1)
      rw [ints_snoc] at hS5
      refine loopNor (m - 1) (by omega) ⟨q + 1, _, o4, ds ++ [u], _, _, by omega, by omega, by omega, by simp; omega, ⟨_, _, _, List.getElem?_set_self (List.getElem?_eq_some_iff.1 hx5).1, by rw [List.length_append]; exact hS5.box hx5 _, ((hs.box hcb3 _).other ho5 (by decide)).box hx5 _, ((ht.box hcb3 _).other ho5 (by decide)).box hx5 _⟩, ?_, hO4, ?_, ?_, rfl⟩
      · rw [List.getElem?_set_ne (Ne.symm hcW)]; exact hc5'
      · rw [List.getElem?_set_ne (Ne.symm hRW)]
        exact ho5.box ((List.getElem?_set_ne hcR).trans hR3)
      · exact ((hk3.trans (kpw_set _)).trans ho5.kp).new hTW _
    · repeat' (first
        | (with_reducible apply wSeq)
        | (with_reducible apply wReg)
        | (with_reducible apply wBlock)
        | (with_reducible apply thenNor)
        | (with_reducible apply thenExit)
        | (with_reducible apply blockExit)
        | (with_reducible apply oNil)
        | (with_reducible apply wExit)
        | (with_reducible apply loopExit)
        | ((with_reducible apply wCondF); (focus (simp only [rd, List.getD_cons_zero, List.getD_cons_succ]; done)))
        | ((with_reducible apply oCall (h := draw_at (l1Below_ok 4 (by omega)) rfl hc3 hO3)); (focus (simp only [rd, List.map_cons, List.map_nil, List.getD_cons_zero, List.getD_cons_succ] <;> rfl)); rintro _ _ ⟨o4, rfl, hO4, p, rfl, hp0, hp1, hp2⟩; (first | with_reducible apply nT | with_reducible apply nF | (with_reducible refine nB (fun hb => ?_) (fun hb => ?_) <;> (try simp only [decide_eq_true_eq, decide_eq_false_iff_not, beq_iff_eq, bne_iff_ne, ne_eq, beq_eq_false_iff_ne, bne_eq_false_iff_eq, Decidable.not_not, Int.not_lt, Int.not_le] at hb)) | with_reducible apply nV) <;> dsimp only [List.cons_append, List.nil_append, putV, List.set])
        | ((with_reducible apply oOp); (focus (simp (disch := first | omega | assumption | (simp only [set_len, frm_len, List.length_set, List.length_append, List.length_cons, List.length_nil]; first | done | omega) | (simp only [seqOk, List.length_cons, List.length_nil, Nat.reduceAdd, Nat.reduceMul, Nat.zero_mul, Nat.reduceBEq, beq_self_eq_true, Bool.and_self, Bool.and_true, Bool.true_and]; done) | fail) only [push_cast, reduceCtorEq, Nat.reduceAdd, Nat.reduceSub, Nat.reduceMul, Nat.reduceLeDiff, Nat.reduceLT, Nat.reduceEqDiff, Int.reduceToNat, Int.reduceLT, Int.reduceLE, Int.reduceBEq, Int.reduceEq, Int.reduceSub, Int.reduceAdd, Int.reduceMul, Int.reduceNeg, frm_get, frm_set, set_set, fill_ok, fillL_n, fillL_c, List.flatMap_cons, List.flatMap_nil, set_len, frm_getC, frm_setC, wrapI, wrapB, if_pos, if_neg, decT, decF, beqT, beqF, bneT, bneF, hbx, g1]; rfl)); (focus rfl); (first | with_reducible apply nT | with_reducible apply nF | (with_reducible refine nB (fun hb => ?_) (fun hb => ?_) <;> (try simp only [decide_eq_true_eq, decide_eq_false_iff_not, beq_iff_eq, bne_iff_ne, ne_eq, beq_eq_false_iff_ne, bne_eq_false_iff_eq, Decidable.not_not, Int.not_lt, Int.not_le] at hb)) | with_reducible apply nV) <;> dsimp only [List.cons_append, List.nil_append, putV, List.set]))
      have hp1 := hp1 (by omega)
      refine wLoop (fun m z => ∃ (e : Int) (T3 : List Ae.Obj) (o3 : Ae.Obj) (st : List (Int × Int)) (y4 y6 y7 : AV), (m : Int) = p - e ∧ 0 ≤ e ∧ e ≤ p ∧ (st.length : Int) ≤ e ∧ WAt (s.low.length + 1) T3 W x ds st [] ∧ T3[c]? = some o3 ∧ CurO o3 ∧ T3[R]? = some (.box 40 [.int .i64 0, .imm true 0 [], .imm true 0 [], .imm true 0 []]) ∧ KpW c T T3 ∧
        z = ⟨[.ptr (s.low.length + 1) c 0, .ptr (s.low.length + 1) R 0, .ptr (s.low.length + 1) W 0, .int .i64 p, y4, .int .i64 e, y6, y7], frm s T3⟩) p.toNat ⟨0, _, o4, [], _, _, _, by omega, by omega, by omega, by simp, hW3'.cur hc3 hO3 hcW _, List.getElem?_set_self (List.getElem?_eq_some_iff.1 hc3).1, hO4, (List.getElem?_set_ne hcR).trans hR3, hk3.trans (kpw_set _), rfl⟩ ?_
      rintro m z ⟨e, T6, o6, st, y4, y6, y7, hm, he, hep, hsl, hW6, hc6, hO6, hR6, hk6, rfl⟩
      have hcl6 := (List.getElem?_eq_some_iff.1 hc6).1
      have hc7 : ∀ o, (T6.set c o)[c]? = some o := fun o => List.getElem?_set_self hcl6
      by_cases hel : e < p
      · repeat' (first
          | (with_reducible apply wSeq)
          | (with_reducible apply wReg)
          | (with_reducible apply wBlock)
          | (with_reducible apply thenNor)
          | (with_reducible apply blockNor)
          | (with_reducible apply oNil)
          | (with_reducible apply wSkip)
          | ((with_reducible apply wCondT); (focus (simp only [rd, List.getD_cons_zero, List.getD_cons_succ]; done)))
          | ((with_reducible apply oCall (h := draw_at (l1Below_ok 5 (by omega)) rfl hc6 hO6)); (focus (simp only [rd, List.map_cons, List.map_nil, List.getD_cons_zero, List.getD_cons_succ] <;> rfl)); rintro _ _ ⟨o7, rfl, hO7, k1, rfl, hk10, hk11, hk12⟩; (first | with_reducible apply nT | with_reducible apply nF | (with_reducible refine nB (fun hb => ?_) (fun hb => ?_) <;> (try simp only [decide_eq_true_eq, decide_eq_false_iff_not, beq_iff_eq, bne_iff_ne, ne_eq, beq_eq_false_iff_ne, bne_eq_false_iff_eq, Decidable.not_not, Int.not_lt, Int.not_le] at hb)) | with_reducible apply nV) <;> dsimp only [List.cons_append, List.nil_append, putV, List.set])
          | ((with_reducible apply oCall (h := draw_at (l1Below_ok 100 (by omega)) rfl (hc7 _) hO7)); (focus (simp only [rd, List.map_cons, List.map_nil, List.getD_cons_zero, List.getD_cons_succ] <;> rfl)); rintro _ _ ⟨o8, rfl, hO8, k2, rfl, hk20, hk21, hk22⟩; (first | with_reducible apply nT | with_reducible apply nF | (with_reducible refine nB (fun hb => ?_) (fun hb => ?_) <;> (try simp only [decide_eq_true_eq, decide_eq_false_iff_not, beq_iff_eq, bne_iff_ne, ne_eq, beq_eq_false_iff_ne, bne_eq_false_iff_eq, Decidable.not_not, Int.not_lt, Int.not_le] at hb)) | with_reducible apply nV) <;> dsimp only [List.cons_append, List.nil_append, putV, List.set])
          | ((with_reducible apply oCall (h := l11put_ok rfl ((hW6.cur hc6 hO6 hcW _).cur (hc7 _) hO7 hcW _) (by omega))); (focus (simp only [rd, List.map_cons, List.map_nil, List.getD_cons_zero, List.getD_cons_succ] <;> rfl)); rintro _ _ ⟨T9, rfl, rfl, hW9, hk9⟩; (first | with_reducible apply nT | with_reducible apply nF | (with_reducible refine nB (fun hb => ?_) (fun hb => ?_) <;> (try simp only [decide_eq_true_eq, decide_eq_false_iff_not, beq_iff_eq, bne_iff_ne, ne_eq, beq_eq_false_iff_ne, bne_eq_false_iff_eq, Decidable.not_not, Int.not_lt, Int.not_le] at hb)) | with_reducible apply nV) <;> dsimp only [List.cons_append, List.nil_append, putV, List.set])
          | ((with_reducible apply oOp); (focus (simp (disch := first | omega | assumption | (simp only [set_len, frm_len, List.length_set, List.length_append, List.length_cons, List.length_nil]; first | done | omega) | (simp only [seqOk, List.length_cons, List.length_nil, Nat.reduceAdd, Nat.reduceMul, Nat.zero_mul, Nat.reduceBEq, beq_self_eq_true, Bool.and_self, Bool.and_true, Bool.true_and]; done) | fail) only [push_cast, reduceCtorEq, Nat.reduceAdd, Nat.reduceSub, Nat.reduceMul, Nat.reduceLeDiff, Nat.reduceLT, Nat.reduceEqDiff, Int.reduceToNat, Int.reduceLT, Int.reduceLE, Int.reduceBEq, Int.reduceEq, Int.reduceSub, Int.reduceAdd, Int.reduceMul, Int.reduceNeg, frm_get, frm_set, set_set, fill_ok, fillL_n, fillL_c, List.flatMap_cons, List.flatMap_nil, set_len, frm_getC, frm_setC, wrapI, wrapB, if_pos, if_neg, decT, decF, beqT, beqF, bneT, bneF]; rfl)); (focus rfl); (first | with_reducible apply nT | with_reducible apply nF | (with_reducible refine nB (fun hb => ?_) (fun hb => ?_) <;> (try simp only [decide_eq_true_eq, decide_eq_false_iff_not, beq_iff_eq, bne_iff_ne, ne_eq, beq_eq_false_iff_ne, bne_eq_false_iff_eq, Decidable.not_not, Int.not_lt, Int.not_le] at hb)) | with_reducible apply nV) <;> dsimp only [List.cons_append, List.nil_append, putV, List.set]))
        obtain ⟨cb8, hcb8⟩ := hO8.box
        have hc9 : T9[c]? = some o8 := by
          rw [hcb8]
          exact hk9.2 c _ _ hcW (by rw [← hcb8]; exact List.getElem?_set_self (by rw [List.length_set]; exact hcl6))
        have hpl := putL_len k1 (IntKind.i64.wrap (k2 - 50)) st
        refine loopNor (m - 1) (by omega) ⟨e + 1, T9, o8, _, _, _, _, by omega, by omega, by omega, ?_, hW9, hc9, hO8, ?_, ?_, rfl⟩
        · have hpl := putL_len k1 (k2 - 50) st
          omega
        · exact hk9.2 R _ _ hRW (by rw [List.getElem?_set_ne hcR, List.getElem?_set_ne hcR]; exact hR6)
        · exact kpw_of ((hk6.trans (kpw_set _)).trans (kpw_set _)) hk9 hTW
      · have hW6' := hW6
        obtain ⟨dv6, sv6, tv6, hbx6, hd6, hs6, ht6⟩ := hW6
        have hRl6 := (List.getElem?_eq_some_iff.1 hR6).1
        repeat' (first
          | (with_reducible apply wSeq)
          | (with_reducible apply wReg)
          | (with_reducible apply thenNor)
          | (with_reducible apply thenExit)
          | (with_reducible apply blockExit)
          | (with_reducible apply oNil)
          | (with_reducible apply wExit)
          | (with_reducible apply wRet)
          | (with_reducible apply loopExit)
          | ((with_reducible apply wCondF); (focus (simp only [rd, List.getD_cons_zero, List.getD_cons_succ]; done)))
          | (apply oOp (storeW (x := x) (pa := .v 1) (xa := .l 0) ?_ ?_ hR6 hd6.cell hs6.cell ht6.cell) rfl; (any_goals (focus (simp only [rd, List.getD_cons_zero, List.getD_cons_succ]; done))); with_reducible apply nV; dsimp only [List.cons_append, List.nil_append, putV, List.set])
          | ((with_reducible apply oOp); (focus (simp (disch := first | omega | assumption | (simp only [set_len, frm_len, List.length_set, List.length_append, List.length_cons, List.length_nil]; first | done | omega) | (simp only [seqOk, List.length_cons, List.length_nil, Nat.reduceAdd, Nat.reduceMul, Nat.zero_mul, Nat.reduceBEq, beq_self_eq_true, Bool.and_self, Bool.and_true, Bool.true_and]; done) | fail) only [push_cast, reduceCtorEq, Nat.reduceAdd, Nat.reduceSub, Nat.reduceMul, Nat.reduceLeDiff, Nat.reduceLT, Nat.reduceEqDiff, Int.reduceToNat, Int.reduceLT, Int.reduceLE, Int.reduceBEq, Int.reduceEq, Int.reduceSub, Int.reduceAdd, Int.reduceMul, Int.reduceNeg, frm_get, frm_set, set_set, fill_ok, fillL_n, fillL_c, List.flatMap_cons, List.flatMap_nil, set_len, frm_getC, frm_setC, wrapI, wrapB, if_pos, if_neg, decT, decF, beqT, beqF, bneT, bneF, hbx6, hR6, List.getElem?_set_self]; rfl)); (focus rfl); (first | with_reducible apply nT | with_reducible apply nF | (with_reducible refine nB (fun hb => ?_) (fun hb => ?_) <;> (try simp only [decide_eq_true_eq, decide_eq_false_iff_not, beq_iff_eq, bne_iff_ne, ne_eq, beq_eq_false_iff_ne, bne_eq_false_iff_eq, Decidable.not_not, Int.not_lt, Int.not_le] at hb)) | with_reducible apply nV) <;> dsimp only [List.cons_append, List.nil_append, putV, List.set])
          | ((with_reducible apply endI); (focus (simp (disch := first | omega | assumption | (simp only [set_len, frm_len, List.length_set, List.length_append, List.length_cons, List.length_nil]; first | done | omega) | (simp only [seqOk, List.length_cons, List.length_nil, Nat.reduceAdd, Nat.reduceMul, Nat.zero_mul, Nat.reduceBEq, beq_self_eq_true, Bool.and_self, Bool.and_true, Bool.true_and]; done) | fail) only [push_cast, reduceCtorEq, Nat.reduceAdd, Nat.reduceSub, Nat.reduceMul, Nat.reduceLeDiff, Nat.reduceLT, Nat.reduceEqDiff, Int.reduceToNat, Int.reduceLT, Int.reduceLE, Int.reduceBEq, Int.reduceEq, Int.reduceSub, Int.reduceAdd, Int.reduceMul, Int.reduceNeg, frm_get, frm_set, set_set, fill_ok, fillL_n, fillL_c, List.flatMap_cons, List.flatMap_nil, set_len, frm_getC, frm_setC, wrapI, wrapB, if_pos, if_neg, decT, decF, beqT, beqF, bneT, bneF, c49, hbx6, hR6, List.getElem?_set_self]; rfl)); (focus rfl)))
        exact ⟨_, x, dv6, sv6, tv6, ds, st, rfl, rfl, ⟨hk6.new (by omega) _, o6, (List.getElem?_set_ne (Ne.symm hcR)).trans hc6, hO6⟩, ⟨by omega, by omega⟩, hd6.box hR6 _, hs6.box hR6 _, ht6.box hR6 _, by omega, by omega⟩
end Go.Proofs.Ythogcanomihelaa.Gw
