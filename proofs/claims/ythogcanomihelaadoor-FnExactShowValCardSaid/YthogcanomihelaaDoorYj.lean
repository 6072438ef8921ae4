/- The program's ShowVal. -/
import Derived.Test.YthogcanomihelaaDoorYi
import Derived.Test.YthogcanomihelaaDoorYf
set_option linter.unusedSimpArgs false
set_option linter.unusedVariables false
namespace Go.Proofs.YthogcanomihelaaDoor.Gs
open Go Go.Proofs Go.Proofs.YthogcanomihelaaDoor.Ae
open Go.Proofs.YthogcanomihelaaDoor.Gx (Vt azs azs_at az_len azs_len szs oks oks_mem szs_le szs_mem)
attribute [local congr] obind_congr
attribute [local push_cast] exF argsV frzs frz frzL frz1 exS_reg exS_seq exS_cond exS_alt exS_block exS_loop exS_exit exS_ret exS_skip evReg evOps evOne evAct evOp rd putV st0 evEnd resV resL resOne oneOr frzR loadV storeV binV binI unV push_frm pop_frm frm_len frm_top frm_get_top frm_set_top frm_new AV.cells AV.lowB AV.lowL AV.isCell cellsOk set_len Option.bind_some Option.map_some Option.map_none List.getD_cons_zero List.getD_cons_succ List.nil_append List.cons_append List.append_nil List.length_cons List.length_nil List.set_cons_zero List.set_cons_succ List.map_cons List.map_nil List.replicate if_true if_false ite_true ite_false ite_self Bool.false_eq_true List.all_cons List.all_nil Bool.and_true Bool.true_and Bool.and_self Bool.and_eq_true List.getElem?_cons_zero List.getElem?_cons_succ List.drop_succ_cons List.drop_zero List.take_succ_cons List.take_zero true_and and_true and_self decide_true decide_false Bool.not_true Bool.not_false Prod.mk.injEq Option.some.injEq List.getElem?_drop optInt elems sliceV partsOf Nat.add_zero Nat.zero_add Nat.mul_one beq_self_eq_true litParts Bool.or_false Bool.false_or Bool.or_true Bool.true_or Bool.false_and Bool.and_false List.cons.injEq not_false_eq_true not_true_eq_false Nat.zero_le Nat.le_refl gt_iff_lt ge_iff_le List.drop_nil List.take_nil newBox List.length_append List.length_map bne_self_eq_false eq_self Nat.lt_add_one ne_eq false_implies Int.le_refl

theorem I_P : ∀ m : Nat, m ≤ 8 → IP m
  | 0, h => show_I 0 h fun m' e => by omega
  | m + 1, h => show_I (m + 1) h fun m' e => by
    obtain rfl : m' = m := by omega
    exact I_P m' (by omega)
theorem low_of' {D : Nat} : ∀ {cs : List AV}, cellsOk D cs = true → AV.lowL D cs = true
  | [], _ => rfl
  | c :: r, h => by
    simp only [cellsOk, List.all_cons, Bool.and_eq_true] at h
    simp only [AV.lowL, Bool.and_eq_true]
    exact ⟨h.1.2, low_of' (by simpa [cellsOk] using h.2)⟩
theorem bys_low (l : List Int) : AV.lowL 0 (bys l) = true := low_of' (bys_ok l)
theorem bys_all (l : List Int) : (bys l).take l.length = bys l := List.take_of_length_le (by simp)
set_option maxHeartbeats 4000000 in
theorem told_ok {s : Store} {T : List Ae.Obj} {n q : Nat} {l : List Int} (h : OutB (s.low.length + 1) n q T l) (hl : l.length ≤ 2000000) :
    ∃ v s', callF (tab tbl) prim 26 [.ptr (s.low.length + 1) q 0] (frm s T) = some (v, s') ∧ ∃ (l2 : List Int) (T' : List Ae.Obj), v = .imm false l2.length (bys l2) ∧ s' = frm s T' ∧ l2 = l.take 30000 ∧ T.length ≤ T'.length ∧ ∀ i, i < n → T'[i]? = T[i]? := by
  obtain ⟨w, h1, hw⟩ := h
  rcases hw with ⟨rfl, hz⟩ | ⟨k, ver, rfl, hk, hg⟩
  · obtain rfl := hz rfl
    refine funZ rfl (zsf @h1) zt ?_
    repeat' (first
      | (with_reducible apply wSeq)
      | (with_reducible apply wReg)
      | (with_reducible apply wBlock)
      | (with_reducible apply thenNor)
      | (with_reducible apply thenRet)
      | (with_reducible apply thenExit)
      | (with_reducible apply blockNor)
      | (with_reducible apply blockExit)
      | (with_reducible apply blockRet)
      | (with_reducible apply oNil)
      | (with_reducible apply wExit)
      | (with_reducible apply wRet)
      | (with_reducible apply wSkip)
      | (with_reducible apply wRegT)
      | (with_reducible apply loopRet)
      | (with_reducible apply loopExit)
      | (with_reducible apply nT <;> dsimp only [List.cons_append, List.nil_append, putV, List.set])
      | (with_reducible apply nF <;> dsimp only [List.cons_append, List.nil_append, putV, List.set])
      | (with_reducible apply tT <;> dsimp only [List.cons_append, List.nil_append, putV, List.set])
      | (with_reducible apply tF <;> dsimp only [List.cons_append, List.nil_append, putV, List.set])
      | (with_reducible refine nB (zb fun hb => ?_) (zb fun hb => ?_) <;> dsimp only [List.cons_append, List.nil_append, putV, List.set])
      | (with_reducible apply nV <;> dsimp only [List.cons_append, List.nil_append, putV, List.set])
      | (with_reducible refine tB (zb fun hb => ?_) (zb fun hb => ?_) <;> dsimp only [List.cons_append, List.nil_append, putV, List.set])
      | (with_reducible apply tV <;> dsimp only [List.cons_append, List.nil_append, putV, List.set])
      | ((with_reducible apply blockOther); (focus (exact rfl)))
      | ((with_reducible apply wCondT); (focus (exact zg)))
      | ((with_reducible apply wCondF); (focus (exact zg)))
      | ((with_reducible apply oOp); (focus (exact zsf @h1)); (focus rfl))
      | ((with_reducible apply tOp); (focus (exact zsf @h1)); (focus rfl))
      | ((with_reducible apply tNil); (focus (exact zcf @h1)))
      | ((with_reducible apply endN); (focus (exact rfl)); (focus (exact zsf @h1)); (focus (exact zzf @h1)); (focus (exact zdf @h1)); (focus (exact ze)); dsimp only)
      | ((with_reducible apply endN'); (focus (exact rfl)); (focus (exact zsf @h1)); (focus (exact zzf @h1)); (focus (exact zdf @h1)); (focus (exact ze)); dsimp only)
      | ((with_reducible apply endI); (focus (exact zsf @h1)); (focus rfl))
      | (with_reducible exact isI rfl rfl))
    exact ⟨[], T, rfl, rfl, rfl, Nat.le_refl _, fun _ _ => rfl⟩
  · have hlow : ∀ n, AV.lowL 0 ((bys l).take n) = true := fun n => by rw [bys, ← List.map_take]; exact bys_low _
    by_cases hc : 30000 < l.length
    · refine funZ rfl (zsf (And.intro @h1 (And.intro @hg (And.intro @bys_len (@hlow))))) zt ?_
      repeat' (first
        | (with_reducible apply wSeq)
        | (with_reducible apply wReg)
        | (with_reducible apply wBlock)
        | (with_reducible apply thenNor)
        | (with_reducible apply thenRet)
        | (with_reducible apply thenExit)
        | (with_reducible apply blockNor)
        | (with_reducible apply blockExit)
        | (with_reducible apply blockRet)
        | (with_reducible apply oNil)
        | (with_reducible apply wExit)
        | (with_reducible apply wRet)
        | (with_reducible apply wSkip)
        | (with_reducible apply wRegT)
        | (with_reducible apply loopRet)
        | (with_reducible apply loopExit)
        | (with_reducible apply nT <;> dsimp only [List.cons_append, List.nil_append, putV, List.set])
        | (with_reducible apply nF <;> dsimp only [List.cons_append, List.nil_append, putV, List.set])
        | (with_reducible apply tT <;> dsimp only [List.cons_append, List.nil_append, putV, List.set])
        | (with_reducible apply tF <;> dsimp only [List.cons_append, List.nil_append, putV, List.set])
        | (with_reducible refine nB (zb fun hb => ?_) (zb fun hb => ?_) <;> dsimp only [List.cons_append, List.nil_append, putV, List.set])
        | (with_reducible apply nV <;> dsimp only [List.cons_append, List.nil_append, putV, List.set])
        | (with_reducible refine tB (zb fun hb => ?_) (zb fun hb => ?_) <;> dsimp only [List.cons_append, List.nil_append, putV, List.set])
        | (with_reducible apply tV <;> dsimp only [List.cons_append, List.nil_append, putV, List.set])
        | ((with_reducible apply blockOther); (focus (exact rfl)))
        | ((with_reducible apply wCondT); (focus (exact zg)))
        | ((with_reducible apply wCondF); (focus (exact zg)))
        | ((with_reducible apply oOp); (focus (exact zsf (And.intro @h1 (And.intro @hg (And.intro @bys_len (@hlow)))))); (focus rfl))
        | ((with_reducible apply tOp); (focus (exact zsf (And.intro @h1 (And.intro @hg (And.intro @bys_len (@hlow)))))); (focus rfl))
        | ((with_reducible apply tNil); (focus (exact zcf (And.intro @h1 (And.intro @hg (And.intro @bys_len (@hlow)))))))
        | ((with_reducible apply endN); (focus (exact rfl)); (focus (exact zsf (And.intro @h1 (And.intro @hg (And.intro @bys_len (@hlow)))))); (focus (exact zzf (And.intro @h1 (And.intro @hg (And.intro @bys_len (@hlow)))))); (focus (exact zdf (And.intro @h1 (And.intro @hg (And.intro @bys_len (@hlow)))))); (focus (exact ze)); dsimp only)
        | ((with_reducible apply endN'); (focus (exact rfl)); (focus (exact zsf (And.intro @h1 (And.intro @hg (And.intro @bys_len (@hlow)))))); (focus (exact zzf (And.intro @h1 (And.intro @hg (And.intro @bys_len (@hlow)))))); (focus (exact zdf (And.intro @h1 (And.intro @hg (And.intro @bys_len (@hlow)))))); (focus (exact ze)); dsimp only)
        | ((with_reducible apply endI); (focus (exact zsf (And.intro @h1 (And.intro @hg (And.intro @bys_len (@hlow)))))); (focus rfl))
        | (with_reducible exact isI rfl rfl))
      refine ⟨l.take 30000, _, ?_, rfl, rfl, by rw [List.length_set]; exact Nat.le_refl _, fun i hi => List.getElem?_set_ne (by omega)⟩
      rw [List.length_take, Nat.min_eq_left (by omega)]
      simp only [bys, List.map_take]
    · refine funZ rfl (zsf (And.intro @h1 (And.intro @hg (And.intro @bys_len (@hlow))))) zt ?_
      repeat' (first
        | (with_reducible apply wSeq)
        | (with_reducible apply wReg)
        | (with_reducible apply wBlock)
        | (with_reducible apply thenNor)
        | (with_reducible apply thenRet)
        | (with_reducible apply thenExit)
        | (with_reducible apply blockNor)
        | (with_reducible apply blockExit)
        | (with_reducible apply blockRet)
        | (with_reducible apply oNil)
        | (with_reducible apply wExit)
        | (with_reducible apply wRet)
        | (with_reducible apply wSkip)
        | (with_reducible apply wRegT)
        | (with_reducible apply loopRet)
        | (with_reducible apply loopExit)
        | (with_reducible apply nT <;> dsimp only [List.cons_append, List.nil_append, putV, List.set])
        | (with_reducible apply nF <;> dsimp only [List.cons_append, List.nil_append, putV, List.set])
        | (with_reducible apply tT <;> dsimp only [List.cons_append, List.nil_append, putV, List.set])
        | (with_reducible apply tF <;> dsimp only [List.cons_append, List.nil_append, putV, List.set])
        | (with_reducible refine nB (zb fun hb => ?_) (zb fun hb => ?_) <;> dsimp only [List.cons_append, List.nil_append, putV, List.set])
        | (with_reducible apply nV <;> dsimp only [List.cons_append, List.nil_append, putV, List.set])
        | (with_reducible refine tB (zb fun hb => ?_) (zb fun hb => ?_) <;> dsimp only [List.cons_append, List.nil_append, putV, List.set])
        | (with_reducible apply tV <;> dsimp only [List.cons_append, List.nil_append, putV, List.set])
        | ((with_reducible apply blockOther); (focus (exact rfl)))
        | ((with_reducible apply wCondT); (focus (exact zg)))
        | ((with_reducible apply wCondF); (focus (exact zg)))
        | ((with_reducible apply oOp); (focus (exact zsf (And.intro @h1 (And.intro @hg (And.intro @bys_len (@hlow)))))); (focus rfl))
        | ((with_reducible apply tOp); (focus (exact zsf (And.intro @h1 (And.intro @hg (And.intro @bys_len (@hlow)))))); (focus rfl))
        | ((with_reducible apply tNil); (focus (exact zcf (And.intro @h1 (And.intro @hg (And.intro @bys_len (@hlow)))))))
        | ((with_reducible apply endN); (focus (exact rfl)); (focus (exact zsf (And.intro @h1 (And.intro @hg (And.intro @bys_len (@hlow)))))); (focus (exact zzf (And.intro @h1 (And.intro @hg (And.intro @bys_len (@hlow)))))); (focus (exact zdf (And.intro @h1 (And.intro @hg (And.intro @bys_len (@hlow)))))); (focus (exact ze)); dsimp only)
        | ((with_reducible apply endN'); (focus (exact rfl)); (focus (exact zsf (And.intro @h1 (And.intro @hg (And.intro @bys_len (@hlow)))))); (focus (exact zzf (And.intro @h1 (And.intro @hg (And.intro @bys_len (@hlow)))))); (focus (exact zdf (And.intro @h1 (And.intro @hg (And.intro @bys_len (@hlow)))))); (focus (exact ze)); dsimp only)
        | ((with_reducible apply endI); (focus (exact zsf (And.intro @h1 (And.intro @hg (And.intro @bys_len (@hlow)))))); (focus rfl))
        | (with_reducible exact isI rfl rfl))
      refine ⟨l, _, ?_, rfl, (List.take_of_length_le (by omega)).symm, by rw [List.length_set]; exact Nat.le_refl _, fun i hi => List.getElem?_set_ne (by omega)⟩
      have e : ((l.length : Int) - 0).toNat = l.length := by omega
      rw [e, bys_all]
theorem appV_newB {s : Store} {n : Nat} {f : Bool} {cs : List AV} (hc : cellsOk 0 cs = true) (hn : cs.length = n * 1) (h0 : 0 < n) (hb : n * 1 ≤ 140737488355328) :
    appV s 5 1 1 (.imm true 0 []) (.imm f n cs) = some (.slr s.low.length s.top.length 0 n 0 false, s.new (.arr 5 1 cs 0 0)) := by
  have hc' : cellsOk (s.low.length + 1) cs = true := cellsOk_mono (Nat.zero_le _) hc
  have hne : ¬ n = 0 := by omega
  simp only [appV, srcOf, elems, Option.bind_some, appTo, Nat.zero_add, List.length_nil, Nat.zero_mul, hb, hc', hn, true_and, and_self, if_true, hne, if_false, List.nil_append, newArr]
theorem appV_noneB {s : Store} {f : Bool} : appV s 5 1 1 (.imm true 0 []) (.imm f 0 []) = some (.imm true 0 [], s) := by
  simp [appV, srcOf, elems, appTo, cellsOk]
theorem bclone_ok {s : Store} {T : List Ae.Obj} {f : Bool} {l : List Int} (hl : l.length ≤ 100000) :
    ∃ v s', callF (tab tbl) prim 25 [.imm f l.length (bys l)] (frm s T) = some (v, s') ∧ ∃ T', s' = frm s T' ∧ ((v = .imm true 0 [] ∧ l = [] ∧ T' = T) ∨ (v = .slr (s.low.length + 1) T.length 0 l.length 0 false ∧ T' = T ++ [.arr 5 1 (bys l) 0 0])) := by
  rcases Nat.eq_zero_or_pos l.length with h0 | h0
  · have hnil : l = [] := List.length_eq_zero_iff.1 h0
    subst hnil
    refine ⟨.imm true 0 [], frm s T, callF_fc (fc := c25) rfl ?_, T, rfl, .inl ⟨rfl, rfl, rfl⟩⟩
    simp only [c25, push_cast, reduceCtorEq, Nat.reduceAdd, Nat.reduceSub, Nat.reduceMul, Nat.reduceLeDiff, Nat.reduceLT, Nat.reduceEqDiff, Int.reduceToNat, Int.reduceLT, Int.reduceLE, Int.reduceBEq, Int.reduceEq, Int.reduceSub, Int.reduceAdd, Int.reduceMul, Int.reduceNeg, fillL, repL, appV_noneB, joinR, Store.same_self, joinVs, same_self]
  · have hne : ¬ l.length = 0 := by omega
    refine ⟨.slr (s.low.length + 1) T.length 0 l.length 0 false, frm s (T ++ [.arr 5 1 (bys l) 0 0]), callF_fc (fc := c25) rfl ?_, _, rfl, .inr ⟨rfl, rfl⟩⟩
    simp only [c25, push_cast, reduceCtorEq, Nat.reduceAdd, Nat.reduceSub, Nat.reduceMul, Nat.reduceLeDiff, Nat.reduceLT, Nat.reduceEqDiff, Int.reduceToNat, Int.reduceLT, Int.reduceLE, Int.reduceBEq, Int.reduceEq, Int.reduceSub, Int.reduceAdd, Int.reduceMul, Int.reduceNeg, fillL, repL, hne, appV_newB (bys_ok l) (by rw [bys_len]; omega) h0 (show l.length * 1 ≤ 140737488355328 by omega), frm_top]
set_option maxHeartbeats 40000000 in
theorem implShow_ok {s : Store} {T : List Ae.Obj} {v : Vt} {cells : List Vt} {f : Bool} (hok : v.ok) (hcs : oks cells) (hsz : v.sz ≤ 1048576) (hcz : szs cells ≤ 1048576) :
    ∃ v' s', callF (tab tbl) prim 6 [.agg v.az, .imm f cells.length (azs cells)] (frm s T) = some (v', s') ∧ ∃ T', s' = frm s T' ∧ (∀ i, i < T.length → T'[i]? = T[i]?) ∧
      ((v' = .imm true 0 [] ∧ sh v cells = []) ∨ ∃ i ver, v' = .slr (s.low.length + 1) i 0 (sh v cells).length ver false ∧ T.length ≤ i ∧ T'[i]? = some (.arr 5 1 (bys (sh v cells)) ver 0)) := by
  obtain ⟨v1, _, e, b, T1, r, rfl, rfl, hO1, hK1, hS1, hr⟩ := I_P 8 (Nat.le_refl _) s (T ++ [.box 25 v.az] ++ [.box 50 [.imm true 0 []]]) T.length (T.length + 1) [] (.ptr (s.low.length + 1) T.length 0) v cells false 0 rfl ⟨.imm true 0 [], by simp, .inl ⟨rfl, fun _ => rfl⟩⟩ (by omega) (by simp) (.inl ⟨T.length, by omega, rfl, by simp⟩) hok hcs hsz hcz
  have hsh : r.take 30000 = sh v cells := by
    unfold sh
    cases b with
    | true =>
      have := (hS1.1 rfl).1
      rw [List.nil_append] at this
      rw [this]
    | false =>
      obtain ⟨h1, y, hy⟩ := hS1.2 rfl
      rw [List.nil_append] at hy
      rw [← hy, List.take_append_of_le_length (by omega)]
  obtain ⟨v2, _, e2, l2, T2, rfl, rfl, hl2, hlen2, hlow2⟩ := told_ok hO1 hr
  rw [hsh] at hl2
  subst hl2
  have hshl : (sh v cells).length ≤ 30000 := by unfold sh; rw [List.length_take]; omega
  obtain ⟨v3, _, e3, T3, rfl, h3⟩ := bclone_ok (s := s) (T := T2) (f := false) (l := sh v cells) (by omega)
  have hlow : ∀ i, i < T.length → T2[i]? = T[i]? := fun i hi => by
    rw [hlow2 i hi, hK1.2.2 i hi, List.append_assoc, List.getElem?_append_left hi]
  have hlT : T.length ≤ T2.length := by
    have := hK1.1
    simp at this
    omega
  cases v with
  | mk k n1 t kids =>
    simp only [Vt.az, List.append_assoc, List.cons_append, List.nil_append] at e ⊢
    rcases h3 with ⟨rfl, h0, rfl⟩ | ⟨rfl, rfl⟩
    · refine funZ rfl (zsf (And.intro @e (And.intro @e2 (And.intro @e3 (And.intro (@List.append_assoc Ae.Obj) (And.intro @app_get (And.intro @app_get0 (@app_set)))))))) zt ?_
      repeat' (first
        | (with_reducible apply wSeq)
        | (with_reducible apply wReg)
        | (with_reducible apply wBlock)
        | (with_reducible apply thenNor)
        | (with_reducible apply thenRet)
        | (with_reducible apply thenExit)
        | (with_reducible apply blockNor)
        | (with_reducible apply blockExit)
        | (with_reducible apply blockRet)
        | (with_reducible apply oNil)
        | (with_reducible apply wExit)
        | (with_reducible apply wRet)
        | (with_reducible apply wSkip)
        | (with_reducible apply wRegT)
        | (with_reducible apply loopRet)
        | (with_reducible apply loopExit)
        | (with_reducible apply nT <;> dsimp only [List.cons_append, List.nil_append, putV, List.set])
        | (with_reducible apply nF <;> dsimp only [List.cons_append, List.nil_append, putV, List.set])
        | (with_reducible apply tT <;> dsimp only [List.cons_append, List.nil_append, putV, List.set])
        | (with_reducible apply tF <;> dsimp only [List.cons_append, List.nil_append, putV, List.set])
        | (with_reducible refine nB (zb fun hb => ?_) (zb fun hb => ?_) <;> dsimp only [List.cons_append, List.nil_append, putV, List.set])
        | (with_reducible apply nV <;> dsimp only [List.cons_append, List.nil_append, putV, List.set])
        | (with_reducible refine tB (zb fun hb => ?_) (zb fun hb => ?_) <;> dsimp only [List.cons_append, List.nil_append, putV, List.set])
        | (with_reducible apply tV <;> dsimp only [List.cons_append, List.nil_append, putV, List.set])
        | ((with_reducible apply blockOther); (focus (exact rfl)))
        | ((with_reducible apply wCondT); (focus (exact zg)))
        | ((with_reducible apply wCondF); (focus (exact zg)))
        | ((with_reducible apply oOp); (focus (exact zsf (And.intro @e (And.intro @e2 (And.intro @e3 (And.intro (@List.append_assoc Ae.Obj) (And.intro @app_get (And.intro @app_get0 (@app_set))))))))); (focus rfl))
        | ((with_reducible apply tOp); (focus (exact zsf (And.intro @e (And.intro @e2 (And.intro @e3 (And.intro (@List.append_assoc Ae.Obj) (And.intro @app_get (And.intro @app_get0 (@app_set))))))))); (focus rfl))
        | ((with_reducible apply tNil); (focus (exact zcf (And.intro @e (And.intro @e2 (And.intro @e3 (And.intro (@List.append_assoc Ae.Obj) (And.intro @app_get (And.intro @app_get0 (@app_set))))))))))
        | ((with_reducible apply endN); (focus (exact rfl)); (focus (exact zsf (And.intro @e (And.intro @e2 (And.intro @e3 (And.intro (@List.append_assoc Ae.Obj) (And.intro @app_get (And.intro @app_get0 (@app_set))))))))); (focus (exact zzf (And.intro @e (And.intro @e2 (And.intro @e3 (And.intro (@List.append_assoc Ae.Obj) (And.intro @app_get (And.intro @app_get0 (@app_set))))))))); (focus (exact zdf (And.intro @e (And.intro @e2 (And.intro @e3 (And.intro (@List.append_assoc Ae.Obj) (And.intro @app_get (And.intro @app_get0 (@app_set))))))))); (focus (exact ze)); dsimp only)
        | ((with_reducible apply endN'); (focus (exact rfl)); (focus (exact zsf (And.intro @e (And.intro @e2 (And.intro @e3 (And.intro (@List.append_assoc Ae.Obj) (And.intro @app_get (And.intro @app_get0 (@app_set))))))))); (focus (exact zzf (And.intro @e (And.intro @e2 (And.intro @e3 (And.intro (@List.append_assoc Ae.Obj) (And.intro @app_get (And.intro @app_get0 (@app_set))))))))); (focus (exact zdf (And.intro @e (And.intro @e2 (And.intro @e3 (And.intro (@List.append_assoc Ae.Obj) (And.intro @app_get (And.intro @app_get0 (@app_set))))))))); (focus (exact ze)); dsimp only)
        | ((with_reducible apply endI); (focus (exact zsf (And.intro @e (And.intro @e2 (And.intro @e3 (And.intro (@List.append_assoc Ae.Obj) (And.intro @app_get (And.intro @app_get0 (@app_set))))))))); (focus rfl))
        | (with_reducible exact isI rfl rfl))
      all_goals exact ⟨_, rfl, hlow, .inl ⟨rfl, h0⟩⟩
    · refine funZ rfl (zsf (And.intro @e (And.intro @e2 (And.intro @e3 (And.intro (@List.append_assoc Ae.Obj) (And.intro @app_get (And.intro @app_get0 (@app_set)))))))) zt ?_
      repeat' (first
        | (with_reducible apply wSeq)
        | (with_reducible apply wReg)
        | (with_reducible apply wBlock)
        | (with_reducible apply thenNor)
        | (with_reducible apply thenRet)
        | (with_reducible apply thenExit)
        | (with_reducible apply blockNor)
        | (with_reducible apply blockExit)
        | (with_reducible apply blockRet)
        | (with_reducible apply oNil)
        | (with_reducible apply wExit)
        | (with_reducible apply wRet)
        | (with_reducible apply wSkip)
        | (with_reducible apply wRegT)
        | (with_reducible apply loopRet)
        | (with_reducible apply loopExit)
        | (with_reducible apply nT <;> dsimp only [List.cons_append, List.nil_append, putV, List.set])
        | (with_reducible apply nF <;> dsimp only [List.cons_append, List.nil_append, putV, List.set])
        | (with_reducible apply tT <;> dsimp only [List.cons_append, List.nil_append, putV, List.set])
        | (with_reducible apply tF <;> dsimp only [List.cons_append, List.nil_append, putV, List.set])
        | (with_reducible refine nB (zb fun hb => ?_) (zb fun hb => ?_) <;> dsimp only [List.cons_append, List.nil_append, putV, List.set])
        | (with_reducible apply nV <;> dsimp only [List.cons_append, List.nil_append, putV, List.set])
        | (with_reducible refine tB (zb fun hb => ?_) (zb fun hb => ?_) <;> dsimp only [List.cons_append, List.nil_append, putV, List.set])
        | (with_reducible apply tV <;> dsimp only [List.cons_append, List.nil_append, putV, List.set])
        | ((with_reducible apply blockOther); (focus (exact rfl)))
        | ((with_reducible apply wCondT); (focus (exact zg)))
        | ((with_reducible apply wCondF); (focus (exact zg)))
        | ((with_reducible apply oOp); (focus (exact zsf (And.intro @e (And.intro @e2 (And.intro @e3 (And.intro (@List.append_assoc Ae.Obj) (And.intro @app_get (And.intro @app_get0 (@app_set))))))))); (focus rfl))
        | ((with_reducible apply tOp); (focus (exact zsf (And.intro @e (And.intro @e2 (And.intro @e3 (And.intro (@List.append_assoc Ae.Obj) (And.intro @app_get (And.intro @app_get0 (@app_set))))))))); (focus rfl))
        | ((with_reducible apply tNil); (focus (exact zcf (And.intro @e (And.intro @e2 (And.intro @e3 (And.intro (@List.append_assoc Ae.Obj) (And.intro @app_get (And.intro @app_get0 (@app_set))))))))))
        | ((with_reducible apply endN); (focus (exact rfl)); (focus (exact zsf (And.intro @e (And.intro @e2 (And.intro @e3 (And.intro (@List.append_assoc Ae.Obj) (And.intro @app_get (And.intro @app_get0 (@app_set))))))))); (focus (exact zzf (And.intro @e (And.intro @e2 (And.intro @e3 (And.intro (@List.append_assoc Ae.Obj) (And.intro @app_get (And.intro @app_get0 (@app_set))))))))); (focus (exact zdf (And.intro @e (And.intro @e2 (And.intro @e3 (And.intro (@List.append_assoc Ae.Obj) (And.intro @app_get (And.intro @app_get0 (@app_set))))))))); (focus (exact ze)); dsimp only)
        | ((with_reducible apply endN'); (focus (exact rfl)); (focus (exact zsf (And.intro @e (And.intro @e2 (And.intro @e3 (And.intro (@List.append_assoc Ae.Obj) (And.intro @app_get (And.intro @app_get0 (@app_set))))))))); (focus (exact zzf (And.intro @e (And.intro @e2 (And.intro @e3 (And.intro (@List.append_assoc Ae.Obj) (And.intro @app_get (And.intro @app_get0 (@app_set))))))))); (focus (exact zdf (And.intro @e (And.intro @e2 (And.intro @e3 (And.intro (@List.append_assoc Ae.Obj) (And.intro @app_get (And.intro @app_get0 (@app_set))))))))); (focus (exact ze)); dsimp only)
        | ((with_reducible apply endI); (focus (exact zsf (And.intro @e (And.intro @e2 (And.intro @e3 (And.intro (@List.append_assoc Ae.Obj) (And.intro @app_get (And.intro @app_get0 (@app_set))))))))); (focus rfl))
        | (with_reducible exact isI rfl rfl))
      all_goals exact ⟨_, rfl, fun i hi => by rw [List.getElem?_append_left (by omega)]; exact hlow i hi, .inr ⟨T2.length, 0, rfl, hlT, by simp⟩⟩
end Go.Proofs.YthogcanomihelaaDoor.Gs
