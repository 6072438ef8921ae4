/- The program's texts of values. -/
import Derived.Test.YthogcanomihelaaDoorYc
import Derived.Test.YthogcanomihelaaDoorYe
set_option linter.unusedSimpArgs false
set_option linter.unusedVariables false
namespace Go.Proofs.YthogcanomihelaaDoor.Gs
open Go Go.Proofs Go.Proofs.YthogcanomihelaaDoor.Ae
open Go.Proofs.YthogcanomihelaaDoor.Gx (Vt azs azs_at az_len azs_len szs oks oks_mem szs_le szs_mem)
attribute [local congr] obind_congr
attribute [local push_cast] exF argsV frzs frz frzL frz1 exS_reg exS_seq exS_cond exS_alt exS_block exS_loop exS_exit exS_ret exS_skip evReg evOps evOne evAct evOp rd putV st0 evEnd resV resL resOne oneOr frzR loadV storeV binV binI unV push_frm pop_frm frm_len frm_top frm_get_top frm_set_top frm_new AV.cells AV.lowB AV.lowL AV.isCell cellsOk set_len Option.bind_some Option.map_some Option.map_none List.getD_cons_zero List.getD_cons_succ List.nil_append List.cons_append List.append_nil List.length_cons List.length_nil List.set_cons_zero List.set_cons_succ List.map_cons List.map_nil List.replicate if_true if_false ite_true ite_false ite_self Bool.false_eq_true List.all_cons List.all_nil Bool.and_true Bool.true_and Bool.and_self Bool.and_eq_true List.getElem?_cons_zero List.getElem?_cons_succ List.drop_succ_cons List.drop_zero List.take_succ_cons List.take_zero true_and and_true and_self decide_true decide_false Bool.not_true Bool.not_false Prod.mk.injEq Option.some.injEq List.getElem?_drop optInt elems sliceV partsOf Nat.add_zero Nat.zero_add Nat.mul_one beq_self_eq_true litParts Bool.or_false Bool.false_or Bool.or_true Bool.true_or Bool.false_and Bool.and_false List.cons.injEq not_false_eq_true not_true_eq_false Nat.zero_le Nat.le_refl gt_iff_lt ge_iff_le List.drop_nil List.take_nil newBox List.length_append List.length_map bne_self_eq_false eq_self Nat.lt_add_one ne_eq false_implies Int.le_refl

set_option maxHeartbeats 4000000 in
theorem plainI_ok {s : Store} {k n : Int} {ft : Bool} {t : List Int} (hn : -9223372036854775808 ≤ n ∧ n ≤ 9223372036854775807) (htb : ∀ x ∈ t, 0 ≤ x ∧ x ≤ 255) (ht : t.length ≤ 1048576) :
    ∃ v s', callF (tab tbl) prim 35 [.int .i64 k, .int .i64 n, .imm ft t.length (bys t)] s = some (v, s') ∧ ∃ (x : ByteArray) (b : Bool), v = .tup [.str x, .bool b] ∧ s' = s ∧ x.size ≤ 1048600 ∧ (b = true → plainOf k n t = some (strInts x)) ∧ (b = false → plainOf k n t = none) := by
  obtain ⟨r, hr, hri⟩ := toBytes_bys t .empty htb
  have hrs : r.size = t.length := by
    rw [← strInts_len, hri, List.length_append, strInts_len]
    simp
  have hi := fun s => itoa_prim (s := s) hn
  have hil := itoa_size hn
  have hq : (⟨#[34]⟩ : ByteArray).size = 1 := rfl
  have hsz : ((⟨#[34]⟩ : ByteArray) ++ r).size = 1 + r.size := by rw [ByteArray.size_append, hq]
  have h34 : strInts ⟨#[34]⟩ = [34] := rfl
  have hri' : strInts r = t := by rw [hri]; rfl
  unfold plainOf
  refine funZ rfl (zsf (And.intro @hi (And.intro @hr (And.intro @add_str (@bys_len))))) zt ?_
  repeat' (first
    | (with_reducible apply wSeq)
    | (with_reducible apply wReg)
    | (with_reducible apply wBlock)
    | (with_reducible apply thenNor)
    | (with_reducible apply thenRet)
    | (with_reducible apply thenExit)
    | (with_reducible apply blockNor)
    | (with_reducible apply blockExit)
    | (with_reducible apply blockRet)
    | (with_reducible apply oNil)
    | (with_reducible apply wExit)
    | (with_reducible apply wRet)
    | (with_reducible apply wSkip)
    | (with_reducible apply wRegT)
    | (with_reducible apply loopRet)
    | (with_reducible apply loopExit)
    | (with_reducible apply nT <;> dsimp only [List.cons_append, List.nil_append, putV, List.set])
    | (with_reducible apply nF <;> dsimp only [List.cons_append, List.nil_append, putV, List.set])
    | (with_reducible apply tT <;> dsimp only [List.cons_append, List.nil_append, putV, List.set])
    | (with_reducible apply tF <;> dsimp only [List.cons_append, List.nil_append, putV, List.set])
    | (with_reducible refine nB (zb fun hb => ?_) (zb fun hb => ?_) <;> dsimp only [List.cons_append, List.nil_append, putV, List.set])
    | (with_reducible apply nV <;> dsimp only [List.cons_append, List.nil_append, putV, List.set])
    | (with_reducible refine tB (zb fun hb => ?_) (zb fun hb => ?_) <;> dsimp only [List.cons_append, List.nil_append, putV, List.set])
    | (with_reducible apply tV <;> dsimp only [List.cons_append, List.nil_append, putV, List.set])
    | ((with_reducible apply blockOther); (focus (exact rfl)))
    | ((with_reducible apply wCondT); (focus (exact zg)))
    | ((with_reducible apply wCondF); (focus (exact zg)))
    | ((with_reducible apply oOp); (focus (exact zsf (And.intro @hi (And.intro @hr (And.intro @add_str (@bys_len)))))); (focus rfl))
    | ((with_reducible apply tOp); (focus (exact zsf (And.intro @hi (And.intro @hr (And.intro @add_str (@bys_len)))))); (focus rfl))
    | ((with_reducible apply tNil); (focus (exact zcf (And.intro @hi (And.intro @hr (And.intro @add_str (@bys_len)))))))
    | ((with_reducible apply endN); (focus (exact rfl)); (focus (exact zsf (And.intro @hi (And.intro @hr (And.intro @add_str (@bys_len)))))); (focus (exact zzf (And.intro @hi (And.intro @hr (And.intro @add_str (@bys_len)))))); (focus (exact zdf (And.intro @hi (And.intro @hr (And.intro @add_str (@bys_len)))))); (focus (exact ze)); dsimp only)
    | ((with_reducible apply endN'); (focus (exact rfl)); (focus (exact zsf (And.intro @hi (And.intro @hr (And.intro @add_str (@bys_len)))))); (focus (exact zzf (And.intro @hi (And.intro @hr (And.intro @add_str (@bys_len)))))); (focus (exact zdf (And.intro @hi (And.intro @hr (And.intro @add_str (@bys_len)))))); (focus (exact ze)); dsimp only)
    | ((with_reducible apply endI); (focus (exact zsf (And.intro @hi (And.intro @hr (And.intro @add_str (@bys_len)))))); (focus rfl))
    | (with_reducible exact isI rfl rfl))
  · subst hb
    exact ⟨_, _, rfl, rfl, by decide, fun _ => rfl, fun h => by cases h⟩
  · subst hb
    exact ⟨_, _, rfl, rfl, by omega, fun _ => by rw [itoa_num]; rfl, fun h => by cases h⟩
  · subst hb
    refine ⟨_, _, rfl, rfl, by rw [ByteArray.size_append]; omega, fun _ => ?_, fun h => by cases h⟩
    rw [strInts_app, strInts_app, h34, hri']
    simp
  · subst hb
    exact ⟨_, _, rfl, rfl, by decide, fun _ => rfl, fun h => by cases h⟩
  · refine ⟨_, _, rfl, rfl, by decide, ?_, ?_⟩
    · intro h
      cases h
    · intro _
      rw [if_neg (by assumption), if_neg (by assumption), if_neg (by assumption), if_neg (by assumption)]
set_option maxHeartbeats 4000000 in
theorem headI_ok {s : Store} {k n : Int} (hn : -9223372036854775808 ≤ n ∧ n ≤ 9223372036854775807) :
    ∃ v s', callF (tab tbl) prim 38 [.int .i64 k, .int .i64 n] s = some (v, s') ∧ ∃ (x : ByteArray), v = .str x ∧ s' = s ∧ x.size ≤ 22 ∧ strInts x = headOf k n := by
  have hi := fun s => itoa_prim (s := s) hn
  have hil := itoa_size hn
  have hq : (⟨#[35]⟩ : ByteArray).size = 1 := rfl
  have hadd := add_str (x := ⟨#[35]⟩) (y := ⟨(Lib.itoa n).toArray⟩) (by omega)
  unfold headOf
  refine funZ rfl (zsf (And.intro @hi (@hadd))) zt ?_
  repeat' (first
    | (with_reducible apply wSeq)
    | (with_reducible apply wReg)
    | (with_reducible apply wBlock)
    | (with_reducible apply thenNor)
    | (with_reducible apply thenRet)
    | (with_reducible apply thenExit)
    | (with_reducible apply blockNor)
    | (with_reducible apply blockExit)
    | (with_reducible apply blockRet)
    | (with_reducible apply oNil)
    | (with_reducible apply wExit)
    | (with_reducible apply wRet)
    | (with_reducible apply wSkip)
    | (with_reducible apply wRegT)
    | (with_reducible apply loopRet)
    | (with_reducible apply loopExit)
    | (with_reducible apply nT <;> dsimp only [List.cons_append, List.nil_append, putV, List.set])
    | (with_reducible apply nF <;> dsimp only [List.cons_append, List.nil_append, putV, List.set])
    | (with_reducible apply tT <;> dsimp only [List.cons_append, List.nil_append, putV, List.set])
    | (with_reducible apply tF <;> dsimp only [List.cons_append, List.nil_append, putV, List.set])
    | (with_reducible refine nB (zb fun hb => ?_) (zb fun hb => ?_) <;> dsimp only [List.cons_append, List.nil_append, putV, List.set])
    | (with_reducible apply nV <;> dsimp only [List.cons_append, List.nil_append, putV, List.set])
    | (with_reducible refine tB (zb fun hb => ?_) (zb fun hb => ?_) <;> dsimp only [List.cons_append, List.nil_append, putV, List.set])
    | (with_reducible apply tV <;> dsimp only [List.cons_append, List.nil_append, putV, List.set])
    | ((with_reducible apply blockOther); (focus (exact rfl)))
    | ((with_reducible apply wCondT); (focus (exact zg)))
    | ((with_reducible apply wCondF); (focus (exact zg)))
    | ((with_reducible apply oOp); (focus (exact zsf (And.intro @hi (@hadd)))); (focus rfl))
    | ((with_reducible apply tOp); (focus (exact zsf (And.intro @hi (@hadd)))); (focus rfl))
    | ((with_reducible apply tNil); (focus (exact zcf (And.intro @hi (@hadd)))))
    | ((with_reducible apply endN); (focus (exact rfl)); (focus (exact zsf (And.intro @hi (@hadd)))); (focus (exact zzf (And.intro @hi (@hadd)))); (focus (exact zdf (And.intro @hi (@hadd)))); (focus (exact ze)); dsimp only)
    | ((with_reducible apply endN'); (focus (exact rfl)); (focus (exact zsf (And.intro @hi (@hadd)))); (focus (exact zzf (And.intro @hi (@hadd)))); (focus (exact zdf (And.intro @hi (@hadd)))); (focus (exact ze)); dsimp only)
    | ((with_reducible apply endI); (focus (exact zsf (And.intro @hi (@hadd)))); (focus rfl))
    | (with_reducible exact isI rfl rfl))
  · subst hb
    exact ⟨_, rfl, rfl, by decide, rfl⟩
  · subst hb
    refine ⟨_, rfl, rfl, by rw [ByteArray.size_append]; omega, ?_⟩
    rw [strInts_app, itoa_num]
    rfl
  · exact ⟨_, rfl, rfl, by decide, by rw [if_neg (by assumption), if_neg (by assumption)]; rfl⟩
theorem within_ok (x a b : Int) (s : Store) : callF (tab tbl) prim 37 [.int .i64 x, .int .i64 a, .int .i64 b] s = some (.bool (decide (a ≤ x ∧ x ≤ b)), s) := by
  refine callF_fc (fc := c37) rfl ?_
  by_cases h1 : a ≤ x
  · by_cases h2 : x ≤ b <;> simp only [c37, push_cast, reduceCtorEq, Nat.reduceAdd, Nat.reduceSub, Nat.reduceMul, Nat.reduceLeDiff, Nat.reduceLT, Nat.reduceEqDiff, Int.reduceToNat, Int.reduceLT, Int.reduceLE, Int.reduceBEq, Int.reduceEq, Int.reduceSub, Int.reduceAdd, Int.reduceMul, Int.reduceNeg, fillL, repL, h1, h2]
  · simp only [c37, push_cast, reduceCtorEq, Nat.reduceAdd, Nat.reduceSub, Nat.reduceMul, Nat.reduceLeDiff, Nat.reduceLT, Nat.reduceEqDiff, Int.reduceToNat, Int.reduceLT, Int.reduceLE, Int.reduceBEq, Int.reduceEq, Int.reduceSub, Int.reduceAdd, Int.reduceMul, Int.reduceNeg, fillL, repL, h1, false_and]
end Go.Proofs.YthogcanomihelaaDoor.Gs
