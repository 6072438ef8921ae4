/- The cursor as it begins. -/
import Derived.Test.YthogcanomihelaaLa
set_option linter.unusedSimpArgs false
set_option linter.unusedVariables false
namespace Go.Proofs.Ythogcanomihelaa.Gw
open Go Go.Proofs Go.Proofs.Ythogcanomihelaa.Ae
attribute [local congr] obind_congr
attribute [local push_cast] exF argsV frzs frz frzL frz1 exS_reg exS_seq exS_cond exS_alt exS_block exS_loop exS_exit exS_ret exS_skip evReg evOps evOne evAct evOp rd putV st0 evEnd resV resL resOne oneOr frzR loadV storeV binV binI unV push_frm pop_frm frm_len frm_top frm_get_top frm_set_top frm_new AV.cells AV.lowB AV.lowL AV.isCell cellsOk set_len Option.bind_some Option.map_some Option.map_none List.getD_cons_zero List.getD_cons_succ List.nil_append List.cons_append List.append_nil List.length_cons List.length_nil List.set_cons_zero List.set_cons_succ List.map_cons List.map_nil List.replicate if_true if_false ite_true ite_false ite_self Bool.false_eq_true List.all_cons List.all_nil Bool.and_true Bool.true_and Bool.and_self Bool.and_eq_true List.getElem?_cons_zero List.getElem?_cons_succ List.drop_succ_cons List.drop_zero List.take_succ_cons List.take_zero true_and and_true and_self decide_true decide_false Bool.not_true Bool.not_false Prod.mk.injEq Option.some.injEq List.getElem?_drop optInt elems sliceV partsOf Nat.add_zero Nat.zero_add Nat.mul_one beq_self_eq_true litParts Bool.or_false Bool.false_or Bool.or_true Bool.true_or Bool.false_and Bool.and_false List.cons.injEq not_false_eq_true not_true_eq_false Nat.zero_le Nat.le_refl gt_iff_lt ge_iff_le List.drop_nil List.take_nil newBox List.length_append List.length_map bne_self_eq_false eq_self Nat.lt_add_one ne_eq false_implies Int.le_refl

/-- Bytes, as abstract values. -/
def ByteL (cs : List AV) : Prop := ∀ (j : Nat) x, cs[j]? = some x → ∃ b : Int, x = .int .u8 b ∧ 0 ≤ b ∧ b < 256
theorem l1New_loop {call : CallT} {s : Store} {f : Bool} {n : Nat} {cs : List AV} (hn : cs.length = n) (hn2 : n < 9223372036854775808) (hb : ByteL cs) : ∀ (m : Nat) (h i : Int) (b : AV), 0 ≤ i → i ≤ n → m = n - i.toNat →
    ∃ h' i', loopE call (loopAt c36 0) ⟨[.imm f n cs, .nilp, .int .i64 h, .int .i64 i, b], s⟩ = some (.exit 0, ⟨[.imm f n cs, .nilp, .int .i64 h', .int .i64 i', .bool false], s⟩) := by
  intro m
  induction m with
  | zero =>
    intro h i b h0 h1 hm
    have hlt : ¬ i < n := by omega
    refine ⟨h, i, loopE_end ?_ (by simp)⟩
    simp only [loopAt, loops, c36, push_cast, reduceCtorEq, Nat.reduceAdd, Nat.reduceSub, Nat.reduceMul, Nat.reduceLeDiff, Nat.reduceLT, Nat.reduceEqDiff, Int.reduceToNat, Int.reduceLT, Int.reduceLE, Int.reduceBEq, Int.reduceEq, Int.reduceSub, Int.reduceAdd, Int.reduceMul, Int.reduceNeg, fillL, repL, hlt]
  | succ m ih =>
    intro h i b h0 h1 hm
    have hlt : i < n := by omega
    by_cases h4 : i < 4000
    · obtain ⟨x, hx, hx2⟩ := hb i.toNat _ (List.getElem?_eq_getElem (by omega))
      have hget : cs[i.toNat]? = some (.int .u8 x) := by rw [List.getElem?_eq_getElem (by omega), hx]
      have hw : IntKind.i64.wrap (i + 1) = i + 1 := wrap_id (by omega) (by omega)
      obtain ⟨h', i', e⟩ := ih (bitsI .and .i64 (IntKind.i64.wrap (IntKind.i64.wrap (IntKind.i64.wrap (h * 131) + IntKind.i64.wrap x) + 7)) 1073741823) (i + 1) (.bool true) (by omega) (by omega) (by omega)
      refine ⟨h', i', ?_⟩
      rw [← e]
      refine loopE_step ?_
      simp only [loopAt, loops, c36, push_cast, reduceCtorEq, Nat.reduceAdd, Nat.reduceSub, Nat.reduceMul, Nat.reduceLeDiff, Nat.reduceLT, Nat.reduceEqDiff, Int.reduceToNat, Int.reduceLT, Int.reduceLE, Int.reduceBEq, Int.reduceEq, Int.reduceSub, Int.reduceAdd, Int.reduceMul, Int.reduceNeg, fillL, repL, hlt, h4, h0, hget, hw]
    · refine ⟨h, i, loopE_end ?_ (by simp)⟩
      simp only [loopAt, loops, c36, push_cast, reduceCtorEq, Nat.reduceAdd, Nat.reduceSub, Nat.reduceMul, Nat.reduceLeDiff, Nat.reduceLT, Nat.reduceEqDiff, Int.reduceToNat, Int.reduceLT, Int.reduceLE, Int.reduceBEq, Int.reduceEq, Int.reduceSub, Int.reduceAdd, Int.reduceMul, Int.reduceNeg, fillL, repL, hlt, h4]
theorem l1New_ok {s : Store} {f : Bool} {n : Nat} {cs : List AV} (hn : cs.length = n) (hn2 : n < 9223372036854775808) (hb : ByteL cs) :
    ∃ o, callF (tab tbl) prim 36 [.imm f n cs] s = some (.ptr s.low.length s.top.length 0, s.new o) ∧ CurO o := by
  obtain ⟨h', i', e⟩ := l1New_loop (call := callF (tab tbl) prim) (s := s) (f := false) hn hn2 hb n (IntKind.i64.wrap (29393 + n)) 0 .undef (Int.le_refl _) (by omega) (by omega)
  refine ⟨cur n false cs 0 h', callF_fc (fc := c36) rfl ?_, n, false, cs, 0, h', rfl, Int.le_refl _, hn, hn2, hb⟩
  simp only [loopAt, loops, c36, List.nil_append, List.append_nil, List.getD_cons_zero] at e
  simp only [c36, push_cast, reduceCtorEq, Nat.reduceAdd, Nat.reduceSub, Nat.reduceMul, Nat.reduceLeDiff, Nat.reduceLT, Nat.reduceEqDiff, Int.reduceToNat, Int.reduceLT, Int.reduceLE, Int.reduceBEq, Int.reduceEq, Int.reduceSub, Int.reduceAdd, Int.reduceMul, Int.reduceNeg, fillL, repL, e, cur]
end Go.Proofs.Ythogcanomihelaa.Gw
