/- The reference's l14show of a value with parts: the loop over them. -/
import Derived.Test.YthogcanomihelaaDoorYb
set_option linter.unusedSimpArgs false
set_option linter.unusedVariables false
namespace Go.Proofs.YthogcanomihelaaDoor.Gs
open Go Go.Proofs Go.Proofs.YthogcanomihelaaDoor.Ae
open Go.Proofs.YthogcanomihelaaDoor.Gx (Vt azs azs_at az_len azs_len szs oks oks_mem szs_le szs_mem)
attribute [local congr] obind_congr
attribute [local push_cast] exF argsV frzs frz frzL frz1 exS_reg exS_seq exS_cond exS_alt exS_block exS_loop exS_exit exS_ret exS_skip evReg evOps evOne evAct evOp rd putV st0 evEnd resV resL resOne oneOr frzR loadV storeV binV binI unV push_frm pop_frm frm_len frm_top frm_get_top frm_set_top frm_new AV.cells AV.lowB AV.lowL AV.isCell cellsOk set_len Option.bind_some Option.map_some Option.map_none List.getD_cons_zero List.getD_cons_succ List.nil_append List.cons_append List.append_nil List.length_cons List.length_nil List.set_cons_zero List.set_cons_succ List.map_cons List.map_nil List.replicate if_true if_false ite_true ite_false ite_self Bool.false_eq_true List.all_cons List.all_nil Bool.and_true Bool.true_and Bool.and_self Bool.and_eq_true List.getElem?_cons_zero List.getElem?_cons_succ List.drop_succ_cons List.drop_zero List.take_succ_cons List.take_zero true_and and_true and_self decide_true decide_false Bool.not_true Bool.not_false Prod.mk.injEq Option.some.injEq List.getElem?_drop optInt elems sliceV partsOf Nat.add_zero Nat.zero_add Nat.mul_one beq_self_eq_true litParts Bool.or_false Bool.false_or Bool.or_true Bool.true_or Bool.false_and Bool.and_false List.cons.injEq not_false_eq_true not_true_eq_false Nat.zero_le Nat.le_refl gt_iff_lt ge_iff_le List.drop_nil List.take_nil newBox List.length_append List.length_map bne_self_eq_false eq_self Nat.lt_add_one ne_eq false_implies Int.le_refl

theorem joins_app : ∀ a b : List (List Int), joins (a ++ b) = joins a ++ joins b
  | [], b => rfl
  | x :: r, b => by simp [joins, joins_app r b]
theorem join_snoc (a : List (List Int)) (x : List Int) : join (a ++ [x]) = join a ++ (if a = [] then [] else [44, 32]) ++ x := by
  cases a with
  | nil => simp [join, joins]
  | cons y r => simp [join, joins_app, joins]
theorem join_take (f : Vt → List Int) {ps : List Vt} {i : Nat} (h : i < ps.length) : join ((ps.take (i + 1)).map f) = join ((ps.take i).map f) ++ (if i = 0 then [] else [44, 32]) ++ f ps[i] := by
  rw [List.take_succ_eq_append_getElem h, List.map_append]
  simp only [List.map_cons, List.map_nil]
  rw [join_snoc]
  congr 2
  by_cases h0 : i = 0
  · subst h0; simp
  · have hne : (ps.take i).map f ≠ [] := by
      intro he
      have := congrArg List.length he
      simp only [List.length_map, List.length_take, List.length_nil] at this
      omega
    rw [if_neg hne, if_neg h0]
theorem join_pre (f : Vt → List Int) (ps : List Vt) : ∀ (d i : Nat), i + d = ps.length → join ((ps.take i).map f) <+: join (ps.map f)
  | 0, i, h => by
    rw [List.take_of_length_le (by omega)]
    exact List.prefix_refl _
  | d + 1, i, h => by
    have h1 := join_pre f ps d (i + 1) (by omega)
    rw [join_take f (by omega), List.append_assoc] at h1
    exact (List.prefix_append _ _).trans h1
end Go.Proofs.YthogcanomihelaaDoor.Gs
