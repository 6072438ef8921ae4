/- The reference's ShowVal. -/
import Derived.Test.YthogcanomihelaaDoorYd
set_option linter.unusedSimpArgs false
set_option linter.unusedVariables false
namespace Go.Proofs.YthogcanomihelaaDoor.Gs
open Go Go.Proofs Go.Proofs.YthogcanomihelaaDoor.Ae
open Go.Proofs.YthogcanomihelaaDoor.Gx (Vt azs azs_at az_len azs_len szs oks oks_mem szs_le szs_mem)
attribute [local congr] obind_congr
attribute [local push_cast] exF argsV frzs frz frzL frz1 exS_reg exS_seq exS_cond exS_alt exS_block exS_loop exS_exit exS_ret exS_skip evReg evOps evOne evAct evOp rd putV st0 evEnd resV resL resOne oneOr frzR loadV storeV binV binI unV push_frm pop_frm frm_len frm_top frm_get_top frm_set_top frm_new AV.cells AV.lowB AV.lowL AV.isCell cellsOk set_len Option.bind_some Option.map_some Option.map_none List.getD_cons_zero List.getD_cons_succ List.nil_append List.cons_append List.append_nil List.length_cons List.length_nil List.set_cons_zero List.set_cons_succ List.map_cons List.map_nil List.replicate if_true if_false ite_true ite_false ite_self Bool.false_eq_true List.all_cons List.all_nil Bool.and_true Bool.true_and Bool.and_self Bool.and_eq_true List.getElem?_cons_zero List.getElem?_cons_succ List.drop_succ_cons List.drop_zero List.take_succ_cons List.take_zero true_and and_true and_self decide_true decide_false Bool.not_true Bool.not_false Prod.mk.injEq Option.some.injEq List.getElem?_drop optInt elems sliceV partsOf Nat.add_zero Nat.zero_add Nat.mul_one beq_self_eq_true litParts Bool.or_false Bool.false_or Bool.or_true Bool.true_or Bool.false_and Bool.and_false List.cons.injEq not_false_eq_true not_true_eq_false Nat.zero_le Nat.le_refl gt_iff_lt ge_iff_le List.drop_nil List.take_nil newBox List.length_append List.length_map bne_self_eq_false eq_self Nat.lt_add_one ne_eq false_implies Int.le_refl

set_option maxHeartbeats 40000000 in
theorem show_deep {s : Store} {T : List Ae.Obj} {n0 : Nat} {b : AV} {l : List Int} {k n : Int} {t : List Int} {kids cells : List Vt} {fc : Bool} (hp : plainOf k n t = none) (hB : BufAt true (s.low.length + 1) n0 T b l) (hn : n0 ≤ T.length) (hl : l.length ≤ 40000) :
    ∃ v' s', callF (tab tbl) prim 29 [b, .agg [.int .i64 k, .int .i64 n, .imm false t.length (bys t), .imm false kids.length (azs kids)], .imm fc cells.length (azs cells), .int .i64 0] (frm s T) = some (v', s') ∧ ∃ T' r, s' = frm s T' ∧ BufAt true (s.low.length + 1) n0 T' v' r ∧ Bx n0 T T' ∧ Part l r [46, 46] ∧ r.length ≤ 2000000 := by
  obtain ⟨k0, k1, k4, k2⟩ := plain_none hp
  have hB1 := hB.bx (.box 25 [.int .i64 k, .int .i64 n, .imm false t.length (bys t), .imm false kids.length (azs kids)])
  have hg : (T ++ [Ae.Obj.box 25 [.int .i64 k, .int .i64 n, .imm false t.length (bys t), .imm false kids.length (azs kids)]])[T.length]? = some (.box 25 [.int .i64 k, .int .i64 n, .imm false t.length (bys t), .imm false kids.length (azs kids)]) := by simp
  have hX1 := bx_app [Ae.Obj.box 25 [.int .i64 k, .int .i64 n, .imm false t.length (bys t), .imm false kids.length (azs kids)]] hn
  have hA1 := app_buf (s := s) (n := n0) (m := 2) (src := .str ⟨#[46, 46]⟩) (ys := [46, 46]) (srcS rfl rfl) rfl rfl hB1 (Nat.le_trans hn hX1.1) (by omega)
  refine funZ rfl (zsf @hg) zt ?_
  repeat' (first
    | (with_reducible apply wSeq)
    | (with_reducible apply wReg)
    | (with_reducible apply wBlock)
    | (with_reducible apply thenNor)
    | (with_reducible apply thenRet)
    | (with_reducible apply thenExit)
    | (with_reducible apply blockNor)
    | (with_reducible apply blockExit)
    | (with_reducible apply blockRet)
    | (with_reducible apply oNil)
    | (with_reducible apply wExit)
    | (with_reducible apply wRet)
    | (with_reducible apply wSkip)
    | (with_reducible apply wRegT)
    | (with_reducible apply loopRet)
    | (with_reducible apply loopExit)
    | (with_reducible apply nT <;> dsimp only [List.cons_append, List.nil_append, putV, List.set])
    | (with_reducible apply nF <;> dsimp only [List.cons_append, List.nil_append, putV, List.set])
    | (with_reducible apply tT <;> dsimp only [List.cons_append, List.nil_append, putV, List.set])
    | (with_reducible apply tF <;> dsimp only [List.cons_append, List.nil_append, putV, List.set])
    | (with_reducible refine nB (zb fun hb => ?_) (zb fun hb => ?_) <;> dsimp only [List.cons_append, List.nil_append, putV, List.set])
    | (with_reducible apply nV <;> dsimp only [List.cons_append, List.nil_append, putV, List.set])
    | (with_reducible refine tB (zb fun hb => ?_) (zb fun hb => ?_) <;> dsimp only [List.cons_append, List.nil_append, putV, List.set])
    | (with_reducible apply tV <;> dsimp only [List.cons_append, List.nil_append, putV, List.set])
    | ((with_reducible apply blockOther); (focus (exact rfl)))
    | ((with_reducible apply wCondT); (focus (exact zg)))
    | ((with_reducible apply wCondF); (focus (exact zg)))
    | ((with_reducible apply oApp (h := hA1)); (focus (exact zr)); (focus (exact zr)); rintro _ _ ⟨T2, rfl, hB2, hX2⟩)
    | ((with_reducible apply tApp (h := hA1)); (focus (exact zr)); (focus (exact zr)); rintro _ _ ⟨T2, rfl, hB2, hX2⟩)
    | ((with_reducible apply oOp); (focus (exact zsf @hg)); (focus rfl))
    | ((with_reducible apply tOp); (focus (exact zsf @hg)); (focus rfl))
    | ((with_reducible apply tNil); (focus (exact zcf @hg)))
    | ((with_reducible apply endN); (focus (exact rfl)); (focus (exact zsf @hg)); (focus (exact zzf @hg)); (focus (exact zdf @hg)); (focus (exact ze)); dsimp only)
    | ((with_reducible apply endN'); (focus (exact rfl)); (focus (exact zsf @hg)); (focus (exact zzf @hg)); (focus (exact zdf @hg)); (focus (exact ze)); dsimp only)
    | ((with_reducible apply endI); (focus (exact zsf @hg)); (focus rfl))
    | (with_reducible exact isI rfl rfl))
  exact ⟨T2, _, rfl, hB2, hX1.trans hX2, .inl rfl, by simp; omega⟩
theorem show_P : ∀ m : Nat, m ≤ 8 → ShP m
  | m, hm => by
    intro s T n b l v cells fc deep hdeep hB hn hl hok hcs hsz hcz
    cases v with
    | mk k n1 t kids =>
      simp only [Vt.ok] at hok
      obtain ⟨_, hn1, _, _, _, hoks⟩ := hok
      simp only [Vt.sz] at hsz
      simp only [Vt.az]
      cases hp : plainOf k n1 t with
      | some x =>
        have hx : shw m (.mk k n1 t kids) cells = x := by
          unfold shw
          rw [hp]
        rw [hx]
        exact show_plain hm hp hB hn (by omega) hn1 (by omega)
      | none =>
        cases m with
        | zero =>
          have hx : shw 0 (.mk k n1 t kids) cells = [46, 46] := by
            unfold shw
            rw [hp]
          rw [hx, hdeep]
          exact show_deep hp hB hn (by omega)
        | succ m => exact show_parts (by omega) (show_P m (by omega)) hdeep hp hB hn hl hn1 hoks (by omega) hcs hcz
/-- What both show. -/
def sh (v : Vt) (cells : List Vt) : List Int := (shw 8 v cells).take 30000
theorem part_take {r x : List Int} (h : Part [] r x) : r.take 30000 = x.take 30000 := by
  rcases h with rfl | ⟨h1, y, hy⟩
  · simp
  · rw [List.nil_append] at hy
    rw [← hy, List.take_append_of_le_length (by omega)]
theorem cut_nil {s : Store} : ∃ v' s', callF (tab tbl) prim 28 [.imm true 0 []] s = some (v', s') ∧ v' = .imm true 0 [] ∧ s' = s := by
  refine funZ rfl rfl zt ?_
  repeat' (first
    | (with_reducible apply wSeq)
    | (with_reducible apply wReg)
    | (with_reducible apply wBlock)
    | (with_reducible apply thenNor)
    | (with_reducible apply thenRet)
    | (with_reducible apply thenExit)
    | (with_reducible apply blockNor)
    | (with_reducible apply blockExit)
    | (with_reducible apply blockRet)
    | (with_reducible apply oNil)
    | (with_reducible apply wExit)
    | (with_reducible apply wRet)
    | (with_reducible apply wSkip)
    | (with_reducible apply wRegT)
    | (with_reducible apply loopRet)
    | (with_reducible apply loopExit)
    | (with_reducible apply nT <;> dsimp only [List.cons_append, List.nil_append, putV, List.set])
    | (with_reducible apply nF <;> dsimp only [List.cons_append, List.nil_append, putV, List.set])
    | (with_reducible apply tT <;> dsimp only [List.cons_append, List.nil_append, putV, List.set])
    | (with_reducible apply tF <;> dsimp only [List.cons_append, List.nil_append, putV, List.set])
    | (with_reducible refine nB (zb fun hb => ?_) (zb fun hb => ?_) <;> dsimp only [List.cons_append, List.nil_append, putV, List.set])
    | (with_reducible apply nV <;> dsimp only [List.cons_append, List.nil_append, putV, List.set])
    | (with_reducible refine tB (zb fun hb => ?_) (zb fun hb => ?_) <;> dsimp only [List.cons_append, List.nil_append, putV, List.set])
    | (with_reducible apply tV <;> dsimp only [List.cons_append, List.nil_append, putV, List.set])
    | ((with_reducible apply blockOther); (focus (exact rfl)))
    | ((with_reducible apply wCondT); (focus (exact zg)))
    | ((with_reducible apply wCondF); (focus (exact zg)))
    | ((with_reducible apply oOp); (focus (exact zs)); (focus rfl))
    | ((with_reducible apply tOp); (focus (exact zs)); (focus rfl))
    | ((with_reducible apply tNil); (focus (exact zc)))
    | ((with_reducible apply endN); (focus (exact rfl)); (focus (exact zs)); (focus (exact zz)); (focus (exact zd)); (focus (exact ze)); dsimp only)
    | ((with_reducible apply endN'); (focus (exact rfl)); (focus (exact zs)); (focus (exact zz)); (focus (exact zd)); (focus (exact ze)); dsimp only)
    | ((with_reducible apply endI); (focus (exact zs)); (focus rfl))
    | (with_reducible exact isI rfl rfl))
  exact ⟨rfl, rfl⟩
theorem cut_slr {s : Store} {T : List Ae.Obj} {i m ver : Nat} {xs : List AV} (hg : T[i]? = some (.arr 5 1 xs ver 0)) : ∃ v' s', callF (tab tbl) prim 28 [.slr (s.low.length + 1) i 0 m ver false] (frm s T) = some (v', s') ∧ v' = .slr (s.low.length + 1) i 0 (min 30000 m) ver false ∧ s' = frm s T := by
  by_cases hc : 30000 < m
  · refine funZ rfl rfl zt ?_
    repeat' (first
      | (with_reducible apply wSeq)
      | (with_reducible apply wReg)
      | (with_reducible apply wBlock)
      | (with_reducible apply thenNor)
      | (with_reducible apply thenRet)
      | (with_reducible apply thenExit)
      | (with_reducible apply blockNor)
      | (with_reducible apply blockExit)
      | (with_reducible apply blockRet)
      | (with_reducible apply oNil)
      | (with_reducible apply wExit)
      | (with_reducible apply wRet)
      | (with_reducible apply wSkip)
      | (with_reducible apply wRegT)
      | (with_reducible apply loopRet)
      | (with_reducible apply loopExit)
      | (with_reducible apply nT <;> dsimp only [List.cons_append, List.nil_append, putV, List.set])
      | (with_reducible apply nF <;> dsimp only [List.cons_append, List.nil_append, putV, List.set])
      | (with_reducible apply tT <;> dsimp only [List.cons_append, List.nil_append, putV, List.set])
      | (with_reducible apply tF <;> dsimp only [List.cons_append, List.nil_append, putV, List.set])
      | (with_reducible refine nB (zb fun hb => ?_) (zb fun hb => ?_) <;> dsimp only [List.cons_append, List.nil_append, putV, List.set])
      | (with_reducible apply nV <;> dsimp only [List.cons_append, List.nil_append, putV, List.set])
      | (with_reducible refine tB (zb fun hb => ?_) (zb fun hb => ?_) <;> dsimp only [List.cons_append, List.nil_append, putV, List.set])
      | (with_reducible apply tV <;> dsimp only [List.cons_append, List.nil_append, putV, List.set])
      | ((with_reducible apply blockOther); (focus (exact rfl)))
      | ((with_reducible apply wCondT); (focus (exact zg)))
      | ((with_reducible apply wCondF); (focus (exact zg)))
      | ((with_reducible apply oOp); (focus (exact zsf @hg)); (focus rfl))
      | ((with_reducible apply tOp); (focus (exact zsf @hg)); (focus rfl))
      | ((with_reducible apply tNil); (focus (exact zcf @hg)))
      | ((with_reducible apply endN); (focus (exact rfl)); (focus (exact zsf @hg)); (focus (exact zzf @hg)); (focus (exact zdf @hg)); (focus (exact ze)); dsimp only)
      | ((with_reducible apply endN'); (focus (exact rfl)); (focus (exact zsf @hg)); (focus (exact zzf @hg)); (focus (exact zdf @hg)); (focus (exact ze)); dsimp only)
      | ((with_reducible apply endI); (focus (exact zsf @hg)); (focus rfl))
      | (with_reducible exact isI rfl rfl))
    exact ⟨by rw [Nat.min_eq_left (by omega)], rfl⟩
  · refine funZ rfl rfl zt ?_
    repeat' (first
      | (with_reducible apply wSeq)
      | (with_reducible apply wReg)
      | (with_reducible apply wBlock)
      | (with_reducible apply thenNor)
      | (with_reducible apply thenRet)
      | (with_reducible apply thenExit)
      | (with_reducible apply blockNor)
      | (with_reducible apply blockExit)
      | (with_reducible apply blockRet)
      | (with_reducible apply oNil)
      | (with_reducible apply wExit)
      | (with_reducible apply wRet)
      | (with_reducible apply wSkip)
      | (with_reducible apply wRegT)
      | (with_reducible apply loopRet)
      | (with_reducible apply loopExit)
      | (with_reducible apply nT <;> dsimp only [List.cons_append, List.nil_append, putV, List.set])
      | (with_reducible apply nF <;> dsimp only [List.cons_append, List.nil_append, putV, List.set])
      | (with_reducible apply tT <;> dsimp only [List.cons_append, List.nil_append, putV, List.set])
      | (with_reducible apply tF <;> dsimp only [List.cons_append, List.nil_append, putV, List.set])
      | (with_reducible refine nB (zb fun hb => ?_) (zb fun hb => ?_) <;> dsimp only [List.cons_append, List.nil_append, putV, List.set])
      | (with_reducible apply nV <;> dsimp only [List.cons_append, List.nil_append, putV, List.set])
      | (with_reducible refine tB (zb fun hb => ?_) (zb fun hb => ?_) <;> dsimp only [List.cons_append, List.nil_append, putV, List.set])
      | (with_reducible apply tV <;> dsimp only [List.cons_append, List.nil_append, putV, List.set])
      | ((with_reducible apply blockOther); (focus (exact rfl)))
      | ((with_reducible apply wCondT); (focus (exact zg)))
      | ((with_reducible apply wCondF); (focus (exact zg)))
      | ((with_reducible apply oOp); (focus (exact zsf @hg)); (focus rfl))
      | ((with_reducible apply tOp); (focus (exact zsf @hg)); (focus rfl))
      | ((with_reducible apply tNil); (focus (exact zcf @hg)))
      | ((with_reducible apply endN); (focus (exact rfl)); (focus (exact zsf @hg)); (focus (exact zzf @hg)); (focus (exact zdf @hg)); (focus (exact ze)); dsimp only)
      | ((with_reducible apply endN'); (focus (exact rfl)); (focus (exact zsf @hg)); (focus (exact zzf @hg)); (focus (exact zdf @hg)); (focus (exact ze)); dsimp only)
      | ((with_reducible apply endI); (focus (exact zsf @hg)); (focus rfl))
      | (with_reducible exact isI rfl rfl))
    exact ⟨by rw [Nat.min_eq_right (by omega)], rfl⟩
set_option maxHeartbeats 40000000 in
theorem specShow_ok {s : Store} {T : List Ae.Obj} {v : Vt} {cells : List Vt} {f : Bool} (hok : v.ok) (hcs : oks cells) (hsz : v.sz ≤ 1048576) (hcz : szs cells ≤ 1048576) :
    ∃ v' s', callF (tab tbl) prim 10 [.agg v.az, .imm f cells.length (azs cells)] (frm s T) = some (v', s') ∧ ∃ T', s' = frm s T' ∧ (∀ i, i < T.length → T'[i]? = T[i]?) ∧
      ((v' = .imm true 0 [] ∧ sh v cells = []) ∨ ∃ i ver l, v' = .slr (s.low.length + 1) i 0 (sh v cells).length ver false ∧ T.length ≤ i ∧ T'[i]? = some (.arr 5 1 (bys l) ver 0) ∧ l.take 30000 = sh v cells) := by
  have hX1 := bx_app (n := T.length) [Ae.Obj.box 25 v.az] (Nat.le_refl _)
  obtain ⟨v1, _, e, T1, r, rfl, hB1, hX, hP, hr⟩ := show_P 8 (Nat.le_refl _) s (T ++ [.box 25 v.az]) T.length (.imm true 0 []) [] v cells false 8 rfl (.inl ⟨rfl, fun _ => rfl⟩) (by simp) (by simp) hok hcs hsz hcz
  have ht := part_take hP
  cases v with
  | mk k n1 t kids =>
    simp only [Vt.az] at e hX1 hX ⊢
    have hg : (T ++ [Ae.Obj.box 25 [.int .i64 k, .int .i64 n1, .imm false t.length (bys t), .imm false kids.length (azs kids)]])[T.length]? = some (.box 25 [.int .i64 k, .int .i64 n1, .imm false t.length (bys t), .imm false kids.length (azs kids)]) := by simp
    have hall := hX1.trans hX
    rcases hB1 with ⟨rfl, h0⟩ | ⟨i, ver, rfl, hi, hgi⟩
    · have hr0 := h0 rfl
      subst hr0
      refine funZ rfl (zsf (And.intro @hg (@e))) zt ?_
      repeat' (first
        | (with_reducible apply wSeq)
        | (with_reducible apply wReg)
        | (with_reducible apply wBlock)
        | (with_reducible apply thenNor)
        | (with_reducible apply thenRet)
        | (with_reducible apply thenExit)
        | (with_reducible apply blockNor)
        | (with_reducible apply blockExit)
        | (with_reducible apply blockRet)
        | (with_reducible apply oNil)
        | (with_reducible apply wExit)
        | (with_reducible apply wRet)
        | (with_reducible apply wSkip)
        | (with_reducible apply wRegT)
        | (with_reducible apply loopRet)
        | (with_reducible apply loopExit)
        | (with_reducible apply nT <;> dsimp only [List.cons_append, List.nil_append, putV, List.set])
        | (with_reducible apply nF <;> dsimp only [List.cons_append, List.nil_append, putV, List.set])
        | (with_reducible apply tT <;> dsimp only [List.cons_append, List.nil_append, putV, List.set])
        | (with_reducible apply tF <;> dsimp only [List.cons_append, List.nil_append, putV, List.set])
        | (with_reducible refine nB (zb fun hb => ?_) (zb fun hb => ?_) <;> dsimp only [List.cons_append, List.nil_append, putV, List.set])
        | (with_reducible apply nV <;> dsimp only [List.cons_append, List.nil_append, putV, List.set])
        | (with_reducible refine tB (zb fun hb => ?_) (zb fun hb => ?_) <;> dsimp only [List.cons_append, List.nil_append, putV, List.set])
        | (with_reducible apply tV <;> dsimp only [List.cons_append, List.nil_append, putV, List.set])
        | ((with_reducible apply blockOther); (focus (exact rfl)))
        | ((with_reducible apply wCondT); (focus (exact zg)))
        | ((with_reducible apply wCondF); (focus (exact zg)))
        | ((with_reducible apply oCall (h := cut_nil)); (focus (exact zr)); rintro _ _ ⟨rfl, rfl⟩)
        | ((with_reducible apply oCallG (h := cut_nil)); (focus (exact zg)); (focus (exact zr)); rintro _ _ ⟨rfl, rfl⟩)
        | ((with_reducible apply tCall (h := cut_nil)); (focus (exact zr)); rintro _ _ ⟨rfl, rfl⟩)
        | ((with_reducible apply tCallG (h := cut_nil)); (focus (exact zg)); (focus (exact zr)); rintro _ _ ⟨rfl, rfl⟩)
        | ((with_reducible apply oOp); (focus (exact zsf (And.intro @hg (@e)))); (focus rfl))
        | ((with_reducible apply tOp); (focus (exact zsf (And.intro @hg (@e)))); (focus rfl))
        | ((with_reducible apply tNil); (focus (exact zcf (And.intro @hg (@e)))))
        | ((with_reducible apply endN); (focus (exact rfl)); (focus (exact zsf (And.intro @hg (@e)))); (focus (exact zzf (And.intro @hg (@e)))); (focus (exact zdf (And.intro @hg (@e)))); (focus (exact ze)); dsimp only)
        | ((with_reducible apply endN'); (focus (exact rfl)); (focus (exact zsf (And.intro @hg (@e)))); (focus (exact zzf (And.intro @hg (@e)))); (focus (exact zdf (And.intro @hg (@e)))); (focus (exact ze)); dsimp only)
        | ((with_reducible apply endI); (focus (exact zsf (And.intro @hg (@e)))); (focus rfl))
        | (with_reducible exact isI rfl rfl))
      exact ⟨T1, rfl, hall.2.2, .inl ⟨rfl, by unfold sh; rw [← ht]; rfl⟩⟩
    · have hcut := cut_slr (s := s) (T := T1) (i := i) (m := r.length) hgi
      refine funZ rfl (zsf (And.intro @hg (@e))) zt ?_
      repeat' (first
        | (with_reducible apply wSeq)
        | (with_reducible apply wReg)
        | (with_reducible apply wBlock)
        | (with_reducible apply thenNor)
        | (with_reducible apply thenRet)
        | (with_reducible apply thenExit)
        | (with_reducible apply blockNor)
        | (with_reducible apply blockExit)
        | (with_reducible apply blockRet)
        | (with_reducible apply oNil)
        | (with_reducible apply wExit)
        | (with_reducible apply wRet)
        | (with_reducible apply wSkip)
        | (with_reducible apply wRegT)
        | (with_reducible apply loopRet)
        | (with_reducible apply loopExit)
        | (with_reducible apply nT <;> dsimp only [List.cons_append, List.nil_append, putV, List.set])
        | (with_reducible apply nF <;> dsimp only [List.cons_append, List.nil_append, putV, List.set])
        | (with_reducible apply tT <;> dsimp only [List.cons_append, List.nil_append, putV, List.set])
        | (with_reducible apply tF <;> dsimp only [List.cons_append, List.nil_append, putV, List.set])
        | (with_reducible refine nB (zb fun hb => ?_) (zb fun hb => ?_) <;> dsimp only [List.cons_append, List.nil_append, putV, List.set])
        | (with_reducible apply nV <;> dsimp only [List.cons_append, List.nil_append, putV, List.set])
        | (with_reducible refine tB (zb fun hb => ?_) (zb fun hb => ?_) <;> dsimp only [List.cons_append, List.nil_append, putV, List.set])
        | (with_reducible apply tV <;> dsimp only [List.cons_append, List.nil_append, putV, List.set])
        | ((with_reducible apply blockOther); (focus (exact rfl)))
        | ((with_reducible apply wCondT); (focus (exact zg)))
        | ((with_reducible apply wCondF); (focus (exact zg)))
        | ((with_reducible apply oCall (h := hcut)); (focus (exact zr)); rintro _ _ ⟨rfl, rfl⟩)
        | ((with_reducible apply oCallG (h := hcut)); (focus (exact zg)); (focus (exact zr)); rintro _ _ ⟨rfl, rfl⟩)
        | ((with_reducible apply tCall (h := hcut)); (focus (exact zr)); rintro _ _ ⟨rfl, rfl⟩)
        | ((with_reducible apply tCallG (h := hcut)); (focus (exact zg)); (focus (exact zr)); rintro _ _ ⟨rfl, rfl⟩)
        | ((with_reducible apply oOp); (focus (exact zsf (And.intro @hg (@e)))); (focus rfl))
        | ((with_reducible apply tOp); (focus (exact zsf (And.intro @hg (@e)))); (focus rfl))
        | ((with_reducible apply tNil); (focus (exact zcf (And.intro @hg (@e)))))
        | ((with_reducible apply endN); (focus (exact rfl)); (focus (exact zsf (And.intro @hg (@e)))); (focus (exact zzf (And.intro @hg (@e)))); (focus (exact zdf (And.intro @hg (@e)))); (focus (exact ze)); dsimp only)
        | ((with_reducible apply endN'); (focus (exact rfl)); (focus (exact zsf (And.intro @hg (@e)))); (focus (exact zzf (And.intro @hg (@e)))); (focus (exact zdf (And.intro @hg (@e)))); (focus (exact ze)); dsimp only)
        | ((with_reducible apply endI); (focus (exact zsf (And.intro @hg (@e)))); (focus rfl))
        | (with_reducible exact isI rfl rfl))
      refine ⟨T1, rfl, hall.2.2, .inr ⟨i, ver, r, ?_, hi, hgi, ht⟩⟩
      have : (sh (.mk k n1 t kids) cells).length = min 30000 r.length := by
        unfold sh
        rw [← ht, List.length_take]
      rw [this]
end Go.Proofs.YthogcanomihelaaDoor.Gs
