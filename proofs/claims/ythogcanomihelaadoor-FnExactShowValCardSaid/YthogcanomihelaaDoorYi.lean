/- The program's showVal, whole. -/
import Derived.Test.YthogcanomihelaaDoorYh
set_option linter.unusedSimpArgs false
set_option linter.unusedVariables false
namespace Go.Proofs.YthogcanomihelaaDoor.Gs
open Go Go.Proofs Go.Proofs.YthogcanomihelaaDoor.Ae
open Go.Proofs.YthogcanomihelaaDoor.Gx (Vt azs azs_at az_len azs_len szs oks oks_mem szs_le szs_mem)
attribute [local congr] obind_congr
attribute [local push_cast] exF argsV frzs frz frzL frz1 exS_reg exS_seq exS_cond exS_alt exS_block exS_loop exS_exit exS_ret exS_skip evReg evOps evOne evAct evOp rd putV st0 evEnd resV resL resOne oneOr frzR loadV storeV binV binI unV push_frm pop_frm frm_len frm_top frm_get_top frm_set_top frm_new AV.cells AV.lowB AV.lowL AV.isCell cellsOk set_len Option.bind_some Option.map_some Option.map_none List.getD_cons_zero List.getD_cons_succ List.nil_append List.cons_append List.append_nil List.length_cons List.length_nil List.set_cons_zero List.set_cons_succ List.map_cons List.map_nil List.replicate if_true if_false ite_true ite_false ite_self Bool.false_eq_true List.all_cons List.all_nil Bool.and_true Bool.true_and Bool.and_self Bool.and_eq_true List.getElem?_cons_zero List.getElem?_cons_succ List.drop_succ_cons List.drop_zero List.take_succ_cons List.take_zero true_and and_true and_self decide_true decide_false Bool.not_true Bool.not_false Prod.mk.injEq Option.some.injEq List.getElem?_drop optInt elems sliceV partsOf Nat.add_zero Nat.zero_add Nat.mul_one beq_self_eq_true litParts Bool.or_false Bool.false_or Bool.or_true Bool.true_or Bool.false_and Bool.and_false List.cons.injEq not_false_eq_true not_true_eq_false Nat.zero_le Nat.le_refl gt_iff_lt ge_iff_le List.drop_nil List.take_nil newBox List.length_append List.length_map bne_self_eq_false eq_self Nat.lt_add_one ne_eq false_implies Int.le_refl

theorem app_get {α : Type} (T R : List α) (j : Nat) : (T ++ R)[T.length + j]? = R[j]? := by rw [List.getElem?_append_right (by omega)]; congr 1; omega
theorem app_get0 {α : Type} (T R : List α) : (T ++ R)[T.length]? = R[0]? := by rw [List.getElem?_append_right (Nat.le_refl _), Nat.sub_self]
theorem app_set {α : Type} (T R : List α) (j : Nat) (o : α) : (T ++ R).set (T.length + j) o = T ++ R.set j o := by rw [List.set_append_right _ _ (by omega)]; congr 2; omega
theorem OutB.app {D n q : Nat} {T : List Ae.Obj} {l : List Int} (h : OutB D n q T l) (R : List Ae.Obj) : OutB D n q (T ++ R) l := by
  obtain ⟨w, h1, h2⟩ := h
  exact ⟨w, by rw [List.getElem?_append_left (lt_of_get h1)]; exact h1, h2.app R⟩
theorem OutB.lt {D n q : Nat} {T : List Ae.Obj} {l : List Int} (h : OutB D n q T l) : q < T.length := by
  obtain ⟨w, h1, _⟩ := h
  exact lt_of_get h1
theorem kq_app {n q : Nat} {T : List Ae.Obj} (R : List Ae.Obj) (hn : n ≤ T.length) : Kq n q T (T ++ R) := (bx_app R hn).kq
theorem shw_plain {m : Nat} {k n : Int} {t : List Int} {kids cells : List Vt} {x : List Int} (h : plainOf k n t = some x) : shw m (.mk k n t kids) cells = x := by
  unfold shw
  rw [h]
theorem shw_zero {k n : Int} {t : List Int} {kids cells : List Vt} (h : plainOf k n t = none) : shw 0 (.mk k n t kids) cells = [46, 46] := by
  unfold shw
  rw [h]
theorem shw_succ {m : Nat} {k n : Int} {t : List Int} {kids cells : List Vt} (h : plainOf k n t = none) : shw (m + 1) (.mk k n t kids) cells = headOf k n ++ allOf m (partsOf k n kids cells) cells := by
  unfold shw allOf
  rw [h]
  dsimp only
  split <;> simp
/-- What is said of a value behind its head. -/
theorem said_head {D n q : Nat} {s : Store} {T T2 : List Ae.Obj} {l h x : List Int} {v : AV} {s' : Store} (hK : Kq n q T T2) (hS : Shown D n q s T2 (l ++ h) x v s') : Shown D n q s T l (h ++ x) v s' := by
  obtain ⟨b, T', r, h1, h2, h3, h4, h5, h6⟩ := hS
  refine ⟨b, T', r, h1, h2, h3, hK.trans h4, ⟨fun hb => ?_, fun hb => ?_⟩, h6⟩
  · have := h5.1 hb
    rw [List.append_assoc] at this
    exact this
  · have := h5.2 hb
    rw [List.append_assoc] at this
    exact this
set_option maxHeartbeats 40000000 in
theorem show_I (m : Nat) (hm : m ≤ 8) (ih : ∀ m', m = m' + 1 → IP m') : IP m := by
  intro s T n q l pv v cells fc deep hdeep hO hnq hl hpv hok hcs hsz hcz
  have hq := hO.lt
  have hcl := szs_le cells
  cases v with
  | mk k n1 t kids =>
    simp only [Vt.ok] at hok
    obtain ⟨_, hn1, htb, _, _, hoks⟩ := hok
    simp only [Vt.sz] at hsz
    have hkl := szs_le kids
    simp only [Vt.az] at hpv
    have hP := fun s => plainI_ok (s := s) (k := k) (n := n1) (ft := false) (t := t) hn1 htb (by omega)
    have hH := fun s => headI_ok (s := s) (k := k) hn1
    have hO3 := fun R => hO.app R
    have hK3 := fun R => kq_app (q := q) R (T := T) (n := n) (by omega)
    rcases hpv with ⟨i, hi, rfl, hbox⟩ | ⟨r, rfl⟩
    · have hbx : ∀ R : List Ae.Obj, (T ++ R)[i]? = some (.box 25 [.int .i64 k, .int .i64 n1, .imm false t.length (bys t), .imm false kids.length (azs kids)]) := fun R => by rw [List.getElem?_append_left (lt_of_get hbox)]; exact hbox
      refine funZ rfl (zsf (And.intro @app_get (And.intro @app_get0 (And.intro @app_set (And.intro @hbx (And.intro (@List.append_assoc Ae.Obj) (And.intro @Nat.add_assoc (@within_ok)))))))) zt ?_
      repeat' (first
        | (with_reducible apply wSeq)
        | (with_reducible apply wReg)
        | (with_reducible apply wBlock)
        | (with_reducible apply thenNor)
        | (with_reducible apply thenRet)
        | (with_reducible apply thenExit)
        | (with_reducible apply blockNor)
        | (with_reducible apply blockExit)
        | (with_reducible apply blockRet)
        | (with_reducible apply oNil)
        | (with_reducible apply wExit)
        | (with_reducible apply wRet)
        | (with_reducible apply wSkip)
        | (with_reducible apply wRegT)
        | (with_reducible apply loopRet)
        | (with_reducible apply loopExit)
        | (with_reducible apply nT <;> dsimp only [List.cons_append, List.nil_append, putV, List.set])
        | (with_reducible apply nF <;> dsimp only [List.cons_append, List.nil_append, putV, List.set])
        | (with_reducible apply tT <;> dsimp only [List.cons_append, List.nil_append, putV, List.set])
        | (with_reducible apply tF <;> dsimp only [List.cons_append, List.nil_append, putV, List.set])
        | (with_reducible refine nB (zb fun hb => ?_) (zb fun hb => ?_) <;> dsimp only [List.cons_append, List.nil_append, putV, List.set])
        | (with_reducible apply nV <;> dsimp only [List.cons_append, List.nil_append, putV, List.set])
        | (with_reducible refine tB (zb fun hb => ?_) (zb fun hb => ?_) <;> dsimp only [List.cons_append, List.nil_append, putV, List.set])
        | (with_reducible apply tV <;> dsimp only [List.cons_append, List.nil_append, putV, List.set])
        | ((with_reducible apply blockOther); (focus (exact rfl)))
        | ((with_reducible apply wCondT); (focus (exact zg)))
        | ((with_reducible apply wCondF); (focus (exact zg)))
        | ((with_reducible apply oCall (h := hP _)); (focus (exact zr)); rintro _ _ ⟨x, bp, rfl, rfl, hx, hpt, hpf⟩)
        | ((with_reducible apply oCallG (h := hP _)); (focus (exact zg)); (focus (exact zr)); rintro _ _ ⟨x, bp, rfl, rfl, hx, hpt, hpf⟩)
        | ((with_reducible apply tCall (h := hP _)); (focus (exact zr)); rintro _ _ ⟨x, bp, rfl, rfl, hx, hpt, hpf⟩)
        | ((with_reducible apply tCallG (h := hP _)); (focus (exact zg)); (focus (exact zr)); rintro _ _ ⟨x, bp, rfl, rfl, hx, hpt, hpf⟩)
        | ((with_reducible apply oCall (h := hH _)); (focus (exact zr)); rintro _ _ ⟨xh, rfl, rfl, hxs, hxi⟩)
        | ((with_reducible apply oCallG (h := hH _)); (focus (exact zg)); (focus (exact zr)); rintro _ _ ⟨xh, rfl, rfl, hxs, hxi⟩)
        | ((with_reducible apply tCall (h := hH _)); (focus (exact zr)); rintro _ _ ⟨xh, rfl, rfl, hxs, hxi⟩)
        | ((with_reducible apply tCallG (h := hH _)); (focus (exact zg)); (focus (exact zr)); rintro _ _ ⟨xh, rfl, rfl, hxs, hxi⟩)
        | ((with_reducible apply oOp); (focus (exact zsf (And.intro @app_get (And.intro @app_get0 (And.intro @app_set (And.intro @hbx (And.intro (@List.append_assoc Ae.Obj) (And.intro @Nat.add_assoc (@within_ok))))))))); (focus rfl))
        | ((with_reducible apply tOp); (focus (exact zsf (And.intro @app_get (And.intro @app_get0 (And.intro @app_set (And.intro @hbx (And.intro (@List.append_assoc Ae.Obj) (And.intro @Nat.add_assoc (@within_ok))))))))); (focus rfl))
        | ((with_reducible apply tNil); (focus (exact zcf (And.intro @app_get (And.intro @app_get0 (And.intro @app_set (And.intro @hbx (And.intro (@List.append_assoc Ae.Obj) (And.intro @Nat.add_assoc (@within_ok))))))))))
        | ((with_reducible apply endN); (focus (exact rfl)); (focus (exact zsf (And.intro @app_get (And.intro @app_get0 (And.intro @app_set (And.intro @hbx (And.intro (@List.append_assoc Ae.Obj) (And.intro @Nat.add_assoc (@within_ok))))))))); (focus (exact zzf (And.intro @app_get (And.intro @app_get0 (And.intro @app_set (And.intro @hbx (And.intro (@List.append_assoc Ae.Obj) (And.intro @Nat.add_assoc (@within_ok))))))))); (focus (exact zdf (And.intro @app_get (And.intro @app_get0 (And.intro @app_set (And.intro @hbx (And.intro (@List.append_assoc Ae.Obj) (And.intro @Nat.add_assoc (@within_ok))))))))); (focus (exact ze)); dsimp only)
        | ((with_reducible apply endN'); (focus (exact rfl)); (focus (exact zsf (And.intro @app_get (And.intro @app_get0 (And.intro @app_set (And.intro @hbx (And.intro (@List.append_assoc Ae.Obj) (And.intro @Nat.add_assoc (@within_ok))))))))); (focus (exact zzf (And.intro @app_get (And.intro @app_get0 (And.intro @app_set (And.intro @hbx (And.intro (@List.append_assoc Ae.Obj) (And.intro @Nat.add_assoc (@within_ok))))))))); (focus (exact zdf (And.intro @app_get (And.intro @app_get0 (And.intro @app_set (And.intro @hbx (And.intro (@List.append_assoc Ae.Obj) (And.intro @Nat.add_assoc (@within_ok))))))))); (focus (exact ze)); dsimp only)
        | ((with_reducible apply endI); (focus (exact zsf (And.intro @app_get (And.intro @app_get0 (And.intro @app_set (And.intro @hbx (And.intro (@List.append_assoc Ae.Obj) (And.intro @Nat.add_assoc (@within_ok))))))))); (focus rfl))
        | (with_reducible exact isI rfl rfl))
      · have hS := fun R => say_S x (hO3 R) hnq (by omega)
        rw [shw_plain (hpt hb)]
        clear hb
        repeat' (first
          | (with_reducible apply wSeq)
          | (with_reducible apply wReg)
          | (with_reducible apply wBlock)
          | (with_reducible apply thenNor)
          | (with_reducible apply thenRet)
          | (with_reducible apply thenExit)
          | (with_reducible apply blockNor)
          | (with_reducible apply blockExit)
          | (with_reducible apply blockRet)
          | (with_reducible apply oNil)
          | (with_reducible apply wExit)
          | (with_reducible apply wRet)
          | (with_reducible apply wSkip)
          | (with_reducible apply wRegT)
          | (with_reducible apply loopRet)
          | (with_reducible apply loopExit)
          | (with_reducible apply nT <;> dsimp only [List.cons_append, List.nil_append, putV, List.set])
          | (with_reducible apply nF <;> dsimp only [List.cons_append, List.nil_append, putV, List.set])
          | (with_reducible apply tT <;> dsimp only [List.cons_append, List.nil_append, putV, List.set])
          | (with_reducible apply tF <;> dsimp only [List.cons_append, List.nil_append, putV, List.set])
          | (with_reducible refine nB (zb fun hb => ?_) (zb fun hb => ?_) <;> dsimp only [List.cons_append, List.nil_append, putV, List.set])
          | (with_reducible apply nV <;> dsimp only [List.cons_append, List.nil_append, putV, List.set])
          | (with_reducible refine tB (zb fun hb => ?_) (zb fun hb => ?_) <;> dsimp only [List.cons_append, List.nil_append, putV, List.set])
          | (with_reducible apply tV <;> dsimp only [List.cons_append, List.nil_append, putV, List.set])
          | ((with_reducible apply blockOther); (focus (exact rfl)))
          | ((with_reducible apply wCondT); (focus (exact zg)))
          | ((with_reducible apply wCondF); (focus (exact zg)))
          | ((with_reducible apply oCall (h := hS _)); (focus (exact zr)); rintro _ _ ⟨b2, T2, rfl, rfl, hO2, hK2, ht2, hf2⟩)
          | ((with_reducible apply oCallG (h := hS _)); (focus (exact zg)); (focus (exact zr)); rintro _ _ ⟨b2, T2, rfl, rfl, hO2, hK2, ht2, hf2⟩)
          | ((with_reducible apply tCall (h := hS _)); (focus (exact zr)); rintro _ _ ⟨b2, T2, rfl, rfl, hO2, hK2, ht2, hf2⟩)
          | ((with_reducible apply tCallG (h := hS _)); (focus (exact zg)); (focus (exact zr)); rintro _ _ ⟨b2, T2, rfl, rfl, hO2, hK2, ht2, hf2⟩)
          | ((with_reducible apply oOp); (focus (exact zs)); (focus rfl))
          | ((with_reducible apply tOp); (focus (exact zs)); (focus rfl))
          | ((with_reducible apply tNil); (focus (exact zc)))
          | ((with_reducible apply endN); (focus (exact rfl)); (focus (exact zs)); (focus (exact zz)); (focus (exact zd)); (focus (exact ze)); dsimp only)
          | ((with_reducible apply endN'); (focus (exact rfl)); (focus (exact zs)); (focus (exact zz)); (focus (exact zd)); (focus (exact ze)); dsimp only)
          | ((with_reducible apply endI); (focus (exact zs)); (focus rfl))
          | (with_reducible exact isI rfl rfl))
        all_goals
          have hl2 : (l ++ strInts x).length ≤ 2000000 := by rw [List.length_append, strInts_len]; omega
          refine ⟨_, T2, _, rfl, rfl, hO2, (hK3 _).trans hK2, ⟨fun h => ⟨rfl, ?_⟩, fun h => ⟨?_, List.prefix_refl _⟩⟩, hl2⟩
          · first | exact ht2 hb | cases h
          · first | exact hf2 hb | cases h
      · have hpn := hpf (by assumption)
        have hS := fun R => say_S ⟨#[46, 46]⟩ (hO3 R) hnq (by have : (⟨#[46, 46]⟩ : ByteArray).size = 2 := rfl; omega)
        obtain rfl : m = 0 := by omega
        rw [shw_zero hpn]
        clear hb
        repeat' (first
          | (with_reducible apply wSeq)
          | (with_reducible apply wReg)
          | (with_reducible apply wBlock)
          | (with_reducible apply thenNor)
          | (with_reducible apply thenRet)
          | (with_reducible apply thenExit)
          | (with_reducible apply blockNor)
          | (with_reducible apply blockExit)
          | (with_reducible apply blockRet)
          | (with_reducible apply oNil)
          | (with_reducible apply wExit)
          | (with_reducible apply wRet)
          | (with_reducible apply wSkip)
          | (with_reducible apply wRegT)
          | (with_reducible apply loopRet)
          | (with_reducible apply loopExit)
          | (with_reducible apply nT <;> dsimp only [List.cons_append, List.nil_append, putV, List.set])
          | (with_reducible apply nF <;> dsimp only [List.cons_append, List.nil_append, putV, List.set])
          | (with_reducible apply tT <;> dsimp only [List.cons_append, List.nil_append, putV, List.set])
          | (with_reducible apply tF <;> dsimp only [List.cons_append, List.nil_append, putV, List.set])
          | (with_reducible refine nB (zb fun hb => ?_) (zb fun hb => ?_) <;> dsimp only [List.cons_append, List.nil_append, putV, List.set])
          | (with_reducible apply nV <;> dsimp only [List.cons_append, List.nil_append, putV, List.set])
          | (with_reducible refine tB (zb fun hb => ?_) (zb fun hb => ?_) <;> dsimp only [List.cons_append, List.nil_append, putV, List.set])
          | (with_reducible apply tV <;> dsimp only [List.cons_append, List.nil_append, putV, List.set])
          | ((with_reducible apply blockOther); (focus (exact rfl)))
          | ((with_reducible apply wCondT); (focus (exact zg)))
          | ((with_reducible apply wCondF); (focus (exact zg)))
          | ((with_reducible apply oCall (h := hS _)); (focus (exact zr)); rintro _ _ ⟨b2, T2, rfl, rfl, hO2, hK2, ht2, hf2⟩)
          | ((with_reducible apply oCallG (h := hS _)); (focus (exact zg)); (focus (exact zr)); rintro _ _ ⟨b2, T2, rfl, rfl, hO2, hK2, ht2, hf2⟩)
          | ((with_reducible apply tCall (h := hS _)); (focus (exact zr)); rintro _ _ ⟨b2, T2, rfl, rfl, hO2, hK2, ht2, hf2⟩)
          | ((with_reducible apply tCallG (h := hS _)); (focus (exact zg)); (focus (exact zr)); rintro _ _ ⟨b2, T2, rfl, rfl, hO2, hK2, ht2, hf2⟩)
          | ((with_reducible apply oOp); (focus (exact zs)); (focus rfl))
          | ((with_reducible apply tOp); (focus (exact zs)); (focus rfl))
          | ((with_reducible apply tNil); (focus (exact zc)))
          | ((with_reducible apply endN); (focus (exact rfl)); (focus (exact zs)); (focus (exact zz)); (focus (exact zd)); (focus (exact ze)); dsimp only)
          | ((with_reducible apply endN'); (focus (exact rfl)); (focus (exact zs)); (focus (exact zz)); (focus (exact zd)); (focus (exact ze)); dsimp only)
          | ((with_reducible apply endI); (focus (exact zs)); (focus rfl))
          | (with_reducible exact isI rfl rfl))
        all_goals
          have hl2 : (l ++ strInts ⟨#[46, 46]⟩).length ≤ 2000000 := by rw [List.length_append, strInts_len]; have : (⟨#[46, 46]⟩ : ByteArray).size = 2 := rfl; omega
          refine ⟨_, T2, _, rfl, rfl, hO2, (hK3 _).trans hK2, ⟨fun h => ⟨rfl, ?_⟩, fun h => ⟨?_, List.prefix_refl _⟩⟩, hl2⟩
          · first | exact ht2 hb | cases h
          · first | exact hf2 hb | cases h
      · have hpn := hpf (by assumption)
        obtain ⟨m', rfl⟩ : ∃ m', m = m' + 1 := ⟨m - 1, by omega⟩
        have hk5 : k = 5 := by assumption
        have hlt0 : n1.toNat < cells.length := by omega
        have hpo : partsOf k n1 kids cells = [cells[n1.toNat]] := by
          simp only [partsOf, if_pos hk5]
          rw [if_pos (by omega), List.drop_eq_getElem_cons hlt0]
          rfl
        have hxm : cells[n1.toNat] ∈ cells := List.getElem_mem hlt0
        have hps : ∀ v ∈ [cells[n1.toNat]], v.ok ∧ v.sz ≤ 1048576 := fun v hv => by
          simp only [List.mem_singleton] at hv
          subst hv
          exact ⟨oks_mem hcs hxm, by have := szs_mem hxm; omega⟩
        have hpl : ([cells[n1.toNat]] : List Vt).length ≤ 1048576 := by simp
        have hsl : AV.imm false (n1 + 1 - n1).toNat (((azs cells).drop (n1.toNat * 4)).take ((n1 + 1 - n1).toNat * 4)) = .imm false ([cells[n1.toNat]] : List Vt).length (azs [cells[n1.toNat]]) := by
          have h1 : (n1 + 1 - n1).toNat = 1 := by omega
          have h2 := (azs_at hlt0).2
          rw [h1, Nat.one_mul, h2]
          simp [azs]
        rw [shw_succ hpn, ← hxi, hpo]
        have hS := fun R => say_S xh (hO3 R) hnq (by omega)
        repeat' (first
          | (with_reducible apply wSeq)
          | (with_reducible apply wReg)
          | (with_reducible apply wBlock)
          | (with_reducible apply thenNor)
          | (with_reducible apply thenRet)
          | (with_reducible apply thenExit)
          | (with_reducible apply blockNor)
          | (with_reducible apply blockExit)
          | (with_reducible apply blockRet)
          | (with_reducible apply oNil)
          | (with_reducible apply wExit)
          | (with_reducible apply wRet)
          | (with_reducible apply wSkip)
          | (with_reducible apply wRegT)
          | (with_reducible apply loopRet)
          | (with_reducible apply loopExit)
          | (with_reducible apply nT <;> dsimp only [List.cons_append, List.nil_append, putV, List.set])
          | (with_reducible apply nF <;> dsimp only [List.cons_append, List.nil_append, putV, List.set])
          | (with_reducible apply tT <;> dsimp only [List.cons_append, List.nil_append, putV, List.set])
          | (with_reducible apply tF <;> dsimp only [List.cons_append, List.nil_append, putV, List.set])
          | (with_reducible refine nB (zb fun hb => ?_) (zb fun hb => ?_) <;> dsimp only [List.cons_append, List.nil_append, putV, List.set])
          | (with_reducible apply nV <;> dsimp only [List.cons_append, List.nil_append, putV, List.set])
          | (with_reducible refine tB (zb fun hb => ?_) (zb fun hb => ?_) <;> dsimp only [List.cons_append, List.nil_append, putV, List.set])
          | (with_reducible apply tV <;> dsimp only [List.cons_append, List.nil_append, putV, List.set])
          | ((with_reducible apply blockOther); (focus (exact rfl)))
          | ((with_reducible apply wCondT); (focus (exact zg)))
          | ((with_reducible apply wCondF); (focus (exact zg)))
          | ((with_reducible apply oCall (h := hS _)); (focus (exact zr)); rintro _ _ ⟨b2, T2, rfl, rfl, hO2, hK2, ht2, hf2⟩)
          | ((with_reducible apply oCallG (h := hS _)); (focus (exact zg)); (focus (exact zr)); rintro _ _ ⟨b2, T2, rfl, rfl, hO2, hK2, ht2, hf2⟩)
          | ((with_reducible apply tCall (h := hS _)); (focus (exact zr)); rintro _ _ ⟨b2, T2, rfl, rfl, hO2, hK2, ht2, hf2⟩)
          | ((with_reducible apply tCallG (h := hS _)); (focus (exact zg)); (focus (exact zr)); rintro _ _ ⟨b2, T2, rfl, rfl, hO2, hK2, ht2, hf2⟩)
          | ((with_reducible apply oOp); (focus (exact zsf (And.intro @app_get0 (@app_get)))); (focus rfl))
          | ((with_reducible apply tOp); (focus (exact zsf (And.intro @app_get0 (@app_get)))); (focus rfl))
          | ((with_reducible apply tNil); (focus (exact zcf (And.intro @app_get0 (@app_get)))))
          | ((with_reducible apply endN); (focus (exact rfl)); (focus (exact zsf (And.intro @app_get0 (@app_get)))); (focus (exact zzf (And.intro @app_get0 (@app_get)))); (focus (exact zdf (And.intro @app_get0 (@app_get)))); (focus (exact ze)); dsimp only)
          | ((with_reducible apply endN'); (focus (exact rfl)); (focus (exact zsf (And.intro @app_get0 (@app_get)))); (focus (exact zzf (And.intro @app_get0 (@app_get)))); (focus (exact zdf (And.intro @app_get0 (@app_get)))); (focus (exact ze)); dsimp only)
          | ((with_reducible apply endI); (focus (exact zsf (And.intro @app_get0 (@app_get)))); (focus rfl))
          | (with_reducible exact isI rfl rfl))
        · have hb2 := hb
          clear hb
          have f0 := hK2.2.1 _ _ _ (show T.length ≠ q by omega) ((app_get0 T _).trans rfl)
          have f1 := hK2.2.1 _ _ _ (show T.length + 1 ≠ q by omega) ((app_get T _ 1).trans rfl)
          have f2 := hK2.2.1 _ _ _ (show T.length + 2 ≠ q by omega) ((app_get T _ 2).trans rfl)
          have f3 := hK2.2.1 _ _ _ (show T.length + 3 ≠ q by omega) ((app_get T _ 3).trans rfl)
          rw [hsl] at f3
          have e := parts_ok (ih m' rfl) (ps := [cells[n1.toNat]'(by omega)]) (deep := deep) (by omega) (by omega) hO2 hnq (ht2 hb2) (show T.length ≠ q by omega) (show T.length + 3 ≠ q by omega) (show T.length + 1 ≠ q by omega) (show T.length + 2 ≠ q by omega) f0 f3 f1 f2 hps hpl hcs hcz
          repeat' (first
            | (with_reducible apply wSeq)
            | (with_reducible apply wReg)
            | (with_reducible apply wBlock)
            | (with_reducible apply thenNor)
            | (with_reducible apply thenRet)
            | (with_reducible apply thenExit)
            | (with_reducible apply blockNor)
            | (with_reducible apply blockExit)
            | (with_reducible apply blockRet)
            | (with_reducible apply oNil)
            | (with_reducible apply wExit)
            | (with_reducible apply wRet)
            | (with_reducible apply wSkip)
            | (with_reducible apply wRegT)
            | (with_reducible apply loopRet)
            | (with_reducible apply loopExit)
            | (with_reducible apply nT <;> dsimp only [List.cons_append, List.nil_append, putV, List.set])
            | (with_reducible apply nF <;> dsimp only [List.cons_append, List.nil_append, putV, List.set])
            | (with_reducible apply tT <;> dsimp only [List.cons_append, List.nil_append, putV, List.set])
            | (with_reducible apply tF <;> dsimp only [List.cons_append, List.nil_append, putV, List.set])
            | (with_reducible refine nB (zb fun hb => ?_) (zb fun hb => ?_) <;> dsimp only [List.cons_append, List.nil_append, putV, List.set])
            | (with_reducible apply nV <;> dsimp only [List.cons_append, List.nil_append, putV, List.set])
            | (with_reducible refine tB (zb fun hb => ?_) (zb fun hb => ?_) <;> dsimp only [List.cons_append, List.nil_append, putV, List.set])
            | (with_reducible apply tV <;> dsimp only [List.cons_append, List.nil_append, putV, List.set])
            | ((with_reducible apply blockOther); (focus (exact rfl)))
            | ((with_reducible apply wCondT); (focus (exact zg)))
            | ((with_reducible apply wCondF); (focus (exact zg)))
            | ((with_reducible apply oCall (h := e)); (focus (exact zr)); rintro _ _ ⟨b3, T3, r3, rfl, rfl, hO4, hK4, hS4, hL4⟩)
            | ((with_reducible apply oCallG (h := e)); (focus (exact zg)); (focus (exact zr)); rintro _ _ ⟨b3, T3, r3, rfl, rfl, hO4, hK4, hS4, hL4⟩)
            | ((with_reducible apply tCall (h := e)); (focus (exact zr)); rintro _ _ ⟨b3, T3, r3, rfl, rfl, hO4, hK4, hS4, hL4⟩)
            | ((with_reducible apply tCallG (h := e)); (focus (exact zg)); (focus (exact zr)); rintro _ _ ⟨b3, T3, r3, rfl, rfl, hO4, hK4, hS4, hL4⟩)
            | ((with_reducible apply oOp); (focus (exact zsf (And.intro @app_get0 (And.intro @app_get (And.intro @f0 (And.intro @f1 (And.intro @f2 (@f3)))))))); (focus rfl))
            | ((with_reducible apply tOp); (focus (exact zsf (And.intro @app_get0 (And.intro @app_get (And.intro @f0 (And.intro @f1 (And.intro @f2 (@f3)))))))); (focus rfl))
            | ((with_reducible apply tNil); (focus (exact zcf (And.intro @app_get0 (And.intro @app_get (And.intro @f0 (And.intro @f1 (And.intro @f2 (@f3)))))))))
            | ((with_reducible apply endN); (focus (exact rfl)); (focus (exact zsf (And.intro @app_get0 (And.intro @app_get (And.intro @f0 (And.intro @f1 (And.intro @f2 (@f3)))))))); (focus (exact zzf (And.intro @app_get0 (And.intro @app_get (And.intro @f0 (And.intro @f1 (And.intro @f2 (@f3)))))))); (focus (exact zdf (And.intro @app_get0 (And.intro @app_get (And.intro @f0 (And.intro @f1 (And.intro @f2 (@f3)))))))); (focus (exact ze)); dsimp only)
            | ((with_reducible apply endN'); (focus (exact rfl)); (focus (exact zsf (And.intro @app_get0 (And.intro @app_get (And.intro @f0 (And.intro @f1 (And.intro @f2 (@f3)))))))); (focus (exact zzf (And.intro @app_get0 (And.intro @app_get (And.intro @f0 (And.intro @f1 (And.intro @f2 (@f3)))))))); (focus (exact zdf (And.intro @app_get0 (And.intro @app_get (And.intro @f0 (And.intro @f1 (And.intro @f2 (@f3)))))))); (focus (exact ze)); dsimp only)
            | ((with_reducible apply endI); (focus (exact zsf (And.intro @app_get0 (And.intro @app_get (And.intro @f0 (And.intro @f1 (And.intro @f2 (@f3)))))))); (focus rfl))
            | (with_reducible exact isI rfl rfl))
          all_goals
            subst hb
            exact said_head ((hK3 _).trans hK2) ⟨_, T3, r3, rfl, rfl, hO4, hK4, hS4, hL4⟩
        · have hl2 : (l ++ strInts xh).length ≤ 2000000 := by rw [List.length_append, strInts_len]; omega
          exact ⟨false, T2, _, rfl, rfl, hO2, (hK3 _).trans hK2, ⟨(fun h => by cases h), fun _ => ⟨hf2 hb, by rw [← List.append_assoc]; exact List.prefix_append _ _⟩⟩, hl2⟩
      · have hpn := hpf (by assumption)
        obtain ⟨m', rfl⟩ : ∃ m', m = m' + 1 := ⟨m - 1, by omega⟩
        have hk5 : k = 5 := by assumption
        have hpo : partsOf k n1 kids cells = [] := by simp only [partsOf, if_pos hk5]; rw [if_neg (by omega)]
        have hps : ∀ v ∈ ([] : List Vt), v.ok ∧ v.sz ≤ 1048576 := fun v hv => by cases hv
        have hpl : ([] : List Vt).length ≤ 1048576 := by simp
        rw [shw_succ hpn, ← hxi, hpo]
        have hS := fun R => say_S xh (hO3 R) hnq (by omega)
        repeat' (first
          | (with_reducible apply wSeq)
          | (with_reducible apply wReg)
          | (with_reducible apply wBlock)
          | (with_reducible apply thenNor)
          | (with_reducible apply thenRet)
          | (with_reducible apply thenExit)
          | (with_reducible apply blockNor)
          | (with_reducible apply blockExit)
          | (with_reducible apply blockRet)
          | (with_reducible apply oNil)
          | (with_reducible apply wExit)
          | (with_reducible apply wRet)
          | (with_reducible apply wSkip)
          | (with_reducible apply wRegT)
          | (with_reducible apply loopRet)
          | (with_reducible apply loopExit)
          | (with_reducible apply nT <;> dsimp only [List.cons_append, List.nil_append, putV, List.set])
          | (with_reducible apply nF <;> dsimp only [List.cons_append, List.nil_append, putV, List.set])
          | (with_reducible apply tT <;> dsimp only [List.cons_append, List.nil_append, putV, List.set])
          | (with_reducible apply tF <;> dsimp only [List.cons_append, List.nil_append, putV, List.set])
          | (with_reducible refine nB (zb fun hb => ?_) (zb fun hb => ?_) <;> dsimp only [List.cons_append, List.nil_append, putV, List.set])
          | (with_reducible apply nV <;> dsimp only [List.cons_append, List.nil_append, putV, List.set])
          | (with_reducible refine tB (zb fun hb => ?_) (zb fun hb => ?_) <;> dsimp only [List.cons_append, List.nil_append, putV, List.set])
          | (with_reducible apply tV <;> dsimp only [List.cons_append, List.nil_append, putV, List.set])
          | ((with_reducible apply blockOther); (focus (exact rfl)))
          | ((with_reducible apply wCondT); (focus (exact zg)))
          | ((with_reducible apply wCondF); (focus (exact zg)))
          | ((with_reducible apply oCall (h := hS _)); (focus (exact zr)); rintro _ _ ⟨b2, T2, rfl, rfl, hO2, hK2, ht2, hf2⟩)
          | ((with_reducible apply oCallG (h := hS _)); (focus (exact zg)); (focus (exact zr)); rintro _ _ ⟨b2, T2, rfl, rfl, hO2, hK2, ht2, hf2⟩)
          | ((with_reducible apply tCall (h := hS _)); (focus (exact zr)); rintro _ _ ⟨b2, T2, rfl, rfl, hO2, hK2, ht2, hf2⟩)
          | ((with_reducible apply tCallG (h := hS _)); (focus (exact zg)); (focus (exact zr)); rintro _ _ ⟨b2, T2, rfl, rfl, hO2, hK2, ht2, hf2⟩)
          | ((with_reducible apply oOp); (focus (exact zsf (And.intro @app_get0 (@app_get)))); (focus rfl))
          | ((with_reducible apply tOp); (focus (exact zsf (And.intro @app_get0 (@app_get)))); (focus rfl))
          | ((with_reducible apply tNil); (focus (exact zcf (And.intro @app_get0 (@app_get)))))
          | ((with_reducible apply endN); (focus (exact rfl)); (focus (exact zsf (And.intro @app_get0 (@app_get)))); (focus (exact zzf (And.intro @app_get0 (@app_get)))); (focus (exact zdf (And.intro @app_get0 (@app_get)))); (focus (exact ze)); dsimp only)
          | ((with_reducible apply endN'); (focus (exact rfl)); (focus (exact zsf (And.intro @app_get0 (@app_get)))); (focus (exact zzf (And.intro @app_get0 (@app_get)))); (focus (exact zdf (And.intro @app_get0 (@app_get)))); (focus (exact ze)); dsimp only)
          | ((with_reducible apply endI); (focus (exact zsf (And.intro @app_get0 (@app_get)))); (focus rfl))
          | (with_reducible exact isI rfl rfl))
        · have hb2 := hb
          clear hb
          have f0 := hK2.2.1 _ _ _ (show T.length ≠ q by omega) ((app_get0 T _).trans rfl)
          have f1 := hK2.2.1 _ _ _ (show T.length + 1 ≠ q by omega) ((app_get T _ 1).trans rfl)
          have f2 := hK2.2.1 _ _ _ (show T.length + 2 ≠ q by omega) ((app_get T _ 2).trans rfl)
          have f3 := hK2.2.1 _ _ _ (show T.length + 3 ≠ q by omega) ((app_get T _ 3).trans rfl)
          have e := parts_ok (ih m' rfl) (ps := []) (deep := deep) (by omega) (by omega) hO2 hnq (ht2 hb2) (show T.length ≠ q by omega) (show T.length + 3 ≠ q by omega) (show T.length + 1 ≠ q by omega) (show T.length + 2 ≠ q by omega) f0 f3 f1 f2 hps hpl hcs hcz
          repeat' (first
            | (with_reducible apply wSeq)
            | (with_reducible apply wReg)
            | (with_reducible apply wBlock)
            | (with_reducible apply thenNor)
            | (with_reducible apply thenRet)
            | (with_reducible apply thenExit)
            | (with_reducible apply blockNor)
            | (with_reducible apply blockExit)
            | (with_reducible apply blockRet)
            | (with_reducible apply oNil)
            | (with_reducible apply wExit)
            | (with_reducible apply wRet)
            | (with_reducible apply wSkip)
            | (with_reducible apply wRegT)
            | (with_reducible apply loopRet)
            | (with_reducible apply loopExit)
            | (with_reducible apply nT <;> dsimp only [List.cons_append, List.nil_append, putV, List.set])
            | (with_reducible apply nF <;> dsimp only [List.cons_append, List.nil_append, putV, List.set])
            | (with_reducible apply tT <;> dsimp only [List.cons_append, List.nil_append, putV, List.set])
            | (with_reducible apply tF <;> dsimp only [List.cons_append, List.nil_append, putV, List.set])
            | (with_reducible refine nB (zb fun hb => ?_) (zb fun hb => ?_) <;> dsimp only [List.cons_append, List.nil_append, putV, List.set])
            | (with_reducible apply nV <;> dsimp only [List.cons_append, List.nil_append, putV, List.set])
            | (with_reducible refine tB (zb fun hb => ?_) (zb fun hb => ?_) <;> dsimp only [List.cons_append, List.nil_append, putV, List.set])
            | (with_reducible apply tV <;> dsimp only [List.cons_append, List.nil_append, putV, List.set])
            | ((with_reducible apply blockOther); (focus (exact rfl)))
            | ((with_reducible apply wCondT); (focus (exact zg)))
            | ((with_reducible apply wCondF); (focus (exact zg)))
            | ((with_reducible apply oCall (h := e)); (focus (exact zr)); rintro _ _ ⟨b3, T3, r3, rfl, rfl, hO4, hK4, hS4, hL4⟩)
            | ((with_reducible apply oCallG (h := e)); (focus (exact zg)); (focus (exact zr)); rintro _ _ ⟨b3, T3, r3, rfl, rfl, hO4, hK4, hS4, hL4⟩)
            | ((with_reducible apply tCall (h := e)); (focus (exact zr)); rintro _ _ ⟨b3, T3, r3, rfl, rfl, hO4, hK4, hS4, hL4⟩)
            | ((with_reducible apply tCallG (h := e)); (focus (exact zg)); (focus (exact zr)); rintro _ _ ⟨b3, T3, r3, rfl, rfl, hO4, hK4, hS4, hL4⟩)
            | ((with_reducible apply oOp); (focus (exact zsf (And.intro @app_get0 (And.intro @app_get (And.intro @f0 (And.intro @f1 (And.intro @f2 (@f3)))))))); (focus rfl))
            | ((with_reducible apply tOp); (focus (exact zsf (And.intro @app_get0 (And.intro @app_get (And.intro @f0 (And.intro @f1 (And.intro @f2 (@f3)))))))); (focus rfl))
            | ((with_reducible apply tNil); (focus (exact zcf (And.intro @app_get0 (And.intro @app_get (And.intro @f0 (And.intro @f1 (And.intro @f2 (@f3)))))))))
            | ((with_reducible apply endN); (focus (exact rfl)); (focus (exact zsf (And.intro @app_get0 (And.intro @app_get (And.intro @f0 (And.intro @f1 (And.intro @f2 (@f3)))))))); (focus (exact zzf (And.intro @app_get0 (And.intro @app_get (And.intro @f0 (And.intro @f1 (And.intro @f2 (@f3)))))))); (focus (exact zdf (And.intro @app_get0 (And.intro @app_get (And.intro @f0 (And.intro @f1 (And.intro @f2 (@f3)))))))); (focus (exact ze)); dsimp only)
            | ((with_reducible apply endN'); (focus (exact rfl)); (focus (exact zsf (And.intro @app_get0 (And.intro @app_get (And.intro @f0 (And.intro @f1 (And.intro @f2 (@f3)))))))); (focus (exact zzf (And.intro @app_get0 (And.intro @app_get (And.intro @f0 (And.intro @f1 (And.intro @f2 (@f3)))))))); (focus (exact zdf (And.intro @app_get0 (And.intro @app_get (And.intro @f0 (And.intro @f1 (And.intro @f2 (@f3)))))))); (focus (exact ze)); dsimp only)
            | ((with_reducible apply endI); (focus (exact zsf (And.intro @app_get0 (And.intro @app_get (And.intro @f0 (And.intro @f1 (And.intro @f2 (@f3)))))))); (focus rfl))
            | (with_reducible exact isI rfl rfl))
          all_goals
            subst hb
            exact said_head ((hK3 _).trans hK2) ⟨_, T3, r3, rfl, rfl, hO4, hK4, hS4, hL4⟩
        · have hl2 : (l ++ strInts xh).length ≤ 2000000 := by rw [List.length_append, strInts_len]; omega
          exact ⟨false, T2, _, rfl, rfl, hO2, (hK3 _).trans hK2, ⟨(fun h => by cases h), fun _ => ⟨hf2 hb, by rw [← List.append_assoc]; exact List.prefix_append _ _⟩⟩, hl2⟩
      · have hpn := hpf (by assumption)
        obtain ⟨m', rfl⟩ : ∃ m', m = m' + 1 := ⟨m - 1, by omega⟩
        have hpo : partsOf k n1 kids cells = kids := by simp only [partsOf, if_neg hb]
        have hps : ∀ v ∈ kids, v.ok ∧ v.sz ≤ 1048576 := fun v hv => ⟨oks_mem hoks hv, by have := szs_mem hv; omega⟩
        have hpl : kids.length ≤ 1048576 := by omega
        rw [shw_succ hpn, ← hxi, hpo]
        have hS := fun R => say_S xh (hO3 R) hnq (by omega)
        repeat' (first
          | (with_reducible apply wSeq)
          | (with_reducible apply wReg)
          | (with_reducible apply wBlock)
          | (with_reducible apply thenNor)
          | (with_reducible apply thenRet)
          | (with_reducible apply thenExit)
          | (with_reducible apply blockNor)
          | (with_reducible apply blockExit)
          | (with_reducible apply blockRet)
          | (with_reducible apply oNil)
          | (with_reducible apply wExit)
          | (with_reducible apply wRet)
          | (with_reducible apply wSkip)
          | (with_reducible apply wRegT)
          | (with_reducible apply loopRet)
          | (with_reducible apply loopExit)
          | (with_reducible apply nT <;> dsimp only [List.cons_append, List.nil_append, putV, List.set])
          | (with_reducible apply nF <;> dsimp only [List.cons_append, List.nil_append, putV, List.set])
          | (with_reducible apply tT <;> dsimp only [List.cons_append, List.nil_append, putV, List.set])
          | (with_reducible apply tF <;> dsimp only [List.cons_append, List.nil_append, putV, List.set])
          | (with_reducible refine nB (zb fun hb => ?_) (zb fun hb => ?_) <;> dsimp only [List.cons_append, List.nil_append, putV, List.set])
          | (with_reducible apply nV <;> dsimp only [List.cons_append, List.nil_append, putV, List.set])
          | (with_reducible refine tB (zb fun hb => ?_) (zb fun hb => ?_) <;> dsimp only [List.cons_append, List.nil_append, putV, List.set])
          | (with_reducible apply tV <;> dsimp only [List.cons_append, List.nil_append, putV, List.set])
          | ((with_reducible apply blockOther); (focus (exact rfl)))
          | ((with_reducible apply wCondT); (focus (exact zg)))
          | ((with_reducible apply wCondF); (focus (exact zg)))
          | ((with_reducible apply oCall (h := hS _)); (focus (exact zr)); rintro _ _ ⟨b2, T2, rfl, rfl, hO2, hK2, ht2, hf2⟩)
          | ((with_reducible apply oCallG (h := hS _)); (focus (exact zg)); (focus (exact zr)); rintro _ _ ⟨b2, T2, rfl, rfl, hO2, hK2, ht2, hf2⟩)
          | ((with_reducible apply tCall (h := hS _)); (focus (exact zr)); rintro _ _ ⟨b2, T2, rfl, rfl, hO2, hK2, ht2, hf2⟩)
          | ((with_reducible apply tCallG (h := hS _)); (focus (exact zg)); (focus (exact zr)); rintro _ _ ⟨b2, T2, rfl, rfl, hO2, hK2, ht2, hf2⟩)
          | ((with_reducible apply oOp); (focus (exact zsf (And.intro @app_get0 (@app_get)))); (focus rfl))
          | ((with_reducible apply tOp); (focus (exact zsf (And.intro @app_get0 (@app_get)))); (focus rfl))
          | ((with_reducible apply tNil); (focus (exact zcf (And.intro @app_get0 (@app_get)))))
          | ((with_reducible apply endN); (focus (exact rfl)); (focus (exact zsf (And.intro @app_get0 (@app_get)))); (focus (exact zzf (And.intro @app_get0 (@app_get)))); (focus (exact zdf (And.intro @app_get0 (@app_get)))); (focus (exact ze)); dsimp only)
          | ((with_reducible apply endN'); (focus (exact rfl)); (focus (exact zsf (And.intro @app_get0 (@app_get)))); (focus (exact zzf (And.intro @app_get0 (@app_get)))); (focus (exact zdf (And.intro @app_get0 (@app_get)))); (focus (exact ze)); dsimp only)
          | ((with_reducible apply endI); (focus (exact zsf (And.intro @app_get0 (@app_get)))); (focus rfl))
          | (with_reducible exact isI rfl rfl))
        · have hb2 := hb
          clear hb
          have f0 := hK2.2.1 _ _ _ (show T.length ≠ q by omega) ((app_get0 T _).trans rfl)
          have f1 := hK2.2.1 _ _ _ (show T.length + 1 ≠ q by omega) ((app_get T _ 1).trans rfl)
          have f2 := hK2.2.1 _ _ _ (show T.length + 2 ≠ q by omega) ((app_get T _ 2).trans rfl)
          have f3 := hK2.2.1 _ _ _ (show T.length + 3 ≠ q by omega) ((app_get T _ 3).trans rfl)
          have e := parts_ok (ih m' rfl) (ps := kids) (deep := deep) (by omega) (by omega) hO2 hnq (ht2 hb2) (show T.length ≠ q by omega) (show T.length + 3 ≠ q by omega) (show T.length + 1 ≠ q by omega) (show T.length + 2 ≠ q by omega) f0 f3 f1 f2 hps hpl hcs hcz
          repeat' (first
            | (with_reducible apply wSeq)
            | (with_reducible apply wReg)
            | (with_reducible apply wBlock)
            | (with_reducible apply thenNor)
            | (with_reducible apply thenRet)
            | (with_reducible apply thenExit)
            | (with_reducible apply blockNor)
            | (with_reducible apply blockExit)
            | (with_reducible apply blockRet)
            | (with_reducible apply oNil)
            | (with_reducible apply wExit)
            | (with_reducible apply wRet)
            | (with_reducible apply wSkip)
            | (with_reducible apply wRegT)
            | (with_reducible apply loopRet)
            | (with_reducible apply loopExit)
            | (with_reducible apply nT <;> dsimp only [List.cons_append, List.nil_append, putV, List.set])
            | (with_reducible apply nF <;> dsimp only [List.cons_append, List.nil_append, putV, List.set])
            | (with_reducible apply tT <;> dsimp only [List.cons_append, List.nil_append, putV, List.set])
            | (with_reducible apply tF <;> dsimp only [List.cons_append, List.nil_append, putV, List.set])
            | (with_reducible refine nB (zb fun hb => ?_) (zb fun hb => ?_) <;> dsimp only [List.cons_append, List.nil_append, putV, List.set])
            | (with_reducible apply nV <;> dsimp only [List.cons_append, List.nil_append, putV, List.set])
            | (with_reducible refine tB (zb fun hb => ?_) (zb fun hb => ?_) <;> dsimp only [List.cons_append, List.nil_append, putV, List.set])
            | (with_reducible apply tV <;> dsimp only [List.cons_append, List.nil_append, putV, List.set])
            | ((with_reducible apply blockOther); (focus (exact rfl)))
            | ((with_reducible apply wCondT); (focus (exact zg)))
            | ((with_reducible apply wCondF); (focus (exact zg)))
            | ((with_reducible apply oCall (h := e)); (focus (exact zr)); rintro _ _ ⟨b3, T3, r3, rfl, rfl, hO4, hK4, hS4, hL4⟩)
            | ((with_reducible apply oCallG (h := e)); (focus (exact zg)); (focus (exact zr)); rintro _ _ ⟨b3, T3, r3, rfl, rfl, hO4, hK4, hS4, hL4⟩)
            | ((with_reducible apply tCall (h := e)); (focus (exact zr)); rintro _ _ ⟨b3, T3, r3, rfl, rfl, hO4, hK4, hS4, hL4⟩)
            | ((with_reducible apply tCallG (h := e)); (focus (exact zg)); (focus (exact zr)); rintro _ _ ⟨b3, T3, r3, rfl, rfl, hO4, hK4, hS4, hL4⟩)
            | ((with_reducible apply oOp); (focus (exact zsf (And.intro @app_get0 (And.intro @app_get (And.intro @f0 (And.intro @f1 (And.intro @f2 (@f3)))))))); (focus rfl))
            | ((with_reducible apply tOp); (focus (exact zsf (And.intro @app_get0 (And.intro @app_get (And.intro @f0 (And.intro @f1 (And.intro @f2 (@f3)))))))); (focus rfl))
            | ((with_reducible apply tNil); (focus (exact zcf (And.intro @app_get0 (And.intro @app_get (And.intro @f0 (And.intro @f1 (And.intro @f2 (@f3)))))))))
            | ((with_reducible apply endN); (focus (exact rfl)); (focus (exact zsf (And.intro @app_get0 (And.intro @app_get (And.intro @f0 (And.intro @f1 (And.intro @f2 (@f3)))))))); (focus (exact zzf (And.intro @app_get0 (And.intro @app_get (And.intro @f0 (And.intro @f1 (And.intro @f2 (@f3)))))))); (focus (exact zdf (And.intro @app_get0 (And.intro @app_get (And.intro @f0 (And.intro @f1 (And.intro @f2 (@f3)))))))); (focus (exact ze)); dsimp only)
            | ((with_reducible apply endN'); (focus (exact rfl)); (focus (exact zsf (And.intro @app_get0 (And.intro @app_get (And.intro @f0 (And.intro @f1 (And.intro @f2 (@f3)))))))); (focus (exact zzf (And.intro @app_get0 (And.intro @app_get (And.intro @f0 (And.intro @f1 (And.intro @f2 (@f3)))))))); (focus (exact zdf (And.intro @app_get0 (And.intro @app_get (And.intro @f0 (And.intro @f1 (And.intro @f2 (@f3)))))))); (focus (exact ze)); dsimp only)
            | ((with_reducible apply endI); (focus (exact zsf (And.intro @app_get0 (And.intro @app_get (And.intro @f0 (And.intro @f1 (And.intro @f2 (@f3)))))))); (focus rfl))
            | (with_reducible exact isI rfl rfl))
          all_goals
            subst hb
            exact said_head ((hK3 _).trans hK2) ⟨_, T3, r3, rfl, rfl, hO4, hK4, hS4, hL4⟩
        · have hl2 : (l ++ strInts xh).length ≤ 2000000 := by rw [List.length_append, strInts_len]; omega
          exact ⟨false, T2, _, rfl, rfl, hO2, (hK3 _).trans hK2, ⟨(fun h => by cases h), fun _ => ⟨hf2 hb, by rw [← List.append_assoc]; exact List.prefix_append _ _⟩⟩, hl2⟩
    · refine funZ rfl (zsf (And.intro @app_get (And.intro @app_get0 (And.intro @app_set (And.intro (@List.append_assoc Ae.Obj) (And.intro @Nat.add_assoc (@within_ok))))))) zt ?_
      repeat' (first
        | (with_reducible apply wSeq)
        | (with_reducible apply wReg)
        | (with_reducible apply wBlock)
        | (with_reducible apply thenNor)
        | (with_reducible apply thenRet)
        | (with_reducible apply thenExit)
        | (with_reducible apply blockNor)
        | (with_reducible apply blockExit)
        | (with_reducible apply blockRet)
        | (with_reducible apply oNil)
        | (with_reducible apply wExit)
        | (with_reducible apply wRet)
        | (with_reducible apply wSkip)
        | (with_reducible apply wRegT)
        | (with_reducible apply loopRet)
        | (with_reducible apply loopExit)
        | (with_reducible apply nT <;> dsimp only [List.cons_append, List.nil_append, putV, List.set])
        | (with_reducible apply nF <;> dsimp only [List.cons_append, List.nil_append, putV, List.set])
        | (with_reducible apply tT <;> dsimp only [List.cons_append, List.nil_append, putV, List.set])
        | (with_reducible apply tF <;> dsimp only [List.cons_append, List.nil_append, putV, List.set])
        | (with_reducible refine nB (zb fun hb => ?_) (zb fun hb => ?_) <;> dsimp only [List.cons_append, List.nil_append, putV, List.set])
        | (with_reducible apply nV <;> dsimp only [List.cons_append, List.nil_append, putV, List.set])
        | (with_reducible refine tB (zb fun hb => ?_) (zb fun hb => ?_) <;> dsimp only [List.cons_append, List.nil_append, putV, List.set])
        | (with_reducible apply tV <;> dsimp only [List.cons_append, List.nil_append, putV, List.set])
        | ((with_reducible apply blockOther); (focus (exact rfl)))
        | ((with_reducible apply wCondT); (focus (exact zg)))
        | ((with_reducible apply wCondF); (focus (exact zg)))
        | ((with_reducible apply oCall (h := hP _)); (focus (exact zr)); rintro _ _ ⟨x, bp, rfl, rfl, hx, hpt, hpf⟩)
        | ((with_reducible apply oCallG (h := hP _)); (focus (exact zg)); (focus (exact zr)); rintro _ _ ⟨x, bp, rfl, rfl, hx, hpt, hpf⟩)
        | ((with_reducible apply tCall (h := hP _)); (focus (exact zr)); rintro _ _ ⟨x, bp, rfl, rfl, hx, hpt, hpf⟩)
        | ((with_reducible apply tCallG (h := hP _)); (focus (exact zg)); (focus (exact zr)); rintro _ _ ⟨x, bp, rfl, rfl, hx, hpt, hpf⟩)
        | ((with_reducible apply oCall (h := hH _)); (focus (exact zr)); rintro _ _ ⟨xh, rfl, rfl, hxs, hxi⟩)
        | ((with_reducible apply oCallG (h := hH _)); (focus (exact zg)); (focus (exact zr)); rintro _ _ ⟨xh, rfl, rfl, hxs, hxi⟩)
        | ((with_reducible apply tCall (h := hH _)); (focus (exact zr)); rintro _ _ ⟨xh, rfl, rfl, hxs, hxi⟩)
        | ((with_reducible apply tCallG (h := hH _)); (focus (exact zg)); (focus (exact zr)); rintro _ _ ⟨xh, rfl, rfl, hxs, hxi⟩)
        | ((with_reducible apply oOp); (focus (exact zsf (And.intro @app_get (And.intro @app_get0 (And.intro @app_set (And.intro (@List.append_assoc Ae.Obj) (And.intro @Nat.add_assoc (@within_ok)))))))); (focus rfl))
        | ((with_reducible apply tOp); (focus (exact zsf (And.intro @app_get (And.intro @app_get0 (And.intro @app_set (And.intro (@List.append_assoc Ae.Obj) (And.intro @Nat.add_assoc (@within_ok)))))))); (focus rfl))
        | ((with_reducible apply tNil); (focus (exact zcf (And.intro @app_get (And.intro @app_get0 (And.intro @app_set (And.intro (@List.append_assoc Ae.Obj) (And.intro @Nat.add_assoc (@within_ok)))))))))
        | ((with_reducible apply endN); (focus (exact rfl)); (focus (exact zsf (And.intro @app_get (And.intro @app_get0 (And.intro @app_set (And.intro (@List.append_assoc Ae.Obj) (And.intro @Nat.add_assoc (@within_ok)))))))); (focus (exact zzf (And.intro @app_get (And.intro @app_get0 (And.intro @app_set (And.intro (@List.append_assoc Ae.Obj) (And.intro @Nat.add_assoc (@within_ok)))))))); (focus (exact zdf (And.intro @app_get (And.intro @app_get0 (And.intro @app_set (And.intro (@List.append_assoc Ae.Obj) (And.intro @Nat.add_assoc (@within_ok)))))))); (focus (exact ze)); dsimp only)
        | ((with_reducible apply endN'); (focus (exact rfl)); (focus (exact zsf (And.intro @app_get (And.intro @app_get0 (And.intro @app_set (And.intro (@List.append_assoc Ae.Obj) (And.intro @Nat.add_assoc (@within_ok)))))))); (focus (exact zzf (And.intro @app_get (And.intro @app_get0 (And.intro @app_set (And.intro (@List.append_assoc Ae.Obj) (And.intro @Nat.add_assoc (@within_ok)))))))); (focus (exact zdf (And.intro @app_get (And.intro @app_get0 (And.intro @app_set (And.intro (@List.append_assoc Ae.Obj) (And.intro @Nat.add_assoc (@within_ok)))))))); (focus (exact ze)); dsimp only)
        | ((with_reducible apply endI); (focus (exact zsf (And.intro @app_get (And.intro @app_get0 (And.intro @app_set (And.intro (@List.append_assoc Ae.Obj) (And.intro @Nat.add_assoc (@within_ok)))))))); (focus rfl))
        | (with_reducible exact isI rfl rfl))
      · have hS := fun R => say_S x (hO3 R) hnq (by omega)
        rw [shw_plain (hpt hb)]
        clear hb
        repeat' (first
          | (with_reducible apply wSeq)
          | (with_reducible apply wReg)
          | (with_reducible apply wBlock)
          | (with_reducible apply thenNor)
          | (with_reducible apply thenRet)
          | (with_reducible apply thenExit)
          | (with_reducible apply blockNor)
          | (with_reducible apply blockExit)
          | (with_reducible apply blockRet)
          | (with_reducible apply oNil)
          | (with_reducible apply wExit)
          | (with_reducible apply wRet)
          | (with_reducible apply wSkip)
          | (with_reducible apply wRegT)
          | (with_reducible apply loopRet)
          | (with_reducible apply loopExit)
          | (with_reducible apply nT <;> dsimp only [List.cons_append, List.nil_append, putV, List.set])
          | (with_reducible apply nF <;> dsimp only [List.cons_append, List.nil_append, putV, List.set])
          | (with_reducible apply tT <;> dsimp only [List.cons_append, List.nil_append, putV, List.set])
          | (with_reducible apply tF <;> dsimp only [List.cons_append, List.nil_append, putV, List.set])
          | (with_reducible refine nB (zb fun hb => ?_) (zb fun hb => ?_) <;> dsimp only [List.cons_append, List.nil_append, putV, List.set])
          | (with_reducible apply nV <;> dsimp only [List.cons_append, List.nil_append, putV, List.set])
          | (with_reducible refine tB (zb fun hb => ?_) (zb fun hb => ?_) <;> dsimp only [List.cons_append, List.nil_append, putV, List.set])
          | (with_reducible apply tV <;> dsimp only [List.cons_append, List.nil_append, putV, List.set])
          | ((with_reducible apply blockOther); (focus (exact rfl)))
          | ((with_reducible apply wCondT); (focus (exact zg)))
          | ((with_reducible apply wCondF); (focus (exact zg)))
          | ((with_reducible apply oCall (h := hS _)); (focus (exact zr)); rintro _ _ ⟨b2, T2, rfl, rfl, hO2, hK2, ht2, hf2⟩)
          | ((with_reducible apply oCallG (h := hS _)); (focus (exact zg)); (focus (exact zr)); rintro _ _ ⟨b2, T2, rfl, rfl, hO2, hK2, ht2, hf2⟩)
          | ((with_reducible apply tCall (h := hS _)); (focus (exact zr)); rintro _ _ ⟨b2, T2, rfl, rfl, hO2, hK2, ht2, hf2⟩)
          | ((with_reducible apply tCallG (h := hS _)); (focus (exact zg)); (focus (exact zr)); rintro _ _ ⟨b2, T2, rfl, rfl, hO2, hK2, ht2, hf2⟩)
          | ((with_reducible apply oOp); (focus (exact zs)); (focus rfl))
          | ((with_reducible apply tOp); (focus (exact zs)); (focus rfl))
          | ((with_reducible apply tNil); (focus (exact zc)))
          | ((with_reducible apply endN); (focus (exact rfl)); (focus (exact zs)); (focus (exact zz)); (focus (exact zd)); (focus (exact ze)); dsimp only)
          | ((with_reducible apply endN'); (focus (exact rfl)); (focus (exact zs)); (focus (exact zz)); (focus (exact zd)); (focus (exact ze)); dsimp only)
          | ((with_reducible apply endI); (focus (exact zs)); (focus rfl))
          | (with_reducible exact isI rfl rfl))
        all_goals
          have hl2 : (l ++ strInts x).length ≤ 2000000 := by rw [List.length_append, strInts_len]; omega
          refine ⟨_, T2, _, rfl, rfl, hO2, (hK3 _).trans hK2, ⟨fun h => ⟨rfl, ?_⟩, fun h => ⟨?_, List.prefix_refl _⟩⟩, hl2⟩
          · first | exact ht2 hb | cases h
          · first | exact hf2 hb | cases h
      · have hpn := hpf (by assumption)
        have hS := fun R => say_S ⟨#[46, 46]⟩ (hO3 R) hnq (by have : (⟨#[46, 46]⟩ : ByteArray).size = 2 := rfl; omega)
        obtain rfl : m = 0 := by omega
        rw [shw_zero hpn]
        clear hb
        repeat' (first
          | (with_reducible apply wSeq)
          | (with_reducible apply wReg)
          | (with_reducible apply wBlock)
          | (with_reducible apply thenNor)
          | (with_reducible apply thenRet)
          | (with_reducible apply thenExit)
          | (with_reducible apply blockNor)
          | (with_reducible apply blockExit)
          | (with_reducible apply blockRet)
          | (with_reducible apply oNil)
          | (with_reducible apply wExit)
          | (with_reducible apply wRet)
          | (with_reducible apply wSkip)
          | (with_reducible apply wRegT)
          | (with_reducible apply loopRet)
          | (with_reducible apply loopExit)
          | (with_reducible apply nT <;> dsimp only [List.cons_append, List.nil_append, putV, List.set])
          | (with_reducible apply nF <;> dsimp only [List.cons_append, List.nil_append, putV, List.set])
          | (with_reducible apply tT <;> dsimp only [List.cons_append, List.nil_append, putV, List.set])
          | (with_reducible apply tF <;> dsimp only [List.cons_append, List.nil_append, putV, List.set])
          | (with_reducible refine nB (zb fun hb => ?_) (zb fun hb => ?_) <;> dsimp only [List.cons_append, List.nil_append, putV, List.set])
          | (with_reducible apply nV <;> dsimp only [List.cons_append, List.nil_append, putV, List.set])
          | (with_reducible refine tB (zb fun hb => ?_) (zb fun hb => ?_) <;> dsimp only [List.cons_append, List.nil_append, putV, List.set])
          | (with_reducible apply tV <;> dsimp only [List.cons_append, List.nil_append, putV, List.set])
          | ((with_reducible apply blockOther); (focus (exact rfl)))
          | ((with_reducible apply wCondT); (focus (exact zg)))
          | ((with_reducible apply wCondF); (focus (exact zg)))
          | ((with_reducible apply oCall (h := hS _)); (focus (exact zr)); rintro _ _ ⟨b2, T2, rfl, rfl, hO2, hK2, ht2, hf2⟩)
          | ((with_reducible apply oCallG (h := hS _)); (focus (exact zg)); (focus (exact zr)); rintro _ _ ⟨b2, T2, rfl, rfl, hO2, hK2, ht2, hf2⟩)
          | ((with_reducible apply tCall (h := hS _)); (focus (exact zr)); rintro _ _ ⟨b2, T2, rfl, rfl, hO2, hK2, ht2, hf2⟩)
          | ((with_reducible apply tCallG (h := hS _)); (focus (exact zg)); (focus (exact zr)); rintro _ _ ⟨b2, T2, rfl, rfl, hO2, hK2, ht2, hf2⟩)
          | ((with_reducible apply oOp); (focus (exact zs)); (focus rfl))
          | ((with_reducible apply tOp); (focus (exact zs)); (focus rfl))
          | ((with_reducible apply tNil); (focus (exact zc)))
          | ((with_reducible apply endN); (focus (exact rfl)); (focus (exact zs)); (focus (exact zz)); (focus (exact zd)); (focus (exact ze)); dsimp only)
          | ((with_reducible apply endN'); (focus (exact rfl)); (focus (exact zs)); (focus (exact zz)); (focus (exact zd)); (focus (exact ze)); dsimp only)
          | ((with_reducible apply endI); (focus (exact zs)); (focus rfl))
          | (with_reducible exact isI rfl rfl))
        all_goals
          have hl2 : (l ++ strInts ⟨#[46, 46]⟩).length ≤ 2000000 := by rw [List.length_append, strInts_len]; have : (⟨#[46, 46]⟩ : ByteArray).size = 2 := rfl; omega
          refine ⟨_, T2, _, rfl, rfl, hO2, (hK3 _).trans hK2, ⟨fun h => ⟨rfl, ?_⟩, fun h => ⟨?_, List.prefix_refl _⟩⟩, hl2⟩
          · first | exact ht2 hb | cases h
          · first | exact hf2 hb | cases h
      · have hpn := hpf (by assumption)
        obtain ⟨m', rfl⟩ : ∃ m', m = m' + 1 := ⟨m - 1, by omega⟩
        have hk5 : k = 5 := by assumption
        have hlt0 : n1.toNat < cells.length := by omega
        have hpo : partsOf k n1 kids cells = [cells[n1.toNat]] := by
          simp only [partsOf, if_pos hk5]
          rw [if_pos (by omega), List.drop_eq_getElem_cons hlt0]
          rfl
        have hxm : cells[n1.toNat] ∈ cells := List.getElem_mem hlt0
        have hps : ∀ v ∈ [cells[n1.toNat]], v.ok ∧ v.sz ≤ 1048576 := fun v hv => by
          simp only [List.mem_singleton] at hv
          subst hv
          exact ⟨oks_mem hcs hxm, by have := szs_mem hxm; omega⟩
        have hpl : ([cells[n1.toNat]] : List Vt).length ≤ 1048576 := by simp
        have hsl : AV.imm false (n1 + 1 - n1).toNat (((azs cells).drop (n1.toNat * 4)).take ((n1 + 1 - n1).toNat * 4)) = .imm false ([cells[n1.toNat]] : List Vt).length (azs [cells[n1.toNat]]) := by
          have h1 : (n1 + 1 - n1).toNat = 1 := by omega
          have h2 := (azs_at hlt0).2
          rw [h1, Nat.one_mul, h2]
          simp [azs]
        rw [shw_succ hpn, ← hxi, hpo]
        have hS := fun R => say_S xh (hO3 R) hnq (by omega)
        repeat' (first
          | (with_reducible apply wSeq)
          | (with_reducible apply wReg)
          | (with_reducible apply wBlock)
          | (with_reducible apply thenNor)
          | (with_reducible apply thenRet)
          | (with_reducible apply thenExit)
          | (with_reducible apply blockNor)
          | (with_reducible apply blockExit)
          | (with_reducible apply blockRet)
          | (with_reducible apply oNil)
          | (with_reducible apply wExit)
          | (with_reducible apply wRet)
          | (with_reducible apply wSkip)
          | (with_reducible apply wRegT)
          | (with_reducible apply loopRet)
          | (with_reducible apply loopExit)
          | (with_reducible apply nT <;> dsimp only [List.cons_append, List.nil_append, putV, List.set])
          | (with_reducible apply nF <;> dsimp only [List.cons_append, List.nil_append, putV, List.set])
          | (with_reducible apply tT <;> dsimp only [List.cons_append, List.nil_append, putV, List.set])
          | (with_reducible apply tF <;> dsimp only [List.cons_append, List.nil_append, putV, List.set])
          | (with_reducible refine nB (zb fun hb => ?_) (zb fun hb => ?_) <;> dsimp only [List.cons_append, List.nil_append, putV, List.set])
          | (with_reducible apply nV <;> dsimp only [List.cons_append, List.nil_append, putV, List.set])
          | (with_reducible refine tB (zb fun hb => ?_) (zb fun hb => ?_) <;> dsimp only [List.cons_append, List.nil_append, putV, List.set])
          | (with_reducible apply tV <;> dsimp only [List.cons_append, List.nil_append, putV, List.set])
          | ((with_reducible apply blockOther); (focus (exact rfl)))
          | ((with_reducible apply wCondT); (focus (exact zg)))
          | ((with_reducible apply wCondF); (focus (exact zg)))
          | ((with_reducible apply oCall (h := hS _)); (focus (exact zr)); rintro _ _ ⟨b2, T2, rfl, rfl, hO2, hK2, ht2, hf2⟩)
          | ((with_reducible apply oCallG (h := hS _)); (focus (exact zg)); (focus (exact zr)); rintro _ _ ⟨b2, T2, rfl, rfl, hO2, hK2, ht2, hf2⟩)
          | ((with_reducible apply tCall (h := hS _)); (focus (exact zr)); rintro _ _ ⟨b2, T2, rfl, rfl, hO2, hK2, ht2, hf2⟩)
          | ((with_reducible apply tCallG (h := hS _)); (focus (exact zg)); (focus (exact zr)); rintro _ _ ⟨b2, T2, rfl, rfl, hO2, hK2, ht2, hf2⟩)
          | ((with_reducible apply oOp); (focus (exact zsf (And.intro @app_get0 (@app_get)))); (focus rfl))
          | ((with_reducible apply tOp); (focus (exact zsf (And.intro @app_get0 (@app_get)))); (focus rfl))
          | ((with_reducible apply tNil); (focus (exact zcf (And.intro @app_get0 (@app_get)))))
          | ((with_reducible apply endN); (focus (exact rfl)); (focus (exact zsf (And.intro @app_get0 (@app_get)))); (focus (exact zzf (And.intro @app_get0 (@app_get)))); (focus (exact zdf (And.intro @app_get0 (@app_get)))); (focus (exact ze)); dsimp only)
          | ((with_reducible apply endN'); (focus (exact rfl)); (focus (exact zsf (And.intro @app_get0 (@app_get)))); (focus (exact zzf (And.intro @app_get0 (@app_get)))); (focus (exact zdf (And.intro @app_get0 (@app_get)))); (focus (exact ze)); dsimp only)
          | ((with_reducible apply endI); (focus (exact zsf (And.intro @app_get0 (@app_get)))); (focus rfl))
          | (with_reducible exact isI rfl rfl))
        · have hb2 := hb
          clear hb
          have f0 := hK2.2.1 _ _ _ (show T.length ≠ q by omega) ((app_get0 T _).trans rfl)
          have f1 := hK2.2.1 _ _ _ (show T.length + 1 ≠ q by omega) ((app_get T _ 1).trans rfl)
          have f2 := hK2.2.1 _ _ _ (show T.length + 2 ≠ q by omega) ((app_get T _ 2).trans rfl)
          have f3 := hK2.2.1 _ _ _ (show T.length + 3 ≠ q by omega) ((app_get T _ 3).trans rfl)
          rw [hsl] at f3
          have e := parts_ok (ih m' rfl) (ps := [cells[n1.toNat]'(by omega)]) (deep := deep) (by omega) (by omega) hO2 hnq (ht2 hb2) (show T.length ≠ q by omega) (show T.length + 3 ≠ q by omega) (show T.length + 1 ≠ q by omega) (show T.length + 2 ≠ q by omega) f0 f3 f1 f2 hps hpl hcs hcz
          repeat' (first
            | (with_reducible apply wSeq)
            | (with_reducible apply wReg)
            | (with_reducible apply wBlock)
            | (with_reducible apply thenNor)
            | (with_reducible apply thenRet)
            | (with_reducible apply thenExit)
            | (with_reducible apply blockNor)
            | (with_reducible apply blockExit)
            | (with_reducible apply blockRet)
            | (with_reducible apply oNil)
            | (with_reducible apply wExit)
            | (with_reducible apply wRet)
            | (with_reducible apply wSkip)
            | (with_reducible apply wRegT)
            | (with_reducible apply loopRet)
            | (with_reducible apply loopExit)
            | (with_reducible apply nT <;> dsimp only [List.cons_append, List.nil_append, putV, List.set])
            | (with_reducible apply nF <;> dsimp only [List.cons_append, List.nil_append, putV, List.set])
            | (with_reducible apply tT <;> dsimp only [List.cons_append, List.nil_append, putV, List.set])
            | (with_reducible apply tF <;> dsimp only [List.cons_append, List.nil_append, putV, List.set])
            | (with_reducible refine nB (zb fun hb => ?_) (zb fun hb => ?_) <;> dsimp only [List.cons_append, List.nil_append, putV, List.set])
            | (with_reducible apply nV <;> dsimp only [List.cons_append, List.nil_append, putV, List.set])
            | (with_reducible refine tB (zb fun hb => ?_) (zb fun hb => ?_) <;> dsimp only [List.cons_append, List.nil_append, putV, List.set])
            | (with_reducible apply tV <;> dsimp only [List.cons_append, List.nil_append, putV, List.set])
            | ((with_reducible apply blockOther); (focus (exact rfl)))
            | ((with_reducible apply wCondT); (focus (exact zg)))
            | ((with_reducible apply wCondF); (focus (exact zg)))
            | ((with_reducible apply oCall (h := e)); (focus (exact zr)); rintro _ _ ⟨b3, T3, r3, rfl, rfl, hO4, hK4, hS4, hL4⟩)
            | ((with_reducible apply oCallG (h := e)); (focus (exact zg)); (focus (exact zr)); rintro _ _ ⟨b3, T3, r3, rfl, rfl, hO4, hK4, hS4, hL4⟩)
            | ((with_reducible apply tCall (h := e)); (focus (exact zr)); rintro _ _ ⟨b3, T3, r3, rfl, rfl, hO4, hK4, hS4, hL4⟩)
            | ((with_reducible apply tCallG (h := e)); (focus (exact zg)); (focus (exact zr)); rintro _ _ ⟨b3, T3, r3, rfl, rfl, hO4, hK4, hS4, hL4⟩)
            | ((with_reducible apply oOp); (focus (exact zsf (And.intro @app_get0 (And.intro @app_get (And.intro @f0 (And.intro @f1 (And.intro @f2 (@f3)))))))); (focus rfl))
            | ((with_reducible apply tOp); (focus (exact zsf (And.intro @app_get0 (And.intro @app_get (And.intro @f0 (And.intro @f1 (And.intro @f2 (@f3)))))))); (focus rfl))
            | ((with_reducible apply tNil); (focus (exact zcf (And.intro @app_get0 (And.intro @app_get (And.intro @f0 (And.intro @f1 (And.intro @f2 (@f3)))))))))
            | ((with_reducible apply endN); (focus (exact rfl)); (focus (exact zsf (And.intro @app_get0 (And.intro @app_get (And.intro @f0 (And.intro @f1 (And.intro @f2 (@f3)))))))); (focus (exact zzf (And.intro @app_get0 (And.intro @app_get (And.intro @f0 (And.intro @f1 (And.intro @f2 (@f3)))))))); (focus (exact zdf (And.intro @app_get0 (And.intro @app_get (And.intro @f0 (And.intro @f1 (And.intro @f2 (@f3)))))))); (focus (exact ze)); dsimp only)
            | ((with_reducible apply endN'); (focus (exact rfl)); (focus (exact zsf (And.intro @app_get0 (And.intro @app_get (And.intro @f0 (And.intro @f1 (And.intro @f2 (@f3)))))))); (focus (exact zzf (And.intro @app_get0 (And.intro @app_get (And.intro @f0 (And.intro @f1 (And.intro @f2 (@f3)))))))); (focus (exact zdf (And.intro @app_get0 (And.intro @app_get (And.intro @f0 (And.intro @f1 (And.intro @f2 (@f3)))))))); (focus (exact ze)); dsimp only)
            | ((with_reducible apply endI); (focus (exact zsf (And.intro @app_get0 (And.intro @app_get (And.intro @f0 (And.intro @f1 (And.intro @f2 (@f3)))))))); (focus rfl))
            | (with_reducible exact isI rfl rfl))
          all_goals
            subst hb
            exact said_head ((hK3 _).trans hK2) ⟨_, T3, r3, rfl, rfl, hO4, hK4, hS4, hL4⟩
        · have hl2 : (l ++ strInts xh).length ≤ 2000000 := by rw [List.length_append, strInts_len]; omega
          exact ⟨false, T2, _, rfl, rfl, hO2, (hK3 _).trans hK2, ⟨(fun h => by cases h), fun _ => ⟨hf2 hb, by rw [← List.append_assoc]; exact List.prefix_append _ _⟩⟩, hl2⟩
      · have hpn := hpf (by assumption)
        obtain ⟨m', rfl⟩ : ∃ m', m = m' + 1 := ⟨m - 1, by omega⟩
        have hk5 : k = 5 := by assumption
        have hpo : partsOf k n1 kids cells = [] := by simp only [partsOf, if_pos hk5]; rw [if_neg (by omega)]
        have hps : ∀ v ∈ ([] : List Vt), v.ok ∧ v.sz ≤ 1048576 := fun v hv => by cases hv
        have hpl : ([] : List Vt).length ≤ 1048576 := by simp
        rw [shw_succ hpn, ← hxi, hpo]
        have hS := fun R => say_S xh (hO3 R) hnq (by omega)
        repeat' (first
          | (with_reducible apply wSeq)
          | (with_reducible apply wReg)
          | (with_reducible apply wBlock)
          | (with_reducible apply thenNor)
          | (with_reducible apply thenRet)
          | (with_reducible apply thenExit)
          | (with_reducible apply blockNor)
          | (with_reducible apply blockExit)
          | (with_reducible apply blockRet)
          | (with_reducible apply oNil)
          | (with_reducible apply wExit)
          | (with_reducible apply wRet)
          | (with_reducible apply wSkip)
          | (with_reducible apply wRegT)
          | (with_reducible apply loopRet)
          | (with_reducible apply loopExit)
          | (with_reducible apply nT <;> dsimp only [List.cons_append, List.nil_append, putV, List.set])
          | (with_reducible apply nF <;> dsimp only [List.cons_append, List.nil_append, putV, List.set])
          | (with_reducible apply tT <;> dsimp only [List.cons_append, List.nil_append, putV, List.set])
          | (with_reducible apply tF <;> dsimp only [List.cons_append, List.nil_append, putV, List.set])
          | (with_reducible refine nB (zb fun hb => ?_) (zb fun hb => ?_) <;> dsimp only [List.cons_append, List.nil_append, putV, List.set])
          | (with_reducible apply nV <;> dsimp only [List.cons_append, List.nil_append, putV, List.set])
          | (with_reducible refine tB (zb fun hb => ?_) (zb fun hb => ?_) <;> dsimp only [List.cons_append, List.nil_append, putV, List.set])
          | (with_reducible apply tV <;> dsimp only [List.cons_append, List.nil_append, putV, List.set])
          | ((with_reducible apply blockOther); (focus (exact rfl)))
          | ((with_reducible apply wCondT); (focus (exact zg)))
          | ((with_reducible apply wCondF); (focus (exact zg)))
          | ((with_reducible apply oCall (h := hS _)); (focus (exact zr)); rintro _ _ ⟨b2, T2, rfl, rfl, hO2, hK2, ht2, hf2⟩)
          | ((with_reducible apply oCallG (h := hS _)); (focus (exact zg)); (focus (exact zr)); rintro _ _ ⟨b2, T2, rfl, rfl, hO2, hK2, ht2, hf2⟩)
          | ((with_reducible apply tCall (h := hS _)); (focus (exact zr)); rintro _ _ ⟨b2, T2, rfl, rfl, hO2, hK2, ht2, hf2⟩)
          | ((with_reducible apply tCallG (h := hS _)); (focus (exact zg)); (focus (exact zr)); rintro _ _ ⟨b2, T2, rfl, rfl, hO2, hK2, ht2, hf2⟩)
          | ((with_reducible apply oOp); (focus (exact zsf (And.intro @app_get0 (@app_get)))); (focus rfl))
          | ((with_reducible apply tOp); (focus (exact zsf (And.intro @app_get0 (@app_get)))); (focus rfl))
          | ((with_reducible apply tNil); (focus (exact zcf (And.intro @app_get0 (@app_get)))))
          | ((with_reducible apply endN); (focus (exact rfl)); (focus (exact zsf (And.intro @app_get0 (@app_get)))); (focus (exact zzf (And.intro @app_get0 (@app_get)))); (focus (exact zdf (And.intro @app_get0 (@app_get)))); (focus (exact ze)); dsimp only)
          | ((with_reducible apply endN'); (focus (exact rfl)); (focus (exact zsf (And.intro @app_get0 (@app_get)))); (focus (exact zzf (And.intro @app_get0 (@app_get)))); (focus (exact zdf (And.intro @app_get0 (@app_get)))); (focus (exact ze)); dsimp only)
          | ((with_reducible apply endI); (focus (exact zsf (And.intro @app_get0 (@app_get)))); (focus rfl))
          | (with_reducible exact isI rfl rfl))
        · have hb2 := hb
          clear hb
          have f0 := hK2.2.1 _ _ _ (show T.length ≠ q by omega) ((app_get0 T _).trans rfl)
          have f1 := hK2.2.1 _ _ _ (show T.length + 1 ≠ q by omega) ((app_get T _ 1).trans rfl)
          have f2 := hK2.2.1 _ _ _ (show T.length + 2 ≠ q by omega) ((app_get T _ 2).trans rfl)
          have f3 := hK2.2.1 _ _ _ (show T.length + 3 ≠ q by omega) ((app_get T _ 3).trans rfl)
          have e := parts_ok (ih m' rfl) (ps := []) (deep := deep) (by omega) (by omega) hO2 hnq (ht2 hb2) (show T.length ≠ q by omega) (show T.length + 3 ≠ q by omega) (show T.length + 1 ≠ q by omega) (show T.length + 2 ≠ q by omega) f0 f3 f1 f2 hps hpl hcs hcz
          repeat' (first
            | (with_reducible apply wSeq)
            | (with_reducible apply wReg)
            | (with_reducible apply wBlock)
            | (with_reducible apply thenNor)
            | (with_reducible apply thenRet)
            | (with_reducible apply thenExit)
            | (with_reducible apply blockNor)
            | (with_reducible apply blockExit)
            | (with_reducible apply blockRet)
            | (with_reducible apply oNil)
            | (with_reducible apply wExit)
            | (with_reducible apply wRet)
            | (with_reducible apply wSkip)
            | (with_reducible apply wRegT)
            | (with_reducible apply loopRet)
            | (with_reducible apply loopExit)
            | (with_reducible apply nT <;> dsimp only [List.cons_append, List.nil_append, putV, List.set])
            | (with_reducible apply nF <;> dsimp only [List.cons_append, List.nil_append, putV, List.set])
            | (with_reducible apply tT <;> dsimp only [List.cons_append, List.nil_append, putV, List.set])
            | (with_reducible apply tF <;> dsimp only [List.cons_append, List.nil_append, putV, List.set])
            | (with_reducible refine nB (zb fun hb => ?_) (zb fun hb => ?_) <;> dsimp only [List.cons_append, List.nil_append, putV, List.set])
            | (with_reducible apply nV <;> dsimp only [List.cons_append, List.nil_append, putV, List.set])
            | (with_reducible refine tB (zb fun hb => ?_) (zb fun hb => ?_) <;> dsimp only [List.cons_append, List.nil_append, putV, List.set])
            | (with_reducible apply tV <;> dsimp only [List.cons_append, List.nil_append, putV, List.set])
            | ((with_reducible apply blockOther); (focus (exact rfl)))
            | ((with_reducible apply wCondT); (focus (exact zg)))
            | ((with_reducible apply wCondF); (focus (exact zg)))
            | ((with_reducible apply oCall (h := e)); (focus (exact zr)); rintro _ _ ⟨b3, T3, r3, rfl, rfl, hO4, hK4, hS4, hL4⟩)
            | ((with_reducible apply oCallG (h := e)); (focus (exact zg)); (focus (exact zr)); rintro _ _ ⟨b3, T3, r3, rfl, rfl, hO4, hK4, hS4, hL4⟩)
            | ((with_reducible apply tCall (h := e)); (focus (exact zr)); rintro _ _ ⟨b3, T3, r3, rfl, rfl, hO4, hK4, hS4, hL4⟩)
            | ((with_reducible apply tCallG (h := e)); (focus (exact zg)); (focus (exact zr)); rintro _ _ ⟨b3, T3, r3, rfl, rfl, hO4, hK4, hS4, hL4⟩)
            | ((with_reducible apply oOp); (focus (exact zsf (And.intro @app_get0 (And.intro @app_get (And.intro @f0 (And.intro @f1 (And.intro @f2 (@f3)))))))); (focus rfl))
            | ((with_reducible apply tOp); (focus (exact zsf (And.intro @app_get0 (And.intro @app_get (And.intro @f0 (And.intro @f1 (And.intro @f2 (@f3)))))))); (focus rfl))
            | ((with_reducible apply tNil); (focus (exact zcf (And.intro @app_get0 (And.intro @app_get (And.intro @f0 (And.intro @f1 (And.intro @f2 (@f3)))))))))
            | ((with_reducible apply endN); (focus (exact rfl)); (focus (exact zsf (And.intro @app_get0 (And.intro @app_get (And.intro @f0 (And.intro @f1 (And.intro @f2 (@f3)))))))); (focus (exact zzf (And.intro @app_get0 (And.intro @app_get (And.intro @f0 (And.intro @f1 (And.intro @f2 (@f3)))))))); (focus (exact zdf (And.intro @app_get0 (And.intro @app_get (And.intro @f0 (And.intro @f1 (And.intro @f2 (@f3)))))))); (focus (exact ze)); dsimp only)
            | ((with_reducible apply endN'); (focus (exact rfl)); (focus (exact zsf (And.intro @app_get0 (And.intro @app_get (And.intro @f0 (And.intro @f1 (And.intro @f2 (@f3)))))))); (focus (exact zzf (And.intro @app_get0 (And.intro @app_get (And.intro @f0 (And.intro @f1 (And.intro @f2 (@f3)))))))); (focus (exact zdf (And.intro @app_get0 (And.intro @app_get (And.intro @f0 (And.intro @f1 (And.intro @f2 (@f3)))))))); (focus (exact ze)); dsimp only)
            | ((with_reducible apply endI); (focus (exact zsf (And.intro @app_get0 (And.intro @app_get (And.intro @f0 (And.intro @f1 (And.intro @f2 (@f3)))))))); (focus rfl))
            | (with_reducible exact isI rfl rfl))
          all_goals
            subst hb
            exact said_head ((hK3 _).trans hK2) ⟨_, T3, r3, rfl, rfl, hO4, hK4, hS4, hL4⟩
        · have hl2 : (l ++ strInts xh).length ≤ 2000000 := by rw [List.length_append, strInts_len]; omega
          exact ⟨false, T2, _, rfl, rfl, hO2, (hK3 _).trans hK2, ⟨(fun h => by cases h), fun _ => ⟨hf2 hb, by rw [← List.append_assoc]; exact List.prefix_append _ _⟩⟩, hl2⟩
      · have hpn := hpf (by assumption)
        obtain ⟨m', rfl⟩ : ∃ m', m = m' + 1 := ⟨m - 1, by omega⟩
        have hpo : partsOf k n1 kids cells = kids := by simp only [partsOf, if_neg hb]
        have hps : ∀ v ∈ kids, v.ok ∧ v.sz ≤ 1048576 := fun v hv => ⟨oks_mem hoks hv, by have := szs_mem hv; omega⟩
        have hpl : kids.length ≤ 1048576 := by omega
        rw [shw_succ hpn, ← hxi, hpo]
        have hS := fun R => say_S xh (hO3 R) hnq (by omega)
        repeat' (first
          | (with_reducible apply wSeq)
          | (with_reducible apply wReg)
          | (with_reducible apply wBlock)
          | (with_reducible apply thenNor)
          | (with_reducible apply thenRet)
          | (with_reducible apply thenExit)
          | (with_reducible apply blockNor)
          | (with_reducible apply blockExit)
          | (with_reducible apply blockRet)
          | (with_reducible apply oNil)
          | (with_reducible apply wExit)
          | (with_reducible apply wRet)
          | (with_reducible apply wSkip)
          | (with_reducible apply wRegT)
          | (with_reducible apply loopRet)
          | (with_reducible apply loopExit)
          | (with_reducible apply nT <;> dsimp only [List.cons_append, List.nil_append, putV, List.set])
          | (with_reducible apply nF <;> dsimp only [List.cons_append, List.nil_append, putV, List.set])
          | (with_reducible apply tT <;> dsimp only [List.cons_append, List.nil_append, putV, List.set])
          | (with_reducible apply tF <;> dsimp only [List.cons_append, List.nil_append, putV, List.set])
          | (with_reducible refine nB (zb fun hb => ?_) (zb fun hb => ?_) <;> dsimp only [List.cons_append, List.nil_append, putV, List.set])
          | (with_reducible apply nV <;> dsimp only [List.cons_append, List.nil_append, putV, List.set])
          | (with_reducible refine tB (zb fun hb => ?_) (zb fun hb => ?_) <;> dsimp only [List.cons_append, List.nil_append, putV, List.set])
          | (with_reducible apply tV <;> dsimp only [List.cons_append, List.nil_append, putV, List.set])
          | ((with_reducible apply blockOther); (focus (exact rfl)))
          | ((with_reducible apply wCondT); (focus (exact zg)))
          | ((with_reducible apply wCondF); (focus (exact zg)))
          | ((with_reducible apply oCall (h := hS _)); (focus (exact zr)); rintro _ _ ⟨b2, T2, rfl, rfl, hO2, hK2, ht2, hf2⟩)
          | ((with_reducible apply oCallG (h := hS _)); (focus (exact zg)); (focus (exact zr)); rintro _ _ ⟨b2, T2, rfl, rfl, hO2, hK2, ht2, hf2⟩)
          | ((with_reducible apply tCall (h := hS _)); (focus (exact zr)); rintro _ _ ⟨b2, T2, rfl, rfl, hO2, hK2, ht2, hf2⟩)
          | ((with_reducible apply tCallG (h := hS _)); (focus (exact zg)); (focus (exact zr)); rintro _ _ ⟨b2, T2, rfl, rfl, hO2, hK2, ht2, hf2⟩)
          | ((with_reducible apply oOp); (focus (exact zsf (And.intro @app_get0 (@app_get)))); (focus rfl))
          | ((with_reducible apply tOp); (focus (exact zsf (And.intro @app_get0 (@app_get)))); (focus rfl))
          | ((with_reducible apply tNil); (focus (exact zcf (And.intro @app_get0 (@app_get)))))
          | ((with_reducible apply endN); (focus (exact rfl)); (focus (exact zsf (And.intro @app_get0 (@app_get)))); (focus (exact zzf (And.intro @app_get0 (@app_get)))); (focus (exact zdf (And.intro @app_get0 (@app_get)))); (focus (exact ze)); dsimp only)
          | ((with_reducible apply endN'); (focus (exact rfl)); (focus (exact zsf (And.intro @app_get0 (@app_get)))); (focus (exact zzf (And.intro @app_get0 (@app_get)))); (focus (exact zdf (And.intro @app_get0 (@app_get)))); (focus (exact ze)); dsimp only)
          | ((with_reducible apply endI); (focus (exact zsf (And.intro @app_get0 (@app_get)))); (focus rfl))
          | (with_reducible exact isI rfl rfl))
        · have hb2 := hb
          clear hb
          have f0 := hK2.2.1 _ _ _ (show T.length ≠ q by omega) ((app_get0 T _).trans rfl)
          have f1 := hK2.2.1 _ _ _ (show T.length + 1 ≠ q by omega) ((app_get T _ 1).trans rfl)
          have f2 := hK2.2.1 _ _ _ (show T.length + 2 ≠ q by omega) ((app_get T _ 2).trans rfl)
          have f3 := hK2.2.1 _ _ _ (show T.length + 3 ≠ q by omega) ((app_get T _ 3).trans rfl)
          have e := parts_ok (ih m' rfl) (ps := kids) (deep := deep) (by omega) (by omega) hO2 hnq (ht2 hb2) (show T.length ≠ q by omega) (show T.length + 3 ≠ q by omega) (show T.length + 1 ≠ q by omega) (show T.length + 2 ≠ q by omega) f0 f3 f1 f2 hps hpl hcs hcz
          repeat' (first
            | (with_reducible apply wSeq)
            | (with_reducible apply wReg)
            | (with_reducible apply wBlock)
            | (with_reducible apply thenNor)
            | (with_reducible apply thenRet)
            | (with_reducible apply thenExit)
            | (with_reducible apply blockNor)
            | (with_reducible apply blockExit)
            | (with_reducible apply blockRet)
            | (with_reducible apply oNil)
            | (with_reducible apply wExit)
            | (with_reducible apply wRet)
            | (with_reducible apply wSkip)
            | (with_reducible apply wRegT)
            | (with_reducible apply loopRet)
            | (with_reducible apply loopExit)
            | (with_reducible apply nT <;> dsimp only [List.cons_append, List.nil_append, putV, List.set])
            | (with_reducible apply nF <;> dsimp only [List.cons_append, List.nil_append, putV, List.set])
            | (with_reducible apply tT <;> dsimp only [List.cons_append, List.nil_append, putV, List.set])
            | (with_reducible apply tF <;> dsimp only [List.cons_append, List.nil_append, putV, List.set])
            | (with_reducible refine nB (zb fun hb => ?_) (zb fun hb => ?_) <;> dsimp only [List.cons_append, List.nil_append, putV, List.set])
            | (with_reducible apply nV <;> dsimp only [List.cons_append, List.nil_append, putV, List.set])
            | (with_reducible refine tB (zb fun hb => ?_) (zb fun hb => ?_) <;> dsimp only [List.cons_append, List.nil_append, putV, List.set])
            | (with_reducible apply tV <;> dsimp only [List.cons_append, List.nil_append, putV, List.set])
            | ((with_reducible apply blockOther); (focus (exact rfl)))
            | ((with_reducible apply wCondT); (focus (exact zg)))
            | ((with_reducible apply wCondF); (focus (exact zg)))
            | ((with_reducible apply oCall (h := e)); (focus (exact zr)); rintro _ _ ⟨b3, T3, r3, rfl, rfl, hO4, hK4, hS4, hL4⟩)
            | ((with_reducible apply oCallG (h := e)); (focus (exact zg)); (focus (exact zr)); rintro _ _ ⟨b3, T3, r3, rfl, rfl, hO4, hK4, hS4, hL4⟩)
            | ((with_reducible apply tCall (h := e)); (focus (exact zr)); rintro _ _ ⟨b3, T3, r3, rfl, rfl, hO4, hK4, hS4, hL4⟩)
            | ((with_reducible apply tCallG (h := e)); (focus (exact zg)); (focus (exact zr)); rintro _ _ ⟨b3, T3, r3, rfl, rfl, hO4, hK4, hS4, hL4⟩)
            | ((with_reducible apply oOp); (focus (exact zsf (And.intro @app_get0 (And.intro @app_get (And.intro @f0 (And.intro @f1 (And.intro @f2 (@f3)))))))); (focus rfl))
            | ((with_reducible apply tOp); (focus (exact zsf (And.intro @app_get0 (And.intro @app_get (And.intro @f0 (And.intro @f1 (And.intro @f2 (@f3)))))))); (focus rfl))
            | ((with_reducible apply tNil); (focus (exact zcf (And.intro @app_get0 (And.intro @app_get (And.intro @f0 (And.intro @f1 (And.intro @f2 (@f3)))))))))
            | ((with_reducible apply endN); (focus (exact rfl)); (focus (exact zsf (And.intro @app_get0 (And.intro @app_get (And.intro @f0 (And.intro @f1 (And.intro @f2 (@f3)))))))); (focus (exact zzf (And.intro @app_get0 (And.intro @app_get (And.intro @f0 (And.intro @f1 (And.intro @f2 (@f3)))))))); (focus (exact zdf (And.intro @app_get0 (And.intro @app_get (And.intro @f0 (And.intro @f1 (And.intro @f2 (@f3)))))))); (focus (exact ze)); dsimp only)
            | ((with_reducible apply endN'); (focus (exact rfl)); (focus (exact zsf (And.intro @app_get0 (And.intro @app_get (And.intro @f0 (And.intro @f1 (And.intro @f2 (@f3)))))))); (focus (exact zzf (And.intro @app_get0 (And.intro @app_get (And.intro @f0 (And.intro @f1 (And.intro @f2 (@f3)))))))); (focus (exact zdf (And.intro @app_get0 (And.intro @app_get (And.intro @f0 (And.intro @f1 (And.intro @f2 (@f3)))))))); (focus (exact ze)); dsimp only)
            | ((with_reducible apply endI); (focus (exact zsf (And.intro @app_get0 (And.intro @app_get (And.intro @f0 (And.intro @f1 (And.intro @f2 (@f3)))))))); (focus rfl))
            | (with_reducible exact isI rfl rfl))
          all_goals
            subst hb
            exact said_head ((hK3 _).trans hK2) ⟨_, T3, r3, rfl, rfl, hO4, hK4, hS4, hL4⟩
        · have hl2 : (l ++ strInts xh).length ≤ 2000000 := by rw [List.length_append, strInts_len]; omega
          exact ⟨false, T2, _, rfl, rfl, hO2, (hK3 _).trans hK2, ⟨(fun h => by cases h), fun _ => ⟨hf2 hb, by rw [← List.append_assoc]; exact List.prefix_append _ _⟩⟩, hl2⟩
end Go.Proofs.YthogcanomihelaaDoor.Gs
