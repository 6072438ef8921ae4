/- Values (trees) in a frame: marked. -/
import Derived.Test.YthogcanomihelaaDoorXc
set_option linter.unusedSimpArgs false
set_option linter.unusedVariables false
namespace Go.Proofs.YthogcanomihelaaDoor.Gx
open Go Go.Proofs Go.Proofs.YthogcanomihelaaDoor.Ae
attribute [local congr] obind_congr
attribute [local push_cast] exF argsV frzs frz frzL frz1 exS_reg exS_seq exS_cond exS_alt exS_block exS_loop exS_exit exS_ret exS_skip evReg evOps evOne evAct evOp rd putV st0 evEnd resV resL resOne oneOr frzR loadV storeV binV binI unV push_frm pop_frm frm_len frm_top frm_get_top frm_set_top frm_new AV.cells AV.lowB AV.lowL AV.isCell cellsOk set_len Option.bind_some Option.map_some Option.map_none List.getD_cons_zero List.getD_cons_succ List.nil_append List.cons_append List.append_nil List.length_cons List.length_nil List.set_cons_zero List.set_cons_succ List.map_cons List.map_nil List.replicate if_true if_false ite_true ite_false ite_self Bool.false_eq_true List.all_cons List.all_nil Bool.and_true Bool.true_and Bool.and_self Bool.and_eq_true List.getElem?_cons_zero List.getElem?_cons_succ List.drop_succ_cons List.drop_zero List.take_succ_cons List.take_zero true_and and_true and_self decide_true decide_false Bool.not_true Bool.not_false Prod.mk.injEq Option.some.injEq List.getElem?_drop optInt elems sliceV partsOf Nat.add_zero Nat.zero_add Nat.mul_one beq_self_eq_true litParts Bool.or_false Bool.false_or Bool.or_true Bool.true_or Bool.false_and Bool.and_false List.cons.injEq not_false_eq_true not_true_eq_false Nat.zero_le Nat.le_refl gt_iff_lt ge_iff_le List.drop_nil List.take_nil newBox List.length_append List.length_map bne_self_eq_false eq_self Nat.lt_add_one ne_eq false_implies Int.le_refl

variable {prim : CallT}
mutual
def Vt.mk' : Vt → Nat
  | .mk _ _ t kids => t.length + mksV kids
def mksV : List Vt → Nat
  | [] => 0
  | v :: r => 2 + v.mk' + mksV r
end
theorem mksV_app : ∀ a b : List Vt, mksV (a ++ b) = mksV a + mksV b
  | [], b => by simp [mksV]
  | x :: r, b => by simp only [List.cons_append, mksV, mksV_app r b]; omega
theorem mksV_take {l : List Vt} {q : Nat} (h : q < l.length) : mksV (l.take (q + 1)) = mksV (l.take q) + 2 + l[q].mk' := by
  rw [List.take_succ_eq_append_getElem h, mksV_app]
  simp only [mksV]
  omega
theorem mksV_le (l : List Vt) (q : Nat) : mksV (l.take q) ≤ mksV l := by
  have h := mksV_app (l.take q) (l.drop q)
  rw [List.take_append_drop] at h
  omega
theorem mksV_len : ∀ l : List Vt, 2 * l.length ≤ mksV l
  | [] => Nat.le_refl _
  | v :: r => by have := mksV_len r; simp only [mksV, List.length_cons]; omega
theorem splice0 {α : Type} {A R : List α} {m : Nat} (h : A.length = m) (a x : α) : (A ++ a :: R).take m ++ [x] ++ (A ++ a :: R).drop (m + 1) = A ++ x :: R := by
  rw [List.take_left' h, ← h, drop_add]
  simp
theorem splice1 {α : Type} {A R : List α} {m : Nat} (h : A.length = m) (a b x : α) : (A ++ a :: b :: R).take (m + 1) ++ [x] ++ (A ++ a :: b :: R).drop (m + 1 + 1) = A ++ a :: x :: R := by
  have h2 : (A ++ [a]).length = m + 1 := by simp [h]
  have := splice0 h2 b x (R := R)
  simpa using this
theorem app_at {α : Type} {A R : List α} {m : Nat} (h : A.length = m) (j : Nat) : (A ++ R)[m + j]? = R[j]? := by rw [← h]; exact app_get A R j
theorem app_at0 {α : Type} {A R : List α} {m : Nat} (h : A.length = m) : (A ++ R)[m]? = R[0]? := by rw [← h]; exact app_get0 A R
def MkP (prim : CallT) (v : Vt) : Prop := ∀ (s : Store) (D : Nat) (c : List AV) (fp : List Nat) (k : Int), OwnV s D v c fp → fp.Nodup → 0 ≤ k → k + v.mk' ≤ 4000000000000000000 →
  ∃ v' s', callF (tab tbl) prim 16 [.agg c, .int .i64 k] s = some (v', s') ∧ v' = .int .i64 (k + v.mk') ∧ Chg D fp s s'
/-- What is marked of a value: its text and its list. -/
def MksP (prim : CallT) (kids : List Vt) : Prop := ∀ (s : Store) (D j n : Nat) (cs : List AV) (fp : List Nat) (k : Int), kids.length = n → s.get D j = some (.arr 25 4 cs 0 0) → OwnVs s D kids cs fp → (j :: fp).Nodup → 0 ≤ k → k + mksV kids ≤ 4000000000000000000 →
  ∃ v' s', callF (tab tbl) prim 17 [.slr D j 0 n 0 false, .int .i64 k] s = some (v', s') ∧ v' = .int .i64 (k + mksV kids) ∧ Chg D (j :: fp) s s'
theorem owns_cons {s : Store} {D : Nat} {v : Vt} {r : List Vt} {c : List AV} {f : List Nat} (h : OwnVs s D (v :: r) c f) : ∃ k n t kids i j cs fp c2 f2, v = .mk k n t kids ∧ c = .int .i64 k :: .int .i64 n :: .slr D i 0 t.length 0 false :: .slr D j 0 kids.length 0 false :: c2 ∧ f = i :: j :: fp ++ f2 ∧
    s.get D i = some (.arr 5 1 (bys t) 0 0) ∧ s.get D j = some (.arr 25 4 cs 0 0) ∧ OwnVs s D kids cs fp ∧ OwnVs s D r c2 f2 := by
  simp only [OwnVs] at h
  obtain ⟨c1, c2, f1, f2, rfl, rfl, h3, h4⟩ := h
  cases v with
  | mk k n t kids =>
    simp only [OwnV] at h3
    obtain ⟨i, j, cs, fp, rfl, rfl, h5, h6, h7⟩ := h3
    exact ⟨k, n, t, kids, i, j, cs, fp, c2, f2, rfl, rfl, rfl, h5, h6, h7, h4⟩
theorem get_none {s : Store} {d i : Nat} (h : s.low.length < d) : s.get d i = none := by
  cases hg : s.get d i with
  | none => rfl
  | some o => have := get_depth hg; omega
/-- What changes below a frame leaves the frame. -/
theorem chg_frm {s s' : Store} {R : List Ae.Obj} {D : Nat} {fp : List Nat} (hD : D ≤ s.low.length) (h : Chg D fp (frm s R) s') : ∃ s2, s' = frm s2 R ∧ Chg D fp s s2 := by
  obtain ⟨h1, h2⟩ := h
  rw [frm_len] at h1
  cases s' with
  | mk low top =>
    simp only at h1
    have hne : low ≠ [] := fun e => by rw [e] at h1; simp at h1
    have htop : top = R := by
      refine List.ext_getElem? fun i => ?_
      have := h2 (s.low.length + 1) i (by omega)
      rw [frm_get_top] at this
      rw [← this]
      simp [Store.get, h1]
    subst htop
    have hfr : (⟨low, top⟩ : Store) = frm ⟨low.dropLast, low.getLast hne⟩ top := by simp [frm, List.dropLast_concat_getLast]
    refine ⟨⟨low.dropLast, low.getLast hne⟩, hfr, by simp [h1], fun d i hn => ?_⟩
    have hl : (⟨low.dropLast, low.getLast hne⟩ : Store).low.length = s.low.length := by simp [h1]
    rcases Nat.lt_or_ge s.low.length d with hd | hd
    · rw [get_none (by rw [hl]; exact hd), get_none hd]
    · have := h2 d i hn
      rw [hfr, frm_get _ _ _ (by rw [hl]; exact hd), frm_get _ _ _ hd] at this
      exact this
theorem markB_frm {s : Store} {D i n ver : Nat} {t : List Int} {k : Int} (R : List Ae.Obj) (hD : D ≤ s.low.length) (hg : s.get D i = some (.arr 5 1 (bys t) ver 0)) (ht : t.length = n) (hk : 0 ≤ k) (hn : k + n ≤ 4611686018427387904) :
    ∃ v s', callF (tab tbl) prim 18 [.slr D i 0 n ver false, .int .i64 k] (frm s R) = some (v, s') ∧ ∃ s2, v = .int .i64 (k + n) ∧ s' = frm s2 R ∧ Chg D [i] s s2 := by
  obtain ⟨v, s', e, h1, _, h3⟩ := markB_ok (prim := prim) (s := frm s R) (D := D) (i := i) ((frm_get _ _ _ hD).trans hg) ht hk hn
  obtain ⟨s2, h4, h5⟩ := chg_frm hD h3
  exact ⟨v, s', e, s2, h1, h4, h5⟩
theorem marks_frm {kids : List Vt} (h : MksP prim kids) {s : Store} {D j n : Nat} {cs : List AV} {fp : List Nat} {k : Int} (R : List Ae.Obj) (hD : D ≤ s.low.length) (hn : kids.length = n) (hg : s.get D j = some (.arr 25 4 cs 0 0)) (hO : OwnVs s D kids cs fp) (hnd : (j :: fp).Nodup) (hk : 0 ≤ k) (hb : k + mksV kids ≤ 4000000000000000000) :
    ∃ v' s', callF (tab tbl) prim 17 [.slr D j 0 n 0 false, .int .i64 k] (frm s R) = some (v', s') ∧ ∃ s2, v' = .int .i64 (k + mksV kids) ∧ s' = frm s2 R ∧ Chg D (j :: fp) s s2 := by
  obtain ⟨v, s', e, h1, h3⟩ := h (frm s R) D j n cs fp k hn ((frm_get _ _ _ hD).trans hg) (owns_st _ _ _ (fun p _ => frm_get _ _ _ hD) hO) hnd hk hb
  obtain ⟨s2, h4, h5⟩ := chg_frm hD h3
  exact ⟨v, s', e, s2, h1, h4, h5⟩
set_option maxHeartbeats 4000000 in
theorem markVs_step {kids : List Vt} (ih : ∀ k n t l, Vt.mk k n t l ∈ kids → MksP prim l) : MksP prim kids := by
  intro s D j n cs fp k hn hg hO hnd hk hb0
  subst hn
  have hle := mksV_len kids
  refine funW (fc := c17) rfl (by exact rfl) (by simp only [c17]; rfl) (by simp only [c17, st0, push_frm, if_false, if_true, Bool.false_eq_true, Nat.reduceSub, List.replicate, List.cons_append, List.nil_append]; rfl) ?_
  repeat' (first
    | (with_reducible apply wSeq)
    | (with_reducible apply wReg)
    | (with_reducible apply wBlock)
    | (with_reducible apply thenNor)
    | (with_reducible apply oNil)
    | ((with_reducible apply oOp); (focus (simp (disch := first | omega | assumption | (simp only [set_len, frm_len, List.length_set, List.length_append, List.length_cons, List.length_nil]; first | done | omega) | (simp only [seqOk, List.length_cons, List.length_nil, Nat.reduceAdd, Nat.reduceMul, Nat.zero_mul, Nat.reduceBEq, beq_self_eq_true, Bool.and_self, Bool.and_true, Bool.true_and]; done) | fail) only [push_cast, reduceCtorEq, Nat.reduceAdd, Nat.reduceSub, Nat.reduceMul, Nat.reduceLeDiff, Nat.reduceLT, Nat.reduceEqDiff, Int.reduceToNat, Int.reduceLT, Int.reduceLE, Int.reduceBEq, Int.reduceEq, Int.reduceSub, Int.reduceAdd, Int.reduceMul, Int.reduceNeg, frm_get, frm_set, set_set, fill_ok, fillL_n, fillL_c, List.flatMap_cons, List.flatMap_nil, set_len, frm_getC, frm_setC, wrapI, wrapB, if_pos, if_neg, decT, decF, beqT, beqF, bneT, bneF, hg]; rfl)); (focus rfl); (first | with_reducible apply nT | with_reducible apply nF | (with_reducible refine nB (fun hb => ?_) (fun hb => ?_) <;> (try simp only [decide_eq_true_eq, decide_eq_false_iff_not, beq_iff_eq, bne_iff_ne, ne_eq, beq_eq_false_iff_ne, bne_eq_false_iff_eq, Decidable.not_not, Int.not_lt, Int.not_le] at hb)) | with_reducible apply nV) <;> dsimp only [List.cons_append, List.nil_append, putV, List.set]))
  refine wLoop (fun m st => ∃ (q : Nat) (y2 y4 : AV) (s1 : Store) (done rest : List AV) (fq : List Nat), (m : Int) = kids.length - q ∧ q ≤ kids.length ∧ done.length = q * 4 ∧ s1.get D j = some (.arr 25 4 (done ++ rest) 0 0) ∧ OwnVs s1 D (kids.drop q) rest fq ∧ (j :: fq).Nodup ∧ (∀ p ∈ fq, p ∈ fp) ∧ Chg D (j :: fp) s s1 ∧
    st = ⟨[.slr D j 0 kids.length 0 false, .int .i64 (k + mksV (kids.take q)), y2, .int .i64 q, y4], frm s1 []⟩) kids.length ?_ ?_
  · exact ⟨0, .int .i64 0, .undef, s, [], cs, fp, by omega, by omega, rfl, hg, hO, hnd, fun _ h => h, Chg.refl _ _ _, by simp [mksV]⟩
  · rintro m st ⟨q, y2, y4, s1, done, rest, fq, hm, hq, hdl, hg1, hO1, hnq, hsub, hC, rfl⟩
    have hd := get_le hg1
    have hml := mksV_le kids q
    by_cases hlt : q < kids.length
    · rw [List.drop_eq_getElem_cons hlt] at hO1
      obtain ⟨k0, n0, t0, l0, i1, j1, cs1, fp1, c2, f2, hv, rfl, rfl, o1, o2, o3, o4⟩ := owns_cons hO1
      have hml2 := mksV_le kids (q + 1)
      have htk := mksV_take hlt
      rw [hv] at htk
      simp only [Vt.mk'] at htk
      have hmem : Vt.mk k0 n0 t0 l0 ∈ kids := hv ▸ List.getElem_mem hlt
      have hne : j ≠ i1 ∧ j ≠ j1 ∧ j ∉ fp1 ∧ j ∉ f2 ∧ (i1 :: j1 :: fp1 ++ f2).Nodup := by
        rw [List.nodup_cons] at hnq
        refine ⟨fun e => hnq.1 (by simp [e]), fun e => hnq.1 (by simp [e]), fun e => hnq.1 (by simp [e]), fun e => hnq.1 (by simp [e]), hnq.2⟩
      have g2 := fun (x y : AV) (R : List AV) => app_at (R := x :: y :: R) hdl 0
      have hcl : (done ++ .int .i64 k0 :: .int .i64 n0 :: .slr D i1 0 t0.length 0 false :: .slr D j1 0 l0.length 0 false :: c2).length = q * 4 + 4 + c2.length := by simp; omega
      have hgg : ∀ o, (s1.set D j o).get D j = some o := fun o => set_get o hg1
      have hcl2 : (done ++ .int .i64 (k + mksV (kids.take q)) :: .int .i64 n0 :: .slr D i1 0 t0.length 0 false :: .slr D j1 0 l0.length 0 false :: c2).length = q * 4 + 4 + c2.length := by simp; omega
      have hsg : ∀ o p, p ≠ j → (s1.set D j o).get D p = s1.get D p := fun o p hp => get_set_ne s1 fun h => hp h.2
      have hB := fun o R => markB_frm (prim := prim) (s := s1.set D j o) (k := k + mksV (kids.take q) + 1 + 1) R (by rw [set_len]; exact hd) ((hsg o i1 (Ne.symm hne.1)).trans o1) rfl (by omega) (by omega)
      repeat' (first
        | (with_reducible apply wSeq)
        | (with_reducible apply wReg)
        | (with_reducible apply wBlock)
        | (with_reducible apply thenNor)
        | (with_reducible apply oNil)
        | (with_reducible apply wSkip)
        | ((with_reducible apply wCondT); (focus (simp only [rd, List.getD_cons_zero, List.getD_cons_succ]; done)))
        | ((with_reducible apply oCall (h := hB _ _)); (focus (simp only [rd, List.map_cons, List.map_nil, List.getD_cons_zero, List.getD_cons_succ] <;> rfl)); rintro _ _ ⟨s2, rfl, rfl, hC2⟩; (first | with_reducible apply nT | with_reducible apply nF | (with_reducible refine nB (fun hb => ?_) (fun hb => ?_) <;> (try simp only [decide_eq_true_eq, decide_eq_false_iff_not, beq_iff_eq, bne_iff_ne, ne_eq, beq_eq_false_iff_ne, bne_eq_false_iff_eq, Decidable.not_not, Int.not_lt, Int.not_le] at hb)) | with_reducible apply nV) <;> dsimp only [List.cons_append, List.nil_append, putV, List.set])
        | ((with_reducible apply oOp); (focus (simp (disch := first | omega | assumption | (simp only [set_len, frm_len, List.length_set, List.length_append, List.length_cons, List.length_nil]; first | done | omega) | (simp only [seqOk, List.length_cons, List.length_nil, Nat.reduceAdd, Nat.reduceMul, Nat.zero_mul, Nat.reduceBEq, beq_self_eq_true, Bool.and_self, Bool.and_true, Bool.true_and]; done) | fail) only [push_cast, reduceCtorEq, Nat.reduceAdd, Nat.reduceSub, Nat.reduceMul, Nat.reduceLeDiff, Nat.reduceLT, Nat.reduceEqDiff, Int.reduceToNat, Int.reduceLT, Int.reduceLE, Int.reduceBEq, Int.reduceEq, Int.reduceSub, Int.reduceAdd, Int.reduceMul, Int.reduceNeg, frm_get, frm_set, set_set, fill_ok, fillL_n, fillL_c, List.flatMap_cons, List.flatMap_nil, set_len, frm_getC, frm_setC, wrapI, wrapB, if_pos, if_neg, decT, decF, beqT, beqF, bneT, bneF, hg1, hgg, hcl, hcl2, splice0 hdl, splice1 hdl, app_at hdl, app_at0 hdl, Int.toNat_natCast]; rfl)); (focus rfl); (first | with_reducible apply nT | with_reducible apply nF | (with_reducible refine nB (fun hb => ?_) (fun hb => ?_) <;> (try simp only [decide_eq_true_eq, decide_eq_false_iff_not, beq_iff_eq, bne_iff_ne, ne_eq, beq_eq_false_iff_ne, bne_eq_false_iff_eq, Decidable.not_not, Int.not_lt, Int.not_le] at hb)) | with_reducible apply nV) <;> dsimp only [List.cons_append, List.nil_append, putV, List.set]))
      have hnd2 := hne.2.2.2.2
      rw [List.cons_append, List.cons_append, List.nodup_cons, List.nodup_cons, List.nodup_append] at hnd2
      obtain ⟨na, nb, nc, nd, ne⟩ := hnd2
      simp only [List.mem_cons, List.mem_append, not_or] at na nb
      have hj2 := (hC2.get D j (by simp [hne.1])).trans (hgg _)
      have hs2 : ∀ p, p ≠ i1 → p ≠ j → s2.get D p = s1.get D p := fun p h1 h2 => (hC2.get D p (by simp [h1])).trans (hsg _ p h2)
      have hd2 := get_le hj2
      have hL := marks_frm (ih k0 n0 t0 l0 hmem) (k := k + mksV (kids.take q) + 1 + 1 + t0.length) [] hd2 rfl ((hs2 j1 (Ne.symm na.1) (Ne.symm hne.2.1)).trans o2) (owns_st _ _ _ (fun p hp => hs2 p (fun e => na.2.1 (e ▸ hp)) (fun e => hne.2.2.1 (e ▸ hp))) o3) (by rw [List.nodup_cons]; exact ⟨nb.1, nc⟩) (by omega) (by omega)
      repeat' (first
        | (with_reducible apply wReg)
        | (with_reducible apply thenNor)
        | (with_reducible apply blockNor)
        | (with_reducible apply oNil)
        | ((with_reducible apply oCall (h := hL)); (focus (simp only [rd, List.map_cons, List.map_nil, List.getD_cons_zero, List.getD_cons_succ] <;> rfl)); rintro _ _ ⟨s3, rfl, rfl, hC3⟩; (first | with_reducible apply nT | with_reducible apply nF | (with_reducible refine nB (fun hb => ?_) (fun hb => ?_) <;> (try simp only [decide_eq_true_eq, decide_eq_false_iff_not, beq_iff_eq, bne_iff_ne, ne_eq, beq_eq_false_iff_ne, bne_eq_false_iff_eq, Decidable.not_not, Int.not_lt, Int.not_le] at hb)) | with_reducible apply nV) <;> dsimp only [List.cons_append, List.nil_append, putV, List.set])
        | ((with_reducible apply oOp); (focus (simp (disch := first | omega | assumption | (simp only [set_len, frm_len, List.length_set, List.length_append, List.length_cons, List.length_nil]; first | done | omega) | (simp only [seqOk, List.length_cons, List.length_nil, Nat.reduceAdd, Nat.reduceMul, Nat.zero_mul, Nat.reduceBEq, beq_self_eq_true, Bool.and_self, Bool.and_true, Bool.true_and]; done) | fail) only [push_cast, reduceCtorEq, Nat.reduceAdd, Nat.reduceSub, Nat.reduceMul, Nat.reduceLeDiff, Nat.reduceLT, Nat.reduceEqDiff, Int.reduceToNat, Int.reduceLT, Int.reduceLE, Int.reduceBEq, Int.reduceEq, Int.reduceSub, Int.reduceAdd, Int.reduceMul, Int.reduceNeg, frm_get, frm_set, set_set, fill_ok, fillL_n, fillL_c, List.flatMap_cons, List.flatMap_nil, set_len, frm_getC, frm_setC, wrapI, wrapB, if_pos, if_neg, decT, decF, beqT, beqF, bneT, bneF, hj2, app_at hdl, app_at0 hdl, Int.toNat_natCast]; rfl)); (focus rfl); (first | with_reducible apply nT | with_reducible apply nF | (with_reducible refine nB (fun hb => ?_) (fun hb => ?_) <;> (try simp only [decide_eq_true_eq, decide_eq_false_iff_not, beq_iff_eq, bne_iff_ne, ne_eq, beq_eq_false_iff_ne, bne_eq_false_iff_eq, Decidable.not_not, Int.not_lt, Int.not_le] at hb)) | with_reducible apply nV) <;> dsimp only [List.cons_append, List.nil_append, putV, List.set]))
      refine loopNor (m - 1) (by omega) ⟨q + 1, y2, .bool true, s3, done ++ [.int .i64 (k + mksV (kids.take q)), .int .i64 (k + mksV (kids.take q) + 1), .slr D i1 0 t0.length 0 false, .slr D j1 0 l0.length 0 false], c2, f2, by push_cast; omega, by omega, by simp [hdl]; omega, ?_, ?_, ?_, fun p hp => hsub p (by simp [hp]), ?_, ?_⟩
      · rw [List.append_assoc]
        exact (hC3.get D j (by simp [hne.2.1, hne.2.2.1])).trans hj2
      · refine owns_st _ _ _ (fun p hp => ?_) o4
        have h1 : p ≠ i1 := fun e => na.2.2 (e ▸ hp)
        have h2 : p ≠ j1 := fun e => nb.2 (e ▸ hp)
        have h3 : p ∉ fp1 := fun h => ne p h p hp rfl
        have h4 : p ≠ j := fun e => hne.2.2.2.1 (e ▸ hp)
        rw [hC3.get D p (by simp [h2, h3]), hs2 p h1 h4]
      · rw [List.nodup_cons]
        exact ⟨hne.2.2.2.1, nd⟩
      · refine ((hC.trans (chg_set (by simp))).trans (hC2.mono fun p hp => ?_)).trans (hC3.mono fun p hp => ?_)
        · simp only [List.mem_singleton] at hp
          subst hp
          exact List.mem_cons_of_mem _ (hsub _ (by simp))
        · refine List.mem_cons_of_mem _ (hsub _ ?_)
          rcases List.mem_cons.1 hp with rfl | hp
          · simp
          · simp [hp]
      · rw [show k + (mksV (kids.take q) : Int) + 1 + 1 + t0.length + mksV l0 = k + (mksV (kids.take (q + 1)) : Nat) by omega, show (q : Int) + 1 = ((q + 1 : Nat) : Int) by omega]
    · obtain rfl : q = kids.length := by omega
      rw [List.take_length]
      repeat' (first
        | (with_reducible apply wSeq)
        | (with_reducible apply wReg)
        | (with_reducible apply thenNor)
        | (with_reducible apply thenExit)
        | (with_reducible apply blockExit)
        | (with_reducible apply oNil)
        | (with_reducible apply wExit)
        | (with_reducible apply wRet)
        | (with_reducible apply loopExit)
        | ((with_reducible apply wCondF); (focus (simp only [rd, List.getD_cons_zero, List.getD_cons_succ]; done)))
        | ((with_reducible apply oOp); (focus (simp (disch := first | omega | assumption | (simp only [set_len, frm_len, List.length_set, List.length_append, List.length_cons, List.length_nil]; first | done | omega) | (simp only [seqOk, List.length_cons, List.length_nil, Nat.reduceAdd, Nat.reduceMul, Nat.zero_mul, Nat.reduceBEq, beq_self_eq_true, Bool.and_self, Bool.and_true, Bool.true_and]; done) | fail) only [push_cast, reduceCtorEq, Nat.reduceAdd, Nat.reduceSub, Nat.reduceMul, Nat.reduceLeDiff, Nat.reduceLT, Nat.reduceEqDiff, Int.reduceToNat, Int.reduceLT, Int.reduceLE, Int.reduceBEq, Int.reduceEq, Int.reduceSub, Int.reduceAdd, Int.reduceMul, Int.reduceNeg, frm_get, frm_set, set_set, fill_ok, fillL_n, fillL_c, List.flatMap_cons, List.flatMap_nil, set_len, frm_getC, frm_setC, wrapI, wrapB, if_pos, if_neg, decT, decF, beqT, beqF, bneT, bneF, hg1]; rfl)); (focus rfl); (first | with_reducible apply nT | with_reducible apply nF | (with_reducible refine nB (fun hb => ?_) (fun hb => ?_) <;> (try simp only [decide_eq_true_eq, decide_eq_false_iff_not, beq_iff_eq, bne_iff_ne, ne_eq, beq_eq_false_iff_ne, bne_eq_false_iff_eq, Decidable.not_not, Int.not_lt, Int.not_le] at hb)) | with_reducible apply nV) <;> dsimp only [List.cons_append, List.nil_append, putV, List.set])
        | ((with_reducible apply endN (fc := c17)); (focus (exact rfl)); (focus (simp (disch := first | omega | assumption | (simp only [set_len, frm_len, List.length_set, List.length_append, List.length_cons, List.length_nil]; first | done | omega) | (simp only [seqOk, List.length_cons, List.length_nil, Nat.reduceAdd, Nat.reduceMul, Nat.zero_mul, Nat.reduceBEq, beq_self_eq_true, Bool.and_self, Bool.and_true, Bool.true_and]; done) | fail) only [push_cast, reduceCtorEq, Nat.reduceAdd, Nat.reduceSub, Nat.reduceMul, Nat.reduceLeDiff, Nat.reduceLT, Nat.reduceEqDiff, Int.reduceToNat, Int.reduceLT, Int.reduceLE, Int.reduceBEq, Int.reduceEq, Int.reduceSub, Int.reduceAdd, Int.reduceMul, Int.reduceNeg, frm_get, frm_set, set_set, fill_ok, fillL_n, fillL_c, List.flatMap_cons, List.flatMap_nil, set_len, frm_getC, frm_setC, wrapI, wrapB, if_pos, if_neg, decT, decF, beqT, beqF, bneT, bneF, c17, hg1]; rfl)); (focus (repeat' (first | (with_reducible exact frzL_nil) | (with_reducible exact frzs_nil) | (with_reducible apply frzL_cons) | (with_reducible apply frzs_cons) | (with_reducible apply frz_agg) | (with_reducible apply frzR_agg) | (with_reducible apply frzR_tup) | (with_reducible exact frz1_imm) | (with_reducible exact frz_imm) | (with_reducible exact frzR_imm) | (with_reducible exact frz1_int) | (with_reducible exact frz_int) | (with_reducible exact frzR_int) | (with_reducible exact frz1_bool) | (with_reducible exact frz_bool) | (with_reducible exact frzR_bool) | (with_reducible exact frz1_str) | (with_reducible exact frz_str) | (with_reducible exact frzR_str) | (with_reducible exact frz1_ptr) | (with_reducible exact frz_ptr) | (with_reducible exact frzR_ptr) | (with_reducible exact frz1_fn) | (with_reducible exact frz_fn) | (with_reducible exact frzR_fn) | (with_reducible exact frz1_aptr) | (with_reducible apply frz_slr) | (with_reducible apply frzR_slr) | ((with_reducible apply frz1_slr); (focus (simp (disch := first | omega | assumption | (simp only [set_len, frm_len, List.length_set, List.length_append, List.length_cons, List.length_nil]; first | done | omega) | (simp only [seqOk, List.length_cons, List.length_nil, Nat.reduceAdd, Nat.reduceMul, Nat.zero_mul, Nat.reduceBEq, beq_self_eq_true, Bool.and_self, Bool.and_true, Bool.true_and]; done) | fail) only [push_cast, reduceCtorEq, Nat.reduceAdd, Nat.reduceSub, Nat.reduceMul, Nat.reduceLeDiff, Nat.reduceLT, Nat.reduceEqDiff, Int.reduceToNat, Int.reduceLT, Int.reduceLE, Int.reduceBEq, Int.reduceEq, Int.reduceSub, Int.reduceAdd, Int.reduceMul, Int.reduceNeg, frm_get, frm_set, set_set, fill_ok, fillL_n, fillL_c, List.flatMap_cons, List.flatMap_nil, set_len, frm_getC, frm_setC, wrapI, wrapB, if_pos, if_neg, decT, decF, beqT, beqF, bneT, bneF, hg1]; rfl)); (focus (simp (disch := first | omega | assumption | (simp only [set_len, frm_len, List.length_set, List.length_append, List.length_cons, List.length_nil]; first | done | omega) | (simp only [seqOk, List.length_cons, List.length_nil, Nat.reduceAdd, Nat.reduceMul, Nat.zero_mul, Nat.reduceBEq, beq_self_eq_true, Bool.and_self, Bool.and_true, Bool.true_and]; done) | fail) only [push_cast, reduceCtorEq, Nat.reduceAdd, Nat.reduceSub, Nat.reduceMul, Nat.reduceLeDiff, Nat.reduceLT, Nat.reduceEqDiff, Int.reduceToNat, Int.reduceLT, Int.reduceLE, Int.reduceBEq, Int.reduceEq, Int.reduceSub, Int.reduceAdd, Int.reduceMul, Int.reduceNeg, frm_get, frm_set, set_set, fill_ok, fillL_n, fillL_c, List.flatMap_cons, List.flatMap_nil, set_len, frm_getC, frm_setC, wrapI, wrapB, if_pos, if_neg, decT, decF, beqT, beqF, bneT, bneF, hg1] <;> rfl)); (focus (simp (disch := first | omega | assumption | (simp only [set_len, frm_len, List.length_set, List.length_append, List.length_cons, List.length_nil]; first | done | omega) | (simp only [seqOk, List.length_cons, List.length_nil, Nat.reduceAdd, Nat.reduceMul, Nat.zero_mul, Nat.reduceBEq, beq_self_eq_true, Bool.and_self, Bool.and_true, Bool.true_and]; done) | fail) only [push_cast, reduceCtorEq, Nat.reduceAdd, Nat.reduceSub, Nat.reduceMul, Nat.reduceLeDiff, Nat.reduceLT, Nat.reduceEqDiff, Int.reduceToNat, Int.reduceLT, Int.reduceLE, Int.reduceBEq, Int.reduceEq, Int.reduceSub, Int.reduceAdd, Int.reduceMul, Int.reduceNeg, frm_get, frm_set, set_set, fill_ok, fillL_n, fillL_c, List.flatMap_cons, List.flatMap_nil, set_len, frm_getC, frm_setC, wrapI, wrapB, if_pos, if_neg, decT, decF, beqT, beqF, bneT, bneF, hg1]; done)); (focus (first | (simp (disch := first | omega | assumption | (simp only [set_len, frm_len, List.length_set, List.length_append, List.length_cons, List.length_nil]; first | done | omega) | (simp only [seqOk, List.length_cons, List.length_nil, Nat.reduceAdd, Nat.reduceMul, Nat.zero_mul, Nat.reduceBEq, beq_self_eq_true, Bool.and_self, Bool.and_true, Bool.true_and]; done) | fail) only [push_cast, reduceCtorEq, Nat.reduceAdd, Nat.reduceSub, Nat.reduceMul, Nat.reduceLeDiff, Nat.reduceLT, Nat.reduceEqDiff, Int.reduceToNat, Int.reduceLT, Int.reduceLE, Int.reduceBEq, Int.reduceEq, Int.reduceSub, Int.reduceAdd, Int.reduceMul, Int.reduceNeg, frm_get, frm_set, set_set, fill_ok, fillL_n, fillL_c, List.flatMap_cons, List.flatMap_nil, set_len, frm_getC, frm_setC, wrapI, wrapB, if_pos, if_neg, decT, decF, beqT, beqF, bneT, bneF, hg1]; done) | (simp (disch := first | omega | assumption | (simp only [set_len, frm_len, List.length_set, List.length_append, List.length_cons, List.length_nil]; first | done | omega) | (simp only [seqOk, List.length_cons, List.length_nil, Nat.reduceAdd, Nat.reduceMul, Nat.zero_mul, Nat.reduceBEq, beq_self_eq_true, Bool.and_self, Bool.and_true, Bool.true_and]; done) | fail) only [push_cast, reduceCtorEq, Nat.reduceAdd, Nat.reduceSub, Nat.reduceMul, Nat.reduceLeDiff, Nat.reduceLT, Nat.reduceEqDiff, Int.reduceToNat, Int.reduceLT, Int.reduceLE, Int.reduceBEq, Int.reduceEq, Int.reduceSub, Int.reduceAdd, Int.reduceMul, Int.reduceNeg, frm_get, frm_set, set_set, fill_ok, fillL_n, fillL_c, List.flatMap_cons, List.flatMap_nil, set_len, frm_getC, frm_setC, wrapI, wrapB, if_pos, if_neg, decT, decF, beqT, beqF, bneT, bneF, hg1]; omega)))) | dsimp only))); (focus (simp (disch := first | omega | assumption | (simp only [set_len, frm_len, List.length_set, List.length_append, List.length_cons, List.length_nil]; first | done | omega) | (simp only [seqOk, List.length_cons, List.length_nil, Nat.reduceAdd, Nat.reduceMul, Nat.zero_mul, Nat.reduceBEq, beq_self_eq_true, Bool.and_self, Bool.and_true, Bool.true_and]; done) | fail) only [push_cast, reduceCtorEq, Nat.reduceAdd, Nat.reduceSub, Nat.reduceMul, Nat.reduceLeDiff, Nat.reduceLT, Nat.reduceEqDiff, Int.reduceToNat, Int.reduceLT, Int.reduceLE, Int.reduceBEq, Int.reduceEq, Int.reduceSub, Int.reduceAdd, Int.reduceMul, Int.reduceNeg, frm_get, frm_set, set_set, fill_ok, fillL_n, fillL_c, List.flatMap_cons, List.flatMap_nil, set_len, frm_getC, frm_setC, wrapI, wrapB, if_pos, if_neg, decT, decF, beqT, beqF, bneT, bneF, hg1]; done)); (focus (simp (disch := first | omega | assumption | (simp only [set_len, frm_len, List.length_set, List.length_append, List.length_cons, List.length_nil]; first | done | omega) | (simp only [seqOk, List.length_cons, List.length_nil, Nat.reduceAdd, Nat.reduceMul, Nat.zero_mul, Nat.reduceBEq, beq_self_eq_true, Bool.and_self, Bool.and_true, Bool.true_and]; done) | fail) only [frm_setC, frm_set, set_len, frm_set_top, pop_frm]; rfl)); dsimp only))
      exact ⟨rfl, hC⟩
mutual
theorem marks_ok : ∀ l : List Vt, MksP prim l
  | l => markVs_step (marks_all l)
theorem marks_all : ∀ l : List Vt, ∀ k n t l0, Vt.mk k n t l0 ∈ l → MksP prim l0
  | [], k, n, t, l0, h => by cases h
  | x :: r, k, n, t, l0, h => (List.mem_cons.1 h).elim (fun e => by subst e; exact marks_ok l0) (fun h => marks_all r k n t l0 h)
end
set_option maxHeartbeats 4000000 in
theorem markV_ok (v : Vt) : MkP prim v := by
  cases v with
  | mk k0 n0 t0 l0 =>
    intro s D c fp k hO hnd hk hb0
    simp only [OwnV] at hO
    obtain ⟨i1, j1, cs1, fp1, rfl, rfl, o1, o2, o3⟩ := hO
    simp only [Vt.mk'] at hb0 ⊢
    have hd := get_le o1
    rw [List.nodup_cons, List.mem_cons, not_or] at hnd
    have hB := fun R => markB_frm (prim := prim) (k := k) R hd o1 rfl (by omega) (by omega)
    refine funW (fc := c16) rfl (by exact rfl) (by simp only [c16]; rfl) (by simp only [c16, st0, push_frm, if_false, if_true, Bool.false_eq_true, Nat.reduceSub, List.replicate, List.cons_append, List.nil_append]; rfl) ?_
    repeat' (first
      | (with_reducible apply wSeq)
      | (with_reducible apply wReg)
      | (with_reducible apply thenNor)
      | (with_reducible apply oNil)
      | ((with_reducible apply oCall (h := hB _)); (focus (simp only [rd, List.map_cons, List.map_nil, List.getD_cons_zero, List.getD_cons_succ] <;> rfl)); rintro _ _ ⟨s2, rfl, rfl, hC2⟩; (first | with_reducible apply nT | with_reducible apply nF | (with_reducible refine nB (fun hb => ?_) (fun hb => ?_) <;> (try simp only [decide_eq_true_eq, decide_eq_false_iff_not, beq_iff_eq, bne_iff_ne, ne_eq, beq_eq_false_iff_ne, bne_eq_false_iff_eq, Decidable.not_not, Int.not_lt, Int.not_le] at hb)) | with_reducible apply nV) <;> dsimp only [List.cons_append, List.nil_append, putV, List.set])
      | ((with_reducible apply oOp); (focus (simp (disch := first | omega | assumption | (simp only [set_len, frm_len, List.length_set, List.length_append, List.length_cons, List.length_nil]; first | done | omega) | (simp only [seqOk, List.length_cons, List.length_nil, Nat.reduceAdd, Nat.reduceMul, Nat.zero_mul, Nat.reduceBEq, beq_self_eq_true, Bool.and_self, Bool.and_true, Bool.true_and]; done) | fail) only [push_cast, reduceCtorEq, Nat.reduceAdd, Nat.reduceSub, Nat.reduceMul, Nat.reduceLeDiff, Nat.reduceLT, Nat.reduceEqDiff, Int.reduceToNat, Int.reduceLT, Int.reduceLE, Int.reduceBEq, Int.reduceEq, Int.reduceSub, Int.reduceAdd, Int.reduceMul, Int.reduceNeg, frm_get, frm_set, set_set, fill_ok, fillL_n, fillL_c, List.flatMap_cons, List.flatMap_nil, set_len, frm_getC, frm_setC, wrapI, wrapB, if_pos, if_neg, decT, decF, beqT, beqF, bneT, bneF]; rfl)); (focus rfl); (first | with_reducible apply nT | with_reducible apply nF | (with_reducible refine nB (fun hb => ?_) (fun hb => ?_) <;> (try simp only [decide_eq_true_eq, decide_eq_false_iff_not, beq_iff_eq, bne_iff_ne, ne_eq, beq_eq_false_iff_ne, bne_eq_false_iff_eq, Decidable.not_not, Int.not_lt, Int.not_le] at hb)) | with_reducible apply nV) <;> dsimp only [List.cons_append, List.nil_append, putV, List.set]))
    have hs2 : ∀ p, p ≠ i1 → s2.get D p = s.get D p := fun p h1 => hC2.get D p (by simp [h1])
    have o2' := (hs2 j1 (Ne.symm hnd.1.1)).trans o2
    have hd2 := get_le o2'
    have hL := fun R => marks_frm (marks_ok (prim := prim) l0) (k := k + t0.length) R hd2 rfl o2' (owns_st _ _ _ (fun p hp => hs2 p (fun e => hnd.1.2 (e ▸ hp))) o3) hnd.2 (by omega) (by omega)
    rw [← hC2.len]
    repeat' (first
      | (with_reducible apply wSeq)
      | (with_reducible apply wReg)
      | (with_reducible apply thenNor)
      | (with_reducible apply oNil)
      | (with_reducible apply wRet)
      | ((with_reducible apply oCall (h := hL _)); (focus (simp only [rd, List.map_cons, List.map_nil, List.getD_cons_zero, List.getD_cons_succ] <;> rfl)); rintro _ _ ⟨s3, rfl, rfl, hC3⟩; (first | with_reducible apply nT | with_reducible apply nF | (with_reducible refine nB (fun hb => ?_) (fun hb => ?_) <;> (try simp only [decide_eq_true_eq, decide_eq_false_iff_not, beq_iff_eq, bne_iff_ne, ne_eq, beq_eq_false_iff_ne, bne_eq_false_iff_eq, Decidable.not_not, Int.not_lt, Int.not_le] at hb)) | with_reducible apply nV) <;> dsimp only [List.cons_append, List.nil_append, putV, List.set])
      | ((with_reducible apply oOp); (focus (simp (disch := first | omega | assumption | (simp only [set_len, frm_len, List.length_set, List.length_append, List.length_cons, List.length_nil]; first | done | omega) | (simp only [seqOk, List.length_cons, List.length_nil, Nat.reduceAdd, Nat.reduceMul, Nat.zero_mul, Nat.reduceBEq, beq_self_eq_true, Bool.and_self, Bool.and_true, Bool.true_and]; done) | fail) only [push_cast, reduceCtorEq, Nat.reduceAdd, Nat.reduceSub, Nat.reduceMul, Nat.reduceLeDiff, Nat.reduceLT, Nat.reduceEqDiff, Int.reduceToNat, Int.reduceLT, Int.reduceLE, Int.reduceBEq, Int.reduceEq, Int.reduceSub, Int.reduceAdd, Int.reduceMul, Int.reduceNeg, frm_get, frm_set, set_set, fill_ok, fillL_n, fillL_c, List.flatMap_cons, List.flatMap_nil, set_len, frm_getC, frm_setC, wrapI, wrapB, if_pos, if_neg, decT, decF, beqT, beqF, bneT, bneF]; rfl)); (focus rfl); (first | with_reducible apply nT | with_reducible apply nF | (with_reducible refine nB (fun hb => ?_) (fun hb => ?_) <;> (try simp only [decide_eq_true_eq, decide_eq_false_iff_not, beq_iff_eq, bne_iff_ne, ne_eq, beq_eq_false_iff_ne, bne_eq_false_iff_eq, Decidable.not_not, Int.not_lt, Int.not_le] at hb)) | with_reducible apply nV) <;> dsimp only [List.cons_append, List.nil_append, putV, List.set])
      | ((with_reducible apply endN (fc := c16)); (focus (exact rfl)); (focus (simp (disch := first | omega | assumption | (simp only [set_len, frm_len, List.length_set, List.length_append, List.length_cons, List.length_nil]; first | done | omega) | (simp only [seqOk, List.length_cons, List.length_nil, Nat.reduceAdd, Nat.reduceMul, Nat.zero_mul, Nat.reduceBEq, beq_self_eq_true, Bool.and_self, Bool.and_true, Bool.true_and]; done) | fail) only [push_cast, reduceCtorEq, Nat.reduceAdd, Nat.reduceSub, Nat.reduceMul, Nat.reduceLeDiff, Nat.reduceLT, Nat.reduceEqDiff, Int.reduceToNat, Int.reduceLT, Int.reduceLE, Int.reduceBEq, Int.reduceEq, Int.reduceSub, Int.reduceAdd, Int.reduceMul, Int.reduceNeg, frm_get, frm_set, set_set, fill_ok, fillL_n, fillL_c, List.flatMap_cons, List.flatMap_nil, set_len, frm_getC, frm_setC, wrapI, wrapB, if_pos, if_neg, decT, decF, beqT, beqF, bneT, bneF, c16]; rfl)); (focus (repeat' (first | (with_reducible exact frzL_nil) | (with_reducible exact frzs_nil) | (with_reducible apply frzL_cons) | (with_reducible apply frzs_cons) | (with_reducible apply frz_agg) | (with_reducible apply frzR_agg) | (with_reducible apply frzR_tup) | (with_reducible exact frz1_imm) | (with_reducible exact frz_imm) | (with_reducible exact frzR_imm) | (with_reducible exact frz1_int) | (with_reducible exact frz_int) | (with_reducible exact frzR_int) | (with_reducible exact frz1_bool) | (with_reducible exact frz_bool) | (with_reducible exact frzR_bool) | (with_reducible exact frz1_str) | (with_reducible exact frz_str) | (with_reducible exact frzR_str) | (with_reducible exact frz1_ptr) | (with_reducible exact frz_ptr) | (with_reducible exact frzR_ptr) | (with_reducible exact frz1_fn) | (with_reducible exact frz_fn) | (with_reducible exact frzR_fn) | (with_reducible exact frz1_aptr) | (with_reducible apply frz_slr) | (with_reducible apply frzR_slr) | ((with_reducible apply frz1_slr); (focus (simp (disch := first | omega | assumption | (simp only [set_len, frm_len, List.length_set, List.length_append, List.length_cons, List.length_nil]; first | done | omega) | (simp only [seqOk, List.length_cons, List.length_nil, Nat.reduceAdd, Nat.reduceMul, Nat.zero_mul, Nat.reduceBEq, beq_self_eq_true, Bool.and_self, Bool.and_true, Bool.true_and]; done) | fail) only [push_cast, reduceCtorEq, Nat.reduceAdd, Nat.reduceSub, Nat.reduceMul, Nat.reduceLeDiff, Nat.reduceLT, Nat.reduceEqDiff, Int.reduceToNat, Int.reduceLT, Int.reduceLE, Int.reduceBEq, Int.reduceEq, Int.reduceSub, Int.reduceAdd, Int.reduceMul, Int.reduceNeg, frm_get, frm_set, set_set, fill_ok, fillL_n, fillL_c, List.flatMap_cons, List.flatMap_nil, set_len, frm_getC, frm_setC, wrapI, wrapB, if_pos, if_neg, decT, decF, beqT, beqF, bneT, bneF]; rfl)); (focus (simp (disch := first | omega | assumption | (simp only [set_len, frm_len, List.length_set, List.length_append, List.length_cons, List.length_nil]; first | done | omega) | (simp only [seqOk, List.length_cons, List.length_nil, Nat.reduceAdd, Nat.reduceMul, Nat.zero_mul, Nat.reduceBEq, beq_self_eq_true, Bool.and_self, Bool.and_true, Bool.true_and]; done) | fail) only [push_cast, reduceCtorEq, Nat.reduceAdd, Nat.reduceSub, Nat.reduceMul, Nat.reduceLeDiff, Nat.reduceLT, Nat.reduceEqDiff, Int.reduceToNat, Int.reduceLT, Int.reduceLE, Int.reduceBEq, Int.reduceEq, Int.reduceSub, Int.reduceAdd, Int.reduceMul, Int.reduceNeg, frm_get, frm_set, set_set, fill_ok, fillL_n, fillL_c, List.flatMap_cons, List.flatMap_nil, set_len, frm_getC, frm_setC, wrapI, wrapB, if_pos, if_neg, decT, decF, beqT, beqF, bneT, bneF] <;> rfl)); (focus (simp (disch := first | omega | assumption | (simp only [set_len, frm_len, List.length_set, List.length_append, List.length_cons, List.length_nil]; first | done | omega) | (simp only [seqOk, List.length_cons, List.length_nil, Nat.reduceAdd, Nat.reduceMul, Nat.zero_mul, Nat.reduceBEq, beq_self_eq_true, Bool.and_self, Bool.and_true, Bool.true_and]; done) | fail) only [push_cast, reduceCtorEq, Nat.reduceAdd, Nat.reduceSub, Nat.reduceMul, Nat.reduceLeDiff, Nat.reduceLT, Nat.reduceEqDiff, Int.reduceToNat, Int.reduceLT, Int.reduceLE, Int.reduceBEq, Int.reduceEq, Int.reduceSub, Int.reduceAdd, Int.reduceMul, Int.reduceNeg, frm_get, frm_set, set_set, fill_ok, fillL_n, fillL_c, List.flatMap_cons, List.flatMap_nil, set_len, frm_getC, frm_setC, wrapI, wrapB, if_pos, if_neg, decT, decF, beqT, beqF, bneT, bneF]; done)); (focus (first | (simp (disch := first | omega | assumption | (simp only [set_len, frm_len, List.length_set, List.length_append, List.length_cons, List.length_nil]; first | done | omega) | (simp only [seqOk, List.length_cons, List.length_nil, Nat.reduceAdd, Nat.reduceMul, Nat.zero_mul, Nat.reduceBEq, beq_self_eq_true, Bool.and_self, Bool.and_true, Bool.true_and]; done) | fail) only [push_cast, reduceCtorEq, Nat.reduceAdd, Nat.reduceSub, Nat.reduceMul, Nat.reduceLeDiff, Nat.reduceLT, Nat.reduceEqDiff, Int.reduceToNat, Int.reduceLT, Int.reduceLE, Int.reduceBEq, Int.reduceEq, Int.reduceSub, Int.reduceAdd, Int.reduceMul, Int.reduceNeg, frm_get, frm_set, set_set, fill_ok, fillL_n, fillL_c, List.flatMap_cons, List.flatMap_nil, set_len, frm_getC, frm_setC, wrapI, wrapB, if_pos, if_neg, decT, decF, beqT, beqF, bneT, bneF]; done) | (simp (disch := first | omega | assumption | (simp only [set_len, frm_len, List.length_set, List.length_append, List.length_cons, List.length_nil]; first | done | omega) | (simp only [seqOk, List.length_cons, List.length_nil, Nat.reduceAdd, Nat.reduceMul, Nat.zero_mul, Nat.reduceBEq, beq_self_eq_true, Bool.and_self, Bool.and_true, Bool.true_and]; done) | fail) only [push_cast, reduceCtorEq, Nat.reduceAdd, Nat.reduceSub, Nat.reduceMul, Nat.reduceLeDiff, Nat.reduceLT, Nat.reduceEqDiff, Int.reduceToNat, Int.reduceLT, Int.reduceLE, Int.reduceBEq, Int.reduceEq, Int.reduceSub, Int.reduceAdd, Int.reduceMul, Int.reduceNeg, frm_get, frm_set, set_set, fill_ok, fillL_n, fillL_c, List.flatMap_cons, List.flatMap_nil, set_len, frm_getC, frm_setC, wrapI, wrapB, if_pos, if_neg, decT, decF, beqT, beqF, bneT, bneF]; omega)))) | dsimp only))); (focus (simp (disch := first | omega | assumption | (simp only [set_len, frm_len, List.length_set, List.length_append, List.length_cons, List.length_nil]; first | done | omega) | (simp only [seqOk, List.length_cons, List.length_nil, Nat.reduceAdd, Nat.reduceMul, Nat.zero_mul, Nat.reduceBEq, beq_self_eq_true, Bool.and_self, Bool.and_true, Bool.true_and]; done) | fail) only [push_cast, reduceCtorEq, Nat.reduceAdd, Nat.reduceSub, Nat.reduceMul, Nat.reduceLeDiff, Nat.reduceLT, Nat.reduceEqDiff, Int.reduceToNat, Int.reduceLT, Int.reduceLE, Int.reduceBEq, Int.reduceEq, Int.reduceSub, Int.reduceAdd, Int.reduceMul, Int.reduceNeg, frm_get, frm_set, set_set, fill_ok, fillL_n, fillL_c, List.flatMap_cons, List.flatMap_nil, set_len, frm_getC, frm_setC, wrapI, wrapB, if_pos, if_neg, decT, decF, beqT, beqF, bneT, bneF]; done)); (focus (simp (disch := first | omega | assumption | (simp only [set_len, frm_len, List.length_set, List.length_append, List.length_cons, List.length_nil]; first | done | omega) | (simp only [seqOk, List.length_cons, List.length_nil, Nat.reduceAdd, Nat.reduceMul, Nat.zero_mul, Nat.reduceBEq, beq_self_eq_true, Bool.and_self, Bool.and_true, Bool.true_and]; done) | fail) only [frm_setC, frm_set, set_len, frm_set_top, pop_frm]; rfl)); dsimp only))
    refine ⟨by push_cast; rw [Int.add_assoc], (hC2.mono fun p hp => ?_).trans (hC3.mono fun p hp => List.mem_cons_of_mem _ hp)⟩
    simp only [List.mem_singleton] at hp
    simp [hp]
end Go.Proofs.YthogcanomihelaaDoor.Gx
