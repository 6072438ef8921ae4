/- Values (trees) in a frame; their copies. -/
import Derived.Test.YthogcanomihelaaDoorXa
set_option linter.unusedSimpArgs false
set_option linter.unusedVariables false
namespace Go.Proofs.YthogcanomihelaaDoor.Gx
open Go Go.Proofs Go.Proofs.YthogcanomihelaaDoor.Ae
attribute [local congr] obind_congr
attribute [local push_cast] exF argsV frzs frz frzL frz1 exS_reg exS_seq exS_cond exS_alt exS_block exS_loop exS_exit exS_ret exS_skip evReg evOps evOne evAct evOp rd putV st0 evEnd resV resL resOne oneOr frzR loadV storeV binV binI unV push_frm pop_frm frm_len frm_top frm_get_top frm_set_top frm_new AV.cells AV.lowB AV.lowL AV.isCell cellsOk set_len Option.bind_some Option.map_some Option.map_none List.getD_cons_zero List.getD_cons_succ List.nil_append List.cons_append List.append_nil List.length_cons List.length_nil List.set_cons_zero List.set_cons_succ List.map_cons List.map_nil List.replicate if_true if_false ite_true ite_false ite_self Bool.false_eq_true List.all_cons List.all_nil Bool.and_true Bool.true_and Bool.and_self Bool.and_eq_true List.getElem?_cons_zero List.getElem?_cons_succ List.drop_succ_cons List.drop_zero List.take_succ_cons List.take_zero true_and and_true and_self decide_true decide_false Bool.not_true Bool.not_false Prod.mk.injEq Option.some.injEq List.getElem?_drop optInt elems sliceV partsOf Nat.add_zero Nat.zero_add Nat.mul_one beq_self_eq_true litParts Bool.or_false Bool.false_or Bool.or_true Bool.true_or Bool.false_and Bool.and_false List.cons.injEq not_false_eq_true not_true_eq_false Nat.zero_le Nat.le_refl gt_iff_lt ge_iff_le List.drop_nil List.take_nil newBox List.length_append List.length_map bne_self_eq_false eq_self Nat.lt_add_one ne_eq false_implies Int.le_refl

variable {prim : CallT}
inductive Vt where
  | mk (k n : Int) (t : List Int) (kids : List Vt)
mutual
def Vt.az : Vt → List AV
  | .mk k n t kids => [.int .i64 k, .int .i64 n, .imm false t.length (bys t), .imm false kids.length (azs kids)]
def azs : List Vt → List AV
  | [] => []
  | v :: r => v.az ++ azs r
end
mutual
def Vt.sz : Vt → Nat
  | .mk _ _ t kids => t.length + szs kids
def szs : List Vt → Nat
  | [] => 0
  | v :: r => 1 + v.sz + szs r
end
theorem az_len : ∀ v : Vt, v.az.length = 4
  | .mk k n t kids => rfl
theorem azs_len : ∀ l : List Vt, (azs l).length = l.length * 4
  | [] => rfl
  | v :: r => by rw [azs, List.length_append, az_len, azs_len r, List.length_cons]; omega
theorem szs_le : ∀ l : List Vt, l.length ≤ szs l
  | [] => Nat.le_refl _
  | v :: r => by have := szs_le r; simp only [szs, List.length_cons]; omega
theorem szs_mem {v : Vt} : ∀ {l : List Vt}, v ∈ l → v.sz ≤ szs l
  | [], h => by cases h
  | x :: r, h => by
    simp only [szs]
    rcases List.mem_cons.1 h with rfl | h
    · omega
    · have := szs_mem h; omega
theorem drop_add {α : Type} (A B : List α) (k : Nat) : (A ++ B).drop (A.length + k) = B.drop k := by
  rw [List.drop_append]
  simp
theorem azs_drop : ∀ (l : List Vt) (k : Nat), (azs l).drop (k * 4) = azs (l.drop k)
  | [], k => by simp [azs]
  | v :: r, 0 => by simp
  | v :: r, k + 1 => by
    rw [azs, List.drop_succ_cons, ← azs_drop r k, show (k + 1) * 4 = v.az.length + k * 4 by rw [az_len]; omega, drop_add]
theorem azs_at {l : List Vt} {k : Nat} (h : k < l.length) : 4 ≤ ((azs l).drop (k * 4)).length ∧ ((azs l).drop (k * 4)).take 4 = l[k].az := by
  rw [azs_drop, List.drop_eq_getElem_cons h, azs]
  refine ⟨by rw [List.length_append, az_len]; omega, ?_⟩
  rw [← az_len l[k]]
  exact List.take_left' rfl
mutual
/-- A value all of whose slices lie in arrays of depth D of their own. -/
def OwnV (s : Store) (D : Nat) : Vt → List AV → List Nat → Prop
  | .mk k n t kids, c, f => ∃ i j cs fp, c = [.int .i64 k, .int .i64 n, .slr D i 0 t.length 0 false, .slr D j 0 kids.length 0 false] ∧ f = i :: j :: fp ∧ s.get D i = some (.arr 5 1 (bys t) 0 0) ∧ s.get D j = some (.arr 25 4 cs 0 0) ∧ OwnVs s D kids cs fp
def OwnVs (s : Store) (D : Nat) : List Vt → List AV → List Nat → Prop
  | [], c, f => c = [] ∧ f = []
  | v :: r, c, f => ∃ c1 c2 f1 f2, c = c1 ++ c2 ∧ f = f1 ++ f2 ∧ OwnV s D v c1 f1 ∧ OwnVs s D r c2 f2
end
mutual
theorem own_st {s s' : Store} {D : Nat} : ∀ (v : Vt) (c : List AV) (f : List Nat), (∀ i ∈ f, s'.get D i = s.get D i) → OwnV s D v c f → OwnV s' D v c f
  | .mk k n t kids, c, f, h, ho => by
    simp only [OwnV] at ho ⊢
    obtain ⟨i, j, cs, fp, h1, rfl, h3, h4, h5⟩ := ho
    exact ⟨i, j, cs, fp, h1, rfl, by rw [h i (by simp)]; exact h3, by rw [h j (by simp)]; exact h4, owns_st kids cs fp (fun q hq => h q (by simp [hq])) h5⟩
theorem owns_st {s s' : Store} {D : Nat} : ∀ (l : List Vt) (c : List AV) (f : List Nat), (∀ i ∈ f, s'.get D i = s.get D i) → OwnVs s D l c f → OwnVs s' D l c f
  | [], c, f, h, ho => by simpa only [OwnVs] using ho
  | v :: r, c, f, h, ho => by
    simp only [OwnVs] at ho ⊢
    obtain ⟨c1, c2, f1, f2, h1, rfl, h3, h4⟩ := ho
    exact ⟨c1, c2, f1, f2, h1, rfl, own_st v c1 f1 (fun i hi => h i (by simp [hi])) h3, owns_st r c2 f2 (fun i hi => h i (by simp [hi])) h4⟩
end
theorem own_len {s : Store} {D : Nat} : ∀ {v : Vt} {c : List AV} {f : List Nat}, OwnV s D v c f → c.length = 4 ∧ cellsOk (D + 1) c = true
  | .mk k n t kids, c, f, h => by
    simp only [OwnV] at h
    obtain ⟨i, j, cs, fp, rfl, _⟩ := h
    exact ⟨rfl, by simp [cellsOk, AV.isCell, AV.lowB]⟩
theorem owns_len {s : Store} {D : Nat} : ∀ {l : List Vt} {c : List AV} {f : List Nat}, OwnVs s D l c f → c.length = l.length * 4 ∧ cellsOk (D + 1) c = true
  | [], c, f, h => by
    simp only [OwnVs] at h
    rw [h.1]
    exact ⟨rfl, rfl⟩
  | v :: r, c, f, h => by
    simp only [OwnVs] at h
    obtain ⟨c1, c2, f1, f2, rfl, rfl, h3, h4⟩ := h
    obtain ⟨a1, a2⟩ := own_len h3
    obtain ⟨b1, b2⟩ := owns_len h4
    refine ⟨by rw [List.length_append, a1, b1, List.length_cons]; omega, ?_⟩
    simp only [cellsOk] at a2 b2 ⊢
    rw [List.all_append, a2, b2]
    rfl
theorem owns_snoc {s : Store} {D : Nat} {v : Vt} {c1 : List AV} {f1 : List Nat} (hv : OwnV s D v c1 f1) : ∀ {l : List Vt} {c : List AV} {f : List Nat}, OwnVs s D l c f → OwnVs s D (l ++ [v]) (c ++ c1) (f ++ f1)
  | [], c, f, h => by
    simp only [OwnVs] at h
    obtain ⟨rfl, rfl⟩ := h
    simp only [List.nil_append, OwnVs]
    exact ⟨c1, [], f1, [], by simp, by simp, hv, rfl, rfl⟩
  | x :: r, c, f, h => by
    simp only [OwnVs] at h
    obtain ⟨a1, a2, b1, b2, rfl, rfl, h3, h4⟩ := h
    simp only [List.cons_append, OwnVs]
    exact ⟨a1, a2 ++ c1, b1, b2 ++ f1, by simp, by simp, h3, owns_snoc hv h4⟩

theorem app_get {α : Type} (T R : List α) (j : Nat) : (T ++ R)[T.length + j]? = R[j]? := by rw [List.getElem?_append_right (by omega)]; congr 1; omega
theorem app_get0 {α : Type} (T R : List α) : (T ++ R)[T.length]? = R[0]? := by rw [List.getElem?_append_right (Nat.le_refl _), Nat.sub_self]
theorem app_set {α : Type} (T R : List α) (j : Nat) (o : α) : (T ++ R).set (T.length + j) o = T ++ R.set j o := by rw [List.set_append_right _ _ (by omega)]; congr 2; omega
theorem app_set0 {α : Type} (T R : List α) (o : α) : (T ++ R).set T.length o = T ++ R.set 0 o := by rw [List.set_append_right _ _ (Nat.le_refl _), Nat.sub_self]
/-- What lay in a frame lies there still. -/
def Grw (T T' : List Ae.Obj) : Prop := T.length ≤ T'.length ∧ ∀ i, i < T.length → T'[i]? = T[i]?
theorem Grw.refl (T : List Ae.Obj) : Grw T T := ⟨Nat.le_refl _, fun _ _ => rfl⟩
theorem Grw.trans {T T1 T2 : List Ae.Obj} (h : Grw T T1) (k : Grw T1 T2) : Grw T T2 := ⟨Nat.le_trans h.1 k.1, fun i hi => (k.2 i (Nat.lt_of_lt_of_le hi h.1)).trans (h.2 i hi)⟩
theorem grw_app (T R : List Ae.Obj) : Grw T (T ++ R) := ⟨by simp, fun i hi => List.getElem?_append_left hi⟩
theorem Grw.set {T T1 : List Ae.Obj} (h : Grw T T1) {j : Nat} (hj : T.length ≤ j) (o : Ae.Obj) : Grw T (T1.set j o) := ⟨by rw [List.length_set]; exact h.1, fun i hi => by rw [List.getElem?_set_ne (by omega)]; exact h.2 i hi⟩
theorem Grw.at {T T' : List Ae.Obj} (h : Grw T T') {i : Nat} {o : Ae.Obj} (ho : T[i]? = some o) : T'[i]? = some o := by rw [h.2 i (List.getElem?_eq_some_iff.1 ho).1]; exact ho
/-- A value that was made anew behind n. -/
def New (n : Nat) (T' : List Ae.Obj) (fp : List Nat) : Prop := (∀ i ∈ fp, n ≤ i ∧ i < T'.length) ∧ fp.Nodup
theorem storeA {call : CallT} {ls vs : List AV} {s : Store} {T : List Ae.Obj} {i off n e sz ver pr : Nat} {cs ys : List AV} {pa xa : Opd} (hp : rd ls vs pa = .aptr (s.low.length + 1) i off ver) (hx : rd ls vs xa = .agg ys) (hg : T[i]? = some (.arr e sz cs ver pr))
    (hc : cellsOk (s.low.length + 1 + 1) ys = true) (hn : ys.length = n) (ho : off + n ≤ cs.length) (hpr : pr ≤ off) :
    evOne call ⟨.store n pa xa, none, none⟩ ls vs (frm s T) = some (.undef, frm s (T.set i (.arr e sz (cs.take off ++ ys ++ cs.drop (off + n)) ver pr))) := by
  simp only [evOne, evAct, evOp, hp, hx, storeV, AV.cells, frm_get_top, hg]
  rw [if_pos ⟨hc, hn, ho, trivial, hpr⟩, frm_set_top]
  rfl
def ToP (prim : CallT) (v : Vt) : Prop := ∀ (s : Store) (T : List Ae.Obj), v.sz ≤ 1000000000 → ∃ v' s', callF (tab tbl) prim 11 [.agg v.az] (frm s T) = some (v', s') ∧
  ∃ T' c fp, v' = .agg c ∧ s' = frm s T' ∧ OwnV (frm s T') (s.low.length + 1) v c fp ∧ Grw T T' ∧ New T.length T' fp
set_option maxHeartbeats 4000000 in
theorem toVs_step {kids : List Vt} (ih : ∀ v ∈ kids, ToP prim v) {s : Store} {T : List Ae.Obj} {f : Bool} {n : Nat} (hn : kids.length = n) (hsz : szs kids ≤ 1000000000) : ∃ v' s', callF (tab tbl) prim 12 [.imm f n (azs kids)] (frm s T) = some (v', s') ∧
    ∃ T' j cs fp, v' = .slr (s.low.length + 1) j 0 n 0 false ∧ s' = frm s T' ∧ T'[j]? = some (.arr 25 4 cs 0 0) ∧ OwnVs (frm s T') (s.low.length + 1) kids cs fp ∧ Grw T T' ∧ New T.length T' (j :: fp) := by
  subst hn
  have hle := szs_le kids
  obtain ⟨z, hz⟩ : ∃ z : List AV, z = [.int .i64 0, .int .i64 0, .imm true 0 [], .imm true 0 []] := ⟨_, rfl⟩
  have hmk := mk_frm (s := s) (T := T) (e := 25) (sz := 4) (bytes := 64) (n := kids.length) (z := z) (by rw [hz]; rfl) (by rw [hz]; rfl) (by omega)
  have hzl : z.length = 4 := by rw [hz]; rfl
  rw [hz] at hmk
  refine funW (fc := c12) rfl (by exact rfl) (by simp only [c12]; rfl) (by simp only [c12, st0, push_frm, if_false, if_true, Bool.false_eq_true, Nat.reduceSub, List.replicate, List.cons_append, List.nil_append]; rfl) ?_
  repeat' (first
    | (with_reducible apply wSeq)
    | (with_reducible apply wReg)
    | (with_reducible apply wBlock)
    | (with_reducible apply thenNor)
    | (with_reducible apply oNil)
    | ((with_reducible apply oOp); (focus (simp (disch := first | omega | assumption | (simp only [set_len, frm_len, List.length_set, List.length_append, List.length_cons, List.length_nil]; first | done | omega) | (simp only [seqOk, List.length_cons, List.length_nil, Nat.reduceAdd, Nat.reduceMul, Nat.zero_mul, Nat.reduceBEq, beq_self_eq_true, Bool.and_self, Bool.and_true, Bool.true_and]; done) | fail) only [push_cast, reduceCtorEq, Nat.reduceAdd, Nat.reduceSub, Nat.reduceMul, Nat.reduceLeDiff, Nat.reduceLT, Nat.reduceEqDiff, Int.reduceToNat, Int.reduceLT, Int.reduceLE, Int.reduceBEq, Int.reduceEq, Int.reduceSub, Int.reduceAdd, Int.reduceMul, Int.reduceNeg, frm_get, frm_set, set_set, fill_ok, fillL_n, fillL_c, List.flatMap_cons, List.flatMap_nil, set_len, frm_getC, frm_setC, wrapI, wrapB, if_pos, if_neg, decT, decF, beqT, beqF, bneT, bneF, hmk]; rfl)); (focus rfl); (first | with_reducible apply nT | with_reducible apply nF | (with_reducible refine nB (fun hb => ?_) (fun hb => ?_) <;> (try simp only [decide_eq_true_eq, decide_eq_false_iff_not, beq_iff_eq, bne_iff_ne, ne_eq, beq_eq_false_iff_ne, bne_eq_false_iff_eq, Decidable.not_not, Int.not_lt, Int.not_le] at hb)) | with_reducible apply nV) <;> dsimp only [List.cons_append, List.nil_append, putV, List.set]))
  rw [← hz]
  refine wLoop (fun m st => ∃ (q : Nat) (y1 y4 : AV) (T1 : List Ae.Obj) (cs : List AV) (fp : List Nat), (m : Int) = kids.length - q ∧ q ≤ kids.length ∧ T1[T.length]? = some (.arr 25 4 (cs ++ repL (kids.length - q) z) 0 0) ∧ OwnVs (frm s T1) (s.low.length + 1) (kids.take q) cs fp ∧ Grw T T1 ∧ New T.length T1 (T.length :: fp) ∧
    st = ⟨[.imm f kids.length (azs kids), y1, .slr (s.low.length + 1) T.length 0 kids.length 0 false, .int .i64 q, y4], frm s T1⟩) kids.length ?_ ?_
  · refine ⟨0, .imm true 0 [], .undef, T ++ [.arr 25 4 (repL kids.length z) 0 0], [], [], by omega, by omega, by simp, by simp [OwnVs], grw_app _ _, ⟨fun i hi => ?_, by simp⟩, by simp⟩
    simp at hi
    subst hi
    simp
  · rintro m st ⟨q, y1, y4, T1, cs, fp, hm, hq, hg, hO, hG, hN, rfl⟩
    by_cases hlt : q < kids.length
    · obtain ⟨ha1, ha2⟩ := azs_at hlt
      have hkz := szs_mem (List.getElem_mem hlt)
      obtain ⟨ve, se, e, T2, c, fp2, rfl, rfl, hO2, hG2, hN2⟩ := ih kids[q] (List.getElem_mem hlt) s T1 (by omega)
      obtain ⟨hc4, hcok⟩ := own_len hO2
      obtain ⟨hl, _⟩ := owns_len hO
      have hg2 := hG2.at hg
      rw [List.length_take, Nat.min_eq_left hq] at hl
      have hlen : (cs ++ repL (kids.length - q) z).length = kids.length * 4 := by rw [List.length_append, hl, repL_length, hzl]; omega
      have hspl : (cs ++ repL (kids.length - q) z).take (q * 4) ++ c ++ (cs ++ repL (kids.length - q) z).drop (q * 4 + 4) = (cs ++ c) ++ repL (kids.length - (q + 1)) z := by
        rw [List.take_left' hl, ← hl, show kids.length - q = (kids.length - (q + 1)) + 1 by omega, repL, ← hzl, drop_add, List.drop_left' rfl]
      have hrl : (repL (kids.length - q) z).length = (kids.length - q) * 4 := by rw [repL_length, hzl]
      have hle4 : q * 4 + 4 ≤ (cs ++ repL (kids.length - q) z).length := by omega
      repeat' (first
        | (with_reducible apply wSeq)
        | (with_reducible apply wReg)
        | (with_reducible apply wBlock)
        | (with_reducible apply thenNor)
        | (with_reducible apply blockNor)
        | (with_reducible apply oNil)
        | (with_reducible apply wSkip)
        | ((with_reducible apply wCondT); (focus (simp only [rd, List.getD_cons_zero, List.getD_cons_succ]; done)))
        | (apply oOp (storeA ?_ ?_ hg2 hcok hc4 hle4 (Nat.zero_le _)) rfl; (any_goals (focus (simp only [rd, List.getD_cons_zero, List.getD_cons_succ]; done))); with_reducible apply nV; dsimp only [List.cons_append, List.nil_append, putV, List.set])
        | ((with_reducible apply oOp); (focus (simp (disch := first | omega | assumption | (simp only [set_len, frm_len, List.length_set, List.length_append, List.length_cons, List.length_nil]; first | done | omega) | (simp only [seqOk, List.length_cons, List.length_nil, Nat.reduceAdd, Nat.reduceMul, Nat.zero_mul, Nat.reduceBEq, beq_self_eq_true, Bool.and_self, Bool.and_true, Bool.true_and]; done) | fail) only [push_cast, reduceCtorEq, Nat.reduceAdd, Nat.reduceSub, Nat.reduceMul, Nat.reduceLeDiff, Nat.reduceLT, Nat.reduceEqDiff, Int.reduceToNat, Int.reduceLT, Int.reduceLE, Int.reduceBEq, Int.reduceEq, Int.reduceSub, Int.reduceAdd, Int.reduceMul, Int.reduceNeg, frm_get, frm_set, set_set, fill_ok, fillL_n, fillL_c, List.flatMap_cons, List.flatMap_nil, set_len, frm_getC, frm_setC, wrapI, wrapB, if_pos, if_neg, decT, decF, beqT, beqF, bneT, bneF, ha1, ha2, e, Int.toNat_natCast]; rfl)); (focus rfl); (first | with_reducible apply nT | with_reducible apply nF | (with_reducible refine nB (fun hb => ?_) (fun hb => ?_) <;> (try simp only [decide_eq_true_eq, decide_eq_false_iff_not, beq_iff_eq, bne_iff_ne, ne_eq, beq_eq_false_iff_ne, bne_eq_false_iff_eq, Decidable.not_not, Int.not_lt, Int.not_le] at hb)) | with_reducible apply nV) <;> dsimp only [List.cons_append, List.nil_append, putV, List.set]))
      rw [hspl]
      refine loopNor (m - 1) (by omega) ⟨q + 1, y1, .bool true, _, cs ++ c, fp ++ fp2, by push_cast; omega, by omega, List.getElem?_set_self (List.getElem?_eq_some_iff.1 hg2).1, ?_, (hG.trans hG2).set (Nat.le_refl _) _, ?_, ?_⟩
      · rw [List.take_succ_eq_append_getElem hlt]
        have hst : ∀ i, i ≠ T.length → (frm s (T2.set T.length (.arr 25 4 ((cs ++ c) ++ repL (kids.length - (q + 1)) z) 0 0))).get (s.low.length + 1) i = (frm s T2).get (s.low.length + 1) i := fun i hi => by
          rw [frm_get_top, frm_get_top, List.getElem?_set_ne (Ne.symm hi)]
        refine owns_snoc (own_st _ _ _ (fun i hi => hst i ?_) hO2) (owns_st _ _ _ (fun i hi => (hst i ?_).trans ?_) hO)
        · have := (hN2.1 i hi).1
          have := hG.1
          have := (hN.1 T.length (by simp)).2
          omega
        · rintro rfl
          have := hN.2
          simp only [List.nodup_cons] at this
          exact this.1 hi
        · rw [frm_get_top, frm_get_top]
          exact hG2.2 i (hN.1 i (by simp [hi])).2
      · refine ⟨fun i hi => ?_, ?_⟩
        · rw [List.length_set]
          simp only [List.mem_cons, List.mem_append] at hi
          rcases hi with rfl | hi | hi
          · exact ⟨Nat.le_refl _, (List.getElem?_eq_some_iff.1 hg2).1⟩
          · have := hN.1 i (by simp [hi])
            have := hG2.1
            omega
          · have := hN2.1 i hi
            have := hG.1
            omega
        · rw [← List.cons_append, List.nodup_append]
          refine ⟨hN.2, hN2.2, fun a ha b hb hab => ?_⟩
          subst hab
          have := (hN.1 a ha).2
          have := (hN2.1 a hb).1
          omega
      · rw [show (q : Int) + 1 = ((q + 1 : Nat) : Int) by omega]
    · obtain rfl : q = kids.length := by omega
      rw [Nat.sub_self, repL, List.append_nil] at hg
      rw [List.take_length] at hO
      repeat' (first
        | (with_reducible apply wSeq)
        | (with_reducible apply wReg)
        | (with_reducible apply thenNor)
        | (with_reducible apply thenExit)
        | (with_reducible apply blockExit)
        | (with_reducible apply oNil)
        | (with_reducible apply wExit)
        | (with_reducible apply wRet)
        | (with_reducible apply loopExit)
        | ((with_reducible apply wCondF); (focus (simp only [rd, List.getD_cons_zero, List.getD_cons_succ]; done)))
        | ((with_reducible apply oOp); (focus (simp (disch := first | omega | assumption | (simp only [set_len, frm_len, List.length_set, List.length_append, List.length_cons, List.length_nil]; first | done | omega) | (simp only [seqOk, List.length_cons, List.length_nil, Nat.reduceAdd, Nat.reduceMul, Nat.zero_mul, Nat.reduceBEq, beq_self_eq_true, Bool.and_self, Bool.and_true, Bool.true_and]; done) | fail) only [push_cast, reduceCtorEq, Nat.reduceAdd, Nat.reduceSub, Nat.reduceMul, Nat.reduceLeDiff, Nat.reduceLT, Nat.reduceEqDiff, Int.reduceToNat, Int.reduceLT, Int.reduceLE, Int.reduceBEq, Int.reduceEq, Int.reduceSub, Int.reduceAdd, Int.reduceMul, Int.reduceNeg, frm_get, frm_set, set_set, fill_ok, fillL_n, fillL_c, List.flatMap_cons, List.flatMap_nil, set_len, frm_getC, frm_setC, wrapI, wrapB, if_pos, if_neg, decT, decF, beqT, beqF, bneT, bneF]; rfl)); (focus rfl); (first | with_reducible apply nT | with_reducible apply nF | (with_reducible refine nB (fun hb => ?_) (fun hb => ?_) <;> (try simp only [decide_eq_true_eq, decide_eq_false_iff_not, beq_iff_eq, bne_iff_ne, ne_eq, beq_eq_false_iff_ne, bne_eq_false_iff_eq, Decidable.not_not, Int.not_lt, Int.not_le] at hb)) | with_reducible apply nV) <;> dsimp only [List.cons_append, List.nil_append, putV, List.set])
        | ((with_reducible apply endI); (focus (simp (disch := first | omega | assumption | (simp only [set_len, frm_len, List.length_set, List.length_append, List.length_cons, List.length_nil]; first | done | omega) | (simp only [seqOk, List.length_cons, List.length_nil, Nat.reduceAdd, Nat.reduceMul, Nat.zero_mul, Nat.reduceBEq, beq_self_eq_true, Bool.and_self, Bool.and_true, Bool.true_and]; done) | fail) only [push_cast, reduceCtorEq, Nat.reduceAdd, Nat.reduceSub, Nat.reduceMul, Nat.reduceLeDiff, Nat.reduceLT, Nat.reduceEqDiff, Int.reduceToNat, Int.reduceLT, Int.reduceLE, Int.reduceBEq, Int.reduceEq, Int.reduceSub, Int.reduceAdd, Int.reduceMul, Int.reduceNeg, frm_get, frm_set, set_set, fill_ok, fillL_n, fillL_c, List.flatMap_cons, List.flatMap_nil, set_len, frm_getC, frm_setC, wrapI, wrapB, if_pos, if_neg, decT, decF, beqT, beqF, bneT, bneF, c12]; rfl)); (focus rfl)))
      exact ⟨T1, T.length, cs, fp, rfl, rfl, hg, hO, hG, hN⟩
set_option maxHeartbeats 4000000 in
theorem toV_step {k n : Int} {t : List Int} {kids : List Vt} (ih : ∀ v ∈ kids, ToP prim v) : ToP prim (.mk k n t kids) := by
  intro s T hsz
  simp only [Vt.sz] at hsz
  have hT1 := fun R : List Ae.Obj => toB_ok (prim := prim) (s := s) (T := T ++ R) (D := s.low.length + 1) (f := false) (t := t) rfl rfl (by omega)
  have hT2 := fun R : List Ae.Obj => toVs_step (prim := prim) ih (s := s) (T := T ++ R) (f := false) rfl (by omega)
  refine funW (fc := c11) rfl (by exact rfl) (by simp only [c11]; rfl) (by simp only [c11, st0, push_frm, if_false, if_true, Bool.false_eq_true, Nat.reduceSub, List.replicate, List.cons_append, List.nil_append]; rfl) ?_
  repeat' (first
    | (with_reducible apply wSeq)
    | (with_reducible apply wReg)
    | (with_reducible apply thenNor)
    | (with_reducible apply oNil)
    | ((with_reducible apply oCall (h := hT1 _)); (focus (simp only [rd, List.map_cons, List.map_nil, List.getD_cons_zero, List.getD_cons_succ] <;> rfl)); rintro _ _ ⟨rfl, rfl⟩; (first | with_reducible apply nT | with_reducible apply nF | (with_reducible refine nB (fun hb => ?_) (fun hb => ?_) <;> (try simp only [decide_eq_true_eq, decide_eq_false_iff_not, beq_iff_eq, bne_iff_ne, ne_eq, beq_eq_false_iff_ne, bne_eq_false_iff_eq, Decidable.not_not, Int.not_lt, Int.not_le] at hb)) | with_reducible apply nV) <;> dsimp only [List.cons_append, List.nil_append, putV, List.set])
    | ((with_reducible apply oCall (h := hT2 _)); (focus (simp only [rd, List.map_cons, List.map_nil, List.getD_cons_zero, List.getD_cons_succ] <;> rfl)); rintro _ _ ⟨T', j, cs, fp, rfl, rfl, hg, hO, hG, hN⟩; (first | with_reducible apply nT | with_reducible apply nF | (with_reducible refine nB (fun hb => ?_) (fun hb => ?_) <;> (try simp only [decide_eq_true_eq, decide_eq_false_iff_not, beq_iff_eq, bne_iff_ne, ne_eq, beq_eq_false_iff_ne, bne_eq_false_iff_eq, Decidable.not_not, Int.not_lt, Int.not_le] at hb)) | with_reducible apply nV) <;> dsimp only [List.cons_append, List.nil_append, putV, List.set])
    | ((with_reducible apply oOp); (focus (simp (disch := first | omega | assumption | (simp only [set_len, frm_len, List.length_set, List.length_append, List.length_cons, List.length_nil]; first | done | omega) | (simp only [seqOk, List.length_cons, List.length_nil, Nat.reduceAdd, Nat.reduceMul, Nat.zero_mul, Nat.reduceBEq, beq_self_eq_true, Bool.and_self, Bool.and_true, Bool.true_and]; done) | fail) only [push_cast, reduceCtorEq, Nat.reduceAdd, Nat.reduceSub, Nat.reduceMul, Nat.reduceLeDiff, Nat.reduceLT, Nat.reduceEqDiff, Int.reduceToNat, Int.reduceLT, Int.reduceLE, Int.reduceBEq, Int.reduceEq, Int.reduceSub, Int.reduceAdd, Int.reduceMul, Int.reduceNeg, frm_get, frm_set, set_set, fill_ok, fillL_n, fillL_c, List.flatMap_cons, List.flatMap_nil, set_len, frm_getC, frm_setC, wrapI, wrapB, if_pos, if_neg, decT, decF, beqT, beqF, bneT, bneF, Vt.az, List.append_assoc, app_get, app_get0, app_set, app_set0, Nat.add_assoc]; rfl)); (focus rfl); (first | with_reducible apply nT | with_reducible apply nF | (with_reducible refine nB (fun hb => ?_) (fun hb => ?_) <;> (try simp only [decide_eq_true_eq, decide_eq_false_iff_not, beq_iff_eq, bne_iff_ne, ne_eq, beq_eq_false_iff_ne, bne_eq_false_iff_eq, Decidable.not_not, Int.not_lt, Int.not_le] at hb)) | with_reducible apply nV) <;> dsimp only [List.cons_append, List.nil_append, putV, List.set]))
  have g1 := hG.at (i := T.length + 1) ((app_get T _ 1).trans rfl)
  have g2 := hG.at (i := T.length + 2) ((app_get T _ 2).trans rfl)
  have l2 := (List.getElem?_eq_some_iff.1 g2).1
  have l1 := (List.getElem?_eq_some_iff.1 g1).1
  have ne1 : T.length + 2 ≠ T.length + 1 := by omega
  repeat' (first
    | (with_reducible apply wSeq)
    | (with_reducible apply wReg)
    | (with_reducible apply thenNor)
    | (with_reducible apply oNil)
    | (with_reducible apply wRet)
    | ((with_reducible apply oOp); (focus (simp (disch := first | omega | assumption | (simp only [set_len, frm_len, List.length_set, List.length_append, List.length_cons, List.length_nil]; first | done | omega) | (simp only [seqOk, List.length_cons, List.length_nil, Nat.reduceAdd, Nat.reduceMul, Nat.zero_mul, Nat.reduceBEq, beq_self_eq_true, Bool.and_self, Bool.and_true, Bool.true_and]; done) | fail) only [push_cast, reduceCtorEq, Nat.reduceAdd, Nat.reduceSub, Nat.reduceMul, Nat.reduceLeDiff, Nat.reduceLT, Nat.reduceEqDiff, Int.reduceToNat, Int.reduceLT, Int.reduceLE, Int.reduceBEq, Int.reduceEq, Int.reduceSub, Int.reduceAdd, Int.reduceMul, Int.reduceNeg, frm_get, frm_set, set_set, fill_ok, fillL_n, fillL_c, List.flatMap_cons, List.flatMap_nil, set_len, frm_getC, frm_setC, wrapI, wrapB, if_pos, if_neg, decT, decF, beqT, beqF, bneT, bneF, g1, g2, List.getElem?_set_self, List.getElem?_set_ne]; rfl)); (focus rfl); (first | with_reducible apply nT | with_reducible apply nF | (with_reducible refine nB (fun hb => ?_) (fun hb => ?_) <;> (try simp only [decide_eq_true_eq, decide_eq_false_iff_not, beq_iff_eq, bne_iff_ne, ne_eq, beq_eq_false_iff_ne, bne_eq_false_iff_eq, Decidable.not_not, Int.not_lt, Int.not_le] at hb)) | with_reducible apply nV) <;> dsimp only [List.cons_append, List.nil_append, putV, List.set])
    | ((with_reducible apply endI); (focus (simp (disch := first | omega | assumption | (simp only [set_len, frm_len, List.length_set, List.length_append, List.length_cons, List.length_nil]; first | done | omega) | (simp only [seqOk, List.length_cons, List.length_nil, Nat.reduceAdd, Nat.reduceMul, Nat.zero_mul, Nat.reduceBEq, beq_self_eq_true, Bool.and_self, Bool.and_true, Bool.true_and]; done) | fail) only [push_cast, reduceCtorEq, Nat.reduceAdd, Nat.reduceSub, Nat.reduceMul, Nat.reduceLeDiff, Nat.reduceLT, Nat.reduceEqDiff, Int.reduceToNat, Int.reduceLT, Int.reduceLE, Int.reduceBEq, Int.reduceEq, Int.reduceSub, Int.reduceAdd, Int.reduceMul, Int.reduceNeg, frm_get, frm_set, set_set, fill_ok, fillL_n, fillL_c, List.flatMap_cons, List.flatMap_nil, set_len, frm_getC, frm_setC, wrapI, wrapB, if_pos, if_neg, decT, decF, beqT, beqF, bneT, bneF, c11, g1, g2, List.getElem?_set_self, List.getElem?_set_ne]; rfl)); (focus rfl)))
  have g3 := hG.at (i := T.length + 3) ((app_get T _ 3).trans rfl)
  have hlow : ∀ q ∈ j :: fp, T.length + 4 ≤ q ∧ q < T'.length := fun q hq => by
    have := hN.1 q hq
    simpa using this
  have hget : ∀ (o1 o2 : Ae.Obj) (q : Nat), q ≠ T.length + 1 → q ≠ T.length + 2 → (frm s ((T'.set (T.length + 2) o1).set (T.length + 1) o2)).get (s.low.length + 1) q = T'[q]? := fun o1 o2 q h1 h2 => by
    rw [frm_get_top, List.getElem?_set_ne (Ne.symm h1), List.getElem?_set_ne (Ne.symm h2)]
  have hj := hlow j (by simp)
  refine ⟨_, _, (T.length + 3) :: j :: fp, rfl, rfl, ?_, (((grw_app T _).trans hG).set (by omega) _).set (by omega) _, ⟨fun q hq => ?_, ?_⟩⟩
  · simp only [OwnV]
    refine ⟨T.length + 3, j, cs, fp, rfl, rfl, (hget _ _ _ (by omega) (by omega)).trans g3, (hget _ _ _ (by omega) (by omega)).trans hg, owns_st _ _ _ (fun q hq => ?_) hO⟩
    have := hlow q (by simp [hq])
    rw [hget _ _ _ (by omega) (by omega), frm_get_top]
  · rw [List.length_set, List.length_set]
    rcases List.mem_cons.1 hq with rfl | hq
    · exact ⟨by omega, (List.getElem?_eq_some_iff.1 g3).1⟩
    · have := hlow q hq
      omega
  · rw [List.nodup_cons]
    refine ⟨fun hq => ?_, hN.2⟩
    have := hlow _ hq
    omega
mutual
theorem toV_ok : ∀ v : Vt, ToP prim v
  | .mk k n t kids => toV_step (toVs_all kids)
theorem toVs_all : ∀ l : List Vt, ∀ v ∈ l, ToP prim v
  | [], v, h => by cases h
  | x :: r, v, h => (List.mem_cons.1 h).elim (fun e => e ▸ toV_ok x) (fun h => toVs_all r v h)
end
end Go.Proofs.YthogcanomihelaaDoor.Gx
