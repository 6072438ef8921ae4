/- The program's shower: what is said lies in a box of the frame. -/
import Derived.Test.YthogcanomihelaaDoorYa
set_option linter.unusedSimpArgs false
set_option linter.unusedVariables false
namespace Go.Proofs.YthogcanomihelaaDoor.Gs
open Go Go.Proofs Go.Proofs.YthogcanomihelaaDoor.Ae
attribute [local congr] obind_congr
attribute [local push_cast] exF argsV frzs frz frzL frz1 exS_reg exS_seq exS_cond exS_alt exS_block exS_loop exS_exit exS_ret exS_skip evReg evOps evOne evAct evOp rd putV st0 evEnd resV resL resOne oneOr frzR loadV storeV binV binI unV push_frm pop_frm frm_len frm_top frm_get_top frm_set_top frm_new AV.cells AV.lowB AV.lowL AV.isCell cellsOk set_len Option.bind_some Option.map_some Option.map_none List.getD_cons_zero List.getD_cons_succ List.nil_append List.cons_append List.append_nil List.length_cons List.length_nil List.set_cons_zero List.set_cons_succ List.map_cons List.map_nil List.replicate if_true if_false ite_true ite_false ite_self Bool.false_eq_true List.all_cons List.all_nil Bool.and_true Bool.true_and Bool.and_self Bool.and_eq_true List.getElem?_cons_zero List.getElem?_cons_succ List.drop_succ_cons List.drop_zero List.take_succ_cons List.take_zero true_and and_true and_self decide_true decide_false Bool.not_true Bool.not_false Prod.mk.injEq Option.some.injEq List.getElem?_drop optInt elems sliceV partsOf Nat.add_zero Nat.zero_add Nat.mul_one beq_self_eq_true litParts Bool.or_false Bool.false_or Bool.or_true Bool.true_or Bool.false_and Bool.and_false List.cons.injEq not_false_eq_true not_true_eq_false Nat.zero_le Nat.le_refl gt_iff_lt ge_iff_le List.drop_nil List.take_nil newBox List.length_append List.length_map bne_self_eq_false eq_self Nat.lt_add_one ne_eq false_implies Int.le_refl

def strInts (t : ByteArray) : List Int := t.data.toList.map fun b => (b.toNat : Int)
theorem strCells_ints (t : ByteArray) : strCells t = bys (strInts t) := by
  unfold strCells bys strInts
  rw [List.map_map]
  rfl
theorem strInts_len (t : ByteArray) : (strInts t).length = t.size := by
  unfold strInts
  rw [List.length_map]
  rfl
theorem srcT {s : Store} (t : ByteArray) : srcOf s (.str t) = some (t.size, bys (strInts t)) := by simp only [srcOf, strCells_ints]
/-- What is shown so far lies in the box at place q of the frame. -/
def OutB (D n q : Nat) (T : List Ae.Obj) (l : List Int) : Prop := ∃ w, T[q]? = some (.box 50 [w]) ∧ BufAt true D n T w l
/-- Boxes stay but for that one, and all ahead of n. -/
def Kq (n q : Nat) (T T' : List Ae.Obj) : Prop := T.length ≤ T'.length ∧ (∀ (i ty : Nat) (c : List AV), i ≠ q → T[i]? = some (Ae.Obj.box ty c) → T'[i]? = some (Ae.Obj.box ty c)) ∧ ∀ i, i < n → T'[i]? = T[i]?
theorem Kq.refl (n q : Nat) (T : List Ae.Obj) : Kq n q T T := ⟨Nat.le_refl _, fun _ _ _ _ h => h, fun _ _ => rfl⟩
theorem Kq.trans {n q : Nat} {T T1 T2 : List Ae.Obj} (h : Kq n q T T1) (k : Kq n q T1 T2) : Kq n q T T2 := ⟨Nat.le_trans h.1 k.1, fun i ty c hi hb => k.2.1 i ty c hi (h.2.1 i ty c hi hb), fun i hi => (k.2.2 i hi).trans (h.2.2 i hi)⟩
theorem Bx.kq {n q : Nat} {T T' : List Ae.Obj} (h : Bx n T T') : Kq n q T T' := ⟨h.1, fun i ty c _ hb => h.2.1 i ty c hb, h.2.2⟩
theorem kq_set {n q : Nat} {T : List Ae.Obj} (o : Ae.Obj) (hn : n ≤ q) : Kq n q T (T.set q o) :=
  ⟨by simp, fun i ty c hi hb => by rw [List.getElem?_set_ne (Ne.symm hi)]; exact hb, fun i hi => List.getElem?_set_ne (by omega)⟩
theorem buf_set {D n q ty : Nat} {T : List Ae.Obj} {w : AV} {l : List Int} {c : List AV} (h : BufAt true D n T w l) (hq : T[q]? = some (.box ty c)) (c' : List AV) : BufAt true D n (T.set q (.box ty c')) w l := by
  rcases h with h | ⟨i, ver, h1, h2, h3⟩
  · exact .inl h
  · refine .inr ⟨i, ver, h1, h2, ?_⟩
    by_cases hi : q = i
    · subst hi; rw [hq] at h3; cases h3
    · rw [List.getElem?_set_ne hi]; exact h3
set_option maxHeartbeats 4000000 in
theorem say_ok {s : Store} {T : List Ae.Obj} {n q : Nat} {l : List Int} {t : ByteArray} (h : OutB (s.low.length + 1) n q T l) (hnq : n ≤ q) (hb0 : l.length + t.size ≤ 10000000) :
    ∃ v s', callF (tab tbl) prim 36 [.ptr (s.low.length + 1) q 0, .str t] (frm s T) = some (v, s') ∧ ∃ T', v = .bool (decide ((l ++ strInts t).length < 30000)) ∧ s' = frm s T' ∧ OutB (s.low.length + 1) n q T' (l ++ strInts t) ∧ Kq n q T T' := by
  obtain ⟨w, h1, hw⟩ := h
  have hlq := lt_of_get h1
  have hA := app_buf (s := s) (n := n) (srcT t) (strInts_len t) rfl hw (by omega) (by omega)
  have hll : (l ++ strInts t).length = l.length + t.size := by rw [List.length_append, strInts_len]
  refine funZ rfl (zsf @h1) zt ?_
  repeat' (first
    | (with_reducible apply wSeq)
    | (with_reducible apply wReg)
    | (with_reducible apply wBlock)
    | (with_reducible apply thenNor)
    | (with_reducible apply thenRet)
    | (with_reducible apply thenExit)
    | (with_reducible apply blockNor)
    | (with_reducible apply blockExit)
    | (with_reducible apply blockRet)
    | (with_reducible apply oNil)
    | (with_reducible apply wExit)
    | (with_reducible apply wRet)
    | (with_reducible apply wSkip)
    | (with_reducible apply wRegT)
    | (with_reducible apply loopRet)
    | (with_reducible apply loopExit)
    | (with_reducible apply nT <;> dsimp only [List.cons_append, List.nil_append, putV, List.set])
    | (with_reducible apply nF <;> dsimp only [List.cons_append, List.nil_append, putV, List.set])
    | (with_reducible apply tT <;> dsimp only [List.cons_append, List.nil_append, putV, List.set])
    | (with_reducible apply tF <;> dsimp only [List.cons_append, List.nil_append, putV, List.set])
    | (with_reducible refine nB (zb fun hb => ?_) (zb fun hb => ?_) <;> dsimp only [List.cons_append, List.nil_append, putV, List.set])
    | (with_reducible apply nV <;> dsimp only [List.cons_append, List.nil_append, putV, List.set])
    | (with_reducible refine tB (zb fun hb => ?_) (zb fun hb => ?_) <;> dsimp only [List.cons_append, List.nil_append, putV, List.set])
    | (with_reducible apply tV <;> dsimp only [List.cons_append, List.nil_append, putV, List.set])
    | ((with_reducible apply blockOther); (focus (exact rfl)))
    | ((with_reducible apply wCondT); (focus (exact zg)))
    | ((with_reducible apply wCondF); (focus (exact zg)))
    | ((with_reducible apply oApp (h := hA)); (focus (exact zr)); (focus (exact zr)); rintro _ _ ⟨T2, rfl, hB2, hX2⟩)
    | ((with_reducible apply tApp (h := hA)); (focus (exact zr)); (focus (exact zr)); rintro _ _ ⟨T2, rfl, hB2, hX2⟩)
    | ((with_reducible apply oOp); (focus (exact zsf @h1)); (focus rfl))
    | ((with_reducible apply tOp); (focus (exact zsf @h1)); (focus rfl))
    | ((with_reducible apply tNil); (focus (exact zcf @h1)))
    | ((with_reducible apply endN); (focus (exact rfl)); (focus (exact zsf @h1)); (focus (exact zzf @h1)); (focus (exact zdf @h1)); (focus (exact ze)); dsimp only)
    | ((with_reducible apply endN'); (focus (exact rfl)); (focus (exact zsf @h1)); (focus (exact zzf @h1)); (focus (exact zdf @h1)); (focus (exact ze)); dsimp only)
    | ((with_reducible apply endI); (focus (exact zsf @h1)); (focus rfl))
    | (with_reducible exact isI rfl rfl))
  have h2 := hX2.2.1 _ _ _ h1
  have hl2 := lt_of_get h2
  have hB2' := hB2
  rcases hB2 with ⟨rfl, _⟩ | ⟨i2, ver2, rfl, hi2, hg2⟩
  · repeat' (first
      | (with_reducible apply wSeq)
      | (with_reducible apply wReg)
      | (with_reducible apply wBlock)
      | (with_reducible apply thenNor)
      | (with_reducible apply thenRet)
      | (with_reducible apply thenExit)
      | (with_reducible apply blockNor)
      | (with_reducible apply blockExit)
      | (with_reducible apply blockRet)
      | (with_reducible apply oNil)
      | (with_reducible apply wExit)
      | (with_reducible apply wRet)
      | (with_reducible apply wSkip)
      | (with_reducible apply wRegT)
      | (with_reducible apply loopRet)
      | (with_reducible apply loopExit)
      | (with_reducible apply nT <;> dsimp only [List.cons_append, List.nil_append, putV, List.set])
      | (with_reducible apply nF <;> dsimp only [List.cons_append, List.nil_append, putV, List.set])
      | (with_reducible apply tT <;> dsimp only [List.cons_append, List.nil_append, putV, List.set])
      | (with_reducible apply tF <;> dsimp only [List.cons_append, List.nil_append, putV, List.set])
      | (with_reducible refine nB (zb fun hb => ?_) (zb fun hb => ?_) <;> dsimp only [List.cons_append, List.nil_append, putV, List.set])
      | (with_reducible apply nV <;> dsimp only [List.cons_append, List.nil_append, putV, List.set])
      | (with_reducible refine tB (zb fun hb => ?_) (zb fun hb => ?_) <;> dsimp only [List.cons_append, List.nil_append, putV, List.set])
      | (with_reducible apply tV <;> dsimp only [List.cons_append, List.nil_append, putV, List.set])
      | ((with_reducible apply blockOther); (focus (exact rfl)))
      | ((with_reducible apply wCondT); (focus (exact zg)))
      | ((with_reducible apply wCondF); (focus (exact zg)))
      | ((with_reducible apply oOp); (focus (exact zsf @h2)); (focus rfl))
      | ((with_reducible apply tOp); (focus (exact zsf @h2)); (focus rfl))
      | ((with_reducible apply tNil); (focus (exact zcf @h2)))
      | ((with_reducible apply endN); (focus (exact rfl)); (focus (exact zsf @h2)); (focus (exact zzf @h2)); (focus (exact zdf @h2)); (focus (exact ze)); dsimp only)
      | ((with_reducible apply endN'); (focus (exact rfl)); (focus (exact zsf @h2)); (focus (exact zzf @h2)); (focus (exact zdf @h2)); (focus (exact ze)); dsimp only)
      | ((with_reducible apply endI); (focus (exact zsf @h2)); (focus rfl))
      | (with_reducible exact isI rfl rfl))
    all_goals
      refine ⟨_, congrArg AV.bool ?_, rfl, ⟨_, List.getElem?_set_self hl2, ?_⟩, hX2.kq.trans (kq_set _ hnq)⟩
      · rw [eq_comm]
        simp only [decide_eq_true_eq, decide_eq_false_iff_not]
        have := strInts_len t
        omega
      · have hq := buf_set hB2' h2
        rw [List.length_append] at hq
        exact hq _
  · repeat' (first
      | (with_reducible apply wSeq)
      | (with_reducible apply wReg)
      | (with_reducible apply wBlock)
      | (with_reducible apply thenNor)
      | (with_reducible apply thenRet)
      | (with_reducible apply thenExit)
      | (with_reducible apply blockNor)
      | (with_reducible apply blockExit)
      | (with_reducible apply blockRet)
      | (with_reducible apply oNil)
      | (with_reducible apply wExit)
      | (with_reducible apply wRet)
      | (with_reducible apply wSkip)
      | (with_reducible apply wRegT)
      | (with_reducible apply loopRet)
      | (with_reducible apply loopExit)
      | (with_reducible apply nT <;> dsimp only [List.cons_append, List.nil_append, putV, List.set])
      | (with_reducible apply nF <;> dsimp only [List.cons_append, List.nil_append, putV, List.set])
      | (with_reducible apply tT <;> dsimp only [List.cons_append, List.nil_append, putV, List.set])
      | (with_reducible apply tF <;> dsimp only [List.cons_append, List.nil_append, putV, List.set])
      | (with_reducible refine nB (zb fun hb => ?_) (zb fun hb => ?_) <;> dsimp only [List.cons_append, List.nil_append, putV, List.set])
      | (with_reducible apply nV <;> dsimp only [List.cons_append, List.nil_append, putV, List.set])
      | (with_reducible refine tB (zb fun hb => ?_) (zb fun hb => ?_) <;> dsimp only [List.cons_append, List.nil_append, putV, List.set])
      | (with_reducible apply tV <;> dsimp only [List.cons_append, List.nil_append, putV, List.set])
      | ((with_reducible apply blockOther); (focus (exact rfl)))
      | ((with_reducible apply wCondT); (focus (exact zg)))
      | ((with_reducible apply wCondF); (focus (exact zg)))
      | ((with_reducible apply oOp); (focus (exact zsf @h2)); (focus rfl))
      | ((with_reducible apply tOp); (focus (exact zsf @h2)); (focus rfl))
      | ((with_reducible apply tNil); (focus (exact zcf @h2)))
      | ((with_reducible apply endN); (focus (exact rfl)); (focus (exact zsf @h2)); (focus (exact zzf @h2)); (focus (exact zdf @h2)); (focus (exact ze)); dsimp only)
      | ((with_reducible apply endN'); (focus (exact rfl)); (focus (exact zsf @h2)); (focus (exact zzf @h2)); (focus (exact zdf @h2)); (focus (exact ze)); dsimp only)
      | ((with_reducible apply endI); (focus (exact zsf @h2)); (focus rfl))
      | (with_reducible exact isI rfl rfl))
    all_goals
      refine ⟨_, congrArg AV.bool ?_, rfl, ⟨_, List.getElem?_set_self hl2, ?_⟩, hX2.kq.trans (kq_set _ hnq)⟩
      · rw [eq_comm]
        simp only [decide_eq_true_eq, decide_eq_false_iff_not]
        have := strInts_len t
        omega
      · have hq := buf_set hB2' h2
        rw [List.length_append] at hq
        exact hq _
/-! ### texts -/
theorem itoa_prim {n : Int} {s : Store} (h : -9223372036854775808 ≤ n ∧ n ≤ 9223372036854775807) : callF (tab tbl) prim 43 [.int .i64 n] s = some (.str ⟨(Lib.itoa n).toArray⟩, s) := by
  refine callF_prim rfl ?_
  simp only [prim]
  rw [if_pos ⟨h.1, by omega⟩]
theorem itoa_num (n : Int) : strInts ⟨(Lib.itoa n).toArray⟩ = num n := by
  unfold strInts num Lib.itoa dg
  split <;> simp
theorem itoa_size {n : Int} (h : -9223372036854775808 ≤ n ∧ n ≤ 9223372036854775807) : (⟨(Lib.itoa n).toArray⟩ : ByteArray).size ≤ 21 := by
  rw [← strInts_len, itoa_num]
  exact num_len h
theorem toBytes_bys : ∀ (l : List Int) (b : ByteArray), (∀ x ∈ l, 0 ≤ x ∧ x ≤ 255) → ∃ r, toBytes (bys l) b = some r ∧ strInts r = strInts b ++ l
  | [], b, _ => ⟨b, rfl, by simp⟩
  | x :: l, b, hx => by
    obtain ⟨r, h1, h2⟩ := toBytes_bys l (b.push (UInt8.ofNat x.toNat)) fun y hy => hx y (by simp [hy])
    have h0 := hx x (by simp)
    refine ⟨r, h1, ?_⟩
    have e : ∀ c : UInt8, strInts (b.push c) = strInts b ++ [(c.toNat : Int)] := fun c => by simp [strInts, ByteArray.push]
    rw [h2, e]
    have : ((UInt8.ofNat x.toNat).toNat : Int) = x := by
      rw [UInt8.toNat_ofNat_of_lt' (by show x.toNat < 256; omega)]
      omega
    rw [this]
    simp
theorem strInts_app (x y : ByteArray) : strInts (x ++ y) = strInts x ++ strInts y := by
  unfold strInts
  rw [ByteArray.data_append]
  simp
theorem add_str {x y : ByteArray} (h : x.size + y.size ≤ 10000000) : binS .add x y = some (.str (x ++ y)) := by
  have : ¬ ((x.size + y.size : Nat) : Int) > IntKind.i64.max := by
    have : IntKind.i64.max = 9223372036854775807 := by decide
    omega
  simp only [binS, if_neg this]
theorem callF_none {f : Nat} {args : List AV} {s s' : Store} {v : AV} (h : callF (tab tbl) prim f args s = some (v, s')) : ∃ v1 s1, callF (tab tbl) prim f args s = some (v1, s1) ∧ v = v1 ∧ s' = s1 := ⟨_, _, h, rfl, rfl⟩
end Go.Proofs.YthogcanomihelaaDoor.Gs
