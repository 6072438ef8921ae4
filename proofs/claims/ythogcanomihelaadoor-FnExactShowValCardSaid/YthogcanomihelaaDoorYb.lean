/- What a value is shown as; the reference's l14show. -/
import Derived.Test.YthogcanomihelaaDoorYa
import Derived.Test.YthogcanomihelaaDoorXc
set_option linter.unusedSimpArgs false
set_option linter.unusedVariables false
namespace Go.Proofs.YthogcanomihelaaDoor.Gs
open Go Go.Proofs Go.Proofs.YthogcanomihelaaDoor.Ae
open Go.Proofs.YthogcanomihelaaDoor.Gx (Vt azs azs_at az_len azs_len szs oks oks_mem szs_le szs_mem)
attribute [local congr] obind_congr
attribute [local push_cast] exF argsV frzs frz frzL frz1 exS_reg exS_seq exS_cond exS_alt exS_block exS_loop exS_exit exS_ret exS_skip evReg evOps evOne evAct evOp rd putV st0 evEnd resV resL resOne oneOr frzR loadV storeV binV binI unV push_frm pop_frm frm_len frm_top frm_get_top frm_set_top frm_new AV.cells AV.lowB AV.lowL AV.isCell cellsOk set_len Option.bind_some Option.map_some Option.map_none List.getD_cons_zero List.getD_cons_succ List.nil_append List.cons_append List.append_nil List.length_cons List.length_nil List.set_cons_zero List.set_cons_succ List.map_cons List.map_nil List.replicate if_true if_false ite_true ite_false ite_self Bool.false_eq_true List.all_cons List.all_nil Bool.and_true Bool.true_and Bool.and_self Bool.and_eq_true List.getElem?_cons_zero List.getElem?_cons_succ List.drop_succ_cons List.drop_zero List.take_succ_cons List.take_zero true_and and_true and_self decide_true decide_false Bool.not_true Bool.not_false Prod.mk.injEq Option.some.injEq List.getElem?_drop optInt elems sliceV partsOf Nat.add_zero Nat.zero_add Nat.mul_one beq_self_eq_true litParts Bool.or_false Bool.false_or Bool.or_true Bool.true_or Bool.false_and Bool.and_false List.cons.injEq not_false_eq_true not_true_eq_false Nat.zero_le Nat.le_refl gt_iff_lt ge_iff_le List.drop_nil List.take_nil newBox List.length_append List.length_map bne_self_eq_false eq_self Nat.lt_add_one ne_eq false_implies Int.le_refl

/-- The parts that are shown within a value. -/
def partsOf (k n : Int) (kids cells : List Vt) : List Vt := if k = 5 then (if 0 ≤ n ∧ n < cells.length then (cells.drop n.toNat).take 1 else []) else kids
def headOf (k n : Int) : List Int := if k = 5 then [114, 101, 102] else if k = 6 then 35 :: num n else []
def joins : List (List Int) → List Int
  | [] => []
  | x :: r => [44, 32] ++ x ++ joins r
def join : List (List Int) → List Int
  | [] => []
  | x :: r => x ++ joins r
def plainOf (k n : Int) (t : List Int) : Option (List Int) := if k = 0 then some [40, 41] else if k = 1 then some (num n) else if k = 4 then some [102, 110] else if k = 2 then some ([34] ++ t ++ [34]) else none
/-- The whole text of a value, so deep. -/
def shw : Nat → Vt → List Vt → List Int
  | m, .mk k n t kids, cells => match plainOf k n t with
    | some x => x
    | none => match m with
      | 0 => [46, 46]
      | m + 1 => if (partsOf k n kids cells) = [] then headOf k n else headOf k n ++ [40] ++ join ((partsOf k n kids cells).map fun v => shw m v cells) ++ [41]
/-- What was shown behind b of a text: all of it, or more than what may be. -/
def Part (b r x : List Int) : Prop := r = b ++ x ∨ (30000 < r.length ∧ r <+: b ++ x)
def ShP (m : Nat) : Prop := ∀ (s : Store) (T : List Ae.Obj) (n : Nat) (b : AV) (l : List Int) (v : Vt) (cells : List Vt) (fc : Bool) (deep : Int), deep = m → BufAt true (s.low.length + 1) n T b l → n ≤ T.length → l.length ≤ 40000 - 100 * m → v.ok → oks cells → v.sz ≤ 1048576 → szs cells ≤ 1048576 →
  ∃ v' s', callF (tab tbl) prim 29 [b, .agg v.az, .imm fc cells.length (azs cells), .int .i64 deep] (frm s T) = some (v', s') ∧ ∃ T' r, s' = frm s T' ∧ BufAt true (s.low.length + 1) n T' v' r ∧ Bx n T T' ∧ Part l r (shw m v cells) ∧ r.length ≤ 2000000
theorem BufAt.bx {z : Bool} {D n : Nat} {T : List Ae.Obj} {b : AV} {l : List Int} (h : BufAt z D n T b l) (o : Ae.Obj) : BufAt z D n (T ++ [o]) b l := h.app [o]
theorem BufAt.old {z : Bool} {D n : Nat} {T T' : List Ae.Obj} {b : AV} {l : List Int} (h : BufAt z D n T b l) (hX : Bx T.length T T') : BufAt z D n T' b l := by
  rcases h with h | ⟨i, ver, h1, h2, h3⟩
  · exact .inl h
  · exact .inr ⟨i, ver, h1, h2, (hX.2.2 i (lt_of_get h3)).trans h3⟩
theorem Bx.mono {n m : Nat} {T T' : List Ae.Obj} (h : Bx m T T') (hn : n ≤ m) : Bx n T T' := ⟨h.1, h.2.1, fun i hi => h.2.2 i (by omega)⟩
theorem srcS {s : Store} {t : ByteArray} {ys : List Int} {m : Nat} (h1 : t.size = m) (h2 : strCells t = bys ys) : srcOf s (.str t) = some (m, bys ys) := by
  subst h1
  simp only [srcOf, h2]
theorem srcI {s : Store} {f : Bool} {ys : List Int} {m : Nat} (h1 : ys.length = m) : srcOf s (.imm f m (bys ys)) = some (m, bys ys) := rfl
set_option maxHeartbeats 40000000 in
theorem show_plain {m : Nat} (hm : m ≤ 8) {s : Store} {T : List Ae.Obj} {n0 : Nat} {b : AV} {l : List Int} {k n : Int} {t : List Int} {kids cells : List Vt} {fc : Bool} {deep : Int} {x : List Int} (hp : plainOf k n t = some x) (hB : BufAt true (s.low.length + 1) n0 T b l) (hn : n0 ≤ T.length) (hl : l.length ≤ 40000)
    (hn1 : -9223372036854775808 ≤ n ∧ n ≤ 9223372036854775807) (ht : t.length ≤ 1048576) :
    ∃ v' s', callF (tab tbl) prim 29 [b, .agg [.int .i64 k, .int .i64 n, .imm false t.length (bys t), .imm false kids.length (azs kids)], .imm fc cells.length (azs cells), .int .i64 deep] (frm s T) = some (v', s') ∧ ∃ T' r, s' = frm s T' ∧ BufAt true (s.low.length + 1) n0 T' v' r ∧ Bx n0 T T' ∧ Part l r x ∧ r.length ≤ 2000000 := by
  unfold plainOf at hp
  obtain ⟨bx, hbx⟩ : ∃ bx, bx = Ae.Obj.box 25 [.int .i64 k, .int .i64 n, .imm false t.length (bys t), .imm false kids.length (azs kids)] := ⟨_, rfl⟩
  have hB1 := hB.bx bx
  have hg : (T ++ [bx])[T.length]? = some bx := by simp
  rw [hbx] at hB1 hg
  have hX1 := bx_app [bx] hn
  rw [hbx] at hX1
  have hn1' : n0 ≤ (T ++ [Ae.Obj.box 25 [.int .i64 k, .int .i64 n, .imm false t.length (bys t), .imm false kids.length (azs kids)]]).length := by simp; omega
  have hA := fun (t : ByteArray) ys m h1 h2 h3 h4 => app_buf (s := s) (n := n0) (m := m) (src := .str t) (ys := ys) (srcS h1 h2) h3 rfl hB1 hn1' h4
  by_cases h0 : k = 0
  · subst h0
    obtain rfl : [40, 41] = x := by simpa using hp
    have hA1 := hA ⟨#[40, 41]⟩ [40, 41] 2 rfl rfl rfl (by omega)
    refine funZ rfl (zsf @hg) zt ?_
    repeat' (first
      | (with_reducible apply wSeq)
      | (with_reducible apply wReg)
      | (with_reducible apply wBlock)
      | (with_reducible apply thenNor)
      | (with_reducible apply thenRet)
      | (with_reducible apply thenExit)
      | (with_reducible apply blockNor)
      | (with_reducible apply blockExit)
      | (with_reducible apply blockRet)
      | (with_reducible apply oNil)
      | (with_reducible apply wExit)
      | (with_reducible apply wRet)
      | (with_reducible apply wSkip)
      | (with_reducible apply wRegT)
      | (with_reducible apply loopRet)
      | (with_reducible apply loopExit)
      | (with_reducible apply nT <;> dsimp only [List.cons_append, List.nil_append, putV, List.set])
      | (with_reducible apply nF <;> dsimp only [List.cons_append, List.nil_append, putV, List.set])
      | (with_reducible apply tT <;> dsimp only [List.cons_append, List.nil_append, putV, List.set])
      | (with_reducible apply tF <;> dsimp only [List.cons_append, List.nil_append, putV, List.set])
      | (with_reducible refine nB (zb fun hb => ?_) (zb fun hb => ?_) <;> dsimp only [List.cons_append, List.nil_append, putV, List.set])
      | (with_reducible apply nV <;> dsimp only [List.cons_append, List.nil_append, putV, List.set])
      | (with_reducible refine tB (zb fun hb => ?_) (zb fun hb => ?_) <;> dsimp only [List.cons_append, List.nil_append, putV, List.set])
      | (with_reducible apply tV <;> dsimp only [List.cons_append, List.nil_append, putV, List.set])
      | ((with_reducible apply blockOther); (focus (exact rfl)))
      | ((with_reducible apply wCondT); (focus (exact zg)))
      | ((with_reducible apply wCondF); (focus (exact zg)))
      | ((with_reducible apply oApp (h := hA1)); (focus (exact zr)); (focus (exact zr)); rintro _ _ ⟨T2, rfl, hB2, hX2⟩)
      | ((with_reducible apply tApp (h := hA1)); (focus (exact zr)); (focus (exact zr)); rintro _ _ ⟨T2, rfl, hB2, hX2⟩)
      | ((with_reducible apply oOp); (focus (exact zsf @hg)); (focus rfl))
      | ((with_reducible apply tOp); (focus (exact zsf @hg)); (focus rfl))
      | ((with_reducible apply tNil); (focus (exact zcf @hg)))
      | ((with_reducible apply endN); (focus (exact rfl)); (focus (exact zsf @hg)); (focus (exact zzf @hg)); (focus (exact zdf @hg)); (focus (exact ze)); dsimp only)
      | ((with_reducible apply endN'); (focus (exact rfl)); (focus (exact zsf @hg)); (focus (exact zzf @hg)); (focus (exact zdf @hg)); (focus (exact ze)); dsimp only)
      | ((with_reducible apply endI); (focus (exact zsf @hg)); (focus rfl))
      | (with_reducible exact isI rfl rfl))
    exact ⟨T2, _, rfl, hB2, hX1.trans hX2, .inl rfl, by simp; omega⟩
  · by_cases h1 : k = 1
    · subst h1
      obtain rfl : num n = x := by simpa using hp
      have hnl := num_len hn1
      obtain ⟨v1, _, e, T1, rfl, hB1d, hX1d⟩ := digits_ok (n := n) (s := s) (T := T ++ [Ae.Obj.box 25 [.int .i64 1, .int .i64 n, .imm false t.length (bys t), .imm false kids.length (azs kids)]]) hn1 (Nat.le_refl _)
      have hA1 := app_buf (s := s) (n := n0) (buf_elems rfl hB1d) rfl rfl (hB1.old hX1d) (Nat.le_trans hn1' hX1d.1) (by omega)
      refine funZ rfl (zsf (And.intro @hg (@e))) zt ?_
      repeat' (first
        | (with_reducible apply wSeq)
        | (with_reducible apply wReg)
        | (with_reducible apply wBlock)
        | (with_reducible apply thenNor)
        | (with_reducible apply thenRet)
        | (with_reducible apply thenExit)
        | (with_reducible apply blockNor)
        | (with_reducible apply blockExit)
        | (with_reducible apply blockRet)
        | (with_reducible apply oNil)
        | (with_reducible apply wExit)
        | (with_reducible apply wRet)
        | (with_reducible apply wSkip)
        | (with_reducible apply wRegT)
        | (with_reducible apply loopRet)
        | (with_reducible apply loopExit)
        | (with_reducible apply nT <;> dsimp only [List.cons_append, List.nil_append, putV, List.set])
        | (with_reducible apply nF <;> dsimp only [List.cons_append, List.nil_append, putV, List.set])
        | (with_reducible apply tT <;> dsimp only [List.cons_append, List.nil_append, putV, List.set])
        | (with_reducible apply tF <;> dsimp only [List.cons_append, List.nil_append, putV, List.set])
        | (with_reducible refine nB (zb fun hb => ?_) (zb fun hb => ?_) <;> dsimp only [List.cons_append, List.nil_append, putV, List.set])
        | (with_reducible apply nV <;> dsimp only [List.cons_append, List.nil_append, putV, List.set])
        | (with_reducible refine tB (zb fun hb => ?_) (zb fun hb => ?_) <;> dsimp only [List.cons_append, List.nil_append, putV, List.set])
        | (with_reducible apply tV <;> dsimp only [List.cons_append, List.nil_append, putV, List.set])
        | ((with_reducible apply blockOther); (focus (exact rfl)))
        | ((with_reducible apply wCondT); (focus (exact zg)))
        | ((with_reducible apply wCondF); (focus (exact zg)))
        | ((with_reducible apply oApp (h := hA1)); (focus (exact zr)); (focus (exact zr)); rintro _ _ ⟨T2, rfl, hB2, hX2⟩)
        | ((with_reducible apply tApp (h := hA1)); (focus (exact zr)); (focus (exact zr)); rintro _ _ ⟨T2, rfl, hB2, hX2⟩)
        | ((with_reducible apply oOp); (focus (exact zsf (And.intro @hg (@e)))); (focus rfl))
        | ((with_reducible apply tOp); (focus (exact zsf (And.intro @hg (@e)))); (focus rfl))
        | ((with_reducible apply tNil); (focus (exact zcf (And.intro @hg (@e)))))
        | ((with_reducible apply endN); (focus (exact rfl)); (focus (exact zsf (And.intro @hg (@e)))); (focus (exact zzf (And.intro @hg (@e)))); (focus (exact zdf (And.intro @hg (@e)))); (focus (exact ze)); dsimp only)
        | ((with_reducible apply endN'); (focus (exact rfl)); (focus (exact zsf (And.intro @hg (@e)))); (focus (exact zzf (And.intro @hg (@e)))); (focus (exact zdf (And.intro @hg (@e)))); (focus (exact ze)); dsimp only)
        | ((with_reducible apply endI); (focus (exact zsf (And.intro @hg (@e)))); (focus rfl))
        | (with_reducible exact isI rfl rfl))
      exact ⟨T2, _, rfl, hB2, (hX1.trans (hX1d.mono hn1')).trans hX2, .inl rfl, by simp; omega⟩
    · by_cases h4 : k = 4
      · subst h4
        obtain rfl : [102, 110] = x := by simpa using hp
        have hA1 := hA ⟨#[102, 110]⟩ [102, 110] 2 rfl rfl rfl (by omega)
        refine funZ rfl (zsf @hg) zt ?_
        repeat' (first
          | (with_reducible apply wSeq)
          | (with_reducible apply wReg)
          | (with_reducible apply wBlock)
          | (with_reducible apply thenNor)
          | (with_reducible apply thenRet)
          | (with_reducible apply thenExit)
          | (with_reducible apply blockNor)
          | (with_reducible apply blockExit)
          | (with_reducible apply blockRet)
          | (with_reducible apply oNil)
          | (with_reducible apply wExit)
          | (with_reducible apply wRet)
          | (with_reducible apply wSkip)
          | (with_reducible apply wRegT)
          | (with_reducible apply loopRet)
          | (with_reducible apply loopExit)
          | (with_reducible apply nT <;> dsimp only [List.cons_append, List.nil_append, putV, List.set])
          | (with_reducible apply nF <;> dsimp only [List.cons_append, List.nil_append, putV, List.set])
          | (with_reducible apply tT <;> dsimp only [List.cons_append, List.nil_append, putV, List.set])
          | (with_reducible apply tF <;> dsimp only [List.cons_append, List.nil_append, putV, List.set])
          | (with_reducible refine nB (zb fun hb => ?_) (zb fun hb => ?_) <;> dsimp only [List.cons_append, List.nil_append, putV, List.set])
          | (with_reducible apply nV <;> dsimp only [List.cons_append, List.nil_append, putV, List.set])
          | (with_reducible refine tB (zb fun hb => ?_) (zb fun hb => ?_) <;> dsimp only [List.cons_append, List.nil_append, putV, List.set])
          | (with_reducible apply tV <;> dsimp only [List.cons_append, List.nil_append, putV, List.set])
          | ((with_reducible apply blockOther); (focus (exact rfl)))
          | ((with_reducible apply wCondT); (focus (exact zg)))
          | ((with_reducible apply wCondF); (focus (exact zg)))
          | ((with_reducible apply oApp (h := hA1)); (focus (exact zr)); (focus (exact zr)); rintro _ _ ⟨T2, rfl, hB2, hX2⟩)
          | ((with_reducible apply tApp (h := hA1)); (focus (exact zr)); (focus (exact zr)); rintro _ _ ⟨T2, rfl, hB2, hX2⟩)
          | ((with_reducible apply oOp); (focus (exact zsf @hg)); (focus rfl))
          | ((with_reducible apply tOp); (focus (exact zsf @hg)); (focus rfl))
          | ((with_reducible apply tNil); (focus (exact zcf @hg)))
          | ((with_reducible apply endN); (focus (exact rfl)); (focus (exact zsf @hg)); (focus (exact zzf @hg)); (focus (exact zdf @hg)); (focus (exact ze)); dsimp only)
          | ((with_reducible apply endN'); (focus (exact rfl)); (focus (exact zsf @hg)); (focus (exact zzf @hg)); (focus (exact zdf @hg)); (focus (exact ze)); dsimp only)
          | ((with_reducible apply endI); (focus (exact zsf @hg)); (focus rfl))
          | (with_reducible exact isI rfl rfl))
        exact ⟨T2, _, rfl, hB2, hX1.trans hX2, .inl rfl, by simp; omega⟩
      · by_cases h2 : k = 2
        · subst h2
          obtain rfl : [34] ++ t ++ [34] = x := by simpa using hp
          have hA1 := app_buf (s := s) (n := n0) (m := 1) (src := .imm true 1 [.int .u8 34]) (ys := [34]) rfl rfl rfl hB1 hn1' (by omega)
          refine funZ rfl (zsf @hg) zt ?_
          repeat' (first
            | (with_reducible apply wSeq)
            | (with_reducible apply wReg)
            | (with_reducible apply wBlock)
            | (with_reducible apply thenNor)
            | (with_reducible apply thenRet)
            | (with_reducible apply thenExit)
            | (with_reducible apply blockNor)
            | (with_reducible apply blockExit)
            | (with_reducible apply blockRet)
            | (with_reducible apply oNil)
            | (with_reducible apply wExit)
            | (with_reducible apply wRet)
            | (with_reducible apply wSkip)
            | (with_reducible apply wRegT)
            | (with_reducible apply loopRet)
            | (with_reducible apply loopExit)
            | (with_reducible apply nT <;> dsimp only [List.cons_append, List.nil_append, putV, List.set])
            | (with_reducible apply nF <;> dsimp only [List.cons_append, List.nil_append, putV, List.set])
            | (with_reducible apply tT <;> dsimp only [List.cons_append, List.nil_append, putV, List.set])
            | (with_reducible apply tF <;> dsimp only [List.cons_append, List.nil_append, putV, List.set])
            | (with_reducible refine nB (zb fun hb => ?_) (zb fun hb => ?_) <;> dsimp only [List.cons_append, List.nil_append, putV, List.set])
            | (with_reducible apply nV <;> dsimp only [List.cons_append, List.nil_append, putV, List.set])
            | (with_reducible refine tB (zb fun hb => ?_) (zb fun hb => ?_) <;> dsimp only [List.cons_append, List.nil_append, putV, List.set])
            | (with_reducible apply tV <;> dsimp only [List.cons_append, List.nil_append, putV, List.set])
            | ((with_reducible apply blockOther); (focus (exact rfl)))
            | ((with_reducible apply wCondT); (focus (exact zg)))
            | ((with_reducible apply wCondF); (focus (exact zg)))
            | ((with_reducible apply oApp (h := hA1)); (focus (exact zr)); (focus (exact zr)); rintro _ _ ⟨T2, rfl, hB2, hX2⟩)
            | ((with_reducible apply tApp (h := hA1)); (focus (exact zr)); (focus (exact zr)); rintro _ _ ⟨T2, rfl, hB2, hX2⟩)
            | ((with_reducible apply oOp); (focus (exact zsf @hg)); (focus rfl))
            | ((with_reducible apply tOp); (focus (exact zsf @hg)); (focus rfl))
            | ((with_reducible apply tNil); (focus (exact zcf @hg)))
            | ((with_reducible apply endN); (focus (exact rfl)); (focus (exact zsf @hg)); (focus (exact zzf @hg)); (focus (exact zdf @hg)); (focus (exact ze)); dsimp only)
            | ((with_reducible apply endN'); (focus (exact rfl)); (focus (exact zsf @hg)); (focus (exact zzf @hg)); (focus (exact zdf @hg)); (focus (exact ze)); dsimp only)
            | ((with_reducible apply endI); (focus (exact zsf @hg)); (focus rfl))
            | (with_reducible exact isI rfl rfl))
          have hg2 := hX2.2.1 _ _ _ hg
          have hA2 := app_buf (s := s) (n := n0) (m := t.length) (src := .imm false t.length (bys t)) (ys := t) (srcI rfl) rfl rfl hB2 (Nat.le_trans hn1' hX2.1) (by simp; omega)
          repeat' (first
            | (with_reducible apply wSeq)
            | (with_reducible apply wReg)
            | (with_reducible apply wBlock)
            | (with_reducible apply thenNor)
            | (with_reducible apply thenRet)
            | (with_reducible apply thenExit)
            | (with_reducible apply blockNor)
            | (with_reducible apply blockExit)
            | (with_reducible apply blockRet)
            | (with_reducible apply oNil)
            | (with_reducible apply wExit)
            | (with_reducible apply wRet)
            | (with_reducible apply wSkip)
            | (with_reducible apply wRegT)
            | (with_reducible apply loopRet)
            | (with_reducible apply loopExit)
            | (with_reducible apply nT <;> dsimp only [List.cons_append, List.nil_append, putV, List.set])
            | (with_reducible apply nF <;> dsimp only [List.cons_append, List.nil_append, putV, List.set])
            | (with_reducible apply tT <;> dsimp only [List.cons_append, List.nil_append, putV, List.set])
            | (with_reducible apply tF <;> dsimp only [List.cons_append, List.nil_append, putV, List.set])
            | (with_reducible refine nB (zb fun hb => ?_) (zb fun hb => ?_) <;> dsimp only [List.cons_append, List.nil_append, putV, List.set])
            | (with_reducible apply nV <;> dsimp only [List.cons_append, List.nil_append, putV, List.set])
            | (with_reducible refine tB (zb fun hb => ?_) (zb fun hb => ?_) <;> dsimp only [List.cons_append, List.nil_append, putV, List.set])
            | (with_reducible apply tV <;> dsimp only [List.cons_append, List.nil_append, putV, List.set])
            | ((with_reducible apply blockOther); (focus (exact rfl)))
            | ((with_reducible apply wCondT); (focus (exact zg)))
            | ((with_reducible apply wCondF); (focus (exact zg)))
            | ((with_reducible apply oApp (h := hA2)); (focus (exact zr)); (focus (exact zr)); rintro _ _ ⟨T3, rfl, hB3, hX3⟩)
            | ((with_reducible apply tApp (h := hA2)); (focus (exact zr)); (focus (exact zr)); rintro _ _ ⟨T3, rfl, hB3, hX3⟩)
            | ((with_reducible apply oOp); (focus (exact zsf @hg2)); (focus rfl))
            | ((with_reducible apply tOp); (focus (exact zsf @hg2)); (focus rfl))
            | ((with_reducible apply tNil); (focus (exact zcf @hg2)))
            | ((with_reducible apply endN); (focus (exact rfl)); (focus (exact zsf @hg2)); (focus (exact zzf @hg2)); (focus (exact zdf @hg2)); (focus (exact ze)); dsimp only)
            | ((with_reducible apply endN'); (focus (exact rfl)); (focus (exact zsf @hg2)); (focus (exact zzf @hg2)); (focus (exact zdf @hg2)); (focus (exact ze)); dsimp only)
            | ((with_reducible apply endI); (focus (exact zsf @hg2)); (focus rfl))
            | (with_reducible exact isI rfl rfl))
          have hg3 := hX3.2.1 _ _ _ hg2
          have hA3 := app_buf (s := s) (n := n0) (m := 1) (src := .imm true 1 [.int .u8 34]) (ys := [34]) rfl rfl rfl hB3 (Nat.le_trans (Nat.le_trans hn1' hX2.1) hX3.1) (by simp; omega)
          repeat' (first
            | (with_reducible apply wSeq)
            | (with_reducible apply wReg)
            | (with_reducible apply wBlock)
            | (with_reducible apply thenNor)
            | (with_reducible apply thenRet)
            | (with_reducible apply thenExit)
            | (with_reducible apply blockNor)
            | (with_reducible apply blockExit)
            | (with_reducible apply blockRet)
            | (with_reducible apply oNil)
            | (with_reducible apply wExit)
            | (with_reducible apply wRet)
            | (with_reducible apply wSkip)
            | (with_reducible apply wRegT)
            | (with_reducible apply loopRet)
            | (with_reducible apply loopExit)
            | (with_reducible apply nT <;> dsimp only [List.cons_append, List.nil_append, putV, List.set])
            | (with_reducible apply nF <;> dsimp only [List.cons_append, List.nil_append, putV, List.set])
            | (with_reducible apply tT <;> dsimp only [List.cons_append, List.nil_append, putV, List.set])
            | (with_reducible apply tF <;> dsimp only [List.cons_append, List.nil_append, putV, List.set])
            | (with_reducible refine nB (zb fun hb => ?_) (zb fun hb => ?_) <;> dsimp only [List.cons_append, List.nil_append, putV, List.set])
            | (with_reducible apply nV <;> dsimp only [List.cons_append, List.nil_append, putV, List.set])
            | (with_reducible refine tB (zb fun hb => ?_) (zb fun hb => ?_) <;> dsimp only [List.cons_append, List.nil_append, putV, List.set])
            | (with_reducible apply tV <;> dsimp only [List.cons_append, List.nil_append, putV, List.set])
            | ((with_reducible apply blockOther); (focus (exact rfl)))
            | ((with_reducible apply wCondT); (focus (exact zg)))
            | ((with_reducible apply wCondF); (focus (exact zg)))
            | ((with_reducible apply oApp (h := hA3)); (focus (exact zr)); (focus (exact zr)); rintro _ _ ⟨T4, rfl, hB4, hX4⟩)
            | ((with_reducible apply tApp (h := hA3)); (focus (exact zr)); (focus (exact zr)); rintro _ _ ⟨T4, rfl, hB4, hX4⟩)
            | ((with_reducible apply oOp); (focus (exact zsf (And.intro @hg (And.intro @hg2 (@hg3))))); (focus rfl))
            | ((with_reducible apply tOp); (focus (exact zsf (And.intro @hg (And.intro @hg2 (@hg3))))); (focus rfl))
            | ((with_reducible apply tNil); (focus (exact zcf (And.intro @hg (And.intro @hg2 (@hg3))))))
            | ((with_reducible apply endN); (focus (exact rfl)); (focus (exact zsf (And.intro @hg (And.intro @hg2 (@hg3))))); (focus (exact zzf (And.intro @hg (And.intro @hg2 (@hg3))))); (focus (exact zdf (And.intro @hg (And.intro @hg2 (@hg3))))); (focus (exact ze)); dsimp only)
            | ((with_reducible apply endN'); (focus (exact rfl)); (focus (exact zsf (And.intro @hg (And.intro @hg2 (@hg3))))); (focus (exact zzf (And.intro @hg (And.intro @hg2 (@hg3))))); (focus (exact zdf (And.intro @hg (And.intro @hg2 (@hg3))))); (focus (exact ze)); dsimp only)
            | ((with_reducible apply endI); (focus (exact zsf (And.intro @hg (And.intro @hg2 (@hg3))))); (focus rfl))
            | (with_reducible exact isI rfl rfl))
          exact ⟨T4, _, rfl, hB4, ((hX1.trans hX2).trans hX3).trans hX4, .inl (by simp), by simp; omega⟩
        · simp [h0, h1, h2, h4] at hp
end Go.Proofs.YthogcanomihelaaDoor.Gs
