/- The program's showVal: the function value that shows a part. -/
import Derived.Test.YthogcanomihelaaDoorYg
set_option linter.unusedSimpArgs false
set_option linter.unusedVariables false
namespace Go.Proofs.YthogcanomihelaaDoor.Gs
open Go Go.Proofs Go.Proofs.YthogcanomihelaaDoor.Ae
open Go.Proofs.YthogcanomihelaaDoor.Gx (Vt azs azs_at az_len azs_len szs oks oks_mem szs_le szs_mem)
attribute [local congr] obind_congr
attribute [local push_cast] exF argsV frzs frz frzL frz1 exS_reg exS_seq exS_cond exS_alt exS_block exS_loop exS_exit exS_ret exS_skip evReg evOps evOne evAct evOp rd putV st0 evEnd resV resL resOne oneOr frzR loadV storeV binV binI unV push_frm pop_frm frm_len frm_top frm_get_top frm_set_top frm_new AV.cells AV.lowB AV.lowL AV.isCell cellsOk set_len Option.bind_some Option.map_some Option.map_none List.getD_cons_zero List.getD_cons_succ List.nil_append List.cons_append List.append_nil List.length_cons List.length_nil List.set_cons_zero List.set_cons_succ List.map_cons List.map_nil List.replicate if_true if_false ite_true ite_false ite_self Bool.false_eq_true List.all_cons List.all_nil Bool.and_true Bool.true_and Bool.and_self Bool.and_eq_true List.getElem?_cons_zero List.getElem?_cons_succ List.drop_succ_cons List.drop_zero List.take_succ_cons List.take_zero true_and and_true and_self decide_true decide_false Bool.not_true Bool.not_false Prod.mk.injEq Option.some.injEq List.getElem?_drop optInt elems sliceV partsOf Nat.add_zero Nat.zero_add Nat.mul_one beq_self_eq_true litParts Bool.or_false Bool.false_or Bool.or_true Bool.true_or Bool.false_and Bool.and_false List.cons.injEq not_false_eq_true not_true_eq_false Nat.zero_le Nat.le_refl gt_iff_lt ge_iff_le List.drop_nil List.take_nil newBox List.length_append List.length_map bne_self_eq_false eq_self Nat.lt_add_one ne_eq false_implies Int.le_refl

/-- A pointer to a value: a box of the frame, or a place of a frozen slice. -/
def PV (D q : Nat) (T : List Ae.Obj) (pv : AV) (c4 : List AV) : Prop := (∃ i, i ≠ q ∧ pv = .ptr D i 0 ∧ T[i]? = some (.box 25 c4)) ∨ ∃ r, pv = .eptr (c4 ++ r)
/-- What is said behind l of a text: all of it with room left, or at least so much as may be. -/
def Said (b : Bool) (l r x : List Int) : Prop := (b = true → r = l ++ x ∧ r.length < 30000) ∧ (b = false → 30000 ≤ r.length ∧ r <+: l ++ x)
def Shown (D n q : Nat) (s : Store) (T : List Ae.Obj) (l x : List Int) (v : AV) (s' : Store) : Prop := ∃ (b : Bool) (T' : List Ae.Obj) (r : List Int), v = .bool b ∧ s' = frm s T' ∧ OutB D n q T' r ∧ Kq n q T T' ∧ Said b l r x ∧ r.length ≤ 2000000
def IP (m : Nat) : Prop := ∀ (s : Store) (T : List Ae.Obj) (n q : Nat) (l : List Int) (pv : AV) (v : Vt) (cells : List Vt) (fc : Bool) (deep : Int), deep = 8 - m → OutB (s.low.length + 1) n q T l → n ≤ q → l.length < 30000 → PV (s.low.length + 1) q T pv v.az → v.ok → oks cells → v.sz ≤ 1048576 → szs cells ≤ 1048576 →
  ∃ v' s', callF (tab tbl) prim 24 [.ptr (s.low.length + 1) q 0, pv, .imm fc cells.length (azs cells), .int .i64 deep] (frm s T) = some (v', s') ∧ Shown (s.low.length + 1) n q s T l (shw m v cells) v' s'
theorem azs_split {ps : List Vt} {i : Nat} (h : i < ps.length) : (azs ps).drop (i * 4) = ps[i].az ++ azs (ps.drop (i + 1)) := by
  rw [Gx.azs_drop, List.drop_eq_getElem_cons h, azs]
set_option maxHeartbeats 4000000 in
theorem clos_ok {m : Nat} (hP : IP m) {s : Store} {T : List Ae.Obj} {n q : Nat} {l : List Int} {a b c d : Nat} {fl fc : Bool} {ps cells : List Vt} {deep i : Int} (hdeep : deep = 8 - (m + 1 : Nat)) (hm : m < 8) (hO : OutB (s.low.length + 1) n q T l) (hnq : n ≤ q) (hl : l.length < 30000)
    (ha : T[a]? = some (.box 52 [.ptr (s.low.length + 1) q 0])) (hb0 : T[b]? = some (.box 23 [.imm fl ps.length (azs ps)])) (hc : T[c]? = some (.box 23 [.imm fc cells.length (azs cells)])) (hd : T[d]? = some (.box 3 [.int .i64 deep])) (hps : ∀ v ∈ ps, v.ok ∧ v.sz ≤ 1048576) (hcs : oks cells) (hcz : szs cells ≤ 1048576) (i0 : Nat) (hi : i = i0) (hlt : i0 < ps.length) :
    ∃ v s', callF (tab tbl) prim 40 [.int .i64 i, .ptr (s.low.length + 1) a 0, .ptr (s.low.length + 1) b 0, .ptr (s.low.length + 1) c 0, .ptr (s.low.length + 1) d 0] (frm s T) = some (v, s') ∧ Shown (s.low.length + 1) n q s T l (shw m ps[i0] cells) v s' := by
  subst hi
  have hmem := List.getElem_mem hlt
  have hdr := azs_split hlt
  obtain ⟨v', s', e, b', T', r, rfl, rfl, h1, h2, h3, h4⟩ := hP s T n q l (.eptr (ps[i0].az ++ azs (ps.drop (i0 + 1)))) ps[i0] cells fc (deep + 1) (by omega) hO hnq hl (.inr ⟨_, rfl⟩) (hps _ hmem).1 hcs (hps _ hmem).2 hcz
  refine funZ rfl (zsf (And.intro @ha (And.intro @hb0 (And.intro @hc (And.intro @hd (And.intro @hdr (And.intro @e (@Int.toNat_natCast)))))))) zt ?_
  repeat' (first
    | (with_reducible apply wSeq)
    | (with_reducible apply wReg)
    | (with_reducible apply wBlock)
    | (with_reducible apply thenNor)
    | (with_reducible apply thenRet)
    | (with_reducible apply thenExit)
    | (with_reducible apply blockNor)
    | (with_reducible apply blockExit)
    | (with_reducible apply blockRet)
    | (with_reducible apply oNil)
    | (with_reducible apply wExit)
    | (with_reducible apply wRet)
    | (with_reducible apply wSkip)
    | (with_reducible apply wRegT)
    | (with_reducible apply loopRet)
    | (with_reducible apply loopExit)
    | (with_reducible apply nT <;> dsimp only [List.cons_append, List.nil_append, putV, List.set])
    | (with_reducible apply nF <;> dsimp only [List.cons_append, List.nil_append, putV, List.set])
    | (with_reducible apply tT <;> dsimp only [List.cons_append, List.nil_append, putV, List.set])
    | (with_reducible apply tF <;> dsimp only [List.cons_append, List.nil_append, putV, List.set])
    | (with_reducible refine nB (zb fun hb => ?_) (zb fun hb => ?_) <;> dsimp only [List.cons_append, List.nil_append, putV, List.set])
    | (with_reducible apply nV <;> dsimp only [List.cons_append, List.nil_append, putV, List.set])
    | (with_reducible refine tB (zb fun hb => ?_) (zb fun hb => ?_) <;> dsimp only [List.cons_append, List.nil_append, putV, List.set])
    | (with_reducible apply tV <;> dsimp only [List.cons_append, List.nil_append, putV, List.set])
    | ((with_reducible apply blockOther); (focus (exact rfl)))
    | ((with_reducible apply wCondT); (focus (exact zg)))
    | ((with_reducible apply wCondF); (focus (exact zg)))
    | ((with_reducible apply oOp); (focus (exact zsf (And.intro @ha (And.intro @hb0 (And.intro @hc (And.intro @hd (And.intro @hdr (And.intro @e (@Int.toNat_natCast))))))))); (focus rfl))
    | ((with_reducible apply tOp); (focus (exact zsf (And.intro @ha (And.intro @hb0 (And.intro @hc (And.intro @hd (And.intro @hdr (And.intro @e (@Int.toNat_natCast))))))))); (focus rfl))
    | ((with_reducible apply tNil); (focus (exact zcf (And.intro @ha (And.intro @hb0 (And.intro @hc (And.intro @hd (And.intro @hdr (And.intro @e (@Int.toNat_natCast))))))))))
    | ((with_reducible apply endN); (focus (exact rfl)); (focus (exact zsf (And.intro @ha (And.intro @hb0 (And.intro @hc (And.intro @hd (And.intro @hdr (And.intro @e (@Int.toNat_natCast))))))))); (focus (exact zzf (And.intro @ha (And.intro @hb0 (And.intro @hc (And.intro @hd (And.intro @hdr (And.intro @e (@Int.toNat_natCast))))))))); (focus (exact zdf (And.intro @ha (And.intro @hb0 (And.intro @hc (And.intro @hd (And.intro @hdr (And.intro @e (@Int.toNat_natCast))))))))); (focus (exact ze)); dsimp only)
    | ((with_reducible apply endN'); (focus (exact rfl)); (focus (exact zsf (And.intro @ha (And.intro @hb0 (And.intro @hc (And.intro @hd (And.intro @hdr (And.intro @e (@Int.toNat_natCast))))))))); (focus (exact zzf (And.intro @ha (And.intro @hb0 (And.intro @hc (And.intro @hd (And.intro @hdr (And.intro @e (@Int.toNat_natCast))))))))); (focus (exact zdf (And.intro @ha (And.intro @hb0 (And.intro @hc (And.intro @hd (And.intro @hdr (And.intro @e (@Int.toNat_natCast))))))))); (focus (exact ze)); dsimp only)
    | ((with_reducible apply endI); (focus (exact zsf (And.intro @ha (And.intro @hb0 (And.intro @hc (And.intro @hd (And.intro @hdr (And.intro @e (@Int.toNat_natCast))))))))); (focus rfl))
    | (with_reducible exact isI rfl rfl))
  all_goals
    subst hb
    exact ⟨_, T', r, rfl, rfl, h1, h2, h3, h4⟩
def preOf (m : Nat) (ps cells : List Vt) (i : Nat) : List Int := if i = 0 then [] else [40] ++ join ((ps.take i).map fun v => shw m v cells)
def allOf (m : Nat) (ps cells : List Vt) : List Int := if ps = [] then [] else [40] ++ join (ps.map fun v => shw m v cells) ++ [41]
def markOf (i : Nat) : ByteArray := if i = 0 then ⟨#[40]⟩ else ⟨#[44, 32]⟩
theorem pre_next {m : Nat} {ps cells : List Vt} {i : Nat} (h : i < ps.length) : preOf m ps cells (i + 1) = preOf m ps cells i ++ strInts (markOf i) ++ shw m ps[i] cells := by
  unfold preOf markOf
  rw [if_neg (by omega), join_take _ h]
  by_cases h0 : i = 0
  · subst h0
    simp [join, strInts]
  · rw [if_neg h0, if_neg h0, if_neg h0]
    simp [strInts]
theorem pre_all {m : Nat} {ps cells : List Vt} {i : Nat} (h : i < ps.length) : preOf m ps cells (i + 1) <+: allOf m ps cells := by
  unfold preOf allOf
  rw [if_neg (by omega), if_neg (by rintro rfl; simp at h), List.append_assoc]
  rw [List.prefix_append_right_inj]
  exact (join_pre _ ps (ps.length - (i + 1)) (i + 1) (by omega)).trans (List.prefix_append _ _)
theorem say_S {s : Store} {T : List Ae.Obj} {n q : Nat} {l : List Int} (t : ByteArray) (h : OutB (s.low.length + 1) n q T l) (hnq : n ≤ q) (hb0 : l.length + t.size ≤ 10000000) :
    ∃ v s', callF (tab tbl) prim 36 [.ptr (s.low.length + 1) q 0, .str t] (frm s T) = some (v, s') ∧ ∃ (b : Bool) (T' : List Ae.Obj), v = .bool b ∧ s' = frm s T' ∧ OutB (s.low.length + 1) n q T' (l ++ strInts t) ∧ Kq n q T T' ∧ (b = true → (l ++ strInts t).length < 30000) ∧ (b = false → 30000 ≤ (l ++ strInts t).length) := by
  obtain ⟨v, s', e, T', h1, h2, h3, h4⟩ := say_ok (t := t) h hnq hb0
  exact ⟨v, s', e, _, T', h1, h2, h3, h4, fun h => by simpa using h, fun h => by simpa using h⟩
theorem mark_pre {m : Nat} {ps cells : List Vt} {i : Nat} {l l1 r : List Int} (h : i < ps.length) (hl1 : l1 = l ++ preOf m ps cells i) (hr : r <+: l1 ++ strInts (markOf i) ++ shw m ps[i] cells) : r <+: l ++ allOf m ps cells := by
  refine hr.trans ?_
  rw [hl1, List.append_assoc, List.append_assoc, ← List.append_assoc (preOf m ps cells i), ← pre_next h, List.prefix_append_right_inj]
  exact pre_all h
theorem mark_size (i : Nat) : (markOf i).size ≤ 2 := by
  unfold markOf
  split <;> decide
set_option maxHeartbeats 40000000 in
theorem parts_ok {m : Nat} (hP : IP m) {s : Store} {T : List Ae.Obj} {n q : Nat} {l : List Int} {a b c d : Nat} {fl fc : Bool} {ps cells : List Vt} {deep : Int} (hdeep : deep = 8 - (m + 1 : Nat)) (hm : m < 8) (hO : OutB (s.low.length + 1) n q T l) (hnq : n ≤ q) (hl : l.length < 30000)
    (hna : a ≠ q) (hnb : b ≠ q) (hnc : c ≠ q) (hnd : d ≠ q)
    (ha : T[a]? = some (.box 52 [.ptr (s.low.length + 1) q 0])) (hb0 : T[b]? = some (.box 23 [.imm fl ps.length (azs ps)])) (hc : T[c]? = some (.box 23 [.imm fc cells.length (azs cells)])) (hd : T[d]? = some (.box 3 [.int .i64 deep])) (hps : ∀ v ∈ ps, v.ok ∧ v.sz ≤ 1048576) (hpl : ps.length ≤ 1048576) (hcs : oks cells) (hcz : szs cells ≤ 1048576) :
    ∃ v s', callF (tab tbl) prim 39 [.ptr (s.low.length + 1) q 0, .int .i64 ps.length, .fn 40 [] [.ptr (s.low.length + 1) a 0, .ptr (s.low.length + 1) b 0, .ptr (s.low.length + 1) c 0, .ptr (s.low.length + 1) d 0]] (frm s T) = some (v, s') ∧ Shown (s.low.length + 1) n q s T l (allOf m ps cells) v s' := by
  refine funZ rfl zs zt ?_
  repeat' (first
    | (with_reducible apply wSeq)
    | (with_reducible apply wReg)
    | (with_reducible apply wBlock)
    | (with_reducible apply thenNor)
    | (with_reducible apply thenRet)
    | (with_reducible apply thenExit)
    | (with_reducible apply blockNor)
    | (with_reducible apply blockExit)
    | (with_reducible apply blockRet)
    | (with_reducible apply oNil)
    | (with_reducible apply wExit)
    | (with_reducible apply wRet)
    | (with_reducible apply wSkip)
    | (with_reducible apply wRegT)
    | (with_reducible apply loopRet)
    | (with_reducible apply loopExit)
    | (with_reducible apply nT <;> dsimp only [List.cons_append, List.nil_append, putV, List.set])
    | (with_reducible apply nF <;> dsimp only [List.cons_append, List.nil_append, putV, List.set])
    | (with_reducible apply tT <;> dsimp only [List.cons_append, List.nil_append, putV, List.set])
    | (with_reducible apply tF <;> dsimp only [List.cons_append, List.nil_append, putV, List.set])
    | (with_reducible refine nB (zb fun hb => ?_) (zb fun hb => ?_) <;> dsimp only [List.cons_append, List.nil_append, putV, List.set])
    | (with_reducible apply nV <;> dsimp only [List.cons_append, List.nil_append, putV, List.set])
    | (with_reducible refine tB (zb fun hb => ?_) (zb fun hb => ?_) <;> dsimp only [List.cons_append, List.nil_append, putV, List.set])
    | (with_reducible apply tV <;> dsimp only [List.cons_append, List.nil_append, putV, List.set])
    | ((with_reducible apply blockOther); (focus (exact rfl)))
    | ((with_reducible apply wCondT); (focus (exact zg)))
    | ((with_reducible apply wCondF); (focus (exact zg)))
    | ((with_reducible apply oOp); (focus (exact zs)); (focus rfl))
    | ((with_reducible apply tOp); (focus (exact zs)); (focus rfl))
    | ((with_reducible apply tNil); (focus (exact zc)))
    | ((with_reducible apply endN); (focus (exact rfl)); (focus (exact zs)); (focus (exact zz)); (focus (exact zd)); (focus (exact ze)); dsimp only)
    | ((with_reducible apply endN'); (focus (exact rfl)); (focus (exact zs)); (focus (exact zz)); (focus (exact zd)); (focus (exact ze)); dsimp only)
    | ((with_reducible apply endI); (focus (exact zs)); (focus rfl))
    | (with_reducible exact isI rfl rfl))
  refine wLoop (fun k st => ∃ (i : Nat) (T1 : List Ae.Obj) (l1 : List Int) (y4 y5 y8 y9 y10 : AV), (k : Int) = ps.length - i ∧ i ≤ ps.length ∧ OutB (s.low.length + 1) n q T1 l1 ∧ Kq n q T T1 ∧ l1 = l ++ preOf m ps cells i ∧ l1.length < 30000 ∧
    st = ⟨[.ptr (s.low.length + 1) q 0, .int .i64 ps.length, .fn 40 [] [.ptr (s.low.length + 1) a 0, .ptr (s.low.length + 1) b 0, .ptr (s.low.length + 1) c 0, .ptr (s.low.length + 1) d 0], .bool false, y4, y5, .int .i64 ps.length, .int .i64 i, y8, y9, y10], frm s T1⟩) ps.length ?_ ?_
  · exact ⟨0, T, l, _, _, _, _, _, by omega, by omega, hO, Kq.refl _ _ _, by simp [preOf], hl, rfl⟩
  · rintro k st ⟨i, T1, l1, y4, y5, y8, y9, y10, hk, hi, hO1, hK1, hl1, hlt1, rfl⟩
    by_cases hlt : i < ps.length
    · have hms := mark_size i
      have hS := say_S (markOf i) hO1 hnq (by omega)
      unfold markOf at hS
      by_cases h0 : i = 0
      · rw [if_pos h0] at hS
        repeat' (first
          | (with_reducible apply wSeq)
          | (with_reducible apply wReg)
          | (with_reducible apply wBlock)
          | (with_reducible apply thenNor)
          | (with_reducible apply thenRet)
          | (with_reducible apply thenExit)
          | (with_reducible apply blockNor)
          | (with_reducible apply blockExit)
          | (with_reducible apply blockRet)
          | (with_reducible apply oNil)
          | (with_reducible apply wExit)
          | (with_reducible apply wRet)
          | (with_reducible apply wSkip)
          | (with_reducible apply wRegT)
          | (with_reducible apply loopRet)
          | (with_reducible apply loopExit)
          | (with_reducible apply nT <;> dsimp only [List.cons_append, List.nil_append, putV, List.set])
          | (with_reducible apply nF <;> dsimp only [List.cons_append, List.nil_append, putV, List.set])
          | (with_reducible apply tT <;> dsimp only [List.cons_append, List.nil_append, putV, List.set])
          | (with_reducible apply tF <;> dsimp only [List.cons_append, List.nil_append, putV, List.set])
          | (with_reducible refine nB (zb fun hb => ?_) (zb fun hb => ?_) <;> dsimp only [List.cons_append, List.nil_append, putV, List.set])
          | (with_reducible apply nV <;> dsimp only [List.cons_append, List.nil_append, putV, List.set])
          | (with_reducible refine tB (zb fun hb => ?_) (zb fun hb => ?_) <;> dsimp only [List.cons_append, List.nil_append, putV, List.set])
          | (with_reducible apply tV <;> dsimp only [List.cons_append, List.nil_append, putV, List.set])
          | ((with_reducible apply blockOther); (focus (exact rfl)))
          | ((with_reducible apply wCondT); (focus (exact zg)))
          | ((with_reducible apply wCondF); (focus (exact zg)))
          | ((with_reducible apply oCall (h := hS)); (focus (exact zr)); rintro _ _ ⟨b2, T2, rfl, rfl, hO2, hK2, ht2, hf2⟩)
          | ((with_reducible apply oCallG (h := hS)); (focus (exact zg)); (focus (exact zr)); rintro _ _ ⟨b2, T2, rfl, rfl, hO2, hK2, ht2, hf2⟩)
          | ((with_reducible apply tCall (h := hS)); (focus (exact zr)); rintro _ _ ⟨b2, T2, rfl, rfl, hO2, hK2, ht2, hf2⟩)
          | ((with_reducible apply tCallG (h := hS)); (focus (exact zg)); (focus (exact zr)); rintro _ _ ⟨b2, T2, rfl, rfl, hO2, hK2, ht2, hf2⟩)
          | ((with_reducible apply oOp); (focus (exact zs)); (focus rfl))
          | ((with_reducible apply tOp); (focus (exact zs)); (focus rfl))
          | ((with_reducible apply tNil); (focus (exact zc)))
          | ((with_reducible apply endN); (focus (exact rfl)); (focus (exact zs)); (focus (exact zz)); (focus (exact zd)); (focus (exact ze)); dsimp only)
          | ((with_reducible apply endN'); (focus (exact rfl)); (focus (exact zs)); (focus (exact zz)); (focus (exact zd)); (focus (exact ze)); dsimp only)
          | ((with_reducible apply endI); (focus (exact zs)); (focus rfl))
          | (with_reducible exact isI rfl rfl))
        · have hb2 := hb
          clear hb
          have hr1 := hK1.trans hK2
          have hmk : strInts ⟨#[40]⟩ = strInts (markOf i) := by unfold markOf; rw [if_pos h0]
          have e := clos_ok hP hdeep hm hO2 hnq (ht2 hb2) (hr1.2.1 a _ _ hna ha) (hr1.2.1 b _ _ hnb hb0) (hr1.2.1 c _ _ hnc hc) (hr1.2.1 d _ _ hnd hd) hps hcs hcz i rfl hlt
          repeat' (first
            | (with_reducible apply wSeq)
            | (with_reducible apply wReg)
            | (with_reducible apply wBlock)
            | (with_reducible apply thenNor)
            | (with_reducible apply thenRet)
            | (with_reducible apply thenExit)
            | (with_reducible apply blockNor)
            | (with_reducible apply blockExit)
            | (with_reducible apply blockRet)
            | (with_reducible apply oNil)
            | (with_reducible apply wExit)
            | (with_reducible apply wRet)
            | (with_reducible apply wSkip)
            | (with_reducible apply wRegT)
            | (with_reducible apply loopRet)
            | (with_reducible apply loopExit)
            | (with_reducible apply nT <;> dsimp only [List.cons_append, List.nil_append, putV, List.set])
            | (with_reducible apply nF <;> dsimp only [List.cons_append, List.nil_append, putV, List.set])
            | (with_reducible apply tT <;> dsimp only [List.cons_append, List.nil_append, putV, List.set])
            | (with_reducible apply tF <;> dsimp only [List.cons_append, List.nil_append, putV, List.set])
            | (with_reducible refine nB (zb fun hb => ?_) (zb fun hb => ?_) <;> dsimp only [List.cons_append, List.nil_append, putV, List.set])
            | (with_reducible apply nV <;> dsimp only [List.cons_append, List.nil_append, putV, List.set])
            | (with_reducible refine tB (zb fun hb => ?_) (zb fun hb => ?_) <;> dsimp only [List.cons_append, List.nil_append, putV, List.set])
            | (with_reducible apply tV <;> dsimp only [List.cons_append, List.nil_append, putV, List.set])
            | ((with_reducible apply blockOther); (focus (exact rfl)))
            | ((with_reducible apply wCondT); (focus (exact zg)))
            | ((with_reducible apply wCondF); (focus (exact zg)))
            | ((with_reducible apply oCallV (h := e)); (focus (exact zr)); (focus (exact zr)); rintro _ _ ⟨b3, T3, r3, rfl, rfl, hO3, hK3, hS3, hL3⟩)
            | ((with_reducible apply oCallVG (h := e)); (focus (exact zg)); (focus (exact zr)); (focus (exact zr)); rintro _ _ ⟨b3, T3, r3, rfl, rfl, hO3, hK3, hS3, hL3⟩)
            | ((with_reducible apply oOp); (focus (exact zs)); (focus rfl))
            | ((with_reducible apply tOp); (focus (exact zs)); (focus rfl))
            | ((with_reducible apply tNil); (focus (exact zc)))
            | ((with_reducible apply endN); (focus (exact rfl)); (focus (exact zs)); (focus (exact zz)); (focus (exact zd)); (focus (exact ze)); dsimp only)
            | ((with_reducible apply endN'); (focus (exact rfl)); (focus (exact zs)); (focus (exact zz)); (focus (exact zd)); (focus (exact ze)); dsimp only)
            | ((with_reducible apply endI); (focus (exact zs)); (focus rfl))
            | (with_reducible exact isI rfl rfl))
          · have hg := hS3.1 hb
            refine loopNor (k - 1) (by omega) ⟨i + 1, T3, r3, _, _, _, _, _, by push_cast; omega, by omega, hO3, hr1.trans hK3, ?_, hg.2, rfl⟩
            rw [hg.1, hmk, hl1, pre_next hlt]
            simp only [List.append_assoc]
          · have hg := hS3.2 hb
            rw [hmk] at hg
            exact ⟨false, T3, r3, rfl, rfl, hO3, hr1.trans hK3, ⟨(fun h => by cases h), fun _ => ⟨hg.1, mark_pre hlt hl1 hg.2⟩⟩, hL3⟩
        · have hmk : strInts ⟨#[40]⟩ = strInts (markOf i) := by unfold markOf; rw [if_pos h0]
          have hf := hf2 hb
          rw [hmk] at hO2 hf
          exact ⟨false, T2, _, rfl, rfl, hO2, hK1.trans hK2, ⟨(fun h => by cases h), fun _ => ⟨hf, mark_pre hlt hl1 (List.prefix_append _ _)⟩⟩, by rw [List.length_append, strInts_len]; omega⟩
      · rw [if_neg h0] at hS
        repeat' (first
          | (with_reducible apply wSeq)
          | (with_reducible apply wReg)
          | (with_reducible apply wBlock)
          | (with_reducible apply thenNor)
          | (with_reducible apply thenRet)
          | (with_reducible apply thenExit)
          | (with_reducible apply blockNor)
          | (with_reducible apply blockExit)
          | (with_reducible apply blockRet)
          | (with_reducible apply oNil)
          | (with_reducible apply wExit)
          | (with_reducible apply wRet)
          | (with_reducible apply wSkip)
          | (with_reducible apply wRegT)
          | (with_reducible apply loopRet)
          | (with_reducible apply loopExit)
          | (with_reducible apply nT <;> dsimp only [List.cons_append, List.nil_append, putV, List.set])
          | (with_reducible apply nF <;> dsimp only [List.cons_append, List.nil_append, putV, List.set])
          | (with_reducible apply tT <;> dsimp only [List.cons_append, List.nil_append, putV, List.set])
          | (with_reducible apply tF <;> dsimp only [List.cons_append, List.nil_append, putV, List.set])
          | (with_reducible refine nB (zb fun hb => ?_) (zb fun hb => ?_) <;> dsimp only [List.cons_append, List.nil_append, putV, List.set])
          | (with_reducible apply nV <;> dsimp only [List.cons_append, List.nil_append, putV, List.set])
          | (with_reducible refine tB (zb fun hb => ?_) (zb fun hb => ?_) <;> dsimp only [List.cons_append, List.nil_append, putV, List.set])
          | (with_reducible apply tV <;> dsimp only [List.cons_append, List.nil_append, putV, List.set])
          | ((with_reducible apply blockOther); (focus (exact rfl)))
          | ((with_reducible apply wCondT); (focus (exact zg)))
          | ((with_reducible apply wCondF); (focus (exact zg)))
          | ((with_reducible apply oCall (h := hS)); (focus (exact zr)); rintro _ _ ⟨b2, T2, rfl, rfl, hO2, hK2, ht2, hf2⟩)
          | ((with_reducible apply oCallG (h := hS)); (focus (exact zg)); (focus (exact zr)); rintro _ _ ⟨b2, T2, rfl, rfl, hO2, hK2, ht2, hf2⟩)
          | ((with_reducible apply tCall (h := hS)); (focus (exact zr)); rintro _ _ ⟨b2, T2, rfl, rfl, hO2, hK2, ht2, hf2⟩)
          | ((with_reducible apply tCallG (h := hS)); (focus (exact zg)); (focus (exact zr)); rintro _ _ ⟨b2, T2, rfl, rfl, hO2, hK2, ht2, hf2⟩)
          | ((with_reducible apply oOp); (focus (exact zs)); (focus rfl))
          | ((with_reducible apply tOp); (focus (exact zs)); (focus rfl))
          | ((with_reducible apply tNil); (focus (exact zc)))
          | ((with_reducible apply endN); (focus (exact rfl)); (focus (exact zs)); (focus (exact zz)); (focus (exact zd)); (focus (exact ze)); dsimp only)
          | ((with_reducible apply endN'); (focus (exact rfl)); (focus (exact zs)); (focus (exact zz)); (focus (exact zd)); (focus (exact ze)); dsimp only)
          | ((with_reducible apply endI); (focus (exact zs)); (focus rfl))
          | (with_reducible exact isI rfl rfl))
        · have hb2 := hb
          clear hb
          have hr1 := hK1.trans hK2
          have hmk : strInts ⟨#[44, 32]⟩ = strInts (markOf i) := by unfold markOf; rw [if_neg h0]
          have e := clos_ok hP hdeep hm hO2 hnq (ht2 hb2) (hr1.2.1 a _ _ hna ha) (hr1.2.1 b _ _ hnb hb0) (hr1.2.1 c _ _ hnc hc) (hr1.2.1 d _ _ hnd hd) hps hcs hcz i rfl hlt
          repeat' (first
            | (with_reducible apply wSeq)
            | (with_reducible apply wReg)
            | (with_reducible apply wBlock)
            | (with_reducible apply thenNor)
            | (with_reducible apply thenRet)
            | (with_reducible apply thenExit)
            | (with_reducible apply blockNor)
            | (with_reducible apply blockExit)
            | (with_reducible apply blockRet)
            | (with_reducible apply oNil)
            | (with_reducible apply wExit)
            | (with_reducible apply wRet)
            | (with_reducible apply wSkip)
            | (with_reducible apply wRegT)
            | (with_reducible apply loopRet)
            | (with_reducible apply loopExit)
            | (with_reducible apply nT <;> dsimp only [List.cons_append, List.nil_append, putV, List.set])
            | (with_reducible apply nF <;> dsimp only [List.cons_append, List.nil_append, putV, List.set])
            | (with_reducible apply tT <;> dsimp only [List.cons_append, List.nil_append, putV, List.set])
            | (with_reducible apply tF <;> dsimp only [List.cons_append, List.nil_append, putV, List.set])
            | (with_reducible refine nB (zb fun hb => ?_) (zb fun hb => ?_) <;> dsimp only [List.cons_append, List.nil_append, putV, List.set])
            | (with_reducible apply nV <;> dsimp only [List.cons_append, List.nil_append, putV, List.set])
            | (with_reducible refine tB (zb fun hb => ?_) (zb fun hb => ?_) <;> dsimp only [List.cons_append, List.nil_append, putV, List.set])
            | (with_reducible apply tV <;> dsimp only [List.cons_append, List.nil_append, putV, List.set])
            | ((with_reducible apply blockOther); (focus (exact rfl)))
            | ((with_reducible apply wCondT); (focus (exact zg)))
            | ((with_reducible apply wCondF); (focus (exact zg)))
            | ((with_reducible apply oCallV (h := e)); (focus (exact zr)); (focus (exact zr)); rintro _ _ ⟨b3, T3, r3, rfl, rfl, hO3, hK3, hS3, hL3⟩)
            | ((with_reducible apply oCallVG (h := e)); (focus (exact zg)); (focus (exact zr)); (focus (exact zr)); rintro _ _ ⟨b3, T3, r3, rfl, rfl, hO3, hK3, hS3, hL3⟩)
            | ((with_reducible apply oOp); (focus (exact zs)); (focus rfl))
            | ((with_reducible apply tOp); (focus (exact zs)); (focus rfl))
            | ((with_reducible apply tNil); (focus (exact zc)))
            | ((with_reducible apply endN); (focus (exact rfl)); (focus (exact zs)); (focus (exact zz)); (focus (exact zd)); (focus (exact ze)); dsimp only)
            | ((with_reducible apply endN'); (focus (exact rfl)); (focus (exact zs)); (focus (exact zz)); (focus (exact zd)); (focus (exact ze)); dsimp only)
            | ((with_reducible apply endI); (focus (exact zs)); (focus rfl))
            | (with_reducible exact isI rfl rfl))
          · have hg := hS3.1 hb
            refine loopNor (k - 1) (by omega) ⟨i + 1, T3, r3, _, _, _, _, _, by push_cast; omega, by omega, hO3, hr1.trans hK3, ?_, hg.2, rfl⟩
            rw [hg.1, hmk, hl1, pre_next hlt]
            simp only [List.append_assoc]
          · have hg := hS3.2 hb
            rw [hmk] at hg
            exact ⟨false, T3, r3, rfl, rfl, hO3, hr1.trans hK3, ⟨(fun h => by cases h), fun _ => ⟨hg.1, mark_pre hlt hl1 hg.2⟩⟩, hL3⟩
        · have hmk : strInts ⟨#[44, 32]⟩ = strInts (markOf i) := by unfold markOf; rw [if_neg h0]
          have hf := hf2 hb
          rw [hmk] at hO2 hf
          exact ⟨false, T2, _, rfl, rfl, hO2, hK1.trans hK2, ⟨(fun h => by cases h), fun _ => ⟨hf, mark_pre hlt hl1 (List.prefix_append _ _)⟩⟩, by rw [List.length_append, strInts_len]; omega⟩
    · obtain rfl : i = ps.length := by omega
      have hS := say_S ⟨#[41]⟩ hO1 hnq (by have : (⟨#[41]⟩ : ByteArray).size = 1 := rfl; omega)
      repeat' (first
        | (with_reducible apply wSeq)
        | (with_reducible apply wReg)
        | (with_reducible apply wBlock)
        | (with_reducible apply thenNor)
        | (with_reducible apply thenRet)
        | (with_reducible apply thenExit)
        | (with_reducible apply blockNor)
        | (with_reducible apply blockExit)
        | (with_reducible apply blockRet)
        | (with_reducible apply oNil)
        | (with_reducible apply wExit)
        | (with_reducible apply wRet)
        | (with_reducible apply wSkip)
        | (with_reducible apply wRegT)
        | (with_reducible apply loopRet)
        | (with_reducible apply loopExit)
        | (with_reducible apply nT <;> dsimp only [List.cons_append, List.nil_append, putV, List.set])
        | (with_reducible apply nF <;> dsimp only [List.cons_append, List.nil_append, putV, List.set])
        | (with_reducible apply tT <;> dsimp only [List.cons_append, List.nil_append, putV, List.set])
        | (with_reducible apply tF <;> dsimp only [List.cons_append, List.nil_append, putV, List.set])
        | (with_reducible refine nB (zb fun hb => ?_) (zb fun hb => ?_) <;> dsimp only [List.cons_append, List.nil_append, putV, List.set])
        | (with_reducible apply nV <;> dsimp only [List.cons_append, List.nil_append, putV, List.set])
        | (with_reducible refine tB (zb fun hb => ?_) (zb fun hb => ?_) <;> dsimp only [List.cons_append, List.nil_append, putV, List.set])
        | (with_reducible apply tV <;> dsimp only [List.cons_append, List.nil_append, putV, List.set])
        | ((with_reducible apply blockOther); (focus (exact rfl)))
        | ((with_reducible apply wCondT); (focus (exact zg)))
        | ((with_reducible apply wCondF); (focus (exact zg)))
        | ((with_reducible apply oCall (h := hS)); (focus (exact zr)); rintro _ _ ⟨b2, T2, rfl, rfl, hO2, hK2, ht2, hf2⟩)
        | ((with_reducible apply oCallG (h := hS)); (focus (exact zg)); (focus (exact zr)); rintro _ _ ⟨b2, T2, rfl, rfl, hO2, hK2, ht2, hf2⟩)
        | ((with_reducible apply tCall (h := hS)); (focus (exact zr)); rintro _ _ ⟨b2, T2, rfl, rfl, hO2, hK2, ht2, hf2⟩)
        | ((with_reducible apply tCallG (h := hS)); (focus (exact zg)); (focus (exact zr)); rintro _ _ ⟨b2, T2, rfl, rfl, hO2, hK2, ht2, hf2⟩)
        | ((with_reducible apply oOp); (focus (exact zs)); (focus rfl))
        | ((with_reducible apply tOp); (focus (exact zs)); (focus rfl))
        | ((with_reducible apply tNil); (focus (exact zc)))
        | ((with_reducible apply endN); (focus (exact rfl)); (focus (exact zs)); (focus (exact zz)); (focus (exact zd)); (focus (exact ze)); dsimp only)
        | ((with_reducible apply endN'); (focus (exact rfl)); (focus (exact zs)); (focus (exact zz)); (focus (exact zd)); (focus (exact ze)); dsimp only)
        | ((with_reducible apply endI); (focus (exact zs)); (focus rfl))
        | (with_reducible exact isI rfl rfl))
      · have hp0 : ps = [] := List.length_eq_zero_iff.1 (by omega)
        subst hp0
        exact ⟨true, T1, l1, rfl, rfl, hO1, hK1, ⟨fun _ => ⟨hl1, hlt1⟩, fun h => by cases h⟩, by omega⟩
      all_goals
        have hp0 : ps ≠ [] := fun h => by subst h; simp_all
        have hx : l1 ++ strInts ⟨#[41]⟩ = l ++ allOf m ps cells := by
          rw [hl1]
          unfold preOf allOf
          rw [if_neg (fun h => hp0 (List.length_eq_zero_iff.1 h)), if_neg hp0, List.take_length]
          simp [strInts]
        have hsz : (l1 ++ strInts ⟨#[41]⟩).length ≤ 2000000 := by rw [List.length_append, strInts_len]; have : (⟨#[41]⟩ : ByteArray).size = 1 := rfl; omega
        refine ⟨_, T2, _, rfl, rfl, hO2, hK1.trans hK2, ⟨fun h => ⟨hx, ?_⟩, fun h => ⟨?_, by rw [hx]; exact List.prefix_refl _⟩⟩, hsz⟩
        · first | exact ht2 hb | cases h
        · first | exact hf2 hb | cases h
end Go.Proofs.YthogcanomihelaaDoor.Gs
