/- Buffers that are appended to, in a frame; digits. -/
import Derived.Test.YthogcanomihelaaDoorGs
import Derived.Test.YthogcanomihelaaDoorAe22
import Derived.Lib.ItoaLen
set_option linter.unusedSimpArgs false
set_option linter.unusedVariables false
namespace Go.Proofs.YthogcanomihelaaDoor.Gs
open Go Go.Proofs Go.Proofs.YthogcanomihelaaDoor.Ae
theorem obind_congr {α β : Type} {x y : Option α} {f : α → Option β} (h : x = y) : x.bind f = y.bind f := by rw [h]
attribute [local congr] obind_congr
attribute [local push_cast] exF argsV frzs frz frzL frz1 exS_reg exS_seq exS_cond exS_alt exS_block exS_loop exS_exit exS_ret exS_skip evReg evOps evOne evAct evOp rd putV st0 evEnd resV resL resOne oneOr frzR loadV storeV binV binI unV push_frm pop_frm frm_len frm_top frm_get_top frm_set_top frm_new AV.cells AV.lowB AV.lowL AV.isCell cellsOk set_len Option.bind_some Option.map_some Option.map_none List.getD_cons_zero List.getD_cons_succ List.nil_append List.cons_append List.append_nil List.length_cons List.length_nil List.set_cons_zero List.set_cons_succ List.map_cons List.map_nil List.replicate if_true if_false ite_true ite_false ite_self Bool.false_eq_true List.all_cons List.all_nil Bool.and_true Bool.true_and Bool.and_self Bool.and_eq_true List.getElem?_cons_zero List.getElem?_cons_succ List.drop_succ_cons List.drop_zero List.take_succ_cons List.take_zero true_and and_true and_self decide_true decide_false Bool.not_true Bool.not_false Prod.mk.injEq Option.some.injEq List.getElem?_drop optInt elems sliceV partsOf Nat.add_zero Nat.zero_add Nat.mul_one beq_self_eq_true litParts Bool.or_false Bool.false_or Bool.or_true Bool.true_or Bool.false_and Bool.and_false List.cons.injEq not_false_eq_true not_true_eq_false Nat.zero_le Nat.le_refl gt_iff_lt ge_iff_le List.drop_nil List.take_nil newBox List.length_append List.length_map bne_self_eq_false eq_self Nat.lt_add_one ne_eq false_implies Int.le_refl

abbrev bys (l : List Int) : List AV := l.map (AV.int .u8)
theorem bys_len (l : List Int) : (bys l).length = l.length := by simp [bys]
theorem bys_ok (l : List Int) : cellsOk 0 (bys l) = true := by simp [cellsOk, bys, AV.isCell, AV.lowB]
theorem bys_app (a b : List Int) : bys a ++ bys b = bys (a ++ b) := by simp [bys]
/-- What is shown so far: a literal (where z: none but the empty one), or a whole array that lies in the frame behind n. -/
def BufAt (z : Bool) (D n : Nat) (T : List Ae.Obj) (v : AV) (l : List Int) : Prop :=
  (v = .imm true l.length (bys l) ∧ (z = true → l = [])) ∨ ∃ i ver, v = .slr D i 0 l.length ver false ∧ n ≤ i ∧ T[i]? = some (.arr 5 1 (bys l) ver 0)
/-- Boxes stay, and all that lies ahead of n. -/
def Bx (n : Nat) (T T' : List Ae.Obj) : Prop := T.length ≤ T'.length ∧ (∀ (i ty : Nat) (c : List AV), T[i]? = some (Ae.Obj.box ty c) → T'[i]? = some (Ae.Obj.box ty c)) ∧ ∀ i, i < n → T'[i]? = T[i]?
theorem Bx.refl (n : Nat) (T : List Ae.Obj) : Bx n T T := ⟨Nat.le_refl _, fun _ _ _ h => h, fun _ _ => rfl⟩
theorem Bx.trans {n : Nat} {T T1 T2 : List Ae.Obj} (h : Bx n T T1) (k : Bx n T1 T2) : Bx n T T2 := ⟨Nat.le_trans h.1 k.1, fun i ty c hb => k.2.1 i ty c (h.2.1 i ty c hb), fun i hi => (k.2.2 i hi).trans (h.2.2 i hi)⟩
theorem lt_of_get {α : Type} {T : List α} {i : Nat} {o : α} (h : T[i]? = some o) : i < T.length := (List.getElem?_eq_some_iff.1 h).1
theorem bx_app {n : Nat} {T : List Ae.Obj} (R : List Ae.Obj) (hn : n ≤ T.length) : Bx n T (T ++ R) :=
  ⟨by simp, fun i ty c h => by rw [List.getElem?_append_left (lt_of_get h)]; exact h, fun i hi => List.getElem?_append_left (by omega)⟩
theorem bx_arr {n i e sz ver pr : Nat} {T : List Ae.Obj} {cs : List AV} (o : Ae.Obj) (hg : T[i]? = some (.arr e sz cs ver pr)) (hn : n ≤ i) : Bx n T (T.set i o) :=
  ⟨by simp, fun j ty c h => by
    by_cases hj : i = j
    · subst hj; rw [hg] at h; cases h
    · rw [List.getElem?_set_ne hj]; exact h, fun j hj => List.getElem?_set_ne (by omega)⟩
theorem BufAt.app {z : Bool} {D n : Nat} {T : List Ae.Obj} {v : AV} {l : List Int} (h : BufAt z D n T v l) (R : List Ae.Obj) : BufAt z D n (T ++ R) v l := by
  rcases h with h | ⟨i, ver, h1, h2, h3⟩
  · exact .inl h
  · exact .inr ⟨i, ver, h1, h2, by rw [List.getElem?_append_left (lt_of_get h3)]; exact h3⟩
theorem buf_elems {z : Bool} {s : Store} {D n : Nat} {T : List Ae.Obj} {v : AV} {l : List Int} (hD : D = s.low.length + 1) (h : BufAt z D n T v l) : srcOf (frm s T) v = some (l.length, bys l) := by
  rcases h with ⟨rfl, _⟩ | ⟨i, ver, rfl, h2, h3⟩
  · rfl
  · subst hD
    have h4 : 0 + l.length * 1 ≤ (bys l).length := by rw [bys_len]; omega
    simp only [srcOf, elems, frm_get_top, h3]
    rw [if_pos ⟨trivial, h4⟩, List.drop_zero, List.take_of_length_le (by rw [bys_len]; omega)]
theorem app_buf {z : Bool} {s : Store} {D n m : Nat} {T : List Ae.Obj} {b src : AV} {l ys : List Int} (hsrc : srcOf (frm s T) src = some (m, bys ys)) (hm : ys.length = m) (hD : D = s.low.length + 1) (hB : BufAt z D n T b l) (hn : n ≤ T.length) (hl : l.length + m ≤ 1000000000) :
    ∃ b' S', appV (frm s T) 5 1 1 b src = some (b', S') ∧ ∃ T', S' = frm s T' ∧ BufAt z D n T' b' (l ++ ys) ∧ Bx n T T' := by
  subst hm hD
  simp only [appV, hsrc, Option.bind_some]
  have hlen : (l ++ ys).length = l.length + ys.length := List.length_append
  have hy : ∀ d, cellsOk d (bys ys) = true := fun d => cellsOk_mono (Nat.zero_le _) (bys_ok ys)
  have hb1 : (l.length + ys.length) * 1 ≤ 140737488355328 := by omega
  have hyl : (bys ys).length = ys.length * 1 := by rw [bys_len]; omega
  rcases hB with ⟨rfl, hz⟩ | ⟨i, ver, rfl, h2, h3⟩
  · have hll : (bys l).length = l.length * 1 := by rw [bys_len]; omega
    simp only [appTo]
    rw [if_pos ⟨hb1, hy _, hll, hyl⟩]
    by_cases h0 : ys.length = 0
    · rw [if_pos h0]
      obtain rfl : ys = [] := List.length_eq_zero_iff.1 h0
      exact ⟨_, _, rfl, T, rfl, .inl ⟨by simp, by simpa using hz⟩, Bx.refl _ _⟩
    · rw [if_neg h0]
      have hc : cellsOk ((frm s T).low.length + 1) (bys l ++ bys ys) = true ∧ (bys l ++ bys ys).length = (l.length + ys.length) * 1 := by
        rw [bys_app]
        exact ⟨cellsOk_mono (Nat.zero_le _) (bys_ok _), by rw [bys_len, hlen]; omega⟩
      simp only [newArr]
      rw [if_pos hc, frm_len, frm_top, frm_new, bys_app]
      exact ⟨_, _, rfl, _, rfl, .inr ⟨T.length, 0, by rw [hlen], hn, by simp⟩, bx_app _ hn⟩
  · simp only [appTo, frm_get_top, h3]
    have h4 : 0 + l.length * 1 ≤ (bys l).length := by rw [bys_len]; omega
    rw [if_pos ⟨hb1, trivial, h4, trivial, trivial, hyl⟩]
    simp only [Bool.false_eq_true, if_false]
    rw [if_pos ⟨hy _, Nat.zero_le _⟩]
    have h5 : ((bys l).drop 0).take (l.length * 1) = bys l := by rw [List.drop_zero]; exact List.take_of_length_le (by rw [bys_len]; omega)
    rw [h5, bys_app, frm_set_top]
    exact ⟨_, _, rfl, _, rfl, .inr ⟨i, ver + 1, by rw [hlen], h2, List.getElem?_set_self (lt_of_get h3)⟩, bx_arr _ h3 h2⟩

/-! ### digits -/
def dg (u : Nat) : List Int := (Lib.decDigits u).map fun b => (b.toNat : Int)
theorem dg_small {u : Nat} (h : u < 10) : dg u = [48 + (u : Int)] := by
  unfold dg
  rw [Lib.decDigits_one h]
  simp only [List.map_cons, List.map_nil]
  rw [UInt8.toNat_ofNat_of_lt' (by show 48 + u < 256; omega)]
  push_cast
theorem dg_big {u : Nat} (h : ¬ u < 10) : dg u = dg (u / 10) ++ [48 + ((u % 10 : Nat) : Int)] := by
  unfold dg
  rw [Lib.decDigits, dif_neg h, List.map_append]
  simp only [List.map_cons, List.map_nil]
  rw [UInt8.toNat_ofNat_of_lt' (by show 48 + u % 10 < 256; omega)]
  push_cast
theorem dg_len {u : Nat} (h : u < 18446744073709551616) : (dg u).length ≤ 20 := by
  unfold dg
  rw [List.length_map, Lib.decDigits_length]
  exact Lib.nDigits_le20 u (by omega)
theorem wrap_u64 {x : Int} (h : 0 ≤ x ∧ x < 18446744073709551616) : IntKind.u64.wrap x = x := by
  unfold IntKind.wrap
  simp only [IntKind.bits, IntKind.signed, Bool.false_and, Bool.false_eq_true, if_false]
  omega
theorem wrap_u8 {x : Int} (h : 0 ≤ x ∧ x < 256) : IntKind.u8.wrap x = x := by
  unfold IntKind.wrap
  simp only [IntKind.bits, IntKind.signed, Bool.false_and, Bool.false_eq_true, if_false]
  omega
set_option maxHeartbeats 4000000 in
theorem tens_ok : ∀ (u : Nat) (s : Store) (T : List Ae.Obj) (n : Nat), u < 18446744073709551616 → n ≤ T.length →
    ∃ v s', callF (tab tbl) prim 44 [.int .u64 u] (frm s T) = some (v, s') ∧ ∃ T', s' = frm s T' ∧ BufAt false (s.low.length + 1) n T' v (dg u) ∧ Bx n T T' := by
  intro u
  induction u using Nat.strongRecOn with
  | _ u ih =>
    intro s T n hu hn
    by_cases h : u < 10
    · have e1 : IntKind.u64.wrap (48 + (u : Int)) = 48 + u := wrap_u64 (by omega)
      have e2 : IntKind.u8.wrap (48 + (u : Int)) = 48 + u := wrap_u8 (by omega)
      refine funZ rfl (zsf (And.intro @e1 (@e2))) zt ?_
      repeat' (first
        | (with_reducible apply wSeq)
        | (with_reducible apply wReg)
        | (with_reducible apply wBlock)
        | (with_reducible apply thenNor)
        | (with_reducible apply thenRet)
        | (with_reducible apply thenExit)
        | (with_reducible apply blockNor)
        | (with_reducible apply blockExit)
        | (with_reducible apply blockRet)
        | (with_reducible apply oNil)
        | (with_reducible apply wExit)
        | (with_reducible apply wRet)
        | (with_reducible apply wSkip)
        | (with_reducible apply wRegT)
        | (with_reducible apply loopRet)
        | (with_reducible apply loopExit)
        | (with_reducible apply nT <;> dsimp only [List.cons_append, List.nil_append, putV, List.set])
        | (with_reducible apply nF <;> dsimp only [List.cons_append, List.nil_append, putV, List.set])
        | (with_reducible apply tT <;> dsimp only [List.cons_append, List.nil_append, putV, List.set])
        | (with_reducible apply tF <;> dsimp only [List.cons_append, List.nil_append, putV, List.set])
        | (with_reducible refine nB (zb fun hb => ?_) (zb fun hb => ?_) <;> dsimp only [List.cons_append, List.nil_append, putV, List.set])
        | (with_reducible apply nV <;> dsimp only [List.cons_append, List.nil_append, putV, List.set])
        | (with_reducible refine tB (zb fun hb => ?_) (zb fun hb => ?_) <;> dsimp only [List.cons_append, List.nil_append, putV, List.set])
        | (with_reducible apply tV <;> dsimp only [List.cons_append, List.nil_append, putV, List.set])
        | ((with_reducible apply blockOther); (focus (exact rfl)))
        | ((with_reducible apply wCondT); (focus (exact zg)))
        | ((with_reducible apply wCondF); (focus (exact zg)))
        | ((with_reducible apply oOp); (focus (exact zsf (And.intro @e1 (@e2)))); (focus rfl))
        | ((with_reducible apply tOp); (focus (exact zsf (And.intro @e1 (@e2)))); (focus rfl))
        | ((with_reducible apply tNil); (focus (exact zcf (And.intro @e1 (@e2)))))
        | ((with_reducible apply endN); (focus (exact rfl)); (focus (exact zsf (And.intro @e1 (@e2)))); (focus (exact zzf (And.intro @e1 (@e2)))); (focus (exact zdf (And.intro @e1 (@e2)))); (focus (exact ze)); dsimp only)
        | ((with_reducible apply endN'); (focus (exact rfl)); (focus (exact zsf (And.intro @e1 (@e2)))); (focus (exact zzf (And.intro @e1 (@e2)))); (focus (exact zdf (And.intro @e1 (@e2)))); (focus (exact ze)); dsimp only)
        | ((with_reducible apply endI); (focus (exact zsf (And.intro @e1 (@e2)))); (focus rfl))
        | (with_reducible exact isI rfl rfl))
      refine ⟨T, rfl, ?_, Bx.refl _ _⟩
      rw [dg_small h]
      exact .inl ⟨rfl, fun h => by cases h⟩
    · have e0 : IntKind.u64.wrap ((u : Int).tdiv 10) = (u : Int) / 10 := by
        rw [Int.tdiv_eq_ediv_of_nonneg (by omega)]
        exact wrap_u64 (by omega)
      have e4 : (u : Int).tmod 10 = (u : Int) % 10 := Int.tmod_eq_emod_of_nonneg (by omega)
      have e1 : IntKind.u64.wrap (48 + (u : Int) % 10) = 48 + (u : Int) % 10 := wrap_u64 (by omega)
      have e2 : IntKind.u8.wrap (48 + (u : Int) % 10) = 48 + (u : Int) % 10 := wrap_u8 (by omega)
      obtain ⟨v1, _, e, T1, rfl, hB1, hX1⟩ := ih (u / 10) (by omega) s T n (by omega) hn
      rw [show ((u / 10 : Nat) : Int) = (u : Int) / 10 by omega] at e
      have hl := dg_len (u := u / 10) (by omega)
      have hA := app_buf (s := s) (T := T1) (src := .imm true 1 [.int .u8 (48 + (u : Int) % 10)]) (m := 1) (ys := [48 + (u : Int) % 10]) rfl rfl rfl hB1 (Nat.le_trans hn hX1.1) (by omega)
      refine funZ rfl (zsf (And.intro @e0 (And.intro @e1 (And.intro @e2 (And.intro @e4 (@e)))))) zt ?_
      repeat' (first
        | (with_reducible apply wSeq)
        | (with_reducible apply wReg)
        | (with_reducible apply wBlock)
        | (with_reducible apply thenNor)
        | (with_reducible apply thenRet)
        | (with_reducible apply thenExit)
        | (with_reducible apply blockNor)
        | (with_reducible apply blockExit)
        | (with_reducible apply blockRet)
        | (with_reducible apply oNil)
        | (with_reducible apply wExit)
        | (with_reducible apply wRet)
        | (with_reducible apply wSkip)
        | (with_reducible apply wRegT)
        | (with_reducible apply loopRet)
        | (with_reducible apply loopExit)
        | (with_reducible apply nT <;> dsimp only [List.cons_append, List.nil_append, putV, List.set])
        | (with_reducible apply nF <;> dsimp only [List.cons_append, List.nil_append, putV, List.set])
        | (with_reducible apply tT <;> dsimp only [List.cons_append, List.nil_append, putV, List.set])
        | (with_reducible apply tF <;> dsimp only [List.cons_append, List.nil_append, putV, List.set])
        | (with_reducible refine nB (zb fun hb => ?_) (zb fun hb => ?_) <;> dsimp only [List.cons_append, List.nil_append, putV, List.set])
        | (with_reducible apply nV <;> dsimp only [List.cons_append, List.nil_append, putV, List.set])
        | (with_reducible refine tB (zb fun hb => ?_) (zb fun hb => ?_) <;> dsimp only [List.cons_append, List.nil_append, putV, List.set])
        | (with_reducible apply tV <;> dsimp only [List.cons_append, List.nil_append, putV, List.set])
        | ((with_reducible apply blockOther); (focus (exact rfl)))
        | ((with_reducible apply wCondT); (focus (exact zg)))
        | ((with_reducible apply wCondF); (focus (exact zg)))
        | ((with_reducible apply oApp (h := hA)); (focus (exact zr)); (focus (exact zr)); rintro _ _ ⟨T2, rfl, hB2, hX2⟩)
        | ((with_reducible apply tApp (h := hA)); (focus (exact zr)); (focus (exact zr)); rintro _ _ ⟨T2, rfl, hB2, hX2⟩)
        | ((with_reducible apply oOp); (focus (exact zsf (And.intro @e0 (And.intro @e1 (And.intro @e2 (And.intro @e4 (@e))))))); (focus rfl))
        | ((with_reducible apply tOp); (focus (exact zsf (And.intro @e0 (And.intro @e1 (And.intro @e2 (And.intro @e4 (@e))))))); (focus rfl))
        | ((with_reducible apply tNil); (focus (exact zcf (And.intro @e0 (And.intro @e1 (And.intro @e2 (And.intro @e4 (@e))))))))
        | ((with_reducible apply endN); (focus (exact rfl)); (focus (exact zsf (And.intro @e0 (And.intro @e1 (And.intro @e2 (And.intro @e4 (@e))))))); (focus (exact zzf (And.intro @e0 (And.intro @e1 (And.intro @e2 (And.intro @e4 (@e))))))); (focus (exact zdf (And.intro @e0 (And.intro @e1 (And.intro @e2 (And.intro @e4 (@e))))))); (focus (exact ze)); dsimp only)
        | ((with_reducible apply endN'); (focus (exact rfl)); (focus (exact zsf (And.intro @e0 (And.intro @e1 (And.intro @e2 (And.intro @e4 (@e))))))); (focus (exact zzf (And.intro @e0 (And.intro @e1 (And.intro @e2 (And.intro @e4 (@e))))))); (focus (exact zdf (And.intro @e0 (And.intro @e1 (And.intro @e2 (And.intro @e4 (@e))))))); (focus (exact ze)); dsimp only)
        | ((with_reducible apply endI); (focus (exact zsf (And.intro @e0 (And.intro @e1 (And.intro @e2 (And.intro @e4 (@e))))))); (focus rfl))
        | (with_reducible exact isI rfl rfl))
      rw [dg_big h, show ((u % 10 : Nat) : Int) = (u : Int) % 10 by omega]
      exact ⟨T2, rfl, hB2, hX1.trans hX2⟩
/-- The numeral of a number. -/
def num (n : Int) : List Int := if n < 0 then 45 :: dg n.natAbs else dg n.toNat
theorem num_len {n : Int} (h : -9223372036854775808 ≤ n ∧ n ≤ 9223372036854775807) : (num n).length ≤ 21 := by
  unfold num
  split
  · have := dg_len (u := n.natAbs) (by omega)
    rw [List.length_cons]
    omega
  · have := dg_len (u := n.toNat) (by omega)
    omega
set_option maxHeartbeats 4000000 in
theorem digits_ok {n : Int} {s : Store} {T : List Ae.Obj} {k : Nat} (h : -9223372036854775808 ≤ n ∧ n ≤ 9223372036854775807) (hk : k ≤ T.length) :
    ∃ v s', callF (tab tbl) prim 41 [.int .i64 n] (frm s T) = some (v, s') ∧ ∃ T', s' = frm s T' ∧ BufAt false (s.low.length + 1) k T' v (num n) ∧ Bx k T T' := by
  unfold num
  by_cases h0 : n < 0
  · have e1 : IntKind.u64.wrap n = n + 18446744073709551616 := by
      unfold IntKind.wrap
      simp only [IntKind.bits, IntKind.signed, Bool.false_and, Bool.false_eq_true, if_false]
      omega
    have e2 : IntKind.u64.wrap (0 - (n + 18446744073709551616)) = (n.natAbs : Int) := by
      unfold IntKind.wrap
      simp only [IntKind.bits, IntKind.signed, Bool.false_and, Bool.false_eq_true, if_false]
      omega
    obtain ⟨v1, _, e, T1, rfl, hB1, hX1⟩ := tens_ok n.natAbs s T k (by omega) hk
    have hl := dg_len (u := n.natAbs) (by omega)
    have hA := app_buf (z := false) (s := s) (T := T1) (n := k) (b := .imm true 1 [.int .u8 45]) (l := [45]) (buf_elems rfl hB1) rfl rfl (.inl ⟨rfl, fun h => by cases h⟩) (Nat.le_trans hk hX1.1) (by simp; omega)
    rw [if_pos h0]
    refine funZ rfl (zsf (And.intro @e1 (And.intro @e2 (@e)))) zt ?_
    repeat' (first
      | (with_reducible apply wSeq)
      | (with_reducible apply wReg)
      | (with_reducible apply wBlock)
      | (with_reducible apply thenNor)
      | (with_reducible apply thenRet)
      | (with_reducible apply thenExit)
      | (with_reducible apply blockNor)
      | (with_reducible apply blockExit)
      | (with_reducible apply blockRet)
      | (with_reducible apply oNil)
      | (with_reducible apply wExit)
      | (with_reducible apply wRet)
      | (with_reducible apply wSkip)
      | (with_reducible apply wRegT)
      | (with_reducible apply loopRet)
      | (with_reducible apply loopExit)
      | (with_reducible apply nT <;> dsimp only [List.cons_append, List.nil_append, putV, List.set])
      | (with_reducible apply nF <;> dsimp only [List.cons_append, List.nil_append, putV, List.set])
      | (with_reducible apply tT <;> dsimp only [List.cons_append, List.nil_append, putV, List.set])
      | (with_reducible apply tF <;> dsimp only [List.cons_append, List.nil_append, putV, List.set])
      | (with_reducible refine nB (zb fun hb => ?_) (zb fun hb => ?_) <;> dsimp only [List.cons_append, List.nil_append, putV, List.set])
      | (with_reducible apply nV <;> dsimp only [List.cons_append, List.nil_append, putV, List.set])
      | (with_reducible refine tB (zb fun hb => ?_) (zb fun hb => ?_) <;> dsimp only [List.cons_append, List.nil_append, putV, List.set])
      | (with_reducible apply tV <;> dsimp only [List.cons_append, List.nil_append, putV, List.set])
      | ((with_reducible apply blockOther); (focus (exact rfl)))
      | ((with_reducible apply wCondT); (focus (exact zg)))
      | ((with_reducible apply wCondF); (focus (exact zg)))
      | ((with_reducible apply oApp (h := hA)); (focus (exact zr)); (focus (exact zr)); rintro _ _ ⟨T2, rfl, hB2, hX2⟩)
      | ((with_reducible apply tApp (h := hA)); (focus (exact zr)); (focus (exact zr)); rintro _ _ ⟨T2, rfl, hB2, hX2⟩)
      | ((with_reducible apply oOp); (focus (exact zsf (And.intro @e1 (And.intro @e2 (@e))))); (focus rfl))
      | ((with_reducible apply tOp); (focus (exact zsf (And.intro @e1 (And.intro @e2 (@e))))); (focus rfl))
      | ((with_reducible apply tNil); (focus (exact zcf (And.intro @e1 (And.intro @e2 (@e))))))
      | ((with_reducible apply endN); (focus (exact rfl)); (focus (exact zsf (And.intro @e1 (And.intro @e2 (@e))))); (focus (exact zzf (And.intro @e1 (And.intro @e2 (@e))))); (focus (exact zdf (And.intro @e1 (And.intro @e2 (@e))))); (focus (exact ze)); dsimp only)
      | ((with_reducible apply endN'); (focus (exact rfl)); (focus (exact zsf (And.intro @e1 (And.intro @e2 (@e))))); (focus (exact zzf (And.intro @e1 (And.intro @e2 (@e))))); (focus (exact zdf (And.intro @e1 (And.intro @e2 (@e))))); (focus (exact ze)); dsimp only)
      | ((with_reducible apply endI); (focus (exact zsf (And.intro @e1 (And.intro @e2 (@e))))); (focus rfl))
      | (with_reducible exact isI rfl rfl))
    exact ⟨T2, rfl, hB2, hX1.trans hX2⟩
  · have e1 : IntKind.u64.wrap n = (n.toNat : Int) := by rw [wrap_u64 (by omega)]; omega
    obtain ⟨v1, _, e, T1, rfl, hB1, hX1⟩ := tens_ok n.toNat s T k (by omega) hk
    rw [if_neg h0]
    refine funZ rfl (zsf (And.intro @e1 (@e))) zt ?_
    repeat' (first
      | (with_reducible apply wSeq)
      | (with_reducible apply wReg)
      | (with_reducible apply wBlock)
      | (with_reducible apply thenNor)
      | (with_reducible apply thenRet)
      | (with_reducible apply thenExit)
      | (with_reducible apply blockNor)
      | (with_reducible apply blockExit)
      | (with_reducible apply blockRet)
      | (with_reducible apply oNil)
      | (with_reducible apply wExit)
      | (with_reducible apply wRet)
      | (with_reducible apply wSkip)
      | (with_reducible apply wRegT)
      | (with_reducible apply loopRet)
      | (with_reducible apply loopExit)
      | (with_reducible apply nT <;> dsimp only [List.cons_append, List.nil_append, putV, List.set])
      | (with_reducible apply nF <;> dsimp only [List.cons_append, List.nil_append, putV, List.set])
      | (with_reducible apply tT <;> dsimp only [List.cons_append, List.nil_append, putV, List.set])
      | (with_reducible apply tF <;> dsimp only [List.cons_append, List.nil_append, putV, List.set])
      | (with_reducible refine nB (zb fun hb => ?_) (zb fun hb => ?_) <;> dsimp only [List.cons_append, List.nil_append, putV, List.set])
      | (with_reducible apply nV <;> dsimp only [List.cons_append, List.nil_append, putV, List.set])
      | (with_reducible refine tB (zb fun hb => ?_) (zb fun hb => ?_) <;> dsimp only [List.cons_append, List.nil_append, putV, List.set])
      | (with_reducible apply tV <;> dsimp only [List.cons_append, List.nil_append, putV, List.set])
      | ((with_reducible apply blockOther); (focus (exact rfl)))
      | ((with_reducible apply wCondT); (focus (exact zg)))
      | ((with_reducible apply wCondF); (focus (exact zg)))
      | ((with_reducible apply oOp); (focus (exact zsf (And.intro @e1 (@e)))); (focus rfl))
      | ((with_reducible apply tOp); (focus (exact zsf (And.intro @e1 (@e)))); (focus rfl))
      | ((with_reducible apply tNil); (focus (exact zcf (And.intro @e1 (@e)))))
      | ((with_reducible apply endN); (focus (exact rfl)); (focus (exact zsf (And.intro @e1 (@e)))); (focus (exact zzf (And.intro @e1 (@e)))); (focus (exact zdf (And.intro @e1 (@e)))); (focus (exact ze)); dsimp only)
      | ((with_reducible apply endN'); (focus (exact rfl)); (focus (exact zsf (And.intro @e1 (@e)))); (focus (exact zzf (And.intro @e1 (@e)))); (focus (exact zdf (And.intro @e1 (@e)))); (focus (exact ze)); dsimp only)
      | ((with_reducible apply endI); (focus (exact zsf (And.intro @e1 (@e)))); (focus rfl))
      | (with_reducible exact isI rfl rfl))
    exact ⟨T1, rfl, hB1, hX1⟩
end Go.Proofs.YthogcanomihelaaDoor.Gs
