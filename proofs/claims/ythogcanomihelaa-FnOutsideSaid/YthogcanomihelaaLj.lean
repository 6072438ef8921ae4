/- Whether all accesses of a heap lie inside, by the reference. -/
import Derived.Test.YthogcanomihelaaLi
set_option linter.unusedSimpArgs false
set_option linter.unusedVariables false
namespace Go.Proofs.Ythogcanomihelaa.Ga
open Go Go.Proofs Go.Proofs.Ythogcanomihelaa.Ae
attribute [local congr] obind_congr
attribute [local push_cast] exF argsV frzs frz frzL frz1 exS_reg exS_seq exS_cond exS_alt exS_block exS_loop exS_exit exS_ret exS_skip evReg evOps evOne evAct evOp rd putV st0 evEnd resV resL resOne oneOr frzR loadV storeV binV binI unV push_frm pop_frm frm_len frm_top frm_get_top frm_set_top frm_new AV.cells AV.lowB AV.lowL AV.isCell cellsOk set_len Option.bind_some Option.map_some Option.map_none List.getD_cons_zero List.getD_cons_succ List.nil_append List.cons_append List.append_nil List.length_cons List.length_nil List.set_cons_zero List.set_cons_succ List.map_cons List.map_nil List.replicate if_true if_false ite_true ite_false ite_self Bool.false_eq_true List.all_cons List.all_nil Bool.and_true Bool.true_and Bool.and_self Bool.and_eq_true List.getElem?_cons_zero List.getElem?_cons_succ List.drop_succ_cons List.drop_zero List.take_succ_cons List.take_zero true_and and_true and_self decide_true decide_false Bool.not_true Bool.not_false Prod.mk.injEq Option.some.injEq List.getElem?_drop optInt elems sliceV partsOf Nat.add_zero Nat.zero_add Nat.mul_one beq_self_eq_true litParts Bool.or_false Bool.false_or Bool.or_true Bool.true_or Bool.false_and Bool.and_false List.cons.injEq not_false_eq_true not_true_eq_false Nat.zero_le Nat.le_refl gt_iff_lt ge_iff_le List.drop_nil List.take_nil newBox List.length_append List.length_map bne_self_eq_false eq_self Nat.lt_add_one ne_eq false_implies Int.le_refl

def flat (l : List (Int × Int × Int)) : List AV := l.flatMap fun x => [.int .i64 x.1, .int .i64 x.2.1, .int .i64 x.2.2]
theorem flat_cons (x : Int × Int × Int) (l : List (Int × Int × Int)) : flat (x :: l) = .int .i64 x.1 :: .int .i64 x.2.1 :: .int .i64 x.2.2 :: flat l := rfl
theorem flat_length : ∀ l : List (Int × Int × Int), (flat l).length = l.length * 3
  | [] => rfl
  | x :: l => by rw [flat_cons]; simp [flat_length l]; omega
theorem flat_drop : ∀ (l : List (Int × Int × Int)) (k : Nat), (flat l).drop (k * 3) = flat (l.drop k)
  | l, 0 => by simp
  | [], k + 1 => by simp [flat]
  | x :: l, k + 1 => by
    rw [flat_cons, show (k + 1) * 3 = k * 3 + 3 by omega]
    simp only [List.drop_succ_cons]
    exact flat_drop l k
theorem flat_take {l : List (Int × Int × Int)} {k : Nat} (h : k < l.length) : ((flat l).drop (k * 3)).take 3 = [.int .i64 l[k].1, .int .i64 l[k].2.1, .int .i64 l[k].2.2] := by
  rw [flat_drop, List.drop_eq_getElem_cons h, flat_cons]
  rfl
theorem flat_ok : ∀ l : List (Int × Int × Int), cellsOk 0 (flat l) = true
  | [] => rfl
  | x :: l => by
    rw [flat_cons]
    have := flat_ok l
    simp only [cellsOk, List.all_cons] at this ⊢
    rw [this]
    rfl

/-- An access that lies inside. -/
def inside (half : Int) (a : Int × Int × Int) : Prop := a.2.1 ≤ a.1 ∧ a.1 < a.2.2 ∧ 0 ≤ a.2.1 ∧ a.2.2 ≤ 2 * half ∧ (a.2.1 = 0 ∨ a.2.1 = half) ∧ a.2.2 ≤ a.2.1 + half
theorem regI2 {call : CallT} {ops : List AO} {vs vs' : List AV} {s s' : Store} (h : evOps call ops [] vs s = some (vs', s')) : exS call (.reg ops []) ⟨vs, s⟩ = some (.nor, ⟨vs', s'⟩) := regI h
theorem last_get {α : Type} (r : List α) (o : α) : (r ++ [o])[r.length]? = some o := by simp
theorem last_set {α : Type} (r : List α) (o o' : α) : (r ++ [o]).set r.length o' = r ++ [o'] := by simp

set_option maxHeartbeats 8000000 in
theorem specIn_loop {call : CallT} {s : Store} {w : AV} {half low next : Int} {l : List (Int × Int × Int)} (hh : 16 ≤ half ∧ half ≤ 4096) (hl : l.length ≤ 4000) : ∀ (k : Nat) (i : Int) (r : List Ae.Obj) (h x4 x5 x6 x7 : AV), 0 ≤ i → i ≤ l.length → k = l.length - i.toNat →
    ∃ ex vs' r', loopE call (loopAt c14 0) ⟨[h, .ptr (s.low.length + 1) 0 0, .bool false, .int .i64 i, x4, x5, x6, x7], frm s (.box 26 [w, .int .i64 half, .int .i64 low, .int .i64 next, .imm false l.length (flat l)] :: r)⟩ =
      some (ex, ⟨vs', frm s (.box 26 [w, .int .i64 half, .int .i64 low, .int .i64 next, .imm false l.length (flat l)] :: r')⟩) ∧
      ((ex = .ret ∧ ∃ a b c d e f g, vs' = [a, b, .bool false, c, d, e, f, g]) ∨ (ex = .exit 0 ∧ (∃ a b c d e f g, vs' = [a, b, .bool false, c, d, e, f, g]) ∧ ∀ j, (hj : j < l.length) → i.toNat ≤ j → inside half l[j])) := by
  intro k
  induction k with
  | zero =>
    intro i r h x4 x5 x6 x7 h0 h1 hk
    have hlt : ¬ i < l.length := by omega
    refine ⟨.exit 0, [h, .ptr (s.low.length + 1) 0 0, .bool false, .int .i64 i, x4, x5, .bool false, x7], r, loopE_end ?_ (by simp), .inr ⟨rfl, ⟨_, _, _, _, _, _, _, rfl⟩, fun j hj hij => by omega⟩⟩
    simp only [loopAt, loops, c14, push_cast, reduceCtorEq, Nat.reduceAdd, Nat.reduceSub, Nat.reduceMul, Nat.reduceLeDiff, Nat.reduceLT, Nat.reduceEqDiff, Int.reduceToNat, Int.reduceLT, Int.reduceLE, Int.reduceBEq, Int.reduceEq, Int.reduceSub, Int.reduceAdd, Int.reduceMul, Int.reduceNeg, fillL, repL, hlt]
  | succ k ih =>
    intro i r h x4 x5 x6 x7 h0 h1 hk
    have hlt : i < l.length := by omega
    have hki : i.toNat < l.length := by omega
    obtain ⟨a, b, c, hx⟩ : ∃ a b c, l[i.toNat] = (a, b, c) := ⟨_, _, _, rfl⟩
    have htake := flat_take hki
    rw [hx] at htake
    simp only at htake
    have hlen : 3 ≤ ((flat l).drop (i.toNat * 3)).length := by rw [List.length_drop, flat_length]; omega
    have hw2 : IntKind.i64.wrap (2 * half) = 2 * half := wrap_id (by omega) (by omega)
    have hw3 : IntKind.i64.wrap (i + 1) = i + 1 := wrap_id (by omega) (by omega)
    have ret : ∀ q, exS call (loopAt c14 0) ⟨[h, .ptr (s.low.length + 1) 0 0, .bool false, .int .i64 i, x4, x5, x6, x7], frm s (.box 26 [w, .int .i64 half, .int .i64 low, .int .i64 next, .imm false l.length (flat l)] :: r)⟩ = q →
        q = some (.ret, ⟨[h, .ptr (s.low.length + 1) 0 0, .bool false, .int .i64 i, .ptr (s.low.length + 1) (r.length + 1) 0, x5, .bool true, .bool true], frm s (.box 26 [w, .int .i64 half, .int .i64 low, .int .i64 next, .imm false l.length (flat l)] :: (r ++ [.box 99 [.int .i64 a, .int .i64 b, .int .i64 c]]))⟩) →
        ∃ ex vs' r', loopE call (loopAt c14 0) ⟨[h, .ptr (s.low.length + 1) 0 0, .bool false, .int .i64 i, x4, x5, x6, x7], frm s (.box 26 [w, .int .i64 half, .int .i64 low, .int .i64 next, .imm false l.length (flat l)] :: r)⟩ =
          some (ex, ⟨vs', frm s (.box 26 [w, .int .i64 half, .int .i64 low, .int .i64 next, .imm false l.length (flat l)] :: r')⟩) ∧
          ((ex = .ret ∧ ∃ a b c d e f g, vs' = [a, b, .bool false, c, d, e, f, g]) ∨ (ex = .exit 0 ∧ (∃ a b c d e f g, vs' = [a, b, .bool false, c, d, e, f, g]) ∧ ∀ j, (hj : j < l.length) → i.toNat ≤ j → inside half l[j])) := by
      intro q h1 h2
      exact ⟨_, _, _, loopE_end (h1.trans h2) (by simp), .inl ⟨rfl, _, _, _, _, _, _, _, rfl⟩⟩
    by_cases c1 : a < b
    · refine ret _ rfl ?_
      simp only [loopAt, loops, c14, List.nil_append, List.append_nil, List.getD_cons_zero, List.getD_cons_succ]
      repeat' (first
        | with_reducible exact opsNil
        | with_reducible exact retI
        | with_reducible exact skipI
        | with_reducible exact exitI
        | with_reducible exact if_pos rfl
        | with_reducible exact if_neg (by decide)
        | (with_reducible apply seqI)
        | (with_reducible apply regI2)
        | (with_reducible apply regD)
        | with_reducible exact trNil
        | (with_reducible apply blockI)
        | (with_reducible apply condT; focus (simp only [push_cast, reduceCtorEq, Nat.reduceAdd, Nat.reduceSub, Nat.reduceMul, Nat.reduceLeDiff, Nat.reduceLT, Nat.reduceEqDiff, Int.reduceToNat, Int.reduceLT, Int.reduceLE, Int.reduceBEq, Int.reduceEq, Int.reduceSub, Int.reduceAdd, Int.reduceMul, Int.reduceNeg, fillL, repL, hlt, h0, hlen, htake, hw2, last_get, last_set, c1]; done))
        | (with_reducible apply condF; focus (simp only [push_cast, reduceCtorEq, Nat.reduceAdd, Nat.reduceSub, Nat.reduceMul, Nat.reduceLeDiff, Nat.reduceLT, Nat.reduceEqDiff, Int.reduceToNat, Int.reduceLT, Int.reduceLE, Int.reduceBEq, Int.reduceEq, Int.reduceSub, Int.reduceAdd, Int.reduceMul, Int.reduceNeg, fillL, repL, hlt, h0, hlen, htake, hw2, last_get, last_set, c1]; done))
        | (with_reducible apply opsCons (by simp only [push_cast, reduceCtorEq, Nat.reduceAdd, Nat.reduceSub, Nat.reduceMul, Nat.reduceLeDiff, Nat.reduceLT, Nat.reduceEqDiff, Int.reduceToNat, Int.reduceLT, Int.reduceLE, Int.reduceBEq, Int.reduceEq, Int.reduceSub, Int.reduceAdd, Int.reduceMul, Int.reduceNeg, fillL, repL, frm_get, frm_set, set_set, hlt, h0, hlen, htake, hw2, last_get, last_set, c1]; rfl); dsimp only [List.cons_append, List.nil_append, putV, List.set])
        | (with_reducible apply trCons (by simp only [push_cast, reduceCtorEq, Nat.reduceAdd, Nat.reduceSub, Nat.reduceMul, Nat.reduceLeDiff, Nat.reduceLT, Nat.reduceEqDiff, Int.reduceToNat, Int.reduceLT, Int.reduceLE, Int.reduceBEq, Int.reduceEq, Int.reduceSub, Int.reduceAdd, Int.reduceMul, Int.reduceNeg, fillL, repL, frm_get, frm_set, set_set, hlt, h0, hlen, htake, hw2, last_get, last_set, c1]; rfl); dsimp only [List.cons_append, List.nil_append, putV, List.set])
        | (simp only [List.getLast?_cons_cons, List.getLast?_singleton]; rfl)
        | (refine (?_ : List.all _ _ = true); simp only [chkOne, noCall, same_self, push_cast, reduceCtorEq, Nat.reduceAdd, Nat.reduceSub, Nat.reduceMul, Nat.reduceLeDiff, Nat.reduceLT, Nat.reduceEqDiff, Int.reduceToNat, Int.reduceLT, Int.reduceLE, Int.reduceBEq, Int.reduceEq, Int.reduceSub, Int.reduceAdd, Int.reduceMul, Int.reduceNeg, fillL, repL, frm_get, frm_set, set_set, hlt, h0, hlen, htake, hw2, last_get, last_set, c1]; done)
        | (dsimp only))
    by_cases c2 : c ≤ a
    · refine ret _ rfl ?_
      simp only [loopAt, loops, c14, List.nil_append, List.append_nil, List.getD_cons_zero, List.getD_cons_succ]
      repeat' (first
        | with_reducible exact opsNil
        | with_reducible exact retI
        | with_reducible exact skipI
        | with_reducible exact exitI
        | with_reducible exact if_pos rfl
        | with_reducible exact if_neg (by decide)
        | (with_reducible apply seqI)
        | (with_reducible apply regI2)
        | (with_reducible apply regD)
        | with_reducible exact trNil
        | (with_reducible apply blockI)
        | (with_reducible apply condT; focus (simp only [push_cast, reduceCtorEq, Nat.reduceAdd, Nat.reduceSub, Nat.reduceMul, Nat.reduceLeDiff, Nat.reduceLT, Nat.reduceEqDiff, Int.reduceToNat, Int.reduceLT, Int.reduceLE, Int.reduceBEq, Int.reduceEq, Int.reduceSub, Int.reduceAdd, Int.reduceMul, Int.reduceNeg, fillL, repL, hlt, h0, hlen, htake, hw2, last_get, last_set, c1, c2]; done))
        | (with_reducible apply condF; focus (simp only [push_cast, reduceCtorEq, Nat.reduceAdd, Nat.reduceSub, Nat.reduceMul, Nat.reduceLeDiff, Nat.reduceLT, Nat.reduceEqDiff, Int.reduceToNat, Int.reduceLT, Int.reduceLE, Int.reduceBEq, Int.reduceEq, Int.reduceSub, Int.reduceAdd, Int.reduceMul, Int.reduceNeg, fillL, repL, hlt, h0, hlen, htake, hw2, last_get, last_set, c1, c2]; done))
        | (with_reducible apply opsCons (by simp only [push_cast, reduceCtorEq, Nat.reduceAdd, Nat.reduceSub, Nat.reduceMul, Nat.reduceLeDiff, Nat.reduceLT, Nat.reduceEqDiff, Int.reduceToNat, Int.reduceLT, Int.reduceLE, Int.reduceBEq, Int.reduceEq, Int.reduceSub, Int.reduceAdd, Int.reduceMul, Int.reduceNeg, fillL, repL, frm_get, frm_set, set_set, hlt, h0, hlen, htake, hw2, last_get, last_set, c1, c2]; rfl); dsimp only [List.cons_append, List.nil_append, putV, List.set])
        | (with_reducible apply trCons (by simp only [push_cast, reduceCtorEq, Nat.reduceAdd, Nat.reduceSub, Nat.reduceMul, Nat.reduceLeDiff, Nat.reduceLT, Nat.reduceEqDiff, Int.reduceToNat, Int.reduceLT, Int.reduceLE, Int.reduceBEq, Int.reduceEq, Int.reduceSub, Int.reduceAdd, Int.reduceMul, Int.reduceNeg, fillL, repL, frm_get, frm_set, set_set, hlt, h0, hlen, htake, hw2, last_get, last_set, c1, c2]; rfl); dsimp only [List.cons_append, List.nil_append, putV, List.set])
        | (simp only [List.getLast?_cons_cons, List.getLast?_singleton]; rfl)
        | (refine (?_ : List.all _ _ = true); simp only [chkOne, noCall, same_self, push_cast, reduceCtorEq, Nat.reduceAdd, Nat.reduceSub, Nat.reduceMul, Nat.reduceLeDiff, Nat.reduceLT, Nat.reduceEqDiff, Int.reduceToNat, Int.reduceLT, Int.reduceLE, Int.reduceBEq, Int.reduceEq, Int.reduceSub, Int.reduceAdd, Int.reduceMul, Int.reduceNeg, fillL, repL, frm_get, frm_set, set_set, hlt, h0, hlen, htake, hw2, last_get, last_set, c1, c2]; done)
        | (dsimp only))
    by_cases c3 : b < 0
    · refine ret _ rfl ?_
      simp only [loopAt, loops, c14, List.nil_append, List.append_nil, List.getD_cons_zero, List.getD_cons_succ]
      repeat' (first
        | with_reducible exact opsNil
        | with_reducible exact retI
        | with_reducible exact skipI
        | with_reducible exact exitI
        | with_reducible exact if_pos rfl
        | with_reducible exact if_neg (by decide)
        | (with_reducible apply seqI)
        | (with_reducible apply regI2)
        | (with_reducible apply regD)
        | with_reducible exact trNil
        | (with_reducible apply blockI)
        | (with_reducible apply condT; focus (simp only [push_cast, reduceCtorEq, Nat.reduceAdd, Nat.reduceSub, Nat.reduceMul, Nat.reduceLeDiff, Nat.reduceLT, Nat.reduceEqDiff, Int.reduceToNat, Int.reduceLT, Int.reduceLE, Int.reduceBEq, Int.reduceEq, Int.reduceSub, Int.reduceAdd, Int.reduceMul, Int.reduceNeg, fillL, repL, hlt, h0, hlen, htake, hw2, last_get, last_set, c1, c2, c3]; done))
        | (with_reducible apply condF; focus (simp only [push_cast, reduceCtorEq, Nat.reduceAdd, Nat.reduceSub, Nat.reduceMul, Nat.reduceLeDiff, Nat.reduceLT, Nat.reduceEqDiff, Int.reduceToNat, Int.reduceLT, Int.reduceLE, Int.reduceBEq, Int.reduceEq, Int.reduceSub, Int.reduceAdd, Int.reduceMul, Int.reduceNeg, fillL, repL, hlt, h0, hlen, htake, hw2, last_get, last_set, c1, c2, c3]; done))
        | (with_reducible apply opsCons (by simp only [push_cast, reduceCtorEq, Nat.reduceAdd, Nat.reduceSub, Nat.reduceMul, Nat.reduceLeDiff, Nat.reduceLT, Nat.reduceEqDiff, Int.reduceToNat, Int.reduceLT, Int.reduceLE, Int.reduceBEq, Int.reduceEq, Int.reduceSub, Int.reduceAdd, Int.reduceMul, Int.reduceNeg, fillL, repL, frm_get, frm_set, set_set, hlt, h0, hlen, htake, hw2, last_get, last_set, c1, c2, c3]; rfl); dsimp only [List.cons_append, List.nil_append, putV, List.set])
        | (with_reducible apply trCons (by simp only [push_cast, reduceCtorEq, Nat.reduceAdd, Nat.reduceSub, Nat.reduceMul, Nat.reduceLeDiff, Nat.reduceLT, Nat.reduceEqDiff, Int.reduceToNat, Int.reduceLT, Int.reduceLE, Int.reduceBEq, Int.reduceEq, Int.reduceSub, Int.reduceAdd, Int.reduceMul, Int.reduceNeg, fillL, repL, frm_get, frm_set, set_set, hlt, h0, hlen, htake, hw2, last_get, last_set, c1, c2, c3]; rfl); dsimp only [List.cons_append, List.nil_append, putV, List.set])
        | (simp only [List.getLast?_cons_cons, List.getLast?_singleton]; rfl)
        | (refine (?_ : List.all _ _ = true); simp only [chkOne, noCall, same_self, push_cast, reduceCtorEq, Nat.reduceAdd, Nat.reduceSub, Nat.reduceMul, Nat.reduceLeDiff, Nat.reduceLT, Nat.reduceEqDiff, Int.reduceToNat, Int.reduceLT, Int.reduceLE, Int.reduceBEq, Int.reduceEq, Int.reduceSub, Int.reduceAdd, Int.reduceMul, Int.reduceNeg, fillL, repL, frm_get, frm_set, set_set, hlt, h0, hlen, htake, hw2, last_get, last_set, c1, c2, c3]; done)
        | (dsimp only))
    by_cases c4 : 2 * half < c
    · refine ret _ rfl ?_
      simp only [loopAt, loops, c14, List.nil_append, List.append_nil, List.getD_cons_zero, List.getD_cons_succ]
      repeat' (first
        | with_reducible exact opsNil
        | with_reducible exact retI
        | with_reducible exact skipI
        | with_reducible exact exitI
        | with_reducible exact if_pos rfl
        | with_reducible exact if_neg (by decide)
        | (with_reducible apply seqI)
        | (with_reducible apply regI2)
        | (with_reducible apply regD)
        | with_reducible exact trNil
        | (with_reducible apply blockI)
        | (with_reducible apply condT; focus (simp only [push_cast, reduceCtorEq, Nat.reduceAdd, Nat.reduceSub, Nat.reduceMul, Nat.reduceLeDiff, Nat.reduceLT, Nat.reduceEqDiff, Int.reduceToNat, Int.reduceLT, Int.reduceLE, Int.reduceBEq, Int.reduceEq, Int.reduceSub, Int.reduceAdd, Int.reduceMul, Int.reduceNeg, fillL, repL, hlt, h0, hlen, htake, hw2, last_get, last_set, c1, c2, c3, c4]; done))
        | (with_reducible apply condF; focus (simp only [push_cast, reduceCtorEq, Nat.reduceAdd, Nat.reduceSub, Nat.reduceMul, Nat.reduceLeDiff, Nat.reduceLT, Nat.reduceEqDiff, Int.reduceToNat, Int.reduceLT, Int.reduceLE, Int.reduceBEq, Int.reduceEq, Int.reduceSub, Int.reduceAdd, Int.reduceMul, Int.reduceNeg, fillL, repL, hlt, h0, hlen, htake, hw2, last_get, last_set, c1, c2, c3, c4]; done))
        | (with_reducible apply opsCons (by simp only [push_cast, reduceCtorEq, Nat.reduceAdd, Nat.reduceSub, Nat.reduceMul, Nat.reduceLeDiff, Nat.reduceLT, Nat.reduceEqDiff, Int.reduceToNat, Int.reduceLT, Int.reduceLE, Int.reduceBEq, Int.reduceEq, Int.reduceSub, Int.reduceAdd, Int.reduceMul, Int.reduceNeg, fillL, repL, frm_get, frm_set, set_set, hlt, h0, hlen, htake, hw2, last_get, last_set, c1, c2, c3, c4]; rfl); dsimp only [List.cons_append, List.nil_append, putV, List.set])
        | (with_reducible apply trCons (by simp only [push_cast, reduceCtorEq, Nat.reduceAdd, Nat.reduceSub, Nat.reduceMul, Nat.reduceLeDiff, Nat.reduceLT, Nat.reduceEqDiff, Int.reduceToNat, Int.reduceLT, Int.reduceLE, Int.reduceBEq, Int.reduceEq, Int.reduceSub, Int.reduceAdd, Int.reduceMul, Int.reduceNeg, fillL, repL, frm_get, frm_set, set_set, hlt, h0, hlen, htake, hw2, last_get, last_set, c1, c2, c3, c4]; rfl); dsimp only [List.cons_append, List.nil_append, putV, List.set])
        | (simp only [List.getLast?_cons_cons, List.getLast?_singleton]; rfl)
        | (refine (?_ : List.all _ _ = true); simp only [chkOne, noCall, same_self, push_cast, reduceCtorEq, Nat.reduceAdd, Nat.reduceSub, Nat.reduceMul, Nat.reduceLeDiff, Nat.reduceLT, Nat.reduceEqDiff, Int.reduceToNat, Int.reduceLT, Int.reduceLE, Int.reduceBEq, Int.reduceEq, Int.reduceSub, Int.reduceAdd, Int.reduceMul, Int.reduceNeg, fillL, repL, frm_get, frm_set, set_set, hlt, h0, hlen, htake, hw2, last_get, last_set, c1, c2, c3, c4]; done)
        | (dsimp only))
    by_cases c5 : (b != 0) = true ∧ (b != half) = true
    · obtain ⟨e5, e6⟩ := c5
      refine ret _ rfl ?_
      simp only [loopAt, loops, c14, List.nil_append, List.append_nil, List.getD_cons_zero, List.getD_cons_succ]
      repeat' (first
        | with_reducible exact opsNil
        | with_reducible exact retI
        | with_reducible exact skipI
        | with_reducible exact exitI
        | with_reducible exact if_pos rfl
        | with_reducible exact if_neg (by decide)
        | (with_reducible apply seqI)
        | (with_reducible apply regI2)
        | (with_reducible apply regD)
        | with_reducible exact trNil
        | (with_reducible apply blockI)
        | (with_reducible apply condT; focus (simp only [push_cast, reduceCtorEq, Nat.reduceAdd, Nat.reduceSub, Nat.reduceMul, Nat.reduceLeDiff, Nat.reduceLT, Nat.reduceEqDiff, Int.reduceToNat, Int.reduceLT, Int.reduceLE, Int.reduceBEq, Int.reduceEq, Int.reduceSub, Int.reduceAdd, Int.reduceMul, Int.reduceNeg, fillL, repL, hlt, h0, hlen, htake, hw2, last_get, last_set, c1, c2, c3, c4, e5, e6]; done))
        | (with_reducible apply condF; focus (simp only [push_cast, reduceCtorEq, Nat.reduceAdd, Nat.reduceSub, Nat.reduceMul, Nat.reduceLeDiff, Nat.reduceLT, Nat.reduceEqDiff, Int.reduceToNat, Int.reduceLT, Int.reduceLE, Int.reduceBEq, Int.reduceEq, Int.reduceSub, Int.reduceAdd, Int.reduceMul, Int.reduceNeg, fillL, repL, hlt, h0, hlen, htake, hw2, last_get, last_set, c1, c2, c3, c4, e5, e6]; done))
        | (with_reducible apply opsCons (by simp only [push_cast, reduceCtorEq, Nat.reduceAdd, Nat.reduceSub, Nat.reduceMul, Nat.reduceLeDiff, Nat.reduceLT, Nat.reduceEqDiff, Int.reduceToNat, Int.reduceLT, Int.reduceLE, Int.reduceBEq, Int.reduceEq, Int.reduceSub, Int.reduceAdd, Int.reduceMul, Int.reduceNeg, fillL, repL, frm_get, frm_set, set_set, hlt, h0, hlen, htake, hw2, last_get, last_set, c1, c2, c3, c4, e5, e6]; rfl); dsimp only [List.cons_append, List.nil_append, putV, List.set])
        | (with_reducible apply trCons (by simp only [push_cast, reduceCtorEq, Nat.reduceAdd, Nat.reduceSub, Nat.reduceMul, Nat.reduceLeDiff, Nat.reduceLT, Nat.reduceEqDiff, Int.reduceToNat, Int.reduceLT, Int.reduceLE, Int.reduceBEq, Int.reduceEq, Int.reduceSub, Int.reduceAdd, Int.reduceMul, Int.reduceNeg, fillL, repL, frm_get, frm_set, set_set, hlt, h0, hlen, htake, hw2, last_get, last_set, c1, c2, c3, c4, e5, e6]; rfl); dsimp only [List.cons_append, List.nil_append, putV, List.set])
        | (simp only [List.getLast?_cons_cons, List.getLast?_singleton]; rfl)
        | (refine (?_ : List.all _ _ = true); simp only [chkOne, noCall, same_self, push_cast, reduceCtorEq, Nat.reduceAdd, Nat.reduceSub, Nat.reduceMul, Nat.reduceLeDiff, Nat.reduceLT, Nat.reduceEqDiff, Int.reduceToNat, Int.reduceLT, Int.reduceLE, Int.reduceBEq, Int.reduceEq, Int.reduceSub, Int.reduceAdd, Int.reduceMul, Int.reduceNeg, fillL, repL, frm_get, frm_set, set_set, hlt, h0, hlen, htake, hw2, last_get, last_set, c1, c2, c3, c4, e5, e6]; done)
        | (dsimp only))
    have c5' : b = 0 ∨ b = half := by
      simp only [bne_iff_ne, ne_eq] at c5
      omega
    have hw4 : IntKind.i64.wrap (b + half) = b + half := wrap_id (by omega) (by omega)
    by_cases c6 : b + half < c
    · by_cases e5 : b = 0
      · have e5' : (b != 0) = false := by simpa using e5
        refine ret _ rfl ?_
        simp only [loopAt, loops, c14, List.nil_append, List.append_nil, List.getD_cons_zero, List.getD_cons_succ]
        repeat' (first
          | with_reducible exact opsNil
          | with_reducible exact retI
          | with_reducible exact skipI
          | with_reducible exact exitI
          | with_reducible exact if_pos rfl
          | with_reducible exact if_neg (by decide)
          | (with_reducible apply seqI)
          | (with_reducible apply regI2)
          | (with_reducible apply regD)
          | with_reducible exact trNil
          | (with_reducible apply blockI)
          | (with_reducible apply condT; focus (simp only [push_cast, reduceCtorEq, Nat.reduceAdd, Nat.reduceSub, Nat.reduceMul, Nat.reduceLeDiff, Nat.reduceLT, Nat.reduceEqDiff, Int.reduceToNat, Int.reduceLT, Int.reduceLE, Int.reduceBEq, Int.reduceEq, Int.reduceSub, Int.reduceAdd, Int.reduceMul, Int.reduceNeg, fillL, repL, hlt, h0, hlen, htake, hw2, last_get, last_set, c1, c2, c3, c4, e5', hw4, c6]; done))
          | (with_reducible apply condF; focus (simp only [push_cast, reduceCtorEq, Nat.reduceAdd, Nat.reduceSub, Nat.reduceMul, Nat.reduceLeDiff, Nat.reduceLT, Nat.reduceEqDiff, Int.reduceToNat, Int.reduceLT, Int.reduceLE, Int.reduceBEq, Int.reduceEq, Int.reduceSub, Int.reduceAdd, Int.reduceMul, Int.reduceNeg, fillL, repL, hlt, h0, hlen, htake, hw2, last_get, last_set, c1, c2, c3, c4, e5', hw4, c6]; done))
          | (with_reducible apply opsCons (by simp only [push_cast, reduceCtorEq, Nat.reduceAdd, Nat.reduceSub, Nat.reduceMul, Nat.reduceLeDiff, Nat.reduceLT, Nat.reduceEqDiff, Int.reduceToNat, Int.reduceLT, Int.reduceLE, Int.reduceBEq, Int.reduceEq, Int.reduceSub, Int.reduceAdd, Int.reduceMul, Int.reduceNeg, fillL, repL, frm_get, frm_set, set_set, hlt, h0, hlen, htake, hw2, last_get, last_set, c1, c2, c3, c4, e5', hw4, c6]; rfl); dsimp only [List.cons_append, List.nil_append, putV, List.set])
          | (with_reducible apply trCons (by simp only [push_cast, reduceCtorEq, Nat.reduceAdd, Nat.reduceSub, Nat.reduceMul, Nat.reduceLeDiff, Nat.reduceLT, Nat.reduceEqDiff, Int.reduceToNat, Int.reduceLT, Int.reduceLE, Int.reduceBEq, Int.reduceEq, Int.reduceSub, Int.reduceAdd, Int.reduceMul, Int.reduceNeg, fillL, repL, frm_get, frm_set, set_set, hlt, h0, hlen, htake, hw2, last_get, last_set, c1, c2, c3, c4, e5', hw4, c6]; rfl); dsimp only [List.cons_append, List.nil_append, putV, List.set])
          | (simp only [List.getLast?_cons_cons, List.getLast?_singleton]; rfl)
          | (refine (?_ : List.all _ _ = true); simp only [chkOne, noCall, same_self, push_cast, reduceCtorEq, Nat.reduceAdd, Nat.reduceSub, Nat.reduceMul, Nat.reduceLeDiff, Nat.reduceLT, Nat.reduceEqDiff, Int.reduceToNat, Int.reduceLT, Int.reduceLE, Int.reduceBEq, Int.reduceEq, Int.reduceSub, Int.reduceAdd, Int.reduceMul, Int.reduceNeg, fillL, repL, frm_get, frm_set, set_set, hlt, h0, hlen, htake, hw2, last_get, last_set, c1, c2, c3, c4, e5', hw4, c6]; done)
          | (dsimp only))
      · have e5' : (b != 0) = true := by simpa using e5
        have e6' : (b != half) = false := by simp; omega
        refine ret _ rfl ?_
        simp only [loopAt, loops, c14, List.nil_append, List.append_nil, List.getD_cons_zero, List.getD_cons_succ]
        repeat' (first
          | with_reducible exact opsNil
          | with_reducible exact retI
          | with_reducible exact skipI
          | with_reducible exact exitI
          | with_reducible exact if_pos rfl
          | with_reducible exact if_neg (by decide)
          | (with_reducible apply seqI)
          | (with_reducible apply regI2)
          | (with_reducible apply regD)
          | with_reducible exact trNil
          | (with_reducible apply blockI)
          | (with_reducible apply condT; focus (simp only [push_cast, reduceCtorEq, Nat.reduceAdd, Nat.reduceSub, Nat.reduceMul, Nat.reduceLeDiff, Nat.reduceLT, Nat.reduceEqDiff, Int.reduceToNat, Int.reduceLT, Int.reduceLE, Int.reduceBEq, Int.reduceEq, Int.reduceSub, Int.reduceAdd, Int.reduceMul, Int.reduceNeg, fillL, repL, hlt, h0, hlen, htake, hw2, last_get, last_set, c1, c2, c3, c4, e5', e6', hw4, c6]; done))
          | (with_reducible apply condF; focus (simp only [push_cast, reduceCtorEq, Nat.reduceAdd, Nat.reduceSub, Nat.reduceMul, Nat.reduceLeDiff, Nat.reduceLT, Nat.reduceEqDiff, Int.reduceToNat, Int.reduceLT, Int.reduceLE, Int.reduceBEq, Int.reduceEq, Int.reduceSub, Int.reduceAdd, Int.reduceMul, Int.reduceNeg, fillL, repL, hlt, h0, hlen, htake, hw2, last_get, last_set, c1, c2, c3, c4, e5', e6', hw4, c6]; done))
          | (with_reducible apply opsCons (by simp only [push_cast, reduceCtorEq, Nat.reduceAdd, Nat.reduceSub, Nat.reduceMul, Nat.reduceLeDiff, Nat.reduceLT, Nat.reduceEqDiff, Int.reduceToNat, Int.reduceLT, Int.reduceLE, Int.reduceBEq, Int.reduceEq, Int.reduceSub, Int.reduceAdd, Int.reduceMul, Int.reduceNeg, fillL, repL, frm_get, frm_set, set_set, hlt, h0, hlen, htake, hw2, last_get, last_set, c1, c2, c3, c4, e5', e6', hw4, c6]; rfl); dsimp only [List.cons_append, List.nil_append, putV, List.set])
          | (with_reducible apply trCons (by simp only [push_cast, reduceCtorEq, Nat.reduceAdd, Nat.reduceSub, Nat.reduceMul, Nat.reduceLeDiff, Nat.reduceLT, Nat.reduceEqDiff, Int.reduceToNat, Int.reduceLT, Int.reduceLE, Int.reduceBEq, Int.reduceEq, Int.reduceSub, Int.reduceAdd, Int.reduceMul, Int.reduceNeg, fillL, repL, frm_get, frm_set, set_set, hlt, h0, hlen, htake, hw2, last_get, last_set, c1, c2, c3, c4, e5', e6', hw4, c6]; rfl); dsimp only [List.cons_append, List.nil_append, putV, List.set])
          | (simp only [List.getLast?_cons_cons, List.getLast?_singleton]; rfl)
          | (refine (?_ : List.all _ _ = true); simp only [chkOne, noCall, same_self, push_cast, reduceCtorEq, Nat.reduceAdd, Nat.reduceSub, Nat.reduceMul, Nat.reduceLeDiff, Nat.reduceLT, Nat.reduceEqDiff, Int.reduceToNat, Int.reduceLT, Int.reduceLE, Int.reduceBEq, Int.reduceEq, Int.reduceSub, Int.reduceAdd, Int.reduceMul, Int.reduceNeg, fillL, repL, frm_get, frm_set, set_set, hlt, h0, hlen, htake, hw2, last_get, last_set, c1, c2, c3, c4, e5', e6', hw4, c6]; done)
          | (dsimp only))
    · have ok : inside half (a, b, c) := ⟨by simp only; omega, by simp only; omega, by simp only; omega, by simp only; omega, c5', by simp only; omega⟩
      obtain ⟨ex, vs', r', e, hres⟩ := ih (i + 1) (r ++ [.box 99 [.int .i64 a, .int .i64 b, .int .i64 c]]) h (.ptr (s.low.length + 1) (r.length + 1) 0) x5 (.bool true) (.bool false) (by omega) (by omega) (by omega)
      refine ⟨ex, vs', r', ?_, ?_⟩
      · rw [← e]
        refine loopE_step ?_
        by_cases e5 : b = 0
        · have e5' : (b != 0) = false := by simpa using e5
          simp only [loopAt, loops, c14, List.nil_append, List.append_nil, List.getD_cons_zero, List.getD_cons_succ]
          repeat' (first
            | with_reducible exact opsNil
            | with_reducible exact retI
            | with_reducible exact skipI
            | with_reducible exact exitI
            | with_reducible exact if_pos rfl
            | with_reducible exact if_neg (by decide)
            | (with_reducible apply seqI)
            | (with_reducible apply regI2)
            | (with_reducible apply regD)
            | with_reducible exact trNil
            | (with_reducible apply blockI)
            | (with_reducible apply condT; focus (simp only [push_cast, reduceCtorEq, Nat.reduceAdd, Nat.reduceSub, Nat.reduceMul, Nat.reduceLeDiff, Nat.reduceLT, Nat.reduceEqDiff, Int.reduceToNat, Int.reduceLT, Int.reduceLE, Int.reduceBEq, Int.reduceEq, Int.reduceSub, Int.reduceAdd, Int.reduceMul, Int.reduceNeg, fillL, repL, hlt, h0, hlen, htake, hw2, last_get, last_set, c1, c2, c3, c4, e5', hw3, hw4, c6]; done))
            | (with_reducible apply condF; focus (simp only [push_cast, reduceCtorEq, Nat.reduceAdd, Nat.reduceSub, Nat.reduceMul, Nat.reduceLeDiff, Nat.reduceLT, Nat.reduceEqDiff, Int.reduceToNat, Int.reduceLT, Int.reduceLE, Int.reduceBEq, Int.reduceEq, Int.reduceSub, Int.reduceAdd, Int.reduceMul, Int.reduceNeg, fillL, repL, hlt, h0, hlen, htake, hw2, last_get, last_set, c1, c2, c3, c4, e5', hw3, hw4, c6]; done))
            | (with_reducible apply opsCons (by simp only [push_cast, reduceCtorEq, Nat.reduceAdd, Nat.reduceSub, Nat.reduceMul, Nat.reduceLeDiff, Nat.reduceLT, Nat.reduceEqDiff, Int.reduceToNat, Int.reduceLT, Int.reduceLE, Int.reduceBEq, Int.reduceEq, Int.reduceSub, Int.reduceAdd, Int.reduceMul, Int.reduceNeg, fillL, repL, frm_get, frm_set, set_set, hlt, h0, hlen, htake, hw2, last_get, last_set, c1, c2, c3, c4, e5', hw3, hw4, c6]; rfl); dsimp only [List.cons_append, List.nil_append, putV, List.set])
            | (with_reducible apply trCons (by simp only [push_cast, reduceCtorEq, Nat.reduceAdd, Nat.reduceSub, Nat.reduceMul, Nat.reduceLeDiff, Nat.reduceLT, Nat.reduceEqDiff, Int.reduceToNat, Int.reduceLT, Int.reduceLE, Int.reduceBEq, Int.reduceEq, Int.reduceSub, Int.reduceAdd, Int.reduceMul, Int.reduceNeg, fillL, repL, frm_get, frm_set, set_set, hlt, h0, hlen, htake, hw2, last_get, last_set, c1, c2, c3, c4, e5', hw3, hw4, c6]; rfl); dsimp only [List.cons_append, List.nil_append, putV, List.set])
            | (simp only [List.getLast?_cons_cons, List.getLast?_singleton]; rfl)
            | (refine (?_ : List.all _ _ = true); simp only [chkOne, noCall, same_self, push_cast, reduceCtorEq, Nat.reduceAdd, Nat.reduceSub, Nat.reduceMul, Nat.reduceLeDiff, Nat.reduceLT, Nat.reduceEqDiff, Int.reduceToNat, Int.reduceLT, Int.reduceLE, Int.reduceBEq, Int.reduceEq, Int.reduceSub, Int.reduceAdd, Int.reduceMul, Int.reduceNeg, fillL, repL, frm_get, frm_set, set_set, hlt, h0, hlen, htake, hw2, last_get, last_set, c1, c2, c3, c4, e5', hw3, hw4, c6]; done)
            | (dsimp only))
        · have e5' : (b != 0) = true := by simpa using e5
          have e6' : (b != half) = false := by simp; omega
          simp only [loopAt, loops, c14, List.nil_append, List.append_nil, List.getD_cons_zero, List.getD_cons_succ]
          repeat' (first
            | with_reducible exact opsNil
            | with_reducible exact retI
            | with_reducible exact skipI
            | with_reducible exact exitI
            | with_reducible exact if_pos rfl
            | with_reducible exact if_neg (by decide)
            | (with_reducible apply seqI)
            | (with_reducible apply regI2)
            | (with_reducible apply regD)
            | with_reducible exact trNil
            | (with_reducible apply blockI)
            | (with_reducible apply condT; focus (simp only [push_cast, reduceCtorEq, Nat.reduceAdd, Nat.reduceSub, Nat.reduceMul, Nat.reduceLeDiff, Nat.reduceLT, Nat.reduceEqDiff, Int.reduceToNat, Int.reduceLT, Int.reduceLE, Int.reduceBEq, Int.reduceEq, Int.reduceSub, Int.reduceAdd, Int.reduceMul, Int.reduceNeg, fillL, repL, hlt, h0, hlen, htake, hw2, last_get, last_set, c1, c2, c3, c4, e5', e6', hw3, hw4, c6]; done))
            | (with_reducible apply condF; focus (simp only [push_cast, reduceCtorEq, Nat.reduceAdd, Nat.reduceSub, Nat.reduceMul, Nat.reduceLeDiff, Nat.reduceLT, Nat.reduceEqDiff, Int.reduceToNat, Int.reduceLT, Int.reduceLE, Int.reduceBEq, Int.reduceEq, Int.reduceSub, Int.reduceAdd, Int.reduceMul, Int.reduceNeg, fillL, repL, hlt, h0, hlen, htake, hw2, last_get, last_set, c1, c2, c3, c4, e5', e6', hw3, hw4, c6]; done))
            | (with_reducible apply opsCons (by simp only [push_cast, reduceCtorEq, Nat.reduceAdd, Nat.reduceSub, Nat.reduceMul, Nat.reduceLeDiff, Nat.reduceLT, Nat.reduceEqDiff, Int.reduceToNat, Int.reduceLT, Int.reduceLE, Int.reduceBEq, Int.reduceEq, Int.reduceSub, Int.reduceAdd, Int.reduceMul, Int.reduceNeg, fillL, repL, frm_get, frm_set, set_set, hlt, h0, hlen, htake, hw2, last_get, last_set, c1, c2, c3, c4, e5', e6', hw3, hw4, c6]; rfl); dsimp only [List.cons_append, List.nil_append, putV, List.set])
            | (with_reducible apply trCons (by simp only [push_cast, reduceCtorEq, Nat.reduceAdd, Nat.reduceSub, Nat.reduceMul, Nat.reduceLeDiff, Nat.reduceLT, Nat.reduceEqDiff, Int.reduceToNat, Int.reduceLT, Int.reduceLE, Int.reduceBEq, Int.reduceEq, Int.reduceSub, Int.reduceAdd, Int.reduceMul, Int.reduceNeg, fillL, repL, frm_get, frm_set, set_set, hlt, h0, hlen, htake, hw2, last_get, last_set, c1, c2, c3, c4, e5', e6', hw3, hw4, c6]; rfl); dsimp only [List.cons_append, List.nil_append, putV, List.set])
            | (simp only [List.getLast?_cons_cons, List.getLast?_singleton]; rfl)
            | (refine (?_ : List.all _ _ = true); simp only [chkOne, noCall, same_self, push_cast, reduceCtorEq, Nat.reduceAdd, Nat.reduceSub, Nat.reduceMul, Nat.reduceLeDiff, Nat.reduceLT, Nat.reduceEqDiff, Int.reduceToNat, Int.reduceLT, Int.reduceLE, Int.reduceBEq, Int.reduceEq, Int.reduceSub, Int.reduceAdd, Int.reduceMul, Int.reduceNeg, fillL, repL, frm_get, frm_set, set_set, hlt, h0, hlen, htake, hw2, last_get, last_set, c1, c2, c3, c4, e5', e6', hw3, hw4, c6]; done)
            | (dsimp only))
      · rcases hres with h2 | ⟨h2, h3, h4⟩
        · exact .inl h2
        · refine .inr ⟨h2, h3, fun j hj hij => ?_⟩
          by_cases hji : j = i.toNat
          · subst hji
            rw [hx]
            exact ok
          · exact h4 j hj (by omega)
end Go.Proofs.Ythogcanomihelaa.Ga
