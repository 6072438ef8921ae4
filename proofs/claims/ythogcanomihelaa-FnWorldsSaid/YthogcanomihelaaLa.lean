/- The drawing of numbers from a slice of bytes: each draw gives a number within its bound and leaves a cursor. -/
import Derived.Test.YthogcanomihelaaGw
import Derived.Test.YthogcanomihelaaAe19
import Derived.Laws.BitsLemmas
set_option linter.unusedSimpArgs false
set_option linter.unusedVariables false
namespace Go.Proofs.Ythogcanomihelaa.Gw
open Go Go.Proofs Go.Proofs.Ythogcanomihelaa.Ae

theorem obind_congr {α β : Type} {x y : Option α} {f : α → Option β} (h : x = y) : x.bind f = y.bind f := by rw [h]
attribute [local congr] obind_congr
attribute [local push_cast] exF argsV frzs frz frzL frz1 exS_reg exS_seq exS_cond exS_alt exS_block exS_loop exS_exit exS_ret exS_skip evReg evOps evOne evAct evOp rd putV st0 evEnd resV resL resOne oneOr frzR loadV storeV binV binI unV push_frm pop_frm frm_len frm_top frm_get_top frm_set_top frm_new AV.cells AV.lowB AV.lowL AV.isCell cellsOk set_len Option.bind_some Option.map_some Option.map_none List.getD_cons_zero List.getD_cons_succ List.nil_append List.cons_append List.append_nil List.length_cons List.length_nil List.set_cons_zero List.set_cons_succ List.map_cons List.map_nil List.replicate if_true if_false ite_true ite_false ite_self Bool.false_eq_true List.all_cons List.all_nil Bool.and_true Bool.true_and Bool.and_self Bool.and_eq_true List.getElem?_cons_zero List.getElem?_cons_succ List.drop_succ_cons List.drop_zero List.take_succ_cons List.take_zero true_and and_true and_self decide_true decide_false Bool.not_true Bool.not_false Prod.mk.injEq Option.some.injEq List.getElem?_drop optInt elems sliceV partsOf Nat.add_zero Nat.zero_add Nat.mul_one beq_self_eq_true litParts Bool.or_false Bool.false_or Bool.or_true Bool.true_or Bool.false_and Bool.and_false List.cons.injEq not_false_eq_true not_true_eq_false Nat.zero_le Nat.le_refl gt_iff_lt ge_iff_le List.drop_nil List.take_nil newBox List.length_append List.length_map bne_self_eq_false eq_self Nat.lt_add_one ne_eq false_implies Int.le_refl

theorem wrap_id {x : Int} (h0 : -9223372036854775808 ≤ x) (h1 : x < 9223372036854775808) : IntKind.i64.wrap x = x := by
  rw [IntKind.wrap_i64]
  omega
theorem and_bound (x : Int) {m : Int} (h0 : 0 ≤ m) (hm : m < 2147483648) : 0 ≤ bitsI .and .i64 x m ∧ bitsI .and .i64 x m ≤ m := by
  have h1 : (((BitVec.ofInt 64 x) &&& (BitVec.ofInt 64 m)).toNat : Int) ≤ m := by
    rw [BitVec.toNat_and]
    have h2 : (BitVec.ofInt 64 m).toNat = m.toNat := by
      rw [BitVec.toNat_ofInt]
      omega
    have := @Nat.and_le_right (BitVec.ofInt 64 x).toNat (BitVec.ofInt 64 m).toNat
    omega
  have e := wrap_id (x := (((BitVec.ofInt 64 x) &&& (BitVec.ofInt 64 m)).toNat : Int)) (by omega) (by omega)
  have h2 : bitsI .and .i64 x m = (((BitVec.ofInt 64 x) &&& (BitVec.ofInt 64 m)).toNat : Int) := e
  rw [h2]
  omega

def cur (n : Nat) (f : Bool) (cs : List AV) (k h : Int) : Ae.Obj := .box 144 [.imm f n cs, .int .i64 k, .int .i64 h]
/-- A cursor. -/
def CurO (o : Ae.Obj) : Prop := ∃ n f cs k h, o = cur n f cs k h ∧ 0 ≤ k ∧ cs.length = n ∧ n < 9223372036854775808 ∧ ∀ (j : Nat) x, cs[j]? = some x → ∃ b : Int, x = .int .u8 b ∧ 0 ≤ b ∧ b < 256
/-- A function that draws: from a cursor it gives what R says and leaves a cursor. -/
def Draws (f : Nat) (args : List AV) (R : AV → Prop) : Prop := ∀ (s : Store) (d i : Nat) (o : Ae.Obj), s.get d i = some o → CurO o → ∃ v o', callF (tab tbl) prim f (.ptr d i 0 :: args) s = some (v, s.set d i o') ∧ CurO o' ∧ R v

def stepH (h : Int) : Int := IntKind.i64.wrap (IntKind.i64.wrap (h * 6364136223846793005) + 1442695040888963407)
def byteOf (h : Int) : Int := bitsI .and .i64 (bitsI .xor .i64 ((stepH h).fdiv (2 ^ min 33 IntKind.i64.bits)) ((stepH h).fdiv (2 ^ min 45 IntKind.i64.bits))) 255
theorem l1Byte_ok : Draws 99 [] fun v => ∃ x, v = .int .i64 x ∧ 0 ≤ x ∧ x < 256 := by
  intro s d i o hg hc
  have hd := get_le hg
  obtain ⟨n, f, cs, k, h, rfl, hk, hn, hn2, hb⟩ := hc
  by_cases hlt : k < n
  · obtain ⟨b, hb1, hb2, hb3⟩ := hb k.toNat cs[k.toNat] (List.getElem?_eq_getElem (by omega))
    have hx : cs[k.toNat]? = some (.int .u8 b) := by rw [List.getElem?_eq_getElem (by omega), hb1]
    refine ⟨.int .i64 (bitsI .and .i64 (IntKind.i64.wrap (byteOf h + IntKind.i64.wrap b)) 255), cur n f cs (IntKind.i64.wrap (k + 1)) (stepH h), callF_fc (fc := c99) rfl ?_, ⟨n, f, cs, _, _, rfl, ?_, hn, hn2, hb⟩, _, rfl, ?_⟩
    · unfold cur at hg
      simp only [c99, push_cast, reduceCtorEq, Nat.reduceAdd, Nat.reduceSub, Nat.reduceMul, Nat.reduceLeDiff, Nat.reduceLT, Nat.reduceEqDiff, Int.reduceToNat, Int.reduceLT, Int.reduceLE, Int.reduceBEq, Int.reduceEq, Int.reduceSub, Int.reduceAdd, Int.reduceMul, Int.reduceNeg, fillL, repL, frm_get, frm_set, hd, hg, set_get _ hg, set_set, hlt, hk, hx]
      exact ⟨rfl, rfl⟩
    · rw [wrap_id (by omega) (by omega)]; omega
    · have := and_bound (IntKind.i64.wrap (byteOf h + IntKind.i64.wrap b)) (m := 255) (by omega) (by omega)
      omega
  · refine ⟨.int .i64 (byteOf h), cur n f cs k (stepH h), callF_fc (fc := c99) rfl ?_, ⟨n, f, cs, k, _, rfl, hk, hn, hn2, hb⟩, _, rfl, ?_⟩
    · unfold cur at hg
      simp only [c99, push_cast, reduceCtorEq, Nat.reduceAdd, Nat.reduceSub, Nat.reduceMul, Nat.reduceLeDiff, Nat.reduceLT, Nat.reduceEqDiff, Int.reduceToNat, Int.reduceLT, Int.reduceLE, Int.reduceBEq, Int.reduceEq, Int.reduceSub, Int.reduceAdd, Int.reduceMul, Int.reduceNeg, fillL, repL, frm_get, frm_set, hd, hg, set_get _ hg, set_set, hlt]
      exact ⟨rfl, rfl⟩
    · have := and_bound (bitsI .xor .i64 ((stepH h).fdiv (2 ^ min 33 IntKind.i64.bits)) ((stepH h).fdiv (2 ^ min 45 IntKind.i64.bits))) (m := 255) (by omega) (by omega)
      unfold byteOf
      omega

theorem l1Below_ok (n : Int) (hn : n < 9223372036854775808) : Draws 50 [.int .i64 n] fun v => ∃ x, v = .int .i64 x ∧ 0 ≤ x ∧ (0 < n → x < n) ∧ (n ≤ 0 → x = 0) := by
  intro s d i o hg hc
  have hd := get_le hg
  by_cases h0 : n ≤ 0
  · refine ⟨.int .i64 0, o, callF_fc (fc := c50) rfl ?_, hc, 0, rfl, Int.le_refl _, fun h => h, fun _ => rfl⟩
    simp only [c50, push_cast, reduceCtorEq, Nat.reduceAdd, Nat.reduceSub, Nat.reduceMul, Nat.reduceLeDiff, Nat.reduceLT, Nat.reduceEqDiff, Int.reduceToNat, Int.reduceLT, Int.reduceLE, Int.reduceBEq, Int.reduceEq, Int.reduceSub, Int.reduceAdd, Int.reduceMul, Int.reduceNeg, fillL, repL, h0]
    exact (set_self hg).symm
  · by_cases h1 : n ≤ 256
    · obtain ⟨v, o1, e1, hc1, x, rfl, hx0, hx1⟩ := l1Byte_ok (frm s []) d i o (by rw [frm_get _ _ _ hd]; exact hg) hc
      have hne : ¬ n = 0 := by omega
      have hm0 : 0 ≤ x.tmod n := Int.tmod_nonneg _ hx0
      have hm1 : x.tmod n < n := Int.tmod_lt_of_pos _ (by omega)
      refine ⟨.int .i64 (x.tmod n), o1, callF_fc (fc := c50) rfl ?_, hc1, _, rfl, hm0, fun _ => hm1, fun h => absurd h h0⟩
      simp only [c50, push_cast, reduceCtorEq, Nat.reduceAdd, Nat.reduceSub, Nat.reduceMul, Nat.reduceLeDiff, Nat.reduceLT, Nat.reduceEqDiff, Int.reduceToNat, Int.reduceLT, Int.reduceLE, Int.reduceBEq, Int.reduceEq, Int.reduceSub, Int.reduceAdd, Int.reduceMul, Int.reduceNeg, fillL, repL, h0, h1, e1, frm_set, hd, hne]
    · obtain ⟨v, o1, e1, hc1, x, rfl, hx0, hx1⟩ := l1Byte_ok (frm s []) d i o (by rw [frm_get _ _ _ hd]; exact hg) hc
      rw [frm_set _ _ _ _ hd] at e1
      have g1 : (s.set d i o1).get d i = some o1 := set_get _ hg
      obtain ⟨v, o2, e2, hc2, y, rfl, hy0, hy1⟩ := l1Byte_ok (frm (s.set d i o1) []) d i o1 (by rw [frm_get _ _ _ (by rw [set_len]; exact hd)]; exact g1) hc1
      rw [frm_set _ _ _ _ (by rw [set_len]; exact hd), set_set] at e2
      obtain ⟨v, o3, e3, hc3, z, rfl, hz0, hz1⟩ := l1Byte_ok (frm (s.set d i o2) []) d i o2 (by rw [frm_get _ _ _ (by rw [set_len]; exact hd)]; exact set_get _ hg) hc2
      rw [frm_set _ _ _ _ (by rw [set_len]; exact hd), set_set] at e3
      obtain ⟨v, o4, e4, hc4, u, rfl, hu0, hu1⟩ := l1Byte_ok (frm (s.set d i o3) []) d i o3 (by rw [frm_get _ _ _ (by rw [set_len]; exact hd)]; exact set_get _ hg) hc3
      rw [frm_set _ _ _ _ (by rw [set_len]; exact hd), set_set] at e4
      have hne : ¬ n = 0 := by omega
      have w1 : IntKind.i64.wrap (x * 16777216) = x * 16777216 := wrap_id (by omega) (by omega)
      have w2 : IntKind.i64.wrap (y * 65536) = y * 65536 := wrap_id (by omega) (by omega)
      have w3 : IntKind.i64.wrap (x * 16777216 + y * 65536) = x * 16777216 + y * 65536 := wrap_id (by omega) (by omega)
      have w4 : IntKind.i64.wrap (z * 256) = z * 256 := wrap_id (by omega) (by omega)
      have w5 : IntKind.i64.wrap (x * 16777216 + y * 65536 + z * 256) = x * 16777216 + y * 65536 + z * 256 := wrap_id (by omega) (by omega)
      have w6 : IntKind.i64.wrap (x * 16777216 + y * 65536 + z * 256 + u) = x * 16777216 + y * 65536 + z * 256 + u := wrap_id (by omega) (by omega)
      have hm0 : 0 ≤ (x * 16777216 + y * 65536 + z * 256 + u).tmod n := Int.tmod_nonneg _ (by omega)
      have hm1 : (x * 16777216 + y * 65536 + z * 256 + u).tmod n < n := Int.tmod_lt_of_pos _ (by omega)
      refine ⟨.int .i64 ((x * 16777216 + y * 65536 + z * 256 + u).tmod n), o4, callF_fc (fc := c50) rfl ?_, hc4, _, rfl, hm0, fun _ => hm1, fun h => absurd h h0⟩
      simp only [c50, push_cast, reduceCtorEq, Nat.reduceAdd, Nat.reduceSub, Nat.reduceMul, Nat.reduceLeDiff, Nat.reduceLT, Nat.reduceEqDiff, Int.reduceToNat, Int.reduceLT, Int.reduceLE, Int.reduceBEq, Int.reduceEq, Int.reduceSub, Int.reduceAdd, Int.reduceMul, Int.reduceNeg, fillL, repL, h0, h1, e1, e2, e3, e4, hne, w1, w2, w3, w4, w5, w6]
theorem l1Once_ok (n : Int) (hn : n < 9223372036854775808) : Draws 52 [.int .i64 n] fun v => ∃ b, v = .bool b := by
  intro s d i o hg hc
  have hd := get_le hg
  obtain ⟨v, o1, e1, hc1, x, rfl, hx⟩ := l1Below_ok n hn (frm s []) d i o (by rw [frm_get _ _ _ hd]; exact hg) hc
  refine ⟨.bool (x == 0), o1, callF_fc (fc := c52) rfl ?_, hc1, _, rfl⟩
  simp only [c52, push_cast, reduceCtorEq, Nat.reduceAdd, Nat.reduceSub, Nat.reduceMul, Nat.reduceLeDiff, Nat.reduceLT, Nat.reduceEqDiff, Int.reduceToNat, Int.reduceLT, Int.reduceLE, Int.reduceBEq, Int.reduceEq, Int.reduceSub, Int.reduceAdd, Int.reduceMul, Int.reduceNeg, fillL, repL, e1, frm_set, hd]
theorem l1PickInt_ok (l : List Int) (hl : 0 < l.length) (hl2 : l.length < 9223372036854775808) (f : Bool) : Draws 53 [.imm f l.length (l.map (.int .i64))] fun v => ∃ x, v = .int .i64 x ∧ x ∈ l := by
  intro s d i o hg hc
  have hd := get_le hg
  obtain ⟨v, o1, e1, hc1, x, rfl, hx0, hx1, _⟩ := l1Below_ok l.length (by omega) (frm s []) d i o (by rw [frm_get _ _ _ hd]; exact hg) hc
  have hx := hx1 (by omega)
  have hget : (l.map (AV.int .i64))[x.toNat]? = some (.int .i64 (l[x.toNat]'(by omega))) := by simp [List.getElem?_map, List.getElem?_eq_getElem (show x.toNat < l.length by omega)]
  refine ⟨.int .i64 (l[x.toNat]'(by omega)), o1, callF_fc (fc := c53) rfl ?_, hc1, _, rfl, List.getElem_mem _⟩
  simp only [c53, push_cast, reduceCtorEq, Nat.reduceAdd, Nat.reduceSub, Nat.reduceMul, Nat.reduceLeDiff, Nat.reduceLT, Nat.reduceEqDiff, Int.reduceToNat, Int.reduceLT, Int.reduceLE, Int.reduceBEq, Int.reduceEq, Int.reduceSub, Int.reduceAdd, Int.reduceMul, Int.reduceNeg, fillL, repL, e1, frm_set, hd, hx0, hx, hget]
theorem num_wrap {x : Int} (h : -9223372036854775808 ≤ x ∧ x < 9223372036854775808) : IntKind.i64.wrap x = x := wrap_id h.1 h.2
def I64 (x : Int) : Prop := -9223372036854775808 ≤ x ∧ x < 9223372036854775808
theorem i64_wrap (x : Int) : I64 (IntKind.i64.wrap x) := by
  rw [IntKind.wrap_i64]
  unfold I64
  omega
theorem l1num_ok : Draws 93 [] fun v => ∃ x, v = .int .i64 x ∧ I64 x := by
  intro s d i o hg hc
  have hd := get_le hg
  have hg0 : (frm s []).get d i = some o := by rw [frm_get _ _ _ hd]; exact hg
  obtain ⟨v, o1, e1, hc1, x, rfl, hx0, hx1, _⟩ := l1Below_ok 5 (by omega) (frm s []) d i o hg0 hc
  rw [frm_set _ _ _ _ hd] at e1
  have hd1 : d ≤ (s.set d i o1).low.length := by rw [set_len]; exact hd
  have hg1 : (frm (s.set d i o1) []).get d i = some o1 := by rw [frm_get _ _ _ hd1]; exact set_get _ hg
  have hx5 := hx1 (by omega)
  clear hx1
  rcases (by omega : x = 0 ∨ x = 1 ∨ x = 2 ∨ x = 3 ∨ x = 4) with rfl | rfl | rfl | rfl | rfl
  · obtain ⟨v, o2, e2, hc2, y, rfl, hy0, hy1, _⟩ := l1Below_ok 4 (by omega) _ d i o1 hg1 hc1
    rw [frm_set _ _ _ _ hd1, set_set] at e2
    have := hy1 (by omega)
    refine ⟨.int .i64 y, o2, callF_fc (fc := c93) rfl ?_, hc2, _, rfl, by unfold I64; omega⟩
    simp only [c93, push_cast, reduceCtorEq, Nat.reduceAdd, Nat.reduceSub, Nat.reduceMul, Nat.reduceLeDiff, Nat.reduceLT, Nat.reduceEqDiff, Int.reduceToNat, Int.reduceLT, Int.reduceLE, Int.reduceBEq, Int.reduceEq, Int.reduceSub, Int.reduceAdd, Int.reduceMul, Int.reduceNeg, fillL, repL, e1, e2]
  · obtain ⟨v, o2, e2, hc2, y, rfl, hy⟩ := l1PickInt_ok [126, 127, 128, 129, 16383, 16384, 2097151, 2097152, 2147483646, 2147483647] (by simp) (by simp) true _ d i o1 hg1 hc1
    rw [frm_set _ _ _ _ hd1, set_set] at e2
    simp only [List.length_cons, List.length_nil, List.map_cons, List.map_nil, Nat.reduceAdd] at e2
    refine ⟨.int .i64 y, o2, callF_fc (fc := c93) rfl ?_, hc2, _, rfl, by simp at hy; unfold I64; omega⟩
    simp only [c93, push_cast, reduceCtorEq, Nat.reduceAdd, Nat.reduceSub, Nat.reduceMul, Nat.reduceLeDiff, Nat.reduceLT, Nat.reduceEqDiff, Int.reduceToNat, Int.reduceLT, Int.reduceLE, Int.reduceBEq, Int.reduceEq, Int.reduceSub, Int.reduceAdd, Int.reduceMul, Int.reduceNeg, fillL, repL, e1, e2]
  · obtain ⟨v, o2, e2, hc2, y, rfl, hy0, hy1, _⟩ := l1Below_ok 40000 (by omega) _ d i o1 hg1 hc1
    rw [frm_set _ _ _ _ hd1, set_set] at e2
    have := hy1 (by omega)
    refine ⟨.int .i64 y, o2, callF_fc (fc := c93) rfl ?_, hc2, _, rfl, by unfold I64; omega⟩
    simp only [c93, push_cast, reduceCtorEq, Nat.reduceAdd, Nat.reduceSub, Nat.reduceMul, Nat.reduceLeDiff, Nat.reduceLT, Nat.reduceEqDiff, Int.reduceToNat, Int.reduceLT, Int.reduceLE, Int.reduceBEq, Int.reduceEq, Int.reduceSub, Int.reduceAdd, Int.reduceMul, Int.reduceNeg, fillL, repL, e1, e2]
  · obtain ⟨v, o2, e2, hc2, y, rfl, hy⟩ := l1PickInt_ok [-1, -2, 2147483648, 4611686018427387904, -9223372036854775808, 9223372036854775807] (by simp) (by simp) true _ d i o1 hg1 hc1
    rw [frm_set _ _ _ _ hd1, set_set] at e2
    simp only [List.length_cons, List.length_nil, List.map_cons, List.map_nil, Nat.reduceAdd] at e2
    refine ⟨.int .i64 y, o2, callF_fc (fc := c93) rfl ?_, hc2, _, rfl, by simp at hy; unfold I64; omega⟩
    simp only [c93, push_cast, reduceCtorEq, Nat.reduceAdd, Nat.reduceSub, Nat.reduceMul, Nat.reduceLeDiff, Nat.reduceLT, Nat.reduceEqDiff, Int.reduceToNat, Int.reduceLT, Int.reduceLE, Int.reduceBEq, Int.reduceEq, Int.reduceSub, Int.reduceAdd, Int.reduceMul, Int.reduceNeg, fillL, repL, e1, e2]
  · obtain ⟨v, o2, e2, hc2, y, rfl, hy0, hy1, _⟩ := l1Below_ok 2147483647 (by omega) _ d i o1 hg1 hc1
    rw [frm_set _ _ _ _ hd1, set_set] at e2
    have := hy1 (by omega)
    refine ⟨.int .i64 y, o2, callF_fc (fc := c93) rfl ?_, hc2, _, rfl, by unfold I64; omega⟩
    simp only [c93, push_cast, reduceCtorEq, Nat.reduceAdd, Nat.reduceSub, Nat.reduceMul, Nat.reduceLeDiff, Nat.reduceLT, Nat.reduceEqDiff, Int.reduceToNat, Int.reduceLT, Int.reduceLE, Int.reduceBEq, Int.reduceEq, Int.reduceSub, Int.reduceAdd, Int.reduceMul, Int.reduceNeg, fillL, repL, e1, e2]
theorem l1signed_ok : Draws 39 [] fun v => ∃ x, v = .int .i64 x ∧ I64 x := by
  intro s d i o hg hc
  have hd := get_le hg
  have hg0 : (frm s []).get d i = some o := by rw [frm_get _ _ _ hd]; exact hg
  obtain ⟨v, o1, e1, hc1, x, rfl, hx0, hx1, _⟩ := l1Below_ok 4 (by omega) (frm s []) d i o hg0 hc
  rw [frm_set _ _ _ _ hd] at e1
  have hd1 : d ≤ (s.set d i o1).low.length := by rw [set_len]; exact hd
  have hg1 : (frm (s.set d i o1) []).get d i = some o1 := by rw [frm_get _ _ _ hd1]; exact set_get _ hg
  have hx5 := hx1 (by omega)
  clear hx1
  rcases (by omega : x = 0 ∨ x = 1 ∨ x = 2 ∨ x = 3) with rfl | rfl | rfl | rfl
  · obtain ⟨v, o2, e2, hc2, y, rfl, hy0, hy1, _⟩ := l1Below_ok 9 (by omega) _ d i o1 hg1 hc1
    rw [frm_set _ _ _ _ hd1, set_set] at e2
    refine ⟨.int .i64 (IntKind.i64.wrap (y - 4)), o2, callF_fc (fc := c39) rfl ?_, hc2, _, rfl, i64_wrap _⟩
    simp only [c39, push_cast, reduceCtorEq, Nat.reduceAdd, Nat.reduceSub, Nat.reduceMul, Nat.reduceLeDiff, Nat.reduceLT, Nat.reduceEqDiff, Int.reduceToNat, Int.reduceLT, Int.reduceLE, Int.reduceBEq, Int.reduceEq, Int.reduceSub, Int.reduceAdd, Int.reduceMul, Int.reduceNeg, fillL, repL, e1, e2]
  · obtain ⟨v, o2, e2, hc2, y, rfl, hy⟩ := l1PickInt_ok [1073741823, 1073741824, -1073741824, -1073741825, -9223372036854775808, 9223372036854775807, 4611686018427387904, -4611686018427387904, 4611686018427387903, -4611686018427387905] (by simp) (by simp) true _ d i o1 hg1 hc1
    rw [frm_set _ _ _ _ hd1, set_set] at e2
    simp only [List.length_cons, List.length_nil, List.map_cons, List.map_nil, Nat.reduceAdd] at e2
    refine ⟨.int .i64 y, o2, callF_fc (fc := c39) rfl ?_, hc2, _, rfl, by simp at hy; unfold I64; omega⟩
    simp only [c39, push_cast, reduceCtorEq, Nat.reduceAdd, Nat.reduceSub, Nat.reduceMul, Nat.reduceLeDiff, Nat.reduceLT, Nat.reduceEqDiff, Int.reduceToNat, Int.reduceLT, Int.reduceLE, Int.reduceBEq, Int.reduceEq, Int.reduceSub, Int.reduceAdd, Int.reduceMul, Int.reduceNeg, fillL, repL, e1, e2]
  · obtain ⟨v, o2, e2, hc2, y, rfl, hy⟩ := l1num_ok _ d i o1 hg1 hc1
    rw [frm_set _ _ _ _ hd1, set_set] at e2
    refine ⟨.int .i64 y, o2, callF_fc (fc := c39) rfl ?_, hc2, _, rfl, hy⟩
    simp only [c39, push_cast, reduceCtorEq, Nat.reduceAdd, Nat.reduceSub, Nat.reduceMul, Nat.reduceLeDiff, Nat.reduceLT, Nat.reduceEqDiff, Int.reduceToNat, Int.reduceLT, Int.reduceLE, Int.reduceBEq, Int.reduceEq, Int.reduceSub, Int.reduceAdd, Int.reduceMul, Int.reduceNeg, fillL, repL, e1, e2]
  · obtain ⟨v, o2, e2, hc2, y, rfl, hy0, hy1, _⟩ := l1Below_ok 1073741824 (by omega) _ d i o1 hg1 hc1
    rw [frm_set _ _ _ _ hd1, set_set] at e2
    refine ⟨.int .i64 (IntKind.i64.wrap (0 - y)), o2, callF_fc (fc := c39) rfl ?_, hc2, _, rfl, i64_wrap _⟩
    simp only [c39, push_cast, reduceCtorEq, Nat.reduceAdd, Nat.reduceSub, Nat.reduceMul, Nat.reduceLeDiff, Nat.reduceLT, Nat.reduceEqDiff, Int.reduceToNat, Int.reduceLT, Int.reduceLE, Int.reduceBEq, Int.reduceEq, Int.reduceSub, Int.reduceAdd, Int.reduceMul, Int.reduceNeg, fillL, repL, e1, e2]
end Go.Proofs.Ythogcanomihelaa.Gw
