/- Heads of expressions in frozen cells, for the program: MADE BY PROGRAM (mkhd.py). -/
import Derived.Test.YtkjonfojileipaaGreatDoorV6
set_option linter.unusedSimpArgs false
set_option linter.unusedVariables false
namespace Go.Proofs.YtkjonfojileipaaGreatDoor.Gq
open Go Go.Proofs Go.Proofs.YtkjonfojileipaaGreatDoor.Ae
attribute [local congr] obind_congr
attribute [local push_cast] exF argsV frzs frz frzL frz1 exS_reg exS_seq exS_cond exS_alt exS_block exS_loop exS_exit exS_ret exS_skip evReg evOps evOne evAct evOp rd putV st0 evEnd resV resL resOne oneOr frzR loadV storeV binV binI unV push_frm pop_frm frm_len frm_top frm_get_top frm_set_top frm_new AV.cells AV.lowB AV.lowL AV.isCell cellsOk set_len Option.bind_some Option.map_some Option.map_none List.getD_cons_zero List.getD_cons_succ List.nil_append List.cons_append List.append_nil List.length_cons List.length_nil List.set_cons_zero List.set_cons_succ List.map_cons List.map_nil List.replicate if_true if_false ite_true ite_false ite_self Bool.false_eq_true List.all_cons List.all_nil Bool.and_true Bool.true_and Bool.and_self Bool.and_eq_true List.getElem?_cons_zero List.getElem?_cons_succ List.drop_succ_cons List.drop_zero List.take_succ_cons List.take_zero true_and and_true and_self decide_true decide_false Bool.not_true Bool.not_false Prod.mk.injEq Option.some.injEq List.getElem?_drop optInt elems sliceV partsOf Nat.add_zero Nat.zero_add Nat.mul_one beq_self_eq_true litParts Bool.or_false Bool.false_or Bool.or_true Bool.true_or Bool.false_and Bool.and_false List.cons.injEq not_false_eq_true not_true_eq_false Nat.zero_le Nat.le_refl gt_iff_lt ge_iff_le List.drop_nil List.take_nil newBox List.length_append List.length_map bne_self_eq_false eq_self Nat.lt_add_one ne_eq false_implies Int.le_refl
theorem XSl.nn0 {x : Bool} {P : Prop} [Decidable P] (h : x = decide P) (hb : (!x) = false) : P := by subst h; simpa using hb
theorem XSl.nn1 {x : Bool} {P : Prop} [Decidable P] (h : x = decide P) (hb : (!x) = true) : ¬ P := by subst h; simpa using hb
theorem XSl.nn2 {a b : List UInt8} {P : Prop} [Decidable P] (h : (a == b) = decide P) (hb : a = b) : P := of_decide_eq_true (h.symm.trans (beq_iff_eq.2 hb))
theorem XSl.nn3 {a b : List UInt8} {P : Prop} [Decidable P] (h : (a == b) = decide P) (hb : ¬ a = b) : ¬ P := fun g => hb (beq_iff_eq.1 (h.trans (decide_eq_true g)))
open XSl
set_option maxHeartbeats 8000000 in
theorem implHdEA {k n kn : Int} {name arg lit : List Int} {kl al : Nat} {KC AC : List AV} {b1 b2 b3 b4 fk : Bool} (hc : k = 3 ∨ k = 4 ∨ k = 6 ∨ k = 18) (s : Store) {rest : List AV} (hkn : 0 ≤ kn)
    (hkl : kl ≤ 1000000000) (hal : al ≤ 1000000000) (hkf : (k = 20 → 0 ≤ n ∧ n ≤ 4) → ∀ s, callF (tab tbl) prim 125 [.int .i64 k, .int .i64 n] s = some (.int .i64 kn, s))
    (hll : lit.length ≤ 1000000000)
    (h1 : ∀ s, callF (tab tbl) prim 46 [.str (bst name)] s = some (.bool b1, s)) (h2 : ∀ s, callF (tab tbl) prim 103 [.str (bst name)] s = some (.bool b2, s)) (h3 : ∀ s, callF (tab tbl) prim 46 [.str (bst arg)] s = some (.bool b3, s)) (h4 : ∀ fl s, callF (tab tbl) prim 124 [.imm fl lit.length (by8 lit)] s = some (.bool b4, s))
    (h5 : ((bst arg).toList == (bst name).toList) = decide (arg = name)) (h6 : ((bst name).toList == (⟨#[]⟩ : ByteArray).toList) = decide (name.length = 0)) (h7 : ((bst arg).toList == (⟨#[]⟩ : ByteArray).toList) = decide (arg.length = 0)) :
    ∃ v s', callF (tab tbl) prim 74 [.eptr ([.int .i64 k, .int .i64 n, .imm false name.length (by8 name), .imm false arg.length (by8 arg), .imm false lit.length (by8 lit), .imm false kl KC, .imm false al AC] ++ rest)] s = some (v, s') ∧ ∃ b : Bool, v = .bool b ∧ s' = s ∧ (b = true ↔ n = 0 ∧ b1 = true ∧ arg.length = 0 ∧ lit.length = 0 ∧ al = 0 ∧ (kl : Int) = kn) := by
  have t1:=toB8 name
  have t2:=toB8 arg
  have l1:=by8_len name
  have l2:=by8_len arg
  have hkg:=hkf (fun h=>by omega)
  refine funZ rfl (argsF rfl (frzs_cons frz_eptr frzs_nil)) zt ?_
  repeat' (first|refine zw ?_|refine zn (fun hb=>?_) (fun hb=>?_)|refine zx ?_|refine zof (zA @implWithin (zA @implNumber (zA @implNamed (zA @h1 (zA @h2 (zA @h3 (zA @h4 (zA @h5 (zA @h6 (zA @h7 (zA @t1 (zA @t2 (zA @l1 (zA @l2 (zA (@List.drop_zero AV) (zA (@List.drop_drop AV) (@hkg))))))))))))))))) ?_|exact zi|fail)
  all_goals
    refine ⟨_,rfl,rfl,?_⟩
    first
    | exact iff_of_true rfl ⟨by (first | assumption | omega | exact nn0 h6 (by assumption) | exact nn0 h7 (by assumption) | exact nn3 h5 (by assumption)), by (first | assumption | omega | exact nn0 h6 (by assumption) | exact nn0 h7 (by assumption) | exact nn3 h5 (by assumption)), by (first | assumption | omega | exact nn0 h6 (by assumption) | exact nn0 h7 (by assumption) | exact nn3 h5 (by assumption)), by (first | assumption | omega | exact nn0 h6 (by assumption) | exact nn0 h7 (by assumption) | exact nn3 h5 (by assumption)), by (first | assumption | omega | exact nn0 h6 (by assumption) | exact nn0 h7 (by assumption) | exact nn3 h5 (by assumption)), by (first | assumption | omega | exact nn0 h6 (by assumption) | exact nn0 h7 (by assumption) | exact nn3 h5 (by assumption))⟩
    | (refine iff_of_false Bool.false_ne_true ?_
       rintro ⟨g0, g1, g2, g3, g4, g5⟩
       first
       | omega
       | exact absurd g1 (by rw [hb]; exact Bool.false_ne_true)
       | exact nn1 h7 hb g2)
set_option maxHeartbeats 8000000 in
theorem implHdEB {k n kn : Int} {name arg lit : List Int} {kl al : Nat} {KC AC : List AV} {b1 b2 b3 b4 fk : Bool} (hc : k = 7) (s : Store) {rest : List AV} (hkn : 0 ≤ kn)
    (hkl : kl ≤ 1000000000) (hal : al ≤ 1000000000) (hkf : (k = 20 → 0 ≤ n ∧ n ≤ 4) → ∀ s, callF (tab tbl) prim 125 [.int .i64 k, .int .i64 n] s = some (.int .i64 kn, s))
    (hll : lit.length ≤ 1000000000)
    (h1 : ∀ s, callF (tab tbl) prim 46 [.str (bst name)] s = some (.bool b1, s)) (h2 : ∀ s, callF (tab tbl) prim 103 [.str (bst name)] s = some (.bool b2, s)) (h3 : ∀ s, callF (tab tbl) prim 46 [.str (bst arg)] s = some (.bool b3, s)) (h4 : ∀ fl s, callF (tab tbl) prim 124 [.imm fl lit.length (by8 lit)] s = some (.bool b4, s))
    (h5 : ((bst arg).toList == (bst name).toList) = decide (arg = name)) (h6 : ((bst name).toList == (⟨#[]⟩ : ByteArray).toList) = decide (name.length = 0)) (h7 : ((bst arg).toList == (⟨#[]⟩ : ByteArray).toList) = decide (arg.length = 0)) :
    ∃ v s', callF (tab tbl) prim 74 [.eptr ([.int .i64 k, .int .i64 n, .imm false name.length (by8 name), .imm false arg.length (by8 arg), .imm false lit.length (by8 lit), .imm false kl KC, .imm false al AC] ++ rest)] s = some (v, s') ∧ ∃ b : Bool, v = .bool b ∧ s' = s ∧ (b = true ↔ n = 0 ∧ b1 = true ∧ b3 = true ∧ arg ≠ name ∧ lit.length = 0 ∧ al = 0 ∧ (kl : Int) = kn) := by
  have t1:=toB8 name
  have t2:=toB8 arg
  have l1:=by8_len name
  have l2:=by8_len arg
  subst hc
  have hkg:=hkf (fun h=>by omega)
  refine funZ rfl (argsF rfl (frzs_cons frz_eptr frzs_nil)) zt ?_
  repeat' (first|refine zw ?_|refine zn (fun hb=>?_) (fun hb=>?_)|refine zx ?_|refine zof (zA @implWithin (zA @implNumber (zA @implNamed (zA @h1 (zA @h2 (zA @h3 (zA @h4 (zA @h5 (zA @h6 (zA @h7 (zA @t1 (zA @t2 (zA @l1 (zA @l2 (zA (@List.drop_zero AV) (zA (@List.drop_drop AV) (@hkg))))))))))))))))) ?_|exact zi|fail)
  all_goals
    refine ⟨_,rfl,rfl,?_⟩
    first
    | exact iff_of_true rfl ⟨by (first | assumption | omega | exact nn0 h6 (by assumption) | exact nn0 h7 (by assumption) | exact nn3 h5 (by assumption)), by (first | assumption | omega | exact nn0 h6 (by assumption) | exact nn0 h7 (by assumption) | exact nn3 h5 (by assumption)), by (first | assumption | omega | exact nn0 h6 (by assumption) | exact nn0 h7 (by assumption) | exact nn3 h5 (by assumption)), by (first | assumption | omega | exact nn0 h6 (by assumption) | exact nn0 h7 (by assumption) | exact nn3 h5 (by assumption)), by (first | assumption | omega | exact nn0 h6 (by assumption) | exact nn0 h7 (by assumption) | exact nn3 h5 (by assumption)), by (first | assumption | omega | exact nn0 h6 (by assumption) | exact nn0 h7 (by assumption) | exact nn3 h5 (by assumption)), by (first | assumption | omega | exact nn0 h6 (by assumption) | exact nn0 h7 (by assumption) | exact nn3 h5 (by assumption))⟩
    | (refine iff_of_false Bool.false_ne_true ?_
       rintro ⟨g0, g1, g2, g3, g4, g5, g6⟩
       first
       | omega
       | exact absurd g1 (by rw [hb]; exact Bool.false_ne_true)
       | exact absurd g2 (by rw [hb]; exact Bool.false_ne_true)
       | exact g3 (nn2 h5 hb))
set_option maxHeartbeats 8000000 in
theorem implHdEC {k n kn : Int} {name arg lit : List Int} {kl al : Nat} {KC AC : List AV} {b1 b2 b3 b4 fk : Bool} (hc : k = 15) (s : Store) {rest : List AV} (hkn : kn = -1)
    (hkl : kl ≤ 1000000000) (hal : al ≤ 1000000000) (hkf : (k = 20 → 0 ≤ n ∧ n ≤ 4) → ∀ s, callF (tab tbl) prim 125 [.int .i64 k, .int .i64 n] s = some (.int .i64 kn, s))
    (hll : lit.length ≤ 1000000000)
    (h1 : ∀ s, callF (tab tbl) prim 46 [.str (bst name)] s = some (.bool b1, s)) (h2 : ∀ s, callF (tab tbl) prim 103 [.str (bst name)] s = some (.bool b2, s)) (h3 : ∀ s, callF (tab tbl) prim 46 [.str (bst arg)] s = some (.bool b3, s)) (h4 : ∀ fl s, callF (tab tbl) prim 124 [.imm fl lit.length (by8 lit)] s = some (.bool b4, s))
    (h5 : ((bst arg).toList == (bst name).toList) = decide (arg = name)) (h6 : ((bst name).toList == (⟨#[]⟩ : ByteArray).toList) = decide (name.length = 0)) (h7 : ((bst arg).toList == (⟨#[]⟩ : ByteArray).toList) = decide (arg.length = 0)) :
    ∃ v s', callF (tab tbl) prim 74 [.eptr ([.int .i64 k, .int .i64 n, .imm false name.length (by8 name), .imm false arg.length (by8 arg), .imm false lit.length (by8 lit), .imm false kl KC, .imm false al AC] ++ rest)] s = some (v, s') ∧ ∃ b : Bool, v = .bool b ∧ s' = s ∧ (b = true ↔ n = 0 ∧ b2 = true ∧ arg.length = 0 ∧ lit.length = 0 ∧ al = 0 ∧ kl ≤ 3) := by
  have t1:=toB8 name
  have t2:=toB8 arg
  have l1:=by8_len name
  have l2:=by8_len arg
  subst hc
  have hkg:=hkf (fun h=>by omega)
  refine funZ rfl (argsF rfl (frzs_cons frz_eptr frzs_nil)) zt ?_
  repeat' (first|refine zw ?_|refine zn (fun hb=>?_) (fun hb=>?_)|refine zx ?_|refine zof (zA @implWithin (zA @implNumber (zA @implNamed (zA @h1 (zA @h2 (zA @h3 (zA @h4 (zA @h5 (zA @h6 (zA @h7 (zA @t1 (zA @t2 (zA @l1 (zA @l2 (zA (@List.drop_zero AV) (zA (@List.drop_drop AV) (@hkg))))))))))))))))) ?_|exact zi|fail)
  all_goals
    refine ⟨_,rfl,rfl,?_⟩
    first
    | exact iff_of_true rfl ⟨by (first | assumption | omega | exact nn0 h6 (by assumption) | exact nn0 h7 (by assumption) | exact nn3 h5 (by assumption)), by (first | assumption | omega | exact nn0 h6 (by assumption) | exact nn0 h7 (by assumption) | exact nn3 h5 (by assumption)), by (first | assumption | omega | exact nn0 h6 (by assumption) | exact nn0 h7 (by assumption) | exact nn3 h5 (by assumption)), by (first | assumption | omega | exact nn0 h6 (by assumption) | exact nn0 h7 (by assumption) | exact nn3 h5 (by assumption)), by (first | assumption | omega | exact nn0 h6 (by assumption) | exact nn0 h7 (by assumption) | exact nn3 h5 (by assumption)), by (first | assumption | omega | exact nn0 h6 (by assumption) | exact nn0 h7 (by assumption) | exact nn3 h5 (by assumption))⟩
    | (refine iff_of_false Bool.false_ne_true ?_
       rintro ⟨g0, g1, g2, g3, g4, g5⟩
       first
       | omega
       | exact absurd g1 (by rw [hb]; exact Bool.false_ne_true)
       | exact nn1 h7 hb g2)
set_option maxHeartbeats 8000000 in
theorem implHdED {k n kn : Int} {name arg lit : List Int} {kl al : Nat} {KC AC : List AV} {b1 b2 b3 b4 fk : Bool} (hc : k = 2) (s : Store) {rest : List AV} (hkn : 0 ≤ kn)
    (hkl : kl ≤ 1000000000) (hal : al ≤ 1000000000) (hkf : (k = 20 → 0 ≤ n ∧ n ≤ 4) → ∀ s, callF (tab tbl) prim 125 [.int .i64 k, .int .i64 n] s = some (.int .i64 kn, s))
    (hll : lit.length ≤ 1000000000)
    (h1 : ∀ s, callF (tab tbl) prim 46 [.str (bst name)] s = some (.bool b1, s)) (h2 : ∀ s, callF (tab tbl) prim 103 [.str (bst name)] s = some (.bool b2, s)) (h3 : ∀ s, callF (tab tbl) prim 46 [.str (bst arg)] s = some (.bool b3, s)) (h4 : ∀ fl s, callF (tab tbl) prim 124 [.imm fl lit.length (by8 lit)] s = some (.bool b4, s))
    (h5 : ((bst arg).toList == (bst name).toList) = decide (arg = name)) (h6 : ((bst name).toList == (⟨#[]⟩ : ByteArray).toList) = decide (name.length = 0)) (h7 : ((bst arg).toList == (⟨#[]⟩ : ByteArray).toList) = decide (arg.length = 0)) :
    ∃ v s', callF (tab tbl) prim 74 [.eptr ([.int .i64 k, .int .i64 n, .imm false name.length (by8 name), .imm false arg.length (by8 arg), .imm false lit.length (by8 lit), .imm false kl KC, .imm false al AC] ++ rest)] s = some (v, s') ∧ ∃ b : Bool, v = .bool b ∧ s' = s ∧ (b = true ↔ n = 0 ∧ name.length = 0 ∧ arg.length = 0 ∧ b4 = true ∧ al = 0 ∧ (kl : Int) = kn) := by
  have t1:=toB8 name
  have t2:=toB8 arg
  have l1:=by8_len name
  have l2:=by8_len arg
  subst hc
  have hkg:=hkf (fun h=>by omega)
  refine funZ rfl (argsF rfl (frzs_cons frz_eptr frzs_nil)) zt ?_
  repeat' (first|refine zw ?_|refine zn (fun hb=>?_) (fun hb=>?_)|refine zx ?_|refine zof (zA @implWithin (zA @implNumber (zA @implNamed (zA @h1 (zA @h2 (zA @h3 (zA @h4 (zA @h5 (zA @h6 (zA @h7 (zA @t1 (zA @t2 (zA @l1 (zA @l2 (zA (@List.drop_zero AV) (zA (@List.drop_drop AV) (@hkg))))))))))))))))) ?_|exact zi|fail)
  all_goals
    refine ⟨_,rfl,rfl,?_⟩
    first
    | exact iff_of_true rfl ⟨by (first | assumption | omega | exact nn0 h6 (by assumption) | exact nn0 h7 (by assumption) | exact nn3 h5 (by assumption)), by (first | assumption | omega | exact nn0 h6 (by assumption) | exact nn0 h7 (by assumption) | exact nn3 h5 (by assumption)), by (first | assumption | omega | exact nn0 h6 (by assumption) | exact nn0 h7 (by assumption) | exact nn3 h5 (by assumption)), by (first | assumption | omega | exact nn0 h6 (by assumption) | exact nn0 h7 (by assumption) | exact nn3 h5 (by assumption)), by (first | assumption | omega | exact nn0 h6 (by assumption) | exact nn0 h7 (by assumption) | exact nn3 h5 (by assumption)), by (first | assumption | omega | exact nn0 h6 (by assumption) | exact nn0 h7 (by assumption) | exact nn3 h5 (by assumption))⟩
    | (refine iff_of_false Bool.false_ne_true ?_
       rintro ⟨g0, g1, g2, g3, g4, g5⟩
       first
       | omega
       | exact nn1 h6 hb g1
       | exact nn1 h7 hb g2
       | exact absurd g3 (by rw [hb]; exact Bool.false_ne_true))
set_option maxHeartbeats 8000000 in
theorem implHdEE {k n kn : Int} {name arg lit : List Int} {kl al : Nat} {KC AC : List AV} {b1 b2 b3 b4 fk : Bool} (hc : k = 16) (s : Store) {rest : List AV} (hkn : 0 ≤ kn)
    (hkl : kl ≤ 1000000000) (hal : al ≤ 1000000000) (hkf : (k = 20 → 0 ≤ n ∧ n ≤ 4) → ∀ s, callF (tab tbl) prim 125 [.int .i64 k, .int .i64 n] s = some (.int .i64 kn, s))
    (hll : lit.length ≤ 1000000000)
    (h1 : ∀ s, callF (tab tbl) prim 46 [.str (bst name)] s = some (.bool b1, s)) (h2 : ∀ s, callF (tab tbl) prim 103 [.str (bst name)] s = some (.bool b2, s)) (h3 : ∀ s, callF (tab tbl) prim 46 [.str (bst arg)] s = some (.bool b3, s)) (h4 : ∀ fl s, callF (tab tbl) prim 124 [.imm fl lit.length (by8 lit)] s = some (.bool b4, s))
    (h5 : ((bst arg).toList == (bst name).toList) = decide (arg = name)) (h6 : ((bst name).toList == (⟨#[]⟩ : ByteArray).toList) = decide (name.length = 0)) (h7 : ((bst arg).toList == (⟨#[]⟩ : ByteArray).toList) = decide (arg.length = 0)) :
    ∃ v s', callF (tab tbl) prim 74 [.eptr ([.int .i64 k, .int .i64 n, .imm false name.length (by8 name), .imm false arg.length (by8 arg), .imm false lit.length (by8 lit), .imm false kl KC, .imm false al AC] ++ rest)] s = some (v, s') ∧ ∃ b : Bool, v = .bool b ∧ s' = s ∧ (b = true ↔ n = 0 ∧ name.length = 0 ∧ arg.length = 0 ∧ lit.length = 0 ∧ 1 ≤ al ∧ al ≤ 6 ∧ (kl : Int) = kn) := by
  have t1:=toB8 name
  have t2:=toB8 arg
  have l1:=by8_len name
  have l2:=by8_len arg
  subst hc
  have hkg:=hkf (fun h=>by omega)
  refine funZ rfl (argsF rfl (frzs_cons frz_eptr frzs_nil)) zt ?_
  repeat' (first|refine zw ?_|refine zn (fun hb=>?_) (fun hb=>?_)|refine zx ?_|refine zof (zA @implWithin (zA @implNumber (zA @implNamed (zA @h1 (zA @h2 (zA @h3 (zA @h4 (zA @h5 (zA @h6 (zA @h7 (zA @t1 (zA @t2 (zA @l1 (zA @l2 (zA (@List.drop_zero AV) (zA (@List.drop_drop AV) (@hkg))))))))))))))))) ?_|exact zi|fail)
  all_goals
    refine ⟨_,rfl,rfl,?_⟩
    first
    | exact iff_of_true rfl ⟨by (first | assumption | omega | exact nn0 h6 (by assumption) | exact nn0 h7 (by assumption) | exact nn3 h5 (by assumption)), by (first | assumption | omega | exact nn0 h6 (by assumption) | exact nn0 h7 (by assumption) | exact nn3 h5 (by assumption)), by (first | assumption | omega | exact nn0 h6 (by assumption) | exact nn0 h7 (by assumption) | exact nn3 h5 (by assumption)), by (first | assumption | omega | exact nn0 h6 (by assumption) | exact nn0 h7 (by assumption) | exact nn3 h5 (by assumption)), by (first | assumption | omega | exact nn0 h6 (by assumption) | exact nn0 h7 (by assumption) | exact nn3 h5 (by assumption)), by (first | assumption | omega | exact nn0 h6 (by assumption) | exact nn0 h7 (by assumption) | exact nn3 h5 (by assumption)), by (first | assumption | omega | exact nn0 h6 (by assumption) | exact nn0 h7 (by assumption) | exact nn3 h5 (by assumption))⟩
    | (refine iff_of_false Bool.false_ne_true ?_
       rintro ⟨g0, g1, g2, g3, g4, g5, g6⟩
       first
       | omega
       | exact nn1 h6 hb g1
       | exact nn1 h7 hb g2)
set_option maxHeartbeats 8000000 in
theorem implHdEF {k n kn : Int} {name arg lit : List Int} {kl al : Nat} {KC AC : List AV} {b1 b2 b3 b4 fk : Bool} (hc : k = 5) (s : Store) {rest : List AV} (hkn : kn = 2) {k0 : Int} {l0 : Nat} {K0 : List AV} (hK0 : 0 < kl → KC[0]? = some (.int .i64 k0)) (hK5 : 0 < kl → KC[5]? = some (.imm false l0 K0)) (hKf : 0 < kl → fk = decide (k0 = 15 ∧ l0 = 0))
    (hkl : kl ≤ 1000000000) (hal : al ≤ 1000000000) (hkf : (k = 20 → 0 ≤ n ∧ n ≤ 4) → ∀ s, callF (tab tbl) prim 125 [.int .i64 k, .int .i64 n] s = some (.int .i64 kn, s))
    (hll : lit.length ≤ 1000000000)
    (h1 : ∀ s, callF (tab tbl) prim 46 [.str (bst name)] s = some (.bool b1, s)) (h2 : ∀ s, callF (tab tbl) prim 103 [.str (bst name)] s = some (.bool b2, s)) (h3 : ∀ s, callF (tab tbl) prim 46 [.str (bst arg)] s = some (.bool b3, s)) (h4 : ∀ fl s, callF (tab tbl) prim 124 [.imm fl lit.length (by8 lit)] s = some (.bool b4, s))
    (h5 : ((bst arg).toList == (bst name).toList) = decide (arg = name)) (h6 : ((bst name).toList == (⟨#[]⟩ : ByteArray).toList) = decide (name.length = 0)) (h7 : ((bst arg).toList == (⟨#[]⟩ : ByteArray).toList) = decide (arg.length = 0)) :
    ∃ v s', callF (tab tbl) prim 74 [.eptr ([.int .i64 k, .int .i64 n, .imm false name.length (by8 name), .imm false arg.length (by8 arg), .imm false lit.length (by8 lit), .imm false kl KC, .imm false al AC] ++ rest)] s = some (v, s') ∧ ∃ b : Bool, v = .bool b ∧ s' = s ∧ (b = true ↔ n = 0 ∧ name.length = 0 ∧ arg.length = 0 ∧ lit.length = 0 ∧ al = 0 ∧ (kl : Int) = kn ∧ fk = false) := by
  have t1:=toB8 name
  have t2:=toB8 arg
  have l1:=by8_len name
  have l2:=by8_len arg
  subst hc
  have hkg:=hkf (fun h=>by omega)
  refine funZ rfl (argsF rfl (frzs_cons frz_eptr frzs_nil)) zt ?_
  repeat' (first|refine zw ?_|refine zn (fun hb=>?_) (fun hb=>?_)|refine zx ?_|refine zof (zA @implWithin (zA @implNumber (zA @implNamed (zA @h1 (zA @h2 (zA @h3 (zA @h4 (zA @h5 (zA @h6 (zA @h7 (zA @t1 (zA @t2 (zA @l1 (zA @l2 (zA (@List.drop_zero AV) (zA (@List.drop_drop AV) (zA @hkg (zA @hK0 (@hK5))))))))))))))))))) ?_|exact zi|fail)
  all_goals
    refine ⟨_,rfl,rfl,?_⟩
    first
    | exact iff_of_true rfl ⟨by (first | assumption | omega | exact nn0 h6 (by assumption) | exact nn0 h7 (by assumption) | exact nn3 h5 (by assumption)), by (first | assumption | omega | exact nn0 h6 (by assumption) | exact nn0 h7 (by assumption) | exact nn3 h5 (by assumption)), by (first | assumption | omega | exact nn0 h6 (by assumption) | exact nn0 h7 (by assumption) | exact nn3 h5 (by assumption)), by (first | assumption | omega | exact nn0 h6 (by assumption) | exact nn0 h7 (by assumption) | exact nn3 h5 (by assumption)), by (first | assumption | omega | exact nn0 h6 (by assumption) | exact nn0 h7 (by assumption) | exact nn3 h5 (by assumption)), by (first | assumption | omega | exact nn0 h6 (by assumption) | exact nn0 h7 (by assumption) | exact nn3 h5 (by assumption)), by (first | assumption | omega | exact nn0 h6 (by assumption) | exact nn0 h7 (by assumption) | exact nn3 h5 (by assumption) | (rw [hKf (by omega)]; exact decide_eq_false (by omega)))⟩
    | (refine iff_of_false Bool.false_ne_true ?_
       rintro ⟨g0, g1, g2, g3, g4, g5, g6⟩
       first
       | omega
       | exact nn1 h6 hb g1
       | exact nn1 h7 hb g2
       | (rw [hKf (by omega)] at g6; exact absurd (of_decide_eq_false g6) (by omega)))
set_option maxHeartbeats 8000000 in
theorem implHdEG {k n kn : Int} {name arg lit : List Int} {kl al : Nat} {KC AC : List AV} {b1 b2 b3 b4 fk : Bool} (hc : k = 1 ∨ k = 19 ∨ k = 20) (s : Store) {rest : List AV} (hkn : 0 ≤ kn)
    (hkl : kl ≤ 1000000000) (hal : al ≤ 1000000000) (hkf : (k = 20 → 0 ≤ n ∧ n ≤ 4) → ∀ s, callF (tab tbl) prim 125 [.int .i64 k, .int .i64 n] s = some (.int .i64 kn, s))
    (hll : lit.length ≤ 1000000000)
    (h1 : ∀ s, callF (tab tbl) prim 46 [.str (bst name)] s = some (.bool b1, s)) (h2 : ∀ s, callF (tab tbl) prim 103 [.str (bst name)] s = some (.bool b2, s)) (h3 : ∀ s, callF (tab tbl) prim 46 [.str (bst arg)] s = some (.bool b3, s)) (h4 : ∀ fl s, callF (tab tbl) prim 124 [.imm fl lit.length (by8 lit)] s = some (.bool b4, s))
    (h5 : ((bst arg).toList == (bst name).toList) = decide (arg = name)) (h6 : ((bst name).toList == (⟨#[]⟩ : ByteArray).toList) = decide (name.length = 0)) (h7 : ((bst arg).toList == (⟨#[]⟩ : ByteArray).toList) = decide (arg.length = 0)) :
    ∃ v s', callF (tab tbl) prim 74 [.eptr ([.int .i64 k, .int .i64 n, .imm false name.length (by8 name), .imm false arg.length (by8 arg), .imm false lit.length (by8 lit), .imm false kl KC, .imm false al AC] ++ rest)] s = some (v, s') ∧ ∃ b : Bool, v = .bool b ∧ s' = s ∧ (b = true ↔ numP k n ∧ name.length = 0 ∧ arg.length = 0 ∧ lit.length = 0 ∧ al = 0 ∧ (kl : Int) = kn) := by
  have t1:=toB8 name
  have t2:=toB8 arg
  have l1:=by8_len name
  have l2:=by8_len arg
  refine funZ rfl (argsF rfl (frzs_cons frz_eptr frzs_nil)) zt ?_
  repeat' (first|refine zw ?_|refine zn (fun hb=>?_) (fun hb=>?_)|refine zx ?_|refine zof (zA @implWithin (zA @implNumber (zA @implNamed (zA @h1 (zA @h2 (zA @h3 (zA @h4 (zA @h5 (zA @h6 (zA @h7 (zA @t1 (zA @t2 (zA @l1 (zA @l2 (zA (@List.drop_zero AV) (zA (@List.drop_drop AV) (@hkf))))))))))))))))) ?_|exact zi|fail)
  all_goals
    refine ⟨_,rfl,rfl,?_⟩
    first
    | exact iff_of_true rfl ⟨by (first | assumption | omega | exact nn0 h6 (by assumption) | exact nn0 h7 (by assumption) | exact nn3 h5 (by assumption)), by (first | assumption | omega | exact nn0 h6 (by assumption) | exact nn0 h7 (by assumption) | exact nn3 h5 (by assumption)), by (first | assumption | omega | exact nn0 h6 (by assumption) | exact nn0 h7 (by assumption) | exact nn3 h5 (by assumption)), by (first | assumption | omega | exact nn0 h6 (by assumption) | exact nn0 h7 (by assumption) | exact nn3 h5 (by assumption)), by (first | assumption | omega | exact nn0 h6 (by assumption) | exact nn0 h7 (by assumption) | exact nn3 h5 (by assumption)), by (first | assumption | omega | exact nn0 h6 (by assumption) | exact nn0 h7 (by assumption) | exact nn3 h5 (by assumption))⟩
    | (refine iff_of_false Bool.false_ne_true ?_
       rintro ⟨g0, g1, g2, g3, g4, g5⟩
       first
       | omega
       | exact nn1 h6 hb g1
       | exact nn1 h7 hb g2)
set_option maxHeartbeats 8000000 in
theorem implHdEH {k n kn : Int} {name arg lit : List Int} {kl al : Nat} {KC AC : List AV} {b1 b2 b3 b4 fk : Bool} (hc : k = 0 ∨ k = 8 ∨ k = 9 ∨ k = 10 ∨ k = 11 ∨ k = 12 ∨ k = 13 ∨ k = 14 ∨ k = 17) (s : Store) {rest : List AV} (hkn : 0 ≤ kn)
    (hkl : kl ≤ 1000000000) (hal : al ≤ 1000000000) (hkf : (k = 20 → 0 ≤ n ∧ n ≤ 4) → ∀ s, callF (tab tbl) prim 125 [.int .i64 k, .int .i64 n] s = some (.int .i64 kn, s))
    (hll : lit.length ≤ 1000000000)
    (h1 : ∀ s, callF (tab tbl) prim 46 [.str (bst name)] s = some (.bool b1, s)) (h2 : ∀ s, callF (tab tbl) prim 103 [.str (bst name)] s = some (.bool b2, s)) (h3 : ∀ s, callF (tab tbl) prim 46 [.str (bst arg)] s = some (.bool b3, s)) (h4 : ∀ fl s, callF (tab tbl) prim 124 [.imm fl lit.length (by8 lit)] s = some (.bool b4, s))
    (h5 : ((bst arg).toList == (bst name).toList) = decide (arg = name)) (h6 : ((bst name).toList == (⟨#[]⟩ : ByteArray).toList) = decide (name.length = 0)) (h7 : ((bst arg).toList == (⟨#[]⟩ : ByteArray).toList) = decide (arg.length = 0)) :
    ∃ v s', callF (tab tbl) prim 74 [.eptr ([.int .i64 k, .int .i64 n, .imm false name.length (by8 name), .imm false arg.length (by8 arg), .imm false lit.length (by8 lit), .imm false kl KC, .imm false al AC] ++ rest)] s = some (v, s') ∧ ∃ b : Bool, v = .bool b ∧ s' = s ∧ (b = true ↔ n = 0 ∧ name.length = 0 ∧ arg.length = 0 ∧ lit.length = 0 ∧ al = 0 ∧ (kl : Int) = kn) := by
  have t1:=toB8 name
  have t2:=toB8 arg
  have l1:=by8_len name
  have l2:=by8_len arg
  have hkg:=hkf (fun h=>by omega)
  refine funZ rfl (argsF rfl (frzs_cons frz_eptr frzs_nil)) zt ?_
  repeat' (first|refine zw ?_|refine zn (fun hb=>?_) (fun hb=>?_)|refine zx ?_|refine zof (zA @implWithin (zA @implNumber (zA @implNamed (zA @h1 (zA @h2 (zA @h3 (zA @h4 (zA @h5 (zA @h6 (zA @h7 (zA @t1 (zA @t2 (zA @l1 (zA @l2 (zA (@List.drop_zero AV) (zA (@List.drop_drop AV) (@hkg))))))))))))))))) ?_|exact zi|fail)
  all_goals
    refine ⟨_,rfl,rfl,?_⟩
    first
    | exact iff_of_true rfl ⟨by (first | assumption | omega | exact nn0 h6 (by assumption) | exact nn0 h7 (by assumption) | exact nn3 h5 (by assumption)), by (first | assumption | omega | exact nn0 h6 (by assumption) | exact nn0 h7 (by assumption) | exact nn3 h5 (by assumption)), by (first | assumption | omega | exact nn0 h6 (by assumption) | exact nn0 h7 (by assumption) | exact nn3 h5 (by assumption)), by (first | assumption | omega | exact nn0 h6 (by assumption) | exact nn0 h7 (by assumption) | exact nn3 h5 (by assumption)), by (first | assumption | omega | exact nn0 h6 (by assumption) | exact nn0 h7 (by assumption) | exact nn3 h5 (by assumption)), by (first | assumption | omega | exact nn0 h6 (by assumption) | exact nn0 h7 (by assumption) | exact nn3 h5 (by assumption))⟩
    | (refine iff_of_false Bool.false_ne_true ?_
       rintro ⟨g0, g1, g2, g3, g4, g5⟩
       first
       | omega
       | exact nn1 h6 hb g1
       | exact nn1 h7 hb g2)
set_option maxHeartbeats 8000000 in
theorem implHdEI {k n kn : Int} {name arg lit : List Int} {kl al : Nat} {KC AC : List AV} {b1 b2 b3 b4 fk : Bool} (hc : k < 0 ∨ 20 < k) (s : Store) {rest : List AV}
    (hkl : kl ≤ 1000000000) (hal : al ≤ 1000000000) (hkf : (k = 20 → 0 ≤ n ∧ n ≤ 4) → ∀ s, callF (tab tbl) prim 125 [.int .i64 k, .int .i64 n] s = some (.int .i64 kn, s))
    (hll : lit.length ≤ 1000000000)
    (h1 : ∀ s, callF (tab tbl) prim 46 [.str (bst name)] s = some (.bool b1, s)) (h2 : ∀ s, callF (tab tbl) prim 103 [.str (bst name)] s = some (.bool b2, s)) (h3 : ∀ s, callF (tab tbl) prim 46 [.str (bst arg)] s = some (.bool b3, s)) (h4 : ∀ fl s, callF (tab tbl) prim 124 [.imm fl lit.length (by8 lit)] s = some (.bool b4, s))
    (h5 : ((bst arg).toList == (bst name).toList) = decide (arg = name)) (h6 : ((bst name).toList == (⟨#[]⟩ : ByteArray).toList) = decide (name.length = 0)) (h7 : ((bst arg).toList == (⟨#[]⟩ : ByteArray).toList) = decide (arg.length = 0)) :
    ∃ v s', callF (tab tbl) prim 74 [.eptr ([.int .i64 k, .int .i64 n, .imm false name.length (by8 name), .imm false arg.length (by8 arg), .imm false lit.length (by8 lit), .imm false kl KC, .imm false al AC] ++ rest)] s = some (v, s') ∧ ∃ b : Bool, v = .bool b ∧ s' = s ∧ (b = true ↔ False) := by
  have t1:=toB8 name
  have t2:=toB8 arg
  have l1:=by8_len name
  have l2:=by8_len arg
  refine funZ rfl (argsF rfl (frzs_cons frz_eptr frzs_nil)) zt ?_
  repeat' (first|refine zw ?_|refine zn (fun hb=>?_) (fun hb=>?_)|refine zx ?_|refine zof (zA @implWithin (zA @implNumber (zA @implNamed (zA @h1 (zA @h2 (zA @h3 (zA @h4 (zA @h5 (zA @h6 (zA @h7 (zA @t1 (zA @t2 (zA @l1 (zA @l2 (zA (@List.drop_zero AV) (@List.drop_drop AV)))))))))))))))) ?_|exact zi|fail)
  all_goals
    refine ⟨_,rfl,rfl,?_⟩
    first
    | (refine iff_of_false Bool.false_ne_true ?_
       exact id)
end Go.Proofs.YtkjonfojileipaaGreatDoor.Gq
