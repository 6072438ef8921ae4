/- Heads of expressions: literals, numbers, how many parts, for the program and for the reference. -/
import Derived.Test.YtkjonfojileipaaGreatDoorW4
set_option linter.unusedSimpArgs false
set_option linter.unusedVariables false
namespace Go.Proofs.YtkjonfojileipaaGreatDoor.Gq
open Go Go.Proofs Go.Proofs.YtkjonfojileipaaGreatDoor.Ae
attribute [local congr] obind_congr
attribute [local push_cast] exF argsV frzs frz frzL frz1 exS_reg exS_seq exS_cond exS_alt exS_block exS_loop exS_exit exS_ret exS_skip evReg evOps evOne evAct evOp rd putV st0 evEnd resV resL resOne oneOr frzR loadV storeV binV binI unV push_frm pop_frm frm_len frm_top frm_get_top frm_set_top frm_new AV.cells AV.lowB AV.lowL AV.isCell cellsOk set_len Option.bind_some Option.map_some Option.map_none List.getD_cons_zero List.getD_cons_succ List.nil_append List.cons_append List.append_nil List.length_cons List.length_nil List.set_cons_zero List.set_cons_succ List.map_cons List.map_nil List.replicate if_true if_false ite_true ite_false ite_self Bool.false_eq_true List.all_cons List.all_nil Bool.and_true Bool.true_and Bool.and_self Bool.and_eq_true List.getElem?_cons_zero List.getElem?_cons_succ List.drop_succ_cons List.drop_zero List.take_succ_cons List.take_zero true_and and_true and_self decide_true decide_false Bool.not_true Bool.not_false Prod.mk.injEq Option.some.injEq List.getElem?_drop optInt elems sliceV partsOf Nat.add_zero Nat.zero_add Nat.mul_one beq_self_eq_true litParts Bool.or_false Bool.false_or Bool.or_true Bool.true_or Bool.false_and Bool.and_false List.cons.injEq not_false_eq_true not_true_eq_false Nat.zero_le Nat.le_refl gt_iff_lt ge_iff_le List.drop_nil List.take_nil newBox List.length_append List.length_map bne_self_eq_false eq_self Nat.lt_add_one ne_eq false_implies Int.le_refl
theorem frz_eptr {s : Store} {cs : List AV} : frz s (.eptr cs) = some (.eptr cs, s) := rfl
def litC (c : Int) : Bool := decide (32 ≤ c ∧ c ≤ 126 ∧ c ≠ 34 ∧ c ≠ 92)
def litB (l : List Int) : Bool := decide (l.length ≤ 20) && l.all litC
theorem implLitC (c : Int) (s : Store) : callF (tab tbl) prim 178 [.int .u8 c] s = some (.bool (!litC c), s) := by
  have h:(!litC c) = decide (¬ (32 ≤ c∧c ≤ 126∧c ≠ 34∧c ≠ 92)):=by unfold litC; simp
  rw [h]
  refine dec_of ?_
  refine funZ rfl za zt ?_
  repeat' (first|refine zw ?_|refine zn (fun hb=>?_) (fun hb=>?_)|refine zx ?_|refine zo ?_|exact zi|fail)
  all_goals exact zl
theorem implLit {l : List Int} (hl : l.length ≤ 9223372036854775807) (fl : Bool) (s : Store) : callF (tab tbl) prim 124 [.imm fl l.length (by8 l)] s = some (.bool (litB l), s) := by
  have hcf:∀ s:Store,callF (tab tbl) prim 177 [.imm false l.length (by8 l),.fn 178 [] []] s = some (.bool (l.any fun c=>!litC c),s):=fun s =>
    cf_ok (i := 193) rfl (fun _ => rfl) (fun _ => rfl) (ixC_ok (ev := AV.int .u8) rfl (fun _ => rfl) (fun x _ => implLitC x _) hl)
  have e:litB l = (decide (l.length ≤ 20) && !(l.any fun c=>!litC c)):=by unfold litB; rw [List.all_eq_not_any_not]
  rw [e]
  generalize (l.any fun c=>!litC c) = b at *
  refine funY rfl (zaf @hcf) zt ?_
  repeat' (first|refine zw ?_|refine zn (fun hb=>?_) (fun hb=>?_)|refine zx ?_|refine zof @hcf ?_|exact zi|fail)
  all_goals
    refine isI (congrArg AV.bool ?_) rfl
    first
    | (rw [decide_eq_true (show l.length ≤ 20 by omega)]; cases b <;> first | rfl | contradiction)
    | (rw [decide_eq_false (show ¬ l.length ≤ 20 by omega)]; rfl)
theorem litB_iff {l : List Int} : litB l = true ↔ l.length ≤ 20 ∧ ∀ x ∈ l, (!litC x) = false := by
  unfold litB
  simp
theorem specLit {l : List Int} (hl : l.length ≤ 9223372036854775807) (fl : Bool) (s : Store) : callF (tab tbl) prim 65 [.imm fl l.length (by8 l)] s = some (.bool (litB l), s) := by
  unfold by8
  refine funY rfl za zt ?_
  repeat' (first|refine zw ?_|refine zn (fun hb=>?_) (fun hb=>?_)|refine zx ?_|refine zo ?_|exact zi|fail)
  · exact isI (congrArg AV.bool (Bool.eq_false_iff.2 fun h => by have := (litB_iff.1 h).1; omega).symm) rfl
  · refine wLoop (fun m st => ∃ (q : Nat) (y3 y4 y5 : AV), (m : Int) = l.length - q ∧ q ≤ l.length ∧ (∀ x ∈ l.take q, (!litC x) = false) ∧
      st = ⟨[.imm false l.length (l.map (AV.int .u8)), .bool false, .int .i64 q, y3, y4, y5], frm s []⟩) l.length ?_ ?_
    · exact ⟨0, _, _, _, by omega, by omega, by simp, rfl⟩
    · rintro m st ⟨q, y3, y4, y5, hm, hq, hok, rfl⟩
      by_cases hlt:q < l.length
      · obtain ⟨ha1, ha2⟩ := map_at (ev := AV.int .u8) hlt
        have hmem:=List.getElem_mem hlt
        have htk:=fun h=>take_all (p:=fun x=>!litC x) hlt hok h
        have hno:litC l[q] = false→¬ litB l = true:=fun h h2=>by
          have:=(litB_iff.1 h2).2 _ hmem
          rw [h] at this
          cases this
        have hC:litC l[q] = true ↔ (32 ≤ l[q]∧l[q] ≤ 126∧l[q] ≠ 34∧l[q] ≠ 92):=by unfold litC; rw [decide_eq_true_eq]
        generalize litC l[q] = b at *
        generalize l[q] = c at *
        repeat' (first|refine zw ?_|refine zn (fun hb=>?_) (fun hb=>?_)|refine zx ?_|refine zof (zA @ha1 (@ha2)) ?_|exact zi|fail)
        all_goals first
          | (refine isI (congrArg AV.bool (Bool.eq_false_iff.2 (hno ?_)).symm) rfl
             rw [Bool.eq_false_iff]
             intro h
             have:=hC.1 h
             omega)
          | (refine loopNor (m - 1) (by omega) ⟨q + 1, _, _, _, by omega, by omega, htk ?_, rfl⟩
             rw [hC.2 ⟨by omega,by omega,by omega,by omega⟩]
             rfl)
      · obtain rfl : q = l.length := by omega
        rw [List.take_length] at hok
        repeat' (first|refine zw ?_|refine zn (fun hb=>?_) (fun hb=>?_)|refine zx ?_|refine zo ?_|exact zi|fail)
        all_goals exact isI (congrArg AV.bool (litB_iff.2 ⟨by omega, hok⟩).symm) rfl

def kidsN (k n : Int) : Int :=
  if k = 4 ∨ k = 10 ∨ k = 11 ∨ k = 12 ∨ k = 13 ∨ k = 17 ∨ k = 16 then 1
  else if k = 5 ∨ k = 6 ∨ k = 7 ∨ k = 9 ∨ k = 14 ∨ k = 18 then 2
  else if k = 8 then 3 else if k = 15 then -1
  else if k = 19 then (if n = 6 then 1 else 2)
  else if k = 20 then (if n = 1 then 0 else if n = 4 then 2 else 1) else 0
set_option maxHeartbeats 4000000 in
theorem implKids (k n : Int) (h20 : k = 20 → 0 ≤ n ∧ n ≤ 4) (s : Store) : callF (tab tbl) prim 125 [.int .i64 k, .int .i64 n] s = some (.int .i64 (kidsN k n), s) := by
  by_cases hk:k = 20
  · have hn := h20 hk
    subst hk
    have hn5:n = 0 ∨ n = 1 ∨ n = 2 ∨ n = 3 ∨ n = 4:=by omega
    rcases hn5 with rfl | rfl | rfl | rfl | rfl
    all_goals
      refine funY rfl za zt ?_
      repeat' (first|refine zw ?_|refine zn (fun hb=>?_) (fun hb=>?_)|refine zx ?_|refine zo ?_|exact zi|fail)
      all_goals exact isI (congrArg (AV.int .i64) (by unfold kidsN; (repeat' split) <;> omega)) rfl
  · refine funY rfl za zt ?_
    repeat' (first|refine zw ?_|refine zn (fun hb=>?_) (fun hb=>?_)|refine zx ?_|refine zo ?_|exact zi|fail)
    all_goals exact isI (congrArg (AV.int .i64) (by unfold kidsN; (repeat' split) <;> omega)) rfl
abbrev numP (k n : Int) : Prop := (k = 1 ∧ -1073741824 ≤ n ∧ n ≤ 1073741823) ∨ (k = 19 ∧ 0 ≤ n ∧ n ≤ 6) ∨ (k = 20 ∧ 0 ≤ n ∧ n ≤ 4) ∨ (k ≠ 1 ∧ k ≠ 19 ∧ k ≠ 20 ∧ n = 0)
theorem implNumber (k n : Int) (s : Store) : callF (tab tbl) prim 122 [.int .i64 k, .int .i64 n] s = some (.bool (decide (numP k n)), s) := by
  refine dec_of ?_
  refine funZ rfl (zaf (zA @implWhole (@implWithin))) zt ?_
  repeat' (first|refine zw ?_|refine zn (fun hb=>?_) (fun hb=>?_)|refine zx ?_|refine zof (zA @implWhole (@implWithin)) ?_|exact zi|fail)
  all_goals exact zl
abbrev namK (k : Int) : Prop := k = 3 ∨ k = 4 ∨ k = 6 ∨ k = 7 ∨ k = 18
theorem implNamed (k : Int) (s : Store) : callF (tab tbl) prim 123 [.int .i64 k] s = some (.bool (decide (namK k)), s) := by
  have hc:∀ s:Store,callF (tab tbl) prim 176 [.imm false 5 [.int .i64 3,.int .i64 4,.int .i64 6,.int .i64 7,.int .i64 18],.int .i64 k] s = some (.bool (decide (namK k)),s):=fun s=>by
    have hi:=fun s=>ixI_ok (T:=tab tbl) (prim:=prim) (g:=192) (l:=[3,4,6,7,18]) (fl:=false) (v:=k) (s:=s) rfl (by decide)
    have:=ct_ok (g:=176) (s:=s) rfl (fun _=>rfl) (fun _=>rfl) hi
    rw [show (decide (namK k)) = ([3,4,6,7,18]:List Int).any (fun x=>k == x) from ?_]
    · exact this
    · unfold namK
      rw [Bool.eq_iff_iff]
      simp
  generalize decide (namK k) = b at *
  have hh:callF (tab tbl) prim 176 [.imm true 5 [.int .i64 3,.int .i64 4,.int .i64 6,.int .i64 7,.int .i64 18],.int .i64 k] (frm s []) = some (.bool b,frm s []):=callF_frz (fc:=c176) rfl rfl (frzs_cons (frz_imm (f:=true)) (frzs_cons frz_int frzs_nil)) (frzs_cons frz_imm (frzs_cons frz_int frzs_nil)) (hc (frm s []))
  refine funY rfl (zaf @hh) zt ?_
  repeat' (first|refine zw ?_|refine zn (fun hb=>?_) (fun hb=>?_)|refine zx ?_|refine zof @hh ?_|exact zi|fail)
  all_goals exact isI (congrArg AV.bool hb.symm) rfl
abbrev shK (k n : Int) : Prop := 0 ≤ k ∧ k ≤ 20 ∧ (k = 19 → 0 ≤ n ∧ n ≤ 6) ∧ (k = 20 → 0 ≤ n ∧ n ≤ 4)
set_option maxHeartbeats 4000000 in
theorem specShape (k n : Int) {n3 n4 n5 n7 : Nat} {c3 c4 c5 c7 : List AV} (cs : List AV) {len : Nat} (hlen : len ≤ 9223372036854775807) (s : Store) :
    ∃ v s', callF (tab tbl) prim 63 [.agg [.int .i64 k, .int .i64 n, .imm false n3 c3, .imm false n4 c4, .imm false n5 c5, .imm false len cs, .imm false n7 c7]] s = some (v, s') ∧
      ∃ (a : Int) (b c : Bool), v = .tup [.int .i64 a, .bool b, .bool c] ∧ s' = s ∧ ((shK k n ∧ k ≠ 15 ∧ a = kidsN k n) ∨ (k = 15 ∧ a = len) ∨ (¬ shK k n ∧ a = -1)) ∧ (b = true ↔ shK k n ∧ (namK k ∨ k = 15)) ∧ (c = true ↔ k = 7) := by
  refine funZ rfl za zt ?_
  repeat' (first|refine zw ?_|refine zn (fun hb=>?_) (fun hb=>?_)|refine zx ?_|refine zo ?_|exact zi|fail)
  all_goals
    refine ⟨_,_,_,rfl,rfl,(by unfold kidsN; (repeat' split) <;> omega),?_,?_⟩
    all_goals first
    | exact iff_of_true rfl (by omega)
    | exact iff_of_false Bool.false_ne_true (by omega)
end Go.Proofs.YtkjonfojileipaaGreatDoor.Gq
