/- NamesOk of the program and of the reference; the law FnExactNamesOk, of all sources. -/
import Derived.Test.YtkjonfojileipaaGreatDoorV19
import Derived.Test.YtkjonfojileipaaGreatDoorV23
import Derived.Test.YtkjonfojileipaaGreatDoorV24
set_option linter.unusedSimpArgs false
set_option linter.unusedVariables false
namespace Go.Proofs.YtkjonfojileipaaGreatDoor.Gq
open Go Go.Proofs Go.Proofs.YtkjonfojileipaaGreatDoor.Ae
attribute [local congr] obind_congr
attribute [local push_cast] exF argsV frzs frz frzL frz1 exS_reg exS_seq exS_cond exS_alt exS_block exS_loop exS_exit exS_ret exS_skip evReg evOps evOne evAct evOp rd putV st0 evEnd resV resL resOne oneOr frzR loadV storeV binV binI unV push_frm pop_frm frm_len frm_top frm_get_top frm_set_top frm_new AV.cells AV.lowB AV.lowL AV.isCell cellsOk set_len Option.bind_some Option.map_some Option.map_none List.getD_cons_zero List.getD_cons_succ List.nil_append List.cons_append List.append_nil List.length_cons List.length_nil List.set_cons_zero List.set_cons_succ List.map_cons List.map_nil List.replicate if_true if_false ite_true ite_false ite_self Bool.false_eq_true List.all_cons List.all_nil Bool.and_true Bool.true_and Bool.and_self Bool.and_eq_true List.getElem?_cons_zero List.getElem?_cons_succ List.drop_succ_cons List.drop_zero List.take_succ_cons List.take_zero true_and and_true and_self decide_true decide_false Bool.not_true Bool.not_false Prod.mk.injEq Option.some.injEq List.getElem?_drop optInt elems sliceV partsOf Nat.add_zero Nat.zero_add Nat.mul_one beq_self_eq_true litParts Bool.or_false Bool.false_or Bool.or_true Bool.true_or Bool.false_and Bool.and_false List.cons.injEq not_false_eq_true not_true_eq_false Nat.zero_le Nat.le_refl gt_iff_lt ge_iff_le List.drop_nil List.take_nil newBox List.length_append List.length_map bne_self_eq_false eq_self Nat.lt_add_one ne_eq false_implies Int.le_refl
def namP (s : Sr) : Prop := srcP s ∧ scP s.datas [] s.body
noncomputable instance (s : Sr) : Decidable (namP s) := Classical.propDecidable _
theorem inFrm2 {f : Nat} {az : List AV} {b : Bool} (h : ∀ s, ∃ v s', callF (tab tbl) prim f az s = some (v, s') ∧ v = .bool b ∧ (s' = s ∨ ∃ o, s' = s.new0 o)) (s : Store) (T : List Ae.Obj) :
    ∃ v s', callF (tab tbl) prim f az (frm s T) = some (v, s') ∧ v = .bool b ∧ ∃ s2, s' = frm s2 T ∧ s2.low.length = s.low.length ∧ (s2 = s ∨ ∃ o, s2 = s.new0 o) := by
  obtain ⟨v,s',e,h1,h2⟩:=h (frm s T)
  refine ⟨v,s',e,h1,?_⟩
  rcases h2 with rfl | ⟨o, rfl⟩
  · exact ⟨s, rfl, rfl, .inl rfl⟩
  · exact ⟨s.new0 o, frm_new0 s T o, new0_len s o, .inr ⟨o, rfl⟩⟩
theorem src_okN {src : Sr} (ho : src.ok) : okN src.datas := fun d hd => ⟨(ho.1.2 d hd).1, fun c hc => ((ho.1.2 d hd).2.2.2 c hc).1⟩
theorem src_lens {src : Sr} (hsz : src.sz ≤ 10000000) : src.datas.length ≤ 1000000000 ∧ (∀ d ∈ src.datas, d.cons.length ≤ 1000000000) ∧ src.body.sz ≤ 1000000000 := by
  simp only [Sr.sz] at hsz
  refine ⟨by have:=sizes_len Dt.sz src.datas; omega,fun d hd=>?_,by omega⟩
  have h1:=sizes_mem Dt.sz hd
  simp only [Dt.sz] at h1
  have h2:=sizes_len Con.sz d.cons
  omega
set_option maxHeartbeats 8000000 in
theorem implNamesIn {src : Sr} (ho : src.ok) (hsz : src.sz ≤ 10000000) (hx : xgd 1 src.body) (s : Store) :
    callF (tab tbl) prim 39 [.agg src.az] s = some (.bool (decide (scP src.datas [] src.body)), s) := by
  obtain ⟨h1,h2,h3⟩:=src_lens hsz
  have hsc:=implScope (src_okN ho) h1 h2 src.body ho.2 h3 1 hx
  obtain ⟨ds,body⟩:=src
  have hN:=hsc (.ptr (s.low.length + 1) 0 1) (frm s [.box 38 (.imm false ds.length (ds.flatMap Dt.az) :: body.az)]) true [] (ptrAt_b (rest:=[]) (i:=0) (t:=38) (all:=.imm false ds.length (ds.flatMap Dt.az) :: body.az) rfl (by simp)) (by simp) (by simp)
  simp only [List.length_nil,List.map_nil] at hN
  generalize decide (scP ds [] body) = b at *
  obtain ⟨k,n,name,arg,lit,kids,arms⟩:=body
  simp only [Sr.az,az_zcs] at hN ⊢
  refine funY rfl (zaf @hN) zt ?_
  repeat' (first|refine zw ?_|refine zn (fun hb=>?_) (fun hb=>?_)|refine zx ?_|refine zof @hN ?_|exact zi|fail)
  all_goals exact isI (congrArg AV.bool hb.symm) rfl
set_option maxHeartbeats 16000000 in
theorem implNames {src : Sr} (ho : src.ok) (hsz : src.sz ≤ 10000000) (s : Store) :
    ∃ v s', callF (tab tbl) prim 14 [.agg src.az] s = some (v, s') ∧ v = .bool (decide (namP src)) ∧ (s' = s ∨ ∃ o, s' = s.new0 o) := by
  have hS:=fun s T=>inFrm2 (implSource ho hsz) s T
  have hI:=implNamesIn ho hsz
  have hn:∀ h:namP src,srcP src∧scP src.datas [] src.body:=fun h=>h
  obtain ⟨ds,body⟩:=src
  obtain ⟨k,n,name,arg,lit,kids,arms⟩:=body
  by_cases hs:srcP ⟨ds,.mk k n name arg lit kids arms⟩
  · have hI := hI hs.2.1.1
    simp only [decide_eq_true hs] at hS
    simp only [Sr.az,az_zcs] at hS hI ⊢
    refine funZ rfl (zaf @hI) zt ?_
    repeat' (first|refine zw ?_|refine zn (fun hb=>?_) (fun hb=>?_)|refine zx ?_|(refine zk (hS _ _) ?_; rintro _ _ ⟨rfl, s2, rfl, hl2, ho2⟩)|refine zof @hI ?_|exact zi|fail)
    all_goals
      refine ⟨?_,ho2⟩
      congr 1
      first
      | exact (decide_eq_true (show namP _ from ⟨hs, hb⟩)).symm
      | exact (decide_eq_false fun h => hb (hn h).2).symm
  · simp only [decide_eq_false hs] at hS
    simp only [Sr.az,az_zcs] at hS ⊢
    refine funZ rfl za zt ?_
    repeat' (first|refine zw ?_|refine zn (fun hb=>?_) (fun hb=>?_)|refine zx ?_|(refine zk (hS _ _) ?_; rintro _ _ ⟨rfl, s2, rfl, hl2, ho2⟩)|refine zo ?_|exact zi|fail)
    all_goals exact ⟨congrArg AV.bool (decide_eq_false fun h => hs (hn h).1).symm, ho2⟩
set_option maxHeartbeats 16000000 in
theorem specNames {src : Sr} (ho : src.ok) (hsz : src.sz ≤ 10000000) (s : Store) :
    ∃ v s', callF (tab tbl) prim 13 [.agg src.az] s = some (v, s') ∧ v = .bool (decide (namP src)) ∧ (s' = s ∨ ∃ o, s' = s.new0 o) := by
  have hS:=fun s T=>inFrm2 (specSource ho hsz) s T
  obtain ⟨h1,h2,h3⟩:=src_lens hsz
  have hsc:=fun hx=>specScope (src_okN ho) h1 h2 src.body ho.2 h3 1 hx
  have hn:∀ h:namP src,srcP src∧scP src.datas [] src.body:=fun h=>h
  obtain ⟨ds,body⟩:=src
  by_cases hs:srcP ⟨ds,body⟩
  · have hI := fun s => hsc hs.2.1.1 s true [] (by simp) (by simp)
    simp only [List.length_nil,List.map_nil] at hI
    simp only [decide_eq_true hs] at hS
    obtain ⟨k,n,name,arg,lit,kids,arms⟩:=body
    simp only [Sr.az,az_zcs] at hS hI ⊢
    refine funZ rfl (zaf @hI) zt ?_
    repeat' (first|refine zw ?_|refine zn (fun hb=>?_) (fun hb=>?_)|refine zx ?_|(refine zk (hS _ _) ?_; rintro _ _ ⟨rfl, s2, rfl, hl2, ho2⟩)|refine zof @hI ?_|exact zi|fail)
    all_goals
      refine ⟨?_,ho2⟩
      congr 1
      first
      | exact (decide_eq_true (show namP _ from ⟨hs, hb⟩)).symm
      | exact (decide_eq_false fun h => hb (hn h).2).symm
  · simp only [decide_eq_false hs] at hS
    obtain ⟨k,n,name,arg,lit,kids,arms⟩:=body
    simp only [Sr.az,az_zcs] at hS ⊢
    refine funZ rfl za zt ?_
    repeat' (first|refine zw ?_|refine zn (fun hb=>?_) (fun hb=>?_)|refine zx ?_|(refine zk (hS _ _) ?_; rintro _ _ ⟨rfl, s2, rfl, hl2, ho2⟩)|refine zo ?_|exact zi|fail)
    all_goals exact ⟨congrArg AV.bool (decide_eq_false fun h => hs (hn h).1).symm, ho2⟩
set_option maxHeartbeats 8000000 in
theorem law_nam {src : Sr} (ho : src.ok) (s : Store) : ∃ v s', callF (tab tbl) prim 4 [.agg src.az] s = some (v, s') ∧ v = .bool true := by
  have hz:=fun s=>szSource_ok (prim:=prim) src ho 1048576 s (by omega) (by omega)
  have hsp:=szr_spec 1048576 src.sz
  by_cases h:src.sz ≤ 1048576
  · have hT := fun s => toSource_ok (prim := prim) src (by omega) s
    have hE:=fun s=>eqSource_ok (prim:=prim) src (by omega) s
    have hS:=fun s T=>inFrm (specNames ho (by omega)) s T
    have hI:=fun s T=>inFrm (implNames ho (by omega)) s T
    generalize szr 1048576 src.sz = z at *
    generalize decide (namP src) = b at *
    obtain ⟨ds,⟨k,n,name,arg,lit,kids,arms⟩⟩:=src
    simp only [Sr.az,az_zcs] at hz hT hE hS hI ⊢
    refine funZ rfl (zaf (zA @hz (zA @hT (@hE)))) zt ?_
    repeat' (first|refine zw ?_|refine zn (fun hb=>?_) (fun hb=>?_)|refine zx ?_|(refine zk (hS _ _) ?_; rintro _ _ ⟨rfl, s2, rfl, hl2⟩)|(refine zk (hI _ _) ?_; rintro _ _ ⟨rfl, s3, rfl, hl3⟩)|refine zof (zA @hz (zA @hT (@hE))) ?_|exact zi|fail)
    all_goals first
      | rfl
      | (exfalso; omega)
      | (exfalso; simp_all; done)
  · generalize szr 1048576 src.sz = z at *
    obtain ⟨ds,⟨k,n,name,arg,lit,kids,arms⟩⟩:=src
    simp only [Sr.az,az_zcs] at hz ⊢
    refine funZ rfl (zaf @hz) zt ?_
    repeat' (first|refine zw ?_|refine zn (fun hb=>?_) (fun hb=>?_)|refine zx ?_|refine zof @hz ?_|exact zi|fail)
    all_goals first
      | rfl
      | (exfalso; omega)
end Go.Proofs.YtkjonfojileipaaGreatDoor.Gq
