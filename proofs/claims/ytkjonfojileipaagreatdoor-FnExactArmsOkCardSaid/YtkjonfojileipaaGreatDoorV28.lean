/- ArmsOk of the program and of the reference; the law FnExactArmsOk, of all sources. -/
import Derived.Test.YtkjonfojileipaaGreatDoorV25
import Derived.Test.YtkjonfojileipaaGreatDoorV27
set_option linter.unusedSimpArgs false
set_option linter.unusedVariables false
namespace Go.Proofs.YtkjonfojileipaaGreatDoor.Gq
open Go Go.Proofs Go.Proofs.YtkjonfojileipaaGreatDoor.Ae
attribute [local congr] obind_congr
attribute [local push_cast] exF argsV frzs frz frzL frz1 exS_reg exS_seq exS_cond exS_alt exS_block exS_loop exS_exit exS_ret exS_skip evReg evOps evOne evAct evOp rd putV st0 evEnd resV resL resOne oneOr frzR loadV storeV binV binI unV push_frm pop_frm frm_len frm_top frm_get_top frm_set_top frm_new AV.cells AV.lowB AV.lowL AV.isCell cellsOk set_len Option.bind_some Option.map_some Option.map_none List.getD_cons_zero List.getD_cons_succ List.nil_append List.cons_append List.append_nil List.length_cons List.length_nil List.set_cons_zero List.set_cons_succ List.map_cons List.map_nil List.replicate if_true if_false ite_true ite_false ite_self Bool.false_eq_true List.all_cons List.all_nil Bool.and_true Bool.true_and Bool.and_self Bool.and_eq_true List.getElem?_cons_zero List.getElem?_cons_succ List.drop_succ_cons List.drop_zero List.take_succ_cons List.take_zero true_and and_true and_self decide_true decide_false Bool.not_true Bool.not_false Prod.mk.injEq Option.some.injEq List.getElem?_drop optInt elems sliceV partsOf Nat.add_zero Nat.zero_add Nat.mul_one beq_self_eq_true litParts Bool.or_false Bool.false_or Bool.or_true Bool.true_or Bool.false_and Bool.and_false List.cons.injEq not_false_eq_true not_true_eq_false Nat.zero_le Nat.le_refl gt_iff_lt ge_iff_le List.drop_nil List.take_nil newBox List.length_append List.length_map bne_self_eq_false eq_self Nat.lt_add_one ne_eq false_implies Int.le_refl
set_option maxHeartbeats 16000000 in
theorem specArmsAll {ds : List Dt} (ho : okN ds) (hl : ds.length ≤ 1000000000) (hc : ∀ d ∈ ds, d.cons.length ≤ 1000000000) : ∀ e : Xp, e.ok → e.sz ≤ 1000000000 → ∀ d : Nat, xgd d e → ∀ seen, scP ds seen e → saC ds e := by
  refine Xp.ind fun k n name arg lit kids arms ih iha=>?_
  intro hok hsz d hg seen hsc s
  have hsz2:=hsz
  simp only [Xp.sz,szE_eq,szA_eq] at hsz2
  have hln:=sizes_len Xp.sz kids
  have hla:=sizes_len Arm.sz arms
  have hok2:=hok
  simp only [Xp.ok,okE_iff,okA_iff] at hok2
  obtain ⟨_,_,_,_,_,⟨_,hoe⟩,⟨_,hoa⟩⟩:=hok2
  rw [xgd,gdE_iff,gdA_iff] at hg
  obtain ⟨hd,hX,hgk,hga⟩:=hg
  rw [scP_mk] at hsc
  obtain ⟨_,_,hsk,hsa⟩:=hsc
  have hal6:arms.length ≤ 6∧(k ≠ 16→arms.length = 0):=by
    unfold hdX at hX
    omega
  obtain ⟨hal6,hal0⟩:=hal6
  have hk:∀ x ∈ kids,saC ds x:=fun x hx=>by
    obtain ⟨j,hj,rfl⟩:=List.mem_iff_getElem.1 hx
    exact ih _ hx (hoe _ hx) (by have:=sizes_mem Xp.sz hx; omega) (d + 1) (hgk _ hx) _ (hsk j hj)
  have hka:∀ x ∈ arms,saC ds x.body:=fun x hx=>by
    obtain ⟨sn2,h2⟩:=sc_body (hsa x hx)
    have h3:=hoa _ hx
    have h4:=hga _ hx
    have h5:=iha _ hx
    have h6:=sizes_mem Arm.sz hx
    obtain ⟨con,vars,body⟩:=x
    simp only [Arm.ok] at h3
    simp only [Arm.sz] at h6
    rw [agd] at h4
    simp only [Arm.body] at *
    exact h5 h3.2.2 (by omega) (d + 1) h4.2 _ h2
  have hokc:∀ a ∈ arms,okB a.con:=fun a ha=>by
    have h3:=hoa _ ha
    obtain ⟨con,vars,body⟩:=a
    simp only [Arm.ok] at h3
    exact h3.1
  have hf:∀ a ∈ arms,okB a.con∧(a.con.length ≠ 0→∃ i k,At a.con ds i k):=fun a ha=>⟨hokc a ha,sc_arms hsa a ha⟩
  have hD:=fun s=>specDataOf (f:=false) (g:=false) ho hl hc (by omega) hf s
  have hS:=amP_mk (ds:=ds) (k:=k) (n:=n) (name:=name) (arg:=arg) (lit:=lit) (kids:=kids) (arms:=arms)
  have hKL:=@saKids ds name k n arg lit kids arms s (by omega) hk
  have hAL:=@saArms ds name k n arg lit kids arms s hokc (by omega) hka
  have hT:(k = 16→armsP ds arms)→(∀ x ∈ kids,amP ds x)→(∀ a ∈ arms,amP ds a.body)→decide (amP ds (.mk k n name arg lit kids arms)) = true:=fun h1 h2 h3=>decide_eq_true (hS.2 ⟨h1,h2,h3⟩)
  have hN0:k = 16→¬ armsP ds arms→decide (amP ds (.mk k n name arg lit kids arms)) = false:=fun h h2=>decide_eq_false fun h3=>h2 ((hS.1 h3).1 h)
  have hN1:(∃ x ∈ kids,¬ amP ds x)→decide (amP ds (.mk k n name arg lit kids arms)) = false:=fun ⟨x,hx,h2⟩=>decide_eq_false fun h3=>h2 ((hS.1 h3).2.1 x hx)
  have hN2:(∃ x ∈ arms,¬ amP ds x.body)→decide (amP ds (.mk k n name arg lit kids arms)) = false:=fun ⟨x,hx,h2⟩=>decide_eq_false fun h3=>h2 ((hS.1 h3).2.2 x hx)
  rw [az_zcs]
  generalize decide (amP ds (.mk k n name arg lit kids arms)) = b at *
  refine funY rfl (argsF rfl (frzs_cons frz_imm (frzs_cons (frz_agg (frzL_cons frz1_int (frzL_cons frz1_int (frzL_cons frz1_imm (frzL_cons frz1_imm (frzL_cons frz1_imm (frzL_cons frz1_imm (frzL_cons frz1_imm frzL_nil)))))))) frzs_nil))) zt ?_
  repeat' (first|refine zw ?_|refine zn (fun hb=>?_) (fun hb=>?_)|refine zx ?_|refine zo ?_|exact zi|fail)
  refine Wp.mono (hKL _ _ _ _ _ _ _ _ _ _ _ _ _ _ _) ?_
  rintro e st (⟨rfl, hall, y4, y11, y12, rfl⟩ | ⟨rfl, hbad, y4, y11, y12, rfl⟩)
  · by_cases h16 : k = 16
    · by_cases hdat : ∀ j, ¬ adP ds arms j
      · have hD : ∀ s, callF (tab tbl) prim 109 [.imm false ds.length (ds.flatMap Dt.az), .imm false arms.length (arms.flatMap Arm.az)] s = some (.int .i64 (-1), s) := fun s => by
          obtain ⟨v,s',e,rfl,⟨rfl,_⟩ | ⟨i,rfl,_,h⟩⟩:=hD s
          · exact e
          · exact absurd h (hdat i)
        rw [hN0 h16 fun ⟨j,_,h,_⟩=>hdat j h]
        repeat' (first|refine zw ?_|refine zn (fun hb=>?_) (fun hb=>?_)|refine zx ?_|refine zof @hD ?_|exact zi|fail)
      · obtain ⟨i, hi, had⟩ : ∃ i : Nat, i < ds.length ∧ adP ds arms i := by
          obtain ⟨v,s',e,rfl,⟨rfl,h⟩ | ⟨i,rfl,h⟩⟩:=hD s
          · exact absurd h hdat
          · exact ⟨i, h⟩
        have hD:∀ s,callF (tab tbl) prim 109 [.imm false ds.length (ds.flatMap Dt.az),.imm false arms.length (arms.flatMap Arm.az)] s = some (.int .i64 i,s):=fun s=>by
          obtain ⟨v,s',e,rfl,⟨rfl,h⟩ | ⟨i2,rfl,_,h⟩⟩:=hD s
          · exact absurd h hdat
          · obtain rfl := h.one had
            exact e
        have hca:=(dt_at hi).2.2
        have hcl:=hc _ (List.getElem_mem hi)
        have hA:armsP ds arms ↔ spP1 arms∧spP2 arms ds[i].cons.length:=by
          rw [← spP_iff hi had (sc_arms hsa)]
          exact ⟨fun ⟨j,hj,h1,h2⟩=>by obtain rfl:=had.one h1; exact h2,fun h=>⟨i,hi,had,h⟩⟩
        have hlen:0 < arms.length:=List.length_pos_iff.2 fun h=>by obtain ⟨a,ha,_⟩:=had.1; rw [h] at ha; cases ha
        generalize ds[i].cons = cs at *
        repeat' (first|refine zw ?_|refine zn (fun hb=>?_) (fun hb=>?_)|refine zx ?_|refine zof @hD ?_|exact zi|fail)
        all_goals first
          | (exfalso; omega)
          | skip
        refine Wp.mono (hAL _ _ _ _ _ _ _ _ _ _ _ _ _) ?_
        rintro e st (⟨rfl, hall2, rest, c, y4, y8, y9, y10, y11, y12, y13, y14, y15, y16, y17, y18, y19, hQ, rfl⟩ | ⟨rfl, hbad, y4, y5, y6, y7, y8, y9, y10, y11, y12, y13, y14, y15, y16, y17, y18, y19, rfl⟩)
        · have hw := hQ.whole (n := cs.length) hlen
          cases rest with
          | true =>
            repeat' (first|refine zw ?_|refine zn (fun hb=>?_) (fun hb=>?_)|refine zx ?_|refine zof @hca ?_|exact zi|fail)
            all_goals
              refine isI (congrArg AV.bool ?_) rfl
              first
              | exact absurd hb Bool.noConfusion
              | exact (hT (fun _ => hA.2 ⟨hw.1, hw.2.2 (.inl ⟨rfl, by omega⟩)⟩) hall hall2).symm
              | exact (hN0 h16 fun h => by
                  rcases hw.2.1 (hA.1 h).2 with ⟨_, h2⟩ | ⟨h2, _⟩
                  · omega
                  · cases h2).symm
          | false =>
            repeat' (first|refine zw ?_|refine zn (fun hb=>?_) (fun hb=>?_)|refine zx ?_|refine zof @hca ?_|exact zi|fail)
            all_goals
              refine isI (congrArg AV.bool ?_) rfl
              first
              | exact absurd hb Bool.noConfusion
              | exact (hT (fun _ => hA.2 ⟨hw.1, hw.2.2 (.inr ⟨rfl, by omega⟩)⟩) hall hall2).symm
              | exact (hN0 h16 fun h => by
                  rcases hw.2.1 (hA.1 h).2 with ⟨h2, _⟩ | ⟨_, h2⟩
                  · cases h2
                  · omega).symm
        · have hb0 : b = false := by
            rcases hbad with h | h
            · exact hN0 h16 fun h2 => h (hA.1 h2).1
            · exact hN2 h
          rw [hb0]
          repeat' (first|refine zw ?_|refine zn (fun hb=>?_) (fun hb=>?_)|refine zx ?_|refine zo ?_|exact zi|fail)
    · have ha0 := hal0 h16
      rw [hT (fun h=>absurd h h16) hall fun a ha=>by obtain ⟨j,hj,rfl⟩:=List.mem_iff_getElem.1 ha; omega]
      repeat' (first|refine zw ?_|refine zn (fun hb=>?_) (fun hb=>?_)|refine zx ?_|refine zo ?_|exact zi|fail)
  · rw [hN1 hbad]
    repeat' (first|refine zw ?_|refine zn (fun hb=>?_) (fun hb=>?_)|refine zx ?_|refine zo ?_|exact zi|fail)
def armP' (s : Sr) : Prop := namP s ∧ amP s.datas s.body
noncomputable instance (s : Sr) : Decidable (armP' s) := Classical.propDecidable _
set_option maxHeartbeats 16000000 in
theorem implArmsOk {src : Sr} (ho : src.ok) (hsz : src.sz ≤ 10000000) (s : Store) :
    ∃ v s', callF (tab tbl) prim 26 [.agg src.az] s = some (v, s') ∧ v = .bool (decide (armP' src)) ∧ (s' = s ∨ ∃ o, s' = s.new0 o) := by
  have hS:=fun s T=>inFrm2 (implNames ho hsz) s T
  obtain ⟨h1,h2,h3⟩:=src_lens hsz
  have hn:∀ h:armP' src,namP src∧amP src.datas src.body:=fun h=>h
  by_cases hs:namP src
  · have hA := implArmsAll (src_okN ho) h1 h2 src.body ho.2 h3 1 hs.1.2.1.1 [] hs.2
    simp only [decide_eq_true hs] at hS
    obtain ⟨ds,body⟩:=src
    have hI:=fun (s2:Store) (h:s2.low.length = s.low.length)=>hA (.ptr (s.low.length + 1) 0 1) (frm s2 [.box 38 (.imm false ds.length (ds.flatMap Dt.az) :: body.az)]) (by rw [← h]; exact ptrAt_b (rest:=[]) (i:=0) (t:=38) (all:=.imm false ds.length (ds.flatMap Dt.az) :: body.az) rfl (by simp))
    simp only at hn hI
    obtain ⟨k,n,name,arg,lit,kids,arms⟩:=body
    simp only [Sr.az,az_zcs] at hS hI ⊢
    refine funZ rfl (zaf @hI) zt ?_
    repeat' (first|refine zw ?_|refine zn (fun hb=>?_) (fun hb=>?_)|refine zx ?_|(refine zk (hS _ _) ?_; rintro _ _ ⟨rfl, s2, rfl, hl2, ho2⟩)|refine zof @hI ?_|exact zi|fail)
    all_goals
      refine ⟨?_,ho2⟩
      congr 1
      first
      | exact (decide_eq_true (show armP' _ from ⟨hs, hb⟩)).symm
      | exact (decide_eq_false fun h => hb (hn h).2).symm
  · simp only [decide_eq_false hs] at hS
    obtain ⟨ds,⟨k,n,name,arg,lit,kids,arms⟩⟩:=src
    simp only [Sr.az,az_zcs] at hS ⊢
    refine funZ rfl za zt ?_
    repeat' (first|refine zw ?_|refine zn (fun hb=>?_) (fun hb=>?_)|refine zx ?_|(refine zk (hS _ _) ?_; rintro _ _ ⟨rfl, s2, rfl, hl2, ho2⟩)|refine zo ?_|exact zi|fail)
    all_goals exact ⟨congrArg AV.bool (decide_eq_false fun h => hs (hn h).1).symm, ho2⟩
set_option maxHeartbeats 16000000 in
theorem specArmsOk {src : Sr} (ho : src.ok) (hsz : src.sz ≤ 10000000) (s : Store) :
    ∃ v s', callF (tab tbl) prim 25 [.agg src.az] s = some (v, s') ∧ v = .bool (decide (armP' src)) ∧ (s' = s ∨ ∃ o, s' = s.new0 o) := by
  have hS:=fun s T=>inFrm2 (specNames ho hsz) s T
  obtain ⟨h1,h2,h3⟩:=src_lens hsz
  have hn:∀ h:armP' src,namP src∧amP src.datas src.body:=fun h=>h
  by_cases hs:namP src
  · have hI := specArmsAll (src_okN ho) h1 h2 src.body ho.2 h3 1 hs.1.2.1.1 [] hs.2
    simp only [decide_eq_true hs] at hS
    obtain ⟨ds,body⟩:=src
    unfold saC at hI
    simp only at hn hI
    obtain ⟨k,n,name,arg,lit,kids,arms⟩:=body
    simp only [Sr.az,az_zcs] at hS hI ⊢
    refine funZ rfl (zaf @hI) zt ?_
    repeat' (first|refine zw ?_|refine zn (fun hb=>?_) (fun hb=>?_)|refine zx ?_|(refine zk (hS _ _) ?_; rintro _ _ ⟨rfl, s2, rfl, hl2, ho2⟩)|refine zof @hI ?_|exact zi|fail)
    all_goals
      refine ⟨?_,ho2⟩
      congr 1
      first
      | exact (decide_eq_true (show armP' _ from ⟨hs, hb⟩)).symm
      | exact (decide_eq_false fun h => hb (hn h).2).symm
  · simp only [decide_eq_false hs] at hS
    obtain ⟨ds,⟨k,n,name,arg,lit,kids,arms⟩⟩:=src
    simp only [Sr.az,az_zcs] at hS ⊢
    refine funZ rfl za zt ?_
    repeat' (first|refine zw ?_|refine zn (fun hb=>?_) (fun hb=>?_)|refine zx ?_|(refine zk (hS _ _) ?_; rintro _ _ ⟨rfl, s2, rfl, hl2, ho2⟩)|refine zo ?_|exact zi|fail)
    all_goals exact ⟨congrArg AV.bool (decide_eq_false fun h => hs (hn h).1).symm, ho2⟩
set_option maxHeartbeats 8000000 in
theorem law_arm {src : Sr} (ho : src.ok) (s : Store) : ∃ v s', callF (tab tbl) prim 7 [.agg src.az] s = some (v, s') ∧ v = .bool true := by
  have hz:=fun s=>szSource_ok (prim:=prim) src ho 1048576 s (by omega) (by omega)
  have hsp:=szr_spec 1048576 src.sz
  by_cases h:src.sz ≤ 1048576
  · have hT := fun s => toSource_ok (prim := prim) src (by omega) s
    have hE:=fun s=>eqSource_ok (prim:=prim) src (by omega) s
    have hS:=fun s T=>inFrm (specArmsOk ho (by omega)) s T
    have hI:=fun s T=>inFrm (implArmsOk ho (by omega)) s T
    generalize szr 1048576 src.sz = z at *
    generalize decide (armP' src) = b at *
    obtain ⟨ds,⟨k,n,name,arg,lit,kids,arms⟩⟩:=src
    simp only [Sr.az,az_zcs] at hz hT hE hS hI ⊢
    refine funZ rfl (zaf (zA @hz (zA @hT (@hE)))) zt ?_
    repeat' (first|refine zw ?_|refine zn (fun hb=>?_) (fun hb=>?_)|refine zx ?_|(refine zk (hS _ _) ?_; rintro _ _ ⟨rfl, s2, rfl, hl2⟩)|(refine zk (hI _ _) ?_; rintro _ _ ⟨rfl, s3, rfl, hl3⟩)|refine zof (zA @hz (zA @hT (@hE))) ?_|exact zi|fail)
    all_goals first
      | rfl
      | (exfalso; omega)
      | (exfalso; simp_all; done)
  · generalize szr 1048576 src.sz = z at *
    obtain ⟨ds,⟨k,n,name,arg,lit,kids,arms⟩⟩:=src
    simp only [Sr.az,az_zcs] at hz ⊢
    refine funZ rfl (zaf @hz) zt ?_
    repeat' (first|refine zw ?_|refine zn (fun hb=>?_) (fun hb=>?_)|refine zx ?_|refine zof @hz ?_|exact zi|fail)
    all_goals first
      | rfl
      | (exfalso; omega)
end Go.Proofs.YtkjonfojileipaaGreatDoor.Gq
