/- What an arm is, for the reference. The two loops of the reference's l5expr (MADE BY PROGRAM: mksr.py). -/
import Derived.Test.YtkjonfojileipaaGreatDoorV9
set_option linter.unusedSimpArgs false
set_option linter.unusedVariables false
namespace Go.Proofs.YtkjonfojileipaaGreatDoor.Gq
open Go Go.Proofs Go.Proofs.YtkjonfojileipaaGreatDoor.Ae
attribute [local congr] obind_congr
attribute [local push_cast] exF argsV frzs frz frzL frz1 exS_reg exS_seq exS_cond exS_alt exS_block exS_loop exS_exit exS_ret exS_skip evReg evOps evOne evAct evOp rd putV st0 evEnd resV resL resOne oneOr frzR loadV storeV binV binI unV push_frm pop_frm frm_len frm_top frm_get_top frm_set_top frm_new AV.cells AV.lowB AV.lowL AV.isCell cellsOk set_len Option.bind_some Option.map_some Option.map_none List.getD_cons_zero List.getD_cons_succ List.nil_append List.cons_append List.append_nil List.length_cons List.length_nil List.set_cons_zero List.set_cons_succ List.map_cons List.map_nil List.replicate if_true if_false ite_true ite_false ite_self Bool.false_eq_true List.all_cons List.all_nil Bool.and_true Bool.true_and Bool.and_self Bool.and_eq_true List.getElem?_cons_zero List.getElem?_cons_succ List.drop_succ_cons List.drop_zero List.take_succ_cons List.take_zero true_and and_true and_self decide_true decide_false Bool.not_true Bool.not_false Prod.mk.injEq Option.some.injEq List.getElem?_drop optInt elems sliceV partsOf Nat.add_zero Nat.zero_add Nat.mul_one beq_self_eq_true litParts Bool.or_false Bool.false_or Bool.or_true Bool.true_or Bool.false_and Bool.and_false List.cons.injEq not_false_eq_true not_true_eq_false Nat.zero_le Nat.le_refl gt_iff_lt ge_iff_le List.drop_nil List.take_nil newBox List.length_append List.length_map bne_self_eq_false eq_self Nat.lt_add_one ne_eq false_implies Int.le_refl
set_option maxHeartbeats 16000000 in
theorem specArm {con : List Int} {vars : List (List Int)} {body : Xp} (hcon : okB con) (hvars : ∀ v ∈ vars, okB v) (hvl : vars.length ≤ 1000000000) {d : Int} {v : Int} (ih : ∀ s, callF (tab tbl) prim 30 [.agg body.az, .int .i64 d] s = some (.int .i64 v, s)) (s : Store) :
    ∃ r s', callF (tab tbl) prim 66 [.agg (Arm.mk con vars body).az, .int .i64 d] s = some (r, s') ∧ ∃ x : Int, r = .int .i64 x ∧ s' = s ∧ ((armP con vars ∧ x = v) ∨ (¬ armP con vars ∧ x = -1)) := by
  obtain ⟨k,n,name,arg,lit,kids,arms⟩:=body
  have h2:=fun fl s=>specWord true hcon fl s
  simp only [if_true] at h2
  obtain ⟨VC,hVC⟩:∃ VC,VC = vars.map bsl:=⟨_,rfl⟩
  have hcl:=hcon.1
  simp only [Arm.az,Xp.az,← hVC,bsl] at ih ⊢
  have hb8:=by8_len con
  refine funZ rfl (zaf (zA @h2 (@ih))) zt ?_
  repeat' (first|refine zw ?_|refine zn (fun hb=>?_) (fun hb=>?_)|refine zx ?_|refine zof (zA @h2 (@ih)) ?_|exact zi|fail)
  · exact ⟨_, rfl, rfl, .inr ⟨fun h => by rcases h with ⟨_, h⟩ | ⟨h, _⟩ <;> omega, rfl⟩⟩
  · exact ⟨_, rfl, rfl, .inl ⟨.inl ⟨by omega, by omega⟩, rfl⟩⟩
  · exact ⟨_, rfl, rfl, .inr ⟨fun h => by rcases h with ⟨h, _⟩ | ⟨_, _, h, _⟩ <;> omega, rfl⟩⟩
  · have hcw : wordB grB con = true := by assumption
    refine wLoop (fun m st=>∃ (q:Nat) (y5 y6 y7 y8 y9 y10 y11 y12:AV),(m:Int) = vars.length - q∧q ≤ vars.length∧(∀ (i:Nat) (h:i < vars.length),i < q→varP vars i vars[i]) ∧
      st = ⟨[.agg [.imm false con.length (by8 con), .imm false vars.length VC, .int .i64 k, .int .i64 n, .imm false name.length (by8 name), .imm false arg.length (by8 arg), .imm false lit.length (by8 lit), .imm false kids.length (azE kids), .imm false arms.length (azA arms)], .int .i64 d, .ptr (s.low.length + 1) 0 0, .int .i64 0, .int .i64 q, y5, y6, y7, y8, y9, y10, y11, y12], frm s [.box 52 [.imm false con.length (by8 con), .imm false vars.length VC, .int .i64 k, .int .i64 n, .imm false name.length (by8 name), .imm false arg.length (by8 arg), .imm false lit.length (by8 lit), .imm false kids.length (azE kids), .imm false arms.length (azA arms)]]⟩) vars.length ?_ ?_
    · exact ⟨0, _, _, _, _, _, _, _, _, by omega, by omega, fun i _ h => by omega, rfl⟩
    · rintro m st ⟨q, y5, y6, y7, y8, y9, y10, y11, y12, hm, hq, hok, rfl⟩
      by_cases hlt:q < vars.length
      · have hx := List.getElem_mem hlt
        obtain ⟨ha1,ha2⟩:=map_at (ev:=bsl) hlt
        rw [← hVC] at ha1 ha2
        have hov:=hvars _ hx
        have hvq:varP vars q vars[q] ↔ nameB vars[q] = true∧(vars.take q).any (fun x=>decide (x = vars[q])) = false:=Iff.rfl
        have hno:¬ varP vars q vars[q]→¬ armP con vars:=fun h g=>by
          rcases g with ⟨_, g⟩ | ⟨_, _, _, g⟩
          · omega
          · exact h (g q hlt)
        have h1:=fun fl s=>specName hov fl s
        obtain ⟨w,hw⟩:∃ w,vars[q] = w:=⟨_,rfl⟩
        simp only [hw] at ha2 h1 hvq hno hov
        simp only [bsl] at ha2
        have l3:=by8_len w
        have t3:=toB8 w
        repeat' (first|refine zw ?_|refine zn (fun hb=>?_) (fun hb=>?_)|refine zx ?_|refine zof (zA @ha1 (zA @ha2 (zA @h1 (zA @l3 (@t3))))) ?_|exact zi|fail)
        · refine wLoop (fun m2 st => ∃ (r : Nat) (y7 y8 y9 y11 y12 : AV), (m2 : Int) = q - r ∧ r ≤ q ∧ (∀ x ∈ vars.take r, decide (x = w) = false) ∧
            ∃ y6 y10, st = ⟨[.agg [.imm false con.length (by8 con), .imm false vars.length VC, .int .i64 k, .int .i64 n, .imm false name.length (by8 name), .imm false arg.length (by8 arg), .imm false lit.length (by8 lit), .imm false kids.length (azE kids), .imm false arms.length (azA arms)], .int .i64 d, .ptr (s.low.length + 1) 0 0, .int .i64 0, .int .i64 q, .int .i64 r, y6, y7, y8, y9, y10, y11, y12], frm s [.box 52 [.imm false con.length (by8 con), .imm false vars.length VC, .int .i64 k, .int .i64 n, .imm false name.length (by8 name), .imm false arg.length (by8 arg), .imm false lit.length (by8 lit), .imm false kids.length (azE kids), .imm false arms.length (azA arms)]]⟩) q ?_ ?_
          · exact ⟨0, _, _, _, _, _, by omega, by omega, by simp, _, _, rfl⟩
          · rintro m2 st ⟨r, y7, y8, y9, y11, y12, hm2, hr, hno2, y6, y10, rfl⟩
            by_cases hlt2:r < q
            · have hlt3 : r < vars.length := by omega
              obtain ⟨hc1,hc2⟩:=map_at (ev:=bsl) hlt3
              rw [← hVC] at hc1 hc2
              have hx3:=List.getElem_mem hlt3
              have he:=bst_eql hov.2 (hvars _ hx3).2
              have htk:=fun h=>take_all (p:=fun x=>decide (x = w)) hlt3 hno2 h
              have hyes:vars[r] = w→(vars.take q).any (fun x=>decide (x = w)) = true:=fun h=>List.any_eq_true.2 ⟨vars[r],by rw [List.mem_take_iff_getElem]; exact ⟨r,by omega,rfl⟩,decide_eq_true h⟩
              generalize vars[r] = x at *
              simp only [bsl] at hc2
              have l4:=by8_len x
              have t4:=toB8 x
              repeat' (first|refine zw ?_|refine zn (fun hb=>?_) (fun hb=>?_)|refine zx ?_|refine zof (zA @ha1 (zA @ha2 (zA @hc1 (zA @hc2 (zA @l3 (zA @t3 (zA @l4 (@t4)))))))) ?_|exact zi|fail)
              · exact ⟨_, rfl, rfl, .inr ⟨hno fun g => (by
                  have e:w = x:=of_decide_eq_true (he.symm.trans (beq_iff_eq.2 hb))
                  rw [hyes e.symm] at hvq
                  exact absurd (hvq.1 g).2 (by decide)),rfl⟩⟩
              · exact loopNor (m2 - 1) (by omega) ⟨r + 1, _, _, _, _, _, by omega, by omega, htk (decide_eq_false fun h => hb (by rw [h])), _, _, rfl⟩
            · obtain rfl : r = q := by omega
              repeat' (first|refine zw ?_|refine zn (fun hb=>?_) (fun hb=>?_)|refine zx ?_|refine zo ?_|exact zi|fail)
              refine loopNor (m - 1) (by omega) ⟨r + 1,_,_,_,_,_,_,_,_,by omega,by omega,fun i hi hiq=>?_,rfl⟩
              rcases Nat.lt_or_ge i r with h | h
              · exact hok i hi h
              · obtain rfl : i = r := by omega
                rw [hw]
                exact hvq.2 ⟨by assumption,List.any_eq_false.2 fun x hx=>by rw [hno2 x hx]; exact Bool.false_ne_true⟩
        · exact ⟨_, rfl, rfl, .inr ⟨hno fun g => (by rw [(hvq.1 g).1] at hb; cases hb), rfl⟩⟩
      · obtain rfl : q = vars.length := by omega
        repeat' (first|refine zw ?_|refine zn (fun hb=>?_) (fun hb=>?_)|refine zx ?_|refine zof @ih ?_|exact zi|fail)
        exact ⟨_,rfl,rfl,.inl ⟨.inr ⟨by omega,hcw,by omega,fun i h=>hok i h h⟩,rfl⟩⟩
  · refine ⟨_, rfl, rfl, .inr ⟨fun h => ?_, rfl⟩⟩
    rcases h with ⟨h, _⟩ | ⟨_, h, _⟩
    · omega
    · rw [hb] at h; cases h
def xcs (k n : Int) (name arg lit : List Int) (kids : List Xp) (arms : List Arm) : List AV := [.int .i64 k, .int .i64 n, .imm false name.length (by8 name), .imm false arg.length (by8 arg), .imm false lit.length (by8 lit), .imm false kids.length (kids.flatMap Xp.az), .imm false arms.length (arms.flatMap Arm.az)]
set_option maxHeartbeats 16000000 in
theorem specKids {k n : Int} {name arg lit : List Int} {kids : List Xp} {arms : List Arm} {d : Nat} {s : Store} {C : List AV} (hC : C = xcs k n name arg lit kids arms) (hd : d ≤ 1000) (hsz : sizes Xp.sz kids ≤ 1000000000)
    (ih : ∀ x ∈ kids, ∀ s, callF (tab tbl) prim 30 [.agg x.az, .int .i64 (d + 1 : Nat)] s = some (.int .i64 (xms (-1) (d + 1) x), s)) (y4 y5 y6 y9 y10 y11 y12 y13 y14 y15 y16 y17 y18 y19 y20 y21 y22 y23 y24 y25 y26 y27 : AV) :
    Wp (exS (callF (tab tbl) prim) (.loop (loopAt c30 0)) ⟨[.agg C, .int .i64 d, .ptr (s.low.length + 1) 0 0, .int .i64 0, y4, y5, y6, .int .i64 1, .int .i64 0, y9, y10, y11, y12, y13, y14, y15, y16, y17, y18, y19, y20, y21, y22, y23, y24, y25, y26, y27], frm s [.box 36 C]⟩) (fun e st => st.s = frm s [.box 36 C] ∧ ((e = .exit 0 ∧ ((∀ x ∈ kids, xgd (d + 1) x) ∧ 1 + (kids.map xcnt).sum ≤ 300) ∧ ∃ z4 z5 z6 z8 z9 z10 z11 z12 z13 z14 z15 z16 z17 z18 z19 z20 z21 z22 z23 z24 z25 z26 z27 : AV, st.vs = [.agg C, .int .i64 d, .ptr (s.low.length + 1) 0 0, .int .i64 0, z4, z5, z6, .int .i64 ((1 + (kids.map xcnt).sum : Nat) : Int), z8, z9, z10, z11, z12, z13, z14, z15, z16, z17, z18, z19, z20, z21, z22, z23, z24, z25, z26, z27]) ∨ (e = .ret ∧ ¬ XB d (.mk k n name arg lit kids arms) ∧ ∃ z4 z5 z6 z7 z8 z9 z10 z11 z12 z13 z14 z15 z16 z17 z18 z19 z20 z21 z22 z23 z24 z25 z26 z27 : AV, st.vs = [.agg C, .int .i64 d, .ptr (s.low.length + 1) 0 0, .int .i64 (-1), z4, z5, z6, z7, z8, z9, z10, z11, z12, z13, z14, z15, z16, z17, z18, z19, z20, z21, z22, z23, z24, z25, z26, z27]))) := by
  subst hC
  unfold xcs
  have hln:=sizes_len Xp.sz kids
  simp only [loopAt,loops,c30,List.nil_append,List.append_nil,List.getD_cons_zero,List.cons_append]
  refine wLoop (fun m st=>∃ (q:Nat) (y4 y5 y6 y9 y10 y11 y12 y13 y14 y15 y16 y17 y18 y19 y20 y21 y22 y23 y24 y25 y26 y27:AV) (c:Nat),(m:Int) = kids.length - q∧q ≤ kids.length∧(∀ x ∈ kids.take q,xgd (d + 1) x)∧c = 1 + ((kids.take q).map xcnt).sum∧c ≤ 300∧st = ⟨[.agg [.int .i64 k,.int .i64 n,.imm false name.length (by8 name),.imm false arg.length (by8 arg),.imm false lit.length (by8 lit),.imm false kids.length (kids.flatMap Xp.az),.imm false arms.length (arms.flatMap Arm.az)],.int .i64 d,.ptr (s.low.length + 1) 0 0,.int .i64 0,y4,y5,y6,.int .i64 c,.int .i64 q,y9,y10,y11,y12,y13,y14,y15,y16,y17,y18,y19,y20,y21,y22,y23,y24,y25,y26,y27],frm s [.box 36 [.int .i64 k,.int .i64 n,.imm false name.length (by8 name),.imm false arg.length (by8 arg),.imm false lit.length (by8 lit),.imm false kids.length (kids.flatMap Xp.az),.imm false arms.length (arms.flatMap Arm.az)]]⟩) kids.length ?_ ?_
  · exact ⟨0, _, _, _, _, _, _, _, _, _, _, _, _, _, _, _, _, _, _, _, _, _, _, 1, by omega, by omega, by simp, by simp, by omega, rfl⟩
  · rintro m st ⟨q, y4, y5, y6, y9, y10, y11, y12, y13, y14, y15, y16, y17, y18, y19, y20, y21, y22, y23, y24, y25, y26, y27, c, hm, hq, hgd, hc, hc300, rfl⟩
    by_cases hlt:q < kids.length
    · have hx := List.getElem_mem hlt
      have hsx:=sizes_mem Xp.sz hx
      obtain ⟨ha1,ha2⟩:=fm_at Xp.len hlt
      have hi:=fun s=>ih _ hx s
      have hst:=sum_take xcnt kids hlt
      have hsl:=sum_le xcnt kids (q + 1)
      have hmc:=xms_cases (-1) (d + 1) kids[q]
      have hcp:=xcnt_pos kids[q]
      rw [show ((d + 1:Nat):Int) = (d:Int) + 1 by omega] at hi
      have htk:=List.take_succ_eq_append_getElem hlt
      have hnt:=fun h:¬ XB (d + 1) kids[q]=>not_XB (d:=d) (k:=k) (n:=n) (name:=name) (arg:=arg) (lit:=lit) (arms:=arms) hx h
      generalize kids[q] = x at *
      repeat' (first|refine zw ?_|refine zn (fun hb=>?_) (fun hb=>?_)|refine zx ?_|refine zof (zA @ha1 (zA @ha2 (@hi))) ?_|exact zi|fail)
      all_goals first
        | (refine ⟨rfl, .inr ⟨rfl, fun h => ?_, _, _, _, _, _, _, _, _, _, _, _, _, _, _, _, _, _, _, _, _, _, _, _, _, rfl⟩⟩
           have h4:=(XB_mk.1 h).2.2.2.2
           rcases hmc with ⟨_, h1, _⟩ | ⟨h1, _⟩
           · omega
           · exact hnt h1 h)
        | (rcases hmc with ⟨h0, h1, _⟩ | ⟨_, h1⟩
           · refine loopNor (m - 1) (by omega) ⟨q + 1, _, _, _, _, _, _, _, _, _, _, _, _, _, _, _, _, _, _, _, _, _, _, c + xcnt x, by omega, by omega, fun y hy => ?_, by omega, by omega, by rw [h1]; rfl⟩
             rw [htk,List.mem_append,List.mem_singleton] at hy
             rcases hy with hy | rfl
             · exact hgd y hy
             · exact h0.1
           · omega)
    · obtain rfl : q = kids.length := by omega
      rw [List.take_length] at hgd hc
      repeat' (first|refine zw ?_|refine zn (fun hb=>?_) (fun hb=>?_)|refine zx ?_|refine zo ?_|exact zi|fail)
      exact ⟨rfl,.inl ⟨rfl,⟨hgd,by omega⟩,_,_,_,_,_,_,_,_,_,_,_,_,_,_,_,_,_,_,_,_,_,_,_,by rw [hc]⟩⟩
set_option maxHeartbeats 16000000 in
theorem specArms {k n : Int} {name arg lit : List Int} {kids : List Xp} {arms : List Arm} {d : Nat} {s : Store} {C : List AV} (hC : C = xcs k n name arg lit kids arms) (hd : d ≤ 1000) (hsz : sizes Arm.sz arms ≤ 1000000000) (hoa : ∀ a ∈ arms, a.ok) (hk300 : 1 + (kids.map xcnt).sum ≤ 300)
    (ih : ∀ a ∈ arms, ∀ s, callF (tab tbl) prim 30 [.agg a.body.az, .int .i64 (d + 1 : Nat)] s = some (.int .i64 (xms (-1) (d + 1) a.body), s)) (y4 y5 y6 y8 y9 y11 y12 y13 y14 y15 y16 y17 y18 y19 y20 y21 y22 y23 y24 y25 y26 y27 : AV) :
    Wp (exS (callF (tab tbl) prim) (.loop (loopAt c30 1)) ⟨[.agg C, .int .i64 d, .ptr (s.low.length + 1) 0 0, .int .i64 0, y4, y5, y6, .int .i64 ((1 + (kids.map xcnt).sum : Nat) : Int), y8, y9, .int .i64 0, y11, y12, y13, y14, y15, y16, y17, y18, y19, y20, y21, y22, y23, y24, y25, y26, y27], frm s [.box 36 C]⟩) (fun e st => st.s = frm s [.box 36 C] ∧ ((e = .exit 2 ∧ ((∀ a ∈ arms, agd (d + 1) a) ∧ 1 + (kids.map xcnt).sum + (arms.map acnt).sum ≤ 300) ∧ ∃ z4 z5 z6 z8 z9 z10 z11 z12 z13 z14 z15 z16 z17 z18 z19 z20 z21 z22 z23 z24 z25 z26 z27 : AV, st.vs = [.agg C, .int .i64 d, .ptr (s.low.length + 1) 0 0, .int .i64 0, z4, z5, z6, .int .i64 ((1 + (kids.map xcnt).sum + (arms.map acnt).sum : Nat) : Int), z8, z9, z10, z11, z12, z13, z14, z15, z16, z17, z18, z19, z20, z21, z22, z23, z24, z25, z26, z27]) ∨ (e = .ret ∧ ¬ XB d (.mk k n name arg lit kids arms) ∧ ∃ z4 z5 z6 z7 z8 z9 z10 z11 z12 z13 z14 z15 z16 z17 z18 z19 z20 z21 z22 z23 z24 z25 z26 z27 : AV, st.vs = [.agg C, .int .i64 d, .ptr (s.low.length + 1) 0 0, .int .i64 (-1), z4, z5, z6, z7, z8, z9, z10, z11, z12, z13, z14, z15, z16, z17, z18, z19, z20, z21, z22, z23, z24, z25, z26, z27]))) := by
  subst hC
  unfold xcs
  have hla:=sizes_len Arm.sz arms
  simp only [loopAt,loops,c30,List.nil_append,List.append_nil,List.getD_cons_zero,List.getD_cons_succ,List.cons_append]
  refine wLoop (fun m st=>∃ (q:Nat) (y4 y5 y6 y8 y9 y11 y12 y13 y14 y15 y16 y17 y18 y19 y20 y21 y22 y23 y24 y25 y26 y27:AV) (c:Nat),(m:Int) = arms.length - q∧q ≤ arms.length∧(∀ x ∈ arms.take q,agd (d + 1) x)∧c = 1 + (kids.map xcnt).sum + ((arms.take q).map acnt).sum∧c ≤ 300∧st = ⟨[.agg [.int .i64 k,.int .i64 n,.imm false name.length (by8 name),.imm false arg.length (by8 arg),.imm false lit.length (by8 lit),.imm false kids.length (kids.flatMap Xp.az),.imm false arms.length (arms.flatMap Arm.az)],.int .i64 d,.ptr (s.low.length + 1) 0 0,.int .i64 0,y4,y5,y6,.int .i64 c,y8,y9,.int .i64 q,y11,y12,y13,y14,y15,y16,y17,y18,y19,y20,y21,y22,y23,y24,y25,y26,y27],frm s [.box 36 [.int .i64 k,.int .i64 n,.imm false name.length (by8 name),.imm false arg.length (by8 arg),.imm false lit.length (by8 lit),.imm false kids.length (kids.flatMap Xp.az),.imm false arms.length (arms.flatMap Arm.az)]]⟩) arms.length ?_ ?_
  · exact ⟨0, _, _, _, _, _, _, _, _, _, _, _, _, _, _, _, _, _, _, _, _, _, _, 1 + (kids.map xcnt).sum, by omega, by omega, by simp, by simp, by omega, rfl⟩
  · rintro m st ⟨q, y4, y5, y6, y8, y9, y11, y12, y13, y14, y15, y16, y17, y18, y19, y20, y21, y22, y23, y24, y25, y26, y27, c, hm, hq, hgd, hc, hc300, rfl⟩
    by_cases hlt:q < arms.length
    · have hx := List.getElem_mem hlt
      have hsx:=sizes_mem Arm.sz hx
      obtain ⟨ha1,ha2⟩:=fm_at Arm.len hlt
      have hi:∀ s,∃ r s',callF (tab tbl) prim 66 [.agg (arms[q]).az,.int .i64 ((d:Int) + 1)] s = some (r,s')∧∃ x:Int,r = .int .i64 x∧s' = s∧((armP (arms[q]).con (arms[q]).vars∧x = xms (-1) (d + 1) (arms[q]).body) ∨ (¬ armP (arms[q]).con (arms[q]).vars∧x = -1)):=by
        have h1:=ih _ hx
        have h2:=hoa _ hx
        have h3:(arms[q]).sz ≤ 1000000000:=by omega
        generalize arms[q] = a at *
        obtain ⟨con,vars,body⟩:=a
        simp only [Arm.ok] at h2
        simp only [Arm.sz] at h3
        have:=sizes_len List.length vars
        rw [show ((d + 1:Nat):Int) = (d:Int) + 1 by omega] at h1
        exact fun s=>specArm h2.1 h2.2.1.2 (by omega) h1 s
      have hst:=sum_take acnt arms hlt
      have hsl:=sum_le acnt arms (q + 1)
      have hmc:=xms_cases (-1) (d + 1) arms[q].body
      have hcp:=xcnt_pos arms[q].body
      have hac:=acnt_eq (a:=arms[q])
      have htk:=List.take_succ_eq_append_getElem hlt
      have hnt:=fun h:¬ (armP arms[q].con arms[q].vars∧XB (d + 1) arms[q].body)=>not_XBa (d:=d) (k:=k) (n:=n) (name:=name) (arg:=arg) (lit:=lit) (kids:=kids) hx h
      have hag:=agd_iff (d:=d + 1) (a:=arms[q])
      generalize arms[q] = x at *
      repeat' (first|refine zw ?_|refine zn (fun hb=>?_) (fun hb=>?_)|refine zx ?_|(refine zk (hi _) ?_; rintro _ _ ⟨v, rfl, rfl, hv⟩)|refine zof (zA @ha1 (@ha2)) ?_|exact zi|fail)
      all_goals first
        | (refine ⟨rfl, .inr ⟨rfl, fun h => ?_, _, _, _, _, _, _, _, _, _, _, _, _, _, _, _, _, _, _, _, _, _, _, _, _, rfl⟩⟩
           have h4:=(XB_mk.1 h).2.2.2.2
           rcases hv with ⟨h5, h6⟩ | ⟨h5, _⟩
           · rcases hmc with ⟨_, h1, _⟩ | ⟨h1, _⟩
             · omega
             · exact hnt (fun h7 => h1 h7.2) h
           · exact hnt (fun h7 => h5 h7.1) h)
        | (rcases hv with ⟨h5, h6⟩ | ⟨_, h6⟩
           · rcases hmc with ⟨h0, h1, _⟩ | ⟨_, h1⟩
             · refine loopNor (m - 1) (by omega) ⟨q + 1, _, _, _, _, _, _, _, _, _, _, _, _, _, _, _, _, _, _, _, _, _, _, c + xcnt x.body, by omega, by omega, fun y hy => ?_, by omega, by omega, by rw [h6, h1]; rfl⟩
               rw [htk,List.mem_append,List.mem_singleton] at hy
               rcases hy with hy | rfl
               · exact hgd y hy
               · exact hag.2 ⟨h5, h0.1⟩
             · omega
           · omega)
    · obtain rfl : q = arms.length := by omega
      rw [List.take_length] at hgd hc
      repeat' (first|refine zw ?_|refine zn (fun hb=>?_) (fun hb=>?_)|refine zx ?_|refine zo ?_|exact zi|fail)
      exact ⟨rfl,.inl ⟨rfl,⟨hgd,by omega⟩,_,_,_,_,_,_,_,_,_,_,_,_,_,_,_,_,_,_,_,_,_,_,_,by rw [hc]⟩⟩
end Go.Proofs.YtkjonfojileipaaGreatDoor.Gq
