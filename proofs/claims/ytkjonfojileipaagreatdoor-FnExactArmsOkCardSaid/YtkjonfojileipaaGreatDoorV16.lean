/- The reference's l5expr, class G1 (MADE BY PROGRAM: mkst.py). The reference's l5expr, class I (MADE BY PROGRAM: mkst.py). -/
import Derived.Test.YtkjonfojileipaaGreatDoorV13
set_option linter.unusedSimpArgs false
set_option linter.unusedVariables false
namespace Go.Proofs.YtkjonfojileipaaGreatDoor.Gq
open Go Go.Proofs Go.Proofs.YtkjonfojileipaaGreatDoor.Ae
open XSl
attribute [local congr] obind_congr
attribute [local push_cast] exF argsV frzs frz frzL frz1 exS_reg exS_seq exS_cond exS_alt exS_block exS_loop exS_exit exS_ret exS_skip evReg evOps evOne evAct evOp rd putV st0 evEnd resV resL resOne oneOr frzR loadV storeV binV binI unV push_frm pop_frm frm_len frm_top frm_get_top frm_set_top frm_new AV.cells AV.lowB AV.lowL AV.isCell cellsOk set_len Option.bind_some Option.map_some Option.map_none List.getD_cons_zero List.getD_cons_succ List.nil_append List.cons_append List.append_nil List.length_cons List.length_nil List.set_cons_zero List.set_cons_succ List.map_cons List.map_nil List.replicate if_true if_false ite_true ite_false ite_self Bool.false_eq_true List.all_cons List.all_nil Bool.and_true Bool.true_and Bool.and_self Bool.and_eq_true List.getElem?_cons_zero List.getElem?_cons_succ List.drop_succ_cons List.drop_zero List.take_succ_cons List.take_zero true_and and_true and_self decide_true decide_false Bool.not_true Bool.not_false Prod.mk.injEq Option.some.injEq List.getElem?_drop optInt elems sliceV partsOf Nat.add_zero Nat.zero_add Nat.mul_one beq_self_eq_true litParts Bool.or_false Bool.false_or Bool.or_true Bool.true_or Bool.false_and Bool.and_false List.cons.injEq not_false_eq_true not_true_eq_false Nat.zero_le Nat.le_refl gt_iff_lt ge_iff_le List.drop_nil List.take_nil newBox List.length_append List.length_map bne_self_eq_false eq_self Nat.lt_add_one ne_eq false_implies Int.le_refl
set_option maxHeartbeats 16000000 in
theorem specExG1 {k n : Int} {name arg lit : List Int} {kids : List Xp} {arms : List Arm} {d : Nat} {s : Store} (hc : k = 1) (hd : d ≤ 1000)
    (hname : okB name) (harg : okB arg) (hlit : okB lit) (hoa : ∀ a ∈ arms, a.ok) (hks : sizes Xp.sz kids ≤ 1000000000) (has : sizes Arm.sz arms ≤ 1000000000) (hll : lit.length ≤ 1000000000)
    (ihk : ∀ x ∈ kids, ∀ s, callF (tab tbl) prim 30 [.agg x.az, .int .i64 (d + 1 : Nat)] s = some (.int .i64 (xms (-1) (d + 1) x), s))
    (iha : ∀ a ∈ arms, ∀ s, callF (tab tbl) prim 30 [.agg a.body.az, .int .i64 (d + 1 : Nat)] s = some (.int .i64 (xms (-1) (d + 1) a.body), s)) :
    callF (tab tbl) prim 30 [.agg (xcs k n name arg lit kids arms), .int .i64 d] s = some (.int .i64 (xms (-1) d (.mk k n name arg lit kids arms)), s) := by
  have hln:=sizes_len Xp.sz kids
  have hla:=sizes_len Arm.sz arms
  have hsh:∀ s,callF (tab tbl) prim 63 [.agg (xcs k n name arg lit kids arms)] s = some (.tup [.int .i64 (if shK k n then kidsN k n else -1),.bool false,.bool false],s):=fun s=>by
    obtain ⟨v,s',h,a,b,c,rfl,rfl,ha,hb,hcc⟩:=specShape (n3:=name.length) (c3:=by8 name) (n4:=arg.length) (c4:=by8 arg) (n5:=lit.length) (c5:=by8 lit) (n7:=arms.length) (c7:=arms.flatMap Arm.az) k n (kids.flatMap Xp.az) (len:=kids.length) (by omega) s
    have e1:a = (if shK k n then kidsN k n else -1):=by split <;> omega
    have e2:b = false:=by exact Bool.eq_false_iff.2 fun g=>(by have:=hb.1 g; omega)
    have e3:c = false:=by exact Bool.eq_false_iff.2 fun g=>(by have:=hcc.1 g; omega)
    subst e1 e2 e3
    exact h
  have hX:=hdX_G (k:=k) (n:=n) (name:=name) (arg:=arg) (lit:=lit) (kl:=kids.length) (al:=arms.length) (fk:=fstB kids) (by omega)
  have hbad:¬ (d ≤ 40∧numP k n∧name.length = 0∧arg.length = 0∧lit.length = 0∧arms.length = 0∧(kids.length:Int) = kidsN k n)→xms (-1) d (.mk k n name arg lit kids arms) = -1:=fun h=>xms_bad fun g=>h ⟨(XB_mk.1 g).1,hX.1 (XB_mk.1 g).2.1⟩
  have hgood:d ≤ 40∧numP k n∧name.length = 0∧arg.length = 0∧lit.length = 0∧arms.length = 0∧(kids.length:Int) = kidsN k n→(∀ x ∈ kids,xgd (d + 1) x)→1 + (kids.map xcnt).sum ≤ 300→xms (-1) d (.mk k n name arg lit kids arms) = ((1 + (kids.map xcnt).sum:Nat):Int):=fun h h3 h5=>by
    have h0:arms = []:=List.length_eq_zero_iff.1 (by omega)
    rw [xms_ok (XB_mk.2 ⟨h.1,hX.2 h.2,h3,by rw [h0]; simp,by rw [h0]; simpa using h5⟩),xcnt,cntE_eq,cntA_eq,h0]
    simp
  have t1:=toB8 name
  have t2:=toB8 arg
  have l1:=by8_len name
  have l2:=by8_len arg
  have h1:=fun fl s=>specName hname fl s
  have h2:=fun fl s=>specWord true hname fl s
  simp only [if_true] at h2
  have h3:=fun fl s=>specName harg fl s
  have h4:=fun fl s=>specLit hlit.1 fl s
  have h5:=bst_eql harg.2 hname.2
  have hL1:=@specKids k n name arg lit kids arms d
  unfold xcs at hsh ⊢
  generalize nameB name = b1 at *
  generalize wordB grB name = b2 at *
  generalize nameB arg = b3 at *
  generalize litB lit = b4 at *
  have hag:(shK k n∧(if shK k n then kidsN k n else -1) = kidsN k n) ∨ (¬ shK k n∧(if shK k n then kidsN k n else -1) = -1):=by
    by_cases h:shK k n
    · exact .inl ⟨h, if_pos h⟩
    · exact .inr ⟨h, if_neg h⟩
  have hk0:0 ≤ kidsN k n:=by unfold kidsN; (repeat' split) <;> omega
  generalize (if shK k n then kidsN k n else -1) = ag at *
  generalize hkg:kidsN k n = kn at *
  refine funY rfl (zaf (zA @hsh (zA @l1 (zA @l2 (zA @t1 (zA @t2 (zA @specIntOk (zA (@List.drop_zero AV) (zA (@List.drop_drop AV) (zA @h1 (zA @h2 (zA @h3 (@h4))))))))))))) zt ?_
  repeat' (first|refine zw ?_|refine zn (fun hb=>?_) (fun hb=>?_)|refine zx ?_|refine zof (zA @hsh (zA @l1 (zA @l2 (zA @t1 (zA @t2 (zA @specIntOk (zA (@List.drop_zero AV) (zA (@List.drop_drop AV) (zA @h1 (zA @h2 (zA @h3 (@h4)))))))))))) ?_|exact zi|fail)
  all_goals try
    refine isI (congrArg (AV.int .i64) (hbad ?_).symm) rfl
    rintro ⟨gd, g0, g1, g2, g3, g4, g5⟩
    first
    | omega
  all_goals
    refine Wp.mono (hL1 rfl hd hks ihk _ _ _ _ _ _ _ _ _ _ _ _ _ _ _ _ _ _ _ _ _ _) ?_
    rintro e ⟨vs, s'⟩ ⟨hs, ⟨rfl, ⟨hk1, hk2⟩, z4, z5, z6, z8, z9, z10, z11, z12, z13, z14, z15, z16, z17, z18, z19, z20, z21, z22, z23, z24, z25, z26, z27, hvs⟩ | ⟨rfl, hkb, z4, z5, z6, z7, z8, z9, z10, z11, z12, z13, z14, z15, z16, z17, z18, z19, z20, z21, z22, z23, z24, z25, z26, z27, hvs⟩⟩
    all_goals
      simp only at hs hvs
      subst hs hvs
      repeat' (first|refine zw ?_|refine zn (fun hb=>?_) (fun hb=>?_)|refine zx ?_|refine zo ?_|exact zi|fail)
    all_goals try exact isI (congrArg (AV.int .i64) (xms_bad hkb).symm) rfl
    all_goals try
      refine isI (congrArg (AV.int .i64) (hbad ?_).symm) rfl
      rintro ⟨gd, g0, g1, g2, g3, g4, g5⟩
      first
      | omega
    all_goals exact isI (congrArg (AV.int .i64) (hgood ⟨by omega, by (first | assumption | omega | exact nn3 h5 (by assumption)), by (first | assumption | omega | exact nn3 h5 (by assumption)), by (first | assumption | omega | exact nn3 h5 (by assumption)), by (first | assumption | omega | exact nn3 h5 (by assumption)), by (first | assumption | omega | exact nn3 h5 (by assumption)), by (first | assumption | omega | exact nn3 h5 (by assumption))⟩ hk1 hk2).symm) rfl
set_option maxHeartbeats 16000000 in
theorem specExI {k n : Int} {name arg lit : List Int} {kids : List Xp} {arms : List Arm} {d : Nat} {s : Store} (hc : k < 0 ∨ 20 < k) (hd : d ≤ 1000)
    (hname : okB name) (harg : okB arg) (hlit : okB lit) (hoa : ∀ a ∈ arms, a.ok) (hks : sizes Xp.sz kids ≤ 1000000000) (has : sizes Arm.sz arms ≤ 1000000000) (hll : lit.length ≤ 1000000000)
    (ihk : ∀ x ∈ kids, ∀ s, callF (tab tbl) prim 30 [.agg x.az, .int .i64 (d + 1 : Nat)] s = some (.int .i64 (xms (-1) (d + 1) x), s))
    (iha : ∀ a ∈ arms, ∀ s, callF (tab tbl) prim 30 [.agg a.body.az, .int .i64 (d + 1 : Nat)] s = some (.int .i64 (xms (-1) (d + 1) a.body), s)) :
    callF (tab tbl) prim 30 [.agg (xcs k n name arg lit kids arms), .int .i64 d] s = some (.int .i64 (xms (-1) d (.mk k n name arg lit kids arms)), s) := by
  have hln:=sizes_len Xp.sz kids
  have hla:=sizes_len Arm.sz arms
  have hsh:∀ s,callF (tab tbl) prim 63 [.agg (xcs k n name arg lit kids arms)] s = some (.tup [.int .i64 (-1),.bool false,.bool false],s):=fun s=>by
    obtain ⟨v,s',h,a,b,c,rfl,rfl,ha,hb,hcc⟩:=specShape (n3:=name.length) (c3:=by8 name) (n4:=arg.length) (c4:=by8 arg) (n5:=lit.length) (c5:=by8 lit) (n7:=arms.length) (c7:=arms.flatMap Arm.az) k n (kids.flatMap Xp.az) (len:=kids.length) (by omega) s
    have e1:a = (-1):=by omega
    have e2:b = false:=by exact Bool.eq_false_iff.2 fun g=>(by have:=hb.1 g; omega)
    have e3:c = false:=by exact Bool.eq_false_iff.2 fun g=>(by have:=hcc.1 g; omega)
    subst e1 e2 e3
    exact h
  have hbad:xms (-1) d (.mk k n name arg lit kids arms) = -1:=xms_bad fun h=>(hdX_I hc).1 (XB_mk.1 h).2.1
  have t1:=toB8 name
  have t2:=toB8 arg
  have l1:=by8_len name
  have l2:=by8_len arg
  have h1:=fun fl s=>specName hname fl s
  have h2:=fun fl s=>specWord true hname fl s
  simp only [if_true] at h2
  have h3:=fun fl s=>specName harg fl s
  have h4:=fun fl s=>specLit hlit.1 fl s
  have h5:=bst_eql harg.2 hname.2
  have hL1:=@specKids k n name arg lit kids arms d
  unfold xcs at hsh ⊢
  refine funY rfl (zaf (zA @hsh (zA @l1 (zA @l2 (zA @t1 (zA @t2 (zA @specIntOk (zA (@List.drop_zero AV) (zA (@List.drop_drop AV) (zA @h1 (zA @h2 (zA @h3 (@h4))))))))))))) zt ?_
  repeat' (first|refine zw ?_|refine zn (fun hb=>?_) (fun hb=>?_)|refine zx ?_|refine zof (zA @hsh (zA @l1 (zA @l2 (zA @t1 (zA @t2 (zA @specIntOk (zA (@List.drop_zero AV) (zA (@List.drop_drop AV) (zA @h1 (zA @h2 (zA @h3 (@h4)))))))))))) ?_|exact zi|fail)
  all_goals first
    | exact isI (congrArg (AV.int .i64) hbad.symm) rfl
    | (exfalso; omega)
end Go.Proofs.YtkjonfojileipaaGreatDoor.Gq
