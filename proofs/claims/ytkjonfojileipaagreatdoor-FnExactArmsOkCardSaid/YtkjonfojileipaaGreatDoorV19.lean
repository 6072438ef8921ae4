/- When an expression is one, for the reference. The reference's print and SourceOk. The law FnExactSourceOk, of all sources. -/
import Derived.Test.YtkjonfojileipaaGreatDoorV11
import Derived.Test.YtkjonfojileipaaGreatDoorV12
import Derived.Test.YtkjonfojileipaaGreatDoorV14
import Derived.Test.YtkjonfojileipaaGreatDoorV15
import Derived.Test.YtkjonfojileipaaGreatDoorV16
import Derived.Test.YtkjonfojileipaaGreatDoorV17
import Derived.Test.YtkjonfojileipaaGreatDoorV18
set_option linter.unusedSimpArgs false
set_option linter.unusedVariables false
namespace Go.Proofs.YtkjonfojileipaaGreatDoor.Gq
open Go Go.Proofs Go.Proofs.YtkjonfojileipaaGreatDoor.Ae
attribute [local congr] obind_congr
attribute [local push_cast] exF argsV frzs frz frzL frz1 exS_reg exS_seq exS_cond exS_alt exS_block exS_loop exS_exit exS_ret exS_skip evReg evOps evOne evAct evOp rd putV st0 evEnd resV resL resOne oneOr frzR loadV storeV binV binI unV push_frm pop_frm frm_len frm_top frm_get_top frm_set_top frm_new AV.cells AV.lowB AV.lowL AV.isCell cellsOk set_len Option.bind_some Option.map_some Option.map_none List.getD_cons_zero List.getD_cons_succ List.nil_append List.cons_append List.append_nil List.length_cons List.length_nil List.set_cons_zero List.set_cons_succ List.map_cons List.map_nil List.replicate if_true if_false ite_true ite_false ite_self Bool.false_eq_true List.all_cons List.all_nil Bool.and_true Bool.true_and Bool.and_self Bool.and_eq_true List.getElem?_cons_zero List.getElem?_cons_succ List.drop_succ_cons List.drop_zero List.take_succ_cons List.take_zero true_and and_true and_self decide_true decide_false Bool.not_true Bool.not_false Prod.mk.injEq Option.some.injEq List.getElem?_drop optInt elems sliceV partsOf Nat.add_zero Nat.zero_add Nat.mul_one beq_self_eq_true litParts Bool.or_false Bool.false_or Bool.or_true Bool.true_or Bool.false_and Bool.and_false List.cons.injEq not_false_eq_true not_true_eq_false Nat.zero_le Nat.le_refl gt_iff_lt ge_iff_le List.drop_nil List.take_nil newBox List.length_append List.length_map bne_self_eq_false eq_self Nat.lt_add_one ne_eq false_implies Int.le_refl
theorem az_xcs {k n : Int} {name arg lit : List Int} {kids : List Xp} {arms : List Arm} : (Xp.mk k n name arg lit kids arms).az = xcs k n name arg lit kids arms := by
  simp only [Xp.az,azE_eq,azA_eq,bsl,xcs]
theorem specDeep {k n : Int} {name arg lit : List Int} {kids : List Xp} {arms : List Arm} {d : Nat} {s : Store} (hd : d ≤ 1000) (h40 : 40 < d) (hkl : kids.length ≤ 1000000000) :
    callF (tab tbl) prim 30 [.agg (xcs k n name arg lit kids arms), .int .i64 d] s = some (.int .i64 (-1), s) := by
  have hsh:=fun s=>specShape (n3:=name.length) (c3:=by8 name) (n4:=arg.length) (c4:=by8 arg) (n5:=lit.length) (c5:=by8 lit) (n7:=arms.length) (c7:=arms.flatMap Arm.az) k n (kids.flatMap Xp.az) (len:=kids.length) (by omega) s
  unfold xcs
  refine funY rfl za zt ?_
  repeat' (first|refine zw ?_|refine zn (fun hb=>?_) (fun hb=>?_)|refine zx ?_|(refine zk (hsh _) ?_; rintro _ _ ⟨a, b, c, rfl, rfl, ha, hb1, hb2⟩)|refine zo ?_|exact zi|fail)
  all_goals exact isI rfl rfl
theorem specExpr : ∀ e : Xp, e.ok → e.sz ≤ 1000000000 → ∀ (d : Nat) (s : Store), d ≤ 1000 → callF (tab tbl) prim 30 [.agg e.az, .int .i64 d] s = some (.int .i64 (xms (-1) d e), s) := by
  refine Xp.ind fun k n name arg lit kids arms ih iha=>?_
  intro ho hsz d s hd
  simp only [Xp.sz,szE_eq,szA_eq] at hsz
  simp only [Xp.ok,okE_iff,okA_iff] at ho
  obtain ⟨_,_,hname,harg,hlit,⟨_,hoe⟩,⟨_,hoa⟩⟩:=ho
  have hln:=sizes_len Xp.sz kids
  rw [az_xcs]
  by_cases h40:40 < d
  · rw [specDeep hd h40 (by omega), xms_bad fun h => ?_]
    have:=(XB_mk.1 h).1
    omega
  have ihk:∀ x ∈ kids,∀ s,callF (tab tbl) prim 30 [.agg x.az,.int .i64 (d + 1:Nat)] s = some (.int .i64 (xms (-1) (d + 1) x),s):=fun x hx s=>ih x hx (hoe x hx) (by have:=sizes_mem Xp.sz hx; omega) (d + 1) s (by omega)
  have ihb:∀ a ∈ arms,∀ s,callF (tab tbl) prim 30 [.agg a.body.az,.int .i64 (d + 1:Nat)] s = some (.int .i64 (xms (-1) (d + 1) a.body),s):=fun a ha s=>iha a ha (Arm.ok_body (hoa a ha)) (by have:=sizes_mem Arm.sz ha; have:=Arm.body_sz (a:=a); omega) (d + 1) s (by omega)
  rcases clsK k with hc | hc | hc | hc | hc | hc | hc | hc | hc
  · exact specExA hc hd hname harg hlit hoa (by omega) (by omega) (by omega) ihk ihb
  · exact specExB hc hd hname harg hlit hoa (by omega) (by omega) (by omega) ihk ihb
  · exact specExC hc hd hname harg hlit hoa (by omega) (by omega) (by omega) ihk ihb
  · exact specExD hc hd hname harg hlit hoa (by omega) (by omega) (by omega) ihk ihb
  · exact specExE hc hd hname harg hlit hoa (by omega) (by omega) (by omega) ihk ihb
  · exact specExF hc hd hname harg hlit hoa (by omega) (by omega) (by omega) ihk ihb
  · rcases hc with hc | hc | hc
    · exact specExG1 hc hd hname harg hlit hoa (by omega) (by omega) (by omega) ihk ihb
    · exact specExG2 hc hd hname harg hlit hoa (by omega) (by omega) (by omega) ihk ihb
    · exact specExG3 hc hd hname harg hlit hoa (by omega) (by omega) (by omega) ihk ihb
  · exact specExH hc hd hname harg hlit hoa (by omega) (by omega) (by omega) ihk ihb
  · exact specExI hc hd hname harg hlit hoa (by omega) (by omega) (by omega) ihk ihb
set_option maxHeartbeats 8000000 in
theorem spCons {ds : List Dt} {cs : List Con} {bv : List Int → AV} {bs : List Int → Store} (hbu : Buf 5 bv bs) {L : Nat} (hL : ∀ x, (bs x).low.length = L) (hcl : cs.length ≤ 100000000) (hal : ∀ c ∈ cs, c.fields.length ≤ 100000000) (ih : ∀ c ∈ cs, ∀ x ∈ c.fields, tyC ds x)
    {z0 : List Int} (hz : z0.length + (bl (csay ds) cs).length ≤ 2000000000) {T : List Ae.Obj} {j : Nat} {src : List AV} {c1 c2 : AV} (h0 : T[0]? = some (.box 38 (.imm false ds.length (ds.flatMap Dt.az) :: src))) (hT : T[j]? = some (.box 73 [c1, c2, .imm false cs.length (cs.flatMap Con.az)]))
    (y0 y2 y4 y7 y8 y9 y10 : AV) :
    Wp (exS (callF (tab tbl) prim) (.loop (loopAt c31 1)) ⟨[y0, .ptr (L + 1) 0 0, y2, bv z0, y4, .ptr (L + 1) j 0, .int .i64 0, y7, y8, y9, y10], frm (bs z0) T⟩)
      (fun e st => e = .exit 2 ∧ ∃ y6 y7 y9 y10, st = ⟨[y0, .ptr (L + 1) 0 0, y2, bv (z0 ++ bl (csay ds) cs), y4, .ptr (L + 1) j 0, y6, y7, y8, y9, y10], frm (bs (z0 ++ bl (csay ds) cs)) T⟩) := by
  have hg:=bGet hL
  have a1:=bA1 hbu
  have ai:=bAi hbu
  have a2:=fun z T h=>bAs hbu z T [32,40] h (by decide)
  have hF:=@spFields ds cs
  simp only [loopAt,loops,c31,List.nil_append,List.append_nil,List.getD_cons_zero,List.getD_cons_succ,List.cons_append]
  refine wLoop (fun m st=>∃ (q:Nat) (y7 y9 y10:AV) (z:List Int),(m:Int) = cs.length - q∧q ≤ cs.length∧z = z0 ++ bl (csay ds) (cs.take q) ∧
    st = ⟨[y0, .ptr (L + 1) 0 0, y2, bv z, y4, .ptr (L + 1) j 0, .int .i64 q, y7, y8, y9, y10], frm (bs z) T⟩) cs.length ?_ ?_
  · exact ⟨0, _, _, _, z0, by omega, by omega, by simp [bl], rfl⟩
  · rintro m st ⟨q, y7, y9, y10, z, hm, hq, hz1, rfl⟩
    by_cases hlt:q < cs.length
    · have hc0 := (con_at hlt).1
      have hle:=bl_le (f:=csay ds) (l:=cs) (q + 1)
      have htk:=bl_take (f:=csay ds) hlt
      rw [htk] at hle
      rw [csay_bl] at hle htk
      simp only [List.length_append,List.length_cons,List.length_nil] at hle
      have hzl:=congrArg List.length hz1
      rw [List.length_append] at hzl
      have hF1:=fun z0 (hz:z0.length + (bl (tsay ds) cs[q].fields).length ≤ 2000000000)=>hF (z0:=z0) hlt hbu hL hcl (hal _ (List.getElem_mem hlt)) (ih _ (List.getElem_mem hlt)) hz h0 hT
      unfold bsl at hc0
      generalize hnm:cs[q].name = nm at *
      repeat' (first|refine zw ?_|refine zn (fun hb=>?_) (fun hb=>?_)|refine zx ?_|refine zof (zA @hc0 (zA @hg (zA @h0 (zA @hT (zA @a1 (zA @a2 (zA @ai (zA @k32b (@hL))))))))) ?_|exact zi|fail)
      refine Wp.mono (hF1 _ (by simp only [List.length_append,List.length_cons,List.length_nil]; omega) _ _ _ _ _ _) ?_
      rintro e st ⟨rfl, z7, z10, rfl⟩
      repeat' (first|refine zw ?_|refine zn (fun hb=>?_) (fun hb=>?_)|refine zx ?_|refine zof (zA @hg (zA @a1 (@hL))) ?_|exact zi|fail)
      refine loopNor (m - 1) (by omega) ⟨q + 1,_,_,_,z ++ [32,40] ++ nm ++ bl (tsay ds) cs[q].fields ++ [41],by omega,by omega,?_,rfl⟩
      rw [htk,hz1]
      simp only [List.append_assoc,List.cons_append,List.nil_append]
    · obtain rfl : q = cs.length := by omega
      rw [List.take_length] at hz1
      subst hz1
      repeat' (first|refine zw ?_|refine zn (fun hb=>?_) (fun hb=>?_)|refine zx ?_|refine zof (zA @hg (zA @hT (@hL))) ?_|exact zi|fail)
      exact ⟨rfl,_,_,_,_,rfl⟩
set_option maxHeartbeats 8000000 in
theorem spDatas {ds : List Dt} {bv : List Int → AV} {bs : List Int → Store} (hbu : Buf 5 bv bs) {L : Nat} (hL : ∀ x, (bs x).low.length = L) (hdl : ds.length ≤ 100000000) (hok : ∀ d ∈ ds, d.ok) (hcl : ∀ d ∈ ds, d.cons.length ≤ 100000000 ∧ ∀ c ∈ d.cons, c.fields.length ≤ 100000000) (ih : ∀ d ∈ ds, ∀ c ∈ d.cons, ∀ x ∈ c.fields, tyC ds x)
    (hz : (ds.flatMap (dsay ds)).length ≤ 1000000000) {src : List AV} (y0 y2 y5 y6 y7 y8 y9 y10 : AV) :
    Wp (exS (callF (tab tbl) prim) (.loop (loopAt c31 0)) ⟨[y0, .ptr (L + 1) 0 0, y2, bv [], .int .i64 0, y5, y6, y7, y8, y9, y10], frm (bs []) [.box 38 (.imm false ds.length (ds.flatMap Dt.az) :: src)]⟩)
      (fun e st => e = .exit 0 ∧ ∃ y4 y5 y6 y7 y8 y9 y10 T, T[0]? = some (.box 38 (.imm false ds.length (ds.flatMap Dt.az) :: src)) ∧ st = ⟨[y0, .ptr (L + 1) 0 0, y2, bv (ds.flatMap (dsay ds)), y4, y5, y6, y7, y8, y9, y10], frm (bs (ds.flatMap (dsay ds))) T⟩) := by
  have hg:=bGet hL
  have hst:=bSet hL
  have a1:=bA1 hbu
  have ai:=bAi hbu
  have a6:=fun z T h=>bAs hbu z T [40,100,97,116,97,32] h (by decide)
  have a2:=fun z T h=>bAs hbu z T [41,10] h (by decide)
  have hC:=@spCons ds
  simp only [loopAt,loops,c31,List.nil_append,List.append_nil,List.getD_cons_zero,List.cons_append]
  refine wLoop (fun m st=>∃ (q:Nat) (y5 y6 y7 y8 y9 y10:AV) (T:List Ae.Obj) (z:List Int),(m:Int) = ds.length - q∧q ≤ ds.length∧z = (ds.take q).flatMap (dsay ds)∧T[0]? = some (.box 38 (.imm false ds.length (ds.flatMap Dt.az) :: src)) ∧
    st = ⟨[y0, .ptr (L + 1) 0 0, y2, bv z, .int .i64 q, y5, y6, y7, y8, y9, y10], frm (bs z) T⟩) ds.length ?_ ?_
  · exact ⟨0, _, _, _, _, _, _, _, [], by omega, by omega, by simp, rfl, rfl⟩
  · rintro m st ⟨q, y5, y6, y7, y8, y9, y10, T, z, hm, hq, hz1, h0, rfl⟩
    by_cases hlt:q < ds.length
    · obtain ⟨ha1, ha2⟩ := fm_at Dt.len hlt
      have hmem:=List.getElem_mem hlt
      have hdo:=hok _ hmem
      have hcl1:=hcl _ hmem
      have hi:=ih _ hmem
      have hpre:=dsay_pre hlt (dsay ds)
      have hle:=dsay_le (ds:=ds) (q + 1) (dsay ds)
      rw [hpre,List.length_append,← hz1] at hle
      rw [dsay_bl] at hle hpre
      generalize ds[q] = d at *
      obtain ⟨name,vars,cons⟩:=d
      simp only [Dt.az,bsl] at ha2
      simp only at hcl1 hi hle hpre
      simp only [List.length_append,List.length_cons,List.length_nil] at hle
      have hnl:=num_len hdo.2.1
      have hD:=fun z T=>digits_ok (n:=vars) (s:=bs z) (T:=T) hdo.2.1
      have h0':=pt_at (o:=.box 73 [.imm false name.length (by8 name),.int .i64 vars,.imm false cons.length (cons.flatMap Con.az)]) h0
      have hT':=app_at T (.box 73 [.imm false name.length (by8 name),.int .i64 vars,.imm false cons.length (cons.flatMap Con.az)])
      repeat' (first|refine zw ?_|refine zn (fun hb=>?_) (fun hb=>?_)|refine zx ?_|(refine zk (hD _ _) ?_; rintro _ _ ⟨T1, rfl, hN, hX⟩)|refine zof (zA @ha1 (zA @ha2 (zA @hg (zA @hst (zA @h0 (zA @h0' (zA @a1 (zA @a6 (zA @ai (zA @k40c (@hL))))))))))) ?_|exact zi|fail)
      have aD:=fun h=>(hbu.frm T1).app (x:=z ++ [40,100,97,116,97,32] ++ name ++ [32]) (slN_src hN rfl) h
      simp only [List.length_append,List.length_cons,List.length_nil] at aD
      have hX0:=hX _ _ h0'
      have hXT:=hX _ _ hT'
      repeat' (first|refine zw ?_|refine zn (fun hb=>?_) (fun hb=>?_)|refine zx ?_|refine zof (zA @hg (zA @hX0 (zA @hXT (zA @aD (zA @hT' (@hL)))))) ?_|exact zi|fail)
      refine Wp.mono (hC (z0:=z ++ [40,100,97,116,97,32] ++ name ++ [32] ++ num vars) hbu hL (by omega) hcl1.2 hi (by simp only [List.length_append,List.length_cons,List.length_nil]; omega) hX0 hXT _ _ _ _ _ _ _) ?_
      rintro e st ⟨rfl, z6, z7, z9, z10, rfl⟩
      repeat' (first|refine zw ?_|refine zn (fun hb=>?_) (fun hb=>?_)|refine zx ?_|refine zof (zA @hg (zA @a2 (zA @k41n (@hL)))) ?_|exact zi|fail)
      refine loopNor (m - 1) (by omega) ⟨q + 1,_,_,_,_,_,_,T1,z ++ [40,100,97,116,97,32] ++ name ++ [32] ++ num vars ++ bl (csay ds) cons ++ [41,10],by omega,by omega,?_,hX0,rfl⟩
      rw [hpre,hz1]
      simp only [List.append_assoc,List.cons_append,List.nil_append]
    · obtain rfl : q = ds.length := by omega
      rw [List.take_length] at hz1
      subst hz1
      repeat' (first|refine zw ?_|refine zn (fun hb=>?_) (fun hb=>?_)|refine zx ?_|refine zof (zA @hg (zA @h0 (@hL))) ?_|exact zi|fail)
      exact ⟨rfl,_,_,_,_,_,_,_,T,h0,rfl⟩
theorem src_sizes {src : Sr} (ho : src.ok) (hsz : src.sz ≤ 10000000) (hd : datasP src.datas) : (ssay src).length ≤ 1000000000 ∧ src.datas.length ≤ 100000000 ∧ (∀ d ∈ src.datas, d.cons.length ≤ 100000000 ∧ ∀ c ∈ d.cons, c.fields.length ≤ 100000000 ∧ ∀ x ∈ c.fields, x.ok ∧ x.sz ≤ 100000000) ∧ src.body.sz ≤ 100000000 := by
  have hlen:=ssay_len (datas_names hd) ho
  simp only [Sr.sz] at hsz hlen
  refine ⟨by omega,by have:=sizes_len Dt.sz src.datas; omega,fun d hd=>?_,by omega⟩
  have h1:=sizes_mem Dt.sz hd
  simp only [Dt.sz] at h1
  have h2:=sizes_len Con.sz d.cons
  refine ⟨by omega,fun c hc=>?_⟩
  have h3:=sizes_mem Con.sz hc
  simp only [Con.sz] at h3
  have h4:=sizes_len Ty.sz c.fields
  refine ⟨by omega,fun x hx=>?_⟩
  have h5:=sizes_mem Ty.sz hx
  exact ⟨(ho.1.2 d hd).2.2.2 c hc |>.2.2 x hx,by omega⟩
set_option maxHeartbeats 16000000 in
theorem specPrint {src : Sr} (ho : src.ok) (hsz : src.sz ≤ 10000000) (hd : datasP src.datas) (hx : XB 1 src.body) (s : Store) :
    callF (tab tbl) prim 31 [.agg src.az] s = some (.slr 0 s.len0 0 (ssay src).length (ssay src).length false, s.new0 (.arr 5 1 (by8 (ssay src)) (ssay src).length (ssay src).length)) := by
  obtain ⟨hlen,hdl,hcl,hbz⟩:=src_sizes ho hsz hd
  have hF:=datas_fgd hd
  obtain ⟨ds,body⟩:=src
  simp only at hF hx hdl hcl hbz
  simp only [Sr.ok] at ho
  obtain ⟨⟨_,hod⟩,hob⟩:=ho
  obtain ⟨bv,bs,hbu,hb0,hs0,hbx⟩:=Buf.new 5 s
  obtain ⟨L,hL⟩:=bLow hbu
  have hss:ssay ⟨ds,body⟩ = ds.flatMap (dsay ds) ++ xsay body ++ [10]:=rfl
  rw [hss] at hlen ⊢
  simp only [List.length_append,List.length_cons,List.length_nil] at hlen
  have ih:∀ d ∈ ds,∀ c ∈ d.cons,∀ x ∈ c.fields,tyC ds x:=fun d hd c hc x hx=>specSayTy (by omega) x ((hcl d hd).2 c hc |>.2 x hx).1 ((hcl d hd).2 c hc |>.2 x hx).2 (hF d hd c hc x hx)
  have hsay:=fun z T h=>specSay body hob (by omega) 1 hx.1 bv (fun x=>frm (bs x) T) z (hbu.frm T) h
  have hg:=bGet hL
  have a1:=bA1 hbu
  have hlb:=bLb hbu
  have hne:ds.flatMap (dsay ds) ++ xsay body ++ [10] ≠ []:=by simp
  have hbe:=hbx _ hne
  rw [← hbe.1,← hbe.2]
  obtain ⟨k,n,name,arg,lit,kids,arms⟩:=body
  have hLp:=fun y0 y2 y5 y6 y7 y8 y9 y10=>spDatas (ds:=ds) (src:=zcs k n name arg lit kids arms) hbu hL (by omega) hod (fun d hd=>⟨(hcl d hd).1,fun c hc=>((hcl d hd).2 c hc).1⟩) ih (by omega) y0 y2 y5 y6 y7 y8 y9 y10
  rw [hb0,hs0] at hLp
  have hLs:s.low.length = L:=by rw [← hs0]; exact hL []
  subst hLs
  simp only [Sr.az,az_zcs] at hsay ⊢
  refine funY rfl rfl zt ?_
  repeat' (first|refine zw ?_|refine zn (fun hb=>?_) (fun hb=>?_)|refine zx ?_|refine zo ?_|exact zi|fail)
  refine Wp.mono (hLp _ _ _ _ _ _ _ _) ?_
  rintro e st ⟨rfl, y4, y5, y6, y7, y8, y9, y10, T, h0, rfl⟩
  repeat' (first|refine zw ?_|refine zn (fun hb=>?_) (fun hb=>?_)|refine zx ?_|((with_reducible apply endB hbu); (focus (exact zs)); (focus rfl))|refine zof (zA @hg (zA @h0 (zA @hsay (zA @a1 (zA @hlb (@hL)))))) ?_|exact zi|fail)
set_option maxHeartbeats 16000000 in
theorem specSource {src : Sr} (ho : src.ok) (hsz : src.sz ≤ 10000000) (s : Store) :
    ∃ v s', callF (tab tbl) prim 9 [.agg src.az] s = some (v, s') ∧ v = .bool (decide (srcP src)) ∧ (s' = s ∨ ∃ o, s' = s.new0 o) := by
  have hD:=fun s=>specDatas ho.1.2 (by have:=hsz; simp only [Sr.sz] at this; omega) s
  have hP:=specPrint ho hsz
  have hss:∀ h:srcP src,datasP src.datas∧XB 1 src.body∧(ssay src).length ≤ 4000:=fun h=>h
  have hl2:datasP src.datas→(ssay src).length ≤ 1000000000:=fun h=>(src_sizes ho hsz h).1
  have hC:=fun s=>specExpr src.body ho.2 (by have:=hsz; simp only [Sr.sz] at this; omega) 1 s (by omega)
  rw [show ((1:Nat):Int) = 1 from rfl] at hC
  obtain ⟨ds,body⟩:=src
  have hmc:=xms_cases (-1) 1 body
  obtain ⟨k,n,name,arg,lit,kids,arms⟩:=body
  simp only [Sr.az,az_zcs] at hC hP hD ⊢
  simp only at hss hmc
  by_cases hd:datasP ds
  · rw [← datas_yes hd] at hD
    rcases hmc with ⟨hx, hm, hm3⟩ | ⟨hx, hm⟩
    · have hP := fun s => hP hd hx s
      have hl2:=hl2 hd
      rw [hm] at hC
      refine funZ rfl (zaf (zA @hD (zA @hC (@hP)))) zt ?_
      repeat' (first|refine zw ?_|refine zn (fun hb=>?_) (fun hb=>?_)|refine zx ?_|refine zof (zA @hD (zA @hC (@hP))) ?_|exact zi|fail)
      all_goals
        refine ⟨?_,.inr ⟨_,by rw [frm_new0,pop_frm]⟩⟩
        congr 1
        first
        | exact (decide_eq_true (show srcP _ from ⟨hd, hx, by omega⟩)).symm
        | exact (decide_eq_false fun h => by have := (hss h).2.2; omega).symm
        | (rw [Bool.eq_iff_iff]
           simp only [decide_eq_true_eq]
           exact ⟨fun h=>⟨hd,hx,by omega⟩,fun h=>by have:=(hss h).2.2; omega⟩)
    · rw [hm] at hC
      refine funZ rfl (zaf (zA @hD (@hC))) zt ?_
      repeat' (first|refine zw ?_|refine zn (fun hb=>?_) (fun hb=>?_)|refine zx ?_|refine zof (zA @hD (@hC)) ?_|exact zi|fail)
      all_goals exact ⟨congrArg AV.bool (decide_eq_false fun h => hx (hss h).2.1).symm, .inl rfl⟩
  · rw [← datas_no hd] at hD
    refine funZ rfl (zaf @hD) zt ?_
    repeat' (first|refine zw ?_|refine zn (fun hb=>?_) (fun hb=>?_)|refine zx ?_|refine zof @hD ?_|exact zi|fail)
    all_goals exact ⟨congrArg AV.bool (decide_eq_false fun h => hd (hss h).1).symm, .inl rfl⟩
theorem inFrm {f : Nat} {az : List AV} {b : Bool} (h : ∀ s, ∃ v s', callF (tab tbl) prim f az s = some (v, s') ∧ v = .bool b ∧ (s' = s ∨ ∃ o, s' = s.new0 o)) (s : Store) (T : List Ae.Obj) :
    ∃ v s', callF (tab tbl) prim f az (frm s T) = some (v, s') ∧ v = .bool b ∧ ∃ s2, s' = frm s2 T ∧ s2.low.length = s.low.length := by
  obtain ⟨v,s',e,h1,h2⟩:=h (frm s T)
  refine ⟨v,s',e,h1,?_⟩
  rcases h2 with rfl | ⟨o, rfl⟩
  · exact ⟨s, rfl, rfl⟩
  · exact ⟨s.new0 o, frm_new0 s T o, new0_len s o⟩
set_option maxHeartbeats 8000000 in
theorem law_src {src : Sr} (ho : src.ok) (s : Store) : ∃ v s', callF (tab tbl) prim 3 [.agg src.az] s = some (v, s') ∧ v = .bool true := by
  have hz:=fun s=>szSource_ok (prim:=prim) src ho 1048576 s (by omega) (by omega)
  have hsp:=szr_spec 1048576 src.sz
  by_cases h:src.sz ≤ 1048576
  · have hT := fun s => toSource_ok (prim := prim) src (by omega) s
    have hE:=fun s=>eqSource_ok (prim:=prim) src (by omega) s
    have hS:=fun s T=>inFrm (specSource ho (by omega)) s T
    have hI:=fun s T=>inFrm (implSource ho (by omega)) s T
    generalize szr 1048576 src.sz = z at *
    generalize decide (srcP src) = b at *
    obtain ⟨ds,⟨k,n,name,arg,lit,kids,arms⟩⟩:=src
    simp only [Sr.az,az_zcs] at hz hT hE hS hI ⊢
    refine funZ rfl (zaf (zA @hz (zA @hT (@hE)))) zt ?_
    repeat' (first|refine zw ?_|refine zn (fun hb=>?_) (fun hb=>?_)|refine zx ?_|(refine zk (hS _ _) ?_; rintro _ _ ⟨rfl, s2, rfl, hl2⟩)|(refine zk (hI _ _) ?_; rintro _ _ ⟨rfl, s3, rfl, hl3⟩)|refine zof (zA @hz (zA @hT (@hE))) ?_|exact zi|fail)
    all_goals first
      | rfl
      | (exfalso; omega)
      | (exfalso; simp_all; done)
  · generalize szr 1048576 src.sz = z at *
    obtain ⟨ds,⟨k,n,name,arg,lit,kids,arms⟩⟩:=src
    simp only [Sr.az,az_zcs] at hz ⊢
    refine funZ rfl (zaf @hz) zt ?_
    repeat' (first|refine zw ?_|refine zn (fun hb=>?_) (fun hb=>?_)|refine zx ?_|refine zof @hz ?_|exact zi|fail)
    all_goals first
      | rfl
      | (exfalso; omega)
end Go.Proofs.YtkjonfojileipaaGreatDoor.Gq
