/- MADE BY PROGRAM (mksb.py): the laws' own functions over sources: how great one is, its copy, whether two are alike. Words and brackets, for the program. Types in datas, for the program. A pointer to cells, wherever they lie: in a frozen row, or in a box below. Words: what a small word, a great word, a name is, for the program and for the reference. Types: when a type is one, for the program and for the reference. -/
import Derived.Test.YtkjonfojileipaaGreatDoorW3
set_option linter.unusedSimpArgs false
set_option linter.unusedVariables false
namespace Go.Proofs.YtkjonfojileipaaGreatDoor.Gq
open Go Go.Proofs Go.Proofs.YtkjonfojileipaaGreatDoor.Ae
attribute [local congr] obind_congr
attribute [local push_cast] exF argsV frzs frz frzL frz1 exS_reg exS_seq exS_cond exS_alt exS_block exS_loop exS_exit exS_ret exS_skip evReg evOps evOne evAct evOp rd putV st0 evEnd resV resL resOne oneOr frzR loadV storeV binV binI unV push_frm pop_frm frm_len frm_top frm_get_top frm_set_top frm_new AV.cells AV.lowB AV.lowL AV.isCell cellsOk set_len Option.bind_some Option.map_some Option.map_none List.getD_cons_zero List.getD_cons_succ List.nil_append List.cons_append List.append_nil List.length_cons List.length_nil List.set_cons_zero List.set_cons_succ List.map_cons List.map_nil List.replicate if_true if_false ite_true ite_false ite_self Bool.false_eq_true List.all_cons List.all_nil Bool.and_true Bool.true_and Bool.and_self Bool.and_eq_true List.getElem?_cons_zero List.getElem?_cons_succ List.drop_succ_cons List.drop_zero List.take_succ_cons List.take_zero true_and and_true and_self decide_true decide_false Bool.not_true Bool.not_false Prod.mk.injEq Option.some.injEq List.getElem?_drop optInt elems sliceV partsOf Nat.add_zero Nat.zero_add Nat.mul_one beq_self_eq_true litParts Bool.or_false Bool.false_or Bool.or_true Bool.true_or Bool.false_and Bool.and_false List.cons.injEq not_false_eq_true not_true_eq_false Nat.zero_le Nat.le_refl gt_iff_lt ge_iff_le List.drop_nil List.take_nil newBox List.length_append List.length_map bne_self_eq_false eq_self Nat.lt_add_one ne_eq false_implies Int.le_refl
theorem szr_le (l : Int) (n : Nat) (h : 0 ≤ l) : szr l n ≤ l := by unfold szr; split <;> omega
theorem szr_spec (l : Int) (n : Nat) : ((n : Int) ≤ l ∧ szr l n = l - n) ∨ (l < n ∧ szr l n = -1) := by
  unfold szr
  split
  · exact .inl ⟨by assumption, rfl⟩
  · exact .inr ⟨by omega, rfl⟩
variable {prim : CallT}

set_option maxHeartbeats 8000000 in
theorem szTy_ok : ∀ t : Ty, t.ok → ∀ (left : Int) (s : Store), 0 ≤ left → left ≤ 1000000000 → callF (tab tbl) prim 201 [.agg t.az, .int .i64 left] s = some (.int .i64 (szr left t.sz), s) := by
  refine Ty.ind fun k n args ihargs=>?_
  intro hok
  intro left s h0 h1
  simp only [Ty.ok,okT_iff] at hok
  obtain ⟨_,_,hargs⟩:=hok
  have s0:=fun (left:Int) (s:Store) h0 h1=>szA_ok (T:=tab tbl) (prim:=prim) (g:=190) (enc:=Ty.az) (size:=Ty.sz) (l:=args) (fl:=false) (left:=left) (s:=s) rfl Ty.len (fun x hx left s h0 h1=>ihargs x hx (hargs.2 x hx) left s h0 h1) hargs.1 h0 h1
  have le0:=fun h=>szr_le (left) (sizes Ty.sz args) h
  simp only [Ty.sz,szT_eq]
  simp only [Ty.az,azT_eq]
  skip
  refine funY rfl (zaf @s0) zt ?_
  repeat' (first|refine zw ?_|refine zn (fun hb=>?_) (fun hb=>?_)|refine zx ?_|refine zof @s0 ?_|exact zi|fail)
  all_goals
    have q0:=szr_spec (left) (sizes Ty.sz args)
    have qt:=szr_spec left (sizes Ty.sz args)
    exact isI (congrArg (AV.int .i64) (by omega)) rfl

set_option maxHeartbeats 8000000 in
theorem szCon_ok : ∀ (t : Con), t.ok → ∀ (left : Int) (s : Store), 0 ≤ left → left ≤ 1000000000 → callF (tab tbl) prim 169 [.agg t.az, .int .i64 left] s = some (.int .i64 (szr left t.sz), s) := by
  rintro ⟨name, fields⟩ hok
  intro left s h0 h1
  obtain ⟨hname,hfields⟩:=hok
  have hname:=hname.1
  have s0:=fun (left:Int) (s:Store) h0 h1=>szN_ok (T:=tab tbl) (prim:=prim) (g:=54) (n:=name.length) (cs:=by8 name) (fl:=false) (left:=left) (s:=s) rfl hname h0 h1
  have s1:=fun (left:Int) (s:Store) h0 h1=>szA_ok (T:=tab tbl) (prim:=prim) (g:=190) (enc:=Ty.az) (size:=Ty.sz) (l:=fields) (fl:=false) (left:=left) (s:=s) rfl Ty.len (fun x hx left s h0 h1=>szTy_ok x (hfields.2 x hx) left s h0 h1) hfields.1 h0 h1
  have le0:=fun h=>szr_le (left) (name.length) h
  have le1:=fun h=>szr_le (szr (left) (name.length)) (sizes Ty.sz fields) h
  simp only [Con.sz]
  simp only [Con.az,bsl,azT_eq]
  simp only [bsl,by8] at *
  refine funY rfl (zaf (zA @s0 (@s1))) zt ?_
  repeat' (first|refine zw ?_|refine zn (fun hb=>?_) (fun hb=>?_)|refine zx ?_|refine zof (zA @s0 (@s1)) ?_|exact zi|fail)
  all_goals
    have q0:=szr_spec (left) (name.length)
    have q1:=szr_spec (szr (left) (name.length)) (sizes Ty.sz fields)
    have qt:=szr_spec left (name.length + sizes Ty.sz fields)
    exact isI (congrArg (AV.int .i64) (by omega)) rfl

set_option maxHeartbeats 8000000 in
theorem szData_ok : ∀ (t : Dt), t.ok → ∀ (left : Int) (s : Store), 0 ≤ left → left ≤ 1000000000 → callF (tab tbl) prim 53 [.agg t.az, .int .i64 left] s = some (.int .i64 (szr left t.sz), s) := by
  rintro ⟨name, vars, cons⟩ hok
  intro left s h0 h1
  obtain ⟨hname,_,hcons⟩:=hok
  have hname:=hname.1
  have s0:=fun (left:Int) (s:Store) h0 h1=>szN_ok (T:=tab tbl) (prim:=prim) (g:=54) (n:=name.length) (cs:=by8 name) (fl:=false) (left:=left) (s:=s) rfl hname h0 h1
  have s1:=fun (left:Int) (s:Store) h0 h1=>szA_ok (T:=tab tbl) (prim:=prim) (g:=111) (enc:=Con.az) (size:=Con.sz) (l:=cons) (fl:=false) (left:=left) (s:=s) rfl Con.len (fun x hx left s h0 h1=>szCon_ok x (hcons.2 x hx) left s h0 h1) hcons.1 h0 h1
  have le0:=fun h=>szr_le (left) (name.length) h
  have le1:=fun h=>szr_le (szr (left) (name.length)) (sizes Con.sz cons) h
  simp only [Dt.sz]
  simp only [Dt.az,bsl]
  simp only [bsl,by8] at *
  refine funY rfl (zaf (zA @s0 (@s1))) zt ?_
  repeat' (first|refine zw ?_|refine zn (fun hb=>?_) (fun hb=>?_)|refine zx ?_|refine zof (zA @s0 (@s1)) ?_|exact zi|fail)
  all_goals
    have q0:=szr_spec (left) (name.length)
    have q1:=szr_spec (szr (left) (name.length)) (sizes Con.sz cons)
    have qt:=szr_spec left (name.length + sizes Con.sz cons)
    exact isI (congrArg (AV.int .i64) (by omega)) rfl

set_option maxHeartbeats 8000000 in
theorem szArm_of : ∀ (t : Arm), t.ok → (t.body.ok → ∀ (left : Int) (s : Store), 0 ≤ left → left ≤ 1000000000 → callF (tab tbl) prim 28 [.agg t.body.az, .int .i64 left] s = some (.int .i64 (szr left t.body.sz), s)) → ∀ (left : Int) (s : Store), 0 ≤ left → left ≤ 1000000000 → callF (tab tbl) prim 112 [.agg t.az, .int .i64 left] s = some (.int .i64 (szr left t.sz), s) := by
  rintro ⟨con, vars, body⟩
  intro hok hB
  simp only [Arm.body] at hB
  intro left s h0 h1
  simp only [Arm.ok] at hok
  obtain ⟨hcon,hvars,hbody⟩:=hok
  have hcon:=hcon.1
  have hvars:vars.length ≤ 9223372036854775807∧∀ x ∈ vars,x.length ≤ 9223372036854775807:=⟨hvars.1,fun x hx=>(hvars.2 x hx).1⟩
  have s0:=fun (left:Int) (s:Store) h0 h1=>szN_ok (T:=tab tbl) (prim:=prim) (g:=54) (n:=con.length) (cs:=by8 con) (fl:=false) (left:=left) (s:=s) rfl hcon h0 h1
  have s1:=fun (left:Int) (s:Store) h0 h1=>szC_ok (T:=tab tbl) (prim:=prim) (g:=170) (ev:=bsl) (size:=List.length) (l:=vars) (fl:=false) (left:=left) (s:=s) rfl (fun x hx left s h0 h1=>szN_ok (T:=tab tbl) (prim:=prim) (g:=54) (n:=x.length) (cs:=by8 x) (fl:=false) (left:=left) (s:=s) rfl (hvars.2 x hx) h0 h1) hvars.1 h0 h1
  have s2:=hB hbody
  have le0:=fun h=>szr_le (left) (con.length) h
  have le1:=fun h=>szr_le (szr (left) (con.length)) (sizes List.length vars) h
  have le2:=fun h=>szr_le (szr (szr (left) (con.length)) (sizes List.length vars)) (body.sz) h
  simp only [Arm.sz]
  obtain ⟨bk,bn,bname,barg,blit,bkids,barms⟩:=body
  simp only [Xp.az,azE_eq,azA_eq,bsl] at s2
  simp only [Arm.az,Xp.az,azE_eq,azA_eq,bsl]
  simp only [bsl,by8] at *
  refine funY rfl (zaf (zA @s0 (zA @s1 (@s2)))) zt ?_
  repeat' (first|refine zw ?_|refine zn (fun hb=>?_) (fun hb=>?_)|refine zx ?_|refine zof (zA @s0 (zA @s1 (@s2))) ?_|exact zi|fail)
  all_goals
    have q0:=szr_spec (left) (con.length)
    have q1:=szr_spec (szr (left) (con.length)) (sizes List.length vars)
    have q2:=szr_spec (szr (szr (left) (con.length)) (sizes List.length vars)) ((Xp.mk bk bn bname barg blit bkids barms).sz)
    have qt:=szr_spec left (con.length + sizes List.length vars + (Xp.mk bk bn bname barg blit bkids barms).sz)
    exact isI (congrArg (AV.int .i64) (by omega)) rfl

set_option maxHeartbeats 8000000 in
theorem szExpr_ok : ∀ t : Xp, t.ok → ∀ (left : Int) (s : Store), 0 ≤ left → left ≤ 1000000000 → callF (tab tbl) prim 28 [.agg t.az, .int .i64 left] s = some (.int .i64 (szr left t.sz), s) := by
  refine Xp.ind fun k n name arg lit kids arms ihkids iharms=>?_
  intro hok
  intro left s h0 h1
  simp only [Xp.ok,okE_iff,okA_iff] at hok
  obtain ⟨_,_,hname,harg,hlit,hkids,harms⟩:=hok
  have hname:=hname.1
  have harg:=harg.1
  have hlit:=hlit.1
  have s0:=fun (left:Int) (s:Store) h0 h1=>szN_ok (T:=tab tbl) (prim:=prim) (g:=54) (n:=name.length) (cs:=by8 name) (fl:=false) (left:=left) (s:=s) rfl hname h0 h1
  have s1:=fun (left:Int) (s:Store) h0 h1=>szN_ok (T:=tab tbl) (prim:=prim) (g:=54) (n:=arg.length) (cs:=by8 arg) (fl:=false) (left:=left) (s:=s) rfl harg h0 h1
  have s2:=fun (left:Int) (s:Store) h0 h1=>szN_ok (T:=tab tbl) (prim:=prim) (g:=54) (n:=lit.length) (cs:=by8 lit) (fl:=false) (left:=left) (s:=s) rfl hlit h0 h1
  have s3:=fun (left:Int) (s:Store) h0 h1=>szA_ok (T:=tab tbl) (prim:=prim) (g:=55) (enc:=Xp.az) (size:=Xp.sz) (l:=kids) (fl:=false) (left:=left) (s:=s) rfl Xp.len (fun x hx left s h0 h1=>ihkids x hx (hkids.2 x hx) left s h0 h1) hkids.1 h0 h1
  have s4:=fun (left:Int) (s:Store) h0 h1=>szA_ok (T:=tab tbl) (prim:=prim) (g:=56) (enc:=Arm.az) (size:=Arm.sz) (l:=arms) (fl:=false) (left:=left) (s:=s) rfl Arm.len (fun x hx left s h0 h1=>szArm_of x (harms.2 x hx) (fun hb=>iharms x hx hb) left s h0 h1) harms.1 h0 h1
  have le0:=fun h=>szr_le (left) (name.length) h
  have le1:=fun h=>szr_le (szr (left) (name.length)) (arg.length) h
  have le2:=fun h=>szr_le (szr (szr (left) (name.length)) (arg.length)) (lit.length) h
  have le3:=fun h=>szr_le (szr (szr (szr (left) (name.length)) (arg.length)) (lit.length)) (sizes Xp.sz kids) h
  have le4:=fun h=>szr_le (szr (szr (szr (szr (left) (name.length)) (arg.length)) (lit.length)) (sizes Xp.sz kids)) (sizes Arm.sz arms) h
  simp only [Xp.sz,szE_eq,szA_eq]
  simp only [Xp.az,bsl,azE_eq,azA_eq]
  simp only [bsl,by8] at *
  refine funY rfl (zaf (zA @s0 (zA @s1 (zA @s2 (zA @s3 (@s4)))))) zt ?_
  repeat' (first|refine zw ?_|refine zn (fun hb=>?_) (fun hb=>?_)|refine zx ?_|refine zof (zA @s0 (zA @s1 (zA @s2 (zA @s3 (@s4))))) ?_|exact zi|fail)
  all_goals
    have q0:=szr_spec (left) (name.length)
    have q1:=szr_spec (szr (left) (name.length)) (arg.length)
    have q2:=szr_spec (szr (szr (left) (name.length)) (arg.length)) (lit.length)
    have q3:=szr_spec (szr (szr (szr (left) (name.length)) (arg.length)) (lit.length)) (sizes Xp.sz kids)
    have q4:=szr_spec (szr (szr (szr (szr (left) (name.length)) (arg.length)) (lit.length)) (sizes Xp.sz kids)) (sizes Arm.sz arms)
    have qt:=szr_spec left (name.length + arg.length + lit.length + sizes Xp.sz kids + sizes Arm.sz arms)
    exact isI (congrArg (AV.int .i64) (by omega)) rfl

set_option maxHeartbeats 8000000 in
theorem szSource_ok : ∀ (t : Sr), t.ok → ∀ (left : Int) (s : Store), 0 ≤ left → left ≤ 1000000000 → callF (tab tbl) prim 8 [.agg t.az, .int .i64 left] s = some (.int .i64 (szr left t.sz), s) := by
  rintro ⟨datas, body⟩ hok
  have hB:=szExpr_ok (prim:=prim) body
  intro left s h0 h1
  obtain ⟨hdatas,hbody⟩:=hok
  have s0:=fun (left:Int) (s:Store) h0 h1=>szA_ok (T:=tab tbl) (prim:=prim) (g:=27) (enc:=Dt.az) (size:=Dt.sz) (l:=datas) (fl:=false) (left:=left) (s:=s) rfl Dt.len (fun x hx left s h0 h1=>szData_ok x (hdatas.2 x hx) left s h0 h1) hdatas.1 h0 h1
  have s1:=hB hbody
  have le0:=fun h=>szr_le (left) (sizes Dt.sz datas) h
  have le1:=fun h=>szr_le (szr (left) (sizes Dt.sz datas)) (body.sz) h
  simp only [Sr.sz]
  obtain ⟨bk,bn,bname,barg,blit,bkids,barms⟩:=body
  simp only [Xp.az,azE_eq,azA_eq,bsl] at s1
  simp only [Sr.az,Xp.az,azE_eq,azA_eq,bsl]
  simp only [bsl,by8] at *
  refine funY rfl (zaf (zA @s0 (@s1))) zt ?_
  repeat' (first|refine zw ?_|refine zn (fun hb=>?_) (fun hb=>?_)|refine zx ?_|refine zof (zA @s0 (@s1)) ?_|exact zi|fail)
  all_goals
    have q0:=szr_spec (left) (sizes Dt.sz datas)
    have q1:=szr_spec (szr (left) (sizes Dt.sz datas)) ((Xp.mk bk bn bname barg blit bkids barms).sz)
    have qt:=szr_spec left (sizes Dt.sz datas + (Xp.mk bk bn bname barg blit bkids barms).sz)
    exact isI (congrArg (AV.int .i64) (by omega)) rfl

set_option maxHeartbeats 8000000 in
theorem toTy_ok : ∀ t : Ty, t.sz ≤ 1000000000 → ∀ s : Store, callF (tab tbl) prim 202 [.agg t.az] s = some (.agg t.az, s) := by
  refine Ty.ind fun k n args ihargs=>?_
  intro hok
  simp only [Ty.sz,szT_eq] at hok
  intro s
  have largs:=sizes_len Ty.sz args
  have s0:=fun (s:Store)=>toA_ok (T:=tab tbl) (prim:=prim) (g:=191) (enc:=Ty.az) (l:=args) (fl:=false) (s:=s) rfl rfl rfl Ty.len Ty.cok (fun x hx s=>by have:=sizes_mem Ty.sz hx; exact ihargs x hx (by omega) s) (by omega) (by omega)
  simp only [Ty.az,azT_eq]
  skip
  refine funY rfl (zaf @s0) zt ?_
  repeat' (first|refine zw ?_|refine zn (fun hb=>?_) (fun hb=>?_)|refine zx ?_|refine zof @s0 ?_|exact zi|fail)

set_option maxHeartbeats 8000000 in
theorem toCon_ok : ∀ (t : Con), t.sz ≤ 1000000000 → ∀ s : Store, callF (tab tbl) prim 173 [.agg t.az] s = some (.agg t.az, s) := by
  rintro ⟨name, fields⟩ hok
  simp only [Con.sz] at hok
  intro s
  have lfields:=sizes_len Ty.sz fields
  have s0:=fun (s:Store)=>toN_ok (T:=tab tbl) (prim:=prim) (g:=71) (ev:=AV.int .u8) (l:=name) (fl:=false) (s:=s) rfl rfl rfl (fun _=>rfl) (fun _=>⟨rfl,rfl⟩) (by omega) (by omega)
  have s1:=fun (s:Store)=>toA_ok (T:=tab tbl) (prim:=prim) (g:=191) (enc:=Ty.az) (l:=fields) (fl:=false) (s:=s) rfl rfl rfl Ty.len Ty.cok (fun x hx s=>by have:=sizes_mem Ty.sz hx; exact toTy_ok x (by omega) s) (by omega) (by omega)
  simp only [Con.az,bsl,azT_eq]
  simp only [bsl,by8] at *
  refine funY rfl (zaf (zA @s0 (@s1))) zt ?_
  repeat' (first|refine zw ?_|refine zn (fun hb=>?_) (fun hb=>?_)|refine zx ?_|refine zof (zA @s0 (@s1)) ?_|exact zi|fail)

set_option maxHeartbeats 8000000 in
theorem toData_ok : ∀ (t : Dt), t.sz ≤ 1000000000 → ∀ s : Store, callF (tab tbl) prim 70 [.agg t.az] s = some (.agg t.az, s) := by
  rintro ⟨name, vars, cons⟩ hok
  simp only [Dt.sz] at hok
  intro s
  have lcons:=sizes_len Con.sz cons
  have s0:=fun (s:Store)=>toN_ok (T:=tab tbl) (prim:=prim) (g:=71) (ev:=AV.int .u8) (l:=name) (fl:=false) (s:=s) rfl rfl rfl (fun _=>rfl) (fun _=>⟨rfl,rfl⟩) (by omega) (by omega)
  have s1:=fun (s:Store)=>toA_ok (T:=tab tbl) (prim:=prim) (g:=120) (enc:=Con.az) (l:=cons) (fl:=false) (s:=s) rfl rfl rfl Con.len Con.cok (fun x hx s=>by have:=sizes_mem Con.sz hx; exact toCon_ok x (by omega) s) (by omega) (by omega)
  simp only [Dt.az,bsl]
  simp only [bsl,by8] at *
  refine funY rfl (zaf (zA @s0 (@s1))) zt ?_
  repeat' (first|refine zw ?_|refine zn (fun hb=>?_) (fun hb=>?_)|refine zx ?_|refine zof (zA @s0 (@s1)) ?_|exact zi|fail)

set_option maxHeartbeats 8000000 in
theorem toArm_of : ∀ (t : Arm), t.sz ≤ 1000000000 → (t.body.sz ≤ 1000000000 → ∀ s : Store, callF (tab tbl) prim 33 [.agg t.body.az] s = some (.agg t.body.az, s)) → ∀ s : Store, callF (tab tbl) prim 121 [.agg t.az] s = some (.agg t.az, s) := by
  rintro ⟨con, vars, body⟩
  intro hok hB
  simp only [Arm.body] at hB
  simp only [Arm.sz] at hok
  intro s
  have lvars:=sizes_len List.length vars
  have s0:=fun (s:Store)=>toN_ok (T:=tab tbl) (prim:=prim) (g:=71) (ev:=AV.int .u8) (l:=con) (fl:=false) (s:=s) rfl rfl rfl (fun _=>rfl) (fun _=>⟨rfl,rfl⟩) (by omega) (by omega)
  have s1:=fun (s:Store)=>toC_ok (T:=tab tbl) (prim:=prim) (g:=174) (ev:=bsl) (l:=vars) (fl:=false) (s:=s) rfl rfl rfl (fun _=>rfl) (fun _=>⟨rfl,rfl⟩) (fun x hx s=>by have:=sizes_mem List.length hx; exact toN_ok (T:=tab tbl) (prim:=prim) (g:=71) (ev:=AV.int .u8) (l:=x) (fl:=false) (s:=s) rfl rfl rfl (fun _=>rfl) (fun _=>⟨rfl,rfl⟩) (by omega) (by omega)) (by omega) (by omega)
  have s2:=hB (by omega)
  obtain ⟨bk,bn,bname,barg,blit,bkids,barms⟩:=body
  simp only [Xp.az,azE_eq,azA_eq,bsl] at s2
  simp only [Arm.az,Xp.az,azE_eq,azA_eq,bsl]
  simp only [bsl,by8] at *
  refine funY rfl (zaf (zA @s0 (zA @s1 (@s2)))) zt ?_
  repeat' (first|refine zw ?_|refine zn (fun hb=>?_) (fun hb=>?_)|refine zx ?_|refine zof (zA @s0 (zA @s1 (@s2))) ?_|exact zi|fail)

set_option maxHeartbeats 8000000 in
theorem toExpr_ok : ∀ t : Xp, t.sz ≤ 1000000000 → ∀ s : Store, callF (tab tbl) prim 33 [.agg t.az] s = some (.agg t.az, s) := by
  refine Xp.ind fun k n name arg lit kids arms ihkids iharms=>?_
  intro hok
  simp only [Xp.sz,szE_eq,szA_eq] at hok
  intro s
  have lkids:=sizes_len Xp.sz kids
  have larms:=sizes_len Arm.sz arms
  have s0:=fun (s:Store)=>toN_ok (T:=tab tbl) (prim:=prim) (g:=71) (ev:=AV.int .u8) (l:=name) (fl:=false) (s:=s) rfl rfl rfl (fun _=>rfl) (fun _=>⟨rfl,rfl⟩) (by omega) (by omega)
  have s1:=fun (s:Store)=>toN_ok (T:=tab tbl) (prim:=prim) (g:=71) (ev:=AV.int .u8) (l:=arg) (fl:=false) (s:=s) rfl rfl rfl (fun _=>rfl) (fun _=>⟨rfl,rfl⟩) (by omega) (by omega)
  have s2:=fun (s:Store)=>toN_ok (T:=tab tbl) (prim:=prim) (g:=71) (ev:=AV.int .u8) (l:=lit) (fl:=false) (s:=s) rfl rfl rfl (fun _=>rfl) (fun _=>⟨rfl,rfl⟩) (by omega) (by omega)
  have s3:=fun (s:Store)=>toA_ok (T:=tab tbl) (prim:=prim) (g:=72) (enc:=Xp.az) (l:=kids) (fl:=false) (s:=s) rfl rfl rfl Xp.len Xp.cok (fun x hx s=>by have:=sizes_mem Xp.sz hx; exact ihkids x hx (by omega) s) (by omega) (by omega)
  have s4:=fun (s:Store)=>toA_ok (T:=tab tbl) (prim:=prim) (g:=73) (enc:=Arm.az) (l:=arms) (fl:=false) (s:=s) rfl rfl rfl Arm.len Arm.cok (fun x hx s=>by have:=sizes_mem Arm.sz hx; exact toArm_of x (by omega) (fun hb=>iharms x hx hb) s) (by omega) (by omega)
  simp only [Xp.az,bsl,azE_eq,azA_eq]
  simp only [bsl,by8] at *
  refine funY rfl (zaf (zA @s0 (zA @s1 (zA @s2 (zA @s3 (@s4)))))) zt ?_
  repeat' (first|refine zw ?_|refine zn (fun hb=>?_) (fun hb=>?_)|refine zx ?_|refine zof (zA @s0 (zA @s1 (zA @s2 (zA @s3 (@s4))))) ?_|exact zi|fail)

set_option maxHeartbeats 8000000 in
theorem toSource_ok : ∀ (t : Sr), t.sz ≤ 1000000000 → ∀ s : Store, callF (tab tbl) prim 10 [.agg t.az] s = some (.agg t.az, s) := by
  rintro ⟨datas, body⟩ hok
  have hB:=toExpr_ok (prim:=prim) body
  simp only [Sr.sz] at hok
  intro s
  have ldatas:=sizes_len Dt.sz datas
  have s0:=fun (s:Store)=>toA_ok (T:=tab tbl) (prim:=prim) (g:=32) (enc:=Dt.az) (l:=datas) (fl:=false) (s:=s) rfl rfl rfl Dt.len Dt.cok (fun x hx s=>by have:=sizes_mem Dt.sz hx; exact toData_ok x (by omega) s) (by omega) (by omega)
  have s1:=hB (by omega)
  obtain ⟨bk,bn,bname,barg,blit,bkids,barms⟩:=body
  simp only [Xp.az,azE_eq,azA_eq,bsl] at s1
  simp only [Sr.az,Xp.az,azE_eq,azA_eq,bsl]
  simp only [bsl,by8] at *
  refine funY rfl (zaf (zA @s0 (@s1))) zt ?_
  repeat' (first|refine zw ?_|refine zn (fun hb=>?_) (fun hb=>?_)|refine zx ?_|refine zof (zA @s0 (@s1)) ?_|exact zi|fail)

set_option maxHeartbeats 8000000 in
theorem eqTy_ok : ∀ t : Ty, t.sz ≤ 1000000000 → ∀ s : Store, callF (tab tbl) prim 208 [.agg t.az, .agg t.az] s = some (.bool true, s) := by
  refine Ty.ind fun k n args ihargs=>?_
  intro hok
  simp only [Ty.sz,szT_eq] at hok
  intro s
  have largs:=sizes_len Ty.sz args
  have s0:=fun (s:Store)=>eqA_ok (T:=tab tbl) (prim:=prim) (g:=198) (enc:=Ty.az) (l:=args) (f1:=false) (f2:=false) (s:=s) rfl Ty.len (fun x hx s=>by have:=sizes_mem Ty.sz hx; exact ihargs x hx (by omega) s) (by omega)
  simp only [Ty.az,azT_eq]
  skip
  refine funY rfl (zaf @s0) zt ?_
  repeat' (first|refine zw ?_|refine zn (fun hb=>?_) (fun hb=>?_)|refine zx ?_|refine zof @s0 ?_|exact zi|fail)

set_option maxHeartbeats 8000000 in
theorem eqCon_ok : ∀ (t : Con), t.sz ≤ 1000000000 → ∀ s : Store, callF (tab tbl) prim 182 [.agg t.az, .agg t.az] s = some (.bool true, s) := by
  rintro ⟨name, fields⟩ hok
  simp only [Con.sz] at hok
  intro s
  have lfields:=sizes_len Ty.sz fields
  have s0:=fun (s:Store)=>eqN_ok (T:=tab tbl) (prim:=prim) (g:=17) (k:=.u8) (l:=name) (f1:=false) (f2:=false) (s:=s) rfl (by omega)
  have s1:=fun (s:Store)=>eqA_ok (T:=tab tbl) (prim:=prim) (g:=198) (enc:=Ty.az) (l:=fields) (f1:=false) (f2:=false) (s:=s) rfl Ty.len (fun x hx s=>by have:=sizes_mem Ty.sz hx; exact eqTy_ok x (by omega) s) (by omega)
  simp only [Con.az,bsl,azT_eq]
  simp only [bsl,by8] at *
  refine funY rfl (zaf (zA @s0 (@s1))) zt ?_
  repeat' (first|refine zw ?_|refine zn (fun hb=>?_) (fun hb=>?_)|refine zx ?_|refine zof (zA @s0 (@s1)) ?_|exact zi|fail)

set_option maxHeartbeats 8000000 in
theorem eqData_ok : ∀ (t : Dt), t.sz ≤ 1000000000 → ∀ s : Store, callF (tab tbl) prim 82 [.agg t.az, .agg t.az] s = some (.bool true, s) := by
  rintro ⟨name, vars, cons⟩ hok
  simp only [Dt.sz] at hok
  intro s
  have lcons:=sizes_len Con.sz cons
  have s0:=fun (s:Store)=>eqN_ok (T:=tab tbl) (prim:=prim) (g:=17) (k:=.u8) (l:=name) (f1:=false) (f2:=false) (s:=s) rfl (by omega)
  have s1:=fun (s:Store)=>eqA_ok (T:=tab tbl) (prim:=prim) (g:=137) (enc:=Con.az) (l:=cons) (f1:=false) (f2:=false) (s:=s) rfl Con.len (fun x hx s=>by have:=sizes_mem Con.sz hx; exact eqCon_ok x (by omega) s) (by omega)
  simp only [Dt.az,bsl]
  simp only [bsl,by8] at *
  refine funY rfl (zaf (zA @s0 (@s1))) zt ?_
  repeat' (first|refine zw ?_|refine zn (fun hb=>?_) (fun hb=>?_)|refine zx ?_|refine zof (zA @s0 (@s1)) ?_|exact zi|fail)

set_option maxHeartbeats 8000000 in
theorem eqArm_of : ∀ (t : Arm), t.sz ≤ 1000000000 → (t.body.sz ≤ 1000000000 → ∀ s : Store, callF (tab tbl) prim 37 [.agg t.body.az, .agg t.body.az] s = some (.bool true, s)) → ∀ s : Store, callF (tab tbl) prim 138 [.agg t.az, .agg t.az] s = some (.bool true, s) := by
  rintro ⟨con, vars, body⟩
  intro hok hB
  simp only [Arm.body] at hB
  simp only [Arm.sz] at hok
  intro s
  have lvars:=sizes_len List.length vars
  have s0:=fun (s:Store)=>eqN_ok (T:=tab tbl) (prim:=prim) (g:=17) (k:=.u8) (l:=con) (f1:=false) (f2:=false) (s:=s) rfl (by omega)
  have s1:=fun (s:Store)=>eqC_ok (T:=tab tbl) (prim:=prim) (g:=183) (ev:=bsl) (l:=vars) (f1:=false) (f2:=false) (s:=s) rfl (fun x hx s=>by have:=sizes_mem List.length hx; exact eqN_ok (T:=tab tbl) (prim:=prim) (g:=17) (k:=.u8) (l:=x) (f1:=false) (f2:=false) (s:=s) rfl (by omega)) (by omega)
  have s2:=hB (by omega)
  obtain ⟨bk,bn,bname,barg,blit,bkids,barms⟩:=body
  simp only [Xp.az,azE_eq,azA_eq,bsl] at s2
  simp only [Arm.az,Xp.az,azE_eq,azA_eq,bsl]
  simp only [bsl,by8] at *
  refine funY rfl (zaf (zA @s0 (zA @s1 (@s2)))) zt ?_
  repeat' (first|refine zw ?_|refine zn (fun hb=>?_) (fun hb=>?_)|refine zx ?_|refine zof (zA @s0 (zA @s1 (@s2))) ?_|exact zi|fail)

set_option maxHeartbeats 8000000 in
theorem eqExpr_ok : ∀ t : Xp, t.sz ≤ 1000000000 → ∀ s : Store, callF (tab tbl) prim 37 [.agg t.az, .agg t.az] s = some (.bool true, s) := by
  refine Xp.ind fun k n name arg lit kids arms ihkids iharms=>?_
  intro hok
  simp only [Xp.sz,szE_eq,szA_eq] at hok
  intro s
  have lkids:=sizes_len Xp.sz kids
  have larms:=sizes_len Arm.sz arms
  have s0:=fun (s:Store)=>eqN_ok (T:=tab tbl) (prim:=prim) (g:=17) (k:=.u8) (l:=name) (f1:=false) (f2:=false) (s:=s) rfl (by omega)
  have s1:=fun (s:Store)=>eqN_ok (T:=tab tbl) (prim:=prim) (g:=17) (k:=.u8) (l:=arg) (f1:=false) (f2:=false) (s:=s) rfl (by omega)
  have s2:=fun (s:Store)=>eqN_ok (T:=tab tbl) (prim:=prim) (g:=17) (k:=.u8) (l:=lit) (f1:=false) (f2:=false) (s:=s) rfl (by omega)
  have s3:=fun (s:Store)=>eqA_ok (T:=tab tbl) (prim:=prim) (g:=83) (enc:=Xp.az) (l:=kids) (f1:=false) (f2:=false) (s:=s) rfl Xp.len (fun x hx s=>by have:=sizes_mem Xp.sz hx; exact ihkids x hx (by omega) s) (by omega)
  have s4:=fun (s:Store)=>eqA_ok (T:=tab tbl) (prim:=prim) (g:=84) (enc:=Arm.az) (l:=arms) (f1:=false) (f2:=false) (s:=s) rfl Arm.len (fun x hx s=>by have:=sizes_mem Arm.sz hx; exact eqArm_of x (by omega) (fun hb=>iharms x hx hb) s) (by omega)
  simp only [Xp.az,bsl,azE_eq,azA_eq]
  simp only [bsl,by8] at *
  refine funY rfl (zaf (zA @s0 (zA @s1 (zA @s2 (zA @s3 (@s4)))))) zt ?_
  repeat' (first|refine zw ?_|refine zn (fun hb=>?_) (fun hb=>?_)|refine zx ?_|refine zof (zA @s0 (zA @s1 (zA @s2 (zA @s3 (@s4))))) ?_|exact zi|fail)

set_option maxHeartbeats 8000000 in
theorem eqSource_ok : ∀ (t : Sr), t.sz ≤ 1000000000 → ∀ s : Store, callF (tab tbl) prim 12 [.agg t.az, .agg t.az] s = some (.bool true, s) := by
  rintro ⟨datas, body⟩ hok
  have hB:=eqExpr_ok (prim:=prim) body
  simp only [Sr.sz] at hok
  intro s
  have ldatas:=sizes_len Dt.sz datas
  have s0:=fun (s:Store)=>eqA_ok (T:=tab tbl) (prim:=prim) (g:=36) (enc:=Dt.az) (l:=datas) (f1:=false) (f2:=false) (s:=s) rfl Dt.len (fun x hx s=>by have:=sizes_mem Dt.sz hx; exact eqData_ok x (by omega) s) (by omega)
  have s1:=hB (by omega)
  obtain ⟨bk,bn,bname,barg,blit,bkids,barms⟩:=body
  simp only [Xp.az,azE_eq,azA_eq,bsl] at s1
  simp only [Sr.az,Xp.az,azE_eq,azA_eq,bsl]
  simp only [bsl,by8] at *
  refine funY rfl (zaf (zA @s0 (@s1))) zt ?_
  repeat' (first|refine zw ?_|refine zn (fun hb=>?_) (fun hb=>?_)|refine zx ?_|refine zof (zA @s0 (@s1)) ?_|exact zi|fail)
end Go.Proofs.YtkjonfojileipaaGreatDoor.Gq
namespace Go.Proofs.YtkjonfojileipaaGreatDoor.Gq
open Go Go.Proofs Go.Proofs.YtkjonfojileipaaGreatDoor.Ae
attribute [local congr] obind_congr
attribute [local push_cast] exF argsV frzs frz frzL frz1 exS_reg exS_seq exS_cond exS_alt exS_block exS_loop exS_exit exS_ret exS_skip evReg evOps evOne evAct evOp rd putV st0 evEnd resV resL resOne oneOr frzR loadV storeV binV binI unV push_frm pop_frm frm_len frm_top frm_get_top frm_set_top frm_new AV.cells AV.lowB AV.lowL AV.isCell cellsOk set_len Option.bind_some Option.map_some Option.map_none List.getD_cons_zero List.getD_cons_succ List.nil_append List.cons_append List.append_nil List.length_cons List.length_nil List.set_cons_zero List.set_cons_succ List.map_cons List.map_nil List.replicate if_true if_false ite_true ite_false ite_self Bool.false_eq_true List.all_cons List.all_nil Bool.and_true Bool.true_and Bool.and_self Bool.and_eq_true List.getElem?_cons_zero List.getElem?_cons_succ List.drop_succ_cons List.drop_zero List.take_succ_cons List.take_zero true_and and_true and_self decide_true decide_false Bool.not_true Bool.not_false Prod.mk.injEq Option.some.injEq List.getElem?_drop optInt elems sliceV partsOf Nat.add_zero Nat.zero_add Nat.mul_one beq_self_eq_true litParts Bool.or_false Bool.false_or Bool.or_true Bool.true_or Bool.false_and Bool.and_false List.cons.injEq not_false_eq_true not_true_eq_false Nat.zero_le Nat.le_refl gt_iff_lt ge_iff_le List.drop_nil List.take_nil newBox List.length_append List.length_map bne_self_eq_false eq_self Nat.lt_add_one ne_eq false_implies Int.le_refl
theorem stvE (l : List Int) : stv l = .str (bst l) := rfl
theorem k0 : (⟨#[]⟩ : ByteArray) = bst [] := rfl
theorem k32 : (⟨#[32]⟩ : ByteArray) = bst [32] := rfl
theorem k40 : (⟨#[40]⟩ : ByteArray) = bst [40] := rfl
theorem k41 : (⟨#[41]⟩ : ByteArray) = bst [41] := rfl
theorem k34 : (⟨#[34]⟩ : ByteArray) = bst [34] := rfl
theorem k10 : (⟨#[10]⟩ : ByteArray) = bst [10] := rfl
theorem litW {call : CallT} {ls vs : List AV} {s : Store} : evOne call ⟨.lit 9 1 [.str ⟨#[]⟩] [(0, .c (.str ⟨#[117, 110, 105, 116]⟩)), (1, .c (.str ⟨#[105, 110, 116]⟩)), (2, .c (.str ⟨#[116, 101, 120, 116]⟩)), (3, .c (.str ⟨#[112, 97, 105, 114]⟩)), (4, .c (.str ⟨#[102, 117, 110]⟩)), (5, .c (.str ⟨#[114, 101, 102]⟩)), (6, .c (.str ⟨#[100, 97, 116, 97]⟩)), (7, .c (.str ⟨#[39]⟩))] false false, none, none⟩ ls vs s = some (.imm true 8 [.str ⟨#[117, 110, 105, 116]⟩, .str ⟨#[105, 110, 116]⟩, .str ⟨#[116, 101, 120, 116]⟩, .str ⟨#[112, 97, 105, 114]⟩, .str ⟨#[102, 117, 110]⟩, .str ⟨#[114, 101, 102]⟩, .str ⟨#[100, 97, 116, 97]⟩, .str ⟨#[39]⟩], s) := by kernel_rfl
theorem implWordOf {k : Int} (hk : 0 ≤ k ∧ k ≤ 7) (s : Store) : callF (tab tbl) prim 131 [.int .i64 k] s = some (stv (tyw k), s) := by
  obtain ⟨j,rfl⟩:∃ j:Nat,k = j:=⟨k.toNat,by omega⟩
  have hw:([.str ⟨#[117,110,105,116]⟩,.str ⟨#[105,110,116]⟩,.str ⟨#[116,101,120,116]⟩,.str ⟨#[112,97,105,114]⟩,.str ⟨#[102,117,110]⟩,.str ⟨#[114,101,102]⟩,.str ⟨#[100,97,116,97]⟩,.str ⟨#[39]⟩]:List AV)[j]? = some (stv (tyw j)):=by
    have hj:j = 0 ∨ j = 1 ∨ j = 2 ∨ j = 3 ∨ j = 4 ∨ j = 5 ∨ j = 6 ∨ j = 7:=by omega
    rcases hj with rfl | rfl | rfl | rfl | rfl | rfl | rfl | rfl <;> rfl
  unfold stv at *
  generalize bst (tyw j) = v at *
  refine funY rfl (zaf @hw) zt ?_
  repeat' (first|refine zw ?_|refine zn (fun hb=>?_) (fun hb=>?_)|refine zx ?_|(with_reducible apply oOp litW rfl)|refine zof @hw ?_|exact zi|fail)
  all_goals exact isI rfl rfl
theorem implKindWord (k : Int) (s : Store) : callF (tab tbl) prim 133 [.int .i64 k] s = some (stv (kw k), s) := by
  refine funY rfl za zt ?_
  repeat' (first|refine zw ?_|refine zn (fun hb=>?_) (fun hb=>?_)|refine zx ?_|refine zo ?_|exact zi|fail)
  all_goals
    refine isI ?_ rfl
    unfold stv kw
    simp (disch := omega) only [if_pos, if_neg]
    rfl
theorem implOpWords (s : Store) : callF (tab tbl) prim 134 [] s = some (.imm false 7 [stv (opw 0), stv (opw 1), stv (opw 2), stv (opw 3), stv (opw 4), stv (opw 5), stv (opw 6)], s) := by
  refine funY rfl za zt ?_
  repeat' (first|refine zw ?_|refine zn (fun hb=>?_) (fun hb=>?_)|refine zx ?_|refine zo ?_|exact zi|fail)
  all_goals exact isI rfl rfl
theorem implCallWords (s : Store) : callF (tab tbl) prim 135 [] s = some (.imm false 5 [stv (clw 0), stv (clw 1), stv (clw 2), stv (clw 3), stv (clw 4)], s) := by
  refine funY rfl za zt ?_
  repeat' (first|refine zw ?_|refine zn (fun hb=>?_) (fun hb=>?_)|refine zx ?_|refine zo ?_|exact zi|fail)
  all_goals exact isI rfl rfl
theorem jn_take {ps : List (List Int)} {q : Nat} (h : q < ps.length) : jn (ps.take (q + 1)) = if q = 0 then ps[q] else jn (ps.take q) ++ 32 :: ps[q] := by
  rw [List.take_succ_eq_append_getElem h]
  cases ps with
  | nil => simp at h
  | cons p r =>
    cases q with
    | zero => simp [jn]
    | succ q => rw [if_neg (by omega), List.take_succ_cons, jn_snoc]
theorem jn_le {ps : List (List Int)} (q : Nat) : (jn (ps.take q)).length ≤ (jn ps).length := by
  cases ps with
  | nil => simp [jn]
  | cons p r =>
    cases q with
    | zero => simp [jn]
    | succ q =>
      rw [List.take_succ_cons]
      have:(p :: r) = (p :: r.take q) ++ r.drop q:=by simp
      conv => rhs; rw [this, jn_app]
      rw [List.length_append]
      omega
set_option maxHeartbeats 4000000 in
theorem implBracketed {ps : List (List Int)} (hn : ps.length ≤ 1000000000) (hl : (brk ps).length ≤ 1000000000) (fl : Bool) (s : Store) : callF (tab tbl) prim 78 [.imm fl ps.length (ps.map stv)] s = some (stv (brk ps), s) := by
  simp only [brk,List.length_cons,List.length_append,List.length_nil] at hl
  refine funY rfl (zaf (zA @k0 (@k40))) zt ?_
  repeat' (first|refine zw ?_|refine zn (fun hb=>?_) (fun hb=>?_)|refine zx ?_|refine zof (zA @k0 (@k40)) ?_|exact zi|fail)
  refine wLoop (fun m st=>∃ (q:Nat) (y3 y4 y8 y9:AV) (x:List Int),(m:Int) = ps.length - q∧q ≤ ps.length∧x = jn (ps.take q) ∧
    st = ⟨[.imm false ps.length (ps.map stv), .str (bst []), .str (bst (40 :: x)), y3, y4, .imm false ps.length (ps.map stv), .int .i64 ps.length, .int .i64 q, y8, y9], frm s []⟩) ps.length ?_ ?_
  · exact ⟨0, _, _, _, _, [], by omega, by omega, by simp [jn], rfl⟩
  · rintro m st ⟨q, y3, y4, y8, y9, x, hm, hq, hx, rfl⟩
    have hxl:=jn_le (ps:=ps) q
    rw [← hx] at hxl
    by_cases hlt:q < ps.length
    · obtain ⟨ha1, ha2⟩ := map_at (ev := stv) hlt
      have ha3:=fm_one (f:=stv) hlt
      have ht:=jn_take hlt
      have hxl2:=jn_le (ps:=ps) (q + 1)
      rw [ht,← hx] at hxl2
      rw [← hx] at ht
      by_cases h0:q = 0
      · subst h0
        have hx0:x = []:=by rw [hx]; simp [jn]
        subst hx0
        rw [if_pos rfl] at hxl2
        have hc:=bst_cat (a:=[40]) (b:=ps[0]) (by simp only [List.length_cons,List.length_nil]; omega)
        repeat' (first|refine zw ?_|refine zn (fun hb=>?_) (fun hb=>?_)|refine zx ?_|refine zof (zA @ha1 (zA @ha2 (zA @ha3 (zA @stvE (@hc))))) ?_|exact zi|fail)
        all_goals first
          | (exfalso; omega)
          | exact loopNor (m - 1) (by omega) ⟨0 + 1, _, _, _, _, ps[0], by omega, by omega, by rw [ht, if_pos rfl], rfl⟩
      · rw [if_neg h0] at hxl2
        simp only [List.length_append,List.length_cons] at hxl2
        have hc1:=bst_cat (a:=40 :: x) (b:=[32]) (by simp only [List.length_cons,List.length_nil]; omega)
        have hc2:=bst_cat (a:=40 :: (x ++ [32])) (b:=ps[q]) (by simp only [List.length_append,List.length_cons,List.length_nil]; omega)
        repeat' (first|refine zw ?_|refine zn (fun hb=>?_) (fun hb=>?_)|refine zx ?_|refine zof (zA @ha1 (zA @ha2 (zA @ha3 (zA @stvE (zA @k32 (zA @hc1 (@hc2))))))) ?_|exact zi|fail)
        all_goals first
          | (exfalso; omega)
          | exact loopNor (m - 1) (by omega) ⟨q + 1, _, _, _, _, x ++ [32] ++ ps[q], by omega, by omega, by rw [ht, if_neg h0]; simp, rfl⟩
    · obtain rfl : q = ps.length := by omega
      rw [List.take_length] at hx
      have hc:=bst_cat (a:=40 :: x) (b:=[41]) (by simp only [List.length_cons,List.length_nil]; omega)
      repeat' (first|refine zw ?_|refine zn (fun hb=>?_) (fun hb=>?_)|refine zx ?_|refine zof (zA @k41 (@hc)) ?_|exact zi|fail)
      exact isI (by rw [hx]; rfl) rfl
theorem itoaOk {n : Int} (h : inI n) (s : Store) : callF (tab tbl) prim 76 [.int .i64 n] s = some (.str (bst (num n)), s) := by
  refine callF_prim rfl ?_
  show (if -9223372036854775808 ≤ n ∧ n ≤ 9223372036854775807 then some (AV.str ⟨(Lib.itoa n).toArray⟩, s) else none) = _
  unfold inI at h
  rw [if_pos (by omega),num_bst]
theorem frz_sl {D e sz n : Nat} {T : List Ae.Obj} {v : AV} {cs : List AV} (h : SlAt D T e sz v n cs) (s : Store) : frz s v = frz1 s v := by
  obtain ⟨h0,⟨rfl,rfl⟩ | ⟨k,off,ver,all,rfl,h2,h3,h4⟩⟩:=h <;> rfl
theorem stv_low (l : List (List Int)) : AV.lowL 0 (l.map stv) = true := lowL_ok (stv_ok l)
theorem brkCall {s : Store} {T : List Ae.Obj} {v : AV} {n : Nat} {ps : List (List Int)} (h : SlAt (s.low.length + 1) T 9 1 v n (ps.map stv)) (hn : ps.length ≤ 1000000000) (hl : (brk ps).length ≤ 1000000000) :
    ∃ v' s', callF (tab tbl) prim 78 [v] (frm s T) = some (v', s') ∧ v' = .str (bst (brk ps)) ∧ ∃ T', s' = frm s T' ∧ Oth 9 T T' := by
  obtain ⟨T',h1,h2⟩:=slAt_frz (s:=s) h rfl (stv_low ps)
  have h3:n = ps.length:=by have:=h.1; rw [List.length_map] at this; omega
  subst h3
  have h4:=frz_sl h (frm s T)
  rw [h1] at h4
  exact ⟨_,_,callF_frz (fc:=c78) rfl rfl (frzs_cons h4 frzs_nil) (frzs_cons (frz_imm (f:=false)) frzs_nil) (implBracketed hn hl false (frm s T')),rfl,T',rfl,h2⟩
theorem brk_mem {ps : List (List Int)} {p : List Int} (h : p ∈ ps) : p.length + 2 ≤ (brk ps).length := by
  have key:∀ r:List (List Int),p ∈ r→p.length ≤ (r.flatMap fun x=>32 :: x).length:=fun r hr=>by
    induction r with
    | nil => cases hr
    | cons a r ih =>
      rw [List.flatMap_cons,List.length_append,List.length_cons]
      rcases List.mem_cons.1 hr with rfl | hr
      · omega
      · have := ih hr; omega
  cases ps with
  | nil => cases h
  | cons a r =>
    simp only [brk,jn,List.length_cons,List.length_append,List.length_nil]
    rcases List.mem_cons.1 h with rfl | h
    · omega
    · have := key r h; omega
mutual
def fgd (nd : Nat) : Ty → Prop
  | .mk k n args => (0 ≤ k ∧ k ≤ 7) ∧ (k = 6 → 0 ≤ n ∧ n < nd) ∧ fgdL nd args
def fgdL (nd : Nat) : List Ty → Prop
  | [] => True
  | t :: r => fgd nd t ∧ fgdL nd r
end
theorem fgdL_iff (nd : Nat) : ∀ l : List Ty, fgdL nd l ↔ ∀ x ∈ l, fgd nd x
  | [] => by simp [fgdL]
  | t :: r => by simp [fgdL, fgdL_iff nd r]
theorem frz_nilfn {s : Store} : frz s .nilfn = some (.nilfn, s) := rfl
theorem implSayTy {k n : Int} {al : Nat} {ac : List AV} (hk : k = 0 ∨ k = 1 ∨ k = 2 ∨ k = 7) (hn : inI n) (s : Store) :
    callF (tab tbl) prim 130 [.agg [.int .i64 k, .int .i64 n, .imm false al ac], .nilfn] s = some (.str (bst (if k = 7 then 39 :: num n else tyw k)), s) := by
  have hw:=fun s=>implWordOf (k:=k) (by omega) s
  have hi:=fun s=>itoaOk hn s
  have hnl:=num_len hn
  have hc:=bst_cat (a:=tyw k) (b:=num n) (by have:=tyw_len k; omega)
  simp only [stvE] at hw
  refine funY rfl (argsF rfl (frzs_cons (frz_agg (frzL_cons frz1_int (frzL_cons frz1_int (frzL_cons frz1_imm frzL_nil)))) (frzs_cons frz_nilfn frzs_nil))) zt ?_
  repeat' (first|refine zw ?_|refine zn (fun hb=>?_) (fun hb=>?_)|refine zx ?_|refine zof (zA @hw (zA @hi (@hc))) ?_|exact zi|fail)
  all_goals first
    | (exfalso; omega)
    | (refine isI ?_ rfl; rw [if_neg (by omega)]; done)
    | (refine isI ?_ rfl; rw [if_pos (by omega)]; (try rw [show tyw k = [39] by (rw [show k = 7 by omega]; rfl)]); rfl)
theorem dtn_at {ds : List Dt} {j : Nat} (h : j < ds.length) : (ds.flatMap Dt.az)[j * 3]? = some (.imm false (dnm ds j).length (by8 (dnm ds j))) := by
  obtain ⟨h1,h2⟩:=fm_at Dt.len h
  have h3:((ds.flatMap Dt.az).drop (j * 3))[0]? = some (.imm false (dnm ds j).length (by8 (dnm ds j))):=by
    have h4:(((ds.flatMap Dt.az).drop (j * 3)).take 3)[0]? = some (bsl ds[j].name):=by rw [h2]; rfl
    rw [List.getElem?_take_of_lt (by omega)] at h4
    rw [h4]
    simp only [dnm,Int.toNat_natCast,List.getElem?_eq_getElem h,bsl]
  rwa [List.getElem?_drop, Nat.add_zero] at h3
theorem slAt_one {D e i : Nat} {T : List Ae.Obj} {w : AV} (h : T[i]? = some (.arr e 1 [w] 0 0)) : SlAt D T e 1 (.slr D i 0 1 0 false) 1 [w] := ⟨rfl, .inr ⟨i, 0, 0, [w], rfl, h, rfl, by simp⟩⟩
set_option maxHeartbeats 4000000 in
theorem fieldLoop {ds : List Dt} {args : List Ty} {s : Store} {T : List Ae.Obj} {w : List Int} {v4 : AV} (hal : args.length ≤ 1000000000)
    (ih : ∀ x ∈ args, ∀ s, callF (tab tbl) prim 77 [.agg x.az, .imm false ds.length (ds.flatMap Dt.az)] s = some (.str (bst (tsay ds x)), s)) (hS : SlAt (s.low.length + 1) T 9 1 v4 1 [stv w]) (y0 y2 y3 y5 y6 y7 y8 y12 : AV) :
    Wp (exS (callF (tab tbl) prim) (.loop (loopAt c77 0)) ⟨[y0, .imm false ds.length (ds.flatMap Dt.az), y2, y3, v4, y5, y6, y7, y8, .imm false args.length (args.flatMap Ty.az), .int .i64 args.length, .int .i64 0, y12], frm s T⟩)
      (fun e st => e = .exit 0 ∧ ∃ v4 y5 y11 y12 T', SlAt (s.low.length + 1) T' 9 1 v4 (args.length + 1) ((w :: args.map (tsay ds)).map stv) ∧ st = ⟨[y0, .imm false ds.length (ds.flatMap Dt.az), y2, y3, v4, y5, y6, y7, y8, .imm false args.length (args.flatMap Ty.az), .int .i64 args.length, y11, y12], frm s T'⟩) := by
  simp only [loopAt,loops,c77,List.nil_append,List.append_nil,List.getD_cons_zero,List.cons_append]
  refine wLoop (fun m st=>∃ (q:Nat) (v4 y5 y12:AV) (T:List Ae.Obj),(m:Int) = args.length - q∧q ≤ args.length∧SlAt (s.low.length + 1) T 9 1 v4 (q + 1) ((w :: (args.take q).map (tsay ds)).map stv) ∧
    st = ⟨[y0, .imm false ds.length (ds.flatMap Dt.az), y2, y3, v4, y5, y6, y7, y8, .imm false args.length (args.flatMap Ty.az), .int .i64 args.length, .int .i64 q, y12], frm s T⟩) args.length ?_ ?_
  · exact ⟨0, _, _, _, T, by omega, by omega, hS, rfl⟩
  · rintro m st ⟨q, v4, y5, y12, T, hm, hq, hS, rfl⟩
    by_cases hlt:q < args.length
    · obtain ⟨ha1, ha2⟩ := fm_at Ty.len hlt
      have hi:=ih _ (List.getElem_mem hlt)
      have htk:=List.take_succ_eq_append_getElem hlt
      generalize args[q] = x at *
      obtain ⟨k',n',a'⟩:=x
      simp only [Ty.az,azT_eq] at ha2 hi
      have hA:=slAt_app (s:=s) (bytes:=16) (y:=.imm true 1 [stv (tsay ds (.mk k' n' a'))]) (ys:=[stv (tsay ds (.mk k' n' a'))]) (m:=1) (hS.snoc [.box 94 [.int .i64 k',.int .i64 n',.imm false a'.length (a'.flatMap Ty.az)]]) rfl (by omega) rfl rfl rfl (by omega)
      repeat' (first|refine zw ?_|refine zn (fun hb=>?_) (fun hb=>?_)|refine zx ?_|(refine zka (hA) ?_; rintro _ _ ⟨T2, rfl, hS2, hO2, hC2⟩)|refine zof (zA @ha1 (zA @ha2 (@hi))) ?_|exact zi|fail)
      refine loopNor (m - 1) (by omega) ⟨q + 1,_,_,_,T2,by omega,by omega,?_,rfl⟩
      rw [htk]
      simpa using hS2
    · obtain rfl : q = args.length := by omega
      repeat' (first|refine zw ?_|refine zn (fun hb=>?_) (fun hb=>?_)|refine zx ?_|refine zo ?_|exact zi|fail)
      rw [List.take_length] at hS
      exact ⟨rfl,_,_,_,_,T,hS,rfl⟩
set_option maxHeartbeats 16000000 in
theorem implSayField {ds : List Dt} (hds : ds.length ≤ 1000000000) : ∀ t : Ty, t.ok → t.sz ≤ 100000000 → fgd ds.length t → (tsay ds t).length ≤ 1000000000 → ∀ s : Store,
    callF (tab tbl) prim 77 [.agg t.az, .imm false ds.length (ds.flatMap Dt.az)] s = some (.str (bst (tsay ds t)), s) := by
  refine Ty.ind fun k n args ih ho hsz hg hl s=>?_
  simp only [Ty.ok,okT_iff] at ho
  simp only [fgd,fgdL_iff] at hg
  obtain ⟨hk,hn,_,hoa⟩:=ho
  obtain ⟨hg1,hg2,hga⟩:=hg
  rw [Ty.sz,szT_eq] at hsz
  have hal:=sizes_len Ty.sz args
  rw [tsay,tsayL_eq] at hl ⊢
  simp only [Ty.az,azT_eq]
  by_cases hs:k = 0 ∨ k = 1 ∨ k = 2 ∨ k = 7
  · have hT := fun s => implSayTy (k := k) (n := n) (al := args.length) (ac := args.flatMap Ty.az) hs hn s
    refine funY rfl (zaf @hT) zt ?_
    repeat' (first|refine zw ?_|refine zn (fun hb=>?_) (fun hb=>?_)|refine zx ?_|refine zof @hT ?_|exact zi|fail)
    all_goals first
      | (exfalso; omega)
      | (refine isI ?_ rfl
         by_cases h7:k = 7
         · first | (exfalso; omega) | (simp (disch := omega) only [if_pos, if_neg])
         · first | (exfalso; omega) | (simp (disch := omega) only [if_pos, if_neg]))
  · rw [if_neg (show ¬ (k = 0 ∨ k = 1 ∨ k = 2) by omega), if_neg (show ¬ k = 7 by omega)] at hl ⊢
    have hd:k = 6→∃ j:Nat,n = j∧j < ds.length:=fun h=>⟨n.toNat,by have:=hg2 h; omega,by have:=hg2 h; omega⟩
    have hw:=fun s=>implWordOf (k:=k) (by omega) s
    simp only [stvE] at hw
    have ih2:∀ x ∈ args,∀ s,callF (tab tbl) prim 77 [.agg x.az,.imm false ds.length (ds.flatMap Dt.az)] s = some (.str (bst (tsay ds x)),s):=fun x hx s=>ih x hx (hoa x hx) (by have:=sizes_mem Ty.sz hx; omega) (hga x hx) (by
      split at hl
      · split at hl
        · have := List.length_pos_of_mem hx; omega
        · have := brk_mem (p := tsay ds x) (List.mem_cons_of_mem _ (List.mem_map_of_mem hx)) |> fun h => Nat.le_trans h hl; omega
      · have := brk_mem (p := tsay ds x) (List.mem_cons_of_mem _ (List.mem_map_of_mem hx)) |> fun h => Nat.le_trans h hl; omega) s
    have hL:=fun w v4 T (hS:SlAt (s.low.length + 1) T 9 1 v4 1 [stv w])=>fieldLoop (ds:=ds) (w:=w) (by omega) ih2 hS
    by_cases h6:k = 6
    · subst h6
      obtain ⟨j,rfl,hj⟩:=hd rfl
      have hdn:=dtn_at hj
      have tb:=toB8 (dnm ds j)
      have tl:=by8_len (dnm ds j)
      rw [if_pos rfl] at hl ⊢
      generalize dnm ds j = nm at *
      refine funY rfl (zaf (zA @hw (zA @hdn (zA @tb (@tl))))) zt ?_
      repeat' (first|refine zw ?_|refine zn (fun hb=>?_) (fun hb=>?_)|refine zx ?_|refine zof (zA @hw (zA @hdn (zA @tb (@tl)))) ?_|exact zi|fail)
      all_goals first
        | (exfalso; omega)
        | (rw [if_pos (by omega)]; exact isI rfl rfl)
        | skip
      refine Wp.mono (hL nm _ _ (slAt_one (i:=1) rfl) _ _ _ _ _ _ _ _) ?_
      rintro e st ⟨rfl, v4, y5, y11, y12, T', hS, rfl⟩
      rw [if_neg (by omega)] at hl ⊢
      have hB:=brkCall hS (by rw [List.length_cons,List.length_map]; omega) hl
      repeat' (first|refine zw ?_|refine zn (fun hb=>?_) (fun hb=>?_)|refine zx ?_|(refine zk (hB) ?_; rintro _ _ ⟨rfl, T2, rfl, hO⟩)|refine zo ?_|exact zi|fail)
    · rw [if_neg h6] at hl ⊢
      refine funY rfl (zaf @hw) zt ?_
      repeat' (first|refine zw ?_|refine zn (fun hb=>?_) (fun hb=>?_)|refine zx ?_|refine zof @hw ?_|exact zi|fail)
      all_goals first
        | (exfalso; omega)
        | skip
      refine Wp.mono (hL (tyw k) _ _ (slAt_one (i:=1) rfl) _ _ _ _ _ _ _ _) ?_
      rintro e st ⟨rfl, v4, y5, y11, y12, T', hS, rfl⟩
      have hB:=brkCall hS (by rw [List.length_cons,List.length_map]; omega) hl
      repeat' (first|refine zw ?_|refine zn (fun hb=>?_) (fun hb=>?_)|refine zx ?_|(refine zk (hB) ?_; rintro _ _ ⟨rfl, T2, rfl, hO⟩)|refine zo ?_|exact zi|fail)
end Go.Proofs.YtkjonfojileipaaGreatDoor.Gq
namespace Go.Proofs.YtkjonfojileipaaGreatDoor.Ae
open Go
def padd : AV → Nat → AV
  | .ptr d i o, j => .ptr d i (o + j)
  | .eptr cs, j => .eptr (cs.drop j)
  | v, _ => v
def PtrAt (s : Store) (p : AV) (cs : List AV) : Prop :=
  (∃ rest, p = .eptr (cs ++ rest)) ∨ ∃ d i o t all rest, p = .ptr d i o ∧ d ≤ s.low.length ∧ s.get d i = some (.box t all) ∧ all.drop o = cs ++ rest
section
variable {s : Store} {p : AV} {cs : List AV}
theorem PtrAt.frz (h : PtrAt s p cs) (S : Store) : Ae.frz S p = some (p, S) := by
  rcases h with ⟨rest, rfl⟩ | ⟨d, i, o, t, all, rest, rfl, _⟩ <;> rfl
theorem PtrAt.frm (h : PtrAt s p cs) (T : List Obj) : PtrAt (Ae.frm s T) p cs := by
  rcases h with ⟨rest, rfl⟩ | ⟨d, i, o, t, all, rest, rfl, hd, hg, ha⟩
  · exact .inl ⟨rest, rfl⟩
  · exact .inr ⟨d, i, o, t, all, rest, rfl, by rw [frm_len]; omega, by rw [frm_get _ _ _ hd]; exact hg, ha⟩
theorem PtrAt.sub {a b : List AV} {n : Nat} (h : PtrAt s p (a ++ b)) (hn : a.length = n) : PtrAt s (padd p n) b := by
  subst hn
  rcases h with ⟨rest, rfl⟩ | ⟨d, i, o, t, all, rest, rfl, hd, hg, ha⟩
  · exact .inl ⟨rest, by simp [padd]⟩
  · exact .inr ⟨d, i, o + a.length, t, all, rest, rfl, hd, hg, by rw [← List.drop_drop, ha, List.append_assoc, List.drop_left]⟩
theorem ptrAt_e (s : Store) (rest : List AV) : PtrAt s (.eptr (cs ++ rest)) cs := .inl ⟨rest, rfl⟩
theorem ptrAt_b {T : List Obj} {i t : Nat} {all rest : List AV} {o : Nat} (hg : T[i]? = some (.box t all)) (ha : all.drop o = cs ++ rest) : PtrAt (Ae.frm s T) (.ptr (s.low.length + 1) i o) cs :=
  .inr ⟨_, _, _, t, all, rest, rfl, by rw [frm_len]; omega, by rw [frm_get_top]; exact hg, ha⟩
variable {call : CallT} {ls vs : List AV} {S : Store} {x : Opd} {dv : Option Nat}
theorem pNil (h : PtrAt s p cs) (hx : rd ls vs x = p) : evOne call ⟨.nilck x, dv, none⟩ ls vs S = some (p, S) := by
  simp only [evOne,evAct,evOp,hx]
  rcases h with ⟨rest, rfl⟩ | ⟨d, i, o, t, all, rest, rfl, _⟩ <;> rfl
theorem pFp {j : Nat} (h : PtrAt s p cs) (hx : rd ls vs x = p) : evOne call ⟨.fptr j x, dv, none⟩ ls vs S = some (padd p j, S) := by
  simp only [evOne,evAct,evOp,hx]
  rcases h with ⟨rest, rfl⟩ | ⟨d, i, o, t, all, rest, rfl, _⟩ <;> rfl
theorem pLd {j : Nat} {c : AV} {T : List Obj} (h : PtrAt s p cs) (hx : rd ls vs x = padd p j) (hc : cs[j]? = some c) : evOne call ⟨.load none x, dv, none⟩ ls vs (Ae.frm s T) = some (c, Ae.frm s T) := by
  simp only [evOne,evAct,evOp,hx]
  have hj:=(List.getElem?_eq_some_iff.1 hc).1
  rcases h with ⟨rest, rfl⟩ | ⟨d, i, o, t, all, rest, rfl, hd, hg, ha⟩
  · simp only [padd, loadV, List.getElem?_drop, Nat.add_zero]
    rw [List.getElem?_append_left hj,hc]
    rfl
  · have : all[o + j]? = some c := by
      have h2:(all.drop o)[j]? = some c:=by rw [ha,List.getElem?_append_left hj]; exact hc
      rwa [List.getElem?_drop] at h2
    simp only [padd,loadV,frm_get _ _ _ hd,hg,this]
    rfl
theorem PtrAt.load {j : Nat} {c : AV} (h : PtrAt s p cs) (hc : cs[j]? = some c) (T : List Obj) : loadV (Ae.frm s T) none (padd p j) = some c := by
  have:=pLd (call:=fun _ _ _=>none) (ls:=[padd p j]) (vs:=[]) (x:=.l 0) (dv:=none) (T:=T) h rfl hc
  simp only [evOne,evAct,evOp,rd,List.getD_cons_zero] at this
  obtain ⟨x,hx,e⟩:=bind_some this
  cases e
  exact hx
theorem pLdA {j n : Nat} {T : List Obj} {cc : List AV} (h : PtrAt s p cs) (hx : rd ls vs x = padd p j) (hc : (cs.drop j).take n = cc ∧ (cc.length == n && decide (0 < n)) = true) : evOne call ⟨.load (some n) x, dv, none⟩ ls vs (Ae.frm s T) = some (.agg cc, Ae.frm s T) := by
  obtain ⟨hc,hl⟩:=hc
  simp only [Bool.and_eq_true,beq_iff_eq,decide_eq_true_eq] at hl
  obtain ⟨hl,hn⟩:=hl
  simp only [evOne,evAct,evOp,hx]
  have hjn:n ≤ (cs.drop j).length:=by
    have h2:=congrArg List.length hc
    rw [List.length_take] at h2
    omega
  have hj:j ≤ cs.length:=by
    rw [List.length_drop] at hjn
    omega
  rcases h with ⟨rest, rfl⟩ | ⟨d, i, o, t, all, rest, rfl, hd, hg, ha⟩
  · have h3 : n ≤ ((cs ++ rest).drop j).length := by rw [List.drop_append, List.length_append]; omega
    simp only [padd,loadV]
    rw [if_pos h3,List.drop_append,List.take_append_of_le_length hjn,hc]
    rfl
  · have h4 : all.drop (o + j) = cs.drop j ++ rest.drop (j - cs.length) := by rw [← List.drop_drop, ha, List.drop_append]
    have h5:o + j + n ≤ all.length:=by
      have h6:=congrArg List.length h4
      rw [List.length_drop,List.length_append] at h6
      omega
    simp only [padd,loadV,frm_get _ _ _ hd,hg]
    rw [if_pos h5,h4,List.take_append_of_le_length hjn,hc]
    rfl
theorem oPNil {r : List AO} {Q : List AV → Store → Prop} (h : PtrAt s p cs) (hx : rd ls vs x = p) (k : Nx call dv r ls vs p S Q) : WpO (evOps call (⟨.nilck x, dv, none⟩ :: r) ls vs S) Q := oOp (pNil h hx) rfl k
theorem oPFp {r : List AO} {j : Nat} {Q : List AV → Store → Prop} (h : PtrAt s p cs) (hx : rd ls vs x = p) (k : Nx call dv r ls vs (padd p j) S Q) : WpO (evOps call (⟨.fptr j x, dv, none⟩ :: r) ls vs S) Q := oOp (pFp h hx) rfl k
theorem oPLd {r : List AO} {j : Nat} {c : AV} {T : List Obj} {Q : List AV → Store → Prop} (h : PtrAt s p cs) (hx : rd ls vs x = padd p j) (hc : cs[j]? = some c) (k : Nx call dv r ls vs c (Ae.frm s T) Q) : WpO (evOps call (⟨.load none x, dv, none⟩ :: r) ls vs (Ae.frm s T)) Q := oOp (pLd h hx hc) rfl k
theorem oPLdA {r : List AO} {j n : Nat} {T : List Obj} {cc : List AV} {Q : List AV → Store → Prop} (h : PtrAt s p cs) (hx : rd ls vs x = padd p j) (hc : (cs.drop j).take n = cc ∧ (cc.length == n && decide (0 < n)) = true) (k : Nx call dv r ls vs (.agg cc) (Ae.frm s T) Q) : WpO (evOps call (⟨.load (some n) x, dv, none⟩ :: r) ls vs (Ae.frm s T)) Q := oOp (pLdA h hx hc) rfl k
theorem tPNil {acc : List Tr} {r : List AO} {Q : List Tr → Prop} (h : PtrAt s p cs) (hx : rd ls vs x = p) (k : NxT call (acc ++ [⟨ls, vs, S⟩]) dv r ls vs p S Q) : WpT acc (evTr call (⟨.nilck x, dv, none⟩ :: r) ⟨ls, vs, S⟩) Q := tOp (pNil h hx) rfl k
theorem tPFp {acc : List Tr} {r : List AO} {j : Nat} {Q : List Tr → Prop} (h : PtrAt s p cs) (hx : rd ls vs x = p) (k : NxT call (acc ++ [⟨ls, vs, S⟩]) dv r ls vs (padd p j) S Q) : WpT acc (evTr call (⟨.fptr j x, dv, none⟩ :: r) ⟨ls, vs, S⟩) Q := tOp (pFp h hx) rfl k
theorem tPLd {acc : List Tr} {r : List AO} {j : Nat} {c : AV} {T : List Obj} {Q : List Tr → Prop} (h : PtrAt s p cs) (hx : rd ls vs x = padd p j) (hc : cs[j]? = some c) (k : NxT call (acc ++ [⟨ls, vs, Ae.frm s T⟩]) dv r ls vs c (Ae.frm s T) Q) : WpT acc (evTr call (⟨.load none x, dv, none⟩ :: r) ⟨ls, vs, (Ae.frm s T)⟩) Q := tOp (pLd h hx hc) rfl k
theorem tPLdA {acc : List Tr} {r : List AO} {j n : Nat} {T : List Obj} {cc : List AV} {Q : List Tr → Prop} (h : PtrAt s p cs) (hx : rd ls vs x = padd p j) (hc : (cs.drop j).take n = cc ∧ (cc.length == n && decide (0 < n)) = true) (k : NxT call (acc ++ [⟨ls, vs, Ae.frm s T⟩]) dv r ls vs (.agg cc) (Ae.frm s T) Q) : WpT acc (evTr call (⟨.load (some n) x, dv, none⟩ :: r) ⟨ls, vs, (Ae.frm s T)⟩) Q := tOp (pLdA h hx hc) rfl k
end
theorem zp {S P Q : Prop} (f : S) (q : Q) (h : S → Q → P := by intro f; first
  | ((with_reducible first | apply oPNil f | apply oPFp f | apply tPNil f | apply tPFp f); (focus (exact zr)))
  | ((with_reducible first | apply oPLd f | apply tPLd f); (focus (exact zr)); (focus rfl))
  | ((with_reducible first | apply oPLdA f | apply tPLdA f); (focus (exact zr)); (focus (exact ⟨rfl, rfl⟩))) | fail) : P := h f q
end Go.Proofs.YtkjonfojileipaaGreatDoor.Ae
namespace Go.Proofs.YtkjonfojileipaaGreatDoor.Gq
open Go Go.Proofs Go.Proofs.YtkjonfojileipaaGreatDoor.Ae
attribute [local congr] obind_congr
attribute [local push_cast] exF argsV frzs frz frzL frz1 exS_reg exS_seq exS_cond exS_alt exS_block exS_loop exS_exit exS_ret exS_skip evReg evOps evOne evAct evOp rd putV st0 evEnd resV resL resOne oneOr frzR loadV storeV binV binI unV push_frm pop_frm frm_len frm_top frm_get_top frm_set_top frm_new AV.cells AV.lowB AV.lowL AV.isCell cellsOk set_len Option.bind_some Option.map_some Option.map_none List.getD_cons_zero List.getD_cons_succ List.nil_append List.cons_append List.append_nil List.length_cons List.length_nil List.set_cons_zero List.set_cons_succ List.map_cons List.map_nil List.replicate if_true if_false ite_true ite_false ite_self Bool.false_eq_true List.all_cons List.all_nil Bool.and_true Bool.true_and Bool.and_self Bool.and_eq_true List.getElem?_cons_zero List.getElem?_cons_succ List.drop_succ_cons List.drop_zero List.take_succ_cons List.take_zero true_and and_true and_self decide_true decide_false Bool.not_true Bool.not_false Prod.mk.injEq Option.some.injEq List.getElem?_drop optInt elems sliceV partsOf Nat.add_zero Nat.zero_add Nat.mul_one beq_self_eq_true litParts Bool.or_false Bool.false_or Bool.or_true Bool.true_or Bool.false_and Bool.and_false List.cons.injEq not_false_eq_true not_true_eq_false Nat.zero_le Nat.le_refl gt_iff_lt ge_iff_le List.drop_nil List.take_nil newBox List.length_append List.length_map bne_self_eq_false eq_self Nat.lt_add_one ne_eq false_implies Int.le_refl
theorem implWithin (x a b : Int) (s : Store) : callF (tab tbl) prim 48 [.int .i64 x, .int .i64 a, .int .i64 b] s = some (.bool (decide (a ≤ x ∧ x ≤ b)), s) := by
  refine dec_of ?_
  refine funZ rfl za zt ?_
  repeat' (first|refine zw ?_|refine zn (fun hb=>?_) (fun hb=>?_)|refine zx ?_|refine zo ?_|exact zi|fail)
  all_goals exact zl
def smB (c : Int) : Bool := decide (97 ≤ c ∧ c ≤ 122)
def grB (c : Int) : Bool := decide (65 ≤ c ∧ c ≤ 90)
def dgB (c : Int) : Bool := decide (48 ≤ c ∧ c ≤ 57)
theorem implSmall (c : Int) (s : Store) : callF (tab tbl) prim 100 [.int .u8 c] s = some (.bool (smB c), s) := by
  refine dec_of ?_
  refine funZ rfl za zt ?_
  repeat' (first|refine zw ?_|refine zn (fun hb=>?_) (fun hb=>?_)|refine zx ?_|refine zo ?_|exact zi|fail)
  all_goals exact zl
theorem implGreat (c : Int) (s : Store) : callF (tab tbl) prim 164 [.int .u8 c] s = some (.bool (grB c), s) := by
  refine dec_of ?_
  refine funZ rfl za zt ?_
  repeat' (first|refine zw ?_|refine zn (fun hb=>?_) (fun hb=>?_)|refine zx ?_|refine zo ?_|exact zi|fail)
  all_goals exact zl
theorem implDigit (c : Int) (s : Store) : callF (tab tbl) prim 160 [.int .u8 c] s = some (.bool (dgB c), s) := by
  refine dec_of ?_
  refine funZ rfl za zt ?_
  repeat' (first|refine zw ?_|refine zn (fun hb=>?_) (fun hb=>?_)|refine zx ?_|refine zo ?_|exact zi|fail)
  all_goals exact zl
theorem specLower (c : Int) (s : Store) : callF (tab tbl) prim 115 [.int .u8 c] s = some (.bool (smB c), s) := by
  refine dec_of ?_
  refine funZ rfl za zt ?_
  repeat' (first|refine zw ?_|refine zn (fun hb=>?_) (fun hb=>?_)|refine zx ?_|refine zo ?_|exact zi|fail)
  all_goals exact zl
theorem specUpper (c : Int) (s : Store) : callF (tab tbl) prim 114 [.int .u8 c] s = some (.bool (grB c), s) := by
  refine dec_of ?_
  refine funZ rfl za zt ?_
  repeat' (first|refine zw ?_|refine zn (fun hb=>?_) (fun hb=>?_)|refine zx ?_|refine zo ?_|exact zi|fail)
  all_goals exact zl
theorem specDigit (c : Int) (s : Store) : callF (tab tbl) prim 116 [.int .u8 c] s = some (.bool (dgB c), s) := by
  refine dec_of ?_
  refine funZ rfl za zt ?_
  repeat' (first|refine zw ?_|refine zn (fun hb=>?_) (fun hb=>?_)|refine zx ?_|refine zo ?_|exact zi|fail)
  all_goals exact zl
theorem implWhole (n : Int) (s : Store) : callF (tab tbl) prim 175 [.int .i64 n] s = some (.bool (decide (-1073741824 ≤ n ∧ n ≤ 1073741823)), s) := by
  refine dec_of ?_
  refine funZ rfl (zaf @implWithin) zt ?_
  repeat' (first|refine zw ?_|refine zn (fun hb=>?_) (fun hb=>?_)|refine zx ?_|refine zof @implWithin ?_|exact zi|fail)
  all_goals exact zl
theorem specIntOk (n : Int) (s : Store) : callF (tab tbl) prim 64 [.int .i64 n] s = some (.bool (decide (-1073741824 ≤ n ∧ n ≤ 1073741823)), s) := by
  refine dec_of ?_
  refine funZ rfl za zt ?_
  repeat' (first|refine zw ?_|refine zn (fun hb=>?_) (fun hb=>?_)|refine zx ?_|refine zo ?_|exact zi|fail)
  all_goals exact zl

def wordB (fst : Int → Bool) : List Int → Bool
  | [] => false
  | c :: r => fst c && r.all (fun c => smB c || dgB c) && decide (r.length ≤ 7)
theorem wordB_iff {fst : Int → Bool} {l : List Int} : wordB fst l = true ↔ (1 ≤ l.length ∧ l.length ≤ 8) ∧ ∀ (i : Nat) (h : i < l.length), (i = 0 → fst l[i] = true) ∧ (0 < i → (smB l[i] || dgB l[i]) = true) := by
  cases l with
  | nil => simp [wordB]
  | cons c r =>
    simp only [wordB,Bool.and_eq_true,List.all_eq_true,decide_eq_true_eq,List.length_cons]
    constructor
    · rintro ⟨⟨h1, h2⟩, h3⟩
      refine ⟨⟨by omega,by omega⟩,fun i hi=>?_⟩
      cases i with
      | zero => exact ⟨fun _ => h1, fun h => by omega⟩
      | succ i => exact ⟨fun h => by omega, fun _ => h2 _ (by simp)⟩
    · rintro ⟨⟨_, h3⟩, h⟩
      refine ⟨⟨(h 0 (by omega)).1 rfl,fun x hx=>?_⟩,by omega⟩
      obtain ⟨i,hi,rfl⟩:=List.mem_iff_getElem.1 hx
      exact (h (i + 1) (by omega)).2 (by omega)
theorem wordB_no {fst : Int → Bool} {l : List Int} {i : Nat} (hi : i < l.length) (h : ¬ ((i = 0 → fst l[i] = true) ∧ (0 < i → (smB l[i] || dgB l[i]) = true))) : wordB fst l = false := by
  rw [Bool.eq_false_iff]
  exact fun hw=>h ((wordB_iff.1 hw).2 i hi)
set_option maxHeartbeats 4000000 in
theorem implWord {F : Nat} {fst : Int → Bool} (hF : ∀ c s, callF (tab tbl) prim F [.int .u8 c] s = some (.bool (fst c), s)) {l : List Int} (hl : okB l) (s : Store) :
    callF (tab tbl) prim 99 [stv l, .fn F [] []] s = some (.bool (wordB fst l), s) := by
  have hsz:=bst_size l
  have hl1:=hl.1
  have hw:=fun a b=>implWithin l.length a b
  unfold stv
  refine funY rfl (zaf @hsz) zt ?_
  repeat' (first|refine zw ?_|refine zn (fun hb=>?_) (fun hb=>?_)|refine zx ?_|refine zof @hsz ?_|exact zi|fail)
  refine wLoop (fun m st=>∃ (q:Nat) (y3 y6 y7:AV),(m:Int) = l.length - q∧q ≤ l.length∧(∀ (i:Nat) (h:i < l.length),i < q→(i = 0→fst l[i] = true)∧(0 < i→(smB l[i] || dgB l[i]) = true)) ∧
    st = ⟨[.str (bst l), .fn F [] [], .bool false, y3, .int .i64 l.length, .int .i64 q, y6, y7], frm s []⟩) l.length ?_ ?_
  · exact ⟨0, _, _, _, by omega, by omega, fun i _ h => by omega, rfl⟩
  · rintro m st ⟨q, y3, y6, y7, hm, hq, hok, rfl⟩
    by_cases hlt:q < l.length
    · have hi := bst_at hlt
      have hu:=u8_to (okB_at hl hlt)
      have hv:=fun s=>ex_of (hF l[q] s)
      repeat' (first|refine zw ?_|refine zn (fun hb=>?_) (fun hb=>?_)|refine zx ?_|((with_reducible apply oCallV (h := hv _)); (focus (exact zr)); (focus (exact zr)); rintro _ _ ⟨rfl, rfl⟩)|((with_reducible apply oCallVG (h := hv _)); (focus (exact zg)); (focus (exact zr)); (focus (exact zr)); rintro _ _ ⟨rfl, rfl⟩)|((with_reducible apply oCallV (h := hv _)); (focus (exact zr)); (focus (exact zr)); rintro _ _ ⟨rfl, rfl⟩)|((with_reducible apply oCallVG (h := hv _)); (focus (exact zg)); (focus (exact zr)); (focus (exact zr)); rintro _ _ ⟨rfl, rfl⟩)|refine zof (zA @hi (zA @hu (zA @implSmall (@implDigit)))) ?_|exact zi|fail)
      all_goals first
        | (refine isI (congrArg AV.bool ?_) rfl; exact (wordB_no hlt (by simp_all)).symm)
        | (refine loopNor (m - 1) (by omega) ⟨q + 1, _, _, _, by omega, by omega, fun i hi hiq => ?_, rfl⟩
           rcases Nat.lt_or_ge i q with h | h
           · exact hok i hi h
           · obtain rfl : i = q := by omega
             simp_all
             done)
        | skip
    · obtain rfl : q = l.length := by omega
      repeat' (first|refine zw ?_|refine zn (fun hb=>?_) (fun hb=>?_)|refine zx ?_|refine zof (zA @hsz (@hw)) ?_|exact zi|fail)
      · exact isI (congrArg AV.bool (wordB_iff.2 ⟨by omega, fun i h => hok i h h⟩).symm) rfl
      · exact isI (congrArg AV.bool (Bool.eq_false_iff.2 fun h => hb (by have := (wordB_iff.1 h).1; omega)).symm) rfl
set_option maxHeartbeats 4000000 in
theorem specWord (great : Bool) {l : List Int} (hl : okB l) (fl : Bool) (s : Store) :
    callF (tab tbl) prim 59 [.imm fl l.length (by8 l), .bool great] s = some (.bool (wordB (if great = true then grB else smB) l), s) := by
  have hl1:=hl.1
  have hb8:=by8_len l
  unfold by8 at *
  refine funY rfl za zt ?_
  repeat' (first|refine zw ?_|refine zn (fun hb=>?_) (fun hb=>?_)|refine zx ?_|refine zo ?_|exact zi|fail)
  all_goals try exact isI (congrArg AV.bool (Bool.eq_false_iff.2 fun h => by have := (wordB_iff.1 h).1; omega).symm) rfl
  all_goals
    refine wLoop (fun m st=>∃ (q:Nat) (y4 y5 y6 y7 y8:AV),(m:Int) = l.length - q∧q ≤ l.length∧(∀ (i:Nat) (h:i < l.length),i < q→(i = 0→(if great = true then grB else smB) l[i] = true)∧(0 < i→(smB l[i] || dgB l[i]) = true)) ∧
      st = ⟨[.imm false l.length (l.map (AV.int .u8)), .bool great, .bool false, .int .i64 q, y4, y5, y6, y7, y8], frm s []⟩) l.length ?_ ?_
    · exact ⟨0, _, _, _, _, _, by omega, by omega, fun i _ h => by omega, rfl⟩
    · rintro m st ⟨q, y4, y5, y6, y7, y8, hm, hq, hok, rfl⟩
      by_cases hlt:q < l.length
      · obtain ⟨ha1, ha2⟩ := map_at (ev := AV.int .u8) hlt
        cases great
        all_goals
          repeat' (first|refine zw ?_|refine zn (fun hb=>?_) (fun hb=>?_)|refine zx ?_|refine zof (zA @ha1 (zA @ha2 (zA @specLower (zA @specUpper (@specDigit))))) ?_|exact zi|fail)
          all_goals first
            | (refine isI (congrArg AV.bool ?_) rfl; exact (wordB_no hlt (by simp_all)).symm)
            | (refine loopNor (m - 1) (by omega) ⟨q + 1, _, _, _, _, _, by omega, by omega, fun i hi hiq => ?_, rfl⟩
               rcases Nat.lt_or_ge i q with h | h
               · exact hok i hi h
               · obtain rfl : i = q := by omega
                 simp_all
                 done)
            | skip
      · obtain rfl : q = l.length := by omega
        repeat' (first|refine zw ?_|refine zn (fun hb=>?_) (fun hb=>?_)|refine zx ?_|refine zo ?_|exact zi|fail)
        all_goals exact isI (congrArg AV.bool (wordB_iff.2 ⟨by omega, fun i h => hok i h h⟩).symm) rfl
def keysL : List (List Int) := [[102, 110], [108, 101, 116], [114, 101, 99], [105, 102], [112, 97, 105, 114], [102, 115, 116], [115, 110, 100], [114, 101, 102], [114, 101, 97, 100], [119, 114, 105, 116, 101], [109, 97, 116, 99, 104], [114, 97, 105, 115, 101], [116, 114, 121], [97, 100, 100], [115, 117, 98], [109, 117, 108], [108, 101, 115, 115], [115, 97, 109, 101], [99, 97, 116], [108, 101, 110], [112, 114, 105, 110, 116], [116, 105, 99, 107], [100, 114, 97, 119], [103, 101, 116], [112, 117, 116], [100, 97, 116, 97], [117, 110, 105, 116], [105, 110, 116], [116, 101, 120, 116], [102, 117, 110]]
def keyB (l : List Int) : Bool := keysL.any fun x => decide (l = x)
theorem keys_ok : ∀ x ∈ keysL, ∀ c ∈ x, 0 ≤ c ∧ c < 256 := by decide
theorem specKeys (s : Store) : callF (tab tbl) prim 171 [] s = some (.imm false keysL.length (keysL.map stv), s) := by
  have h1:exS (callF (tab tbl) prim) (c171).body (st0 (c171) [] s) = some (.ret,⟨[.imm true keysL.length (keysL.map stv)],s.push⟩):=by kernel_rfl
  refine funI (fc:=c171) (a:=([],s)) rfl rfl h1 ?_
  have e:evEnd (c171) (.ret,⟨[.imm true keysL.length (keysL.map stv)],s.push⟩) = some (.imm false keysL.length (keysL.map stv),s.push.pop):=rfl
  rw [e,push_frm,pop_frm]
theorem primKeys (s : Store) : callF (tab tbl) prim 161 [.str ⟨#[102, 110, 32, 108, 101, 116, 32, 114, 101, 99, 32, 105, 102, 32, 112, 97, 105, 114, 32, 102, 115, 116, 32, 115, 110, 100, 32, 114, 101, 102, 32, 114, 101, 97, 100, 32, 119, 114, 105, 116, 101, 32, 109, 97, 116, 99, 104, 32, 114, 97, 105, 115, 101, 32, 116, 114, 121, 32, 97, 100, 100, 32, 115, 117, 98, 32, 109, 117, 108, 32, 108, 101, 115, 115, 32, 115, 97, 109, 101, 32, 99, 97, 116, 32, 108, 101, 110, 32, 112, 114, 105, 110, 116, 32, 116, 105, 99, 107, 32, 100, 114, 97, 119, 32, 103, 101, 116, 32, 112, 117, 116, 32, 100, 97, 116, 97, 32, 117, 110, 105, 116, 32, 105, 110, 116, 32, 116, 101, 120, 116, 32, 102, 117, 110]⟩] s =
    some (.imm false keysL.length (keysL.map fun x => .str (bst x)), s) := callF_prim rfl (by kernel_rfl)
theorem implKey {l : List Int} (hl : okB l) (s : Store) : callF (tab tbl) prim 101 [stv l] s = some (.bool (keyB l), s) := by
  have hi:=fun s=>ixE_ok (T:=tab tbl) (prim:=prim) (g:=184) (l:=keysL) (fl:=false) (b:=bst l) (sf:=bst) (p:=fun x=>decide (l = x)) (s:=s) rfl (fun x hx=>bst_eql hl.2 (keys_ok x hx)) (by decide)
  have hc:=fun s=>ct_ok (g:=141) (s:=s) rfl (fun _=>rfl) (fun _=>rfl) hi
  unfold stv
  unfold keyB
  refine funY rfl (zaf (zA @primKeys (@hc))) zt ?_
  repeat' (first|refine zw ?_|refine zn (fun hb=>?_) (fun hb=>?_)|refine zx ?_|refine zof (zA @primKeys (@hc)) ?_|exact zi|fail)
  all_goals exact isI (congrArg AV.bool hb.symm) rfl
theorem specIs {l x : List Int} (hl : okB l) (hx : ∀ c ∈ x, 0 ≤ c ∧ c < 256) (fl : Bool) (s : Store) : callF (tab tbl) prim 172 [.imm fl l.length (by8 l), .str (bst x)] s = some (.bool (decide (l = x)), s) := by
  have he:=bst_eql hl.2 hx
  have h8:=by8_len l
  have ht:=toB8 l
  refine funY rfl (zaf (zA @h8 (@ht))) zt ?_
  repeat' (first|refine zw ?_|refine zn (fun hb=>?_) (fun hb=>?_)|refine zx ?_|refine zof (zA @h8 (@ht)) ?_|exact zi|fail)
  all_goals exact isI (congrArg AV.bool (by rw [← he]; simp [hb])) rfl
set_option maxHeartbeats 4000000 in
theorem specKey {l : List Int} (hl : okB l) (fl : Bool) (s : Store) : callF (tab tbl) prim 113 [.imm fl l.length (by8 l)] s = some (.bool (keyB l), s) := by
  have hk:keysL.length = 30:=rfl
  refine funY rfl (zaf @specKeys) zt ?_
  repeat' (first|refine zw ?_|refine zn (fun hb=>?_) (fun hb=>?_)|refine zx ?_|refine zof @specKeys ?_|exact zi|fail)
  refine wLoop (fun m st=>∃ (q:Nat) (y4 y5:AV),(m:Int) = keysL.length - q∧q ≤ keysL.length∧(∀ x ∈ keysL.take q,decide (l = x) = false) ∧
    st = ⟨[.imm false l.length (by8 l), .bool false, .imm false keysL.length (keysL.map stv), .int .i64 q, y4, y5], frm s []⟩) keysL.length ?_ ?_
  · exact ⟨0, _, _, by omega, by omega, by simp, rfl⟩
  · rintro m st ⟨q, y4, y5, hm, hq, hno, rfl⟩
    by_cases hlt:q < keysL.length
    · obtain ⟨ha1, ha2⟩ := map_at (ev := stv) hlt
      have hi:=fun s=>specIs hl (keys_ok _ (List.getElem_mem hlt)) false s
      unfold stv at *
      repeat' (first|refine zw ?_|refine zn (fun hb=>?_) (fun hb=>?_)|refine zx ?_|refine zof (zA @ha1 (zA @ha2 (@hi))) ?_|exact zi|fail)
      · exact isI (congrArg AV.bool (List.any_eq_true.2 ⟨_, List.getElem_mem hlt, decide_eq_true hb⟩).symm) rfl
      · exact loopNor (m - 1) (by omega) ⟨q + 1, _, _, by omega, by omega, take_all hlt hno (decide_eq_false hb), rfl⟩
    · obtain rfl : q = keysL.length := by omega
      rw [List.take_length] at hno
      have:keyB l = false:=by
        unfold keyB
        rw [List.any_eq_false]
        exact fun x hx=>by rw [hno x hx]; simp
      rw [this]
      repeat' (first|refine zw ?_|refine zn (fun hb=>?_) (fun hb=>?_)|refine zx ?_|refine zo ?_|exact zi|fail)
def nameB (l : List Int) : Bool := wordB smB l && !keyB l
theorem implName {l : List Int} (hl : okB l) (s : Store) : callF (tab tbl) prim 46 [stv l] s = some (.bool (nameB l), s) := by
  have h1:=fun s=>implWord (F:=100) (fun c s=>implSmall c s) hl s
  have h2:=fun s=>implKey hl s
  unfold nameB
  unfold stv at *
  refine funY rfl (zaf (zA @h1 (@h2))) zt ?_
  repeat' (first|refine zw ?_|refine zn (fun hb=>?_) (fun hb=>?_)|refine zx ?_|refine zof (zA @h1 (@h2)) ?_|exact zi|fail)
  all_goals exact isI (congrArg AV.bool (by simp_all)) rfl
theorem implCon {l : List Int} (hl : okB l) (s : Store) : callF (tab tbl) prim 103 [stv l] s = some (.bool (wordB grB l), s) := by
  have h1:=fun s=>implWord (F:=164) (fun c s=>implGreat c s) hl s
  unfold stv at *
  refine funY rfl (zaf @h1) zt ?_
  repeat' (first|refine zw ?_|refine zn (fun hb=>?_) (fun hb=>?_)|refine zx ?_|refine zof @h1 ?_|exact zi|fail)
  all_goals exact isI (congrArg AV.bool (by simp_all)) rfl
theorem specName {l : List Int} (hl : okB l) (fl : Bool) (s : Store) : callF (tab tbl) prim 57 [.imm fl l.length (by8 l)] s = some (.bool (nameB l), s) := by
  have h1:=fun fl s=>specWord false hl fl s
  have h2:=fun fl s=>specKey hl fl s
  unfold nameB
  refine funY rfl (zaf (zA @h1 (@h2))) zt ?_
  repeat' (first|refine zw ?_|refine zn (fun hb=>?_) (fun hb=>?_)|refine zx ?_|refine zof (zA @h1 (@h2)) ?_|exact zi|fail)
  all_goals exact isI (congrArg AV.bool (by simp_all)) rfl
def argsN (k : Int) : Int := if k = 0 ∨ k = 1 ∨ k = 2 ∨ k = 7 then 0 else if k = 3 ∨ k = 4 then 2 else if k = 5 then 1 else if k = 6 then -1 else -2
theorem argsN_spec (k : Int) : ((k = 0 ∨ k = 1 ∨ k = 2 ∨ k = 7) ∧ argsN k = 0) ∨ ((k = 3 ∨ k = 4) ∧ argsN k = 2) ∨ (k = 5 ∧ argsN k = 1) ∨ (k = 6 ∧ argsN k = -1) ∨ ((k < 0 ∨ 7 < k) ∧ argsN k = -2) := by
  unfold argsN
  repeat' split
  all_goals omega
theorem implArgs (k : Int) (s : Store) : callF (tab tbl) prim 200 [.int .i64 k] s = some (.int .i64 (argsN k), s) := by
  have h:=argsN_spec k
  refine funY rfl za zt ?_
  repeat' (first|refine zw ?_|refine zn (fun hb=>?_) (fun hb=>?_)|refine zx ?_|refine zo ?_|exact zi|fail)
  all_goals exact isI (congrArg (AV.int .i64) (by omega)) rfl
abbrev hdP (k n : Int) (len : Nat) : Prop := ((k = 0 ∨ k = 1 ∨ k = 2) ∧ len = 0 ∧ n = 0) ∨ ((k = 3 ∨ k = 4) ∧ len = 2 ∧ n = 0) ∨ (k = 5 ∧ len = 1 ∧ n = 0) ∨ (k = 6 ∧ len ≤ 3 ∧ 0 ≤ n ∧ n ≤ 19) ∨ (k = 7 ∧ len = 0 ∧ 0 ≤ n ∧ n ≤ 99999)
theorem implTyHead (k n : Int) (len : Nat) (cs : List AV) (hlen : len ≤ 9223372036854775807) (s : Store) : callF (tab tbl) prim 189 [.agg [.int .i64 k, .int .i64 n, .imm false len cs]] s = some (.bool (decide (hdP k n len)), s) := by
  have h:=argsN_spec k
  refine dec_of ?_
  refine funZ rfl (zaf (zA @implArgs (@implWithin))) zt ?_
  repeat' (first|refine zw ?_|refine zn (fun hb=>?_) (fun hb=>?_)|refine zx ?_|refine zof (zA @implArgs (@implWithin)) ?_|exact zi|fail)
  all_goals exact zl
mutual
def tcnt : Ty → Nat
  | .mk _ _ args => 1 + cntT args
def cntT : List Ty → Nat
  | [] => 0
  | t :: r => tcnt t + cntT r
end
theorem cntT_eq : ∀ l : List Ty, cntT l = (l.map tcnt).sum
  | [] => rfl
  | t :: r => by rw [cntT, cntT_eq r]; rfl
mutual
def tgd (d : Nat) : Ty → Bool
  | .mk k n args => decide (d ≤ 10) && decide (hdP k n args.length) && gdT (d + 1) args
def gdT (d : Nat) : List Ty → Bool
  | [] => true
  | t :: r => tgd d t && gdT d r
end
theorem gdT_iff (d : Nat) : ∀ l : List Ty, gdT d l = true ↔ ∀ x ∈ l, tgd d x = true
  | [] => by simp [gdT]
  | t :: r => by simp [gdT, gdT_iff d r]
def TB (d : Nat) (t : Ty) : Prop := tgd d t = true ∧ tcnt t ≤ 60
instance (d : Nat) (t : Ty) : Decidable (TB d t) := by unfold TB; infer_instance
theorem TB_mk {d : Nat} {k n : Int} {args : List Ty} : TB d (.mk k n args) ↔ d ≤ 10 ∧ hdP k n args.length ∧ (∀ x ∈ args, tgd (d + 1) x = true) ∧ 1 + (args.map tcnt).sum ≤ 60 := by
  unfold TB
  simp only [tgd,tcnt,Bool.and_eq_true,decide_eq_true_eq,gdT_iff,cntT_eq]
  constructor
  · rintro ⟨⟨⟨h1, h2⟩, h3⟩, h4⟩; exact ⟨h1, h2, h3, h4⟩
  · rintro ⟨h1, h2, h3, h4⟩; exact ⟨⟨⟨h1, h2⟩, h3⟩, h4⟩
theorem cnt_mem {l : List Ty} {x : Ty} (h : x ∈ l) : tcnt x ≤ (l.map tcnt).sum := by
  induction l with
  | nil => cases h
  | cons a r ih =>
    simp only [List.map_cons,List.sum_cons]
    rcases List.mem_cons.1 h with rfl | h
    · omega
    · have := ih h; omega
theorem cnt_pos : ∀ t : Ty, 1 ≤ tcnt t
  | .mk .. => by simp only [tcnt]; omega
def tms (bad : Int) (d : Nat) (t : Ty) : Int := if TB d t then tcnt t else bad
theorem ms_cases (bad : Int) (d : Nat) (t : Ty) : (TB d t ∧ tms bad d t = tcnt t ∧ tcnt t ≤ 60) ∨ (¬ TB d t ∧ tms bad d t = bad) := by
  unfold tms
  split
  · rename_i h; exact .inl ⟨h, rfl, h.2⟩
  · rename_i h; exact .inr ⟨h, rfl⟩
theorem ms_bad {bad : Int} {d : Nat} {t : Ty} (h : ¬ TB d t) : tms bad d t = bad := by unfold tms; rw [if_neg h]
theorem not_TB {d : Nat} {k n : Int} {args : List Ty} {x : Ty} (hx : x ∈ args) (h : ¬ TB (d + 1) x) : ¬ TB d (.mk k n args) := fun ht => by
  have:=TB_mk.1 ht
  exact h ⟨this.2.2.1 x hx,by have:=cnt_mem hx; omega⟩
set_option maxHeartbeats 8000000 in
theorem implMeasure : ∀ t : Ty, t.sz ≤ 1000000000 → ∀ (d : Nat) (s : Store), d ≤ 1000 → callF (tab tbl) prim 166 [.agg t.az, .int .i64 d] s = some (.int .i64 (tms 61 d t), s) := by
  refine Ty.ind fun k n args ih=>?_
  intro hsz d s hd
  simp only [Ty.sz,szT_eq] at hsz
  have hln:=sizes_len Ty.sz args
  have hH:=fun s=>implTyHead k n args.length (args.flatMap Ty.az) (by omega) s
  simp only [Ty.az,azT_eq]
  refine funY rfl (zaf @hH) zt ?_
  repeat' (first|refine zw ?_|refine zn (fun hb=>?_) (fun hb=>?_)|refine zx ?_|refine zof @hH ?_|exact zi|fail)
  · exact isI (congrArg (AV.int .i64) (ms_bad fun h => by have := (TB_mk.1 h).1; omega).symm) rfl
  · refine wLoop (fun m st => ∃ (q : Nat) (y3 y5 y10 y11 : AV) (c : Nat) (T : List Ae.Obj), (m : Int) = args.length - q ∧ q ≤ args.length ∧ (∀ x ∈ args.take q, tgd (d + 1) x = true) ∧ c = 1 + ((args.take q).map tcnt).sum ∧ c ≤ 60 ∧ T[0]? = some (.box 94 [.int .i64 k, .int .i64 n, .imm false args.length (args.flatMap Ty.az)]) ∧
      st = ⟨[.agg [.int .i64 k, .int .i64 n, .imm false args.length (args.flatMap Ty.az)], .int .i64 d, .ptr (s.low.length + 1) 0 0, y3, .int .i64 c, y5, .bool false, .imm false args.length (args.flatMap Ty.az), .int .i64 args.length, .int .i64 q, y10, y11], frm s T⟩) args.length ?_ ?_
    · exact ⟨0, _, _, _, _, 1, _, by omega, by omega, by simp, by simp, by omega, rfl, rfl⟩
    · rintro m st ⟨q, y3, y5, y10, y11, c, T, hm, hq, hgd, hc, hc60, hT, rfl⟩
      have hT':∀ o,(T ++ [o])[0]? = some (.box 94 [.int .i64 k,.int .i64 n,.imm false args.length (args.flatMap Ty.az)]):=fun o=>by rw [List.getElem?_append_left (List.getElem?_eq_some_iff.1 hT).1]; exact hT
      by_cases hlt:q < args.length
      · obtain ⟨ha1, ha2⟩ := fm_at Ty.len hlt
        have hx:=List.getElem_mem hlt
        have hsx:=sizes_mem Ty.sz hx
        have hi:=fun s=>ih _ hx (by omega) (d + 1) s
        have hst:=sum_take tcnt args hlt
        have hsl:=sum_le tcnt args (q + 1)
        have hmc:=ms_cases 61 (d + 1) args[q]
        have hcp:=cnt_pos args[q]
        rw [show ((d + 1:Nat):Int) = (d:Int) + 1 by omega] at hi
        have htk:=List.take_succ_eq_append_getElem hlt
        have hnt:=fun h:¬ TB (d + 1) args[q]=>not_TB (d:=d) (k:=k) (n:=n) hx h
        generalize args[q] = x at *
        obtain ⟨k2,n2,args2⟩:=x
        simp only [Ty.az,azT_eq] at ha2 hi
        repeat' (first|refine zw ?_|refine zn (fun hb=>?_) (fun hb=>?_)|refine zx ?_|refine zof (zA @ha1 (zA @ha2 (zA @hT (zA @hT' (@hi))))) ?_|exact zi|fail)
        · refine isI (congrArg (AV.int .i64) (ms_bad fun h => ?_).symm) rfl
          have h4:=(TB_mk.1 h).2.2.2
          rcases hmc with ⟨_, h1, _⟩ | ⟨h1, _⟩
          · omega
          · exact hnt h1 h
        · rcases hmc with ⟨h0, h1, _⟩ | ⟨_, h1⟩
          · refine loopNor (m - 1) (by omega) ⟨q + 1, _, _, _, _, c + tcnt (.mk k2 n2 args2), _, by omega, by omega, fun x hx => ?_, by omega, by omega, hT' _, by rw [h1]; rfl⟩
            rw [htk,List.mem_append,List.mem_singleton] at hx
            rcases hx with hx | rfl
            · exact hgd x hx
            · exact h0.1
          · omega
      · obtain rfl : q = args.length := by omega
        repeat' (first|refine zw ?_|refine zn (fun hb=>?_) (fun hb=>?_)|refine zx ?_|refine zo ?_|exact zi|fail)
        rw [List.take_length] at hgd hc
        have hd10:d ≤ 10:=by omega
        refine isI (congrArg (AV.int .i64) ?_) rfl
        unfold tms
        rw [if_pos (TB_mk.2 ⟨hd10,by assumption,hgd,by omega⟩)]
        simp only [tcnt,cntT_eq]
        omega
  · exact isI (congrArg (AV.int .i64) (ms_bad fun h => hb (TB_mk.1 h).2.1).symm) rfl
theorem implTyOk {t : Ty} (h : t.sz ≤ 1000000000) (s : Store) : callF (tab tbl) prim 107 [.agg t.az] s = some (.bool (decide (TB 1 t)), s) := by
  have hm:=fun s=>implMeasure t h 1 s (by omega)
  rw [show ((1:Nat):Int) = 1 from rfl] at hm
  have hc:=ms_cases 61 1 t
  refine dec_of ?_
  generalize tms 61 1 t = v at *
  generalize hP:TB 1 t = P at *
  have hd:=t
  obtain ⟨k,n,args⟩:=t
  simp only [Ty.az,azT_eq] at hm ⊢
  refine funZ rfl (zaf @hm) zt ?_
  repeat' (first|refine zw ?_|refine zn (fun hb=>?_) (fun hb=>?_)|refine zx ?_|refine zof @hm ?_|exact zi|fail)
  all_goals
    refine ⟨_,rfl,rfl,?_⟩
    rcases hc with ⟨h1, h2, h3⟩ | ⟨h1, h2⟩
    · first | exact iff_of_true rfl h1 | omega
    · first | exact iff_of_false Bool.false_ne_true h1 | omega
set_option maxHeartbeats 8000000 in
theorem specTy : ∀ t : Ty, t.sz ≤ 1000000000 → ∀ (d : Nat) (s : Store), d ≤ 1000 → callF (tab tbl) prim 117 [.agg t.az, .int .i64 d] s = some (.int .i64 (tms (-1) d t), s) := by
  refine Ty.ind fun k n args ih=>?_
  intro hsz d s hd
  simp only [Ty.sz,szT_eq] at hsz
  have hln:=sizes_len Ty.sz args
  simp only [Ty.az,azT_eq]
  refine funY rfl za zt ?_
  repeat' (first|refine zw ?_|refine zn (fun hb=>?_) (fun hb=>?_)|refine zx ?_|refine zo ?_|exact zi|fail)
  all_goals try exact isI (congrArg (AV.int .i64) (ms_bad fun h => by have h1 := (TB_mk.1 h).1; have h2 := (TB_mk.1 h).2.1; omega).symm) rfl
  all_goals
    refine wLoop (fun m st=>∃ (q:Nat) (y4 y5 y8 y10 y11 y12 y13 y14 y15 y16 y17 y18 y19 y20:AV) (c:Nat),(m:Int) = args.length - q∧q ≤ args.length∧(∀ x ∈ args.take q,tgd (d + 1) x = true)∧c = 1 + ((args.take q).map tcnt).sum∧c ≤ 60 ∧
      st = ⟨[.agg [.int .i64 k, .int .i64 n, .imm false args.length (args.flatMap Ty.az)], .int .i64 d, .ptr (s.low.length + 1) 0 0, .int .i64 0, y4, y5, .int .i64 c, .int .i64 q, y8, .bool false, y10, y11, y12, y13, y14, y15, y16, y17, y18, y19, y20], frm s [.box 94 [.int .i64 k, .int .i64 n, .imm false args.length (args.flatMap Ty.az)]]⟩) args.length ?_ ?_
    · exact ⟨0, _, _, _, _, _, _, _, _, _, _, _, _, _, _, 1, by omega, by omega, by simp, by simp, by omega, rfl⟩
    · rintro m st ⟨q, y4, y5, y8, y10, y11, y12, y13, y14, y15, y16, y17, y18, y19, y20, c, hm, hq, hgd, hc, hc60, rfl⟩
      by_cases hlt:q < args.length
      · first
        | (exfalso; omega)
        | (obtain ⟨ha1, ha2⟩ := fm_at Ty.len hlt
           have hx:=List.getElem_mem hlt
           have hsx:=sizes_mem Ty.sz hx
           have hi:=fun s=>ih _ hx (by omega) (d + 1) s
           have hst:=sum_take tcnt args hlt
           have hsl:=sum_le tcnt args (q + 1)
           have hmc:=ms_cases (-1) (d + 1) args[q]
           have hcp:=cnt_pos args[q]
           rw [show ((d + 1:Nat):Int) = (d:Int) + 1 by omega] at hi
           have htk:=List.take_succ_eq_append_getElem hlt
           have hnt:=fun h:¬ TB (d + 1) args[q]=>not_TB (d:=d) (k:=k) (n:=n) hx h
           generalize args[q] = x at *
           repeat' (first|refine zw ?_|refine zn (fun hb=>?_) (fun hb=>?_)|refine zx ?_|refine zof (zA @ha1 (zA @ha2 (@hi))) ?_|exact zi|fail)
           · refine isI (congrArg (AV.int .i64) (ms_bad fun h => ?_).symm) rfl
             rcases hmc with ⟨_, h1, _⟩ | ⟨h1, _⟩
             · omega
             · exact hnt h1 h
           · refine isI (congrArg (AV.int .i64) (ms_bad fun h => ?_).symm) rfl
             have h4:=(TB_mk.1 h).2.2.2
             rcases hmc with ⟨_, h1, _⟩ | ⟨h1, _⟩
             · omega
             · exact hnt h1 h
           · rcases hmc with ⟨h0, h1, _⟩ | ⟨_, h1⟩
             · refine loopNor (m - 1) (by omega) ⟨q + 1, _, _, _, _, _, _, _, _, _, _, _, _, _, _, c + tcnt x, by omega, by omega, fun x hx => ?_, by omega, by omega, by rw [h1]; rfl⟩
               rw [htk,List.mem_append,List.mem_singleton] at hx
               rcases hx with hx | rfl
               · exact hgd x hx
               · exact h0.1
             · omega)
      · obtain rfl : q = args.length := by omega
        repeat' (first|refine zw ?_|refine zn (fun hb=>?_) (fun hb=>?_)|refine zx ?_|refine zo ?_|exact zi|fail)
        rw [List.take_length] at hgd hc
        have hd10:d ≤ 10:=by omega
        refine isI (congrArg (AV.int .i64) ?_) rfl
        unfold tms
        rw [if_pos (TB_mk.2 ⟨hd10,by omega,hgd,by omega⟩)]
        simp only [tcnt,cntT_eq]
        omega
theorem specTyOk {t : Ty} (h : t.sz ≤ 1000000000) (s : Store) : callF (tab tbl) prim 61 [.agg t.az] s = some (.bool (decide (TB 1 t)), s) := by
  have hm:=fun s=>specTy t h 1 s (by omega)
  rw [show ((1:Nat):Int) = 1 from rfl] at hm
  have hc:=ms_cases (-1) 1 t
  have hcp:=cnt_pos t
  refine dec_of ?_
  generalize tms (-1) 1 t = v at *
  generalize hP:TB 1 t = P at *
  obtain ⟨k,n,args⟩:=t
  simp only [Ty.az,azT_eq] at hm ⊢
  refine funZ rfl (zaf @hm) zt ?_
  repeat' (first|refine zw ?_|refine zn (fun hb=>?_) (fun hb=>?_)|refine zx ?_|refine zof @hm ?_|exact zi|fail)
  all_goals
    refine ⟨_,rfl,rfl,?_⟩
    rcases hc with ⟨h1, h2, h3⟩ | ⟨h1, h2⟩
    · first | exact iff_of_true rfl h1 | omega
    · first | exact iff_of_false Bool.false_ne_true h1 | omega
end Go.Proofs.YtkjonfojileipaaGreatDoor.Gq
