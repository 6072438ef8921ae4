/- Types that may stand in a data, for the program and for the reference. Names of datas and of constructors that are looked for, for the program and for the reference. The constructors of a data, for the program. When datas are right, for the program and for the reference. When datas are right, for the reference. -/
import Derived.Test.YtkjonfojileipaaGreatDoorW4
set_option linter.unusedSimpArgs false
set_option linter.unusedVariables false
namespace Go.Proofs.YtkjonfojileipaaGreatDoor.Gq
open Go Go.Proofs Go.Proofs.YtkjonfojileipaaGreatDoor.Ae
attribute [local congr] obind_congr
attribute [local push_cast] exF argsV frzs frz frzL frz1 exS_reg exS_seq exS_cond exS_alt exS_block exS_loop exS_exit exS_ret exS_skip evReg evOps evOne evAct evOp rd putV st0 evEnd resV resL resOne oneOr frzR loadV storeV binV binI unV push_frm pop_frm frm_len frm_top frm_get_top frm_set_top frm_new AV.cells AV.lowB AV.lowL AV.isCell cellsOk set_len Option.bind_some Option.map_some Option.map_none List.getD_cons_zero List.getD_cons_succ List.nil_append List.cons_append List.append_nil List.length_cons List.length_nil List.set_cons_zero List.set_cons_succ List.map_cons List.map_nil List.replicate if_true if_false ite_true ite_false ite_self Bool.false_eq_true List.all_cons List.all_nil Bool.and_true Bool.true_and Bool.and_self Bool.and_eq_true List.getElem?_cons_zero List.getElem?_cons_succ List.drop_succ_cons List.drop_zero List.take_succ_cons List.take_zero true_and and_true and_self decide_true decide_false Bool.not_true Bool.not_false Prod.mk.injEq Option.some.injEq List.getElem?_drop optInt elems sliceV partsOf Nat.add_zero Nat.zero_add Nat.mul_one beq_self_eq_true litParts Bool.or_false Bool.false_or Bool.or_true Bool.true_or Bool.false_and Bool.and_false List.cons.injEq not_false_eq_true not_true_eq_false Nat.zero_le Nat.le_refl gt_iff_lt ge_iff_le List.drop_nil List.take_nil newBox List.length_append List.length_map bne_self_eq_false eq_self Nat.lt_add_one ne_eq false_implies Int.le_refl
theorem dt_at {ds : List Dt} {i : Nat} (h : i < ds.length) : (ds.flatMap Dt.az)[i * 3]? = some (bsl ds[i].name) ∧ (ds.flatMap Dt.az)[i * 3 + 1]? = some (.int .i64 ds[i].vars) ∧ (ds.flatMap Dt.az)[i * 3 + 2]? = some (.imm false ds[i].cons.length (ds[i].cons.flatMap Con.az)) := by
  obtain ⟨h1,h2⟩:=fm_at Dt.len h
  have key:∀ j,j < 3→(ds.flatMap Dt.az)[i * 3 + j]? = (Dt.az ds[i])[j]?:=fun j hj=>by
    rw [← h2,List.getElem?_take,if_pos hj,List.getElem?_drop]
  exact ⟨key 0 (by omega),key 1 (by omega),key 2 (by omega)⟩
theorem con_at {cs : List Con} {i : Nat} (h : i < cs.length) : (cs.flatMap Con.az)[i * 2]? = some (bsl cs[i].name) ∧ (cs.flatMap Con.az)[i * 2 + 1]? = some (.imm false cs[i].fields.length (azT cs[i].fields)) := by
  obtain ⟨h1,h2⟩:=fm_at Con.len h
  have key:∀ j,j < 2→(cs.flatMap Con.az)[i * 2 + j]? = (Con.az cs[i])[j]?:=fun j hj=>by
    rw [← h2,List.getElem?_take,if_pos hj,List.getElem?_drop]
  exact ⟨key 0 (by omega),key 1 (by omega)⟩
def dvs (ds : List Dt) : List Int := ds.map Dt.vars
theorem dvs_at {ds : List Dt} {i : Nat} (h : i < ds.length) : (ds.flatMap Dt.az)[i * 3 + 1]? = some (.int .i64 ((dvs ds).getD i 0)) := by
  rw [(dt_at h).2.1]
  simp [dvs, h]
mutual
def fldB (vars : Int) (dv : List Int) : Ty → Bool
  | .mk k n args => (if k = 7 then decide (n < vars) else if k = 6 then decide (n < dv.length) && decide (dv.getD n.toNat 0 = args.length) else true) && fldsB vars dv args
def fldsB (vars : Int) (dv : List Int) : List Ty → Bool
  | [] => true
  | t :: r => fldB vars dv t && fldsB vars dv r
end
theorem fldsB_eq (vars : Int) (dv : List Int) : ∀ l : List Ty, fldsB vars dv l = l.all (fldB vars dv)
  | [] => rfl
  | t :: r => by rw [fldsB, fldsB_eq vars dv r, List.all_cons]
theorem gd_args {d : Nat} {k n : Int} {args : List Ty} (h : tgd d (.mk k n args) = true) : hdP k n args.length ∧ ∀ x ∈ args, tgd (d + 1) x = true := by
  simp only [tgd,Bool.and_eq_true,decide_eq_true_eq,gdT_iff] at h
  exact ⟨h.1.2,h.2⟩
set_option maxHeartbeats 8000000 in
theorem implField {ds : List Dt} {vars : Int} (h0 : 0 < ds.length) (hv : (dvs ds).getD (ds.length - 1) 0 = vars) (hl : ds.length ≤ 1000) :
    ∀ t : Ty, t.sz ≤ 1000000000 → ∀ d, tgd d t = true → ∀ s : Store, callF (tab tbl) prim 108 [.agg t.az, .imm false ds.length (ds.flatMap Dt.az)] s = some (.bool (fldB vars (dvs ds) t), s) := by
  refine Ty.ind fun k n args ih=>?_
  intro hsz d hgd s
  simp only [Ty.sz,szT_eq] at hsz
  have hln:=sizes_len Ty.sz args
  obtain ⟨hh,hg⟩:=gd_args hgd
  have hclo:∀ x ∈ args,∀ (S:Store) (d' i:Nat),d' ≤ S.low.length→S.get d' i = some (.box 73 [.imm false ds.length (ds.flatMap Dt.az)]) ∨ S.get d' i = some (.box 32 [.imm false ds.length (ds.flatMap Dt.az)]) →
      callF (tab tbl) prim 167 [.agg x.az, .ptr d' i 0] S = some (.bool (!fldB vars (dvs ds) x), S) := by
    intro x hx S d' i hd' hS
    have hi:=fun s=>ih x hx (by have:=sizes_mem Ty.sz hx; omega) (d + 1) (hg x hx) s
    obtain ⟨k2,n2,args2⟩:=x
    simp only [Ty.az,azT_eq] at hi ⊢
    generalize fldB vars (dvs ds) (.mk k2 n2 args2) = b at *
    have hgt:∀ T,(frm S T).get d' i = S.get d' i:=fun T=>frm_get S T i hd'
    rcases hS with hS | hS
    all_goals
      refine funY rfl (zaf (zA @hgt (zA @hS (@hi)))) zt ?_
      repeat' (first|refine zw ?_|refine zn (fun hb=>?_) (fun hb=>?_)|refine zx ?_|refine zof (zA @hgt (zA @hS (@hi))) ?_|exact zi|fail)
      all_goals exact isI (congrArg AV.bool (by simp_all)) rfl
  have hcf:∀ (s:Store) (T:List Ae.Obj),T[1]? = some (.box 32 [.imm false ds.length (ds.flatMap Dt.az)])→callF (tab tbl) prim 105 [.imm false args.length (args.flatMap Ty.az),.fn 167 [] [.ptr (s.low.length + 1) 1 0]] (frm s T) = some (.bool (args.any fun x=>!fldB vars (dvs ds) x),frm s T):=by
    intro s T hT
    refine cf_ok (i:=165) rfl (fun _=>rfl) (fun _=>rfl) ?_
    refine ixA_ok (sz:=3) rfl Ty.len (fun _=>rfl) (fun x hx=>?_) (by omega)
    refine hclo x hx _ _ 1 (by simp only [frm_len]; omega) (.inr ?_)
    rw [frm_get _ _ _ (by simp only [frm_len]; omega),frm_get _ _ _ (by simp only [frm_len]; omega),frm_get_top]
    exact hT
  have hall:(!(args.any fun x=>!fldB vars (dvs ds) x)) = fldsB vars (dvs ds) args:=by
    rw [fldsB_eq]
    induction args with
    | nil => rfl
    | cons a r _ => simp [List.all_eq_not_any_not]
  have hv1:=dvs_at (ds:=ds) (i:=ds.length - 1) (by omega)
  rw [hv] at hv1
  have hv6:n.toNat < ds.length→(ds.flatMap Dt.az)[n.toNat * 3 + 1]? = some (.int .i64 ((dvs ds).getD n.toNat 0)):=fun h=>dvs_at h
  have hcz:((ds.length:Int) - 1).toNat = ds.length - 1:=by omega
  have hdl:(dvs ds).length = ds.length:=by simp [dvs]
  have hcf1:=hcf s [.box 94 [.int .i64 k,.int .i64 n,.imm false args.length (args.flatMap Ty.az)],.box 32 [.imm false ds.length (ds.flatMap Dt.az)]] rfl
  have hz:args.length = 0→(args.any fun x=>!fldB vars (dvs ds) x) = false:=fun h=>by rw [List.length_eq_zero_iff.1 h]; rfl
  simp only [Ty.az,azT_eq,fldB]
  rw [← hall]
  generalize (args.any fun x=>!fldB vars (dvs ds) x) = b at *
  generalize (dvs ds).getD n.toNat 0 = w at *
  refine funY rfl (zaf (zA @hcz (zA @hv1 (zA @hv6 (@hcf1))))) zt ?_
  repeat' (first|refine zw ?_|refine zn (fun hb=>?_) (fun hb=>?_)|refine zx ?_|refine zof (zA @hcz (zA @hv1 (zA @hv6 (@hcf1)))) ?_|exact zi|fail)
  all_goals
    refine isI (congrArg AV.bool ?_) rfl
    rw [hdl]
    first
    | (rw [if_pos (by omega), hz (by omega)]; first | (rw [decide_eq_true (by omega)]; rfl) | (rw [decide_eq_false (by omega)]; rfl))
    | (rw [if_neg (by omega), if_pos (by omega)]; first
      | (rw [decide_eq_false (p := n < _) (by omega)]; rfl)
      | (rw [decide_eq_true (p := n < _) (by omega), decide_eq_false (p := w = _) (by omega)]; rfl)
      | (rw [decide_eq_true (p := n < _) (by omega), decide_eq_true (p := w = _) (by omega)]; simp_all))
    | (rw [if_neg (by omega), if_neg (by omega)]; simp_all)
set_option maxHeartbeats 8000000 in
theorem specField {ds : List Dt} {vars : Int} (hl : ds.length ≤ 1000) :
    ∀ t : Ty, t.sz ≤ 1000000000 → ∀ d, tgd d t = true → ∀ (s : Store), callF (tab tbl) prim 62 [.agg t.az, .int .i64 vars, .imm false ds.length (ds.flatMap Dt.az)] s = some (.bool (fldB vars (dvs ds) t), s) := by
  refine Ty.ind fun k n args ih=>?_
  intro hsz d hgd s
  simp only [Ty.sz,szT_eq] at hsz
  have hln:=sizes_len Ty.sz args
  obtain ⟨hh,hg⟩:=gd_args hgd
  have hv6:n.toNat < ds.length→(ds.flatMap Dt.az)[n.toNat * 3 + 1]? = some (.int .i64 ((dvs ds).getD n.toNat 0)):=fun h=>dvs_at h
  have hdl:(dvs ds).length = ds.length:=by simp [dvs]
  simp only [Ty.az,azT_eq,fldB,fldsB_eq]
  generalize (dvs ds).getD n.toNat 0 = w at *
  have hloop:∀ y6 y7 y8 y9:AV,Wp (exS (callF (tab tbl) prim) (.loop (loopAt c62 0)) ⟨[.agg [.int .i64 k,.int .i64 n,.imm false args.length (args.flatMap Ty.az)],.int .i64 vars,.imm false ds.length (ds.flatMap Dt.az),.ptr (s.low.length + 1) 0 0,.bool false,.int .i64 0,y6,y7,y8,y9],frm s [.box 94 [.int .i64 k,.int .i64 n,.imm false args.length (args.flatMap Ty.az)]]⟩)
      (fun e st => st.s = frm s [.box 94 [.int .i64 k, .int .i64 n, .imm false args.length (args.flatMap Ty.az)]] ∧ ((e = .exit 0 ∧ args.all (fldB vars (dvs ds)) = true ∧ ∃ z5 z6 z7 z8 z9, st.vs = [.agg [.int .i64 k, .int .i64 n, .imm false args.length (args.flatMap Ty.az)], .int .i64 vars, .imm false ds.length (ds.flatMap Dt.az), .ptr (s.low.length + 1) 0 0, .bool false, z5, z6, z7, z8, z9]) ∨
        (e = .ret ∧ args.all (fldB vars (dvs ds)) = false ∧ ∃ z5 z6 z7 z8 z9, st.vs = [.agg [.int .i64 k, .int .i64 n, .imm false args.length (args.flatMap Ty.az)], .int .i64 vars, .imm false ds.length (ds.flatMap Dt.az), .ptr (s.low.length + 1) 0 0, .bool false, z5, z6, z7, z8, z9]))) := by
    intro y6 y7 y8 y9
    simp only [loopAt,loops,c62,List.nil_append,List.append_nil,List.getD_cons_zero]
    refine wLoop (fun m st=>∃ (q:Nat) (y6 y7 y8 y9:AV),(m:Int) = args.length - q∧q ≤ args.length∧(∀ x ∈ args.take q,fldB vars (dvs ds) x = true) ∧
      st = ⟨[.agg [.int .i64 k, .int .i64 n, .imm false args.length (args.flatMap Ty.az)], .int .i64 vars, .imm false ds.length (ds.flatMap Dt.az), .ptr (s.low.length + 1) 0 0, .bool false, .int .i64 q, y6, y7, y8, y9], frm s [.box 94 [.int .i64 k, .int .i64 n, .imm false args.length (args.flatMap Ty.az)]]⟩) args.length ?_ ?_
    · exact ⟨0, _, _, _, _, by omega, by omega, by simp, rfl⟩
    · rintro m st ⟨q, y6, y7, y8, y9, hm, hq, hno, rfl⟩
      by_cases hlt:q < args.length
      · obtain ⟨ha1, ha2⟩ := fm_at Ty.len hlt
        have hx:=List.getElem_mem hlt
        have hi:=fun s=>ih _ hx (by have:=sizes_mem Ty.sz hx; omega) (d + 1) (hg _ hx) s
        repeat' (first|refine zw ?_|refine zn (fun hb=>?_) (fun hb=>?_)|refine zx ?_|refine zof (zA @ha1 (zA @ha2 (@hi))) ?_|exact zi|fail)
        · exact loopNor (m - 1) (by omega) ⟨q + 1, _, _, _, _, by omega, by omega, (fun x hx => by
            rw [List.take_succ_eq_append_getElem hlt,List.mem_append,List.mem_singleton] at hx
            rcases hx with hx | rfl
            · exact hno x hx
            · exact hb), rfl⟩
        · exact ⟨rfl, .inr ⟨rfl, Bool.eq_false_iff.2 fun h => by have := List.all_eq_true.1 h _ hx; simp_all, _, _, _, _, _, rfl⟩⟩
      · obtain rfl : q = args.length := by omega
        rw [List.take_length] at hno
        repeat' (first|refine zw ?_|refine zn (fun hb=>?_) (fun hb=>?_)|refine zx ?_|refine zo ?_|exact zi|fail)
        exact ⟨rfl,.inl ⟨rfl,List.all_eq_true.2 hno,_,_,_,_,_,rfl⟩⟩
  have hz:args.length = 0→args.all (fldB vars (dvs ds)) = true:=fun h=>by rw [List.length_eq_zero_iff.1 h]; rfl
  generalize args.all (fldB vars (dvs ds)) = b at *
  refine funY rfl (zaf @hv6) zt ?_
  repeat' (first|refine zw ?_|refine zn (fun hb=>?_) (fun hb=>?_)|refine zx ?_|refine zof @hv6 ?_|exact zi|fail)
  all_goals try
    refine Wp.mono (hloop _ _ _ _) ?_
    rintro e ⟨vs, s'⟩ ⟨hs, ⟨rfl, hb2, z5, z6, z7, z8, z9, hvs⟩ | ⟨rfl, hb2, z5, z6, z7, z8, z9, hvs⟩⟩
    all_goals
      simp only at hs hvs
      subst hs hvs
      repeat' (first|refine zw ?_|refine zn (fun hb=>?_) (fun hb=>?_)|refine zx ?_|refine zo ?_|exact zi|fail)
  all_goals
    refine isI (congrArg AV.bool ?_) rfl
    rw [hdl]
    first
    | (exfalso; have hz' := hz (by omega); simp_all; done)
    | (rw [if_pos (by omega), hz (by omega)]; first | (rw [decide_eq_true (by omega)]; rfl) | (rw [decide_eq_false (by omega)]; rfl))
    | (rw [if_neg (by omega), if_pos (by omega)]; first
      | (rw [decide_eq_false (p := n < _) (by omega)]; rfl)
      | (rw [decide_eq_true (p := n < _) (by omega), decide_eq_false (p := w = _) (by omega)]; rfl)
      | (rw [decide_eq_true (p := n < _) (by omega), decide_eq_true (p := w = _) (by omega)]; simp_all))
    | (rw [if_neg (by omega), if_neg (by omega)]; simp_all)
def conB (w : List Int) (cs : List Con) : Bool := cs.any fun c => decide (c.name = w)
def consB (w : List Int) (ds : List Dt) : Bool := ds.any fun d => conB w d.cons
def datB (w : List Int) (ds : List Dt) : Bool := ds.any fun d => decide (d.name = w)
def okN (ds : List Dt) : Prop := ∀ d ∈ ds, okB d.name ∧ ∀ c ∈ d.cons, okB c.name
def azq (x : Bool × Dt) : List AV := [.imm x.1 x.2.name.length (by8 x.2.name), .int .i64 x.2.vars, .imm false x.2.cons.length (x.2.cons.flatMap Con.az)]
theorem azq_len (x : Bool × Dt) : (azq x).length = 3 := rfl
def consQ (w : List Int) (l : List (Bool × Dt)) : Bool := l.any fun x => conB w x.2.cons
set_option maxHeartbeats 8000000 in
theorem implFindCon {ds : List (Bool × Dt)} {w : List Int} (hw : okB w) (ho : okN (ds.map Prod.snd)) (hl : ds.length ≤ 1000000000) (hc : ∀ d ∈ ds, d.2.cons.length ≤ 1000000000) (s : Store) :
    ∃ v s', callF (tab tbl) prim 142 [.imm false ds.length (ds.flatMap azq), stv w] s = some (v, s') ∧ ∃ a b : Int, v = .tup [.int .i64 a, .int .i64 b, .bool (consQ w ds)] ∧ s' = s := by
  unfold stv
  refine funZ rfl za zt ?_
  repeat' (first|refine zw ?_|refine zn (fun hb=>?_) (fun hb=>?_)|refine zx ?_|refine zo ?_|exact zi|fail)
  refine wLoop (fun m st=>∃ (q:Nat) (y5 y6 y7 y8 y12 y13 y14 y15 y16 y17:AV) (T:List Ae.Obj),(m:Int) = ds.length - q∧q ≤ ds.length∧(∀ d ∈ ds.take q,conB w d.2.cons = false) ∧
    st = ⟨[.imm false ds.length (ds.flatMap azq), .str (bst w), .int .i64 0, .int .i64 0, .bool false, y5, y6, y7, y8, .imm false ds.length (ds.flatMap azq), .int .i64 ds.length, .int .i64 q, y12, y13, y14, y15, y16, y17], frm s T⟩) ds.length ?_ ?_
  · exact ⟨0, _, _, _, _, _, _, _, _, _, _, _, by omega, by omega, by simp, rfl⟩
  · rintro m st ⟨q, y5, y6, y7, y8, y12, y13, y14, y15, y16, y17, T, hm, hq, hno, rfl⟩
    by_cases hlt:q < ds.length
    · obtain ⟨ha1, ha2⟩ := fm_at azq_len hlt
      have hx:=List.getElem_mem hlt
      have hcl:=hc _ hx
      have hon:=(ho ds[q].2 (List.mem_map_of_mem hx)).2
      have htk:=fun h=>take_all (p:=fun d:Bool × Dt=>conB w d.2.cons) hlt hno h
      have hyes:=fun h:conB w ds[q].2.cons = true=>(List.any_eq_true (p:=fun d:Bool × Dt=>conB w d.2.cons)).2 ⟨_,hx,h⟩
      generalize ds[q] = d at *
      obtain ⟨fl,name,vars,cons⟩:=d
      simp only [azq] at ha2
      dsimp only at hcl hon htk hyes
      repeat' (first|refine zw ?_|refine zn (fun hb=>?_) (fun hb=>?_)|refine zx ?_|refine zof (zA @ha1 (@ha2)) ?_|exact zi|fail)
      refine wLoop (fun m2 st=>∃ (r:Nat) (y7 y8 y16 y17:AV) (T:List Ae.Obj),(m2:Int) = cons.length - r∧r ≤ cons.length∧(∀ c ∈ cons.take r,decide (c.name = w) = false) ∧
        ∃ y5 y6, st = ⟨[.imm false ds.length (ds.flatMap azq), .str (bst w), .int .i64 0, .int .i64 0, .bool false, .int .i64 q, y6, y7, y8, .imm false ds.length (ds.flatMap azq), .int .i64 ds.length, .int .i64 q, y5, .imm false cons.length (cons.flatMap Con.az), .int .i64 cons.length, .int .i64 r, y16, y17], frm s T⟩) cons.length ?_ ?_
      · exact ⟨0, _, _, _, _, _, by omega, by omega, by simp, _, _, rfl⟩
      · rintro m2 st ⟨r, y7, y8, y16, y17, T2, hm2, hr, hno2, y5, y6, rfl⟩
        by_cases hlt2:r < cons.length
        · obtain ⟨hb1, hb2⟩ := fm_at Con.len hlt2
          have hx2:=List.getElem_mem hlt2
          have he:=bst_eql (hon _ hx2).2 hw.2
          have htk2:=fun h=>take_all (p:=fun c:Con=>decide (c.name = w)) hlt2 hno2 h
          have hyes2:=fun h:cons[r].name = w=>(List.any_eq_true (p:=fun c:Con=>decide (c.name = w))).2 ⟨_,hx2,decide_eq_true h⟩
          generalize cons[r] = c at *
          obtain ⟨cname,cfields⟩:=c
          simp only [Con.az,bsl] at hb2
          dsimp only at he htk2 hyes2
          have h8:=toB8 cname
          have h8l:=by8_len cname
          repeat' (first|refine zw ?_|refine zn (fun hb=>?_) (fun hb=>?_)|refine zx ?_|refine zof (zA @hb1 (zA @hb2 (zA @h8 (@h8l)))) ?_|exact zi|fail)
          all_goals
            have hbe:(((bst cname).toList == (bst w).toList) = true) = ((bst cname).toList = (bst w).toList):=by simp
            rw [he] at hbe
            first
            | (have hcb : consQ w ds = true := hyes (hyes2 (by simpa using hbe.mpr hb))
               rw [hcb]
               exact ⟨_,_,rfl,rfl⟩)
            | (exact loopNor (m2 - 1) (by omega) ⟨r + 1, _, _, _, _, _, by omega, by omega, htk2 (decide_eq_false fun h => hb (hbe.mp (decide_eq_true h))), _, _, rfl⟩)
        · obtain rfl : r = cons.length := by omega
          rw [List.take_length] at hno2
          repeat' (first|refine zw ?_|refine zn (fun hb=>?_) (fun hb=>?_)|refine zx ?_|refine zo ?_|exact zi|fail)
          exact loopNor (m - 1) (by omega) ⟨q + 1,_,_,_,_,_,_,_,_,_,_,_,by omega,by omega,htk (List.any_eq_false.2 fun c hcx=>by rw [hno2 c hcx]; simp),rfl⟩
    · obtain rfl : q = ds.length := by omega
      rw [List.take_length] at hno
      repeat' (first|refine zw ?_|refine zn (fun hb=>?_) (fun hb=>?_)|refine zx ?_|refine zo ?_|exact zi|fail)
      rw [show consQ w ds = false from List.any_eq_false.2 fun c hcx=>by rw [hno c hcx]; simp]
      exact ⟨_,_,rfl,rfl⟩
theorem implHasCon {ds : List (Bool × Dt)} {w : List Int} (hw : okB w) (ho : okN (ds.map Prod.snd)) (hl : ds.length ≤ 1000000000) (hc : ∀ d ∈ ds, d.2.cons.length ≤ 1000000000) (s : Store) :
    callF (tab tbl) prim 104 [.imm false ds.length (ds.flatMap azq), stv w] s = some (.bool (consQ w ds), s) := by
  have hf:=fun s=>implFindCon hw ho hl hc s
  generalize consQ w ds = b at *
  unfold stv at *
  refine funY rfl za zt ?_
  repeat' (first|refine zw ?_|refine zn (fun hb=>?_) (fun hb=>?_)|refine zx ?_|(refine zk (hf _) ?_; rintro _ _ ⟨a, b2, rfl, rfl⟩)|refine zo ?_|exact zi|fail)
  all_goals exact isI (congrArg AV.bool (by simp_all)) rfl
theorem nm_at {ds : List Dt} {i : Nat} (h : i < ds.length) : (ds.flatMap Dt.az)[i * 3]? = some (.imm false ds[i].name.length (by8 ds[i].name)) := (dt_at h).1
theorem implHasData {ds : List Dt} {w : List Int} (hw : okB w) (ho : okN ds) (hl : ds.length ≤ 1000000000) (s : Store) :
    callF (tab tbl) prim 47 [.imm false ds.length (ds.flatMap Dt.az), stv w] s = some (.bool (datB w ds), s) := by
  have hclo:∀ d ∈ ds,∀ (S:Store) (d' i:Nat),d' ≤ S.low.length→S.get d' i = some (.box 9 [.str (bst w)])→callF (tab tbl) prim 163 [.agg d.az,.ptr d' i 0] S = some (.bool (decide (d.name = w)),S):=by
    intro d hd S d' i hd' hS
    obtain ⟨name,vars,cons⟩:=d
    have hgt:∀ T,(frm S T).get d' i = S.get d' i:=fun T=>frm_get S T i hd'
    have he:=bst_eql (ho _ hd).1.2 hw.2
    dsimp only at he
    have h8:=toB8 name
    have h8l:=by8_len name
    simp only [Dt.az,bsl]
    refine funY rfl (zaf (zA @hgt (zA @hS (zA @h8 (@h8l))))) zt ?_
    repeat' (first|refine zw ?_|refine zn (fun hb=>?_) (fun hb=>?_)|refine zx ?_|refine zof (zA @hgt (zA @hS (zA @h8 (@h8l)))) ?_|exact zi|fail)
    all_goals exact isI (congrArg AV.bool (by rw [← he]; simp [hb])) rfl
  have hix:∀ (s:Store) (T:List Ae.Obj),T[0]? = some (.box 9 [.str (bst w)])→callF (tab tbl) prim 162 [.imm false ds.length (ds.flatMap Dt.az),.fn 163 [] [.ptr (s.low.length + 1) 0 0]] (frm s T) = some (.int .i64 (fIdx (fun d:Dt=>decide (d.name = w)) ds),frm s T):=by
    intro s T hT
    refine ixA_ok (sz:=3) rfl Dt.len (fun _=>rfl) (fun x hx=>?_) (by omega)
    refine hclo x hx _ _ 0 (by simp only [frm_len]; omega) ?_
    rw [frm_get _ _ _ (by simp only [frm_len]; omega),frm_get_top]
    exact hT
  have hda:∀ s,callF (tab tbl) prim 102 [.imm false ds.length (ds.flatMap Dt.az),.str (bst w)] s = some (.int .i64 (fIdx (fun d:Dt=>decide (d.name = w)) ds),s):=by
    intro s
    have h1:=hix s [.box 9 [.str (bst w)]] rfl
    refine funY rfl (zaf @h1) zt ?_
    repeat' (first|refine zw ?_|refine zn (fun hb=>?_) (fun hb=>?_)|refine zx ?_|refine zof @h1 ?_|exact zi|fail)
  have hge:=fIdx_ge (fun d:Dt=>decide (d.name = w)) ds
  unfold stv datB
  rw [← hge]
  refine funY rfl (zaf @hda) zt ?_
  repeat' (first|refine zw ?_|refine zn (fun hb=>?_) (fun hb=>?_)|refine zx ?_|refine zof @hda ?_|exact zi|fail)
  all_goals exact isI (congrArg AV.bool (by simp [hb])) rfl
set_option maxHeartbeats 4000000 in
theorem specData {ds : List Dt} {w : List Int} (hw : okB w) (ho : okN ds) (hl : ds.length ≤ 1000000000) (s : Store) :
    ∃ v s', callF (tab tbl) prim 58 [.imm false ds.length (ds.flatMap Dt.az), .imm false w.length (by8 w)] s = some (v, s') ∧ ∃ r : Int, v = .int .i64 r ∧ s' = s ∧ -1 ≤ r ∧ (0 ≤ r ↔ datB w ds = true) := by
  have hw8:=toB8 w
  have hw8l:=by8_len w
  refine funZ rfl za zt ?_
  repeat' (first|refine zw ?_|refine zn (fun hb=>?_) (fun hb=>?_)|refine zx ?_|refine zo ?_|exact zi|fail)
  refine wLoop (fun m st=>∃ (q:Nat) (y2 y4 y5:AV),(m:Int) = ds.length - q∧q ≤ ds.length∧(∀ d ∈ ds.take q,decide (d.name = w) = false) ∧
    st = ⟨[.imm false ds.length (ds.flatMap Dt.az), .imm false w.length (by8 w), y2, .int .i64 q, y4, y5], frm s []⟩) ds.length ?_ ?_
  · exact ⟨0, _, _, _, by omega, by omega, by simp, rfl⟩
  · rintro m st ⟨q, y2, y4, y5, hm, hq, hno, rfl⟩
    by_cases hlt:q < ds.length
    · have ha := nm_at hlt
      have hx:=List.getElem_mem hlt
      have he:=bst_eql (ho _ hx).1.2 hw.2
      have htk:=fun h=>take_all (p:=fun d:Dt=>decide (d.name = w)) hlt hno h
      have hyes:=fun h:ds[q].name = w=>(List.any_eq_true (p:=fun d:Dt=>decide (d.name = w))).2 ⟨_,hx,decide_eq_true h⟩
      generalize ds[q].name = name at *
      have h8:=toB8 name
      have h8l:=by8_len name
      repeat' (first|refine zw ?_|refine zn (fun hb=>?_) (fun hb=>?_)|refine zx ?_|refine zof (zA @ha (zA @h8 (zA @h8l (zA @hw8 (@hw8l))))) ?_|exact zi|fail)
      all_goals
        have hbe:(((bst name).toList == (bst w).toList) = true) = ((bst name).toList = (bst w).toList):=by simp
        rw [he] at hbe
        first
        | (have hcb : datB w ds = true := hyes (by simpa using hbe.mpr hb)
           exact ⟨_,rfl,rfl,by omega,by simp [hcb]⟩)
        | (exact loopNor (m - 1) (by omega) ⟨q + 1, _, _, _, by omega, by omega, htk (decide_eq_false fun h => hb (hbe.mp (decide_eq_true h))), rfl⟩)
    · obtain rfl : q = ds.length := by omega
      rw [List.take_length] at hno
      have hcb:datB w ds = false:=List.any_eq_false.2 fun c hcx=>by rw [hno c hcx]; simp
      repeat' (first|refine zw ?_|refine zn (fun hb=>?_) (fun hb=>?_)|refine zx ?_|refine zo ?_|exact zi|fail)
      exact ⟨_,rfl,rfl,by omega,by simp [hcb]⟩
theorem cs_at {ds : List Dt} {i : Nat} (h : i < ds.length) : (ds.flatMap Dt.az)[i * 3 + 2]? = some (.imm false ds[i].cons.length (ds[i].cons.flatMap Con.az)) := (dt_at h).2.2
theorem cn_at {cs : List Con} {i : Nat} (h : i < cs.length) : (cs.flatMap Con.az)[i * 2]? = some (.imm false cs[i].name.length (by8 cs[i].name)) := (con_at h).1
def FirstC (w : List Int) (ds : List Dt) (a b : Int) : Prop := ∀ (i k : Nat) (hi : i < ds.length) (hk : k < ds[i].cons.length), ds[i].cons[k].name = w → ((a = i ∧ b = k) ↔ (consB w (ds.take i) = false ∧ conB w (ds[i].cons.take k) = false))
theorem conB_take {w : List Int} {cs : List Con} {r k : Nat} (hr : r < cs.length) (hk : r < k) (h : cs[r].name = w) : conB w (cs.take k) = true :=
  List.any_eq_true.2 ⟨cs[r], by rw [List.mem_take_iff_getElem]; exact ⟨r, by omega, rfl⟩, decide_eq_true h⟩
theorem conB_mem {w : List Int} {cs : List Con} {r : Nat} (hr : r < cs.length) (h : cs[r].name = w) : conB w cs = true := List.any_eq_true.2 ⟨cs[r], List.getElem_mem hr, decide_eq_true h⟩
set_option maxHeartbeats 8000000 in
theorem specCon {ds : List Dt} {w : List Int} (hw : okB w) (ho : okN ds) (hl : ds.length ≤ 1000000000) (hc : ∀ d ∈ ds, d.cons.length ≤ 1000000000) (s : Store) :
    ∃ v s', callF (tab tbl) prim 60 [.imm false ds.length (ds.flatMap Dt.az), .imm false w.length (by8 w)] s = some (v, s') ∧ ∃ a b : Int, v = .tup [.int .i64 a, .int .i64 b] ∧ s' = s ∧ FirstC w ds a b := by
  have hw8:=toB8 w
  have hw8l:=by8_len w
  refine funZ rfl za zt ?_
  repeat' (first|refine zw ?_|refine zn (fun hb=>?_) (fun hb=>?_)|refine zx ?_|refine zo ?_|exact zi|fail)
  refine wLoop (fun m st=>∃ (q:Nat) (y2 y3 y5 y6 y7 y8:AV),(m:Int) = ds.length - q∧q ≤ ds.length∧(∀ d ∈ ds.take q,conB w d.cons = false) ∧
    st = ⟨[.imm false ds.length (ds.flatMap Dt.az), .imm false w.length (by8 w), y2, y3, .int .i64 q, y5, y6, y7, y8], frm s []⟩) ds.length ?_ ?_
  · exact ⟨0, _, _, _, _, _, _, by omega, by omega, by simp, rfl⟩
  · rintro m st ⟨q, y2, y3, y5, y6, y7, y8, hm, hq, hno, rfl⟩
    by_cases hlt:q < ds.length
    · have hx := List.getElem_mem hlt
      have hca:=cs_at hlt
      have hcl:=hc _ hx
      repeat' (first|refine zw ?_|refine zn (fun hb=>?_) (fun hb=>?_)|refine zx ?_|refine zof @hca ?_|exact zi|fail)
      refine wLoop (fun m2 st=>∃ (r:Nat) (y2 y3 y6 y7 y8:AV),(m2:Int) = ds[q].cons.length - r∧r ≤ ds[q].cons.length∧(∀ c ∈ ds[q].cons.take r,decide (c.name = w) = false) ∧
        st = ⟨[.imm false ds.length (ds.flatMap Dt.az), .imm false w.length (by8 w), y2, y3, .int .i64 q, .int .i64 r, y6, y7, y8], frm s []⟩) ds[q].cons.length ?_ ?_
      · exact ⟨0, _, _, _, _, _, by omega, by omega, by simp, rfl⟩
      · rintro m2 st ⟨r, y2, y3, y6, y7, y8, hm2, hr, hno2, rfl⟩
        by_cases hlt2:r < ds[q].cons.length
        · have hcn := cn_at hlt2
          have hx2:=List.getElem_mem hlt2
          have he:=bst_eql ((ho _ hx).2 _ hx2).2 hw.2
          have htk2:=fun h=>take_all (p:=fun c:Con=>decide (c.name = w)) hlt2 hno2 h
          have hfst:ds[q].cons[r].name = w→FirstC w ds q r:=fun hn i k hi hk hnk=>by
            constructor
            · rintro ⟨h1, h2⟩
              obtain rfl:q = i:=by omega
              obtain rfl:r = k:=by omega
              exact ⟨List.any_eq_false.2 fun d hd=>by rw [hno d hd]; simp,List.any_eq_false.2 fun c hcx=>by rw [hno2 c hcx]; simp⟩
            · rintro ⟨h1, h2⟩
              rcases Nat.lt_trichotomy q i with h | h | h
              · exfalso
                have:consB w (ds.take i) = true:=List.any_eq_true.2 ⟨ds[q],by rw [List.mem_take_iff_getElem]; exact ⟨q,by omega,rfl⟩,conB_mem hlt2 hn⟩
                rw [this] at h1; cases h1
              · subst h
                refine ⟨rfl,?_⟩
                rcases Nat.lt_trichotomy r k with h | h | h
                · exfalso
                  rw [conB_take hlt2 h hn] at h2; cases h2
                · omega
                · exfalso
                  have:=hno2 ds[q].cons[k] (by rw [List.mem_take_iff_getElem]; exact ⟨k,by omega,rfl⟩)
                  exact of_decide_eq_false this hnk
              · exfalso
                have:=hno ds[i] (by rw [List.mem_take_iff_getElem]; exact ⟨i,by omega,rfl⟩)
                rw [conB_mem hk hnk] at this; cases this
          generalize ds[q].cons[r].name = name at *
          have h8:=toB8 name
          have h8l:=by8_len name
          repeat' (first|refine zw ?_|refine zn (fun hb=>?_) (fun hb=>?_)|refine zx ?_|refine zof (zA @hca (zA @hcn (zA @h8 (zA @h8l (zA @hw8 (@hw8l)))))) ?_|exact zi|fail)
          all_goals
            have hbe:(((bst name).toList == (bst w).toList) = true) = ((bst name).toList = (bst w).toList):=by simp
            rw [he] at hbe
            first
            | (exact ⟨_, _, rfl, rfl, hfst (by simpa using hbe.mpr hb)⟩)
            | (exact loopNor (m2 - 1) (by omega) ⟨r + 1, _, _, _, _, _, by omega, by omega, htk2 (decide_eq_false fun h => hb (hbe.mp (decide_eq_true h))), rfl⟩)
        · obtain rfl : r = ds[q].cons.length := by omega
          rw [List.take_length] at hno2
          repeat' (first|refine zw ?_|refine zn (fun hb=>?_) (fun hb=>?_)|refine zx ?_|refine zof @hca ?_|exact zi|fail)
          exact loopNor (m - 1) (by omega) ⟨q + 1,_,_,_,_,_,_,by omega,by omega,take_all (p:=fun d:Dt=>conB w d.cons) hlt hno (List.any_eq_false.2 fun c hcx=>by rw [hno2 c hcx]; simp),rfl⟩
    · obtain rfl : q = ds.length := by omega
      rw [List.take_length] at hno
      repeat' (first|refine zw ?_|refine zn (fun hb=>?_) (fun hb=>?_)|refine zx ?_|refine zo ?_|exact zi|fail)
      refine ⟨_,_,rfl,rfl,fun i k hi hk hnk=>?_⟩
      exfalso
      have:=hno _ (List.getElem_mem hi)
      rw [conB_mem hk hnk] at this
      cases this
theorem app_new {s : Store} {T : List Ae.Obj} {e sz bytes m : Nat} {f : Bool} {ys : List AV} (hm : 0 < m) (hok : cellsOk 0 ys = true) (hl : ys.length = m * sz) (hb : m * bytes ≤ 140737488355328) :
    appV (frm s T) e sz bytes (.imm true 0 []) (.imm f m ys) = some (.slr (s.low.length + 1) T.length 0 m 0 false, frm s (T ++ [.arr e sz ys 0 0])) := by
  simp only [appV,srcOf,elems,Option.bind_some,appTo,Nat.zero_add,List.length_nil,Nat.zero_mul]
  have h1:m * bytes ≤ 140737488355328∧cellsOk ((frm s T).low.length + 1) ys = true∧True∧ys.length = m * sz:=⟨hb,cellsOk_mono (Nat.zero_le _) hok,trivial,hl⟩
  rw [if_pos h1,if_neg (by omega),List.nil_append,newArr,if_pos ⟨h1.2.1,hl⟩,frm_len,frm_top,frm_new]
theorem app_more {s : Store} {T : List Ae.Obj} {e sz bytes n m : Nat} {f : Bool} {cs ys : List AV} (hok : cellsOk 0 ys = true) (hc : cs.length = n * sz) (hl : ys.length = m * sz) (hb : (n + m) * bytes ≤ 140737488355328) :
    appV (frm s (T ++ [.arr e sz cs 0 0])) e sz bytes (.slr (s.low.length + 1) T.length 0 n 0 false) (.imm f m ys) = some (.slr (s.low.length + 1) T.length 0 (n + m) 1 false, frm s (T ++ [.arr e sz (cs ++ ys) 1 0])) := by
  simp only [appV,srcOf,elems,Option.bind_some,appTo,frm_get_top,app_at]
  rw [if_pos ⟨hb,trivial,by omega,trivial,trivial,hl⟩,if_neg (by simp),if_pos ⟨cellsOk_mono (Nat.zero_le _) hok,Nat.zero_le _⟩,frm_set_top,app_st,List.drop_zero,List.take_of_length_le (by omega)]
theorem clone_none {s : Store} {T : List Ae.Obj} {f : Bool} : callF (tab tbl) prim 49 [.imm f 0 []] (frm s T) = some (.imm true 0 [], frm s T) := by
  refine callF_fc (fc:=c49) rfl ?_
  have e:appV (frm s T) 73 3 56 (.imm true 0 []) (.imm false 0 []) = some (.imm true 0 [],frm s T):=by simp [appV,srcOf,elems,appTo,cellsOk]
  simp only [c49,push_cast,reduceCtorEq,Nat.reduceAdd,Nat.reduceSub,Nat.reduceMul,Nat.reduceLeDiff,Nat.reduceLT,Nat.reduceEqDiff,Int.reduceToNat,Int.reduceLT,Int.reduceLE,Int.reduceBEq,Int.reduceEq,Int.reduceSub,Int.reduceAdd,Int.reduceMul,Int.reduceNeg,fillL,repL,e,joinR,Store.same_self,joinVs,same_self]
theorem clone_some {s : Store} {T : List Ae.Obj} {f : Bool} {n : Nat} {cs : List AV} (hn : 0 < n) (hok : cellsOk 0 cs = true) (hl : cs.length = n * 3) (hb : n ≤ 1000000000) :
    callF (tab tbl) prim 49 [.imm f n cs] (frm s T) = some (.slr (s.low.length + 1) T.length 0 n 0 false, frm s (T ++ [.arr 73 3 cs 0 0])) := by
  refine callF_fc (fc:=c49) rfl ?_
  have e:=app_new (s:=s) (T:=T) (e:=73) (sz:=3) (bytes:=56) (f:=false) hn hok hl (by omega)
  have hne:¬ n = 0:=by omega
  simp only [c49,push_cast,reduceCtorEq,Nat.reduceAdd,Nat.reduceSub,Nat.reduceMul,Nat.reduceLeDiff,Nat.reduceLT,Nat.reduceEqDiff,Int.reduceToNat,Int.reduceLT,Int.reduceLE,Int.reduceBEq,Int.reduceEq,Int.reduceSub,Int.reduceAdd,Int.reduceMul,Int.reduceNeg,fillL,repL,hne,e]
def fieldsB (vars : Int) (dv : List Int) (l : List Ty) : Bool := l.all fun f => decide (TB 1 f) && fldB vars dv f
def conOkB (vars : Int) (dv : List Int) (pre : List Dt) (cons0 : List Con) (c : Con) : Bool := wordB grB c.name && !(consB c.name pre || conB c.name cons0) && decide (c.fields.length ≤ 3) && fieldsB vars dv c.fields
set_option maxHeartbeats 8000000 in
theorem implConOk {pre : List Dt} {name : List Int} {vars : Int} {cons0 : List Con} {c : Con} (hw : okB c.name) (ho : okN pre) (hco : ∀ c ∈ cons0, okB c.name) (hl : pre.length ≤ 100) (hcl : ∀ d ∈ pre, d.cons.length ≤ 1000000000) (hc0 : cons0.length ≤ 1000000)
    (hsz : sizes Ty.sz c.fields ≤ 100000000) (s : Store) :
    callF (tab tbl) prim 50 [.imm false (pre.length + 1) ((pre ++ [(⟨name, vars, cons0 ++ [c]⟩ : Dt)]).flatMap Dt.az)] s = some (.bool (conOkB vars (dvs (pre ++ [⟨name, vars, cons0 ++ [c]⟩])) pre cons0 c), s) := by
  obtain ⟨D,hD⟩:∃ D,D = pre ++ [(⟨name,vars,cons0 ++ [c]⟩:Dt)]:=⟨_,rfl⟩
  have hDl:D.length = pre.length + 1:=by rw [hD]; simp
  have hlt:pre.length < D.length:=by omega
  have hDi:D[pre.length] = ⟨name,vars,cons0 ++ [c]⟩:=by simp [hD]
  have hvar:(dvs D).getD (D.length - 1) 0 = vars:=by rw [hDl]; simp [dvs,hD]
  obtain ⟨a1,a2⟩:=fm_at Dt.len hlt
  rw [hDi] at a2
  simp only [Dt.az] at a2
  obtain ⟨CS,hCS⟩:∃ CS,CS = cons0 ++ [c]:=⟨_,rfl⟩
  have hCl:CS.length = cons0.length + 1:=by rw [hCS]; simp
  have hlt2:cons0.length < CS.length:=by omega
  have hCi:CS[cons0.length] = c:=by simp [hCS]
  obtain ⟨b1,b2⟩:=fm_at Con.len hlt2
  rw [hCi] at b2
  have hpt:(D.flatMap Dt.az).take (pre.length * 3) = pre.flatMap Dt.az:=by rw [fm_take Dt.len,hD,List.take_left]
  have hct:(CS.flatMap Con.az).take (cons0.length * 2) = cons0.flatMap Con.az:=by rw [fm_take Con.len,hCS,List.take_left]
  have hfl:=sizes_len Ty.sz c.fields
  have hfield:=fun (t:Ty) h d hg s=>implField (ds:=D) (vars:=vars) (by omega) hvar (by omega) t h d hg s
  have hclo:∀ x ∈ c.fields,∀ (S:Store) (d' i:Nat),d' ≤ S.low.length→S.get d' i = some (.box 32 [.imm false D.length (D.flatMap Dt.az)])→callF (tab tbl) prim 106 [.agg x.az,.ptr d' i 0] S = some (.bool (!(decide (TB 1 x) && fldB vars (dvs D) x)),S):=by
    intro x hx S d' i hd' hS
    have hxs:=sizes_mem Ty.sz hx
    have hi:=fun s=>implTyOk (t:=x) (by omega) s
    have hf:=fun (h:decide (TB 1 x) = true) s=>hfield x (by omega) 1 (of_decide_eq_true h).1 s
    obtain ⟨k2,n2,args2⟩:=x
    simp only [Ty.az,azT_eq] at hi hf ⊢
    generalize decide (TB 1 (.mk k2 n2 args2)) = p at *
    generalize fldB vars (dvs D) (.mk k2 n2 args2) = b at *
    have hgt:∀ T,(frm S T).get d' i = S.get d' i:=fun T=>frm_get S T i hd'
    refine funY rfl (zaf (zA @hgt (zA @hS (zA @hi (@hf))))) zt ?_
    repeat' (first|refine zw ?_|refine zn (fun hb=>?_) (fun hb=>?_)|refine zx ?_|refine zof (zA @hgt (zA @hS (zA @hi (@hf)))) ?_|exact zi|fail)
    all_goals exact isI (congrArg AV.bool (by simp_all)) rfl
  have hcf:∀ (s:Store) (T:List Ae.Obj),T[0]? = some (.box 32 [.imm false D.length (D.flatMap Dt.az)])→callF (tab tbl) prim 105 [.imm false c.fields.length (c.fields.flatMap Ty.az),.fn 106 [] [.ptr (s.low.length + 1) 0 0]] (frm s T) = some (.bool (c.fields.any fun x=>!(decide (TB 1 x) && fldB vars (dvs D) x)),frm s T):=by
    intro s T hT
    refine cf_ok (i:=165) rfl (fun _=>rfl) (fun _=>rfl) ?_
    refine ixA_ok (sz:=3) rfl Ty.len (fun _=>rfl) (fun x hx=>?_) (by omega)
    refine hclo x hx _ _ 0 (by simp only [frm_len]; omega) ?_
    rw [frm_get _ _ _ (by simp only [frm_len]; omega),frm_get _ _ _ (by simp only [frm_len]; omega),frm_get_top]
    exact hT
  have hall:(!(c.fields.any fun x=>!(decide (TB 1 x) && fldB vars (dvs D) x))) = fieldsB vars (dvs D) c.fields:=by
    unfold fieldsB
    rw [List.all_eq_not_any_not]
  have hcon:=fun s=>implCon hw s
  have hmap:(pre.map (fun d=>(false,d)) ++ [(true,(⟨[],0,cons0⟩:Dt))]).map Prod.snd = pre ++ [(⟨[],0,cons0⟩:Dt)]:=by rw [List.map_append,List.map_map]; simp [Function.comp_def]
  have hbe:okN ((pre.map (fun d=>(false,d)) ++ [(true,(⟨[],0,cons0⟩:Dt))]).map Prod.snd):=fun d hd=>by
    rw [hmap] at hd
    rcases List.mem_append.1 hd with hd | hd
    · exact ho d hd
    · rw [List.mem_singleton] at hd
      subst hd
      exact ⟨⟨by simp,fun _ h=>by cases h⟩,hco⟩
  have hhas:=fun s=>implHasCon (ds:=pre.map (fun d=>(false,d)) ++ [(true,(⟨[],0,cons0⟩:Dt))]) hw hbe (by simp; omega) (fun d hd=>by
    rcases List.mem_append.1 hd with hd | hd
    · obtain ⟨d', hd', rfl⟩ := List.mem_map.1 hd
      exact hcl d' hd'
    · rw [List.mem_singleton] at hd
      subst hd
      dsimp only
      omega) s
  have hcb:consQ c.name (pre.map (fun d=>(false,d)) ++ [(true,(⟨[],0,cons0⟩:Dt))]) = (consB c.name pre || conB c.name cons0):=by
    unfold consQ consB
    rw [List.any_append,List.any_map]
    simp [Function.comp_def]
  rw [hcb] at hhas
  have hbl:(pre.map (fun d=>(false,d)) ++ [(true,(⟨[],0,cons0⟩:Dt))]).length = pre.length + 1:=by simp
  have hbc:(pre.map (fun d=>(false,d)) ++ [(true,(⟨[],0,cons0⟩:Dt))]).flatMap azq = pre.flatMap Dt.az ++ [.imm true 0 [],.int .i64 0,.imm false cons0.length (cons0.flatMap Con.az)]:=by
    rw [List.flatMap_append,List.flatMap_map]
    rfl
  rw [hbl,hbc] at hhas
  have hhas2:∀ (s:Store) (T:List Ae.Obj) (ver:Nat),callF (tab tbl) prim 104 [.slr (s.low.length + 1) T.length 0 (pre.length + 1) ver false,stv c.name] (frm s (T ++ [.arr 73 3 (pre.flatMap Dt.az ++ [.imm true 0 [],.int .i64 0,.imm false cons0.length (cons0.flatMap Con.az)]) ver 0])) = some (.bool (consB c.name pre || conB c.name cons0),frm s (T ++ [.arr 73 3 (pre.flatMap Dt.az ++ [.imm true 0 [],.int .i64 0,.imm false cons0.length (cons0.flatMap Con.az)]) ver (max 0 (0 + (pre.length + 1) * 3))])):=by
    intro s T ver
    obtain ⟨BC,hBC⟩:∃ BC,BC = pre.flatMap Dt.az ++ [.imm true 0 [],.int .i64 0,.imm false cons0.length (cons0.flatMap Con.az)]:=⟨_,rfl⟩
    have hBl:BC.length = (pre.length + 1) * 3:=by rw [hBC,List.length_append,fm_len Dt.len]; simp; omega
    have hBo:AV.lowL 0 BC = true:=lowL_ok (by rw [hBC]; exact cellsOk_append.2 ⟨cellsOk_fm Dt.cok _,by simp [cellsOk,AV.isCell,AV.lowB]⟩)
    rw [← hBC] at hhas ⊢
    have e1:frz1 (frm s (T ++ [.arr 73 3 BC ver 0])) (.slr (s.low.length + 1) T.length 0 (pre.length + 1) ver false) = some (.imm false (pre.length + 1) BC,frm s (T ++ [.arr 73 3 BC ver (max 0 (0 + (pre.length + 1) * 3))])):=by
      rw [frz1_slr (by rw [frm_get_top,app_at]) (by rw [List.drop_zero,List.take_of_length_le (by omega)]) hBo (by omega),frm_set_top,app_st]
    exact callF_frz (fc:=c104) rfl rfl (frzs_cons (frz_slr e1) (frzs_cons frz_str frzs_nil)) (frzs_cons frz_imm (frzs_cons frz_str frzs_nil)) (hhas _)
  rw [← hD]
  unfold conOkB
  rw [← hall]
  have hcok:cellsOk 0 (pre.flatMap Dt.az) = true:=cellsOk_fm Dt.cok _
  have hpl:(pre.flatMap Dt.az).length = pre.length * 3:=fm_len Dt.len _
  have hz1:((pre.length:Int) + 1 - 1) = pre.length:=by omega
  have hz2:((cons0.length:Int) + 1 - 1) = cons0.length:=by omega
  have hcb8:=toB8 c.name
  have hcb8l:=by8_len c.name
  obtain ⟨cname,cfields⟩:=c
  simp only [Con.az,azT_eq,bsl] at b2
  rw [← hCS] at a2
  dsimp only at *
  have hcf0:=hcf s
  generalize (cfields.any fun x=>!(decide (TB 1 x) && fldB vars (dvs D) x)) = bf at *
  generalize (consB cname pre || conB cname cons0) = bc at *
  generalize wordB grB cname = bw at *
  unfold stv at *
  simp only [bsl] at a2
  have hcf2:=fun T (h:T[0]? = some (.box 32 [.imm false (pre.length + 1) (D.flatMap Dt.az)]))=>hcf0 T (by rw [hDl]; exact h)
  rcases Nat.eq_zero_or_pos pre.length with h0 | h0
  · have hp0 : pre = [] := List.length_eq_zero_iff.1 h0
    have hA:∀ T,∃ v' s',appV (frm s T) 73 3 56 (.imm true 0 []) (.imm true 1 [.imm true 0 [],.int .i64 0,.imm false cons0.length (cons0.flatMap Con.az)]) = some (v',s')∧(v' = .slr (s.low.length + 1) T.length 0 (pre.length + 1) 0 false∧s' = frm s (T ++ [.arr 73 3 [.imm true 0 [],.int .i64 0,.imm false cons0.length (cons0.flatMap Con.az)] 0 0])):=fun T=>by
      rw [h0]
      exact ex_of (app_new (s:=s) (T:=T) (e:=73) (sz:=3) (bytes:=56) (m:=1) (f:=true) (by omega) (by simp [cellsOk,AV.isCell,AV.lowB]) rfl (by omega))
    have hcn:∀ T,callF (tab tbl) prim 49 [.imm false pre.length []] (frm s T) = some (.imm true 0 [],frm s T):=fun T=>by rw [h0]; exact clone_none
    have hh:=hhas2 s [.box 32 [.imm false (pre.length + 1) (D.flatMap Dt.az)],.box 73 [.imm false name.length (by8 name),.int .i64 vars,.imm false (cons0.length + 1) (CS.flatMap Con.az)],.box 88 [.imm false cname.length (by8 cname),.imm false cfields.length (cfields.flatMap Ty.az)]] 0
    have hfb:pre.flatMap Dt.az = []:=by rw [hp0]; rfl
    rw [hfb] at hh hpt
    simp only [List.cons_append,List.nil_append,List.length_cons,List.length_nil,Nat.zero_add,Nat.reduceAdd] at hh
    have hg:=fun ver pr=>hcf2 ([.box 32 [.imm false (pre.length + 1) (D.flatMap Dt.az)],.box 73 [.imm false name.length (by8 name),.int .i64 vars,.imm false (cons0.length + 1) (CS.flatMap Con.az)],.box 88 [.imm false cname.length (by8 cname),.imm false cfields.length (cfields.flatMap Ty.az)]] ++ [.arr 73 3 [.imm true 0 [],.int .i64 0,.imm false cons0.length (cons0.flatMap Con.az)] ver pr]) rfl
    simp only [List.cons_append,List.nil_append] at hg
    refine funY rfl (zaf (zA @hDl (zA @hCl (zA @a1 (zA @a2 (zA @b1 (zA @b2 (zA @hz1 (zA @hz2 (zA @hpt (zA @hct (zA @hcon (zA @hcb8 (zA @hcb8l (zA @Int.sub_zero (zA @Nat.zero_mul (zA @hcn (zA @hh (@hg))))))))))))))))))) zt ?_
    repeat' (first|refine zw ?_|refine zn (fun hb=>?_) (fun hb=>?_)|refine zx ?_|(refine zka (hA _) ?_; rintro _ _ ⟨rfl, rfl⟩)|refine zof (zA @hDl (zA @hCl (zA @a1 (zA @a2 (zA @b1 (zA @b2 (zA @hz1 (zA @hz2 (zA @hpt (zA @hct (zA @hcon (zA @hcb8 (zA @hcb8l (zA @Int.sub_zero (zA @Nat.zero_mul (zA @hcn (zA @hh (@hg)))))))))))))))))) ?_|exact zi|fail)
    all_goals
      refine isI (congrArg AV.bool ?_) rfl
      first
      | (rw [decide_eq_true (show cfields.length ≤ 3 by omega)]; cases bw <;> cases bc <;> cases bf <;> first | rfl | contradiction)
      | (rw [decide_eq_false (show ¬ cfields.length ≤ 3 by omega)]; cases bw <;> cases bc <;> cases bf <;> first | rfl | contradiction)
      | (generalize decide (cfields.length ≤ 3) = d; cases bw <;> cases bc <;> cases bf <;> cases d <;> first | rfl | contradiction)
  · have hcs := fun s T => clone_some (s := s) (T := T) (f := false) h0 hcok hpl (by omega)
    have hA:=ex_of (app_more (s:=s) (T:=[.box 32 [.imm false (pre.length + 1) (D.flatMap Dt.az)],.box 73 [.imm false name.length (by8 name),.int .i64 vars,.imm false (cons0.length + 1) (CS.flatMap Con.az)],.box 88 [.imm false cname.length (by8 cname),.imm false cfields.length (cfields.flatMap Ty.az)]]) (e:=73) (sz:=3) (bytes:=56) (n:=pre.length) (m:=1) (f:=true) (cs:=pre.flatMap Dt.az) (ys:=[.imm true 0 [],.int .i64 0,.imm false cons0.length (cons0.flatMap Con.az)]) (by simp [cellsOk,AV.isCell,AV.lowB]) hpl rfl (by omega))
    have hh:=hhas2 s [.box 32 [.imm false (pre.length + 1) (D.flatMap Dt.az)],.box 73 [.imm false name.length (by8 name),.int .i64 vars,.imm false (cons0.length + 1) (CS.flatMap Con.az)],.box 88 [.imm false cname.length (by8 cname),.imm false cfields.length (cfields.flatMap Ty.az)]] 1
    simp only [List.cons_append,List.nil_append,List.length_cons,List.length_nil,Nat.zero_add,Nat.reduceAdd] at hh hA
    have hg:=fun ver pr=>hcf2 ([.box 32 [.imm false (pre.length + 1) (D.flatMap Dt.az)],.box 73 [.imm false name.length (by8 name),.int .i64 vars,.imm false (cons0.length + 1) (CS.flatMap Con.az)],.box 88 [.imm false cname.length (by8 cname),.imm false cfields.length (cfields.flatMap Ty.az)]] ++ [.arr 73 3 (pre.flatMap Dt.az ++ [.imm true 0 [],.int .i64 0,.imm false cons0.length (cons0.flatMap Con.az)]) ver pr]) rfl
    simp only [List.cons_append,List.nil_append] at hg
    refine funY rfl (zaf (zA @hDl (zA @hCl (zA @a1 (zA @a2 (zA @b1 (zA @b2 (zA @hz1 (zA @hz2 (zA @hpt (zA @hct (zA @hcon (zA @hcb8 (zA @hcb8l (zA @Int.sub_zero (zA @Nat.zero_mul (zA @hcs (zA @hh (@hg))))))))))))))))))) zt ?_
    repeat' (first|refine zw ?_|refine zn (fun hb=>?_) (fun hb=>?_)|refine zx ?_|(refine zka (hA) ?_; rintro _ _ ⟨rfl, rfl⟩)|refine zof (zA @hDl (zA @hCl (zA @a1 (zA @a2 (zA @b1 (zA @b2 (zA @hz1 (zA @hz2 (zA @hpt (zA @hct (zA @hcon (zA @hcb8 (zA @hcb8l (zA @Int.sub_zero (zA @Nat.zero_mul (zA @hcs (zA @hh (@hg)))))))))))))))))) ?_|exact zi|fail)
    all_goals
      refine isI (congrArg AV.bool ?_) rfl
      first
      | (rw [decide_eq_true (show cfields.length ≤ 3 by omega)]; cases bw <;> cases bc <;> cases bf <;> first | rfl | contradiction)
      | (rw [decide_eq_false (show ¬ cfields.length ≤ 3 by omega)]; cases bw <;> cases bc <;> cases bf <;> first | rfl | contradiction)
      | (generalize decide (cfields.length ≤ 3) = d; cases bw <;> cases bc <;> cases bf <;> cases d <;> first | rfl | contradiction)
def conAtB (ds : List Dt) (d : Dt) (i k : Nat) (c : Con) : Bool := conOkB d.vars (dvs (ds.take (i + 1))) (ds.take i) (d.cons.take k) c
def datP (ds : List Dt) (i : Nat) (d : Dt) : Prop := nameB d.name = true ∧ datB d.name (ds.take i) = false ∧ (0 ≤ d.vars ∧ d.vars ≤ 2) ∧ (1 ≤ d.cons.length ∧ d.cons.length ≤ 5) ∧ ∀ (k : Nat) (h : k < d.cons.length), conAtB ds d i k d.cons[k] = true
def datasP (ds : List Dt) : Prop := ds.length ≤ 6 ∧ ∀ (i : Nat) (h : i < ds.length), datP ds i ds[i]
open Classical in
noncomputable def datasB (ds : List Dt) : Bool := decide (datasP ds)
theorem datas_yes {ds : List Dt} (h : datasP ds) : true = datasB ds := by classical exact (decide_eq_true h).symm
theorem datas_no {ds : List Dt} (h : ¬ datasP ds) : false = datasB ds := by classical exact (decide_eq_false h).symm
theorem datas_not {ds : List Dt} {i : Nat} (hi : i < ds.length) (h : ¬ datP ds i ds[i]) : false = datasB ds := datas_no fun hp => h (hp.2 i hi)
theorem okN_of {ds : List Dt} (h : ∀ d ∈ ds, d.ok) : okN ds := fun d hd => ⟨(h d hd).1, fun c hc => ((h d hd).2.2.2 c hc).1⟩
theorem okN_take {ds : List Dt} (h : okN ds) (i : Nat) : okN (ds.take i) := fun d hd => h d (List.mem_of_mem_take hd)
set_option maxHeartbeats 16000000 in
theorem implDatas {ds : List Dt} (hok : ∀ d ∈ ds, d.ok) (hsz : sizes Dt.sz ds ≤ 10000000) (s : Store) :
    callF (tab tbl) prim 24 [.imm false ds.length (ds.flatMap Dt.az)] s = some (.bool (datasB ds), s) := by
  have hN:=okN_of hok
  have hlen:=sizes_len Dt.sz ds
  refine funY rfl za zt ?_
  repeat' (first|refine zw ?_|refine zn (fun hb=>?_) (fun hb=>?_)|refine zx ?_|refine zo ?_|exact zi|fail)
  · exact isI (congrArg AV.bool (datas_no fun h => by have := h.1; omega)) rfl
  refine wLoop (fun m st=>∃ (q:Nat) (y2 y3 y4 y5 y10 y11 y12 y13 y14 y15:AV) (T:List Ae.Obj),(m:Int) = ds.length - q∧q ≤ ds.length∧(∀ (i:Nat) (h:i < ds.length),i < q→datP ds i ds[i]) ∧
    st = ⟨[.imm false ds.length (ds.flatMap Dt.az), .bool false, y2, y3, y4, y5, .bool false, .imm false ds.length (ds.flatMap Dt.az), .int .i64 ds.length, .int .i64 q, y10, y11, y12, y13, y14, y15], frm s T⟩) ds.length ?_ ?_
  · exact ⟨0, _, _, _, _, _, _, _, _, _, _, _, by omega, by omega, fun i h hi => by omega, rfl⟩
  · rintro m st ⟨q, y2, y3, y4, y5, y10, y11, y12, y13, y14, y15, T, hm, hq, hgood, rfl⟩
    by_cases hlt:q < ds.length
    · obtain ⟨ha1, ha2⟩ := fm_at Dt.len hlt
      have hx:=List.getElem_mem hlt
      have hdok:=hok _ hx
      have hdsz:=sizes_mem Dt.sz hx
      have hnot:=datas_not hlt
      have htl:(ds.take q).length = q:=by rw [List.length_take,Nat.min_eq_left hq]
      have hhd:=fun s=>implHasData (ds:=ds.take q) (w:=ds[q].name) hdok.1 (okN_take hN q) (by omega) s
      rw [htl] at hhd
      have hpt:(ds.flatMap Dt.az).take (q * 3) = (ds.take q).flatMap Dt.az:=fm_take Dt.len ds q
      have hnm:=fun s=>implName hdok.1 s
      have hdv:dvs (ds.take (q + 1)) = dvs (ds.take q) ++ [ds[q].vars]:=by unfold dvs; rw [List.take_succ_eq_append_getElem hlt,List.map_append]; rfl
      generalize hdq:ds[q] = d at *
      obtain ⟨name,vars,cons⟩:=d
      simp only [Dt.az,bsl] at ha2
      simp only [Dt.sz] at hdsz
      have hcl:=sizes_len Con.sz cons
      have h8:=toB8 name
      have h8l:=by8_len name
      unfold stv at *
      try dsimp only at *
      repeat' (first|refine zw ?_|refine zn (fun hb=>?_) (fun hb=>?_)|refine zx ?_|refine zof (zA @ha1 (zA @ha2 (zA @h8 (zA @h8l (zA @hnm (zA @hhd (zA @hpt (zA @implWithin (zA @Int.sub_zero (@Nat.zero_mul)))))))))) ?_|exact zi|fail)
      all_goals try exact isI (congrArg AV.bool (hnot fun h => by obtain ⟨h1, h2, h3, h4, _⟩ := h; dsimp only at *; first | omega | simp_all)) rfl
      refine wLoop (fun m2 st=>∃ (r:Nat) (y4 y5 y14 y15:AV) (T':List Ae.Obj),(m2:Int) = cons.length - r∧r ≤ cons.length∧(∀ (k:Nat) (h:k < cons.length),k < r→conAtB ds ⟨name,vars,cons⟩ q k cons[k] = true)∧T'[T.length]? = some (.box 73 [.imm false name.length (by8 name),.int .i64 vars,.imm false cons.length (cons.flatMap Con.az)]) ∧
        st = ⟨[.imm false ds.length (ds.flatMap Dt.az), .bool false, .int .i64 q, .ptr (s.low.length + 1) T.length 0, y4, y5, .bool false, .imm false ds.length (ds.flatMap Dt.az), .int .i64 ds.length, .int .i64 q, .bool true, .bool false, .int .i64 cons.length, .int .i64 r, y14, y15], frm s T'⟩) cons.length ?_ ?_
      · exact ⟨0, _, _, _, _, _, by omega, by omega, fun k h hk => by omega, app_at _ _, rfl⟩
      rintro m2 st ⟨r, y4, y5, y14, y15, T', hm2, hr, hgc, hTj, rfl⟩
      have hgo:∀ o,(T' ++ [o])[T.length]? = some (.box 73 [.imm false name.length (by8 name),.int .i64 vars,.imm false cons.length (cons.flatMap Con.az)]):=fun o=>by rw [List.getElem?_append_left (List.getElem?_eq_some_iff.1 hTj).1]; exact hTj
      by_cases hlt2:r < cons.length
      · have hcx := List.getElem_mem hlt2
        have hcok:=hdok.2.2.2 _ hcx
        have hcsz:=sizes_mem Con.sz hcx
        have htk:=List.take_succ_eq_append_getElem hlt2
        have hct:(cons.flatMap Con.az).take ((r + 1) * 2) = (cons.take (r + 1)).flatMap Con.az:=fm_take Con.len cons (r + 1)
        have hcl1:((r:Int) + 1).toNat = r + 1:=by omega
        have hcl2:((r:Int) + 1 - 0).toNat = r + 1:=by omega
        have hPok:cellsOk 0 ((ds.take q).flatMap Dt.az) = true:=cellsOk_fm Dt.cok _
        have hPl:((ds.take q).flatMap Dt.az).length = q * 3:=by rw [fm_len Dt.len,htl]
        have hYok:cellsOk 0 [.imm false name.length (by8 name),.int .i64 vars,.imm false (r + 1) ((cons.take (r + 1)).flatMap Con.az)] = true:=by simp [cellsOk,AV.isCell,AV.lowB]
        have hci:=fun s=>implConOk (pre:=ds.take q) (name:=name) (vars:=vars) (cons0:=cons.take r) (c:=cons[r]) hcok.1 (okN_take hN q) (fun c hc=>(hdok.2.2.2 c (List.mem_of_mem_take hc)).1) (by omega) (fun d hd=>by have h1:=sizes_mem Dt.sz (List.mem_of_mem_take hd); have h2:=sizes_len Con.sz d.cons; simp only [Dt.sz] at h1; omega) (by rw [List.length_take]; omega) (by simp only [Con.sz] at hcsz; omega) s
        rw [← htk,htl] at hci
        have hcells:(ds.take q ++ [(⟨name,vars,cons.take (r + 1)⟩:Dt)]).flatMap Dt.az = (ds.take q).flatMap Dt.az ++ [.imm false name.length (by8 name),.int .i64 vars,.imm false (r + 1) ((cons.take (r + 1)).flatMap Con.az)]:=by
          rw [List.flatMap_append]
          simp only [List.flatMap_cons,List.flatMap_nil,List.append_nil,Dt.az,bsl,List.length_take,Nat.min_eq_left (show r + 1 ≤ cons.length by omega)]
        have hdv2:dvs (ds.take q ++ [(⟨name,vars,cons.take (r + 1)⟩:Dt)]) = dvs (ds.take (q + 1)):=by rw [hdv]; simp [dvs]
        rw [hcells,hdv2] at hci
        have hcat:conAtB ds ⟨name,vars,cons⟩ q r cons[r] = conOkB vars (dvs (ds.take (q + 1))) (ds.take q) (cons.take r) cons[r]:=rfl
        rw [← hcat] at hci
        clear hcat
        generalize hbq:conAtB ds ⟨name,vars,cons⟩ q r cons[r] = bq at *
        obtain ⟨BC,hBC⟩:∃ BC,BC = (ds.take q).flatMap Dt.az ++ [.imm false name.length (by8 name),.int .i64 vars,.imm false (r + 1) ((cons.take (r + 1)).flatMap Con.az)]:=⟨_,rfl⟩
        have hBl:BC.length = (q + 1) * 3:=by rw [hBC,List.length_append,hPl]; simp; omega
        have hBo:AV.lowL 0 BC = true:=lowL_ok (by rw [hBC]; exact cellsOk_append.2 ⟨hPok,hYok⟩)
        have hco:∀ (T:List Ae.Obj) (ver:Nat),callF (tab tbl) prim 50 [.slr (s.low.length + 1) T.length 0 (q + 1) ver false] (frm s (T ++ [.arr 73 3 ((ds.take q).flatMap Dt.az ++ [.imm false name.length (by8 name),.int .i64 vars,.imm false (r + 1) ((cons.take (r + 1)).flatMap Con.az)]) ver 0])) = some (.bool bq,frm s (T ++ [.arr 73 3 ((ds.take q).flatMap Dt.az ++ [.imm false name.length (by8 name),.int .i64 vars,.imm false (r + 1) ((cons.take (r + 1)).flatMap Con.az)]) ver (max 0 (0 + (q + 1) * 3))])):=by
          intro T ver
          rw [← hBC] at hci ⊢
          have e1:frz1 (frm s (T ++ [.arr 73 3 BC ver 0])) (.slr (s.low.length + 1) T.length 0 (q + 1) ver false) = some (.imm false (q + 1) BC,frm s (T ++ [.arr 73 3 BC ver (max 0 (0 + (q + 1) * 3))])):=by
            rw [frz1_slr (by rw [frm_get_top,app_at]) (by rw [List.drop_zero,List.take_of_length_le (by omega)]) hBo (by omega),frm_set_top,app_st]
          exact callF_frz (fc:=c50) rfl rfl (frzs_cons (frz_slr e1) frzs_nil) (frzs_cons frz_imm frzs_nil) (hci _)
        clear hBC hBl hBo hci hcells
        rcases Nat.eq_zero_or_pos q with h0 | h0
        · have hP0 : (ds.take q).flatMap Dt.az = [] := by rw [h0]; rfl
          have hcn:∀ T,callF (tab tbl) prim 49 [.imm false q ((ds.take q).flatMap Dt.az)] (frm s T) = some (.imm true 0 [],frm s T):=fun T=>by rw [hP0,h0]; exact clone_none
          have hA:∃ v' s',appV (frm s T') 73 3 56 (.imm true 0 []) (.imm true 1 [.imm false name.length (by8 name),.int .i64 vars,.imm false (r + 1) ((cons.take (r + 1)).flatMap Con.az)]) = some (v',s')∧(v' = .slr (s.low.length + 1) T'.length 0 (q + 1) 0 false∧s' = frm s (T' ++ [.arr 73 3 ((ds.take q).flatMap Dt.az ++ [.imm false name.length (by8 name),.int .i64 vars,.imm false (r + 1) ((cons.take (r + 1)).flatMap Con.az)]) 0 0])):=by
            rw [hP0,h0]
            exact ex_of (app_new (by omega) hYok rfl (by omega))
          repeat' (first|refine zw ?_|refine zn (fun hb=>?_) (fun hb=>?_)|refine zx ?_|(refine zka (hA) ?_; rintro _ _ ⟨rfl, rfl⟩)|refine zof (zA @hTj (zA @hgo (zA @hcl1 (zA @hcl2 (zA @hpt (zA @hct (zA @hcn (zA @hco (zA @Int.sub_zero (@Nat.zero_mul)))))))))) ?_|exact zi|fail)
          · exact loopNor (m2 - 1) (by omega) ⟨r + 1, _, _, _, _, _, by omega, by omega, (fun k hk hkr => by
              rcases Nat.lt_or_ge k r with h | h
              · exact hgc k hk h
              · obtain rfl : k = r := by omega
                exact hbq.trans hb),hgo _,rfl⟩
          · exact isI (congrArg AV.bool (hnot fun h => by have := h.2.2.2.2 r hlt2; dsimp only at this; rw [hbq, hb] at this; cases this)) rfl
        · have hcn : ∀ T, callF (tab tbl) prim 49 [.imm false q ((ds.take q).flatMap Dt.az)] (frm s T) = some (.slr (s.low.length + 1) T.length 0 q 0 false, frm s (T ++ [.arr 73 3 ((ds.take q).flatMap Dt.az) 0 0])) := fun T => clone_some h0 hPok hPl (by omega)
          have hA:=ex_of (app_more (s:=s) (T:=T') (e:=73) (sz:=3) (bytes:=56) (n:=q) (m:=1) (f:=true) hYok hPl rfl (by omega))
          repeat' (first|refine zw ?_|refine zn (fun hb=>?_) (fun hb=>?_)|refine zx ?_|(refine zka (hA) ?_; rintro _ _ ⟨rfl, rfl⟩)|refine zof (zA @hTj (zA @hgo (zA @hcl1 (zA @hcl2 (zA @hpt (zA @hct (zA @hcn (zA @hco (zA @Int.sub_zero (@Nat.zero_mul)))))))))) ?_|exact zi|fail)
          · exact loopNor (m2 - 1) (by omega) ⟨r + 1, _, _, _, _, _, by omega, by omega, (fun k hk hkr => by
              rcases Nat.lt_or_ge k r with h | h
              · exact hgc k hk h
              · obtain rfl : k = r := by omega
                exact hbq.trans hb),hgo _,rfl⟩
          · exact isI (congrArg AV.bool (hnot fun h => by have := h.2.2.2.2 r hlt2; dsimp only at this; rw [hbq, hb] at this; cases this)) rfl
      · obtain rfl : r = cons.length := by omega
        repeat' (first|refine zw ?_|refine zn (fun hb=>?_) (fun hb=>?_)|refine zx ?_|refine zo ?_|exact zi|fail)
        refine loopNor (m - 1) (by omega) ⟨q + 1,_,_,_,_,_,_,_,_,_,_,_,by omega,by omega,fun i h hi=>?_,rfl⟩
        rcases Nat.lt_or_ge i q with h' | h'
        · exact hgood i h h'
        · obtain rfl : i = q := by omega
          rw [hdq]
          exact ⟨by simp_all,by simp_all,⟨by dsimp only; omega,by dsimp only; omega⟩,⟨by dsimp only; omega,by dsimp only; omega⟩,fun k hk=>hgc k hk hk⟩
    · obtain rfl : q = ds.length := by omega
      repeat' (first|refine zw ?_|refine zn (fun hb=>?_) (fun hb=>?_)|refine zx ?_|refine zo ?_|exact zi|fail)
      exact isI (congrArg AV.bool (datas_yes ⟨by omega,fun i h=>hgood i h h⟩)) rfl
theorem take_allT {α : Type} {p : α → Bool} {l : List α} {q : Nat} (hq : q < l.length) (h : ∀ x ∈ l.take q, p x = true) (hp : p l[q] = true) : ∀ x ∈ l.take (q + 1), p x = true := fun x hx => by
  rw [List.take_succ_eq_append_getElem hq,List.mem_append,List.mem_singleton] at hx
  rcases hx with hx | rfl
  · exact h x hx
  · exact hp
set_option maxHeartbeats 16000000 in
theorem specDatas {ds : List Dt} (hok : ∀ d ∈ ds, d.ok) (hsz : sizes Dt.sz ds ≤ 10000000) (s : Store) :
    callF (tab tbl) prim 29 [.imm false ds.length (ds.flatMap Dt.az)] s = some (.bool (datasB ds), s) := by
  have hN:=okN_of hok
  have hlen:=sizes_len Dt.sz ds
  have hcon:=fun (w:List Int) (hw:okB w) (s:Store)=>specCon (ds:=ds) hw hN (by omega) (fun d hd=>by have h1:=sizes_mem Dt.sz hd; have h2:=sizes_len Con.sz d.cons; simp only [Dt.sz] at h1; omega) s
  refine funY rfl za zt ?_
  repeat' (first|refine zw ?_|refine zn (fun hb=>?_) (fun hb=>?_)|refine zx ?_|refine zo ?_|exact zi|fail)
  · exact isI (congrArg AV.bool (datas_no fun h => by have := h.1; omega)) rfl
  refine wLoop (fun m st=>∃ (q:Nat) (y3 y4 y5 y6 y7 y8 y10 y11 y12 y13 y14 y15 y16:AV) (T:List Ae.Obj),(m:Int) = ds.length - q∧q ≤ ds.length∧(∀ (i:Nat) (h:i < ds.length),i < q→datP ds i ds[i]) ∧
    st = ⟨[.imm false ds.length (ds.flatMap Dt.az), .bool false, .int .i64 q, y3, y4, y5, y6, y7, y8, .bool false, y10, y11, y12, y13, y14, y15, y16], frm s T⟩) ds.length ?_ ?_
  · exact ⟨0, _, _, _, _, _, _, _, _, _, _, _, _, _, _, by omega, by omega, fun i h hi => by omega, rfl⟩
  rintro m st ⟨q, y3, y4, y5, y6, y7, y8, y10, y11, y12, y13, y14, y15, y16, T, hm, hq, hgood, rfl⟩
  by_cases hlt:q < ds.length
  · obtain ⟨ha1, ha2⟩ := fm_at Dt.len hlt
    have hx:=List.getElem_mem hlt
    have hdok:=hok _ hx
    have hdsz:=sizes_mem Dt.sz hx
    have hnot:=datas_not hlt
    have htl:(ds.take q).length = q:=by rw [List.length_take,Nat.min_eq_left hq]
    have htl1:(ds.take (q + 1)).length = q + 1:=by rw [List.length_take,Nat.min_eq_left (by omega)]
    have hhd:=fun s=>specData (ds:=ds.take q) (w:=ds[q].name) hdok.1 (okN_take hN q) (by omega) s
    rw [htl] at hhd
    have hpt:(ds.flatMap Dt.az).take (q * 3) = (ds.take q).flatMap Dt.az:=fm_take Dt.len ds q
    have hpt1:(ds.flatMap Dt.az).take ((q + 1) * 3) = (ds.take (q + 1)).flatMap Dt.az:=fm_take Dt.len ds (q + 1)
    have hnm:=fun fl s=>specName hdok.1 fl s
    have hFq:∀ (r:Nat) (h:r < ds[q].cons.length) (a b:Int),FirstC ds[q].cons[r].name ds a b→((a = q∧b = r) ↔ (consB ds[q].cons[r].name (ds.take q) = false∧conB ds[q].cons[r].name (ds[q].cons.take r) = false)):=fun r h a b hF=>hF q r hlt h rfl
    generalize hdq:ds[q] = d at *
    obtain ⟨name,vars,cons⟩:=d
    simp only [Dt.az,bsl] at ha2
    simp only [Dt.sz] at hdsz
    have hcl:=sizes_len Con.sz cons
    try dsimp only at *
    repeat' (first|refine zw ?_|refine zn (fun hb=>?_) (fun hb=>?_)|refine zx ?_|(refine zk (hhd _) ?_; rintro _ _ ⟨r0, rfl, rfl, hr1, hr2⟩)|refine zof (zA @ha1 (zA @ha2 (zA @hnm (zA @hpt (zA @Int.sub_zero (@Nat.zero_mul)))))) ?_|exact zi|fail)
    all_goals try exact isI (congrArg AV.bool (hnot fun h => by obtain ⟨h1, h2, h3, h4, _⟩ := h; dsimp only at *; first | omega | (simp_all; done) | (rw [h2] at hr2; simp at hr2; omega))) rfl
    refine wLoop (fun m2 st=>∃ (r:Nat) (y5 y6 y7 y8 y12 y13 y14 y15 y16:AV) (T':List Ae.Obj),(m2:Int) = cons.length - r∧r ≤ cons.length∧(∀ (k:Nat) (h:k < cons.length),k < r→conAtB ds ⟨name,vars,cons⟩ q k cons[k] = true)∧T'[T.length]? = some (.box 73 [.imm false name.length (by8 name),.int .i64 vars,.imm false cons.length (cons.flatMap Con.az)]) ∧
      st = ⟨[.imm false ds.length (ds.flatMap Dt.az), .bool false, .int .i64 q, .ptr (s.low.length + 1) T.length 0, .int .i64 r, y5, y6, y7, y8, .bool false, .bool true, .bool false, y12, y13, y14, y15, y16], frm s T'⟩) cons.length ?_ ?_
    · exact ⟨0, _, _, _, _, _, _, _, _, _, _, by omega, by omega, fun k h hk => by omega, app_at _ _, rfl⟩
    rintro m2 st ⟨r, y5, y6, y7, y8, y12, y13, y14, y15, y16, T', hm2, hr, hgc, hTj, rfl⟩
    have hgo:∀ o,(T' ++ [o])[T.length]? = some (.box 73 [.imm false name.length (by8 name),.int .i64 vars,.imm false cons.length (cons.flatMap Con.az)]):=fun o=>by rw [List.getElem?_append_left (List.getElem?_eq_some_iff.1 hTj).1]; exact hTj
    by_cases hlt2:r < cons.length
    · obtain ⟨hb1, hb2⟩ := fm_at Con.len hlt2
      have hcx:=List.getElem_mem hlt2
      have hcok:=hdok.2.2.2 _ hcx
      have hcsz:=sizes_mem Con.sz hcx
      have hwd:=fun fl s=>specWord true hcok.1 fl s
      have hcn:=fun s=>hcon _ hcok.1 s
      have hFr:=hFq r hlt2
      have hcat:conAtB ds ⟨name,vars,cons⟩ q r cons[r] = conOkB vars (dvs (ds.take (q + 1))) (ds.take q) (cons.take r) cons[r]:=rfl
      have hnc:conAtB ds ⟨name,vars,cons⟩ q r cons[r] = false→false = datasB ds:=fun hf=>hnot fun h=>by
        have:=h.2.2.2.2 r hlt2
        dsimp only at this
        rw [hf] at this
        cases this
      have hgc2:conAtB ds ⟨name,vars,cons⟩ q r cons[r] = true→∀ (k:Nat) (h:k < cons.length),k < r + 1→conAtB ds ⟨name,vars,cons⟩ q k cons[k] = true:=fun hf k hk hkr=>by
        rcases Nat.lt_or_ge k r with h | h
        · exact hgc k hk h
        · obtain rfl : k = r := by omega
          exact hf
      generalize cons[r] = c at *
      obtain ⟨cname,cfields⟩:=c
      simp only [Con.az,azT_eq,bsl] at hb2
      simp only [Con.sz] at hcsz
      rw [hcat] at hnc hgc2
      clear hcat
      unfold conOkB at hnc hgc2
      try dsimp only at *
      have hfl:=sizes_len Ty.sz cfields
      have hfield:=fun (t:Ty) h d hg s=>specField (ds:=ds.take (q + 1)) (vars:=vars) (by omega) t h d hg s
      rw [htl1] at hfield
      simp only [if_true] at hwd
      generalize consB cname (ds.take q) = bp at *
      generalize conB cname (cons.take r) = bq at *
      generalize wordB grB cname = bw at *
      repeat' (first|refine zw ?_|refine zn (fun hb=>?_) (fun hb=>?_)|refine zx ?_|(refine zk (hcn _) ?_; rintro _ _ ⟨a, b, rfl, rfl, hF⟩)|refine zof (zA @hTj (zA @hgo (zA @hb1 (zA @hb2 (@hwd))))) ?_|exact zi|fail)
      all_goals try exact isI (congrArg AV.bool (hnc (by
        first
        | (rw [hb]; rfl)
        | (rw [decide_eq_false (show ¬ cfields.length ≤ 3 by omega)]; simp)
        | (have hF2 := hFr a b hF; cases bp <;> cases bq <;> simp at hF2 ⊢ <;> omega)))) rfl
      have hF2:=(hFr a b hF).1 ⟨by omega,by omega⟩
      have hlen3:cfields.length ≤ 3:=by omega
      obtain ⟨rfl,rfl⟩:=hF2
      simp only [decide_eq_true hlen3,Bool.or_self,Bool.not_false,Bool.and_true] at hnc hgc2
      refine wLoop (fun m3 st=>∃ (j:Nat) (y12 y14 y15 y16:AV),(m3:Int) = cfields.length - j∧j ≤ cfields.length∧(∀ f ∈ cfields.take j,(decide (TB 1 f) && fldB vars (dvs (ds.take (q + 1))) f) = true) ∧
        ∃ y13, st = ⟨[.imm false ds.length (ds.flatMap Dt.az), .bool false, .int .i64 q, .ptr (s.low.length + 1) T.length 0, .int .i64 r, .ptr (s.low.length + 1) T'.length 0, .int .i64 a, .int .i64 b, .int .i64 j, .bool false, .bool true, .bool false, y12, y13, y14, y15, y16], frm s (T' ++ [.box 88 [.imm false cname.length (by8 cname), .imm false cfields.length (cfields.flatMap Ty.az)]])⟩) cfields.length ?_ ?_
      · exact ⟨0, _, _, _, _, by omega, by omega, by simp, _, rfl⟩
      rintro m3 st ⟨j, y12, y14, y15, y16, hm3, hj, hfs, y13, rfl⟩
      by_cases hlt3:j < cfields.length
      · obtain ⟨hc1, hc2⟩ := fm_at Ty.len hlt3
        have hfx:=List.getElem_mem hlt3
        have hfz:=sizes_mem Ty.sz hfx
        have hto:=fun s=>specTyOk (t:=cfields[j]) (by omega) s
        have hff:=fun (h:decide (TB 1 cfields[j]) = true) s=>hfield cfields[j] (by omega) 1 (of_decide_eq_true h).1 s
        have hno:(decide (TB 1 cfields[j]) && fldB vars (dvs (ds.take (q + 1))) cfields[j]) = false→(bw && fieldsB vars (dvs (ds.take (q + 1))) cfields) = false:=fun h=>by
          rw [Bool.and_eq_false_iff]
          refine .inr ?_
          rw [Bool.eq_false_iff]
          intro hall
          have:=List.all_eq_true.1 hall _ hfx
          rw [h] at this
          cases this
        have hstep:=take_allT (p:=fun f=>decide (TB 1 f) && fldB vars (dvs (ds.take (q + 1))) f) hlt3 hfs
        have hcj:((q:Int) + 1).toNat = q + 1:=by omega
        have hcj2:((q:Int) + 1 - 0).toNat = q + 1:=by omega
        generalize cfields[j] = f at *
        generalize decide (TB 1 f) = p at *
        generalize fldB vars (dvs (ds.take (q + 1))) f = pf at *
        repeat' (first|refine zw ?_|refine zn (fun hb=>?_) (fun hb=>?_)|refine zx ?_|refine zof (zA @hgo (zA @hc1 (zA @hc2 (zA @hto (zA @hff (zA @hpt1 (zA @hcj (zA @hcj2 (zA @Int.sub_zero (@Nat.zero_mul)))))))))) ?_|exact zi|fail)
        all_goals first
          | (exact loopNor (m3 - 1) (by omega) ⟨j + 1, _, _, _, _, by omega, by omega, hstep (by simp_all), _, rfl⟩)
          | (exact isI (congrArg AV.bool (hnc (hno (by simp_all)))) rfl)
      · obtain rfl : j = cfields.length := by omega
        rw [List.take_length] at hfs
        repeat' (first|refine zw ?_|refine zn (fun hb=>?_) (fun hb=>?_)|refine zx ?_|refine zof @hgo ?_|exact zi|fail)
        have hbw:bw = true:=by assumption
        have hfin:(bw && fieldsB vars (dvs (ds.take (q + 1))) cfields) = true:=by
          rw [hbw,Bool.true_and]
          exact List.all_eq_true.2 hfs
        exact loopNor (m2 - 1) (by omega) ⟨r + 1,_,_,_,_,_,_,_,_,_,_,by omega,by omega,hgc2 hfin,hgo _,rfl⟩
    · obtain rfl : r = cons.length := by omega
      repeat' (first|refine zw ?_|refine zn (fun hb=>?_) (fun hb=>?_)|refine zx ?_|refine zof @hTj ?_|exact zi|fail)
      refine loopNor (m - 1) (by omega) ⟨q + 1,_,_,_,_,_,_,_,_,_,_,_,_,_,_,by omega,by omega,fun i h hi=>?_,rfl⟩
      rcases Nat.lt_or_ge i q with h' | h'
      · exact hgood i h h'
      · obtain rfl : i = q := by omega
        rw [hdq]
        exact ⟨by simp_all,by rw [Bool.eq_false_iff]; intro hd; have:=hr2.2 hd; omega,⟨by dsimp only; omega,by dsimp only; omega⟩,⟨by dsimp only; omega,by dsimp only; omega⟩,fun k hk=>hgc k hk hk⟩
  · obtain rfl : q = ds.length := by omega
    repeat' (first|refine zw ?_|refine zn (fun hb=>?_) (fun hb=>?_)|refine zx ?_|refine zo ?_|exact zi|fail)
    exact isI (congrArg AV.bool (datas_yes ⟨by omega,fun i h=>hgood i h h⟩)) rfl
end Go.Proofs.YtkjonfojileipaaGreatDoor.Gq
