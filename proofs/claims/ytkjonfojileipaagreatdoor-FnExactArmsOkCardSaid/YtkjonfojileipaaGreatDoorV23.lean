/- Names that are bound, for the program: kids, expressions. -/
import Derived.Test.YtkjonfojileipaaGreatDoorV9
import Derived.Test.YtkjonfojileipaaGreatDoorV22
set_option linter.unusedSimpArgs false
set_option linter.unusedVariables false
namespace Go.Proofs.YtkjonfojileipaaGreatDoor.Gq
open Go Go.Proofs Go.Proofs.YtkjonfojileipaaGreatDoor.Ae
attribute [local congr] obind_congr
attribute [local push_cast] exF argsV frzs frz frzL frz1 exS_reg exS_seq exS_cond exS_alt exS_block exS_loop exS_exit exS_ret exS_skip evReg evOps evOne evAct evOp rd putV st0 evEnd resV resL resOne oneOr frzR loadV storeV binV binI unV push_frm pop_frm frm_len frm_top frm_get_top frm_set_top frm_new AV.cells AV.lowB AV.lowL AV.isCell cellsOk set_len Option.bind_some Option.map_some Option.map_none List.getD_cons_zero List.getD_cons_succ List.nil_append List.cons_append List.append_nil List.length_cons List.length_nil List.set_cons_zero List.set_cons_succ List.map_cons List.map_nil List.replicate if_true if_false ite_true ite_false ite_self Bool.false_eq_true List.all_cons List.all_nil Bool.and_true Bool.true_and Bool.and_self Bool.and_eq_true List.getElem?_cons_zero List.getElem?_cons_succ List.drop_succ_cons List.drop_zero List.take_succ_cons List.take_zero true_and and_true and_self decide_true decide_false Bool.not_true Bool.not_false Prod.mk.injEq Option.some.injEq List.getElem?_drop optInt elems sliceV partsOf Nat.add_zero Nat.zero_add Nat.mul_one beq_self_eq_true litParts Bool.or_false Bool.false_or Bool.or_true Bool.true_or Bool.false_and Bool.and_false List.cons.injEq not_false_eq_true not_true_eq_false Nat.zero_le Nat.le_refl gt_iff_lt ge_iff_le List.drop_nil List.take_nil newBox List.length_append List.length_map bne_self_eq_false eq_self Nat.lt_add_one ne_eq false_implies Int.le_refl
def ScF (ds : List Dt) (seen : List (List Int)) (p : AV) (T : List Ae.Obj) : Prop := T[0]? = some (.box 61 [p]) ∧ T[1]? = some (.box 32 [.imm false ds.length (ds.flatMap Dt.az)]) ∧ T[2]? = some (.box 113 [.imm false seen.length (seen.map stv)])
set_option maxHeartbeats 8000000 in
theorem implKidScope {ds : List Dt} {k n : Int} {name arg lit : List Int} {kids : List Xp} {arms : List Arm} {p : AV} {s : Store} (hp : PtrAt s p (zcs k n name arg lit kids arms)) {seen : List (List Int)} {T : List Ae.Obj}
    (hF : ScF ds seen p T) (hso : ∀ v ∈ seen, okB v) {d : Nat} (hsl : seen.length ≤ 3 * d) (hd : d ≤ 40) (hkl : kids.length ≤ 1000000000) {j : Nat} (hj : j < kids.length) (ih : scC ds (d + 1) kids[j]) {more : List (List Int)} (hmo : ∀ v ∈ more, okB v) (hml : more.length ≤ 3) (g : Bool) :
    callF (tab tbl) prim 139 [.int .i64 j, .imm g more.length (more.map stv), .ptr (s.low.length + 1) 0 0, .ptr (s.low.length + 1) 1 0, .ptr (s.low.length + 1) 2 0] (frm s T) = some (.bool (decide (scP ds (seen ++ more) kids[j])), frm s T) := by
  obtain ⟨h0,h1,h2⟩:=hF
  have hp2:=hp.frm T
  have g0:(frm s T).get (s.low.length + 1) 0 = some (.box 61 [p]):=by rw [frm_get_top]; exact h0
  have g1:(frm s T).get (s.low.length + 1) 1 = some (.box 32 [.imm false ds.length (ds.flatMap Dt.az)]):=by rw [frm_get_top]; exact h1
  have g2:(frm s T).get (s.low.length + 1) 2 = some (.box 113 [.imm false seen.length (seen.map stv)]):=by rw [frm_get_top]; exact h2
  have hclip:=implClip (f:=false) (n:=seen.length) (cs:=seen.map stv) (by simp)
  have hld:=fun R=>hp2.load (j:=5) (c:=AV.imm false kids.length (kids.flatMap Xp.az)) rfl R
  simp only [loadV] at hld
  have hA:=fun R=>slF_app (D:=s.low.length + 1 + 1) (e:=9) (sz:=1) (s:=frm s T) (T:=R) (bytes:=16) (v:=.imm true seen.length (seen.map stv)) (n:=seen.length) (cs:=seen.map stv) (y:=.imm false more.length (more.map stv)) (ys:=more.map stv) (m:=more.length) (.inl ⟨rfl,by simp,stv_ok _⟩) (by rw [frm_len]) (by omega) rfl (stv_ok _) (by simp) (by omega)
  have hso2:∀ v ∈ seen ++ more,okB v:=fun v hv=>by rcases List.mem_append.1 hv with h | h; exact hso v h; exact hmo v h
  have hC:∀ (v:AV) (R:List Ae.Obj),SlF (s.low.length + 1 + 1) R 9 1 v (seen.length + more.length) (seen.map stv ++ more.map stv)→∃ v3 S3,callF (tab tbl) prim 85 [.eptr ((kids.flatMap Xp.az).drop (j * 7)),.imm false ds.length (ds.flatMap Dt.az),v] (frm (frm s T) R) = some (v3,S3)∧v3 = .bool (decide (scP ds (seen ++ more) kids[j]))∧∃ T3,S3 = frm (frm s T) T3:=by
    intro v R hS
    rw [← frm_len s T,← List.map_append] at hS
    obtain ⟨v3,S3,e,e1,T3,e2,_⟩:=scCall (s:=frm s T) (T:=R) (p:=.eptr ((kids.flatMap Xp.az).drop (j * 7))) ih (fun T'=>by rw [fm_rest Xp.len hj]; exact ptrAt_e _ _) hS hso2 (by rw [List.length_append]; omega) (by simp)
    exact ⟨v3,S3,e,e1,T3,e2⟩
  generalize decide (scP ds (seen ++ more) kids[j]) = b at *
  refine funY rfl (argsF rfl (frzs_cons frz_int (frzs_cons frz_imm (frzs_cons frz_ptr (frzs_cons frz_ptr (frzs_cons frz_ptr frzs_nil)))))) zt ?_
  repeat' (first|refine zw ?_|refine zn (fun hb=>?_) (fun hb=>?_)|refine zx ?_|refine zp hp2 ?_|(refine zka ((hA _)) ?_; rintro _ _ ⟨T', rfl, hS, hO⟩)|(refine zk ((hC _ _ hS)) ?_; rintro _ _ ⟨rfl, T3, rfl⟩)|refine zof (zA @g0 (zA @g1 (zA @g2 (zA @hclip (@hld))))) ?_|exact zi|fail)
  all_goals exact isI (congrArg AV.bool (by simp_all)) rfl
theorem ptr_cells {s : Store} {p : AV} {cs : List AV} (h : PtrAt s p cs) : p.cells = [p] ∧ p.isCell = true ∧ ∀ D, s.low.length < D → p.lowB D = true := by
  rcases h with ⟨rest, rfl⟩ | ⟨d, i, o, t, all, rest, rfl, hd, _⟩
  · exact ⟨rfl, rfl, fun _ _ => rfl⟩
  · exact ⟨rfl, rfl, fun D hD => by simp only [AV.lowB, decide_eq_true_eq]; omega⟩
section
variable {ds : List Dt} {seen : List (List Int)} {name : List Int} {k n : Int} {arg lit : List Int} {kids : List Xp} {arms : List Arm} {p : AV} {s : Store}
set_option maxHeartbeats 8000000 in
theorem scKids (hp : PtrAt s p (zcs k n name arg lit kids arms)) {T : List Ae.Obj} (hF : ScF ds seen p T) (hkl : kids.length ≤ 1000000000)
    (hkid : ∀ (j : Nat) (hj : j < kids.length), callF (tab tbl) prim 139 [.int .i64 j, .imm true 0 [], .ptr (s.low.length + 1) 0 0, .ptr (s.low.length + 1) 1 0, .ptr (s.low.length + 1) 2 0] (frm s T) = some (.bool (decide (scP ds seen kids[j])), frm s T)) (y9 y10 y11 y12 y13 y14 y15 y16 y17 y18 y19 y20 y23 y24 y25 y26 y27 y28 : AV) :
    Wp (exS (callF (tab tbl) prim) (.loop (loopAt c85 0)) ⟨[p, .imm false ds.length (ds.flatMap Dt.az), .imm false seen.length (seen.map stv), .ptr (s.low.length + 1) 0 0, .ptr (s.low.length + 1) 1 0, .ptr (s.low.length + 1) 2 0, .bool false, .str (bst name), .fn 139 [] [.ptr (s.low.length + 1) 0 0, .ptr (s.low.length + 1) 1 0, .ptr (s.low.length + 1) 2 0], y9, y10, y11, y12, y13, y14, y15, y16, y17, y18, y19, y20, .int .i64 kids.length, .int .i64 0, y23, y24, y25, y26, y27, y28], frm s T⟩)
      (fun e st => (e = .exit 1 ∧ (∀ (j : Nat) (hj : j < kids.length), scP ds seen kids[j]) ∧ ∃ y12 y22 y23 y24, st = ⟨[p, .imm false ds.length (ds.flatMap Dt.az), .imm false seen.length (seen.map stv), .ptr (s.low.length + 1) 0 0, .ptr (s.low.length + 1) 1 0, .ptr (s.low.length + 1) 2 0, .bool false, .str (bst name), .fn 139 [] [.ptr (s.low.length + 1) 0 0, .ptr (s.low.length + 1) 1 0, .ptr (s.low.length + 1) 2 0], y9, y10, y11, y12, y13, y14, y15, y16, y17, y18, y19, y20, .int .i64 kids.length, y22, y23, y24, y25, y26, y27, y28], frm s T⟩) ∨ (e = .ret ∧ (∃ (j : Nat) (hj : j < kids.length), ¬ scP ds seen kids[j]) ∧ ∃ y12 y22 y23 y24, st = ⟨[p, .imm false ds.length (ds.flatMap Dt.az), .imm false seen.length (seen.map stv), .ptr (s.low.length + 1) 0 0, .ptr (s.low.length + 1) 1 0, .ptr (s.low.length + 1) 2 0, .bool false, .str (bst name), .fn 139 [] [.ptr (s.low.length + 1) 0 0, .ptr (s.low.length + 1) 1 0, .ptr (s.low.length + 1) 2 0], y9, y10, y11, y12, y13, y14, y15, y16, y17, y18, y19, y20, .int .i64 kids.length, y22, y23, y24, y25, y26, y27, y28], frm s T⟩)) := by
  simp only [loopAt,loops,c85,List.nil_append,List.append_nil,List.getD_cons_zero,List.cons_append]
  refine wLoop (fun m st=>∃ (q:Nat) (y12 y23 y24:AV),(m:Int) = kids.length - q∧q ≤ kids.length∧(∀ (j:Nat) (hj:j < kids.length),j < q→scP ds seen kids[j])∧st = ⟨[p,.imm false ds.length (ds.flatMap Dt.az),.imm false seen.length (seen.map stv),.ptr (s.low.length + 1) 0 0,.ptr (s.low.length + 1) 1 0,.ptr (s.low.length + 1) 2 0,.bool false,.str (bst name),.fn 139 [] [.ptr (s.low.length + 1) 0 0,.ptr (s.low.length + 1) 1 0,.ptr (s.low.length + 1) 2 0],y9,y10,y11,y12,y13,y14,y15,y16,y17,y18,y19,y20,.int .i64 kids.length,.int .i64 q,y23,y24,y25,y26,y27,y28],frm s T⟩) kids.length ?_ ?_
  · exact ⟨0, _, _, _, by omega, by omega, fun j _ h => by omega, rfl⟩
  · rintro m st ⟨q, y12, y23, y24, hm, hq, hall, rfl⟩
    by_cases hlt:q < kids.length
    · have hk := hkid q hlt
      by_cases hx:scP ds seen kids[q]
      · rw [decide_eq_true hx] at hk
        repeat' (first|refine zw ?_|refine zn (fun hb=>?_) (fun hb=>?_)|refine zx ?_|refine zof @hk ?_|exact zi|fail)
        exact loopNor (m - 1) (by omega) ⟨q + 1,_,_,_,by omega,by omega,fun j hj h=>by
          rcases Nat.lt_or_ge j q with h2 | h2
          · exact hall j hj h2
          · obtain rfl : j = q := by omega
            exact hx,rfl⟩
      · rw [decide_eq_false hx] at hk
        repeat' (first|refine zw ?_|refine zn (fun hb=>?_) (fun hb=>?_)|refine zx ?_|refine zof @hk ?_|exact zi|fail)
        exact .inr ⟨rfl,⟨q,hlt,hx⟩,_,_,_,_,rfl⟩
    · obtain rfl : q = kids.length := by omega
      repeat' (first|refine zw ?_|refine zn (fun hb=>?_) (fun hb=>?_)|refine zx ?_|refine zo ?_|exact zi|fail)
      exact .inl ⟨rfl,fun j hj=>hall j hj hj,_,_,_,_,rfl⟩
set_option maxHeartbeats 8000000 in
theorem scArms (hp : PtrAt s p (zcs k n name arg lit kids arms)) {T : List Ae.Obj} (hF : ScF ds seen p T) (hal : arms.length ≤ 1000000000)
    (harm : ∀ (j : Nat) (hj : j < arms.length), callF (tab tbl) prim 143 [.eptr ((arms.flatMap Arm.az).drop (j * 9)), .imm false ds.length (ds.flatMap Dt.az), .imm false seen.length (seen.map stv)] (frm s T) = some (.bool (decide (scM ds seen arms[j])), frm s T)) (y9 y10 y11 y12 y13 y14 y15 y16 y17 y18 y19 y20 y21 y22 y23 y24 y27 y28 : AV) :
    Wp (exS (callF (tab tbl) prim) (.loop (loopAt c85 1)) ⟨[p, .imm false ds.length (ds.flatMap Dt.az), .imm false seen.length (seen.map stv), .ptr (s.low.length + 1) 0 0, .ptr (s.low.length + 1) 1 0, .ptr (s.low.length + 1) 2 0, .bool false, .str (bst name), .fn 139 [] [.ptr (s.low.length + 1) 0 0, .ptr (s.low.length + 1) 1 0, .ptr (s.low.length + 1) 2 0], y9, y10, y11, y12, y13, y14, y15, y16, y17, y18, y19, y20, y21, y22, y23, y24, .int .i64 arms.length, .int .i64 0, y27, y28], frm s T⟩)
      (fun e st => (e = .exit 3 ∧ (∀ (j : Nat) (hj : j < arms.length), scM ds seen arms[j]) ∧ ∃ y13 y26 y27 y28, st = ⟨[p, .imm false ds.length (ds.flatMap Dt.az), .imm false seen.length (seen.map stv), .ptr (s.low.length + 1) 0 0, .ptr (s.low.length + 1) 1 0, .ptr (s.low.length + 1) 2 0, .bool false, .str (bst name), .fn 139 [] [.ptr (s.low.length + 1) 0 0, .ptr (s.low.length + 1) 1 0, .ptr (s.low.length + 1) 2 0], y9, y10, y11, y12, y13, y14, y15, y16, y17, y18, y19, y20, y21, y22, y23, y24, .int .i64 arms.length, y26, y27, y28], frm s T⟩) ∨ (e = .ret ∧ (∃ (j : Nat) (hj : j < arms.length), ¬ scM ds seen arms[j]) ∧ ∃ y13 y26 y27 y28, st = ⟨[p, .imm false ds.length (ds.flatMap Dt.az), .imm false seen.length (seen.map stv), .ptr (s.low.length + 1) 0 0, .ptr (s.low.length + 1) 1 0, .ptr (s.low.length + 1) 2 0, .bool false, .str (bst name), .fn 139 [] [.ptr (s.low.length + 1) 0 0, .ptr (s.low.length + 1) 1 0, .ptr (s.low.length + 1) 2 0], y9, y10, y11, y12, y13, y14, y15, y16, y17, y18, y19, y20, y21, y22, y23, y24, .int .i64 arms.length, y26, y27, y28], frm s T⟩)) := by
  obtain ⟨h0,h1,h2⟩:=hF
  have g0:(frm s T).get (s.low.length + 1) 0 = some (.box 61 [p]):=by rw [frm_get_top]; exact h0
  have g1:(frm s T).get (s.low.length + 1) 1 = some (.box 32 [.imm false ds.length (ds.flatMap Dt.az)]):=by rw [frm_get_top]; exact h1
  have g2:(frm s T).get (s.low.length + 1) 2 = some (.box 113 [.imm false seen.length (seen.map stv)]):=by rw [frm_get_top]; exact h2
  simp only [loopAt,loops,c85,List.nil_append,List.append_nil,List.getD_cons_zero,List.getD_cons_succ,List.cons_append]
  refine wLoop (fun m st=>∃ (q:Nat) (y13 y27 y28:AV),(m:Int) = arms.length - q∧q ≤ arms.length∧(∀ (j:Nat) (hj:j < arms.length),j < q→scM ds seen arms[j])∧st = ⟨[p,.imm false ds.length (ds.flatMap Dt.az),.imm false seen.length (seen.map stv),.ptr (s.low.length + 1) 0 0,.ptr (s.low.length + 1) 1 0,.ptr (s.low.length + 1) 2 0,.bool false,.str (bst name),.fn 139 [] [.ptr (s.low.length + 1) 0 0,.ptr (s.low.length + 1) 1 0,.ptr (s.low.length + 1) 2 0],y9,y10,y11,y12,y13,y14,y15,y16,y17,y18,y19,y20,y21,y22,y23,y24,.int .i64 arms.length,.int .i64 q,y27,y28],frm s T⟩) arms.length ?_ ?_
  · exact ⟨0, _, _, _, by omega, by omega, fun j _ h => by omega, rfl⟩
  · rintro m st ⟨q, y13, y27, y28, hm, hq, hall, rfl⟩
    by_cases hlt:q < arms.length
    · have hk := harm q hlt
      by_cases hx:scM ds seen arms[q]
      · rw [decide_eq_true hx] at hk
        repeat' (first|refine zw ?_|refine zn (fun hb=>?_) (fun hb=>?_)|refine zx ?_|refine zp hp ?_|refine zof (zA @hk (zA @g0 (zA @g1 (@g2)))) ?_|exact zi|fail)
        exact loopNor (m - 1) (by omega) ⟨q + 1,_,_,_,by omega,by omega,fun j hj h=>by
          rcases Nat.lt_or_ge j q with h2 | h2
          · exact hall j hj h2
          · obtain rfl : j = q := by omega
            exact hx,rfl⟩
      · rw [decide_eq_false hx] at hk
        repeat' (first|refine zw ?_|refine zn (fun hb=>?_) (fun hb=>?_)|refine zx ?_|refine zp hp ?_|refine zof (zA @hk (zA @g0 (zA @g1 (@g2)))) ?_|exact zi|fail)
        exact .inr ⟨rfl,⟨q,hlt,hx⟩,_,_,_,_,rfl⟩
    · obtain rfl : q = arms.length := by omega
      repeat' (first|refine zw ?_|refine zn (fun hb=>?_) (fun hb=>?_)|refine zx ?_|refine zo ?_|exact zi|fail)
      exact .inl ⟨rfl,fun j hj=>hall j hj hj,_,_,_,_,rfl⟩
end
theorem scCont {seen : List (List Int)} {name : List Int} (hn : okB name) (hso : ∀ v ∈ seen, okB v) (hl : seen.length ≤ 1000000000) (s : Store) : callF (tab tbl) prim 141 [.imm false seen.length (seen.map stv), .str (bst name)] s = some (.bool (decide (name ∈ seen)), s) := by
  have hi:=fun s=>ixE_ok (T:=tab tbl) (prim:=prim) (g:=184) (l:=seen) (fl:=false) (b:=bst name) (sf:=bst) (p:=fun x=>decide (name = x)) (s:=s) rfl (fun x hx=>bst_eql hn.2 (hso x hx).2) (by omega)
  have hc:=ct_ok (g:=141) (s:=s) rfl (fun _=>rfl) (fun _=>rfl) hi
  have:(seen.any fun x=>decide (name = x)) = decide (name ∈ seen):=by
    rw [Bool.eq_iff_iff]; simp
  rw [this] at hc
  exact hc
set_option maxHeartbeats 16000000 in
theorem implScope {ds : List Dt} (ho : okN ds) (hl : ds.length ≤ 1000000000) (hc : ∀ d ∈ ds, d.cons.length ≤ 1000000000) : ∀ e : Xp, e.ok → e.sz ≤ 1000000000 → ∀ d : Nat, xgd d e → scC ds d e := by
  refine Xp.ind fun k n name arg lit kids arms ih iha=>?_
  intro hok hsz d hg p s f seen hp hso hsl
  have hsz2:=hsz
  simp only [Xp.sz,szE_eq,szA_eq] at hsz2
  have hln:=sizes_len Xp.sz kids
  have hla:=sizes_len Arm.sz arms
  have hok2:=hok
  simp only [Xp.ok,okE_iff,okA_iff] at hok2
  obtain ⟨_,_,hnm,hag,_,⟨_,hoe⟩,⟨_,hoa⟩⟩:=hok2
  rw [xgd,gdE_iff,gdA_iff] at hg
  obtain ⟨hd,hX,hgk,hga⟩:=hg
  rw [az_zcs] at hp
  have hS:=scP_mk (ds:=ds) (seen:=seen) (k:=k) (n:=n) (name:=name) (arg:=arg) (lit:=lit) (kids:=kids) (arms:=arms)
  have hkid:∀ (more:List (List Int)) (hmo:∀ v ∈ more,okB v) (hml:more.length ≤ 3) (j:Nat) (hj:j < kids.length),callF (tab tbl) prim 139 [.int .i64 j,.imm true more.length (more.map stv),.ptr (s.low.length + 1) 0 0,.ptr (s.low.length + 1) 1 0,.ptr (s.low.length + 1) 2 0] (frm s [.box 61 [p],.box 32 [.imm false ds.length (ds.flatMap Dt.az)],.box 113 [.imm false seen.length (seen.map stv)]]) = some (.bool (decide (scP ds (seen ++ more) kids[j])),frm s [.box 61 [p],.box 32 [.imm false ds.length (ds.flatMap Dt.az)],.box 113 [.imm false seen.length (seen.map stv)]]):=fun more hmo hml j hj=>by
    have hm:=List.getElem_mem hj
    exact implKidScope hp ⟨rfl,rfl,rfl⟩ hso hsl hd (by omega) hj (ih _ hm (hoe _ hm) (by have:=sizes_mem Xp.sz hm; omega) (d + 1) (hgk _ hm)) hmo hml true
  have hkid0:∀ (j:Nat) (hj:j < kids.length),callF (tab tbl) prim 139 [.int .i64 j,.imm true 0 [],.ptr (s.low.length + 1) 0 0,.ptr (s.low.length + 1) 1 0,.ptr (s.low.length + 1) 2 0] (frm s [.box 61 [p],.box 32 [.imm false ds.length (ds.flatMap Dt.az)],.box 113 [.imm false seen.length (seen.map stv)]]) = some (.bool (decide (scP ds seen kids[j])),frm s [.box 61 [p],.box 32 [.imm false ds.length (ds.flatMap Dt.az)],.box 113 [.imm false seen.length (seen.map stv)]]):=fun j hj=>by
    have:=hkid [] (by simp) (by simp) j hj
    simp only [List.append_nil,List.length_nil,List.map_nil] at this
    exact this
  have harm:∀ (j:Nat) (hj:j < arms.length),callF (tab tbl) prim 143 [.eptr ((arms.flatMap Arm.az).drop (j * 9)),.imm false ds.length (ds.flatMap Dt.az),.imm false seen.length (seen.map stv)] (frm s [.box 61 [p],.box 32 [.imm false ds.length (ds.flatMap Dt.az)],.box 113 [.imm false seen.length (seen.map stv)]]) = some (.bool (decide (scM ds seen arms[j])),frm s [.box 61 [p],.box 32 [.imm false ds.length (ds.flatMap Dt.az)],.box 113 [.imm false seen.length (seen.map stv)]]):=fun j hj=>by
    have hm:=List.getElem_mem hj
    have h1:=iha _ hm
    have h2:=hoa _ hm
    have h3:=hga _ hm
    have h4:=sizes_mem Arm.sz hm
    have hpa:PtrAt (frm s [.box 61 [p],.box 32 [.imm false ds.length (ds.flatMap Dt.az)],.box 113 [.imm false seen.length (seen.map stv)]]) (.eptr ((arms.flatMap Arm.az).drop (j * 9))) arms[j].az:=by rw [fm_rest Arm.len hj]; exact ptrAt_e _ _
    generalize arms[j] = a at *
    obtain ⟨con,vars,body⟩:=a
    simp only [Arm.ok] at h2
    simp only [Arm.body] at h1
    simp only [Arm.sz] at h4
    rw [agd] at h3
    have h5:vars.length ≤ 3:=by
      rcases h3.1 with h | h
      · omega
      · exact h.2.2.1
    exact implArmScope ho hl hc h2.1 h2.2.1.2 h5 hd (h1 h2.2.2 (by omega) (d + 1) h3.2) hpa hso hsl
  have hT:(k = 3→name ∈ seen)→(k = 15→arP name kids.length ds)→(∀ (j:Nat) (h:j < kids.length),scP ds (seen ++ ext k j name arg) kids[j])→(∀ (j:Nat) (hj:j < arms.length),scM ds seen arms[j])→decide (scP ds seen (.mk k n name arg lit kids arms)) = true:=fun h1 h2 h3 h4=>decide_eq_true (hS.2 ⟨h1,h2,h3,fun a ha=>by obtain ⟨j,hj,rfl⟩:=List.mem_iff_getElem.1 ha; exact h4 j hj⟩)
  have hN1:∀ (j:Nat) (h:j < kids.length),¬ scP ds (seen ++ ext k j name arg) kids[j]→decide (scP ds seen (.mk k n name arg lit kids arms)) = false:=fun j h h2=>decide_eq_false fun h3=>h2 ((hS.1 h3).2.2.1 j h)
  have hN2:∀ (j:Nat) (h:j < arms.length),¬ scM ds seen arms[j]→decide (scP ds seen (.mk k n name arg lit kids arms)) = false:=fun j h h2=>decide_eq_false fun h3=>h2 ((hS.1 h3).2.2.2 _ (List.getElem_mem h))
  have hN3:k = 3→¬ name ∈ seen→decide (scP ds seen (.mk k n name arg lit kids arms)) = false:=fun h h2=>decide_eq_false fun h3=>h2 ((hS.1 h3).1 h)
  have hN4:k = 15→¬ arP name kids.length ds→decide (scP ds seen (.mk k n name arg lit kids arms)) = false:=fun h h2=>decide_eq_false fun h3=>h2 ((hS.1 h3).2.1 h)
  generalize decide (scP ds seen (.mk k n name arg lit kids arms)) = b at *
  obtain ⟨pc1,pc2,pc3⟩:=ptr_cells hp
  simp only [AV.cells] at pc1
  simp only [AV.isCell] at pc2
  have tn:=toB8 name
  have ln:=by8_len name
  have ta:=toB8 arg
  have la:=by8_len arg
  have hKL:=@scKids ds seen name k n arg lit kids arms p s hp [.box 61 [p],.box 32 [.imm false ds.length (ds.flatMap Dt.az)],.box 113 [.imm false seen.length (seen.map stv)]] ⟨rfl,rfl,rfl⟩ (by omega) hkid0
  have hAL:=@scArms ds seen name k n arg lit kids arms p s hp [.box 61 [p],.box 32 [.imm false ds.length (ds.flatMap Dt.az)],.box 113 [.imm false seen.length (seen.map stv)]] ⟨rfl,rfl,rfl⟩ (by omega) harm
  have cl:k = 3 ∨ k = 4 ∨ (k = 6 ∨ k = 18) ∨ k = 7 ∨ k = 15 ∨ (k ≠ 3∧k ≠ 4∧k ≠ 6∧k ≠ 18∧k ≠ 7∧k ≠ 15):=by omega
  rcases cl with h | h | h | h | h | h
  · have hX2 := (hdX_A (.inl h)).1 hX
    have hk0:kids.length = 0:=by have:=hX2.2.2.2.2.2; rw [h,show kidsN 3 n = 0 by simp [kidsN]] at this; omega
    have ha0:arms.length = 0:=hX2.2.2.2.2.1
    have hb:b = decide (name ∈ seen):=by
      by_cases hin:name ∈ seen
      · rw [decide_eq_true hin]; exact hT (fun _ => hin) (fun h2 => by omega) (fun j hj => by omega) (fun j hj => by omega)
      · rw [decide_eq_false hin]; exact hN3 h hin
    have hct:=fun s=>scCont hnm hso (by omega) s
    rw [← hb] at hct
    refine funY rfl (argsF rfl (frzs_cons (hp.frz s) (frzs_cons frz_imm (frzs_cons frz_imm frzs_nil)))) zt ?_
    repeat' (first|refine zw ?_|refine zn (fun hb=>?_) (fun hb=>?_)|refine zx ?_|refine zp hp ?_|refine zof (zA @pc1 (zA @pc2 (zA @pc3 (zA @tn (zA @ln (@hct)))))) ?_|exact zi|fail)
    all_goals exact isI (congrArg AV.bool hb.symm) rfl
  · have hX2 := (hdX_A (.inr (.inl h))).1 hX
    have hk0:kids.length = 1:=by have:=hX2.2.2.2.2.2; rw [h,show kidsN 4 n = 1 by simp [kidsN]] at this; omega
    have ha0:arms.length = 0:=hX2.2.2.2.2.1
    have he:ext k 0 name arg = [name]:=by unfold ext; rw [if_pos h]
    have hb:b = decide (scP ds (seen ++ [name]) kids[0]):=by
      by_cases hin:scP ds (seen ++ [name]) kids[0]
      · rw [decide_eq_true hin]; exact hT (fun h2 => by omega) (fun h2 => by omega) (fun j hj => by
          obtain rfl:j = 0:=by omega
          rw [he]; exact hin) (fun j hj=>by omega)
      · rw [decide_eq_false hin]; exact hN1 0 (by omega) (by rw [he]; exact hin)
    have hk:=hkid [name] (by simp [hnm]) (by simp) 0 (by omega)
    simp only [List.length_cons,List.length_nil,List.map_cons,List.map_nil,stv,Nat.zero_add] at hk
    rw [show ((0:Nat):Int) = 0 from rfl] at hk
    rw [← hb] at hk
    refine funY rfl (argsF rfl (frzs_cons (hp.frz s) (frzs_cons frz_imm (frzs_cons frz_imm frzs_nil)))) zt ?_
    repeat' (first|refine zw ?_|refine zn (fun hb=>?_) (fun hb=>?_)|refine zx ?_|refine zp hp ?_|refine zof (zA @pc1 (zA @pc2 (zA @pc3 (zA @tn (zA @ln (@hk)))))) ?_|exact zi|fail)
    all_goals exact isI (congrArg AV.bool hb.symm) rfl
  · have hX2 := (hdX_A (h.elim (fun h => .inr (.inr (.inl h))) fun h => .inr (.inr (.inr h)))).1 hX
    have hk0:kids.length = 2:=by
      have:=hX2.2.2.2.2.2
      rcases h with h | h
      · rw [h, show kidsN 6 n = 2 by simp [kidsN]] at this; omega
      · rw [h, show kidsN 18 n = 2 by simp [kidsN]] at this; omega
    have ha0:arms.length = 0:=hX2.2.2.2.2.1
    have he0:ext k 0 name arg = []:=by unfold ext; rw [if_neg (by omega),if_pos h,if_neg (by omega)]
    have he1:ext k 1 name arg = [name]:=by unfold ext; rw [if_neg (by omega),if_pos h,if_pos rfl]
    have hk:=hkid0 0 (by omega)
    rw [show ((0:Nat):Int) = 0 from rfl] at hk
    have hk1:=hkid [name] (by simp [hnm]) (by simp) 1 (by omega)
    simp only [List.length_cons,List.length_nil,List.map_cons,List.map_nil,stv,Nat.zero_add] at hk1
    rw [show ((1:Nat):Int) = 1 from rfl] at hk1
    by_cases hx:scP ds seen kids[0]
    · rw [decide_eq_true hx] at hk
      by_cases hx1:scP ds (seen ++ [name]) kids[1]
      · rw [decide_eq_true hx1] at hk1
        rw [hT (fun h2=>by omega) (fun h2=>by omega) (fun j hj=>by
          have hj2:j = 0 ∨ j = 1:=by omega
          rcases hj2 with rfl | rfl
          · rw [he0, List.append_nil]; exact hx
          · rw [he1]; exact hx1) (fun j hj => by omega)]
        refine funY rfl (argsF rfl (frzs_cons (hp.frz s) (frzs_cons frz_imm (frzs_cons frz_imm frzs_nil)))) zt ?_
        repeat' (first|refine zw ?_|refine zn (fun hb=>?_) (fun hb=>?_)|refine zx ?_|refine zp hp ?_|refine zpg hp ?_|refine zof (zA @pc1 (zA @pc2 (zA @pc3 (zA @tn (zA @ln (zA @hk (@hk1))))))) ?_|exact zi|fail)
      · rw [decide_eq_false hx1] at hk1
        rw [hN1 1 (by omega) (by rw [he1]; exact hx1)]
        refine funY rfl (argsF rfl (frzs_cons (hp.frz s) (frzs_cons frz_imm (frzs_cons frz_imm frzs_nil)))) zt ?_
        repeat' (first|refine zw ?_|refine zn (fun hb=>?_) (fun hb=>?_)|refine zx ?_|refine zp hp ?_|refine zpg hp ?_|refine zof (zA @pc1 (zA @pc2 (zA @pc3 (zA @tn (zA @ln (zA @hk (@hk1))))))) ?_|exact zi|fail)
    · rw [decide_eq_false hx] at hk
      rw [hN1 0 (by omega) (by rw [he0,List.append_nil]; exact hx)]
      refine funY rfl (argsF rfl (frzs_cons (hp.frz s) (frzs_cons frz_imm (frzs_cons frz_imm frzs_nil)))) zt ?_
      repeat' (first|refine zw ?_|refine zn (fun hb=>?_) (fun hb=>?_)|refine zx ?_|refine zp hp ?_|refine zof (zA @pc1 (zA @pc2 (zA @pc3 (zA @tn (zA @ln (@hk)))))) ?_|exact zi|fail)
  · have hX2 := (hdX_B h).1 hX
    have hk0:kids.length = 2:=by have:=hX2.2.2.2.2.2.2; rw [h,show kidsN 7 n = 2 by simp [kidsN]] at this; omega
    have ha0:arms.length = 0:=hX2.2.2.2.2.2.1
    have he0:ext k 0 name arg = [name,arg]:=by unfold ext; rw [if_neg (by omega),if_neg (by omega),if_pos h,if_pos rfl]
    have he1:ext k 1 name arg = [name]:=by unfold ext; rw [if_neg (by omega),if_neg (by omega),if_pos h,if_neg (by omega)]
    have hk:=hkid [name,arg] (by simp [hnm,hag]) (by simp) 0 (by omega)
    simp only [List.length_cons,List.length_nil,List.map_cons,List.map_nil,stv,Nat.zero_add] at hk
    rw [show ((0:Nat):Int) = 0 from rfl] at hk
    have hk1:=hkid [name] (by simp [hnm]) (by simp) 1 (by omega)
    simp only [List.length_cons,List.length_nil,List.map_cons,List.map_nil,stv,Nat.zero_add] at hk1
    rw [show ((1:Nat):Int) = 1 from rfl] at hk1
    by_cases hx:scP ds (seen ++ [name,arg]) kids[0]
    · rw [decide_eq_true hx] at hk
      by_cases hx1:scP ds (seen ++ [name]) kids[1]
      · rw [decide_eq_true hx1] at hk1
        rw [hT (fun h2=>by omega) (fun h2=>by omega) (fun j hj=>by
          have hj2:j = 0 ∨ j = 1:=by omega
          rcases hj2 with rfl | rfl
          · rw [he0]; exact hx
          · rw [he1]; exact hx1) (fun j hj => by omega)]
        refine funY rfl (argsF rfl (frzs_cons (hp.frz s) (frzs_cons frz_imm (frzs_cons frz_imm frzs_nil)))) zt ?_
        repeat' (first|refine zw ?_|refine zn (fun hb=>?_) (fun hb=>?_)|refine zx ?_|refine zp hp ?_|refine zpg hp ?_|refine zof (zA @pc1 (zA @pc2 (zA @pc3 (zA @tn (zA @ln (zA @ta (zA @la (zA @hk (@hk1))))))))) ?_|exact zi|fail)
      · rw [decide_eq_false hx1] at hk1
        rw [hN1 1 (by omega) (by rw [he1]; exact hx1)]
        refine funY rfl (argsF rfl (frzs_cons (hp.frz s) (frzs_cons frz_imm (frzs_cons frz_imm frzs_nil)))) zt ?_
        repeat' (first|refine zw ?_|refine zn (fun hb=>?_) (fun hb=>?_)|refine zx ?_|refine zp hp ?_|refine zpg hp ?_|refine zof (zA @pc1 (zA @pc2 (zA @pc3 (zA @tn (zA @ln (zA @ta (zA @la (zA @hk (@hk1))))))))) ?_|exact zi|fail)
    · rw [decide_eq_false hx] at hk
      rw [hN1 0 (by omega) (by rw [he0]; exact hx)]
      refine funY rfl (argsF rfl (frzs_cons (hp.frz s) (frzs_cons frz_imm (frzs_cons frz_imm frzs_nil)))) zt ?_
      repeat' (first|refine zw ?_|refine zn (fun hb=>?_) (fun hb=>?_)|refine zx ?_|refine zp hp ?_|refine zof (zA @pc1 (zA @pc2 (zA @pc3 (zA @tn (zA @ln (zA @ta (zA @la (@hk)))))))) ?_|exact zi|fail)
  · have he : ∀ j, seen ++ ext k j name arg = seen := fun j => by unfold ext; rw [if_neg (by omega), if_neg (by omega), if_neg (by omega), List.append_nil]
    simp only [he] at hT hN1
    rcases place_or hnm ho hl hc with ⟨i, q, hat⟩ | hno
    · have h1 := fun s => implPlace1 hnm ho hl hc s hat
      unfold stv at h1
      have hca:=(dt_at hat.1).2.2
      have hcf:=(con_at hat.2.1).2
      have hcl:=hc _ (List.getElem_mem hat.1)
      have harp:=arP_at (n:=kids.length) hat
      obtain ⟨hi1,hk1,_⟩:=hat
      generalize ds[i].cons[q].fields = fl at *
      by_cases hn:fl.length = kids.length
      · refine funY rfl (argsF rfl (frzs_cons (hp.frz s) (frzs_cons frz_imm (frzs_cons frz_imm frzs_nil)))) zt ?_
        repeat' (first|refine zw ?_|refine zn (fun hb=>?_) (fun hb=>?_)|refine zx ?_|refine zp hp ?_|refine zpg hp ?_|refine zof (zA @pc1 (zA @pc2 (zA @pc3 (zA @tn (zA @ln (zA @h1 (zA @hca (@hcf)))))))) ?_|exact zi|fail)
        all_goals first | (exfalso; omega) | skip
        refine Wp.mono (hKL _ _ _ _ _ _ _ _ _ _ _ _ _ _ _ _ _ _) ?_
        rintro e st (⟨rfl, hall, y12, y22, y23, y24, rfl⟩ | ⟨rfl, ⟨j, hj, hbad⟩, y12, y22, y23, y24, rfl⟩)
        · repeat' (first|refine zw ?_|refine zn (fun hb=>?_) (fun hb=>?_)|refine zx ?_|refine zp hp ?_|refine zo ?_|exact zi|fail)
          refine Wp.mono (hAL _ _ _ _ _ _ _ _ _ _ _ _ _ _ _ _ _ _) ?_
          rintro e st (⟨rfl, hall2, y13, y26, y27, y28, rfl⟩ | ⟨rfl, ⟨j, hj, hbad⟩, y13, y26, y27, y28, rfl⟩)
          · rw [hT (fun h2 => by omega) (fun _ => harp.2 hn) hall hall2]
            repeat' (first|refine zw ?_|refine zn (fun hb=>?_) (fun hb=>?_)|refine zx ?_|refine zo ?_|exact zi|fail)
          · rw [hN2 j hj hbad]
            repeat' (first|refine zw ?_|refine zn (fun hb=>?_) (fun hb=>?_)|refine zx ?_|refine zo ?_|exact zi|fail)
        · rw [hN1 j hj hbad]
          repeat' (first|refine zw ?_|refine zn (fun hb=>?_) (fun hb=>?_)|refine zx ?_|refine zo ?_|exact zi|fail)
      · rw [hN4 h (fun h => hn (harp.1 h))]
        refine funY rfl (argsF rfl (frzs_cons (hp.frz s) (frzs_cons frz_imm (frzs_cons frz_imm frzs_nil)))) zt ?_
        repeat' (first|refine zw ?_|refine zn (fun hb=>?_) (fun hb=>?_)|refine zx ?_|refine zp hp ?_|refine zpg hp ?_|refine zof (zA @pc1 (zA @pc2 (zA @pc3 (zA @tn (zA @ln (zA @h1 (zA @hca (@hcf)))))))) ?_|exact zi|fail)
        all_goals first | (exfalso; omega) | skip
    · have h1 := fun s => implPlace0 hnm ho hl hc s hno
      unfold stv at h1
      rw [hN4 h (arP_no hno)]
      refine funY rfl (argsF rfl (frzs_cons (hp.frz s) (frzs_cons frz_imm (frzs_cons frz_imm frzs_nil)))) zt ?_
      repeat' (first|refine zw ?_|refine zn (fun hb=>?_) (fun hb=>?_)|refine zx ?_|refine zp hp ?_|(refine zk (h1 _) ?_; rintro _ _ ⟨a, b, rfl, rfl⟩)|refine zof (zA @pc1 (zA @pc2 (zA @pc3 (zA @tn (@ln))))) ?_|exact zi|fail)
      all_goals first | (exfalso; omega) | skip
  · have he : ∀ j, seen ++ ext k j name arg = seen := fun j => by unfold ext; rw [if_neg h.2.1, if_neg (by omega), if_neg h.2.2.2.2.1, List.append_nil]
    simp only [he] at hT hN1
    refine funY rfl (argsF rfl (frzs_cons (hp.frz s) (frzs_cons frz_imm (frzs_cons frz_imm frzs_nil)))) zt ?_
    repeat' (first|refine zw ?_|refine zn (fun hb=>?_) (fun hb=>?_)|refine zx ?_|refine zp hp ?_|refine zof (zA @pc1 (zA @pc2 (zA @pc3 (zA @tn (@ln))))) ?_|exact zi|fail)
    refine Wp.mono (hKL _ _ _ _ _ _ _ _ _ _ _ _ _ _ _ _ _ _) ?_
    rintro e st (⟨rfl, hall, y12, y22, y23, y24, rfl⟩ | ⟨rfl, ⟨j, hj, hbad⟩, y12, y22, y23, y24, rfl⟩)
    · repeat' (first|refine zw ?_|refine zn (fun hb=>?_) (fun hb=>?_)|refine zx ?_|refine zp hp ?_|refine zo ?_|exact zi|fail)
      refine Wp.mono (hAL _ _ _ _ _ _ _ _ _ _ _ _ _ _ _ _ _ _) ?_
      rintro e st (⟨rfl, hall2, y13, y26, y27, y28, rfl⟩ | ⟨rfl, ⟨j, hj, hbad⟩, y13, y26, y27, y28, rfl⟩)
      · rw [hT (fun h2 => absurd h2 h.1) (fun h2 => absurd h2 h.2.2.2.2.2) hall hall2]
        repeat' (first|refine zw ?_|refine zn (fun hb=>?_) (fun hb=>?_)|refine zx ?_|refine zo ?_|exact zi|fail)
      · rw [hN2 j hj hbad]
        repeat' (first|refine zw ?_|refine zn (fun hb=>?_) (fun hb=>?_)|refine zx ?_|refine zo ?_|exact zi|fail)
    · rw [hN1 j hj hbad]
      repeat' (first|refine zw ?_|refine zn (fun hb=>?_) (fun hb=>?_)|refine zx ?_|refine zo ?_|exact zi|fail)
end Go.Proofs.YtkjonfojileipaaGreatDoor.Gq
