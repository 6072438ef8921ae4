/- What is said of an expression, for the program, class by class (MADE BY PROGRAM: mkpe.py). -/
import Derived.Test.YtkjonfojileipaaGreatDoorV9
set_option linter.unusedSimpArgs false
set_option linter.unusedVariables false
namespace Go.Proofs.YtkjonfojileipaaGreatDoor.Gq
open Go Go.Proofs Go.Proofs.YtkjonfojileipaaGreatDoor.Ae
attribute [local congr] obind_congr
attribute [local push_cast] exF argsV frzs frz frzL frz1 exS_reg exS_seq exS_cond exS_alt exS_block exS_loop exS_exit exS_ret exS_skip evReg evOps evOne evAct evOp rd putV st0 evEnd resV resL resOne oneOr frzR loadV storeV binV binI unV push_frm pop_frm frm_len frm_top frm_get_top frm_set_top frm_new AV.cells AV.lowB AV.lowL AV.isCell cellsOk set_len Option.bind_some Option.map_some Option.map_none List.getD_cons_zero List.getD_cons_succ List.nil_append List.cons_append List.append_nil List.length_cons List.length_nil List.set_cons_zero List.set_cons_succ List.map_cons List.map_nil List.replicate if_true if_false ite_true ite_false ite_self Bool.false_eq_true List.all_cons List.all_nil Bool.and_true Bool.true_and Bool.and_self Bool.and_eq_true List.getElem?_cons_zero List.getElem?_cons_succ List.drop_succ_cons List.drop_zero List.take_succ_cons List.take_zero true_and and_true and_self decide_true decide_false Bool.not_true Bool.not_false Prod.mk.injEq Option.some.injEq List.getElem?_drop optInt elems sliceV partsOf Nat.add_zero Nat.zero_add Nat.mul_one beq_self_eq_true litParts Bool.or_false Bool.false_or Bool.or_true Bool.true_or Bool.false_and Bool.and_false List.cons.injEq not_false_eq_true not_true_eq_false Nat.zero_le Nat.le_refl gt_iff_lt ge_iff_le List.drop_nil List.take_nil newBox List.length_append List.length_map bne_self_eq_false eq_self Nat.lt_add_one ne_eq false_implies Int.le_refl
theorem slPos1 {D n : Nat} {T : List Ae.Obj} {v : AV} {cs : List AV} (h : SlAt D T 9 1 v n cs) (hn : 0 < n) : ∃ k off ver all, v = .slr D k off n ver false ∧ T[k]? = some (.arr 9 1 all ver 0) ∧ SlAt D T 9 1 (.slr D k off n ver false) n cs ∧ ∀ j, j < n → all[off + j]? = cs[j]? := by
  obtain ⟨k,off,ver,all,rfl,h1,h2,h3⟩:=h.pos hn
  refine ⟨k,off,ver,all,rfl,h1,h,fun j hj=>?_⟩
  rw [← h2,List.getElem?_take_of_lt (by omega),List.getElem?_drop]
theorem sayEnd {s : Store} {T : List Ae.Obj} {u v : AV} {n m : Nat} {a b : List (List Int)} (hu : SlAt (s.low.length + 1) T 9 1 u n (a.map stv)) (hv : SlAt (s.low.length + 1) T 9 1 v m (b.map stv)) (hn : n + m ≤ 1000000000) (hl : (brk (a ++ b)).length ≤ 1000000000) :
    ∃ v' S', appV (frm s T) 9 1 16 u v = some (v', S') ∧ ∃ T', S' = frm s T' ∧ ∃ v3 S3, callF (tab tbl) prim 78 [v'] (frm s T') = some (v3, S3) ∧ v3 = .str (bst (brk (a ++ b))) ∧ ∃ T3, S3 = frm s T3 := by
  obtain ⟨v',S',e,T',rfl,hS,_,_⟩:=appS hu hv (by omega)
  have hln:=hS.1
  rw [List.length_map] at hln
  obtain ⟨v3,S3,e3,h3,T3,h4,_⟩:=brkCall hS (by omega) hl
  exact ⟨_,_,e,T',rfl,v3,S3,e3,h3,T3,h4⟩
theorem op_at {j : Nat} (h : j ≤ 6) : ([stv (opw 0), stv (opw 1), stv (opw 2), stv (opw 3), stv (opw 4), stv (opw 5), stv (opw 6)] : List AV)[j]? = some (.str (bst (opw j))) := by
  have:j = 0 ∨ j = 1 ∨ j = 2 ∨ j = 3 ∨ j = 4 ∨ j = 5 ∨ j = 6:=by omega
  rcases this with rfl | rfl | rfl | rfl | rfl | rfl | rfl <;> rfl
theorem cl_at {j : Nat} (h : j ≤ 4) : ([stv (clw 0), stv (clw 1), stv (clw 2), stv (clw 3), stv (clw 4)] : List AV)[j]? = some (.str (bst (clw j))) := by
  have:j = 0 ∨ j = 1 ∨ j = 2 ∨ j = 3 ∨ j = 4:=by omega
  rcases this with rfl | rfl | rfl | rfl | rfl <;> rfl
section
variable {k n : Int} {name arg lit : List Int} {kids : List Xp} {arms : List Arm} {s : Store} {p : AV}
set_option maxHeartbeats 8000000 in
theorem say_H (hc : k = 8 ∨ k = 9 ∨ k = 10 ∨ k = 11 ∨ k = 12 ∨ k = 13 ∨ k = 14 ∨ k = 17) (hp : PtrAt s p (zcs k n name arg lit kids arms)) (hkl : kids.length ≤ 100000000) (ih : ∀ x ∈ kids, sayC x) (hK : 0 < kids.length) (hl : (brk (kw k :: kids.map xsay)).length ≤ 1000000000) :
    callF (tab tbl) prim 80 [p] s = some (.str (bst (brk (kw k :: kids.map xsay))), s) := by
  have hkw:=fun s=>implKindWord k s
  simp only [stvE] at hkw
  have tn:=toB8 name
  have ln:=by8_len name
  have ta:=toB8 arg
  have la:=by8_len arg
  refine funY rfl (argsF rfl (frzs_cons (hp.frz s) frzs_nil)) zt ?_
  repeat' (first|refine zw ?_|refine zn (fun hb=>?_) (fun hb=>?_)|refine zx ?_|refine zp hp ?_|refine zo ?_|exact zi|fail)
  refine Wp.mono (sayKids hp (by omega) ih _ _ _ _ _ _ _ _ _ _ _ _ _ _ _ _ _ _ _ _ _ _ _ _ ) ?_
  rintro e st ⟨rfl, v2, y3, y12, y13, T, hS, rfl⟩
  obtain ⟨kk,off,ver,all,rfl,hTk,hS,hat⟩:=slPos1 hS (by omega)
  have hne:∀ w:AV,idx (AV.slr (s.low.length + 1) kk off kids.length ver false) ≠ some T.length:=fun _ h=>by have:=slIdx hS _ h; omega
  have hF:=sayEnd (a:=[kw k]) (u:=.slr (s.low.length + 1) T.length 0 1 0 false) (slAt_one (app_at T (.arr 9 1 [stv (kw k)] 0 0))) (hS.snoc _) (by omega) hl
  simp only [stvE] at hF
  repeat' (first|refine zw ?_|refine zn (fun hb=>?_) (fun hb=>?_)|refine zx ?_|refine zp hp ?_|(refine zka (hF) ?_; rintro _ _ ⟨T', rfl, hcall⟩)|(refine zk (hcall) ?_; rintro _ _ ⟨rfl, T3, rfl⟩)|refine zof @hkw ?_|exact zi|fail)
set_option maxHeartbeats 8000000 in
theorem say_F (hc : k = 5) (hp : PtrAt s p (zcs k n name arg lit kids arms)) (hkl : kids.length ≤ 100000000) (ih : ∀ x ∈ kids, sayC x) (hK : 0 < kids.length) (hl : (brk (kids.map xsay)).length ≤ 1000000000) :
    callF (tab tbl) prim 80 [p] s = some (.str (bst (brk (kids.map xsay))), s) := by
  have hkw:=fun s=>implKindWord k s
  simp only [stvE] at hkw
  have tn:=toB8 name
  have ln:=by8_len name
  have ta:=toB8 arg
  have la:=by8_len arg
  refine funY rfl (argsF rfl (frzs_cons (hp.frz s) frzs_nil)) zt ?_
  repeat' (first|refine zw ?_|refine zn (fun hb=>?_) (fun hb=>?_)|refine zx ?_|refine zp hp ?_|refine zo ?_|exact zi|fail)
  refine Wp.mono (sayKids hp (by omega) ih _ _ _ _ _ _ _ _ _ _ _ _ _ _ _ _ _ _ _ _ _ _ _ _ ) ?_
  rintro e st ⟨rfl, v2, y3, y12, y13, T, hS, rfl⟩
  obtain ⟨kk,off,ver,all,rfl,hTk,hS,hat⟩:=slPos1 hS (by omega)
  have hne:∀ w:AV,idx (AV.slr (s.low.length + 1) kk off kids.length ver false) ≠ some T.length:=fun _ h=>by have:=slIdx hS _ h; omega
  have hF:=sayEnd (a:=[]) (u:=.imm true 0 []) (SlAt.nil _ (T ++ [.arr 9 1 [stv (kw k)] 0 0]) 9 1) (hS.snoc _) (by omega) hl
  simp only [stvE] at hF
  repeat' (first|refine zw ?_|refine zn (fun hb=>?_) (fun hb=>?_)|refine zx ?_|refine zp hp ?_|(refine zka (hF) ?_; rintro _ _ ⟨T', rfl, hcall⟩)|(refine zk (hcall) ?_; rintro _ _ ⟨rfl, T3, rfl⟩)|refine zof @hkw ?_|exact zi|fail)
set_option maxHeartbeats 8000000 in
theorem say_A4 (hc : k = 4) (hp : PtrAt s p (zcs k n name arg lit kids arms)) (hkl : kids.length ≤ 100000000) (ih : ∀ x ∈ kids, sayC x) (hK : 0 < kids.length) (hl : (brk (kw k :: [name] ++ kids.map xsay)).length ≤ 1000000000) :
    callF (tab tbl) prim 80 [p] s = some (.str (bst (brk (kw k :: [name] ++ kids.map xsay))), s) := by
  have hkw:=fun s=>implKindWord k s
  simp only [stvE] at hkw
  have tn:=toB8 name
  have ln:=by8_len name
  have ta:=toB8 arg
  have la:=by8_len arg
  refine funY rfl (argsF rfl (frzs_cons (hp.frz s) frzs_nil)) zt ?_
  repeat' (first|refine zw ?_|refine zn (fun hb=>?_) (fun hb=>?_)|refine zx ?_|refine zp hp ?_|refine zo ?_|exact zi|fail)
  refine Wp.mono (sayKids hp (by omega) ih _ _ _ _ _ _ _ _ _ _ _ _ _ _ _ _ _ _ _ _ _ _ _ _ ) ?_
  rintro e st ⟨rfl, v2, y3, y12, y13, T, hS, rfl⟩
  obtain ⟨kk,off,ver,all,rfl,hTk,hS,hat⟩:=slPos1 hS (by omega)
  have hne:∀ w:AV,idx (AV.slr (s.low.length + 1) kk off kids.length ver false) ≠ some T.length:=fun _ h=>by have:=slIdx hS _ h; omega
  have hA:=slAt_app (s:=s) (e:=9) (bytes:=16) (y:=.imm true 1 [stv name]) (ys:=[stv name]) (m:=1) (slAt_one (app_at T (.arr 9 1 [stv (kw k)] 0 0))) rfl (by omega) rfl rfl rfl (by omega)
  simp only [stvE] at hA
  repeat' (first|refine zw ?_|refine zn (fun hb=>?_) (fun hb=>?_)|refine zx ?_|refine zp hp ?_|(refine zka (hA) ?_; rintro _ _ ⟨T2, rfl, hS2, hO2, hC2⟩)|refine zof (zA @hkw (zA @tn (zA @ln (zA @ta (@la))))) ?_|exact zi|fail)
  have hF:=sayEnd (a:=kw k :: [name]) hS2 (slChg (hS.snoc _) hC2 fun j hj h=>hne .nilp (by rw [hj]; exact h.symm)) (by omega) hl
  try simp only [stvE] at hF
  repeat' (first|refine zw ?_|refine zn (fun hb=>?_) (fun hb=>?_)|refine zx ?_|refine zp hp ?_|(refine zka (hF) ?_; rintro _ _ ⟨T', rfl, hcall⟩)|(refine zk (hcall) ?_; rintro _ _ ⟨rfl, T3, rfl⟩)|refine zof @hkw ?_|exact zi|fail)
set_option maxHeartbeats 8000000 in
theorem say_A6 (hc : k = 6) (hp : PtrAt s p (zcs k n name arg lit kids arms)) (hkl : kids.length ≤ 100000000) (ih : ∀ x ∈ kids, sayC x) (hK : 0 < kids.length) (hl : (brk (kw k :: [name] ++ kids.map xsay)).length ≤ 1000000000) :
    callF (tab tbl) prim 80 [p] s = some (.str (bst (brk (kw k :: [name] ++ kids.map xsay))), s) := by
  have hkw:=fun s=>implKindWord k s
  simp only [stvE] at hkw
  have tn:=toB8 name
  have ln:=by8_len name
  have ta:=toB8 arg
  have la:=by8_len arg
  refine funY rfl (argsF rfl (frzs_cons (hp.frz s) frzs_nil)) zt ?_
  repeat' (first|refine zw ?_|refine zn (fun hb=>?_) (fun hb=>?_)|refine zx ?_|refine zp hp ?_|refine zo ?_|exact zi|fail)
  refine Wp.mono (sayKids hp (by omega) ih _ _ _ _ _ _ _ _ _ _ _ _ _ _ _ _ _ _ _ _ _ _ _ _ ) ?_
  rintro e st ⟨rfl, v2, y3, y12, y13, T, hS, rfl⟩
  obtain ⟨kk,off,ver,all,rfl,hTk,hS,hat⟩:=slPos1 hS (by omega)
  have hne:∀ w:AV,idx (AV.slr (s.low.length + 1) kk off kids.length ver false) ≠ some T.length:=fun _ h=>by have:=slIdx hS _ h; omega
  have hA:=slAt_app (s:=s) (e:=9) (bytes:=16) (y:=.imm true 1 [stv name]) (ys:=[stv name]) (m:=1) (slAt_one (app_at T (.arr 9 1 [stv (kw k)] 0 0))) rfl (by omega) rfl rfl rfl (by omega)
  simp only [stvE] at hA
  repeat' (first|refine zw ?_|refine zn (fun hb=>?_) (fun hb=>?_)|refine zx ?_|refine zp hp ?_|(refine zka (hA) ?_; rintro _ _ ⟨T2, rfl, hS2, hO2, hC2⟩)|refine zof (zA @hkw (zA @tn (zA @ln (zA @ta (@la))))) ?_|exact zi|fail)
  have hF:=sayEnd (a:=kw k :: [name]) hS2 (slChg (hS.snoc _) hC2 fun j hj h=>hne .nilp (by rw [hj]; exact h.symm)) (by omega) hl
  try simp only [stvE] at hF
  repeat' (first|refine zw ?_|refine zn (fun hb=>?_) (fun hb=>?_)|refine zx ?_|refine zp hp ?_|(refine zka (hF) ?_; rintro _ _ ⟨T', rfl, hcall⟩)|(refine zk (hcall) ?_; rintro _ _ ⟨rfl, T3, rfl⟩)|refine zof @hkw ?_|exact zi|fail)
set_option maxHeartbeats 8000000 in
theorem say_B (hc : k = 7) (hp : PtrAt s p (zcs k n name arg lit kids arms)) (hkl : kids.length ≤ 100000000) (ih : ∀ x ∈ kids, sayC x) (hK : 0 < kids.length) (hl : (brk (kw k :: [name, arg] ++ kids.map xsay)).length ≤ 1000000000) :
    callF (tab tbl) prim 80 [p] s = some (.str (bst (brk (kw k :: [name, arg] ++ kids.map xsay))), s) := by
  have hkw:=fun s=>implKindWord k s
  simp only [stvE] at hkw
  have tn:=toB8 name
  have ln:=by8_len name
  have ta:=toB8 arg
  have la:=by8_len arg
  refine funY rfl (argsF rfl (frzs_cons (hp.frz s) frzs_nil)) zt ?_
  repeat' (first|refine zw ?_|refine zn (fun hb=>?_) (fun hb=>?_)|refine zx ?_|refine zp hp ?_|refine zo ?_|exact zi|fail)
  refine Wp.mono (sayKids hp (by omega) ih _ _ _ _ _ _ _ _ _ _ _ _ _ _ _ _ _ _ _ _ _ _ _ _ ) ?_
  rintro e st ⟨rfl, v2, y3, y12, y13, T, hS, rfl⟩
  obtain ⟨kk,off,ver,all,rfl,hTk,hS,hat⟩:=slPos1 hS (by omega)
  have hne:∀ w:AV,idx (AV.slr (s.low.length + 1) kk off kids.length ver false) ≠ some T.length:=fun _ h=>by have:=slIdx hS _ h; omega
  have hA:=slAt_app (s:=s) (e:=9) (bytes:=16) (y:=.imm true 2 [stv name,stv arg]) (ys:=[stv name,stv arg]) (m:=2) (slAt_one (app_at T (.arr 9 1 [stv (kw k)] 0 0))) rfl (by omega) rfl rfl rfl (by omega)
  simp only [stvE] at hA
  repeat' (first|refine zw ?_|refine zn (fun hb=>?_) (fun hb=>?_)|refine zx ?_|refine zp hp ?_|(refine zka (hA) ?_; rintro _ _ ⟨T2, rfl, hS2, hO2, hC2⟩)|refine zof (zA @hkw (zA @tn (zA @ln (zA @ta (@la))))) ?_|exact zi|fail)
  have hF:=sayEnd (a:=kw k :: [name,arg]) hS2 (slChg (hS.snoc _) hC2 fun j hj h=>hne .nilp (by rw [hj]; exact h.symm)) (by omega) hl
  try simp only [stvE] at hF
  repeat' (first|refine zw ?_|refine zn (fun hb=>?_) (fun hb=>?_)|refine zx ?_|refine zp hp ?_|(refine zka (hF) ?_; rintro _ _ ⟨T', rfl, hcall⟩)|(refine zk (hcall) ?_; rintro _ _ ⟨rfl, T3, rfl⟩)|refine zof @hkw ?_|exact zi|fail)
set_option maxHeartbeats 8000000 in
theorem say_O (hc : k = 19) (hp : PtrAt s p (zcs k n name arg lit kids arms)) (hkl : kids.length ≤ 100000000) (ih : ∀ x ∈ kids, sayC x) (hK : 0 < kids.length) (hn : 0 ≤ n ∧ n ≤ 6) (hl : (brk (opw n :: kids.map xsay)).length ≤ 1000000000) :
    callF (tab tbl) prim 80 [p] s = some (.str (bst (brk (opw n :: kids.map xsay))), s) := by
  have hkw:=fun s=>implKindWord k s
  simp only [stvE] at hkw
  have tn:=toB8 name
  have ln:=by8_len name
  have ta:=toB8 arg
  have la:=by8_len arg
  refine funY rfl (argsF rfl (frzs_cons (hp.frz s) frzs_nil)) zt ?_
  repeat' (first|refine zw ?_|refine zn (fun hb=>?_) (fun hb=>?_)|refine zx ?_|refine zp hp ?_|refine zo ?_|exact zi|fail)
  refine Wp.mono (sayKids hp (by omega) ih _ _ _ _ _ _ _ _ _ _ _ _ _ _ _ _ _ _ _ _ _ _ _ _ ) ?_
  rintro e st ⟨rfl, v2, y3, y12, y13, T, hS, rfl⟩
  obtain ⟨kk,off,ver,all,rfl,hTk,hS,hat⟩:=slPos1 hS (by omega)
  have hne:∀ w:AV,idx (AV.slr (s.low.length + 1) kk off kids.length ver false) ≠ some T.length:=fun _ h=>by have:=slIdx hS _ h; omega
  have hF:=sayEnd (a:=[opw n]) (u:=.slr (s.low.length + 1) T.length 0 1 0 false) (slAt_one (app_at T (.arr 9 1 [stv (opw n)] 0 0))) (hS.snoc _) (by omega) hl
  simp only [stvE] at hF
  obtain ⟨j,rfl⟩:∃ j:Nat,n = j:=⟨n.toNat,by omega⟩
  have hw:=op_at (j:=j) (by omega)
  have ho:=fun s=>implOpWords s
  have hld:=hp.load (j:=1) (c:=AV.int .i64 (j:Int)) rfl
  simp only [loadV] at hld
  repeat' (first|refine zw ?_|refine zn (fun hb=>?_) (fun hb=>?_)|refine zx ?_|refine zp hp ?_|(refine zka (hF) ?_; rintro _ _ ⟨T', rfl, hcall⟩)|(refine zk (hcall) ?_; rintro _ _ ⟨rfl, T3, rfl⟩)|refine zof (zA @hkw (zA @hw (zA @ho (@hld)))) ?_|exact zi|fail)
set_option maxHeartbeats 8000000 in
theorem say_G (hc : k = 20) (hp : PtrAt s p (zcs k n name arg lit kids arms)) (hkl : kids.length ≤ 100000000) (ih : ∀ x ∈ kids, sayC x) (hK : 0 < kids.length) (hn : 0 ≤ n ∧ n ≤ 4) (hl : (brk (clw n :: kids.map xsay)).length ≤ 1000000000) :
    callF (tab tbl) prim 80 [p] s = some (.str (bst (brk (clw n :: kids.map xsay))), s) := by
  have hkw:=fun s=>implKindWord k s
  simp only [stvE] at hkw
  have tn:=toB8 name
  have ln:=by8_len name
  have ta:=toB8 arg
  have la:=by8_len arg
  refine funY rfl (argsF rfl (frzs_cons (hp.frz s) frzs_nil)) zt ?_
  repeat' (first|refine zw ?_|refine zn (fun hb=>?_) (fun hb=>?_)|refine zx ?_|refine zp hp ?_|refine zo ?_|exact zi|fail)
  refine Wp.mono (sayKids hp (by omega) ih _ _ _ _ _ _ _ _ _ _ _ _ _ _ _ _ _ _ _ _ _ _ _ _ ) ?_
  rintro e st ⟨rfl, v2, y3, y12, y13, T, hS, rfl⟩
  obtain ⟨kk,off,ver,all,rfl,hTk,hS,hat⟩:=slPos1 hS (by omega)
  have hne:∀ w:AV,idx (AV.slr (s.low.length + 1) kk off kids.length ver false) ≠ some T.length:=fun _ h=>by have:=slIdx hS _ h; omega
  have hF:=sayEnd (a:=[clw n]) (u:=.slr (s.low.length + 1) T.length 0 1 0 false) (slAt_one (app_at T (.arr 9 1 [stv (clw n)] 0 0))) (hS.snoc _) (by omega) hl
  simp only [stvE] at hF
  obtain ⟨j,rfl⟩:∃ j:Nat,n = j:=⟨n.toNat,by omega⟩
  have hw:=cl_at (j:=j) (by omega)
  have ho:=fun s=>implCallWords s
  have hld:=hp.load (j:=1) (c:=AV.int .i64 (j:Int)) rfl
  simp only [loadV] at hld
  repeat' (first|refine zw ?_|refine zn (fun hb=>?_) (fun hb=>?_)|refine zx ?_|refine zp hp ?_|(refine zka (hF) ?_; rintro _ _ ⟨T', rfl, hcall⟩)|(refine zk (hcall) ?_; rintro _ _ ⟨rfl, T3, rfl⟩)|refine zof (zA @hkw (zA @hw (zA @ho (@hld)))) ?_|exact zi|fail)
set_option maxHeartbeats 8000000 in
theorem say_C (hc : k = 15) (hp : PtrAt s p (zcs k n name arg lit kids arms)) (hkl : kids.length ≤ 100000000) (ih : ∀ x ∈ kids, sayC x) (hK : 0 < kids.length) (hl : (brk (name :: kids.map xsay)).length ≤ 1000000000) :
    callF (tab tbl) prim 80 [p] s = some (.str (bst (brk (name :: kids.map xsay))), s) := by
  have hkw:=fun s=>implKindWord k s
  simp only [stvE] at hkw
  have tn:=toB8 name
  have ln:=by8_len name
  have ta:=toB8 arg
  have la:=by8_len arg
  refine funY rfl (argsF rfl (frzs_cons (hp.frz s) frzs_nil)) zt ?_
  repeat' (first|refine zw ?_|refine zn (fun hb=>?_) (fun hb=>?_)|refine zx ?_|refine zp hp ?_|refine zo ?_|exact zi|fail)
  refine Wp.mono (sayKids hp (by omega) ih _ _ _ _ _ _ _ _ _ _ _ _ _ _ _ _ _ _ _ _ _ _ _ _ ) ?_
  rintro e st ⟨rfl, v2, y3, y12, y13, T, hS, rfl⟩
  obtain ⟨kk,off,ver,all,rfl,hTk,hS,hat⟩:=slPos1 hS (by omega)
  have hne:∀ w:AV,idx (AV.slr (s.low.length + 1) kk off kids.length ver false) ≠ some T.length:=fun _ h=>by have:=slIdx hS _ h; omega
  have hF:=sayEnd (a:=[name]) (u:=.slr (s.low.length + 1) T.length 0 1 0 false) (slAt_one (app_at T (.arr 9 1 [stv name] 0 0))) (hS.snoc _) (by omega) hl
  simp only [stvE] at hF
  repeat' (first|refine zw ?_|refine zn (fun hb=>?_) (fun hb=>?_)|refine zx ?_|refine zp hp ?_|(refine zka (hF) ?_; rintro _ _ ⟨T', rfl, hcall⟩)|(refine zk (hcall) ?_; rintro _ _ ⟨rfl, T3, rfl⟩)|refine zof (zA @hkw (zA @tn (@ln))) ?_|exact zi|fail)
set_option maxHeartbeats 8000000 in
theorem say_T (hc : k = 18) (hp : PtrAt s p (zcs k n name arg lit kids arms)) (hkl : kids.length ≤ 100000000) (ih : ∀ x ∈ kids, sayC x) (hK : kids.length = 2) (hl : (brk (kw k :: tryL name (kids.map xsay))).length ≤ 1000000000) :
    callF (tab tbl) prim 80 [p] s = some (.str (bst (brk (kw k :: tryL name (kids.map xsay)))), s) := by
  have hkw:=fun s=>implKindWord k s
  simp only [stvE] at hkw
  have tn:=toB8 name
  have ln:=by8_len name
  have ta:=toB8 arg
  have la:=by8_len arg
  refine funY rfl (argsF rfl (frzs_cons (hp.frz s) frzs_nil)) zt ?_
  repeat' (first|refine zw ?_|refine zn (fun hb=>?_) (fun hb=>?_)|refine zx ?_|refine zp hp ?_|refine zo ?_|exact zi|fail)
  refine Wp.mono (sayKids hp (by omega) ih _ _ _ _ _ _ _ _ _ _ _ _ _ _ _ _ _ _ _ _ _ _ _ _ ) ?_
  rintro e st ⟨rfl, v2, y3, y12, y13, T, hS, rfl⟩
  obtain ⟨kk,off,ver,all,rfl,hTk,hS,hat⟩:=slPos1 hS (by omega)
  have hne:∀ w:AV,idx (AV.slr (s.low.length + 1) kk off kids.length ver false) ≠ some T.length:=fun _ h=>by have:=slIdx hS _ h; omega
  match kids, hK with
  | [a, b], _ =>
  simp only [List.map_cons,List.map_nil,tryL] at hl hat ⊢
  have hB:=fun S=>implBracketed (ps:=[kw k,xsay a,name,xsay b]) (by simp) hl true S
  have h0:=hat 0 (by simp)
  have h1:=hat 1 (by simp)
  simp only [List.length_cons,List.length_nil,List.map_cons,List.map_nil,List.getElem?_cons_zero,List.getElem?_cons_succ,Nat.add_zero,stvE,Nat.zero_add,Nat.reduceAdd] at h0 h1 hB
  have hTk2:=fun o=>pt_at (o:=o) hTk
  repeat' (first|refine zw ?_|refine zn (fun hb=>?_) (fun hb=>?_)|refine zx ?_|refine zp hp ?_|refine zof (zA @hkw (zA @tn (zA @ln (zA @hTk2 (zA @h0 (zA @h1 (@hB))))))) ?_|exact zi|fail)
set_option maxHeartbeats 8000000 in
theorem say_E (hc : k = 16) (hp : PtrAt s p (zcs k n name arg lit kids arms)) (hkl : kids.length ≤ 100000000) (ih : ∀ x ∈ kids, sayC x) (hK : 0 < kids.length) (hal : arms.length ≤ 100000000) (iha : ∀ x ∈ arms, armC x) (hl : (brk (kw k :: (kids.map xsay ++ arms.map asay))).length ≤ 1000000000) :
    callF (tab tbl) prim 80 [p] s = some (.str (bst (brk (kw k :: (kids.map xsay ++ arms.map asay)))), s) := by
  have hkw:=fun s=>implKindWord k s
  simp only [stvE] at hkw
  have tn:=toB8 name
  have ln:=by8_len name
  have ta:=toB8 arg
  have la:=by8_len arg
  refine funY rfl (argsF rfl (frzs_cons (hp.frz s) frzs_nil)) zt ?_
  repeat' (first|refine zw ?_|refine zn (fun hb=>?_) (fun hb=>?_)|refine zx ?_|refine zp hp ?_|refine zo ?_|exact zi|fail)
  refine Wp.mono (sayKids hp (by omega) ih _ _ _ _ _ _ _ _ _ _ _ _ _ _ _ _ _ _ _ _ _ _ _ _ ) ?_
  rintro e st ⟨rfl, v2, y3, y12, y13, T, hS, rfl⟩
  obtain ⟨kk,off,ver,all,rfl,hTk,hS,hat⟩:=slPos1 hS (by omega)
  have hne:∀ w:AV,idx (AV.slr (s.low.length + 1) kk off kids.length ver false) ≠ some T.length:=fun _ h=>by have:=slIdx hS _ h; omega
  repeat' (first|refine zw ?_|refine zn (fun hb=>?_) (fun hb=>?_)|refine zx ?_|refine zp hp ?_|refine zof @hkw ?_|exact zi|fail)
  refine Wp.mono (sayArms (ks:=kids.map xsay) (by omega) (by omega) iha (hS.snoc _) _ _ _ _ _ _ _ _ _ _ _ _ _ _ _ _ _ _ _ _ _ _ _  T.length (app_at T (.arr 9 1 [stv (kw k)] 0 0)) (hne .nilp)) ?_
  rintro e st ⟨rfl, v2, y5, y25, y26, T5, hS5, hj5, hv5, rfl⟩
  obtain ⟨kk5,off5,ver5,all5,rfl,hTk5,hS5,hat5⟩:=slPos1 hS5 (by omega)
  have hF:=sayEnd (a:=[kw k]) (u:=.slr (s.low.length + 1) T.length 0 1 0 false) (slAt_one hj5) hS5 (by omega) hl
  try simp only [stvE] at hF
  repeat' (first|refine zw ?_|refine zn (fun hb=>?_) (fun hb=>?_)|refine zx ?_|refine zp hp ?_|(refine zka (hF) ?_; rintro _ _ ⟨T', rfl, hcall⟩)|(refine zk (hcall) ?_; rintro _ _ ⟨rfl, T3, rfl⟩)|refine zo ?_|exact zi|fail)
end
end Go.Proofs.YtkjonfojileipaaGreatDoor.Gq
