/- Names that are bound, for the reference. Names that are bound, for the reference: arms, expressions. -/
import Derived.Test.YtkjonfojileipaaGreatDoorV9
import Derived.Test.YtkjonfojileipaaGreatDoorV22
set_option linter.unusedSimpArgs false
set_option linter.unusedVariables false
namespace Go.Proofs.YtkjonfojileipaaGreatDoor.Gq
open Go Go.Proofs Go.Proofs.YtkjonfojileipaaGreatDoor.Ae
attribute [local congr] obind_congr
attribute [local push_cast] exF argsV frzs frz frzL frz1 exS_reg exS_seq exS_cond exS_alt exS_block exS_loop exS_exit exS_ret exS_skip evReg evOps evOne evAct evOp rd putV st0 evEnd resV resL resOne oneOr frzR loadV storeV binV binI unV push_frm pop_frm frm_len frm_top frm_get_top frm_set_top frm_new AV.cells AV.lowB AV.lowL AV.isCell cellsOk set_len Option.bind_some Option.map_some Option.map_none List.getD_cons_zero List.getD_cons_succ List.nil_append List.cons_append List.append_nil List.length_cons List.length_nil List.set_cons_zero List.set_cons_succ List.map_cons List.map_nil List.replicate if_true if_false ite_true ite_false ite_self Bool.false_eq_true List.all_cons List.all_nil Bool.and_true Bool.true_and Bool.and_self Bool.and_eq_true List.getElem?_cons_zero List.getElem?_cons_succ List.drop_succ_cons List.drop_zero List.take_succ_cons List.take_zero true_and and_true and_self decide_true decide_false Bool.not_true Bool.not_false Prod.mk.injEq Option.some.injEq List.getElem?_drop optInt elems sliceV partsOf Nat.add_zero Nat.zero_add Nat.mul_one beq_self_eq_true litParts Bool.or_false Bool.false_or Bool.or_true Bool.true_or Bool.false_and Bool.and_false List.cons.injEq not_false_eq_true not_true_eq_false Nat.zero_le Nat.le_refl gt_iff_lt ge_iff_le List.drop_nil List.take_nil newBox List.length_append List.length_map bne_self_eq_false eq_self Nat.lt_add_one ne_eq false_implies Int.le_refl
theorem bsl_ok (l : List (List Int)) : cellsOk 0 (l.map bsl) = true := cellsOk_map (fun x => ⟨rfl, rfl⟩) l
theorem bsl_low (l : List (List Int)) : AV.lowL 0 (l.map bsl) = true := lowL_ok (bsl_ok l)
def snC (ds : List Dt) (d : Nat) (e : Xp) : Prop := ∀ (s : Store) (f : Bool) (seen : List (List Int)), (∀ v ∈ seen, okB v) → seen.length ≤ 3 * d →
  callF (tab tbl) prim 38 [.imm false ds.length (ds.flatMap Dt.az), .agg e.az, .imm f seen.length (seen.map bsl)] s = some (.bool (decide (scP ds seen e)), s)
theorem az_frz (e : Xp) (s : Store) : Ae.frz s (.agg e.az) = some (.agg e.az, s) := by
  obtain ⟨k,n,name,arg,lit,kids,arms⟩:=e
  rw [az_zcs]
  rfl
theorem snCall {ds : List Dt} {d : Nat} {e : Xp} (ih : snC ds d e) {s : Store} {T : List Ae.Obj} {v : AV} {n : Nat} {seen : List (List Int)} (hS : SlAt (s.low.length + 1) T 23 1 v n (seen.map bsl)) (hso : ∀ v ∈ seen, okB v) (hsl : seen.length ≤ 3 * d) :
    ∃ v3 S3, callF (tab tbl) prim 38 [.imm false ds.length (ds.flatMap Dt.az), .agg e.az, v] (frm s T) = some (v3, S3) ∧ v3 = .bool (decide (scP ds seen e)) ∧ ∃ T3, S3 = frm s T3 ∧ Oth 23 T T3 := by
  obtain ⟨T',h1,h2⟩:=slAt_frz (s:=s) hS rfl (bsl_low seen)
  have h3:n = seen.length:=by have:=hS.1; rw [List.length_map] at this; omega
  subst h3
  have h4:=frz_sl hS (frm s T)
  rw [h1] at h4
  have e1:frzs (frm s T) [.imm false ds.length (ds.flatMap Dt.az),.agg e.az,v] = some ([.imm false ds.length (ds.flatMap Dt.az),.agg e.az,.imm false seen.length (seen.map bsl)],frm s T'):=frzs_cons frz_imm (frzs_cons (az_frz e _) (frzs_cons h4 frzs_nil))
  have e2:frzs (frm s T') [.imm false ds.length (ds.flatMap Dt.az),.agg e.az,.imm false seen.length (seen.map bsl)] = some ([.imm false ds.length (ds.flatMap Dt.az),.agg e.az,.imm false seen.length (seen.map bsl)],frm s T'):=frzs_cons frz_imm (frzs_cons (az_frz e _) (frzs_cons frz_imm frzs_nil))
  exact ⟨_,_,callF_frz (fc:=c38) rfl rfl e1 e2 (ih (frm s T') false seen hso hsl),rfl,T',rfl,h2⟩
section
variable {ds : List Dt} {seen : List (List Int)} {name : List Int} {k n : Int} {arg lit : List Int} {kids : List Xp} {arms : List Arm} {s : Store} {d : Nat}
theorem snApp (m : List (List Int)) {y : AV} (hy : ∀ S, srcOf S y = some (m.length, m.map bsl)) (hml : m.length ≤ 1000) {T : List Ae.Obj} {v : AV} {q : Nat} {l : List (List Int)} {t : Nat} {cs : List AV} {j : Nat} (ho : T[j]? = some (.box t cs)) (h : SlAt (s.low.length + 1) T 23 1 v q (l.map bsl)) (hq : q ≤ 1000000) :
    ∃ v' S', appV (frm s T) 23 1 24 v y = some (v', S') ∧ ∃ T', S' = frm s T' ∧ SlAt (s.low.length + 1) T' 23 1 v' (q + m.length) ((l ++ m).map bsl) ∧ T'[j]? = some (.box t cs) := by
  obtain ⟨v',S',e,T',rfl,h1,h2,_⟩:=slAt_app (s:=s) (bytes:=24) (y:=y) (ys:=m.map bsl) (m:=m.length) h rfl (by omega) (hy _) (bsl_ok m) (by simp) (by omega)
  rw [← List.map_append] at h1
  exact ⟨v',_,e,T',rfl,h1,h2.box ho⟩
set_option maxHeartbeats 8000000 in
theorem snVar (hnm : okB name) (hso : ∀ v ∈ seen, okB v) (hsl : seen.length ≤ 1000000) {T : List Ae.Obj} (h0 : T[0]? = some (.box 36 (zcs k n name arg lit kids arms))) (y6 y7 y8 y9 y10 y11 y12 y13 y14 y15 y16 y17 y18 y19 y20 y21 y22 y23 y24 y25 y26 y27 y28 y29 y30 : AV) :
    Wp (exS (callF (tab tbl) prim) (.loop (loopAt c38 0)) ⟨[.imm false ds.length (ds.flatMap Dt.az), .agg (zcs k n name arg lit kids arms), .imm false seen.length (seen.map bsl), .ptr (s.low.length + 1) 0 0, .bool false, .int .i64 0, y6, y7, y8, y9, y10, y11, y12, y13, y14, y15, y16, y17, y18, y19, y20, y21, y22, y23, y24, y25, y26, y27, y28, y29, y30], frm s T⟩)
      (fun e st => (e = .exit 0 ∧ ¬ name ∈ seen ∧ ∃ y5 y6 y7 y8 y9 y10 y11 y12 y13 y14 y15 y16 y17 y18 y19 y20 y21 y22 y23 y24 y25 y26 y27 y28 y29 y30 T, st = ⟨[.imm false ds.length (ds.flatMap Dt.az), .agg (zcs k n name arg lit kids arms), .imm false seen.length (seen.map bsl), .ptr (s.low.length + 1) 0 0, .bool false, y5, y6, y7, y8, y9, y10, y11, y12, y13, y14, y15, y16, y17, y18, y19, y20, y21, y22, y23, y24, y25, y26, y27, y28, y29, y30], frm s T⟩) ∨ (e = .ret ∧ name ∈ seen ∧ ∃ y5 y6 y7 y8 y9 y10 y11 y12 y13 y14 y15 y16 y17 y18 y19 y20 y21 y22 y23 y24 y25 y26 y27 y28 y29 y30 T, st = ⟨[.imm false ds.length (ds.flatMap Dt.az), .agg (zcs k n name arg lit kids arms), .imm false seen.length (seen.map bsl), .ptr (s.low.length + 1) 0 0, .bool true, y5, y6, y7, y8, y9, y10, y11, y12, y13, y14, y15, y16, y17, y18, y19, y20, y21, y22, y23, y24, y25, y26, y27, y28, y29, y30], frm s T⟩)) := by
  have tn:=toB8 name
  have ln:=by8_len name
  simp only [loopAt,loops,c38,List.nil_append,List.append_nil,List.getD_cons_zero,List.cons_append]
  refine wLoop (fun m st=>∃ (q:Nat) (y15 y16:AV),(m:Int) = seen.length - q∧q ≤ seen.length∧(∀ x ∈ seen.take q,decide (x = name) = false)∧st = ⟨[.imm false ds.length (ds.flatMap Dt.az),.agg (zcs k n name arg lit kids arms),.imm false seen.length (seen.map bsl),.ptr (s.low.length + 1) 0 0,.bool false,.int .i64 q,y6,y7,y8,y9,y10,y11,y12,y13,y14,y15,y16,y17,y18,y19,y20,y21,y22,y23,y24,y25,y26,y27,y28,y29,y30],frm s T⟩) seen.length ?_ ?_
  · exact ⟨0, _, _, by omega, by omega, by simp, rfl⟩
  · rintro m st ⟨q, y15, y16, hm, hq, hno, rfl⟩
    by_cases hlt:q < seen.length
    · have ha1 := (map_at (ev := bsl) hlt).1
      have ha3:(seen.map bsl)[q]? = some (.imm false seen[q].length (by8 seen[q])):=fm_one (f:=bsl) hlt
      have hmem:=List.getElem_mem hlt
      have he:=bst_eql (hso _ hmem).2 hnm.2
      have htk:=fun h=>take_all (p:=fun x:List Int=>decide (x = name)) hlt hno h
      generalize seen[q] = x at *
      have tx:=toB8 x
      have lx:=by8_len x
      have hbe:(((bst x).toList == (bst name).toList) = true) = ((bst x).toList = (bst name).toList):=by simp
      rw [he] at hbe
      repeat' (first|refine zw ?_|refine zn (fun hb=>?_) (fun hb=>?_)|refine zx ?_|refine zof (zA @ha1 (zA @ha3 (zA @tx (zA @lx (zA @tn (zA @ln (@h0))))))) ?_|exact zi|fail)
      · have hx : x = name := by simpa using hbe.mpr hb
        exact .inr ⟨rfl,hx ▸ hmem,_,_,_,_,_,_,_,_,_,_,_,_,_,_,_,_,_,_,_,_,_,_,_,_,_,_,_,rfl⟩
      · exact loopNor (m - 1) (by omega) ⟨q + 1, _, _, by omega, by omega, htk (decide_eq_false fun h => hb (hbe.mp (decide_eq_true h))), rfl⟩
    · obtain rfl : q = seen.length := by omega
      rw [List.take_length] at hno
      repeat' (first|refine zw ?_|refine zn (fun hb=>?_) (fun hb=>?_)|refine zx ?_|refine zo ?_|exact zi|fail)
      exact .inl ⟨rfl,fun h=>by have:=hno _ h; simp at this,_,_,_,_,_,_,_,_,_,_,_,_,_,_,_,_,_,_,_,_,_,_,_,_,_,_,_,rfl⟩
set_option maxHeartbeats 16000000 in
theorem snKids (hnm : okB name) (hag : okB arg) (hso : ∀ v ∈ seen, okB v) (hd : d ≤ 40) (hsl : seen.length ≤ 3 * d) (hkl : kids.length ≤ 1000000000) (hkid : ∀ (j : Nat) (hj : j < kids.length), snC ds (d + 1) kids[j]) {T : List Ae.Obj} (h0 : T[0]? = some (.box 36 (zcs k n name arg lit kids arms))) (y5 y6 y7 y9 y10 y11 y12 y13 y14 y15 y16 y17 y18 y19 y20 y21 y22 y23 y24 y25 y26 y27 y28 y29 y30 : AV) :
    Wp (exS (callF (tab tbl) prim) (.loop (loopAt c38 1)) ⟨[.imm false ds.length (ds.flatMap Dt.az), .agg (zcs k n name arg lit kids arms), .imm false seen.length (seen.map bsl), .ptr (s.low.length + 1) 0 0, .bool false, y5, y6, y7, .int .i64 0, y9, y10, y11, y12, y13, y14, y15, y16, y17, y18, y19, y20, y21, y22, y23, y24, y25, y26, y27, y28, y29, y30], frm s T⟩)
      (fun e st => (e = .exit 2 ∧ (∀ (j : Nat) (hj : j < kids.length), scP ds (seen ++ ext k j name arg) kids[j]) ∧ ∃ y5 y6 y7 y8 y9 y10 y11 y12 y13 y14 y15 y16 y17 y18 y19 y20 y21 y22 y23 y24 y25 y26 y27 y28 y29 y30 T, T[0]? = some (.box 36 (zcs k n name arg lit kids arms)) ∧ st = ⟨[.imm false ds.length (ds.flatMap Dt.az), .agg (zcs k n name arg lit kids arms), .imm false seen.length (seen.map bsl), .ptr (s.low.length + 1) 0 0, .bool false, y5, y6, y7, y8, y9, y10, y11, y12, y13, y14, y15, y16, y17, y18, y19, y20, y21, y22, y23, y24, y25, y26, y27, y28, y29, y30], frm s T⟩) ∨ (e = .ret ∧ (∃ (j : Nat) (hj : j < kids.length), ¬ scP ds (seen ++ ext k j name arg) kids[j]) ∧ ∃ y5 y6 y7 y8 y9 y10 y11 y12 y13 y14 y15 y16 y17 y18 y19 y20 y21 y22 y23 y24 y25 y26 y27 y28 y29 y30 T, st = ⟨[.imm false ds.length (ds.flatMap Dt.az), .agg (zcs k n name arg lit kids arms), .imm false seen.length (seen.map bsl), .ptr (s.low.length + 1) 0 0, .bool false, y5, y6, y7, y8, y9, y10, y11, y12, y13, y14, y15, y16, y17, y18, y19, y20, y21, y22, y23, y24, y25, y26, y27, y28, y29, y30], frm s T⟩)) := by
  have n1:=fun S=>(rfl:srcOf S (.imm true 1 [.imm false name.length (by8 name)]) = some ([name].length,[name].map bsl))
  have n2:=fun S=>(rfl:srcOf S (.imm true 1 [.imm false arg.length (by8 arg)]) = some ([arg].length,[arg].map bsl))
  have n0:=fun S=>(show srcOf S (.imm false seen.length (seen.map bsl)) = some (seen.length,seen.map bsl) from rfl)
  have hr0:repL 0 [AV.imm true 0 []] = ([]:List AV):=rfl
  simp only [loopAt,loops,c38,List.nil_append,List.append_nil,List.getD_cons_zero,List.getD_cons_succ,List.cons_append]
  refine wLoop (fun m st=>∃ y5 y6 y7 y9 y10 y11 y12 y13 y14 y15 y16 y17 y18 y19 y20 y21 y22 y23 y24 y25 y26 y27 y28 y29 y30 T,∃ (q:Nat),(m:Int) = kids.length - q∧q ≤ kids.length∧(∀ (j:Nat) (hj:j < kids.length),j < q→scP ds (seen ++ ext k j name arg) kids[j])∧T[0]? = some (.box 36 (zcs k n name arg lit kids arms))∧st = ⟨[.imm false ds.length (ds.flatMap Dt.az),.agg (zcs k n name arg lit kids arms),.imm false seen.length (seen.map bsl),.ptr (s.low.length + 1) 0 0,.bool false,y5,y6,y7,.int .i64 q,y9,y10,y11,y12,y13,y14,y15,y16,y17,y18,y19,y20,y21,y22,y23,y24,y25,y26,y27,y28,y29,y30],frm s T⟩) kids.length ?_ ?_
  · exact ⟨_, _, _, _, _, _, _, _, _, _, _, _, _, _, _, _, _, _, _, _, _, _, _, _, _, _, 0, by omega, by omega, fun j _ h => by omega, h0, rfl⟩
  · clear h0
    rintro m st ⟨y5, y6, y7, y9, y10, y11, y12, y13, y14, y15, y16, y17, y18, y19, y20, y21, y22, y23, y24, y25, y26, y27, y28, y29, y30, T, q, hm, hq, hall, h0, rfl⟩
    by_cases hlt:q < kids.length
    · have hb1 := fm_at Xp.len hlt
      have hkq:=hkid q hlt
      have hE:∀ {l:List (List Int)},l = seen ++ ext k q name arg→(∀ v ∈ l,okB v)∧l.length ≤ 3 * (d + 1):=fun {l} hl=>by
        subst hl
        have h1:ext k q name arg = [] ∨ ext k q name arg = [name] ∨ ext k q name arg = [name,arg]:=by unfold ext; (repeat' split) <;> simp
        have key:∀ m:List (List Int),(∀ v ∈ m,okB v)→m.length ≤ 3→ext k q name arg = m→(∀ v ∈ seen ++ ext k q name arg,okB v)∧(seen ++ ext k q name arg).length ≤ 3 * (d + 1):=fun m hm hl e=>by
          rw [e]
          refine ⟨fun v hv=>?_,by rw [List.length_append]; omega⟩
          rcases List.mem_append.1 hv with h | h
          · exact hso v h
          · exact hm v h
        rcases h1 with h1 | h1 | h1
        · exact key _ (by simp) (by simp) h1
        · exact key _ (by simp [hnm]) (by simp) h1
        · exact key _ (by simp [hnm, hag]) (by simp) h1
      have hC:∀ {v:AV} {T:List Ae.Obj} {c:Nat} {l:List (List Int)},T[0]? = some (.box 36 (zcs k n name arg lit kids arms))→SlAt (s.low.length + 1) T 23 1 v c (l.map bsl)→l = seen ++ ext k q name arg→∃ v3 S3,callF (tab tbl) prim 38 [.imm false ds.length (ds.flatMap Dt.az),.agg kids[q].az,v] (frm s T) = some (v3,S3)∧v3 = .bool (decide (scP ds (seen ++ ext k q name arg) kids[q]))∧∃ T3,S3 = frm s T3∧T3[0]? = some (.box 36 (zcs k n name arg lit kids arms)):=by
        intro v T c l h0 hS hl
        obtain ⟨e1,e2⟩:=hE hl
        subst hl
        obtain ⟨v3,S3,e,e3,T3,e4,e5⟩:=snCall hkq hS e1 e2
        exact ⟨v3,S3,e,e3,T3,e4,e5.box h0⟩
      have hx:=fun j (hj:j < kids.length) (h:j < q + 1) (hn:scP ds (seen ++ ext k q name arg) kids[q])=>show scP ds (seen ++ ext k j name arg) kids[j] from by
        rcases Nat.lt_or_ge j q with h2 | h2
        · exact hall j hj h2
        · obtain rfl : j = q := by omega
          exact hn
      have hbad:¬ scP ds (seen ++ ext k q name arg) kids[q]→∃ (j:Nat) (hj:j < kids.length),¬ scP ds (seen ++ ext k j name arg) kids[j]:=fun h=>⟨q,hlt,h⟩
      have hA0:∀ {T:List Ae.Obj},T[0]? = some (.box 36 (zcs k n name arg lit kids arms))→∃ v' S',appV (frm s T) 23 1 24 (.imm true 0 []) (.imm false seen.length (seen.map bsl)) = some (v',S')∧∃ T',S' = frm s T'∧SlAt (s.low.length + 1) T' 23 1 v' (0 + seen.length) (([] ++ seen).map bsl)∧T'[0]? = some (.box 36 (zcs k n name arg lit kids arms)):=fun h0=>snApp seen n0 (by omega) h0 (l:=[]) (SlAt.nil _ _ _ _) (by omega)
      have hA1:∀ {v:AV} {c:Nat} {T:List Ae.Obj},T[0]? = some (.box 36 (zcs k n name arg lit kids arms))→SlAt (s.low.length + 1) T 23 1 v c (seen.map bsl)→∃ v' S',appV (frm s T) 23 1 24 v (.imm true 1 [.imm false name.length (by8 name)]) = some (v',S')∧∃ T',S' = frm s T'∧SlAt (s.low.length + 1) T' 23 1 v' (c + 1) ((seen ++ [name]).map bsl)∧T'[0]? = some (.box 36 (zcs k n name arg lit kids arms)):=fun h0 h=>snApp [name] n1 (by simp) h0 h (by have:=h.1; simp at this; omega)
      have hA2:∀ {v:AV} {c:Nat} {T:List Ae.Obj},T[0]? = some (.box 36 (zcs k n name arg lit kids arms))→SlAt (s.low.length + 1) T 23 1 v c ((seen ++ [name]).map bsl)→∃ v' S',appV (frm s T) 23 1 24 v (.imm true 1 [.imm false arg.length (by8 arg)]) = some (v',S')∧∃ T',S' = frm s T'∧SlAt (s.low.length + 1) T' 23 1 v' (c + 1) ((seen ++ [name] ++ [arg]).map bsl)∧T'[0]? = some (.box 36 (zcs k n name arg lit kids arms)):=fun h0 h=>snApp [arg] n2 (by simp) h0 h (by have:=h.1; simp at this; omega)
      have hext:(k = 4∧ext k q name arg = [name]) ∨ ((k = 6 ∨ k = 18)∧q = 1∧ext k q name arg = [name]) ∨ ((k = 6 ∨ k = 18)∧q ≠ 1∧ext k q name arg = []) ∨ (k = 7∧q = 0∧ext k q name arg = [name] ++ [arg]) ∨ (k = 7∧q ≠ 0∧ext k q name arg = [name]) ∨ (k ≠ 4∧k ≠ 6∧k ≠ 18∧k ≠ 7∧ext k q name arg = []):=by
        unfold ext
        by_cases h4:k = 4
        · exact .inl ⟨h4, by rw [if_pos h4]⟩
        · by_cases h6 : k = 6 ∨ k = 18
          · by_cases hq : q = 1
            · exact .inr (.inl ⟨h6, hq, by rw [if_neg h4, if_pos h6, if_pos hq]⟩)
            · exact .inr (.inr (.inl ⟨h6, hq, by rw [if_neg h4, if_pos h6, if_neg hq]⟩))
          · by_cases h7 : k = 7
            · by_cases hq : q = 0
              · exact .inr (.inr (.inr (.inl ⟨h7, hq, by rw [if_neg h4, if_neg h6, if_pos h7, if_pos hq]; rfl⟩)))
              · exact .inr (.inr (.inr (.inr (.inl ⟨h7, hq, by rw [if_neg h4, if_neg h6, if_pos h7, if_neg hq]⟩))))
            · exact .inr (.inr (.inr (.inr (.inr ⟨h4, fun h => h6 (.inl h), fun h => h6 (.inr h), h7, by rw [if_neg h4, if_neg h6, if_neg h7]⟩))))
      generalize ext k q name arg = ex at *
      generalize kids[q] = kq at *
      have hC1:ex = [name]→∀ {v:AV} {T:List Ae.Obj} {c:Nat},T[0]? = some (.box 36 (zcs k n name arg lit kids arms))→SlAt (s.low.length + 1) T 23 1 v c ((seen ++ [name]).map bsl)→_:=fun e {v T c} h0 hS=>hC h0 hS (by rw [e])
      have hC2:ex = [name] ++ [arg]→∀ {v:AV} {T:List Ae.Obj} {c:Nat},T[0]? = some (.box 36 (zcs k n name arg lit kids arms))→SlAt (s.low.length + 1) T 23 1 v c ((seen ++ [name] ++ [arg]).map bsl)→_:=fun e {v T c} h0 hS=>hC h0 hS (by rw [e,List.append_assoc])
      have hC0:ex = []→∀ {v:AV} {T:List Ae.Obj} {c:Nat},T[0]? = some (.box 36 (zcs k n name arg lit kids arms))→SlAt (s.low.length + 1) T 23 1 v c (seen.map bsl)→_:=fun e {v T c} h0 hS=>hC h0 hS (by rw [e,List.append_nil])
      simp only [List.nil_append] at hA0
      have hfin:∀ b0,decide (scP ds (seen ++ ex) kq) = b0→(b0 = true→scP ds (seen ++ ex) kq)∧(b0 = false→¬ scP ds (seen ++ ex) kq):=fun b0 h=>⟨fun h2=>of_decide_eq_true (h.trans h2),fun h2=>of_decide_eq_false (h.trans h2)⟩
      generalize decide (scP ds (seen ++ ex) kq) = b0 at *
      have hfin:=hfin b0 rfl
      rcases hext with ⟨g1, ge⟩ | ⟨g1, g2, ge⟩ | ⟨g1, g2, ge⟩ | ⟨g1, g2, ge⟩ | ⟨g1, g2, ge⟩ | ⟨g1, g2, g3, g4, ge⟩
      · have hC1 := fun {v T c} => @hC1 ge v T c
        repeat' (first|refine zw ?_|refine zn (fun hb=>?_) (fun hb=>?_)|refine zx ?_|(refine zka ((hA0 h0)) ?_; rintro _ _ ⟨T', rfl, hS, h0⟩)|(refine zka ((hA1 h0 hS)) ?_; rintro _ _ ⟨T', rfl, hS, h0⟩)|(refine zk ((hC1 h0 hS)) ?_; rintro _ _ ⟨rfl, T3, rfl, h0⟩)|refine zof (zA @hb1.1 (zA @hb1.2 (zA @h0 (@hr0)))) ?_|exact zi|fail)
        all_goals first
          | exact .inr ⟨rfl, hbad (hfin.2 hb), _, _, _, _, _, _, _, _, _, _, _, _, _, _, _, _, _, _, _, _, _, _, _, _, _, _, _, rfl⟩
          | exact loopNor (m - 1) (by omega) ⟨_, _, _, _, _, _, _, _, _, _, _, _, _, _, _, _, _, _, _, _, _, _, _, _, _, _, q + 1, by omega, by omega, fun j hj h => hx j hj h (hfin.1 hb), h0, rfl⟩
      · have hC1 := fun {v T c} => @hC1 ge v T c
        repeat' (first|refine zw ?_|refine zn (fun hb=>?_) (fun hb=>?_)|refine zx ?_|(refine zka ((hA0 h0)) ?_; rintro _ _ ⟨T', rfl, hS, h0⟩)|(refine zka ((hA1 h0 hS)) ?_; rintro _ _ ⟨T', rfl, hS, h0⟩)|(refine zk ((hC1 h0 hS)) ?_; rintro _ _ ⟨rfl, T3, rfl, h0⟩)|refine zof (zA @hb1.1 (zA @hb1.2 (zA @h0 (@hr0)))) ?_|exact zi|fail)
        all_goals first
          | exact .inr ⟨rfl, hbad (hfin.2 hb), _, _, _, _, _, _, _, _, _, _, _, _, _, _, _, _, _, _, _, _, _, _, _, _, _, _, _, rfl⟩
          | exact loopNor (m - 1) (by omega) ⟨_, _, _, _, _, _, _, _, _, _, _, _, _, _, _, _, _, _, _, _, _, _, _, _, _, _, q + 1, by omega, by omega, fun j hj h => hx j hj h (hfin.1 hb), h0, rfl⟩
      · have hC0 := fun {v T c} => @hC0 ge v T c
        repeat' (first|refine zw ?_|refine zn (fun hb=>?_) (fun hb=>?_)|refine zx ?_|(refine zka ((hA0 h0)) ?_; rintro _ _ ⟨T', rfl, hS, h0⟩)|(refine zk ((hC0 h0 hS)) ?_; rintro _ _ ⟨rfl, T3, rfl, h0⟩)|refine zof (zA @hb1.1 (zA @hb1.2 (zA @h0 (@hr0)))) ?_|exact zi|fail)
        all_goals first
          | exact .inr ⟨rfl, hbad (hfin.2 hb), _, _, _, _, _, _, _, _, _, _, _, _, _, _, _, _, _, _, _, _, _, _, _, _, _, _, _, rfl⟩
          | exact loopNor (m - 1) (by omega) ⟨_, _, _, _, _, _, _, _, _, _, _, _, _, _, _, _, _, _, _, _, _, _, _, _, _, _, q + 1, by omega, by omega, fun j hj h => hx j hj h (hfin.1 hb), h0, rfl⟩
      · have hC2 := fun {v T c} => @hC2 ge v T c
        repeat' (first|refine zw ?_|refine zn (fun hb=>?_) (fun hb=>?_)|refine zx ?_|(refine zka ((hA0 h0)) ?_; rintro _ _ ⟨T', rfl, hS, h0⟩)|(refine zka ((hA1 h0 hS)) ?_; rintro _ _ ⟨T', rfl, hS, h0⟩)|(refine zka ((hA2 h0 hS)) ?_; rintro _ _ ⟨T', rfl, hS, h0⟩)|(refine zk ((hC2 h0 hS)) ?_; rintro _ _ ⟨rfl, T3, rfl, h0⟩)|refine zof (zA @hb1.1 (zA @hb1.2 (zA @h0 (@hr0)))) ?_|exact zi|fail)
        all_goals first
          | exact .inr ⟨rfl, hbad (hfin.2 hb), _, _, _, _, _, _, _, _, _, _, _, _, _, _, _, _, _, _, _, _, _, _, _, _, _, _, _, rfl⟩
          | exact loopNor (m - 1) (by omega) ⟨_, _, _, _, _, _, _, _, _, _, _, _, _, _, _, _, _, _, _, _, _, _, _, _, _, _, q + 1, by omega, by omega, fun j hj h => hx j hj h (hfin.1 hb), h0, rfl⟩
      · have hC1 := fun {v T c} => @hC1 ge v T c
        repeat' (first|refine zw ?_|refine zn (fun hb=>?_) (fun hb=>?_)|refine zx ?_|(refine zka ((hA0 h0)) ?_; rintro _ _ ⟨T', rfl, hS, h0⟩)|(refine zka ((hA1 h0 hS)) ?_; rintro _ _ ⟨T', rfl, hS, h0⟩)|(refine zk ((hC1 h0 hS)) ?_; rintro _ _ ⟨rfl, T3, rfl, h0⟩)|refine zof (zA @hb1.1 (zA @hb1.2 (zA @h0 (@hr0)))) ?_|exact zi|fail)
        all_goals first
          | exact .inr ⟨rfl, hbad (hfin.2 hb), _, _, _, _, _, _, _, _, _, _, _, _, _, _, _, _, _, _, _, _, _, _, _, _, _, _, _, rfl⟩
          | exact loopNor (m - 1) (by omega) ⟨_, _, _, _, _, _, _, _, _, _, _, _, _, _, _, _, _, _, _, _, _, _, _, _, _, _, q + 1, by omega, by omega, fun j hj h => hx j hj h (hfin.1 hb), h0, rfl⟩
      · have hC0 := fun {v T c} => @hC0 ge v T c
        repeat' (first|refine zw ?_|refine zn (fun hb=>?_) (fun hb=>?_)|refine zx ?_|(refine zka ((hA0 h0)) ?_; rintro _ _ ⟨T', rfl, hS, h0⟩)|(refine zk ((hC0 h0 hS)) ?_; rintro _ _ ⟨rfl, T3, rfl, h0⟩)|refine zof (zA @hb1.1 (zA @hb1.2 (zA @h0 (@hr0)))) ?_|exact zi|fail)
        all_goals first
          | exact .inr ⟨rfl, hbad (hfin.2 hb), _, _, _, _, _, _, _, _, _, _, _, _, _, _, _, _, _, _, _, _, _, _, _, _, _, _, _, rfl⟩
          | exact loopNor (m - 1) (by omega) ⟨_, _, _, _, _, _, _, _, _, _, _, _, _, _, _, _, _, _, _, _, _, _, _, _, _, _, q + 1, by omega, by omega, fun j hj h => hx j hj h (hfin.1 hb), h0, rfl⟩
    · obtain rfl : q = kids.length := by omega
      repeat' (first|refine zw ?_|refine zn (fun hb=>?_) (fun hb=>?_)|refine zx ?_|refine zof @h0 ?_|exact zi|fail)
      exact .inl ⟨rfl,fun j hj=>hall j hj hj,_,_,_,_,_,_,_,_,_,_,_,_,_,_,_,_,_,_,_,_,_,_,_,_,_,_,_,h0,rfl⟩
end
section
variable {ds : List Dt} {seen : List (List Int)} {name : List Int} {k n : Int} {arg lit : List Int} {kids : List Xp} {arms : List Arm} {s : Store} {d : Nat}
set_option maxHeartbeats 16000000 in
theorem snArms (ho : okN ds) (hl : ds.length ≤ 1000000000) (hc : ∀ d ∈ ds, d.cons.length ≤ 1000000000) (hso : ∀ v ∈ seen, okB v) (hd : d ≤ 40) (hsl : seen.length ≤ 3 * d) (hal : arms.length ≤ 1000000000) (harm : ∀ (j : Nat) (hj : j < arms.length), okB arms[j].con ∧ (∀ v ∈ arms[j].vars, okB v) ∧ arms[j].vars.length ≤ 3 ∧ snC ds (d + 1) arms[j].body) {T : List Ae.Obj} (h0 : T[0]? = some (.box 36 (zcs k n name arg lit kids arms))) (y5 y6 y7 y8 y9 y11 y12 y13 y14 y15 y16 y17 y18 y19 y20 y21 y22 y23 y24 y25 y26 y27 y28 y29 y30 : AV) :
    Wp (exS (callF (tab tbl) prim) (.loop (loopAt c38 2)) ⟨[.imm false ds.length (ds.flatMap Dt.az), .agg (zcs k n name arg lit kids arms), .imm false seen.length (seen.map bsl), .ptr (s.low.length + 1) 0 0, .bool false, y5, y6, y7, y8, y9, .int .i64 0, y11, y12, y13, y14, y15, y16, y17, y18, y19, y20, y21, y22, y23, y24, y25, y26, y27, y28, y29, y30], frm s T⟩)
      (fun e st => (e = .exit 5 ∧ (∀ (j : Nat) (hj : j < arms.length), scM ds seen arms[j]) ∧ ∃ y5 y6 y7 y8 y9 y10 y11 y12 y13 y14 y15 y16 y17 y18 y19 y20 y21 y22 y23 y24 y25 y26 y27 y28 y29 y30 T, T[0]? = some (.box 36 (zcs k n name arg lit kids arms)) ∧ st = ⟨[.imm false ds.length (ds.flatMap Dt.az), .agg (zcs k n name arg lit kids arms), .imm false seen.length (seen.map bsl), .ptr (s.low.length + 1) 0 0, .bool false, y5, y6, y7, y8, y9, y10, y11, y12, y13, y14, y15, y16, y17, y18, y19, y20, y21, y22, y23, y24, y25, y26, y27, y28, y29, y30], frm s T⟩) ∨ (e = .ret ∧ (∃ (j : Nat) (hj : j < arms.length), ¬ scM ds seen arms[j]) ∧ ∃ y5 y6 y7 y8 y9 y10 y11 y12 y13 y14 y15 y16 y17 y18 y19 y20 y21 y22 y23 y24 y25 y26 y27 y28 y29 y30 T, st = ⟨[.imm false ds.length (ds.flatMap Dt.az), .agg (zcs k n name arg lit kids arms), .imm false seen.length (seen.map bsl), .ptr (s.low.length + 1) 0 0, .bool false, y5, y6, y7, y8, y9, y10, y11, y12, y13, y14, y15, y16, y17, y18, y19, y20, y21, y22, y23, y24, y25, y26, y27, y28, y29, y30], frm s T⟩)) := by
  have n0:=fun S=>(show srcOf S (.imm false seen.length (seen.map bsl)) = some (seen.length,seen.map bsl) from rfl)
  have hr0:repL 0 [AV.imm true 0 []] = ([]:List AV):=rfl
  simp only [loopAt,loops,c38,List.nil_append,List.append_nil,List.getD_cons_zero,List.getD_cons_succ,List.cons_append]
  refine wLoop (fun m st=>∃ y5 y6 y7 y8 y9 y11 y12 y13 y14 y15 y16 y17 y18 y19 y20 y21 y22 y23 y24 y25 y26 y27 y28 y29 y30 T,∃ (q:Nat),(m:Int) = arms.length - q∧q ≤ arms.length∧(∀ (j:Nat) (hj:j < arms.length),j < q→scM ds seen arms[j])∧T[0]? = some (.box 36 (zcs k n name arg lit kids arms))∧st = ⟨[.imm false ds.length (ds.flatMap Dt.az),.agg (zcs k n name arg lit kids arms),.imm false seen.length (seen.map bsl),.ptr (s.low.length + 1) 0 0,.bool false,y5,y6,y7,y8,y9,.int .i64 q,y11,y12,y13,y14,y15,y16,y17,y18,y19,y20,y21,y22,y23,y24,y25,y26,y27,y28,y29,y30],frm s T⟩) arms.length ?_ ?_
  · exact ⟨_, _, _, _, _, _, _, _, _, _, _, _, _, _, _, _, _, _, _, _, _, _, _, _, _, _, 0, by omega, by omega, fun j _ h => by omega, h0, rfl⟩
  · clear h0
    rintro m st ⟨y5, y6, y7, y8, y9, y11, y12, y13, y14, y15, y16, y17, y18, y19, y20, y21, y22, y23, y24, y25, y26, y27, y28, y29, y30, T, q, hm, hq, hall, h0, rfl⟩
    by_cases hlt:q < arms.length
    · obtain ⟨ha1, ha2⟩ := fm_at Arm.len hlt
      have hx:=fun (h:scM ds seen arms[q]) j (hj:j < arms.length) (h2:j < q + 1)=>show scM ds seen arms[j] from by
        rcases Nat.lt_or_ge j q with h3 | h3
        · exact hall j hj h3
        · obtain rfl : j = q := by omega
          exact h
      have hbad:¬ scM ds seen arms[q]→∃ (j:Nat) (hj:j < arms.length),¬ scM ds seen arms[j]:=fun h=>⟨q,hlt,h⟩
      have hq3:=harm q hlt
      generalize arms[q] = a at *
      obtain ⟨con,vars,body⟩:=a
      simp only [Arm.con,Arm.vars,Arm.body] at hq3
      obtain ⟨hcon,hvo,hvl,hbC⟩:=hq3
      have hso2:∀ v ∈ seen ++ vars,okB v:=fun v hv=>by rcases List.mem_append.1 hv with h | h; exact hso v h; exact hvo v h
      obtain ⟨bk,bn,bname,barg,blit,bkids,barms⟩:=body
      simp only [Arm.az,az_zcs,bsl] at ha2
      have h0':=pt_at (o:=.box 52 (.imm false con.length (by8 con) :: .imm false vars.length (vars.map bsl) :: zcs bk bn bname barg blit bkids barms)) h0
      have hT':=app_at T (.box 52 (.imm false con.length (by8 con) :: .imm false vars.length (vars.map bsl) :: zcs bk bn bname barg blit bkids barms))
      have nv:=fun S=>(show srcOf S (.imm false vars.length (vars.map bsl)) = some (vars.length,vars.map bsl) from rfl)
      -- the two appends and the call
      have hA:∃ v' S',appV (frm s (T ++ [.box 52 (.imm false con.length (by8 con) :: .imm false vars.length (vars.map bsl) :: zcs bk bn bname barg blit bkids barms)])) 23 1 24 (.imm true 0 []) (.imm false seen.length (seen.map bsl)) = some (v',S')∧∃ T',S' = frm s T'∧SlAt (s.low.length + 1) T' 23 1 v' seen.length (seen.map bsl)∧T'[0]? = some (.box 36 (zcs k n name arg lit kids arms))∧(T'[T.length]? = some (.box 52 (.imm false con.length (by8 con) :: .imm false vars.length (vars.map bsl) :: zcs bk bn bname barg blit bkids barms))∧(T ++ [.box 52 (.imm false con.length (by8 con) :: .imm false vars.length (vars.map bsl) :: zcs bk bn bname barg blit bkids barms)])[T.length]? = some (.box 52 (.imm false con.length (by8 con) :: .imm false vars.length (vars.map bsl) :: zcs bk bn bname barg blit bkids barms))):=by
        obtain ⟨v',S',e,T',rfl,h1,h2,_⟩:=slAt_app (s:=s) (bytes:=24) (y:=.imm false seen.length (seen.map bsl)) (ys:=seen.map bsl) (m:=seen.length) (SlAt.nil (s.low.length + 1) (T ++ [.box 52 (.imm false con.length (by8 con) :: .imm false vars.length (vars.map bsl) :: zcs bk bn bname barg blit bkids barms)]) 23 1) rfl (by omega) (n0 _) (bsl_ok seen) (by simp) (by omega)
        exact ⟨v',_,e,T',rfl,by simpa using h1,h2.box h0',h2.box hT',hT'⟩
      have hB:∀ {v:AV} {T1:List Ae.Obj} {R:Prop},SlAt (s.low.length + 1) T1 23 1 v seen.length (seen.map bsl)→T1[0]? = some (.box 36 (zcs k n name arg lit kids arms))→(T1[T.length]? = some (.box 52 (.imm false con.length (by8 con) :: .imm false vars.length (vars.map bsl) :: zcs bk bn bname barg blit bkids barms))∧R)→∃ v' S',appV (frm s T1) 23 1 24 v (.imm false vars.length (vars.map bsl)) = some (v',S')∧∃ T',S' = frm s T'∧SlAt (s.low.length + 1) T' 23 1 v' (seen.length + vars.length) ((seen ++ vars).map bsl)∧T'[0]? = some (.box 36 (zcs k n name arg lit kids arms))∧(T'[T.length]? = some (.box 52 (.imm false con.length (by8 con) :: .imm false vars.length (vars.map bsl) :: zcs bk bn bname barg blit bkids barms))∧T1[T.length]? = some (.box 52 (.imm false con.length (by8 con) :: .imm false vars.length (vars.map bsl) :: zcs bk bn bname barg blit bkids barms))∧R):=fun {v T1 R} h1 h2 h3=>by
        obtain ⟨v',S',e,T',rfl,g1,g2,_⟩:=slAt_app (s:=s) (bytes:=24) (y:=.imm false vars.length (vars.map bsl)) (ys:=vars.map bsl) (m:=vars.length) h1 rfl (by omega) (nv _) (bsl_ok vars) (by simp) (by omega)
        rw [← List.map_append] at g1
        exact ⟨v',_,e,T',rfl,g1,g2.box h2,g2.box h3.1,h3.1,h3.2⟩
      have hC:∀ {v:AV} {T1:List Ae.Obj},SlAt (s.low.length + 1) T1 23 1 v (seen.length + vars.length) ((seen ++ vars).map bsl)→T1[0]? = some (.box 36 (zcs k n name arg lit kids arms))→∃ v3 S3,callF (tab tbl) prim 38 [.imm false ds.length (ds.flatMap Dt.az),.agg (zcs bk bn bname barg blit bkids barms),v] (frm s T1) = some (v3,S3)∧v3 = .bool (decide (scP ds (seen ++ vars) (.mk bk bn bname barg blit bkids barms)))∧∃ T3,S3 = frm s T3∧T3[0]? = some (.box 36 (zcs k n name arg lit kids arms)):=fun {v T1} h1 h2=>by
        obtain ⟨v3,S3,e,e1,T3,e2,e3⟩:=snCall hbC h1 hso2 (by rw [List.length_append]; omega)
        rw [az_zcs] at e
        exact ⟨v3,S3,e,e1,T3,e2,e3.box h2⟩
      have hM:scM ds seen (.mk con vars (.mk bk bn bname barg blit bkids barms)) ↔ _:=scM_mk
      have tc:=toB8 con
      have lc:=by8_len con
      have hfin:∀ b0,decide (scP ds (seen ++ vars) (.mk bk bn bname barg blit bkids barms)) = b0→(b0 = true→scP ds (seen ++ vars) (.mk bk bn bname barg blit bkids barms))∧(b0 = false→¬ scP ds (seen ++ vars) (.mk bk bn bname barg blit bkids barms)):=fun b0 h=>⟨fun h2=>of_decide_eq_true (h.trans h2),fun h2=>of_decide_eq_false (h.trans h2)⟩
      generalize decide (scP ds (seen ++ vars) (.mk bk bn bname barg blit bkids barms)) = b0 at *
      have hfin:=hfin b0 rfl
      by_cases hc0:con.length = 0
      · repeat' (first|refine zw ?_|refine zn (fun hb=>?_) (fun hb=>?_)|refine zx ?_|(refine zka (hA) ?_; rintro _ _ ⟨T', rfl, hS, h0, hT'⟩)|(refine zka ((hB hS h0 hT')) ?_; rintro _ _ ⟨T', rfl, hS2, h0, hT'⟩)|(refine zk ((hC hS2 h0)) ?_; rintro _ _ ⟨rfl, T3, rfl, h0⟩)|refine zof (zA @ha1 (zA @ha2 (zA @h0 (zA @h0' (zA @hT' (@hr0)))))) ?_|exact zi|fail)
        all_goals first
          | (exfalso; omega)
          | exact .inr ⟨rfl, hbad fun h => hfin.2 hb (hM.1 h).2, _, _, _, _, _, _, _, _, _, _, _, _, _, _, _, _, _, _, _, _, _, _, _, _, _, _, _, rfl⟩
          | exact loopNor (m - 1) (by omega) ⟨_, _, _, _, _, _, _, _, _, _, _, _, _, _, _, _, _, _, _, _, _, _, _, _, _, _, q + 1, by omega, by omega, fun j hj h => hx (hM.2 ⟨fun h => absurd hc0 h, hfin.1 hb⟩) j hj h, h0, rfl⟩
      · rcases place_or hcon ho hl hc with ⟨i, q2, hat⟩ | hno
        · have h1 := fun s => specPlace1 hcon ho hl hc s hat
          have hca:=(dt_at hat.1).2.2
          have hcf:=(con_at hat.2.1).2
          have hcl:=hc _ (List.getElem_mem hat.1)
          have harp:=arP_at (n:=vars.length) hat
          obtain ⟨hi1,hk1,_⟩:=hat
          generalize ds[i].cons[q2].fields = fl at *
          by_cases hn:fl.length = vars.length
          · repeat' (first|refine zw ?_|refine zn (fun hb=>?_) (fun hb=>?_)|refine zx ?_|(refine zka (hA) ?_; rintro _ _ ⟨T', rfl, hS, h0, hT'⟩)|(refine zka ((hB hS h0 hT')) ?_; rintro _ _ ⟨T', rfl, hS2, h0, hT'⟩)|(refine zk ((hC hS2 h0)) ?_; rintro _ _ ⟨rfl, T3, rfl, h0⟩)|refine zof (zA @ha1 (zA @ha2 (zA @h0 (zA @h0' (zA @hT' (zA @hr0 (zA @h1 (zA @hca (@hcf))))))))) ?_|exact zi|fail)
            all_goals first
              | (exfalso; omega)
              | exact .inr ⟨rfl, hbad fun h => hfin.2 hb (hM.1 h).2, _, _, _, _, _, _, _, _, _, _, _, _, _, _, _, _, _, _, _, _, _, _, _, _, _, _, _, rfl⟩
              | exact loopNor (m - 1) (by omega) ⟨_, _, _, _, _, _, _, _, _, _, _, _, _, _, _, _, _, _, _, _, _, _, _, _, _, _, q + 1, by omega, by omega, fun j hj h => hx (hM.2 ⟨fun _ => harp.2 hn, hfin.1 hb⟩) j hj h, h0, rfl⟩
          · repeat' (first|refine zw ?_|refine zn (fun hb=>?_) (fun hb=>?_)|refine zx ?_|(refine zka (hA) ?_; rintro _ _ ⟨T', rfl, hS, h0, hT'⟩)|(refine zka ((hB hS h0 hT')) ?_; rintro _ _ ⟨T', rfl, hS2, h0, hT'⟩)|(refine zk ((hC hS2 h0)) ?_; rintro _ _ ⟨rfl, T3, rfl, h0⟩)|refine zof (zA @ha1 (zA @ha2 (zA @h0 (zA @h0' (zA @hT' (zA @hr0 (zA @h1 (zA @hca (@hcf))))))))) ?_|exact zi|fail)
            all_goals first
              | (exfalso; omega)
              | exact .inr ⟨rfl, hbad fun h => hn (harp.1 ((hM.1 h).1 hc0)), _, _, _, _, _, _, _, _, _, _, _, _, _, _, _, _, _, _, _, _, _, _, _, _, _, _, _, rfl⟩
        · have h1 := fun s => specPlace0 hcon ho hl hc s hno
          repeat' (first|refine zw ?_|refine zn (fun hb=>?_) (fun hb=>?_)|refine zx ?_|(refine zka (hA) ?_; rintro _ _ ⟨T', rfl, hS, h0, hT'⟩)|(refine zka ((hB hS h0 hT')) ?_; rintro _ _ ⟨T', rfl, hS2, h0, hT'⟩)|(refine zk ((hC hS2 h0)) ?_; rintro _ _ ⟨rfl, T3, rfl, h0⟩)|refine zof (zA @ha1 (zA @ha2 (zA @h0 (zA @h0' (zA @hT' (zA @hr0 (@h1))))))) ?_|exact zi|fail)
          all_goals first
            | (exfalso; omega)
            | exact .inr ⟨rfl, hbad fun h => arP_no hno ((hM.1 h).1 hc0), _, _, _, _, _, _, _, _, _, _, _, _, _, _, _, _, _, _, _, _, _, _, _, _, _, _, _, rfl⟩
    · obtain rfl : q = arms.length := by omega
      repeat' (first|refine zw ?_|refine zn (fun hb=>?_) (fun hb=>?_)|refine zx ?_|refine zof @h0 ?_|exact zi|fail)
      exact .inl ⟨rfl,fun j hj=>hall j hj hj,_,_,_,_,_,_,_,_,_,_,_,_,_,_,_,_,_,_,_,_,_,_,_,_,_,_,_,h0,rfl⟩
end
set_option maxHeartbeats 16000000 in
theorem specScope {ds : List Dt} (ho : okN ds) (hl : ds.length ≤ 1000000000) (hc : ∀ d ∈ ds, d.cons.length ≤ 1000000000) : ∀ e : Xp, e.ok → e.sz ≤ 1000000000 → ∀ d : Nat, xgd d e → snC ds d e := by
  refine Xp.ind fun k n name arg lit kids arms ih iha=>?_
  intro hok hsz d hg s f seen hso hsl
  have hsz2:=hsz
  simp only [Xp.sz,szE_eq,szA_eq] at hsz2
  have hln:=sizes_len Xp.sz kids
  have hla:=sizes_len Arm.sz arms
  have hok2:=hok
  simp only [Xp.ok,okE_iff,okA_iff] at hok2
  obtain ⟨_,_,hnm,hag,_,⟨_,hoe⟩,⟨_,hoa⟩⟩:=hok2
  rw [xgd,gdE_iff,gdA_iff] at hg
  obtain ⟨hd,hX,hgk,hga⟩:=hg
  have hS:=scP_mk (ds:=ds) (seen:=seen) (k:=k) (n:=n) (name:=name) (arg:=arg) (lit:=lit) (kids:=kids) (arms:=arms)
  have hkid:∀ (j:Nat) (hj:j < kids.length),snC ds (d + 1) kids[j]:=fun j hj=>by
    have hm:=List.getElem_mem hj
    exact ih _ hm (hoe _ hm) (by have:=sizes_mem Xp.sz hm; omega) (d + 1) (hgk _ hm)
  have harm:∀ (j:Nat) (hj:j < arms.length),okB arms[j].con∧(∀ v ∈ arms[j].vars,okB v)∧arms[j].vars.length ≤ 3∧snC ds (d + 1) arms[j].body:=fun j hj=>by
    have hm:=List.getElem_mem hj
    have h1:=iha _ hm
    have h2:=hoa _ hm
    have h3:=hga _ hm
    have h4:=sizes_mem Arm.sz hm
    generalize arms[j] = a at *
    obtain ⟨con,vars,body⟩:=a
    simp only [Arm.ok] at h2
    simp only [Arm.body] at h1
    simp only [Arm.sz] at h4
    rw [agd] at h3
    have h5:vars.length ≤ 3:=by
      rcases h3.1 with h | h
      · omega
      · exact h.2.2.1
    exact ⟨h2.1,h2.2.1.2,h5,h1 h2.2.2 (by omega) (d + 1) h3.2⟩
  have hT:(k = 3→name ∈ seen)→(k = 15→arP name kids.length ds)→(∀ (j:Nat) (h:j < kids.length),scP ds (seen ++ ext k j name arg) kids[j])→(∀ (j:Nat) (hj:j < arms.length),scM ds seen arms[j])→decide (scP ds seen (.mk k n name arg lit kids arms)) = true:=fun h1 h2 h3 h4=>decide_eq_true (hS.2 ⟨h1,h2,h3,fun a ha=>by obtain ⟨j,hj,rfl⟩:=List.mem_iff_getElem.1 ha; exact h4 j hj⟩)
  have hN1:∀ (j:Nat) (h:j < kids.length),¬ scP ds (seen ++ ext k j name arg) kids[j]→decide (scP ds seen (.mk k n name arg lit kids arms)) = false:=fun j h h2=>decide_eq_false fun h3=>h2 ((hS.1 h3).2.2.1 j h)
  have hN2:∀ (j:Nat) (h:j < arms.length),¬ scM ds seen arms[j]→decide (scP ds seen (.mk k n name arg lit kids arms)) = false:=fun j h h2=>decide_eq_false fun h3=>h2 ((hS.1 h3).2.2.2 _ (List.getElem_mem h))
  have hN3:k = 3→¬ name ∈ seen→decide (scP ds seen (.mk k n name arg lit kids arms)) = false:=fun h h2=>decide_eq_false fun h3=>h2 ((hS.1 h3).1 h)
  have hN4:k = 15→¬ arP name kids.length ds→decide (scP ds seen (.mk k n name arg lit kids arms)) = false:=fun h h2=>decide_eq_false fun h3=>h2 ((hS.1 h3).2.1 h)
  generalize decide (scP ds seen (.mk k n name arg lit kids arms)) = b at *
  rw [az_zcs]
  have hKL:=@snKids ds seen name k n arg lit kids arms s d hnm hag hso hd hsl (by omega) hkid [.box 36 (zcs k n name arg lit kids arms)] rfl
  have hAL:=fun {T} h0=>@snArms ds seen name k n arg lit kids arms s d ho hl hc hso hd hsl (by omega) harm T h0
  have cl:k = 3 ∨ k = 15 ∨ (k ≠ 3∧k ≠ 15):=by omega
  rcases cl with h | h | h
  · have hX2 := (hdX_A (.inl h)).1 hX
    have hk0:kids.length = 0:=by have:=hX2.2.2.2.2.2; rw [h,show kidsN 3 n = 0 by simp [kidsN]] at this; omega
    have ha0:arms.length = 0:=hX2.2.2.2.2.1
    refine funY rfl (argsF rfl (frzs_cons frz_imm (frzs_cons (frz_agg (frzL_cons frz1_int (frzL_cons frz1_int (frzL_cons frz1_imm (frzL_cons frz1_imm (frzL_cons frz1_imm (frzL_cons frz1_imm (frzL_cons frz1_imm frzL_nil)))))))) (frzs_cons frz_imm frzs_nil)))) zt ?_
    repeat' (first|refine zw ?_|refine zn (fun hb=>?_) (fun hb=>?_)|refine zx ?_|refine zo ?_|exact zi|fail)
    refine Wp.mono (snVar hnm hso (by omega) (T:=[.box 36 (zcs k n name arg lit kids arms)]) rfl _ _ _ _ _ _ _ _ _ _ _ _ _ _ _ _ _ _ _ _ _ _ _ _ _) ?_
    rintro e st (⟨rfl, hin, y5, y6, y7, y8, y9, y10, y11, y12, y13, y14, y15, y16, y17, y18, y19, y20, y21, y22, y23, y24, y25, y26, y27, y28, y29, y30, T, rfl⟩ | ⟨rfl, hin, y5, y6, y7, y8, y9, y10, y11, y12, y13, y14, y15, y16, y17, y18, y19, y20, y21, y22, y23, y24, y25, y26, y27, y28, y29, y30, T, rfl⟩)
    · rw [hN3 h hin]
      repeat' (first|refine zw ?_|refine zn (fun hb=>?_) (fun hb=>?_)|refine zx ?_|refine zo ?_|exact zi|fail)
    · rw [hT (fun _ => hin) (fun h2 => by omega) (fun j hj => by omega) (fun j hj => by omega)]
      repeat' (first|refine zw ?_|refine zn (fun hb=>?_) (fun hb=>?_)|refine zx ?_|refine zo ?_|exact zi|fail)
  · rcases place_or hnm ho hl hc with ⟨i, q, hat⟩ | hno
    · have h1 := fun s => specPlace1 hnm ho hl hc s hat
      have hca:=(dt_at hat.1).2.2
      have hcf:=(con_at hat.2.1).2
      have hcl:=hc _ (List.getElem_mem hat.1)
      have harp:=arP_at (n:=kids.length) hat
      obtain ⟨hi1,hk1,_⟩:=hat
      generalize ds[i].cons[q].fields = fl at *
      by_cases hn:fl.length = kids.length
      · refine funY rfl (argsF rfl (frzs_cons frz_imm (frzs_cons (frz_agg (frzL_cons frz1_int (frzL_cons frz1_int (frzL_cons frz1_imm (frzL_cons frz1_imm (frzL_cons frz1_imm (frzL_cons frz1_imm (frzL_cons frz1_imm frzL_nil)))))))) (frzs_cons frz_imm frzs_nil)))) zt ?_
        repeat' (first|refine zw ?_|refine zn (fun hb=>?_) (fun hb=>?_)|refine zx ?_|refine zof (zA @h1 (zA @hca (@hcf))) ?_|exact zi|fail)
        all_goals first | (exfalso; omega) | skip
        refine Wp.mono (hKL _ _ _ _ _ _ _ _ _ _ _ _ _ _ _ _ _ _ _ _ _ _ _ _ _) ?_
        rintro e st (⟨rfl, hall, y5, y6, y7, y8, y9, y10, y11, y12, y13, y14, y15, y16, y17, y18, y19, y20, y21, y22, y23, y24, y25, y26, y27, y28, y29, y30, T, h0, rfl⟩ | ⟨rfl, ⟨j, hj, hbad⟩, y5, y6, y7, y8, y9, y10, y11, y12, y13, y14, y15, y16, y17, y18, y19, y20, y21, y22, y23, y24, y25, y26, y27, y28, y29, y30, T, rfl⟩)
        · repeat' (first|refine zw ?_|refine zn (fun hb=>?_) (fun hb=>?_)|refine zx ?_|refine zof @h0 ?_|exact zi|fail)
          refine Wp.mono (hAL h0 _ _ _ _ _ _ _ _ _ _ _ _ _ _ _ _ _ _ _ _ _ _ _ _ _) ?_
          rintro e st (⟨rfl, hall2, y5, y6, y7, y8, y9, y10, y11, y12, y13, y14, y15, y16, y17, y18, y19, y20, y21, y22, y23, y24, y25, y26, y27, y28, y29, y30, T, h0, rfl⟩ | ⟨rfl, ⟨j, hj, hbad⟩, y5, y6, y7, y8, y9, y10, y11, y12, y13, y14, y15, y16, y17, y18, y19, y20, y21, y22, y23, y24, y25, y26, y27, y28, y29, y30, T, rfl⟩)
          · rw [hT (fun h2 => by omega) (fun _ => harp.2 hn) hall hall2]
            repeat' (first|refine zw ?_|refine zn (fun hb=>?_) (fun hb=>?_)|refine zx ?_|refine zo ?_|exact zi|fail)
          · rw [hN2 j hj hbad]
            repeat' (first|refine zw ?_|refine zn (fun hb=>?_) (fun hb=>?_)|refine zx ?_|refine zo ?_|exact zi|fail)
        · rw [hN1 j hj hbad]
          repeat' (first|refine zw ?_|refine zn (fun hb=>?_) (fun hb=>?_)|refine zx ?_|refine zo ?_|exact zi|fail)
      · rw [hN4 h (fun h => hn (harp.1 h))]
        refine funY rfl (argsF rfl (frzs_cons frz_imm (frzs_cons (frz_agg (frzL_cons frz1_int (frzL_cons frz1_int (frzL_cons frz1_imm (frzL_cons frz1_imm (frzL_cons frz1_imm (frzL_cons frz1_imm (frzL_cons frz1_imm frzL_nil)))))))) (frzs_cons frz_imm frzs_nil)))) zt ?_
        repeat' (first|refine zw ?_|refine zn (fun hb=>?_) (fun hb=>?_)|refine zx ?_|refine zof (zA @h1 (zA @hca (@hcf))) ?_|exact zi|fail)
        all_goals first | (exfalso; omega) | skip
    · have h1 := fun s => specPlace0 hnm ho hl hc s hno
      rw [hN4 h (arP_no hno)]
      refine funY rfl (argsF rfl (frzs_cons frz_imm (frzs_cons (frz_agg (frzL_cons frz1_int (frzL_cons frz1_int (frzL_cons frz1_imm (frzL_cons frz1_imm (frzL_cons frz1_imm (frzL_cons frz1_imm (frzL_cons frz1_imm frzL_nil)))))))) (frzs_cons frz_imm frzs_nil)))) zt ?_
      repeat' (first|refine zw ?_|refine zn (fun hb=>?_) (fun hb=>?_)|refine zx ?_|refine zof @h1 ?_|exact zi|fail)
      all_goals first | (exfalso; omega) | skip
  · refine funY rfl (argsF rfl (frzs_cons frz_imm (frzs_cons (frz_agg (frzL_cons frz1_int (frzL_cons frz1_int (frzL_cons frz1_imm (frzL_cons frz1_imm (frzL_cons frz1_imm (frzL_cons frz1_imm (frzL_cons frz1_imm frzL_nil)))))))) (frzs_cons frz_imm frzs_nil)))) zt ?_
    repeat' (first|refine zw ?_|refine zn (fun hb=>?_) (fun hb=>?_)|refine zx ?_|refine zo ?_|exact zi|fail)
    refine Wp.mono (hKL _ _ _ _ _ _ _ _ _ _ _ _ _ _ _ _ _ _ _ _ _ _ _ _ _) ?_
    rintro e st (⟨rfl, hall, y5, y6, y7, y8, y9, y10, y11, y12, y13, y14, y15, y16, y17, y18, y19, y20, y21, y22, y23, y24, y25, y26, y27, y28, y29, y30, T, h0, rfl⟩ | ⟨rfl, ⟨j, hj, hbad⟩, y5, y6, y7, y8, y9, y10, y11, y12, y13, y14, y15, y16, y17, y18, y19, y20, y21, y22, y23, y24, y25, y26, y27, y28, y29, y30, T, rfl⟩)
    · repeat' (first|refine zw ?_|refine zn (fun hb=>?_) (fun hb=>?_)|refine zx ?_|refine zof @h0 ?_|exact zi|fail)
      refine Wp.mono (hAL h0 _ _ _ _ _ _ _ _ _ _ _ _ _ _ _ _ _ _ _ _ _ _ _ _ _) ?_
      rintro e st (⟨rfl, hall2, y5, y6, y7, y8, y9, y10, y11, y12, y13, y14, y15, y16, y17, y18, y19, y20, y21, y22, y23, y24, y25, y26, y27, y28, y29, y30, T, h0, rfl⟩ | ⟨rfl, ⟨j, hj, hbad⟩, y5, y6, y7, y8, y9, y10, y11, y12, y13, y14, y15, y16, y17, y18, y19, y20, y21, y22, y23, y24, y25, y26, y27, y28, y29, y30, T, rfl⟩)
      · rw [hT (fun h2 => absurd h2 h.1) (fun h2 => absurd h2 h.2) hall hall2]
        repeat' (first|refine zw ?_|refine zn (fun hb=>?_) (fun hb=>?_)|refine zx ?_|refine zo ?_|exact zi|fail)
      · rw [hN2 j hj hbad]
        repeat' (first|refine zw ?_|refine zn (fun hb=>?_) (fun hb=>?_)|refine zx ?_|refine zo ?_|exact zi|fail)
    · rw [hN1 j hj hbad]
      repeat' (first|refine zw ?_|refine zn (fun hb=>?_) (fun hb=>?_)|refine zx ?_|refine zo ?_|exact zi|fail)
end Go.Proofs.YtkjonfojileipaaGreatDoor.Gq
