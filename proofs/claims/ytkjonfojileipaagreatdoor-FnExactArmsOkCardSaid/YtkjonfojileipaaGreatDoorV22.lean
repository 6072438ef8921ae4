/- Names that are bound: what that is; where a constructor's name stands, for the program and for the reference. Names that are bound, for the program: slices that are cut, arms. -/
import Derived.Test.YtkjonfojileipaaGreatDoorV5
set_option linter.unusedSimpArgs false
set_option linter.unusedVariables false
namespace Go.Proofs.YtkjonfojileipaaGreatDoor.Gq
open Go Go.Proofs Go.Proofs.YtkjonfojileipaaGreatDoor.Ae
attribute [local congr] obind_congr
attribute [local push_cast] exF argsV frzs frz frzL frz1 exS_reg exS_seq exS_cond exS_alt exS_block exS_loop exS_exit exS_ret exS_skip evReg evOps evOne evAct evOp rd putV st0 evEnd resV resL resOne oneOr frzR loadV storeV binV binI unV push_frm pop_frm frm_len frm_top frm_get_top frm_set_top frm_new AV.cells AV.lowB AV.lowL AV.isCell cellsOk set_len Option.bind_some Option.map_some Option.map_none List.getD_cons_zero List.getD_cons_succ List.nil_append List.cons_append List.append_nil List.length_cons List.length_nil List.set_cons_zero List.set_cons_succ List.map_cons List.map_nil List.replicate if_true if_false ite_true ite_false ite_self Bool.false_eq_true List.all_cons List.all_nil Bool.and_true Bool.true_and Bool.and_self Bool.and_eq_true List.getElem?_cons_zero List.getElem?_cons_succ List.drop_succ_cons List.drop_zero List.take_succ_cons List.take_zero true_and and_true and_self decide_true decide_false Bool.not_true Bool.not_false Prod.mk.injEq Option.some.injEq List.getElem?_drop optInt elems sliceV partsOf Nat.add_zero Nat.zero_add Nat.mul_one beq_self_eq_true litParts Bool.or_false Bool.false_or Bool.or_true Bool.true_or Bool.false_and Bool.and_false List.cons.injEq not_false_eq_true not_true_eq_false Nat.zero_le Nat.le_refl gt_iff_lt ge_iff_le List.drop_nil List.take_nil newBox List.length_append List.length_map bne_self_eq_false eq_self Nat.lt_add_one ne_eq false_implies Int.le_refl
def At (w : List Int) (ds : List Dt) (i k : Nat) : Prop :=
  ∃ (hi : i < ds.length) (hk : k < ds[i].cons.length), ds[i].cons[k].name = w ∧ (∀ d ∈ ds.take i, conB w d.cons = false) ∧ ∀ c ∈ ds[i].cons.take k, decide (c.name = w) = false
theorem At.yes {w : List Int} {ds : List Dt} {i k : Nat} (h : At w ds i k) : consB w ds = true := by
  obtain ⟨hi,hk,hn,_,_⟩:=h
  exact List.any_eq_true.2 ⟨_,List.getElem_mem hi,conB_mem hk hn⟩
theorem At.one {w : List Int} {ds : List Dt} {i k i2 k2 : Nat} (h : At w ds i k) (h2 : At w ds i2 k2) : i = i2 ∧ k = k2 := by
  obtain ⟨hi,hk,hn,ha,hb⟩:=h
  obtain ⟨hi2,hk2,hn2,ha2,hb2⟩:=h2
  rcases Nat.lt_trichotomy i i2 with h | rfl | h
  · have := ha2 ds[i] (by rw [List.mem_take_iff_getElem]; exact ⟨i, by omega, rfl⟩)
    rw [conB_mem hk hn] at this; cases this
  · refine ⟨rfl, ?_⟩
    rcases Nat.lt_trichotomy k k2 with h | h | h
    · exact absurd hn (of_decide_eq_false (hb2 _ (by rw [List.mem_take_iff_getElem]; exact ⟨k, by omega, rfl⟩)))
    · exact h
    · exact absurd hn2 (of_decide_eq_false (hb _ (by rw [List.mem_take_iff_getElem]; exact ⟨k2, by omega, rfl⟩)))
  · have := ha ds[i2] (by rw [List.mem_take_iff_getElem]; exact ⟨i2, by omega, rfl⟩)
    rw [conB_mem hk2 hn2] at this; cases this
def arP (w : List Int) (n : Nat) (ds : List Dt) : Prop := ∃ (i k : Nat) (h : At w ds i k), ((ds[i]'h.1).cons[k]'h.2.1).fields.length = n
theorem arP_at {w : List Int} {ds : List Dt} {i k n : Nat} (h : At w ds i k) : arP w n ds ↔ ((ds[i]'h.1).cons[k]'h.2.1).fields.length = n := by
  constructor
  · rintro ⟨i2, k2, h2, e⟩
    obtain ⟨rfl,rfl⟩:=h.one h2
    exact e
  · exact fun e => ⟨i, k, h, e⟩
theorem arP_no {w : List Int} {ds : List Dt} {n : Nat} (h : consB w ds = false) : ¬ arP w n ds := fun ⟨_, _, h2, _⟩ => by
  rw [h2.yes] at h; cases h
def ext (k : Int) (i : Nat) (name arg : List Int) : List (List Int) :=
  if k = 4 then [name] else if k = 6 ∨ k = 18 then (if i = 1 then [name] else []) else if k = 7 then (if i = 0 then [name, arg] else [name]) else []
mutual
def scP (ds : List Dt) (seen : List (List Int)) : Xp → Prop
  | .mk k _ name arg _ kids arms => (k = 3 → name ∈ seen) ∧ (k = 15 → arP name kids.length ds) ∧ scE ds seen k name arg 0 kids ∧ scA ds seen arms
def scE (ds : List Dt) (seen : List (List Int)) (k : Int) (name arg : List Int) (i : Nat) : List Xp → Prop
  | [] => True
  | x :: r => scP ds (seen ++ ext k i name arg) x ∧ scE ds seen k name arg (i + 1) r
def scM (ds : List Dt) (seen : List (List Int)) : Arm → Prop
  | .mk con vars body => (con.length ≠ 0 → arP con vars.length ds) ∧ scP ds (seen ++ vars) body
def scA (ds : List Dt) (seen : List (List Int)) : List Arm → Prop
  | [] => True
  | a :: r => scM ds seen a ∧ scA ds seen r
end
theorem scE_iff {ds : List Dt} {seen : List (List Int)} {k : Int} {name arg : List Int} : ∀ (l : List Xp) (i : Nat), scE ds seen k name arg i l ↔ ∀ (j : Nat) (h : j < l.length), scP ds (seen ++ ext k (i + j) name arg) l[j]
  | [], i => by simp [scE]
  | x :: r, i => by
    rw [scE,scE_iff r (i + 1)]
    constructor
    · rintro ⟨h1, h2⟩ j hj
      cases j with
      | zero => exact h1
      | succ j => have := h2 j (by simpa using hj); rwa [show i + 1 + j = i + (j + 1) by omega] at this
    · intro h
      refine ⟨h 0 (by simp),fun j hj=>?_⟩
      have:=h (j + 1) (by simpa using hj)
      rwa [show i + (j + 1) = i + 1 + j by omega] at this
theorem scA_iff {ds : List Dt} {seen : List (List Int)} : ∀ l : List Arm, scA ds seen l ↔ ∀ a ∈ l, scM ds seen a
  | [] => by simp [scA]
  | t :: r => by simp [scA, scA_iff r]
theorem scP_mk {ds : List Dt} {seen : List (List Int)} {k n : Int} {name arg lit : List Int} {kids : List Xp} {arms : List Arm} : scP ds seen (.mk k n name arg lit kids arms) ↔
    (k = 3 → name ∈ seen) ∧ (k = 15 → arP name kids.length ds) ∧ (∀ (j : Nat) (h : j < kids.length), scP ds (seen ++ ext k j name arg) kids[j]) ∧ ∀ a ∈ arms, scM ds seen a := by
  rw [scP,scE_iff,scA_iff]
  simp only [Nat.zero_add]
noncomputable instance (ds : List Dt) (seen : List (List Int)) (e : Xp) : Decidable (scP ds seen e) := Classical.propDecidable _
noncomputable instance (ds : List Dt) (seen : List (List Int)) (e : Arm) : Decidable (scM ds seen e) := Classical.propDecidable _
set_option maxHeartbeats 8000000 in
theorem implPlace {ds : List Dt} {w : List Int} (hw : okB w) (ho : okN ds) (hl : ds.length ≤ 1000000000) (hc : ∀ d ∈ ds, d.cons.length ≤ 1000000000) (s : Store) :
    ∃ v s', callF (tab tbl) prim 142 [.imm false ds.length (ds.flatMap Dt.az), stv w] s = some (v, s') ∧ ((∃ a b : Nat, v = .tup [.int .i64 a, .int .i64 b, .bool true] ∧ s' = s ∧ At w ds a b) ∨ (∃ a b : Int, v = .tup [.int .i64 a, .int .i64 b, .bool false] ∧ s' = s ∧ consB w ds = false)) := by
  unfold stv
  refine funZ rfl za zt ?_
  repeat' (first|refine zw ?_|refine zn (fun hb=>?_) (fun hb=>?_)|refine zx ?_|refine zo ?_|exact zi|fail)
  refine wLoop (fun m st=>∃ (q:Nat) (y5 y6 y7 y8 y12 y13 y14 y15 y16 y17:AV) (T:List Ae.Obj),(m:Int) = ds.length - q∧q ≤ ds.length∧(∀ d ∈ ds.take q,conB w d.cons = false) ∧
    st = ⟨[.imm false ds.length (ds.flatMap Dt.az), .str (bst w), .int .i64 0, .int .i64 0, .bool false, y5, y6, y7, y8, .imm false ds.length (ds.flatMap Dt.az), .int .i64 ds.length, .int .i64 q, y12, y13, y14, y15, y16, y17], frm s T⟩) ds.length ?_ ?_
  · exact ⟨0, _, _, _, _, _, _, _, _, _, _, _, by omega, by omega, by simp, rfl⟩
  · rintro m st ⟨q, y5, y6, y7, y8, y12, y13, y14, y15, y16, y17, T, hm, hq, hno, rfl⟩
    by_cases hlt:q < ds.length
    · obtain ⟨ha1, ha2⟩ := fm_at Dt.len hlt
      have hx:=List.getElem_mem hlt
      have hcl:=hc _ hx
      have hon:=(ho ds[q] hx).2
      have hat:=fun (r:Nat) (h1:r < ds[q].cons.length) (h2:ds[q].cons[r].name = w) (h3:∀ c ∈ ds[q].cons.take r,decide (c.name = w) = false)=>(⟨hlt,h1,h2,hno,h3⟩:At w ds q r)
      have htk:=fun h=>take_all (p:=fun d:Dt=>conB w d.cons) hlt hno h
      generalize ds[q] = d at *
      obtain ⟨name,vars,cons⟩:=d
      simp only [Dt.az,bsl] at ha2
      dsimp only at hcl hon htk hat
      repeat' (first|refine zw ?_|refine zn (fun hb=>?_) (fun hb=>?_)|refine zx ?_|refine zof (zA @ha1 (@ha2)) ?_|exact zi|fail)
      refine wLoop (fun m2 st=>∃ (r:Nat) (y7 y8 y16 y17:AV) (T:List Ae.Obj),(m2:Int) = cons.length - r∧r ≤ cons.length∧(∀ c ∈ cons.take r,decide (c.name = w) = false) ∧
        ∃ y5 y6, st = ⟨[.imm false ds.length (ds.flatMap Dt.az), .str (bst w), .int .i64 0, .int .i64 0, .bool false, .int .i64 q, y6, y7, y8, .imm false ds.length (ds.flatMap Dt.az), .int .i64 ds.length, .int .i64 q, y5, .imm false cons.length (cons.flatMap Con.az), .int .i64 cons.length, .int .i64 r, y16, y17], frm s T⟩) cons.length ?_ ?_
      · exact ⟨0, _, _, _, _, _, by omega, by omega, by simp, _, _, rfl⟩
      · rintro m2 st ⟨r, y7, y8, y16, y17, T2, hm2, hr, hno2, y5, y6, rfl⟩
        by_cases hlt2:r < cons.length
        · obtain ⟨hb1, hb2⟩ := fm_at Con.len hlt2
          have hx2:=List.getElem_mem hlt2
          have he:=bst_eql (hon _ hx2).2 hw.2
          have htk2:=fun h=>take_all (p:=fun c:Con=>decide (c.name = w)) hlt2 hno2 h
          have hat2:=fun h:cons[r].name = w=>hat r hlt2 h hno2
          generalize cons[r] = c at *
          obtain ⟨cname,cfields⟩:=c
          simp only [Con.az,bsl] at hb2
          dsimp only at he htk2 hat2
          have h8:=toB8 cname
          have h8l:=by8_len cname
          repeat' (first|refine zw ?_|refine zn (fun hb=>?_) (fun hb=>?_)|refine zx ?_|refine zof (zA @hb1 (zA @hb2 (zA @h8 (@h8l)))) ?_|exact zi|fail)
          all_goals
            have hbe:(((bst cname).toList == (bst w).toList) = true) = ((bst cname).toList = (bst w).toList):=by simp
            rw [he] at hbe
            first
            | (exact .inl ⟨_, _, rfl, rfl, hat2 (by simpa using hbe.mpr hb)⟩)
            | (exact loopNor (m2 - 1) (by omega) ⟨r + 1, _, _, _, _, _, by omega, by omega, htk2 (decide_eq_false fun h => hb (hbe.mp (decide_eq_true h))), _, _, rfl⟩)
        · obtain rfl : r = cons.length := by omega
          rw [List.take_length] at hno2
          repeat' (first|refine zw ?_|refine zn (fun hb=>?_) (fun hb=>?_)|refine zx ?_|refine zo ?_|exact zi|fail)
          exact loopNor (m - 1) (by omega) ⟨q + 1,_,_,_,_,_,_,_,_,_,_,_,by omega,by omega,htk (List.any_eq_false.2 fun c hcx=>by rw [hno2 c hcx]; simp),rfl⟩
    · obtain rfl : q = ds.length := by omega
      rw [List.take_length] at hno
      repeat' (first|refine zw ?_|refine zn (fun hb=>?_) (fun hb=>?_)|refine zx ?_|refine zo ?_|exact zi|fail)
      exact .inr ⟨_,_,rfl,rfl,List.any_eq_false.2 fun c hcx=>by rw [hno c hcx]; simp⟩
set_option maxHeartbeats 8000000 in
theorem specPlace {ds : List Dt} {w : List Int} (hw : okB w) (ho : okN ds) (hl : ds.length ≤ 1000000000) (hc : ∀ d ∈ ds, d.cons.length ≤ 1000000000) (s : Store) :
    ∃ v s', callF (tab tbl) prim 60 [.imm false ds.length (ds.flatMap Dt.az), .imm false w.length (by8 w)] s = some (v, s') ∧ ((∃ a b : Nat, v = .tup [.int .i64 a, .int .i64 b] ∧ s' = s ∧ At w ds a b) ∨ (v = .tup [.int .i64 (-1), .int .i64 (-1)] ∧ s' = s ∧ consB w ds = false)) := by
  have hw8:=toB8 w
  have hw8l:=by8_len w
  refine funZ rfl za zt ?_
  repeat' (first|refine zw ?_|refine zn (fun hb=>?_) (fun hb=>?_)|refine zx ?_|refine zo ?_|exact zi|fail)
  refine wLoop (fun m st=>∃ (q:Nat) (y2 y3 y5 y6 y7 y8:AV),(m:Int) = ds.length - q∧q ≤ ds.length∧(∀ d ∈ ds.take q,conB w d.cons = false) ∧
    st = ⟨[.imm false ds.length (ds.flatMap Dt.az), .imm false w.length (by8 w), y2, y3, .int .i64 q, y5, y6, y7, y8], frm s []⟩) ds.length ?_ ?_
  · exact ⟨0, _, _, _, _, _, _, by omega, by omega, by simp, rfl⟩
  · rintro m st ⟨q, y2, y3, y5, y6, y7, y8, hm, hq, hno, rfl⟩
    by_cases hlt:q < ds.length
    · have hx := List.getElem_mem hlt
      have hca:=cs_at hlt
      have hcl:=hc _ hx
      repeat' (first|refine zw ?_|refine zn (fun hb=>?_) (fun hb=>?_)|refine zx ?_|refine zof @hca ?_|exact zi|fail)
      refine wLoop (fun m2 st=>∃ (r:Nat) (y2 y3 y6 y7 y8:AV),(m2:Int) = ds[q].cons.length - r∧r ≤ ds[q].cons.length∧(∀ c ∈ ds[q].cons.take r,decide (c.name = w) = false) ∧
        st = ⟨[.imm false ds.length (ds.flatMap Dt.az), .imm false w.length (by8 w), y2, y3, .int .i64 q, .int .i64 r, y6, y7, y8], frm s []⟩) ds[q].cons.length ?_ ?_
      · exact ⟨0, _, _, _, _, _, by omega, by omega, by simp, rfl⟩
      · rintro m2 st ⟨r, y2, y3, y6, y7, y8, hm2, hr, hno2, rfl⟩
        by_cases hlt2:r < ds[q].cons.length
        · have hcn := cn_at hlt2
          have hx2:=List.getElem_mem hlt2
          have he:=bst_eql ((ho _ hx).2 _ hx2).2 hw.2
          have htk2:=fun h=>take_all (p:=fun c:Con=>decide (c.name = w)) hlt2 hno2 h
          have hfst:ds[q].cons[r].name = w→At w ds q r:=fun hn=>⟨hlt,hlt2,hn,hno,hno2⟩
          generalize ds[q].cons[r].name = name at *
          have h8:=toB8 name
          have h8l:=by8_len name
          repeat' (first|refine zw ?_|refine zn (fun hb=>?_) (fun hb=>?_)|refine zx ?_|refine zof (zA @hca (zA @hcn (zA @h8 (zA @h8l (zA @hw8 (@hw8l)))))) ?_|exact zi|fail)
          all_goals
            have hbe:(((bst name).toList == (bst w).toList) = true) = ((bst name).toList = (bst w).toList):=by simp
            rw [he] at hbe
            first
            | (exact .inl ⟨_, _, rfl, rfl, hfst (by simpa using hbe.mpr hb)⟩)
            | (exact loopNor (m2 - 1) (by omega) ⟨r + 1, _, _, _, _, _, by omega, by omega, htk2 (decide_eq_false fun h => hb (hbe.mp (decide_eq_true h))), rfl⟩)
        · obtain rfl : r = ds[q].cons.length := by omega
          rw [List.take_length] at hno2
          repeat' (first|refine zw ?_|refine zn (fun hb=>?_) (fun hb=>?_)|refine zx ?_|refine zof @hca ?_|exact zi|fail)
          exact loopNor (m - 1) (by omega) ⟨q + 1,_,_,_,_,_,_,by omega,by omega,take_all (p:=fun d:Dt=>conB w d.cons) hlt hno (List.any_eq_false.2 fun c hcx=>by rw [hno2 c hcx]; simp),rfl⟩
    · obtain rfl : q = ds.length := by omega
      rw [List.take_length] at hno
      repeat' (first|refine zw ?_|refine zn (fun hb=>?_) (fun hb=>?_)|refine zx ?_|refine zo ?_|exact zi|fail)
      exact .inr ⟨rfl,rfl,List.any_eq_false.2 fun c hcx=>by rw [hno c hcx]; simp⟩
def SlF (D : Nat) (T : List Ae.Obj) (e sz : Nat) (v : AV) (n : Nat) (cs : List AV) : Prop := (v = .imm true n cs ∧ cs.length = n * sz ∧ cellsOk 0 cs = true) ∨ SlAt D T e sz v n cs
theorem slF_app {D e sz n m bytes : Nat} {s : Store} {T : List Ae.Obj} {v y : AV} {cs ys : List AV} (h : SlF D T e sz v n cs) (hD : D = s.low.length + 1) (hsz : 0 < sz) (hy : srcOf (frm s T) y = some (m, ys)) (hok : cellsOk 0 ys = true) (hl : ys.length = m * sz) (hb : (n + m) * bytes ≤ 140737488355328) :
    ∃ v' S', appV (frm s T) e sz bytes v y = some (v', S') ∧ ∃ T', S' = frm s T' ∧ SlF D T' e sz v' (n + m) (cs ++ ys) ∧ Oth e T T' := by
  rcases h with ⟨rfl, h0, hc⟩ | h
  · have hok' : ∀ d, cellsOk d ys = true := fun d => cellsOk_mono (Nat.zero_le _) hok
    have hc':∀ d,cellsOk d cs = true:=fun d=>cellsOk_mono (Nat.zero_le _) hc
    have hcy:∀ d,cellsOk d (cs ++ ys) = true:=fun d=>by simp only [cellsOk,List.all_append,Bool.and_eq_true] at hok' hc' ⊢; exact ⟨hc' d,hok' d⟩
    have hla:(cs ++ ys).length = (n + m) * sz:=by rw [List.length_append,h0,hl,Nat.add_mul]
    simp only [appV,hy,Option.bind_some,appTo]
    rw [if_pos ⟨hb,hok' _,h0,hl⟩]
    by_cases hm:m = 0
    · subst hm
      have hys:ys = []:=List.length_eq_zero_iff.1 (by simpa using hl)
      subst hys
      rw [if_pos rfl]
      exact ⟨_,_,rfl,T,rfl,.inl ⟨by simp,by simpa using h0,by simpa using hc⟩,.refl _ _⟩
    · rw [if_neg hm]
      simp only [newArr,hcy,hla,and_self,if_true,frm_len,frm_top,frm_new]
      refine ⟨_,_,rfl,_,rfl,.inr ⟨hla,.inr ⟨T.length,0,0,cs ++ ys,by rw [hD],by simp,?_,by omega⟩⟩,oth_snoc _ _ _⟩
      rw [List.drop_zero]
      exact List.take_of_length_le (by omega)
  · obtain ⟨v', S', e1, T', rfl, h1, h2, _⟩ := slAt_app h hD hsz hy hok hl hb
    exact ⟨_,_,e1,T',rfl,.inr h1,h2⟩
theorem slF_frz {D e sz n : Nat} {s : Store} {T : List Ae.Obj} {v : AV} {cs : List AV} (h : SlF D T e sz v n cs) (hD : D = s.low.length + 1) (hl : AV.lowL 0 cs = true) : ∃ T', frz1 (frm s T) v = some (.imm false n cs, frm s T') ∧ Oth e T T' := by
  rcases h with ⟨rfl, _, _⟩ | h
  · exact ⟨T, rfl, .refl _ _⟩
  · exact slAt_frz h hD hl
section
variable {ds : List Dt} {w : List Int} (hw : okB w) (ho : okN ds) (hl : ds.length ≤ 1000000000) (hc : ∀ d ∈ ds, d.cons.length ≤ 1000000000) (s : Store)
include hw ho hl hc
theorem place_or : (∃ i k, At w ds i k) ∨ consB w ds = false := by
  obtain ⟨_,_,_,⟨a,b,_,_,h⟩ | ⟨_,_,h⟩⟩:=specPlace hw ho hl hc noStore
  · exact .inl ⟨a, b, h⟩
  · exact .inr h
theorem implPlace1 {i k : Nat} (h : At w ds i k) : callF (tab tbl) prim 142 [.imm false ds.length (ds.flatMap Dt.az), stv w] s = some (.tup [.int .i64 i, .int .i64 k, .bool true], s) := by
  obtain ⟨_,_,e,⟨a,b,rfl,rfl,h2⟩ | ⟨_,_,_,_,h2⟩⟩:=implPlace hw ho hl hc s
  · obtain ⟨rfl, rfl⟩ := h.one h2
    exact e
  · rw [h.yes] at h2; cases h2
theorem implPlace0 (h : consB w ds = false) : ∃ v s', callF (tab tbl) prim 142 [.imm false ds.length (ds.flatMap Dt.az), stv w] s = some (v, s') ∧ ∃ a b : Int, v = .tup [.int .i64 a, .int .i64 b, .bool false] ∧ s' = s := by
  obtain ⟨_,_,e,⟨a,b,rfl,rfl,h2⟩ | ⟨a,b,rfl,rfl,h2⟩⟩:=implPlace hw ho hl hc s
  · rw [h2.yes] at h; cases h
  · exact ⟨_, _, e, a, b, rfl, rfl⟩
theorem specPlace1 {i k : Nat} (h : At w ds i k) : callF (tab tbl) prim 60 [.imm false ds.length (ds.flatMap Dt.az), .imm false w.length (by8 w)] s = some (.tup [.int .i64 i, .int .i64 k], s) := by
  obtain ⟨_,_,e,⟨a,b,rfl,rfl,h2⟩ | ⟨_,_,h2⟩⟩:=specPlace hw ho hl hc s
  · obtain ⟨rfl, rfl⟩ := h.one h2
    exact e
  · rw [h.yes] at h2; cases h2
theorem specPlace0 (h : consB w ds = false) : callF (tab tbl) prim 60 [.imm false ds.length (ds.flatMap Dt.az), .imm false w.length (by8 w)] s = some (.tup [.int .i64 (-1), .int .i64 (-1)], s) := by
  obtain ⟨_,_,e,⟨a,b,rfl,rfl,h2⟩ | ⟨rfl,rfl,h2⟩⟩:=specPlace hw ho hl hc s
  · rw [h2.yes] at h; cases h
  · exact e
end
set_option maxHeartbeats 4000000 in
theorem implClip {f : Bool} {n : Nat} {cs : List AV} (h : cs.length = n) (s : Store) : callF (tab tbl) prim 140 [.imm f n cs] s = some (.imm true n cs, s) := by
  have ht:cs.take n = cs:=List.take_of_length_le (by omega)
  have hz:((n:Int) - 0).toNat = n:=by omega
  refine funY rfl (zaf (zA @hz (@ht))) zt ?_
  repeat' (first|refine zw ?_|refine zn (fun hb=>?_) (fun hb=>?_)|refine zx ?_|refine zof (zA @hz (@ht)) ?_|exact zi|fail)
  exact isI rfl (pop_frm _ _)
def scC (ds : List Dt) (d : Nat) (e : Xp) : Prop := ∀ (p : AV) (s : Store) (f : Bool) (seen : List (List Int)), PtrAt s p e.az → (∀ v ∈ seen, okB v) → seen.length ≤ 3 * d →
  callF (tab tbl) prim 85 [p, .imm false ds.length (ds.flatMap Dt.az), .imm f seen.length (seen.map stv)] s = some (.bool (decide (scP ds seen e)), s)
/-! ### a pointer looked through, under a guard -/
section
variable {call : CallT} {s S : Store} {p : AV} {cs ls vs : List AV} {x : Opd} {dv : Option Nat} {r : List AO} {g : Nat} {w : Bool}
theorem oneG {op : AOp} (hj : ls.getD g .undef = .bool w) : evOne call ⟨op, dv, some (g, w)⟩ ls vs S = evOne call ⟨op, dv, none⟩ ls vs S := by
  simp only [evOne,hj,if_true]
theorem oGPNil {Q : List AV → Store → Prop} (h : PtrAt s p cs) (hj : ls.getD g .undef = .bool w) (hx : rd ls vs x = p) (k : Nx call dv r ls vs p S Q) : WpO (evOps call (⟨.nilck x, dv, some (g, w)⟩ :: r) ls vs S) Q := oOp ((oneG hj).trans (pNil h hx)) rfl k
theorem oGPFp {j : Nat} {Q : List AV → Store → Prop} (h : PtrAt s p cs) (hj : ls.getD g .undef = .bool w) (hx : rd ls vs x = p) (k : Nx call dv r ls vs (padd p j) S Q) : WpO (evOps call (⟨.fptr j x, dv, some (g, w)⟩ :: r) ls vs S) Q := oOp ((oneG hj).trans (pFp h hx)) rfl k
theorem oGPLd {j : Nat} {c : AV} {T : List Ae.Obj} {Q : List AV → Store → Prop} (h : PtrAt s p cs) (hj : ls.getD g .undef = .bool w) (hx : rd ls vs x = padd p j) (hc : cs[j]? = some c) (k : Nx call dv r ls vs c (frm s T) Q) : WpO (evOps call (⟨.load none x, dv, some (g, w)⟩ :: r) ls vs (frm s T)) Q := oOp ((oneG hj).trans (pLd h hx hc)) rfl k
end
theorem zpg {S P Q : Prop} (f : S) (q : Q) (h : S → Q → P := by intro f; first
  | ((with_reducible first | apply oGPNil f | apply oGPFp f); (focus (exact zg)); (focus (exact zr)))
  | ((with_reducible apply oGPLd f); (focus (exact zg)); (focus (exact zr)); (focus rfl)) | fail) : P := h f q
theorem frz_slF {D e sz n : Nat} {T : List Ae.Obj} {v : AV} {cs : List AV} (h : SlF D T e sz v n cs) (s : Store) : frz s v = frz1 s v := by
  rcases h with ⟨rfl, _, _⟩ | h
  · rfl
  · exact frz_sl h s
theorem scCall {ds : List Dt} {d : Nat} {e : Xp} (ih : scC ds d e) {p : AV} {s : Store} {T : List Ae.Obj} (hp : ∀ T, PtrAt (frm s T) p e.az) {v : AV} {n : Nat} {seen : List (List Int)} (hS : SlF (s.low.length + 1) T 9 1 v n (seen.map stv)) (hso : ∀ v ∈ seen, okB v) (hsl : seen.length ≤ 3 * d) (hn : n = seen.length) :
    ∃ v3 S3, callF (tab tbl) prim 85 [p, .imm false ds.length (ds.flatMap Dt.az), v] (frm s T) = some (v3, S3) ∧ v3 = .bool (decide (scP ds seen e)) ∧ ∃ T3, S3 = frm s T3 ∧ Oth 9 T T3 := by
  subst hn
  obtain ⟨T',h1,h2⟩:=slF_frz (s:=s) hS rfl (stv_low seen)
  have h4:=frz_slF hS (frm s T)
  rw [h1] at h4
  have e1:frzs (frm s T) [p,.imm false ds.length (ds.flatMap Dt.az),v] = some ([p,.imm false ds.length (ds.flatMap Dt.az),.imm false seen.length (seen.map stv)],frm s T'):=frzs_cons ((hp T).frz _) (frzs_cons frz_imm (frzs_cons h4 frzs_nil))
  have e2:frzs (frm s T') [p,.imm false ds.length (ds.flatMap Dt.az),.imm false seen.length (seen.map stv)] = some ([p,.imm false ds.length (ds.flatMap Dt.az),.imm false seen.length (seen.map stv)],frm s T'):=frzs_cons ((hp T').frz _) (frzs_cons frz_imm (frzs_cons frz_imm frzs_nil))
  exact ⟨_,_,callF_frz (fc:=c85) rfl rfl e1 e2 (ih p (frm s T') false seen (hp T') hso hsl),rfl,T',rfl,h2⟩
theorem scM_mk {ds : List Dt} {seen : List (List Int)} {con : List Int} {vars : List (List Int)} {body : Xp} : scM ds seen (.mk con vars body) ↔ (con.length ≠ 0 → arP con vars.length ds) ∧ scP ds (seen ++ vars) body := by rw [scM]
set_option maxHeartbeats 8000000 in
theorem implArmScope {ds : List Dt} (ho : okN ds) (hl : ds.length ≤ 1000000000) (hc : ∀ d ∈ ds, d.cons.length ≤ 1000000000) {con : List Int} {vars : List (List Int)} {body : Xp} (hcon : okB con) (hvo : ∀ v ∈ vars, okB v) (hvl : vars.length ≤ 3) {d : Nat} (hd : d ≤ 40) (ih : scC ds (d + 1) body)
    {p : AV} {s : Store} (hp : PtrAt s p (Arm.mk con vars body).az) {f : Bool} {seen : List (List Int)} (hso : ∀ v ∈ seen, okB v) (hsl : seen.length ≤ 3 * d) :
    callF (tab tbl) prim 143 [p, .imm false ds.length (ds.flatMap Dt.az), .imm f seen.length (seen.map stv)] s = some (.bool (decide (scM ds seen (.mk con vars body))), s) := by
  simp only [Arm.az,bsl] at hp
  have hp0:=hp
  have hB:=fun T v n=>scCall (s:=s) (T:=T) (v:=v) (n:=n) (p:=padd p 2) ih (fun T=>(PtrAt.sub (a:=[AV.imm false con.length (by8 con),AV.imm false vars.length (vars.map fun l=>.imm false l.length (by8 l))]) (n:=2) hp rfl).frm T) (seen:=seen ++ vars)
  have hso2:∀ v ∈ seen ++ vars,okB v:=fun v hv=>by rcases List.mem_append.1 hv with h | h; exact hso v h; exact hvo v h
  have tc:=toB8 con
  have lc:=by8_len con
  have hclip:=implClip (f:=false) (n:=seen.length) (cs:=seen.map stv) (by simp)
  have key:∀ (y4 y5 y6 y8 y9 y10 y14:AV) (T:List Ae.Obj),Wp (exS (callF (tab tbl) prim) (.loop (loopAt c143 0)) ⟨[p,.imm false ds.length (ds.flatMap Dt.az),.imm false seen.length (seen.map stv),.bool false,y4,y5,y6,.imm true seen.length (seen.map stv),y8,y9,y10,.imm false vars.length (vars.map fun l=>.imm false l.length (by8 l)),.int .i64 vars.length,.int .i64 0,y14],frm s T⟩)
      (fun e st => e = .exit 0 ∧ ∃ y4 y5 y6 v7 y8 y9 y10 y13 y14 T, SlF (s.low.length + 1) T 9 1 v7 (seen ++ vars).length ((seen ++ vars).map stv) ∧ st = ⟨[p, .imm false ds.length (ds.flatMap Dt.az), .imm false seen.length (seen.map stv), .bool false, y4, y5, y6, v7, y8, y9, y10, .imm false vars.length (vars.map fun l => .imm false l.length (by8 l)), .int .i64 vars.length, y13, y14], frm s T⟩) := by
    intro y4 y5 y6 y8 y9 y10 y14 T
    simp only [loopAt,loops,c143,List.nil_append,List.append_nil,List.getD_cons_zero,List.cons_append]
    refine wLoop (fun m st=>∃ (q:Nat) (v7 y8 y14:AV) (T:List Ae.Obj),(m:Int) = vars.length - q∧q ≤ vars.length∧SlF (s.low.length + 1) T 9 1 v7 (seen.length + q) ((seen ++ vars.take q).map stv) ∧
      st = ⟨[p, .imm false ds.length (ds.flatMap Dt.az), .imm false seen.length (seen.map stv), .bool false, y4, y5, y6, v7, y8, y9, y10, .imm false vars.length (vars.map fun l => .imm false l.length (by8 l)), .int .i64 vars.length, .int .i64 q, y14], frm s T⟩) vars.length ?_ ?_
    · exact ⟨0, _, _, _, _, by omega, by omega, .inl ⟨by simp, by simp, stv_ok _⟩, rfl⟩
    · rintro m st ⟨q, v7, y8, y14, T, hm, hq, hS, rfl⟩
      by_cases hlt:q < vars.length
      · have ha1 := map_at (ev := fun l : List Int => AV.imm false l.length (by8 l)) hlt
        have ha2:=ha1.2
        have ha3:=fm_one (f:=fun l:List Int=>AV.imm false l.length (by8 l)) hlt
        have htk:=List.take_succ_eq_append_getElem hlt
        generalize vars[q] = x at *
        have tx:=toB8 x
        have lx:=by8_len x
        have hA:=slF_app (s:=s) (bytes:=16) (y:=.imm true 1 [stv x]) (ys:=[stv x]) (m:=1) hS rfl (by omega) rfl rfl rfl (by omega)
        repeat' (first|refine zw ?_|refine zn (fun hb=>?_) (fun hb=>?_)|refine zx ?_|(refine zka (hA) ?_; rintro _ _ ⟨T2, rfl, hS2, hO2⟩)|refine zof (zA @ha1.1 (zA @ha2 (zA @ha3 (zA @tx (@lx))))) ?_|exact zi|fail)
        refine loopNor (m - 1) (by omega) ⟨q + 1,_,_,_,T2,by omega,by omega,?_,rfl⟩
        rw [htk]
        simpa [Nat.add_assoc] using hS2
      · obtain rfl : q = vars.length := by omega
        repeat' (first|refine zw ?_|refine zn (fun hb=>?_) (fun hb=>?_)|refine zx ?_|refine zo ?_|exact zi|fail)
        rw [List.take_length] at hS
        exact ⟨rfl,_,_,_,_,_,_,_,_,_,T,by simpa using hS,rfl⟩
  have fin:∀ (v7:AV) (T:List Ae.Obj),SlF (s.low.length + 1) T 9 1 v7 (seen ++ vars).length ((seen ++ vars).map stv)→∃ v3 S3,callF (tab tbl) prim 85 [padd p 2,.imm false ds.length (ds.flatMap Dt.az),v7] (frm s T) = some (v3,S3)∧v3 = .bool (decide (scP ds (seen ++ vars) body))∧∃ T3,S3 = frm s T3:=by
    intro v7 T hS
    obtain ⟨v3,S3,e,h1,T3,h2,_⟩:=hB T _ _ hS hso2 (by rw [List.length_append]; omega) rfl
    exact ⟨v3,S3,e,h1,T3,h2⟩
  have hM:(con.length ≠ 0→arP con vars.length ds)→decide (scP ds (seen ++ vars) body) = decide (scM ds seen (.mk con vars body)):=fun h=>by
    by_cases h2:scP ds (seen ++ vars) body
    · rw [decide_eq_true h2, decide_eq_true (scM_mk.2 ⟨h, h2⟩)]
    · rw [decide_eq_false h2, decide_eq_false fun h3 => h2 (scM_mk.1 h3).2]
  have hM0:¬ (con.length ≠ 0→arP con vars.length ds)→false = decide (scM ds seen (.mk con vars body)):=fun h=>by rw [decide_eq_false fun h3=>h (scM_mk.1 h3).1]
  by_cases h0:con.length = 0
  · rw [← hM (fun h => absurd h0 h)]
    refine funY rfl (argsF rfl (frzs_cons (hp.frz s) (frzs_cons frz_imm (frzs_cons frz_imm frzs_nil)))) zt ?_
    repeat' (first|refine zw ?_|refine zn (fun hb=>?_) (fun hb=>?_)|refine zx ?_|refine zp hp ?_|refine zof (zA @tc (zA @lc (@hclip))) ?_|exact zi|fail)
    refine Wp.mono (key _ _ _ _ _ _ _ _) ?_
    rintro e st ⟨rfl, y4, y5, y6, v7, y8, y9, y10, y13, y14, T, hS, rfl⟩
    have hF:=fin v7 T hS
    repeat' (first|refine zw ?_|refine zn (fun hb=>?_) (fun hb=>?_)|refine zx ?_|refine zp hp ?_|(refine zk (hF) ?_; rintro _ _ ⟨rfl, T', rfl⟩)|refine zo ?_|exact zi|fail)
    all_goals exact isI (congrArg AV.bool (by simp_all)) rfl
  · rcases place_or hcon ho hl hc with ⟨i, k, hat⟩ | hno
    · have h1 := fun s => implPlace1 hcon ho hl hc s hat
      unfold stv at h1
      have hca:=(dt_at hat.1).2.2
      have hcf:=(con_at hat.2.1).2
      have hcl:=hc _ (List.getElem_mem hat.1)
      have harp:=arP_at (n:=vars.length) hat
      obtain ⟨hi1,hk1,_⟩:=hat
      generalize ds[i].cons[k].fields = fl at *
      by_cases hn:fl.length = vars.length
      · rw [← hM (fun _ => harp.2 hn)]
        refine funY rfl (argsF rfl (frzs_cons (hp.frz s) (frzs_cons frz_imm (frzs_cons frz_imm frzs_nil)))) zt ?_
        repeat' (first|refine zw ?_|refine zn (fun hb=>?_) (fun hb=>?_)|refine zx ?_|refine zp hp ?_|refine zpg hp ?_|refine zof (zA @tc (zA @lc (zA @hclip (zA @h1 (zA @hca (@hcf)))))) ?_|exact zi|fail)
        all_goals first | (exfalso; omega) | skip
        refine Wp.mono (key _ _ _ _ _ _ _ _) ?_
        rintro e st ⟨rfl, y4, y5, y6, v7, y8, y9, y10, y13, y14, T, hS, rfl⟩
        have hF:=fin v7 T hS
        repeat' (first|refine zw ?_|refine zn (fun hb=>?_) (fun hb=>?_)|refine zx ?_|refine zp hp ?_|(refine zk (hF) ?_; rintro _ _ ⟨rfl, T', rfl⟩)|refine zo ?_|exact zi|fail)
        all_goals exact isI (congrArg AV.bool (by simp_all)) rfl
      · rw [← hM0 (fun h => hn (harp.1 (h h0)))]
        refine funY rfl (argsF rfl (frzs_cons (hp.frz s) (frzs_cons frz_imm (frzs_cons frz_imm frzs_nil)))) zt ?_
        repeat' (first|refine zw ?_|refine zn (fun hb=>?_) (fun hb=>?_)|refine zx ?_|refine zp hp ?_|refine zpg hp ?_|refine zof (zA @tc (zA @lc (zA @hclip (zA @h1 (zA @hca (@hcf)))))) ?_|exact zi|fail)
        all_goals first | (exfalso; omega) | skip
    · have h1 := fun s => implPlace0 hcon ho hl hc s hno
      unfold stv at h1
      rw [← hM0 (fun h=>arP_no hno (h h0))]
      refine funY rfl (argsF rfl (frzs_cons (hp.frz s) (frzs_cons frz_imm (frzs_cons frz_imm frzs_nil)))) zt ?_
      repeat' (first|refine zw ?_|refine zn (fun hb=>?_) (fun hb=>?_)|refine zx ?_|refine zp hp ?_|(refine zk (h1 _) ?_; rintro _ _ ⟨a, b, rfl, rfl⟩)|refine zof (zA @tc (zA @lc (@hclip))) ?_|exact zi|fail)
      all_goals first | (exfalso; omega) | skip
end Go.Proofs.YtkjonfojileipaaGreatDoor.Gq
