/- What is said of an expression, for the program. The program's printed and SourceOk, whole. -/
import Derived.Test.YtkjonfojileipaaGreatDoorV5
import Derived.Test.YtkjonfojileipaaGreatDoorV10
set_option linter.unusedSimpArgs false
set_option linter.unusedVariables false
namespace Go.Proofs.YtkjonfojileipaaGreatDoor.Gq
open Go Go.Proofs Go.Proofs.YtkjonfojileipaaGreatDoor.Ae
attribute [local congr] obind_congr
attribute [local push_cast] exF argsV frzs frz frzL frz1 exS_reg exS_seq exS_cond exS_alt exS_block exS_loop exS_exit exS_ret exS_skip evReg evOps evOne evAct evOp rd putV st0 evEnd resV resL resOne oneOr frzR loadV storeV binV binI unV push_frm pop_frm frm_len frm_top frm_get_top frm_set_top frm_new AV.cells AV.lowB AV.lowL AV.isCell cellsOk set_len Option.bind_some Option.map_some Option.map_none List.getD_cons_zero List.getD_cons_succ List.nil_append List.cons_append List.append_nil List.length_cons List.length_nil List.set_cons_zero List.set_cons_succ List.map_cons List.map_nil List.replicate if_true if_false ite_true ite_false ite_self Bool.false_eq_true List.all_cons List.all_nil Bool.and_true Bool.true_and Bool.and_self Bool.and_eq_true List.getElem?_cons_zero List.getElem?_cons_succ List.drop_succ_cons List.drop_zero List.take_succ_cons List.take_zero true_and and_true and_self decide_true decide_false Bool.not_true Bool.not_false Prod.mk.injEq Option.some.injEq List.getElem?_drop optInt elems sliceV partsOf Nat.add_zero Nat.zero_add Nat.mul_one beq_self_eq_true litParts Bool.or_false Bool.false_or Bool.or_true Bool.true_or Bool.false_and Bool.and_false List.cons.injEq not_false_eq_true not_true_eq_false Nat.zero_le Nat.le_refl gt_iff_lt ge_iff_le List.drop_nil List.take_nil newBox List.length_append List.length_map bne_self_eq_false eq_self Nat.lt_add_one ne_eq false_implies Int.le_refl
section
variable {k n : Int} {name arg lit : List Int} {kids : List Xp} {arms : List Arm} {s : Store} {p : AV}
set_option maxHeartbeats 8000000 in
theorem say_Z (hc : k = 0 ∨ k = 1 ∨ k = 2 ∨ k = 3) (hp : PtrAt s p (zcs k n name arg lit kids arms)) (hn : inI n) (hll : lit.length ≤ 1000000000) :
    callF (tab tbl) prim 80 [p] s = some (.str (bst (if k = 0 then [117, 110, 105, 116] else if k = 1 then num n else if k = 2 then 34 :: (lit ++ [34]) else name)), s) := by
  have hi:=fun s=>itoaOk hn s
  have tn:=toB8 name
  have ln:=by8_len name
  have tl:=toB8 lit
  have ll:=by8_len lit
  have c1:=bst_cat (a:=[34]) (b:=lit) (by simp only [List.length_cons,List.length_nil]; omega)
  have c2:=bst_cat (a:=34 :: lit) (b:=[34]) (by simp only [List.length_cons,List.length_nil]; omega)
  refine funY rfl (argsF rfl (frzs_cons (hp.frz s) frzs_nil)) zt ?_
  repeat' (first|refine zw ?_|refine zn (fun hb=>?_) (fun hb=>?_)|refine zx ?_|refine zp hp ?_|refine zof (zA @hi (zA @tn (zA @ln (zA @tl (zA @ll (zA @k34 (zA @c1 (@c2)))))))) ?_|exact zi|fail)
  all_goals first
    | (exfalso; omega)
    | (refine isI ?_ rfl
       simp (disch := omega) only [if_pos, if_neg]
       done)
    | (refine isI ?_ rfl
       simp (disch := omega) only [if_pos, if_neg]
       rfl)
set_option maxHeartbeats 8000000 in
theorem say_C0 (hc : k = 15) (hp : PtrAt s p (zcs k n name arg lit [] arms)) : callF (tab tbl) prim 80 [p] s = some (.str (bst name), s) := by
  have hkw:=fun s=>implKindWord k s
  simp only [stvE] at hkw
  have tn:=toB8 name
  have ln:=by8_len name
  refine funY rfl (argsF rfl (frzs_cons (hp.frz s) frzs_nil)) zt ?_
  repeat' (first|refine zw ?_|refine zn (fun hb=>?_) (fun hb=>?_)|refine zx ?_|refine zp hp ?_|refine zo ?_|exact zi|fail)
  refine Wp.mono (sayKids (kids:=[]) hp (by simp) (fun x hx=>by cases hx) _ _ _ _ _ _ _ _ _ _ _ _ _ _ _ _ _ _ _ _ _ _ _ _) ?_
  rintro e st ⟨rfl, v2, y3, y12, y13, T, hS, rfl⟩
  obtain ⟨h0,⟨rfl,_⟩ | ⟨kk,off,ver,all,rfl,h2,h3,h4⟩⟩:=hS
  · repeat' (first|refine zw ?_|refine zn (fun hb=>?_) (fun hb=>?_)|refine zx ?_|refine zp hp ?_|refine zof (zA @hkw (zA @tn (@ln))) ?_|exact zi|fail)
  · repeat' (first|refine zw ?_|refine zn (fun hb=>?_) (fun hb=>?_)|refine zx ?_|refine zp hp ?_|refine zof (zA @hkw (zA @tn (@ln))) ?_|exact zi|fail)
set_option maxHeartbeats 8000000 in
theorem say_G0 (hc : k = 20) (hn : 0 ≤ n ∧ n ≤ 4) (hp : PtrAt s p (zcs k n name arg lit [] arms)) : callF (tab tbl) prim 80 [p] s = some (.str (bst (clw n)), s) := by
  have hkw:=fun s=>implKindWord k s
  simp only [stvE] at hkw
  obtain ⟨j,rfl⟩:∃ j:Nat,n = j:=⟨n.toNat,by omega⟩
  have hw:=cl_at (j:=j) (by omega)
  have ho:=fun s=>implCallWords s
  have hld:=hp.load (j:=1) (c:=AV.int .i64 (j:Int)) rfl
  simp only [loadV] at hld
  refine funY rfl (argsF rfl (frzs_cons (hp.frz s) frzs_nil)) zt ?_
  repeat' (first|refine zw ?_|refine zn (fun hb=>?_) (fun hb=>?_)|refine zx ?_|refine zp hp ?_|refine zo ?_|exact zi|fail)
  refine Wp.mono (sayKids (kids:=[]) hp (by simp) (fun x hx=>by cases hx) _ _ _ _ _ _ _ _ _ _ _ _ _ _ _ _ _ _ _ _ _ _ _ _) ?_
  rintro e st ⟨rfl, v2, y3, y12, y13, T, hS, rfl⟩
  obtain ⟨h0,⟨rfl,_⟩ | ⟨kk,off,ver,all,rfl,h2,h3,h4⟩⟩:=hS
  · repeat' (first|refine zw ?_|refine zn (fun hb=>?_) (fun hb=>?_)|refine zx ?_|refine zp hp ?_|refine zof (zA @hkw (zA @hw (zA @ho (@hld)))) ?_|exact zi|fail)
  · repeat' (first|refine zw ?_|refine zn (fun hb=>?_) (fun hb=>?_)|refine zx ?_|refine zp hp ?_|refine zof (zA @hkw (zA @hw (zA @ho (@hld)))) ?_|exact zi|fail)
end
theorem asay_mem {ks : List (List Int)} {p : List Int} {n : Nat} (h : p ∈ ks) (hl : (brk ks).length ≤ n) : p.length ≤ n := by have := brk_mem h; omega
theorem implSay : ∀ e : Xp, e.ok → e.sz ≤ 100000000 → ∀ d, xgd d e → (xsay e).length ≤ 1000000000 → sayC e := by
  refine Xp.ind fun k n name arg lit kids arms ih iha=>?_
  intro ho hsz d hg hl p s hp
  simp only [Xp.sz,szE_eq,szA_eq] at hsz
  have hln:=sizes_len Xp.sz kids
  have hla:=sizes_len Arm.sz arms
  simp only [Xp.ok,okE_iff,okA_iff] at ho
  obtain ⟨_,hn,hname,harg,hlit,⟨_,hoe⟩,⟨_,hoa⟩⟩:=ho
  rw [xgd,gdE_iff,gdA_iff] at hg
  obtain ⟨_,hX,hgk,hga⟩:=hg
  rw [az_zcs] at hp
  rw [xsay_eq] at hl ⊢
  have ihk:∀ L,(∀ x ∈ kids,xsay x ∈ L)→(brk L).length ≤ 1000000000→∀ x ∈ kids,sayC x:=fun L hL hb x hx=>ih x hx (hoe x hx) (by have:=sizes_mem Xp.sz hx; omega) (d + 1) (hgk x hx) (asay_mem (hL x hx) hb)
  have iham:∀ L,(∀ a ∈ arms,asay a ∈ L)→(brk L).length ≤ 1000000000→∀ a ∈ arms,armC a:=fun L hL hb a ha=>by
    have h1:=asay_mem (hL a ha) hb
    have h2:=sizes_mem Arm.sz ha
    have h3:=Arm.body_sz (a:=a)
    refine implArmSay ?_ (iha a ha (Arm.ok_body (hoa a ha)) (by omega) (d + 1) (agd_iff.1 (hga a ha)).2 ?_) h1
    · obtain ⟨con, vars, body⟩ := a
      have:=sizes_len List.length vars
      simp only [Arm.sz] at h2
      simp only [Arm.vars]
      omega
    · rw [asay_eq] at h1
      exact asay_mem (by simp) h1
  have hm:∀ (A B:List (List Int)),∀ x ∈ kids,xsay x ∈ A ++ (kids.map xsay ++ B):=fun A B x hx=>by
    simp only [List.mem_append]
    exact .inr (.inl (List.mem_map_of_mem hx))
  by_cases hz:k = 0 ∨ k = 1 ∨ k = 2 ∨ k = 3
  · rw [say_Z hz hp hn (by omega)]
    congr 4
    by_cases h0:k = 0
    · rw [if_pos h0, if_pos h0]
    · rw [if_neg h0, if_neg h0]
      by_cases h1:k = 1
      · rw [if_pos h1, if_pos h1]
      · rw [if_neg h1, if_neg h1]
        by_cases h2:k = 2
        · rw [if_pos h2, if_pos h2]
        · rw [if_neg h2, if_neg h2, if_pos (by omega)]
  rw [if_neg (by omega),if_neg (by omega),if_neg (by omega),if_neg (by omega)] at hl ⊢
  have hkn:∀ (h:(kids.length:Int) = kidsN k n),k ≠ 0∧k ≠ 1∧k ≠ 2∧k ≠ 3∧k ≠ 20∧0 ≤ k∧k ≤ 20→(0 < kids.length)∧(k = 18→kids.length = 2):=fun h g=>by
    unfold kidsN at h
    (repeat' split at h) <;> omega
  unfold hdX at hX
  rcases hX with ⟨hc, _, _, _, _, ha, hK⟩ | ⟨hc, _, _, _, _, _, ha, hK⟩ | ⟨hc, _, _, _, _, ha, hK⟩ | ⟨hc, _⟩ | ⟨hc, _, _, _, _, ha, ha2, hK⟩ | ⟨hc, _, _, _, _, ha, hK, _⟩ | ⟨hc, hnp, _, _, _, ha, hK⟩ | ⟨hc, _, _, _, _, ha, hK⟩
  · -- names
    have hk2:=hkn hK (by omega)
    have ha0:arms = []:=List.length_eq_zero_iff.1 ha
    subst ha0
    rcases hc with hc | hc | hc | hc
    · omega
    · rw [if_neg (by omega), if_neg (by omega), if_neg (by omega)] at hl ⊢
      have e:hds k n name arg ++ (kids.map xsay ++ [].map asay) = kw k :: [name] ++ kids.map xsay:=by simp [hds,hdw,hc]
      rw [e] at hl ⊢
      exact say_A4 hc hp (by omega) (ihk _ (fun x hx=>by rw [← e]; exact hm _ _ x hx) hl) hk2.1 hl
    · rw [if_neg (by omega), if_neg (by omega), if_neg (by omega)] at hl ⊢
      have e:hds k n name arg ++ (kids.map xsay ++ [].map asay) = kw k :: [name] ++ kids.map xsay:=by simp [hds,hdw,hc]
      rw [e] at hl ⊢
      exact say_A6 hc hp (by omega) (ihk _ (fun x hx=>by rw [← e]; exact hm _ _ x hx) hl) hk2.1 hl
    · rw [if_pos hc] at hl ⊢
      rw [← show kw k = kw 18 by rw [hc]] at hl ⊢
      refine say_T hc hp (by omega) (ihk _ (fun x hx=>?_) hl) (hk2.2 hc) hl
      refine List.mem_cons_of_mem _ ?_
      have h2:xsay x ∈ kids.map xsay:=List.mem_map_of_mem hx
      revert h2
      cases kids.map xsay with
      | nil => simp
      | cons a r => simp only [tryL, List.mem_cons]; rintro (h | h) <;> simp [h]
  · have hk2 := hkn hK (by omega)
    have ha0:arms = []:=List.length_eq_zero_iff.1 ha
    subst ha0
    rw [if_neg (by omega),if_neg (by omega),if_neg (by omega)] at hl ⊢
    have e:hds k n name arg ++ (kids.map xsay ++ [].map asay) = kw k :: [name,arg] ++ kids.map xsay:=by simp [hds,hdw,hc]
    rw [e] at hl ⊢
    exact say_B hc hp (by omega) (ihk _ (fun x hx=>by rw [← e]; exact hm _ _ x hx) hl) hk2.1 hl
  · have ha0 : arms = [] := List.length_eq_zero_iff.1 ha
    subst ha0
    rw [if_neg (by omega),if_neg (by omega)] at hl ⊢
    by_cases h0:kids.length = 0
    · have hk0 : kids = [] := List.length_eq_zero_iff.1 h0
      subst hk0
      rw [if_pos ⟨.inl hc,rfl⟩] at hl ⊢
      rw [show hdw k n name = name by simp [hdw,hc]]
      exact say_C0 hc hp
    · rw [if_neg (fun h => h0 h.2)] at hl ⊢
      have e:hds k n name arg ++ (kids.map xsay ++ [].map asay) = name :: kids.map xsay:=by simp [hds,hdw,hc]
      rw [e] at hl ⊢
      exact say_C hc hp (by omega) (ihk _ (fun x hx=>by rw [← e]; exact hm _ _ x hx) hl) (by omega) hl
  · omega
  · have hk2 := hkn hK (by omega)
    rw [if_neg (by omega),if_neg (by omega),if_neg (by omega)] at hl ⊢
    have e:hds k n name arg ++ (kids.map xsay ++ arms.map asay) = kw k :: (kids.map xsay ++ arms.map asay):=by simp [hds,hdw,hc]
    rw [e] at hl ⊢
    exact say_E hc hp (by omega) (ihk _ (fun x hx=>by rw [← e]; exact hm _ _ x hx) hl) hk2.1 (by omega) (iham _ (fun a ha=>by simp only [List.mem_cons,List.mem_append]; exact .inr (.inr (List.mem_map_of_mem ha))) hl) hl
  · have hk2 := hkn hK (by omega)
    rw [if_neg (by omega),if_pos hc] at hl ⊢
    exact say_F hc hp (by omega) (ihk _ (fun x hx=>List.mem_map_of_mem hx) hl) hk2.1 hl
  · have ha0 : arms = [] := List.length_eq_zero_iff.1 ha
    subst ha0
    rw [if_neg (by omega),if_neg (by omega)] at hl ⊢
    rcases hc with hc | hc | hc
    · omega
    · have hk2 := hkn hK (by omega)
      rw [if_neg (by omega)] at hl ⊢
      have e:hds k n name arg ++ (kids.map xsay ++ [].map asay) = opw n :: kids.map xsay:=by simp [hds,hdw,hc]
      rw [e] at hl ⊢
      exact say_O hc hp (by omega) (ihk _ (fun x hx=>by rw [← e]; exact hm _ _ x hx) hl) hk2.1 (by unfold numP at hnp; omega) hl
    · by_cases h0 : kids.length = 0
      · have hk0 : kids = [] := List.length_eq_zero_iff.1 h0
        subst hk0
        rw [if_pos ⟨.inr hc,rfl⟩] at hl ⊢
        rw [show hdw k n name = clw n by simp [hdw,hc]]
        exact say_G0 hc (by unfold numP at hnp; omega) hp
      · rw [if_neg (fun h => h0 h.2)] at hl ⊢
        have e:hds k n name arg ++ (kids.map xsay ++ [].map asay) = clw n :: kids.map xsay:=by simp [hds,hdw,hc]
        rw [e] at hl ⊢
        exact say_G hc hp (by omega) (ihk _ (fun x hx=>by rw [← e]; exact hm _ _ x hx) hl) (by omega) (by unfold numP at hnp; omega) hl
  · have hk2 := hkn hK (by omega)
    have ha0:arms = []:=List.length_eq_zero_iff.1 ha
    subst ha0
    rw [if_neg (by omega),if_neg (by omega),if_neg (by omega)] at hl ⊢
    have e:hds k n name arg ++ (kids.map xsay ++ [].map asay) = kw k :: kids.map xsay:=by
      have h4:¬ (k = 4 ∨ k = 6):=by omega
      have h7:¬ k = 7:=by omega
      have h15:¬ k = 15:=by omega
      have h19:¬ k = 19:=by omega
      have h20:¬ k = 20:=by omega
      simp only [hds,hdw,if_neg h4,if_neg h7,if_neg h15,if_neg h19,if_neg h20,List.map_nil,List.append_nil,List.cons_append,List.nil_append]
    rw [e] at hl ⊢
    exact say_H (by omega) hp (by omega) (ihk _ (fun x hx=>by rw [← e]; exact hm _ _ x hx) hl) hk2.1 hl
theorem fgd_of {vars : Int} {dv : List Int} {nd : Nat} (hnd : dv.length ≤ nd) : ∀ t : Ty, ∀ d, tgd d t = true → fldB vars dv t = true → fgd nd t := by
  refine Ty.ind fun k n args ih d hg hf=>?_
  obtain ⟨h1,h2⟩:=gd_args hg
  rw [fldB,fldsB_eq,Bool.and_eq_true,List.all_eq_true] at hf
  rw [fgd,fgdL_iff]
  refine ⟨by omega,fun h6=>?_,fun x hx=>ih x hx (d + 1) (h2 x hx) (hf.2 x hx)⟩
  have h3:=hf.1
  rw [if_neg (by omega),if_pos h6,Bool.and_eq_true,decide_eq_true_eq] at h3
  exact ⟨by omega,by omega⟩
theorem word_len {f : Int → Bool} {l : List Int} (h : wordB f l = true) : l.length ≤ 8 := (wordB_iff.1 h).1.2
theorem datas_names {ds : List Dt} (h : datasP ds) : ∀ d ∈ ds, d.name.length ≤ 8 := fun d hd => by
  obtain ⟨i,hi,rfl⟩:=List.mem_iff_getElem.1 hd
  have h1:=(h.2 i hi).1
  unfold nameB at h1
  rw [Bool.and_eq_true] at h1
  exact word_len h1.1
theorem datas_fgd {ds : List Dt} (h : datasP ds) : ∀ d ∈ ds, ∀ c ∈ d.cons, ∀ x ∈ c.fields, fgd ds.length x := fun d hd c hc x hx => by
  obtain ⟨i,hi,rfl⟩:=List.mem_iff_getElem.1 hd
  obtain ⟨k,hk,rfl⟩:=List.mem_iff_getElem.1 hc
  have h1:=(h.2 i hi).2.2.2.2 k hk
  unfold conAtB conOkB fieldsB at h1
  simp only [Bool.and_eq_true,List.all_eq_true,decide_eq_true_eq] at h1
  have h2:=h1.2 x hx
  exact fgd_of (by simp only [dvs,List.length_map,List.length_take]; omega) x 1 h2.1.1 h2.2
def srcP (s : Sr) : Prop := datasP s.datas ∧ XB 1 s.body ∧ (ssay s).length ≤ 4000
noncomputable instance (s : Sr) : Decidable (srcP s) := Classical.propDecidable _
theorem field_len {ds : List Dt} {c : Con} {x : Ty} (hx : x ∈ c.fields) : (tsay ds x).length + 2 ≤ (csay ds c).length := brk_mem (List.mem_cons_of_mem _ (List.mem_map_of_mem hx))
theorem con_len {ds : List Dt} {d : Dt} {c : Con} (hc : c ∈ d.cons) : (csay ds c).length + 2 ≤ (dsay ds d).length := by
  unfold dsay
  have:=brk_mem (ps:=[100,97,116,97] :: d.name :: num d.vars :: d.cons.map (csay ds)) (p:=csay ds c) (by simp only [List.mem_cons]; exact .inr (.inr (.inr (List.mem_map_of_mem hc))))
  rw [List.length_append]
  omega
theorem data_len {ds : List Dt} {d : Dt} (hd : d ∈ ds) : (dsay ds d).length ≤ (ds.flatMap (dsay ds)).length := by
  generalize dsay ds = f
  induction ds with
  | nil => cases hd
  | cons a r ih =>
    rw [List.flatMap_cons,List.length_append]
    rcases List.mem_cons.1 hd with rfl | hd
    · omega
    · have := ih hd; omega
theorem stringOk {D t : Nat} {s : Store} {T : List Ae.Obj} {a : AV} {x : List Int} (hx : x ≠ []) (hxl : x.length ≤ 9223372036854775807) (hD : D = s.low.length + 1) (h : T[1]? = some (.box t [a, .slr 0 s.len0 0 x.length x.length false])) :
    callF (tab tbl) prim 81 [.ptr D 1 0] (frm (s.new0 (.arr 5 1 (by8 x) x.length x.length)) T) = some (.str (bst x), frm (s.new0 (.arr 5 1 [] (x.length + 1) 0)) T) := by
  subst hD
  refine callF_prim rfl ?_
  have hg:(frm (s.new0 (.arr 5 1 (by8 x) x.length x.length)) T).get (s.low.length + 1) 1 = some (.box t [a,.slr 0 s.len0 0 x.length x.length false]):=by
    rw [← new0_len s (.arr 5 1 (by8 x) x.length x.length),frm_get_top]; exact h
  have hg0:(frm (s.new0 (.arr 5 1 (by8 x) x.length x.length)) T).get 0 s.len0 = some (.arr 5 1 (by8 x) x.length x.length):=by
    rw [frm_get _ _ _ (Nat.zero_le _)]; exact new0_get _ _
  have hpos:0 < x.length:=List.length_pos_iff.2 hx
  show (match (frm (s.new0 (.arr 5 1 (by8 x) x.length x.length)) T).get (s.low.length + 1) 1 with
    | some (.box _ [_, .slr 0 k 0 n ver false]) =>
      match (frm (s.new0 (.arr 5 1 (by8 x) x.length x.length)) T).get 0 k with
      | some (.arr e sz cs ver' _) => if ver = ver' ∧ e = 5 ∧ sz = 1 ∧ 0 < n ∧ n ≤ 9223372036854775807 ∧ cs.length = n then (toBytes cs .empty).bind fun b => some (AV.str b, (frm (s.new0 (.arr 5 1 (by8 x) x.length x.length)) T).set 0 k (.arr e sz [] (ver + 1) 0)) else none
      | _ => none
    | _ => none) = _
  rw [hg]
  simp only [hg0]
  rw [if_pos ⟨trivial,trivial,trivial,hpos,hxl,by8_len x⟩,toB8,frm_set _ _ _ _ (Nat.zero_le _),new0_set]
  rfl
set_option maxHeartbeats 16000000 in
theorem implPrinted {src : Sr} (ho : src.ok) (hsz : src.sz ≤ 10000000) (hd : datasP src.datas) (hx : XB 1 src.body) (s : Store) :
    callF (tab tbl) prim 35 [.agg src.az] s = some (.str (bst (ssay src)), s.new0 (.arr 5 1 [] ((ssay src).length + 1) 0)) := by
  have hlen:=ssay_len (datas_names hd) ho
  obtain ⟨ds,body⟩:=src
  have hN:=datas_names hd
  have hF:=datas_fgd hd
  simp only [Sr.sz] at hsz hlen
  simp only at hN hF hx
  simp only [Sr.ok] at ho
  obtain ⟨⟨_,hod⟩,hob⟩:=ho
  have hdl:=sizes_len Dt.sz ds
  obtain ⟨bv,bs,hb,hb0,hs0,hbx⟩:=Buf.new 5 s
  have hlow:=fun x=>hb.low x
  rw [hs0] at hlow
  have hss:ssay ⟨ds,body⟩ = ds.flatMap (dsay ds) ++ (xsay body ++ [10]):=by simp [ssay]
  rw [hss] at hlen ⊢
  simp only [List.length_append,List.length_cons,List.length_nil] at hlen
  have hcl:∀ d ∈ ds,d.cons.length ≤ 100000000∧∀ c ∈ d.cons,c.fields.length ≤ 100000000∧(csay ds c).length ≤ 1000000000:=fun d hd=>by
    have h1:=sizes_mem Dt.sz hd
    simp only [Dt.sz] at h1
    have h2:=sizes_len Con.sz d.cons
    have h5:=data_len hd
    refine ⟨by omega,fun c hc=>?_⟩
    have h3:=sizes_mem Con.sz hc
    simp only [Con.sz] at h3
    have h4:=sizes_len Ty.sz c.fields
    have h6:=con_len (ds:=ds) hc
    exact ⟨by omega,by omega⟩
  have ih:∀ d ∈ ds,∀ c ∈ d.cons,∀ x ∈ c.fields,∀ s,callF (tab tbl) prim 77 [.agg x.az,.imm false ds.length (ds.flatMap Dt.az)] s = some (.str (bst (tsay ds x)),s):=fun d hd c hc x hx s=>by
    have h1:=sizes_mem Dt.sz hd
    simp only [Dt.sz] at h1
    have h3:=sizes_mem Con.sz hc
    simp only [Con.sz] at h3
    have h4:=sizes_mem Ty.sz hx
    have h5:=data_len hd
    have h6:=con_len (ds:=ds) hc
    have h7:=field_len (ds:=ds) hx
    exact implSayField (by omega) x ((hod d hd).2.2.2 c hc |>.2.2 x hx) (by omega) (hF d hd c hc x hx) (by omega) s
  have hsay:=implSay body hob (by omega) 1 hx.1 (by omega)
  have hby:Byt (xsay body ++ [10]):=byt_app (byt_xsay body hob) (by decide)
  have hcat:=bst_cat (a:=xsay body) (b:=[10]) (by simp only [List.length_cons,List.length_nil]; omega)
  obtain ⟨k,n,name,arg,lit,kids,arms⟩:=body
  have hL:=@prData ds s bv bs (zcs k n name arg lit kids arms) hb hs0 hod (by omega) hcl (by omega) ih [.box 38 (.imm false ds.length (ds.flatMap Dt.az) :: zcs k n name arg lit kids arms),.box 111 [.nilp,.imm true 0 []]] rfl (by rw [hb0]; rfl)
  simp only [Sr.az,az_zcs]
  refine funY rfl za zt ?_
  repeat' (first|refine zw ?_|refine zn (fun hb=>?_) (fun hb=>?_)|refine zx ?_|refine zo ?_|exact zi|fail)
  refine Wp.mono (hL _ _ _ _ _ _ _ _ _ _ _ _ _ _ _ _) ?_
  rintro e st ⟨rfl, y4, y5, y6, y7, y8, y11, y12, y13, y14, y15, y16, y17, y18, y19, y20, T, a, h0, h1, ha, rfl⟩
  have hlx:=hlow (ds.flatMap (dsay ds))
  have hS:=hsay (.ptr (s.low.length + 1) 0 1) (frm (bs (ds.flatMap (dsay ds))) T) (by
    rw [← hlx,az_zcs]
    exact ptrAt_b (rest:=[]) h0 (by simp))
  have hw:=writeOk (x:=ds.flatMap (dsay ds)) (y:=xsay (.mk k n name arg lit kids arms) ++ [10]) hb (by rw [hs0]) h1 ha hby (by simp only [List.length_append,List.length_cons,List.length_nil]; omega)
  have hne:ds.flatMap (dsay ds) ++ (xsay (.mk k n name arg lit kids arms) ++ [10]) ≠ []:=by simp
  have h1l:=(List.getElem?_eq_some_iff.1 h1).1
  obtain ⟨X,hX⟩:∃ X,X = ds.flatMap (dsay ds) ++ (xsay (.mk k n name arg lit kids arms) ++ [10]):=⟨_,rfl⟩
  rw [← hX] at hw hne ⊢
  have hbe:=hbx _ hne
  rw [hbe.1,hbe.2] at hw
  have hst:=stringOk (s:=s) (D:=s.low.length + 1) hne (by rw [hX]; simp only [List.length_append,List.length_cons,List.length_nil]; omega) rfl (List.getElem?_set_self (a:=.box 111 [.ptr (s.low.length + 1) 1 0,.slr 0 s.len0 0 X.length X.length false]) h1l)
  repeat' (first|refine zw ?_|refine zn (fun hb=>?_) (fun hb=>?_)|refine zx ?_|(refine zk (hw) ?_; rintro _ _ rfl)|refine zof (zA @hS (zA @k10 (zA @hcat (@hst)))) ?_|exact zi|fail)
set_option maxHeartbeats 16000000 in
theorem implSource {src : Sr} (ho : src.ok) (hsz : src.sz ≤ 10000000) (s : Store) :
    ∃ v s', callF (tab tbl) prim 11 [.agg src.az] s = some (v, s') ∧ v = .bool (decide (srcP src)) ∧ (s' = s ∨ ∃ o, s' = s.new0 o) := by
  have hD:=fun s=>implDatas ho.1.2 (by have:=hsz; simp only [Sr.sz] at this; omega) s
  have hP:=implPrinted ho hsz
  have hss:∀ h:srcP src,datasP src.datas∧XB 1 src.body∧(ssay src).length ≤ 4000:=fun h=>h
  have hl2:datasP src.datas→(ssay src).length ≤ 1000000000:=fun h=>by have:=ssay_len (datas_names h) ho; omega
  obtain ⟨ds,body⟩:=src
  have hC:=implCount body ho.2 (by have:=hsz; simp only [Sr.sz] at this; omega) 1 (.ptr (s.low.length + 1) 0 1) (frm s [.box 38 (.imm false ds.length (ds.flatMap Dt.az) :: body.az)]) (by omega) (.inr ⟨s.low.length + 1,0,38,_,rfl,by rw [frm_len]; exact Nat.le_refl _,by rw [frm_get_top]; rfl⟩)
  rw [show ((1:Nat):Int) = 1 from rfl] at hC
  have hbz:=bst_size (ssay ⟨ds,body⟩)
  have hmc:=xms_cases 301 1 body
  obtain ⟨k,n,name,arg,lit,kids,arms⟩:=body
  simp only [Sr.az,az_zcs] at hC hP hD ⊢
  simp only at hss hmc
  by_cases hd:datasP ds
  · rw [← datas_yes hd] at hD
    rcases hmc with ⟨hx, hm, hm3⟩ | ⟨hx, hm⟩
    · have hP := fun s => hP hd hx s
      have hl2:=hl2 hd
      rw [hm] at hC
      refine funZ rfl (zaf (zA @hD (zA @hC (zA @hP (@hbz))))) zt ?_
      repeat' (first|refine zw ?_|refine zn (fun hb=>?_) (fun hb=>?_)|refine zx ?_|refine zof (zA @hD (zA @hC (zA @hP (@hbz)))) ?_|exact zi|fail)
      all_goals
        refine ⟨?_,.inr ⟨_,by rw [frm_new0,pop_frm]⟩⟩
        congr 1
        refine Eq.symm ?_
        first
        | exact decide_eq_true ⟨hd, hx, by omega⟩
        | exact decide_eq_false fun h => by have := (hss h).2.2; omega
    · rw [hm] at hC
      refine funZ rfl (zaf (zA @hD (@hC))) zt ?_
      repeat' (first|refine zw ?_|refine zn (fun hb=>?_) (fun hb=>?_)|refine zx ?_|refine zof (zA @hD (@hC)) ?_|exact zi|fail)
      all_goals exact ⟨congrArg AV.bool (decide_eq_false fun h => hx (hss h).2.1).symm, .inl rfl⟩
  · rw [← datas_no hd] at hD
    refine funZ rfl (zaf @hD) zt ?_
    repeat' (first|refine zw ?_|refine zn (fun hb=>?_) (fun hb=>?_)|refine zx ?_|refine zof @hD ?_|exact zi|fail)
    all_goals exact ⟨congrArg AV.bool (decide_eq_false fun h => hd (hss h).1).symm, .inl rfl⟩
end Go.Proofs.YtkjonfojileipaaGreatDoor.Gq
