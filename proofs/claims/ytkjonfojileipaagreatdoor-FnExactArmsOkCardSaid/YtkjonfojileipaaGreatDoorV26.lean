/- Arms that are all there, for the program: places; armsOf. -/
import Derived.Test.YtkjonfojileipaaGreatDoorW4
set_option linter.unusedSimpArgs false
set_option linter.unusedVariables false
namespace Go.Proofs.YtkjonfojileipaaGreatDoor.Gq
open Go Go.Proofs Go.Proofs.YtkjonfojileipaaGreatDoor.Ae
attribute [local congr] obind_congr
attribute [local push_cast] exF argsV frzs frz frzL frz1 exS_reg exS_seq exS_cond exS_alt exS_block exS_loop exS_exit exS_ret exS_skip evReg evOps evOne evAct evOp rd putV st0 evEnd resV resL resOne oneOr frzR loadV storeV binV binI unV push_frm pop_frm frm_len frm_top frm_get_top frm_set_top frm_new AV.cells AV.lowB AV.lowL AV.isCell cellsOk set_len Option.bind_some Option.map_some Option.map_none List.getD_cons_zero List.getD_cons_succ List.nil_append List.cons_append List.append_nil List.length_cons List.length_nil List.set_cons_zero List.set_cons_succ List.map_cons List.map_nil List.replicate if_true if_false ite_true ite_false ite_self Bool.false_eq_true List.all_cons List.all_nil Bool.and_true Bool.true_and Bool.and_self Bool.and_eq_true List.getElem?_cons_zero List.getElem?_cons_succ List.drop_succ_cons List.drop_zero List.take_succ_cons List.take_zero true_and and_true and_self decide_true decide_false Bool.not_true Bool.not_false Prod.mk.injEq Option.some.injEq List.getElem?_drop optInt elems sliceV partsOf Nat.add_zero Nat.zero_add Nat.mul_one beq_self_eq_true litParts Bool.or_false Bool.false_or Bool.or_true Bool.true_or Bool.false_and Bool.and_false List.cons.injEq not_false_eq_true not_true_eq_false Nat.zero_le Nat.le_refl gt_iff_lt ge_iff_le List.drop_nil List.take_nil newBox List.length_append List.length_map bne_self_eq_false eq_self Nat.lt_add_one ne_eq false_implies Int.le_refl
def smN (pl : List Int) : Nat := if 0 < pl.length ∧ pl[pl.length - 1]? = some (-1) then pl.length - 1 else pl.length
theorem smN_le (pl : List Int) : smN pl ≤ pl.length := by unfold smN; split <;> omega
def plP (pl : List Int) (all : Nat) : Prop := (∀ c ∈ pl.take (smN pl), 0 ≤ c ∧ c < all) ∧ (pl.take (smN pl)).Nodup ∧ 0 < smN pl ∧ (smN pl = all ↔ smN pl = pl.length)
noncomputable instance (pl : List Int) (all : Nat) : Decidable (plP pl all) := Classical.propDecidable _
theorem containsI {l : List Int} {v : Int} (hl : l.length ≤ 1000000000) (s : Store) : callF (tab tbl) prim 176 [.imm false l.length (l.map (AV.int .i64)), .int .i64 v] s = some (.bool (decide (v ∈ l)), s) := by
  have hi:=fun s=>ixI_ok (T:=tab tbl) (prim:=prim) (g:=192) (l:=l) (fl:=false) (v:=v) (s:=s) rfl (by omega)
  have hc:=ct_ok (g:=176) (s:=s) rfl (fun _=>rfl) (fun _=>rfl) hi
  have:(l.any fun x=>v == x) = decide (v ∈ l):=by
    rw [Bool.eq_iff_iff]; simp
  rw [this] at hc
  exact hc
theorem nodup_step {l : List Int} {q : Nat} (hq : q < l.length) : (l.take (q + 1)).Nodup ↔ (l.take q).Nodup ∧ ¬ l[q] ∈ l.take q := by
  rw [List.take_succ_eq_append_getElem hq,List.nodup_append]
  constructor
  · rintro ⟨h1, _, h3⟩
    exact ⟨h1,fun h=>h3 _ h _ (List.mem_singleton.2 rfl) rfl⟩
  · rintro ⟨h1, h2⟩
    exact ⟨h1,by simp,fun a ha b hb e=>h2 (by rw [List.mem_singleton] at hb; rw [← hb,← e]; exact ha)⟩
set_option maxHeartbeats 8000000 in
theorem placesLoop {sm : List Int} {all : Nat} (hl : sm.length ≤ 1000000) (ha : all ≤ 1000000000) {s : Store} (y0 y4 y5 y6 y7 y11 y12 : AV) :
    Wp (exS (callF (tab tbl) prim) (.loop (loopAt c168 0)) ⟨[y0, .int .i64 all, .bool false, .imm false sm.length (sm.map (AV.int .i64)), y4, y5, y6, y7, .imm false sm.length (sm.map (AV.int .i64)), .int .i64 sm.length, .int .i64 0, y11, y12], frm s []⟩)
      (fun e st => (e = .exit 0 ∧ (∀ c ∈ sm, 0 ≤ c ∧ c < all) ∧ sm.Nodup ∧ ∃ y5 y6 y10 y11 y12, st = ⟨[y0, .int .i64 all, .bool false, .imm false sm.length (sm.map (AV.int .i64)), y4, y5, y6, y7, .imm false sm.length (sm.map (AV.int .i64)), .int .i64 sm.length, y10, y11, y12], frm s []⟩) ∨
        (e = .ret ∧ ¬ ((∀ c ∈ sm, 0 ≤ c ∧ c < all) ∧ sm.Nodup) ∧ ∃ y3 y5 y6 y8 y9 y10 y11 y12, st = ⟨[y0, .int .i64 all, .bool false, y3, y4, y5, y6, y7, y8, y9, y10, y11, y12], frm s []⟩)) := by
  simp only [loopAt,loops,c168,List.nil_append,List.append_nil,List.getD_cons_zero,List.cons_append]
  refine wLoop (fun m st=>∃ (q:Nat) (y5 y6 y11 y12:AV),(m:Int) = sm.length - q∧q ≤ sm.length∧(∀ c ∈ sm.take q,0 ≤ c∧c < all)∧(sm.take q).Nodup ∧
    st = ⟨[y0, .int .i64 all, .bool false, .imm false sm.length (sm.map (AV.int .i64)), y4, y5, y6, y7, .imm false sm.length (sm.map (AV.int .i64)), .int .i64 sm.length, .int .i64 q, y11, y12], frm s []⟩) sm.length ?_ ?_
  · exact ⟨0, _, _, _, _, by omega, by omega, by simp, by simp, rfl⟩
  · rintro m st ⟨q, y5, y6, y11, y12, hm, hq, hall, hnd, rfl⟩
    by_cases hlt:q < sm.length
    · have ha1 := (map_at (ev := AV.int .i64) hlt).1
      have ha3:(sm.map (AV.int .i64))[q]? = some (.int .i64 sm[q]):=fm_one (f:=AV.int .i64) hlt
      have hmem:=List.getElem_mem hlt
      have htq:(sm.map (AV.int .i64)).take q = (sm.take q).map (AV.int .i64):=List.map_take.symm
      have hz:((q:Int) - 0).toNat = q:=by omega
      have hw:=fun s=>implWithin sm[q] 0 ((all:Int) - 1) s
      have hct:=fun s=>containsI (l:=sm.take q) (v:=sm[q]) (by rw [List.length_take]; omega) s
      rw [List.length_take,Nat.min_eq_left (by omega)] at hct
      have hns:=nodup_step hlt
      have htk:=List.take_succ_eq_append_getElem hlt
      have hnd2:sm.Nodup→(sm.take (q + 1)).Nodup:=fun h=>h.sublist (List.take_sublist _ _)
      generalize sm[q] = x at *
      by_cases hx:0 ≤ x∧x ≤ (all:Int) - 1
      · rw [decide_eq_true hx] at hw
        by_cases hin:x ∈ sm.take q
        · rw [decide_eq_true hin] at hct
          repeat' (first|refine zw ?_|refine zn (fun hb=>?_) (fun hb=>?_)|refine zx ?_|refine zof (zA @ha1 (zA @ha3 (zA @hw (zA @hct (zA @htq (@hz)))))) ?_|exact zi|fail)
          exact .inr ⟨rfl,fun h=>(hns.1 (hnd2 h.2)).2 hin,_,_,_,_,_,_,_,_,rfl⟩
        · rw [decide_eq_false hin] at hct
          repeat' (first|refine zw ?_|refine zn (fun hb=>?_) (fun hb=>?_)|refine zx ?_|refine zof (zA @ha1 (zA @ha3 (zA @hw (zA @hct (zA @htq (@hz)))))) ?_|exact zi|fail)
          refine loopNor (m - 1) (by omega) ⟨q + 1,_,_,_,_,by omega,by omega,fun c hc=>?_,hns.2 ⟨hnd,hin⟩,rfl⟩
          rw [htk,List.mem_append,List.mem_singleton] at hc
          rcases hc with hc | rfl
          · exact hall c hc
          · omega
      · rw [decide_eq_false hx] at hw
        repeat' (first|refine zw ?_|refine zn (fun hb=>?_) (fun hb=>?_)|refine zx ?_|refine zof (zA @ha1 (zA @ha3 (@hw))) ?_|exact zi|fail)
        exact .inr ⟨rfl,fun h=>hx (by have:=h.1 x hmem; omega),_,_,_,_,_,_,_,_,rfl⟩
    · obtain rfl : q = sm.length := by omega
      rw [List.take_length] at hall hnd
      repeat' (first|refine zw ?_|refine zn (fun hb=>?_) (fun hb=>?_)|refine zx ?_|refine zo ?_|exact zi|fail)
      exact .inl ⟨rfl,hall,hnd,_,_,_,_,_,rfl⟩
set_option maxHeartbeats 8000000 in
theorem implPlaces {pl : List Int} {all : Nat} (hl : pl.length ≤ 1000000) (ha : all ≤ 1000000000) (f : Bool) (s : Store) :
    callF (tab tbl) prim 168 [.imm f pl.length (pl.map (AV.int .i64)), .int .i64 all] s = some (.bool (decide (plP pl all)), s) := by
  have hsn:(0 < pl.length∧pl[pl.length - 1]? = some (-1)∧smN pl = pl.length - 1) ∨ (¬ (0 < pl.length∧pl[pl.length - 1]? = some (-1))∧smN pl = pl.length):=by
    unfold smN
    split
    · rename_i h; exact .inl ⟨h.1, h.2, rfl⟩
    · rename_i h; exact .inr ⟨h, rfl⟩
  have hP:plP pl all ↔ ((∀ c ∈ pl.take (smN pl),0 ≤ c∧c < (all:Int))∧(pl.take (smN pl)).Nodup∧0 < smN pl∧(smN pl = all ↔ smN pl = pl.length)):=Iff.rfl
  have hle:=smN_le pl
  have hst:(pl.take (smN pl)).length = smN pl:=by rw [List.length_take]; omega
  have hmt:(pl.map (AV.int .i64)).take (smN pl) = (pl.take (smN pl)).map (AV.int .i64):=List.map_take.symm
  have hL:=fun y0 y4 y5 y6 y7 y11 y12=>placesLoop (sm:=pl.take (smN pl)) (all:=all) (s:=s) (by omega) ha y0 y4 y5 y6 y7 y11 y12
  rw [hst] at hL
  have hwhole:smN pl = pl.length→(pl.take (smN pl)).map (AV.int .i64) = pl.map (AV.int .i64):=fun h=>by rw [h,List.take_length]
  generalize pl.take (smN pl) = sm at *
  generalize smN pl = sn at *
  rcases hsn with ⟨h0, h1, h2⟩ | ⟨h0, h2⟩
  · have h1' : (pl.map (AV.int .i64))[sn]? = some (.int .i64 (-1)) := by rw [h2, List.getElem?_map, h1]; rfl
    have hz:((pl.length:Int) - 1).toNat = sn:=by omega
    have hz2:((pl.length:Int) - 1 - 0).toNat = sn:=by omega
    refine funY rfl (argsF rfl (frzs_cons frz_imm (frzs_cons frz_int frzs_nil))) zt ?_
    repeat' (first|refine zw ?_|refine zn (fun hb=>?_) (fun hb=>?_)|refine zx ?_|refine zof (zA @h1' (zA @hz (zA @hz2 (@hmt)))) ?_|exact zi|fail)
    refine Wp.mono (hL _ _ _ _ _ _ _) ?_
    rintro e st (⟨rfl, hall, hnd, y5, y6, y10, y11, y12, rfl⟩ | ⟨rfl, hno, y3, y5, y6, y8, y9, y10, y11, y12, rfl⟩)
    · repeat' (first|refine zw ?_|refine zn (fun hb=>?_) (fun hb=>?_)|refine zx ?_|refine zo ?_|exact zi|fail)
      all_goals
        refine isI (congrArg AV.bool ?_) rfl
        first
        | exact absurd hb Bool.noConfusion
        | exact (decide_eq_true (hP.2 ⟨hall, hnd, by omega, ⟨fun h => by omega, fun h => by omega⟩⟩)).symm
        | exact (decide_eq_false fun h => by have h3 := (hP.1 h).2.2; omega).symm
    · rw [decide_eq_false fun h => hno ⟨(hP.1 h).1, (hP.1 h).2.1⟩]
      repeat' (first|refine zw ?_|refine zn (fun hb=>?_) (fun hb=>?_)|refine zx ?_|refine zo ?_|exact zi|fail)
  · have hw := hwhole h2
    rw [hw,h2] at hL
    by_cases hpos:0 < pl.length
    · have h3 : ∃ c, pl[pl.length - 1]? = some c ∧ c ≠ -1 := ⟨_, List.getElem?_eq_getElem (by omega), fun h => h0 ⟨hpos, by rw [List.getElem?_eq_getElem (by omega), h]⟩⟩
      obtain ⟨c,h3,h4⟩:=h3
      have h1':(pl.map (AV.int .i64))[pl.length - 1]? = some (.int .i64 c):=by rw [List.getElem?_map,h3]; rfl
      have hz:((pl.length:Int) - 1).toNat = pl.length - 1:=by omega
      refine funY rfl (argsF rfl (frzs_cons frz_imm (frzs_cons frz_int frzs_nil))) zt ?_
      repeat' (first|refine zw ?_|refine zn (fun hb=>?_) (fun hb=>?_)|refine zx ?_|refine zof (zA @h1' (@hz)) ?_|exact zi|fail)
      refine Wp.mono (hL _ _ _ _ _ _ _) ?_
      rintro e st (⟨rfl, hall, hnd, y5, y6, y10, y11, y12, rfl⟩ | ⟨rfl, hno, y3, y5, y6, y8, y9, y10, y11, y12, rfl⟩)
      · repeat' (first|refine zw ?_|refine zn (fun hb=>?_) (fun hb=>?_)|refine zx ?_|refine zo ?_|exact zi|fail)
        all_goals
          refine isI (congrArg AV.bool ?_) rfl
          first
          | exact absurd hb Bool.noConfusion
          | exact (decide_eq_true (hP.2 ⟨hall, hnd, by omega, ⟨fun h => by omega, fun h => by omega⟩⟩)).symm
          | exact (decide_eq_false fun h => by have h3 := (hP.1 h).2.2; omega).symm
      · rw [decide_eq_false fun h => hno ⟨(hP.1 h).1, (hP.1 h).2.1⟩]
        repeat' (first|refine zw ?_|refine zn (fun hb=>?_) (fun hb=>?_)|refine zx ?_|refine zo ?_|exact zi|fail)
    · refine funY rfl (argsF rfl (frzs_cons frz_imm (frzs_cons frz_int frzs_nil))) zt ?_
      repeat' (first|refine zw ?_|refine zn (fun hb=>?_) (fun hb=>?_)|refine zx ?_|refine zo ?_|exact zi|fail)
      refine Wp.mono (hL _ _ _ _ _ _ _) ?_
      rintro e st (⟨rfl, hall, hnd, y5, y6, y10, y11, y12, rfl⟩ | ⟨rfl, hno, y3, y5, y6, y8, y9, y10, y11, y12, rfl⟩)
      · repeat' (first|refine zw ?_|refine zn (fun hb=>?_) (fun hb=>?_)|refine zx ?_|refine zo ?_|exact zi|fail)
        all_goals
          refine isI (congrArg AV.bool ?_) rfl
          first
          | exact absurd hb Bool.noConfusion
          | exact (decide_eq_true (hP.2 ⟨hall, hnd, by omega, ⟨fun h => by omega, fun h => by omega⟩⟩)).symm
          | exact (decide_eq_false fun h => by have h3 := (hP.1 h).2.2; omega).symm
      · rw [decide_eq_false fun h => hno ⟨(hP.1 h).1, (hP.1 h).2.1⟩]
        repeat' (first|refine zw ?_|refine zn (fun hb=>?_) (fun hb=>?_)|refine zx ?_|refine zo ?_|exact zi|fail)
end Go.Proofs.YtkjonfojileipaaGreatDoor.Gq
