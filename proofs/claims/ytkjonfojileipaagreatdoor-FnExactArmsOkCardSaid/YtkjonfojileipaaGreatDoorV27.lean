/- Arms that are all there, for the program: armsOf. Arms that are all there, for the program: armsOf's answer; armsAllOk. Arms that are all there, for the program: armsAllOk. Arms that are all there: the plain law that the program's way to say it and the reference's are one. Arms that are all there, for the reference. -/
import Derived.Test.YtkjonfojileipaaGreatDoorV9
import Derived.Test.YtkjonfojileipaaGreatDoorV22
import Derived.Test.YtkjonfojileipaaGreatDoorV26
set_option linter.unusedSimpArgs false
set_option linter.unusedVariables false
namespace Go.Proofs.YtkjonfojileipaaGreatDoor.Gq
open Go Go.Proofs Go.Proofs.YtkjonfojileipaaGreatDoor.Ae
attribute [local congr] obind_congr
attribute [local push_cast] exF argsV frzs frz frzL frz1 exS_reg exS_seq exS_cond exS_alt exS_block exS_loop exS_exit exS_ret exS_skip evReg evOps evOne evAct evOp rd putV st0 evEnd resV resL resOne oneOr frzR loadV storeV binV binI unV push_frm pop_frm frm_len frm_top frm_get_top frm_set_top frm_new AV.cells AV.lowB AV.lowL AV.isCell cellsOk set_len Option.bind_some Option.map_some Option.map_none List.getD_cons_zero List.getD_cons_succ List.nil_append List.cons_append List.append_nil List.length_cons List.length_nil List.set_cons_zero List.set_cons_succ List.map_cons List.map_nil List.replicate if_true if_false ite_true ite_false ite_self Bool.false_eq_true List.all_cons List.all_nil Bool.and_true Bool.true_and Bool.and_self Bool.and_eq_true List.getElem?_cons_zero List.getElem?_cons_succ List.drop_succ_cons List.drop_zero List.take_succ_cons List.take_zero true_and and_true and_self decide_true decide_false Bool.not_true Bool.not_false Prod.mk.injEq Option.some.injEq List.getElem?_drop optInt elems sliceV partsOf Nat.add_zero Nat.zero_add Nat.mul_one beq_self_eq_true litParts Bool.or_false Bool.false_or Bool.or_true Bool.true_or Bool.false_and Bool.and_false List.cons.injEq not_false_eq_true not_true_eq_false Nat.zero_le Nat.le_refl gt_iff_lt ge_iff_le List.drop_nil List.take_nil newBox List.length_append List.length_map bne_self_eq_false eq_self Nat.lt_add_one ne_eq false_implies Int.le_refl
open Classical in
noncomputable def dOf (ds : List Dt) (w : List Int) : Int := if h : ∃ i k, At w ds i k then ((Classical.choose h : Nat) : Int) else -1
open Classical in
noncomputable def kOf (ds : List Dt) (w : List Int) : Int := if w.length = 0 then -1 else if h : ∃ k i, At w ds i k then ((Classical.choose h : Nat) : Int) else 0
theorem dOf_at {ds : List Dt} {w : List Int} {i k : Nat} (h : At w ds i k) : dOf ds w = i := by
  have hx:∃ i k,At w ds i k:=⟨i,k,h⟩
  unfold dOf
  rw [dif_pos hx]
  obtain ⟨k2,h2⟩:=Classical.choose_spec hx
  rw [(h2.one h).1]
theorem kOf_at {ds : List Dt} {w : List Int} {i k : Nat} (h0 : w.length ≠ 0) (h : At w ds i k) : kOf ds w = k := by
  have hx:∃ k i,At w ds i k:=⟨k,i,h⟩
  unfold kOf
  rw [if_neg h0,dif_pos hx]
  obtain ⟨i2,h2⟩:=Classical.choose_spec hx
  rw [(h2.one h).2]
theorem kOf_nil {ds : List Dt} {w : List Int} (h0 : w.length = 0) : kOf ds w = -1 := by unfold kOf; rw [if_pos h0]
def adP (ds : List Dt) (arms : List Arm) (i : Nat) : Prop := (∃ a ∈ arms, a.con.length ≠ 0) ∧ ∀ a ∈ arms, a.con.length ≠ 0 → dOf ds a.con = i
def armsP (ds : List Dt) (arms : List Arm) : Prop := ∃ (i : Nat) (h : i < ds.length), adP ds arms i ∧ plP (arms.map fun a => kOf ds a.con) ds[i].cons.length
noncomputable instance (ds : List Dt) (arms : List Arm) : Decidable (armsP ds arms) := Classical.propDecidable _
theorem adP.one {ds : List Dt} {arms : List Arm} {i j : Nat} (h : adP ds arms i) (k : adP ds arms j) : i = j := by
  obtain ⟨⟨a,ha,hn⟩,h2⟩:=h
  have h3:=h2 a ha hn
  rw [k.2 a ha hn] at h3
  exact (Int.ofNat.inj h3).symm
def adQ (ds : List Dt) (arms : List Arm) (q : Nat) (dv : Int) : Prop := ((∀ a ∈ arms.take q, a.con.length = 0) ∧ dv = -1) ∨ ∃ i : Nat, dv = i ∧ i < ds.length ∧ adP ds (arms.take q) i
theorem adQ.nil {ds : List Dt} {arms : List Arm} {q : Nat} (hq : q < arms.length) {dv : Int} (h : adQ ds arms q dv) (hn : arms[q].con.length = 0) : adQ ds arms (q + 1) dv := by
  have htk:=List.take_succ_eq_append_getElem hq
  unfold adQ adP at *
  rw [htk]
  simp only [List.mem_append,List.mem_singleton]
  rcases h with ⟨h1, h2⟩ | ⟨i, h1, h2, ⟨a, ha, hna⟩, h4⟩
  · exact .inl ⟨fun a ha => ha.elim (h1 a) fun e => by rw [e]; exact hn, h2⟩
  · exact .inr ⟨i, h1, h2, ⟨a, .inl ha, hna⟩, fun a ha h5 => ha.elim (fun h => h4 a h h5) fun e => absurd hn (by rw [← e]; exact h5)⟩
theorem adQ.con {ds : List Dt} {arms : List Arm} {q : Nat} (hq : q < arms.length) {dv : Int} (h : adQ ds arms q dv) (hn : arms[q].con.length ≠ 0) {i k : Nat} (ha : At arms[q].con ds i k) (hd : dv < 0 ∨ dv = i) : adQ ds arms (q + 1) i := by
  have htk:=List.take_succ_eq_append_getElem hq
  have hdo:=dOf_at ha
  have hi:=ha.1
  unfold adQ adP at *
  rw [htk]
  simp only [List.mem_append,List.mem_singleton]
  refine .inr ⟨i,rfl,hi,⟨_,.inr rfl,hn⟩,fun a ha h5=>?_⟩
  rcases ha with ha | rfl
  · rcases h with ⟨h1, _⟩ | ⟨j, h1, h2, _, h4⟩
    · exact absurd (h1 a ha) h5
    · have := h4 a ha h5
      rcases hd with hd | hd
      · omega
      · rw [this]; omega
  · exact hdo
theorem adQ.bad {ds : List Dt} {arms : List Arm} {q : Nat} (hq : q < arms.length) {dv : Int} (h : adQ ds arms q dv) (hn : arms[q].con.length ≠ 0) {i k : Nat} (ha : At arms[q].con ds i k) (h0 : 0 ≤ dv) (hd : dv ≠ i) : ∀ j, ¬ adP ds arms j := fun j hj => by
  rcases h with ⟨_, h2⟩ | ⟨i2, h1, h2, ⟨a, ha2, hna⟩, h4⟩
  · omega
  · have e1 := hj.2 _ (List.getElem_mem hq) hn
    rw [dOf_at ha] at e1
    have e2:=hj.2 a (List.mem_of_mem_take ha2) hna
    rw [h4 a ha2 hna] at e2
    omega
theorem adQ.whole {ds : List Dt} {arms : List Arm} {dv : Int} (h : adQ ds arms arms.length dv) : (dv = -1 ∧ ∀ j, ¬ adP ds arms j) ∨ ∃ i : Nat, dv = i ∧ i < ds.length ∧ adP ds arms i := by
  unfold adQ at h
  rw [List.take_length] at h
  rcases h with ⟨h1, h2⟩ | h
  · exact .inl ⟨h2, fun j hj => by obtain ⟨a, ha, hn⟩ := hj.1; exact hn (h1 a ha)⟩
  · exact .inr h
theorem adQ.pos {ds : List Dt} {arms : List Arm} {q : Nat} {dv : Int} (h : adQ ds arms q dv) : dv = -1 ∨ (0 ≤ dv ∧ dv < ds.length) := by
  rcases h with ⟨_, h⟩ | ⟨i, h, h2, _⟩
  · exact .inl h
  · exact .inr ⟨by omega, by omega⟩
theorem intL_ok (l : List Int) : cellsOk 0 (l.map (AV.int .i64)) = true := cellsOk_map (fun x => ⟨rfl, rfl⟩) l
set_option maxHeartbeats 16000000 in
theorem armsLoop {ds : List Dt} {arms : List Arm} (ho : okN ds) (hl : ds.length ≤ 1000000000) (hc : ∀ d ∈ ds, d.cons.length ≤ 1000000000) (hal : arms.length ≤ 1000000) (hf : ∀ a ∈ arms, okB a.con ∧ (a.con.length ≠ 0 → ∃ i k, At a.con ds i k)) {s : Store} (y7 y8 y9 y13 y14 y15 y16 : AV) :
    Wp (exS (callF (tab tbl) prim) (.loop (loopAt c110 0)) ⟨[.imm false ds.length (ds.flatMap Dt.az), .imm false arms.length (arms.flatMap Arm.az), .int .i64 0, .imm true 0 [], .bool false, .int .i64 (-1), .imm true 0 [], y7, y8, y9, .imm false arms.length (arms.flatMap Arm.az), .int .i64 arms.length, .int .i64 0, y13, y14, y15, y16], frm s []⟩)
      (fun e st => (e = .exit 0 ∧ ∃ (dv : Int) (y6 y7 y8 y9 y12 y13 y14 y15 y16 : AV) (T : List Ae.Obj), adQ ds arms arms.length dv ∧ SlAt (s.low.length + 1) T 3 1 y6 arms.length ((arms.map fun a => kOf ds a.con).map (AV.int .i64)) ∧ st = ⟨[.imm false ds.length (ds.flatMap Dt.az), .imm false arms.length (arms.flatMap Arm.az), .int .i64 0, .imm true 0 [], .bool false, .int .i64 dv, y6, y7, y8, y9, .imm false arms.length (arms.flatMap Arm.az), .int .i64 arms.length, y12, y13, y14, y15, y16], frm s T⟩) ∨
        (e = .ret ∧ (∀ j, ¬ adP ds arms j) ∧ ∃ (y5 y6 y7 y8 y9 y10 y11 y12 y13 y14 y15 y16 : AV) (T : List Ae.Obj), st = ⟨[.imm false ds.length (ds.flatMap Dt.az), .imm false arms.length (arms.flatMap Arm.az), .int .i64 0, .imm true 0 [], .bool false, y5, y6, y7, y8, y9, y10, y11, y12, y13, y14, y15, y16], frm s T⟩)) := by
  have hr0:repL 0 [AV.int .i64 0] = ([]:List AV):=rfl
  simp only [loopAt,loops,c110,List.nil_append,List.append_nil,List.getD_cons_zero,List.cons_append]
  refine wLoop (fun m st=>∃ (q:Nat) (dv:Int) (y6 y7 y8 y9 y13 y14 y15 y16:AV) (T:List Ae.Obj),(m:Int) = arms.length - q∧q ≤ arms.length∧adQ ds arms q dv∧SlAt (s.low.length + 1) T 3 1 y6 q (((arms.take q).map fun a=>kOf ds a.con).map (AV.int .i64))∧st = ⟨[.imm false ds.length (ds.flatMap Dt.az),.imm false arms.length (arms.flatMap Arm.az),.int .i64 0,.imm true 0 [],.bool false,.int .i64 dv,y6,y7,y8,y9,.imm false arms.length (arms.flatMap Arm.az),.int .i64 arms.length,.int .i64 q,y13,y14,y15,y16],frm s T⟩) arms.length ?_ ?_
  · exact ⟨0, -1, _, _, _, _, _, _, _, _, [], by omega, by omega, .inl ⟨by simp, rfl⟩, SlAt.nil _ _ _ _, rfl⟩
  · rintro m st ⟨q, dv, y6, y7, y8, y9, y13, y14, y15, y16, T, hm, hq, hQ, hS, rfl⟩
    by_cases hlt:q < arms.length
    · obtain ⟨ha1, ha2⟩ := fm_at Arm.len hlt
      obtain ⟨hcon,hat⟩:=hf _ (List.getElem_mem hlt)
      have hpos:=hQ.pos
      have q1:=hQ.nil hlt
      have q2:=fun hn i k=>@adQ.con ds arms q hlt dv hQ hn i k
      have q3:=fun hn i k=>@adQ.bad ds arms q hlt dv hQ hn i k
      have htk:=List.take_succ_eq_append_getElem hlt
      have hS2:∀ {c:Int} {T2:List Ae.Obj} {v:AV},SlAt (s.low.length + 1) T2 3 1 v (q + 1) (((arms.take q).map fun a=>kOf ds a.con).map (AV.int .i64) ++ [.int .i64 c])→kOf ds arms[q].con = c→SlAt (s.low.length + 1) T2 3 1 v (q + 1) (((arms.take (q + 1)).map fun a=>kOf ds a.con).map (AV.int .i64)):=fun {c T2 v} h e=>by
        rw [htk,List.map_append,List.map_append]
        simpa [e] using h
      generalize arms[q] = a at *
      obtain ⟨con,vars,body⟩:=a
      simp only [Arm.con] at hcon hat q1 q2 q3 hS2
      obtain ⟨bk,bn,bname,barg,blit,bkids,barms⟩:=body
      simp only [Arm.az,az_zcs,bsl] at ha2
      have hT':=app_at T (.box 52 (.imm false con.length (by8 con) :: .imm false vars.length (vars.map bsl) :: zcs bk bn bname barg blit bkids barms))
      have hS':=hS.snoc [.box 52 (.imm false con.length (by8 con) :: .imm false vars.length (vars.map bsl) :: zcs bk bn bname barg blit bkids barms)]
      have hA:=fun c:Int=>slAt_app (s:=s) (bytes:=8) (y:=.imm true 1 [.int .i64 c]) (ys:=[.int .i64 c]) (m:=1) hS' rfl (by omega) rfl rfl rfl (by omega)
      have tc:=toB8 con
      have lc:=by8_len con
      by_cases h0:con.length = 0
      · repeat' (first|refine zw ?_|refine zn (fun hb=>?_) (fun hb=>?_)|refine zx ?_|(refine zka ((hA _)) ?_; rintro _ _ ⟨T2, rfl, hS3, hO, hC⟩)|refine zof (zA @ha1 (zA @ha2 (zA @hT' (@hr0)))) ?_|exact zi|fail)
        all_goals first
          | (exfalso; omega)
          | exact loopNor (m - 1) (by omega) ⟨q + 1, dv, _, _, _, _, _, _, _, _, T2, by omega, by omega, q1 h0, hS2 hS3 (kOf_nil h0), rfl⟩
      · obtain ⟨i, k, hak⟩ := hat h0
        have h1:=fun s=>implPlace1 hcon ho hl hc s hak
        unfold stv at h1
        by_cases hd:dv < 0 ∨ dv = i
        · repeat' (first|refine zw ?_|refine zn (fun hb=>?_) (fun hb=>?_)|refine zx ?_|(refine zka ((hA _)) ?_; rintro _ _ ⟨T2, rfl, hS3, hO, hC⟩)|refine zof (zA @ha1 (zA @ha2 (zA @hT' (zA @hr0 (zA @h1 (zA @tc (@lc))))))) ?_|exact zi|fail)
          all_goals first
            | (exfalso; omega)
            | exact loopNor (m - 1) (by omega) ⟨q + 1, i, _, _, _, _, _, _, _, _, T2, by omega, by omega, q2 h0 i k hak hd, hS2 hS3 (kOf_at h0 hak), rfl⟩
        · repeat' (first|refine zw ?_|refine zn (fun hb=>?_) (fun hb=>?_)|refine zx ?_|refine zof (zA @ha1 (zA @ha2 (zA @hT' (zA @hr0 (zA @h1 (zA @tc (@lc))))))) ?_|exact zi|fail)
          all_goals first
            | (exfalso; omega)
            | exact .inr ⟨rfl, q3 h0 i k hak (by omega) (by omega), _, _, _, _, _, _, _, _, _, _, _, _, _, rfl⟩
    · obtain rfl : q = arms.length := by omega
      rw [List.take_length] at hS
      repeat' (first|refine zw ?_|refine zn (fun hb=>?_) (fun hb=>?_)|refine zx ?_|refine zo ?_|exact zi|fail)
      exact .inl ⟨rfl,dv,_,_,_,_,_,_,_,_,_,T,hQ,hS,rfl⟩
theorem slAt_frz2 {D e sz n : Nat} {s : Store} {T : List Ae.Obj} {v : AV} {cs : List AV} (h : SlAt D T e sz v n cs) (hD : D = s.low.length + 1) (hl : AV.lowL 0 cs = true) :
    ∃ T', frz (frm s T) v = some (.imm false n cs, frm s T') ∧ ∃ T2, frz (frm s T') v = some (.imm false n cs, frm s T2) := by
  have hz:=fun S=>frz_sl h S
  obtain ⟨h0,⟨rfl,rfl⟩ | ⟨k,off,ver,all,rfl,h2,h3,h4⟩⟩:=h
  · have hc : cs = [] := List.length_eq_zero_iff.1 (by simpa using h0)
    subst hc
    exact ⟨T,rfl,T,rfl⟩
  · subst hD
    have hk:=(List.getElem?_eq_some_iff.1 h2).1
    refine ⟨T.set k (.arr e sz all ver (max 0 (off + n * sz))),?_,(T.set k (.arr e sz all ver (max 0 (off + n * sz)))).set k (.arr e sz all ver (max (max 0 (off + n * sz)) (off + n * sz))),?_⟩
    · rw [hz, frz1_slr (by rw [frm_get_top]; exact h2) h3 hl h4, frm_set_top]
    · rw [hz, frz1_slr (by rw [frm_get_top]; exact List.getElem?_set_self hk) h3 hl h4, frm_set_top]
set_option maxHeartbeats 16000000 in
theorem implArmsOf {ds : List Dt} {arms : List Arm} (ho : okN ds) (hl : ds.length ≤ 1000000000) (hc : ∀ d ∈ ds, d.cons.length ≤ 1000000000) (hal : arms.length ≤ 1000000) (hf : ∀ a ∈ arms, okB a.con ∧ (a.con.length ≠ 0 → ∃ i k, At a.con ds i k)) (f g : Bool) (s : Store) :
    ∃ v s', callF (tab tbl) prim 110 [.imm f ds.length (ds.flatMap Dt.az), .imm g arms.length (arms.flatMap Arm.az)] s = some (v, s') ∧ (s' = s ∧ ((∃ i : Nat, i < ds.length ∧ adP ds arms i ∧ armsP ds arms ∧ v = .tup [.int .i64 i, .imm false arms.length ((arms.map fun a => kOf ds a.con).map (AV.int .i64)), .bool true]) ∨ (¬ armsP ds arms ∧ v = .tup [.int .i64 0, .imm false 0 [], .bool false]))) := by
  have hr0:repL 0 [AV.int .i64 0] = ([]:List AV):=rfl
  have hL:=@armsLoop ds arms ho hl hc hal hf s
  refine funZ rfl (argsF rfl (frzs_cons frz_imm (frzs_cons frz_imm frzs_nil))) zt ?_
  repeat' (first|refine zw ?_|refine zn (fun hb=>?_) (fun hb=>?_)|refine zx ?_|refine zof @hr0 ?_|exact zi|fail)
  refine Wp.mono (hL _ _ _ _ _ _ _) ?_
  rintro e st (⟨rfl, dv, y6, y7, y8, y9, y12, y13, y14, y15, y16, T, hQ, hS, rfl⟩ | ⟨rfl, hno, y5, y6, y7, y8, y9, y10, y11, y12, y13, y14, y15, y16, T, rfl⟩)
  · rcases hQ.whole with ⟨rfl, hno⟩ | ⟨i, rfl, hi, had⟩
    · repeat' (first|refine zw ?_|refine zn (fun hb=>?_) (fun hb=>?_)|refine zx ?_|refine zo ?_|exact zi|fail)
      all_goals exact ⟨rfl, .inr ⟨fun ⟨j, _, h, _⟩ => hno j h, rfl⟩⟩
    · obtain ⟨T1, z1, T2, z2⟩ := slAt_frz2 (s := s) hS rfl (lowL_ok (intL_ok _))
      have hca:=(dt_at hi).2.2
      have hcl:=hc _ (List.getElem_mem hi)
      have hA:armsP ds arms ↔ plP (arms.map fun a=>kOf ds a.con) ds[i].cons.length:=⟨fun ⟨j,hj,h1,h2⟩=>by obtain rfl:=had.one h1; exact h2,fun h=>⟨i,hi,had,h⟩⟩
      have hPl:=fun s=>implPlaces (pl:=arms.map fun a=>kOf ds a.con) (all:=ds[i].cons.length) (by rw [List.length_map]; exact hal) hcl false s
      rw [List.length_map] at hPl
      have hP:∃ v3 S3,callF (tab tbl) prim 168 [y6,.int .i64 ds[i].cons.length] (frm s T) = some (v3,S3)∧v3 = .bool (decide (plP (arms.map fun a=>kOf ds a.con) ds[i].cons.length))∧S3 = frm s T1:=by
        have e1:frzs (frm s T) [y6,.int .i64 ds[i].cons.length] = some ([.imm false arms.length ((arms.map fun a=>kOf ds a.con).map (AV.int .i64)),.int .i64 ds[i].cons.length],frm s T1):=frzs_cons z1 (frzs_cons frz_int frzs_nil)
        have e2:frzs (frm s T1) [.imm false arms.length ((arms.map fun a=>kOf ds a.con).map (AV.int .i64)),.int .i64 ds[i].cons.length] = some ([.imm false arms.length ((arms.map fun a=>kOf ds a.con).map (AV.int .i64)),.int .i64 ds[i].cons.length],frm s T1):=frzs_cons frz_imm (frzs_cons frz_int frzs_nil)
        exact ⟨_,_,callF_frz (fc:=c168) rfl rfl e1 e2 (hPl _),rfl,rfl⟩
      by_cases hp:plP (arms.map fun a=>kOf ds a.con) ds[i].cons.length
      · rw [decide_eq_true hp] at hP
        repeat' (first|refine zw ?_|refine zn (fun hb=>?_) (fun hb=>?_)|refine zx ?_|(refine zk (hP) ?_; rintro _ _ ⟨rfl, rfl⟩)|refine zof @hca ?_|exact zi|fail)
        all_goals first
          | (exfalso; omega)
          | exact endN rfl rfl rfl (frzR_tup (frzs_cons frz_int (frzs_cons z2 (frzs_cons frz_bool frzs_nil)))) rfl (pop_frm _ _) ⟨rfl, .inl ⟨i, hi, had, hA.2 hp, rfl⟩⟩
      · rw [decide_eq_false hp] at hP
        repeat' (first|refine zw ?_|refine zn (fun hb=>?_) (fun hb=>?_)|refine zx ?_|(refine zk (hP) ?_; rintro _ _ ⟨rfl, rfl⟩)|refine zof @hca ?_|exact zi|fail)
        all_goals first
          | (exfalso; omega)
          | exact ⟨rfl, .inr ⟨fun h => hp (hA.1 h), rfl⟩⟩
  · repeat' (first|refine zw ?_|refine zn (fun hb=>?_) (fun hb=>?_)|refine zx ?_|refine zo ?_|exact zi|fail)
    all_goals exact ⟨rfl, .inr ⟨fun ⟨j, _, h, _⟩ => hno j h, rfl⟩⟩
/-! ### expressions -/
mutual
def amP (ds : List Dt) : Xp → Prop
  | .mk k _ _ _ _ kids arms => (k = 16 → armsP ds arms) ∧ amE ds kids ∧ amA ds arms
def amM (ds : List Dt) : Arm → Prop
  | .mk _ _ body => amP ds body
def amE (ds : List Dt) : List Xp → Prop
  | [] => True
  | x :: r => amP ds x ∧ amE ds r
def amA (ds : List Dt) : List Arm → Prop
  | [] => True
  | x :: r => amM ds x ∧ amA ds r
end
theorem amE_iff {ds : List Dt} : ∀ l : List Xp, amE ds l ↔ ∀ x ∈ l, amP ds x
  | [] => by simp [amE]
  | t :: r => by simp [amE, amE_iff r]
theorem amA_iff {ds : List Dt} : ∀ l : List Arm, amA ds l ↔ ∀ x ∈ l, amP ds x.body
  | [] => by simp [amA]
  | .mk _ _ body :: r => by simp [amA, amA_iff r, amM, Arm.body]
theorem amP_mk {ds : List Dt} {k n : Int} {name arg lit : List Int} {kids : List Xp} {arms : List Arm} : amP ds (.mk k n name arg lit kids arms) ↔ (k = 16 → armsP ds arms) ∧ (∀ x ∈ kids, amP ds x) ∧ ∀ a ∈ arms, amP ds a.body := by
  rw [amP,amE_iff,amA_iff]
noncomputable instance (ds : List Dt) (e : Xp) : Decidable (amP ds e) := Classical.propDecidable _
theorem sc_arms {ds : List Dt} {seen : List (List Int)} {arms : List Arm} (h : ∀ a ∈ arms, scM ds seen a) : ∀ a ∈ arms, a.con.length ≠ 0 → ∃ i k, At a.con ds i k := fun a ha h0 => by
  have h1:=h a ha
  obtain ⟨con,vars,body⟩:=a
  rw [scM] at h1
  obtain ⟨i,k,h2,_⟩:=h1.1 h0
  exact ⟨i,k,h2⟩
theorem sc_body {ds : List Dt} {seen : List (List Int)} {a : Arm} (h : scM ds seen a) : ∃ seen2, scP ds seen2 a.body := by
  obtain ⟨con,vars,body⟩:=a
  rw [scM] at h
  exact ⟨_,h.2⟩
def amC (ds : List Dt) (e : Xp) : Prop := ∀ (p : AV) (s : Store), PtrAt s p e.az → callF (tab tbl) prim 52 [p, .imm false ds.length (ds.flatMap Dt.az)] s = some (.bool (decide (amP ds e)), s)
section
variable {ds : List Dt} {name : List Int} {k n : Int} {arg lit : List Int} {kids : List Xp} {arms : List Arm} {p : AV} {s : Store}
set_option maxHeartbeats 8000000 in
theorem amKids (hp : PtrAt s p (zcs k n name arg lit kids arms)) (hkl : kids.length ≤ 1000000000) (hk : ∀ x ∈ kids, amC ds x) (y3 y4 y5 y6 y7 y10 y11 y12 y13 y14 y15 : AV) :
    Wp (exS (callF (tab tbl) prim) (.loop (loopAt c52 0)) ⟨[p, .imm false ds.length (ds.flatMap Dt.az), .bool false, y3, y4, y5, y6, y7, .int .i64 kids.length, .int .i64 0, y10, y11, y12, y13, y14, y15], frm s []⟩)
      (fun e st => (e = .exit 0 ∧ (∀ x ∈ kids, amP ds x) ∧ ∃ y4 y9 y10 y11, st = ⟨[p, .imm false ds.length (ds.flatMap Dt.az), .bool false, y3, y4, y5, y6, y7, .int .i64 kids.length, y9, y10, y11, y12, y13, y14, y15], frm s []⟩) ∨ (e = .ret ∧ (∃ x ∈ kids, ¬ amP ds x) ∧ ∃ y4 y9 y10 y11, st = ⟨[p, .imm false ds.length (ds.flatMap Dt.az), .bool false, y3, y4, y5, y6, y7, .int .i64 kids.length, y9, y10, y11, y12, y13, y14, y15], frm s []⟩)) := by
  simp only [loopAt,loops,c52,List.nil_append,List.append_nil,List.getD_cons_zero,List.cons_append]
  refine wLoop (fun m st=>∃ (q:Nat) (y4 y10 y11:AV),(m:Int) = kids.length - q∧q ≤ kids.length∧(∀ x ∈ kids.take q,amP ds x)∧st = ⟨[p,.imm false ds.length (ds.flatMap Dt.az),.bool false,y3,y4,y5,y6,y7,.int .i64 kids.length,.int .i64 q,y10,y11,y12,y13,y14,y15],frm s []⟩) kids.length ?_ ?_
  · exact ⟨0, _, _, _, by omega, by omega, by simp, rfl⟩
  · rintro m st ⟨q, y4, y10, y11, hm, hq, hall, rfl⟩
    by_cases hlt:q < kids.length
    · have hmem := List.getElem_mem hlt
      have hi:=fun S=>hk _ hmem (.eptr ((kids.flatMap Xp.az).drop (q * 7))) S (by rw [fm_rest Xp.len hlt]; exact ptrAt_e _ _)
      have htk:=List.take_succ_eq_append_getElem hlt
      generalize kids[q] = x at *
      by_cases hx:amP ds x
      · rw [decide_eq_true hx] at hi
        repeat' (first|refine zw ?_|refine zn (fun hb=>?_) (fun hb=>?_)|refine zx ?_|refine zp hp ?_|refine zof @hi ?_|exact zi|fail)
        exact loopNor (m - 1) (by omega) ⟨q + 1,_,_,_,by omega,by omega,fun z hz=>by
          rw [htk,List.mem_append,List.mem_singleton] at hz
          rcases hz with hz | rfl
          · exact hall z hz
          · exact hx, rfl⟩
      · rw [decide_eq_false hx] at hi
        repeat' (first|refine zw ?_|refine zn (fun hb=>?_) (fun hb=>?_)|refine zx ?_|refine zp hp ?_|refine zof @hi ?_|exact zi|fail)
        exact .inr ⟨rfl,⟨x,hmem,hx⟩,_,_,_,_,rfl⟩
    · obtain rfl : q = kids.length := by omega
      rw [List.take_length] at hall
      repeat' (first|refine zw ?_|refine zn (fun hb=>?_) (fun hb=>?_)|refine zx ?_|refine zo ?_|exact zi|fail)
      exact .inl ⟨rfl,hall,_,_,_,_,rfl⟩
set_option maxHeartbeats 8000000 in
theorem amArms (hp : PtrAt s p (zcs k n name arg lit kids arms)) (hal : arms.length ≤ 1000000000) (hk : ∀ x ∈ arms, amC ds x.body) (y3 y4 y5 y6 y7 y8 y9 y10 y11 y14 y15 : AV) :
    Wp (exS (callF (tab tbl) prim) (.loop (loopAt c52 1)) ⟨[p, .imm false ds.length (ds.flatMap Dt.az), .bool false, y3, y4, y5, y6, y7, y8, y9, y10, y11, .int .i64 arms.length, .int .i64 0, y14, y15], frm s []⟩)
      (fun e st => (e = .exit 2 ∧ (∀ x ∈ arms, amP ds x.body) ∧ ∃ y5 y13 y14 y15, st = ⟨[p, .imm false ds.length (ds.flatMap Dt.az), .bool false, y3, y4, y5, y6, y7, y8, y9, y10, y11, .int .i64 arms.length, y13, y14, y15], frm s []⟩) ∨ (e = .ret ∧ (∃ x ∈ arms, ¬ amP ds x.body) ∧ ∃ y5 y13 y14 y15, st = ⟨[p, .imm false ds.length (ds.flatMap Dt.az), .bool false, y3, y4, y5, y6, y7, y8, y9, y10, y11, .int .i64 arms.length, y13, y14, y15], frm s []⟩)) := by
  simp only [loopAt,loops,c52,List.nil_append,List.append_nil,List.getD_cons_zero,List.getD_cons_succ,List.cons_append]
  refine wLoop (fun m st=>∃ (q:Nat) (y5 y14 y15:AV),(m:Int) = arms.length - q∧q ≤ arms.length∧(∀ x ∈ arms.take q,amP ds x.body)∧st = ⟨[p,.imm false ds.length (ds.flatMap Dt.az),.bool false,y3,y4,y5,y6,y7,y8,y9,y10,y11,.int .i64 arms.length,.int .i64 q,y14,y15],frm s []⟩) arms.length ?_ ?_
  · exact ⟨0, _, _, _, by omega, by omega, by simp, rfl⟩
  · rintro m st ⟨q, y5, y14, y15, hm, hq, hall, rfl⟩
    by_cases hlt:q < arms.length
    · have hmem := List.getElem_mem hlt
      have hi:=fun S=>hk _ hmem (.eptr (((arms.flatMap Arm.az).drop (q * 9)).drop 2)) S (by rw [fm_rest Arm.len hlt,Arm.body_az]; exact ptrAt_e _ _)
      have htk:=List.take_succ_eq_append_getElem hlt
      generalize arms[q] = x at *
      by_cases hx:amP ds x.body
      · rw [decide_eq_true hx] at hi
        repeat' (first|refine zw ?_|refine zn (fun hb=>?_) (fun hb=>?_)|refine zx ?_|refine zp hp ?_|refine zof @hi ?_|exact zi|fail)
        exact loopNor (m - 1) (by omega) ⟨q + 1,_,_,_,by omega,by omega,fun z hz=>by
          rw [htk,List.mem_append,List.mem_singleton] at hz
          rcases hz with hz | rfl
          · exact hall z hz
          · exact hx, rfl⟩
      · rw [decide_eq_false hx] at hi
        repeat' (first|refine zw ?_|refine zn (fun hb=>?_) (fun hb=>?_)|refine zx ?_|refine zp hp ?_|refine zof @hi ?_|exact zi|fail)
        exact .inr ⟨rfl,⟨x,hmem,hx⟩,_,_,_,_,rfl⟩
    · obtain rfl : q = arms.length := by omega
      rw [List.take_length] at hall
      repeat' (first|refine zw ?_|refine zn (fun hb=>?_) (fun hb=>?_)|refine zx ?_|refine zo ?_|exact zi|fail)
      exact .inl ⟨rfl,hall,_,_,_,_,rfl⟩
end
set_option maxHeartbeats 16000000 in
theorem implArmsAll {ds : List Dt} (ho : okN ds) (hl : ds.length ≤ 1000000000) (hc : ∀ d ∈ ds, d.cons.length ≤ 1000000000) : ∀ e : Xp, e.ok → e.sz ≤ 1000000000 → ∀ d : Nat, xgd d e → ∀ seen, scP ds seen e → amC ds e := by
  refine Xp.ind fun k n name arg lit kids arms ih iha=>?_
  intro hok hsz d hg seen hsc p s hp
  have hsz2:=hsz
  simp only [Xp.sz,szE_eq,szA_eq] at hsz2
  have hln:=sizes_len Xp.sz kids
  have hla:=sizes_len Arm.sz arms
  have hok2:=hok
  simp only [Xp.ok,okE_iff,okA_iff] at hok2
  obtain ⟨_,_,_,_,_,⟨_,hoe⟩,⟨_,hoa⟩⟩:=hok2
  rw [xgd,gdE_iff,gdA_iff] at hg
  obtain ⟨hd,hX,hgk,hga⟩:=hg
  rw [scP_mk] at hsc
  obtain ⟨_,_,hsk,hsa⟩:=hsc
  rw [az_zcs] at hp
  have hal6:arms.length ≤ 6:=by
    unfold hdX at hX
    omega
  have hk:∀ x ∈ kids,amC ds x:=fun x hx=>by
    obtain ⟨j,hj,rfl⟩:=List.mem_iff_getElem.1 hx
    exact ih _ hx (hoe _ hx) (by have:=sizes_mem Xp.sz hx; omega) (d + 1) (hgk _ hx) _ (hsk j hj)
  have hka:∀ x ∈ arms,amC ds x.body:=fun x hx=>by
    obtain ⟨sn2,h2⟩:=sc_body (hsa x hx)
    have h3:=hoa _ hx
    have h4:=hga _ hx
    have h5:=iha _ hx
    have h6:=sizes_mem Arm.sz hx
    obtain ⟨con,vars,body⟩:=x
    simp only [Arm.ok] at h3
    simp only [Arm.sz] at h6
    rw [agd] at h4
    simp only [Arm.body] at *
    exact h5 h3.2.2 (by omega) (d + 1) h4.2 _ h2
  have hf:∀ a ∈ arms,okB a.con∧(a.con.length ≠ 0→∃ i k,At a.con ds i k):=fun a ha=>⟨by
    have h3:=hoa _ ha
    obtain ⟨con,vars,body⟩:=a
    simp only [Arm.ok] at h3
    exact h3.1,sc_arms hsa a ha⟩
  have hO:=fun s=>implArmsOf (f:=false) (g:=false) ho hl hc (by omega) hf s
  have hS:=amP_mk (ds:=ds) (k:=k) (n:=n) (name:=name) (arg:=arg) (lit:=lit) (kids:=kids) (arms:=arms)
  have hKL:=@amKids ds name k n arg lit kids arms p s hp (by omega) hk
  have hAL:=@amArms ds name k n arg lit kids arms p s hp (by omega) hka
  have hT:(k = 16→armsP ds arms)→(∀ x ∈ kids,amP ds x)→(∀ a ∈ arms,amP ds a.body)→decide (amP ds (.mk k n name arg lit kids arms)) = true:=fun h1 h2 h3=>decide_eq_true (hS.2 ⟨h1,h2,h3⟩)
  have hN0:k = 16→¬ armsP ds arms→decide (amP ds (.mk k n name arg lit kids arms)) = false:=fun h h2=>decide_eq_false fun h3=>h2 ((hS.1 h3).1 h)
  have hN1:(∃ x ∈ kids,¬ amP ds x)→decide (amP ds (.mk k n name arg lit kids arms)) = false:=fun ⟨x,hx,h2⟩=>decide_eq_false fun h3=>h2 ((hS.1 h3).2.1 x hx)
  have hN2:(∃ x ∈ arms,¬ amP ds x.body)→decide (amP ds (.mk k n name arg lit kids arms)) = false:=fun ⟨x,hx,h2⟩=>decide_eq_false fun h3=>h2 ((hS.1 h3).2.2 x hx)
  generalize decide (amP ds (.mk k n name arg lit kids arms)) = b at *
  by_cases h16:k = 16
  · by_cases hA : armsP ds arms
    · have hO : ∀ s, ∃ v s', callF (tab tbl) prim 110 [.imm false ds.length (ds.flatMap Dt.az), .imm false arms.length (arms.flatMap Arm.az)] s = some (v, s') ∧ ∃ (a : Int) (c : AV), v = .tup [.int .i64 a, c, .bool true] ∧ s' = s := fun s => by
        obtain ⟨v,s',e,h1,⟨i,_,_,_,h2⟩ | ⟨h2,_⟩⟩:=hO s
        · exact ⟨v, s', e, _, _, h2, h1⟩
        · exact absurd hA h2
      refine funY rfl (argsF rfl (frzs_cons (hp.frz s) (frzs_cons frz_imm frzs_nil))) zt ?_
      repeat' (first|refine zw ?_|refine zn (fun hb=>?_) (fun hb=>?_)|refine zx ?_|refine zp hp ?_|(refine zk ((hO _)) ?_; rintro _ _ ⟨ad, ac, rfl, rfl⟩)|refine zo ?_|exact zi|fail)
      refine Wp.mono (hKL _ _ _ _ _ _ _ _ _ _ _) ?_
      rintro e st (⟨rfl, hall, y4, y9, y10, y11, rfl⟩ | ⟨rfl, hbad, y4, y9, y10, y11, rfl⟩)
      · repeat' (first|refine zw ?_|refine zn (fun hb=>?_) (fun hb=>?_)|refine zx ?_|refine zp hp ?_|refine zo ?_|exact zi|fail)
        refine Wp.mono (hAL _ _ _ _ _ _ _ _ _ _ _) ?_
        rintro e st (⟨rfl, hall2, y5, y13, y14, y15, rfl⟩ | ⟨rfl, hbad, y5, y13, y14, y15, rfl⟩)
        · rw [hT (fun _ => hA) hall hall2]
          repeat' (first|refine zw ?_|refine zn (fun hb=>?_) (fun hb=>?_)|refine zx ?_|refine zo ?_|exact zi|fail)
        · rw [hN2 hbad]
          repeat' (first|refine zw ?_|refine zn (fun hb=>?_) (fun hb=>?_)|refine zx ?_|refine zo ?_|exact zi|fail)
      · rw [hN1 hbad]
        repeat' (first|refine zw ?_|refine zn (fun hb=>?_) (fun hb=>?_)|refine zx ?_|refine zo ?_|exact zi|fail)
    · have hO : ∀ s, ∃ v s', callF (tab tbl) prim 110 [.imm false ds.length (ds.flatMap Dt.az), .imm false arms.length (arms.flatMap Arm.az)] s = some (v, s') ∧ ∃ (a : Int) (c : AV), v = .tup [.int .i64 a, c, .bool false] ∧ s' = s := fun s => by
        obtain ⟨v,s',e,h1,⟨i,_,_,h2,_⟩ | ⟨_,h2⟩⟩:=hO s
        · exact absurd h2 hA
        · exact ⟨v, s', e, _, _, h2, h1⟩
      rw [hN0 h16 hA]
      refine funY rfl (argsF rfl (frzs_cons (hp.frz s) (frzs_cons frz_imm frzs_nil))) zt ?_
      repeat' (first|refine zw ?_|refine zn (fun hb=>?_) (fun hb=>?_)|refine zx ?_|refine zp hp ?_|(refine zk ((hO _)) ?_; rintro _ _ ⟨ad, ac, rfl, rfl⟩)|refine zo ?_|exact zi|fail)
  · refine funY rfl (argsF rfl (frzs_cons (hp.frz s) (frzs_cons frz_imm frzs_nil))) zt ?_
    repeat' (first|refine zw ?_|refine zn (fun hb=>?_) (fun hb=>?_)|refine zx ?_|refine zp hp ?_|refine zo ?_|exact zi|fail)
    refine Wp.mono (hKL _ _ _ _ _ _ _ _ _ _ _) ?_
    rintro e st (⟨rfl, hall, y4, y9, y10, y11, rfl⟩ | ⟨rfl, hbad, y4, y9, y10, y11, rfl⟩)
    · repeat' (first|refine zw ?_|refine zn (fun hb=>?_) (fun hb=>?_)|refine zx ?_|refine zp hp ?_|refine zo ?_|exact zi|fail)
      refine Wp.mono (hAL _ _ _ _ _ _ _ _ _ _ _) ?_
      rintro e st (⟨rfl, hall2, y5, y13, y14, y15, rfl⟩ | ⟨rfl, hbad, y5, y13, y14, y15, rfl⟩)
      · rw [hT (fun h => absurd h h16) hall hall2]
        repeat' (first|refine zw ?_|refine zn (fun hb=>?_) (fun hb=>?_)|refine zx ?_|refine zo ?_|exact zi|fail)
      · rw [hN2 hbad]
        repeat' (first|refine zw ?_|refine zn (fun hb=>?_) (fun hb=>?_)|refine zx ?_|refine zo ?_|exact zi|fail)
    · rw [hN1 hbad]
      repeat' (first|refine zw ?_|refine zn (fun hb=>?_) (fun hb=>?_)|refine zx ?_|refine zo ?_|exact zi|fail)
end Go.Proofs.YtkjonfojileipaaGreatDoor.Gq
namespace Go.Proofs.YtkjonfojileipaaGreatDoor.Gq
open Go Go.Proofs Go.Proofs.YtkjonfojileipaaGreatDoor.Ae
theorem nodup_len : ∀ (n : Nat) (l : List Int), l.Nodup → (∀ c ∈ l, 0 ≤ c ∧ c < (n : Int)) → l.length ≤ n
  | 0, l, _, h => by
    cases l with
    | nil => simp
    | cons a r => have := h a (by simp); omega
  | n + 1, l, hn, h => by
    have h1:=nodup_len n (l.erase (n:Int)) (hn.erase _) fun c hc=>by
      have h2:=(hn.mem_erase_iff).1 hc
      have h3:=h c h2.2
      have h4:c ≠ (n:Int):=h2.1
      omega
    by_cases hm:(n:Int) ∈ l
    · rw [List.length_erase_of_mem hm] at h1
      omega
    · rw [List.erase_of_not_mem hm] at h1
      omega
def spP1 (arms : List Arm) : Prop := (∀ (q : Nat) (h : q < arms.length), q + 1 < arms.length → arms[q].con.length ≠ 0) ∧ ∀ (i j : Nat) (hi : i < arms.length) (hj : j < arms.length), i < j → arms[j].con.length ≠ 0 → arms[i].con ≠ arms[j].con
def spP2 (arms : List Arm) (n : Nat) : Prop := (∃ h : 0 < arms.length, arms[arms.length - 1].con.length = 0 ∧ arms.length - 1 < n) ∨ (∃ h : 0 < arms.length, arms[arms.length - 1].con.length ≠ 0 ∧ arms.length = n)
theorem kOf_one {ds : List Dt} {i : Nat} {a b : Arm} (ha : ∃ k, At a.con ds i k) (hb : ∃ k, At b.con ds i k) (ha0 : a.con.length ≠ 0) (hb0 : b.con.length ≠ 0) (h : kOf ds a.con = kOf ds b.con) : a.con = b.con := by
  obtain ⟨k,hk⟩:=ha
  obtain ⟨k2,hk2⟩:=hb
  rw [kOf_at ha0 hk,kOf_at hb0 hk2] at h
  have h:=Int.ofNat.inj h
  subst h
  obtain ⟨h1,h2,h3,_⟩:=hk
  obtain ⟨_,_,h4,_⟩:=hk2
  rw [← h3,← h4]
theorem spP_iff {ds : List Dt} {arms : List Arm} {i : Nat} (hi : i < ds.length) (had : adP ds arms i) (hf : ∀ a ∈ arms, a.con.length ≠ 0 → ∃ i k, At a.con ds i k) :
    plP (arms.map fun a => kOf ds a.con) ds[i].cons.length ↔ spP1 arms ∧ spP2 arms ds[i].cons.length := by
  have hat:∀ a ∈ arms,a.con.length ≠ 0→∃ k,At a.con ds i k:=fun a ha h0=>by
    obtain ⟨j,k,h⟩:=hf a ha h0
    have h2:=had.2 a ha h0
    rw [dOf_at h] at h2
    obtain rfl:j = i:=Int.ofNat.inj h2
    exact ⟨k,h⟩
  have hrng:∀ a ∈ arms,a.con.length ≠ 0→0 ≤ kOf ds a.con∧kOf ds a.con < (ds[i].cons.length:Int):=fun a ha h0=>by
    obtain ⟨k,h⟩:=hat a ha h0
    rw [kOf_at h0 h]
    have:=h.2.1
    omega
  have hneg:∀ a ∈ arms,kOf ds a.con < 0→a.con.length = 0:=fun a ha h=>by
    by_cases h0:a.con.length = 0
    · exact h0
    · have := hrng a ha h0; omega
  obtain ⟨a0,ha0,hn0⟩:=had.1
  have hlen:0 < arms.length:=List.length_pos_iff.2 fun h=>by rw [h] at ha0; cases ha0
  have hlast:(arms.map fun a=>kOf ds a.con)[arms.length - 1]? = some (kOf ds arms[arms.length - 1].con):=by
    rw [List.getElem?_map,List.getElem?_eq_getElem (by omega)]; rfl
  have hmem:=List.getElem_mem (l:=arms) (n:=arms.length - 1) (by omega)
  -- how many places
  have hsm:(arms[arms.length - 1].con.length = 0∧smN (arms.map fun a=>kOf ds a.con) = arms.length - 1) ∨ (arms[arms.length - 1].con.length ≠ 0∧smN (arms.map fun a=>kOf ds a.con) = arms.length):=by
    unfold smN
    rw [List.length_map,hlast]
    by_cases h:arms[arms.length - 1].con.length = 0
    · rw [if_pos ⟨hlen, by rw [kOf_nil h]⟩]
      exact .inl ⟨h,rfl⟩
    · rw [if_neg fun h2 => by have := Option.some.inj h2.2; have := hrng _ hmem h; omega]
      exact .inr ⟨h,rfl⟩
  have hin:∀ (m:Nat),m ≤ arms.length→((∀ c ∈ (arms.map fun a=>kOf ds a.con).take m,0 ≤ c∧c < (ds[i].cons.length:Int)) ↔ ∀ (q:Nat) (h:q < arms.length),q < m→arms[q].con.length ≠ 0):=fun m hm=>by
    rw [← List.map_take]
    constructor
    · intro h q hq hqm h0
      have h1:=h (kOf ds arms[q].con) (List.mem_map.2 ⟨arms[q],by rw [List.mem_take_iff_getElem]; exact ⟨q,by omega,rfl⟩,rfl⟩)
      rw [kOf_nil h0] at h1
      omega
    · intro h c hc
      obtain ⟨a,ha,rfl⟩:=List.mem_map.1 hc
      rw [List.mem_take_iff_getElem] at ha
      obtain ⟨q,hq,rfl⟩:=ha
      exact hrng _ (List.getElem_mem _) (h q (by omega) (by omega))
  have hnd:∀ (m:Nat),m ≤ arms.length→(∀ (q:Nat) (h:q < arms.length),q < m→arms[q].con.length ≠ 0)→(((arms.map fun a=>kOf ds a.con).take m).Nodup ↔ ∀ (p q:Nat) (hp:p < arms.length) (hq:q < arms.length),p < q→q < m→arms[p].con ≠ arms[q].con):=fun m hm h0=>by
    rw [← List.map_take,List.nodup_iff_pairwise_ne,List.pairwise_iff_getElem]
    simp only [List.length_map,List.length_take,List.getElem_map,List.getElem_take]
    constructor
    · intro h p q hp hq hpq hqm e
      exact h p q (by omega) (by omega) hpq (by rw [e])
    · intro h p q hp hq hpq e
      exact h p q (by omega) (by omega) hpq (by omega) (kOf_one (hat _ (List.getElem_mem _) (h0 p (by omega) (by omega))) (hat _ (List.getElem_mem _) (h0 q (by omega) (by omega))) (h0 p (by omega) (by omega)) (h0 q (by omega) (by omega)) e)
  have hpig:∀ (m:Nat),m ≤ arms.length→(∀ c ∈ (arms.map fun a=>kOf ds a.con).take m,0 ≤ c∧c < (ds[i].cons.length:Int))→((arms.map fun a=>kOf ds a.con).take m).Nodup→m ≤ ds[i].cons.length:=fun m hm h1 h2=>by
    have:=nodup_len _ _ h2 h1
    rw [List.length_take,List.length_map] at this
    omega
  have hpos:∀ m,m = arms.length - 1→arms[arms.length - 1].con.length = 0→0 < m:=fun m hm h=>by
    obtain ⟨q,hq,rfl⟩:=List.mem_iff_getElem.1 ha0
    by_cases hq2:q = arms.length - 1
    · subst hq2; exact absurd h hn0
    · omega
  unfold plP
  rcases hsm with ⟨hl0, hs⟩ | ⟨hl0, hs⟩
  · rw [hs, List.length_map]
    have hm:arms.length - 1 ≤ arms.length:=by omega
    constructor
    · rintro ⟨h1, h2, h3, h4⟩
      have h5:=(hin _ hm).1 h1
      have h6:=(hnd _ hm h5).1 h2
      have h7:=hpig _ hm h1 h2
      refine ⟨⟨fun q hq hq1=>h5 q hq (by omega),fun p q hp hq hpq hq0=>?_⟩,.inl ⟨hlen,hl0,by omega⟩⟩
      by_cases hq2:q = arms.length - 1
      · subst hq2; exact absurd hl0 hq0
      · exact h6 p q hp hq hpq (by omega)
    · rintro ⟨⟨h1, h2⟩, h3 | ⟨_, h3, _⟩⟩
      · obtain ⟨_, _, h3⟩ := h3
        have h5:∀ (q:Nat) (h:q < arms.length),q < arms.length - 1→arms[q].con.length ≠ 0:=fun q hq h=>h1 q hq (by omega)
        have h6:=(hnd _ hm h5).2 fun p q hp hq hpq hqm=>h2 p q hp hq hpq (h5 q hq hqm)
        exact ⟨(hin _ hm).2 h5,h6,hpos _ rfl hl0,by omega⟩
      · exact absurd hl0 h3
  · rw [hs, List.length_map]
    have hm:arms.length ≤ arms.length:=by omega
    constructor
    · rintro ⟨h1, h2, h3, h4⟩
      have h5:=(hin _ hm).1 h1
      have h6:=(hnd _ hm h5).1 h2
      exact ⟨⟨fun q hq hq1=>h5 q hq hq,fun p q hp hq hpq hq0=>h6 p q hp hq hpq hq⟩,.inr ⟨hlen,hl0,h4.2 rfl⟩⟩
    · rintro ⟨⟨h1, h2⟩, ⟨_, h3, _⟩ | ⟨_, _, h3⟩⟩
      · exact absurd h3 hl0
      · have h5 : ∀ (q : Nat) (h : q < arms.length), q < arms.length → arms[q].con.length ≠ 0 := fun q hq h => by
          by_cases hq2:q = arms.length - 1
          · subst hq2; exact hl0
          · exact h1 q hq (by omega)
        have h6:=(hnd _ hm h5).2 fun p q hp hq hpq hqm=>h2 p q hp hq hpq (h5 q hq hqm)
        exact ⟨(hin _ hm).2 h5,h6,hlen,by omega⟩
def spQ (arms : List Arm) (q : Nat) (rest : Bool) (c : Nat) : Prop :=
  ((rest = false ∧ c = q ∧ ∀ (j : Nat) (h : j < arms.length), j < q → arms[j].con.length ≠ 0) ∨ (rest = true ∧ 0 < q ∧ c = q - 1 ∧ (∀ (j : Nat) (h : j < arms.length), j + 1 = q → arms[j].con.length = 0) ∧ ∀ (j : Nat) (h : j < arms.length), j + 1 < q → arms[j].con.length ≠ 0)) ∧
    ∀ (i j : Nat) (hi : i < arms.length) (hj : j < arms.length), i < j → j < q → arms[j].con.length ≠ 0 → arms[i].con ≠ arms[j].con
theorem spQ.zero (arms : List Arm) : spQ arms 0 false 0 := ⟨.inl ⟨rfl, rfl, fun j _ h => by omega⟩, fun i j _ _ _ h => by omega⟩
theorem spQ.any {arms : List Arm} {q c : Nat} (h : spQ arms q false c) (hq : q < arms.length) (h0 : arms[q].con.length = 0) : spQ arms (q + 1) true c := by
  obtain ⟨⟨_,h1,h2⟩ | ⟨h1,_⟩,h3⟩:=h
  · have hz : ∀ (j : Nat) (h : j < arms.length), j + 1 = q + 1 → arms[j].con.length = 0 := fun j hj e => by
      have e2:j = q:=by omega
      subst e2
      exact h0
    refine ⟨.inr ⟨rfl,by omega,by omega,hz,fun j hj h=>h2 j hj (by omega)⟩,fun i j hi hj hij hjq hj0=>?_⟩
    by_cases hj2:j = q
    · subst hj2; exact absurd h0 hj0
    · exact h3 i j hi hj hij (by omega) hj0
  · cases h1
theorem spQ.con {arms : List Arm} {q c : Nat} (h : spQ arms q false c) (hq : q < arms.length) (h0 : arms[q].con.length ≠ 0) (hd : ∀ (k : Nat) (hk : k < arms.length), k < q → arms[k].con ≠ arms[q].con) : spQ arms (q + 1) false (c + 1) := by
  obtain ⟨⟨_,h1,h2⟩ | ⟨h1,_⟩,h3⟩:=h
  · refine ⟨.inl ⟨rfl, by omega, fun j hj h => ?_⟩, fun i j hi hj hij hjq hj0 => ?_⟩
    · by_cases hj2 : j = q
      · subst hj2; exact h0
      · exact h2 j hj (by omega)
    · by_cases hj2 : j = q
      · subst hj2; exact hd i hi hij
      · exact h3 i j hi hj hij (by omega) hj0
  · cases h1
theorem spQ.late {arms : List Arm} {q c : Nat} (h : spQ arms q true c) (hq : q < arms.length) : ¬ spP1 arms := fun h2 => by
  obtain ⟨⟨h1,_⟩ | ⟨_,h0,_,h3,_⟩,_⟩:=h
  · cases h1
  · exact h2.1 (q - 1) (by omega) (by omega) (h3 (q - 1) (by omega) (by omega))
theorem spQ.twice {arms : List Arm} {q k : Nat} (hq : q < arms.length) (hk : k < q) (h0 : arms[q].con.length ≠ 0) (e : arms[k].con = arms[q].con) : ¬ spP1 arms := fun h => h.2 k q (by omega) hq hk h0 e
theorem spQ.whole {arms : List Arm} {rest : Bool} {c n : Nat} (h : spQ arms arms.length rest c) (hl : 0 < arms.length) : spP1 arms ∧ (spP2 arms n ↔ (rest = true ∧ c < n) ∨ (rest = false ∧ c = n)) := by
  obtain ⟨h1,h3⟩:=h
  have hm:arms.length - 1 < arms.length:=by omega
  rcases h1 with ⟨h1, h2, h4⟩ | ⟨h1, h0, h2, h4, h5⟩
  · refine ⟨⟨fun q hq _ => h4 q hq hq, fun i j hi hj hij hj0 => h3 i j hi hj hij hj hj0⟩, ?_⟩
    have hl0:=h4 (arms.length - 1) hm hm
    constructor
    · rintro (⟨_, h, _⟩ | ⟨_, _, h⟩)
      · exact absurd h hl0
      · exact .inr ⟨h1, by omega⟩
    · rintro (⟨h, _⟩ | ⟨_, h⟩)
      · rw [h1] at h; cases h
      · exact .inr ⟨hl, hl0, by omega⟩
  · refine ⟨⟨fun q hq hq1 => h5 q hq hq1, fun i j hi hj hij hj0 => h3 i j hi hj hij hj hj0⟩, ?_⟩
    have hl0:=h4 (arms.length - 1) hm (by omega)
    constructor
    · rintro (⟨_, _, h⟩ | ⟨_, h, _⟩)
      · exact .inl ⟨h1, by omega⟩
      · exact absurd hl0 h
    · rintro (⟨_, h⟩ | ⟨h, _⟩)
      · exact .inl ⟨hl, hl0, by omega⟩
      · rw [h1] at h; cases h
end Go.Proofs.YtkjonfojileipaaGreatDoor.Gq
namespace Go.Proofs.YtkjonfojileipaaGreatDoor.Gq
open Go Go.Proofs Go.Proofs.YtkjonfojileipaaGreatDoor.Ae
attribute [local congr] obind_congr
attribute [local push_cast] exF argsV frzs frz frzL frz1 exS_reg exS_seq exS_cond exS_alt exS_block exS_loop exS_exit exS_ret exS_skip evReg evOps evOne evAct evOp rd putV st0 evEnd resV resL resOne oneOr frzR loadV storeV binV binI unV push_frm pop_frm frm_len frm_top frm_get_top frm_set_top frm_new AV.cells AV.lowB AV.lowL AV.isCell cellsOk set_len Option.bind_some Option.map_some Option.map_none List.getD_cons_zero List.getD_cons_succ List.nil_append List.cons_append List.append_nil List.length_cons List.length_nil List.set_cons_zero List.set_cons_succ List.map_cons List.map_nil List.replicate if_true if_false ite_true ite_false ite_self Bool.false_eq_true List.all_cons List.all_nil Bool.and_true Bool.true_and Bool.and_self Bool.and_eq_true List.getElem?_cons_zero List.getElem?_cons_succ List.drop_succ_cons List.drop_zero List.take_succ_cons List.take_zero true_and and_true and_self decide_true decide_false Bool.not_true Bool.not_false Prod.mk.injEq Option.some.injEq List.getElem?_drop optInt elems sliceV partsOf Nat.add_zero Nat.zero_add Nat.mul_one beq_self_eq_true litParts Bool.or_false Bool.false_or Bool.or_true Bool.true_or Bool.false_and Bool.and_false List.cons.injEq not_false_eq_true not_true_eq_false Nat.zero_le Nat.le_refl gt_iff_lt ge_iff_le List.drop_nil List.take_nil newBox List.length_append List.length_map bne_self_eq_false eq_self Nat.lt_add_one ne_eq false_implies Int.le_refl
theorem arm_at {arms : List Arm} {q : Nat} (h : q < arms.length) : (arms.flatMap Arm.az)[q * 9]? = some (.imm false arms[q].con.length (by8 arms[q].con)) := by
  have h1:=(fm_at Arm.len h).2
  have h2:=congrArg (fun l:List AV=>l[0]?) h1
  simp only [List.getElem?_take,List.getElem?_drop] at h2
  have h3:arms[q].az[0]? = some (.imm false arms[q].con.length (by8 arms[q].con)):=by
    generalize arms[q] = a
    obtain ⟨con,vars,body⟩:=a
    rfl
  rw [h3] at h2
  simpa using h2
set_option maxHeartbeats 8000000 in
theorem specDataOf {ds : List Dt} {arms : List Arm} (ho : okN ds) (hl : ds.length ≤ 1000000000) (hc : ∀ d ∈ ds, d.cons.length ≤ 1000000000) (hal : arms.length ≤ 1000000) (hf : ∀ a ∈ arms, okB a.con ∧ (a.con.length ≠ 0 → ∃ i k, At a.con ds i k)) (f g : Bool) (s : Store) :
    ∃ v s', callF (tab tbl) prim 109 [.imm f ds.length (ds.flatMap Dt.az), .imm g arms.length (arms.flatMap Arm.az)] s = some (v, s') ∧ (s' = s ∧ ((v = .int .i64 (-1) ∧ ∀ j, ¬ adP ds arms j) ∨ ∃ i : Nat, v = .int .i64 i ∧ i < ds.length ∧ adP ds arms i)) := by
  refine funZ rfl (argsF rfl (frzs_cons frz_imm (frzs_cons frz_imm frzs_nil))) zt ?_
  repeat' (first|refine zw ?_|refine zn (fun hb=>?_) (fun hb=>?_)|refine zx ?_|refine zo ?_|exact zi|fail)
  refine wLoop (fun m st=>∃ (q:Nat) (dv:Int) (y5 y6 y7 y8:AV),(m:Int) = arms.length - q∧q ≤ arms.length∧adQ ds arms q dv∧st = ⟨[.imm false ds.length (ds.flatMap Dt.az),.imm false arms.length (arms.flatMap Arm.az),.int .i64 0,.int .i64 dv,.int .i64 q,y5,y6,y7,y8],frm s []⟩) arms.length ?_ ?_
  · exact ⟨0, -1, _, _, _, _, by omega, by omega, .inl ⟨by simp, rfl⟩, rfl⟩
  · rintro m st ⟨q, dv, y5, y6, y7, y8, hm, hq, hQ, rfl⟩
    by_cases hlt:q < arms.length
    · have ha := arm_at hlt
      obtain ⟨hcon,hat⟩:=hf _ (List.getElem_mem hlt)
      have hpos:=hQ.pos
      have q1:=hQ.nil hlt
      have q2:=fun hn i k=>@adQ.con ds arms q hlt dv hQ hn i k
      have q3:=fun hn i k=>@adQ.bad ds arms q hlt dv hQ hn i k
      generalize arms[q].con = con at *
      have tc:=toB8 con
      have lc:=by8_len con
      by_cases h0:con.length = 0
      · repeat' (first|refine zw ?_|refine zn (fun hb=>?_) (fun hb=>?_)|refine zx ?_|refine zof @ha ?_|exact zi|fail)
        all_goals first
          | (exfalso; omega)
          | exact loopNor (m - 1) (by omega) ⟨q + 1, dv, _, _, _, _, by omega, by omega, q1 h0, rfl⟩
      · obtain ⟨i, k, hak⟩ := hat h0
        have h1:=fun s=>specPlace1 hcon ho hl hc s hak
        by_cases hd:dv < 0 ∨ dv = i
        · repeat' (first|refine zw ?_|refine zn (fun hb=>?_) (fun hb=>?_)|refine zx ?_|refine zof (zA @ha (@h1)) ?_|exact zi|fail)
          all_goals first
            | (exfalso; omega)
            | exact loopNor (m - 1) (by omega) ⟨q + 1, i, _, _, _, _, by omega, by omega, q2 h0 i k hak hd, rfl⟩
        · repeat' (first|refine zw ?_|refine zn (fun hb=>?_) (fun hb=>?_)|refine zx ?_|refine zof (zA @ha (@h1)) ?_|exact zi|fail)
          all_goals first
            | (exfalso; omega)
            | exact ⟨rfl, .inl ⟨rfl, q3 h0 i k hak (by omega) (by omega)⟩⟩
    · obtain rfl : q = arms.length := by omega
      have hw:=hQ.whole
      repeat' (first|refine zw ?_|refine zn (fun hb=>?_) (fun hb=>?_)|refine zx ?_|refine zo ?_|exact zi|fail)
      all_goals
        refine ⟨rfl,?_⟩
        rcases hw with ⟨rfl, h⟩ | ⟨i, rfl, h⟩
        · exact .inl ⟨rfl, h⟩
        · exact .inr ⟨i, rfl, h⟩
def saC (ds : List Dt) (e : Xp) : Prop := ∀ s : Store, callF (tab tbl) prim 51 [.imm false ds.length (ds.flatMap Dt.az), .agg e.az] s = some (.bool (decide (amP ds e)), s)
section
variable {ds : List Dt} {name : List Int} {k n : Int} {arg lit : List Int} {kids : List Xp} {arms : List Arm} {s : Store}
set_option maxHeartbeats 8000000 in
theorem saKids (hkl : kids.length ≤ 1000000000) (hk : ∀ x ∈ kids, saC ds x) (y5 y6 y7 y8 y9 y10 y11 y12 y13 y14 y15 y16 y17 y18 y19 : AV) :
    Wp (exS (callF (tab tbl) prim) (.loop (loopAt c51 0)) ⟨[.imm false ds.length (ds.flatMap Dt.az), .agg (zcs k n name arg lit kids arms), .ptr (s.low.length + 1) 0 0, .bool false, .int .i64 0, y5, y6, y7, y8, y9, y10, y11, y12, y13, y14, y15, y16, y17, y18, y19], frm s [.box 36 (zcs k n name arg lit kids arms)]⟩)
      (fun e st => (e = .exit 0 ∧ (∀ x ∈ kids, amP ds x) ∧ ∃ y4 y11 y12, st = ⟨[.imm false ds.length (ds.flatMap Dt.az), .agg (zcs k n name arg lit kids arms), .ptr (s.low.length + 1) 0 0, .bool false, y4, y5, y6, y7, y8, y9, y10, y11, y12, y13, y14, y15, y16, y17, y18, y19], frm s [.box 36 (zcs k n name arg lit kids arms)]⟩) ∨ (e = .ret ∧ (∃ x ∈ kids, ¬ amP ds x) ∧ ∃ y4 y11 y12, st = ⟨[.imm false ds.length (ds.flatMap Dt.az), .agg (zcs k n name arg lit kids arms), .ptr (s.low.length + 1) 0 0, .bool false, y4, y5, y6, y7, y8, y9, y10, y11, y12, y13, y14, y15, y16, y17, y18, y19], frm s [.box 36 (zcs k n name arg lit kids arms)]⟩)) := by
  simp only [loopAt,loops,c51,List.nil_append,List.append_nil,List.getD_cons_zero,List.cons_append]
  refine wLoop (fun m st=>∃ (q:Nat) (y11 y12:AV),(m:Int) = kids.length - q∧q ≤ kids.length∧(∀ x ∈ kids.take q,amP ds x)∧st = ⟨[.imm false ds.length (ds.flatMap Dt.az),.agg (zcs k n name arg lit kids arms),.ptr (s.low.length + 1) 0 0,.bool false,.int .i64 q,y5,y6,y7,y8,y9,y10,y11,y12,y13,y14,y15,y16,y17,y18,y19],frm s [.box 36 (zcs k n name arg lit kids arms)]⟩) kids.length ?_ ?_
  · exact ⟨0, _, _, by omega, by omega, by simp, rfl⟩
  · rintro m st ⟨q, y11, y12, hm, hq, hall, rfl⟩
    by_cases hlt:q < kids.length
    · have hmem := List.getElem_mem hlt
      obtain ⟨hb1,hb2⟩:=fm_at Xp.len hlt
      have hi:=fun S=>hk _ hmem S
      have htk:=List.take_succ_eq_append_getElem hlt
      generalize kids[q] = x at *
      by_cases hx:amP ds x
      · simp only [decide_eq_true hx] at hi
        repeat' (first|refine zw ?_|refine zn (fun hb=>?_) (fun hb=>?_)|refine zx ?_|refine zof (zA @hi (zA @hb1 (@hb2))) ?_|exact zi|fail)
        exact loopNor (m - 1) (by omega) ⟨q + 1,_,_,by omega,by omega,fun z hz=>by
          rw [htk,List.mem_append,List.mem_singleton] at hz
          rcases hz with hz | rfl
          · exact hall z hz
          · exact hx, rfl⟩
      · simp only [decide_eq_false hx] at hi
        repeat' (first|refine zw ?_|refine zn (fun hb=>?_) (fun hb=>?_)|refine zx ?_|refine zof (zA @hi (zA @hb1 (@hb2))) ?_|exact zi|fail)
        exact .inr ⟨rfl,⟨x,hmem,hx⟩,_,_,_,rfl⟩
    · obtain rfl : q = kids.length := by omega
      rw [List.take_length] at hall
      repeat' (first|refine zw ?_|refine zn (fun hb=>?_) (fun hb=>?_)|refine zx ?_|refine zo ?_|exact zi|fail)
      exact .inl ⟨rfl,hall,_,_,_,rfl⟩
set_option maxHeartbeats 16000000 in
theorem saArms (hok : ∀ a ∈ arms, okB a.con) (hal : arms.length ≤ 1000000) (hk : ∀ x ∈ arms, saC ds x.body) (y4 y5 y9 y10 y11 y12 y13 y14 y15 y16 y17 y18 y19 : AV) :
    Wp (exS (callF (tab tbl) prim) (.loop (loopAt c51 1)) ⟨[.imm false ds.length (ds.flatMap Dt.az), .agg (zcs k n name arg lit kids arms), .ptr (s.low.length + 1) 0 0, .bool false, y4, y5, .bool false, .int .i64 0, .int .i64 0, y9, y10, y11, y12, y13, y14, y15, y16, y17, y18, y19], frm s [.box 36 (zcs k n name arg lit kids arms)]⟩)
      (fun e st => (e = .exit 2 ∧ (∀ x ∈ arms, amP ds x.body) ∧ ∃ (rest : Bool) (c : Nat) (y4 y8 y9 y10 y11 y12 y13 y14 y15 y16 y17 y18 y19 : AV), spQ arms arms.length rest c ∧ st = ⟨[.imm false ds.length (ds.flatMap Dt.az), .agg (zcs k n name arg lit kids arms), .ptr (s.low.length + 1) 0 0, .bool false, y4, y5, .bool rest, .int .i64 c, y8, y9, y10, y11, y12, y13, y14, y15, y16, y17, y18, y19], frm s [.box 36 (zcs k n name arg lit kids arms)]⟩) ∨
        (e = .ret ∧ (¬ spP1 arms ∨ ∃ x ∈ arms, ¬ amP ds x.body) ∧ ∃ y4 y5 y6 y7 y8 y9 y10 y11 y12 y13 y14 y15 y16 y17 y18 y19 : AV, st = ⟨[.imm false ds.length (ds.flatMap Dt.az), .agg (zcs k n name arg lit kids arms), .ptr (s.low.length + 1) 0 0, .bool false, y4, y5, y6, y7, y8, y9, y10, y11, y12, y13, y14, y15, y16, y17, y18, y19], frm s [.box 36 (zcs k n name arg lit kids arms)]⟩)) := by
  simp only [loopAt,loops,c51,List.nil_append,List.append_nil,List.getD_cons_zero,List.getD_cons_succ,List.cons_append]
  refine wLoop (fun m st=>∃ (q:Nat) (rest:Bool) (c:Nat) (y4 y9 y10 y11 y12 y13 y14 y15 y16 y17 y18 y19:AV),(m:Int) = arms.length - q∧q ≤ arms.length∧(∀ x ∈ arms.take q,amP ds x.body)∧spQ arms q rest c∧st = ⟨[.imm false ds.length (ds.flatMap Dt.az),.agg (zcs k n name arg lit kids arms),.ptr (s.low.length + 1) 0 0,.bool false,y4,y5,.bool rest,.int .i64 c,.int .i64 q,y9,y10,y11,y12,y13,y14,y15,y16,y17,y18,y19],frm s [.box 36 (zcs k n name arg lit kids arms)]⟩) arms.length ?_ ?_
  · exact ⟨0, false, 0, _, _, _, _, _, _, _, _, _, _, _, _, by omega, by omega, by simp, spQ.zero _, rfl⟩
  · rintro m st ⟨q, rest, c, y4, y9, y10, y11, y12, y13, y14, y15, y16, y17, y18, y19, hm, hq, hall, hQ, rfl⟩
    by_cases hlt:q < arms.length
    · have hmem := List.getElem_mem hlt
      have hca:=arm_at hlt
      obtain ⟨hb1,hb2⟩:=fm_at Arm.len hlt
      have hi:=fun S=>hk _ hmem S
      have hcq:c ≤ q:=by
        obtain ⟨⟨_,h,_⟩ | ⟨_,h,h2,_⟩,_⟩:=hQ <;> omega
      have htk:=List.take_succ_eq_append_getElem hlt
      have hbz:=@Arm.body_az arms[q]
      have hall2:amP ds arms[q].body→∀ x ∈ arms.take (q + 1),amP ds x.body:=fun hx z hz=>by
        rw [htk,List.mem_append,List.mem_singleton] at hz
        rcases hz with hz | rfl
        · exact hall z hz
        · exact hx
      have hld:(((arms.flatMap Arm.az).drop (q * 9)).drop 2).take 7 = arms[q].body.az∧7 ≤ (((arms.flatMap Arm.az).drop (q * 9)).drop 2).length:=by
        rw [fm_rest Arm.len hlt,Arm.body_az]
        refine ⟨List.take_left' (Xp.len _),by rw [List.length_append,Xp.len]; omega⟩
      cases rest with
      | true =>
        repeat' (first|refine zw ?_|refine zn (fun hb=>?_) (fun hb=>?_)|refine zx ?_|refine zof @hca ?_|exact zi|fail)
        all_goals first
          | (exfalso; omega)
          | exact .inr ⟨rfl, .inl (hQ.late hlt), _, _, _, _, _, _, _, _, _, _, _, _, _, _, _, _, rfl⟩
      | false =>
        by_cases hx:amP ds arms[q].body
        · simp only [decide_eq_true hx] at hi
          by_cases h0:arms[q].con.length = 0
          · repeat' (first|refine zw ?_|refine zn (fun hb=>?_) (fun hb=>?_)|refine zx ?_|refine zof (zA @hca (zA @hi (zA @hld.1 (@hld.2)))) ?_|exact zi|fail)
            all_goals first
              | (exfalso; omega)
              | exact loopNor (m - 1) (by omega) ⟨q + 1, true, c, _, _, _, _, _, _, _, _, _, _, _, _, by omega, by omega, hall2 hx, hQ.any hlt h0, rfl⟩
          · repeat' (first|refine zw ?_|refine zn (fun hb=>?_) (fun hb=>?_)|refine zx ?_|refine zof (zA @hca (zA @hi (zA @hld.1 (@hld.2)))) ?_|exact zi|fail)
            all_goals first
              | (exfalso; omega)
              | skip
            refine wLoop (fun m2 st=>∃ (r:Nat) (y4 y10 y11 y12 y13 y14 y15 y16 y17 y18 y19:AV),(m2:Int) = q - r∧r ≤ q∧(∀ (j:Nat) (hj:j < arms.length),j < r→arms[j].con ≠ arms[q].con)∧st = ⟨[.imm false ds.length (ds.flatMap Dt.az),.agg (zcs k n name arg lit kids arms),.ptr (s.low.length + 1) 0 0,.bool false,y4,y5,.bool false,.int .i64 c,.int .i64 q,.int .i64 r,y10,y11,y12,y13,y14,y15,y16,y17,y18,y19],frm s [.box 36 (zcs k n name arg lit kids arms)]⟩) q ?_ ?_
            · exact ⟨0, _, _, _, _, _, _, _, _, _, _, _, by omega, by omega, fun j _ h => by omega, rfl⟩
            · rintro m2 st ⟨r, y4, y10, y11, y12, y13, y14, y15, y16, y17, y18, y19, hm2, hr, hne, rfl⟩
              by_cases hlt2:r < q
              · have hrl : r < arms.length := by omega
                have hcr:=arm_at hrl
                have he:=bst_eql (hok _ (List.getElem_mem hrl)).2 (hok _ hmem).2
                have hbe:((bst arms[r].con).toList = (bst arms[q].con).toList) ↔ arms[r].con = arms[q].con:=by rw [← beq_iff_eq,he,decide_eq_true_eq]
                have t1:=toB8 arms[r].con
                have l1:=by8_len arms[r].con
                have t2:=toB8 arms[q].con
                have l2:=by8_len arms[q].con
                by_cases hee:arms[r].con = arms[q].con
                · repeat' (first|refine zw ?_|refine zn (fun hb=>?_) (fun hb=>?_)|refine zx ?_|refine zof (zA @hca (zA @hcr (zA @t1 (zA @l1 (zA @t2 (@l2)))))) ?_|exact zi|fail)
                  all_goals first
                    | (exfalso; omega)
                    | exact absurd (hbe.2 hee) hb
                    | exact .inr ⟨rfl, .inl (spQ.twice hlt hlt2 h0 hee), _, _, _, _, _, _, _, _, _, _, _, _, _, _, _, _, rfl⟩
                · repeat' (first|refine zw ?_|refine zn (fun hb=>?_) (fun hb=>?_)|refine zx ?_|refine zof (zA @hca (zA @hcr (zA @t1 (zA @l1 (zA @t2 (@l2)))))) ?_|exact zi|fail)
                  all_goals first
                    | (exfalso; omega)
                    | exact absurd (hbe.1 hb) hee
                    | exact loopNor (m2 - 1) (by omega) ⟨r + 1, _, _, _, _, _, _, _, _, _, _, _, by omega, by omega, fun j hj h => by
                        by_cases hj2:j = r
                        · subst hj2; exact hee
                        · exact hne j hj (by omega), rfl⟩
              · obtain rfl : r = q := by omega
                repeat' (first|refine zw ?_|refine zn (fun hb=>?_) (fun hb=>?_)|refine zx ?_|refine zo ?_|exact zi|fail)
                all_goals first
                  | (exfalso; omega)
                  | exact loopNor (m - 1) (by omega) ⟨r + 1, false, c + 1, _, _, _, _, _, _, _, _, _, _, _, _, by omega, by omega, hall2 hx, hQ.con hlt h0 hne, rfl⟩
        · simp only [decide_eq_false hx] at hi
          repeat' (first|refine zw ?_|refine zn (fun hb=>?_) (fun hb=>?_)|refine zx ?_|refine zof (zA @hca (zA @hi (zA @hld.1 (@hld.2)))) ?_|exact zi|fail)
          all_goals first
            | (exfalso; omega)
            | exact .inr ⟨rfl, .inr ⟨_, hmem, hx⟩, _, _, _, _, _, _, _, _, _, _, _, _, _, _, _, _, rfl⟩
    · obtain rfl : q = arms.length := by omega
      rw [List.take_length] at hall
      repeat' (first|refine zw ?_|refine zn (fun hb=>?_) (fun hb=>?_)|refine zx ?_|refine zo ?_|exact zi|fail)
      exact .inl ⟨rfl,hall,rest,c,_,_,_,_,_,_,_,_,_,_,_,_,_,hQ,rfl⟩
end
end Go.Proofs.YtkjonfojileipaaGreatDoor.Gq
