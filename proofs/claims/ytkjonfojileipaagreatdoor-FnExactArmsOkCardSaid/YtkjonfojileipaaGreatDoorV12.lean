/- Types in datas, for the reference. Heads of what is said of expressions, and the loops, for the reference. What the reference says of an expression, class by class (MADE BY PROGRAM: mkqd.py). What the reference says of an expression, class by class, and whole (MADE BY PROGRAM: mkqe.py). What the reference says of an expression, whole; and its print. -/
import Derived.Test.YtkjonfojileipaaGreatDoorV5
import Derived.Test.YtkjonfojileipaaGreatDoorV10
set_option linter.unusedSimpArgs false
set_option linter.unusedVariables false
namespace Go.Proofs.YtkjonfojileipaaGreatDoor.Gq
open Go Go.Proofs Go.Proofs.YtkjonfojileipaaGreatDoor.Ae
attribute [local congr] obind_congr
attribute [local push_cast] exF argsV frzs frz frzL frz1 exS_reg exS_seq exS_cond exS_alt exS_block exS_loop exS_exit exS_ret exS_skip evReg evOps evOne evAct evOp rd putV st0 evEnd resV resL resOne oneOr frzR loadV storeV binV binI unV push_frm pop_frm frm_len frm_top frm_get_top frm_set_top frm_new AV.cells AV.lowB AV.lowL AV.isCell cellsOk set_len Option.bind_some Option.map_some Option.map_none List.getD_cons_zero List.getD_cons_succ List.nil_append List.cons_append List.append_nil List.length_cons List.length_nil List.set_cons_zero List.set_cons_succ List.map_cons List.map_nil List.replicate if_true if_false ite_true ite_false ite_self Bool.false_eq_true List.all_cons List.all_nil Bool.and_true Bool.true_and Bool.and_self Bool.and_eq_true List.getElem?_cons_zero List.getElem?_cons_succ List.drop_succ_cons List.drop_zero List.take_succ_cons List.take_zero true_and and_true and_self decide_true decide_false Bool.not_true Bool.not_false Prod.mk.injEq Option.some.injEq List.getElem?_drop optInt elems sliceV partsOf Nat.add_zero Nat.zero_add Nat.mul_one beq_self_eq_true litParts Bool.or_false Bool.false_or Bool.or_true Bool.true_or Bool.false_and Bool.and_false List.cons.injEq not_false_eq_true not_true_eq_false Nat.zero_le Nat.le_refl gt_iff_lt ge_iff_le List.drop_nil List.take_nil newBox List.length_append List.length_map bne_self_eq_false eq_self Nat.lt_add_one ne_eq false_implies Int.le_refl
section
variable {bv : List Int → AV} {bs : List Int → Store}
theorem bGet {L : Nat} (hL : ∀ x, (bs x).low.length = L) (z : List Int) (T : List Ae.Obj) (i : Nat) : (frm (bs z) T).get (L + 1) i = T[i]? := frm_getC (by rw [hL])
theorem bSet {L : Nat} (hL : ∀ x, (bs x).low.length = L) (z : List Int) (T : List Ae.Obj) (i : Nat) (o : Ae.Obj) : (frm (bs z) T).set (L + 1) i o = frm (bs z) (T.set i o) := frm_setC (by rw [hL])
variable (hbu : Buf 5 bv bs)
include hbu
theorem bLow : ∃ L, ∀ x, (bs x).low.length = L := ⟨_, hbu.low⟩
theorem bLb (z : List Int) (d : Nat) : (bv z).lowB (d + 1) = true := (bufCell hbu z).2.2 d
theorem bA1 (z : List Int) (T : List Ae.Obj) (c : Int) (h : z.length ≤ 10000000000) : appG (frm (bs z) T) 5 1 1 (bv z) (.imm true 1 [.int .u8 c]) = some (bv (z ++ [c]), frm (bs (z ++ [c])) T) :=
  (hbu.frm T).app (ys := [c]) rfl (by simp only [List.length_cons, List.length_nil]; omega)
theorem bAi (z : List Int) (T : List Ae.Obj) (f : Bool) (l : List Int) (h : z.length + l.length ≤ 10000000000) : appG (frm (bs z) T) 5 1 1 (bv z) (.imm f l.length (by8 l)) = some (bv (z ++ l), frm (bs (z ++ l)) T) :=
  (hbu.frm T).app rfl (by omega)
theorem bAs (z : List Int) (T : List Ae.Obj) (l : List Int) (h : z.length + l.length ≤ 10000000000) (hl : Byt l) : appG (frm (bs z) T) 5 1 1 (bv z) (.str (bst l)) = some (bv (z ++ l), frm (bs (z ++ l)) T) :=
  (hbu.frm T).app (srcB hl) (by omega)
theorem endB {Q : AV → Store → Prop} {vs : List AV} {z : List Int} {T : List Ae.Obj} {res : List RV} {v : AV} (h : resV (frm (bs z) T) vs res = some v) (hv : v = bv z) (q : Q (bv z) (bs z)) : endQ ⟨0, 0, .skip, res, false, false, true⟩ Q .ret ⟨vs, frm (bs z) T⟩ :=
  endK rfl rfl (hv ▸ h) (by rw [frm_len]; exact bLb hbu z _) (pop_frm _ _) q
end
theorem kU : (⟨#[117, 110, 105, 116]⟩ : ByteArray) = bst [117, 110, 105, 116] := rfl
theorem kI : (⟨#[105, 110, 116]⟩ : ByteArray) = bst [105, 110, 116] := rfl
theorem kT : (⟨#[116, 101, 120, 116]⟩ : ByteArray) = bst [116, 101, 120, 116] := rfl
theorem kP : (⟨#[40, 112, 97, 105, 114]⟩ : ByteArray) = bst [40, 112, 97, 105, 114] := rfl
theorem kF : (⟨#[40, 102, 117, 110]⟩ : ByteArray) = bst [40, 102, 117, 110] := rfl
theorem kR : (⟨#[40, 114, 101, 102]⟩ : ByteArray) = bst [40, 114, 101, 102] := rfl
def bl {α : Type} (f : α → List Int) (l : List α) : List Int := l.flatMap fun x => 32 :: f x
theorem bl_take {α : Type} {f : α → List Int} {l : List α} {q : Nat} (h : q < l.length) : bl f (l.take (q + 1)) = bl f (l.take q) ++ [32] ++ f l[q] := by
  unfold bl
  rw [List.take_succ_eq_append_getElem h,List.flatMap_append,List.flatMap_cons,List.flatMap_nil,List.append_nil]
  simp
theorem bl_le {α : Type} {f : α → List Int} {l : List α} (q : Nat) : (bl f (l.take q)).length ≤ (bl f l).length := by
  conv => rhs; rw [← List.take_append_drop q l, bl, List.flatMap_append, List.length_append]
  unfold bl
  omega
theorem brk_bl {α : Type} (w : List Int) (f : α → List Int) (l : List α) : brk (w :: l.map f) = [40] ++ w ++ bl f l ++ [41] := by
  simp [brk, jn, bl, List.flatMap_map]
def tyC (ds : List Dt) (t : Ty) : Prop := ∀ (bv : List Int → AV) (bs : List Int → Store) (x : List Int), Buf 5 bv bs → x.length + (tsay ds t).length ≤ 2000000000 → callF (tab tbl) prim 68 [bv x, .agg t.az, .imm false ds.length (ds.flatMap Dt.az)] (bs x) = some (bv (x ++ tsay ds t), bs (x ++ tsay ds t))
set_option maxHeartbeats 4000000 in
theorem specTyLoop {ds : List Dt} {k n : Int} {args : List Ty} {bv : List Int → AV} {bs : List Int → Store} (hbu : Buf 5 bv bs) {L : Nat} (hL : ∀ x, (bs x).low.length = L) (hal : args.length ≤ 1000000000) (ih : ∀ x ∈ args, tyC ds x) {z0 : List Int} (hz : z0.length + (bl (tsay ds) args).length ≤ 2000000000)
    (y1 y4 y6 y7 y8 y9 y10 y11 y12 y13 y14 y15 : AV) :
    Wp (exS (callF (tab tbl) prim) (.loop (loopAt c68 0)) ⟨[bv z0, y1, .imm false ds.length (ds.flatMap Dt.az), .ptr (L + 1) 0 0, y4, .int .i64 0, y6, y7, y8, y9, y10, y11, y12, y13, y14, y15], frm (bs z0) [.box 94 [.int .i64 k, .int .i64 n, .imm false args.length (args.flatMap Ty.az)]]⟩)
      (fun e st => e = .exit 1 ∧ ∃ y5 y15, st = ⟨[bv (z0 ++ bl (tsay ds) args), y1, .imm false ds.length (ds.flatMap Dt.az), .ptr (L + 1) 0 0, y4, y5, y6, y7, y8, y9, y10, y11, y12, y13, y14, y15], frm (bs (z0 ++ bl (tsay ds) args)) [.box 94 [.int .i64 k, .int .i64 n, .imm false args.length (args.flatMap Ty.az)]]⟩) := by
  have hg:=bGet hL
  have a1:=bA1 hbu
  simp only [loopAt,loops,c68,List.nil_append,List.append_nil,List.getD_cons_zero,List.cons_append]
  refine wLoop (fun m st=>∃ (q:Nat) (y15:AV) (z:List Int),(m:Int) = args.length - q∧q ≤ args.length∧z = z0 ++ bl (tsay ds) (args.take q) ∧
    st = ⟨[bv z, y1, .imm false ds.length (ds.flatMap Dt.az), .ptr (L + 1) 0 0, y4, .int .i64 q, y6, y7, y8, y9, y10, y11, y12, y13, y14, y15], frm (bs z) [.box 94 [.int .i64 k, .int .i64 n, .imm false args.length (args.flatMap Ty.az)]]⟩) args.length ?_ ?_
  · exact ⟨0, _, z0, by omega, by omega, by simp [bl], rfl⟩
  · rintro m st ⟨q, y15, z, hm, hq, hz1, rfl⟩
    by_cases hlt:q < args.length
    · obtain ⟨ha1, ha2⟩ := fm_at Ty.len hlt
      have hle:=bl_le (f:=tsay ds) (l:=args) (q + 1)
      have htk:=bl_take (f:=tsay ds) hlt
      rw [htk] at hle
      simp only [List.length_append,List.length_cons,List.length_nil] at hle
      have hzl:=congrArg List.length hz1
      rw [List.length_append] at hzl
      have hi:=fun z T (hz:z.length + (tsay ds args[q]).length ≤ 2000000000)=>ih _ (List.getElem_mem hlt) bv (fun x=>frm (bs x) T) z (hbu.frm T) hz
      generalize args[q] = x at *
      obtain ⟨k',n',a'⟩:=x
      simp only [Ty.az,azT_eq] at ha2 hi
      generalize tsay ds (.mk k' n' a') = tx at *
      repeat' (first|refine zw ?_|refine zn (fun hb=>?_) (fun hb=>?_)|refine zx ?_|refine zof (zA @ha1 (zA @ha2 (zA @hi (zA @hg (zA @a1 (@hL)))))) ?_|exact zi|fail)
      exact loopNor (m - 1) (by omega) ⟨q + 1,_,z ++ [32] ++ tx,by omega,by omega,by rw [htk,hz1]; simp,rfl⟩
    · obtain rfl : q = args.length := by omega
      rw [List.take_length] at hz1
      subst hz1
      repeat' (first|refine zw ?_|refine zn (fun hb=>?_) (fun hb=>?_)|refine zx ?_|refine zof (zA @hg (@hL)) ?_|exact zi|fail)
      exact ⟨rfl,_,_,rfl⟩
set_option maxHeartbeats 16000000 in
theorem specSayTy {ds : List Dt} (hds : ds.length ≤ 1000000000) : ∀ t : Ty, t.ok → t.sz ≤ 100000000 → fgd ds.length t → tyC ds t := by
  refine Ty.ind fun k n args ih ho hsz hg bv bs x hbu hl=>?_
  simp only [Ty.ok,okT_iff] at ho
  simp only [fgd,fgdL_iff] at hg
  obtain ⟨hk,hn,_,hoa⟩:=ho
  obtain ⟨hg1,hg2,hga⟩:=hg
  rw [Ty.sz,szT_eq] at hsz
  have hal:=sizes_len Ty.sz args
  rw [tsay,tsayL_eq] at hl ⊢
  simp only [Ty.az,azT_eq]
  have ih2:∀ x ∈ args,tyC ds x:=fun x hx=>ih x hx (hoa x hx) (by have:=sizes_mem Ty.sz hx; omega) (hga x hx)
  obtain ⟨L,hL⟩:=bLow hbu
  have hgt:=bGet hL
  have a1:=bA1 hbu
  have ai:=bAi hbu
  have hlb:=bLb hbu
  have hgl:∀ L:List (List Int),(brk L).length = (jn L).length + 2:=fun L=>by simp [brk]
  by_cases hs:k = 0 ∨ k = 1 ∨ k = 2
  · rw [if_pos hs] at hl ⊢
    have aU:=fun z T h=>bAs hbu z T [117,110,105,116] h (by decide)
    have aI:=fun z T h=>bAs hbu z T [105,110,116] h (by decide)
    have aT:=fun z T h=>bAs hbu z T [116,101,120,116] h (by decide)
    refine funY rfl rfl zt ?_
    repeat' (first|refine zw ?_|refine zn (fun hb=>?_) (fun hb=>?_)|refine zx ?_|((with_reducible apply endB hbu); (focus (exact zs)); (focus rfl))|refine zof (zA @hgt (zA @hL (zA @hlb (zA @kU (zA @kI (zA @kT (zA @aU (zA @aI (@aT))))))))) ?_|exact zi|fail)
    all_goals
      have hk0:k = 0 ∨ k = 1 ∨ k = 2:=hs
      refine isI ?_ ?_
      all_goals first
        | (rw [show k = 0 by omega]; rfl)
        | (rw [show k = 1 by omega]; rfl)
        | (rw [show k = 2 by omega]; rfl)
  rw [if_neg hs] at hl ⊢
  by_cases h7:k = 7
  · rw [if_pos h7] at hl ⊢
    have hnl:=num_len hn
    have hD:=fun z T=>digits_ok (n:=n) (s:=bs z) (T:=T) hn
    rw [List.length_cons] at hl
    refine funY rfl rfl zt ?_
    repeat' (first|refine zw ?_|refine zn (fun hb=>?_) (fun hb=>?_)|refine zx ?_|(refine zk (hD _ _) ?_; rintro _ _ ⟨T1, rfl, hN, hX⟩)|refine zof (zA @hgt (zA @hL (zA @hlb (@a1)))) ?_|exact zi|fail)
    all_goals try (exfalso; omega)
    have aD:=fun h=>(hbu.frm T1).app (x:=x ++ [39]) (slN_src hN rfl) h
    simp only [List.length_append,List.length_cons,List.length_nil] at aD
    repeat' (first|refine zw ?_|refine zn (fun hb=>?_) (fun hb=>?_)|refine zx ?_|((with_reducible apply endB hbu); (focus (exact zs)); (focus rfl))|refine zof (zA @hgt (zA @hL (zA @hlb (@aD)))) ?_|exact zi|fail)
    exact isI (by simp only [List.append_assoc,List.cons_append,List.nil_append]) (by simp only [List.append_assoc,List.cons_append,List.nil_append])
  rw [if_neg h7] at hl ⊢
  have hLp:=fun z0 h=>specTyLoop (k:=k) (n:=n) hbu hL (by omega) ih2 (z0:=z0) h
  by_cases h6:k = 6
  · obtain ⟨j, rfl, hj⟩ : ∃ j : Nat, n = j ∧ j < ds.length := ⟨n.toNat, by have := hg2 h6; omega, by have := hg2 h6; omega⟩
    have hdn:=dtn_at hj
    rw [if_pos h6] at hl ⊢
    generalize dnm ds j = nm at *
    by_cases h0:args.length = 0
    · rw [if_pos h0] at hl ⊢
      refine funY rfl rfl zt ?_
      repeat' (first|refine zw ?_|refine zn (fun hb=>?_) (fun hb=>?_)|refine zx ?_|((with_reducible apply endB hbu); (focus (exact zs)); (focus rfl))|refine zof (zA @hgt (zA @hL (zA @hlb (zA @hdn (@ai))))) ?_|exact zi|fail)
    · rw [if_neg h0, brk_bl] at hl ⊢
      simp only [List.length_append,List.length_cons,List.length_nil] at hl
      refine funY rfl rfl zt ?_
      repeat' (first|refine zw ?_|refine zn (fun hb=>?_) (fun hb=>?_)|refine zx ?_|((with_reducible apply endB hbu); (focus (exact zs)); (focus rfl))|refine zof (zA @hgt (zA @hL (zA @hlb (zA @hdn (zA @a1 (@ai)))))) ?_|exact zi|fail)
      refine Wp.mono (hLp (x ++ [40] ++ nm) (by simp only [List.length_append,List.length_cons,List.length_nil]; omega) _ _ _ _ _ _ _ _ _ _ _ _) ?_
      rintro e st ⟨rfl, y5, y15, rfl⟩
      repeat' (first|refine zw ?_|refine zn (fun hb=>?_) (fun hb=>?_)|refine zx ?_|((with_reducible apply endB hbu); (focus (exact zs)); (focus rfl))|refine zof (zA @hgt (zA @hL (zA @hlb (@a1)))) ?_|exact zi|fail)
      exact isI (by simp only [List.append_assoc,List.cons_append,List.nil_append]) (by simp only [List.append_assoc,List.cons_append,List.nil_append])
  · rw [if_neg h6, brk_bl] at hl ⊢
    simp only [List.length_append,List.length_cons,List.length_nil] at hl
    have aP:=fun z T h=>bAs hbu z T [40,112,97,105,114] h (by decide)
    have aF:=fun z T h=>bAs hbu z T [40,102,117,110] h (by decide)
    have aR:=fun z T h=>bAs hbu z T [40,114,101,102] h (by decide)
    refine funY rfl rfl zt ?_
    repeat' (first|refine zw ?_|refine zn (fun hb=>?_) (fun hb=>?_)|refine zx ?_|((with_reducible apply endB hbu); (focus (exact zs)); (focus rfl))|refine zof (zA @hgt (zA @hL (zA @hlb (zA @kP (zA @kF (zA @kR (zA @aP (zA @aF (@aR))))))))) ?_|exact zi|fail)
    all_goals try (exfalso; omega)
    · rw [show tyw k = [112, 97, 105, 114] by rw [show k = 3 by omega]; rfl] at hl ⊢
      refine Wp.mono (hLp (x ++ [40,112,97,105,114]) (by simp only [List.length_append,List.length_cons,List.length_nil] at hl ⊢; omega) _ _ _ _ _ _ _ _ _ _ _ _) ?_
      rintro e st ⟨rfl, y5, y15, rfl⟩
      repeat' (first|refine zw ?_|refine zn (fun hb=>?_) (fun hb=>?_)|refine zx ?_|((with_reducible apply endB hbu); (focus (exact zs)); (focus rfl))|refine zof (zA @hgt (zA @hL (zA @hlb (@a1)))) ?_|exact zi|fail)
      exact isI (by simp only [List.append_assoc,List.cons_append,List.nil_append]) (by simp only [List.append_assoc,List.cons_append,List.nil_append])
    · rw [show tyw k = [102, 117, 110] by rw [show k = 4 by omega]; rfl] at hl ⊢
      refine Wp.mono (hLp (x ++ [40,102,117,110]) (by simp only [List.length_append,List.length_cons,List.length_nil] at hl ⊢; omega) _ _ _ _ _ _ _ _ _ _ _ _) ?_
      rintro e st ⟨rfl, y5, y15, rfl⟩
      repeat' (first|refine zw ?_|refine zn (fun hb=>?_) (fun hb=>?_)|refine zx ?_|((with_reducible apply endB hbu); (focus (exact zs)); (focus rfl))|refine zof (zA @hgt (zA @hL (zA @hlb (@a1)))) ?_|exact zi|fail)
      exact isI (by simp only [List.append_assoc,List.cons_append,List.nil_append]) (by simp only [List.append_assoc,List.cons_append,List.nil_append])
    · rw [show tyw k = [114, 101, 102] by rw [show k = 5 by omega]; rfl] at hl ⊢
      refine Wp.mono (hLp (x ++ [40,114,101,102]) (by simp only [List.length_append,List.length_cons,List.length_nil] at hl ⊢; omega) _ _ _ _ _ _ _ _ _ _ _ _) ?_
      rintro e st ⟨rfl, y5, y15, rfl⟩
      repeat' (first|refine zw ?_|refine zn (fun hb=>?_) (fun hb=>?_)|refine zx ?_|((with_reducible apply endB hbu); (focus (exact zs)); (focus rfl))|refine zof (zA @hgt (zA @hL (zA @hlb (@a1)))) ?_|exact zi|fail)
      exact isI (by simp only [List.append_assoc,List.cons_append,List.nil_append]) (by simp only [List.append_assoc,List.cons_append,List.nil_append])
def hdWords : List AV := [.str ⟨#[117, 110, 105, 116]⟩, .str ⟨#[]⟩, .str ⟨#[]⟩, .str ⟨#[]⟩, .str ⟨#[102, 110]⟩, .str ⟨#[]⟩, .str ⟨#[108, 101, 116]⟩, .str ⟨#[114, 101, 99]⟩, .str ⟨#[105, 102]⟩, .str ⟨#[112, 97, 105, 114]⟩, .str ⟨#[102, 115, 116]⟩, .str ⟨#[115, 110, 100]⟩, .str ⟨#[114, 101, 102]⟩, .str ⟨#[114, 101, 97, 100]⟩, .str ⟨#[119, 114, 105, 116, 101]⟩, .str ⟨#[]⟩, .str ⟨#[109, 97, 116, 99, 104]⟩, .str ⟨#[114, 97, 105, 115, 101]⟩, .str ⟨#[116, 114, 121]⟩]
theorem litH {call : CallT} {ls vs : List AV} {s : Store} : evOne call ⟨.lit 9 1 [.str ⟨#[]⟩] [(0, .c (.str ⟨#[117, 110, 105, 116]⟩)), (1, .c (.str ⟨#[]⟩)), (2, .c (.str ⟨#[]⟩)), (3, .c (.str ⟨#[]⟩)), (4, .c (.str ⟨#[102, 110]⟩)), (5, .c (.str ⟨#[]⟩)), (6, .c (.str ⟨#[108, 101, 116]⟩)), (7, .c (.str ⟨#[114, 101, 99]⟩)), (8, .c (.str ⟨#[105, 102]⟩)), (9, .c (.str ⟨#[112, 97, 105, 114]⟩)), (10, .c (.str ⟨#[102, 115, 116]⟩)), (11, .c (.str ⟨#[115, 110, 100]⟩)), (12, .c (.str ⟨#[114, 101, 102]⟩)), (13, .c (.str ⟨#[114, 101, 97, 100]⟩)), (14, .c (.str ⟨#[119, 114, 105, 116, 101]⟩)), (15, .c (.str ⟨#[]⟩)), (16, .c (.str ⟨#[109, 97, 116, 99, 104]⟩)), (17, .c (.str ⟨#[114, 97, 105, 115, 101]⟩)), (18, .c (.str ⟨#[116, 114, 121]⟩))] false false, none, none⟩ ls vs s = some (.imm true 19 hdWords, s) := by kernel_rfl
theorem hdW_at {j : Nat} (h : j = 4 ∨ j = 6 ∨ j = 7 ∨ j = 8 ∨ j = 9 ∨ j = 10 ∨ j = 11 ∨ j = 12 ∨ j = 13 ∨ j = 14 ∨ j = 16 ∨ j = 17) : hdWords[j]? = some (.str (bst (kw j))) := by
  rcases h with rfl | rfl | rfl | rfl | rfl | rfl | rfl | rfl | rfl | rfl | rfl | rfl <;> rfl
theorem litO {call : CallT} {ls vs : List AV} {s : Store} : evOne call ⟨.lit 9 1 [.str ⟨#[]⟩] [(0, .c (.str ⟨#[97, 100, 100]⟩)), (1, .c (.str ⟨#[115, 117, 98]⟩)), (2, .c (.str ⟨#[109, 117, 108]⟩)), (3, .c (.str ⟨#[108, 101, 115, 115]⟩)), (4, .c (.str ⟨#[115, 97, 109, 101]⟩)), (5, .c (.str ⟨#[99, 97, 116]⟩)), (6, .c (.str ⟨#[108, 101, 110]⟩))] false false, none, none⟩ ls vs s = some (.imm true 7 [stv (opw 0), stv (opw 1), stv (opw 2), stv (opw 3), stv (opw 4), stv (opw 5), stv (opw 6)], s) := by kernel_rfl
theorem litCl {call : CallT} {ls vs : List AV} {s : Store} : evOne call ⟨.lit 9 1 [.str ⟨#[]⟩] [(0, .c (.str ⟨#[112, 114, 105, 110, 116]⟩)), (1, .c (.str ⟨#[116, 105, 99, 107]⟩)), (2, .c (.str ⟨#[100, 114, 97, 119]⟩)), (3, .c (.str ⟨#[103, 101, 116]⟩)), (4, .c (.str ⟨#[112, 117, 116]⟩))] false false, none, none⟩ ls vs s = some (.imm true 5 [stv (clw 0), stv (clw 1), stv (clw 2), stv (clw 3), stv (clw 4)], s) := by kernel_rfl
section
variable {k n : Int} {name arg lit : List Int} {kids : List Xp} {arms : List Arm}
theorem specHeadW (hc : k = 4 ∨ k = 6 ∨ k = 7 ∨ k = 8 ∨ k = 9 ∨ k = 10 ∨ k = 11 ∨ k = 12 ∨ k = 13 ∨ k = 14 ∨ k = 16 ∨ k = 17) (s : Store) : callF (tab tbl) prim 119 [.agg (zcs k n name arg lit kids arms)] s = some (.str (bst (kw k)), s) := by
  obtain ⟨j,rfl⟩:∃ j:Nat,k = j:=⟨k.toNat,by omega⟩
  have hw:=hdW_at (j:=j) (by omega)
  refine funY rfl (zaf @hw) zt ?_
  repeat' (first|refine zw ?_|refine zn (fun hb=>?_) (fun hb=>?_)|refine zx ?_|(with_reducible apply oOp litH rfl)|refine zof @hw ?_|exact zi|fail)
theorem specHeadO (hc : k = 19) (hn : 0 ≤ n ∧ n ≤ 6) (s : Store) : callF (tab tbl) prim 119 [.agg (zcs k n name arg lit kids arms)] s = some (.str (bst (opw n)), s) := by
  obtain ⟨j,rfl⟩:∃ j:Nat,n = j:=⟨n.toNat,by omega⟩
  have hw:=op_at (j:=j) (by omega)
  refine funY rfl (zaf @hw) zt ?_
  repeat' (first|refine zw ?_|refine zn (fun hb=>?_) (fun hb=>?_)|refine zx ?_|(with_reducible apply oOp litO rfl)|refine zof @hw ?_|exact zi|fail)
theorem specHeadC (hc : k = 20) (hn : 0 ≤ n ∧ n ≤ 4) (s : Store) : callF (tab tbl) prim 119 [.agg (zcs k n name arg lit kids arms)] s = some (.str (bst (clw n)), s) := by
  obtain ⟨j,rfl⟩:∃ j:Nat,n = j:=⟨n.toNat,by omega⟩
  have hw:=cl_at (j:=j) (by omega)
  refine funY rfl (zaf @hw) zt ?_
  repeat' (first|refine zw ?_|refine zn (fun hb=>?_) (fun hb=>?_)|refine zx ?_|(with_reducible apply oOp litCl rfl)|refine zof @hw ?_|exact zi|fail)
def xpC (e : Xp) : Prop := ∀ (bv : List Int → AV) (bs : List Int → Store) (x : List Int), Buf 5 bv bs → x.length + (xsay e).length ≤ 2000000000 → callF (tab tbl) prim 69 [bv x, .agg e.az] (bs x) = some (bv (x ++ xsay e), bs (x ++ xsay e))
set_option maxHeartbeats 4000000 in
theorem specSayKids {bv : List Int → AV} {bs : List Int → Store} (hbu : Buf 5 bv bs) {L : Nat} (hL : ∀ x, (bs x).low.length = L) (hal : kids.length ≤ 1000000000) (ih : ∀ x ∈ kids, xpC x) {z0 : List Int} (hz : z0.length + (bl xsay kids).length ≤ 2000000000)
    (y1 y3 y5 y6 y7 y8 y9 y10 y11 y12 y13 y14 y15 y16 y17 y18 y19 y20 y21 y22 y23 : AV) :
    Wp (exS (callF (tab tbl) prim) (.loop (loopAt c69 0)) ⟨[bv z0, y1, .ptr (L + 1) 0 0, y3, .int .i64 0, y5, y6, y7, y8, y9, y10, y11, y12, y13, y14, y15, y16, y17, y18, y19, y20, y21, y22, y23], frm (bs z0) [.box 36 (zcs k n name arg lit kids arms)]⟩)
      (fun e st => e = .exit 1 ∧ ∃ y4 y20, st = ⟨[bv (z0 ++ bl xsay kids), y1, .ptr (L + 1) 0 0, y3, y4, y5, y6, y7, y8, y9, y10, y11, y12, y13, y14, y15, y16, y17, y18, y19, y20, y21, y22, y23], frm (bs (z0 ++ bl xsay kids)) [.box 36 (zcs k n name arg lit kids arms)]⟩) := by
  have hg:=bGet hL
  have a1:=bA1 hbu
  simp only [loopAt,loops,c69,List.nil_append,List.append_nil,List.getD_cons_zero,List.cons_append]
  refine wLoop (fun m st=>∃ (q:Nat) (y20:AV) (z:List Int),(m:Int) = kids.length - q∧q ≤ kids.length∧z = z0 ++ bl xsay (kids.take q) ∧
    st = ⟨[bv z, y1, .ptr (L + 1) 0 0, y3, .int .i64 q, y5, y6, y7, y8, y9, y10, y11, y12, y13, y14, y15, y16, y17, y18, y19, y20, y21, y22, y23], frm (bs z) [.box 36 (zcs k n name arg lit kids arms)]⟩) kids.length ?_ ?_
  · exact ⟨0, _, z0, by omega, by omega, by simp [bl], rfl⟩
  · rintro m st ⟨q, y20, z, hm, hq, hz1, rfl⟩
    by_cases hlt:q < kids.length
    · obtain ⟨ha1, ha2⟩ := fm_at Xp.len hlt
      have hle:=bl_le (f:=xsay) (l:=kids) (q + 1)
      have htk:=bl_take (f:=xsay) hlt
      rw [htk] at hle
      simp only [List.length_append,List.length_cons,List.length_nil] at hle
      have hzl:=congrArg List.length hz1
      rw [List.length_append] at hzl
      have hi:=fun z T (hz:z.length + (xsay kids[q]).length ≤ 2000000000)=>ih _ (List.getElem_mem hlt) bv (fun x=>frm (bs x) T) z (hbu.frm T) hz
      generalize kids[q] = x at *
      obtain ⟨k',n',nm',ag',li',ks',as'⟩:=x
      rw [az_zcs] at ha2 hi
      generalize xsay (.mk k' n' nm' ag' li' ks' as') = tx at *
      repeat' (first|refine zw ?_|refine zn (fun hb=>?_) (fun hb=>?_)|refine zx ?_|refine zof (zA @ha1 (zA @ha2 (zA @hi (zA @hg (zA @a1 (@hL)))))) ?_|exact zi|fail)
      exact loopNor (m - 1) (by omega) ⟨q + 1,_,z ++ [32] ++ tx,by omega,by omega,by rw [htk,hz1]; simp,rfl⟩
    · obtain rfl : q = kids.length := by omega
      rw [List.take_length] at hz1
      subst hz1
      repeat' (first|refine zw ?_|refine zn (fun hb=>?_) (fun hb=>?_)|refine zx ?_|refine zof (zA @hg (@hL)) ?_|exact zi|fail)
      exact ⟨rfl,_,_,rfl⟩
end
set_option maxHeartbeats 4000000 in
theorem specSayVars {vars : List (List Int)} {bv : List Int → AV} {bs : List Int → Store} (hbu : Buf 5 bv bs) {L : Nat} (hL : ∀ x, (bs x).low.length = L) (hal : vars.length ≤ 1000000000) {z0 : List Int} (hz : z0.length + (bl id vars).length ≤ 2000000000) {T : List Ae.Obj} {j : Nat} {con : AV} {R : List AV}
    (hT : T[j]? = some (.box 52 (con :: .imm false vars.length (vars.map bsl) :: R))) (y1 y2 y3 y4 y5 y8 y9 y10 y11 y12 y13 y14 y15 y16 y17 y18 y19 y20 y21 y22 y23 : AV) :
    Wp (exS (callF (tab tbl) prim) (.loop (loopAt c69 2)) ⟨[bv z0, y1, y2, y3, y4, y5, .ptr (L + 1) j 0, .int .i64 0, y8, y9, y10, y11, y12, y13, y14, y15, y16, y17, y18, y19, y20, y21, y22, y23], frm (bs z0) T⟩)
      (fun e st => e = .exit 5 ∧ ∃ y7 y23, st = ⟨[bv (z0 ++ bl id vars), y1, y2, y3, y4, y5, .ptr (L + 1) j 0, y7, y8, y9, y10, y11, y12, y13, y14, y15, y16, y17, y18, y19, y20, y21, y22, y23], frm (bs (z0 ++ bl id vars)) T⟩) := by
  have hg:=bGet hL
  have a1:=bA1 hbu
  have ai:=bAi hbu
  simp only [loopAt,loops,c69,List.nil_append,List.append_nil,List.getD_cons_zero,List.getD_cons_succ,List.cons_append]
  refine wLoop (fun m st=>∃ (q:Nat) (y23:AV) (z:List Int),(m:Int) = vars.length - q∧q ≤ vars.length∧z = z0 ++ bl id (vars.take q) ∧
    st = ⟨[bv z, y1, y2, y3, y4, y5, .ptr (L + 1) j 0, .int .i64 q, y8, y9, y10, y11, y12, y13, y14, y15, y16, y17, y18, y19, y20, y21, y22, y23], frm (bs z) T⟩) vars.length ?_ ?_
  · exact ⟨0, _, z0, by omega, by omega, by simp [bl], rfl⟩
  · rintro m st ⟨q, y23, z, hm, hq, hz1, rfl⟩
    by_cases hlt:q < vars.length
    · have ha1 := (map_at (ev := bsl) hlt).2
      have ha2:=fm_one (f:=bsl) hlt
      have hle:=bl_le (f:=id) (l:=vars) (q + 1)
      have htk:=bl_take (f:=id) hlt
      rw [htk] at hle
      simp only [List.length_append,List.length_cons,List.length_nil,id] at hle
      have hzl:=congrArg List.length hz1
      rw [List.length_append] at hzl
      simp only [id] at htk
      generalize vars[q] = x at *
      simp only [bsl] at ha1 ha2
      unfold bsl at hT
      unfold bsl at ha1 ha2
      repeat' (first|refine zw ?_|refine zn (fun hb=>?_) (fun hb=>?_)|refine zx ?_|refine zof (zA @ha1 (zA @ha2 (zA @hg (zA @hT (zA @a1 (zA @ai (@hL))))))) ?_|exact zi|fail)
      exact loopNor (m - 1) (by omega) ⟨q + 1,_,z ++ [32] ++ x,by omega,by omega,by rw [htk,hz1]; simp,rfl⟩
    · obtain rfl : q = vars.length := by omega
      rw [List.take_length] at hz1
      subst hz1
      repeat' (first|refine zw ?_|refine zn (fun hb=>?_) (fun hb=>?_)|refine zx ?_|refine zof (zA @hg (zA @hT (@hL))) ?_|exact zi|fail)
      exact ⟨rfl,_,_,rfl⟩
theorem k32b : (⟨#[32, 40]⟩ : ByteArray) = bst [32, 40] := rfl
theorem kTr : (⟨#[40, 116, 114, 121, 32]⟩ : ByteArray) = bst [40, 116, 114, 121, 32] := rfl
def und (con : List Int) : List Int := if con.length = 0 then [95] else []
theorem und_pos {con : List Int} (h : con.length = 0) : und con = [95] := if_pos h
theorem und_neg {con : List Int} (h : ¬ con.length = 0) : und con = [] := if_neg h
theorem asay_bl (a : Arm) : asay a = [40] ++ und a.con ++ a.con ++ bl id a.vars ++ [32] ++ xsay a.body ++ [41] := by
  obtain ⟨con,vars,body⟩:=a
  rw [asay]
  show brk ((if con.length = 0 then [95] else con) :: (vars ++ [xsay body])) = [40] ++ und con ++ con ++ bl id vars ++ [32] ++ xsay body ++ [41]
  by_cases h:con.length = 0
  · have h0 : con = [] := List.length_eq_zero_iff.1 h
    subst h0
    simp [brk, jn, bl, und]
  · rw [if_neg h, und_neg h]
    simp [brk, jn, bl]
section
variable {k n : Int} {name arg lit : List Int} {kids : List Xp} {arms : List Arm}
set_option maxHeartbeats 16000000 in
theorem specSayArms {bv : List Int → AV} {bs : List Int → Store} (hbu : Buf 5 bv bs) {L : Nat} (hL : ∀ x, (bs x).low.length = L) (hal : arms.length ≤ 1000000000) (hvl : ∀ a ∈ arms, a.vars.length ≤ 1000000000) (ih : ∀ a ∈ arms, xpC a.body) {z0 : List Int} (hz : z0.length + (bl asay arms).length ≤ 2000000000)
    (y1 y3 y4 y6 y7 y8 y9 y10 y11 y12 y13 y14 y15 y16 y17 y18 y19 y20 y21 y22 y23 : AV) :
    Wp (exS (callF (tab tbl) prim) (.loop (loopAt c69 1)) ⟨[bv z0, y1, .ptr (L + 1) 0 0, y3, y4, .int .i64 0, y6, y7, y8, y9, y10, y11, y12, y13, y14, y15, y16, y17, y18, y19, y20, y21, y22, y23], frm (bs z0) [.box 36 (zcs k n name arg lit kids arms)]⟩)
      (fun e st => e = .exit 3 ∧ ∃ y5 y6 y7 y21 y22 y23 T, st = ⟨[bv (z0 ++ bl asay arms), y1, .ptr (L + 1) 0 0, y3, y4, y5, y6, y7, y8, y9, y10, y11, y12, y13, y14, y15, y16, y17, y18, y19, y20, y21, y22, y23], frm (bs (z0 ++ bl asay arms)) T⟩) := by
  have hg:=bGet hL
  have hst:=bSet hL
  have a1:=bA1 hbu
  have ai:=bAi hbu
  have a2:=fun z T h=>bAs hbu z T [32,40] h (by decide)
  have hV:=@specSayVars
  simp only [loopAt,loops,c69,List.nil_append,List.append_nil,List.getD_cons_zero,List.getD_cons_succ,List.cons_append]
  refine wLoop (fun m st=>∃ (q:Nat) (y6 y7 y21 y22 y23:AV) (T:List Ae.Obj) (z:List Int),(m:Int) = arms.length - q∧q ≤ arms.length∧z = z0 ++ bl asay (arms.take q)∧T[0]? = some (.box 36 (zcs k n name arg lit kids arms)) ∧
    st = ⟨[bv z, y1, .ptr (L + 1) 0 0, y3, y4, .int .i64 q, y6, y7, y8, y9, y10, y11, y12, y13, y14, y15, y16, y17, y18, y19, y20, y21, y22, y23], frm (bs z) T⟩) arms.length ?_ ?_
  · exact ⟨0, _, _, _, _, _, _, z0, by omega, by omega, by simp [bl], rfl, rfl⟩
  · rintro m st ⟨q, y6, y7, y21, y22, y23, T, z, hm, hq, hz1, hT0, rfl⟩
    by_cases hlt:q < arms.length
    · obtain ⟨ha1, ha2⟩ := fm_at Arm.len hlt
      have hle:=bl_le (f:=asay) (l:=arms) (q + 1)
      have htk:=bl_take (f:=asay) hlt
      rw [htk] at hle
      have hv1:=hvl _ (List.getElem_mem hlt)
      have hzl:=congrArg List.length hz1
      rw [List.length_append] at hzl
      have hi:=fun z T (hz:z.length + (xsay arms[q].body).length ≤ 2000000000)=>ih _ (List.getElem_mem hlt) bv (fun x=>frm (bs x) T) z (hbu.frm T) hz
      rw [asay_bl] at hle htk
      generalize arms[q] = x at *
      obtain ⟨con,vars,⟨k',n',nm',ag',li',ks',as'⟩⟩:=x
      simp only [Arm.con,Arm.vars,Arm.body,List.length_append,List.length_cons,List.length_nil] at hle htk hv1 hi
      simp only [Arm.az,az_zcs,bsl] at ha2 hi
      generalize xsay (.mk k' n' nm' ag' li' ks' as') = tx at *
      have hT1:=pt_at (o:=.box 52 (.imm false con.length (by8 con) :: .imm false vars.length (vars.map fun l=>.imm false l.length (by8 l)) :: zcs k' n' nm' ag' li' ks' as')) hT0
      have hT2:=app_at T (.box 52 (.imm false con.length (by8 con) :: .imm false vars.length (vars.map fun l=>.imm false l.length (by8 l)) :: zcs k' n' nm' ag' li' ks' as'))
      have hV1:=fun z0 (hz:z0.length + (bl id vars).length ≤ 2000000000)=>hV (z0:=z0) hbu hL hv1 hz hT2
      by_cases h0:con.length = 0
      · rw [und_pos h0] at hle htk
        simp only [List.length_cons,List.length_nil] at hle
        have h00:con = []:=List.length_eq_zero_iff.1 h0
        repeat' (first|refine zw ?_|refine zn (fun hb=>?_) (fun hb=>?_)|refine zx ?_|refine zof (zA @ha1 (zA @ha2 (zA @hg (zA @hst (zA @hT0 (zA @hT1 (zA @a1 (zA @a2 (zA @ai (zA @k32b (@hL))))))))))) ?_|exact zi|fail)
        refine Wp.mono (hV1 _ (by simp only [List.length_append,List.length_cons,List.length_nil]; omega) _ _ _ _ _ _ _ _ _ _ _ _ _ _ _ _ _ _ _ _ _) ?_
        rintro e st ⟨rfl, z7, z23, rfl⟩
        repeat' (first|refine zw ?_|refine zn (fun hb=>?_) (fun hb=>?_)|refine zx ?_|refine zof (zA @hi (zA @hg (zA @hT1 (zA @hT2 (zA @a1 (@hL)))))) ?_|exact zi|fail)
        refine loopNor (m - 1) (by omega) ⟨q + 1,_,_,_,_,_,_,z ++ [32,40] ++ [95] ++ con ++ bl id vars ++ [32] ++ tx ++ [41],by omega,by omega,?_,?_,rfl⟩
        · rw [htk, hz1]
          simp only [List.append_assoc,List.cons_append,List.nil_append]
        · exact hT1
      · rw [und_neg h0] at hle htk
        simp only [List.length_cons,List.length_nil] at hle
        repeat' (first|refine zw ?_|refine zn (fun hb=>?_) (fun hb=>?_)|refine zx ?_|refine zof (zA @ha1 (zA @ha2 (zA @hg (zA @hst (zA @hT0 (zA @hT1 (zA @a1 (zA @a2 (zA @ai (zA @k32b (@hL))))))))))) ?_|exact zi|fail)
        refine Wp.mono (hV1 _ (by simp only [List.length_append,List.length_cons,List.length_nil]; omega) _ _ _ _ _ _ _ _ _ _ _ _ _ _ _ _ _ _ _ _ _) ?_
        rintro e st ⟨rfl, z7, z23, rfl⟩
        repeat' (first|refine zw ?_|refine zn (fun hb=>?_) (fun hb=>?_)|refine zx ?_|refine zof (zA @hi (zA @hg (zA @hT1 (zA @hT2 (zA @a1 (@hL)))))) ?_|exact zi|fail)
        refine loopNor (m - 1) (by omega) ⟨q + 1,_,_,_,_,_,_,z ++ [32,40] ++ con ++ bl id vars ++ [32] ++ tx ++ [41],by omega,by omega,?_,?_,rfl⟩
        · rw [htk, hz1]
          simp only [List.append_assoc,List.cons_append,List.nil_append]
        · exact hT1
    · obtain rfl : q = arms.length := by omega
      rw [List.take_length] at hz1
      subst hz1
      repeat' (first|refine zw ?_|refine zn (fun hb=>?_) (fun hb=>?_)|refine zx ?_|refine zof (zA @hg (zA @hT0 (@hL))) ?_|exact zi|fail)
      exact ⟨rfl,_,_,_,_,_,_,T,rfl⟩
end
theorem brk3 (w : List Int) (ns : List (List Int)) (kids : List Xp) (arms : List Arm) : brk (w :: ns ++ (kids.map xsay ++ arms.map asay)) = [40] ++ w ++ bl id ns ++ bl xsay kids ++ bl asay arms ++ [41] := by
  simp [brk, jn, bl, List.flatMap_map]
section
variable {k n : Int} {name arg lit : List Int} {kids : List Xp} {arms : List Arm} {bv : List Int → AV} {bs : List Int → Store} {x : List Int}
set_option maxHeartbeats 4000000 in
theorem sp_Z0 (hbu : Buf 5 bv bs) (hc : k = 0) (hl : x.length + ([117, 110, 105, 116]).length ≤ 2000000000) :
    callF (tab tbl) prim 69 [bv x, .agg (zcs k n name arg lit kids arms)] (bs x) = some (bv (x ++ ([117, 110, 105, 116])), bs (x ++ ([117, 110, 105, 116]))) := by
  obtain ⟨L,hL⟩:=bLow hbu
  have hgt:=bGet hL
  have a1:=bA1 hbu
  have ai:=bAi hbu
  have hlb:=bLb hbu
  have aU:=fun z T h=>bAs hbu z T [117,110,105,116] h (by decide)
  simp only [List.length_cons,List.length_nil] at hl
  refine funY rfl rfl zt ?_
  repeat' (first|refine zw ?_|refine zn (fun hb=>?_) (fun hb=>?_)|refine zx ?_|((with_reducible apply endB hbu); (focus (exact zs)); (focus rfl))|refine zof (zA @hgt (zA @hL (zA @hlb (zA @a1 (zA @ai (zA @kU (@aU))))))) ?_|exact zi|fail)
set_option maxHeartbeats 4000000 in
theorem sp_Z1 (hbu : Buf 5 bv bs) (hc : k = 1) (hn : inI n) (hl : x.length + (num n).length ≤ 2000000000) :
    callF (tab tbl) prim 69 [bv x, .agg (zcs k n name arg lit kids arms)] (bs x) = some (bv (x ++ (num n)), bs (x ++ (num n))) := by
  obtain ⟨L,hL⟩:=bLow hbu
  have hgt:=bGet hL
  have a1:=bA1 hbu
  have ai:=bAi hbu
  have hlb:=bLb hbu
  have hD:=fun z T=>digits_ok (n:=n) (s:=bs z) (T:=T) hn
  refine funY rfl rfl zt ?_
  repeat' (first|refine zw ?_|refine zn (fun hb=>?_) (fun hb=>?_)|refine zx ?_|((with_reducible apply endB hbu); (focus (exact zs)); (focus rfl))|(refine zk (hD _ _) ?_; rintro _ _ ⟨T1, rfl, hN, hX⟩)|refine zof (zA @hgt (zA @hL (zA @hlb (zA @a1 (@ai))))) ?_|exact zi|fail)
  have aD:=fun h=>(hbu.frm T1).app (x:=x) (slN_src hN rfl) h
  repeat' (first|refine zw ?_|refine zn (fun hb=>?_) (fun hb=>?_)|refine zx ?_|((with_reducible apply endB hbu); (focus (exact zs)); (focus rfl))|refine zof (zA @hgt (zA @hL (zA @hlb (zA @a1 (zA @ai (@aD)))))) ?_|exact zi|fail)
set_option maxHeartbeats 4000000 in
theorem sp_Z2 (hbu : Buf 5 bv bs) (hc : k = 2) (hl : x.length + (34 :: (lit ++ [34])).length ≤ 2000000000) :
    callF (tab tbl) prim 69 [bv x, .agg (zcs k n name arg lit kids arms)] (bs x) = some (bv (x ++ (34 :: (lit ++ [34]))), bs (x ++ (34 :: (lit ++ [34])))) := by
  obtain ⟨L,hL⟩:=bLow hbu
  have hgt:=bGet hL
  have a1:=bA1 hbu
  have ai:=bAi hbu
  have hlb:=bLb hbu
  simp only [List.length_append,List.length_cons,List.length_nil] at hl
  refine funY rfl rfl zt ?_
  repeat' (first|refine zw ?_|refine zn (fun hb=>?_) (fun hb=>?_)|refine zx ?_|((with_reducible apply endB hbu); (focus (exact zs)); (focus rfl))|refine zof (zA @hgt (zA @hL (zA @hlb (zA @a1 (@ai))))) ?_|exact zi|fail)
  exact isI (by simp only [List.append_assoc,List.cons_append,List.nil_append]) (by simp only [List.append_assoc,List.cons_append,List.nil_append])
set_option maxHeartbeats 4000000 in
theorem sp_Z3 (hbu : Buf 5 bv bs) (hc : k = 3) (hl : x.length + (name).length ≤ 2000000000) :
    callF (tab tbl) prim 69 [bv x, .agg (zcs k n name arg lit kids arms)] (bs x) = some (bv (x ++ (name)), bs (x ++ (name))) := by
  obtain ⟨L,hL⟩:=bLow hbu
  have hgt:=bGet hL
  have a1:=bA1 hbu
  have ai:=bAi hbu
  have hlb:=bLb hbu
  refine funY rfl rfl zt ?_
  repeat' (first|refine zw ?_|refine zn (fun hb=>?_) (fun hb=>?_)|refine zx ?_|((with_reducible apply endB hbu); (focus (exact zs)); (focus rfl))|refine zof (zA @hgt (zA @hL (zA @hlb (zA @a1 (@ai))))) ?_|exact zi|fail)
set_option maxHeartbeats 16000000 in
theorem sp_F (hbu : Buf 5 bv bs) (hc : k = 5) (hK : kids.length = 2) (ih : ∀ x ∈ kids, xpC x) (hl : x.length + (brk (kids.map xsay)).length ≤ 2000000000) :
    callF (tab tbl) prim 69 [bv x, .agg (zcs k n name arg lit kids arms)] (bs x) = some (bv (x ++ (brk (kids.map xsay))), bs (x ++ (brk (kids.map xsay)))) := by
  obtain ⟨L,hL⟩:=bLow hbu
  have hgt:=bGet hL
  have a1:=bA1 hbu
  have ai:=bAi hbu
  have hlb:=bLb hbu
  obtain ⟨e0,e1,he⟩:∃ e0 e1,kids = [e0,e1]:=by
    match kids, hK with
    | [e0, e1], _ => exact ⟨e0, e1, rfl⟩
  have htx:kids.map xsay = [xsay e0,xsay e1]:=by rw [he]; rfl
  have i0:=fun z T (hz:z.length + (xsay e0).length ≤ 2000000000)=>ih e0 (by rw [he]; simp) bv (fun x=>frm (bs x) T) z (hbu.frm T) hz
  have i1:=fun z T (hz:z.length + (xsay e1).length ≤ 2000000000)=>ih e1 (by rw [he]; simp) bv (fun x=>frm (bs x) T) z (hbu.frm T) hz
  obtain ⟨f1,f2⟩:=fm_at (l:=kids) (i:=0) Xp.len (by omega)
  obtain ⟨g1,g2⟩:=fm_at (l:=kids) (i:=1) Xp.len (by omega)
  rw [show kids[0] = e0 by simp [he]] at f2
  rw [show kids[1] = e1 by simp [he]] at g2
  clear he
  simp only [Nat.zero_mul,List.drop_zero,Nat.one_mul] at f1 f2 g1 g2
  rw [htx] at hl ⊢
  obtain ⟨q1,q2,q3,q4,q5,q6,q7⟩:=e0
  obtain ⟨r1,r2,r3,r4,r5,r6,r7⟩:=e1
  rw [az_zcs] at f2 g2 i0 i1
  rw [show brk [xsay (Xp.mk q1 q2 q3 q4 q5 q6 q7),xsay (Xp.mk r1 r2 r3 r4 r5 r6 r7)] = [40] ++ xsay (.mk q1 q2 q3 q4 q5 q6 q7) ++ [32] ++ xsay (.mk r1 r2 r3 r4 r5 r6 r7) ++ [41] by simp [brk,jn]] at hl ⊢
  generalize xsay (.mk q1 q2 q3 q4 q5 q6 q7) = t0 at *
  generalize xsay (.mk r1 r2 r3 r4 r5 r6 r7) = t1 at *
  simp only [List.length_append,List.length_cons,List.length_nil] at hl
  refine funY rfl rfl zt ?_
  repeat' (first|refine zw ?_|refine zn (fun hb=>?_) (fun hb=>?_)|refine zx ?_|((with_reducible apply endB hbu); (focus (exact zs)); (focus rfl))|refine zof (zA @hgt (zA @hL (zA @hlb (zA @a1 (zA @ai (zA @f1 (zA @f2 (zA @g1 (zA @g2 (zA @i0 (@i1))))))))))) ?_|exact zi|fail)
  exact isI (by simp only [List.append_assoc,List.cons_append,List.nil_append]) (by simp only [List.append_assoc,List.cons_append,List.nil_append])
set_option maxHeartbeats 16000000 in
theorem sp_T (hbu : Buf 5 bv bs) (hc : k = 18) (hK : kids.length = 2) (ih : ∀ x ∈ kids, xpC x) (hl : x.length + (brk (kw 18 :: tryL name (kids.map xsay))).length ≤ 2000000000) :
    callF (tab tbl) prim 69 [bv x, .agg (zcs k n name arg lit kids arms)] (bs x) = some (bv (x ++ (brk (kw 18 :: tryL name (kids.map xsay)))), bs (x ++ (brk (kw 18 :: tryL name (kids.map xsay))))) := by
  obtain ⟨L,hL⟩:=bLow hbu
  have hgt:=bGet hL
  have a1:=bA1 hbu
  have ai:=bAi hbu
  have hlb:=bLb hbu
  obtain ⟨e0,e1,he⟩:∃ e0 e1,kids = [e0,e1]:=by
    match kids, hK with
    | [e0, e1], _ => exact ⟨e0, e1, rfl⟩
  have htx:kids.map xsay = [xsay e0,xsay e1]:=by rw [he]; rfl
  have i0:=fun z T (hz:z.length + (xsay e0).length ≤ 2000000000)=>ih e0 (by rw [he]; simp) bv (fun x=>frm (bs x) T) z (hbu.frm T) hz
  have i1:=fun z T (hz:z.length + (xsay e1).length ≤ 2000000000)=>ih e1 (by rw [he]; simp) bv (fun x=>frm (bs x) T) z (hbu.frm T) hz
  obtain ⟨f1,f2⟩:=fm_at (l:=kids) (i:=0) Xp.len (by omega)
  obtain ⟨g1,g2⟩:=fm_at (l:=kids) (i:=1) Xp.len (by omega)
  rw [show kids[0] = e0 by simp [he]] at f2
  rw [show kids[1] = e1 by simp [he]] at g2
  clear he
  simp only [Nat.zero_mul,List.drop_zero,Nat.one_mul] at f1 f2 g1 g2
  rw [htx] at hl ⊢
  obtain ⟨q1,q2,q3,q4,q5,q6,q7⟩:=e0
  obtain ⟨r1,r2,r3,r4,r5,r6,r7⟩:=e1
  rw [az_zcs] at f2 g2 i0 i1
  rw [show brk (kw 18 :: tryL name [xsay (Xp.mk q1 q2 q3 q4 q5 q6 q7),xsay (Xp.mk r1 r2 r3 r4 r5 r6 r7)]) = [40,116,114,121,32] ++ xsay (.mk q1 q2 q3 q4 q5 q6 q7) ++ [32] ++ name ++ [32] ++ xsay (.mk r1 r2 r3 r4 r5 r6 r7) ++ [41] by simp [brk,jn,tryL,kw]] at hl ⊢
  generalize xsay (.mk q1 q2 q3 q4 q5 q6 q7) = t0 at *
  generalize xsay (.mk r1 r2 r3 r4 r5 r6 r7) = t1 at *
  simp only [List.length_append,List.length_cons,List.length_nil] at hl
  have aT:=fun z T h=>bAs hbu z T [40,116,114,121,32] h (by decide)
  refine funY rfl rfl zt ?_
  repeat' (first|refine zw ?_|refine zn (fun hb=>?_) (fun hb=>?_)|refine zx ?_|((with_reducible apply endB hbu); (focus (exact zs)); (focus rfl))|refine zof (zA @hgt (zA @hL (zA @hlb (zA @a1 (zA @ai (zA @kTr (zA @aT (zA @f1 (zA @f2 (zA @g1 (zA @g2 (zA @i0 (@i1))))))))))))) ?_|exact zi|fail)
  exact isI (by simp only [List.append_assoc,List.cons_append,List.nil_append]) (by simp only [List.append_assoc,List.cons_append,List.nil_append])
set_option maxHeartbeats 4000000 in
theorem sp_C0 (hbu : Buf 5 bv bs) (hc : k = 15) (hK : kids.length = 0) (hl : x.length + (name).length ≤ 2000000000) :
    callF (tab tbl) prim 69 [bv x, .agg (zcs k n name arg lit kids arms)] (bs x) = some (bv (x ++ (name)), bs (x ++ (name))) := by
  obtain ⟨L,hL⟩:=bLow hbu
  have hgt:=bGet hL
  have a1:=bA1 hbu
  have ai:=bAi hbu
  have hlb:=bLb hbu
  refine funY rfl rfl zt ?_
  repeat' (first|refine zw ?_|refine zn (fun hb=>?_) (fun hb=>?_)|refine zx ?_|((with_reducible apply endB hbu); (focus (exact zs)); (focus rfl))|refine zof (zA @hgt (zA @hL (zA @hlb (zA @a1 (@ai))))) ?_|exact zi|fail)
set_option maxHeartbeats 4000000 in
theorem sp_G0 (hbu : Buf 5 bv bs) (hc : k = 20) (hK : kids.length = 0) (hn : 0 ≤ n ∧ n ≤ 4) (hl : x.length + (clw n).length ≤ 2000000000) :
    callF (tab tbl) prim 69 [bv x, .agg (zcs k n name arg lit kids arms)] (bs x) = some (bv (x ++ (clw n)), bs (x ++ (clw n))) := by
  obtain ⟨L,hL⟩:=bLow hbu
  have hgt:=bGet hL
  have a1:=bA1 hbu
  have ai:=bAi hbu
  have hlb:=bLb hbu
  have hh:=fun s=>specHeadC (k:=k) (n:=n) (name:=name) (arg:=arg) (lit:=lit) (kids:=kids) (arms:=arms) hc hn s
  have aw:=fun z T h=>bAs hbu z T (clw n) h (byt_clw n)
  refine funY rfl rfl zt ?_
  repeat' (first|refine zw ?_|refine zn (fun hb=>?_) (fun hb=>?_)|refine zx ?_|((with_reducible apply endB hbu); (focus (exact zs)); (focus rfl))|refine zof (zA @hgt (zA @hL (zA @hlb (zA @a1 (zA @ai (zA @hh (@aw))))))) ?_|exact zi|fail)
set_option maxHeartbeats 16000000 in
theorem sp_C (hbu : Buf 5 bv bs) (hc : k = 15) (hK : 0 < kids.length) (hkl : kids.length ≤ 1000000000) (hal : arms.length ≤ 1000000000) (hvl : ∀ a ∈ arms, a.vars.length ≤ 1000000000) (ih : ∀ x ∈ kids, xpC x) (iha : ∀ a ∈ arms, xpC a.body) (hl : x.length + ([40] ++ name ++ bl xsay kids ++ bl asay arms ++ [41]).length ≤ 2000000000) :
    callF (tab tbl) prim 69 [bv x, .agg (zcs k n name arg lit kids arms)] (bs x) = some (bv (x ++ ([40] ++ name ++ bl xsay kids ++ bl asay arms ++ [41])), bs (x ++ ([40] ++ name ++ bl xsay kids ++ bl asay arms ++ [41]))) := by
  obtain ⟨L,hL⟩:=bLow hbu
  have hgt:=bGet hL
  have a1:=bA1 hbu
  have ai:=bAi hbu
  have hlb:=bLb hbu
  simp only [List.length_append,List.length_cons,List.length_nil] at hl
  refine funY rfl rfl zt ?_
  repeat' (first|refine zw ?_|refine zn (fun hb=>?_) (fun hb=>?_)|refine zx ?_|((with_reducible apply endB hbu); (focus (exact zs)); (focus rfl))|refine zof (zA @hgt (zA @hL (zA @hlb (zA @a1 (@ai))))) ?_|exact zi|fail)
  refine Wp.mono (specSayKids hbu hL (by omega) ih (z0:=x ++ [40] ++ name) (by simp only [List.length_append,List.length_cons,List.length_nil] at hl ⊢; omega) _ _ _ _ _ _ _ _ _ _ _ _ _ _ _ _ _ _ _ _ _ ) ?_
  rintro e st ⟨rfl, z4, z20, rfl⟩
  repeat' (first|refine zw ?_|refine zn (fun hb=>?_) (fun hb=>?_)|refine zx ?_|refine zo ?_|exact zi|fail)
  refine Wp.mono (specSayArms hbu hL (by omega) hvl iha (z0:=x ++ [40] ++ name ++ bl xsay kids) (by simp only [List.length_append,List.length_cons,List.length_nil] at hl ⊢; omega) _ _ _ _ _ _ _ _ _ _ _ _ _ _ _ _ _ _ _ _ _ ) ?_
  rintro e st ⟨rfl, z5, z6, z7, z21, z22, z23, T, rfl⟩
  repeat' (first|refine zw ?_|refine zn (fun hb=>?_) (fun hb=>?_)|refine zx ?_|((with_reducible apply endB hbu); (focus (exact zs)); (focus rfl))|refine zof (zA @hgt (zA @hL (zA @hlb (zA @a1 (@ai))))) ?_|exact zi|fail)
  exact isI (by simp only [List.append_assoc,List.cons_append,List.nil_append]) (by simp only [List.append_assoc,List.cons_append,List.nil_append])
set_option maxHeartbeats 16000000 in
theorem sp_N (hbu : Buf 5 bv bs) (hc : k ≠ 0 ∧ k ≠ 1 ∧ k ≠ 2 ∧ k ≠ 3 ∧ k ≠ 5 ∧ k ≠ 15 ∧ k ≠ 18) (hK : k = 20 → 0 < kids.length) {w : List Int} (hw : w.length ≤ 10) (hwb : Byt w) (hh : ∀ s, callF (tab tbl) prim 119 [.agg (zcs k n name arg lit kids arms)] s = some (.str (bst w), s)) (hn0 : name.length = 0) (ha0 : arg.length = 0) (hkl : kids.length ≤ 1000000000) (hal : arms.length ≤ 1000000000) (hvl : ∀ a ∈ arms, a.vars.length ≤ 1000000000) (ih : ∀ x ∈ kids, xpC x) (iha : ∀ a ∈ arms, xpC a.body) (hl : x.length + ([40] ++ w ++ bl xsay kids ++ bl asay arms ++ [41]).length ≤ 2000000000) :
    callF (tab tbl) prim 69 [bv x, .agg (zcs k n name arg lit kids arms)] (bs x) = some (bv (x ++ ([40] ++ w ++ bl xsay kids ++ bl asay arms ++ [41])), bs (x ++ ([40] ++ w ++ bl xsay kids ++ bl asay arms ++ [41]))) := by
  obtain ⟨L,hL⟩:=bLow hbu
  have hgt:=bGet hL
  have a1:=bA1 hbu
  have ai:=bAi hbu
  have hlb:=bLb hbu
  simp only [List.length_append,List.length_cons,List.length_nil] at hl
  have aw:=fun z T h=>bAs hbu z T w h hwb
  have hgate:(decide (k = 20) && decide ((kids.length:Int) = 0)) = false:=by
    by_cases h:k = 20
    · have := hK h
      rw [decide_eq_false (show ¬ (kids.length:Int) = 0 by omega),Bool.and_false]
    · rw [decide_eq_false h, Bool.false_and]
  refine funY rfl rfl zt ?_
  repeat' (first|refine zw ?_|refine zn (fun hb=>?_) (fun hb=>?_)|refine zx ?_|((with_reducible apply endB hbu); (focus (exact zs)); (focus rfl))|refine zof (zA @hgt (zA @hL (zA @hlb (zA @a1 (zA @ai (zA @hh (@aw))))))) ?_|exact zi|fail)
  all_goals try (exfalso; omega)
  all_goals
    refine Wp.mono (specSayKids hbu hL (by omega) ih (z0:=x ++ [40] ++ w) (by simp only [List.length_append,List.length_cons,List.length_nil] at hl ⊢; omega) _ _ _ _ _ _ _ _ _ _ _ _ _ _ _ _ _ _ _ _ _ ) ?_
    rintro e st ⟨rfl, z4, z20, rfl⟩
    repeat' (first|refine zw ?_|refine zn (fun hb=>?_) (fun hb=>?_)|refine zx ?_|refine zo ?_|exact zi|fail)
    refine Wp.mono (specSayArms hbu hL (by omega) hvl iha (z0:=x ++ [40] ++ w ++ bl xsay kids) (by simp only [List.length_append,List.length_cons,List.length_nil] at hl ⊢; omega) _ _ _ _ _ _ _ _ _ _ _ _ _ _ _ _ _ _ _ _ _ ) ?_
    rintro e st ⟨rfl, z5, z6, z7, z21, z22, z23, T, rfl⟩
    repeat' (first|refine zw ?_|refine zn (fun hb=>?_) (fun hb=>?_)|refine zx ?_|((with_reducible apply endB hbu); (focus (exact zs)); (focus rfl))|refine zof (zA @hgt (zA @hL (zA @hlb (zA @a1 (@ai))))) ?_|exact zi|fail)
    exact isI (by simp only [List.append_assoc,List.cons_append,List.nil_append]) (by simp only [List.append_assoc,List.cons_append,List.nil_append])
set_option maxHeartbeats 16000000 in
theorem sp_A (hbu : Buf 5 bv bs) (hc : k ≠ 0 ∧ k ≠ 1 ∧ k ≠ 2 ∧ k ≠ 3 ∧ k ≠ 5 ∧ k ≠ 15 ∧ k ≠ 18) (hK : k = 20 → 0 < kids.length) {w : List Int} (hw : w.length ≤ 10) (hwb : Byt w) (hh : ∀ s, callF (tab tbl) prim 119 [.agg (zcs k n name arg lit kids arms)] s = some (.str (bst w), s)) (hn0 : 0 < name.length) (ha0 : arg.length = 0) (hkl : kids.length ≤ 1000000000) (hal : arms.length ≤ 1000000000) (hvl : ∀ a ∈ arms, a.vars.length ≤ 1000000000) (ih : ∀ x ∈ kids, xpC x) (iha : ∀ a ∈ arms, xpC a.body) (hl : x.length + ([40] ++ w ++ [32] ++ name ++ bl xsay kids ++ bl asay arms ++ [41]).length ≤ 2000000000) :
    callF (tab tbl) prim 69 [bv x, .agg (zcs k n name arg lit kids arms)] (bs x) = some (bv (x ++ ([40] ++ w ++ [32] ++ name ++ bl xsay kids ++ bl asay arms ++ [41])), bs (x ++ ([40] ++ w ++ [32] ++ name ++ bl xsay kids ++ bl asay arms ++ [41]))) := by
  obtain ⟨L,hL⟩:=bLow hbu
  have hgt:=bGet hL
  have a1:=bA1 hbu
  have ai:=bAi hbu
  have hlb:=bLb hbu
  simp only [List.length_append,List.length_cons,List.length_nil] at hl
  have aw:=fun z T h=>bAs hbu z T w h hwb
  have hgate:(decide (k = 20) && decide ((kids.length:Int) = 0)) = false:=by
    by_cases h:k = 20
    · have := hK h
      rw [decide_eq_false (show ¬ (kids.length:Int) = 0 by omega),Bool.and_false]
    · rw [decide_eq_false h, Bool.false_and]
  refine funY rfl rfl zt ?_
  repeat' (first|refine zw ?_|refine zn (fun hb=>?_) (fun hb=>?_)|refine zx ?_|((with_reducible apply endB hbu); (focus (exact zs)); (focus rfl))|refine zof (zA @hgt (zA @hL (zA @hlb (zA @a1 (zA @ai (zA @hh (@aw))))))) ?_|exact zi|fail)
  all_goals try (exfalso; omega)
  all_goals
    refine Wp.mono (specSayKids hbu hL (by omega) ih (z0:=x ++ [40] ++ w ++ [32] ++ name) (by simp only [List.length_append,List.length_cons,List.length_nil] at hl ⊢; omega) _ _ _ _ _ _ _ _ _ _ _ _ _ _ _ _ _ _ _ _ _ ) ?_
    rintro e st ⟨rfl, z4, z20, rfl⟩
    repeat' (first|refine zw ?_|refine zn (fun hb=>?_) (fun hb=>?_)|refine zx ?_|refine zo ?_|exact zi|fail)
    refine Wp.mono (specSayArms hbu hL (by omega) hvl iha (z0:=x ++ [40] ++ w ++ [32] ++ name ++ bl xsay kids) (by simp only [List.length_append,List.length_cons,List.length_nil] at hl ⊢; omega) _ _ _ _ _ _ _ _ _ _ _ _ _ _ _ _ _ _ _ _ _ ) ?_
    rintro e st ⟨rfl, z5, z6, z7, z21, z22, z23, T, rfl⟩
    repeat' (first|refine zw ?_|refine zn (fun hb=>?_) (fun hb=>?_)|refine zx ?_|((with_reducible apply endB hbu); (focus (exact zs)); (focus rfl))|refine zof (zA @hgt (zA @hL (zA @hlb (zA @a1 (@ai))))) ?_|exact zi|fail)
    exact isI (by simp only [List.append_assoc,List.cons_append,List.nil_append]) (by simp only [List.append_assoc,List.cons_append,List.nil_append])
set_option maxHeartbeats 16000000 in
theorem sp_B (hbu : Buf 5 bv bs) (hc : k ≠ 0 ∧ k ≠ 1 ∧ k ≠ 2 ∧ k ≠ 3 ∧ k ≠ 5 ∧ k ≠ 15 ∧ k ≠ 18) (hK : k = 20 → 0 < kids.length) {w : List Int} (hw : w.length ≤ 10) (hwb : Byt w) (hh : ∀ s, callF (tab tbl) prim 119 [.agg (zcs k n name arg lit kids arms)] s = some (.str (bst w), s)) (hn0 : 0 < name.length) (ha0 : 0 < arg.length) (hkl : kids.length ≤ 1000000000) (hal : arms.length ≤ 1000000000) (hvl : ∀ a ∈ arms, a.vars.length ≤ 1000000000) (ih : ∀ x ∈ kids, xpC x) (iha : ∀ a ∈ arms, xpC a.body) (hl : x.length + ([40] ++ w ++ [32] ++ name ++ [32] ++ arg ++ bl xsay kids ++ bl asay arms ++ [41]).length ≤ 2000000000) :
    callF (tab tbl) prim 69 [bv x, .agg (zcs k n name arg lit kids arms)] (bs x) = some (bv (x ++ ([40] ++ w ++ [32] ++ name ++ [32] ++ arg ++ bl xsay kids ++ bl asay arms ++ [41])), bs (x ++ ([40] ++ w ++ [32] ++ name ++ [32] ++ arg ++ bl xsay kids ++ bl asay arms ++ [41]))) := by
  obtain ⟨L,hL⟩:=bLow hbu
  have hgt:=bGet hL
  have a1:=bA1 hbu
  have ai:=bAi hbu
  have hlb:=bLb hbu
  simp only [List.length_append,List.length_cons,List.length_nil] at hl
  have aw:=fun z T h=>bAs hbu z T w h hwb
  have hgate:(decide (k = 20) && decide ((kids.length:Int) = 0)) = false:=by
    by_cases h:k = 20
    · have := hK h
      rw [decide_eq_false (show ¬ (kids.length:Int) = 0 by omega),Bool.and_false]
    · rw [decide_eq_false h, Bool.false_and]
  refine funY rfl rfl zt ?_
  repeat' (first|refine zw ?_|refine zn (fun hb=>?_) (fun hb=>?_)|refine zx ?_|((with_reducible apply endB hbu); (focus (exact zs)); (focus rfl))|refine zof (zA @hgt (zA @hL (zA @hlb (zA @a1 (zA @ai (zA @hh (@aw))))))) ?_|exact zi|fail)
  all_goals try (exfalso; omega)
  all_goals
    refine Wp.mono (specSayKids hbu hL (by omega) ih (z0:=x ++ [40] ++ w ++ [32] ++ name ++ [32] ++ arg) (by simp only [List.length_append,List.length_cons,List.length_nil] at hl ⊢; omega) _ _ _ _ _ _ _ _ _ _ _ _ _ _ _ _ _ _ _ _ _ ) ?_
    rintro e st ⟨rfl, z4, z20, rfl⟩
    repeat' (first|refine zw ?_|refine zn (fun hb=>?_) (fun hb=>?_)|refine zx ?_|refine zo ?_|exact zi|fail)
    refine Wp.mono (specSayArms hbu hL (by omega) hvl iha (z0:=x ++ [40] ++ w ++ [32] ++ name ++ [32] ++ arg ++ bl xsay kids) (by simp only [List.length_append,List.length_cons,List.length_nil] at hl ⊢; omega) _ _ _ _ _ _ _ _ _ _ _ _ _ _ _ _ _ _ _ _ _ ) ?_
    rintro e st ⟨rfl, z5, z6, z7, z21, z22, z23, T, rfl⟩
    repeat' (first|refine zw ?_|refine zn (fun hb=>?_) (fun hb=>?_)|refine zx ?_|((with_reducible apply endB hbu); (focus (exact zs)); (focus rfl))|refine zof (zA @hgt (zA @hL (zA @hlb (zA @a1 (@ai))))) ?_|exact zi|fail)
    exact isI (by simp only [List.append_assoc,List.cons_append,List.nil_append]) (by simp only [List.append_assoc,List.cons_append,List.nil_append])
end
theorem name_pos {l : List Int} (h : nameB l = true) : 0 < l.length := by
  unfold nameB at h
  rw [Bool.and_eq_true] at h
  have:=(wordB_iff.1 h.1).1
  omega
theorem kw_len10 (k : Int) : (kw k).length ≤ 10 := by have := kw_len k; omega
theorem opw_len10 (k : Int) : (opw k).length ≤ 10 := by have := opw_len k; omega
theorem clw_len10 (k : Int) : (clw k).length ≤ 10 := by have := clw_len k; omega
theorem specSay : ∀ e : Xp, e.ok → e.sz ≤ 100000000 → ∀ d, xgd d e → xpC e := by
  refine Xp.ind fun k n name arg lit kids arms ih iha=>?_
  intro ho hsz d hg bv bs x hbu hl
  simp only [Xp.sz,szE_eq,szA_eq] at hsz
  have hln:=sizes_len Xp.sz kids
  have hla:=sizes_len Arm.sz arms
  simp only [Xp.ok,okE_iff,okA_iff] at ho
  obtain ⟨_,hn,hname,harg,hlit,⟨_,hoe⟩,⟨_,hoa⟩⟩:=ho
  rw [xgd,gdE_iff,gdA_iff] at hg
  obtain ⟨_,hX,hgk,hga⟩:=hg
  rw [az_zcs]
  rw [xsay_eq] at hl ⊢
  have ihk:∀ x ∈ kids,xpC x:=fun x hx=>ih x hx (hoe x hx) (by have:=sizes_mem Xp.sz hx; omega) (d + 1) (hgk x hx)
  have ihb:∀ a ∈ arms,xpC a.body:=fun a ha=>iha a ha (Arm.ok_body (hoa a ha)) (by have:=sizes_mem Arm.sz ha; have:=Arm.body_sz (a:=a); omega) (d + 1) (agd_iff.1 (hga a ha)).2
  have hvl:∀ a ∈ arms,a.vars.length ≤ 1000000000:=fun a ha=>by
    have h2:=sizes_mem Arm.sz ha
    obtain ⟨con,vars,body⟩:=a
    have:=sizes_len List.length vars
    simp only [Arm.sz] at h2
    simp only [Arm.vars]
    omega
  have hkn:∀ (h:(kids.length:Int) = kidsN k n),k ≠ 0∧k ≠ 1∧k ≠ 2∧k ≠ 3∧k ≠ 20∧0 ≤ k∧k ≤ 20→(0 < kids.length)∧(k = 18 ∨ k = 5→kids.length = 2):=fun h g=>by
    unfold kidsN at h
    (repeat' split at h) <;> omega
  have e0:∀ w,brk (w :: ([]:List (List Int)) ++ (kids.map xsay ++ arms.map asay)) = [40] ++ w ++ bl xsay kids ++ bl asay arms ++ [41]:=fun w=>by rw [brk3]; simp [bl]
  have e1:∀ w,brk (w :: [name] ++ (kids.map xsay ++ arms.map asay)) = [40] ++ w ++ [32] ++ name ++ bl xsay kids ++ bl asay arms ++ [41]:=fun w=>by rw [brk3]; simp [bl]
  have e2:∀ w,brk (w :: [name,arg] ++ (kids.map xsay ++ arms.map asay)) = [40] ++ w ++ [32] ++ name ++ [32] ++ arg ++ bl xsay kids ++ bl asay arms ++ [41]:=fun w=>by rw [brk3]; simp [bl]
  by_cases hz0:k = 0
  · rw [if_pos hz0] at hl ⊢
    exact sp_Z0 hbu hz0 hl
  rw [if_neg hz0] at hl ⊢
  by_cases hz1:k = 1
  · rw [if_pos hz1] at hl ⊢
    exact sp_Z1 hbu hz1 hn hl
  rw [if_neg hz1] at hl ⊢
  by_cases hz2:k = 2
  · rw [if_pos hz2] at hl ⊢
    exact sp_Z2 hbu hz2 hl
  rw [if_neg hz2] at hl ⊢
  by_cases hz3:k = 3
  · rw [if_pos hz3] at hl ⊢
    exact sp_Z3 hbu hz3 hl
  rw [if_neg hz3] at hl ⊢
  unfold hdX at hX
  rcases hX with ⟨hc, _, hnm, harl, _, ha, hK⟩ | ⟨hc, _, hnm, harn, _, _, ha, hK⟩ | ⟨hc, _, hnm, harl, _, ha, hK⟩ | ⟨hc, _⟩ | ⟨hc, _, hn0, harl, _, ha, ha2, hK⟩ | ⟨hc, _, hn0, harl, _, ha, hK, _⟩ | ⟨hc, hnp, hn0, harl, _, ha, hK⟩ | ⟨hc, _, hn0, harl, _, ha, hK⟩
  · have hk2 := hkn hK (by omega)
    have hnp:=name_pos hnm
    rcases hc with hc | hc | hc | hc
    · omega
    · rw [if_neg (by omega), if_neg (by omega), if_neg (by omega)] at hl ⊢
      rw [show hds k n name arg = kw k :: [name] by simp [hds,hdw,hc],e1] at hl ⊢
      exact sp_A hbu (by omega) (by omega) (kw_len10 k) (byt_kw k) (fun s=>specHeadW (by omega) s) hnp harl (by omega) (by omega) hvl ihk ihb hl
    · rw [if_neg (by omega), if_neg (by omega), if_neg (by omega)] at hl ⊢
      rw [show hds k n name arg = kw k :: [name] by simp [hds,hdw,hc],e1] at hl ⊢
      exact sp_A hbu (by omega) (by omega) (kw_len10 k) (byt_kw k) (fun s=>specHeadW (by omega) s) hnp harl (by omega) (by omega) hvl ihk ihb hl
    · rw [if_pos hc] at hl ⊢
      exact sp_T hbu hc (hk2.2 (.inl hc)) ihk hl
  · have hk2 := hkn hK (by omega)
    rw [if_neg (by omega),if_neg (by omega),if_neg (by omega)] at hl ⊢
    rw [show hds k n name arg = kw k :: [name,arg] by simp [hds,hdw,hc],e2] at hl ⊢
    exact sp_B hbu (by omega) (by omega) (kw_len10 k) (byt_kw k) (fun s=>specHeadW (by omega) s) (name_pos hnm) (name_pos harn) (by omega) (by omega) hvl ihk ihb hl
  · rw [if_neg (by omega), if_neg (by omega)] at hl ⊢
    by_cases h0:kids.length = 0
    · rw [if_pos ⟨.inl hc, h0⟩] at hl ⊢
      rw [show hdw k n name = name by simp [hdw,hc]] at hl ⊢
      exact sp_C0 hbu hc h0 hl
    · rw [if_neg (fun h => h0 h.2)] at hl ⊢
      rw [show hds k n name arg = name :: [] by simp [hds,hdw,hc],e0] at hl ⊢
      exact sp_C hbu hc (by omega) (by omega) (by omega) hvl ihk ihb hl
  · omega
  · have hk2 := hkn hK (by omega)
    rw [if_neg (by omega),if_neg (by omega),if_neg (by omega)] at hl ⊢
    rw [show hds k n name arg = kw k :: [] by simp [hds,hdw,hc],e0] at hl ⊢
    exact sp_N hbu (by omega) (by omega) (kw_len10 k) (byt_kw k) (fun s=>specHeadW (by omega) s) hn0 harl (by omega) (by omega) hvl ihk ihb hl
  · have hk2 := hkn hK (by omega)
    rw [if_neg (by omega),if_pos hc] at hl ⊢
    exact sp_F hbu hc (hk2.2 (.inr hc)) ihk hl
  · rw [if_neg (by omega), if_neg (by omega)] at hl ⊢
    rcases hc with hc | hc | hc
    · omega
    · have hk2 := hkn hK (by omega)
      rw [if_neg (by omega)] at hl ⊢
      rw [show hds k n name arg = opw n :: [] by simp [hds,hdw,hc],e0] at hl ⊢
      exact sp_N hbu (by omega) (by omega) (opw_len10 n) (byt_opw n) (fun s=>specHeadO hc (by unfold numP at hnp; omega) s) hn0 harl (by omega) (by omega) hvl ihk ihb hl
    · by_cases h0 : kids.length = 0
      · rw [if_pos ⟨.inr hc, h0⟩] at hl ⊢
        rw [show hdw k n name = clw n by simp [hdw,hc]] at hl ⊢
        exact sp_G0 hbu hc h0 (by unfold numP at hnp; omega) hl
      · rw [if_neg (fun h => h0 h.2)] at hl ⊢
        rw [show hds k n name arg = clw n :: [] by simp [hds,hdw,hc],e0] at hl ⊢
        exact sp_N hbu (by omega) (by omega) (clw_len10 n) (byt_clw n) (fun s=>specHeadC hc (by unfold numP at hnp; omega) s) hn0 harl (by omega) (by omega) hvl ihk ihb hl
  · have hk2 := hkn hK (by omega)
    rw [if_neg (by omega),if_neg (by omega),if_neg (by omega)] at hl ⊢
    have e:hds k n name arg = kw k :: []:=by
      have h4:¬ (k = 4 ∨ k = 6):=by omega
      have h7:¬ k = 7:=by omega
      have h15:¬ k = 15:=by omega
      have h19:¬ k = 19:=by omega
      have h20:¬ k = 20:=by omega
      simp only [hds,hdw,if_neg h4,if_neg h7,if_neg h15,if_neg h19,if_neg h20]
    rw [e,e0] at hl ⊢
    exact sp_N hbu (by omega) (by omega) (kw_len10 k) (byt_kw k) (fun s=>specHeadW (by omega) s) hn0 harl (by omega) (by omega) hvl ihk ihb hl

/-! ### the print's loops -/
theorem k40c : (⟨#[40, 100, 97, 116, 97, 32]⟩ : ByteArray) = bst [40, 100, 97, 116, 97, 32] := rfl
theorem k41n : (⟨#[41, 10]⟩ : ByteArray) = bst [41, 10] := rfl
theorem csay_bl (ds : List Dt) (c : Con) : csay ds c = [40] ++ c.name ++ bl (tsay ds) c.fields ++ [41] := by rw [csay, brk_bl]
theorem dsay_bl (ds : List Dt) (d : Dt) : dsay ds d = [40, 100, 97, 116, 97, 32] ++ d.name ++ [32] ++ num d.vars ++ bl (csay ds) d.cons ++ [41, 10] := by
  simp [dsay, brk, jn, bl, List.flatMap_map]
set_option maxHeartbeats 8000000 in
theorem spFields {ds : List Dt} {cs : List Con} {i : Nat} (hi : i < cs.length) {bv : List Int → AV} {bs : List Int → Store} (hbu : Buf 5 bv bs) {L : Nat} (hL : ∀ x, (bs x).low.length = L) (hcl : cs.length ≤ 100000000) (hal : cs[i].fields.length ≤ 100000000) (ih : ∀ x ∈ cs[i].fields, tyC ds x)
    {z0 : List Int} (hz : z0.length + (bl (tsay ds) cs[i].fields).length ≤ 2000000000) {T : List Ae.Obj} {j : Nat} {src : List AV} {c1 c2 : AV} (h0 : T[0]? = some (.box 38 (.imm false ds.length (ds.flatMap Dt.az) :: src))) (hT : T[j]? = some (.box 73 [c1, c2, .imm false cs.length (cs.flatMap Con.az)]))
    (y0 y2 y4 y8 y9 y10 : AV) :
    Wp (exS (callF (tab tbl) prim) (.loop (loopAt c31 2)) ⟨[y0, .ptr (L + 1) 0 0, y2, bv z0, y4, .ptr (L + 1) j 0, .int .i64 i, .int .i64 0, y8, y9, y10], frm (bs z0) T⟩)
      (fun e st => e = .exit 4 ∧ ∃ y7 y10, st = ⟨[y0, .ptr (L + 1) 0 0, y2, bv (z0 ++ bl (tsay ds) cs[i].fields), y4, .ptr (L + 1) j 0, .int .i64 i, y7, y8, y9, y10], frm (bs (z0 ++ bl (tsay ds) cs[i].fields)) T⟩) := by
  have hg:=bGet hL
  have a1:=bA1 hbu
  have hc1:=(con_at hi).2
  rw [azT_eq] at hc1
  generalize cs[i].fields = fs at *
  simp only [loopAt,loops,c31,List.nil_append,List.append_nil,List.getD_cons_zero,List.getD_cons_succ,List.cons_append]
  refine wLoop (fun m st=>∃ (q:Nat) (y10:AV) (z:List Int),(m:Int) = fs.length - q∧q ≤ fs.length∧z = z0 ++ bl (tsay ds) (fs.take q) ∧
    st = ⟨[y0, .ptr (L + 1) 0 0, y2, bv z, y4, .ptr (L + 1) j 0, .int .i64 i, .int .i64 q, y8, y9, y10], frm (bs z) T⟩) fs.length ?_ ?_
  · exact ⟨0, _, z0, by omega, by omega, by simp [bl], rfl⟩
  · rintro m st ⟨q, y10, z, hm, hq, hz1, rfl⟩
    by_cases hlt:q < fs.length
    · obtain ⟨ha1, ha2⟩ := fm_at Ty.len hlt
      have hle:=bl_le (f:=tsay ds) (l:=fs) (q + 1)
      have htk:=bl_take (f:=tsay ds) hlt
      rw [htk] at hle
      simp only [List.length_append,List.length_cons,List.length_nil] at hle
      have hzl:=congrArg List.length hz1
      rw [List.length_append] at hzl
      have hii:=fun z T (hz:z.length + (tsay ds fs[q]).length ≤ 2000000000)=>ih _ (List.getElem_mem hlt) bv (fun x=>frm (bs x) T) z (hbu.frm T) hz
      generalize fs[q] = x at *
      obtain ⟨k',n',a'⟩:=x
      simp only [Ty.az,azT_eq] at ha2 hii
      generalize tsay ds (.mk k' n' a') = tx at *
      repeat' (first|refine zw ?_|refine zn (fun hb=>?_) (fun hb=>?_)|refine zx ?_|refine zof (zA @ha1 (zA @ha2 (zA @hii (zA @hg (zA @h0 (zA @hT (zA @hc1 (zA @a1 (@hL))))))))) ?_|exact zi|fail)
      exact loopNor (m - 1) (by omega) ⟨q + 1,_,z ++ [32] ++ tx,by omega,by omega,by rw [htk,hz1]; simp,rfl⟩
    · obtain rfl : q = fs.length := by omega
      rw [List.take_length] at hz1
      subst hz1
      repeat' (first|refine zw ?_|refine zn (fun hb=>?_) (fun hb=>?_)|refine zx ?_|refine zof (zA @hg (zA @h0 (zA @hT (zA @hc1 (@hL))))) ?_|exact zi|fail)
      exact ⟨rfl,_,_,rfl⟩
end Go.Proofs.YtkjonfojileipaaGreatDoor.Gq
