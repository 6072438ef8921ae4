/- What the head of an expression and what an arm is; both for the program. What an arm is but for its body, for the program. When an expression is one: how many parts, for the program. Expressions and arms, for the program: loops. What is said of an arm and of an expression, for the program (MADE BY PROGRAM: mkpd.py). The program's printed: strings.Builder, and the two inner loops. The program's printed and SourceOk. Digits, for the reference. -/
import Derived.Test.YtkjonfojileipaaGreatDoorV7
import Derived.Test.YtkjonfojileipaaGreatDoorV8
set_option linter.unusedSimpArgs false
set_option linter.unusedVariables false
namespace Go.Proofs.YtkjonfojileipaaGreatDoor.Gq
open Go Go.Proofs Go.Proofs.YtkjonfojileipaaGreatDoor.Ae
attribute [local congr] obind_congr
attribute [local push_cast] exF argsV frzs frz frzL frz1 exS_reg exS_seq exS_cond exS_alt exS_block exS_loop exS_exit exS_ret exS_skip evReg evOps evOne evAct evOp rd putV st0 evEnd resV resL resOne oneOr frzR loadV storeV binV binI unV push_frm pop_frm frm_len frm_top frm_get_top frm_set_top frm_new AV.cells AV.lowB AV.lowL AV.isCell cellsOk set_len Option.bind_some Option.map_some Option.map_none List.getD_cons_zero List.getD_cons_succ List.nil_append List.cons_append List.append_nil List.length_cons List.length_nil List.set_cons_zero List.set_cons_succ List.map_cons List.map_nil List.replicate if_true if_false ite_true ite_false ite_self Bool.false_eq_true List.all_cons List.all_nil Bool.and_true Bool.true_and Bool.and_self Bool.and_eq_true List.getElem?_cons_zero List.getElem?_cons_succ List.drop_succ_cons List.drop_zero List.take_succ_cons List.take_zero true_and and_true and_self decide_true decide_false Bool.not_true Bool.not_false Prod.mk.injEq Option.some.injEq List.getElem?_drop optInt elems sliceV partsOf Nat.add_zero Nat.zero_add Nat.mul_one beq_self_eq_true litParts Bool.or_false Bool.false_or Bool.or_true Bool.true_or Bool.false_and Bool.and_false List.cons.injEq not_false_eq_true not_true_eq_false Nat.zero_le Nat.le_refl gt_iff_lt ge_iff_le List.drop_nil List.take_nil newBox List.length_append List.length_map bne_self_eq_false eq_self Nat.lt_add_one ne_eq false_implies Int.le_refl
def fstB : List Xp → Bool
  | [] => false
  | .mk k _ _ _ _ ks _ :: _ => decide (k = 15 ∧ ks.length = 0)
def hdX (k n : Int) (name arg lit : List Int) (kl al : Nat) (fk : Bool) : Prop :=
  ((k = 3 ∨ k = 4 ∨ k = 6 ∨ k = 18) ∧ n = 0 ∧ nameB name = true ∧ arg.length = 0 ∧ lit.length = 0 ∧ al = 0 ∧ (kl : Int) = kidsN k n) ∨
  (k = 7 ∧ n = 0 ∧ nameB name = true ∧ nameB arg = true ∧ arg ≠ name ∧ lit.length = 0 ∧ al = 0 ∧ (kl : Int) = kidsN k n) ∨
  (k = 15 ∧ n = 0 ∧ wordB grB name = true ∧ arg.length = 0 ∧ lit.length = 0 ∧ al = 0 ∧ kl ≤ 3) ∨
  (k = 2 ∧ n = 0 ∧ name.length = 0 ∧ arg.length = 0 ∧ litB lit = true ∧ al = 0 ∧ (kl : Int) = kidsN k n) ∨
  (k = 16 ∧ n = 0 ∧ name.length = 0 ∧ arg.length = 0 ∧ lit.length = 0 ∧ 1 ≤ al ∧ al ≤ 6 ∧ (kl : Int) = kidsN k n) ∨
  (k = 5 ∧ n = 0 ∧ name.length = 0 ∧ arg.length = 0 ∧ lit.length = 0 ∧ al = 0 ∧ (kl : Int) = kidsN k n ∧ fk = false) ∨
  ((k = 1 ∨ k = 19 ∨ k = 20) ∧ numP k n ∧ name.length = 0 ∧ arg.length = 0 ∧ lit.length = 0 ∧ al = 0 ∧ (kl : Int) = kidsN k n) ∨
  ((k = 0 ∨ k = 8 ∨ k = 9 ∨ k = 10 ∨ k = 11 ∨ k = 12 ∨ k = 13 ∨ k = 14 ∨ k = 17) ∧ n = 0 ∧ name.length = 0 ∧ arg.length = 0 ∧ lit.length = 0 ∧ al = 0 ∧ (kl : Int) = kidsN k n)
noncomputable instance (k n : Int) (name arg lit : List Int) (kl al : Nat) (fk : Bool) : Decidable (hdX k n name arg lit kl al fk) := Classical.propDecidable _
theorem clsK (k : Int) : (k = 3 ∨ k = 4 ∨ k = 6 ∨ k = 18) ∨ k = 7 ∨ k = 15 ∨ k = 2 ∨ k = 16 ∨ k = 5 ∨ (k = 1 ∨ k = 19 ∨ k = 20) ∨ (k = 0 ∨ k = 8 ∨ k = 9 ∨ k = 10 ∨ k = 11 ∨ k = 12 ∨ k = 13 ∨ k = 14 ∨ k = 17) ∨ (k < 0 ∨ 20 < k) := by omega
section
variable {k n : Int} {name arg lit : List Int} {kl al : Nat} {fk : Bool}
theorem hdX_A (hc : k = 3 ∨ k = 4 ∨ k = 6 ∨ k = 18) : hdX k n name arg lit kl al fk ↔ n = 0 ∧ nameB name = true ∧ arg.length = 0 ∧ lit.length = 0 ∧ al = 0 ∧ (kl : Int) = kidsN k n := by
  unfold hdX; constructor
  · rintro (⟨_, h⟩ | ⟨g, h⟩ | ⟨g, h⟩ | ⟨g, h⟩ | ⟨g, h⟩ | ⟨g, h⟩ | ⟨g, h⟩ | ⟨g, h⟩); exact h; all_goals (exfalso; clear h; omega)
  · exact fun h => .inl ⟨hc, h⟩
theorem hdX_B (hc : k = 7) : hdX k n name arg lit kl al fk ↔ n = 0 ∧ nameB name = true ∧ nameB arg = true ∧ arg ≠ name ∧ lit.length = 0 ∧ al = 0 ∧ (kl : Int) = kidsN k n := by
  unfold hdX; constructor
  · rintro (⟨g, h⟩ | ⟨_, h⟩ | ⟨g, h⟩ | ⟨g, h⟩ | ⟨g, h⟩ | ⟨g, h⟩ | ⟨g, h⟩ | ⟨g, h⟩); rotate_left; exact h; all_goals (exfalso; clear h; omega)
  · exact fun h => .inr (.inl ⟨hc, h⟩)
theorem hdX_C (hc : k = 15) : hdX k n name arg lit kl al fk ↔ n = 0 ∧ wordB grB name = true ∧ arg.length = 0 ∧ lit.length = 0 ∧ al = 0 ∧ kl ≤ 3 := by
  unfold hdX; constructor
  · rintro (⟨g, h⟩ | ⟨g, h⟩ | ⟨_, h⟩ | ⟨g, h⟩ | ⟨g, h⟩ | ⟨g, h⟩ | ⟨g, h⟩ | ⟨g, h⟩); rotate_left 2; exact h; all_goals (exfalso; clear h; omega)
  · exact fun h => .inr (.inr (.inl ⟨hc, h⟩))
theorem hdX_D (hc : k = 2) : hdX k n name arg lit kl al fk ↔ n = 0 ∧ name.length = 0 ∧ arg.length = 0 ∧ litB lit = true ∧ al = 0 ∧ (kl : Int) = kidsN k n := by
  unfold hdX; constructor
  · rintro (⟨g, h⟩ | ⟨g, h⟩ | ⟨g, h⟩ | ⟨_, h⟩ | ⟨g, h⟩ | ⟨g, h⟩ | ⟨g, h⟩ | ⟨g, h⟩); rotate_left 3; exact h; all_goals (exfalso; clear h; omega)
  · exact fun h => .inr (.inr (.inr (.inl ⟨hc, h⟩)))
theorem hdX_E (hc : k = 16) : hdX k n name arg lit kl al fk ↔ n = 0 ∧ name.length = 0 ∧ arg.length = 0 ∧ lit.length = 0 ∧ 1 ≤ al ∧ al ≤ 6 ∧ (kl : Int) = kidsN k n := by
  unfold hdX; constructor
  · rintro (⟨g, h⟩ | ⟨g, h⟩ | ⟨g, h⟩ | ⟨g, h⟩ | ⟨_, h⟩ | ⟨g, h⟩ | ⟨g, h⟩ | ⟨g, h⟩); rotate_left 4; exact h; all_goals (exfalso; clear h; omega)
  · exact fun h => .inr (.inr (.inr (.inr (.inl ⟨hc, h⟩))))
theorem hdX_F (hc : k = 5) : hdX k n name arg lit kl al fk ↔ n = 0 ∧ name.length = 0 ∧ arg.length = 0 ∧ lit.length = 0 ∧ al = 0 ∧ (kl : Int) = kidsN k n ∧ fk = false := by
  unfold hdX; constructor
  · rintro (⟨g, h⟩ | ⟨g, h⟩ | ⟨g, h⟩ | ⟨g, h⟩ | ⟨g, h⟩ | ⟨_, h⟩ | ⟨g, h⟩ | ⟨g, h⟩); rotate_left 5; exact h; all_goals (exfalso; clear h; omega)
  · exact fun h => .inr (.inr (.inr (.inr (.inr (.inl ⟨hc, h⟩)))))
theorem hdX_G (hc : k = 1 ∨ k = 19 ∨ k = 20) : hdX k n name arg lit kl al fk ↔ numP k n ∧ name.length = 0 ∧ arg.length = 0 ∧ lit.length = 0 ∧ al = 0 ∧ (kl : Int) = kidsN k n := by
  unfold hdX; constructor
  · rintro (⟨g, h⟩ | ⟨g, h⟩ | ⟨g, h⟩ | ⟨g, h⟩ | ⟨g, h⟩ | ⟨g, h⟩ | ⟨_, h⟩ | ⟨g, h⟩); rotate_left 6; exact h; all_goals (exfalso; clear h; omega)
  · exact fun h => .inr (.inr (.inr (.inr (.inr (.inr (.inl ⟨hc, h⟩))))))
theorem hdX_H (hc : k = 0 ∨ k = 8 ∨ k = 9 ∨ k = 10 ∨ k = 11 ∨ k = 12 ∨ k = 13 ∨ k = 14 ∨ k = 17) : hdX k n name arg lit kl al fk ↔ n = 0 ∧ name.length = 0 ∧ arg.length = 0 ∧ lit.length = 0 ∧ al = 0 ∧ (kl : Int) = kidsN k n := by
  unfold hdX; constructor
  · rintro (⟨g, h⟩ | ⟨g, h⟩ | ⟨g, h⟩ | ⟨g, h⟩ | ⟨g, h⟩ | ⟨g, h⟩ | ⟨g, h⟩ | ⟨_, h⟩); rotate_left 7; exact h; all_goals (exfalso; clear h; omega)
  · exact fun h => .inr (.inr (.inr (.inr (.inr (.inr (.inr ⟨hc, h⟩))))))
theorem hdX_I (hc : k < 0 ∨ 20 < k) : hdX k n name arg lit kl al fk ↔ False := by
  unfold hdX
  refine iff_false_intro ?_
  rintro (⟨g, h⟩ | ⟨g, h⟩ | ⟨g, h⟩ | ⟨g, h⟩ | ⟨g, h⟩ | ⟨g, h⟩ | ⟨g, h⟩ | ⟨g, h⟩) <;> (clear h; omega)
end
theorem implHead {k n : Int} {name arg lit : List Int} {kids : List Xp} {arms : List Arm} (ho : (Xp.mk k n name arg lit kids arms).ok) (hkl : kids.length ≤ 1000000000) (hal : arms.length ≤ 1000000000) (hll : lit.length ≤ 1000000000) {p : AV} (s : Store)
    (hp : (∃ rest, p = .eptr ((Xp.mk k n name arg lit kids arms).az ++ rest)) ∨ (∃ d i t c0, p = .ptr d i 1 ∧ d ≤ s.low.length ∧ s.get d i = some (.box t (c0 :: (Xp.mk k n name arg lit kids arms).az)))) :
    callF (tab tbl) prim 74 [p] s = some (.bool (decide (hdX k n name arg lit kids.length arms.length (fstB kids))), s) := by
  simp only [Xp.ok] at ho
  obtain ⟨hk,hn,hname,harg,hlit,_,_⟩:=ho
  have h1:=fun s=>implName hname s
  have h2:=fun s=>implCon hname s
  have h3:=fun s=>implName harg s
  have h4:=fun fl s=>implLit hlit.1 fl s
  have h5:=bst_eql harg.2 hname.2
  have h6:((bst name).toList == (⟨#[]⟩:ByteArray).toList) = decide (name.length = 0):=by rw [bst_nil (a:=name)]; simp only [List.length_eq_zero_iff]
  have h7:((bst arg).toList == (⟨#[]⟩:ByteArray).toList) = decide (arg.length = 0):=by rw [bst_nil (a:=arg)]; simp only [List.length_eq_zero_iff]
  have hkf:=fun h20 s=>implKids k n h20 s
  have hK:∃ (k0:Int) (l0:Nat) (c0:List AV),(0 < kids.length→(kids.flatMap Xp.az)[0]? = some (.int .i64 k0))∧(0 < kids.length→(kids.flatMap Xp.az)[5]? = some (.imm false l0 c0))∧(0 < kids.length→fstB kids = decide (k0 = 15∧l0 = 0)):=by
    match kids with
    | [] => exact ⟨0, 0, [], fun h => by simp at h, fun h => by simp at h, fun h => by simp at h⟩
    | .mk k0 n0 a0 b0 c0 ks as2 :: r => exact ⟨k0, ks.length, azE ks, fun _ => by simp [Xp.az], fun _ => by simp [Xp.az], fun _ => rfl⟩
  obtain ⟨k0,l0,c0,hK0,hK5,hKf⟩:=hK
  have hkn5:k = 5→kidsN k n = 2:=fun h=>by rw [h]; rfl
  have hkn15:k = 15→kidsN k n = -1:=fun h=>by rw [h]; rfl
  have hknn:k ≠ 15→0 ≤ kidsN k n:=fun h=>by unfold kidsN; (repeat' split) <;> omega
  simp only [Xp.az,azE_eq,azA_eq,bsl] at hp
  unfold stv at *
  refine dec_of ?_
  have cl:=clsK k
  rcases hp with ⟨rest, rfl⟩ | ⟨d, i, t, c00, rfl, hd, hS⟩
  · rcases cl with hc | hc | hc | hc | hc | hc | hc | hc | hc
    · rw [hdX_A hc]; exact implHdEA hc s (hknn (by omega)) hkl hal hkf hll h1 h2 h3 h4 h5 h6 h7 (fk := false)
    · rw [hdX_B hc]; exact implHdEB hc s (hknn (by omega)) hkl hal hkf hll h1 h2 h3 h4 h5 h6 h7 (fk := false)
    · rw [hdX_C hc]; exact implHdEC hc s (hkn15 hc) hkl hal hkf hll h1 h2 h3 h4 h5 h6 h7 (fk := false)
    · rw [hdX_D hc]; exact implHdED hc s (hknn (by omega)) hkl hal hkf hll h1 h2 h3 h4 h5 h6 h7 (fk := false)
    · rw [hdX_E hc]; exact implHdEE hc s (hknn (by omega)) hkl hal hkf hll h1 h2 h3 h4 h5 h6 h7 (fk := false)
    · rw [hdX_F hc]; exact implHdEF hc s (hkn5 hc) hK0 hK5 hKf hkl hal hkf hll h1 h2 h3 h4 h5 h6 h7
    · rw [hdX_G hc]; exact implHdEG hc s (hknn (by omega)) hkl hal hkf hll h1 h2 h3 h4 h5 h6 h7 (fk := false)
    · rw [hdX_H hc]; exact implHdEH hc s (hknn (by omega)) hkl hal hkf hll h1 h2 h3 h4 h5 h6 h7 (fk := false)
    · rw [hdX_I hc]; exact implHdEI hc s hkl hal hkf hll h1 h2 h3 h4 h5 h6 h7 (fk := false)
  · rcases cl with hc | hc | hc | hc | hc | hc | hc | hc | hc
    · rw [hdX_A hc]; exact implHdPA hc s hd hS (hknn (by omega)) hkl hal hkf hll h1 h2 h3 h4 h5 h6 h7 (fk := false)
    · rw [hdX_B hc]; exact implHdPB hc s hd hS (hknn (by omega)) hkl hal hkf hll h1 h2 h3 h4 h5 h6 h7 (fk := false)
    · rw [hdX_C hc]; exact implHdPC hc s hd hS (hkn15 hc) hkl hal hkf hll h1 h2 h3 h4 h5 h6 h7 (fk := false)
    · rw [hdX_D hc]; exact implHdPD hc s hd hS (hknn (by omega)) hkl hal hkf hll h1 h2 h3 h4 h5 h6 h7 (fk := false)
    · rw [hdX_E hc]; exact implHdPE hc s hd hS (hknn (by omega)) hkl hal hkf hll h1 h2 h3 h4 h5 h6 h7 (fk := false)
    · rw [hdX_F hc]; exact implHdPF hc s hd hS (hkn5 hc) hK0 hK5 hKf hkl hal hkf hll h1 h2 h3 h4 h5 h6 h7
    · rw [hdX_G hc]; exact implHdPG hc s hd hS (hknn (by omega)) hkl hal hkf hll h1 h2 h3 h4 h5 h6 h7 (fk := false)
    · rw [hdX_H hc]; exact implHdPH hc s hd hS (hknn (by omega)) hkl hal hkf hll h1 h2 h3 h4 h5 h6 h7 (fk := false)
    · rw [hdX_I hc]; exact implHdPI hc s hd hS hkl hal hkf hll h1 h2 h3 h4 h5 h6 h7 (fk := false)
def varP (vars : List (List Int)) (i : Nat) (w : List Int) : Prop := nameB w = true ∧ (vars.take i).any (fun x => decide (x = w)) = false
def armP (con : List Int) (vars : List (List Int)) : Prop := (con.length = 0 ∧ vars.length = 0) ∨ (con.length ≠ 0 ∧ wordB grB con = true ∧ vars.length ≤ 3 ∧ ∀ (i : Nat) (h : i < vars.length), varP vars i vars[i])
noncomputable instance (con : List Int) (vars : List (List Int)) : Decidable (armP con vars) := Classical.propDecidable _
theorem implSame {w x : List Int} (hw : okB w) (hx : okB x) {S : Store} {d i : Nat} (hd : d ≤ S.low.length) (hS : S.get d i = some (.box 23 [.imm false w.length (by8 w)])) : callF (tab tbl) prim 127 [.imm false x.length (by8 x), .ptr d i 0] S = some (.bool (decide (x = w)), S) := by
  have hgt:∀ T,(frm S T).get d i = S.get d i:=fun T=>frm_get S T i hd
  have he:=bst_eql hx.2 hw.2
  have t1:=toB8 x
  have t2:=toB8 w
  have l1:=by8_len x
  have l2:=by8_len w
  have hq:∀ s,callF (tab tbl) prim 128 [.imm false x.length (by8 x),.imm false w.length (by8 w)] s = some (.bool (decide (x = w)),s):=by
    intro s
    refine funY rfl (zaf (zA @t1 (zA @t2 (zA @l1 (@l2))))) zt ?_
    repeat' (first|refine zw ?_|refine zn (fun hb=>?_) (fun hb=>?_)|refine zx ?_|refine zof (zA @t1 (zA @t2 (zA @l1 (@l2)))) ?_|exact zi|fail)
    all_goals exact isI (congrArg AV.bool (by rw [← he]; simp [hb])) rfl
  generalize decide (x = w) = b at *
  refine funY rfl (zaf (zA @hgt (zA @hS (@hq)))) zt ?_
  repeat' (first|refine zw ?_|refine zn (fun hb=>?_) (fun hb=>?_)|refine zx ?_|refine zof (zA @hgt (zA @hS (@hq))) ?_|exact zi|fail)
  all_goals exact isI (congrArg AV.bool hb.symm) rfl
set_option maxHeartbeats 8000000 in
theorem implArm {con : List Int} {vars : List (List Int)} {body : Xp} (hcon : okB con) (hvars : ∀ v ∈ vars, okB v) (hvl : vars.length ≤ 1000000000) (s : Store) : callF (tab tbl) prim 75 [.agg (Arm.mk con vars body).az] s = some (.bool (decide (armP con vars)), s) := by
  obtain ⟨k,n,name,arg,lit,kids,arms⟩:=body
  have h2:=fun s=>implCon hcon s
  have t1:=toB8 con
  have l1:=by8_len con
  obtain ⟨VC,hVC⟩:∃ VC,VC = vars.map bsl:=⟨_,rfl⟩
  have hcl:=hcon.1
  unfold stv at *
  simp only [Arm.az,Xp.az,← hVC]
  rw [show bsl con = .imm false con.length (by8 con) from rfl]
  refine dec_of ?_
  simp only [bsl]
  refine funZ rfl (zaf (zA @h2 (zA @t1 (@l1)))) zt ?_
  repeat' (first|refine zw ?_|refine zn (fun hb=>?_) (fun hb=>?_)|refine zx ?_|refine zof (zA @h2 (zA @t1 (@l1))) ?_|exact zi|fail)
  · exact ⟨_, rfl, rfl, iff_of_true rfl (.inl ⟨by omega, by omega⟩)⟩
  · exact ⟨_, rfl, rfl, iff_of_false Bool.false_ne_true fun h => by rcases h with ⟨_, h⟩ | ⟨h, _⟩ <;> omega⟩
  · exact ⟨_, rfl, rfl, iff_of_false Bool.false_ne_true fun h => by rcases h with ⟨h, _⟩ | ⟨_, _, h, _⟩ <;> omega⟩
  · refine wLoop (fun m st => ∃ (q : Nat) (y3 y4 y5 y6 y10 y11 : AV) (T : List Ae.Obj), (m : Int) = vars.length - q ∧ q ≤ vars.length ∧ (∀ (i : Nat) (h : i < vars.length), i < q → varP vars i vars[i]) ∧ T[0]? = some (.box 52 [.imm false con.length (by8 con), .imm false vars.length VC, .int .i64 k, .int .i64 n, .imm false name.length (by8 name), .imm false arg.length (by8 arg), .imm false lit.length (by8 lit), .imm false kids.length (azE kids), .imm false arms.length (azA arms)]) ∧
      st = ⟨[.agg [.imm false con.length (by8 con), .imm false vars.length VC, .int .i64 k, .int .i64 n, .imm false name.length (by8 name), .imm false arg.length (by8 arg), .imm false lit.length (by8 lit), .imm false kids.length (azE kids), .imm false arms.length (azA arms)], .ptr (s.low.length + 1) 0 0, .bool false, y3, y4, y5, y6, .imm false vars.length VC, .int .i64 vars.length, .int .i64 q, y10, y11], frm s T⟩) vars.length ?_ ?_
    · exact ⟨0, _, _, _, _, _, _, _, by omega, by omega, fun i _ h => by omega, rfl, rfl⟩
    · rintro m st ⟨q, y3, y4, y5, y6, y10, y11, T, hm, hq, hok, hT, rfl⟩
      have hT':∀ o,(T ++ [o])[0]? = some (.box 52 [.imm false con.length (by8 con),.imm false vars.length VC,.int .i64 k,.int .i64 n,.imm false name.length (by8 name),.imm false arg.length (by8 arg),.imm false lit.length (by8 lit),.imm false kids.length (azE kids),.imm false arms.length (azA arms)]):=fun o=>by rw [List.getElem?_append_left (List.getElem?_eq_some_iff.1 hT).1]; exact hT
      by_cases hlt:q < vars.length
      · have hx := List.getElem_mem hlt
        obtain ⟨ha1,ha2⟩:=map_at (ev:=bsl) hlt
        rw [← hVC] at ha1 ha2
        have hov:=hvars _ hx
        have h1:=fun s=>implName hov s
        have hvq:varP vars q vars[q] ↔ nameB vars[q] = true∧(vars.take q).any (fun x=>decide (x = vars[q])) = false:=Iff.rfl
        obtain ⟨w,hw⟩:∃ w,vars[q] = w:=⟨_,rfl⟩
        have hno:¬ varP vars q vars[q]→¬ armP con vars:=fun h g=>by
          rcases g with ⟨_, g⟩ | ⟨_, _, _, g⟩
          · omega
          · exact h (g q hlt)
        have hcf:∀ (s:Store) (T:List Ae.Obj),callF (tab tbl) prim 126 [.imm false q (VC.take q),.fn 127 [] [.ptr (s.low.length + 1) T.length 0]] (frm s (T ++ [.box 23 [bsl vars[q]]])) = some (.bool ((vars.take q).any fun x=>decide (x = vars[q])),frm s (T ++ [.box 23 [bsl vars[q]]])):=by
          intro s T
          have e:AV.imm false q (VC.take q) = .imm false (vars.take q).length ((vars.take q).map bsl):=by rw [hVC,List.map_take,List.length_take_of_le (by omega)]
          rw [e]
          refine cf_ok (i:=179) rfl (fun _=>rfl) (fun _=>rfl) (ixC_ok (ev:=bsl) rfl (fun _=>rfl) (fun x hx=>?_) (by rw [List.length_take_of_le (by omega)]; omega))
          refine implSame hov (hvars x (List.mem_of_mem_take hx)) (by simp only [frm_len]; omega) ?_
          rw [frm_get _ _ _ (by simp only [frm_len]; omega),frm_get _ _ _ (by simp only [frm_len]; omega),frm_get_top,app_at]
          rfl
        unfold stv at *
        simp only [hw] at ha2 h1 hcf hvq hno hov
        have l3:=by8_len w
        have t3:=toB8 w
        simp only [bsl] at ha2 hcf
        generalize ((vars.take q).any fun x=>decide (x = w)) = bf at *
        repeat' (first|refine zw ?_|refine zn (fun hb=>?_) (fun hb=>?_)|refine zx ?_|refine zof (zA @ha1 (zA @ha2 (zA @hT (zA @hT' (zA @l3 (zA @t3 (zA @h1 (zA @hcf (@Int.sub_zero))))))))) ?_|exact zi|fail)
        all_goals first
          | exact ⟨_, rfl, rfl, iff_of_false Bool.false_ne_true (hno fun g => by rw [(hvq.1 g).1] at hb; cases hb)⟩
          | exact ⟨_, rfl, rfl, iff_of_false Bool.false_ne_true (hno fun g => by rw [(hvq.1 g).2] at hb; cases hb)⟩
          | (refine loopNor (m - 1) (by omega) ⟨q + 1, _, _, _, _, _, _, _, by omega, by omega, fun i hi hiq => ?_, hT' _, rfl⟩
             rcases Nat.lt_or_ge i q with h | h
             · exact hok i hi h
             · obtain rfl : i = q := by omega
               rw [hw]; exact hvq.2 ⟨by assumption,hb⟩)
      · obtain rfl : q = vars.length := by omega
        repeat' (first|refine zw ?_|refine zn (fun hb=>?_) (fun hb=>?_)|refine zx ?_|refine zo ?_|exact zi|fail)
        exact ⟨_,rfl,rfl,iff_of_true rfl (.inr ⟨by omega,by assumption,by omega,fun i h=>hok i h h⟩)⟩
  · exact ⟨_, rfl, rfl, iff_of_false Bool.false_ne_true fun h => by
      rcases h with ⟨h, _⟩ | ⟨_, h, _⟩
      · omega
      · rw [hb] at h; cases h⟩
mutual
def xcnt : Xp → Nat
  | .mk _ _ _ _ _ kids arms => 1 + cntE kids + cntA arms
def acnt : Arm → Nat
  | .mk _ _ body => xcnt body
def cntE : List Xp → Nat
  | [] => 0
  | t :: r => xcnt t + cntE r
def cntA : List Arm → Nat
  | [] => 0
  | t :: r => acnt t + cntA r
end
theorem cntE_eq : ∀ l : List Xp, cntE l = (l.map xcnt).sum
  | [] => by simp [cntE]
  | t :: r => by rw [cntE, cntE_eq r]; simp
theorem cntA_eq : ∀ l : List Arm, cntA l = (l.map acnt).sum
  | [] => by simp [cntA]
  | t :: r => by rw [cntA, cntA_eq r]; simp
mutual
def xgd (d : Nat) : Xp → Prop
  | .mk k n name arg lit kids arms => d ≤ 40 ∧ hdX k n name arg lit kids.length arms.length (fstB kids) ∧ gdE (d + 1) kids ∧ gdA (d + 1) arms
def agd (d : Nat) : Arm → Prop
  | .mk con vars body => armP con vars ∧ xgd d body
def gdE (d : Nat) : List Xp → Prop
  | [] => True
  | t :: r => xgd d t ∧ gdE d r
def gdA (d : Nat) : List Arm → Prop
  | [] => True
  | t :: r => agd d t ∧ gdA d r
end
theorem gdE_iff (d : Nat) : ∀ l : List Xp, gdE d l ↔ ∀ x ∈ l, xgd d x
  | [] => by simp [gdE]
  | t :: r => by simp [gdE, gdE_iff d r]
theorem gdA_iff (d : Nat) : ∀ l : List Arm, gdA d l ↔ ∀ x ∈ l, agd d x
  | [] => by simp [gdA]
  | t :: r => by simp [gdA, gdA_iff d r]
def XB (d : Nat) (e : Xp) : Prop := xgd d e ∧ xcnt e ≤ 300
noncomputable instance (d : Nat) (e : Xp) : Decidable (XB d e) := Classical.propDecidable _
theorem XB_mk {d : Nat} {k n : Int} {name arg lit : List Int} {kids : List Xp} {arms : List Arm} : XB d (.mk k n name arg lit kids arms) ↔
    d ≤ 40 ∧ hdX k n name arg lit kids.length arms.length (fstB kids) ∧ (∀ x ∈ kids, xgd (d + 1) x) ∧ (∀ a ∈ arms, agd (d + 1) a) ∧ 1 + (kids.map xcnt).sum + (arms.map acnt).sum ≤ 300 := by
  unfold XB
  rw [xgd,xcnt,gdE_iff,gdA_iff,cntE_eq,cntA_eq]
  constructor
  · rintro ⟨⟨h1, h2, h3, h4⟩, h5⟩; exact ⟨h1, h2, h3, h4, h5⟩
  · rintro ⟨h1, h2, h3, h4, h5⟩; exact ⟨⟨h1, h2, h3, h4⟩, h5⟩
theorem sumN_mem {α : Type} (f : α → Nat) {l : List α} {x : α} (h : x ∈ l) : f x ≤ (l.map f).sum := by
  induction l with
  | nil => cases h
  | cons a r ih =>
    simp only [List.map_cons,List.sum_cons]
    rcases List.mem_cons.1 h with rfl | h
    · omega
    · have := ih h; omega
theorem xcnt_pos : ∀ t : Xp, 1 ≤ xcnt t
  | .mk .. => by rw [xcnt]; omega
noncomputable def xms (bad : Int) (d : Nat) (t : Xp) : Int := if XB d t then xcnt t else bad
theorem xms_cases (bad : Int) (d : Nat) (t : Xp) : (XB d t ∧ xms bad d t = xcnt t ∧ xcnt t ≤ 300) ∨ (¬ XB d t ∧ xms bad d t = bad) := by
  unfold xms
  split
  · rename_i h; exact .inl ⟨h, rfl, h.2⟩
  · rename_i h; exact .inr ⟨h, rfl⟩
theorem xms_bad {bad : Int} {d : Nat} {t : Xp} (h : ¬ XB d t) : xms bad d t = bad := by unfold xms; rw [if_neg h]
theorem xms_ok {bad : Int} {d : Nat} {t : Xp} (h : XB d t) : xms bad d t = xcnt t := by unfold xms; rw [if_pos h]
theorem not_XB {d : Nat} {k n : Int} {name arg lit : List Int} {kids : List Xp} {arms : List Arm} {x : Xp} (hx : x ∈ kids) (h : ¬ XB (d + 1) x) : ¬ XB d (.mk k n name arg lit kids arms) := fun ht => by
  have:=XB_mk.1 ht
  exact h ⟨this.2.2.1 x hx,by have:=sumN_mem xcnt hx; omega⟩
theorem not_XBa {d : Nat} {k n : Int} {name arg lit : List Int} {kids : List Xp} {arms : List Arm} {a : Arm} (hx : a ∈ arms) (h : ¬ (armP a.con a.vars ∧ XB (d + 1) a.body)) : ¬ XB d (.mk k n name arg lit kids arms) := fun ht => by
  have ha:=XB_mk.1 ht
  have h1:=ha.2.2.2.1 a hx
  have h2:=sumN_mem acnt hx
  obtain ⟨con,vars,body⟩:=a
  rw [agd] at h1
  rw [acnt] at h2
  exact h ⟨h1.1,h1.2,by simp only [Arm.body]; omega⟩
theorem fm_rest {α : Type} {enc : α → List AV} {k : Nat} (h : ∀ x, (enc x).length = k) {l : List α} {i : Nat} (hi : i < l.length) : (l.flatMap enc).drop (i * k) = enc l[i] ++ ((l.flatMap enc).drop (i * k)).drop k := by
  have:=(fm_at h hi).2
  rw [← this,List.take_append_drop]
theorem implArm' {a : Arm} (ho : a.ok) (hs : a.sz ≤ 1000000000) (s : Store) : callF (tab tbl) prim 75 [.agg a.az] s = some (.bool (decide (armP a.con a.vars)), s) := by
  obtain ⟨con,vars,body⟩:=a
  simp only [Arm.ok] at ho
  simp only [Arm.sz] at hs
  have:=sizes_len List.length vars
  exact implArm ho.1 ho.2.1.2 (by omega) s
theorem Arm.body_sz {a : Arm} : a.body.sz ≤ a.sz := by
  obtain ⟨con,vars,body⟩:=a
  simp only [Arm.body,Arm.sz]
  omega
theorem Arm.body_az {a : Arm} {R : List AV} : (a.az ++ R).drop 2 = a.body.az ++ R := by
  obtain ⟨con,vars,body⟩:=a
  simp [Arm.az, Arm.body]
theorem agd_iff {d : Nat} {a : Arm} : agd d a ↔ armP a.con a.vars ∧ xgd d a.body := by
  obtain ⟨con,vars,body⟩:=a
  rw [agd]
  rfl
theorem acnt_eq {a : Arm} : acnt a = xcnt a.body := by
  obtain ⟨con,vars,body⟩:=a
  rw [acnt]
  rfl
set_option maxHeartbeats 16000000 in
theorem implCount : ∀ e : Xp, e.ok → e.sz ≤ 1000000000 → ∀ (d : Nat) (p : AV) (s : Store), d ≤ 1000 → ((∃ rest, p = .eptr (e.az ++ rest)) ∨ (∃ dd i t c0, p = .ptr dd i 1 ∧ dd ≤ s.low.length ∧ s.get dd i = some (.box t (c0 :: e.az)))) → callF (tab tbl) prim 34 [p, .int .i64 d] s = some (.int .i64 (xms 301 d e), s) := by
  refine Xp.ind fun k n name arg lit kids arms ih iha=>?_
  intro ho hsz d p s hd hp
  have hsz2:=hsz
  simp only [Xp.sz,szE_eq,szA_eq] at hsz2
  have hln:=sizes_len Xp.sz kids
  have hla:=sizes_len Arm.sz arms
  have ho2:=ho
  simp only [Xp.ok,okE_iff,okA_iff] at ho2
  obtain ⟨_,_,_,_,_,⟨_,hoe⟩,⟨_,hoa⟩⟩:=ho2
  have hgd0:∀ (hX:¬ (d ≤ 40∧hdX k n name arg lit kids.length arms.length (fstB kids))),¬ XB d (.mk k n name arg lit kids arms):=fun hX h=>hX ⟨(XB_mk.1 h).1,(XB_mk.1 h).2.1⟩
  have hT:d ≤ 40→hdX k n name arg lit kids.length arms.length (fstB kids)→(∀ x ∈ kids,xgd (d + 1) x)→(∀ a ∈ arms,agd (d + 1) a)→1 + (kids.map xcnt).sum + (arms.map acnt).sum ≤ 300→xms 301 d (.mk k n name arg lit kids arms) = ((1 + (kids.map xcnt).sum + (arms.map acnt).sum:Nat):Int):=fun h1 h2 h3 h4 h5=>by
    rw [xms_ok (XB_mk.2 ⟨h1,h2,h3,h4,h5⟩),xcnt,cntE_eq,cntA_eq]
  rcases hp with ⟨rest, rfl⟩ | ⟨dd, i, t, c0, rfl, hdd, hS⟩
  · have hH := fun s => implHead ho (by omega) (by omega) (by omega) s (.inl ⟨rest, rfl⟩)
    generalize hbX:decide (hdX k n name arg lit kids.length arms.length (fstB kids)) = bX at *
    simp only [Xp.az,azE_eq,azA_eq,bsl,List.cons_append,List.nil_append] at hH ⊢
    refine funY rfl (argsF rfl (frzs_cons frz_eptr (frzs_cons frz_int frzs_nil))) zt ?_
    repeat' (first|refine zw ?_|refine zn (fun hb=>?_) (fun hb=>?_)|refine zx ?_|refine zof @hH ?_|exact zi|fail)
    · exact isI (congrArg (AV.int .i64) (xms_bad (hgd0 fun h => by have := h.1; omega)).symm) rfl
    · have hX : hdX k n name arg lit kids.length arms.length (fstB kids) := of_decide_eq_true (hbX.trans hb)
      refine wLoop (fun m st=>∃ (q:Nat) (y4 y5 y6 y9 y10 y11 y12 y13 y14 y15:AV) (c:Nat),(m:Int) = kids.length - q∧q ≤ kids.length∧(∀ x ∈ kids.take q,xgd (d + 1) x)∧c = 1 + ((kids.take q).map xcnt).sum∧c ≤ 300 ∧
        st = ⟨[.eptr (.int .i64 k :: .int .i64 n :: .imm false name.length (by8 name) :: .imm false arg.length (by8 arg) :: .imm false lit.length (by8 lit) :: .imm false kids.length (kids.flatMap Xp.az) :: .imm false arms.length (arms.flatMap Arm.az) :: rest), .int .i64 d, .int .i64 0, .int .i64 c, y4, y5, y6, .int .i64 kids.length, .int .i64 q, y9, y10, y11, y12, y13, y14, y15], frm s []⟩) kids.length ?_ ?_
      · exact ⟨0, _, _, _, _, _, _, _, _, _, _, 1, by omega, by omega, by simp, by simp, by omega, rfl⟩
      · rintro m st ⟨q, y4, y5, y6, y9, y10, y11, y12, y13, y14, y15, c, hm, hq, hgd, hc, hc300, rfl⟩
        by_cases hlt:q < kids.length
        · have hx := List.getElem_mem hlt
          have hsx:=sizes_mem Xp.sz hx
          have hi:=fun s=>ih _ hx (hoe _ hx) (by omega) (d + 1) (.eptr ((kids.flatMap Xp.az).drop (q * 7))) s (by omega) (.inl ⟨_,by rw [← fm_rest Xp.len hlt]⟩)
          have hst:=sum_take xcnt kids hlt
          have hsl:=sum_le xcnt kids (q + 1)
          have hmc:=xms_cases 301 (d + 1) kids[q]
          have hcp:=xcnt_pos kids[q]
          rw [show ((d + 1:Nat):Int) = (d:Int) + 1 by omega] at hi
          have htk:=List.take_succ_eq_append_getElem hlt
          have hnt:=fun h:¬ XB (d + 1) kids[q]=>not_XB (d:=d) (k:=k) (n:=n) (name:=name) (arg:=arg) (lit:=lit) (arms:=arms) hx h
          generalize kids[q] = x at *
          repeat' (first|refine zw ?_|refine zn (fun hb=>?_) (fun hb=>?_)|refine zx ?_|refine zof @hi ?_|exact zi|fail)
          · refine isI (congrArg (AV.int .i64) (xms_bad fun h => ?_).symm) rfl
            have h4:=(XB_mk.1 h).2.2.2.2
            rcases hmc with ⟨_, h1, _⟩ | ⟨h1, _⟩
            · omega
            · exact hnt h1 h
          · rcases hmc with ⟨h0, h1, _⟩ | ⟨_, h1⟩
            · refine loopNor (m - 1) (by omega) ⟨q + 1, _, _, _, _, _, _, _, _, _, _, c + xcnt x, by omega, by omega, fun x hx => ?_, by omega, by omega, by rw [h1]; rfl⟩
              rw [htk,List.mem_append,List.mem_singleton] at hx
              rcases hx with hx | rfl
              · exact hgd x hx
              · exact h0.1
            · omega
        · obtain rfl : q = kids.length := by omega
          rw [List.take_length] at hgd hc
          repeat' (first|refine zw ?_|refine zn (fun hb=>?_) (fun hb=>?_)|refine zx ?_|refine zo ?_|exact zi|fail)
          refine wLoop (fun m st=>∃ (q:Nat) (y4 y5 y6 y7 y8 y9 y10 y13 y14 y15:AV) (c:Nat),(m:Int) = arms.length - q∧q ≤ arms.length∧(∀ x ∈ arms.take q,agd (d + 1) x)∧c = 1 + (kids.map xcnt).sum + ((arms.take q).map acnt).sum∧c ≤ 300 ∧
            st = ⟨[.eptr (.int .i64 k :: .int .i64 n :: .imm false name.length (by8 name) :: .imm false arg.length (by8 arg) :: .imm false lit.length (by8 lit) :: .imm false kids.length (kids.flatMap Xp.az) :: .imm false arms.length (arms.flatMap Arm.az) :: rest), .int .i64 d, .int .i64 0, .int .i64 c, y4, y5, y6, y7, y8, y9, y10, .int .i64 arms.length, .int .i64 q, y13, y14, y15], frm s []⟩) arms.length ?_ ?_
          · exact ⟨0, _, _, _, _, _, _, _, _, _, _, c, by omega, by omega, by simp, by simp; omega, by omega, rfl⟩
          · rintro m st ⟨q, y4, y5, y6, y7, y8, y9, y10, y13, y14, y15, c2, hm, hq, hgda, hc2, hc2300, rfl⟩
            by_cases hlt:q < arms.length
            · have hx := List.getElem_mem hlt
              have hsx:=sizes_mem Arm.sz hx
              have hbs:=Arm.body_sz (a:=arms[q])
              obtain ⟨ha1,ha2⟩:=fm_at Arm.len hlt
              have hi:=fun s=>iha _ hx (Arm.ok_body (hoa _ hx)) (by omega) (d + 1) (.eptr (((arms.flatMap Arm.az).drop (q * 9)).drop 2)) s (by omega) (.inl ⟨((arms.flatMap Arm.az).drop (q * 9)).drop 9,by rw [fm_rest Arm.len hlt,Arm.body_az,← fm_rest Arm.len hlt]⟩)
              have hA:=fun s=>implArm' (hoa _ hx) (by omega) s
              have hst:=sum_take acnt arms hlt
              have hsl:=sum_le acnt arms (q + 1)
              have hmc:=xms_cases 301 (d + 1) arms[q].body
              have hcp:=xcnt_pos arms[q].body
              have hac:=acnt_eq (a:=arms[q])
              rw [show ((d + 1:Nat):Int) = (d:Int) + 1 by omega] at hi
              have htk:=List.take_succ_eq_append_getElem hlt
              have hnt:=fun h:¬ (armP arms[q].con arms[q].vars∧XB (d + 1) arms[q].body)=>not_XBa (d:=d) (k:=k) (n:=n) (name:=name) (arg:=arg) (lit:=lit) (kids:=kids) hx h
              have hag:=agd_iff (d:=d + 1) (a:=arms[q])
              generalize arms[q] = x at *
              generalize hbA:decide (armP x.con x.vars) = bA at *
              repeat' (first|refine zw ?_|refine zn (fun hb=>?_) (fun hb=>?_)|refine zx ?_|refine zof (zA @ha1 (zA @ha2 (zA @hA (@hi)))) ?_|exact zi|fail)
              · refine isI (congrArg (AV.int .i64) (xms_bad fun h => ?_).symm) rfl
                have h4:=(XB_mk.1 h).2.2.2.2
                rcases hmc with ⟨_, h1, _⟩ | ⟨h1, _⟩
                · omega
                · exact hnt (fun h5 => h1 h5.2) h
              · rcases hmc with ⟨h0, h1, _⟩ | ⟨_, h1⟩
                · refine loopNor (m - 1) (by omega) ⟨q + 1, _, _, _, _, _, _, _, _, _, _, c2 + xcnt x.body, by omega, by omega, fun y hy => ?_, by omega, by omega, by rw [h1]; rfl⟩
                  rw [htk,List.mem_append,List.mem_singleton] at hy
                  rcases hy with hy | rfl
                  · exact hgda y hy
                  · exact hag.2 ⟨of_decide_eq_true (hbA.trans (by assumption)), h0.1⟩
                · omega
              · refine isI (congrArg (AV.int .i64) (xms_bad (hnt fun h => ?_)).symm) rfl
                rw [decide_eq_true h.1] at hbA
                rw [← hbA] at hb
                cases hb
            · obtain rfl : q = arms.length := by omega
              rw [List.take_length] at hgda hc2
              repeat' (first|refine zw ?_|refine zn (fun hb=>?_) (fun hb=>?_)|refine zx ?_|refine zo ?_|exact zi|fail)
              refine isI (congrArg (AV.int .i64) ?_) rfl
              rw [hT (by omega) hX hgd hgda (by omega)]
              omega
    · refine isI (congrArg (AV.int .i64) (xms_bad (hgd0 fun h => ?_)).symm) rfl
      rw [decide_eq_true h.2] at hbX
      rw [← hbX] at hb
      cases hb
  · have hH := implHead ho (by omega) (by omega) (by omega) (frm s []) (.inr ⟨dd, i, t, c0, rfl, by simp only [frm_len]; omega, by rw [frm_get _ _ _ hdd]; exact hS⟩)
    have hgt:∀ T,(frm s T).get dd i = s.get dd i:=fun T=>frm_get s T i hdd
    generalize hbX:decide (hdX k n name arg lit kids.length arms.length (fstB kids)) = bX at *
    simp only [Xp.az,azE_eq,azA_eq,bsl,List.cons_append,List.nil_append] at hH hS ⊢
    refine funY rfl (argsF rfl (frzs_cons frz_ptr (frzs_cons frz_int frzs_nil))) zt ?_
    repeat' (first|refine zw ?_|refine zn (fun hb=>?_) (fun hb=>?_)|refine zx ?_|refine zof (zA @hH (zA @hgt (@hS))) ?_|exact zi|fail)
    · exact isI (congrArg (AV.int .i64) (xms_bad (hgd0 fun h => by have := h.1; omega)).symm) rfl
    · have hX : hdX k n name arg lit kids.length arms.length (fstB kids) := of_decide_eq_true (hbX.trans hb)
      refine wLoop (fun m st=>∃ (q:Nat) (y4 y5 y6 y9 y10 y11 y12 y13 y14 y15:AV) (c:Nat),(m:Int) = kids.length - q∧q ≤ kids.length∧(∀ x ∈ kids.take q,xgd (d + 1) x)∧c = 1 + ((kids.take q).map xcnt).sum∧c ≤ 300 ∧
        st = ⟨[.ptr dd i 1, .int .i64 d, .int .i64 0, .int .i64 c, y4, y5, y6, .int .i64 kids.length, .int .i64 q, y9, y10, y11, y12, y13, y14, y15], frm s []⟩) kids.length ?_ ?_
      · exact ⟨0, _, _, _, _, _, _, _, _, _, _, 1, by omega, by omega, by simp, by simp, by omega, rfl⟩
      · rintro m st ⟨q, y4, y5, y6, y9, y10, y11, y12, y13, y14, y15, c, hm, hq, hgd, hc, hc300, rfl⟩
        by_cases hlt:q < kids.length
        · have hx := List.getElem_mem hlt
          have hsx:=sizes_mem Xp.sz hx
          have hi:=fun s=>ih _ hx (hoe _ hx) (by omega) (d + 1) (.eptr ((kids.flatMap Xp.az).drop (q * 7))) s (by omega) (.inl ⟨_,by rw [← fm_rest Xp.len hlt]⟩)
          have hst:=sum_take xcnt kids hlt
          have hsl:=sum_le xcnt kids (q + 1)
          have hmc:=xms_cases 301 (d + 1) kids[q]
          have hcp:=xcnt_pos kids[q]
          rw [show ((d + 1:Nat):Int) = (d:Int) + 1 by omega] at hi
          have htk:=List.take_succ_eq_append_getElem hlt
          have hnt:=fun h:¬ XB (d + 1) kids[q]=>not_XB (d:=d) (k:=k) (n:=n) (name:=name) (arg:=arg) (lit:=lit) (arms:=arms) hx h
          generalize kids[q] = x at *
          repeat' (first|refine zw ?_|refine zn (fun hb=>?_) (fun hb=>?_)|refine zx ?_|refine zof (zA @hi (zA @hgt (@hS))) ?_|exact zi|fail)
          · refine isI (congrArg (AV.int .i64) (xms_bad fun h => ?_).symm) rfl
            have h4:=(XB_mk.1 h).2.2.2.2
            rcases hmc with ⟨_, h1, _⟩ | ⟨h1, _⟩
            · omega
            · exact hnt h1 h
          · rcases hmc with ⟨h0, h1, _⟩ | ⟨_, h1⟩
            · refine loopNor (m - 1) (by omega) ⟨q + 1, _, _, _, _, _, _, _, _, _, _, c + xcnt x, by omega, by omega, fun x hx => ?_, by omega, by omega, by rw [h1]; rfl⟩
              rw [htk,List.mem_append,List.mem_singleton] at hx
              rcases hx with hx | rfl
              · exact hgd x hx
              · exact h0.1
            · omega
        · obtain rfl : q = kids.length := by omega
          rw [List.take_length] at hgd hc
          repeat' (first|refine zw ?_|refine zn (fun hb=>?_) (fun hb=>?_)|refine zx ?_|refine zof (zA @hgt (@hS)) ?_|exact zi|fail)
          refine wLoop (fun m st=>∃ (q:Nat) (y4 y5 y6 y7 y8 y9 y10 y13 y14 y15:AV) (c:Nat),(m:Int) = arms.length - q∧q ≤ arms.length∧(∀ x ∈ arms.take q,agd (d + 1) x)∧c = 1 + (kids.map xcnt).sum + ((arms.take q).map acnt).sum∧c ≤ 300 ∧
            st = ⟨[.ptr dd i 1, .int .i64 d, .int .i64 0, .int .i64 c, y4, y5, y6, y7, y8, y9, y10, .int .i64 arms.length, .int .i64 q, y13, y14, y15], frm s []⟩) arms.length ?_ ?_
          · exact ⟨0, _, _, _, _, _, _, _, _, _, _, c, by omega, by omega, by simp, by simp; omega, by omega, rfl⟩
          · rintro m st ⟨q, y4, y5, y6, y7, y8, y9, y10, y13, y14, y15, c2, hm, hq, hgda, hc2, hc2300, rfl⟩
            by_cases hlt:q < arms.length
            · have hx := List.getElem_mem hlt
              have hsx:=sizes_mem Arm.sz hx
              have hbs:=Arm.body_sz (a:=arms[q])
              obtain ⟨ha1,ha2⟩:=fm_at Arm.len hlt
              have hi:=fun s=>iha _ hx (Arm.ok_body (hoa _ hx)) (by omega) (d + 1) (.eptr (((arms.flatMap Arm.az).drop (q * 9)).drop 2)) s (by omega) (.inl ⟨((arms.flatMap Arm.az).drop (q * 9)).drop 9,by rw [fm_rest Arm.len hlt,Arm.body_az,← fm_rest Arm.len hlt]⟩)
              have hA:=fun s=>implArm' (hoa _ hx) (by omega) s
              have hst:=sum_take acnt arms hlt
              have hsl:=sum_le acnt arms (q + 1)
              have hmc:=xms_cases 301 (d + 1) arms[q].body
              have hcp:=xcnt_pos arms[q].body
              have hac:=acnt_eq (a:=arms[q])
              rw [show ((d + 1:Nat):Int) = (d:Int) + 1 by omega] at hi
              have htk:=List.take_succ_eq_append_getElem hlt
              have hnt:=fun h:¬ (armP arms[q].con arms[q].vars∧XB (d + 1) arms[q].body)=>not_XBa (d:=d) (k:=k) (n:=n) (name:=name) (arg:=arg) (lit:=lit) (kids:=kids) hx h
              have hag:=agd_iff (d:=d + 1) (a:=arms[q])
              generalize arms[q] = x at *
              generalize hbA:decide (armP x.con x.vars) = bA at *
              repeat' (first|refine zw ?_|refine zn (fun hb=>?_) (fun hb=>?_)|refine zx ?_|refine zof (zA @ha1 (zA @ha2 (zA @hA (zA @hi (zA @hgt (@hS)))))) ?_|exact zi|fail)
              · refine isI (congrArg (AV.int .i64) (xms_bad fun h => ?_).symm) rfl
                have h4:=(XB_mk.1 h).2.2.2.2
                rcases hmc with ⟨_, h1, _⟩ | ⟨h1, _⟩
                · omega
                · exact hnt (fun h5 => h1 h5.2) h
              · rcases hmc with ⟨h0, h1, _⟩ | ⟨_, h1⟩
                · refine loopNor (m - 1) (by omega) ⟨q + 1, _, _, _, _, _, _, _, _, _, _, c2 + xcnt x.body, by omega, by omega, fun y hy => ?_, by omega, by omega, by rw [h1]; rfl⟩
                  rw [htk,List.mem_append,List.mem_singleton] at hy
                  rcases hy with hy | rfl
                  · exact hgda y hy
                  · exact hag.2 ⟨of_decide_eq_true (hbA.trans (by assumption)), h0.1⟩
                · omega
              · refine isI (congrArg (AV.int .i64) (xms_bad (hnt fun h => ?_)).symm) rfl
                rw [decide_eq_true h.1] at hbA
                rw [← hbA] at hb
                cases hb
            · obtain rfl : q = arms.length := by omega
              rw [List.take_length] at hgda hc2
              repeat' (first|refine zw ?_|refine zn (fun hb=>?_) (fun hb=>?_)|refine zx ?_|refine zof (zA @hgt (@hS)) ?_|exact zi|fail)
              refine isI (congrArg (AV.int .i64) ?_) rfl
              rw [hT (by omega) hX hgd hgda (by omega)]
              omega
    · refine isI (congrArg (AV.int .i64) (xms_bad (hgd0 fun h => ?_)).symm) rfl
      rw [decide_eq_true h.2] at hbX
      rw [← hbX] at hb
      cases hb
def sayC (e : Xp) : Prop := ∀ (p : AV) (s : Store), PtrAt s p e.az → callF (tab tbl) prim 80 [p] s = some (.str (bst (xsay e)), s)
def armC (a : Arm) : Prop := ∀ (p : AV) (s : Store), PtrAt s p a.az → callF (tab tbl) prim 136 [p] s = some (.str (bst (asay a)), s)
abbrev zcs (k n : Int) (name arg lit : List Int) (kids : List Xp) (arms : List Arm) : List AV := [.int .i64 k, .int .i64 n, .imm false name.length (by8 name), .imm false arg.length (by8 arg), .imm false lit.length (by8 lit), .imm false kids.length (kids.flatMap Xp.az), .imm false arms.length (arms.flatMap Arm.az)]
theorem az_zcs {k n : Int} {name arg lit : List Int} {kids : List Xp} {arms : List Arm} : (Xp.mk k n name arg lit kids arms).az = zcs k n name arg lit kids arms := by
  simp only [Xp.az,azE_eq,azA_eq,bsl]
set_option maxHeartbeats 4000000 in
theorem sayKids {k n : Int} {name arg lit : List Int} {kids : List Xp} {arms : List Arm} {s : Store} {p : AV} (hp : PtrAt s p (zcs k n name arg lit kids arms)) (hal : kids.length ≤ 1000000000) (ih : ∀ x ∈ kids, sayC x)
    (y1 y3 y4 y5 y6 y7 y8 y9 y10 y13 y14 y15 y16 y17 y18 y19 y20 y21 y22 y23 y24 y25 y26 y27 : AV) :
    Wp (exS (callF (tab tbl) prim) (.loop (loopAt c80 0)) ⟨[p, y1, .imm true 0 [], y3, y4, y5, y6, y7, y8, y9, y10, .int .i64 kids.length, .int .i64 0, y13, y14, y15, y16, y17, y18, y19, y20, y21, y22, y23, y24, y25, y26, y27], frm s []⟩)
      (fun e st => e = .exit 1 ∧ ∃ v2 y3 y12 y13 T, SlAt (s.low.length + 1) T 9 1 v2 kids.length ((kids.map xsay).map stv) ∧ st = ⟨[p, y1, v2, y3, y4, y5, y6, y7, y8, y9, y10, .int .i64 kids.length, y12, y13, y14, y15, y16, y17, y18, y19, y20, y21, y22, y23, y24, y25, y26, y27], frm s T⟩) := by
  simp only [loopAt,loops,c80,List.nil_append,List.append_nil,List.getD_cons_zero,List.cons_append]
  refine wLoop (fun m st=>∃ (q:Nat) (v2 y3 y13:AV) (T:List Ae.Obj),(m:Int) = kids.length - q∧q ≤ kids.length∧SlAt (s.low.length + 1) T 9 1 v2 q (((kids.take q).map xsay).map stv) ∧
    st = ⟨[p, y1, v2, y3, y4, y5, y6, y7, y8, y9, y10, .int .i64 kids.length, .int .i64 q, y13, y14, y15, y16, y17, y18, y19, y20, y21, y22, y23, y24, y25, y26, y27], frm s T⟩) kids.length ?_ ?_
  · exact ⟨0, _, _, _, [], by omega, by omega, SlAt.nil _ _ _ _, rfl⟩
  · rintro m st ⟨q, v2, y3, y13, T, hm, hq, hS, rfl⟩
    by_cases hlt:q < kids.length
    · have hi := fun S => ih _ (List.getElem_mem hlt) (.eptr ((kids.flatMap Xp.az).drop (q * 7))) S (by rw [fm_rest Xp.len hlt]; exact ptrAt_e _ _)
      have htk:=List.take_succ_eq_append_getElem hlt
      generalize kids[q] = x at *
      have hA:=slAt_app (s:=s) (bytes:=16) (y:=.imm true 1 [stv (xsay x)]) (ys:=[stv (xsay x)]) (m:=1) hS rfl (by omega) rfl rfl rfl (by omega)
      repeat' (first|refine zw ?_|refine zn (fun hb=>?_) (fun hb=>?_)|refine zx ?_|refine zp hp ?_|(refine zka (hA) ?_; rintro _ _ ⟨T2, rfl, hS2, hO2, hC2⟩)|refine zof @hi ?_|exact zi|fail)
      refine loopNor (m - 1) (by omega) ⟨q + 1,_,_,_,T2,by omega,by omega,?_,rfl⟩
      rw [htk]
      simpa using hS2
    · obtain rfl : q = kids.length := by omega
      repeat' (first|refine zw ?_|refine zn (fun hb=>?_) (fun hb=>?_)|refine zx ?_|refine zo ?_|exact zi|fail)
      rw [List.take_length] at hS
      exact ⟨rfl,_,_,_,_,T,hS,rfl⟩
set_option maxHeartbeats 4000000 in
theorem sayArms {arms : List Arm} {K : Nat} {ks : List (List Int)} {s : Store} {v2 v4 : AV} {T : List Ae.Obj} {hw : List Int} (hal : arms.length ≤ 1000000000) (hK : K ≤ 1000000000) (ih : ∀ x ∈ arms, armC x) (hS : SlAt (s.low.length + 1) T 9 1 v2 K (ks.map stv)) (y0 y1 y3 y5 y6 y7 y8 y9 y10 y11 y12 y13 y14 y15 y16 y17 y18 y19 y20 y21 y22 y26 y27 : AV)
    (j : Nat) (hj : T[j]? = some (.arr 9 1 [stv hw] 0 0)) (hv : idx v2 ≠ some j) :
    Wp (exS (callF (tab tbl) prim) (.loop (loopAt c80 1)) ⟨[y0, y1, v2, y3, v4, y5, y6, y7, y8, y9, y10, y11, y12, y13, y14, y15, y16, y17, y18, y19, y20, y21, y22, .imm false arms.length (arms.flatMap Arm.az), .int .i64 arms.length, .int .i64 0, y26, y27], frm s T⟩)
      (fun e st => e = .exit 4 ∧ ∃ v2 y5 y25 y26 T, SlAt (s.low.length + 1) T 9 1 v2 (K + arms.length) ((ks ++ arms.map asay).map stv) ∧ T[j]? = some (.arr 9 1 [stv hw] 0 0) ∧ idx v2 ≠ some j ∧
        st = ⟨[y0, y1, v2, y3, v4, y5, y6, y7, y8, y9, y10, y11, y12, y13, y14, y15, y16, y17, y18, y19, y20, y21, y22, .imm false arms.length (arms.flatMap Arm.az), .int .i64 arms.length, y25, y26, y27], frm s T⟩) := by
  simp only [loopAt,loops,c80,List.nil_append,List.append_nil,List.getD_cons_zero,List.getD_cons_succ,List.cons_append]
  refine wLoop (fun m st=>∃ (q:Nat) (v2 y5 y26:AV) (T:List Ae.Obj),(m:Int) = arms.length - q∧q ≤ arms.length∧SlAt (s.low.length + 1) T 9 1 v2 (K + q) ((ks ++ (arms.take q).map asay).map stv)∧T[j]? = some (.arr 9 1 [stv hw] 0 0)∧idx v2 ≠ some j ∧
    st = ⟨[y0, y1, v2, y3, v4, y5, y6, y7, y8, y9, y10, y11, y12, y13, y14, y15, y16, y17, y18, y19, y20, y21, y22, .imm false arms.length (arms.flatMap Arm.az), .int .i64 arms.length, .int .i64 q, y26, y27], frm s T⟩) arms.length ?_ ?_
  · exact ⟨0, _, _, _, T, by omega, by omega, by simpa using hS, hj, hv, rfl⟩
  · rintro m st ⟨q, v2, y5, y26, T, hm, hq, hS, hj, hv, rfl⟩
    by_cases hlt:q < arms.length
    · obtain ⟨ha1, ha2⟩ := fm_at Arm.len hlt
      have hi:=ih _ (List.getElem_mem hlt)
      have htk:=List.take_succ_eq_append_getElem hlt
      generalize arms[q] = x at *
      obtain ⟨con,vars,⟨k',n',nm',ag',li',ks',as'⟩⟩:=x
      obtain ⟨C,hC⟩:∃ C,C = (Arm.mk con vars (.mk k' n' nm' ag' li' ks' as')).az:=⟨_,rfl⟩
      have hi2:=hi (.ptr (s.low.length + 1) T.length 0) (frm s (T ++ [.box 52 C])) (ptrAt_b (rest:=[]) (app_at _ _) (by rw [← hC]; simp))
      rw [← hC] at ha2
      simp only [Arm.az,Xp.az,azE_eq,azA_eq] at hC
      unfold bsl at hC
      subst hC
      have hjl:=(List.getElem?_eq_some_iff.1 hj).1
      have hA:=slAt_app (s:=s) (bytes:=16) (y:=.imm true 1 [stv (asay (.mk con vars (.mk k' n' nm' ag' li' ks' as')))]) (ys:=[stv (asay (.mk con vars (.mk k' n' nm' ag' li' ks' as')))]) (m:=1) (hS.snoc [.box 52 [.imm false con.length (by8 con),.imm false vars.length (vars.map fun l=>.imm false l.length (by8 l)),.int .i64 k',.int .i64 n',.imm false nm'.length (by8 nm'),.imm false ag'.length (by8 ag'),.imm false li'.length (by8 li'),.imm false ks'.length (ks'.flatMap Xp.az),.imm false as'.length (as'.flatMap Arm.az)]]) rfl (by omega) rfl rfl rfl (by omega)
      repeat' (first|refine zw ?_|refine zn (fun hb=>?_) (fun hb=>?_)|refine zx ?_|(refine zka (hA) ?_; rintro _ _ ⟨T2, rfl, hS2, hO2, hC2⟩)|refine zof (zA @ha1 (zA @ha2 (@hi2))) ?_|exact zi|fail)
      refine loopNor (m - 1) (by omega) ⟨q + 1,_,_,_,T2,by omega,by omega,?_,?_,?_,rfl⟩
      · rw [htk, ← Nat.add_assoc]
        simpa using hS2
      · exact hC2.1 j _ (by rw [List.getElem?_append_left hjl]; exact hj) hv
      · intro h
        rcases hC2.2 j h with h | h
        · exact hv h
        · rw [List.length_append] at h; omega
    · obtain rfl : q = arms.length := by omega
      repeat' (first|refine zw ?_|refine zn (fun hb=>?_) (fun hb=>?_)|refine zx ?_|refine zo ?_|exact zi|fail)
      rw [List.take_length] at hS
      exact ⟨rfl,_,_,_,_,T,hS,hj,hv,rfl⟩
theorem slChg {D e sz n : Nat} {T T' : List Ae.Obj} {u v v' : AV} {cs : List AV} (h : SlAt D T e sz u n cs) (hc : ChgV v v' T T') (hne : ∀ j, idx u = some j → idx v ≠ some j) : SlAt D T' e sz u n cs := by
  obtain ⟨h0,h | ⟨k,off,ver,all,rfl,h2,h3,h4⟩⟩:=h
  · exact ⟨h0, .inl h⟩
  · exact ⟨h0, .inr ⟨k, off, ver, all, rfl, hc.1 k _ h2 (hne k rfl), h3, h4⟩⟩
theorem slIdx {D e sz n : Nat} {T : List Ae.Obj} {u : AV} {cs : List AV} (h : SlAt D T e sz u n cs) : ∀ j, idx u = some j → j < T.length := fun j hj => by
  obtain ⟨h0,⟨rfl,_⟩ | ⟨k,off,ver,all,rfl,h2,h3,h4⟩⟩:=h
  · cases hj
  · cases hj; exact (List.getElem?_eq_some_iff.1 h2).1
theorem srcSl {D e sz n : Nat} {s : Store} {T : List Ae.Obj} {v : AV} {cs : List AV} (h : SlAt D T e sz v n cs) (hD : D = s.low.length + 1) : srcOf (frm s T) v = some (n, cs) := by
  have:=slAt_elems (s:=s) h hD
  obtain ⟨h0,⟨rfl,_⟩ | ⟨k,off,ver,all,rfl,h2,h3,h4⟩⟩:=h <;> exact this
theorem pt_at {T : List Ae.Obj} {o o' : Ae.Obj} {kk : Nat} (h : T[kk]? = some o') : (T ++ [o])[kk]? = some o' := by
  rw [List.getElem?_append_left (List.getElem?_eq_some_iff.1 h).1]; exact h
theorem appS {s : Store} {T : List Ae.Obj} {u v : AV} {n m : Nat} {a b : List (List Int)} (hu : SlAt (s.low.length + 1) T 9 1 u n (a.map stv)) (hv : SlAt (s.low.length + 1) T 9 1 v m (b.map stv)) (hl : n + m ≤ 4000000000) :
    ∃ v' S', appV (frm s T) 9 1 16 u v = some (v', S') ∧ ∃ T', S' = frm s T' ∧ SlAt (s.low.length + 1) T' 9 1 v' (n + m) ((a ++ b).map stv) ∧ Oth 9 T T' ∧ ChgV u v' T T' := by
  rw [List.map_append]
  exact slAt_app hu rfl (by omega) (srcSl hv rfl) (stv_ok b) hv.1 (by omega)
set_option maxHeartbeats 4000000 in
theorem implArmSay {a : Arm} (hvl : a.vars.length ≤ 100000000) (hb : sayC a.body) (hl : (asay a).length ≤ 1000000000) : armC a := by
  intro p s hp
  obtain ⟨con,vars,body⟩:=a
  rw [asay] at hl ⊢
  simp only [Arm.con,Arm.vars,Arm.body] at hl hb hvl ⊢
  simp only [Arm.az,bsl] at hp
  have hB:=fun T=>hb (padd p 2) (frm s T) ((PtrAt.sub (a:=[AV.imm false con.length (by8 con),AV.imm false vars.length (vars.map fun l=>.imm false l.length (by8 l))]) (n:=2) hp rfl).frm T)
  have tc:=toB8 con
  have lc:=by8_len con
  obtain ⟨w,hw⟩:∃ w,(if con.length = 0 then [95] else con) = w:=⟨_,rfl⟩
  rw [hw] at hl ⊢
  have key:Wp (exS (callF (tab tbl) prim) (.loop (loopAt c136 0)) ⟨[p,.str ⟨#[]⟩,.slr (s.low.length + 1) 0 0 1 0 false,.undef,.bool (decide (con.length = 0)),.imm false vars.length (vars.map fun l=>.imm false l.length (by8 l)),.int .i64 vars.length,.int .i64 0,.undef],frm s [.arr 9 1 [stv w] 0 0]⟩)
      (fun e st => e = .exit 0 ∧ ∃ v2 y3 y7 y8 T, SlAt (s.low.length + 1) T 9 1 v2 (vars.length + 1) ((w :: vars).map stv) ∧ st = ⟨[p, .str ⟨#[]⟩, v2, y3, .bool (decide (con.length = 0)), .imm false vars.length (vars.map fun l => .imm false l.length (by8 l)), .int .i64 vars.length, y7, y8], frm s T⟩) := by
    simp only [loopAt,loops,c136,List.nil_append,List.append_nil,List.getD_cons_zero,List.cons_append]
    refine wLoop (fun m st=>∃ (q:Nat) (v2 y3 y8:AV) (T:List Ae.Obj),(m:Int) = vars.length - q∧q ≤ vars.length∧SlAt (s.low.length + 1) T 9 1 v2 (q + 1) ((w :: vars.take q).map stv) ∧
      st = ⟨[p, .str ⟨#[]⟩, v2, y3, .bool (decide (con.length = 0)), .imm false vars.length (vars.map fun l => .imm false l.length (by8 l)), .int .i64 vars.length, .int .i64 q, y8], frm s T⟩) vars.length ?_ ?_
    · exact ⟨0, _, _, _, _, by omega, by omega, slAt_one rfl, rfl⟩
    · rintro m st ⟨q, v2, y3, y8, T, hm, hq, hS, rfl⟩
      by_cases hlt:q < vars.length
      · have ha1 := map_at (ev := fun l : List Int => AV.imm false l.length (by8 l)) hlt
        have ha2:=ha1.2
        have ha3:=fm_one (f:=fun l:List Int=>AV.imm false l.length (by8 l)) hlt
        have htk:=List.take_succ_eq_append_getElem hlt
        generalize vars[q] = x at *
        have tx:=toB8 x
        have lx:=by8_len x
        have hA:=slAt_app (s:=s) (bytes:=16) (y:=.imm true 1 [stv x]) (ys:=[stv x]) (m:=1) hS rfl (by omega) rfl rfl rfl (by omega)
        repeat' (first|refine zw ?_|refine zn (fun hb=>?_) (fun hb=>?_)|refine zx ?_|(refine zka (hA) ?_; rintro _ _ ⟨T2, rfl, hS2, hO2, hC2⟩)|refine zof (zA @ha1.1 (zA @ha2 (zA @ha3 (zA @tx (@lx))))) ?_|exact zi|fail)
        refine loopNor (m - 1) (by omega) ⟨q + 1,_,_,_,T2,by omega,by omega,?_,rfl⟩
        rw [htk]
        simpa using hS2
      · obtain rfl : q = vars.length := by omega
        repeat' (first|refine zw ?_|refine zn (fun hb=>?_) (fun hb=>?_)|refine zx ?_|refine zo ?_|exact zi|fail)
        rw [List.take_length] at hS
        exact ⟨rfl,_,_,_,_,T,hS,rfl⟩
  have fin:∀ (v2 y3 y7 y8:AV) (T:List Ae.Obj),SlAt (s.low.length + 1) T 9 1 v2 (vars.length + 1) ((w :: vars).map stv)→∃ v' S',appV (frm s T) 9 1 16 v2 (.imm true 1 [stv (xsay body)]) = some (v',S')∧∃ T',S' = frm s T'∧∃ v3 S3,callF (tab tbl) prim 78 [v'] (frm s T') = some (v3,S3)∧v3 = .str (bst (brk (w :: (vars ++ [xsay body]))))∧∃ T3,S3 = frm s T3:=by
    intro v2 y3 y7 y8 T hS
    obtain ⟨v',S',e,T',rfl,hS2,_,_⟩:=slAt_app (s:=s) (bytes:=16) (y:=.imm true 1 [stv (xsay body)]) (ys:=[stv (xsay body)]) (m:=1) hS rfl (by omega) rfl rfl rfl (by omega)
    rw [show (w :: vars).map stv ++ [stv (xsay body)] = (w :: (vars ++ [xsay body])).map stv by simp] at hS2
    obtain ⟨v3,S3,e3,h3,T3,h4,_⟩:=brkCall hS2 (by simp only [List.length_cons,List.length_append,List.length_nil]; omega) hl
    exact ⟨_,_,e,T',rfl,v3,S3,e3,h3,T3,h4⟩
  by_cases h0:con.length = 0
  · rw [if_pos h0] at hw
    rw [decide_eq_true h0] at key
    subst hw
    refine funY rfl (argsF rfl (frzs_cons (hp.frz s) frzs_nil)) zt ?_
    repeat' (first|refine zw ?_|refine zn (fun hb=>?_) (fun hb=>?_)|refine zx ?_|refine zp hp ?_|refine zof (zA @tc (@lc)) ?_|exact zi|fail)
    refine Wp.mono key ?_
    rintro e st ⟨rfl, v2, y3, y7, y8, T, hS, rfl⟩
    have hF:=fin v2 y3 y7 y8 T hS
    repeat' (first|refine zw ?_|refine zn (fun hb=>?_) (fun hb=>?_)|refine zx ?_|refine zp hp ?_|(refine zka (hF) ?_; rintro _ _ ⟨T', rfl, hcall⟩)|(refine zk (hcall) ?_; rintro _ _ ⟨rfl, T3, rfl⟩)|refine zof @hB ?_|exact zi|fail)
  · rw [if_neg h0] at hw
    rw [decide_eq_false h0] at key
    subst hw
    refine funY rfl (argsF rfl (frzs_cons (hp.frz s) frzs_nil)) zt ?_
    repeat' (first|refine zw ?_|refine zn (fun hb=>?_) (fun hb=>?_)|refine zx ?_|refine zp hp ?_|refine zof (zA @tc (@lc)) ?_|exact zi|fail)
    refine Wp.mono key ?_
    rintro e st ⟨rfl, v2, y3, y7, y8, T, hS, rfl⟩
    have hF:=fin v2 y3 y7 y8 T hS
    repeat' (first|refine zw ?_|refine zn (fun hb=>?_) (fun hb=>?_)|refine zx ?_|refine zp hp ?_|(refine zka (hF) ?_; rintro _ _ ⟨T', rfl, hcall⟩)|(refine zk (hcall) ?_; rintro _ _ ⟨rfl, T3, rfl⟩)|refine zof @hB ?_|exact zi|fail)
def SlI (D : Nat) (T : List Ae.Obj) (v : AV) (n : Nat) (ps : List (List Int)) : Prop := SlAt D T 9 1 v n (ps.map stv) ∨ (v = .imm true n (ps.map stv) ∧ ps.length = n)
theorem slI_app {D n : Nat} {s : Store} {T : List Ae.Obj} {v : AV} {ps : List (List Int)} (x : List Int) (h : SlI D T v n ps) (hD : D = s.low.length + 1) (hb : n ≤ 1000000000) :
    ∃ v' S', appV (frm s T) 9 1 16 v (.imm true 1 [.str (bst x)]) = some (v', S') ∧ ∃ T', S' = frm s T' ∧ SlI D T' v' (n + 1) (ps ++ [x]) ∧ ChgV v v' T T' := by
  rcases h with h | ⟨rfl, hl⟩
  · obtain ⟨v', S', e, T', h1, h2, _, h3⟩ := slAt_app (s := s) (bytes := 16) (y := .imm true 1 [stv x]) (ys := [stv x]) (m := 1) h hD (by omega) rfl rfl rfl (by omega)
    exact ⟨v',S',e,T',h1,.inl (by simpa using h2),h3⟩
  · have hc : cellsOk (s.low.length + 1 + 1) [stv x] = true := rfl
    have hl2:(ps.map stv).length = n * 1:=by rw [List.length_map]; omega
    have hc2:cellsOk (s.low.length + 1 + 1) (ps.map stv ++ [stv x]) = true∧(ps.map stv ++ [stv x]).length = (n + 1) * 1:=⟨cellsOk_append.2 ⟨cellsOk_mono (Nat.zero_le _) (stv_ok ps),rfl⟩,by simp; omega⟩
    refine ⟨.slr D T.length 0 (n + 1) 0 false,frm s (T ++ [.arr 9 1 (ps.map stv ++ [stv x]) 0 0]),?_,_,rfl,.inl ⟨by simp; omega,.inr ⟨T.length,0,0,_,rfl,app_at _ _,?_,by simp; omega⟩⟩,⟨fun j o h _=>pt_at h,fun j h=>.inr (by simp [idx] at h; omega)⟩⟩
    · subst hD
      rw [show ([AV.str (bst x)]:List AV) = [stv x] from rfl]
      simp only [appV,srcOf,elems,Option.bind_some,appTo,frm_len]
      rw [if_pos ⟨by omega,hc,hl2,rfl⟩,if_neg (by omega),newArr,frm_len,if_pos hc2,frm_top,frm_new]
    · rw [List.drop_zero, List.map_append]
      exact List.take_of_length_le (by simp; omega)
def Ex (T T' : List Ae.Obj) : Prop := ∀ (j : Nat) o, T[j]? = some o → T'[j]? = some o
def Ge (v : AV) (n : Nat) : Prop := ∀ j, idx v = some j → n ≤ j
theorem Ex.refl (T : List Ae.Obj) : Ex T T := fun _ _ h => h
theorem Ex.snoc (T : List Ae.Obj) (o : Ae.Obj) : Ex T (T ++ [o]) := fun _ _ h => pt_at h
theorem Ex.trans {A B C : List Ae.Obj} (h : Ex A B) (k : Ex B C) : Ex A C := fun j o e => k j o (h j o e)
theorem Ex.len {A B : List Ae.Obj} (h : Ex A B) : A.length ≤ B.length := by
  rcases Nat.lt_or_ge B.length A.length with hl | hl
  · have := h B.length A[B.length] (List.getElem?_eq_getElem hl)
    rw [List.getElem?_eq_none (Nat.le_refl _)] at this
    cases this
  · exact hl
theorem ex_chg {T A B : List Ae.Obj} {v v' : AV} (h : Ex T A) (hg : Ge v T.length) (hc : ChgV v v' A B) : Ex T B ∧ Ge v' T.length := by
  refine ⟨fun j o e=>hc.1 j o (h j o e) fun hj=>?_,fun j hj=>?_⟩
  · have h1 := hg j hj
    have h2:=(List.getElem?_eq_some_iff.1 e).1
    omega
  · rcases hc.2 j hj with h1 | h1
    · exact hg j h1
    · have := h.len; omega
theorem SlI.ex {D n : Nat} {T T' : List Ae.Obj} {v : AV} {ps : List (List Int)} (h : SlI D T v n ps) (he : Ex T T') : SlI D T' v n ps := by
  rcases h with ⟨h0, h | ⟨k, off, ver, all, h1, h2, h3, h4⟩⟩ | h
  · exact .inl ⟨h0, .inl h⟩
  · exact .inl ⟨h0, .inr ⟨k, off, ver, all, h1, he _ _ h2, h3, h4⟩⟩
  · exact .inr h
theorem brkCallI {s : Store} {T0 T : List Ae.Obj} {v : AV} {n : Nat} {ps : List (List Int)} (h : SlI (s.low.length + 1) T v n ps) (hn : ps.length ≤ 1000000000) (hl : (brk ps).length ≤ 1000000000) (hx : Ex T0 T) (hg : Ge v T0.length) :
    ∃ v' s', callF (tab tbl) prim 78 [v] (frm s T) = some (v', s') ∧ v' = .str (bst (brk ps)) ∧ ∃ T', s' = frm s T' ∧ Ex T0 T' := by
  rcases h with h | ⟨rfl, rfl⟩
  · have h3 : n = ps.length := by have := h.1; rw [List.length_map] at this; omega
    subst h3
    obtain ⟨h0,⟨rfl,h1⟩ | ⟨k,off,ver,all,rfl,h2,h3,h4⟩⟩:=id h
    · have : ps = [] := List.length_eq_zero_iff.1 h1
      subst this
      exact ⟨_,_,implBracketed (ps:=[]) hn hl true _,rfl,T,rfl,hx⟩
    · have h5 : frz (frm s T) (.slr (s.low.length + 1) k off ps.length ver false) = some (.imm false ps.length (ps.map stv), frm s (T.set k (.arr 9 1 all ver (max 0 (off + ps.length * 1))))) := by
        rw [← frm_set_top]
        exact frz_slr (frz1_slr (by rw [frm_get_top]; exact h2) h3 (stv_low ps) h4)
      refine ⟨_,_,callF_frz (fc:=c78) rfl rfl (frzs_cons h5 frzs_nil) (frzs_cons (frz_imm (f:=false)) frzs_nil) (implBracketed hn hl false _),rfl,_,rfl,fun j o e=>?_⟩
      have h6:=hg k rfl
      have h7:=(List.getElem?_eq_some_iff.1 e).1
      rw [List.getElem?_set_ne (by omega)]
      exact hx j o e
  · exact ⟨_, _, implBracketed hn hl true _, rfl, T, rfl, hx⟩
theorem copyOk {D i : Nat} {s : Store} {T : List Ae.Obj} {a x : AV} (hD : D = s.low.length + 1) (h : T[i]? = some (.box 111 [a, x])) (ha : a = .nilp ∨ a = .ptr D i 0) :
    callF (tab tbl) prim 132 [.ptr D i 0] (frm s T) = some (.tup [], frm s (T.set i (.box 111 [.ptr D i 0, x]))) := by
  subst hD
  refine callF_prim rfl ?_
  show (match (frm s T).get (s.low.length + 1) i with
    | some (.box t [.nilp, x]) => if t = 111 then some (AV.tup [], (frm s T).set (s.low.length + 1) i (.box t [.ptr (s.low.length + 1) i 0, x])) else none
    | some (.box _ [.ptr d' i' 0, _]) => if d' = s.low.length + 1 ∧ i' = i then some (AV.tup [], frm s T) else none
    | _ => none) = _
  rw [frm_get_top,h]
  rcases ha with rfl | rfl
  · simp only [frm_set_top, if_true]
  · simp only [and_self, if_true]
    have:T.set i (.box 111 [.ptr (s.low.length + 1) i 0,x]) = T:=by
      apply List.ext_getElem?
      intro k
      by_cases hk:i = k
      · subst hk
        rw [List.getElem?_set_self (List.getElem?_eq_some_iff.1 h).1,h]
      · rw [List.getElem?_set_ne hk]
    rw [this]
theorem bufCell {e : Nat} {bv : List Int → AV} {bs : List Int → Store} (h : Buf e bv bs) (x : List Int) : (bv x).cells = [bv x] ∧ (bv x).isCell = true ∧ ∀ d, (bv x).lowB (d + 1) = true := by
  obtain ⟨s,v,l,hB,_,hp⟩:=h
  rw [(hp x).1]
  rcases hB with ⟨rfl, rfl⟩ | ⟨i, rfl, hg⟩
  · simp only [put0]
    split
    · exact ⟨rfl, rfl, fun d => rfl⟩
    · exact ⟨rfl, rfl, fun d => by simp [AV.lowB]⟩
  · exact ⟨rfl, rfl, fun d => by simp [put0, AV.lowB]⟩
theorem storeP {call : CallT} {ls vs : List AV} {s : Store} {T : List Ae.Obj} {D i off t : Nat} {cs : List AV} {v : AV} {pa xa : Opd} (hD : D = s.low.length + 1) (hp : rd ls vs pa = .ptr D i off) (hx : rd ls vs xa = v) (hg : T[i]? = some (.box t cs))
    (hc : v.cells = [v] ∧ v.isCell = true ∧ ∀ d, v.lowB (d + 1) = true) (ho : off + 1 ≤ cs.length) : evOne call ⟨.store 1 pa xa, none, none⟩ ls vs (frm s T) = some (.undef, frm s (T.set i (.box t (cs.take off ++ [v] ++ cs.drop (off + 1))))) := by
  subst hD
  have hok:cellsOk (s.low.length + 1 + 1) [v] = true:=by
    simp only [cellsOk,List.all_cons,List.all_nil,hc.2.1,hc.2.2,Bool.and_self]
  simp only [evOne,evAct,evOp,hp,hx,storeV,hc.1,frm_get_top,hg]
  rw [if_pos ⟨hok,rfl,ho⟩,frm_set_top]
  rfl
theorem writeOk {D i : Nat} {bv : List Int → AV} {bs : List Int → Store} {x y : List Int} {T : List Ae.Obj} {a : AV} (hb : Buf 5 bv bs) (hD : D = (bs []).low.length + 1) (h : T[i]? = some (.box 111 [a, bv x])) (ha : a = .nilp ∨ a = .ptr D i 0)
    (hy : ∀ c ∈ y, 0 ≤ c ∧ c < 256) (hl : x.length + y.length ≤ 10000000000) :
    ∃ v' s', callF (tab tbl) prim 79 [.ptr D i 0, .str (bst y)] (frm (bs x) T) = some (v', s') ∧ s' = frm (bs (x ++ y)) (T.set i (.box 111 [.ptr D i 0, bv (x ++ y)])) := by
  have hlow:=fun x=>hb.low x
  have hDx:D = (bs x).low.length + 1:=by rw [hlow x]; exact hD
  have hDy:D = (bs (x ++ y)).low.length + 1:=by rw [hlow (x ++ y)]; exact hD
  have hi:=(List.getElem?_eq_some_iff.1 h).1
  have hcp:=copyOk (s:=bs x) hDx h ha
  have hA:=fun T=>(hb.frm T).app (x:=x) (ys:=y) (src:=.str (bst y)) (srcB hy) (by omega)
  have hsz:=bst_size y
  have hss:∀ o:Ae.Obj,(T.set i o)[i]? = some o:=fun o=>List.getElem?_set_self hi
  refine funZ rfl rfl zt ?_
  repeat' (first|refine zw ?_|refine zn (fun hb=>?_) (fun hb=>?_)|refine zx ?_|refine zof (zA @hcp (zA @hA (zA @hsz (@hss)))) ?_|exact zi|fail)
  refine oOp (storeP hDy (by rfl) (by rfl) (hss _) (bufCell hb (x ++ y)) (by simp)) rfl ?_
  with_reducible apply nV
  dsimp only [List.cons_append, List.nil_append, putV, List.set]
  rw [List.set_set]
  repeat' (first|refine zw ?_|refine zn (fun hb=>?_) (fun hb=>?_)|refine zx ?_|refine zof @hsz ?_|exact zi|fail)
  all_goals rfl
set_option maxHeartbeats 4000000 in
theorem prField {D : Nat} {ds : List Dt} {fs : List Ty} {s : Store} {T : List Ae.Obj} {w : List Int} {v7 : AV} {src : List AV} (hD : D = s.low.length + 1) (hal : fs.length ≤ 1000000000)
    (ih : ∀ x ∈ fs, ∀ s, callF (tab tbl) prim 77 [.agg x.az, .imm false ds.length (ds.flatMap Dt.az)] s = some (.str (bst (tsay ds x)), s)) (h0 : T[0]? = some (.box 38 (.imm false ds.length (ds.flatMap Dt.az) :: src))) (hS : SlI D T v7 1 [w]) (hG : Ge v7 T.length)
    (y0 y2 y3 y4 y5 y6 y8 y9 y10 y11 y12 y13 y14 y15 y16 y20 : AV) :
    Wp (exS (callF (tab tbl) prim) (.loop (loopAt c35 2)) ⟨[y0, .ptr D 0 0, y2, y3, y4, y5, y6, v7, y8, y9, y10, y11, y12, y13, y14, y15, y16, .imm false fs.length (fs.flatMap Ty.az), .int .i64 fs.length, .int .i64 0, y20], frm s T⟩)
      (fun e st => e = .exit 4 ∧ ∃ v7 y8 y19 y20 T', SlI D T' v7 (fs.length + 1) (w :: fs.map (tsay ds)) ∧ (Ex T T' ∧ Ge v7 T.length) ∧ st = ⟨[y0, .ptr D 0 0, y2, y3, y4, y5, y6, v7, y8, y9, y10, y11, y12, y13, y14, y15, y16, .imm false fs.length (fs.flatMap Ty.az), .int .i64 fs.length, y19, y20], frm s T'⟩) := by
  simp only [loopAt,loops,c35,List.nil_append,List.append_nil,List.getD_cons_zero,List.getD_cons_succ,List.cons_append]
  refine wLoop (fun m st=>∃ (q:Nat) (v7 y8 y20:AV) (T':List Ae.Obj),(m:Int) = fs.length - q∧q ≤ fs.length∧SlI D T' v7 (q + 1) (w :: (fs.take q).map (tsay ds))∧(Ex T T'∧Ge v7 T.length) ∧
    st = ⟨[y0, .ptr D 0 0, y2, y3, y4, y5, y6, v7, y8, y9, y10, y11, y12, y13, y14, y15, y16, .imm false fs.length (fs.flatMap Ty.az), .int .i64 fs.length, .int .i64 q, y20], frm s T'⟩) fs.length ?_ ?_
  · exact ⟨0, _, _, _, T, by omega, by omega, hS, ⟨Ex.refl _, hG⟩, rfl⟩
  · rintro m st ⟨q, v7, y8, y20, T', hm, hq, hS, hO, rfl⟩
    by_cases hlt:q < fs.length
    · obtain ⟨ha1, ha2⟩ := fm_at Ty.len hlt
      have hi:=ih _ (List.getElem_mem hlt)
      have htk:=List.take_succ_eq_append_getElem hlt
      have h0':=fun o=>pt_at (o:=o) (hO.1 _ _ h0)
      generalize fs[q] = x at *
      obtain ⟨k',n',a'⟩:=x
      simp only [Ty.az,azT_eq] at ha2 hi
      have hS2:SlI D (T' ++ [.box 94 [.int .i64 k',.int .i64 n',.imm false a'.length (a'.flatMap Ty.az)]]) v7 (q + 1) (w :: (fs.take q).map (tsay ds)):=hS.imp (fun h=>h.snoc _) id
      have hA:=slI_app (tsay ds (.mk k' n' a')) hS2 hD (by omega)
      repeat' (first|refine zw ?_|refine zn (fun hb=>?_) (fun hb=>?_)|refine zx ?_|(refine zka (hA) ?_; rintro _ _ ⟨T2, rfl, hS3, hO2⟩)|refine zof (zA @ha1 (zA @ha2 (zA @hi (@h0')))) ?_|exact zi|fail)
      refine loopNor (m - 1) (by omega) ⟨q + 1,_,_,_,T2,by omega,by omega,?_,ex_chg (hO.1.trans (Ex.snoc _ _)) hO.2 hO2,rfl⟩
      rw [htk]
      simpa using hS3
    · obtain rfl : q = fs.length := by omega
      repeat' (first|refine zw ?_|refine zn (fun hb=>?_) (fun hb=>?_)|refine zx ?_|refine zo ?_|exact zi|fail)
      rw [List.take_length] at hS
      exact ⟨rfl,_,_,_,_,T',hS,hO,rfl⟩
set_option maxHeartbeats 8000000 in
theorem prCon {D : Nat} {ds : List Dt} {cs : List Con} {s : Store} {T : List Ae.Obj} {ps : List (List Int)} {n0 : Nat} {v5 : AV} {src : List AV} (hD : D = s.low.length + 1) (hal : cs.length ≤ 100000000) (hfl : ∀ c ∈ cs, c.fields.length ≤ 100000000) (hbl : ∀ c ∈ cs, (csay ds c).length ≤ 1000000000)
    (ih : ∀ c ∈ cs, ∀ x ∈ c.fields, ∀ s, callF (tab tbl) prim 77 [.agg x.az, .imm false ds.length (ds.flatMap Dt.az)] s = some (.str (bst (tsay ds x)), s)) (h0 : T[0]? = some (.box 38 (.imm false ds.length (ds.flatMap Dt.az) :: src))) (hS : SlI D T v5 n0 ps) (hG : Ge v5 T.length) (hn0 : n0 ≤ 100000000)
    (y0 y2 y3 y4 y6 y7 y8 y9 y10 y11 y12 y16 y17 y18 y19 y20 : AV) :
    Wp (exS (callF (tab tbl) prim) (.loop (loopAt c35 1)) ⟨[y0, .ptr D 0 0, y2, y3, y4, v5, y6, y7, y8, y9, y10, y11, y12, .imm false cs.length (cs.flatMap Con.az), .int .i64 cs.length, .int .i64 0, y16, y17, y18, y19, y20], frm s T⟩)
      (fun e st => e = .exit 2 ∧ ∃ v5 y6 y7 y8 y15 y16 y17 y18 y19 y20 T', SlI D T' v5 (n0 + cs.length) (ps ++ cs.map (csay ds)) ∧ (Ex T T' ∧ Ge v5 T.length) ∧ st = ⟨[y0, .ptr D 0 0, y2, y3, y4, v5, y6, y7, y8, y9, y10, y11, y12, .imm false cs.length (cs.flatMap Con.az), .int .i64 cs.length, y15, y16, y17, y18, y19, y20], frm s T'⟩) := by
  subst hD
  have hF:=@prField (s.low.length + 1) ds
  simp only [loopAt,loops,c35,List.nil_append,List.append_nil,List.getD_cons_zero,List.getD_cons_succ,List.cons_append]
  refine wLoop (fun m st=>∃ (q:Nat) (v5 y6 y7 y8 y16 y17 y18 y19 y20:AV) (T':List Ae.Obj),(m:Int) = cs.length - q∧q ≤ cs.length∧SlI (s.low.length + 1) T' v5 (n0 + q) (ps ++ (cs.take q).map (csay ds))∧(Ex T T'∧Ge v5 T.length) ∧
    st = ⟨[y0, .ptr (s.low.length + 1) 0 0, y2, y3, y4, v5, y6, y7, y8, y9, y10, y11, y12, .imm false cs.length (cs.flatMap Con.az), .int .i64 cs.length, .int .i64 q, y16, y17, y18, y19, y20], frm s T'⟩) cs.length ?_ ?_
  · exact ⟨0, _, _, _, _, _, _, _, _, _, T, by omega, by omega, by simpa using hS, ⟨Ex.refl _, hG⟩, rfl⟩
  · rintro m st ⟨q, v5, y6, y7, y8, y16, y17, y18, y19, y20, T', hm, hq, hS, hO, rfl⟩
    by_cases hlt:q < cs.length
    · obtain ⟨ha1, ha2⟩ := fm_at Con.len hlt
      have hi:=ih _ (List.getElem_mem hlt)
      have hfl1:=hfl _ (List.getElem_mem hlt)
      have hbl1:=hbl _ (List.getElem_mem hlt)
      have htk:=List.take_succ_eq_append_getElem hlt
      generalize cs[q] = x at *
      obtain ⟨name,fs⟩:=x
      simp only [Con.az,azT_eq,bsl] at ha2
      simp only at hi hfl1
      have tn:=toB8 name
      have ln:=by8_len name
      have h0':=pt_at (o:=.box 88 [.imm false name.length (by8 name),.imm false fs.length (fs.flatMap Ty.az)]) (hO.1 _ _ h0)
      repeat' (first|refine zw ?_|refine zn (fun hb=>?_) (fun hb=>?_)|refine zx ?_|refine zof (zA @ha1 (zA @ha2 (zA @tn (@ln)))) ?_|exact zi|fail)
      refine Wp.mono (hF (w:=name) rfl (by omega) hi h0' (.inr ⟨rfl,rfl⟩) (fun j h=>by cases h) _ _ _ _ _ _ _ _ _ _ _ _ _ _ _ _) ?_
      rintro e st ⟨rfl, v7, y8', y19', y20', T2, hS2, hO2, rfl⟩
      have hB:=brkCallI hS2 (by simp only [List.length_cons,List.length_map]; omega) hbl1 hO2.1 hO2.2
      repeat' (first|refine zw ?_|refine zn (fun hb=>?_) (fun hb=>?_)|refine zx ?_|(refine zk (hB) ?_; rintro _ _ ⟨rfl, T3, rfl, hx3⟩)|refine zo ?_|exact zi|fail)
      have hx4:=(Ex.snoc _ _).trans hx3
      have hA:=slI_app (csay ds ⟨name,fs⟩) (hS.ex hx4) rfl (by omega)
      simp only [csay] at hA
      repeat' (first|refine zw ?_|refine zn (fun hb=>?_) (fun hb=>?_)|refine zx ?_|(refine zka (hA) ?_; rintro _ _ ⟨T4, rfl, hS4, hc4⟩)|refine zo ?_|exact zi|fail)
      refine loopNor (m - 1) (by omega) ⟨q + 1,_,_,_,_,_,_,_,_,_,T4,by omega,by omega,?_,ex_chg (hO.1.trans hx4) hO.2 hc4,rfl⟩
      rw [htk,← Nat.add_assoc]
      simpa [csay] using hS4
    · obtain rfl : q = cs.length := by omega
      repeat' (first|refine zw ?_|refine zn (fun hb=>?_) (fun hb=>?_)|refine zx ?_|refine zo ?_|exact zi|fail)
      rw [List.take_length] at hS
      exact ⟨rfl,_,_,_,_,_,_,_,_,_,_,T',hS,hO,rfl⟩
/-! ### texts are bytes -/
def Byt (l : List Int) : Prop := ∀ c ∈ l, 0 ≤ c ∧ c < 256
instance (l : List Int) : Decidable (Byt l) := inferInstanceAs (Decidable (∀ c ∈ l, 0 ≤ c ∧ c < 256))
theorem byt_app {a b : List Int} (ha : Byt a) (hb : Byt b) : Byt (a ++ b) := fun c hc => (List.mem_append.1 hc).elim (ha c) (hb c)
theorem byt_cons {a : Int} {b : List Int} (ha : 0 ≤ a ∧ a < 256) (hb : Byt b) : Byt (a :: b) := fun c hc => by
  rcases List.mem_cons.1 hc with rfl | hc
  · exact ha
  · exact hb c hc
theorem byt_ite {p : Prop} [Decidable p] {a b : List Int} (ha : Byt a) (hb : Byt b) : Byt (if p then a else b) := by
  split
  · exact ha
  · exact hb
theorem byt_brk {ps : List (List Int)} (h : ∀ p ∈ ps, Byt p) : Byt (brk ps) := by
  unfold brk
  refine byt_cons (by omega) (byt_app ?_ (by decide))
  cases ps with
  | nil => intro c hc; cases hc
  | cons p r =>
    refine byt_app (h p (by simp)) fun c hc=>?_
    obtain ⟨x,hx,hc⟩:=List.mem_flatMap.1 hc
    exact byt_cons (by omega) (h x (by simp [hx])) c hc
theorem byt_tyw (k : Int) : Byt (tyw k) := by
  unfold tyw
  repeat' apply byt_ite
  all_goals decide
theorem byt_kw (k : Int) : Byt (kw k) := by
  unfold kw
  repeat' apply byt_ite
  all_goals decide
theorem byt_opw (k : Int) : Byt (opw k) := by
  unfold opw
  repeat' apply byt_ite
  all_goals decide
theorem byt_clw (k : Int) : Byt (clw k) := by
  unfold clw
  repeat' apply byt_ite
  all_goals decide
theorem byt_dnm {ds : List Dt} (h : ∀ d ∈ ds, Byt d.name) (n : Int) : Byt (dnm ds n) := by
  unfold dnm
  split
  · rename_i d hd; exact h d (List.mem_of_getElem? hd)
  · intro c hc; cases hc
theorem byt_tsay {ds : List Dt} (h : ∀ d ∈ ds, Byt d.name) : ∀ t : Ty, Byt (tsay ds t) := by
  refine Ty.ind fun k n args ih=>?_
  rw [tsay,tsayL_eq]
  have hm:∀ w,Byt w→∀ p ∈ w :: args.map (tsay ds),Byt p:=fun w hw p hp=>by
    rcases List.mem_cons.1 hp with rfl | hp
    · exact hw
    · obtain ⟨x, hx, rfl⟩ := List.mem_map.1 hp
      exact ih x hx
  exact byt_ite (byt_tyw _) (byt_ite (byt_cons (by omega) (num_byte n)) (byt_ite (byt_ite (byt_dnm h n) (byt_brk (hm _ (byt_dnm h n)))) (byt_brk (hm _ (byt_tyw k)))))
theorem byt_hdw {k n : Int} {name : List Int} (h : Byt name) : Byt (hdw k n name) := byt_ite h (byt_ite (byt_opw n) (byt_ite (byt_clw n) (byt_kw k)))
theorem byt_xsay : ∀ e : Xp, e.ok → Byt (xsay e) := by
  refine Xp.ind fun k n name arg lit kids arms ih iha ho=>?_
  simp only [Xp.ok,okE_iff,okA_iff] at ho
  obtain ⟨_,_,hname,harg,hlit,⟨_,hoe⟩,⟨_,hoa⟩⟩:=ho
  have hk:∀ p ∈ kids.map xsay,Byt p:=fun p hp=>by
    obtain ⟨x,hx,rfl⟩:=List.mem_map.1 hp
    exact ih x hx (hoe x hx)
  have ha:∀ p ∈ arms.map asay,Byt p:=fun p hp=>by
    obtain ⟨a,hx,rfl⟩:=List.mem_map.1 hp
    have h1:=iha a hx (Arm.ok_body (hoa a hx))
    have h2:=hoa a hx
    obtain ⟨con,vars,body⟩:=a
    simp only [Arm.ok] at h2
    rw [asay]
    refine byt_brk fun p hp=>?_
    rcases List.mem_cons.1 hp with rfl | hp
    · exact byt_ite (by decide) h2.1.2
    · rcases List.mem_append.1 hp with hp | hp
      · exact (h2.2.1.2 p hp).2
      · rw [List.mem_singleton.1 hp]; exact h1
  rw [xsay_eq]
  refine byt_ite (by decide) (byt_ite (num_byte n) (byt_ite (byt_cons (by omega) (byt_app hlit.2 (by decide))) (byt_ite hname.2 (byt_ite (byt_brk fun p hp=>?_) (byt_ite (byt_brk hk) (byt_ite (byt_hdw hname.2) (byt_brk fun p hp=>?_)))))))
  · rcases List.mem_cons.1 hp with rfl | hp
    · exact byt_kw 18
    · revert hp hk
      cases kids.map xsay with
      | nil => intro hk hp; simp only [tryL, List.mem_singleton] at hp; subst hp; exact hname.2
      | cons a r =>
        intro hk hp
        simp only [tryL,List.mem_cons] at hp
        rcases hp with rfl | rfl | hp
        · exact hk _ (by simp)
        · exact hname.2
        · exact hk _ (by simp [hp])
  · rcases List.mem_append.1 hp with hp | hp
    · unfold hds at hp
      rcases List.mem_cons.1 hp with rfl | hp
      · exact byt_hdw hname.2
      · split at hp
        · rw [List.mem_singleton.1 hp]; exact hname.2
        · split at hp
          · simp only [List.mem_cons, List.not_mem_nil, or_false] at hp
            rcases hp with rfl | rfl
            · exact hname.2
            · exact harg.2
          · cases hp
    · exact (List.mem_append.1 hp).elim (hk p) (ha p)
theorem byt_dsay {ds : List Dt} (h : ∀ d ∈ ds, Byt d.name) {d : Dt} (hd : d.ok) : Byt (dsay ds d) := by
  unfold dsay
  refine byt_app (byt_brk fun p hp=>?_) (by decide)
  simp only [List.mem_cons] at hp
  rcases hp with rfl | rfl | rfl | hp
  · decide
  · exact hd.1.2
  · exact num_byte _
  · obtain ⟨c, hc, rfl⟩ := List.mem_map.1 hp
    unfold csay
    refine byt_brk fun p hp=>?_
    rcases List.mem_cons.1 hp with rfl | hp
    · exact (hd.2.2.2 c hc).1.2
    · obtain ⟨t, _, rfl⟩ := List.mem_map.1 hp
      exact byt_tsay h t
/-! ### the outer loop -/
theorem dsay_pre {ds : List Dt} {q : Nat} (h : q < ds.length) (f : Dt → List Int) : (ds.take (q + 1)).flatMap f = (ds.take q).flatMap f ++ f ds[q] := by
  rw [List.take_succ_eq_append_getElem h,List.flatMap_append,List.flatMap_cons,List.flatMap_nil,List.append_nil]
theorem dsay_le {ds : List Dt} (q : Nat) (f : Dt → List Int) : ((ds.take q).flatMap f).length ≤ (ds.flatMap f).length := by
  conv => rhs; rw [← List.take_append_drop q ds, List.flatMap_append, List.length_append]
  omega
set_option maxHeartbeats 16000000 in
theorem prData {ds : List Dt} {s : Store} {bv : List Int → AV} {bs : List Int → Store} {src : List AV} (hb : Buf 5 bv bs) (hs : bs [] = s) (hok : ∀ d ∈ ds, d.ok) (hdl : ds.length ≤ 100000000) (hcl : ∀ d ∈ ds, d.cons.length ≤ 100000000 ∧ ∀ c ∈ d.cons, c.fields.length ≤ 100000000 ∧ (csay ds c).length ≤ 1000000000)
    (hl : (ds.flatMap (dsay ds)).length ≤ 1000000000) (ih : ∀ d ∈ ds, ∀ c ∈ d.cons, ∀ x ∈ c.fields, ∀ s, callF (tab tbl) prim 77 [.agg x.az, .imm false ds.length (ds.flatMap Dt.az)] s = some (.str (bst (tsay ds x)), s))
    {T : List Ae.Obj} (h0 : T[0]? = some (.box 38 (.imm false ds.length (ds.flatMap Dt.az) :: src))) (h1 : T[1]? = some (.box 111 [.nilp, bv []])) (y0 y2 y4 y5 y6 y7 y8 y12 y13 y14 y15 y16 y17 y18 y19 y20 : AV) :
    Wp (exS (callF (tab tbl) prim) (.loop (loopAt c35 0)) ⟨[y0, .ptr (s.low.length + 1) 0 0, y2, .ptr (s.low.length + 1) 1 0, y4, y5, y6, y7, y8, .imm false ds.length (ds.flatMap Dt.az), .int .i64 ds.length, .int .i64 0, y12, y13, y14, y15, y16, y17, y18, y19, y20], frm s T⟩)
      (fun e st => e = .exit 0 ∧ ∃ y4 y5 y6 y7 y8 y11 y12 y13 y14 y15 y16 y17 y18 y19 y20 T' a, T'[0]? = some (.box 38 (.imm false ds.length (ds.flatMap Dt.az) :: src)) ∧ T'[1]? = some (.box 111 [a, bv (ds.flatMap (dsay ds))]) ∧ (a = .nilp ∨ a = .ptr (s.low.length + 1) 1 0) ∧
        st = ⟨[y0, .ptr (s.low.length + 1) 0 0, y2, .ptr (s.low.length + 1) 1 0, y4, y5, y6, y7, y8, .imm false ds.length (ds.flatMap Dt.az), .int .i64 ds.length, y11, y12, y13, y14, y15, y16, y17, y18, y19, y20], frm (bs (ds.flatMap (dsay ds))) T'⟩) := by
  have hC:=@prCon (s.low.length + 1) ds
  simp only [loopAt,loops,c35,List.nil_append,List.append_nil,List.getD_cons_zero,List.cons_append]
  refine wLoop (fun m st=>∃ (q:Nat) (y4 y5 y6 y7 y8 y12 y13 y14 y15 y16 y17 y18 y19 y20:AV) (T':List Ae.Obj) (a:AV) (x:List Int),(m:Int) = ds.length - q∧q ≤ ds.length∧x = (ds.take q).flatMap (dsay ds)∧T'[0]? = some (.box 38 (.imm false ds.length (ds.flatMap Dt.az) :: src))∧T'[1]? = some (.box 111 [a,bv x])∧(a = .nilp ∨ a = .ptr (s.low.length + 1) 1 0) ∧
    st = ⟨[y0, .ptr (s.low.length + 1) 0 0, y2, .ptr (s.low.length + 1) 1 0, y4, y5, y6, y7, y8, .imm false ds.length (ds.flatMap Dt.az), .int .i64 ds.length, .int .i64 q, y12, y13, y14, y15, y16, y17, y18, y19, y20], frm (bs x) T'⟩) ds.length ?_ ?_
  · exact ⟨0, _, _, _, _, _, _, _, _, _, _, _, _, _, _, T, .nilp, [], by omega, by omega, by simp, h0, h1, .inl rfl, by rw [hs]; rfl⟩
  · rintro m st ⟨q, y4, y5, y6, y7, y8, y12, y13, y14, y15, y16, y17, y18, y19, y20, T', a, x, hm, hq, hx, h0', h1', ha, rfl⟩
    by_cases hlt:q < ds.length
    · obtain ⟨ha1, ha2⟩ := fm_at Dt.len hlt
      have hmem:=List.getElem_mem hlt
      have hdo:=hok _ hmem
      have hby:=byt_dsay (fun d hd=>(hok d hd).1.2) hdo
      have hcl1:=hcl _ hmem
      have hi:=ih _ hmem
      have hpre:=dsay_pre hlt (dsay ds)
      have hle:=dsay_le (ds:=ds) (q + 1) (dsay ds)
      rw [hpre,List.length_append,← hx] at hle
      generalize ds[q] = d at *
      obtain ⟨name,vars,cons⟩:=d
      simp only [Dt.az,bsl] at ha2
      simp only at hcl1 hi
      have tn:=toB8 name
      have ln:=by8_len name
      have hit:=fun s=>itoaOk (n:=vars) hdo.2.1 s
      have hlx:(bs x).low.length = s.low.length:=by rw [hb.low x,hs]
      have hDx:s.low.length + 1 = (bs x).low.length + 1:=by omega
      have h0'':=pt_at (o:=.box 73 [.imm false name.length (by8 name),.int .i64 vars,.imm false cons.length (cons.flatMap Con.az)]) h0'
      repeat' (first|refine zw ?_|refine zn (fun hb=>?_) (fun hb=>?_)|refine zx ?_|refine zof (zA @ha1 (zA @ha2 (zA @tn (zA @ln (zA @hit (@hlx)))))) ?_|exact zi|fail)
      refine Wp.mono (hC (ps:=[[100,97,116,97],name,num vars]) (n0:=3) hDx (by omega) (fun c hc=>(hcl1.2 c hc).1) (fun c hc=>(hcl1.2 c hc).2) (fun c hc=>hi c hc) h0'' (.inr ⟨rfl,rfl⟩) (fun j h=>by cases h) (by omega) _ _ _ _ _ _ _ _ _ _ _ _ _ _ _ _) ?_
      rintro e st ⟨rfl, v5, z6, z7, z8, z15, z16, z17, z18, z19, z20, T2, hS2, hO2, rfl⟩
      have hd10:dsay ds ⟨name,vars,cons⟩ = brk ([100,97,116,97] :: name :: num vars :: cons.map (csay ds)) ++ [10]:=by simp [dsay]
      rw [hd10,List.length_append] at hle
      simp only [List.length_cons,List.length_nil] at hle
      replace hS2 : SlI (s.low.length + 1) T2 v5 (3 + cons.length) ([100, 97, 116, 97] :: name :: num vars :: cons.map (csay ds)) := hS2
      have hB:=brkCallI (hDx ▸ hS2) (by simp only [List.length_cons,List.length_map]; omega) (by omega) hO2.1 hO2.2
      have hcat:=bst_cat (a:=brk ([100,97,116,97] :: name :: num vars :: cons.map (csay ds))) (b:=[10]) (by simp only [List.length_cons,List.length_nil]; omega)
      repeat' (first|refine zw ?_|refine zn (fun hb=>?_) (fun hb=>?_)|refine zx ?_|(refine zk (hB) ?_; rintro _ _ ⟨rfl, T3, rfl, hx3⟩)|refine zof (zA @k10 (@hcat)) ?_|exact zi|fail)
      have hx4:=(Ex.snoc _ _).trans hx3
      have hw:=writeOk (x:=x) (y:=dsay ds ⟨name,vars,cons⟩) hb (by rw [hs]) (hx4 _ _ h1') ha hby (by rw [hd10,List.length_append]; simp only [List.length_cons,List.length_nil]; omega)
      rw [hd10] at hw
      repeat' (first|refine zw ?_|refine zn (fun hb=>?_) (fun hb=>?_)|refine zx ?_|(refine zk (hw) ?_; rintro _ _ rfl)|refine zo ?_|exact zi|fail)
      have h1l:=(List.getElem?_eq_some_iff.1 (hx4 _ _ h1')).1
      refine loopNor (m - 1) (by omega) ⟨q + 1,_,_,_,_,_,_,_,_,_,_,_,_,_,_,_,_,x ++ (brk ([100,97,116,97] :: name :: num vars :: cons.map (csay ds)) ++ [10]),by omega,by omega,by rw [hpre,← hx,hd10],?_,List.getElem?_set_self h1l,.inr rfl,rfl⟩
      rw [List.getElem?_set_ne (by omega)]
      exact hx4 _ _ h0'
    · obtain rfl : q = ds.length := by omega
      rw [List.take_length] at hx
      subst hx
      repeat' (first|refine zw ?_|refine zn (fun hb=>?_) (fun hb=>?_)|refine zx ?_|refine zo ?_|exact zi|fail)
      exact ⟨rfl,_,_,_,_,_,_,_,_,_,_,_,_,_,_,_,T',a,h0',h1',ha,rfl⟩
def SlN (D : Nat) (T : List Ae.Obj) (v : AV) (l : List Int) : Prop := SlAt D T 5 1 v l.length (by8 l) ∨ v = .imm true l.length (by8 l)
theorem slN_src {s : Store} {D : Nat} {T : List Ae.Obj} {v : AV} {l : List Int} (h : SlN D T v l) (hD : D = s.low.length + 1) : srcOf (frm s T) v = some (l.length, by8 l) := by
  rcases h with h | rfl
  · exact srcSl h hD
  · rfl
theorem SlN.ex {D : Nat} {T T' : List Ae.Obj} {v : AV} {l : List Int} (h : SlN D T v l) (he : Ex T T') : SlN D T' v l := by
  rcases h with ⟨h0, h | ⟨k, off, ver, all, h1, h2, h3, h4⟩⟩ | h
  · exact .inl ⟨h0, .inl h⟩
  · exact .inl ⟨h0, .inr ⟨k, off, ver, all, h1, he _ _ h2, h3, h4⟩⟩
  · exact .inr h
theorem slN_app {D : Nat} {s : Store} {T : List Ae.Obj} {v y : AV} {l ys : List Int} (h : SlN D T v l) (hD : D = s.low.length + 1) (hy : srcOf (frm s T) y = some (ys.length, by8 ys)) (hp : 0 < ys.length) (hb : l.length + ys.length ≤ 1000000000) :
    ∃ v' S', appV (frm s T) 5 1 1 v y = some (v', S') ∧ ∃ T', S' = frm s T' ∧ SlN D T' v' (l ++ ys) ∧ ChgV v v' T T' := by
  rcases h with h | rfl
  · obtain ⟨v', S', e, T', h1, h2, _, h3⟩ := slAt_app (s := s) (bytes := 1) h hD (by omega) hy (by8_ok ys) (by rw [by8_len]; omega) (by omega)
    exact ⟨v',S',e,T',h1,.inl (by rw [by8_app,← List.length_append] at h2; exact h2),h3⟩
  · have hc : ∀ d, cellsOk d (by8 ys) = true := fun d => by8_ok ys
    have h1:(by8 l).length = l.length * 1:=by rw [by8_len]; omega
    have h2:(by8 ys).length = ys.length * 1:=by rw [by8_len]; omega
    have hc2:cellsOk (s.low.length + 1 + 1) (by8 (l ++ ys)) = true∧(by8 (l ++ ys)).length = (l.length + ys.length) * 1:=⟨by8_ok _,by rw [by8_len,List.length_append]; omega⟩
    refine ⟨.slr D T.length 0 (l.length + ys.length) 0 false,frm s (T ++ [.arr 5 1 (by8 (l ++ ys)) 0 0]),?_,_,rfl,.inl ⟨by rw [by8_len]; omega,.inr ⟨T.length,0,0,_,by rw [List.length_append],app_at _ _,?_,by rw [by8_len]; omega⟩⟩,⟨fun j o h _=>pt_at h,fun j h=>.inr (by simp [idx] at h; omega)⟩⟩
    · subst hD
      simp only [appV,hy,Option.bind_some,appTo,frm_len]
      rw [if_pos ⟨by omega,hc _,h1,h2⟩,if_neg (by omega),by8_app,newArr,frm_len,if_pos hc2,frm_top,frm_new]
    · rw [List.drop_zero]
      exact List.take_of_length_le (by rw [by8_len]; omega)
theorem dg_pos (u : Nat) : 0 < (dg u).length := by
  by_cases h:u < 10
  · rw [dg_small h]; simp
  · rw [dg_big h]; simp
set_option maxHeartbeats 4000000 in
theorem tens_ok : ∀ (u : Nat) (s : Store) (T : List Ae.Obj), u < 18446744073709551616 →
    ∃ v s', callF (tab tbl) prim 118 [.int .u64 u] (frm s T) = some (v, s') ∧ ∃ T', s' = frm s T' ∧ SlN (s.low.length + 1) T' v (dg u) ∧ Ex T T' ∧ Ge v T.length := by
  intro u
  induction u using Nat.strongRecOn with
  | _ u ih =>
    intro s T hu
    by_cases h:u < 10
    · have e1 : IntKind.u64.wrap (48 + (u : Int)) = 48 + u := wrap_u64 (by omega)
      have e2:IntKind.u8.wrap (48 + (u:Int)) = 48 + u:=wrap_u8 (by omega)
      refine funZ rfl (zaf (zA @e1 (@e2))) zt ?_
      repeat' (first|refine zw ?_|refine zn (fun hb=>?_) (fun hb=>?_)|refine zx ?_|refine zof (zA @e1 (@e2)) ?_|exact zi|fail)
      refine ⟨T,rfl,?_,Ex.refl _,fun j h=>by cases h⟩
      rw [dg_small h]
      exact .inr rfl
    · have e0 : IntKind.u64.wrap ((u : Int).tdiv 10) = (u : Int) / 10 := by
        rw [Int.tdiv_eq_ediv_of_nonneg (by omega)]
        exact wrap_u64 (by omega)
      have e4:(u:Int).tmod 10 = (u:Int) % 10:=Int.tmod_eq_emod_of_nonneg (by omega)
      have e1:IntKind.u64.wrap (48 + (u:Int) % 10) = 48 + (u:Int) % 10:=wrap_u64 (by omega)
      have e2:IntKind.u8.wrap (48 + (u:Int) % 10) = 48 + (u:Int) % 10:=wrap_u8 (by omega)
      obtain ⟨v1,_,e,T1,rfl,hB1,hX1,hG1⟩:=ih (u / 10) (by omega) s T (by omega)
      rw [show ((u / 10:Nat):Int) = (u:Int) / 10 by omega] at e
      have hl:=dg_len (u:=u / 10) (by omega)
      have hA:=slN_app (s:=s) (T:=T1) (y:=.imm true 1 [.int .u8 (48 + (u:Int) % 10)]) (ys:=[48 + (u:Int) % 10]) hB1 rfl rfl (by simp) (by simp only [List.length_cons,List.length_nil]; omega)
      refine funZ rfl (zaf (zA @e0 (zA @e1 (zA @e2 (zA @e4 (@e)))))) zt ?_
      repeat' (first|refine zw ?_|refine zn (fun hb=>?_) (fun hb=>?_)|refine zx ?_|(refine zka (hA) ?_; rintro _ _ ⟨T2, rfl, hB2, hC2⟩)|refine zof (zA @e0 (zA @e1 (zA @e2 (zA @e4 (@e))))) ?_|exact zi|fail)
      rw [dg_big h,show ((u % 10:Nat):Int) = (u:Int) % 10 by omega]
      have:=ex_chg hX1 hG1 hC2
      exact ⟨T2,rfl,hB2,this.1,this.2⟩
set_option maxHeartbeats 4000000 in
theorem digits_ok {n : Int} {s : Store} {T : List Ae.Obj} (h : inI n) :
    ∃ v s', callF (tab tbl) prim 67 [.int .i64 n] (frm s T) = some (v, s') ∧ ∃ T', s' = frm s T' ∧ SlN (s.low.length + 1) T' v (num n) ∧ Ex T T' := by
  unfold inI at h
  unfold num
  by_cases h0:n < 0
  · have e1 : IntKind.u64.wrap n = n + 18446744073709551616 := by
      unfold IntKind.wrap
      simp only [IntKind.bits,IntKind.signed,Bool.false_and,Bool.false_eq_true,if_false]
      omega
    have e2:IntKind.u64.wrap (0 - (n + 18446744073709551616)) = (n.natAbs:Int):=by
      unfold IntKind.wrap
      simp only [IntKind.bits,IntKind.signed,Bool.false_and,Bool.false_eq_true,if_false]
      omega
    obtain ⟨v1,_,e,T1,rfl,hB1,hX1,hG1⟩:=tens_ok n.natAbs s T (by omega)
    have hl:=dg_len (u:=n.natAbs) (by omega)
    have hA:=slN_app (s:=s) (T:=T1) (v:=.imm true 1 [.int .u8 45]) (l:=[45]) (.inr rfl) rfl (slN_src hB1 rfl) (dg_pos _) (by simp; omega)
    rw [if_pos h0]
    refine funZ rfl (zaf (zA @e1 (zA @e2 (@e)))) zt ?_
    repeat' (first|refine zw ?_|refine zn (fun hb=>?_) (fun hb=>?_)|refine zx ?_|(refine zka (hA) ?_; rintro _ _ ⟨T2, rfl, hB2, hC2⟩)|refine zof (zA @e1 (zA @e2 (@e))) ?_|exact zi|fail)
    exact ⟨T2,rfl,hB2,(ex_chg hX1 (v:=.imm true 1 [.int .u8 45]) (fun j h=>by cases h) hC2).1⟩
  · have e1 : IntKind.u64.wrap n = (n.toNat : Int) := by rw [wrap_u64 (by omega)]; omega
    obtain ⟨v1,_,e,T1,rfl,hB1,hX1,hG1⟩:=tens_ok n.toNat s T (by omega)
    rw [if_neg h0]
    refine funZ rfl (zaf (zA @e1 (@e))) zt ?_
    repeat' (first|refine zw ?_|refine zn (fun hb=>?_) (fun hb=>?_)|refine zx ?_|refine zof (zA @e1 (@e)) ?_|exact zi|fail)
    exact ⟨T1,rfl,hB1,hX1⟩
end Go.Proofs.YtkjonfojileipaaGreatDoor.Gq
