/- The law FnExactArmsOk returns true for all sources, and they read as they did. -/
import Derived.Test.YtkjonfojileipaaGreatDoorV28
import Derived.Test.YtkjonfojileipaaGreatDoorVC
set_option linter.unusedSimpArgs false
set_option linter.unusedVariables false
section
set_option maxRecDepth 100000
namespace Go.Proofs.YtkjonfojileipaaGreatDoor.FnExactArmsOk
open Go Go.ChangeShapes Go.WideShapes Go.ChangeAt Go.RowKit Go.Proofs.YtkjonfojileipaaGreatDoor.Ae
theorem law_call {w : World} {v0 : Value} (hgood : WGood w) {n0 : Nat} {a0 : AV} (h0 : argOf Tryz.prog n0 29 a0) (r0 : VR noStore (fun _ _ => ⟨0, 0, 0⟩) (startCs w) w a0 v0) :
    Calls Tryz.prog 7 #[v0] w fun e w' => e = .returned (.bool true) ∧ Kept w w' := by
  unfold argOf at h0
  rw [Tryz.underlying29] at h0
  obtain ⟨az,rfl,h0⟩:=h0
  obtain ⟨src,rfl,hok⟩:=dec_src h0
  obtain ⟨v',s',h,rfl⟩:=Gq.law_arm hok noStore
  refine args_call (by kernel_rfl) Gq.tbl_fits.fits prim_sound (fc:=Gq.c7) rfl h hgood (us:=[v0]) ⟨rfl,fun j x y hx hy=>?_⟩
  match j, hx, hy with
  | 0, hx, hy =>
    simp only [List.getElem?_cons_zero,Option.some.injEq] at hx hy
    subst hx hy
    exact r0

set_option maxRecDepth 100000 in
theorem lifted (os : Os) (started : os.Started) (H : Type) (enc : TypeId × Value → H) :
    ReturnsInHanded Rows.fnExactArmsOkRow.assume Tryz.checked os 7 .any (fun w args => (Rows.fnExactArmsOkSpec.pre enc Tryz.prog Tryz.f7 [] false w args ∧ laidMetH Tryz.prog laidV w) ∧ sizedMet enc Tryz.prog Tryz.f7 (OpenSpec.ofChange Rows.fnExactArmsOkSpec) false w args)
      (Rows.fnExactArmsOkSpec.post enc Tryz.prog Tryz.f7 false true false false) := by
  refine returnsInHanded_of_change_and (C:=Tryz.checked) (X:=fun w _=>laidMetH Tryz.prog laidV w) (fun _ _ _ hh h=>h.of_heap hh) own started (by kernel_rfl) Tryz.func7
    (ChangeSpec.witness_shaped (enc := enc) (C := Tryz.checked) (os := os) (X := fun w _ => laidMetH Tryz.prog laidV w) false (World.doorLaid Tryz.prog 400 os) #[.agg #[.slice none 0 0, .int .i64 0, .int .i64 0, .slice none 0 0, .slice none 0 0, .slice none 0 0, .slice none 0 0, .slice none 0 0]] 8 rfl (World.shaped_of_RefB (by kernel_rfl) (by kernel_rfl)) (by kernel_rfl) (by kernel_rfl) (by kernel_rfl) (door_met os _)) ?_
  intro W base args ds gs before hval0 hW _ _ hL _
  have hgood:=good_of hL
  have hval:∀ (j:Nat) t v,Tryz.f7.params[j]? = some t→args[j]? = some v→Value.okWide Tryz.prog W .any base t v:=hval0
  have hW':=hW
  obtain ⟨p,q,hA0,hV,rfl,hfz,hnd⟩:=hW
  have hA:DataW.TrodAll enc Tryz.prog W 0 (fun _=>true) true Tryz.f7.params.toList args.toList ds p:=hA0
  rw [Tryz.params7] at hA hval
  obtain ⟨v0,d0,rfl,rfl,h0⟩:=trodAll_one hA
  obtain ⟨rfl,rfl⟩:=trodVars_none hV
  clear hA0 hval0
  simp only [List.append_nil] at hW'
  have hlt:∀ x ∈ p,x.block < W.heap.size:=fun x hx=>by simpa using hW'.lt x hx
  have shut:∀ (e:Ending) (W':World),(e = .returned (.bool true)∧Kept W W')→∃ v,e = .returned v∧Rows.fnExactArmsOkSpec.post enc Tryz.prog Tryz.f7 false true false false W #[v0] v W':=by
    intro e W' he
    obtain ⟨rfl,hk⟩:=he
    exact ⟨_,rfl,post_of_below (pa:=p) (pv:=[]) hW' (fun _ _ _=>trodAll_mk1 (shut_bool Tryz.underlying4 _))
      (fun sp hsp => trodAll_mk1 (WideElems.Trod_stays laidOut (by kernel_rfl) (of_decide_eq_true (by kernel_rfl)) h0 (fun x hx => hk.below.same (hlt x hx)) fun x hx => hsp x hx)) (fun _ _ => rfl) (by simp)
      hk.below (ok_one (by kernel_rfl) rfl (okWide_bool_mk Tryz.underlying4 _))⟩
  obtain ⟨n0,a0,g0,r0⟩:=arg_vr plain (t:=29) (by simp) (hval 0 29 v0 rfl rfl) h0
  exact (law_call hgood g0 r0).mono shut

theorem row_holds : Rows.FnExactArmsOkSaid :=
  OpenClaim.holds_of_wide 7 Tryz.f7 rfl rfl rfl rfl rfl rfl rfl ⟨rfl, rfl, rfl, rfl, rfl⟩ rfl rfl rfl rfl rfl (by kernel_rfl) Tryz.func7 (by kernel_rfl)
    (of_decide_eq_true (by kernel_rfl)) (by unfold Func.isWrapper; first | (rw [if_pos (by decide +kernel)]; kernel_rfl) | (rw [if_neg (by decide +kernel)]; exact ⟨rfl, rfl⟩))
    (fun os started H enc _ => lifted os started H enc)
theorem holds : Rows.FnExactArmsOkCardSaid :=
  Claim7.holds_tied_plain_at .later [] [.data, .data, .data, .listed, .data] true (true, "b0aa64dfdf255a4749e818db227e157974c3e46e414db1e962f83f44b62ab4e4") false
    row_holds (fun _ h => by cases h) (by kernel_rfl) (fun _ h => by cases h) fnExactArmsOk_row_tie rfl ⟨rfl, rfl⟩ (by kernel_rfl) rfl
    (fun f fn hf hfn => by
      obtain rfl:f = 7:=Option.some.inj ((show Tryz.prog.funcNamed "loop.example/g00293/laws.FnExactArmsOk" = some 7 by kernel_rfl).symm.trans hf) |>.symm
      obtain rfl:fn = Tryz.f7:=(Option.some.inj (Tryz.func7.symm.trans hfn)).symm
      exact ⟨by kernel_rfl,fun j t ht=>by
        rw [Tryz.params7] at ht
        have hm:t ∈ [29]:=by simpa using Array.mem_of_getElem? ht
        have hall:([29].all fun u=>!Tryz.prog.wantsStandIn u) = true:=by kernel_rfl
        exact (show Tryz.prog.wantsStandIn t = false by simpa using List.all_eq_true.1 hall t hm)⟩)
    (by kernel_rfl)
#print axioms holds
end Go.Proofs.YtkjonfojileipaaGreatDoor.FnExactArmsOk
end
