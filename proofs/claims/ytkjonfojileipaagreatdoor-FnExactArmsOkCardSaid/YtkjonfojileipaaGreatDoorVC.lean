/- The law FnExactArmsOk returns true for all sources, and they read as they did. -/
import Derived.Test.YtkjonfojileipaaGreatDoorV20
import Derived.Test.YtkjonfojileipaaGreatDoorV21
import Derived.Test.YtkjonfojileipaaGreatDoorRows
import Derived.Test.YtkjonfojileipaaGreatDoorCards
import Derived.Test.YtkjonfojileipaaGreatDoorTie
import Derived.SevenTiedAt
import Derived.ProofKit
import Derived.OpenShut
import Derived.Below
import Derived.ChangeSame
import Derived.LaidMore
import Derived.Stop.Joined
import Derived.Lib.LaidTab
set_option linter.unusedSimpArgs false
set_option linter.unusedVariables false
section
set_option maxRecDepth 100000
namespace Go.Proofs.YtkjonfojileipaaGreatDoor.FnExactArmsOk
open Go Go.ChangeShapes Go.WideShapes Go.ChangeAt Go.RowKit Go.Proofs.YtkjonfojileipaaGreatDoor.Ae
section
variable {H : Type} {enc : TypeId × Value → H} {P : Program}
theorem post_of_below {f : Func} {s : ChangeSpec} {apart fresh handsOn again : Bool} {W W' : World} {args : Array Value} {v : Value} {ds gs : List (DataW H)} {before pa pv : List MemPlace}
    (hW : DataW.Whole enc P f.params.toList s.vars apart W args.toList ds gs before)
    (hres : ∀ (b : Nat) (sp : Nat → Bool) (hd : Bool), DataW.TrodAll enc P W' b sp hd f.resultTypes.toList (v.resultList f.resultTypes.size) (s.fn H (ds ++ gs)).results [])
    (hargs : ∀ sp : Nat → Bool, (∀ p ∈ before, sp p.block = true) → DataW.TrodAll enc P W' 0 sp true f.params.toList args.toList (s.fn H (ds ++ gs)).args pa)
    (hvars : ∀ sp : Nat → Bool, (∀ p ∈ before, sp p.block = true) → DataW.TrodVars enc P W' sp s.vars (s.fn H (ds ++ gs)).vars pv)
    (hps : before = pa ++ pv) (hb : Below W.heap.size W W')
    (hok : ∀ (j : Nat) (t : TypeId) (r : Value), f.resultTypes[j]? = some t → (v.resultList f.resultTypes.size)[j]? = some r → Value.okWide P W' .any 0 t r) :
    s.post enc P f apart fresh handsOn again W args v W' := by
  have hlt:∀ p ∈ before,p.block < W.heap.size:=fun p hp=>hW.lt p hp
  have hold:∀ p ∈ before,(fun b=>decide (b < W.heap.size)) p.block = true:=fun p hp=>by simpa using hlt p hp
  refine ⟨ds,gs,before,[],pa,pv,hW,hres _ _ _,hargs _ hold,hvars _ hold,World.keptBut_mono (fun p hp=>⟨hp,?_⟩) (hb.frame (· ∈ before)),fun _=>?_⟩
  · rw [hps, List.mem_append] at hp
    exact Or.inr hp
  · obtain ⟨_, _, _, _, _, hz, hn⟩ := hW
    refine ⟨hok,_,_,([] ++ pa) ++ pv,⟨[] ++ pa,pv,trodAll_append (hargs _ (fun _ _=>rfl)) (hres _ _ _),hvars _ (fun _ _=>rfl),rfl,?_,?_⟩,?_⟩
    · intro b off hp
      have hin:MemPlace.cell b off ∈ before:=by rw [hps]; simpa using hp
      rw [hb.frozen (hlt _ hin)]
      exact hz b off hin
    · intro ha
      have:=hn ha
      rw [hps] at this
      simpa using this
    · intro p hp _
      rw [hps]
      simpa using hp
end

theorem own : ownKnob Tryz.prog.godebug = none := by kernel_rfl
theorem laidOut : laidOutB Tryz.prog = true := by kernel_rfl
theorem plain : plainB Tryz.prog [29, 22, 82, 23, 5, 3, 80, 197, 195, 235, 27, 24, 25, 156, 50] = true := by kernel_rfl
def laidV : List (String × DataW Unit) := [("math/bits.deBruijn32tab", Rows.laid_math_bits_deBruijn32tab), ("math/bits.deBruijn64tab", Rows.laid_math_bits_deBruijn64tab), ("internal/strconv.uint64pow10", Rows.laid_internal_strconv_uint64pow10), ("unicode.White_Space", Rows.laid_unicode_White_Space), ("strings.asciiSpace", Rows.laid_strings_asciiSpace)]
theorem good_of {W : World} (h : laidMetH Tryz.prog laidV W) : WGood W := by
  rw [MakeChecks.laidMetH_plain _ _ _ (by kernel_rfl)] at h
  obtain ⟨ps,⟨_,_,_,_,_,_,_,_,_,_,⟨_,_,_,_,_,_,_,_,_,_,⟨g2,t2,cs2,f2,p2,q2,hg2,ht2,hv2,hd2,⟨_,_,_,_,_,_,_,_,_,_,⟨g4,t4,cs4,f4,p4,q4,hg4,ht4,hv4,hd4,_⟩,_⟩,_⟩,_⟩,_⟩,_⟩:=h
  have hg:Tryz.prog.globalNamed "internal/strconv.uint64pow10" = some 2:=by kernel_rfl
  have ht:(Tryz.prog.globals[2]?).map (·.type) = some 238:=by kernel_rfl
  obtain rfl:=Option.some.inj (hg.symm.trans hg2)
  obtain rfl:=Option.some.inj (ht.symm.trans ht2)
  have hd:DataW.trod _ Tryz.prog W 0 _ false f2 238 cs2.toList = some (Lib.tabData .u64 Lib.pow10Tab,p2):=hd2
  have h1:=Lib.cells_of_tab Tryz.underlying238 Tryz.underlying159 (by kernel_rfl) (by kernel_rfl) hd
  have hgs:Tryz.prog.globalNamed "strings.asciiSpace" = some 0:=by kernel_rfl
  have hts:(Tryz.prog.globals[0]?).map (·.type) = some 213:=by kernel_rfl
  obtain rfl:=Option.some.inj (hgs.symm.trans hg4)
  obtain rfl:=Option.some.inj (hts.symm.trans ht4)
  have hds:DataW.trod _ Tryz.prog W 0 _ false f4 213 cs4.toList = some (Lib.tabData .u8 Lib.asciiSpaceTab,p4):=hd4
  have h2:=Lib.cells_of_tab Tryz.underlying213 Tryz.underlying5 (by kernel_rfl) (by kernel_rfl) hds
  refine ⟨?_,?_⟩
  · show W.var? Tryz.prog "internal/strconv.uint64pow10" = some (Lib.pow10Tab.map fun z => Value.int .u64 z).toArray
    rw [hv2,← h1]
  · show W.var? Tryz.prog "strings.asciiSpace" = some (Lib.asciiSpaceTab.map fun z => Value.int .u8 z).toArray
    rw [hv4,← h2]
theorem door_met (os : Os) (args : Array Value) : laidMetH Tryz.prog laidV ((World.doorLaid Tryz.prog 400 os).forCall (fun _ _ => 0) ⟨#[], args, []⟩).memory :=
  laidMetH_of_parts3 (fuel := 8) (laidMet_of_run' 8 (by kernel_rfl) (by kernel_rfl)) (by kernel_rfl) (by kernel_rfl)
end Go.Proofs.YtkjonfojileipaaGreatDoor.FnExactArmsOk
end
