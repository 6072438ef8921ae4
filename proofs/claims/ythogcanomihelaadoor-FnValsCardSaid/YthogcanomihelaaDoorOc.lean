/- The law FnVals returns true for every slice of bytes, and the slice reads as it did. -/
import Derived.Test.YthogcanomihelaaDoorRows
import Derived.Test.YthogcanomihelaaDoorCards
import Derived.Test.YthogcanomihelaaDoorTie
import Derived.SevenTiedAt
import Derived.Test.YthogcanomihelaaDoorVi
import Derived.Test.YthogcanomihelaaDoorPok
import Derived.Test.YthogcanomihelaaDoorAe18
import Derived.ProofKit
import Derived.OpenShut
import Derived.Below
import Derived.ChangeSame
import Derived.LaidMore
import Derived.Stop.Joined
import Derived.Lib.LaidTab
set_option linter.unusedSimpArgs false
set_option linter.unusedVariables false
namespace Go.Proofs.YthogcanomihelaaDoor.FnVals
open Go Go.ChangeShapes Go.WideShapes Go.ChangeAt Go.RowKit Go.Proofs.YthogcanomihelaaDoor.Ae

section
variable {H : Type} {enc : TypeId × Value → H} {P : Program}
/-- A lemma of the guide's, as it asks to be copied. -/
theorem post_of_below {f : Func} {s : ChangeSpec} {apart fresh handsOn again : Bool} {W W' : World} {args : Array Value} {v : Value} {ds gs : List (DataW H)} {before pa pv : List MemPlace}
    (hW : DataW.Whole enc P f.params.toList s.vars apart W args.toList ds gs before)
    (hres : ∀ (b : Nat) (sp : Nat → Bool) (hd : Bool), DataW.TrodAll enc P W' b sp hd f.resultTypes.toList (v.resultList f.resultTypes.size) (s.fn H (ds ++ gs)).results [])
    (hargs : ∀ sp : Nat → Bool, (∀ p ∈ before, sp p.block = true) → DataW.TrodAll enc P W' 0 sp true f.params.toList args.toList (s.fn H (ds ++ gs)).args pa)
    (hvars : ∀ sp : Nat → Bool, (∀ p ∈ before, sp p.block = true) → DataW.TrodVars enc P W' sp s.vars (s.fn H (ds ++ gs)).vars pv)
    (hps : before = pa ++ pv) (hb : Below W.heap.size W W')
    (hok : ∀ (j : Nat) (t : TypeId) (r : Value), f.resultTypes[j]? = some t → (v.resultList f.resultTypes.size)[j]? = some r → Value.okWide P W' .any 0 t r) :
    s.post enc P f apart fresh handsOn again W args v W' := by
  have hlt : ∀ p ∈ before, p.block < W.heap.size := fun p hp => hW.lt p hp
  have hold : ∀ p ∈ before, (fun b => decide (b < W.heap.size)) p.block = true := fun p hp => by simpa using hlt p hp
  refine ⟨ds, gs, before, [], pa, pv, hW, hres _ _ _, hargs _ hold, hvars _ hold, World.keptBut_mono (fun p hp => ⟨hp, ?_⟩) (hb.frame (· ∈ before)), fun _ => ?_⟩
  · rw [hps, List.mem_append] at hp
    exact Or.inr hp
  · obtain ⟨_, _, _, _, _, hz, hn⟩ := hW
    refine ⟨hok, _, _, ([] ++ pa) ++ pv, ⟨[] ++ pa, pv, trodAll_append (hargs _ (fun _ _ => rfl)) (hres _ _ _), hvars _ (fun _ _ => rfl), rfl, ?_, ?_⟩, ?_⟩
    · intro b off hp
      have hin : MemPlace.cell b off ∈ before := by rw [hps]; simpa using hp
      rw [hb.frozen (hlt _ hin)]
      exact hz b off hin
    · intro ha
      have := hn ha
      rw [hps] at this
      simpa using this
    · intro p hp _
      rw [hps]
      simpa using hp
end

theorem own : ownKnob Tryd.prog.godebug = none := by kernel_rfl
theorem laidOut : laidOutB Tryd.prog = true := by kernel_rfl
theorem cellsE : Tryd.prog.cellsOf 5 = 1 := by kernel_rfl

open Go.Proofs.YthogcanomihelaaDoor.Gv
theorem bytes_are (l : List Int) (hb : ∀ n ∈ l, 0 ≤ n ∧ n < 256) : ByteL (l.map (AV.int .u8)) := by
  intro j x hx
  rw [List.getElem?_map] at hx
  obtain ⟨b, hb1, rfl⟩ := Option.map_eq_some_iff.1 hx
  exact ⟨b, rfl, hb b (List.mem_of_getElem? hb1)⟩
theorem law_any (l : List Int) (hb : ∀ n ∈ l, 0 ≤ n ∧ n < 256) (hl : l.length ≤ maxLen) : ∃ s, callF (tab tbl) prim 3 [bytesIn l] noStore = some (.bool true, s) := by
  unfold maxLen at hl
  obtain ⟨v, s, e, rfl⟩ := law false l.length (l.map (AV.int .u8)) noStore (by simp) (by omega) (bytes_are l hb)
  exact ⟨s, e⟩
/-- The row's list. -/
def laidV : List (String × DataW Unit) := [("math/bits.deBruijn32tab", Rows.laid_math_bits_deBruijn32tab), ("math/bits.deBruijn64tab", Rows.laid_math_bits_deBruijn64tab), ("internal/strconv.uint64pow10", Rows.laid_internal_strconv_uint64pow10)]
theorem pow_dat : (Rows.laid_internal_strconv_uint64pow10 : DataW Unit) = Lib.tabData .u64 Lib.pow10Tab := rfl
theorem good_of {W : World} (h : laidMetH Tryd.prog laidV W) : WGood W := by
  rw [MakeChecks.laidMetH_plain _ _ _ (by kernel_rfl)] at h
  obtain ⟨ps, ⟨_, _, _, _, _, _, _, _, _, _, ⟨_, _, _, _, _, _, _, _, _, _, ⟨g2, t2, cs2, f2, p2, q2, hg2, ht2, hv2, hd2, _⟩, _⟩, _⟩, _⟩ := h
  have hg : Tryd.prog.globalNamed "internal/strconv.uint64pow10" = some 0 := by kernel_rfl
  have ht : (Tryd.prog.globals[0]?).map (·.type) = some 83 := by kernel_rfl
  obtain rfl := Option.some.inj (hg.symm.trans hg2)
  obtain rfl := Option.some.inj (ht.symm.trans ht2)
  have hd : DataW.trod _ Tryd.prog W 0 _ false f2 83 cs2.toList = some (Lib.tabData .u64 Lib.pow10Tab, p2) := hd2
  have := Lib.cells_of_tab Tryd.underlying83 Tryd.underlying74 (by kernel_rfl) (by kernel_rfl) hd
  show W.var? Tryd.prog "internal/strconv.uint64pow10" = some (Lib.pow10Tab.map fun z => Value.int .u64 z).toArray
  rw [hv2, ← this]
/-- The door's own heap meets the condition. -/
theorem door_met (os : Os) (args : Array Value) : laidMetH Tryd.prog laidV ((World.doorLaid Tryd.prog 400 os).forCall (fun _ _ => 0) ⟨#[], args, []⟩).memory :=
  laidMetH_of_parts3 (fuel := 8) (laidMet_of_run' 8 (by kernel_rfl) (by kernel_rfl)) (by kernel_rfl) (by kernel_rfl)
/-- What the call comes to. -/
theorem law_call {l : List Int} {w : World} {v : Value} (hgood : WGood w) (hb : ∀ n ∈ l, (Lit.int .u8 n).wf = true) (hl : l.length ≤ maxLen)
    (hv : ∃ A cap b o, v = .slice A l.length cap ∧ l.length ≤ cap ∧ (0 < cap → ∃ a, A = some a) ∧ (l ≠ [] → A = some ⟨b, o, none⟩) ∧ ∀ i, i < l.length → w.cell? ⟨b, o + i, none⟩ = some (.int .u8 (l.getD i 0))) :
    Calls Tryd.prog 3 #[v] w fun e w' => e = .returned (.bool true) ∧ Kept w w' := by
  obtain ⟨s', h⟩ := law_any l (fun n hn => by have := hb n hn; simp [Lit.wf, IntKind.min, IntKind.max, IntKind.signed, IntKind.bits] at this; omega) hl
  exact bytes_call (by kernel_rfl) tbl_fits.fits prim_sound (fc := c3) rfl h hgood hv

set_option maxRecDepth 100000 in
theorem lifted (os : Os) (started : os.Started) (H : Type) (enc : TypeId × Value → H) :
    ReturnsInHanded Rows.fnValsRow.assume Tryd.checked os 3 .any (fun w args => (Rows.fnValsSpec.pre enc Tryd.prog Tryd.f3 [] false w args ∧ laidMetH Tryd.prog laidV w) ∧ sizedMet enc Tryd.prog Tryd.f3 (OpenSpec.ofChange Rows.fnValsSpec) false w args)
      (Rows.fnValsSpec.post enc Tryd.prog Tryd.f3 false true false false) := by
  refine returnsInHanded_of_change_and (C := Tryd.checked) (X := fun w _ => laidMetH Tryd.prog laidV w) (fun _ _ _ hh h => h.of_heap hh) own started (by kernel_rfl) Tryd.func3
    (ChangeSpec.witness_shaped (enc := enc) (C := Tryd.checked) (os := os) (X := fun w _ => laidMetH Tryd.prog laidV w) false (World.doorLaid Tryd.prog 400 os) #[.slice none 0 0] 8 rfl (World.shaped_of_RefB (by kernel_rfl) (by kernel_rfl)) (by kernel_rfl) (by kernel_rfl) (by kernel_rfl) (door_met os _)) ?_
  intro W base args ds gs before hval0 hW _ _ hL _
  have hgood := good_of hL
  have hval : ∀ (j : Nat) t v, Tryd.f3.params[j]? = some t → args[j]? = some v → Value.okWide Tryd.prog W .any base t v := hval0
  have hW' := hW
  obtain ⟨p, q, hA0, hV, rfl, hfz, hnd⟩ := hW
  have hA : DataW.TrodAll enc Tryd.prog W 0 (fun _ => true) true Tryd.f3.params.toList args.toList ds p := hA0
  rw [Tryd.params3] at hA hval
  obtain ⟨v0, d0, rfl, rfl, h0⟩ := trodAll_one hA
  obtain ⟨rfl, rfl⟩ := trodVars_none hV
  obtain ⟨a1, len, cap, rfl⟩ := okWide_slice Tryd.underlying22 (hval 0 22 v0 rfl rfl)
  clear hA0 hval0
  simp only [List.append_nil] at hW'
  have hlt : ∀ x ∈ p, x.block < W.heap.size := fun x hx => by simpa using hW'.lt x hx
  have shut : ∀ (e : Ending) (W' : World), (e = .returned (.bool true) ∧ Kept W W') → ∃ v, e = .returned v ∧ Rows.fnValsSpec.post enc Tryd.prog Tryd.f3 false true false false W #[.slice a1 len cap] v W' := by
    intro e W' he
    obtain ⟨rfl, hk⟩ := he
    exact ⟨_, rfl, post_of_below (pa := p) (pv := []) hW' (fun _ _ _ => trodAll_mk1 (shut_bool Tryd.underlying4 _))
      (fun sp hsp => trodAll_mk1 (WideElems.Trod_stays laidOut (by kernel_rfl) (of_decide_eq_true (by kernel_rfl)) h0 (fun x hx => hk.below.same (hlt x hx)) fun x hx => hsp x hx)) (fun _ _ => rfl) (by simp)
      hk.below (ok_one (by kernel_rfl) rfl (okWide_bool_mk Tryd.underlying4 _))⟩
  obtain ⟨fuel, hf⟩ := h0
  rcases open_ints Tryd.underlying22 Tryd.underlying5 cellsE hf with ⟨hcs, hx⟩ | ⟨a, len', cap', zs, hcs, hbase, hl, hm, hz, hx, hcell, hwz⟩
  · simp [Value.cells] at hcs
    obtain ⟨rfl, rfl, rfl⟩ := hcs
    exact (law_call hgood (l := []) (w := W) (v := .slice none 0 0) (fun n h => by cases h) (Nat.zero_le _) ⟨none, 0, 0, 0, rfl, Nat.le_refl _, fun h => absurd h (Nat.lt_irrefl _), fun h => absurd rfl h, fun i h => absurd h (Nat.not_lt_zero _)⟩).mono shut
  · simp [Value.cells] at hcs
    obtain ⟨rfl, rfl, rfl⟩ := hcs
    simp only [if_true] at hz
    obtain ⟨ab, ao, spot⟩ := a
    have hlen : (zs.take len).length = len := by rw [List.length_take]; omega
    have hsp : 0 < cap → spot = none := fun h0 => by simpa [Addr.add] using World.cell?_spot (hcell 0 (by omega))
    refine (law_call hgood (l := zs.take len) (w := W) (v := .slice (some ⟨ab, ao, spot⟩) len cap) (fun n h => hwz n (List.mem_of_mem_take h)) (by rw [hlen]; omega)
      ⟨some ⟨ab, ao, spot⟩, cap, ab, ao, by rw [hlen], by rw [hlen]; exact hl, fun _ => ⟨_, rfl⟩, fun hne => ?_, fun i hi => ?_⟩).mono shut
    · have h0 : 0 < cap := by
        rcases Nat.eq_zero_or_pos len with h0 | h0
        · subst h0; simp at hne
        · omega
      rw [hsp h0]
    · rw [hlen] at hi
      have h1 := hcell i (by omega)
      have h2 := hsp (by omega)
      subst h2
      rw [Addr.add_lit] at h1
      rw [h1]
      simp [List.getD_eq_getElem?_getD, List.getElem?_take, hi]

/-- The row. -/
theorem row_holds : Rows.FnValsSaid :=
  OpenClaim.holds_of_wide 3 Tryd.f3 rfl rfl rfl rfl rfl rfl rfl ⟨rfl, rfl, rfl, rfl, rfl⟩ rfl rfl rfl rfl rfl (by kernel_rfl) Tryd.func3 (by kernel_rfl)
    (of_decide_eq_true (by kernel_rfl)) (by unfold Func.isWrapper; first | (rw [if_pos (by decide +kernel)]; kernel_rfl) | (rw [if_neg (by decide +kernel)]; exact ⟨rfl, rfl⟩))
    (fun os started H enc _ => lifted os started H enc)
/-- THE STATEMENT: the tied card. -/
theorem holds : Rows.FnValsCardSaid :=
  Claim7.holds_tied_plain_at .later [] [.data, .data, .data] true (true, "d17dc5318c658fdbafa60e03d708c094fafeccbdea2e15013ee73581a0693f99") false
    row_holds (fun _ h => by cases h) (by kernel_rfl) (fun _ h => by cases h) fnVals_row_tie rfl ⟨rfl, rfl⟩ (by kernel_rfl) rfl
    (fun f fn hf hfn => by
      obtain rfl : f = 3 := Option.some.inj ((show Tryd.prog.funcNamed "loop.example/g00293/laws.FnVals" = some 3 by kernel_rfl).symm.trans hf) |>.symm
      obtain rfl : fn = Tryd.f3 := (Option.some.inj (Tryd.func3.symm.trans hfn)).symm
      exact ⟨by kernel_rfl, fun j t ht => by
        rw [Tryd.params3] at ht
        have hm : t ∈ [22] := by simpa using Array.mem_of_getElem? ht
        have hall : ([22].all fun u => !Tryd.prog.wantsStandIn u) = true := by kernel_rfl
        exact (show Tryd.prog.wantsStandIn t = false by simpa using List.all_eq_true.1 hall t hm)⟩)
    (by kernel_rfl)
#print axioms holds
end Go.Proofs.YthogcanomihelaaDoor.FnVals
