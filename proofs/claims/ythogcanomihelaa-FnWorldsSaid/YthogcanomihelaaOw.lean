/- The law FnWorlds returns true for every slice of bytes, and the slice reads as it did. -/
import Derived.Test.YthogcanomihelaaRows
import Derived.Test.YthogcanomihelaaAe18
import Derived.ProofKit
import Derived.OpenShut
import Derived.Test.YthogcanomihelaaPok
import Derived.Test.YthogcanomihelaaWo
import Derived.Below
import Derived.ChangeSame
set_option linter.unusedSimpArgs false
set_option linter.unusedVariables false
namespace Go.Proofs.Ythogcanomihelaa.FnWorlds
open Go Go.ChangeShapes Go.WideShapes Go.ChangeAt Go.RowKit Go.Proofs.Ythogcanomihelaa.Ae

section
variable {H : Type} {enc : TypeId × Value → H} {P : Program}
/-- A lemma of the guide's, as it asks to be copied. -/
theorem post_of_below {f : Func} {s : ChangeSpec} {apart fresh handsOn again : Bool} {W W' : World} {args : Array Value} {v : Value} {ds gs : List (DataW H)} {before pa pv : List MemPlace}
    (hW : DataW.Whole enc P f.params.toList s.vars apart W args.toList ds gs before)
    (hres : ∀ (b : Nat) (sp : Nat → Bool) (hd : Bool), DataW.TrodAll enc P W' b sp hd f.resultTypes.toList (v.resultList f.resultTypes.size) (s.fn H (ds ++ gs)).results [])
    (hargs : ∀ sp : Nat → Bool, (∀ p ∈ before, sp p.block = true) → DataW.TrodAll enc P W' 0 sp true f.params.toList args.toList (s.fn H (ds ++ gs)).args pa)
    (hvars : ∀ sp : Nat → Bool, (∀ p ∈ before, sp p.block = true) → DataW.TrodVars enc P W' sp s.vars (s.fn H (ds ++ gs)).vars pv)
    (hps : before = pa ++ pv) (hb : Below W.heap.size W W')
    (hok : ∀ (j : Nat) (t : TypeId) (r : Value), f.resultTypes[j]? = some t → (v.resultList f.resultTypes.size)[j]? = some r → Value.okWide P W' .any 0 t r) :
    s.post enc P f apart fresh handsOn again W args v W' := by
  have hlt : ∀ p ∈ before, p.block < W.heap.size := fun p hp => hW.lt p hp
  have hold : ∀ p ∈ before, (fun b => decide (b < W.heap.size)) p.block = true := fun p hp => by simpa using hlt p hp
  refine ⟨ds, gs, before, [], pa, pv, hW, hres _ _ _, hargs _ hold, hvars _ hold, World.keptBut_mono (fun p hp => ⟨hp, ?_⟩) (hb.frame (· ∈ before)), fun _ => ?_⟩
  · rw [hps, List.mem_append] at hp
    exact Or.inr hp
  · obtain ⟨_, _, _, _, _, hz, hn⟩ := hW
    refine ⟨hok, _, _, ([] ++ pa) ++ pv, ⟨[] ++ pa, pv, trodAll_append (hargs _ (fun _ _ => rfl)) (hres _ _ _), hvars _ (fun _ _ => rfl), rfl, ?_, ?_⟩, ?_⟩
    · intro b off hp
      have hin : MemPlace.cell b off ∈ before := by rw [hps]; simpa using hp
      rw [hb.frozen (hlt _ hin)]
      exact hz b off hin
    · intro ha
      have := hn ha
      rw [hps] at this
      simpa using this
    · intro p hp _
      rw [hps]
      simpa using hp
end

theorem own : ownKnob Try.prog.godebug = none := by kernel_rfl
theorem laidOut : laidOutB Try.prog = true := by kernel_rfl
theorem cellsE : Try.prog.cellsOf 5 = 1 := by kernel_rfl

open Go.Proofs.Ythogcanomihelaa.Gw
theorem bytes_are (l : List Int) (hb : ∀ n ∈ l, 0 ≤ n ∧ n < 256) : ByteL (l.map (AV.int .u8)) := by
  intro j x hx
  rw [List.getElem?_map] at hx
  obtain ⟨b, hb1, rfl⟩ := Option.map_eq_some_iff.1 hx
  exact ⟨b, rfl, hb b (List.mem_of_getElem? hb1)⟩
theorem law_any (l : List Int) (hb : ∀ n ∈ l, 0 ≤ n ∧ n < 256) (hl : l.length ≤ maxLen) : ∃ s, callF (tab tbl) prim 4 [bytesIn l] noStore = some (.bool true, s) := by
  unfold maxLen at hl
  obtain ⟨v, s, e, rfl⟩ := law false l.length (l.map (AV.int .u8)) noStore (by simp) (by omega) (bytes_are l hb)
  exact ⟨s, e⟩
/-- What the call comes to. -/
theorem law_call {l : List Int} {w : World} {v : Value} (hb : ∀ n ∈ l, (Lit.int .u8 n).wf = true) (hl : l.length ≤ maxLen)
    (hv : ∃ A cap b o, v = .slice A l.length cap ∧ l.length ≤ cap ∧ (0 < cap → ∃ a, A = some a) ∧ (l ≠ [] → A = some ⟨b, o, none⟩) ∧ ∀ i, i < l.length → w.cell? ⟨b, o + i, none⟩ = some (.int .u8 (l.getD i 0))) :
    Calls Try.prog 4 #[v] w fun e w' => e = .returned (.bool true) ∧ Kept w w' := by
  obtain ⟨s', h⟩ := law_any l (fun n hn => by have := hb n hn; simp [Lit.wf, IntKind.min, IntKind.max, IntKind.signed, IntKind.bits] at this; omega) hl
  exact bytes_call (by kernel_rfl) tbl_fits.fits prim_sound (fc := c4) rfl h trivial hv

set_option maxRecDepth 100000 in
theorem lifted (os : Os) (started : os.Started) (H : Type) (enc : TypeId × Value → H) :
    ReturnsInHanded Rows.fnWorldsRow.assume Try.checked os 4 .any (Rows.fnWorldsSpec.pre6 enc Try.prog Try.f4 Rows.fnWorldsRow.domain false) (Rows.fnWorldsSpec.post enc Try.prog Try.f4 false true false false) := by
  refine returnsInHanded_of_change (C := Try.checked) own started (by kernel_rfl) Try.func4
    (ChangeSpec.witness6 (enc := enc) (C := Try.checked) false ⟨#[], #[.slice none 0 0], []⟩ 8 (by kernel_rfl) (by kernel_rfl) (by kernel_rfl) (by kernel_rfl)) ?_
  intro W base args ds gs before hval0 hW hcnd _
  have hval : ∀ (j : Nat) t v, Try.f4.params[j]? = some t → args[j]? = some v → Value.okWide Try.prog W .any base t v := hval0
  have hW' := hW
  obtain ⟨p, q, hA0, hV, rfl, hfz, hnd⟩ := hW
  have hA : DataW.TrodAll enc Try.prog W 0 (fun _ => true) true Try.f4.params.toList args.toList ds p := hA0
  rw [Try.params4] at hA hval
  obtain ⟨v0, d0, rfl, rfl, h0⟩ := trodAll_one hA
  obtain ⟨rfl, rfl⟩ := trodVars_none hV
  obtain ⟨a1, len, cap, rfl⟩ := okWide_slice Try.underlying22 (hval 0 22 v0 rfl rfl)
  clear hA0 hval0
  simp only [List.append_nil] at hW'
  have hlt : ∀ x ∈ p, x.block < W.heap.size := fun x hx => by simpa using hW'.lt x hx
  have shut : ∀ (e : Ending) (W' : World), (e = .returned (.bool true) ∧ Kept W W') → ∃ v, e = .returned v ∧ Rows.fnWorldsSpec.post enc Try.prog Try.f4 false true false false W #[.slice a1 len cap] v W' := by
    intro e W' he
    obtain ⟨rfl, hk⟩ := he
    exact ⟨_, rfl, post_of_below (pa := p) (pv := []) hW' (fun _ _ _ => trodAll_mk1 (shut_bool Try.underlying4 _))
      (fun sp hsp => trodAll_mk1 (WideElems.Trod_stays laidOut (by kernel_rfl) (of_decide_eq_true (by kernel_rfl)) h0 (fun x hx => hk.below.same (hlt x hx)) fun x hx => hsp x hx)) (fun _ _ => rfl) (by simp)
      hk.below (ok_one (by kernel_rfl) rfl (okWide_bool_mk Try.underlying4 _))⟩
  obtain ⟨fuel, hf⟩ := h0
  rcases open_ints Try.underlying22 Try.underlying5 cellsE hf with ⟨hcs, hx⟩ | ⟨a, len', cap', zs, hcs, hbase, hl, hm, hz, hx, hcell, hwz⟩
  · simp [Value.cells] at hcs
    obtain ⟨rfl, rfl, rfl⟩ := hcs
    exact (law_call (l := []) (w := W) (v := .slice none 0 0) (fun n h => by cases h) (Nat.zero_le _) ⟨none, 0, 0, 0, rfl, Nat.le_refl _, fun h => absurd h (Nat.lt_irrefl _), fun h => absurd rfl h, fun i h => absurd h (Nat.not_lt_zero _)⟩).mono shut
  · simp [Value.cells] at hcs
    obtain ⟨rfl, rfl, rfl⟩ := hcs
    simp only [if_true] at hz
    obtain ⟨ab, ao, spot⟩ := a
    have hlen : (zs.take len).length = len := by rw [List.length_take]; omega
    have hsp : 0 < cap → spot = none := fun h0 => by simpa [Addr.add] using World.cell?_spot (hcell 0 (by omega))
    refine (law_call (l := zs.take len) (w := W) (v := .slice (some ⟨ab, ao, spot⟩) len cap) (fun n h => hwz n (List.mem_of_mem_take h)) (by rw [hlen]; omega)
      ⟨some ⟨ab, ao, spot⟩, cap, ab, ao, by rw [hlen], by rw [hlen]; exact hl, fun _ => ⟨_, rfl⟩, fun hne => ?_, fun i hi => ?_⟩).mono shut
    · have h0 : 0 < cap := by
        rcases Nat.eq_zero_or_pos len with h0 | h0
        · subst h0; simp at hne
        · omega
      rw [hsp h0]
    · rw [hlen] at hi
      have h1 := hcell i (by omega)
      have h2 := hsp (by omega)
      subst h2
      rw [Addr.add_lit] at h1
      rw [h1]
      simp [List.getD_eq_getElem?_getD, List.getElem?_take, hi]

/-- THE STATEMENT. -/
theorem holds : Rows.FnWorldsSaid :=
  OpenClaim.holds_of_wide 4 Try.f4 rfl rfl rfl rfl rfl rfl rfl ⟨rfl, rfl, rfl, rfl, rfl⟩ rfl rfl rfl rfl rfl (by kernel_rfl) Try.func4 (by kernel_rfl)
    (of_decide_eq_true (by kernel_rfl)) (by unfold Func.isWrapper; first | (rw [if_pos (by decide +kernel)]; kernel_rfl) | (rw [if_neg (by decide +kernel)]; exact ⟨rfl, rfl⟩))
    (fun os started H enc _ => lifted os started H enc)
#print axioms holds
end Go.Proofs.Ythogcanomihelaa.FnWorlds
