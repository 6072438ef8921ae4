/- The law FnOutside returns true for every slice of bytes, and the slice reads as it did. -/
import Derived.Test.YthogcanomihelaaRows
import Derived.Test.YthogcanomihelaaAe18
import Derived.ProofKit
import Derived.OpenShut
import Derived.Test.YthogcanomihelaaLq
set_option linter.unusedSimpArgs false
set_option linter.unusedVariables false
namespace Go.Proofs.Ythogcanomihelaa.FnOutside
open Go.ChangeShapes Go.WideShapes Go.ChangeAt Go.RowKit Go.Proofs.Ythogcanomihelaa.Ae

theorem own : ownKnob Try.prog.godebug = none := by kernel_rfl
theorem laidOut : laidOutB Try.prog = true := by kernel_rfl
theorem cellsE : Try.prog.cellsOf 5 = 1 := by kernel_rfl

open Go.Proofs.Ythogcanomihelaa.Ga
theorem bytes_are (l : List Int) (hb : ∀ n ∈ l, 0 ≤ n ∧ n < 256) : ByteL (l.map (AV.int .u8)) := by
  intro j x hx
  rw [List.getElem?_map] at hx
  obtain ⟨b, hb1, rfl⟩ := Option.map_eq_some_iff.1 hx
  exact ⟨b, rfl, hb b (List.mem_of_getElem? hb1)⟩
theorem law_any (l : List Int) (hb : ∀ n ∈ l, 0 ≤ n ∧ n < 256) (hl : l.length ≤ maxLen) : ∃ s, callF (tab tbl) noCall 3 [bytesIn l] noStore = some (.bool true, s) := by
  unfold maxLen at hl
  obtain ⟨v, s, e, rfl⟩ := law false l.length (l.map (AV.int .u8)) noStore (by simp) (by omega) (bytes_are l hb)
  exact ⟨s, e⟩
/-- What the call comes to. -/
theorem law_call {l : List Int} {w : World} {v : Value} (hb : ∀ n ∈ l, (Lit.int .u8 n).wf = true) (hl : l.length ≤ maxLen)
    (hv : ∃ A cap b o, v = .slice A l.length cap ∧ l.length ≤ cap ∧ (0 < cap → ∃ a, A = some a) ∧ (l ≠ [] → A = some ⟨b, o, none⟩) ∧ ∀ i, i < l.length → w.cell? ⟨b, o + i, none⟩ = some (.int .u8 (l.getD i 0))) :
    Calls Try.prog 3 #[v] w fun e w' => e = .returned (.bool true) ∧ Kept w w' := by
  obtain ⟨s', h⟩ := law_any l (fun n hn => by have := hb n hn; simp [Lit.wf, IntKind.min, IntKind.max, IntKind.signed, IntKind.bits] at this; omega) hl
  exact bytes_call (by kernel_rfl) tbl_fits.fits noCall_ok (fc := c3) rfl h hv

set_option maxRecDepth 100000 in
theorem lifted (os : Os) (started : os.Started) (H : Type) (enc : TypeId × Value → H) :
    ReturnsInHanded Rows.fnOutsideRow.assume Try.checked os 3 .any (Rows.fnOutsideSpec.pre6 enc Try.prog Try.f3 Rows.fnOutsideRow.domain false) (Rows.fnOutsideSpec.post enc Try.prog Try.f3 false true false false) := by
  refine returnsInHanded_of_change (C := Try.checked) own started (by kernel_rfl) Try.func3
    (ChangeSpec.witness6 (enc := enc) (C := Try.checked) false ⟨#[], #[.slice none 0 0], []⟩ 8 (by kernel_rfl) (by kernel_rfl) (by kernel_rfl) (by kernel_rfl)) ?_
  intro W base args ds gs before hval0 hW hcnd _
  have hval : ∀ (j : Nat) t v, Try.f3.params[j]? = some t → args[j]? = some v → Value.okWide Try.prog W .any base t v := hval0
  have hW' := hW
  obtain ⟨p, q, hA0, hV, rfl, hfz, hnd⟩ := hW
  have hA : DataW.TrodAll enc Try.prog W 0 (fun _ => true) true Try.f3.params.toList args.toList ds p := hA0
  rw [Try.params3] at hA hval
  obtain ⟨v0, d0, rfl, rfl, h0⟩ := trodAll_one hA
  obtain ⟨rfl, rfl⟩ := trodVars_none hV
  obtain ⟨a1, len, cap, rfl⟩ := okWide_slice Try.underlying22 (hval 0 22 v0 rfl rfl)
  clear hA0 hval0
  simp only [List.append_nil] at hW'
  have hlt : ∀ x ∈ p, x.block < W.heap.size := fun x hx => by simpa using hW'.lt x hx
  have shut : ∀ (e : Ending) (W' : World), (e = .returned (.bool true) ∧ Kept W W') → ∃ v, e = .returned v ∧ Rows.fnOutsideSpec.post enc Try.prog Try.f3 false true false false W #[.slice a1 len cap] v W' := by
    intro e W' he
    obtain ⟨rfl, hk⟩ := he
    exact ⟨_, rfl, post_of_same (pa := p) (pv := []) hW' (fun _ _ _ => trodAll_mk1 (shut_bool Try.underlying4 _))
      (fun sp hsp => trodAll_mk1 (WideElems.Trod_stays laidOut (by kernel_rfl) (of_decide_eq_true (by kernel_rfl)) h0 (fun x hx => hk.below.same (hlt x hx)) fun x hx => hsp x hx)) (fun _ _ => rfl) (by simp)
      (hk.below.frame _) hk.froz (ok_one (by kernel_rfl) rfl (okWide_bool_mk Try.underlying4 _))⟩
  obtain ⟨fuel, hf⟩ := h0
  rcases open_ints Try.underlying22 Try.underlying5 cellsE hf with ⟨hcs, hx⟩ | ⟨a, len', cap', zs, hcs, hbase, hl, hm, hz, hx, hcell, hwz⟩
  · simp [Value.cells] at hcs
    obtain ⟨rfl, rfl, rfl⟩ := hcs
    exact (law_call (l := []) (w := W) (v := .slice none 0 0) (fun n h => by cases h) (Nat.zero_le _) ⟨none, 0, 0, 0, rfl, Nat.le_refl _, fun h => absurd h (Nat.lt_irrefl _), fun h => absurd rfl h, fun i h => absurd h (Nat.not_lt_zero _)⟩).mono shut
  · simp [Value.cells] at hcs
    obtain ⟨rfl, rfl, rfl⟩ := hcs
    simp only [if_true] at hz
    obtain ⟨ab, ao, spot⟩ := a
    have hlen : (zs.take len).length = len := by rw [List.length_take]; omega
    have hsp : 0 < cap → spot = none := fun h0 => by simpa [Addr.add] using World.cell?_spot (hcell 0 (by omega))
    refine (law_call (l := zs.take len) (w := W) (v := .slice (some ⟨ab, ao, spot⟩) len cap) (fun n h => hwz n (List.mem_of_mem_take h)) (by rw [hlen]; omega)
      ⟨some ⟨ab, ao, spot⟩, cap, ab, ao, by rw [hlen], by rw [hlen]; exact hl, fun _ => ⟨_, rfl⟩, fun hne => ?_, fun i hi => ?_⟩).mono shut
    · have h0 : 0 < cap := by
        rcases Nat.eq_zero_or_pos len with h0 | h0
        · subst h0; simp at hne
        · omega
      rw [hsp h0]
    · rw [hlen] at hi
      have h1 := hcell i (by omega)
      have h2 := hsp (by omega)
      subst h2
      rw [Addr.add_lit] at h1
      rw [h1]
      simp [List.getD_eq_getElem?_getD, List.getElem?_take, hi]

/-- THE STATEMENT. -/
theorem holds : Rows.FnOutsideSaid :=
  OpenClaim.holds_of_wide 3 Try.f3 rfl rfl rfl rfl rfl rfl rfl ⟨rfl, rfl, rfl, rfl, rfl⟩ rfl rfl rfl rfl rfl (by kernel_rfl) Try.func3 (by kernel_rfl)
    (of_decide_eq_true (by kernel_rfl)) (by unfold Func.isWrapper; first | (rw [if_pos (by decide +kernel)]; kernel_rfl) | (rw [if_neg (by decide +kernel)]; exact ⟨rfl, rfl⟩))
    (fun os started H enc _ => lifted os started H enc)
#print axioms holds
end Go.Proofs.Ythogcanomihelaa.FnOutside
