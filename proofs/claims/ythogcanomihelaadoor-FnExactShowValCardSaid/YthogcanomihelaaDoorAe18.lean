/- A law over one slice of bytes: from the evaluator's answer to the call. -/
import Derived.Test.YthogcanomihelaaDoorAe17
import Derived.ProofKit
set_option linter.unusedSimpArgs false
set_option linter.unusedVariables false
namespace Go.Proofs.YthogcanomihelaaDoor.Ae
open Go Go.RowKit

theorem callF_calls {P : Program} {T : Nat → Option FC} {prim : CallT} (hm : P.follows .mixedOrders = true) (hT : Fits P T) (hp : CallOK P prim) {f : Nat} {fc : FC} (hf : T f = some fc) {args : List AV} {s s' : Store} {v : AV}
    (h : callF T prim f args s = some (v, s')) {L : Nat → Nat → Loc} {C : Cs} {w : World} {us : List Value} (hR : SR s L C w) (hv : VRs s L C w args us) :
    Calls P f us.toArray w fun e w' => ∃ u, e = .returned u ∧ Post s L C w s' v u w' := by
  obtain ⟨n, hn⟩ := callF_ex h
  cases n with
  | zero => cases hn
  | succ n =>
    simp only [callN, hf] at hn
    obtain ⟨fn, vm, h1, h2⟩ := hT f fc hf
    exact (F_sound hm (callN_sound hm hT hp n) h1 h2 hn hR hv).2

def noStore : Store := ⟨[], []⟩
theorem noStore_get (d i : Nat) : noStore.get d i = none := by
  unfold Store.get noStore
  split <;> simp
theorem noStore_mat {L : Nat → Nat → Loc} {d i : Nat} (h : Mat noStore L d i) : False := by
  rcases h with ⟨_, _, h⟩ | ⟨_, _, _, _, _, h, _⟩ <;> rw [noStore_get] at h <;> cases h
theorem noStore_rel {L : Nat → Nat → Loc} {C : Cs} {w : World} (h : ∀ b o, C b o → ∃ v, w.cell? ⟨b, o, none⟩ = some v) (hz : ∀ b, ¬ C.fz b) (h0 : C.w0 = w) (hg : WGood w) : SR noStore L C w :=
  ⟨fun d i o hg => absurd ((noStore_get d i).symm.trans hg) (by simp), fun _ _ _ _ h _ _ => (noStore_mat h).elim, h, fun b h => (hz b h).elim, fun _ _ h => (noStore_mat h).elim, fun _ _ => by rw [h0], by rw [h0]; exact Nat.le_refl _, by rw [h0]; exact hg⟩
/-- All that lay there lies there as it did. -/
structure Kept (w w' : World) : Prop where
  below : Below w.heap.size w w'
theorem kept_of {L L' : Nat → Nat → Loc} {C C' : Cs} {w w' : World} {s' : Store} {D : Nat} (hz : ∀ b, ¬ C.fz b) (h : Ext D noStore L C w s' L' C' w') : Kept w w' :=
  ⟨⟨h.os, h.tape, h.output, h.size, fun b hb => h.frame b hb (fun ⟨_, _, hm, _⟩ => (noStore_mat hm).elim) fun hq => (h.fzb b hq).elim (hz b) fun h1 => by omega⟩⟩

/-- Bytes that come in. -/
def bytesIn (l : List Int) : AV := .imm false l.length (l.map (.int .u8))
theorem bytesIn_ok (l : List Int) : cellsOk 0 (l.map (AV.int .u8)) = true := by
  simp [cellsOk, AV.isCell, AV.lowB]

theorem bytes_call {P : Program} {T : Nat → Option FC} {prim : CallT} (hm : P.follows .mixedOrders = true) (hT : Fits P T) (hp : CallOK P prim) {f : Nat} {fc : FC} (hf : T f = some fc) {l : List Int} {s' : Store}
    (h : callF T prim f [bytesIn l] noStore = some (.bool true, s')) {w : World} {v : Value} (hgood : WGood w)
    (hv : ∃ A cap b o, v = .slice A l.length cap ∧ l.length ≤ cap ∧ (0 < cap → ∃ a, A = some a) ∧ (l ≠ [] → A = some ⟨b, o, none⟩) ∧ ∀ i, i < l.length → w.cell? ⟨b, o + i, none⟩ = some (.int .u8 (l.getD i 0))) :
    Calls P f #[v] w fun e w' => e = .returned (.bool true) ∧ Kept w w' := by
  have key : ∀ C : Cs, (∀ b, ¬ C.fz b) → C.w0 = w → (∀ b o, C b o → ∃ v, w.cell? ⟨b, o, none⟩ = some v) → VR noStore (fun _ _ => ⟨0, 0, 0⟩) C w (bytesIn l) v → Calls P f #[v] w fun e w' => e = .returned (.bool true) ∧ Kept w w' := by
    intro C hz h0 hC hvr
    refine (callF_calls hm hT hp hf h (noStore_rel hC hz h0 hgood) (VRs.one hvr)).mono fun e w' he => ?_
    obtain ⟨u, rfl, L', C', h1, _, h3⟩ := he
    cases h1
    exact ⟨rfl, kept_of hz h3⟩
  obtain ⟨A, cap, b, o, rfl, hle, hA, hne, hc⟩ := hv
  · refine key ⟨fun b' q => b' = b ∧ o ≤ q ∧ q < o + l.length, fun _ => False, w⟩ (fun _ h => h) rfl (fun b' q h => ?_) ?_
    · obtain ⟨rfl, h1, h2⟩ := h
      refine ⟨.int .u8 (l.getD (q - o) 0), ?_⟩
      have := hc (q - o) (by omega)
      rwa [show o + (q - o) = q by omega] at this
    · have hg : ∀ (j : Nat) x, (l.map (AV.int .u8))[j]? = some x → j < l.length ∧ x = .int .u8 (l.getD j 0) := by
        intro j x hx
        rw [List.getElem?_map] at hx
        cases hj : l[j]? with
        | none => rw [hj] at hx; cases hx
        | some y =>
          rw [hj] at hx
          obtain rfl := Option.some.inj hx
          exact ⟨(List.getElem?_eq_some_iff.1 hj).1, by simp [List.getD_eq_getElem?_getD, hj]⟩
      refine .imm false l.length _ A cap b o (fun j => .int .u8 (l.getD j 0)) ⟨hle, hA⟩ (fun h => by cases h) (bytesIn_ok l) (fun h => hne (by rintro rfl; exact h rfl)) (fun j x hx => ?_) fun j x hx => ?_
      · obtain ⟨h1, _⟩ := hg j x hx
        exact ⟨⟨rfl, by omega, by omega⟩, hc j h1⟩
      · obtain ⟨_, rfl⟩ := hg j x hx
        exact .int _ _
end Go.Proofs.YthogcanomihelaaDoor.Ae
