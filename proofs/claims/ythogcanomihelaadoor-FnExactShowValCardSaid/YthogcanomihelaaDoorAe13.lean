/- Regions whose order is drawn: whatever the order, what the text's order gives. -/
import Derived.Test.YthogcanomihelaaDoorAe12
set_option linter.unusedSimpArgs false
set_option linter.unusedVariables false
namespace Go.Proofs.YthogcanomihelaaDoor.Ae
open Go

def isEff : AOp → Bool
  | .lit _ _ _ _ arr fz => arr || fz
  | .alloc .. | .box .. | .store .. | .app .. | .mk .. | .clear .. | .call .. | .callv .. => true
  | _ => false
def isRead : AOp → Bool
  | .load .. | .slice .. | .b2s .. => true
  | _ => false

theorem litParts_pure {ρ : Opd → AV} {sz : Nat} : ∀ (ps : List (Nat × Opd)) (s s' : Store) (l : List (Nat × List AV)), litParts ρ false sz s ps = some (l, s') → s' = s ∧ ∀ s2, litParts ρ false sz s2 ps = some (l, s2)
  | [], s, s', l, h => by
    simp only [litParts, Option.some.injEq, Prod.mk.injEq] at h
    obtain ⟨rfl, rfl⟩ := h
    exact ⟨rfl, fun s2 => rfl⟩
  | (i, x) :: r, s, s', l, h => by
    simp only [litParts, Bool.false_eq_true, if_false, Option.bind_some] at h
    split at h
    · rename_i hc
      obtain ⟨⟨l', s1⟩, hl, h⟩ := bind_some h
      simp only [Option.some.injEq, Prod.mk.injEq] at h
      obtain ⟨rfl, rfl⟩ := h
      obtain ⟨h1, h2⟩ := litParts_pure r s s1 l' hl
      refine ⟨h1, fun s2 => ?_⟩
      simp only [litParts, Bool.false_eq_true, if_false, Option.bind_some]
      rw [if_pos hc, h2 s2]
      rfl
    · cases h
theorem lit_pure {e sz : Nat} {z : List AV} {ps : List (Nat × Opd)} {ρ : Opd → AV} {s s' : Store} {v : AV} (h : evOp (.lit e sz z ps false false) ρ s = some (v, s')) : s' = s ∧ ∀ s2, evOp (.lit e sz z ps false false) ρ s2 = some (v, s2) := by
  simp only [evOp] at h
  obtain ⟨⟨l, s1⟩, hl, h⟩ := bind_some h
  obtain ⟨cs, hcs, h⟩ := bind_some h
  simp only [Bool.false_eq_true, if_false] at h
  split at h
  · rename_i hc
    simp only [Option.some.injEq, Prod.mk.injEq] at h
    obtain ⟨rfl, rfl⟩ := h
    obtain ⟨h1, h2⟩ := litParts_pure ps s s1 l hl
    refine ⟨h1, fun s2 => ?_⟩
    simp only [evOp, h2 s2, Option.bind_some, hcs, Bool.false_eq_true, if_false]
    rw [if_pos hc]
  · cases h
theorem quiet_store {o : AOp} {ρ : Opd → AV} {s s' : Store} {v : AV} {call : CallT} (hq : isEff o = false) (h : evAct call o ρ s = some (v, s')) : s' = s := by
  by_cases hl : ∃ e sz z ps arr fz, o = .lit e sz z ps arr fz
  · obtain ⟨e, sz, z, ps, arr, fz, rfl⟩ := hl
    simp only [isEff, Bool.or_eq_false_iff] at hq
    obtain ⟨rfl, rfl⟩ := hq
    exact (lit_pure h).1
  cases o <;> try (simp only [isEff, Bool.true_eq_false] at hq; done)
  case lit e sz z ps arr fz => exact absurd ⟨e, sz, z, ps, arr, fz, rfl⟩ hl
  all_goals simp only [evAct, evOp] at h
  case mov => simp only [Option.some.injEq, Prod.mk.injEq] at h; exact h.2.symm
  case mkfn => simp only [Option.some.injEq, Prod.mk.injEq] at h; exact h.2.symm
  case ifc => simp only [Option.some.injEq, Prod.mk.injEq] at h; exact h.2.symm
  case load | bin | un | slice | convs | min =>
    obtain ⟨x, _, h⟩ := bind_some h
    simp only [Option.some.injEq, Prod.mk.injEq] at h
    exact h.2.symm
  case b2s =>
    obtain ⟨x, _, h⟩ := bind_some h
    split at h
    · obtain ⟨y, _, h⟩ := bind_some h
      simp only [Option.some.injEq, Prod.mk.injEq] at h
      exact h.2.symm
    · cases h
  case build =>
    obtain ⟨x, _, h⟩ := bind_some h
    obtain ⟨y, _, h⟩ := bind_some h
    simp only [Option.some.injEq, Prod.mk.injEq] at h
    exact h.2.symm
  all_goals
    repeat' (split at h)
    all_goals first
      | (simp only [Option.some.injEq, Prod.mk.injEq] at h; exact h.2.symm)
      | (cases h; done)
      | (obtain ⟨x, _, h⟩ := bind_some h
         simp only [Option.some.injEq, Prod.mk.injEq] at h
         exact h.2.symm)
theorem pure_any {o : AOp} {ρ : Opd → AV} {s s' : Store} {v : AV} {call : CallT} (hq : isEff o = false) (hr : isRead o = false) (h : evAct call o ρ s = some (v, s')) (s2 : Store) : evAct call o ρ s2 = some (v, s2) := by
  by_cases hl : ∃ e sz z ps arr fz, o = .lit e sz z ps arr fz
  · obtain ⟨e, sz, z, ps, arr, fz, rfl⟩ := hl
    simp only [isEff, Bool.or_eq_false_iff] at hq
    obtain ⟨rfl, rfl⟩ := hq
    exact (lit_pure h).2 s2
  cases o <;> try (simp only [isEff, isRead, Bool.true_eq_false] at hq hr; done)
  case lit e sz z ps arr fz => exact absurd ⟨e, sz, z, ps, arr, fz, rfl⟩ hl
  all_goals simp only [evAct, evOp] at h ⊢
  case mov => simp only [Option.some.injEq, Prod.mk.injEq] at h; rw [h.1]
  case mkfn => simp only [Option.some.injEq, Prod.mk.injEq] at h; rw [h.1]
  case ifc => simp only [Option.some.injEq, Prod.mk.injEq] at h; rw [h.1]
  case bin | un | convs | min =>
    obtain ⟨x, hx, h⟩ := bind_some h
    simp only [Option.some.injEq, Prod.mk.injEq] at h
    rw [hx, ← h.1]
    rfl
  case build =>
    obtain ⟨x, hx, h⟩ := bind_some h
    obtain ⟨y, hy, h⟩ := bind_some h
    simp only [Option.some.injEq, Prod.mk.injEq] at h
    rw [hx]
    simp only [Option.bind_some, hy, h.1]
  all_goals
    repeat' (split at h)
    all_goals first
      | (cases h; done)
      | (simp only [Option.some.injEq, Prod.mk.injEq] at h; simp_all; done)
      | (obtain ⟨x, hx, h⟩ := bind_some h
         simp only [Option.some.injEq, Prod.mk.injEq] at h
         simp_all; done)

theorem quiet_one {o : AO} {ls vs : List AV} {s s' : Store} {v : AV} {call : CallT} (hq : isEff o.op = false) (h : evOne call o ls vs s = some (v, s')) : s' = s := by
  unfold evOne at h
  split at h
  · exact quiet_store hq h
  · split at h
    · split at h
      · exact quiet_store hq h
      · simp only [Option.some.injEq, Prod.mk.injEq] at h; exact h.2.symm
    · simp only [Option.some.injEq, Prod.mk.injEq] at h; exact h.2.symm
    · cases h
theorem pure_one {o : AO} {ls vs : List AV} {s s' : Store} {v : AV} {call : CallT} (hq : isEff o.op = false) (hr : isRead o.op = false) (h : evOne call o ls vs s = some (v, s')) (s2 : Store) : evOne call o ls vs s2 = some (v, s2) := by
  unfold evOne at h ⊢
  split at h
  · exact pure_any hq hr h s2
  · split at h
    · rename_i b hb
      split at h
      · rename_i he
        rw [if_pos he]
        exact pure_any hq hr h s2
      · rename_i he
        rw [if_neg he]
        simp only [Option.some.injEq, Prod.mk.injEq] at h
        rw [h.1]
    · simp only [Option.some.injEq, Prod.mk.injEq] at h
      rw [h.1]
    · cases h

/-! ### the trace, as functions -/
structure Trace (call : CallT) (aops : List AO) (τ : Nat → Tr) (x : Nat → AV) : Prop where
  one : ∀ j o, aops[j]? = some o → evOne call o (τ j).ls (τ j).vs (τ j).s = some (x j, (τ (j + 1)).s) ∧ (τ (j + 1)).ls = (τ j).ls ++ [x j] ∧ (τ (j + 1)).vs = putV o.dv (τ j).vs (x j)

theorem evTr_spec {call : CallT} : ∀ (aops : List AO) (t : Tr) (l : List Tr), evTr call aops t = some l → l.length = aops.length + 1 ∧ l[0]? = some t ∧
    ∀ j o, aops[j]? = some o → ∃ a x s', l[j]? = some a ∧ evOne call o a.ls a.vs a.s = some (x, s') ∧ l[j + 1]? = some ⟨a.ls ++ [x], putV o.dv a.vs x, s'⟩
  | [], t, l, h => by
    simp only [evTr, Option.some.injEq] at h
    subst h
    exact ⟨rfl, rfl, fun j o h => by simp at h⟩
  | o :: r, t, l, h => by
    simp only [evTr] at h
    obtain ⟨⟨x, s'⟩, hx, h⟩ := bind_some h
    obtain ⟨l', hl, h⟩ := bind_some h
    simp only [Option.some.injEq] at h
    subst h
    obtain ⟨h1, h2, h3⟩ := evTr_spec r _ l' hl
    refine ⟨by simp [h1], rfl, fun j o' ho => ?_⟩
    cases j with
    | zero =>
      simp only [List.getElem?_cons_zero, Option.some.injEq] at ho
      subst ho
      exact ⟨t, x, s', rfl, hx, by simpa using h2⟩
    | succ j =>
      simp only [List.getElem?_cons_succ] at ho
      obtain ⟨a, x', s2, g1, g2, g3⟩ := h3 j o' ho
      exact ⟨a, x', s2, by simpa using g1, g2, by simpa using g3⟩

theorem trace_of {call : CallT} {aops : List AO} {vs : List AV} {s : Store} {l : List Tr} (h : evTr call aops ⟨[], vs, s⟩ = some l) :
    ∃ τ x, Trace call aops τ x ∧ τ 0 = ⟨[], vs, s⟩ ∧ (∀ t, l.getLast? = some t → t = τ aops.length) ∧ (∀ j t, l[j]? = some t → t = τ j) ∧ ∀ j, j < aops.length → x j = (τ (j + 1)).ls.getD j .undef := by
  obtain ⟨h1, h2, h3⟩ := evTr_spec aops _ l h
  let τ : Nat → Tr := fun j => l.getD j ⟨[], vs, s⟩
  have hτ : ∀ j t, l[j]? = some t → t = τ j := fun j t ht => by simp [τ, List.getD_eq_getElem?_getD, ht]
  have hlen : ∀ j, j ≤ aops.length → (τ j).ls.length = j := by
    intro j
    induction j with
    | zero => intro _; rw [← hτ 0 _ h2]; rfl
    | succ j ih =>
      intro hj
      obtain ⟨a, x, s', g1, _, g3⟩ := h3 j _ (List.getElem?_eq_getElem (show j < aops.length by omega))
      rw [← hτ _ _ g3]
      have := ih (by omega)
      rw [← hτ _ _ g1] at this
      simp [this]
  refine ⟨τ, fun j => (τ (j + 1)).ls.getD j .undef, ⟨fun j o ho => ?_⟩, (hτ 0 _ h2).symm, fun t ht => hτ _ _ ?_, hτ, fun _ _ => rfl⟩
  · have hj : j < aops.length := (List.getElem?_eq_some_iff.1 ho).1
    obtain ⟨a, x, s', g1, g2, g3⟩ := h3 j o ho
    have e1 := hτ _ _ g1
    have e3 := hτ _ _ g3
    have hl := hlen j (by omega)
    rw [← e1] at hl
    have hx : (τ (j + 1)).ls.getD j .undef = x := by rw [← e3]; simp [List.getD_eq_getElem?_getD, ← hl]
    simp only [hx]
    rw [← e1, ← e3]
    exact ⟨g2, rfl, rfl⟩
  · rw [List.getLast?_eq_getElem?, h1] at ht
    simpa using ht

theorem evTr_of_evOps {call : CallT} : ∀ (aops : List AO) (ls vs : List AV) (s : Store) (r : List AV × Store), evOps call aops ls vs s = some r →
    ∃ l t, evTr call aops ⟨ls, vs, s⟩ = some l ∧ l.getLast? = some t ∧ t.vs = r.1 ∧ t.s = r.2
  | [], ls, vs, s, r, h => by
    simp only [evOps, Option.some.injEq] at h
    subst h
    exact ⟨_, _, rfl, rfl, rfl, rfl⟩
  | o :: q, ls, vs, s, r, h => by
    simp only [evOps] at h
    obtain ⟨x, hx, h⟩ := bind_some h
    obtain ⟨l, t, h1, h2, h3, h4⟩ := evTr_of_evOps q _ _ _ r h
    refine ⟨⟨ls, vs, s⟩ :: l, t, ?_, ?_, h3, h4⟩
    · simp only [evTr, hx, Option.bind_some, h1]
    · cases l with
      | nil => cases h2
      | cons a b => simpa using h2

/-! ### what must stand ahead of what -/
def ins (l : List Nat) (x : Nat) : List Nat := if l.contains x then l else x :: l
def uni (l r : List Nat) : List Nat := r.foldl ins l
def anc1 (T : List (List Nat)) (es : List Edge) : List Nat := es.foldl (fun l e => if Region.binds .any e = true then uni (ins l e.on) (T.getD e.on []) else l) []
def ancs : List Oper → List (List Nat) → List (List Nat)
  | [], T => T
  | o :: r, T => ancs r (T ++ [anc1 T o.after.toList])

theorem mem_ins {l : List Nat} {x y : Nat} (h : y ∈ ins l x) : y = x ∨ y ∈ l := by
  unfold ins at h
  split at h
  · exact .inr h
  · simpa using h
theorem mem_uni {r : List Nat} : ∀ {l : List Nat} {y : Nat}, y ∈ uni l r → y ∈ l ∨ y ∈ r := by
  induction r with
  | nil => intro l y h; exact .inl h
  | cons x r ih =>
    intro l y h
    rcases ih (l := ins l x) h with h1 | h1
    · rcases mem_ins h1 with h2 | h2
      · exact .inr (by simp [h2])
      · exact .inl h2
    · exact .inr (by simp [h1])
theorem mem_anc1 {T : List (List Nat)} {es : List Edge} {y : Nat} (h : y ∈ anc1 T es) : ∃ e ∈ es, Region.binds .any e = true ∧ (y = e.on ∨ y ∈ T.getD e.on []) := by
  have key : ∀ (es : List Edge) (l : List Nat), y ∈ es.foldl (fun l e => if Region.binds .any e = true then uni (ins l e.on) (T.getD e.on []) else l) l →
      y ∈ l ∨ ∃ e ∈ es, Region.binds .any e = true ∧ (y = e.on ∨ y ∈ T.getD e.on []) := by
    intro es
    induction es with
    | nil => intro l h; exact .inl h
    | cons e es ih =>
      intro l h
      simp only [List.foldl_cons] at h
      rcases ih _ h with h1 | ⟨e', h1, h2⟩
      · split at h1
        · rename_i hb
          rcases mem_uni h1 with h2 | h2
          · rcases mem_ins h2 with h3 | h3
            · exact .inr ⟨e, by simp, hb, .inl h3⟩
            · exact .inl h3
          · exact .inr ⟨e, by simp, hb, .inr h2⟩
        · exact .inl h1
      · exact .inr ⟨e', by simp [h1], h2⟩
  rcases key es [] h with h1 | h1
  · cases h1
  · exact h1

/-- A set of operations that holds what each of them waits for. -/
def Shut (ops : Array Oper) (S : Nat → Prop) : Prop := ∀ i o, ops[i]? = some o → S i → ∀ e ∈ o.after, Region.binds .any e = true → S e.on
/-- What the table says must be there where all is there that operation i waits for. -/
def Good (ops : Array Oper) (T : List (List Nat)) : Prop := ∀ i o, i < T.length → ops[i]? = some o → ∀ S, Shut ops S → (∀ e ∈ o.after, Region.binds .any e = true → S e.on) → ∀ y ∈ T.getD i [], S y

theorem ancs_good {ops : Array Oper} : ∀ (r : List Oper) (T : List (List Nat)), ops.toList.drop T.length = r → Good ops T → T.length ≤ ops.size → Good ops (ancs r T) ∧ (ancs r T).length = ops.size
  | [], T, hr, hg, hle => by
    refine ⟨hg, ?_⟩
    have := congrArg List.length hr
    simp at this
    simp only [ancs]
    omega
  | o :: r, T, hr, hg, hle => by
    have ho : ops[T.length]? = some o := by
      have : (ops.toList.drop T.length)[0]? = some o := by rw [hr]; rfl
      rw [List.getElem?_drop, Nat.add_zero] at this
      simpa using this
    have hlt : T.length < ops.size := (Array.getElem?_eq_some_iff.1 ho).1
    simp only [ancs]
    refine ancs_good r (T ++ [anc1 T o.after.toList]) ?_ ?_ (by simp; omega)
    · rw [List.length_append, ← List.drop_drop, hr]
      rfl
    · intro i o' hi ho' S hS hd y hy
      rcases Nat.lt_or_ge i T.length with h1 | h1
      · rw [List.getD_eq_getElem?_getD, List.getElem?_append_left h1, ← List.getD_eq_getElem?_getD] at hy
        exact hg i o' h1 ho' S hS hd y hy
      · simp at hi
        obtain rfl : i = T.length := by omega
        rw [ho] at ho'
        obtain rfl := Option.some.inj ho'
        have hy' : y ∈ anc1 T o.after.toList := by simpa [List.getD_eq_getElem?_getD] using hy
        obtain ⟨e, he, hb, h2⟩ := mem_anc1 hy'
        have hSe := hd e (by simpa using he) hb
        rcases h2 with rfl | h2
        · exact hSe
        · have h3 : e.on < T.length := by
            rcases Nat.lt_or_ge e.on T.length with h | h
            · exact h
            · rw [List.getD_eq_getElem?_getD, List.getElem?_eq_none h] at h2; cases h2
          have h4 : e.on < ops.size := by omega
          exact hg e.on ops[e.on] h3 (Array.getElem?_eq_getElem h4) S hS (hS e.on _ (Array.getElem?_eq_getElem h4) hSe) y h2
theorem ancs_ok (ops : Array Oper) : Good ops (ancs ops.toList []) ∧ (ancs ops.toList []).length = ops.size :=
  ancs_good ops.toList [] rfl (fun i o h => by simp at h) (Nat.zero_le _)
end Go.Proofs.YthogcanomihelaaDoor.Ae
