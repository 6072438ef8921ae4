/- A call that only lends its arguments: what they name is read as frozen by the callee, and is as it was (and may be written) behind the call. -/
import Derived.Test.YthogcanomihelaaDoorAe18
set_option linter.unusedSimpArgs false
set_option linter.unusedVariables false
namespace Go.Proofs.YthogcanomihelaaDoor.Ae
open Go

def kill : Obj → Obj
  | .box _ _ => .arr 0 1 [] 0 0
  | .arr e sz _ ver _ => .arr e sz [] (ver + 1) 0
/-- All objects, as if they were not. -/
def dead (s : Store) : Store := ⟨s.low.map (·.map kill), s.top.map kill⟩
theorem dead_get (s : Store) (d i : Nat) : (dead s).get d i = (s.get d i).map kill := by
  unfold Store.get dead
  simp only [List.length_map]
  split
  · simp
  · rw [List.getElem?_map]
    cases s.low[d]? <;> simp
theorem dead_depth (s : Store) : (dead s).low.length = s.low.length := by simp [dead]
theorem dead_mat {s : Store} {d i : Nat} (h : Mat (dead s) (fun _ _ => ⟨0, 0, 0⟩) d i) : False := by
  rcases h with ⟨t, cs, h⟩ | ⟨e, sz, cs, ver, pr, _, h⟩
  · rw [dead_get] at h
    cases hg : s.get d i with
    | none => rw [hg] at h; cases h
    | some o => rw [hg] at h; cases o <;> simp [kill] at h
  · exact absurd h (Nat.lt_irrefl _)
theorem dead_own {s : Store} {b : Nat} (h : Own (dead s) (fun _ _ => ⟨0, 0, 0⟩) b) : False := by
  obtain ⟨d, i, h, _⟩ := h
  exact dead_mat h
/-- With all that objects hold never written. -/
def lentCs (s : Store) (L : Nat → Nat → Loc) (C : Cs) (w : World) : Cs := ⟨fun b o => C b o ∨ (Own s L b ∧ ∃ v, w.cell? ⟨b, o, none⟩ = some v), C.fz, C.w0⟩

section
variable {s : Store} {L : Nat → Nat → Loc} {C : Cs} {w : World}
theorem dead_rel (h : SR s L C w) : SR (dead s) (fun _ _ => ⟨0, 0, 0⟩) (lentCs s L C w) w := by
  refine ⟨fun d i o hg => ?_, fun d i d' i' hm => (dead_mat hm).elim, fun b o hc => ?_, fun b hb => ?_, fun d i hm => (dead_mat hm).elim, h.base, h.nsz, h.good⟩
  · rw [dead_get] at hg
    cases hs : s.get d i with
    | none => rw [hs] at hg; cases hg
    | some o' =>
      rw [hs] at hg
      simp only [Option.map_some, Option.some.injEq] at hg
      subst hg
      have ho := h.obj d i o' hs
      cases o' with
      | box t cs => exact ⟨Nat.one_pos, rfl, .inl ⟨rfl, rfl, rfl⟩⟩
      | arr e sz cs ver pr => exact ⟨ho.1, rfl, .inl ⟨rfl, rfl, rfl⟩⟩
  · rcases hc with hc | ⟨_, hc⟩
    · exact h.cok b o hc
    · exact hc
  · obtain ⟨h1, h2, _⟩ := h.fzok b hb
    exact ⟨h1, h2, fun ho => dead_own ho⟩
end

/-- A value that is lent, as the callee sees it. -/
def dfz : Nat → Store → AV → Option AV
  | 0, _, _ => none
  | k + 1, s, v =>
    match v with
    | .slr d i off n ver _ =>
      match s.get d i with
      | some (.arr _ sz cs ver' _) => if ver = ver' ∧ off + n * sz ≤ cs.length then (((cs.drop off).take (n * sz)).mapM (dfz k s)).bind fun l => some (.imm false n l) else none
      | _ => none
    | .imm _ n cs => some (.imm false n cs)
    | .bool b => some (.bool b)
    | .int t n => some (.int t n)
    | .str b => some (.str b)
    | .nilp => some .nilp
    | _ => none
def dfzA (k : Nat) (s : Store) : AV → Option AV
  | .agg cs => (cs.mapM (dfz k s)).bind fun l => some (.agg l)
  | v => dfz k s v

theorem mapM_get {α β : Type} {f : α → Option β} : ∀ {l : List α} {r : List β}, l.mapM f = some r → r.length = l.length ∧ ∀ (j : Nat) b, r[j]? = some b → ∃ a, l[j]? = some a ∧ f a = some b
  | [], r, h => by
    simp at h
    subst h
    exact ⟨rfl, fun j b hb => by simp at hb⟩
  | x :: l, r, h => by
    rw [List.mapM_cons] at h
    obtain ⟨y, hy, h⟩ := Option.bind_eq_some_iff.1 h
    obtain ⟨q, hq, h⟩ := Option.bind_eq_some_iff.1 h
    simp at h
    subst h
    obtain ⟨h1, h2⟩ := mapM_get hq
    refine ⟨by simp [h1], fun j b hb => ?_⟩
    cases j with
    | zero =>
      simp at hb
      subst hb
      exact ⟨x, rfl, hy⟩
    | succ j => simpa using h2 j b (by simpa using hb)
theorem mapM_mono {α β : Type} {f g : α → Option β} (hf : ∀ a b, f a = some b → g a = some b) : ∀ {l : List α} {r : List β}, l.mapM f = some r → l.mapM g = some r
  | [], r, h => by simpa using h
  | x :: l, r, h => by
    rw [List.mapM_cons] at h ⊢
    obtain ⟨y, hy, h⟩ := Option.bind_eq_some_iff.1 h
    obtain ⟨q, hq, h⟩ := Option.bind_eq_some_iff.1 h
    refine Option.bind_eq_some_iff.2 ⟨y, hf x y hy, Option.bind_eq_some_iff.2 ⟨q, mapM_mono hf hq, h⟩⟩
theorem dfz_mono {s : Store} : ∀ {k k' : Nat} {v a : AV}, k ≤ k' → dfz k s v = some a → dfz k' s v = some a
  | 0, k', v, a, _, h => by simp [dfz] at h
  | k + 1, 0, v, a, hk, h => by omega
  | k + 1, k' + 1, v, a, hk, h => by
    unfold dfz at h ⊢
    split at h <;> try exact h
    split at h
    · split at h
      · rename_i hc
        obtain ⟨l, hl, h⟩ := Option.bind_eq_some_iff.1 h
        simp only [if_pos hc]
        exact Option.bind_eq_some_iff.2 ⟨l, mapM_mono (fun a b hab => dfz_mono (by omega) hab) hl, h⟩
      · cases h
    · cases h
theorem dfzA_mono {s : Store} {k k' : Nat} {v a : AV} (hk : k ≤ k') (h : dfzA k s v = some a) : dfzA k' s v = some a := by
  unfold dfzA at h ⊢
  split at h
  · obtain ⟨l, hl, h⟩ := Option.bind_eq_some_iff.1 h
    exact Option.bind_eq_some_iff.2 ⟨l, mapM_mono (fun a b hab => dfz_mono hk hab) hl, h⟩
  · exact dfz_mono hk h
theorem dfz_ok {s : Store} : ∀ {k : Nat} {v a : AV}, dfz k s v = some a → a.isCell = true ∧ a.lowB 0 = true
  | 0, v, a, h => by simp [dfz] at h
  | k + 1, v, a, h => by
    unfold dfz at h
    split at h
    case _ =>
      split at h
      · split at h
        · obtain ⟨l, _, h⟩ := Option.bind_eq_some_iff.1 h
          simp only [Option.some.injEq] at h
          subst h
          exact ⟨rfl, rfl⟩
        · cases h
      · cases h
    all_goals first
      | (simp only [Option.some.injEq] at h; subst h; exact ⟨rfl, rfl⟩)
      | cases h

section
variable {s : Store} {L : Nat → Nat → Loc} {C : Cs} {w : World}
theorem dead_keeps : Keeps 0 s L C w (dead s) (fun _ _ => ⟨0, 0, 0⟩) (lentCs s L C w) w :=
  ⟨fun _ _ h => .inl h, fun _ _ _ => rfl, fun _ _ _ _ h => absurd h (Nat.not_lt_zero _), fun _ _ _ _ _ _ _ h => absurd h (Nat.not_lt_zero _), fun _ h => h⟩
theorem dfz_vr (h : SR s L C w) : ∀ (k : Nat) (v a : AV) (u : Value), dfz k s v = some a → VR s L C w v u → VR (dead s) (fun _ _ => ⟨0, 0, 0⟩) (lentCs s L C w) w a u
  | 0, v, a, u, hd, _ => by simp [dfz] at hd
  | k + 1, v, a, u, hd, hv => by
    unfold dfz at hd
    split at hd
    case _ d i off n ver full =>
      split at hd
      · rename_i e sz cs ver' pr hg
        split at hd
        · rename_i hc
          obtain ⟨l, hl, hd⟩ := Option.bind_eq_some_iff.1 hd
          simp only [Option.some.injEq] at hd
          subst hd
          obtain ⟨hll, hlg⟩ := mapM_get hl
          cases hv with
          | slr _ _ _ _ _ _ e2 sz2 cs2 ver2 pr2 _ hg2 hle hs2 hok2 =>
            rw [hg] at hg2
            obtain ⟨rfl, rfl, rfl, rfl, rfl⟩ : e = e2 ∧ sz = sz2 ∧ cs = cs2 ∧ ver' = ver2 ∧ pr = pr2 := by simpa using hg2
            obtain ⟨A, cap, rfl, hn, hf, hA⟩ := hok2 hc.1
            have ho := h.obj d i _ hg
            obtain ⟨hsz, hcok, ho⟩ := ho
            have hlen : l.length = n * sz := by rw [hll, List.length_take, List.length_drop]; omega
            have hcs : ∀ (j : Nat) x, l[j]? = some x → j < n * sz ∧ ∃ y, cs[off + j]? = some y ∧ dfz k s y = some x := by
              intro j x hx
              obtain ⟨y, hy, hx2⟩ := hlg j x hx
              have hj : j < n * sz := by have := (List.getElem?_eq_some_iff.1 hx).1; omega
              rw [List.getElem?_take_of_lt hj, List.getElem?_drop] at hy
              exact ⟨hj, y, hy, hx2⟩
            have hcapA : 0 < cap → ∃ a, A = some a := fun h0 => ⟨_, hA h0⟩
            have hcells : ∀ (j : Nat) x, l[j]? = some x → ∃ q, lentCs s L C w (L d i).blk ((L d i).base + off + j) ∧ w.cell? ⟨(L d i).blk, (L d i).base + off + j, none⟩ = some q ∧ VR (dead s) (fun _ _ => ⟨0, 0, 0⟩) (lentCs s L C w) w x q := by
              intro j x hx
              obtain ⟨hj, y, hy, hx2⟩ := hcs j x hx
              have hoff := (List.getElem?_eq_some_iff.1 hy).1
              rcases ho with ⟨_, _, h0⟩ | ⟨hlim, _, hbl, vs, hheap, hvl, hvr⟩
              · rw [h0] at hoff; simp at hoff
              · have hlt : (L d i).base + (off + j) < vs.length := by omega
                have hq := List.getElem?_eq_getElem hlt
                have hcell : w.cell? ⟨(L d i).blk, (L d i).base + off + j, none⟩ = some vs[(L d i).base + (off + j)] := by
                  rw [cell_of_heap hheap, ← hq, Nat.add_assoc]
                exact ⟨_, .inr ⟨⟨d, i, .inr ⟨e, sz, cs, ver', pr, hg, hlim⟩, rfl⟩, _, hcell⟩, hcell, dfz_vr h k y x _ hx2 (hvr _ _ _ hy hq)⟩
            refine .imm false n l A cap (L d i).blk ((L d i).base + off) (fun j => (w.cell? ⟨(L d i).blk, (L d i).base + off + j, none⟩).getD undef) ⟨hn, hcapA⟩ (fun h => by cases h) ?_ (fun hne => ?_) (fun j x hx => ?_) fun j x hx => ?_
            · simp only [cellsOk, List.all_eq_true, Bool.and_eq_true]
              intro x hx
              obtain ⟨j, hj⟩ := List.getElem?_of_mem hx
              obtain ⟨_, y, _, hx2⟩ := hcs j x hj
              exact dfz_ok hx2
            · refine hA ?_
              rcases Nat.eq_zero_or_pos cap with h0 | h0
              · have : n = 0 := by omega
                subst this
                exact absurd (List.eq_nil_of_length_eq_zero (by rw [hlen]; simp)) hne
              · exact h0
            · obtain ⟨q, h1, h2, _⟩ := hcells j x hx
              exact ⟨h1, by rw [h2]; rfl⟩
            · obtain ⟨q, _, h2, h3⟩ := hcells j x hx
              simp only [h2, Option.getD_some]
              exact h3
        · cases hd
      · cases hd
    case _ full n cs =>
      simp only [Option.some.injEq] at hd
      subst hd
      cases hv with
      | imm _ _ _ A cap b o q hn hf hok hA hc hr =>
        exact .imm false n cs A cap b o q hn (fun h => by cases h) hok hA (fun j x hx => ⟨.inl (hc j x hx).1, (hc j x hx).2⟩) fun j x hx => (hr j x hx).mono dead_keeps (cellsOk_get hok hx).2
    case _ b => simp only [Option.some.injEq] at hd; subst hd; cases hv; exact .bool _
    case _ t n => simp only [Option.some.injEq] at hd; subst hd; cases hv; exact .int _ _
    case _ b => simp only [Option.some.injEq] at hd; subst hd; cases hv; exact .str _
    case _ => simp only [Option.some.injEq] at hd; subst hd; cases hv; exact .nilp
    case _ => cases hd
theorem dfzA_vr (h : SR s L C w) (k : Nat) (v a : AV) (u : Value) (hd : dfzA k s v = some a) (hv : VR s L C w v u) : VR (dead s) (fun _ _ => ⟨0, 0, 0⟩) (lentCs s L C w) w a u := by
  unfold dfzA at hd
  split at hd
  · obtain ⟨l, hl, hd⟩ := Option.bind_eq_some_iff.1 hd
    simp only [Option.some.injEq] at hd
    subst hd
    obtain ⟨h1, h2⟩ := mapM_get hl
    cases hv with
    | agg _ vs hvl hvr =>
      refine .agg l vs (by omega) fun j x y hx hy => ?_
      obtain ⟨z, hz, hzx⟩ := h2 j x hx
      exact dfz_vr h k z x y hzx (hvr j z y hz hy)
  · exact dfz_vr h k v a u hd hv
end

/-- Values that name none but the newest objects. -/
def AV.clean (D n0 : Nat) : AV → Bool
  | .bool _ | .int _ _ | .str _ | .nilp | .nilfn | .nilifc => true
  | .imm _ _ cs => cs.isEmpty
  | .slr d i _ _ _ _ => decide (d = D) && decide (n0 ≤ i)
  | _ => false
def AV.cleanA (D n0 : Nat) : AV → Bool
  | .agg cs => cs.all (AV.clean D n0)
  | v => v.clean D n0
def AV.cleanR (D n0 : Nat) : AV → Bool
  | .tup vs => vs.all (AV.cleanA D n0)
  | v => v.cleanA D n0
/-- An object that the callee made, where it is clean. -/
def keepO (D n0 : Nat) : Obj → Obj
  | .arr e sz cs ver pr => if cs.all (AV.clean D n0) = true then .arr e sz cs ver 0 else kill (.arr e sz cs ver pr)
  | o => kill o
def after (s s1 : Store) : Store := ⟨s.low, s.top ++ (s1.top.drop s.top.length).map (keepO s.low.length s.top.length)⟩
open Classical in
/-- The lent arguments, whatever their depth. -/
noncomputable def lent (s : Store) (args : List AV) : Option (List AV) := if h : ∃ k azl, args.mapM (dfzA k s) = some azl then some h.choose_spec.choose else none
theorem lent_eq {s : Store} {args azl : List AV} {k : Nat} (h : args.mapM (dfzA k s) = some azl) : lent s args = some azl := by
  unfold lent
  have hx : ∃ k azl, args.mapM (dfzA k s) = some azl := ⟨k, azl, h⟩
  rw [dif_pos hx]
  have h2 := hx.choose_spec.choose_spec
  have h3 := mapM_mono (fun a b hab => dfzA_mono (Nat.le_max_left k hx.choose) hab) h
  have h4 := mapM_mono (fun a b hab => dfzA_mono (Nat.le_max_right k hx.choose) hab) h2
  rw [h3] at h4
  exact h4.symm
theorem lent_ex {s : Store} {args azl : List AV} (h : lent s args = some azl) : ∃ k, args.mapM (dfzA k s) = some azl := by
  unfold lent at h
  split at h
  · rename_i hx
    simp only [Option.some.injEq] at h
    exact ⟨hx.choose, h ▸ hx.choose_spec.choose_spec⟩
  · cases h
noncomputable def lend (call : CallT) : CallT := fun f args s => (lent s args).bind fun azl => (call f azl (dead s)).bind fun r =>
  if r.1.cleanR s.low.length s.top.length = true then some (r.1, after s r.2) else none

section
variable {s s1 : Store} {L L1 : Nat → Nat → Loc} {C C1 : Cs} {w w' : World}
theorem after_old {d i : Nat} {o : Obj} (h : s.get d i = some o) : (after s s1).get d i = some o ∧ ¬ (d = s.low.length ∧ s.top.length ≤ i) := by
  unfold Store.get after at *
  by_cases hd : d = s.low.length
  · simp only [if_pos hd] at h ⊢
    have := (List.getElem?_eq_some_iff.1 h).1
    exact ⟨by rw [List.getElem?_append_left this]; exact h, by omega⟩
  · simp only [if_neg hd] at h ⊢
    exact ⟨h, fun hq => hd hq.1⟩
theorem after_get (hlen : s1.low.length = s.low.length) {d i : Nat} {o : Obj} (h : (after s s1).get d i = some o) :
    s.get d i = some o ∨ (d = s.low.length ∧ s.top.length ≤ i ∧ ∃ o1, s1.get d i = some o1 ∧ o = keepO s.low.length s.top.length o1) := by
  unfold Store.get after at h
  unfold Store.get
  by_cases hd : d = s.low.length
  · simp only [if_pos hd] at h ⊢
    rcases Nat.lt_or_ge i s.top.length with hi | hi
    · rw [List.getElem?_append_left hi] at h
      exact .inl h
    · rw [List.getElem?_append_right hi, List.getElem?_map, List.getElem?_drop] at h
      obtain ⟨o1, h1, h2⟩ := Option.map_eq_some_iff.1 h
      refine .inr ⟨hd, hi, o1, ?_, h2.symm⟩
      rw [if_pos (by omega), ← h1]
      congr 1
      omega
  · simp only [if_neg hd] at h ⊢
    exact .inl h
theorem after_new (hlen : s1.low.length = s.low.length) {i : Nat} {o : Obj} (hi : s.top.length ≤ i) (h : s1.get s.low.length i = some o) : (after s s1).get s.low.length i = some (keepO s.low.length s.top.length o) := by
  unfold Store.get at h
  rw [if_pos hlen.symm] at h
  unfold Store.get after
  simp only [if_true]
  rw [List.getElem?_append_right hi, List.getElem?_map, List.getElem?_drop, show s.top.length + (i - s.top.length) = i by omega, h]
  rfl

open Classical in
/-- Where the objects lie behind the call. -/
noncomputable def afterL (s s1 : Store) (L L1 : Nat → Nat → Loc) : Nat → Nat → Loc := fun d i =>
  if d = s.low.length ∧ s.top.length ≤ i then (if ∃ e sz cs ver pr, s1.get d i = some (.arr e sz cs ver pr) ∧ cs.all (AV.clean s.low.length s.top.length) = true then L1 d i else ⟨0, 0, 0⟩) else L d i
theorem afterL_old {d i : Nat} (h : ¬ (d = s.low.length ∧ s.top.length ≤ i)) : afterL s s1 L L1 d i = L d i := by
  unfold afterL
  rw [if_neg h]
theorem afterL_kept {i e sz ver pr : Nat} {cs : List AV} (hi : s.top.length ≤ i) (h : s1.get s.low.length i = some (.arr e sz cs ver pr)) (hc : cs.all (AV.clean s.low.length s.top.length) = true) : afterL s s1 L L1 s.low.length i = L1 s.low.length i := by
  unfold afterL
  rw [if_pos ⟨rfl, hi⟩, if_pos ⟨e, sz, cs, ver, pr, h, hc⟩]
theorem afterL_killed {i : Nat} (hi : s.top.length ≤ i) (h : ¬ ∃ e sz cs ver pr, s1.get s.low.length i = some (.arr e sz cs ver pr) ∧ cs.all (AV.clean s.low.length s.top.length) = true) : afterL s s1 L L1 s.low.length i = ⟨0, 0, 0⟩ := by
  unfold afterL
  rw [if_pos ⟨rfl, hi⟩, if_neg h]

theorem clean_vr (hlen : s1.low.length = s.low.length) {x : AV} {y : Value} (hx : x.clean s.low.length s.top.length = true) (h : VR s1 L1 C1 w' x y) : VR (after s s1) (afterL s s1 L L1) C w' x y := by
  cases h with
  | bool b => exact .bool b
  | int k n => exact .int k n
  | str t => exact .str t
  | nilp => exact .nilp
  | nilfn => exact .nilfn
  | nilifc => exact .nilifc
  | imm full n cs A cap b o u hn hf hok hA hc hr =>
    simp only [AV.clean, List.isEmpty_iff] at hx
    subst hx
    exact .imm full n [] A cap b o u hn (fun h => ⟨(hf h).1, fun h => absurd rfl h⟩) hok hA (fun j x hx => by simp at hx) (fun j x hx => by simp at hx)
  | slr d i off n ver full e sz cs ver' pr v hg hle hs hok =>
    simp only [AV.clean, Bool.and_eq_true, decide_eq_true_eq] at hx
    obtain ⟨rfl, hi⟩ := hx
    have h1 := after_new hlen hi hg
    by_cases hc : cs.all (AV.clean s.low.length s.top.length) = true
    · rw [show keepO s.low.length s.top.length (.arr e sz cs ver' pr) = .arr e sz cs ver' 0 by simp only [keepO, if_pos hc]] at h1
      exact .slr _ i off n ver full e sz cs ver' 0 y h1 hle hs fun hq => by rw [afterL_kept hi hg hc]; exact hok hq
    · rw [show keepO s.low.length s.top.length (.arr e sz cs ver' pr) = .arr e sz [] (ver' + 1) 0 by simp only [keepO, if_neg hc, kill]] at h1
      exact .slr _ i off n ver full e sz [] (ver' + 1) 0 y h1 (by omega) hs fun hq => by omega
  | undef | ptr | aptr | eptr | agg | tup | fn | ifc | anyb | unw => simp [AV.clean] at hx
theorem cleanA_vr (hlen : s1.low.length = s.low.length) {x : AV} {y : Value} (hx : x.cleanA s.low.length s.top.length = true) (h : VR s1 L1 C1 w' x y) : VR (after s s1) (afterL s s1 L L1) C w' x y := by
  unfold AV.cleanA at hx
  split at hx
  · cases h with
    | agg cs vs hl hr =>
      refine .agg _ vs hl fun j x y hj hy => clean_vr hlen (List.all_eq_true.1 hx x (List.mem_of_getElem? hj)) (hr j x y hj hy)
  · exact clean_vr hlen hx h
theorem cleanR_vr (hlen : s1.low.length = s.low.length) {x : AV} {y : Value} (hx : x.cleanR s.low.length s.top.length = true) (h : VR s1 L1 C1 w' x y) : VR (after s s1) (afterL s s1 L L1) C w' x y := by
  unfold AV.cleanR at hx
  split at hx
  · cases h with
    | tup cs vs hl hr =>
      refine .tup _ vs hl fun j x y hj hy => cleanA_vr hlen (List.all_eq_true.1 hx x (List.mem_of_getElem? hj)) (hr j x y hj hy)
  · exact cleanA_vr hlen hx h

theorem lend_post (hR : SR s L C w) {r : AV} {u : Value} (hcl : r.cleanR s.low.length s.top.length = true) (hp : Post (dead s) (fun _ _ => ⟨0, 0, 0⟩) (lentCs s L C w) w s1 r u w') : Post s L C w (after s s1) r u w' := by
  obtain ⟨L1, C1, hvr, hR1, hE⟩ := hp
  have hlen : s1.low.length = s.low.length := hE.depth.trans (dead_depth s)
  have hnew : ∀ b, Own s1 L1 b → w.heap.size ≤ b := fun b hb => (hE.own b hb).resolve_left fun h => dead_own h
  have hold : ∀ d i, Mat s L d i → (L d i).blk < w.heap.size := by
    intro d i hm
    rcases hm with ⟨t, cs, hg⟩ | ⟨e, sz, cs, ver, pr, hg, hl⟩
    · obtain ⟨_, _, vs, hh, _⟩ := hR.obj d i _ hg
      exact (Array.getElem?_eq_some_iff.1 hh).1
    · obtain ⟨_, _, h | ⟨_, _, _, vs, hh, _⟩⟩ := hR.obj d i _ hg
      · omega
      · exact (Array.getElem?_eq_some_iff.1 hh).1
  have hheap : ∀ b, b < w.heap.size → ¬ C.fz b → w'.heap[b]? = w.heap[b]? := fun b hb hz => hE.frame b hb (fun h => dead_own h) fun hq => (hE.fzb b hq).elim hz fun h => by omega
  have hcell : ∀ b o, C b o → w'.cell? ⟨b, o, none⟩ = w.cell? ⟨b, o, none⟩ := fun b o hc => hE.cell b o (.inl hc)
  have hkeep : Keeps (s.low.length + 1) s L C w (after s s1) (afterL s s1 L L1) C w' :=
    ⟨fun _ _ h => h, hcell, fun d i t cs _ hg => ⟨⟨cs, (after_old hg).1⟩, by rw [afterL_old (after_old (s1 := s1) hg).2]⟩,
      fun d i e sz cs ver pr _ hg => ⟨cs, ver, pr, (after_old hg).1, Nat.le_refl _, fun _ => afterL_old (after_old (s1 := s1) hg).2⟩, fun _ h => h⟩
  have hmono : ∀ (v : AV) (x : Value), VR s L C w v x → VR (after s s1) (afterL s s1 L L1) C w' v x := fun v x hv => hv.mono hkeep hv.low
  have hnoC : ∀ b o, w.heap.size ≤ b → ¬ C b o := fun b o hb hc => by
    obtain ⟨v, hv⟩ := hR.cok b o hc
    have := World.block_lt_of_cell? w _ hv
    simp only at this
    omega
  -- what the new objects are
  have hnewM : ∀ i, s.top.length ≤ i → Mat (after s s1) (afterL s s1 L L1) s.low.length i → Mat s1 L1 s.low.length i ∧ afterL s s1 L L1 s.low.length i = L1 s.low.length i := by
    intro i hi hm
    have hget : ∀ o, (after s s1).get s.low.length i = some o → ∃ o1, s1.get s.low.length i = some o1 ∧ o = keepO s.low.length s.top.length o1 := by
      intro o ho
      rcases after_get hlen ho with h | ⟨_, _, h⟩
      · exact absurd ⟨rfl, hi⟩ (after_old (s1 := s1) h).2
      · exact h
    rcases hm with ⟨t, cs, hg⟩ | ⟨e, sz, cs, ver, pr, hg, hl⟩
    · obtain ⟨o1, _, h2⟩ := hget _ hg
      cases o1 with
      | box t' cs' => simp [keepO, kill] at h2
      | arr e' sz' cs' ver' pr' => simp only [keepO, kill] at h2; split at h2 <;> cases h2
    · obtain ⟨o1, h1, h2⟩ := hget _ hg
      by_cases hk : ∃ e sz cs ver pr, s1.get s.low.length i = some (.arr e sz cs ver pr) ∧ cs.all (AV.clean s.low.length s.top.length) = true
      · obtain ⟨e', sz', cs', ver', pr', h3, h4⟩ := hk
        have h5 := afterL_kept (L := L) (L1 := L1) hi h3 h4
        exact ⟨.inr ⟨e', sz', cs', ver', pr', h3, by rw [← h5]; exact hl⟩, h5⟩
      · rw [afterL_killed hi hk] at hl
        exact absurd hl (Nat.lt_irrefl _)
  have hmat : ∀ d i, Mat (after s s1) (afterL s s1 L L1) d i → (Mat s L d i ∧ afterL s s1 L L1 d i = L d i) ∨ (d = s.low.length ∧ s.top.length ≤ i ∧ Mat s1 L1 d i ∧ afterL s s1 L L1 d i = L1 d i) := by
    intro d i hm
    by_cases hn : d = s.low.length ∧ s.top.length ≤ i
    · obtain ⟨rfl, hi⟩ := hn
      exact .inr ⟨rfl, hi, hnewM i hi hm⟩
    · have hL := afterL_old (L := L) (L1 := L1) (s1 := s1) hn
      refine .inl ⟨?_, hL⟩
      rcases hm with ⟨t, cs, hg⟩ | ⟨e, sz, cs, ver, pr, hg, hl⟩
      · rcases after_get hlen hg with h | ⟨h1, h2, _⟩
        · exact .inl ⟨t, cs, h⟩
        · exact absurd ⟨h1, h2⟩ hn
      · rcases after_get hlen hg with h | ⟨h1, h2, _⟩
        · exact .inr ⟨e, sz, cs, ver, pr, h, by rw [← hL]; exact hl⟩
        · exact absurd ⟨h1, h2⟩ hn
  have hown : ∀ b, Own (after s s1) (afterL s s1 L L1) b → Own s L b ∨ w.heap.size ≤ b := by
    rintro b ⟨d, i, hm, rfl⟩
    rcases hmat d i hm with ⟨h1, h2⟩ | ⟨_, _, h1, h2⟩
    · rw [h2]; exact .inl ⟨d, i, h1, rfl⟩
    · rw [h2]; exact .inr (hnew _ ⟨d, i, h1, rfl⟩)
  have hfzO : ∀ d i, Mat s L d i → ¬ C.fz (L d i).blk := fun d i hm hz => (hR.fzok _ hz).2.2 ⟨d, i, hm, rfl⟩
  have hSR : SR (after s s1) (afterL s s1 L L1) C w' := by
    refine ⟨fun d i o hg => ?_, fun d i d' i' hm hm' hb => ?_, fun b o hc => ?_, fun b hz => ?_, fun d i hm => ?_, fun b hb => ?_, Nat.le_trans hR.nsz hE.size, hR.good⟩
    · rcases after_get hlen hg with h | ⟨rfl, hi, o1, h1, rfl⟩
      · have hL := afterL_old (L := L) (L1 := L1) (s1 := s1) (after_old (s1 := s1) h).2
        have ho := hR.obj d i o h
        cases o with
        | box t cs =>
          obtain ⟨h1, h2, vs, h3, h4⟩ := ho
          refine ⟨h1, by rw [hL]; exact h2, vs, ?_, h4.1, fun j x y hx hy => hmono _ _ (h4.2 j x y hx hy)⟩
          rw [hL, hheap _ (hold d i (.inl ⟨t, cs, h⟩)) (hfzO d i (.inl ⟨t, cs, h⟩))]
          exact h3
        | arr e sz cs ver pr =>
          obtain ⟨h1, h2, h3 | ⟨h3, h4, h5, vs, h6, h7, h8⟩⟩ := ho
          · exact ⟨h1, h2, .inl (by rw [hL]; exact h3)⟩
          · refine ⟨h1, h2, .inr ⟨by rw [hL]; exact h3, by rw [hL]; exact h4, by rw [hL]; exact h5, vs, ?_, by rw [hL]; exact h7, fun j x y hx hy => hmono _ _ (h8 j x y hx (by rw [hL] at hy; exact hy))⟩⟩
            rw [hL, hheap _ (hold d i (.inr ⟨e, sz, cs, ver, pr, h, h3⟩)) (hfzO d i (.inr ⟨e, sz, cs, ver, pr, h, h3⟩))]
            exact h6
      · have ho := hR1.obj _ i o1 h1
        cases o1 with
        | box t cs =>
          have hk : ¬ ∃ e sz cs ver pr, s1.get s.low.length i = some (.arr e sz cs ver pr) ∧ cs.all (AV.clean s.low.length s.top.length) = true := by
            rintro ⟨_, _, _, _, _, h2, _⟩
            rw [h1] at h2
            cases h2
          simp only [keepO, kill]
          exact ⟨Nat.one_pos, rfl, .inl (by rw [afterL_killed hi hk]; exact ⟨rfl, rfl, rfl⟩)⟩
        | arr e sz cs ver pr =>
          by_cases hc : cs.all (AV.clean s.low.length s.top.length) = true
          · have hL := afterL_kept (L := L) (L1 := L1) hi h1 hc
            rw [show keepO s.low.length s.top.length (.arr e sz cs ver pr) = .arr e sz cs ver 0 by simp only [keepO, if_pos hc]]
            obtain ⟨g1, g2, g3 | ⟨g3, g4, g5, vs, g6, g7, g8⟩⟩ := ho
            · exact ⟨g1, g2, .inl (by rw [hL]; exact g3)⟩
            · refine ⟨g1, g2, .inr ⟨by rw [hL]; exact g3, fun o _ _ => by rw [hL]; exact hnoC _ _ (hnew _ ⟨_, i, .inr ⟨e, sz, cs, ver, pr, h1, g3⟩, rfl⟩), by rw [hL]; exact g5, vs, by rw [hL]; exact g6, by rw [hL]; exact g7, fun j x y hx hy => ?_⟩⟩
              exact clean_vr hlen (List.all_eq_true.1 hc x (List.mem_of_getElem? hx)) (g8 j x y hx (by rw [hL] at hy; exact hy))
          · have hk : ¬ ∃ e sz cs ver pr, s1.get s.low.length i = some (.arr e sz cs ver pr) ∧ cs.all (AV.clean s.low.length s.top.length) = true := by
              rintro ⟨_, _, _, _, _, h2, h3⟩
              rw [h1] at h2
              cases h2
              exact hc h3
            rw [show keepO s.low.length s.top.length (.arr e sz cs ver pr) = .arr e sz [] (ver + 1) 0 by simp only [keepO, if_neg hc, kill]]
            exact ⟨ho.1, rfl, .inl (by rw [afterL_killed hi hk]; exact ⟨rfl, rfl, rfl⟩)⟩
    · rcases hmat d i hm with ⟨h1, h2⟩ | ⟨h0, _, h1, h2⟩ <;> rcases hmat d' i' hm' with ⟨h3, h4⟩ | ⟨h0', _, h3, h4⟩ <;> rw [h2, h4] at hb
      · exact hR.inj d i d' i' h1 h3 hb
      · have := hold d i h1
        have := hnew _ ⟨d', i', h3, rfl⟩
        omega
      · have := hold d' i' h3
        have := hnew _ ⟨d, i, h1, rfl⟩
        omega
      · exact hR1.inj d i d' i' h1 h3 hb
    · rw [hcell b o hc]; exact hR.cok b o hc
    · obtain ⟨h1, h2, h3⟩ := hR.fzok b hz
      exact ⟨h1, Nat.lt_of_lt_of_le h2 hE.size, fun h => (hown b h).elim h3 fun h => by omega⟩
    · rcases hmat d i hm with ⟨h1, h2⟩ | ⟨_, _, h1, h2⟩
      · rw [h2]; exact hR.ownN d i h1
      · rw [h2]; exact Nat.le_trans hR.nsz (hnew _ ⟨d, i, h1, rfl⟩)
    · have h0 : C1.w0 = C.w0 := hE.w0
      have := hR1.base b (by rw [h0]; exact hb)
      rw [h0] at this
      exact this
  refine ⟨afterL s s1 L L1, C, cleanR_vr hlen hcl hvr, hSR, ⟨fun _ _ h => h, hcell, hkeep.box, hkeep.arr, hE.os, hE.tape, hE.output, hE.size, fun b hb _ hz => hheap b hb hz, hown, rfl, fun _ h => h, fun _ h => .inl h, rfl⟩⟩

theorem lend_ok {P : Program} {call : CallT} (hcall : CallOK P call) : CallOK P (lend call) := by
  intro f args s v s' h L C w us hR hv
  unfold lend at h
  obtain ⟨azl, hd, h⟩ := bind_some h
  obtain ⟨⟨r, s1⟩, hr, h⟩ := bind_some h
  simp only at h
  split at h
  · rename_i hcl
    simp only [Option.some.injEq, Prod.mk.injEq] at h
    obtain ⟨rfl, rfl⟩ := h
    obtain ⟨k, hk⟩ := lent_ex hd
    obtain ⟨hl, hg⟩ := mapM_get hk
    have hv0 : VRs (dead s) (fun _ _ => ⟨0, 0, 0⟩) (lentCs s L C w) w azl us := ⟨by rw [hv.1, hl], fun j x y hx hy => by
      obtain ⟨z, hz, hzx⟩ := hg j x hx
      exact dfzA_vr hR k z x y hzx (hv.2 j z y hz hy)⟩
    rcases hcall f azl (dead s) r s1 hr _ _ w us (dead_rel hR) hv0 with ⟨h1, h2⟩ | ⟨u, w', h1, h2⟩
    · exact .inl ⟨h1, h2.mono fun e w' ⟨u, he, hp⟩ => ⟨u, he, lend_post hR hcl hp⟩⟩
    · exact .inr ⟨u, w', h1, lend_post hR hcl h2⟩
  · cases h
end
end Go.Proofs.YthogcanomihelaaDoor.Ae
