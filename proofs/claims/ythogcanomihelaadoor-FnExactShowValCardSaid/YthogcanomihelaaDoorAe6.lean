/- What is made: boxes, arrays, literals, slices of slices, appends. -/
import Derived.Test.YthogcanomihelaaDoorAe5
set_option linter.unusedSimpArgs false
set_option linter.unusedVariables false
namespace Go.Proofs.YthogcanomihelaaDoor.Ae
open Go
section
variable {P : Program} {s : Store} {L : Nat → Nat → Loc} {C : Cs} {w : World}

theorem mat_new {o : Obj} {l : Loc} : Mat (s.new o) (upd L s.low.length s.top.length l) s.low.length s.top.length ↔
    match o with | .box .. => True | .arr .. => 0 < l.lim := by
  constructor
  · rintro (⟨t, cs, h⟩ | ⟨e, sz, cs, ver, pr, h, hl⟩)
    · rw [get_new] at h; obtain rfl := Option.some.inj h; trivial
    · rw [get_new] at h; obtain rfl := Option.some.inj h; rw [upd_same] at hl; exact hl
  · intro h
    cases o with
    | box t cs => exact .inl ⟨t, cs, get_new s _⟩
    | arr e sz cs ver pr => exact .inr ⟨e, sz, cs, ver, pr, get_new s _, by rw [upd_same]; exact h⟩

theorem newBox_sound {W : World} {t : Nat} {cs : List AV} {vs : List Value} {v : AV} {s' : Store} (hR : SR s L C w) (hv : VRs s L C w cs vs) (h : newBox s t cs = some (v, s')) (hp : Pushed w W (.cells vs.toArray t (0, 0))) :
    ∃ L', VR s' L' C W v (.pointer (some ⟨w.heap.size, 0, none⟩)) ∧ SR s' L' C W ∧ Ext (s.low.length + 1) s L C w s' L' C W := by
  unfold newBox at h
  split at h
  · rename_i hok
    simp only [Option.some.injEq, Prod.mk.injEq] at h
    obtain ⟨rfl, rfl⟩ := h
    obtain ⟨hE, hS⟩ := hR.add (W := W) (o := .box t cs) (l := ⟨w.heap.size, 0, 0⟩) hp.os hp.tape hp.output (by rw [hp.size]; omega) (fun b hb => hp.old hb) (fun _ => Nat.le_refl _)
      (fun hE => ⟨hok, by rw [upd_same]; exact fun o hc => absurd (hR.clt hc) (Nat.lt_irrefl _), vs, by rw [upd_same]; exact hp.fresh, hv.keep hE⟩)
    refine ⟨_, ?_, hS, hE⟩
    have := VR.ptr (s := s.new (.box t cs)) (L := upd L s.low.length s.top.length ⟨w.heap.size, 0, 0⟩) (C := C) (w := W) s.low.length s.top.length 0 t cs (get_new s _)
    rwa [upd_same] at this
  · cases h

/-- A new array: n elements, in a block of its own with room behind them. -/
theorem newArr_sound {W : World} {e sz n cap : Nat} {cs : List AV} {vs rest : List Value} {v : AV} {s' : Store} (hR : SR s L C w) (hsz : 0 < sz) (hv : VRs s L C w cs vs) (h : newArr s e sz n cs = some (v, s'))
    (hp : Pushed w W (.cells (vs ++ rest).toArray e (0, 0))) (hn : n ≤ cap) (hrest : n * sz + rest.length = cap * sz) :
    ∃ L', VR s' L' C W v (.slice (some ⟨w.heap.size, 0, none⟩) n cap) ∧ SR s' L' C W ∧ Ext (s.low.length + 1) s L C w s' L' C W := by
  unfold newArr at h
  split at h
  · rename_i hq
    obtain ⟨hok, hlen⟩ := hq
    simp only [Option.some.injEq, Prod.mk.injEq] at h
    obtain ⟨rfl, rfl⟩ := h
    have hvl : vs.length = cs.length := hv.1
    obtain ⟨hE, hS⟩ := hR.add (W := W) (o := .arr e sz cs 0 0) (l := ⟨w.heap.size, 0, cap * sz⟩) hp.os hp.tape hp.output (by rw [hp.size]; omega) (fun b hb => hp.old hb) (fun _ => Nat.le_refl _)
      (fun hE => by
        refine ⟨hsz, hok, ?_⟩
        rw [upd_same]
        rcases Nat.eq_zero_or_pos (cap * sz) with h0 | h0
        · exact .inl ⟨h0, rfl, List.eq_nil_of_length_eq_zero (by omega)⟩
        · refine .inr ⟨h0, fun o _ _ hc => absurd (hR.clt hc) (Nat.lt_irrefl _), by simp; omega, _, hp.fresh, by simp; omega, fun j x y hx hy => ?_⟩
          have hj := (List.getElem?_eq_some_iff.1 hx).1
          simp only [Nat.zero_add] at hy
          rw [List.getElem?_append_left (by omega)] at hy
          exact (hv.2 j x y hx hy).keep hE)
    refine ⟨_, ?_, hS, hE⟩
    have hs : SlOk (upd L s.low.length s.top.length ⟨w.heap.size, 0, cap * sz⟩ s.low.length s.top.length) sz 0 n false (.slice (some ⟨w.heap.size, 0, none⟩) n cap) := by
      rw [upd_same]
      exact ⟨_, _, rfl, hn, by simp, fun _ => rfl⟩
    exact VR.slr _ _ _ _ _ _ e sz cs 0 0 _ (get_new s _) (Nat.le_refl _) hs.slV fun _ => hs
  · cases h
/-- An array without room that lies nowhere. -/
theorem newArr_none {e sz : Nat} {v : AV} {s' : Store} (hR : SR s L C w) (hsz : 0 < sz) (h : newArr s e sz 0 [] = some (v, s')) (A : Option Addr) :
    ∃ L', VR s' L' C w v (.slice A 0 0) ∧ SR s' L' C w ∧ Ext (s.low.length + 1) s L C w s' L' C w := by
  unfold newArr at h
  split at h
  · simp only [Option.some.injEq, Prod.mk.injEq] at h
    obtain ⟨rfl, rfl⟩ := h
    obtain ⟨hE, hS⟩ := hR.add (W := w) (o := .arr e sz [] 0 0) (l := ⟨w.heap.size, 0, 0⟩) rfl rfl rfl (Nat.le_refl _) (fun b hb => rfl) (fun _ => Nat.le_refl _)
      (fun hE => ⟨hsz, rfl, by rw [upd_same]; exact .inl ⟨rfl, rfl, rfl⟩⟩)
    refine ⟨_, ?_, hS, hE⟩
    have hs : SlOk (upd L s.low.length s.top.length ⟨w.heap.size, 0, 0⟩ s.low.length s.top.length) sz 0 0 false (.slice A 0 0) := by
      rw [upd_same]
      exact ⟨_, _, rfl, Nat.le_refl _, by simp, fun h => absurd h (Nat.lt_irrefl _)⟩
    exact VR.slr _ _ _ _ _ _ e sz [] 0 0 _ (get_new s _) (Nat.le_refl _) hs.slV fun _ => hs
  · cases h

/-- A new row that nobody writes. -/
theorem newImm_sound {W : World} {t n : Nat} {cs : List AV} {vs : List Value} (hR : SR s L C w) (hv : VRs s L C w cs vs) (hok : cellsOk 0 cs = true) (hp : Pushed w W (.cells vs.toArray t (0, 0))) :
    ∃ C', VR s L C' W (.imm true n cs) (.slice (some ⟨w.heap.size, 0, none⟩) n n) ∧ SR s L C' W ∧ Ext (s.low.length + 1) s L C w s L C' W := by
  obtain ⟨hE, hS⟩ := hR.freeze hp
  have hvl : vs.length = cs.length := hv.1
  refine ⟨_, ?_, hS, hE⟩
  refine .imm true n cs _ n w.heap.size 0 (fun j => vs.getD j default) ⟨Nat.le_refl _, fun _ => ⟨_, rfl⟩⟩ (fun _ => ⟨rfl, fun _ => .inr rfl⟩) hok (fun _ => rfl) (fun j x hx => ?_) fun j x hx => ?_
  · have hj := (List.getElem?_eq_some_iff.1 hx).1
    refine ⟨.inr ⟨rfl, by omega⟩, ?_⟩
    rw [cell_of_heap hp.fresh, Nat.zero_add, List.getD_eq_getElem?_getD, List.getElem?_eq_getElem (show j < vs.length by omega)]
    rfl
  · obtain ⟨u, hu, hr⟩ := hv.get hx
    have : vs.getD j default = u := by rw [List.getD_eq_getElem?_getD, hu]; rfl
    rw [this]
    exact hr.keep hE

/-! ### a value from which names are taken -/
theorem frz1_sound {v v' : AV} {u : Value} {s' : Store} (hR : SR s L C w) (hv : VR s L C w v u) (h : frz1 s v = some (v', s')) :
    ∃ C', VR s' L C' w v' u ∧ SR s' L C' w ∧ Ext (s.low.length + 1) s L C w s' L C' w := by
  have same : ∀ {x : AV}, VR s L C w x u → some (x, s) = some (v', s') → ∃ C', VR s' L C' w v' u ∧ SR s' L C' w ∧ Ext (s.low.length + 1) s L C w s' L C' w := by
    intro x hx he
    simp only [Option.some.injEq, Prod.mk.injEq] at he
    obtain ⟨rfl, rfl⟩ := he
    exact ⟨C, hx, hR, Ext.refl _⟩
  have hv0 := hv
  cases hv <;> try exact same hv0 h
  case imm full n cs A cap b o u' hn hf hok hA hc hr => exact same (.imm false n cs A cap b o u' hn (fun h => by cases h) hok hA hc hr) h
  case slr d i off n ver full e sz cs ver' pr hg hle hs hc =>
    simp only [frz1, hg] at h
    split at h
    · rename_i hq
      obtain ⟨hver, hlow, hlen⟩ := hq
      simp only [Option.some.injEq, Prod.mk.injEq] at h
      obtain ⟨rfl, rfl⟩ := h
      obtain ⟨A, cap, rfl, hn, hf, hA⟩ := hc hver
      obtain ⟨hsz, hok0, h2⟩ := hR.obj d i _ hg
      have hok : cellsOk 0 ((cs.drop off).take (n * sz)) = true := cellsOk_of (cellsOk_cells (cellsOk_take (cellsOk_drop hok0 _) _)) hlow
      have hL : upd L d i (L d i) = L := by
        funext a b
        unfold upd
        split
        · rename_i hq; rw [hq.1, hq.2]
        · rfl
      rcases h2 with ⟨h0, hb0, rfl⟩ | ⟨h0, hnc, hbase, vs, hheap, hlim, hrel⟩
      · have key := hR.turn (W := w) (C' := C) (l := L d i) (o' := .arr e sz [] ver' (max pr (off + n * sz))) hg ⟨rfl, rfl, Nat.le_refl _, fun _ => rfl⟩ rfl rfl rfl (Nat.le_refl _)
          (fun _ _ _ => rfl) (fun _ _ h => h) (fun _ _ h => .inl h) (fun _ _ _ => rfl) (fun b q hc => hR.cok b q hc)
          (fun hm => by
            rcases hm with ⟨t, c, hm⟩ | ⟨e', sz', c, v', p', hm, hlm⟩
            · rw [get_set s hg] at hm; cases hm
            · rw [upd_same] at hlm; omega)
          (fun hE => ⟨hsz, rfl, .inl ⟨by rw [upd_same]; exact h0, by rw [upd_same]; exact hb0, rfl⟩⟩)
        rw [hL] at key
        refine ⟨C, ?_, key.2, key.1⟩
        refine .imm false n _ A cap 0 0 (fun _ => default) ⟨hn, fun h => ⟨_, hA h⟩⟩ (fun h => by cases h) hok (fun hne => absurd (by simp) hne) (fun j x hx => by simp at hx) fun j x hx => by simp at hx
      · have hM : Mat s L d i := .inr ⟨e, sz, cs, ver', pr, hg, h0⟩
        have key := hR.turn (W := w) (C' := ⟨fun b q => C b q ∨ (b = (L d i).blk ∧ (L d i).base + off ≤ q ∧ q < (L d i).base + off + n * sz), C.fz, C.w0⟩) (l := L d i) (o' := .arr e sz cs ver' (max pr (off + n * sz))) hg ⟨rfl, rfl, Nat.le_refl _, fun _ => rfl⟩ rfl rfl rfl (Nat.le_refl _)
          (fun _ _ _ => rfl) (fun _ _ h => .inl h) (fun b q h => by
            rcases h with h | ⟨rfl, _⟩
            · exact .inl h
            · exact .inr ⟨hM, rfl⟩) (fun _ _ _ => rfl)
          (fun b q hc => by
            rcases hc with hc | ⟨rfl, h1, h2⟩
            · exact hR.cok b q hc
            · exact ⟨vs[q]'(by omega), by rw [cell_of_heap hheap]; exact List.getElem?_eq_getElem _⟩)
          (fun _ => .inl ⟨hM, rfl⟩)
          (fun hE => ⟨hsz, hok0, by
            rw [upd_same]
            refine .inr ⟨h0, fun o ho ho' hc => ?_, hbase, vs, hheap, hlim, fun j x y hx hy => (hrel j x y hx hy).keep hE⟩
            have hm1 := Nat.le_max_left pr (off + n * sz)
            have hm2 := Nat.le_max_right pr (off + n * sz)
            rcases hc with hc | ⟨_, h1, h2⟩
            · exact hnc o (by omega) ho' hc
            · omega⟩)
        rw [hL] at key
        refine ⟨_, ?_, key.2, key.1⟩
        refine .imm false n _ A cap (L d i).blk ((L d i).base + off) (fun j => vs.getD ((L d i).base + off + j) default) ⟨hn, fun h => ⟨_, hA h⟩⟩ (fun h => by cases h) hok (fun hne => hA ?_) (fun j x hx => ?_) fun j x hx => ?_
        · rcases Nat.eq_zero_or_pos n with h0 | h0
          · subst h0; simp at hne
          · omega
        · have hj := (List.getElem?_eq_some_iff.1 hx).1
          rw [List.length_take, List.length_drop] at hj
          refine ⟨.inr ⟨rfl, by omega, by omega⟩, ?_⟩
          rw [cell_of_heap hheap, List.getD_eq_getElem?_getD, List.getElem?_eq_getElem (show (L d i).base + off + j < vs.length by omega)]
          rfl
        · have hj := (List.getElem?_eq_some_iff.1 hx).1
          rw [List.length_take, List.length_drop] at hj
          have hx' : cs[off + j]? = some x := by
            rw [List.getElem?_take, if_pos (by omega), List.getElem?_drop] at hx
            exact hx
          have hy : vs[(L d i).base + (off + j)]? = some (vs.getD ((L d i).base + off + j) default) := by
            rw [List.getD_eq_getElem?_getD, ← Nat.add_assoc, List.getElem?_eq_getElem (show (L d i).base + off + j < vs.length by omega)]
            rfl
          exact (hrel _ x _ hx' hy).keep key.1
    · cases h
theorem frzL_sound : ∀ {vs vs' : List AV} {us : List Value} {s s' : Store} {C : Cs}, SR s L C w → VRs s L C w vs us → frzL s vs = some (vs', s') →
    ∃ C', VRs s' L C' w vs' us ∧ SR s' L C' w ∧ Ext (s.low.length + 1) s L C w s' L C' w
  | [], vs', us, s, s', C, hR, hv, h => by
    simp only [frzL, Option.some.injEq, Prod.mk.injEq] at h
    obtain ⟨rfl, rfl⟩ := h
    exact ⟨C, hv, hR, Ext.refl _⟩
  | v :: r, vs', us, s, s', C, hR, hv, h => by
    simp only [frzL] at h
    obtain ⟨⟨v1, s1⟩, h1, h⟩ := bind_some h
    obtain ⟨⟨r2, s2⟩, h2, h⟩ := bind_some h
    simp only [Option.some.injEq, Prod.mk.injEq] at h
    obtain ⟨rfl, rfl⟩ := h
    obtain ⟨u, ur, rfl⟩ : ∃ u ur, us = u :: ur := by
      cases us with
      | nil => have := hv.1; simp at this
      | cons u ur => exact ⟨u, ur, rfl⟩
    obtain ⟨C1, g1, g2, g3⟩ := frz1_sound hR (hv.2 0 v u rfl rfl) h1
    have hvr : VRs s L C w r ur := ⟨by simpa using hv.1, fun j x y hx hy => hv.2 (j + 1) x y (by simpa using hx) (by simpa using hy)⟩
    obtain ⟨C2, k1, k2, k3⟩ := frzL_sound g2 (hvr.keep g3) h2
    rw [show s1.low.length = s.low.length from g3.depth] at k3
    refine ⟨C2, ?_, k2, g3.trans k3⟩
    have := VRs.one (g1.keep (by rw [show s1.low.length = s.low.length from g3.depth]; exact k3))
    exact this.append k1
theorem frz_sound {v v' : AV} {u : Value} {s' : Store} (hR : SR s L C w) (hv : VR s L C w v u) (h : frz s v = some (v', s')) :
    ∃ C', VR s' L C' w v' u ∧ SR s' L C' w ∧ Ext (s.low.length + 1) s L C w s' L C' w := by
  unfold frz at h
  split at h
  · obtain ⟨⟨cs, s1⟩, h1, h⟩ := bind_some h
    simp only [Option.some.injEq, Prod.mk.injEq] at h
    obtain ⟨rfl, rfl⟩ := h
    cases hv with
    | agg _ vs hl hr =>
      obtain ⟨C1, g1, g2, g3⟩ := frzL_sound hR ⟨hl, hr⟩ h1
      exact ⟨C1, g1.agg, g2, g3⟩
  · exact frz1_sound hR hv h
theorem frzs_sound : ∀ {vs vs' : List AV} {us : List Value} {s s' : Store} {C : Cs}, SR s L C w → VRs s L C w vs us → frzs s vs = some (vs', s') →
    ∃ C', VRs s' L C' w vs' us ∧ SR s' L C' w ∧ Ext (s.low.length + 1) s L C w s' L C' w
  | [], vs', us, s, s', C, hR, hv, h => by
    simp only [frzs, Option.some.injEq, Prod.mk.injEq] at h
    obtain ⟨rfl, rfl⟩ := h
    exact ⟨C, hv, hR, Ext.refl _⟩
  | v :: r, vs', us, s, s', C, hR, hv, h => by
    simp only [frzs] at h
    obtain ⟨⟨v1, s1⟩, h1, h⟩ := bind_some h
    obtain ⟨⟨r2, s2⟩, h2, h⟩ := bind_some h
    simp only [Option.some.injEq, Prod.mk.injEq] at h
    obtain ⟨rfl, rfl⟩ := h
    obtain ⟨u, ur, rfl⟩ : ∃ u ur, us = u :: ur := by
      cases us with
      | nil => have := hv.1; simp at this
      | cons u ur => exact ⟨u, ur, rfl⟩
    obtain ⟨C1, g1, g2, g3⟩ := frz_sound hR (hv.2 0 v u rfl rfl) h1
    have hvr : VRs s L C w r ur := ⟨by simpa using hv.1, fun j x y hx hy => hv.2 (j + 1) x y (by simpa using hx) (by simpa using hy)⟩
    obtain ⟨C2, k1, k2, k3⟩ := frzs_sound g2 (hvr.keep g3) h2
    rw [show s1.low.length = s.low.length from g3.depth] at k3
    refine ⟨C2, ?_, k2, g3.trans k3⟩
    have := VRs.one (g1.keep (by rw [show s1.low.length = s.low.length from g3.depth]; exact k3))
    exact this.append k1
theorem frzR_sound {v v' : AV} {u : Value} {s' : Store} (hR : SR s L C w) (hv : VR s L C w v u) (h : frzR s v = some (v', s')) :
    ∃ C', VR s' L C' w v' u ∧ SR s' L C' w ∧ Ext (s.low.length + 1) s L C w s' L C' w := by
  unfold frzR at h
  split at h
  · obtain ⟨⟨cs, s1⟩, h1, h⟩ := bind_some h
    simp only [Option.some.injEq, Prod.mk.injEq] at h
    obtain ⟨rfl, rfl⟩ := h
    cases hv with
    | tup _ vs hl hr =>
      obtain ⟨C1, g1, g2, g3⟩ := frzs_sound hR ⟨hl, hr⟩ h1
      exact ⟨C1, g1.tup, g2, g3⟩
  · exact frz_sound hR hv h
end
end Go.Proofs.YthogcanomihelaaDoor.Ae
