/- How stores turn: a new object, an immutable row, an object that is written. -/
import Derived.Test.YthogcanomihelaaDoorAe2
set_option linter.unusedSimpArgs false
set_option linter.unusedVariables false
namespace Go.Proofs.YthogcanomihelaaDoor.Ae
open Go

def upd (L : Nat → Nat → Loc) (d i : Nat) (l : Loc) : Nat → Nat → Loc := fun d' i' => if d' = d ∧ i' = i then l else L d' i'
theorem upd_same (L : Nat → Nat → Loc) (d i : Nat) (l : Loc) : upd L d i l d i = l := by simp [upd]
theorem upd_ne (L : Nat → Nat → Loc) {d i d' i' : Nat} (l : Loc) (h : ¬ (d' = d ∧ i' = i)) : upd L d i l d' i' = L d' i' := by simp [upd, h]

theorem get_new (s : Store) (o : Obj) : (s.new o).get s.low.length s.top.length = some o := by
  simp [Store.get, Store.new]
theorem get_new_ne (s : Store) (o : Obj) {d i : Nat} (h : ¬ (d = s.low.length ∧ i = s.top.length)) : (s.new o).get d i = s.get d i := by
  unfold Store.get Store.new
  by_cases hd : d = s.low.length
  · subst hd
    simp only [if_true]
    have hi : i ≠ s.top.length := fun e => h ⟨rfl, e⟩
    rcases Nat.lt_or_ge i s.top.length with hlt | hge
    · rw [List.getElem?_append_left hlt]
    · rw [List.getElem?_eq_none (by simp; omega), List.getElem?_eq_none (by omega)]
  · simp [hd]
theorem get_top_none (s : Store) : s.get s.low.length s.top.length = none := by simp [Store.get]
theorem get_set (s : Store) {d i : Nat} {o o' : Obj} (h : s.get d i = some o) : (s.set d i o').get d i = some o' := by
  unfold Store.get at h
  unfold Store.set
  split at h
  · rename_i hd
    subst hd
    have hi := (List.getElem?_eq_some_iff.1 h).1
    simp [Store.get, hi]
  · rename_i hd
    rw [if_neg hd]
    rcases Nat.lt_or_ge d s.low.length with hlt | hge
    · rw [List.getElem?_eq_getElem hlt] at h
      simp only [Option.bind_some] at h
      have hi := (List.getElem?_eq_some_iff.1 h).1
      simp only [Store.get, List.length_modify, if_neg hd, List.getElem?_modify, hlt, List.getElem?_eq_getElem, Option.map_some, Option.bind_some, if_true]
      rw [List.getElem_modify]
      simp [hi]
    · rw [List.getElem?_eq_none hge] at h; cases h
theorem get_set_ne (s : Store) {d i d' i' : Nat} {o' : Obj} (h : ¬ (d' = d ∧ i' = i)) : (s.set d i o').get d' i' = s.get d' i' := by
  unfold Store.set
  by_cases hd : d = s.low.length
  · rw [if_pos hd]
    unfold Store.get
    by_cases hd' : d' = s.low.length
    · rw [if_pos hd', if_pos hd']
      have : i ≠ i' := fun e => h ⟨hd'.trans hd.symm, e.symm⟩
      simp [this]
    · rw [if_neg hd', if_neg hd']
  · rw [if_neg hd]
    unfold Store.get
    simp only [List.length_modify]
    by_cases hd' : d' = s.low.length
    · rw [if_pos hd', if_pos hd']
    · rw [if_neg hd', if_neg hd', List.getElem?_modify]
      by_cases e : d = d'
      · subst e
        have hi : i ≠ i' := fun e => h ⟨rfl, e.symm⟩
        cases hg : s.low[d]? with
        | none => simp
        | some fr => simp [hi]
      · simp [e]
theorem set_depth (s : Store) (d i : Nat) (o : Obj) : (s.set d i o).low.length = s.low.length := by unfold Store.set; split <;> simp
theorem new_depth (s : Store) (o : Obj) : (s.new o).low.length = s.low.length := rfl

/-- The machine's world has one block more. -/
structure Pushed (w W : World) (o : Go.Obj) : Prop where
  heap : W.heap = w.heap.push o
  os : W.os = w.os
  tape : W.tape = w.tape
  output : W.output = w.output
theorem pushed_alloc (w : World) (o : Go.Obj) : Pushed w (w.alloc o) o := ⟨rfl, rfl, rfl, rfl⟩
theorem pushed_drew (w : World) (o : Go.Obj) : Pushed w (w.drew.alloc o) o := ⟨rfl, rfl, rfl, rfl⟩
section
variable {w W : World} {o : Go.Obj}
theorem Pushed.old (h : Pushed w W o) {b : Nat} (hb : b < w.heap.size) : W.heap[b]? = w.heap[b]? := by rw [h.heap, Array.getElem?_push, if_neg (by omega)]
theorem Pushed.fresh (h : Pushed w W o) : W.heap[w.heap.size]? = some o := by rw [h.heap, Array.getElem?_push, if_pos rfl]
theorem Pushed.froz {c : Array Value} {t : TypeId} (h : Pushed w W (.cells c t (0, 0))) (a : Addr) : W.frozen? a = w.frozen? a := by
  unfold World.frozen?
  rw [h.heap, Array.getElem?_push]
  by_cases he : a.block = w.heap.size
  · rw [if_pos he, he, Array.getElem?_eq_none (Nat.le_refl _)]
    simp
  · rw [if_neg he]
theorem setRow_froz (w : World) (g : Nat) (cs : Array Value) (a : Addr) : (w.setRow g cs).frozen? a = w.frozen? a := by
  simp only [World.frozen?, World.setRow, Array.getElem?_modify]
  by_cases h : g = a.block
  · rw [if_pos h]
    cases hq : w.heap[a.block]? with
    | none => rfl
    | some o => cases o <;> rfl
  · rw [if_neg h]
theorem Pushed.size (h : Pushed w W o) : W.heap.size = w.heap.size + 1 := by rw [h.heap, Array.size_push]
theorem Pushed.cell (h : Pushed w W o) {b q : Nat} (hb : b < w.heap.size) : W.cell? ⟨b, q, none⟩ = w.cell? ⟨b, q, none⟩ := World.cell?_of_block (h.old hb)
theorem cell_of_heap {w : World} {b q : Nat} {vs : List Value} {t : TypeId} {fr : Nat × Nat} (h : w.heap[b]? = some (.cells vs.toArray t fr)) : w.cell? ⟨b, q, none⟩ = vs[q]? := by simp [World.cell?, h]
end

section
variable {s : Store} {L : Nat → Nat → Loc} {C : Cs} {w : World}

theorem Mat.get {d i : Nat} (h : Mat s L d i) : ∃ o, s.get d i = some o := by
  rcases h with ⟨t, cs, h⟩ | ⟨e, sz, cs, ver, pr, h, _⟩ <;> exact ⟨_, h⟩
theorem mat_of {s' : Store} {L' : Nat → Nat → Loc} {d i : Nat} (hg : s'.get d i = s.get d i) (hL : L' d i = L d i) (h : Mat s' L' d i) : Mat s L d i := by
  rcases h with ⟨t, cs, h⟩ | ⟨e, sz, cs, ver, pr, h, hl⟩
  · exact .inl ⟨t, cs, hg ▸ h⟩
  · exact .inr ⟨e, sz, cs, ver, pr, hg ▸ h, hL ▸ hl⟩

/-- What else an earlier relation hands on. -/
theorem SR.rest {D : Nat} {s' : Store} {L' : Nat → Nat → Loc} {C' : Cs} {w' : World} (h : SR s L C w) (hE : Ext D s L C w s' L' C' w') (hf : ∀ b, C'.fz b → C.fz b ∨ (w.heap.size ≤ b ∧ b < w'.heap.size ∧ ¬ Own s' L' b)) :
    (∀ b, C'.fz b → C'.w0.heap.size ≤ b ∧ b < w'.heap.size ∧ ¬ Own s' L' b) ∧ (∀ d i, Mat s' L' d i → C'.w0.heap.size ≤ (L' d i).blk) ∧ (∀ b, b < C'.w0.heap.size → w'.heap[b]? = C'.w0.heap[b]?) ∧ C'.w0.heap.size ≤ w'.heap.size ∧ WGood C'.w0 := by
  rw [hE.w0]
  have hown : ∀ b, Own s L b → C.w0.heap.size ≤ b := fun b ⟨d, i, hm, e⟩ => e ▸ h.ownN d i hm
  refine ⟨fun b hz => ?_, fun d i hm => ?_, fun b hb => ?_, Nat.le_trans h.nsz hE.size, h.good⟩
  · rcases hf b hz with h1 | ⟨h1, h2, h3⟩
    · obtain ⟨h2, h3, h4⟩ := h.fzok b h1
      refine ⟨h2, Nat.lt_of_lt_of_le h3 hE.size, fun hO => ?_⟩
      rcases hE.own b hO with h5 | h5
      · exact h4 h5
      · omega
    · exact ⟨Nat.le_trans h.nsz h1, h2, h3⟩
  · rcases hE.own _ ⟨d, i, hm, rfl⟩ with h5 | h5
    · exact hown _ h5
    · exact Nat.le_trans h.nsz h5
  · refine (hE.frame b (Nat.lt_of_lt_of_le hb h.nsz) (fun hO => ?_) fun hz => ?_).trans (h.base b hb)
    · have := hown b hO; omega
    · rcases hf b hz with h1 | ⟨h1, _, _⟩
      · have := (h.fzok b h1).1; omega
      · have := h.nsz; omega
/-- A new object: in a block of its own, or in none. -/
theorem SR.add {W : World} {o : Obj} {l : Loc} (h : SR s L C w)
    (hos : W.os = w.os) (htape : W.tape = w.tape) (hout : W.output = w.output) (hsize : w.heap.size ≤ W.heap.size) (hheap : ∀ b, b < w.heap.size → W.heap[b]? = w.heap[b]?)
    (hl : Mat (s.new o) (upd L s.low.length s.top.length l) s.low.length s.top.length → w.heap.size ≤ l.blk)
    (ho : Ext (s.low.length + 1) s L C w (s.new o) (upd L s.low.length s.top.length l) C W → ObjR (s.new o) (upd L s.low.length s.top.length l) C W s.low.length s.top.length o) :
    Ext (s.low.length + 1) s L C w (s.new o) (upd L s.low.length s.top.length l) C W ∧ SR (s.new o) (upd L s.low.length s.top.length l) C W := by
  have hne : ∀ d i x, s.get d i = some x → ¬ (d = s.low.length ∧ i = s.top.length) := by
    rintro d i x hx ⟨rfl, rfl⟩
    rw [get_top_none] at hx
    cases hx
  have hE : Ext (s.low.length + 1) s L C w (s.new o) (upd L s.low.length s.top.length l) C W := by
    refine ⟨fun _ _ h => h, fun b q hc => World.cell?_of_block (hheap b (h.clt hc)), ?_, ?_, hos, htape, hout, hsize, fun b hb _ _ => hheap b hb, ?_, rfl, fun _ h => h, fun _ h => .inl h, rfl⟩
    · intro d i t cs _ hg
      have hn := hne d i _ hg
      exact ⟨⟨cs, (get_new_ne s o hn).trans hg⟩, by rw [upd_ne L l hn]⟩
    · intro d i e sz cs ver pr _ hg
      have hn := hne d i _ hg
      exact ⟨cs, ver, pr, (get_new_ne s o hn).trans hg, Nat.le_refl _, fun _ => upd_ne L l hn⟩
    · rintro b ⟨d, i, hm, rfl⟩
      by_cases hn : d = s.low.length ∧ i = s.top.length
      · obtain ⟨rfl, rfl⟩ := hn
        exact .inr (by rw [upd_same]; exact hl hm)
      · exact .inl ⟨d, i, mat_of (get_new_ne s o hn) (upd_ne L l hn) hm, by rw [upd_ne L l hn]⟩
  obtain ⟨r1, r2, r3, r4, r5⟩ := h.rest hE fun b hz => .inl hz
  refine ⟨hE, ?_, ?_, fun b q hc => ?_, r1, r2, r3, r4, r5⟩
  · intro d i x hx
    by_cases hn : d = s.low.length ∧ i = s.top.length
    · obtain ⟨rfl, rfl⟩ := hn
      rw [get_new] at hx
      obtain rfl := Option.some.inj hx
      exact ho hE
    · rw [get_new_ne s o hn] at hx
      exact (h.obj d i x hx).keep hE (upd_ne L l hn) (fun hm => hheap _ (h.lt hm)) hx (fun _ _ hc => hc)
  · intro d i d' i' hm hm' hb
    by_cases hn : d = s.low.length ∧ i = s.top.length
    · by_cases hn' : d' = s.low.length ∧ i' = s.top.length
      · exact ⟨hn.1.trans hn'.1.symm, hn.2.trans hn'.2.symm⟩
      · exfalso
        obtain ⟨rfl, rfl⟩ := hn
        have h1 := hl hm
        rw [upd_same, upd_ne L l hn'] at hb
        have h2 := h.lt (mat_of (get_new_ne s o hn') (upd_ne L l hn') hm')
        omega
    · by_cases hn' : d' = s.low.length ∧ i' = s.top.length
      · exfalso
        obtain ⟨rfl, rfl⟩ := hn'
        have h1 := hl hm'
        rw [upd_same, upd_ne L l hn] at hb
        have h2 := h.lt (mat_of (get_new_ne s o hn) (upd_ne L l hn) hm)
        omega
      · rw [upd_ne L l hn, upd_ne L l hn'] at hb
        exact h.inj d i d' i' (mat_of (get_new_ne s o hn) (upd_ne L l hn) hm) (mat_of (get_new_ne s o hn') (upd_ne L l hn') hm') hb
  · obtain ⟨v, hv⟩ := h.cok b q hc
    exact ⟨v, by rw [hE.cell b q hc]; exact hv⟩

/-- A new row that nobody writes. -/
theorem SR.freeze {W : World} {vs : List Value} {t : TypeId} (h : SR s L C w) (hp : Pushed w W (.cells vs.toArray t (0, 0))) :
    Ext (s.low.length + 1) s L C w s L ⟨fun b q => C b q ∨ (b = w.heap.size ∧ q < vs.length), fun b => C.fz b ∨ b = w.heap.size, C.w0⟩ W ∧ SR s L ⟨fun b q => C b q ∨ (b = w.heap.size ∧ q < vs.length), fun b => C.fz b ∨ b = w.heap.size, C.w0⟩ W := by
  have hE : Ext (s.low.length + 1) s L C w s L ⟨fun b q => C b q ∨ (b = w.heap.size ∧ q < vs.length), fun b => C.fz b ∨ b = w.heap.size, C.w0⟩ W :=
    ⟨fun _ _ h => .inl h, fun b q hc => hp.cell (h.clt hc), fun d i t cs _ hg => ⟨⟨cs, hg⟩, rfl⟩, fun d i e sz cs ver pr _ hg => ⟨cs, ver, pr, hg, Nat.le_refl _, fun _ => rfl⟩,
      hp.os, hp.tape, hp.output, by rw [hp.size]; omega, fun b hb _ _ => hp.old hb, fun _ hb => .inl hb, rfl, fun _ h => .inl h, fun b hb => hb.elim .inl fun e => .inr (Nat.le_of_eq e.symm), rfl⟩
  obtain ⟨r1, r2, r3, r4, r5⟩ := h.rest hE fun b hz => hz.elim .inl fun e => .inr ⟨Nat.le_of_eq e.symm, by rw [hp.size]; omega, fun ⟨d, i, hm, e2⟩ => by have := h.lt hm; omega⟩
  refine ⟨hE, fun d i x hx => ?_, h.inj, fun b q hc => ?_, r1, r2, r3, r4, r5⟩
  · refine (h.obj d i x hx).keep hE rfl (fun hm => hp.old (h.lt hm)) hx fun hm q hc => ?_
    rcases hc with hc | ⟨hb, _⟩
    · exact hc
    · have := h.lt hm
      omega
  · rcases hc with hc | ⟨rfl, hq⟩
    · obtain ⟨v, hv⟩ := h.cok b q hc
      exact ⟨v, by rw [hp.cell (h.clt hc)]; exact hv⟩
    · exact ⟨vs[q], by rw [cell_of_heap hp.fresh]; exact List.getElem?_eq_getElem hq⟩

/-- An object that turns. -/
theorem SR.turn {W : World} {C' : Cs} {d i : Nat} {o o' : Obj} {l : Loc} (h : SR s L C w) (hg : s.get d i = some o)
    (hkind : match o, o' with
      | .box t _, .box t' _ => t' = t ∧ l = L d i
      | .arr e sz _ ver _, .arr e' sz' _ ver' _ => e' = e ∧ sz' = sz ∧ ver ≤ ver' ∧ (ver = ver' → l = L d i)
      | _, _ => False)
    (hos : W.os = w.os) (htape : W.tape = w.tape) (hout : W.output = w.output) (hsize : w.heap.size ≤ W.heap.size)
    (hheap : ∀ b, b < w.heap.size → (Mat s L d i → b ≠ (L d i).blk) → W.heap[b]? = w.heap[b]?)
    (hsub : ∀ b q, C b q → C' b q) (hnew : ∀ b q, C' b q → C b q ∨ (Mat s L d i ∧ b = (L d i).blk)) (hcell : ∀ b q, C b q → W.cell? ⟨b, q, none⟩ = w.cell? ⟨b, q, none⟩) (hcok : ∀ b q, C' b q → ∃ v, W.cell? ⟨b, q, none⟩ = some v)
    (hl : Mat (s.set d i o') (upd L d i l) d i → (Mat s L d i ∧ l.blk = (L d i).blk) ∨ w.heap.size ≤ l.blk)
    (ho : Ext (s.low.length + 1) s L C w (s.set d i o') (upd L d i l) C' W → ObjR (s.set d i o') (upd L d i l) C' W d i o') (hfz : C'.fz = C.fz := by rfl) (hw0 : C'.w0 = C.w0 := by rfl) :
    Ext (s.low.length + 1) s L C w (s.set d i o') (upd L d i l) C' W ∧ SR (s.set d i o') (upd L d i l) C' W := by
  have hE : Ext (s.low.length + 1) s L C w (s.set d i o') (upd L d i l) C' W := by
    refine ⟨hsub, hcell, ?_, ?_, hos, htape, hout, hsize, ?_, ?_, set_depth _ _ _ _, fun b hb => by rw [hfz]; exact hb, fun b hb => .inl (by rw [hfz] at hb; exact hb), hw0⟩
    · intro d2 i2 t cs _ hg2
      by_cases hn : d2 = d ∧ i2 = i
      · obtain ⟨rfl, rfl⟩ := hn
        rw [hg] at hg2
        obtain rfl := Option.some.inj hg2
        cases o' with
        | box t' cs' =>
          obtain ⟨rfl, rfl⟩ := hkind
          exact ⟨⟨cs', get_set s hg⟩, by rw [upd_same]⟩
        | arr => exact hkind.elim
      · exact ⟨⟨cs, (get_set_ne s hn).trans hg2⟩, by rw [upd_ne L l hn]⟩
    · intro d2 i2 e sz cs ver pr _ hg2
      by_cases hn : d2 = d ∧ i2 = i
      · obtain ⟨rfl, rfl⟩ := hn
        rw [hg] at hg2
        obtain rfl := Option.some.inj hg2
        cases o' with
        | box => exact hkind.elim
        | arr e' sz' cs' ver' pr' =>
          obtain ⟨rfl, rfl, hle, hl⟩ := hkind
          exact ⟨cs', ver', pr', get_set s hg, hle, fun hq => by rw [upd_same]; exact hl hq⟩
      · exact ⟨cs, ver, pr, (get_set_ne s hn).trans hg2, Nat.le_refl _, fun _ => upd_ne L l hn⟩
    · intro b hb hn _
      exact hheap b hb fun hm e => hn ⟨d, i, hm, e.symm⟩
    · rintro b ⟨d2, i2, hm, rfl⟩
      by_cases hn : d2 = d ∧ i2 = i
      · obtain ⟨rfl, rfl⟩ := hn
        rw [upd_same]
        rcases hl hm with ⟨h1, h2⟩ | h1
        · exact .inl ⟨d2, i2, h1, h2.symm⟩
        · exact .inr h1
      · exact .inl ⟨d2, i2, mat_of (get_set_ne s hn) (upd_ne L l hn) hm, by rw [upd_ne L l hn]⟩
  obtain ⟨r1, r2, r3, r4, r5⟩ := h.rest hE fun b hz => .inl (by rw [hfz] at hz; exact hz)
  refine ⟨hE, ?_, ?_, hcok, r1, r2, r3, r4, r5⟩
  · intro d2 i2 x hx
    by_cases hn : d2 = d ∧ i2 = i
    · obtain ⟨rfl, rfl⟩ := hn
      rw [get_set s hg] at hx
      obtain rfl := Option.some.inj hx
      exact ho hE
    · rw [get_set_ne s hn] at hx
      refine (h.obj d2 i2 x hx).keep hE (upd_ne L l hn) (fun hm => hheap _ (h.lt hm) fun hm' e => hn (h.inj _ _ _ _ hm hm' e)) hx fun hm q hc => ?_
      rcases hnew _ q hc with hc | ⟨hm', e⟩
      · exact hc
      · exact absurd (h.inj _ _ _ _ hm hm' e) hn
  · intro d1 i1 d2 i2 hm1 hm2 hb
    by_cases hn1 : d1 = d ∧ i1 = i
    · by_cases hn2 : d2 = d ∧ i2 = i
      · exact ⟨hn1.1.trans hn2.1.symm, hn1.2.trans hn2.2.symm⟩
      · exfalso
        obtain ⟨rfl, rfl⟩ := hn1
        have k2 := mat_of (get_set_ne s hn2) (upd_ne L l hn2) hm2
        rw [upd_same, upd_ne L l hn2] at hb
        rcases hl hm1 with ⟨h1, h2⟩ | h1
        · exact hn2 (h.inj _ _ _ _ k2 h1 (hb.symm.trans h2))
        · have := h.lt k2
          omega
    · by_cases hn2 : d2 = d ∧ i2 = i
      · exfalso
        obtain ⟨rfl, rfl⟩ := hn2
        have k1 := mat_of (get_set_ne s hn1) (upd_ne L l hn1) hm1
        rw [upd_same, upd_ne L l hn1] at hb
        rcases hl hm2 with ⟨h1, h2⟩ | h1
        · exact hn1 (h.inj _ _ _ _ k1 h1 (hb.trans h2))
        · have := h.lt k1
          omega
      · rw [upd_ne L l hn1, upd_ne L l hn2] at hb
        exact h.inj _ _ _ _ (mat_of (get_set_ne s hn1) (upd_ne L l hn1) hm1) (mat_of (get_set_ne s hn2) (upd_ne L l hn2) hm2) hb
/-- New blocks that nothing names. -/
theorem SR.grown {W : World} (h : SR s L C w) (hos : W.os = w.os) (htape : W.tape = w.tape) (hout : W.output = w.output) (hsize : w.heap.size ≤ W.heap.size) (hheap : ∀ b, b < w.heap.size → W.heap[b]? = w.heap[b]?) : Ext (s.low.length + 1) s L C w s L C W ∧ SR s L C W := by
  have hE : Ext (s.low.length + 1) s L C w s L C W :=
    ⟨fun _ _ h => h, fun b q hc => World.cell?_of_block (hheap b (h.clt hc)), fun d i t cs _ hg => ⟨⟨cs, hg⟩, rfl⟩, fun d i e sz cs ver pr _ hg => ⟨cs, ver, pr, hg, Nat.le_refl _, fun _ => rfl⟩, hos, htape, hout, hsize,
      fun b hb _ _ => hheap b hb, fun _ h => .inl h, rfl, fun _ h => h, fun _ h => .inl h, rfl⟩
  obtain ⟨r1, r2, r3, r4, r5⟩ := h.rest hE fun b hz => .inl hz
  exact ⟨hE, fun d i x hx => (h.obj d i x hx).keep hE rfl (fun hm => hheap _ (h.lt hm)) hx fun _ _ hc => hc, h.inj, fun b q hq => by
    obtain ⟨v, hv⟩ := h.cok b q hq
    exact ⟨v, by rw [World.cell?_of_block (hheap b (h.clt hq))]; exact hv⟩, r1, r2, r3, r4, r5⟩
/-- A block of a literal is marked: its cells stay. -/
theorem SR.mark {W : World} {b0 : Nat} (h : SR s L C w) (hz : C.fz b0) (hos : W.os = w.os) (htape : W.tape = w.tape) (hout : W.output = w.output) (hsize : W.heap.size = w.heap.size) (hheap : ∀ b, b ≠ b0 → W.heap[b]? = w.heap[b]?)
    (hcell : ∀ q, W.cell? ⟨b0, q, none⟩ = w.cell? ⟨b0, q, none⟩) : Ext (s.low.length + 1) s L C w s L C W ∧ SR s L C W := by
  have hne : ∀ d i, Mat s L d i → (L d i).blk ≠ b0 := fun d i hm e => (h.fzok b0 hz).2.2 ⟨d, i, hm, e⟩
  have hc : ∀ b q, W.cell? ⟨b, q, none⟩ = w.cell? ⟨b, q, none⟩ := fun b q => by
    by_cases e : b = b0
    · subst e; exact hcell q
    · exact World.cell?_of_block (hheap b e)
  have hE : Ext (s.low.length + 1) s L C w s L C W :=
    ⟨fun _ _ h => h, fun b q _ => hc b q, fun d i t cs _ hg => ⟨⟨cs, hg⟩, rfl⟩, fun d i e sz cs ver pr _ hg => ⟨cs, ver, pr, hg, Nat.le_refl _, fun _ => rfl⟩, hos, htape, hout, Nat.le_of_eq hsize.symm,
      fun b _ _ hn => hheap b fun e => hn (e ▸ hz), fun _ h => .inl h, rfl, fun _ h => h, fun _ h => .inl h, rfl⟩
  obtain ⟨r1, r2, r3, r4, r5⟩ := h.rest hE fun b hz => .inl hz
  exact ⟨hE, fun d i x hx => (h.obj d i x hx).keep hE rfl (fun hm => hheap _ (hne d i hm)) hx fun _ _ hc => hc, h.inj, fun b q hq => by
    obtain ⟨v, hv⟩ := h.cok b q hq
    exact ⟨v, by rw [hc]; exact hv⟩, r1, r2, r3, r4, r5⟩
end
end Go.Proofs.YthogcanomihelaaDoor.Ae
