/- How abstract values and stores stand to the machine's; what later states keep of it. -/
import Derived.Test.YthogcanomihelaaDoorAe1
import Derived.WalkKit
import Derived.Test.YthogcanomihelaaDoorAe0
set_option linter.unusedSimpArgs false
set_option linter.unusedVariables false
namespace Go.Proofs.YthogcanomihelaaDoor.Ae
open Go

structure Loc where
  blk : Nat
  base : Nat
  lim : Nat

/-- What is never written: cells; blocks of literals (that may be marked); the world in which all began. -/
structure Cs where
  p : Nat → Nat → Prop
  fz : Nat → Prop
  w0 : World
instance : CoeFun Cs (fun _ => Nat → Nat → Prop) := ⟨Cs.p⟩

/-- A slice (n elements of sz cells from cell off on) of the array at l. -/
def SlOk (l : Loc) (sz off n : Nat) (full : Bool) (v : Value) : Prop :=
  ∃ A cap, v = .slice A n cap ∧ n ≤ cap ∧ (if full = true then cap = n ∧ l.base + off + n * sz ≤ l.lim else l.base + off + cap * sz = l.lim) ∧ (0 < cap → A = some ⟨l.blk, l.base + off, none⟩)

/-- A slice, wherever it lies. -/
def SlV (n : Nat) (full : Bool) (v : Value) : Prop := ∃ A cap, v = .slice A n cap ∧ n ≤ cap ∧ (full = true → cap = n) ∧ (0 < cap → ∃ a, A = some a)
theorem SlOk.slV {l : Loc} {sz off n : Nat} {full : Bool} {v : Value} (h : SlOk l sz off n full v) : SlV n full v := by
  obtain ⟨A, cap, rfl, hn, hf, hA⟩ := h
  refine ⟨A, cap, rfl, hn, fun hq => ?_, fun hq => ⟨_, hA hq⟩⟩
  rw [if_pos hq] at hf
  exact hf.1

inductive VR (s : Store) (L : Nat → Nat → Loc) (C : Cs) (w : World) : AV → Value → Prop
  | undef (v : Value) : VR s L C w .undef v
  | bool (b : Bool) : VR s L C w (.bool b) (.bool b)
  | int (k : IntKind) (n : Int) : VR s L C w (.int k n) (.int k n)
  | str (t : ByteArray) : VR s L C w (.str t) (.string t)
  | nilp : VR s L C w .nilp (.pointer none)
  | ptr (d i off t : Nat) (cs : List AV) (h : s.get d i = some (.box t cs)) : VR s L C w (.ptr d i off) (.pointer (some ⟨(L d i).blk, off, none⟩))
  | aptr (d i off ver e sz : Nat) (cs : List AV) (ver' pr : Nat) (v : Value) (h : s.get d i = some (.arr e sz cs ver' pr)) (hv : ver ≤ ver') (hs : ∃ a, v = .pointer (some a))
      (hc : ver = ver' → v = .pointer (some ⟨(L d i).blk, (L d i).base + off, none⟩)) : VR s L C w (.aptr d i off ver) v
  | eptr (cs : List AV) (a : Addr) (b o : Nat) (u : Nat → Value) (hA : cs ≠ [] → a = ⟨b, o, none⟩) (hok : cellsOk 0 cs = true) (hc : ∀ (j : Nat) x, cs[j]? = some x → C b (o + j) ∧ w.cell? ⟨b, o + j, none⟩ = some (u j))
      (hr : ∀ (j : Nat) x, cs[j]? = some x → VR s L C w x (u j)) : VR s L C w (.eptr cs) (.pointer (some a))
  | imm (full : Bool) (n : Nat) (cs : List AV) (A : Option Addr) (cap b o : Nat) (u : Nat → Value) (hn : n ≤ cap ∧ (0 < cap → ∃ a, A = some a)) (hf : full = true → cap = n ∧ (cs ≠ [] → C.fz b)) (hok : cellsOk 0 cs = true)
      (hA : cs ≠ [] → A = some ⟨b, o, none⟩) (hc : ∀ (j : Nat) x, cs[j]? = some x → C b (o + j) ∧ w.cell? ⟨b, o + j, none⟩ = some (u j))
      (hr : ∀ (j : Nat) x, cs[j]? = some x → VR s L C w x (u j)) : VR s L C w (.imm full n cs) (.slice A n cap)
  | slr (d i off n ver : Nat) (full : Bool) (e sz : Nat) (cs : List AV) (ver' pr : Nat) (v : Value) (h : s.get d i = some (.arr e sz cs ver' pr)) (hv : ver ≤ ver')
      (hs : SlV n full v) (hc : ver = ver' → SlOk (L d i) sz off n full v) : VR s L C w (.slr d i off n ver full) v
  | agg (cs : List AV) (vs : List Value) (hl : vs.length = cs.length) (hr : ∀ (j : Nat) x y, cs[j]? = some x → vs[j]? = some y → VR s L C w x y) : VR s L C w (.agg cs) (.agg vs.toArray)
  | tup (cs : List AV) (vs : List Value) (hl : vs.length = cs.length) (hr : ∀ (j : Nat) x y, cs[j]? = some x → vs[j]? = some y → VR s L C w x y) : VR s L C w (.tup cs) (.tuple vs.toArray)
  | fn (f : Nat) (az bs : List AV) (va vb : List Value) (ha : va.length = az.length) (hb : vb.length = bs.length)
      (hra : ∀ (j : Nat) x y, az[j]? = some x → va[j]? = some y → VR s L C w x y) (hrb : ∀ (j : Nat) x y, bs[j]? = some x → vb[j]? = some y → VR s L C w x y) :
      VR s L C w (.fn f az bs) (.func (.func f) va.toArray vb.toArray)
  | nilfn : VR s L C w .nilfn .nilFunc
  | ifc (t : Nat) (v : AV) (u : Value) (h : VR s L C w v u) : VR s L C w (.ifc t v) (.iface t u)
  | nilifc : VR s L C w .nilifc .nilIface
  | anyb (b : Bool) : VR s L C w .anyb (.bool b)
  | unw : VR s L C w .unw Go.undef

/-- Lists of values, one by one. -/
def VRs (s : Store) (L : Nat → Nat → Loc) (C : Cs) (w : World) (cs : List AV) (vs : List Value) : Prop :=
  vs.length = cs.length ∧ ∀ (j : Nat) x y, cs[j]? = some x → vs[j]? = some y → VR s L C w x y

def Mat (s : Store) (L : Nat → Nat → Loc) (d i : Nat) : Prop :=
  (∃ t cs, s.get d i = some (.box t cs)) ∨ ∃ e sz cs ver pr, s.get d i = some (.arr e sz cs ver pr) ∧ 0 < (L d i).lim
def Own (s : Store) (L : Nat → Nat → Loc) (b : Nat) : Prop := ∃ d i, Mat s L d i ∧ (L d i).blk = b

def ObjR (s : Store) (L : Nat → Nat → Loc) (C : Cs) (w : World) (d i : Nat) : Obj → Prop
  | .box t cs => cellsOk (d + 1) cs = true ∧ (∀ o, ¬ C (L d i).blk o) ∧ ∃ vs : List Value, w.heap[(L d i).blk]? = some (.cells vs.toArray t (0, 0)) ∧ VRs s L C w cs vs
  | .arr e sz cs _ pr => 0 < sz ∧ cellsOk (d + 1) cs = true ∧
      (((L d i).lim = 0 ∧ (L d i).base = 0 ∧ cs = []) ∨
       (0 < (L d i).lim ∧ (∀ o, (L d i).base + pr ≤ o → o < (L d i).lim → ¬ C (L d i).blk o) ∧ (L d i).base + cs.length ≤ (L d i).lim ∧
        ∃ vs : List Value, w.heap[(L d i).blk]? = some (.cells vs.toArray e (0, 0)) ∧ (L d i).lim ≤ vs.length ∧ (∀ (j : Nat) x y, cs[j]? = some x → vs[(L d i).base + j]? = some y → VR s L C w x y)))

structure SR (s : Store) (L : Nat → Nat → Loc) (C : Cs) (w : World) : Prop where
  obj : ∀ d i o, s.get d i = some o → ObjR s L C w d i o
  inj : ∀ d i d' i', Mat s L d i → Mat s L d' i' → (L d i).blk = (L d' i').blk → d = d' ∧ i = i'
  cok : ∀ b o, C b o → ∃ v, w.cell? ⟨b, o, none⟩ = some v
  fzok : ∀ b, C.fz b → C.w0.heap.size ≤ b ∧ b < w.heap.size ∧ ¬ Own s L b
  ownN : ∀ d i, Mat s L d i → C.w0.heap.size ≤ (L d i).blk
  base : ∀ b, b < C.w0.heap.size → w.heap[b]? = C.w0.heap[b]?
  nsz : C.w0.heap.size ≤ w.heap.size
  good : WGood C.w0

/-- What a later state keeps of an earlier one: D bounds the depths of which it speaks. -/
structure Ext (D : Nat) (s : Store) (L : Nat → Nat → Loc) (C : Cs) (w : World) (s' : Store) (L' : Nat → Nat → Loc) (C' : Cs) (w' : World) : Prop where
  sub : ∀ b o, C b o → C' b o
  cell : ∀ b o, C b o → w'.cell? ⟨b, o, none⟩ = w.cell? ⟨b, o, none⟩
  box : ∀ d i t cs, d < D → s.get d i = some (.box t cs) → (∃ cs', s'.get d i = some (.box t cs')) ∧ (L' d i).blk = (L d i).blk
  arr : ∀ d i e sz cs ver pr, d < D → s.get d i = some (.arr e sz cs ver pr) → ∃ cs' ver' pr', s'.get d i = some (.arr e sz cs' ver' pr') ∧ ver ≤ ver' ∧ (ver = ver' → L' d i = L d i)
  os : w'.os = w.os
  tape : w'.tape = w.tape
  output : w'.output = w.output
  size : w.heap.size ≤ w'.heap.size
  frame : ∀ b, b < w.heap.size → ¬ Own s L b → ¬ C'.fz b → w'.heap[b]? = w.heap[b]?
  own : ∀ b, Own s' L' b → Own s L b ∨ w.heap.size ≤ b
  depth : s'.low.length = s.low.length
  fzs : ∀ b, C.fz b → C'.fz b
  fzb : ∀ b, C'.fz b → C.fz b ∨ w.heap.size ≤ b
  w0 : C'.w0 = C.w0

/-- That of it on which values hang. -/
structure Keeps (D : Nat) (s : Store) (L : Nat → Nat → Loc) (C : Cs) (w : World) (s' : Store) (L' : Nat → Nat → Loc) (C' : Cs) (w' : World) : Prop where
  sub : ∀ b o, C b o → C' b o
  cell : ∀ b o, C b o → w'.cell? ⟨b, o, none⟩ = w.cell? ⟨b, o, none⟩
  box : ∀ d i t cs, d < D → s.get d i = some (.box t cs) → (∃ cs', s'.get d i = some (.box t cs')) ∧ (L' d i).blk = (L d i).blk
  arr : ∀ d i e sz cs ver pr, d < D → s.get d i = some (.arr e sz cs ver pr) → ∃ cs' ver' pr', s'.get d i = some (.arr e sz cs' ver' pr') ∧ ver ≤ ver' ∧ (ver = ver' → L' d i = L d i)
  fzs : ∀ b, C.fz b → C'.fz b
theorem Ext.keeps {D : Nat} {s : Store} {L : Nat → Nat → Loc} {C : Cs} {w : World} {s' : Store} {L' : Nat → Nat → Loc} {C' : Cs} {w' : World} (h : Ext D s L C w s' L' C' w') : Keeps D s L C w s' L' C' w' :=
  ⟨h.sub, h.cell, h.box, h.arr, h.fzs⟩

mutual
theorem lowB_mono {D D' : Nat} (h : D ≤ D') : ∀ v : AV, v.lowB D = true → v.lowB D' = true
  | .undef, _ | .bool _, _ | .int _ _, _ | .str _, _ | .nilp, _ | .eptr _, _ | .imm _ _ _, _ | .nilfn, _ | .nilifc, _ | .anyb, _ | .unw, _ => by simp [AV.lowB]
  | .ptr d i o, e => by simp [AV.lowB] at e ⊢; omega
  | .aptr d i o v, e => by simp [AV.lowB] at e ⊢; omega
  | .slr d i o n v f, e => by simp [AV.lowB] at e ⊢; omega
  | .agg cs, e => by simp only [AV.lowB] at e ⊢; exact lowL_mono h cs e
  | .tup cs, e => by simp only [AV.lowB] at e ⊢; exact lowL_mono h cs e
  | .fn f a b, e => by
    simp only [AV.lowB, Bool.and_eq_true] at e ⊢
    exact ⟨lowL_mono h a e.1, lowL_mono h b e.2⟩
  | .ifc t v, e => by simp only [AV.lowB] at e ⊢; exact lowB_mono h v e
theorem lowL_mono {D D' : Nat} (h : D ≤ D') : ∀ vs : List AV, AV.lowL D vs = true → AV.lowL D' vs = true
  | [], _ => rfl
  | v :: r, e => by
    simp only [AV.lowL, Bool.and_eq_true] at e ⊢
    exact ⟨lowB_mono h v e.1, lowL_mono h r e.2⟩
end
theorem lowL_mem {D : Nat} : ∀ {vs : List AV} {j : Nat} {x : AV}, AV.lowL D vs = true → vs[j]? = some x → x.lowB D = true
  | [], j, x, _, h => by simp at h
  | v :: r, 0, x, e, h => by
    simp only [AV.lowL, Bool.and_eq_true] at e
    simp at h
    subst h
    exact e.1
  | v :: r, j + 1, x, e, h => by
    simp only [AV.lowL, Bool.and_eq_true] at e
    exact lowL_mem e.2 (by simpa using h)
theorem cellsOk_mono {D D' : Nat} (h : D ≤ D') {cs : List AV} (hc : cellsOk D cs = true) : cellsOk D' cs = true := by
  simp only [cellsOk, List.all_eq_true, Bool.and_eq_true] at hc ⊢
  exact fun v hv => ⟨(hc v hv).1, lowB_mono h v (hc v hv).2⟩
theorem cellsOk_get {D : Nat} {cs : List AV} (hc : cellsOk D cs = true) {j : Nat} {x : AV} (h : cs[j]? = some x) : x.isCell = true ∧ x.lowB D = true := by
  simp only [cellsOk, List.all_eq_true, Bool.and_eq_true] at hc
  exact hc x (List.mem_of_getElem? h)

theorem get_depth {s : Store} {d i : Nat} {o : Obj} (h : s.get d i = some o) : d ≤ s.low.length := by
  unfold Store.get at h
  split at h
  · omega
  · rcases Nat.lt_or_ge d s.low.length with hd | hd
    · omega
    · rw [List.getElem?_eq_none hd] at h; cases h

section
variable {s : Store} {L : Nat → Nat → Loc} {C : Cs} {w : World}
/-- What stands to a value of the machine names objects that are there. -/
theorem VR.low {v : AV} {u : Value} (h : VR s L C w v u) : v.lowB (s.low.length + 1) = true := by
  have list : ∀ cs : List AV, (∀ (j : Nat) x, cs[j]? = some x → x.lowB (s.low.length + 1) = true) → AV.lowL (s.low.length + 1) cs = true := by
    intro cs
    induction cs with
    | nil => intro _; rfl
    | cons v r ih =>
      intro h
      simp only [AV.lowL, Bool.and_eq_true]
      exact ⟨h 0 v rfl, ih fun j x hx => h (j + 1) x (by simpa using hx)⟩
  have two : ∀ (cs : List AV) (vs : List Value), vs.length = cs.length → (∀ (j : Nat) x y, cs[j]? = some x → vs[j]? = some y → x.lowB (s.low.length + 1) = true) → AV.lowL (s.low.length + 1) cs = true := by
    intro cs vs hl h
    refine list cs fun j x hx => ?_
    have hj : j < vs.length := by rw [hl]; exact (List.getElem?_eq_some_iff.1 hx).1
    exact h j x _ hx (List.getElem?_eq_getElem hj)
  induction h with
  | undef | bool | int | str | nilp | eptr | imm | nilfn | nilifc | anyb | unw => simp [AV.lowB]
  | ptr d i off t cs h => have := get_depth h; simp [AV.lowB]; omega
  | aptr d i off ver e sz cs ver' pr v h => have := get_depth h; simp [AV.lowB]; omega
  | slr d i off n ver full e sz cs ver' pr v h => have := get_depth h; simp [AV.lowB]; omega
  | agg cs vs hl _ ih => simp only [AV.lowB]; exact two cs vs hl ih
  | tup cs vs hl _ ih => simp only [AV.lowB]; exact two cs vs hl ih
  | fn f az bs va vb ha hb _ _ iha ihb => simp only [AV.lowB, Bool.and_eq_true]; exact ⟨two az va ha iha, two bs vb hb ihb⟩
  | ifc t v u _ ih => simp only [AV.lowB]; exact ih

theorem VR.mono {D : Nat} {s' : Store} {L' : Nat → Nat → Loc} {C' : Cs} {w' : World} (hE : Keeps D s L C w s' L' C' w') {v : AV} {u : Value} (h : VR s L C w v u) :
    v.lowB D = true → VR s' L' C' w' v u := by
  induction h with
  | undef v => intro _; exact .undef v
  | bool b => intro _; exact .bool b
  | int k n => intro _; exact .int k n
  | str t => intro _; exact .str t
  | nilp => intro _; exact .nilp
  | ptr d i off t cs h =>
    intro hd
    simp [AV.lowB] at hd
    obtain ⟨⟨cs', h'⟩, hb⟩ := hE.box d i t cs hd h
    rw [← hb]
    exact .ptr d i off t cs' h'
  | aptr d i off ver e sz cs ver' pr v h hv hs hc =>
    intro hd
    simp [AV.lowB] at hd
    obtain ⟨cs2, ver2, pr2, h2, hle, hL⟩ := hE.arr d i e sz cs ver' pr hd h
    refine .aptr d i off ver e sz cs2 ver2 pr2 v h2 (by omega) hs fun hq => ?_
    rw [hL (by omega)]
    exact hc (by omega)
  | eptr cs a b o u hA hok hc hr ih =>
    intro _
    refine .eptr cs a b o u hA hok (fun j x hx => ⟨hE.sub _ _ (hc j x hx).1, ?_⟩) fun j x hx => ih j x hx (lowB_mono (Nat.zero_le D) x (cellsOk_get hok hx).2)
    rw [hE.cell _ _ (hc j x hx).1]
    exact (hc j x hx).2
  | imm full n cs A cap b o u hn hf hok hA hc hr ih =>
    intro _
    refine .imm full n cs A cap b o u hn (fun h => ⟨(hf h).1, fun hne => hE.fzs _ ((hf h).2 hne)⟩) hok hA (fun j x hx => ⟨hE.sub _ _ (hc j x hx).1, ?_⟩) fun j x hx => ih j x hx (lowB_mono (Nat.zero_le D) x (cellsOk_get hok hx).2)
    rw [hE.cell _ _ (hc j x hx).1]
    exact (hc j x hx).2
  | slr d i off n ver full e sz cs ver' pr v h hv hs hc =>
    intro hd
    simp [AV.lowB] at hd
    obtain ⟨cs2, ver2, pr2, h2, hle, hL⟩ := hE.arr d i e sz cs ver' pr hd h
    refine .slr d i off n ver full e sz cs2 ver2 pr2 v h2 (by omega) hs fun hq => ?_
    rw [hL (by omega)]
    exact hc (by omega)
  | agg cs vs hl _ ih => intro hd; simp only [AV.lowB] at hd; exact .agg cs vs hl fun j x y hx hy => ih j x y hx hy (lowL_mem hd hx)
  | tup cs vs hl _ ih => intro hd; simp only [AV.lowB] at hd; exact .tup cs vs hl fun j x y hx hy => ih j x y hx hy (lowL_mem hd hx)
  | fn f az bs va vb ha hb _ _ iha ihb =>
    intro hd
    simp only [AV.lowB, Bool.and_eq_true] at hd
    exact .fn f az bs va vb ha hb (fun j x y hx hy => iha j x y hx hy (lowL_mem hd.1 hx)) fun j x y hx hy => ihb j x y hx hy (lowL_mem hd.2 hx)
  | nilfn => intro _; exact .nilfn
  | ifc t v u _ ih => intro hd; simp only [AV.lowB] at hd; exact .ifc t v u (ih hd)
  | nilifc => intro _; exact .nilifc
  | anyb b => intro _; exact .anyb b
  | unw => intro _; exact .unw

/-- The same, where all depths are kept. -/
theorem VR.keep {s' : Store} {L' : Nat → Nat → Loc} {C' : Cs} {w' : World} (hE : Ext (s.low.length + 1) s L C w s' L' C' w') {v : AV} {u : Value} (h : VR s L C w v u) : VR s' L' C' w' v u :=
  h.mono hE.keeps h.low
theorem VRs.keep {s' : Store} {L' : Nat → Nat → Loc} {C' : Cs} {w' : World} (hE : Ext (s.low.length + 1) s L C w s' L' C' w') {vs : List AV} {us : List Value} (h : VRs s L C w vs us) : VRs s' L' C' w' vs us :=
  ⟨h.1, fun j x y hx hy => (h.2 j x y hx hy).keep hE⟩

theorem Ext.refl (D : Nat) : Ext D s L C w s L C w :=
  ⟨fun _ _ h => h, fun _ _ _ => rfl, fun d i t cs _ h => ⟨⟨cs, h⟩, rfl⟩, fun d i e sz cs ver pr _ h => ⟨cs, ver, pr, h, Nat.le_refl _, fun _ => rfl⟩, rfl, rfl, rfl, Nat.le_refl _, fun _ _ _ _ => rfl, fun _ h => .inl h, rfl, fun _ h => h, fun _ h => .inl h, rfl⟩

theorem Ext.trans {D : Nat} {s1 s2 : Store} {L1 L2 : Nat → Nat → Loc} {C1 C2 : Cs} {w1 w2 : World} (h : Ext D s L C w s1 L1 C1 w1) (k : Ext D s1 L1 C1 w1 s2 L2 C2 w2) : Ext D s L C w s2 L2 C2 w2 where
  sub b o hc := k.sub b o (h.sub b o hc)
  cell b o hc := (k.cell b o (h.sub b o hc)).trans (h.cell b o hc)
  box d i t cs hd hb := by
    obtain ⟨⟨cs1, h1⟩, e1⟩ := h.box d i t cs hd hb
    obtain ⟨h2, e2⟩ := k.box d i t cs1 hd h1
    exact ⟨h2, e2.trans e1⟩
  arr d i e sz cs ver pr hd hb := by
    obtain ⟨cs1, ver1, pr1, h1, le1, e1⟩ := h.arr d i e sz cs ver pr hd hb
    obtain ⟨cs2, ver2, pr2, h2, le2, e2⟩ := k.arr d i e sz cs1 ver1 pr1 hd h1
    exact ⟨cs2, ver2, pr2, h2, by omega, fun hq => (e2 (by omega)).trans (e1 (by omega))⟩
  os := k.os.trans h.os
  tape := k.tape.trans h.tape
  output := k.output.trans h.output
  size := Nat.le_trans h.size k.size
  frame b hb ho hz := by
    refine (k.frame b (Nat.lt_of_lt_of_le hb h.size) (fun h1 => ?_) hz).trans (h.frame b hb ho fun h1 => hz (k.fzs b h1))
    rcases h.own b h1 with h2 | h2
    · exact ho h2
    · omega
  own b hb := by
    rcases k.own b hb with h1 | h1
    · exact h.own b h1
    · exact .inr (Nat.le_trans h.size h1)
  depth := k.depth.trans h.depth
  fzs b h1 := k.fzs b (h.fzs b h1)
  fzb b h1 := by
    rcases k.fzb b h1 with h2 | h2
    · exact h.fzb b h2
    · exact .inr (Nat.le_trans h.size h2)
  w0 := k.w0.trans h.w0

theorem Ext.less {D D' : Nat} (hD : D' ≤ D) {s1 : Store} {L1 : Nat → Nat → Loc} {C1 : Cs} {w1 : World} (h : Ext D s L C w s1 L1 C1 w1) : Ext D' s L C w s1 L1 C1 w1 :=
  { h with box := fun d i t cs hd => h.box d i t cs (Nat.lt_of_lt_of_le hd hD), arr := fun d i e sz cs ver pr hd => h.arr d i e sz cs ver pr (Nat.lt_of_lt_of_le hd hD) }

/-- An object whose block and place have not turned. -/
theorem ObjR.keep {s' : Store} {L' : Nat → Nat → Loc} {C' : Cs} {w' : World} (hE : Ext (s.low.length + 1) s L C w s' L' C' w') {d i : Nat} {o : Obj} (h : ObjR s L C w d i o)
    (hL : L' d i = L d i) (hb : Mat s L d i → w'.heap[(L d i).blk]? = w.heap[(L d i).blk]?) (hm : s.get d i = some o) (hC : Mat s L d i → ∀ q, C' (L d i).blk q → C (L d i).blk q) : ObjR s' L' C' w' d i o := by
  cases o with
  | box t cs =>
    obtain ⟨h1, h2, vs, h3, h4⟩ := h
    have hM : Mat s L d i := .inl ⟨t, cs, hm⟩
    refine ⟨h1, fun q hq => ?_, vs, ?_, h4.keep hE⟩
    · rw [hL] at hq
      exact h2 q (hC hM q hq)
    · rw [hL, hb hM]; exact h3
  | arr e sz cs ver pr =>
    obtain ⟨h0, h1, h2⟩ := h
    refine ⟨h0, h1, ?_⟩
    rw [hL]
    rcases h2 with h2 | ⟨h2, h3, h4, vs, h5, h6, h7⟩
    · exact .inl h2
    · have hM : Mat s L d i := .inr ⟨e, sz, cs, ver, pr, hm, h2⟩
      exact .inr ⟨h2, fun q hq hq' hc => h3 q hq hq' (hC hM q hc), h4, vs, by rw [hb hM]; exact h5, h6, fun j x y hx hy => (h7 j x y hx hy).keep hE⟩

theorem SR.lt (h : SR s L C w) {d i : Nat} (hm : Mat s L d i) : (L d i).blk < w.heap.size := by
  rcases hm with ⟨t, cs, hg⟩ | ⟨e, sz, cs, ver, pr, hg, hl⟩
  · obtain ⟨_, _, vs, h3, _⟩ := h.obj d i _ hg
    exact (Array.getElem?_eq_some_iff.1 h3).1
  · obtain ⟨_, _, h2⟩ := h.obj d i _ hg
    rcases h2 with ⟨h2, _⟩ | ⟨_, _, _, vs, h5, _⟩
    · omega
    · exact (Array.getElem?_eq_some_iff.1 h5).1
theorem SR.clt (h : SR s L C w) {b o : Nat} (hc : C b o) : b < w.heap.size := by
  obtain ⟨v, hv⟩ := h.cok b o hc
  exact World.block_lt_of_cell? w ⟨b, o, none⟩ hv
end
end Go.Proofs.YthogcanomihelaaDoor.Ae
