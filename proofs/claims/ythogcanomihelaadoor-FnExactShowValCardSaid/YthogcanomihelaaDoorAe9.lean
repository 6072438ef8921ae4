/- Every operation that is no call: it does what its abstract one says. -/
import Derived.Test.YthogcanomihelaaDoorAe8
set_option linter.unusedSimpArgs false
set_option linter.unusedVariables false
namespace Go.Proofs.YthogcanomihelaaDoor.Ae
open Go
section
variable {P : Program} {s : Store} {L : Nat → Nat → Loc} {C : Cs} {w : World}

theorem set_self {d i : Nat} {o : Obj} (h : s.get d i = some o) : s.set d i o = s := by
  unfold Store.get at h
  unfold Store.set
  split at h
  · rename_i hd
    rw [if_pos hd]
    have : s.top.set i o = s.top := by
      apply List.ext_getElem?
      intro j
      rw [List.getElem?_set]
      split
      · rename_i hj
        subst hj
        rw [if_pos (List.getElem?_eq_some_iff.1 h).1, h]
      · rfl
    rw [this]
  · rename_i hd
    rw [if_neg hd]
    obtain ⟨fr, hfr, hi⟩ := bind_some h
    have : s.low.modify d (·.set i o) = s.low := by
      apply List.ext_getElem?
      intro j
      rw [List.getElem?_modify]
      split
      · rename_i hj
        subst hj
        rw [hfr]
        show some (fr.set i o) = some fr
        congr 1
        apply List.ext_getElem?
        intro k
        rw [List.getElem?_set]
        split
        · rename_i hk
          subst hk
          rw [if_pos (List.getElem?_eq_some_iff.1 hi).1, hi]
        · rfl
      · first | rfl | (cases s.low[j]? <;> rfl)
    rw [this]

theorem mk_sound {t e sz bytes : Nat} {z : List AV} {n c v : AV} {un uc : Value} {s' : Store} (hR : SR s L C w) (hn : VR s L C w n un) (hc : VR s L C w c uc) (ht : slCk P t e = true) (hs : szCk P e sz = true) (hsz : 0 < sz)
    (hby : byCk P e bytes = true) (hb0 : 0 < bytes) (hz : zeroCk P e z = true) (h : mkV s e sz bytes z n c = some (v, s')) :
    ∃ L' C' w' val, (Instr.makeSlice t un uc).run P w = .ok val w' ∧ VR s' L' C' w' v val ∧ SR s' L' C' w' ∧ Ext (s.low.length + 1) s L C w s' L' C' w' := by
  cases hn <;> try (simp [mkV] at h; done)
  cases hc <;> try (simp [mkV] at h; done)
  rename_i kn n kc c
  simp only [mkV] at h
  split at h
  · rename_i hq
    obtain ⟨h0, rfl, hb, hzl⟩ := hq
    obtain ⟨i, zv, hi, hzv, hvr⟩ := zeroCk_sound (s := s) (L := L) (C := C) (w := w) hz
    obtain ⟨i1, hi1, hs1⟩ := szCk_sound hs
    obtain ⟨i2, hi2, hb2⟩ := byCk_sound hby
    rw [hi] at hi1 hi2
    obtain rfl := Option.some.inj hi1
    obtain rfl := Option.some.inj hi2
    obtain ⟨m, rfl⟩ := Int.eq_ofNat_of_zero_le h0
    have hzl' : zv.cells.toList.length = sz := by rw [hvr.1, hzl]
    have hm : (m : Int) ≤ 9223372036854775807 := by
      have h1 : (m : Int) * 1 ≤ (m : Int) * (bytes : Int) := Int.mul_le_mul_of_nonneg_left (by omega) (by omega)
      omega
    have hrun := run_make (P := P) w t e i zv (slCk_sound ht) hi hzv kn kc m m (by omega) (Int.le_refl _) (by rw [hb2, Int.mul_comm]; omega) hm
    simp only [Int.toNat_natCast] at hrun h
    have hmade : madeCells zv.cells (m * i.size) = (repV m zv.cells.toList ++ []).toArray := by
      rw [List.append_nil, ← rep_range]
      have : zv.cells.size = i.size := by rw [← Array.length_toList, hzl', hs1]
      rw [← this]
      rfl
    rw [hmade] at hrun
    obtain ⟨L', h1, h2, h3⟩ := newArr_sound (rest := []) hR hsz (hvr.rep m) h (pushed_alloc w _) (Nat.le_refl _) (by simp)
    exact ⟨L', C, _, _, hrun, h1, h2, h3⟩
  · cases h

theorem clear_sound {t sz : Nat} {z : List AV} {x : AV} {u : Value} {ty : Nat} {s' : Store} (hR : SR s L C w) (hx : VR s L C w x u)
    (hck : (match P.underlying t with | some (.slice e) => szCk P e sz && zeroCk P e z | _ => false) = true) (h : clearV s sz z x = some s') :
    ∃ w', (Builtin.clear_ #[t] ty #[u]).run P w = .ok (.tuple #[]) w' ∧ SR s' L C w' ∧ Ext (s.low.length + 1) s L C w s' L C w' := by
  obtain ⟨e, ht, hs, hz⟩ : ∃ e, P.underlying t = some (.slice e) ∧ szCk P e sz = true ∧ zeroCk P e z = true := by
    split at hck
    · rename_i e he
      simp only [Bool.and_eq_true] at hck
      exact ⟨e, he, hck⟩
    · cases hck
  obtain ⟨i, zv, hi, hzv, hvr⟩ := zeroCk_sound (s := s) (L := L) (C := C) (w := w) hz
  cases hx with
  | imm full n cs A cap b o u' hn hf hok hA hc hr =>
    cases n with
    | succ n => simp [clearV] at h
    | zero =>
      simp only [clearV, Option.some.injEq] at h
      subst h
      refine ⟨w, ?_, hR, Ext.refl _⟩
      cases A <;> simp [Builtin.clear_, run_underlying ht]
  | slr d i2 off n ver full e' sz' cs ver' pr u hg hv hsV hc =>
    simp only [clearV, hg] at h
    split at h
    · rename_i hq
      obtain ⟨hzok, hzl, rfl, hlen, hver, hpr⟩ := hq
      obtain rfl := Option.some.inj h
      obtain ⟨A, cap, rfl, hn, hf, hA⟩ := hc hver
      have hok : cellsOk (d + 1) (repL n z) = true := cellsOk_mono (Nat.zero_le _) (cellsOk_rep hzok n)
      have hrl : (repL n z).length = n * sz' := by rw [repL_length, hzl]
      rcases Nat.eq_zero_or_pos n with h0 | h0
      · subst h0
        have hsame : s.set d i2 (.arr e' sz' (cs.take off ++ repL 0 z ++ cs.drop (off + 0 * sz')) ver' pr) = s := by
          rw [show cs.take off ++ repL 0 z ++ cs.drop (off + 0 * sz') = cs by simp [repL]]
          exact set_self hg
        rw [hsame]
        refine ⟨w, ?_, hR, Ext.refl _⟩
        cases A <;> simp [Builtin.clear_, run_underlying ht]
      · obtain ⟨_, _, h2⟩ := hR.obj d i2 _ hg
        obtain ⟨hsz0, _, _⟩ := hR.obj d i2 _ hg
        have hpos : 0 < n * sz' := Nat.mul_pos h0 hsz0
        rcases h2 with ⟨_, _, rfl⟩ | ⟨hm, _, hbase, vs, hheap, hlim, hrel⟩
        · simp only [List.length_nil] at hlen; omega
        have hvz := hvr.rep n
        have hul : (repV n zv.cells.toList).length = n * sz' := by rw [hvz.1, hrl]
        obtain ⟨hE, hS⟩ := hR.setArr hg hm hvz hok (by rw [hrl]; exact hlen) hpr vs hheap hlim hrel hbase
        rw [hrl] at hE hS
        have hst := run_storeCells_at P (L d i2).blk ((L d i2).base + off) e' (repV n zv.cells.toList) 0 vs.toArray w hheap (by simp; omega) (hvz.one_all (cellsOk_cells hok))
        simp only [Nat.add_zero] at hst
        refine ⟨_, ?_, hS, hE⟩
        have hzc : Builtin.zeroCells zv.cells n = (repV n zv.cells.toList).toArray := by unfold Builtin.zeroCells; exact rep_range zv.cells n
        rw [hA (by omega)]
        obtain ⟨k, rfl⟩ : ∃ k, n = k + 1 := ⟨n - 1, by omega⟩
        simp only [Builtin.clear_, run_underlying ht, Sem.run_bind, Result.andThen_ok, zeroValue, typeInfo, Sem.run_pure, run_program, hi, hzv, hzc]
        simp only [List.getElem?_toArray, List.getElem?_cons_zero, Sem.run_bind, run_underlying ht, Result.andThen_ok, zeroValue, typeInfo, Sem.run_pure, run_program, hi, hzv, hzc]
        simp [hst, zeroValue, typeInfo, hi, hzv, hzc]
    · cases h
  | _ => simp [clearV] at h

/-! ### parts -/
theorem partsOf_sound {f : Operand → Opd → Bool} {ρC : Operand → Value} {ρA : Opd → AV} (hρ : ∀ x y, f x y = true → VR s L C w (ρA y) (ρC x)) (pl : List (Nat × Nat)) :
    ∀ (ps : List (Nat × Operand)) (qs : List (Nat × Nat × Opd)) (l : List (Nat × List AV)), ckBuild f pl ps qs = true → partsOf ρA qs = some l →
      ∃ rs : List (Nat × List Value), Corr (pl[·]?) (ps.map fun x => (x.1, ρC x.2)) rs ∧ rs.length = l.length ∧ ∀ (j : Nat) p r, l[j]? = some p → rs[j]? = some r → r.1 = p.1 ∧ VRs s L C w p.2 r.2
  | [], [], l, _, h => by
    simp only [partsOf, Option.some.injEq] at h
    subst h
    exact ⟨[], trivial, rfl, fun j p r hp => by simp at hp⟩
  | [], _ :: _, _, h, _ => by simp [ckBuild] at h
  | _ :: _, [], _, h, _ => by simp [ckBuild] at h
  | (i, x) :: ps, (o, n, y) :: qs, l, hck, h => by
    simp only [ckBuild, Bool.and_eq_true, decide_eq_true_eq] at hck
    obtain ⟨⟨h1, h2⟩, h3⟩ := hck
    simp only [partsOf] at h
    split at h
    · rename_i hq
      obtain ⟨l', hl', h⟩ := bind_some h
      obtain rfl := Option.some.inj h
      obtain ⟨rs, g1, g2, g3⟩ := partsOf_sound hρ pl ps qs l' h3 hl'
      obtain ⟨us, hu1, hu2⟩ := (hρ x y h2).cells hq.2
      refine ⟨(o, us) :: rs, ⟨?_, hu1, g1⟩, by simp [g2], fun j p r hp hr => ?_⟩
      · show pl[i]? = some (o, us.length)
        rw [h1, hu2.1, hq.1]
      · cases j with
        | zero =>
          simp only [List.getElem?_cons_zero, Option.some.injEq] at hp hr
          subst hp; subst hr
          exact ⟨rfl, hu2⟩
        | succ j => exact g3 j p r (by simpa using hp) (by simpa using hr)
    · cases h

theorem litParts_sound {f : Operand → Opd → Bool} {ρC : Operand → Value} {ρA : Opd → AV} {fz : Bool} {sz : Nat} :
    ∀ (ps : List (Nat × Operand)) (qs : List (Nat × Opd)) (s s' : Store) (C : Cs) (l : List (Nat × List AV)), SR s L C w → (∀ x y, f x y = true → VR s L C w (ρA y) (ρC x)) → ckLit f ps qs = true → litParts ρA fz sz s qs = some (l, s') →
      ∃ C' : Cs, ∃ rs : List (Nat × List Value), SR s' L C' w ∧ Ext (s.low.length + 1) s L C w s' L C' w ∧ Corr (fun i => some (i * sz, sz)) (ps.map fun x => (x.1, ρC x.2)) rs ∧ rs.length = l.length ∧ ∀ (j : Nat) p r, l[j]? = some p → rs[j]? = some r → r.1 = p.1 ∧ VRs s' L C' w p.2 r.2
  | [], [], s, s', C, l, hR, _, _, h => by
    simp only [litParts, Option.some.injEq, Prod.mk.injEq] at h
    obtain ⟨rfl, rfl⟩ := h
    exact ⟨C, [], hR, Ext.refl _, trivial, rfl, fun j p r hp => by simp at hp⟩
  | [], _ :: _, _, _, _, _, _, _, h, _ => by simp [ckLit] at h
  | _ :: _, [], _, _, _, _, _, _, h, _ => by simp [ckLit] at h
  | (i, x) :: ps, (k, y) :: qs, s, s', C, l, hR, hρ, hck, h => by
    simp only [ckLit, Bool.and_eq_true, beq_iff_eq] at hck
    obtain ⟨⟨rfl, h2⟩, h3⟩ := hck
    simp only [litParts] at h
    obtain ⟨⟨v1, s1⟩, hv1, h⟩ := bind_some h
    dsimp only at h
    split at h
    · rename_i hq
      obtain ⟨⟨l', s2⟩, hl', h⟩ := bind_some h
      simp only [Option.some.injEq, Prod.mk.injEq] at h
      obtain ⟨rfl, rfl⟩ := h
      have hfz : ∃ C1, VR s1 L C1 w v1 (ρC x) ∧ SR s1 L C1 w ∧ Ext (s.low.length + 1) s L C w s1 L C1 w := by
        cases fz with
        | true => exact frz_sound hR (hρ x y h2) hv1
        | false =>
          simp only [Bool.false_eq_true, if_false, Option.some.injEq, Prod.mk.injEq] at hv1
          obtain ⟨rfl, rfl⟩ := hv1
          exact ⟨C, hρ x y h2, hR, Ext.refl _⟩
      obtain ⟨C1, g1, g2, g3⟩ := hfz
      obtain ⟨C2, rs, k1, k2, k3, k4, k5⟩ := litParts_sound ps qs s1 s2 C1 l' g2 (fun a b hab => (hρ a b hab).keep g3) h3 hl'
      have k2' := k2
      rw [show s1.low.length = s.low.length from g3.depth] at k2'
      obtain ⟨us, hu1, hu2⟩ := (g1.keep k2).cells hq.2
      refine ⟨C2, (i * sz, us) :: rs, k1, g3.trans k2', ⟨?_, hu1, k3⟩, by simp [k4], fun j p r hp hr => ?_⟩
      · show some (i * sz, sz) = some (i * sz, us.length)
        rw [hu2.1, hq.1]
      · cases j with
        | zero =>
          simp only [List.getElem?_cons_zero, Option.some.injEq] at hp hr
          subst hp; subst hr
          exact ⟨rfl, hu2⟩
        | succ j => exact k5 j p r (by simpa using hp) (by simpa using hr)
    · cases h

theorem build_sound {t : Nat} {z : List AV} {f : Operand → Opd → Bool} {ρC : Operand → Value} {ρA : Opd → AV} (hρ : ∀ x y, f x y = true → VR s L C w (ρA y) (ρC x)) {ps : Array (Nat × Operand)} {qs : List (Nat × Nat × Opd)} {l : List (Nat × List AV)} {cs : List AV}
    (hz : zeroCk P t z = true) (hck : buildCk (ckBuild f) P t ps.toList qs = true) (hl : partsOf ρA qs = some l) (hf : fillL z l = some cs) :
    ∃ vs : List Value, (Instr.build t (ps.map fun (i, x) => (i, ρC x))).run P w = .ok (.agg vs.toArray) w ∧ VRs s L C w cs vs := by
  unfold buildCk at hck
  split at hck
  · rename_i pl hpl
    obtain ⟨rs, h1, h2, h3⟩ := partsOf_sound hρ pl ps.toList qs l hck hl
    obtain ⟨i, zv, hi, hzv, hvr⟩ := zeroCk_sound (s := s) (L := L) (C := C) (w := w) hz
    obtain ⟨vs, h4, h5⟩ := VRs.fill l rs z cs zv.cells.toList hvr h2 h3 hf
    have h6 := fill_eq _ _ _ _ _ h1 h4
    refine ⟨vs, run_build w t _ _ ?_, h5⟩
    unfold placesOf at hpl
    split at hpl
    · rename_i fs hfs
      unfold Program.built
      rw [hi, hfs]
      dsimp only
      rw [hzv, hpl]
      dsimp only
      have he : (ps.map fun (i, x) => (i, ρC x)).toList = ps.toList.map fun x => (x.1, ρC x.2) := by simp
      rw [he]
      simpa using h6
    · cases hpl
  · cases hck

theorem lit_sound {t e n sz : Nat} {z : List AV} {arr fz : Bool} {f : Operand → Opd → Bool} {ρC : Operand → Value} {ρA : Opd → AV} (hR : SR s L C w) (hρ : ∀ x y, f x y = true → VR s L C w (ρA y) (ρC x)) {ps : Array (Nat × Operand)} {qs : List (Nat × Opd)} {v : AV} {s' : Store}
    (hlit : litCk P t n e sz z = true) (hn : qs.length = n) (hck : ckLit f ps.toList qs = true)
    (h : evOp (.lit e sz z qs arr fz) ρA s = some (v, s')) :
    ∃ L' C' w' val, (Instr.buildSlice t n (ps.map fun (i, x) => (i, ρC x))).run P w = .ok val w' ∧ VR s' L' C' w' v val ∧ SR s' L' C' w' ∧ Ext (s.low.length + 1) s L C w s' L' C' w' := by
  unfold litCk at hlit
  simp only [Bool.and_eq_true, beq_iff_eq, decide_eq_true_eq] at hlit
  obtain ⟨⟨⟨⟨⟨ht, hs⟩, hz⟩, hzl⟩, hsz⟩, hbig⟩ := hlit
  simp only [evOp] at h
  obtain ⟨⟨l, s1⟩, hl, h⟩ := bind_some h
  obtain ⟨cs, hcs, h⟩ := bind_some h
  dsimp only at hcs h
  obtain ⟨C1, rs, g1, g2, g3, g4, g5⟩ := litParts_sound ps.toList qs s s1 C l hR hρ hck hl
  obtain ⟨i, zv, hi, hzv, hvr⟩ := zeroCk_sound (s := s1) (L := L) (C := C1) (w := w) hz
  have hzl' : zv.cells.toList.length = sz := by rw [hvr.1, hzl]
  have hzs : zv.cells.size = sz := by rw [← Array.length_toList]; exact hzl'
  obtain ⟨vs, h4, h5⟩ := VRs.fill l rs _ cs _ (hvr.rep qs.length) g4 g5 hcs
  have h6 := fill_eq _ _ _ _ _ g3 h4
  have hrun : (Instr.buildSlice t n (ps.map fun (i, x) => (i, ρC x))).run P w = .ok (.slice (some ⟨w.heap.size, 0, none⟩) n n) (w.alloc (.cells vs.toArray e)) := by
    have he : (ps.map fun (i, x) => (i, ρC x)).toList = ps.toList.map fun x => (x.1, ρC x.2) := by simp
    have hbig' : ¬ (16777216 < n * sz) := by omega
    by_cases h0 : n * sz = 0
    · have hn0 : n = 0 := by
        rcases Nat.mul_eq_zero.1 h0 with h1 | h1
        · exact h1
        · omega
      have hq0 : qs = [] := List.eq_nil_of_length_eq_zero (by omega)
      subst hq0
      have hp0 : ps.toList = [] := by
        cases hp : ps.toList with
        | nil => rfl
        | cons a b => rw [hp] at hck; simp [ckLit] at hck
      rw [hp0] at h6
      simp only [List.map_nil, Instr.fill, Option.some.injEq, List.length_nil, repV] at h6
      have hp1 : ps = #[] := by
        apply Array.ext'
        rw [hp0]
      subst hp1
      simp [Instr.buildSlice, run_underlying (slCk_sound ht), run_sizeOf hs, hbig', hn0, newRow, ← h6, Instr.fill, Array.range_zero']
    · have hrep := rep_range zv.cells n
      rw [hzs] at hrep
      rw [← he, hn, ← hrep] at h6
      have h7 : Instr.fill (fun i => some (i * sz, sz)) (Array.map (fun x => zv.cells[x % sz]!) (Array.range (n * sz))) (ps.map fun (i, x) => (i, ρC x)).toList = some vs.toArray := h6
      have h8 : ¬ (n = 0 ∨ sz = 0) := by
        rintro (rfl | rfl)
        · simp at h0
        · simp at h0
      simp only [Instr.buildSlice, run_underlying (slCk_sound ht), run_sizeOf hs, Sem.run_bind, Result.andThen_ok, hbig', if_false, h0, zeroValue, typeInfo, run_program, hi, hzv, Sem.run_pure, hzs, h7, newRow, run_newObj]
      simp [Instr.buildSlice, run_underlying (slCk_sound ht), run_sizeOf hs, hbig', h8, zeroValue, typeInfo, hi, hzv, hzs, h7, newRow]
  cases arr with
  | true =>
    simp only [if_true] at h
    rw [hn] at h
    obtain ⟨L', k1, k2, k3⟩ := newArr_sound (rest := []) (n := n) (cap := n) g1 hsz h5 h (by rw [List.append_nil]; exact pushed_alloc w _) (Nat.le_refl _) (by simp)
    rw [show s1.low.length = s.low.length from g2.depth] at k3
    exact ⟨L', C1, _, _, hrun, k1, k2, g2.trans k3⟩
  | false =>
    simp only [Bool.false_eq_true, if_false] at h
    split at h
    · rename_i hq
      simp only [Option.some.injEq, Prod.mk.injEq] at h
      obtain ⟨rfl, rfl⟩ := h
      obtain ⟨C2, k1, k2, k3⟩ := newImm_sound (n := n) g1 h5 hq.1 (pushed_alloc w (.cells vs.toArray e))
      rw [show s1.low.length = s.low.length from g2.depth] at k3
      rw [hn]
      exact ⟨L, C2, _, _, hrun, k1, k2, g2.trans k3⟩
    · cases h
end
end Go.Proofs.YthogcanomihelaaDoor.Ae
