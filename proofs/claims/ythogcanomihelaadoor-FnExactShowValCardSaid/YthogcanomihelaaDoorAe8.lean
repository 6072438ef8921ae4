/- Appends, makes, literals, clears. -/
import Derived.Test.YthogcanomihelaaDoorAe7
set_option linter.unusedSimpArgs false
set_option linter.unusedVariables false
namespace Go.Proofs.YthogcanomihelaaDoor.Ae
open Go
section
variable {P : Program} {s : Store} {L : Nat → Nat → Loc} {C : Cs} {w : World}

/-- What is appended. -/
structure Src (P : Program) (w : World) (sz : Nat) (x : Value) (m : Nat) (us : List Value) : Prop where
  len : (Builtin.lenOf x).run P w = .ok m w
  cells : ∀ W : World, W.heap = w.heap → (Builtin.firstCells sz m x).run P W = .ok us.toArray W
theorem cell_heap {W w : World} (h : W.heap = w.heap) (a : Addr) : W.cell? a = w.cell? a := by simp [World.cell?, h]
theorem src_slice {sz n cap : Nat} {A : Option Addr} {us : List Value} (hl : us.length = n * sz) (hr : us ≠ [] → ∃ b o, A = some ⟨b, o, none⟩ ∧ RowAt w b o us) : Src P w sz (.slice A n cap) n us := by
  refine ⟨by simp [Builtin.lenOf], fun W hW => ?_⟩
  cases us with
  | nil =>
    simp only [List.length_nil] at hl
    cases A with
    | none => simp [Builtin.firstCells]
    | some a => simp [Builtin.firstCells, ← hl, loadCells, loadCellsFrom]
  | cons u r =>
    obtain ⟨b, o, rfl, hrow⟩ := hr (by simp)
    have h := run_loadCells_list (P := P) W ⟨b, o, none⟩ (u :: r) (fun j v hv => by rw [add_lit', cell_heap hW]; exact hrow j v hv)
    rw [hl] at h
    simpa [Builtin.firstCells] using h
theorem src_string {sz : Nat} (t : ByteArray) : Src P w sz (.string t) t.size (t.data.toList.map fun b => .int .u8 b.toNat) := by
  refine ⟨by simp [Builtin.lenOf], fun W _ => ?_⟩
  have he : t.extract 0 t.size = t := by
    apply ByteArray.ext
    simp only [ByteArray.data_extract]
    have : t.size = t.data.size := rfl
    rw [this, Array.extract_size]
  simp only [Builtin.firstCells, he, Sem.run_pure]
  congr 1
  apply Array.ext'
  simp
theorem strCells_sound (t : ByteArray) : VRs s L C w (strCells t) (t.data.toList.map fun b => .int .u8 b.toNat) := by
  refine ⟨by simp [strCells], fun j x y hx hy => ?_⟩
  simp only [strCells, List.getElem?_map, Option.map_eq_some_iff] at hx hy
  obtain ⟨b, hb, rfl⟩ := hx
  obtain ⟨b', hb', rfl⟩ := hy
  rw [hb] at hb'
  obtain rfl := Option.some.inj hb'
  exact .int _ _

theorem dst_kind {u : Nat} (hu : (match P.underlying u with | some (.slice _) => true | some .string => true | _ => false) = true) : (∃ e, P.underlying u = some (.slice e)) ∨ P.underlying u = some .string := by
  split at hu
  · rename_i e he; exact .inl ⟨e, he⟩
  · rename_i he; exact .inr he
  · cases hu
theorem run_append_fit {t u ty e sz n m cap : Nat} {A : Option Addr} {x : Value} {us : List Value} {w' : World} (ht : P.underlying t = some (.slice e)) (hs : szCk P e sz = true)
    (hu : (match P.underlying u with | some (.slice _) => true | some .string => true | _ => false) = true) (h : Src P w sz x m us) (hn : n + m ≤ cap)
    (hst : match A with | some a => (storeCells (a.add (n * sz)) us).run P w = .ok () w' | none => w' = w) :
    (Builtin.append_ #[t, u] ty #[.slice A n cap, x]).run P w = .ok (.slice A (n + m) cap) w' := by
  rcases dst_kind hu with ⟨d, hd⟩ | hd
  · cases A with
    | none =>
      subst hst
      simp [Builtin.append_, run_underlying ht, run_underlying hd, run_sizeOf hs, h.len, h.cells w' rfl, hn]
    | some a =>
      have hst' : (storeCells (a.add (n * sz)) us).run P w = .ok () w' := hst
      simp [Builtin.append_, run_underlying ht, run_underlying hd, run_sizeOf hs, h.len, h.cells w rfl, hn, hst']
  · cases A with
    | none =>
      subst hst
      simp [Builtin.append_, run_underlying ht, run_underlying hd, run_sizeOf hs, h.len, h.cells w' rfl, hn]
    | some a =>
      have hst' : (storeCells (a.add (n * sz)) us).run P w = .ok () w' := hst
      simp [Builtin.append_, run_underlying ht, run_underlying hd, run_sizeOf hs, h.len, h.cells w rfl, hn, hst']

theorem run_append_more {t u ty e sz bytes n m cap : Nat} {A : Option Addr} {x : Value} {us olds : List Value} {i : TypeInfo} {z : Value} (ht : P.underlying t = some (.slice e)) (hi : P.info? e = some i) (hz : i.zero = some z) (hzs : z.cells.size = sz) (hs : i.size = sz) (hby : i.bytes = bytes)
    (hu : (match P.underlying u with | some (.slice _) => true | some .string => true | _ => false) = true) (h : Src P w sz x m us) (ho : Src P w sz (.slice A n cap) n olds) (hn : cap < n + m) (hb : (n + m) * bytes ≤ 140737488355328) (hsmall : n + m ≤ 140737488355328) :
    ∃ c rest, n + m ≤ c ∧ (n + m) * sz + List.length rest = c * sz ∧
      (Builtin.append_ #[t, u] ty #[.slice A n cap, x]).run P w = .ok (.slice (some ⟨w.heap.size, 0, none⟩) (n + m) c) (w.drew.alloc (.cells (olds ++ us ++ rest).toArray e)) := by
  have hlt := Nat.mod_lt (w.tape w.drawn (.appendCap (n + m) cap e)) (show 0 < 2 ^ 63 - (n + m) by omega)
  have hge : n + m ≤ grownCap w (n + m) cap e := by simp only [grownCap, Question.cut]; omega
  refine ⟨grownCap w (n + m) cap e, (Builtin.zeroCells z.cells (grownCap w (n + m) cap e - (n + m))).toList, hge, ?_, ?_⟩
  · rw [Array.length_toList, size_zeroCells, hzs, ← Nat.add_mul]
    congr 1
    omega
  · have hn' : ¬ (n + m ≤ cap) := by omega
    have h63' : ¬ (9223372036854775807 < ((n : Int) + (m : Int))) := by omega
    have h48 := growslice_fits hn hb
    have h48' : ¬ (281474976710656 < Builtin.nextslicecap (n + m) cap * bytes) := by omega
    have hsz : ∀ W : World, (sizeOf e).run P W = .ok sz W := fun W => by simp [sizeOf, typeInfo, hi, hs]
    have hf := h.cells w.drew rfl
    have hfo := ho.cells w.drew rfl
    rcases dst_kind hu with ⟨d, hd⟩ | hd
    · simp [Builtin.append_, run_underlying ht, run_underlying hd, hsz, typeInfo, zeroValue, hi, hz, hby, h.len, hn', h63', h48', Question.forced, hf, hfo, newRow, grownCap]
      congr 2
      apply Array.ext'
      simp [List.append_assoc]
    · simp [Builtin.append_, run_underlying ht, run_underlying hd, hsz, typeInfo, zeroValue, hi, hz, hby, h.len, hn', h63', h48', Question.forced, hf, hfo, newRow, grownCap]
      congr 2
      apply Array.ext'
      simp [List.append_assoc]

theorem elems_len {x : AV} {n : Nat} {cs : List AV} {sz : Nat} (_ : elems s x = some (n, cs)) (_ : cs.length = n * sz) : True := trivial
theorem src_sound {y : AV} {u : Value} {m sz : Nat} {ys : List AV} (hR : SR s L C w) (hy : VR s L C w y u)
    (h : srcOf s y = some (m, ys)) (hl : ys.length = m * sz) : ∃ us, VRs s L C w ys us ∧ Src P w sz u m us := by
  have slice : elems s y = some (m, ys) → ∃ us, VRs s L C w ys us ∧ Src P w sz u m us := by
    intro he
    obtain ⟨A, cap, us, rfl, _, h1, h2⟩ := elems_sound hR hy he
    exact ⟨us, h1, src_slice (by rw [h1.1, hl]) h2⟩
  cases y <;> try exact slice h
  case str t =>
    cases hy
    simp only [srcOf] at h
    simp only [Option.some.injEq, Prod.mk.injEq] at h
    obtain ⟨rfl, rfl⟩ := h
    exact ⟨_, strCells_sound t, src_string t⟩

theorem upd_self (L : Nat → Nat → Loc) (d i : Nat) : upd L d i (L d i) = L := by
  funext a b
  unfold upd
  split
  · rename_i hq; rw [hq.1, hq.2]
  · rfl

theorem append_sound {t u ty e sz bytes : Nat} {x y v : AV} {ux uy : Value} {s' : Store} (hR : SR s L C w) (hx : VR s L C w x ux) (hy : VR s L C w y uy) (ht : P.underlying t = some (.slice e)) (hs : szCk P e sz = true) (hsz : 0 < sz) (hby : byCk P e bytes = true) (hb0 : 0 < bytes)
    (hzero : (match P.info? e with | some i => (match i.zero with | some zv => zv.cells.size == sz | none => false) | none => false) = true)
    (hu : (match P.underlying u with | some (.slice _) => true | some .string => true | _ => false) = true) (h : appV s e sz bytes x y = some (v, s')) :
    ∃ L' C' w' val, (Builtin.append_ #[t, u] ty #[ux, uy]).run P w = .ok val w' ∧ VR s' L' C' w' v val ∧ SR s' L' C' w' ∧ Ext (s.low.length + 1) s L C w s' L' C' w' := by
  obtain ⟨i, z, hi, hzv, hzs, his, hib⟩ : ∃ i z, P.info? e = some i ∧ i.zero = some z ∧ z.cells.size = sz ∧ i.size = sz ∧ i.bytes = bytes := by
    obtain ⟨i, hi, h1⟩ := szCk_sound hs
    obtain ⟨i', hi', h2⟩ := byCk_sound hby
    rw [hi] at hi'
    obtain rfl := Option.some.inj hi'
    rw [hi] at hzero
    dsimp only at hzero
    split at hzero
    · rename_i z hz; exact ⟨i, z, hi, hz, by simpa using hzero, h1, h2⟩
    · cases hzero
  unfold appV at h
  have h0 := bind_some h
  clear h
  obtain ⟨⟨m, ys⟩, hsrc, h⟩ := h0
  dsimp only at h
  unfold appTo at h
  cases hx with
  | imm full n cs A cap b o u' hn hf hok hA hc hr =>
    cases full with
    | false => simp at h
    | true =>
      obtain ⟨hfc, hfz⟩ := hf rfl
      subst hfc
      dsimp only at h
      split at h
      · rename_i hq
        obtain ⟨hb, hyok, hlen, hylen⟩ := hq
        obtain ⟨us, hus, hS⟩ := src_sound (P := P) hR hy hsrc hylen
        have hul : us.length = ys.length := hus.1
        have holds : VRs s L C w cs ((List.range cs.length).map u') := .of_fun hr
        have hso : Src P w sz (.slice A cap cap) cap ((List.range cs.length).map u') := src_slice (by simp [hlen]) fun hne => ⟨b, o, hA (by rintro rfl; simp at hne), rowAt_of_fun fun j hj => (hc j _ (List.getElem?_eq_getElem hj)).2⟩
        split at h
        · rename_i hm
          subst hm
          simp only [Option.some.injEq, Prod.mk.injEq] at h
          obtain ⟨rfl, rfl⟩ := h
          have hu0 : us = [] := List.eq_nil_of_length_eq_zero (by rw [hul, hylen]; simp)
          subst hu0
          refine ⟨L, C, w, _, run_append_fit (m := 0) ht hs hu hS (Nat.le_refl _) ?_, .imm true cap cs A cap b o u' hn (fun _ => ⟨rfl, hfz⟩) hok hA hc hr, hR, Ext.refl _⟩
          cases A <;> simp [storeCells]
        · rename_i hm
          have hm0 : 0 < m := by omega
          have hmul : m ≤ 140737488355328 ∧ cap + m ≤ 140737488355328 := by
            have := Nat.le_mul_of_pos_right (cap + m) hb0
            omega
          obtain ⟨c, rest, hc1, hc2, hrun⟩ := run_append_more (u := u) (ty := ty) ht hi hzv hzs his hib hu hS hso (by omega) hb hmul.2
          obtain ⟨L', h1, h2, h3⟩ := newArr_sound (rest := rest) hR hsz (holds.append hus) h (pushed_drew w _) hc1 hc2
          exact ⟨L', C, _, _, hrun, h1, h2, h3⟩
      · cases h
  | slr d i2 off n ver full e' sz' cs ver' pr ux hg hv hsV hc =>
    simp only [hg] at h
    split at h
    · rename_i hq
      obtain ⟨hb, hver, hlen, he1, he2, hylen⟩ := hq
      have hs1 := hc hver
      subst hver
      subst he1
      subst he2
      obtain ⟨us, hus, hS⟩ := src_sound (P := P) hR hy hsrc hylen
      have hul : us.length = ys.length := hus.1
      obtain ⟨A, cap, rfl, hn, hf, hA⟩ := hs1
      have hnm : n + m ≤ 140737488355328 := by have := Nat.le_mul_of_pos_right (n + m) hb0; omega
      obtain ⟨row, hrow1, hrow2⟩ := arr_row hR hg
      have hrl : row.length = cs.length := hrow1.1
      have hn0 : n * sz' ≠ 0 → 0 < cap := by
        intro h0
        rcases Nat.eq_zero_or_pos n with h1 | h1
        · subst h1; simp at h0
        · omega
      have holds : VRs s L C w ((cs.drop off).take (n * sz')) ((row.drop off).take (n * sz')) := (hrow1.drop off).take _
      have hso : Src P w sz' (.slice A n cap) n ((row.drop off).take (n * sz')) := by
        refine src_slice (by rw [List.length_take, List.length_drop]; omega) fun hne => ?_
        have hnz : n * sz' ≠ 0 := by intro h0; rw [h0] at hne; simp at hne
        have hr : row ≠ [] := by rintro rfl; simp at hne
        exact ⟨_, _, hA (hn0 hnz), ((hrow2 hr).drop off).take _⟩
      split at h
      · rename_i hfull
        subst hfull
        rw [if_pos rfl] at hf
        obtain ⟨rfl, hlim⟩ := hf
        split at h
        · rename_i hm0
          subst hm0
          simp only [Option.some.injEq, Prod.mk.injEq] at h
          obtain ⟨rfl, rfl⟩ := h
          have hu0 : us = [] := List.eq_nil_of_length_eq_zero (by rw [hul, hylen]; simp)
          subst hu0
          refine ⟨L, C, w, _, run_append_fit (m := 0) ht hs hu hS (Nat.le_refl _) ?_, .slr d i2 off cap ver true e' sz' cs ver pr _ hg hv hsV hc, hR, Ext.refl _⟩
          cases A <;> simp [storeCells]
        · rename_i hm0
          split at h
          · obtain ⟨c, rest, hc1, hc2, hrun⟩ := run_append_more (u := u) (ty := ty) ht hi hzv hzs his hib hu hS hso (by omega) hb hnm
            obtain ⟨L', h1, h2, h3⟩ := newArr_sound (rest := rest) hR hsz (holds.append hus) h (pushed_drew w _) hc1 hc2
            exact ⟨L', C, _, _, hrun, h1, h2, h3⟩
          · cases h
      · rename_i hfull
        have hfull' : full = false := by cases full <;> simp_all
        subst hfull'
        rw [if_neg (by simp)] at hf
        split at h
        · rename_i hq
          obtain ⟨hyok, hpr⟩ := hq
          simp only [Option.some.injEq, Prod.mk.injEq] at h
          obtain ⟨rfl, rfl⟩ := h
          obtain ⟨hsz0, hok0, h2⟩ := hR.obj d i2 _ hg
          have hokn : cellsOk (d + 1) ((cs.drop off).take (n * sz') ++ ys) = true := cellsOk_append.2 ⟨cellsOk_take (cellsOk_drop hok0 _) _, hyok⟩
          have hlenn : ((cs.drop off).take (n * sz') ++ ys).length = (n + m) * sz' := by rw [List.length_append, List.length_take, List.length_drop, hylen, Nat.add_mul]; omega
          have hgs := get_set (o' := .arr e' sz' ((cs.drop off).take (n * sz') ++ ys) (ver + 1) (pr - off)) s hg
          by_cases hfit : n + m ≤ cap
          · -- within the room
            rcases h2 with ⟨h0, hb0', hcs⟩ | ⟨h0, hnc, hbase, vs, hheap, hlim, hrel⟩
            · -- it lies nowhere
              subst hcs
              have hc0 : cap = 0 := by
                rcases Nat.eq_zero_or_pos cap with h1 | h1
                · exact h1
                · have := Nat.mul_pos h1 hsz; omega
              have hz0 : n = 0 := by omega
              have hm0 : m = 0 := by omega
              subst hc0; subst hz0; subst hm0
              have hu0 : us = [] := List.eq_nil_of_length_eq_zero (by rw [hul, hylen]; simp)
              have hy0 : ys = [] := List.eq_nil_of_length_eq_zero (by rw [hylen]; simp)
              subst hu0; subst hy0
              have key := hR.turn (W := w) (C' := C) (l := L d i2) (o' := .arr e' sz' ((([] : List AV).drop off).take (0 * sz') ++ []) (ver + 1) (pr - off)) hg ⟨rfl, rfl, by omega, fun hq => by omega⟩ rfl rfl rfl (Nat.le_refl _)
                (fun _ _ _ => rfl) (fun _ _ h => h) (fun _ _ h => .inl h) (fun _ _ _ => rfl) (fun b q hc => hR.cok b q hc)
                (fun hm => by
                  rcases hm with ⟨t, c, hm⟩ | ⟨e', sz', c, v', p', hm, hlm⟩
                  · rw [get_set s hg] at hm; cases hm
                  · rw [upd_same] at hlm; omega)
                (fun hE => ⟨hsz, by simp [cellsOk], .inl ⟨by rw [upd_same]; exact h0, by rw [upd_same]; exact hb0', by simp⟩⟩)
              rw [upd_self] at key
              refine ⟨L, C, w, _, run_append_fit (m := 0) ht hs hu hS (Nat.le_refl _) ?_, ?_, key.2, key.1⟩
              · cases A <;> simp [storeCells]
              · have hs2 : SlOk (L d i2) sz' 0 (0 + 0) false (.slice A (0 + 0) 0) := ⟨_, _, rfl, Nat.le_refl _, by rw [if_neg (by simp)]; omega, fun h => absurd h (Nat.lt_irrefl _)⟩
                exact .slr _ _ _ _ _ _ _ _ _ _ _ _ (get_set s hg) (Nat.le_refl _) hs2.slV fun _ => hs2
            · have hM : Mat s L d i2 := .inr ⟨e', sz', cs, ver, pr, hg, h0⟩
              have hcapmul : (n + m) * sz' ≤ cap * sz' := Nat.mul_le_mul_right _ hfit
              have hmulnm : (n + m) * sz' = n * sz' + m * sz' := Nat.add_mul _ _ _
              have hcell : ∀ b q, C b q → (w.setRow (L d i2).blk (vs.take ((L d i2).base + off + n * sz') ++ us ++ vs.drop ((L d i2).base + off + n * sz' + us.length)).toArray).cell? ⟨b, q, none⟩ = w.cell? ⟨b, q, none⟩ := by
                intro b q hc
                by_cases hbb : b = (L d i2).blk
                · subst hbb
                  rw [cell_setRow_same w _ _ _ _ _ _ hheap, cell_of_heap hheap]
                  simp only [List.getElem?_toArray]
                  have hlen1 : (vs.take ((L d i2).base + off + n * sz')).length = (L d i2).base + off + n * sz' := by rw [List.length_take]; omega
                  rcases Nat.lt_or_ge q ((L d i2).base + off + n * sz') with h1 | h1
                  · rw [List.append_assoc, List.getElem?_append_left (by omega), List.getElem?_take, if_pos h1]
                  · rcases Nat.lt_or_ge q ((L d i2).base + off + n * sz' + us.length) with h3 | h3
                    · exact absurd hc (hnc q (by omega) (by omega))
                    · rw [List.getElem?_append_right (by rw [List.length_append]; omega), List.getElem?_drop, List.length_append, hlen1]
                      congr 1
                      omega
                · exact cell_setRow_other w _ _ _ hbb
              have key := hR.turn (W := w.setRow (L d i2).blk (vs.take ((L d i2).base + off + n * sz') ++ us ++ vs.drop ((L d i2).base + off + n * sz' + us.length)).toArray) (C' := C) (l := ⟨(L d i2).blk, (L d i2).base + off, (L d i2).lim⟩)
                (o' := .arr e' sz' ((cs.drop off).take (n * sz') ++ ys) (ver + 1) (pr - off)) hg ⟨rfl, rfl, by omega, fun hq => by omega⟩ rfl rfl rfl (by simp)
                (fun b _ hn => setRow_other w _ _ _ (hn hM)) (fun _ _ h => h) (fun _ _ h => .inl h) hcell
                (fun b q hc => by
                  obtain ⟨v, hv⟩ := hR.cok b q hc
                  exact ⟨v, by rw [hcell b q hc]; exact hv⟩)
                (fun _ => .inl ⟨hM, rfl⟩)
                (fun hE => ⟨hsz, hokn, by
                  rw [upd_same]
                  refine .inr ⟨h0, fun o ho ho' => hnc o (by dsimp only at ho; omega) ho', by dsimp only; rw [hlenn]; omega, _, setRow_heap w _ _ _ _ _ hheap, by dsimp only; rw [splice_length _ _ _ (by omega)]; exact hlim, ?_⟩
                  intro j x y hx hyy
                  dsimp only at hyy
                  have hlen1 : (vs.take ((L d i2).base + off + n * sz')).length = (L d i2).base + off + n * sz' := by rw [List.length_take]; omega
                  have hlen2 : ((cs.drop off).take (n * sz')).length = n * sz' := by rw [List.length_take, List.length_drop]; omega
                  rcases Nat.lt_or_ge j (n * sz') with h1 | h1
                  · rw [List.getElem?_append_left (by omega), List.getElem?_take, if_pos h1, List.getElem?_drop] at hx
                    rw [List.append_assoc, List.getElem?_append_left (by omega), List.getElem?_take, if_pos (by omega)] at hyy
                    rw [Nat.add_assoc] at hyy
                    exact (hrel _ x y hx hyy).keep hE
                  · rw [List.getElem?_append_right (by omega), hlen2] at hx
                    have hj := (List.getElem?_eq_some_iff.1 hx).1
                    rw [List.append_assoc, List.getElem?_append_right (by omega), hlen1, List.getElem?_append_left (by omega)] at hyy
                    rw [show (L d i2).base + off + j - ((L d i2).base + off + n * sz') = j - n * sz' by omega] at hyy
                    exact (hus.2 _ x y hx hyy).keep hE⟩)
              refine ⟨_, C, _, _, run_append_fit (m := m) ht hs hu hS hfit ?_, ?_, key.2, key.1⟩
              · rcases Nat.eq_zero_or_pos cap with hcz | hcz
                · have hu0 : us = [] := List.eq_nil_of_length_eq_zero (by rw [hul, hylen, show m = 0 by omega]; simp)
                  subst hu0
                  have hself : w.setRow (L d i2).blk (vs.take ((L d i2).base + off + n * sz') ++ [] ++ vs.drop ((L d i2).base + off + n * sz' + ([] : List Value).length)).toArray = w := by
                    simp only [List.append_nil, List.length_nil, Nat.add_zero, List.take_append_drop]
                    exact setRow_self w _ _ _ _ hheap
                  rw [hself]
                  cases A <;> simp [storeCells]
                · rw [hA hcz]
                  dsimp only
                  rw [add_lit']
                  have hst := run_storeCells_at P (L d i2).blk ((L d i2).base + off + n * sz') e' us 0 vs.toArray w hheap (by simp; omega) (hus.one_all (cellsOk_cells hyok))
                  simp only [Nat.add_zero] at hst
                  simpa using hst
              · have hs2 : SlOk (upd L d i2 ⟨(L d i2).blk, (L d i2).base + off, (L d i2).lim⟩ d i2) sz' 0 (n + m) false (.slice A (n + m) cap) := by
                  rw [upd_same]
                  exact ⟨_, _, rfl, hfit, by rw [if_neg (by simp)]; dsimp only; omega, fun h => hA h⟩
                exact .slr _ _ _ _ _ _ _ _ _ _ _ _ (get_set s hg) (Nat.le_refl _) hs2.slV fun _ => hs2
          · -- a new block
            obtain ⟨c, rest, hc1, hc2, hrun⟩ := run_append_more (u := u) (ty := ty) ht hi hzv hzs his hib hu hS hso (by omega) hb hnm
            have hp : Pushed w (w.drew.alloc (.cells ((row.drop off).take (n * sz') ++ us ++ rest).toArray e')) (.cells ((row.drop off).take (n * sz') ++ us ++ rest).toArray e') := pushed_drew w _
            have hnewr := holds.append hus
            have hcpos : 0 < c := by omega
            have hcm : 0 < c * sz' := Nat.mul_pos hcpos hsz
            have hlr : ((row.drop off).take (n * sz') ++ us).length = (n + m) * sz' := by rw [hnewr.1, hlenn]
            have key := hR.turn (W := w.drew.alloc (.cells ((row.drop off).take (n * sz') ++ us ++ rest).toArray e')) (C' := C) (l := ⟨w.heap.size, 0, c * sz'⟩)
              (o' := .arr e' sz' ((cs.drop off).take (n * sz') ++ ys) (ver + 1) (pr - off)) hg ⟨rfl, rfl, by omega, fun hq => by omega⟩ hp.os hp.tape hp.output (by rw [hp.size]; omega)
              (fun b hb _ => hp.old hb) (fun _ _ h => h) (fun _ _ h => .inl h) (fun b q hc => hp.cell (hR.clt hc))
              (fun b q hc => by
                obtain ⟨v, hv⟩ := hR.cok b q hc
                exact ⟨v, by rw [hp.cell (hR.clt hc)]; exact hv⟩)
              (fun _ => .inr (Nat.le_refl _))
              (fun hE => ⟨hsz, hokn, by
                rw [upd_same]
                refine .inr ⟨hcm, fun o _ _ hc => absurd (hR.clt hc) (Nat.lt_irrefl _), by dsimp only; rw [hlenn]; omega, _, hp.fresh, by dsimp only; rw [List.length_append, hlr]; omega, fun j x y hx hyy => ?_⟩
                dsimp only at hyy
                have hj := (List.getElem?_eq_some_iff.1 hx).1
                rw [Nat.zero_add, List.getElem?_append_left (by rw [hlr, ← hlenn]; exact hj)] at hyy
                exact (hnewr.2 j x y hx hyy).keep hE⟩)
            refine ⟨_, C, _, _, hrun, ?_, key.2, key.1⟩
            have hs2 : SlOk (upd L d i2 ⟨w.heap.size, 0, c * sz'⟩ d i2) sz' 0 (n + m) false (.slice (some ⟨w.heap.size, 0, none⟩) (n + m) c) := by
              rw [upd_same]
              exact ⟨_, _, rfl, hc1, by rw [if_neg (by simp)]; dsimp only; omega, fun _ => rfl⟩
            exact .slr _ _ _ _ _ _ _ _ _ _ _ _ (get_set s hg) (Nat.le_refl _) hs2.slV fun _ => hs2
        · cases h
    · cases h
  | _ => simp at h
end
end Go.Proofs.YthogcanomihelaaDoor.Ae
