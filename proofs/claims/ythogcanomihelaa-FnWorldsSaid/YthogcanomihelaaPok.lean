/- The library functions taken by a law of their own are as good as a walk. -/
import Derived.Test.YthogcanomihelaaPr
import Derived.Test.YthogcanomihelaaIn
set_option linter.unusedSimpArgs false
set_option linter.unusedVariables false
namespace Go.Proofs.Ythogcanomihelaa.Ae
open Go

theorem callFunc_ins (args : Array Value) (w : World) : (callFunc 151 args).run Try.prog w = .ok (.enter 151 args) w :=
  callFunc_run Try.func151 (by kernel_rfl) (by kernel_rfl)
theorem imm_two {s : Store} {L : Nat → Nat → Loc} {C : Cs} {w : World} {ys : List AV} {u : Value} (h : VR s L C w (.imm true 1 ys) u) (h2 : ys.length = 2) :
    ∃ vb vo x y, u = .slice (some ⟨vb, vo, none⟩) 1 1 ∧ C.fz vb ∧ w.cell? ⟨vb, vo, none⟩ = some x ∧ w.cell? ⟨vb, vo + 1, none⟩ = some y ∧ VRs s L C w ys [x, y] := by
  cases h with
  | imm full n cs A cap b o u hn hf hok hA hc hr =>
    match ys, h2 with
    | [y0, y1], _ =>
      obtain ⟨hcap, hfz⟩ := hf rfl
      subst hcap
      have c0 := hc 0 y0 rfl
      have c1 := hc 1 y1 rfl
      refine ⟨b, o, u 0, u 1, by rw [hA (by simp)], hfz (by simp), c0.2, c1.2, rfl, fun j x y hx hy => ?_⟩
      match j with
      | 0 => simp at hx hy; subst hx; subst hy; exact hr 0 _ rfl
      | 1 => simp at hx hy; subst hx; subst hy; exact hr 1 _ rfl
      | j + 2 => simp at hx
theorem ins_app {s : Store} {L : Nat → Nat → Loc} {C : Cs} {w : World} {x v : AV} {ys : List AV} {n cap : Nat} {A : Option Addr} {uy : Value} {s' : Store} (hR : SR s L C w) (hx : VR s L C w x (.slice A n cap)) (hn : n ≤ cap) (hn2 : n < 1000)
    (hy : VR s L C w (.imm true 1 ys) uy) (hva : ∃ va, uy = .slice (some va) 1 1) (h : appV s 113 2 16 x (.imm true 1 ys) = some (v, s')) :
    Calls Try.prog 151 #[.slice A n cap, .int .i64 n, uy] w fun e w' => ∃ u, e = .returned u ∧ Post s L C w s' v u w' := by
  obtain ⟨va, rfl⟩ := hva
  obtain ⟨L', C', w', val, h1, h2, h3, h4⟩ := append_sound (P := Try.prog) (t := 37) (u := 37) (ty := 37) hR hx hy (by kernel_rfl) (by kernel_rfl) (by decide) (by kernel_rfl) (by decide) (by kernel_rfl) (by kernel_rfl) h
  refine (ins_end n cap 1 w A va val w' hn h1).mono fun e w2 he => ?_
  obtain ⟨rfl, rfl⟩ := he
  exact ⟨val, rfl, L', C', h2, h3, h4⟩

theorem Like.grown {s : Store} {L : Nat → Nat → Loc} {C : Cs} {w W W' : World} {s' : Store} {v : AV} {u : Value} (hl : Like W' W) (h : Post s L C w s' v u W) : Post s L C w s' v u W' := by
  obtain ⟨L', C', h1, h2, h3⟩ := h
  have key := h2.grown (W := W') hl.2.1 hl.2.2.1 hl.2.2.2 (by rw [hl.1]; exact Nat.le_refl _) fun b _ => by rw [hl.1]
  refine ⟨L', C', h1.keep key.1, key.2, h3.trans ?_⟩
  have hd : s'.low.length = s.low.length := h3.depth
  rw [← hd]
  exact key.1

theorem ins_mid {s : Store} {L : Nat → Nat → Loc} {C : Cs} {w : World} {v : AV} {ys : List AV} {d i off n ver k : Nat} {ux uy : Value} {s' : Store} (hR : SR s L C w) (hx : VR s L C w (.slr d i off n ver false) ux)
    (hy : VR s L C w (.imm true 1 ys) uy) (hk : k < n) (h : insV s d i off n ver k ys = some (v, s')) :
    Calls Try.prog 151 #[ux, .int .i64 k, uy] w fun e w' => ∃ u, e = .returned u ∧ Post s L C w s' v u w' := by
  cases hx with
  | slr _ _ _ _ _ _ e sz cs ver' pr _ hg hv hsV hc =>
    simp only [insV, hg] at h
    split at h
    · rename_i hq
      obtain ⟨he, hsz, hbig, hver, hlen, hyok, hy2, hpr⟩ := hq
      subst he hsz hver
      simp only [Option.some.injEq, Prod.mk.injEq] at h
      obtain ⟨rfl, rfl⟩ := h
      obtain ⟨vb, vo, x, y, rfl, hfz, hx0, hy0, hvs⟩ := imm_two hy hy2
      have hs1 := hc rfl
      obtain ⟨A, cap, rfl, hn, hf, hA⟩ := hs1
      rw [if_neg (by simp)] at hf
      have hA := hA (by omega)
      subst hA
      obtain ⟨hsz0, hok0, h2⟩ := hR.obj d i _ hg
      rcases h2 with ⟨h0, hb0', hcs⟩ | ⟨h0, hnc, hbase, vs, hheap, hlim, hrel⟩
      · subst hcs; simp at hlen; omega
      · have hM : Mat s L d i := .inr ⟨_, 2, cs, ver, pr, hg, h0⟩
        have hvb : vb ≠ (L d i).blk := fun hq => (hR.fzok vb hfz).2.2 ⟨d, i, hM, hq.symm⟩
        have h2v : ∀ v ∈ [x, y], v.oneCell' = true := hvs.one_all (cellsOk_cells hyok)
        have hvl : vs.length = vs.length := rfl
        obtain ⟨row, hrow1, hrow2⟩ := arr_row hR hg
        have hn2 : n * 2 ≤ cap * 2 := Nat.mul_le_mul_right _ hn
        -- the part of the row that the array fills
        have hpart : VRs s L C w cs ((vs.drop (L d i).base).take cs.length) := by
          refine ⟨by rw [List.length_take, List.length_drop]; omega, fun j a b hj hb => ?_⟩
          rw [List.getElem?_take] at hb
          split at hb
          · rw [List.getElem?_drop] at hb; exact hrel j a b hj hb
          · cases hb
        have hseg : ∀ a m, a + m ≤ cs.length → VRs s L C w ((cs.drop a).take m) ((vs.drop ((L d i).base + a)).take m) := fun a m ham => by
          refine ⟨by rw [List.length_take, List.length_take, List.length_drop, List.length_drop]; omega, fun j p q hj hq => ?_⟩
          rw [List.getElem?_take] at hj hq
          split at hj
          · rename_i hjm
            rw [if_pos hjm] at hq
            rw [List.getElem?_drop] at hj hq
            exact hrel (a + j) p q hj (by rw [← Nat.add_assoc]; exact hq)
          · cases hj
        have hcsn : VRs s L C w ((cs.drop off).take (k * 2) ++ ys ++ (cs.drop (off + k * 2)).take ((n - k) * 2)) ((vs.drop ((L d i).base + off)).take (k * 2) ++ [x, y] ++ (vs.drop ((L d i).base + off + k * 2)).take ((n - k) * 2)) :=
          ((hseg off (k * 2) (by omega)).append hvs).append (by have := hseg (off + k * 2) ((n - k) * 2) (by omega); rwa [← Nat.add_assoc] at this)
        have hok1 : ∀ a m, cellsOk (d + 1) ((cs.drop a).take m) = true := fun a m => cellsOk_take (cellsOk_drop hok0 _) _
        have hokn : cellsOk (d + 1) ((cs.drop off).take (k * 2) ++ ys ++ (cs.drop (off + k * 2)).take ((n - k) * 2)) = true := cellsOk_append.2 ⟨cellsOk_append.2 ⟨hok1 _ _, hyok⟩, hok1 _ _⟩
        have hlenn : ((cs.drop off).take (k * 2) ++ ys ++ (cs.drop (off + k * 2)).take ((n - k) * 2)).length = (n + 1) * 2 := by
          simp only [List.length_append, List.length_take, List.length_drop, hy2]; omega
        have hgs := get_set (o' := .arr 113 2 ((cs.drop off).take (k * 2) ++ ys ++ (cs.drop (off + k * 2)).take ((n - k) * 2)) (ver + 1) (pr - off)) s hg
        generalize hCS : (cs.drop off).take (k * 2) ++ ys ++ (cs.drop (off + k * 2)).take ((n - k) * 2) = CS at *
        generalize hVS : (vs.drop ((L d i).base + off)).take (k * 2) ++ [x, y] ++ (vs.drop ((L d i).base + off + k * 2)).take ((n - k) * 2) = VS at *
        have hVl : VS.length = (n + 1) * 2 := by rw [hcsn.1, hlenn]
        by_cases hfit : n + 1 ≤ cap
        · have hone : ∀ v ∈ (vs.drop ((L d i).base + off + k * 2)).take ((n - k) * 2), v.oneCell' = true := by
            have h3 := (hseg (off + k * 2) ((n - k) * 2) (by omega)).one_all (cellsOk_cells (hok1 _ _))
            rwa [← Nat.add_assoc] at h3
          refine Calls.mono (ins_room (L d i).blk ((L d i).base + off) n cap k vb vo 1 vs x y 113 w hheap (by omega) hk hfit (by omega) hvb hx0 hy0 hone h2v) fun e w2 he => ?_
          obtain ⟨rfl, hlike⟩ := he
          refine ⟨_, rfl, hlike.grown ?_⟩
          have hrw : (vs.take ((L d i).base + off + k * 2) ++ [x, y] ++ (vs.drop ((L d i).base + off + k * 2)).take ((n - k) * 2) ++ vs.drop ((L d i).base + off + n * 2 + 2)) = vs.take ((L d i).base + off) ++ VS ++ vs.drop ((L d i).base + off + n * 2 + 2) := by
            rw [← hVS, ← List.append_assoc, ← List.append_assoc, List.take_add]
          rw [hrw]
          have hWl : (vs.take ((L d i).base + off) ++ VS ++ vs.drop ((L d i).base + off + n * 2 + 2)).length = vs.length := by
            simp only [List.length_append, List.length_take, List.length_drop, hVl]; omega
          have hcell : ∀ b q, C b q → (w.setRow (L d i).blk (vs.take ((L d i).base + off) ++ VS ++ vs.drop ((L d i).base + off + n * 2 + 2)).toArray).cell? ⟨b, q, none⟩ = w.cell? ⟨b, q, none⟩ := by
            intro b q hc
            by_cases hbb : b = (L d i).blk
            · subst hbb
              rw [cell_setRow_same w _ _ _ _ _ _ hheap, cell_of_heap hheap, List.getElem?_toArray, ← hrw]
              have hlen1 : (vs.take ((L d i).base + off + k * 2)).length = (L d i).base + off + k * 2 := by rw [List.length_take]; omega
              rcases Nat.lt_or_ge q ((L d i).base + off + k * 2) with h1 | h1
              · rw [List.append_assoc, List.append_assoc, List.getElem?_append_left (by omega), List.getElem?_take, if_pos h1]
              · rcases Nat.lt_or_ge q ((L d i).base + off + n * 2 + 2) with h3 | h3
                · exact absurd hc (hnc q (by omega) (by omega))
                · rw [List.getElem?_append_right (by simp only [List.length_append, List.length_take, List.length_drop, List.length_cons, List.length_nil]; omega), List.getElem?_drop]
                  congr 1
                  simp only [List.length_append, List.length_take, List.length_drop, List.length_cons, List.length_nil]
                  omega
            · exact cell_setRow_other w _ _ _ hbb
          have key := hR.turn (W := w.setRow (L d i).blk (vs.take ((L d i).base + off) ++ VS ++ vs.drop ((L d i).base + off + n * 2 + 2)).toArray) (C' := C) (l := ⟨(L d i).blk, (L d i).base + off, (L d i).lim⟩)
            (o' := .arr 113 2 CS (ver + 1) (pr - off)) hg ⟨rfl, rfl, by omega, fun hq => by omega⟩ rfl rfl rfl (by simp)
            (fun b _ hn => setRow_other w _ _ _ (hn hM)) (fun _ _ h => h) (fun _ _ h => .inl h) hcell
            (fun b q hc => by
              obtain ⟨v, hv⟩ := hR.cok b q hc
              exact ⟨v, by rw [hcell b q hc]; exact hv⟩)
            (fun _ => .inl ⟨hM, rfl⟩)
            (fun hE => ⟨hsz0, hokn, by
              rw [upd_same]
              refine .inr ⟨h0, fun o ho ho' => hnc o (by dsimp only at ho; omega) ho', by dsimp only; rw [hlenn]; omega, _, setRow_heap w _ _ _ _ _ hheap, by dsimp only; rw [hWl]; exact hlim, ?_⟩
              intro j p q hj hq
              dsimp only at hq
              have hlen1 : (vs.take ((L d i).base + off)).length = (L d i).base + off := by rw [List.length_take]; omega
              have hj2 := (List.getElem?_eq_some_iff.1 hj).1
              rw [List.append_assoc, List.getElem?_append_right (by omega), hlen1, List.getElem?_append_left (by omega), Nat.add_sub_cancel_left] at hq
              exact (hcsn.2 j p q hj hq).keep hE⟩)
          have hs2 : SlOk (upd L d i ⟨(L d i).blk, (L d i).base + off, (L d i).lim⟩ d i) 2 0 (n + 1) false (.slice (some ⟨(L d i).blk, (L d i).base + off, none⟩) (n + 1) cap) := by
            rw [upd_same]
            exact ⟨_, _, rfl, hfit, by rw [if_neg (by simp)]; dsimp only; omega, fun _ => rfl⟩
          exact ⟨_, C, .slr _ _ _ _ _ _ _ _ _ _ _ _ hgs (Nat.le_refl _) hs2.slV fun _ => hs2, key.2, key.1⟩
        · have hone : ∀ v ∈ (vs.drop ((L d i).base + off + k * 2)).take ((n - k) * 2), v.oneCell' = true := by
            have h3 := (hseg (off + k * 2) ((n - k) * 2) (by omega)).one_all (cellsOk_cells (hok1 _ _))
            rwa [← Nat.add_assoc] at h3
          refine Calls.mono (ins_grow (L d i).blk ((L d i).base + off) n cap k vb vo 1 vs x y 113 w hheap (by omega) hk hn (by omega) hbig hx0 hy0 hone h2v) fun e w2 he => ?_
          obtain ⟨c, rest, hc1, hc2, rfl, hlike⟩ := he
          refine ⟨_, rfl, hlike.grown ?_⟩
          rw [hVS]
          have hp : Pushed w (w.alloc (.cells (VS ++ rest).toArray 113)) (.cells (VS ++ rest).toArray 113) := pushed_alloc w _
          have hcm : 0 < c * 2 := by omega
          have key := hR.turn (W := w.alloc (.cells (VS ++ rest).toArray 113)) (C' := C) (l := ⟨w.heap.size, 0, c * 2⟩)
            (o' := .arr 113 2 CS (ver + 1) (pr - off)) hg ⟨rfl, rfl, by omega, fun hq => by omega⟩ hp.os hp.tape hp.output (by rw [hp.size]; omega)
            (fun b hb _ => hp.old hb) (fun _ _ h => h) (fun _ _ h => .inl h) (fun b q hc => hp.cell (hR.clt hc))
            (fun b q hc => by
              obtain ⟨v, hv⟩ := hR.cok b q hc
              exact ⟨v, by rw [hp.cell (hR.clt hc)]; exact hv⟩)
            (fun _ => .inr (Nat.le_refl _))
            (fun hE => ⟨hsz0, hokn, by
              rw [upd_same]
              refine .inr ⟨hcm, fun o _ _ hc => absurd (hR.clt hc) (Nat.lt_irrefl _), by dsimp only; rw [hlenn]; omega, _, hp.fresh, by dsimp only; rw [List.length_append, hVl]; omega, fun j p q hj hq => ?_⟩
              dsimp only at hq
              have hj2 := (List.getElem?_eq_some_iff.1 hj).1
              rw [Nat.zero_add, List.getElem?_append_left (by omega)] at hq
              exact (hcsn.2 j p q hj hq).keep hE⟩)
          have hs2 : SlOk (upd L d i ⟨w.heap.size, 0, c * 2⟩ d i) 2 0 (n + 1) false (.slice (some ⟨w.heap.size, 0, none⟩) (n + 1) c) := by
            rw [upd_same]
            exact ⟨_, _, rfl, hc1, by rw [if_neg (by simp)]; dsimp only; omega, fun _ => rfl⟩
          exact ⟨_, C, .slr _ _ _ _ _ _ _ _ _ _ _ _ hgs (Nat.le_refl _) hs2.slV fun _ => hs2, key.2, key.1⟩
    · cases h
theorem prim_sound : CallOK Try.prog prim := by
  intro f args s v s' h L C w us hR hv
  unfold prim at h
  split at h
  · rename_i x k y ys
    obtain ⟨hl, hv⟩ := hv
    match us, hl with
    | [ux, uk, uy], _ =>
      have hx := hv 0 _ ux rfl rfl
      have hk := hv 1 _ uk rfl rfl
      have hy := hv 2 _ uy rfl rfl
      cases hk
      refine .inl ⟨callFunc_ins _ w, ?_⟩
      have hva : ∃ va, uy = .slice (some va) 1 1 := by
        cases hy with
        | imm full n cs A cap b o u hn hf hok hA hc hr =>
          obtain ⟨hcap, _⟩ := hf rfl
          subst hcap
          exact ⟨_, by rw [hA (by simp)]⟩
      unfold insPrim at h
      split at h
      · rename_i n cs
        split at h
        · rename_i hq
          obtain ⟨rfl, hn2⟩ := hq
          cases hx with
          | imm full n cs A cap b o u hn hf hok hA hc hr =>
            exact ins_app hR (.imm _ _ _ A cap b o u hn hf hok hA hc hr) hn.1 hn2 hy hva h
        · cases h
      · rename_i d i off n ver full _
        split at h
        · rename_i hq
          obtain ⟨rfl, hn2⟩ := hq
          obtain ⟨A, cap, rfl, hn, -⟩ : SlV n full ux := by cases hx; assumption
          exact ins_app hR hx hn hn2 hy hva h
        · split at h
          · rename_i hq
            obtain ⟨h0, h1, rfl⟩ := hq
            have e : k = (k.toNat : Int) := by omega
            rw [e]
            exact ins_mid hR hx hy (by omega) h
          · cases h
      · cases h
  · cases h
end Go.Proofs.Ythogcanomihelaa.Ae
