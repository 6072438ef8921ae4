/- The two functions, lent their arguments: the contract of the law. -/
import Derived.Test.YthogcanomihelaaDoorXf
import Derived.Test.YthogcanomihelaaDoorYj
import Derived.Test.YthogcanomihelaaDoorAh
import Derived.Test.YthogcanomihelaaDoorPok
set_option linter.unusedSimpArgs false
set_option linter.unusedVariables false
namespace Go.Proofs.YthogcanomihelaaDoor.Gz
open Go Go.Proofs Go.Proofs.YthogcanomihelaaDoor.Ae Go.Proofs.YthogcanomihelaaDoor.Gx

theorem callF_ok {P : Program} {T : Nat → Option FC} {prim : CallT} (hm : P.follows .mixedOrders = true) (hT : Fits P T) (hp : CallOK P prim) : CallOK P (callF T prim) := by
  intro f args s v s' h L C w us hR hv
  obtain ⟨n, hn⟩ := callF_ex h
  exact callN_sound hm hT hp n f args s v s' hn L C w us hR hv
noncomputable def prim1 : CallT := fun f args s => if f = 6 ∨ f = 10 then lend (callF (tab Gs.tbl) prim) f args s else none
theorem prim1_ok : CallOK Tryd.prog prim1 := by
  intro f args s v s' h L C w us hR hv
  unfold prim1 at h
  split at h
  · exact lend_ok (callF_ok (by kernel_rfl) Gs.tbl_fits.fits prim_sound) f args s v s' h L C w us hR hv
  · cases h
theorem dead_frm (s : Store) (T : List Ae.Obj) : dead (frm s T) = frm (dead s) (T.map kill) := by simp [dead, frm]
theorem mapM_id {k : Nat} {s : Store} : ∀ {l : List AV}, (∀ x ∈ l, dfz k s x = some x) → l.mapM (dfz k s) = some l
  | [], _ => by simp
  | x :: r, h => by
    rw [List.mapM_cons, h x (by simp), mapM_id fun y hy => h y (by simp [hy])]
    rfl
theorem mapM_app {k : Nat} {s : Store} {a b a' b' : List AV} (h1 : a.mapM (dfz k s) = some a') (h2 : b.mapM (dfz k s) = some b') : (a ++ b).mapM (dfz k s) = some (a' ++ b') := by
  rw [List.mapM_append, h1, h2]
  rfl
mutual
theorem own_dfz {s : Store} {D : Nat} : ∀ (v : Vt) (c : List AV) (f : List Nat), OwnV s D v c f → ∃ k, ∀ k', k ≤ k' → c.mapM (dfz k' s) = some v.az
  | .mk k0 n t kids, c, f, h => by
    simp only [OwnV] at h
    obtain ⟨i, j, cs, fp, rfl, _, h1, h2, h3⟩ := h
    obtain ⟨k, hk⟩ := owns_dfz kids cs fp h3
    refine ⟨k + 2, fun k' hk' => ?_⟩
    obtain ⟨k', rfl⟩ : ∃ q, k' = q + 1 := ⟨k' - 1, by omega⟩
    obtain ⟨q, rfl⟩ : ∃ q, k' = q + 1 := ⟨k' - 1, by omega⟩
    have hl := (owns_len h3).1
    have e1 : dfz (q + 1 + 1) s (.slr D i 0 t.length 0 false) = some (.imm false t.length (bys t)) := by
      rw [dfz]
      simp only [h1]
      rw [if_pos ⟨trivial, by rw [bys_len]; omega⟩, List.drop_zero, Nat.mul_one, List.take_of_length_le (by rw [bys_len]; exact Nat.le_refl _), mapM_id fun x hx => ?_]
      · rfl
      · obtain ⟨b, _, rfl⟩ := List.mem_map.1 hx
        rfl
    have e2 : dfz (q + 1 + 1) s (.slr D j 0 kids.length 0 false) = some (.imm false kids.length (azs kids)) := by
      rw [dfz]
      simp only [h2]
      rw [if_pos ⟨trivial, by omega⟩, List.drop_zero, List.take_of_length_le (by omega), hk (q + 1) (by omega)]
      rfl
    simp only [Vt.az, List.mapM_cons, List.mapM_nil, e1, e2]
    rfl
theorem owns_dfz {s : Store} {D : Nat} : ∀ (l : List Vt) (c : List AV) (f : List Nat), OwnVs s D l c f → ∃ k, ∀ k', k ≤ k' → c.mapM (dfz k' s) = some (azs l)
  | [], c, f, h => by
    simp only [OwnVs] at h
    obtain ⟨rfl, _⟩ := h
    exact ⟨0, fun _ _ => by simp [azs]⟩
  | v :: r, c, f, h => by
    simp only [OwnVs] at h
    obtain ⟨c1, c2, f1, f2, rfl, _, h1, h2⟩ := h
    obtain ⟨k1, e1⟩ := own_dfz v c1 f1 h1
    obtain ⟨k2, e2⟩ := owns_dfz r c2 f2 h2
    refine ⟨max k1 k2, fun k' hk => ?_⟩
    rw [azs]
    exact mapM_app (e1 k' (by omega)) (e2 k' (by omega))
end
theorem lent_own {s : Store} {T : List Ae.Obj} {v : Vt} {kids : List Vt} {c cs : List AV} {j : Nat} {fp fps : List Nat} (h1 : OwnV (frm s T) (s.low.length + 1) v c fp) (hg : T[j]? = some (.arr 25 4 cs 0 0)) (h2 : OwnVs (frm s T) (s.low.length + 1) kids cs fps) :
    lent (frm s T) [.agg c, .slr (s.low.length + 1) j 0 kids.length 0 false] = some [.agg v.az, .imm false kids.length (azs kids)] := by
  obtain ⟨k1, e1⟩ := own_dfz v c fp h1
  obtain ⟨k2, e2⟩ := owns_dfz kids cs fps h2
  have hl := (owns_len h2).1
  have e3 : dfz (max k1 k2 + 1) (frm s T) (.slr (s.low.length + 1) j 0 kids.length 0 false) = some (.imm false kids.length (azs kids)) := by
    rw [dfz]
    simp only [frm_get_top, hg]
    rw [if_pos ⟨trivial, by omega⟩, List.drop_zero, List.take_of_length_le (by omega), e2 _ (by omega)]
    rfl
  refine lent_eq (k := max k1 k2 + 1) ?_
  simp only [List.mapM_cons, List.mapM_nil, dfzA, e1 (max k1 k2 + 1) (by omega), e3]
  rfl
theorem after_frm {s : Store} {T T' : List Ae.Obj} : after (frm s T) (frm (dead s) T') = frm s (T ++ (T'.drop T.length).map (keepO (s.low.length + 1) T.length)) := by
  simp [after, frm]
theorem keep_bys {D n ver : Nat} {l : List Int} : keepO D n (.arr 5 1 (bys l) ver 0) = .arr 5 1 (bys l) ver 0 := by
  simp only [keepO]
  rw [if_pos]
  simp [bys, AV.clean]
theorem after_at {s : Store} {T T' : List Ae.Obj} {i ver : Nat} {l : List Int} (hi : T.length ≤ i) (h : T'[i]? = some (.arr 5 1 (bys l) ver 0)) : (T ++ (T'.drop T.length).map (keepO (s.low.length + 1) T.length))[i]? = some (.arr 5 1 (bys l) ver 0) := by
  rw [List.getElem?_append_right hi, List.getElem?_map, List.getElem?_drop, show T.length + (i - T.length) = i by omega, h]
  exact congrArg some keep_bys
theorem show_c : ShowC prim1 Gs.sh := by
  intro s T v kids c cs j fp fps h1 hg h2 hok hoks hsz
  have hlent := lent_own h1 hg h2
  have hd : (dead s).low.length = s.low.length := dead_depth s
  have hcall : ∀ (f : Nat) (v' : AV) (T' : List Ae.Obj), (f = 6 ∨ f = 10) → tab tbl f = none → callF (tab Gs.tbl) prim f [.agg v.az, .imm false kids.length (azs kids)] (frm (dead s) (T.map kill)) = some (v', frm (dead s) T') → v'.cleanR (s.low.length + 1) T.length = true →
      callF (tab tbl) prim1 f [.agg c, .slr (s.low.length + 1) j 0 kids.length 0 false] (frm s T) = some (v', frm s (T ++ (T'.drop T.length).map (keepO (s.low.length + 1) T.length))) := by
    intro f v' T' hf ht e hcl
    refine callF_prim ht ?_
    unfold prim1
    rw [if_pos hf]
    unfold lend
    rw [hlent]
    simp only [Option.bind_some]
    rw [dead_frm, e]
    simp only [Option.bind_some]
    rw [frm_len, if_pos (by exact hcl), after_frm]
  refine ⟨by unfold Gs.sh; rw [List.length_take]; omega, ?_, ?_⟩
  · obtain ⟨v', _, e, T', rfl, _, hr⟩ := Gs.specShow_ok (s := dead s) (T := T.map kill) (v := v) (cells := kids) (f := false) hok hoks (by omega) (by omega)
    rw [hd] at hr
    rw [List.length_map] at hr
    rcases hr with ⟨rfl, h0⟩ | ⟨i, ver, l, rfl, hi, hgi, ht⟩
    · exact ⟨_, _, hcall _ _ _ (.inr rfl) rfl e rfl, _, rfl, grw_app _ _, .inl ⟨true, rfl, h0⟩⟩
    · have hat := after_at (s := s) hi hgi
      have key : ∀ z : List Int, l.take 30000 = z → ∀ (k : Nat) (hk : k < z.length), (bys l)[k]? = some (.int .u8 z[k]) := by
        rintro _ rfl k hk
        rw [List.length_take] at hk
        rw [bys_get l k (by omega)]
        simp
      exact ⟨_, _, hcall _ _ _ (.inr rfl) rfl e (by simp [AV.cleanR, AV.cleanA, AV.clean, hi]), _, rfl, grw_app _ _, .inr ⟨i, ver, false, bys l, 0, rfl, hi, lt_of_get hat, hat, key _ ht⟩⟩
  · obtain ⟨v', _, e, T', rfl, _, hr⟩ := Gs.implShow_ok (s := dead s) (T := T.map kill) (v := v) (cells := kids) (f := false) hok hoks (by omega) (by omega)
    rw [hd] at hr
    rw [List.length_map] at hr
    rcases hr with ⟨rfl, h0⟩ | ⟨i, ver, rfl, hi, hgi⟩
    · exact ⟨_, _, hcall _ _ _ (.inl rfl) rfl e rfl, _, rfl, grw_app _ _, .inl ⟨true, rfl, h0⟩⟩
    · have hat := after_at (s := s) hi hgi
      exact ⟨_, _, hcall _ _ _ (.inl rfl) rfl e (by simp [AV.cleanR, AV.cleanA, AV.clean, hi]), _, rfl, grw_app _ _, .inr ⟨i, ver, rfl, hi, lt_of_get hat, hat⟩⟩
end Go.Proofs.YthogcanomihelaaDoor.Gz
