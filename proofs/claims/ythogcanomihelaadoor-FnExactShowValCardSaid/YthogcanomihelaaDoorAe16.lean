/- Functions and calls: what the evaluator gives, with whatever fuel, is what the machine does. -/
import Derived.Test.YthogcanomihelaaDoorAe15
set_option linter.unusedSimpArgs false
set_option linter.unusedVariables false
namespace Go.Proofs.YthogcanomihelaaDoor.Ae
open Go

def ckRes (P : Program) (vm : List Nat) : List ResultVar → List RV → Bool
  | [], [] => true
  | .tmp t :: r, .t i :: q => decide (vm[i]? = some t) && ckRes P vm r q
  | .cell a t :: r, .cl n i :: q => decide (vm[i]? = some a) && ldCk P t n && ckRes P vm r q
  | _, _ => false
def ckF (P : Program) (fn : Func) (fc : FC) (vm : List Nat) : Bool :=
  (match fn.body with | some c => ckS P fn.ntmps vm c fc.body | none => false) && decide (fc.np ≤ fn.ntmps) && decide (vm.take fc.np = List.range fc.np) && decide (fc.np ≤ vm.length) && decide vm.Nodup &&
    ckRes P vm fn.results.toList fc.res && (fn.name != "runtime.NumGoroutine")
/-- The table is the program's. -/
def Fits (P : Program) (T : Nat → Option FC) : Prop := ∀ f fc, T f = some fc → ∃ fn vm, P.funcs[f]? = some fn ∧ ckF P fn fc vm = true

section
variable {s s' : Store} {L L' : Nat → Nat → Loc} {C C' : Cs} {w w' : World}
theorem push_get (s : Store) (d i : Nat) : s.push.get d i = s.get d i := by
  unfold Store.get Store.push
  simp only [List.length_append, List.length_singleton]
  by_cases h1 : d = s.low.length + 1
  · subst h1
    rw [if_pos rfl, if_neg (by omega), List.getElem?_eq_none (l := s.low) (by omega)]
    simp
  · rw [if_neg h1]
    by_cases h2 : d = s.low.length
    · subst h2
      rw [if_pos rfl, List.getElem?_append_right (Nat.le_refl _)]
      simp
    · rw [if_neg h2]
      rcases Nat.lt_or_ge d s.low.length with h3 | h3
      · rw [List.getElem?_append_left h3]
      · rw [List.getElem?_append_right h3, List.getElem?_eq_none (l := s.low) h3, List.getElem?_eq_none (by simp; omega)]
theorem pop_len (s : Store) : s.pop.low.length = s.low.length - 1 := by simp [Store.pop]
theorem pop_get {s : Store} {n : Nat} (h : s.low.length = n + 1) (d i : Nat) : s.pop.get d i = if d ≤ n then s.get d i else none := by
  unfold Store.get Store.pop
  simp only [List.length_dropLast, h, Nat.add_sub_cancel]
  have hne : s.low ≠ [] := by rintro h0; rw [h0] at h; simp at h
  by_cases h1 : d = n
  · subst h1
    rw [if_pos rfl, if_pos (Nat.le_refl _), if_neg (by omega)]
    have : s.low[d]? = some (s.low.getLastD []) := by
      rw [List.getLastD_eq_getLast?, List.getLast?_eq_getElem?, h]
      simp [List.getElem?_eq_getElem (show d < s.low.length by omega)]
    rw [this]
    rfl
  · rw [if_neg h1]
    by_cases h2 : d ≤ n
    · rw [if_pos h2, if_neg (by omega), List.getElem?_dropLast, if_pos (by omega)]
    · rw [if_neg h2, List.getElem?_dropLast, if_neg (by omega)]
      rfl

theorem mat_push {d i : Nat} : Mat s.push L d i ↔ Mat s L d i := by unfold Mat; rw [push_get]
theorem own_push {b : Nat} : Own s.push L b ↔ Own s L b := by unfold Own; simp only [mat_push]
theorem keeps_push (D : Nat) : Keeps D s L C w s.push L C w :=
  ⟨fun _ _ h => h, fun _ _ _ => rfl, fun d i t cs _ h => ⟨⟨cs, by rw [push_get]; exact h⟩, rfl⟩, fun d i e sz cs ver pr _ h => ⟨cs, ver, pr, by rw [push_get]; exact h, Nat.le_refl _, fun _ => rfl⟩, fun _ h => h⟩
theorem keeps_pop {n : Nat} (h : s.low.length = n + 1) : Keeps (n + 1) s L C w s.pop L C w :=
  ⟨fun _ _ h => h, fun _ _ _ => rfl, fun d i t cs hd hg => ⟨⟨cs, by rw [pop_get h, if_pos (by omega)]; exact hg⟩, rfl⟩,
    fun d i e sz cs ver pr hd hg => ⟨cs, ver, pr, by rw [pop_get h, if_pos (by omega)]; exact hg, Nat.le_refl _, fun _ => rfl⟩, fun _ h => h⟩
theorem VRs.push {vs : List AV} {us : List Value} (h : VRs s L C w vs us) : VRs s.push L C w vs us := ⟨h.1, fun j x y hx hy => (h.2 j x y hx hy).mono (keeps_push _) (h.2 j x y hx hy).low⟩

/-- An object whose values are told anew in another store. -/
theorem ObjR.move {d i : Nat} {o : Obj} {s2 : Store} (h : ObjR s L C w d i o) (hv : ∀ x y, x.lowB (d + 1) = true → VR s L C w x y → VR s2 L C w x y) : ObjR s2 L C w d i o := by
  cases o with
  | box t cs =>
    obtain ⟨h1, h2, vs, h3, h4⟩ := h
    exact ⟨h1, h2, vs, h3, h4.1, fun j x y hx hy => hv x y (cellsOk_get h1 hx).2 (h4.2 j x y hx hy)⟩
  | arr e sz cs ver pr =>
    obtain ⟨h0, h1, h2⟩ := h
    refine ⟨h0, h1, ?_⟩
    rcases h2 with h2 | ⟨h2, h3, h4, vs, h5, h6, h7⟩
    · exact .inl h2
    · exact .inr ⟨h2, h3, h4, vs, h5, h6, fun j x y hx hy => hv x y (cellsOk_get h1 hx).2 (h7 j x y hx hy)⟩
theorem SR.push (h : SR s L C w) : SR s.push L C w where
  obj d i o hg := by
    rw [push_get] at hg
    exact (h.obj d i o hg).move fun x y _ hv => hv.mono (keeps_push _) hv.low
  inj d i d' i' h1 h2 := h.inj d i d' i' (mat_push.1 h1) (mat_push.1 h2)
  cok := h.cok
  fzok b hz := ⟨(h.fzok b hz).1, (h.fzok b hz).2.1, fun hO => (h.fzok b hz).2.2 (own_push.1 hO)⟩
  ownN d i hm := h.ownN d i (mat_push.1 hm)
  base := h.base
  nsz := h.nsz
  good := h.good
theorem mat_pop {n d i : Nat} (hn : s.low.length = n + 1) (h : Mat s.pop L d i) : Mat s L d i := by
  unfold Mat at h ⊢
  rw [pop_get hn] at h
  split at h
  · exact h
  · rcases h with ⟨_, _, h⟩ | ⟨_, _, _, _, _, h, _⟩ <;> cases h
theorem SR.pop {n : Nat} (hn : s.low.length = n + 1) (h : SR s L C w) : SR s.pop L C w where
  obj d i o hg := by
    rw [pop_get hn] at hg
    split at hg
    · rename_i hd
      exact (h.obj d i o hg).move fun x y hl hv => hv.mono (keeps_pop hn) (lowB_mono (by omega) x hl)
    · cases hg
  inj d i d' i' h1 h2 := h.inj d i d' i' (mat_pop hn h1) (mat_pop hn h2)
  cok := h.cok
  fzok b hz := ⟨(h.fzok b hz).1, (h.fzok b hz).2.1, fun ⟨d, i, h1, h2⟩ => (h.fzok b hz).2.2 ⟨d, i, mat_pop hn h1, h2⟩⟩
  ownN d i hm := h.ownN d i (mat_pop hn hm)
  base := h.base
  nsz := h.nsz
  good := h.good
theorem Ext.frame' {n : Nat} (hs : s.low.length = n) (h : Ext (n + 1 + 1) s.push L C w s' L' C' w') : Ext (n + 1) s L C w s'.pop L' C' w' := by
  have hs' : s'.low.length = n + 1 := by rw [h.depth]; simp [Store.push, hs]
  refine ⟨h.sub, h.cell, fun d i t cs hd hg => ?_, fun d i e sz cs ver pr hd hg => ?_, h.os, h.tape, h.output, h.size, fun b hb ho hz => h.frame b hb (fun h1 => ho (own_push.1 h1)) hz, fun b hb => ?_, ?_, h.fzs, h.fzb, h.w0⟩
  · obtain ⟨⟨cs', h1⟩, h2⟩ := h.box d i t cs (by omega) (by rw [push_get]; exact hg)
    exact ⟨⟨cs', by rw [pop_get hs', if_pos (by omega)]; exact h1⟩, h2⟩
  · obtain ⟨cs', ver', pr', h1, h2⟩ := h.arr d i e sz cs ver pr (by omega) (by rw [push_get]; exact hg)
    exact ⟨cs', ver', pr', by rw [pop_get hs', if_pos (by omega)]; exact h1, h2⟩
  · obtain ⟨d, i, h1, h2⟩ := hb
    rcases h.own b ⟨d, i, mat_pop hs' h1, h2⟩ with h3 | h3
    · exact .inl (own_push.1 h3)
    · exact .inr h3
  · rw [pop_len, hs', hs]
    rfl
end

theorem run_loadVar {P : Program} {s : Store} {L : Nat → Nat → Loc} {C : Cs} {w : World} {t : Nat} {n : Option Nat} {p v : AV} {u : Value} (hR : SR s L C w) (hp : VR s L C w p u) (hl : loadV s n p = some v)
    (hck : ldCk P t n = true) : ∃ val, (do loadVar t (← asAddr u) : Sem Value).run P w = .ok val w ∧ VR s L C w v val := by
  obtain ⟨val, h1, h2⟩ := run_load (P := P) hR hp hl hck
  obtain ⟨cs, g1, _, _⟩ := loadV_cells hl
  obtain ⟨us, _, ad, rfl, _⟩ := cellsFrom_sound hR hp g1
  exact ⟨val, h1, h2⟩

def oneOf : List Value → Value
  | [x] => x
  | l => .tuple l.toArray
section
variable {P : Program} {s : Store} {L : Nat → Nat → Loc} {C : Cs} {w : World} {vm : List Nat} {vs : List AV} {a : Act}
theorem results_run (hR : SR s L C w) (hT : TR vm vs s L C w a) {g : ResultVar → Sem Value} (hg : ∀ t, g (.tmp t) = pure (a.tmps.getD t undef)) (hg2 : ∀ p t, g (.cell p t) = do loadVar t (← asAddr (a.tmps.getD p undef))) :
    ∀ (rs : List ResultVar) (is : List RV) (l : List AV), ckRes P vm rs is = true → resL s vs is = some l → ∃ us, (rs.mapM g).run P w = .ok us w ∧ VRs s L C w l us
  | [], [], l, _, h => by
    simp only [resL, Option.some.injEq] at h
    subst h
    exact ⟨[], by simp, .nil⟩
  | [], _ :: _, l, h, _ => by simp [ckRes] at h
  | .tmp t :: r, .t i :: q, l, h, hl => by
    simp only [ckRes, Bool.and_eq_true, decide_eq_true_eq] at h
    simp only [resL, resOne, Option.bind_some] at hl
    obtain ⟨l', hl', hl⟩ := bind_some hl
    simp only [Option.some.injEq] at hl
    subst hl
    obtain ⟨us, h1, h2⟩ := results_run hR hT hg hg2 r q l' h.2 hl'
    refine ⟨a.tmps.getD t undef :: us, ?_, (VRs.one (hT i t h.1)).append h2⟩
    simp only [List.mapM_cons, hg, pure_bind, Sem.run_bind, h1, Result.andThen_ok, Sem.run_pure]
  | .cell p t :: r, .cl n i :: q, l, h, hl => by
    simp only [ckRes, Bool.and_eq_true, decide_eq_true_eq] at h
    simp only [resL, resOne] at hl
    obtain ⟨x, hx, hl⟩ := bind_some hl
    obtain ⟨l', hl', hl⟩ := bind_some hl
    simp only [Option.some.injEq] at hl
    subst hl
    obtain ⟨us, h1, h2⟩ := results_run hR hT hg hg2 r q l' h.2 hl'
    obtain ⟨val, h3, h4⟩ := run_loadVar (P := P) hR (hT i p h.1.1) hx h.1.2
    refine ⟨val :: us, ?_, (VRs.one h4).append h2⟩
    rw [List.mapM_cons, hg2, Sem.run_bind, h3]
    simp only [Result.andThen_ok, Sem.run_bind, h1, Sem.run_pure]
  | .tmp _ :: _, [], _, h, _ => by simp [ckRes] at h
  | .cell _ _ :: _, [], _, h, _ => by simp [ckRes] at h
  | .tmp _ :: _, .cl _ _ :: _, _, h, _ => by simp [ckRes] at h
  | .cell _ _ :: _, .t _ :: _, _, h, _ => by simp [ckRes] at h
theorem run_results {fn : Func} {is : List RV} {v : AV} (hR : SR s L C w) (hT : TR vm vs s L C w a) (h : ckRes P vm fn.results.toList is = true) (hv : resV s vs is = some v) :
    ∃ u, (results fn a.tmps).run P w = .ok u w ∧ VR s L C w v u := by
  unfold resV at hv
  obtain ⟨l, hl, hv⟩ := bind_some hv
  simp only [Option.some.injEq] at hv
  subst hv
  have h2 : fn.results = fn.results.toList.toArray := by simp
  unfold results
  rw [h2]
  simp only [List.mapM_toArray, Sem.run_bind, map_eq_pure_bind, bind_assoc, pure_bind]
  obtain ⟨us, h3, h4⟩ := results_run (P := P) hR hT (g := fun | .tmp t => pure (a.tmps.getD t undef) | .cell p t => do loadVar t (← asAddr (a.tmps.getD p undef))) (fun _ => rfl) (fun _ _ => rfl) _ _ _ h hl
  refine ⟨oneOf us, ?_, ?_⟩
  · refine (congrArg (fun r => Result.andThen r _) (h3 : _ = _)).trans ?_
    simp only [Result.andThen_ok, Sem.run_pure]
    cases us with
    | nil => simp [oneOf]
    | cons i r =>
      cases r with
      | nil => simp [oneOf]
      | cons j q => simp [oneOf]
  · have hlen := h4.1
    cases l with
    | nil => cases us with | nil => exact h4.tup | cons => simp at hlen
    | cons x l =>
      cases us with
      | nil => simp at hlen
      | cons u us =>
        cases l with
        | nil =>
          cases us with
          | nil => exact h4.2 0 _ _ rfl rfl
          | cons => simp at hlen
        | cons y l =>
          cases us with
          | nil => simp at hlen
          | cons => exact h4.tup
end

/-- The activation as it begins. -/
theorem TR.begin {s : Store} {L : Nat → Nat → Loc} {C : Cs} {w : World} {vm : List Nat} {np k : Nat} {args : List AV} {us : List Value} {n : Nat} (h : VRs s L C w args us) (hl : args.length = np) (hvm : vm.take np = List.range np) :
    TR vm (args ++ List.replicate k .undef) s L C w { tmps := us.toArray ++ Array.replicate n undef, defers := [] } := by
  intro i t hi
  rcases Nat.lt_or_ge i np with h1 | h1
  · have hit : t = i := by
      have : (vm.take np)[i]? = some t := by rw [List.getElem?_take, if_pos h1]; exact hi
      rw [hvm, List.getElem?_range h1] at this
      exact (Option.some.inj this).symm
    subst hit
    have hul : us.length = args.length := h.1
    have e1 : (args ++ List.replicate k AV.undef).getD t .undef = args[t]'(by omega) := by
      rw [List.getD_eq_getElem?_getD, List.getElem?_append_left (by omega), List.getElem?_eq_getElem (by omega)]
      rfl
    have e2 : (us.toArray ++ Array.replicate n undef).getD t undef = us[t]'(by omega) := by
      rw [Array.getD_eq_getD_getElem?, Array.getElem?_append_left (by simp; omega)]
      simp [List.getElem?_eq_getElem (show t < us.length by omega)]
    simp only
    rw [e1, e2]
    exact h.2 t _ _ (List.getElem?_eq_getElem (by omega)) (List.getElem?_eq_getElem (by omega))
  · have e1 : (args ++ List.replicate k AV.undef).getD i .undef = .undef := by
      rw [List.getD_eq_getElem?_getD, List.getElem?_append_right (by omega), List.getElem?_replicate]
      split <;> rfl
    rw [e1]
    exact .undef _

theorem callFunc_run {P : Program} {f : Nat} {fn : Func} {args : Array Value} {w : World} (hf : P.funcs[f]? = some fn) (hn : (fn.name != "runtime.NumGoroutine") = true) (hb : fn.body.isSome = true) :
    (callFunc f args).run P w = .ok (.enter f args) w := by
  have h1 : (fn.name == "runtime.NumGoroutine") = false := by simpa [bne] using hn
  have h2 : fn.body.isNone = false := by cases h : fn.body <;> simp [h] at hb ⊢
  simp only [callFunc, Sem.run_bind, run_program, Result.andThen_ok, hf, h1, h2, Bool.false_eq_true, if_false, Sem.run_pure]

theorem argsV_sound {fc : FC} {args args' : List AV} {s s' : Store} {L : Nat → Nat → Loc} {C : Cs} {w : World} {us : List Value} (hR : SR s L C w) (hv : VRs s L C w args us) (h : argsV fc args s = some (args', s')) :
    ∃ C', args.length = fc.np ∧ VRs s' L C' w args' us ∧ SR s' L C' w ∧ Ext (s.low.length + 1) s L C w s' L C' w := by
  unfold argsV at h
  split at h
  · rename_i hl
    split at h
    · simp only [Option.some.injEq, Prod.mk.injEq] at h
      obtain ⟨rfl, rfl⟩ := h
      exact ⟨C, hl, hv, hR, .refl _⟩
    · obtain ⟨C', h1, h2, h3⟩ := frzs_sound hR hv h
      exact ⟨C', hl, h1, h2, h3⟩
  · cases h

theorem F_sound {P : Program} {call : CallT} {n f : Nat} {fn : Func} {fc : FC} {vm : List Nat} {args : List AV} {s s' : Store} {v : AV} {L : Nat → Nat → Loc} {C : Cs} {w : World} {us : List Value}
    (hm : P.follows .mixedOrders = true) (hcall : CallOK P call) (hf : P.funcs[f]? = some fn) (hck : ckF P fn fc vm = true) (hev : evF call n fc args s = some (v, s')) (hR : SR s L C w) (hv : VRs s L C w args us) :
    (callFunc f us.toArray).run P w = .ok (.enter f us.toArray) w ∧ Calls P f us.toArray w fun e w' => ∃ u, e = .returned u ∧ Post s L C w s' v u w' := by
  unfold ckF at hck
  simp only [Bool.and_eq_true, decide_eq_true_eq] at hck
  obtain ⟨⟨⟨⟨⟨⟨hb, hnp⟩, htake⟩, hvl⟩, hnd⟩, hres⟩, hname⟩ := hck
  obtain ⟨c, hbody, hS⟩ : ∃ c, fn.body = some c ∧ ckS P fn.ntmps vm c fc.body = true := by
    split at hb
    · rename_i c hc; exact ⟨c, hc, hb⟩
    · cases hb
  refine ⟨callFunc_run hf hname (by rw [hbody]; rfl), ?_⟩
  unfold evF at hev
  obtain ⟨⟨args', s1⟩, ha, hev⟩ := bind_some hev
  obtain ⟨⟨ex, σ'⟩, hs, hev⟩ := bind_some hev
  obtain ⟨C1, hlen, hv1, hR1, hE1⟩ := argsV_sound hR hv ha
  have hul : us.length = fc.np := by rw [hv.1, hlen]
  have hl1 : args'.length = fc.np := by rw [← hv1.1, hul]
  have hd1 : s1.low.length = s.low.length := hE1.depth
  refine calls_of_wp hf hbody ?_
  have hsize : ({ tmps := us.toArray ++ Array.replicate (fn.ntmps - us.toArray.size) undef, defers := [] } : Act).tmps.size = fn.ntmps := by
    simp [hul]; omega
  cases hin : fc.inl with
  | true =>
    have hst : (st0 fc args' s1) = ⟨args' ++ List.replicate (fc.nv - fc.np) .undef, s1⟩ := by simp [st0, hin]
    rw [hst] at hs
    refine wp_mono (S_sound (s0 := s1) (L0 := L) (C0 := C1) (w0 := w) hm hcall hnd c fc.body hS _ ex σ' hs _ w L C1 ⟨hsize, rfl, hR1, .refl _, TR.begin hv1 hl1 htake⟩) fun e a w2 hq => ?_
    obtain ⟨h1, L2, C2, hI⟩ := hq
    unfold evEnd at hev
    have key : bodyPost P fn (fun e w' => ∃ u, e = .returned u ∧ Post s L C w s' v u w') .ret a w2 := by
      split at hev
      · cases hev
      · obtain ⟨rv, hrv, hev⟩ := bind_some hev
        rw [if_pos hin] at hev
        simp only [Option.some.injEq, Prod.mk.injEq] at hev
        obtain ⟨rfl, rfl⟩ := hev
        obtain ⟨ru, hru, hrvr⟩ := run_results (P := P) hI.rel hI.slots hres hrv
        refine ⟨hI.defers, _, hru, _, rfl, L2, C2, hrvr, hI.rel, hE1.trans ?_⟩
        rw [← hd1]
        exact hI.ext
    cases ex with
    | exit id => simp at hev
    | nor => cases e <;> simp only at h1; exact key
    | ret => cases e <;> simp only at h1; exact key
  | false =>
    have hst : (st0 fc args' s1) = ⟨args' ++ List.replicate (fc.nv - fc.np) .undef, s1.push⟩ := by simp [st0, hin]
    rw [hst] at hs
    refine wp_mono (S_sound (s0 := s1.push) (L0 := L) (C0 := C1) (w0 := w) hm hcall hnd c fc.body hS _ ex σ' hs _ w L C1 ⟨hsize, rfl, hR1.push, .refl _, TR.begin hv1.push hl1 htake⟩) fun e a w2 hq => ?_
    obtain ⟨h1, L2, C2, hI⟩ := hq
    unfold evEnd at hev
    have key : bodyPost P fn (fun e w' => ∃ u, e = .returned u ∧ Post s L C w s' v u w') .ret a w2 := by
      split at hev
      · cases hev
      · obtain ⟨rv, hrv, hev⟩ := bind_some hev
        rw [if_neg (by rw [hin]; simp)] at hev
        obtain ⟨⟨x, s3⟩, hx, hev⟩ := bind_some hev
        obtain ⟨ru, hru, hrvr⟩ := run_results (P := P) hI.rel hI.slots hres hrv
        simp only at hev
        split at hev
        · rename_i hlow
          simp only [Option.some.injEq, Prod.mk.injEq] at hev
          obtain ⟨rfl, rfl⟩ := hev
          obtain ⟨C3, g1, g2, g3⟩ := frzR_sound hI.rel hrvr hx
          have hpl : s1.push.low.length = s.low.length + 1 := by simp [Store.push, hd1]
          have hd2 : σ'.s.low.length = s.low.length + 1 := by rw [hI.ext.depth, hpl]
          have hd3 : s3.low.length = s.low.length + 1 := by rw [g3.depth, hd2]
          have hE2 : Ext (s.low.length + 1 + 1) s1.push L C1 w s3 L2 C3 w2 := by
            have e1 := hI.ext
            rw [hpl] at e1
            rw [hd2] at g3
            exact e1.trans g3
          refine ⟨hI.defers, _, hru, _, rfl, L2, C3, g1.mono (keeps_pop hd3) (by rw [← hd3]; exact hlow), g2.pop hd3, hE1.trans (Ext.frame' hd1 hE2)⟩
        · cases hev
    cases ex with
    | exit id => simp at hev
    | nor => cases e <;> simp only at h1; exact key
    | ret => cases e <;> simp only at h1; exact key

/-- ALL CALLS OF THE EVALUATOR. -/
theorem callN_sound {P : Program} {T : Nat → Option FC} {prim : CallT} (hm : P.follows .mixedOrders = true) (hT : Fits P T) (hp : CallOK P prim) : ∀ n, CallOK P (callN T prim n)
  | 0 => fun f args s v s' h => by cases h
  | n + 1 => fun f args s v s' h L C w us hR hv => by
    simp only [callN] at h
    split at h
    · rename_i fc hfc
      obtain ⟨fn, vm, h1, h2⟩ := hT f fc hfc
      exact .inl (F_sound hm (callN_sound hm hT hp n) h1 h2 h hR hv)
    · exact hp f args s v s' h L C w us hR hv
theorem callF_sound {P : Program} {T : Nat → Option FC} {prim : CallT} (hm : P.follows .mixedOrders = true) (hT : Fits P T) (hp : CallOK P prim) : CallOK P (callF T prim) := fun f args s v s' h => by
  obtain ⟨n, hn⟩ := callF_ex h
  exact callN_sound hm hT hp n f args s v s' hn
end Go.Proofs.YthogcanomihelaaDoor.Ae
