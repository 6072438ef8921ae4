/- Statements, functions, calls: what the evaluator gives is what the machine does. -/
import Derived.Test.YthogcanomihelaaDoorAe14
import Derived.Scope
import Derived.LoopN
set_option linter.unusedSimpArgs false
set_option linter.unusedVariables false
namespace Go.Proofs.YthogcanomihelaaDoor.Ae
open Go

def ckCond (vm : List Nat) (x : Operand) (y : Opd) : Bool :=
  match x, y with
  | .tmp t, .v i => decide (vm[i]? = some t)
  | x, y => resC x y
def ckS (P : Program) (N : Nat) (vm : List Nat) : Code → Stm → Bool
  | .region _ ops false, .reg aops chk => chk.isEmpty && ckRegS P N vm ops aops
  | .region _ ops true, .reg aops chk => ckRegD P N vm ops aops chk
  | .seq (.seq p (.cond c a b)) q, .alt p' c' a' b' q' => ckS P N vm p p' && ckCond vm c c' && ckS P N vm a a' && ckS P N vm b b' && ckS P N vm q q'
  | .seq a b, .seq x y => ckS P N vm a x && ckS P N vm b y
  | .cond c a b, .cond c' x y => ckCond vm c c' && ckS P N vm a x && ckS P N vm b y
  | .block id a, .block id' x => (id == id') && ckS P N vm a x
  | .loop a, .loop x => ckS P N vm a x
  | .exit id, .exit id' => id == id'
  | .ret, .ret => true
  | .skip, .skip => true
  | .label _, .skip => true
  | .scope a, x => ckS P N vm a x
  | _, _ => false

/-- How a statement may end. -/
def QS (N : Nat) (vm : List Nat) (s0 : Store) (L0 : Nat → Nat → Loc) (C0 : Cs) (w0 : World) (ex : Ex) (σ : St) : Exit → Act → World → Prop := fun e a w =>
  (match ex, e with | .nor, .normal => True | .exit i, .exit j => i = j | .ret, .ret => True | _, _ => False) ∧ ∃ L C, AI N vm s0 L0 C0 w0 σ.vs σ.s a w L C

section
variable {P : Program} {call : CallT} {N : Nat} {vm : List Nat} {s0 : Store} {L0 : Nat → Nat → Loc} {C0 : Cs} {w0 : World}

theorem drawn_world {s : Store} {L : Nat → Nat → Loc} {C : Cs} {w : World} (n : Nat) : Ext (s.low.length + 1) s L C w s L C { w with drawn := n } :=
  ⟨fun _ _ h => h, fun _ _ _ => rfl, fun d i t cs _ h => ⟨⟨cs, h⟩, rfl⟩, fun d i e sz cs ver pr _ h => ⟨cs, ver, pr, h, Nat.le_refl _, fun _ => rfl⟩, rfl, rfl, rfl, Nat.le_refl _, fun _ _ _ _ => rfl, fun _ h => .inl h, rfl, fun _ h => h, fun _ h => .inl h, rfl⟩
theorem drawn_rel {s : Store} {L : Nat → Nat → Loc} {C : Cs} {w : World} (n : Nat) (h : SR s L C w) : SR s L C { w with drawn := n } where
  obj d i o hg := (h.obj d i o hg).keep (drawn_world n) rfl (fun _ => rfl) hg fun _ _ h => h
  inj := h.inj
  cok b o hc := h.cok b o hc
  fzok := h.fzok
  ownN := h.ownN
  base := h.base
  nsz := h.nsz
  good := h.good

theorem reg_sound {ops : Array Oper} {aops : List AO} {chk : List (Nat × Nat)} {id : Nat} {draw : Bool} {σ σ' : St} {ex : Ex} {a : Act} {w : World} {L : Nat → Nat → Loc} {C : Cs}
    (hm : P.follows .mixedOrders = true) (hcall : CallOK P call) (hnd : vm.Nodup) (hck : ckS P N vm (.region id ops draw) (.reg aops chk) = true) (hev : evReg call aops chk σ = some (ex, σ'))
    (hI : AI N vm s0 L0 C0 w0 σ.vs σ.s a w L C) : (Code.region id ops draw).wp P (QS N vm s0 L0 C0 w0 ex σ') a w := by
  cases draw with
  | false =>
    simp only [ckS, Bool.and_eq_true, List.isEmpty_iff] at hck
    obtain ⟨rfl, hck⟩ := hck
    simp only [evReg] at hev
    obtain ⟨⟨vs', s'⟩, hx, hev⟩ := bind_some hev
    simp only [Option.some.injEq, Prod.mk.injEq] at hev
    obtain ⟨rfl, rfl⟩ := hev
    have hlen : ops.size = aops.length := by
      unfold ckRegS at hck
      simp only [Bool.and_eq_true, beq_iff_eq] at hck
      exact hck.1
    refine wp_region ?_
    rw [List.range_eq_range', hlen]
    exact seq_sound hcall hnd hck (fun a w L C h => ⟨trivial, L, C, h⟩) aops 0 [] σ.vs σ.s a w L C (by simp) hx rfl hI fun k t h => by omega
  | true =>
    simp only [ckS] at hck
    obtain ⟨l, t, hl, hlast, hex, hσ, hchk⟩ : ∃ l t, evTr call aops ⟨[], σ.vs, σ.s⟩ = some l ∧ l.getLast? = some t ∧ ex = .nor ∧ σ' = ⟨t.vs, t.s⟩ ∧ chk.all (chkOne aops l) = true := by
      unfold evReg at hev
      split at hev
      · obtain ⟨⟨vs', s'⟩, hx, hev⟩ := bind_some hev
        simp only [Option.some.injEq, Prod.mk.injEq] at hev
        obtain ⟨rfl, rfl⟩ := hev
        obtain ⟨l, t, h1, h2, h3, h4⟩ := evTr_of_evOps aops [] σ.vs σ.s _ hx
        exact ⟨l, t, h1, h2, rfl, by rw [h3, h4], rfl⟩
      · obtain ⟨l, hl, hev⟩ := bind_some hev
        split at hev
        · rename_i hc
          obtain ⟨t, ht, hev⟩ := bind_some hev
          simp only [Option.some.injEq, Prod.mk.injEq] at hev
          obtain ⟨rfl, rfl⟩ := hev
          exact ⟨l, t, hl, ht, rfl, rfl, hc⟩
        · cases hev
    subst hex hσ
    obtain ⟨τ, x, tr, h0, hl1, hl2, hx⟩ := trace_of hl
    obtain rfl := hl1 t hlast
    refine wp_region_any hm ?_
    refine drawn_sound (s0 := σ.s) (L := L) (C := C) hcall hnd hck tr h0 ?_ ?_ hI.size hI.defers (drawn_rel _ hI.rel) (fun i t hi => (hI.slots i t hi).keep (drawn_world _))
    · intro i q o hiq hio
      rw [List.all_eq_true] at hchk
      have h1 := hchk (i, q) hiq
      unfold chkOne at h1
      split at h1
      · rename_i o' ti ti' u g1 g2 g3 g4
        simp only at g1 g2 g3 g4
        rw [hio] at g1
        obtain rfl := Option.some.inj g1
        obtain rfl := hl2 _ _ g2
        obtain rfl := hl2 _ _ g3
        obtain rfl := hl2 _ _ g4
        split at h1
        · rename_i y hy
          have hxy := same_eq h1
          have hil : i < aops.length := (List.getElem?_eq_some_iff.1 hio).1
          rw [← hx i hil] at hxy
          obtain ⟨y1, y2⟩ := y
          simp only at hxy hy
          subst hxy
          exact ⟨y2, hy⟩
        · cases h1
      · cases h1
    · intro a' w' L' C' h
      refine ⟨trivial, L', C', h.size, h.defers, h.rel, ?_, h.slots⟩
      have hd := hI.ext.depth
      refine hI.ext.trans ?_
      rw [← hd]
      exact (drawn_world _).trans h.ext

theorem joinVs_left : ∀ (l r : List AV) (i : Nat), (joinVs l r).getD i .undef = l.getD i .undef ∨ (joinVs l r).getD i .undef = .undef
  | [], r, i => .inr (by simp [joinVs])
  | _ :: _, [], i => .inr (by simp [joinVs])
  | a :: l, b :: r, 0 => by
    simp only [joinVs, List.getD_cons_zero]
    split
    · exact .inl rfl
    · exact .inr rfl
  | a :: l, b :: r, i + 1 => by simp only [joinVs, List.getD_cons_succ]; exact joinVs_left l r i
theorem joinVs_right : ∀ (l r : List AV) (i : Nat), (joinVs l r).getD i .undef = r.getD i .undef ∨ (joinVs l r).getD i .undef = .undef
  | [], r, i => .inr (by simp [joinVs])
  | _ :: _, [], i => .inr (by simp [joinVs])
  | a :: l, b :: r, 0 => by
    simp only [joinVs, List.getD_cons_zero]
    split
    · rename_i h; exact .inl (same_eq h)
    · exact .inr rfl
  | a :: l, b :: r, i + 1 => by simp only [joinVs, List.getD_cons_succ]; exact joinVs_right l r i
theorem AI.weak {vs vs' : List AV} {s : Store} {a : Act} {w : World} {L : Nat → Nat → Loc} {C : Cs} (h : AI N vm s0 L0 C0 w0 vs s a w L C) (hv : ∀ i, vs'.getD i .undef = vs.getD i .undef ∨ vs'.getD i .undef = .undef) :
    AI N vm s0 L0 C0 w0 vs' s a w L C := by
  refine { h with slots := fun i t hi => ?_ }
  rcases hv i with h1 | h1
  · rw [h1]; exact h.slots i t hi
  · rw [h1]; exact .undef _
theorem joinR_sound {x y : Ex × St} {ex : Ex} {σ : St} (h : joinR x y = some (ex, σ)) :
    (∀ e a w, QS N vm s0 L0 C0 w0 x.1 x.2 e a w → QS N vm s0 L0 C0 w0 ex σ e a w) ∧ (∀ e a w, QS N vm s0 L0 C0 w0 y.1 y.2 e a w → QS N vm s0 L0 C0 w0 ex σ e a w) := by
  unfold joinR at h
  split at h
  · rename_i hq
    obtain ⟨h1, h2⟩ := hq
    have h3 := Store.same_eq h2
    simp only [Option.some.injEq, Prod.mk.injEq] at h
    obtain ⟨rfl, rfl⟩ := h
    refine ⟨fun e a w hq => ?_, fun e a w hq => ?_⟩
    · obtain ⟨h4, L, C, hI⟩ := hq
      exact ⟨h4, L, C, hI.weak (joinVs_left _ _)⟩
    · obtain ⟨h4, L, C, hI⟩ := hq
      refine ⟨by rw [h1]; exact h4, L, C, ?_⟩
      rw [← h3] at hI
      exact hI.weak (joinVs_right _ _)
  · cases h
theorem S_sound {n : Nat} (hm : P.follows .mixedOrders = true) (hcall : CallOK P call) (hnd : vm.Nodup) : ∀ (c : Code) (b : Stm), ckS P N vm c b = true → ∀ (σ : St) (ex : Ex) (σ' : St), evS call n b σ = some (ex, σ') →
    ∀ (a : Act) (w : World) (L : Nat → Nat → Loc) (C : Cs), AI N vm s0 L0 C0 w0 σ.vs σ.s a w L C → c.wp P (QS N vm s0 L0 C0 w0 ex σ') a w
  | .region id ops draw, b, hck, σ, ex, σ', hev, a, w, L, C, hI => by
    cases b <;> (try (cases draw <;> simp [ckS] at hck; done))
    case reg aops chk => exact reg_sound hm hcall hnd hck hev hI
  | .seq c d, b, hck, σ, ex, σ', hev, a, w, L, C, hI => by
    cases b <;> (try (simp [ckS] at hck; done))
    case seq x y =>
      simp only [ckS, Bool.and_eq_true] at hck
      simp only [evS] at hev
      obtain ⟨⟨ex1, σ1⟩, hx, hev⟩ := bind_some hev
      refine wp_seq (wp_mono (S_sound hm hcall hnd c x hck.1 σ ex1 σ1 hx a w L C hI) fun e a1 w1 hq => ?_)
      obtain ⟨h1, L1, C1, hI1⟩ := hq
      cases ex1 with
      | nor =>
        cases e <;> simp only at h1
        exact S_sound hm hcall hnd d y hck.2 σ1 ex σ' hev a1 w1 L1 C1 hI1
      | exit i =>
        simp only [Option.some.injEq, Prod.mk.injEq] at hev
        obtain ⟨rfl, rfl⟩ := hev
        cases e <;> simp only at h1
        exact ⟨h1, L1, C1, hI1⟩
      | ret =>
        simp only [Option.some.injEq, Prod.mk.injEq] at hev
        obtain ⟨rfl, rfl⟩ := hev
        cases e <;> simp only at h1
        exact ⟨trivial, L1, C1, hI1⟩
    case alt p' x' a' b' q' =>
      cases c <;> (try (simp [ckS] at hck; done))
      case seq p cd =>
        cases cd <;> (try (simp [ckS] at hck; done))
        case cond x ca cb =>
          simp only [ckS, Bool.and_eq_true] at hck
          obtain ⟨⟨⟨⟨hp, hx⟩, ha⟩, hb⟩, hq⟩ := hck
          simp only [evS] at hev
          obtain ⟨⟨ex1, σ1⟩, hp1, hev⟩ := bind_some hev
          have ih1 := S_sound hm hcall hnd p p' hp σ ex1 σ1 hp1 a w L C hI
          have ihq := S_sound (n := n) hm hcall hnd d q' hq
          have iha := S_sound (n := n) hm hcall hnd ca a' ha
          have ihb := S_sound (n := n) hm hcall hnd cb b' hb
          have br : ∀ (xc : Code) (y : Option (Ex × St)) (a : Act) (w : World) (r : Ex × St), (∀ z, y = some z → xc.wp P (QS N vm s0 L0 C0 w0 z.1 z.2) a w) →
              (y.bind fun y => match y.1 with | .nor => evS call n q' y.2 | _ => some y) = some r → xc.wp P (Exit.then (d.wp P (QS N vm s0 L0 C0 w0 r.1 r.2)) (QS N vm s0 L0 C0 w0 r.1 r.2)) a w := by
            intro xc y a w r hxc h
            obtain ⟨⟨ex2, σ2⟩, hy, h⟩ := bind_some h
            refine wp_mono (hxc _ hy) fun e a1 w1 hq => ?_
            obtain ⟨h1, L1, C1, hI1⟩ := hq
            cases ex2 with
            | nor =>
              cases e <;> simp only at h1
              exact ihq σ2 r.1 r.2 h a1 w1 L1 C1 hI1
            | exit i =>
              simp only [Option.some.injEq] at h
              subst h
              cases e <;> simp only at h1
              exact ⟨h1, L1, C1, hI1⟩
            | ret =>
              simp only [Option.some.injEq] at h
              subst h
              cases e <;> simp only at h1
              exact ⟨trivial, L1, C1, hI1⟩
          have weak : ∀ (xc : Code) (r : Ex × St) (a : Act) (w : World), (∀ e a w, QS N vm s0 L0 C0 w0 r.1 r.2 e a w → QS N vm s0 L0 C0 w0 ex σ' e a w) → xc.wp P (Exit.then (d.wp P (QS N vm s0 L0 C0 w0 r.1 r.2)) (QS N vm s0 L0 C0 w0 r.1 r.2)) a w →
              xc.wp P (Exit.then (d.wp P (QS N vm s0 L0 C0 w0 ex σ')) (QS N vm s0 L0 C0 w0 ex σ')) a w := by
            intro xc r a w hw h
            refine wp_mono h fun e a1 w1 hq => ?_
            cases e with
            | normal => exact wp_mono hq hw
            | _ => exact hw _ _ _ hq
          refine wp_seq (wp_seq (wp_mono ih1 fun e a1 w1 hq1 => ?_))
          obtain ⟨h1, L1, C1, hI1⟩ := hq1
          cases ex1 with
          | nor =>
            cases e <;> simp only at h1
            have hc : VR σ1.s L1 C1 w1 (rd [] σ1.vs x') (a1.eval x) := by
              have := hx
              unfold ckCond at this
              split at this
              · simp only [decide_eq_true_eq] at this
                exact hI1.slots _ _ this
              · exact resC_sound (fun _ => rfl) this
            show (Code.cond x ca cb).wp P _ a1 w1
            split at hev
            · split at hev
              · rename_i t ht
                rw [ht] at hc
                generalize hcv : a1.eval x = cv at hc
                cases hc
                refine wp_cond hcv ?_
                cases t with
                | true => exact br ca _ a1 w1 (ex, σ') (fun z hz => iha σ1 z.1 z.2 hz a1 w1 L1 C1 hI1) hev
                | false => exact br cb _ a1 w1 (ex, σ') (fun z hz => ihb σ1 z.1 z.2 hz a1 w1 L1 C1 hI1) hev
              · rename_i ht
                rw [ht] at hc
                generalize hcv : a1.eval x = cv at hc
                cases hc with
                | anyb t =>
                  obtain ⟨u, hu, hev⟩ := bind_some hev
                  obtain ⟨v, hv, hev⟩ := bind_some hev
                  obtain ⟨j1, j2⟩ := joinR_sound (N := N) (vm := vm) (s0 := s0) (L0 := L0) (C0 := C0) (w0 := w0) hev
                  refine wp_cond hcv ?_
                  cases t with
                  | true => exact weak ca u a1 w1 j1 (br ca _ a1 w1 u (fun z hz => iha σ1 z.1 z.2 hz a1 w1 L1 C1 hI1) hu)
                  | false => exact weak cb v a1 w1 j2 (br cb _ a1 w1 v (fun z hz => ihb σ1 z.1 z.2 hz a1 w1 L1 C1 hI1) hv)
              · cases hev
            · rename_i hne; exact absurd rfl hne
          | exit i =>
            simp only [Option.some.injEq, Prod.mk.injEq] at hev
            obtain ⟨rfl, rfl⟩ := hev
            cases e <;> simp only at h1
            exact ⟨h1, L1, C1, hI1⟩
          | ret =>
            simp only [Option.some.injEq, Prod.mk.injEq] at hev
            obtain ⟨rfl, rfl⟩ := hev
            cases e <;> simp only at h1
            exact ⟨trivial, L1, C1, hI1⟩
  | .cond c d e, b, hck, σ, ex, σ', hev, a, w, L, C, hI => by
    cases b <;> (try (simp [ckS] at hck; done))
    case cond c' x y =>
      simp only [ckS, Bool.and_eq_true] at hck
      simp only [evS] at hev
      have hc : VR σ.s L C w (rd [] σ.vs c') (a.eval c) := by
        have := hck.1.1
        unfold ckCond at this
        split at this
        · simp only [decide_eq_true_eq] at this
          exact hI.slots _ _ this
        · exact resC_sound (fun _ => rfl) this
      split at hev
      · rename_i t ht
        rw [ht] at hc
        generalize hcv : a.eval c = cv at hc
        cases hc
        refine wp_cond hcv ?_
        split at hev
        · rename_i h1
          rw [if_pos h1]
          exact S_sound hm hcall hnd d x hck.1.2 σ ex σ' hev a w L C hI
        · rename_i h1
          rw [if_neg h1]
          exact S_sound hm hcall hnd e y hck.2 σ ex σ' hev a w L C hI
      · rename_i ht
        rw [ht] at hc
        generalize hcv : a.eval c = cv at hc
        cases hc with
        | anyb t =>
          obtain ⟨⟨ex1, σ1⟩, hx, hev⟩ := bind_some hev
          obtain ⟨⟨ex2, σ2⟩, hy, hev⟩ := bind_some hev
          obtain ⟨h1, h2⟩ := joinR_sound (N := N) (vm := vm) (s0 := s0) (L0 := L0) (C0 := C0) (w0 := w0) hev
          refine wp_cond hcv ?_
          cases t with
          | true => exact wp_mono (S_sound hm hcall hnd d x hck.1.2 σ ex1 σ1 hx a w L C hI) fun e a w hq => h1 e a w hq
          | false => exact wp_mono (S_sound hm hcall hnd e y hck.2 σ ex2 σ2 hy a w L C hI) fun e a w hq => h2 e a w hq
      · cases hev
  | .block id c, b, hck, σ, ex, σ', hev, a, w, L, C, hI => by
    cases b <;> (try (simp [ckS] at hck; done))
    case block id' x =>
      simp only [ckS, Bool.and_eq_true, beq_iff_eq] at hck
      obtain ⟨rfl, hck⟩ := hck
      simp only [evS] at hev
      obtain ⟨⟨ex1, σ1⟩, hx, hev⟩ := bind_some hev
      refine wp_block (wp_mono (S_sound hm hcall hnd c x hck σ ex1 σ1 hx a w L C hI) fun e a1 w1 hq => ?_)
      obtain ⟨h1, L1, C1, hI1⟩ := hq
      cases ex1 with
      | nor =>
        simp only [Option.some.injEq, Prod.mk.injEq] at hev
        obtain ⟨rfl, rfl⟩ := hev
        cases e <;> simp only at h1
        exact ⟨trivial, L1, C1, hI1⟩
      | exit i =>
        cases e <;> simp only at h1
        subst h1
        simp only [Exit.inBlock]
        simp only at hev
        split at hev
        · rename_i hid
          simp only [Option.some.injEq, Prod.mk.injEq] at hev
          obtain ⟨rfl, rfl⟩ := hev
          rw [if_pos hid]
          exact ⟨trivial, L1, C1, hI1⟩
        · rename_i hid
          simp only [Option.some.injEq, Prod.mk.injEq] at hev
          obtain ⟨rfl, rfl⟩ := hev
          rw [if_neg hid]
          exact ⟨rfl, L1, C1, hI1⟩
      | ret =>
        simp only [Option.some.injEq, Prod.mk.injEq] at hev
        obtain ⟨rfl, rfl⟩ := hev
        cases e <;> simp only at h1
        exact ⟨trivial, L1, C1, hI1⟩
  | .loop c, b, hck, σ, ex, σ', hev, a, w, L, C, hI => by
    cases b <;> (try (simp [ckS] at hck; done))
    case loop x =>
      simp only [ckS] at hck
      simp only [evS] at hev
      have key : ∀ (m : Nat) (σ : St) (a : Act) (w : World) (L : Nat → Nat → Loc) (C : Cs), loopN (evS call n x) m σ = some (ex, σ') → AI N vm s0 L0 C0 w0 σ.vs σ.s a w L C →
          Code.rounds P c (QS N vm s0 L0 C0 w0 ex σ') m a w := by
        intro m
        induction m with
        | zero => intro σ a w L C h; cases h
        | succ m ih =>
          intro σ a w L C h hI
          simp only [loopN] at h
          obtain ⟨⟨ex1, σ1⟩, hx, h⟩ := bind_some h
          rw [rounds_succ]
          refine wp_mono (S_sound hm hcall hnd c x hck σ ex1 σ1 hx a w L C hI) fun e a1 w1 hq => ?_
          obtain ⟨h1, L1, C1, hI1⟩ := hq
          cases ex1 with
          | nor =>
            cases e <;> simp only at h1
            exact ih σ1 a1 w1 L1 C1 h hI1
          | exit i =>
            simp only [Option.some.injEq, Prod.mk.injEq] at h
            obtain ⟨rfl, rfl⟩ := h
            cases e <;> simp only at h1
            exact ⟨h1, L1, C1, hI1⟩
          | ret =>
            simp only [Option.some.injEq, Prod.mk.injEq] at h
            obtain ⟨rfl, rfl⟩ := h
            cases e <;> simp only at h1
            exact ⟨trivial, L1, C1, hI1⟩
      exact wp_loop_rounds n (key n σ a w L C hev hI)
  | .exit id, b, hck, σ, ex, σ', hev, a, w, L, C, hI => by
    cases b <;> (try (simp [ckS] at hck; done))
    case exit id' =>
      simp only [ckS, beq_iff_eq] at hck
      subst hck
      simp only [evS, Option.some.injEq, Prod.mk.injEq] at hev
      obtain ⟨rfl, rfl⟩ := hev
      exact wp_exit ⟨rfl, L, C, hI⟩
  | .ret, b, hck, σ, ex, σ', hev, a, w, L, C, hI => by
    cases b <;> (try (simp [ckS] at hck; done))
    case ret =>
      simp only [evS, Option.some.injEq, Prod.mk.injEq] at hev
      obtain ⟨rfl, rfl⟩ := hev
      exact wp_ret ⟨trivial, L, C, hI⟩
  | .skip, b, hck, σ, ex, σ', hev, a, w, L, C, hI => by
    cases b <;> (try (simp [ckS] at hck; done))
    case skip =>
      simp only [evS, Option.some.injEq, Prod.mk.injEq] at hev
      obtain ⟨rfl, rfl⟩ := hev
      exact wp_skip ⟨trivial, L, C, hI⟩
  | .label l, b, hck, σ, ex, σ', hev, a, w, L, C, hI => by
    cases b <;> (try (simp [ckS] at hck; done))
    case skip =>
      simp only [evS, Option.some.injEq, Prod.mk.injEq] at hev
      obtain ⟨rfl, rfl⟩ := hev
      exact wp_label ⟨trivial, L, C, hI⟩
  | .scope c, b, hck, σ, ex, σ', hev, a, w, L, C, hI => by
    simp only [ckS] at hck
    refine wp_scope_straight (wp_mono (S_sound hm hcall hnd c b hck σ ex σ' hev a w L C hI) fun e a1 w1 hq => ?_)
    cases e with
    | goto l => obtain ⟨h1, _⟩ := hq; cases ex <;> simp only at h1
    | _ => exact hq
  | .rangeFunc _ _ _ _, b, hck, σ, ex, σ', hev, a, w, L, C, hI => by cases b <;> simp [ckS] at hck
  | .goto _, b, hck, σ, ex, σ', hev, a, w, L, C, hI => by cases b <;> simp [ckS] at hck
  | .refuse _, b, hck, σ, ex, σ', hev, a, w, L, C, hI => by cases b <;> simp [ckS] at hck
end
end Go.Proofs.YthogcanomihelaaDoor.Ae
