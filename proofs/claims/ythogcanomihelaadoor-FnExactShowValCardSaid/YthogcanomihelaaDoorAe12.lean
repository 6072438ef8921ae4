/- Calls, and regions whose operations stand in order. -/
import Derived.Test.YthogcanomihelaaDoorAe11
import Derived.Tactics
import Derived.Orders
set_option linter.unusedSimpArgs false
set_option linter.unusedVariables false
namespace Go.Proofs.YthogcanomihelaaDoor.Ae
open Go

/-- What a call comes to. -/
def Post (s : Store) (L : Nat → Nat → Loc) (C : Cs) (w : World) (s' : Store) (v : AV) (u : Value) (w' : World) : Prop :=
  ∃ L' C', VR s' L' C' w' v u ∧ SR s' L' C' w' ∧ Ext (s.low.length + 1) s L C w s' L' C' w'

def CallOK (P : Program) (call : CallT) : Prop := ∀ f args s v s', call f args s = some (v, s') → ∀ L C w us, SR s L C w → VRs s L C w args us →
  ((callFunc f us.toArray).run P w = .ok (.enter f us.toArray) w ∧ Calls P f us.toArray w fun e w' => ∃ u, e = .returned u ∧ Post s L C w s' v u w') ∨
  ∃ u w', (callFunc f us.toArray).run P w = .ok (.value u) w' ∧ Post s L C w s' v u w'

def ckAct (f : Operand → Opd → Bool) (P : Program) (o : Op) (a : AOp) : Bool :=
  match o, a with
  | .call c, .call g args => (match c.callee with | .value (.func h) => h == g | _ => false) && ckList f c.args.toList args
  | .call c, .callv g args => (match c.callee with | .value x => f x g | _ => false) && ckList f c.args.toList args
  | o, a => ckOp f P o a

section
variable {P : Program} {call : CallT} {s : Store} {L : Nat → Nat → Loc} {C : Cs} {w : World} {f : Operand → Opd → Bool} {ρA : Opd → AV} {o : Oper} {a : Act} {v : AV} {s' : Store}
  {K : Act → World → Prop} {Q : Exit → Act → World → Prop}

theorem upon_call {g : Nat} {us : List Value} (he : execOp a.eval o = callFunc g us.toArray)
    (h : ((callFunc g us.toArray).run P w = .ok (.enter g us.toArray) w ∧ Calls P g us.toArray w fun e w' => ∃ u, e = .returned u ∧ Post s L C w s' v u w') ∨
      ∃ u w', (callFunc g us.toArray).run P w = .ok (.value u) w' ∧ Post s L C w s' v u w')
    (hK : ∀ u w', Post s L C w s' v u w' → K (a.put o.dst u) w') : o.wp P a w K Q := by
  unfold Oper.wp
  rw [he]
  rcases h with ⟨h1, h2⟩ | ⟨u, w', h1, h2⟩
  · rw [h1]
    simp only [Oper.upon]
    refine Calls.mono h2 fun e w' he => ?_
    obtain ⟨u, rfl, hp⟩ := he
    exact hK u w' hp
  · rw [h1]
    exact hK u w' h2

theorem map_toArray {az : Array Operand} (ρ : Operand → Value) : az.map ρ = (az.toList.map ρ).toArray := Array.ext' (Array.toList_map ..)

theorem act_sound {ao : AOp} (hcall : CallOK P call) (hR : SR s L C w) (hρ : ∀ x y, f x y = true → VR s L C w (ρA y) (a.eval x)) (hck : ckAct f P o.op ao = true) (hev : evAct call ao ρA s = some (v, s'))
    (hK : ∀ u w', Post s L C w s' v u w' → K (a.put o.dst u) w') : o.wp P a w K Q := by
  generalize ho : o.op = q at hck
  unfold ckAct at hck
  split at hck
  · rename_i c g args
    simp only [Bool.and_eq_true] at hck
    obtain ⟨h1, h2⟩ := hck
    have hc : c.callee = .value (.func g) := by
      split at h1
      · rename_i h hc; rw [hc]; simp at h1; rw [h1]
      · cases h1
    have hargs := ckList_sound hρ h2
    simp only [evAct] at hev
    refine upon_call ?_ (hcall g _ s v s' hev L C w _ hR hargs) hK
    simp only [execOp, ho, resolve, hc, Act.eval, Deferred.ofValue, pure_bind, invoke, map_toArray]
    simp
  · rename_i c g args
    simp only [Bool.and_eq_true] at hck
    obtain ⟨h1, h2⟩ := hck
    obtain ⟨x, hc, hf⟩ : ∃ x, c.callee = .value x ∧ f x g = true := by
      split at h1
      · rename_i x hc; exact ⟨x, hc, h1⟩
      · cases h1
    have hargs := ckList_sound hρ h2
    have hx := hρ _ _ hf
    simp only [evAct] at hev
    split at hev
    · rename_i h first caps hq
      rw [hq] at hx
      generalize hxv : a.eval x = xv at hx
      cases hx with
      | fn _ az bs va vb ha hb hra hrb =>
        have h3 : VRs s L C w (first ++ args.map ρA ++ caps) (va ++ c.args.toList.map a.eval ++ vb) := (VRs.append ⟨ha, hra⟩ hargs).append ⟨hb, hrb⟩
        refine upon_call ?_ (hcall h _ s v s' hev L C w _ hR h3) hK
        simp only [execOp, ho, resolve, hc, hxv, Deferred.ofValue, pure_bind, invoke, map_toArray]
        simp
    · cases hev
  · rename_i h1 h2
    have hev' : evOp ao ρA s = some (v, s') := by
      unfold evAct at hev
      split at hev
      · cases hq : q <;> simp [hq, ckOp] at hck
      · cases hq : q <;> simp [hq, ckOp] at hck
      · exact hev
    rw [← ho] at hck
    obtain ⟨L', C', w', nx, val, e1, e2, e3, e4, e5⟩ := op_sound (P := P) (fun _ => rfl) hR hρ hck hev'
    unfold Oper.wp
    rw [e1]
    rcases e2 with rfl | ⟨rfl, rfl⟩
    · exact hK _ _ ⟨L', C', e3, e4, e5⟩
    · exact hK _ _ ⟨L', C', e3, e4, e5⟩
end

def dstOf (ops : Array Oper) (k : Nat) : Option Nat := (ops[k]?).bind (·.dst)
def ckGuard (res : Operand → Opd → Bool) (ops : Array Oper) (o : Oper) (ao : AO) : Bool :=
  match o.guard, ao.g with
  | none, none => true
  | some (g, want), some (g', want') => (g == g') && (want == want') && (match dstOf ops g with | some t => res (.tmp t) (.l g) | none => false)
  | _, _ => false

theorem wanted_of {ops : Array Oper} {o : Oper} {a : Act} {g t : Nat} {want b : Bool} (hg : o.guard = some (g, want)) (hd : dstOf ops g = some t) (hb : a.tmps.getD t undef = .bool b) :
    Region.wanted o (yielded ops a.tmps) = (b == want) := by
  have hd' : (ops[g]?).bind (·.dst) = some t := hd
  have ht : a.tmps[t]? = some (.bool b) := by
    cases hq : a.tmps[t]? with
    | none => rw [Array.getD_eq_getD_getElem?, hq] at hb; cases hb
    | some u => rw [Array.getD_eq_getD_getElem?, hq] at hb; rw [show u = Value.bool b from hb]
  simp only [Region.wanted, hg, yielded, hd', Option.bind_some, ht]
  cases b <;> cases want <;> rfl

section
variable {P : Program} {call : CallT} {s : Store} {L : Nat → Nat → Loc} {C : Cs} {w : World} {res : Operand → Opd → Bool} {o : Oper} {ao : AO} {a : Act} {v : AV} {s' : Store}
  {K : Act → World → Prop} {Q : Exit → Act → World → Prop} {ops : Array Oper} {ls vs : List AV}
theorem one_sound {j : Nat} (hcall : CallOK P call) (hR : SR s L C w) (hρ : ∀ x y, res x y = true → VR s L C w (rd ls vs y) (a.eval x))
    (hg : ckGuard res ops o ao = true) (hk : ckAct res P o.op ao.op = true) (hev : evOne call ao ls vs s = some (v, s')) (ho : ops[j]? = some o)
    (hK : ∀ u w', Post s L C w s' v u w' → K (a.put o.dst u) w') : wpOp P ops Q j K a w := by
  unfold wpOp
  simp only [ho]
  unfold evOne at hev
  unfold ckGuard at hg
  split at hg
  · rename_i h1 h2
    rw [h2] at hev
    have hw : Region.wanted o (yielded ops a.tmps) = true := by simp [Region.wanted, h1]
    simp only [hw, if_true]
    exact .inl (act_sound hcall hR hρ hk hev hK)
  · rename_i g want g' want' h1 h2
    simp only [Bool.and_eq_true, beq_iff_eq] at hg
    obtain ⟨⟨rfl, rfl⟩, hr⟩ := hg
    rw [h2] at hev
    simp only at hev
    split at hr
    · rename_i t ht
      have hv := hρ _ _ hr
      simp only [rd, Act.eval] at hv
      split at hev
      · rename_i b hb
        rw [hb] at hv
        generalize hbv : a.tmps.getD t undef = bv at hv
        cases hv
        rw [wanted_of h1 ht hbv]
        split at hev
        · rename_i he
          subst he
          simp only [BEq.rfl, if_true]
          exact .inl (act_sound hcall hR hρ hk hev hK)
        · rename_i he
          have : (b == want) = false := by cases b <;> cases want <;> simp_all
          rw [this]
          simp only [Bool.false_eq_true, if_false]
          simp only [Option.some.injEq, Prod.mk.injEq] at hev
          obtain ⟨rfl, rfl⟩ := hev
          exact hK _ _ ⟨L, C, .unw, hR, .refl _⟩
      · rename_i hb
        rw [hb] at hv
        generalize hbv : a.tmps.getD t undef = bv at hv
        cases hv
        have hw : Region.wanted o (yielded ops a.tmps) = false := by
          have hd' : (ops[g]?).bind (·.dst) = some t := ht
          simp only [Region.wanted, h1, yielded, hd', Option.bind_some]
          cases hq : a.tmps[t]? with
          | none => rfl
          | some u =>
            rw [Array.getD_eq_getD_getElem?, hq] at hbv
            have : u = Go.undef := hbv
            subst this
            rfl
        rw [hw]
        simp only [Bool.false_eq_true, if_false]
        simp only [Option.some.injEq, Prod.mk.injEq] at hev
        obtain ⟨rfl, rfl⟩ := hev
        exact hK _ _ ⟨L, C, .unw, hR, .refl _⟩
      · cases hev
    · cases hr
  · cases hg
end

/-! ### the slots of a function -/
def TR (vm : List Nat) (vs : List AV) (s : Store) (L : Nat → Nat → Loc) (C : Cs) (w : World) (a : Act) : Prop :=
  ∀ i t, vm[i]? = some t → VR s L C w (vs.getD i .undef) (a.tmps.getD t undef)
def ckDst (N : Nat) (vm : List Nat) (o : Oper) (ao : AO) : Bool :=
  match o.dst with
  | none => ao.dv.isNone
  | some t => decide (t < N) && (match ao.dv with | some i => decide (vm[i]? = some t) | none => !(vm.contains t))
def nW (ops : Array Oper) (t lo hi : Nat) : Bool := (List.range ops.size).all fun k => !(decide (lo ≤ k) && decide (k < hi)) || decide (dstOf ops k ≠ some t)
def resC (x : Operand) (y : Opd) : Bool :=
  match x, y with
  | .const v, .c c => cst v c
  | .func g, .c (.fn h [] []) => g == h
  | _, _ => false
def resS (vm : List Nat) (ops : Array Oper) (j : Nat) (x : Operand) (y : Opd) : Bool :=
  match x, y with
  | .tmp t, .l k => decide (k < j) && decide (dstOf ops k = some t) && nW ops t (k + 1) j
  | .tmp t, .v i => decide (vm[i]? = some t)
  | x, y => resC x y
def ckOneS (P : Program) (N : Nat) (vm : List Nat) (ops : Array Oper) (j : Nat) (o : Oper) (ao : AO) : Bool :=
  ckDst N vm o ao && ckGuard (resS vm ops j) ops o ao && ckAct (resS vm ops j) P o.op ao.op
def ckRegS (P : Program) (N : Nat) (vm : List Nat) (ops : Array Oper) (aops : List AO) : Bool :=
  (ops.size == aops.length) && (List.range ops.size).all fun j => match ops[j]?, aops[j]? with | some o, some ao => ckOneS P N vm ops j o ao | _, _ => false

theorem put_size (a : Act) (dst : Option Tmp) (u : Value) : (a.put dst u).tmps.size = a.tmps.size := by cases dst <;> simp [Act.put]
theorem put_defers' (a : Act) (dst : Option Tmp) (u : Value) : (a.put dst u).defers = a.defers := by cases dst <;> rfl
theorem put_same {a : Act} {t : Nat} {u : Value} (h : t < a.tmps.size) : (a.put (some t) u).tmps.getD t undef = u := by
  simp [Act.put, Array.getD_eq_getD_getElem?, h]
theorem put_other {a : Act} {dst : Option Tmp} {t : Nat} {u : Value} (h : dst ≠ some t) : (a.put dst u).tmps.getD t undef = a.tmps.getD t undef := by
  cases dst with
  | none => rfl
  | some d =>
    have hne : d ≠ t := fun e => h (by rw [e])
    simp [Act.put, Array.getD_eq_getD_getElem?, Array.getElem?_setIfInBounds_ne hne]

section
variable {s : Store} {L : Nat → Nat → Loc} {C : Cs} {w : World}
theorem resC_sound {x : Operand} {y : Opd} {ρ : Opd → AV} {a : Act} (hρ : ∀ c, ρ (.c c) = c) (h : resC x y = true) : VR s L C w (ρ y) (a.eval x) := by
  unfold resC at h
  split at h
  · rw [hρ]; exact cst_sound h
  · simp only [beq_iff_eq] at h
    subst h
    rw [hρ]
    exact .fn _ [] [] [] [] rfl rfl (fun j x y h => by simp at h) fun j x y h => by simp at h
  · cases h

theorem getD_set {α : Type} (l : List α) (i k : Nat) (x d : α) : (l.set i x).getD k d = if i = k then (if i < l.length then x else d) else l.getD k d := by
  simp only [List.getD_eq_getElem?_getD, List.getElem?_set]
  split
  · split <;> rfl
  · rfl

/-- A slot that is written, and those that are not. -/
theorem TR.put {N : Nat} {vm : List Nat} {vs : List AV} {a : Act} {o : Oper} {ao : AO} {v : AV} {u : Value} {s' : Store} {L' : Nat → Nat → Loc} {C' : Cs} {w' : World}
    (h : TR vm vs s L C w a) (hnd : vm.Nodup) (hN : a.tmps.size = N) (hd : ckDst N vm o ao = true) (hE : Ext (s.low.length + 1) s L C w s' L' C' w') (hv : VR s' L' C' w' v u) :
    TR vm (putV ao.dv vs v) s' L' C' w' (a.put o.dst u) := by
  intro i t hi
  unfold ckDst at hd
  cases hdst : o.dst with
  | none =>
    rw [hdst] at hd
    have hn : ao.dv = none := by simpa using hd
    rw [hn]
    exact (h i t hi).keep hE
  | some d =>
    rw [hdst] at hd
    simp only [Bool.and_eq_true, decide_eq_true_eq] at hd
    obtain ⟨hlt, hd⟩ := hd
    by_cases hdt : d = t
    · subst hdt
      rw [put_same (by rw [hN]; exact hlt)]
      cases hdv : ao.dv with
      | none =>
        rw [hdv] at hd
        simp only [Bool.not_eq_true', List.contains_eq_mem, decide_eq_false_iff_not] at hd
        exact absurd (List.mem_of_getElem? hi) hd
      | some i' =>
        rw [hdv] at hd
        simp only [decide_eq_true_eq] at hd
        have hii : i' = i := (List.getElem?_inj (List.getElem?_eq_some_iff.1 hd).1 hnd).1 (hd.trans hi.symm)
        subst hii
        simp only [putV, getD_set, if_true]
        split
        · exact hv
        · exact .undef _
    · rw [put_other (by simpa using hdt)]
      have : (putV ao.dv vs v).getD i .undef = vs.getD i .undef := by
        cases hdv : ao.dv with
        | none => rfl
        | some i' =>
          rw [hdv] at hd
          simp only [decide_eq_true_eq] at hd
          have hne : i' ≠ i := fun e => hdt (by rw [e, hi] at hd; exact (Option.some.inj hd).symm)
          simp only [putV, getD_set, if_neg hne]
      rw [this]
      exact (h i t hi).keep hE
end

theorem nW_spec {ops : Array Oper} {t lo hi : Nat} (h : nW ops t lo hi = true) {k : Nat} (h1 : lo ≤ k) (h2 : k < hi) : dstOf ops k ≠ some t := by
  intro hk
  have hlt : k < ops.size := by
    unfold dstOf at hk
    rcases Nat.lt_or_ge k ops.size with hl | hl
    · exact hl
    · rw [Array.getElem?_eq_none hl] at hk; cases hk
  have := List.all_eq_true.1 h k (List.mem_range.2 hlt)
  simp [h1, h2, hk] at this
theorem nW_of {ops : Array Oper} {t lo hi : Nat} (h : ∀ k, lo ≤ k → k < hi → dstOf ops k ≠ some t) : nW ops t lo hi = true := by
  refine List.all_eq_true.2 fun k _ => ?_
  by_cases h1 : lo ≤ k ∧ k < hi
  · simp [h1.1, h1.2, h k h1.1 h1.2]
  · have : (decide (lo ≤ k) && decide (k < hi)) = false := by
      rw [Bool.and_eq_false_iff, decide_eq_false_iff_not, decide_eq_false_iff_not]; omega
    simp [this]

/-- What holds of an activation. -/
structure AI (N : Nat) (vm : List Nat) (s0 : Store) (L0 : Nat → Nat → Loc) (C0 : Cs) (w0 : World) (vs : List AV) (s : Store) (a : Act) (w : World) (L : Nat → Nat → Loc) (C : Cs) : Prop where
  size : a.tmps.size = N
  defers : a.defers = []
  rel : SR s L C w
  ext : Ext (s0.low.length + 1) s0 L0 C0 w0 s L C w
  slots : TR vm vs s L C w a

theorem seq_sound {P : Program} {call : CallT} {N : Nat} {vm : List Nat} {ops : Array Oper} {aops : List AO} {Q : Exit → Act → World → Prop} {s0 : Store} {L0 : Nat → Nat → Loc} {C0 : Cs} {w0 : World}
    (hcall : CallOK P call) (hnd : vm.Nodup) (hck : ckRegS P N vm ops aops = true) {vs' : List AV} {s' : Store}
    (hQ : ∀ a w L C, AI N vm s0 L0 C0 w0 vs' s' a w L C → Q .normal a w) :
    ∀ (rest : List AO) (j : Nat) (ls vs : List AV) (s : Store) (a : Act) (w : World) (L : Nat → Nat → Loc) (C : Cs), aops.drop j = rest → evOps call rest ls vs s = some (vs', s') → ls.length = j →
      AI N vm s0 L0 C0 w0 vs s a w L C → (∀ k t, k < j → dstOf ops k = some t → nW ops t (k + 1) j = true → VR s L C w (ls.getD k .undef) (a.tmps.getD t undef)) →
      wpOps P ops Q (List.range' j rest.length) a w
  | [], j, ls, vs, s, a, w, L, C, _, hev, _, hI, _ => by
    simp only [evOps, Option.some.injEq, Prod.mk.injEq] at hev
    obtain ⟨rfl, rfl⟩ := hev
    exact hQ a w L C hI
  | ao :: rest, j, ls, vs, s, a, w, L, C, hrest, hev, hlen, hI, hLR => by
    unfold ckRegS at hck
    have hck0 := hck
    simp only [Bool.and_eq_true, beq_iff_eq, List.all_eq_true, List.mem_range] at hck
    obtain ⟨hsz, hall⟩ := hck
    have hao : aops[j]? = some ao := by
      have : (aops.drop j)[0]? = some ao := by rw [hrest]; rfl
      rwa [List.getElem?_drop, Nat.add_zero] at this
    have hj : j < ops.size := by rw [hsz]; exact (List.getElem?_eq_some_iff.1 hao).1
    have h1 := hall j hj
    obtain ⟨o, ho⟩ : ∃ o, ops[j]? = some o := ⟨_, Array.getElem?_eq_getElem hj⟩
    simp only [ho, hao, ckOneS, Bool.and_eq_true] at h1
    obtain ⟨⟨hd, hg⟩, hk⟩ := h1
    simp only [evOps] at hev
    obtain ⟨⟨v, s1⟩, hx, hev⟩ := bind_some hev
    simp only [List.length_cons, List.range'_succ]
    rw [wpOps_cons]
    refine one_sound hcall hI.rel ?_ hg hk hx ho fun u w1 hp => ?_
    · intro x y hxy
      unfold resS at hxy
      split at hxy
      · rename_i t k
        simp only [Bool.and_eq_true, decide_eq_true_eq] at hxy
        exact hLR k t hxy.1.1 hxy.1.2 hxy.2
      · rename_i t i
        simp only [decide_eq_true_eq] at hxy
        exact hI.slots i t hxy
      · exact resC_sound (fun _ => rfl) hxy
    · obtain ⟨L1, C1, hv, hR1, hE1⟩ := hp
      have hE0 : Ext (s0.low.length + 1) s L C w s1 L1 C1 w1 := by have := hI.ext.depth; rw [← this]; exact hE1
      refine seq_sound hcall hnd hck0 hQ rest (j + 1) (ls ++ [v]) _ s1 _ w1 L1 C1 ?_ hev (by simp [hlen]) ⟨by rw [put_size]; exact hI.size, by rw [put_defers']; exact hI.defers, hR1, hI.ext.trans hE0, hI.slots.put hnd hI.size hd hE1 hv⟩ ?_
      · rw [← List.drop_drop, hrest]
        rfl
      · intro k t hkj hdk hnw
        rcases Nat.lt_or_ge k j with hlt | hge
        · have hoj : o.dst ≠ some t := by
            have := nW_spec hnw (k := j) (by omega) (by omega)
            simpa [dstOf, ho] using this
          rw [put_other hoj, show (ls ++ [v]).getD k .undef = ls.getD k .undef by simp [List.getD_eq_getElem?_getD, List.getElem?_append_left (show k < ls.length by omega)]]
          exact (hLR k t hlt hdk (nW_of fun m h1 h2 => nW_spec hnw h1 (by omega))).keep hE1
        · obtain rfl : k = j := by omega
          have hot : o.dst = some t := by simpa [dstOf, ho] using hdk
          rw [hot]
          have hlt : t < N := by
            unfold ckDst at hd
            rw [hot] at hd
            simp only [Bool.and_eq_true, decide_eq_true_eq] at hd
            exact hd.1
          rw [put_same (by rw [hI.size]; exact hlt), show (ls ++ [v]).getD k .undef = v by simp [List.getD_eq_getElem?_getD, ← hlen]]
          exact hv
end Go.Proofs.YthogcanomihelaaDoor.Ae
