/- Regions whose order is drawn: the check, and that it is sound. -/
import Derived.Test.YthogcanomihelaaDoorAe13
set_option linter.unusedSimpArgs false
set_option linter.unusedVariables false
namespace Go.Proofs.YthogcanomihelaaDoor.Ae
open Go

def resD (vm : List Nat) (ops : Array Oper) (T : List (List Nat)) (j : Nat) (x : Operand) (y : Opd) : Bool :=
  match x, y with
  | .tmp t, .l k => (T.getD j []).contains k && decide (dstOf ops k = some t) &&
      (List.range ops.size).all fun k' => (k' == k) || (k' == j) || decide (dstOf ops k' ≠ some t) || (T.getD k []).contains k' || (T.getD k' []).contains j
  | .tmp t, .v i => decide (vm[i]? = some t) && (List.range ops.size).all fun k' => (k' == j) || decide (dstOf ops k' ≠ some t) || (T.getD k' []).contains j
  | x, y => resC x y
def effAt (aops : List AO) (e : Nat) : Bool := match aops[e]? with | some o => isEff o.op | none => false
def effs (aops : List AO) : List Nat := (List.range aops.length).filter (effAt aops)
def ckRead (T : List (List Nat)) (es : List Nat) (n : Nat) (chk : List (Nat × Nat)) (i : Nat) : Bool := (es ++ [n]).all fun p =>
  es.any (fun e => decide (e < p) && (T.getD e []).contains i) || es.any (fun e => decide (p ≤ e) && (T.getD i []).contains e) || chk.contains (i, p) ||
    es.all fun e => !((decide (p ≤ e) && decide (e < i)) || (decide (i ≤ e) && decide (e < p)))
def ckOneD (P : Program) (N : Nat) (vm : List Nat) (ops : Array Oper) (T : List (List Nat)) (es : List Nat) (n : Nat) (chk : List (Nat × Nat)) (j : Nat) (o : Oper) (ao : AO) : Bool :=
  ckDst N vm o ao && ckGuard (resD vm ops T j) ops o ao && ckAct (resD vm ops T j) P o.op ao.op && (isEff ao.op || !(isRead ao.op) || ckRead T es n chk j) &&
    (o.after.toList.all fun e => !(Region.binds .any e) || decide (e.on < j)) &&
    ((List.range ops.size).all fun k => !(decide (k < j)) || o.dst.isNone || decide (dstOf ops k ≠ o.dst) || (T.getD j []).contains k)
def cpL {α : Type} : List α → (List α → Bool) → Bool
  | [], k => k []
  | x :: r, k => cpL r fun r' => k (x :: r')
def cpLL {α : Type} : List (List α) → (List (List α) → Bool) → Bool
  | [], k => k []
  | x :: r, k => cpL x fun x' => cpLL r fun r' => k (x' :: r')
theorem cpL_eq {α : Type} : ∀ (l : List α) (k : List α → Bool), cpL l k = k l
  | [], _ => rfl
  | x :: r, k => by simp only [cpL]; rw [cpL_eq r]
theorem cpLL_eq {α : Type} : ∀ (l : List (List α)) (k : List (List α) → Bool), cpLL l k = k l
  | [], _ => rfl
  | x :: r, k => by simp only [cpLL]; rw [cpL_eq, cpLL_eq r]
def ckRegD (P : Program) (N : Nat) (vm : List Nat) (ops : Array Oper) (aops : List AO) (chk : List (Nat × Nat)) : Bool :=
  (ops.size == aops.length) && cpLL (ancs ops.toList []) fun T => cpL (effs aops) fun es =>
    (es.all fun e => es.all fun e' => !(decide (e' < e)) || (T.getD e []).contains e') &&
    (List.range ops.size).all fun j => match ops[j]?, aops[j]? with | some o, some ao => ckOneD P N vm ops T es ops.size chk j o ao | _, _ => false

theorem getD_ft {S : Array Bool} {n j : Nat} (h : S.size = n) (hj : j < n) : S.getD j true = S.getD j false := by
  simp [Array.getD_eq_getD_getElem?, Array.getElem?_eq_getElem (show j < S.size by omega)]
theorem getD_set_self {S : Array Bool} {n j : Nat} (h : S.size = n) (hj : j < n) : (S.setIfInBounds j true).getD j false = true := by
  simp [Array.getD_eq_getD_getElem?, show j < S.size by omega]
theorem getD_set_iff {S : Array Bool} {n j k : Nat} (h : S.size = n) (hj : j < n) : (S.setIfInBounds j true).getD k false = true ↔ S.getD k false = true ∨ k = j := by
  by_cases hk : j = k
  · subst hk; simp [getD_set_self h hj]
  · rw [getD_set_ne false hk]
    constructor
    · exact .inl
    · rintro (h | rfl)
      · exact h
      · exact absurd rfl hk
theorem getD_lt {S : Array Bool} {n j : Nat} (h : S.size = n) (hj : S.getD j false = true) : j < n := by
  rcases Nat.lt_or_ge j S.size with h1 | h1
  · omega
  · simp [Array.getD_eq_getD_getElem?, Array.getElem?_eq_none h1] at hj

theorem next_above (l : List Nat) (j n : Nat) (h : j < n) : ∃ p, (p ∈ l ∨ p = n) ∧ j < p ∧ p ≤ n ∧ ∀ e ∈ l, j < e → p ≤ e ∨ n < e := by
  induction l with
  | nil => exact ⟨n, .inr rfl, h, Nat.le_refl _, fun e he => by cases he⟩
  | cons x r ih =>
    obtain ⟨p, h1, h2, h3, h4⟩ := ih
    by_cases hx : j < x ∧ x < p
    · refine ⟨x, .inl (by simp), hx.1, by omega, fun e he hje => ?_⟩
      rcases List.mem_cons.1 he with rfl | he
      · exact .inl (Nat.le_refl _)
      · rcases h4 e he hje with h | h
        · exact .inl (by omega)
        · exact .inr h
    · refine ⟨p, h1.imp (fun h => List.mem_cons_of_mem _ h) id, h2, h3, fun e he hje => ?_⟩
      rcases List.mem_cons.1 he with rfl | he
      · exact .inl (by omega)
      · exact h4 e he hje

section
variable {P : Program} {call : CallT} {N : Nat} {vm : List Nat} {ops : Array Oper} {aops : List AO} {chk : List (Nat × Nat)} {Q : Exit → Act → World → Prop} {s0 : Store} {L0 : Nat → Nat → Loc} {C0 : Cs} {w0 : World}
  {τ : Nat → Tr} {x : Nat → AV} {T : List (List Nat)} {es : List Nat} {vs : List AV}

theorem mem_effs {e : Nat} : e ∈ effs aops ↔ effAt aops e = true := by
  unfold effs
  rw [List.mem_filter, List.mem_range]
  constructor
  · exact fun h => h.2
  · intro h
    refine ⟨?_, h⟩
    unfold effAt at h
    split at h
    · rename_i o ho; exact (List.getElem?_eq_some_iff.1 ho).1
    · cases h

/-- Where no effect lies between, the stores are one. -/
theorem st_const (tr : Trace call aops τ x) : ∀ (d p : Nat), p + d ≤ aops.length → (∀ e, p ≤ e → e < p + d → effAt aops e = false) → (τ (p + d)).s = (τ p).s
  | 0, p, _, _ => rfl
  | d + 1, p, hle, h => by
    have h1 := st_const tr d p (by omega) fun e h1 h2 => h e h1 (by omega)
    obtain ⟨o, ho⟩ : ∃ o, aops[p + d]? = some o := ⟨_, List.getElem?_eq_getElem (by omega)⟩
    obtain ⟨h2, _, _⟩ := tr.one _ o ho
    have h3 := h (p + d) (by omega) (by omega)
    simp only [effAt, ho] at h3
    have h4 := quiet_one h3 h2
    rw [← h1, ← Nat.add_assoc]
    exact h4
theorem st_eq (tr : Trace call aops τ x) {p q : Nat} (hpq : p ≤ q) (hq : q ≤ aops.length) (h : ∀ e, p ≤ e → e < q → effAt aops e = false) : (τ q).s = (τ p).s := by
  obtain ⟨d, rfl⟩ := Nat.exists_eq_add_of_le hpq
  exact st_const tr d p hq h

theorem ls_len (tr : Trace call aops τ x) (h0 : (τ 0).ls = []) : ∀ j, j ≤ aops.length → (τ j).ls.length = j ∧ ∀ k, k < j → (τ j).ls.getD k .undef = x k
  | 0, _ => ⟨by rw [h0]; rfl, fun k h => by omega⟩
  | j + 1, hj => by
    obtain ⟨o, ho⟩ : ∃ o, aops[j]? = some o := ⟨_, List.getElem?_eq_getElem (by omega)⟩
    obtain ⟨_, h2, _⟩ := tr.one _ o ho
    obtain ⟨h3, h4⟩ := ls_len tr h0 j (by omega)
    rw [h2]
    refine ⟨by simp [h3], fun k hk => ?_⟩
    rcases Nat.lt_or_ge k j with h5 | h5
    · rw [List.getD_eq_getElem?_getD, List.getElem?_append_left (by omega), ← List.getD_eq_getElem?_getD]
      exact h4 k h5
    · obtain rfl : k = j := by omega
      simp [List.getD_eq_getElem?_getD, h3]

/-- The facts of the check. -/
structure CkD (P : Program) (N : Nat) (vm : List Nat) (ops : Array Oper) (aops : List AO) (chk : List (Nat × Nat)) (T : List (List Nat)) (es : List Nat) : Prop where
  len : ops.size = aops.length
  mem : ∀ e, e ∈ es ↔ effAt aops e = true
  good : Good ops T
  tlen : T.length = ops.size
  chain : ∀ e ∈ es, ∀ e' ∈ es, e' < e → e' ∈ T.getD e []
  one : ∀ (j : Nat) (o : Oper) (ao : AO), ops[j]? = some o → aops[j]? = some ao → ckDst N vm o ao = true ∧ ckGuard (resD vm ops T j) ops o ao = true ∧ ckAct (resD vm ops T j) P o.op ao.op = true ∧
    (isEff ao.op = true ∨ isRead ao.op = false ∨ ckRead T es ops.size chk j = true)
  back : ∀ (j : Nat) (o : Oper), ops[j]? = some o → ∀ e ∈ o.after, Region.binds .any e = true → e.on < j
  wr : ∀ j k t, dstOf ops j = some t → dstOf ops k = some t → k < j → k ∈ T.getD j []

theorem dst_lt {k t : Nat} (h : dstOf ops k = some t) : k < ops.size := by
  unfold dstOf at h
  rcases Nat.lt_or_ge k ops.size with hl | hl
  · exact hl
  · rw [Array.getElem?_eq_none hl] at h; cases h

theorem ckRegD_spec (h : ckRegD P N vm ops aops chk = true) : ∃ T es, CkD P N vm ops aops chk T es := by
  unfold ckRegD at h
  simp only [cpL_eq, cpLL_eq, Bool.and_eq_true, beq_iff_eq] at h
  obtain ⟨hlen, hch, hall⟩ := h
  rw [List.all_eq_true] at hall
  obtain ⟨hg, htl⟩ := ancs_ok ops
  have hone : ∀ (j : Nat) (o : Oper) (ao : AO), ops[j]? = some o → aops[j]? = some ao → ckOneD P N vm ops (ancs ops.toList []) (effs aops) ops.size chk j o ao = true := by
    intro j o ao ho hao
    have := hall j (List.mem_range.2 (Array.getElem?_eq_some_iff.1 ho).1)
    simpa only [ho, hao] using this
  have hex : ∀ (j : Nat) (o : Oper), ops[j]? = some o → ∃ ao, aops[j]? = some ao := by
    intro j o ho
    have : j < ops.size := (Array.getElem?_eq_some_iff.1 ho).1
    exact ⟨_, List.getElem?_eq_getElem (by omega)⟩
  refine ⟨ancs ops.toList [], effs aops, hlen, fun e => mem_effs, hg, htl, ?_, ?_, ?_, ?_⟩
  · intro e he e' he' hlt
    rw [List.all_eq_true] at hch
    have := hch e he
    rw [List.all_eq_true] at this
    have := this e' he'
    simpa [hlt] using this
  · intro j o ao ho hao
    have := hone j o ao ho hao
    simp only [ckOneD, Bool.and_eq_true, Bool.or_eq_true, Bool.not_eq_true'] at this
    obtain ⟨⟨⟨⟨⟨h1, h2⟩, h3⟩, h4⟩, _⟩, _⟩ := this
    exact ⟨h1, h2, h3, by rcases h4 with (h4 | h4) | h4 <;> simp [h4]⟩
  · intro j o ho e he hb
    obtain ⟨ao, hao⟩ := hex j o ho
    have := hone j o ao ho hao
    simp only [ckOneD, Bool.and_eq_true, List.all_eq_true] at this
    have := this.1.2 e (by simpa using he)
    simpa [hb] using this
  · intro j k t hj hk hlt
    obtain ⟨o, ho, hd⟩ : ∃ o, ops[j]? = some o ∧ o.dst = some t := by
      unfold dstOf at hj
      cases ho : ops[j]? with
      | none => rw [ho] at hj; cases hj
      | some o => rw [ho] at hj; exact ⟨o, rfl, hj⟩
    obtain ⟨ao, hao⟩ := hex j o ho
    have := hone j o ao ho hao
    simp only [ckOneD, Bool.and_eq_true, List.all_eq_true] at this
    have := this.2 k (List.mem_range.2 (dst_lt hk))
    simpa [hlt, hd, hk] using this

/-- What holds where the operations of S have run. -/
structure DI (N : Nat) (vm : List Nat) (ops : Array Oper) (T : List (List Nat)) (es : List Nat) (τ : Nat → Tr) (x : Nat → AV) (vs : List AV) (s0 : Store) (L0 : Nat → Nat → Loc) (C0 : Cs) (w0 : World)
    (S : Array Bool) (p : Nat) (a : Act) (w : World) (L : Nat → Nat → Loc) (C : Cs) : Prop where
  sz : S.size = ops.size
  shut : Shut ops fun i => S.getD i false = true
  pm : p ∈ es ∨ p = ops.size
  ple : p ≤ ops.size
  pe : ∀ e ∈ es, S.getD e false = true ↔ e < p
  size : a.tmps.size = N
  defers : a.defers = []
  rel : SR (τ p).s L C w
  ext : Ext (s0.low.length + 1) s0 L0 C0 w0 (τ p).s L C w
  val : ∀ k t, S.getD k false = true → dstOf ops k = some t → (∀ k', S.getD k' false = true → dstOf ops k' = some t → k' = k ∨ k' ∈ T.getD k []) → VR (τ p).s L C w (x k) (a.tmps.getD t undef)
  var : ∀ i t, vm[i]? = some t → (∀ k', S.getD k' false = true → dstOf ops k' ≠ some t) → VR (τ p).s L C w (vs.getD i .undef) (a.tmps.getD t undef)

/-- The slots behind the first m operations. -/
theorem vs_last (hc : CkD P N vm ops aops chk T es) (hnd : vm.Nodup) (tr : Trace call aops τ x) (h0 : (τ 0).vs = vs) {i t : Nat} (hi : vm[i]? = some t) : ∀ m, m ≤ aops.length →
    ((∀ k, k < m → dstOf ops k ≠ some t) ∧ (τ m).vs.getD i .undef = vs.getD i .undef) ∨
    ∃ k, k < m ∧ dstOf ops k = some t ∧ (∀ k', k < k' → k' < m → dstOf ops k' ≠ some t) ∧ ((τ m).vs.getD i .undef = x k ∨ (τ m).vs.getD i .undef = .undef)
  | 0, _ => .inl ⟨fun k h => by omega, by rw [h0]⟩
  | m + 1, hm => by
    have ih := vs_last hc hnd tr h0 hi m (by omega)
    have hmo : m < ops.size := by have := hc.len; omega
    obtain ⟨o, ho⟩ : ∃ o, ops[m]? = some o := ⟨_, Array.getElem?_eq_getElem hmo⟩
    obtain ⟨ao, hao⟩ : ∃ ao, aops[m]? = some ao := ⟨_, List.getElem?_eq_getElem (by omega)⟩
    obtain ⟨_, _, hvs⟩ := tr.one m ao hao
    obtain ⟨hd, _, _, _⟩ := hc.one m o ao ho hao
    have hdm : dstOf ops m = o.dst := by simp [dstOf, ho]
    unfold ckDst at hd
    by_cases hdt : o.dst = some t
    · rw [hdt] at hd
      simp only [Bool.and_eq_true, decide_eq_true_eq] at hd
      refine .inr ⟨m, by omega, by rw [hdm, hdt], fun k' h1 h2 => by omega, ?_⟩
      cases hdv : ao.dv with
      | none =>
        rw [hdv] at hd
        simp only [Bool.not_eq_true', List.contains_eq_mem, decide_eq_false_iff_not] at hd
        exact absurd (List.mem_of_getElem? hi) hd.2
      | some i' =>
        rw [hdv] at hd
        simp only [decide_eq_true_eq] at hd
        have hii : i' = i := (List.getElem?_inj (List.getElem?_eq_some_iff.1 hd.2).1 hnd).1 (hd.2.trans hi.symm)
        subst hii
        rw [hvs, hdv]
        simp only [putV, getD_set, if_true]
        split
        · exact .inl rfl
        · exact .inr rfl
    · have hsame : (τ (m + 1)).vs.getD i .undef = (τ m).vs.getD i .undef := by
        rw [hvs]
        cases hdv : ao.dv with
        | none => rfl
        | some i' =>
          rw [hdv] at hd
          cases hdst : o.dst with
          | none => rw [hdst] at hd; simp at hd
          | some d =>
            rw [hdst] at hd
            simp only [Bool.and_eq_true, decide_eq_true_eq] at hd
            have hne : i' ≠ i := fun e => hdt (by rw [e, hi] at hd; rw [hdst, hd.2])
            simp only [putV, getD_set, if_neg hne]
      rcases ih with ⟨h1, h2⟩ | ⟨k, h1, h2, h3, h4⟩
      · refine .inl ⟨fun k hk => ?_, hsame.trans h2⟩
        rcases Nat.lt_or_ge k m with h | h
        · exact h1 k h
        · obtain rfl : k = m := by omega
          rw [hdm]; exact hdt
      · refine .inr ⟨k, by omega, h2, fun k' h5 h6 => ?_, by rw [hsame]; exact h4⟩
        rcases Nat.lt_or_ge k' m with h | h
        · exact h3 k' h5 h
        · obtain rfl : k' = m := by omega
          rw [hdm]; exact hdt

theorem DI.done {S : Array Bool} {p : Nat} {a : Act} {w : World} {L : Nat → Nat → Loc} {C : Cs} (hc : CkD P N vm ops aops chk T es) (hnd : vm.Nodup) (tr : Trace call aops τ x) (h0 : (τ 0).vs = vs)
    (h : DI N vm ops T es τ x vs s0 L0 C0 w0 S p a w L C) (hall : ∀ i, i < ops.size → S.getD i false = true) : AI N vm s0 L0 C0 w0 (τ aops.length).vs (τ aops.length).s a w L C := by
  have hle : p ≤ aops.length := by rw [← hc.len]; exact h.ple
  have hst : (τ aops.length).s = (τ p).s := st_eq tr hle (Nat.le_refl _) fun e h1 h2 => by
    cases he : effAt aops e with
    | false => rfl
    | true =>
      have := (h.pe e ((hc.mem e).2 he)).1 (hall e (by rw [hc.len]; exact h2))
      omega
  rw [show AI N vm s0 L0 C0 w0 (τ aops.length).vs (τ aops.length).s a w L C = AI N vm s0 L0 C0 w0 (τ aops.length).vs (τ p).s a w L C by rw [hst]]
  refine ⟨h.size, h.defers, h.rel, h.ext, fun i t hi => ?_⟩
  rcases vs_last hc hnd tr h0 hi aops.length (Nat.le_refl _) with ⟨h1, h2⟩ | ⟨k, h1, h2, h3, h4⟩
  · rw [h2]
    refine h.var i t hi fun k' hk' hd => ?_
    exact h1 k' (by rw [← hc.len]; exact dst_lt hd) hd
  · rcases h4 with h4 | h4
    · rw [h4]
      refine h.val k t (hall k (by rw [hc.len]; exact h1)) h2 fun k' _ hd => ?_
      rcases Nat.lt_trichotomy k' k with hlt | rfl | hgt
      · exact .inr (hc.wr k k' t h2 hd hlt)
      · exact .inl rfl
      · exact absurd hd (h3 k' hgt (by rw [← hc.len]; exact dst_lt hd))
    · rw [h4]; exact .undef _

theorem T_lt (hc : CkD P N vm ops aops chk T es) {i k : Nat} (hi : i < ops.size) (hk : k ∈ T.getD i []) : k < i := by
  obtain ⟨o, ho⟩ : ∃ o, ops[i]? = some o := ⟨_, Array.getElem?_eq_getElem hi⟩
  refine hc.good i o (by rw [hc.tlen]; exact hi) ho (fun y => y < i) (fun j oj hj hlt e he hb => ?_) (fun e he hb => hc.back i o ho e he hb) k hk
  have := hc.back j oj hj e he hb
  exact Nat.lt_trans this hlt

theorem DI.step {S : Array Bool} {p : Nat} {a : Act} {w : World} {L : Nat → Nat → Loc} {C : Cs} (hcall : CallOK P call) (hc : CkD P N vm ops aops chk T es) (tr : Trace call aops τ x)
    (h0 : (τ 0).ls = []) (h0v : (τ 0).vs = vs) (hnd : vm.Nodup)
    (hchk : ∀ i q o, (i, q) ∈ chk → aops[i]? = some o → ∃ s2, evOne noCall o (τ i).ls (τ i).vs (τ q).s = some (x i, s2))
    (h : DI N vm ops T es τ x vs s0 L0 C0 w0 S p a w L C) {j : Nat} (hj : j ∈ Region.ready .any ops S) {K : Act → World → Prop}
    (hK : ∀ p' a' w' L' C', DI N vm ops T es τ x vs s0 L0 C0 w0 (S.setIfInBounds j true) p' a' w' L' C' → K a' w') : wpOp P ops Q j K a w := by
  obtain ⟨hjun, o, ho, hdep⟩ := mem_ready.1 hj
  have hjn : j < ops.size := (Array.getElem?_eq_some_iff.1 ho).1
  rw [getD_ft h.sz hjn] at hjun
  obtain ⟨ao, hao⟩ : ∃ ao, aops[j]? = some ao := ⟨_, List.getElem?_eq_getElem (by rw [← hc.len]; exact hjn)⟩
  obtain ⟨hd, hg, hk, hrd⟩ := hc.one j o ao ho hao
  obtain ⟨hev, _, _⟩ := tr.one j ao hao
  obtain ⟨hll, hlx⟩ := ls_len tr h0 j (by rw [← hc.len]; omega)
  have hTS : ∀ y ∈ T.getD j [], S.getD y false = true := hc.good j o (by rw [hc.tlen]; exact hjn) ho _ h.shut hdep
  have hTk : ∀ k, S.getD k false = true → ∀ y ∈ T.getD k [], S.getD y false = true := fun k hk y hy => by
    have hkn := getD_lt h.sz hk
    obtain ⟨ok, hok⟩ : ∃ ok, ops[k]? = some ok := ⟨_, Array.getElem?_eq_getElem hkn⟩
    exact hc.good k ok (by rw [hc.tlen]; exact hkn) hok _ h.shut (h.shut k ok hok hk) y hy
  have hjS : ¬ S.getD j false = true := by rw [hjun]; simp
  -- the operands
  have hρ : ∀ y z, resD vm ops T j y z = true → VR (τ p).s L C w (rd (τ j).ls (τ j).vs z) (a.eval y) := by
    intro y z hyz
    unfold resD at hyz
    split at hyz
    · rename_i t k
      simp only [Bool.and_eq_true, decide_eq_true_eq, List.contains_eq_mem, List.all_eq_true, Bool.or_eq_true, beq_iff_eq, List.mem_range] at hyz
      obtain ⟨⟨h1, h2⟩, h3⟩ := hyz
      have hkj : k < j := T_lt hc hjn h1
      have : rd (τ j).ls (τ j).vs (.l k) = x k := hlx k hkj
      rw [this]
      refine h.val k t (hTS k h1) h2 fun k' hk' hd' => ?_
      rcases h3 k' (dst_lt hd') with (((h4 | h4) | h4) | h4) | h4
      · exact .inl h4
      · subst h4; exact absurd hk' hjS
      · exact absurd hd' h4
      · exact .inr h4
      · exact absurd (hTk k' hk' j h4) hjS
    · rename_i t i
      simp only [Bool.and_eq_true, decide_eq_true_eq, List.contains_eq_mem, List.all_eq_true, Bool.or_eq_true, beq_iff_eq, List.mem_range] at hyz
      obtain ⟨h1, h2⟩ := hyz
      have : rd (τ j).ls (τ j).vs (.v i) = vs.getD i .undef := by
        rcases vs_last hc hnd tr h0v h1 j (by rw [← hc.len]; omega) with ⟨_, h4⟩ | ⟨k, h3, h4, _, _⟩
        · exact h4
        · rcases h2 k (dst_lt h4) with (h5 | h5) | h5
          · omega
          · exact absurd h4 h5
          · have := T_lt hc (dst_lt h4) h5
            omega
      rw [this]
      refine h.var i t h1 fun k' hk' hd' => ?_
      rcases h2 k' (dst_lt hd') with (h5 | h5) | h5
      · subst h5; exact hjS hk'
      · exact h5 hd'
      · exact hjS (hTk k' hk' j h5)
    · exact resC_sound (fun _ => rfl) hyz
  -- where the operation stands
  have hplace : ∃ p', (p' ∈ es ∨ p' = ops.size) ∧ p' ≤ ops.size ∧ (∀ e ∈ es, (S.setIfInBounds j true).getD e false = true ↔ e < p') ∧ evOne call ao (τ j).ls (τ j).vs (τ p).s = some (x j, (τ p').s) := by
    cases heff : isEff ao.op with
    | true =>
      have hjes : j ∈ es := (hc.mem j).2 (by simp [effAt, hao, heff])
      have hpj : p = j := by
        have h1 : ¬ j < p := fun hlt => hjS ((h.pe j hjes).2 hlt)
        rcases h.pm with hp | hp
        · rcases Nat.lt_or_ge p j with hlt | hge
          · have := hTS p (hc.chain j hjes p hp hlt)
            have := (h.pe p hp).1 this
            omega
          · omega
        · omega
      subst hpj
      obtain ⟨p', g1, g2, g3, g4⟩ := next_above es p ops.size hjn
      have hesn : ∀ e ∈ es, e < ops.size := fun e he => by
        have := (hc.mem e).1 he
        rw [← mem_effs] at this
        unfold effs at this
        rw [List.mem_filter, List.mem_range] at this
        rw [hc.len]; exact this.1
      refine ⟨p', g1, g3, fun e he => ?_, ?_⟩
      · rw [getD_set_iff h.sz hjn, h.pe e he]
        constructor
        · rintro (h | rfl)
          · omega
          · exact g2
        · intro hlt
          rcases Nat.lt_trichotomy e p with h1 | h1 | h1
          · exact .inl h1
          · exact .inr h1
          · have := hesn e he
            rcases g4 e he h1 with h2 | h2 <;> omega
      · rw [st_eq tr (show p + 1 ≤ p' by omega) (by rw [← hc.len]; exact g3) fun e h1 h2 => ?_]
        · exact hev
        · cases he : effAt aops e with
          | false => rfl
          | true =>
            have he' := (hc.mem e).2 he
            have := hesn e he'
            rcases g4 e he' (by omega) with h3 | h3 <;> omega
    | false =>
      have hjes : j ∉ es := fun hm => by
        have := (hc.mem j).1 hm
        simp [effAt, hao, heff] at this
      refine ⟨p, h.pm, h.ple, fun e he => ?_, ?_⟩
      · rw [getD_set_iff h.sz hjn, h.pe e he]
        constructor
        · rintro (h | rfl)
          · exact h
          · exact absurd he hjes
        · exact .inl
      · have hq := quiet_one heff hev
        rcases hrd with h1 | h1 | h1
        · rw [heff] at h1; cases h1
        · exact pure_one heff h1 hev _
        · unfold ckRead at h1
          rw [List.all_eq_true] at h1
          have hmem : p ∈ es ++ [ops.size] := by
            rw [List.mem_append, List.mem_singleton]; exact h.pm
          have h2 := h1 p hmem
          simp only [Bool.or_eq_true, List.any_eq_true, Bool.and_eq_true, decide_eq_true_eq, List.contains_eq_mem, List.all_eq_true, Bool.not_eq_true', Bool.or_eq_false_iff, Bool.and_eq_false_iff, decide_eq_false_iff_not] at h2
          rcases h2 with ((⟨e, he, h3, h4⟩ | ⟨e, he, h3, h4⟩) | h3) | h3
          · exact absurd (hTk e ((h.pe e he).2 h3) j h4) hjS
          · have := (h.pe e he).1 (hTS e h4)
            omega
          · obtain ⟨s2, h4⟩ := hchk j p ao h3 hao
            rw [quiet_one heff h4] at h4
            exact evOne_mono (c := noCall) (c' := call) (fun _ _ _ _ e => by cases e) h4
          · have hst : (τ p).s = (τ j).s := by
              rcases Nat.le_total p j with hpj | hpj
              · refine (st_eq tr hpj (by rw [← hc.len]; omega) fun e h4 h5 => ?_).symm
                cases he : effAt aops e with
                | false => rfl
                | true =>
                  have := (h3 e ((hc.mem e).2 he)).1
                  omega
              · refine st_eq tr hpj (by rw [← hc.len]; exact h.ple) fun e h4 h5 => ?_
                cases he : effAt aops e with
                | false => rfl
                | true =>
                  have := (h3 e ((hc.mem e).2 he)).2
                  omega
            rw [hst]
            rw [hq] at hev
            exact hev
  obtain ⟨p', q1, q2, q3, q4⟩ := hplace
  refine one_sound hcall h.rel hρ hg hk q4 ho fun u w' hp => ?_
  obtain ⟨L', C', hv, hR', hE'⟩ := hp
  have hE0 : Ext (s0.low.length + 1) (τ p).s L C w (τ p').s L' C' w' := by have := h.ext.depth; rw [← this]; exact hE'
  have hdj : dstOf ops j = o.dst := by simp [dstOf, ho]
  have hdN : ∀ t, o.dst = some t → t < a.tmps.size := by
    intro t ht
    unfold ckDst at hd
    rw [ht] at hd
    simp only [Bool.and_eq_true, decide_eq_true_eq] at hd
    rw [h.size]
    exact hd.1
  have hset : ∀ k, (S.setIfInBounds j true).getD k false = true ↔ S.getD k false = true ∨ k = j := fun k => getD_set_iff h.sz hjn
  refine hK p' _ w' L' C' ⟨by simp [h.sz], ?_, q1, q2, q3, by rw [put_size]; exact h.size, by rw [put_defers']; exact h.defers, hR', h.ext.trans hE0, ?_, ?_⟩
  · intro i oi hoi hi e he hb
    rw [hset] at hi ⊢
    rcases hi with hi | rfl
    · exact .inl (h.shut i oi hoi hi e he hb)
    · rw [ho] at hoi
      obtain rfl := Option.some.inj hoi
      exact .inl (hdep e he hb)
  · intro k t hk hdk hall
    rw [hset] at hk
    by_cases hkj : k = j
    · subst hkj
      rw [hdj] at hdk
      rw [hdk, put_same (hdN t hdk)]
      exact hv
    · have hkS : S.getD k false = true := hk.resolve_right hkj
      have hne : o.dst ≠ some t := fun hot => by
        rcases hall j ((hset j).2 (.inr rfl)) (by rw [hdj]; exact hot) with h1 | h1
        · exact hkj h1.symm
        · exact hjS (hTk k hkS j h1)
      rw [put_other hne]
      exact (h.val k t hkS hdk fun k' hk' hd' => hall k' ((hset k').2 (.inl hk')) hd').keep hE'
  · intro i t hi hno
    have hne : o.dst ≠ some t := by
      have := hno j ((hset j).2 (.inr rfl))
      rwa [hdj] at this
    rw [put_other hne]
    exact (h.var i t hi fun k' hk' => hno k' ((hset k').2 (.inl hk'))).keep hE'

theorem ready_nil {S : Array Bool} (hc : CkD P N vm ops aops chk T es) (hsz : S.size = ops.size) (h : Region.ready .any ops S = []) : ∀ i, i < ops.size → S.getD i false = true := by
  intro i
  induction i using Nat.strongRecOn with
  | _ i ih =>
    intro hi
    cases hS : S.getD i false with
    | true => rfl
    | false =>
      obtain ⟨o, ho⟩ : ∃ o, ops[i]? = some o := ⟨_, Array.getElem?_eq_getElem hi⟩
      have : i ∈ Region.ready .any ops S := mem_ready.2 ⟨by rw [getD_ft hsz hi]; exact hS, o, ho, fun e he hb => by
        have := hc.back i o ho e he hb
        exact ih e.on this (by omega)⟩
      rw [h] at this
      cases this

theorem drawn_all (hcall : CallOK P call) (hc : CkD P N vm ops aops chk T es) (tr : Trace call aops τ x) (h0 : (τ 0).ls = []) (h0v : (τ 0).vs = vs) (hnd : vm.Nodup)
    (hchk : ∀ i q o, (i, q) ∈ chk → aops[i]? = some o → ∃ s2, evOne noCall o (τ i).ls (τ i).vs (τ q).s = some (x i, s2))
    (hQ : ∀ a w L C, AI N vm s0 L0 C0 w0 (τ aops.length).vs (τ aops.length).s a w L C → Q .normal a w) :
    ∀ (fuel : Nat) (l : List Nat) (S : Array Bool) (p : Nat) (a : Act) (w : World) (L : Nat → Nat → Loc) (C : Cs), DI N vm ops T es τ x vs s0 L0 C0 w0 S p a w L C → l.Nodup →
      (∀ j, j < ops.size → S.getD j false = false → j ∈ l) → l.length ≤ fuel → wpAny P .any ops Q fuel S a w
  | 0, l, S, p, a, w, L, C, hD, hln, hl, hf => by
    have hl0 : l = [] := List.eq_nil_of_length_eq_zero (by omega)
    subst hl0
    have hall : ∀ i, i < ops.size → S.getD i false = true := fun i hi => by
      cases hS : S.getD i false with
      | true => rfl
      | false => exact absurd (hl i hi hS) (by simp)
    refine ⟨?_, hQ a w L C (hD.done hc hnd tr h0v hall)⟩
    cases hr : Region.ready .any ops S with
    | nil => rfl
    | cons j r =>
      have hj : j ∈ Region.ready .any ops S := by rw [hr]; simp
      obtain ⟨h1, o, ho, _⟩ := mem_ready.1 hj
      have hjn : j < ops.size := (Array.getElem?_eq_some_iff.1 ho).1
      rw [getD_ft hD.sz hjn, hall j hjn] at h1
      cases h1
  | fuel + 1, l, S, p, a, w, L, C, hD, hln, hl, hf => by
    refine ⟨fun hr => hQ a w L C (hD.done hc hnd tr h0v (ready_nil hc hD.sz hr)), fun j hj => ?_⟩
    obtain ⟨h1, o, ho, _⟩ := mem_ready.1 hj
    have hjn : j < ops.size := (Array.getElem?_eq_some_iff.1 ho).1
    rw [getD_ft hD.sz hjn] at h1
    have hjl := hl j hjn h1
    refine hD.step hcall hc tr h0 h0v hnd hchk hj fun p' a' w' L' C' hD' => ?_
    refine drawn_all hcall hc tr h0 h0v hnd hchk hQ fuel (l.erase j) _ p' a' w' L' C' hD' (hln.erase j) (fun k hk hS => ?_) (by rw [List.length_erase_of_mem hjl]; omega)
    have hkj : k ≠ j := fun e => by
      rw [e, getD_set_self hD.sz hjn] at hS
      cases hS
    rw [getD_set_ne false (Ne.symm hkj)] at hS
    exact (List.mem_erase_of_ne hkj).2 (hl k hk hS)

theorem drawn_sound {a : Act} {w : World} {L : Nat → Nat → Loc} {C : Cs} (hcall : CallOK P call) (hnd : vm.Nodup) (hck : ckRegD P N vm ops aops chk = true) (tr : Trace call aops τ x)
    (h0 : τ 0 = ⟨[], vs, s0⟩)
    (hchk : ∀ i q o, (i, q) ∈ chk → aops[i]? = some o → ∃ s2, evOne noCall o (τ i).ls (τ i).vs (τ q).s = some (x i, s2))
    (hQ : ∀ a' w' L' C', AI N vm s0 L C w (τ aops.length).vs (τ aops.length).s a' w' L' C' → Q .normal a' w')
    (hN : a.tmps.size = N) (hdf : a.defers = []) (hR : SR s0 L C w) (hT : TR vm vs s0 L C w a) : wpAny P .any ops Q ops.size (Array.replicate ops.size false) a w := by
  obtain ⟨T, es, hc⟩ := ckRegD_spec hck
  have hrep : ∀ i, (Array.replicate ops.size false).getD i false = false := by
    intro i
    simp only [Array.getD_eq_getD_getElem?, Array.getElem?_replicate]
    split <;> rfl
  have hno : ∀ i, ¬ (Array.replicate ops.size false).getD i false = true := fun i => by rw [hrep i]; simp
  obtain ⟨p, q1, q2, q3, q4⟩ : ∃ p, (p ∈ es ∨ p = ops.size) ∧ True ∧ p ≤ ops.size ∧ ∀ e ∈ es, ¬ e < p := by
    have hesn : ∀ e ∈ es, e < ops.size := fun e he => by
      have := (hc.mem e).1 he
      rw [← mem_effs] at this
      unfold effs at this
      rw [List.mem_filter, List.mem_range] at this
      rw [hc.len]; exact this.1
    by_cases hz : 0 ∈ es
    · exact ⟨0, .inl hz, trivial, Nat.zero_le _, fun e _ => by omega⟩
    · rcases Nat.eq_zero_or_pos ops.size with hn | hn
      · exact ⟨ops.size, .inr rfl, trivial, Nat.le_refl _, fun e _ => by omega⟩
      · obtain ⟨p, g1, g2, g3, g4⟩ := next_above es 0 ops.size hn
        refine ⟨p, g1, trivial, g3, fun e he hlt => ?_⟩
        have h1 : 0 < e := Nat.pos_of_ne_zero fun h0 => hz (h0 ▸ he)
        have := hesn e he
        rcases g4 e he h1 with h2 | h2 <;> omega
  have hst : (τ p).s = s0 := by
    rw [st_eq tr (Nat.zero_le p) (by rw [← hc.len]; exact q3) fun e _ h2 => ?_, h0]
    cases he : effAt aops e with
    | false => rfl
    | true => exact absurd h2 (q4 e ((hc.mem e).2 he))
  refine drawn_all (s0 := s0) (L0 := L) (C0 := C) (w0 := w) hcall hc tr (by rw [h0]) (by rw [h0]) hnd hchk hQ ops.size (List.range ops.size) _ p a w L C ?_ List.nodup_range (fun j hj _ => List.mem_range.2 hj) (by simp)
  refine ⟨by simp, fun i o _ hi => absurd hi (hno i), q1, q3, fun e he => ?_, hN, hdf, by rw [hst]; exact hR, by rw [hst]; exact .refl _, fun k t hk => absurd hk (hno k), fun i t hi _ => by rw [hst]; exact hT i t hi⟩
  constructor
  · intro h; exact absurd h (hno e)
  · intro h; exact absurd h (q4 e he)
end
end Go.Proofs.YthogcanomihelaaDoor.Ae
