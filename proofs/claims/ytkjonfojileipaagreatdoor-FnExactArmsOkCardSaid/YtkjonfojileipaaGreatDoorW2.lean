/- Regions whose order is drawn: the check, and that it is sound. Statements, functions, calls: what the evaluator gives is what the machine does. Functions and calls: what the evaluator gives, with whatever fuel, is what the machine does. Tables of functions. A law over one slice of bytes: from the evaluator's answer to the call. Stepping through the evaluator by simp: the store seen from a frame. Stepping through the evaluator a step at a time: one rule for each statement and operation. Walking the evaluator forward: what is asked of the end goes along; one rule for each statement and operation, truth values are taken apart where they arise. Walking in few words: the steps' own proofs stand here once, as what is proved where nothing is given. Walking in fewer words: which rule serves is found by the lemma's own default proof. Lists of things that lie in rows of cells; bytes; loops over them. The laws' own functions over slices: how great they are, their copies, whether two are alike: one proof for each shape. Sources as data: types, datas, expressions; the cells in which they lie; how great they are. MADE BY PROGRAM (mksc.py): strings as lists of numbers; slices.IndexFunc, ContainsFunc, Index and Contains, one proof for each shape. Buffers at the depth 0: what is appended to them lies there; the store seen from a frame over them. The texts of types, expressions and sources, as lists of numbers; how long they are. Slices that are built in a frame, wherever they lie in it. The library functions that are taken by their contracts: strconv.Itoa, strings.Fields, two methods of strings.Builder. -/
import Derived.Test.YtkjonfojileipaaGreatDoorW1
import Derived.Scope
import Derived.LoopN
import Derived.ProofKit
import Derived.Lib.ItoaLen
import Derived.Lib.ItoaNum
import Derived.Shelf.Strings.Fields
set_option linter.unusedSimpArgs false
set_option linter.unusedVariables false
namespace Go.Proofs.YtkjonfojileipaaGreatDoor.Ae
open Go
def resD (vm : List Nat) (ops : Array Oper) (T : List (List Nat)) (j : Nat) (x : Operand) (y : Opd) : Bool :=
  match x, y with
  | .tmp t, .l k => (T.getD j []).contains k && decide (dstOf ops k = some t) &&
      (List.range ops.size).all fun k' => (k' == k) || (k' == j) || decide (dstOf ops k' ≠ some t) || (T.getD k []).contains k' || (T.getD k' []).contains j
  | .tmp t, .v i => decide (vm[i]? = some t) && (List.range ops.size).all fun k' => (k' == j) || decide (dstOf ops k' ≠ some t) || (T.getD k' []).contains j
  | x, y => resC x y
def effAt (aops : List AO) (e : Nat) : Bool := match aops[e]? with | some o => isEff o.op | none => false
def effs (aops : List AO) : List Nat := (List.range aops.length).filter (effAt aops)
def ckRead (T : List (List Nat)) (es : List Nat) (n : Nat) (chk : List (Nat × Nat)) (i : Nat) : Bool := (es ++ [n]).all fun p =>
  es.any (fun e => decide (e < p) && (T.getD e []).contains i) || es.any (fun e => decide (p ≤ e) && (T.getD i []).contains e) || chk.contains (i, p) ||
    es.all fun e => !((decide (p ≤ e) && decide (e < i)) || (decide (i ≤ e) && decide (e < p)))
def ckOneD (P : Program) (N : Nat) (vm : List Nat) (ops : Array Oper) (T : List (List Nat)) (es : List Nat) (n : Nat) (chk : List (Nat × Nat)) (j : Nat) (o : Oper) (ao : AO) : Bool :=
  ckDst N vm o ao && ckGuard (resD vm ops T j) ops o ao && ckAct (resD vm ops T j) P o.op ao.op && (isEff ao.op || !(isRead ao.op) || ckRead T es n chk j) &&
    (o.after.toList.all fun e => !(Region.binds .any e) || decide (e.on < j)) &&
    ((List.range ops.size).all fun k => !(decide (k < j)) || o.dst.isNone || decide (dstOf ops k ≠ o.dst) || (T.getD j []).contains k)
def cpL {α : Type} : List α → (List α → Bool) → Bool
  | [], k => k []
  | x :: r, k => cpL r fun r' => k (x :: r')
def cpLL {α : Type} : List (List α) → (List (List α) → Bool) → Bool
  | [], k => k []
  | x :: r, k => cpL x fun x' => cpLL r fun r' => k (x' :: r')
theorem cpL_eq {α : Type} : ∀ (l : List α) (k : List α → Bool), cpL l k = k l
  | [], _ => rfl
  | x :: r, k => by simp only [cpL]; rw [cpL_eq r]
theorem cpLL_eq {α : Type} : ∀ (l : List (List α)) (k : List (List α) → Bool), cpLL l k = k l
  | [], _ => rfl
  | x :: r, k => by simp only [cpLL]; rw [cpL_eq, cpLL_eq r]
def ckRegD (P : Program) (N : Nat) (vm : List Nat) (ops : Array Oper) (aops : List AO) (chk : List (Nat × Nat)) : Bool :=
  (ops.size == aops.length) && cpLL (ancs ops.toList []) fun T => cpL (effs aops) fun es =>
    (es.all fun e => es.all fun e' => !(decide (e' < e)) || (T.getD e []).contains e') &&
    (List.range ops.size).all fun j => match ops[j]?, aops[j]? with | some o, some ao => ckOneD P N vm ops T es ops.size chk j o ao | _, _ => false

theorem getD_ft {S : Array Bool} {n j : Nat} (h : S.size = n) (hj : j < n) : S.getD j true = S.getD j false := by
  simp [Array.getD_eq_getD_getElem?, Array.getElem?_eq_getElem (show j < S.size by omega)]
theorem getD_set_self {S : Array Bool} {n j : Nat} (h : S.size = n) (hj : j < n) : (S.setIfInBounds j true).getD j false = true := by
  simp [Array.getD_eq_getD_getElem?, show j < S.size by omega]
theorem getD_set_iff {S : Array Bool} {n j k : Nat} (h : S.size = n) (hj : j < n) : (S.setIfInBounds j true).getD k false = true ↔ S.getD k false = true ∨ k = j := by
  by_cases hk:j = k
  · subst hk; simp [getD_set_self h hj]
  · rw [getD_set_ne false hk]
    constructor
    · exact .inl
    · rintro (h | rfl)
      · exact h
      · exact absurd rfl hk
theorem getD_lt {S : Array Bool} {n j : Nat} (h : S.size = n) (hj : S.getD j false = true) : j < n := by
  rcases Nat.lt_or_ge j S.size with h1 | h1
  · omega
  · simp [Array.getD_eq_getD_getElem?, Array.getElem?_eq_none h1] at hj

theorem next_above (l : List Nat) (j n : Nat) (h : j < n) : ∃ p, (p ∈ l ∨ p = n) ∧ j < p ∧ p ≤ n ∧ ∀ e ∈ l, j < e → p ≤ e ∨ n < e := by
  induction l with
  | nil => exact ⟨n, .inr rfl, h, Nat.le_refl _, fun e he => by cases he⟩
  | cons x r ih =>
    obtain ⟨p,h1,h2,h3,h4⟩:=ih
    by_cases hx:j < x∧x < p
    · refine ⟨x, .inl (by simp), hx.1, by omega, fun e he hje => ?_⟩
      rcases List.mem_cons.1 he with rfl | he
      · exact .inl (Nat.le_refl _)
      · rcases h4 e he hje with h | h
        · exact .inl (by omega)
        · exact .inr h
    · refine ⟨p, h1.imp (fun h => List.mem_cons_of_mem _ h) id, h2, h3, fun e he hje => ?_⟩
      rcases List.mem_cons.1 he with rfl | he
      · exact .inl (by omega)
      · exact h4 e he hje

section
variable {P : Program} {call : CallT} {N : Nat} {vm : List Nat} {ops : Array Oper} {aops : List AO} {chk : List (Nat × Nat)} {Q : Exit → Act → World → Prop} {s0 : Store} {L0 : Nat → Nat → Loc} {C0 : Cs} {w0 : World}
  {τ : Nat → Tr} {x : Nat → AV} {T : List (List Nat)} {es : List Nat} {vs : List AV}

theorem mem_effs {e : Nat} : e ∈ effs aops ↔ effAt aops e = true := by
  unfold effs
  rw [List.mem_filter,List.mem_range]
  constructor
  · exact fun h => h.2
  · intro h
    refine ⟨?_,h⟩
    unfold effAt at h
    split at h
    · rename_i o ho; exact (List.getElem?_eq_some_iff.1 ho).1
    · cases h

theorem st_const (tr : Trace call aops τ x) : ∀ (d p : Nat), p + d ≤ aops.length → (∀ e, p ≤ e → e < p + d → effAt aops e = false) → (τ (p + d)).s = (τ p).s
  | 0, p, _, _ => rfl
  | d + 1, p, hle, h => by
    have h1:=st_const tr d p (by omega) fun e h1 h2=>h e h1 (by omega)
    obtain ⟨o,ho⟩:∃ o,aops[p + d]? = some o:=⟨_,List.getElem?_eq_getElem (by omega)⟩
    obtain ⟨h2,_,_⟩:=tr.one _ o ho
    have h3:=h (p + d) (by omega) (by omega)
    simp only [effAt,ho] at h3
    have h4:=quiet_one h3 h2
    rw [← h1,← Nat.add_assoc]
    exact h4
theorem st_eq (tr : Trace call aops τ x) {p q : Nat} (hpq : p ≤ q) (hq : q ≤ aops.length) (h : ∀ e, p ≤ e → e < q → effAt aops e = false) : (τ q).s = (τ p).s := by
  obtain ⟨d,rfl⟩:=Nat.exists_eq_add_of_le hpq
  exact st_const tr d p hq h

theorem ls_len (tr : Trace call aops τ x) (h0 : (τ 0).ls = []) : ∀ j, j ≤ aops.length → (τ j).ls.length = j ∧ ∀ k, k < j → (τ j).ls.getD k .undef = x k
  | 0, _ => ⟨by rw [h0]; rfl, fun k h => by omega⟩
  | j + 1, hj => by
    obtain ⟨o,ho⟩:∃ o,aops[j]? = some o:=⟨_,List.getElem?_eq_getElem (by omega)⟩
    obtain ⟨_,h2,_⟩:=tr.one _ o ho
    obtain ⟨h3,h4⟩:=ls_len tr h0 j (by omega)
    rw [h2]
    refine ⟨by simp [h3],fun k hk=>?_⟩
    rcases Nat.lt_or_ge k j with h5 | h5
    · rw [List.getD_eq_getElem?_getD, List.getElem?_append_left (by omega), ← List.getD_eq_getElem?_getD]
      exact h4 k h5
    · obtain rfl : k = j := by omega
      simp [List.getD_eq_getElem?_getD, h3]

structure CkD (P : Program) (N : Nat) (vm : List Nat) (ops : Array Oper) (aops : List AO) (chk : List (Nat × Nat)) (T : List (List Nat)) (es : List Nat) : Prop where
  len : ops.size = aops.length
  mem : ∀ e, e ∈ es ↔ effAt aops e = true
  good : Good ops T
  tlen : T.length = ops.size
  chain : ∀ e ∈ es, ∀ e' ∈ es, e' < e → e' ∈ T.getD e []
  one : ∀ (j : Nat) (o : Oper) (ao : AO), ops[j]? = some o → aops[j]? = some ao → ckDst N vm o ao = true ∧ ckGuard (resD vm ops T j) ops o ao = true ∧ ckAct (resD vm ops T j) P o.op ao.op = true ∧
    (isEff ao.op = true ∨ isRead ao.op = false ∨ ckRead T es ops.size chk j = true)
  back : ∀ (j : Nat) (o : Oper), ops[j]? = some o → ∀ e ∈ o.after, Region.binds .any e = true → e.on < j
  wr : ∀ j k t, dstOf ops j = some t → dstOf ops k = some t → k < j → k ∈ T.getD j []

theorem dst_lt {k t : Nat} (h : dstOf ops k = some t) : k < ops.size := by
  unfold dstOf at h
  rcases Nat.lt_or_ge k ops.size with hl | hl
  · exact hl
  · rw [Array.getElem?_eq_none hl] at h; cases h

theorem ckRegD_spec (h : ckRegD P N vm ops aops chk = true) : ∃ T es, CkD P N vm ops aops chk T es := by
  unfold ckRegD at h
  simp only [cpL_eq,cpLL_eq,Bool.and_eq_true,beq_iff_eq] at h
  obtain ⟨hlen,hch,hall⟩:=h
  rw [List.all_eq_true] at hall
  obtain ⟨hg,htl⟩:=ancs_ok ops
  have hone:∀ (j:Nat) (o:Oper) (ao:AO),ops[j]? = some o→aops[j]? = some ao→ckOneD P N vm ops (ancs ops.toList []) (effs aops) ops.size chk j o ao = true:=by
    intro j o ao ho hao
    have:=hall j (List.mem_range.2 (Array.getElem?_eq_some_iff.1 ho).1)
    simpa only [ho, hao] using this
  have hex:∀ (j:Nat) (o:Oper),ops[j]? = some o→∃ ao,aops[j]? = some ao:=by
    intro j o ho
    have:j < ops.size:=(Array.getElem?_eq_some_iff.1 ho).1
    exact ⟨_,List.getElem?_eq_getElem (by omega)⟩
  refine ⟨ancs ops.toList [],effs aops,hlen,fun e=>mem_effs,hg,htl,?_,?_,?_,?_⟩
  · intro e he e' he' hlt
    rw [List.all_eq_true] at hch
    have:=hch e he
    rw [List.all_eq_true] at this
    have:=this e' he'
    simpa [hlt] using this
  · intro j o ao ho hao
    have:=hone j o ao ho hao
    simp only [ckOneD,Bool.and_eq_true,Bool.or_eq_true,Bool.not_eq_true'] at this
    obtain ⟨⟨⟨⟨⟨h1,h2⟩,h3⟩,h4⟩,_⟩,_⟩:=this
    exact ⟨h1,h2,h3,by rcases h4 with (h4 | h4) | h4 <;> simp [h4]⟩
  · intro j o ho e he hb
    obtain ⟨ao,hao⟩:=hex j o ho
    have:=hone j o ao ho hao
    simp only [ckOneD,Bool.and_eq_true,List.all_eq_true] at this
    have:=this.1.2 e (by simpa using he)
    simpa [hb] using this
  · intro j k t hj hk hlt
    obtain ⟨o,ho,hd⟩:∃ o,ops[j]? = some o∧o.dst = some t:=by
      unfold dstOf at hj
      cases ho : ops[j]? with
      | none => rw [ho] at hj; cases hj
      | some o => rw [ho] at hj; exact ⟨o, rfl, hj⟩
    obtain ⟨ao,hao⟩:=hex j o ho
    have:=hone j o ao ho hao
    simp only [ckOneD,Bool.and_eq_true,List.all_eq_true] at this
    have:=this.2 k (List.mem_range.2 (dst_lt hk))
    simpa [hlt, hd, hk] using this

structure DI (N : Nat) (vm : List Nat) (ops : Array Oper) (T : List (List Nat)) (es : List Nat) (τ : Nat → Tr) (x : Nat → AV) (vs : List AV) (s0 : Store) (L0 : Nat → Nat → Loc) (C0 : Cs) (w0 : World)
    (S : Array Bool) (p : Nat) (a : Act) (w : World) (L : Nat → Nat → Loc) (C : Cs) : Prop where
  sz : S.size = ops.size
  shut : Shut ops fun i => S.getD i false = true
  pm : p ∈ es ∨ p = ops.size
  ple : p ≤ ops.size
  pe : ∀ e ∈ es, S.getD e false = true ↔ e < p
  size : a.tmps.size = N
  defers : a.defers = []
  rel : SR (τ p).s L C w
  ext : Ext (s0.low.length + 1) s0 L0 C0 w0 (τ p).s L C w
  val : ∀ k t, S.getD k false = true → dstOf ops k = some t → (∀ k', S.getD k' false = true → dstOf ops k' = some t → k' = k ∨ k' ∈ T.getD k []) → VR (τ p).s L C w (x k) (a.tmps.getD t undef)
  var : ∀ i t, vm[i]? = some t → (∀ k', S.getD k' false = true → dstOf ops k' ≠ some t) → VR (τ p).s L C w (vs.getD i .undef) (a.tmps.getD t undef)

theorem vs_last (hc : CkD P N vm ops aops chk T es) (hnd : vm.Nodup) (tr : Trace call aops τ x) (h0 : (τ 0).vs = vs) {i t : Nat} (hi : vm[i]? = some t) : ∀ m, m ≤ aops.length →
    ((∀ k, k < m → dstOf ops k ≠ some t) ∧ (τ m).vs.getD i .undef = vs.getD i .undef) ∨
    ∃ k, k < m ∧ dstOf ops k = some t ∧ (∀ k', k < k' → k' < m → dstOf ops k' ≠ some t) ∧ ((τ m).vs.getD i .undef = x k ∨ (τ m).vs.getD i .undef = .undef)
  | 0, _ => .inl ⟨fun k h => by omega, by rw [h0]⟩
  | m + 1, hm => by
    have ih:=vs_last hc hnd tr h0 hi m (by omega)
    have hmo:m < ops.size:=by have:=hc.len; omega
    obtain ⟨o,ho⟩:∃ o,ops[m]? = some o:=⟨_,Array.getElem?_eq_getElem hmo⟩
    obtain ⟨ao,hao⟩:∃ ao,aops[m]? = some ao:=⟨_,List.getElem?_eq_getElem (by omega)⟩
    obtain ⟨_,_,hvs⟩:=tr.one m ao hao
    obtain ⟨hd,_,_,_⟩:=hc.one m o ao ho hao
    have hdm:dstOf ops m = o.dst:=by simp [dstOf,ho]
    unfold ckDst at hd
    by_cases hdt:o.dst = some t
    · rw [hdt] at hd
      simp only [Bool.and_eq_true,decide_eq_true_eq] at hd
      refine .inr ⟨m,by omega,by rw [hdm,hdt],fun k' h1 h2=>by omega,?_⟩
      cases hdv : ao.dv with
      | none =>
        rw [hdv] at hd
        simp only [Bool.not_eq_true',List.contains_eq_mem,decide_eq_false_iff_not] at hd
        exact absurd (List.mem_of_getElem? hi) hd.2
      | some i' =>
        rw [hdv] at hd
        simp only [decide_eq_true_eq] at hd
        have hii:i' = i:=(List.getElem?_inj (List.getElem?_eq_some_iff.1 hd.2).1 hnd).1 (hd.2.trans hi.symm)
        subst hii
        rw [hvs,hdv]
        simp only [putV,getD_set,if_true]
        split
        · exact .inl rfl
        · exact .inr rfl
    · have hsame : (τ (m + 1)).vs.getD i .undef = (τ m).vs.getD i .undef := by
        rw [hvs]
        cases hdv : ao.dv with
        | none => rfl
        | some i' =>
          rw [hdv] at hd
          cases hdst : o.dst with
          | none => rw [hdst] at hd; simp at hd
          | some d =>
            rw [hdst] at hd
            simp only [Bool.and_eq_true,decide_eq_true_eq] at hd
            have hne:i' ≠ i:=fun e=>hdt (by rw [e,hi] at hd; rw [hdst,hd.2])
            simp only [putV,getD_set,if_neg hne]
      rcases ih with ⟨h1, h2⟩ | ⟨k, h1, h2, h3, h4⟩
      · refine .inl ⟨fun k hk => ?_, hsame.trans h2⟩
        rcases Nat.lt_or_ge k m with h | h
        · exact h1 k h
        · obtain rfl : k = m := by omega
          rw [hdm]; exact hdt
      · refine .inr ⟨k, by omega, h2, fun k' h5 h6 => ?_, by rw [hsame]; exact h4⟩
        rcases Nat.lt_or_ge k' m with h | h
        · exact h3 k' h5 h
        · obtain rfl : k' = m := by omega
          rw [hdm]; exact hdt

theorem DI.done {S : Array Bool} {p : Nat} {a : Act} {w : World} {L : Nat → Nat → Loc} {C : Cs} (hc : CkD P N vm ops aops chk T es) (hnd : vm.Nodup) (tr : Trace call aops τ x) (h0 : (τ 0).vs = vs)
    (h : DI N vm ops T es τ x vs s0 L0 C0 w0 S p a w L C) (hall : ∀ i, i < ops.size → S.getD i false = true) : AI N vm s0 L0 C0 w0 (τ aops.length).vs (τ aops.length).s a w L C := by
  have hle:p ≤ aops.length:=by rw [← hc.len]; exact h.ple
  have hst:(τ aops.length).s = (τ p).s:=st_eq tr hle (Nat.le_refl _) fun e h1 h2=>by
    cases he : effAt aops e with
    | false => rfl
    | true =>
      have:=(h.pe e ((hc.mem e).2 he)).1 (hall e (by rw [hc.len]; exact h2))
      omega
  rw [show AI N vm s0 L0 C0 w0 (τ aops.length).vs (τ aops.length).s a w L C = AI N vm s0 L0 C0 w0 (τ aops.length).vs (τ p).s a w L C by rw [hst]]
  refine ⟨h.size,h.defers,h.rel,h.ext,fun i t hi=>?_⟩
  rcases vs_last hc hnd tr h0 hi aops.length (Nat.le_refl _) with ⟨h1, h2⟩ | ⟨k, h1, h2, h3, h4⟩
  · rw [h2]
    refine h.var i t hi fun k' hk' hd=>?_
    exact h1 k' (by rw [← hc.len]; exact dst_lt hd) hd
  · rcases h4 with h4 | h4
    · rw [h4]
      refine h.val k t (hall k (by rw [hc.len]; exact h1)) h2 fun k' _ hd=>?_
      rcases Nat.lt_trichotomy k' k with hlt | rfl | hgt
      · exact .inr (hc.wr k k' t h2 hd hlt)
      · exact .inl rfl
      · exact absurd hd (h3 k' hgt (by rw [← hc.len]; exact dst_lt hd))
    · rw [h4]; exact .undef _

theorem T_lt (hc : CkD P N vm ops aops chk T es) {i k : Nat} (hi : i < ops.size) (hk : k ∈ T.getD i []) : k < i := by
  obtain ⟨o,ho⟩:∃ o,ops[i]? = some o:=⟨_,Array.getElem?_eq_getElem hi⟩
  refine hc.good i o (by rw [hc.tlen]; exact hi) ho (fun y=>y < i) (fun j oj hj hlt e he hb=>?_) (fun e he hb=>hc.back i o ho e he hb) k hk
  have:=hc.back j oj hj e he hb
  exact Nat.lt_trans this hlt

theorem DI.step {S : Array Bool} {p : Nat} {a : Act} {w : World} {L : Nat → Nat → Loc} {C : Cs} (hcall : CallOK P call) (hc : CkD P N vm ops aops chk T es) (tr : Trace call aops τ x)
    (h0 : (τ 0).ls = []) (h0v : (τ 0).vs = vs) (hnd : vm.Nodup)
    (hchk : ∀ i q o, (i, q) ∈ chk → aops[i]? = some o → ∃ s2, evOne noCall o (τ i).ls (τ i).vs (τ q).s = some (x i, s2))
    (h : DI N vm ops T es τ x vs s0 L0 C0 w0 S p a w L C) {j : Nat} (hj : j ∈ Region.ready .any ops S) {K : Act → World → Prop}
    (hK : ∀ p' a' w' L' C', DI N vm ops T es τ x vs s0 L0 C0 w0 (S.setIfInBounds j true) p' a' w' L' C' → K a' w') : wpOp P ops Q j K a w := by
  obtain ⟨hjun,o,ho,hdep⟩:=mem_ready.1 hj
  have hjn:j < ops.size:=(Array.getElem?_eq_some_iff.1 ho).1
  rw [getD_ft h.sz hjn] at hjun
  obtain ⟨ao,hao⟩:∃ ao,aops[j]? = some ao:=⟨_,List.getElem?_eq_getElem (by rw [← hc.len]; exact hjn)⟩
  obtain ⟨hd,hg,hk,hrd⟩:=hc.one j o ao ho hao
  obtain ⟨hev,_,_⟩:=tr.one j ao hao
  obtain ⟨hll,hlx⟩:=ls_len tr h0 j (by rw [← hc.len]; omega)
  have hTS:∀ y ∈ T.getD j [],S.getD y false = true:=hc.good j o (by rw [hc.tlen]; exact hjn) ho _ h.shut hdep
  have hTk:∀ k,S.getD k false = true→∀ y ∈ T.getD k [],S.getD y false = true:=fun k hk y hy=>by
    have hkn:=getD_lt h.sz hk
    obtain ⟨ok,hok⟩:∃ ok,ops[k]? = some ok:=⟨_,Array.getElem?_eq_getElem hkn⟩
    exact hc.good k ok (by rw [hc.tlen]; exact hkn) hok _ h.shut (h.shut k ok hok hk) y hy
  have hjS:¬ S.getD j false = true:=by rw [hjun]; simp
  -- the operands
  have hρ:∀ y z,resD vm ops T j y z = true→VR (τ p).s L C w (rd (τ j).ls (τ j).vs z) (a.eval y):=by
    intro y z hyz
    unfold resD at hyz
    split at hyz
    · rename_i t k
      simp only [Bool.and_eq_true,decide_eq_true_eq,List.contains_eq_mem,List.all_eq_true,Bool.or_eq_true,beq_iff_eq,List.mem_range] at hyz
      obtain ⟨⟨h1,h2⟩,h3⟩:=hyz
      have hkj:k < j:=T_lt hc hjn h1
      have:rd (τ j).ls (τ j).vs (.l k) = x k:=hlx k hkj
      rw [this]
      refine h.val k t (hTS k h1) h2 fun k' hk' hd'=>?_
      rcases h3 k' (dst_lt hd') with (((h4 | h4) | h4) | h4) | h4
      · exact .inl h4
      · subst h4; exact absurd hk' hjS
      · exact absurd hd' h4
      · exact .inr h4
      · exact absurd (hTk k' hk' j h4) hjS
    · rename_i t i
      simp only [Bool.and_eq_true,decide_eq_true_eq,List.contains_eq_mem,List.all_eq_true,Bool.or_eq_true,beq_iff_eq,List.mem_range] at hyz
      obtain ⟨h1,h2⟩:=hyz
      have:rd (τ j).ls (τ j).vs (.v i) = vs.getD i .undef:=by
        rcases vs_last hc hnd tr h0v h1 j (by rw [← hc.len]; omega) with ⟨_, h4⟩ | ⟨k, h3, h4, _, _⟩
        · exact h4
        · rcases h2 k (dst_lt h4) with (h5 | h5) | h5
          · omega
          · exact absurd h4 h5
          · have := T_lt hc (dst_lt h4) h5
            omega
      rw [this]
      refine h.var i t h1 fun k' hk' hd'=>?_
      rcases h2 k' (dst_lt hd') with (h5 | h5) | h5
      · subst h5; exact hjS hk'
      · exact h5 hd'
      · exact hjS (hTk k' hk' j h5)
    · exact resC_sound (fun _ => rfl) hyz
  -- where the operation stands
  have hplace:∃ p',(p' ∈ es ∨ p' = ops.size)∧p' ≤ ops.size∧(∀ e ∈ es,(S.setIfInBounds j true).getD e false = true ↔ e < p')∧evOne call ao (τ j).ls (τ j).vs (τ p).s = some (x j,(τ p').s):=by
    cases heff : isEff ao.op with
    | true =>
      have hjes:j ∈ es:=(hc.mem j).2 (by simp [effAt,hao,heff])
      have hpj:p = j:=by
        have h1:¬ j < p:=fun hlt=>hjS ((h.pe j hjes).2 hlt)
        rcases h.pm with hp | hp
        · rcases Nat.lt_or_ge p j with hlt | hge
          · have := hTS p (hc.chain j hjes p hp hlt)
            have:=(h.pe p hp).1 this
            omega
          · omega
        · omega
      subst hpj
      obtain ⟨p',g1,g2,g3,g4⟩:=next_above es p ops.size hjn
      have hesn:∀ e ∈ es,e < ops.size:=fun e he=>by
        have:=(hc.mem e).1 he
        rw [← mem_effs] at this
        unfold effs at this
        rw [List.mem_filter,List.mem_range] at this
        rw [hc.len]; exact this.1
      refine ⟨p',g1,g3,fun e he=>?_,?_⟩
      · rw [getD_set_iff h.sz hjn, h.pe e he]
        constructor
        · rintro (h | rfl)
          · omega
          · exact g2
        · intro hlt
          rcases Nat.lt_trichotomy e p with h1 | h1 | h1
          · exact .inl h1
          · exact .inr h1
          · have := hesn e he
            rcases g4 e he h1 with h2 | h2 <;> omega
      · rw [st_eq tr (show p + 1 ≤ p' by omega) (by rw [← hc.len]; exact g3) fun e h1 h2 => ?_]
        · exact hev
        · cases he : effAt aops e with
          | false => rfl
          | true =>
            have he':=(hc.mem e).2 he
            have:=hesn e he'
            rcases g4 e he' (by omega) with h3 | h3 <;> omega
    | false =>
      have hjes:j ∉ es:=fun hm=>by
        have:=(hc.mem j).1 hm
        simp [effAt, hao, heff] at this
      refine ⟨p,h.pm,h.ple,fun e he=>?_,?_⟩
      · rw [getD_set_iff h.sz hjn, h.pe e he]
        constructor
        · rintro (h | rfl)
          · exact h
          · exact absurd he hjes
        · exact .inl
      · have hq := quiet_one heff hev
        rcases hrd with h1 | h1 | h1
        · rw [heff] at h1; cases h1
        · exact pure_one heff h1 hev _
        · unfold ckRead at h1
          rw [List.all_eq_true] at h1
          have hmem:p ∈ es ++ [ops.size]:=by
            rw [List.mem_append,List.mem_singleton]; exact h.pm
          have h2:=h1 p hmem
          simp only [Bool.or_eq_true,List.any_eq_true,Bool.and_eq_true,decide_eq_true_eq,List.contains_eq_mem,List.all_eq_true,Bool.not_eq_true',Bool.or_eq_false_iff,Bool.and_eq_false_iff,decide_eq_false_iff_not] at h2
          rcases h2 with ((⟨e, he, h3, h4⟩ | ⟨e, he, h3, h4⟩) | h3) | h3
          · exact absurd (hTk e ((h.pe e he).2 h3) j h4) hjS
          · have := (h.pe e he).1 (hTS e h4)
            omega
          · obtain ⟨s2, h4⟩ := hchk j p ao h3 hao
            rw [quiet_one heff h4] at h4
            exact evOne_mono (c:=noCall) (c':=call) (fun _ _ _ _ e=>by cases e) h4
          · have hst : (τ p).s = (τ j).s := by
              rcases Nat.le_total p j with hpj | hpj
              · refine (st_eq tr hpj (by rw [← hc.len]; omega) fun e h4 h5 => ?_).symm
                cases he : effAt aops e with
                | false => rfl
                | true =>
                  have:=(h3 e ((hc.mem e).2 he)).1
                  omega
              · refine st_eq tr hpj (by rw [← hc.len]; exact h.ple) fun e h4 h5 => ?_
                cases he : effAt aops e with
                | false => rfl
                | true =>
                  have:=(h3 e ((hc.mem e).2 he)).2
                  omega
            rw [hst]
            rw [hq] at hev
            exact hev
  obtain ⟨p',q1,q2,q3,q4⟩:=hplace
  refine one_sound hcall h.rel hρ hg hk q4 ho fun u w' hp=>?_
  obtain ⟨L',C',hv,hR',hE'⟩:=hp
  have hE0:Ext (s0.low.length + 1) (τ p).s L C w (τ p').s L' C' w':=by have:=h.ext.depth; rw [← this]; exact hE'
  have hdj:dstOf ops j = o.dst:=by simp [dstOf,ho]
  have hdN:∀ t,o.dst = some t→t < a.tmps.size:=by
    intro t ht
    unfold ckDst at hd
    rw [ht] at hd
    simp only [Bool.and_eq_true,decide_eq_true_eq] at hd
    rw [h.size]
    exact hd.1
  have hset:∀ k,(S.setIfInBounds j true).getD k false = true ↔ S.getD k false = true ∨ k = j:=fun k=>getD_set_iff h.sz hjn
  refine hK p' _ w' L' C' ⟨by simp [h.sz],?_,q1,q2,q3,by rw [put_size]; exact h.size,by rw [put_defers']; exact h.defers,hR',h.ext.trans hE0,?_,?_⟩
  · intro i oi hoi hi e he hb
    rw [hset] at hi ⊢
    rcases hi with hi | rfl
    · exact .inl (h.shut i oi hoi hi e he hb)
    · rw [ho] at hoi
      obtain rfl:=Option.some.inj hoi
      exact .inl (hdep e he hb)
  · intro k t hk hdk hall
    rw [hset] at hk
    by_cases hkj:k = j
    · subst hkj
      rw [hdj] at hdk
      rw [hdk,put_same (hdN t hdk)]
      exact hv
    · have hkS : S.getD k false = true := hk.resolve_right hkj
      have hne:o.dst ≠ some t:=fun hot=>by
        rcases hall j ((hset j).2 (.inr rfl)) (by rw [hdj]; exact hot) with h1 | h1
        · exact hkj h1.symm
        · exact hjS (hTk k hkS j h1)
      rw [put_other hne]
      exact (h.val k t hkS hdk fun k' hk' hd'=>hall k' ((hset k').2 (.inl hk')) hd').keep hE'
  · intro i t hi hno
    have hne:o.dst ≠ some t:=by
      have:=hno j ((hset j).2 (.inr rfl))
      rwa [hdj] at this
    rw [put_other hne]
    exact (h.var i t hi fun k' hk'=>hno k' ((hset k').2 (.inl hk'))).keep hE'

theorem ready_nil {S : Array Bool} (hc : CkD P N vm ops aops chk T es) (hsz : S.size = ops.size) (h : Region.ready .any ops S = []) : ∀ i, i < ops.size → S.getD i false = true := by
  intro i
  induction i using Nat.strongRecOn with
  | _ i ih =>
    intro hi
    cases hS : S.getD i false with
    | true => rfl
    | false =>
      obtain ⟨o,ho⟩:∃ o,ops[i]? = some o:=⟨_,Array.getElem?_eq_getElem hi⟩
      have:i ∈ Region.ready .any ops S:=mem_ready.2 ⟨by rw [getD_ft hsz hi]; exact hS,o,ho,fun e he hb=>by
        have:=hc.back i o ho e he hb
        exact ih e.on this (by omega)⟩
      rw [h] at this
      cases this

theorem drawn_all (hcall : CallOK P call) (hc : CkD P N vm ops aops chk T es) (tr : Trace call aops τ x) (h0 : (τ 0).ls = []) (h0v : (τ 0).vs = vs) (hnd : vm.Nodup)
    (hchk : ∀ i q o, (i, q) ∈ chk → aops[i]? = some o → ∃ s2, evOne noCall o (τ i).ls (τ i).vs (τ q).s = some (x i, s2))
    (hQ : ∀ a w L C, AI N vm s0 L0 C0 w0 (τ aops.length).vs (τ aops.length).s a w L C → Q .normal a w) :
    ∀ (fuel : Nat) (l : List Nat) (S : Array Bool) (p : Nat) (a : Act) (w : World) (L : Nat → Nat → Loc) (C : Cs), DI N vm ops T es τ x vs s0 L0 C0 w0 S p a w L C → l.Nodup →
      (∀ j, j < ops.size → S.getD j false = false → j ∈ l) → l.length ≤ fuel → wpAny P .any ops Q fuel S a w
  | 0, l, S, p, a, w, L, C, hD, hln, hl, hf => by
    have hl0:l = []:=List.eq_nil_of_length_eq_zero (by omega)
    subst hl0
    have hall:∀ i,i < ops.size→S.getD i false = true:=fun i hi=>by
      cases hS : S.getD i false with
      | true => rfl
      | false => exact absurd (hl i hi hS) (by simp)
    refine ⟨?_,hQ a w L C (hD.done hc hnd tr h0v hall)⟩
    cases hr : Region.ready .any ops S with
    | nil => rfl
    | cons j r =>
      have hj:j ∈ Region.ready .any ops S:=by rw [hr]; simp
      obtain ⟨h1,o,ho,_⟩:=mem_ready.1 hj
      have hjn:j < ops.size:=(Array.getElem?_eq_some_iff.1 ho).1
      rw [getD_ft hD.sz hjn,hall j hjn] at h1
      cases h1
  | fuel + 1, l, S, p, a, w, L, C, hD, hln, hl, hf => by
    refine ⟨fun hr=>hQ a w L C (hD.done hc hnd tr h0v (ready_nil hc hD.sz hr)),fun j hj=>?_⟩
    obtain ⟨h1,o,ho,_⟩:=mem_ready.1 hj
    have hjn:j < ops.size:=(Array.getElem?_eq_some_iff.1 ho).1
    rw [getD_ft hD.sz hjn] at h1
    have hjl:=hl j hjn h1
    refine hD.step hcall hc tr h0 h0v hnd hchk hj fun p' a' w' L' C' hD'=>?_
    refine drawn_all hcall hc tr h0 h0v hnd hchk hQ fuel (l.erase j) _ p' a' w' L' C' hD' (hln.erase j) (fun k hk hS=>?_) (by rw [List.length_erase_of_mem hjl]; omega)
    have hkj:k ≠ j:=fun e=>by
      rw [e,getD_set_self hD.sz hjn] at hS
      cases hS
    rw [getD_set_ne false (Ne.symm hkj)] at hS
    exact (List.mem_erase_of_ne hkj).2 (hl k hk hS)

theorem drawn_sound {a : Act} {w : World} {L : Nat → Nat → Loc} {C : Cs} (hcall : CallOK P call) (hnd : vm.Nodup) (hck : ckRegD P N vm ops aops chk = true) (tr : Trace call aops τ x)
    (h0 : τ 0 = ⟨[], vs, s0⟩)
    (hchk : ∀ i q o, (i, q) ∈ chk → aops[i]? = some o → ∃ s2, evOne noCall o (τ i).ls (τ i).vs (τ q).s = some (x i, s2))
    (hQ : ∀ a' w' L' C', AI N vm s0 L C w (τ aops.length).vs (τ aops.length).s a' w' L' C' → Q .normal a' w')
    (hN : a.tmps.size = N) (hdf : a.defers = []) (hR : SR s0 L C w) (hT : TR vm vs s0 L C w a) : wpAny P .any ops Q ops.size (Array.replicate ops.size false) a w := by
  obtain ⟨T,es,hc⟩:=ckRegD_spec hck
  have hrep:∀ i,(Array.replicate ops.size false).getD i false = false:=by
    intro i
    simp only [Array.getD_eq_getD_getElem?,Array.getElem?_replicate]
    split <;> rfl
  have hno:∀ i,¬ (Array.replicate ops.size false).getD i false = true:=fun i=>by rw [hrep i]; simp
  obtain ⟨p,q1,q2,q3,q4⟩:∃ p,(p ∈ es ∨ p = ops.size)∧True∧p ≤ ops.size∧∀ e ∈ es,¬ e < p:=by
    have hesn:∀ e ∈ es,e < ops.size:=fun e he=>by
      have:=(hc.mem e).1 he
      rw [← mem_effs] at this
      unfold effs at this
      rw [List.mem_filter,List.mem_range] at this
      rw [hc.len]; exact this.1
    by_cases hz:0 ∈ es
    · exact ⟨0, .inl hz, trivial, Nat.zero_le _, fun e _ => by omega⟩
    · rcases Nat.eq_zero_or_pos ops.size with hn | hn
      · exact ⟨ops.size, .inr rfl, trivial, Nat.le_refl _, fun e _ => by omega⟩
      · obtain ⟨p, g1, g2, g3, g4⟩ := next_above es 0 ops.size hn
        refine ⟨p,g1,trivial,g3,fun e he hlt=>?_⟩
        have h1:0 < e:=Nat.pos_of_ne_zero fun h0=>hz (h0 ▸ he)
        have:=hesn e he
        rcases g4 e he h1 with h2 | h2 <;> omega
  have hst:(τ p).s = s0:=by
    rw [st_eq tr (Nat.zero_le p) (by rw [← hc.len]; exact q3) fun e _ h2=>?_,h0]
    cases he : effAt aops e with
    | false => rfl
    | true => exact absurd h2 (q4 e ((hc.mem e).2 he))
  refine drawn_all (s0:=s0) (L0:=L) (C0:=C) (w0:=w) hcall hc tr (by rw [h0]) (by rw [h0]) hnd hchk hQ ops.size (List.range ops.size) _ p a w L C ?_ List.nodup_range (fun j hj _=>List.mem_range.2 hj) (by simp)
  refine ⟨by simp,fun i o _ hi=>absurd hi (hno i),q1,q3,fun e he=>?_,hN,hdf,by rw [hst]; exact hR,by rw [hst]; exact .refl _,fun k t hk=>absurd hk (hno k),fun i t hi _=>by rw [hst]; exact hT i t hi⟩
  constructor
  · intro h; exact absurd h (hno e)
  · intro h; exact absurd h (q4 e he)
end
def ckCond (vm : List Nat) (x : Operand) (y : Opd) : Bool :=
  match x, y with
  | .tmp t, .v i => decide (vm[i]? = some t)
  | x, y => resC x y
def ckS (P : Program) (N : Nat) (vm : List Nat) : Code → Stm → Bool
  | .region _ ops false, .reg aops chk => chk.isEmpty && ckRegS P N vm ops aops
  | .region _ ops true, .reg aops chk => ckRegD P N vm ops aops chk
  | .seq (.seq p (.cond c a b)) q, .alt p' c' a' b' q' => ckS P N vm p p' && ckCond vm c c' && ckS P N vm a a' && ckS P N vm b b' && ckS P N vm q q'
  | .seq a b, .seq x y => ckS P N vm a x && ckS P N vm b y
  | .cond c a b, .cond c' x y => ckCond vm c c' && ckS P N vm a x && ckS P N vm b y
  | .block id a, .block id' x => (id == id') && ckS P N vm a x
  | .loop a, .loop x => ckS P N vm a x
  | .exit id, .exit id' => id == id'
  | .ret, .ret => true
  | .skip, .skip => true
  | .label _, .skip => true
  | .scope a, x => ckS P N vm a x
  | _, _ => false

def QS (N : Nat) (vm : List Nat) (s0 : Store) (L0 : Nat → Nat → Loc) (C0 : Cs) (w0 : World) (ex : Ex) (σ : St) : Exit → Act → World → Prop := fun e a w =>
  (match ex, e with | .nor, .normal => True | .exit i, .exit j => i = j | .ret, .ret => True | _, _ => False) ∧ ∃ L C, AI N vm s0 L0 C0 w0 σ.vs σ.s a w L C

section
variable {P : Program} {call : CallT} {N : Nat} {vm : List Nat} {s0 : Store} {L0 : Nat → Nat → Loc} {C0 : Cs} {w0 : World}

theorem drawn_world {s : Store} {L : Nat → Nat → Loc} {C : Cs} {w : World} (n : Nat) : Ext (s.low.length + 1) s L C w s L C { w with drawn := n } :=
  ⟨fun _ _ h => h, fun _ _ _ => rfl, fun d i t cs _ h => ⟨⟨cs, h⟩, rfl⟩, fun d i e sz cs ver pr _ h => ⟨cs, ver, pr, h, Nat.le_refl _, fun _ => rfl⟩, rfl, rfl, rfl, Nat.le_refl _, fun _ _ _ _ => rfl, fun _ h => .inl h, rfl, fun _ h => h, fun _ h => .inl h, rfl⟩
theorem drawn_rel {s : Store} {L : Nat → Nat → Loc} {C : Cs} {w : World} (n : Nat) (h : SR s L C w) : SR s L C { w with drawn := n } where
  obj d i o hg := (h.obj d i o hg).keep (drawn_world n) rfl (fun _ => rfl) hg fun _ _ h => h
  inj := h.inj
  cok b o hc := h.cok b o hc
  fzok := h.fzok
  ownN := h.ownN
  base := h.base
  nsz := h.nsz
  good := h.good

theorem reg_sound {ops : Array Oper} {aops : List AO} {chk : List (Nat × Nat)} {id : Nat} {draw : Bool} {σ σ' : St} {ex : Ex} {a : Act} {w : World} {L : Nat → Nat → Loc} {C : Cs}
    (hm : P.follows .mixedOrders = true) (hcall : CallOK P call) (hnd : vm.Nodup) (hck : ckS P N vm (.region id ops draw) (.reg aops chk) = true) (hev : evReg call aops chk σ = some (ex, σ'))
    (hI : AI N vm s0 L0 C0 w0 σ.vs σ.s a w L C) : (Code.region id ops draw).wp P (QS N vm s0 L0 C0 w0 ex σ') a w := by
  cases draw with
  | false =>
    simp only [ckS,Bool.and_eq_true,List.isEmpty_iff] at hck
    obtain ⟨rfl,hck⟩:=hck
    simp only [evReg] at hev
    obtain ⟨⟨vs',s'⟩,hx,hev⟩:=bind_some hev
    simp only [Option.some.injEq,Prod.mk.injEq] at hev
    obtain ⟨rfl,rfl⟩:=hev
    have hlen:ops.size = aops.length:=by
      unfold ckRegS at hck
      simp only [Bool.and_eq_true,beq_iff_eq] at hck
      exact hck.1
    refine wp_region ?_
    rw [List.range_eq_range',hlen]
    exact seq_sound hcall hnd hck (fun a w L C h=>⟨trivial,L,C,h⟩) aops 0 [] σ.vs σ.s a w L C (by simp) hx rfl hI fun k t h=>by omega
  | true =>
    simp only [ckS] at hck
    obtain ⟨l,t,hl,hlast,hex,hσ,hchk⟩:∃ l t,evTr call aops ⟨[],σ.vs,σ.s⟩ = some l∧l.getLast? = some t∧ex = .nor∧σ' = ⟨t.vs,t.s⟩∧chk.all (chkOne aops l) = true:=by
      unfold evReg at hev
      split at hev
      · obtain ⟨⟨vs', s'⟩, hx, hev⟩ := bind_some hev
        simp only [Option.some.injEq,Prod.mk.injEq] at hev
        obtain ⟨rfl,rfl⟩:=hev
        obtain ⟨l,t,h1,h2,h3,h4⟩:=evTr_of_evOps aops [] σ.vs σ.s _ hx
        exact ⟨l,t,h1,h2,rfl,by rw [h3,h4],rfl⟩
      · obtain ⟨l, hl, hev⟩ := bind_some hev
        split at hev
        · rename_i hc
          obtain ⟨t,ht,hev⟩:=bind_some hev
          simp only [Option.some.injEq,Prod.mk.injEq] at hev
          obtain ⟨rfl,rfl⟩:=hev
          exact ⟨l,t,hl,ht,rfl,rfl,hc⟩
        · cases hev
    subst hex hσ
    obtain ⟨τ,x,tr,h0,hl1,hl2,hx⟩:=trace_of hl
    obtain rfl:=hl1 t hlast
    refine wp_region_any hm ?_
    refine drawn_sound (s0:=σ.s) (L:=L) (C:=C) hcall hnd hck tr h0 ?_ ?_ hI.size hI.defers (drawn_rel _ hI.rel) (fun i t hi=>(hI.slots i t hi).keep (drawn_world _))
    · intro i q o hiq hio
      rw [List.all_eq_true] at hchk
      have h1:=hchk (i,q) hiq
      unfold chkOne at h1
      split at h1
      · rename_i o' ti ti' u g1 g2 g3 g4
        simp only at g1 g2 g3 g4
        rw [hio] at g1
        obtain rfl:=Option.some.inj g1
        obtain rfl:=hl2 _ _ g2
        obtain rfl:=hl2 _ _ g3
        obtain rfl:=hl2 _ _ g4
        split at h1
        · rename_i y hy
          have hxy:=same_eq h1
          have hil:i < aops.length:=(List.getElem?_eq_some_iff.1 hio).1
          rw [← hx i hil] at hxy
          obtain ⟨y1,y2⟩:=y
          simp only at hxy hy
          subst hxy
          exact ⟨y2,hy⟩
        · cases h1
      · cases h1
    · intro a' w' L' C' h
      refine ⟨trivial,L',C',h.size,h.defers,h.rel,?_,h.slots⟩
      have hd:=hI.ext.depth
      refine hI.ext.trans ?_
      rw [← hd]
      exact (drawn_world _).trans h.ext

theorem joinVs_left : ∀ (l r : List AV) (i : Nat), (joinVs l r).getD i .undef = l.getD i .undef ∨ (joinVs l r).getD i .undef = .undef
  | [], r, i => .inr (by simp [joinVs])
  | _ :: _, [], i => .inr (by simp [joinVs])
  | a :: l, b :: r, 0 => by
    simp only [joinVs,List.getD_cons_zero]
    split
    · exact .inl rfl
    · exact .inr rfl
  | a :: l, b :: r, i + 1 => by simp only [joinVs, List.getD_cons_succ]; exact joinVs_left l r i
theorem joinVs_right : ∀ (l r : List AV) (i : Nat), (joinVs l r).getD i .undef = r.getD i .undef ∨ (joinVs l r).getD i .undef = .undef
  | [], r, i => .inr (by simp [joinVs])
  | _ :: _, [], i => .inr (by simp [joinVs])
  | a :: l, b :: r, 0 => by
    simp only [joinVs,List.getD_cons_zero]
    split
    · rename_i h; exact .inl (same_eq h)
    · exact .inr rfl
  | a :: l, b :: r, i + 1 => by simp only [joinVs, List.getD_cons_succ]; exact joinVs_right l r i
theorem AI.weak {vs vs' : List AV} {s : Store} {a : Act} {w : World} {L : Nat → Nat → Loc} {C : Cs} (h : AI N vm s0 L0 C0 w0 vs s a w L C) (hv : ∀ i, vs'.getD i .undef = vs.getD i .undef ∨ vs'.getD i .undef = .undef) :
    AI N vm s0 L0 C0 w0 vs' s a w L C := by
  refine { h with slots:=fun i t hi=>?_ }
  rcases hv i with h1 | h1
  · rw [h1]; exact h.slots i t hi
  · rw [h1]; exact .undef _
theorem joinR_sound {x y : Ex × St} {ex : Ex} {σ : St} (h : joinR x y = some (ex, σ)) :
    (∀ e a w, QS N vm s0 L0 C0 w0 x.1 x.2 e a w → QS N vm s0 L0 C0 w0 ex σ e a w) ∧ (∀ e a w, QS N vm s0 L0 C0 w0 y.1 y.2 e a w → QS N vm s0 L0 C0 w0 ex σ e a w) := by
  unfold joinR at h
  split at h
  · rename_i hq
    obtain ⟨h1,h2⟩:=hq
    have h3:=Store.same_eq h2
    simp only [Option.some.injEq,Prod.mk.injEq] at h
    obtain ⟨rfl,rfl⟩:=h
    refine ⟨fun e a w hq=>?_,fun e a w hq=>?_⟩
    · obtain ⟨h4, L, C, hI⟩ := hq
      exact ⟨h4,L,C,hI.weak (joinVs_left _ _)⟩
    · obtain ⟨h4, L, C, hI⟩ := hq
      refine ⟨by rw [h1]; exact h4,L,C,?_⟩
      rw [← h3] at hI
      exact hI.weak (joinVs_right _ _)
  · cases h
theorem S_sound {n : Nat} (hm : P.follows .mixedOrders = true) (hcall : CallOK P call) (hnd : vm.Nodup) : ∀ (c : Code) (b : Stm), ckS P N vm c b = true → ∀ (σ : St) (ex : Ex) (σ' : St), evS call n b σ = some (ex, σ') →
    ∀ (a : Act) (w : World) (L : Nat → Nat → Loc) (C : Cs), AI N vm s0 L0 C0 w0 σ.vs σ.s a w L C → c.wp P (QS N vm s0 L0 C0 w0 ex σ') a w
  | .region id ops draw, b, hck, σ, ex, σ', hev, a, w, L, C, hI => by
    cases b <;> (try (cases draw <;> simp [ckS] at hck; done))
    case reg aops chk => exact reg_sound hm hcall hnd hck hev hI
  | .seq c d, b, hck, σ, ex, σ', hev, a, w, L, C, hI => by
    cases b <;> (try (simp [ckS] at hck; done))
    case seq x y =>
      simp only [ckS,Bool.and_eq_true] at hck
      simp only [evS] at hev
      obtain ⟨⟨ex1,σ1⟩,hx,hev⟩:=bind_some hev
      refine wp_seq (wp_mono (S_sound hm hcall hnd c x hck.1 σ ex1 σ1 hx a w L C hI) fun e a1 w1 hq=>?_)
      obtain ⟨h1,L1,C1,hI1⟩:=hq
      cases ex1 with
      | nor =>
        cases e <;> simp only at h1
        exact S_sound hm hcall hnd d y hck.2 σ1 ex σ' hev a1 w1 L1 C1 hI1
      | exit i =>
        simp only [Option.some.injEq,Prod.mk.injEq] at hev
        obtain ⟨rfl,rfl⟩:=hev
        cases e <;> simp only at h1
        exact ⟨h1,L1,C1,hI1⟩
      | ret =>
        simp only [Option.some.injEq,Prod.mk.injEq] at hev
        obtain ⟨rfl,rfl⟩:=hev
        cases e <;> simp only at h1
        exact ⟨trivial,L1,C1,hI1⟩
    case alt p' x' a' b' q' =>
      cases c <;> (try (simp [ckS] at hck; done))
      case seq p cd =>
        cases cd <;> (try (simp [ckS] at hck; done))
        case cond x ca cb =>
          simp only [ckS,Bool.and_eq_true] at hck
          obtain ⟨⟨⟨⟨hp,hx⟩,ha⟩,hb⟩,hq⟩:=hck
          simp only [evS] at hev
          obtain ⟨⟨ex1,σ1⟩,hp1,hev⟩:=bind_some hev
          have ih1:=S_sound hm hcall hnd p p' hp σ ex1 σ1 hp1 a w L C hI
          have ihq:=S_sound (n:=n) hm hcall hnd d q' hq
          have iha:=S_sound (n:=n) hm hcall hnd ca a' ha
          have ihb:=S_sound (n:=n) hm hcall hnd cb b' hb
          have br:∀ (xc:Code) (y:Option (Ex × St)) (a:Act) (w:World) (r:Ex × St),(∀ z,y = some z→xc.wp P (QS N vm s0 L0 C0 w0 z.1 z.2) a w) →
              (y.bind fun y => match y.1 with | .nor => evS call n q' y.2 | _ => some y) = some r → xc.wp P (Exit.then (d.wp P (QS N vm s0 L0 C0 w0 r.1 r.2)) (QS N vm s0 L0 C0 w0 r.1 r.2)) a w := by
            intro xc y a w r hxc h
            obtain ⟨⟨ex2,σ2⟩,hy,h⟩:=bind_some h
            refine wp_mono (hxc _ hy) fun e a1 w1 hq=>?_
            obtain ⟨h1,L1,C1,hI1⟩:=hq
            cases ex2 with
            | nor =>
              cases e <;> simp only at h1
              exact ihq σ2 r.1 r.2 h a1 w1 L1 C1 hI1
            | exit i =>
              simp only [Option.some.injEq] at h
              subst h
              cases e <;> simp only at h1
              exact ⟨h1,L1,C1,hI1⟩
            | ret =>
              simp only [Option.some.injEq] at h
              subst h
              cases e <;> simp only at h1
              exact ⟨trivial,L1,C1,hI1⟩
          have weak:∀ (xc:Code) (r:Ex × St) (a:Act) (w:World),(∀ e a w,QS N vm s0 L0 C0 w0 r.1 r.2 e a w→QS N vm s0 L0 C0 w0 ex σ' e a w)→xc.wp P (Exit.then (d.wp P (QS N vm s0 L0 C0 w0 r.1 r.2)) (QS N vm s0 L0 C0 w0 r.1 r.2)) a w →
              xc.wp P (Exit.then (d.wp P (QS N vm s0 L0 C0 w0 ex σ')) (QS N vm s0 L0 C0 w0 ex σ')) a w := by
            intro xc r a w hw h
            refine wp_mono h fun e a1 w1 hq=>?_
            cases e with
            | normal => exact wp_mono hq hw
            | _ => exact hw _ _ _ hq
          refine wp_seq (wp_seq (wp_mono ih1 fun e a1 w1 hq1=>?_))
          obtain ⟨h1,L1,C1,hI1⟩:=hq1
          cases ex1 with
          | nor =>
            cases e <;> simp only at h1
            have hc:VR σ1.s L1 C1 w1 (rd [] σ1.vs x') (a1.eval x):=by
              have:=hx
              unfold ckCond at this
              split at this
              · simp only [decide_eq_true_eq] at this
                exact hI1.slots _ _ this
              · exact resC_sound (fun _ => rfl) this
            show (Code.cond x ca cb).wp P _ a1 w1
            split at hev
            · split at hev
              · rename_i t ht
                rw [ht] at hc
                generalize hcv:a1.eval x = cv at hc
                cases hc
                refine wp_cond hcv ?_
                cases t with
                | true => exact br ca _ a1 w1 (ex, σ') (fun z hz => iha σ1 z.1 z.2 hz a1 w1 L1 C1 hI1) hev
                | false => exact br cb _ a1 w1 (ex, σ') (fun z hz => ihb σ1 z.1 z.2 hz a1 w1 L1 C1 hI1) hev
              · rename_i ht
                rw [ht] at hc
                generalize hcv:a1.eval x = cv at hc
                cases hc with
                | anyb t =>
                  obtain ⟨u,hu,hev⟩:=bind_some hev
                  obtain ⟨v,hv,hev⟩:=bind_some hev
                  obtain ⟨j1,j2⟩:=joinR_sound (N:=N) (vm:=vm) (s0:=s0) (L0:=L0) (C0:=C0) (w0:=w0) hev
                  refine wp_cond hcv ?_
                  cases t with
                  | true => exact weak ca u a1 w1 j1 (br ca _ a1 w1 u (fun z hz => iha σ1 z.1 z.2 hz a1 w1 L1 C1 hI1) hu)
                  | false => exact weak cb v a1 w1 j2 (br cb _ a1 w1 v (fun z hz => ihb σ1 z.1 z.2 hz a1 w1 L1 C1 hI1) hv)
              · cases hev
            · rename_i hne; exact absurd rfl hne
          | exit i =>
            simp only [Option.some.injEq,Prod.mk.injEq] at hev
            obtain ⟨rfl,rfl⟩:=hev
            cases e <;> simp only at h1
            exact ⟨h1,L1,C1,hI1⟩
          | ret =>
            simp only [Option.some.injEq,Prod.mk.injEq] at hev
            obtain ⟨rfl,rfl⟩:=hev
            cases e <;> simp only at h1
            exact ⟨trivial,L1,C1,hI1⟩
  | .cond c d e, b, hck, σ, ex, σ', hev, a, w, L, C, hI => by
    cases b <;> (try (simp [ckS] at hck; done))
    case cond c' x y =>
      simp only [ckS,Bool.and_eq_true] at hck
      simp only [evS] at hev
      have hc:VR σ.s L C w (rd [] σ.vs c') (a.eval c):=by
        have:=hck.1.1
        unfold ckCond at this
        split at this
        · simp only [decide_eq_true_eq] at this
          exact hI.slots _ _ this
        · exact resC_sound (fun _ => rfl) this
      split at hev
      · rename_i t ht
        rw [ht] at hc
        generalize hcv:a.eval c = cv at hc
        cases hc
        refine wp_cond hcv ?_
        split at hev
        · rename_i h1
          rw [if_pos h1]
          exact S_sound hm hcall hnd d x hck.1.2 σ ex σ' hev a w L C hI
        · rename_i h1
          rw [if_neg h1]
          exact S_sound hm hcall hnd e y hck.2 σ ex σ' hev a w L C hI
      · rename_i ht
        rw [ht] at hc
        generalize hcv:a.eval c = cv at hc
        cases hc with
        | anyb t =>
          obtain ⟨⟨ex1,σ1⟩,hx,hev⟩:=bind_some hev
          obtain ⟨⟨ex2,σ2⟩,hy,hev⟩:=bind_some hev
          obtain ⟨h1,h2⟩:=joinR_sound (N:=N) (vm:=vm) (s0:=s0) (L0:=L0) (C0:=C0) (w0:=w0) hev
          refine wp_cond hcv ?_
          cases t with
          | true => exact wp_mono (S_sound hm hcall hnd d x hck.1.2 σ ex1 σ1 hx a w L C hI) fun e a w hq => h1 e a w hq
          | false => exact wp_mono (S_sound hm hcall hnd e y hck.2 σ ex2 σ2 hy a w L C hI) fun e a w hq => h2 e a w hq
      · cases hev
  | .block id c, b, hck, σ, ex, σ', hev, a, w, L, C, hI => by
    cases b <;> (try (simp [ckS] at hck; done))
    case block id' x =>
      simp only [ckS,Bool.and_eq_true,beq_iff_eq] at hck
      obtain ⟨rfl,hck⟩:=hck
      simp only [evS] at hev
      obtain ⟨⟨ex1,σ1⟩,hx,hev⟩:=bind_some hev
      refine wp_block (wp_mono (S_sound hm hcall hnd c x hck σ ex1 σ1 hx a w L C hI) fun e a1 w1 hq=>?_)
      obtain ⟨h1,L1,C1,hI1⟩:=hq
      cases ex1 with
      | nor =>
        simp only [Option.some.injEq,Prod.mk.injEq] at hev
        obtain ⟨rfl,rfl⟩:=hev
        cases e <;> simp only at h1
        exact ⟨trivial,L1,C1,hI1⟩
      | exit i =>
        cases e <;> simp only at h1
        subst h1
        simp only [Exit.inBlock]
        simp only at hev
        split at hev
        · rename_i hid
          simp only [Option.some.injEq,Prod.mk.injEq] at hev
          obtain ⟨rfl,rfl⟩:=hev
          rw [if_pos hid]
          exact ⟨trivial,L1,C1,hI1⟩
        · rename_i hid
          simp only [Option.some.injEq,Prod.mk.injEq] at hev
          obtain ⟨rfl,rfl⟩:=hev
          rw [if_neg hid]
          exact ⟨rfl,L1,C1,hI1⟩
      | ret =>
        simp only [Option.some.injEq,Prod.mk.injEq] at hev
        obtain ⟨rfl,rfl⟩:=hev
        cases e <;> simp only at h1
        exact ⟨trivial,L1,C1,hI1⟩
  | .loop c, b, hck, σ, ex, σ', hev, a, w, L, C, hI => by
    cases b <;> (try (simp [ckS] at hck; done))
    case loop x =>
      simp only [ckS] at hck
      simp only [evS] at hev
      have key:∀ (m:Nat) (σ:St) (a:Act) (w:World) (L:Nat→Nat→Loc) (C:Cs),loopN (evS call n x) m σ = some (ex,σ')→AI N vm s0 L0 C0 w0 σ.vs σ.s a w L C →
          Code.rounds P c (QS N vm s0 L0 C0 w0 ex σ') m a w := by
        intro m
        induction m with
        | zero => intro σ a w L C h; cases h
        | succ m ih =>
          intro σ a w L C h hI
          simp only [loopN] at h
          obtain ⟨⟨ex1,σ1⟩,hx,h⟩:=bind_some h
          rw [rounds_succ]
          refine wp_mono (S_sound hm hcall hnd c x hck σ ex1 σ1 hx a w L C hI) fun e a1 w1 hq=>?_
          obtain ⟨h1,L1,C1,hI1⟩:=hq
          cases ex1 with
          | nor =>
            cases e <;> simp only at h1
            exact ih σ1 a1 w1 L1 C1 h hI1
          | exit i =>
            simp only [Option.some.injEq,Prod.mk.injEq] at h
            obtain ⟨rfl,rfl⟩:=h
            cases e <;> simp only at h1
            exact ⟨h1,L1,C1,hI1⟩
          | ret =>
            simp only [Option.some.injEq,Prod.mk.injEq] at h
            obtain ⟨rfl,rfl⟩:=h
            cases e <;> simp only at h1
            exact ⟨trivial,L1,C1,hI1⟩
      exact wp_loop_rounds n (key n σ a w L C hev hI)
  | .exit id, b, hck, σ, ex, σ', hev, a, w, L, C, hI => by
    cases b <;> (try (simp [ckS] at hck; done))
    case exit id' =>
      simp only [ckS,beq_iff_eq] at hck
      subst hck
      simp only [evS,Option.some.injEq,Prod.mk.injEq] at hev
      obtain ⟨rfl,rfl⟩:=hev
      exact wp_exit ⟨rfl,L,C,hI⟩
  | .ret, b, hck, σ, ex, σ', hev, a, w, L, C, hI => by
    cases b <;> (try (simp [ckS] at hck; done))
    case ret =>
      simp only [evS,Option.some.injEq,Prod.mk.injEq] at hev
      obtain ⟨rfl,rfl⟩:=hev
      exact wp_ret ⟨trivial,L,C,hI⟩
  | .skip, b, hck, σ, ex, σ', hev, a, w, L, C, hI => by
    cases b <;> (try (simp [ckS] at hck; done))
    case skip =>
      simp only [evS,Option.some.injEq,Prod.mk.injEq] at hev
      obtain ⟨rfl,rfl⟩:=hev
      exact wp_skip ⟨trivial,L,C,hI⟩
  | .label l, b, hck, σ, ex, σ', hev, a, w, L, C, hI => by
    cases b <;> (try (simp [ckS] at hck; done))
    case skip =>
      simp only [evS,Option.some.injEq,Prod.mk.injEq] at hev
      obtain ⟨rfl,rfl⟩:=hev
      exact wp_label ⟨trivial,L,C,hI⟩
  | .scope c, b, hck, σ, ex, σ', hev, a, w, L, C, hI => by
    simp only [ckS] at hck
    refine wp_scope_straight (wp_mono (S_sound hm hcall hnd c b hck σ ex σ' hev a w L C hI) fun e a1 w1 hq=>?_)
    cases e with
    | goto l => obtain ⟨h1, _⟩ := hq; cases ex <;> simp only at h1
    | _ => exact hq
  | .rangeFunc _ _ _ _, b, hck, σ, ex, σ', hev, a, w, L, C, hI => by cases b <;> simp [ckS] at hck
  | .goto _, b, hck, σ, ex, σ', hev, a, w, L, C, hI => by cases b <;> simp [ckS] at hck
  | .refuse _, b, hck, σ, ex, σ', hev, a, w, L, C, hI => by cases b <;> simp [ckS] at hck
end
def ckRes (P : Program) (vm : List Nat) : List ResultVar → List RV → Bool
  | [], [] => true
  | .tmp t :: r, .t i :: q => decide (vm[i]? = some t) && ckRes P vm r q
  | .cell a t :: r, .cl n i :: q => decide (vm[i]? = some a) && ldCk P t n && ckRes P vm r q
  | _, _ => false
def ckF (P : Program) (fn : Func) (fc : FC) (vm : List Nat) : Bool :=
  (match fn.body with | some c => ckS P fn.ntmps vm c fc.body | none => false) && decide (fc.np ≤ fn.ntmps) && decide (vm.take fc.np = List.range fc.np) && decide (fc.np ≤ vm.length) && decide vm.Nodup &&
    ckRes P vm fn.results.toList fc.res && (fn.name != "runtime.NumGoroutine")
def Fits (P : Program) (T : Nat → Option FC) : Prop := ∀ f fc, T f = some fc → ∃ fn vm, P.funcs[f]? = some fn ∧ ckF P fn fc vm = true

section
variable {s s' : Store} {L L' : Nat → Nat → Loc} {C C' : Cs} {w w' : World}
theorem push_get (s : Store) (d i : Nat) : s.push.get d i = s.get d i := by
  unfold Store.get Store.push
  simp only [List.length_append,List.length_singleton]
  by_cases h1:d = s.low.length + 1
  · subst h1
    rw [if_pos rfl,if_neg (by omega),List.getElem?_eq_none (l:=s.low) (by omega)]
    simp
  · rw [if_neg h1]
    by_cases h2:d = s.low.length
    · subst h2
      rw [if_pos rfl,List.getElem?_append_right (Nat.le_refl _)]
      simp
    · rw [if_neg h2]
      rcases Nat.lt_or_ge d s.low.length with h3 | h3
      · rw [List.getElem?_append_left h3]
      · rw [List.getElem?_append_right h3, List.getElem?_eq_none (l := s.low) h3, List.getElem?_eq_none (by simp; omega)]
theorem pop_len (s : Store) : s.pop.low.length = s.low.length - 1 := by simp [Store.pop]
theorem pop_get {s : Store} {n : Nat} (h : s.low.length = n + 1) (d i : Nat) : s.pop.get d i = if d ≤ n then s.get d i else none := by
  unfold Store.get Store.pop
  simp only [List.length_dropLast,h,Nat.add_sub_cancel]
  have hne:s.low ≠ []:=by rintro h0; rw [h0] at h; simp at h
  by_cases h1:d = n
  · subst h1
    rw [if_pos rfl,if_pos (Nat.le_refl _),if_neg (by omega)]
    have:s.low[d]? = some (s.low.getLastD []):=by
      rw [List.getLastD_eq_getLast?,List.getLast?_eq_getElem?,h]
      simp [List.getElem?_eq_getElem (show d < s.low.length by omega)]
    rw [this]
    rfl
  · rw [if_neg h1]
    by_cases h2:d ≤ n
    · rw [if_pos h2, if_neg (by omega), List.getElem?_dropLast, if_pos (by omega)]
    · rw [if_neg h2, List.getElem?_dropLast, if_neg (by omega)]
      rfl

theorem mat_push {d i : Nat} : Mat s.push L d i ↔ Mat s L d i := by unfold Mat; rw [push_get]
theorem own_push {b : Nat} : Own s.push L b ↔ Own s L b := by unfold Own; simp only [mat_push]
theorem keeps_push (D : Nat) : Keeps D s L C w s.push L C w :=
  ⟨fun _ _ h => h, fun _ _ _ => rfl, fun d i t cs _ h => ⟨⟨cs, by rw [push_get]; exact h⟩, rfl⟩, fun d i e sz cs ver pr _ h => ⟨cs, ver, pr, by rw [push_get]; exact h, Nat.le_refl _, fun _ => rfl⟩, fun _ h => h⟩
theorem keeps_pop {n : Nat} (h : s.low.length = n + 1) : Keeps (n + 1) s L C w s.pop L C w :=
  ⟨fun _ _ h => h, fun _ _ _ => rfl, fun d i t cs hd hg => ⟨⟨cs, by rw [pop_get h, if_pos (by omega)]; exact hg⟩, rfl⟩,
    fun d i e sz cs ver pr hd hg => ⟨cs, ver, pr, by rw [pop_get h, if_pos (by omega)]; exact hg, Nat.le_refl _, fun _ => rfl⟩, fun _ h => h⟩
theorem VRs.push {vs : List AV} {us : List Value} (h : VRs s L C w vs us) : VRs s.push L C w vs us := ⟨h.1, fun j x y hx hy => (h.2 j x y hx hy).mono (keeps_push _) (h.2 j x y hx hy).low⟩

theorem ObjR.move {d i : Nat} {o : Obj} {s2 : Store} (h : ObjR s L C w d i o) (hv : ∀ x y, x.lowB (d + 1) = true → VR s L C w x y → VR s2 L C w x y) : ObjR s2 L C w d i o := by
  cases o with
  | box t cs =>
    obtain ⟨h1,h2,vs,h3,h4⟩:=h
    exact ⟨h1,h2,vs,h3,h4.1,fun j x y hx hy=>hv x y (cellsOk_get h1 hx).2 (h4.2 j x y hx hy)⟩
  | arr e sz cs ver pr =>
    obtain ⟨h0,h1,h2⟩:=h
    refine ⟨h0,h1,?_⟩
    rcases h2 with h2 | ⟨h2, h3, h4, vs, h5, h6, h7⟩
    · exact .inl h2
    · exact .inr ⟨h2, h3, h4, vs, h5, h6, fun j x y hx hy => hv x y (cellsOk_get h1 hx).2 (h7 j x y hx hy)⟩
theorem SR.push (h : SR s L C w) : SR s.push L C w where
  obj d i o hg := by
    rw [push_get] at hg
    exact (h.obj d i o hg).move fun x y _ hv=>hv.mono (keeps_push _) hv.low
  inj d i d' i' h1 h2 := h.inj d i d' i' (mat_push.1 h1) (mat_push.1 h2)
  cok := h.cok
  fzok b hz := ⟨(h.fzok b hz).1, (h.fzok b hz).2.1, fun hO => (h.fzok b hz).2.2 (own_push.1 hO)⟩
  ownN d i hm := h.ownN d i (mat_push.1 hm)
  base := h.base
  nsz := h.nsz
  good := h.good
theorem mat_pop {n d i : Nat} (hn : s.low.length = n + 1) (h : Mat s.pop L d i) : Mat s L d i := by
  unfold Mat at h ⊢
  rw [pop_get hn] at h
  split at h
  · exact h
  · rcases h with ⟨_, _, h⟩ | ⟨_, _, _, _, _, h, _⟩ <;> cases h
theorem SR.pop {n : Nat} (hn : s.low.length = n + 1) (h : SR s L C w) : SR s.pop L C w where
  obj d i o hg := by
    rw [pop_get hn] at hg
    split at hg
    · rename_i hd
      exact (h.obj d i o hg).move fun x y hl hv=>hv.mono (keeps_pop hn) (lowB_mono (by omega) x hl)
    · cases hg
  inj d i d' i' h1 h2 := h.inj d i d' i' (mat_pop hn h1) (mat_pop hn h2)
  cok := h.cok
  fzok b hz := ⟨(h.fzok b hz).1, (h.fzok b hz).2.1, fun ⟨d, i, h1, h2⟩ => (h.fzok b hz).2.2 ⟨d, i, mat_pop hn h1, h2⟩⟩
  ownN d i hm := h.ownN d i (mat_pop hn hm)
  base := h.base
  nsz := h.nsz
  good := h.good
theorem Ext.frame' {n : Nat} (hs : s.low.length = n) (h : Ext (n + 1 + 1) s.push L C w s' L' C' w') : Ext (n + 1) s L C w s'.pop L' C' w' := by
  have hs':s'.low.length = n + 1:=by rw [h.depth]; simp [Store.push,hs]
  refine ⟨h.sub,h.cell,fun d i t cs hd hg=>?_,fun d i e sz cs ver pr hd hg=>?_,h.os,h.tape,h.output,h.size,fun b hb ho hz=>h.frame b hb (fun h1=>ho (own_push.1 h1)) hz,fun b hb=>?_,?_,h.fzs,h.fzb,h.w0⟩
  · obtain ⟨⟨cs', h1⟩, h2⟩ := h.box d i t cs (by omega) (by rw [push_get]; exact hg)
    exact ⟨⟨cs',by rw [pop_get hs',if_pos (by omega)]; exact h1⟩,h2⟩
  · obtain ⟨cs', ver', pr', h1, h2⟩ := h.arr d i e sz cs ver pr (by omega) (by rw [push_get]; exact hg)
    exact ⟨cs',ver',pr',by rw [pop_get hs',if_pos (by omega)]; exact h1,h2⟩
  · obtain ⟨d, i, h1, h2⟩ := hb
    rcases h.own b ⟨d, i, mat_pop hs' h1, h2⟩ with h3 | h3
    · exact .inl (own_push.1 h3)
    · exact .inr h3
  · rw [pop_len, hs', hs]
    rfl
end

theorem run_loadVar {P : Program} {s : Store} {L : Nat → Nat → Loc} {C : Cs} {w : World} {t : Nat} {n : Option Nat} {p v : AV} {u : Value} (hR : SR s L C w) (hp : VR s L C w p u) (hl : loadV s n p = some v)
    (hck : ldCk P t n = true) : ∃ val, (do loadVar t (← asAddr u) : Sem Value).run P w = .ok val w ∧ VR s L C w v val := by
  obtain ⟨val,h1,h2⟩:=run_load (P:=P) hR hp hl hck
  obtain ⟨cs,g1,_,_⟩:=loadV_cells hl
  obtain ⟨us,_,ad,rfl,_⟩:=cellsFrom_sound hR hp g1
  exact ⟨val,h1,h2⟩

def oneOf : List Value → Value
  | [x] => x
  | l => .tuple l.toArray
section
variable {P : Program} {s : Store} {L : Nat → Nat → Loc} {C : Cs} {w : World} {vm : List Nat} {vs : List AV} {a : Act}
theorem results_run (hR : SR s L C w) (hT : TR vm vs s L C w a) {g : ResultVar → Sem Value} (hg : ∀ t, g (.tmp t) = pure (a.tmps.getD t undef)) (hg2 : ∀ p t, g (.cell p t) = do loadVar t (← asAddr (a.tmps.getD p undef))) :
    ∀ (rs : List ResultVar) (is : List RV) (l : List AV), ckRes P vm rs is = true → resL s vs is = some l → ∃ us, (rs.mapM g).run P w = .ok us w ∧ VRs s L C w l us
  | [], [], l, _, h => by
    simp only [resL,Option.some.injEq] at h
    subst h
    exact ⟨[],by simp,.nil⟩
  | [], _ :: _, l, h, _ => by simp [ckRes] at h
  | .tmp t :: r, .t i :: q, l, h, hl => by
    simp only [ckRes,Bool.and_eq_true,decide_eq_true_eq] at h
    simp only [resL,resOne,Option.bind_some] at hl
    obtain ⟨l',hl',hl⟩:=bind_some hl
    simp only [Option.some.injEq] at hl
    subst hl
    obtain ⟨us,h1,h2⟩:=results_run hR hT hg hg2 r q l' h.2 hl'
    refine ⟨a.tmps.getD t undef :: us,?_,(VRs.one (hT i t h.1)).append h2⟩
    simp only [List.mapM_cons,hg,pure_bind,Sem.run_bind,h1,Result.andThen_ok,Sem.run_pure]
  | .cell p t :: r, .cl n i :: q, l, h, hl => by
    simp only [ckRes,Bool.and_eq_true,decide_eq_true_eq] at h
    simp only [resL,resOne] at hl
    obtain ⟨x,hx,hl⟩:=bind_some hl
    obtain ⟨l',hl',hl⟩:=bind_some hl
    simp only [Option.some.injEq] at hl
    subst hl
    obtain ⟨us,h1,h2⟩:=results_run hR hT hg hg2 r q l' h.2 hl'
    obtain ⟨val,h3,h4⟩:=run_loadVar (P:=P) hR (hT i p h.1.1) hx h.1.2
    refine ⟨val :: us,?_,(VRs.one h4).append h2⟩
    rw [List.mapM_cons,hg2,Sem.run_bind,h3]
    simp only [Result.andThen_ok,Sem.run_bind,h1,Sem.run_pure]
  | .tmp _ :: _, [], _, h, _ => by simp [ckRes] at h
  | .cell _ _ :: _, [], _, h, _ => by simp [ckRes] at h
  | .tmp _ :: _, .cl _ _ :: _, _, h, _ => by simp [ckRes] at h
  | .cell _ _ :: _, .t _ :: _, _, h, _ => by simp [ckRes] at h
theorem run_results {fn : Func} {is : List RV} {v : AV} (hR : SR s L C w) (hT : TR vm vs s L C w a) (h : ckRes P vm fn.results.toList is = true) (hv : resV s vs is = some v) :
    ∃ u, (results fn a.tmps).run P w = .ok u w ∧ VR s L C w v u := by
  unfold resV at hv
  obtain ⟨l,hl,hv⟩:=bind_some hv
  simp only [Option.some.injEq] at hv
  subst hv
  have h2:fn.results = fn.results.toList.toArray:=by simp
  unfold results
  rw [h2]
  simp only [List.mapM_toArray,Sem.run_bind,map_eq_pure_bind,bind_assoc,pure_bind]
  obtain ⟨us,h3,h4⟩:=results_run (P:=P) hR hT (g:=fun | .tmp t=>pure (a.tmps.getD t undef) | .cell p t=>do loadVar t (← asAddr (a.tmps.getD p undef))) (fun _=>rfl) (fun _ _=>rfl) _ _ _ h hl
  refine ⟨oneOf us,?_,?_⟩
  · refine (congrArg (fun r => Result.andThen r _) (h3 : _ = _)).trans ?_
    simp only [Result.andThen_ok,Sem.run_pure]
    cases us with
    | nil => simp [oneOf]
    | cons i r =>
      cases r with
      | nil => simp [oneOf]
      | cons j q => simp [oneOf]
  · have hlen := h4.1
    cases l with
    | nil => cases us with | nil => exact h4.tup | cons => simp at hlen
    | cons x l =>
      cases us with
      | nil => simp at hlen
      | cons u us =>
        cases l with
        | nil =>
          cases us with
          | nil => exact h4.2 0 _ _ rfl rfl
          | cons => simp at hlen
        | cons y l =>
          cases us with
          | nil => simp at hlen
          | cons => exact h4.tup
end

theorem TR.begin {s : Store} {L : Nat → Nat → Loc} {C : Cs} {w : World} {vm : List Nat} {np k : Nat} {args : List AV} {us : List Value} {n : Nat} (h : VRs s L C w args us) (hl : args.length = np) (hvm : vm.take np = List.range np) :
    TR vm (args ++ List.replicate k .undef) s L C w { tmps := us.toArray ++ Array.replicate n undef, defers := [] } := by
  intro i t hi
  rcases Nat.lt_or_ge i np with h1 | h1
  · have hit : t = i := by
      have:(vm.take np)[i]? = some t:=by rw [List.getElem?_take,if_pos h1]; exact hi
      rw [hvm,List.getElem?_range h1] at this
      exact (Option.some.inj this).symm
    subst hit
    have hul:us.length = args.length:=h.1
    have e1:(args ++ List.replicate k AV.undef).getD t .undef = args[t]'(by omega):=by
      rw [List.getD_eq_getElem?_getD,List.getElem?_append_left (by omega),List.getElem?_eq_getElem (by omega)]
      rfl
    have e2:(us.toArray ++ Array.replicate n undef).getD t undef = us[t]'(by omega):=by
      rw [Array.getD_eq_getD_getElem?,Array.getElem?_append_left (by simp; omega)]
      simp [List.getElem?_eq_getElem (show t < us.length by omega)]
    simp only
    rw [e1,e2]
    exact h.2 t _ _ (List.getElem?_eq_getElem (by omega)) (List.getElem?_eq_getElem (by omega))
  · have e1 : (args ++ List.replicate k AV.undef).getD i .undef = .undef := by
      rw [List.getD_eq_getElem?_getD,List.getElem?_append_right (by omega),List.getElem?_replicate]
      split <;> rfl
    rw [e1]
    exact .undef _

theorem callFunc_run {P : Program} {f : Nat} {fn : Func} {args : Array Value} {w : World} (hf : P.funcs[f]? = some fn) (hn : (fn.name != "runtime.NumGoroutine") = true) (hb : fn.body.isSome = true) :
    (callFunc f args).run P w = .ok (.enter f args) w := by
  have h1:(fn.name == "runtime.NumGoroutine") = false:=by simpa [bne] using hn
  have h2:fn.body.isNone = false:=by cases h:fn.body <;> simp [h] at hb ⊢
  simp only [callFunc,Sem.run_bind,run_program,Result.andThen_ok,hf,h1,h2,Bool.false_eq_true,if_false,Sem.run_pure]

theorem argsV_sound {fc : FC} {args args' : List AV} {s s' : Store} {L : Nat → Nat → Loc} {C : Cs} {w : World} {us : List Value} (hR : SR s L C w) (hv : VRs s L C w args us) (h : argsV fc args s = some (args', s')) :
    ∃ C', args.length = fc.np ∧ VRs s' L C' w args' us ∧ SR s' L C' w ∧ Ext (s.low.length + 1) s L C w s' L C' w := by
  unfold argsV at h
  split at h
  · rename_i hl
    split at h
    · simp only [Option.some.injEq, Prod.mk.injEq] at h
      obtain ⟨rfl,rfl⟩:=h
      exact ⟨C,hl,hv,hR,.refl _⟩
    · obtain ⟨C', h1, h2, h3⟩ := frzs_sound hR hv h
      exact ⟨C',hl,h1,h2,h3⟩
  · cases h

theorem F_sound {P : Program} {call : CallT} {n f : Nat} {fn : Func} {fc : FC} {vm : List Nat} {args : List AV} {s s' : Store} {v : AV} {L : Nat → Nat → Loc} {C : Cs} {w : World} {us : List Value}
    (hm : P.follows .mixedOrders = true) (hcall : CallOK P call) (hf : P.funcs[f]? = some fn) (hck : ckF P fn fc vm = true) (hev : evF call n fc args s = some (v, s')) (hR : SR s L C w) (hv : VRs s L C w args us) :
    (callFunc f us.toArray).run P w = .ok (.enter f us.toArray) w ∧ Calls P f us.toArray w fun e w' => ∃ u, e = .returned u ∧ Post s L C w s' v u w' := by
  unfold ckF at hck
  simp only [Bool.and_eq_true,decide_eq_true_eq] at hck
  obtain ⟨⟨⟨⟨⟨⟨hb,hnp⟩,htake⟩,hvl⟩,hnd⟩,hres⟩,hname⟩:=hck
  obtain ⟨c,hbody,hS⟩:∃ c,fn.body = some c∧ckS P fn.ntmps vm c fc.body = true:=by
    split at hb
    · rename_i c hc; exact ⟨c, hc, hb⟩
    · cases hb
  refine ⟨callFunc_run hf hname (by rw [hbody]; rfl),?_⟩
  unfold evF at hev
  obtain ⟨⟨args',s1⟩,ha,hev⟩:=bind_some hev
  obtain ⟨⟨ex,σ'⟩,hs,hev⟩:=bind_some hev
  obtain ⟨C1,hlen,hv1,hR1,hE1⟩:=argsV_sound hR hv ha
  have hul:us.length = fc.np:=by rw [hv.1,hlen]
  have hl1:args'.length = fc.np:=by rw [← hv1.1,hul]
  have hd1:s1.low.length = s.low.length:=hE1.depth
  refine calls_of_wp hf hbody ?_
  have hsize:({ tmps:=us.toArray ++ Array.replicate (fn.ntmps - us.toArray.size) undef,defers:=[] }:Act).tmps.size = fn.ntmps:=by
    simp [hul]; omega
  cases hin : fc.inl with
  | true =>
    have hst:(st0 fc args' s1) = ⟨args' ++ List.replicate (fc.nv - fc.np) .undef,s1⟩:=by simp [st0,hin]
    rw [hst] at hs
    refine wp_mono (S_sound (s0:=s1) (L0:=L) (C0:=C1) (w0:=w) hm hcall hnd c fc.body hS _ ex σ' hs _ w L C1 ⟨hsize,rfl,hR1,.refl _,TR.begin hv1 hl1 htake⟩) fun e a w2 hq=>?_
    obtain ⟨h1,L2,C2,hI⟩:=hq
    unfold evEnd at hev
    have key:bodyPost P fn (fun e w'=>∃ u,e = .returned u∧Post s L C w s' v u w') .ret a w2:=by
      split at hev
      · cases hev
      · obtain ⟨rv, hrv, hev⟩ := bind_some hev
        rw [if_pos hin] at hev
        simp only [Option.some.injEq,Prod.mk.injEq] at hev
        obtain ⟨rfl,rfl⟩:=hev
        obtain ⟨ru,hru,hrvr⟩:=run_results (P:=P) hI.rel hI.slots hres hrv
        refine ⟨hI.defers,_,hru,_,rfl,L2,C2,hrvr,hI.rel,hE1.trans ?_⟩
        rw [← hd1]
        exact hI.ext
    cases ex with
    | exit id => simp at hev
    | nor => cases e <;> simp only at h1; exact key
    | ret => cases e <;> simp only at h1; exact key
  | false =>
    have hst:(st0 fc args' s1) = ⟨args' ++ List.replicate (fc.nv - fc.np) .undef,s1.push⟩:=by simp [st0,hin]
    rw [hst] at hs
    refine wp_mono (S_sound (s0:=s1.push) (L0:=L) (C0:=C1) (w0:=w) hm hcall hnd c fc.body hS _ ex σ' hs _ w L C1 ⟨hsize,rfl,hR1.push,.refl _,TR.begin hv1.push hl1 htake⟩) fun e a w2 hq=>?_
    obtain ⟨h1,L2,C2,hI⟩:=hq
    unfold evEnd at hev
    have key:bodyPost P fn (fun e w'=>∃ u,e = .returned u∧Post s L C w s' v u w') .ret a w2:=by
      split at hev
      · cases hev
      · obtain ⟨rv, hrv, hev⟩ := bind_some hev
        rw [if_neg (by rw [hin]; simp)] at hev
        obtain ⟨⟨x,s3⟩,hx,hev⟩:=bind_some hev
        obtain ⟨ru,hru,hrvr⟩:=run_results (P:=P) hI.rel hI.slots hres hrv
        simp only at hev
        split at hev
        · rename_i hlow
          simp only [Option.some.injEq,Prod.mk.injEq] at hev
          obtain ⟨rfl,rfl⟩:=hev
          obtain ⟨C3,g1,g2,g3⟩:=frzK_sound hI.rel hrvr hx
          have hpl:s1.push.low.length = s.low.length + 1:=by simp [Store.push,hd1]
          have hd2:σ'.s.low.length = s.low.length + 1:=by rw [hI.ext.depth,hpl]
          have hd3:s3.low.length = s.low.length + 1:=by rw [g3.depth,hd2]
          have hE2:Ext (s.low.length + 1 + 1) s1.push L C1 w s3 L2 C3 w2:=by
            have e1:=hI.ext
            rw [hpl] at e1
            rw [hd2] at g3
            exact e1.trans g3
          refine ⟨hI.defers,_,hru,_,rfl,L2,C3,g1.mono (keeps_pop hd3) (by rw [← hd3]; exact hlow),g2.pop hd3,hE1.trans (Ext.frame' hd1 hE2)⟩
        · cases hev
    cases ex with
    | exit id => simp at hev
    | nor => cases e <;> simp only at h1; exact key
    | ret => cases e <;> simp only at h1; exact key

theorem callN_sound {P : Program} {T : Nat → Option FC} {prim : CallT} (hm : P.follows .mixedOrders = true) (hT : Fits P T) (hp : CallOK P prim) : ∀ n, CallOK P (callN T prim n)
  | 0 => fun f args s v s' h => by cases h
  | n + 1 => fun f args s v s' h L C w us hR hv => by
    simp only [callN] at h
    split at h
    · rename_i fc hfc
      obtain ⟨fn,vm,h1,h2⟩:=hT f fc hfc
      exact .inl (F_sound hm (callN_sound hm hT hp n) h1 h2 h hR hv)
    · exact hp f args s v s' h L C w us hR hv
def Fit (P : Program) (n : Nat) (c : FC) : Prop := ∃ fn vm, P.funcs[n]? = some fn ∧ ckF P fn c vm = true
def FitL (P : Program) (l : List (Nat × FC)) : Prop := ∀ e ∈ l, Fit P e.1 e.2
theorem FitL.nil {P : Program} : FitL P [] := fun _ h => by cases h
theorem FitL.cons {P : Program} {n : Nat} {c : FC} {l : List (Nat × FC)} (h : Fit P n c) (k : FitL P l) : FitL P ((n, c) :: l) := fun e he => by
  rcases List.mem_cons.1 he with rfl | he
  · exact h
  · exact k e he
def tab (l : List (Nat × FC)) (f : Nat) : Option FC := (l.find? fun e => e.1 == f).map (·.2)
theorem FitL.fits {P : Program} {l : List (Nat × FC)} (h : FitL P l) : Fits P (tab l) := fun f fc hf => by
  unfold tab at hf
  cases he : l.find? (fun e => e.1 == f) with
  | none => rw [he] at hf; cases hf
  | some e =>
    rw [he] at hf
    obtain rfl:=Option.some.inj hf
    have h1:=List.find?_some he
    have h2:=h e (List.mem_of_find?_eq_some he)
    simp only [beq_iff_eq] at h1
    rw [← h1]
    exact h2
end Go.Proofs.YtkjonfojileipaaGreatDoor.Ae
namespace Go.Proofs.YtkjonfojileipaaGreatDoor.Ae
open Go Go.RowKit
theorem callF_calls {P : Program} {T : Nat → Option FC} {prim : CallT} (hm : P.follows .mixedOrders = true) (hT : Fits P T) (hp : CallOK P prim) {f : Nat} {fc : FC} (hf : T f = some fc) {args : List AV} {s s' : Store} {v : AV}
    (h : callF T prim f args s = some (v, s')) {L : Nat → Nat → Loc} {C : Cs} {w : World} {us : List Value} (hR : SR s L C w) (hv : VRs s L C w args us) :
    Calls P f us.toArray w fun e w' => ∃ u, e = .returned u ∧ Post s L C w s' v u w' := by
  obtain ⟨n,hn⟩:=callF_ex h
  cases n with
  | zero => cases hn
  | succ n =>
    simp only [callN,hf] at hn
    obtain ⟨fn,vm,h1,h2⟩:=hT f fc hf
    exact (F_sound hm (callN_sound hm hT hp n) h1 h2 hn hR hv).2

def noStore : Store := ⟨[], []⟩
theorem noStore_get (d i : Nat) : noStore.get d i = none := by
  unfold Store.get noStore
  split <;> simp
theorem noStore_mat {L : Nat → Nat → Loc} {d i : Nat} (h : Mat noStore L d i) : False := by
  rcases h with ⟨_, _, h⟩ | ⟨_, _, _, _, _, h, _⟩ <;> rw [noStore_get] at h <;> cases h
theorem noStore_rel {L : Nat → Nat → Loc} {C : Cs} {w : World} (h : ∀ b o, C b o → ∃ v, w.cell? ⟨b, o, none⟩ = some v) (hz : ∀ b, ¬ C.fz b) (h0 : C.w0 = w) (hg : WGood w) : SR noStore L C w :=
  ⟨fun d i o hg => absurd ((noStore_get d i).symm.trans hg) (by simp), fun _ _ _ _ h _ _ => (noStore_mat h).elim, h, fun b h => (hz b h).elim, fun _ _ h => (noStore_mat h).elim, fun _ _ => by rw [h0], by rw [h0]; exact Nat.le_refl _, by rw [h0]; exact hg⟩
structure Kept (w w' : World) : Prop where
  below : Below w.heap.size w w'
theorem kept_of {L L' : Nat → Nat → Loc} {C C' : Cs} {w w' : World} {s' : Store} {D : Nat} (hz : ∀ b, ¬ C.fz b) (h : Ext D noStore L C w s' L' C' w') : Kept w w' :=
  ⟨⟨h.os, h.tape, h.output, h.size, fun b hb => h.frame b hb (fun ⟨_, _, hm, _⟩ => (noStore_mat hm).elim) fun hq => (h.fzb b hq).elim (hz b) fun h1 => by omega⟩⟩

def bytesIn (l : List Int) : AV := .imm false l.length (l.map (.int .u8))
end Go.Proofs.YtkjonfojileipaaGreatDoor.Ae
namespace Go.Proofs.YtkjonfojileipaaGreatDoor.Ae
open Go
def frm (s : Store) (t : List Obj) : Store := ⟨s.low ++ [s.top], t⟩
theorem push_frm (s : Store) : s.push = frm s [] := rfl
theorem pop_frm (s : Store) (t : List Obj) : (frm s t).pop = s := by
  cases s
  simp [Store.pop, frm]
theorem frm_len (s : Store) (t : List Obj) : (frm s t).low.length = s.low.length + 1 := by simp [frm]
theorem frm_top (s : Store) (t : List Obj) : (frm s t).top = t := rfl
theorem frm_new (s : Store) (t : List Obj) (o : Obj) : (frm s t).new o = frm s (t ++ [o]) := rfl
theorem frm_get_top (s : Store) (t : List Obj) (i : Nat) : (frm s t).get (s.low.length + 1) i = t[i]? := by
  unfold Store.get
  rw [if_pos (frm_len s t).symm]
  rfl
theorem frm_get (s : Store) (t : List Obj) {d : Nat} (i : Nat) (h : d ≤ s.low.length) : (frm s t).get d i = s.get d i := by
  have:=push_get s d i
  rw [← this]
  unfold Store.get
  rw [frm_len,if_neg (by omega),push_frm,frm_len,if_neg (by omega)]
  rfl
theorem frm_set_top (s : Store) (t : List Obj) (i : Nat) (o : Obj) : (frm s t).set (s.low.length + 1) i o = frm s (t.set i o) := by
  unfold Store.set
  rw [if_pos (frm_len s t).symm]
  rfl
theorem frm_set (s : Store) (t : List Obj) {d : Nat} (i : Nat) (o : Obj) (h : d ≤ s.low.length) : (frm s t).set d i o = frm (s.set d i o) t := by
  unfold Store.set
  rw [frm_len,if_neg (by omega)]
  by_cases hd:d = s.low.length
  · subst hd
    rw [if_pos rfl]
    simp only [frm,if_true]
    congr 1
    apply List.ext_getElem?
    intro k
    rw [List.getElem?_modify]
    rcases Nat.lt_trichotomy k s.low.length with h1 | h1 | h1
    · have hne : ¬ s.low.length = k := by omega
      simp only [if_neg hne,List.getElem?_append_left h1,Option.map_eq_map,Option.map_id_fun',id]
    · subst h1; simp
    · rw [List.getElem?_append_right (by omega), List.getElem?_append_right (by omega), List.getElem?_eq_none (by simp; omega), List.getElem?_eq_none (by simp; omega)]; rfl
  · rw [if_neg hd]
    simp only [frm]
    congr 1
    apply List.ext_getElem?
    intro k
    rw [List.getElem?_modify]
    rcases Nat.lt_or_ge k s.low.length with h1 | h1
    · rw [List.getElem?_append_left h1, List.getElem?_append_left (by simpa using h1), List.getElem?_modify]
    · have hne : ¬ d = k := by omega
      simp only [if_neg hne,List.getElem?_append_right h1,List.getElem?_append_right (show (s.low.modify d fun x=>x.set i o).length ≤ k by simpa using h1),List.length_modify,Option.map_eq_map,Option.map_id_fun',id]
theorem set_len (s : Store) (d i : Nat) (o : Obj) : (s.set d i o).low.length = s.low.length := set_depth s d i o
theorem set_set (s : Store) (d i : Nat) (o o' : Obj) : (s.set d i o).set d i o' = s.set d i o' := by
  unfold Store.set
  by_cases h:d = s.low.length
  · rw [if_pos h, if_pos h]
    simp only [h,if_true]
    simp
  · rw [if_neg h, if_neg h]
    simp only [List.length_modify,if_neg h]
    congr 1
    apply List.ext_getElem?
    intro k
    simp only [List.getElem?_modify]
    by_cases hk:d = k
    · subst hk
      simp only [if_true]
      cases s.low[d]? <;> simp
    · simp [hk]
/-! ### statements, one equation each -/
noncomputable def loopE (call : CallT) (b : Stm) (st : St) : Option (Ex × St) := loopF (exS call b) st
section
variable {call : CallT}
theorem exS_reg (ops : List AO) (chk : List (Nat × Nat)) (st : St) : exS call (.reg ops chk) st = evReg call ops chk st := by rw [exS]
theorem exS_seq (a b : Stm) (st : St) : exS call (.seq a b) st = (exS call a st).bind fun r => match r.1 with | .nor => exS call b r.2 | _ => some r := by rw [exS]; rfl
theorem exS_cond (c : Opd) (a b : Stm) (st : St) : exS call (.cond c a b) st = match rd [] st.vs c with | .bool t => if t = true then exS call a st else exS call b st | .anyb => (exS call a st).bind fun x => (exS call b st).bind fun y => joinR x y | _ => none := by rw [exS]; rfl
theorem exS_alt (r : Stm) (c : Opd) (a b rest : Stm) (st : St) : exS call (.alt r c a b rest) st = (exS call r st).bind fun x => match x.1 with
    | .nor =>
      match rd [] x.2.vs c with
      | .bool t => ((if t = true then exS call a x.2 else exS call b x.2)).bind fun y => match y.1 with | .nor => exS call rest y.2 | _ => some y
      | .anyb => ((exS call a x.2).bind fun y => match y.1 with | .nor => exS call rest y.2 | _ => some y).bind fun p => ((exS call b x.2).bind fun y => match y.1 with | .nor => exS call rest y.2 | _ => some y).bind fun q => joinR p q
      | _ => none
    | _ => some x := by rw [exS]; rfl
theorem exS_block (id : Nat) (b : Stm) (st : St) : exS call (.block id b) st = (exS call b st).bind fun r => match r.1 with | .exit k => if k = id then some (.nor, r.2) else some r | _ => some r := by rw [exS]; rfl
theorem exS_loop (b : Stm) (st : St) : exS call (.loop b) st = loopE call b st := by rw [exS]; rfl
theorem exS_exit (id : Nat) (st : St) : exS call (.exit id) st = some (.exit id, st) := by rw [exS]
theorem exS_ret (st : St) : exS call .ret st = some (.ret, st) := by rw [exS]
theorem exS_skip (st : St) : exS call .skip st = some (.nor, st) := by rw [exS]
theorem loopE_step {b : Stm} {st st' : St} (h : exS call b st = some (.nor, st')) : loopE call b st = loopE call b st' := loopF_step h
theorem loopE_end {b : Stm} {st : St} {r : Ex × St} (h : exS call b st = some r) (hr : r.1 ≠ .nor) : loopE call b st = some r := loopF_end h hr
theorem evReg_plain (ops : List AO) (st : St) : evReg call ops [] st = (evOps call ops [] st.vs st.s).bind fun x => some (.nor, ⟨x.1, x.2⟩) := rfl
end
def loops : Stm → List Stm
  | .seq a b => loops a ++ loops b
  | .cond _ a b => loops a ++ loops b
  | .alt r _ a b q => loops r ++ loops a ++ loops b ++ loops q
  | .block _ b => loops b
  | .loop b => b :: loops b
  | _ => []
def loopAt (fc : FC) (k : Nat) : Stm := (loops fc.body).getD k .skip
section
variable {call : CallT}
theorem opsCons {o : AO} {r : List AO} {ls vs : List AV} {s : Store} {p : AV × Store} {q : List AV × Store} (h1 : evOne call o ls vs s = some p) (h2 : evOps call r (ls ++ [p.1]) (putV o.dv vs p.1) p.2 = some q) : evOps call (o :: r) ls vs s = some q := by
  simp only [evOps,h1,Option.bind_some]
  exact h2
theorem regI {ops : List AO} {vs : List AV} {s : Store} {q : List AV × Store} (h : evOps call ops [] vs s = some q) : exS call (.reg ops []) ⟨vs, s⟩ = some (.nor, ⟨q.1, q.2⟩) := by
  rw [exS_reg,evReg_plain]
  simp only [h,Option.bind_some]
theorem trCons {o : AO} {r : List AO} {ls vs : List AV} {s : Store} {p : AV × Store} {l : List Tr} (h1 : evOne call o ls vs s = some p) (h2 : evTr call r ⟨ls ++ [p.1], putV o.dv vs p.1, p.2⟩ = some l) : evTr call (o :: r) ⟨ls, vs, s⟩ = some (⟨ls, vs, s⟩ :: l) := by
  simp only [evTr,h1,Option.bind_some,h2]
theorem regD {ops : List AO} {c : Nat × Nat} {cs : List (Nat × Nat)} {vs : List AV} {s : Store} {l : List Tr} {t : Tr} (h : evTr call ops ⟨[], vs, s⟩ = some l) (hl : l.getLast? = some t) (hc : (c :: cs).all (chkOne ops l) = true) :
    exS call (.reg ops (c :: cs)) ⟨vs, s⟩ = some (.nor, ⟨t.vs, t.s⟩) := by
  rw [exS_reg]
  simp only [evReg,h,Option.bind_some,hc,if_true,hl]
end
theorem funI {T : Nat → Option FC} {prim : CallT} {f : Nat} {fc : FC} {args : List AV} {s : Store} {a : List AV × Store} {r : Ex × St} {v : AV × Store} (hf : T f = some fc) (ha : argsV fc args s = some a)
    (hb : exS (callF T prim) fc.body (st0 fc a.1 a.2) = some r) (he : evEnd fc r = some v) : callF T prim f args s = some v := by
  refine callF_fc hf ?_
  unfold exF
  rw [ha]
  simp only [Option.bind_some,hb]
  exact he
def Wp (x : Option (Ex × St)) (Q : Ex → St → Prop) : Prop := ∃ r, x = some r ∧ Q r.1 r.2
def WpO (x : Option (List AV × Store)) (Q : List AV → Store → Prop) : Prop := ∃ r, x = some r ∧ Q r.1 r.2
def WpT (acc : List Tr) (x : Option (List Tr)) (Q : List Tr → Prop) : Prop := ∃ l, x = some l ∧ Q (acc ++ l)
section
variable {call : CallT}
def thenQ (call : CallT) (b : Stm) (Q : Ex → St → Prop) : Ex → St → Prop := fun e t => match e with | .nor => Wp (exS call b t) Q | .exit k => Q (.exit k) t | .ret => Q .ret t
def blockQ (id : Nat) (Q : Ex → St → Prop) : Ex → St → Prop := fun e t => match e with | .nor => Q .nor t | .exit k => if k = id then Q .nor t else Q (.exit k) t | .ret => Q .ret t
def regQ (Q : Ex → St → Prop) : List AV → Store → Prop := fun vs s => Q .nor ⟨vs, s⟩
def regT (ops : List AO) (chk : List (Nat × Nat)) (Q : Ex → St → Prop) : List Tr → Prop := fun l => ∃ t, l.getLast? = some t ∧ chk.all (chkOne ops l) = true ∧ Q .nor ⟨t.vs, t.s⟩
def loopQ (I : Nat → St → Prop) (n : Nat) (Q : Ex → St → Prop) : Ex → St → Prop := fun e t => match e with | .nor => ∃ m, m < n ∧ I m t | .exit k => Q (.exit k) t | .ret => Q .ret t
def endQ (fc : FC) (Q : AV → Store → Prop) : Ex → St → Prop := fun e t => ∃ v, evEnd fc (e, t) = some v ∧ Q v.1 v.2

theorem Wp.mono {x : Option (Ex × St)} {Q R : Ex → St → Prop} (h : Wp x Q) (k : ∀ e t, Q e t → R e t) : Wp x R := by
  obtain ⟨r,e,q⟩:=h
  exact ⟨r,e,k _ _ q⟩
theorem Wp.of {x : Option (Ex × St)} {r : Ex × St} {Q : Ex → St → Prop} (h : x = some r) (q : Q r.1 r.2) : Wp x Q := ⟨r, h, q⟩
theorem wSeq {a b : Stm} {st : St} {Q : Ex → St → Prop} (h : Wp (exS call a st) (thenQ call b Q)) : Wp (exS call (.seq a b) st) Q := by
  obtain ⟨⟨e,t⟩,h1,h2⟩:=h
  unfold Wp
  rw [exS_seq,h1]
  simp only [Option.bind_some]
  cases e with
  | nor => exact h2
  | exit k => exact ⟨_, rfl, h2⟩
  | ret => exact ⟨_, rfl, h2⟩
theorem thenNor {b : Stm} {t : St} {Q : Ex → St → Prop} (h : Wp (exS call b t) Q) : thenQ call b Q .nor t := h
theorem thenExit {b : Stm} {t : St} {k : Nat} {Q : Ex → St → Prop} (h : Q (.exit k) t) : thenQ call b Q (.exit k) t := h
theorem thenRet {b : Stm} {t : St} {Q : Ex → St → Prop} (h : Q .ret t) : thenQ call b Q .ret t := h
theorem wBlock {id : Nat} {b : Stm} {st : St} {Q : Ex → St → Prop} (h : Wp (exS call b st) (blockQ id Q)) : Wp (exS call (.block id b) st) Q := by
  obtain ⟨⟨e,t⟩,h1,h2⟩:=h
  unfold Wp
  rw [exS_block,h1]
  simp only [Option.bind_some]
  cases e with
  | nor => exact ⟨_, rfl, h2⟩
  | exit k =>
    simp only [blockQ] at h2
    by_cases hk:k = id
    · rw [if_pos hk] at h2; exact ⟨_, if_pos hk, h2⟩
    · rw [if_neg hk] at h2; exact ⟨_, if_neg hk, h2⟩
  | ret => exact ⟨_, rfl, h2⟩
theorem blockNor {id : Nat} {t : St} {Q : Ex → St → Prop} (h : Q .nor t) : blockQ id Q .nor t := h
theorem blockExit {id : Nat} {t : St} {Q : Ex → St → Prop} (h : Q .nor t) : blockQ id Q (.exit id) t := by
  simp only [blockQ,if_true]
  exact h
theorem blockOther {id k : Nat} {t : St} {Q : Ex → St → Prop} (hk : (k == id) = false) (h : Q (.exit k) t) : blockQ id Q (.exit k) t := by
  simp only [blockQ,if_neg (show ¬ k = id by simpa using hk)]
  exact h
theorem blockRet {id : Nat} {t : St} {Q : Ex → St → Prop} (h : Q .ret t) : blockQ id Q .ret t := h
theorem wCondT {c : Opd} {a b : Stm} {vs : List AV} {s : Store} {Q : Ex → St → Prop} (hc : rd [] vs c = .bool true) (h : Wp (exS call a ⟨vs, s⟩) Q) : Wp (exS call (.cond c a b) ⟨vs, s⟩) Q := by
  unfold Wp
  rw [exS_cond]
  simp only [hc,if_true]
  exact h
theorem wCondF {c : Opd} {a b : Stm} {vs : List AV} {s : Store} {Q : Ex → St → Prop} (hc : rd [] vs c = .bool false) (h : Wp (exS call b ⟨vs, s⟩) Q) : Wp (exS call (.cond c a b) ⟨vs, s⟩) Q := by
  unfold Wp
  rw [exS_cond]
  simp only [hc,Bool.false_eq_true,if_false]
  exact h
theorem wExit {id : Nat} {st : St} {Q : Ex → St → Prop} (h : Q (.exit id) st) : Wp (exS call (.exit id) st) Q := ⟨_, exS_exit id st, h⟩
theorem wRet {st : St} {Q : Ex → St → Prop} (h : Q .ret st) : Wp (exS call .ret st) Q := ⟨_, exS_ret st, h⟩
theorem wSkip {st : St} {Q : Ex → St → Prop} (h : Q .nor st) : Wp (exS call .skip st) Q := ⟨_, exS_skip st, h⟩
theorem wReg {ops : List AO} {vs : List AV} {s : Store} {Q : Ex → St → Prop} (h : WpO (evOps call ops [] vs s) (regQ Q)) : Wp (exS call (.reg ops []) ⟨vs, s⟩) Q := by
  obtain ⟨q,h1,h2⟩:=h
  exact ⟨_,regI h1,h2⟩
theorem oNil {ls vs : List AV} {s : Store} {Q : Ex → St → Prop} (h : Q .nor ⟨vs, s⟩) : WpO (evOps call [] ls vs s) (regQ Q) := ⟨_, rfl, h⟩
def Nx (call : CallT) (dv : Option Nat) (r : List AO) (ls vs : List AV) (v : AV) (s : Store) (Q : List AV → Store → Prop) : Prop := WpO (evOps call r (ls ++ [v]) (putV dv vs v) s) Q
theorem oOp {op : AOp} {dv : Option Nat} {g : Option (Nat × Bool)} {r : List AO} {ls vs : List AV} {s s' : Store} {v : AV} {p : AV × Store} {Q : List AV → Store → Prop} (h : evOne call ⟨op, dv, g⟩ ls vs s = some p) (hp : p = (v, s')) (k : Nx call dv r ls vs v s' Q) : WpO (evOps call (⟨op, dv, g⟩ :: r) ls vs s) Q := by
  subst hp
  obtain ⟨q,h1,h2⟩:=k
  exact ⟨q,opsCons h h1,h2⟩
theorem nV {dv : Option Nat} {r : List AO} {ls vs : List AV} {v : AV} {s : Store} {Q : List AV → Store → Prop} (h : WpO (evOps call r (ls ++ [v]) (putV dv vs v) s) Q) : Nx call dv r ls vs v s Q := h
theorem nT {dv : Option Nat} {r : List AO} {ls vs : List AV} {s : Store} {Q : List AV → Store → Prop} (h : WpO (evOps call r (ls ++ [.bool true]) (putV dv vs (.bool true)) s) Q) : Nx call dv r ls vs (.bool true) s Q := h
theorem nF {dv : Option Nat} {r : List AO} {ls vs : List AV} {s : Store} {Q : List AV → Store → Prop} (h : WpO (evOps call r (ls ++ [.bool false]) (putV dv vs (.bool false)) s) Q) : Nx call dv r ls vs (.bool false) s Q := h
theorem nB {dv : Option Nat} {r : List AO} {ls vs : List AV} {b : Bool} {s : Store} {Q : List AV → Store → Prop} (h1 : b = true → WpO (evOps call r (ls ++ [.bool true]) (putV dv vs (.bool true)) s) Q)
    (h2 : b = false → WpO (evOps call r (ls ++ [.bool false]) (putV dv vs (.bool false)) s) Q) : Nx call dv r ls vs (.bool b) s Q := by
  cases b with
  | true => exact h1 rfl
  | false => exact h2 rfl
theorem oCall {f : Nat} {args : List Opd} {dv : Option Nat} {r : List AO} {ls vs : List AV} {s : Store} {az : List AV} {P : AV → Store → Prop} {Q : List AV → Store → Prop} (ha : args.map (rd ls vs) = az) (h : ∃ v s', call f az s = some (v, s') ∧ P v s')
    (k : ∀ v s', P v s' → Nx call dv r ls vs v s' Q) : WpO (evOps call (⟨.call f args, dv, none⟩ :: r) ls vs s) Q := by
  obtain ⟨v,s',e,hp⟩:=h
  refine oOp (v:=v) (s':=s') ?_ rfl (k v s' hp)
  simp only [evOne,evAct,ha]
  exact e
theorem oCallG {f : Nat} {args : List Opd} {dv : Option Nat} {j : Nat} {w : Bool} {r : List AO} {ls vs : List AV} {s : Store} {az : List AV} {P : AV → Store → Prop} {Q : List AV → Store → Prop} (hj : ls.getD j .undef = .bool w) (ha : args.map (rd ls vs) = az)
    (h : ∃ v s', call f az s = some (v, s') ∧ P v s') (k : ∀ v s', P v s' → Nx call dv r ls vs v s' Q) : WpO (evOps call (⟨.call f args, dv, some (j, w)⟩ :: r) ls vs s) Q := by
  obtain ⟨v,s',e,hp⟩:=h
  refine oOp (v:=v) (s':=s') ?_ rfl (k v s' hp)
  simp only [evOne,evAct,ha,hj,if_true]
  exact e
theorem oCallV {g : Opd} {args : List Opd} {dv : Option Nat} {r : List AO} {ls vs : List AV} {s : Store} {f : Nat} {first caps az : List AV} {P : AV → Store → Prop} {Q : List AV → Store → Prop} (hg : rd ls vs g = .fn f first caps) (ha : first ++ args.map (rd ls vs) ++ caps = az)
    (h : ∃ v s', call f az s = some (v, s') ∧ P v s') (k : ∀ v s', P v s' → Nx call dv r ls vs v s' Q) : WpO (evOps call (⟨.callv g args, dv, none⟩ :: r) ls vs s) Q := by
  obtain ⟨v,s',e,hp⟩:=h
  refine oOp (v:=v) (s':=s') ?_ rfl (k v s' hp)
  simp only [evOne,evAct,hg,ha]
  exact e
theorem oCallVG {g : Opd} {args : List Opd} {dv : Option Nat} {j : Nat} {w : Bool} {r : List AO} {ls vs : List AV} {s : Store} {f : Nat} {first caps az : List AV} {P : AV → Store → Prop} {Q : List AV → Store → Prop} (hj : ls.getD j .undef = .bool w) (hg : rd ls vs g = .fn f first caps) (ha : first ++ args.map (rd ls vs) ++ caps = az)
    (h : ∃ v s', call f az s = some (v, s') ∧ P v s') (k : ∀ v s', P v s' → Nx call dv r ls vs v s' Q) : WpO (evOps call (⟨.callv g args, dv, some (j, w)⟩ :: r) ls vs s) Q := by
  obtain ⟨v,s',e,hp⟩:=h
  refine oOp (v:=v) (s':=s') ?_ rfl (k v s' hp)
  simp only [evOne,evAct,hg,ha,hj,if_true]
  exact e
theorem oApp {e sz bytes : Nat} {x y : Opd} {x' y' : AV} {dv : Option Nat} {r : List AO} {ls vs : List AV} {s : Store} {P : AV → Store → Prop} {Q : List AV → Store → Prop} (hx : rd ls vs x = x') (hy : rd ls vs y = y')
    (h : ∃ v s', appV s e sz bytes x' y' = some (v, s') ∧ P v s') (k : ∀ v s', P v s' → Nx call dv r ls vs v s' Q) : WpO (evOps call (⟨.app false e sz bytes x y, dv, none⟩ :: r) ls vs s) Q := by
  obtain ⟨v,s',e,hp⟩:=h
  refine oOp (v:=v) (s':=s') ?_ rfl (k v s' hp)
  simp only [evOne,evAct,evOp,hx,hy,Bool.false_eq_true,if_false]
  exact e
/-! ### regions that draw their order -/
theorem wRegT {ops : List AO} {c : Nat × Nat} {cs : List (Nat × Nat)} {vs : List AV} {s : Store} {Q : Ex → St → Prop} (h : WpT [] (evTr call ops ⟨[], vs, s⟩) (regT ops (c :: cs) Q)) : Wp (exS call (.reg ops (c :: cs)) ⟨vs, s⟩) Q := by
  obtain ⟨l,h1,t,h2,h3,h4⟩:=h
  exact ⟨_,regD h1 (by simpa using h2) (by simpa using h3),h4⟩
theorem tNil {acc : List Tr} {t : Tr} {ops : List AO} {chk : List (Nat × Nat)} {Q : Ex → St → Prop} (hc : chk.all (chkOne ops (acc ++ [t])) = true) (h : Q .nor ⟨t.vs, t.s⟩) : WpT acc (evTr call [] t) (regT ops chk Q) :=
  ⟨[t], rfl, t, by simp, hc, h⟩
def NxT (call : CallT) (acc : List Tr) (dv : Option Nat) (r : List AO) (ls vs : List AV) (v : AV) (s : Store) (Q : List Tr → Prop) : Prop := WpT acc (evTr call r ⟨ls ++ [v], putV dv vs v, s⟩) Q
theorem tOp {acc : List Tr} {op : AOp} {dv : Option Nat} {g : Option (Nat × Bool)} {r : List AO} {ls vs : List AV} {s s' : Store} {v : AV} {p : AV × Store} {Q : List Tr → Prop} (h : evOne call ⟨op, dv, g⟩ ls vs s = some p) (hp : p = (v, s')) (k : NxT call (acc ++ [⟨ls, vs, s⟩]) dv r ls vs v s' Q) :
    WpT acc (evTr call (⟨op, dv, g⟩ :: r) ⟨ls, vs, s⟩) Q := by
  subst hp
  obtain ⟨l,h1,h2⟩:=k
  exact ⟨_,trCons h h1,by simpa using h2⟩
theorem tV {acc : List Tr} {dv : Option Nat} {r : List AO} {ls vs : List AV} {v : AV} {s : Store} {Q : List Tr → Prop} (h : WpT acc (evTr call r ⟨ls ++ [v], putV dv vs v, s⟩) Q) : NxT call acc dv r ls vs v s Q := h
theorem tT {acc : List Tr} {dv : Option Nat} {r : List AO} {ls vs : List AV} {s : Store} {Q : List Tr → Prop} (h : WpT acc (evTr call r ⟨ls ++ [.bool true], putV dv vs (.bool true), s⟩) Q) : NxT call acc dv r ls vs (.bool true) s Q := h
theorem tF {acc : List Tr} {dv : Option Nat} {r : List AO} {ls vs : List AV} {s : Store} {Q : List Tr → Prop} (h : WpT acc (evTr call r ⟨ls ++ [.bool false], putV dv vs (.bool false), s⟩) Q) : NxT call acc dv r ls vs (.bool false) s Q := h
theorem tB {acc : List Tr} {dv : Option Nat} {r : List AO} {ls vs : List AV} {b : Bool} {s : Store} {Q : List Tr → Prop} (h1 : b = true → WpT acc (evTr call r ⟨ls ++ [.bool true], putV dv vs (.bool true), s⟩) Q)
    (h2 : b = false → WpT acc (evTr call r ⟨ls ++ [.bool false], putV dv vs (.bool false), s⟩) Q) : NxT call acc dv r ls vs (.bool b) s Q := by
  cases b with
  | true => exact h1 rfl
  | false => exact h2 rfl
theorem tCall {acc : List Tr} {f : Nat} {args : List Opd} {dv : Option Nat} {r : List AO} {ls vs : List AV} {s : Store} {az : List AV} {P : AV → Store → Prop} {Q : List Tr → Prop} (ha : args.map (rd ls vs) = az) (h : ∃ v s', call f az s = some (v, s') ∧ P v s')
    (k : ∀ v s', P v s' → NxT call (acc ++ [⟨ls, vs, s⟩]) dv r ls vs v s' Q) : WpT acc (evTr call (⟨.call f args, dv, none⟩ :: r) ⟨ls, vs, s⟩) Q := by
  obtain ⟨v,s',e,hp⟩:=h
  refine tOp (v:=v) (s':=s') ?_ rfl (k v s' hp)
  simp only [evOne,evAct,ha]
  exact e
theorem tApp {acc : List Tr} {e sz bytes : Nat} {x y : Opd} {x' y' : AV} {dv : Option Nat} {r : List AO} {ls vs : List AV} {s : Store} {P : AV → Store → Prop} {Q : List Tr → Prop} (hx : rd ls vs x = x') (hy : rd ls vs y = y')
    (h : ∃ v s', appV s e sz bytes x' y' = some (v, s') ∧ P v s') (k : ∀ v s', P v s' → NxT call (acc ++ [⟨ls, vs, s⟩]) dv r ls vs v s' Q) : WpT acc (evTr call (⟨.app false e sz bytes x y, dv, none⟩ :: r) ⟨ls, vs, s⟩) Q := by
  obtain ⟨v,s',e,hp⟩:=h
  refine tOp (v:=v) (s':=s') ?_ rfl (k v s' hp)
  simp only [evOne,evAct,evOp,hx,hy,Bool.false_eq_true,if_false]
  exact e
theorem tCallG {acc : List Tr} {f : Nat} {args : List Opd} {dv : Option Nat} {j : Nat} {w : Bool} {r : List AO} {ls vs : List AV} {s : Store} {az : List AV} {P : AV → Store → Prop} {Q : List Tr → Prop} (hj : ls.getD j .undef = .bool w) (ha : args.map (rd ls vs) = az)
    (h : ∃ v s', call f az s = some (v, s') ∧ P v s') (k : ∀ v s', P v s' → NxT call (acc ++ [⟨ls, vs, s⟩]) dv r ls vs v s' Q) : WpT acc (evTr call (⟨.call f args, dv, some (j, w)⟩ :: r) ⟨ls, vs, s⟩) Q := by
  obtain ⟨v,s',e,hp⟩:=h
  refine tOp (v:=v) (s':=s') ?_ rfl (k v s' hp)
  simp only [evOne,evAct,ha,hj,if_true]
  exact e
/-! ### loops -/
theorem wLoop {b : Stm} {st : St} {Q : Ex → St → Prop} (I : Nat → St → Prop) (n : Nat) (h0 : I n st) (hs : ∀ n st, I n st → Wp (exS call b st) (loopQ I n Q)) : Wp (exS call (.loop b) st) Q := by
  unfold Wp
  rw [exS_loop]
  induction n using Nat.strongRecOn generalizing st with
  | ind n ih =>
    obtain ⟨⟨e,t⟩,h1,h2⟩:=hs n st h0
    cases e with
    | nor =>
      obtain ⟨m,hm,hI⟩:=h2
      rw [loopE_step h1]
      exact ih m hm hI
    | exit k => exact ⟨_, loopE_end h1 (by simp), h2⟩
    | ret => exact ⟨_, loopE_end h1 (by simp), h2⟩
theorem loopNor {I : Nat → St → Prop} {n : Nat} {Q : Ex → St → Prop} {t : St} (m : Nat) (hm : m < n) (h : I m t) : loopQ I n Q .nor t := ⟨m, hm, h⟩
theorem loopExit {I : Nat → St → Prop} {n k : Nat} {Q : Ex → St → Prop} {t : St} (h : Q (.exit k) t) : loopQ I n Q (.exit k) t := h
theorem loopRet {I : Nat → St → Prop} {n : Nat} {Q : Ex → St → Prop} {t : St} (h : Q .ret t) : loopQ I n Q .ret t := h
end
/-! ### functions -/
theorem endI {fc : FC} {Q : AV → Store → Prop} {e : Ex} {t : St} {v : AV} {s : Store} {p : AV × Store} (h : evEnd fc (e, t) = some p) (hp : p = (v, s)) (q : Q v s) : endQ fc Q e t := by
  subst hp
  exact ⟨_,h,q⟩
/-! ### what lies in the store becomes immutable, value by value -/
theorem frz1_slr {s : Store} {d i off n ver e sz pr : Nat} {f : Bool} {cs ys : List AV} (hg : s.get d i = some (.arr e sz cs ver pr)) (hy : (cs.drop off).take (n * sz) = ys) (hl : AV.lowL 0 ys = true) (hn : off + n * sz ≤ cs.length) :
    frz1 s (.slr d i off n ver f) = some (.imm false n ys, s.set d i (.arr e sz cs ver (max pr (off + n * sz)))) := by
  subst hy
  simp only [frz1,hg,hl,hn,and_self,if_true]
theorem frz1_imm {s : Store} {f : Bool} {n : Nat} {cs : List AV} : frz1 s (.imm f n cs) = some (.imm false n cs, s) := rfl
theorem frz1_int {s : Store} {k : IntKind} {n : Int} : frz1 s (.int k n) = some (.int k n, s) := rfl
theorem frz1_bool {s : Store} {b : Bool} : frz1 s (.bool b) = some (.bool b, s) := rfl
theorem frz1_str {s : Store} {b : ByteArray} : frz1 s (.str b) = some (.str b, s) := rfl
theorem frz1_ptr {s : Store} {d i o : Nat} : frz1 s (.ptr d i o) = some (.ptr d i o, s) := rfl
theorem frz1_aptr {s : Store} {d i o v : Nat} : frz1 s (.aptr d i o v) = some (.aptr d i o v, s) := rfl
theorem frz1_fn {s : Store} {f : Nat} {a b : List AV} : frz1 s (.fn f a b) = some (.fn f a b, s) := rfl
theorem frzL_nil {s : Store} : frzL s [] = some ([], s) := rfl
theorem frzL_cons {s : Store} {v : AV} {r : List AV} {p : AV × Store} {q : List AV × Store} (h1 : frz1 s v = some p) (h2 : frzL p.2 r = some q) : frzL s (v :: r) = some (p.1 :: q.1, q.2) := by
  simp only [frzL,h1,Option.bind_some,h2]
theorem frz_agg {s : Store} {r : List AV} {q : List AV × Store} (h : frzL s r = some q) : frz s (.agg r) = some (.agg q.1, q.2) := by
  simp only [frz,h,Option.bind_some]
theorem frz_imm {s : Store} {f : Bool} {n : Nat} {cs : List AV} : frz s (.imm f n cs) = some (.imm false n cs, s) := rfl
theorem frz_slr {s : Store} {d i off n ver : Nat} {f : Bool} {p : AV × Store} (h : frz1 s (.slr d i off n ver f) = some p) : frz s (.slr d i off n ver f) = some p := h
theorem frz_int {s : Store} {k : IntKind} {n : Int} : frz s (.int k n) = some (.int k n, s) := rfl
theorem frz_bool {s : Store} {b : Bool} : frz s (.bool b) = some (.bool b, s) := rfl
theorem frz_str {s : Store} {b : ByteArray} : frz s (.str b) = some (.str b, s) := rfl
theorem frz_ptr {s : Store} {d i o : Nat} : frz s (.ptr d i o) = some (.ptr d i o, s) := rfl
theorem frz_fn {s : Store} {f : Nat} {a b : List AV} : frz s (.fn f a b) = some (.fn f a b, s) := rfl
theorem frzs_nil {s : Store} : frzs s [] = some ([], s) := rfl
theorem frzs_cons {s : Store} {v : AV} {r : List AV} {p : AV × Store} {q : List AV × Store} (h1 : frz s v = some p) (h2 : frzs p.2 r = some q) : frzs s (v :: r) = some (p.1 :: q.1, q.2) := by
  simp only [frzs,h1,Option.bind_some,h2]
theorem frzR_tup {s : Store} {r : List AV} {q : List AV × Store} (h : frzs s r = some q) : frzR s (.tup r) = some (.tup q.1, q.2) := by
  simp only [frzR,h,Option.bind_some]
theorem frzR_agg {s : Store} {r : List AV} {p : AV × Store} (h : frz s (.agg r) = some p) : frzR s (.agg r) = some p := h
theorem frzR_slr {s : Store} {d i off n ver : Nat} {f : Bool} {p : AV × Store} (h : frz1 s (.slr d i off n ver f) = some p) : frzR s (.slr d i off n ver f) = some p := h
theorem frzR_imm {s : Store} {f : Bool} {n : Nat} {cs : List AV} : frzR s (.imm f n cs) = some (.imm false n cs, s) := rfl
theorem frzR_int {s : Store} {k : IntKind} {n : Int} : frzR s (.int k n) = some (.int k n, s) := rfl
theorem frzR_bool {s : Store} {b : Bool} : frzR s (.bool b) = some (.bool b, s) := rfl
theorem frzR_str {s : Store} {b : ByteArray} : frzR s (.str b) = some (.str b, s) := rfl
theorem frzR_ptr {s : Store} {d i o : Nat} : frzR s (.ptr d i o) = some (.ptr d i o, s) := rfl
theorem frzR_fn {s : Store} {f : Nat} {a b : List AV} : frzR s (.fn f a b) = some (.fn f a b, s) := rfl
theorem endN {fc : FC} {Q : AV → Store → Prop} {t : St} {v : AV} {p : AV × Store} {s' : Store} (hi : fc.inl = false) (hk : fc.keep = false) (h1 : resV t.s t.vs fc.res = some v) (h2 : frzR t.s v = some p) (h3 : p.1.lowB p.2.low.length = true) (h4 : p.2.pop = s') (q : Q p.1 s') : endQ fc Q .ret t := by
  subst h4
  refine ⟨(p.1,p.2.pop),?_,q⟩
  simp only [evEnd,h1,hi,hk,frzK,Option.bind_some,Bool.false_eq_true,if_false,h2,h3,if_true]
theorem endN' {fc : FC} {Q : AV → Store → Prop} {t : St} {v : AV} {p : AV × Store} {s' : Store} (hi : fc.inl = false) (hk : fc.keep = false) (h1 : resV t.s t.vs fc.res = some v) (h2 : frzR t.s v = some p) (h3 : p.1.lowB p.2.low.length = true) (h4 : p.2.pop = s') (q : Q p.1 s') : endQ fc Q .nor t := by
  subst h4
  refine ⟨(p.1,p.2.pop),?_,q⟩
  simp only [evEnd,h1,hi,hk,frzK,Option.bind_some,Bool.false_eq_true,if_false,h2,h3,if_true]
theorem endK {fc : FC} {Q : AV → Store → Prop} {t : St} {v : AV} {s' : Store} (hi : fc.inl = false) (hk : fc.keep = true) (h1 : resV t.s t.vs fc.res = some v) (h3 : v.lowB t.s.low.length = true) (h4 : t.s.pop = s') (q : Q v s') : endQ fc Q .ret t := by
  subst h4
  refine ⟨(v,t.s.pop),?_,q⟩
  simp only [evEnd,h1,hi,hk,frzK,Option.bind_some,Bool.false_eq_true,if_false,h3,if_true]
theorem endK' {fc : FC} {Q : AV → Store → Prop} {t : St} {v : AV} {s' : Store} (hi : fc.inl = false) (hk : fc.keep = true) (h1 : resV t.s t.vs fc.res = some v) (h3 : v.lowB t.s.low.length = true) (h4 : t.s.pop = s') (q : Q v s') : endQ fc Q .nor t := by
  subst h4
  refine ⟨(v,t.s.pop),?_,q⟩
  simp only [evEnd,h1,hi,hk,frzK,Option.bind_some,Bool.false_eq_true,if_false,h3,if_true]
theorem callF_frz {T : Nat → Option FC} {prim : CallT} {f : Nat} {fc : FC} {args args' : List AV} {s s' : Store} {r : AV × Store} (hf : T f = some fc) (hr : fc.ref = false) (h1 : frzs s args = some (args', s')) (h2 : frzs s' args' = some (args', s')) (h : callF T prim f args' s' = some r) : callF T prim f args s = some r := by
  have hl:args.length = args'.length:=by
    have:∀ (a:List AV) s a' s',frzs s a = some (a',s')→a.length = a'.length:=by
      intro a
      induction a with
      | nil => intro s a' s' h; simp only [frzs, Option.some.injEq, Prod.mk.injEq] at h; rw [← h.1]
      | cons x r ih =>
        intro s a' s' h
        simp only [frzs] at h
        obtain ⟨p,hp,h⟩:=bind_some h
        obtain ⟨q,hq,h⟩:=bind_some h
        simp only [Option.some.injEq,Prod.mk.injEq] at h
        rw [← h.1,List.length_cons,List.length_cons,ih _ q.1 q.2 hq]
    exact this _ _ _ _ h1
  obtain ⟨n,hn⟩:=callF_ex h
  cases n with
  | zero => cases hn
  | succ n =>
    refine callF_of (n:=n + 1) ?_
    simp only [callN,hf] at hn ⊢
    unfold evF at hn ⊢
    have ha:argsV fc args s = argsV fc args' s':=by
      unfold argsV
      rw [hl,hr]
      simp only [Bool.false_eq_true,if_false,h1,h2]
    rw [ha]
    exact hn
def isQ (v : AV) (s : Store) : AV → Store → Prop := fun v' s' => v' = v ∧ s' = s
theorem isI {v v' : AV} {s s' : Store} (h1 : v' = v) (h2 : s' = s) : isQ v s v' s' := ⟨h1, h2⟩
theorem frm_getC {s : Store} {t : List Obj} {D i : Nat} (h : D = s.low.length + 1) : (frm s t).get D i = t[i]? := by
  subst h
  exact frm_get_top s t i
theorem frm_setC {s : Store} {t : List Obj} {D i : Nat} {o : Obj} (h : D = s.low.length + 1) : (frm s t).set D i o = frm s (t.set i o) := by
  subst h
  exact frm_set_top s t i o
/-! ### literals -/
def seqOk (sz : Nat) : Nat → List (Nat × List AV) → Bool
  | _, [] => true
  | i, (o, p) :: r => o == i * sz && p.length == sz && seqOk sz (i + 1) r
theorem repL_len (n : Nat) (z : List AV) : (repL n z).length = n * z.length := by
  induction n with
  | zero => simp [repL]
  | succ n ih => rw [repL, List.length_append, ih, Nat.succ_mul, Nat.add_comm]
theorem fill_go {z : List AV} : ∀ (ps : List (Nat × List AV)) (i : Nat) (A : List AV), A.length = i * z.length → seqOk z.length i ps = true → fillL (A ++ repL ps.length z) ps = some (A ++ ps.flatMap (·.2))
  | [], i, A, hA, h => by simp [fillL, repL]
  | (o, p) :: r, i, A, hA, h => by
    simp only [seqOk,Bool.and_eq_true,beq_iff_eq] at h
    obtain ⟨⟨rfl,hp⟩,hr⟩:=h
    have hle:i * z.length + p.length ≤ (A ++ repL (r.length + 1) z).length:=by
      rw [List.length_append,repL_len,hA,hp,Nat.succ_mul]
      omega
    simp only [fillL,List.length_cons,hle,if_true]
    have e:(A ++ repL (r.length + 1) z).take (i * z.length) ++ p ++ (A ++ repL (r.length + 1) z).drop (i * z.length + p.length) = (A ++ p) ++ repL r.length z:=by
      rw [← hA,List.take_left,List.drop_append]
      simp only [repL]
      rw [List.drop_eq_nil_of_le (by omega),List.nil_append,show A.length + p.length - A.length = z.length by omega,List.drop_left]
    rw [e,fill_go r (i + 1) (A ++ p) (by rw [List.length_append,hA,hp,Nat.succ_mul]) hr]
    simp
theorem fill_ok {z : List AV} {n : Nat} {ps : List (Nat × List AV)} (hn : n = ps.length) (h : seqOk z.length 0 ps = true) : fillL (repL n z) ps = some (ps.flatMap (·.2)) := by
  subst hn
  simpa using fill_go ps 0 [] (by simp) h
theorem fillL_n (cs : List AV) : fillL cs [] = some cs := rfl
theorem fillL_c (a : AV) (cs : List AV) (o : Nat) (p : List AV) (r : List (Nat × List AV)) : fillL (a :: cs) ((o, p) :: r) = if o + p.length ≤ (a :: cs).length then fillL ((a :: cs).take o ++ p ++ (a :: cs).drop (o + p.length)) r else none := rfl
/-! ### what is decided by numbers -/
theorem wrapI {x : Int} (h : -9223372036854775808 ≤ x ∧ x < 9223372036854775808) : IntKind.i64.wrap x = x := by
  rw [IntKind.wrap_i64]
  omega
theorem wrapB {x : Int} (h : 0 ≤ x ∧ x < 256) : IntKind.u8.wrap x = x := by
  have e:IntKind.u8.wrap x = x % 256:=by simp [IntKind.wrap,IntKind.signed,IntKind.bits]
  rw [e]
  omega
theorem decT {p : Prop} [Decidable p] (h : p) : decide p = true := decide_eq_true h
theorem decF {p : Prop} [Decidable p] (h : ¬ p) : decide p = false := decide_eq_false h
theorem beqT {a b : Int} (h : a = b) : (a == b) = true := by simpa using h
theorem beqF {a b : Int} (h : ¬ a = b) : (a == b) = false := by simpa using h
theorem bneT {a b : Int} (h : ¬ a = b) : (a != b) = true := by simpa using h
theorem bneF {a b : Int} (h : a = b) : (a != b) = false := by simpa using h
theorem obind_congr {α β : Type} {x y : Option α} (f : α → Option β) (h : x = y) : x.bind f = y.bind f := by rw [h]
theorem app_at (T : List Obj) (o : Obj) : (T ++ [o])[T.length]? = some o := by simp
theorem app_st (T : List Obj) (o o' : Obj) : (T ++ [o]).set T.length o' = T ++ [o'] := by simp
theorem minE (k : IntKind) (a b : Int) : minV (.int k a) (.int k b) = some (.int k (if b < a then b else a)) := by simp only [minV, if_true]
theorem zsf {P Q : Prop} (f : Q) (h : Q → P := by intro fx; (simp (disch := first | omega | assumption | (simp only [set_len, frm_len, List.length_set, List.length_append, List.length_cons, List.length_nil]; first | done | omega) | (simp only [seqOk, List.length_cons, List.length_nil, Nat.reduceAdd, Nat.reduceMul, Nat.zero_mul, Nat.reduceBEq, beq_self_eq_true, Bool.and_self, Bool.and_true, Bool.true_and]; (first | done | fail)) | fail) only [push_cast, reduceCtorEq, Nat.reduceAdd, Nat.reduceSub, Nat.reduceMul, Nat.reduceLeDiff, Nat.reduceLT, Nat.reduceEqDiff, Int.reduceToNat, Int.reduceLT, Int.reduceLE, Int.reduceBEq, Int.reduceEq, Int.reduceSub, Int.reduceAdd, Int.reduceMul, Int.reduceNeg, frm_get, frm_set, set_set, fill_ok, fillL_n, fillL_c, List.flatMap_cons, List.flatMap_nil, set_len, frm_getC, frm_setC, wrapI, wrapB, if_pos, if_neg, decT, decF, beqT, beqF, bneT, bneF, minE, app_at, app_st, Int.toNat_natCast, List.set_set, List.getElem?_set_self, List.getElem?_set_ne, fx]; rfl)) : P := h f
theorem zs {P : Prop} (h : P := by (simp (disch := first | omega | assumption | (simp only [set_len, frm_len, List.length_set, List.length_append, List.length_cons, List.length_nil]; first | done | omega) | (simp only [seqOk, List.length_cons, List.length_nil, Nat.reduceAdd, Nat.reduceMul, Nat.zero_mul, Nat.reduceBEq, beq_self_eq_true, Bool.and_self, Bool.and_true, Bool.true_and]; (first | done | fail)) | fail) only [push_cast, reduceCtorEq, Nat.reduceAdd, Nat.reduceSub, Nat.reduceMul, Nat.reduceLeDiff, Nat.reduceLT, Nat.reduceEqDiff, Int.reduceToNat, Int.reduceLT, Int.reduceLE, Int.reduceBEq, Int.reduceEq, Int.reduceSub, Int.reduceAdd, Int.reduceMul, Int.reduceNeg, frm_get, frm_set, set_set, fill_ok, fillL_n, fillL_c, List.flatMap_cons, List.flatMap_nil, set_len, frm_getC, frm_setC, wrapI, wrapB, if_pos, if_neg, decT, decF, beqT, beqF, bneT, bneF, minE, app_at, app_st, Int.toNat_natCast, List.set_set, List.getElem?_set_self, List.getElem?_set_ne]; rfl)) : P := h
theorem zdf {P Q : Prop} (f : Q) (h : Q → P := by intro fx; (simp (disch := first | omega | assumption | (simp only [set_len, frm_len, List.length_set, List.length_append, List.length_cons, List.length_nil]; first | done | omega) | (simp only [seqOk, List.length_cons, List.length_nil, Nat.reduceAdd, Nat.reduceMul, Nat.zero_mul, Nat.reduceBEq, beq_self_eq_true, Bool.and_self, Bool.and_true, Bool.true_and]; (first | done | fail)) | fail) only [push_cast, reduceCtorEq, Nat.reduceAdd, Nat.reduceSub, Nat.reduceMul, Nat.reduceLeDiff, Nat.reduceLT, Nat.reduceEqDiff, Int.reduceToNat, Int.reduceLT, Int.reduceLE, Int.reduceBEq, Int.reduceEq, Int.reduceSub, Int.reduceAdd, Int.reduceMul, Int.reduceNeg, frm_get, frm_set, set_set, fill_ok, fillL_n, fillL_c, List.flatMap_cons, List.flatMap_nil, set_len, frm_getC, frm_setC, wrapI, wrapB, if_pos, if_neg, decT, decF, beqT, beqF, bneT, bneF, minE, app_at, app_st, Int.toNat_natCast, List.set_set, List.getElem?_set_self, List.getElem?_set_ne, fx]; (first | done | fail))) : P := h f
theorem zd {P : Prop} (h : P := by (simp (disch := first | omega | assumption | (simp only [set_len, frm_len, List.length_set, List.length_append, List.length_cons, List.length_nil]; first | done | omega) | (simp only [seqOk, List.length_cons, List.length_nil, Nat.reduceAdd, Nat.reduceMul, Nat.zero_mul, Nat.reduceBEq, beq_self_eq_true, Bool.and_self, Bool.and_true, Bool.true_and]; (first | done | fail)) | fail) only [push_cast, reduceCtorEq, Nat.reduceAdd, Nat.reduceSub, Nat.reduceMul, Nat.reduceLeDiff, Nat.reduceLT, Nat.reduceEqDiff, Int.reduceToNat, Int.reduceLT, Int.reduceLE, Int.reduceBEq, Int.reduceEq, Int.reduceSub, Int.reduceAdd, Int.reduceMul, Int.reduceNeg, frm_get, frm_set, set_set, fill_ok, fillL_n, fillL_c, List.flatMap_cons, List.flatMap_nil, set_len, frm_getC, frm_setC, wrapI, wrapB, if_pos, if_neg, decT, decF, beqT, beqF, bneT, bneF, minE, app_at, app_st, Int.toNat_natCast, List.set_set, List.getElem?_set_self, List.getElem?_set_ne]; (first | done | fail))) : P := h
theorem zcf {P Q : Prop} (f : Q) (h : Q → P := by intro fx; (simp (disch := first | omega | assumption | (simp only [set_len, frm_len, List.length_set, List.length_append, List.length_cons, List.length_nil]; first | done | omega) | (simp only [seqOk, List.length_cons, List.length_nil, Nat.reduceAdd, Nat.reduceMul, Nat.zero_mul, Nat.reduceBEq, beq_self_eq_true, Bool.and_self, Bool.and_true, Bool.true_and]; (first | done | fail)) | fail) only [chkOne, noCall, same_self, List.nil_append, List.cons_append, push_cast, reduceCtorEq, Nat.reduceAdd, Nat.reduceSub, Nat.reduceMul, Nat.reduceLeDiff, Nat.reduceLT, Nat.reduceEqDiff, Int.reduceToNat, Int.reduceLT, Int.reduceLE, Int.reduceBEq, Int.reduceEq, Int.reduceSub, Int.reduceAdd, Int.reduceMul, Int.reduceNeg, frm_get, frm_set, set_set, fill_ok, fillL_n, fillL_c, List.flatMap_cons, List.flatMap_nil, set_len, frm_getC, frm_setC, wrapI, wrapB, if_pos, if_neg, decT, decF, beqT, beqF, bneT, bneF, minE, app_at, app_st, Int.toNat_natCast, List.set_set, List.getElem?_set_self, List.getElem?_set_ne, fx]; (first | done | fail))) : P := h f
theorem zc {P : Prop} (h : P := by (simp (disch := first | omega | assumption | (simp only [set_len, frm_len, List.length_set, List.length_append, List.length_cons, List.length_nil]; first | done | omega) | (simp only [seqOk, List.length_cons, List.length_nil, Nat.reduceAdd, Nat.reduceMul, Nat.zero_mul, Nat.reduceBEq, beq_self_eq_true, Bool.and_self, Bool.and_true, Bool.true_and]; (first | done | fail)) | fail) only [chkOne, noCall, same_self, List.nil_append, List.cons_append, push_cast, reduceCtorEq, Nat.reduceAdd, Nat.reduceSub, Nat.reduceMul, Nat.reduceLeDiff, Nat.reduceLT, Nat.reduceEqDiff, Int.reduceToNat, Int.reduceLT, Int.reduceLE, Int.reduceBEq, Int.reduceEq, Int.reduceSub, Int.reduceAdd, Int.reduceMul, Int.reduceNeg, frm_get, frm_set, set_set, fill_ok, fillL_n, fillL_c, List.flatMap_cons, List.flatMap_nil, set_len, frm_getC, frm_setC, wrapI, wrapB, if_pos, if_neg, decT, decF, beqT, beqF, bneT, bneF, minE, app_at, app_st, Int.toNat_natCast, List.set_set, List.getElem?_set_self, List.getElem?_set_ne]; (first | done | fail))) : P := h
theorem zzf {P Q : Prop} (f : Q) (h : Q → P := by intro fx; (repeat' (first | (with_reducible exact frzL_nil) | (with_reducible exact frzs_nil) | (with_reducible apply frzL_cons) | (with_reducible apply frzs_cons) | (with_reducible apply frz_agg) | (with_reducible apply frzR_agg) | (with_reducible apply frzR_tup) | (with_reducible exact frz1_imm) | (with_reducible exact frz_imm) | (with_reducible exact frzR_imm) | (with_reducible exact frz1_int) | (with_reducible exact frz_int) | (with_reducible exact frzR_int) | (with_reducible exact frz1_bool) | (with_reducible exact frz_bool) | (with_reducible exact frzR_bool) | (with_reducible exact frz1_str) | (with_reducible exact frz_str) | (with_reducible exact frzR_str) | (with_reducible exact frz1_ptr) | (with_reducible exact frz_ptr) | (with_reducible exact frzR_ptr) | (with_reducible exact frz1_fn) | (with_reducible exact frz_fn) | (with_reducible exact frzR_fn) | (with_reducible exact frz1_aptr) | (with_reducible apply frz_slr) | (with_reducible apply frzR_slr) | ((with_reducible apply frz1_slr); (focus (simp (disch := first | omega | assumption | (simp only [set_len, frm_len, List.length_set, List.length_append, List.length_cons, List.length_nil]; first | done | omega) | (simp only [seqOk, List.length_cons, List.length_nil, Nat.reduceAdd, Nat.reduceMul, Nat.zero_mul, Nat.reduceBEq, beq_self_eq_true, Bool.and_self, Bool.and_true, Bool.true_and]; (first | done | fail)) | fail) only [push_cast, reduceCtorEq, Nat.reduceAdd, Nat.reduceSub, Nat.reduceMul, Nat.reduceLeDiff, Nat.reduceLT, Nat.reduceEqDiff, Int.reduceToNat, Int.reduceLT, Int.reduceLE, Int.reduceBEq, Int.reduceEq, Int.reduceSub, Int.reduceAdd, Int.reduceMul, Int.reduceNeg, frm_get, frm_set, set_set, fill_ok, fillL_n, fillL_c, List.flatMap_cons, List.flatMap_nil, set_len, frm_getC, frm_setC, wrapI, wrapB, if_pos, if_neg, decT, decF, beqT, beqF, bneT, bneF, minE, app_at, app_st, Int.toNat_natCast, List.set_set, List.getElem?_set_self, List.getElem?_set_ne, fx]; rfl)); (focus (simp (disch := first | omega | assumption | (simp only [set_len, frm_len, List.length_set, List.length_append, List.length_cons, List.length_nil]; first | done | omega) | (simp only [seqOk, List.length_cons, List.length_nil, Nat.reduceAdd, Nat.reduceMul, Nat.zero_mul, Nat.reduceBEq, beq_self_eq_true, Bool.and_self, Bool.and_true, Bool.true_and]; (first | done | fail)) | fail) only [push_cast, reduceCtorEq, Nat.reduceAdd, Nat.reduceSub, Nat.reduceMul, Nat.reduceLeDiff, Nat.reduceLT, Nat.reduceEqDiff, Int.reduceToNat, Int.reduceLT, Int.reduceLE, Int.reduceBEq, Int.reduceEq, Int.reduceSub, Int.reduceAdd, Int.reduceMul, Int.reduceNeg, frm_get, frm_set, set_set, fill_ok, fillL_n, fillL_c, List.flatMap_cons, List.flatMap_nil, set_len, frm_getC, frm_setC, wrapI, wrapB, if_pos, if_neg, decT, decF, beqT, beqF, bneT, bneF, minE, app_at, app_st, Int.toNat_natCast, List.set_set, List.getElem?_set_self, List.getElem?_set_ne, fx] <;> rfl)); (focus (simp (disch := first | omega | assumption | (simp only [set_len, frm_len, List.length_set, List.length_append, List.length_cons, List.length_nil]; first | done | omega) | (simp only [seqOk, List.length_cons, List.length_nil, Nat.reduceAdd, Nat.reduceMul, Nat.zero_mul, Nat.reduceBEq, beq_self_eq_true, Bool.and_self, Bool.and_true, Bool.true_and]; (first | done | fail)) | fail) only [push_cast, reduceCtorEq, Nat.reduceAdd, Nat.reduceSub, Nat.reduceMul, Nat.reduceLeDiff, Nat.reduceLT, Nat.reduceEqDiff, Int.reduceToNat, Int.reduceLT, Int.reduceLE, Int.reduceBEq, Int.reduceEq, Int.reduceSub, Int.reduceAdd, Int.reduceMul, Int.reduceNeg, frm_get, frm_set, set_set, fill_ok, fillL_n, fillL_c, List.flatMap_cons, List.flatMap_nil, set_len, frm_getC, frm_setC, wrapI, wrapB, if_pos, if_neg, decT, decF, beqT, beqF, bneT, bneF, minE, app_at, app_st, Int.toNat_natCast, List.set_set, List.getElem?_set_self, List.getElem?_set_ne, fx]; (first | done | fail))); (focus (first | (simp (disch := first | omega | assumption | (simp only [set_len, frm_len, List.length_set, List.length_append, List.length_cons, List.length_nil]; first | done | omega) | (simp only [seqOk, List.length_cons, List.length_nil, Nat.reduceAdd, Nat.reduceMul, Nat.zero_mul, Nat.reduceBEq, beq_self_eq_true, Bool.and_self, Bool.and_true, Bool.true_and]; (first | done | fail)) | fail) only [push_cast, reduceCtorEq, Nat.reduceAdd, Nat.reduceSub, Nat.reduceMul, Nat.reduceLeDiff, Nat.reduceLT, Nat.reduceEqDiff, Int.reduceToNat, Int.reduceLT, Int.reduceLE, Int.reduceBEq, Int.reduceEq, Int.reduceSub, Int.reduceAdd, Int.reduceMul, Int.reduceNeg, frm_get, frm_set, set_set, fill_ok, fillL_n, fillL_c, List.flatMap_cons, List.flatMap_nil, set_len, frm_getC, frm_setC, wrapI, wrapB, if_pos, if_neg, decT, decF, beqT, beqF, bneT, bneF, minE, app_at, app_st, Int.toNat_natCast, List.set_set, List.getElem?_set_self, List.getElem?_set_ne, fx]; (first | done | fail)) | (simp (disch := first | omega | assumption | (simp only [set_len, frm_len, List.length_set, List.length_append, List.length_cons, List.length_nil]; first | done | omega) | (simp only [seqOk, List.length_cons, List.length_nil, Nat.reduceAdd, Nat.reduceMul, Nat.zero_mul, Nat.reduceBEq, beq_self_eq_true, Bool.and_self, Bool.and_true, Bool.true_and]; (first | done | fail)) | fail) only [push_cast, reduceCtorEq, Nat.reduceAdd, Nat.reduceSub, Nat.reduceMul, Nat.reduceLeDiff, Nat.reduceLT, Nat.reduceEqDiff, Int.reduceToNat, Int.reduceLT, Int.reduceLE, Int.reduceBEq, Int.reduceEq, Int.reduceSub, Int.reduceAdd, Int.reduceMul, Int.reduceNeg, frm_get, frm_set, set_set, fill_ok, fillL_n, fillL_c, List.flatMap_cons, List.flatMap_nil, set_len, frm_getC, frm_setC, wrapI, wrapB, if_pos, if_neg, decT, decF, beqT, beqF, bneT, bneF, minE, app_at, app_st, Int.toNat_natCast, List.set_set, List.getElem?_set_self, List.getElem?_set_ne, fx]; omega)))) | dsimp only))) : P := h f
theorem zz {P : Prop} (h : P := by (repeat' (first | (with_reducible exact frzL_nil) | (with_reducible exact frzs_nil) | (with_reducible apply frzL_cons) | (with_reducible apply frzs_cons) | (with_reducible apply frz_agg) | (with_reducible apply frzR_agg) | (with_reducible apply frzR_tup) | (with_reducible exact frz1_imm) | (with_reducible exact frz_imm) | (with_reducible exact frzR_imm) | (with_reducible exact frz1_int) | (with_reducible exact frz_int) | (with_reducible exact frzR_int) | (with_reducible exact frz1_bool) | (with_reducible exact frz_bool) | (with_reducible exact frzR_bool) | (with_reducible exact frz1_str) | (with_reducible exact frz_str) | (with_reducible exact frzR_str) | (with_reducible exact frz1_ptr) | (with_reducible exact frz_ptr) | (with_reducible exact frzR_ptr) | (with_reducible exact frz1_fn) | (with_reducible exact frz_fn) | (with_reducible exact frzR_fn) | (with_reducible exact frz1_aptr) | (with_reducible apply frz_slr) | (with_reducible apply frzR_slr) | ((with_reducible apply frz1_slr); (focus (simp (disch := first | omega | assumption | (simp only [set_len, frm_len, List.length_set, List.length_append, List.length_cons, List.length_nil]; first | done | omega) | (simp only [seqOk, List.length_cons, List.length_nil, Nat.reduceAdd, Nat.reduceMul, Nat.zero_mul, Nat.reduceBEq, beq_self_eq_true, Bool.and_self, Bool.and_true, Bool.true_and]; (first | done | fail)) | fail) only [push_cast, reduceCtorEq, Nat.reduceAdd, Nat.reduceSub, Nat.reduceMul, Nat.reduceLeDiff, Nat.reduceLT, Nat.reduceEqDiff, Int.reduceToNat, Int.reduceLT, Int.reduceLE, Int.reduceBEq, Int.reduceEq, Int.reduceSub, Int.reduceAdd, Int.reduceMul, Int.reduceNeg, frm_get, frm_set, set_set, fill_ok, fillL_n, fillL_c, List.flatMap_cons, List.flatMap_nil, set_len, frm_getC, frm_setC, wrapI, wrapB, if_pos, if_neg, decT, decF, beqT, beqF, bneT, bneF, minE, app_at, app_st, Int.toNat_natCast, List.set_set, List.getElem?_set_self, List.getElem?_set_ne]; rfl)); (focus (simp (disch := first | omega | assumption | (simp only [set_len, frm_len, List.length_set, List.length_append, List.length_cons, List.length_nil]; first | done | omega) | (simp only [seqOk, List.length_cons, List.length_nil, Nat.reduceAdd, Nat.reduceMul, Nat.zero_mul, Nat.reduceBEq, beq_self_eq_true, Bool.and_self, Bool.and_true, Bool.true_and]; (first | done | fail)) | fail) only [push_cast, reduceCtorEq, Nat.reduceAdd, Nat.reduceSub, Nat.reduceMul, Nat.reduceLeDiff, Nat.reduceLT, Nat.reduceEqDiff, Int.reduceToNat, Int.reduceLT, Int.reduceLE, Int.reduceBEq, Int.reduceEq, Int.reduceSub, Int.reduceAdd, Int.reduceMul, Int.reduceNeg, frm_get, frm_set, set_set, fill_ok, fillL_n, fillL_c, List.flatMap_cons, List.flatMap_nil, set_len, frm_getC, frm_setC, wrapI, wrapB, if_pos, if_neg, decT, decF, beqT, beqF, bneT, bneF, minE, app_at, app_st, Int.toNat_natCast, List.set_set, List.getElem?_set_self, List.getElem?_set_ne] <;> rfl)); (focus (simp (disch := first | omega | assumption | (simp only [set_len, frm_len, List.length_set, List.length_append, List.length_cons, List.length_nil]; first | done | omega) | (simp only [seqOk, List.length_cons, List.length_nil, Nat.reduceAdd, Nat.reduceMul, Nat.zero_mul, Nat.reduceBEq, beq_self_eq_true, Bool.and_self, Bool.and_true, Bool.true_and]; (first | done | fail)) | fail) only [push_cast, reduceCtorEq, Nat.reduceAdd, Nat.reduceSub, Nat.reduceMul, Nat.reduceLeDiff, Nat.reduceLT, Nat.reduceEqDiff, Int.reduceToNat, Int.reduceLT, Int.reduceLE, Int.reduceBEq, Int.reduceEq, Int.reduceSub, Int.reduceAdd, Int.reduceMul, Int.reduceNeg, frm_get, frm_set, set_set, fill_ok, fillL_n, fillL_c, List.flatMap_cons, List.flatMap_nil, set_len, frm_getC, frm_setC, wrapI, wrapB, if_pos, if_neg, decT, decF, beqT, beqF, bneT, bneF, minE, app_at, app_st, Int.toNat_natCast, List.set_set, List.getElem?_set_self, List.getElem?_set_ne]; (first | done | fail))); (focus (first | (simp (disch := first | omega | assumption | (simp only [set_len, frm_len, List.length_set, List.length_append, List.length_cons, List.length_nil]; first | done | omega) | (simp only [seqOk, List.length_cons, List.length_nil, Nat.reduceAdd, Nat.reduceMul, Nat.zero_mul, Nat.reduceBEq, beq_self_eq_true, Bool.and_self, Bool.and_true, Bool.true_and]; (first | done | fail)) | fail) only [push_cast, reduceCtorEq, Nat.reduceAdd, Nat.reduceSub, Nat.reduceMul, Nat.reduceLeDiff, Nat.reduceLT, Nat.reduceEqDiff, Int.reduceToNat, Int.reduceLT, Int.reduceLE, Int.reduceBEq, Int.reduceEq, Int.reduceSub, Int.reduceAdd, Int.reduceMul, Int.reduceNeg, frm_get, frm_set, set_set, fill_ok, fillL_n, fillL_c, List.flatMap_cons, List.flatMap_nil, set_len, frm_getC, frm_setC, wrapI, wrapB, if_pos, if_neg, decT, decF, beqT, beqF, bneT, bneF, minE, app_at, app_st, Int.toNat_natCast, List.set_set, List.getElem?_set_self, List.getElem?_set_ne]; (first | done | fail)) | (simp (disch := first | omega | assumption | (simp only [set_len, frm_len, List.length_set, List.length_append, List.length_cons, List.length_nil]; first | done | omega) | (simp only [seqOk, List.length_cons, List.length_nil, Nat.reduceAdd, Nat.reduceMul, Nat.zero_mul, Nat.reduceBEq, beq_self_eq_true, Bool.and_self, Bool.and_true, Bool.true_and]; (first | done | fail)) | fail) only [push_cast, reduceCtorEq, Nat.reduceAdd, Nat.reduceSub, Nat.reduceMul, Nat.reduceLeDiff, Nat.reduceLT, Nat.reduceEqDiff, Int.reduceToNat, Int.reduceLT, Int.reduceLE, Int.reduceBEq, Int.reduceEq, Int.reduceSub, Int.reduceAdd, Int.reduceMul, Int.reduceNeg, frm_get, frm_set, set_set, fill_ok, fillL_n, fillL_c, List.flatMap_cons, List.flatMap_nil, set_len, frm_getC, frm_setC, wrapI, wrapB, if_pos, if_neg, decT, decF, beqT, beqF, bneT, bneF, minE, app_at, app_st, Int.toNat_natCast, List.set_set, List.getElem?_set_self, List.getElem?_set_ne]; omega)))) | dsimp only))) : P := h
theorem zt {P : Prop} (h : P := by (simp only [st0, push_frm, if_false, if_true, Bool.false_eq_true, Nat.reduceSub, List.replicate, List.cons_append, List.nil_append]; rfl)) : P := h
theorem zr {P : Prop} (h : P := by (simp only [rd, List.map_cons, List.map_nil, List.getD_cons_zero, List.getD_cons_succ, List.nil_append, List.cons_append] <;> rfl)) : P := h
theorem zg {P : Prop} (h : P := by (simp only [rd, List.getD_cons_zero, List.getD_cons_succ]; (first | done | fail))) : P := h
theorem ze {P : Prop} (h : P := by (simp (disch := first | omega | assumption | (simp only [set_len, frm_len, List.length_set, List.length_append, List.length_cons, List.length_nil]; first | done | omega) | (simp only [seqOk, List.length_cons, List.length_nil, Nat.reduceAdd, Nat.reduceMul, Nat.zero_mul, Nat.reduceBEq, beq_self_eq_true, Bool.and_self, Bool.and_true, Bool.true_and]; (first | done | fail)) | fail) only [frm_setC, frm_set, set_len, frm_set_top, pop_frm]; rfl)) : P := h
theorem argsF {np : Nat} {args : List AV} {s : Store} {p : List AV × Store} (hl : args.length = np) (h : frzs s args = some p) : argsV ⟨np, 0, .skip, [], false, false, false⟩ args s = some p := by
  unfold argsV
  simp only [hl,if_true,Bool.false_eq_true,if_false]
  exact h
theorem zaf {P Q : Prop} (f : Q) (h : Q → P := by intro fx; apply argsF; (focus (exact rfl)); (repeat' (first | (with_reducible exact frzL_nil) | (with_reducible exact frzs_nil) | (with_reducible apply frzL_cons) | (with_reducible apply frzs_cons) | (with_reducible apply frz_agg) | (with_reducible apply frzR_agg) | (with_reducible apply frzR_tup) | (with_reducible exact frz1_imm) | (with_reducible exact frz_imm) | (with_reducible exact frzR_imm) | (with_reducible exact frz1_int) | (with_reducible exact frz_int) | (with_reducible exact frzR_int) | (with_reducible exact frz1_bool) | (with_reducible exact frz_bool) | (with_reducible exact frzR_bool) | (with_reducible exact frz1_str) | (with_reducible exact frz_str) | (with_reducible exact frzR_str) | (with_reducible exact frz1_ptr) | (with_reducible exact frz_ptr) | (with_reducible exact frzR_ptr) | (with_reducible exact frz1_fn) | (with_reducible exact frz_fn) | (with_reducible exact frzR_fn) | (with_reducible exact frz1_aptr) | (with_reducible apply frz_slr) | (with_reducible apply frzR_slr) | ((with_reducible apply frz1_slr); (focus (simp (disch := first | omega | assumption | (simp only [set_len, frm_len, List.length_set, List.length_append, List.length_cons, List.length_nil]; first | done | omega) | (simp only [seqOk, List.length_cons, List.length_nil, Nat.reduceAdd, Nat.reduceMul, Nat.zero_mul, Nat.reduceBEq, beq_self_eq_true, Bool.and_self, Bool.and_true, Bool.true_and]; (first | done | fail)) | fail) only [push_cast, reduceCtorEq, Nat.reduceAdd, Nat.reduceSub, Nat.reduceMul, Nat.reduceLeDiff, Nat.reduceLT, Nat.reduceEqDiff, Int.reduceToNat, Int.reduceLT, Int.reduceLE, Int.reduceBEq, Int.reduceEq, Int.reduceSub, Int.reduceAdd, Int.reduceMul, Int.reduceNeg, frm_get, frm_set, set_set, fill_ok, fillL_n, fillL_c, List.flatMap_cons, List.flatMap_nil, set_len, frm_getC, frm_setC, wrapI, wrapB, if_pos, if_neg, decT, decF, beqT, beqF, bneT, bneF, minE, app_at, app_st, Int.toNat_natCast, List.set_set, List.getElem?_set_self, List.getElem?_set_ne, fx]; rfl)); (focus (simp (disch := first | omega | assumption | (simp only [set_len, frm_len, List.length_set, List.length_append, List.length_cons, List.length_nil]; first | done | omega) | (simp only [seqOk, List.length_cons, List.length_nil, Nat.reduceAdd, Nat.reduceMul, Nat.zero_mul, Nat.reduceBEq, beq_self_eq_true, Bool.and_self, Bool.and_true, Bool.true_and]; (first | done | fail)) | fail) only [push_cast, reduceCtorEq, Nat.reduceAdd, Nat.reduceSub, Nat.reduceMul, Nat.reduceLeDiff, Nat.reduceLT, Nat.reduceEqDiff, Int.reduceToNat, Int.reduceLT, Int.reduceLE, Int.reduceBEq, Int.reduceEq, Int.reduceSub, Int.reduceAdd, Int.reduceMul, Int.reduceNeg, frm_get, frm_set, set_set, fill_ok, fillL_n, fillL_c, List.flatMap_cons, List.flatMap_nil, set_len, frm_getC, frm_setC, wrapI, wrapB, if_pos, if_neg, decT, decF, beqT, beqF, bneT, bneF, minE, app_at, app_st, Int.toNat_natCast, List.set_set, List.getElem?_set_self, List.getElem?_set_ne, fx] <;> rfl)); (focus (simp (disch := first | omega | assumption | (simp only [set_len, frm_len, List.length_set, List.length_append, List.length_cons, List.length_nil]; first | done | omega) | (simp only [seqOk, List.length_cons, List.length_nil, Nat.reduceAdd, Nat.reduceMul, Nat.zero_mul, Nat.reduceBEq, beq_self_eq_true, Bool.and_self, Bool.and_true, Bool.true_and]; (first | done | fail)) | fail) only [push_cast, reduceCtorEq, Nat.reduceAdd, Nat.reduceSub, Nat.reduceMul, Nat.reduceLeDiff, Nat.reduceLT, Nat.reduceEqDiff, Int.reduceToNat, Int.reduceLT, Int.reduceLE, Int.reduceBEq, Int.reduceEq, Int.reduceSub, Int.reduceAdd, Int.reduceMul, Int.reduceNeg, frm_get, frm_set, set_set, fill_ok, fillL_n, fillL_c, List.flatMap_cons, List.flatMap_nil, set_len, frm_getC, frm_setC, wrapI, wrapB, if_pos, if_neg, decT, decF, beqT, beqF, bneT, bneF, minE, app_at, app_st, Int.toNat_natCast, List.set_set, List.getElem?_set_self, List.getElem?_set_ne, fx]; (first | done | fail))); (focus (first | (simp (disch := first | omega | assumption | (simp only [set_len, frm_len, List.length_set, List.length_append, List.length_cons, List.length_nil]; first | done | omega) | (simp only [seqOk, List.length_cons, List.length_nil, Nat.reduceAdd, Nat.reduceMul, Nat.zero_mul, Nat.reduceBEq, beq_self_eq_true, Bool.and_self, Bool.and_true, Bool.true_and]; (first | done | fail)) | fail) only [push_cast, reduceCtorEq, Nat.reduceAdd, Nat.reduceSub, Nat.reduceMul, Nat.reduceLeDiff, Nat.reduceLT, Nat.reduceEqDiff, Int.reduceToNat, Int.reduceLT, Int.reduceLE, Int.reduceBEq, Int.reduceEq, Int.reduceSub, Int.reduceAdd, Int.reduceMul, Int.reduceNeg, frm_get, frm_set, set_set, fill_ok, fillL_n, fillL_c, List.flatMap_cons, List.flatMap_nil, set_len, frm_getC, frm_setC, wrapI, wrapB, if_pos, if_neg, decT, decF, beqT, beqF, bneT, bneF, minE, app_at, app_st, Int.toNat_natCast, List.set_set, List.getElem?_set_self, List.getElem?_set_ne, fx]; (first | done | fail)) | (simp (disch := first | omega | assumption | (simp only [set_len, frm_len, List.length_set, List.length_append, List.length_cons, List.length_nil]; first | done | omega) | (simp only [seqOk, List.length_cons, List.length_nil, Nat.reduceAdd, Nat.reduceMul, Nat.zero_mul, Nat.reduceBEq, beq_self_eq_true, Bool.and_self, Bool.and_true, Bool.true_and]; (first | done | fail)) | fail) only [push_cast, reduceCtorEq, Nat.reduceAdd, Nat.reduceSub, Nat.reduceMul, Nat.reduceLeDiff, Nat.reduceLT, Nat.reduceEqDiff, Int.reduceToNat, Int.reduceLT, Int.reduceLE, Int.reduceBEq, Int.reduceEq, Int.reduceSub, Int.reduceAdd, Int.reduceMul, Int.reduceNeg, frm_get, frm_set, set_set, fill_ok, fillL_n, fillL_c, List.flatMap_cons, List.flatMap_nil, set_len, frm_getC, frm_setC, wrapI, wrapB, if_pos, if_neg, decT, decF, beqT, beqF, bneT, bneF, minE, app_at, app_st, Int.toNat_natCast, List.set_set, List.getElem?_set_self, List.getElem?_set_ne, fx]; omega)))) | dsimp only))) : P := h f
theorem za {P : Prop} (h : P := by apply argsF; (focus (exact rfl)); (repeat' (first | (with_reducible exact frzL_nil) | (with_reducible exact frzs_nil) | (with_reducible apply frzL_cons) | (with_reducible apply frzs_cons) | (with_reducible apply frz_agg) | (with_reducible apply frzR_agg) | (with_reducible apply frzR_tup) | (with_reducible exact frz1_imm) | (with_reducible exact frz_imm) | (with_reducible exact frzR_imm) | (with_reducible exact frz1_int) | (with_reducible exact frz_int) | (with_reducible exact frzR_int) | (with_reducible exact frz1_bool) | (with_reducible exact frz_bool) | (with_reducible exact frzR_bool) | (with_reducible exact frz1_str) | (with_reducible exact frz_str) | (with_reducible exact frzR_str) | (with_reducible exact frz1_ptr) | (with_reducible exact frz_ptr) | (with_reducible exact frzR_ptr) | (with_reducible exact frz1_fn) | (with_reducible exact frz_fn) | (with_reducible exact frzR_fn) | (with_reducible exact frz1_aptr) | (with_reducible apply frz_slr) | (with_reducible apply frzR_slr) | ((with_reducible apply frz1_slr); (focus (simp (disch := first | omega | assumption | (simp only [set_len, frm_len, List.length_set, List.length_append, List.length_cons, List.length_nil]; first | done | omega) | (simp only [seqOk, List.length_cons, List.length_nil, Nat.reduceAdd, Nat.reduceMul, Nat.zero_mul, Nat.reduceBEq, beq_self_eq_true, Bool.and_self, Bool.and_true, Bool.true_and]; (first | done | fail)) | fail) only [push_cast, reduceCtorEq, Nat.reduceAdd, Nat.reduceSub, Nat.reduceMul, Nat.reduceLeDiff, Nat.reduceLT, Nat.reduceEqDiff, Int.reduceToNat, Int.reduceLT, Int.reduceLE, Int.reduceBEq, Int.reduceEq, Int.reduceSub, Int.reduceAdd, Int.reduceMul, Int.reduceNeg, frm_get, frm_set, set_set, fill_ok, fillL_n, fillL_c, List.flatMap_cons, List.flatMap_nil, set_len, frm_getC, frm_setC, wrapI, wrapB, if_pos, if_neg, decT, decF, beqT, beqF, bneT, bneF, minE, app_at, app_st, Int.toNat_natCast, List.set_set, List.getElem?_set_self, List.getElem?_set_ne]; rfl)); (focus (simp (disch := first | omega | assumption | (simp only [set_len, frm_len, List.length_set, List.length_append, List.length_cons, List.length_nil]; first | done | omega) | (simp only [seqOk, List.length_cons, List.length_nil, Nat.reduceAdd, Nat.reduceMul, Nat.zero_mul, Nat.reduceBEq, beq_self_eq_true, Bool.and_self, Bool.and_true, Bool.true_and]; (first | done | fail)) | fail) only [push_cast, reduceCtorEq, Nat.reduceAdd, Nat.reduceSub, Nat.reduceMul, Nat.reduceLeDiff, Nat.reduceLT, Nat.reduceEqDiff, Int.reduceToNat, Int.reduceLT, Int.reduceLE, Int.reduceBEq, Int.reduceEq, Int.reduceSub, Int.reduceAdd, Int.reduceMul, Int.reduceNeg, frm_get, frm_set, set_set, fill_ok, fillL_n, fillL_c, List.flatMap_cons, List.flatMap_nil, set_len, frm_getC, frm_setC, wrapI, wrapB, if_pos, if_neg, decT, decF, beqT, beqF, bneT, bneF, minE, app_at, app_st, Int.toNat_natCast, List.set_set, List.getElem?_set_self, List.getElem?_set_ne] <;> rfl)); (focus (simp (disch := first | omega | assumption | (simp only [set_len, frm_len, List.length_set, List.length_append, List.length_cons, List.length_nil]; first | done | omega) | (simp only [seqOk, List.length_cons, List.length_nil, Nat.reduceAdd, Nat.reduceMul, Nat.zero_mul, Nat.reduceBEq, beq_self_eq_true, Bool.and_self, Bool.and_true, Bool.true_and]; (first | done | fail)) | fail) only [push_cast, reduceCtorEq, Nat.reduceAdd, Nat.reduceSub, Nat.reduceMul, Nat.reduceLeDiff, Nat.reduceLT, Nat.reduceEqDiff, Int.reduceToNat, Int.reduceLT, Int.reduceLE, Int.reduceBEq, Int.reduceEq, Int.reduceSub, Int.reduceAdd, Int.reduceMul, Int.reduceNeg, frm_get, frm_set, set_set, fill_ok, fillL_n, fillL_c, List.flatMap_cons, List.flatMap_nil, set_len, frm_getC, frm_setC, wrapI, wrapB, if_pos, if_neg, decT, decF, beqT, beqF, bneT, bneF, minE, app_at, app_st, Int.toNat_natCast, List.set_set, List.getElem?_set_self, List.getElem?_set_ne]; (first | done | fail))); (focus (first | (simp (disch := first | omega | assumption | (simp only [set_len, frm_len, List.length_set, List.length_append, List.length_cons, List.length_nil]; first | done | omega) | (simp only [seqOk, List.length_cons, List.length_nil, Nat.reduceAdd, Nat.reduceMul, Nat.zero_mul, Nat.reduceBEq, beq_self_eq_true, Bool.and_self, Bool.and_true, Bool.true_and]; (first | done | fail)) | fail) only [push_cast, reduceCtorEq, Nat.reduceAdd, Nat.reduceSub, Nat.reduceMul, Nat.reduceLeDiff, Nat.reduceLT, Nat.reduceEqDiff, Int.reduceToNat, Int.reduceLT, Int.reduceLE, Int.reduceBEq, Int.reduceEq, Int.reduceSub, Int.reduceAdd, Int.reduceMul, Int.reduceNeg, frm_get, frm_set, set_set, fill_ok, fillL_n, fillL_c, List.flatMap_cons, List.flatMap_nil, set_len, frm_getC, frm_setC, wrapI, wrapB, if_pos, if_neg, decT, decF, beqT, beqF, bneT, bneF, minE, app_at, app_st, Int.toNat_natCast, List.set_set, List.getElem?_set_self, List.getElem?_set_ne]; (first | done | fail)) | (simp (disch := first | omega | assumption | (simp only [set_len, frm_len, List.length_set, List.length_append, List.length_cons, List.length_nil]; first | done | omega) | (simp only [seqOk, List.length_cons, List.length_nil, Nat.reduceAdd, Nat.reduceMul, Nat.zero_mul, Nat.reduceBEq, beq_self_eq_true, Bool.and_self, Bool.and_true, Bool.true_and]; (first | done | fail)) | fail) only [push_cast, reduceCtorEq, Nat.reduceAdd, Nat.reduceSub, Nat.reduceMul, Nat.reduceLeDiff, Nat.reduceLT, Nat.reduceEqDiff, Int.reduceToNat, Int.reduceLT, Int.reduceLE, Int.reduceBEq, Int.reduceEq, Int.reduceSub, Int.reduceAdd, Int.reduceMul, Int.reduceNeg, frm_get, frm_set, set_set, fill_ok, fillL_n, fillL_c, List.flatMap_cons, List.flatMap_nil, set_len, frm_getC, frm_setC, wrapI, wrapB, if_pos, if_neg, decT, decF, beqT, beqF, bneT, bneF, minE, app_at, app_st, Int.toNat_natCast, List.set_set, List.getElem?_set_self, List.getElem?_set_ne]; omega)))) | dsimp only))) : P := h
theorem zb {p q R : Prop} (k : q → R) (h : p = q := by first | (simp only [decide_eq_true_eq, decide_eq_false_iff_not, beq_iff_eq, bne_iff_ne, ne_eq, beq_eq_false_iff_ne, bne_eq_false_iff_eq, Decidable.not_not, Int.not_lt, Int.not_le]; rfl) | rfl) : p → R := fun x => k (h ▸ x)
theorem funZ {T : Nat → Option FC} {prim : CallT} {f np nv : Nat} {b : Stm} {res : List RV} {ref inl keep : Bool} {args : List AV} {s : Store} {a : List AV × Store} {Q : AV → Store → Prop} {st : St} (hf : T f = some ⟨np, nv, b, res, ref, inl, keep⟩)
    (ha : argsV ⟨np, 0, .skip, [], ref, false, false⟩ args s = some a) (hs : st0 ⟨np, nv, .skip, [], false, inl, false⟩ a.1 a.2 = st) (hb : Wp (exS (callF T prim) b st) (endQ ⟨0, 0, .skip, res, false, inl, keep⟩ Q)) : ∃ v s', callF T prim f args s = some (v, s') ∧ Q v s' := by
  subst hs
  obtain ⟨r,h1,v,h2,h3⟩:=hb
  exact ⟨v.1,v.2,funI (fc:=⟨np,nv,b,res,ref,inl,keep⟩) hf ha h1 h2,h3⟩
theorem funY {T : Nat → Option FC} {prim : CallT} {f np nv : Nat} {b : Stm} {res : List RV} {ref inl keep : Bool} {args : List AV} {s s' : Store} {v : AV} {a : List AV × Store} {st : St} (hf : T f = some ⟨np, nv, b, res, ref, inl, keep⟩)
    (ha : argsV ⟨np, 0, .skip, [], ref, false, false⟩ args s = some a) (hs : st0 ⟨np, nv, .skip, [], false, inl, false⟩ a.1 a.2 = st) (hb : Wp (exS (callF T prim) b st) (endQ ⟨0, 0, .skip, res, false, inl, keep⟩ (isQ v s'))) : callF T prim f args s = some (v, s') := by
  obtain ⟨v,s',e,rfl,rfl⟩:=funZ hf ha hs hb
  exact e
theorem zcomp {P Q R : Prop} (b : Q → P) (a : R → Q) : R → P := fun r => b (a r)
theorem zw {P Q : Prop} (q : Q) (h : Q → P := by first | (with_reducible first | exact wSeq | exact wReg | exact wBlock | exact thenNor | exact thenRet | exact thenExit | exact blockNor | exact blockExit | exact blockRet | exact oNil | exact wExit | exact wRet | exact wSkip | exact wRegT | exact loopRet | exact loopExit) | (intro q; (with_reducible first | apply nT | apply nF | apply tT | apply tF); (with_reducible dsimp only [List.cons_append, List.nil_append, putV, List.set]); exact q) | ((with_reducible apply blockOther); (focus (exact rfl))) | ((with_reducible apply wCondT); (focus (exact zg))) | ((with_reducible apply wCondF); (focus (exact zg))) | fail) : P := h q
theorem zn {P A B : Prop} (a : A) (b : B) (h : A → B → P := by first | (intro a b; ((with_reducible first | refine nB ?_ ?_ | refine tB ?_ ?_) <;> refine zb ?_ <;> intro hb <;> (with_reducible dsimp only [List.cons_append, List.nil_append, putV, List.set]) <;> revert hb); (focus (exact a)); (focus (exact b))) | fail) : P := h a b
theorem zx {P Q : Prop} (q : Q) (h : Q → P := by first | (intro q; (with_reducible first | apply nV | apply tV); (with_reducible dsimp only [List.cons_append, List.nil_append, putV, List.set]); exact q) | fail) : P := h q
theorem zo {P Q : Prop} (q : Q) (h : Q → P := by first
  | ((with_reducible first | apply oOp | apply tOp); (focus (exact zs)); (focus rfl))
  | ((with_reducible apply tNil); (focus (exact zc)))
  | ((apply zcomp); (focus ((with_reducible first | apply endN | apply endN'); (focus (exact rfl)); (focus (exact rfl)); (focus (exact zs)); (focus (exact zz)); (focus (exact zd)); (focus (exact ze)))); intro q; dsimp only; exact q)
  | ((apply zcomp); (focus ((with_reducible first | apply endK | apply endK'); (focus (exact rfl)); (focus (exact rfl)); (focus (exact zs)); (focus (exact zd)); (focus (exact ze)))); intro q; dsimp only; exact q)
  | ((with_reducible apply endI); (focus (exact zs)); (focus rfl)) | fail) : P := h q
theorem zof {F P Q : Prop} (f : F) (q : Q) (h : F → Q → P := by intro fx; first
  | ((with_reducible first | apply oOp | apply tOp); (focus (exact zsf fx)); (focus rfl))
  | ((with_reducible apply tNil); (focus (exact zcf fx)))
  | ((apply zcomp); (focus ((with_reducible first | apply endN | apply endN'); (focus (exact rfl)); (focus (exact rfl)); (focus (exact zsf fx)); (focus (exact zzf fx)); (focus (exact zdf fx)); (focus (exact ze)))); intro q; dsimp only; exact q)
  | ((apply zcomp); (focus ((with_reducible first | apply endK | apply endK'); (focus (exact rfl)); (focus (exact rfl)); (focus (exact zsf fx)); (focus (exact zdf fx)); (focus (exact ze)))); intro q; dsimp only; exact q)
  | ((with_reducible apply endI); (focus (exact zsf fx)); (focus rfl)) | fail) : P := h f q
theorem zk {H P Q : Prop} (f : H) (q : Q) (h : H → Q → P := by intro f; first
  | ((with_reducible first | apply oCall (h := f) | apply tCall (h := f)); (focus (exact zr)))
  | ((with_reducible first | apply oCallG (h := f) | apply tCallG (h := f)); (focus (exact zg)); (focus (exact zr))) | fail) : P := h f q
theorem zka {H P Q : Prop} (f : H) (q : Q) (h : H → Q → P := by intro f; first | ((with_reducible first | apply oApp (h := f) | apply tApp (h := f)); (focus (exact zr)); (focus (exact zr))) | fail) : P := h f q
theorem zA {a b:Prop} (x:a) (y:b):a∧b:=⟨x,y⟩
theorem zi {P:Prop} (h:P:=by first | (with_reducible exact isI rfl rfl) | fail):P:=h
section
variable {α : Type} {enc : α → List AV} {k : Nat}
theorem fm_len (h : ∀ x, (enc x).length = k) : ∀ l : List α, (l.flatMap enc).length = l.length * k
  | [] => by simp
  | x :: r => by rw [List.flatMap_cons, List.length_append, h, fm_len h r, List.length_cons, Nat.succ_mul]; omega
theorem fm_drop (h : ∀ x, (enc x).length = k) : ∀ (l : List α) (i : Nat), (l.flatMap enc).drop (i * k) = (l.drop i).flatMap enc
  | [], i => by simp
  | x :: r, 0 => by simp
  | x :: r, i + 1 => by
    rw [List.flatMap_cons,List.drop_succ_cons,← fm_drop h r i,show (i + 1) * k = (enc x).length + i * k by rw [h,Nat.succ_mul]; omega,← List.drop_drop,List.drop_left]
theorem fm_take (h : ∀ x, (enc x).length = k) : ∀ (l : List α) (i : Nat), (l.flatMap enc).take (i * k) = (l.take i).flatMap enc
  | [], i => by simp
  | x :: r, 0 => by simp
  | x :: r, i + 1 => by
    rw [List.flatMap_cons,List.take_succ_cons,List.flatMap_cons,← fm_take h r i,show (i + 1) * k = (enc x).length + i * k by rw [h,Nat.succ_mul]; omega,List.take_append,List.take_of_length_le (by omega),Nat.add_sub_cancel_left]
theorem fm_at (h : ∀ x, (enc x).length = k) {l : List α} {i : Nat} (hi : i < l.length) : k ≤ ((l.flatMap enc).drop (i * k)).length ∧ ((l.flatMap enc).drop (i * k)).take k = enc l[i] := by
  rw [fm_drop h,List.drop_eq_getElem_cons hi,List.flatMap_cons]
  refine ⟨by rw [List.length_append,h]; omega,?_⟩
  rw [← h l[i]]
  exact List.take_left' rfl
theorem fm_one {f : α → AV} {l : List α} {i : Nat} (hi : i < l.length) : (l.map f)[i]? = some (f l[i]) := by simp [hi]
theorem cellsOk_fm {D : Nat} (h : ∀ x, cellsOk D (enc x) = true) : ∀ l : List α, cellsOk D (l.flatMap enc) = true
  | [] => rfl
  | x :: r => by rw [List.flatMap_cons]; exact cellsOk_append.2 ⟨h x, cellsOk_fm h r⟩
theorem cellsOk_map {D : Nat} {f : α → AV} (h : ∀ x, (f x).isCell = true ∧ (f x).lowB D = true) (l : List α) : cellsOk D (l.map f) = true := by
  simp only [cellsOk,List.all_map,List.all_eq_true,Function.comp,Bool.and_eq_true]
  exact fun x _=>h x
end
theorem lowL_ok {cs : List AV} (h : cellsOk 0 cs = true) : AV.lowL 0 cs = true := by
  induction cs with
  | nil => rfl
  | cons x r ih =>
    simp only [cellsOk,List.all_cons,Bool.and_eq_true] at h
    simp only [AV.lowL,Bool.and_eq_true]
    exact ⟨h.1.2,ih (by simpa [cellsOk] using h.2)⟩
theorem map_at {α : Type} {ev : α → AV} {l : List α} {i : Nat} (h : i < l.length) : 1 ≤ ((l.map ev).drop i).length ∧ ((l.map ev).drop i)[0]? = some (ev l[i]) := by
  rw [List.getElem?_drop]
  exact ⟨by rw [List.length_drop,List.length_map]; omega,by simp [h]⟩
theorem spl {A ys z R : List AV} {q k : Nat} (hA : A.length = q) (hz : z.length = k) : (A ++ (z ++ R)).take q ++ ys ++ (A ++ (z ++ R)).drop (q + k) = (A ++ ys) ++ R := by
  subst hA hz
  rw [List.take_left,← List.drop_drop,List.drop_left,List.drop_left]
theorem mk_frm {s : Store} {T : List Obj} {e sz bytes n : Nat} {z : List AV} (hz : z.length = sz) (hc : cellsOk 0 z = true) (hb : n * bytes ≤ 140737488355328) :
    mkV (frm s T) e sz bytes z (.int .i64 n) (.int .i64 n) = some (.slr (s.low.length + 1) T.length 0 n 0 false, frm s (T ++ [.arr e sz (repL n z) 0 0])) := by
  have h1:(0:Int) ≤ n∧True∧(n:Int) * bytes ≤ 140737488355328∧z.length = sz:=⟨by omega,trivial,by have h:=Int.ofNat_le.2 hb; rw [Int.natCast_mul] at h; exact h,hz⟩
  have h2:cellsOk ((frm s T).low.length + 1) (repL n z) = true∧(repL n z).length = n * sz:=⟨cellsOk_mono (Nat.zero_le _) (cellsOk_rep hc n),by rw [repL_length,hz]⟩
  simp only [mkV]
  rw [if_pos h1,Int.toNat_natCast,newArr,if_pos h2,frm_len,frm_top,frm_new]
theorem storeA {call : CallT} {ls vs : List AV} {s : Store} {T : List Obj} {i off n e sz ver pr : Nat} {cs ys : List AV} {pa xa : Opd} (hp : rd ls vs pa = .aptr (s.low.length + 1) i off ver) (hx : rd ls vs xa = .agg ys) (hg : T[i]? = some (.arr e sz cs ver pr))
    (hc : cellsOk (s.low.length + 1 + 1) ys = true) (hn : ys.length = n) (ho : off + n ≤ cs.length) (hpr : pr ≤ off) :
    evOne call ⟨.store n pa xa, none, none⟩ ls vs (frm s T) = some (.undef, frm s (T.set i (.arr e sz (cs.take off ++ ys ++ cs.drop (off + n)) ver pr))) := by
  simp only [evOne,evAct,evOp,hp,hx,storeV,AV.cells,frm_get_top,hg]
  rw [if_pos ⟨hc,hn,ho,trivial,hpr⟩,frm_set_top]
  rfl
theorem storeC {call : CallT} {ls vs : List AV} {s : Store} {T : List Obj} {i off e sz ver pr : Nat} {cs : List AV} {v : AV} {pa xa : Opd} (hp : rd ls vs pa = .aptr (s.low.length + 1) i off ver) (hx : rd ls vs xa = v) (hg : T[i]? = some (.arr e sz cs ver pr))
    (hc : cellsOk (s.low.length + 1 + 1) [v] = true) (hn : ([v] : List AV).length = 1) (ho : off + 1 ≤ cs.length) (hpr : pr ≤ off) (hv : v.cells = [v]) :
    evOne call ⟨.store 1 pa xa, none, none⟩ ls vs (frm s T) = some (.undef, frm s (T.set i (.arr e sz (cs.take off ++ [v] ++ cs.drop (off + 1)) ver pr))) := by
  simp only [evOne,evAct,evOp,hp,hx,storeV,hv,frm_get_top,hg]
  rw [if_pos ⟨hc,hn,ho,trivial,hpr⟩,frm_set_top]
  rfl
def by8 (l : List Int) : List AV := l.map (AV.int .u8)
theorem by8_len (l : List Int) : (by8 l).length = l.length := by simp [by8]
theorem by8_ok (l : List Int) {D : Nat} : cellsOk D (by8 l) = true := cellsOk_map (fun x => ⟨rfl, rfl⟩) l
def bsl (l : List Int) : AV := .imm false l.length (by8 l)
end Go.Proofs.YtkjonfojileipaaGreatDoor.Ae
namespace Go.Proofs.YtkjonfojileipaaGreatDoor.Ae
open Go
attribute [local congr] obind_congr
attribute [local push_cast] exF argsV frzs frz frzL frz1 exS_reg exS_seq exS_cond exS_alt exS_block exS_loop exS_exit exS_ret exS_skip evReg evOps evOne evAct evOp rd putV st0 evEnd resV resL resOne oneOr frzR loadV storeV binV binI unV push_frm pop_frm frm_len frm_top frm_get_top frm_set_top frm_new AV.cells AV.lowB AV.lowL AV.isCell cellsOk set_len Option.bind_some Option.map_some Option.map_none List.getD_cons_zero List.getD_cons_succ List.nil_append List.cons_append List.append_nil List.length_cons List.length_nil List.set_cons_zero List.set_cons_succ List.map_cons List.map_nil List.replicate if_true if_false ite_true ite_false ite_self Bool.false_eq_true List.all_cons List.all_nil Bool.and_true Bool.true_and Bool.and_self Bool.and_eq_true List.getElem?_cons_zero List.getElem?_cons_succ List.drop_succ_cons List.drop_zero List.take_succ_cons List.take_zero true_and and_true and_self decide_true decide_false Bool.not_true Bool.not_false Prod.mk.injEq Option.some.injEq List.getElem?_drop optInt elems sliceV partsOf Nat.add_zero Nat.zero_add Nat.mul_one beq_self_eq_true litParts Bool.or_false Bool.false_or Bool.or_true Bool.true_or Bool.false_and Bool.and_false List.cons.injEq not_false_eq_true not_true_eq_false Nat.zero_le Nat.le_refl gt_iff_lt ge_iff_le List.drop_nil List.take_nil newBox List.length_append List.length_map bne_self_eq_false eq_self Nat.lt_add_one ne_eq false_implies Int.le_refl
def szA (sz f : Nat) : FC := ⟨2, 7, .seq (.reg [⟨.mov (.c (.int .i64 0)), (some 2), none⟩] [])
 (.seq (.reg [⟨.mov (.v 1), none, none⟩, ⟨.mov (.v 0), none, none⟩, ⟨.len false (.l 1), none, none⟩, ⟨.bin .sub (.l 0) (.l 2), none, none⟩, ⟨.mov (.l 3), (some 1), none⟩] [])
 (.seq (.seq (.reg [⟨.mov (.v 1), none, none⟩, ⟨.bin .lss (.l 0) (.c (.int .i64 0)), (some 4), none⟩] [])
 (.cond (.v 4) (.seq (.reg [⟨.mov (.c (.int .i64 (-1))), (some 2), none⟩] [])
 (.ret))
 (.skip)))
 (.seq (.seq (.reg [⟨.mov (.c (.int .i64 0)), (some 3), none⟩] [])
 (.block 0 (.loop (.seq (.seq (.reg [⟨.mov (.v 3), none, none⟩, ⟨.mov (.v 0), none, none⟩, ⟨.len false (.l 1), none, none⟩, ⟨.bin .lss (.l 0) (.l 2), (some 5), none⟩] [])
 (.cond (.v 5) (.skip)
 (.exit 0)))
 (.seq (.block 1 (.seq (.reg [⟨.mov (.v 0), none, none⟩, ⟨.mov (.v 3), none, none⟩, ⟨.iptr sz (.l 0) (.l 1), none, none⟩, ⟨.load (some sz) (.l 2), none, none⟩, ⟨.mov (.v 1), none, none⟩, ⟨.call f [.l 3, .l 4], none, none⟩, ⟨.mov (.l 5), (some 1), none⟩] [])
 (.seq (.reg [⟨.mov (.v 1), none, none⟩, ⟨.bin .lss (.l 0) (.c (.int .i64 0)), (some 6), none⟩] [])
 (.cond (.v 6) (.seq (.reg [⟨.mov (.c (.int .i64 (-1))), (some 2), none⟩] [])
 (.ret))
 (.skip)))))
 (.reg [⟨.mov (.v 3), none, none⟩, ⟨.bin .add (.l 0) (.c (.int .i64 1)), none, none⟩, ⟨.mov (.l 1), (some 3), none⟩] []))))))
 (.seq (.reg [⟨.mov (.v 1), none, none⟩, ⟨.mov (.l 0), (some 2), none⟩] [])
 (.ret))))),
 [.t 2], false, false, false⟩
def szC (f : Nat) : FC := ⟨2, 7, .seq (.reg [⟨.mov (.c (.int .i64 0)), (some 2), none⟩] [])
 (.seq (.reg [⟨.mov (.v 1), none, none⟩, ⟨.mov (.v 0), none, none⟩, ⟨.len false (.l 1), none, none⟩, ⟨.bin .sub (.l 0) (.l 2), none, none⟩, ⟨.mov (.l 3), (some 1), none⟩] [])
 (.seq (.seq (.reg [⟨.mov (.v 1), none, none⟩, ⟨.bin .lss (.l 0) (.c (.int .i64 0)), (some 4), none⟩] [])
 (.cond (.v 4) (.seq (.reg [⟨.mov (.c (.int .i64 (-1))), (some 2), none⟩] [])
 (.ret))
 (.skip)))
 (.seq (.seq (.reg [⟨.mov (.c (.int .i64 0)), (some 3), none⟩] [])
 (.block 0 (.loop (.seq (.seq (.reg [⟨.mov (.v 3), none, none⟩, ⟨.mov (.v 0), none, none⟩, ⟨.len false (.l 1), none, none⟩, ⟨.bin .lss (.l 0) (.l 2), (some 5), none⟩] [])
 (.cond (.v 5) (.skip)
 (.exit 0)))
 (.seq (.block 1 (.seq (.reg [⟨.mov (.v 0), none, none⟩, ⟨.mov (.v 3), none, none⟩, ⟨.iptr 1 (.l 0) (.l 1), none, none⟩, ⟨.load none (.l 2), none, none⟩, ⟨.mov (.v 1), none, none⟩, ⟨.call f [.l 3, .l 4], none, none⟩, ⟨.mov (.l 5), (some 1), none⟩] [])
 (.seq (.reg [⟨.mov (.v 1), none, none⟩, ⟨.bin .lss (.l 0) (.c (.int .i64 0)), (some 6), none⟩] [])
 (.cond (.v 6) (.seq (.reg [⟨.mov (.c (.int .i64 (-1))), (some 2), none⟩] [])
 (.ret))
 (.skip)))))
 (.reg [⟨.mov (.v 3), none, none⟩, ⟨.bin .add (.l 0) (.c (.int .i64 1)), none, none⟩, ⟨.mov (.l 1), (some 3), none⟩] []))))))
 (.seq (.reg [⟨.mov (.v 1), none, none⟩, ⟨.mov (.l 0), (some 2), none⟩] [])
 (.ret))))),
 [.t 2], false, false, false⟩
def szN : FC := ⟨2, 4, .seq (.reg [⟨.mov (.c (.int .i64 0)), (some 2), none⟩] [])
 (.seq (.reg [⟨.mov (.v 1), none, none⟩, ⟨.mov (.v 0), none, none⟩, ⟨.len false (.l 1), none, none⟩, ⟨.bin .sub (.l 0) (.l 2), none, none⟩, ⟨.mov (.l 3), (some 1), none⟩] [])
 (.seq (.seq (.reg [⟨.mov (.v 1), none, none⟩, ⟨.bin .lss (.l 0) (.c (.int .i64 0)), (some 3), none⟩] [])
 (.cond (.v 3) (.seq (.reg [⟨.mov (.c (.int .i64 (-1))), (some 2), none⟩] [])
 (.ret))
 (.skip)))
 (.seq (.reg [⟨.mov (.v 1), none, none⟩, ⟨.mov (.l 0), (some 2), none⟩] [])
 (.ret)))),
 [.t 2], false, false, false⟩
def toA (e sz bytes : Nat) (z : List AV) (f : Nat) : FC := ⟨1, 5, .seq (.reg [⟨.mov (.c (.imm true 0 [])), (some 1), none⟩] [])
 (.seq (.reg [⟨.mov (.v 0), none, none⟩, ⟨.len false (.l 0), none, none⟩, ⟨.mk e sz bytes z (.l 1) (.l 1), none, none⟩, ⟨.mov (.l 2), (some 2), none⟩] [])
 (.seq (.seq (.reg [⟨.mov (.c (.int .i64 0)), (some 3), none⟩] [])
 (.block 0 (.loop (.seq (.seq (.reg [⟨.mov (.v 3), none, none⟩, ⟨.mov (.v 0), none, none⟩, ⟨.len false (.l 1), none, none⟩, ⟨.bin .lss (.l 0) (.l 2), (some 4), none⟩] [])
 (.cond (.v 4) (.skip)
 (.exit 0)))
 (.seq (.block 1 (.reg [⟨.mov (.v 2), none, none⟩, ⟨.mov (.v 3), none, none⟩, ⟨.mov (.v 0), none, none⟩, ⟨.mov (.v 3), none, none⟩, ⟨.iptr sz (.l 2) (.l 3), none, none⟩, ⟨.load (some sz) (.l 4), none, none⟩, ⟨.call f [.l 5], none, none⟩, ⟨.iptr sz (.l 0) (.l 1), none, none⟩, ⟨.store sz (.l 7) (.l 6), none, none⟩] []))
 (.reg [⟨.mov (.v 3), none, none⟩, ⟨.bin .add (.l 0) (.c (.int .i64 1)), none, none⟩, ⟨.mov (.l 1), (some 3), none⟩] []))))))
 (.seq (.reg [⟨.mov (.v 2), none, none⟩, ⟨.mov (.l 0), (some 1), none⟩] [])
 (.ret)))),
 [.t 1], false, false, false⟩
def toC (e bytes : Nat) (z : List AV) (f : Nat) : FC := ⟨1, 5, .seq (.reg [⟨.mov (.c (.imm true 0 [])), (some 1), none⟩] [])
 (.seq (.reg [⟨.mov (.v 0), none, none⟩, ⟨.len false (.l 0), none, none⟩, ⟨.mk e 1 bytes z (.l 1) (.l 1), none, none⟩, ⟨.mov (.l 2), (some 2), none⟩] [])
 (.seq (.seq (.reg [⟨.mov (.c (.int .i64 0)), (some 3), none⟩] [])
 (.block 0 (.loop (.seq (.seq (.reg [⟨.mov (.v 3), none, none⟩, ⟨.mov (.v 0), none, none⟩, ⟨.len false (.l 1), none, none⟩, ⟨.bin .lss (.l 0) (.l 2), (some 4), none⟩] [])
 (.cond (.v 4) (.skip)
 (.exit 0)))
 (.seq (.block 1 (.reg [⟨.mov (.v 2), none, none⟩, ⟨.mov (.v 3), none, none⟩, ⟨.mov (.v 0), none, none⟩, ⟨.mov (.v 3), none, none⟩, ⟨.iptr 1 (.l 2) (.l 3), none, none⟩, ⟨.load none (.l 4), none, none⟩, ⟨.call f [.l 5], none, none⟩, ⟨.iptr 1 (.l 0) (.l 1), none, none⟩, ⟨.store 1 (.l 7) (.l 6), none, none⟩] []))
 (.reg [⟨.mov (.v 3), none, none⟩, ⟨.bin .add (.l 0) (.c (.int .i64 1)), none, none⟩, ⟨.mov (.l 1), (some 3), none⟩] []))))))
 (.seq (.reg [⟨.mov (.v 2), none, none⟩, ⟨.mov (.l 0), (some 1), none⟩] [])
 (.ret)))),
 [.t 1], false, false, false⟩
def toN (e bytes : Nat) (z : List AV) : FC := ⟨1, 5, .seq (.reg [⟨.mov (.c (.imm true 0 [])), (some 1), none⟩] [])
 (.seq (.reg [⟨.mov (.v 0), none, none⟩, ⟨.len false (.l 0), none, none⟩, ⟨.mk e 1 bytes z (.l 1) (.l 1), none, none⟩, ⟨.mov (.l 2), (some 2), none⟩] [])
 (.seq (.seq (.reg [⟨.mov (.c (.int .i64 0)), (some 3), none⟩] [])
 (.block 0 (.loop (.seq (.seq (.reg [⟨.mov (.v 3), none, none⟩, ⟨.mov (.v 0), none, none⟩, ⟨.len false (.l 1), none, none⟩, ⟨.bin .lss (.l 0) (.l 2), (some 4), none⟩] [])
 (.cond (.v 4) (.skip)
 (.exit 0)))
 (.seq (.block 1 (.reg [⟨.mov (.v 2), none, none⟩, ⟨.mov (.v 3), none, none⟩, ⟨.mov (.v 0), none, none⟩, ⟨.mov (.v 3), none, none⟩, ⟨.iptr 1 (.l 2) (.l 3), none, none⟩, ⟨.load none (.l 4), none, none⟩, ⟨.iptr 1 (.l 0) (.l 1), none, none⟩, ⟨.store 1 (.l 6) (.l 5), none, none⟩] []))
 (.reg [⟨.mov (.v 3), none, none⟩, ⟨.bin .add (.l 0) (.c (.int .i64 1)), none, none⟩, ⟨.mov (.l 1), (some 3), none⟩] []))))))
 (.seq (.reg [⟨.mov (.v 2), none, none⟩, ⟨.mov (.l 0), (some 1), none⟩] [])
 (.ret)))),
 [.t 1], false, false, false⟩
def eqA (sz f : Nat) : FC := ⟨2, 7, .seq (.reg [⟨.mov (.c (.bool false)), (some 2), none⟩] [])
 (.seq (.seq (.reg [⟨.mov (.v 0), none, none⟩, ⟨.len false (.l 0), none, none⟩, ⟨.mov (.v 1), none, none⟩, ⟨.len false (.l 2), none, none⟩, ⟨.bin .neq (.l 1) (.l 3), (some 4), none⟩] [])
 (.cond (.v 4) (.seq (.reg [⟨.mov (.c (.bool false)), (some 2), none⟩] [])
 (.ret))
 (.skip)))
 (.seq (.seq (.reg [⟨.mov (.c (.int .i64 0)), (some 3), none⟩] [])
 (.block 0 (.loop (.seq (.seq (.reg [⟨.mov (.v 3), none, none⟩, ⟨.mov (.v 0), none, none⟩, ⟨.len false (.l 1), none, none⟩, ⟨.bin .lss (.l 0) (.l 2), (some 5), none⟩] [])
 (.cond (.v 5) (.skip)
 (.exit 0)))
 (.seq (.block 1 (.seq (.reg [⟨.mov (.v 0), none, none⟩, ⟨.mov (.v 3), none, none⟩, ⟨.iptr sz (.l 0) (.l 1), none, none⟩, ⟨.load (some sz) (.l 2), none, none⟩, ⟨.mov (.v 1), none, none⟩, ⟨.mov (.v 3), none, none⟩, ⟨.iptr sz (.l 4) (.l 5), none, none⟩, ⟨.load (some sz) (.l 6), none, none⟩, ⟨.call f [.l 3, .l 7], none, none⟩, ⟨.un .not (.l 8), (some 6), none⟩] [])
 (.cond (.v 6) (.seq (.reg [⟨.mov (.c (.bool false)), (some 2), none⟩] [])
 (.ret))
 (.skip))))
 (.reg [⟨.mov (.v 3), none, none⟩, ⟨.bin .add (.l 0) (.c (.int .i64 1)), none, none⟩, ⟨.mov (.l 1), (some 3), none⟩] []))))))
 (.seq (.reg [⟨.mov (.c (.bool true)), (some 2), none⟩] [])
 (.ret)))),
 [.t 2], false, false, false⟩
def eqC (f : Nat) : FC := ⟨2, 7, .seq (.reg [⟨.mov (.c (.bool false)), (some 2), none⟩] [])
 (.seq (.seq (.reg [⟨.mov (.v 0), none, none⟩, ⟨.len false (.l 0), none, none⟩, ⟨.mov (.v 1), none, none⟩, ⟨.len false (.l 2), none, none⟩, ⟨.bin .neq (.l 1) (.l 3), (some 4), none⟩] [])
 (.cond (.v 4) (.seq (.reg [⟨.mov (.c (.bool false)), (some 2), none⟩] [])
 (.ret))
 (.skip)))
 (.seq (.seq (.reg [⟨.mov (.c (.int .i64 0)), (some 3), none⟩] [])
 (.block 0 (.loop (.seq (.seq (.reg [⟨.mov (.v 3), none, none⟩, ⟨.mov (.v 0), none, none⟩, ⟨.len false (.l 1), none, none⟩, ⟨.bin .lss (.l 0) (.l 2), (some 5), none⟩] [])
 (.cond (.v 5) (.skip)
 (.exit 0)))
 (.seq (.block 1 (.seq (.reg [⟨.mov (.v 0), none, none⟩, ⟨.mov (.v 3), none, none⟩, ⟨.iptr 1 (.l 0) (.l 1), none, none⟩, ⟨.load none (.l 2), none, none⟩, ⟨.mov (.v 1), none, none⟩, ⟨.mov (.v 3), none, none⟩, ⟨.iptr 1 (.l 4) (.l 5), none, none⟩, ⟨.load none (.l 6), none, none⟩, ⟨.call f [.l 3, .l 7], none, none⟩, ⟨.un .not (.l 8), (some 6), none⟩] [])
 (.cond (.v 6) (.seq (.reg [⟨.mov (.c (.bool false)), (some 2), none⟩] [])
 (.ret))
 (.skip))))
 (.reg [⟨.mov (.v 3), none, none⟩, ⟨.bin .add (.l 0) (.c (.int .i64 1)), none, none⟩, ⟨.mov (.l 1), (some 3), none⟩] []))))))
 (.seq (.reg [⟨.mov (.c (.bool true)), (some 2), none⟩] [])
 (.ret)))),
 [.t 2], false, false, false⟩
def eqN : FC := ⟨2, 7, .seq (.reg [⟨.mov (.c (.bool false)), (some 2), none⟩] [])
 (.seq (.seq (.reg [⟨.mov (.v 0), none, none⟩, ⟨.len false (.l 0), none, none⟩, ⟨.mov (.v 1), none, none⟩, ⟨.len false (.l 2), none, none⟩, ⟨.bin .neq (.l 1) (.l 3), (some 4), none⟩] [])
 (.cond (.v 4) (.seq (.reg [⟨.mov (.c (.bool false)), (some 2), none⟩] [])
 (.ret))
 (.skip)))
 (.seq (.seq (.reg [⟨.mov (.c (.int .i64 0)), (some 3), none⟩] [])
 (.block 0 (.loop (.seq (.seq (.reg [⟨.mov (.v 3), none, none⟩, ⟨.mov (.v 0), none, none⟩, ⟨.len false (.l 1), none, none⟩, ⟨.bin .lss (.l 0) (.l 2), (some 5), none⟩] [])
 (.cond (.v 5) (.skip)
 (.exit 0)))
 (.seq (.block 1 (.seq (.reg [⟨.mov (.v 0), none, none⟩, ⟨.mov (.v 3), none, none⟩, ⟨.iptr 1 (.l 0) (.l 1), none, none⟩, ⟨.load none (.l 2), none, none⟩, ⟨.mov (.v 1), none, none⟩, ⟨.mov (.v 3), none, none⟩, ⟨.iptr 1 (.l 4) (.l 5), none, none⟩, ⟨.load none (.l 6), none, none⟩, ⟨.bin .neq (.l 3) (.l 7), (some 6), none⟩] [])
 (.cond (.v 6) (.seq (.reg [⟨.mov (.c (.bool false)), (some 2), none⟩] [])
 (.ret))
 (.skip))))
 (.reg [⟨.mov (.v 3), none, none⟩, ⟨.bin .add (.l 0) (.c (.int .i64 1)), none, none⟩, ⟨.mov (.l 1), (some 3), none⟩] []))))))
 (.seq (.reg [⟨.mov (.c (.bool true)), (some 2), none⟩] [])
 (.ret)))),
 [.t 2], false, false, false⟩

def szr (l : Int) (n : Nat) : Int := if (n : Int) ≤ l then l - n else -1
def sizes {α : Type} (size : α → Nat) (l : List α) : Nat := l.length + (l.map size).sum
theorem sum_take {α : Type} (size : α → Nat) (l : List α) {q : Nat} (h : q < l.length) : ((l.take (q + 1)).map size).sum = ((l.take q).map size).sum + size l[q] := by
  rw [List.take_add_one,List.getElem?_eq_getElem h,List.map_append,List.sum_append]
  simp only [Option.toList_some,List.map_cons,List.map_nil,List.sum_cons,List.sum_nil,Nat.add_zero]
theorem sum_le {α : Type} (size : α → Nat) (l : List α) (q : Nat) : ((l.take q).map size).sum ≤ (l.map size).sum := by
  have h:(l.map size).sum = ((l.take q ++ l.drop q).map size).sum:=by rw [List.take_append_drop]
  rw [h,List.map_append,List.sum_append]
  omega
section
variable {T : Nat → Option FC} {prim : CallT} {α : Type} {enc : α → List AV} {ev : α → AV} {size : α → Nat}
set_option maxHeartbeats 4000000 in
theorem szA_ok {g f sz : Nat} (hT : T g = some (szA sz f)) (hl : ∀ x, (enc x).length = sz) {l : List α} {fl : Bool} {left : Int} {s : Store}
    (hf : ∀ x ∈ l, ∀ (left : Int) s, 0 ≤ left → left ≤ 1000000000 → callF T prim f [.agg (enc x), .int .i64 left] s = some (.int .i64 (szr left (size x)), s))
    (hn : l.length ≤ 9223372036854775807) (h0 : 0 ≤ left) (h1 : left ≤ 1000000000) :
    callF T prim g [.imm fl l.length (l.flatMap enc), .int .i64 left] s = some (.int .i64 (szr left (sizes size l)), s) := by
  refine funY hT zs zt ?_
  repeat' (first|refine zw ?_|refine zn (fun hb=>?_) (fun hb=>?_)|refine zx ?_|refine zo ?_|exact zi|fail)
  · have : szr left (sizes size l) = -1 := by unfold szr sizes; rw [if_neg (by omega)]
    rw [this]
    repeat' (first|refine zw ?_|refine zn (fun hb=>?_) (fun hb=>?_)|refine zx ?_|refine zo ?_|exact zi|fail)
  · refine wLoop (fun m st => ∃ (q : Nat) (y4 y5 y6 : AV) (lf : Int), (m : Int) = l.length - q ∧ q ≤ l.length ∧ lf = left - l.length - ((l.take q).map size).sum ∧ 0 ≤ lf ∧ st = ⟨[.imm false l.length (l.flatMap enc), .int .i64 lf, .int .i64 0, .int .i64 q, y4, y5, y6], frm s []⟩) l.length ?_ ?_
    · exact ⟨0, _, _, _, _, by omega, by omega, by simp, hb, rfl⟩
    · rintro m st ⟨q, y4, y5, y6, lf, hm, hq, hlf, hlf0, rfl⟩
      have hs:=sum_le size l q
      by_cases hlt:q < l.length
      · obtain ⟨ha1, ha2⟩ := fm_at hl hlt
        have hc:=fun s=>hf l[q] (List.getElem_mem hlt) lf s hlf0 (by omega)
        have hst:=sum_take size l hlt
        repeat' (first|refine zw ?_|refine zn (fun hb=>?_) (fun hb=>?_)|refine zx ?_|refine zof (zA @ha1 (zA @ha2 (@hc))) ?_|exact zi|fail)
        · have hbig : ¬ (size l[q] : Int) ≤ lf := fun h => by unfold szr at hb; rw [if_pos h] at hb; omega
          have hs2:=sum_le size l (q + 1)
          have:szr left (sizes size l) = -1:=by unfold szr sizes; rw [if_neg (by omega)]
          rw [this]
          repeat' (first|refine zw ?_|refine zn (fun hb=>?_) (fun hb=>?_)|refine zx ?_|refine zo ?_|exact zi|fail)
        · have hbig : (size l[q] : Int) ≤ lf := by
            rcases Int.lt_or_le lf (size l[q]) with h | h
            · unfold szr at hb; rw [if_neg (by omega)] at hb; omega
            · exact h
          have e:szr lf (size l[q]) = lf - size l[q]:=by unfold szr; rw [if_pos hbig]
          repeat' (first|refine zw ?_|refine zn (fun hb=>?_) (fun hb=>?_)|refine zx ?_|refine zo ?_|exact zi|fail)
          refine loopNor (m - 1) (by omega) ⟨q + 1,_,_,_,_,by omega,by omega,?_,?_,rfl⟩
          · rw [e, hst]; omega
          · rw [e]; omega
      · have hq' : q = l.length := by omega
        subst hq'
        have:szr left (sizes size l) = lf:=by rw [List.take_length] at hlf; unfold szr sizes; rw [if_pos (by omega)]; omega
        rw [this]
        repeat' (first|refine zw ?_|refine zn (fun hb=>?_) (fun hb=>?_)|refine zx ?_|refine zo ?_|exact zi|fail)
set_option maxHeartbeats 4000000 in
theorem szC_ok {g f : Nat} (hT : T g = some (szC f)) {l : List α} {fl : Bool} {left : Int} {s : Store}
    (hf : ∀ x ∈ l, ∀ (left : Int) s, 0 ≤ left → left ≤ 1000000000 → callF T prim f [ev x, .int .i64 left] s = some (.int .i64 (szr left (size x)), s))
    (hn : l.length ≤ 9223372036854775807) (h0 : 0 ≤ left) (h1 : left ≤ 1000000000) :
    callF T prim g [.imm fl l.length (l.map ev), .int .i64 left] s = some (.int .i64 (szr left (sizes size l)), s) := by
  refine funY hT zs zt ?_
  repeat' (first|refine zw ?_|refine zn (fun hb=>?_) (fun hb=>?_)|refine zx ?_|refine zo ?_|exact zi|fail)
  · have : szr left (sizes size l) = -1 := by unfold szr sizes; rw [if_neg (by omega)]
    rw [this]
    repeat' (first|refine zw ?_|refine zn (fun hb=>?_) (fun hb=>?_)|refine zx ?_|refine zo ?_|exact zi|fail)
  · refine wLoop (fun m st => ∃ (q : Nat) (y4 y5 y6 : AV) (lf : Int), (m : Int) = l.length - q ∧ q ≤ l.length ∧ lf = left - l.length - ((l.take q).map size).sum ∧ 0 ≤ lf ∧ st = ⟨[.imm false l.length (l.map ev), .int .i64 lf, .int .i64 0, .int .i64 q, y4, y5, y6], frm s []⟩) l.length ?_ ?_
    · exact ⟨0, _, _, _, _, by omega, by omega, by simp, hb, rfl⟩
    · rintro m st ⟨q, y4, y5, y6, lf, hm, hq, hlf, hlf0, rfl⟩
      have hs:=sum_le size l q
      by_cases hlt:q < l.length
      · obtain ⟨ha1, ha2⟩ := map_at (ev := ev) hlt
        have hc:=fun s=>hf l[q] (List.getElem_mem hlt) lf s hlf0 (by omega)
        have hst:=sum_take size l hlt
        repeat' (first|refine zw ?_|refine zn (fun hb=>?_) (fun hb=>?_)|refine zx ?_|refine zof (zA @ha1 (zA @ha2 (@hc))) ?_|exact zi|fail)
        · have hbig : ¬ (size l[q] : Int) ≤ lf := fun h => by unfold szr at hb; rw [if_pos h] at hb; omega
          have hs2:=sum_le size l (q + 1)
          have:szr left (sizes size l) = -1:=by unfold szr sizes; rw [if_neg (by omega)]
          rw [this]
          repeat' (first|refine zw ?_|refine zn (fun hb=>?_) (fun hb=>?_)|refine zx ?_|refine zo ?_|exact zi|fail)
        · have hbig : (size l[q] : Int) ≤ lf := by
            rcases Int.lt_or_le lf (size l[q]) with h | h
            · unfold szr at hb; rw [if_neg (by omega)] at hb; omega
            · exact h
          have e:szr lf (size l[q]) = lf - size l[q]:=by unfold szr; rw [if_pos hbig]
          repeat' (first|refine zw ?_|refine zn (fun hb=>?_) (fun hb=>?_)|refine zx ?_|refine zo ?_|exact zi|fail)
          refine loopNor (m - 1) (by omega) ⟨q + 1,_,_,_,_,by omega,by omega,?_,?_,rfl⟩
          · rw [e, hst]; omega
          · rw [e]; omega
      · have hq' : q = l.length := by omega
        subst hq'
        have:szr left (sizes size l) = lf:=by rw [List.take_length] at hlf; unfold szr sizes; rw [if_pos (by omega)]; omega
        rw [this]
        repeat' (first|refine zw ?_|refine zn (fun hb=>?_) (fun hb=>?_)|refine zx ?_|refine zo ?_|exact zi|fail)
set_option maxHeartbeats 4000000 in
theorem szN_ok {g n : Nat} (hT : T g = some szN) {cs : List AV} {fl : Bool} {left : Int} {s : Store} (hn : n ≤ 9223372036854775807) (h0 : 0 ≤ left) (h1 : left ≤ 1000000000) :
    callF T prim g [.imm fl n cs, .int .i64 left] s = some (.int .i64 (szr left n), s) := by
  refine funY hT zs zt ?_
  repeat' (first|refine zw ?_|refine zn (fun hb=>?_) (fun hb=>?_)|refine zx ?_|refine zo ?_|exact zi|fail)
  · have : szr left n = -1 := by unfold szr; rw [if_neg (by omega)]
    rw [this]
    repeat' (first|refine zw ?_|refine zn (fun hb=>?_) (fun hb=>?_)|refine zx ?_|refine zo ?_|exact zi|fail)
  · have : szr left n = left - n := by unfold szr; rw [if_pos (by omega)]
    rw [this]
    repeat' (first|refine zw ?_|refine zn (fun hb=>?_) (fun hb=>?_)|refine zx ?_|refine zo ?_|exact zi|fail)
set_option maxHeartbeats 4000000 in
theorem toA_ok {g e sz bytes f : Nat} {z : List AV} (hT : T g = some (toA e sz bytes z f)) (hz : z.length = sz) (hzok : cellsOk 0 z = true) (hl : ∀ x, (enc x).length = sz) (hok : ∀ x, cellsOk 0 (enc x) = true) {l : List α} {fl : Bool} {s : Store}
    (hf : ∀ x ∈ l, ∀ s, callF T prim f [.agg (enc x)] s = some (.agg (enc x), s)) (hn : l.length * bytes ≤ 140737488355328) (hn2 : l.length ≤ 9223372036854775807) :
    callF T prim g [.imm fl l.length (l.flatMap enc)] s = some (.imm false l.length (l.flatMap enc), s) := by
  have hmk:=mk_frm (s:=s) (T:=[]) (e:=e) (sz:=sz) (bytes:=bytes) (n:=l.length) (z:=z) hz hzok hn
  simp only [List.nil_append,List.length_nil] at hmk
  refine funY hT zs zt ?_
  repeat' (first|refine zw ?_|refine zn (fun hb=>?_) (fun hb=>?_)|refine zx ?_|refine zof @hmk ?_|exact zi|fail)
  refine wLoop (fun m st=>∃ (q:Nat) (y1 y4:AV),(m:Int) = l.length - q∧q ≤ l.length∧st = ⟨[.imm false l.length (l.flatMap enc),y1,.slr (s.low.length + 1) 0 0 l.length 0 false,.int .i64 q,y4],frm s [.arr e sz ((l.take q).flatMap enc ++ repL (l.length - q) z) 0 0]⟩) l.length ?_ ?_
  · exact ⟨0, _, _, by omega, by omega, by simp only [List.take_zero, List.flatMap_nil, List.map_nil, List.nil_append, Nat.sub_zero]; rfl⟩
  · rintro m st ⟨q, y1, y4, hm, hq, rfl⟩
    have hlA:((l.take q).flatMap enc).length = q * sz:=by rw [fm_len hl,List.length_take,Nat.min_eq_left hq]
    have hlen:((l.take q).flatMap enc ++ repL (l.length - q) z).length = l.length * sz:=by rw [List.length_append,hlA,repL_length,hz,← Nat.add_mul]; congr 1; omega
    by_cases hlt:q < l.length
    · obtain ⟨ha1, ha2⟩ := fm_at hl hlt
      have hc:=fun s=>hf l[q] (List.getElem_mem hlt) s
      have hle:q * sz + sz ≤ ((l.take q).flatMap enc ++ repL (l.length - q) z).length:=by rw [hlen,← Nat.succ_mul]; exact Nat.mul_le_mul_right _ hlt
      have hspl:((l.take q).flatMap enc ++ repL (l.length - q) z).take (q * sz) ++ (enc l[q]) ++ ((l.take q).flatMap enc ++ repL (l.length - q) z).drop (q * sz + sz) = (l.take (q + 1)).flatMap enc ++ repL (l.length - (q + 1)) z:=by
        rw [show (l.take (q + 1)).flatMap enc = (l.take q).flatMap enc ++ (enc l[q]) from by rw [List.take_succ_eq_append_getElem hlt,List.flatMap_append]; simp]
        rw [show l.length - q = (l.length - (q + 1)) + 1 by omega,repL]
        exact spl hlA hz
      repeat' (first|refine zw ?_|refine zn (fun hb=>?_) (fun hb=>?_)|refine zx ?_|(apply oOp (storeA ?_ ?_ (show [Obj.arr e sz ((l.take q).flatMap enc ++ repL (l.length - q) z) 0 0][0]? = some _ from rfl) (cellsOk_mono (Nat.zero_le _) (hok l[q])) (hl l[q]) hle (Nat.zero_le _)) rfl; (any_goals (focus (simp only [rd, List.getD_cons_zero, List.getD_cons_succ]; first | done | rfl | fail))); with_reducible apply nV; dsimp only [List.cons_append, List.nil_append, putV, List.set])|refine zof (zA @ha1 (zA @ha2 (@hc))) ?_|exact zi|fail)
      rw [hspl]
      exact loopNor (m - 1) (by omega) ⟨q + 1,_,_,by omega,by omega,rfl⟩
    · obtain rfl : q = l.length := by omega
      have htk:(l.flatMap enc).take (l.length * sz) = l.flatMap enc:=List.take_of_length_le (by rw [fm_len hl]; omega)
      have hlow:=lowL_ok (cellsOk_fm hok l)
      have hln:(l.flatMap enc).length = l.length * sz:=by rw [fm_len hl]
      simp only [List.take_length,Nat.sub_self,repL,List.append_nil]
      repeat' (first|refine zw ?_|refine zn (fun hb=>?_) (fun hb=>?_)|refine zx ?_|refine zof (zA @htk (zA @hlow (@hln))) ?_|exact zi|fail)
set_option maxHeartbeats 4000000 in
theorem toC_ok {g e bytes f : Nat} {z : List AV} (hT : T g = some (toC e bytes z f)) (hz : z.length = 1) (hzok : cellsOk 0 z = true) (hev : ∀ x, (ev x).cells = [ev x]) (hok : ∀ x, (ev x).isCell = true ∧ (ev x).lowB 0 = true) {l : List α} {fl : Bool} {s : Store}
    (hf : ∀ x ∈ l, ∀ s, callF T prim f [ev x] s = some (ev x, s)) (hn : l.length * bytes ≤ 140737488355328) (hn2 : l.length ≤ 9223372036854775807) :
    callF T prim g [.imm fl l.length (l.map ev)] s = some (.imm false l.length (l.map ev), s) := by
  have hmk:=mk_frm (s:=s) (T:=[]) (e:=e) (sz:=1) (bytes:=bytes) (n:=l.length) (z:=z) hz hzok hn
  simp only [List.nil_append,List.length_nil] at hmk
  refine funY hT zs zt ?_
  repeat' (first|refine zw ?_|refine zn (fun hb=>?_) (fun hb=>?_)|refine zx ?_|refine zof @hmk ?_|exact zi|fail)
  refine wLoop (fun m st=>∃ (q:Nat) (y1 y4:AV),(m:Int) = l.length - q∧q ≤ l.length∧st = ⟨[.imm false l.length (l.map ev),y1,.slr (s.low.length + 1) 0 0 l.length 0 false,.int .i64 q,y4],frm s [.arr e 1 ((l.take q).map ev ++ repL (l.length - q) z) 0 0]⟩) l.length ?_ ?_
  · exact ⟨0, _, _, by omega, by omega, by simp only [List.take_zero, List.flatMap_nil, List.map_nil, List.nil_append, Nat.sub_zero]; rfl⟩
  · rintro m st ⟨q, y1, y4, hm, hq, rfl⟩
    have hlA:((l.take q).map ev).length = q:=by rw [List.length_map,List.length_take,Nat.min_eq_left hq]
    have hlen:((l.take q).map ev ++ repL (l.length - q) z).length = l.length:=by rw [List.length_append,hlA,repL_length,hz]; simp only [Nat.mul_one]; omega
    by_cases hlt:q < l.length
    · obtain ⟨ha1, ha2⟩ := map_at (ev := ev) hlt
      have hc:=fun s=>hf l[q] (List.getElem_mem hlt) s
      have hle:q + 1 ≤ ((l.take q).map ev ++ repL (l.length - q) z).length:=by rw [hlen]; omega
      have hspl:((l.take q).map ev ++ repL (l.length - q) z).take (q) ++ [ev l[q]] ++ ((l.take q).map ev ++ repL (l.length - q) z).drop (q + 1) = (l.take (q + 1)).map ev ++ repL (l.length - (q + 1)) z:=by
        rw [show (l.take (q + 1)).map ev = (l.take q).map ev ++ [ev l[q]] from by rw [List.take_succ_eq_append_getElem hlt,List.map_append]; rfl]
        rw [show l.length - q = (l.length - (q + 1)) + 1 by omega,repL]
        exact spl hlA hz
      repeat' (first|refine zw ?_|refine zn (fun hb=>?_) (fun hb=>?_)|refine zx ?_|(apply oOp (storeC ?_ ?_ (show [Obj.arr e 1 ((l.take q).map ev ++ repL (l.length - q) z) 0 0][0]? = some _ from rfl) ((by have h := hok l[q]; simp only [cellsOk, List.all_cons, List.all_nil, h.1, lowB_mono (Nat.zero_le _) _ h.2, Bool.and_self])) rfl hle (Nat.zero_le _) (hev l[q])) rfl; (any_goals (focus (simp only [rd, List.getD_cons_zero, List.getD_cons_succ]; first | done | rfl | fail))); with_reducible apply nV; dsimp only [List.cons_append, List.nil_append, putV, List.set])|refine zof (zA @ha1 (zA @ha2 (@hc))) ?_|exact zi|fail)
      rw [hspl]
      exact loopNor (m - 1) (by omega) ⟨q + 1,_,_,by omega,by omega,rfl⟩
    · obtain rfl : q = l.length := by omega
      have htk:(l.map ev).take (l.length) = l.map ev:=List.take_of_length_le (by simp)
      have hlow:=lowL_ok (cellsOk_map hok l)
      have hln:(l.map ev).length = l.length:=by simp
      simp only [List.take_length,Nat.sub_self,repL,List.append_nil]
      repeat' (first|refine zw ?_|refine zn (fun hb=>?_) (fun hb=>?_)|refine zx ?_|refine zof (zA @htk (zA @hlow (@hln))) ?_|exact zi|fail)
set_option maxHeartbeats 4000000 in
theorem toN_ok {g e bytes : Nat} {z : List AV} (hT : T g = some (toN e bytes z)) (hz : z.length = 1) (hzok : cellsOk 0 z = true) (hev : ∀ x, (ev x).cells = [ev x]) (hok : ∀ x, (ev x).isCell = true ∧ (ev x).lowB 0 = true) {l : List α} {fl : Bool} {s : Store}
    (hn : l.length * bytes ≤ 140737488355328) (hn2 : l.length ≤ 9223372036854775807) :
    callF T prim g [.imm fl l.length (l.map ev)] s = some (.imm false l.length (l.map ev), s) := by
  have hmk:=mk_frm (s:=s) (T:=[]) (e:=e) (sz:=1) (bytes:=bytes) (n:=l.length) (z:=z) hz hzok hn
  simp only [List.nil_append,List.length_nil] at hmk
  refine funY hT zs zt ?_
  repeat' (first|refine zw ?_|refine zn (fun hb=>?_) (fun hb=>?_)|refine zx ?_|refine zof @hmk ?_|exact zi|fail)
  refine wLoop (fun m st=>∃ (q:Nat) (y1 y4:AV),(m:Int) = l.length - q∧q ≤ l.length∧st = ⟨[.imm false l.length (l.map ev),y1,.slr (s.low.length + 1) 0 0 l.length 0 false,.int .i64 q,y4],frm s [.arr e 1 ((l.take q).map ev ++ repL (l.length - q) z) 0 0]⟩) l.length ?_ ?_
  · exact ⟨0, _, _, by omega, by omega, by simp only [List.take_zero, List.flatMap_nil, List.map_nil, List.nil_append, Nat.sub_zero]; rfl⟩
  · rintro m st ⟨q, y1, y4, hm, hq, rfl⟩
    have hlA:((l.take q).map ev).length = q:=by rw [List.length_map,List.length_take,Nat.min_eq_left hq]
    have hlen:((l.take q).map ev ++ repL (l.length - q) z).length = l.length:=by rw [List.length_append,hlA,repL_length,hz]; simp only [Nat.mul_one]; omega
    by_cases hlt:q < l.length
    · obtain ⟨ha1, ha2⟩ := map_at (ev := ev) hlt
      have hle:q + 1 ≤ ((l.take q).map ev ++ repL (l.length - q) z).length:=by rw [hlen]; omega
      have hspl:((l.take q).map ev ++ repL (l.length - q) z).take (q) ++ [ev l[q]] ++ ((l.take q).map ev ++ repL (l.length - q) z).drop (q + 1) = (l.take (q + 1)).map ev ++ repL (l.length - (q + 1)) z:=by
        rw [show (l.take (q + 1)).map ev = (l.take q).map ev ++ [ev l[q]] from by rw [List.take_succ_eq_append_getElem hlt,List.map_append]; rfl]
        rw [show l.length - q = (l.length - (q + 1)) + 1 by omega,repL]
        exact spl hlA hz
      repeat' (first|refine zw ?_|refine zn (fun hb=>?_) (fun hb=>?_)|refine zx ?_|(apply oOp (storeC ?_ ?_ (show [Obj.arr e 1 ((l.take q).map ev ++ repL (l.length - q) z) 0 0][0]? = some _ from rfl) ((by have h := hok l[q]; simp only [cellsOk, List.all_cons, List.all_nil, h.1, lowB_mono (Nat.zero_le _) _ h.2, Bool.and_self])) rfl hle (Nat.zero_le _) (hev l[q])) rfl; (any_goals (focus (simp only [rd, List.getD_cons_zero, List.getD_cons_succ]; first | done | rfl | fail))); with_reducible apply nV; dsimp only [List.cons_append, List.nil_append, putV, List.set])|refine zof (zA @ha1 (@ha2)) ?_|exact zi|fail)
      rw [hspl]
      exact loopNor (m - 1) (by omega) ⟨q + 1,_,_,by omega,by omega,rfl⟩
    · obtain rfl : q = l.length := by omega
      have htk:(l.map ev).take (l.length) = l.map ev:=List.take_of_length_le (by simp)
      have hlow:=lowL_ok (cellsOk_map hok l)
      have hln:(l.map ev).length = l.length:=by simp
      simp only [List.take_length,Nat.sub_self,repL,List.append_nil]
      repeat' (first|refine zw ?_|refine zn (fun hb=>?_) (fun hb=>?_)|refine zx ?_|refine zof (zA @htk (zA @hlow (@hln))) ?_|exact zi|fail)
set_option maxHeartbeats 4000000 in
theorem eqA_ok {g sz f : Nat} (hT : T g = some (eqA sz f)) (hl : ∀ x, (enc x).length = sz) {l : List α} {f1 f2 : Bool} {s : Store}
    (hf : ∀ x ∈ l, ∀ s, callF T prim f [.agg (enc x), .agg (enc x)] s = some (.bool true, s)) (hn : l.length ≤ 9223372036854775807) :
    callF T prim g [.imm f1 l.length (l.flatMap enc), .imm f2 l.length (l.flatMap enc)] s = some (.bool true, s) := by
  refine funY hT zs zt ?_
  repeat' (first|refine zw ?_|refine zn (fun hb=>?_) (fun hb=>?_)|refine zx ?_|refine zo ?_|exact zi|fail)
  · refine wLoop (fun m st => ∃ (q : Nat) (y2 y4 y5 y6 : AV), (m : Int) = l.length - q ∧ q ≤ l.length ∧ st = ⟨[.imm false l.length (l.flatMap enc), .imm false l.length (l.flatMap enc), y2, .int .i64 q, y4, y5, y6], frm s []⟩) l.length ?_ ?_
    · exact ⟨0, _, _, _, _, by omega, by omega, rfl⟩
    · rintro m st ⟨q, y2, y4, y5, y6, hm, hq, rfl⟩
      by_cases hlt:q < l.length
      · obtain ⟨ha1, ha2⟩ := fm_at hl hlt
        have hc:=fun s=>hf l[q] (List.getElem_mem hlt) s
        repeat' (first|refine zw ?_|refine zn (fun hb=>?_) (fun hb=>?_)|refine zx ?_|refine zof (zA @ha1 (zA @ha2 (@hc))) ?_|exact zi|fail)
        exact loopNor (m - 1) (by omega) ⟨q + 1,_,_,_,_,by omega,by omega,rfl⟩
      · repeat' (first|refine zw ?_|refine zn (fun hb=>?_) (fun hb=>?_)|refine zx ?_|refine zo ?_|exact zi|fail)
set_option maxHeartbeats 4000000 in
theorem eqC_ok {g f : Nat} (hT : T g = some (eqC f)) {l : List α} {f1 f2 : Bool} {s : Store}
    (hf : ∀ x ∈ l, ∀ s, callF T prim f [ev x, ev x] s = some (.bool true, s)) (hn : l.length ≤ 9223372036854775807) :
    callF T prim g [.imm f1 l.length (l.map ev), .imm f2 l.length (l.map ev)] s = some (.bool true, s) := by
  refine funY hT zs zt ?_
  repeat' (first|refine zw ?_|refine zn (fun hb=>?_) (fun hb=>?_)|refine zx ?_|refine zo ?_|exact zi|fail)
  · refine wLoop (fun m st => ∃ (q : Nat) (y2 y4 y5 y6 : AV), (m : Int) = l.length - q ∧ q ≤ l.length ∧ st = ⟨[.imm false l.length (l.map ev), .imm false l.length (l.map ev), y2, .int .i64 q, y4, y5, y6], frm s []⟩) l.length ?_ ?_
    · exact ⟨0, _, _, _, _, by omega, by omega, rfl⟩
    · rintro m st ⟨q, y2, y4, y5, y6, hm, hq, rfl⟩
      by_cases hlt:q < l.length
      · obtain ⟨ha1, ha2⟩ := map_at (ev := ev) hlt
        have hc:=fun s=>hf l[q] (List.getElem_mem hlt) s
        repeat' (first|refine zw ?_|refine zn (fun hb=>?_) (fun hb=>?_)|refine zx ?_|refine zof (zA @ha1 (zA @ha2 (@hc))) ?_|exact zi|fail)
        exact loopNor (m - 1) (by omega) ⟨q + 1,_,_,_,_,by omega,by omega,rfl⟩
      · repeat' (first|refine zw ?_|refine zn (fun hb=>?_) (fun hb=>?_)|refine zx ?_|refine zo ?_|exact zi|fail)
set_option maxHeartbeats 4000000 in
theorem eqN_ok {g : Nat} {k : IntKind} (hT : T g = some eqN) {l : List Int} {f1 f2 : Bool} {s : Store} (hn : l.length ≤ 9223372036854775807) :
    callF T prim g [.imm f1 l.length (l.map (AV.int k)), .imm f2 l.length (l.map (AV.int k))] s = some (.bool true, s) := by
  refine funY hT zs zt ?_
  repeat' (first|refine zw ?_|refine zn (fun hb=>?_) (fun hb=>?_)|refine zx ?_|refine zo ?_|exact zi|fail)
  · refine wLoop (fun m st => ∃ (q : Nat) (y2 y4 y5 y6 : AV), (m : Int) = l.length - q ∧ q ≤ l.length ∧ st = ⟨[.imm false l.length (l.map (AV.int k)), .imm false l.length (l.map (AV.int k)), y2, .int .i64 q, y4, y5, y6], frm s []⟩) l.length ?_ ?_
    · exact ⟨0, _, _, _, _, by omega, by omega, rfl⟩
    · rintro m st ⟨q, y2, y4, y5, y6, hm, hq, rfl⟩
      by_cases hlt:q < l.length
      · obtain ⟨ha1, ha2⟩ := map_at (ev := AV.int k) hlt
        repeat' (first|refine zw ?_|refine zn (fun hb=>?_) (fun hb=>?_)|refine zx ?_|refine zof (zA @ha1 (@ha2)) ?_|exact zi|fail)
        exact loopNor (m - 1) (by omega) ⟨q + 1,_,_,_,_,by omega,by omega,rfl⟩
      · repeat' (first|refine zw ?_|refine zn (fun hb=>?_) (fun hb=>?_)|refine zx ?_|refine zo ?_|exact zi|fail)
end
end Go.Proofs.YtkjonfojileipaaGreatDoor.Ae
namespace Go.Proofs.YtkjonfojileipaaGreatDoor.Ae
open Go
inductive Ty where
  | mk (k n : Int) (args : List Ty)
structure Con where
  name : List Int
  fields : List Ty
structure Dt where
  name : List Int
  vars : Int
  cons : List Con
mutual
inductive Xp where
  | mk (k n : Int) (name arg lit : List Int) (kids : List Xp) (arms : List Arm)
inductive Arm where
  | mk (con : List Int) (vars : List (List Int)) (body : Xp)
end
structure Sr where
  datas : List Dt
  body : Xp

/-! ### cells -/
mutual
def Ty.az : Ty → List AV
  | .mk k n args => [.int .i64 k, .int .i64 n, .imm false args.length (azT args)]
def azT : List Ty → List AV
  | [] => []
  | t :: r => t.az ++ azT r
end
def Con.az (c : Con) : List AV := [bsl c.name, .imm false c.fields.length (azT c.fields)]
def Dt.az (d : Dt) : List AV := [bsl d.name, .int .i64 d.vars, .imm false d.cons.length (d.cons.flatMap Con.az)]
mutual
def Xp.az : Xp → List AV
  | .mk k n name arg lit kids arms => [.int .i64 k, .int .i64 n, bsl name, bsl arg, bsl lit, .imm false kids.length (azE kids), .imm false arms.length (azA arms)]
def Arm.az : Arm → List AV
  | .mk con vars body => bsl con :: .imm false vars.length (vars.map bsl) :: body.az
def azE : List Xp → List AV
  | [] => []
  | t :: r => t.az ++ azE r
def azA : List Arm → List AV
  | [] => []
  | t :: r => t.az ++ azA r
end
def Sr.az (s : Sr) : List AV := .imm false s.datas.length (s.datas.flatMap Dt.az) :: s.body.az
theorem azT_eq : ∀ l : List Ty, azT l = l.flatMap Ty.az
  | [] => rfl
  | t :: r => by rw [azT, List.flatMap_cons, azT_eq r]
theorem azE_eq : ∀ l : List Xp, azE l = l.flatMap Xp.az
  | [] => by simp [azE]
  | t :: r => by rw [azE, List.flatMap_cons, azE_eq r]
theorem azA_eq : ∀ l : List Arm, azA l = l.flatMap Arm.az
  | [] => by simp [azA]
  | t :: r => by rw [azA, List.flatMap_cons, azA_eq r]
theorem Ty.len : ∀ t : Ty, t.az.length = 3
  | .mk k n args => rfl
theorem Con.len (c : Con) : c.az.length = 2 := rfl
theorem Dt.len (c : Dt) : c.az.length = 3 := rfl
theorem Xp.len : ∀ t : Xp, t.az.length = 7
  | .mk .. => by simp [Xp.az]
theorem Arm.len : ∀ t : Arm, t.az.length = 9
  | .mk .. => by simp [Arm.az, Xp.len]
theorem Ty.cok : ∀ t : Ty, cellsOk 0 t.az = true
  | .mk k n args => rfl
theorem Con.cok (c : Con) : cellsOk 0 c.az = true := rfl
theorem Dt.cok (c : Dt) : cellsOk 0 c.az = true := rfl
theorem Xp.cok : ∀ t : Xp, cellsOk 0 t.az = true
  | .mk .. => by simp [Xp.az, cellsOk, bsl, AV.isCell, AV.lowB]
theorem Arm.cok : ∀ t : Arm, cellsOk 0 t.az = true
  | .mk con vars body => by
    have:=body.cok
    simp only [cellsOk] at this
    simp [Arm.az, cellsOk, bsl, AV.isCell, AV.lowB] at this ⊢
    exact this
/-! ### by parts -/
mutual
theorem Ty.ind {P : Ty → Prop} (h : ∀ k n args, (∀ x ∈ args, P x) → P (.mk k n args)) : ∀ t, P t
  | .mk k n args => h k n args (Ty.indL h args)
theorem Ty.indL {P : Ty → Prop} (h : ∀ k n args, (∀ x ∈ args, P x) → P (.mk k n args)) : ∀ l : List Ty, ∀ x ∈ l, P x
  | [] => fun x hx => by cases hx
  | t :: r => fun x hx => by
    have h1:=Ty.ind h t
    have h2:=Ty.indL h r
    rcases List.mem_cons.1 hx with e | hx
    · rw [e]; exact h1
    · exact h2 x hx
end
def Arm.body : Arm → Xp
  | .mk _ _ b => b
def Arm.con : Arm → List Int
  | .mk c _ _ => c
def Arm.vars : Arm → List (List Int)
  | .mk _ v _ => v
mutual
theorem Xp.ind {P : Xp → Prop} (h : ∀ k n name arg lit kids arms, (∀ x ∈ kids, P x) → (∀ a ∈ arms, P a.body) → P (.mk k n name arg lit kids arms)) : ∀ t, P t
  | .mk k n name arg lit kids arms => h k n name arg lit kids arms (Xp.indL h kids) (Arm.indL h arms)
theorem Arm.ind {P : Xp → Prop} (h : ∀ k n name arg lit kids arms, (∀ x ∈ kids, P x) → (∀ a ∈ arms, P a.body) → P (.mk k n name arg lit kids arms)) : ∀ t : Arm, P t.body
  | .mk _ _ b => Xp.ind h b
theorem Xp.indL {P : Xp → Prop} (h : ∀ k n name arg lit kids arms, (∀ x ∈ kids, P x) → (∀ a ∈ arms, P a.body) → P (.mk k n name arg lit kids arms)) : ∀ l : List Xp, ∀ x ∈ l, P x
  | [] => fun x hx => by cases hx
  | t :: r => fun x hx => by
    have h1:=Xp.ind h t
    have h2:=Xp.indL h r
    rcases List.mem_cons.1 hx with e | hx
    · rw [e]; exact h1
    · exact h2 x hx
theorem Arm.indL {P : Xp → Prop} (h : ∀ k n name arg lit kids arms, (∀ x ∈ kids, P x) → (∀ a ∈ arms, P a.body) → P (.mk k n name arg lit kids arms)) : ∀ l : List Arm, ∀ x ∈ l, P x.body
  | [] => fun x hx => by cases hx
  | t :: r => fun x hx => by
    have h1:=Arm.ind h t
    have h2:=Arm.indL h r
    rcases List.mem_cons.1 hx with e | hx
    · rw [e]; exact h1
    · exact h2 x hx
end
/-! ### as they come -/
def inI (n : Int) : Prop := -9223372036854775808 ≤ n ∧ n < 9223372036854775808
def okB (l : List Int) : Prop := l.length ≤ 9223372036854775807 ∧ ∀ b ∈ l, 0 ≤ b ∧ b < 256
mutual
def Ty.ok : Ty → Prop
  | .mk k n args => inI k ∧ inI n ∧ args.length ≤ 9223372036854775807 ∧ okT args
def okT : List Ty → Prop
  | [] => True
  | t :: r => t.ok ∧ okT r
end
theorem okT_iff : ∀ l : List Ty, okT l ↔ ∀ t ∈ l, t.ok
  | [] => by simp [okT]
  | t :: r => by simp [okT, okT_iff r]
def Con.ok (c : Con) : Prop := okB c.name ∧ c.fields.length ≤ 9223372036854775807 ∧ ∀ t ∈ c.fields, t.ok
def Dt.ok (d : Dt) : Prop := okB d.name ∧ inI d.vars ∧ d.cons.length ≤ 9223372036854775807 ∧ ∀ c ∈ d.cons, c.ok
mutual
def Xp.ok : Xp → Prop
  | .mk k n name arg lit kids arms => inI k ∧ inI n ∧ okB name ∧ okB arg ∧ okB lit ∧ (kids.length ≤ 9223372036854775807 ∧ okE kids) ∧ (arms.length ≤ 9223372036854775807 ∧ okA arms)
def Arm.ok : Arm → Prop
  | .mk con vars body => okB con ∧ (vars.length ≤ 9223372036854775807 ∧ ∀ v ∈ vars, okB v) ∧ body.ok
def okE : List Xp → Prop
  | [] => True
  | t :: r => t.ok ∧ okE r
def okA : List Arm → Prop
  | [] => True
  | t :: r => t.ok ∧ okA r
end
theorem okE_iff : ∀ l : List Xp, okE l ↔ ∀ t ∈ l, t.ok
  | [] => by simp [okE]
  | t :: r => by simp [okE, okE_iff r]
theorem okA_iff : ∀ l : List Arm, okA l ↔ ∀ t ∈ l, t.ok
  | [] => by simp [okA]
  | t :: r => by simp [okA, okA_iff r]
def Sr.ok (s : Sr) : Prop := (s.datas.length ≤ 9223372036854775807 ∧ ∀ d ∈ s.datas, d.ok) ∧ s.body.ok
theorem Arm.ok_body : ∀ {a : Arm}, a.ok → a.body.ok
  | .mk .., h => by simp only [Arm.ok] at h; exact h.2.2
/-! ### how great -/
mutual
def Ty.sz : Ty → Nat
  | .mk _ _ args => szT args
def szT : List Ty → Nat
  | [] => 0
  | t :: r => 1 + t.sz + szT r
end
theorem szT_eq : ∀ l : List Ty, szT l = sizes Ty.sz l
  | [] => rfl
  | t :: r => by rw [szT, szT_eq r]; simp [sizes]; omega
def Con.sz (c : Con) : Nat := c.name.length + sizes Ty.sz c.fields
def Dt.sz (d : Dt) : Nat := d.name.length + sizes Con.sz d.cons
mutual
def Xp.sz : Xp → Nat
  | .mk _ _ name arg lit kids arms => name.length + arg.length + lit.length + szE kids + szA' arms
def Arm.sz : Arm → Nat
  | .mk con vars body => con.length + sizes List.length vars + body.sz
def szE : List Xp → Nat
  | [] => 0
  | t :: r => 1 + t.sz + szE r
def szA' : List Arm → Nat
  | [] => 0
  | t :: r => 1 + t.sz + szA' r
end
theorem szE_eq : ∀ l : List Xp, szE l = sizes Xp.sz l
  | [] => by simp [szE, sizes]
  | t :: r => by rw [szE, szE_eq r]; simp [sizes]; omega
theorem szA_eq : ∀ l : List Arm, szA' l = sizes Arm.sz l
  | [] => by simp [szA', sizes]
  | t :: r => by rw [szA', szA_eq r]; simp [sizes]; omega
def Sr.sz (s : Sr) : Nat := sizes Dt.sz s.datas + s.body.sz
theorem sizes_len {α : Type} (size : α → Nat) (l : List α) : l.length ≤ sizes size l := Nat.le_add_right _ _
theorem sizes_mem {α : Type} (size : α → Nat) {l : List α} {x : α} (h : x ∈ l) : size x ≤ sizes size l := by
  have:size x ≤ (l.map size).sum:=by
    induction l with
    | nil => cases h
    | cons a r ih =>
      simp only [List.map_cons,List.sum_cons]
      rcases List.mem_cons.1 h with rfl | h
      · omega
      · have := ih h; omega
  unfold sizes
  omega
end Go.Proofs.YtkjonfojileipaaGreatDoor.Ae
namespace Go.Proofs.YtkjonfojileipaaGreatDoor.Ae
open Go
attribute [local congr] obind_congr
attribute [local push_cast] exF argsV frzs frz frzL frz1 exS_reg exS_seq exS_cond exS_alt exS_block exS_loop exS_exit exS_ret exS_skip evReg evOps evOne evAct evOp rd putV st0 evEnd resV resL resOne oneOr frzR loadV storeV binV binI unV push_frm pop_frm frm_len frm_top frm_get_top frm_set_top frm_new AV.cells AV.lowB AV.lowL AV.isCell cellsOk set_len Option.bind_some Option.map_some Option.map_none List.getD_cons_zero List.getD_cons_succ List.nil_append List.cons_append List.append_nil List.length_cons List.length_nil List.set_cons_zero List.set_cons_succ List.map_cons List.map_nil List.replicate if_true if_false ite_true ite_false ite_self Bool.false_eq_true List.all_cons List.all_nil Bool.and_true Bool.true_and Bool.and_self Bool.and_eq_true List.getElem?_cons_zero List.getElem?_cons_succ List.drop_succ_cons List.drop_zero List.take_succ_cons List.take_zero true_and and_true and_self decide_true decide_false Bool.not_true Bool.not_false Prod.mk.injEq Option.some.injEq List.getElem?_drop optInt elems sliceV partsOf Nat.add_zero Nat.zero_add Nat.mul_one beq_self_eq_true litParts Bool.or_false Bool.false_or Bool.or_true Bool.true_or Bool.false_and Bool.and_false List.cons.injEq not_false_eq_true not_true_eq_false Nat.zero_le Nat.le_refl gt_iff_lt ge_iff_le List.drop_nil List.take_nil newBox List.length_append List.length_map bne_self_eq_false eq_self Nat.lt_add_one ne_eq false_implies Int.le_refl
def ixA (sz : Nat) : FC := ⟨2, 8, .seq (.reg [⟨.mov (.c (.int .i64 0)), (some 2), none⟩] [])
 (.seq (.seq (.reg [⟨.mov (.v 0), none, none⟩, ⟨.len false (.l 0), (some 4), none⟩, ⟨.mov (.c (.int .i64 0)), (some 5), none⟩] [])
 (.block 0 (.loop (.seq (.reg [⟨.bin .lss (.v 5) (.v 4), (some 6), none⟩] [])
 (.seq (.cond (.v 6) (.skip)
 (.exit 0))
 (.seq (.block 1 (.seq (.reg [⟨.mov (.v 5), none, none⟩, ⟨.mov (.l 0), (some 3), none⟩] [])
 (.seq (.reg [⟨.mov (.v 1), none, none⟩, ⟨.mov (.v 0), none, none⟩, ⟨.mov (.v 3), none, none⟩, ⟨.iptr sz (.l 1) (.l 2), none, none⟩, ⟨.load (some sz) (.l 3), none, none⟩, ⟨.callv (.l 0) [.l 4], (some 7), none⟩] [])
 (.cond (.v 7) (.seq (.reg [⟨.mov (.v 3), none, none⟩, ⟨.mov (.l 0), (some 2), none⟩] [])
 (.ret))
 (.skip)))))
 (.reg [⟨.bin .add (.v 5) (.c (.int .i64 1)), none, none⟩, ⟨.mov (.l 0), (some 5), none⟩] [])))))))
 (.seq (.reg [⟨.mov (.c (.int .i64 (-1))), (some 2), none⟩] [])
 (.ret))),
 [.t 2], false, false, false⟩
def ixC : FC := ⟨2, 8, .seq (.reg [⟨.mov (.c (.int .i64 0)), (some 2), none⟩] [])
 (.seq (.seq (.reg [⟨.mov (.v 0), none, none⟩, ⟨.len false (.l 0), (some 4), none⟩, ⟨.mov (.c (.int .i64 0)), (some 5), none⟩] [])
 (.block 0 (.loop (.seq (.reg [⟨.bin .lss (.v 5) (.v 4), (some 6), none⟩] [])
 (.seq (.cond (.v 6) (.skip)
 (.exit 0))
 (.seq (.block 1 (.seq (.reg [⟨.mov (.v 5), none, none⟩, ⟨.mov (.l 0), (some 3), none⟩] [])
 (.seq (.reg [⟨.mov (.v 1), none, none⟩, ⟨.mov (.v 0), none, none⟩, ⟨.mov (.v 3), none, none⟩, ⟨.iptr 1 (.l 1) (.l 2), none, none⟩, ⟨.load none (.l 3), none, none⟩, ⟨.callv (.l 0) [.l 4], (some 7), none⟩] [])
 (.cond (.v 7) (.seq (.reg [⟨.mov (.v 3), none, none⟩, ⟨.mov (.l 0), (some 2), none⟩] [])
 (.ret))
 (.skip)))))
 (.reg [⟨.bin .add (.v 5) (.c (.int .i64 1)), none, none⟩, ⟨.mov (.l 0), (some 5), none⟩] [])))))))
 (.seq (.reg [⟨.mov (.c (.int .i64 (-1))), (some 2), none⟩] [])
 (.ret))),
 [.t 2], false, false, false⟩
def cfF (g : Nat) : FC := ⟨2, 3, .seq (.reg [⟨.mov (.c (.bool false)), (some 2), none⟩] [])
 (.seq (.reg [⟨.mov (.v 0), none, none⟩, ⟨.mov (.v 1), none, none⟩, ⟨.call g [.l 0, .l 1], none, none⟩, ⟨.bin .geq (.l 2) (.c (.int .i64 0)), none, none⟩, ⟨.mov (.l 3), (some 2), none⟩] [])
 (.ret)),
 [.t 2], false, false, false⟩
def ixE : FC := ⟨2, 8, .seq (.reg [⟨.mov (.c (.int .i64 0)), (some 2), none⟩] [])
 (.seq (.seq (.reg [⟨.mov (.v 0), none, none⟩, ⟨.len false (.l 0), (some 4), none⟩, ⟨.mov (.c (.int .i64 0)), (some 5), none⟩] [])
 (.block 0 (.loop (.seq (.reg [⟨.bin .lss (.v 5) (.v 4), (some 6), none⟩] [])
 (.seq (.cond (.v 6) (.skip)
 (.exit 0))
 (.seq (.block 1 (.seq (.reg [⟨.mov (.v 5), none, none⟩, ⟨.mov (.l 0), (some 3), none⟩] [])
 (.seq (.reg [⟨.mov (.v 1), none, none⟩, ⟨.mov (.v 0), none, none⟩, ⟨.mov (.v 3), none, none⟩, ⟨.iptr 1 (.l 1) (.l 2), none, none⟩, ⟨.load none (.l 3), none, none⟩, ⟨.bin .eql (.l 0) (.l 4), (some 7), none⟩] [])
 (.cond (.v 7) (.seq (.reg [⟨.mov (.v 3), none, none⟩, ⟨.mov (.l 0), (some 2), none⟩] [])
 (.ret))
 (.skip)))))
 (.reg [⟨.bin .add (.v 5) (.c (.int .i64 1)), none, none⟩, ⟨.mov (.l 0), (some 5), none⟩] [])))))))
 (.seq (.reg [⟨.mov (.c (.int .i64 (-1))), (some 2), none⟩] [])
 (.ret))),
 [.t 2], false, false, false⟩
def ctE (g : Nat) : FC := ⟨2, 3, .seq (.reg [⟨.mov (.c (.bool false)), (some 2), none⟩] [])
 (.seq (.reg [⟨.mov (.v 0), none, none⟩, ⟨.mov (.v 1), none, none⟩, ⟨.call g [.l 0, .l 1], none, none⟩, ⟨.bin .geq (.l 2) (.c (.int .i64 0)), none, none⟩, ⟨.mov (.l 3), (some 2), none⟩] [])
 (.ret)),
 [.t 2], false, false, false⟩
/-! ### strings -/
def bst (l : List Int) : ByteArray := ⟨(l.map fun n => UInt8.ofNat n.toNat).toArray⟩
def stv (l : List Int) : AV := .str (bst l)
theorem bst_size (l : List Int) : (bst l).size = l.length := by simp [bst, ByteArray.size]
theorem toB8_go : ∀ (l : List Int) (a : List UInt8), toBytes (by8 l) ⟨a.toArray⟩ = some ⟨(a ++ l.map fun n => UInt8.ofNat n.toNat).toArray⟩
  | [], a => by simp [by8, toBytes]
  | n :: r, a => by
    have h:=toB8_go r (a ++ [UInt8.ofNat n.toNat])
    have e:(⟨a.toArray⟩:ByteArray).push (UInt8.ofNat n.toNat) = ⟨(a ++ [UInt8.ofNat n.toNat]).toArray⟩:=by
      apply ByteArray.ext; simp [ByteArray.push]
    simp only [by8,List.map_cons,toBytes] at h ⊢
    rw [e,h]
    simp
theorem toB8 (l : List Int) : toBytes (by8 l) .empty = some (bst l) := by
  have h:=toB8_go l []
  rw [List.nil_append] at h
  exact h
theorem bst_at {l : List Int} {i : Nat} (h : i < l.length) : (bst l).data[i]? = some (UInt8.ofNat l[i].toNat) := by simp [bst, h]
theorem u8_to {n : Int} (h : 0 ≤ n ∧ n < 256) : ((UInt8.ofNat n.toNat).toNat : Int) = n := by
  rw [UInt8.toNat_ofNat']
  have:n.toNat % 2 ^ 8 = n.toNat:=Nat.mod_eq_of_lt (by omega)
  rw [this]
  omega
theorem okB_at {l : List Int} (h : okB l) {i : Nat} (hi : i < l.length) : 0 ≤ l[i] ∧ l[i] < 256 := h.2 _ (List.getElem_mem hi)
theorem bst_inj : ∀ {a b : List Int}, (∀ x ∈ a, 0 ≤ x ∧ x < 256) → (∀ x ∈ b, 0 ≤ x ∧ x < 256) → bst a = bst b → a = b
  | a, b, ha, hb, h => by
    have h1:(a.map fun n=>UInt8.ofNat n.toNat) = b.map fun n=>UInt8.ofNat n.toNat:=by
      have:=congrArg (fun x:ByteArray=>x.data.toList) h
      simpa [bst] using this
    have key:∀ l:List Int,(∀ x ∈ l,0 ≤ x∧x < 256)→(l.map fun n=>UInt8.ofNat n.toNat).map (fun u=>(u.toNat:Int)) = l:=fun l hl=>by
      rw [List.map_map]
      conv => rhs; rw [← List.map_id l]
      exact List.map_congr_left fun x hx=>u8_to (hl x hx)
    rw [← key a ha,← key b hb,h1]
theorem bst_eql {a b : List Int} (ha : ∀ x ∈ a, 0 ≤ x ∧ x < 256) (hb : ∀ x ∈ b, 0 ≤ x ∧ x < 256) : ((bst a).toList == (bst b).toList) = decide (a = b) := by
  rw [ByteArray.toList_eq,ByteArray.toList_eq]
  by_cases h:a = b
  · subst h; simp
  · have hn : ¬ (bst a).data = (bst b).data := fun e => h (bst_inj ha hb (ByteArray.ext e))
    simp [h, hn]
theorem bst_nil {a : List Int} : ((bst a).toList == (⟨#[]⟩ : ByteArray).toList) = decide (a = []) := by
  rw [ByteArray.toList_eq,ByteArray.toList_eq]
  cases a <;> simp [bst]
/-! ### the first one -/
def fIdx {α : Type} (p : α → Bool) (l : List α) : Int := if l.any p = true then (l.findIdx p : Int) else -1
theorem fIdx_no {α : Type} {p : α → Bool} {l : List α} (h : ∀ x ∈ l, p x = false) : fIdx p l = -1 := by
  unfold fIdx
  rw [if_neg]
  simp only [List.any_eq_true,not_exists,not_and]
  exact fun x hx=>by rw [h x hx]; simp
theorem fIdx_at {α : Type} {p : α → Bool} {l : List α} {q : Nat} (hq : q < l.length) (h : ∀ x ∈ l.take q, p x = false) (hp : p l[q] = true) : fIdx p l = q := by
  unfold fIdx
  rw [if_pos (List.any_eq_true.2 ⟨_,List.getElem_mem hq,hp⟩)]
  congr 1
  rw [List.findIdx_eq hq]
  exact ⟨hp,fun j hj=>h _ (by rw [List.mem_take_iff_getElem]; exact ⟨j,by omega,rfl⟩)⟩
theorem fIdx_ge {α : Type} (p : α → Bool) (l : List α) : decide (0 ≤ fIdx p l) = l.any p := by
  unfold fIdx
  cases h : l.any p <;> simp
theorem take_all {α : Type} {p : α → Bool} {l : List α} {q : Nat} (hq : q < l.length) (h : ∀ x ∈ l.take q, p x = false) (hp : p l[q] = false) : ∀ x ∈ l.take (q + 1), p x = false := fun x hx => by
  rw [List.take_succ_eq_append_getElem hq,List.mem_append,List.mem_singleton] at hx
  rcases hx with hx | rfl
  · exact h x hx
  · exact hp
theorem ex_of {α : Type} {x : Option (AV × α)} {v : AV} {s : α} (h : x = some (v, s)) : ∃ v' s', x = some (v', s') ∧ (v' = v ∧ s' = s) := ⟨v, s, h, rfl, rfl⟩
section
variable {T : Nat → Option FC} {prim : CallT} {α : Type} {enc : α → List AV} {ev : α → AV}
set_option maxHeartbeats 4000000 in
theorem ixA_ok {g F sz : Nat} {az bz : List AV} (hT : T g = some (ixA sz)) (hl : ∀ x, (enc x).length = sz) {l : List α} {fl : Bool} {s : Store} {p : α → Bool} (hz : ∀ s, frz s (.fn F az bz) = some (.fn F az bz, s))
    (hf : ∀ x ∈ l, callF T prim F (az ++ [.agg (enc x)] ++ bz) (frm s []) = some (.bool (p x), frm s [])) (hn : l.length ≤ 9223372036854775807) :
    callF T prim g [.imm fl l.length (l.flatMap enc), .fn F az bz] s = some (.int .i64 (fIdx p l), s) := by
  refine funY hT (argsF rfl (frzs_cons frz_imm (frzs_cons (hz _) frzs_nil))) zt ?_
  repeat' (first|refine zw ?_|refine zn (fun hb=>?_) (fun hb=>?_)|refine zx ?_|refine zo ?_|exact zi|fail)
  refine wLoop (fun m st=>∃ (q:Nat) (y3 y6 y7:AV),(m:Int) = l.length - q∧q ≤ l.length∧(∀ x ∈ l.take q,p x = false)∧st = ⟨[.imm false l.length (l.flatMap enc),.fn F az bz,.int .i64 0,y3,.int .i64 l.length,.int .i64 q,y6,y7],frm s []⟩) l.length ?_ ?_
  · exact ⟨0, _, _, _, by omega, by omega, by simp, rfl⟩
  · rintro m st ⟨q, y3, y6, y7, hm, hq, hno, rfl⟩
    by_cases hlt:q < l.length
    · obtain ⟨ha1, ha2⟩ := fm_at hl hlt
      have hp:=ex_of (hf l[q] (List.getElem_mem hlt))
      repeat' (first|refine zw ?_|refine zn (fun hb=>?_) (fun hb=>?_)|refine zx ?_|((with_reducible apply oCallV (h := hp)); (focus (exact zr)); (focus (exact zr)); rintro _ _ ⟨rfl, rfl⟩)|((with_reducible apply oCallVG (h := hp)); (focus (exact zg)); (focus (exact zr)); (focus (exact zr)); rintro _ _ ⟨rfl, rfl⟩)|refine zof (zA @ha1 (@ha2)) ?_|exact zi|fail)
      · rw [fIdx_at (p := p) hlt hno hb]
        repeat' (first|refine zw ?_|refine zn (fun hb=>?_) (fun hb=>?_)|refine zx ?_|refine zo ?_|exact zi|fail)
      · exact loopNor (m - 1) (by omega) ⟨q + 1, _, _, _, by omega, by omega, take_all (p := p) hlt hno hb, rfl⟩
    · obtain rfl : q = l.length := by omega
      rw [List.take_length] at hno
      rw [fIdx_no (p:=p) hno]
      repeat' (first|refine zw ?_|refine zn (fun hb=>?_) (fun hb=>?_)|refine zx ?_|refine zo ?_|exact zi|fail)
set_option maxHeartbeats 4000000 in
theorem ixC_ok {g F : Nat} {az bz : List AV} (hT : T g = some ixC) {l : List α} {fl : Bool} {s : Store} {p : α → Bool} (hz : ∀ s, frz s (.fn F az bz) = some (.fn F az bz, s))
    (hf : ∀ x ∈ l, callF T prim F (az ++ [ev x] ++ bz) (frm s []) = some (.bool (p x), frm s [])) (hn : l.length ≤ 9223372036854775807) :
    callF T prim g [.imm fl l.length (l.map ev), .fn F az bz] s = some (.int .i64 (fIdx p l), s) := by
  refine funY hT (argsF rfl (frzs_cons frz_imm (frzs_cons (hz _) frzs_nil))) zt ?_
  repeat' (first|refine zw ?_|refine zn (fun hb=>?_) (fun hb=>?_)|refine zx ?_|refine zo ?_|exact zi|fail)
  refine wLoop (fun m st=>∃ (q:Nat) (y3 y6 y7:AV),(m:Int) = l.length - q∧q ≤ l.length∧(∀ x ∈ l.take q,p x = false)∧st = ⟨[.imm false l.length (l.map ev),.fn F az bz,.int .i64 0,y3,.int .i64 l.length,.int .i64 q,y6,y7],frm s []⟩) l.length ?_ ?_
  · exact ⟨0, _, _, _, by omega, by omega, by simp, rfl⟩
  · rintro m st ⟨q, y3, y6, y7, hm, hq, hno, rfl⟩
    by_cases hlt:q < l.length
    · obtain ⟨ha1, ha2⟩ := map_at (ev := ev) hlt
      have hp:=ex_of (hf l[q] (List.getElem_mem hlt))
      repeat' (first|refine zw ?_|refine zn (fun hb=>?_) (fun hb=>?_)|refine zx ?_|((with_reducible apply oCallV (h := hp)); (focus (exact zr)); (focus (exact zr)); rintro _ _ ⟨rfl, rfl⟩)|((with_reducible apply oCallVG (h := hp)); (focus (exact zg)); (focus (exact zr)); (focus (exact zr)); rintro _ _ ⟨rfl, rfl⟩)|refine zof (zA @ha1 (@ha2)) ?_|exact zi|fail)
      · rw [fIdx_at (p := p) hlt hno hb]
        repeat' (first|refine zw ?_|refine zn (fun hb=>?_) (fun hb=>?_)|refine zx ?_|refine zo ?_|exact zi|fail)
      · exact loopNor (m - 1) (by omega) ⟨q + 1, _, _, _, by omega, by omega, take_all (p := p) hlt hno hb, rfl⟩
    · obtain rfl : q = l.length := by omega
      rw [List.take_length] at hno
      rw [fIdx_no (p:=p) hno]
      repeat' (first|refine zw ?_|refine zn (fun hb=>?_) (fun hb=>?_)|refine zx ?_|refine zo ?_|exact zi|fail)
set_option maxHeartbeats 4000000 in
theorem ixE_ok {g : Nat} (hT : T g = some ixE) {l : List α} {fl : Bool} {s : Store} {b : ByteArray} {sf : α → ByteArray} {p : α → Bool}
    (hf : ∀ x ∈ l, (b.toList == (sf x).toList) = p x) (hn : l.length ≤ 9223372036854775807) :
    callF T prim g [.imm fl l.length (l.map fun x => .str (sf x)), .str b] s = some (.int .i64 (fIdx p l), s) := by
  refine funY hT (argsF rfl (frzs_cons frz_imm (frzs_cons (rfl) frzs_nil))) zt ?_
  repeat' (first|refine zw ?_|refine zn (fun hb=>?_) (fun hb=>?_)|refine zx ?_|refine zo ?_|exact zi|fail)
  refine wLoop (fun m st=>∃ (q:Nat) (y3 y6 y7:AV),(m:Int) = l.length - q∧q ≤ l.length∧(∀ x ∈ l.take q,p x = false)∧st = ⟨[.imm false l.length (l.map fun x=>AV.str (sf x)),AV.str b,.int .i64 0,y3,.int .i64 l.length,.int .i64 q,y6,y7],frm s []⟩) l.length ?_ ?_
  · exact ⟨0, _, _, _, by omega, by omega, by simp, rfl⟩
  · rintro m st ⟨q, y3, y6, y7, hm, hq, hno, rfl⟩
    by_cases hlt:q < l.length
    · obtain ⟨ha1, ha2⟩ := map_at (ev := fun x => AV.str (sf x)) hlt
      have hp:=hf l[q] (List.getElem_mem hlt)
      repeat' (first|refine zw ?_|refine zn (fun hb=>?_) (fun hb=>?_)|refine zx ?_|refine zof (zA @ha1 (zA @ha2 (@hp))) ?_|exact zi|fail)
      · rw [fIdx_at (p := p) hlt hno (by rw [← hp]; simpa using hb)]
        repeat' (first|refine zw ?_|refine zn (fun hb=>?_) (fun hb=>?_)|refine zx ?_|refine zo ?_|exact zi|fail)
      · exact loopNor (m - 1) (by omega) ⟨q + 1, _, _, _, by omega, by omega, take_all (p := p) hlt hno (by rw [← hp]; simpa using hb), rfl⟩
    · obtain rfl : q = l.length := by omega
      rw [List.take_length] at hno
      rw [fIdx_no (p:=p) hno]
      repeat' (first|refine zw ?_|refine zn (fun hb=>?_) (fun hb=>?_)|refine zx ?_|refine zo ?_|exact zi|fail)
set_option maxHeartbeats 4000000 in
theorem ixI_ok {g : Nat} (hT : T g = some ixE) {l : List Int} {fl : Bool} {s : Store} {v : Int} (hn : l.length ≤ 9223372036854775807) :
    callF T prim g [.imm fl l.length (l.map (AV.int .i64)), .int .i64 v] s = some (.int .i64 (fIdx (fun x => v == x) l), s) := by
  refine funY hT (argsF rfl (frzs_cons frz_imm (frzs_cons (rfl) frzs_nil))) zt ?_
  repeat' (first|refine zw ?_|refine zn (fun hb=>?_) (fun hb=>?_)|refine zx ?_|refine zo ?_|exact zi|fail)
  refine wLoop (fun m st=>∃ (q:Nat) (y3 y6 y7:AV),(m:Int) = l.length - q∧q ≤ l.length∧(∀ x ∈ l.take q,(v == x) = false)∧st = ⟨[.imm false l.length (l.map (AV.int .i64)),AV.int .i64 v,.int .i64 0,y3,.int .i64 l.length,.int .i64 q,y6,y7],frm s []⟩) l.length ?_ ?_
  · exact ⟨0, _, _, _, by omega, by omega, by simp, rfl⟩
  · rintro m st ⟨q, y3, y6, y7, hm, hq, hno, rfl⟩
    by_cases hlt:q < l.length
    · obtain ⟨ha1, ha2⟩ := map_at (ev := AV.int .i64) hlt
      skip
      repeat' (first|refine zw ?_|refine zn (fun hb=>?_) (fun hb=>?_)|refine zx ?_|refine zof (zA @ha1 (@ha2)) ?_|exact zi|fail)
      · rw [fIdx_at (p := fun x => v == x) hlt hno (by simpa using hb)]
        repeat' (first|refine zw ?_|refine zn (fun hb=>?_) (fun hb=>?_)|refine zx ?_|refine zo ?_|exact zi|fail)
      · exact loopNor (m - 1) (by omega) ⟨q + 1, _, _, _, by omega, by omega, take_all (p := fun x => v == x) hlt hno (by simpa using hb), rfl⟩
    · obtain rfl : q = l.length := by omega
      rw [List.take_length] at hno
      rw [fIdx_no (p:=fun x=>v == x) hno]
      repeat' (first|refine zw ?_|refine zn (fun hb=>?_) (fun hb=>?_)|refine zx ?_|refine zo ?_|exact zi|fail)

set_option maxHeartbeats 4000000 in
theorem cf_ok {g i F : Nat} {az bz : List AV} {v : AV} {l : List α} {s : Store} {p : α → Bool} (hT : T g = some (cfF i)) (hv : ∀ s, frz s v = some (v, s)) (hz : ∀ s, frz s (.fn F az bz) = some (.fn F az bz, s))
    (hi : callF T prim i [v, .fn F az bz] (frm s []) = some (.int .i64 (fIdx p l), frm s [])) : callF T prim g [v, .fn F az bz] s = some (.bool (l.any p), s) := by
  refine funY hT (argsF rfl (frzs_cons (hv _) (frzs_cons (hz _) frzs_nil))) zt ?_
  rw [← fIdx_ge p l]
  repeat' (first|refine zw ?_|refine zn (fun hb=>?_) (fun hb=>?_)|refine zx ?_|refine zof @hi ?_|exact zi|fail)
  all_goals exact isI (congrArg AV.bool (by simp [hb])) rfl
set_option maxHeartbeats 4000000 in
theorem ct_ok {g i : Nat} {v x : AV} {l : List α} {s : Store} {p : α → Bool} (hT : T g = some (ctE i)) (hv : ∀ s, frz s v = some (v, s)) (hz : ∀ s, frz s x = some (x, s))
    (hi : ∀ s, callF T prim i [v, x] s = some (.int .i64 (fIdx p l), s)) : callF T prim g [v, x] s = some (.bool (l.any p), s) := by
  refine funY hT (argsF rfl (frzs_cons (hv _) (frzs_cons (hz _) frzs_nil))) zt ?_
  rw [← fIdx_ge p l]
  repeat' (first|refine zw ?_|refine zn (fun hb=>?_) (fun hb=>?_)|refine zx ?_|refine zof @hi ?_|exact zi|fail)
  all_goals exact isI (congrArg AV.bool (by simp [hb])) rfl
end
/-! ### what is told by a truth value -/
theorem dec_of {x : Option (AV × Store)} {s : Store} {P : Prop} [Decidable P] (h : ∃ v s', x = some (v, s') ∧ ∃ b : Bool, v = .bool b ∧ s' = s ∧ (b = true ↔ P)) : x = some (.bool (decide P), s) := by
  obtain ⟨_,_,e,b,rfl,rfl,hb⟩:=h
  rw [e]
  congr 3
  cases b with
  | true => exact (decide_eq_true (hb.1 rfl)).symm
  | false => exact (decide_eq_false fun hp => by cases hb.2 hp).symm
theorem zl {b : Bool} {s : Store} {P : Prop} (h : b = true ↔ P := by first | (refine iff_of_true rfl ?_; omega) | (refine iff_of_false Bool.false_ne_true ?_; omega) | (simp only [decide_eq_true_eq, Bool.not_eq_true', decide_eq_false_iff_not]; omega)) : ∃ b' : Bool, AV.bool b = .bool b' ∧ s = s ∧ (b' = true ↔ P) := ⟨b, rfl, rfl, h⟩
end Go.Proofs.YtkjonfojileipaaGreatDoor.Ae
namespace Go.Proofs.YtkjonfojileipaaGreatDoor.Ae
open Go
theorem frm_new0 (s : Store) (t : List Obj) (o : Obj) : (frm s t).new0 o = frm (s.new0 o) t := by
  obtain ⟨low,top⟩:=s
  cases low <;> rfl
theorem frm_len0 (s : Store) (t : List Obj) : (frm s t).len0 = s.len0 := by
  obtain ⟨low,top⟩:=s
  cases low <;> rfl
theorem new0_len (s : Store) (o : Obj) : (s.new0 o).low.length = s.low.length := by
  obtain ⟨low,top⟩:=s
  cases low <;> rfl
theorem new0_get (s : Store) (o : Obj) : (s.new0 o).get 0 s.len0 = some o := by
  obtain ⟨low,top⟩:=s
  cases low <;> simp [Store.new0, Store.len0, Store.get]
theorem new0_set (s : Store) (o o' : Obj) : (s.new0 o).set 0 s.len0 o' = s.new0 o' := by
  obtain ⟨low,top⟩:=s
  cases low <;> simp [Store.new0, Store.len0, Store.set]
def put0 (e : Nat) (s : Store) (v : AV) (l x : List Int) : AV × Store :=
  match v with
  | .slr _ i _ _ _ _ => (.slr 0 i 0 (l ++ x).length (l ++ x).length false, s.set 0 i (.arr e 1 (by8 (l ++ x)) (l ++ x).length (l ++ x).length))
  | _ => if x = [] then (v, s) else (.slr 0 s.len0 0 x.length x.length false, s.new0 (.arr e 1 (by8 x) x.length x.length))
def B0 (e : Nat) (s : Store) (v : AV) (l : List Int) : Prop :=
  (v = .imm true 0 [] ∧ l = []) ∨ ∃ i, v = .slr 0 i 0 l.length l.length false ∧ s.get 0 i = some (.arr e 1 (by8 l) l.length l.length)
def Buf (e : Nat) (bv : List Int → AV) (bs : List Int → Store) : Prop :=
  ∃ s v l, B0 e s v l ∧ l.length ≤ 100000000000 ∧ ∀ x, bv x = (put0 e s v l x).1 ∧ bs x = (put0 e s v l x).2
theorem by8_app (a b : List Int) : by8 a ++ by8 b = by8 (a ++ b) := by simp [by8]
theorem Buf.low {e : Nat} {bv : List Int → AV} {bs : List Int → Store} (h : Buf e bv bs) (x : List Int) : (bs x).low.length = (bs []).low.length := by
  obtain ⟨s,v,l,hB,_,hp⟩:=h
  rw [(hp x).2,(hp []).2]
  rcases hB with ⟨rfl, rfl⟩ | ⟨i, rfl, hg⟩
  · simp only [put0, if_true]
    split
    · rfl
    · exact new0_len _ _
  · simp only [put0, set_len]
theorem Buf.frm {e : Nat} {bv : List Int → AV} {bs : List Int → Store} (h : Buf e bv bs) (T : List Obj) : Buf e bv (fun x => frm (bs x) T) := by
  obtain ⟨s,v,l,hB,hl,hp⟩:=h
  refine ⟨Ae.frm s T,v,l,?_,hl,fun x=>⟨?_,?_⟩⟩
  · rcases hB with h | ⟨i, rfl, hg⟩
    · exact .inl h
    · exact .inr ⟨i, rfl, by rw [frm_get _ _ _ (Nat.zero_le _)]; exact hg⟩
  · rw [(hp x).1]
    rcases hB with ⟨rfl, rfl⟩ | ⟨i, rfl, hg⟩
    · simp only [put0]
      split
      · rfl
      · simp only [frm_len0]
    · rfl
  · dsimp only
    rw [(hp x).2]
    rcases hB with ⟨rfl, rfl⟩ | ⟨i, rfl, hg⟩
    · simp only [put0]
      split
      · rfl
      · simp only [frm_new0]
    · simp only [put0]
      rw [frm_set _ _ _ _ (Nat.zero_le _)]
theorem Buf.app {e : Nat} {bv : List Int → AV} {bs : List Int → Store} (h : Buf e bv bs) {x ys : List Int} {src : AV} (hs : srcOf (bs x) src = some (ys.length, by8 ys)) (hn : x.length + ys.length ≤ 20000000000) :
    appG (bs x) e 1 1 (bv x) src = some (bv (x ++ ys), bs (x ++ ys)) := by
  obtain ⟨s,v,l,hB,hl,hp⟩:=h
  simp only [appG,hs,Option.bind_some]
  rw [(hp x).1,(hp x).2,(hp (x ++ ys)).1,(hp (x ++ ys)).2]
  rcases hB with ⟨rfl, rfl⟩ | ⟨i, rfl, hg⟩
  · by_cases hx : x = []
    · subst hx
      simp only [put0,if_true,List.nil_append,appTo0]
      rw [if_pos ⟨by simp only [List.length_nil] at hn; omega,by8_ok _,by simp,by rw [by8_len]; omega⟩]
      by_cases hy:ys = []
      · subst hy; simp
      · rw [if_neg (by simpa using hy), if_neg hy]
        simp only [newArr0,List.nil_append,Nat.zero_add,Nat.mul_one]
        rw [if_pos ⟨by8_ok _,by rw [by8_len]⟩]
    · have hxy : x ++ ys ≠ [] := by simp [hx]
      simp only [put0,if_neg hx,if_neg hxy,appTo0,new0_get]
      rw [if_pos ⟨by omega,trivial,trivial,trivial,trivial,by rw [by8_len]; omega,trivial,trivial,by rw [by8_len]; omega,by8_ok _,by omega⟩]
      by_cases hy:ys = []
      · subst hy; simp
      · rw [if_neg (by simpa using hy)]
        simp only [List.length_append,Nat.mul_one,new0_set,by8_app]
  · have hg2 : (s.set 0 i (.arr e 1 (by8 (l ++ x)) (l ++ x).length (l ++ x).length)).get 0 i = some (.arr e 1 (by8 (l ++ x)) (l ++ x).length (l ++ x).length) := get_set s hg
    simp only [put0,appTo0,hg2]
    rw [if_pos ⟨by simp only [List.length_append]; omega,trivial,trivial,trivial,trivial,by rw [by8_len]; omega,trivial,trivial,by rw [by8_len]; omega,by8_ok _,by omega⟩]
    by_cases hy:ys = []
    · subst hy; simp
    · rw [if_neg (by simpa using hy)]
      simp only [List.length_append,Nat.mul_one,set_set,by8_app,List.append_assoc,Nat.add_assoc]
theorem Buf.new (e : Nat) (s : Store) : ∃ bv bs, Buf e bv bs ∧ bv [] = .imm true 0 [] ∧ bs [] = s ∧ ∀ x, x ≠ [] → bv x = .slr 0 s.len0 0 x.length x.length false ∧ bs x = s.new0 (.arr e 1 (by8 x) x.length x.length) :=
  ⟨fun x => (put0 e s (.imm true 0 []) [] x).1, fun x => (put0 e s (.imm true 0 []) [] x).2, ⟨s, _, [], .inl ⟨rfl, rfl⟩, by simp, fun x => ⟨rfl, rfl⟩⟩, by simp [put0], by simp [put0], fun x hx => by simp [put0, hx]⟩
theorem Buf.skip {e : Nat} {bv : List Int → AV} {bs : List Int → Store} (h : Buf e bv bs) (x : List Int) (hx : x.length ≤ 20000000000) : Buf e bv bs := h
theorem srcB {s : Store} {l : List Int} (hl : ∀ x ∈ l, 0 ≤ x ∧ x < 256) : srcOf s (stv l) = some (l.length, by8 l) := by
  simp only [srcOf,stv,bst_size,strCells]
  congr 2
  simp only [bst,by8,List.map_map]
  refine List.map_congr_left fun x hx=>?_
  show AV.int .u8 ((UInt8.ofNat x.toNat).toNat : Int) = AV.int .u8 x
  rw [u8_to (hl x hx)]
/-! ### digits -/
def dg (u : Nat) : List Int := (Lib.decDigits u).map fun b => (b.toNat : Int)
theorem dg_small {u : Nat} (h : u < 10) : dg u = [48 + (u : Int)] := by
  unfold dg
  rw [Lib.decDigits_one h]
  simp only [List.map_cons,List.map_nil]
  rw [UInt8.toNat_ofNat_of_lt' (by show 48 + u < 256; omega)]
  push_cast
  rfl
theorem dg_big {u : Nat} (h : ¬ u < 10) : dg u = dg (u / 10) ++ [48 + ((u % 10 : Nat) : Int)] := by
  unfold dg
  rw [Lib.decDigits,dif_neg h,List.map_append]
  simp only [List.map_cons,List.map_nil]
  rw [UInt8.toNat_ofNat_of_lt' (by show 48 + u % 10 < 256; omega)]
  push_cast
  rfl
theorem dg_len {u : Nat} (h : u < 18446744073709551616) : (dg u).length ≤ 20 := by
  unfold dg
  rw [List.length_map,Lib.decDigits_length]
  exact Lib.nDigits_le20 u (by omega)
def num (n : Int) : List Int := if n < 0 then 45 :: dg n.natAbs else dg n.toNat
theorem num_len {n : Int} (h : inI n) : (num n).length ≤ 21 := by
  unfold inI at h
  unfold num
  split
  · have := dg_len (u := n.natAbs) (by omega)
    rw [List.length_cons]
    omega
  · have := dg_len (u := n.toNat) (by omega)
    omega
theorem dg_bst (u : Nat) : bst (dg u) = ⟨(Lib.decDigits u).toArray⟩ := by
  unfold bst dg
  congr 2
  rw [List.map_map]
  conv => rhs; rw [← List.map_id (Lib.decDigits u)]
  refine List.map_congr_left fun x _=>?_
  simp
theorem num_bst (n : Int) : (⟨(Lib.itoa n).toArray⟩ : ByteArray) = bst (num n) := by
  unfold num Lib.itoa
  split
  · have h := dg_bst n.natAbs
    unfold bst at h ⊢
    simp only [ByteArray.mk.injEq,List.map_cons] at h ⊢
    have h2:((dg n.natAbs).map fun n=>UInt8.ofNat n.toNat) = Lib.decDigits n.natAbs:=by simpa using congrArg Array.toList h
    rw [h2]
    rfl
  · exact (dg_bst _).symm
theorem dg_byte (u : Nat) : ∀ x ∈ dg u, 0 ≤ x ∧ x < 256 := fun x hx => by
  obtain ⟨b,_,rfl⟩:=List.mem_map.1 hx
  have:=b.toNat_lt
  omega
theorem num_byte (n : Int) : ∀ x ∈ num n, 0 ≤ x ∧ x < 256 := fun x hx => by
  unfold num at hx
  split at hx
  · rcases List.mem_cons.1 hx with rfl | hx
    · omega
    · exact dg_byte _ x hx
  · exact dg_byte _ x hx
theorem wrap_u64 {x : Int} (h : 0 ≤ x ∧ x < 18446744073709551616) : IntKind.u64.wrap x = x := by
  unfold IntKind.wrap
  simp only [IntKind.bits,IntKind.signed,Bool.false_and,Bool.false_eq_true,if_false]
  omega
theorem wrap_u8 {x : Int} (h : 0 ≤ x ∧ x < 256) : IntKind.u8.wrap x = x := by
  unfold IntKind.wrap
  simp only [IntKind.bits,IntKind.signed,Bool.false_and,Bool.false_eq_true,if_false]
  omega
def jn : List (List Int) → List Int
  | [] => []
  | p :: r => p ++ r.flatMap fun x => 32 :: x
def brk (ps : List (List Int)) : List Int := 40 :: (jn ps ++ [41])
theorem jn_snoc (p : List Int) (r : List (List Int)) (x : List Int) : jn (p :: r ++ [x]) = jn (p :: r) ++ 32 :: x := by simp [jn]
theorem jn_app (p : List Int) (r l : List (List Int)) : jn (p :: r ++ l) = jn (p :: r) ++ l.flatMap fun x => 32 :: x := by simp [jn]
def sumL (ps : List (List Int)) : Nat := (ps.map fun p => 1 + p.length).sum
theorem jn_len (ps : List (List Int)) : (jn ps).length ≤ sumL ps := by
  have key:∀ r:List (List Int),(r.flatMap fun x=>32 :: x).length = sumL r:=fun r=>by
    induction r with
    | nil => rfl
    | cons x r ih => rw [List.flatMap_cons, List.length_append, ih]; simp only [sumL, List.map_cons, List.sum_cons, List.length_cons]; omega
  cases ps with
  | nil => simp [jn]
  | cons p r =>
    simp only [jn,List.length_append,key,sumL,List.map_cons,List.sum_cons]
    omega
theorem brk_len (ps : List (List Int)) : (brk ps).length ≤ 2 + sumL ps := by
  have:=jn_len ps
  simp only [brk,List.length_cons,List.length_append,List.length_nil]
  omega
theorem sumL_cons (p : List Int) (r : List (List Int)) : sumL (p :: r) = 1 + p.length + sumL r := by simp [sumL]
theorem sumL_nil : sumL [] = 0 := rfl
theorem sumL_app (a b : List (List Int)) : sumL (a ++ b) = sumL a + sumL b := by simp [sumL]
theorem sumL_le {α : Type} {f : α → List Int} {g : α → Nat} {c : Nat} {l : List α} (hc : 0 < c) (h : ∀ x ∈ l, 1 + (f x).length ≤ c * (1 + g x)) : sumL (l.map f) ≤ c * sizes g l := by
  have:sumL (l.map f) ≤ c * (l.map fun x=>1 + g x).sum:=by
    induction l with
    | nil => simp [sumL]
    | cons x r ih =>
      have h1:=h x (by simp)
      have h2:=ih fun y hy=>h y (by simp [hy])
      simp only [List.map_cons,sumL_cons,List.sum_cons,Nat.mul_add] at h1 h2 ⊢
      omega
  refine Nat.le_trans this (Nat.mul_le_mul_left c ?_)
  unfold sizes
  clear this h
  induction l with
  | nil => simp
  | cons x r ih => simp only [List.map_cons, List.sum_cons, List.length_cons]; omega

/-! ### types in datas -/
def tyw (k : Int) : List Int :=
  if k = 0 then [117, 110, 105, 116] else if k = 1 then [105, 110, 116] else if k = 2 then [116, 101, 120, 116] else if k = 3 then [112, 97, 105, 114]
  else if k = 4 then [102, 117, 110] else if k = 5 then [114, 101, 102] else if k = 6 then [100, 97, 116, 97] else [39]
theorem tyw_len (k : Int) : (tyw k).length ≤ 4 := by
  unfold tyw
  (repeat' split) <;> simp
def dnm (ds : List Dt) (n : Int) : List Int := match ds[n.toNat]? with | some d => d.name | none => []
mutual
def tsay (ds : List Dt) : Ty → List Int
  | .mk k n args => if k = 0 ∨ k = 1 ∨ k = 2 then tyw k else if k = 7 then 39 :: num n else if k = 6 then (if args.length = 0 then dnm ds n else brk (dnm ds n :: tsayL ds args)) else brk (tyw k :: tsayL ds args)
def tsayL (ds : List Dt) : List Ty → List (List Int)
  | [] => []
  | t :: r => tsay ds t :: tsayL ds r
end
theorem tsayL_eq (ds : List Dt) : ∀ l : List Ty, tsayL ds l = l.map (tsay ds)
  | [] => rfl
  | t :: r => by rw [tsayL, tsayL_eq ds r]; rfl
theorem dnm_len {ds : List Dt} (h : ∀ d ∈ ds, d.name.length ≤ 8) (n : Int) : (dnm ds n).length ≤ 8 := by
  unfold dnm
  split
  · rename_i d hd
    exact h d (List.mem_of_getElem? hd)
  · simp
theorem tsay_len {ds : List Dt} (h : ∀ d ∈ ds, d.name.length ≤ 8) : ∀ t : Ty, t.ok → (tsay ds t).length ≤ 23 * t.sz + 22 := by
  refine Ty.ind fun k n args ih ho=>?_
  simp only [Ty.ok,okT_iff] at ho
  rw [tsay,Ty.sz,szT_eq,tsayL_eq]
  have h1:=tyw_len k
  have h2:=num_len ho.2.1
  have h3:=dnm_len h n
  have h4:=sumL_le (f:=tsay ds) (g:=Ty.sz) (c:=23) (l:=args) (by omega) fun x hx=>by have:=ih x hx (ho.2.2.2 x hx); omega
  have h5:=brk_len (dnm ds n :: args.map (tsay ds))
  have h6:=brk_len (tyw k :: args.map (tsay ds))
  rw [sumL_cons] at h5 h6
  split
  · omega
  · split
    · rw [List.length_cons]; omega
    · split
      · split <;> omega
      · omega

/-! ### expressions -/
def kw (k : Int) : List Int :=
  if k = 4 then [102, 110] else if k = 6 then [108, 101, 116] else if k = 7 then [114, 101, 99] else if k = 8 then [105, 102] else if k = 9 then [112, 97, 105, 114]
  else if k = 10 then [102, 115, 116] else if k = 11 then [115, 110, 100] else if k = 12 then [114, 101, 102] else if k = 13 then [114, 101, 97, 100] else if k = 14 then [119, 114, 105, 116, 101]
  else if k = 16 then [109, 97, 116, 99, 104] else if k = 17 then [114, 97, 105, 115, 101] else if k = 18 then [116, 114, 121] else []
def opw (n : Int) : List Int :=
  if n = 0 then [97, 100, 100] else if n = 1 then [115, 117, 98] else if n = 2 then [109, 117, 108] else if n = 3 then [108, 101, 115, 115] else if n = 4 then [115, 97, 109, 101] else if n = 5 then [99, 97, 116] else [108, 101, 110]
def clw (n : Int) : List Int :=
  if n = 0 then [112, 114, 105, 110, 116] else if n = 1 then [116, 105, 99, 107] else if n = 2 then [100, 114, 97, 119] else if n = 3 then [103, 101, 116] else [112, 117, 116]
def hdw (k n : Int) (name : List Int) : List Int := if k = 15 then name else if k = 19 then opw n else if k = 20 then clw n else kw k
def hds (k n : Int) (name arg : List Int) : List (List Int) := hdw k n name :: (if k = 4 ∨ k = 6 then [name] else if k = 7 then [name, arg] else [])
def tryL (name : List Int) : List (List Int) → List (List Int)
  | a :: r => a :: name :: r
  | [] => [name]
mutual
def xsay : Xp → List Int
  | .mk k n name arg lit kids arms =>
    if k = 0 then [117, 110, 105, 116] else if k = 1 then num n else if k = 2 then 34 :: (lit ++ [34]) else if k = 3 then name
    else if k = 18 then brk (kw 18 :: tryL name (xsayL kids))
    else if k = 5 then brk (xsayL kids)
    else if (k = 15 ∨ k = 20) ∧ kids.length = 0 then hdw k n name
    else brk (hds k n name arg ++ (xsayL kids ++ asayL arms))
def asay : Arm → List Int
  | .mk con vars body => brk ((if con.length = 0 then [95] else con) :: (vars ++ [xsay body]))
def xsayL : List Xp → List (List Int)
  | [] => []
  | t :: r => xsay t :: xsayL r
def asayL : List Arm → List (List Int)
  | [] => []
  | t :: r => asay t :: asayL r
end
theorem xsayL_eq : ∀ l : List Xp, xsayL l = l.map xsay
  | [] => by rw [xsayL]; rfl
  | t :: r => by rw [xsayL, xsayL_eq r]; rfl
theorem asayL_eq : ∀ l : List Arm, asayL l = l.map asay
  | [] => by rw [asayL]; rfl
  | t :: r => by rw [asayL, asayL_eq r]; rfl
theorem xsay_eq (k n : Int) (name arg lit : List Int) (kids : List Xp) (arms : List Arm) : xsay (.mk k n name arg lit kids arms) = 
    if k = 0 then [117, 110, 105, 116] else if k = 1 then num n else if k = 2 then 34 :: (lit ++ [34]) else if k = 3 then name
    else if k = 18 then brk (kw 18 :: tryL name (kids.map xsay))
    else if k = 5 then brk (kids.map xsay)
    else if (k = 15 ∨ k = 20) ∧ kids.length = 0 then hdw k n name
    else brk (hds k n name arg ++ (kids.map xsay ++ arms.map asay)) := by rw [xsay, xsayL_eq, asayL_eq]
theorem asay_eq (a : Arm) : asay a = brk ((if a.con.length = 0 then [95] else a.con) :: (a.vars ++ [xsay a.body])) := by
  cases a
  rw [asay]
  rfl
theorem ite_len {c : Prop} [Decidable c] {a b : List Int} {n : Nat} (ha : a.length ≤ n) (hb : b.length ≤ n) : (if c then a else b).length ≤ n := by
  split
  · exact ha
  · exact hb
theorem kw_len (k : Int) : (kw k).length ≤ 5 := by
  unfold kw
  repeat' apply ite_len
  all_goals decide
theorem opw_len (k : Int) : (opw k).length ≤ 5 := by
  unfold opw
  repeat' apply ite_len
  all_goals decide
theorem clw_len (k : Int) : (clw k).length ≤ 5 := by
  unfold clw
  repeat' apply ite_len
  all_goals decide
theorem hdw_len (k n : Int) (name : List Int) : (hdw k n name).length ≤ 5 ∨ (k = 15 ∧ hdw k n name = name) := by
  have:=kw_len k
  have:=opw_len n
  have:=clw_len n
  unfold hdw
  split
  · exact .inr ⟨by assumption, rfl⟩
  · left; (repeat' split) <;> assumption
theorem hds_len (k n : Int) (name arg : List Int) : sumL (hds k n name arg) ≤ 8 + name.length + arg.length := by
  have h:=hdw_len k n name
  unfold hds
  rw [sumL_cons]
  rcases h with h | ⟨h, e⟩
  · split
    · simp only [sumL_cons, sumL_nil]; omega
    · split <;> simp only [sumL_cons, sumL_nil] <;> omega
  · rw [e, if_neg (by omega), if_neg (by omega), sumL_nil]; omega
theorem tryL_len (name : List Int) (l : List (List Int)) : sumL (tryL name l) = 1 + name.length + sumL l := by
  cases l with
  | nil => simp [tryL, sumL_cons, sumL_nil]
  | cons a r => simp only [tryL, sumL_cons]; omega
theorem asay_len {a : Arm} (h : (xsay a.body).length ≤ 28 * a.body.sz + 22) : (asay a).length ≤ 28 * a.sz + 27 := by
  obtain ⟨con,vars,body⟩:=a
  rw [asay]
  have h1:=brk_len ((if con.length = 0 then [95] else con) :: (vars ++ [xsay body]))
  have h2:=sumL_le (f:=fun x:List Int=>x) (g:=List.length) (c:=1) (l:=vars) (by omega) fun x _=>by omega
  rw [List.map_id'] at h2
  rw [sumL_cons,sumL_app,sumL_cons,sumL_nil] at h1
  simp only [Arm.body] at h
  simp only [Arm.sz]
  have h3:(if con.length = 0 then [95] else con).length ≤ 1 + con.length:=by split <;> simp <;> omega
  omega
theorem xsay_len : ∀ e : Xp, e.ok → (xsay e).length ≤ 28 * e.sz + 22 := by
  refine Xp.ind fun k n name arg lit kids arms ih iha ho=>?_
  simp only [Xp.ok,okE_iff,okA_iff] at ho
  obtain ⟨_,hn,hname,harg,hlit,⟨_,hoe⟩,⟨_,hoa⟩⟩:=ho
  rw [xsay_eq,Xp.sz,szE_eq,szA_eq]
  have h1:=kw_len 18
  have h2:=num_len hn
  have h3:=hdw_len k n name
  have h4:=sumL_le (f:=xsay) (g:=Xp.sz) (c:=28) (l:=kids) (by omega) fun x hx=>by have:=ih x hx (hoe x hx); omega
  have h5:=sumL_le (f:=asay) (g:=Arm.sz) (c:=28) (l:=arms) (by omega) fun x hx=>by have:=asay_len (iha x hx (Arm.ok_body (hoa x hx))); omega
  have h6:=brk_len (kw 18 :: tryL name (kids.map xsay))
  have h7:=brk_len (kids.map xsay)
  have h8:=brk_len (hds k n name arg ++ (kids.map xsay ++ arms.map asay))
  have h9:=hds_len k n name arg
  rw [sumL_cons,tryL_len] at h6
  rw [sumL_app,sumL_app] at h8
  split
  · simp
  · split
    · omega
    · split
      · simp only [List.length_cons, List.length_append, List.length_nil]; omega
      · split
        · omega
        · split
          · omega
          · split
            · omega
            · split
              · rcases h3 with h3 | ⟨_, h3⟩
                · omega
                · rw [h3]; omega
              · omega

/-! ### sources -/
def csay (ds : List Dt) (c : Con) : List Int := brk (c.name :: c.fields.map (tsay ds))
def dsay (ds : List Dt) (d : Dt) : List Int := brk ([100, 97, 116, 97] :: d.name :: num d.vars :: d.cons.map (csay ds)) ++ [10]
def ssay (s : Sr) : List Int := s.datas.flatMap (dsay s.datas) ++ xsay s.body ++ [10]
theorem csay_len {ds : List Dt} (h : ∀ d ∈ ds, d.name.length ≤ 8) {c : Con} (ho : c.ok) : (csay ds c).length ≤ 23 * c.sz + 3 := by
  unfold csay Con.sz
  have h1:=brk_len (c.name :: c.fields.map (tsay ds))
  have h4:=sumL_le (f:=tsay ds) (g:=Ty.sz) (c:=23) (l:=c.fields) (by omega) fun x hx=>by have:=tsay_len h x (ho.2.2 x hx); omega
  rw [sumL_cons] at h1
  omega
theorem dsay_len {ds : List Dt} (h : ∀ d ∈ ds, d.name.length ≤ 8) {d : Dt} (ho : d.ok) : (dsay ds d).length ≤ 23 * d.sz + 40 := by
  unfold dsay Dt.sz
  have h1:=brk_len ([100,97,116,97] :: d.name :: num d.vars :: d.cons.map (csay ds))
  have h2:=num_len ho.2.1
  have h4:=sumL_le (f:=csay ds) (g:=Con.sz) (c:=23) (l:=d.cons) (by omega) fun x hx=>by have:=csay_len h (ho.2.2.2 x hx); omega
  rw [sumL_cons,sumL_cons,sumL_cons] at h1
  rw [List.length_append]
  simp only [List.length_cons,List.length_nil] at h1 ⊢
  omega
theorem ssay_len {s : Sr} (h : ∀ d ∈ s.datas, d.name.length ≤ 8) (ho : s.ok) : (ssay s).length ≤ 64 * s.sz + 64 := by
  unfold ssay Sr.sz
  have h1:=xsay_len s.body ho.2
  have h2:=sumL_le (f:=dsay s.datas) (g:=Dt.sz) (c:=64) (l:=s.datas) (by omega) fun x hx=>by have:=dsay_len h (ho.1.2 x hx); omega
  have h3:(s.datas.flatMap (dsay s.datas)).length ≤ sumL (s.datas.map (dsay s.datas)):=by
    clear h1 h2 h ho
    generalize dsay s.datas = f
    induction s.datas with
    | nil => simp
    | cons x r ih => rw [List.flatMap_cons, List.map_cons, sumL_cons, List.length_append]; omega
  simp only [List.length_append,List.length_cons,List.length_nil]
  omega
/-! ### strings -/
theorem bst_app (a b : List Int) : bst a ++ bst b = bst (a ++ b) := by
  apply ByteArray.ext
  simp [bst]
theorem bst_cat {a b : List Int} (h : a.length + b.length ≤ 9000000000000000000) : binS .add (bst a) (bst b) = some (.str (bst (a ++ b))) := by
  simp only [binS,bst_size,bst_app]
  rw [if_neg]
  rw [IntKind.max_i64]
  omega
def SlAt (D : Nat) (T : List Obj) (e sz : Nat) (v : AV) (n : Nat) (cs : List AV) : Prop :=
  cs.length = n * sz ∧ ((v = .imm true 0 [] ∧ n = 0) ∨ ∃ k off ver all, v = .slr D k off n ver false ∧ T[k]? = some (.arr e sz all ver 0) ∧ (all.drop off).take (n * sz) = cs ∧ off + n * sz ≤ all.length)
def Oth (e : Nat) (T T' : List Obj) : Prop := T.length ≤ T'.length ∧ ∀ (j : Nat) o, T[j]? = some o → (∀ sz cs ver pr, o ≠ Obj.arr e sz cs ver pr) → T'[j]? = some o
theorem Oth.refl (e : Nat) (T : List Obj) : Oth e T T := ⟨Nat.le_refl _, fun _ _ h _ => h⟩
theorem oth_snoc (e : Nat) (T R : List Obj) : Oth e T (T ++ R) := ⟨by simp, fun j o h _ => by rw [List.getElem?_append_left (List.getElem?_eq_some_iff.1 h).1]; exact h⟩
theorem oth_set {e k sz ver pr : Nat} {T : List Obj} {cs : List AV} (o' : Obj) (h : T[k]? = some (.arr e sz cs ver pr)) : Oth e T (T.set k o') :=
  ⟨by simp, fun j o hj hn => by
    by_cases hk:k = j
    · subst hk; rw [h] at hj; exact absurd (Option.some.inj hj).symm (hn _ _ _ _)
    · rw [List.getElem?_set_ne hk]; exact hj⟩
theorem Oth.box {e t j : Nat} {T T' : List Obj} {cs : List AV} (h : Oth e T T') (hj : T[j]? = some (.box t cs)) : T'[j]? = some (Obj.box t cs) := h.2 j _ hj (by simp)
theorem Oth.arr {e e' sz j ver pr : Nat} {T T' : List Obj} {cs : List AV} (h : Oth e T T') (hj : T[j]? = some (.arr e' sz cs ver pr)) (hne : e' ≠ e) : T'[j]? = some (.arr e' sz cs ver pr) := h.2 j _ hj (by simp [hne])
theorem SlAt.box {D e sz n i t : Nat} {T : List Obj} {v : AV} {cs bs : List AV} (h : SlAt D T e sz v n cs) (hi : T[i]? = some (.box t bs)) (o : Obj) : SlAt D (T.set i o) e sz v n cs := by
  obtain ⟨h0,h | ⟨k,off,ver,all,h1,h2,h3,h4⟩⟩:=h
  · exact ⟨h0, .inl h⟩
  · refine ⟨h0, .inr ⟨k, off, ver, all, h1, ?_, h3, h4⟩⟩
    by_cases hk:i = k
    · subst hk; rw [hi] at h2; simp at h2
    · rw [List.getElem?_set_ne hk]; exact h2
theorem SlAt.snoc {D e sz n : Nat} {T : List Obj} {v : AV} {cs : List AV} (h : SlAt D T e sz v n cs) (R : List Obj) : SlAt D (T ++ R) e sz v n cs := by
  obtain ⟨h0,h | ⟨k,off,ver,all,h1,h2,h3,h4⟩⟩:=h
  · exact ⟨h0, .inl h⟩
  · exact ⟨h0, .inr ⟨k, off, ver, all, h1, by rw [List.getElem?_append_left (List.getElem?_eq_some_iff.1 h2).1]; exact h2, h3, h4⟩⟩
theorem SlAt.nil (D : Nat) (T : List Obj) (e sz : Nat) : SlAt D T e sz (.imm true 0 []) 0 [] := ⟨by simp, .inl ⟨rfl, rfl⟩⟩
def idx : AV → Option Nat
  | .slr _ k _ _ _ _ => some k
  | _ => none
def ChgV (v v' : AV) (T T' : List Obj) : Prop := (∀ (j : Nat) o, T[j]? = some o → idx v ≠ some j → T'[j]? = some o) ∧ ∀ j, idx v' = some j → idx v = some j ∨ T.length ≤ j
theorem SlAt.cell {D e sz n : Nat} {T : List Obj} {v : AV} {cs : List AV} (h : SlAt D T e sz v n cs) : v.cells = [v] ∧ cellsOk (D + 1) [v] = true ∧ v.isCell = true ∧ v.lowB (D + 1) = true := by
  obtain ⟨h0,⟨rfl,rfl⟩ | ⟨k,off,ver,all,rfl,h2,h3,h4⟩⟩:=h
  · exact ⟨rfl, by simp [cellsOk, AV.isCell, AV.lowB], rfl, rfl⟩
  · exact ⟨rfl, by simp [cellsOk, AV.isCell, AV.lowB], rfl, by simp [AV.lowB]⟩
theorem SlAt.pos {D e sz n : Nat} {T : List Obj} {v : AV} {cs : List AV} (h : SlAt D T e sz v n cs) (hn : 0 < n) : ∃ k off ver all, v = .slr D k off n ver false ∧ T[k]? = some (.arr e sz all ver 0) ∧ (all.drop off).take (n * sz) = cs ∧ off + n * sz ≤ all.length := by
  obtain ⟨h0,⟨rfl,rfl⟩ | h⟩:=h
  · omega
  · exact h
theorem slAt_elems {D e sz n : Nat} {s : Store} {T : List Obj} {v : AV} {cs : List AV} (h : SlAt D T e sz v n cs) (hD : D = s.low.length + 1) : elems (frm s T) v = some (n, cs) := by
  obtain ⟨h0,⟨rfl,rfl⟩ | ⟨k,off,ver,all,rfl,h2,h3,h4⟩⟩:=h
  · simp at h0; subst h0; rfl
  · subst hD
    simp only [elems,frm_get_top,h2,h4,true_and,and_self,if_true,h3]
theorem slAt_app {D e sz n m bytes : Nat} {s : Store} {T : List Obj} {v y : AV} {cs ys : List AV} (h : SlAt D T e sz v n cs) (hD : D = s.low.length + 1) (hsz : 0 < sz) (hy : srcOf (frm s T) y = some (m, ys)) (hok : cellsOk 0 ys = true) (hl : ys.length = m * sz) (hb : (n + m) * bytes ≤ 140737488355328) :
    ∃ v' S', appV (frm s T) e sz bytes v y = some (v', S') ∧ ∃ T', S' = frm s T' ∧ SlAt D T' e sz v' (n + m) (cs ++ ys) ∧ Oth e T T' ∧ ChgV v v' T T' := by
  have hok':∀ d,cellsOk d ys = true:=fun d=>cellsOk_mono (Nat.zero_le _) hok
  obtain ⟨h0,⟨rfl,rfl⟩ | ⟨k,off,ver,all,rfl,h2,h3,h4⟩⟩:=h
  · have hc : cs = [] := List.length_eq_zero_iff.1 (by simpa using h0)
    subst hc
    simp only [appV,hy,Option.bind_some,appTo,Nat.zero_add,List.length_nil,Nat.zero_mul,hok',hl,true_and]
    rw [if_pos (by simpa using hb)]
    by_cases hm:m = 0
    · subst hm
      have hys:ys = []:=List.length_eq_zero_iff.1 (by simpa using hl)
      subst hys
      rw [if_pos rfl]
      exact ⟨_,_,rfl,T,rfl,⟨by simp,.inl ⟨rfl,rfl⟩⟩,.refl _ _,⟨fun _ _ h _=>h,fun j h=>by simp [idx] at h⟩⟩
    · rw [if_neg hm]
      simp only [List.nil_append,newArr,hok',hl,and_self,if_true,frm_len,frm_top,frm_new]
      refine ⟨_,_,rfl,_,rfl,⟨hl,.inr ⟨T.length,0,0,ys,by rw [hD],by simp,?_,by omega⟩⟩,oth_snoc _ _ _,⟨fun j o h _=>by rw [List.getElem?_append_left (List.getElem?_eq_some_iff.1 h).1]; exact h,fun j h=>.inr (by simp [idx] at h; omega)⟩⟩
      rw [List.drop_zero]
      exact List.take_of_length_le (by omega)
  · subst hD
    have hkl:=(List.getElem?_eq_some_iff.1 h2).1
    simp only [appV,hy,Option.bind_some,appTo,frm_get_top,h2,hok',hl,Nat.zero_le,true_and,and_self,and_true]
    rw [if_pos ⟨hb,h4⟩]
    simp only [Bool.false_eq_true,if_false,if_true,h3,frm_set_top]
    refine ⟨_,_,rfl,_,rfl,⟨by rw [List.length_append,h0,hl,Nat.add_mul],.inr ⟨k,0,ver + 1,cs ++ ys,rfl,?_,?_,?_⟩⟩,oth_set _ h2,⟨fun j o h hne=>by rw [List.getElem?_set_ne (fun hq=>hne (by rw [hq]; rfl))]; exact h,fun j h=>.inl h⟩⟩
    · rw [List.getElem?_set_self hkl, Nat.zero_sub]
    · rw [List.drop_zero]
      exact List.take_of_length_le (by rw [List.length_append,h0,hl,Nat.add_mul]; omega)
    · rw [List.length_append, h0, hl, Nat.add_mul]; omega
theorem slAt_frz {D e sz n : Nat} {s : Store} {T : List Obj} {v : AV} {cs : List AV} (h : SlAt D T e sz v n cs) (hD : D = s.low.length + 1) (hl : AV.lowL 0 cs = true) : ∃ T', frz1 (frm s T) v = some (.imm false n cs, frm s T') ∧ Oth e T T' := by
  obtain ⟨h0,⟨rfl,rfl⟩ | ⟨k,off,ver,all,rfl,h2,h3,h4⟩⟩:=h
  · have hc : cs = [] := List.length_eq_zero_iff.1 (by simpa using h0)
    subst hc
    exact ⟨T,rfl,.refl _ _⟩
  · subst hD
    refine ⟨T.set k (.arr e sz all ver (max 0 (off + n * sz))),?_,oth_set _ h2⟩
    rw [frz1_slr (by rw [frm_get_top]; exact h2) h3 hl h4,frm_set_top]
theorem stv_ok (l : List (List Int)) : cellsOk 0 (l.map stv) = true := by
  simp only [cellsOk,List.all_map,List.all_eq_true]
  exact fun x _=>rfl
theorem Oth.trans {e : Nat} {A B C : List Obj} (h : Oth e A B) (k : Oth e B C) : Oth e A C := ⟨Nat.le_trans h.1 k.1, fun j o hj hn => k.2 j o (h.2 j o hj hn) hn⟩
def prim : CallT := fun f args s => match f, args with
  | 76, [.int .i64 n] => if -9223372036854775808 ≤ n ∧ n ≤ 9223372036854775807 then some (.str ⟨(Lib.itoa n).toArray⟩, s) else none
  | 161, [.str b] => if b.size < 4294967281 ∧ b.data.toList.all (fun x => decide (x.toNat < 128)) = true then some (.imm false (Lib.fields b.data.toList).length ((Lib.fields b.data.toList).map fun l => .str ⟨l.toArray⟩), s) else none
  | 132, [.ptr d i 0] =>
    match s.get d i with
    | some (.box t [.nilp, x]) => if t = 111 then some (.tup [], s.set d i (.box t [.ptr d i 0, x])) else none
    | some (.box _ [.ptr d' i' 0, _]) => if d' = d ∧ i' = i then some (.tup [], s) else none
    | _ => none
  | 81, [.ptr d i 0] =>
    match s.get d i with
    | some (.box _ [_, .slr 0 k 0 n ver false]) =>
      match s.get 0 k with
      | some (.arr e sz cs ver' _) => if ver = ver' ∧ e = 5 ∧ sz = 1 ∧ 0 < n ∧ n ≤ 9223372036854775807 ∧ cs.length = n then (toBytes cs .empty).bind fun b => some (.str b, s.set 0 k (.arr e sz [] (ver + 1) 0)) else none
      | _ => none
    | _ => none
  | _, _ => none
end Go.Proofs.YtkjonfojileipaaGreatDoor.Ae
