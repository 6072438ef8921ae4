/- Stepping through the evaluator by simp: the store seen from a frame. -/
import Derived.Test.YthogcanomihelaaDoorAe18
set_option linter.unusedSimpArgs false
set_option linter.unusedVariables false
namespace Go.Proofs.YthogcanomihelaaDoor.Ae
open Go

/-- A frame over a store. -/
def frm (s : Store) (t : List Obj) : Store := ⟨s.low ++ [s.top], t⟩
theorem push_frm (s : Store) : s.push = frm s [] := rfl
theorem pop_frm (s : Store) (t : List Obj) : (frm s t).pop = s := by
  cases s
  simp [Store.pop, frm]
theorem frm_len (s : Store) (t : List Obj) : (frm s t).low.length = s.low.length + 1 := by simp [frm]
theorem frm_top (s : Store) (t : List Obj) : (frm s t).top = t := rfl
theorem frm_new (s : Store) (t : List Obj) (o : Obj) : (frm s t).new o = frm s (t ++ [o]) := rfl
theorem frm_get_top (s : Store) (t : List Obj) (i : Nat) : (frm s t).get (s.low.length + 1) i = t[i]? := by
  unfold Store.get
  rw [if_pos (frm_len s t).symm]
  rfl
theorem frm_get (s : Store) (t : List Obj) {d : Nat} (i : Nat) (h : d ≤ s.low.length) : (frm s t).get d i = s.get d i := by
  have := push_get s d i
  rw [← this]
  unfold Store.get
  rw [frm_len, if_neg (by omega), push_frm, frm_len, if_neg (by omega)]
  rfl
theorem frm_set_top (s : Store) (t : List Obj) (i : Nat) (o : Obj) : (frm s t).set (s.low.length + 1) i o = frm s (t.set i o) := by
  unfold Store.set
  rw [if_pos (frm_len s t).symm]
  rfl
theorem frm_set (s : Store) (t : List Obj) {d : Nat} (i : Nat) (o : Obj) (h : d ≤ s.low.length) : (frm s t).set d i o = frm (s.set d i o) t := by
  unfold Store.set
  rw [frm_len, if_neg (by omega)]
  by_cases hd : d = s.low.length
  · subst hd
    rw [if_pos rfl]
    simp only [frm, if_true]
    congr 1
    apply List.ext_getElem?
    intro k
    rw [List.getElem?_modify]
    rcases Nat.lt_trichotomy k s.low.length with h1 | h1 | h1
    · have hne : ¬ s.low.length = k := by omega
      simp only [if_neg hne, List.getElem?_append_left h1, Option.map_eq_map, Option.map_id_fun', id]
    · subst h1; simp
    · rw [List.getElem?_append_right (by omega), List.getElem?_append_right (by omega), List.getElem?_eq_none (by simp; omega), List.getElem?_eq_none (by simp; omega)]; rfl
  · rw [if_neg hd]
    simp only [frm]
    congr 1
    apply List.ext_getElem?
    intro k
    rw [List.getElem?_modify]
    rcases Nat.lt_or_ge k s.low.length with h1 | h1
    · rw [List.getElem?_append_left h1, List.getElem?_append_left (by simpa using h1), List.getElem?_modify]
    · have hne : ¬ d = k := by omega
      simp only [if_neg hne, List.getElem?_append_right h1, List.getElem?_append_right (show (s.low.modify d fun x => x.set i o).length ≤ k by simpa using h1), List.length_modify, Option.map_eq_map, Option.map_id_fun', id]
theorem get_le {s : Store} {d i : Nat} {o : Obj} (h : s.get d i = some o) : d ≤ s.low.length := get_depth h
theorem set_len (s : Store) (d i : Nat) (o : Obj) : (s.set d i o).low.length = s.low.length := set_depth s d i o
theorem set_get {s : Store} {d i : Nat} {o : Obj} (o' : Obj) (h : s.get d i = some o) : (s.set d i o').get d i = some o' := get_set s h
theorem set_set (s : Store) (d i : Nat) (o o' : Obj) : (s.set d i o).set d i o' = s.set d i o' := by
  unfold Store.set
  by_cases h : d = s.low.length
  · rw [if_pos h, if_pos h]
    simp only [h, if_true]
    simp
  · rw [if_neg h, if_neg h]
    simp only [List.length_modify, if_neg h]
    congr 1
    apply List.ext_getElem?
    intro k
    simp only [List.getElem?_modify]
    by_cases hk : d = k
    · subst hk
      simp only [if_true]
      cases s.low[d]? <;> simp
    · simp [hk]
/-! ### statements, one equation each -/
noncomputable def loopE (call : CallT) (b : Stm) (st : St) : Option (Ex × St) := loopF (exS call b) st
section
variable {call : CallT}
theorem exS_reg (ops : List AO) (chk : List (Nat × Nat)) (st : St) : exS call (.reg ops chk) st = evReg call ops chk st := by rw [exS]
theorem exS_seq (a b : Stm) (st : St) : exS call (.seq a b) st = (exS call a st).bind fun r => match r.1 with | .nor => exS call b r.2 | _ => some r := by rw [exS]; rfl
theorem exS_cond (c : Opd) (a b : Stm) (st : St) : exS call (.cond c a b) st = match rd [] st.vs c with | .bool t => if t = true then exS call a st else exS call b st | .anyb => (exS call a st).bind fun x => (exS call b st).bind fun y => joinR x y | _ => none := by rw [exS]; rfl
theorem exS_alt (r : Stm) (c : Opd) (a b rest : Stm) (st : St) : exS call (.alt r c a b rest) st = (exS call r st).bind fun x => match x.1 with
    | .nor =>
      match rd [] x.2.vs c with
      | .bool t => ((if t = true then exS call a x.2 else exS call b x.2)).bind fun y => match y.1 with | .nor => exS call rest y.2 | _ => some y
      | .anyb => ((exS call a x.2).bind fun y => match y.1 with | .nor => exS call rest y.2 | _ => some y).bind fun p => ((exS call b x.2).bind fun y => match y.1 with | .nor => exS call rest y.2 | _ => some y).bind fun q => joinR p q
      | _ => none
    | _ => some x := by rw [exS]; rfl
theorem exS_block (id : Nat) (b : Stm) (st : St) : exS call (.block id b) st = (exS call b st).bind fun r => match r.1 with | .exit k => if k = id then some (.nor, r.2) else some r | _ => some r := by rw [exS]; rfl
theorem exS_loop (b : Stm) (st : St) : exS call (.loop b) st = loopE call b st := by rw [exS]; rfl
theorem exS_exit (id : Nat) (st : St) : exS call (.exit id) st = some (.exit id, st) := by rw [exS]
theorem exS_ret (st : St) : exS call .ret st = some (.ret, st) := by rw [exS]
theorem exS_skip (st : St) : exS call .skip st = some (.nor, st) := by rw [exS]
theorem loopE_step {b : Stm} {st st' : St} (h : exS call b st = some (.nor, st')) : loopE call b st = loopE call b st' := loopF_step h
theorem loopE_end {b : Stm} {st : St} {r : Ex × St} (h : exS call b st = some r) (hr : r.1 ≠ .nor) : loopE call b st = some r := loopF_end h hr
theorem evReg_plain (ops : List AO) (st : St) : evReg call ops [] st = (evOps call ops [] st.vs st.s).bind fun x => some (.nor, ⟨x.1, x.2⟩) := rfl
end
/-- The loops of a statement, in the text's order. -/
def loops : Stm → List Stm
  | .seq a b => loops a ++ loops b
  | .cond _ a b => loops a ++ loops b
  | .alt r _ a b q => loops r ++ loops a ++ loops b ++ loops q
  | .block _ b => loops b
  | .loop b => b :: loops b
  | _ => []
def loopAt (fc : FC) (k : Nat) : Stm := (loops fc.body).getD k .skip
end Go.Proofs.YthogcanomihelaaDoor.Ae
