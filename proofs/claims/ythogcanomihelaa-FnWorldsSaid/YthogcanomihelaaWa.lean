/- Slices that are built in a frame, wherever they lie in it; worlds in a frame. -/
import Derived.Test.YthogcanomihelaaLa
import Derived.Test.YthogcanomihelaaLb
import Derived.Test.YthogcanomihelaaVa
import Derived.Test.YthogcanomihelaaAe21
set_option linter.unusedSimpArgs false
set_option linter.unusedVariables false
namespace Go.Proofs.Ythogcanomihelaa.Gw
open Go Go.Proofs Go.Proofs.Ythogcanomihelaa.Ae
attribute [local congr] obind_congr
attribute [local push_cast] exF argsV frzs frz frzL frz1 exS_reg exS_seq exS_cond exS_alt exS_block exS_loop exS_exit exS_ret exS_skip evReg evOps evOne evAct evOp rd putV st0 evEnd resV resL resOne oneOr frzR loadV storeV binV binI unV push_frm pop_frm frm_len frm_top frm_get_top frm_set_top frm_new AV.cells AV.lowB AV.lowL AV.isCell cellsOk set_len Option.bind_some Option.map_some Option.map_none List.getD_cons_zero List.getD_cons_succ List.nil_append List.cons_append List.append_nil List.length_cons List.length_nil List.set_cons_zero List.set_cons_succ List.map_cons List.map_nil List.replicate if_true if_false ite_true ite_false ite_self Bool.false_eq_true List.all_cons List.all_nil Bool.and_true Bool.true_and Bool.and_self Bool.and_eq_true List.getElem?_cons_zero List.getElem?_cons_succ List.drop_succ_cons List.drop_zero List.take_succ_cons List.take_zero true_and and_true and_self decide_true decide_false Bool.not_true Bool.not_false Prod.mk.injEq Option.some.injEq List.getElem?_drop optInt elems sliceV partsOf Nat.add_zero Nat.zero_add Nat.mul_one beq_self_eq_true litParts Bool.or_false Bool.false_or Bool.or_true Bool.true_or Bool.false_and Bool.and_false List.cons.injEq not_false_eq_true not_true_eq_false Nat.zero_le Nat.le_refl gt_iff_lt ge_iff_le List.drop_nil List.take_nil newBox List.length_append List.length_map bne_self_eq_false eq_self Nat.lt_add_one ne_eq false_implies Int.le_refl

/-- A slice of n elements that may be appended to: nothing, or a part of an array of the frame. -/
def SlAt (D : Nat) (T : List Ae.Obj) (e sz : Nat) (v : AV) (n : Nat) (cs : List AV) : Prop :=
  cs.length = n * sz ∧ ((v = .imm true 0 [] ∧ n = 0) ∨ ∃ k off ver all, v = .slr D k off n ver false ∧ T[k]? = some (.arr e sz all ver 0) ∧ (all.drop off).take (n * sz) = cs ∧ off + n * sz ≤ all.length)
/-- All objects but the arrays of one type are as before. -/
def Oth (e : Nat) (T T' : List Ae.Obj) : Prop := T.length ≤ T'.length ∧ ∀ (j : Nat) o, T[j]? = some o → (∀ sz cs ver pr, o ≠ Ae.Obj.arr e sz cs ver pr) → T'[j]? = some o
theorem Oth.refl (e : Nat) (T : List Ae.Obj) : Oth e T T := ⟨Nat.le_refl _, fun _ _ h _ => h⟩
theorem oth_snoc (e : Nat) (T R : List Ae.Obj) : Oth e T (T ++ R) := ⟨by simp, fun j o h _ => by rw [List.getElem?_append_left (List.getElem?_eq_some_iff.1 h).1]; exact h⟩
theorem oth_set {e k sz ver pr : Nat} {T : List Ae.Obj} {cs : List AV} (o' : Ae.Obj) (h : T[k]? = some (.arr e sz cs ver pr)) : Oth e T (T.set k o') :=
  ⟨by simp, fun j o hj hn => by
    by_cases hk : k = j
    · subst hk; rw [h] at hj; exact absurd (Option.some.inj hj).symm (hn _ _ _ _)
    · rw [List.getElem?_set_ne hk]; exact hj⟩
theorem Oth.box {e t j : Nat} {T T' : List Ae.Obj} {cs : List AV} (h : Oth e T T') (hj : T[j]? = some (.box t cs)) : T'[j]? = some (Ae.Obj.box t cs) := h.2 j _ hj (by simp)
theorem Oth.arr {e e' sz j ver pr : Nat} {T T' : List Ae.Obj} {cs : List AV} (h : Oth e T T') (hj : T[j]? = some (.arr e' sz cs ver pr)) (hne : e' ≠ e) : T'[j]? = some (.arr e' sz cs ver pr) := h.2 j _ hj (by simp [hne])
theorem SlAt.other {D e e' sz n : Nat} {T T' : List Ae.Obj} {v : AV} {cs : List AV} (h : SlAt D T e' sz v n cs) (ho : Oth e T T') (hne : e' ≠ e) : SlAt D T' e' sz v n cs := by
  obtain ⟨h0, h | ⟨k, off, ver, all, h1, h2, h3, h4⟩⟩ := h
  · exact ⟨h0, .inl h⟩
  · exact ⟨h0, .inr ⟨k, off, ver, all, h1, ho.arr h2 hne, h3, h4⟩⟩
theorem SlAt.box {D e sz n i t : Nat} {T : List Ae.Obj} {v : AV} {cs bs : List AV} (h : SlAt D T e sz v n cs) (hi : T[i]? = some (.box t bs)) (o : Ae.Obj) : SlAt D (T.set i o) e sz v n cs := by
  obtain ⟨h0, h | ⟨k, off, ver, all, h1, h2, h3, h4⟩⟩ := h
  · exact ⟨h0, .inl h⟩
  · refine ⟨h0, .inr ⟨k, off, ver, all, h1, ?_, h3, h4⟩⟩
    by_cases hk : i = k
    · subst hk; rw [hi] at h2; simp at h2
    · rw [List.getElem?_set_ne hk]; exact h2
theorem SlAt.snoc {D e sz n : Nat} {T : List Ae.Obj} {v : AV} {cs : List AV} (h : SlAt D T e sz v n cs) (R : List Ae.Obj) : SlAt D (T ++ R) e sz v n cs := by
  obtain ⟨h0, h | ⟨k, off, ver, all, h1, h2, h3, h4⟩⟩ := h
  · exact ⟨h0, .inl h⟩
  · exact ⟨h0, .inr ⟨k, off, ver, all, h1, by rw [List.getElem?_append_left (List.getElem?_eq_some_iff.1 h2).1]; exact h2, h3, h4⟩⟩
theorem SlAt.nil (D : Nat) (T : List Ae.Obj) (e sz : Nat) : SlAt D T e sz (.imm true 0 []) 0 [] := ⟨by simp, .inl ⟨rfl, rfl⟩⟩
def idx : AV → Option Nat
  | .slr _ k _ _ _ _ => some k
  | _ => none
/-- An append to v, which gives v', has changed no other object; v' lies where v lay, or anew. -/
def ChgV (v v' : AV) (T T' : List Ae.Obj) : Prop := (∀ (j : Nat) o, T[j]? = some o → idx v ≠ some j → T'[j]? = some o) ∧ ∀ j, idx v' = some j → idx v = some j ∨ T.length ≤ j
theorem part_at {all cs : List AV} {off m j : Nat} {x : AV} (h : (all.drop off).take m = cs) (hx : cs[j]? = some x) : all[off + j]? = some x := by
  rw [← h, List.getElem?_take] at hx
  split at hx
  · rwa [List.getElem?_drop] at hx
  · cases hx
theorem SlAt.cell {D e sz n : Nat} {T : List Ae.Obj} {v : AV} {cs : List AV} (h : SlAt D T e sz v n cs) : v.cells = [v] ∧ cellsOk (D + 1) [v] = true ∧ v.isCell = true ∧ v.lowB (D + 1) = true := by
  obtain ⟨h0, ⟨rfl, rfl⟩ | ⟨k, off, ver, all, rfl, h2, h3, h4⟩⟩ := h
  · exact ⟨rfl, by simp [cellsOk, AV.isCell, AV.lowB], rfl, rfl⟩
  · exact ⟨rfl, by simp [cellsOk, AV.isCell, AV.lowB], rfl, by simp [AV.lowB]⟩
theorem SlAt.pos {D e sz n : Nat} {T : List Ae.Obj} {v : AV} {cs : List AV} (h : SlAt D T e sz v n cs) (hn : 0 < n) : ∃ k off ver all, v = .slr D k off n ver false ∧ T[k]? = some (.arr e sz all ver 0) ∧ (all.drop off).take (n * sz) = cs ∧ off + n * sz ≤ all.length := by
  obtain ⟨h0, ⟨rfl, rfl⟩ | h⟩ := h
  · omega
  · exact h
theorem slAt_elems {D e sz n : Nat} {s : Store} {T : List Ae.Obj} {v : AV} {cs : List AV} (h : SlAt D T e sz v n cs) (hD : D = s.low.length + 1) : elems (frm s T) v = some (n, cs) := by
  obtain ⟨h0, ⟨rfl, rfl⟩ | ⟨k, off, ver, all, rfl, h2, h3, h4⟩⟩ := h
  · simp at h0; subst h0; rfl
  · subst hD
    simp only [elems, frm_get_top, h2, h4, true_and, and_self, if_true, h3]
theorem slAt_app {D e sz n m bytes : Nat} {s : Store} {T : List Ae.Obj} {v y : AV} {cs ys : List AV} (h : SlAt D T e sz v n cs) (hD : D = s.low.length + 1) (hsz : 0 < sz) (hy : srcOf (frm s T) y = some (m, ys)) (hok : cellsOk 0 ys = true) (hl : ys.length = m * sz) (hb : (n + m) * bytes ≤ 140737488355328) :
    ∃ v' S', appV (frm s T) e sz bytes v y = some (v', S') ∧ ∃ T', S' = frm s T' ∧ SlAt D T' e sz v' (n + m) (cs ++ ys) ∧ Oth e T T' ∧ ChgV v v' T T' := by
  have hok' : ∀ d, cellsOk d ys = true := fun d => cellsOk_mono (Nat.zero_le _) hok
  obtain ⟨h0, ⟨rfl, rfl⟩ | ⟨k, off, ver, all, rfl, h2, h3, h4⟩⟩ := h
  · have hc : cs = [] := List.length_eq_zero_iff.1 (by simpa using h0)
    subst hc
    simp only [appV, hy, Option.bind_some, appTo, Nat.zero_add, List.length_nil, Nat.zero_mul, hok', hl, true_and]
    rw [if_pos (by simpa using hb)]
    by_cases hm : m = 0
    · subst hm
      have hys : ys = [] := List.length_eq_zero_iff.1 (by simpa using hl)
      subst hys
      rw [if_pos rfl]
      exact ⟨_, _, rfl, T, rfl, ⟨by simp, .inl ⟨rfl, rfl⟩⟩, .refl _ _, ⟨fun _ _ h _ => h, fun j h => by simp [idx] at h⟩⟩
    · rw [if_neg hm]
      simp only [List.nil_append, newArr, hok', hl, and_self, if_true, frm_len, frm_top, frm_new]
      refine ⟨_, _, rfl, _, rfl, ⟨hl, .inr ⟨T.length, 0, 0, ys, by rw [hD], by simp, ?_, by omega⟩⟩, oth_snoc _ _ _, ⟨fun j o h _ => by rw [List.getElem?_append_left (List.getElem?_eq_some_iff.1 h).1]; exact h, fun j h => .inr (by simp [idx] at h; omega)⟩⟩
      rw [List.drop_zero]
      exact List.take_of_length_le (by omega)
  · subst hD
    have hkl := (List.getElem?_eq_some_iff.1 h2).1
    simp only [appV, hy, Option.bind_some, appTo, frm_get_top, h2, hok', hl, Nat.zero_le, true_and, and_self, and_true]
    rw [if_pos ⟨hb, h4⟩]
    simp only [Bool.false_eq_true, if_false, if_true, h3, frm_set_top]
    refine ⟨_, _, rfl, _, rfl, ⟨by rw [List.length_append, h0, hl, Nat.add_mul], .inr ⟨k, 0, ver + 1, cs ++ ys, rfl, ?_, ?_, ?_⟩⟩, oth_set _ h2, ⟨fun j o h hne => by rw [List.getElem?_set_ne (fun hq => hne (by rw [hq]; rfl))]; exact h, fun j h => .inl h⟩⟩
    · rw [List.getElem?_set_self hkl, Nat.zero_sub]
    · rw [List.drop_zero]
      exact List.take_of_length_le (by rw [List.length_append, h0, hl, Nat.add_mul]; omega)
    · rw [List.length_append, h0, hl, Nat.add_mul]; omega
theorem slAt_app_pos {D e sz n m bytes : Nat} {s : Store} {T : List Ae.Obj} {v y : AV} {cs ys : List AV} (hD : D = s.low.length + 1) (hsz : 0 < sz) (hy : srcOf (frm s T) y = some (m, ys)) (hok : cellsOk 0 ys = true) (hl : ys.length = m * sz) (hb : (n + m) * bytes ≤ 140737488355328) (hm : 0 < n + m) (h : SlAt D T e sz v n cs) :
    ∃ v' S', appV (frm s T) e sz bytes v y = some (v', S') ∧ ∃ T' k off ver, v' = .slr D k off (n + m) ver false ∧ S' = frm s T' ∧ SlAt D T' e sz (.slr D k off (n + m) ver false) (n + m) (cs ++ ys) ∧ Oth e T T' ∧ ChgV v (.slr D k off (n + m) ver false) T T' := by
  obtain ⟨v', S', e1, T', rfl, h1, h2, h3⟩ := slAt_app h hD hsz hy hok hl hb
  obtain ⟨k, off, ver, all, rfl, -, -, -⟩ := h1.pos hm
  exact ⟨_, _, e1, T', k, off, ver, rfl, rfl, h1, h2, h3⟩
theorem slAt_frz {D e sz n : Nat} {s : Store} {T : List Ae.Obj} {v : AV} {cs : List AV} (h : SlAt D T e sz v n cs) (hD : D = s.low.length + 1) (hl : AV.lowL 0 cs = true) : ∃ T', frz1 (frm s T) v = some (.imm false n cs, frm s T') ∧ Oth e T T' := by
  obtain ⟨h0, ⟨rfl, rfl⟩ | ⟨k, off, ver, all, rfl, h2, h3, h4⟩⟩ := h
  · have hc : cs = [] := List.length_eq_zero_iff.1 (by simpa using h0)
    subst hc
    exact ⟨T, rfl, .refl _ _⟩
  · subst hD
    refine ⟨T.set k (.arr e sz all ver (max 0 (off + n * sz))), ?_, oth_set _ h2⟩
    rw [frz1_slr (by rw [frm_get_top]; exact h2) h3 hl h4, frm_set_top]

abbrev ints (l : List Int) : List AV := l.map (AV.int .i64)
theorem ints_len (l : List Int) : (ints l).length = l.length := by simp [ints]
theorem ints_ok (l : List Int) : cellsOk 0 (ints l) = true := by simp [cellsOk, ints, AV.isCell, AV.lowB]
theorem ints_get (l : List Int) (k : Nat) (h : k < l.length) : (ints l)[k]? = some (.int .i64 l[k]) := by
  simp [ints, List.getElem?_map, List.getElem?_eq_getElem h]
theorem ints_snoc (l : List Int) (x : Int) : ints l ++ [.int .i64 x] = ints (l ++ [x]) := by simp [ints]
def prs (l : List (Int × Int)) : List AV := l.flatMap fun e => [.int .i64 e.1, .int .i64 e.2]
theorem prs_cons (e : Int × Int) (l : List (Int × Int)) : prs (e :: l) = .int .i64 e.1 :: .int .i64 e.2 :: prs l := by simp [prs]
theorem prs_app (l r : List (Int × Int)) : prs (l ++ r) = prs l ++ prs r := by simp [prs]
theorem prs_snoc (l : List (Int × Int)) (a b : Int) : prs l ++ [.int .i64 a, .int .i64 b] = prs (l ++ [(a, b)]) := by simp [prs]
theorem prs_len (l : List (Int × Int)) : (prs l).length = l.length * 2 := by
  induction l with
  | nil => rfl
  | cons e r ih => rw [prs_cons, List.length_cons, List.length_cons, ih, List.length_cons]; omega
theorem prs_ok (l : List (Int × Int)) : cellsOk 0 (prs l) = true := by
  induction l with
  | nil => rfl
  | cons e r ih => rw [prs_cons]; simp only [cellsOk, List.all_cons, AV.isCell, AV.lowB, Bool.and_self, Bool.true_and]; exact ih
theorem prs_drop (l : List (Int × Int)) (k : Nat) : (prs l).drop (k * 2) = prs (l.drop k) := by
  induction k generalizing l with
  | zero => simp
  | succ k ih =>
    cases l with
    | nil => simp [prs]
    | cons e r => rw [prs_cons, show (k + 1) * 2 = k * 2 + 1 + 1 by omega, List.drop_succ_cons, List.drop_succ_cons, ih, List.drop_succ_cons]
theorem prs_take (l : List (Int × Int)) (k : Nat) : (prs l).take (k * 2) = prs (l.take k) := by
  induction k generalizing l with
  | zero => simp [prs]
  | succ k ih =>
    cases l with
    | nil => simp [prs]
    | cons e r => rw [prs_cons, show (k + 1) * 2 = k * 2 + 1 + 1 by omega, List.take_succ_cons, List.take_succ_cons, ih, List.take_succ_cons, prs_cons]
theorem prs_at (l : List (Int × Int)) (k : Nat) (h : k < l.length) : (prs l)[k * 2]? = some (.int .i64 l[k].1) ∧ (prs l)[k * 2 + 1]? = some (.int .i64 l[k].2) := by
  have hd := prs_drop l k
  have hc : l.drop k = l[k] :: l.drop (k + 1) := List.drop_eq_getElem_cons h
  rw [hc, prs_cons] at hd
  have h1 : ((prs l).drop (k * 2))[0]? = some (.int .i64 l[k].1) := by rw [hd]; rfl
  have h2 : ((prs l).drop (k * 2))[1]? = some (.int .i64 l[k].2) := by rw [hd]; rfl
  rw [List.getElem?_drop] at h1 h2
  exact ⟨by simpa using h1, h2⟩
theorem prs_set (l : List (Int × Int)) (k : Nat) (b : Int) (h : k < l.length) : (prs l).set (k * 2 + 1) (.int .i64 b) = prs (l.set k (l[k].1, b)) := by
  induction k generalizing l with
  | zero =>
    cases l with
    | nil => simp at h
    | cons e r => simp [prs_cons]
  | succ k ih =>
    cases l with
    | nil => simp at h
    | cons e r =>
      rw [prs_cons, show (k + 1) * 2 + 1 = k * 2 + 1 + 1 + 1 by omega]
      simp only [List.set_cons_succ, List.getElem_cons_succ, prs_cons]
      rw [ih r (by simpa using h)]
theorem part_set {all : List AV} {off n k : Nat} {l : List (Int × Int)} (b : Int) (h : (all.drop off).take (n * 2) = prs l) (hn : off + n * 2 ≤ all.length) (hk : k < l.length) :
    ((all.take (off + k * 2 + 1) ++ [AV.int .i64 b] ++ all.drop (off + k * 2 + 1 + 1)).drop off).take (n * 2) = prs (l.set k (l[k].1, b)) ∧ off + n * 2 ≤ (all.take (off + k * 2 + 1) ++ [AV.int .i64 b] ++ all.drop (off + k * 2 + 1 + 1)).length := by
  have hl : n * 2 = l.length * 2 := by
    have := congrArg List.length h
    rw [prs_len, List.length_take, List.length_drop] at this
    omega
  have e : all.take (off + k * 2 + 1) ++ [AV.int .i64 b] ++ all.drop (off + k * 2 + 1 + 1) = all.set (off + k * 2 + 1) (.int .i64 b) := by
    rw [List.set_eq_take_append_cons_drop, if_pos (by omega)]
    simp
  rw [e, List.length_set, ← prs_set l k b hk, ← h]
  refine ⟨?_, hn⟩
  rw [List.drop_set, if_neg (by omega), show off + k * 2 + 1 - off = k * 2 + 1 by omega, List.take_set]
/-- The place of a key among entries: how many at the beginning have lesser ones. -/
def keyAt (a : Int) : List (Int × Int) → Nat
  | [] => 0
  | e :: r => if e.1 < a then keyAt a r + 1 else 0
theorem keyAt_eq {a : Int} : ∀ {l : List (Int × Int)} {i : Nat}, (∀ j, (hj : j < l.length) → j < i → l[j].1 < a) → i ≤ l.length → (∀ h : i < l.length, ¬ l[i].1 < a) → keyAt a l = i
  | [], i, _, h, _ => by simp at h; subst h; rfl
  | e :: r, 0, _, _, h => by simp only [keyAt, if_neg (h (by simp)), List.getElem_cons_zero] at *; rw [if_neg (h (by simp))]
  | e :: r, i + 1, h1, h2, h3 => by
    have h0 : e.1 < a := h1 0 (by simp) (by omega)
    simp only [keyAt, if_pos h0]
    rw [keyAt_eq (fun j hj hji => h1 (j + 1) (by simpa using hj) (by omega)) (by simpa using h2) (fun h => h3 (by simpa using h))]
def isAt (a : Int) (l : List (Int × Int)) (k : Nat) : Bool := match l[k]? with | some e => e.1 == a | none => false
/-- An entry put: in the place of the one of its key, or among the others if there is room. -/
def putL (a b : Int) (l : List (Int × Int)) : List (Int × Int) :=
  if isAt a l (keyAt a l) = true then l.set (keyAt a l) (a, b) else if 20 ≤ l.length then l else l.take (keyAt a l) ++ [(a, b)] ++ l.drop (keyAt a l)
theorem putL_len (a b : Int) (l : List (Int × Int)) : (putL a b l).length ≤ l.length + 1 := by
  unfold putL
  split
  · simp
  · split
    · omega
    · simp only [List.length_append, List.length_take, List.length_drop, List.length_cons, List.length_nil]; omega
/-- An event. -/
structure Ev where
  c : Int
  a : Int
  b : Int
  f : Bool
  lit : List AV
  r : Int
def Ev.cells (e : Ev) : List AV := [.int .i64 e.c, .int .i64 e.a, .int .i64 e.b, .imm e.f e.lit.length e.lit, .int .i64 e.r]
def evs (l : List Ev) : List AV := l.flatMap Ev.cells
theorem evs_cons (e : Ev) (l : List Ev) : evs (e :: l) = .int .i64 e.c :: .int .i64 e.a :: .int .i64 e.b :: .imm e.f e.lit.length e.lit :: .int .i64 e.r :: evs l := by simp [evs, Ev.cells]
theorem evs_app (l r : List Ev) : evs (l ++ r) = evs l ++ evs r := by simp [evs]
theorem evs_len (l : List Ev) : (evs l).length = l.length * 5 := by
  induction l with
  | nil => rfl
  | cons e r ih => rw [evs_cons]; simp only [List.length_cons, ih]; omega
theorem evs_ok (l : List Ev) : cellsOk 0 (evs l) = true := by
  induction l with
  | nil => rfl
  | cons e r ih => rw [evs_cons]; simp only [cellsOk, List.all_cons, AV.isCell, AV.lowB, Bool.and_self, Bool.true_and]; exact ih
theorem evs_drop (l : List Ev) (k : Nat) : (evs l).drop (k * 5) = evs (l.drop k) := by
  induction k generalizing l with
  | zero => simp
  | succ k ih =>
    cases l with
    | nil => simp [evs]
    | cons e r => rw [evs_cons, show (k + 1) * 5 = k * 5 + 1 + 1 + 1 + 1 + 1 by omega]; simp only [List.drop_succ_cons, ih]
/-- Events whose texts are bytes. -/
def EvsOk (l : List Ev) : Prop := ∀ e ∈ l, ∃ bl : List Int, e.lit = bys bl ∧ bl.length ≤ 100000
theorem ok_low {cs : List AV} (h : cellsOk 0 cs = true) : AV.lowL 0 cs = true := low_of' h

/-- A world in a frame: its box at place i. -/
def WAt (D : Nat) (T : List Ae.Obj) (i : Nat) (t : Int) (ds : List Int) (st : List (Int × Int)) (tr : List Ev) : Prop :=
  ∃ dv sv tv, T[i]? = some (.box 40 [.int .i64 t, dv, sv, tv]) ∧ SlAt D T 3 1 dv ds.length (ints ds) ∧ SlAt D T 113 2 sv st.length (prs st) ∧ SlAt D T 49 5 tv tr.length (evs tr)
/-- What a call of the world's functions keeps of the frame: all boxes but the world's own. -/
def KpW (i : Nat) (T T' : List Ae.Obj) : Prop := T.length ≤ T'.length ∧ ∀ (j : Nat) t cs, j ≠ i → T[j]? = some (Ae.Obj.box t cs) → T'[j]? = some (Ae.Obj.box t cs)
theorem KpW.trans {i : Nat} {A B C : List Ae.Obj} (h : KpW i A B) (k : KpW i B C) : KpW i A C := ⟨Nat.le_trans h.1 k.1, fun j t cs hj ht => k.2 j t cs hj (h.2 j t cs hj ht)⟩
theorem Oth.kp {i e : Nat} {T T' : List Ae.Obj} (h : Oth e T T') : KpW i T T' := ⟨h.1, fun j t cs _ hj => h.box hj⟩
theorem kp_set {T : List Ae.Obj} {i : Nat} {cs : List AV} (o : Ae.Obj) (h : T[i]? = some (.box 40 cs)) : KpW i T (T.set i o) :=
  ⟨by simp, fun j t bs hj ht => by rw [List.getElem?_set_ne (Ne.symm hj)]; exact ht⟩
theorem KpW.new {i : Nat} {T X : List Ae.Obj} {E : Nat} (h : KpW i T X) (hE : T.length ≤ E) (o : Ae.Obj) : KpW i T (X.set E o) :=
  ⟨by rw [List.length_set]; exact h.1, fun j t cs hj ht => by
    have := (List.getElem?_eq_some_iff.1 ht).1
    rw [List.getElem?_set_ne (by omega)]
    exact h.2 j t cs hj ht⟩
theorem ev_snoc (l : List Ev) (c a b r : Int) (f : Bool) (lit : List AV) : evs l ++ [.int .i64 c, .int .i64 a, .int .i64 b, .imm f lit.length lit, .int .i64 r] = evs (l ++ [⟨c, a, b, f, lit, r⟩]) := by simp [evs, Ev.cells]
theorem lit_frz {call : CallT} {ls vs : List AV} {s : Store} {T : List Ae.Obj} {y1 y2 y3 y4 : Int} {k off n ver pr e : Nat} {f : Bool} {all cs : List AV} (hx : ls.getD 5 .undef = .agg [.int .i64 y1, .int .i64 y2, .int .i64 y3, .slr (s.low.length + 1) k off n ver f, .int .i64 y4])
    (hk : T[k]? = some (.arr e 1 all ver pr)) (hall : (all.drop off).take n = cs) (hlen : off + n ≤ all.length) (hl : AV.lowL 0 cs = true) :
    evOne call ⟨.lit 49 5 [.int .i64 0, .int .i64 0, .int .i64 0, .imm true 0 [], .int .i64 0] [(0, .l 5)] false true, none, none⟩ ls vs (frm s T) = some (.imm true 1 [.int .i64 y1, .int .i64 y2, .int .i64 y3, .imm false n cs, .int .i64 y4], frm s (T.set k (.arr e 1 all ver (max pr (off + n))))) := by
  have h1 : frz1 (frm s T) (.slr (s.low.length + 1) k off n ver f) = some (.imm false n cs, (frm s T).set (s.low.length + 1) k (.arr e 1 all ver (max pr (off + n * 1)))) := frz1_slr (by rw [frm_get_top]; exact hk) (by rw [Nat.mul_one]; exact hall) hl (by omega)
  rw [Nat.mul_one, frm_set_top] at h1
  simp only [evOne, evAct, evOp, litParts, rd, hx, frz, frzL, frz1_int, h1, Option.bind_some, if_true]
  rfl
/-- A world stored whole. -/
theorem storeW {call : CallT} {ls vs : List AV} {s : Store} {T : List Ae.Obj} {R : Nat} {x : Int} {dv sv tv a b c d : AV} {pa xa : Opd} (hp : rd ls vs pa = .ptr (s.low.length + 1) R 0) (hx : rd ls vs xa = .agg [.int .i64 x, dv, sv, tv]) (hR : T[R]? = some (.box 40 [a, b, c, d]))
    (h1 : dv.cells = [dv] ∧ cellsOk (s.low.length + 1 + 1) [dv] = true ∧ dv.isCell = true ∧ dv.lowB (s.low.length + 1 + 1) = true) (h2 : sv.cells = [sv] ∧ cellsOk (s.low.length + 1 + 1) [sv] = true ∧ sv.isCell = true ∧ sv.lowB (s.low.length + 1 + 1) = true) (h3 : tv.cells = [tv] ∧ cellsOk (s.low.length + 1 + 1) [tv] = true ∧ tv.isCell = true ∧ tv.lowB (s.low.length + 1 + 1) = true) :
    evOne call ⟨.store 4 pa xa, none, none⟩ ls vs (frm s T) = some (.undef, frm s (T.set R (.box 40 [.int .i64 x, dv, sv, tv]))) := by
  have hc : cellsOk (s.low.length + 1 + 1) [.int .i64 x, dv, sv, tv] = true := by
    simp only [cellsOk, List.all_cons, List.all_nil, h1.2.2.1, h1.2.2.2, h2.2.2.1, h2.2.2.2, h3.2.2.1, h3.2.2.2]
    rfl
  simp only [evOne, evAct, evOp, hp, hx, storeV, AV.cells, frm_get_top, hR, hc, List.length_cons, List.length_nil, Nat.zero_add, Nat.reduceAdd, Nat.le_refl, and_self, if_true, frm_set_top, Option.bind_some, List.take_zero, List.nil_append]
  rfl
theorem boxW {call : CallT} {ls vs : List AV} {s : Store} {T : List Ae.Obj} {x : Int} {dv sv tv : AV} {q : Option Nat} {xa : Opd} (hx : rd ls vs xa = .agg [.int .i64 x, dv, sv, tv])
    (h1 : dv.cells = [dv] ∧ cellsOk (s.low.length + 1 + 1) [dv] = true ∧ dv.isCell = true ∧ dv.lowB (s.low.length + 1 + 1) = true) (h2 : sv.cells = [sv] ∧ cellsOk (s.low.length + 1 + 1) [sv] = true ∧ sv.isCell = true ∧ sv.lowB (s.low.length + 1 + 1) = true) (h3 : tv.cells = [tv] ∧ cellsOk (s.low.length + 1 + 1) [tv] = true ∧ tv.isCell = true ∧ tv.lowB (s.low.length + 1 + 1) = true) :
    evOne call ⟨.box 40 4 xa, q, none⟩ ls vs (frm s T) = some (.ptr (s.low.length + 1) T.length 0, frm s (T ++ [.box 40 [.int .i64 x, dv, sv, tv]])) := by
  have hc : cellsOk (s.low.length + 1 + 1) [.int .i64 x, dv, sv, tv] = true := by
    simp only [cellsOk, List.all_cons, List.all_nil, h1.2.2.1, h1.2.2.2, h2.2.2.1, h2.2.2.2, h3.2.2.1, h3.2.2.2]
    rfl
  simp only [evOne, evAct, evOp, hx, AV.cells, newBox, frm_len, frm_top, frm_new, hc, List.length_cons, List.length_nil, Nat.zero_add, Nat.reduceAdd, if_true]
theorem WAt.other {D i t' j : Nat} {T : List Ae.Obj} {t : Int} {ds : List Int} {st : List (Int × Int)} {tr : List Ev} {bs : List AV} (h : WAt D T i t ds st tr) (hj : T[j]? = some (.box t' bs)) (hne : j ≠ i) (o : Ae.Obj) : WAt D (T.set j o) i t ds st tr := by
  obtain ⟨dv, sv, tv, h1, h2, h3, h4⟩ := h
  exact ⟨dv, sv, tv, by rw [List.getElem?_set_ne hne]; exact h1, h2.box hj o, h3.box hj o, h4.box hj o⟩
theorem WAt.snoc {D i : Nat} {T : List Ae.Obj} {t : Int} {ds : List Int} {st : List (Int × Int)} {tr : List Ev} (h : WAt D T i t ds st tr) (R : List Ae.Obj) : WAt D (T ++ R) i t ds st tr := by
  obtain ⟨dv, sv, tv, h1, h2, h3, h4⟩ := h
  exact ⟨dv, sv, tv, by rw [List.getElem?_append_left (List.getElem?_eq_some_iff.1 h1).1]; exact h1, h2.snoc R, h3.snoc R, h4.snoc R⟩
end Go.Proofs.Ythogcanomihelaa.Gw
