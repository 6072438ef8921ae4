/- The law FnWorlds, whatever the bytes. -/
import Derived.Test.YthogcanomihelaaWm
import Derived.Test.YthogcanomihelaaWg
set_option linter.unusedSimpArgs false
set_option linter.unusedVariables false
namespace Go.Proofs.Ythogcanomihelaa.Gw
open Go Go.Proofs Go.Proofs.Ythogcanomihelaa.Ae
attribute [local congr] obind_congr
attribute [local push_cast] exF argsV frzs frz frzL frz1 exS_reg exS_seq exS_cond exS_alt exS_block exS_loop exS_exit exS_ret exS_skip evReg evOps evOne evAct evOp rd putV st0 evEnd resV resL resOne oneOr frzR loadV storeV binV binI unV push_frm pop_frm frm_len frm_top frm_get_top frm_set_top frm_new AV.cells AV.lowB AV.lowL AV.isCell cellsOk set_len Option.bind_some Option.map_some Option.map_none List.getD_cons_zero List.getD_cons_succ List.nil_append List.cons_append List.append_nil List.length_cons List.length_nil List.set_cons_zero List.set_cons_succ List.map_cons List.map_nil List.replicate if_true if_false ite_true ite_false ite_self Bool.false_eq_true List.all_cons List.all_nil Bool.and_true Bool.true_and Bool.and_self Bool.and_eq_true List.getElem?_cons_zero List.getElem?_cons_succ List.drop_succ_cons List.drop_zero List.take_succ_cons List.take_zero true_and and_true and_self decide_true decide_false Bool.not_true Bool.not_false Prod.mk.injEq Option.some.injEq List.getElem?_drop optInt elems sliceV partsOf Nat.add_zero Nat.zero_add Nat.mul_one beq_self_eq_true litParts Bool.or_false Bool.false_or Bool.or_true Bool.true_or Bool.false_and Bool.and_false List.cons.injEq not_false_eq_true not_true_eq_false Nat.zero_le Nat.le_refl gt_iff_lt ge_iff_le List.drop_nil List.take_nil newBox List.length_append List.length_map bne_self_eq_false eq_self Nat.lt_add_one ne_eq false_implies Int.le_refl

/-! ### entries, without a program -/
theorem keyAt_lt {a : Int} : ∀ {l : List (Int × Int)} {j : Nat} {x : Int × Int}, j < keyAt a l → l[j]? = some x → x.1 < a
  | [], j, x, h, _ => by simp [keyAt] at h
  | e :: r, 0, x, h, hx => by
    simp at hx; subst hx
    unfold keyAt at h
    split at h
    · assumption
    · omega
  | e :: r, j + 1, x, h, hx => by
    unfold keyAt at h
    split at h
    · have hx' : r[j]? = some x := by simpa using hx
      exact keyAt_lt (by omega) hx'
    · omega
theorem keyAt_ge {a : Int} : ∀ {l : List (Int × Int)} {x : Int × Int}, l[keyAt a l]? = some x → a ≤ x.1
  | [], x, h => by simp at h
  | e :: r, x, h => by
    unfold keyAt at h
    split at h
    · rw [List.getElem?_cons_succ] at h
      exact keyAt_ge h
    · simp at h; subst h; omega
theorem keyAt_of {a : Int} {l : List (Int × Int)} {i : Nat} (h1 : ∀ j x, j < i → l[j]? = some x → x.1 < a) (h2 : i ≤ l.length) (h3 : ∀ x, l[i]? = some x → a ≤ x.1) : keyAt a l = i :=
  keyAt_eq (fun j hj hi => h1 j _ hi (List.getElem?_eq_getElem hj)) h2 (fun h => by have := h3 _ (List.getElem?_eq_getElem h); omega)
def insL (a b : Int) (l : List (Int × Int)) (k : Nat) : List (Int × Int) := l.take k ++ [(a, b)] ++ l.drop k
theorem insL_get {a b : Int} {l : List (Int × Int)} {k : Nat} (hk : k ≤ l.length) (j : Nat) : (insL a b l k)[j]? = if j < k then l[j]? else if j = k then some (a, b) else l[j - 1]? := by
  unfold insL
  have h1 : (l.take k).length = k := by rw [List.length_take]; omega
  by_cases hj : j < k
  · rw [if_pos hj, List.append_assoc, List.getElem?_append_left (by omega), List.getElem?_take, if_pos hj]
  · rw [if_neg hj]
    by_cases hj2 : j = k
    · subst hj2
      rw [if_pos rfl, List.append_assoc, List.getElem?_append_right (by omega), h1, Nat.sub_self]
      rfl
    · rw [if_neg hj2, List.getElem?_append_right (by rw [List.length_append, h1]; simp; omega), List.length_append, h1, List.length_singleton, List.getElem?_drop]
      congr 1
      omega
def Sorted (l : List (Int × Int)) : Prop := ∀ j x y, l[j]? = some x → l[j + 1]? = some y → x.1 < y.1
theorem putL_cases (a b : Int) (l : List (Int × Int)) : (∃ x, l[keyAt a l]? = some x ∧ x.1 = a ∧ putL a b l = l.set (keyAt a l) (a, b)) ∨ ((∀ x, l[keyAt a l]? = some x → x.1 ≠ a) ∧ 20 ≤ l.length ∧ putL a b l = l) ∨ ((∀ x, l[keyAt a l]? = some x → x.1 ≠ a) ∧ l.length < 20 ∧ putL a b l = insL a b l (keyAt a l)) := by
  by_cases h : isAt a l (keyAt a l) = true
  · obtain ⟨hk, ha⟩ := isAt_iff.1 h
    exact .inl ⟨_, List.getElem?_eq_getElem hk, ha, by unfold putL; rw [if_pos h]⟩
  · have hn : ∀ x, l[keyAt a l]? = some x → x.1 ≠ a := fun x hx hq => h (by simp [isAt, hx, hq])
    by_cases h2 : 20 ≤ l.length
    · exact .inr (.inl ⟨hn, h2, by unfold putL; rw [if_neg h, if_pos h2]⟩)
    · exact .inr (.inr ⟨hn, by omega, by unfold putL insL; rw [if_neg h, if_neg h2]⟩)
theorem get_put (a b : Int) (l : List (Int × Int)) (hl : l.length ≤ 20) : getL a (putL a b l) = b ∨ (l.length = 20 ∧ getL a l = 0) := by
  rcases putL_cases a b l with ⟨x, hx, hxa, e⟩ | ⟨hn, h20, e⟩ | ⟨hn, h20, e⟩
  · left
    have hk := (List.getElem?_eq_some_iff.1 hx).1
    have hK : keyAt a (l.set (keyAt a l) (a, b)) = keyAt a l := keyAt_of (fun j y hj hy => by
      rw [List.getElem?_set_ne (by omega)] at hy
      exact keyAt_lt hj hy) (by rw [List.length_set]; omega) (fun y hy => by
      rw [List.getElem?_set_self hk] at hy
      simp at hy; subst hy; exact Int.le_refl _)
    rw [e]
    simp [getL, hK, List.getElem?_set_self hk]
  · right
    refine ⟨by omega, ?_⟩
    unfold getL
    split
    · rename_i y hy
      rw [if_neg (hn y hy)]
    · rfl
  · left
    have hk := keyAt_le a l
    have hK : keyAt a (insL a b l (keyAt a l)) = keyAt a l := keyAt_of (fun j y hj hy => by
      rw [insL_get hk, if_pos hj] at hy
      exact keyAt_lt hj hy) (by unfold insL; simp only [List.length_append, List.length_take, List.length_drop, List.length_cons, List.length_nil]; omega) (fun y hy => by
      rw [insL_get hk, if_neg (by omega), if_pos rfl] at hy
      simp at hy; subst hy; exact Int.le_refl _)
    rw [e]
    unfold getL
    rw [hK, insL_get hk, if_neg (by omega), if_pos rfl]
    simp
theorem put_sorted {a b : Int} {l : List (Int × Int)} (h : Sorted l) : Sorted (putL a b l) := by
  rcases putL_cases a b l with ⟨x, hx, hxa, e⟩ | ⟨hn, h20, e⟩ | ⟨hn, h20, e⟩
  · rw [e]
    have hk := (List.getElem?_eq_some_iff.1 hx).1
    have key : ∀ (j : Nat) (y : Int × Int), (l.set (keyAt a l) (a, b))[j]? = some y → ∃ z : Int × Int, l[j]? = some z ∧ z.1 = y.1 := fun j y hy => by
      by_cases hj : keyAt a l = j
      · subst hj
        rw [List.getElem?_set_self hk] at hy
        simp at hy; subst hy
        exact ⟨x, hx, hxa⟩
      · rw [List.getElem?_set_ne hj] at hy
        exact ⟨y, hy, rfl⟩
    intro j y z hy hz
    obtain ⟨y', hy', ey⟩ := key j y hy
    obtain ⟨z', hz', ez⟩ := key (j + 1) z hz
    rw [← ey, ← ez]
    exact h j y' z' hy' hz'
  · rw [e]; exact h
  · rw [e]
    have hk := keyAt_le a l
    intro j y z hy hz
    rw [insL_get hk] at hy hz
    by_cases h1 : j + 1 < keyAt a l
    · rw [if_pos (by omega)] at hy
      rw [if_pos h1] at hz
      exact h j y z hy hz
    · rw [if_neg h1] at hz
      by_cases h2 : j + 1 = keyAt a l
      · rw [if_pos h2] at hz
        rw [if_pos (by omega)] at hy
        simp at hz; subst hz
        exact keyAt_lt (a := a) (show j < keyAt a l by omega) hy
      · rw [if_neg h2] at hz
        rw [if_neg (by omega)] at hy
        by_cases h3 : j = keyAt a l
        · rw [if_pos h3] at hy
          simp at hy; subst hy
          subst h3
          rw [Nat.add_sub_cancel] at hz
          have g1 := keyAt_ge hz
          have g2 := hn z hz
          show a < z.1
          omega
        · rw [if_neg h3] at hy
          rw [Nat.add_sub_cancel] at hz
          exact h (j - 1) y z hy (by rw [show j - 1 + 1 = j by omega]; exact hz)
theorem put_mem {a b : Int} {l : List (Int × Int)} {x : Int × Int} (h : x ∈ putL a b l) : x = (a, b) ∨ x ∈ l := by
  rcases putL_cases a b l with ⟨y, hy, hya, e⟩ | ⟨hn, h20, e⟩ | ⟨hn, h20, e⟩
  · rw [e] at h
    rcases List.mem_or_eq_of_mem_set h with h1 | h1
    · exact .inr h1
    · exact .inl h1
  · rw [e] at h; exact .inr h
  · rw [e] at h
    unfold insL at h
    rcases List.mem_append.1 h with h1 | h1
    · rcases List.mem_append.1 h1 with h2 | h2
      · exact .inr (List.mem_of_mem_take h2)
      · simp at h2; exact .inl h2
    · exact .inr (List.mem_of_mem_drop h1)
theorem put_len20 {a b : Int} {l : List (Int × Int)} (h : l.length ≤ 20) : (putL a b l).length ≤ 20 := by
  rcases putL_cases a b l with ⟨y, hy, hya, e⟩ | ⟨hn, h20, e⟩ | ⟨hn, h20, e⟩
  · rw [e, List.length_set]; exact h
  · rw [e]; exact h
  · rw [e]; unfold insL; simp only [List.length_append, List.length_take, List.length_drop, List.length_cons, List.length_nil]; omega
theorem wok_sorted {t : Int} {ds : List Int} {st : List (Int × Int)} {n : Nat} (h : WOk t ds st n) : Sorted st := fun j x y hx hy => by
  have h1 := (List.getElem?_eq_some_iff.1 hy).1
  have := h.s j h1
  rw [← (List.getElem?_eq_some_iff.1 hx).2, ← (List.getElem?_eq_some_iff.1 hy).2]
  exact this
theorem wok_step {t kind a b : Int} {ds : List Int} {st : List (Int × Int)} {n m : Nat} (h : WOk t ds st n) (ha : wv a = a) (hb : wv b = b) (hm : m ≤ 20000) : WOk (tF kind t) (dsF kind a ds) (stF kind a b st) m := by
  have ht0 := h.t0; have ht1 := h.t1
  have hst : ∀ c, stF kind a b st = c → (c = st ∨ c = putL a b st) := fun c hc => by unfold stF at hc; split at hc <;> simp [← hc]
  have hsorted : Sorted (stF kind a b st) := by
    rcases hst _ rfl with e | e
    · rw [e]; exact wok_sorted h
    · rw [e]; exact put_sorted (wok_sorted h)
  have hlen : (stF kind a b st).length ≤ 20 := by
    rcases hst _ rfl with e | e
    · rw [e]; exact h.ns
    · rw [e]; exact put_len20 h.ns
  have hmem : ∀ x ∈ stF kind a b st, wv x.1 = x.1 ∧ wv x.2 = x.2 := by
    have h0 : ∀ x ∈ st, wv x.1 = x.1 ∧ wv x.2 = x.2 := fun x hx => by
      obtain ⟨j, hj, rfl⟩ := List.mem_iff_getElem.1 hx
      exact h.e j hj
    intro x hx
    rcases hst _ rfl with e | e
    · rw [e] at hx; exact h0 x hx
    · rw [e] at hx
      rcases put_mem hx with rfl | h1
      · exact ⟨ha, hb⟩
      · exact h0 x h1
  have hds : dsF kind a ds = ds ∨ dsF kind a ds = ds.drop 1 := by unfold dsF; split <;> simp
  refine ⟨?_, ?_, ?_, hlen, hm, ?_, fun j hj => hmem _ (List.getElem_mem hj), fun j hj => hsorted j _ _ (List.getElem?_eq_getElem (by omega)) (List.getElem?_eq_getElem hj)⟩
  · unfold tF; split
    · split <;> omega
    · omega
  · unfold tF; split
    · split <;> omega
    · omega
  · rcases hds with e | e <;> rw [e]
    · exact h.nd
    · rw [List.length_drop]; have := h.nd; omega
  · rcases hds with e | e <;> rw [e]
    · exact h.d
    · intro j hj
      rw [List.length_drop] at hj
      rw [List.getElem_drop]
      exact h.d _ (by omega)
end Go.Proofs.Ythogcanomihelaa.Gw
