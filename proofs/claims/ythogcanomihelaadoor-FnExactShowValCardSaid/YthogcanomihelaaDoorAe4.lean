/- Small laws for the operations: lists of values, rows that are read and written. -/
import Derived.Test.YthogcanomihelaaDoorAe3
set_option linter.unusedSimpArgs false
set_option linter.unusedVariables false
namespace Go.Proofs.YthogcanomihelaaDoor.Ae
open Go

/-- From address (b, o) on the memory holds these. -/
def RowAt (w : World) (b o : Nat) (us : List Value) : Prop := ∀ (j : Nat) u, us[j]? = some u → w.cell? ⟨b, o + j, none⟩ = some u
theorem add_lit' (b o n : Nat) : (⟨b, o, none⟩ : Addr).add n = ⟨b, o + n, none⟩ := by unfold Addr.add; split <;> simp_all

section
variable {s : Store} {L : Nat → Nat → Loc} {C : Cs} {w : World}

theorem VRs.nil : VRs s L C w [] [] := ⟨rfl, fun j x y h => by simp at h⟩
theorem VRs.append {a b : List AV} {x y : List Value} (h : VRs s L C w a x) (k : VRs s L C w b y) : VRs s L C w (a ++ b) (x ++ y) := by
  refine ⟨by rw [List.length_append, List.length_append, h.1, k.1], fun j u v hu hv => ?_⟩
  rcases Nat.lt_or_ge j a.length with hj | hj
  · rw [List.getElem?_append_left hj] at hu
    rw [List.getElem?_append_left (by rw [h.1]; exact hj)] at hv
    exact h.2 j u v hu hv
  · rw [List.getElem?_append_right hj] at hu
    rw [List.getElem?_append_right (by rw [h.1]; exact hj), h.1] at hv
    exact k.2 _ u v hu hv
theorem VRs.take {a : List AV} {x : List Value} (h : VRs s L C w a x) (n : Nat) : VRs s L C w (a.take n) (x.take n) := by
  refine ⟨by rw [List.length_take, List.length_take, h.1], fun j u v hu hv => ?_⟩
  rw [List.getElem?_take] at hu hv
  split at hu
  · rename_i hj
    rw [if_pos hj] at hv
    exact h.2 j u v hu hv
  · cases hu
theorem VRs.drop {a : List AV} {x : List Value} (h : VRs s L C w a x) (n : Nat) : VRs s L C w (a.drop n) (x.drop n) := by
  refine ⟨by rw [List.length_drop, List.length_drop, h.1], fun j u v hu hv => ?_⟩
  rw [List.getElem?_drop] at hu hv
  exact h.2 _ u v hu hv
theorem VRs.one {v : AV} {u : Value} (h : VR s L C w v u) : VRs s L C w [v] [u] := by
  refine ⟨rfl, fun j x y hx hy => ?_⟩
  cases j with
  | zero => simp at hx hy; subst hx; subst hy; exact h
  | succ j => simp at hx
theorem VRs.get {a : List AV} {x : List Value} (h : VRs s L C w a x) {j : Nat} {v : AV} (hv : a[j]? = some v) : ∃ u, x[j]? = some u ∧ VR s L C w v u := by
  have hj : j < x.length := by rw [h.1]; exact (List.getElem?_eq_some_iff.1 hv).1
  exact ⟨x[j], List.getElem?_eq_getElem hj, h.2 j v _ hv (List.getElem?_eq_getElem hj)⟩
theorem VRs.agg {a : List AV} {x : List Value} (h : VRs s L C w a x) : VR s L C w (.agg a) (.agg x.toArray) := .agg a x h.1 h.2
theorem VRs.tup {a : List AV} {x : List Value} (h : VRs s L C w a x) : VR s L C w (.tup a) (.tuple x.toArray) := .tup a x h.1 h.2
theorem VRs.of_fun {a : List AV} {u : Nat → Value} (h : ∀ (j : Nat) x, a[j]? = some x → VR s L C w x (u j)) : VRs s L C w a ((List.range a.length).map u) := by
  refine ⟨by simp, fun j x y hx hy => ?_⟩
  have hj := (List.getElem?_eq_some_iff.1 hx).1
  rw [List.getElem?_map, List.getElem?_range hj] at hy
  simp at hy
  subst hy
  exact h j x hx
theorem rowAt_of_fun {n b o : Nat} {u : Nat → Value} (h : ∀ j, j < n → w.cell? ⟨b, o + j, none⟩ = some (u j)) : RowAt w b o ((List.range n).map u) := by
  intro j v hv
  have hj : j < n := by
    have := (List.getElem?_eq_some_iff.1 hv).1
    simpa using this
  rw [List.getElem?_map, List.getElem?_range hj] at hv
  simp at hv
  subst hv
  exact h j hj
theorem RowAt.take {b o : Nat} {us : List Value} (h : RowAt w b o us) (n : Nat) : RowAt w b o (us.take n) := by
  intro j u hu
  rw [List.getElem?_take] at hu
  split at hu
  · exact h j u hu
  · cases hu
theorem RowAt.drop {b o : Nat} {us : List Value} (h : RowAt w b o us) (n : Nat) : RowAt w b (o + n) (us.drop n) := by
  intro j u hu
  rw [List.getElem?_drop] at hu
  have := h _ u hu
  rwa [← Nat.add_assoc] at this

/-- The value of one cell. -/
theorem VR.one {v : AV} {u : Value} (h : VR s L C w v u) (hv : v.isCell = true) : u.oneCell' = true ∧ u.cells = #[u] := by
  cases h with
  | undef | unw | agg | tup => simp [AV.isCell] at hv
  | aptr d i off ver e sz cs ver' pr v h hv hs => obtain ⟨a, rfl⟩ := hs; exact ⟨rfl, rfl⟩
  | slr d i off n ver full e sz cs ver' pr v h hv hs => obtain ⟨A, cap, rfl, _⟩ := hs; exact ⟨rfl, rfl⟩
  | _ => exact ⟨rfl, rfl⟩
theorem VRs.one_all {a : List AV} {x : List Value} (h : VRs s L C w a x) (ha : a.all AV.isCell = true) : ∀ u ∈ x, u.oneCell' = true := by
  intro u hu
  obtain ⟨j, hj⟩ := List.getElem?_of_mem hu
  have hj' : j < a.length := by rw [← h.1]; exact (List.getElem?_eq_some_iff.1 hj).1
  have := h.2 j a[j] u (List.getElem?_eq_getElem hj') hj
  exact (this.one (List.all_eq_true.1 ha _ (List.getElem_mem hj'))).1
theorem VR.cells {v : AV} {u : Value} (h : VR s L C w v u) (hv : v.cells.all AV.isCell = true) : ∃ us : List Value, u.cells = us.toArray ∧ VRs s L C w v.cells us := by
  cases h with
  | undef => simp [AV.cells, AV.isCell] at hv
  | unw => simp [AV.cells, AV.isCell] at hv
  | agg cs vs hl hr => exact ⟨vs, rfl, hl, hr⟩
  | tup cs vs hl hr => simp [AV.cells, AV.isCell] at hv
  | aptr d i off ver e sz cs ver' pr v h hq hs hc => obtain ⟨a, rfl⟩ := hs; exact ⟨[_], rfl, .one (.aptr d i off ver e sz cs ver' pr _ h hq ⟨a, rfl⟩ hc)⟩
  | slr d i off n ver full e sz cs ver' pr v h hq hs hc => obtain ⟨A, cap, rfl, hs⟩ := hs; exact ⟨[_], rfl, .one (.slr d i off n ver full e sz cs ver' pr _ h hq ⟨A, cap, rfl, hs⟩ hc)⟩
  | bool b => exact ⟨[_], rfl, .one (.bool b)⟩
  | int k n => exact ⟨[_], rfl, .one (.int k n)⟩
  | str t => exact ⟨[_], rfl, .one (.str t)⟩
  | nilp => exact ⟨[_], rfl, .one .nilp⟩
  | ptr d i off t cs h => exact ⟨[_], rfl, .one (.ptr d i off t cs h)⟩
  | eptr cs a b o u hA hok hc hr => exact ⟨[_], rfl, .one (.eptr cs a b o u hA hok hc hr)⟩
  | imm full n cs A cap b o u hn hf hok hA hc hr => exact ⟨[_], rfl, .one (.imm full n cs A cap b o u hn hf hok hA hc hr)⟩
  | fn f az bs va vb ha hb hra hrb => exact ⟨[_], rfl, .one (.fn f az bs va vb ha hb hra hrb)⟩
  | nilfn => exact ⟨[_], rfl, .one .nilfn⟩
  | ifc t v u h => exact ⟨[_], rfl, .one (.ifc t v u h)⟩
  | nilifc => exact ⟨[_], rfl, .one .nilifc⟩
  | anyb b => exact ⟨[_], rfl, .one (.anyb b)⟩

/-- What a pointer leads to, from there on. -/
def cellsFrom (s : Store) : AV → Option (List AV)
  | .ptr d i off => match s.get d i with | some (.box _ cs) => some (cs.drop off) | _ => none
  | .aptr d i off ver => match s.get d i with | some (.arr _ _ cs ver' _) => if ver = ver' then some (cs.drop off) else none | _ => none
  | .eptr cs => some cs
  | _ => none
theorem arr_row (h : SR s L C w) {d i e sz : Nat} {cs : List AV} {ver pr : Nat} (hg : s.get d i = some (.arr e sz cs ver pr)) :
    ∃ us : List Value, VRs s L C w cs us ∧ (us ≠ [] → RowAt w (L d i).blk (L d i).base us) := by
  obtain ⟨_, _, h2⟩ := h.obj d i _ hg
  rcases h2 with ⟨_, _, rfl⟩ | ⟨_, _, h4, vs, h5, h6, h7⟩
  · exact ⟨[], .nil, fun h => absurd rfl h⟩
  · refine ⟨(vs.drop (L d i).base).take cs.length, ⟨by rw [List.length_take, List.length_drop]; omega, fun j x y hx hy => ?_⟩, fun _ j u hu => ?_⟩
    · rw [List.getElem?_take] at hy
      split at hy
      · rw [List.getElem?_drop] at hy
        exact h7 j x y hx hy
      · cases hy
    · rw [List.getElem?_take] at hu
      split at hu
      · rw [List.getElem?_drop] at hu
        rw [cell_of_heap h5]
        exact hu
      · cases hu
theorem box_row (h : SR s L C w) {d i t : Nat} {cs : List AV} (hg : s.get d i = some (.box t cs)) :
    ∃ us : List Value, VRs s L C w cs us ∧ RowAt w (L d i).blk 0 us ∧ w.heap[(L d i).blk]? = some (.cells us.toArray t (0, 0)) := by
  obtain ⟨_, _, vs, h3, h4⟩ := h.obj d i _ hg
  exact ⟨vs, h4, fun j u hu => by rw [cell_of_heap h3, Nat.zero_add]; exact hu, h3⟩
theorem cellsFrom_sound (h : SR s L C w) {p : AV} {u : Value} (hp : VR s L C w p u) {cs : List AV} (hc : cellsFrom s p = some cs) :
    ∃ us : List Value, VRs s L C w cs us ∧ ∃ a, u = .pointer (some a) ∧ (us ≠ [] → ∃ b o, a = ⟨b, o, none⟩ ∧ RowAt w b o us) := by
  cases hp <;> simp only [cellsFrom] at hc <;> try cases hc
  case ptr d i off t cs' hg =>
    rw [hg] at hc
    obtain rfl := Option.some.inj hc
    obtain ⟨us, h1, h2, _⟩ := box_row h hg
    have := h2.drop off
    rw [Nat.zero_add] at this
    exact ⟨us.drop off, h1.drop off, _, rfl, fun _ => ⟨_, _, rfl, this⟩⟩
  case aptr d i off ver e sz cs' ver' pr hg hv hs hr =>
    rw [hg] at hc
    dsimp only at hc
    split at hc
    · rename_i hq
      obtain rfl := Option.some.inj hc
      obtain ⟨us, h1, h2⟩ := arr_row h hg
      obtain rfl := hr hq
      refine ⟨us.drop off, h1.drop off, _, rfl, fun hne => ⟨_, _, rfl, (h2 ?_).drop off⟩⟩
      rintro rfl
      simp at hne
    · cases hc
  case eptr a b o u hA hok hc' hr => exact ⟨_, .of_fun hr, a, rfl, fun hne => ⟨b, o, hA (by rintro rfl; simp at hne), rowAt_of_fun fun j hj => (hc' j _ (List.getElem?_eq_getElem hj)).2⟩⟩

theorem loadV_cells {n : Option Nat} {p v : AV} (h : loadV s n p = some v) : ∃ cs, cellsFrom s p = some cs ∧
    (n = none → cs[0]? = some v) ∧ ∀ m, n = some m → m ≤ cs.length ∧ v = .agg (cs.take m) := by
  cases p <;> try (simp [loadV] at h; done)
  case ptr d i off =>
    cases hg : s.get d i with
    | none => simp [loadV, hg] at h
    | some o =>
      cases o with
      | arr => simp [loadV, hg] at h
      | box t cs =>
        refine ⟨cs.drop off, by simp [cellsFrom, hg], ?_, ?_⟩
        · rintro rfl
          simpa [loadV, hg] using h
        · rintro m rfl
          simp only [loadV, hg] at h
          split at h
          · exact ⟨by rw [List.length_drop]; omega, (Option.some.inj h).symm⟩
          · cases h
  case aptr d i off ver =>
    cases hg : s.get d i with
    | none => simp [loadV, hg] at h
    | some o =>
      cases o with
      | box => simp [loadV, hg] at h
      | arr e sz cs ver' pr =>
        cases n with
        | none =>
          simp only [loadV, hg] at h
          split at h
          · rename_i hq
            exact ⟨cs.drop off, by simp [cellsFrom, hg, hq], fun _ => by simpa using h, fun m hm => by cases hm⟩
          · cases h
        | some n =>
          simp only [loadV, hg] at h
          split at h
          · rename_i hq
            refine ⟨cs.drop off, by simp [cellsFrom, hg, hq.1], fun hm => (by cases hm), ?_⟩
            intro m hm
            obtain rfl := Option.some.inj hm
            exact ⟨by rw [List.length_drop]; omega, (Option.some.inj h).symm⟩
          · cases h
  case eptr cs =>
    refine ⟨cs, rfl, ?_, ?_⟩
    · rintro rfl
      exact h
    · rintro m rfl
      simp only [loadV] at h
      split at h
      · rename_i hq
        exact ⟨hq, (Option.some.inj h).symm⟩
      · cases h

/-- What a slice that is read holds. -/
theorem elems_sound (h : SR s L C w) {x : AV} {u : Value} (hx : VR s L C w x u) {n : Nat} {cs : List AV} (he : elems s x = some (n, cs)) :
    ∃ (A : Option Addr) (cap : Nat) (us : List Value), u = .slice A n cap ∧ n ≤ cap ∧ VRs s L C w cs us ∧ (us ≠ [] → ∃ b o, A = some ⟨b, o, none⟩ ∧ RowAt w b o us) := by
  cases hx <;> simp only [elems] at he <;> try cases he
  case imm A cap b o u hn hok hA hc hr hf =>
    refine ⟨A, cap, _, rfl, hn.1, .of_fun hr, fun hne => ⟨b, o, hA ?_, rowAt_of_fun fun j hj => (hc j _ (List.getElem?_eq_getElem hj)).2⟩⟩
    rintro rfl
    simp at hne
  case slr d i off n' ver full e sz cs' ver' pr hg hv hs hr =>
    rw [hg] at he
    dsimp only at he
    split at he
    · rename_i hq
      simp only [Option.some.injEq, Prod.mk.injEq] at he
      obtain ⟨rfl, rfl⟩ := he
      obtain ⟨A, cap, rfl, hn, hf, hA⟩ := hr hq.1
      obtain ⟨us, h1, h2⟩ := arr_row h hg
      refine ⟨A, cap, _, rfl, hn, (h1.drop off).take _, fun hne => ⟨_, _, hA ?_, ((h2 ?_).drop off).take _⟩⟩
      · rcases Nat.eq_zero_or_pos n' with h0 | h0
        · subst h0
          simp at hne
        · omega
      · rintro rfl
        simp at hne
    · cases he
end

/-! ### the rows of zeros -/
theorem repL_length (n : Nat) (z : List AV) : (repL n z).length = n * z.length := by
  induction n with
  | zero => simp [repL]
  | succ n ih => rw [repL, List.length_append, ih, Nat.succ_mul, Nat.add_comm]
def repV (n : Nat) (z : List Value) : List Value :=
  match n with
  | 0 => []
  | n + 1 => z ++ repV n z
theorem repV_length (n : Nat) (z : List Value) : (repV n z).length = n * z.length := by
  induction n with
  | zero => simp [repV]
  | succ n ih => rw [repV, List.length_append, ih, Nat.succ_mul, Nat.add_comm]
theorem repV_get (z : List Value) (hz : 0 < z.length) : ∀ n j, j < n * z.length → (repV n z)[j]? = z[j % z.length]?
  | 0, j, h => by simp at h
  | n + 1, j, h => by
    rw [repV]
    rcases Nat.lt_or_ge j z.length with hj | hj
    · rw [List.getElem?_append_left hj, Nat.mod_eq_of_lt hj]
    · rw [List.getElem?_append_right hj, repV_get z hz n (j - z.length) (by rw [Nat.succ_mul] at h; omega), Nat.mod_eq_sub_mod hj]
theorem rep_range (z : Array Value) (n : Nat) : ((Array.range (n * z.size)).map fun i => z[i % z.size]!) = (repV n z.toList).toArray := by
  rcases Nat.eq_zero_or_pos z.size with h0 | h0
  · have : repV n z.toList = [] := List.eq_nil_of_length_eq_zero (by rw [repV_length, Array.length_toList, h0, Nat.mul_zero])
    rw [this, h0]
    simp
  · apply Array.ext'
    apply List.ext_getElem?
    intro j
    have hl : 0 < z.toList.length := by rwa [Array.length_toList]
    rcases Nat.lt_or_ge j (n * z.size) with hj | hj
    · rw [repV_get z.toList hl n j (by rwa [Array.length_toList])]
      have hm : j % z.size < z.size := Nat.mod_lt _ h0
      simp [hj, hm]
    · rw [List.getElem?_eq_none (by simpa using hj), List.getElem?_eq_none (by rw [repV_length, Array.length_toList]; exact hj)]
theorem VRs.rep {s : Store} {L : Nat → Nat → Loc} {C : Cs} {w : World} {z : List AV} {vz : List Value} (h : VRs s L C w z vz) : ∀ n, VRs s L C w (repL n z) (repV n vz)
  | 0 => .nil
  | n + 1 => h.append (h.rep n)
theorem cellsOk_rep {D : Nat} {z : List AV} (h : cellsOk D z = true) : ∀ n, cellsOk D (repL n z) = true
  | 0 => rfl
  | n + 1 => by
    have ih := cellsOk_rep h n
    simp only [cellsOk] at h ih ⊢
    rw [repL, List.all_append, h, ih]
    rfl
theorem cellsOk_append {D : Nat} {a b : List AV} : cellsOk D (a ++ b) = true ↔ cellsOk D a = true ∧ cellsOk D b = true := by
  simp only [cellsOk, List.all_append, Bool.and_eq_true]
theorem cellsOk_sub {D : Nat} {a b : List AV} (h : cellsOk D a = true) (hs : ∀ x ∈ b, x ∈ a) : cellsOk D b = true := by
  simp only [cellsOk, List.all_eq_true] at h ⊢
  exact fun x hx => h x (hs x hx)
theorem cellsOk_take {D : Nat} {a : List AV} (h : cellsOk D a = true) (n : Nat) : cellsOk D (a.take n) = true := cellsOk_sub h fun _ hx => List.mem_of_mem_take hx
theorem cellsOk_drop {D : Nat} {a : List AV} (h : cellsOk D a = true) (n : Nat) : cellsOk D (a.drop n) = true := cellsOk_sub h fun _ hx => List.mem_of_mem_drop hx
theorem cellsOk_cells {D : Nat} {a : List AV} (h : cellsOk D a = true) : a.all AV.isCell = true := by
  simp only [cellsOk, List.all_eq_true, Bool.and_eq_true] at h ⊢
  exact fun x hx => (h x hx).1
theorem cellsOk_of {D : Nat} {a : List AV} (h : a.all AV.isCell = true) (hl : AV.lowL D a = true) : cellsOk D a = true := by
  simp only [cellsOk, List.all_eq_true, Bool.and_eq_true] at h ⊢
  intro x hx
  obtain ⟨j, hj⟩ := List.getElem?_of_mem hx
  exact ⟨h x hx, lowL_mem hl hj⟩

/-! ### parts laid into a row -/
def fillV (cs : List Value) : List (Nat × List Value) → Option (List Value)
  | [] => some cs
  | (o, p) :: r => if o + p.length ≤ cs.length then fillV (cs.take o ++ p ++ cs.drop (o + p.length)) r else none
def Corr (place : Nat → Option (Nat × Nat)) : List (Nat × Value) → List (Nat × List Value) → Prop
  | [], [] => True
  | q :: qs, r :: rs => place q.1 = some (r.1, r.2.length) ∧ q.2.cells = r.2.toArray ∧ Corr place qs rs
  | _, _ => False
theorem foldl_set (o : Nat) : ∀ (p : List Value) (k : Nat) (cs : Array Value), o + k + p.length ≤ cs.size →
    (p.zipIdx k).foldl (fun (cs : Array Value) (x : Value × Nat) => cs.setIfInBounds (o + x.2) x.1) cs = (cs.toList.take (o + k) ++ p ++ cs.toList.drop (o + k + p.length)).toArray
  | [], k, cs, _ => by simp
  | v :: p, k, cs, h => by
    have hk : o + k < cs.size := by simp at h; omega
    rw [List.zipIdx_cons, List.foldl_cons, foldl_set o p (k + 1) _ (by simp at h ⊢; omega)]
    apply Array.ext'
    apply List.ext_getElem?
    intro j
    simp only [Array.toList_setIfInBounds, List.length_cons, List.append_assoc, List.cons_append]
    have hl : (cs.toList.take (o + k)).length = o + k := by rw [List.length_take, Array.length_toList]; omega
    have hl' : ((cs.toList.set (o + k) v).take (o + (k + 1))).length = o + (k + 1) := by rw [List.length_take, List.length_set, Array.length_toList]; omega
    rcases Nat.lt_or_ge j (o + k) with h1 | h1
    · rw [List.getElem?_append_left (by omega), List.getElem?_append_left (by omega), List.getElem?_take, List.getElem?_take, if_pos (by omega), if_pos h1, List.getElem?_set_ne (by omega)]
    · rcases Nat.eq_or_lt_of_le h1 with h2 | h2
      · subst h2
        rw [List.getElem?_append_left (by omega), List.getElem?_append_right (by omega), hl, List.getElem?_take, if_pos (by omega), List.getElem?_set_self (by rw [Array.length_toList]; exact hk)]
        simp
      · obtain ⟨m, hm⟩ : ∃ m, j - (o + k) = m + 1 := ⟨j - (o + k) - 1, by omega⟩
        have e1 : (List.take (o + (k + 1)) (cs.toList.set (o + k) v) ++ (p ++ List.drop (o + (k + 1) + p.length) (cs.toList.set (o + k) v)))[j]? = (p ++ List.drop (o + (k + 1) + p.length) (cs.toList.set (o + k) v))[m]? := by
          rw [List.getElem?_append_right (by omega), hl', show j - (o + (k + 1)) = m from by omega]
        have e2 : (List.take (o + k) cs.toList ++ v :: (p ++ List.drop (o + k + (p.length + 1)) cs.toList))[j]? = (p ++ List.drop (o + k + (p.length + 1)) cs.toList)[m]? := by
          rw [List.getElem?_append_right (by omega), hl, hm, List.getElem?_cons_succ]
        rw [e1, e2]
        rcases Nat.lt_or_ge m p.length with h3 | h3
        · rw [List.getElem?_append_left h3, List.getElem?_append_left h3]
        · rw [List.getElem?_append_right h3, List.getElem?_append_right h3, List.getElem?_drop, List.getElem?_drop, List.getElem?_set_ne (by omega)]
          congr 1
          omega
theorem fill_eq (place : Nat → Option (Nat × Nat)) : ∀ (qs : List (Nat × Value)) (rs : List (Nat × List Value)) (cs cs' : List Value), Corr place qs rs → fillV cs rs = some cs' → Instr.fill place cs.toArray qs = some cs'.toArray
  | [], [], cs, cs', _, h => by simp only [fillV] at h; simp only [Instr.fill]; rw [Option.some.inj h]
  | [], _ :: _, _, _, hc, _ => hc.elim
  | _ :: _, [], _, _, hc, _ => hc.elim
  | (i, v) :: qs, (o, p) :: rs, cs, cs', hc, h => by
    obtain ⟨h1, h2, h3⟩ := hc
    simp only [fillV] at h
    split at h
    · rename_i hb
      have hv : v.cells = p.toArray := h2
      have h1' : place i = some (o, p.length) := h1
      have hsz : ¬ (decide (v.cells.size ≠ p.length) || decide (o + v.cells.size > cs.toArray.size)) = true := by rw [hv]; simp; omega
      have hf : (v.cells.zipIdx.foldl (fun (cs : Array Value) (x : Value × Nat) => cs.setIfInBounds (o + x.2) x.1) cs.toArray) = (cs.take o ++ p ++ cs.drop (o + p.length)).toArray := by
        have := foldl_set o p 0 cs.toArray (by simpa using hb)
        simp only [Nat.add_zero] at this
        rw [hv, ← this, ← Array.foldl_toList]
        simp
      simp only [Instr.fill, h1']
      rw [if_neg hsz]
      have ih := fill_eq place qs rs _ cs' h3 h
      rw [← hf] at ih
      exact ih
    · cases h
theorem VRs.fill {s : Store} {L : Nat → Nat → Loc} {C : Cs} {w : World} : ∀ (ps : List (Nat × List AV)) (rs : List (Nat × List Value)) (cs cs' : List AV) (vs : List Value),
    VRs s L C w cs vs → rs.length = ps.length → (∀ (j : Nat) p r, ps[j]? = some p → rs[j]? = some r → r.1 = p.1 ∧ VRs s L C w p.2 r.2) → fillL cs ps = some cs' → ∃ vs', fillV vs rs = some vs' ∧ VRs s L C w cs' vs'
  | [], [], cs, cs', vs, h, _, _, hf => by
    simp only [fillL] at hf
    obtain rfl := Option.some.inj hf
    exact ⟨vs, rfl, h⟩
  | [], _ :: _, _, _, _, _, hl, _, _ => by simp at hl
  | _ :: _, [], _, _, _, _, hl, _, _ => by simp at hl
  | (o, p) :: ps, (o', r) :: rs, cs, cs', vs, h, hl, hr, hf => by
    obtain ⟨h1, h2⟩ := hr 0 (o, p) (o', r) rfl rfl
    obtain rfl : o' = o := h1
    have h2' : VRs s L C w p r := h2
    simp only [fillL] at hf
    split at hf
    · rename_i hb
      have hlen : r.length = p.length := h2'.1
      have hlen2 : vs.length = cs.length := h.1
      obtain ⟨vs', h3, h4⟩ := VRs.fill ps rs _ cs' (vs.take o' ++ r ++ vs.drop (o' + r.length)) (((h.take o').append h2').append (by rw [hlen]; exact h.drop _)) (by simpa using hl)
        (fun j p' r' hp hr' => hr (j + 1) p' r' (by simpa using hp) (by simpa using hr')) hf
      exact ⟨vs', by simp only [fillV]; rw [if_pos (by omega)]; exact h3, h4⟩
    · cases hf
end Go.Proofs.YthogcanomihelaaDoor.Ae
