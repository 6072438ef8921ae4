/- slices.Insert of one entry, walked by the kit's tactics: at the end; ahead of others, within the room or not. (Turned from the shelf's proofs at []string.) -/
import Derived.Test.YthogcanomihelaaAe16
import Derived.Test.YthogcanomihelaaChecked
import Derived.KernelRfl
import Derived.WalkKit
import Derived.Laws.IdiomCopy
import Derived.Laws.NewBlocks
import Derived.Shelf.Spec.SlicesInsertGrow
import Derived.Deep.RegionLaw
set_option linter.unusedSimpArgs false
set_option linter.unusedVariables false
namespace Go.Proofs.Ythogcanomihelaa.Ae
open Go Go.RowKit Go.Lib

/-- What a copy does, in rows. -/
theorem run_copy_row {P : Program} (w : World) (dT sT ty e sz b o dLen dCap : Nat) (a : Addr) (sLen sCap : Nat) (row cs : List Value) (t : Nat) (hu : P.underlying dT = some (.slice e)) (hs : szCk P e sz = true)
    (hrow : w.heap[b]? = some (.cells row.toArray t (0, 0))) (hn : cs.length = Nat.min sLen dLen * sz) (hsrc : ∀ j v, cs[j]? = some v → w.cell? (a.add j) = some v) (hfit : o + cs.length ≤ row.length) (h1 : ∀ v ∈ cs, v.oneCell' = true) :
    (Builtin.copy_ #[dT, sT] ty #[.slice (some ⟨b, o, none⟩) dLen dCap, .slice (some a) sLen sCap]).run P w = .ok (goInt (Nat.min sLen dLen)) (w.setRow b (row.take o ++ cs ++ row.drop (o + cs.length)).toArray) := by
  have hl := run_loadCells_list (P := P) w a cs hsrc
  have hst := run_storeCells_at P b o t cs 0 row.toArray w hrow (by simp; omega) h1
  obtain ⟨i, hi, hsi⟩ := szCk_sound hs
  rw [hn] at hl
  simp only [Nat.add_zero, Nat.zero_add] at hst
  simp [Builtin.copy_, run_underlying hu, Builtin.lenOf, Builtin.firstCells, sizeOf, typeInfo, hi, hsi, hl, hst]

/-- Two slices in blocks of their own, one of them plain memory, do not overlap. -/
theorem run_overlaps_two {P : Program} (w : World) (tS tR e : TypeId) (ht : P.underlying tS = some (.slice e)) (size : Nat) (hz : ∀ w, (Go.sizeOf e).run P w = .ok size w)
    (a b : Addr) (la ca lb cb : Nat) (hne : a.block ≠ b.block) (tA tB : TypeId) (kA kB : Nat)
    (hsa : w.shape? a.block = some (tA, kA)) (hsb : w.shape? b.block = some (tB, kB)) (hkA : kA ≠ 0) (hfb : ∀ q, w.frozen? ⟨b.block, q, none⟩ = false) (hfb' : w.frozen? b = false) :
    (Extern.SlicesOverlaps.overlaps #[tS, tS] #[tR] #[.slice (some a) la ca, .slice (some b) lb cb]).run P w = .ok (.bool false) w := by
  have hnb : (a.block != b.block) = true := by simpa using hne
  have hnb' : (a.block == b.block) = false := by simpa using hne
  change Sem.run P (α := Value) (do
    let some t := (#[tS, tS] : Array TypeId)[0]? | stuck "slices.overlaps: no parameter types"
    let .slice elem ← underlying t | stuck "slices.overlaps: slice type expected"
    let size ← sizeOf elem
    match (some a : Option Addr), (some b : Option Addr) with
    | some a, some b =>
      if la = 0 ∨ lb = 0 ∨ size = 0 then pure (Value.bool false)
      else if a.block != b.block && (← frozen a) && (← frozen b) then unsupported .addressObserved
      else do
        if a.block != b.block then do
          noView a; noView b
          if ← mayBeOne a b then return Value.bool ((← choose (.extern "sameAddr.stringBytes" 2)) == 1)
        pure (Value.bool (a.block == b.block && a.off < b.off + lb * size && b.off < a.off + la * size))
    | _, _ => pure (Value.bool false)) w = _
  by_cases h0 : la = 0 ∨ lb = 0 ∨ size = 0
  · simp [run_underlying ht, hz, h0]
  · cases kA with
    | zero => exact absurd rfl hkA
    | succ kA =>
      cases hfa : w.frozen? a <;> cases hfe : w.frozen? { block := a.block, off := kA + 1 } <;>
        simp [run_underlying ht, hz, h0, hnb, hnb', frozen, noView, viewAt, mayBeOne, stringish, shape, Sem.run, hsa, hsb, hfb, hfb', hfa, hfe]

/-- The same world, but for what was asked of the tape. -/
def Like (w' w : World) : Prop := w'.heap = w.heap ∧ w'.os = w.os ∧ w'.tape = w.tape ∧ w'.output = w.output

section
variable (b off n c i vb vo vc : Nat) (row : List Value) (x y : Value) (t : Nat) (w : World)
theorem vsrc (hx : w.cell? ⟨vb, vo, none⟩ = some x) (hy : w.cell? ⟨vb, vo + 1, none⟩ = some y) : Src Try.prog w 2 (.slice (some ⟨vb, vo, none⟩) 1 vc) 1 [x, y] :=
  src_slice rfl fun _ => ⟨_, _, rfl, fun j v hj => by
    match j with
    | 0 => simp at hj; subst hj; simpa using hx
    | 1 => simp at hj; subst hj; exact hy
    | j + 2 => simp at hj⟩

set_option maxHeartbeats 4000000 in
set_option maxRecDepth 100000 in
theorem ins_end (A : Option Addr) (va : Addr) (val : Value) (w' : World) (hn : n ≤ c)
    (hrun : (Builtin.append_ #[37, 37] 37 #[.slice A n c, .slice (some va) 1 vc]).run Try.prog w = .ok val w') :
    Calls Try.prog 151 #[.slice A n c, .int .i64 n, .slice (some va) 1 vc] w fun e w'' => e = .returned val ∧ w'' = w' := by
  go_enter Try.func151, Try.ntmps151
  go_wp2_with (at_builtin; refine Lib.wpList_append_run _ rfl _ _ _ _ rfl _ _ rfl rfl _ _ hrun ?_)
  all_goals (go_ret; exact ⟨rfl, rfl⟩)

theorem like_refl (w : World) : Like w w := ⟨rfl, rfl, rfl, rfl⟩
theorem like_set (w : World) (b : Nat) (r1 r2 : Array Value) : Like ((w.drew.setRow b r1).setRow b r2) (w.setRow b r2) := by
  refine ⟨?_, rfl, rfl, rfl⟩
  apply Array.ext'
  apply List.ext_getElem?
  intro k
  simp only [World.setRow, World.drew, Array.getElem?_toList, Array.getElem?_modify]
  split
  · cases w.heap[k]? with
    | none => rfl
    | some o => cases o <;> rfl
  · rfl
theorem like_cell {w w' : World} (h : Like w' w) (a : Addr) : w'.cell? a = w.cell? a := by simp [World.cell?, h.1]

set_option maxHeartbeats 4000000 in
set_option maxRecDepth 100000 in
theorem ins_room (hrow : w.heap[b]? = some (.cells row.toArray t (0, 0))) (hlim : off + c * 2 ≤ row.length) (hi : i < n) (hroom : n + 1 ≤ c) (hn63 : n < 9223372036854775807) (hvb : vb ≠ b)
    (hx : w.cell? ⟨vb, vo, none⟩ = some x) (hy : w.cell? ⟨vb, vo + 1, none⟩ = some y) (h1 : ∀ v ∈ (row.drop (off + i * 2)).take ((n - i) * 2), v.oneCell' = true) (h2 : ∀ v ∈ [x, y], v.oneCell' = true) :
    Calls Try.prog 151 #[.slice (some ⟨b, off, none⟩) n c, .int .i64 i, .slice (some ⟨vb, vo, none⟩) 1 vc] w fun e w' =>
      e = .returned (.slice (some ⟨b, off, none⟩) (n + 1) c) ∧ Like w' (w.setRow b (row.take (off + i * 2) ++ [x, y] ++ (row.drop (off + i * 2)).take ((n - i) * 2) ++ row.drop (off + n * 2 + 2)).toArray) := by
  obtain ⟨R1, hR1⟩ : ∃ R1, R1 = row.take (off + (i + 1) * 2) ++ (row.drop (off + i * 2)).take ((n - i) * 2) ++ row.drop (off + (i + 1) * 2 + ((row.drop (off + i * 2)).take ((n - i) * 2)).length) := ⟨_, rfl⟩
  have hml : ((row.drop (off + i * 2)).take ((n - i) * 2)).length = (n - i) * 2 := by rw [List.length_take, List.length_drop]; omega
  have hR1l : R1.length = row.length := by rw [hR1]; simp only [List.length_append, List.length_take, List.length_drop]; omega
  have hcp1 : ∀ (W : World), W.heap = w.heap → ∀ ty dc sc, (Builtin.copy_ #[37, 37] ty #[.slice (some ⟨b, off + (i + 1) * 2, none⟩) (n - i) dc, .slice (some ⟨b, off + i * 2, none⟩) (n + 1 - i) sc]).run Try.prog W = .ok (goInt (Nat.min (n + 1 - i) (n - i))) (W.setRow b R1.toArray) := fun W hW ty dc sc => by
    rw [hR1]
    exact run_copy_row (P := Try.prog) W 37 37 ty 113 2 b _ _ dc ⟨b, off + i * 2, none⟩ _ sc row ((row.drop (off + i * 2)).take ((n - i) * 2)) t (by kernel_rfl) (by kernel_rfl) (by rw [hW]; exact hrow)
      (by rw [hml]; congr 1; simp only [Nat.min_def]; split <;> omega)
      (fun j v hj => by
        rw [add_lit', World.cell?_of_block (w := w) (by rw [hW]), cell_of_heap hrow]
        rw [List.getElem?_take] at hj
        split at hj
        · rw [List.getElem?_drop] at hj; exact hj
        · cases hj)
      (by rw [hml]; omega) h1
  have hR2 : R1.take (off + i * 2) ++ [x, y] ++ R1.drop (off + i * 2 + [x, y].length) = row.take (off + i * 2) ++ [x, y] ++ (row.drop (off + i * 2)).take ((n - i) * 2) ++ row.drop (off + n * 2 + 2) := by
    rw [hR1, hml, List.append_assoc (row.take _), List.append_assoc _ [x, y], List.append_assoc _ [x, y], List.append_assoc _ (_ ++ _) (row.drop _), List.append_assoc [x, y]]
    rw [List.take_append_of_le_length (by rw [List.length_take]; omega), List.take_take, List.drop_append]
    have e1 : (row.take (off + (i + 1) * 2)).length = off + (i + 1) * 2 := by rw [List.length_take]; omega
    have e2 : min (off + i * 2) (off + (i + 1) * 2) = off + i * 2 := by omega
    rw [e1, e2, List.drop_eq_nil_of_le (by rw [e1]; simp only [List.length_cons, List.length_nil]; omega)]
    have e3 : off + i * 2 + [x, y].length - (off + (i + 1) * 2) = 0 := by simp only [List.length_cons, List.length_nil]; omega
    have e4 : off + (i + 1) * 2 + (n - i) * 2 = off + n * 2 + 2 := by omega
    rw [e3, e4]
    simp
  have hcp2 : ∀ (W : World), W.heap = (w.setRow b R1.toArray).heap → ∀ ty dc, (Builtin.copy_ #[37, 37] ty #[.slice (some ⟨b, off + i * 2, none⟩) (n + 1 - i) dc, .slice (some ⟨vb, vo, none⟩) 1 vc]).run Try.prog W = .ok (goInt (Nat.min 1 (n + 1 - i))) (W.setRow b (row.take (off + i * 2) ++ [x, y] ++ (row.drop (off + i * 2)).take ((n - i) * 2) ++ row.drop (off + n * 2 + 2)).toArray) := fun W hW ty dc => by
    rw [← hR2]
    exact run_copy_row (P := Try.prog) W 37 37 ty 113 2 b _ _ dc ⟨vb, vo, none⟩ 1 vc R1 [x, y] t (by kernel_rfl) (by kernel_rfl) (by rw [hW]; exact setRow_heap w _ _ _ _ _ hrow)
      (by simp only [Nat.min_def]; split <;> simp <;> omega)
      (fun j v hj => by
        have hoth : ∀ q, W.cell? ⟨vb, q, none⟩ = w.cell? ⟨vb, q, none⟩ := fun q => (World.cell?_of_block (w := w.setRow b R1.toArray) (by rw [hW])).trans (cell_setRow_other w _ _ _ hvb)
        rw [add_lit', hoth]
        match j with
        | 0 => simp at hj; subst hj; simpa using hx
        | 1 => simp at hj; subst hj; exact hy
        | j + 2 => simp at hj)
      (by simp only [List.length_cons, List.length_nil]; omega) h2
  have hov : ∀ lb cb (W : World), W.heap = w.heap → (callFunc 179 #[.slice (some ⟨vb, vo, none⟩) 1 vc, .slice (some ⟨b, off + (i + 1) * 2, none⟩) lb cb]).run Try.prog W = .ok (.value (.bool false)) W := fun lb cb W hW => by
    obtain ⟨rv, tv, fv, hv, hvx⟩ : ∃ (rv : Array Value) (tv : Nat) (fv : Nat × Nat), w.heap[vb]? = some (.cells rv tv fv) ∧ rv[vo]? = some x := by
      unfold World.cell? at hx
      dsimp only at hx
      split at hx
      · rename_i c1 t1 f1 h1; exact ⟨c1, t1, f1, h1, by simpa using hx⟩
      · cases hx
    rw [run_callFunc_extern Try.func179 (by kernel_rfl) (by kernel_rfl) (by kernel_rfl) (e := Extern.SlicesOverlaps.overlaps #[37, 37] #[4]) (by kernel_rfl),
      run_overlaps_two W 37 4 113 (by kernel_rfl) 2 (fun w => run_sizeOf (by kernel_rfl) w) ⟨vb, vo, none⟩ ⟨b, off + (i + 1) * 2, none⟩ 1 vc lb cb hvb tv t rv.size row.length
        (by simp [World.shape?, hW, hv]) (by simp [World.shape?, hW, hrow]) (by have := (Array.getElem?_eq_some_iff.1 hvx).1; omega) (fun q => by simp [World.frozen?, hW, hrow]) (by simp [World.frozen?, hW, hrow])]
    rfl
  have hw1 : IntKind.i64.wrap ((i : Int) + 1) = (i : Int) + 1 := by rw [IntKind.wrap_i64]; omega
  have hw2 : IntKind.i64.wrap ((n : Int) + 1) = (n : Int) + 1 := by rw [IntKind.wrap_i64]; omega
  have hz2 : ¬ ((i : Int) = (n : Int)) := by omega
  have hz3 : ¬ (c < n + 1) := by omega
  have hb1 : (0 : Int) ≤ (i : Int) + 1 := by omega
  have hb5 : (i : Int) ≤ (n : Int) + 1 := by omega
  have hin : i ≤ n := by omega
  have hb2 : ¬ (c = i + 1) := by omega
  have hb3 : i ≤ n + 1 := by omega
  have hb4 : ¬ (c = i) := by omega
  clear hR2 hR1l hml hR1
  go_enter Try.func151, Try.ntmps151
  have mixed : Try.prog.follows .mixedOrders = true := by kernel_rfl
  go_wp2_with (simp only [hov])
  go_region_law_o (refine step_copy_runI rfl _ _ 37 37 rfl (.slice (some ⟨b, off + (i + 1) * 2, none⟩) (n - i) (c - (i + 1))) (.slice (some ⟨b, off + i * 2, none⟩) (n + 1 - i) (c - i)) (by simp [Act.eval, Act.put]) (by simp [Act.eval, Act.put]) (hcp1 w.drew rfl 3 (c - (i + 1)) (c - i)) ?_)
  have hcp2' := hcp2 (w.drew.setRow b R1.toArray) rfl
  go_wp2_with (simp only [hcp2', Result.andThen_ok])
  go_ret
  refine ⟨rfl, ?_⟩
  have := like_set w b R1.toArray (row.take (off + i * 2) ++ [x, y] ++ (row.drop (off + i * 2)).take ((n - i) * 2) ++ row.drop (off + n * 2 + 2)).toArray
  simpa only [List.append_assoc, List.cons_append, List.nil_append] using this

set_option maxHeartbeats 4000000 in
set_option maxRecDepth 100000 in
theorem ins_grow (hrow : w.heap[b]? = some (.cells row.toArray t (0, 0))) (hlim : off + n * 2 ≤ row.length) (hi : i < n) (hnc : n ≤ c) (hroom : c < n + 1) (hbig : (n + 1) * 16 ≤ 140737488355328)
    (hx : w.cell? ⟨vb, vo, none⟩ = some x) (hy : w.cell? ⟨vb, vo + 1, none⟩ = some y) (h1 : ∀ v ∈ (row.drop (off + i * 2)).take ((n - i) * 2), v.oneCell' = true) (h2 : ∀ v ∈ [x, y], v.oneCell' = true) :
    Calls Try.prog 151 #[.slice (some ⟨b, off, none⟩) n c, .int .i64 i, .slice (some ⟨vb, vo, none⟩) 1 vc] w fun e w' =>
      ∃ cap rest, n + 1 ≤ cap ∧ (n + 1) * 2 + List.length rest = cap * 2 ∧ e = .returned (.slice (some ⟨w.heap.size, 0, none⟩) (n + 1) cap) ∧
      Like w' (w.alloc (.cells ((row.drop off).take (i * 2) ++ [x, y] ++ (row.drop (off + i * 2)).take ((n - i) * 2) ++ rest).toArray 113)) := by
  have hbw : b < w.heap.size := (Array.getElem?_eq_some_iff.1 hrow).1
  have hvw : vb < w.heap.size := World.block_lt_of_cell? w ⟨vb, vo, none⟩ hx
  obtain ⟨G, hG⟩ : ∃ G, G = grownCap w (n + 1) c 113 := ⟨_, rfl⟩
  have hGn : n + 1 ≤ G := by rw [hG]; exact grownCap_ge w _ _ _
  have hG63 : G ≤ 9223372036854775807 := by
    have := grownCap_le_maxLen w (n + 1) c 113 (by unfold maxLen; omega)
    rw [← hG] at this
    unfold maxLen at this
    omega
  obtain ⟨i0, z, hi0, hz0, hzs, his, hib⟩ : ∃ i0 z, Try.prog.info? 113 = some i0 ∧ i0.zero = some z ∧ z.cells.size = 2 ∧ i0.size = 2 ∧ i0.bytes = 16 := by
    obtain ⟨i, hi, h1⟩ := szCk_sound (P := Try.prog) (t := 113) (n := 2) (by kernel_rfl)
    obtain ⟨i', hi', h2⟩ := byCk_sound (P := Try.prog) (t := 113) (n := 16) (by kernel_rfl)
    rw [hi] at hi'
    obtain rfl := Option.some.inj hi'
    have hzero : (match Try.prog.info? 113 with | some i => (match i.zero with | some zv => zv.cells.size == 2 | none => false) | none => false) = true := by kernel_rfl
    rw [hi] at hzero
    dsimp only at hzero
    split at hzero
    · rename_i z hz; exact ⟨i, z, hi, hz, by simpa using hzero, h1, h2⟩
    · cases hzero
  have hol : ((row.drop off).take (i * 2)).length = i * 2 := by rw [List.length_take, List.length_drop]; omega
  have hrowAt : ∀ o, RowAt w b o (row.drop o) := fun o j v hj => by
    rw [cell_of_heap hrow]
    rw [List.getElem?_drop] at hj
    exact hj
  have hsrcO : Src Try.prog w 2 (.slice (some ⟨b, off, none⟩) i c) i ((row.drop off).take (i * 2)) := src_slice hol fun _ => ⟨_, _, rfl, (hrowAt off).take _⟩
  have hold : (Builtin.firstCells i0.size i (.slice (some ⟨b, off, none⟩) i c)).run Try.prog w.drew = .ok ((row.drop off).take (i * 2)).toArray w.drew := by
    rw [his]; exact hsrcO.cells w.drew rfl
  obtain ⟨ROW, hROW⟩ : ∃ ROW : List Value, ROW = (row.drop off).take (i * 2) ++ (Builtin.zeroCells z.cells (n + 1 - i)).toList ++ (Builtin.zeroCells z.cells (G - (n + 1))).toList := ⟨_, rfl⟩
  have hRl : ROW.length = G * 2 := by
    rw [hROW, List.length_append, List.length_append, hol, Array.length_toList, Array.length_toList, size_zeroCells, size_zeroCells, hzs]
    omega
  have hzk : (n : Int) + 1 - (i : Int) = ((n + 1 - i : Nat) : Int) := by omega
  have hik : i + (n + 1 - i) = n + 1 := by omega
  have hrz : ∀ ty, (Builtin.append_ #[37, 3] ty #[.slice (some ⟨b, off, none⟩) i c, .int .i64 ((n : Int) + 1 - (i : Int))]).run Try.prog w = .ok (.slice (some ⟨w.heap.size, 0, none⟩) (n + 1) G) (w.drew.alloc (.cells ROW.toArray 113)) := fun ty => by
    have h := Lib.run_append_grow_zeros (P := Try.prog) w 37 3 ty 113 i0 z .i64 .i64 (by kernel_rfl) (by kernel_rfl) hi0 hz0 (some ⟨b, off, none⟩) i c _ hold (n + 1 - i) (by omega) (by omega) (by omega) (by omega) (by rw [hib]; omega) (by rw [hib, hik]; exact growslice_fits hroom hbig)
    rw [hik, ← hG] at h
    rw [hzk, h, hROW]
    congr 3
    apply Array.ext'
    simp
  obtain ⟨N, hN⟩ : ∃ N, N = w.heap.size := ⟨_, rfl⟩
  obtain ⟨W1, hW1⟩ : ∃ W1, W1 = w.drew.alloc (.cells ROW.toArray 113) := ⟨_, rfl⟩
  have hP : Pushed w W1 (.cells ROW.toArray 113) := by rw [hW1]; exact pushed_drew w _
  rw [← hW1] at hrz
  have hfr : W1.heap[N]? = some (.cells ROW.toArray 113 (0, 0)) := by rw [hN]; exact hP.fresh
  obtain ⟨R1, hR1⟩ : ∃ R1, R1 = ROW.take (i * 2) ++ [x, y] ++ ROW.drop (i * 2 + [x, y].length) := ⟨_, rfl⟩
  have hR1l : R1.length = G * 2 := by rw [hR1]; simp only [List.length_append, List.length_take, List.length_drop, List.length_cons, List.length_nil]; omega
  have hvN : vb ≠ N := by omega
  have hbN : b ≠ N := by omega
  have hcpA : ∀ (W : World), W.heap = W1.heap → ∀ ty dc, (Builtin.copy_ #[37, 37] ty #[.slice (some ⟨N, i * 2, none⟩) (n + 1 - i) dc, .slice (some ⟨vb, vo, none⟩) 1 vc]).run Try.prog W = .ok (goInt (Nat.min 1 (n + 1 - i))) (W.setRow N R1.toArray) := fun W hW ty dc => by
    rw [hR1]
    exact run_copy_row (P := Try.prog) W 37 37 ty 113 2 N _ _ dc ⟨vb, vo, none⟩ 1 vc ROW [x, y] _ (by kernel_rfl) (by kernel_rfl) (by rw [hW]; exact hfr)
      (by simp only [Nat.min_def]; split <;> simp <;> omega)
      (fun j v hj => by
        have hoth : ∀ q, W.cell? ⟨vb, q, none⟩ = w.cell? ⟨vb, q, none⟩ := fun q => World.cell?_of_block (by rw [hW]; exact hP.old hvw)
        rw [add_lit', hoth]
        match j with
        | 0 => simp at hj; subst hj; simpa using hx
        | 1 => simp at hj; subst hj; exact hy
        | j + 2 => simp at hj)
      (by simp only [List.length_cons, List.length_nil]; omega) h2
  have hml : ((row.drop (off + i * 2)).take ((n - i) * 2)).length = (n - i) * 2 := by rw [List.length_take, List.length_drop]; omega
  obtain ⟨R2, hR2⟩ : ∃ R2, R2 = R1.take ((i + 1) * 2) ++ (row.drop (off + i * 2)).take ((n - i) * 2) ++ R1.drop ((i + 1) * 2 + ((row.drop (off + i * 2)).take ((n - i) * 2)).length) := ⟨_, rfl⟩
  have hcpB : ∀ (W : World), W.heap = (W1.setRow N R1.toArray).heap → ∀ ty dc sc, (Builtin.copy_ #[37, 37] ty #[.slice (some ⟨N, (i + 1) * 2, none⟩) (n - i) dc, .slice (some ⟨b, off + i * 2, none⟩) (n - i) sc]).run Try.prog W = .ok (goInt (Nat.min (n - i) (n - i))) (W.setRow N R2.toArray) := fun W hW ty dc sc => by
    rw [hR2]
    exact run_copy_row (P := Try.prog) W 37 37 ty 113 2 N _ _ dc ⟨b, off + i * 2, none⟩ _ sc R1 ((row.drop (off + i * 2)).take ((n - i) * 2)) _ (by kernel_rfl) (by kernel_rfl) (by rw [hW]; exact setRow_heap W1 _ _ _ _ _ hfr)
      (by rw [hml]; simp)
      (fun j v hj => by
        have hoth : ∀ q, W.cell? ⟨b, q, none⟩ = w.cell? ⟨b, q, none⟩ := fun q => (World.cell?_of_block (w := W1.setRow N R1.toArray) (by rw [hW])).trans ((cell_setRow_other W1 _ _ _ hbN).trans (World.cell?_of_block (hP.old hbw)))
        rw [add_lit', hoth]
        exact ((hrowAt (off + i * 2)).take _) j v hj)
      (by rw [hml]; omega) h1
  have hfin : R2 = (row.drop off).take (i * 2) ++ [x, y] ++ (row.drop (off + i * 2)).take ((n - i) * 2) ++ ROW.drop ((n + 1) * 2) := by
    have e1 : (ROW.take (i * 2)).length = i * 2 := by rw [List.length_take]; omega
    have e0 : ROW.take (i * 2) = (row.drop off).take (i * 2) := by rw [hROW, List.append_assoc, List.take_append_of_le_length (by omega), List.take_of_length_le (by omega)]
    have e2 : (ROW.take (i * 2) ++ [x, y]).length = (i + 1) * 2 := by rw [List.length_append, e1]; simp only [List.length_cons, List.length_nil]; omega
    have e3 : (i + 1) * 2 + (n - i) * 2 = (n + 1) * 2 := by omega
    have e4 : i * 2 + [x, y].length = (i + 1) * 2 := by simp only [List.length_cons, List.length_nil]; omega
    have e5 : (ROW.take (i * 2) ++ [x, y]).drop ((n + 1) * 2) = [] := List.drop_eq_nil_of_le (by omega)
    rw [hR2, hml, hR1, e3, List.take_append_of_le_length (by omega), List.take_of_length_le (l := ROW.take (i * 2) ++ [x, y]) (by omega), List.drop_append, e5, e2, List.nil_append, List.drop_drop, e4, e0]
    congr 2
    omega
  have hlike : Like ((W1.setRow N R1.toArray).drew.setRow N R2.toArray) (w.alloc (.cells R2.toArray 113)) := by
    refine ⟨?_, hP.os, hP.tape, hP.output⟩
    apply Array.ext'
    apply List.ext_getElem?
    intro k
    have e1 : (w.alloc (.cells R2.toArray 113)).heap = w.heap.push (.cells R2.toArray 113) := rfl
    rw [e1]
    simp only [World.setRow, World.drew, Array.getElem?_toList, Array.getElem?_modify, hP.heap, Array.getElem?_push, hN]
    rcases Nat.lt_trichotomy k w.heap.size with h | h | h
    · rw [if_neg (by omega), if_neg (by omega), if_neg (by omega), if_neg (by omega)]
    · subst h; simp
    · rw [if_neg (by omega), if_neg (by omega), if_neg (by omega), if_neg (by omega)]
  have hGi : ¬ (G = i) := by omega
  have hGim : ¬ (G = i + 1) := by omega
  have hci : ¬ (c = i) := by omega
  have hw1 : IntKind.i64.wrap ((i : Int) + 1) = (i : Int) + 1 := by rw [IntKind.wrap_i64]; omega
  have hw2 : IntKind.i64.wrap ((n : Int) + 1) = (n : Int) + 1 := by rw [IntKind.wrap_i64]; omega
  have hw3 : IntKind.i64.wrap ((n : Int) + 1 - (i : Int)) = (n : Int) + 1 - (i : Int) := by rw [IntKind.wrap_i64]; omega
  have hz2 : ¬ ((i : Int) = (n : Int)) := by omega
  have hz3 : c < n + 1 := by omega
  have hz4 : (c : Int) < (n : Int) + 1 := by omega
  have hb1 : (0 : Int) ≤ (i : Int) + 1 := by omega
  have hb5 : (i : Int) ≤ (n : Int) + 1 := by omega
  have hin : i ≤ n := by omega
  have hb3 : i ≤ n + 1 := by omega
  have hcap : (n + 1) * 2 + (ROW.drop ((n + 1) * 2)).length = G * 2 := by rw [List.length_drop]; omega
  have mixed : Try.prog.follows .mixedOrders = true := by kernel_rfl
  have hcpA' := hcpA W1 rfl
  have hcpB' := hcpB (W1.setRow N R1.toArray).drew rfl
  rw [← hN] at hrz ⊢
  have hlike : Like ((W1.setRow N R1.toArray).drew.setRow N R2.toArray) (w.alloc (.cells ((row.drop off).take (i * 2) ++ [x, y] ++ (row.drop (off + i * 2)).take ((n - i) * 2) ++ ROW.drop ((n + 1) * 2)).toArray 113)) := by rw [← hfin]; exact hlike
  clear hfin hR2 hR1 hW1 hROW hG hN hcpA hcpB hP hold hsrcO hzk hik hol hml hrowAt hfr hR1l hRl
  go_enter Try.func151, Try.ntmps151
  go_wp2_with (first
    | (at_builtin; refine Lib.wpList_append_run _ rfl _ _ _ _ rfl _ _ rfl rfl _ _ (hrz _) ?_)
    | (simp only [hcpA', Result.andThen_ok]))
  go_region_law_o (refine step_copy_runI rfl _ _ 37 37 rfl (.slice (some ⟨N, (i + 1) * 2, none⟩) (n - i) (G - (i + 1))) (.slice (some ⟨b, off + i * 2, none⟩) (n - i) (c - i)) (by simp [Act.eval, Act.put]) (by simp [Act.eval, Act.put]) (hcpB' 3 (G - (i + 1)) (c - i)) ?_)
  go_wp2
  go_ret
  exact ⟨G, _, hGn, hcap, rfl, hlike⟩
end
end Go.Proofs.Ythogcanomihelaa.Ae
