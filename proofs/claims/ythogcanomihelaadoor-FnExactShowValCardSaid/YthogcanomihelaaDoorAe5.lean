/- Each operation of the machine, held against its abstract one: the check, and that it is sound. -/
import Derived.Test.YthogcanomihelaaDoorAe4
set_option linter.unusedSimpArgs false
set_option linter.unusedVariables false
namespace Go.Proofs.YthogcanomihelaaDoor.Ae
open Go

/-! ### constants and types -/
def cst1 : Value → AV → Bool
  | .bool a, .bool b => a == b
  | .int k n, .int k' m => decide (k = k') && decide (n = m)
  | .string s, .str t => decide (s = t)
  | .pointer none, .nilp => true
  | .slice none 0 0, .imm true 0 [] => true
  | .nilFunc, .nilfn => true
  | .nilIface, .nilifc => true
  | _, _ => false
def cstL : List Value → List AV → Bool
  | [], [] => true
  | v :: r, a :: q => cst1 v a && cstL r q
  | _, _ => false
def cst : Value → AV → Bool
  | .agg cs, .agg az => cstL cs.toList az
  | v, a => cst1 v a
def szCk (P : Program) (t n : Nat) : Bool := match P.info? t with | some i => i.size == n | none => false
def byCk (P : Program) (t n : Nat) : Bool := match P.info? t with | some i => i.bytes == n | none => false
def aggCk (P : Program) (t : Nat) : Option Bool :=
  match P.underlying t with
  | some (.struct _) => some true
  | some (.array _ _) => some true
  | some _ => some false
  | none => none
def zeroCk (P : Program) (t : Nat) (z : List AV) : Bool :=
  match P.info? t with
  | some i => match i.zero with | some v => cstL v.cells.toList z | none => false
  | none => false
def slCk (P : Program) (t e : Nat) : Bool := match P.underlying t with | some (.slice e') => e' == e | _ => false
def strCk (P : Program) (t : Nat) : Bool := match P.underlying t with | some .string => true | _ => false
def placesOf (P : Program) (t : Nat) : Option (List (Nat × Nat)) :=
  match P.underlying t with
  | some (.struct fs) => fs.toList.mapM fun f => (P.info? f.type).map fun i => (f.offset, i.size)
  | _ => none
def fieldOf (P : Program) (t k : Nat) : Option Field := match P.underlying t with | some (.struct fs) => fs[k]? | _ => none

def ldCk (P : Program) (t : Nat) (n : Option Nat) : Bool := match aggCk P t, n with | some true, some n => szCk P t n | some false, none => true | _, _ => false
def cutCk (P : Program) (t sz : Nat) : Bool := match P.underlying t with | some (.slice e) => szCk P e sz && decide (0 < sz) | some .string => sz == 0 | _ => false
def fptrCk (P : Program) (t k off : Nat) : Bool := match fieldOf P t k with | some fd => fd.offset == off && (match P.info? fd.type with | some i => decide (i.size ≠ 0) | none => false) | none => false
def fldCk (P : Program) (t k off : Nat) (n : Option Nat) : Bool := match fieldOf P t k with | some fd => fd.offset == off && ldCk P fd.type n | none => false
def iptrCk (P : Program) (t sz : Nat) : Bool := match P.underlying t with | some (.slice e) => szCk P e sz && decide (0 < sz) | _ => false
def convCk (P : Program) (src dst : Nat) (k : IntKind) : Bool := (P.underlying src).isSome && (match P.underlying dst with | some (.int k') => decide (k = k') | _ => false)
def litCk (P : Program) (t n e sz : Nat) (z : List AV) : Bool := slCk P t e && szCk P e sz && zeroCk P e z && (z.length == sz) && decide (0 < sz) && decide (n * sz ≤ 16777216)
def nilCk (P : Program) (t k : Nat) (y : Operand) : Bool :=
  match k, P.underlying t, y with
  | 0, some (.slice _), .const (.slice none _ _) => true
  | 1, some (.pointer _), .const (.pointer none) => true
  | 2, some (.func _ _ _), .const .nilFunc => true
  | 3, some (.interface _), .const .nilIface => true
  | _, _, _ => false
section
variable (f : Operand → Opd → Bool)
def buildCk (ckB : List (Nat × Nat) → List (Nat × Operand) → List (Nat × Nat × Opd) → Bool) (P : Program) (t : Nat) (ps : List (Nat × Operand)) (qs : List (Nat × Nat × Opd)) : Bool := match placesOf P t with | some pl => ckB pl ps qs | none => false
def ckBuild (pl : List (Nat × Nat)) : List (Nat × Operand) → List (Nat × Nat × Opd) → Bool
  | [], [] => true
  | (i, x) :: r, (o, n, y) :: q => decide (pl[i]? = some (o, n)) && f x y && ckBuild pl r q
  | _, _ => false
def ckLit : List (Nat × Operand) → List (Nat × Opd) → Bool
  | [], [] => true
  | (i, x) :: r, (k, y) :: q => (i == k) && f x y && ckLit r q
  | _, _ => false
def ckList : List Operand → List Opd → Bool
  | [], [] => true
  | x :: r, y :: q => f x y && ckList r q
  | _, _ => false
def ckOpt : Option Operand → Option Opd → Bool
  | none, none => true
  | some x, some y => f x y
  | _, _ => false

def ckOp (P : Program) (o : Op) (a : AOp) : Bool :=
  match o, a with
  | .move x, .mov y => f x y
  | .assign x, .mov y => f x y
  | .pick c x y, .pick c' x' y' => f c c' && f x x' && f y y'
  | .alloc t, .alloc t' z => t == t' && zeroCk P t z
  | .box t x, .box t' n y => t == t' && szCk P t n && f x y
  | .build t ps, .build z qs => zeroCk P t z && buildCk (ckBuild f) P t ps.toList qs
  | .buildSlice t n ps, .lit e sz z qs _ _ =>
    litCk P t n e sz z && (qs.length == n) && ckLit f ps.toList qs
  | .load t x, .load n y => f x y && ldCk P t n
  | .store t x v, .store n y z => szCk P t n && f x y && f v z
  | .nilCheck x, .nilck y => f x y
  | .binOp op _ x y _, .bin op' x' y' => decide (op = op') && f x x' && f y y'
  | .unOp op _ x, .un op' y => decide (op = op') && f x y
  | .convert src dst x, .conv k y => convCk P src dst k && f x y
  | .slice t x lo hi mx, .slice sz y lo' hi' mx' =>
    cutCk P t sz && f x y && ckOpt f lo lo' && ckOpt f hi hi' && ckOpt f mx mx'
  | .fieldAddr t x k, .fptr off y => fptrCk P t k off && f x y
  | .field t x k, .fld off n y =>
    fldCk P t k off n && f x y
  | .indexAddr t x i, .iptr sz y j => iptrCk P t sz && f x y && f i j
  | .index t x i, .sidx y j => strCk P t && f x y && f i j
  | .makeSlice t n c, .mk e sz bytes z n' c' => slCk P t e && szCk P e sz && decide (0 < sz) && byCk P e bytes && decide (0 < bytes) && zeroCk P e z && f n n' && f c c'
  | .extract x i, .ext y j => (i == j) && f x y
  | .makeFunc fn az bs, .mkfn g az' bs' => (match fn with | .func h => h == g | _ => false) && ckList f az.toList az' && ckList f bs.toList bs'
  | .binOp op t x y _, .isnil k neg x' => decide (op = if neg then .neq else .eql) && nilCk P t k y && f x x'
  | .binOp op t x y _, .beq neg x' y' => decide (op = if neg then .neq else .eql) && (match P.underlying t with | some .bool => true | _ => false) && f x x' && f y y'
  | .convert src dst x, .b2s y => (match P.underlying src with | some (.slice e) => (match P.underlying e with | some (.int .u8) => true | _ => false) | _ => false) && strCk P dst && f x y
  | .makeInterface t x, .ifc t' y => (t == t') && P.concrete t && f x y
  | .convert src dst x, .convs y => (src == dst) && (match P.underlying src with | some (.slice e) => (match P.underlying e with | some (.int .u8) => true | _ => false) | _ => false) && f x y
  | .call c, .len st y => (match c.callee, c.args.toList, c.argTypes.toList with
    | .builtin .len, [x], [t] => f x y && (match P.underlying t with | some (.slice _) => !st | some .string => st | _ => false)
    | _, _, _ => false)
  | .call c, .app e sz bytes y z => (match c.callee, c.args.toList, c.argTypes.toList with
    | .builtin .append, [x, v], [t, u] => f x y && f v z && slCk P t e && szCk P e sz && decide (0 < sz) && byCk P e bytes && decide (0 < bytes) &&
        (match P.info? e with | some i => (match i.zero with | some zv => zv.cells.size == sz | none => false) | none => false) &&
        (match P.underlying u with | some (.slice _) => true | some .string => true | _ => false)
    | _, _, _ => false)
  | .call c, .clear sz z y => (match c.callee, c.args.toList, c.argTypes.toList with
    | .builtin .clear, [x], [t] => f x y && (match P.underlying t with | some (.slice e) => szCk P e sz && zeroCk P e z | _ => false)
    | _, _, _ => false)
  | .call c, .min y z => (match c.callee, c.args.toList with
    | .builtin .min, [x, v] => f x y && f v z
    | _, _ => false)
  | _, _ => false
end

section
variable {P : Program} {s : Store} {L : Nat → Nat → Loc} {C : Cs} {w : World}

theorem cst1_sound {v : Value} {a : AV} (h : cst1 v a = true) : VR s L C w a v := by
  unfold cst1 at h
  split at h
  · rw [beq_iff_eq] at h; subst h; exact .bool _
  · simp only [Bool.and_eq_true, decide_eq_true_eq] at h
    obtain ⟨rfl, rfl⟩ := h
    exact .int _ _
  · rw [decide_eq_true_eq] at h; subst h; exact .str _
  · exact .nilp
  · exact .imm true 0 [] none 0 0 0 (fun _ => default) ⟨Nat.le_refl _, fun h => absurd h (Nat.lt_irrefl _)⟩ (fun _ => ⟨rfl, fun h => absurd rfl h⟩) rfl (fun h => absurd rfl h) (fun j x h => by simp at h) fun j x h => by simp at h
  · exact .nilfn
  · exact .nilifc
  · cases h
theorem cstL_sound : ∀ {vs : List Value} {az : List AV}, cstL vs az = true → VRs s L C w az vs
  | [], [], _ => .nil
  | [], _ :: _, h => by simp [cstL] at h
  | _ :: _, [], h => by simp [cstL] at h
  | v :: r, a :: q, h => by
    simp only [cstL, Bool.and_eq_true] at h
    exact (VRs.one (cst1_sound h.1)).append (cstL_sound h.2)
theorem cst_sound {v : Value} {a : AV} (h : cst v a = true) : VR s L C w a v := by
  unfold cst at h
  split at h
  · exact (cstL_sound h).agg
  · exact cst1_sound h
theorem zeroCk_sound {t : Nat} {z : List AV} (h : zeroCk P t z = true) : ∃ i v, P.info? t = some i ∧ i.zero = some v ∧ VRs s L C w z v.cells.toList := by
  unfold zeroCk at h
  split at h
  · rename_i i hi
    split at h
    · rename_i v hv
      exact ⟨i, v, hi, hv, cstL_sound h⟩
    · cases h
  · cases h
theorem szCk_sound {t n : Nat} (h : szCk P t n = true) : ∃ i, P.info? t = some i ∧ i.size = n := by
  unfold szCk at h
  split at h
  · rename_i i hi; exact ⟨i, hi, by simpa using h⟩
  · cases h
theorem byCk_sound {t n : Nat} (h : byCk P t n = true) : ∃ i, P.info? t = some i ∧ i.bytes = n := by
  unfold byCk at h
  split at h
  · rename_i i hi; exact ⟨i, hi, by simpa using h⟩
  · cases h
theorem slCk_sound {t e : Nat} (h : slCk P t e = true) : P.underlying t = some (.slice e) := by
  unfold slCk at h
  split at h
  · rename_i e' he; rw [he]; simp at h; rw [h]
  · cases h
theorem run_sizeOf {t n : Nat} (h : szCk P t n = true) (w : World) : (sizeOf t).run P w = .ok n w := by
  obtain ⟨i, hi, rfl⟩ := szCk_sound h
  simp [sizeOf, typeInfo, hi]
theorem run_isAgg {t : Nat} {b : Bool} (h : aggCk P t = some b) (w : World) : (isAgg t).run P w = .ok b w := by
  unfold aggCk at h
  split at h
  · rename_i hu; simp [isAgg, run_underlying hu, ← Option.some.inj h]
  · rename_i hu; simp [isAgg, run_underlying hu, ← Option.some.inj h]
  · rename_i d h1 h2 hu
    obtain rfl := Option.some.inj h
    simp only [isAgg, Sem.run_bind, run_underlying hu, Result.andThen_ok]
    cases d <;> first | rfl | (exact absurd hu (h1 _)) | (exact absurd hu (h2 _ _))
  · cases h

/-- What an operation comes to. -/
def Runs (P : Program) (s : Store) (L : Nat → Nat → Loc) (C : Cs) (w : World) (x : Sem Next) (s' : Store) (v : AV) : Prop :=
  ∃ L' C' w' nx val, x.run P w = .ok nx w' ∧ (nx = .value val ∨ (nx = .skip ∧ val = Go.undef)) ∧ VR s' L' C' w' v val ∧ SR s' L' C' w' ∧ Ext (s.low.length + 1) s L C w s' L' C' w'
theorem Runs.same {x : Sem Next} {v : AV} {val : Value} (hR : SR s L C w) (hx : x.run P w = .ok (.value val) w) (hv : VR s L C w v val) : Runs P s L C w x s v :=
  ⟨L, C, w, _, val, hx, .inl rfl, hv, hR, Ext.refl _⟩
theorem run_value {m : Sem Value} {val : Value} {w' : World} (h : m.run P w = .ok val w') : (do pure (Next.value (← m)) : Sem Next).run P w = .ok (.value val) w' := by simp [h]

/-! ### loads and stores -/
theorem run_load {t : Nat} {n : Option Nat} {p v : AV} {u : Value} (hR : SR s L C w) (hp : VR s L C w p u) (hl : loadV s n p = some v)
    (hck : ldCk P t n = true) : ∃ val, (Instr.loadAt t u).run P w = .ok val w ∧ VR s L C w v val := by
  obtain ⟨cs, h1, h2, h3⟩ := loadV_cells hl
  obtain ⟨us, h4, ad, rfl, h5⟩ := cellsFrom_sound hR hp h1
  unfold ldCk at hck
  cases n with
  | some n =>
    cases ha : aggCk P t with
    | none => simp [ha] at hck
    | some q =>
      cases q with
      | false => simp [ha] at hck
      | true =>
        simp only [ha] at hck
        obtain ⟨hn, rfl⟩ := h3 n rfl
        have hlen : us.length = cs.length := h4.1
        have hrow : ∀ (j : Nat) v, (us.take n)[j]? = some v → w.cell? (ad.add j) = some v := by
          intro j v hv
          have hne : us ≠ [] := by rintro rfl; simp at hv
          obtain ⟨b, o, rfl, h6⟩ := h5 hne
          rw [add_lit']
          exact h6.take n j v hv
        have hr := run_loadCells_list (P := P) w ad (us.take n) hrow
        rw [show (us.take n).length = n by rw [List.length_take]; omega] at hr
        refine ⟨.agg (us.take n).toArray, ?_, (h4.take n).agg⟩
        simp [Instr.loadAt, Instr.sureAddr, loadVar, run_isAgg ha, run_sizeOf hck, hr]
  | none =>
    cases ha : aggCk P t with
    | none => simp [ha] at hck
    | some q =>
      cases q with
      | true => simp [ha] at hck
      | false =>
        obtain ⟨u, hu, hv⟩ := h4.get (h2 rfl)
        have hne : us ≠ [] := by rintro rfl; simp at hu
        obtain ⟨b, o, rfl, h6⟩ := h5 hne
        have hc := h6 0 u hu
        rw [Nat.add_zero] at hc
        refine ⟨u, ?_, hv⟩
        simp [Instr.loadAt, Instr.sureAddr, loadVar, run_isAgg ha, hc]

theorem splice_length {α : Type} (cs ys : List α) (off : Nat) (h : off + ys.length ≤ cs.length) : (cs.take off ++ ys ++ cs.drop (off + ys.length)).length = cs.length := by
  simp only [List.length_append, List.length_take, List.length_drop]
  omega
theorem cellsOk_splice {D : Nat} {cs ys : List AV} (h : cellsOk D cs = true) (hy : cellsOk D ys = true) (a b : Nat) : cellsOk D (cs.take a ++ ys ++ cs.drop b) = true :=
  cellsOk_append.2 ⟨cellsOk_append.2 ⟨cellsOk_take h a, hy⟩, cellsOk_drop h b⟩

/-- Cells of a box that are written. -/
theorem SR.setBox {d i t off : Nat} {cs ys : List AV} {us : List Value} (h : SR s L C w) (hg : s.get d i = some (.box t cs)) (hy : VRs s L C w ys us) (hok : cellsOk (d + 1) ys = true) (hb : off + ys.length ≤ cs.length)
    (vs : List Value) (hvs : w.heap[(L d i).blk]? = some (.cells vs.toArray t (0, 0))) (hvr : VRs s L C w cs vs) :
    Ext (s.low.length + 1) s L C w (s.set d i (.box t (cs.take off ++ ys ++ cs.drop (off + ys.length)))) L C (w.setRow (L d i).blk (vs.take off ++ us ++ vs.drop (off + us.length)).toArray) ∧
      SR (s.set d i (.box t (cs.take off ++ ys ++ cs.drop (off + ys.length)))) L C (w.setRow (L d i).blk (vs.take off ++ us ++ vs.drop (off + us.length)).toArray) := by
  obtain ⟨hok0, hnc, _⟩ := h.obj d i _ hg
  have hL : upd L d i (L d i) = L := by
    funext a b
    unfold upd
    split
    · rename_i hq; rw [hq.1, hq.2]
    · rfl
  have key := h.turn (W := w.setRow (L d i).blk (vs.take off ++ us ++ vs.drop (off + us.length)).toArray) (C' := C) (l := L d i) (o' := .box t (cs.take off ++ ys ++ cs.drop (off + ys.length))) hg ⟨rfl, rfl⟩ rfl rfl rfl (by simp)
    (fun b _ hn => setRow_other w _ _ _ (hn (.inl ⟨t, cs, hg⟩))) (fun _ _ h => h) (fun _ _ h => .inl h)
    (fun b q hc => cell_setRow_other w _ _ _ (by rintro rfl; exact hnc _ hc))
    (fun b q hc => by
      obtain ⟨v, hv⟩ := h.cok b q hc
      exact ⟨v, by rw [cell_setRow_other w _ _ _ (by rintro rfl; exact hnc _ hc)]; exact hv⟩)
    (fun _ => .inl ⟨.inl ⟨t, cs, hg⟩, rfl⟩)
    (fun hE => ⟨cellsOk_splice hok0 hok _ _, by rw [upd_same]; exact hnc, _, by rw [upd_same]; exact setRow_heap w _ _ _ _ _ hvs, by
      refine (((hvr.take off).append hy).append ?_).keep hE
      rw [hy.1]
      exact hvr.drop _⟩)
  rw [hL] at key
  exact key

/-- Cells of an array that are written. -/
theorem SR.setArr {d i e sz ver pr off : Nat} {cs ys : List AV} {us : List Value} (h : SR s L C w) (hg : s.get d i = some (.arr e sz cs ver pr)) (hm : 0 < (L d i).lim) (hy : VRs s L C w ys us) (hok : cellsOk (d + 1) ys = true)
    (hb : off + ys.length ≤ cs.length) (hpr : pr ≤ off) (vs : List Value) (hvs : w.heap[(L d i).blk]? = some (.cells vs.toArray e (0, 0))) (hlim : (L d i).lim ≤ vs.length)
    (hvr : ∀ (j : Nat) x y, cs[j]? = some x → vs[(L d i).base + j]? = some y → VR s L C w x y) (hbase : (L d i).base + cs.length ≤ (L d i).lim) :
    Ext (s.low.length + 1) s L C w (s.set d i (.arr e sz (cs.take off ++ ys ++ cs.drop (off + ys.length)) ver pr)) L C (w.setRow (L d i).blk (vs.take ((L d i).base + off) ++ us ++ vs.drop ((L d i).base + off + us.length)).toArray) ∧
      SR (s.set d i (.arr e sz (cs.take off ++ ys ++ cs.drop (off + ys.length)) ver pr)) L C (w.setRow (L d i).blk (vs.take ((L d i).base + off) ++ us ++ vs.drop ((L d i).base + off + us.length)).toArray) := by
  obtain ⟨hsz, hok0, h2⟩ := h.obj d i _ hg
  have hnc : ∀ o, (L d i).base + pr ≤ o → o < (L d i).lim → ¬ C (L d i).blk o := by
    rcases h2 with ⟨h2, _⟩ | ⟨_, h2, _⟩
    · omega
    · exact h2
  have hL : upd L d i (L d i) = L := by
    funext a b
    unfold upd
    split
    · rename_i hq; rw [hq.1, hq.2]
    · rfl
  have hul : us.length = ys.length := hy.1
  have hcell : ∀ b q, C b q → (w.setRow (L d i).blk (vs.take ((L d i).base + off) ++ us ++ vs.drop ((L d i).base + off + us.length)).toArray).cell? ⟨b, q, none⟩ = w.cell? ⟨b, q, none⟩ := by
    intro b q hc
    by_cases hbb : b = (L d i).blk
    · subst hbb
      rw [cell_setRow_same w _ _ _ _ _ _ hvs, cell_of_heap hvs]
      simp only [List.getElem?_toArray]
      have hlen : (vs.take ((L d i).base + off)).length = (L d i).base + off := by rw [List.length_take]; omega
      rcases Nat.lt_or_ge q ((L d i).base + off) with h1 | h1
      · rw [List.append_assoc, List.getElem?_append_left (by omega), List.getElem?_take, if_pos h1]
      · rcases Nat.lt_or_ge q ((L d i).base + off + us.length) with h3 | h3
        · exact absurd hc (hnc q (by omega) (by omega))
        · rw [List.getElem?_append_right (by rw [List.length_append]; omega), List.getElem?_drop, List.length_append, hlen]
          congr 1
          omega
    · exact cell_setRow_other w _ _ _ hbb
  have key := h.turn (W := w.setRow (L d i).blk (vs.take ((L d i).base + off) ++ us ++ vs.drop ((L d i).base + off + us.length)).toArray) (C' := C) (l := L d i)
    (o' := .arr e sz (cs.take off ++ ys ++ cs.drop (off + ys.length)) ver pr) hg ⟨rfl, rfl, Nat.le_refl _, fun _ => rfl⟩ rfl rfl rfl (by simp)
    (fun b _ hn => setRow_other w _ _ _ (hn (.inr ⟨e, sz, cs, ver, pr, hg, hm⟩))) (fun _ _ h => h) (fun _ _ h => .inl h) hcell
    (fun b q hc => by
      obtain ⟨v, hv⟩ := h.cok b q hc
      exact ⟨v, by rw [hcell b q hc]; exact hv⟩)
    (fun _ => .inl ⟨.inr ⟨e, sz, cs, ver, pr, hg, hm⟩, rfl⟩)
    (fun hE => ⟨hsz, cellsOk_splice hok0 hok _ _, by
      rw [upd_same]
      refine .inr ⟨hm, hnc, by rw [splice_length _ _ _ hb]; exact hbase, _, setRow_heap w _ _ _ _ _ hvs, by rw [splice_length _ _ _ (by omega)]; exact hlim, ?_⟩
      intro j x y hx hyy
      have hlen : (cs.take off).length = off := by rw [List.length_take]; omega
      have hlen' : (vs.take ((L d i).base + off)).length = (L d i).base + off := by rw [List.length_take]; omega
      rcases Nat.lt_or_ge j off with h1 | h1
      · rw [List.append_assoc, List.getElem?_append_left (by omega), List.getElem?_take, if_pos h1] at hx
        rw [List.append_assoc, List.getElem?_append_left (by omega), List.getElem?_take, if_pos (by omega)] at hyy
        exact (hvr j x y hx hyy).keep hE
      · rcases Nat.lt_or_ge j (off + ys.length) with h3 | h3
        · rw [List.append_assoc, List.getElem?_append_right (by omega), List.getElem?_append_left (by omega), hlen] at hx
          rw [List.append_assoc, List.getElem?_append_right (by omega), List.getElem?_append_left (by omega), hlen'] at hyy
          rw [show (L d i).base + j - ((L d i).base + off) = j - off by omega] at hyy
          exact (hy.2 _ x y hx hyy).keep hE
        · rw [List.getElem?_append_right (by rw [List.length_append]; omega), List.length_append, hlen, List.getElem?_drop] at hx
          rw [List.getElem?_append_right (by rw [List.length_append]; omega), List.length_append, hlen', List.getElem?_drop] at hyy
          rw [show off + ys.length + (j - (off + ys.length)) = j by omega] at hx
          rw [show (L d i).base + off + us.length + ((L d i).base + j - ((L d i).base + off + us.length)) = (L d i).base + j by omega] at hyy
          exact (hvr j x y hx hyy).keep hE⟩)
  rw [hL] at key
  exact key

theorem run_store {t n : Nat} {p x : AV} {u v : Value} {s' : Store} (hR : SR s L C w) (hp : VR s L C w p u) (hx : VR s L C w x v) (hl : storeV s n p x = some s') (hck : szCk P t n = true) :
    ∃ w', (Instr.storeAt t u v).run P w = .ok () w' ∧ SR s' L C w' ∧ Ext (s.low.length + 1) s L C w s' L C w' := by
  unfold storeV at hl
  cases hp <;> try (simp at hl; done)
  case ptr d i off t' cs hg =>
    simp only [hg] at hl
    split at hl
    · rename_i hq
      obtain ⟨hok, hlen, hb⟩ := hq
      obtain rfl := Option.some.inj hl
      obtain ⟨us, hus, hvr⟩ := hx.cells (cellsOk_cells hok)
      obtain ⟨vs, hvs, _, hheap⟩ := box_row hR hg
      subst hlen
      have hul : us.length = x.cells.length := hvr.1
      have hvl : vs.length = cs.length := hvs.1
      obtain ⟨hE, hS⟩ := hR.setBox hg hvr hok hb vs hheap hvs
      have hst := run_storeCells_at P (L d i).blk off t' us 0 vs.toArray w hheap (by simp; omega) (hvr.one_all (cellsOk_cells hok))
      simp only [Nat.add_zero] at hst
      refine ⟨_, ?_, hS, hE⟩
      have hns : ¬ (us.toArray.size ≠ x.cells.length) := by simp [hul]
      simp only [Instr.storeAt, Instr.sureAddr, storeVar, Sem.run_bind, Sem.run_pure, Result.andThen_ok, run_sizeOf hck, hus]
      rw [if_neg hns]
      simpa using hst
    · cases hl
  case aptr d i off ver e sz cs ver' pr hg hv hs hr =>
    simp only [hg] at hl
    split at hl
    · rename_i hq
      obtain ⟨hok, hlen, hb, hver, hpr⟩ := hq
      obtain rfl := Option.some.inj hl
      obtain ⟨us, hus, hvr⟩ := hx.cells (cellsOk_cells hok)
      obtain rfl := hr hver
      subst hlen
      have hul : us.length = x.cells.length := hvr.1
      obtain ⟨_, _, h2⟩ := hR.obj d i _ hg
      rcases Nat.eq_zero_or_pos (L d i).lim with h0 | h0
      · -- nothing is written
        rcases h2 with ⟨_, hb0, rfl⟩ | ⟨h2, _⟩
        · have hz : x.cells = [] := List.eq_nil_of_length_eq_zero (by have hb' := hb; simp only [List.length_nil] at hb'; omega)
          have huz : us = [] := List.eq_nil_of_length_eq_zero (by rw [hul, hz]; rfl)
          have hset : s.set d i (.arr e sz ((([] : List AV).take off) ++ x.cells ++ ([] : List AV).drop (off + x.cells.length)) ver' pr) = s.set d i (.arr e sz [] ver' pr) := by rw [hz]; simp
          have hL : upd L d i (L d i) = L := by
            funext a b
            unfold upd
            split
            · rename_i hq; rw [hq.1, hq.2]
            · rfl
          have key := hR.turn (W := w) (C' := C) (l := L d i) (o' := .arr e sz [] ver' pr) hg ⟨rfl, rfl, Nat.le_refl _, fun _ => rfl⟩ rfl rfl rfl (Nat.le_refl _)
            (fun _ _ _ => rfl) (fun _ _ h => h) (fun _ _ h => .inl h) (fun _ _ _ => rfl) (fun b q hc => hR.cok b q hc)
            (fun hm => by
              rcases hm with ⟨t, c, hm⟩ | ⟨e', sz', c, v', p', hm, hlm⟩
              · rw [get_set s hg] at hm; cases hm
              · rw [upd_same] at hlm; omega)
            (fun hE => by
              obtain ⟨g0, g1, _⟩ := hR.obj d i _ hg
              exact ⟨g0, rfl, .inl ⟨by rw [upd_same]; exact h0, by rw [upd_same]; exact hb0, rfl⟩⟩)
          rw [hL] at key
          rw [hset]
          refine ⟨w, ?_, key.2, key.1⟩
          have hns : ¬ (us.toArray.size ≠ x.cells.length) := by simp [hul]
          simp only [Instr.storeAt, Instr.sureAddr, storeVar, Sem.run_bind, Sem.run_pure, Result.andThen_ok, run_sizeOf hck, hus]
          rw [if_neg hns, huz]
          rfl
        · omega
      · rcases h2 with ⟨h2, _⟩ | ⟨_, _, hbase, vs, hheap, hlim, hrel⟩
        · omega
        obtain ⟨hE, hS⟩ := hR.setArr hg h0 hvr hok hb hpr vs hheap hlim hrel hbase
        have hst := run_storeCells_at P (L d i).blk ((L d i).base + off) e us 0 vs.toArray w hheap (by simp; omega) (hvr.one_all (cellsOk_cells hok))
        simp only [Nat.add_zero] at hst
        refine ⟨_, ?_, hS, hE⟩
        have hns : ¬ (us.toArray.size ≠ x.cells.length) := by simp [hul]
        simp only [Instr.storeAt, Instr.sureAddr, storeVar, Sem.run_bind, Sem.run_pure, Result.andThen_ok, run_sizeOf hck, hus]
        rw [if_neg hns]
        simpa using hst
    · cases hl
end
end Go.Proofs.YthogcanomihelaaDoor.Ae
