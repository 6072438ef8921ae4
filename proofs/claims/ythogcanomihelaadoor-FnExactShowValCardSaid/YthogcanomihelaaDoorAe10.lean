/- Every operation that is no call, together. -/
import Derived.Test.YthogcanomihelaaDoorAe9
set_option linter.unusedSimpArgs false
set_option linter.unusedVariables false
namespace Go.Proofs.YthogcanomihelaaDoor.Ae
open Go
section
variable {P : Program} {s : Store} {L : Nat → Nat → Loc} {C : Cs} {w : World}

theorem bin_sound {op : BinOp} {t : Nat} {xo yo : Operand} {x y v : AV} {ux uy : Value} (hx : VR s L C w x ux) (hy : VR s L C w y uy) (h : binV op x y = some v) :
    ∃ val, (do eqGuard op t xo yo ux uy; binOp op t ux uy : Sem Value).run P w = .ok val w ∧ VR s L C w v val := by
  cases hx <;> try (simp [binV] at h; done)
  case int k a =>
    cases hy <;> try (simp [binV] at h; done)
    case int k' b =>
      have hg : (eqGuard op t xo yo (.int k a) (.int k' b)).run P w = .ok () w := by cases op <;> rfl
      simp only [Sem.run_bind, hg, Result.andThen_ok]
      cases op <;> simp only [binV] at h
      case shl =>
        split at h
        · cases h
        · rename_i hb
          obtain rfl := Option.some.inj h
          exact ⟨_, by simp [binOp, Op.shift, hb], .int _ _⟩
      case shr =>
        split at h
        · cases h
        · rename_i hb
          obtain rfl := Option.some.inj h
          exact ⟨_, by simp [binOp, Op.shift, hb], .int _ _⟩
      all_goals
        split at h
        · rename_i hk
          subst hk
          simp only [binI] at h
          first
            | (obtain rfl := Option.some.inj h
               first
                 | exact ⟨.int k _, by (first | (simp [binOp, Op.intArith]; done) | (simp [binOp]; rfl) | rfl), .int _ _⟩
                 | exact ⟨.bool _, by (first | (simp [binOp, Op.intCmp]; done) | (simp [binOp]; rfl)), .bool _⟩)
            | (split at h
               · cases h
               · rename_i hb
                 obtain rfl := Option.some.inj h
                 exact ⟨_, by simp [binOp, Op.intDiv, hb], .int _ _⟩)
        · cases h
  case str a =>
    cases hy <;> try (simp [binV] at h; done)
    case str b =>
      have hg : (eqGuard op t xo yo (.string a) (.string b)).run P w = .ok () w := by cases op <;> rfl
      simp only [Sem.run_bind, hg, Result.andThen_ok]
      cases op <;> simp only [binV, binS] at h <;> try (cases h; done)
      case add =>
        split at h
        · cases h
        · rename_i hb
          obtain rfl := Option.some.inj h
          exact ⟨_, by simp only [binOp, Op.stringOp]; rw [if_neg hb]; rfl, .str _⟩
      case eql => obtain rfl := Option.some.inj h; exact ⟨_, by simp [binOp, Op.stringOp], .bool _⟩
      case neq => obtain rfl := Option.some.inj h; exact ⟨_, by simp [binOp, Op.stringOp], .bool _⟩

theorem ckOpt_sound {f : Operand → Opd → Bool} {ρC : Operand → Value} {ρA : Opd → AV} (hρ : ∀ x y, f x y = true → VR s L C w (ρA y) (ρC x)) {a : Option Operand} {b : Option Opd} (h : ckOpt f a b = true) : VO s L C w (b.map ρA) (a.map ρC) := by
  cases a <;> cases b <;> simp [ckOpt] at h
  · trivial
  · exact hρ _ _ h
theorem ckList_sound {f : Operand → Opd → Bool} {ρC : Operand → Value} {ρA : Opd → AV} (hρ : ∀ x y, f x y = true → VR s L C w (ρA y) (ρC x)) : ∀ {a : List Operand} {b : List Opd}, ckList f a b = true → VRs s L C w (b.map ρA) (a.map ρC)
  | [], [], _ => .nil
  | [], _ :: _, h => by simp [ckList] at h
  | _ :: _, [], h => by simp [ckList] at h
  | x :: r, y :: q, h => by
    simp only [ckList, Bool.and_eq_true] at h
    exact (VRs.one (hρ x y h.1)).append (ckList_sound hρ h.2)

theorem run_same {o : Oper} {ρC : Operand → Value} {v v' : AV} {s' : Store} (hR : SR s L C w) {x : Sem Value} {val : Value} (he : execOp ρC o = (do pure (Next.value (← x)))) (hx : x.run P w = .ok val w) (hv : VR s L C w v' val) (hq : some (v', s) = some (v, s')) : Runs P s L C w (execOp ρC o) s' v := by
  simp only [Option.some.injEq, Prod.mk.injEq] at hq
  obtain ⟨rfl, rfl⟩ := hq
  rw [he]
  exact .same hR (run_value hx) hv
theorem run_made {o : Oper} {ρC : Operand → Value} {v : AV} {s' : Store} {x : Sem Value} (he : execOp ρC o = (do pure (Next.value (← x))))
    (h : ∃ L' C' w' val, x.run P w = .ok val w' ∧ VR s' L' C' w' v val ∧ SR s' L' C' w' ∧ Ext (s.low.length + 1) s L C w s' L' C' w') : Runs P s L C w (execOp ρC o) s' v := by
  obtain ⟨L', C', w', val, h1, h2, h3, h4⟩ := h
  rw [he]
  exact ⟨L', C', w', _, val, run_value h1, .inl rfl, h2, h3, h4⟩

section
variable {f : Operand → Opd → Bool} {ρC : Operand → Value} {ρA : Opd → AV} {o : Oper} {v : AV} {s' : Store}
theorem op_move {x : Operand} {y : Opd} (hR : SR s L C w) (hρ : ∀ x y, f x y = true → VR s L C w (ρA y) (ρC x)) (ho : o.op = .move x) (hck : f x y = true) (hev : evOp (.mov y) ρA s = some (v, s')) : Runs P s L C w (execOp ρC o) s' v := by
  simp only [evOp, Option.some.injEq, Prod.mk.injEq] at hev
  obtain ⟨rfl, rfl⟩ := hev
  exact .same hR (by simp [execOp, ho]) (hρ _ _ hck)
theorem op_assign {x : Operand} {y : Opd} (hR : SR s L C w) (hρ : ∀ x y, f x y = true → VR s L C w (ρA y) (ρC x)) (ho : o.op = .assign x) (hck : f x y = true) (hev : evOp (.mov y) ρA s = some (v, s')) : Runs P s L C w (execOp ρC o) s' v := by
  simp only [evOp, Option.some.injEq, Prod.mk.injEq] at hev
  obtain ⟨rfl, rfl⟩ := hev
  exact .same hR (by simp [execOp, ho]) (hρ _ _ hck)
theorem op_pick {c x y : Operand} {c' x' y' : Opd} (hR : SR s L C w) (hρ : ∀ x y, f x y = true → VR s L C w (ρA y) (ρC x)) (ho : o.op = .pick c x y) (hck : (f c c' && f x x' && f y y') = true) (hev : evOp (.pick c' x' y') ρA s = some (v, s')) : Runs P s L C w (execOp ρC o) s' v := by
  simp only [Bool.and_eq_true] at hck
  have hc := hρ _ _ hck.1.1
  simp only [evOp] at hev
  split at hev
  · rename_i t ht
    rw [ht] at hc
    generalize hcv : ρC c = cv at hc
    cases hc
    simp only [Option.some.injEq, Prod.mk.injEq] at hev
    obtain ⟨rfl, rfl⟩ := hev
    refine .same (val := if t = true then ρC x else ρC y) hR (by simp [execOp, ho, hcv, asBool]) ?_
    cases t
    · exact hρ _ _ hck.2
    · exact hρ _ _ hck.1.2
  · cases hev
theorem op_alloc {t t' : Nat} {z : List AV} (hR : SR s L C w) (hρ : ∀ x y, f x y = true → VR s L C w (ρA y) (ρC x)) (ho : o.op = .alloc t) (hck : (t == t' && zeroCk P t z) = true) (hev : evOp (.alloc t' z) ρA s = some (v, s')) : Runs P s L C w (execOp ρC o) s' v := by
  simp only [Bool.and_eq_true, beq_iff_eq] at hck
  obtain ⟨rfl, hz⟩ := hck
  obtain ⟨i, zv, hi, hzv, hvr⟩ := zeroCk_sound (s := s) (L := L) (C := C) (w := w) hz
  simp only [evOp] at hev
  obtain ⟨L', h1, h2, h3⟩ := newBox_sound hR hvr hev (pushed_alloc w _)
  refine run_made (x := Instr.alloc t true (.tuple #[])) (by simp [execOp, ho]) ⟨L', C, _, _, ?_, h1, h2, h3⟩
  simp [Instr.alloc, zeroValue, typeInfo, hi, hzv, newVar, newRow]
theorem op_box {t t' n : Nat} {x : Operand} {y : Opd} (hR : SR s L C w) (hρ : ∀ x y, f x y = true → VR s L C w (ρA y) (ρC x)) (ho : o.op = .box t x) (hck : (t == t' && szCk P t n && f x y) = true) (hev : evOp (.box t' n y) ρA s = some (v, s')) : Runs P s L C w (execOp ρC o) s' v := by
  simp only [Bool.and_eq_true, beq_iff_eq] at hck
  obtain ⟨⟨rfl, hs⟩, hf⟩ := hck
  simp only [evOp] at hev
  split at hev
  · rename_i hn
    have hok : cellsOk (s.low.length + 1) (ρA y).cells = true := by
      unfold newBox at hev
      split at hev
      · assumption
      · cases hev
    obtain ⟨us, hu1, hu2⟩ := (hρ _ _ hf).cells (cellsOk_cells hok)
    obtain ⟨L', h1, h2, h3⟩ := newBox_sound hR hu2 hev (pushed_alloc w _)
    refine run_made (x := Instr.box t (ρC x)) (by simp [execOp, ho]) ⟨L', C, _, _, ?_, h1, h2, h3⟩
    simp [Instr.box, newVar, newRow, hu1]
  · cases hev
theorem op_build {t : Nat} {ps : Array (Nat × Operand)} {z : List AV} {qs : List (Nat × Nat × Opd)} (hR : SR s L C w) (hρ : ∀ x y, f x y = true → VR s L C w (ρA y) (ρC x)) (ho : o.op = .build t ps) (hck : (zeroCk P t z && buildCk (ckBuild f) P t ps.toList qs) = true) (hev : evOp (.build z qs) ρA s = some (v, s')) : Runs P s L C w (execOp ρC o) s' v := by
  simp only [Bool.and_eq_true] at hck
  simp only [evOp] at hev
  obtain ⟨l, hl, hev⟩ := bind_some hev
  obtain ⟨cs, hcs, hev⟩ := bind_some hev
  obtain ⟨vs, h1, h2⟩ := build_sound (P := P) hρ hck.1 hck.2 hl hcs
  exact run_same hR (x := Instr.build t (ps.map fun (i, x) => (i, ρC x))) (by simp [execOp, ho]) h1 h2.agg hev
theorem op_buildSlice {t n e sz : Nat} {ps : Array (Nat × Operand)} {z : List AV} {qs : List (Nat × Opd)} {arr fz : Bool} (hR : SR s L C w) (hρ : ∀ x y, f x y = true → VR s L C w (ρA y) (ρC x)) (ho : o.op = .buildSlice t n ps) (hck : (litCk P t n e sz z && (qs.length == n) && ckLit f ps.toList qs) = true) (hev : evOp (.lit e sz z qs arr fz) ρA s = some (v, s')) : Runs P s L C w (execOp ρC o) s' v := by
  simp only [Bool.and_eq_true, beq_iff_eq] at hck
  obtain ⟨⟨h1, h2⟩, h3⟩ := hck
  have key := lit_sound (P := P) hR hρ h1 h2 h3 hev
  refine run_made ?_ key
  unfold execOp
  rw [ho]
theorem op_load {t : Nat} {x : Operand} {n : Option Nat} {y : Opd} (hR : SR s L C w) (hρ : ∀ x y, f x y = true → VR s L C w (ρA y) (ρC x)) (ho : o.op = .load t x) (hck : (f x y && ldCk P t n) = true) (hev : evOp (.load n y) ρA s = some (v, s')) : Runs P s L C w (execOp ρC o) s' v := by
  simp only [Bool.and_eq_true] at hck
  simp only [evOp] at hev
  obtain ⟨v', hv', hev⟩ := bind_some hev
  obtain ⟨val, h1, h2⟩ := run_load (P := P) hR (hρ _ _ hck.1) hv' hck.2
  exact run_same hR (x := Instr.loadAt t (ρC x)) (by simp [execOp, ho]) h1 h2 hev
theorem op_store {t n : Nat} {x v0 : Operand} {y z : Opd} (hR : SR s L C w) (hρ : ∀ x y, f x y = true → VR s L C w (ρA y) (ρC x)) (ho : o.op = .store t x v0) (hck : (szCk P t n && f x y && f v0 z) = true) (hev : evOp (.store n y z) ρA s = some (v, s')) : Runs P s L C w (execOp ρC o) s' v := by
  simp only [Bool.and_eq_true] at hck
  simp only [evOp] at hev
  obtain ⟨s2, hs2, hev⟩ := bind_some hev
  simp only [Option.some.injEq, Prod.mk.injEq] at hev
  obtain ⟨rfl, rfl⟩ := hev
  obtain ⟨w', h1, h2, h3⟩ := run_store (P := P) hR (hρ _ _ hck.1.2) (hρ _ _ hck.2) hs2 hck.1.1
  exact ⟨L, C, w', .skip, Go.undef, by simp [execOp, ho, h1], .inr ⟨rfl, rfl⟩, .undef _, h2, h3⟩
theorem op_nilCheck {x : Operand} {y : Opd} (hR : SR s L C w) (hρ : ∀ x y, f x y = true → VR s L C w (ρA y) (ρC x)) (ho : o.op = .nilCheck x) (hck : f x y = true) (hev : evOp (.nilck y) ρA s = some (v, s')) : Runs P s L C w (execOp ρC o) s' v := by
  have hx := hρ _ _ hck
  simp only [evOp] at hev
  generalize hxv : ρC x = u at hx
  split at hev
  · rename_i hq
    rw [hq] at hx hev
    simp only [Option.some.injEq, Prod.mk.injEq] at hev
    obtain ⟨rfl, rfl⟩ := hev
    cases hx with
    | ptr d i off t cs h => exact .same hR (by simp [execOp, ho, hxv]) (.ptr _ _ _ _ _ h)
  · rename_i hq
    rw [hq] at hx hev
    simp only [Option.some.injEq, Prod.mk.injEq] at hev
    obtain ⟨rfl, rfl⟩ := hev
    have hx0 := hx
    cases hx with
    | aptr d i off ver e sz cs ver' pr v h hv hs hc =>
      obtain ⟨a, rfl⟩ := hs
      exact .same hR (by simp [execOp, ho, hxv]) hx0
  · rename_i hq
    rw [hq] at hx hev
    simp only [Option.some.injEq, Prod.mk.injEq] at hev
    obtain ⟨rfl, rfl⟩ := hev
    have hx0 := hx
    cases hx with
    | eptr cs a b o u hA hok hc hr => exact .same hR (by simp [execOp, ho, hxv]) hx0
  · cases hev
theorem op_binOp {op op' : BinOp} {t ty : Nat} {x y : Operand} {x' y' : Opd} (hR : SR s L C w) (hρ : ∀ x y, f x y = true → VR s L C w (ρA y) (ρC x)) (ho : o.op = .binOp op t x y ty) (hck : (decide (op = op') && f x x' && f y y') = true) (hev : evOp (.bin op' x' y') ρA s = some (v, s')) : Runs P s L C w (execOp ρC o) s' v := by
  simp only [Bool.and_eq_true, decide_eq_true_eq] at hck
  obtain ⟨⟨rfl, h1⟩, h2⟩ := hck
  simp only [evOp] at hev
  obtain ⟨v', hv', hev⟩ := bind_some hev
  obtain ⟨val, h3, h4⟩ := bin_sound (P := P) (t := t) (xo := x) (yo := y) (hρ _ _ h1) (hρ _ _ h2) hv'
  exact run_same hR (x := do eqGuard op t x y (ρC x) (ρC y); binOp op t (ρC x) (ρC y)) (by simp [execOp, ho]) h3 h4 hev
theorem op_unOp {op op' : UnOp} {t : Nat} {x : Operand} {y : Opd} (hR : SR s L C w) (hρ : ∀ x y, f x y = true → VR s L C w (ρA y) (ρC x)) (ho : o.op = .unOp op t x) (hck : (decide (op = op') && f x y) = true) (hev : evOp (.un op' y) ρA s = some (v, s')) : Runs P s L C w (execOp ρC o) s' v := by
  simp only [Bool.and_eq_true, decide_eq_true_eq] at hck
  obtain ⟨rfl, h1⟩ := hck
  simp only [evOp] at hev
  obtain ⟨v', hv', hev⟩ := bind_some hev
  have hx := hρ _ _ h1
  generalize hxv : ρC x = u at hx
  unfold unV at hv'
  split at hv'
  · rename_i hq
    rw [hq] at hx
    cases hx
    obtain rfl := Option.some.inj hv'
    exact run_same hR (x := Op.unary .neg (ρC x)) (by simp [execOp, ho]) (by rw [hxv]; rfl) (.int _ _) hev
  · rename_i hq
    rw [hq] at hx
    cases hx
    obtain rfl := Option.some.inj hv'
    exact run_same hR (x := Op.unary .not (ρC x)) (by simp [execOp, ho]) (by rw [hxv]; rfl) (.bool _) hev
  · cases hv'
theorem op_convert {src dst : Nat} {x : Operand} {k : IntKind} {y : Opd} (hR : SR s L C w) (hρ : ∀ x y, f x y = true → VR s L C w (ρA y) (ρC x)) (ho : o.op = .convert src dst x) (hck : (convCk P src dst k && f x y) = true) (hev : evOp (.conv k y) ρA s = some (v, s')) : Runs P s L C w (execOp ρC o) s' v := by
  simp only [Bool.and_eq_true] at hck
  obtain ⟨h12, h3⟩ := hck
  unfold convCk at h12
  simp only [Bool.and_eq_true] at h12
  obtain ⟨h1, h2⟩ := h12
  have hx := hρ _ _ h3
  generalize hxv : ρC x = u at hx
  simp only [evOp] at hev
  split at hev
  · rename_i k' n hq
    rw [hq] at hx
    cases hx
    obtain ⟨d1, hd1⟩ := Option.isSome_iff_exists.1 h1
    have hd2 : P.underlying dst = some (.int k) := by
      split at h2
      · rename_i kk hk; simp at h2; rw [hk, h2]
      · cases h2
    refine run_same hR (x := convert src dst (ρC x)) (by simp [execOp, ho]) ?_ (.int _ _) hev
    rw [hxv]
    simp [convert, run_underlying hd1, run_underlying hd2, Conv.intToInt]
  · cases hev
theorem op_slice {t sz : Nat} {x : Operand} {lo hi mx : Option Operand} {y : Opd} {lo' hi' mx' : Option Opd} (hR : SR s L C w) (hρ : ∀ x y, f x y = true → VR s L C w (ρA y) (ρC x)) (ho : o.op = .slice t x lo hi mx) (hck : (cutCk P t sz && f x y && ckOpt f lo lo' && ckOpt f hi hi' && ckOpt f mx mx') = true) (hev : evOp (.slice sz y lo' hi' mx') ρA s = some (v, s')) : Runs P s L C w (execOp ρC o) s' v := by
  simp only [Bool.and_eq_true] at hck
  obtain ⟨⟨⟨⟨h1, h2⟩, h3⟩, h4⟩, h5⟩ := hck
  simp only [evOp] at hev
  obtain ⟨v', hv', hev⟩ := bind_some hev
  obtain ⟨val, h6, h7⟩ := slice_sound (P := P) (hρ _ _ h2) h1 (ckOpt_sound hρ h3) (ckOpt_sound hρ h4) (ckOpt_sound hρ h5) hv'
  exact run_same hR (x := Instr.sliceAt t (ρC x) (lo.map ρC) (hi.map ρC) (mx.map ρC)) (by simp [execOp, ho]) h6 h7 hev
theorem op_fieldAddr {t k off : Nat} {x : Operand} {y : Opd} (hR : SR s L C w) (hρ : ∀ x y, f x y = true → VR s L C w (ρA y) (ρC x)) (ho : o.op = .fieldAddr t x k) (hck : (fptrCk P t k off && f x y) = true) (hev : evOp (.fptr off y) ρA s = some (v, s')) : Runs P s L C w (execOp ρC o) s' v := by
  simp only [Bool.and_eq_true] at hck
  obtain ⟨h1, h2⟩ := hck
  have hfld : ∃ fs fd, P.underlying t = some (.struct fs) ∧ fs[k]? = some fd ∧ fd.offset = off ∧ ∃ i, P.info? fd.type = some i ∧ i.size ≠ 0 := by
    unfold fptrCk fieldOf at h1
    split at h1
    · rename_i fd hfd
      split at hfd
      · rename_i fs hfs
        simp only [Bool.and_eq_true, beq_iff_eq] at h1
        obtain ⟨h3, h4⟩ := h1
        split at h4
        · rename_i i hi; exact ⟨fs, fd, hfs, hfd, h3, i, hi, by simpa using h4⟩
        · cases h4
      · cases hfd
    · cases h1
  obtain ⟨fs, fd, hfs, hfd, rfl, i, hi, hi0⟩ := hfld
  have hx := hρ _ _ h2
  generalize hxv : ρC x = u at hx
  have hrun : ∀ b o, (Instr.fieldAt t (.pointer (some ⟨b, o, none⟩)) k).run P w = .ok (.pointer (some ⟨b, o + fd.offset, none⟩)) w := by
    intro b o
    simp [Instr.fieldAt, run_underlying hfs, hfd, Instr.sureAddr, fieldPlace, sizeOf, typeInfo, hi, hi0, add_lit']
  simp only [evOp] at hev
  split at hev
  · rename_i hq
    rw [hq] at hx
    cases hx with
    | ptr d i2 off t' cs h => exact run_same hR (x := Instr.fieldAt t (ρC x) k) (by simp [execOp, ho]) (by rw [hxv]; exact hrun _ _) (.ptr _ _ _ _ _ h) hev
  · rename_i hq
    rw [hq] at hx
    cases hx with
    | aptr d i2 off ver e sz cs ver' pr v h hv hs hc =>
      obtain ⟨a, rfl⟩ := hs
      have hrun2 : (Instr.fieldAt t (.pointer (some a)) k).run P w = .ok (.pointer (some (a.add fd.offset))) w := by
        simp [Instr.fieldAt, run_underlying hfs, hfd, Instr.sureAddr, fieldPlace, sizeOf, typeInfo, hi, hi0]
      refine run_same hR (x := Instr.fieldAt t (ρC x) k) (by simp [execOp, ho]) (by rw [hxv]; exact hrun2) (.aptr _ _ _ _ e sz cs ver' pr _ h hv ⟨_, rfl⟩ fun hq => ?_) hev
      have := hc hq
      simp only [Value.pointer.injEq, Option.some.injEq] at this
      subst this
      simp [add_lit', Nat.add_assoc]
  · rename_i cs hq
    rw [hq] at hx
    cases hx with
    | eptr _ a b o u hA hok hc hr =>
      have hrun2 : (Instr.fieldAt t (.pointer (some a)) k).run P w = .ok (.pointer (some (a.add fd.offset))) w := by
        simp [Instr.fieldAt, run_underlying hfs, hfd, Instr.sureAddr, fieldPlace, sizeOf, typeInfo, hi, hi0]
      refine run_same hR (x := Instr.fieldAt t (ρC x) k) (by simp [execOp, ho]) (by rw [hxv]; exact hrun2) (.eptr _ _ b (o + fd.offset) (fun j => u (fd.offset + j)) (fun hne => by rw [hA (by rintro rfl; simp at hne), add_lit']) (cellsOk_drop hok _) (fun j x hx => ?_) fun j x hx => ?_) hev
      · rw [List.getElem?_drop] at hx
        have := hc _ x hx
        rwa [Nat.add_assoc]
      · rw [List.getElem?_drop] at hx
        exact hr _ x hx
  · cases hev
theorem op_field {t k off : Nat} {n : Option Nat} {x : Operand} {y : Opd} (hR : SR s L C w) (hρ : ∀ x y, f x y = true → VR s L C w (ρA y) (ρC x)) (ho : o.op = .field t x k) (hck : (fldCk P t k off n && f x y) = true) (hev : evOp (.fld off n y) ρA s = some (v, s')) : Runs P s L C w (execOp ρC o) s' v := by
  simp only [Bool.and_eq_true] at hck
  obtain ⟨h1, h2⟩ := hck
  have hfld : ∃ fs fd, P.underlying t = some (.struct fs) ∧ fs[k]? = some fd ∧ fd.offset = off ∧ ldCk P fd.type n = true := by
    unfold fldCk fieldOf at h1
    split at h1
    · rename_i fd hfd
      split at hfd
      · rename_i fs hfs
        simp only [Bool.and_eq_true, beq_iff_eq] at h1
        exact ⟨fs, fd, hfs, hfd, h1.1, h1.2⟩
      · cases hfd
    · cases h1
  obtain ⟨fs, fd, hfs, hfd, rfl, h4⟩ := hfld
  unfold ldCk at h4
  have hx := hρ _ _ h2
  generalize hxv : ρC x = u at hx
  simp only [evOp] at hev
  cases n with
  | none =>
    cases ha : aggCk P fd.type with
    | none => simp [ha] at h4
    | some q =>
      cases q with
      | true => simp [ha] at h4
      | false =>
        split at hev
        · rename_i cs hq hnn
          rw [hq] at hx
          cases hx with
          | agg _ vs hl hr =>
            obtain ⟨v', hv', hev⟩ := bind_some hev
            obtain ⟨u', hu1, hu2⟩ := VRs.get ⟨hl, hr⟩ hv'
            refine run_same hR (x := Instr.field t (ρC x) k) (by simp [execOp, ho]) ?_ hu2 hev
            rw [hxv]
            simp [Instr.field, run_underlying hfs, hfd, asAgg, part, run_isAgg ha, hu1]
        · rename_i hnn; cases hnn
        · cases hev
  | some n =>
    cases ha : aggCk P fd.type with
    | none => simp [ha] at h4
    | some q =>
      cases q with
      | false => simp [ha] at h4
      | true =>
        simp only [ha] at h4
        split at hev
        · rename_i hnn; cases hnn
        · rename_i cs m hq hnn
          obtain rfl := Option.some.inj hnn
          rw [hq] at hx
          cases hx with
          | agg _ vs hl hr =>
            split at hev
            · rename_i hle
              have hvs : VRs s L C w cs vs := ⟨hl, hr⟩
              refine run_same hR (x := Instr.field t (ρC x) k) (by simp [execOp, ho]) ?_ ((hvs.drop fd.offset).take n).agg hev
              rw [hxv]
              simp only [Instr.field, run_underlying hfs, hfd, asAgg, part, run_isAgg ha, run_sizeOf h4, Sem.run_bind, Sem.run_pure, Result.andThen_ok]
              simp [run_isAgg ha, run_sizeOf h4]
            · cases hev
        · cases hev
theorem op_indexAddr {t sz : Nat} {x i : Operand} {y j : Opd} (hR : SR s L C w) (hρ : ∀ x y, f x y = true → VR s L C w (ρA y) (ρC x)) (ho : o.op = .indexAddr t x i) (hck : (iptrCk P t sz && f x y && f i j) = true) (hev : evOp (.iptr sz y j) ρA s = some (v, s')) : Runs P s L C w (execOp ρC o) s' v := by
  simp only [Bool.and_eq_true] at hck
  obtain ⟨⟨h1, h2⟩, h3⟩ := hck
  obtain ⟨e, ht, hs, hsz⟩ : ∃ e, P.underlying t = some (.slice e) ∧ szCk P e sz = true ∧ 0 < sz := by
    unfold iptrCk at h1
    split at h1
    · rename_i e he
      simp only [Bool.and_eq_true, decide_eq_true_eq] at h1
      exact ⟨e, he, h1⟩
    · cases h1
  have hx := hρ _ _ h2
  have hi := hρ _ _ h3
  generalize hxv : ρC x = u at hx
  generalize hiv : ρC i = ui at hi
  have hrun : ∀ (a : Addr) (n cap : Nat) (kk : IntKind) (k : Int), 0 ≤ k → k < n → (Instr.indexAt t (.slice (some a) n cap) (.int kk k)).run P w = .ok (.pointer (some (a.add (k.toNat * sz)))) w := by
    intro a n cap kk k h0 h1
    have hlt : (0 ≤ k ∧ k < (n : Int)) := ⟨h0, h1⟩
    simp [Instr.indexAt, asIntOf, run_underlying ht, hlt, run_sizeOf hs]
  simp only [evOp] at hev
  split at hev
  · rename_i full n cs kk k hq hq2
    rw [hq] at hx
    rw [hq2] at hi
    cases hi
    cases hx with
    | imm _ _ _ A cap b o u' hn hf hok hA hc hr =>
      split at hev
      · rename_i hk
        have hev' := hev
        simp only [Option.some.injEq, Prod.mk.injEq] at hev'
        obtain ⟨rfl, rfl⟩ := hev'
        by_cases hcs : cs = []
        · -- nothing is there
          subst hcs
          obtain ⟨a, rfl⟩ := hn.2 (by omega)
          refine run_same hR (x := Instr.indexAt t (ρC x) (ρC i)) (by simp [execOp, ho]) (by rw [hxv, hiv]; exact hrun _ _ _ _ _ hk.1 hk.2) ?_ hev
          exact .eptr _ _ 0 0 (fun _ => default) (fun h => absurd (by simp) h) (by simp [cellsOk]) (fun j x hx => by simp at hx) fun j x hx => by simp at hx
        · refine run_same hR (x := Instr.indexAt t (ρC x) (ρC i)) (by simp [execOp, ho]) (by rw [hxv, hiv, hA hcs]; exact hrun _ _ _ _ _ hk.1 hk.2) ?_ hev
          rw [add_lit']
          refine .eptr _ _ b (o + k.toNat * sz) (fun j => u' (k.toNat * sz + j)) (fun _ => rfl) (cellsOk_drop hok _) (fun j x hx => ?_) fun j x hx => ?_
          · rw [List.getElem?_drop] at hx
            have := hc _ x hx
            rwa [Nat.add_assoc]
          · rw [List.getElem?_drop] at hx
            exact hr _ x hx
      · cases hev
  · rename_i d i2 off n ver full kk k hq hq2
    rw [hq] at hx
    rw [hq2] at hi
    cases hi
    cases hx with
    | slr _ _ _ _ _ _ e' sz' cs ver' pr v h hv hsV hc =>
      obtain ⟨A, cap, rfl, hn, hf, hA⟩ := hsV
      split at hev
      · rename_i hk
        obtain ⟨a, rfl⟩ := hA (by omega)
        refine run_same hR (x := Instr.indexAt t (ρC x) (ρC i)) (by simp [execOp, ho]) (by rw [hxv, hiv]; exact hrun _ _ _ _ _ hk.1 hk.2) ?_ hev
        refine .aptr _ _ _ _ e' sz' cs ver' pr _ h hv ⟨_, rfl⟩ fun hq => ?_
        obtain ⟨A2, cap2, he, hn2, hf2, hA2⟩ := hc hq
        injection he with he1 _ he3
        subst he3
        have := hA2 (by omega)
        rw [← he1] at this
        obtain rfl := Option.some.inj this
        simp [add_lit', Nat.add_assoc]
      · cases hev
  · cases hev

end
end
end Go.Proofs.YthogcanomihelaaDoor.Ae
