/- Walking the evaluator forward: what is asked of the end goes along; one rule for each statement and operation, truth values are taken apart where they arise. -/
import Derived.Test.YthogcanomihelaaDoorAe20
set_option linter.unusedSimpArgs false
set_option linter.unusedVariables false
namespace Go.Proofs.YthogcanomihelaaDoor.Ae
open Go

def Wp (x : Option (Ex × St)) (Q : Ex → St → Prop) : Prop := ∃ r, x = some r ∧ Q r.1 r.2
def WpO (x : Option (List AV × Store)) (Q : List AV → Store → Prop) : Prop := ∃ r, x = some r ∧ Q r.1 r.2
def WpT (acc : List Tr) (x : Option (List Tr)) (Q : List Tr → Prop) : Prop := ∃ l, x = some l ∧ Q (acc ++ l)
section
variable {call : CallT}
def thenQ (call : CallT) (b : Stm) (Q : Ex → St → Prop) : Ex → St → Prop := fun e t => match e with | .nor => Wp (exS call b t) Q | .exit k => Q (.exit k) t | .ret => Q .ret t
def blockQ (id : Nat) (Q : Ex → St → Prop) : Ex → St → Prop := fun e t => match e with | .nor => Q .nor t | .exit k => if k = id then Q .nor t else Q (.exit k) t | .ret => Q .ret t
def regQ (Q : Ex → St → Prop) : List AV → Store → Prop := fun vs s => Q .nor ⟨vs, s⟩
def regT (ops : List AO) (chk : List (Nat × Nat)) (Q : Ex → St → Prop) : List Tr → Prop := fun l => ∃ t, l.getLast? = some t ∧ chk.all (chkOne ops l) = true ∧ Q .nor ⟨t.vs, t.s⟩
def loopQ (I : Nat → St → Prop) (n : Nat) (Q : Ex → St → Prop) : Ex → St → Prop := fun e t => match e with | .nor => ∃ m, m < n ∧ I m t | .exit k => Q (.exit k) t | .ret => Q .ret t
def endQ (fc : FC) (Q : AV → Store → Prop) : Ex → St → Prop := fun e t => ∃ v, evEnd fc (e, t) = some v ∧ Q v.1 v.2

theorem Wp.mono {x : Option (Ex × St)} {Q R : Ex → St → Prop} (h : Wp x Q) (k : ∀ e t, Q e t → R e t) : Wp x R := by
  obtain ⟨r, e, q⟩ := h
  exact ⟨r, e, k _ _ q⟩
theorem Wp.of {x : Option (Ex × St)} {r : Ex × St} {Q : Ex → St → Prop} (h : x = some r) (q : Q r.1 r.2) : Wp x Q := ⟨r, h, q⟩
theorem wSeq {a b : Stm} {st : St} {Q : Ex → St → Prop} (h : Wp (exS call a st) (thenQ call b Q)) : Wp (exS call (.seq a b) st) Q := by
  obtain ⟨⟨e, t⟩, h1, h2⟩ := h
  unfold Wp
  rw [exS_seq, h1]
  simp only [Option.bind_some]
  cases e with
  | nor => exact h2
  | exit k => exact ⟨_, rfl, h2⟩
  | ret => exact ⟨_, rfl, h2⟩
theorem thenNor {b : Stm} {t : St} {Q : Ex → St → Prop} (h : Wp (exS call b t) Q) : thenQ call b Q .nor t := h
theorem thenExit {b : Stm} {t : St} {k : Nat} {Q : Ex → St → Prop} (h : Q (.exit k) t) : thenQ call b Q (.exit k) t := h
theorem thenRet {b : Stm} {t : St} {Q : Ex → St → Prop} (h : Q .ret t) : thenQ call b Q .ret t := h
theorem wBlock {id : Nat} {b : Stm} {st : St} {Q : Ex → St → Prop} (h : Wp (exS call b st) (blockQ id Q)) : Wp (exS call (.block id b) st) Q := by
  obtain ⟨⟨e, t⟩, h1, h2⟩ := h
  unfold Wp
  rw [exS_block, h1]
  simp only [Option.bind_some]
  cases e with
  | nor => exact ⟨_, rfl, h2⟩
  | exit k =>
    simp only [blockQ] at h2
    by_cases hk : k = id
    · rw [if_pos hk] at h2; exact ⟨_, if_pos hk, h2⟩
    · rw [if_neg hk] at h2; exact ⟨_, if_neg hk, h2⟩
  | ret => exact ⟨_, rfl, h2⟩
theorem blockNor {id : Nat} {t : St} {Q : Ex → St → Prop} (h : Q .nor t) : blockQ id Q .nor t := h
theorem blockExit {id : Nat} {t : St} {Q : Ex → St → Prop} (h : Q .nor t) : blockQ id Q (.exit id) t := by
  simp only [blockQ, if_true]
  exact h
theorem blockOther {id k : Nat} {t : St} {Q : Ex → St → Prop} (hk : (k == id) = false) (h : Q (.exit k) t) : blockQ id Q (.exit k) t := by
  simp only [blockQ, if_neg (show ¬ k = id by simpa using hk)]
  exact h
theorem blockRet {id : Nat} {t : St} {Q : Ex → St → Prop} (h : Q .ret t) : blockQ id Q .ret t := h
theorem wCondT {c : Opd} {a b : Stm} {vs : List AV} {s : Store} {Q : Ex → St → Prop} (hc : rd [] vs c = .bool true) (h : Wp (exS call a ⟨vs, s⟩) Q) : Wp (exS call (.cond c a b) ⟨vs, s⟩) Q := by
  unfold Wp
  rw [exS_cond]
  simp only [hc, if_true]
  exact h
theorem wCondF {c : Opd} {a b : Stm} {vs : List AV} {s : Store} {Q : Ex → St → Prop} (hc : rd [] vs c = .bool false) (h : Wp (exS call b ⟨vs, s⟩) Q) : Wp (exS call (.cond c a b) ⟨vs, s⟩) Q := by
  unfold Wp
  rw [exS_cond]
  simp only [hc, Bool.false_eq_true, if_false]
  exact h
theorem wExit {id : Nat} {st : St} {Q : Ex → St → Prop} (h : Q (.exit id) st) : Wp (exS call (.exit id) st) Q := ⟨_, exS_exit id st, h⟩
theorem wRet {st : St} {Q : Ex → St → Prop} (h : Q .ret st) : Wp (exS call .ret st) Q := ⟨_, exS_ret st, h⟩
theorem wSkip {st : St} {Q : Ex → St → Prop} (h : Q .nor st) : Wp (exS call .skip st) Q := ⟨_, exS_skip st, h⟩
theorem wReg {ops : List AO} {vs : List AV} {s : Store} {Q : Ex → St → Prop} (h : WpO (evOps call ops [] vs s) (regQ Q)) : Wp (exS call (.reg ops []) ⟨vs, s⟩) Q := by
  obtain ⟨q, h1, h2⟩ := h
  exact ⟨_, regI h1, h2⟩
theorem oNil {ls vs : List AV} {s : Store} {Q : Ex → St → Prop} (h : Q .nor ⟨vs, s⟩) : WpO (evOps call [] ls vs s) (regQ Q) := ⟨_, rfl, h⟩
/-- What goes on where an operation has given a value. -/
def Nx (call : CallT) (dv : Option Nat) (r : List AO) (ls vs : List AV) (v : AV) (s : Store) (Q : List AV → Store → Prop) : Prop := WpO (evOps call r (ls ++ [v]) (putV dv vs v) s) Q
theorem oOp {op : AOp} {dv : Option Nat} {g : Option (Nat × Bool)} {r : List AO} {ls vs : List AV} {s s' : Store} {v : AV} {p : AV × Store} {Q : List AV → Store → Prop} (h : evOne call ⟨op, dv, g⟩ ls vs s = some p) (hp : p = (v, s')) (k : Nx call dv r ls vs v s' Q) : WpO (evOps call (⟨op, dv, g⟩ :: r) ls vs s) Q := by
  subst hp
  obtain ⟨q, h1, h2⟩ := k
  exact ⟨q, opsCons h h1, h2⟩
theorem nV {dv : Option Nat} {r : List AO} {ls vs : List AV} {v : AV} {s : Store} {Q : List AV → Store → Prop} (h : WpO (evOps call r (ls ++ [v]) (putV dv vs v) s) Q) : Nx call dv r ls vs v s Q := h
theorem nT {dv : Option Nat} {r : List AO} {ls vs : List AV} {s : Store} {Q : List AV → Store → Prop} (h : WpO (evOps call r (ls ++ [.bool true]) (putV dv vs (.bool true)) s) Q) : Nx call dv r ls vs (.bool true) s Q := h
theorem nF {dv : Option Nat} {r : List AO} {ls vs : List AV} {s : Store} {Q : List AV → Store → Prop} (h : WpO (evOps call r (ls ++ [.bool false]) (putV dv vs (.bool false)) s) Q) : Nx call dv r ls vs (.bool false) s Q := h
theorem nB {dv : Option Nat} {r : List AO} {ls vs : List AV} {b : Bool} {s : Store} {Q : List AV → Store → Prop} (h1 : b = true → WpO (evOps call r (ls ++ [.bool true]) (putV dv vs (.bool true)) s) Q)
    (h2 : b = false → WpO (evOps call r (ls ++ [.bool false]) (putV dv vs (.bool false)) s) Q) : Nx call dv r ls vs (.bool b) s Q := by
  cases b with
  | true => exact h1 rfl
  | false => exact h2 rfl
/-- A call of which is known what holds of its result. -/
theorem oCall {f : Nat} {args : List Opd} {dv : Option Nat} {r : List AO} {ls vs : List AV} {s : Store} {az : List AV} {P : AV → Store → Prop} {Q : List AV → Store → Prop} (ha : args.map (rd ls vs) = az) (h : ∃ v s', call f az s = some (v, s') ∧ P v s')
    (k : ∀ v s', P v s' → Nx call dv r ls vs v s' Q) : WpO (evOps call (⟨.call f args, dv, none⟩ :: r) ls vs s) Q := by
  obtain ⟨v, s', e, hp⟩ := h
  refine oOp (v := v) (s' := s') ?_ rfl (k v s' hp)
  simp only [evOne, evAct, ha]
  exact e
theorem oCallG {f : Nat} {args : List Opd} {dv : Option Nat} {j : Nat} {w : Bool} {r : List AO} {ls vs : List AV} {s : Store} {az : List AV} {P : AV → Store → Prop} {Q : List AV → Store → Prop} (hj : ls.getD j .undef = .bool w) (ha : args.map (rd ls vs) = az)
    (h : ∃ v s', call f az s = some (v, s') ∧ P v s') (k : ∀ v s', P v s' → Nx call dv r ls vs v s' Q) : WpO (evOps call (⟨.call f args, dv, some (j, w)⟩ :: r) ls vs s) Q := by
  obtain ⟨v, s', e, hp⟩ := h
  refine oOp (v := v) (s' := s') ?_ rfl (k v s' hp)
  simp only [evOne, evAct, ha, hj, if_true]
  exact e
theorem oCallV {g : Opd} {args : List Opd} {dv : Option Nat} {r : List AO} {ls vs : List AV} {s : Store} {f : Nat} {first caps az : List AV} {P : AV → Store → Prop} {Q : List AV → Store → Prop} (hg : rd ls vs g = .fn f first caps) (ha : first ++ args.map (rd ls vs) ++ caps = az)
    (h : ∃ v s', call f az s = some (v, s') ∧ P v s') (k : ∀ v s', P v s' → Nx call dv r ls vs v s' Q) : WpO (evOps call (⟨.callv g args, dv, none⟩ :: r) ls vs s) Q := by
  obtain ⟨v, s', e, hp⟩ := h
  refine oOp (v := v) (s' := s') ?_ rfl (k v s' hp)
  simp only [evOne, evAct, hg, ha]
  exact e
theorem oCallVG {g : Opd} {args : List Opd} {dv : Option Nat} {j : Nat} {w : Bool} {r : List AO} {ls vs : List AV} {s : Store} {f : Nat} {first caps az : List AV} {P : AV → Store → Prop} {Q : List AV → Store → Prop} (hj : ls.getD j .undef = .bool w) (hg : rd ls vs g = .fn f first caps) (ha : first ++ args.map (rd ls vs) ++ caps = az)
    (h : ∃ v s', call f az s = some (v, s') ∧ P v s') (k : ∀ v s', P v s' → Nx call dv r ls vs v s' Q) : WpO (evOps call (⟨.callv g args, dv, some (j, w)⟩ :: r) ls vs s) Q := by
  obtain ⟨v, s', e, hp⟩ := h
  refine oOp (v := v) (s' := s') ?_ rfl (k v s' hp)
  simp only [evOne, evAct, hg, ha, hj, if_true]
  exact e
/-- An append of which is known what holds of its result. -/
theorem oApp {e sz bytes : Nat} {x y : Opd} {x' y' : AV} {dv : Option Nat} {r : List AO} {ls vs : List AV} {s : Store} {P : AV → Store → Prop} {Q : List AV → Store → Prop} (hx : rd ls vs x = x') (hy : rd ls vs y = y')
    (h : ∃ v s', appV s e sz bytes x' y' = some (v, s') ∧ P v s') (k : ∀ v s', P v s' → Nx call dv r ls vs v s' Q) : WpO (evOps call (⟨.app e sz bytes x y, dv, none⟩ :: r) ls vs s) Q := by
  obtain ⟨v, s', e, hp⟩ := h
  refine oOp (v := v) (s' := s') ?_ rfl (k v s' hp)
  simp only [evOne, evAct, evOp, hx, hy]
  exact e
/-! ### regions that draw their order -/
theorem wRegT {ops : List AO} {c : Nat × Nat} {cs : List (Nat × Nat)} {vs : List AV} {s : Store} {Q : Ex → St → Prop} (h : WpT [] (evTr call ops ⟨[], vs, s⟩) (regT ops (c :: cs) Q)) : Wp (exS call (.reg ops (c :: cs)) ⟨vs, s⟩) Q := by
  obtain ⟨l, h1, t, h2, h3, h4⟩ := h
  exact ⟨_, regD h1 (by simpa using h2) (by simpa using h3), h4⟩
theorem tNil {acc : List Tr} {t : Tr} {ops : List AO} {chk : List (Nat × Nat)} {Q : Ex → St → Prop} (hc : chk.all (chkOne ops (acc ++ [t])) = true) (h : Q .nor ⟨t.vs, t.s⟩) : WpT acc (evTr call [] t) (regT ops chk Q) :=
  ⟨[t], rfl, t, by simp, hc, h⟩
def NxT (call : CallT) (acc : List Tr) (dv : Option Nat) (r : List AO) (ls vs : List AV) (v : AV) (s : Store) (Q : List Tr → Prop) : Prop := WpT acc (evTr call r ⟨ls ++ [v], putV dv vs v, s⟩) Q
theorem tOp {acc : List Tr} {op : AOp} {dv : Option Nat} {g : Option (Nat × Bool)} {r : List AO} {ls vs : List AV} {s s' : Store} {v : AV} {p : AV × Store} {Q : List Tr → Prop} (h : evOne call ⟨op, dv, g⟩ ls vs s = some p) (hp : p = (v, s')) (k : NxT call (acc ++ [⟨ls, vs, s⟩]) dv r ls vs v s' Q) :
    WpT acc (evTr call (⟨op, dv, g⟩ :: r) ⟨ls, vs, s⟩) Q := by
  subst hp
  obtain ⟨l, h1, h2⟩ := k
  exact ⟨_, trCons h h1, by simpa using h2⟩
theorem tV {acc : List Tr} {dv : Option Nat} {r : List AO} {ls vs : List AV} {v : AV} {s : Store} {Q : List Tr → Prop} (h : WpT acc (evTr call r ⟨ls ++ [v], putV dv vs v, s⟩) Q) : NxT call acc dv r ls vs v s Q := h
theorem tT {acc : List Tr} {dv : Option Nat} {r : List AO} {ls vs : List AV} {s : Store} {Q : List Tr → Prop} (h : WpT acc (evTr call r ⟨ls ++ [.bool true], putV dv vs (.bool true), s⟩) Q) : NxT call acc dv r ls vs (.bool true) s Q := h
theorem tF {acc : List Tr} {dv : Option Nat} {r : List AO} {ls vs : List AV} {s : Store} {Q : List Tr → Prop} (h : WpT acc (evTr call r ⟨ls ++ [.bool false], putV dv vs (.bool false), s⟩) Q) : NxT call acc dv r ls vs (.bool false) s Q := h
theorem tB {acc : List Tr} {dv : Option Nat} {r : List AO} {ls vs : List AV} {b : Bool} {s : Store} {Q : List Tr → Prop} (h1 : b = true → WpT acc (evTr call r ⟨ls ++ [.bool true], putV dv vs (.bool true), s⟩) Q)
    (h2 : b = false → WpT acc (evTr call r ⟨ls ++ [.bool false], putV dv vs (.bool false), s⟩) Q) : NxT call acc dv r ls vs (.bool b) s Q := by
  cases b with
  | true => exact h1 rfl
  | false => exact h2 rfl
theorem tCall {acc : List Tr} {f : Nat} {args : List Opd} {dv : Option Nat} {r : List AO} {ls vs : List AV} {s : Store} {az : List AV} {P : AV → Store → Prop} {Q : List Tr → Prop} (ha : args.map (rd ls vs) = az) (h : ∃ v s', call f az s = some (v, s') ∧ P v s')
    (k : ∀ v s', P v s' → NxT call (acc ++ [⟨ls, vs, s⟩]) dv r ls vs v s' Q) : WpT acc (evTr call (⟨.call f args, dv, none⟩ :: r) ⟨ls, vs, s⟩) Q := by
  obtain ⟨v, s', e, hp⟩ := h
  refine tOp (v := v) (s' := s') ?_ rfl (k v s' hp)
  simp only [evOne, evAct, ha]
  exact e
theorem tApp {acc : List Tr} {e sz bytes : Nat} {x y : Opd} {x' y' : AV} {dv : Option Nat} {r : List AO} {ls vs : List AV} {s : Store} {P : AV → Store → Prop} {Q : List Tr → Prop} (hx : rd ls vs x = x') (hy : rd ls vs y = y')
    (h : ∃ v s', appV s e sz bytes x' y' = some (v, s') ∧ P v s') (k : ∀ v s', P v s' → NxT call (acc ++ [⟨ls, vs, s⟩]) dv r ls vs v s' Q) : WpT acc (evTr call (⟨.app e sz bytes x y, dv, none⟩ :: r) ⟨ls, vs, s⟩) Q := by
  obtain ⟨v, s', e, hp⟩ := h
  refine tOp (v := v) (s' := s') ?_ rfl (k v s' hp)
  simp only [evOne, evAct, evOp, hx, hy]
  exact e
theorem tCallG {acc : List Tr} {f : Nat} {args : List Opd} {dv : Option Nat} {j : Nat} {w : Bool} {r : List AO} {ls vs : List AV} {s : Store} {az : List AV} {P : AV → Store → Prop} {Q : List Tr → Prop} (hj : ls.getD j .undef = .bool w) (ha : args.map (rd ls vs) = az)
    (h : ∃ v s', call f az s = some (v, s') ∧ P v s') (k : ∀ v s', P v s' → NxT call (acc ++ [⟨ls, vs, s⟩]) dv r ls vs v s' Q) : WpT acc (evTr call (⟨.call f args, dv, some (j, w)⟩ :: r) ⟨ls, vs, s⟩) Q := by
  obtain ⟨v, s', e, hp⟩ := h
  refine tOp (v := v) (s' := s') ?_ rfl (k v s' hp)
  simp only [evOne, evAct, ha, hj, if_true]
  exact e
/-! ### loops -/
theorem wLoop {b : Stm} {st : St} {Q : Ex → St → Prop} (I : Nat → St → Prop) (n : Nat) (h0 : I n st) (hs : ∀ n st, I n st → Wp (exS call b st) (loopQ I n Q)) : Wp (exS call (.loop b) st) Q := by
  unfold Wp
  rw [exS_loop]
  induction n using Nat.strongRecOn generalizing st with
  | ind n ih =>
    obtain ⟨⟨e, t⟩, h1, h2⟩ := hs n st h0
    cases e with
    | nor =>
      obtain ⟨m, hm, hI⟩ := h2
      rw [loopE_step h1]
      exact ih m hm hI
    | exit k => exact ⟨_, loopE_end h1 (by simp), h2⟩
    | ret => exact ⟨_, loopE_end h1 (by simp), h2⟩
theorem loopNor {I : Nat → St → Prop} {n : Nat} {Q : Ex → St → Prop} {t : St} (m : Nat) (hm : m < n) (h : I m t) : loopQ I n Q .nor t := ⟨m, hm, h⟩
theorem loopExit {I : Nat → St → Prop} {n k : Nat} {Q : Ex → St → Prop} {t : St} (h : Q (.exit k) t) : loopQ I n Q (.exit k) t := h
theorem loopRet {I : Nat → St → Prop} {n : Nat} {Q : Ex → St → Prop} {t : St} (h : Q .ret t) : loopQ I n Q .ret t := h
end
/-! ### functions -/
theorem endI {fc : FC} {Q : AV → Store → Prop} {e : Ex} {t : St} {v : AV} {s : Store} {p : AV × Store} (h : evEnd fc (e, t) = some p) (hp : p = (v, s)) (q : Q v s) : endQ fc Q e t := by
  subst hp
  exact ⟨_, h, q⟩
theorem funW {T : Nat → Option FC} {prim : CallT} {f : Nat} {fc : FC} {args : List AV} {s : Store} {a : List AV × Store} {Q : AV → Store → Prop} {b : Stm} {st : St} (hf : T f = some fc) (ha : argsV fc args s = some a) (he : fc.body = b) (hs : st0 fc a.1 a.2 = st)
    (hb : Wp (exS (callF T prim) b st) (endQ fc Q)) : ∃ v s', callF T prim f args s = some (v, s') ∧ Q v s' := by
  subst he hs
  obtain ⟨r, h1, v, h2, h3⟩ := hb
  exact ⟨v.1, v.2, funI hf ha h1 h2, h3⟩
/-! ### what lies in the store becomes immutable, value by value -/
theorem frz1_slr {s : Store} {d i off n ver e sz pr : Nat} {f : Bool} {cs ys : List AV} (hg : s.get d i = some (.arr e sz cs ver pr)) (hy : (cs.drop off).take (n * sz) = ys) (hl : AV.lowL 0 ys = true) (hn : off + n * sz ≤ cs.length) :
    frz1 s (.slr d i off n ver f) = some (.imm false n ys, s.set d i (.arr e sz cs ver (max pr (off + n * sz)))) := by
  subst hy
  simp only [frz1, hg, hl, hn, and_self, if_true]
theorem frz1_imm {s : Store} {f : Bool} {n : Nat} {cs : List AV} : frz1 s (.imm f n cs) = some (.imm false n cs, s) := rfl
theorem frz1_int {s : Store} {k : IntKind} {n : Int} : frz1 s (.int k n) = some (.int k n, s) := rfl
theorem frz1_bool {s : Store} {b : Bool} : frz1 s (.bool b) = some (.bool b, s) := rfl
theorem frz1_str {s : Store} {b : ByteArray} : frz1 s (.str b) = some (.str b, s) := rfl
theorem frz1_ptr {s : Store} {d i o : Nat} : frz1 s (.ptr d i o) = some (.ptr d i o, s) := rfl
theorem frz1_aptr {s : Store} {d i o v : Nat} : frz1 s (.aptr d i o v) = some (.aptr d i o v, s) := rfl
theorem frz1_fn {s : Store} {f : Nat} {a b : List AV} : frz1 s (.fn f a b) = some (.fn f a b, s) := rfl
theorem frzL_nil {s : Store} : frzL s [] = some ([], s) := rfl
theorem frzL_cons {s : Store} {v : AV} {r : List AV} {p : AV × Store} {q : List AV × Store} (h1 : frz1 s v = some p) (h2 : frzL p.2 r = some q) : frzL s (v :: r) = some (p.1 :: q.1, q.2) := by
  simp only [frzL, h1, Option.bind_some, h2]
theorem frz_agg {s : Store} {r : List AV} {q : List AV × Store} (h : frzL s r = some q) : frz s (.agg r) = some (.agg q.1, q.2) := by
  simp only [frz, h, Option.bind_some]
theorem frz_imm {s : Store} {f : Bool} {n : Nat} {cs : List AV} : frz s (.imm f n cs) = some (.imm false n cs, s) := rfl
theorem frz_slr {s : Store} {d i off n ver : Nat} {f : Bool} {p : AV × Store} (h : frz1 s (.slr d i off n ver f) = some p) : frz s (.slr d i off n ver f) = some p := h
theorem frz_int {s : Store} {k : IntKind} {n : Int} : frz s (.int k n) = some (.int k n, s) := rfl
theorem frz_bool {s : Store} {b : Bool} : frz s (.bool b) = some (.bool b, s) := rfl
theorem frz_str {s : Store} {b : ByteArray} : frz s (.str b) = some (.str b, s) := rfl
theorem frz_ptr {s : Store} {d i o : Nat} : frz s (.ptr d i o) = some (.ptr d i o, s) := rfl
theorem frz_fn {s : Store} {f : Nat} {a b : List AV} : frz s (.fn f a b) = some (.fn f a b, s) := rfl
theorem frzs_nil {s : Store} : frzs s [] = some ([], s) := rfl
theorem frzs_cons {s : Store} {v : AV} {r : List AV} {p : AV × Store} {q : List AV × Store} (h1 : frz s v = some p) (h2 : frzs p.2 r = some q) : frzs s (v :: r) = some (p.1 :: q.1, q.2) := by
  simp only [frzs, h1, Option.bind_some, h2]
theorem frzR_tup {s : Store} {r : List AV} {q : List AV × Store} (h : frzs s r = some q) : frzR s (.tup r) = some (.tup q.1, q.2) := by
  simp only [frzR, h, Option.bind_some]
theorem frzR_agg {s : Store} {r : List AV} {p : AV × Store} (h : frz s (.agg r) = some p) : frzR s (.agg r) = some p := h
theorem frzR_slr {s : Store} {d i off n ver : Nat} {f : Bool} {p : AV × Store} (h : frz1 s (.slr d i off n ver f) = some p) : frzR s (.slr d i off n ver f) = some p := h
theorem frzR_imm {s : Store} {f : Bool} {n : Nat} {cs : List AV} : frzR s (.imm f n cs) = some (.imm false n cs, s) := rfl
theorem frzR_int {s : Store} {k : IntKind} {n : Int} : frzR s (.int k n) = some (.int k n, s) := rfl
theorem frzR_bool {s : Store} {b : Bool} : frzR s (.bool b) = some (.bool b, s) := rfl
theorem frzR_str {s : Store} {b : ByteArray} : frzR s (.str b) = some (.str b, s) := rfl
theorem frzR_ptr {s : Store} {d i o : Nat} : frzR s (.ptr d i o) = some (.ptr d i o, s) := rfl
theorem frzR_fn {s : Store} {f : Nat} {a b : List AV} : frzR s (.fn f a b) = some (.fn f a b, s) := rfl
theorem endN {fc : FC} {Q : AV → Store → Prop} {t : St} {v : AV} {p : AV × Store} {s' : Store} (hi : fc.inl = false) (h1 : resV t.s t.vs fc.res = some v) (h2 : frzR t.s v = some p) (h3 : p.1.lowB p.2.low.length = true) (h4 : p.2.pop = s') (q : Q p.1 s') : endQ fc Q .ret t := by
  subst h4
  refine ⟨(p.1, p.2.pop), ?_, q⟩
  simp only [evEnd, h1, hi, Option.bind_some, Bool.false_eq_true, if_false, h2, h3, if_true]
theorem endN' {fc : FC} {Q : AV → Store → Prop} {t : St} {v : AV} {p : AV × Store} {s' : Store} (hi : fc.inl = false) (h1 : resV t.s t.vs fc.res = some v) (h2 : frzR t.s v = some p) (h3 : p.1.lowB p.2.low.length = true) (h4 : p.2.pop = s') (q : Q p.1 s') : endQ fc Q .nor t := by
  subst h4
  refine ⟨(p.1, p.2.pop), ?_, q⟩
  simp only [evEnd, h1, hi, Option.bind_some, Bool.false_eq_true, if_false, h2, h3, if_true]
/-- A call freezes what it is given: it may be frozen before. -/
theorem callF_frz {T : Nat → Option FC} {prim : CallT} {f : Nat} {fc : FC} {args args' : List AV} {s s' : Store} {r : AV × Store} (hf : T f = some fc) (hr : fc.ref = false) (h1 : frzs s args = some (args', s')) (h2 : frzs s' args' = some (args', s')) (h : callF T prim f args' s' = some r) : callF T prim f args s = some r := by
  have hl : args.length = args'.length := by
    have : ∀ (a : List AV) s a' s', frzs s a = some (a', s') → a.length = a'.length := by
      intro a
      induction a with
      | nil => intro s a' s' h; simp only [frzs, Option.some.injEq, Prod.mk.injEq] at h; rw [← h.1]
      | cons x r ih =>
        intro s a' s' h
        simp only [frzs] at h
        obtain ⟨p, hp, h⟩ := bind_some h
        obtain ⟨q, hq, h⟩ := bind_some h
        simp only [Option.some.injEq, Prod.mk.injEq] at h
        rw [← h.1, List.length_cons, List.length_cons, ih _ q.1 q.2 hq]
    exact this _ _ _ _ h1
  obtain ⟨n, hn⟩ := callF_ex h
  cases n with
  | zero => cases hn
  | succ n =>
    refine callF_of (n := n + 1) ?_
    simp only [callN, hf] at hn ⊢
    unfold evF at hn ⊢
    have ha : argsV fc args s = argsV fc args' s' := by
      unfold argsV
      rw [hl, hr]
      simp only [Bool.false_eq_true, if_false, h1, h2]
    rw [ha]
    exact hn
def isQ (v : AV) (s : Store) : AV → Store → Prop := fun v' s' => v' = v ∧ s' = s
theorem isI {v v' : AV} {s s' : Store} (h1 : v' = v) (h2 : s' = s) : isQ v s v' s' := ⟨h1, h2⟩
theorem funE {T : Nat → Option FC} {prim : CallT} {f : Nat} {fc : FC} {args : List AV} {s s' : Store} {a : List AV × Store} {v : AV} {b : Stm} {st : St} (hf : T f = some fc) (ha : argsV fc args s = some a) (he : fc.body = b) (hs : st0 fc a.1 a.2 = st)
    (hb : Wp (exS (callF T prim) b st) (endQ fc (isQ v s'))) : callF T prim f args s = some (v, s') := by
  obtain ⟨v, s', e, rfl, rfl⟩ := funW hf ha he hs hb
  exact e
theorem frm_getC {s : Store} {t : List Obj} {D i : Nat} (h : D = s.low.length + 1) : (frm s t).get D i = t[i]? := by
  subst h
  exact frm_get_top s t i
theorem frm_setC {s : Store} {t : List Obj} {D i : Nat} {o : Obj} (h : D = s.low.length + 1) : (frm s t).set D i o = frm s (t.set i o) := by
  subst h
  exact frm_set_top s t i o
/-! ### literals -/
def seqOk (sz : Nat) : Nat → List (Nat × List AV) → Bool
  | _, [] => true
  | i, (o, p) :: r => o == i * sz && p.length == sz && seqOk sz (i + 1) r
theorem repL_len (n : Nat) (z : List AV) : (repL n z).length = n * z.length := by
  induction n with
  | zero => simp [repL]
  | succ n ih => rw [repL, List.length_append, ih, Nat.succ_mul, Nat.add_comm]
theorem fill_go {z : List AV} : ∀ (ps : List (Nat × List AV)) (i : Nat) (A : List AV), A.length = i * z.length → seqOk z.length i ps = true → fillL (A ++ repL ps.length z) ps = some (A ++ ps.flatMap (·.2))
  | [], i, A, hA, h => by simp [fillL, repL]
  | (o, p) :: r, i, A, hA, h => by
    simp only [seqOk, Bool.and_eq_true, beq_iff_eq] at h
    obtain ⟨⟨rfl, hp⟩, hr⟩ := h
    have hle : i * z.length + p.length ≤ (A ++ repL (r.length + 1) z).length := by
      rw [List.length_append, repL_len, hA, hp, Nat.succ_mul]
      omega
    simp only [fillL, List.length_cons, hle, if_true]
    have e : (A ++ repL (r.length + 1) z).take (i * z.length) ++ p ++ (A ++ repL (r.length + 1) z).drop (i * z.length + p.length) = (A ++ p) ++ repL r.length z := by
      rw [← hA, List.take_left, List.drop_append]
      simp only [repL]
      rw [List.drop_eq_nil_of_le (by omega), List.nil_append, show A.length + p.length - A.length = z.length by omega, List.drop_left]
    rw [e, fill_go r (i + 1) (A ++ p) (by rw [List.length_append, hA, hp, Nat.succ_mul]) hr]
    simp
theorem fill_ok {z : List AV} {n : Nat} {ps : List (Nat × List AV)} (hn : n = ps.length) (h : seqOk z.length 0 ps = true) : fillL (repL n z) ps = some (ps.flatMap (·.2)) := by
  subst hn
  simpa using fill_go ps 0 [] (by simp) h
theorem fillL_n (cs : List AV) : fillL cs [] = some cs := rfl
theorem fillL_c (a : AV) (cs : List AV) (o : Nat) (p : List AV) (r : List (Nat × List AV)) : fillL (a :: cs) ((o, p) :: r) = if o + p.length ≤ (a :: cs).length then fillL ((a :: cs).take o ++ p ++ (a :: cs).drop (o + p.length)) r else none := rfl
/-! ### what is decided by numbers -/
theorem wrapI {x : Int} (h : -9223372036854775808 ≤ x ∧ x < 9223372036854775808) : IntKind.i64.wrap x = x := by
  rw [IntKind.wrap_i64]
  omega
theorem wrapB {x : Int} (h : 0 ≤ x ∧ x < 256) : IntKind.u8.wrap x = x := by
  have e : IntKind.u8.wrap x = x % 256 := by simp [IntKind.wrap, IntKind.signed, IntKind.bits]
  rw [e]
  omega
theorem decT {p : Prop} [Decidable p] (h : p) : decide p = true := decide_eq_true h
theorem decF {p : Prop} [Decidable p] (h : ¬ p) : decide p = false := decide_eq_false h
theorem beqT {a b : Int} (h : a = b) : (a == b) = true := by simpa using h
theorem beqF {a b : Int} (h : ¬ a = b) : (a == b) = false := by simpa using h
theorem bneT {a b : Int} (h : ¬ a = b) : (a != b) = true := by simpa using h
theorem bneF {a b : Int} (h : a = b) : (a != b) = false := by simpa using h
end Go.Proofs.YthogcanomihelaaDoor.Ae
