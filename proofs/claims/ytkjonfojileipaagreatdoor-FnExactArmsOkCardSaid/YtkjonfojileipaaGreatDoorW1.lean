/- An evaluator over abstract values: strings and immutable slices as lists, pointers and arrays as objects of a store; its syntax, its evaluation with fuel, and the answer for whatever fuel. What is asked of the world in which all begins: the library's two tables read as they are laid. How abstract values and stores stand to the machine's; what later states keep of it. How stores turn: a new object, an immutable row, an object that is written. Small laws for the operations: lists of values, rows that are read and written. Each operation of the machine, held against its abstract one: the check, and that it is sound. What is made: boxes, arrays, literals, slices of slices, appends. Slices of slices, appends, makes, literals. Appends, makes, literals, clears. Every operation that is no call: it does what its abstract one says. Every operation that is no call, together. The operations that make and read; all of them together. Calls, and regions whose operations stand in order. Regions whose order is drawn: whatever the order, what the text's order gives. -/
import Derived.Calls
import Derived.Test.YtkjonfojileipaaGreatDoorProg
import Derived.Shelf.Strings.Fields
import Derived.WalkKit
import Derived.Tactics
import Derived.Orders
set_option linter.unusedSimpArgs false
set_option linter.unusedVariables false
namespace Go.Proofs.YtkjonfojileipaaGreatDoor.Ae
open Go
inductive AV where
  | undef
  | bool (b : Bool)
  | int (k : IntKind) (n : Int)
  | str (s : ByteArray)
  | nilp
  | ptr (d i off : Nat)
  | aptr (d i off ver : Nat)
  | eptr (cs : List AV)
  | imm (full : Bool) (n : Nat) (cs : List AV)
  | slr (d i off n ver : Nat) (full : Bool)
  | agg (cs : List AV)
  | tup (vs : List AV)
  | fn (f : Nat) (first caps : List AV)
  | nilfn
  | ifc (t : Nat) (v : AV)
  | nilifc
  | anyb
  | unw
  deriving Inhabited

def AV.isCell : AV → Bool
  | .undef | .unw | .agg _ | .tup _ => false
  | _ => true
def AV.cells : AV → List AV
  | .agg cs => cs
  | v => [v]

mutual
def AV.lowB (D : Nat) : AV → Bool
  | .ptr d _ _ | .aptr d _ _ _ | .slr d _ _ _ _ _ => decide (d < D)
  | .agg cs => AV.lowL D cs
  | .tup vs => AV.lowL D vs
  | .fn _ a b => AV.lowL D a && AV.lowL D b
  | .ifc _ v => AV.lowB D v
  | _ => true
def AV.lowL (D : Nat) : List AV → Bool
  | [] => true
  | v :: r => AV.lowB D v && AV.lowL D r
end

mutual
def AV.same : AV → AV → Bool
  | .undef, .undef => true
  | .bool a, .bool b => a == b
  | .int k n, .int k' m => decide (k = k') && decide (n = m)
  | .str a, .str b => decide (a = b)
  | .nilp, .nilp => true
  | .ptr d i o, .ptr d' i' o' => d == d' && i == i' && o == o'
  | .aptr d i o v, .aptr d' i' o' v' => d == d' && i == i' && o == o' && v == v'
  | .eptr a, .eptr b => AV.sameL a b
  | .imm f n a, .imm g m b => f == g && n == m && AV.sameL a b
  | .slr d i o n v f, .slr d' i' o' n' v' f' => d == d' && i == i' && o == o' && n == n' && v == v' && f == f'
  | .agg a, .agg b => AV.sameL a b
  | .tup a, .tup b => AV.sameL a b
  | .fn f a b, .fn g c d => f == g && AV.sameL a c && AV.sameL b d
  | .nilfn, .nilfn => true
  | .ifc t a, .ifc u b => t == u && AV.same a b
  | .nilifc, .nilifc => true
  | .anyb, .anyb => true
  | .unw, .unw => true
  | _, _ => false
def AV.sameL : List AV → List AV → Bool
  | [], [] => true
  | a :: r, b :: q => AV.same a b && AV.sameL r q
  | _, _ => false
end
mutual
theorem same_eq : ∀ {a b : AV}, AV.same a b = true → a = b
  | .undef, b, h => by cases b <;> simp_all [AV.same]
  | .bool _, b, h => by cases b <;> simp_all [AV.same]
  | .int _ _, b, h => by cases b <;> simp_all [AV.same]
  | .str _, b, h => by cases b <;> simp_all [AV.same]
  | .nilp, b, h => by cases b <;> simp_all [AV.same]
  | .ptr _ _ _, b, h => by cases b <;> simp_all [AV.same]
  | .aptr _ _ _ _, b, h => by cases b <;> simp_all [AV.same]
  | .eptr a, b, h => by
    cases b <;> simp only [AV.same, Bool.and_eq_true, reduceCtorEq] at h
    rw [sameL_eq h]
  | .imm _ _ a, b, h => by
    cases b <;> simp only [AV.same, Bool.and_eq_true, beq_iff_eq, reduceCtorEq, Bool.false_eq_true] at h
    rw [h.1.1,h.1.2,sameL_eq h.2]
  | .slr _ _ _ _ _ _, b, h => by cases b <;> simp_all [AV.same]
  | .agg a, b, h => by
    cases b <;> simp only [AV.same, Bool.and_eq_true, reduceCtorEq, Bool.false_eq_true] at h
    rw [sameL_eq h]
  | .tup a, b, h => by
    cases b <;> simp only [AV.same, Bool.and_eq_true, reduceCtorEq, Bool.false_eq_true] at h
    rw [sameL_eq h]
  | .fn _ a c, b, h => by
    cases b <;> simp only [AV.same, Bool.and_eq_true, beq_iff_eq, reduceCtorEq, Bool.false_eq_true] at h
    rw [h.1.1,sameL_eq h.1.2,sameL_eq h.2]
  | .nilfn, b, h => by cases b <;> simp_all [AV.same]
  | .ifc _ a, b, h => by
    cases b <;> simp only [AV.same, Bool.and_eq_true, beq_iff_eq, reduceCtorEq, Bool.false_eq_true] at h
    rw [h.1,same_eq h.2]
  | .nilifc, b, h => by cases b <;> simp_all [AV.same]
  | .anyb, b, h => by cases b <;> simp_all [AV.same]
  | .unw, b, h => by cases b <;> simp_all [AV.same]
theorem sameL_eq : ∀ {a b : List AV}, AV.sameL a b = true → a = b
  | [], b, h => by cases b <;> simp_all [AV.sameL]
  | x :: r, b, h => by
    cases b <;> simp only [AV.sameL, Bool.and_eq_true, reduceCtorEq, Bool.false_eq_true] at h
    rw [same_eq h.1,sameL_eq h.2]
end
mutual
theorem same_self : ∀ a : AV, AV.same a a = true
  | .undef | .bool _ | .int _ _ | .str _ | .nilp | .ptr _ _ _ | .aptr _ _ _ _ | .slr _ _ _ _ _ _ | .nilfn | .nilifc | .anyb | .unw => by simp [AV.same]
  | .eptr a | .agg a | .tup a => by simp only [AV.same]; exact sameL_self a
  | .imm _ _ a => by simp only [AV.same, sameL_self a, beq_self_eq_true, Bool.and_self]
  | .fn _ a c => by simp only [AV.same, sameL_self a, sameL_self c, beq_self_eq_true, Bool.and_self]
  | .ifc _ a => by simp only [AV.same, same_self a, beq_self_eq_true, Bool.and_self]
theorem sameL_self : ∀ a : List AV, AV.sameL a a = true
  | [] => rfl
  | x :: r => by simp only [AV.sameL, same_self x, sameL_self r, Bool.and_self]
end

def cellsOk (D : Nat) (cs : List AV) : Bool := cs.all fun v => v.isCell && v.lowB D

inductive Obj where
  | box (t : Nat) (cs : List AV)
  | arr (e sz : Nat) (cs : List AV) (ver pr : Nat)
  deriving Inhabited

structure Store where
  low : List (List Obj)
  top : List Obj

namespace Store
def get (s : Store) (d i : Nat) : Option Obj := if d = s.low.length then s.top[i]? else (s.low[d]?).bind (·[i]?)
def set (s : Store) (d i : Nat) (o : Obj) : Store :=
  if d = s.low.length then { s with top := s.top.set i o } else { s with low := s.low.modify d (·.set i o) }
def push (s : Store) : Store := ⟨s.low ++ [s.top], []⟩
def pop (s : Store) : Store := ⟨s.low.dropLast, s.low.getLastD []⟩
def new (s : Store) (o : Obj) : Store := { s with top := s.top ++ [o] }
def new0 (s : Store) (o : Obj) : Store := match s.low with | [] => ⟨[], s.top ++ [o]⟩ | l :: r => ⟨(l ++ [o]) :: r, s.top⟩
def len0 (s : Store) : Nat := match s.low with | [] => s.top.length | l :: _ => l.length
end Store

def frz1 (s : Store) : AV → Option (AV × Store)
  | .slr d i off n ver _ =>
    match s.get d i with
    | some (.arr e sz cs ver' pr) =>
      if ver = ver' ∧ AV.lowL 0 ((cs.drop off).take (n * sz)) = true ∧ off + n * sz ≤ cs.length then
        some (.imm false n ((cs.drop off).take (n * sz)), s.set d i (.arr e sz cs ver' (max pr (off + n * sz))))
      else none
    | _ => none
  | .imm _ n cs => some (.imm false n cs, s)
  | v => some (v, s)
def frzL (s : Store) : List AV → Option (List AV × Store)
  | [] => some ([], s)
  | v :: r => (frz1 s v).bind fun x => (frzL x.2 r).bind fun y => some (x.1 :: y.1, y.2)
def frz (s : Store) : AV → Option (AV × Store)
  | .agg cs => (frzL s cs).bind fun x => some (.agg x.1, x.2)
  | v => frz1 s v
def frzs (s : Store) : List AV → Option (List AV × Store)
  | [] => some ([], s)
  | v :: r => (frz s v).bind fun x => (frzs x.2 r).bind fun y => some (x.1 :: y.1, y.2)
def frzR (s : Store) : AV → Option (AV × Store)
  | .tup vs => (frzs s vs).bind fun x => some (.tup x.1, x.2)
  | v => frz s v
def frzK (k : Bool) (s : Store) (v : AV) : Option (AV × Store) := if k = true then some (v, s) else frzR s v

/-! ### operations on plain values -/
def bitsI (op : BinOp) (k : IntKind) (x y : Int) : Int :=
  let a := BitVec.ofInt k.bits x
  let b := BitVec.ofInt k.bits y
  match op with
  | .and => k.wrap (a &&& b).toNat
  | .or => k.wrap (a ||| b).toNat
  | .xor => k.wrap (a ^^^ b).toNat
  | _ => k.wrap (a &&& ~~~b).toNat
def binI (op : BinOp) (k : IntKind) (x y : Int) : Option AV :=
  match op with
  | .add => some (.int k (k.wrap (x + y)))
  | .sub => some (.int k (k.wrap (x - y)))
  | .mul => some (.int k (k.wrap (x * y)))
  | .quo => if y = 0 then none else some (.int k (k.wrap (x.tdiv y)))
  | .rem => if y = 0 then none else some (.int k (x.tmod y))
  | .and => some (.int k (bitsI .and k x y))
  | .or => some (.int k (bitsI .or k x y))
  | .xor => some (.int k (bitsI .xor k x y))
  | .andNot => some (.int k (bitsI .andNot k x y))
  | .eql => some (.bool (x == y))
  | .neq => some (.bool (x != y))
  | .lss => some (.bool (decide (x < y)))
  | .leq => some (.bool (decide (x ≤ y)))
  | .gtr => some (.bool (decide (x > y)))
  | .geq => some (.bool (decide (x ≥ y)))
  | _ => none
def binS (op : BinOp) (x y : ByteArray) : Option AV :=
  match op with
  | .add => if ((x.size + y.size : Nat) : Int) > IntKind.i64.max then none else some (.str (x ++ y))
  | .eql => some (.bool (x.toList == y.toList))
  | .neq => some (.bool (!(x.toList == y.toList)))
  | _ => none
def binV (op : BinOp) (x y : AV) : Option AV :=
  match x, y with
  | .int k a, .int k' b =>
    match op with
    | .shl => if b < 0 then none else some (.int k (k.wrap (a * 2 ^ min b.toNat k.bits)))
    | .shr => if b < 0 then none else some (.int k (a.fdiv (2 ^ min b.toNat k.bits)))
    | _ => if k = k' then binI op k a b else none
  | .str a, .str b => binS op a b
  | _, _ => none
def unV (op : UnOp) (x : AV) : Option AV :=
  match op, x with
  | .neg, .int k n => some (.int k (k.wrap (0 - n)))
  | .not, .bool b => some (.bool (!b))
  | _, _ => none

def fillL (cs : List AV) : List (Nat × List AV) → Option (List AV)
  | [] => some cs
  | (o, p) :: r => if o + p.length ≤ cs.length then fillL (cs.take o ++ p ++ cs.drop (o + p.length)) r else none

inductive Opd where
  | l (k : Nat)
  | v (i : Nat)
  | c (x : AV)

inductive AOp where
  | mov (x : Opd)
  | pick (c a b : Opd)
  | alloc (t : Nat) (z : List AV)
  | box (t n : Nat) (x : Opd)
  | build (z : List AV) (ps : List (Nat × Nat × Opd))
  | lit (e sz : Nat) (z : List AV) (ps : List (Nat × Opd)) (arr fz : Bool)
  | load (n : Option Nat) (p : Opd)
  | store (n : Nat) (p x : Opd)
  | nilck (p : Opd)
  | bin (op : BinOp) (x y : Opd)
  | un (op : UnOp) (x : Opd)
  | conv (k : IntKind) (x : Opd)
  | slice (sz : Nat) (x : Opd) (lo hi mx : Option Opd)
  | fptr (off : Nat) (p : Opd)
  | fld (off : Nat) (n : Option Nat) (x : Opd)
  | iptr (sz : Nat) (x i : Opd)
  | sidx (x i : Opd)
  | len (st : Bool) (x : Opd)
  | app (g : Bool) (e sz bytes : Nat) (x y : Opd)
  | mk (e sz bytes : Nat) (z : List AV) (n c : Opd)
  | clear (sz : Nat) (z : List AV) (x : Opd)
  | ext (x : Opd) (i : Nat)
  | mkfn (f : Nat) (first caps : List Opd)
  | ifc (t : Nat) (x : Opd)
  | beq (neg : Bool) (x y : Opd)
  | b2s (x : Opd)
  | convs (x : Opd)
  | min (x y : Opd)
  | isnil (k : Nat) (neg : Bool) (x : Opd)
  | call (f : Nat) (args : List Opd)
  | callv (f : Opd) (args : List Opd)

structure AO where
  op : AOp
  dv : Option Nat
  g : Option (Nat × Bool)

inductive Stm where
  | reg (ops : List AO) (chk : List (Nat × Nat))
  | seq (a b : Stm)
  | cond (c : Opd) (a b : Stm)
  | alt (r : Stm) (c : Opd) (a b rest : Stm)
  | block (id : Nat) (b : Stm)
  | loop (b : Stm)
  | exit (id : Nat)
  | ret
  | skip

inductive RV where
  | t (i : Nat)
  | cl (n : Option Nat) (i : Nat)

structure FC where
  np : Nat
  nv : Nat
  body : Stm
  res : List RV
  ref : Bool
  inl : Bool
  keep : Bool

def newBox (s : Store) (t : Nat) (cs : List AV) : Option (AV × Store) :=
  if cellsOk (s.low.length + 1) cs = true then some (.ptr s.low.length s.top.length 0, s.new (.box t cs)) else none
def newArr (s : Store) (e sz : Nat) (n : Nat) (cs : List AV) : Option (AV × Store) :=
  if cellsOk (s.low.length + 1) cs = true ∧ cs.length = n * sz then some (.slr s.low.length s.top.length 0 n 0 false, s.new (.arr e sz cs 0 0)) else none

def loadV (s : Store) (n : Option Nat) (p : AV) : Option AV :=
  match p with
  | .ptr d i off =>
    match s.get d i, n with
    | some (.box _ cs), none => cs[off]?
    | some (.box _ cs), some n => if off + n ≤ cs.length then some (.agg ((cs.drop off).take n)) else none
    | _, _ => none
  | .aptr d i off ver =>
    match s.get d i, n with
    | some (.arr _ _ cs ver' _), none => if ver = ver' then cs[off]? else none
    | some (.arr _ _ cs ver' _), some n => if ver = ver' ∧ off + n ≤ cs.length then some (.agg ((cs.drop off).take n)) else none
    | _, _ => none
  | .eptr cs =>
    match n with
    | none => cs[0]?
    | some n => if n ≤ cs.length then some (.agg (cs.take n)) else none
  | _ => none

def storeV (s : Store) (n : Nat) (p x : AV) : Option Store :=
  let ys := x.cells
  match p with
  | .ptr d i off =>
    match s.get d i with
    | some (.box t cs) =>
      if cellsOk (d + 1) ys = true ∧ ys.length = n ∧ off + n ≤ cs.length then some (s.set d i (.box t (cs.take off ++ ys ++ cs.drop (off + n)))) else none
    | _ => none
  | .aptr d i off ver =>
    match s.get d i with
    | some (.arr e sz cs ver' pr) =>
      if cellsOk (d + 1) ys = true ∧ ys.length = n ∧ off + n ≤ cs.length ∧ ver = ver' ∧ pr ≤ off then some (s.set d i (.arr e sz (cs.take off ++ ys ++ cs.drop (off + n)) ver' pr)) else none
    | _ => none
  | _ => none

def elems (s : Store) (x : AV) : Option (Nat × List AV) :=
  match x with
  | .imm _ n cs => some (n, cs)
  | .slr d i off n ver _ =>
    match s.get d i with
    | some (.arr _ sz cs ver' _) => if ver = ver' ∧ off + n * sz ≤ cs.length then some (n, (cs.drop off).take (n * sz)) else none
    | _ => none
  | _ => none

def optInt : Option AV → Int → Option Int
  | none, d => some d
  | some (.int _ n), _ => some n
  | _, _ => none

def sliceV (st : Store) (sz : Nat) (x : AV) (lo hi mx : Option AV) : Option AV :=
  match x with
  | .imm full n cs =>
    (optInt lo 0).bind fun l => (optInt hi n).bind fun h =>
      match mx with
      | none =>
        if 0 ≤ l ∧ l ≤ h ∧ h ≤ n ∧ sz ≠ 0 then some (.imm (full && decide (h = n)) (h - l).toNat ((cs.drop (l.toNat * sz)).take ((h - l).toNat * sz))) else none
      | some (.int _ m) =>
        if 0 ≤ l ∧ l ≤ h ∧ h ≤ n ∧ m = h ∧ hi.isSome = true ∧ sz ≠ 0 then some (.imm true (h - l).toNat ((cs.drop (l.toNat * sz)).take ((h - l).toNat * sz))) else none
      | _ => none
  | .slr d i off n ver full =>
    (optInt lo 0).bind fun l => (optInt hi n).bind fun h =>
      match st.get d i with
      | some (.arr _ sz' _ _ _) =>
        match mx with
        | none =>
          if 0 ≤ l ∧ l ≤ h ∧ h ≤ n ∧ (full = true → h = n) ∧ sz' = sz ∧ sz ≠ 0 then some (.slr d i (off + l.toNat * sz) (h - l).toNat ver full) else none
        | some (.int _ m) =>
          if 0 ≤ l ∧ l ≤ h ∧ h ≤ n ∧ m = h ∧ hi.isSome = true ∧ sz' = sz ∧ sz ≠ 0 then some (.slr d i (off + l.toNat * sz) (h - l).toNat ver true) else none
        | _ => none
      | _ => none
  | .str s =>
    (optInt lo 0).bind fun l => (optInt hi s.size).bind fun h =>
      match mx with
      | none => if 0 ≤ l ∧ l ≤ h ∧ h ≤ s.size ∧ sz = 0 then some (.str (s.extract l.toNat h.toNat)) else none
      | _ => none
  | _ => none

def strCells (s : ByteArray) : List AV := s.data.toList.map fun b => .int .u8 b.toNat

def srcOf (s : Store) (y : AV) : Option (Nat × List AV) :=
  match y with
  | .str t => some (t.size, strCells t)
  | y => elems s y
def appTo (s : Store) (e sz bytes : Nat) (x : AV) (m : Nat) (ys : List AV) : Option (AV × Store) :=
    match x with
    | .imm true n cs =>
      if (n + m) * bytes ≤ 140737488355328 ∧ cellsOk (s.low.length + 1) ys = true ∧ cs.length = n * sz ∧ ys.length = m * sz then
        if m = 0 then some (x, s) else newArr s e sz (n + m) (cs ++ ys)
      else none
    | .slr d i off n ver full =>
      match s.get d i with
      | some (.arr e' sz' cs ver' pr) =>
        if (n + m) * bytes ≤ 140737488355328 ∧ ver = ver' ∧ off + n * sz ≤ cs.length ∧ e' = e ∧ sz' = sz ∧ ys.length = m * sz then
          if full = true then
            if m = 0 then some (x, s) else
              if cellsOk (s.low.length + 1) ys = true then newArr s e sz (n + m) ((cs.drop off).take (n * sz) ++ ys) else none
          else if cellsOk (d + 1) ys = true ∧ pr ≤ off + n * sz then
            some (.slr d i 0 (n + m) (ver + 1) false, s.set d i (.arr e sz ((cs.drop off).take (n * sz) ++ ys) (ver + 1) (pr - off)))
          else none
        else none
      | _ => none
    | _ => none
def appV (s : Store) (e sz bytes : Nat) (x y : AV) : Option (AV × Store) := (srcOf s y).bind fun q => appTo s e sz bytes x q.1 q.2
def newArr0 (s : Store) (e sz : Nat) (n : Nat) (cs : List AV) : Option (AV × Store) :=
  if cellsOk 1 cs = true ∧ cs.length = n * sz then some (.slr 0 s.len0 0 n n false, s.new0 (.arr e sz cs n (n * sz))) else none
def appTo0 (s : Store) (e sz bytes : Nat) (x : AV) (m : Nat) (ys : List AV) : Option (AV × Store) :=
    match x with
    | .imm true n cs =>
      if (n + m) * bytes ≤ 140737488355328 ∧ cellsOk 1 ys = true ∧ cs.length = n * sz ∧ ys.length = m * sz then
        if m = 0 then some (x, s) else newArr0 s e sz (n + m) (cs ++ ys)
      else none
    | .slr d i off n ver full =>
      match s.get d i with
      | some (.arr e' sz' cs ver' pr) =>
        if (n + m) * bytes ≤ 140737488355328 ∧ ver = ver' ∧ off = 0 ∧ full = false ∧ d = 0 ∧ cs.length = n * sz ∧ e' = e ∧ sz' = sz ∧ ys.length = m * sz ∧ cellsOk 1 ys = true ∧ pr ≤ n * sz then
          if m = 0 then some (x, s) else some (.slr 0 i 0 (n + m) (ver + m) false, s.set 0 i (.arr e sz (cs ++ ys) (ver + m) ((n + m) * sz)))
        else none
      | _ => none
    | _ => none
def appG (s : Store) (e sz bytes : Nat) (x y : AV) : Option (AV × Store) := (srcOf s y).bind fun q => appTo0 s e sz bytes x q.1 q.2

def toBytes : List AV → ByteArray → Option ByteArray
  | [], b => some b
  | .int .u8 n :: r, b => toBytes r (b.push (UInt8.ofNat n.toNat))
  | _, _ => none

def repL (n : Nat) (z : List AV) : List AV :=
  match n with
  | 0 => []
  | n + 1 => z ++ repL n z

def mkV (s : Store) (e sz bytes : Nat) (z : List AV) (n c : AV) : Option (AV × Store) :=
  match n, c with
  | .int _ n, .int _ c => if 0 ≤ n ∧ n = c ∧ n * bytes ≤ 140737488355328 ∧ z.length = sz then newArr s e sz n.toNat (repL n.toNat z) else none
  | _, _ => none

def clearV (s : Store) (sz : Nat) (z : List AV) (x : AV) : Option Store :=
  match x with
  | .slr d i off n ver _ =>
    match s.get d i with
    | some (.arr e sz' cs ver' pr) =>
      if cellsOk 0 z = true ∧ z.length = sz ∧ sz' = sz ∧ off + n * sz ≤ cs.length ∧ ver = ver' ∧ pr ≤ off then
        some (s.set d i (.arr e sz' (cs.take off ++ repL n z ++ cs.drop (off + n * sz)) ver' pr)) else none
    | _ => none
  | .imm _ 0 _ => some s
  | _ => none

def partsOf (ρ : Opd → AV) : List (Nat × Nat × Opd) → Option (List (Nat × List AV))
  | [] => some []
  | (o, n, x) :: r => if (ρ x).cells.length = n ∧ (ρ x).cells.all AV.isCell = true then (partsOf ρ r).bind fun l => some ((o, (ρ x).cells) :: l) else none
def litParts (ρ : Opd → AV) (fz : Bool) (sz : Nat) (s : Store) : List (Nat × Opd) → Option (List (Nat × List AV) × Store)
  | [] => some ([], s)
  | (i, x) :: r =>
    ((if fz then frz s (ρ x) else some (ρ x, s)) : Option (AV × Store)).bind fun y =>
      if y.1.cells.length = sz ∧ y.1.cells.all AV.isCell = true then (litParts ρ fz sz y.2 r).bind fun l => some ((i * sz, y.1.cells) :: l.1, l.2) else none

def convsV : AV → Option AV := fun _ => none
def minV : AV → AV → Option AV
  | .int k a, .int k' b => if k = k' then some (.int k (if b < a then b else a)) else none
  | _, _ => none
def evOp (o : AOp) (ρ : Opd → AV) (s : Store) : Option (AV × Store) :=
  match o with
  | .mov x => some (ρ x, s)
  | .pick c a b => match ρ c with | .bool t => some (if t = true then ρ a else ρ b, s) | _ => none
  | .alloc t z => newBox s t z
  | .box t n x => if (ρ x).cells.length = n then newBox s t (ρ x).cells else none
  | .build z ps => (partsOf ρ ps).bind fun l => (fillL z l).bind fun cs => some (.agg cs, s)
  | .lit e sz z ps arr fz =>
    (litParts ρ fz sz s ps).bind fun l => (fillL (repL ps.length z) l.1).bind fun cs =>
      if arr then newArr l.2 e sz ps.length cs
      else if cellsOk 0 cs = true ∧ cs.length = ps.length * sz then some (.imm true ps.length cs, l.2) else none
  | .load n p => (loadV s n (ρ p)).bind fun v => some (v, s)
  | .store n p x => (storeV s n (ρ p) (ρ x)).bind fun s' => some (.undef, s')
  | .nilck p => match ρ p with | .ptr .. | .aptr .. | .eptr .. => some (ρ p, s) | _ => none
  | .bin op x y => (binV op (ρ x) (ρ y)).bind fun v => some (v, s)
  | .un op x => (unV op (ρ x)).bind fun v => some (v, s)
  | .conv k x => match ρ x with | .int _ n => some (.int k (k.wrap n), s) | _ => none
  | .slice sz x lo hi mx => (sliceV s sz (ρ x) (lo.map ρ) (hi.map ρ) (mx.map ρ)).bind fun v => some (v, s)
  | .fptr off p =>
    match ρ p with
    | .ptr d i o => some (.ptr d i (o + off), s)
    | .aptr d i o ver => some (.aptr d i (o + off) ver, s)
    | .eptr cs => some (.eptr (cs.drop off), s)
    | _ => none
  | .fld off n x =>
    match ρ x, n with
    | .agg cs, none => (cs[off]?).bind fun v => some (v, s)
    | .agg cs, some n => if off + n ≤ cs.length then some (.agg ((cs.drop off).take n), s) else none
    | _, _ => none
  | .iptr sz x i =>
    match ρ x, ρ i with
    | .imm _ n cs, .int _ k => if 0 ≤ k ∧ k < n then some (.eptr (cs.drop (k.toNat * sz)), s) else none
    | .slr d i off n ver _, .int _ k => if 0 ≤ k ∧ k < n then some (.aptr d i (off + k.toNat * sz) ver, s) else none
    | _, _ => none
  | .sidx x i =>
    match ρ x, ρ i with
    | .str t, .int _ k => if 0 ≤ k then match t.data[k.toNat]? with | some b => some (.int .u8 b.toNat, s) | none => none else none
    | _, _ => none
  | .len st x =>
    match st, ρ x with
    | false, .imm _ n _ => some (.int .i64 n, s)
    | false, .slr _ _ _ n _ _ => some (.int .i64 n, s)
    | true, .str t => some (.int .i64 t.size, s)
    | _, _ => none
  | .app g e sz bytes x y => if g = true then appG s e sz bytes (ρ x) (ρ y) else appV s e sz bytes (ρ x) (ρ y)
  | .mk e sz bytes z n c => mkV s e sz bytes z (ρ n) (ρ c)
  | .clear sz z x => (clearV s sz z (ρ x)).bind fun s' => some (.undef, s')
  | .ext x i => match ρ x with | .tup vs => (vs[i]?).bind fun v => some (v, s) | _ => none
  | .mkfn f first caps => some (.fn f (first.map ρ) (caps.map ρ), s)
  | .ifc t x => some (.ifc t (ρ x), s)
  | .beq neg x y => match ρ x, ρ y with | .bool a, .bool b => some (.bool (if neg then !(a == b) else a == b), s) | _, _ => none
  | .isnil k neg x =>
    match k, ρ x with
    | 0, .imm _ n _ => some (if n = 0 then .anyb else .bool neg, s)
    | 0, .slr _ _ _ n _ _ => some (if n = 0 then .anyb else .bool neg, s)
    | 1, .nilp => some (.bool (!neg), s)
    | 1, .ptr .. => some (.bool neg, s)
    | 1, .aptr .. => some (.bool neg, s)
    | 1, .eptr .. => some (.bool neg, s)
    | 2, .nilfn => some (.bool (!neg), s)
    | 2, .fn .. => some (.bool neg, s)
    | 3, .nilifc => some (.bool (!neg), s)
    | 3, .ifc .. => some (.bool neg, s)
    | _, _ => none
  | .b2s x => (elems s (ρ x)).bind fun q => if q.1 = q.2.length then (toBytes q.2 .empty).bind fun b => some (.str b, s) else none
  | .convs x => (convsV (ρ x)).bind fun v => some (v, s)
  | .min x y => (minV (ρ x) (ρ y)).bind fun v => some (v, s)
  | _ => none

abbrev CallT := Nat → List AV → Store → Option (AV × Store)

def evAct (call : CallT) (o : AOp) (ρ : Opd → AV) (s : Store) : Option (AV × Store) :=
  match o with
  | .call f args => call f (args.map ρ) s
  | .callv g args => match ρ g with | .fn f first caps => call f (first ++ args.map ρ ++ caps) s | _ => none
  | o => evOp o ρ s

def rd (ls vs : List AV) : Opd → AV
  | .l k => ls.getD k .undef
  | .v i => vs.getD i .undef
  | .c x => x

def evOne (call : CallT) (o : AO) (ls vs : List AV) (s : Store) : Option (AV × Store) :=
  match o.g with
  | none => evAct call o.op (rd ls vs) s
  | some (j, want) =>
    match ls.getD j .undef with
    | .bool b => if b = want then evAct call o.op (rd ls vs) s else some (.unw, s)
    | .unw => some (.unw, s)
    | _ => none

def putV (dv : Option Nat) (vs : List AV) (x : AV) : List AV :=
  match dv with
  | some i => vs.set i x
  | none => vs

def evOps (call : CallT) : List AO → List AV → List AV → Store → Option (List AV × Store)
  | [], _, vs, s => some (vs, s)
  | o :: r, ls, vs, s => (evOne call o ls vs s).bind fun x => evOps call r (ls ++ [x.1]) (putV o.dv vs x.1) x.2

structure St where
  vs : List AV
  s : Store
inductive Ex where
  | nor
  | exit (id : Nat)
  | ret
  deriving DecidableEq

structure Tr where
  ls : List AV
  vs : List AV
  s : Store
def evTr (call : CallT) : List AO → Tr → Option (List Tr)
  | [], t => some [t]
  | o :: r, t => (evOne call o t.ls t.vs t.s).bind fun x => (evTr call r ⟨t.ls ++ [x.1], putV o.dv t.vs x.1, x.2⟩).bind fun l => some (t :: l)
def noCall : CallT := fun _ _ _ => none
def chkOne (ops : List AO) (l : List Tr) (c : Nat × Nat) : Bool :=
  match ops[c.1]?, l[c.1]?, l[c.1 + 1]?, l[c.2]? with
  | some o, some t, some t', some u => match evOne noCall o t.ls t.vs u.s with | some x => AV.same x.1 (t'.ls.getD c.1 .undef) | none => false
  | _, _, _, _ => false
def evReg (call : CallT) (ops : List AO) (chk : List (Nat × Nat)) (st : St) : Option (Ex × St) :=
  match chk with
  | [] => (evOps call ops [] st.vs st.s).bind fun x => some (.nor, ⟨x.1, x.2⟩)
  | chk => (evTr call ops ⟨[], st.vs, st.s⟩).bind fun l => if chk.all (chkOne ops l) = true then (l.getLast?).bind fun t => some (.nor, ⟨t.vs, t.s⟩) else none

def Obj.same : Obj → Obj → Bool
  | .box t a, .box u b => t == u && AV.sameL a b
  | .arr e z a v p, .arr e' z' a' v' p' => e == e' && z == z' && AV.sameL a a' && v == v' && p == p'
  | _, _ => false
def sameBy {α : Type} (f : α → α → Bool) : List α → List α → Bool
  | [], [] => true
  | a :: r, b :: q => f a b && sameBy f r q
  | _, _ => false
def Store.same (a b : Store) : Bool := sameBy (sameBy Obj.same) a.low b.low && sameBy Obj.same a.top b.top
theorem Obj.same_eq {a b : Obj} (h : Obj.same a b = true) : a = b := by
  cases a <;> cases b <;> simp only [Obj.same, Bool.and_eq_true, beq_iff_eq, Bool.false_eq_true] at h
  · rw [h.1, sameL_eq h.2]
  · rw [h.1.1.1.1, h.1.1.1.2, sameL_eq h.1.1.2, h.1.2, h.2]
theorem sameBy_eq {α : Type} {f : α → α → Bool} (hf : ∀ a b, f a b = true → a = b) : ∀ {l r : List α}, sameBy f l r = true → l = r
  | [], [], _ => rfl
  | [], _ :: _, h => by simp [sameBy] at h
  | _ :: _, [], h => by simp [sameBy] at h
  | a :: l, b :: r, h => by
    simp only [sameBy,Bool.and_eq_true] at h
    rw [hf a b h.1,sameBy_eq hf h.2]
theorem Store.same_eq {a b : Store} (h : Store.same a b = true) : a = b := by
  unfold Store.same at h
  simp only [Bool.and_eq_true] at h
  have h1:=sameBy_eq (fun _ _ h=>sameBy_eq (fun _ _ h=>Obj.same_eq h) h) h.1
  have h2:=sameBy_eq (fun _ _ h=>Obj.same_eq h) h.2
  cases a; cases b
  simp only at h1 h2
  rw [h1,h2]
theorem Obj.same_self (a : Obj) : Obj.same a a = true := by cases a <;> simp [Obj.same, sameL_self]
theorem sameBy_self {α : Type} {f : α → α → Bool} (hf : ∀ a, f a a = true) : ∀ l : List α, sameBy f l l = true
  | [] => rfl
  | a :: l => by simp [sameBy, hf, sameBy_self hf l]
theorem Store.same_self (a : Store) : Store.same a a = true := by
  unfold Store.same
  rw [sameBy_self Obj.same_self,sameBy_self (sameBy_self Obj.same_self)]
  rfl
def joinVs : List AV → List AV → List AV
  | a :: r, b :: q => (if AV.same a b = true then a else .undef) :: joinVs r q
  | _, _ => []
def joinR (a b : Ex × St) : Option (Ex × St) := if a.1 = b.1 ∧ Store.same a.2.s b.2.s = true then some (a.1, ⟨joinVs a.2.vs b.2.vs, a.2.s⟩) else none

def loopN (g : St → Option (Ex × St)) : Nat → St → Option (Ex × St)
  | 0, _ => none
  | n + 1, st => (g st).bind fun r => match r.1 with | .nor => loopN g n r.2 | _ => some r

def evS (call : CallT) (n : Nat) : Stm → St → Option (Ex × St)
  | .reg ops chk, st => evReg call ops chk st
  | .seq a b, st => (evS call n a st).bind fun r => match r.1 with | .nor => evS call n b r.2 | _ => some r
  | .cond c a b, st => match rd [] st.vs c with | .bool t => if t = true then evS call n a st else evS call n b st | .anyb => (evS call n a st).bind fun x => (evS call n b st).bind fun y => joinR x y | _ => none
  | .alt r c a b rest, st => (evS call n r st).bind fun x => match x.1 with
    | .nor =>
      match rd [] x.2.vs c with
      | .bool t => ((if t = true then evS call n a x.2 else evS call n b x.2)).bind fun y => match y.1 with | .nor => evS call n rest y.2 | _ => some y
      | .anyb => ((evS call n a x.2).bind fun y => match y.1 with | .nor => evS call n rest y.2 | _ => some y).bind fun p => ((evS call n b x.2).bind fun y => match y.1 with | .nor => evS call n rest y.2 | _ => some y).bind fun q => joinR p q
      | _ => none
    | _ => some x
  | .block id b, st => (evS call n b st).bind fun r => match r.1 with | .exit k => if k = id then some (.nor, r.2) else some r | _ => some r
  | .loop b, st => loopN (evS call n b) n st
  | .exit id, st => some (.exit id, st)
  | .ret, st => some (.ret, st)
  | .skip, st => some (.nor, st)

def resOne (s : Store) (vs : List AV) : RV → Option AV
  | .t i => some (vs.getD i .undef)
  | .cl n i => loadV s n (vs.getD i .undef)
def resL (s : Store) (vs : List AV) : List RV → Option (List AV)
  | [] => some []
  | r :: q => (resOne s vs r).bind fun x => (resL s vs q).bind fun l => some (x :: l)
def oneOr : List AV → AV
  | [x] => x
  | l => .tup l
def resV (s : Store) (vs : List AV) (rs : List RV) : Option AV := (resL s vs rs).bind fun l => some (oneOr l)

def evEnd (fc : FC) (r : Ex × St) : Option (AV × Store) :=
  match r.1 with
  | .exit _ => none
  | _ =>
    (resV r.2.s r.2.vs fc.res).bind fun v =>
      if fc.inl = true then some (v, r.2.s)
      else (frzK fc.keep r.2.s v).bind fun x => if x.1.lowB x.2.low.length = true then some (x.1, x.2.pop) else none

def st0 (fc : FC) (args : List AV) (s : Store) : St := ⟨args ++ List.replicate (fc.nv - fc.np) .undef, if fc.inl = true then s else s.push⟩
def argsV (fc : FC) (args : List AV) (s : Store) : Option (List AV × Store) :=
  if args.length = fc.np then (if fc.ref = true then some (args, s) else frzs s args) else none

def evF (call : CallT) (n : Nat) (fc : FC) (args : List AV) (s : Store) : Option (AV × Store) :=
  (argsV fc args s).bind fun a => (evS call n fc.body (st0 fc a.1 a.2)).bind fun r => evEnd fc r

def callN (T : Nat → Option FC) (prim : CallT) : Nat → CallT
  | 0 => fun _ _ _ => none
  | n + 1 => fun f args s => match T f with | some fc => evF (callN T prim n) n fc args s | none => prim f args s

/-! ### more fuel gives the same answer -/
def LeC (c c' : CallT) : Prop := ∀ f a s r, c f a s = some r → c' f a s = some r

theorem bind_some {α β : Type} {x : Option α} {f : α → Option β} {r : β} (h : x.bind f = some r) : ∃ a, x = some a ∧ f a = some r := Option.bind_eq_some_iff.1 h

theorem evAct_mono {c c' : CallT} (h : LeC c c') {o : AOp} {ρ : Opd → AV} {s : Store} {r : AV × Store} (e : evAct c o ρ s = some r) : evAct c' o ρ s = some r := by
  unfold evAct at *
  split at e
  · exact h _ _ _ _ e
  · split at e
    · exact h _ _ _ _ e
    · cases e
  · exact e
theorem evOne_mono {c c' : CallT} (h : LeC c c') {o : AO} {ls vs : List AV} {s : Store} {r : AV × Store} (e : evOne c o ls vs s = some r) : evOne c' o ls vs s = some r := by
  unfold evOne at *
  split at e
  · exact evAct_mono h e
  · split at e
    · split at e
      · rename_i hb; rw [if_pos hb]; exact evAct_mono h e
      · rename_i hb; rw [if_neg hb]; exact e
    · exact e
    · cases e
theorem evOps_mono {c c' : CallT} (h : LeC c c') : ∀ (ops : List AO) (ls vs : List AV) (s : Store) (r : List AV × Store), evOps c ops ls vs s = some r → evOps c' ops ls vs s = some r
  | [], _, _, _, _, e => e
  | o :: ops, ls, vs, s, r, e => by
    simp only [evOps] at e ⊢
    obtain ⟨x,hx,hr⟩:=bind_some e
    rw [evOne_mono h hx]
    exact evOps_mono h ops _ _ _ _ hr
theorem evTr_mono {c c' : CallT} (h : LeC c c') : ∀ (ops : List AO) (t : Tr) (r : List Tr), evTr c ops t = some r → evTr c' ops t = some r
  | [], _, _, e => e
  | o :: ops, t, r, e => by
    simp only [evTr] at e ⊢
    obtain ⟨x,hx,hr⟩:=bind_some e
    obtain ⟨y,hy,hr⟩:=bind_some hr
    rw [evOne_mono h hx]
    simp only [Option.bind_some]
    rw [evTr_mono h ops _ _ hy]
    exact hr
theorem evReg_mono {c c' : CallT} (h : LeC c c') {ops : List AO} {chk : List (Nat × Nat)} {st : St} {r : Ex × St} (e : evReg c ops chk st = some r) : evReg c' ops chk st = some r := by
  unfold evReg at *
  split at e
  · obtain ⟨x, hx, hr⟩ := bind_some e
    rw [evOps_mono h _ _ _ _ _ hx]
    exact hr
  · obtain ⟨x, hx, hr⟩ := bind_some e
    rw [evTr_mono h _ _ _ hx]
    exact hr
def LeG (g g' : St → Option (Ex × St)) : Prop := ∀ st r, g st = some r → g' st = some r
theorem loopN_mono {g g' : St → Option (Ex × St)} (h : LeG g g') : ∀ (n n' : Nat), n ≤ n' → LeG (loopN g n) (loopN g' n')
  | 0, _, _, _, _, e => by cases e
  | n + 1, 0, hn, _, _, _ => by omega
  | n + 1, n' + 1, hn, st, r, e => by
    simp only [loopN] at e ⊢
    obtain ⟨x,hx,hr⟩:=bind_some e
    rw [h _ _ hx]
    simp only [Option.bind_some]
    split at hr
    · exact loopN_mono h n n' (by omega) _ _ hr
    · exact hr
theorem bind_mono {α β : Type} {x x' : Option α} {f f' : α → Option β} {r : β} (h : x.bind f = some r) (hx : ∀ a, x = some a → x' = some a) (hf : ∀ a r, f a = some r → f' a = some r) : x'.bind f' = some r := by
  obtain ⟨a,h1,h2⟩:=bind_some h
  rw [hx a h1]
  exact hf a r h2
theorem evS_mono {c c' : CallT} (h : LeC c c') {n n' : Nat} (hn : n ≤ n') : ∀ b : Stm, LeG (evS c n b) (evS c' n' b)
  | .reg _ _, _, _, e => evReg_mono h e
  | .seq a b, st, r, e => by
    simp only [evS] at e ⊢
    obtain ⟨x,hx,hr⟩:=bind_some e
    rw [evS_mono h hn a _ _ hx]
    simp only [Option.bind_some]
    split at hr
    · exact evS_mono h hn b _ _ hr
    · exact hr
  | .cond x a b, st, r, e => by
    simp only [evS] at e ⊢
    split at e
    · split at e
      · rename_i ht; rw [if_pos ht]; exact evS_mono h hn a _ _ e
      · rename_i ht; rw [if_neg ht]; exact evS_mono h hn b _ _ e
    · obtain ⟨x, hx, e⟩ := bind_some e
      obtain ⟨y,hy,e⟩:=bind_some e
      rw [evS_mono h hn a _ _ hx,Option.bind_some,evS_mono h hn b _ _ hy]
      exact e
    · cases e
  | .alt p x a b q, st, r, e => by
    have hthen:∀ (y:Ex × St) r,(match y.1 with | .nor=>evS c n q y.2 | _=>some y) = some r→(match y.1 with | .nor=>evS c' n' q y.2 | _=>some y) = some r:=fun y r e=>by
      split at e
      · exact evS_mono h hn q _ _ e
      · exact e
    simp only [evS] at e ⊢
    refine bind_mono e (fun y hy=>evS_mono h hn p _ _ hy) fun y r e=>?_
    split at e
    · split at e
      · refine bind_mono e (fun y hy => ?_) hthen
        split at hy
        · rename_i ht; rw [if_pos ht]; exact evS_mono h hn a _ _ hy
        · rename_i ht; rw [if_neg ht]; exact evS_mono h hn b _ _ hy
      · exact bind_mono e (fun y hy => bind_mono hy (fun y hy => evS_mono h hn a _ _ hy) hthen) fun z r e => bind_mono e (fun y hy => bind_mono hy (fun y hy => evS_mono h hn b _ _ hy) hthen) fun _ _ e => e
      · cases e
    · exact e
  | .block id b, st, r, e => by
    simp only [evS] at e ⊢
    obtain ⟨x,hx,hr⟩:=bind_some e
    rw [evS_mono h hn b _ _ hx]
    exact hr
  | .loop b, st, r, e => by
    simp only [evS] at e ⊢
    exact loopN_mono (evS_mono h hn b) n n' hn _ _ e
  | .exit _, _, _, e => e
  | .ret, _, _, e => e
  | .skip, _, _, e => e
theorem evF_mono {c c' : CallT} (h : LeC c c') {n n' : Nat} (hn : n ≤ n') {fc : FC} {args : List AV} {s : Store} {r : AV × Store} (e : evF c n fc args s = some r) : evF c' n' fc args s = some r := by
  unfold evF at *
  obtain ⟨x,hx,e⟩:=bind_some e
  obtain ⟨y,hy,e⟩:=bind_some e
  rw [hx]
  simp only [Option.bind_some]
  rw [evS_mono h hn _ _ _ hy]
  exact e
section
variable {T : Nat → Option FC} {prim : CallT}
theorem callN_succ : ∀ n, LeC (callN T prim n) (callN T prim (n + 1))
  | 0, _, _, _, _, e => by cases e
  | n + 1, f, a, s, r, e => by
    simp only [callN] at e ⊢
    split at e
    · rename_i hf
      exact evF_mono (callN_succ n) (by omega) e
    · exact e
theorem callN_mono {n n' : Nat} (hn : n ≤ n') : LeC (callN T prim n) (callN T prim n') := by
  induction hn with
  | refl => exact fun _ _ _ _ e => e
  | step _ ih => exact fun f a s r e => callN_succ _ f a s r (ih f a s r e)

/-! ### the answer, whatever the fuel -/
open Classical in
noncomputable def callF (T : Nat → Option FC) (prim : CallT) : CallT := fun f a s =>
  if h : ∃ n, (callN T prim n f a s).isSome then callN T prim (Classical.choose h) f a s else none
theorem callF_of {n f : Nat} {a : List AV} {s : Store} {r : AV × Store} (h : callN T prim n f a s = some r) : callF T prim f a s = some r := by
  unfold callF
  have he:∃ n,(callN T prim n f a s).isSome:=⟨n,by rw [h]; rfl⟩
  rw [dif_pos he]
  obtain ⟨q,hq⟩:=Option.isSome_iff_exists.1 (Classical.choose_spec he)
  have h1:=callN_mono (Nat.le_max_left n (Classical.choose he)) _ _ _ _ h
  have h2:=callN_mono (Nat.le_max_right n (Classical.choose he)) _ _ _ _ hq
  rw [h1] at h2
  rw [hq,h2]
theorem callF_ex {f : Nat} {a : List AV} {s : Store} {r : AV × Store} (h : callF T prim f a s = some r) : ∃ n, callN T prim n f a s = some r := by
  unfold callF at h
  split at h
  · exact ⟨_, h⟩
  · cases h
open Classical in
noncomputable def loopF (g : St → Option (Ex × St)) (st : St) : Option (Ex × St) :=
  if h : ∃ n, (loopN g n st).isSome then loopN g (Classical.choose h) st else none
theorem loopF_of {g : St → Option (Ex × St)} {n : Nat} {st : St} {r : Ex × St} (h : loopN g n st = some r) : loopF g st = some r := by
  unfold loopF
  have he:∃ n,(loopN g n st).isSome:=⟨n,by rw [h]; rfl⟩
  rw [dif_pos he]
  obtain ⟨q,hq⟩:=Option.isSome_iff_exists.1 (Classical.choose_spec he)
  have h1:=loopN_mono (g:=g) (g':=g) (fun _ _ e=>e) _ _ (Nat.le_max_left n (Classical.choose he)) _ _ h
  have h2:=loopN_mono (g:=g) (g':=g) (fun _ _ e=>e) _ _ (Nat.le_max_right n (Classical.choose he)) _ _ hq
  rw [h1] at h2
  rw [hq,h2]
theorem loopF_ex {g : St → Option (Ex × St)} {st : St} {r : Ex × St} (h : loopF g st = some r) : ∃ n, loopN g n st = some r := by
  unfold loopF at h
  split at h
  · exact ⟨_, h⟩
  · cases h
theorem loopF_step {g : St → Option (Ex × St)} {st st' : St} (h : g st = some (.nor, st')) : loopF g st = loopF g st' := by
  apply Option.ext
  intro r
  constructor
  · intro e
    obtain ⟨n,hn⟩:=loopF_ex e
    cases n with
    | zero => cases hn
    | succ n =>
      simp only [loopN,h,Option.bind_some] at hn
      exact loopF_of hn
  · intro e
    obtain ⟨n,hn⟩:=loopF_ex e
    refine loopF_of (n:=n + 1) ?_
    simp only [loopN,h,Option.bind_some]
    exact hn
theorem loopF_end {g : St → Option (Ex × St)} {st : St} {r : Ex × St} (h : g st = some r) (hr : r.1 ≠ .nor) : loopF g st = some r := by
  refine loopF_of (n:=1) ?_
  simp only [loopN,h,Option.bind_some]

noncomputable def exS (call : CallT) : Stm → St → Option (Ex × St)
  | .reg ops chk, st => evReg call ops chk st
  | .seq a b, st => (exS call a st).bind fun r => match r.1 with | .nor => exS call b r.2 | _ => some r
  | .cond c a b, st => match rd [] st.vs c with | .bool t => if t = true then exS call a st else exS call b st | .anyb => (exS call a st).bind fun x => (exS call b st).bind fun y => joinR x y | _ => none
  | .alt r c a b rest, st => (exS call r st).bind fun x => match x.1 with
    | .nor =>
      match rd [] x.2.vs c with
      | .bool t => ((if t = true then exS call a x.2 else exS call b x.2)).bind fun y => match y.1 with | .nor => exS call rest y.2 | _ => some y
      | .anyb => ((exS call a x.2).bind fun y => match y.1 with | .nor => exS call rest y.2 | _ => some y).bind fun p => ((exS call b x.2).bind fun y => match y.1 with | .nor => exS call rest y.2 | _ => some y).bind fun q => joinR p q
      | _ => none
    | _ => some x
  | .block id b, st => (exS call b st).bind fun r => match r.1 with | .exit k => if k = id then some (.nor, r.2) else some r | _ => some r
  | .loop b, st => loopF (exS call b) st
  | .exit id, st => some (.exit id, st)
  | .ret, st => some (.ret, st)
  | .skip, st => some (.nor, st)

theorem evAct_fuel {o : AOp} {ρ : Opd → AV} {s : Store} {r : AV × Store} (e : evAct (callF T prim) o ρ s = some r) : ∃ n, evAct (callN T prim n) o ρ s = some r := by
  unfold evAct at *
  split at e
  · exact callF_ex e
  · split at e
    · exact callF_ex e
    · cases e
  · exact ⟨0, e⟩
theorem evOne_fuel {o : AO} {ls vs : List AV} {s : Store} {r : AV × Store} (e : evOne (callF T prim) o ls vs s = some r) : ∃ n, evOne (callN T prim n) o ls vs s = some r := by
  unfold evOne at *
  split at e
  · exact evAct_fuel e
  · split at e
    · split at e
      · rename_i hb
        obtain ⟨n,hn⟩:=evAct_fuel e
        exact ⟨n,by rw [if_pos hb]; exact hn⟩
      · rename_i hb
        exact ⟨0,by rw [if_neg hb]; exact e⟩
    · exact ⟨0, e⟩
    · cases e
theorem evOps_fuel : ∀ (ops : List AO) (ls vs : List AV) (s : Store) (r : List AV × Store), evOps (callF T prim) ops ls vs s = some r → ∃ n, evOps (callN T prim n) ops ls vs s = some r
  | [], _, _, _, _, e => ⟨0, e⟩
  | o :: ops, ls, vs, s, r, e => by
    simp only [evOps] at e ⊢
    obtain ⟨x,hx,hr⟩:=bind_some e
    obtain ⟨n,hn⟩:=evOne_fuel hx
    obtain ⟨m,hm⟩:=evOps_fuel ops _ _ _ _ hr
    refine ⟨max n m,?_⟩
    rw [evOne_mono (callN_mono (Nat.le_max_left n m)) hn]
    exact evOps_mono (callN_mono (Nat.le_max_right n m)) _ _ _ _ _ hm
theorem evTr_fuel : ∀ (ops : List AO) (t : Tr) (r : List Tr), evTr (callF T prim) ops t = some r → ∃ n, evTr (callN T prim n) ops t = some r
  | [], _, _, e => ⟨0, e⟩
  | o :: ops, t, r, e => by
    simp only [evTr] at e ⊢
    obtain ⟨x,hx,hr⟩:=bind_some e
    obtain ⟨y,hy,hr⟩:=bind_some hr
    obtain ⟨n,hn⟩:=evOne_fuel hx
    obtain ⟨m,hm⟩:=evTr_fuel ops _ _ hy
    refine ⟨max n m,?_⟩
    rw [evOne_mono (callN_mono (Nat.le_max_left n m)) hn]
    simp only [Option.bind_some]
    rw [evTr_mono (callN_mono (Nat.le_max_right n m)) _ _ _ hm]
    exact hr
theorem evReg_fuel {ops : List AO} {chk : List (Nat × Nat)} {st : St} {r : Ex × St} (e : evReg (callF T prim) ops chk st = some r) : ∃ n, evReg (callN T prim n) ops chk st = some r := by
  unfold evReg at *
  split at e
  · obtain ⟨x, hx, hr⟩ := bind_some e
    obtain ⟨n,hn⟩:=evOps_fuel _ _ _ _ _ hx
    exact ⟨n,by rw [hn]; exact hr⟩
  · obtain ⟨x, hx, hr⟩ := bind_some e
    obtain ⟨n,hn⟩:=evTr_fuel _ _ _ hx
    exact ⟨n,by rw [hn]; exact hr⟩
theorem exS_fuel : ∀ (b : Stm) (st : St) (r : Ex × St), exS (callF T prim) b st = some r → ∃ n, evS (callN T prim n) n b st = some r
  | .reg _ _, _, _, e => by obtain ⟨n, hn⟩ := evReg_fuel e; exact ⟨n, hn⟩
  | .seq a b, st, r, e => by
    simp only [exS] at e
    obtain ⟨x,hx,hr⟩:=bind_some e
    obtain ⟨n,hn⟩:=exS_fuel a _ _ hx
    split at hr
    · rename_i hnor
      obtain ⟨m,hm⟩:=exS_fuel b _ _ hr
      refine ⟨max n m,?_⟩
      simp only [evS]
      rw [evS_mono (callN_mono (Nat.le_max_left n m)) (Nat.le_max_left n m) a _ _ hn]
      simp only [Option.bind_some,hnor]
      exact evS_mono (callN_mono (Nat.le_max_right n m)) (Nat.le_max_right n m) b _ _ hm
    · rename_i hnor
      refine ⟨n,?_⟩
      simp only [evS,hn,Option.bind_some]
      exact hr
  | .cond x a b, st, r, e => by
    simp only [exS] at e
    split at e
    · rename_i t ht
      split at e
      · rename_i h1
        obtain ⟨n,hn⟩:=exS_fuel a _ _ e
        exact ⟨n,by simp only [evS,ht,h1,if_true]; exact hn⟩
      · rename_i h1
        obtain ⟨n,hn⟩:=exS_fuel b _ _ e
        exact ⟨n,by simp only [evS,ht]; rw [if_neg h1]; exact hn⟩
    · rename_i ht
      obtain ⟨x,hx,e⟩:=bind_some e
      obtain ⟨y,hy,e⟩:=bind_some e
      obtain ⟨n,hn⟩:=exS_fuel a _ _ hx
      obtain ⟨m,hm⟩:=exS_fuel b _ _ hy
      refine ⟨max n m,?_⟩
      simp only [evS,ht]
      rw [evS_mono (callN_mono (Nat.le_max_left n m)) (Nat.le_max_left n m) a _ _ hn,Option.bind_some,evS_mono (callN_mono (Nat.le_max_right n m)) (Nat.le_max_right n m) b _ _ hm]
      exact e
    · cases e
  | .alt p x a b q, st, r, e => by
    have hthen:∀ (y:Ex × St) r,(match y.1 with | .nor=>exS (callF T prim) q y.2 | _=>some y) = some r→∃ n,(match y.1 with | .nor=>evS (callN T prim n) n q y.2 | _=>some y) = some r:=fun y r e=>by
      split at e
      · exact exS_fuel q _ _ e
      · exact ⟨0, e⟩
    have thenM:∀ (y:Ex × St) r (n m:Nat),n ≤ m→(match y.1 with | .nor=>evS (callN T prim n) n q y.2 | _=>some y) = some r→(match y.1 with | .nor=>evS (callN T prim m) m q y.2 | _=>some y) = some r:=fun y r n m hnm e=>by
      split at e
      · exact evS_mono (callN_mono hnm) hnm q _ _ e
      · exact e
    have two:∀ (a:Stm),(∀ st r,exS (callF T prim) a st = some r→∃ n,evS (callN T prim n) n a st = some r)→∀ st r,((exS (callF T prim) a st).bind fun y=>match y.1 with | .nor=>exS (callF T prim) q y.2 | _=>some y) = some r →
        ∃ n, ∀ m, n ≤ m → ((evS (callN T prim m) m a st).bind fun y => match y.1 with | .nor => evS (callN T prim m) m q y.2 | _ => some y) = some r := fun a ha st r e => by
      obtain ⟨y,hy,e⟩:=bind_some e
      obtain ⟨n,hn⟩:=ha _ _ hy
      obtain ⟨k,hk⟩:=hthen _ _ e
      refine ⟨max n k,fun m hm=>?_⟩
      rw [evS_mono (callN_mono (n:=n) (by omega)) (n:=n) (by omega) a _ _ hn]
      exact thenM _ _ _ _ (by omega) hk
    simp only [exS] at e
    obtain ⟨y,hy,e⟩:=bind_some e
    obtain ⟨n,hn⟩:=exS_fuel p _ _ hy
    split at e
    · rename_i hnor
      split at e
      · rename_i t ht
        have:∃ k,∀ m,k ≤ m→((if t = true then evS (callN T prim m) m a y.2 else evS (callN T prim m) m b y.2).bind fun y=>match y.1 with | .nor=>evS (callN T prim m) m q y.2 | _=>some y) = some r:=by
          cases t with
          | true => exact two a (exS_fuel a) _ _ e
          | false => exact two b (exS_fuel b) _ _ e
        obtain ⟨k,hk⟩:=this
        refine ⟨max n k,?_⟩
        simp only [evS]
        rw [evS_mono (callN_mono (n:=n) (by omega)) (n:=n) (by omega) p _ _ hn]
        simp only [Option.bind_some,hnor,ht]
        exact hk _ (by omega)
      · rename_i ht
        obtain ⟨u,hu,e⟩:=bind_some e
        obtain ⟨v,hv,e⟩:=bind_some e
        obtain ⟨k1,hk1⟩:=two a (exS_fuel a) _ _ hu
        obtain ⟨k2,hk2⟩:=two b (exS_fuel b) _ _ hv
        refine ⟨max n (max k1 k2),?_⟩
        simp only [evS]
        rw [evS_mono (callN_mono (n:=n) (by omega)) (n:=n) (by omega) p _ _ hn]
        simp only [Option.bind_some,hnor,ht]
        rw [hk1 _ (by omega),Option.bind_some,hk2 _ (by omega)]
        exact e
      · cases e
    · rename_i hnor
      refine ⟨n,?_⟩
      simp only [evS]
      rw [hn]
      simp only [Option.bind_some]
      exact e
  | .block id b, st, r, e => by
    simp only [exS] at e
    obtain ⟨x,hx,hr⟩:=bind_some e
    obtain ⟨n,hn⟩:=exS_fuel b _ _ hx
    exact ⟨n,by simp only [evS]; rw [hn]; exact hr⟩
  | .loop b, st, r, e => by
    simp only [exS] at e
    obtain ⟨m,hm⟩:=loopF_ex e
    have key:∀ (m:Nat) (st:St) (r:Ex × St),loopN (exS (callF T prim) b) m st = some r→∃ n,loopN (evS (callN T prim n) n b) n st = some r:=by
      intro m
      induction m with
      | zero => intro st r h; cases h
      | succ m ih =>
        intro st r h
        simp only [loopN] at h
        obtain ⟨x,hx,hr⟩:=bind_some h
        obtain ⟨n,hn⟩:=exS_fuel b _ _ hx
        split at hr
        · rename_i hnor
          obtain ⟨k,hk⟩:=ih _ _ hr
          refine ⟨max n k + 1,?_⟩
          simp only [loopN]
          rw [evS_mono (callN_mono (n:=n) (by omega)) (n:=n) (by omega) b _ _ hn]
          simp only [Option.bind_some,hnor]
          exact loopN_mono (evS_mono (callN_mono (n:=k) (by omega)) (n:=k) (by omega) b) k _ (by omega) _ _ hk
        · rename_i hnor
          refine ⟨n + 1,?_⟩
          simp only [loopN]
          rw [evS_mono (callN_mono (n:=n) (by omega)) (n:=n) (by omega) b _ _ hn]
          simp only [Option.bind_some]
          exact hr
    obtain ⟨n,hn⟩:=key m st r hm
    exact ⟨n,by simp only [evS]; exact hn⟩
  | .exit _, _, _, e => ⟨0, e⟩
  | .ret, _, _, e => ⟨0, e⟩
  | .skip, _, _, e => ⟨0, e⟩

noncomputable def exF (call : CallT) (fc : FC) (args : List AV) (s : Store) : Option (AV × Store) :=
  (argsV fc args s).bind fun a => (exS call fc.body (st0 fc a.1 a.2)).bind fun r => evEnd fc r

theorem callF_fc {f : Nat} {fc : FC} {args : List AV} {s : Store} {r : AV × Store} (hf : T f = some fc) (h : exF (callF T prim) fc args s = some r) : callF T prim f args s = some r := by
  unfold exF at h
  obtain ⟨x,hx,h⟩:=bind_some h
  obtain ⟨y,hy,h⟩:=bind_some h
  obtain ⟨n,hn⟩:=exS_fuel _ _ _ hy
  refine callF_of (n:=n + 1) ?_
  simp only [callN,hf]
  unfold evF
  rw [hx]
  simp only [Option.bind_some]
  rw [hn]
  exact h
theorem callF_prim {f : Nat} {args : List AV} {s : Store} {r : AV × Store} (hf : T f = none) (h : prim f args s = some r) : callF T prim f args s = some r := by
  refine callF_of (n:=1) ?_
  simp only [callN,hf]
  exact h
end
end Go.Proofs.YtkjonfojileipaaGreatDoor.Ae
namespace Go.Proofs.YtkjonfojileipaaGreatDoor.Ae
open Go
def WGood (w : World) : Prop := w.var? Tryz.prog "internal/strconv.uint64pow10" = some (((List.range 20).map fun i => ((10 ^ i : Nat) : Int)).map fun z => Value.int .u64 z).toArray ∧ Lib.TabIs Tryz.prog w "strings.asciiSpace" .u8 Lib.asciiSpaceTab
structure Loc where
  blk : Nat
  base : Nat
  lim : Nat

structure Cs where
  p : Nat → Nat → Prop
  fz : Nat → Prop
  w0 : World
instance : CoeFun Cs (fun _ => Nat → Nat → Prop) := ⟨Cs.p⟩

def SlOk (l : Loc) (sz off n : Nat) (full : Bool) (v : Value) : Prop :=
  ∃ A cap, v = .slice A n cap ∧ n ≤ cap ∧ (if full = true then cap = n ∧ l.base + off + n * sz ≤ l.lim else l.base + off + cap * sz = l.lim) ∧ (0 < cap → A = some ⟨l.blk, l.base + off, none⟩)

def SlV (n : Nat) (full : Bool) (v : Value) : Prop := ∃ A cap, v = .slice A n cap ∧ n ≤ cap ∧ (full = true → cap = n) ∧ (0 < cap → ∃ a, A = some a)
theorem SlOk.slV {l : Loc} {sz off n : Nat} {full : Bool} {v : Value} (h : SlOk l sz off n full v) : SlV n full v := by
  obtain ⟨A,cap,rfl,hn,hf,hA⟩:=h
  refine ⟨A,cap,rfl,hn,fun hq=>?_,fun hq=>⟨_,hA hq⟩⟩
  rw [if_pos hq] at hf
  exact hf.1

inductive VR (s : Store) (L : Nat → Nat → Loc) (C : Cs) (w : World) : AV → Value → Prop
  | undef (v : Value) : VR s L C w .undef v
  | bool (b : Bool) : VR s L C w (.bool b) (.bool b)
  | int (k : IntKind) (n : Int) : VR s L C w (.int k n) (.int k n)
  | str (t : ByteArray) : VR s L C w (.str t) (.string t)
  | nilp : VR s L C w .nilp (.pointer none)
  | ptr (d i off t : Nat) (cs : List AV) (h : s.get d i = some (.box t cs)) : VR s L C w (.ptr d i off) (.pointer (some ⟨(L d i).blk, off, none⟩))
  | aptr (d i off ver e sz : Nat) (cs : List AV) (ver' pr : Nat) (v : Value) (h : s.get d i = some (.arr e sz cs ver' pr)) (hv : ver ≤ ver') (hs : ∃ a, v = .pointer (some a))
      (hc : ver = ver' → v = .pointer (some ⟨(L d i).blk, (L d i).base + off, none⟩)) : VR s L C w (.aptr d i off ver) v
  | eptr (cs : List AV) (a : Addr) (b o : Nat) (u : Nat → Value) (hA : cs ≠ [] → a = ⟨b, o, none⟩) (hok : cellsOk 0 cs = true) (hc : ∀ (j : Nat) x, cs[j]? = some x → C b (o + j) ∧ w.cell? ⟨b, o + j, none⟩ = some (u j))
      (hr : ∀ (j : Nat) x, cs[j]? = some x → VR s L C w x (u j)) : VR s L C w (.eptr cs) (.pointer (some a))
  | imm (full : Bool) (n : Nat) (cs : List AV) (A : Option Addr) (cap b o : Nat) (u : Nat → Value) (hn : n ≤ cap ∧ (0 < cap → ∃ a, A = some a)) (hf : full = true → cap = n) (hok : cellsOk 0 cs = true)
      (hA : cs ≠ [] → A = some ⟨b, o, none⟩) (hc : ∀ (j : Nat) x, cs[j]? = some x → C b (o + j) ∧ w.cell? ⟨b, o + j, none⟩ = some (u j))
      (hr : ∀ (j : Nat) x, cs[j]? = some x → VR s L C w x (u j)) : VR s L C w (.imm full n cs) (.slice A n cap)
  | slr (d i off n ver : Nat) (full : Bool) (e sz : Nat) (cs : List AV) (ver' pr : Nat) (v : Value) (h : s.get d i = some (.arr e sz cs ver' pr)) (hv : ver ≤ ver')
      (hs : SlV n full v) (hc : ver = ver' → SlOk (L d i) sz off n full v) : VR s L C w (.slr d i off n ver full) v
  | agg (cs : List AV) (vs : List Value) (hl : vs.length = cs.length) (hr : ∀ (j : Nat) x y, cs[j]? = some x → vs[j]? = some y → VR s L C w x y) : VR s L C w (.agg cs) (.agg vs.toArray)
  | tup (cs : List AV) (vs : List Value) (hl : vs.length = cs.length) (hr : ∀ (j : Nat) x y, cs[j]? = some x → vs[j]? = some y → VR s L C w x y) : VR s L C w (.tup cs) (.tuple vs.toArray)
  | fn (f : Nat) (az bs : List AV) (va vb : List Value) (ha : va.length = az.length) (hb : vb.length = bs.length)
      (hra : ∀ (j : Nat) x y, az[j]? = some x → va[j]? = some y → VR s L C w x y) (hrb : ∀ (j : Nat) x y, bs[j]? = some x → vb[j]? = some y → VR s L C w x y) :
      VR s L C w (.fn f az bs) (.func (.func f) va.toArray vb.toArray)
  | nilfn : VR s L C w .nilfn .nilFunc
  | ifc (t : Nat) (v : AV) (u : Value) (h : VR s L C w v u) : VR s L C w (.ifc t v) (.iface t u)
  | nilifc : VR s L C w .nilifc .nilIface
  | anyb (b : Bool) : VR s L C w .anyb (.bool b)
  | unw : VR s L C w .unw Go.undef

def VRs (s : Store) (L : Nat → Nat → Loc) (C : Cs) (w : World) (cs : List AV) (vs : List Value) : Prop :=
  vs.length = cs.length ∧ ∀ (j : Nat) x y, cs[j]? = some x → vs[j]? = some y → VR s L C w x y

def Mat (s : Store) (L : Nat → Nat → Loc) (d i : Nat) : Prop :=
  (∃ t cs, s.get d i = some (.box t cs)) ∨ ∃ e sz cs ver pr, s.get d i = some (.arr e sz cs ver pr) ∧ 0 < (L d i).lim
def Own (s : Store) (L : Nat → Nat → Loc) (b : Nat) : Prop := ∃ d i, Mat s L d i ∧ (L d i).blk = b

def ObjR (s : Store) (L : Nat → Nat → Loc) (C : Cs) (w : World) (d i : Nat) : Obj → Prop
  | .box t cs => cellsOk (d + 1) cs = true ∧ (∀ o, ¬ C (L d i).blk o) ∧ ∃ vs : List Value, w.heap[(L d i).blk]? = some (.cells vs.toArray t (0, 0)) ∧ VRs s L C w cs vs
  | .arr e sz cs _ pr => 0 < sz ∧ cellsOk (d + 1) cs = true ∧
      (((L d i).lim = 0 ∧ (L d i).base = 0 ∧ cs = []) ∨
       (0 < (L d i).lim ∧ (∀ o, (L d i).base + pr ≤ o → o < (L d i).lim → ¬ C (L d i).blk o) ∧ (L d i).base + cs.length ≤ (L d i).lim ∧
        ∃ vs : List Value, w.heap[(L d i).blk]? = some (.cells vs.toArray e (0, 0)) ∧ (L d i).lim ≤ vs.length ∧ (∀ (j : Nat) x y, cs[j]? = some x → vs[(L d i).base + j]? = some y → VR s L C w x y)))

structure SR (s : Store) (L : Nat → Nat → Loc) (C : Cs) (w : World) : Prop where
  obj : ∀ d i o, s.get d i = some o → ObjR s L C w d i o
  inj : ∀ d i d' i', Mat s L d i → Mat s L d' i' → (L d i).blk = (L d' i').blk → d = d' ∧ i = i'
  cok : ∀ b o, C b o → ∃ v, w.cell? ⟨b, o, none⟩ = some v
  fzok : ∀ b, C.fz b → C.w0.heap.size ≤ b ∧ b < w.heap.size ∧ ¬ Own s L b
  ownN : ∀ d i, Mat s L d i → C.w0.heap.size ≤ (L d i).blk
  base : ∀ b, b < C.w0.heap.size → w.heap[b]? = C.w0.heap[b]?
  nsz : C.w0.heap.size ≤ w.heap.size
  good : WGood C.w0

structure Ext (D : Nat) (s : Store) (L : Nat → Nat → Loc) (C : Cs) (w : World) (s' : Store) (L' : Nat → Nat → Loc) (C' : Cs) (w' : World) : Prop where
  sub : ∀ b o, C b o → C' b o
  cell : ∀ b o, C b o → w'.cell? ⟨b, o, none⟩ = w.cell? ⟨b, o, none⟩
  box : ∀ d i t cs, d < D → s.get d i = some (.box t cs) → (∃ cs', s'.get d i = some (.box t cs')) ∧ (L' d i).blk = (L d i).blk
  arr : ∀ d i e sz cs ver pr, d < D → s.get d i = some (.arr e sz cs ver pr) → ∃ cs' ver' pr', s'.get d i = some (.arr e sz cs' ver' pr') ∧ ver ≤ ver' ∧ (ver = ver' → L' d i = L d i)
  os : w'.os = w.os
  tape : w'.tape = w.tape
  output : w'.output = w.output
  size : w.heap.size ≤ w'.heap.size
  frame : ∀ b, b < w.heap.size → ¬ Own s L b → ¬ C'.fz b → w'.heap[b]? = w.heap[b]?
  own : ∀ b, Own s' L' b → Own s L b ∨ w.heap.size ≤ b
  depth : s'.low.length = s.low.length
  fzs : ∀ b, C.fz b → C'.fz b
  fzb : ∀ b, C'.fz b → C.fz b ∨ w.heap.size ≤ b
  w0 : C'.w0 = C.w0

structure Keeps (D : Nat) (s : Store) (L : Nat → Nat → Loc) (C : Cs) (w : World) (s' : Store) (L' : Nat → Nat → Loc) (C' : Cs) (w' : World) : Prop where
  sub : ∀ b o, C b o → C' b o
  cell : ∀ b o, C b o → w'.cell? ⟨b, o, none⟩ = w.cell? ⟨b, o, none⟩
  box : ∀ d i t cs, d < D → s.get d i = some (.box t cs) → (∃ cs', s'.get d i = some (.box t cs')) ∧ (L' d i).blk = (L d i).blk
  arr : ∀ d i e sz cs ver pr, d < D → s.get d i = some (.arr e sz cs ver pr) → ∃ cs' ver' pr', s'.get d i = some (.arr e sz cs' ver' pr') ∧ ver ≤ ver' ∧ (ver = ver' → L' d i = L d i)
  fzs : ∀ b, C.fz b → C'.fz b
theorem Ext.keeps {D : Nat} {s : Store} {L : Nat → Nat → Loc} {C : Cs} {w : World} {s' : Store} {L' : Nat → Nat → Loc} {C' : Cs} {w' : World} (h : Ext D s L C w s' L' C' w') : Keeps D s L C w s' L' C' w' :=
  ⟨h.sub, h.cell, h.box, h.arr, h.fzs⟩

mutual
theorem lowB_mono {D D' : Nat} (h : D ≤ D') : ∀ v : AV, v.lowB D = true → v.lowB D' = true
  | .undef, _ | .bool _, _ | .int _ _, _ | .str _, _ | .nilp, _ | .eptr _, _ | .imm _ _ _, _ | .nilfn, _ | .nilifc, _ | .anyb, _ | .unw, _ => by simp [AV.lowB]
  | .ptr d i o, e => by simp [AV.lowB] at e ⊢; omega
  | .aptr d i o v, e => by simp [AV.lowB] at e ⊢; omega
  | .slr d i o n v f, e => by simp [AV.lowB] at e ⊢; omega
  | .agg cs, e => by simp only [AV.lowB] at e ⊢; exact lowL_mono h cs e
  | .tup cs, e => by simp only [AV.lowB] at e ⊢; exact lowL_mono h cs e
  | .fn f a b, e => by
    simp only [AV.lowB,Bool.and_eq_true] at e ⊢
    exact ⟨lowL_mono h a e.1,lowL_mono h b e.2⟩
  | .ifc t v, e => by simp only [AV.lowB] at e ⊢; exact lowB_mono h v e
theorem lowL_mono {D D' : Nat} (h : D ≤ D') : ∀ vs : List AV, AV.lowL D vs = true → AV.lowL D' vs = true
  | [], _ => rfl
  | v :: r, e => by
    simp only [AV.lowL,Bool.and_eq_true] at e ⊢
    exact ⟨lowB_mono h v e.1,lowL_mono h r e.2⟩
end
theorem lowL_mem {D : Nat} : ∀ {vs : List AV} {j : Nat} {x : AV}, AV.lowL D vs = true → vs[j]? = some x → x.lowB D = true
  | [], j, x, _, h => by simp at h
  | v :: r, 0, x, e, h => by
    simp only [AV.lowL,Bool.and_eq_true] at e
    simp at h
    subst h
    exact e.1
  | v :: r, j + 1, x, e, h => by
    simp only [AV.lowL,Bool.and_eq_true] at e
    exact lowL_mem e.2 (by simpa using h)
theorem cellsOk_mono {D D' : Nat} (h : D ≤ D') {cs : List AV} (hc : cellsOk D cs = true) : cellsOk D' cs = true := by
  simp only [cellsOk,List.all_eq_true,Bool.and_eq_true] at hc ⊢
  exact fun v hv=>⟨(hc v hv).1,lowB_mono h v (hc v hv).2⟩
theorem cellsOk_get {D : Nat} {cs : List AV} (hc : cellsOk D cs = true) {j : Nat} {x : AV} (h : cs[j]? = some x) : x.isCell = true ∧ x.lowB D = true := by
  simp only [cellsOk,List.all_eq_true,Bool.and_eq_true] at hc
  exact hc x (List.mem_of_getElem? h)

theorem get_depth {s : Store} {d i : Nat} {o : Obj} (h : s.get d i = some o) : d ≤ s.low.length := by
  unfold Store.get at h
  split at h
  · omega
  · rcases Nat.lt_or_ge d s.low.length with hd | hd
    · omega
    · rw [List.getElem?_eq_none hd] at h; cases h

section
variable {s : Store} {L : Nat → Nat → Loc} {C : Cs} {w : World}
theorem VR.low {v : AV} {u : Value} (h : VR s L C w v u) : v.lowB (s.low.length + 1) = true := by
  have list:∀ cs:List AV,(∀ (j:Nat) x,cs[j]? = some x→x.lowB (s.low.length + 1) = true)→AV.lowL (s.low.length + 1) cs = true:=by
    intro cs
    induction cs with
    | nil => intro _; rfl
    | cons v r ih =>
      intro h
      simp only [AV.lowL,Bool.and_eq_true]
      exact ⟨h 0 v rfl,ih fun j x hx=>h (j + 1) x (by simpa using hx)⟩
  have two:∀ (cs:List AV) (vs:List Value),vs.length = cs.length→(∀ (j:Nat) x y,cs[j]? = some x→vs[j]? = some y→x.lowB (s.low.length + 1) = true)→AV.lowL (s.low.length + 1) cs = true:=by
    intro cs vs hl h
    refine list cs fun j x hx=>?_
    have hj:j < vs.length:=by rw [hl]; exact (List.getElem?_eq_some_iff.1 hx).1
    exact h j x _ hx (List.getElem?_eq_getElem hj)
  induction h with
  | undef | bool | int | str | nilp | eptr | imm | nilfn | nilifc | anyb | unw => simp [AV.lowB]
  | ptr d i off t cs h => have := get_depth h; simp [AV.lowB]; omega
  | aptr d i off ver e sz cs ver' pr v h => have := get_depth h; simp [AV.lowB]; omega
  | slr d i off n ver full e sz cs ver' pr v h => have := get_depth h; simp [AV.lowB]; omega
  | agg cs vs hl _ ih => simp only [AV.lowB]; exact two cs vs hl ih
  | tup cs vs hl _ ih => simp only [AV.lowB]; exact two cs vs hl ih
  | fn f az bs va vb ha hb _ _ iha ihb => simp only [AV.lowB, Bool.and_eq_true]; exact ⟨two az va ha iha, two bs vb hb ihb⟩
  | ifc t v u _ ih => simp only [AV.lowB]; exact ih

theorem VR.mono {D : Nat} {s' : Store} {L' : Nat → Nat → Loc} {C' : Cs} {w' : World} (hE : Keeps D s L C w s' L' C' w') {v : AV} {u : Value} (h : VR s L C w v u) :
    v.lowB D = true → VR s' L' C' w' v u := by
  induction h with
  | undef v => intro _; exact .undef v
  | bool b => intro _; exact .bool b
  | int k n => intro _; exact .int k n
  | str t => intro _; exact .str t
  | nilp => intro _; exact .nilp
  | ptr d i off t cs h =>
    intro hd
    simp [AV.lowB] at hd
    obtain ⟨⟨cs',h'⟩,hb⟩:=hE.box d i t cs hd h
    rw [← hb]
    exact .ptr d i off t cs' h'
  | aptr d i off ver e sz cs ver' pr v h hv hs hc =>
    intro hd
    simp [AV.lowB] at hd
    obtain ⟨cs2,ver2,pr2,h2,hle,hL⟩:=hE.arr d i e sz cs ver' pr hd h
    refine .aptr d i off ver e sz cs2 ver2 pr2 v h2 (by omega) hs fun hq=>?_
    rw [hL (by omega)]
    exact hc (by omega)
  | eptr cs a b o u hA hok hc hr ih =>
    intro _
    refine .eptr cs a b o u hA hok (fun j x hx=>⟨hE.sub _ _ (hc j x hx).1,?_⟩) fun j x hx=>ih j x hx (lowB_mono (Nat.zero_le D) x (cellsOk_get hok hx).2)
    rw [hE.cell _ _ (hc j x hx).1]
    exact (hc j x hx).2
  | imm full n cs A cap b o u hn hf hok hA hc hr ih =>
    intro _
    refine .imm full n cs A cap b o u hn hf hok hA (fun j x hx=>⟨hE.sub _ _ (hc j x hx).1,?_⟩) fun j x hx=>ih j x hx (lowB_mono (Nat.zero_le D) x (cellsOk_get hok hx).2)
    rw [hE.cell _ _ (hc j x hx).1]
    exact (hc j x hx).2
  | slr d i off n ver full e sz cs ver' pr v h hv hs hc =>
    intro hd
    simp [AV.lowB] at hd
    obtain ⟨cs2,ver2,pr2,h2,hle,hL⟩:=hE.arr d i e sz cs ver' pr hd h
    refine .slr d i off n ver full e sz cs2 ver2 pr2 v h2 (by omega) hs fun hq=>?_
    rw [hL (by omega)]
    exact hc (by omega)
  | agg cs vs hl _ ih => intro hd; simp only [AV.lowB] at hd; exact .agg cs vs hl fun j x y hx hy => ih j x y hx hy (lowL_mem hd hx)
  | tup cs vs hl _ ih => intro hd; simp only [AV.lowB] at hd; exact .tup cs vs hl fun j x y hx hy => ih j x y hx hy (lowL_mem hd hx)
  | fn f az bs va vb ha hb _ _ iha ihb =>
    intro hd
    simp only [AV.lowB,Bool.and_eq_true] at hd
    exact .fn f az bs va vb ha hb (fun j x y hx hy=>iha j x y hx hy (lowL_mem hd.1 hx)) fun j x y hx hy=>ihb j x y hx hy (lowL_mem hd.2 hx)
  | nilfn => intro _; exact .nilfn
  | ifc t v u _ ih => intro hd; simp only [AV.lowB] at hd; exact .ifc t v u (ih hd)
  | nilifc => intro _; exact .nilifc
  | anyb b => intro _; exact .anyb b
  | unw => intro _; exact .unw

theorem VR.keep {s' : Store} {L' : Nat → Nat → Loc} {C' : Cs} {w' : World} (hE : Ext (s.low.length + 1) s L C w s' L' C' w') {v : AV} {u : Value} (h : VR s L C w v u) : VR s' L' C' w' v u :=
  h.mono hE.keeps h.low
theorem VRs.keep {s' : Store} {L' : Nat → Nat → Loc} {C' : Cs} {w' : World} (hE : Ext (s.low.length + 1) s L C w s' L' C' w') {vs : List AV} {us : List Value} (h : VRs s L C w vs us) : VRs s' L' C' w' vs us :=
  ⟨h.1, fun j x y hx hy => (h.2 j x y hx hy).keep hE⟩

theorem Ext.refl (D : Nat) : Ext D s L C w s L C w :=
  ⟨fun _ _ h => h, fun _ _ _ => rfl, fun d i t cs _ h => ⟨⟨cs, h⟩, rfl⟩, fun d i e sz cs ver pr _ h => ⟨cs, ver, pr, h, Nat.le_refl _, fun _ => rfl⟩, rfl, rfl, rfl, Nat.le_refl _, fun _ _ _ _ => rfl, fun _ h => .inl h, rfl, fun _ h => h, fun _ h => .inl h, rfl⟩

theorem Ext.trans {D : Nat} {s1 s2 : Store} {L1 L2 : Nat → Nat → Loc} {C1 C2 : Cs} {w1 w2 : World} (h : Ext D s L C w s1 L1 C1 w1) (k : Ext D s1 L1 C1 w1 s2 L2 C2 w2) : Ext D s L C w s2 L2 C2 w2 where
  sub b o hc := k.sub b o (h.sub b o hc)
  cell b o hc := (k.cell b o (h.sub b o hc)).trans (h.cell b o hc)
  box d i t cs hd hb := by
    obtain ⟨⟨cs1,h1⟩,e1⟩:=h.box d i t cs hd hb
    obtain ⟨h2,e2⟩:=k.box d i t cs1 hd h1
    exact ⟨h2,e2.trans e1⟩
  arr d i e sz cs ver pr hd hb := by
    obtain ⟨cs1,ver1,pr1,h1,le1,e1⟩:=h.arr d i e sz cs ver pr hd hb
    obtain ⟨cs2,ver2,pr2,h2,le2,e2⟩:=k.arr d i e sz cs1 ver1 pr1 hd h1
    exact ⟨cs2,ver2,pr2,h2,by omega,fun hq=>(e2 (by omega)).trans (e1 (by omega))⟩
  os := k.os.trans h.os
  tape := k.tape.trans h.tape
  output := k.output.trans h.output
  size := Nat.le_trans h.size k.size
  frame b hb ho hz := by
    refine (k.frame b (Nat.lt_of_lt_of_le hb h.size) (fun h1=>?_) hz).trans (h.frame b hb ho fun h1=>hz (k.fzs b h1))
    rcases h.own b h1 with h2 | h2
    · exact ho h2
    · omega
  own b hb := by
    rcases k.own b hb with h1 | h1
    · exact h.own b h1
    · exact .inr (Nat.le_trans h.size h1)
  depth := k.depth.trans h.depth
  fzs b h1 := k.fzs b (h.fzs b h1)
  fzb b h1 := by
    rcases k.fzb b h1 with h2 | h2
    · exact h.fzb b h2
    · exact .inr (Nat.le_trans h.size h2)
  w0 := k.w0.trans h.w0

theorem ObjR.keep {s' : Store} {L' : Nat → Nat → Loc} {C' : Cs} {w' : World} (hE : Ext (s.low.length + 1) s L C w s' L' C' w') {d i : Nat} {o : Obj} (h : ObjR s L C w d i o)
    (hL : L' d i = L d i) (hb : Mat s L d i → w'.heap[(L d i).blk]? = w.heap[(L d i).blk]?) (hm : s.get d i = some o) (hC : Mat s L d i → ∀ q, C' (L d i).blk q → C (L d i).blk q) : ObjR s' L' C' w' d i o := by
  cases o with
  | box t cs =>
    obtain ⟨h1,h2,vs,h3,h4⟩:=h
    have hM:Mat s L d i:=.inl ⟨t,cs,hm⟩
    refine ⟨h1,fun q hq=>?_,vs,?_,h4.keep hE⟩
    · rw [hL] at hq
      exact h2 q (hC hM q hq)
    · rw [hL, hb hM]; exact h3
  | arr e sz cs ver pr =>
    obtain ⟨h0,h1,h2⟩:=h
    refine ⟨h0,h1,?_⟩
    rw [hL]
    rcases h2 with h2 | ⟨h2, h3, h4, vs, h5, h6, h7⟩
    · exact .inl h2
    · have hM : Mat s L d i := .inr ⟨e, sz, cs, ver, pr, hm, h2⟩
      exact .inr ⟨h2,fun q hq hq' hc=>h3 q hq hq' (hC hM q hc),h4,vs,by rw [hb hM]; exact h5,h6,fun j x y hx hy=>(h7 j x y hx hy).keep hE⟩

theorem SR.lt (h : SR s L C w) {d i : Nat} (hm : Mat s L d i) : (L d i).blk < w.heap.size := by
  rcases hm with ⟨t, cs, hg⟩ | ⟨e, sz, cs, ver, pr, hg, hl⟩
  · obtain ⟨_, _, vs, h3, _⟩ := h.obj d i _ hg
    exact (Array.getElem?_eq_some_iff.1 h3).1
  · obtain ⟨_, _, h2⟩ := h.obj d i _ hg
    rcases h2 with ⟨h2, _⟩ | ⟨_, _, _, vs, h5, _⟩
    · omega
    · exact (Array.getElem?_eq_some_iff.1 h5).1
theorem SR.clt (h : SR s L C w) {b o : Nat} (hc : C b o) : b < w.heap.size := by
  obtain ⟨v,hv⟩:=h.cok b o hc
  exact World.block_lt_of_cell? w ⟨b,o,none⟩ hv
end
end Go.Proofs.YtkjonfojileipaaGreatDoor.Ae
namespace Go.Proofs.YtkjonfojileipaaGreatDoor.Ae
open Go
def upd (L : Nat → Nat → Loc) (d i : Nat) (l : Loc) : Nat → Nat → Loc := fun d' i' => if d' = d ∧ i' = i then l else L d' i'
theorem upd_same (L : Nat → Nat → Loc) (d i : Nat) (l : Loc) : upd L d i l d i = l := by simp [upd]
theorem upd_ne (L : Nat → Nat → Loc) {d i d' i' : Nat} (l : Loc) (h : ¬ (d' = d ∧ i' = i)) : upd L d i l d' i' = L d' i' := by simp [upd, h]

theorem get_new (s : Store) (o : Obj) : (s.new o).get s.low.length s.top.length = some o := by
  simp [Store.get, Store.new]
theorem get_new_ne (s : Store) (o : Obj) {d i : Nat} (h : ¬ (d = s.low.length ∧ i = s.top.length)) : (s.new o).get d i = s.get d i := by
  unfold Store.get Store.new
  by_cases hd:d = s.low.length
  · subst hd
    simp only [if_true]
    have hi:i ≠ s.top.length:=fun e=>h ⟨rfl,e⟩
    rcases Nat.lt_or_ge i s.top.length with hlt | hge
    · rw [List.getElem?_append_left hlt]
    · rw [List.getElem?_eq_none (by simp; omega), List.getElem?_eq_none (by omega)]
  · simp [hd]
theorem get_top_none (s : Store) : s.get s.low.length s.top.length = none := by simp [Store.get]
theorem get_set (s : Store) {d i : Nat} {o o' : Obj} (h : s.get d i = some o) : (s.set d i o').get d i = some o' := by
  unfold Store.get at h
  unfold Store.set
  split at h
  · rename_i hd
    subst hd
    have hi:=(List.getElem?_eq_some_iff.1 h).1
    simp [Store.get, hi]
  · rename_i hd
    rw [if_neg hd]
    rcases Nat.lt_or_ge d s.low.length with hlt | hge
    · rw [List.getElem?_eq_getElem hlt] at h
      simp only [Option.bind_some] at h
      have hi:=(List.getElem?_eq_some_iff.1 h).1
      simp only [Store.get,List.length_modify,if_neg hd,List.getElem?_modify,hlt,List.getElem?_eq_getElem,Option.map_some,Option.bind_some,if_true]
      rw [List.getElem_modify]
      simp [hi]
    · rw [List.getElem?_eq_none hge] at h; cases h
theorem get_set_ne (s : Store) {d i d' i' : Nat} {o' : Obj} (h : ¬ (d' = d ∧ i' = i)) : (s.set d i o').get d' i' = s.get d' i' := by
  unfold Store.set
  by_cases hd:d = s.low.length
  · rw [if_pos hd]
    unfold Store.get
    by_cases hd':d' = s.low.length
    · rw [if_pos hd', if_pos hd']
      have:i ≠ i':=fun e=>h ⟨hd'.trans hd.symm,e.symm⟩
      simp [this]
    · rw [if_neg hd', if_neg hd']
  · rw [if_neg hd]
    unfold Store.get
    simp only [List.length_modify]
    by_cases hd':d' = s.low.length
    · rw [if_pos hd', if_pos hd']
    · rw [if_neg hd', if_neg hd', List.getElem?_modify]
      by_cases e:d = d'
      · subst e
        have hi:i ≠ i':=fun e=>h ⟨rfl,e.symm⟩
        cases hg : s.low[d]? with
        | none => simp
        | some fr => simp [hi]
      · simp [e]
theorem set_depth (s : Store) (d i : Nat) (o : Obj) : (s.set d i o).low.length = s.low.length := by unfold Store.set; split <;> simp
structure Pushed (w W : World) (o : Go.Obj) : Prop where
  heap : W.heap = w.heap.push o
  os : W.os = w.os
  tape : W.tape = w.tape
  output : W.output = w.output
theorem pushed_alloc (w : World) (o : Go.Obj) : Pushed w (w.alloc o) o := ⟨rfl, rfl, rfl, rfl⟩
theorem pushed_drew (w : World) (o : Go.Obj) : Pushed w (w.drew.alloc o) o := ⟨rfl, rfl, rfl, rfl⟩
section
variable {w W : World} {o : Go.Obj}
theorem Pushed.old (h : Pushed w W o) {b : Nat} (hb : b < w.heap.size) : W.heap[b]? = w.heap[b]? := by rw [h.heap, Array.getElem?_push, if_neg (by omega)]
theorem Pushed.fresh (h : Pushed w W o) : W.heap[w.heap.size]? = some o := by rw [h.heap, Array.getElem?_push, if_pos rfl]
theorem Pushed.size (h : Pushed w W o) : W.heap.size = w.heap.size + 1 := by rw [h.heap, Array.size_push]
theorem Pushed.cell (h : Pushed w W o) {b q : Nat} (hb : b < w.heap.size) : W.cell? ⟨b, q, none⟩ = w.cell? ⟨b, q, none⟩ := World.cell?_of_block (h.old hb)
theorem cell_of_heap {w : World} {b q : Nat} {vs : List Value} {t : TypeId} {fr : Nat × Nat} (h : w.heap[b]? = some (.cells vs.toArray t fr)) : w.cell? ⟨b, q, none⟩ = vs[q]? := by simp [World.cell?, h]
end

section
variable {s : Store} {L : Nat → Nat → Loc} {C : Cs} {w : World}

theorem Mat.get {d i : Nat} (h : Mat s L d i) : ∃ o, s.get d i = some o := by
  rcases h with ⟨t, cs, h⟩ | ⟨e, sz, cs, ver, pr, h, _⟩ <;> exact ⟨_, h⟩
theorem mat_of {s' : Store} {L' : Nat → Nat → Loc} {d i : Nat} (hg : s'.get d i = s.get d i) (hL : L' d i = L d i) (h : Mat s' L' d i) : Mat s L d i := by
  rcases h with ⟨t, cs, h⟩ | ⟨e, sz, cs, ver, pr, h, hl⟩
  · exact .inl ⟨t, cs, hg ▸ h⟩
  · exact .inr ⟨e, sz, cs, ver, pr, hg ▸ h, hL ▸ hl⟩

theorem SR.rest {D : Nat} {s' : Store} {L' : Nat → Nat → Loc} {C' : Cs} {w' : World} (h : SR s L C w) (hE : Ext D s L C w s' L' C' w') (hf : ∀ b, C'.fz b → C.fz b ∨ (w.heap.size ≤ b ∧ b < w'.heap.size ∧ ¬ Own s' L' b)) :
    (∀ b, C'.fz b → C'.w0.heap.size ≤ b ∧ b < w'.heap.size ∧ ¬ Own s' L' b) ∧ (∀ d i, Mat s' L' d i → C'.w0.heap.size ≤ (L' d i).blk) ∧ (∀ b, b < C'.w0.heap.size → w'.heap[b]? = C'.w0.heap[b]?) ∧ C'.w0.heap.size ≤ w'.heap.size ∧ WGood C'.w0 := by
  rw [hE.w0]
  have hown:∀ b,Own s L b→C.w0.heap.size ≤ b:=fun b ⟨d,i,hm,e⟩=>e ▸ h.ownN d i hm
  refine ⟨fun b hz=>?_,fun d i hm=>?_,fun b hb=>?_,Nat.le_trans h.nsz hE.size,h.good⟩
  · rcases hf b hz with h1 | ⟨h1, h2, h3⟩
    · obtain ⟨h2, h3, h4⟩ := h.fzok b h1
      refine ⟨h2,Nat.lt_of_lt_of_le h3 hE.size,fun hO=>?_⟩
      rcases hE.own b hO with h5 | h5
      · exact h4 h5
      · omega
    · exact ⟨Nat.le_trans h.nsz h1, h2, h3⟩
  · rcases hE.own _ ⟨d, i, hm, rfl⟩ with h5 | h5
    · exact hown _ h5
    · exact Nat.le_trans h.nsz h5
  · refine (hE.frame b (Nat.lt_of_lt_of_le hb h.nsz) (fun hO => ?_) fun hz => ?_).trans (h.base b hb)
    · have := hown b hO; omega
    · rcases hf b hz with h1 | ⟨h1, _, _⟩
      · have := (h.fzok b h1).1; omega
      · have := h.nsz; omega
theorem get_new0 (s : Store) (o : Obj) : (s.new0 o).get 0 s.len0 = some o := by
  obtain ⟨low,top⟩:=s
  cases low <;> simp [Store.get, Store.new0, Store.len0]
theorem get_new0_ne (s : Store) (o : Obj) {d i : Nat} (h : ¬ (d = 0 ∧ i = s.len0)) : (s.new0 o).get d i = s.get d i := by
  obtain ⟨low,top⟩:=s
  have key:∀ l:List Obj,i ≠ l.length→(l ++ [o])[i]? = l[i]?:=fun l hi=>by
    rcases Nat.lt_or_ge i l.length with hlt | hge
    · rw [List.getElem?_append_left hlt]
    · rw [List.getElem?_eq_none (by simp; omega), List.getElem?_eq_none (by omega)]
  cases low with
  | nil =>
    have e1:(Store.new0 ⟨[],top⟩ o).get d i = if d = 0 then (top ++ [o])[i]? else (([]:List (List Obj))[d]?).bind (·[i]?):=rfl
    have e2:(⟨[],top⟩:Store).get d i = if d = 0 then top[i]? else (([]:List (List Obj))[d]?).bind (·[i]?):=rfl
    rw [e1,e2]
    by_cases hd:d = 0
    · rw [if_pos hd, if_pos hd]; exact key top fun e => h ⟨hd, e⟩
    · rw [if_neg hd, if_neg hd]
  | cons l r =>
    have e1:(Store.new0 ⟨l :: r,top⟩ o).get d i = if d = r.length + 1 then top[i]? else (((l ++ [o]) :: r)[d]?).bind (·[i]?):=rfl
    have e2:(⟨l :: r,top⟩:Store).get d i = if d = r.length + 1 then top[i]? else ((l :: r)[d]?).bind (·[i]?):=rfl
    rw [e1,e2]
    by_cases hd:d = r.length + 1
    · rw [if_pos hd, if_pos hd]
    · rw [if_neg hd, if_neg hd]
      cases d with
      | zero => exact key l fun e => h ⟨rfl, e⟩
      | succ d => rfl
theorem get_len0 (s : Store) : s.get 0 s.len0 = none := by
  obtain ⟨low,top⟩:=s
  cases low <;> simp [Store.get, Store.len0]
theorem new0_depth (s : Store) (o : Obj) : (s.new0 o).low.length = s.low.length := by
  obtain ⟨low,top⟩:=s
  cases low <;> simp [Store.new0]
theorem SR.addAt {W : World} {o : Obj} {l : Loc} {s' : Store} {dd ii : Nat} (h : SR s L C w) (hnone : s.get dd ii = none) (hget : s'.get dd ii = some o) (hoth : ∀ d i, ¬ (d = dd ∧ i = ii) → s'.get d i = s.get d i) (hdep : s'.low.length = s.low.length)
    (hos : W.os = w.os) (htape : W.tape = w.tape) (hout : W.output = w.output) (hsize : w.heap.size ≤ W.heap.size) (hheap : ∀ b, b < w.heap.size → W.heap[b]? = w.heap[b]?)
    (hl : Mat s' (upd L dd ii l) dd ii → w.heap.size ≤ l.blk)
    (ho : Ext (s.low.length + 1) s L C w s' (upd L dd ii l) C W → ObjR s' (upd L dd ii l) C W dd ii o) :
    Ext (s.low.length + 1) s L C w s' (upd L dd ii l) C W ∧ SR s' (upd L dd ii l) C W := by
  have hne:∀ d i x,s.get d i = some x→¬ (d = dd∧i = ii):=by
    rintro d i x hx ⟨rfl, rfl⟩
    rw [hnone] at hx
    cases hx
  have hE:Ext (s.low.length + 1) s L C w s' (upd L dd ii l) C W:=by
    refine ⟨fun _ _ h=>h,fun b q hc=>World.cell?_of_block (hheap b (h.clt hc)),?_,?_,hos,htape,hout,hsize,fun b hb _ _=>hheap b hb,?_,hdep,fun _ h=>h,fun _ h=>.inl h,rfl⟩
    · intro d i t cs _ hg
      have hn:=hne d i _ hg
      exact ⟨⟨cs,(hoth _ _ hn).trans hg⟩,by rw [upd_ne L l hn]⟩
    · intro d i e sz cs ver pr _ hg
      have hn:=hne d i _ hg
      exact ⟨cs,ver,pr,(hoth _ _ hn).trans hg,Nat.le_refl _,fun _=>upd_ne L l hn⟩
    · rintro b ⟨d, i, hm, rfl⟩
      by_cases hn:d = dd∧i = ii
      · obtain ⟨rfl, rfl⟩ := hn
        exact .inr (by rw [upd_same]; exact hl hm)
      · exact .inl ⟨d, i, mat_of (hoth _ _ hn) (upd_ne L l hn) hm, by rw [upd_ne L l hn]⟩
  obtain ⟨r1,r2,r3,r4,r5⟩:=h.rest hE fun b hz=>.inl hz
  refine ⟨hE,?_,?_,fun b q hc=>?_,r1,r2,r3,r4,r5⟩
  · intro d i x hx
    by_cases hn:d = dd∧i = ii
    · obtain ⟨rfl, rfl⟩ := hn
      rw [hget] at hx
      obtain rfl:=Option.some.inj hx
      exact ho hE
    · rw [hoth _ _ hn] at hx
      exact (h.obj d i x hx).keep hE (upd_ne L l hn) (fun hm=>hheap _ (h.lt hm)) hx (fun _ _ hc=>hc)
  · intro d i d' i' hm hm' hb
    by_cases hn:d = dd∧i = ii
    · by_cases hn' : d' = dd ∧ i' = ii
      · exact ⟨hn.1.trans hn'.1.symm, hn.2.trans hn'.2.symm⟩
      · exfalso
        obtain ⟨rfl,rfl⟩:=hn
        have h1:=hl hm
        rw [upd_same,upd_ne L l hn'] at hb
        have h2:=h.lt (mat_of (hoth _ _ hn') (upd_ne L l hn') hm')
        omega
    · by_cases hn' : d' = dd ∧ i' = ii
      · exfalso
        obtain ⟨rfl,rfl⟩:=hn'
        have h1:=hl hm'
        rw [upd_same,upd_ne L l hn] at hb
        have h2:=h.lt (mat_of (hoth _ _ hn) (upd_ne L l hn) hm)
        omega
      · rw [upd_ne L l hn, upd_ne L l hn'] at hb
        exact h.inj d i d' i' (mat_of (hoth _ _ hn) (upd_ne L l hn) hm) (mat_of (hoth _ _ hn') (upd_ne L l hn') hm') hb
  · obtain ⟨v, hv⟩ := h.cok b q hc
    exact ⟨v,by rw [hE.cell b q hc]; exact hv⟩

theorem SR.add {W : World} {o : Obj} {l : Loc} (h : SR s L C w)
    (hos : W.os = w.os) (htape : W.tape = w.tape) (hout : W.output = w.output) (hsize : w.heap.size ≤ W.heap.size) (hheap : ∀ b, b < w.heap.size → W.heap[b]? = w.heap[b]?)
    (hl : Mat (s.new o) (upd L s.low.length s.top.length l) s.low.length s.top.length → w.heap.size ≤ l.blk)
    (ho : Ext (s.low.length + 1) s L C w (s.new o) (upd L s.low.length s.top.length l) C W → ObjR (s.new o) (upd L s.low.length s.top.length l) C W s.low.length s.top.length o) :
    Ext (s.low.length + 1) s L C w (s.new o) (upd L s.low.length s.top.length l) C W ∧ SR (s.new o) (upd L s.low.length s.top.length l) C W :=
  h.addAt (get_top_none s) (get_new s o) (fun _ _ hn => get_new_ne s o hn) rfl hos htape hout hsize hheap hl ho

theorem SR.freeze {W : World} {vs : List Value} {t : TypeId} (h : SR s L C w) (hp : Pushed w W (.cells vs.toArray t (0, 0))) :
    Ext (s.low.length + 1) s L C w s L ⟨fun b q => C b q ∨ (b = w.heap.size ∧ q < vs.length), fun b => C.fz b ∨ b = w.heap.size, C.w0⟩ W ∧ SR s L ⟨fun b q => C b q ∨ (b = w.heap.size ∧ q < vs.length), fun b => C.fz b ∨ b = w.heap.size, C.w0⟩ W := by
  have hE:Ext (s.low.length + 1) s L C w s L ⟨fun b q=>C b q ∨ (b = w.heap.size∧q < vs.length),fun b=>C.fz b ∨ b = w.heap.size,C.w0⟩ W :=
    ⟨fun _ _ h => .inl h, fun b q hc => hp.cell (h.clt hc), fun d i t cs _ hg => ⟨⟨cs, hg⟩, rfl⟩, fun d i e sz cs ver pr _ hg => ⟨cs, ver, pr, hg, Nat.le_refl _, fun _ => rfl⟩,
      hp.os, hp.tape, hp.output, by rw [hp.size]; omega, fun b hb _ _ => hp.old hb, fun _ hb => .inl hb, rfl, fun _ h => .inl h, fun b hb => hb.elim .inl fun e => .inr (Nat.le_of_eq e.symm), rfl⟩
  obtain ⟨r1,r2,r3,r4,r5⟩:=h.rest hE fun b hz=>hz.elim .inl fun e=>.inr ⟨Nat.le_of_eq e.symm,by rw [hp.size]; omega,fun ⟨d,i,hm,e2⟩=>by have:=h.lt hm; omega⟩
  refine ⟨hE,fun d i x hx=>?_,h.inj,fun b q hc=>?_,r1,r2,r3,r4,r5⟩
  · refine (h.obj d i x hx).keep hE rfl (fun hm => hp.old (h.lt hm)) hx fun hm q hc => ?_
    rcases hc with hc | ⟨hb, _⟩
    · exact hc
    · have := h.lt hm
      omega
  · rcases hc with hc | ⟨rfl, hq⟩
    · obtain ⟨v, hv⟩ := h.cok b q hc
      exact ⟨v,by rw [hp.cell (h.clt hc)]; exact hv⟩
    · exact ⟨vs[q], by rw [cell_of_heap hp.fresh]; exact List.getElem?_eq_getElem hq⟩

theorem SR.turn {W : World} {C' : Cs} {d i : Nat} {o o' : Obj} {l : Loc} (h : SR s L C w) (hg : s.get d i = some o)
    (hkind : match o, o' with
      | .box t _, .box t' _ => t' = t ∧ l = L d i
      | .arr e sz _ ver _, .arr e' sz' _ ver' _ => e' = e ∧ sz' = sz ∧ ver ≤ ver' ∧ (ver = ver' → l = L d i)
      | _, _ => False)
    (hos : W.os = w.os) (htape : W.tape = w.tape) (hout : W.output = w.output) (hsize : w.heap.size ≤ W.heap.size)
    (hheap : ∀ b, b < w.heap.size → (Mat s L d i → b ≠ (L d i).blk) → W.heap[b]? = w.heap[b]?)
    (hsub : ∀ b q, C b q → C' b q) (hnew : ∀ b q, C' b q → C b q ∨ (Mat s L d i ∧ b = (L d i).blk)) (hcell : ∀ b q, C b q → W.cell? ⟨b, q, none⟩ = w.cell? ⟨b, q, none⟩) (hcok : ∀ b q, C' b q → ∃ v, W.cell? ⟨b, q, none⟩ = some v)
    (hl : Mat (s.set d i o') (upd L d i l) d i → (Mat s L d i ∧ l.blk = (L d i).blk) ∨ w.heap.size ≤ l.blk)
    (ho : Ext (s.low.length + 1) s L C w (s.set d i o') (upd L d i l) C' W → ObjR (s.set d i o') (upd L d i l) C' W d i o') (hfz : C'.fz = C.fz := by rfl) (hw0 : C'.w0 = C.w0 := by rfl) :
    Ext (s.low.length + 1) s L C w (s.set d i o') (upd L d i l) C' W ∧ SR (s.set d i o') (upd L d i l) C' W := by
  have hE:Ext (s.low.length + 1) s L C w (s.set d i o') (upd L d i l) C' W:=by
    refine ⟨hsub,hcell,?_,?_,hos,htape,hout,hsize,?_,?_,set_depth _ _ _ _,fun b hb=>by rw [hfz]; exact hb,fun b hb=>.inl (by rw [hfz] at hb; exact hb),hw0⟩
    · intro d2 i2 t cs _ hg2
      by_cases hn:d2 = d∧i2 = i
      · obtain ⟨rfl, rfl⟩ := hn
        rw [hg] at hg2
        obtain rfl:=Option.some.inj hg2
        cases o' with
        | box t' cs' =>
          obtain ⟨rfl,rfl⟩:=hkind
          exact ⟨⟨cs',get_set s hg⟩,by rw [upd_same]⟩
        | arr => exact hkind.elim
      · exact ⟨⟨cs, (get_set_ne s hn).trans hg2⟩, by rw [upd_ne L l hn]⟩
    · intro d2 i2 e sz cs ver pr _ hg2
      by_cases hn:d2 = d∧i2 = i
      · obtain ⟨rfl, rfl⟩ := hn
        rw [hg] at hg2
        obtain rfl:=Option.some.inj hg2
        cases o' with
        | box => exact hkind.elim
        | arr e' sz' cs' ver' pr' =>
          obtain ⟨rfl,rfl,hle,hl⟩:=hkind
          exact ⟨cs',ver',pr',get_set s hg,hle,fun hq=>by rw [upd_same]; exact hl hq⟩
      · exact ⟨cs, ver, pr, (get_set_ne s hn).trans hg2, Nat.le_refl _, fun _ => upd_ne L l hn⟩
    · intro b hb hn _
      exact hheap b hb fun hm e=>hn ⟨d,i,hm,e.symm⟩
    · rintro b ⟨d2, i2, hm, rfl⟩
      by_cases hn:d2 = d∧i2 = i
      · obtain ⟨rfl, rfl⟩ := hn
        rw [upd_same]
        rcases hl hm with ⟨h1, h2⟩ | h1
        · exact .inl ⟨d2, i2, h1, h2.symm⟩
        · exact .inr h1
      · exact .inl ⟨d2, i2, mat_of (get_set_ne s hn) (upd_ne L l hn) hm, by rw [upd_ne L l hn]⟩
  obtain ⟨r1,r2,r3,r4,r5⟩:=h.rest hE fun b hz=>.inl (by rw [hfz] at hz; exact hz)
  refine ⟨hE,?_,?_,hcok,r1,r2,r3,r4,r5⟩
  · intro d2 i2 x hx
    by_cases hn:d2 = d∧i2 = i
    · obtain ⟨rfl, rfl⟩ := hn
      rw [get_set s hg] at hx
      obtain rfl:=Option.some.inj hx
      exact ho hE
    · rw [get_set_ne s hn] at hx
      refine (h.obj d2 i2 x hx).keep hE (upd_ne L l hn) (fun hm=>hheap _ (h.lt hm) fun hm' e=>hn (h.inj _ _ _ _ hm hm' e)) hx fun hm q hc=>?_
      rcases hnew _ q hc with hc | ⟨hm', e⟩
      · exact hc
      · exact absurd (h.inj _ _ _ _ hm hm' e) hn
  · intro d1 i1 d2 i2 hm1 hm2 hb
    by_cases hn1:d1 = d∧i1 = i
    · by_cases hn2 : d2 = d ∧ i2 = i
      · exact ⟨hn1.1.trans hn2.1.symm, hn1.2.trans hn2.2.symm⟩
      · exfalso
        obtain ⟨rfl,rfl⟩:=hn1
        have k2:=mat_of (get_set_ne s hn2) (upd_ne L l hn2) hm2
        rw [upd_same,upd_ne L l hn2] at hb
        rcases hl hm1 with ⟨h1, h2⟩ | h1
        · exact hn2 (h.inj _ _ _ _ k2 h1 (hb.symm.trans h2))
        · have := h.lt k2
          omega
    · by_cases hn2 : d2 = d ∧ i2 = i
      · exfalso
        obtain ⟨rfl,rfl⟩:=hn2
        have k1:=mat_of (get_set_ne s hn1) (upd_ne L l hn1) hm1
        rw [upd_same,upd_ne L l hn1] at hb
        rcases hl hm2 with ⟨h1, h2⟩ | h1
        · exact hn1 (h.inj _ _ _ _ k1 h1 (hb.trans h2))
        · have := h.lt k1
          omega
      · rw [upd_ne L l hn1, upd_ne L l hn2] at hb
        exact h.inj _ _ _ _ (mat_of (get_set_ne s hn1) (upd_ne L l hn1) hm1) (mat_of (get_set_ne s hn2) (upd_ne L l hn2) hm2) hb
theorem SR.grown {W : World} (h : SR s L C w) (hos : W.os = w.os) (htape : W.tape = w.tape) (hout : W.output = w.output) (hsize : w.heap.size ≤ W.heap.size) (hheap : ∀ b, b < w.heap.size → W.heap[b]? = w.heap[b]?) : Ext (s.low.length + 1) s L C w s L C W ∧ SR s L C W := by
  have hE:Ext (s.low.length + 1) s L C w s L C W :=
    ⟨fun _ _ h => h, fun b q hc => World.cell?_of_block (hheap b (h.clt hc)), fun d i t cs _ hg => ⟨⟨cs, hg⟩, rfl⟩, fun d i e sz cs ver pr _ hg => ⟨cs, ver, pr, hg, Nat.le_refl _, fun _ => rfl⟩, hos, htape, hout, hsize,
      fun b hb _ _ => hheap b hb, fun _ h => .inl h, rfl, fun _ h => h, fun _ h => .inl h, rfl⟩
  obtain ⟨r1,r2,r3,r4,r5⟩:=h.rest hE fun b hz=>.inl hz
  exact ⟨hE,fun d i x hx=>(h.obj d i x hx).keep hE rfl (fun hm=>hheap _ (h.lt hm)) hx fun _ _ hc=>hc,h.inj,fun b q hq=>by
    obtain ⟨v,hv⟩:=h.cok b q hq
    exact ⟨v,by rw [World.cell?_of_block (hheap b (h.clt hq))]; exact hv⟩,r1,r2,r3,r4,r5⟩
end
def RowAt (w : World) (b o : Nat) (us : List Value) : Prop := ∀ (j : Nat) u, us[j]? = some u → w.cell? ⟨b, o + j, none⟩ = some u
theorem add_lit' (b o n : Nat) : (⟨b, o, none⟩ : Addr).add n = ⟨b, o + n, none⟩ := by unfold Addr.add; split <;> simp_all

section
variable {s : Store} {L : Nat → Nat → Loc} {C : Cs} {w : World}

theorem VRs.nil : VRs s L C w [] [] := ⟨rfl, fun j x y h => by simp at h⟩
theorem VRs.append {a b : List AV} {x y : List Value} (h : VRs s L C w a x) (k : VRs s L C w b y) : VRs s L C w (a ++ b) (x ++ y) := by
  refine ⟨by rw [List.length_append,List.length_append,h.1,k.1],fun j u v hu hv=>?_⟩
  rcases Nat.lt_or_ge j a.length with hj | hj
  · rw [List.getElem?_append_left hj] at hu
    rw [List.getElem?_append_left (by rw [h.1]; exact hj)] at hv
    exact h.2 j u v hu hv
  · rw [List.getElem?_append_right hj] at hu
    rw [List.getElem?_append_right (by rw [h.1]; exact hj),h.1] at hv
    exact k.2 _ u v hu hv
theorem VRs.take {a : List AV} {x : List Value} (h : VRs s L C w a x) (n : Nat) : VRs s L C w (a.take n) (x.take n) := by
  refine ⟨by rw [List.length_take,List.length_take,h.1],fun j u v hu hv=>?_⟩
  rw [List.getElem?_take] at hu hv
  split at hu
  · rename_i hj
    rw [if_pos hj] at hv
    exact h.2 j u v hu hv
  · cases hu
theorem VRs.drop {a : List AV} {x : List Value} (h : VRs s L C w a x) (n : Nat) : VRs s L C w (a.drop n) (x.drop n) := by
  refine ⟨by rw [List.length_drop,List.length_drop,h.1],fun j u v hu hv=>?_⟩
  rw [List.getElem?_drop] at hu hv
  exact h.2 _ u v hu hv
theorem VRs.one {v : AV} {u : Value} (h : VR s L C w v u) : VRs s L C w [v] [u] := by
  refine ⟨rfl,fun j x y hx hy=>?_⟩
  cases j with
  | zero => simp at hx hy; subst hx; subst hy; exact h
  | succ j => simp at hx
theorem VRs.get {a : List AV} {x : List Value} (h : VRs s L C w a x) {j : Nat} {v : AV} (hv : a[j]? = some v) : ∃ u, x[j]? = some u ∧ VR s L C w v u := by
  have hj:j < x.length:=by rw [h.1]; exact (List.getElem?_eq_some_iff.1 hv).1
  exact ⟨x[j],List.getElem?_eq_getElem hj,h.2 j v _ hv (List.getElem?_eq_getElem hj)⟩
theorem VRs.agg {a : List AV} {x : List Value} (h : VRs s L C w a x) : VR s L C w (.agg a) (.agg x.toArray) := .agg a x h.1 h.2
theorem VRs.tup {a : List AV} {x : List Value} (h : VRs s L C w a x) : VR s L C w (.tup a) (.tuple x.toArray) := .tup a x h.1 h.2
theorem VRs.of_fun {a : List AV} {u : Nat → Value} (h : ∀ (j : Nat) x, a[j]? = some x → VR s L C w x (u j)) : VRs s L C w a ((List.range a.length).map u) := by
  refine ⟨by simp,fun j x y hx hy=>?_⟩
  have hj:=(List.getElem?_eq_some_iff.1 hx).1
  rw [List.getElem?_map,List.getElem?_range hj] at hy
  simp at hy
  subst hy
  exact h j x hx
theorem rowAt_of_fun {n b o : Nat} {u : Nat → Value} (h : ∀ j, j < n → w.cell? ⟨b, o + j, none⟩ = some (u j)) : RowAt w b o ((List.range n).map u) := by
  intro j v hv
  have hj:j < n:=by
    have:=(List.getElem?_eq_some_iff.1 hv).1
    simpa using this
  rw [List.getElem?_map,List.getElem?_range hj] at hv
  simp at hv
  subst hv
  exact h j hj
theorem RowAt.take {b o : Nat} {us : List Value} (h : RowAt w b o us) (n : Nat) : RowAt w b o (us.take n) := by
  intro j u hu
  rw [List.getElem?_take] at hu
  split at hu
  · exact h j u hu
  · cases hu
theorem RowAt.drop {b o : Nat} {us : List Value} (h : RowAt w b o us) (n : Nat) : RowAt w b (o + n) (us.drop n) := by
  intro j u hu
  rw [List.getElem?_drop] at hu
  have:=h _ u hu
  rwa [← Nat.add_assoc] at this

theorem VR.one {v : AV} {u : Value} (h : VR s L C w v u) (hv : v.isCell = true) : u.oneCell' = true ∧ u.cells = #[u] := by
  cases h with
  | undef | unw | agg | tup => simp [AV.isCell] at hv
  | aptr d i off ver e sz cs ver' pr v h hv hs => obtain ⟨a, rfl⟩ := hs; exact ⟨rfl, rfl⟩
  | slr d i off n ver full e sz cs ver' pr v h hv hs => obtain ⟨A, cap, rfl, _⟩ := hs; exact ⟨rfl, rfl⟩
  | _ => exact ⟨rfl, rfl⟩
theorem VRs.one_all {a : List AV} {x : List Value} (h : VRs s L C w a x) (ha : a.all AV.isCell = true) : ∀ u ∈ x, u.oneCell' = true := by
  intro u hu
  obtain ⟨j,hj⟩:=List.getElem?_of_mem hu
  have hj':j < a.length:=by rw [← h.1]; exact (List.getElem?_eq_some_iff.1 hj).1
  have:=h.2 j a[j] u (List.getElem?_eq_getElem hj') hj
  exact (this.one (List.all_eq_true.1 ha _ (List.getElem_mem hj'))).1
theorem VR.cells {v : AV} {u : Value} (h : VR s L C w v u) (hv : v.cells.all AV.isCell = true) : ∃ us : List Value, u.cells = us.toArray ∧ VRs s L C w v.cells us := by
  cases h with
  | undef => simp [AV.cells, AV.isCell] at hv
  | unw => simp [AV.cells, AV.isCell] at hv
  | agg cs vs hl hr => exact ⟨vs, rfl, hl, hr⟩
  | tup cs vs hl hr => simp [AV.cells, AV.isCell] at hv
  | aptr d i off ver e sz cs ver' pr v h hq hs hc => obtain ⟨a, rfl⟩ := hs; exact ⟨[_], rfl, .one (.aptr d i off ver e sz cs ver' pr _ h hq ⟨a, rfl⟩ hc)⟩
  | slr d i off n ver full e sz cs ver' pr v h hq hs hc => obtain ⟨A, cap, rfl, hs⟩ := hs; exact ⟨[_], rfl, .one (.slr d i off n ver full e sz cs ver' pr _ h hq ⟨A, cap, rfl, hs⟩ hc)⟩
  | bool b => exact ⟨[_], rfl, .one (.bool b)⟩
  | int k n => exact ⟨[_], rfl, .one (.int k n)⟩
  | str t => exact ⟨[_], rfl, .one (.str t)⟩
  | nilp => exact ⟨[_], rfl, .one .nilp⟩
  | ptr d i off t cs h => exact ⟨[_], rfl, .one (.ptr d i off t cs h)⟩
  | eptr cs a b o u hA hok hc hr => exact ⟨[_], rfl, .one (.eptr cs a b o u hA hok hc hr)⟩
  | imm full n cs A cap b o u hn hf hok hA hc hr => exact ⟨[_], rfl, .one (.imm full n cs A cap b o u hn hf hok hA hc hr)⟩
  | fn f az bs va vb ha hb hra hrb => exact ⟨[_], rfl, .one (.fn f az bs va vb ha hb hra hrb)⟩
  | nilfn => exact ⟨[_], rfl, .one .nilfn⟩
  | ifc t v u h => exact ⟨[_], rfl, .one (.ifc t v u h)⟩
  | nilifc => exact ⟨[_], rfl, .one .nilifc⟩
  | anyb b => exact ⟨[_], rfl, .one (.anyb b)⟩

def cellsFrom (s : Store) : AV → Option (List AV)
  | .ptr d i off => match s.get d i with | some (.box _ cs) => some (cs.drop off) | _ => none
  | .aptr d i off ver => match s.get d i with | some (.arr _ _ cs ver' _) => if ver = ver' then some (cs.drop off) else none | _ => none
  | .eptr cs => some cs
  | _ => none
theorem arr_row (h : SR s L C w) {d i e sz : Nat} {cs : List AV} {ver pr : Nat} (hg : s.get d i = some (.arr e sz cs ver pr)) :
    ∃ us : List Value, VRs s L C w cs us ∧ (us ≠ [] → RowAt w (L d i).blk (L d i).base us) := by
  obtain ⟨_,_,h2⟩:=h.obj d i _ hg
  rcases h2 with ⟨_, _, rfl⟩ | ⟨_, _, h4, vs, h5, h6, h7⟩
  · exact ⟨[], .nil, fun h => absurd rfl h⟩
  · refine ⟨(vs.drop (L d i).base).take cs.length, ⟨by rw [List.length_take, List.length_drop]; omega, fun j x y hx hy => ?_⟩, fun _ j u hu => ?_⟩
    · rw [List.getElem?_take] at hy
      split at hy
      · rw [List.getElem?_drop] at hy
        exact h7 j x y hx hy
      · cases hy
    · rw [List.getElem?_take] at hu
      split at hu
      · rw [List.getElem?_drop] at hu
        rw [cell_of_heap h5]
        exact hu
      · cases hu
theorem box_row (h : SR s L C w) {d i t : Nat} {cs : List AV} (hg : s.get d i = some (.box t cs)) :
    ∃ us : List Value, VRs s L C w cs us ∧ RowAt w (L d i).blk 0 us ∧ w.heap[(L d i).blk]? = some (.cells us.toArray t (0, 0)) := by
  obtain ⟨_,_,vs,h3,h4⟩:=h.obj d i _ hg
  exact ⟨vs,h4,fun j u hu=>by rw [cell_of_heap h3,Nat.zero_add]; exact hu,h3⟩
theorem cellsFrom_sound (h : SR s L C w) {p : AV} {u : Value} (hp : VR s L C w p u) {cs : List AV} (hc : cellsFrom s p = some cs) :
    ∃ us : List Value, VRs s L C w cs us ∧ ∃ a, u = .pointer (some a) ∧ (us ≠ [] → ∃ b o, a = ⟨b, o, none⟩ ∧ RowAt w b o us) := by
  cases hp <;> simp only [cellsFrom] at hc <;> try cases hc
  case ptr d i off t cs' hg =>
    rw [hg] at hc
    obtain rfl:=Option.some.inj hc
    obtain ⟨us,h1,h2,_⟩:=box_row h hg
    have:=h2.drop off
    rw [Nat.zero_add] at this
    exact ⟨us.drop off,h1.drop off,_,rfl,fun _=>⟨_,_,rfl,this⟩⟩
  case aptr d i off ver e sz cs' ver' pr hg hv hs hr =>
    rw [hg] at hc
    dsimp only at hc
    split at hc
    · rename_i hq
      obtain rfl:=Option.some.inj hc
      obtain ⟨us,h1,h2⟩:=arr_row h hg
      obtain rfl:=hr hq
      refine ⟨us.drop off,h1.drop off,_,rfl,fun hne=>⟨_,_,rfl,(h2 ?_).drop off⟩⟩
      rintro rfl
      simp at hne
    · cases hc
  case eptr a b o u hA hok hc' hr => exact ⟨_, .of_fun hr, a, rfl, fun hne => ⟨b, o, hA (by rintro rfl; simp at hne), rowAt_of_fun fun j hj => (hc' j _ (List.getElem?_eq_getElem hj)).2⟩⟩

theorem loadV_cells {n : Option Nat} {p v : AV} (h : loadV s n p = some v) : ∃ cs, cellsFrom s p = some cs ∧
    (n = none → cs[0]? = some v) ∧ ∀ m, n = some m → m ≤ cs.length ∧ v = .agg (cs.take m) := by
  cases p <;> try (simp [loadV] at h; done)
  case ptr d i off =>
    cases hg : s.get d i with
    | none => simp [loadV, hg] at h
    | some o =>
      cases o with
      | arr => simp [loadV, hg] at h
      | box t cs =>
        refine ⟨cs.drop off,by simp [cellsFrom,hg],?_,?_⟩
        · rintro rfl
          simpa [loadV, hg] using h
        · rintro m rfl
          simp only [loadV,hg] at h
          split at h
          · exact ⟨by rw [List.length_drop]; omega, (Option.some.inj h).symm⟩
          · cases h
  case aptr d i off ver =>
    cases hg : s.get d i with
    | none => simp [loadV, hg] at h
    | some o =>
      cases o with
      | box => simp [loadV, hg] at h
      | arr e sz cs ver' pr =>
        cases n with
        | none =>
          simp only [loadV,hg] at h
          split at h
          · rename_i hq
            exact ⟨cs.drop off,by simp [cellsFrom,hg,hq],fun _=>by simpa using h,fun m hm=>by cases hm⟩
          · cases h
        | some n =>
          simp only [loadV,hg] at h
          split at h
          · rename_i hq
            refine ⟨cs.drop off,by simp [cellsFrom,hg,hq.1],fun hm=>(by cases hm),?_⟩
            intro m hm
            obtain rfl:=Option.some.inj hm
            exact ⟨by rw [List.length_drop]; omega,(Option.some.inj h).symm⟩
          · cases h
  case eptr cs =>
    refine ⟨cs,rfl,?_,?_⟩
    · rintro rfl
      exact h
    · rintro m rfl
      simp only [loadV] at h
      split at h
      · rename_i hq
        exact ⟨hq,(Option.some.inj h).symm⟩
      · cases h

theorem elems_sound (h : SR s L C w) {x : AV} {u : Value} (hx : VR s L C w x u) {n : Nat} {cs : List AV} (he : elems s x = some (n, cs)) :
    ∃ (A : Option Addr) (cap : Nat) (us : List Value), u = .slice A n cap ∧ n ≤ cap ∧ VRs s L C w cs us ∧ (us ≠ [] → ∃ b o, A = some ⟨b, o, none⟩ ∧ RowAt w b o us) := by
  cases hx <;> simp only [elems] at he <;> try cases he
  case imm A cap b o u hn hf hok hA hc hr =>
    refine ⟨A,cap,_,rfl,hn.1,.of_fun hr,fun hne=>⟨b,o,hA ?_,rowAt_of_fun fun j hj=>(hc j _ (List.getElem?_eq_getElem hj)).2⟩⟩
    rintro rfl
    simp at hne
  case slr d i off n' ver full e sz cs' ver' pr hg hv hs hr =>
    rw [hg] at he
    dsimp only at he
    split at he
    · rename_i hq
      simp only [Option.some.injEq,Prod.mk.injEq] at he
      obtain ⟨rfl,rfl⟩:=he
      obtain ⟨A,cap,rfl,hn,hf,hA⟩:=hr hq.1
      obtain ⟨us,h1,h2⟩:=arr_row h hg
      refine ⟨A,cap,_,rfl,hn,(h1.drop off).take _,fun hne=>⟨_,_,hA ?_,((h2 ?_).drop off).take _⟩⟩
      · rcases Nat.eq_zero_or_pos n' with h0 | h0
        · subst h0
          simp at hne
        · omega
      · rintro rfl
        simp at hne
    · cases he
end

/-! ### the rows of zeros -/
theorem repL_length (n : Nat) (z : List AV) : (repL n z).length = n * z.length := by
  induction n with
  | zero => simp [repL]
  | succ n ih => rw [repL, List.length_append, ih, Nat.succ_mul, Nat.add_comm]
def repV (n : Nat) (z : List Value) : List Value :=
  match n with
  | 0 => []
  | n + 1 => z ++ repV n z
theorem repV_length (n : Nat) (z : List Value) : (repV n z).length = n * z.length := by
  induction n with
  | zero => simp [repV]
  | succ n ih => rw [repV, List.length_append, ih, Nat.succ_mul, Nat.add_comm]
theorem repV_get (z : List Value) (hz : 0 < z.length) : ∀ n j, j < n * z.length → (repV n z)[j]? = z[j % z.length]?
  | 0, j, h => by simp at h
  | n + 1, j, h => by
    rw [repV]
    rcases Nat.lt_or_ge j z.length with hj | hj
    · rw [List.getElem?_append_left hj, Nat.mod_eq_of_lt hj]
    · rw [List.getElem?_append_right hj, repV_get z hz n (j - z.length) (by rw [Nat.succ_mul] at h; omega), Nat.mod_eq_sub_mod hj]
theorem rep_range (z : Array Value) (n : Nat) : ((Array.range (n * z.size)).map fun i => z[i % z.size]!) = (repV n z.toList).toArray := by
  rcases Nat.eq_zero_or_pos z.size with h0 | h0
  · have : repV n z.toList = [] := List.eq_nil_of_length_eq_zero (by rw [repV_length, Array.length_toList, h0, Nat.mul_zero])
    rw [this,h0]
    simp
  · apply Array.ext'
    apply List.ext_getElem?
    intro j
    have hl:0 < z.toList.length:=by rwa [Array.length_toList]
    rcases Nat.lt_or_ge j (n * z.size) with hj | hj
    · rw [repV_get z.toList hl n j (by rwa [Array.length_toList])]
      have hm:j % z.size < z.size:=Nat.mod_lt _ h0
      simp [hj, hm]
    · rw [List.getElem?_eq_none (by simpa using hj), List.getElem?_eq_none (by rw [repV_length, Array.length_toList]; exact hj)]
theorem VRs.rep {s : Store} {L : Nat → Nat → Loc} {C : Cs} {w : World} {z : List AV} {vz : List Value} (h : VRs s L C w z vz) : ∀ n, VRs s L C w (repL n z) (repV n vz)
  | 0 => .nil
  | n + 1 => h.append (h.rep n)
theorem cellsOk_rep {D : Nat} {z : List AV} (h : cellsOk D z = true) : ∀ n, cellsOk D (repL n z) = true
  | 0 => rfl
  | n + 1 => by
    have ih:=cellsOk_rep h n
    simp only [cellsOk] at h ih ⊢
    rw [repL,List.all_append,h,ih]
    rfl
theorem cellsOk_append {D : Nat} {a b : List AV} : cellsOk D (a ++ b) = true ↔ cellsOk D a = true ∧ cellsOk D b = true := by
  simp only [cellsOk,List.all_append,Bool.and_eq_true]
theorem cellsOk_sub {D : Nat} {a b : List AV} (h : cellsOk D a = true) (hs : ∀ x ∈ b, x ∈ a) : cellsOk D b = true := by
  simp only [cellsOk,List.all_eq_true] at h ⊢
  exact fun x hx=>h x (hs x hx)
theorem cellsOk_take {D : Nat} {a : List AV} (h : cellsOk D a = true) (n : Nat) : cellsOk D (a.take n) = true := cellsOk_sub h fun _ hx => List.mem_of_mem_take hx
theorem cellsOk_drop {D : Nat} {a : List AV} (h : cellsOk D a = true) (n : Nat) : cellsOk D (a.drop n) = true := cellsOk_sub h fun _ hx => List.mem_of_mem_drop hx
theorem cellsOk_cells {D : Nat} {a : List AV} (h : cellsOk D a = true) : a.all AV.isCell = true := by
  simp only [cellsOk,List.all_eq_true,Bool.and_eq_true] at h ⊢
  exact fun x hx=>(h x hx).1
theorem cellsOk_of {D : Nat} {a : List AV} (h : a.all AV.isCell = true) (hl : AV.lowL D a = true) : cellsOk D a = true := by
  simp only [cellsOk,List.all_eq_true,Bool.and_eq_true] at h ⊢
  intro x hx
  obtain ⟨j,hj⟩:=List.getElem?_of_mem hx
  exact ⟨h x hx,lowL_mem hl hj⟩

/-! ### parts laid into a row -/
def fillV (cs : List Value) : List (Nat × List Value) → Option (List Value)
  | [] => some cs
  | (o, p) :: r => if o + p.length ≤ cs.length then fillV (cs.take o ++ p ++ cs.drop (o + p.length)) r else none
def Corr (place : Nat → Option (Nat × Nat)) : List (Nat × Value) → List (Nat × List Value) → Prop
  | [], [] => True
  | q :: qs, r :: rs => place q.1 = some (r.1, r.2.length) ∧ q.2.cells = r.2.toArray ∧ Corr place qs rs
  | _, _ => False
theorem foldl_set (o : Nat) : ∀ (p : List Value) (k : Nat) (cs : Array Value), o + k + p.length ≤ cs.size →
    (p.zipIdx k).foldl (fun (cs : Array Value) (x : Value × Nat) => cs.setIfInBounds (o + x.2) x.1) cs = (cs.toList.take (o + k) ++ p ++ cs.toList.drop (o + k + p.length)).toArray
  | [], k, cs, _ => by simp
  | v :: p, k, cs, h => by
    have hk:o + k < cs.size:=by simp at h; omega
    rw [List.zipIdx_cons,List.foldl_cons,foldl_set o p (k + 1) _ (by simp at h ⊢; omega)]
    apply Array.ext'
    apply List.ext_getElem?
    intro j
    simp only [Array.toList_setIfInBounds,List.length_cons,List.append_assoc,List.cons_append]
    have hl:(cs.toList.take (o + k)).length = o + k:=by rw [List.length_take,Array.length_toList]; omega
    have hl':((cs.toList.set (o + k) v).take (o + (k + 1))).length = o + (k + 1):=by rw [List.length_take,List.length_set,Array.length_toList]; omega
    rcases Nat.lt_or_ge j (o + k) with h1 | h1
    · rw [List.getElem?_append_left (by omega), List.getElem?_append_left (by omega), List.getElem?_take, List.getElem?_take, if_pos (by omega), if_pos h1, List.getElem?_set_ne (by omega)]
    · rcases Nat.eq_or_lt_of_le h1 with h2 | h2
      · subst h2
        rw [List.getElem?_append_left (by omega),List.getElem?_append_right (by omega),hl,List.getElem?_take,if_pos (by omega),List.getElem?_set_self (by rw [Array.length_toList]; exact hk)]
        simp
      · obtain ⟨m, hm⟩ : ∃ m, j - (o + k) = m + 1 := ⟨j - (o + k) - 1, by omega⟩
        have e1:(List.take (o + (k + 1)) (cs.toList.set (o + k) v) ++ (p ++ List.drop (o + (k + 1) + p.length) (cs.toList.set (o + k) v)))[j]? = (p ++ List.drop (o + (k + 1) + p.length) (cs.toList.set (o + k) v))[m]?:=by
          rw [List.getElem?_append_right (by omega),hl',show j - (o + (k + 1)) = m from by omega]
        have e2:(List.take (o + k) cs.toList ++ v :: (p ++ List.drop (o + k + (p.length + 1)) cs.toList))[j]? = (p ++ List.drop (o + k + (p.length + 1)) cs.toList)[m]?:=by
          rw [List.getElem?_append_right (by omega),hl,hm,List.getElem?_cons_succ]
        rw [e1,e2]
        rcases Nat.lt_or_ge m p.length with h3 | h3
        · rw [List.getElem?_append_left h3, List.getElem?_append_left h3]
        · rw [List.getElem?_append_right h3, List.getElem?_append_right h3, List.getElem?_drop, List.getElem?_drop, List.getElem?_set_ne (by omega)]
          congr 1
          omega
theorem fill_eq (place : Nat → Option (Nat × Nat)) : ∀ (qs : List (Nat × Value)) (rs : List (Nat × List Value)) (cs cs' : List Value), Corr place qs rs → fillV cs rs = some cs' → Instr.fill place cs.toArray qs = some cs'.toArray
  | [], [], cs, cs', _, h => by simp only [fillV] at h; simp only [Instr.fill]; rw [Option.some.inj h]
  | [], _ :: _, _, _, hc, _ => hc.elim
  | _ :: _, [], _, _, hc, _ => hc.elim
  | (i, v) :: qs, (o, p) :: rs, cs, cs', hc, h => by
    obtain ⟨h1,h2,h3⟩:=hc
    simp only [fillV] at h
    split at h
    · rename_i hb
      have hv:v.cells = p.toArray:=h2
      have h1':place i = some (o,p.length):=h1
      have hsz:¬ (decide (v.cells.size ≠ p.length) || decide (o + v.cells.size > cs.toArray.size)) = true:=by rw [hv]; simp; omega
      have hf:(v.cells.zipIdx.foldl (fun (cs:Array Value) (x:Value × Nat)=>cs.setIfInBounds (o + x.2) x.1) cs.toArray) = (cs.take o ++ p ++ cs.drop (o + p.length)).toArray:=by
        have:=foldl_set o p 0 cs.toArray (by simpa using hb)
        simp only [Nat.add_zero] at this
        rw [hv,← this,← Array.foldl_toList]
        simp
      simp only [Instr.fill,h1']
      rw [if_neg hsz]
      have ih:=fill_eq place qs rs _ cs' h3 h
      rw [← hf] at ih
      exact ih
    · cases h
theorem VRs.fill {s : Store} {L : Nat → Nat → Loc} {C : Cs} {w : World} : ∀ (ps : List (Nat × List AV)) (rs : List (Nat × List Value)) (cs cs' : List AV) (vs : List Value),
    VRs s L C w cs vs → rs.length = ps.length → (∀ (j : Nat) p r, ps[j]? = some p → rs[j]? = some r → r.1 = p.1 ∧ VRs s L C w p.2 r.2) → fillL cs ps = some cs' → ∃ vs', fillV vs rs = some vs' ∧ VRs s L C w cs' vs'
  | [], [], cs, cs', vs, h, _, _, hf => by
    simp only [fillL] at hf
    obtain rfl:=Option.some.inj hf
    exact ⟨vs,rfl,h⟩
  | [], _ :: _, _, _, _, _, hl, _, _ => by simp at hl
  | _ :: _, [], _, _, _, _, hl, _, _ => by simp at hl
  | (o, p) :: ps, (o', r) :: rs, cs, cs', vs, h, hl, hr, hf => by
    obtain ⟨h1,h2⟩:=hr 0 (o,p) (o',r) rfl rfl
    obtain rfl:o' = o:=h1
    have h2':VRs s L C w p r:=h2
    simp only [fillL] at hf
    split at hf
    · rename_i hb
      have hlen:r.length = p.length:=h2'.1
      have hlen2:vs.length = cs.length:=h.1
      obtain ⟨vs',h3,h4⟩:=VRs.fill ps rs _ cs' (vs.take o' ++ r ++ vs.drop (o' + r.length)) (((h.take o').append h2').append (by rw [hlen]; exact h.drop _)) (by simpa using hl)
        (fun j p' r' hp hr' => hr (j + 1) p' r' (by simpa using hp) (by simpa using hr')) hf
      exact ⟨vs',by simp only [fillV]; rw [if_pos (by omega)]; exact h3,h4⟩
    · cases hf
/-! ### constants and types -/
def cst1 : Value → AV → Bool
  | .bool a, .bool b => a == b
  | .int k n, .int k' m => decide (k = k') && decide (n = m)
  | .string s, .str t => decide (s = t)
  | .pointer none, .nilp => true
  | .slice none 0 0, .imm true 0 [] => true
  | .nilFunc, .nilfn => true
  | .nilIface, .nilifc => true
  | _, _ => false
def cstL : List Value → List AV → Bool
  | [], [] => true
  | v :: r, a :: q => cst1 v a && cstL r q
  | _, _ => false
def cst : Value → AV → Bool
  | .agg cs, .agg az => cstL cs.toList az
  | v, a => cst1 v a
def szCk (P : Program) (t n : Nat) : Bool := match P.info? t with | some i => i.size == n | none => false
def byCk (P : Program) (t n : Nat) : Bool := match P.info? t with | some i => i.bytes == n | none => false
def aggCk (P : Program) (t : Nat) : Option Bool :=
  match P.underlying t with
  | some (.struct _) => some true
  | some (.array _ _) => some true
  | some _ => some false
  | none => none
def zeroCk (P : Program) (t : Nat) (z : List AV) : Bool :=
  match P.info? t with
  | some i => match i.zero with | some v => cstL v.cells.toList z | none => false
  | none => false
def slCk (P : Program) (t e : Nat) : Bool := match P.underlying t with | some (.slice e') => e' == e | _ => false
def strCk (P : Program) (t : Nat) : Bool := match P.underlying t with | some .string => true | _ => false
def placesOf (P : Program) (t : Nat) : Option (List (Nat × Nat)) :=
  match P.underlying t with
  | some (.struct fs) => fs.toList.mapM fun f => (P.info? f.type).map fun i => (f.offset, i.size)
  | _ => none
def fieldOf (P : Program) (t k : Nat) : Option Field := match P.underlying t with | some (.struct fs) => fs[k]? | _ => none

def ldCk (P : Program) (t : Nat) (n : Option Nat) : Bool := match aggCk P t, n with | some true, some n => szCk P t n | some false, none => true | _, _ => false
def cutCk (P : Program) (t sz : Nat) : Bool := match P.underlying t with | some (.slice e) => szCk P e sz && decide (0 < sz) | some .string => sz == 0 | _ => false
def fptrCk (P : Program) (t k off : Nat) : Bool := match fieldOf P t k with | some fd => fd.offset == off && (match P.info? fd.type with | some i => decide (i.size ≠ 0) | none => false) | none => false
def fldCk (P : Program) (t k off : Nat) (n : Option Nat) : Bool := match fieldOf P t k with | some fd => fd.offset == off && ldCk P fd.type n | none => false
def iptrCk (P : Program) (t sz : Nat) : Bool := match P.underlying t with | some (.slice e) => szCk P e sz && decide (0 < sz) | _ => false
def convCk (P : Program) (src dst : Nat) (k : IntKind) : Bool := (P.underlying src).isSome && (match P.underlying dst with | some (.int k') => decide (k = k') | _ => false)
def litCk (P : Program) (t n e sz : Nat) (z : List AV) : Bool := slCk P t e && szCk P e sz && zeroCk P e z && (z.length == sz) && decide (0 < sz) && decide (n * sz ≤ 16777216)
def nilCk (P : Program) (t k : Nat) (y : Operand) : Bool :=
  match k, P.underlying t, y with
  | 0, some (.slice _), .const (.slice none _ _) => true
  | 1, some (.pointer _), .const (.pointer none) => true
  | 2, some (.func _ _ _), .const .nilFunc => true
  | 3, some (.interface _), .const .nilIface => true
  | _, _, _ => false
section
variable (f : Operand → Opd → Bool)
def buildCk (ckB : List (Nat × Nat) → List (Nat × Operand) → List (Nat × Nat × Opd) → Bool) (P : Program) (t : Nat) (ps : List (Nat × Operand)) (qs : List (Nat × Nat × Opd)) : Bool := match placesOf P t with | some pl => ckB pl ps qs | none => false
def ckBuild (pl : List (Nat × Nat)) : List (Nat × Operand) → List (Nat × Nat × Opd) → Bool
  | [], [] => true
  | (i, x) :: r, (o, n, y) :: q => decide (pl[i]? = some (o, n)) && f x y && ckBuild pl r q
  | _, _ => false
def ckLit : List (Nat × Operand) → List (Nat × Opd) → Bool
  | [], [] => true
  | (i, x) :: r, (k, y) :: q => (i == k) && f x y && ckLit r q
  | _, _ => false
def ckList : List Operand → List Opd → Bool
  | [], [] => true
  | x :: r, y :: q => f x y && ckList r q
  | _, _ => false
def ckOpt : Option Operand → Option Opd → Bool
  | none, none => true
  | some x, some y => f x y
  | _, _ => false

def ckOp (P : Program) (o : Op) (a : AOp) : Bool :=
  match o, a with
  | .move x, .mov y => f x y
  | .assign x, .mov y => f x y
  | .pick c x y, .pick c' x' y' => f c c' && f x x' && f y y'
  | .alloc t, .alloc t' z => t == t' && zeroCk P t z
  | .box t x, .box t' n y => t == t' && szCk P t n && f x y
  | .build t ps, .build z qs => zeroCk P t z && buildCk (ckBuild f) P t ps.toList qs
  | .buildSlice t n ps, .lit e sz z qs _ _ =>
    litCk P t n e sz z && (qs.length == n) && ckLit f ps.toList qs
  | .load t x, .load n y => f x y && ldCk P t n
  | .store t x v, .store n y z => szCk P t n && f x y && f v z
  | .nilCheck x, .nilck y => f x y
  | .binOp op _ x y _, .bin op' x' y' => decide (op = op') && f x x' && f y y'
  | .unOp op _ x, .un op' y => decide (op = op') && f x y
  | .convert src dst x, .conv k y => convCk P src dst k && f x y
  | .slice t x lo hi mx, .slice sz y lo' hi' mx' =>
    cutCk P t sz && f x y && ckOpt f lo lo' && ckOpt f hi hi' && ckOpt f mx mx'
  | .fieldAddr t x k, .fptr off y => fptrCk P t k off && f x y
  | .field t x k, .fld off n y =>
    fldCk P t k off n && f x y
  | .indexAddr t x i, .iptr sz y j => iptrCk P t sz && f x y && f i j
  | .index t x i, .sidx y j => strCk P t && f x y && f i j
  | .makeSlice t n c, .mk e sz bytes z n' c' => slCk P t e && szCk P e sz && decide (0 < sz) && byCk P e bytes && decide (0 < bytes) && zeroCk P e z && f n n' && f c c'
  | .extract x i, .ext y j => (i == j) && f x y
  | .makeFunc fn az bs, .mkfn g az' bs' => (match fn with | .func h => h == g | _ => false) && ckList f az.toList az' && ckList f bs.toList bs'
  | .binOp op t x y _, .isnil k neg x' => decide (op = if neg then .neq else .eql) && nilCk P t k y && f x x'
  | .binOp op t x y _, .beq neg x' y' => decide (op = if neg then .neq else .eql) && (match P.underlying t with | some .bool => true | _ => false) && f x x' && f y y'
  | .convert src dst x, .b2s y => (match P.underlying src with | some (.slice e) => (match P.underlying e with | some (.int .u8) => true | _ => false) | _ => false) && strCk P dst && f x y
  | .makeInterface t x, .ifc t' y => (t == t') && P.concrete t && f x y
  | .convert src dst x, .convs y => (src == dst) && (match P.underlying src with | some (.slice e) => (match P.underlying e with | some (.int .u8) => true | _ => false) | _ => false) && f x y
  | .call c, .len st y => (match c.callee, c.args.toList, c.argTypes.toList with
    | .builtin .len, [x], [t] => f x y && (match P.underlying t with | some (.slice _) => !st | some .string => st | _ => false)
    | _, _, _ => false)
  | .call c, .app _ e sz bytes y z => (match c.callee, c.args.toList, c.argTypes.toList with
    | .builtin .append, [x, v], [t, u] => f x y && f v z && slCk P t e && szCk P e sz && decide (0 < sz) && byCk P e bytes && decide (0 < bytes) &&
        (match P.info? e with | some i => (match i.zero with | some zv => zv.cells.size == sz | none => false) | none => false) &&
        (match P.underlying u with | some (.slice _) => true | some .string => true | _ => false)
    | _, _, _ => false)
  | .call c, .clear sz z y => (match c.callee, c.args.toList, c.argTypes.toList with
    | .builtin .clear, [x], [t] => f x y && (match P.underlying t with | some (.slice e) => szCk P e sz && zeroCk P e z | _ => false)
    | _, _, _ => false)
  | .call c, .min y z => (match c.callee, c.args.toList with
    | .builtin .min, [x, v] => f x y && f v z
    | _, _ => false)
  | _, _ => false
end

section
variable {P : Program} {s : Store} {L : Nat → Nat → Loc} {C : Cs} {w : World}

theorem cst1_sound {v : Value} {a : AV} (h : cst1 v a = true) : VR s L C w a v := by
  unfold cst1 at h
  split at h
  · rw [beq_iff_eq] at h; subst h; exact .bool _
  · simp only [Bool.and_eq_true, decide_eq_true_eq] at h
    obtain ⟨rfl,rfl⟩:=h
    exact .int _ _
  · rw [decide_eq_true_eq] at h; subst h; exact .str _
  · exact .nilp
  · exact .imm true 0 [] none 0 0 0 (fun _ => default) ⟨Nat.le_refl _, fun h => absurd h (Nat.lt_irrefl _)⟩ (fun _ => rfl) rfl (fun h => absurd rfl h) (fun j x h => by simp at h) fun j x h => by simp at h
  · exact .nilfn
  · exact .nilifc
  · cases h
theorem cstL_sound : ∀ {vs : List Value} {az : List AV}, cstL vs az = true → VRs s L C w az vs
  | [], [], _ => .nil
  | [], _ :: _, h => by simp [cstL] at h
  | _ :: _, [], h => by simp [cstL] at h
  | v :: r, a :: q, h => by
    simp only [cstL,Bool.and_eq_true] at h
    exact (VRs.one (cst1_sound h.1)).append (cstL_sound h.2)
theorem cst_sound {v : Value} {a : AV} (h : cst v a = true) : VR s L C w a v := by
  unfold cst at h
  split at h
  · exact (cstL_sound h).agg
  · exact cst1_sound h
theorem zeroCk_sound {t : Nat} {z : List AV} (h : zeroCk P t z = true) : ∃ i v, P.info? t = some i ∧ i.zero = some v ∧ VRs s L C w z v.cells.toList := by
  unfold zeroCk at h
  split at h
  · rename_i i hi
    split at h
    · rename_i v hv
      exact ⟨i,v,hi,hv,cstL_sound h⟩
    · cases h
  · cases h
theorem szCk_sound {t n : Nat} (h : szCk P t n = true) : ∃ i, P.info? t = some i ∧ i.size = n := by
  unfold szCk at h
  split at h
  · rename_i i hi; exact ⟨i, hi, by simpa using h⟩
  · cases h
theorem byCk_sound {t n : Nat} (h : byCk P t n = true) : ∃ i, P.info? t = some i ∧ i.bytes = n := by
  unfold byCk at h
  split at h
  · rename_i i hi; exact ⟨i, hi, by simpa using h⟩
  · cases h
theorem slCk_sound {t e : Nat} (h : slCk P t e = true) : P.underlying t = some (.slice e) := by
  unfold slCk at h
  split at h
  · rename_i e' he; rw [he]; simp at h; rw [h]
  · cases h
theorem run_sizeOf {t n : Nat} (h : szCk P t n = true) (w : World) : (sizeOf t).run P w = .ok n w := by
  obtain ⟨i,hi,rfl⟩:=szCk_sound h
  simp [sizeOf, typeInfo, hi]
theorem run_isAgg {t : Nat} {b : Bool} (h : aggCk P t = some b) (w : World) : (isAgg t).run P w = .ok b w := by
  unfold aggCk at h
  split at h
  · rename_i hu; simp [isAgg, run_underlying hu, ← Option.some.inj h]
  · rename_i hu; simp [isAgg, run_underlying hu, ← Option.some.inj h]
  · rename_i d h1 h2 hu
    obtain rfl:=Option.some.inj h
    simp only [isAgg,Sem.run_bind,run_underlying hu,Result.andThen_ok]
    cases d <;> first | rfl | (exact absurd hu (h1 _)) | (exact absurd hu (h2 _ _))
  · cases h

def Runs (P : Program) (s : Store) (L : Nat → Nat → Loc) (C : Cs) (w : World) (x : Sem Next) (s' : Store) (v : AV) : Prop :=
  ∃ L' C' w' nx val, x.run P w = .ok nx w' ∧ (nx = .value val ∨ (nx = .skip ∧ val = Go.undef)) ∧ VR s' L' C' w' v val ∧ SR s' L' C' w' ∧ Ext (s.low.length + 1) s L C w s' L' C' w'
theorem Runs.same {x : Sem Next} {v : AV} {val : Value} (hR : SR s L C w) (hx : x.run P w = .ok (.value val) w) (hv : VR s L C w v val) : Runs P s L C w x s v :=
  ⟨L, C, w, _, val, hx, .inl rfl, hv, hR, Ext.refl _⟩
theorem run_value {m : Sem Value} {val : Value} {w' : World} (h : m.run P w = .ok val w') : (do pure (Next.value (← m)) : Sem Next).run P w = .ok (.value val) w' := by simp [h]

/-! ### loads and stores -/
theorem run_load {t : Nat} {n : Option Nat} {p v : AV} {u : Value} (hR : SR s L C w) (hp : VR s L C w p u) (hl : loadV s n p = some v)
    (hck : ldCk P t n = true) : ∃ val, (Instr.loadAt t u).run P w = .ok val w ∧ VR s L C w v val := by
  obtain ⟨cs,h1,h2,h3⟩:=loadV_cells hl
  obtain ⟨us,h4,ad,rfl,h5⟩:=cellsFrom_sound hR hp h1
  unfold ldCk at hck
  cases n with
  | some n =>
    cases ha : aggCk P t with
    | none => simp [ha] at hck
    | some q =>
      cases q with
      | false => simp [ha] at hck
      | true =>
        simp only [ha] at hck
        obtain ⟨hn,rfl⟩:=h3 n rfl
        have hlen:us.length = cs.length:=h4.1
        have hrow:∀ (j:Nat) v,(us.take n)[j]? = some v→w.cell? (ad.add j) = some v:=by
          intro j v hv
          have hne:us ≠ []:=by rintro rfl; simp at hv
          obtain ⟨b,o,rfl,h6⟩:=h5 hne
          rw [add_lit']
          exact h6.take n j v hv
        have hr:=run_loadCells_list (P:=P) w ad (us.take n) hrow
        rw [show (us.take n).length = n by rw [List.length_take]; omega] at hr
        refine ⟨.agg (us.take n).toArray,?_,(h4.take n).agg⟩
        simp [Instr.loadAt, Instr.sureAddr, loadVar, run_isAgg ha, run_sizeOf hck, hr]
  | none =>
    cases ha : aggCk P t with
    | none => simp [ha] at hck
    | some q =>
      cases q with
      | true => simp [ha] at hck
      | false =>
        obtain ⟨u,hu,hv⟩:=h4.get (h2 rfl)
        have hne:us ≠ []:=by rintro rfl; simp at hu
        obtain ⟨b,o,rfl,h6⟩:=h5 hne
        have hc:=h6 0 u hu
        rw [Nat.add_zero] at hc
        refine ⟨u,?_,hv⟩
        simp [Instr.loadAt, Instr.sureAddr, loadVar, run_isAgg ha, hc]

theorem splice_length {α : Type} (cs ys : List α) (off : Nat) (h : off + ys.length ≤ cs.length) : (cs.take off ++ ys ++ cs.drop (off + ys.length)).length = cs.length := by
  simp only [List.length_append,List.length_take,List.length_drop]
  omega
theorem cellsOk_splice {D : Nat} {cs ys : List AV} (h : cellsOk D cs = true) (hy : cellsOk D ys = true) (a b : Nat) : cellsOk D (cs.take a ++ ys ++ cs.drop b) = true :=
  cellsOk_append.2 ⟨cellsOk_append.2 ⟨cellsOk_take h a, hy⟩, cellsOk_drop h b⟩

theorem SR.setBox {d i t off : Nat} {cs ys : List AV} {us : List Value} (h : SR s L C w) (hg : s.get d i = some (.box t cs)) (hy : VRs s L C w ys us) (hok : cellsOk (d + 1) ys = true) (hb : off + ys.length ≤ cs.length)
    (vs : List Value) (hvs : w.heap[(L d i).blk]? = some (.cells vs.toArray t (0, 0))) (hvr : VRs s L C w cs vs) :
    Ext (s.low.length + 1) s L C w (s.set d i (.box t (cs.take off ++ ys ++ cs.drop (off + ys.length)))) L C (w.setRow (L d i).blk (vs.take off ++ us ++ vs.drop (off + us.length)).toArray) ∧
      SR (s.set d i (.box t (cs.take off ++ ys ++ cs.drop (off + ys.length)))) L C (w.setRow (L d i).blk (vs.take off ++ us ++ vs.drop (off + us.length)).toArray) := by
  obtain ⟨hok0,hnc,_⟩:=h.obj d i _ hg
  have hL:upd L d i (L d i) = L:=by
    funext a b
    unfold upd
    split
    · rename_i hq; rw [hq.1, hq.2]
    · rfl
  have key:=h.turn (W:=w.setRow (L d i).blk (vs.take off ++ us ++ vs.drop (off + us.length)).toArray) (C':=C) (l:=L d i) (o':=.box t (cs.take off ++ ys ++ cs.drop (off + ys.length))) hg ⟨rfl,rfl⟩ rfl rfl rfl (by simp)
    (fun b _ hn => setRow_other w _ _ _ (hn (.inl ⟨t, cs, hg⟩))) (fun _ _ h => h) (fun _ _ h => .inl h)
    (fun b q hc => cell_setRow_other w _ _ _ (by rintro rfl; exact hnc _ hc))
    (fun b q hc => by
      obtain ⟨v,hv⟩:=h.cok b q hc
      exact ⟨v,by rw [cell_setRow_other w _ _ _ (by rintro rfl; exact hnc _ hc)]; exact hv⟩)
    (fun _ => .inl ⟨.inl ⟨t, cs, hg⟩, rfl⟩)
    (fun hE => ⟨cellsOk_splice hok0 hok _ _, by rw [upd_same]; exact hnc, _, by rw [upd_same]; exact setRow_heap w _ _ _ _ _ hvs, by
      refine (((hvr.take off).append hy).append ?_).keep hE
      rw [hy.1]
      exact hvr.drop _⟩)
  rw [hL] at key
  exact key

theorem SR.setArr {d i e sz ver pr off : Nat} {cs ys : List AV} {us : List Value} (h : SR s L C w) (hg : s.get d i = some (.arr e sz cs ver pr)) (hm : 0 < (L d i).lim) (hy : VRs s L C w ys us) (hok : cellsOk (d + 1) ys = true)
    (hb : off + ys.length ≤ cs.length) (hpr : pr ≤ off) (vs : List Value) (hvs : w.heap[(L d i).blk]? = some (.cells vs.toArray e (0, 0))) (hlim : (L d i).lim ≤ vs.length)
    (hvr : ∀ (j : Nat) x y, cs[j]? = some x → vs[(L d i).base + j]? = some y → VR s L C w x y) (hbase : (L d i).base + cs.length ≤ (L d i).lim) :
    Ext (s.low.length + 1) s L C w (s.set d i (.arr e sz (cs.take off ++ ys ++ cs.drop (off + ys.length)) ver pr)) L C (w.setRow (L d i).blk (vs.take ((L d i).base + off) ++ us ++ vs.drop ((L d i).base + off + us.length)).toArray) ∧
      SR (s.set d i (.arr e sz (cs.take off ++ ys ++ cs.drop (off + ys.length)) ver pr)) L C (w.setRow (L d i).blk (vs.take ((L d i).base + off) ++ us ++ vs.drop ((L d i).base + off + us.length)).toArray) := by
  obtain ⟨hsz,hok0,h2⟩:=h.obj d i _ hg
  have hnc:∀ o,(L d i).base + pr ≤ o→o < (L d i).lim→¬ C (L d i).blk o:=by
    rcases h2 with ⟨h2, _⟩ | ⟨_, h2, _⟩
    · omega
    · exact h2
  have hL:upd L d i (L d i) = L:=by
    funext a b
    unfold upd
    split
    · rename_i hq; rw [hq.1, hq.2]
    · rfl
  have hul:us.length = ys.length:=hy.1
  have hcell:∀ b q,C b q→(w.setRow (L d i).blk (vs.take ((L d i).base + off) ++ us ++ vs.drop ((L d i).base + off + us.length)).toArray).cell? ⟨b,q,none⟩ = w.cell? ⟨b,q,none⟩:=by
    intro b q hc
    by_cases hbb:b = (L d i).blk
    · subst hbb
      rw [cell_setRow_same w _ _ _ _ _ _ hvs,cell_of_heap hvs]
      simp only [List.getElem?_toArray]
      have hlen:(vs.take ((L d i).base + off)).length = (L d i).base + off:=by rw [List.length_take]; omega
      rcases Nat.lt_or_ge q ((L d i).base + off) with h1 | h1
      · rw [List.append_assoc, List.getElem?_append_left (by omega), List.getElem?_take, if_pos h1]
      · rcases Nat.lt_or_ge q ((L d i).base + off + us.length) with h3 | h3
        · exact absurd hc (hnc q (by omega) (by omega))
        · rw [List.getElem?_append_right (by rw [List.length_append]; omega), List.getElem?_drop, List.length_append, hlen]
          congr 1
          omega
    · exact cell_setRow_other w _ _ _ hbb
  have key:=h.turn (W:=w.setRow (L d i).blk (vs.take ((L d i).base + off) ++ us ++ vs.drop ((L d i).base + off + us.length)).toArray) (C':=C) (l:=L d i)
    (o' := .arr e sz (cs.take off ++ ys ++ cs.drop (off + ys.length)) ver pr) hg ⟨rfl, rfl, Nat.le_refl _, fun _ => rfl⟩ rfl rfl rfl (by simp)
    (fun b _ hn => setRow_other w _ _ _ (hn (.inr ⟨e, sz, cs, ver, pr, hg, hm⟩))) (fun _ _ h => h) (fun _ _ h => .inl h) hcell
    (fun b q hc => by
      obtain ⟨v,hv⟩:=h.cok b q hc
      exact ⟨v,by rw [hcell b q hc]; exact hv⟩)
    (fun _ => .inl ⟨.inr ⟨e, sz, cs, ver, pr, hg, hm⟩, rfl⟩)
    (fun hE => ⟨hsz, cellsOk_splice hok0 hok _ _, by
      rw [upd_same]
      refine .inr ⟨hm,hnc,by rw [splice_length _ _ _ hb]; exact hbase,_,setRow_heap w _ _ _ _ _ hvs,by rw [splice_length _ _ _ (by omega)]; exact hlim,?_⟩
      intro j x y hx hyy
      have hlen:(cs.take off).length = off:=by rw [List.length_take]; omega
      have hlen':(vs.take ((L d i).base + off)).length = (L d i).base + off:=by rw [List.length_take]; omega
      rcases Nat.lt_or_ge j off with h1 | h1
      · rw [List.append_assoc, List.getElem?_append_left (by omega), List.getElem?_take, if_pos h1] at hx
        rw [List.append_assoc,List.getElem?_append_left (by omega),List.getElem?_take,if_pos (by omega)] at hyy
        exact (hvr j x y hx hyy).keep hE
      · rcases Nat.lt_or_ge j (off + ys.length) with h3 | h3
        · rw [List.append_assoc, List.getElem?_append_right (by omega), List.getElem?_append_left (by omega), hlen] at hx
          rw [List.append_assoc,List.getElem?_append_right (by omega),List.getElem?_append_left (by omega),hlen'] at hyy
          rw [show (L d i).base + j - ((L d i).base + off) = j - off by omega] at hyy
          exact (hy.2 _ x y hx hyy).keep hE
        · rw [List.getElem?_append_right (by rw [List.length_append]; omega), List.length_append, hlen, List.getElem?_drop] at hx
          rw [List.getElem?_append_right (by rw [List.length_append]; omega),List.length_append,hlen',List.getElem?_drop] at hyy
          rw [show off + ys.length + (j - (off + ys.length)) = j by omega] at hx
          rw [show (L d i).base + off + us.length + ((L d i).base + j - ((L d i).base + off + us.length)) = (L d i).base + j by omega] at hyy
          exact (hvr j x y hx hyy).keep hE⟩)
  rw [hL] at key
  exact key

theorem run_store {t n : Nat} {p x : AV} {u v : Value} {s' : Store} (hR : SR s L C w) (hp : VR s L C w p u) (hx : VR s L C w x v) (hl : storeV s n p x = some s') (hck : szCk P t n = true) :
    ∃ w', (Instr.storeAt t u v).run P w = .ok () w' ∧ SR s' L C w' ∧ Ext (s.low.length + 1) s L C w s' L C w' := by
  unfold storeV at hl
  cases hp <;> try (simp at hl; done)
  case ptr d i off t' cs hg =>
    simp only [hg] at hl
    split at hl
    · rename_i hq
      obtain ⟨hok,hlen,hb⟩:=hq
      obtain rfl:=Option.some.inj hl
      obtain ⟨us,hus,hvr⟩:=hx.cells (cellsOk_cells hok)
      obtain ⟨vs,hvs,_,hheap⟩:=box_row hR hg
      subst hlen
      have hul:us.length = x.cells.length:=hvr.1
      have hvl:vs.length = cs.length:=hvs.1
      obtain ⟨hE,hS⟩:=hR.setBox hg hvr hok hb vs hheap hvs
      have hst:=run_storeCells_at P (L d i).blk off t' us 0 vs.toArray w hheap (by simp; omega) (hvr.one_all (cellsOk_cells hok))
      simp only [Nat.add_zero] at hst
      refine ⟨_,?_,hS,hE⟩
      have hns:¬ (us.toArray.size ≠ x.cells.length):=by simp [hul]
      simp only [Instr.storeAt,Instr.sureAddr,storeVar,Sem.run_bind,Sem.run_pure,Result.andThen_ok,run_sizeOf hck,hus]
      rw [if_neg hns]
      simpa using hst
    · cases hl
  case aptr d i off ver e sz cs ver' pr hg hv hs hr =>
    simp only [hg] at hl
    split at hl
    · rename_i hq
      obtain ⟨hok,hlen,hb,hver,hpr⟩:=hq
      obtain rfl:=Option.some.inj hl
      obtain ⟨us,hus,hvr⟩:=hx.cells (cellsOk_cells hok)
      obtain rfl:=hr hver
      subst hlen
      have hul:us.length = x.cells.length:=hvr.1
      obtain ⟨_,_,h2⟩:=hR.obj d i _ hg
      rcases Nat.eq_zero_or_pos (L d i).lim with h0 | h0
      · -- nothing is written
        rcases h2 with ⟨_, hb0, rfl⟩ | ⟨h2, _⟩
        · have hz : x.cells = [] := List.eq_nil_of_length_eq_zero (by have hb' := hb; simp only [List.length_nil] at hb'; omega)
          have huz:us = []:=List.eq_nil_of_length_eq_zero (by rw [hul,hz]; rfl)
          have hset:s.set d i (.arr e sz ((([]:List AV).take off) ++ x.cells ++ ([]:List AV).drop (off + x.cells.length)) ver' pr) = s.set d i (.arr e sz [] ver' pr):=by rw [hz]; simp
          have hL:upd L d i (L d i) = L:=by
            funext a b
            unfold upd
            split
            · rename_i hq; rw [hq.1, hq.2]
            · rfl
          have key:=hR.turn (W:=w) (C':=C) (l:=L d i) (o':=.arr e sz [] ver' pr) hg ⟨rfl,rfl,Nat.le_refl _,fun _=>rfl⟩ rfl rfl rfl (Nat.le_refl _)
            (fun _ _ _ => rfl) (fun _ _ h => h) (fun _ _ h => .inl h) (fun _ _ _ => rfl) (fun b q hc => hR.cok b q hc)
            (fun hm => by
              rcases hm with ⟨t, c, hm⟩ | ⟨e', sz', c, v', p', hm, hlm⟩
              · rw [get_set s hg] at hm; cases hm
              · rw [upd_same] at hlm; omega)
            (fun hE => by
              obtain ⟨g0,g1,_⟩:=hR.obj d i _ hg
              exact ⟨g0,rfl,.inl ⟨by rw [upd_same]; exact h0,by rw [upd_same]; exact hb0,rfl⟩⟩)
          rw [hL] at key
          rw [hset]
          refine ⟨w,?_,key.2,key.1⟩
          have hns:¬ (us.toArray.size ≠ x.cells.length):=by simp [hul]
          simp only [Instr.storeAt,Instr.sureAddr,storeVar,Sem.run_bind,Sem.run_pure,Result.andThen_ok,run_sizeOf hck,hus]
          rw [if_neg hns,huz]
          rfl
        · omega
      · rcases h2 with ⟨h2, _⟩ | ⟨_, _, hbase, vs, hheap, hlim, hrel⟩
        · omega
        obtain ⟨hE,hS⟩:=hR.setArr hg h0 hvr hok hb hpr vs hheap hlim hrel hbase
        have hst:=run_storeCells_at P (L d i).blk ((L d i).base + off) e us 0 vs.toArray w hheap (by simp; omega) (hvr.one_all (cellsOk_cells hok))
        simp only [Nat.add_zero] at hst
        refine ⟨_,?_,hS,hE⟩
        have hns:¬ (us.toArray.size ≠ x.cells.length):=by simp [hul]
        simp only [Instr.storeAt,Instr.sureAddr,storeVar,Sem.run_bind,Sem.run_pure,Result.andThen_ok,run_sizeOf hck,hus]
        rw [if_neg hns]
        simpa using hst
    · cases hl
end
section
variable {P : Program} {s : Store} {L : Nat → Nat → Loc} {C : Cs} {w : World}

theorem newBox_sound {W : World} {t : Nat} {cs : List AV} {vs : List Value} {v : AV} {s' : Store} (hR : SR s L C w) (hv : VRs s L C w cs vs) (h : newBox s t cs = some (v, s')) (hp : Pushed w W (.cells vs.toArray t (0, 0))) :
    ∃ L', VR s' L' C W v (.pointer (some ⟨w.heap.size, 0, none⟩)) ∧ SR s' L' C W ∧ Ext (s.low.length + 1) s L C w s' L' C W := by
  unfold newBox at h
  split at h
  · rename_i hok
    simp only [Option.some.injEq,Prod.mk.injEq] at h
    obtain ⟨rfl,rfl⟩:=h
    obtain ⟨hE,hS⟩:=hR.add (W:=W) (o:=.box t cs) (l:=⟨w.heap.size,0,0⟩) hp.os hp.tape hp.output (by rw [hp.size]; omega) (fun b hb=>hp.old hb) (fun _=>Nat.le_refl _)
      (fun hE => ⟨hok, by rw [upd_same]; exact fun o hc => absurd (hR.clt hc) (Nat.lt_irrefl _), vs, by rw [upd_same]; exact hp.fresh, hv.keep hE⟩)
    refine ⟨_,?_,hS,hE⟩
    have:=VR.ptr (s:=s.new (.box t cs)) (L:=upd L s.low.length s.top.length ⟨w.heap.size,0,0⟩) (C:=C) (w:=W) s.low.length s.top.length 0 t cs (get_new s _)
    rwa [upd_same] at this
  · cases h

theorem newArr_sound {W : World} {e sz n cap : Nat} {cs : List AV} {vs rest : List Value} {v : AV} {s' : Store} (hR : SR s L C w) (hsz : 0 < sz) (hv : VRs s L C w cs vs) (h : newArr s e sz n cs = some (v, s'))
    (hp : Pushed w W (.cells (vs ++ rest).toArray e (0, 0))) (hn : n ≤ cap) (hrest : n * sz + rest.length = cap * sz) :
    ∃ L', VR s' L' C W v (.slice (some ⟨w.heap.size, 0, none⟩) n cap) ∧ SR s' L' C W ∧ Ext (s.low.length + 1) s L C w s' L' C W := by
  unfold newArr at h
  split at h
  · rename_i hq
    obtain ⟨hok,hlen⟩:=hq
    simp only [Option.some.injEq,Prod.mk.injEq] at h
    obtain ⟨rfl,rfl⟩:=h
    have hvl:vs.length = cs.length:=hv.1
    obtain ⟨hE,hS⟩:=hR.add (W:=W) (o:=.arr e sz cs 0 0) (l:=⟨w.heap.size,0,cap * sz⟩) hp.os hp.tape hp.output (by rw [hp.size]; omega) (fun b hb=>hp.old hb) (fun _=>Nat.le_refl _)
      (fun hE => by
        refine ⟨hsz,hok,?_⟩
        rw [upd_same]
        rcases Nat.eq_zero_or_pos (cap * sz) with h0 | h0
        · exact .inl ⟨h0, rfl, List.eq_nil_of_length_eq_zero (by omega)⟩
        · refine .inr ⟨h0, fun o _ _ hc => absurd (hR.clt hc) (Nat.lt_irrefl _), by simp; omega, _, hp.fresh, by simp; omega, fun j x y hx hy => ?_⟩
          have hj:=(List.getElem?_eq_some_iff.1 hx).1
          simp only [Nat.zero_add] at hy
          rw [List.getElem?_append_left (by omega)] at hy
          exact (hv.2 j x y hx hy).keep hE)
    refine ⟨_,?_,hS,hE⟩
    have hs:SlOk (upd L s.low.length s.top.length ⟨w.heap.size,0,cap * sz⟩ s.low.length s.top.length) sz 0 n false (.slice (some ⟨w.heap.size,0,none⟩) n cap):=by
      rw [upd_same]
      exact ⟨_,_,rfl,hn,by simp,fun _=>rfl⟩
    exact VR.slr _ _ _ _ _ _ e sz cs 0 0 _ (get_new s _) (Nat.le_refl _) hs.slV fun _=>hs
  · cases h
theorem newArr0_sound {W : World} {e sz n cap : Nat} {cs : List AV} {vs rest : List Value} {v : AV} {s' : Store} (hR : SR s L C w) (hsz : 0 < sz) (hv : VRs s L C w cs vs) (h : newArr0 s e sz n cs = some (v, s'))
    (hp : Pushed w W (.cells (vs ++ rest).toArray e (0, 0))) (hn : n ≤ cap) (hrest : n * sz + rest.length = cap * sz) :
    ∃ L', VR s' L' C W v (.slice (some ⟨w.heap.size, 0, none⟩) n cap) ∧ SR s' L' C W ∧ Ext (s.low.length + 1) s L C w s' L' C W := by
  unfold newArr0 at h
  split at h
  · rename_i hq
    obtain ⟨hok,hlen⟩:=hq
    simp only [Option.some.injEq,Prod.mk.injEq] at h
    obtain ⟨rfl,rfl⟩:=h
    have hvl:vs.length = cs.length:=hv.1
    obtain ⟨hE,hS⟩:=hR.addAt (W:=W) (o:=.arr e sz cs n (n * sz)) (l:=⟨w.heap.size,0,cap * sz⟩) (get_len0 s) (get_new0 s _) (fun _ _ hn=>get_new0_ne s _ hn) (new0_depth s _) hp.os hp.tape hp.output (by rw [hp.size]; omega) (fun b hb=>hp.old hb) (fun _=>Nat.le_refl _)
      (fun hE => by
        refine ⟨hsz,hok,?_⟩
        rw [upd_same]
        rcases Nat.eq_zero_or_pos (cap * sz) with h0 | h0
        · exact .inl ⟨h0, rfl, List.eq_nil_of_length_eq_zero (by omega)⟩
        · refine .inr ⟨h0, fun o _ _ hc => absurd (hR.clt hc) (Nat.lt_irrefl _), by simp; omega, _, hp.fresh, by simp; omega, fun j x y hx hy => ?_⟩
          have hj:=(List.getElem?_eq_some_iff.1 hx).1
          simp only [Nat.zero_add] at hy
          rw [List.getElem?_append_left (by omega)] at hy
          exact (hv.2 j x y hx hy).keep hE)
    refine ⟨_,?_,hS,hE⟩
    have hs:SlOk (upd L 0 s.len0 ⟨w.heap.size,0,cap * sz⟩ 0 s.len0) sz 0 n false (.slice (some ⟨w.heap.size,0,none⟩) n cap):=by
      rw [upd_same]
      exact ⟨_,_,rfl,hn,by simp,fun _=>rfl⟩
    exact VR.slr _ _ _ _ _ _ e sz cs n (n * sz) _ (get_new0 s _) (Nat.le_refl _) hs.slV fun _=>hs
  · cases h
theorem newImm_sound {W : World} {t n : Nat} {cs : List AV} {vs : List Value} (hR : SR s L C w) (hv : VRs s L C w cs vs) (hok : cellsOk 0 cs = true) (hp : Pushed w W (.cells vs.toArray t (0, 0))) :
    ∃ C', VR s L C' W (.imm true n cs) (.slice (some ⟨w.heap.size, 0, none⟩) n n) ∧ SR s L C' W ∧ Ext (s.low.length + 1) s L C w s L C' W := by
  obtain ⟨hE,hS⟩:=hR.freeze hp
  have hvl:vs.length = cs.length:=hv.1
  refine ⟨_,?_,hS,hE⟩
  refine .imm true n cs _ n w.heap.size 0 (fun j=>vs.getD j default) ⟨Nat.le_refl _,fun _=>⟨_,rfl⟩⟩ (fun _=>rfl) hok (fun _=>rfl) (fun j x hx=>?_) fun j x hx=>?_
  · have hj := (List.getElem?_eq_some_iff.1 hx).1
    refine ⟨.inr ⟨rfl,by omega⟩,?_⟩
    rw [cell_of_heap hp.fresh,Nat.zero_add,List.getD_eq_getElem?_getD,List.getElem?_eq_getElem (show j < vs.length by omega)]
    rfl
  · obtain ⟨u, hu, hr⟩ := hv.get hx
    have:vs.getD j default = u:=by rw [List.getD_eq_getElem?_getD,hu]; rfl
    rw [this]
    exact hr.keep hE

/-! ### a value from which names are taken -/
theorem frz1_sound {v v' : AV} {u : Value} {s' : Store} (hR : SR s L C w) (hv : VR s L C w v u) (h : frz1 s v = some (v', s')) :
    ∃ C', VR s' L C' w v' u ∧ SR s' L C' w ∧ Ext (s.low.length + 1) s L C w s' L C' w := by
  have same:∀ {x:AV},VR s L C w x u→some (x,s) = some (v',s')→∃ C',VR s' L C' w v' u∧SR s' L C' w∧Ext (s.low.length + 1) s L C w s' L C' w:=by
    intro x hx he
    simp only [Option.some.injEq,Prod.mk.injEq] at he
    obtain ⟨rfl,rfl⟩:=he
    exact ⟨C,hx,hR,Ext.refl _⟩
  have hv0:=hv
  cases hv <;> try exact same hv0 h
  case imm full n cs A cap b o u' hn hf hok hA hc hr => exact same (.imm false n cs A cap b o u' hn (fun h => by cases h) hok hA hc hr) h
  case slr d i off n ver full e sz cs ver' pr hg hle hs hc =>
    simp only [frz1,hg] at h
    split at h
    · rename_i hq
      obtain ⟨hver,hlow,hlen⟩:=hq
      simp only [Option.some.injEq,Prod.mk.injEq] at h
      obtain ⟨rfl,rfl⟩:=h
      obtain ⟨A,cap,rfl,hn,hf,hA⟩:=hc hver
      obtain ⟨hsz,hok0,h2⟩:=hR.obj d i _ hg
      have hok:cellsOk 0 ((cs.drop off).take (n * sz)) = true:=cellsOk_of (cellsOk_cells (cellsOk_take (cellsOk_drop hok0 _) _)) hlow
      have hL:upd L d i (L d i) = L:=by
        funext a b
        unfold upd
        split
        · rename_i hq; rw [hq.1, hq.2]
        · rfl
      rcases h2 with ⟨h0, hb0, rfl⟩ | ⟨h0, hnc, hbase, vs, hheap, hlim, hrel⟩
      · have key := hR.turn (W := w) (C' := C) (l := L d i) (o' := .arr e sz [] ver' (max pr (off + n * sz))) hg ⟨rfl, rfl, Nat.le_refl _, fun _ => rfl⟩ rfl rfl rfl (Nat.le_refl _)
          (fun _ _ _ => rfl) (fun _ _ h => h) (fun _ _ h => .inl h) (fun _ _ _ => rfl) (fun b q hc => hR.cok b q hc)
          (fun hm => by
            rcases hm with ⟨t, c, hm⟩ | ⟨e', sz', c, v', p', hm, hlm⟩
            · rw [get_set s hg] at hm; cases hm
            · rw [upd_same] at hlm; omega)
          (fun hE => ⟨hsz, rfl, .inl ⟨by rw [upd_same]; exact h0, by rw [upd_same]; exact hb0, rfl⟩⟩)
        rw [hL] at key
        refine ⟨C,?_,key.2,key.1⟩
        refine .imm false n _ A cap 0 0 (fun _=>default) ⟨hn,fun h=>⟨_,hA h⟩⟩ (fun h=>by cases h) hok (fun hne=>absurd (by simp) hne) (fun j x hx=>by simp at hx) fun j x hx=>by simp at hx
      · have hM : Mat s L d i := .inr ⟨e, sz, cs, ver', pr, hg, h0⟩
        have key:=hR.turn (W:=w) (C':=⟨fun b q=>C b q ∨ (b = (L d i).blk∧(L d i).base + off ≤ q∧q < (L d i).base + off + n * sz),C.fz,C.w0⟩) (l:=L d i) (o':=.arr e sz cs ver' (max pr (off + n * sz))) hg ⟨rfl,rfl,Nat.le_refl _,fun _=>rfl⟩ rfl rfl rfl (Nat.le_refl _)
          (fun _ _ _ => rfl) (fun _ _ h => .inl h) (fun b q h => by
            rcases h with h | ⟨rfl, _⟩
            · exact .inl h
            · exact .inr ⟨hM, rfl⟩) (fun _ _ _ => rfl)
          (fun b q hc => by
            rcases hc with hc | ⟨rfl, h1, h2⟩
            · exact hR.cok b q hc
            · exact ⟨vs[q]'(by omega), by rw [cell_of_heap hheap]; exact List.getElem?_eq_getElem _⟩)
          (fun _ => .inl ⟨hM, rfl⟩)
          (fun hE => ⟨hsz, hok0, by
            rw [upd_same]
            refine .inr ⟨h0,fun o ho ho' hc=>?_,hbase,vs,hheap,hlim,fun j x y hx hy=>(hrel j x y hx hy).keep hE⟩
            have hm1:=Nat.le_max_left pr (off + n * sz)
            have hm2:=Nat.le_max_right pr (off + n * sz)
            rcases hc with hc | ⟨_, h1, h2⟩
            · exact hnc o (by omega) ho' hc
            · omega⟩)
        rw [hL] at key
        refine ⟨_,?_,key.2,key.1⟩
        refine .imm false n _ A cap (L d i).blk ((L d i).base + off) (fun j=>vs.getD ((L d i).base + off + j) default) ⟨hn,fun h=>⟨_,hA h⟩⟩ (fun h=>by cases h) hok (fun hne=>hA ?_) (fun j x hx=>?_) fun j x hx=>?_
        · rcases Nat.eq_zero_or_pos n with h0 | h0
          · subst h0; simp at hne
          · omega
        · have hj := (List.getElem?_eq_some_iff.1 hx).1
          rw [List.length_take,List.length_drop] at hj
          refine ⟨.inr ⟨rfl,by omega,by omega⟩,?_⟩
          rw [cell_of_heap hheap,List.getD_eq_getElem?_getD,List.getElem?_eq_getElem (show (L d i).base + off + j < vs.length by omega)]
          rfl
        · have hj := (List.getElem?_eq_some_iff.1 hx).1
          rw [List.length_take,List.length_drop] at hj
          have hx':cs[off + j]? = some x:=by
            rw [List.getElem?_take,if_pos (by omega),List.getElem?_drop] at hx
            exact hx
          have hy:vs[(L d i).base + (off + j)]? = some (vs.getD ((L d i).base + off + j) default):=by
            rw [List.getD_eq_getElem?_getD,← Nat.add_assoc,List.getElem?_eq_getElem (show (L d i).base + off + j < vs.length by omega)]
            rfl
          exact (hrel _ x _ hx' hy).keep key.1
    · cases h
theorem frzL_sound : ∀ {vs vs' : List AV} {us : List Value} {s s' : Store} {C : Cs}, SR s L C w → VRs s L C w vs us → frzL s vs = some (vs', s') →
    ∃ C', VRs s' L C' w vs' us ∧ SR s' L C' w ∧ Ext (s.low.length + 1) s L C w s' L C' w
  | [], vs', us, s, s', C, hR, hv, h => by
    simp only [frzL,Option.some.injEq,Prod.mk.injEq] at h
    obtain ⟨rfl,rfl⟩:=h
    exact ⟨C,hv,hR,Ext.refl _⟩
  | v :: r, vs', us, s, s', C, hR, hv, h => by
    simp only [frzL] at h
    obtain ⟨⟨v1,s1⟩,h1,h⟩:=bind_some h
    obtain ⟨⟨r2,s2⟩,h2,h⟩:=bind_some h
    simp only [Option.some.injEq,Prod.mk.injEq] at h
    obtain ⟨rfl,rfl⟩:=h
    obtain ⟨u,ur,rfl⟩:∃ u ur,us = u :: ur:=by
      cases us with
      | nil => have := hv.1; simp at this
      | cons u ur => exact ⟨u, ur, rfl⟩
    obtain ⟨C1,g1,g2,g3⟩:=frz1_sound hR (hv.2 0 v u rfl rfl) h1
    have hvr:VRs s L C w r ur:=⟨by simpa using hv.1,fun j x y hx hy=>hv.2 (j + 1) x y (by simpa using hx) (by simpa using hy)⟩
    obtain ⟨C2,k1,k2,k3⟩:=frzL_sound g2 (hvr.keep g3) h2
    rw [show s1.low.length = s.low.length from g3.depth] at k3
    refine ⟨C2,?_,k2,g3.trans k3⟩
    have:=VRs.one (g1.keep (by rw [show s1.low.length = s.low.length from g3.depth]; exact k3))
    exact this.append k1
theorem frz_sound {v v' : AV} {u : Value} {s' : Store} (hR : SR s L C w) (hv : VR s L C w v u) (h : frz s v = some (v', s')) :
    ∃ C', VR s' L C' w v' u ∧ SR s' L C' w ∧ Ext (s.low.length + 1) s L C w s' L C' w := by
  unfold frz at h
  split at h
  · obtain ⟨⟨cs, s1⟩, h1, h⟩ := bind_some h
    simp only [Option.some.injEq,Prod.mk.injEq] at h
    obtain ⟨rfl,rfl⟩:=h
    cases hv with
    | agg _ vs hl hr =>
      obtain ⟨C1,g1,g2,g3⟩:=frzL_sound hR ⟨hl,hr⟩ h1
      exact ⟨C1,g1.agg,g2,g3⟩
  · exact frz1_sound hR hv h
theorem frzs_sound : ∀ {vs vs' : List AV} {us : List Value} {s s' : Store} {C : Cs}, SR s L C w → VRs s L C w vs us → frzs s vs = some (vs', s') →
    ∃ C', VRs s' L C' w vs' us ∧ SR s' L C' w ∧ Ext (s.low.length + 1) s L C w s' L C' w
  | [], vs', us, s, s', C, hR, hv, h => by
    simp only [frzs,Option.some.injEq,Prod.mk.injEq] at h
    obtain ⟨rfl,rfl⟩:=h
    exact ⟨C,hv,hR,Ext.refl _⟩
  | v :: r, vs', us, s, s', C, hR, hv, h => by
    simp only [frzs] at h
    obtain ⟨⟨v1,s1⟩,h1,h⟩:=bind_some h
    obtain ⟨⟨r2,s2⟩,h2,h⟩:=bind_some h
    simp only [Option.some.injEq,Prod.mk.injEq] at h
    obtain ⟨rfl,rfl⟩:=h
    obtain ⟨u,ur,rfl⟩:∃ u ur,us = u :: ur:=by
      cases us with
      | nil => have := hv.1; simp at this
      | cons u ur => exact ⟨u, ur, rfl⟩
    obtain ⟨C1,g1,g2,g3⟩:=frz_sound hR (hv.2 0 v u rfl rfl) h1
    have hvr:VRs s L C w r ur:=⟨by simpa using hv.1,fun j x y hx hy=>hv.2 (j + 1) x y (by simpa using hx) (by simpa using hy)⟩
    obtain ⟨C2,k1,k2,k3⟩:=frzs_sound g2 (hvr.keep g3) h2
    rw [show s1.low.length = s.low.length from g3.depth] at k3
    refine ⟨C2,?_,k2,g3.trans k3⟩
    have:=VRs.one (g1.keep (by rw [show s1.low.length = s.low.length from g3.depth]; exact k3))
    exact this.append k1
theorem frzR_sound {v v' : AV} {u : Value} {s' : Store} (hR : SR s L C w) (hv : VR s L C w v u) (h : frzR s v = some (v', s')) :
    ∃ C', VR s' L C' w v' u ∧ SR s' L C' w ∧ Ext (s.low.length + 1) s L C w s' L C' w := by
  unfold frzR at h
  split at h
  · obtain ⟨⟨cs, s1⟩, h1, h⟩ := bind_some h
    simp only [Option.some.injEq,Prod.mk.injEq] at h
    obtain ⟨rfl,rfl⟩:=h
    cases hv with
    | tup _ vs hl hr =>
      obtain ⟨C1,g1,g2,g3⟩:=frzs_sound hR ⟨hl,hr⟩ h1
      exact ⟨C1,g1.tup,g2,g3⟩
  · exact frz_sound hR hv h
theorem frzK_sound {k : Bool} {v v' : AV} {u : Value} {s' : Store} (hR : SR s L C w) (hv : VR s L C w v u) (h : frzK k s v = some (v', s')) :
    ∃ C', VR s' L C' w v' u ∧ SR s' L C' w ∧ Ext (s.low.length + 1) s L C w s' L C' w := by
  unfold frzK at h
  split at h
  · simp only [Option.some.injEq, Prod.mk.injEq] at h
    obtain ⟨rfl,rfl⟩:=h
    exact ⟨C,hv,hR,.refl _⟩
  · exact frzR_sound hR hv h
end
def VO (s : Store) (L : Nat → Nat → Loc) (C : Cs) (w : World) : Option AV → Option Value → Prop
  | none, none => True
  | some a, some v => VR s L C w a v
  | _, _ => False

section
variable {P : Program} {s : Store} {L : Nat → Nat → Loc} {C : Cs} {w : World}

theorem optInt_sound {o : Option AV} {o' : Option Value} {d n : Int} (h : VO s L C w o o') (hn : optInt o d = some n) : (o' = none ∧ n = d) ∨ ∃ k, o' = some (.int k n) := by
  cases o with
  | none =>
    cases o' with
    | none => exact .inl ⟨rfl, (Option.some.inj hn).symm⟩
    | some v => exact h.elim
  | some a =>
    cases o' with
    | none => exact h.elim
    | some v =>
      cases a <;> try (simp [optInt] at hn; done)
      case int k m =>
        simp only [optInt,Option.some.injEq] at hn
        subst hn
        have h':VR s L C w (.int k m) v:=h
        cases h'
        exact .inr ⟨k,rfl⟩
theorem elem_of {t e : Nat} (h : P.underlying t = some (.slice e)) : P.underlying t = some (.slice (P.elem t)) ∧ P.elem t = e := by
  have:P.elem t = e:=by simp [Program.elem,h]
  exact ⟨by rw [this]; exact h,this⟩

theorem run_cut {t e sz n cap : Nat} {A : Option Addr} {lo hi mx : Option AV} {lo' hi' mx' : Option Value} {l h : Int} (ht : P.underlying t = some (.slice e)) (hs : szCk P e sz = true)
    (hlo : VO s L C w lo lo') (hhi : VO s L C w hi hi') (hmx : VO s L C w mx mx') (el : optInt lo 0 = some l) (eh : optInt hi n = some h) (h0 : 0 ≤ l) (h1 : l ≤ h) (h2 : h ≤ n) (hc : n ≤ cap)
    (hm : mx = none ∨ ∃ k, mx = some (.int k h) ∧ hi.isSome = true) :
    (Instr.sliceAt t (.slice A n cap) lo' hi' mx').run P w = .ok (sliced A l.toNat h.toNat (if mx = none then cap else h.toNat) sz) w := by
  obtain ⟨ht',he⟩:=elem_of ht
  have hsz:=run_sizeOf hs w
  rw [run_sliceAt_slice w t _ _ _ _ ht']
  rcases hm with rfl | ⟨km, rfl, hsome⟩
  · obtain rfl : mx' = none := by cases mx' with | none => rfl | some v => exact hmx.elim
    rw [if_pos rfl]
    rcases optInt_sound hlo el with ⟨rfl, rfl⟩ | ⟨kl, rfl⟩
    · rcases optInt_sound hhi eh with ⟨rfl, rfl⟩ | ⟨kh, rfl⟩
      · rw [run_slice_all w t A n cap ht', he, hsz]; simp [Result.andThen]
      · rw [run_slice_h w t A n cap ht' kh h (by omega) (by omega), he, hsz]; simp [Result.andThen]
    · rcases optInt_sound hhi eh with ⟨rfl, rfl⟩ | ⟨kh, rfl⟩
      · rw [run_slice_l w t A n cap ht' kl l h0 (by omega), he, hsz]; simp [Result.andThen]
      · rw [run_slice_lh w t A n cap ht' kl kh l h h0 h1 (by omega), he, hsz]; simp [Result.andThen]
  · rw [if_neg (by simp)]
    obtain ⟨v,rfl⟩:∃ v,mx' = some v:=by cases mx' with | none=>exact hmx.elim | some v=>exact ⟨v,rfl⟩
    have hv:VR s L C w (.int km h) v:=hmx
    cases hv
    obtain ⟨kh,rfl⟩:∃ k,hi' = some (.int k h):=by
      rcases optInt_sound hhi eh with ⟨rfl, _⟩ | hq
      · cases hi with
        | none => simp at hsome
        | some a => exact hhi.elim
      · exact hq
    rcases optInt_sound hlo el with ⟨rfl, rfl⟩ | ⟨kl, rfl⟩
    · rw [run_slice_hm w t A n cap ht' kh km h h (by omega) (Int.le_refl _) (by omega), he, hsz]; simp [Result.andThen]
    · rw [run_slice_lhm w t A n cap ht' kl kh km l h h h0 h1 (Int.le_refl _) (by omega), he, hsz]; simp [Result.andThen]

theorem ck_str {t : Nat} (h : cutCk P t 0 = true) : P.underlying t = some .string := by
  unfold cutCk at h
  split at h
  · simp at h
  · rename_i he; exact he
  · cases h
theorem ck_sl {t sz : Nat} (h : cutCk P t sz = true) (h0 : sz ≠ 0) :
    ∃ e, P.underlying t = some (.slice e) ∧ szCk P e sz = true := by
  unfold cutCk at h
  split at h
  · rename_i e he
    simp only [Bool.and_eq_true] at h
    exact ⟨e,he,h.1⟩
  · simp at h; exact absurd h h0
  · cases h
theorem slice_sound {t sz : Nat} {x v : AV} {u : Value} {lo hi mx : Option AV} {lo' hi' mx' : Option Value} (hx : VR s L C w x u)
    (hck : cutCk P t sz = true)
    (hlo : VO s L C w lo lo') (hhi : VO s L C w hi hi') (hmx : VO s L C w mx mx') (h : sliceV s sz x lo hi mx = some v) :
    ∃ val, (Instr.sliceAt t u lo' hi' mx').run P w = .ok val w ∧ VR s L C w v val := by
  cases hx <;> try (simp [sliceV] at h; done)
  case str q =>
    simp only [sliceV] at h
    obtain ⟨l,el,h⟩:=bind_some h
    obtain ⟨m,em,h⟩:=bind_some h
    cases mx with
    | some _ => simp at h
    | none =>
      dsimp only at h
      split at h
      · rename_i hq
        obtain ⟨h0,h1,h2,h9⟩:=hq
        obtain rfl:=Option.some.inj h
        subst h9
        obtain rfl:mx' = none:=by cases mx' with | none=>rfl | some v=>exact hmx.elim
        have hu:=ck_str hck
        refine ⟨_,?_,.str _⟩
        rcases optInt_sound hlo el with ⟨rfl, rfl⟩ | ⟨kl, rfl⟩
        · rcases optInt_sound hhi em with ⟨rfl, rfl⟩ | ⟨kh, rfl⟩
          · simp [Instr.sliceAt, Instr.slice, run_underlying hu, Instr.sliceBounds]
          · simp [Instr.sliceAt, Instr.slice, run_underlying hu, Instr.sliceBounds, run_sliceBound w kh m q.size _ (by omega) h2]
        · rcases optInt_sound hhi em with ⟨rfl, rfl⟩ | ⟨kh, rfl⟩
          · simp [Instr.sliceAt, Instr.slice, run_underlying hu, Instr.sliceBounds, run_sliceBound w kl l q.size _ h0 (by omega)]
          · have hb := run_sliceBound (P := P) w kl l m.toNat .sliceB h0 (by omega)
            simp [Instr.sliceAt, Instr.slice, run_underlying hu, Instr.sliceBounds, run_sliceBound w kh m q.size _ (by omega) h2, hb]
      · cases h
  case imm full n cs A cap b o u' hn hf hok hA hc hr =>
    simp only [sliceV] at h
    obtain ⟨l,el,h⟩:=bind_some h
    obtain ⟨m,em,h⟩:=bind_some h
    have fin:∀ (full':Bool) (k:Nat),0 ≤ l→l ≤ m→m ≤ n→(full' = true→k = m.toNat)→m.toNat ≤ k→k ≤ cap →
        VR s L C w (.imm full' (m - l).toNat ((cs.drop (l.toNat * sz)).take ((m - l).toNat * sz))) (sliced A l.toNat m.toNat k sz) := by
      intro full' k h0 h1 h2 hk hmk hkc
      have e1:m.toNat - l.toNat = (m - l).toNat:=by omega
      unfold sliced
      rw [e1]
      refine .imm _ _ _ _ _ b (o + l.toNat * sz) (fun j=>u' (l.toNat * sz + j)) ⟨by omega,fun hq=>by
        obtain ⟨a,rfl⟩:=hn.2 (by omega)
        rw [if_neg (by omega)]
        exact ⟨_,rfl⟩⟩ (fun hq=>by have:=hk hq; omega) (cellsOk_take (cellsOk_drop hok _) _) (fun hne=>?_) (fun j x hx=>?_) fun j x hx=>?_
      · have hne' : cs ≠ [] := by rintro rfl; simp at hne
        have hlt:k ≠ l.toNat:=by
          rintro rfl
          have:(m - l).toNat = 0:=by omega
          rw [this] at hne
          simp at hne
        rw [if_neg hlt,hA hne']
        simp [add_lit']
      · rw [List.getElem?_take] at hx
        split at hx
        · rw [List.getElem?_drop] at hx
          have:=hc _ x hx
          rwa [Nat.add_assoc]
        · cases hx
      · rw [List.getElem?_take] at hx
        split at hx
        · rw [List.getElem?_drop] at hx
          exact hr _ x hx
        · cases hx
    cases mx with
    | none =>
      dsimp only at h
      split at h
      · rename_i hq
        obtain ⟨h0,h1,h2,h9⟩:=hq
        obtain rfl:=Option.some.inj h
        obtain ⟨e,hu,hs⟩:=ck_sl hck h9
        refine ⟨_,run_cut hu hs hlo hhi hmx el em h0 h1 h2 hn.1 (.inl rfl),?_⟩
        rw [if_pos rfl]
        have hn1:=hn.1
        refine fin _ cap h0 h1 h2 (fun hq=>?_) (by omega) (Nat.le_refl _)
        simp only [Bool.and_eq_true,decide_eq_true_eq] at hq
        have:=hf hq.1
        omega
      · cases h
    | some a =>
      cases a <;> try (simp at h; done)
      case int km mm =>
        dsimp only at h
        split at h
        · rename_i hq
          obtain ⟨h0,h1,h2,rfl,h4,h9⟩:=hq
          obtain rfl:=Option.some.inj h
          obtain ⟨e,hu,hs⟩:=ck_sl hck h9
          refine ⟨_,run_cut hu hs hlo hhi hmx el em h0 h1 h2 hn.1 (.inr ⟨_,rfl,h4⟩),?_⟩
          rw [if_neg (by simp)]
          have hn1:=hn.1
          exact fin _ _ h0 h1 h2 (fun _=>rfl) (Nat.le_refl _) (by omega)
        · cases h
  case slr d i off n ver full e' sz' cs ver' pr hg hv hs' hc =>
    obtain ⟨A,cap,rfl,hn,hfull,hA⟩:=hs'
    simp only [sliceV] at h
    obtain ⟨l,el,h⟩:=bind_some h
    obtain ⟨m,em,h⟩:=bind_some h
    rw [hg] at h
    have fin:∀ (full':Bool) (k:Nat),sz' = sz→0 ≤ l→l ≤ m→m ≤ n→(full' = true→k = m.toNat)→m.toNat ≤ k→k ≤ cap→(full' = false→full = false∧k = cap) →
        VR s L C w (.slr d i (off + l.toNat * sz) (m - l).toNat ver full') (sliced A l.toNat m.toNat k sz) := by
      rintro full' k rfl h0 h1 h2 hk hmk hkc hff
      have e1:m.toNat - l.toNat = (m - l).toNat:=by omega
      unfold sliced
      rw [e1]
      have hA':0 < k - l.toNat→(if k = l.toNat then A else A.map (·.add (l.toNat * sz'))) = A.map (·.add (l.toNat * sz')):=fun hq=>if_neg (by omega)
      refine .slr _ _ _ _ _ _ e' sz' cs ver' pr _ hg hv ⟨_,_,rfl,by omega,fun hq=>by have:=hk hq; omega,fun hq=>?_⟩ fun hq=>?_
      · obtain ⟨a, rfl⟩ := hA (by omega)
        rw [hA' hq]
        exact ⟨_,rfl⟩
      · obtain ⟨A2, cap2, he, hn2, hf2, hA2⟩ := hc hq
        injection he with he1 _ he3
        subst he1
        subst he3
        refine ⟨_,_,rfl,by omega,?_,fun hq=>?_⟩
        · cases full' with
          | false =>
            obtain ⟨rfl,rfl⟩:=hff rfl
            rw [if_neg (by simp)] at hf2 ⊢
            rw [← hf2]
            have:l.toNat * sz' + (k - l.toNat) * sz' = k * sz':=by rw [← Nat.add_mul]; congr 1; omega
            omega
          | true =>
            rw [if_pos rfl]
            have:=hk rfl
            refine ⟨by omega,?_⟩
            have hmul:l.toNat * sz' + (m - l).toNat * sz' = m.toNat * sz':=by rw [← Nat.add_mul]; congr 1; omega
            have hle:m.toNat * sz' ≤ n * sz':=Nat.mul_le_mul_right _ (by omega)
            cases full with
            | true =>
              rw [if_pos rfl] at hf2
              omega
            | false =>
              rw [if_neg (by simp)] at hf2
              have:n * sz' ≤ cap * sz':=Nat.mul_le_mul_right _ hn
              omega
        · rw [hA' hq, hA2 (by omega)]
          simp [add_lit', Nat.add_assoc]
    dsimp only at h
    cases mx with
    | none =>
      dsimp only at h
      split at h
      · rename_i hq
        obtain ⟨h0,h1,h2,h3,h4,h9⟩:=hq
        obtain rfl:=Option.some.inj h
        obtain ⟨e,hu,hs⟩:=ck_sl hck h9
        refine ⟨_,run_cut hu hs hlo hhi hmx el em h0 h1 h2 hn (.inl rfl),?_⟩
        rw [if_pos rfl]
        refine fin _ cap h4 h0 h1 h2 (fun hq=>?_) (by omega) (Nat.le_refl _) fun hq=>⟨hq,rfl⟩
        have:=hfull hq
        have:=h3 hq
        omega
      · cases h
    | some a =>
      cases a <;> try (simp at h; done)
      case int km mm =>
        dsimp only at h
        split at h
        · rename_i hq
          obtain ⟨h0,h1,h2,rfl,h3,h4,h9⟩:=hq
          obtain rfl:=Option.some.inj h
          obtain ⟨e,hu,hs⟩:=ck_sl hck h9
          refine ⟨_,run_cut hu hs hlo hhi hmx el em h0 h1 h2 hn (.inr ⟨_,rfl,h3⟩),?_⟩
          rw [if_neg (by simp)]
          exact fin true _ h4 h0 h1 h2 (fun _=>rfl) (Nat.le_refl _) (by omega) (fun hq=>by cases hq)
        · cases h
end
section
variable {P : Program} {s : Store} {L : Nat → Nat → Loc} {C : Cs} {w : World}

structure Src (P : Program) (w : World) (sz : Nat) (x : Value) (m : Nat) (us : List Value) : Prop where
  len : (Builtin.lenOf x).run P w = .ok m w
  cells : ∀ W : World, W.heap = w.heap → (Builtin.firstCells sz m x).run P W = .ok us.toArray W
theorem cell_heap {W w : World} (h : W.heap = w.heap) (a : Addr) : W.cell? a = w.cell? a := by simp [World.cell?, h]
theorem src_slice {sz n cap : Nat} {A : Option Addr} {us : List Value} (hl : us.length = n * sz) (hr : us ≠ [] → ∃ b o, A = some ⟨b, o, none⟩ ∧ RowAt w b o us) : Src P w sz (.slice A n cap) n us := by
  refine ⟨by simp [Builtin.lenOf],fun W hW=>?_⟩
  cases us with
  | nil =>
    simp only [List.length_nil] at hl
    cases A with
    | none => simp [Builtin.firstCells]
    | some a => simp [Builtin.firstCells, ← hl, loadCells, loadCellsFrom]
  | cons u r =>
    obtain ⟨b,o,rfl,hrow⟩:=hr (by simp)
    have h:=run_loadCells_list (P:=P) W ⟨b,o,none⟩ (u :: r) (fun j v hv=>by rw [add_lit',cell_heap hW]; exact hrow j v hv)
    rw [hl] at h
    simpa [Builtin.firstCells] using h
theorem src_string {sz : Nat} (t : ByteArray) : Src P w sz (.string t) t.size (t.data.toList.map fun b => .int .u8 b.toNat) := by
  refine ⟨by simp [Builtin.lenOf],fun W _=>?_⟩
  have he:t.extract 0 t.size = t:=by
    apply ByteArray.ext
    simp only [ByteArray.data_extract]
    have:t.size = t.data.size:=rfl
    rw [this,Array.extract_size]
  simp only [Builtin.firstCells,he,Sem.run_pure]
  congr 1
  apply Array.ext'
  simp
theorem strCells_sound (t : ByteArray) : VRs s L C w (strCells t) (t.data.toList.map fun b => .int .u8 b.toNat) := by
  refine ⟨by simp [strCells],fun j x y hx hy=>?_⟩
  simp only [strCells,List.getElem?_map,Option.map_eq_some_iff] at hx hy
  obtain ⟨b,hb,rfl⟩:=hx
  obtain ⟨b',hb',rfl⟩:=hy
  rw [hb] at hb'
  obtain rfl:=Option.some.inj hb'
  exact .int _ _

theorem dst_kind {u : Nat} (hu : (match P.underlying u with | some (.slice _) => true | some .string => true | _ => false) = true) : (∃ e, P.underlying u = some (.slice e)) ∨ P.underlying u = some .string := by
  split at hu
  · rename_i e he; exact .inl ⟨e, he⟩
  · rename_i he; exact .inr he
  · cases hu
theorem run_append_fit {t u ty e sz n m cap : Nat} {A : Option Addr} {x : Value} {us : List Value} {w' : World} (ht : P.underlying t = some (.slice e)) (hs : szCk P e sz = true)
    (hu : (match P.underlying u with | some (.slice _) => true | some .string => true | _ => false) = true) (h : Src P w sz x m us) (hn : n + m ≤ cap)
    (hst : match A with | some a => (storeCells (a.add (n * sz)) us).run P w = .ok () w' | none => w' = w) :
    (Builtin.append_ #[t, u] ty #[.slice A n cap, x]).run P w = .ok (.slice A (n + m) cap) w' := by
  rcases dst_kind hu with ⟨d, hd⟩ | hd
  · cases A with
    | none =>
      subst hst
      simp [Builtin.append_, run_underlying ht, run_underlying hd, run_sizeOf hs, h.len, h.cells w' rfl, hn]
    | some a =>
      have hst':(storeCells (a.add (n * sz)) us).run P w = .ok () w':=hst
      simp [Builtin.append_, run_underlying ht, run_underlying hd, run_sizeOf hs, h.len, h.cells w rfl, hn, hst']
  · cases A with
    | none =>
      subst hst
      simp [Builtin.append_, run_underlying ht, run_underlying hd, run_sizeOf hs, h.len, h.cells w' rfl, hn]
    | some a =>
      have hst':(storeCells (a.add (n * sz)) us).run P w = .ok () w':=hst
      simp [Builtin.append_, run_underlying ht, run_underlying hd, run_sizeOf hs, h.len, h.cells w rfl, hn, hst']

theorem run_append_more {t u ty e sz bytes n m cap : Nat} {A : Option Addr} {x : Value} {us olds : List Value} {i : TypeInfo} {z : Value} (ht : P.underlying t = some (.slice e)) (hi : P.info? e = some i) (hz : i.zero = some z) (hzs : z.cells.size = sz) (hs : i.size = sz) (hby : i.bytes = bytes)
    (hu : (match P.underlying u with | some (.slice _) => true | some .string => true | _ => false) = true) (h : Src P w sz x m us) (ho : Src P w sz (.slice A n cap) n olds) (hn : cap < n + m) (hb : (n + m) * bytes ≤ 140737488355328) (hsmall : n + m ≤ 140737488355328) :
    ∃ c rest, n + m ≤ c ∧ (n + m) * sz + List.length rest = c * sz ∧
      (Builtin.append_ #[t, u] ty #[.slice A n cap, x]).run P w = .ok (.slice (some ⟨w.heap.size, 0, none⟩) (n + m) c) (w.drew.alloc (.cells (olds ++ us ++ rest).toArray e)) := by
  have hlt:=Nat.mod_lt (w.tape w.drawn (.appendCap (n + m) cap e)) (show 0 < 2 ^ 63 - (n + m) by omega)
  have hge:n + m ≤ grownCap w (n + m) cap e:=by simp only [grownCap,Question.cut]; omega
  refine ⟨grownCap w (n + m) cap e,(Builtin.zeroCells z.cells (grownCap w (n + m) cap e - (n + m))).toList,hge,?_,?_⟩
  · rw [Array.length_toList, size_zeroCells, hzs, ← Nat.add_mul]
    congr 1
    omega
  · have hn' : ¬ (n + m ≤ cap) := by omega
    have h63':¬ (9223372036854775807 < ((n:Int) + (m:Int))):=by omega
    have h48:=growslice_fits hn hb
    have h48':¬ (281474976710656 < Builtin.nextslicecap (n + m) cap * bytes):=by omega
    have hsz:∀ W:World,(sizeOf e).run P W = .ok sz W:=fun W=>by simp [sizeOf,typeInfo,hi,hs]
    have hf:=h.cells w.drew rfl
    have hfo:=ho.cells w.drew rfl
    rcases dst_kind hu with ⟨d, hd⟩ | hd
    · simp [Builtin.append_, run_underlying ht, run_underlying hd, hsz, typeInfo, zeroValue, hi, hz, hby, h.len, hn', h63', h48', Question.forced, hf, hfo, newRow, grownCap]
      congr 2
      apply Array.ext'
      simp [List.append_assoc]
    · simp [Builtin.append_, run_underlying ht, run_underlying hd, hsz, typeInfo, zeroValue, hi, hz, hby, h.len, hn', h63', h48', Question.forced, hf, hfo, newRow, grownCap]
      congr 2
      apply Array.ext'
      simp [List.append_assoc]

theorem src_sound {y : AV} {u : Value} {m sz : Nat} {ys : List AV} (hR : SR s L C w) (hy : VR s L C w y u)
    (h : srcOf s y = some (m, ys)) (hl : ys.length = m * sz) : ∃ us, VRs s L C w ys us ∧ Src P w sz u m us := by
  have slice:elems s y = some (m,ys)→∃ us,VRs s L C w ys us∧Src P w sz u m us:=by
    intro he
    obtain ⟨A,cap,us,rfl,_,h1,h2⟩:=elems_sound hR hy he
    exact ⟨us,h1,src_slice (by rw [h1.1,hl]) h2⟩
  cases y <;> try exact slice h
  case str t =>
    cases hy
    simp only [srcOf] at h
    simp only [Option.some.injEq,Prod.mk.injEq] at h
    obtain ⟨rfl,rfl⟩:=h
    exact ⟨_,strCells_sound t,src_string t⟩

theorem upd_self (L : Nat → Nat → Loc) (d i : Nat) : upd L d i (L d i) = L := by
  funext a b
  unfold upd
  split
  · rename_i hq; rw [hq.1, hq.2]
  · rfl

theorem app_slr {t u ty e' sz' bytes d i2 off n ver pr m cap ver2 pr2 : Nat} {uy z : Value} {cs ys : List AV} {us row : List Value} {A : Option Addr} {i : TypeInfo} (hR : SR s L C w) (hg : s.get d i2 = some (.arr e' sz' cs ver pr))
    (ht : P.underlying t = some (.slice e')) (hs : szCk P e' sz' = true) (hsz : 0 < sz') (hb : (n + m) * bytes ≤ 140737488355328) (hb0 : 0 < bytes)
    (hi : P.info? e' = some i) (hzv : i.zero = some z) (hzs : z.cells.size = sz') (his : i.size = sz') (hib : i.bytes = bytes)
    (hu : (match P.underlying u with | some (.slice _) => true | some .string => true | _ => false) = true)
    (hlen : off + n * sz' ≤ cs.length) (hylen : ys.length = m * sz') (hus : VRs s L C w ys us) (hS : Src P w sz' uy m us) (hul : us.length = ys.length) (hn : n ≤ cap) (hf : (L d i2).base + off + cap * sz' = (L d i2).lim) (hA : 0 < cap → A = some ⟨(L d i2).blk, (L d i2).base + off, none⟩)
    (hnm : n + m ≤ 140737488355328) (hrow1 : VRs s L C w cs row) (hrl : row.length = cs.length) (holds : VRs s L C w ((cs.drop off).take (n * sz')) ((row.drop off).take (n * sz'))) (hso : Src P w sz' (.slice A n cap) n ((row.drop off).take (n * sz')))
    (hyok : cellsOk (d + 1) ys = true) (hpr : pr ≤ off + n * sz') (hv2 : ver < ver2) (hp2 : pr - off ≤ pr2) :
    ∃ L' C' w' val, (Builtin.append_ #[t, u] ty #[.slice A n cap, uy]).run P w = .ok val w' ∧ VR (s.set d i2 (.arr e' sz' ((cs.drop off).take (n * sz') ++ ys) ver2 pr2)) L' C' w' (.slr d i2 0 (n + m) ver2 false) val ∧
      SR (s.set d i2 (.arr e' sz' ((cs.drop off).take (n * sz') ++ ys) ver2 pr2)) L' C' w' ∧ Ext (s.low.length + 1) s L C w (s.set d i2 (.arr e' sz' ((cs.drop off).take (n * sz') ++ ys) ver2 pr2)) L' C' w' := by
  obtain ⟨hsz0,hok0,h2⟩:=hR.obj d i2 _ hg
  have hokn:cellsOk (d + 1) ((cs.drop off).take (n * sz') ++ ys) = true:=cellsOk_append.2 ⟨cellsOk_take (cellsOk_drop hok0 _) _,hyok⟩
  have hlenn:((cs.drop off).take (n * sz') ++ ys).length = (n + m) * sz':=by rw [List.length_append,List.length_take,List.length_drop,hylen,Nat.add_mul]; omega
  have hgs:=get_set (o':=.arr e' sz' ((cs.drop off).take (n * sz') ++ ys) ver2 pr2) s hg
  by_cases hfit:n + m ≤ cap
  · -- within the room
    rcases h2 with ⟨h0, hb0', hcs⟩ | ⟨h0, hnc, hbase, vs, hheap, hlim, hrel⟩
    · -- it lies nowhere
      subst hcs
      have hc0:cap = 0:=by
        rcases Nat.eq_zero_or_pos cap with h1 | h1
        · exact h1
        · have := Nat.mul_pos h1 hsz; omega
      have hz0:n = 0:=by omega
      have hm0:m = 0:=by omega
      subst hc0; subst hz0; subst hm0
      have hu0:us = []:=List.eq_nil_of_length_eq_zero (by rw [hul,hylen]; simp)
      have hy0:ys = []:=List.eq_nil_of_length_eq_zero (by rw [hylen]; simp)
      subst hu0; subst hy0
      have key:=hR.turn (W:=w) (C':=C) (l:=L d i2) (o':=.arr e' sz' ((([]:List AV).drop off).take (0 * sz') ++ []) ver2 pr2) hg ⟨rfl,rfl,by omega,fun hq=>by omega⟩ rfl rfl rfl (Nat.le_refl _)
        (fun _ _ _ => rfl) (fun _ _ h => h) (fun _ _ h => .inl h) (fun _ _ _ => rfl) (fun b q hc => hR.cok b q hc)
        (fun hm => by
          rcases hm with ⟨t, c, hm⟩ | ⟨e', sz', c, v', p', hm, hlm⟩
          · rw [get_set s hg] at hm; cases hm
          · rw [upd_same] at hlm; omega)
        (fun hE => ⟨hsz, by simp [cellsOk], .inl ⟨by rw [upd_same]; exact h0, by rw [upd_same]; exact hb0', by simp⟩⟩)
      rw [upd_self] at key
      refine ⟨L,C,w,_,run_append_fit (m:=0) ht hs hu hS (Nat.le_refl _) ?_,?_,key.2,key.1⟩
      · cases A <;> simp [storeCells]
      · have hs2 : SlOk (L d i2) sz' 0 (0 + 0) false (.slice A (0 + 0) 0) := ⟨_, _, rfl, Nat.le_refl _, by rw [if_neg (by simp)]; omega, fun h => absurd h (Nat.lt_irrefl _)⟩
        exact .slr _ _ _ _ _ _ _ _ _ _ _ _ (get_set s hg) (Nat.le_refl _) hs2.slV fun _=>hs2
    · have hM : Mat s L d i2 := .inr ⟨e', sz', cs, ver, pr, hg, h0⟩
      have hcapmul:(n + m) * sz' ≤ cap * sz':=Nat.mul_le_mul_right _ hfit
      have hmulnm:(n + m) * sz' = n * sz' + m * sz':=Nat.add_mul _ _ _
      have hcell:∀ b q,C b q→(w.setRow (L d i2).blk (vs.take ((L d i2).base + off + n * sz') ++ us ++ vs.drop ((L d i2).base + off + n * sz' + us.length)).toArray).cell? ⟨b,q,none⟩ = w.cell? ⟨b,q,none⟩:=by
        intro b q hc
        by_cases hbb:b = (L d i2).blk
        · subst hbb
          rw [cell_setRow_same w _ _ _ _ _ _ hheap,cell_of_heap hheap]
          simp only [List.getElem?_toArray]
          have hlen1:(vs.take ((L d i2).base + off + n * sz')).length = (L d i2).base + off + n * sz':=by rw [List.length_take]; omega
          rcases Nat.lt_or_ge q ((L d i2).base + off + n * sz') with h1 | h1
          · rw [List.append_assoc, List.getElem?_append_left (by omega), List.getElem?_take, if_pos h1]
          · rcases Nat.lt_or_ge q ((L d i2).base + off + n * sz' + us.length) with h3 | h3
            · exact absurd hc (hnc q (by omega) (by omega))
            · rw [List.getElem?_append_right (by rw [List.length_append]; omega), List.getElem?_drop, List.length_append, hlen1]
              congr 1
              omega
        · exact cell_setRow_other w _ _ _ hbb
      have key:=hR.turn (W:=w.setRow (L d i2).blk (vs.take ((L d i2).base + off + n * sz') ++ us ++ vs.drop ((L d i2).base + off + n * sz' + us.length)).toArray) (C':=C) (l:=⟨(L d i2).blk,(L d i2).base + off,(L d i2).lim⟩)
        (o' := .arr e' sz' ((cs.drop off).take (n * sz') ++ ys) ver2 pr2) hg ⟨rfl, rfl, by omega, fun hq => by omega⟩ rfl rfl rfl (by simp)
        (fun b _ hn => setRow_other w _ _ _ (hn hM)) (fun _ _ h => h) (fun _ _ h => .inl h) hcell
        (fun b q hc => by
          obtain ⟨v,hv⟩:=hR.cok b q hc
          exact ⟨v,by rw [hcell b q hc]; exact hv⟩)
        (fun _ => .inl ⟨hM, rfl⟩)
        (fun hE => ⟨hsz, hokn, by
          rw [upd_same]
          refine .inr ⟨h0,fun o ho ho'=>hnc o (by dsimp only at ho; omega) ho',by dsimp only; rw [hlenn]; omega,_,setRow_heap w _ _ _ _ _ hheap,by dsimp only; rw [splice_length _ _ _ (by omega)]; exact hlim,?_⟩
          intro j x y hx hyy
          dsimp only at hyy
          have hlen1:(vs.take ((L d i2).base + off + n * sz')).length = (L d i2).base + off + n * sz':=by rw [List.length_take]; omega
          have hlen2:((cs.drop off).take (n * sz')).length = n * sz':=by rw [List.length_take,List.length_drop]; omega
          rcases Nat.lt_or_ge j (n * sz') with h1 | h1
          · rw [List.getElem?_append_left (by omega), List.getElem?_take, if_pos h1, List.getElem?_drop] at hx
            rw [List.append_assoc,List.getElem?_append_left (by omega),List.getElem?_take,if_pos (by omega)] at hyy
            rw [Nat.add_assoc] at hyy
            exact (hrel _ x y hx hyy).keep hE
          · rw [List.getElem?_append_right (by omega), hlen2] at hx
            have hj:=(List.getElem?_eq_some_iff.1 hx).1
            rw [List.append_assoc,List.getElem?_append_right (by omega),hlen1,List.getElem?_append_left (by omega)] at hyy
            rw [show (L d i2).base + off + j - ((L d i2).base + off + n * sz') = j - n * sz' by omega] at hyy
            exact (hus.2 _ x y hx hyy).keep hE⟩)
      refine ⟨_,C,_,_,run_append_fit (m:=m) ht hs hu hS hfit ?_,?_,key.2,key.1⟩
      · rcases Nat.eq_zero_or_pos cap with hcz | hcz
        · have hu0 : us = [] := List.eq_nil_of_length_eq_zero (by rw [hul, hylen, show m = 0 by omega]; simp)
          subst hu0
          have hself:w.setRow (L d i2).blk (vs.take ((L d i2).base + off + n * sz') ++ [] ++ vs.drop ((L d i2).base + off + n * sz' + ([]:List Value).length)).toArray = w:=by
            simp only [List.append_nil,List.length_nil,Nat.add_zero,List.take_append_drop]
            exact setRow_self w _ _ _ _ hheap
          rw [hself]
          cases A <;> simp [storeCells]
        · rw [hA hcz]
          dsimp only
          rw [add_lit']
          have hst:=run_storeCells_at P (L d i2).blk ((L d i2).base + off + n * sz') e' us 0 vs.toArray w hheap (by simp; omega) (hus.one_all (cellsOk_cells hyok))
          simp only [Nat.add_zero] at hst
          simpa using hst
      · have hs2 : SlOk (upd L d i2 ⟨(L d i2).blk, (L d i2).base + off, (L d i2).lim⟩ d i2) sz' 0 (n + m) false (.slice A (n + m) cap) := by
          rw [upd_same]
          exact ⟨_,_,rfl,hfit,by rw [if_neg (by simp)]; dsimp only; omega,fun h=>hA h⟩
        exact .slr _ _ _ _ _ _ _ _ _ _ _ _ (get_set s hg) (Nat.le_refl _) hs2.slV fun _=>hs2
  · -- a new block
    obtain ⟨c,rest,hc1,hc2,hrun⟩:=run_append_more (u:=u) (ty:=ty) ht hi hzv hzs his hib hu hS hso (by omega) hb hnm
    have hp:Pushed w (w.drew.alloc (.cells ((row.drop off).take (n * sz') ++ us ++ rest).toArray e')) (.cells ((row.drop off).take (n * sz') ++ us ++ rest).toArray e'):=pushed_drew w _
    have hnewr:=holds.append hus
    have hcpos:0 < c:=by omega
    have hcm:0 < c * sz':=Nat.mul_pos hcpos hsz
    have hlr:((row.drop off).take (n * sz') ++ us).length = (n + m) * sz':=by rw [hnewr.1,hlenn]
    have key:=hR.turn (W:=w.drew.alloc (.cells ((row.drop off).take (n * sz') ++ us ++ rest).toArray e')) (C':=C) (l:=⟨w.heap.size,0,c * sz'⟩)
      (o' := .arr e' sz' ((cs.drop off).take (n * sz') ++ ys) ver2 pr2) hg ⟨rfl, rfl, by omega, fun hq => by omega⟩ hp.os hp.tape hp.output (by rw [hp.size]; omega)
      (fun b hb _ => hp.old hb) (fun _ _ h => h) (fun _ _ h => .inl h) (fun b q hc => hp.cell (hR.clt hc))
      (fun b q hc => by
        obtain ⟨v,hv⟩:=hR.cok b q hc
        exact ⟨v,by rw [hp.cell (hR.clt hc)]; exact hv⟩)
      (fun _ => .inr (Nat.le_refl _))
      (fun hE => ⟨hsz, hokn, by
        rw [upd_same]
        refine .inr ⟨hcm,fun o _ _ hc=>absurd (hR.clt hc) (Nat.lt_irrefl _),by dsimp only; rw [hlenn]; omega,_,hp.fresh,by dsimp only; rw [List.length_append,hlr]; omega,fun j x y hx hyy=>?_⟩
        dsimp only at hyy
        have hj:=(List.getElem?_eq_some_iff.1 hx).1
        rw [Nat.zero_add,List.getElem?_append_left (by rw [hlr,← hlenn]; exact hj)] at hyy
        exact (hnewr.2 j x y hx hyy).keep hE⟩)
    refine ⟨_,C,_,_,hrun,?_,key.2,key.1⟩
    have hs2:SlOk (upd L d i2 ⟨w.heap.size,0,c * sz'⟩ d i2) sz' 0 (n + m) false (.slice (some ⟨w.heap.size,0,none⟩) (n + m) c):=by
      rw [upd_same]
      exact ⟨_,_,rfl,hc1,by rw [if_neg (by simp)]; dsimp only; omega,fun _=>rfl⟩
    exact .slr _ _ _ _ _ _ _ _ _ _ _ _ (get_set s hg) (Nat.le_refl _) hs2.slV fun _=>hs2
theorem append_sound {t u ty e sz bytes : Nat} {x y v : AV} {ux uy : Value} {s' : Store} (hR : SR s L C w) (hx : VR s L C w x ux) (hy : VR s L C w y uy) (ht : P.underlying t = some (.slice e)) (hs : szCk P e sz = true) (hsz : 0 < sz) (hby : byCk P e bytes = true) (hb0 : 0 < bytes)
    (hzero : (match P.info? e with | some i => (match i.zero with | some zv => zv.cells.size == sz | none => false) | none => false) = true)
    (hu : (match P.underlying u with | some (.slice _) => true | some .string => true | _ => false) = true) (h : appV s e sz bytes x y = some (v, s')) :
    ∃ L' C' w' val, (Builtin.append_ #[t, u] ty #[ux, uy]).run P w = .ok val w' ∧ VR s' L' C' w' v val ∧ SR s' L' C' w' ∧ Ext (s.low.length + 1) s L C w s' L' C' w' := by
  obtain ⟨i,z,hi,hzv,hzs,his,hib⟩:∃ i z,P.info? e = some i∧i.zero = some z∧z.cells.size = sz∧i.size = sz∧i.bytes = bytes:=by
    obtain ⟨i,hi,h1⟩:=szCk_sound hs
    obtain ⟨i',hi',h2⟩:=byCk_sound hby
    rw [hi] at hi'
    obtain rfl:=Option.some.inj hi'
    rw [hi] at hzero
    dsimp only at hzero
    split at hzero
    · rename_i z hz; exact ⟨i, z, hi, hz, by simpa using hzero, h1, h2⟩
    · cases hzero
  unfold appV at h
  have h0:=bind_some h
  clear h
  obtain ⟨⟨m,ys⟩,hsrc,h⟩:=h0
  dsimp only at h
  unfold appTo at h
  cases hx with
  | imm full n cs A cap b o u' hn hf hok hA hc hr =>
    cases full with
    | false => simp at h
    | true =>
      have hfc:=hf rfl
      subst hfc
      dsimp only at h
      split at h
      · rename_i hq
        obtain ⟨hb,hyok,hlen,hylen⟩:=hq
        obtain ⟨us,hus,hS⟩:=src_sound (P:=P) hR hy hsrc hylen
        have hul:us.length = ys.length:=hus.1
        have holds:VRs s L C w cs ((List.range cs.length).map u'):=.of_fun hr
        have hso:Src P w sz (.slice A cap cap) cap ((List.range cs.length).map u'):=src_slice (by simp [hlen]) fun hne=>⟨b,o,hA (by rintro rfl; simp at hne),rowAt_of_fun fun j hj=>(hc j _ (List.getElem?_eq_getElem hj)).2⟩
        split at h
        · rename_i hm
          subst hm
          simp only [Option.some.injEq,Prod.mk.injEq] at h
          obtain ⟨rfl,rfl⟩:=h
          have hu0:us = []:=List.eq_nil_of_length_eq_zero (by rw [hul,hylen]; simp)
          subst hu0
          refine ⟨L,C,w,_,run_append_fit (m:=0) ht hs hu hS (Nat.le_refl _) ?_,.imm true cap cs A cap b o u' hn (fun _=>rfl) hok hA hc hr,hR,Ext.refl _⟩
          cases A <;> simp [storeCells]
        · rename_i hm
          have hm0:0 < m:=by omega
          have hmul:m ≤ 140737488355328∧cap + m ≤ 140737488355328:=by
            have:=Nat.le_mul_of_pos_right (cap + m) hb0
            omega
          obtain ⟨c,rest,hc1,hc2,hrun⟩:=run_append_more (u:=u) (ty:=ty) ht hi hzv hzs his hib hu hS hso (by omega) hb hmul.2
          obtain ⟨L',h1,h2,h3⟩:=newArr_sound (rest:=rest) hR hsz (holds.append hus) h (pushed_drew w _) hc1 hc2
          exact ⟨L',C,_,_,hrun,h1,h2,h3⟩
      · cases h
  | slr d i2 off n ver full e' sz' cs ver' pr ux hg hv hsV hc =>
    simp only [hg] at h
    split at h
    · rename_i hq
      obtain ⟨hb,hver,hlen,he1,he2,hylen⟩:=hq
      have hs1:=hc hver
      subst hver
      subst he1
      subst he2
      obtain ⟨us,hus,hS⟩:=src_sound (P:=P) hR hy hsrc hylen
      have hul:us.length = ys.length:=hus.1
      obtain ⟨A,cap,rfl,hn,hf,hA⟩:=hs1
      have hnm:n + m ≤ 140737488355328:=by have:=Nat.le_mul_of_pos_right (n + m) hb0; omega
      obtain ⟨row,hrow1,hrow2⟩:=arr_row hR hg
      have hrl:row.length = cs.length:=hrow1.1
      have hn0:n * sz' ≠ 0→0 < cap:=by
        intro h0
        rcases Nat.eq_zero_or_pos n with h1 | h1
        · subst h1; simp at h0
        · omega
      have holds:VRs s L C w ((cs.drop off).take (n * sz')) ((row.drop off).take (n * sz')):=(hrow1.drop off).take _
      have hso:Src P w sz' (.slice A n cap) n ((row.drop off).take (n * sz')):=by
        refine src_slice (by rw [List.length_take,List.length_drop]; omega) fun hne=>?_
        have hnz:n * sz' ≠ 0:=by intro h0; rw [h0] at hne; simp at hne
        have hr:row ≠ []:=by rintro rfl; simp at hne
        exact ⟨_,_,hA (hn0 hnz),((hrow2 hr).drop off).take _⟩
      split at h
      · rename_i hfull
        subst hfull
        rw [if_pos rfl] at hf
        obtain ⟨rfl,hlim⟩:=hf
        split at h
        · rename_i hm0
          subst hm0
          simp only [Option.some.injEq,Prod.mk.injEq] at h
          obtain ⟨rfl,rfl⟩:=h
          have hu0:us = []:=List.eq_nil_of_length_eq_zero (by rw [hul,hylen]; simp)
          subst hu0
          refine ⟨L,C,w,_,run_append_fit (m:=0) ht hs hu hS (Nat.le_refl _) ?_,.slr d i2 off cap ver true e' sz' cs ver pr _ hg hv hsV hc,hR,Ext.refl _⟩
          cases A <;> simp [storeCells]
        · rename_i hm0
          split at h
          · obtain ⟨c, rest, hc1, hc2, hrun⟩ := run_append_more (u := u) (ty := ty) ht hi hzv hzs his hib hu hS hso (by omega) hb hnm
            obtain ⟨L',h1,h2,h3⟩:=newArr_sound (rest:=rest) hR hsz (holds.append hus) h (pushed_drew w _) hc1 hc2
            exact ⟨L',C,_,_,hrun,h1,h2,h3⟩
          · cases h
      · rename_i hfull
        have hfull':full = false:=by cases full <;> simp_all
        subst hfull'
        rw [if_neg (by simp)] at hf
        split at h
        · rename_i hq
          obtain ⟨hyok,hpr⟩:=hq
          simp only [Option.some.injEq,Prod.mk.injEq] at h
          obtain ⟨rfl,rfl⟩:=h
          exact app_slr hR hg ht hs hsz hb hb0 hi hzv hzs his hib hu hlen hylen hus hS hul hn hf hA hnm hrow1 hrl holds hso hyok hpr (Nat.lt_succ_self _) (Nat.le_refl _)
        · cases h
    · cases h
  | _ => simp at h
theorem append0_sound {t u ty e sz bytes : Nat} {x y v : AV} {ux uy : Value} {s' : Store} (hR : SR s L C w) (hx : VR s L C w x ux) (hy : VR s L C w y uy) (ht : P.underlying t = some (.slice e)) (hs : szCk P e sz = true) (hsz : 0 < sz) (hby : byCk P e bytes = true) (hb0 : 0 < bytes)
    (hzero : (match P.info? e with | some i => (match i.zero with | some zv => zv.cells.size == sz | none => false) | none => false) = true)
    (hu : (match P.underlying u with | some (.slice _) => true | some .string => true | _ => false) = true) (h : appG s e sz bytes x y = some (v, s')) :
    ∃ L' C' w' val, (Builtin.append_ #[t, u] ty #[ux, uy]).run P w = .ok val w' ∧ VR s' L' C' w' v val ∧ SR s' L' C' w' ∧ Ext (s.low.length + 1) s L C w s' L' C' w' := by
  obtain ⟨i,z,hi,hzv,hzs,his,hib⟩:∃ i z,P.info? e = some i∧i.zero = some z∧z.cells.size = sz∧i.size = sz∧i.bytes = bytes:=by
    obtain ⟨i,hi,h1⟩:=szCk_sound hs
    obtain ⟨i',hi',h2⟩:=byCk_sound hby
    rw [hi] at hi'
    obtain rfl:=Option.some.inj hi'
    rw [hi] at hzero
    dsimp only at hzero
    split at hzero
    · rename_i z hz; exact ⟨i, z, hi, hz, by simpa using hzero, h1, h2⟩
    · cases hzero
  unfold appG at h
  have h0:=bind_some h
  clear h
  obtain ⟨⟨m,ys⟩,hsrc,h⟩:=h0
  dsimp only at h
  unfold appTo0 at h
  cases hx with
  | imm full n cs A cap b o u' hn hf hok hA hc hr =>
    cases full with
    | false => simp at h
    | true =>
      have hfc:=hf rfl
      subst hfc
      dsimp only at h
      split at h
      · rename_i hq
        obtain ⟨hb,hyok,hlen,hylen⟩:=hq
        obtain ⟨us,hus,hS⟩:=src_sound (P:=P) hR hy hsrc hylen
        have hul:us.length = ys.length:=hus.1
        have holds:VRs s L C w cs ((List.range cs.length).map u'):=.of_fun hr
        have hso:Src P w sz (.slice A cap cap) cap ((List.range cs.length).map u'):=src_slice (by simp [hlen]) fun hne=>⟨b,o,hA (by rintro rfl; simp at hne),rowAt_of_fun fun j hj=>(hc j _ (List.getElem?_eq_getElem hj)).2⟩
        split at h
        · rename_i hm
          subst hm
          simp only [Option.some.injEq,Prod.mk.injEq] at h
          obtain ⟨rfl,rfl⟩:=h
          have hu0:us = []:=List.eq_nil_of_length_eq_zero (by rw [hul,hylen]; simp)
          subst hu0
          refine ⟨L,C,w,_,run_append_fit (m:=0) ht hs hu hS (Nat.le_refl _) ?_,.imm true cap cs A cap b o u' hn (fun _=>rfl) hok hA hc hr,hR,Ext.refl _⟩
          cases A <;> simp [storeCells]
        · rename_i hm
          have hm0:0 < m:=by omega
          have hmul:m ≤ 140737488355328∧cap + m ≤ 140737488355328:=by
            have:=Nat.le_mul_of_pos_right (cap + m) hb0
            omega
          obtain ⟨c,rest,hc1,hc2,hrun⟩:=run_append_more (u:=u) (ty:=ty) ht hi hzv hzs his hib hu hS hso (by omega) hb hmul.2
          obtain ⟨L',h1,h2,h3⟩:=newArr0_sound (rest:=rest) hR hsz (holds.append hus) h (pushed_drew w _) hc1 hc2
          exact ⟨L',C,_,_,hrun,h1,h2,h3⟩
      · cases h
  | slr d i2 off n ver full e' sz' cs ver' pr ux hg hv hsV hc =>
    simp only [hg] at h
    split at h
    · rename_i hq
      obtain ⟨hb,hver,rfl,rfl,rfl,hlen,he1,he2,hylen,hyok,hpr⟩:=hq
      have hs1:=hc hver
      subst hver
      subst he1
      subst he2
      obtain ⟨us,hus,hS⟩:=src_sound (P:=P) hR hy hsrc hylen
      have hul:us.length = ys.length:=hus.1
      obtain ⟨A,cap,rfl,hn,hf,hA⟩:=hs1
      have hnm:n + m ≤ 140737488355328:=by have:=Nat.le_mul_of_pos_right (n + m) hb0; omega
      obtain ⟨row,hrow1,hrow2⟩:=arr_row hR hg
      have hrl:row.length = cs.length:=hrow1.1
      rw [if_neg (by simp)] at hf
      split at h
      · rename_i hm0
        subst hm0
        simp only [Option.some.injEq,Prod.mk.injEq] at h
        obtain ⟨rfl,rfl⟩:=h
        have hu0:us = []:=List.eq_nil_of_length_eq_zero (by rw [hul,hylen]; simp)
        subst hu0
        refine ⟨L,C,w,_,run_append_fit (m:=0) ht hs hu hS hn ?_,.slr 0 i2 0 n ver false e' sz' cs ver pr _ hg hv hsV hc,hR,Ext.refl _⟩
        cases A <;> simp [storeCells]
      · rename_i hm0
        simp only [Option.some.injEq,Prod.mk.injEq] at h
        obtain ⟨rfl,rfl⟩:=h
        have hn0:n * sz' ≠ 0→0 < cap:=by
          intro h0
          rcases Nat.eq_zero_or_pos n with h1 | h1
          · subst h1; simp at h0
          · omega
        have holds:VRs s L C w ((cs.drop 0).take (n * sz')) ((row.drop 0).take (n * sz')):=(hrow1.drop 0).take _
        have hso:Src P w sz' (.slice A n cap) n ((row.drop 0).take (n * sz')):=by
          refine src_slice (by rw [List.length_take,List.length_drop]; omega) fun hne=>?_
          have hnz:n * sz' ≠ 0:=by intro h0; rw [h0] at hne; simp at hne
          have hr:row ≠ []:=by rintro rfl; simp at hne
          exact ⟨_,_,hA (hn0 hnz),((hrow2 hr).drop 0).take _⟩
        have e:(cs.drop 0).take (n * sz') = cs:=by rw [List.drop_zero,List.take_of_length_le (by omega)]
        have hmul:(n + m) * sz' = n * sz' + m * sz':=Nat.add_mul _ _ _
        have key:=app_slr (ty:=ty) (ver2:=ver + m) (pr2:=(n + m) * sz') hR hg ht hs hsz hb hb0 hi hzv hzs his hib hu (by omega) hylen hus hS hul hn hf hA hnm hrow1 hrl holds hso hyok (by omega) (by omega) (by omega)
        rw [e] at key
        exact key
    · cases h
  | _ => simp at h
end
section
variable {P : Program} {s : Store} {L : Nat → Nat → Loc} {C : Cs} {w : World}

theorem set_self {d i : Nat} {o : Obj} (h : s.get d i = some o) : s.set d i o = s := by
  unfold Store.get at h
  unfold Store.set
  split at h
  · rename_i hd
    rw [if_pos hd]
    have:s.top.set i o = s.top:=by
      apply List.ext_getElem?
      intro j
      rw [List.getElem?_set]
      split
      · rename_i hj
        subst hj
        rw [if_pos (List.getElem?_eq_some_iff.1 h).1,h]
      · rfl
    rw [this]
  · rename_i hd
    rw [if_neg hd]
    obtain ⟨fr,hfr,hi⟩:=bind_some h
    have:s.low.modify d (·.set i o) = s.low:=by
      apply List.ext_getElem?
      intro j
      rw [List.getElem?_modify]
      split
      · rename_i hj
        subst hj
        rw [hfr]
        show some (fr.set i o) = some fr
        congr 1
        apply List.ext_getElem?
        intro k
        rw [List.getElem?_set]
        split
        · rename_i hk
          subst hk
          rw [if_pos (List.getElem?_eq_some_iff.1 hi).1,hi]
        · rfl
      · first | rfl | (cases s.low[j]? <;> rfl)
    rw [this]

theorem mk_sound {t e sz bytes : Nat} {z : List AV} {n c v : AV} {un uc : Value} {s' : Store} (hR : SR s L C w) (hn : VR s L C w n un) (hc : VR s L C w c uc) (ht : slCk P t e = true) (hs : szCk P e sz = true) (hsz : 0 < sz)
    (hby : byCk P e bytes = true) (hb0 : 0 < bytes) (hz : zeroCk P e z = true) (h : mkV s e sz bytes z n c = some (v, s')) :
    ∃ L' C' w' val, (Instr.makeSlice t un uc).run P w = .ok val w' ∧ VR s' L' C' w' v val ∧ SR s' L' C' w' ∧ Ext (s.low.length + 1) s L C w s' L' C' w' := by
  cases hn <;> try (simp [mkV] at h; done)
  cases hc <;> try (simp [mkV] at h; done)
  rename_i kn n kc c
  simp only [mkV] at h
  split at h
  · rename_i hq
    obtain ⟨h0,rfl,hb,hzl⟩:=hq
    obtain ⟨i,zv,hi,hzv,hvr⟩:=zeroCk_sound (s:=s) (L:=L) (C:=C) (w:=w) hz
    obtain ⟨i1,hi1,hs1⟩:=szCk_sound hs
    obtain ⟨i2,hi2,hb2⟩:=byCk_sound hby
    rw [hi] at hi1 hi2
    obtain rfl:=Option.some.inj hi1
    obtain rfl:=Option.some.inj hi2
    obtain ⟨m,rfl⟩:=Int.eq_ofNat_of_zero_le h0
    have hzl':zv.cells.toList.length = sz:=by rw [hvr.1,hzl]
    have hm:(m:Int) ≤ 9223372036854775807:=by
      have h1:(m:Int) * 1 ≤ (m:Int) * (bytes:Int):=Int.mul_le_mul_of_nonneg_left (by omega) (by omega)
      omega
    have hrun:=run_make (P:=P) w t e i zv (slCk_sound ht) hi hzv kn kc m m (by omega) (Int.le_refl _) (by rw [hb2,Int.mul_comm]; omega) hm
    simp only [Int.toNat_natCast] at hrun h
    have hmade:madeCells zv.cells (m * i.size) = (repV m zv.cells.toList ++ []).toArray:=by
      rw [List.append_nil,← rep_range]
      have:zv.cells.size = i.size:=by rw [← Array.length_toList,hzl',hs1]
      rw [← this]
      rfl
    rw [hmade] at hrun
    obtain ⟨L',h1,h2,h3⟩:=newArr_sound (rest:=[]) hR hsz (hvr.rep m) h (pushed_alloc w _) (Nat.le_refl _) (by simp)
    exact ⟨L',C,_,_,hrun,h1,h2,h3⟩
  · cases h

theorem clear_sound {t sz : Nat} {z : List AV} {x : AV} {u : Value} {ty : Nat} {s' : Store} (hR : SR s L C w) (hx : VR s L C w x u)
    (hck : (match P.underlying t with | some (.slice e) => szCk P e sz && zeroCk P e z | _ => false) = true) (h : clearV s sz z x = some s') :
    ∃ w', (Builtin.clear_ #[t] ty #[u]).run P w = .ok (.tuple #[]) w' ∧ SR s' L C w' ∧ Ext (s.low.length + 1) s L C w s' L C w' := by
  obtain ⟨e,ht,hs,hz⟩:∃ e,P.underlying t = some (.slice e)∧szCk P e sz = true∧zeroCk P e z = true:=by
    split at hck
    · rename_i e he
      simp only [Bool.and_eq_true] at hck
      exact ⟨e,he,hck⟩
    · cases hck
  obtain ⟨i,zv,hi,hzv,hvr⟩:=zeroCk_sound (s:=s) (L:=L) (C:=C) (w:=w) hz
  cases hx with
  | imm full n cs A cap b o u' hn hf hok hA hc hr =>
    cases n with
    | succ n => simp [clearV] at h
    | zero =>
      simp only [clearV,Option.some.injEq] at h
      subst h
      refine ⟨w,?_,hR,Ext.refl _⟩
      cases A <;> simp [Builtin.clear_, run_underlying ht]
  | slr d i2 off n ver full e' sz' cs ver' pr u hg hv hsV hc =>
    simp only [clearV,hg] at h
    split at h
    · rename_i hq
      obtain ⟨hzok,hzl,rfl,hlen,hver,hpr⟩:=hq
      obtain rfl:=Option.some.inj h
      obtain ⟨A,cap,rfl,hn,hf,hA⟩:=hc hver
      have hok:cellsOk (d + 1) (repL n z) = true:=cellsOk_mono (Nat.zero_le _) (cellsOk_rep hzok n)
      have hrl:(repL n z).length = n * sz':=by rw [repL_length,hzl]
      rcases Nat.eq_zero_or_pos n with h0 | h0
      · subst h0
        have hsame:s.set d i2 (.arr e' sz' (cs.take off ++ repL 0 z ++ cs.drop (off + 0 * sz')) ver' pr) = s:=by
          rw [show cs.take off ++ repL 0 z ++ cs.drop (off + 0 * sz') = cs by simp [repL]]
          exact set_self hg
        rw [hsame]
        refine ⟨w,?_,hR,Ext.refl _⟩
        cases A <;> simp [Builtin.clear_, run_underlying ht]
      · obtain ⟨_, _, h2⟩ := hR.obj d i2 _ hg
        obtain ⟨hsz0,_,_⟩:=hR.obj d i2 _ hg
        have hpos:0 < n * sz':=Nat.mul_pos h0 hsz0
        rcases h2 with ⟨_, _, rfl⟩ | ⟨hm, _, hbase, vs, hheap, hlim, hrel⟩
        · simp only [List.length_nil] at hlen; omega
        have hvz:=hvr.rep n
        have hul:(repV n zv.cells.toList).length = n * sz':=by rw [hvz.1,hrl]
        obtain ⟨hE,hS⟩:=hR.setArr hg hm hvz hok (by rw [hrl]; exact hlen) hpr vs hheap hlim hrel hbase
        rw [hrl] at hE hS
        have hst:=run_storeCells_at P (L d i2).blk ((L d i2).base + off) e' (repV n zv.cells.toList) 0 vs.toArray w hheap (by simp; omega) (hvz.one_all (cellsOk_cells hok))
        simp only [Nat.add_zero] at hst
        refine ⟨_,?_,hS,hE⟩
        have hzc:Builtin.zeroCells zv.cells n = (repV n zv.cells.toList).toArray:=by unfold Builtin.zeroCells; exact rep_range zv.cells n
        rw [hA (by omega)]
        obtain ⟨k,rfl⟩:∃ k,n = k + 1:=⟨n - 1,by omega⟩
        simp only [Builtin.clear_,run_underlying ht,Sem.run_bind,Result.andThen_ok,zeroValue,typeInfo,Sem.run_pure,run_program,hi,hzv,hzc]
        simp only [List.getElem?_toArray,List.getElem?_cons_zero,Sem.run_bind,run_underlying ht,Result.andThen_ok,zeroValue,typeInfo,Sem.run_pure,run_program,hi,hzv,hzc]
        simp [hst, zeroValue, typeInfo, hi, hzv, hzc]
    · cases h
  | _ => simp [clearV] at h

/-! ### parts -/
theorem partsOf_sound {f : Operand → Opd → Bool} {ρC : Operand → Value} {ρA : Opd → AV} (hρ : ∀ x y, f x y = true → VR s L C w (ρA y) (ρC x)) (pl : List (Nat × Nat)) :
    ∀ (ps : List (Nat × Operand)) (qs : List (Nat × Nat × Opd)) (l : List (Nat × List AV)), ckBuild f pl ps qs = true → partsOf ρA qs = some l →
      ∃ rs : List (Nat × List Value), Corr (pl[·]?) (ps.map fun x => (x.1, ρC x.2)) rs ∧ rs.length = l.length ∧ ∀ (j : Nat) p r, l[j]? = some p → rs[j]? = some r → r.1 = p.1 ∧ VRs s L C w p.2 r.2
  | [], [], l, _, h => by
    simp only [partsOf,Option.some.injEq] at h
    subst h
    exact ⟨[],trivial,rfl,fun j p r hp=>by simp at hp⟩
  | [], _ :: _, _, h, _ => by simp [ckBuild] at h
  | _ :: _, [], _, h, _ => by simp [ckBuild] at h
  | (i, x) :: ps, (o, n, y) :: qs, l, hck, h => by
    simp only [ckBuild,Bool.and_eq_true,decide_eq_true_eq] at hck
    obtain ⟨⟨h1,h2⟩,h3⟩:=hck
    simp only [partsOf] at h
    split at h
    · rename_i hq
      obtain ⟨l',hl',h⟩:=bind_some h
      obtain rfl:=Option.some.inj h
      obtain ⟨rs,g1,g2,g3⟩:=partsOf_sound hρ pl ps qs l' h3 hl'
      obtain ⟨us,hu1,hu2⟩:=(hρ x y h2).cells hq.2
      refine ⟨(o,us) :: rs,⟨?_,hu1,g1⟩,by simp [g2],fun j p r hp hr=>?_⟩
      · show pl[i]? = some (o, us.length)
        rw [h1,hu2.1,hq.1]
      · cases j with
        | zero =>
          simp only [List.getElem?_cons_zero,Option.some.injEq] at hp hr
          subst hp; subst hr
          exact ⟨rfl,hu2⟩
        | succ j => exact g3 j p r (by simpa using hp) (by simpa using hr)
    · cases h

theorem litParts_sound {f : Operand → Opd → Bool} {ρC : Operand → Value} {ρA : Opd → AV} {fz : Bool} {sz : Nat} :
    ∀ (ps : List (Nat × Operand)) (qs : List (Nat × Opd)) (s s' : Store) (C : Cs) (l : List (Nat × List AV)), SR s L C w → (∀ x y, f x y = true → VR s L C w (ρA y) (ρC x)) → ckLit f ps qs = true → litParts ρA fz sz s qs = some (l, s') →
      ∃ C' : Cs, ∃ rs : List (Nat × List Value), SR s' L C' w ∧ Ext (s.low.length + 1) s L C w s' L C' w ∧ Corr (fun i => some (i * sz, sz)) (ps.map fun x => (x.1, ρC x.2)) rs ∧ rs.length = l.length ∧ ∀ (j : Nat) p r, l[j]? = some p → rs[j]? = some r → r.1 = p.1 ∧ VRs s' L C' w p.2 r.2
  | [], [], s, s', C, l, hR, _, _, h => by
    simp only [litParts,Option.some.injEq,Prod.mk.injEq] at h
    obtain ⟨rfl,rfl⟩:=h
    exact ⟨C,[],hR,Ext.refl _,trivial,rfl,fun j p r hp=>by simp at hp⟩
  | [], _ :: _, _, _, _, _, _, _, h, _ => by simp [ckLit] at h
  | _ :: _, [], _, _, _, _, _, _, h, _ => by simp [ckLit] at h
  | (i, x) :: ps, (k, y) :: qs, s, s', C, l, hR, hρ, hck, h => by
    simp only [ckLit,Bool.and_eq_true,beq_iff_eq] at hck
    obtain ⟨⟨rfl,h2⟩,h3⟩:=hck
    simp only [litParts] at h
    obtain ⟨⟨v1,s1⟩,hv1,h⟩:=bind_some h
    dsimp only at h
    split at h
    · rename_i hq
      obtain ⟨⟨l',s2⟩,hl',h⟩:=bind_some h
      simp only [Option.some.injEq,Prod.mk.injEq] at h
      obtain ⟨rfl,rfl⟩:=h
      have hfz:∃ C1,VR s1 L C1 w v1 (ρC x)∧SR s1 L C1 w∧Ext (s.low.length + 1) s L C w s1 L C1 w:=by
        cases fz with
        | true => exact frz_sound hR (hρ x y h2) hv1
        | false =>
          simp only [Bool.false_eq_true,if_false,Option.some.injEq,Prod.mk.injEq] at hv1
          obtain ⟨rfl,rfl⟩:=hv1
          exact ⟨C,hρ x y h2,hR,Ext.refl _⟩
      obtain ⟨C1,g1,g2,g3⟩:=hfz
      obtain ⟨C2,rs,k1,k2,k3,k4,k5⟩:=litParts_sound ps qs s1 s2 C1 l' g2 (fun a b hab=>(hρ a b hab).keep g3) h3 hl'
      have k2':=k2
      rw [show s1.low.length = s.low.length from g3.depth] at k2'
      obtain ⟨us,hu1,hu2⟩:=(g1.keep k2).cells hq.2
      refine ⟨C2,(i * sz,us) :: rs,k1,g3.trans k2',⟨?_,hu1,k3⟩,by simp [k4],fun j p r hp hr=>?_⟩
      · show some (i * sz, sz) = some (i * sz, us.length)
        rw [hu2.1,hq.1]
      · cases j with
        | zero =>
          simp only [List.getElem?_cons_zero,Option.some.injEq] at hp hr
          subst hp; subst hr
          exact ⟨rfl,hu2⟩
        | succ j => exact k5 j p r (by simpa using hp) (by simpa using hr)
    · cases h

theorem build_sound {t : Nat} {z : List AV} {f : Operand → Opd → Bool} {ρC : Operand → Value} {ρA : Opd → AV} (hρ : ∀ x y, f x y = true → VR s L C w (ρA y) (ρC x)) {ps : Array (Nat × Operand)} {qs : List (Nat × Nat × Opd)} {l : List (Nat × List AV)} {cs : List AV}
    (hz : zeroCk P t z = true) (hck : buildCk (ckBuild f) P t ps.toList qs = true) (hl : partsOf ρA qs = some l) (hf : fillL z l = some cs) :
    ∃ vs : List Value, (Instr.build t (ps.map fun (i, x) => (i, ρC x))).run P w = .ok (.agg vs.toArray) w ∧ VRs s L C w cs vs := by
  unfold buildCk at hck
  split at hck
  · rename_i pl hpl
    obtain ⟨rs,h1,h2,h3⟩:=partsOf_sound hρ pl ps.toList qs l hck hl
    obtain ⟨i,zv,hi,hzv,hvr⟩:=zeroCk_sound (s:=s) (L:=L) (C:=C) (w:=w) hz
    obtain ⟨vs,h4,h5⟩:=VRs.fill l rs z cs zv.cells.toList hvr h2 h3 hf
    have h6:=fill_eq _ _ _ _ _ h1 h4
    refine ⟨vs,run_build w t _ _ ?_,h5⟩
    unfold placesOf at hpl
    split at hpl
    · rename_i fs hfs
      unfold Program.built
      rw [hi,hfs]
      dsimp only
      rw [hzv,hpl]
      dsimp only
      have he:(ps.map fun (i,x)=>(i,ρC x)).toList = ps.toList.map fun x=>(x.1,ρC x.2):=by simp
      rw [he]
      simpa using h6
    · cases hpl
  · cases hck

theorem lit_sound {t e n sz : Nat} {z : List AV} {arr fz : Bool} {f : Operand → Opd → Bool} {ρC : Operand → Value} {ρA : Opd → AV} (hR : SR s L C w) (hρ : ∀ x y, f x y = true → VR s L C w (ρA y) (ρC x)) {ps : Array (Nat × Operand)} {qs : List (Nat × Opd)} {v : AV} {s' : Store}
    (hlit : litCk P t n e sz z = true) (hn : qs.length = n) (hck : ckLit f ps.toList qs = true)
    (h : evOp (.lit e sz z qs arr fz) ρA s = some (v, s')) :
    ∃ L' C' w' val, (Instr.buildSlice t n (ps.map fun (i, x) => (i, ρC x))).run P w = .ok val w' ∧ VR s' L' C' w' v val ∧ SR s' L' C' w' ∧ Ext (s.low.length + 1) s L C w s' L' C' w' := by
  unfold litCk at hlit
  simp only [Bool.and_eq_true,beq_iff_eq,decide_eq_true_eq] at hlit
  obtain ⟨⟨⟨⟨⟨ht,hs⟩,hz⟩,hzl⟩,hsz⟩,hbig⟩:=hlit
  simp only [evOp] at h
  obtain ⟨⟨l,s1⟩,hl,h⟩:=bind_some h
  obtain ⟨cs,hcs,h⟩:=bind_some h
  dsimp only at hcs h
  obtain ⟨C1,rs,g1,g2,g3,g4,g5⟩:=litParts_sound ps.toList qs s s1 C l hR hρ hck hl
  obtain ⟨i,zv,hi,hzv,hvr⟩:=zeroCk_sound (s:=s1) (L:=L) (C:=C1) (w:=w) hz
  have hzl':zv.cells.toList.length = sz:=by rw [hvr.1,hzl]
  have hzs:zv.cells.size = sz:=by rw [← Array.length_toList]; exact hzl'
  obtain ⟨vs,h4,h5⟩:=VRs.fill l rs _ cs _ (hvr.rep qs.length) g4 g5 hcs
  have h6:=fill_eq _ _ _ _ _ g3 h4
  have hrun:(Instr.buildSlice t n (ps.map fun (i,x)=>(i,ρC x))).run P w = .ok (.slice (some ⟨w.heap.size,0,none⟩) n n) (w.alloc (.cells vs.toArray e)):=by
    have he:(ps.map fun (i,x)=>(i,ρC x)).toList = ps.toList.map fun x=>(x.1,ρC x.2):=by simp
    have hbig':¬ (16777216 < n * sz):=by omega
    by_cases h0:n * sz = 0
    · have hn0 : n = 0 := by
        rcases Nat.mul_eq_zero.1 h0 with h1 | h1
        · exact h1
        · omega
      have hq0:qs = []:=List.eq_nil_of_length_eq_zero (by omega)
      subst hq0
      have hp0:ps.toList = []:=by
        cases hp : ps.toList with
        | nil => rfl
        | cons a b => rw [hp] at hck; simp [ckLit] at hck
      rw [hp0] at h6
      simp only [List.map_nil,Instr.fill,Option.some.injEq,List.length_nil,repV] at h6
      have hp1:ps = #[]:=by
        apply Array.ext'
        rw [hp0]
      subst hp1
      simp [Instr.buildSlice, run_underlying (slCk_sound ht), run_sizeOf hs, hbig', hn0, newRow, ← h6, Instr.fill, Array.range_zero']
    · have hrep := rep_range zv.cells n
      rw [hzs] at hrep
      rw [← he,hn,← hrep] at h6
      have h7:Instr.fill (fun i=>some (i * sz,sz)) (Array.map (fun x=>zv.cells[x % sz]!) (Array.range (n * sz))) (ps.map fun (i,x)=>(i,ρC x)).toList = some vs.toArray:=h6
      have h8:¬ (n = 0 ∨ sz = 0):=by
        rintro (rfl | rfl)
        · simp at h0
        · simp at h0
      simp only [Instr.buildSlice,run_underlying (slCk_sound ht),run_sizeOf hs,Sem.run_bind,Result.andThen_ok,hbig',if_false,h0,zeroValue,typeInfo,run_program,hi,hzv,Sem.run_pure,hzs,h7,newRow,run_newObj]
      simp [Instr.buildSlice, run_underlying (slCk_sound ht), run_sizeOf hs, hbig', h8, zeroValue, typeInfo, hi, hzv, hzs, h7, newRow]
  cases arr with
  | true =>
    simp only [if_true] at h
    rw [hn] at h
    obtain ⟨L',k1,k2,k3⟩:=newArr_sound (rest:=[]) (n:=n) (cap:=n) g1 hsz h5 h (by rw [List.append_nil]; exact pushed_alloc w _) (Nat.le_refl _) (by simp)
    rw [show s1.low.length = s.low.length from g2.depth] at k3
    exact ⟨L',C1,_,_,hrun,k1,k2,g2.trans k3⟩
  | false =>
    simp only [Bool.false_eq_true,if_false] at h
    split at h
    · rename_i hq
      simp only [Option.some.injEq,Prod.mk.injEq] at h
      obtain ⟨rfl,rfl⟩:=h
      obtain ⟨C2,k1,k2,k3⟩:=newImm_sound (n:=n) g1 h5 hq.1 (pushed_alloc w (.cells vs.toArray e))
      rw [show s1.low.length = s.low.length from g2.depth] at k3
      rw [hn]
      exact ⟨L,C2,_,_,hrun,k1,k2,g2.trans k3⟩
    · cases h
end
section
variable {P : Program} {s : Store} {L : Nat → Nat → Loc} {C : Cs} {w : World}

theorem bin_sound {op : BinOp} {t : Nat} {xo yo : Operand} {x y v : AV} {ux uy : Value} (hx : VR s L C w x ux) (hy : VR s L C w y uy) (h : binV op x y = some v) :
    ∃ val, (do eqGuard op t xo yo ux uy; binOp op t ux uy : Sem Value).run P w = .ok val w ∧ VR s L C w v val := by
  cases hx <;> try (simp [binV] at h; done)
  case int k a =>
    cases hy <;> try (simp [binV] at h; done)
    case int k' b =>
      have hg:(eqGuard op t xo yo (.int k a) (.int k' b)).run P w = .ok () w:=by cases op <;> rfl
      simp only [Sem.run_bind,hg,Result.andThen_ok]
      cases op <;> simp only [binV] at h
      case shl =>
        split at h
        · cases h
        · rename_i hb
          obtain rfl:=Option.some.inj h
          exact ⟨_,by simp [binOp,Op.shift,hb],.int _ _⟩
      case shr =>
        split at h
        · cases h
        · rename_i hb
          obtain rfl:=Option.some.inj h
          exact ⟨_,by simp [binOp,Op.shift,hb],.int _ _⟩
      all_goals
        split at h
        · rename_i hk
          subst hk
          simp only [binI] at h
          first
            | (obtain rfl := Option.some.inj h
               first
                 | exact ⟨.int k _, by (first | (simp [binOp, Op.intArith]; done) | (simp [binOp]; rfl) | rfl), .int _ _⟩
                 | exact ⟨.bool _, by (first | (simp [binOp, Op.intCmp]; done) | (simp [binOp]; rfl)), .bool _⟩)
            | (split at h
               · cases h
               · rename_i hb
                 obtain rfl:=Option.some.inj h
                 exact ⟨_,by simp [binOp,Op.intDiv,hb],.int _ _⟩)
        · cases h
  case str a =>
    cases hy <;> try (simp [binV] at h; done)
    case str b =>
      have hg:(eqGuard op t xo yo (.string a) (.string b)).run P w = .ok () w:=by cases op <;> rfl
      simp only [Sem.run_bind,hg,Result.andThen_ok]
      cases op <;> simp only [binV, binS] at h <;> try (cases h; done)
      case add =>
        split at h
        · cases h
        · rename_i hb
          obtain rfl:=Option.some.inj h
          exact ⟨_,by simp only [binOp,Op.stringOp]; rw [if_neg hb]; rfl,.str _⟩
      case eql => obtain rfl := Option.some.inj h; exact ⟨_, by simp [binOp, Op.stringOp], .bool _⟩
      case neq => obtain rfl := Option.some.inj h; exact ⟨_, by simp [binOp, Op.stringOp], .bool _⟩

theorem ckOpt_sound {f : Operand → Opd → Bool} {ρC : Operand → Value} {ρA : Opd → AV} (hρ : ∀ x y, f x y = true → VR s L C w (ρA y) (ρC x)) {a : Option Operand} {b : Option Opd} (h : ckOpt f a b = true) : VO s L C w (b.map ρA) (a.map ρC) := by
  cases a <;> cases b <;> simp [ckOpt] at h
  · trivial
  · exact hρ _ _ h
theorem ckList_sound {f : Operand → Opd → Bool} {ρC : Operand → Value} {ρA : Opd → AV} (hρ : ∀ x y, f x y = true → VR s L C w (ρA y) (ρC x)) : ∀ {a : List Operand} {b : List Opd}, ckList f a b = true → VRs s L C w (b.map ρA) (a.map ρC)
  | [], [], _ => .nil
  | [], _ :: _, h => by simp [ckList] at h
  | _ :: _, [], h => by simp [ckList] at h
  | x :: r, y :: q, h => by
    simp only [ckList,Bool.and_eq_true] at h
    exact (VRs.one (hρ x y h.1)).append (ckList_sound hρ h.2)

theorem run_same {o : Oper} {ρC : Operand → Value} {v v' : AV} {s' : Store} (hR : SR s L C w) {x : Sem Value} {val : Value} (he : execOp ρC o = (do pure (Next.value (← x)))) (hx : x.run P w = .ok val w) (hv : VR s L C w v' val) (hq : some (v', s) = some (v, s')) : Runs P s L C w (execOp ρC o) s' v := by
  simp only [Option.some.injEq,Prod.mk.injEq] at hq
  obtain ⟨rfl,rfl⟩:=hq
  rw [he]
  exact .same hR (run_value hx) hv
theorem run_made {o : Oper} {ρC : Operand → Value} {v : AV} {s' : Store} {x : Sem Value} (he : execOp ρC o = (do pure (Next.value (← x))))
    (h : ∃ L' C' w' val, x.run P w = .ok val w' ∧ VR s' L' C' w' v val ∧ SR s' L' C' w' ∧ Ext (s.low.length + 1) s L C w s' L' C' w') : Runs P s L C w (execOp ρC o) s' v := by
  obtain ⟨L',C',w',val,h1,h2,h3,h4⟩:=h
  rw [he]
  exact ⟨L',C',w',_,val,run_value h1,.inl rfl,h2,h3,h4⟩

section
variable {f : Operand → Opd → Bool} {ρC : Operand → Value} {ρA : Opd → AV} {o : Oper} {v : AV} {s' : Store}
theorem op_move {x : Operand} {y : Opd} (hR : SR s L C w) (hρ : ∀ x y, f x y = true → VR s L C w (ρA y) (ρC x)) (ho : o.op = .move x) (hck : f x y = true) (hev : evOp (.mov y) ρA s = some (v, s')) : Runs P s L C w (execOp ρC o) s' v := by
  simp only [evOp,Option.some.injEq,Prod.mk.injEq] at hev
  obtain ⟨rfl,rfl⟩:=hev
  exact .same hR (by simp [execOp,ho]) (hρ _ _ hck)
theorem op_assign {x : Operand} {y : Opd} (hR : SR s L C w) (hρ : ∀ x y, f x y = true → VR s L C w (ρA y) (ρC x)) (ho : o.op = .assign x) (hck : f x y = true) (hev : evOp (.mov y) ρA s = some (v, s')) : Runs P s L C w (execOp ρC o) s' v := by
  simp only [evOp,Option.some.injEq,Prod.mk.injEq] at hev
  obtain ⟨rfl,rfl⟩:=hev
  exact .same hR (by simp [execOp,ho]) (hρ _ _ hck)
theorem op_pick {c x y : Operand} {c' x' y' : Opd} (hR : SR s L C w) (hρ : ∀ x y, f x y = true → VR s L C w (ρA y) (ρC x)) (ho : o.op = .pick c x y) (hck : (f c c' && f x x' && f y y') = true) (hev : evOp (.pick c' x' y') ρA s = some (v, s')) : Runs P s L C w (execOp ρC o) s' v := by
  simp only [Bool.and_eq_true] at hck
  have hc:=hρ _ _ hck.1.1
  simp only [evOp] at hev
  split at hev
  · rename_i t ht
    rw [ht] at hc
    generalize hcv:ρC c = cv at hc
    cases hc
    simp only [Option.some.injEq,Prod.mk.injEq] at hev
    obtain ⟨rfl,rfl⟩:=hev
    refine .same (val:=if t = true then ρC x else ρC y) hR (by simp [execOp,ho,hcv,asBool]) ?_
    cases t
    · exact hρ _ _ hck.2
    · exact hρ _ _ hck.1.2
  · cases hev
theorem op_alloc {t t' : Nat} {z : List AV} (hR : SR s L C w) (hρ : ∀ x y, f x y = true → VR s L C w (ρA y) (ρC x)) (ho : o.op = .alloc t) (hck : (t == t' && zeroCk P t z) = true) (hev : evOp (.alloc t' z) ρA s = some (v, s')) : Runs P s L C w (execOp ρC o) s' v := by
  simp only [Bool.and_eq_true,beq_iff_eq] at hck
  obtain ⟨rfl,hz⟩:=hck
  obtain ⟨i,zv,hi,hzv,hvr⟩:=zeroCk_sound (s:=s) (L:=L) (C:=C) (w:=w) hz
  simp only [evOp] at hev
  obtain ⟨L',h1,h2,h3⟩:=newBox_sound hR hvr hev (pushed_alloc w _)
  refine run_made (x:=Instr.alloc t true (.tuple #[])) (by simp [execOp,ho]) ⟨L',C,_,_,?_,h1,h2,h3⟩
  simp [Instr.alloc, zeroValue, typeInfo, hi, hzv, newVar, newRow]
theorem op_box {t t' n : Nat} {x : Operand} {y : Opd} (hR : SR s L C w) (hρ : ∀ x y, f x y = true → VR s L C w (ρA y) (ρC x)) (ho : o.op = .box t x) (hck : (t == t' && szCk P t n && f x y) = true) (hev : evOp (.box t' n y) ρA s = some (v, s')) : Runs P s L C w (execOp ρC o) s' v := by
  simp only [Bool.and_eq_true,beq_iff_eq] at hck
  obtain ⟨⟨rfl,hs⟩,hf⟩:=hck
  simp only [evOp] at hev
  split at hev
  · rename_i hn
    have hok:cellsOk (s.low.length + 1) (ρA y).cells = true:=by
      unfold newBox at hev
      split at hev
      · assumption
      · cases hev
    obtain ⟨us,hu1,hu2⟩:=(hρ _ _ hf).cells (cellsOk_cells hok)
    obtain ⟨L',h1,h2,h3⟩:=newBox_sound hR hu2 hev (pushed_alloc w _)
    refine run_made (x:=Instr.box t (ρC x)) (by simp [execOp,ho]) ⟨L',C,_,_,?_,h1,h2,h3⟩
    simp [Instr.box, newVar, newRow, hu1]
  · cases hev
theorem op_build {t : Nat} {ps : Array (Nat × Operand)} {z : List AV} {qs : List (Nat × Nat × Opd)} (hR : SR s L C w) (hρ : ∀ x y, f x y = true → VR s L C w (ρA y) (ρC x)) (ho : o.op = .build t ps) (hck : (zeroCk P t z && buildCk (ckBuild f) P t ps.toList qs) = true) (hev : evOp (.build z qs) ρA s = some (v, s')) : Runs P s L C w (execOp ρC o) s' v := by
  simp only [Bool.and_eq_true] at hck
  simp only [evOp] at hev
  obtain ⟨l,hl,hev⟩:=bind_some hev
  obtain ⟨cs,hcs,hev⟩:=bind_some hev
  obtain ⟨vs,h1,h2⟩:=build_sound (P:=P) hρ hck.1 hck.2 hl hcs
  exact run_same hR (x:=Instr.build t (ps.map fun (i,x)=>(i,ρC x))) (by simp [execOp,ho]) h1 h2.agg hev
theorem op_buildSlice {t n e sz : Nat} {ps : Array (Nat × Operand)} {z : List AV} {qs : List (Nat × Opd)} {arr fz : Bool} (hR : SR s L C w) (hρ : ∀ x y, f x y = true → VR s L C w (ρA y) (ρC x)) (ho : o.op = .buildSlice t n ps) (hck : (litCk P t n e sz z && (qs.length == n) && ckLit f ps.toList qs) = true) (hev : evOp (.lit e sz z qs arr fz) ρA s = some (v, s')) : Runs P s L C w (execOp ρC o) s' v := by
  simp only [Bool.and_eq_true,beq_iff_eq] at hck
  obtain ⟨⟨h1,h2⟩,h3⟩:=hck
  have key:=lit_sound (P:=P) hR hρ h1 h2 h3 hev
  refine run_made ?_ key
  unfold execOp
  rw [ho]
theorem op_load {t : Nat} {x : Operand} {n : Option Nat} {y : Opd} (hR : SR s L C w) (hρ : ∀ x y, f x y = true → VR s L C w (ρA y) (ρC x)) (ho : o.op = .load t x) (hck : (f x y && ldCk P t n) = true) (hev : evOp (.load n y) ρA s = some (v, s')) : Runs P s L C w (execOp ρC o) s' v := by
  simp only [Bool.and_eq_true] at hck
  simp only [evOp] at hev
  obtain ⟨v',hv',hev⟩:=bind_some hev
  obtain ⟨val,h1,h2⟩:=run_load (P:=P) hR (hρ _ _ hck.1) hv' hck.2
  exact run_same hR (x:=Instr.loadAt t (ρC x)) (by simp [execOp,ho]) h1 h2 hev
theorem op_store {t n : Nat} {x v0 : Operand} {y z : Opd} (hR : SR s L C w) (hρ : ∀ x y, f x y = true → VR s L C w (ρA y) (ρC x)) (ho : o.op = .store t x v0) (hck : (szCk P t n && f x y && f v0 z) = true) (hev : evOp (.store n y z) ρA s = some (v, s')) : Runs P s L C w (execOp ρC o) s' v := by
  simp only [Bool.and_eq_true] at hck
  simp only [evOp] at hev
  obtain ⟨s2,hs2,hev⟩:=bind_some hev
  simp only [Option.some.injEq,Prod.mk.injEq] at hev
  obtain ⟨rfl,rfl⟩:=hev
  obtain ⟨w',h1,h2,h3⟩:=run_store (P:=P) hR (hρ _ _ hck.1.2) (hρ _ _ hck.2) hs2 hck.1.1
  exact ⟨L,C,w',.skip,Go.undef,by simp [execOp,ho,h1],.inr ⟨rfl,rfl⟩,.undef _,h2,h3⟩
theorem op_nilCheck {x : Operand} {y : Opd} (hR : SR s L C w) (hρ : ∀ x y, f x y = true → VR s L C w (ρA y) (ρC x)) (ho : o.op = .nilCheck x) (hck : f x y = true) (hev : evOp (.nilck y) ρA s = some (v, s')) : Runs P s L C w (execOp ρC o) s' v := by
  have hx:=hρ _ _ hck
  simp only [evOp] at hev
  generalize hxv:ρC x = u at hx
  split at hev
  · rename_i hq
    rw [hq] at hx hev
    simp only [Option.some.injEq,Prod.mk.injEq] at hev
    obtain ⟨rfl,rfl⟩:=hev
    cases hx with
    | ptr d i off t cs h => exact .same hR (by simp [execOp, ho, hxv]) (.ptr _ _ _ _ _ h)
  · rename_i hq
    rw [hq] at hx hev
    simp only [Option.some.injEq,Prod.mk.injEq] at hev
    obtain ⟨rfl,rfl⟩:=hev
    have hx0:=hx
    cases hx with
    | aptr d i off ver e sz cs ver' pr v h hv hs hc =>
      obtain ⟨a,rfl⟩:=hs
      exact .same hR (by simp [execOp,ho,hxv]) hx0
  · rename_i hq
    rw [hq] at hx hev
    simp only [Option.some.injEq,Prod.mk.injEq] at hev
    obtain ⟨rfl,rfl⟩:=hev
    have hx0:=hx
    cases hx with
    | eptr cs a b o u hA hok hc hr => exact .same hR (by simp [execOp, ho, hxv]) hx0
  · cases hev
theorem op_binOp {op op' : BinOp} {t ty : Nat} {x y : Operand} {x' y' : Opd} (hR : SR s L C w) (hρ : ∀ x y, f x y = true → VR s L C w (ρA y) (ρC x)) (ho : o.op = .binOp op t x y ty) (hck : (decide (op = op') && f x x' && f y y') = true) (hev : evOp (.bin op' x' y') ρA s = some (v, s')) : Runs P s L C w (execOp ρC o) s' v := by
  simp only [Bool.and_eq_true,decide_eq_true_eq] at hck
  obtain ⟨⟨rfl,h1⟩,h2⟩:=hck
  simp only [evOp] at hev
  obtain ⟨v',hv',hev⟩:=bind_some hev
  obtain ⟨val,h3,h4⟩:=bin_sound (P:=P) (t:=t) (xo:=x) (yo:=y) (hρ _ _ h1) (hρ _ _ h2) hv'
  exact run_same hR (x:=do eqGuard op t x y (ρC x) (ρC y); binOp op t (ρC x) (ρC y)) (by simp [execOp,ho]) h3 h4 hev
theorem op_unOp {op op' : UnOp} {t : Nat} {x : Operand} {y : Opd} (hR : SR s L C w) (hρ : ∀ x y, f x y = true → VR s L C w (ρA y) (ρC x)) (ho : o.op = .unOp op t x) (hck : (decide (op = op') && f x y) = true) (hev : evOp (.un op' y) ρA s = some (v, s')) : Runs P s L C w (execOp ρC o) s' v := by
  simp only [Bool.and_eq_true,decide_eq_true_eq] at hck
  obtain ⟨rfl,h1⟩:=hck
  simp only [evOp] at hev
  obtain ⟨v',hv',hev⟩:=bind_some hev
  have hx:=hρ _ _ h1
  generalize hxv:ρC x = u at hx
  unfold unV at hv'
  split at hv'
  · rename_i hq
    rw [hq] at hx
    cases hx
    obtain rfl:=Option.some.inj hv'
    exact run_same hR (x:=Op.unary .neg (ρC x)) (by simp [execOp,ho]) (by rw [hxv]; rfl) (.int _ _) hev
  · rename_i hq
    rw [hq] at hx
    cases hx
    obtain rfl:=Option.some.inj hv'
    exact run_same hR (x:=Op.unary .not (ρC x)) (by simp [execOp,ho]) (by rw [hxv]; rfl) (.bool _) hev
  · cases hv'
theorem op_convert {src dst : Nat} {x : Operand} {k : IntKind} {y : Opd} (hR : SR s L C w) (hρ : ∀ x y, f x y = true → VR s L C w (ρA y) (ρC x)) (ho : o.op = .convert src dst x) (hck : (convCk P src dst k && f x y) = true) (hev : evOp (.conv k y) ρA s = some (v, s')) : Runs P s L C w (execOp ρC o) s' v := by
  simp only [Bool.and_eq_true] at hck
  obtain ⟨h12,h3⟩:=hck
  unfold convCk at h12
  simp only [Bool.and_eq_true] at h12
  obtain ⟨h1,h2⟩:=h12
  have hx:=hρ _ _ h3
  generalize hxv:ρC x = u at hx
  simp only [evOp] at hev
  split at hev
  · rename_i k' n hq
    rw [hq] at hx
    cases hx
    obtain ⟨d1,hd1⟩:=Option.isSome_iff_exists.1 h1
    have hd2:P.underlying dst = some (.int k):=by
      split at h2
      · rename_i kk hk; simp at h2; rw [hk, h2]
      · cases h2
    refine run_same hR (x:=convert src dst (ρC x)) (by simp [execOp,ho]) ?_ (.int _ _) hev
    rw [hxv]
    simp [convert, run_underlying hd1, run_underlying hd2, Conv.intToInt]
  · cases hev
theorem op_slice {t sz : Nat} {x : Operand} {lo hi mx : Option Operand} {y : Opd} {lo' hi' mx' : Option Opd} (hR : SR s L C w) (hρ : ∀ x y, f x y = true → VR s L C w (ρA y) (ρC x)) (ho : o.op = .slice t x lo hi mx) (hck : (cutCk P t sz && f x y && ckOpt f lo lo' && ckOpt f hi hi' && ckOpt f mx mx') = true) (hev : evOp (.slice sz y lo' hi' mx') ρA s = some (v, s')) : Runs P s L C w (execOp ρC o) s' v := by
  simp only [Bool.and_eq_true] at hck
  obtain ⟨⟨⟨⟨h1,h2⟩,h3⟩,h4⟩,h5⟩:=hck
  simp only [evOp] at hev
  obtain ⟨v',hv',hev⟩:=bind_some hev
  obtain ⟨val,h6,h7⟩:=slice_sound (P:=P) (hρ _ _ h2) h1 (ckOpt_sound hρ h3) (ckOpt_sound hρ h4) (ckOpt_sound hρ h5) hv'
  exact run_same hR (x:=Instr.sliceAt t (ρC x) (lo.map ρC) (hi.map ρC) (mx.map ρC)) (by simp [execOp,ho]) h6 h7 hev
theorem op_fieldAddr {t k off : Nat} {x : Operand} {y : Opd} (hR : SR s L C w) (hρ : ∀ x y, f x y = true → VR s L C w (ρA y) (ρC x)) (ho : o.op = .fieldAddr t x k) (hck : (fptrCk P t k off && f x y) = true) (hev : evOp (.fptr off y) ρA s = some (v, s')) : Runs P s L C w (execOp ρC o) s' v := by
  simp only [Bool.and_eq_true] at hck
  obtain ⟨h1,h2⟩:=hck
  have hfld:∃ fs fd,P.underlying t = some (.struct fs)∧fs[k]? = some fd∧fd.offset = off∧∃ i,P.info? fd.type = some i∧i.size ≠ 0:=by
    unfold fptrCk fieldOf at h1
    split at h1
    · rename_i fd hfd
      split at hfd
      · rename_i fs hfs
        simp only [Bool.and_eq_true,beq_iff_eq] at h1
        obtain ⟨h3,h4⟩:=h1
        split at h4
        · rename_i i hi; exact ⟨fs, fd, hfs, hfd, h3, i, hi, by simpa using h4⟩
        · cases h4
      · cases hfd
    · cases h1
  obtain ⟨fs,fd,hfs,hfd,rfl,i,hi,hi0⟩:=hfld
  have hx:=hρ _ _ h2
  generalize hxv:ρC x = u at hx
  have hrun:∀ b o,(Instr.fieldAt t (.pointer (some ⟨b,o,none⟩)) k).run P w = .ok (.pointer (some ⟨b,o + fd.offset,none⟩)) w:=by
    intro b o
    simp [Instr.fieldAt, run_underlying hfs, hfd, Instr.sureAddr, fieldPlace, sizeOf, typeInfo, hi, hi0, add_lit']
  simp only [evOp] at hev
  split at hev
  · rename_i hq
    rw [hq] at hx
    cases hx with
    | ptr d i2 off t' cs h => exact run_same hR (x := Instr.fieldAt t (ρC x) k) (by simp [execOp, ho]) (by rw [hxv]; exact hrun _ _) (.ptr _ _ _ _ _ h) hev
  · rename_i hq
    rw [hq] at hx
    cases hx with
    | aptr d i2 off ver e sz cs ver' pr v h hv hs hc =>
      obtain ⟨a,rfl⟩:=hs
      have hrun2:(Instr.fieldAt t (.pointer (some a)) k).run P w = .ok (.pointer (some (a.add fd.offset))) w:=by
        simp [Instr.fieldAt, run_underlying hfs, hfd, Instr.sureAddr, fieldPlace, sizeOf, typeInfo, hi, hi0]
      refine run_same hR (x:=Instr.fieldAt t (ρC x) k) (by simp [execOp,ho]) (by rw [hxv]; exact hrun2) (.aptr _ _ _ _ e sz cs ver' pr _ h hv ⟨_,rfl⟩ fun hq=>?_) hev
      have:=hc hq
      simp only [Value.pointer.injEq,Option.some.injEq] at this
      subst this
      simp [add_lit', Nat.add_assoc]
  · rename_i cs hq
    rw [hq] at hx
    cases hx with
    | eptr _ a b o u hA hok hc hr =>
      have hrun2:(Instr.fieldAt t (.pointer (some a)) k).run P w = .ok (.pointer (some (a.add fd.offset))) w:=by
        simp [Instr.fieldAt, run_underlying hfs, hfd, Instr.sureAddr, fieldPlace, sizeOf, typeInfo, hi, hi0]
      refine run_same hR (x:=Instr.fieldAt t (ρC x) k) (by simp [execOp,ho]) (by rw [hxv]; exact hrun2) (.eptr _ _ b (o + fd.offset) (fun j=>u (fd.offset + j)) (fun hne=>by rw [hA (by rintro rfl; simp at hne),add_lit']) (cellsOk_drop hok _) (fun j x hx=>?_) fun j x hx=>?_) hev
      · rw [List.getElem?_drop] at hx
        have:=hc _ x hx
        rwa [Nat.add_assoc]
      · rw [List.getElem?_drop] at hx
        exact hr _ x hx
  · cases hev
theorem op_field {t k off : Nat} {n : Option Nat} {x : Operand} {y : Opd} (hR : SR s L C w) (hρ : ∀ x y, f x y = true → VR s L C w (ρA y) (ρC x)) (ho : o.op = .field t x k) (hck : (fldCk P t k off n && f x y) = true) (hev : evOp (.fld off n y) ρA s = some (v, s')) : Runs P s L C w (execOp ρC o) s' v := by
  simp only [Bool.and_eq_true] at hck
  obtain ⟨h1,h2⟩:=hck
  have hfld:∃ fs fd,P.underlying t = some (.struct fs)∧fs[k]? = some fd∧fd.offset = off∧ldCk P fd.type n = true:=by
    unfold fldCk fieldOf at h1
    split at h1
    · rename_i fd hfd
      split at hfd
      · rename_i fs hfs
        simp only [Bool.and_eq_true,beq_iff_eq] at h1
        exact ⟨fs,fd,hfs,hfd,h1.1,h1.2⟩
      · cases hfd
    · cases h1
  obtain ⟨fs,fd,hfs,hfd,rfl,h4⟩:=hfld
  unfold ldCk at h4
  have hx:=hρ _ _ h2
  generalize hxv:ρC x = u at hx
  simp only [evOp] at hev
  cases n with
  | none =>
    cases ha : aggCk P fd.type with
    | none => simp [ha] at h4
    | some q =>
      cases q with
      | true => simp [ha] at h4
      | false =>
        split at hev
        · rename_i cs hq hnn
          rw [hq] at hx
          cases hx with
          | agg _ vs hl hr =>
            obtain ⟨v',hv',hev⟩:=bind_some hev
            obtain ⟨u',hu1,hu2⟩:=VRs.get ⟨hl,hr⟩ hv'
            refine run_same hR (x:=Instr.field t (ρC x) k) (by simp [execOp,ho]) ?_ hu2 hev
            rw [hxv]
            simp [Instr.field, run_underlying hfs, hfd, asAgg, part, run_isAgg ha, hu1]
        · rename_i hnn; cases hnn
        · cases hev
  | some n =>
    cases ha : aggCk P fd.type with
    | none => simp [ha] at h4
    | some q =>
      cases q with
      | false => simp [ha] at h4
      | true =>
        simp only [ha] at h4
        split at hev
        · rename_i hnn; cases hnn
        · rename_i cs m hq hnn
          obtain rfl:=Option.some.inj hnn
          rw [hq] at hx
          cases hx with
          | agg _ vs hl hr =>
            split at hev
            · rename_i hle
              have hvs:VRs s L C w cs vs:=⟨hl,hr⟩
              refine run_same hR (x:=Instr.field t (ρC x) k) (by simp [execOp,ho]) ?_ ((hvs.drop fd.offset).take n).agg hev
              rw [hxv]
              simp only [Instr.field,run_underlying hfs,hfd,asAgg,part,run_isAgg ha,run_sizeOf h4,Sem.run_bind,Sem.run_pure,Result.andThen_ok]
              simp [run_isAgg ha, run_sizeOf h4]
            · cases hev
        · cases hev
theorem op_indexAddr {t sz : Nat} {x i : Operand} {y j : Opd} (hR : SR s L C w) (hρ : ∀ x y, f x y = true → VR s L C w (ρA y) (ρC x)) (ho : o.op = .indexAddr t x i) (hck : (iptrCk P t sz && f x y && f i j) = true) (hev : evOp (.iptr sz y j) ρA s = some (v, s')) : Runs P s L C w (execOp ρC o) s' v := by
  simp only [Bool.and_eq_true] at hck
  obtain ⟨⟨h1,h2⟩,h3⟩:=hck
  obtain ⟨e,ht,hs,hsz⟩:∃ e,P.underlying t = some (.slice e)∧szCk P e sz = true∧0 < sz:=by
    unfold iptrCk at h1
    split at h1
    · rename_i e he
      simp only [Bool.and_eq_true,decide_eq_true_eq] at h1
      exact ⟨e,he,h1⟩
    · cases h1
  have hx:=hρ _ _ h2
  have hi:=hρ _ _ h3
  generalize hxv:ρC x = u at hx
  generalize hiv:ρC i = ui at hi
  have hrun:∀ (a:Addr) (n cap:Nat) (kk:IntKind) (k:Int),0 ≤ k→k < n→(Instr.indexAt t (.slice (some a) n cap) (.int kk k)).run P w = .ok (.pointer (some (a.add (k.toNat * sz)))) w:=by
    intro a n cap kk k h0 h1
    have hlt:(0 ≤ k∧k < (n:Int)):=⟨h0,h1⟩
    simp [Instr.indexAt, asIntOf, run_underlying ht, hlt, run_sizeOf hs]
  simp only [evOp] at hev
  split at hev
  · rename_i full n cs kk k hq hq2
    rw [hq] at hx
    rw [hq2] at hi
    cases hi
    cases hx with
    | imm _ _ _ A cap b o u' hn hf hok hA hc hr =>
      split at hev
      · rename_i hk
        have hev':=hev
        simp only [Option.some.injEq,Prod.mk.injEq] at hev'
        obtain ⟨rfl,rfl⟩:=hev'
        by_cases hcs:cs = []
        · -- nothing is there
          subst hcs
          obtain ⟨a,rfl⟩:=hn.2 (by omega)
          refine run_same hR (x:=Instr.indexAt t (ρC x) (ρC i)) (by simp [execOp,ho]) (by rw [hxv,hiv]; exact hrun _ _ _ _ _ hk.1 hk.2) ?_ hev
          exact .eptr _ _ 0 0 (fun _=>default) (fun h=>absurd (by simp) h) (by simp [cellsOk]) (fun j x hx=>by simp at hx) fun j x hx=>by simp at hx
        · refine run_same hR (x := Instr.indexAt t (ρC x) (ρC i)) (by simp [execOp, ho]) (by rw [hxv, hiv, hA hcs]; exact hrun _ _ _ _ _ hk.1 hk.2) ?_ hev
          rw [add_lit']
          refine .eptr _ _ b (o + k.toNat * sz) (fun j=>u' (k.toNat * sz + j)) (fun _=>rfl) (cellsOk_drop hok _) (fun j x hx=>?_) fun j x hx=>?_
          · rw [List.getElem?_drop] at hx
            have:=hc _ x hx
            rwa [Nat.add_assoc]
          · rw [List.getElem?_drop] at hx
            exact hr _ x hx
      · cases hev
  · rename_i d i2 off n ver full kk k hq hq2
    rw [hq] at hx
    rw [hq2] at hi
    cases hi
    cases hx with
    | slr _ _ _ _ _ _ e' sz' cs ver' pr v h hv hsV hc =>
      obtain ⟨A,cap,rfl,hn,hf,hA⟩:=hsV
      split at hev
      · rename_i hk
        obtain ⟨a,rfl⟩:=hA (by omega)
        refine run_same hR (x:=Instr.indexAt t (ρC x) (ρC i)) (by simp [execOp,ho]) (by rw [hxv,hiv]; exact hrun _ _ _ _ _ hk.1 hk.2) ?_ hev
        refine .aptr _ _ _ _ e' sz' cs ver' pr _ h hv ⟨_,rfl⟩ fun hq=>?_
        obtain ⟨A2,cap2,he,hn2,hf2,hA2⟩:=hc hq
        injection he with he1 _ he3
        subst he3
        have:=hA2 (by omega)
        rw [← he1] at this
        obtain rfl:=Option.some.inj this
        simp [add_lit', Nat.add_assoc]
      · cases hev
  · cases hev

end
end
section
variable {P : Program} {s : Store} {L : Nat → Nat → Loc} {C : Cs} {w : World}
variable {f : Operand → Opd → Bool} {ρC : Operand → Value} {ρA : Opd → AV} {o : Oper} {v : AV} {s' : Store}

theorem str_get (t : ByteArray) (n : Nat) : t[n]? = t.data[n]? := by
  rcases Nat.lt_or_ge n t.size with h | h
  · rw [getElem?_pos t n h, Array.getElem?_eq_getElem (by simpa using h)]
    rfl
  · rw [getElem?_neg t n (by omega), Array.getElem?_eq_none (by simpa using h)]

theorem op_index {t : Nat} {x i : Operand} {y j : Opd} (hR : SR s L C w) (hρ : ∀ x y, f x y = true → VR s L C w (ρA y) (ρC x)) (ho : o.op = .index t x i) (hck : (strCk P t && f x y && f i j) = true) (hev : evOp (.sidx y j) ρA s = some (v, s')) : Runs P s L C w (execOp ρC o) s' v := by
  simp only [Bool.and_eq_true] at hck
  obtain ⟨⟨h1,h2⟩,h3⟩:=hck
  have ht:P.underlying t = some .string:=by
    unfold strCk at h1
    split at h1
    · assumption
    · cases h1
  have hx:=hρ _ _ h2
  have hi:=hρ _ _ h3
  generalize hxv:ρC x = u at hx
  generalize hiv:ρC i = ui at hi
  simp only [evOp] at hev
  split at hev
  · rename_i t' kk k hq hq2
    rw [hq] at hx
    rw [hq2] at hi
    cases hi
    cases hx
    split at hev
    · rename_i h0
      split at hev
      · rename_i b hb
        refine run_same hR (x:=Instr.index t (ρC x) (ρC i)) (by simp [execOp,ho]) ?_ (.int _ _) hev
        rw [hxv,hiv]
        simp only [Instr.index,asIntOf,Sem.run_bind,Sem.run_pure,Result.andThen_ok,run_underlying ht,h0,if_true,str_get,hb]
      · cases hev
    · cases hev
  · cases hev
theorem op_makeSlice {t e sz bytes : Nat} {z : List AV} {n c : Operand} {n' c' : Opd} (hR : SR s L C w) (hρ : ∀ x y, f x y = true → VR s L C w (ρA y) (ρC x)) (ho : o.op = .makeSlice t n c)
    (hck : (slCk P t e && szCk P e sz && decide (0 < sz) && byCk P e bytes && decide (0 < bytes) && zeroCk P e z && f n n' && f c c') = true) (hev : evOp (.mk e sz bytes z n' c') ρA s = some (v, s')) : Runs P s L C w (execOp ρC o) s' v := by
  simp only [Bool.and_eq_true,decide_eq_true_eq] at hck
  obtain ⟨⟨⟨⟨⟨⟨⟨h1,h2⟩,h3⟩,h4⟩,h5⟩,h6⟩,h7⟩,h8⟩:=hck
  simp only [evOp] at hev
  have key:=mk_sound (P:=P) hR (hρ _ _ h7) (hρ _ _ h8) h1 h2 h3 h4 h5 h6 hev
  exact run_made (by unfold execOp; rw [ho]) key
theorem op_extract {x : Operand} {i j : Nat} {y : Opd} (hR : SR s L C w) (hρ : ∀ x y, f x y = true → VR s L C w (ρA y) (ρC x)) (ho : o.op = .extract x i) (hck : ((i == j) && f x y) = true) (hev : evOp (.ext y j) ρA s = some (v, s')) : Runs P s L C w (execOp ρC o) s' v := by
  simp only [Bool.and_eq_true,beq_iff_eq] at hck
  obtain ⟨rfl,h⟩:=hck
  have hx:=hρ _ _ h
  generalize hxv:ρC x = u at hx
  simp only [evOp] at hev
  split at hev
  · rename_i vs hq
    rw [hq] at hx
    cases hx with
    | tup _ us hl hr =>
      obtain ⟨v',hv',hev⟩:=bind_some hev
      obtain ⟨u',hu1,hu2⟩:=VRs.get ⟨hl,hr⟩ hv'
      refine run_same hR (x:=Instr.extract (ρC x) i) (by simp [execOp,ho]) ?_ hu2 hev
      rw [hxv]
      simp [Instr.extract, hu1]
  · cases hev
theorem op_makeFunc {fn : Fn} {az bs : Array Operand} {g : Nat} {az' bs' : List Opd} (hR : SR s L C w) (hρ : ∀ x y, f x y = true → VR s L C w (ρA y) (ρC x)) (ho : o.op = .makeFunc fn az bs)
    (hck : ((match (generalizing := false) fn with | .func h => h == g | _ => false) && ckList f az.toList az' && ckList f bs.toList bs') = true) (hev : evOp (.mkfn g az' bs') ρA s = some (v, s')) : Runs P s L C w (execOp ρC o) s' v := by
  simp only [Bool.and_eq_true] at hck
  obtain ⟨⟨h1,h2⟩,h3⟩:=hck
  obtain rfl:fn = .func g:=by
    split at h1
    · simp at h1; rw [h1]
    · cases h1
  simp only [evOp] at hev
  have k1:=ckList_sound hρ h2
  have k2:=ckList_sound hρ h3
  refine run_same hR (x:=Instr.makeFunc (.func g) (az.map ρC) (bs.map ρC)) (by simp [execOp,ho]) rfl ?_ hev
  rw [show az.map ρC = (az.toList.map ρC).toArray from Array.ext' (Array.toList_map ..),show bs.map ρC = (bs.toList.map ρC).toArray from Array.ext' (Array.toList_map ..)]
  exact .fn g _ _ _ _ k1.1 k2.1 k1.2 k2.2
theorem op_makeInterface {t t' : Nat} {x : Operand} {y : Opd} (hR : SR s L C w) (hρ : ∀ x y, f x y = true → VR s L C w (ρA y) (ρC x)) (ho : o.op = .makeInterface t x) (hck : ((t == t') && P.concrete t && f x y) = true) (hev : evOp (.ifc t' y) ρA s = some (v, s')) : Runs P s L C w (execOp ρC o) s' v := by
  simp only [Bool.and_eq_true,beq_iff_eq] at hck
  obtain ⟨⟨rfl,h1⟩,h2⟩:=hck
  simp only [evOp] at hev
  exact run_same hR (x:=Instr.makeInterface t (ρC x)) (by simp [execOp,ho]) (run_makeInterface w t _ h1) (.ifc _ _ _ (hρ _ _ h2)) hev

theorem run_equalIn_bool {t : Nat} {a b : Bool} (d : Nat) (ht : P.underlying t = some .bool) : (Op.equalIn (d + 1) t (.bool a) (.bool b)).run P w = .ok (a == b) w := by
  simp only [Op.equalIn,Sem.run_bind,run_underlying ht,Result.andThen_ok,Sem.run_pure]
theorem op_beq {op : BinOp} {t ty : Nat} {x y : Operand} {neg : Bool} {x' y' : Opd} (hR : SR s L C w) (hρ : ∀ x y, f x y = true → VR s L C w (ρA y) (ρC x)) (ho : o.op = .binOp op t x y ty)
    (hck : (decide (op = if neg then .neq else .eql) && (match P.underlying t with | some .bool => true | _ => false) && f x x' && f y y') = true) (hev : evOp (.beq neg x' y') ρA s = some (v, s')) : Runs P s L C w (execOp ρC o) s' v := by
  simp only [Bool.and_eq_true,decide_eq_true_eq] at hck
  obtain ⟨⟨⟨rfl,h1⟩,h2⟩,h3⟩:=hck
  have ht:P.underlying t = some .bool:=by
    split at h1
    · assumption
    · cases h1
  have hx:=hρ _ _ h2
  have hy:=hρ _ _ h3
  generalize hxv:ρC x = ux at hx
  generalize hyv:ρC y = uy at hy
  simp only [evOp] at hev
  split at hev
  · rename_i a b hq hq2
    rw [hq] at hx
    rw [hq2] at hy
    cases hx
    cases hy
    refine run_same hR (x:=do eqGuard (if neg then .neq else .eql) t x y (ρC x) (ρC y); binOp (if neg then .neq else .eql) t (ρC x) (ρC y)) (by simp [execOp,ho]) ?_ (.bool _) hev
    rw [hxv,hyv]
    have hg:∀ op,(eqGuard op t x y (.bool a) (.bool b)).run P w = .ok () w:=by intro op; cases op <;> rfl
    have he:(Op.equal t (.bool a) (.bool b)).run P w = .ok (a == b) w:=by
      exact run_equalIn_bool 9999 ht
    simp only [Sem.run_bind,hg,Result.andThen_ok]
    cases neg <;> simp [binOp, he]
  · cases hev
theorem run_eq_sl {t e : Nat} {A : Option Addr} {n cap a b : Nat} (d : Nat) (hu : P.underlying t = some (.slice e)) : (Op.equalIn (d + 1) t (.slice A n cap) (.slice none a b)).run P w = .ok A.isNone w := by
  cases A <;> simp [Op.equalIn, run_underlying hu]
theorem run_eq_pt {t e : Nat} {p : Option Addr} (d : Nat) (hu : P.underlying t = some (.pointer e)) : (Op.equalIn (d + 1) t (.pointer p) (.pointer none)).run P w = .ok p.isNone w := by
  cases p <;> simp [Op.equalIn, run_underlying hu]
theorem run_eq_fn {t : Nat} {a b : Array TypeId} {c : Bool} {r : Bool} {u : Value} (d : Nat) (hu : P.underlying t = some (.func a b c)) (hur : u = .nilFunc ∧ r = true ∨ ∃ f a b, u = .func f a b ∧ r = false) : (Op.equalIn (d + 1) t u .nilFunc).run P w = .ok r w := by
  rcases hur with ⟨rfl, rfl⟩ | ⟨_, _, _, rfl, rfl⟩ <;> simp [Op.equalIn, run_underlying hu]
theorem run_eq_if {t : Nat} {a : Array (String × TypeId)} {r : Bool} {u : Value} (d : Nat) (hu : P.underlying t = some (.interface a)) (hur : u = .nilIface ∧ r = true ∨ ∃ f a, u = .iface f a ∧ r = false) : (Op.equalIn (d + 1) t u .nilIface).run P w = .ok r w := by
  rcases hur with ⟨rfl, rfl⟩ | ⟨_, _, rfl, rfl⟩ <;> simp [Op.equalIn, run_underlying hu]
theorem run_nil {t : Nat} {x y : Operand} {u yv : Value} {neg r : Bool} (hg : (eqGuard (if neg then .neq else .eql) t x y u yv).run P w = .ok () w) (he : (Op.equal t u yv).run P w = .ok r w)
    (hb : ∀ op, op = BinOp.eql ∨ op = BinOp.neq → binOp op t u yv = (match op with | .eql => (do pure (.bool (← Op.equal t u yv))) | _ => (do pure (.bool (!(← Op.equal t u yv)))))) :
    (do eqGuard (if neg then .neq else .eql) t x y u yv; binOp (if neg then .neq else .eql) t u yv : Sem Value).run P w = .ok (.bool (if neg then !r else r)) w := by
  simp only [Sem.run_bind,hg,Result.andThen_ok]
  cases neg
  · rw [hb _ (.inl (by simp))]
    simp [he]
  · rw [hb _ (.inr (by simp))]
    simp [he]
theorem op_isnil {op : BinOp} {t ty k : Nat} {x y : Operand} {neg : Bool} {x' : Opd} (hcst : ∀ c, ρC (.const c) = c) (hR : SR s L C w) (hρ : ∀ x y, f x y = true → VR s L C w (ρA y) (ρC x)) (ho : o.op = .binOp op t x y ty)
    (hck : (decide (op = if neg then .neq else .eql) && nilCk P t k y && f x x') = true) (hev : evOp (.isnil k neg x') ρA s = some (v, s')) : Runs P s L C w (execOp ρC o) s' v := by
  simp only [Bool.and_eq_true,decide_eq_true_eq] at hck
  obtain ⟨⟨rfl,h1⟩,h2⟩:=hck
  have hx:=hρ _ _ h2
  generalize hxv:ρC x = u at hx
  have fin:∀ (yv:Value) (r:Bool),y = .const yv→(eqGuard (if neg then .neq else .eql) t x y u yv).run P w = .ok () w→(Op.equal t u yv).run P w = .ok r w →
      (∀ op, op = BinOp.eql ∨ op = BinOp.neq → binOp op t u yv = (match op with | .eql => (do pure (.bool (← Op.equal t u yv))) | _ => (do pure (.bool (!(← Op.equal t u yv)))))) →
      VR s L C w v (.bool (if neg then !r else r)) → s' = s → Runs P s L C w (execOp ρC o) s' v := by
    intro yv r hy hg he hb hv hs
    subst hs
    refine run_same hR (x:=do eqGuard (if neg then .neq else .eql) t x y (ρC x) (ρC y); binOp (if neg then .neq else .eql) t (ρC x) (ρC y)) (by simp [execOp,ho]) ?_ hv rfl
    rw [hxv,show ρC y = yv by rw [hy]; exact hcst yv]
    exact run_nil hg he hb
  simp only [evOp] at hev
  unfold nilCk at h1
  split at h1
  · -- slices
    rename_i e a b hu
    have key:∀ (A:Option Addr) (n cap:Nat),u = .slice A n cap→n ≤ cap→(0 < cap→∃ a,A = some a)→(if n = 0 then AV.anyb else .bool neg) = v→s = s'→Runs P s L C w (execOp ρC o) s' v:=by
      intro A n cap hun hn hA hv hs
      subst hun
      refine fin _ A.isNone rfl ?_ ?_ ?_ ?_ hs.symm
      · cases neg <;> rfl
      · exact run_eq_sl 9999 hu
      · intro op hop; rcases hop with rfl | rfl <;> rfl
      · subst hv
        split
        · exact .anyb _
        · rename_i hn0
          obtain ⟨a,rfl⟩:=hA (by omega)
          cases neg <;> exact .bool _
    split at hev
    · rename_i full n cs hq
      rw [hq] at hx
      simp only [Option.some.injEq,Prod.mk.injEq] at hev
      cases hx with
      | imm _ _ _ A cap b o' u' hn hf hok hA hc hr => exact key A _ cap rfl hn.1 hn.2 hev.1 hev.2
    · rename_i d i off n ver full hq
      rw [hq] at hx
      simp only [Option.some.injEq,Prod.mk.injEq] at hev
      cases hx with
      | slr _ _ _ _ _ _ e' sz' cs ver' pr v h hv hsV hc =>
        obtain ⟨A,cap,rfl,hn,hf,hA⟩:=hsV
        exact key A _ cap rfl hn hA hev.1 hev.2
    all_goals first | (rename_i hh _; cases hh; done) | (rename_i hh; cases hh; done) | (cases hev; done)
  · -- pointers
    rename_i e hu
    have key:∀ (p:Option Addr),u = .pointer p→AV.bool (if p.isNone then !neg else neg) = v→s = s'→Runs P s L C w (execOp ρC o) s' v:=by
      intro p hup hv hs
      subst hup
      refine fin _ p.isNone rfl ?_ ?_ ?_ ?_ hs.symm
      · cases neg <;> rfl
      · exact run_eq_pt 9999 hu
      · intro op hop; rcases hop with rfl | rfl <;> rfl
      · subst hv
        cases p <;> cases neg <;> exact .bool _
    split at hev
    all_goals first | (cases hev; done) | skip
    all_goals simp only [Option.some.injEq, Prod.mk.injEq] at hev
    all_goals first | (rename_i hh _; cases hh; done) | (rename_i hh; cases hh; done) | skip
    · rename_i hq; rw [hq] at hx; cases hx; exact key none rfl hev.1 hev.2
    · rename_i hq; rw [hq] at hx; cases hx; exact key (some _) rfl hev.1 hev.2
    · rename_i hq
      rw [hq] at hx
      cases hx with
      | aptr d i off ver e sz cs ver' pr v h hv hs hc =>
        obtain ⟨a,rfl⟩:=hs
        exact key (some _) rfl hev.1 hev.2
    · rename_i hq; rw [hq] at hx; cases hx; exact key (some _) rfl hev.1 hev.2
  · -- functions
    rename_i a b c hu
    have key:∀ (r:Bool),(u = .nilFunc∧r = true ∨ ∃ f a b,u = .func f a b∧r = false)→AV.bool (if r then !neg else neg) = v→s = s'→Runs P s L C w (execOp ρC o) s' v:=by
      intro r hur hv hs
      refine fin _ r rfl ?_ ?_ ?_ ?_ hs.symm
      · rcases hur with ⟨rfl, _⟩ | ⟨_, _, _, rfl, _⟩ <;> cases neg <;> rfl
      · exact run_eq_fn 9999 hu hur
      · intro op hop; rcases hur with ⟨rfl, _⟩ | ⟨_, _, _, rfl, _⟩ <;> rcases hop with rfl | rfl <;> rfl
      · subst hv
        cases r <;> cases neg <;> exact .bool _
    split at hev
    all_goals first | (cases hev; done) | skip
    all_goals simp only [Option.some.injEq, Prod.mk.injEq] at hev
    all_goals first | (rename_i hh _; cases hh; done) | (rename_i hh; cases hh; done) | skip
    · rename_i hq; rw [hq] at hx; cases hx; exact key true (.inl ⟨rfl, rfl⟩) hev.1 hev.2
    · rename_i hq; rw [hq] at hx; cases hx; exact key false (.inr ⟨_, _, _, rfl, rfl⟩) hev.1 hev.2
  · -- interfaces
    rename_i a hu
    have key:∀ (r:Bool),(u = .nilIface∧r = true ∨ ∃ f a,u = .iface f a∧r = false)→AV.bool (if r then !neg else neg) = v→s = s'→Runs P s L C w (execOp ρC o) s' v:=by
      intro r hur hv hs
      refine fin _ r rfl ?_ ?_ ?_ ?_ hs.symm
      · rcases hur with ⟨rfl, _⟩ | ⟨_, _, rfl, _⟩ <;> cases neg <;> simp [eqGuard]
      · exact run_eq_if 9999 hu hur
      · intro op hop; rcases hur with ⟨rfl, _⟩ | ⟨_, _, rfl, _⟩ <;> rcases hop with rfl | rfl <;> rfl
      · subst hv
        cases r <;> cases neg <;> exact .bool _
    split at hev
    all_goals first | (cases hev; done) | skip
    all_goals simp only [Option.some.injEq, Prod.mk.injEq] at hev
    all_goals first | (rename_i hh _; cases hh; done) | (rename_i hh; cases hh; done) | skip
    · rename_i hq; rw [hq] at hx; cases hx; exact key true (.inl ⟨rfl, rfl⟩) hev.1 hev.2
    · rename_i hq; rw [hq] at hx; cases hx; exact key false (.inr ⟨_, _, rfl, rfl⟩) hev.1 hev.2
  · cases h1
theorem toBytes_ints : ∀ (cs : List AV) (us : List Value) (b r : ByteArray), VRs s L C w cs us → toBytes cs b = some r → ∃ ns : List Int, us = ns.map (Value.int .u8) ∧ ns.foldl (fun r n => r.push (UInt8.ofNat n.toNat)) b = r
  | [], us, b, r, hv, h => by
    simp only [toBytes,Option.some.injEq] at h
    have:us = []:=List.eq_nil_of_length_eq_zero hv.1
    exact ⟨[],by simp [this],h⟩
  | c :: cs, us, b, r, hv, h => by
    unfold toBytes at h
    split at h
    · rename_i hq; cases hq
    · rename_i b' n q hq
      obtain ⟨rfl,rfl⟩:=List.cons.inj hq
      cases us with
      | nil => have := hv.1; simp at this
      | cons u ur =>
        have h0:=hv.2 0 _ u rfl rfl
        cases h0
        obtain ⟨ns,h1,h2⟩:=toBytes_ints cs ur _ r ⟨by simpa using hv.1,fun j x y hx hy=>hv.2 (j + 1) x y (by simpa using hx) (by simpa using hy)⟩ h
        exact ⟨n :: ns,by simp [h1],h2⟩
    · cases h
theorem op_b2s {src dst : Nat} {x : Operand} {y : Opd} (hR : SR s L C w) (hρ : ∀ x y, f x y = true → VR s L C w (ρA y) (ρC x)) (ho : o.op = .convert src dst x)
    (hck : ((match P.underlying src with | some (.slice e) => (match P.underlying e with | some (.int .u8) => true | _ => false) | _ => false) && strCk P dst && f x y) = true) (hev : evOp (.b2s y) ρA s = some (v, s')) : Runs P s L C w (execOp ρC o) s' v := by
  simp only [Bool.and_eq_true] at hck
  obtain ⟨⟨h1,h2⟩,h3⟩:=hck
  obtain ⟨e,hs,he⟩:∃ e,P.underlying src = some (.slice e)∧P.underlying e = some (.int .u8):=by
    split at h1
    · rename_i e hs
      split at h1
      · rename_i he; exact ⟨e, hs, he⟩
      · cases h1
    · cases h1
  have hd:P.underlying dst = some .string:=by
    unfold strCk at h2
    split at h2
    · assumption
    · cases h2
  have hx:=hρ _ _ h3
  generalize hxv:ρC x = u at hx
  simp only [evOp] at hev
  obtain ⟨⟨n,cs⟩,hq,hev⟩:=bind_some hev
  simp only at hev
  split at hev
  · rename_i hn
    obtain ⟨b,hb,hev⟩:=bind_some hev
    obtain ⟨A,cap,us,rfl,hle,hv,hrow⟩:=elems_sound hR hx hq
    obtain ⟨ns,h4,h5⟩:=toBytes_ints cs us .empty b hv hb
    refine run_same hR (x:=convert src dst (ρC x)) (by simp [execOp,ho]) ?_ (.str _) hev
    rw [hxv,run_convert_bytes_string w src dst e A n cap hs he hd]
    have hul:us.length = n:=by rw [hv.1,hn]
    cases A with
    | none =>
      have hus:us = []:=by
        rcases List.eq_nil_or_concat us with h | ⟨_, _, h⟩
        · exact h
        · obtain ⟨b', o', hA, _⟩ := hrow (by rw [h]; simp)
          cases hA
      rw [hus] at h4
      have:ns = []:=by cases ns with | nil=>rfl | cons a b=>simp at h4
      subst this
      simp only [List.foldl_nil] at h5
      subst h5
      rfl
    | some a =>
      rw [← h5]
      refine run_bytesToString w a n cap ns ?_
      rw [← h4,← hul]
      refine run_loadCells_list w a us ?_
      intro j v hv
      obtain ⟨b',o',hA,hr⟩:=hrow (by rintro rfl; simp at hv)
      obtain rfl:=Option.some.inj hA
      rw [add_lit']
      exact hr j v hv
  · cases hev

theorem arr_one {α : Type} {a : Array α} {x : α} (h : a.toList = [x]) : a = #[x] := Array.ext' h
theorem arr_two {α : Type} {a : Array α} {x y : α} (h : a.toList = [x, y]) : a = #[x, y] := Array.ext' h

theorem run_builtin {m : Sem Next} {c : Call} {b : Builtin} {args : Array Operand} {ts : Array TypeId} (ho : o.op = .call c) (hc : c.callee = .builtin b) (ha : c.args = args) (ht : c.argTypes = ts)
    (hm : ∀ k, builtin b ts o.type k (args.map ρC) = m) : execOp ρC o = m := by
  subst ha ht
  rw [← hm (c.args.map fun | .const _=>true | _=>false)]
  simp only [execOp,ho,resolve,hc,pure_bind,invoke]
  rfl

theorem op_len {c : Call} {st : Bool} {y : Opd} (hR : SR s L C w) (hρ : ∀ x y, f x y = true → VR s L C w (ρA y) (ρC x)) (ho : o.op = .call c)
    (hck : (match c.callee, c.args.toList, c.argTypes.toList with
    | .builtin .len, [x], [t] => f x y && (match P.underlying t with | some (.slice _) => !st | some .string => st | _ => false)
    | _, _, _ => false) = true) (hev : evOp (.len st y) ρA s = some (v, s')) : Runs P s L C w (execOp ρC o) s' v := by
  split at hck
  · rename_i x t hc ha ht
    simp only [Bool.and_eq_true] at hck
    obtain ⟨h1,h2⟩:=hck
    have hx:=hρ _ _ h1
    have he:execOp ρC o = (do pure (Next.value (← Builtin.len_ #[t] o.type #[ρC x]))):=run_builtin ho hc (arr_one ha) (arr_one ht) fun k=>by simp [builtin]
    generalize hxv:ρC x = u at hx
    simp only [evOp] at hev
    split at hev
    · rename_i full n cs hq
      rw [hq] at hx
      cases hx with
      | imm _ _ _ A cap b o' u' hn hf hok hA hc hr =>
        refine run_same hR he ?_ (.int _ _) hev
        rw [hxv]
        split at h2
        · rename_i e hu; simp [Builtin.len_, run_underlying hu, goInt]
        · cases h2
        · cases h2
    · rename_i d i off n ver full hq
      rw [hq] at hx
      cases hx with
      | slr _ _ _ _ _ _ e' sz' cs ver' pr v h hv hsV hc =>
        obtain ⟨A,cap,rfl,hn,hf,hA⟩:=hsV
        refine run_same hR he ?_ (.int _ _) hev
        rw [hxv]
        split at h2
        · rename_i e hu; simp [Builtin.len_, run_underlying hu, goInt]
        · cases h2
        · cases h2
    · rename_i t' hq
      rw [hq] at hx
      cases hx
      refine run_same hR he ?_ (.int _ _) hev
      rw [hxv]
      split at h2
      · cases h2
      · rename_i hu; simp [Builtin.len_, run_underlying hu, goInt]
      · cases h2
    · cases hev
  · cases hck
theorem op_app {c : Call} {gg : Bool} {e sz bytes : Nat} {y z : Opd} (hR : SR s L C w) (hρ : ∀ x y, f x y = true → VR s L C w (ρA y) (ρC x)) (ho : o.op = .call c)
    (hck : (match c.callee, c.args.toList, c.argTypes.toList with
    | .builtin .append, [x, v], [t, u] => f x y && f v z && slCk P t e && szCk P e sz && decide (0 < sz) && byCk P e bytes && decide (0 < bytes) &&
        (match P.info? e with | some i => (match i.zero with | some zv => zv.cells.size == sz | none => false) | none => false) &&
        (match P.underlying u with | some (.slice _) => true | some .string => true | _ => false)
    | _, _, _ => false) = true) (hev : evOp (.app gg e sz bytes y z) ρA s = some (v, s')) : Runs P s L C w (execOp ρC o) s' v := by
  split at hck
  · rename_i x v0 t u hc ha ht
    simp only [Bool.and_eq_true,decide_eq_true_eq] at hck
    obtain ⟨⟨⟨⟨⟨⟨⟨⟨h1,h2⟩,h3⟩,h4⟩,h5⟩,h6⟩,h7⟩,h8⟩,h9⟩:=hck
    have he:execOp ρC o = (do pure (Next.value (← Builtin.append_ #[t,u] o.type #[ρC x,ρC v0]))):=run_builtin ho hc (arr_two ha) (arr_two ht) fun k=>by simp [builtin]
    simp only [evOp] at hev
    split at hev
    · exact run_made he (append0_sound hR (hρ _ _ h1) (hρ _ _ h2) (slCk_sound h3) h4 h5 h6 h7 h8 h9 hev)
    · exact run_made he (append_sound hR (hρ _ _ h1) (hρ _ _ h2) (slCk_sound h3) h4 h5 h6 h7 h8 h9 hev)
  · cases hck
theorem op_convs {src dst : Nat} {x : Operand} {y : Opd} (hR : SR s L C w) (hρ : ∀ x y, f x y = true → VR s L C w (ρA y) (ρC x)) (ho : o.op = .convert src dst x)
    (hck : ((src == dst) && (match P.underlying src with | some (.slice e) => (match P.underlying e with | some (.int .u8) => true | _ => false) | _ => false) && f x y) = true) (hev : evOp (.convs y) ρA s = some (v, s')) : Runs P s L C w (execOp ρC o) s' v := by
  simp only [evOp] at hev
  obtain ⟨v',hv',_⟩:=bind_some hev
  cases hv'
theorem op_min {c : Call} {y z : Opd} (hR : SR s L C w) (hρ : ∀ x y, f x y = true → VR s L C w (ρA y) (ρC x)) (ho : o.op = .call c)
    (hck : (match c.callee, c.args.toList with
    | .builtin .min, [x, v] => f x y && f v z
    | _, _ => false) = true) (hev : evOp (.min y z) ρA s = some (v, s')) : Runs P s L C w (execOp ρC o) s' v := by
  split at hck
  · rename_i x x2 hc ha
    simp only [Bool.and_eq_true] at hck
    obtain ⟨h1,h2⟩:=hck
    have hx:=hρ _ _ h1
    have hy:=hρ _ _ h2
    have he:execOp ρC o = (do pure (Next.value (← Builtin.min_ c.argTypes o.type #[ρC x,ρC x2]))):=run_builtin ho hc (arr_two ha) rfl fun k=>by simp [builtin]
    generalize hxv:ρC x = u at hx
    generalize hyv:ρC x2 = u2 at hy
    simp only [evOp] at hev
    obtain ⟨v',hv',hev⟩:=bind_some hev
    unfold minV at hv'
    split at hv'
    · rename_i k a k' b hq1 hq2
      rw [hq1] at hx
      rw [hq2] at hy
      cases hx
      cases hy
      split at hv'
      · rename_i hk
        subst hk
        obtain rfl:=Option.some.inj hv'
        refine run_same hR he ?_ (.int _ _) hev
        rw [hxv,hyv]
        simp [Builtin.min_, Builtin.min2]
      · cases hv'
    · cases hv'
  · cases hck
theorem op_clear {c : Call} {sz : Nat} {z : List AV} {y : Opd} (hR : SR s L C w) (hρ : ∀ x y, f x y = true → VR s L C w (ρA y) (ρC x)) (ho : o.op = .call c)
    (hck : (match c.callee, c.args.toList, c.argTypes.toList with
    | .builtin .clear, [x], [t] => f x y && (match P.underlying t with | some (.slice e) => szCk P e sz && zeroCk P e z | _ => false)
    | _, _, _ => false) = true) (hev : evOp (.clear sz z y) ρA s = some (v, s')) : Runs P s L C w (execOp ρC o) s' v := by
  split at hck
  · rename_i x t hc ha ht
    simp only [Bool.and_eq_true] at hck
    obtain ⟨h1,h2⟩:=hck
    have he:execOp ρC o = (do pure (Next.value (← Builtin.clear_ #[t] o.type #[ρC x]))):=run_builtin ho hc (arr_one ha) (arr_one ht) fun k=>by simp [builtin]
    simp only [evOp] at hev
    obtain ⟨s2,hs2,hev⟩:=bind_some hev
    simp only [Option.some.injEq,Prod.mk.injEq] at hev
    obtain ⟨rfl,rfl⟩:=hev
    obtain ⟨w',k1,k2,k3⟩:=clear_sound (P:=P) (ty:=o.type) hR (hρ _ _ h1) h2 hs2
    exact run_made he ⟨L,C,w',_,k1,.undef _,k2,k3⟩
  · cases hck

theorem op_sound {a : AOp} (hcst : ∀ c, ρC (.const c) = c) (hR : SR s L C w) (hρ : ∀ x y, f x y = true → VR s L C w (ρA y) (ρC x)) (hck : ckOp f P o.op a = true) (hev : evOp a ρA s = some (v, s')) : Runs P s L C w (execOp ρC o) s' v := by
  generalize ho:o.op = q at hck
  unfold ckOp at hck
  split at hck
  · exact op_move hR hρ ho hck hev
  · exact op_assign hR hρ ho hck hev
  · exact op_pick hR hρ ho hck hev
  · exact op_alloc hR hρ ho hck hev
  · exact op_box hR hρ ho hck hev
  · exact op_build hR hρ ho hck hev
  · exact op_buildSlice hR hρ ho hck hev
  · exact op_load hR hρ ho hck hev
  · exact op_store hR hρ ho hck hev
  · exact op_nilCheck hR hρ ho hck hev
  · exact op_binOp hR hρ ho hck hev
  · exact op_unOp hR hρ ho hck hev
  · exact op_convert hR hρ ho hck hev
  · exact op_slice hR hρ ho hck hev
  · exact op_fieldAddr hR hρ ho hck hev
  · exact op_field hR hρ ho hck hev
  · exact op_indexAddr hR hρ ho hck hev
  · exact op_index hR hρ ho hck hev
  · exact op_makeSlice hR hρ ho hck hev
  · exact op_extract hR hρ ho hck hev
  · exact op_makeFunc hR hρ ho hck hev
  · exact op_isnil hcst hR hρ ho hck hev
  · exact op_beq hR hρ ho hck hev
  · exact op_b2s hR hρ ho hck hev
  · exact op_makeInterface hR hρ ho hck hev
  · exact op_convs hR hρ ho hck hev
  · exact op_len hR hρ ho hck hev
  · exact op_app hR hρ ho hck hev
  · exact op_clear hR hρ ho hck hev
  · exact op_min hR hρ ho hck hev
  · cases hck
end
def Post (s : Store) (L : Nat → Nat → Loc) (C : Cs) (w : World) (s' : Store) (v : AV) (u : Value) (w' : World) : Prop :=
  ∃ L' C', VR s' L' C' w' v u ∧ SR s' L' C' w' ∧ Ext (s.low.length + 1) s L C w s' L' C' w'

def CallOK (P : Program) (call : CallT) : Prop := ∀ f args s v s', call f args s = some (v, s') → ∀ L C w us, SR s L C w → VRs s L C w args us →
  ((callFunc f us.toArray).run P w = .ok (.enter f us.toArray) w ∧ Calls P f us.toArray w fun e w' => ∃ u, e = .returned u ∧ Post s L C w s' v u w') ∨
  ∃ u w', (callFunc f us.toArray).run P w = .ok (.value u) w' ∧ Post s L C w s' v u w'

def ckAct (f : Operand → Opd → Bool) (P : Program) (o : Op) (a : AOp) : Bool :=
  match o, a with
  | .call c, .call g args => (match c.callee with | .value (.func h) => h == g | _ => false) && ckList f c.args.toList args
  | .call c, .callv g args => (match c.callee with | .value x => f x g | _ => false) && ckList f c.args.toList args
  | o, a => ckOp f P o a

section
variable {P : Program} {call : CallT} {s : Store} {L : Nat → Nat → Loc} {C : Cs} {w : World} {f : Operand → Opd → Bool} {ρA : Opd → AV} {o : Oper} {a : Act} {v : AV} {s' : Store}
  {K : Act → World → Prop} {Q : Exit → Act → World → Prop}

theorem upon_call {g : Nat} {us : List Value} (he : execOp a.eval o = callFunc g us.toArray)
    (h : ((callFunc g us.toArray).run P w = .ok (.enter g us.toArray) w ∧ Calls P g us.toArray w fun e w' => ∃ u, e = .returned u ∧ Post s L C w s' v u w') ∨
      ∃ u w', (callFunc g us.toArray).run P w = .ok (.value u) w' ∧ Post s L C w s' v u w')
    (hK : ∀ u w', Post s L C w s' v u w' → K (a.put o.dst u) w') : o.wp P a w K Q := by
  unfold Oper.wp
  rw [he]
  rcases h with ⟨h1, h2⟩ | ⟨u, w', h1, h2⟩
  · rw [h1]
    simp only [Oper.upon]
    refine Calls.mono h2 fun e w' he=>?_
    obtain ⟨u,rfl,hp⟩:=he
    exact hK u w' hp
  · rw [h1]
    exact hK u w' h2

theorem map_toArray {az : Array Operand} (ρ : Operand → Value) : az.map ρ = (az.toList.map ρ).toArray := Array.ext' (Array.toList_map ..)

theorem act_sound {ao : AOp} (hcall : CallOK P call) (hR : SR s L C w) (hρ : ∀ x y, f x y = true → VR s L C w (ρA y) (a.eval x)) (hck : ckAct f P o.op ao = true) (hev : evAct call ao ρA s = some (v, s'))
    (hK : ∀ u w', Post s L C w s' v u w' → K (a.put o.dst u) w') : o.wp P a w K Q := by
  generalize ho:o.op = q at hck
  unfold ckAct at hck
  split at hck
  · rename_i c g args
    simp only [Bool.and_eq_true] at hck
    obtain ⟨h1,h2⟩:=hck
    have hc:c.callee = .value (.func g):=by
      split at h1
      · rename_i h hc; rw [hc]; simp at h1; rw [h1]
      · cases h1
    have hargs:=ckList_sound hρ h2
    simp only [evAct] at hev
    refine upon_call ?_ (hcall g _ s v s' hev L C w _ hR hargs) hK
    simp only [execOp,ho,resolve,hc,Act.eval,Deferred.ofValue,pure_bind,invoke,map_toArray]
    simp
  · rename_i c g args
    simp only [Bool.and_eq_true] at hck
    obtain ⟨h1,h2⟩:=hck
    obtain ⟨x,hc,hf⟩:∃ x,c.callee = .value x∧f x g = true:=by
      split at h1
      · rename_i x hc; exact ⟨x, hc, h1⟩
      · cases h1
    have hargs:=ckList_sound hρ h2
    have hx:=hρ _ _ hf
    simp only [evAct] at hev
    split at hev
    · rename_i h first caps hq
      rw [hq] at hx
      generalize hxv:a.eval x = xv at hx
      cases hx with
      | fn _ az bs va vb ha hb hra hrb =>
        have h3:VRs s L C w (first ++ args.map ρA ++ caps) (va ++ c.args.toList.map a.eval ++ vb):=(VRs.append ⟨ha,hra⟩ hargs).append ⟨hb,hrb⟩
        refine upon_call ?_ (hcall h _ s v s' hev L C w _ hR h3) hK
        simp only [execOp,ho,resolve,hc,hxv,Deferred.ofValue,pure_bind,invoke,map_toArray]
        simp
    · cases hev
  · rename_i h1 h2
    have hev':evOp ao ρA s = some (v,s'):=by
      unfold evAct at hev
      split at hev
      · cases hq : q <;> simp [hq, ckOp] at hck
      · cases hq : q <;> simp [hq, ckOp] at hck
      · exact hev
    rw [← ho] at hck
    obtain ⟨L',C',w',nx,val,e1,e2,e3,e4,e5⟩:=op_sound (P:=P) (fun _=>rfl) hR hρ hck hev'
    unfold Oper.wp
    rw [e1]
    rcases e2 with rfl | ⟨rfl, rfl⟩
    · exact hK _ _ ⟨L', C', e3, e4, e5⟩
    · exact hK _ _ ⟨L', C', e3, e4, e5⟩
end

def dstOf (ops : Array Oper) (k : Nat) : Option Nat := (ops[k]?).bind (·.dst)
def ckGuard (res : Operand → Opd → Bool) (ops : Array Oper) (o : Oper) (ao : AO) : Bool :=
  match o.guard, ao.g with
  | none, none => true
  | some (g, want), some (g', want') => (g == g') && (want == want') && (match dstOf ops g with | some t => res (.tmp t) (.l g) | none => false)
  | _, _ => false

theorem wanted_of {ops : Array Oper} {o : Oper} {a : Act} {g t : Nat} {want b : Bool} (hg : o.guard = some (g, want)) (hd : dstOf ops g = some t) (hb : a.tmps.getD t undef = .bool b) :
    Region.wanted o (yielded ops a.tmps) = (b == want) := by
  have hd':(ops[g]?).bind (·.dst) = some t:=hd
  have ht:a.tmps[t]? = some (.bool b):=by
    cases hq : a.tmps[t]? with
    | none => rw [Array.getD_eq_getD_getElem?, hq] at hb; cases hb
    | some u => rw [Array.getD_eq_getD_getElem?, hq] at hb; rw [show u = Value.bool b from hb]
  simp only [Region.wanted,hg,yielded,hd',Option.bind_some,ht]
  cases b <;> cases want <;> rfl

section
variable {P : Program} {call : CallT} {s : Store} {L : Nat → Nat → Loc} {C : Cs} {w : World} {res : Operand → Opd → Bool} {o : Oper} {ao : AO} {a : Act} {v : AV} {s' : Store}
  {K : Act → World → Prop} {Q : Exit → Act → World → Prop} {ops : Array Oper} {ls vs : List AV}
theorem one_sound {j : Nat} (hcall : CallOK P call) (hR : SR s L C w) (hρ : ∀ x y, res x y = true → VR s L C w (rd ls vs y) (a.eval x))
    (hg : ckGuard res ops o ao = true) (hk : ckAct res P o.op ao.op = true) (hev : evOne call ao ls vs s = some (v, s')) (ho : ops[j]? = some o)
    (hK : ∀ u w', Post s L C w s' v u w' → K (a.put o.dst u) w') : wpOp P ops Q j K a w := by
  unfold wpOp
  simp only [ho]
  unfold evOne at hev
  unfold ckGuard at hg
  split at hg
  · rename_i h1 h2
    rw [h2] at hev
    have hw:Region.wanted o (yielded ops a.tmps) = true:=by simp [Region.wanted,h1]
    simp only [hw,if_true]
    exact .inl (act_sound hcall hR hρ hk hev hK)
  · rename_i g want g' want' h1 h2
    simp only [Bool.and_eq_true,beq_iff_eq] at hg
    obtain ⟨⟨rfl,rfl⟩,hr⟩:=hg
    rw [h2] at hev
    simp only at hev
    split at hr
    · rename_i t ht
      have hv:=hρ _ _ hr
      simp only [rd,Act.eval] at hv
      split at hev
      · rename_i b hb
        rw [hb] at hv
        generalize hbv:a.tmps.getD t undef = bv at hv
        cases hv
        rw [wanted_of h1 ht hbv]
        split at hev
        · rename_i he
          subst he
          simp only [BEq.rfl,if_true]
          exact .inl (act_sound hcall hR hρ hk hev hK)
        · rename_i he
          have:(b == want) = false:=by cases b <;> cases want <;> simp_all
          rw [this]
          simp only [Bool.false_eq_true,if_false]
          simp only [Option.some.injEq,Prod.mk.injEq] at hev
          obtain ⟨rfl,rfl⟩:=hev
          exact hK _ _ ⟨L,C,.unw,hR,.refl _⟩
      · rename_i hb
        rw [hb] at hv
        generalize hbv:a.tmps.getD t undef = bv at hv
        cases hv
        have hw:Region.wanted o (yielded ops a.tmps) = false:=by
          have hd':(ops[g]?).bind (·.dst) = some t:=ht
          simp only [Region.wanted,h1,yielded,hd',Option.bind_some]
          cases hq : a.tmps[t]? with
          | none => rfl
          | some u =>
            rw [Array.getD_eq_getD_getElem?,hq] at hbv
            have:u = Go.undef:=hbv
            subst this
            rfl
        rw [hw]
        simp only [Bool.false_eq_true,if_false]
        simp only [Option.some.injEq,Prod.mk.injEq] at hev
        obtain ⟨rfl,rfl⟩:=hev
        exact hK _ _ ⟨L,C,.unw,hR,.refl _⟩
      · cases hev
    · cases hr
  · cases hg
end

/-! ### the slots of a function -/
def TR (vm : List Nat) (vs : List AV) (s : Store) (L : Nat → Nat → Loc) (C : Cs) (w : World) (a : Act) : Prop :=
  ∀ i t, vm[i]? = some t → VR s L C w (vs.getD i .undef) (a.tmps.getD t undef)
def ckDst (N : Nat) (vm : List Nat) (o : Oper) (ao : AO) : Bool :=
  match o.dst with
  | none => ao.dv.isNone
  | some t => decide (t < N) && (match ao.dv with | some i => decide (vm[i]? = some t) | none => !(vm.contains t))
def nW (ops : Array Oper) (t lo hi : Nat) : Bool := (List.range ops.size).all fun k => !(decide (lo ≤ k) && decide (k < hi)) || decide (dstOf ops k ≠ some t)
def resC (x : Operand) (y : Opd) : Bool :=
  match x, y with
  | .const v, .c c => cst v c
  | .func g, .c (.fn h [] []) => g == h
  | _, _ => false
def resS (vm : List Nat) (ops : Array Oper) (j : Nat) (x : Operand) (y : Opd) : Bool :=
  match x, y with
  | .tmp t, .l k => decide (k < j) && decide (dstOf ops k = some t) && nW ops t (k + 1) j
  | .tmp t, .v i => decide (vm[i]? = some t)
  | x, y => resC x y
def ckOneS (P : Program) (N : Nat) (vm : List Nat) (ops : Array Oper) (j : Nat) (o : Oper) (ao : AO) : Bool :=
  ckDst N vm o ao && ckGuard (resS vm ops j) ops o ao && ckAct (resS vm ops j) P o.op ao.op
def ckRegS (P : Program) (N : Nat) (vm : List Nat) (ops : Array Oper) (aops : List AO) : Bool :=
  (ops.size == aops.length) && (List.range ops.size).all fun j => match ops[j]?, aops[j]? with | some o, some ao => ckOneS P N vm ops j o ao | _, _ => false

theorem put_size (a : Act) (dst : Option Tmp) (u : Value) : (a.put dst u).tmps.size = a.tmps.size := by cases dst <;> simp [Act.put]
theorem put_defers' (a : Act) (dst : Option Tmp) (u : Value) : (a.put dst u).defers = a.defers := by cases dst <;> rfl
theorem put_same {a : Act} {t : Nat} {u : Value} (h : t < a.tmps.size) : (a.put (some t) u).tmps.getD t undef = u := by
  simp [Act.put, Array.getD_eq_getD_getElem?, h]
theorem put_other {a : Act} {dst : Option Tmp} {t : Nat} {u : Value} (h : dst ≠ some t) : (a.put dst u).tmps.getD t undef = a.tmps.getD t undef := by
  cases dst with
  | none => rfl
  | some d =>
    have hne:d ≠ t:=fun e=>h (by rw [e])
    simp [Act.put, Array.getD_eq_getD_getElem?, Array.getElem?_setIfInBounds_ne hne]

section
variable {s : Store} {L : Nat → Nat → Loc} {C : Cs} {w : World}
theorem resC_sound {x : Operand} {y : Opd} {ρ : Opd → AV} {a : Act} (hρ : ∀ c, ρ (.c c) = c) (h : resC x y = true) : VR s L C w (ρ y) (a.eval x) := by
  unfold resC at h
  split at h
  · rw [hρ]; exact cst_sound h
  · simp only [beq_iff_eq] at h
    subst h
    rw [hρ]
    exact .fn _ [] [] [] [] rfl rfl (fun j x y h=>by simp at h) fun j x y h=>by simp at h
  · cases h

theorem getD_set {α : Type} (l : List α) (i k : Nat) (x d : α) : (l.set i x).getD k d = if i = k then (if i < l.length then x else d) else l.getD k d := by
  simp only [List.getD_eq_getElem?_getD,List.getElem?_set]
  split
  · split <;> rfl
  · rfl

theorem TR.put {N : Nat} {vm : List Nat} {vs : List AV} {a : Act} {o : Oper} {ao : AO} {v : AV} {u : Value} {s' : Store} {L' : Nat → Nat → Loc} {C' : Cs} {w' : World}
    (h : TR vm vs s L C w a) (hnd : vm.Nodup) (hN : a.tmps.size = N) (hd : ckDst N vm o ao = true) (hE : Ext (s.low.length + 1) s L C w s' L' C' w') (hv : VR s' L' C' w' v u) :
    TR vm (putV ao.dv vs v) s' L' C' w' (a.put o.dst u) := by
  intro i t hi
  unfold ckDst at hd
  cases hdst : o.dst with
  | none =>
    rw [hdst] at hd
    have hn:ao.dv = none:=by simpa using hd
    rw [hn]
    exact (h i t hi).keep hE
  | some d =>
    rw [hdst] at hd
    simp only [Bool.and_eq_true,decide_eq_true_eq] at hd
    obtain ⟨hlt,hd⟩:=hd
    by_cases hdt:d = t
    · subst hdt
      rw [put_same (by rw [hN]; exact hlt)]
      cases hdv : ao.dv with
      | none =>
        rw [hdv] at hd
        simp only [Bool.not_eq_true',List.contains_eq_mem,decide_eq_false_iff_not] at hd
        exact absurd (List.mem_of_getElem? hi) hd
      | some i' =>
        rw [hdv] at hd
        simp only [decide_eq_true_eq] at hd
        have hii:i' = i:=(List.getElem?_inj (List.getElem?_eq_some_iff.1 hd).1 hnd).1 (hd.trans hi.symm)
        subst hii
        simp only [putV,getD_set,if_true]
        split
        · exact hv
        · exact .undef _
    · rw [put_other (by simpa using hdt)]
      have:(putV ao.dv vs v).getD i .undef = vs.getD i .undef:=by
        cases hdv : ao.dv with
        | none => rfl
        | some i' =>
          rw [hdv] at hd
          simp only [decide_eq_true_eq] at hd
          have hne:i' ≠ i:=fun e=>hdt (by rw [e,hi] at hd; exact (Option.some.inj hd).symm)
          simp only [putV,getD_set,if_neg hne]
      rw [this]
      exact (h i t hi).keep hE
end

theorem nW_spec {ops : Array Oper} {t lo hi : Nat} (h : nW ops t lo hi = true) {k : Nat} (h1 : lo ≤ k) (h2 : k < hi) : dstOf ops k ≠ some t := by
  intro hk
  have hlt:k < ops.size:=by
    unfold dstOf at hk
    rcases Nat.lt_or_ge k ops.size with hl | hl
    · exact hl
    · rw [Array.getElem?_eq_none hl] at hk; cases hk
  have:=List.all_eq_true.1 h k (List.mem_range.2 hlt)
  simp [h1, h2, hk] at this
theorem nW_of {ops : Array Oper} {t lo hi : Nat} (h : ∀ k, lo ≤ k → k < hi → dstOf ops k ≠ some t) : nW ops t lo hi = true := by
  refine List.all_eq_true.2 fun k _=>?_
  by_cases h1:lo ≤ k∧k < hi
  · simp [h1.1, h1.2, h k h1.1 h1.2]
  · have : (decide (lo ≤ k) && decide (k < hi)) = false := by
      rw [Bool.and_eq_false_iff,decide_eq_false_iff_not,decide_eq_false_iff_not]; omega
    simp [this]

structure AI (N : Nat) (vm : List Nat) (s0 : Store) (L0 : Nat → Nat → Loc) (C0 : Cs) (w0 : World) (vs : List AV) (s : Store) (a : Act) (w : World) (L : Nat → Nat → Loc) (C : Cs) : Prop where
  size : a.tmps.size = N
  defers : a.defers = []
  rel : SR s L C w
  ext : Ext (s0.low.length + 1) s0 L0 C0 w0 s L C w
  slots : TR vm vs s L C w a

theorem seq_sound {P : Program} {call : CallT} {N : Nat} {vm : List Nat} {ops : Array Oper} {aops : List AO} {Q : Exit → Act → World → Prop} {s0 : Store} {L0 : Nat → Nat → Loc} {C0 : Cs} {w0 : World}
    (hcall : CallOK P call) (hnd : vm.Nodup) (hck : ckRegS P N vm ops aops = true) {vs' : List AV} {s' : Store}
    (hQ : ∀ a w L C, AI N vm s0 L0 C0 w0 vs' s' a w L C → Q .normal a w) :
    ∀ (rest : List AO) (j : Nat) (ls vs : List AV) (s : Store) (a : Act) (w : World) (L : Nat → Nat → Loc) (C : Cs), aops.drop j = rest → evOps call rest ls vs s = some (vs', s') → ls.length = j →
      AI N vm s0 L0 C0 w0 vs s a w L C → (∀ k t, k < j → dstOf ops k = some t → nW ops t (k + 1) j = true → VR s L C w (ls.getD k .undef) (a.tmps.getD t undef)) →
      wpOps P ops Q (List.range' j rest.length) a w
  | [], j, ls, vs, s, a, w, L, C, _, hev, _, hI, _ => by
    simp only [evOps,Option.some.injEq,Prod.mk.injEq] at hev
    obtain ⟨rfl,rfl⟩:=hev
    exact hQ a w L C hI
  | ao :: rest, j, ls, vs, s, a, w, L, C, hrest, hev, hlen, hI, hLR => by
    unfold ckRegS at hck
    have hck0:=hck
    simp only [Bool.and_eq_true,beq_iff_eq,List.all_eq_true,List.mem_range] at hck
    obtain ⟨hsz,hall⟩:=hck
    have hao:aops[j]? = some ao:=by
      have:(aops.drop j)[0]? = some ao:=by rw [hrest]; rfl
      rwa [List.getElem?_drop, Nat.add_zero] at this
    have hj:j < ops.size:=by rw [hsz]; exact (List.getElem?_eq_some_iff.1 hao).1
    have h1:=hall j hj
    obtain ⟨o,ho⟩:∃ o,ops[j]? = some o:=⟨_,Array.getElem?_eq_getElem hj⟩
    simp only [ho,hao,ckOneS,Bool.and_eq_true] at h1
    obtain ⟨⟨hd,hg⟩,hk⟩:=h1
    simp only [evOps] at hev
    obtain ⟨⟨v,s1⟩,hx,hev⟩:=bind_some hev
    simp only [List.length_cons,List.range'_succ]
    rw [wpOps_cons]
    refine one_sound hcall hI.rel ?_ hg hk hx ho fun u w1 hp=>?_
    · intro x y hxy
      unfold resS at hxy
      split at hxy
      · rename_i t k
        simp only [Bool.and_eq_true,decide_eq_true_eq] at hxy
        exact hLR k t hxy.1.1 hxy.1.2 hxy.2
      · rename_i t i
        simp only [decide_eq_true_eq] at hxy
        exact hI.slots i t hxy
      · exact resC_sound (fun _ => rfl) hxy
    · obtain ⟨L1, C1, hv, hR1, hE1⟩ := hp
      have hE0:Ext (s0.low.length + 1) s L C w s1 L1 C1 w1:=by have:=hI.ext.depth; rw [← this]; exact hE1
      refine seq_sound hcall hnd hck0 hQ rest (j + 1) (ls ++ [v]) _ s1 _ w1 L1 C1 ?_ hev (by simp [hlen]) ⟨by rw [put_size]; exact hI.size,by rw [put_defers']; exact hI.defers,hR1,hI.ext.trans hE0,hI.slots.put hnd hI.size hd hE1 hv⟩ ?_
      · rw [← List.drop_drop, hrest]
        rfl
      · intro k t hkj hdk hnw
        rcases Nat.lt_or_ge k j with hlt | hge
        · have hoj : o.dst ≠ some t := by
            have:=nW_spec hnw (k:=j) (by omega) (by omega)
            simpa [dstOf, ho] using this
          rw [put_other hoj,show (ls ++ [v]).getD k .undef = ls.getD k .undef by simp [List.getD_eq_getElem?_getD,List.getElem?_append_left (show k < ls.length by omega)]]
          exact (hLR k t hlt hdk (nW_of fun m h1 h2=>nW_spec hnw h1 (by omega))).keep hE1
        · obtain rfl : k = j := by omega
          have hot:o.dst = some t:=by simpa [dstOf,ho] using hdk
          rw [hot]
          have hlt:t < N:=by
            unfold ckDst at hd
            rw [hot] at hd
            simp only [Bool.and_eq_true,decide_eq_true_eq] at hd
            exact hd.1
          rw [put_same (by rw [hI.size]; exact hlt),show (ls ++ [v]).getD k .undef = v by simp [List.getD_eq_getElem?_getD,← hlen]]
          exact hv
def isEff : AOp → Bool
  | .lit _ _ _ _ arr fz => arr || fz
  | .alloc .. | .box .. | .store .. | .app .. | .mk .. | .clear .. | .call .. | .callv .. => true
  | _ => false
def isRead : AOp → Bool
  | .load .. | .slice .. | .b2s .. => true
  | _ => false

theorem litParts_pure {ρ : Opd → AV} {sz : Nat} : ∀ (ps : List (Nat × Opd)) (s s' : Store) (l : List (Nat × List AV)), litParts ρ false sz s ps = some (l, s') → s' = s ∧ ∀ s2, litParts ρ false sz s2 ps = some (l, s2)
  | [], s, s', l, h => by
    simp only [litParts,Option.some.injEq,Prod.mk.injEq] at h
    obtain ⟨rfl,rfl⟩:=h
    exact ⟨rfl,fun s2=>rfl⟩
  | (i, x) :: r, s, s', l, h => by
    simp only [litParts,Bool.false_eq_true,if_false,Option.bind_some] at h
    split at h
    · rename_i hc
      obtain ⟨⟨l',s1⟩,hl,h⟩:=bind_some h
      simp only [Option.some.injEq,Prod.mk.injEq] at h
      obtain ⟨rfl,rfl⟩:=h
      obtain ⟨h1,h2⟩:=litParts_pure r s s1 l' hl
      refine ⟨h1,fun s2=>?_⟩
      simp only [litParts,Bool.false_eq_true,if_false,Option.bind_some]
      rw [if_pos hc,h2 s2]
      rfl
    · cases h
theorem lit_pure {e sz : Nat} {z : List AV} {ps : List (Nat × Opd)} {ρ : Opd → AV} {s s' : Store} {v : AV} (h : evOp (.lit e sz z ps false false) ρ s = some (v, s')) : s' = s ∧ ∀ s2, evOp (.lit e sz z ps false false) ρ s2 = some (v, s2) := by
  simp only [evOp] at h
  obtain ⟨⟨l,s1⟩,hl,h⟩:=bind_some h
  obtain ⟨cs,hcs,h⟩:=bind_some h
  simp only [Bool.false_eq_true,if_false] at h
  split at h
  · rename_i hc
    simp only [Option.some.injEq,Prod.mk.injEq] at h
    obtain ⟨rfl,rfl⟩:=h
    obtain ⟨h1,h2⟩:=litParts_pure ps s s1 l hl
    refine ⟨h1,fun s2=>?_⟩
    simp only [evOp,h2 s2,Option.bind_some,hcs,Bool.false_eq_true,if_false]
    rw [if_pos hc]
  · cases h
theorem quiet_store {o : AOp} {ρ : Opd → AV} {s s' : Store} {v : AV} {call : CallT} (hq : isEff o = false) (h : evAct call o ρ s = some (v, s')) : s' = s := by
  by_cases hl:∃ e sz z ps arr fz,o = .lit e sz z ps arr fz
  · obtain ⟨e, sz, z, ps, arr, fz, rfl⟩ := hl
    simp only [isEff,Bool.or_eq_false_iff] at hq
    obtain ⟨rfl,rfl⟩:=hq
    exact (lit_pure h).1
  cases o <;> try (simp only [isEff, Bool.true_eq_false] at hq; done)
  case lit e sz z ps arr fz => exact absurd ⟨e, sz, z, ps, arr, fz, rfl⟩ hl
  all_goals simp only [evAct, evOp] at h
  case mov => simp only [Option.some.injEq, Prod.mk.injEq] at h; exact h.2.symm
  case mkfn => simp only [Option.some.injEq, Prod.mk.injEq] at h; exact h.2.symm
  case ifc => simp only [Option.some.injEq, Prod.mk.injEq] at h; exact h.2.symm
  case load | bin | un | slice | convs | min =>
    obtain ⟨x,_,h⟩:=bind_some h
    simp only [Option.some.injEq,Prod.mk.injEq] at h
    exact h.2.symm
  case b2s =>
    obtain ⟨x,_,h⟩:=bind_some h
    split at h
    · obtain ⟨y, _, h⟩ := bind_some h
      simp only [Option.some.injEq,Prod.mk.injEq] at h
      exact h.2.symm
    · cases h
  case build =>
    obtain ⟨x,_,h⟩:=bind_some h
    obtain ⟨y,_,h⟩:=bind_some h
    simp only [Option.some.injEq,Prod.mk.injEq] at h
    exact h.2.symm
  all_goals
    repeat' (split at h)
    all_goals first
      | (simp only [Option.some.injEq, Prod.mk.injEq] at h; exact h.2.symm)
      | (cases h; done)
      | (obtain ⟨x, _, h⟩ := bind_some h
         simp only [Option.some.injEq,Prod.mk.injEq] at h
         exact h.2.symm)
theorem pure_any {o : AOp} {ρ : Opd → AV} {s s' : Store} {v : AV} {call : CallT} (hq : isEff o = false) (hr : isRead o = false) (h : evAct call o ρ s = some (v, s')) (s2 : Store) : evAct call o ρ s2 = some (v, s2) := by
  by_cases hl:∃ e sz z ps arr fz,o = .lit e sz z ps arr fz
  · obtain ⟨e, sz, z, ps, arr, fz, rfl⟩ := hl
    simp only [isEff,Bool.or_eq_false_iff] at hq
    obtain ⟨rfl,rfl⟩:=hq
    exact (lit_pure h).2 s2
  cases o <;> try (simp only [isEff, isRead, Bool.true_eq_false] at hq hr; done)
  case lit e sz z ps arr fz => exact absurd ⟨e, sz, z, ps, arr, fz, rfl⟩ hl
  all_goals simp only [evAct, evOp] at h ⊢
  case mov => simp only [Option.some.injEq, Prod.mk.injEq] at h; rw [h.1]
  case mkfn => simp only [Option.some.injEq, Prod.mk.injEq] at h; rw [h.1]
  case ifc => simp only [Option.some.injEq, Prod.mk.injEq] at h; rw [h.1]
  case bin | un | convs | min =>
    obtain ⟨x,hx,h⟩:=bind_some h
    simp only [Option.some.injEq,Prod.mk.injEq] at h
    rw [hx,← h.1]
    rfl
  case build =>
    obtain ⟨x,hx,h⟩:=bind_some h
    obtain ⟨y,hy,h⟩:=bind_some h
    simp only [Option.some.injEq,Prod.mk.injEq] at h
    rw [hx]
    simp only [Option.bind_some,hy,h.1]
  all_goals
    repeat' (split at h)
    all_goals first
      | (cases h; done)
      | (simp only [Option.some.injEq, Prod.mk.injEq] at h; simp_all; done)
      | (obtain ⟨x, hx, h⟩ := bind_some h
         simp only [Option.some.injEq,Prod.mk.injEq] at h
         simp_all; done)

theorem quiet_one {o : AO} {ls vs : List AV} {s s' : Store} {v : AV} {call : CallT} (hq : isEff o.op = false) (h : evOne call o ls vs s = some (v, s')) : s' = s := by
  unfold evOne at h
  split at h
  · exact quiet_store hq h
  · split at h
    · split at h
      · exact quiet_store hq h
      · simp only [Option.some.injEq, Prod.mk.injEq] at h; exact h.2.symm
    · simp only [Option.some.injEq, Prod.mk.injEq] at h; exact h.2.symm
    · cases h
theorem pure_one {o : AO} {ls vs : List AV} {s s' : Store} {v : AV} {call : CallT} (hq : isEff o.op = false) (hr : isRead o.op = false) (h : evOne call o ls vs s = some (v, s')) (s2 : Store) : evOne call o ls vs s2 = some (v, s2) := by
  unfold evOne at h ⊢
  split at h
  · exact pure_any hq hr h s2
  · split at h
    · rename_i b hb
      split at h
      · rename_i he
        rw [if_pos he]
        exact pure_any hq hr h s2
      · rename_i he
        rw [if_neg he]
        simp only [Option.some.injEq,Prod.mk.injEq] at h
        rw [h.1]
    · simp only [Option.some.injEq, Prod.mk.injEq] at h
      rw [h.1]
    · cases h

/-! ### the trace, as functions -/
structure Trace (call : CallT) (aops : List AO) (τ : Nat → Tr) (x : Nat → AV) : Prop where
  one : ∀ j o, aops[j]? = some o → evOne call o (τ j).ls (τ j).vs (τ j).s = some (x j, (τ (j + 1)).s) ∧ (τ (j + 1)).ls = (τ j).ls ++ [x j] ∧ (τ (j + 1)).vs = putV o.dv (τ j).vs (x j)

theorem evTr_spec {call : CallT} : ∀ (aops : List AO) (t : Tr) (l : List Tr), evTr call aops t = some l → l.length = aops.length + 1 ∧ l[0]? = some t ∧
    ∀ j o, aops[j]? = some o → ∃ a x s', l[j]? = some a ∧ evOne call o a.ls a.vs a.s = some (x, s') ∧ l[j + 1]? = some ⟨a.ls ++ [x], putV o.dv a.vs x, s'⟩
  | [], t, l, h => by
    simp only [evTr,Option.some.injEq] at h
    subst h
    exact ⟨rfl,rfl,fun j o h=>by simp at h⟩
  | o :: r, t, l, h => by
    simp only [evTr] at h
    obtain ⟨⟨x,s'⟩,hx,h⟩:=bind_some h
    obtain ⟨l',hl,h⟩:=bind_some h
    simp only [Option.some.injEq] at h
    subst h
    obtain ⟨h1,h2,h3⟩:=evTr_spec r _ l' hl
    refine ⟨by simp [h1],rfl,fun j o' ho=>?_⟩
    cases j with
    | zero =>
      simp only [List.getElem?_cons_zero,Option.some.injEq] at ho
      subst ho
      exact ⟨t,x,s',rfl,hx,by simpa using h2⟩
    | succ j =>
      simp only [List.getElem?_cons_succ] at ho
      obtain ⟨a,x',s2,g1,g2,g3⟩:=h3 j o' ho
      exact ⟨a,x',s2,by simpa using g1,g2,by simpa using g3⟩

theorem trace_of {call : CallT} {aops : List AO} {vs : List AV} {s : Store} {l : List Tr} (h : evTr call aops ⟨[], vs, s⟩ = some l) :
    ∃ τ x, Trace call aops τ x ∧ τ 0 = ⟨[], vs, s⟩ ∧ (∀ t, l.getLast? = some t → t = τ aops.length) ∧ (∀ j t, l[j]? = some t → t = τ j) ∧ ∀ j, j < aops.length → x j = (τ (j + 1)).ls.getD j .undef := by
  obtain ⟨h1,h2,h3⟩:=evTr_spec aops _ l h
  let τ : Nat → Tr := fun j => l.getD j ⟨[], vs, s⟩
  have hτ:∀ j t,l[j]? = some t→t = τ j:=fun j t ht=>by simp [τ,List.getD_eq_getElem?_getD,ht]
  have hlen:∀ j,j ≤ aops.length→(τ j).ls.length = j:=by
    intro j
    induction j with
    | zero => intro _; rw [← hτ 0 _ h2]; rfl
    | succ j ih =>
      intro hj
      obtain ⟨a,x,s',g1,_,g3⟩:=h3 j _ (List.getElem?_eq_getElem (show j < aops.length by omega))
      rw [← hτ _ _ g3]
      have:=ih (by omega)
      rw [← hτ _ _ g1] at this
      simp [this]
  refine ⟨τ,fun j=>(τ (j + 1)).ls.getD j .undef,⟨fun j o ho=>?_⟩,(hτ 0 _ h2).symm,fun t ht=>hτ _ _ ?_,hτ,fun _ _=>rfl⟩
  · have hj : j < aops.length := (List.getElem?_eq_some_iff.1 ho).1
    obtain ⟨a,x,s',g1,g2,g3⟩:=h3 j o ho
    have e1:=hτ _ _ g1
    have e3:=hτ _ _ g3
    have hl:=hlen j (by omega)
    rw [← e1] at hl
    have hx:(τ (j + 1)).ls.getD j .undef = x:=by rw [← e3]; simp [List.getD_eq_getElem?_getD,← hl]
    simp only [hx]
    rw [← e1,← e3]
    exact ⟨g2,rfl,rfl⟩
  · rw [List.getLast?_eq_getElem?, h1] at ht
    simpa using ht

theorem evTr_of_evOps {call : CallT} : ∀ (aops : List AO) (ls vs : List AV) (s : Store) (r : List AV × Store), evOps call aops ls vs s = some r →
    ∃ l t, evTr call aops ⟨ls, vs, s⟩ = some l ∧ l.getLast? = some t ∧ t.vs = r.1 ∧ t.s = r.2
  | [], ls, vs, s, r, h => by
    simp only [evOps,Option.some.injEq] at h
    subst h
    exact ⟨_,_,rfl,rfl,rfl,rfl⟩
  | o :: q, ls, vs, s, r, h => by
    simp only [evOps] at h
    obtain ⟨x,hx,h⟩:=bind_some h
    obtain ⟨l,t,h1,h2,h3,h4⟩:=evTr_of_evOps q _ _ _ r h
    refine ⟨⟨ls,vs,s⟩ :: l,t,?_,?_,h3,h4⟩
    · simp only [evTr, hx, Option.bind_some, h1]
    · cases l with
      | nil => cases h2
      | cons a b => simpa using h2

/-! ### what must stand ahead of what -/
def ins (l : List Nat) (x : Nat) : List Nat := if l.contains x then l else x :: l
def uni (l r : List Nat) : List Nat := r.foldl ins l
def anc1 (T : List (List Nat)) (es : List Edge) : List Nat := es.foldl (fun l e => if Region.binds .any e = true then uni (ins l e.on) (T.getD e.on []) else l) []
def ancs : List Oper → List (List Nat) → List (List Nat)
  | [], T => T
  | o :: r, T => ancs r (T ++ [anc1 T o.after.toList])

theorem mem_ins {l : List Nat} {x y : Nat} (h : y ∈ ins l x) : y = x ∨ y ∈ l := by
  unfold ins at h
  split at h
  · exact .inr h
  · simpa using h
theorem mem_uni {r : List Nat} : ∀ {l : List Nat} {y : Nat}, y ∈ uni l r → y ∈ l ∨ y ∈ r := by
  induction r with
  | nil => intro l y h; exact .inl h
  | cons x r ih =>
    intro l y h
    rcases ih (l := ins l x) h with h1 | h1
    · rcases mem_ins h1 with h2 | h2
      · exact .inr (by simp [h2])
      · exact .inl h2
    · exact .inr (by simp [h1])
theorem mem_anc1 {T : List (List Nat)} {es : List Edge} {y : Nat} (h : y ∈ anc1 T es) : ∃ e ∈ es, Region.binds .any e = true ∧ (y = e.on ∨ y ∈ T.getD e.on []) := by
  have key:∀ (es:List Edge) (l:List Nat),y ∈ es.foldl (fun l e=>if Region.binds .any e = true then uni (ins l e.on) (T.getD e.on []) else l) l →
      y ∈ l ∨ ∃ e ∈ es, Region.binds .any e = true ∧ (y = e.on ∨ y ∈ T.getD e.on []) := by
    intro es
    induction es with
    | nil => intro l h; exact .inl h
    | cons e es ih =>
      intro l h
      simp only [List.foldl_cons] at h
      rcases ih _ h with h1 | ⟨e', h1, h2⟩
      · split at h1
        · rename_i hb
          rcases mem_uni h1 with h2 | h2
          · rcases mem_ins h2 with h3 | h3
            · exact .inr ⟨e, by simp, hb, .inl h3⟩
            · exact .inl h3
          · exact .inr ⟨e, by simp, hb, .inr h2⟩
        · exact .inl h1
      · exact .inr ⟨e', by simp [h1], h2⟩
  rcases key es [] h with h1 | h1
  · cases h1
  · exact h1

def Shut (ops : Array Oper) (S : Nat → Prop) : Prop := ∀ i o, ops[i]? = some o → S i → ∀ e ∈ o.after, Region.binds .any e = true → S e.on
def Good (ops : Array Oper) (T : List (List Nat)) : Prop := ∀ i o, i < T.length → ops[i]? = some o → ∀ S, Shut ops S → (∀ e ∈ o.after, Region.binds .any e = true → S e.on) → ∀ y ∈ T.getD i [], S y

theorem ancs_good {ops : Array Oper} : ∀ (r : List Oper) (T : List (List Nat)), ops.toList.drop T.length = r → Good ops T → T.length ≤ ops.size → Good ops (ancs r T) ∧ (ancs r T).length = ops.size
  | [], T, hr, hg, hle => by
    refine ⟨hg,?_⟩
    have:=congrArg List.length hr
    simp at this
    simp only [ancs]
    omega
  | o :: r, T, hr, hg, hle => by
    have ho:ops[T.length]? = some o:=by
      have:(ops.toList.drop T.length)[0]? = some o:=by rw [hr]; rfl
      rw [List.getElem?_drop,Nat.add_zero] at this
      simpa using this
    have hlt:T.length < ops.size:=(Array.getElem?_eq_some_iff.1 ho).1
    simp only [ancs]
    refine ancs_good r (T ++ [anc1 T o.after.toList]) ?_ ?_ (by simp; omega)
    · rw [List.length_append, ← List.drop_drop, hr]
      rfl
    · intro i o' hi ho' S hS hd y hy
      rcases Nat.lt_or_ge i T.length with h1 | h1
      · rw [List.getD_eq_getElem?_getD, List.getElem?_append_left h1, ← List.getD_eq_getElem?_getD] at hy
        exact hg i o' h1 ho' S hS hd y hy
      · simp at hi
        obtain rfl:i = T.length:=by omega
        rw [ho] at ho'
        obtain rfl:=Option.some.inj ho'
        have hy':y ∈ anc1 T o.after.toList:=by simpa [List.getD_eq_getElem?_getD] using hy
        obtain ⟨e,he,hb,h2⟩:=mem_anc1 hy'
        have hSe:=hd e (by simpa using he) hb
        rcases h2 with rfl | h2
        · exact hSe
        · have h3 : e.on < T.length := by
            rcases Nat.lt_or_ge e.on T.length with h | h
            · exact h
            · rw [List.getD_eq_getElem?_getD, List.getElem?_eq_none h] at h2; cases h2
          have h4:e.on < ops.size:=by omega
          exact hg e.on ops[e.on] h3 (Array.getElem?_eq_getElem h4) S hS (hS e.on _ (Array.getElem?_eq_getElem h4) hSe) y h2
theorem ancs_ok (ops : Array Oper) : Good ops (ancs ops.toList []) ∧ (ancs ops.toList []).length = ops.size :=
  ancs_good ops.toList [] rfl (fun i o h => by simp at h) (Nat.zero_le _)
end Go.Proofs.YtkjonfojileipaaGreatDoor.Ae
