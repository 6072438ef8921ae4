/- An evaluator over abstract values: strings and immutable slices as lists, pointers and arrays as objects of a store; its syntax, its evaluation with fuel, and the answer for whatever fuel. -/
import Derived.Calls
set_option linter.unusedSimpArgs false
set_option linter.unusedVariables false
namespace Go.Proofs.YthogcanomihelaaDoor.Ae
open Go

inductive AV where
  | undef
  | bool (b : Bool)
  | int (k : IntKind) (n : Int)
  | str (s : ByteArray)
  | nilp
  | ptr (d i off : Nat)
  | aptr (d i off ver : Nat)
  | eptr (cs : List AV)
  | imm (full : Bool) (n : Nat) (cs : List AV)
  | slr (d i off n ver : Nat) (full : Bool)
  | agg (cs : List AV)
  | tup (vs : List AV)
  | fn (f : Nat) (first caps : List AV)
  | nilfn
  | ifc (t : Nat) (v : AV)
  | nilifc
  | anyb
  | unw
  deriving Inhabited

def AV.isCell : AV → Bool
  | .undef | .unw | .agg _ | .tup _ => false
  | _ => true
def AV.cells : AV → List AV
  | .agg cs => cs
  | v => [v]

mutual
/-- All objects that a value names lie at a depth below D; what immutable slices hold names none. -/
def AV.lowB (D : Nat) : AV → Bool
  | .ptr d _ _ | .aptr d _ _ _ | .slr d _ _ _ _ _ => decide (d < D)
  | .agg cs => AV.lowL D cs
  | .tup vs => AV.lowL D vs
  | .fn _ a b => AV.lowL D a && AV.lowL D b
  | .ifc _ v => AV.lowB D v
  | _ => true
def AV.lowL (D : Nat) : List AV → Bool
  | [] => true
  | v :: r => AV.lowB D v && AV.lowL D r
end

mutual
/-- The same value, told apart by looking. -/
def AV.same : AV → AV → Bool
  | .undef, .undef => true
  | .bool a, .bool b => a == b
  | .int k n, .int k' m => decide (k = k') && decide (n = m)
  | .str a, .str b => decide (a = b)
  | .nilp, .nilp => true
  | .ptr d i o, .ptr d' i' o' => d == d' && i == i' && o == o'
  | .aptr d i o v, .aptr d' i' o' v' => d == d' && i == i' && o == o' && v == v'
  | .eptr a, .eptr b => AV.sameL a b
  | .imm f n a, .imm g m b => f == g && n == m && AV.sameL a b
  | .slr d i o n v f, .slr d' i' o' n' v' f' => d == d' && i == i' && o == o' && n == n' && v == v' && f == f'
  | .agg a, .agg b => AV.sameL a b
  | .tup a, .tup b => AV.sameL a b
  | .fn f a b, .fn g c d => f == g && AV.sameL a c && AV.sameL b d
  | .nilfn, .nilfn => true
  | .ifc t a, .ifc u b => t == u && AV.same a b
  | .nilifc, .nilifc => true
  | .anyb, .anyb => true
  | .unw, .unw => true
  | _, _ => false
def AV.sameL : List AV → List AV → Bool
  | [], [] => true
  | a :: r, b :: q => AV.same a b && AV.sameL r q
  | _, _ => false
end
mutual
theorem same_eq : ∀ {a b : AV}, AV.same a b = true → a = b
  | .undef, b, h => by cases b <;> simp_all [AV.same]
  | .bool _, b, h => by cases b <;> simp_all [AV.same]
  | .int _ _, b, h => by cases b <;> simp_all [AV.same]
  | .str _, b, h => by cases b <;> simp_all [AV.same]
  | .nilp, b, h => by cases b <;> simp_all [AV.same]
  | .ptr _ _ _, b, h => by cases b <;> simp_all [AV.same]
  | .aptr _ _ _ _, b, h => by cases b <;> simp_all [AV.same]
  | .eptr a, b, h => by
    cases b <;> simp only [AV.same, Bool.and_eq_true, reduceCtorEq] at h
    rw [sameL_eq h]
  | .imm _ _ a, b, h => by
    cases b <;> simp only [AV.same, Bool.and_eq_true, beq_iff_eq, reduceCtorEq, Bool.false_eq_true] at h
    rw [h.1.1, h.1.2, sameL_eq h.2]
  | .slr _ _ _ _ _ _, b, h => by cases b <;> simp_all [AV.same]
  | .agg a, b, h => by
    cases b <;> simp only [AV.same, Bool.and_eq_true, reduceCtorEq, Bool.false_eq_true] at h
    rw [sameL_eq h]
  | .tup a, b, h => by
    cases b <;> simp only [AV.same, Bool.and_eq_true, reduceCtorEq, Bool.false_eq_true] at h
    rw [sameL_eq h]
  | .fn _ a c, b, h => by
    cases b <;> simp only [AV.same, Bool.and_eq_true, beq_iff_eq, reduceCtorEq, Bool.false_eq_true] at h
    rw [h.1.1, sameL_eq h.1.2, sameL_eq h.2]
  | .nilfn, b, h => by cases b <;> simp_all [AV.same]
  | .ifc _ a, b, h => by
    cases b <;> simp only [AV.same, Bool.and_eq_true, beq_iff_eq, reduceCtorEq, Bool.false_eq_true] at h
    rw [h.1, same_eq h.2]
  | .nilifc, b, h => by cases b <;> simp_all [AV.same]
  | .anyb, b, h => by cases b <;> simp_all [AV.same]
  | .unw, b, h => by cases b <;> simp_all [AV.same]
theorem sameL_eq : ∀ {a b : List AV}, AV.sameL a b = true → a = b
  | [], b, h => by cases b <;> simp_all [AV.sameL]
  | x :: r, b, h => by
    cases b <;> simp only [AV.sameL, Bool.and_eq_true, reduceCtorEq, Bool.false_eq_true] at h
    rw [same_eq h.1, sameL_eq h.2]
end
mutual
theorem same_self : ∀ a : AV, AV.same a a = true
  | .undef | .bool _ | .int _ _ | .str _ | .nilp | .ptr _ _ _ | .aptr _ _ _ _ | .slr _ _ _ _ _ _ | .nilfn | .nilifc | .anyb | .unw => by simp [AV.same]
  | .eptr a | .agg a | .tup a => by simp only [AV.same]; exact sameL_self a
  | .imm _ _ a => by simp only [AV.same, sameL_self a, beq_self_eq_true, Bool.and_self]
  | .fn _ a c => by simp only [AV.same, sameL_self a, sameL_self c, beq_self_eq_true, Bool.and_self]
  | .ifc _ a => by simp only [AV.same, same_self a, beq_self_eq_true, Bool.and_self]
theorem sameL_self : ∀ a : List AV, AV.sameL a a = true
  | [] => rfl
  | x :: r => by simp only [AV.sameL, same_self x, sameL_self r, Bool.and_self]
end

def cellsOk (D : Nat) (cs : List AV) : Bool := cs.all fun v => v.isCell && v.lowB D

inductive Obj where
  | box (t : Nat) (cs : List AV)
  | arr (e sz : Nat) (cs : List AV) (ver pr : Nat)
  deriving Inhabited

structure Store where
  low : List (List Obj)
  top : List Obj

namespace Store
def get (s : Store) (d i : Nat) : Option Obj := if d = s.low.length then s.top[i]? else (s.low[d]?).bind (·[i]?)
def set (s : Store) (d i : Nat) (o : Obj) : Store :=
  if d = s.low.length then { s with top := s.top.set i o } else { s with low := s.low.modify d (·.set i o) }
def push (s : Store) : Store := ⟨s.low ++ [s.top], []⟩
def pop (s : Store) : Store := ⟨s.low.dropLast, s.low.getLastD []⟩
def new (s : Store) (o : Obj) : Store := { s with top := s.top ++ [o] }
end Store

/-- A value that lies in an array of the store becomes an immutable one. -/
def frz1 (s : Store) : AV → Option (AV × Store)
  | .slr d i off n ver _ =>
    match s.get d i with
    | some (.arr e sz cs ver' pr) =>
      if ver = ver' ∧ AV.lowL 0 ((cs.drop off).take (n * sz)) = true ∧ off + n * sz ≤ cs.length then
        some (.imm false n ((cs.drop off).take (n * sz)), s.set d i (.arr e sz cs ver' (max pr (off + n * sz))))
      else none
    | _ => none
  | .imm _ n cs => some (.imm false n cs, s)
  | v => some (v, s)
def frzL (s : Store) : List AV → Option (List AV × Store)
  | [] => some ([], s)
  | v :: r => (frz1 s v).bind fun x => (frzL x.2 r).bind fun y => some (x.1 :: y.1, y.2)
def frz (s : Store) : AV → Option (AV × Store)
  | .agg cs => (frzL s cs).bind fun x => some (.agg x.1, x.2)
  | v => frz1 s v
def frzs (s : Store) : List AV → Option (List AV × Store)
  | [] => some ([], s)
  | v :: r => (frz s v).bind fun x => (frzs x.2 r).bind fun y => some (x.1 :: y.1, y.2)
def frzR (s : Store) : AV → Option (AV × Store)
  | .tup vs => (frzs s vs).bind fun x => some (.tup x.1, x.2)
  | v => frz s v

/-! ### operations on plain values -/
def bitsI (op : BinOp) (k : IntKind) (x y : Int) : Int :=
  let a := BitVec.ofInt k.bits x
  let b := BitVec.ofInt k.bits y
  match op with
  | .and => k.wrap (a &&& b).toNat
  | .or => k.wrap (a ||| b).toNat
  | .xor => k.wrap (a ^^^ b).toNat
  | _ => k.wrap (a &&& ~~~b).toNat
def binI (op : BinOp) (k : IntKind) (x y : Int) : Option AV :=
  match op with
  | .add => some (.int k (k.wrap (x + y)))
  | .sub => some (.int k (k.wrap (x - y)))
  | .mul => some (.int k (k.wrap (x * y)))
  | .quo => if y = 0 then none else some (.int k (k.wrap (x.tdiv y)))
  | .rem => if y = 0 then none else some (.int k (x.tmod y))
  | .and => some (.int k (bitsI .and k x y))
  | .or => some (.int k (bitsI .or k x y))
  | .xor => some (.int k (bitsI .xor k x y))
  | .andNot => some (.int k (bitsI .andNot k x y))
  | .eql => some (.bool (x == y))
  | .neq => some (.bool (x != y))
  | .lss => some (.bool (decide (x < y)))
  | .leq => some (.bool (decide (x ≤ y)))
  | .gtr => some (.bool (decide (x > y)))
  | .geq => some (.bool (decide (x ≥ y)))
  | _ => none
def binS (op : BinOp) (x y : ByteArray) : Option AV :=
  match op with
  | .add => if ((x.size + y.size : Nat) : Int) > IntKind.i64.max then none else some (.str (x ++ y))
  | .eql => some (.bool (x.toList == y.toList))
  | .neq => some (.bool (!(x.toList == y.toList)))
  | _ => none
def binV (op : BinOp) (x y : AV) : Option AV :=
  match x, y with
  | .int k a, .int k' b =>
    match op with
    | .shl => if b < 0 then none else some (.int k (k.wrap (a * 2 ^ min b.toNat k.bits)))
    | .shr => if b < 0 then none else some (.int k (a.fdiv (2 ^ min b.toNat k.bits)))
    | _ => if k = k' then binI op k a b else none
  | .str a, .str b => binS op a b
  | _, _ => none
def unV (op : UnOp) (x : AV) : Option AV :=
  match op, x with
  | .neg, .int k n => some (.int k (k.wrap (0 - n)))
  | .not, .bool b => some (.bool (!b))
  | _, _ => none

def fillL (cs : List AV) : List (Nat × List AV) → Option (List AV)
  | [] => some cs
  | (o, p) :: r => if o + p.length ≤ cs.length then fillL (cs.take o ++ p ++ cs.drop (o + p.length)) r else none

inductive Opd where
  | l (k : Nat)
  | v (i : Nat)
  | c (x : AV)

inductive AOp where
  | mov (x : Opd)
  | pick (c a b : Opd)
  | alloc (t : Nat) (z : List AV)
  | box (t n : Nat) (x : Opd)
  | build (z : List AV) (ps : List (Nat × Nat × Opd))
  | lit (e sz : Nat) (z : List AV) (ps : List (Nat × Opd)) (arr fz : Bool)
  | load (n : Option Nat) (p : Opd)
  | store (n : Nat) (p x : Opd)
  | nilck (p : Opd)
  | bin (op : BinOp) (x y : Opd)
  | un (op : UnOp) (x : Opd)
  | conv (k : IntKind) (x : Opd)
  | slice (sz : Nat) (x : Opd) (lo hi mx : Option Opd)
  | fptr (off : Nat) (p : Opd)
  | fld (off : Nat) (n : Option Nat) (x : Opd)
  | iptr (sz : Nat) (x i : Opd)
  | sidx (x i : Opd)
  | len (st : Bool) (x : Opd)
  | app (e sz bytes : Nat) (x y : Opd)
  | mk (e sz bytes : Nat) (z : List AV) (n c : Opd)
  | clear (sz : Nat) (z : List AV) (x : Opd)
  | ext (x : Opd) (i : Nat)
  | mkfn (f : Nat) (first caps : List Opd)
  | ifc (t : Nat) (x : Opd)
  | beq (neg : Bool) (x y : Opd)
  | b2s (x : Opd)
  | convs (x : Opd)
  | min (x y : Opd)
  | isnil (k : Nat) (neg : Bool) (x : Opd)
  | call (f : Nat) (args : List Opd)
  | callv (f : Opd) (args : List Opd)

structure AO where
  op : AOp
  dv : Option Nat
  g : Option (Nat × Bool)

inductive Stm where
  | reg (ops : List AO) (chk : List (Nat × Nat))
  | seq (a b : Stm)
  | cond (c : Opd) (a b : Stm)
  | alt (r : Stm) (c : Opd) (a b rest : Stm)
  | block (id : Nat) (b : Stm)
  | loop (b : Stm)
  | exit (id : Nat)
  | ret
  | skip

/-- A result: a slot, or what lies in the cell that a slot names. -/
inductive RV where
  | t (i : Nat)
  | cl (n : Option Nat) (i : Nat)

structure FC where
  np : Nat
  nv : Nat
  body : Stm
  res : List RV
  ref : Bool
  inl : Bool

def newBox (s : Store) (t : Nat) (cs : List AV) : Option (AV × Store) :=
  if cellsOk (s.low.length + 1) cs = true then some (.ptr s.low.length s.top.length 0, s.new (.box t cs)) else none
def newArr (s : Store) (e sz : Nat) (n : Nat) (cs : List AV) : Option (AV × Store) :=
  if cellsOk (s.low.length + 1) cs = true ∧ cs.length = n * sz then some (.slr s.low.length s.top.length 0 n 0 false, s.new (.arr e sz cs 0 0)) else none

def loadV (s : Store) (n : Option Nat) (p : AV) : Option AV :=
  match p with
  | .ptr d i off =>
    match s.get d i, n with
    | some (.box _ cs), none => cs[off]?
    | some (.box _ cs), some n => if off + n ≤ cs.length then some (.agg ((cs.drop off).take n)) else none
    | _, _ => none
  | .aptr d i off ver =>
    match s.get d i, n with
    | some (.arr _ _ cs ver' _), none => if ver = ver' then cs[off]? else none
    | some (.arr _ _ cs ver' _), some n => if ver = ver' ∧ off + n ≤ cs.length then some (.agg ((cs.drop off).take n)) else none
    | _, _ => none
  | .eptr cs =>
    match n with
    | none => cs[0]?
    | some n => if n ≤ cs.length then some (.agg (cs.take n)) else none
  | _ => none

def storeV (s : Store) (n : Nat) (p x : AV) : Option Store :=
  let ys := x.cells
  match p with
  | .ptr d i off =>
    match s.get d i with
    | some (.box t cs) =>
      if cellsOk (d + 1) ys = true ∧ ys.length = n ∧ off + n ≤ cs.length then some (s.set d i (.box t (cs.take off ++ ys ++ cs.drop (off + n)))) else none
    | _ => none
  | .aptr d i off ver =>
    match s.get d i with
    | some (.arr e sz cs ver' pr) =>
      if cellsOk (d + 1) ys = true ∧ ys.length = n ∧ off + n ≤ cs.length ∧ ver = ver' ∧ pr ≤ off then some (s.set d i (.arr e sz (cs.take off ++ ys ++ cs.drop (off + n)) ver' pr)) else none
    | _ => none
  | _ => none

/-- How many elements, and the cells, of a slice that is read. -/
def elems (s : Store) (x : AV) : Option (Nat × List AV) :=
  match x with
  | .imm _ n cs => some (n, cs)
  | .slr d i off n ver _ =>
    match s.get d i with
    | some (.arr _ sz cs ver' _) => if ver = ver' ∧ off + n * sz ≤ cs.length then some (n, (cs.drop off).take (n * sz)) else none
    | _ => none
  | _ => none

def optInt : Option AV → Int → Option Int
  | none, d => some d
  | some (.int _ n), _ => some n
  | _, _ => none

def sliceV (st : Store) (sz : Nat) (x : AV) (lo hi mx : Option AV) : Option AV :=
  match x with
  | .imm full n cs =>
    (optInt lo 0).bind fun l => (optInt hi n).bind fun h =>
      match mx with
      | none =>
        if 0 ≤ l ∧ l ≤ h ∧ h ≤ n ∧ sz ≠ 0 then some (.imm (full && decide (h = n)) (h - l).toNat ((cs.drop (l.toNat * sz)).take ((h - l).toNat * sz))) else none
      | some (.int _ m) =>
        if 0 ≤ l ∧ l ≤ h ∧ h ≤ n ∧ m = h ∧ hi.isSome = true ∧ sz ≠ 0 then some (.imm (full || decide (h = l)) (h - l).toNat ((cs.drop (l.toNat * sz)).take ((h - l).toNat * sz))) else none
      | _ => none
  | .slr d i off n ver full =>
    (optInt lo 0).bind fun l => (optInt hi n).bind fun h =>
      match st.get d i with
      | some (.arr _ sz' _ _ _) =>
        match mx with
        | none =>
          if 0 ≤ l ∧ l ≤ h ∧ h ≤ n ∧ (full = true → h = n) ∧ sz' = sz ∧ sz ≠ 0 then some (.slr d i (off + l.toNat * sz) (h - l).toNat ver full) else none
        | some (.int _ m) =>
          if 0 ≤ l ∧ l ≤ h ∧ h ≤ n ∧ m = h ∧ hi.isSome = true ∧ sz' = sz ∧ sz ≠ 0 then some (.slr d i (off + l.toNat * sz) (h - l).toNat ver true) else none
        | _ => none
      | _ => none
  | .str s =>
    (optInt lo 0).bind fun l => (optInt hi s.size).bind fun h =>
      match mx with
      | none => if 0 ≤ l ∧ l ≤ h ∧ h ≤ s.size ∧ sz = 0 then some (.str (s.extract l.toNat h.toNat)) else none
      | _ => none
  | _ => none

def strCells (s : ByteArray) : List AV := s.data.toList.map fun b => .int .u8 b.toNat

def srcOf (s : Store) (y : AV) : Option (Nat × List AV) :=
  match y with
  | .str t => some (t.size, strCells t)
  | y => elems s y
def appTo (s : Store) (e sz bytes : Nat) (x : AV) (m : Nat) (ys : List AV) : Option (AV × Store) :=
    match x with
    | .imm true n cs =>
      if (n + m) * bytes ≤ 140737488355328 ∧ cellsOk (s.low.length + 1) ys = true ∧ cs.length = n * sz ∧ ys.length = m * sz then
        if m = 0 then some (x, s) else newArr s e sz (n + m) (cs ++ ys)
      else none
    | .slr d i off n ver full =>
      match s.get d i with
      | some (.arr e' sz' cs ver' pr) =>
        if (n + m) * bytes ≤ 140737488355328 ∧ ver = ver' ∧ off + n * sz ≤ cs.length ∧ e' = e ∧ sz' = sz ∧ ys.length = m * sz then
          if full = true then
            if m = 0 then some (x, s) else
              if cellsOk (s.low.length + 1) ys = true then newArr s e sz (n + m) ((cs.drop off).take (n * sz) ++ ys) else none
          else if cellsOk (d + 1) ys = true ∧ pr ≤ off + n * sz then
            some (.slr d i 0 (n + m) (ver + 1) false, s.set d i (.arr e sz ((cs.drop off).take (n * sz) ++ ys) (ver + 1) (pr - off)))
          else none
        else none
      | _ => none
    | _ => none
def appV (s : Store) (e sz bytes : Nat) (x y : AV) : Option (AV × Store) := (srcOf s y).bind fun q => appTo s e sz bytes x q.1 q.2

def toBytes : List AV → ByteArray → Option ByteArray
  | [], b => some b
  | .int .u8 n :: r, b => toBytes r (b.push (UInt8.ofNat n.toNat))
  | _, _ => none

def repL (n : Nat) (z : List AV) : List AV :=
  match n with
  | 0 => []
  | n + 1 => z ++ repL n z

def mkV (s : Store) (e sz bytes : Nat) (z : List AV) (n c : AV) : Option (AV × Store) :=
  match n, c with
  | .int _ n, .int _ c => if 0 ≤ n ∧ n = c ∧ n * bytes ≤ 140737488355328 ∧ z.length = sz then newArr s e sz n.toNat (repL n.toNat z) else none
  | _, _ => none

def clearV (s : Store) (sz : Nat) (z : List AV) (x : AV) : Option Store :=
  match x with
  | .slr d i off n ver _ =>
    match s.get d i with
    | some (.arr e sz' cs ver' pr) =>
      if cellsOk 0 z = true ∧ z.length = sz ∧ sz' = sz ∧ off + n * sz ≤ cs.length ∧ ver = ver' ∧ pr ≤ off then
        some (s.set d i (.arr e sz' (cs.take off ++ repL n z ++ cs.drop (off + n * sz)) ver' pr)) else none
    | _ => none
  | .imm _ 0 _ => some s
  | _ => none

def partsOf (ρ : Opd → AV) : List (Nat × Nat × Opd) → Option (List (Nat × List AV))
  | [] => some []
  | (o, n, x) :: r => if (ρ x).cells.length = n ∧ (ρ x).cells.all AV.isCell = true then (partsOf ρ r).bind fun l => some ((o, (ρ x).cells) :: l) else none
def litParts (ρ : Opd → AV) (fz : Bool) (sz : Nat) (s : Store) : List (Nat × Opd) → Option (List (Nat × List AV) × Store)
  | [] => some ([], s)
  | (i, x) :: r =>
    ((if fz then frz s (ρ x) else some (ρ x, s)) : Option (AV × Store)).bind fun y =>
      if y.1.cells.length = sz ∧ y.1.cells.all AV.isCell = true then (litParts ρ fz sz y.2 r).bind fun l => some ((i * sz, y.1.cells) :: l.1, l.2) else none

/-- A literal of bytes, told to be one. -/
def convsV : AV → Option AV
  | .imm true n (c :: cs) => if 0 < n then some (.imm true n (c :: cs)) else none
  | _ => none
def minV : AV → AV → Option AV
  | .int k a, .int k' b => if k = k' then some (.int k (if b < a then b else a)) else none
  | _, _ => none
/-- One operation that is no call. -/
def evOp (o : AOp) (ρ : Opd → AV) (s : Store) : Option (AV × Store) :=
  match o with
  | .mov x => some (ρ x, s)
  | .pick c a b => match ρ c with | .bool t => some (if t = true then ρ a else ρ b, s) | _ => none
  | .alloc t z => newBox s t z
  | .box t n x => if (ρ x).cells.length = n then newBox s t (ρ x).cells else none
  | .build z ps => (partsOf ρ ps).bind fun l => (fillL z l).bind fun cs => some (.agg cs, s)
  | .lit e sz z ps arr fz =>
    (litParts ρ fz sz s ps).bind fun l => (fillL (repL ps.length z) l.1).bind fun cs =>
      if arr then newArr l.2 e sz ps.length cs
      else if cellsOk 0 cs = true ∧ cs.length = ps.length * sz then some (.imm true ps.length cs, l.2) else none
  | .load n p => (loadV s n (ρ p)).bind fun v => some (v, s)
  | .store n p x => (storeV s n (ρ p) (ρ x)).bind fun s' => some (.undef, s')
  | .nilck p => match ρ p with | .ptr .. | .aptr .. | .eptr .. => some (ρ p, s) | _ => none
  | .bin op x y => (binV op (ρ x) (ρ y)).bind fun v => some (v, s)
  | .un op x => (unV op (ρ x)).bind fun v => some (v, s)
  | .conv k x => match ρ x with | .int _ n => some (.int k (k.wrap n), s) | _ => none
  | .slice sz x lo hi mx => (sliceV s sz (ρ x) (lo.map ρ) (hi.map ρ) (mx.map ρ)).bind fun v => some (v, s)
  | .fptr off p =>
    match ρ p with
    | .ptr d i o => some (.ptr d i (o + off), s)
    | .aptr d i o ver => some (.aptr d i (o + off) ver, s)
    | .eptr cs => some (.eptr (cs.drop off), s)
    | _ => none
  | .fld off n x =>
    match ρ x, n with
    | .agg cs, none => (cs[off]?).bind fun v => some (v, s)
    | .agg cs, some n => if off + n ≤ cs.length then some (.agg ((cs.drop off).take n), s) else none
    | _, _ => none
  | .iptr sz x i =>
    match ρ x, ρ i with
    | .imm _ n cs, .int _ k => if 0 ≤ k ∧ k < n then some (.eptr (cs.drop (k.toNat * sz)), s) else none
    | .slr d i off n ver _, .int _ k => if 0 ≤ k ∧ k < n then some (.aptr d i (off + k.toNat * sz) ver, s) else none
    | _, _ => none
  | .sidx x i =>
    match ρ x, ρ i with
    | .str t, .int _ k => if 0 ≤ k then match t.data[k.toNat]? with | some b => some (.int .u8 b.toNat, s) | none => none else none
    | _, _ => none
  | .len st x =>
    match st, ρ x with
    | false, .imm _ n _ => some (.int .i64 n, s)
    | false, .slr _ _ _ n _ _ => some (.int .i64 n, s)
    | true, .str t => some (.int .i64 t.size, s)
    | _, _ => none
  | .app e sz bytes x y => appV s e sz bytes (ρ x) (ρ y)
  | .mk e sz bytes z n c => mkV s e sz bytes z (ρ n) (ρ c)
  | .clear sz z x => (clearV s sz z (ρ x)).bind fun s' => some (.undef, s')
  | .ext x i => match ρ x with | .tup vs => (vs[i]?).bind fun v => some (v, s) | _ => none
  | .mkfn f first caps => some (.fn f (first.map ρ) (caps.map ρ), s)
  | .ifc t x => some (.ifc t (ρ x), s)
  | .beq neg x y => match ρ x, ρ y with | .bool a, .bool b => some (.bool (if neg then !(a == b) else a == b), s) | _, _ => none
  | .isnil k neg x =>
    match k, ρ x with
    | 0, .imm _ n _ => some (if n = 0 then .anyb else .bool neg, s)
    | 0, .slr _ _ _ n _ _ => some (if n = 0 then .anyb else .bool neg, s)
    | 1, .nilp => some (.bool (!neg), s)
    | 1, .ptr .. => some (.bool neg, s)
    | 1, .aptr .. => some (.bool neg, s)
    | 1, .eptr .. => some (.bool neg, s)
    | 2, .nilfn => some (.bool (!neg), s)
    | 2, .fn .. => some (.bool neg, s)
    | 3, .nilifc => some (.bool (!neg), s)
    | 3, .ifc .. => some (.bool neg, s)
    | _, _ => none
  | .b2s x => (elems s (ρ x)).bind fun q => if q.1 = q.2.length then (toBytes q.2 .empty).bind fun b => some (.str b, s) else none
  | .convs x => (convsV (ρ x)).bind fun v => some (v, s)
  | .min x y => (minV (ρ x) (ρ y)).bind fun v => some (v, s)
  | _ => none

abbrev CallT := Nat → List AV → Store → Option (AV × Store)

def evAct (call : CallT) (o : AOp) (ρ : Opd → AV) (s : Store) : Option (AV × Store) :=
  match o with
  | .call f args => call f (args.map ρ) s
  | .callv g args => match ρ g with | .fn f first caps => call f (first ++ args.map ρ ++ caps) s | _ => none
  | o => evOp o ρ s

def rd (ls vs : List AV) : Opd → AV
  | .l k => ls.getD k .undef
  | .v i => vs.getD i .undef
  | .c x => x

def evOne (call : CallT) (o : AO) (ls vs : List AV) (s : Store) : Option (AV × Store) :=
  match o.g with
  | none => evAct call o.op (rd ls vs) s
  | some (j, want) =>
    match ls.getD j .undef with
    | .bool b => if b = want then evAct call o.op (rd ls vs) s else some (.unw, s)
    | .unw => some (.unw, s)
    | _ => none

def putV (dv : Option Nat) (vs : List AV) (x : AV) : List AV :=
  match dv with
  | some i => vs.set i x
  | none => vs

def evOps (call : CallT) : List AO → List AV → List AV → Store → Option (List AV × Store)
  | [], _, vs, s => some (vs, s)
  | o :: r, ls, vs, s => (evOne call o ls vs s).bind fun x => evOps call r (ls ++ [x.1]) (putV o.dv vs x.1) x.2

structure St where
  vs : List AV
  s : Store
inductive Ex where
  | nor
  | exit (id : Nat)
  | ret
  deriving DecidableEq

/-- What holds before each operation, and at the end. -/
structure Tr where
  ls : List AV
  vs : List AV
  s : Store
def evTr (call : CallT) : List AO → Tr → Option (List Tr)
  | [], t => some [t]
  | o :: r, t => (evOne call o t.ls t.vs t.s).bind fun x => (evTr call r ⟨t.ls ++ [x.1], putV o.dv t.vs x.1, x.2⟩).bind fun l => some (t :: l)
def noCall : CallT := fun _ _ _ => none
/-- Operation i, at the store that holds before operation p, gives what it gave. -/
def chkOne (ops : List AO) (l : List Tr) (c : Nat × Nat) : Bool :=
  match ops[c.1]?, l[c.1]?, l[c.1 + 1]?, l[c.2]? with
  | some o, some t, some t', some u => match evOne noCall o t.ls t.vs u.s with | some x => AV.same x.1 (t'.ls.getD c.1 .undef) | none => false
  | _, _, _, _ => false
def evReg (call : CallT) (ops : List AO) (chk : List (Nat × Nat)) (st : St) : Option (Ex × St) :=
  match chk with
  | [] => (evOps call ops [] st.vs st.s).bind fun x => some (.nor, ⟨x.1, x.2⟩)
  | chk => (evTr call ops ⟨[], st.vs, st.s⟩).bind fun l => if chk.all (chkOne ops l) = true then (l.getLast?).bind fun t => some (.nor, ⟨t.vs, t.s⟩) else none

def Obj.same : Obj → Obj → Bool
  | .box t a, .box u b => t == u && AV.sameL a b
  | .arr e z a v p, .arr e' z' a' v' p' => e == e' && z == z' && AV.sameL a a' && v == v' && p == p'
  | _, _ => false
def sameBy {α : Type} (f : α → α → Bool) : List α → List α → Bool
  | [], [] => true
  | a :: r, b :: q => f a b && sameBy f r q
  | _, _ => false
def Store.same (a b : Store) : Bool := sameBy (sameBy Obj.same) a.low b.low && sameBy Obj.same a.top b.top
theorem Obj.same_eq {a b : Obj} (h : Obj.same a b = true) : a = b := by
  cases a <;> cases b <;> simp only [Obj.same, Bool.and_eq_true, beq_iff_eq, Bool.false_eq_true] at h
  · rw [h.1, sameL_eq h.2]
  · rw [h.1.1.1.1, h.1.1.1.2, sameL_eq h.1.1.2, h.1.2, h.2]
theorem sameBy_eq {α : Type} {f : α → α → Bool} (hf : ∀ a b, f a b = true → a = b) : ∀ {l r : List α}, sameBy f l r = true → l = r
  | [], [], _ => rfl
  | [], _ :: _, h => by simp [sameBy] at h
  | _ :: _, [], h => by simp [sameBy] at h
  | a :: l, b :: r, h => by
    simp only [sameBy, Bool.and_eq_true] at h
    rw [hf a b h.1, sameBy_eq hf h.2]
theorem Store.same_eq {a b : Store} (h : Store.same a b = true) : a = b := by
  unfold Store.same at h
  simp only [Bool.and_eq_true] at h
  have h1 := sameBy_eq (fun _ _ h => sameBy_eq (fun _ _ h => Obj.same_eq h) h) h.1
  have h2 := sameBy_eq (fun _ _ h => Obj.same_eq h) h.2
  cases a; cases b
  simp only at h1 h2
  rw [h1, h2]
theorem Obj.same_self (a : Obj) : Obj.same a a = true := by cases a <;> simp [Obj.same, sameL_self]
theorem sameBy_self {α : Type} {f : α → α → Bool} (hf : ∀ a, f a a = true) : ∀ l : List α, sameBy f l l = true
  | [] => rfl
  | a :: l => by simp [sameBy, hf, sameBy_self hf l]
theorem Store.same_self (a : Store) : Store.same a a = true := by
  unfold Store.same
  rw [sameBy_self Obj.same_self, sameBy_self (sameBy_self Obj.same_self)]
  rfl
def joinVs : List AV → List AV → List AV
  | a :: r, b :: q => (if AV.same a b = true then a else .undef) :: joinVs r q
  | _, _ => []
def joinR (a b : Ex × St) : Option (Ex × St) := if a.1 = b.1 ∧ Store.same a.2.s b.2.s = true then some (a.1, ⟨joinVs a.2.vs b.2.vs, a.2.s⟩) else none

def loopN (g : St → Option (Ex × St)) : Nat → St → Option (Ex × St)
  | 0, _ => none
  | n + 1, st => (g st).bind fun r => match r.1 with | .nor => loopN g n r.2 | _ => some r

def evS (call : CallT) (n : Nat) : Stm → St → Option (Ex × St)
  | .reg ops chk, st => evReg call ops chk st
  | .seq a b, st => (evS call n a st).bind fun r => match r.1 with | .nor => evS call n b r.2 | _ => some r
  | .cond c a b, st => match rd [] st.vs c with | .bool t => if t = true then evS call n a st else evS call n b st | .anyb => (evS call n a st).bind fun x => (evS call n b st).bind fun y => joinR x y | _ => none
  | .alt r c a b rest, st => (evS call n r st).bind fun x => match x.1 with
    | .nor =>
      match rd [] x.2.vs c with
      | .bool t => ((if t = true then evS call n a x.2 else evS call n b x.2)).bind fun y => match y.1 with | .nor => evS call n rest y.2 | _ => some y
      | .anyb => ((evS call n a x.2).bind fun y => match y.1 with | .nor => evS call n rest y.2 | _ => some y).bind fun p => ((evS call n b x.2).bind fun y => match y.1 with | .nor => evS call n rest y.2 | _ => some y).bind fun q => joinR p q
      | _ => none
    | _ => some x
  | .block id b, st => (evS call n b st).bind fun r => match r.1 with | .exit k => if k = id then some (.nor, r.2) else some r | _ => some r
  | .loop b, st => loopN (evS call n b) n st
  | .exit id, st => some (.exit id, st)
  | .ret, st => some (.ret, st)
  | .skip, st => some (.nor, st)

def resOne (s : Store) (vs : List AV) : RV → Option AV
  | .t i => some (vs.getD i .undef)
  | .cl n i => loadV s n (vs.getD i .undef)
def resL (s : Store) (vs : List AV) : List RV → Option (List AV)
  | [] => some []
  | r :: q => (resOne s vs r).bind fun x => (resL s vs q).bind fun l => some (x :: l)
def oneOr : List AV → AV
  | [x] => x
  | l => .tup l
def resV (s : Store) (vs : List AV) (rs : List RV) : Option AV := (resL s vs rs).bind fun l => some (oneOr l)

def evEnd (fc : FC) (r : Ex × St) : Option (AV × Store) :=
  match r.1 with
  | .exit _ => none
  | _ =>
    (resV r.2.s r.2.vs fc.res).bind fun v =>
      if fc.inl = true then some (v, r.2.s)
      else (frzR r.2.s v).bind fun x => if x.1.lowB x.2.low.length = true then some (x.1, x.2.pop) else none

def st0 (fc : FC) (args : List AV) (s : Store) : St := ⟨args ++ List.replicate (fc.nv - fc.np) .undef, if fc.inl = true then s else s.push⟩
def argsV (fc : FC) (args : List AV) (s : Store) : Option (List AV × Store) :=
  if args.length = fc.np then (if fc.ref = true then some (args, s) else frzs s args) else none

def evF (call : CallT) (n : Nat) (fc : FC) (args : List AV) (s : Store) : Option (AV × Store) :=
  (argsV fc args s).bind fun a => (evS call n fc.body (st0 fc a.1 a.2)).bind fun r => evEnd fc r

def callN (T : Nat → Option FC) (prim : CallT) : Nat → CallT
  | 0 => fun _ _ _ => none
  | n + 1 => fun f args s => match T f with | some fc => evF (callN T prim n) n fc args s | none => prim f args s

/-! ### more fuel gives the same answer -/
def LeC (c c' : CallT) : Prop := ∀ f a s r, c f a s = some r → c' f a s = some r

theorem bind_some {α β : Type} {x : Option α} {f : α → Option β} {r : β} (h : x.bind f = some r) : ∃ a, x = some a ∧ f a = some r := Option.bind_eq_some_iff.1 h

theorem evAct_mono {c c' : CallT} (h : LeC c c') {o : AOp} {ρ : Opd → AV} {s : Store} {r : AV × Store} (e : evAct c o ρ s = some r) : evAct c' o ρ s = some r := by
  unfold evAct at *
  split at e
  · exact h _ _ _ _ e
  · split at e
    · exact h _ _ _ _ e
    · cases e
  · exact e
theorem evOne_mono {c c' : CallT} (h : LeC c c') {o : AO} {ls vs : List AV} {s : Store} {r : AV × Store} (e : evOne c o ls vs s = some r) : evOne c' o ls vs s = some r := by
  unfold evOne at *
  split at e
  · exact evAct_mono h e
  · split at e
    · split at e
      · rename_i hb; rw [if_pos hb]; exact evAct_mono h e
      · rename_i hb; rw [if_neg hb]; exact e
    · exact e
    · cases e
theorem evOps_mono {c c' : CallT} (h : LeC c c') : ∀ (ops : List AO) (ls vs : List AV) (s : Store) (r : List AV × Store), evOps c ops ls vs s = some r → evOps c' ops ls vs s = some r
  | [], _, _, _, _, e => e
  | o :: ops, ls, vs, s, r, e => by
    simp only [evOps] at e ⊢
    obtain ⟨x, hx, hr⟩ := bind_some e
    rw [evOne_mono h hx]
    exact evOps_mono h ops _ _ _ _ hr
theorem evTr_mono {c c' : CallT} (h : LeC c c') : ∀ (ops : List AO) (t : Tr) (r : List Tr), evTr c ops t = some r → evTr c' ops t = some r
  | [], _, _, e => e
  | o :: ops, t, r, e => by
    simp only [evTr] at e ⊢
    obtain ⟨x, hx, hr⟩ := bind_some e
    obtain ⟨y, hy, hr⟩ := bind_some hr
    rw [evOne_mono h hx]
    simp only [Option.bind_some]
    rw [evTr_mono h ops _ _ hy]
    exact hr
theorem evReg_mono {c c' : CallT} (h : LeC c c') {ops : List AO} {chk : List (Nat × Nat)} {st : St} {r : Ex × St} (e : evReg c ops chk st = some r) : evReg c' ops chk st = some r := by
  unfold evReg at *
  split at e
  · obtain ⟨x, hx, hr⟩ := bind_some e
    rw [evOps_mono h _ _ _ _ _ hx]
    exact hr
  · obtain ⟨x, hx, hr⟩ := bind_some e
    rw [evTr_mono h _ _ _ hx]
    exact hr
def LeG (g g' : St → Option (Ex × St)) : Prop := ∀ st r, g st = some r → g' st = some r
theorem loopN_mono {g g' : St → Option (Ex × St)} (h : LeG g g') : ∀ (n n' : Nat), n ≤ n' → LeG (loopN g n) (loopN g' n')
  | 0, _, _, _, _, e => by cases e
  | n + 1, 0, hn, _, _, _ => by omega
  | n + 1, n' + 1, hn, st, r, e => by
    simp only [loopN] at e ⊢
    obtain ⟨x, hx, hr⟩ := bind_some e
    rw [h _ _ hx]
    simp only [Option.bind_some]
    split at hr
    · exact loopN_mono h n n' (by omega) _ _ hr
    · exact hr
theorem bind_mono {α β : Type} {x x' : Option α} {f f' : α → Option β} {r : β} (h : x.bind f = some r) (hx : ∀ a, x = some a → x' = some a) (hf : ∀ a r, f a = some r → f' a = some r) : x'.bind f' = some r := by
  obtain ⟨a, h1, h2⟩ := bind_some h
  rw [hx a h1]
  exact hf a r h2
theorem evS_mono {c c' : CallT} (h : LeC c c') {n n' : Nat} (hn : n ≤ n') : ∀ b : Stm, LeG (evS c n b) (evS c' n' b)
  | .reg _ _, _, _, e => evReg_mono h e
  | .seq a b, st, r, e => by
    simp only [evS] at e ⊢
    obtain ⟨x, hx, hr⟩ := bind_some e
    rw [evS_mono h hn a _ _ hx]
    simp only [Option.bind_some]
    split at hr
    · exact evS_mono h hn b _ _ hr
    · exact hr
  | .cond x a b, st, r, e => by
    simp only [evS] at e ⊢
    split at e
    · split at e
      · rename_i ht; rw [if_pos ht]; exact evS_mono h hn a _ _ e
      · rename_i ht; rw [if_neg ht]; exact evS_mono h hn b _ _ e
    · obtain ⟨x, hx, e⟩ := bind_some e
      obtain ⟨y, hy, e⟩ := bind_some e
      rw [evS_mono h hn a _ _ hx, Option.bind_some, evS_mono h hn b _ _ hy]
      exact e
    · cases e
  | .alt p x a b q, st, r, e => by
    have hthen : ∀ (y : Ex × St) r, (match y.1 with | .nor => evS c n q y.2 | _ => some y) = some r → (match y.1 with | .nor => evS c' n' q y.2 | _ => some y) = some r := fun y r e => by
      split at e
      · exact evS_mono h hn q _ _ e
      · exact e
    simp only [evS] at e ⊢
    refine bind_mono e (fun y hy => evS_mono h hn p _ _ hy) fun y r e => ?_
    split at e
    · split at e
      · refine bind_mono e (fun y hy => ?_) hthen
        split at hy
        · rename_i ht; rw [if_pos ht]; exact evS_mono h hn a _ _ hy
        · rename_i ht; rw [if_neg ht]; exact evS_mono h hn b _ _ hy
      · exact bind_mono e (fun y hy => bind_mono hy (fun y hy => evS_mono h hn a _ _ hy) hthen) fun z r e => bind_mono e (fun y hy => bind_mono hy (fun y hy => evS_mono h hn b _ _ hy) hthen) fun _ _ e => e
      · cases e
    · exact e
  | .block id b, st, r, e => by
    simp only [evS] at e ⊢
    obtain ⟨x, hx, hr⟩ := bind_some e
    rw [evS_mono h hn b _ _ hx]
    exact hr
  | .loop b, st, r, e => by
    simp only [evS] at e ⊢
    exact loopN_mono (evS_mono h hn b) n n' hn _ _ e
  | .exit _, _, _, e => e
  | .ret, _, _, e => e
  | .skip, _, _, e => e
theorem evF_mono {c c' : CallT} (h : LeC c c') {n n' : Nat} (hn : n ≤ n') {fc : FC} {args : List AV} {s : Store} {r : AV × Store} (e : evF c n fc args s = some r) : evF c' n' fc args s = some r := by
  unfold evF at *
  obtain ⟨x, hx, e⟩ := bind_some e
  obtain ⟨y, hy, e⟩ := bind_some e
  rw [hx]
  simp only [Option.bind_some]
  rw [evS_mono h hn _ _ _ hy]
  exact e
section
variable {T : Nat → Option FC} {prim : CallT}
theorem callN_succ : ∀ n, LeC (callN T prim n) (callN T prim (n + 1))
  | 0, _, _, _, _, e => by cases e
  | n + 1, f, a, s, r, e => by
    simp only [callN] at e ⊢
    split at e
    · rename_i hf
      exact evF_mono (callN_succ n) (by omega) e
    · exact e
theorem callN_mono {n n' : Nat} (hn : n ≤ n') : LeC (callN T prim n) (callN T prim n') := by
  induction hn with
  | refl => exact fun _ _ _ _ e => e
  | step _ ih => exact fun f a s r e => callN_succ _ f a s r (ih f a s r e)

/-! ### the answer, whatever the fuel -/
open Classical in
noncomputable def callF (T : Nat → Option FC) (prim : CallT) : CallT := fun f a s =>
  if h : ∃ n, (callN T prim n f a s).isSome then callN T prim (Classical.choose h) f a s else none
theorem callF_of {n f : Nat} {a : List AV} {s : Store} {r : AV × Store} (h : callN T prim n f a s = some r) : callF T prim f a s = some r := by
  unfold callF
  have he : ∃ n, (callN T prim n f a s).isSome := ⟨n, by rw [h]; rfl⟩
  rw [dif_pos he]
  obtain ⟨q, hq⟩ := Option.isSome_iff_exists.1 (Classical.choose_spec he)
  have h1 := callN_mono (Nat.le_max_left n (Classical.choose he)) _ _ _ _ h
  have h2 := callN_mono (Nat.le_max_right n (Classical.choose he)) _ _ _ _ hq
  rw [h1] at h2
  rw [hq, h2]
theorem callF_ex {f : Nat} {a : List AV} {s : Store} {r : AV × Store} (h : callF T prim f a s = some r) : ∃ n, callN T prim n f a s = some r := by
  unfold callF at h
  split at h
  · exact ⟨_, h⟩
  · cases h
theorem callN_le (n : Nat) : LeC (callN T prim n) (callF T prim) := fun _ _ _ _ e => callF_of e

open Classical in
noncomputable def loopF (g : St → Option (Ex × St)) (st : St) : Option (Ex × St) :=
  if h : ∃ n, (loopN g n st).isSome then loopN g (Classical.choose h) st else none
theorem loopF_of {g : St → Option (Ex × St)} {n : Nat} {st : St} {r : Ex × St} (h : loopN g n st = some r) : loopF g st = some r := by
  unfold loopF
  have he : ∃ n, (loopN g n st).isSome := ⟨n, by rw [h]; rfl⟩
  rw [dif_pos he]
  obtain ⟨q, hq⟩ := Option.isSome_iff_exists.1 (Classical.choose_spec he)
  have h1 := loopN_mono (g := g) (g' := g) (fun _ _ e => e) _ _ (Nat.le_max_left n (Classical.choose he)) _ _ h
  have h2 := loopN_mono (g := g) (g' := g) (fun _ _ e => e) _ _ (Nat.le_max_right n (Classical.choose he)) _ _ hq
  rw [h1] at h2
  rw [hq, h2]
theorem loopF_ex {g : St → Option (Ex × St)} {st : St} {r : Ex × St} (h : loopF g st = some r) : ∃ n, loopN g n st = some r := by
  unfold loopF at h
  split at h
  · exact ⟨_, h⟩
  · cases h
/-- One round. -/
theorem loopF_step {g : St → Option (Ex × St)} {st st' : St} (h : g st = some (.nor, st')) : loopF g st = loopF g st' := by
  apply Option.ext
  intro r
  constructor
  · intro e
    obtain ⟨n, hn⟩ := loopF_ex e
    cases n with
    | zero => cases hn
    | succ n =>
      simp only [loopN, h, Option.bind_some] at hn
      exact loopF_of hn
  · intro e
    obtain ⟨n, hn⟩ := loopF_ex e
    refine loopF_of (n := n + 1) ?_
    simp only [loopN, h, Option.bind_some]
    exact hn
theorem loopF_end {g : St → Option (Ex × St)} {st : St} {r : Ex × St} (h : g st = some r) (hr : r.1 ≠ .nor) : loopF g st = some r := by
  refine loopF_of (n := 1) ?_
  simp only [loopN, h, Option.bind_some]

noncomputable def exS (call : CallT) : Stm → St → Option (Ex × St)
  | .reg ops chk, st => evReg call ops chk st
  | .seq a b, st => (exS call a st).bind fun r => match r.1 with | .nor => exS call b r.2 | _ => some r
  | .cond c a b, st => match rd [] st.vs c with | .bool t => if t = true then exS call a st else exS call b st | .anyb => (exS call a st).bind fun x => (exS call b st).bind fun y => joinR x y | _ => none
  | .alt r c a b rest, st => (exS call r st).bind fun x => match x.1 with
    | .nor =>
      match rd [] x.2.vs c with
      | .bool t => ((if t = true then exS call a x.2 else exS call b x.2)).bind fun y => match y.1 with | .nor => exS call rest y.2 | _ => some y
      | .anyb => ((exS call a x.2).bind fun y => match y.1 with | .nor => exS call rest y.2 | _ => some y).bind fun p => ((exS call b x.2).bind fun y => match y.1 with | .nor => exS call rest y.2 | _ => some y).bind fun q => joinR p q
      | _ => none
    | _ => some x
  | .block id b, st => (exS call b st).bind fun r => match r.1 with | .exit k => if k = id then some (.nor, r.2) else some r | _ => some r
  | .loop b, st => loopF (exS call b) st
  | .exit id, st => some (.exit id, st)
  | .ret, st => some (.ret, st)
  | .skip, st => some (.nor, st)

theorem evAct_fuel {o : AOp} {ρ : Opd → AV} {s : Store} {r : AV × Store} (e : evAct (callF T prim) o ρ s = some r) : ∃ n, evAct (callN T prim n) o ρ s = some r := by
  unfold evAct at *
  split at e
  · exact callF_ex e
  · split at e
    · exact callF_ex e
    · cases e
  · exact ⟨0, e⟩
theorem evOne_fuel {o : AO} {ls vs : List AV} {s : Store} {r : AV × Store} (e : evOne (callF T prim) o ls vs s = some r) : ∃ n, evOne (callN T prim n) o ls vs s = some r := by
  unfold evOne at *
  split at e
  · exact evAct_fuel e
  · split at e
    · split at e
      · rename_i hb
        obtain ⟨n, hn⟩ := evAct_fuel e
        exact ⟨n, by rw [if_pos hb]; exact hn⟩
      · rename_i hb
        exact ⟨0, by rw [if_neg hb]; exact e⟩
    · exact ⟨0, e⟩
    · cases e
theorem evOps_fuel : ∀ (ops : List AO) (ls vs : List AV) (s : Store) (r : List AV × Store), evOps (callF T prim) ops ls vs s = some r → ∃ n, evOps (callN T prim n) ops ls vs s = some r
  | [], _, _, _, _, e => ⟨0, e⟩
  | o :: ops, ls, vs, s, r, e => by
    simp only [evOps] at e ⊢
    obtain ⟨x, hx, hr⟩ := bind_some e
    obtain ⟨n, hn⟩ := evOne_fuel hx
    obtain ⟨m, hm⟩ := evOps_fuel ops _ _ _ _ hr
    refine ⟨max n m, ?_⟩
    rw [evOne_mono (callN_mono (Nat.le_max_left n m)) hn]
    exact evOps_mono (callN_mono (Nat.le_max_right n m)) _ _ _ _ _ hm
theorem evTr_fuel : ∀ (ops : List AO) (t : Tr) (r : List Tr), evTr (callF T prim) ops t = some r → ∃ n, evTr (callN T prim n) ops t = some r
  | [], _, _, e => ⟨0, e⟩
  | o :: ops, t, r, e => by
    simp only [evTr] at e ⊢
    obtain ⟨x, hx, hr⟩ := bind_some e
    obtain ⟨y, hy, hr⟩ := bind_some hr
    obtain ⟨n, hn⟩ := evOne_fuel hx
    obtain ⟨m, hm⟩ := evTr_fuel ops _ _ hy
    refine ⟨max n m, ?_⟩
    rw [evOne_mono (callN_mono (Nat.le_max_left n m)) hn]
    simp only [Option.bind_some]
    rw [evTr_mono (callN_mono (Nat.le_max_right n m)) _ _ _ hm]
    exact hr
theorem evReg_fuel {ops : List AO} {chk : List (Nat × Nat)} {st : St} {r : Ex × St} (e : evReg (callF T prim) ops chk st = some r) : ∃ n, evReg (callN T prim n) ops chk st = some r := by
  unfold evReg at *
  split at e
  · obtain ⟨x, hx, hr⟩ := bind_some e
    obtain ⟨n, hn⟩ := evOps_fuel _ _ _ _ _ hx
    exact ⟨n, by rw [hn]; exact hr⟩
  · obtain ⟨x, hx, hr⟩ := bind_some e
    obtain ⟨n, hn⟩ := evTr_fuel _ _ _ hx
    exact ⟨n, by rw [hn]; exact hr⟩
theorem exS_fuel : ∀ (b : Stm) (st : St) (r : Ex × St), exS (callF T prim) b st = some r → ∃ n, evS (callN T prim n) n b st = some r
  | .reg _ _, _, _, e => by obtain ⟨n, hn⟩ := evReg_fuel e; exact ⟨n, hn⟩
  | .seq a b, st, r, e => by
    simp only [exS] at e
    obtain ⟨x, hx, hr⟩ := bind_some e
    obtain ⟨n, hn⟩ := exS_fuel a _ _ hx
    split at hr
    · rename_i hnor
      obtain ⟨m, hm⟩ := exS_fuel b _ _ hr
      refine ⟨max n m, ?_⟩
      simp only [evS]
      rw [evS_mono (callN_mono (Nat.le_max_left n m)) (Nat.le_max_left n m) a _ _ hn]
      simp only [Option.bind_some, hnor]
      exact evS_mono (callN_mono (Nat.le_max_right n m)) (Nat.le_max_right n m) b _ _ hm
    · rename_i hnor
      refine ⟨n, ?_⟩
      simp only [evS, hn, Option.bind_some]
      exact hr
  | .cond x a b, st, r, e => by
    simp only [exS] at e
    split at e
    · rename_i t ht
      split at e
      · rename_i h1
        obtain ⟨n, hn⟩ := exS_fuel a _ _ e
        exact ⟨n, by simp only [evS, ht, h1, if_true]; exact hn⟩
      · rename_i h1
        obtain ⟨n, hn⟩ := exS_fuel b _ _ e
        exact ⟨n, by simp only [evS, ht]; rw [if_neg h1]; exact hn⟩
    · rename_i ht
      obtain ⟨x, hx, e⟩ := bind_some e
      obtain ⟨y, hy, e⟩ := bind_some e
      obtain ⟨n, hn⟩ := exS_fuel a _ _ hx
      obtain ⟨m, hm⟩ := exS_fuel b _ _ hy
      refine ⟨max n m, ?_⟩
      simp only [evS, ht]
      rw [evS_mono (callN_mono (Nat.le_max_left n m)) (Nat.le_max_left n m) a _ _ hn, Option.bind_some, evS_mono (callN_mono (Nat.le_max_right n m)) (Nat.le_max_right n m) b _ _ hm]
      exact e
    · cases e
  | .alt p x a b q, st, r, e => by
    have hthen : ∀ (y : Ex × St) r, (match y.1 with | .nor => exS (callF T prim) q y.2 | _ => some y) = some r → ∃ n, (match y.1 with | .nor => evS (callN T prim n) n q y.2 | _ => some y) = some r := fun y r e => by
      split at e
      · exact exS_fuel q _ _ e
      · exact ⟨0, e⟩
    have thenM : ∀ (y : Ex × St) r (n m : Nat), n ≤ m → (match y.1 with | .nor => evS (callN T prim n) n q y.2 | _ => some y) = some r → (match y.1 with | .nor => evS (callN T prim m) m q y.2 | _ => some y) = some r := fun y r n m hnm e => by
      split at e
      · exact evS_mono (callN_mono hnm) hnm q _ _ e
      · exact e
    have two : ∀ (a : Stm), (∀ st r, exS (callF T prim) a st = some r → ∃ n, evS (callN T prim n) n a st = some r) → ∀ st r, ((exS (callF T prim) a st).bind fun y => match y.1 with | .nor => exS (callF T prim) q y.2 | _ => some y) = some r →
        ∃ n, ∀ m, n ≤ m → ((evS (callN T prim m) m a st).bind fun y => match y.1 with | .nor => evS (callN T prim m) m q y.2 | _ => some y) = some r := fun a ha st r e => by
      obtain ⟨y, hy, e⟩ := bind_some e
      obtain ⟨n, hn⟩ := ha _ _ hy
      obtain ⟨k, hk⟩ := hthen _ _ e
      refine ⟨max n k, fun m hm => ?_⟩
      rw [evS_mono (callN_mono (n := n) (by omega)) (n := n) (by omega) a _ _ hn]
      exact thenM _ _ _ _ (by omega) hk
    simp only [exS] at e
    obtain ⟨y, hy, e⟩ := bind_some e
    obtain ⟨n, hn⟩ := exS_fuel p _ _ hy
    split at e
    · rename_i hnor
      split at e
      · rename_i t ht
        have : ∃ k, ∀ m, k ≤ m → ((if t = true then evS (callN T prim m) m a y.2 else evS (callN T prim m) m b y.2).bind fun y => match y.1 with | .nor => evS (callN T prim m) m q y.2 | _ => some y) = some r := by
          cases t with
          | true => exact two a (exS_fuel a) _ _ e
          | false => exact two b (exS_fuel b) _ _ e
        obtain ⟨k, hk⟩ := this
        refine ⟨max n k, ?_⟩
        simp only [evS]
        rw [evS_mono (callN_mono (n := n) (by omega)) (n := n) (by omega) p _ _ hn]
        simp only [Option.bind_some, hnor, ht]
        exact hk _ (by omega)
      · rename_i ht
        obtain ⟨u, hu, e⟩ := bind_some e
        obtain ⟨v, hv, e⟩ := bind_some e
        obtain ⟨k1, hk1⟩ := two a (exS_fuel a) _ _ hu
        obtain ⟨k2, hk2⟩ := two b (exS_fuel b) _ _ hv
        refine ⟨max n (max k1 k2), ?_⟩
        simp only [evS]
        rw [evS_mono (callN_mono (n := n) (by omega)) (n := n) (by omega) p _ _ hn]
        simp only [Option.bind_some, hnor, ht]
        rw [hk1 _ (by omega), Option.bind_some, hk2 _ (by omega)]
        exact e
      · cases e
    · rename_i hnor
      refine ⟨n, ?_⟩
      simp only [evS]
      rw [hn]
      simp only [Option.bind_some]
      exact e
  | .block id b, st, r, e => by
    simp only [exS] at e
    obtain ⟨x, hx, hr⟩ := bind_some e
    obtain ⟨n, hn⟩ := exS_fuel b _ _ hx
    exact ⟨n, by simp only [evS]; rw [hn]; exact hr⟩
  | .loop b, st, r, e => by
    simp only [exS] at e
    obtain ⟨m, hm⟩ := loopF_ex e
    have key : ∀ (m : Nat) (st : St) (r : Ex × St), loopN (exS (callF T prim) b) m st = some r → ∃ n, loopN (evS (callN T prim n) n b) n st = some r := by
      intro m
      induction m with
      | zero => intro st r h; cases h
      | succ m ih =>
        intro st r h
        simp only [loopN] at h
        obtain ⟨x, hx, hr⟩ := bind_some h
        obtain ⟨n, hn⟩ := exS_fuel b _ _ hx
        split at hr
        · rename_i hnor
          obtain ⟨k, hk⟩ := ih _ _ hr
          refine ⟨max n k + 1, ?_⟩
          simp only [loopN]
          rw [evS_mono (callN_mono (n := n) (by omega)) (n := n) (by omega) b _ _ hn]
          simp only [Option.bind_some, hnor]
          exact loopN_mono (evS_mono (callN_mono (n := k) (by omega)) (n := k) (by omega) b) k _ (by omega) _ _ hk
        · rename_i hnor
          refine ⟨n + 1, ?_⟩
          simp only [loopN]
          rw [evS_mono (callN_mono (n := n) (by omega)) (n := n) (by omega) b _ _ hn]
          simp only [Option.bind_some]
          exact hr
    obtain ⟨n, hn⟩ := key m st r hm
    exact ⟨n, by simp only [evS]; exact hn⟩
  | .exit _, _, _, e => ⟨0, e⟩
  | .ret, _, _, e => ⟨0, e⟩
  | .skip, _, _, e => ⟨0, e⟩

noncomputable def exF (call : CallT) (fc : FC) (args : List AV) (s : Store) : Option (AV × Store) :=
  (argsV fc args s).bind fun a => (exS call fc.body (st0 fc a.1 a.2)).bind fun r => evEnd fc r

/-- ONE FUNCTION, WHATEVER THE FUEL. -/
theorem callF_fc {f : Nat} {fc : FC} {args : List AV} {s : Store} {r : AV × Store} (hf : T f = some fc) (h : exF (callF T prim) fc args s = some r) : callF T prim f args s = some r := by
  unfold exF at h
  obtain ⟨x, hx, h⟩ := bind_some h
  obtain ⟨y, hy, h⟩ := bind_some h
  obtain ⟨n, hn⟩ := exS_fuel _ _ _ hy
  refine callF_of (n := n + 1) ?_
  simp only [callN, hf]
  unfold evF
  rw [hx]
  simp only [Option.bind_some]
  rw [hn]
  exact h
theorem callF_prim {f : Nat} {args : List AV} {s : Store} {r : AV × Store} (hf : T f = none) (h : prim f args s = some r) : callF T prim f args s = some r := by
  refine callF_of (n := 1) ?_
  simp only [callN, hf]
  exact h
end
end Go.Proofs.YthogcanomihelaaDoor.Ae
