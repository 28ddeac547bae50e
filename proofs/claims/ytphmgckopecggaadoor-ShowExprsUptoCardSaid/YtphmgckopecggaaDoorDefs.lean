/- An evaluator over plain values for the loaded code: slices that only grow are lists, what is written lies in numbered objects, and nothing is drawn. -/
import Derived.Orders
import Derived.Laws.Append
namespace Go.Ev

/-- What may be appended to a list: nothing (shared), a copy (full: its capacity is its length; nil; mine: a literal of the run's own), or in place as long as the mark stands (tail). -/
inductive Own where
  | nil
  | shared
  | full
  | mine
  | tail (k lab : Nat)
  deriving DecidableEq

inductive Val where
  | bool (b : Bool)
  | int (k : IntKind) (n : Int)
  | str (s : ByteArray)
  | ptr (a : Option (Nat × Nat))
  | iptr (vs : List Val)
  | lst (sz : Nat) (xs : List Val) (o : Own)
  | ref (sz id off len : Nat)
  | map (r : Option Nat)
  | func (fn : Fn) (first captured : List Val)
  | nilFunc
  | iface (t : TypeId) (v : Val)
  | nilIface
  | agg (cs : List Val)
  | tuple (vs : List Val)

def Val.undef : Val := .tuple []

def Val.cells : Val → List Val
  | .agg cs => cs
  | v => [v]

/-- Is it the value of one cell? -/
def Val.one : Val → Bool
  | .agg _ | .tuple _ => false
  | _ => true

/-- May it be stored (a tuple may not)? -/
def Val.st : Val → Bool
  | .tuple _ => false
  | _ => true

def allOne (l : List Val) : Bool := l.all Val.one

def flat (xs : List Val) : List Val := xs.flatMap Val.cells
def repZ (n : Nat) (z : List Val) : List Val := (List.replicate n z).flatten

mutual
def Val.eqb : Val → Val → Bool
  | .bool a, .bool b => a == b
  | .int k a, .int l b => decide (k = l) && decide (a = b)
  | .str a, .str b => decide (a = b)
  | .ptr a, .ptr b => decide (a = b)
  | .iptr a, .iptr b => Val.eqbs a b
  | .lst s a o, .lst t b p => decide (s = t) && (decide (o = p) && Val.eqbs a b)
  | .ref a b c d, .ref e f g h => decide (a = e ∧ b = f ∧ c = g ∧ d = h)
  | .map a, .map b => decide (a = b)
  | .func f a b, .func g c d => decide (f = g) && (Val.eqbs a c && Val.eqbs b d)
  | .nilFunc, .nilFunc => true
  | .iface t a, .iface u b => decide (t = u) && Val.eqb a b
  | .nilIface, .nilIface => true
  | .agg a, .agg b => Val.eqbs a b
  | .tuple a, .tuple b => Val.eqbs a b
  | _, _ => false
def Val.eqbs : List Val → List Val → Bool
  | [], [] => true
  | a :: as, b :: bs => Val.eqb a b && Val.eqbs as bs
  | _, _ => false
end

mutual
theorem Val.eqb_eq : ∀ {a b : Val}, Val.eqb a b = true → a = b := by
  intro a b h
  cases a <;> cases b <;> simp only [Val.eqb, Bool.and_eq_true, decide_eq_true_eq, beq_iff_eq, Bool.false_eq_true] at h
  case bool.bool => rw [h]
  case int.int => rw [h.1, h.2]
  case str.str => rw [h]
  case ptr.ptr => rw [h]
  case iptr.iptr => rw [Val.eqbs_eq h]
  case lst.lst => rw [h.1, h.2.1, Val.eqbs_eq h.2.2]
  case ref.ref => obtain ⟨h1, h2, h3, h4⟩ := h; rw [h1, h2, h3, h4]
  case map.map => rw [h]
  case func.func => rw [h.1, Val.eqbs_eq h.2.1, Val.eqbs_eq h.2.2]
  case nilFunc.nilFunc => rfl
  case iface.iface => rw [h.1, Val.eqb_eq h.2]
  case nilIface.nilIface => rfl
  case agg.agg => rw [Val.eqbs_eq h]
  case tuple.tuple => rw [Val.eqbs_eq h]
theorem Val.eqbs_eq : ∀ {a b : List Val}, Val.eqbs a b = true → a = b := by
  intro a b h
  match a, b, h with
  | [], [], _ => rfl
  | x :: xs, y :: ys, h =>
    simp only [Val.eqbs, Bool.and_eq_true] at h
    rw [Val.eqb_eq h.1, Val.eqbs_eq h.2]
  | [], _ :: _, h => simp [Val.eqbs] at h
  | _ :: _, [], h => simp [Val.eqbs] at h
end

mutual
theorem Val.eqb_refl : ∀ (a : Val), Val.eqb a a = true
  | .bool _ | .int _ _ | .str _ | .ptr _ | .ref _ _ _ _ | .map _ | .nilFunc | .nilIface => by simp [Val.eqb]
  | .iptr l => by simp [Val.eqb, Val.eqbs_refl l]
  | .lst _ l _ => by simp [Val.eqb, Val.eqbs_refl l]
  | .func _ l m => by simp [Val.eqb, Val.eqbs_refl l, Val.eqbs_refl m]
  | .iface _ a => by simp [Val.eqb, Val.eqb_refl a]
  | .agg l => by simp [Val.eqb, Val.eqbs_refl l]
  | .tuple l => by simp [Val.eqb, Val.eqbs_refl l]
theorem Val.eqbs_refl : ∀ (a : List Val), Val.eqbs a a = true
  | [] => by simp [Val.eqbs]
  | a :: l => by simp [Val.eqbs, Val.eqb_refl a, Val.eqbs_refl l]
end

inductive HObj where
  | cells (vs : List Val)
  | map (es : List (Val × Val))
  | tok (lab : Nat)
  | dead

abbrev Hp := List HObj

/-- A constant's value. -/
def ofV : Nat → Value → Option Val
  | 0, _ => none
  | d + 1, v =>
    match v with
    | .bool b => some (.bool b)
    | .int k n => some (.int k n)
    | .string s => some (.str s)
    | .pointer none => some (.ptr none)
    | .slice none 0 0 => some (.lst 0 [] .nil)
    | .map none => some (.map none)
    | .nilFunc => some .nilFunc
    | .nilIface => some .nilIface
    | .agg cs => match cs.toList.mapM (ofV d) with
      | some l => if allOne l then some (.agg l) else none
      | none => none
    | .tuple vs => (vs.toList.mapM (ofV d)).map .tuple
    | _ => none

/-- An operand whose constants are read. -/
inductive CO where
  | t (i : Nat)
  | c (v : Val)

/-- How '==' goes at a type. -/
inductive EqT where
  | bool
  | int
  | str
  | ptr              -- a pointer: one side nil
  | slice
  | fn
  | map
  | struct (fs : List (Nat × EqT))   -- fields that count: offset, and their type (of one cell)

inductive COp where
  | mv (x : CO)
  | pick (c a b : CO)
  | alloc (zero : List Val)
  | boxI (x : CO)
  | boxM (x : CO)
  | build (zero : List Val) (parts : List (Nat × Nat × CO))
  | buildSl (sz n : Nat) (zero : List Val) (parts : List (Nat × Nat × CO))
  | load (agg : Bool) (n : Nat) (a : CO)
  | store (n : Nat) (a x : CO)
  | nilCheck (x : CO)
  | bin (op : BinOp) (e : EqT) (x y : CO)
  | un (op : UnOp) (x : CO)
  | cvInt (k : IntKind) (x : CO)
  | cvSame (x : CO)
  | cvToStr (x : CO)
  | cvToBytes (x : CO)
  | cvMark (x : CO)
  | mkfn (fn : Fn) (first captured : List CO)
  | slice (sz : Nat) (x : CO) (lo hi mx : Option CO)
  | sliceS (x : CO) (lo hi : Option CO)
  | faddr (off : Nat) (x : CO)
  | fld (agg : Bool) (off n : Nat) (x : CO)
  | iaddr (sz : Nat) (x i : CO)
  | iaddrA (len sz : Nat) (x i : CO)
  | idxS (x i : CO)
  | idxA (agg : Bool) (len sz : Nat) (x i : CO)
  | ext (i : Nat) (x : CO)
  | app (ref : Bool) (sz bytes : Nat) (x y : CO)
  | len (str : Bool) (x : CO)
  | minmax (mx : Bool) (x : CO) (rest : List CO)
  | mkMap
  | mkSl (ref : Bool) (sz bytes : Nat) (zero : List Val) (n c : CO)
  | lookup (kt : Option IntKind) (zero : Val) (ok : Bool) (m k : CO)
  | mapSet (kt : Option IntKind) (m k x : CO)
  | del (kt : Option IntKind) (m k : CO)
  | call (f : CO) (args : List CO)

structure CStep where
  dst : Option Nat
  guard : Option (Nat × Bool)
  op : COp

section
variable (t : Nat → Val)
def CO.ev : CO → Val
  | .t i => t i
  | .c v => v
end

def upd (t : Nat → Val) (i : Nat) (v : Val) : Nat → Val := fun j => if j = i then v else t j
theorem upd_same (t : Nat → Val) (i : Nat) (v : Val) : upd t i v i = v := by simp [upd]
theorem upd_ne (t : Nat → Val) {i j : Nat} (v : Val) (h : (j == i) = false) : upd t i v j = t j := by
  have : j ≠ i := by simpa using h
  simp [upd, this]

def putCells (vs : List Val) (o : Nat) (new : List Val) : List Val := vs.take o ++ new ++ vs.drop (o + new.length)

/-- Cells from an offset on, as a value. -/
def readV (agg : Bool) (n : Nat) (vs : List Val) : Option Val :=
  if agg then (if n ≤ vs.length then some (.agg (vs.take n)) else none)
  else vs[0]?

def loadV (agg : Bool) (n : Nat) (a : Val) (σ : Hp) : Option Val :=
  match a with
  | .iptr vs => readV agg n vs
  | .ptr (some (i, o)) =>
    match σ[i]? with
    | some (.cells vs) => readV agg n (vs.drop o)
    | _ => none
  | _ => none

def storeV (n : Nat) (a x : Val) (σ : Hp) : Option Hp :=
  match a with
  | .ptr (some (i, o)) =>
    match σ[i]? with
    | some (.cells vs) => if x.cells.length = n ∧ o + n ≤ vs.length ∧ x.st = true then some (σ.set i (.cells (putCells vs o x.cells))) else none
    | _ => none
  | _ => none

def fillV : List Val → List (Nat × Nat × Val) → Option (List Val)
  | cells, [] => some cells
  | cells, (off, n, v) :: rest => if v.cells.length = n ∧ off + n ≤ cells.length ∧ v.st = true then fillV (putCells cells off v.cells) rest else none

/-- A row of cells as elements of so many cells. -/
def chunks (sz : Nat) : Nat → List Val → List Val
  | 0, _ => []
  | n + 1, cs => (if sz = 1 then cs.headD .undef else .agg (cs.take sz)) :: chunks sz n (cs.drop sz)

def eqCell : EqT → Val → Val → Option Bool
  | .bool, .bool a, .bool b => some (a == b)
  | .int, .int k a, .int l b => if k = l then some (a == b) else none
  | .str, .str a, .str b => some (a.toList == b.toList)
  | _, _, _ => none

def eqFs (cs ds : List Val) : List (Nat × EqT) → Option Bool
  | [] => some true
  | (o, e) :: r =>
    match cs[o]?, ds[o]? with
    | some x, some y => match eqCell e x y with
      | some true => eqFs cs ds r
      | some false => some false
      | none => none
    | _, _ => none

def eqV (e : EqT) (x y : Val) : Option Bool :=
  match e, x, y with
  | .bool, .bool a, .bool b => some (a == b)
  | .ptr, .ptr none, .ptr b => some b.isNone
  | .ptr, .ptr (some _), .ptr none => some false
  | .ptr, .iptr _, .ptr none => some false
  | .ptr, .ptr none, .iptr _ => some false
  | .fn, .nilFunc, .nilFunc => some true
  | .fn, .func _ _ _, .nilFunc => some false
  | .fn, .nilFunc, .func _ _ _ => some false
  | .map, .map none, .map b => some b.isNone
  | .map, .map (some _), .map none => some false
  | .slice, .lst _ _ o, .lst _ _ .nil => some (decide (o = .nil))
  | .slice, .ref _ _ _ _, .lst _ _ .nil => some false
  | .struct fs, .agg cs, .agg ds => eqFs cs ds fs
  | _, _, _ => none

def binInt (op : BinOp) (k : IntKind) (x y : Int) : Option Val :=
  match op with
  | .add => some (.int k (k.wrap (x + y)))
  | .sub => some (.int k (k.wrap (x - y)))
  | .mul => some (.int k (k.wrap (x * y)))
  | .quo => if y = 0 then none else some (.int k (k.wrap (x.tdiv y)))
  | .rem => if y = 0 then none else some (.int k (x.tmod y))
  | .and => some (.int k (k.wrap (BitVec.ofInt k.bits x &&& BitVec.ofInt k.bits y).toNat))
  | .or => some (.int k (k.wrap (BitVec.ofInt k.bits x ||| BitVec.ofInt k.bits y).toNat))
  | .xor => some (.int k (k.wrap (BitVec.ofInt k.bits x ^^^ BitVec.ofInt k.bits y).toNat))
  | .andNot => some (.int k (k.wrap (BitVec.ofInt k.bits x &&& ~~~(BitVec.ofInt k.bits y)).toNat))
  | .eql => some (.bool (x == y))
  | .neq => some (.bool (x != y))
  | .lss => some (.bool (decide (x < y)))
  | .leq => some (.bool (decide (x ≤ y)))
  | .gtr => some (.bool (decide (x > y)))
  | .geq => some (.bool (decide (x ≥ y)))
  | .shl | .shr => none

def binShift (op : BinOp) (k : IntKind) (x y : Int) : Option Val :=
  if y < 0 then none else
  match op with
  | .shl => some (.int k (k.wrap (x * 2 ^ (min y.toNat k.bits))))
  | .shr => some (.int k (x.fdiv (2 ^ (min y.toNat k.bits))))
  | _ => none

def binStr (op : BinOp) (x y : ByteArray) : Option Val :=
  match op with
  | .add => if ((x.size + y.size : Nat) : Int) > IntKind.i64.max then none else some (.str (x ++ y))
  | .eql => some (.bool (x.toList == y.toList))
  | .neq => some (.bool (!(x.toList == y.toList)))
  | .lss => some (.bool (Op.bytesLess x.toList y.toList))
  | .leq => some (.bool (Op.bytesLess x.toList y.toList || x.toList == y.toList))
  | .gtr => some (.bool (!(Op.bytesLess x.toList y.toList || x.toList == y.toList)))
  | .geq => some (.bool (!(Op.bytesLess x.toList y.toList)))
  | _ => none

def isShift : BinOp → Bool
  | .shl | .shr => true
  | _ => false

def binV (op : BinOp) (e : EqT) (x y : Val) : Option Val :=
  match x, y with
  | .int k a, .int l b => if isShift op then binShift op k a b else if k = l then binInt op k a b else none
  | .str a, .str b => binStr op a b
  | x, y =>
    match op with
    | .eql => (eqV e x y).map .bool
    | .neq => (eqV e x y).map fun b => .bool (!b)
    | _ => none

def unV (op : UnOp) (x : Val) : Option Val :=
  match op, x with
  | .neg, .int k n => some (.int k (k.wrap (0 - n)))
  | .not, .bool b => some (.bool !b)
  | _, _ => none

def bound (x : Val) (y : Nat) : Option Nat :=
  match x with
  | .int _ i => if 0 ≤ i ∧ i ≤ y then some i.toNat else none
  | _ => none

def boundOr (d : Nat) (x : Option Val) (y : Nat) : Option Nat :=
  match x with
  | some v => bound v y
  | none => some d

/-- 'x[lo:hi:mx]' of a list: never beyond its length. -/
def sliceL (sz : Nat) (xs : List Val) (o : Own) (lo hi mx : Option Val) : Option Val :=
  match mx with
  | some m =>
    match bound m xs.length with
    | some m =>
      match hi with
      | some h =>
        match bound h m with
        | some h =>
          match boundOr 0 lo h with
          | some l => some (.lst sz ((xs.take h).drop l) (if o = .nil then .nil else if h = m then .full else .shared))
          | none => none
        | none => none
      | none => none
    | none => none
  | none =>
    match boundOr xs.length hi xs.length with
    | some h =>
      match boundOr 0 lo h with
      | some l => some (.lst sz ((xs.take h).drop l) (if h = xs.length then (match o with | .mine => .full | o => o) else .shared))
      | none => none
    | none => none

def bytesOfL : List Val → Option (List UInt8)
  | [] => some []
  | .int .u8 n :: r => (bytesOfL r).map (UInt8.ofNat n.toNat :: ·)
  | _ => none

def byteV (b : UInt8) : Val := .int .u8 b.toNat

/-- append, of a list. -/
def appL (sz bytes : Nat) (xs : List Val) (o : Own) (ys : List Val) (σ : Hp) : Option (Val × Hp) :=
  match ys with
  | [] => some (.lst sz xs o, σ)
  | _ :: _ =>
    if (xs.length + ys.length) * bytes ≤ 1099511627776 ∧ xs.length + ys.length ≤ 1099511627776 then
      match o with
      | .nil | .full | .mine => some (.lst sz (xs ++ ys) (.tail σ.length 0), σ ++ [.tok 0])
      | .tail k lab =>
        match σ[k]? with
        | some (.tok l) => if l = lab then some (.lst sz (xs ++ ys) (.tail k (lab + 1)), σ.set k (.tok (lab + 1))) else none
        | _ => none
      | .shared => none
    else none

/-- The elements of what is appended. -/
def srcV (sz : Nat) (y : Val) (σ : Hp) : Option (List Val) :=
  match y with
  | .lst s ys _ => if s = sz ∨ ys = [] then some ys else none
  | .str b => if sz = 1 then some (b.toList.map byteV) else none
  | .ref s id off n =>
    match σ[id]? with
    | some (.cells vs) => if s = sz ∧ off + n * sz ≤ vs.length then some (chunks sz n ((vs.drop off).take (n * sz))) else none
    | _ => none
  | _ => none

/-- append, of an object: what it was is gone, and there is a new one. -/
def appR (sz bytes : Nat) (x : Val) (ys : List Val) (σ : Hp) : Option (Val × Hp) :=
  match x with
  | .lst s xs o =>
    if (s = sz ∨ o = .nil) ∧ (o = .nil ∨ o = .full ∨ o = .mine) ∧ (xs.length + ys.length) * bytes ≤ 1099511627776 ∧ xs.length + ys.length ≤ 1099511627776 then
      some (.ref sz σ.length 0 (xs.length + ys.length), σ ++ [.cells (flat (xs ++ ys))])
    else none
  | .ref s id off n =>
    match σ[id]? with
    | some (.cells vs) =>
      if s = sz ∧ off = 0 ∧ n * sz = vs.length ∧ (n + ys.length) * bytes ≤ 1099511627776 ∧ n + ys.length ≤ 1099511627776 then
        some (.ref sz σ.length 0 (n + ys.length), σ.set id .dead ++ [.cells (vs ++ flat ys)])
      else none
    | _ => none
  | _ => none

def appV (ref : Bool) (sz bytes : Nat) (x y : Val) (σ : Hp) : Option (Val × Hp) :=
  match srcV sz y σ with
  | some [] =>
    match x with
    | .lst s xs o => if s = sz ∨ o = .nil then some (.lst s xs o, σ) else none
    | .ref s id off n => if s = sz then some (.ref s id off n, σ) else none
    | _ => none
  | some (y :: ys) =>
    match ref, x with
    | false, .lst s xs o => if s = sz ∨ o = .nil then appL sz bytes xs o (y :: ys) σ else none
    | true, x => appR sz bytes x (y :: ys) σ
    | _, _ => none
  | none => none

/-- make, of a slice. -/
def mkSlV (ref : Bool) (sz bytes : Nat) (z : List Val) (n c : Val) (σ : Hp) : Option (Val × Hp) :=
  match n, c with
  | .int _ n, .int _ c =>
    if 0 ≤ n ∧ n ≤ c ∧ c.toNat * bytes ≤ 1099511627776 ∧ c ≤ 1099511627776 then
      if n = 0 ∧ ref = false then some (.lst sz [] (.tail σ.length 0), σ ++ [.tok 0])
      else some (.ref sz σ.length 0 n.toNat, σ ++ [.cells (repZ n.toNat z)])
    else none
  | _, _ => none

/-- The place of a key, and what lies there. -/
def keyEq : Val → Val → Option Bool
  | .int k a, .int l b => if k = l then some (a == b) else none
  | .str a, .str b => some (a == b)
  | _, _ => none
def findM (k : Val) : List (Val × Val) → Nat → Option (Option (Nat × Val))
  | [], _ => some none
  | (x, v) :: es, i =>
    match keyEq k x with
    | some true => some (some (i, v))
    | some false => findM k es (i + 1)
    | none => none
def keyOk : Option IntKind → Val → Bool
  | some k, .int l _ => decide (l = k)
  | none, .str _ => true
  | _, _ => false

def lookV (kt : Option IntKind) (zero : Val) (ok : Bool) (m k : Val) (σ : Hp) : Option Val :=
  if keyOk kt k then
    match m with
    | .map none => some (if ok then .tuple [zero, .bool false] else zero)
    | .map (some i) =>
      match σ[i]? with
      | some (.map es) =>
        match findM k es 0 with
        | some (some (_, v)) => some (if ok then .tuple [v, .bool true] else v)
        | some none => some (if ok then .tuple [zero, .bool false] else zero)
        | none => none
      | _ => none
    | _ => none
  else none

def mapSetV (kt : Option IntKind) (m k x : Val) (σ : Hp) : Option Hp :=
  if keyOk kt k then
    match m with
    | .map (some i) =>
      match σ[i]? with
      | some (.map es) =>
        match findM k es 0 with
        | some (some (j, _)) => some (σ.set i (.map (es.set j (k, x))))
        | some none => some (σ.set i (.map (es ++ [(k, x)])))
        | none => none
      | _ => none
    | _ => none
  else none

def delV (kt : Option IntKind) (m k : Val) (σ : Hp) : Option Hp :=
  if keyOk kt k then
    match m with
    | .map (some i) =>
      match σ[i]? with
      | some (.map es) =>
        match findM k es 0 with
        | some (some (j, _)) => some (σ.set i (.map (es.eraseIdx j)))
        | some none => some σ
        | none => none
      | _ => none
    | _ => none
  else none

def lenV : Bool → Val → Option Val
  | false, .lst _ xs _ => some (.int .i64 xs.length)
  | false, .ref _ _ _ n => some (.int .i64 n)
  | true, .str s => some (.int .i64 s.size)
  | _, _ => none

/-- One operation that calls nothing: its value, and the objects behind it. -/
def COp.ev (t : Nat → Val) (σ : Hp) : COp → Option (Val × Hp)
  | .mv x => some (x.ev t, σ)
  | .pick c a b =>
    match c.ev t with
    | .bool true => some (a.ev t, σ)
    | .bool false => some (b.ev t, σ)
    | _ => none
  | .alloc z => some (.ptr (some (σ.length, 0)), σ ++ [.cells z])
  | .boxI x => if (x.ev t).st then some (.iptr (x.ev t).cells, σ) else none
  | .boxM x => if (x.ev t).st then some (.ptr (some (σ.length, 0)), σ ++ [.cells (x.ev t).cells]) else none
  | .build z ps =>
    match fillV z (ps.map fun (o, n, x) => (o, n, x.ev t)) with
    | some cs => some (.agg cs, σ)
    | none => none
  | .buildSl sz n z ps =>
    match fillV z (ps.map fun (o, k, x) => (o, k, x.ev t)) with
    | some cs => some (.lst sz (chunks sz n cs) .mine, σ)
    | none => none
  | .load agg n a =>
    match loadV agg n (a.ev t) σ with
    | some v => some (v, σ)
    | none => none
  | .store n a x =>
    match storeV n (a.ev t) (x.ev t) σ with
    | some σ' => some (.undef, σ')
    | none => none
  | .nilCheck x =>
    match x.ev t with
    | .ptr (some a) => some (.ptr (some a), σ)
    | .iptr vs => some (.iptr vs, σ)
    | .func (.func f) a b => some (.func (.func f) a b, σ)
    | _ => none
  | .bin op e x y =>
    match binV op e (x.ev t) (y.ev t) with
    | some v => some (v, σ)
    | none => none
  | .un op x =>
    match unV op (x.ev t) with
    | some v => some (v, σ)
    | none => none
  | .cvInt k x =>
    match x.ev t with
    | .int _ n => some (.int k (k.wrap n), σ)
    | _ => none
  | .cvSame x =>
    match x.ev t with
    | .str s => some (.str s, σ)
    | _ => none
  | .cvToStr x =>
    match x.ev t with
    | .lst _ xs _ =>
      match bytesOfL xs with
      | some l => some (.str ⟨l.toArray⟩, σ)
      | none => none
    | _ => none
  | .cvToBytes x =>
    match x.ev t with
    | .str s => some (.lst 1 (s.toList.map byteV) .shared, σ)
    | _ => none
  | .cvMark x =>
    match x.ev t with
    | .lst 1 xs .mine => some (.lst 1 xs .mine, σ)
    | _ => none
  | .mkfn fn fs cs => some (.func fn (fs.map (·.ev t)) (cs.map (·.ev t)), σ)
  | .slice sz x lo hi mx =>
    match x.ev t with
    | .lst s xs o =>
      if s = sz ∨ o = .nil then
        match sliceL sz xs o (lo.map (·.ev t)) (hi.map (·.ev t)) (mx.map (·.ev t)) with
        | some v => some (v, σ)
        | none => none
      else none
    | .ref s id off n =>
      if s = sz ∧ mx.isNone then
        match boundOr n (hi.map (·.ev t)) n with
        | some h =>
          match boundOr 0 (lo.map (·.ev t)) h with
          | some l => some (.ref s id (off + l * sz) (h - l), σ)
          | none => none
        | none => none
      else none
    | _ => none
  | .sliceS x lo hi =>
    match x.ev t with
    | .str s =>
      match boundOr s.size (hi.map (·.ev t)) s.size with
      | some h =>
        match boundOr 0 (lo.map (·.ev t)) h with
        | some l => some (.str (s.extract l h), σ)
        | none => none
      | none => none
    | _ => none
  | .faddr off x =>
    match x.ev t with
    | .ptr (some (i, o)) => some (.ptr (some (i, o + off)), σ)
    | .iptr vs => some (.iptr (vs.drop off), σ)
    | _ => none
  | .fld agg off n x =>
    match x.ev t with
    | .agg cs =>
      match readV agg n (cs.drop off) with
      | some v => some (v, σ)
      | none => none
    | _ => none
  | .iaddr sz x i =>
    match x.ev t, i.ev t with
    | .lst s xs _, .int _ k =>
      if 0 ≤ k ∧ k < xs.length ∧ s = sz then
        match xs[k.toNat]? with
        | some v => some (.iptr v.cells, σ)
        | none => none
      else none
    | .ref s id off n, .int _ k => if 0 ≤ k ∧ k < n ∧ s = sz then some (.ptr (some (id, off + k.toNat * sz)), σ) else none
    | _, _ => none
  | .iaddrA ln sz x i =>
    match x.ev t, i.ev t with
    | .ptr (some (id, o)), .int _ k => if 0 ≤ k ∧ k < ln then some (.ptr (some (id, o + k.toNat * sz)), σ) else none
    | .iptr vs, .int _ k => if 0 ≤ k ∧ k < ln then some (.iptr (vs.drop (k.toNat * sz)), σ) else none
    | _, _ => none
  | .idxS x i =>
    match x.ev t, i.ev t with
    | .str s, .int _ k =>
      if 0 ≤ k then
        match s.toList[k.toNat]? with
        | some b => some (byteV b, σ)
        | none => none
      else none
    | _, _ => none
  | .idxA agg ln sz x i =>
    match x.ev t, i.ev t with
    | .agg cs, .int _ k =>
      if 0 ≤ k ∧ k < ln then
        match readV agg sz (cs.drop (k.toNat * sz)) with
        | some v => some (v, σ)
        | none => none
      else none
    | _, _ => none
  | .ext i x =>
    match x.ev t with
    | .tuple vs =>
      match vs[i]? with
      | some v => some (v, σ)
      | none => none
    | _ => none
  | .app ref sz bytes x y => appV ref sz bytes (x.ev t) (y.ev t) σ
  | .len s x =>
    match lenV s (x.ev t) with
    | some v => some (v, σ)
    | none => none
  | .minmax mx x [y] =>
    match x.ev t, y.ev t with
    | .int k a, .int _ b => some (.int k (if mx then (if a < b then b else a) else (if b < a then b else a)), σ)
    | _, _ => none
  | .mkMap => some (.map (some σ.length), σ ++ [.map []])
  | .mkSl ref sz bytes z n c => mkSlV ref sz bytes z (n.ev t) (c.ev t) σ
  | .lookup kt z ok m k =>
    match lookV kt z ok (m.ev t) (k.ev t) σ with
    | some v => some (v, σ)
    | none => none
  | .mapSet kt m k x =>
    match mapSetV kt (m.ev t) (k.ev t) (x.ev t) σ with
    | some σ' => some (.undef, σ')
    | none => none
  | .del kt m k =>
    match delV kt (m.ev t) (k.ev t) σ with
    | some σ' => some (.undef, σ')
    | none => none
  | _ => none

inductive Ex where
  | normal
  | exit (id : Nat)
  | ret

/-- How an operation of a region whose order is open goes: touching no object; reading objects, between so many and so many effects; a new object with a number of its own; with an effect. -/
inductive DK where
  | pure
  | read (ks : List Nat)
  | new (j : Nat)
  | eff

structure DStep where
  dst : Option Nat
  guard : Option (Nat × Bool)
  op : COp
  kind : DK

def DK.isEff : DK → Bool
  | .eff => true
  | _ => false

inductive CCode where
  | skip
  | region (ss : List CStep)
  | regionD (news : List (List Val)) (ds : List DStep)
  | seq (a b : CCode)
  | cond (c : CO) (a b : CCode)
  | block (id : Nat) (b : CCode)
  | loop (b : CCode)
  | exit (id : Nat)
  | ret

inductive CRes where
  | tmp (i : Nat)
  | cell (i : Nat) (agg : Bool) (n : Nat)

structure CFn where
  ntmps : Nat
  results : List CRes
  body : CCode
  pure : Bool

abbrev St := (Nat → Val) × Hp
abbrev CallF := FuncId → List Val → Hp → Option (Val × Hp)

def updO (t : Nat → Val) (d : Option Nat) (v : Val) : Nat → Val :=
  match d with
  | some i => upd t i v
  | none => t

/-- A call's value, or an operation's. -/
def evOp (call : CallF) (op : COp) (s : St) : Option (Val × Hp) :=
  match op with
  | .call f args =>
    match f.ev s.1 with
    | .func (.func g) first captured => call g (first ++ args.map (·.ev s.1) ++ captured) s.2
    | _ => none
  | op => op.ev s.1 s.2

def evStep (call : CallF) (c : CStep) (s : St) : Option St :=
  match c.guard with
  | none =>
    match evOp call c.op s with
    | some (v, σ) => some (updO s.1 c.dst v, σ)
    | none => none
  | some (d, want) =>
    match s.1 d with
    | .bool b =>
      if b = want then
        match evOp call c.op s with
        | some (v, σ) => some (updO s.1 c.dst v, σ)
        | none => none
      else some (updO s.1 c.dst .undef, s.2)
    | _ => none

def evSteps (call : CallF) : List CStep → St → Option St
  | [], s => some s
  | c :: r, s =>
    match evStep call c s with
    | some s' => evSteps call r s'
    | none => none

/-- May the operation run? -/
def guardV (t : Nat → Val) : Option (Nat × Bool) → Option Bool
  | none => some true
  | some (d, want) =>
    match t d with
    | .bool b => some (decide (b = want))
    | _ => none

def evDRun (call : CallF) (base : Nat) (d : DStep) (s : St) : Option (Val × Hp) :=
  match d.kind with
  | .new j => some (.ptr (some (base + j, 0)), s.2)
  | _ => evOp call d.op s

def evDStep (call : CallF) (base : Nat) (d : DStep) (s : St) : Option (Val × Hp) :=
  match guardV s.1 d.guard with
  | some true => evDRun call base d s
  | some false => some (.undef, s.2)
  | none => none

/-- All operations in their order: the values, and the objects behind each effect. -/
def evD (call : CallF) (base : Nat) : List DStep → St → Option (List Val × List Hp)
  | [], _ => some ([], [])
  | d :: r, s =>
    match evDStep call base d s with
    | some (v, σ) =>
      match evD call base r (updO s.1 d.dst v, σ) with
      | some (vs, hs) => some (v :: vs, if d.kind.isEff then σ :: hs else hs)
      | none => none
    | none => none

def isLoad : COp → Option (Bool × Nat × CO)
  | .load g n a => some (g, n, a)
  | _ => none

/-- Does a read give the same at every effect that may come ahead of it? -/
def readOk (hs : List Hp) (t : Nat → Val) (d : DStep) (v : Val) : Bool :=
  match d.kind with
  | .read ks =>
    match guardV t d.guard with
    | some true =>
      ks.all fun k =>
        match hs[k]? with
        | some σ => match isLoad d.op with
          | some (g, n, a) => match loadV g n (a.ev t) σ with
            | some u => Val.eqb u v
            | none => false
          | none => false
        | none => true
    | _ => true
  | _ => true

def readsOk (hs : List Hp) : List DStep → List Val → (Nat → Val) → Bool
  | d :: r, v :: vs, t => readOk hs t d v && readsOk hs r vs (updO t d.dst v)
  | _, _, _ => true

def endT : List DStep → List Val → (Nat → Val) → (Nat → Val)
  | d :: r, v :: vs, t => endT r vs (updO t d.dst v)
  | _, _, t => t

def lastD (σ : Hp) : List Hp → Hp
  | [] => σ
  | h :: r => lastD h r

def evRegionD (call : CallF) (news : List (List Val)) (ds : List DStep) (s : St) : Option St :=
  let σ0 := s.2 ++ news.map .cells
  match evD call s.2.length ds (s.1, σ0) with
  | some (vs, hs) => if readsOk (σ0 :: hs) ds vs s.1 then some (endT ds vs s.1, lastD σ0 hs) else none
  | none => none

def iter (b : St → Option (Ex × St)) : Nat → St → Option (Ex × St)
  | 0, _ => none
  | n + 1, s =>
    match b s with
    | some (.normal, s') => iter b n s'
    | r => r

def evC (call : CallF) (fuel : Nat) : CCode → St → Option (Ex × St)
  | .skip, s => some (.normal, s)
  | .region ss, s =>
    match evSteps call ss s with
    | some s' => some (.normal, s')
    | none => none
  | .regionD news ds, s =>
    match evRegionD call news ds s with
    | some s' => some (.normal, s')
    | none => none
  | .seq a b, s =>
    match evC call fuel a s with
    | some (.normal, s') => evC call fuel b s'
    | r => r
  | .cond c a b, s =>
    match c.ev s.1 with
    | .bool true => evC call fuel a s
    | .bool false => evC call fuel b s
    | _ => none
  | .block id b, s =>
    match evC call fuel b s with
    | some (.exit i, s') => if i = id then some (.normal, s') else some (.exit i, s')
    | r => r
  | .loop b, s => iter (evC call fuel b) fuel s
  | .exit id, s => some (.exit id, s)
  | .ret, s => some (.ret, s)

def evRes1 (t : Nat → Val) (σ : Hp) : CRes → Option Val
  | .tmp i => some (t i)
  | .cell i agg n => loadV agg n (t i) σ

def evRess (t : Nat → Val) (σ : Hp) : List CRes → Option (List Val)
  | [] => some []
  | r :: rs =>
    match evRes1 t σ r, evRess t σ rs with
    | some v, some vs => some (v :: vs)
    | _, _ => none

def oneOr : List Val → Val
  | [v] => v
  | vs => .tuple vs

def argT (args : List Val) : Nat → Val := fun i => args.getD i .undef

abbrev Hook := List Val → Hp → Option (Val × Hp)

/-! values that name no object -/

def Own.fz : Own → Own
  | .tail _ _ => .shared
  | .mine => .full
  | o => o

mutual
def Val.closed : Val → Bool
  | .ptr (some _) | .ref _ _ _ _ | .map (some _) => false
  | .iptr l | .lst _ l _ | .agg l | .tuple l => Val.closeds l
  | .func _ l m => Val.closeds l && Val.closeds m
  | .iface _ v => Val.closed v
  | _ => true
def Val.closeds : List Val → Bool
  | [] => true
  | v :: l => Val.closed v && Val.closeds l
end

mutual
def Val.fz : Val → Val
  | .iptr l => .iptr (Val.fzs l)
  | .lst s l o => .lst s (Val.fzs l) o.fz
  | .agg l => .agg (Val.fzs l)
  | .tuple l => .tuple (Val.fzs l)
  | .func f l m => .func f (Val.fzs l) (Val.fzs m)
  | .iface t v => .iface t (Val.fz v)
  | v => v
def Val.fzs : List Val → List Val
  | [] => []
  | v :: l => Val.fz v :: Val.fzs l
end

def runBody (call : CallF) (n : Nat) (cf : CFn) (args : List Val) (σ : Hp) : Option (Val × Hp) :=
  if args.length ≤ cf.ntmps then
    match evC call n cf.body (argT args, σ) with
    | some (.normal, s) | some (.ret, s) =>
      match evRess s.1 s.2 cf.results with
      | some vs => some (oneOr vs, s.2)
      | none => none
    | _ => none
  else none

/-- A function that is called with no object, as if there were none: what it lays is its own. -/
def pureBody (call : CallF) (n : Nat) (cf : CFn) (args : List Val) : Option Val :=
  if Val.closeds args then
    match runBody call n cf (Val.fzs args) [] with
    | some (v, _) => if v.closed then some v.fz else none
    | none => none
  else none

def evF (F : FuncId → Option CFn) (H : FuncId → Option Hook) : Nat → FuncId → List Val → Hp → Option (Val × Hp)
  | 0, _, _, _ => none
  | n + 1, g, args, σ =>
    match H g with
    | some h => h args σ
    | none =>
      match F g with
      | none => none
      | some cf =>
        if cf.pure then
          match pureBody (evF F H n) n cf args with
          | some v => some (v, σ)
          | none => none
        else runBody (evF F H n) n cf args σ

end Go.Ev
