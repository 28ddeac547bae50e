/- The loaded code, read once: types become sizes and offsets. -/
import Derived.Test.YtphmgckopecggaaDoorDefs
namespace Go.Ev

structure Cfg where
  imm : Nat → Bool := fun _ => true      -- do a function's boxes stay as they are?
  ref : Nat → Bool := fun _ => false     -- does a function append to objects?
  pure : Nat → Bool := fun _ => false    -- is a function called as if there were no objects?

section
variable (P : Program)

def szOf (t : TypeId) : Option Nat := (P.info? t).map (·.size)
def byOf (t : TypeId) : Option Nat := (P.info? t).map (·.bytes)
def isAggD : TypeDesc → Bool
  | .struct _ => true
  | .array _ _ => true
  | _ => false
def aggOf (t : TypeId) : Option Bool := (P.underlying t).map isAggD
def zeroOf (t : TypeId) : Option Val := ((P.info? t).bind (·.zero)).bind (ofV 4)

def zeroIs (t : TypeId) (n : Nat) : Bool :=
  match zeroOf P t with
  | some z => decide (z.cells.length = n)
  | none => false

def compO : Operand → Option CO
  | .tmp i => some (.t i)
  | .const v => (ofV 4 v).map .c
  | .func f => some (.c (.func (.func f) [] []))
  | .global _ => none

def compOs : List Operand → Option (List CO)
  | [] => some []
  | x :: r => match compO x, compOs r with
    | some y, some s => some (y :: s)
    | _, _ => none

def compOO : Option Operand → Option (Option CO)
  | none => some none
  | some x => (compO x).map some

def eqFields : List Field → Option (List (Nat × EqT))
  | [] => some []
  | f :: r =>
    if f.name = "_" then none else
    match P.underlying f.type, szOf P f.type, eqFields r with
    | some .bool, some 1, some s => some ((f.offset, .bool) :: s)
    | some (.int _), some 1, some s => some ((f.offset, .int) :: s)
    | some .string, some 1, some s => some ((f.offset, .str) :: s)
    | _, _, _ => none

def eqOf (t : TypeId) : Option EqT :=
  match P.underlying t with
  | some .bool => some .bool
  | some (.int _) => some .int
  | some .string => some .str
  | some (.pointer _) => some .ptr
  | some (.func _ _ _) => some .fn
  | some (.map _ _) => some .map
  | some (.slice _) => some .slice
  | some (.struct fs) => if P.stoodInHeld t || P.eqGuardType P.depth t then none else (eqFields P fs.toList).map .struct
  | _ => none

def partsS (fs : Array Field) : List (Nat × Operand) → Option (List (Nat × Nat × CO))
  | [] => some []
  | (i, x) :: r =>
    match fs[i]? with
    | none => none
    | some f => match szOf P f.type, compO x, partsS fs r with
      | some n, some y, some s => some ((f.offset, n, y) :: s)
      | _, _, _ => none

def partsA (sz : Nat) : List (Nat × Operand) → Option (List (Nat × Nat × CO))
  | [] => some []
  | (i, x) :: r => match compO x, partsA sz r with
    | some y, some s => some ((i * sz, sz, y) :: s)
    | _, _ => none

def keyTy (t : TypeId) : Option (Option IntKind) :=
  match P.underlying t with
  | some (.int k) => some (some k)
  | some .string => some none
  | _ => none

def compOp (c : Cfg) (fid : FuncId) (o : Oper) : Option COp :=
  match o.op with
  | .move x | .assign x => (compO x).map .mv
  | .pick a b d => match compO a, compO b, compO d with
    | some a, some b, some d => some (.pick a b d)
    | _, _, _ => none
  | .alloc e => match zeroOf P e with
    | some v => if allOne v.cells then some (.alloc v.cells) else none
    | none => none
  | .box _ x => (compO x).map fun x => if c.imm fid then .boxI x else .boxM x
  | .build t ps => match zeroOf P t, P.underlying t with
    | some z, some (.struct fs) => if fs.all (fun f => (P.info? f.type).isSome) && allOne z.cells then (partsS P fs ps.toList).map (.build z.cells) else none
    | some z, some (.array _ e) => match szOf P e with
      | some sz => if allOne z.cells then (partsA sz ps.toList).map (.build z.cells) else none
      | none => none
    | _, _ => none
  | .buildSlice t n ps => match P.underlying t with
    | some (.slice e) => match szOf P e, zeroOf P e with
      | some sz, some z => if z.cells.length = sz ∧ 1 ≤ sz ∧ n * sz ≤ 1048576 ∧ allOne z.cells then (partsA sz ps.toList).map (.buildSl sz n (repZ n z.cells)) else none
      | _, _ => none
    | _ => none
  | .load t a => match aggOf P t, szOf P t, compO a with
    | some g, some n, some x => some (.load g n x)
    | _, _, _ => none
  | .store t a x => match szOf P t, compO a, compO x with
    | some n, some a, some x => some (.store n a x)
    | _, _, _ => none
  | .nilCheck x => (compO x).map .nilCheck
  | .binOp op t x y _ => match eqOf P t, compO x, compO y with
    | some e, some x, some y => some (.bin op e x y)
    | _, _, _ => none
  | .unOp op _ x => (compO x).map (.un op)
  | .convert s d x => match P.underlying s, P.underlying d, compO x with
    | some (.int _), some (.int k), some x => some (.cvInt k x)
    | some .string, some .string, some x => some (.cvSame x)
    | some (.slice e), some .string, some x => match P.underlying e with
      | some (.int .u8) => some (.cvToStr x)
      | _ => none
    | some .string, some (.slice e), some x => match P.underlying e with
      | some (.int .u8) => some (.cvToBytes x)
      | _ => none
    | some (.slice _), some (.slice e), some x => match P.underlying e with
      | some (.int .u8) => if s = d then some (.cvMark x) else none
      | _ => none
    | _, _, _ => none
  | .makeSlice t n m => match P.underlying t, compO n, compO m with
    | some (.slice e), some n, some m => match szOf P e, byOf P e, zeroOf P e with
      | some sz, some by_, some z => if z.cells.length = sz ∧ 1 ≤ sz ∧ 1 ≤ by_ ∧ allOne z.cells then some (.mkSl (c.ref fid) sz by_ z.cells n m) else none
      | _, _, _ => none
    | _, _, _ => none
  | .makeMap _ r => if r.isNone then some .mkMap else none
  | .lookup t m k b => match P.underlying t, compO m, compO k with
    | some (.map q e), some m, some k => match zeroOf P e with
      | some z => match keyTy P q with
        | some kt => some (.lookup kt z b m k)
        | none => none
      | none => none
    | _, _, _ => none
  | .mapUpdate t m k x => match P.underlying t, compO m, compO k, compO x with
    | some (.map q _), some m, some k, some x => match keyTy P q with
      | some kt => some (.mapSet kt m k x)
      | none => none
    | _, _, _, _ => none
  | .makeFunc fn a b => match compOs a.toList, compOs b.toList with
    | some a, some b => some (.mkfn fn a b)
    | _, _ => none
  | .slice t x lo hi mx => match compO x, compOO lo, compOO hi, compOO mx with
    | some x, some lo, some hi, some mx => match P.underlying t with
      | some (.slice e) => (szOf P e).map fun sz => .slice sz x lo hi mx
      | some .string => if mx.isNone then some (.sliceS x lo hi) else none
      | _ => none
    | _, _, _, _ => none
  | .fieldAddr s x i => match P.underlying s, compO x with
    | some (.struct fs), some x => match fs[i]? with
      | some f => match szOf P f.type with
        | some (_ + 1) => some (.faddr f.offset x)
        | _ => none
      | none => none
    | _, _ => none
  | .field s x i => match P.underlying s, compO x with
    | some (.struct fs), some x => match fs[i]? with
      | some f => match aggOf P f.type, szOf P f.type with
        | some g, some n => some (.fld g f.offset n x)
        | _, _ => none
      | none => none
    | _, _ => none
  | .indexAddr t x i => match P.underlying t, compO x, compO i with
    | some (.slice e), some x, some i => (szOf P e).map fun sz => .iaddr sz x i
    | some (.array n e), some x, some i => (szOf P e).map fun sz => .iaddrA n sz x i
    | _, _, _ => none
  | .index t x i => match P.underlying t, compO x, compO i with
    | some .string, some x, some i => some (.idxS x i)
    | some (.array n e), some x, some i => match aggOf P e, szOf P e with
      | some g, some sz => some (.idxA g n sz x i)
      | _, _ => none
    | _, _, _ => none
  | .extract x i => (compO x).map (.ext i)
  | .call { callee := .builtin .append, args := as, argTypes := ts } => match as.toList, ts.toList with
    | [x, y], [t, u] => match compO x, compO y, P.underlying t with
      | some x, some y, some (.slice e) => match szOf P e, byOf P e, P.underlying u with
        | some sz, some by_, some (.slice _) => if 1 ≤ by_ ∧ 1 ≤ sz ∧ zeroIs P e sz = true then some (.app (c.ref fid) sz by_ x y) else none
        | some sz, some by_, some .string => if 1 ≤ by_ ∧ sz = 1 ∧ zeroIs P e sz = true then some (.app (c.ref fid) sz by_ x y) else none
        | _, _, _ => none
      | _, _, _ => none
    | _, _ => none
  | .call { callee := .builtin .len, args := as, argTypes := ts } => match as.toList, ts.toList with
    | x :: _, t :: _ => match compO x, P.underlying t with
      | some x, some (.slice _) => some (.len false x)
      | some x, some .string => some (.len true x)
      | _, _ => none
    | _, _ => none
  | .call { callee := .builtin .delete, args := as, argTypes := ts } => match as.toList, ts.toList with
    | [m, k], t :: _ => match P.underlying t, compO m, compO k with
      | some (.map q _), some m, some k => match keyTy P q with
        | some kt => some (.del kt m k)
        | none => none
      | _, _, _ => none
    | _, _ => none
  | .call { callee := .builtin .max, args := as, argTypes := _ } => match as.toList with
    | [x, y] => match compO x, compO y with
      | some x, some y => some (.minmax true x [y])
      | _, _ => none
    | _ => none
  | .call { callee := .builtin .min, args := as, argTypes := _ } => match as.toList with
    | [x, y] => match compO x, compO y with
      | some x, some y => some (.minmax false x [y])
      | _, _ => none
    | _ => none
  | .call { callee := .value f, args := as, argTypes := _ } => match compO f, compOs as.toList with
    | some f, some as => some (.call f as)
    | _, _ => none
  | _ => none

def dstOk (nt : Nat) : Option Nat → Bool
  | none => true
  | some d => decide (d < nt)

def guardOf (nt : Nat) (ops : Array Oper) (o : Oper) : Option (Option (Nat × Bool)) :=
  match o.guard with
  | none => some none
  | some (j, b) =>
    match ops[j]? with
    | some oj =>
      match oj.dst with
      | some d => if d < nt then some (some (d, b)) else none
      | none => none
    | none => none

def compStep (c : Cfg) (fid : FuncId) (nt : Nat) (ops : Array Oper) (o : Oper) : Option CStep :=
  match compOp P c fid o, guardOf nt ops o with
  | some co, some g => if dstOk nt o.dst then some { dst := o.dst, guard := g, op := co } else none
  | _, _ => none

def compSteps (c : Cfg) (fid : FuncId) (nt : Nat) (ops : Array Oper) : List Oper → Option (List CStep)
  | [] => some []
  | o :: r =>
    match compStep P c fid nt ops o, compSteps c fid nt ops r with
    | some s, some ss => some (s :: ss)
    | _, _ => none

/-! regions whose order is open -/

def pureOp : COp → Bool
  | .mv _ | .pick .. | .boxI _ | .build .. | .buildSl .. | .nilCheck _ | .bin .. | .un .. | .cvInt .. | .cvSame _ | .cvToStr _ | .cvToBytes _ | .mkfn .. | .slice .. | .sliceS .. | .faddr .. | .fld .. | .iaddr .. | .iaddrA ..
  | .idxS .. | .idxA .. | .ext .. | .len .. | .minmax .. => true
  | _ => false

def namesO : CO → List Nat
  | .t i => [i]
  | .c _ => []

def namesP (ps : List (Nat × Nat × CO)) : List Nat := ps.flatMap fun p => namesO p.2.2
def namesOp (x : Option CO) : List Nat := match x with | some x => namesO x | none => []

def namesOf : COp → List Nat
  | .mv x | .boxI x | .boxM x | .nilCheck x | .un _ x | .cvInt _ x | .cvSame x | .cvToStr x | .cvToBytes x | .cvMark x | .faddr _ x | .fld _ _ _ x | .ext _ x | .len _ x | .load _ _ x => namesO x
  | .pick a b c => namesO a ++ namesO b ++ namesO c
  | .alloc _ | .mkMap => []
  | .build _ ps | .buildSl _ _ _ ps => namesP ps
  | .store _ a x | .bin _ _ a x | .iaddr _ a x | .iaddrA _ _ a x | .idxS a x | .idxA _ _ _ a x | .app _ _ _ a x | .lookup _ _ _ a x | .del _ a x => namesO a ++ namesO x
  | .mkSl _ _ _ _ a x => namesO a ++ namesO x
  | .mkfn _ a b => a.flatMap namesO ++ b.flatMap namesO
  | .slice _ x lo hi mx => namesO x ++ namesOp lo ++ namesOp hi ++ namesOp mx
  | .sliceS x lo hi => namesO x ++ namesOp lo ++ namesOp hi
  | .minmax _ x r => namesO x ++ r.flatMap namesO
  | .mapSet _ a b x => namesO a ++ namesO b ++ namesO x
  | .call f as => namesO f ++ as.flatMap namesO

def edges (o : Oper) : List Nat := (o.after.toList.filter (Region.binds .any)).map (·.on)

/-- All that comes ahead of each operation, as bits. -/
def befs : List Oper → List Nat → List Nat
  | [], acc => acc
  | o :: r, acc => befs r (acc ++ [(edges o).foldl (fun m j => m ||| 2 ^ j ||| acc.getD j 0) 0])

/-- How many effects may have been when the operation i runs. -/
def stages (effs : List Nat) (bs : List Nat) (i : Nat) : List Nat :=
  (List.range (effs.length + 1)).filter fun k => (effs.take k).all (fun j => !(bs.getD j 0).testBit i) && (effs.drop k).all (fun j => !(bs.getD i 0).testBit j)

def kindOf (allocs effs bs : List Nat) (i : Nat) (op : COp) : DK :=
  if pureOp op then .pure else
  match op with
  | .load .. => .read (stages effs bs i)
  | .alloc _ => .new (allocs.findIdx (· == i))
  | _ => .eff

def isEffOp (op : COp) : Bool :=
  !pureOp op && match op with
    | .load .. | .alloc _ => false
    | _ => true

def isNewOp : COp → Bool
  | .alloc _ => true
  | _ => false

def newCells : COp → List Val
  | .alloc z => z
  | _ => []

/-- The names that an operation reads or writes. -/
def namesS (s : CStep) : List Nat := s.dst.toList ++ (match s.guard with | some (d, _) => [d] | none => []) ++ namesOf s.op

def orderOk (ss : List CStep) (bs : List Nat) : Bool :=
  let n := ss.length
  (List.range n).all fun i => (List.range n).all fun j =>
    match ss[i]?, ss[j]? with
    | some x, some y =>
      (if i < j && isEffOp x.op && isEffOp y.op then (bs.getD j 0).testBit i else true) &&
      (if i != j then
        match y.dst with
        | some d => if (namesS x).contains d then (if j < i then (bs.getD i 0).testBit j else (bs.getD j 0).testBit i) else true
        | none => true
       else true)
    | _, _ => false

def edgesOk : Nat → List Oper → Bool
  | _, [] => true
  | k, o :: r => (edges o).all (fun j => decide (j < k)) && edgesOk (k + 1) r

def allocsOf (ss : List CStep) : List Nat := (List.range ss.length).filter fun i => match ss[i]? with | some s => isNewOp s.op | none => false
def effsOf (ss : List CStep) : List Nat := (List.range ss.length).filter fun i => match ss[i]? with | some s => isEffOp s.op | none => false

def dsteps (ss : List CStep) (bs : List Nat) : List DStep :=
  ss.zipIdx.map fun (s, i) => { dst := s.dst, guard := s.guard, op := s.op, kind := kindOf (allocsOf ss) (effsOf ss) bs i s.op }

def dnews (ss : List CStep) : List (List Val) := (allocsOf ss).map fun i => match ss[i]? with | some s => newCells s.op | none => []

def compC (c : Cfg) (fid : FuncId) (nt : Nat) : Code → Option CCode
  | .skip => some .skip
  | .region _ ops false => (compSteps P c fid nt ops ops.toList).map .region
  | .region _ ops true =>
    if P.follows .mixedOrders then
      match compSteps P c fid nt ops ops.toList with
      | some ss => if orderOk ss (befs ops.toList []) && edgesOk 0 ops.toList then some (.regionD (dnews ss) (dsteps ss (befs ops.toList []))) else none
      | none => none
    else none
  | .seq a b =>
    match compC c fid nt a, compC c fid nt b with
    | some x, some y => some (.seq x y)
    | _, _ => none
  | .cond q a b =>
    match compO q, compC c fid nt a, compC c fid nt b with
    | some q, some x, some y => some (.cond q x y)
    | _, _, _ => none
  | .block id b => (compC c fid nt b).map (.block id)
  | .loop b => (compC c fid nt b).map .loop
  | .exit id => some (.exit id)
  | .ret => some .ret
  | _ => none

def compRes1 : ResultVar → Option CRes
  | .tmp i => some (.tmp i)
  | .cell i t =>
    match aggOf P t, szOf P t with
    | some g, some n => some (.cell i g n)
    | _, _ => none

def compRess : List ResultVar → Option (List CRes)
  | [] => some []
  | r :: rs =>
    match compRes1 P r, compRess rs with
    | some v, some vs => some (v :: vs)
    | _, _ => none

def compFn (c : Cfg) (fid : FuncId) : Option CFn :=
  match P.funcs[fid]? with
  | none => none
  | some fn =>
    if fn.name == "runtime.NumGoroutine" then none else
    match fn.body with
    | none => none
    | some b =>
      match compC P c fid fn.ntmps b, compRess P fn.results.toList with
      | some b, some rs => some { ntmps := fn.ntmps, results := rs, body := b, pure := c.pure fid }
      | _, _ => none

end
end Go.Ev
