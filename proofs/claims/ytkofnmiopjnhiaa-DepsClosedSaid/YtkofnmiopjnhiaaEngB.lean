/- The engine, part B: the resolved form of the model's operations and code, and how the model's are resolved. -/
import Derived.Test.YtkofnmiopjnhiaaEngA
set_option linter.unusedVariables false
set_option linter.unusedSimpArgs false
namespace Go.Proofs.Eng
open Go

inductive Opd where
  | t (n : Nat)
  | c (x : AV)
  deriving Inhabited

/-- How two values are held against each other. -/
inductive EqD where
  | pbool
  | pint
  | pstr
  | pptr
  | pslice
  | pmap
  | pfunc
  | pfloat
  | struct (fs : List (Nat × Option Nat × EqD))
  deriving Inhabited

/-- How a map's keys are held against each other. -/
inductive KD where
  | int (k : IntKind)
  | string
  | bool
  | agg (d : EqD)
  deriving Inhabited

inductive ConvD where
  | toInt (k : IntKind)
  | same
  | bytes (e : TypeId)
  | str
  | mark
  deriving Inhabited

inductive AOp where
  | mov (x : Opd)
  | pick (c a b : Opd)
  | box (t : TypeId) (x : Opd)
  | new (t : TypeId) (zero : AV)
  | build (zero : List AV) (parts : List (Nat × Nat × Opd))
  | bslice (e : TypeId) (sz : Nat) (lay : Option Nat) (len : Nat) (zero : List AV) (parts : List (Nat × Nat × Opd))
  | load (n : Option Nat) (a : Opd)
  | store (n : Nat) (a x : Opd)
  | nilchk (x : Opd)
  | bin (op : BinOp) (x y : Opd)
  | eq (neg : Bool) (d : EqD) (x y : Opd)
  | un (op : UnOp) (x : Opd)
  | conv (c : ConvD) (x : Opd)
  | mkfn (f : FuncId) (fs cs : List Opd)
  | mkmap
  | mkslice (e : TypeId) (sz bytes : Nat) (zero : AV) (l c : Opd)
  | slstr (x : Opd) (lo hi : Option Opd)
  | slice (sz : Nat) (x : Opd) (lo hi : Option Opd)
  | faddr (off : Nat) (x : Opd)
  | field (off : Nat) (n : Option Nat) (x : Opd)
  | iaddr (sz : Nat) (x i : Opd)
  | sidx (x i : Opd)
  | lookup (kd : KD) (zero : AV) (m k : Opd) (ok : Bool)
  | mapupd (kd : KD) (m k v : Opd)
  | extract (t : Opd) (i : Nat)
  | len (x : Opd)
  | lens (x : Opd)
  | lenm (x : Opd)
  | append (e : TypeId) (sz bytes : Nat) (s x : Opd)
  | appends (e : TypeId) (sz bytes : Nat) (s x : Opd)
  | delete (kd : KD) (m k : Opd)
  | clear (sz : Nat) (z : AV) (x : Opd)
  | mnmx (mx : Bool) (xs : List Opd)
  | call (f : Opd) (args : List Opd)
  deriving Inhabited

structure AOper where
  dst : Option Nat
  op : AOp
  grd : Option (Nat × Bool)
  deriving Inhabited

inductive AC where
  | skip
  | seq (a b : AC)
  | ops (l : List AOper)
  | dops (id : Nat) (l : List AOper) (quiet : List Nat) (df : List (Nat × Nat))
  | cond (c : Opd) (a b : AC)
  | block (id : Nat) (b : AC)
  | loop (b : AC)
  | exit (id : Nat)
  | ret
  | rangeFn (f : Opd) (ps : List Nat) (asg body : AC)
  deriving Inhabited

structure AFunc where
  ntmps : Nat
  results : List (Sum Nat (Nat × Option Nat))   -- a temporary, or a cell's address and its layout
  body : AC
  frz : Bool := false   -- is what it gives back frozen?
  deriving Inhabited

/-! ### Resolving -/
def pOpd : Operand → Option Opd
  | .tmp t => some (.t t)
  | .const v => some (.c (AV.ofV v))
  | .global _ => none
  | .func f => some (.c (.fn f [] []))

def pOpds (xs : Array Operand) : Option (List Opd) := xs.toList.mapM pOpd

def pOpt : Option Operand → Option (Option Opd)
  | none => some none
  | some x => (pOpd x).map some

/-- The layout of a type's values: the cells of a struct or an array; none: one cell. -/
def pLay (P : Program) (t : TypeId) : Option (Option Nat) :=
  match P.info? t, P.underlying t with
  | some i, some (.struct _) => some (some i.size)
  | some i, some (.array _ _) => some (some i.size)
  | some i, some _ => some none
  | _, _ => none

def pEq (P : Program) : Nat → TypeId → Option EqD
  | 0, _ => none
  | n + 1, t =>
    match P.underlying t with
    | some .bool => some .pbool
    | some (.int _) => some .pint
    | some .string => some .pstr
    | some (.pointer _) => some .pptr
    | some (.slice _) => some .pslice
    | some (.map _ _) => some .pmap
    | some (.func _ _ _) => some .pfunc
    | some (.float _) => some .pfloat
    | some (.struct fs) =>
      if P.stoodInHeld t || P.eqGuardType P.depth t then none else
      (fs.toList.filter (fun (f : Field) => f.name ≠ "_")).mapM (fun (f : Field) => do
        let l ← pLay P f.type
        let d ← pEq P n f.type
        pure (f.offset, l, d)) |>.map .struct
    | _ => none

def pKD (P : Program) (t : TypeId) : Option KD :=
  match P.underlying t with
  | some (.int k) => some (.int k)
  | some .string => some .string
  | some .bool => some .bool
  | some (.struct _) => (pEq P 16 t).map .agg
  | _ => none

def pParts (P : Program) (f : Nat → Option (Nat × Nat)) (ps : Array (Nat × Operand)) : Option (List (Nat × Nat × Opd)) :=
  ps.toList.mapM fun (i, x) => do
    let (off, size) ← f i
    let x ← pOpd x
    pure (off, size, x)

def pSize (P : Program) (t : TypeId) : Option Nat := (P.info? t).map (·.size)

def pZero (P : Program) (t : TypeId) : Option Value := (P.info? t).bind (·.zero)

def pCall (P : Program) (c : Call) : Option AOp :=
  match c.callee with
  | .value f => do pure (.call (← pOpd f) (← pOpds c.args))
  | .invoke _ _ => none
  | .builtin .len =>
    match c.argTypes.toList, c.args.toList with
    | [t], [x] =>
      match P.underlying t with
      | some .string => (pOpd x).map .lens
      | some (.slice _) => (pOpd x).map .len
      | some (.map _ _) => (pOpd x).map .lenm
      | _ => none
    | _, _ => none
  | .builtin .append =>
    match c.argTypes.toList, c.args.toList with
    | [t, u], [s, x] =>
      match P.underlying t, P.underlying u with
      | some (.slice e), some (.slice _) => do
        let i ← P.info? e
        let z ← i.zero
        if i.size = 0 ∨ i.bytes = 0 ∨ z.cells.size ≠ i.size then none else
        pure (.append e i.size i.bytes (← pOpd s) (← pOpd x))
      | some (.slice e), some .string => do
        let i ← P.info? e
        let z ← i.zero
        if i.size ≠ 1 ∨ i.bytes = 0 ∨ z.cells.size ≠ i.size then none else
        pure (.appends e i.size i.bytes (← pOpd s) (← pOpd x))
      | _, _ => none
    | _, _ => none
  | .builtin .delete =>
    match c.argTypes.toList, c.args.toList with
    | t :: _, [m, k] =>
      match P.underlying t with
      | some (.map kt _) => do pure (.delete (← pKD P kt) (← pOpd m) (← pOpd k))
      | _ => none
    | _, _ => none
  | .builtin .clear =>
    match c.argTypes.toList, c.args.toList with
    | [t], [x] =>
      match P.underlying t with
      | some (.slice e) => do
        let i ← P.info? e
        let z ← i.zero
        if i.size = 0 ∨ z.cells.size ≠ i.size then none else
        pure (.clear i.size (AV.ofV z) (← pOpd x))
      | _ => none
    | _, _ => none
  | .builtin .min => (pOpds c.args).map (.mnmx false)
  | .builtin .max => (pOpds c.args).map (.mnmx true)
  | .builtin _ => none

def pOp (P : Program) : Op → Option AOp
  | .move x => (pOpd x).map .mov
  | .assign x => (pOpd x).map .mov
  | .pick c a b => do pure (.pick (← pOpd c) (← pOpd a) (← pOpd b))
  | .alloc t => do pure (.new t (AV.ofV (← pZero P t)))
  | .box t x => do pure (.box t (← pOpd x))
  | .build t ps => do
    let z ← pZero P t
    match P.underlying t with
    | some (.struct fs) =>
      let places ← fs.toList.mapM (fun (f : Field) => (P.info? f.type).map fun i => (f.offset, i.size))
      pure (.build (z.cells.toList.map .lit) (← pParts P (fun i => places[i]?) ps))
    | some (.array _ e) => do
      let s ← pSize P e
      pure (.build (z.cells.toList.map .lit) (← pParts P (fun i => some (i * s, s)) ps))
    | _ => none
  | .buildSlice t len ps => do
    match P.underlying t with
    | some (.slice e) =>
      let s ← pSize P e
      let z ← pZero P e
      if s = 0 ∨ len * s > 16777216 ∨ z.cells.size ≠ s then none else
      pure (.bslice e s (← pLay P e) len (z.cells.toList.map .lit) (← pParts P (fun i => some (i * s, s)) ps))
    | _ => none
  | .load t a => do pure (.load (← pLay P t) (← pOpd a))
  | .store t a x => do pure (.store (← pSize P t) (← pOpd a) (← pOpd x))
  | .nilCheck x => (pOpd x).map .nilchk
  | .binOp op t x y _ =>
    match op with
    | .eql => do pure (.eq false (← pEq P 16 t) (← pOpd x) (← pOpd y))
    | .neq => do pure (.eq true (← pEq P 16 t) (← pOpd x) (← pOpd y))
    | op => do pure (.bin op (← pOpd x) (← pOpd y))
  | .unOp op _ x => do pure (.un op (← pOpd x))
  | .convert s d x =>
    match P.underlying s, P.underlying d with
    | some (.int _), some (.int k) => (pOpd x).map (.conv (.toInt k))
    | some .string, some .string => (pOpd x).map (.conv .same)
    | some .string, some (.slice e) =>
      match P.underlying e with
      | some (.int .u8) => (pOpd x).map (.conv (.bytes e))
      | _ => none
    | some (.slice e), some .string =>
      match P.underlying e with
      | some (.int .u8) => (pOpd x).map (.conv .str)
      | _ => none
    | some (.slice _), some (.slice e) =>
      match P.underlying e with
      | some (.int .u8) => if s == d then (pOpd x).map (.conv .mark) else none
      | _ => none
    | _, _ => none
  | .makeFunc (.func f) fs cs => do pure (.mkfn f (← pOpds fs) (← pOpds cs))
  | .makeMap t none => some .mkmap
  | .makeSlice t l c => do
    match P.underlying t with
    | some (.slice e) =>
      let i ← P.info? e
      let z ← i.zero
      if i.size = 0 ∨ i.bytes = 0 ∨ z.cells.size ≠ i.size then none else
      pure (.mkslice e i.size i.bytes (AV.ofV z) (← pOpd l) (← pOpd c))
    | _ => none
  | .slice t x lo hi none =>
    match P.underlying t with
    | some .string => do pure (.slstr (← pOpd x) (← pOpt lo) (← pOpt hi))
    | some (.slice e) => do
      let s ← pSize P e
      if s = 0 then none else
      pure (.slice s (← pOpd x) (← pOpt lo) (← pOpt hi))
    | _ => none
  | .fieldAddr s x i =>
    match P.underlying s with
    | some (.struct fs) => do
      let f ← fs[i]?
      let z ← pSize P f.type
      if z = 0 then none else pure (.faddr f.offset (← pOpd x))
    | _ => none
  | .field s x i =>
    match P.underlying s with
    | some (.struct fs) => do
      let f ← fs[i]?
      pure (.field f.offset (← pLay P f.type) (← pOpd x))
    | _ => none
  | .indexAddr t x i =>
    match P.underlying t with
    | some (.slice e) => do
      let s ← pSize P e
      if s = 0 then none else pure (.iaddr s (← pOpd x) (← pOpd i))
    | _ => none
  | .index t x i =>
    match P.underlying t with
    | some .string => do pure (.sidx (← pOpd x) (← pOpd i))
    | _ => none
  | .lookup t m k ok =>
    match P.underlying t with
    | some (.map kt e) => do pure (.lookup (← pKD P kt) (AV.ofV (← pZero P e)) (← pOpd m) (← pOpd k) ok)
    | _ => none
  | .mapUpdate t m k v =>
    match P.underlying t with
    | some (.map kt _) => do pure (.mapupd (← pKD P kt) (← pOpd m) (← pOpd k) (← pOpd v))
    | _ => none
  | .insert t m k v =>
    match P.underlying t with
    | some (.map kt _) => do pure (.mapupd (← pKD P kt) (← pOpd m) (← pOpd k) (← pOpd v))
    | _ => none
  | .extract t i => do pure (.extract (← pOpd t) i)
  | .call c => pCall P c
  | _ => none

def pOper (P : Program) (ops : Array Oper) (o : Oper) : Option AOper := do
  let op ← pOp P o.op
  match o.guard with
  | none => pure { dst := o.dst, op, grd := none }
  | some (j, b) => do
    let d ← (ops[j]?).bind (·.dst)
    pure { dst := o.dst, op, grd := some (d, b) }

end Go.Proofs.Eng
