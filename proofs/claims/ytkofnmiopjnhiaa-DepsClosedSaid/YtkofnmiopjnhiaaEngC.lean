/- The engine, part C: the abstract heap, and what each operation does on abstract values. -/
import Derived.Test.YtkofnmiopjnhiaaEngB
set_option linter.unusedVariables false
set_option linter.unusedSimpArgs false
namespace Go.Proofs.Eng
open Go

/-- How a piece of code is left. -/
inductive AX where
  | nrm
  | ret
  | exit (id : Nat)
  deriving Inhabited, DecidableEq

inductive AObj where
  | cells (cs : List AV) (t : TypeId)
  | arr (sz : Nat) (es : List AV) (t : TypeId)
  | map (es : List (Value × AV × Nat)) (clk : Nat)
  | loop (st : LoopState) (pend : AX) (tmps : List AV) (ps : List Nat) (asg body : AC)
  deriving Inhabited

/-- The abstract heap: objects by number; the least number that was written since the call began. -/
structure Hp where
  l : List (Option AObj)
  d : Option Nat

def hget (H : Hp) (id : Nat) : Option AObj := (H.l[id]?).getD none
def halloc (H : Hp) (o : AObj) : Hp := { H with l := H.l ++ [some o] }
def dmin (d : Option Nat) (n : Nat) : Option Nat := match d with | none => some n | some m => some (min m n)
def hset (H : Hp) (id : Nat) (o : Option AObj) : Hp := { l := H.l.set id o, d := dmin H.d id }

/-! ### Bytes and strings by lists -/
def mkS (l : List UInt8) : ByteArray := ⟨l.toArray⟩
def bl (s : ByteArray) : List UInt8 := s.data.toList
@[simp] theorem bl_mkS (l : List UInt8) : bl (mkS l) = l := rfl
@[simp] theorem mkS_bl (s : ByteArray) : mkS (bl s) = s := by cases s; simp [mkS, bl]
theorem bl_length (s : ByteArray) : (bl s).length = s.size := rfl

@[reducible] def avInt (k : IntKind) (n : Int) : AV := .lit (.int k n)
@[reducible] def avBool (b : Bool) : AV := .lit (.bool b)
@[reducible] def avStr (l : List UInt8) : AV := .lit (.string (mkS l))
@[reducible] def avNilS : AV := .lit (.slice none 0 0)
@[reducible] def avU : AV := .lit (.tuple #[])

def avByte (b : UInt8) : AV := .lit (.int .u8 b.toNat)
/-- The bytes that cells hold. -/
def bytesOf : List AV → Option (List UInt8)
  | [] => some []
  | .lit (.int .u8 n) :: r => (bytesOf r).map (UInt8.ofNat n.toNat :: ·)
  | _ :: _ => none

/-! ### Operands -/
def aeval (τ : List AV) : Opd → AV
  | .t n => τ.getD n avU
  | .c x => x

/-! ### Loading and storing -/
def loadC (n : Option Nat) (xs : List AV) : Option AV :=
  match n with
  | none => xs[0]?
  | some k => if k ≤ xs.length then some (.agg (xs.take k)) else none

def aload (H : Hp) (n : Option Nat) : AV → Option AV
  | .ptr id off =>
    match hget H id with
    | some (.cells cs _) => loadC n (cs.drop off)
    | _ => none
  | .ep id idx inner =>
    match hget H id with
    | some (.arr sz es _) =>
      match es[idx]? with
      | some e => if e.good then (if n = some sz ∧ inner = 0 then (match e with | .agg xs => some (.agg xs) | _ => none) else if e.cells.length = sz then loadC n (e.cells.drop inner) else none) else none
      | none => none
    | _ => none
  | .vp xs => loadC n xs
  | _ => none

/-- A row of cells written from a place on. -/
def setFrom {α : Type} (cs : List α) (off : Nat) : List α → List α
  | [] => cs
  | x :: xs => setFrom (cs.set off x) (off + 1) xs

def astore (H : Hp) (n : Nat) (a x : AV) : Option Hp :=
  if x.good = true ∧ x.cells.length = n then
    match a with
    | .ptr id off =>
      match hget H id with
      | some (.cells cs t) => if off + n ≤ cs.length then some (hset H id (some (.cells (setFrom cs off x.cells) t))) else none
      | _ => none
    | .ep id idx inner =>
      match hget H id with
      | some (.arr sz es t) =>
        match es[idx]? with
        | some e =>
          if inner = 0 ∧ n = sz then some (hset H id (some (.arr sz (es.set idx x) t)))
          else match e with
            | .agg cs => if inner + n ≤ cs.length ∧ cs.length = sz then some (hset H id (some (.arr sz (es.set idx (.agg (setFrom cs inner x.cells))) t))) else none
            | _ => none
        | none => none
      | _ => none
    | _ => none
  else none

/-! ### Numbers -/
def ibits (op : BinOp) (k : IntKind) (x y : Int) : Option Int :=
  let a := BitVec.ofInt k.bits x
  let b := BitVec.ofInt k.bits y
  match op with
  | .and => some (k.wrap (a &&& b).toNat)
  | .or => some (k.wrap (a ||| b).toNat)
  | .xor => some (k.wrap (a ^^^ b).toNat)
  | .andNot => some (k.wrap (a &&& ~~~b).toNat)
  | _ => none

def abinI (op : BinOp) (k : IntKind) (a b : Int) : Option AV :=
  match op with
  | .add => some (avInt k (k.wrap (a + b)))
  | .sub => some (avInt k (k.wrap (a - b)))
  | .mul => some (avInt k (k.wrap (a * b)))
  | .quo => if b = 0 then none else some (avInt k (k.wrap (a.tdiv b)))
  | .rem => if b = 0 then none else some (avInt k (a.tmod b))
  | .lss => some (avBool (decide (a < b)))
  | .leq => some (avBool (decide (a ≤ b)))
  | .gtr => some (avBool (decide (b < a)))
  | .geq => some (avBool (decide (b ≤ a)))
  | .eql => some (avBool (a == b))
  | .neq => some (avBool (a != b))
  | .and | .or | .xor | .andNot => (ibits op k a b).map (avInt k)
  | _ => none

def ashift (op : BinOp) (k : IntKind) (a b : Int) : Option AV :=
  if b < 0 then none else
  let n := min b.toNat k.bits
  match op with
  | .shl => some (avInt k (k.wrap (a * 2 ^ n)))
  | .shr => some (avInt k (a.fdiv (2 ^ n)))
  | _ => none

def abinS (op : BinOp) (x y : List UInt8) : Option AV :=
  match op with
  | .add => if x.length + y.length < 4611686018427387904 then some (avStr (x ++ y)) else none
  | .eql => some (avBool (x == y))
  | .neq => some (avBool (!(x == y)))
  | .lss => some (avBool (Op.bytesLess x y))
  | .leq => some (avBool (Op.bytesLess x y || x == y))
  | .gtr => some (avBool (!(Op.bytesLess x y || x == y)))
  | .geq => some (avBool (!Op.bytesLess x y))
  | _ => none

def abin (op : BinOp) (x y : AV) : Option AV :=
  match x, y with
  | .lit (.int k a), .lit (.int k' b) =>
    if op = .shl ∨ op = .shr then ashift op k a b else if k = k' then abinI op k a b else none
  | .lit (.string a), .lit (.string b) => abinS op (bl a) (bl b)
  | _, _ => none

def aun (op : UnOp) (x : AV) : Option AV :=
  match op, x with
  | .neg, .lit (.int k n) => some (avInt k (k.wrap (0 - n)))
  | .xor, .lit (.int k n) => (ibits .xor k (if k.signed then -1 else k.max) n).map (avInt k)
  | .not, .lit (.bool b) => some (avBool (!b))
  | _, _ => none

/-! ### Equality -/
/-- Is it surely no nil pointer, function or interface value? -/
def AV.isRef : AV → Bool
  | .ptr _ _ => true
  | .ep _ _ _ => true
  | .vp _ => true
  | .fn _ _ _ => true
  | .yld _ => true
  | _ => false

/-- Is a value of a kind nil? -/
def nilP : AV → Option Bool
  | .lit (.pointer none) => some true
  | .ptr _ _ => some false
  | .ep _ _ _ => some false
  | .vp _ => some false
  | _ => none
def nilS : AV → Option Bool
  | .lit (.slice none _ _) => some true
  | .sl _ _ => some false
  | .ra _ _ _ _ => some false
  | _ => none
def nilM : AV → Option Bool
  | .lit (.map none) => some true
  | .map _ => some false
  | _ => none
def nilF : AV → Option Bool
  | .lit .nilFunc => some true
  | .fn _ _ _ => some false
  | .yld _ => some false
  | _ => none
def nil2 (a b : Option Bool) : Option Bool :=
  match a, b with
  | some true, some b => some b
  | some false, some true => some false
  | _, _ => none
def eqI : AV → AV → Option Bool
  | .lit (.int k a), .lit (.int k' b) => if k = k' then some (a == b) else none
  | _, _ => none
def eqSt : AV → AV → Option Bool
  | .lit (.string a), .lit (.string b) => some (bl a == bl b)
  | _, _ => none
def eqB : AV → AV → Option Bool
  | .lit (.bool a), .lit (.bool b) => some (a == b)
  | _, _ => none

def eqFl : AV → AV → Option Bool
  | .lit (.float k a), .lit (.float k' b) => if k = k' then some (Op.floatEq k a b) else none
  | _, _ => none

def aprim (d : EqD) (x y : AV) : Option Bool :=
  match d with
  | .pint => eqI x y
  | .pstr => eqSt x y
  | .pbool => eqB x y
  | .pptr => nil2 (nilP x) (nilP y)
  | .pslice => nil2 (nilS x) (nilS y)
  | .pmap => nil2 (nilM x) (nilM y)
  | .pfunc => nil2 (nilF x) (nilF y)
  | .pfloat => eqFl x y
  | .struct _ => none

def apart (n : Option Nat) (cs : List AV) (off : Nat) : Option AV :=
  match n with
  | none => cs[off]?
  | some k => if off + k ≤ cs.length then some (.agg ((cs.drop off).take k)) else none

mutual
def aeq : EqD → AV → AV → Option Bool
  | .struct fs, x, y =>
    match x, y with
    | .agg xs, .agg ys => aeqs fs xs ys
    | _, _ => none
  | d, x, y => aprim d x y
def aeqs : List (Nat × Option Nat × EqD) → List AV → List AV → Option Bool
  | [], _, _ => some true
  | (off, n, d) :: r, xs, ys =>
    match apart n xs off, apart n ys off with
    | some x, some y =>
      match aeq d x y with
      | some true => aeqs r xs ys
      | some false => some false
      | none => none
    | _, _ => none
end

/-! ### Maps -/
def kSame (kd : KD) (k e : Value) : Option Bool :=
  match kd, k, e with
  | .int _, .int j a, .int j' b => if j = j' then some (a == b) else none
  | .string, .string a, .string b => some (bl a == bl b)
  | .bool, .bool a, .bool b => some (a == b)
  | .agg d, k, e =>
    match aeq d (AV.ofV k) (AV.ofV e) with
    | some true => if Instr.sameBits 10000 e k then some true else none
    | some false => some false
    | none => none
  | _, _, _ => none

/-- The place of a key; none: it can't be told. -/
def kFind (kd : KD) (k : Value) : List (Value × AV × Nat) → Option (Option (Nat × AV))
  | [] => some none
  | e :: r =>
    match kSame kd k e.1 with
    | some true => some (some (0, e.2.1))
    | some false => (kFind kd k r).map (·.map fun p => (p.1 + 1, p.2))
    | none => none

def EqD.plain : EqD → Bool
  | .pint => true
  | .pstr => true
  | .pbool => true
  | _ => false
def kOk (kd : KD) (k : Value) : Bool :=
  match kd, k with
  | .int _, .int _ _ => true
  | .string, .string _ => true
  | .bool, .bool _ => true
  | .agg (.struct fs), .agg cs => fs.all fun f => f.2.1.isNone && f.2.2.plain && decide (f.1 < cs.size)
  | _, _ => false
/-- Values that stand for themselves. -/
def allLit : List AV → Option (List Value)
  | [] => some []
  | .lit v :: r => (allLit r).map (v :: ·)
  | _ :: _ => none

def aLookup (H : Hp) (kd : KD) (z : AV) (ok : Bool) (k : Value) (m : AV) : Option AV :=
  match m with
  | .lit (.map none) => some (if ok then .tup [z, avBool false] else z)
  | .map id =>
    match hget H id with
    | some (.map es _) =>
      match kFind kd k es with
      | some (some p) => some (if ok then .tup [p.2, avBool true] else p.2)
      | some none => some (if ok then .tup [z, avBool false] else z)
      | none => none
    | _ => none
  | _ => none

def mPut (kd : KD) (k : Value) (v : AV) (es : List (Value × AV × Nat)) (clk : Nat) : Option (List (Value × AV × Nat) × Nat) :=
  match kFind kd k es with
  | some (some p) => some (es.modify p.1 fun e => (k, v, e.2.2), clk)
  | some none => some (es ++ [(k, v, clk)], clk + 1)
  | none => none

def aMapupd (H : Hp) (kd : KD) (k : Value) (v m : AV) : Option Hp :=
  match m with
  | .map id =>
    match hget H id with
    | some (.map es clk) => (mPut kd k v es clk).map fun p => hset H id (some (.map p.1 p.2))
    | _ => none
  | _ => none

def aDelete (H : Hp) (kd : KD) (k : Value) (m : AV) : Option (Option Hp) :=
  match m with
  | .lit (.map none) => some none
  | .map id =>
    match hget H id with
    | some (.map es clk) =>
      match kFind kd k es with
      | some (some p) => some (some (hset H id (some (.map (es.eraseIdx p.1) clk))))
      | some none => some (some (hset H id (some (.map es clk))))
      | none => none
    | _ => none
  | _ => none

def aLenm (H : Hp) (m : AV) : Option AV :=
  match m with
  | .lit (.map none) => some (avInt .i64 0)
  | .map id =>
    match hget H id with
    | some (.map es _) => some (avInt .i64 es.length)
    | _ => none
  | _ => none

/-- A key that is a number, a text or a bool. -/
def asKey (kd : KD) (x : AV) : Option Value :=
  match x with
  | .lit k => if kOk kd k then some k else none
  | .agg xs => (allLit xs).bind fun vs => if kOk kd (.agg vs.toArray) then some (.agg vs.toArray) else none
  | _ => none

/-! ### Slices -/
def asLen : AV → Option Nat
  | .lit (.slice none 0 0) => some 0
  | .sl _ xs => some xs.length
  | .ra _ _ _ n => some n
  | _ => none

/-- The elements of a slice. -/
def asElems (H : Hp) : AV → Option (List AV)
  | .lit (.slice none 0 0) => some []
  | .sl _ xs => some xs
  | .ra _ id off n =>
    match hget H id with
    | some (.arr _ es _) => if off + n ≤ es.length then some ((es.drop off).take n) else none
    | _ => none
  | _ => none

def aBound (x : Option AV) (dflt most : Nat) : Option Nat :=
  match x with
  | none => some dflt
  | some (.lit (.int _ i)) => if 0 ≤ i ∧ i ≤ most then some i.toNat else none
  | some _ => none

def aslice (sz : Nat) (x : AV) (lo hi : Option AV) : Option AV :=
  match x with
  | .lit (.slice none 0 0) => do
    let h ← aBound hi 0 0
    let l ← aBound lo 0 h
    pure avNilS
  | .sl sz' xs => do
    let h ← aBound hi xs.length xs.length
    let l ← aBound lo 0 h
    if sz' = sz then pure (.sl sz ((xs.drop l).take (h - l))) else none
  | .ra sz' id off n => do
    let h ← aBound hi n n
    let l ← aBound lo 0 h
    if sz' = sz then pure (.ra sz id (off + l) (h - l)) else none
  | _ => none

def aslstr (x : AV) (lo hi : Option AV) : Option AV :=
  match x with
  | .lit (.string s) => do
    let h ← aBound hi (bl s).length (bl s).length
    let l ← aBound lo 0 h
    pure (avStr (((bl s).drop l).take (h - l)))
  | _ => none

def aiaddr (sz : Nat) (x i : AV) : Option AV :=
  match i with
  | .lit (.int _ j) =>
    if 0 ≤ j then
      match x with
      | .sl sz' xs =>
        match xs[j.toNat]? with
        | some e => if e.good = true ∧ sz' = sz then some (.vp e.cells) else none
        | none => none
      | .ra sz' id off n => if j.toNat < n ∧ sz' = sz then some (.ep id (off + j.toNat) 0) else none
      | _ => none
    else none
  | _ => none

def asidx (x i : AV) : Option AV :=
  match x, i with
  | .lit (.string s), .lit (.int _ j) =>
    if 0 ≤ j then
      match (bl s)[j.toNat]? with
      | some b => some (.lit (.int .u8 b.toNat))
      | none => none
    else none
  | _, _ => none

def roomMax : Nat := 1099511627776

def srcStr (x : AV) : Option (List AV) :=
  match x with
  | .lit (.string b) => some ((bl b).map avByte)
  | _ => none

def appendOn (H : Hp) (e : TypeId) (sz bytes : Nat) (s : AV) (ys : List AV) : Option (AV × Option Hp) :=
  match s with
  | .lit (.slice none 0 0) =>
    if ys.length * bytes ≤ roomMax ∧ ys.all (fun y => y.good && y.cells.length == sz) = true then
      if ys.isEmpty then some (avNilS, none)
      else some (.ra sz H.l.length 0 ys.length, some (halloc H (.arr sz ys e)))
    else none
  | .ra _ id off n =>
    match hget H id with
    | some (.arr sz' es e') =>
      if sz' = sz ∧ e' = e ∧ off + n ≤ es.length ∧ (n + ys.length) * bytes ≤ roomMax ∧ ys.all (fun y => y.good && y.cells.length == sz) = true then
        some (.ra sz H.l.length 0 (n + ys.length), some (halloc (hset H id none) (.arr sz ((es.drop off).take n ++ ys) e)))
      else none
    | _ => none
  | _ => none



/-! ### Building -/
def fillA (cs : List AV) : List (Nat × Nat × AV) → Option (List AV)
  | [] => some cs
  | (off, size, x) :: r => if x.good = true ∧ x.cells.length = size ∧ off + size ≤ cs.length then fillA (setFrom cs off x.cells) r else none

/-- Elements out of cells. -/
def chunk (sz : Nat) (lay : Option Nat) : Nat → List AV → List AV
  | 0, _ => []
  | n + 1, cs => (match lay with | none => cs.getD 0 avU | some _ => .agg (cs.take sz)) :: chunk sz lay n (cs.drop sz)

def repl {α : Type} (n : Nat) (zero : List α) : List α :=
  match n with
  | 0 => []
  | n + 1 => zero ++ repl n zero

def aconv (H : Hp) (c : ConvD) (x : AV) : Option (AV × Option Hp) :=
  match c, x with
  | .toInt k, .lit (.int _ n) => some (avInt k (k.wrap n), none)
  | .same, .lit (.string s) => some (.lit (.string s), none)
  | .bytes e, .lit (.string s) => if (bl s).length ≤ roomMax then some (.ra 1 H.l.length 0 (bl s).length, some (halloc H (.arr 1 ((bl s).map avByte) e))) else none
  | .str, x => do
    let es ← asElems H x
    let b ← bytesOf es
    pure (avStr b, none)
  | .mark, .ra sz' id off n =>
    match hget H id with
    | some (.arr sz es e) => if 0 < n then some (.ra sz' id off n, some (hset H id (some (.arr sz es e)))) else none
    | _ => none
  | _, _ => none

def afield (off : Nat) (n : Option Nat) : AV → Option AV
  | .agg xs => apart n xs off
  | .lit (.agg cs) => apart n (cs.toList.map .lit) off
  | _ => none

def afaddr (off : Nat) : AV → Option AV
  | .ptr id o => some (.ptr id (o + off))
  | .ep id i o => some (.ep id i (o + off))
  | .vp xs => some (.vp (xs.drop off))
  | _ => none

def mn2 (mx : Bool) (x y : AV) : Option AV :=
  match x, y with
  | .lit (.int k a), .lit (.int _ b) => some (avInt k (if mx then (if b > a then b else a) else (if b < a then b else a)))
  | _, _ => none
def mnmx (mx : Bool) (x : AV) : List AV → Option AV
  | [] => some x
  | y :: r => (mn2 mx x y).bind fun z => mnmx mx z r

/-- A row's elements are cleared. -/
def aClear (H : Hp) (sz : Nat) (z : AV) : AV → Option (Option Hp)
  | .lit (.slice none 0 0) => some none
  | .ra sz' id off len =>
    if sz' = sz ∧ z.good = true ∧ z.cells.length = sz then
      if len = 0 then some none else
      match hget H id with
      | some (.arr _ es t) => if off + len ≤ es.length then some (some (hset H id (some (.arr sz (es.take off ++ List.replicate len z ++ es.drop (off + len)) t)))) else none
      | _ => none
    else none
  | _ => none

/-- What an operation that is no call does: its value, and the heap, if it is another one. -/
def aop (τ : List AV) (H : Hp) : AOp → Option (AV × Option Hp)
  | .mov x => some (aeval τ x, none)
  | .pick c a b =>
    match aeval τ c with
    | .lit (.bool t) => some (if t then aeval τ a else aeval τ b, none)
    | _ => none
  | .box t x => let v := aeval τ x; if v.good then some (.ptr H.l.length 0, some (halloc H (.cells v.cells t))) else none
  | .new t z => if z.good then some (.ptr H.l.length 0, some (halloc H (.cells z.cells t))) else none
  | .build z ps => (fillA z (ps.map fun (o, s, x) => (o, s, aeval τ x))).map fun cs => (.agg cs, none)
  | .bslice e sz lay len z ps =>
    (fillA (repl len z) (ps.map fun (o, s, x) => (o, s, aeval τ x))).bind fun cs =>
      if (chunk sz lay len cs).all (fun y => y.good && y.cells.length == sz && (lay.isSome || y.one)) then some (.ra sz H.l.length 0 len, some (halloc H (.arr sz (chunk sz lay len cs) e))) else none
  | .load n a => (aload H n (aeval τ a)).map fun v => (v, none)
  | .store n a x => (astore H n (aeval τ a) (aeval τ x)).map fun H' => (avU, some H')
  | .nilchk x =>
    if (aeval τ x).isRef then some (aeval τ x, none) else none
  | .bin op x y => (abin op (aeval τ x) (aeval τ y)).map fun v => (v, none)
  | .eq neg d x y => (aeq d (aeval τ x) (aeval τ y)).map fun b => (avBool (if neg then !b else b), none)
  | .un op x => (aun op (aeval τ x)).map fun v => (v, none)
  | .conv c x => aconv H c (aeval τ x)
  | .mkfn f fs cs => some (.fn f (fs.map (aeval τ)) (cs.map (aeval τ)), none)
  | .mkmap => some (.map H.l.length, some (halloc H (.map [] 0)))
  | .mkslice e sz bytes z l c =>
    match aeval τ l, aeval τ c with
    | .lit (.int _ n), .lit (.int _ m) =>
      if 0 ≤ n ∧ n = m ∧ m.toNat * bytes ≤ roomMax ∧ z.good = true ∧ z.cells.length = sz then
        some (.ra sz H.l.length 0 n.toNat, some (halloc H (.arr sz (List.replicate n.toNat z) e)))
      else none
    | _, _ => none
  | .slstr x lo hi => (aslstr (aeval τ x) (lo.map (aeval τ)) (hi.map (aeval τ))).map fun v => (v, none)
  | .slice sz x lo hi => (aslice sz (aeval τ x) (lo.map (aeval τ)) (hi.map (aeval τ))).map fun v => (v, none)
  | .faddr off x => (afaddr off (aeval τ x)).map fun v => (v, none)
  | .field off n x => (afield off n (aeval τ x)).map fun v => (v, none)
  | .iaddr sz x i => (aiaddr sz (aeval τ x) (aeval τ i)).map fun v => (v, none)
  | .sidx x i => (asidx (aeval τ x) (aeval τ i)).map fun v => (v, none)
  | .lookup kd z m k ok => (asKey kd (aeval τ k)).bind fun k => (aLookup H kd z ok k (aeval τ m)).map fun v => (v, none)
  | .mapupd kd m k v => (asKey kd (aeval τ k)).bind fun k => (aMapupd H kd k (aeval τ v) (aeval τ m)).map fun H' => (avU, some H')
  | .extract t i =>
    match aeval τ t with
    | .tup xs => (xs[i]?).map fun v => (v, none)
    | .lit (.tuple xs) => (xs[i]?).map fun v => (AV.lit v, none)
    | _ => none
  | .len x => (asLen (aeval τ x)).map fun (n : Nat) => (avInt .i64 (n : Int), none)
  | .lens x =>
    match aeval τ x with
    | .lit (.string s) => some (avInt .i64 ((bl s).length : Int), none)
    | _ => none
  | .lenm x => (aLenm H (aeval τ x)).map fun v => (v, none)
  | .append e sz bytes s x => (asElems H (aeval τ x)).bind (appendOn H e sz bytes (aeval τ s))
  | .appends e sz bytes s x => (srcStr (aeval τ x)).bind (appendOn H e sz bytes (aeval τ s))
  | .delete kd m k => (asKey kd (aeval τ k)).bind fun k => (aDelete H kd k (aeval τ m)).map fun H' => (avU, H')
  | .clear sz z x => (aClear H sz z (aeval τ x)).map fun H' => (avU, H')
  | .mnmx mx xs =>
    match xs.map (aeval τ) with
    | [] => none
    | x :: r => (mnmx mx x r).map fun v => (v, none)
  | .call _ _ => none

end Go.Proofs.Eng
