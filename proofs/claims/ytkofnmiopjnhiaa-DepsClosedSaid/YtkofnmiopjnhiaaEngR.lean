/- The engine, part R: code resolved; an operation's step in the model; regions, in index order and in any order. -/
import Derived.Test.YtkofnmiopjnhiaaEngQ
import Derived.BigRegionIn
set_option linter.unusedVariables false
set_option linter.unusedSimpArgs false
namespace Go.Proofs.Eng
open Go Go.RowKit

/-! ### Code resolved -/
def maskOf (tab : List Nat) (o : Oper) : Nat := o.after.toList.foldl (fun s e => if Region.binds .any e then s ||| 2 ^ e.on ||| tab.getD e.on 0 else s) 0
def maskTab : List Oper → List Nat → List Nat
  | [], t => t
  | o :: r, t => maskTab r (t ++ [maskOf t o])

def unpure (l : List AOper) (i : Nat) : Bool := match l[i]? with | some o => !o.op.pure | none => false

def opAt (l : List AOper) (i : Nat) : AOp := match l[i]? with | some o => o.op | none => .mkmap

/-- The pairs of a load and a store that are in no order. -/
def difOf (tab : List Nat) (l : List AOper) : List (Nat × Nat) :=
  (List.range l.length).flatMap fun i => (List.range i).flatMap fun j =>
    if (tab.getD i 0).testBit j then [] else
    let own : Nat → Bool := fun d => l.any fun o => o.dst == some d
    match opAt l i, opAt l j with
    | .load _ (.t a), .store _ (.t b) _ => if own a || own b then [] else [(a, b)]
    | .store _ (.t b) _, .load _ (.t a) => if own a || own b then [] else [(a, b)]
    | _, _ => []

/-- 0 nothing is asked, 1 of an append: it does away with nothing that was read; 2 it writes nothing old, 3 it writes nothing. -/
def toQ : Nat → Nat
  | 0 => 0
  | 1 => 3
  | 2 => 1
  | _ => 2
def rdKl (x y : AOp) : Nat := if isLd x && isKl y then 1 else if isRd x && !isRd y then 2 else 3
/-- Of the operation at i beside the one at j. -/
def lvl (tab : List Nat) (l : List AOper) (df : List (Nat × Nat)) (i j : Nat) : Nat :=
  if !unpure l i || !unpure l j || apartLS df (opAt l i) (opAt l j) then 0
  else if j < i then (if (tab.getD i 0).testBit j then 0 else rdKl (opAt l j) (opAt l i))
  else if i < j then (if (tab.getD j 0).testBit i then 0 else if isRd (opAt l i) && !isRd (opAt l j) then 0 else 3)
  else 0

def quietOf (tab : List Nat) (l : List AOper) (df : List (Nat × Nat)) : List Nat :=
  (List.range l.length).map fun i => toQ ((List.range l.length).foldl (fun m j => max m (lvl tab l df i j)) 0)

/-- An order in which all operations can stand. -/
def ordGo (md : Region.Mode) (ops : List Oper) : Nat → List Nat → List Nat
  | 0, done => done
  | k + 1, done =>
    match (List.range ops.length).find? fun i => !done.contains i && (match ops[i]? with | some o => o.after.toList.all (fun e => !Region.binds md e || done.contains e.on) | none => false) with
    | some i => ordGo md ops k (done ++ [i])
    | none => done
def ordChk (md : Region.Mode) (ops : List Oper) : List Nat → List Nat → Bool
  | _, [] => true
  | pre, i :: r => decide (i < ops.length) && (match ops[i]? with | some o => o.after.toList.all (fun e => !Region.binds md e || pre.contains e.on) | none => false) && ordChk md ops (pre ++ [i]) r
def ordOK (md : Region.Mode) (ops : List Oper) : Bool := let π := ordGo md ops ops.length []; (List.range ops.length).all (fun i => π.contains i) && ordChk md ops [] π
def allBack (ops : List Oper) : Bool := (List.range ops.length).all fun i => match ops[i]? with | some o => o.after.toList.all fun e => decide (e.on < i) | none => false

/-- What one cell holds, or a struct of such, by itself. -/
def litA : AV → Bool
  | .lit _ => true
  | .agg xs => xs.all fun x => match x with | .lit _ => true | _ => false
  | _ => false
/-- Does an operation lay one object of its own, whatever the heap? -/
def isAl (o : AOper) : Bool := o.grd.isNone && (match o.op with | .new _ z => litA z | .mkslice _ _ _ z _ _ => litA z | .mkmap => true | _ => false)

/-- Every pair in order, and what stands ahead. -/
def chkP (P : List Nat → Nat → Bool) : List Nat → List Nat → Bool
  | _, [] => true
  | pre, b :: r => P pre b && chkP P (pre ++ [b]) r

def apartAt (lq : List (AOper × Nat)) (df : List (Nat × Nat)) (y i : Nat) : Bool := match lq[y]?, lq[i]? with | some y, some x => apartA df y x | _, _ => false
/-- May the operations be reckoned in the order π, those of als by themselves? -/
def drawOk (ops : List Oper) (tab : List Nat) (lq : List (AOper × Nat)) (df : List (Nat × Nat)) (π als : List Nat) : Bool :=
  (lq.all fun o => match o.1.dst with | some d => df.all fun p => p.1 != d && p.2 != d | none => true) &&
  (List.range lq.length).all (fun i => match ops[i]? with | some o => o.after.toList.all fun e => !Region.binds .any e || decide (e.on < i) | none => false) &&
  chkP (fun pre i => !pre.contains i) [] π && π.all (fun i => decide (i < ops.length)) && (List.range ops.length).all (fun i => π.contains i) &&
  chkP (fun pre i => als.contains i || pre.all fun y => (tab.getD i 0).testBit y || apartAt lq df y i) [] π &&
  chkP (fun pre y => !als.contains y || (List.range ops.length).all fun i => als.contains i || !(tab.getD i 0).testBit y || pre.all fun z => (tab.getD i 0).testBit z || (!als.contains z && apartAt lq df z y)) [] π &&
  als.all fun y => match lq[y]? with
    | some (o, q) => isAl o && q == 1 && (match o.dst with
      | some d => (List.range lq.length).all fun i => i == y || (match lq[i]? with
        | some (x, _) => x.dst != some d && (!x.reads.contains d || (!als.contains i && (tab.getD i 0).testBit y)) && (match x.dst with | some c => !o.reads.contains c || (!als.contains i && (tab.getD y 0).testBit i) | none => true)
        | none => false)
      | none => false)
    | none => false

def canonGo (tab : List Nat) (l : List AOper) : Nat → List Nat → List Nat
  | 0, done => done
  | k + 1, done =>
    let rdy := (List.range l.length).filter fun i => !done.contains i && (List.range l.length).all fun j => !(tab.getD i 0).testBit j || done.contains j
    match rdy.find? (fun i => match l[i]? with | some o => !isAl o && (o.op.pure || isRd o.op) | none => false) with
    | some i => canonGo tab l k (done ++ [i])
    | none =>
      match rdy.find? (fun i => match l[i]? with | some o => !isAl o | none => false) with
      | some i => canonGo tab l k (done ++ [i])
      | none =>
        match rdy with
        | i :: _ => canonGo tab l k (done ++ [i])
        | [] => done
def isAlAt (l : List AOper) (i : Nat) : Bool := match l[i]? with | some o => isAl o | none => false
def isKlAt (l : List AOper) (i : Nat) : Bool := isKl (opAt l i)
def isCallAt (l : List AOper) (i : Nat) : Bool := match opAt l i with | .call _ _ => true | _ => false
/-- Of the operation at i beside the one at j, in another order than the text's. -/
def lvlP (tab : List Nat) (l : List AOper) (df : List (Nat × Nat)) (π : List Nat) (i j : Nat) : Nat :=
  if i == j || isAlAt l i || isAlAt l j || !unpure l i || !unpure l j || apartLS df (opAt l i) (opAt l j) || (tab.getD i 0).testBit j || (tab.getD j 0).testBit i then 0
  else if decide (π.idxOf j < π.idxOf i) then rdKl (opAt l j) (opAt l i)
  else (if isRd (opAt l i) && !isRd (opAt l j) then 0 else 3)
def quietP (tab : List Nat) (l : List AOper) (df : List (Nat × Nat)) (π : List Nat) : List Nat :=
  (List.range l.length).map fun i => if isAlAt l i then 1 else toQ ((List.range l.length).foldl (fun m j => max m (lvlP tab l df π i j)) 0)
def orders (ops : List Oper) : Bool := allBack ops || (ordOK .text ops && ordOK .gc ops && ordOK .any ops)

/-- Calls of function values alone. -/
def callOnly (o : Oper) (a : AOper) : Option AOper :=
  match a.op with
  | .call _ _ =>
    match o.op with
    | .call c => match c.callee with | .value _ => some a | _ => none
    | _ => none
  | _ => some a
/-- What the engine does not take: it comes to no answer. -/
def badO : AOper := ⟨none, .mnmx false [], none⟩
theorem bad_none {E : Env} {τ : List AV} {H : Hp} : actO E badO τ H = none := rfl
def pOperE (P : Program) (ops : Array Oper) (o : Oper) : Option AOper := some (((pOper P ops o).bind (callOnly o)).getD badO)

theorem pOperE_spec {P : Program} {ops : Array Oper} {o : Oper} {ao : AOper} (h : pOperE P ops o = some ao) :
    ao = badO ∨ (pOper P ops o = some ao ∧ ∀ f args, ao.op = .call f args → ∃ c g, o.op = .call c ∧ c.callee = .value g) := by
  unfold pOperE at h
  simp only [Option.some.injEq] at h
  cases hb : (pOper P ops o).bind (callOnly o) with
  | none => rw [hb] at h; exact .inl h.symm
  | some a' =>
  rw [hb] at h
  simp only [Option.getD_some] at h
  subst h
  have h := hb
  refine .inr ?_
  obtain ⟨a', h1, h2⟩ := Option.bind_eq_some_iff.1 h
  unfold callOnly at h2
  split at h2
  · split at h2
    · rename_i c hc
      split at h2
      · rename_i g hg
        simp only [Option.some.injEq] at h2; subst h2
        exact ⟨h1, fun _ _ _ => ⟨c, g, hc, hg⟩⟩
      · simp at h2
    · simp at h2
  · rename_i hn
    simp only [Option.some.injEq] at h2; subst h2
    exact ⟨h1, fun f args e => absurd e (hn f args)⟩

/-- How a drawn region is reckoned: the operations, how quiet each is, the order, those that stand by themselves. -/
def planOf (ops : List Oper) (l : List AOper) : List Nat × List Nat × List Nat :=
  let tab := maskTab ops []
  let df := difOf tab l
  let q := quietOf tab l df
  if (List.range l.length).all fun i => decide (q.getD i 0 ≠ 2) || !(isAlAt l i || isCallAt l i || isKlAt l i) then (q, List.range ops.length, [])
  else
    let π := canonGo tab l l.length []
    (quietP tab l df π, π, (List.range l.length).filter (isAlAt l))

def pRegion (P : Program) (id : Nat) (ops : Array Oper) (draw : Bool) : Option AC := do
  let l ← ops.toList.mapM (pOperE P ops)
  if draw then
    let tab := maskTab ops.toList []
    let df := difOf tab l
    let pl := planOf ops.toList l
    if drawOk ops.toList tab (l.zip pl.1) df pl.2.1 pl.2.2 && (pl.1.length == l.length) && orders ops.toList then
      some (.dops id (pl.2.1.filterMap (l[·]?)) (pl.2.1.filterMap (pl.1[·]?)) df)
    else some (.ops [badO])
  else some (.ops l)

def pCode (P : Program) : Code → Option AC
  | .skip => some .skip
  | .region id ops draw => pRegion P id ops draw
  | .seq a b => do
    let a ← pCode P a
    let b ← pCode P b
    pure (.seq a b)
  | .cond c a b => do
    let c := (pOpd c).getD (.c avU)
    let a ← pCode P a
    let b ← pCode P b
    pure (.cond c a b)
  | .block id b => (pCode P b).map (.block id)
  | .loop b => (pCode P b).map .loop
  | .rangeFunc f ps asg body => do
    let f := (pOpd f).getD (.c avU)
    let a ← pCode P asg
    let b ← pCode P body
    pure (.rangeFn f ps.toList a b)
  | .exit id => some (.exit id)
  | .ret => some .ret
  | .label _ => some .skip
  | _ => some (.ops [badO])

abbrev PCof (P : Program) : Code → AC → Prop := fun c ac => pCode P c = some ac

/-! ### The fence -/
abbrev Fr (ro : Option Nat) : Fence := { Fence.wide with round := ro }

/-- What is asked of what a call comes to. -/
def Upon (P : Program) (K : Value → World → Prop) : Result Next → Prop
  | .ok (.value v) w' => K v w'
  | .ok (.enter f args) w' => CallsIn Fence.wide 0 P f args w' fun
      | .returned v, w'' => K v w''
      | _, _ => False
  | .ok (.round l f tmps asg body) w' => RoundIn Fence.wide 0 P l f tmps asg body w' fun
      | .returned v, w'' => K v w''
      | _, _ => False
  | _ => False

/-- What a call leaves. -/
def Left (P : Program) (ι : Io) (L : HL) (w : World) (v : AV) (L' : HL) (cv : Value) (w' : World) : Prop :=
  ∃ ι', Stp ι L w ι' L' w' ∧ RelH (PCof P) ι' L' w' ∧ VRel ι' (fzOf ι' L' w') v cv

structure EOK (P : Program) (E : Env) : Prop where
  le : CLe E
  call : ∀ {f : FuncId} {args : List AV} {H : Hp} {v : AV} {h : Option Hp} {ι : Io} {w : World} {cargs : Array Value}, RelH (PCof P) ι H.l w → VRels ι (fzOf ι H.l w) args cargs.toList →
    E.call f args H = some (v, h) → Upon P (Left P ι H.l w v (h.getD H).l) ((callFunc f cargs).run P w)
  yld : ∀ {l : Nat} {args : List AV} {H : Hp} {v : AV} {h : Option Hp} {ι : Io} {w : World} {cargs : Array Value} {p : Pl}, ι.l[l]? = some p → RelH (PCof P) ι H.l w → VRels ι (fzOf ι H.l w) args cargs.toList →
    E.yld l args H = some (v, h) → Upon P (Left P ι H.l w v (h.getD H).l) ((Instr.yield p.blk cargs).run P w)

section
variable {P : Program} {ι : Io} {w : World} {E : Env} {ro : Option Nat}

theorem upon_uponIn {o : Oper} {a : Act} {next : Act → World → Prop} {Q : Exit → Act → World → Prop} {K : Value → World → Prop} {r : Result Next} (h : Upon P K r) (hn : ∀ v w', K v w' → next (a.put o.dst v) w') :
    o.uponIn (Fr ro) 0 P a next Q r := by
  unfold Upon at h
  split at h
  · simp only [Oper.uponIn]; exact hn _ _ h
  · simp only [Oper.uponIn]
    refine ⟨fun hh => by simp [Fence.wide] at hh, ?_⟩
    have h' : CallsIn (Fr ro) (0 - 1) P _ _ _ _ := h
    refine CallsIn.mono h' fun e w'' he => ?_
    cases e with
    | returned v => exact hn _ _ he
    | panicked c => exact he.elim
    | outgrown => exact he.elim
  · simp only [Oper.uponIn]
    refine ⟨fun hh => by simp [Fence.wide] at hh, ?_⟩
    have h' : RoundIn (Fr ro) (0 - 1) P _ _ _ _ _ _ _ := h
    refine RoundIn.mono h' fun e w'' he => ?_
    cases e with
    | returned v => exact hn _ _ he
    | panicked c => exact he.elim
    | outgrown => exact he.elim
  · exact h.elim

theorem pOp_defer {o : Op} {ao : AOp} (hp : pOp P o = some ao) : ∀ c, o ≠ .defer c := by
  rintro c rfl; simp [pOp] at hp

theorem pCall_value {c : Call} {f : Operand} {ao : AOp} (hc : c.callee = .value f) (hp : pCall P c = some ao) : ∃ y ys, pOpd f = some y ∧ c.args.toList.mapM pOpd = some ys ∧ ao = .call y ys := by
  simp only [pCall, hc, Option.bind_eq_bind, Option.pure_def, pOpds] at hp
  obtain ⟨y, hy, hp⟩ := Option.bind_eq_some_iff.1 hp
  obtain ⟨z, hz, hp⟩ := Option.bind_eq_some_iff.1 hp
  simp only [Option.some.injEq] at hp
  exact ⟨y, z, hy, hz, hp.symm⟩

theorem VRels.put {fz : Fz} {τ : List AV} {a : Act} {dst : Option Tmp} {v : AV} {cv : Value} (ht : VRels ι fz τ a.tmps.toList) (hv : VRel ι fz v cv) : VRels ι fz (aput dst v τ) (a.put dst cv).tmps.toList := by
  cases dst with
  | none => exact ht
  | some d => simpa [aput, Act.put] using ht.set d hv

theorem put_defers (a : Act) (dst : Option Tmp) (v : Value) : (a.put dst v).defers = a.defers := by cases dst <;> rfl

theorem yielded_want {ops : Array Oper} {fz : Fz} {τ : List AV} {a : Act} {o : Oper} {ao : AOper} {b : Bool} (hp : pOper P ops o = some ao) (ht : VRels ι fz τ a.tmps.toList) (hw : wantA τ ao.grd = some b) :
    Region.wanted o (yielded ops a.tmps) = b := by
  simp only [pOper, Option.bind_eq_bind, Option.pure_def] at hp
  obtain ⟨op, hop, hp⟩ := Option.bind_eq_some_iff.1 hp
  cases hg : o.guard with
  | none =>
    rw [hg] at hp
    simp only [Option.some.injEq] at hp; subst hp
    simp only [wantA, Option.some.injEq] at hw; subst hw
    simp [Region.wanted, hg]
  | some p =>
    obtain ⟨j, want⟩ := p
    rw [hg] at hp
    simp only [] at hp
    obtain ⟨d, hd, hp⟩ := Option.bind_eq_some_iff.1 hp
    simp only [Option.some.injEq] at hp; subst hp
    have hy : yielded ops a.tmps j = match a.tmps[d]? with | some (.bool b) => some b | _ => none := by
      simp only [yielded, hd, Option.bind_some]
      rfl
    simp only [wantA] at hw
    simp only [Region.wanted, hg, hy]
    have hrel : VRel ι fz (τ.getD d avU) (a.tmps.getD d undef) := by
      have := aeval_rel (a := a) (x := .tmp d) (y := .t d) ht rfl
      exact this
    by_cases hlt : d < a.tmps.size
    · have e1 : a.tmps.getD d undef = a.tmps[d] := by simp [Array.getD, hlt]
      rw [e1] at hrel
      rw [Array.getElem?_eq_getElem hlt]
      split at hw
      · rename_i c hc
        rw [hc] at hrel
        simp only [VRel] at hrel
        rw [hrel]
        simp only [Option.some.injEq] at hw
        subst hw
        cases c <;> cases want <;> rfl
      · rename_i x hx hc
        rw [hc] at hrel
        simp only [VRel] at hrel
        simp only [Option.some.injEq] at hw
        subst hw
        rw [hrel]
        cases x <;> first | rfl | (exact absurd rfl (hx _))
      · simp at hw
    · rw [Array.getElem?_eq_none (Nat.le_of_not_lt hlt)]
      have hlt' : ¬ d < τ.length := by rw [ht.length]; simpa using hlt
      have : τ.getD d avU = avU := by rw [List.getD_eq_getElem?_getD, List.getElem?_eq_none (Nat.le_of_not_lt hlt')]; rfl
      rw [this] at hw
      simp only [Option.some.injEq] at hw
      subst hw
      rfl

/-- One operation of a region. -/
theorem actO_sound2 {ops : Array Oper} {Q : Exit → Act → World → Prop} {i : Nat} {o : Oper} {ao : AOper} {a : Act} {τ : List AV} {H : Hp} {v : AV} {h : Option Hp} {K : Act → World → Prop} (hE : EOK P E) (ho : ops[i]? = some o)
    (hp : pOperE P ops o = some ao) (hr : RelH (PCof P) ι H.l w) (ht : VRels ι (fzOf ι H.l w) τ a.tmps.toList) (hact : actO E ao τ H = some (v, h))
    (hK : ∀ ι' cv w', Stp ι H.l w ι' (h.getD H).l w' → RelH (PCof P) ι' (h.getD H).l w' → VRel ι' (fzOf ι' (h.getD H).l w') v cv → K (a.put ao.dst cv) w') :
    wpOpIn (Fr ro) 0 P ops Q i K a w := by
  rcases pOperE_spec hp with rfl | ⟨hp, hcall⟩
  · rw [bad_none] at hact; simp at hact
  have hfn : ∀ f, o.about P w a.eval = some f → (Fr ro).fn f := fun _ _ => trivial
  have hdst : ao.dst = o.dst := by
    simp only [pOper, Option.bind_eq_bind, Option.pure_def] at hp
    obtain ⟨op, hop, hp⟩ := Option.bind_eq_some_iff.1 hp
    split at hp
    · simp only [Option.some.injEq] at hp; subst hp; rfl
    · obtain ⟨d, hd, hp⟩ := Option.bind_eq_some_iff.1 hp
      simp only [Option.some.injEq] at hp; subst hp; rfl
  have hop : pOp P o.op = some ao.op := by
    simp only [pOper, Option.bind_eq_bind, Option.pure_def] at hp
    obtain ⟨op, hop, hp⟩ := Option.bind_eq_some_iff.1 hp
    split at hp
    · simp only [Option.some.injEq] at hp; subst hp; exact hop
    · obtain ⟨d, hd, hp⟩ := Option.bind_eq_some_iff.1 hp
      simp only [Option.some.injEq] at hp; subst hp; exact hop
  have fin : ∀ cv w' ι', Stp ι H.l w ι' (h.getD H).l w' → RelH (PCof P) ι' (h.getD H).l w' → VRel ι' (fzOf ι' (h.getD H).l w') v cv → K (a.put o.dst cv) w' := by
    intro cv w' ι' h1 h2 h3
    rw [← hdst]
    exact hK ι' cv w' h1 h2 h3
  unfold wpOpIn
  simp only [ho]
  have h1 := hact
  unfold actO at h1
  split at h1
  · simp at h1
  · rename_i hw
    rw [yielded_want hp ht hw]
    simp only [Option.some.injEq, Prod.mk.injEq] at h1
    obtain ⟨rfl, rfl⟩ := h1
    simp only [Bool.false_eq_true, if_false]
    exact ⟨hfn, fin _ _ ι (Stp.refl _ _ _) hr (by simp only [VRel, undef])⟩
  · rename_i hw
    rw [yielded_want hp ht hw]
    simp only [if_true, Oper.wpIn]
    refine ⟨hfn, ?_⟩
    rw [Oper.semAt_eq _ _ _ (fun c e => pOp_defer hop c e)]
    by_cases hc : ∃ f args, ao.op = .call f args
    · obtain ⟨f, args, hc⟩ := hc
      obtain ⟨c, g, e1, e2⟩ := hcall f args hc
      rw [hc] at hop h1
      rw [e1] at hop
      simp only [pOp] at hop
      obtain ⟨y, ys, k1, k2, k3⟩ := pCall_value e2 hop
      cases k3
      simp only [aopE] at h1
      have hvf := aeval_rel ht k1
      have hva := aevals_rel ht k2
      have hex : (execOp a.eval o).run P w = ((resolve a.eval c o.type).run P w).andThen fun d w => (invoke d.target d.args).run P w := by
        simp only [execOp, e1, Sem.run_bind]
      have hva' : VRels ι (fzOf ι H.l w) (args.map (aeval τ)) (c.args.map a.eval).toList := by simpa using hva
      cases hz : aeval τ f <;> rw [hz] at h1 hvf <;> simp only [callV] at h1 <;> first
        | (simp at h1; done)
        | skip
      · rename_i gf fs cs
        simp only [VRel] at hvf
        obtain ⟨as, bs, e3, r1, r2⟩ := hvf
        have hd : (resolve a.eval c o.type).run P w = .ok { target := .fn (.func gf) bs, args := as ++ c.args.map a.eval } w := by
          simp only [resolve, e2, e3, Deferred.ofValue, Sem.run_pure]
        rw [hex, hd]
        simp only [Result.andThen_ok, invoke]
        have := hE.call (cargs := as ++ c.args.map a.eval ++ bs) hr (by simpa using (r1.append hva').append r2) h1
        exact upon_uponIn this fun cv w' ⟨ι', q1, q2, q3⟩ => fin cv w' ι' q1 q2 q3
      · rename_i l
        simp only [VRel] at hvf
        obtain ⟨p, hp', e3⟩ := hvf
        have hd : (resolve a.eval c o.type).run P w = .ok { target := .fn (.yield p.blk) #[], args := #[] ++ c.args.map a.eval } w := by
          simp only [resolve, e2, e3, Deferred.ofValue, Sem.run_pure]
        rw [hex, hd]
        simp only [Result.andThen_ok, invoke]
        have := hE.yld (cargs := #[] ++ c.args.map a.eval) hp' hr (by simpa using hva') h1
        exact upon_uponIn this fun cv w' ⟨ι', q1, q2, q3⟩ => fin cv w' ι' q1 q2 q3
    · have h' : aop τ H ao.op = some (v, h) := by
        cases hk : ao.op <;> rw [hk] at h1 <;> simp only [aopE] at h1 <;> first
          | exact h1
          | exact absurd ⟨_, _, hk⟩ hc
      obtain ⟨cv, w', ι', nx, q1, q2, q3, q4, q5⟩ := aop_sound hop hr ht h'
      rw [q1]
      rcases q2 with rfl | ⟨rfl, rfl⟩
      · rw [Oper.uponIn_value]; exact fin _ _ _ q3 q4 q5
      · rw [Oper.uponIn_skip]; exact fin _ _ _ q3 q4 q5

theorem actO_sound {ops : Array Oper} {Q : Exit → Act → World → Prop} {i : Nat} {o : Oper} {ao : AOper} {a : Act} {τ : List AV} {H : Hp} {v : AV} {h : Option Hp} {K : Act → World → Prop} (hE : EOK P E) (ho : ops[i]? = some o)
    (hp : pOperE P ops o = some ao) (hr : RelH (PCof P) ι H.l w) (ht : VRels ι (fzOf ι H.l w) τ a.tmps.toList) (hact : actO E ao τ H = some (v, h))
    (hK : ∀ ι' a' w', Stp ι H.l w ι' (h.getD H).l w' → RelH (PCof P) ι' (h.getD H).l w' → VRels ι' (fzOf ι' (h.getD H).l w') (aput ao.dst v τ) a'.tmps.toList → a'.defers = a.defers → K a' w') :
    wpOpIn (Fr ro) 0 P ops Q i K a w :=
  actO_sound2 hE ho hp hr ht hact fun ι' cv w' h1 h2 h3 => hK ι' _ w' h1 h2 (VRels.put (h1.vs ht) h3) (put_defers _ _ _)
end
end Go.Proofs.Eng
