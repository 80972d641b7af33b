/- The engine, part AQ: code run for whatever is drawn: regions told apart, loops over maps; soundly. -/
import Derived.Test.YtchbifaiofljdaaEngAP
set_option linter.unusedVariables false
set_option linter.unusedSimpArgs false
namespace Go.Proofs.Eng
open Go Go.RowKit

inductive DOp where
  | op (o : AOper)
  | range (dst : Nat) (m : Opd)
  | next (dst : Nat) (it : Opd)
  | entry (dst : Nat) (it : Opd)
  | call (dst : Option Nat) (f : FuncId) (args : List Opd)

inductive DC where
  | base (c : AC)
  | regD (l : List DOp)
  | alts (l : List AC)
  | seq (a b : DC)
  | cond (c : Opd) (a b : DC)
  | block (id : Nat) (b : DC)
  | loop (b : DC)

/-! ### Resolving -/
def isIt (o : Oper) : Bool := match o.op with | .range _ _ => true | .next _ _ => true | .entry _ => true | _ => false

/-- A call of a function that may come to this or that, as it is drawn. -/
def isDC (hint : Nat → Option AltT) (o : Oper) : Option FuncId := match o.op, o.guard with
  | .call c, none => match c.callee with
    | .value (.func f) => if (hint (1000000 + f)).isSome then some f else none
    | _ => none
  | _, _ => none
def isItH (hint : Nat → Option AltT) (o : Oper) : Bool := isIt o || (isDC hint o).isSome

def pDOp0 (P : Program) (ops : Array Oper) (o : Oper) : Option DOp :=
  match o.op, o.dst, o.guard with
  | .range t x, some d, none =>
    match P.underlying t, pOpd x with
    | some (.map _ _), some y => some (.range d y)
    | _, _ => none
  | .next x false, some d, none => (pOpd x).map (.next d)
  | .entry x, some d, none => (pOpd x).map (.entry d)
  | _, _, _ => (pOperE P ops o).map .op
def pDOp (P : Program) (hint : Nat → Option AltT) (ops : Array Oper) (o : Oper) : Option DOp :=
  match isDC hint o with
  | some f => match o.op with
    | .call c => (c.args.toList.mapM pOpd).map (.call o.dst f)
    | _ => none
  | none => pDOp0 P ops o

/-- Is there something in code that is run for whatever is drawn? -/
def needD (hint : Nat → Option AltT) : Code → Bool
  | .region id ops draw => if draw then (hint id).isSome else ops.toList.any (isItH hint)
  | .seq a b => needD hint a || needD hint b
  | .cond _ a b => needD hint a || needD hint b
  | .block _ b => needD hint b
  | .loop b => needD hint b
  | _ => false

def pD (P : Program) (hint : Nat → Option AltT) : Code → Option DC
  | .region id ops draw =>
    if draw then
      match hint id with
      | some T => if altOK T ops && orders ops.toList then ((leaves T ops).mapM fun o => pRegion P id o true).map .alts else none
      | none => (pRegion P id ops true).map .base
    else if ops.toList.any (isItH hint) then (ops.toList.mapM (pDOp P hint ops)).map .regD
    else (pRegion P id ops false).map .base
  | .seq a b =>
    if needD hint (.seq a b) then do
      let a ← pD P hint a
      let b ← pD P hint b
      pure (.seq a b)
    else (pCode P (.seq a b)).map .base
  | .cond c a b =>
    if needD hint (.cond c a b) then do
      let a ← pD P hint a
      let b ← pD P hint b
      pure (.cond ((pOpd c).getD (.c avU)) a b)
    else (pCode P (.cond c a b)).map .base
  | .block id b => if needD hint (.block id b) then (pD P hint b).map (.block id) else (pCode P (.block id b)).map .base
  | .loop b => if needD hint (.loop b) then (pD P hint b).map .loop else (pCode P (.loop b)).map .base
  | c => (pCode P c).map .base

/-! ### Running -/
/-- An iterator: over which map, its clock as the loop began, what was handed out. -/
structure Itr where
  m : Nat
  clk : Nat
  seen : List Nat
  last : Option (Value × AV × Nat)

abbrev Its := List (Nat × Itr)
abbrev DPost := AX → List AV → Hp → Its → Prop

def hdead (H : Hp) : Hp := { H with l := H.l ++ [none] }
/-- The stamps of a map's entries differ, and their keys. -/
def StOK (es : List (Value × AV × Nat)) : Prop := (es.map fun e => e.2.2).Nodup ∧ (es.map fun e => e.1).Nodup
def leftL (es : List (Value × AV × Nat)) (seen : List Nat) : List (Value × AV × Nat) := es.filter fun e => !seen.contains e.2.2

/-- Calls of functions that may come to this or that. -/
structure DCalls where
  run : FuncId → List AV → Hp → (AV × Option Hp → Prop) → Prop
  and : ∀ {f args H R R'}, run f args H R → run f args H R' → run f args H fun r => R r ∧ R' r
  le : ∀ {f args H R}, run f args H R → run f args H fun r => R r ∧ Le? H r.2
def noC : DCalls := ⟨fun _ _ _ _ => False, fun h => h.elim, fun h => h.elim⟩

def wpDO (C : DCalls) (E : Env) : List DOp → List AV → Hp → Its → (List AV → Hp → Its → Prop) → Prop
  | [], τ, H, its, K => K τ H its
  | .op o :: r, τ, H, its, K => ∃ v h, actO E o τ H = some (v, h) ∧ wpDO C E r (aput o.dst v τ) (h.getD H) its K
  | .range d m :: r, τ, H, its, K => ∃ id es clk, aeval τ m = .map id ∧ hget H id = some (.map es clk) ∧ (StOK es → wpDO C E r (aput (some d) (.ptr H.l.length 0) τ) (hdead H) ((H.l.length, ⟨id, clk, [], none⟩) :: its) K)
  | .next d it :: r, τ, H, its, K => ∃ id I es, aeval τ it = .ptr id 0 ∧ its.lookup id = some I ∧ hget H I.m = some (.map es I.clk) ∧
      (leftL es I.seen = [] → wpDO C E r (aput (some d) (.tup [avBool false]) τ) H its K) ∧
      ∀ e ∈ leftL es I.seen, wpDO C E r (aput (some d) (.tup [avBool true, .lit e.1, e.2.1]) τ) H ((id, { I with seen := I.seen ++ [e.2.2], last := some e }) :: its) K
  | .entry d it :: r, τ, H, its, K => ∃ id I es e, aeval τ it = .ptr id 0 ∧ its.lookup id = some I ∧ hget H I.m = some (.map es I.clk) ∧ I.last = some e ∧ e ∈ es ∧ I.seen.getLast? = some e.2.2 ∧
      wpDO C E r (aput (some d) (.tup [.lit e.1, e.2.1]) τ) H its K
  | .call d f args :: r, τ, H, its, K => ∃ R, C.run f (args.map (aeval τ)) H R ∧ ∀ v h, R (v, h) → wpDO C E r (aput d v τ) (h.getD H) its K

def iterD (step : List AV → Hp → Its → DPost → Prop) (K : DPost) : Nat → List AV → Hp → Its → Prop
  | 0, _, _, _ => False
  | k + 1, τ, H, its => step τ H its fun x τ' H' its' => match x with | .nrm => iterD step K k τ' H' its' | x => K x τ' H' its'

/-- For whatever is drawn: what code comes to. -/
def wpDC (C : DCalls) (E : Env) : DC → List AV → Hp → Its → DPost → Prop
  | .base c, τ, H, its, K => ∃ x τ' H', execC E none c τ H = some (x, τ', H') ∧ K x τ' H' its
  | .regD l, τ, H, its, K => wpDO C E l τ H its (K .nrm)
  | .alts l, τ, H, its, K => l ≠ [] ∧ ∀ c ∈ l, ∃ τ' H', execC E none c τ H = some (.nrm, τ', H') ∧ K .nrm τ' H' its
  | .seq a b, τ, H, its, K => wpDC C E a τ H its fun x τ' H' its' => match x with | .nrm => wpDC C E b τ' H' its' K | x => K x τ' H' its'
  | .cond c a b, τ, H, its, K => ∃ t, aeval τ c = avBool t ∧ (t = true → wpDC C E a τ H its K) ∧ (t = false → wpDC C E b τ H its K)
  | .block id b, τ, H, its, K => wpDC C E b τ H its fun x τ' H' its' => match x with | .exit i => if i = id then K .nrm τ' H' its' else K (.exit i) τ' H' its' | x => K x τ' H' its'
  | .loop b, τ, H, its, K => ∃ k, iterD (fun τ H its K => wpDC C E b τ H its K) K k τ H its

/-! ### Soundness -/
structure ItOK (base : Nat) (ι : Io) (L : HL) (w : World) (its : Its) : Prop where
  atI : ∀ id I, its.lookup id = some I → ∃ p pm, ι.l[id]? = some p ∧ p.sh = 0 ∧ ι.l[I.m]? = some pm ∧ w.heap[p.blk]? = some (.mapIter (some pm.blk) I.clk I.seen.toArray I.clk) ∧ ¬ Owned ι L p.blk ∧ base ≤ p.blk
  two : ∀ id id' I I' p p', its.lookup id = some I → its.lookup id' = some I' → ι.l[id]? = some p → ι.l[id']? = some p' → p.blk = p'.blk → id = id'

theorem ItOK.step {base : Nat} {ι ι' : Io} {L L' : HL} {w w' : World} {its : Its} (h : ItOK base ι L w its) (s : Stp ι L w ι' L' w') : ItOK base ι' L' w' its := by
  refine ⟨fun id I hl => ?_, fun id id' I I' p p' h1 h2 h3 h4 e => ?_⟩
  · obtain ⟨p, pm, h1, h2, h3, h4, h5, h6⟩ := h.atI id I hl
    have := s.frame p.blk (Array.getElem?_eq_some_iff.1 h4).1 h5
    exact ⟨p, pm, prefix_get s.pre h1, h2, prefix_get s.pre h3, this.2.trans h4, this.1, h6⟩
  · obtain ⟨q, _, k1, _⟩ := h.atI id I h1
    obtain ⟨q', _, k2, _⟩ := h.atI id' I' h2
    have e1 := prefix_get s.pre k1
    have e2 := prefix_get s.pre k2
    rw [h3] at e1; rw [h4] at e2
    cases e1; cases e2
    exact h.two id id' I I' p p' h1 h2 k1 k2 e

structure AtD (P : Program) (ι₀ : Io) (L₀ : HL) (w₀ : World) (ds : Nat) (τ : List AV) (L : HL) (its : Its) (a : Act) (w : World) : Prop where
  ex : ∃ ι, Stp ι₀ L₀ w₀ ι L w ∧ RelH (PCof P) ι L w ∧ VRels ι (fzOf ι L w) τ a.tmps.toList ∧ DfOK ds ι L w a.defers ∧ ItOK w₀.heap.size ι L w its

section
variable {P : Program} {ι : Io} {w : World}

/-- A place that no object has. -/
theorem RelH.dead {PC : Code → AC → Prop} {L : HL} (h : RelH PC ι L w) (p : Pl) :
    RelH PC (ι.add p) (L ++ [none]) w ∧ Stp ι L w (ι.add p) (L ++ [none]) w ∧ ∀ k, Owned (ι.add p) (L ++ [none]) k ↔ Owned ι L k := by
  have hlt : ∀ {i : Nat} {o : AObj}, (L ++ [none])[i]? = some (some o) → L[i]? = some (some o) ∧ i < L.length := by
    intro i o e
    by_cases hi : i < L.length
    · rw [List.getElem?_append_left hi] at e; exact ⟨e, hi⟩
    · have := (List.getElem?_eq_some_iff.1 e).1
      have : i = L.length := by simp at this; omega
      subst this
      simp at e
  have hget : ∀ {i : Nat} {q : Pl}, i < L.length → (ι.l ++ [p])[i]? = some q → ι.l[i]? = some q := by
    intro i q hi e
    rwa [List.getElem?_append_left (by rw [h.len]; exact hi)] at e
  have hown : ∀ k, Owned (ι.add p) (L ++ [none]) k ↔ Owned ι L k := by
    intro k
    constructor
    · rintro ⟨i, o, q, h1, h2, h3⟩
      obtain ⟨k1, k2⟩ := hlt h1
      exact ⟨i, o, q, k1, hget k2 h2, h3⟩
    · rintro ⟨i, o, q, h1, h2, h3⟩
      have hi := (List.getElem?_eq_some_iff.1 h1).1
      exact ⟨i, o, q, by rw [List.getElem?_append_left hi]; exact h1, by show (ι.l ++ [p])[i]? = _; rw [List.getElem?_append_left (by rw [h.len]; exact hi)]; exact h2, h3⟩
  have hst : Stp ι L w (ι.add p) (L ++ [none]) w := ⟨List.prefix_append _ _, rfl, rfl, rfl, Nat.le_refl _, fun k hk hn => ⟨fun ho => hn ((hown k).1 ho), rfl⟩, fun _ _ => Iff.rfl⟩
  refine ⟨⟨by simp [h.len], fun i o q h1 h2 => ?_, fun i j oi oj q r h1 h2 h3 h4 e => ?_, h.xlt, fun k hk ho => h.xno k hk ((hown k).1 ho)⟩, hst, hown⟩
  · obtain ⟨k1, k2⟩ := hlt h1
    exact (h.obj i o q k1 (hget k2 h2)).move hst.pre hst.fz rfl
  · obtain ⟨k1, k2⟩ := hlt h1
    obtain ⟨k3, k4⟩ := hlt h2
    exact h.inj i j oi oj q r k1 k3 (hget k2 h3) (hget k4 h4) e

theorem run_next_at {r bm clk : Nat} {seen : Array Nat} {es : Array MapEntry} (ty : TypeId) (hi : w.heap[r]? = some (.mapIter (some bm) clk seen clk)) (hb : w.heap[bm]? = some (.map es clk)) (hold : ∀ x ∈ es.toList, x.born < clk) :
    ((leftOf es seen).toList = [] ∧ (Instr.next (.pointer (some ⟨r, 0, none⟩)) false ty).run P w = .ok (.tuple #[.bool false]) w) ∨
    ∃ e ∈ (leftOf es seen).toList, ∃ w1 : World, w1.heap = w.heap ∧ w1.os = w.os ∧ w1.tape = w.tape ∧ w1.output = w.output ∧
      (Instr.next (.pointer (some ⟨r, 0, none⟩)) false ty).run P w = .ok (.tuple #[.bool true, e.key, e.val]) (setObjW w1 r (.mapIter (some bm) clk (seen.push e.born) clk)) := by
  simp only [Instr.next, getObj, Sem.run_bind, Sem.run, hi, hb, Result.andThen, next_test_false seen es clk clk hold (Nat.le_refl _), Bool.false_eq_true, if_false]
  unfold leftOf
  have hmem : ∀ x ∈ (Array.filter (fun e => !seen.contains e.born) es).toList, x.born < clk := fun x hx => hold x (by simp at hx ⊢; exact hx.1)
  generalize Array.filter (fun e => !seen.contains e.born) es = L at hmem ⊢
  have e1 : L.filter (fun x => decide (x.born < clk)) = L := Array.filter_eq_self.2 (fun x hx => by simpa using hmem x (by simpa using hx))
  have e2 : L.filter (fun x => decide (x.born ≥ clk)) = #[] := by
    rw [Array.filter_eq_empty_iff]
    intro x hx
    have := hmem x (by simpa using hx)
    simp
    omega
  simp only [e1, e2, Array.append_empty]
  by_cases h0 : L.size = 0
  · left
    have : L = #[] := Array.eq_empty_of_size_eq_zero h0
    subst this
    refine ⟨rfl, ?_⟩
    simp [choose, Sem.run, Question.forced]
  · right
    have hne : L.isEmpty = false := by simp [Array.isEmpty, h0]
    simp only [hne, Bool.false_eq_true, if_false, Array.empty_append, Array.size_map]
    have hch : ∃ (j : Nat) (w1 : World), j < L.size ∧ w1.heap = w.heap ∧ w1.os = w.os ∧ w1.tape = w.tape ∧ w1.output = w.output ∧ (choose (Question.mapNext L.size)).run P w = .ok j w1 := by
      by_cases hf : L.size ≤ 1
      · exact ⟨0, w, by omega, rfl, rfl, rfl, rfl, by simp [choose, Sem.run, Question.forced, hf]⟩
      · exact ⟨_, w.drew, Nat.mod_lt _ (by omega), rfl, rfl, rfl, rfl, by
          simp only [choose, Sem.run, Question.forced, decide_eq_true_eq, hf, if_false, Question.cut]
          rfl⟩
    obtain ⟨j, w1, hj, a1, a2, a3, a4, hrun⟩ := hch
    refine ⟨L[j], by simp, w1, a1, a2, a3, a4, ?_⟩
    have hset : ∀ (o' : Obj), (setObj r o').run P w1 = .ok () (setObjW w1 r o') := fun o' => by
      simp only [setObj, Sem.run, a1, hi]
      simp only [setObjW, a1]
    simp only [hrun, Array.getElem?_map, Array.getElem?_eq_getElem hj, Option.map_some, Sem.run_bind, hset, Result.andThen]
    rfl

theorem run_entry_at {r bm clk : Nat} {seen : Array Nat} {es : Array MapEntry} {e : MapEntry} (hi : w.heap[r]? = some (.mapIter (some bm) clk seen clk)) (hb : w.heap[bm]? = some (.map es clk)) (he : e ∈ es.toList) (hs : seen.back? = some e.born) (hn : (es.toList.map (·.born)).Nodup) :
    (Instr.entry (.pointer (some ⟨r, 0, none⟩))).run P w = .ok (.tuple #[e.key, e.val]) w := by
  have hf : es.find? (·.born == e.born) = some e := by rw [← Array.find?_toList]; exact find_born e es.toList hn he
  simp only [Instr.entry, getObj, Sem.run_bind, Sem.run, hi, hb, Result.andThen, hs, bne_self_eq_false, Bool.false_eq_true, if_false, hf]
  rfl

theorem MRel.mem {fz : Fz} : ∀ {xs : List (Value × AV × Nat)} {es : List MapEntry}, MRel ι fz xs es → ∀ e ∈ es, ∃ x ∈ xs, e.key = x.1 ∧ e.born = x.2.2 ∧ VRel ι fz x.2.1 e.val
  | [], es, h, e, he => by cases h; simp at he
  | x :: xs, es, h, e, he => by
    obtain ⟨e', r, rfl, h1, h2, h3, h4⟩ := h
    rcases List.mem_cons.1 he with rfl | he
    · exact ⟨x, by simp, h1, h2, h3⟩
    · obtain ⟨y, hy, k⟩ := h4.mem e he
      exact ⟨y, by simp [hy], k⟩
theorem MRel.mem' {fz : Fz} : ∀ {xs : List (Value × AV × Nat)} {es : List MapEntry}, MRel ι fz xs es → ∀ x ∈ xs, ∃ e ∈ es, e.key = x.1 ∧ e.born = x.2.2 ∧ VRel ι fz x.2.1 e.val
  | [], es, h, x, hx => by simp at hx
  | x :: xs, es, h, y, hy => by
    obtain ⟨e', r, rfl, h1, h2, h3, h4⟩ := h
    rcases List.mem_cons.1 hy with rfl | hy
    · exact ⟨e', by simp, h1, h2, h3⟩
    · obtain ⟨e, he, k⟩ := h4.mem' y hy
      exact ⟨e, by simp [he], k⟩
theorem MRel.stamps {fz : Fz} : ∀ {xs : List (Value × AV × Nat)} {es : List MapEntry}, MRel ι fz xs es → xs.map (fun e => e.2.2) = es.map (·.born)
  | [], es, h => by cases h; rfl
  | x :: xs, es, h => by
    obtain ⟨e', r, rfl, h1, h2, h3, h4⟩ := h
    rw [List.map_cons, List.map_cons, h4.stamps, h2]
theorem MRel.keys {fz : Fz} : ∀ {xs : List (Value × AV × Nat)} {es : List MapEntry}, MRel ι fz xs es → xs.map (fun e => e.1) = es.map (·.key)
  | [], es, h => by cases h; rfl
  | x :: xs, es, h => by
    obtain ⟨e', r, rfl, h1, h2, h3, h4⟩ := h
    rw [List.map_cons, List.map_cons, h4.keys, h1]
theorem MRel.stOK {fz : Fz} {xs : List (Value × AV × Nat)} {es : List MapEntry} (h : MRel ι fz xs es) (k : (es.map (·.born)).Nodup) (k2 : es.Pairwise fun x y => x.key ≠ y.key) : StOK xs := by
  unfold StOK
  rw [h.stamps, h.keys]
  exact ⟨k, List.pairwise_map.2 k2⟩
theorem MRel.left {fz : Fz} {seen : List Nat} : ∀ {xs : List (Value × AV × Nat)} {es : List MapEntry}, MRel ι fz xs es → MRel ι fz (leftL xs seen) (es.filter fun e => !seen.contains e.born)
  | [], es, h => by cases h; exact rfl
  | x :: xs, es, h => by
    obtain ⟨e', r, rfl, h1, h2, h3, h4⟩ := h
    have ih := h4.left (seen := seen)
    unfold leftL at ih ⊢
    rw [List.filter_cons, List.filter_cons, h2]
    split
    · exact ⟨e', _, rfl, h1, h2, h3, ih⟩
    · exact ih

/-- A block of the call's own that nobody owns and that holds no cells is written. -/
theorem stp_own {L L₀ : HL} {ι₀ : Io} {w₀ w1 : World} {r : Nat} {o ob : Obj} (hr : RelH (PCof P) ι L w) (s : Stp ι₀ L₀ w₀ ι L w) (hn : ¬ Owned ι L r) (hb : w.heap[r]? = some ob) (hc : ∀ c t f, ob ≠ .cells c t f) (hbase : w₀.heap.size ≤ r)
    (h1 : w1.heap = w.heap) (h2 : w1.os = w.os) (h3 : w1.tape = w.tape) (h4 : w1.output = w.output) :
    Stp ι₀ L₀ w₀ ι L (setObjW w1 r o) ∧ RelH (PCof P) ι L (setObjW w1 r o) ∧ FzLe (fzOf ι L w) (fzOf ι L (setObjW w1 r o)) := by
  obtain ⟨d1, d2⟩ := hr.draw h1 h2 h3 h4
  obtain ⟨r1, r2⟩ := d1.other (o := o) hn (by rw [h1]; exact hb) hc
  refine ⟨⟨s.pre, by simpa [setObjW] using h2.trans s.os, by simpa [setObjW] using h3.trans s.tape, by simpa [setObjW] using h4.trans s.output, by simpa [setObjW, h1] using s.size, fun k hk ho => ?_, s.xs⟩, r1, d2.fz.trans r2⟩
  have := s.frame k hk ho
  refine ⟨this.1, ?_⟩
  rw [setObjW_other (by omega), h1]
  exact this.2

theorem it_op {ops : Array Oper} {Q : Exit → Act → World → Prop} {i : Nat} {o : Oper} {d : Nat} {K : Act → World → Prop} {a : Act} {cv : Value} {w' : World} (ho : ops[i]? = some o) (hg : o.guard = none) (hd : o.dst = some d) (hnd : ∀ c, o.op ≠ .defer c)
    (hrun : (execOp a.eval o).run P w = .ok (.value cv) w') (hK : K (a.put (some d) cv) w') : wpOpIn (Fr none) 0 P ops Q i K a w := by
  unfold wpOpIn
  simp only [ho]
  have hw : Region.wanted o (yielded ops a.tmps) = true := by simp [Region.wanted, hg]
  rw [if_pos hw]
  refine ⟨fun _ _ => trivial, ?_⟩
  rw [Oper.semAt_eq _ _ _ hnd, hrun, Oper.uponIn_value, hd]
  exact hK

theorem pDOp_spec0 {ops : Array Oper} {o : Oper} {l : DOp} (h : pDOp0 P ops o = some l) :
    (∃ ao, l = .op ao ∧ pOperE P ops o = some ao) ∨
    (∃ d y t x k e, l = .range d y ∧ o.op = .range t x ∧ o.dst = some d ∧ o.guard = none ∧ P.underlying t = some (.map k e) ∧ pOpd x = some y) ∨
    (∃ d y x, l = .next d y ∧ o.op = .next x false ∧ o.dst = some d ∧ o.guard = none ∧ pOpd x = some y) ∨
    (∃ d y x, l = .entry d y ∧ o.op = .entry x ∧ o.dst = some d ∧ o.guard = none ∧ pOpd x = some y) := by
  unfold pDOp0 at h
  split at h
  · rename_i t x d h1 h2 h3
    split at h
    · rename_i k e y h4 h5
      simp only [Option.some.injEq] at h; subst h
      exact .inr (.inl ⟨d, y, t, x, k, e, rfl, h1, h2, h3, h4, h5⟩)
    · simp at h
  · rename_i x d h1 h2 h3
    obtain ⟨y, hy, rfl⟩ := Option.map_eq_some_iff.1 h
    exact .inr (.inr (.inl ⟨d, y, x, rfl, h1, h2, h3, hy⟩))
  · rename_i x d h1 h2 h3
    obtain ⟨y, hy, rfl⟩ := Option.map_eq_some_iff.1 h
    exact .inr (.inr (.inr ⟨d, y, x, rfl, h1, h2, h3, hy⟩))
  · obtain ⟨y, hy, rfl⟩ := Option.map_eq_some_iff.1 h
    exact .inl ⟨y, rfl, hy⟩

theorem pDOp_spec {hint : Nat → Option AltT} {ops : Array Oper} {o : Oper} {l : DOp} (h : pDOp P hint ops o = some l) :
    (∃ ao, l = .op ao ∧ pOperE P ops o = some ao) ∨
    (∃ d y t x k e, l = .range d y ∧ o.op = .range t x ∧ o.dst = some d ∧ o.guard = none ∧ P.underlying t = some (.map k e) ∧ pOpd x = some y) ∨
    (∃ d y x, l = .next d y ∧ o.op = .next x false ∧ o.dst = some d ∧ o.guard = none ∧ pOpd x = some y) ∨
    (∃ d y x, l = .entry d y ∧ o.op = .entry x ∧ o.dst = some d ∧ o.guard = none ∧ pOpd x = some y) ∨
    (∃ f c ys, l = .call o.dst f ys ∧ o.op = .call c ∧ c.callee = .value (.func f) ∧ o.guard = none ∧ c.args.toList.mapM pOpd = some ys) := by
  unfold pDOp at h
  split at h
  · rename_i f hf
    split at h
    · rename_i c hc
      obtain ⟨ys, hy, rfl⟩ := Option.map_eq_some_iff.1 h
      unfold isDC at hf
      split at hf
      · rename_i c' hc' hg
        rw [hc] at hc'
        cases hc'
        split at hf
        · rename_i f' hcal
          split at hf
          · simp only [Option.some.injEq] at hf
            subst hf
            exact .inr (.inr (.inr (.inr ⟨f', c, ys, rfl, hc, hcal, hg, hy⟩)))
          · cases hf
        · cases hf
      · cases hf
    · cases h
  · rcases pDOp_spec0 h with h | h | h | h
    · exact .inl h
    · exact .inr (.inl h)
    · exact .inr (.inr (.inl h))
    · exact .inr (.inr (.inr (.inl h)))
/-- The calls that may come to this or that do so in the machine. -/
def DCOK (P : Program) (C : DCalls) : Prop := ∀ {f : FuncId} {args : List AV} {H : Hp} {R : AV × Option Hp → Prop} {ι : Io} {w : World} {cargs : Array Value}, C.run f args H R → RelH (PCof P) ι H.l w → VRels ι (fzOf ι H.l w) args cargs.toList →
  Upon P (fun cv w' => ∃ v h, R (v, h) ∧ Left P ι H.l w v (h.getD H).l cv w') ((callFunc f cargs).run P w)
theorem noC_ok : DCOK P noC := fun h => h.elim

theorem MRel_nil_right {fz : Fz} : ∀ {xs : List (Value × AV × Nat)}, MRel ι fz xs [] → xs = []
  | [], _ => rfl
  | x :: xs, h => by obtain ⟨e, r, k, _⟩ := h; cases k

theorem lookup_cons_self {id : Nat} {I : Itr} {its : Its} : List.lookup id ((id, I) :: its) = some I := by simp [List.lookup]
theorem lookup_cons_ne {id id' : Nat} {I : Itr} {its : Its} (h : id' ≠ id) : List.lookup id' ((id, I) :: its) = List.lookup id' its := by
  have : (id' == id) = false := by simpa using h
  simp [List.lookup, this]

theorem dops_sound {Γ : Sums} {A : Tab} {C : DCalls} (hC : DCOK P C) (hE : ∀ n, EOK P (env Γ A n)) {hint : Nat → Option AltT} {ops : Array Oper} {Q : Exit → Act → World → Prop} : ∀ (is : List Nat) (ls : List DOp) {ι₀ : Io} {L₀ : HL} {w₀ : World} {ds : Nat} {τ : List AV} {H : Hp} {its : Its} {a : Act} {w : World} {K : List AV → Hp → Its → Prop},
    (∀ k : Nat, ((is[k]?).bind fun i => (ops[i]?).bind (pDOp P hint ops)) = ls[k]?) → is.length = ls.length → AtD P ι₀ L₀ w₀ ds τ H.l its a w → wpDO C (lim Γ A) ls τ H its K →
    (∀ τ' H' its' a' w', AtD P ι₀ L₀ w₀ ds τ' H'.l its' a' w' → K τ' H' its' → Q .normal a' w') → wpOpsIn (Fr none) 0 P ops Q is a w
  | [], ls, ι₀, L₀, w₀, ds, τ, H, its, a, w, K, hm, hl, hat, h, hQ => by
    have : ls = [] := by cases ls with | nil => rfl | cons => simp at hl
    subst this
    simpa [wpOpsIn] using hQ τ H its a w hat h
  | i :: is, ls, ι₀, L₀, w₀, ds, τ, H, its, a, w, K, hm, hl, hat, h, hQ => by
    cases ls with
    | nil => simp at hl
    | cons l ls =>
    have hm0 := hm 0
    simp only [List.getElem?_cons_zero, Option.bind_some] at hm0
    obtain ⟨o, ho, hp⟩ := Option.bind_eq_some_iff.1 hm0
    have hm' : ∀ k : Nat, ((is[k]?).bind fun i => (ops[i]?).bind (pDOp P hint ops)) = ls[k]? := fun k => by simpa using hm (k + 1)
    have hl' : is.length = ls.length := by simpa using hl
    obtain ⟨ι, q1, q2, q3, q4, q5⟩ := hat.ex
    rw [wpOpsIn_cons]
    rcases pDOp_spec hp with ⟨ao, rfl, hp2⟩ | ⟨d, y, t, x, k, e, rfl, h1, h2, h3, h4, h5⟩ | ⟨d, y, x, rfl, h1, h2, h3, h5⟩ | ⟨d, y, x, rfl, h1, h2, h3, h5⟩ | ⟨f, c, ys, rfl, h1, h2, h3, h5⟩
    · obtain ⟨v, h', hact, hk⟩ := h
      obtain ⟨n, hact⟩ := actO_cont hact
      exact actO_sound (hE n) ho hp2 q2 q3 hact fun ι' a' w' s r v df => dops_sound hC hE is ls hm' hl' ⟨ι', q1.trans s, r, v, by rw [df]; exact q4.step s, q5.step s⟩ hk hQ
    · obtain ⟨id, es, clk, e1, e2, hk⟩ := h
      have hv := aeval_rel q3 h5
      rw [e1] at hv
      simp only [VRel] at hv
      obtain ⟨p, hp1, hv⟩ := hv
      obtain ⟨ces, hb, hmr, hst⟩ := q2.obj _ _ _ (hget_some e2) hp1
      obtain ⟨b1, b2, b3⟩ := q2.bare (.mapIter (some p.blk) clk #[] clk)
      obtain ⟨c1, c2, c3⟩ := b1.dead ⟨w.heap.size, 0, 0, 0⟩
      have hs := b2.trans c2
      have hrun : (execOp a.eval o).run P w = .ok (.value (.pointer (some ⟨w.heap.size, 0, none⟩))) (w.alloc (.mapIter (some p.blk) clk #[] clk)) := by
        simp only [execOp, h1, Sem.run_bind, hv, run_range_map w t k e p.blk ces clk h4 hb, Result.andThen_ok, Sem.run_pure]
      refine it_op ho h3 h2 (by simp [h1]) hrun (dops_sound hC hE is ls hm' hl' (K := K) ⟨ι.add ⟨w.heap.size, 0, 0, 0⟩, q1.trans hs, c1, ?_, ?_, ?_⟩ (hk (hmr.stOK ((MapKept.stamped_iff _ _).1 hst).2.1 ((MapKept.stamped_iff _ _).1 hst).2.2)) hQ)
      · refine VRels.put (hs.vs q3) ?_
        simp only [VRel]
        exact ⟨⟨w.heap.size, 0, 0, 0⟩, by rw [← q2.len]; simp, rfl⟩
      · rw [put_defers]; exact q4.step hs
      · have q5' := q5.step hs
        have hnew : (ι.add ⟨w.heap.size, 0, 0, 0⟩).l[H.l.length]? = some ⟨w.heap.size, 0, 0, 0⟩ := by rw [← q2.len]; simp
        have hbig : ∀ id' I' p', its.lookup id' = some I' → (ι.add ⟨w.heap.size, 0, 0, 0⟩).l[id']? = some p' → p'.blk < w.heap.size := by
          intro id' I' p' k1 k2
          obtain ⟨p'', _, k3, _, _, k4, _⟩ := q5.atI id' I' k1
          have := prefix_get hs.pre k3
          rw [k2] at this; cases this
          exact (Array.getElem?_eq_some_iff.1 k4).1
        refine ⟨fun id' I' hl2 => ?_, fun id1 id2 I1 I2 p1 p2 k1 k2 k3 k4 e => ?_⟩
        · by_cases hid : id' = H.l.length
          · subst hid
            rw [lookup_cons_self] at hl2
            cases hl2
            exact ⟨_, p, hnew, rfl, prefix_get hs.pre hp1, alloc_heap_new _ _, fun ho2 => b3 ((c3 _).1 ho2), q1.size⟩
          · rw [lookup_cons_ne hid] at hl2
            exact q5'.atI id' I' hl2
        · by_cases hid1 : id1 = H.l.length <;> by_cases hid2 : id2 = H.l.length
          · rw [hid1, hid2]
          · subst hid1
            rw [lookup_cons_ne hid2] at k2
            rw [hnew] at k3; cases k3
            have := hbig _ _ _ k2 k4
            simp only at e; omega
          · subst hid2
            rw [lookup_cons_ne hid1] at k1
            rw [hnew] at k4; cases k4
            have := hbig _ _ _ k1 k3
            simp only at e; omega
          · rw [lookup_cons_ne hid1] at k1
            rw [lookup_cons_ne hid2] at k2
            exact q5'.two _ _ _ _ _ _ k1 k2 k3 k4 e
    · obtain ⟨id, I, es, e1, e2, e3, hk1, hk2⟩ := h
      have hv := aeval_rel q3 h5
      rw [e1] at hv
      simp only [VRel] at hv
      obtain ⟨p, hp1, hv⟩ := hv
      obtain ⟨p', pm, g1, g2, g3, g4, g5, g6⟩ := q5.atI id I e2
      rw [hp1] at g1; cases g1
      obtain ⟨ces, hb, hmr, hst⟩ := q2.obj _ _ _ (hget_some e3) g3
      have hst' := (MapKept.stamped_iff _ _).1 hst
      rw [g2] at hv
      have hleft : MRel ι (fzOf ι H.l w) (leftL es I.seen) (leftOf ces I.seen.toArray).toList := by
        have := hmr.left (seen := I.seen)
        unfold leftOf
        simpa using this
      rcases run_next_at (P := P) o.type g4 hb hst'.1 with ⟨r1, r2⟩ | ⟨c, r1, w1, a1, a2, a3, a4, r2⟩
      · rw [r1] at hleft
        have hrun : (execOp a.eval o).run P w = .ok (.value (.tuple #[.bool false])) w := by
          simp only [execOp, h1, Sem.run_bind, hv, Nat.add_zero, r2, Result.andThen_ok, Sem.run_pure]
        refine it_op ho h3 h2 (by simp [h1]) hrun (dops_sound hC hE is ls hm' hl' (K := K) ⟨ι, q1, q2, ?_, by rw [put_defers]; exact q4, q5⟩ (hk1 (MRel_nil_right hleft)) hQ)
        refine VRels.put q3 ?_
        simp only [VRel]
        exact ⟨_, rfl, by simp [VRel]⟩
      · obtain ⟨xe, hx, x1, x2, x3⟩ := hleft.mem c r1
        obtain ⟨s1, s2, s3⟩ := stp_own (o := .mapIter (some pm.blk) I.clk (I.seen.toArray.push c.born) I.clk) q2 q1 g5 g4 (fun _ _ _ k => by cases k) g6 a1 a2 a3 a4
        have hrun : (execOp a.eval o).run P w = .ok (.value (.tuple #[.bool true, c.key, c.val])) (setObjW w1 p.blk (.mapIter (some pm.blk) I.clk (I.seen.toArray.push c.born) I.clk)) := by
          simp only [execOp, h1, Sem.run_bind, hv, Nat.add_zero, r2, Result.andThen_ok, Sem.run_pure]
        have hlt := (Array.getElem?_eq_some_iff.1 g4).1
        have hoth : ∀ k, k ≠ p.blk → (setObjW w1 p.blk (.mapIter (some pm.blk) I.clk (I.seen.toArray.push c.born) I.clk)).heap[k]? = w.heap[k]? := fun k hk => by rw [setObjW_other hk, a1]
        have hsame : (setObjW w1 p.blk (.mapIter (some pm.blk) I.clk (I.seen.toArray.push c.born) I.clk)).heap[p.blk]? = some (.mapIter (some pm.blk) I.clk (I.seen.toArray.push c.born) I.clk) := setObjW_same (by rw [a1]; exact hlt)
        refine it_op ho h3 h2 (by simp [h1]) hrun (dops_sound hC hE is ls hm' hl' (K := K) ⟨ι, s1, s2, ?_, ?_, ?_⟩ (hk2 xe hx) hQ)
        · refine VRels.put (VRels.mono (List.prefix_refl _) s3 _ _ q3) ?_
          simp only [VRel]
          refine ⟨_, rfl, ?_⟩
          simp only [VRels_cons, VRels_nil, VRel, and_true, true_and]
          exact ⟨x1, VRel.mono (List.prefix_refl _) s3 _ _ x3⟩
        · rw [put_defers]
          obtain ⟨Ds, k1, k2, k3⟩ := q4
          refine ⟨Ds, k1, k2, fun D hD => ?_⟩
          obtain ⟨j1, j2, j3⟩ := k3 D hD
          refine ⟨j1, ?_, j3⟩
          rw [hoth D (by rintro rfl; rw [g4] at j2; cases j2)]
          exact j2
        · refine ⟨fun id' I' hl2 => ?_, fun id1 id2 I1 I2 p1 p2 k1 k2 k3 k4 e => ?_⟩
          · by_cases hid : id' = id
            · subst hid
              rw [lookup_cons_self] at hl2
              cases hl2
              refine ⟨p, pm, hp1, g2, g3, ?_, g5, g6⟩
              rw [hsame, ← x2]
              simp
            · rw [lookup_cons_ne hid] at hl2
              obtain ⟨p', pm', f1, f2, f3, f4, f5, f6⟩ := q5.atI id' I' hl2
              refine ⟨p', pm', f1, f2, f3, ?_, f5, f6⟩
              rw [hoth p'.blk (fun e => hid (q5.two _ _ _ _ _ _ hl2 e2 f1 hp1 e))]
              exact f4
          · have hL : ∀ id', ∀ I', List.lookup id' ((id, { I with seen := I.seen ++ [xe.2.2], last := some xe }) :: its) = some I' → ∃ I'', its.lookup id' = some I'' := by
              intro id' I' hl2
              by_cases hid : id' = id
              · subst hid; exact ⟨I, e2⟩
              · rw [lookup_cons_ne hid] at hl2; exact ⟨I', hl2⟩
            obtain ⟨_, m1⟩ := hL _ _ k1
            obtain ⟨_, m2⟩ := hL _ _ k2
            exact q5.two _ _ _ _ _ _ m1 m2 k3 k4 e
    · obtain ⟨id, I, es, en, e1, e2, e3, _, e4, e5, hk⟩ := h
      have hv := aeval_rel q3 h5
      rw [e1] at hv
      simp only [VRel] at hv
      obtain ⟨p, hp1, hv⟩ := hv
      obtain ⟨p', pm, g1, g2, g3, g4, g5, g6⟩ := q5.atI id I e2
      rw [hp1] at g1; cases g1
      obtain ⟨ces, hb, hmr, hst⟩ := q2.obj _ _ _ (hget_some e3) g3
      have hst' := (MapKept.stamped_iff _ _).1 hst
      rw [g2] at hv
      obtain ⟨c, hc, x1, x2, x3⟩ := hmr.mem' en e4
      have hrun : (execOp a.eval o).run P w = .ok (.value (.tuple #[c.key, c.val])) w := by
        simp only [execOp, h1, Sem.run_bind, hv, Nat.add_zero, run_entry_at (P := P) g4 hb hc (by rw [x2]; simpa using e5) hst'.2.1, Result.andThen_ok, Sem.run_pure]
      refine it_op ho h3 h2 (by simp [h1]) hrun (dops_sound hC hE is ls hm' hl' (K := K) ⟨ι, q1, q2, ?_, by rw [put_defers]; exact q4, q5⟩ hk hQ)
      refine VRels.put q3 ?_
      simp only [VRel]
      refine ⟨_, rfl, ?_⟩
      simp only [VRels_cons, VRels_nil, VRel, and_true]
      exact ⟨x1, x3⟩
    · obtain ⟨R, hR, hk⟩ := h
      unfold wpOpIn
      simp only [ho]
      have hw : Region.wanted o (yielded ops a.tmps) = true := by simp [Region.wanted, h3]
      rw [if_pos hw]
      refine ⟨fun _ _ => trivial, ?_⟩
      rw [Oper.semAt_eq _ _ _ (by simp [h1])]
      have hvf := aeval_rel (x := .func f) (y := .c (.fn f [] [])) q3 rfl
      have hva := aevals_rel q3 h5
      have hex : (execOp a.eval o).run P w = ((resolve a.eval c o.type).run P w).andThen fun d w => (invoke d.target d.args).run P w := by
        simp only [execOp, h1, Sem.run_bind]
      have hva' : VRels ι (fzOf ι H.l w) (ys.map (aeval τ)) (c.args.map a.eval).toList := by simpa using hva
      simp only [aeval, VRel] at hvf
      obtain ⟨as, bs, e3, r1, r2⟩ := hvf
      have hd : (resolve a.eval c o.type).run P w = .ok { target := .fn (.func f) bs, args := as ++ c.args.map a.eval } w := by
        simp only [resolve, h2, e3, Deferred.ofValue, Sem.run_pure]
      rw [hex, hd]
      simp only [Result.andThen_ok, invoke]
      have := hC (cargs := as ++ c.args.map a.eval ++ bs) hR q2 (by simpa using (r1.append hva').append r2)
      refine upon_uponIn this fun cv w' hh => ?_
      obtain ⟨v, g, hRv, ι', s1, s2, s3⟩ := hh
      exact dops_sound hC hE is ls hm' hl' (K := K) ⟨ι', q1.trans s1, s2, VRels.put (s1.vs q3) s3, by rw [put_defers]; exact q4.step s1, q5.step s1⟩ (hk v g hRv) hQ
end
end Go.Proofs.Eng
