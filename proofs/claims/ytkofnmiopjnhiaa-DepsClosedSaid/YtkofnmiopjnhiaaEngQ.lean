/- The engine, part Q: steps of operations, quiet ones, and that their order counts for nothing. -/
import Derived.Test.YtkofnmiopjnhiaaEngP
set_option linter.unusedVariables false
set_option linter.unusedSimpArgs false
namespace Go.Proofs.Eng
open Go Go.RowKit

structure Env where
  call : FuncId → List AV → Hp → Option (AV × Option Hp)
  yld : Nat → List AV → Hp → Option (AV × Option Hp)
  loop : Option Nat → AC → List AV → Hp → Option (AX × List AV × Hp)
  range : Option Nat → AV → List Nat → AC → AC → List AV → Hp → Option (AX × List AV × Hp)
  ent : FuncId → List AV → Hp → Option (AV × Option Hp)

def callV (E : Env) (f : AV) (args : List AV) (H : Hp) : Option (AV × Option Hp) :=
  match f with
  | .fn f fs cs => E.call f (fs ++ args ++ cs) H
  | .yld l => E.yld l args H
  | _ => none

def aopE (E : Env) (τ : List AV) (H : Hp) : AOp → Option (AV × Option Hp)
  | .call f args => callV E (aeval τ f) (args.map (aeval τ)) H
  | ao => aop τ H ao

def aput (dst : Option Nat) (v : AV) (τ : List AV) : List AV :=
  match dst with
  | some d => τ.set d v
  | none => τ

def wantA (τ : List AV) (g : Option (Nat × Bool)) : Option Bool :=
  match g with
  | none => some true
  | some (d, b) =>
    match τ.getD d avU with
    | .lit (.bool c) => some (c == b)
    | .lit _ => some false
    | _ => none

/-- What an operation writes, and the heap, if it is another one. -/
def actO (E : Env) (o : AOper) (τ : List AV) (H : Hp) : Option (AV × Option Hp) :=
  match wantA τ o.grd with
  | none => none
  | some false => some (avU, none)
  | some true => aopE E τ H o.op

def dminO (d e : Option Nat) : Option Nat := match e with | none => d | some n => dmin d n

def keeps (H H' : Hp) : Bool := match H'.d with | none => true | some m => decide (H.l.length ≤ m)

/-- q: 0 anything, 1 no old object is written, 2 nothing is written. -/
def actQ (E : Env) (q : Nat) (o : AOper) (τ : List AV) (H : Hp) : Option (AV × Option Hp) :=
  match q with
  | 0 => actO E o τ H
  | 1 =>
    match actO E o τ { l := H.l, d := none } with
    | some (v, none) => some (v, none)
    | some (v, some H') => if keeps H H' then some (v, some { l := H'.l, d := dminO H.d H'.d }) else none
    | none => none
  | 3 => actO E o τ H
  | _ =>
    match actO E o τ H with
    | some (v, none) => some (v, none)
    | some (v, some H') => none
    | none => none

/-- The object that a load looks at. -/
def ridOf : AV → List Nat
  | .ptr id _ => [id]
  | .ep id _ _ => [id]
  | _ => []
def rdOf (o : AOper) (τ : List AV) : List Nat := match o.op with | .load _ a => ridOf (aeval τ a) | _ => []
/-- The old object that an append does away with. -/
def kid : AV → Option Nat
  | .ra _ id _ _ => some id
  | _ => none
/-- The object that a store writes. -/
def sid : AV → Option Nat
  | .ptr id _ => some id
  | .ep id _ _ => some id
  | _ => none
def killOf (o : AOper) (τ : List AV) : Option Nat := match o.op with | .append _ _ _ s _ => kid (aeval τ s) | .appends _ _ _ s _ => kid (aeval τ s) | .store _ a _ => sid (aeval τ a) | _ => none
def isLd : AOp → Bool
  | .load _ _ => true
  | _ => false
def isKl : AOp → Bool
  | .append .. | .appends .. | .store .. => true
  | _ => false
/-- q = 3: an append, or a store, that does away with nothing that was read in the region. -/
def killOK (R : List Nat) (o : AOper × Nat) (τ : List AV) : Bool := o.2 != 3 || (match killOf o.1 τ with | some id => !R.contains id | none => true)

def execOps (E : Env) : List AOper → List AV → Hp → Option (List AV × Hp)
  | [], τ, H => some (τ, H)
  | o :: r, τ, H =>
    match actO E o τ H with
    | some (v, h) => execOps E r (aput o.dst v τ) (h.getD H)
    | none => none

/-- R: the objects that were read so far. -/
def execQ (E : Env) : List Nat → List (AOper × Nat) → List AV → Hp → Option (List AV × Hp)
  | _, [], τ, H => some (τ, H)
  | R, o :: r, τ, H =>
    if killOK R o τ then
      match actQ E o.2 o.1 τ H with
      | some (v, h) => execQ E (rdOf o.1 τ ++ R) r (aput o.1.dst v τ) (h.getD H)
      | none => none
    else none

/-! ### What an operation looks at -/
def Opd.tmps : Opd → List Nat
  | .t n => [n]
  | .c _ => []
def tmpsL (xs : List Opd) : List Nat := xs.flatMap Opd.tmps
def tmpsO (x : Option Opd) : List Nat := match x with | some x => x.tmps | none => []
def tmpsP (ps : List (Nat × Nat × Opd)) : List Nat := ps.flatMap fun p => p.2.2.tmps

def AOp.tmps : AOp → List Nat
  | .mov x => x.tmps
  | .pick c a b => c.tmps ++ a.tmps ++ b.tmps
  | .box _ x => x.tmps
  | .new _ _ => []
  | .build _ ps => tmpsP ps
  | .bslice _ _ _ _ _ ps => tmpsP ps
  | .load _ a => a.tmps
  | .store _ a x => a.tmps ++ x.tmps
  | .nilchk x => x.tmps
  | .bin _ x y => x.tmps ++ y.tmps
  | .eq _ _ x y => x.tmps ++ y.tmps
  | .un _ x => x.tmps
  | .conv _ x => x.tmps
  | .mkfn _ fs cs => tmpsL fs ++ tmpsL cs
  | .mkmap => []
  | .mkslice _ _ _ _ l c => l.tmps ++ c.tmps
  | .slstr x lo hi => x.tmps ++ tmpsO lo ++ tmpsO hi
  | .slice _ x lo hi => x.tmps ++ tmpsO lo ++ tmpsO hi
  | .faddr _ x => x.tmps
  | .field _ _ x => x.tmps
  | .iaddr _ x i => x.tmps ++ i.tmps
  | .sidx x i => x.tmps ++ i.tmps
  | .lookup _ _ m k _ => m.tmps ++ k.tmps
  | .mapupd _ m k v => m.tmps ++ k.tmps ++ v.tmps
  | .extract t _ => t.tmps
  | .len x => x.tmps
  | .lens x => x.tmps
  | .lenm x => x.tmps
  | .append _ _ _ s x => s.tmps ++ x.tmps
  | .appends _ _ _ s x => s.tmps ++ x.tmps
  | .delete _ m k => m.tmps ++ k.tmps
  | .clear _ _ x => x.tmps
  | .mnmx _ xs => tmpsL xs
  | .call f args => f.tmps ++ tmpsL args

def AOper.reads (o : AOper) : List Nat := o.op.tmps ++ (match o.grd with | some (d, _) => [d] | none => [])

/-- It looks at no memory, and changes none. -/
def AOp.pure : AOp → Bool
  | .mov _ | .pick .. | .build .. | .nilchk _ | .bin .. | .eq .. | .un .. | .mkfn .. | .slstr .. | .slice .. | .faddr .. | .field .. | .iaddr .. | .sidx .. | .extract .. | .len _ | .lens _ | .mnmx .. => true
  | .conv (.toInt _) _ | .conv .same _ => true
  | _ => false

theorem aeval_congr {τ τ' : List AV} {x : Opd} (h : ∀ n ∈ x.tmps, τ.getD n avU = τ'.getD n avU) : aeval τ x = aeval τ' x := by
  cases x with
  | t n => exact h n (by simp [Opd.tmps])
  | c v => rfl

theorem aevalL_congr {τ τ' : List AV} {xs : List Opd} (h : ∀ n ∈ tmpsL xs, τ.getD n avU = τ'.getD n avU) : xs.map (aeval τ) = xs.map (aeval τ') := by
  apply List.map_congr_left
  intro x hx
  exact aeval_congr fun n hn => h n (List.mem_flatMap.2 ⟨x, hx, hn⟩)

theorem aevalO_congr {τ τ' : List AV} {x : Option Opd} (h : ∀ n ∈ tmpsO x, τ.getD n avU = τ'.getD n avU) : x.map (aeval τ) = x.map (aeval τ') := by
  cases x with
  | none => rfl
  | some x => simp only [Option.map_some]; rw [aeval_congr h]

theorem aevalP_congr {τ τ' : List AV} {ps : List (Nat × Nat × Opd)} (h : ∀ n ∈ tmpsP ps, τ.getD n avU = τ'.getD n avU) :
    (ps.map fun (o, s, x) => (o, s, aeval τ x)) = ps.map fun (o, s, x) => (o, s, aeval τ' x) := by
  apply List.map_congr_left
  rintro ⟨o, s, x⟩ hx
  have := aeval_congr (x := x) fun n hn => h n (List.mem_flatMap.2 ⟨_, hx, hn⟩)
  simp only [this]

theorem aopE_congr {E : Env} {τ τ' : List AV} {H : Hp} {ao : AOp} (h : ∀ n ∈ ao.tmps, τ.getD n avU = τ'.getD n avU) : aopE E τ H ao = aopE E τ' H ao := by
  cases ao <;> simp only [AOp.tmps, List.mem_append] at h <;> simp only [aopE, aop]
  case mov x => rw [aeval_congr h]
  case pick c a b => rw [aeval_congr (x := c) fun n hn => h n (.inl (.inl hn)), aeval_congr (x := a) fun n hn => h n (.inl (.inr hn)), aeval_congr (x := b) fun n hn => h n (.inr hn)]
  case box t x => rw [aeval_congr h]
  case build z ps => rw [aevalP_congr h]
  case bslice e sz lay len z ps => rw [aevalP_congr h]
  case load n a => rw [aeval_congr h]
  case store n a x => rw [aeval_congr (x := a) fun n hn => h n (.inl hn), aeval_congr (x := x) fun n hn => h n (.inr hn)]
  case nilchk x => rw [aeval_congr h]
  case bin op x y => rw [aeval_congr (x := x) fun n hn => h n (.inl hn), aeval_congr (x := y) fun n hn => h n (.inr hn)]
  case eq neg d x y => rw [aeval_congr (x := x) fun n hn => h n (.inl hn), aeval_congr (x := y) fun n hn => h n (.inr hn)]
  case un op x => rw [aeval_congr h]
  case conv c x => rw [aeval_congr h]
  case mkfn f fs cs => rw [aevalL_congr (xs := fs) fun n hn => h n (.inl hn), aevalL_congr (xs := cs) fun n hn => h n (.inr hn)]
  case mkslice e sz b z l c => rw [aeval_congr (x := l) fun n hn => h n (.inl hn), aeval_congr (x := c) fun n hn => h n (.inr hn)]
  case slstr x lo hi => rw [aeval_congr (x := x) fun n hn => h n (.inl (.inl hn)), aevalO_congr (x := lo) fun n hn => h n (.inl (.inr hn)), aevalO_congr (x := hi) fun n hn => h n (.inr hn)]
  case slice sz x lo hi => rw [aeval_congr (x := x) fun n hn => h n (.inl (.inl hn)), aevalO_congr (x := lo) fun n hn => h n (.inl (.inr hn)), aevalO_congr (x := hi) fun n hn => h n (.inr hn)]
  case faddr off x => rw [aeval_congr h]
  case field off n x => rw [aeval_congr h]
  case iaddr sz x i => rw [aeval_congr (x := x) fun n hn => h n (.inl hn), aeval_congr (x := i) fun n hn => h n (.inr hn)]
  case sidx x i => rw [aeval_congr (x := x) fun n hn => h n (.inl hn), aeval_congr (x := i) fun n hn => h n (.inr hn)]
  case lookup kd z m k ok => rw [aeval_congr (x := m) fun n hn => h n (.inl hn), aeval_congr (x := k) fun n hn => h n (.inr hn)]
  case mapupd kd m k v => rw [aeval_congr (x := m) fun n hn => h n (.inl (.inl hn)), aeval_congr (x := k) fun n hn => h n (.inl (.inr hn)), aeval_congr (x := v) fun n hn => h n (.inr hn)]
  case extract t i => rw [aeval_congr h]
  case len x => rw [aeval_congr h]
  case lens x => rw [aeval_congr h]
  case lenm x => rw [aeval_congr h]
  case append e sz b s x => rw [aeval_congr (x := s) fun n hn => h n (.inl hn), aeval_congr (x := x) fun n hn => h n (.inr hn)]
  case appends e sz b s x => rw [aeval_congr (x := s) fun n hn => h n (.inl hn), aeval_congr (x := x) fun n hn => h n (.inr hn)]
  case delete kd m k => rw [aeval_congr (x := m) fun n hn => h n (.inl hn), aeval_congr (x := k) fun n hn => h n (.inr hn)]
  case clear sz z x => rw [aeval_congr h]
  case mnmx mx xs => rw [aevalL_congr h]
  case call f args => rw [aeval_congr (x := f) fun n hn => h n (.inl hn), aevalL_congr (xs := args) fun n hn => h n (.inr hn)]

theorem actO_congr {E : Env} {τ τ' : List AV} {H : Hp} {o : AOper} (h : ∀ n ∈ o.reads, τ.getD n avU = τ'.getD n avU) : actO E o τ H = actO E o τ' H := by
  have h1 : aopE E τ H o.op = aopE E τ' H o.op := aopE_congr fun n hn => h n (by simp [AOper.reads, hn])
  have h2 : wantA τ o.grd = wantA τ' o.grd := by
    unfold wantA
    cases hg : o.grd with
    | none => rfl
    | some p =>
      obtain ⟨d, b⟩ := p
      simp only []
      rw [h d (by simp [AOper.reads, hg])]
  unfold actO
  rw [h1, h2]

theorem conv_pure {c : ConvD} {x : Opd} (hp : (AOp.conv c x).pure = true) : (∃ k, c = .toInt k) ∨ c = .same := by cases c <;> simp [AOp.pure] at hp ⊢

theorem aconv_toInt {H : Hp} {k : IntKind} {x : AV} : aconv H (.toInt k) x = (match x with | .lit (.int _ n) => some (avInt k (k.wrap n), none) | _ => none) := by
  cases x with
  | lit v => cases v <;> rfl
  | _ => rfl
theorem aconv_same {H : Hp} {x : AV} : aconv H .same x = (match x with | .lit (.string s) => some (.lit (.string s), none) | _ => none) := by
  cases x with
  | lit v => cases v <;> rfl
  | _ => rfl

theorem pure_heap {E : Env} {τ : List AV} {H H' : Hp} {ao : AOp} (hp : ao.pure = true) : aopE E τ H ao = aopE E τ H' ao := by
  cases ao
  case conv c x =>
    rcases conv_pure hp with ⟨k, rfl⟩ | rfl
    · simp only [aopE, aop, aconv_toInt]
    · simp only [aopE, aop, aconv_same]
  all_goals first
    | (simp only [AOp.pure, Bool.false_eq_true] at hp; done)
    | rfl

theorem pure_none {E : Env} {τ : List AV} {H : Hp} {ao : AOp} (hp : ao.pure = true) {v : AV} {h : Option Hp} (e : aopE E τ H ao = some (v, h)) : h = none := by
  cases ao
  case conv c x =>
    rcases conv_pure hp with ⟨k, rfl⟩ | rfl
    · simp only [aopE, aop, aconv_toInt] at e
      split at e
      · simp only [Option.some.injEq, Prod.mk.injEq] at e; exact e.2.symm
      · simp at e
    · simp only [aopE, aop, aconv_same] at e
      split at e
      · simp only [Option.some.injEq, Prod.mk.injEq] at e; exact e.2.symm
      · simp at e
  all_goals first
    | (simp only [AOp.pure, Bool.false_eq_true] at hp; done)
    | skip
  all_goals (simp only [aopE, aop] at e)
  all_goals first
    | (simp only [Option.some.injEq, Prod.mk.injEq] at e; exact e.2.symm)
    | (obtain ⟨u, _, e⟩ := Option.map_eq_some_iff.1 e; simp only [Prod.mk.injEq] at e; exact e.2.symm)
    | (split at e <;> first
        | (simp only [Option.some.injEq, Prod.mk.injEq] at e; exact e.2.symm)
        | (obtain ⟨u, _, e⟩ := Option.map_eq_some_iff.1 e; simp only [Prod.mk.injEq] at e; exact e.2.symm)
        | (simp at e; done))

theorem actO_pure {E : Env} {o : AOper} {τ : List AV} {H H' : Hp} (hp : o.op.pure = true) : actO E o τ H = actO E o τ H' := by
  unfold actO
  rw [pure_heap hp]

theorem actO_pure_none {E : Env} {o : AOper} {τ : List AV} {H : Hp} (hp : o.op.pure = true) {v : AV} {h : Option Hp} (e : actO E o τ H = some (v, h)) : h = none := by
  unfold actO at e
  split at e
  · simp at e
  · simp only [Option.some.injEq, Prod.mk.injEq] at e; exact e.2.symm
  · exact pure_none hp e

structure HLe (H H' : Hp) : Prop where
  len : H.l.length ≤ H'.l.length
  d : ∀ m, H.d = some m → ∃ m', H'.d = some m' ∧ m' ≤ m
  pre : ∀ i, i < H.l.length → (∀ m, H'.d = some m → i < m) → H'.l[i]? = H.l[i]?

theorem HLe.refl (H : Hp) : HLe H H := ⟨Nat.le_refl _, fun m h => ⟨m, h, Nat.le_refl _⟩, fun _ _ _ => rfl⟩
theorem HLe.trans {A B C : Hp} (h : HLe A B) (k : HLe B C) : HLe A C := by
  refine ⟨Nat.le_trans h.len k.len, fun m hm => ?_, fun i hi hd => ?_⟩
  · obtain ⟨m1, h1, l1⟩ := h.d m hm
    obtain ⟨m2, h2, l2⟩ := k.d m1 h1
    exact ⟨m2, h2, Nat.le_trans l2 l1⟩
  · rw [k.pre i (Nat.lt_of_lt_of_le hi h.len) hd]
    refine h.pre i hi fun m hm => ?_
    obtain ⟨m', h1, l1⟩ := k.d m hm
    exact Nat.lt_of_lt_of_le (hd m' h1) l1

theorem HLe.alloc (H : Hp) (o : AObj) : HLe H (halloc H o) := by
  refine ⟨by simp [halloc], fun m h => ⟨m, h, Nat.le_refl _⟩, fun i hi _ => ?_⟩
  simp only [halloc]
  rw [List.getElem?_append_left hi]

theorem dmin_some (d : Option Nat) (n : Nat) : ∃ m, dmin d n = some m ∧ m ≤ n ∧ ∀ k, d = some k → m ≤ k := by
  cases d with
  | none => exact ⟨n, rfl, Nat.le_refl _, by simp⟩
  | some k => exact ⟨min k n, rfl, Nat.min_le_right _ _, fun k' h => by cases h; exact Nat.min_le_left _ _⟩

theorem HLe.set (H : Hp) (id : Nat) (o : Option AObj) : HLe H (hset H id o) := by
  obtain ⟨m, h1, h2, h3⟩ := dmin_some H.d id
  refine ⟨by simp [hset], fun k hk => ⟨m, h1, h3 k hk⟩, fun i hi hd => ?_⟩
  have := hd m h1
  simp only [hset]
  rw [List.getElem?_set_ne (by omega)]

/-- All that an operation leaves. -/
def Le? (H : Hp) (h : Option Hp) : Prop := HLe H (h.getD H)
theorem Le?.none (H : Hp) : Le? H none := HLe.refl H
theorem Le?.some {H H' : Hp} (h : HLe H H') : Le? H (some H') := h

theorem astore_le {H H' : Hp} {n : Nat} {a x : AV} (h : astore H n a x = some H') : HLe H H' := by
  unfold astore at h
  split at h
  · split at h
    · split at h
      · split at h
        · simp only [Option.some.injEq] at h; subst h; exact HLe.set _ _ _
        · simp at h
      · simp at h
    · split at h
      · split at h
        · split at h
          · simp only [Option.some.injEq] at h; subst h; exact HLe.set _ _ _
          · split at h
            · split at h
              · simp only [Option.some.injEq] at h; subst h; exact HLe.set _ _ _
              · simp at h
            · simp at h
        · simp at h
      · simp at h
    · simp at h
  · simp at h

theorem appendOn_le {H : Hp} {e : TypeId} {sz bytes : Nat} {s : AV} {ys : List AV} {v : AV} {h : Option Hp} (e1 : appendOn H e sz bytes s ys = some (v, h)) : Le? H h := by
  unfold appendOn at e1
  split at e1
  · split at e1
    · split at e1
      · simp only [Option.some.injEq, Prod.mk.injEq] at e1; obtain ⟨_, rfl⟩ := e1; exact Le?.none H
      · simp only [Option.some.injEq, Prod.mk.injEq] at e1; obtain ⟨_, rfl⟩ := e1; exact HLe.alloc _ _
    · simp at e1
  · split at e1
    · split at e1
      · simp only [Option.some.injEq, Prod.mk.injEq] at e1; obtain ⟨_, rfl⟩ := e1; exact (HLe.set _ _ _).trans (HLe.alloc _ _)
      · simp at e1
    · simp at e1
  · simp at e1

theorem aconv_le {H : Hp} {c : ConvD} {x : AV} {v : AV} {h : Option Hp} (e1 : aconv H c x = some (v, h)) : Le? H h := by
  unfold aconv at e1
  split at e1
  · simp only [Option.some.injEq, Prod.mk.injEq] at e1; obtain ⟨_, rfl⟩ := e1; exact Le?.none H
  · simp only [Option.some.injEq, Prod.mk.injEq] at e1; obtain ⟨_, rfl⟩ := e1; exact Le?.none H
  · split at e1
    · simp only [Option.some.injEq, Prod.mk.injEq] at e1; obtain ⟨_, rfl⟩ := e1; exact HLe.alloc _ _
    · simp at e1
  · simp only [Option.bind_eq_bind, Option.pure_def] at e1
    obtain ⟨es, _, e1⟩ := Option.bind_eq_some_iff.1 e1
    obtain ⟨b, _, e1⟩ := Option.bind_eq_some_iff.1 e1
    simp only [Option.some.injEq, Prod.mk.injEq] at e1; obtain ⟨_, rfl⟩ := e1; exact Le?.none H
  · split at e1
    · split at e1
      · simp only [Option.some.injEq, Prod.mk.injEq] at e1; obtain ⟨_, rfl⟩ := e1; exact HLe.set _ _ _
      · simp at e1
    · simp at e1
  · simp at e1

theorem aMapupd_le {H H' : Hp} {kd : KD} {k : Value} {v m : AV} (h : aMapupd H kd k v m = some H') : HLe H H' := by
  unfold aMapupd at h
  split at h
  · split at h
    · obtain ⟨p, _, rfl⟩ := Option.map_eq_some_iff.1 h; exact HLe.set _ _ _
    · simp at h
  · simp at h

theorem aClear_le {H : Hp} {sz : Nat} {z x : AV} {H' : Option Hp} (h : aClear H sz z x = some H') : Le? H H' := by
  unfold aClear at h
  split at h
  · simp only [Option.some.injEq] at h; subst h; exact Le?.none H
  · split at h
    · split at h
      · simp only [Option.some.injEq] at h; subst h; exact Le?.none H
      · split at h
        · split at h
          · simp only [Option.some.injEq] at h; subst h; exact Le?.some (HLe.set H _ _)
          · simp at h
        · simp at h
    · simp at h
  · simp at h
theorem aDelete_le {H : Hp} {kd : KD} {k : Value} {m : AV} {h : Option Hp} (e : aDelete H kd k m = some h) : Le? H h := by
  unfold aDelete at e
  split at e
  · simp only [Option.some.injEq] at e; subst e; exact Le?.none H
  · split at e
    · split at e
      · simp only [Option.some.injEq] at e; subst e; exact HLe.set _ _ _
      · simp only [Option.some.injEq] at e; subst e; exact HLe.set _ _ _
      · simp at e
    · simp at e
  · simp at e

theorem aop_le {τ : List AV} {H : Hp} {ao : AOp} {v : AV} {h : Option Hp} (e : aop τ H ao = some (v, h)) : Le? H h := by
  by_cases hp : ao.pure = true
  · have : aopE ⟨fun _ _ _ => none, fun _ _ _ => none, fun _ _ _ _ => none, fun _ _ _ _ _ _ _ => none, fun _ _ _ => none⟩ τ H ao = some (v, h) := by
      cases ao <;> first | exact e | (simp [aop] at e; done)
    rw [pure_none hp this]; exact Le?.none H
  · cases ao <;> first
      | (exact absurd rfl hp)
      | (simp only [aop] at e)
    case box t x =>
      split at e
      · simp only [Option.some.injEq, Prod.mk.injEq] at e; obtain ⟨_, rfl⟩ := e; exact HLe.alloc _ _
      · simp at e
    case new t z =>
      split at e
      · simp only [Option.some.injEq, Prod.mk.injEq] at e; obtain ⟨_, rfl⟩ := e; exact HLe.alloc _ _
      · simp at e
    case bslice =>
      obtain ⟨cs, _, e⟩ := Option.bind_eq_some_iff.1 e
      split at e
      · simp only [Option.some.injEq, Prod.mk.injEq] at e; obtain ⟨_, rfl⟩ := e; exact HLe.alloc _ _
      · simp at e
    case load =>
      obtain ⟨u, _, e⟩ := Option.map_eq_some_iff.1 e
      simp only [Prod.mk.injEq] at e; obtain ⟨_, rfl⟩ := e; exact Le?.none H
    case store =>
      obtain ⟨u, hu, e⟩ := Option.map_eq_some_iff.1 e
      simp only [Prod.mk.injEq] at e; obtain ⟨_, rfl⟩ := e; exact astore_le hu
    case conv c x => exact aconv_le e
    case mkmap => simp only [Option.some.injEq, Prod.mk.injEq] at e; obtain ⟨_, rfl⟩ := e; exact HLe.alloc _ _
    case mkslice =>
      split at e
      · split at e
        · simp only [Option.some.injEq, Prod.mk.injEq] at e; obtain ⟨_, rfl⟩ := e; exact HLe.alloc _ _
        · simp at e
      · simp at e
    case lookup =>
      obtain ⟨u, _, e⟩ := Option.bind_eq_some_iff.1 e
      obtain ⟨u, _, e⟩ := Option.map_eq_some_iff.1 e
      simp only [Prod.mk.injEq] at e; obtain ⟨_, rfl⟩ := e; exact Le?.none H
    case mapupd =>
      obtain ⟨u, _, e⟩ := Option.bind_eq_some_iff.1 e
      obtain ⟨u, hu, e⟩ := Option.map_eq_some_iff.1 e
      simp only [Prod.mk.injEq] at e; obtain ⟨_, rfl⟩ := e; exact aMapupd_le hu
    case lenm =>
      obtain ⟨u, _, e⟩ := Option.map_eq_some_iff.1 e
      simp only [Prod.mk.injEq] at e; obtain ⟨_, rfl⟩ := e; exact Le?.none H
    case append =>
      obtain ⟨u, _, e⟩ := Option.bind_eq_some_iff.1 e
      exact appendOn_le e
    case appends =>
      obtain ⟨u, _, e⟩ := Option.bind_eq_some_iff.1 e
      exact appendOn_le e
    case delete =>
      obtain ⟨u, _, e⟩ := Option.bind_eq_some_iff.1 e
      obtain ⟨u, hu, e⟩ := Option.map_eq_some_iff.1 e
      simp only [Prod.mk.injEq] at e; obtain ⟨_, rfl⟩ := e; exact aDelete_le hu
    case clear =>
      obtain ⟨u, hu, e⟩ := Option.map_eq_some_iff.1 e
      simp only [Prod.mk.injEq] at e; obtain ⟨_, rfl⟩ := e; exact aClear_le hu
    case call => simp at e

structure CLe (E : Env) : Prop where
  call : ∀ {f : FuncId} {args : List AV} {H : Hp} {v : AV} {h : Option Hp}, E.call f args H = some (v, h) → Le? H h
  yld : ∀ {l : Nat} {args : List AV} {H : Hp} {v : AV} {h : Option Hp}, E.yld l args H = some (v, h) → Le? H h

theorem actO_le {E : Env} (hE : CLe E) {o : AOper} {τ : List AV} {H : Hp} {v : AV} {h : Option Hp} (e : actO E o τ H = some (v, h)) : Le? H h := by
  unfold actO at e
  split at e
  · simp at e
  · simp only [Option.some.injEq, Prod.mk.injEq] at e; obtain ⟨_, rfl⟩ := e; exact Le?.none H
  · by_cases hc : ∃ f args, o.op = .call f args
    · obtain ⟨f, args, hc⟩ := hc
      rw [hc] at e
      simp only [aopE, callV] at e
      split at e
      · exact hE.call e
      · exact hE.yld e
      · simp at e
    · have : aop τ H o.op = some (v, h) := by
        cases hk : o.op <;> rw [hk] at e <;> simp only [aopE] at e <;> first
          | exact e
          | exact absurd ⟨_, _, hk⟩ hc
      exact aop_le this

/-! ### Readers -/
def isRd : AOp → Bool
  | .load _ _ | .lookup .. | .lenm _ | .conv .str _ => true
  | _ => false

theorem asElems_mono {H H' : Hp} (hm : ∀ id o, hget H id = some o → hget H' id = some o) {x : AV} {es : List AV} (h : asElems H x = some es) : asElems H' x = some es := by
  unfold asElems at h ⊢
  split at h
  · exact h
  · exact h
  · rename_i sz id off n
    split at h
    · rename_i ho
      simp only [hm _ _ ho]
      exact h
    · simp at h
  · simp at h

theorem aload_mono {H H' : Hp} (hm : ∀ id o, hget H id = some o → hget H' id = some o) {n : Option Nat} {x v : AV} (h : aload H n x = some v) : aload H' n x = some v := by
  unfold aload at h ⊢
  split at h
  · split at h
    · rename_i ho
      simp only [hm _ _ ho]; exact h
    · simp at h
  · split at h
    · rename_i ho
      simp only [hm _ _ ho]; exact h
    · simp at h
  · exact h
  · simp at h

theorem aLookup_mono {H H' : Hp} (hm : ∀ id o, hget H id = some o → hget H' id = some o) {kd : KD} {z : AV} {ok : Bool} {k : Value} {m v : AV} (h : aLookup H kd z ok k m = some v) : aLookup H' kd z ok k m = some v := by
  unfold aLookup at h ⊢
  split at h
  · exact h
  · split at h
    · rename_i ho
      simp only [hm _ _ ho]; exact h
    · simp at h
  · simp at h

theorem aLenm_mono {H H' : Hp} (hm : ∀ id o, hget H id = some o → hget H' id = some o) {m v : AV} (h : aLenm H m = some v) : aLenm H' m = some v := by
  unfold aLenm at h ⊢
  split at h
  · exact h
  · split at h
    · rename_i ho
      simp only [hm _ _ ho]; exact h
    · simp at h
  · simp at h

theorem isRd_inv {ao : AOp} (h : isRd ao = true) : (∃ n a, ao = .load n a) ∨ (∃ kd z m k ok, ao = .lookup kd z m k ok) ∨ (∃ x, ao = .lenm x) ∨ (∃ x, ao = .conv .str x) := by
  unfold isRd at h
  split at h
  · exact .inl ⟨_, _, rfl⟩
  · exact .inr (.inl ⟨_, _, _, _, _, rfl⟩)
  · exact .inr (.inr (.inl ⟨_, rfl⟩))
  · exact .inr (.inr (.inr ⟨_, rfl⟩))
  · simp at h

theorem aconv_str {H : Hp} {x : AV} : aconv H .str x = (asElems H x).bind fun es => (bytesOf es).bind fun b => some (avStr b, none) := by
  cases x <;> rfl

theorem aopE_rd {E : Env} {τ : List AV} {H H' : Hp} {ao : AOp} (hr : isRd ao = true) (hm : ∀ id o, hget H id = some o → hget H' id = some o) {v : AV} {h : Option Hp} (e : aopE E τ H ao = some (v, h)) : h = none ∧ aopE E τ H' ao = some (v, none) := by
  rcases isRd_inv hr with ⟨n, a, rfl⟩ | ⟨kd, z, m, k, ok, rfl⟩ | ⟨x, rfl⟩ | ⟨x, rfl⟩
  · simp only [aopE, aop] at e ⊢
    obtain ⟨u, hu, e⟩ := Option.map_eq_some_iff.1 e
    simp only [Prod.mk.injEq] at e; obtain ⟨rfl, rfl⟩ := e
    exact ⟨rfl, by rw [aload_mono hm hu]; rfl⟩
  · simp only [aopE, aop] at e ⊢
    obtain ⟨kk, hk, e⟩ := Option.bind_eq_some_iff.1 e
    obtain ⟨u, hu, e⟩ := Option.map_eq_some_iff.1 e
    simp only [Prod.mk.injEq] at e; obtain ⟨rfl, rfl⟩ := e
    refine ⟨rfl, ?_⟩
    rw [hk, Option.bind_some, aLookup_mono hm hu]; rfl
  · simp only [aopE, aop] at e ⊢
    obtain ⟨u, hu, e⟩ := Option.map_eq_some_iff.1 e
    simp only [Prod.mk.injEq] at e; obtain ⟨rfl, rfl⟩ := e
    exact ⟨rfl, by rw [aLenm_mono hm hu]; rfl⟩
  · simp only [aopE, aop, aconv_str] at e ⊢
    obtain ⟨es, hes, e⟩ := Option.bind_eq_some_iff.1 e
    obtain ⟨b, hb, e⟩ := Option.bind_eq_some_iff.1 e
    simp only [Option.some.injEq, Prod.mk.injEq] at e; obtain ⟨rfl, rfl⟩ := e
    refine ⟨rfl, ?_⟩
    rw [asElems_mono hm hes, Option.bind_some, hb]; rfl

theorem actO_rd {E : Env} {τ : List AV} {H H' : Hp} {o : AOper} (hr : isRd o.op = true) (hm : ∀ id ob, hget H id = some ob → hget H' id = some ob) {v : AV} {h : Option Hp} (e : actO E o τ H = some (v, h)) : h = none ∧ actO E o τ H' = some (v, none) := by
  unfold actO at e ⊢
  split at e
  · simp at e
  · simp only [Option.some.injEq, Prod.mk.injEq] at e; obtain ⟨rfl, rfl⟩ := e
    exact ⟨rfl, rfl⟩
  · exact aopE_rd hr hm e

/-- A load and a store, of different objects. -/
def apartLS (df : List (Nat × Nat)) (x y : AOp) : Bool :=
  match x, y with
  | .load _ (.t a), .store _ (.t b) _ => df.contains (a, b)
  | .store _ (.t b) _, .load _ (.t a) => df.contains (a, b)
  | _, _ => false

/-- The pairs name different objects. -/
def difOK (τ : List AV) (df : List (Nat × Nat)) : Bool :=
  df.all fun p => match τ.getD p.1 avU, τ.getD p.2 avU with | .ptr i _, .ptr j _ => i != j | _, _ => false

theorem astore_ptr {H : Hp} {n id off : Nat} {x : AV} : astore H n (.ptr id off) x = if x.good = true ∧ x.cells.length = n then
    (match hget H id with
      | some (.cells cs t) => if off + n ≤ cs.length then some (hset H id (some (.cells (setFrom cs off x.cells) t))) else none
      | _ => none) else none := rfl

theorem load_apart {E : Env} {x y : AOper} {τ : List AV} {H : Hp} {v : AV} {h : Option Hp} {df : List (Nat × Nat)} {n : Option Nat} {m a b : Nat} {s : Opd} (hd : difOK τ df = true) (hm : df.contains (a, b) = true) (hx : x.op = .load n (.t a)) (hy : y.op = .store m (.t b) s)
    (e : actO E y τ H = some (v, h)) : actO E x τ (h.getD H) = actO E x τ H := by
  unfold difOK at hd
  rw [List.all_eq_true] at hd
  have hd := hd (a, b) (by simpa using hm)
  simp only [] at hd
  split at hd
  · rename_i i o j o' ha hb
    simp only [bne_iff_ne, ne_eq] at hd
    have hh : ∀ z, h = some z → ∃ ob, z = hset H j ob := by
      rintro z rfl
      unfold actO at e
      split at e
      · simp at e
      · simp at e
      · rw [hy] at e
        simp only [aopE, aop] at e
        rw [show aeval τ (.t b) = .ptr j o' from hb] at e
        obtain ⟨H', h1, h2⟩ := Option.map_eq_some_iff.1 e
        simp only [Prod.mk.injEq, Option.some.injEq] at h2
        obtain ⟨_, rfl⟩ := h2
        rw [astore_ptr] at h1
        split at h1
        · split at h1
          · split at h1
            · simp only [Option.some.injEq] at h1; exact ⟨_, h1.symm⟩
            · simp at h1
          · simp at h1
        · simp at h1
    cases h with
    | none => rfl
    | some z =>
      obtain ⟨ob, rfl⟩ := hh z rfl
      have hg : hget (hset H j ob) i = hget H i := by
        simp only [hget, hset]
        rw [List.getElem?_set_ne (fun e => hd e.symm)]
      unfold actO
      rw [hx]
      simp only [aopE, aop, aeval, ha, aload, Option.getD_some, hg]
  · simp at hd

/-- Two operations that may be taken in either order. -/
def apartA (df : List (Nat × Nat)) (x y : AOper × Nat) : Bool :=
  (match x.1.dst with | some d => !(y.1.reads.contains d) && y.1.dst != some d | none => true) &&
  (match y.1.dst with | some d => !(x.1.reads.contains d) | none => true) &&
  (x.1.op.pure || y.1.op.pure || (decide (x.2 = 2) && decide (y.2 = 2)) || (apartLS df x.1.op y.1.op && x.2 != 3) || (isRd x.1.op && y.2 == 1) || (isLd x.1.op && isKl y.1.op && y.2 == 3))

theorem getD_aput {dst : Option Nat} {v : AV} {τ : List AV} {n : Nat} (h : ∀ d, dst = some d → d ≠ n) : (aput dst v τ).getD n avU = τ.getD n avU := by
  unfold aput
  cases dst with
  | none => rfl
  | some d =>
    simp only [List.getD_eq_getElem?_getD]
    rw [List.getElem?_set_ne (h d rfl)]

theorem difOK_put {dst : Option Nat} {v : AV} {τ : List AV} {df : List (Nat × Nat)} (h : ∀ d, dst = some d → ∀ p ∈ df, p.1 ≠ d ∧ p.2 ≠ d) : difOK (aput dst v τ) df = difOK τ df := by
  unfold difOK
  rw [Bool.eq_iff_iff, List.all_eq_true, List.all_eq_true]
  have key : ∀ p ∈ df, (aput dst v τ).getD p.1 avU = τ.getD p.1 avU ∧ (aput dst v τ).getD p.2 avU = τ.getD p.2 avU := fun p hp =>
    ⟨getD_aput fun d hd => ((h d hd p hp).1).symm, getD_aput fun d hd => ((h d hd p hp).2).symm⟩
  constructor
  · intro hh p hp
    have := hh p hp
    rw [(key p hp).1, (key p hp).2] at this
    exact this
  · intro hh p hp
    rw [(key p hp).1, (key p hp).2]
    exact hh p hp

theorem aput_comm {d d' : Option Nat} {u v : AV} {τ : List AV} (h : ∀ x, d = some x → d' ≠ some x) : aput d u (aput d' v τ) = aput d' v (aput d u τ) := by
  unfold aput
  cases d with
  | none => rfl
  | some x =>
    cases d' with
    | none => rfl
    | some y =>
      have : x ≠ y := fun e => h x rfl (by rw [e])
      simp only []
      exact List.set_comm _ _ (fun e => this e.symm)

/-- What actQ says of actO. -/
theorem actQ_inv {E : Env} {q : Nat} {o : AOper} {τ : List AV} {H : Hp} {v : AV} {h : Option Hp} (e : actQ E q o τ H = some (v, h)) :
    ∃ d g, actO E o τ { l := H.l, d := d } = some (v, g) ∧ (h.getD H).l = (g.getD { l := H.l, d := d }).l ∧ (g = none ↔ h = none) ∧ (q = 2 → h = none) ∧ (q = 0 → actO E o τ H = some (v, h)) := by
  unfold actQ at e
  split at e
  · exact ⟨H.d, h, e, rfl, Iff.rfl, fun h2 => absurd h2 (by omega), fun _ => e⟩
  · split at e
    · rename_i u hu
      simp only [Option.some.injEq, Prod.mk.injEq] at e; obtain ⟨rfl, rfl⟩ := e
      exact ⟨none, none, hu, rfl, Iff.rfl, fun _ => rfl, fun hh => by cases hh⟩
    · rename_i u H' hu
      split at e
      · simp only [Option.some.injEq, Prod.mk.injEq] at e; obtain ⟨rfl, rfl⟩ := e
        exact ⟨none, some H', hu, rfl, by simp, fun h2 => absurd h2 (by omega), fun hh => by cases hh⟩
      · simp at e
    · simp at e
  · exact ⟨H.d, h, e, rfl, Iff.rfl, fun h2 => absurd h2 (by omega), fun h0 => absurd h0 (by omega)⟩
  · rename_i q' h0 h1 h3
    split at e
    · rename_i u hu
      simp only [Option.some.injEq, Prod.mk.injEq] at e; obtain ⟨rfl, rfl⟩ := e
      exact ⟨H.d, none, hu, rfl, Iff.rfl, fun _ => rfl, fun hh => absurd hh (by intro e; exact h0 e)⟩
    · simp at e
    · simp at e

theorem actQ_le {E : Env} (hE : CLe E) {q : Nat} {o : AOper} {τ : List AV} {H : Hp} {v : AV} {h : Option Hp} (e : actQ E q o τ H = some (v, h)) : Le? H h := by
  unfold actQ at e
  split at e
  · exact actO_le hE e
  · split at e
    · simp only [Option.some.injEq, Prod.mk.injEq] at e; obtain ⟨rfl, rfl⟩ := e; exact Le?.none H
    · rename_i u H' hu
      split at e
      · simp only [Option.some.injEq, Prod.mk.injEq] at e; obtain ⟨rfl, rfl⟩ := e
        have hl : HLe { l := H.l, d := none } H' := actO_le hE hu
        refine ⟨hl.len, fun m hm => ?_, fun i hi hd => ?_⟩
        · simp only [Option.getD_some, dminO]
          cases hd : H'.d with
          | none => exact ⟨m, hm, Nat.le_refl _⟩
          | some n =>
            obtain ⟨k, h1, h2, h3⟩ := dmin_some H.d n
            exact ⟨k, h1, h3 m hm⟩
        · refine hl.pre i hi fun m hm => ?_
          simp only [Option.getD_some, dminO, hm] at hd
          obtain ⟨k, h1, h2, h3⟩ := dmin_some H.d m
          exact Nat.lt_of_lt_of_le (hd k h1) h2
      · simp at e
    · simp at e
  · exact actO_le hE e
  · split at e
    · simp only [Option.some.injEq, Prod.mk.injEq] at e; obtain ⟨rfl, rfl⟩ := e; exact Le?.none H
    · simp at e
    · simp at e

/-- At level 1 the old objects stay. -/
theorem actQ_one {E : Env} (hE : CLe E) {o : AOper} {τ : List AV} {H : Hp} {v : AV} {h : Option Hp} (e : actQ E 1 o τ H = some (v, h)) : ∀ id ob, hget H id = some ob → hget (h.getD H) id = some ob := by
  intro id ob ho
  simp only [actQ] at e
  split at e
  · simp only [Option.some.injEq, Prod.mk.injEq] at e; obtain ⟨rfl, rfl⟩ := e; exact ho
  · rename_i u H' hu
    split at e
    · rename_i hk
      simp only [Option.some.injEq, Prod.mk.injEq] at e; obtain ⟨rfl, rfl⟩ := e
      have hl : HLe { l := H.l, d := none } H' := actO_le hE hu
      have hid : id < H.l.length := (List.getElem?_eq_some_iff.1 (hget_some ho)).1
      have := hl.pre id hid (fun m hm => by
        unfold keeps at hk
        rw [hm] at hk
        simp only [decide_eq_true_eq] at hk
        omega)
      simp only [hget, Option.getD_some] at ho ⊢
      rw [this]; exact ho
    · simp at e
  · simp at e

theorem actQ_congr {E : Env} {q : Nat} {τ τ' : List AV} {H : Hp} {o : AOper} (h : ∀ n ∈ o.reads, τ.getD n avU = τ'.getD n avU) : actQ E q o τ H = actQ E q o τ' H := by
  unfold actQ
  rw [actO_congr h, actO_congr h]

theorem actQ_none {E : Env} {q : Nat} {τ : List AV} {H : Hp} {o : AOper} {v : AV} (h1 : actO E o τ H = some (v, none)) (h2 : actO E o τ { l := H.l, d := none } = some (v, none)) : actQ E q o τ H = some (v, none) := by
  unfold actQ
  split
  · exact h1
  · rw [h2]
  · exact h1
  · rw [h1]

theorem actQ_pure {E : Env} {q : Nat} {τ : List AV} {H H' : Hp} {o : AOper} (hp : o.op.pure = true) {v : AV} {h : Option Hp} (e : actQ E q o τ H = some (v, h)) : h = none ∧ actQ E q o τ H' = some (v, none) := by
  obtain ⟨d, g, e1, _, e3, _⟩ := actQ_inv e
  have hg := actO_pure_none hp e1
  subst hg
  refine ⟨e3.1 rfl, actQ_none ?_ ?_⟩
  · rw [actO_pure hp (H' := { l := H.l, d := d })]; exact e1
  · rw [actO_pure hp (H' := { l := H.l, d := d })]; exact e1

theorem actQ_rd {E : Env} {q : Nat} {τ : List AV} {H H' : Hp} {o : AOper} (hr : isRd o.op = true) (hm : ∀ id ob, hget H id = some ob → hget H' id = some ob) {v : AV} {h : Option Hp} (e : actQ E q o τ H = some (v, h)) : h = none ∧ actQ E q o τ H' = some (v, none) := by
  obtain ⟨d, g, e1, _, e3, _⟩ := actQ_inv e
  obtain ⟨hg, _⟩ := actO_rd (H := { l := H.l, d := d }) (H' := H') hr hm e1
  subst hg
  exact ⟨e3.1 rfl, actQ_none (actO_rd (H := { l := H.l, d := d }) (H' := H') hr hm e1).2 (actO_rd (H := { l := H.l, d := d }) (H' := { l := H'.l, d := none }) hr hm e1).2⟩

theorem actQ_two {E : Env} {q : Nat} {τ : List AV} {H : Hp} {o : AOper} (hq : q = 2) {v : AV} {h : Option Hp} (e : actQ E q o τ H = some (v, h)) : h = none := by
  obtain ⟨d, g, _, _, _, e4, _⟩ := actQ_inv e
  exact e4 hq

theorem apartLS_inv {df : List (Nat × Nat)} {x y : AOp} (h : apartLS df x y = true) :
    (∃ n m a b s, x = .load n (.t a) ∧ y = .store m (.t b) s ∧ df.contains (a, b) = true) ∨ (∃ n m a b s, x = .store m (.t b) s ∧ y = .load n (.t a) ∧ df.contains (a, b) = true) := by
  unfold apartLS at h
  split at h
  · exact .inl ⟨_, _, _, _, _, rfl, rfl, h⟩
  · exact .inr ⟨_, _, _, _, _, rfl, rfl, h⟩
  · simp at h

theorem load_apartQ {E : Env} {x y : AOper} {q r : Nat} {τ : List AV} {H : Hp} {v u : AV} {h g : Option Hp} {df : List (Nat × Nat)} {n : Option Nat} {m a b : Nat} {s : Opd} (hd : difOK τ df = true) (hm : df.contains (a, b) = true) (hx : x.op = .load n (.t a)) (hy : y.op = .store m (.t b) s)
    (e : actQ E q y τ H = some (v, h)) : (actQ E r x τ H = some (u, g) ↔ actQ E r x τ (h.getD H) = some (u, g)) := by
  obtain ⟨d, z, e1, e2, e3, _⟩ := actQ_inv e
  have hxr : isRd x.op = true := by rw [hx]; rfl
  have key : ∀ G : Hp, actQ E r x τ G = some (u, g) ↔ (g = none ∧ actO E x τ G = some (u, none)) := by
    intro G
    constructor
    · intro hh
      have := (actQ_rd hxr (H' := G) (fun _ _ h => h) hh)
      obtain ⟨rfl, hh'⟩ := this
      obtain ⟨d', g', f1, _, f3, _⟩ := actQ_inv hh
      have := f3.2 rfl
      subst this
      exact ⟨rfl, (actO_rd (H := { l := G.l, d := d' }) (H' := G) hxr (fun _ _ h => h) f1).2⟩
    · rintro ⟨rfl, hh⟩
      exact actQ_none hh (actO_rd (H := G) (H' := { l := G.l, d := none }) hxr (fun _ _ h => h) hh).2
  rw [key, key]
  have hl := load_apart (E := E) (x := x) hd hm hx hy e1
  have t1 : actO E x τ H = actO E x τ { l := H.l, d := d } := by
    apply Option.ext
    rintro ⟨p, k⟩
    constructor
    · intro hh
      have := actO_rd (H := H) (H' := { l := H.l, d := d }) hxr (fun _ _ h => h) hh
      obtain ⟨rfl, hh⟩ := this; assumption
    · intro hh
      have := actO_rd (H := { l := H.l, d := d }) (H' := H) hxr (fun _ _ h => h) hh
      obtain ⟨rfl, hh⟩ := this; assumption
  have t2 : actO E x τ (h.getD H) = actO E x τ (z.getD { l := H.l, d := d }) := by
    have hg : ∀ id, hget (h.getD H) id = hget (z.getD { l := H.l, d := d }) id := fun id => by simp only [hget, e2]
    apply Option.ext
    rintro ⟨p, k⟩
    constructor
    · intro hh
      have := actO_rd (H := h.getD H) (H' := z.getD { l := H.l, d := d }) hxr (fun id ob ho => by rw [← hg]; exact ho) hh
      obtain ⟨rfl, hh⟩ := this; assumption
    · intro hh
      have := actO_rd (H := z.getD { l := H.l, d := d }) (H' := h.getD H) hxr (fun id ob ho => by rw [hg]; exact ho) hh
      obtain ⟨rfl, hh⟩ := this; assumption
  rw [t1, t2, hl]

theorem load_noneQ {E : Env} {x : AOper} {q : Nat} {τ : List AV} {H : Hp} {v : AV} {h : Option Hp} {n : Option Nat} {a : Opd} (hx : x.op = .load n a) (e : actQ E q x τ H = some (v, h)) : h = none :=
  (actQ_rd (H' := H) (by rw [hx]; rfl) (fun _ _ h => h) e).1

theorem rdOf_congr {τ τ' : List AV} {o : AOper} (h : ∀ n ∈ o.reads, τ.getD n avU = τ'.getD n avU) : rdOf o τ = rdOf o τ' := by
  unfold rdOf
  split
  · rename_i n a hop
    rw [aeval_congr fun k hk => h k (by simp [AOper.reads, hop, AOp.tmps, hk])]
  · rfl
theorem killOf_congr {τ τ' : List AV} {o : AOper} (h : ∀ n ∈ o.reads, τ.getD n avU = τ'.getD n avU) : killOf o τ = killOf o τ' := by
  unfold killOf
  split
  · rename_i s x hop
    rw [aeval_congr fun k hk => h k (by simp [AOper.reads, hop, AOp.tmps, hk])]
  · rename_i s x hop
    rw [aeval_congr fun k hk => h k (by simp [AOper.reads, hop, AOp.tmps, hk])]
  · rename_i s x hop
    rw [aeval_congr fun k hk => h k (by simp [AOper.reads, hop, AOp.tmps, hk])]
  · rfl
theorem killOK_congr {R : List Nat} {τ τ' : List AV} {o : AOper × Nat} (h : ∀ n ∈ o.1.reads, τ.getD n avU = τ'.getD n avU) : killOK R o τ = killOK R o τ' := by
  unfold killOK
  rw [killOf_congr h]
theorem killOK_sub {R R' : List Nat} {τ : List AV} {o : AOper × Nat} (hs : ∀ i ∈ R', i ∈ R) (h : killOK R o τ = true) : killOK R' o τ = true := by
  unfold killOK at h ⊢
  rw [Bool.or_eq_true] at h ⊢
  rcases h with h | h
  · exact .inl h
  · refine .inr ?_
    split at h
    · rename_i id hk
      simp only [Bool.not_eq_true', List.contains_eq_mem, decide_eq_false_iff_not] at h ⊢
      exact fun hi => h (hs _ hi)
    · rename_i hk
      rfl
theorem execQ_mem {E : Env} : ∀ {l : List (AOper × Nat)} {R R' : List Nat} {τ : List AV} {H : Hp} {r}, (∀ i, i ∈ R' → i ∈ R) → execQ E R l τ H = some r → execQ E R' l τ H = some r
  | [], R, R', τ, H, r, _, h => h
  | o :: l, R, R', τ, H, r, hs, h => by
    simp only [execQ] at h ⊢
    split at h
    · rename_i hk
      rw [if_pos (killOK_sub hs hk)]
      split at h
      · refine execQ_mem (R := rdOf o.1 τ ++ R) (fun i hi => ?_) h
        rcases List.mem_append.1 hi with hi | hi
        · exact List.mem_append_left _ hi
        · exact List.mem_append_right _ (hs i hi)
      · simp at h
    · simp at h
theorem aload_keep {H H' : Hp} {n : Option Nat} {x v : AV} (hm : ∀ id ∈ ridOf x, ∀ o, hget H id = some o → hget H' id = some o) (h : aload H n x = some v) : aload H' n x = some v := by
  unfold aload at h ⊢
  split at h
  · split at h
    · rename_i ho
      simp only [hm _ (by simp [ridOf]) _ ho]; exact h
    · simp at h
  · split at h
    · rename_i ho
      simp only [hm _ (by simp [ridOf]) _ ho]; exact h
    · simp at h
  · exact h
  · simp at h
theorem actO_ld {E : Env} {τ : List AV} {H H' : Hp} {o : AOper} (hr : isLd o.op = true) (hm : ∀ id ∈ rdOf o τ, ∀ ob, hget H id = some ob → hget H' id = some ob) {v : AV} {h : Option Hp} (e : actO E o τ H = some (v, h)) : h = none ∧ actO E o τ H' = some (v, none) := by
  unfold isLd at hr
  split at hr
  · rename_i n a hop
    unfold rdOf at hm
    rw [hop] at hm
    unfold actO at e ⊢
    split at e
    · simp at e
    · simp only [Option.some.injEq, Prod.mk.injEq] at e; obtain ⟨rfl, rfl⟩ := e
      exact ⟨rfl, rfl⟩
    · rw [hop] at e ⊢
      simp only [aopE, aop] at e ⊢
      obtain ⟨u, hu, e⟩ := Option.map_eq_some_iff.1 e
      simp only [Prod.mk.injEq] at e; obtain ⟨rfl, rfl⟩ := e
      exact ⟨rfl, by rw [aload_keep hm hu]; rfl⟩
  · simp at hr
theorem actQ_ld {E : Env} {q : Nat} {τ : List AV} {H H' : Hp} {o : AOper} (hr : isLd o.op = true) (hm : ∀ id ∈ rdOf o τ, ∀ ob, hget H id = some ob → hget H' id = some ob) {v : AV} {h : Option Hp} (e : actQ E q o τ H = some (v, h)) : h = none ∧ actQ E q o τ H' = some (v, none) := by
  obtain ⟨d, g, e1, _, e3, _⟩ := actQ_inv e
  obtain ⟨hg, _⟩ := actO_ld (H := { l := H.l, d := d }) (H' := H') hr hm e1
  subst hg
  exact ⟨e3.1 rfl, actQ_none (actO_ld (H := { l := H.l, d := d }) (H' := H') hr hm e1).2 (actO_ld (H := { l := H.l, d := d }) (H' := { l := H'.l, d := none }) hr hm e1).2⟩
theorem appendOn_old {H : Hp} {e : TypeId} {sz bytes : Nat} {s : AV} {ys : List AV} {v : AV} {h : Option Hp} (e1 : appendOn H e sz bytes s ys = some (v, h)) : ∀ id ob, (∀ k, kid s = some k → id ≠ k) → hget H id = some ob → hget (h.getD H) id = some ob := by
  intro id ob hk ho
  have hlt : id < H.l.length := (List.getElem?_eq_some_iff.1 (hget_some ho)).1
  have hal : ∀ (G : Hp) (o : AObj), id < G.l.length → hget G id = some ob → hget (halloc G o) id = some ob := by
    intro G o hl hg
    simp only [hget, halloc] at hg ⊢
    rw [List.getElem?_append_left hl]; exact hg
  unfold appendOn at e1
  split at e1
  · split at e1
    · split at e1
      · simp only [Option.some.injEq, Prod.mk.injEq] at e1; obtain ⟨_, rfl⟩ := e1; exact ho
      · simp only [Option.some.injEq, Prod.mk.injEq] at e1; obtain ⟨_, rfl⟩ := e1; exact hal _ _ hlt ho
    · simp at e1
  · rename_i id' off n
    split at e1
    · split at e1
      · simp only [Option.some.injEq, Prod.mk.injEq] at e1
        obtain ⟨_, rfl⟩ := e1
        have hne := hk id' rfl
        refine hal _ _ (by simp [hset]; exact hlt) ?_
        simp only [hget, hset] at ho ⊢
        rw [List.getElem?_set_ne (Ne.symm hne)]; exact ho
      · simp at e1
    · simp at e1
  · simp at e1
theorem astore_old {H H' : Hp} {n : Nat} {a x : AV} (e : astore H n a x = some H') : ∀ id ob, (∀ k, sid a = some k → id ≠ k) → hget H id = some ob → hget H' id = some ob := by
  intro id ob hk ho
  have key : ∀ (k : Nat) (o : Option AObj), id ≠ k → hget (hset H k o) id = some ob := by
    intro k o hne
    simp only [hget, hset] at ho ⊢
    rw [List.getElem?_set_ne (Ne.symm hne)]; exact ho
  unfold astore at e
  split at e
  · split at e
    · have hne := hk _ rfl
      split at e
      · split at e
        · simp only [Option.some.injEq] at e; subst e; exact key _ _ hne
        · simp at e
      · simp at e
    · have hne := hk _ rfl
      split at e
      · split at e
        · split at e
          · simp only [Option.some.injEq] at e; subst e; exact key _ _ hne
          · split at e
            · split at e
              · simp only [Option.some.injEq] at e; subst e; exact key _ _ hne
              · simp at e
            · simp at e
        · simp at e
      · simp at e
    · simp at e
  · simp at e
theorem actO_kl {E : Env} {τ : List AV} {H : Hp} {o : AOper} (hr : isKl o.op = true) {v : AV} {h : Option Hp} (e : actO E o τ H = some (v, h)) : ∀ id ob, (∀ k, killOf o τ = some k → id ≠ k) → hget H id = some ob → hget (h.getD H) id = some ob := by
  intro id ob hk ho
  unfold actO at e
  split at e
  · simp at e
  · simp only [Option.some.injEq, Prod.mk.injEq] at e; obtain ⟨_, rfl⟩ := e; exact ho
  · unfold killOf at hk
    unfold isKl at hr
    split at hr
    · rename_i hop
      rw [hop] at e hk
      simp only [aopE, aop] at e
      obtain ⟨es, _, e⟩ := Option.bind_eq_some_iff.1 e
      exact appendOn_old e id ob hk ho
    · rename_i hop
      rw [hop] at e hk
      simp only [aopE, aop] at e
      obtain ⟨es, _, e⟩ := Option.bind_eq_some_iff.1 e
      exact appendOn_old e id ob hk ho
    · rename_i hop
      rw [hop] at e hk
      simp only [aopE, aop] at e
      obtain ⟨H', e1, e2⟩ := Option.map_eq_some_iff.1 e
      simp only [Prod.mk.injEq] at e2
      obtain ⟨_, rfl⟩ := e2
      exact astore_old e1 id ob hk ho
    · simp at hr

theorem rdOf_pure {o : AOper} {τ : List AV} (h : o.op.pure = true) : rdOf o τ = [] := by
  unfold rdOf
  split
  · rename_i hop
    rw [hop] at h; simp [AOp.pure] at h
  · rfl
theorem killOf_none {o : AOper} {τ : List AV} (h : isKl o.op = false) : killOf o τ = none := by
  unfold killOf
  split
  · rename_i hop; rw [hop] at h; simp [isKl] at h
  · rename_i hop; rw [hop] at h; simp [isKl] at h
  · rename_i hop; rw [hop] at h; simp [isKl] at h
  · rfl

theorem diamond {E : Env} (hE : CLe E) {df : List (Nat × Nat)} {x y : AOper × Nat} {τ : List AV} {H : Hp} {v u : AV} {h g : Option Hp} (hd : difOK τ df = true) (ha : apartA df y x = true) (h1 : actQ E y.2 y.1 τ H = some (v, h))
    (h2 : actQ E x.2 x.1 (aput y.1.dst v τ) (h.getD H) = some (u, g)) {R : List Nat} (hk1 : killOK R y τ = true) (hk2 : killOK (rdOf y.1 τ ++ R) x (aput y.1.dst v τ) = true) :
    (killOK R x τ = true ∧ killOK (rdOf x.1 τ ++ R) y (aput x.1.dst u τ) = true ∧ rdOf x.1 (aput y.1.dst v τ) = rdOf x.1 τ ∧ rdOf y.1 (aput x.1.dst u τ) = rdOf y.1 τ) ∧ actQ E x.2 x.1 τ H = some (u, g) ∧ actQ E y.2 y.1 (aput x.1.dst u τ) (g.getD H) = some (v, h) ∧ aput x.1.dst u (aput y.1.dst v τ) = aput y.1.dst v (aput x.1.dst u τ) ∧ g.getD (h.getD H) = h.getD (g.getD H) := by
  simp only [apartA, Bool.and_eq_true, Bool.or_eq_true] at ha
  obtain ⟨⟨a1, a2⟩, a3⟩ := ha
  have b1 : ∀ d, y.1.dst = some d → ∀ n ∈ x.1.reads, d ≠ n := by
    intro d hd n hn e
    subst e
    rw [hd] at a1
    simp only [Bool.and_eq_true, Bool.not_eq_true', List.contains_eq_mem, decide_eq_false_iff_not] at a1
    exact a1.1 hn
  have b2 : ∀ d, x.1.dst = some d → ∀ n ∈ y.1.reads, d ≠ n := by
    intro d hd n hn e
    subst e
    rw [hd] at a2
    simp only [Bool.not_eq_true', List.contains_eq_mem, decide_eq_false_iff_not] at a2
    exact a2 hn
  have b3 : ∀ d, x.1.dst = some d → y.1.dst ≠ some d := by
    intro d hd e
    rw [e] at a1
    simp only [Bool.and_eq_true, bne_iff_ne, ne_eq] at a1
    exact a1.2 hd
  have c2 : actQ E x.2 x.1 τ (h.getD H) = some (u, g) := by
    rw [← h2]
    exact actQ_congr fun n hn => (getD_aput fun d hd => b1 d hd n hn).symm
  have c1 : ∀ G, actQ E y.2 y.1 (aput x.1.dst u τ) G = actQ E y.2 y.1 τ G := fun G => actQ_congr fun n hn => getD_aput fun d hd => b2 d hd n hn
  have m1 : killOK (rdOf y.1 τ ++ R) x (aput y.1.dst v τ) = killOK (rdOf y.1 τ ++ R) x τ := killOK_congr fun n hn => getD_aput fun d hd => b1 d hd n hn
  have m2 : rdOf x.1 (aput y.1.dst v τ) = rdOf x.1 τ := rdOf_congr fun n hn => getD_aput fun d hd => b1 d hd n hn
  have m3 : rdOf y.1 (aput x.1.dst u τ) = rdOf y.1 τ := rdOf_congr fun n hn => getD_aput fun d hd => b2 d hd n hn
  have m4 : killOK (rdOf x.1 τ ++ R) y (aput x.1.dst u τ) = killOK (rdOf x.1 τ ++ R) y τ := killOK_congr fun n hn => getD_aput fun d hd => b2 d hd n hn
  rw [m1] at hk2
  have m5 : killOK (rdOf x.1 τ ++ R) y τ = true := by
    by_cases hy3 : y.2 = 3
    · have hnr : rdOf x.1 τ = [] ∨ isKl y.1.op = false := by
        rcases a3 with ((((hy | hx) | hq) | hls) | hrd) | hkl
        · refine .inr ?_
          cases hop : y.1.op <;> rw [hop] at hy <;> first | rfl | (simp [AOp.pure] at hy)
        · exact .inl (rdOf_pure hx)
        · simp only [decide_eq_true_eq] at hq; omega
        · exfalso
          have := hls.2
          rw [hy3] at this
          simp at this
        · refine .inr ?_
          rcases isRd_inv hrd.1 with ⟨n, a, k⟩ | ⟨kd, z, m, k0, ok, k⟩ | ⟨x, k⟩ | ⟨x, k⟩ <;> rw [k] <;> rfl
        · refine .inr ?_
          have := hkl.1.1
          unfold isLd at this
          split at this
          · rename_i k; rw [k]; rfl
          · simp at this
      rcases hnr with hnr | hnr
      · rw [hnr]; exact hk1
      · unfold killOK; rw [killOf_none hnr]; simp
    · unfold killOK; simp [hy3]
  refine ⟨⟨killOK_sub (fun i hi => List.mem_append_right _ hi) hk2, by rw [m4]; exact m5, m2, m3⟩, ?_⟩
  rw [c1]
  rcases a3 with ((((hy | hx) | hq) | hls) | hrd) | hkl
  · obtain ⟨rfl, _⟩ := actQ_pure (H' := H) hy h1
    exact ⟨c2, (actQ_pure (H' := g.getD H) hy h1).2, aput_comm b3, rfl⟩
  · obtain ⟨rfl, k⟩ := actQ_pure (H' := H) hx c2
    exact ⟨k, h1, aput_comm b3, rfl⟩
  · simp only [decide_eq_true_eq] at hq
    have e1 := actQ_two hq.1 h1
    subst e1
    have e2 := actQ_two hq.2 c2
    subst e2
    exact ⟨c2, h1, aput_comm b3, rfl⟩
  · rcases apartLS_inv hls.1 with ⟨n, m, a, b, s, k1, k2, k3⟩ | ⟨n, m, a, b, s, k1, k2, k3⟩
    · have e1 := load_noneQ k1 h1
      subst e1
      have c2' : actQ E x.2 x.1 τ H = some (u, g) := c2
      exact ⟨c2', (load_apartQ hd k3 k1 k2 c2').1 h1, aput_comm b3, rfl⟩
    · have e2 := load_noneQ k2 c2
      subst e2
      exact ⟨(load_apartQ hd k3 k2 k1 h1).2 c2, h1, aput_comm b3, rfl⟩
  · simp only [beq_iff_eq] at hrd
    obtain ⟨hr, hx⟩ := hrd
    obtain ⟨rfl, _⟩ := actQ_rd (H' := H) hr (fun _ _ h => h) h1
    have c2' : actQ E x.2 x.1 τ H = some (u, g) := c2
    rw [hx] at c2'
    exact ⟨c2, (actQ_rd hr (actQ_one hE c2') h1).2, aput_comm b3, rfl⟩
  · obtain ⟨⟨hld, hkx⟩, hx3⟩ := hkl
    simp only [beq_iff_eq] at hx3
    have h0 := (actQ_ld (H' := H) hld (fun _ _ _ h => h) h1).1
    subst h0
    have c2' : actQ E x.2 x.1 τ H = some (u, g) := c2
    refine ⟨c2', ?_, aput_comm b3, rfl⟩
    refine (actQ_ld hld (fun id hid ob ho => ?_) h1).2
    rw [hx3] at c2'
    refine actO_kl hkx (show actO E x.1 τ H = some (u, g) from c2') id ob (fun k hk => ?_) ho
    unfold killOK at hk2
    rw [hx3, hk] at hk2
    simp only [bne_self_eq_false, Bool.false_or, Bool.not_eq_true', List.contains_eq_mem, decide_eq_false_iff_not] at hk2
    rintro rfl
    exact hk2 (List.mem_append_left _ hid)

theorem front {E : Env} (hE : CLe E) {df : List (Nat × Nat)} {x : AOper × Nat} {B : List (AOper × Nat)} : ∀ (A : List (AOper × Nat)) {R : List Nat} {τ : List AV} {H : Hp} {r : List AV × Hp}, difOK τ df = true → (∀ y ∈ A, (∀ d, y.1.dst = some d → ∀ p ∈ df, p.1 ≠ d ∧ p.2 ≠ d) ∧ apartA df y x = true) → execQ E R (A ++ x :: B) τ H = some r →
    ∃ u g, killOK R x τ = true ∧ actQ E x.2 x.1 τ H = some (u, g) ∧ execQ E (rdOf x.1 τ ++ R) (A ++ B) (aput x.1.dst u τ) (g.getD H) = some r
  | [], R, τ, H, r, _, _, h => by
    simp only [List.nil_append, execQ] at h
    split at h
    · rename_i hk
      split at h
      · rename_i u g hu
        exact ⟨u, g, hk, hu, by simpa using h⟩
      · simp at h
    · simp at h
  | y :: A, R, τ, H, r, hd, ha, h => by
    simp only [List.cons_append, execQ] at h
    split at h
    · rename_i hk
      split at h
      · rename_i v hv hvv
        obtain ⟨u, g, h0, h1, h2⟩ := front hE A ((difOK_put (ha y (List.mem_cons_self ..)).1).trans hd) (fun z hz => ha z (List.mem_cons_of_mem _ hz)) h
        obtain ⟨⟨k1, k2, k3, k4⟩, d1, d2, d3, d4⟩ := diamond hE hd (ha y (List.mem_cons_self ..)).2 hvv h1 hk h0
        refine ⟨u, g, k1, d1, ?_⟩
        simp only [List.cons_append, execQ]
        rw [if_pos k2, d2]
        simp only []
        rw [← d3, ← d4]
        refine execQ_mem (fun i hi => ?_) h2
        rw [k3]
        rw [k4] at hi
        simp only [List.mem_append] at hi ⊢
        rcases hi with hi | hi | hi
        · exact .inr (.inl hi)
        · exact .inl hi
        · exact .inr (.inr hi)
      · simp at h
    · simp at h

end Go.Proofs.Eng
