/- The engine, part A: abstract values, the abstract heap, how they stand for the model's values and memory. -/
import Derived.RangeFuncNested
import Derived.RangeFuncBound
import Derived.RangeFuncCalls
import Derived.RangeFuncLeaves
import Derived.Below
set_option linter.unusedVariables false
set_option linter.unusedSimpArgs false
namespace Go.Proofs.Eng
open Go

/-- Abstract values. lit: itself · agg: a struct's cells · sl: a slice that nobody writes · ra: a slice of a live row · ptr: into a live object · ep: into an element of a live row · vp: a pointer to cells that nobody writes. -/
inductive AV where
  | lit (x : Value)
  | agg (xs : List AV)
  | tup (xs : List AV)
  | sl (sz : Nat) (xs : List AV)
  | ra (sz id off len : Nat)
  | ptr (id off : Nat)
  | ep (id idx inner : Nat)
  | vp (xs : List AV)
  | map (id : Nat)
  | fn (f : FuncId) (fs cs : List AV)
  | yld (l : Nat)
  | ifc (t : TypeId) (x : AV)
  | any
  deriving Inhabited

/-- Where an object lies: its block, the first cell, the cells of an element, the block's size. -/
structure Pl where
  blk : Nat
  sh : Nat
  sz : Nat
  room : Nat

/-- Where the objects lie; x: blocks that no object stands for yet, and that nobody may look at. -/
structure Io where
  l : List Pl
  x : List Nat
abbrev io0 : Io := ⟨[], []⟩
abbrev Io.add (ι : Io) (p : Pl) : Io := ⟨ι.l ++ [p], ι.x⟩
abbrev Io.Le (ι ι' : Io) : Prop := ι.l <+: ι'.l

abbrev Fz := Nat → Option Obj

def fzc (fz : Fz) (a : Addr) : Option Value :=
  if a.spot.isSome then none else
  match fz a.block with
  | some (.cells c _ _) => c[a.off]?
  | _ => none

def flat (vs : List Value) : List Value := vs.flatMap fun v => v.cells.toList

def Laid (fz : Fz) (a : Addr) (l : List Value) : Prop := ∀ j, j < l.length → fzc fz (a.add j) = l[j]?

mutual
def VRel (ι : Io) (fz : Fz) : AV → Value → Prop
  | .lit x, v => v = x
  | .agg xs, v => ∃ cs : Array Value, v = .agg cs ∧ VRels ι fz xs cs.toList
  | .tup xs, v => ∃ cs : Array Value, v = .tuple cs ∧ VRels ι fz xs cs.toList
  | .sl sz xs, v => ∃ a cap vs, v = .slice (some a) xs.length cap ∧ xs.length ≤ cap ∧ VRels ι fz xs vs ∧ (∀ u ∈ vs, u.cells.size = sz) ∧ Laid fz a (flat vs)
  | .ra sz id off len, v => ∃ p a cap, ι.l[id]? = some p ∧ p.sz = sz ∧ v = .slice (some a) len cap ∧ len ≤ cap ∧ (cap ≠ 0 → a = ⟨p.blk, p.sh + off * p.sz, none⟩ ∧ p.sh + (off + cap) * p.sz ≤ p.room)
  | .ptr id off, v => ∃ p, ι.l[id]? = some p ∧ v = .pointer (some ⟨p.blk, p.sh + off, none⟩)
  | .ep id idx inner, v => ∃ p, ι.l[id]? = some p ∧ v = .pointer (some ⟨p.blk, p.sh + idx * p.sz + inner, none⟩)
  | .vp xs, v => ∃ a vs, v = .pointer (some a) ∧ VRels ι fz xs vs ∧ Laid fz a vs
  | .map id, v => ∃ p, ι.l[id]? = some p ∧ v = .map (some p.blk)
  | .fn f fs cs, v => ∃ as bs : Array Value, v = .func (.func f) as bs ∧ VRels ι fz fs as.toList ∧ VRels ι fz cs bs.toList
  | .yld l, v => ∃ p, ι.l[l]? = some p ∧ v = .func (.yield p.blk) #[] #[]
  | .ifc t x, v => ∃ u, v = .iface t u ∧ VRel ι fz x u
  | .any, _ => True
def VRels (ι : Io) (fz : Fz) : List AV → List Value → Prop
  | [], vs => vs = []
  | x :: xs, vs => ∃ u us, vs = u :: us ∧ VRel ι fz x u ∧ VRels ι fz xs us
end

structure FzLe (fz fz' : Fz) : Prop where
  le : ∀ (k : Nat) (c : Array Value) (t : TypeId) (f : Nat × Nat), fz k = some (.cells c t f) → fz' k = some (.cells c t f)

theorem FzLe.refl (fz : Fz) : FzLe fz fz := ⟨fun _ _ _ _ h => h⟩
theorem FzLe.trans {a b c : Fz} (h : FzLe a b) (k : FzLe b c) : FzLe a c := ⟨fun i c t f e => k.le i c t f (h.le i c t f e)⟩

theorem FzLe.fzc {fz fz' : Fz} (h : FzLe fz fz') {a : Addr} {v : Value} (e : fzc fz a = some v) : fzc fz' a = some v := by
  unfold Eng.fzc at *
  split at e
  · simp at e
  · rename_i hs
    rw [if_neg hs]
    split at e
    · rename_i c t f hk
      rw [h.le _ _ _ _ hk]; exact e
    · simp at e

theorem Laid.mono {fz fz' : Fz} (h : FzLe fz fz') {a : Addr} {l : List Value} (hl : Laid fz a l) : Laid fz' a l := by
  intro j hj
  have := hl j hj
  rw [List.getElem?_eq_getElem hj] at this ⊢
  exact h.fzc this

theorem prefix_get {α : Type} {l l' : List α} (h : l <+: l') {i : Nat} {p : α} (e : l[i]? = some p) : l'[i]? = some p := by
  obtain ⟨t, rfl⟩ := h
  rw [List.getElem?_append_left (List.getElem?_eq_some_iff.1 e).1]; exact e

mutual
theorem VRel.mono {ι ι' : Io} {fz fz' : Fz} (hι : ι.Le ι') (hf : FzLe fz fz') : ∀ (x : AV) (v : Value), VRel ι fz x v → VRel ι' fz' x v
  | .lit x, v => fun h => by simpa only [VRel] using h
  | .agg xs, v => fun h => by
    simp only [VRel] at h ⊢
    obtain ⟨cs, e, h⟩ := h
    exact ⟨cs, e, VRels.mono hι hf xs _ h⟩
  | .tup xs, v => fun h => by
    simp only [VRel] at h ⊢
    obtain ⟨cs, e, h⟩ := h
    exact ⟨cs, e, VRels.mono hι hf xs _ h⟩
  | .sl sz xs, v => fun h => by
    simp only [VRel] at h ⊢
    obtain ⟨a, cap, vs, e, hc, h, hs, hl⟩ := h
    exact ⟨a, cap, vs, e, hc, VRels.mono hι hf xs _ h, hs, hl.mono hf⟩
  | .ra sz id off len, v => fun h => by
    simp only [VRel] at h ⊢
    obtain ⟨p, a, cap, e, h⟩ := h
    exact ⟨p, a, cap, prefix_get hι e, h⟩
  | .ptr id off, v => fun h => by
    simp only [VRel] at h ⊢
    obtain ⟨p, e, h⟩ := h
    exact ⟨p, prefix_get hι e, h⟩
  | .ep id idx inner, v => fun h => by
    simp only [VRel] at h ⊢
    obtain ⟨p, e, h⟩ := h
    exact ⟨p, prefix_get hι e, h⟩
  | .vp xs, v => fun h => by
    simp only [VRel] at h ⊢
    obtain ⟨a, vs, e, h, hl⟩ := h
    exact ⟨a, vs, e, VRels.mono hι hf xs _ h, hl.mono hf⟩
  | .map id, v => fun h => by
    simp only [VRel] at h ⊢
    obtain ⟨p, e, h⟩ := h
    exact ⟨p, prefix_get hι e, h⟩
  | .fn f fs cs, v => fun h => by
    simp only [VRel] at h ⊢
    obtain ⟨as, bs, e, h1, h2⟩ := h
    exact ⟨as, bs, e, VRels.mono hι hf fs _ h1, VRels.mono hι hf cs _ h2⟩
  | .yld l, v => fun h => by
    simp only [VRel] at h ⊢
    obtain ⟨p, e, h⟩ := h
    exact ⟨p, prefix_get hι e, h⟩
  | .ifc t x, v => fun h => by
    simp only [VRel] at h ⊢
    obtain ⟨u, e, h⟩ := h
    exact ⟨u, e, VRel.mono hι hf x _ h⟩
  | .any, v => fun h => by simp only [VRel]
theorem VRels.mono {ι ι' : Io} {fz fz' : Fz} (hι : ι.Le ι') (hf : FzLe fz fz') : ∀ (xs : List AV) (vs : List Value), VRels ι fz xs vs → VRels ι' fz' xs vs
  | [], vs => fun h => by simpa only [VRels] using h
  | x :: xs, vs => fun h => by
    simp only [VRels] at h ⊢
    obtain ⟨u, us, e, h1, h2⟩ := h
    exact ⟨u, us, e, VRel.mono hι hf x u h1, VRels.mono hι hf xs us h2⟩
end

/-! ### Lists of related values -/
section
variable {ι : Io} {fz : Fz}

@[simp] theorem VRels_nil {vs : List Value} : VRels ι fz [] vs ↔ vs = [] := by simp only [VRels]
@[simp] theorem VRels_cons {x : AV} {xs : List AV} {v : Value} {vs : List Value} : VRels ι fz (x :: xs) (v :: vs) ↔ VRel ι fz x v ∧ VRels ι fz xs vs := by
  simp only [VRels]
  constructor
  · rintro ⟨u, us, e, h⟩; injection e with e1 e2; subst e1; subst e2; exact h
  · intro h; exact ⟨v, vs, rfl, h⟩
theorem VRels_cons_inv {x : AV} {xs : List AV} {vs : List Value} (h : VRels ι fz (x :: xs) vs) : ∃ u us, vs = u :: us ∧ VRel ι fz x u ∧ VRels ι fz xs us := by
  simpa only [VRels] using h

theorem VRels.length : ∀ {xs : List AV} {vs : List Value}, VRels ι fz xs vs → xs.length = vs.length
  | [], vs, h => by simp at h; simp [h]
  | x :: xs, vs, h => by obtain ⟨u, us, rfl, _, h⟩ := VRels_cons_inv h; simp [h.length]

theorem VRels.get : ∀ {xs : List AV} {vs : List Value}, VRels ι fz xs vs → ∀ {i : Nat} {x : AV}, xs[i]? = some x → ∃ v, vs[i]? = some v ∧ VRel ι fz x v
  | [], vs, h, i, x, e => by simp at e
  | y :: ys, vs, h, i, x, e => by
    obtain ⟨u, us, rfl, h1, h2⟩ := VRels_cons_inv h
    cases i with
    | zero => simp at e; subst e; exact ⟨u, by simp, h1⟩
    | succ i => simp at e; obtain ⟨v, hv, r⟩ := h2.get e; exact ⟨v, by simpa using hv, r⟩

theorem VRels.set : ∀ {xs : List AV} {vs : List Value}, VRels ι fz xs vs → ∀ (i : Nat) {x : AV} {v : Value}, VRel ι fz x v → VRels ι fz (xs.set i x) (vs.set i v)
  | [], vs, h, i, x, v, r => by simp at h; subst h; simp
  | y :: ys, vs, h, i, x, v, r => by
    obtain ⟨u, us, rfl, h1, h2⟩ := VRels_cons_inv h
    cases i with
    | zero => simp [r, h2]
    | succ i => simp [h1, h2.set i r]

theorem VRels.append : ∀ {xs ys : List AV} {vs us : List Value}, VRels ι fz xs vs → VRels ι fz ys us → VRels ι fz (xs ++ ys) (vs ++ us)
  | [], ys, vs, us, h, k => by simp at h; subst h; simpa using k
  | x :: xs, ys, vs, us, h, k => by
    obtain ⟨u, us', rfl, h1, h2⟩ := VRels_cons_inv h
    simp [h1, h2.append k]

theorem VRels.drop : ∀ {xs : List AV} {vs : List Value} (n : Nat), VRels ι fz xs vs → VRels ι fz (xs.drop n) (vs.drop n)
  | [], vs, n, h => by simp at h; subst h; simp
  | x :: xs, vs, 0, h => by simpa using h
  | x :: xs, vs, n + 1, h => by
    obtain ⟨u, us, rfl, h1, h2⟩ := VRels_cons_inv h
    simpa using h2.drop n

theorem VRels.take : ∀ {xs : List AV} {vs : List Value} (n : Nat), VRels ι fz xs vs → VRels ι fz (xs.take n) (vs.take n)
  | [], vs, n, h => by simp at h; subst h; simp
  | x :: xs, vs, 0, h => by simp
  | x :: xs, vs, n + 1, h => by
    obtain ⟨u, us, rfl, h1, h2⟩ := VRels_cons_inv h
    simp [h1, h2.take n]

theorem VRels.replicate {x : AV} {v : Value} (h : VRel ι fz x v) : ∀ n, VRels ι fz (List.replicate n x) (List.replicate n v)
  | 0 => by simp
  | n + 1 => by simp [List.replicate_succ, h, VRels.replicate h n]

theorem VRels.split : ∀ {xs ys : List AV} {vs : List Value}, VRels ι fz (xs ++ ys) vs → ∃ us ws, vs = us ++ ws ∧ VRels ι fz xs us ∧ VRels ι fz ys ws
  | [], ys, vs, h => ⟨[], vs, rfl, by simp, by simpa using h⟩
  | x :: xs, ys, vs, h => by
    obtain ⟨u, us, rfl, h1, h2⟩ := VRels_cons_inv (by simpa using h)
    obtain ⟨a, b, rfl, ha, hb⟩ := h2.split
    exact ⟨u :: a, b, rfl, by simp [h1, ha], hb⟩

end

/-! ### A value of the model as an abstract one -/
def AV.ofV : Value → AV
  | .agg cs => .agg (cs.toList.map .lit)
  | v => .lit v
theorem VRels_lits {ι : Io} {fz : Fz} : ∀ vs : List Value, VRels ι fz (vs.map AV.lit) vs
  | [] => by simp
  | v :: vs => by simp [VRels_lits vs, VRel]
theorem VRel_ofV {ι : Io} {fz : Fz} (v : Value) : VRel ι fz (AV.ofV v) v := by
  unfold AV.ofV
  split
  · rename_i cs; simp only [VRel]; exact ⟨cs, rfl, VRels_lits _⟩
  · simp only [VRel]

def AV.cells : AV → List AV
  | .agg xs => xs
  | x => [x]
/-- A value that one cell holds. -/
def AV.one : AV → Bool
  | .agg _ => false
  | .tup _ => false
  | .any => false
  | .lit v => v.oneCell'
  | _ => true
/-- A value whose cells are known, and may be stored. -/
def AV.good : AV → Bool
  | .agg xs => xs.all AV.one
  | x => x.one

theorem VRel.one {ι : Io} {fz : Fz} {x : AV} {v : Value} (h : VRel ι fz x v) (hs : x.one = true) : v.oneCell' = true := by
  cases x with
  | agg xs => simp [AV.one] at hs
  | tup xs => simp [AV.one] at hs
  | any => simp [AV.one] at hs
  | lit y => simp only [VRel] at h; subst h; simpa [AV.one] using hs
  | sl sz xs => simp only [VRel] at h; obtain ⟨a, cap, vs, rfl, _⟩ := h; rfl
  | ra sz i o l => simp only [VRel] at h; obtain ⟨p, a, cap, _, _, rfl, _⟩ := h; rfl
  | ptr i o => simp only [VRel] at h; obtain ⟨p, _, rfl⟩ := h; rfl
  | ep i o q => simp only [VRel] at h; obtain ⟨p, _, rfl⟩ := h; rfl
  | vp xs => simp only [VRel] at h; obtain ⟨a, vs, rfl, _⟩ := h; rfl
  | map i => simp only [VRel] at h; obtain ⟨p, _, rfl⟩ := h; rfl
  | fn f fs cs => simp only [VRel] at h; obtain ⟨as, bs, rfl, _⟩ := h; rfl
  | yld l => simp only [VRel] at h; obtain ⟨p, _, rfl⟩ := h; rfl
  | ifc t y => simp only [VRel] at h; obtain ⟨u, rfl, _⟩ := h; rfl

theorem VRels.ones {ι : Io} {fz : Fz} : ∀ {xs : List AV} {vs : List Value}, VRels ι fz xs vs → xs.all AV.one = true → ∀ v ∈ vs, v.oneCell' = true
  | [], vs, h, _ => by simp at h; subst h; simp
  | x :: xs, vs, h, ho => by
    obtain ⟨u, us, rfl, h1, h2⟩ := VRels_cons_inv h
    simp only [List.all_cons, Bool.and_eq_true] at ho
    intro v hv
    rcases List.mem_cons.1 hv with rfl | hv
    · exact h1.one ho.1
    · exact h2.ones ho.2 v hv

theorem VRel.cells {ι : Io} {fz : Fz} {x : AV} {v : Value} (h : VRel ι fz x v) (hs : x.good = true) : VRels ι fz x.cells v.cells.toList ∧ ∀ u ∈ v.cells.toList, u.oneCell' = true := by
  by_cases ha : ∃ xs, x = .agg xs
  · obtain ⟨xs, rfl⟩ := ha
    simp only [VRel] at h; obtain ⟨cs, rfl, h⟩ := h
    exact ⟨by simpa [AV.cells, Value.cells] using h, by simpa [Value.cells] using h.ones (by simpa [AV.good] using hs)⟩
  · have e1 : x.cells = [x] := by
      cases x <;> first | rfl | exact absurd ⟨_, rfl⟩ ha
    have e2 : x.one = true := by
      cases x <;> first | exact hs | exact absurd ⟨_, rfl⟩ ha
    have e3 := h.one e2
    have e4 : v.cells = #[v] := by
      cases v <;> first | rfl | simp [Value.oneCell'] at e3
    rw [e1, e4]
    exact ⟨by simp [h], by simp [e3]⟩
end Go.Proofs.Eng
