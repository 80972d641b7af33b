/- The engine, part D: the abstract heap beside the model's memory; the steps that keep them together. -/
import Derived.Test.YtkofnmiopjnhiaaEngC
import Derived.MapKept
set_option linter.unusedVariables false
set_option linter.unusedSimpArgs false
namespace Go.Proofs.Eng
open Go Go.RowKit

abbrev HL := List (Option AObj)

def Owned (ι : Io) (L : HL) (k : Nat) : Prop := ∃ (i : Nat) (o : AObj) (p : Pl), L[i]? = some (some o) ∧ ι.l[i]? = some p ∧ p.blk = k

open Classical in
noncomputable def fzOf (ι : Io) (L : HL) (w : World) : Fz := fun k => if Owned ι L k ∨ k ∈ ι.x then none else w.heap[k]?

theorem fzOf_some' {ι : Io} {L : HL} {w : World} {k : Nat} {o : Obj} : fzOf ι L w k = some o ↔ (¬ Owned ι L k ∧ k ∉ ι.x) ∧ w.heap[k]? = some o := by
  unfold fzOf
  by_cases h : Owned ι L k <;> by_cases h2 : k ∈ ι.x <;> simp [h, h2]

/-- No cell of a block of n cells is frozen. -/
def Free (fr : Nat × Nat) (n : Nat) : Prop := fr = (0, 0) ∨ n ≤ fr.1
theorem Free.no {fr : Nat × Nat} {n : Nat} (h : Free fr n) : ∀ o, o < n → (fr.1 ≤ o && o < fr.2) = false := by
  intro o ho
  rcases h with rfl | h
  · simp
  · simp; omega

/-- A jump as the model keeps it. -/
def AX.code : AX → Option Code
  | .nrm => none
  | .ret => some .ret
  | .exit id => some (.exit id)

def MRel (ι : Io) (fz : Fz) : List (Value × AV × Nat) → List MapEntry → Prop
  | [], es => es = []
  | x :: xs, es => ∃ e r, es = e :: r ∧ e.key = x.1 ∧ e.born = x.2.2 ∧ VRel ι fz x.2.1 e.val ∧ MRel ι fz xs r

/-- How an object stands for a block. PC: how a piece of code is resolved. -/
def ORel (PC : Code → AC → Prop) (ι : Io) (fz : Fz) (p : Pl) (w : World) : AObj → Prop
  | .cells cs t => ∃ c fr, w.heap[p.blk]? = some (.cells c t fr) ∧ Free fr c.size ∧ p.sh = 0 ∧ p.room = c.size ∧ VRels ι fz cs c.toList
  | .arr sz es t => ∃ c fr vs, w.heap[p.blk]? = some (.cells c t fr) ∧ Free fr c.size ∧ p.room = c.size ∧ p.sz = sz ∧ VRels ι fz es vs ∧ (∀ u ∈ vs, u.cells.size = sz) ∧
      p.sh + es.length * sz ≤ c.size ∧ (∀ j, j < (flat vs).length → c[p.sh + j]? = (flat vs)[j]?)
  | .map es clk => ∃ ces, w.heap[p.blk]? = some (.map ces clk) ∧ MRel ι fz es ces.toList ∧ MapKept.Stamped ces clk
  | .loop st pend τ ps asg body => ∃ l : Loop, w.heap[p.blk]? = some (.loop l) ∧ l.state = st ∧ l.pending = pend.code ∧ VRels ι fz τ l.tmps.toList ∧ l.params.toList = ps ∧ PC l.assign asg ∧ PC l.body body

structure RelH (PC : Code → AC → Prop) (ι : Io) (L : HL) (w : World) : Prop where
  len : ι.l.length = L.length
  obj : ∀ (i : Nat) (o : AObj) (p : Pl), L[i]? = some (some o) → ι.l[i]? = some p → ORel PC ι (fzOf ι L w) p w o
  inj : ∀ (i j : Nat) (oi oj : AObj) (p q : Pl), L[i]? = some (some oi) → L[j]? = some (some oj) → ι.l[i]? = some p → ι.l[j]? = some q → p.blk = q.blk → i = j
  xlt : ∀ k ∈ ι.x, k < w.heap.size
  xno : ∀ k ∈ ι.x, ¬ Owned ι L k

/-- What any run keeps. -/
structure Stp (ι : Io) (L : HL) (w : World) (ι' : Io) (L' : HL) (w' : World) : Prop where
  pre : ι.Le ι'
  os : w'.os = w.os
  tape : w'.tape = w.tape
  output : w'.output = w.output
  size : w.heap.size ≤ w'.heap.size
  frame : ∀ k, k < w.heap.size → ¬ Owned ι L k → ¬ Owned ι' L' k ∧ w'.heap[k]? = w.heap[k]?
  xs : ∀ k, k < w.heap.size → (k ∈ ι'.x ↔ k ∈ ι.x)

theorem Stp.refl (ι : Io) (L : HL) (w : World) : Stp ι L w ι L w := ⟨List.prefix_refl _, rfl, rfl, rfl, Nat.le_refl _, fun _ _ h => ⟨h, rfl⟩, fun _ _ => Iff.rfl⟩
theorem Stp.trans {ι ι' ι'' : Io} {L L' L'' : HL} {w w' w'' : World} (h : Stp ι L w ι' L' w') (k : Stp ι' L' w' ι'' L'' w'') : Stp ι L w ι'' L'' w'' :=
  ⟨h.pre.trans k.pre, k.os.trans h.os, k.tape.trans h.tape, k.output.trans h.output, Nat.le_trans h.size k.size, fun i hi ho =>
    have h1 := h.frame i hi ho
    have h2 := k.frame i (Nat.lt_of_lt_of_le hi h.size) h1.1
    ⟨h2.1, h2.2.trans h1.2⟩, fun i hi => (k.xs i (Nat.lt_of_lt_of_le hi h.size)).trans (h.xs i hi)⟩
theorem Stp.fz {ι ι' : Io} {L L' : HL} {w w' : World} (h : Stp ι L w ι' L' w') : FzLe (fzOf ι L w) (fzOf ι' L' w') := by
  refine ⟨fun k c t f e => ?_⟩
  rw [fzOf_some'] at e ⊢
  have hk : k < w.heap.size := (Array.getElem?_eq_some_iff.1 e.2).1
  have := h.frame k hk e.1.1
  exact ⟨⟨this.1, fun hx => e.1.2 ((h.xs k hk).1 hx)⟩, this.2.trans e.2⟩
theorem Stp.v {ι ι' : Io} {L L' : HL} {w w' : World} (h : Stp ι L w ι' L' w') {x : AV} {v : Value} (r : VRel ι (fzOf ι L w) x v) : VRel ι' (fzOf ι' L' w') x v := VRel.mono h.pre h.fz x v r
theorem Stp.vs {ι ι' : Io} {L L' : HL} {w w' : World} (h : Stp ι L w ι' L' w') {xs : List AV} {vs : List Value} (r : VRels ι (fzOf ι L w) xs vs) : VRels ι' (fzOf ι' L' w') xs vs := VRels.mono h.pre h.fz xs vs r

theorem RelH.xs_of {PC : Code → AC → Prop} {ι ι' : Io} {L L' : HL} {w w' : World} (h : RelH PC ι L w) (s : Stp ι L w ι' L' w') (hx : ι'.x = ι.x) : (∀ k ∈ ι'.x, k < w'.heap.size) ∧ ∀ k ∈ ι'.x, ¬ Owned ι' L' k := by
  rw [hx]
  exact ⟨fun k hk => Nat.lt_of_lt_of_le (h.xlt k hk) s.size, fun k hk => (s.frame k (h.xlt k hk) (h.xno k hk)).1⟩

theorem MRel.mono {ι ι' : Io} {fz fz' : Fz} (hι : ι.Le ι') (hf : FzLe fz fz') : ∀ {es : List (Value × AV × Nat)} {ces : List MapEntry}, MRel ι fz es ces → MRel ι' fz' es ces
  | [], ces, h => h
  | x :: xs, ces, h => by
    obtain ⟨e, r, e1, e2, e3, e4, e5⟩ := h
    exact ⟨e, r, e1, e2, e3, VRel.mono hι hf _ _ e4, e5.mono hι hf⟩

/-- An object whose block is untouched stays related. -/
theorem ORel.move {PC : Code → AC → Prop} {ι ι' : Io} {fz fz' : Fz} {p : Pl} {w w' : World} {o : AObj} (hι : ι.Le ι') (hf : FzLe fz fz') (hb : w'.heap[p.blk]? = w.heap[p.blk]?)
    (h : ORel PC ι fz p w o) : ORel PC ι' fz' p w' o := by
  cases o with
  | cells cs t =>
    obtain ⟨c, fr, h1, h2, h3, h4, h5⟩ := h
    exact ⟨c, fr, hb.trans h1, h2, h3, h4, VRels.mono hι hf _ _ h5⟩
  | arr sz es t =>
    obtain ⟨c, fr, vs, h1, h2, h3, h4, h5, h6⟩ := h
    exact ⟨c, fr, vs, hb.trans h1, h2, h3, h4, VRels.mono hι hf _ _ h5, h6⟩
  | map es clk =>
    obtain ⟨ces, h1, h2, h3⟩ := h
    exact ⟨ces, hb.trans h1, h2.mono hι hf, h3⟩
  | loop st pend τ ps asg body =>
    obtain ⟨l, h1, h2, h3, h4, h5⟩ := h
    exact ⟨l, hb.trans h1, h2, h3, VRels.mono hι hf _ _ h4, h5⟩

theorem ORel.lt {PC : Code → AC → Prop} {ι : Io} {fz : Fz} {p : Pl} {w : World} {o : AObj} (h : ORel PC ι fz p w o) : p.blk < w.heap.size := by
  cases o with
  | cells cs t => obtain ⟨c, fr, h1, _⟩ := h; exact (Array.getElem?_eq_some_iff.1 h1).1
  | arr sz es t => obtain ⟨c, fr, vs, h1, _⟩ := h; exact (Array.getElem?_eq_some_iff.1 h1).1
  | map es clk => obtain ⟨ces, h1, _⟩ := h; exact (Array.getElem?_eq_some_iff.1 h1).1
  | loop st pend τ ps asg body => obtain ⟨l, h1, _⟩ := h; exact (Array.getElem?_eq_some_iff.1 h1).1

theorem RelH.lt {PC : Code → AC → Prop} {ι : Io} {L : HL} {w : World} (h : RelH PC ι L w) {k : Nat} (ho : Owned ι L k) : k < w.heap.size := by
  obtain ⟨i, o, p, h1, h2, rfl⟩ := ho
  exact (h.obj i o p h1 h2).lt

/-- An object's place. -/
theorem RelH.at {PC : Code → AC → Prop} {ι : Io} {L : HL} {w : World} (h : RelH PC ι L w) {i : Nat} {o : AObj} (hi : L[i]? = some (some o)) :
    ∃ p, ι.l[i]? = some p ∧ ORel PC ι (fzOf ι L w) p w o := by
  have hl : i < ι.l.length := by rw [h.len]; exact (List.getElem?_eq_some_iff.1 hi).1
  exact ⟨ι.l[i], List.getElem?_eq_getElem hl, h.obj i o _ hi (List.getElem?_eq_getElem hl)⟩

/-! ### A new block -/
theorem owned_alloc {ι : Io} {L : HL} (hl : ι.l.length = L.length) {p : Pl} {o : AObj} {k : Nat} : Owned (ι.add p) (L ++ [some o]) k ↔ Owned ι L k ∨ p.blk = k := by
  constructor
  · rintro ⟨i, o', q, h1, h2, h3⟩
    by_cases hi : i < L.length
    · rw [List.getElem?_append_left hi] at h1
      rw [List.getElem?_append_left (by omega)] at h2
      exact .inl ⟨i, o', q, h1, h2, h3⟩
    · have hi2 : i < (L ++ [some o]).length := (List.getElem?_eq_some_iff.1 h1).1
      have : i = L.length := by simp at hi2; omega
      subst this
      rw [← hl] at h2
      simp at h2; subst h2
      exact .inr h3
  · rintro (⟨i, o', q, h1, h2, h3⟩ | h)
    · exact ⟨i, o', q, by rw [List.getElem?_append_left (List.getElem?_eq_some_iff.1 h1).1]; exact h1, by rw [List.getElem?_append_left (List.getElem?_eq_some_iff.1 h2).1]; exact h2, h3⟩
    · exact ⟨L.length, o, p, by simp, by rw [← hl]; simp, h⟩

theorem alloc_heap_lt (w : World) (o : Obj) {k : Nat} (h : k < w.heap.size) : (w.alloc o).heap[k]? = w.heap[k]? := Below.heap_alloc w o k h
theorem alloc_heap_new (w : World) (o : Obj) : (w.alloc o).heap[w.heap.size]? = some o := World.alloc_heap_new w o

/-- Laying a new object over a new block. -/
theorem RelH.alloc {PC : Code → AC → Prop} {ι : Io} {L : HL} {w : World} (h : RelH PC ι L w) (b : Obj) (p : Pl) (o : AObj) (hp : p.blk = w.heap.size)
    (ho : ORel PC (ι.add p) (fzOf (ι.add p) (L ++ [some o]) (w.alloc b)) p (w.alloc b) o) :
    RelH PC (ι.add p) (L ++ [some o]) (w.alloc b) ∧ Stp ι L w (ι.add p) (L ++ [some o]) (w.alloc b) := by
  have hst : Stp ι L w (ι.add p) (L ++ [some o]) (w.alloc b) := by
    refine ⟨List.prefix_append _ _, rfl, rfl, rfl, by simp, fun k hk hn => ⟨?_, alloc_heap_lt w b hk⟩, fun _ _ => Iff.rfl⟩
    rw [owned_alloc h.len]
    rintro (h1 | h1)
    · exact hn h1
    · omega
  refine ⟨⟨by simp [h.len], fun i o' q h1 h2 => ?_, fun i j oi oj q r h1 h2 h3 h4 h5 => ?_, (h.xs_of hst rfl).1, (h.xs_of hst rfl).2⟩, hst⟩
  · by_cases hi : i < L.length
    · rw [List.getElem?_append_left hi] at h1
      rw [List.getElem?_append_left (by rw [h.len]; exact hi)] at h2
      have hr := h.obj i o' q h1 h2
      exact hr.move hst.pre hst.fz (alloc_heap_lt w b hr.lt)
    · have hi2 : i < (L ++ [some o]).length := (List.getElem?_eq_some_iff.1 h1).1
      have : i = L.length := by simp at hi2; omega
      subst this
      simp at h1; subst h1
      rw [← h.len] at h2
      simp at h2; subst h2
      exact ho
  · have key : ∀ (i : Nat) (oi : AObj) (q : Pl), (L ++ [some o])[i]? = some (some oi) → (ι.add p).l[i]? = some q → (i < L.length ∧ q.blk < w.heap.size) ∨ (i = L.length ∧ q.blk = w.heap.size) := by
      intro i oi q h1 h2
      by_cases hi : i < L.length
      · rw [List.getElem?_append_left hi] at h1
        rw [List.getElem?_append_left (by rw [h.len]; exact hi)] at h2
        exact .inl ⟨hi, (h.obj i oi q h1 h2).lt⟩
      · have hi2 : i < (L ++ [some o]).length := (List.getElem?_eq_some_iff.1 h1).1
        have : i = L.length := by simp at hi2; omega
        subst this
        rw [← h.len] at h2
        simp at h2; subst h2
        exact .inr ⟨rfl, hp⟩
    rcases key i oi q h1 h3 with ⟨a1, a2⟩ | ⟨a1, a2⟩ <;> rcases key j oj r h2 h4 with ⟨b1, b2⟩ | ⟨b1, b2⟩
    · rw [List.getElem?_append_left a1] at h1
      rw [List.getElem?_append_left b1] at h2
      rw [List.getElem?_append_left (by rw [h.len]; exact a1)] at h3
      rw [List.getElem?_append_left (by rw [h.len]; exact b1)] at h4
      exact h.inj i j oi oj q r h1 h2 h3 h4 h5
    · omega
    · omega
    · omega

/-! ### An object written -/
theorem owned_set {ι : Io} {L : HL} {i : Nat} {o o' : AObj} (hi : L[i]? = some (some o)) {k : Nat} : Owned ι (L.set i (some o')) k ↔ Owned ι L k := by
  have hlt : i < L.length := (List.getElem?_eq_some_iff.1 hi).1
  constructor
  · rintro ⟨j, oj, p, h1, h2, h3⟩
    by_cases e : j = i
    · subst e; exact ⟨j, o, p, hi, h2, h3⟩
    · rw [List.getElem?_set_ne (by omega)] at h1
      exact ⟨j, oj, p, h1, h2, h3⟩
  · rintro ⟨j, oj, p, h1, h2, h3⟩
    by_cases e : j = i
    · subst e; exact ⟨j, o', p, by simp [hlt], h2, h3⟩
    · exact ⟨j, oj, p, by rw [List.getElem?_set_ne (by omega)]; exact h1, h2, h3⟩

/-- One object's block is written: the others stay. -/
theorem RelH.set {PC : Code → AC → Prop} {ι : Io} {L : HL} {w w' : World} (h : RelH PC ι L w) {i : Nat} {o o' : AObj} {p : Pl} (hi : L[i]? = some (some o)) (hp : ι.l[i]? = some p)
    (hos : w'.os = w.os) (htp : w'.tape = w.tape) (hou : w'.output = w.output) (hsz : w.heap.size ≤ w'.heap.size) (hother : ∀ k, k < w.heap.size → k ≠ p.blk → w'.heap[k]? = w.heap[k]?)
    (ho : FzLe (fzOf ι L w) (fzOf ι (L.set i (some o')) w') → ORel PC ι (fzOf ι (L.set i (some o')) w') p w' o') :
    RelH PC ι (L.set i (some o')) w' ∧ Stp ι L w ι (L.set i (some o')) w' := by
  have hlt : i < L.length := (List.getElem?_eq_some_iff.1 hi).1
  have hst : Stp ι L w ι (L.set i (some o')) w' := by
    refine ⟨List.prefix_refl _, hos, htp, hou, hsz, fun k hk hn => ⟨by rw [owned_set hi]; exact hn, hother k hk ?_⟩, fun _ _ => Iff.rfl⟩
    rintro rfl
    exact hn ⟨i, o, p, hi, hp, rfl⟩
  refine ⟨⟨by simp [h.len], fun j oj q h1 h2 => ?_, fun a b oa ob q r h1 h2 h3 h4 h5 => ?_, (h.xs_of hst rfl).1, (h.xs_of hst rfl).2⟩, hst⟩
  · by_cases e : j = i
    · subst e
      simp [hlt] at h1; subst h1
      rw [hp] at h2; injection h2 with h2; subst h2
      exact ho hst.fz
    · rw [List.getElem?_set_ne (by omega)] at h1
      have hr := h.obj j oj q h1 h2
      refine hr.move hst.pre hst.fz (hother _ hr.lt ?_)
      intro eb
      exact e (h.inj j i oj o q p h1 hi h2 hp eb)
  · have key : ∀ (a : Nat) (oa : AObj), (L.set i (some o'))[a]? = some (some oa) → ∃ oa', L[a]? = some (some oa') := by
      intro a oa ha
      by_cases e : a = i
      · subst e; exact ⟨o, hi⟩
      · rw [List.getElem?_set_ne (by omega)] at ha; exact ⟨oa, ha⟩
    obtain ⟨oa', ha⟩ := key a oa h1
    obtain ⟨ob', hb⟩ := key b ob h2
    exact h.inj a b oa' ob' q r ha hb h3 h4 h5

/-! ### An object given up -/
theorem owned_kill {ι : Io} {L : HL} {i : Nat} {k : Nat} (h : Owned ι (L.set i none) k) : Owned ι L k := by
  obtain ⟨j, oj, p, h1, h2, h3⟩ := h
  by_cases e : j = i
  · subst e
    by_cases hlt : j < L.length
    · simp [hlt] at h1
    · rw [List.set_eq_of_length_le (by omega)] at h1; exact ⟨j, oj, p, h1, h2, h3⟩
  · rw [List.getElem?_set_ne (by omega)] at h1
    exact ⟨j, oj, p, h1, h2, h3⟩

theorem RelH.kill {PC : Code → AC → Prop} {ι : Io} {L : HL} {w : World} (h : RelH PC ι L w) (i : Nat) : RelH PC ι (L.set i none) w ∧ Stp ι L w ι (L.set i none) w := by
  have hst : Stp ι L w ι (L.set i none) w := ⟨List.prefix_refl _, rfl, rfl, rfl, Nat.le_refl _, fun k hk hn => ⟨fun ho => hn (owned_kill ho), rfl⟩, fun _ _ => Iff.rfl⟩
  have key : ∀ (j : Nat) (oj : AObj), (L.set i none)[j]? = some (some oj) → L[j]? = some (some oj) := by
    intro j oj hj
    by_cases e : j = i
    · subst e
      by_cases hlt : j < L.length
      · simp [hlt] at hj
      · rw [List.set_eq_of_length_le (by omega)] at hj; exact hj
    · rw [List.getElem?_set_ne (by omega)] at hj; exact hj
  refine ⟨⟨by simp [h.len], fun j oj q h1 h2 => ?_, fun a b oa ob q r h1 h2 h3 h4 h5 => h.inj a b oa ob q r (key a oa h1) (key b ob h2) h3 h4 h5, (h.xs_of hst rfl).1, (h.xs_of hst rfl).2⟩, hst⟩
  exact (h.obj j oj q (key j oj h1) h2).move hst.pre hst.fz rfl

/-- Draws change nothing. -/
theorem RelH.draw {PC : Code → AC → Prop} {ι : Io} {L : HL} {w w' : World} (h : RelH PC ι L w) (hh : w'.heap = w.heap) (hos : w'.os = w.os) (htp : w'.tape = w.tape) (hou : w'.output = w.output) :
    RelH PC ι L w' ∧ Stp ι L w ι L w' := by
  have hst : Stp ι L w ι L w' := ⟨List.prefix_refl _, hos, htp, hou, by rw [hh]; exact Nat.le_refl _, fun k hk hn => ⟨hn, by rw [hh]⟩, fun _ _ => Iff.rfl⟩
  exact ⟨⟨h.len, fun j oj q h1 h2 => (h.obj j oj q h1 h2).move hst.pre hst.fz (by rw [hh]), h.inj, (h.xs_of hst rfl).1, (h.xs_of hst rfl).2⟩, hst⟩

end Go.Proofs.Eng
