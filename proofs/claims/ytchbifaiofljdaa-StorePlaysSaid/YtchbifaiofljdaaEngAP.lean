/- The engine, part AP: drawn regions told apart by the order of pairs; iterators over maps; code run for whatever is drawn. -/
import Derived.Test.YtchbifaiofljdaaEngAO
import Derived.Test.YtchbifaiofljdaaEngAN
import Derived.Laws.IdiomRangeMap
set_option linter.unusedVariables false
set_option linter.unusedSimpArgs false
namespace Go.Proofs.Eng
open Go Go.RowKit

/-! ### Orders of a region -/
/-- An order in which the operations of a region may come. -/
def Vld (md : Region.Mode) (ops : Array Oper) : Array Bool → List Nat → Prop
  | listed, [] => ∀ i, i < ops.size → listed.getD i true = true
  | listed, i :: r => i ∈ Region.ready md ops listed ∧ Vld md ops (listed.setIfInBounds i true) r

theorem ready_iff {md : Region.Mode} {ops : Array Oper} {listed : Array Bool} {i : Nat} : i ∈ Region.ready md ops listed ↔ i < ops.size ∧ listed.getD i true = false ∧ ∃ o, ops[i]? = some o ∧ ∀ e ∈ o.after.toList, Region.binds md e = true → listed.getD e.on false = true := by
  unfold Region.ready
  rw [List.mem_filter]
  simp only [List.mem_range, Bool.and_eq_true, Bool.not_eq_true']
  constructor
  · rintro ⟨h1, h2, h3⟩
    refine ⟨h1, h2, ?_⟩
    rw [Array.getElem?_eq_getElem h1] at h3
    refine ⟨ops[i], Array.getElem?_eq_getElem h1, ?_⟩
    simp only [Option.map_some, Option.getD_some] at h3
    intro e he hb
    have := (Array.all_eq_true_iff_forall_mem.1 h3) e (by simpa using he)
    simpa [hb] using this
  · rintro ⟨h1, h2, o, ho, h3⟩
    refine ⟨h1, h2, ?_⟩
    rw [ho]
    simp only [Option.map_some, Option.getD_some]
    rw [Array.all_eq_true_iff_forall_mem]
    intro e he
    by_cases hb : Region.binds md e = true
    · simp [h3 e (by simpa using he) hb]
    · simp [hb]

theorem ready_ne {md : Region.Mode} {ops : Array Oper} {listed : Array Bool} (hord : orders ops.toList = true) (hs : listed.size = ops.size) {i : Nat} (hi : i < ops.size) (hl : listed.getD i true = false) : Region.ready md ops listed ≠ [] := by
  intro hnil
  obtain ⟨j, o, g1, g2, g3, g4⟩ := orders_go (md := md) hord (p := fun k => !listed.getD k true) ⟨i, by simpa using hi, by simp [hl]⟩ (fun k hk => by
    have : ¬ k < listed.size := by simp at hk; omega
    simp [Array.getD, this])
  have hmem : j ∈ Region.ready md ops listed := by
    rw [ready_iff]
    refine ⟨by simpa using g1, by simpa using g2, o, by simpa using g3, fun e he hb => ?_⟩
    obtain ⟨k1, k2⟩ := g4 e he hb
    have hsz : e.on < listed.size := by simp at k2; omega
    simp only [Array.getD, hsz, dite_true, Bool.not_eq_false'] at k1 ⊢
    exact k1
  rw [hnil] at hmem
  simp at hmem

theorem getD_setB {l : Array Bool} {i k : Nat} (hi : i < l.size) (d : Bool) : (l.setIfInBounds i true).getD k d = if k = i then true else l.getD k d := by
  simp only [Array.getD_eq_getD_getElem?, Array.getElem?_setIfInBounds]
  by_cases h : i = k
  · subst h; simp [hi]
  · have : ¬ k = i := fun e => h e.symm
    simp [h, this]

theorem lin_vld {md : Region.Mode} {ops : Array Oper} (hord : orders ops.toList = true) : ∀ (fuel t : Nat) (listed : Array Bool) (U : List Nat), U.length = fuel → U.Nodup → (∀ i, i ∈ U ↔ i < ops.size ∧ listed.getD i true = false) → listed.size = ops.size →
    Vld md ops listed (Region.linearise.go md ops fuel t listed []) := by
  intro fuel
  induction fuel with
  | zero =>
    intro t listed U hn hU0 hU hs
    have : U = [] := List.length_eq_zero_iff.1 hn
    subst this
    simp only [Region.linearise.go, List.reverse_nil, Vld]
    intro i hi
    cases hb : listed.getD i true with
    | true => rfl
    | false => exact absurd ((hU i).2 ⟨hi, hb⟩) (by simp)
  | succ fuel ih =>
    intro t listed U hn hU0 hU hs
    simp only [Region.linearise.go]
    change Vld md ops listed (match (Region.ready md ops listed)[t % (Region.ready md ops listed).length]? with
      | some i => Region.linearise.go md ops fuel (t / (Region.ready md ops listed).length) (listed.setIfInBounds i true) [i]
      | none => [].reverse)
    have hne : Region.ready md ops listed ≠ [] := by
      cases U with
      | nil => simp at hn
      | cons i U => exact ready_ne hord hs ((hU i).1 (by simp)).1 ((hU i).1 (by simp)).2
    cases hi : (Region.ready md ops listed)[t % (Region.ready md ops listed).length]? with
    | none =>
      have hpos : 0 < (Region.ready md ops listed).length := List.length_pos_iff.2 hne
      have := Nat.mod_lt t hpos
      rw [List.getElem?_eq_none_iff] at hi
      omega
    | some i =>
      simp only []
      rw [linearise_go_acc, List.reverse_singleton, List.singleton_append]
      have hm : i ∈ Region.ready md ops listed := List.mem_of_getElem? hi
      obtain ⟨h1, h2, _⟩ := ready_iff.1 hm
      have hiU : i ∈ U := (hU i).2 ⟨h1, h2⟩
      refine ⟨hm, ih _ _ (U.erase i) ?_ (hU0.erase i) (fun k => ?_) (by simpa using hs)⟩
      · rw [List.length_erase_of_mem hiU]; omega
      · rw [hU0.mem_erase_iff, hU, getD_setB (by omega)]
        by_cases hk : k = i
        · simp [hk]
        · simp [hk]

theorem wpAny_follow {F : Fence} {n : Nat} {P : Program} {md : Region.Mode} {ops : Array Oper} {Q : Exit → Act → World → Prop} : ∀ (σ : List Nat) (fuel : Nat) (listed : Array Bool) (a : Act) (w : World), Vld md ops listed σ → wpAnyIn F n P md ops Q fuel listed a w → wpOpsIn F n P ops Q σ a w
  | [], fuel, listed, a, w, hv, h => by
    have hr : Region.ready md ops listed = [] := by
      unfold Region.ready
      rw [List.filter_eq_nil_iff]
      intro i hi hh
      simp only [List.mem_range] at hi
      simp only [Bool.and_eq_true, Bool.not_eq_true'] at hh
      have := hv i hi
      rw [hh.1] at this
      cases this
    cases fuel with
    | zero => exact h.2
    | succ k => exact h.1 hr
  | i :: r, fuel, listed, a, w, hv, h => by
    obtain ⟨h1, h2⟩ := hv
    cases fuel with
    | zero => rw [h.1] at h1; simp at h1
    | succ k =>
      rw [wpOpsIn_cons]
      exact wpOpIn_mono (fun a w => wpAny_follow r k _ a w h2) (h.2 i h1)

/-- The same region, with i ahead of j. -/
def addE (ops : Array Oper) (j i : Nat) : Array Oper := ops.modify j fun o => { o with after := o.after.push { on := i, ground := .phase } }
@[simp] theorem addE_size (ops : Array Oper) (j i : Nat) : (addE ops j i).size = ops.size := by simp [addE]
theorem addE_get (ops : Array Oper) (j i x : Nat) : (addE ops j i)[x]? = if j = x then (ops[x]?).map (fun o => { o with after := o.after.push { on := i, ground := .phase } }) else ops[x]? := by
  unfold addE
  rw [Array.getElem?_modify]

/-- j does not come ahead of i. -/
def Bef (i j : Nat) : List Nat → Prop
  | [] => True
  | x :: r => x = i ∨ (x ≠ j ∧ Bef i j r)
theorem Bef_or {i j : Nat} (hij : i ≠ j) : ∀ σ : List Nat, Bef i j σ ∨ Bef j i σ
  | [] => .inl trivial
  | x :: r => by
    by_cases h1 : x = i
    · exact .inl (.inl h1)
    by_cases h2 : x = j
    · exact .inr (.inl h2)
    rcases Bef_or hij r with h | h
    · exact .inl (.inr ⟨h2, h⟩)
    · exact .inr (.inr ⟨h1, h⟩)

theorem Vld.add {md : Region.Mode} {ops : Array Oper} {i j : Nat} (hij : i ≠ j) : ∀ (σ : List Nat) (listed : Array Bool), listed.size = ops.size → Vld md ops listed σ → (listed.getD i false = true ∨ Bef i j σ) → Vld md (addE ops j i) listed σ
  | [], listed, hs, hv, hb => by simpa [Vld] using hv
  | x :: r, listed, hs, hv, hb => by
    obtain ⟨h1, h2⟩ := hv
    obtain ⟨k1, k2, o, k3, k4⟩ := ready_iff.1 h1
    refine ⟨?_, Vld.add hij r _ (by simpa using hs) h2 ?_⟩
    · rw [ready_iff]
      refine ⟨by simpa using k1, k2, ?_⟩
      rw [addE_get]
      by_cases hx : j = x
      · rw [if_pos hx, k3]
        refine ⟨_, rfl, fun e he hbd => ?_⟩
        simp only [Array.toList_push, List.mem_append, List.mem_singleton] at he
        rcases he with he | rfl
        · exact k4 e he hbd
        · rcases hb with hb | hb | hb
          · exact hb
          · exact absurd (hb.symm.trans hx.symm) hij
          · exact absurd hx.symm hb.1
      · rw [if_neg hx]
        exact ⟨o, k3, k4⟩
    · rw [getD_setB (by omega)]
      by_cases hx : i = x
      · simp [hx]
      · rcases hb with hb | hb | hb
        · exact .inl (by simp [hx, hb])
        · exact absurd hb.symm hx
        · exact .inr hb.2

/-- The operations numbered anew: p: the old number of each; q: the new one. -/
def remap (q : List Nat) (o : Oper) : Oper := { o with after := o.after.map (fun e => { e with on := q.getD e.on e.on }), guard := o.guard.map fun g => (q.getD g.1 g.1, g.2) }
def permOps (p q : List Nat) (ops : Array Oper) : Array Oper := (p.filterMap fun old => (ops[old]?).map (remap q)).toArray
def permOK (p q : List Nat) (ops : Array Oper) : Bool :=
  p.length == ops.size && q.length == ops.size && (List.range ops.size).all (fun k => decide (p.getD k 0 < ops.size) && q.getD (p.getD k 0) 0 == k && decide (q.getD k 0 < ops.size) && p.getD (q.getD k 0) 0 == k) &&
  ops.toList.all fun (o : Oper) => (o.after.toList.all fun (e : Edge) => decide (e.on < ops.size)) && (match o.guard with | some g => decide (g.1 < ops.size) | none => true)

structure PermS (p q : List Nat) (ops : Array Oper) : Prop where
  pl : p.length = ops.size
  ql : q.length = ops.size
  plt : ∀ k, k < ops.size → p.getD k 0 < ops.size
  qp : ∀ k, k < ops.size → q.getD (p.getD k 0) 0 = k
  qlt : ∀ k, k < ops.size → q.getD k 0 < ops.size
  pq : ∀ k, k < ops.size → p.getD (q.getD k 0) 0 = k
  aft : ∀ (i : Nat) (o : Oper), ops[i]? = some o → (∀ e ∈ o.after.toList, e.on < ops.size) ∧ ∀ g, o.guard = some g → g.1 < ops.size

theorem permOK_spec {p q : List Nat} {ops : Array Oper} (h : permOK p q ops = true) : PermS p q ops := by
  unfold permOK at h
  simp only [Bool.and_eq_true, beq_iff_eq, List.all_eq_true, List.mem_range, decide_eq_true_eq] at h
  obtain ⟨⟨⟨h1, h2⟩, h3⟩, h4⟩ := h
  refine ⟨h1, h2, fun k hk => (h3 k hk).1.1.1, fun k hk => (h3 k hk).1.1.2, fun k hk => (h3 k hk).1.2, fun k hk => (h3 k hk).2, fun i o ho => ?_⟩
  have := h4 o (by simpa using Array.mem_of_getElem? ho)
  refine ⟨this.1, fun g hg => ?_⟩
  have h2 := this.2
  rw [hg] at h2
  simpa using h2

section
variable {p q : List Nat} {ops : Array Oper}
theorem perm_list {ops : Array Oper} : ∀ (p : List Nat), (∀ x ∈ p, x < ops.size) → (p.filterMap fun old => (ops[old]?).map (remap q)).length = p.length ∧ ∀ k : Nat, (p.filterMap fun old => (ops[old]?).map (remap q))[k]? = (p[k]?).bind fun old => (ops[old]?).map (remap q)
  | [], _ => ⟨rfl, fun k => by simp⟩
  | x :: p, h => by
    have hx := h x (by simp)
    obtain ⟨h1, h2⟩ := perm_list p (fun y hy => h y (by simp [hy]))
    have e : (ops[x]?).map (remap q) = some (remap q ops[x]) := by rw [Array.getElem?_eq_getElem hx]; rfl
    rw [List.filterMap_cons, e]
    refine ⟨by simp [h1], fun k => ?_⟩
    cases k with
    | zero => simp [e]
    | succ k => simpa using h2 k

theorem PermS.mem (h : PermS p q ops) : ∀ x ∈ p, x < ops.size := by
  intro x hx
  obtain ⟨k, hk⟩ := List.getElem?_of_mem hx
  have hlt := (List.getElem?_eq_some_iff.1 hk).1
  have := h.plt k (by rw [← h.pl]; exact hlt)
  rwa [List.getD_eq_getElem?_getD, hk] at this

theorem PermS.size (h : PermS p q ops) : (permOps p q ops).size = ops.size := by
  unfold permOps
  rw [List.size_toArray, (perm_list p h.mem).1, h.pl]

theorem PermS.get (h : PermS p q ops) {i : Nat} (hi : i < ops.size) : (permOps p q ops)[q.getD i 0]? = (ops[i]?).map (remap q) := by
  unfold permOps
  rw [List.getElem?_toArray, (perm_list p h.mem).2]
  have h1 := h.qlt i hi
  have h2 := h.pq i hi
  rw [List.getD_eq_getElem?_getD] at h2
  have : p[q.getD i 0]? = some i := by
    rw [List.getElem?_eq_getElem (by rw [h.pl]; exact h1)] at h2 ⊢
    simpa using h2
  rw [this]
  rfl

theorem PermS.inj (h : PermS p q ops) {i j : Nat} (hi : i < ops.size) (hj : j < ops.size) (e : q.getD i 0 = q.getD j 0) : i = j := by
  rw [← h.pq i hi, ← h.pq j hj, e]

theorem PermS.q0 (h : PermS p q ops) {i d : Nat} (hi : i < ops.size) : q.getD i d = q.getD i 0 := by
  rw [List.getD_eq_getElem?_getD, List.getD_eq_getElem?_getD, List.getElem?_eq_getElem (by rw [h.ql]; exact hi)]
  rfl

theorem PermS.yields (h : PermS p q ops) {tmps : Array Value} {j : Nat} (hj : j < ops.size) : yielded (permOps p q ops) tmps (q.getD j 0) = yielded ops tmps j := by
  unfold yielded
  rw [h.get hj]
  cases ops[j]? <;> rfl

/-- What was listed, under the new numbers. -/
structure LstS (q : List Nat) (ops : Array Oper) (l l' : Array Bool) : Prop where
  s : l.size = ops.size
  s' : l'.size = ops.size
  g : ∀ i, i < ops.size → ∀ d, l'.getD (q.getD i 0) d = l.getD i d

theorem LstS.put (h : PermS p q ops) {l l' : Array Bool} (hl : LstS q ops l l') {i : Nat} (hi : i < ops.size) : LstS q ops (l.setIfInBounds i true) (l'.setIfInBounds (q.getD i 0) true) := by
  refine ⟨by simpa using hl.s, by simpa using hl.s', fun k hk d => ?_⟩
  rw [getD_setB (by rw [hl.s']; exact h.qlt i hi), getD_setB (by rw [hl.s]; exact hi), hl.g k hk]
  by_cases e : k = i
  · subst e; simp
  · rw [if_neg e, if_neg (fun k2 => e (h.inj hk hi k2))]

theorem Vld.perm {md : Region.Mode} (h : PermS p q ops) : ∀ (σ : List Nat) (l l' : Array Bool), LstS q ops l l' → Vld md ops l σ → Vld md (permOps p q ops) l' (σ.map fun i => q.getD i 0)
  | [], l, l', hl, hv => by
    simp only [List.map_nil, Vld]
    rw [h.size]
    intro i hi
    have := hl.g (p.getD i 0) (h.plt i hi) true
    rw [h.qp i hi] at this
    rw [this]
    exact hv _ (h.plt i hi)
  | i :: r, l, l', hl, hv => by
    obtain ⟨h1, h2⟩ := hv
    obtain ⟨k1, k2, o, k3, k4⟩ := ready_iff.1 h1
    refine ⟨?_, Vld.perm h r _ _ (hl.put h k1) h2⟩
    rw [ready_iff]
    refine ⟨by rw [h.size]; exact h.qlt i k1, by rw [hl.g i k1]; exact k2, remap q o, by rw [h.get k1, k3]; rfl, fun e he hb => ?_⟩
    simp only [remap, Array.toList_map, List.mem_map] at he
    obtain ⟨e0, he0, rfl⟩ := he
    have hlt := (h.aft i o k3).1 e0 he0
    rw [h.q0 hlt, hl.g _ hlt]
    exact k4 e0 he0 hb

theorem wpOps_perm {F : Fence} {n : Nat} {P : Program} {Q : Exit → Act → World → Prop} (h : PermS p q ops) : ∀ (σ : List Nat) (a : Act) (w : World), (∀ i ∈ σ, i < ops.size) → wpOpsIn F n P (permOps p q ops) Q (σ.map fun i => q.getD i 0) a w → wpOpsIn F n P ops Q σ a w
  | [], a, w, _, k => k
  | i :: r, a, w, hi, k => by
    have hi0 := hi i (by simp)
    rw [List.map_cons, wpOpsIn_cons] at k
    rw [wpOpsIn_cons]
    have k := wpOpIn_mono (fun a w => wpOps_perm h r a w (fun x hx => hi x (by simp [hx]))) k
    unfold wpOpIn at k ⊢
    rw [h.get hi0, Array.getElem?_eq_getElem hi0] at k
    rw [Array.getElem?_eq_getElem hi0]
    simp only [Option.map_some] at k ⊢
    have hw : Region.wanted (remap q ops[i]) (yielded (permOps p q ops) a.tmps) = Region.wanted ops[i] (yielded ops a.tmps) := by
      unfold Region.wanted
      cases hg : ops[i].guard with
      | none => simp [remap, hg]
      | some g =>
        obtain ⟨j, b⟩ := g
        have hj := (h.aft i ops[i] (Array.getElem?_eq_getElem hi0)).2 (j, b) hg
        simp only [remap, hg, Option.map_some]
        rw [h.q0 hj, h.yields hj]
    rw [hw] at k
    exact k
end

theorem yielded_add (ops : Array Oper) (j i : Nat) (tmps : Array Value) : yielded (addE ops j i) tmps = yielded ops tmps := by
  funext k
  unfold yielded
  rw [addE_get]
  by_cases h : j = k
  · rw [if_pos h]
    cases ops[k]? <;> rfl
  · rw [if_neg h]

theorem wpOps_add {F : Fence} {n : Nat} {P : Program} {ops : Array Oper} {Q : Exit → Act → World → Prop} {j i : Nat} : ∀ (σ : List Nat) (a : Act) (w : World), wpOpsIn F n P (addE ops j i) Q σ a w → wpOpsIn F n P ops Q σ a w
  | [], a, w, h => h
  | x :: r, a, w, h => by
    rw [wpOpsIn_cons] at h ⊢
    have h := wpOpIn_mono (fun a w => wpOps_add r a w) h
    unfold wpOpIn at h ⊢
    rw [addE_get, yielded_add] at h
    by_cases hx : j = x
    · rw [if_pos hx] at h
      cases ho : ops[x]? with
      | none => rw [ho] at h; exact h
      | some o => rw [ho] at h; exact h
    · rw [if_neg hx] at h
      exact h

inductive AltT where
  | leaf
  | split (i j : Nat) (a b : AltT)
  | perm (p q : List Nat) (a : AltT)
/-- The regions that a tree of pairs tells apart: a: i ahead of j. -/
def leaves : AltT → Array Oper → List (Array Oper)
  | .leaf, ops => [ops]
  | .split i j a b, ops => leaves a (addE ops j i) ++ leaves b (addE ops i j)
  | .perm p q a, ops => leaves a (permOps p q ops)
def altOK : AltT → Array Oper → Bool
  | .leaf, ops => true
  | .split i j a b, ops => i != j && decide (i < ops.size) && decide (j < ops.size) && altOK a (addE ops j i) && altOK b (addE ops i j)
  | .perm p q a, ops => permOK p q ops && altOK a (permOps p q ops)

theorem Vld.lt {md : Region.Mode} {ops : Array Oper} : ∀ (σ : List Nat) (l : Array Bool), Vld md ops l σ → ∀ i ∈ σ, i < ops.size
  | [], l, h, i, hi => by simp at hi
  | x :: r, l, h, i, hi => by
    rcases List.mem_cons.1 hi with rfl | hi
    · exact (ready_iff.1 h.1).1
    · exact Vld.lt r _ h.2 i hi

theorem lst0 {p q : List Nat} {ops : Array Oper} (h : PermS p q ops) : LstS q ops (Array.replicate ops.size false) (Array.replicate (permOps p q ops).size false) := by
  refine ⟨by simp, by simp [h.size], fun i hi d => ?_⟩
  have := h.qlt i hi
  simp only [Array.getD_eq_getD_getElem?, h.size]
  rw [Array.getElem?_eq_getElem (by simpa using this), Array.getElem?_eq_getElem (by simpa using hi)]
  simp

theorem alts_cover {F : Fence} {n : Nat} {P : Program} {md : Region.Mode} {Q : Exit → Act → World → Prop} {a : Act} {w : World} : ∀ (T : AltT) (ops : Array Oper) (σ : List Nat), altOK T ops = true → Vld md ops (Array.replicate ops.size false) σ →
    (∀ ops' ∈ leaves T ops, wpAnyIn F n P md ops' Q ops'.size (Array.replicate ops'.size false) a w) → wpOpsIn F n P ops Q σ a w
  | .leaf, ops, σ, _, hv, h => wpAny_follow _ _ _ _ _ hv (h ops (by simp [leaves]))
  | .split i j ta tb, ops, σ, hT, hv, h => by
    simp only [altOK, Bool.and_eq_true, bne_iff_ne, decide_eq_true_eq] at hT
    obtain ⟨⟨⟨⟨hij, hi⟩, hj⟩, ha⟩, hb⟩ := hT
    rcases Bef_or hij σ with k | k
    · exact wpOps_add σ a w (alts_cover ta (addE ops j i) σ ha (by simpa using hv.add hij _ _ (by simp) (.inr k)) fun o ho => h o (by simp [leaves, ho]))
    · exact wpOps_add σ a w (alts_cover tb (addE ops i j) σ hb (by simpa using hv.add (Ne.symm hij) _ _ (by simp) (.inr k)) fun o ho => h o (by simp [leaves, ho]))
  | .perm p q t, ops, σ, hT, hv, h => by
    simp only [altOK, Bool.and_eq_true] at hT
    have hp := permOK_spec hT.1
    exact wpOps_perm hp σ a w (Vld.lt σ _ hv) (alts_cover t (permOps p q ops) _ hT.2 (hv.perm hp _ _ _ (lst0 hp)) fun o ho => h o (by simp [leaves, ho]))

theorem region_alts {F : Fence} {n : Nat} {P : Program} {id : Nat} {ops : Array Oper} {Q : Exit → Act → World → Prop} {a : Act} {w : World} (T : AltT) (hT : altOK T ops = true) (hord : orders ops.toList = true)
    (h : ∀ ops' ∈ leaves T ops, ∀ md, wpAnyIn F n P md ops' Q ops'.size (Array.replicate ops'.size false) a { w with drawn := w.drawn + 1 }) : (Code.region id ops true).wpIn F n P Q a w := by
  refine wpIn_region_draw fun t => ?_
  have hany : ∀ (md : Region.Mode) (t : Nat), wpOpsIn F n P ops Q (Region.linearise md ops t) a { w with drawn := w.drawn + 1 } := by
    intro md t
    have hv : Vld md ops (Array.replicate ops.size false) (Region.linearise md ops t) := lin_vld hord ops.size t _ (List.range ops.size) (by simp) List.nodup_range (fun i => by
      simp only [List.mem_range, Array.getD_eq_getD_getElem?]
      constructor
      · intro hi; exact ⟨hi, by simp [hi]⟩
      · exact fun hi => hi.1) (by simp)
    exact alts_cover T ops _ hT hv fun o ho => h o ho md
  unfold Region.schedule
  split
  · exact hany _ _
  · exact hany _ _
end Go.Proofs.Eng
