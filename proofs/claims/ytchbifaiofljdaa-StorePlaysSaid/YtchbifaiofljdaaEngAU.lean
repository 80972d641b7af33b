/- The engine, part AU: what is left of a map, as a loop goes through it in whatever order. -/
import Derived.Test.YtchbifaiofljdaaEngAT
import Derived.Test.YtchbifaiofljdaaEngAI
set_option linter.unusedVariables false
set_option linter.unusedSimpArgs false
namespace Go.Proofs.Eng
open Go
abbrev MEs := List (Value × AV × Nat)
def stps (es : MEs) : List Nat := es.map fun e => e.2.2

theorem leftL_nil (es : MEs) : leftL es [] = es := by
  unfold leftL
  exact List.filter_eq_self.2 (by simp)
theorem leftL_snoc (es : MEs) (seen : List Nat) (s : Nat) : leftL es (seen ++ [s]) = (leftL es seen).filter fun e => !(e.2.2 == s) := by
  unfold leftL
  rw [List.filter_filter]
  congr 1
  funext e
  simp only [List.contains_eq_mem, List.mem_append, List.mem_singleton]
  by_cases h1 : e.2.2 ∈ seen <;> by_cases h2 : e.2.2 = s <;> simp [h1, h2]
theorem leftL_stps {es : MEs} (h : (stps es).Nodup) (seen : List Nat) : (stps (leftL es seen)).Nodup :=
  (List.Sublist.map _ List.filter_sublist).nodup h

theorem filter_stp {e : Value × AV × Nat} : ∀ {l : MEs}, (stps l).Nodup → e ∈ l → l.Perm (e :: l.filter fun x => !(x.2.2 == e.2.2))
  | [], _, h => by simp at h
  | x :: r, hn, h => by
    simp only [stps, List.map_cons, List.nodup_cons, List.mem_map, not_exists, not_and] at hn
    rcases List.mem_cons.1 h with rfl | h
    · have : r.filter (fun x => !(x.2.2 == e.2.2)) = r := List.filter_eq_self.2 fun y hy => by
        have := hn.1 y hy
        simpa using this
      simp [this]
    · have hne : (x.2.2 == e.2.2) = false := by
        have := hn.1 e h
        simpa using fun k => this k.symm
      have ih := filter_stp (l := r) hn.2 h
      rw [List.filter_cons_of_pos (by simp [hne])]
      exact (ih.cons x).trans (List.Perm.swap _ _ _)

/-- How far a loop through a map has come. -/
structure Gone (es done : MEs) (seen : List Nat) : Prop where
  eq : seen = stps done
  perm : (done ++ leftL es seen).Perm es
theorem Gone.nil (es : MEs) : Gone es [] [] := ⟨rfl, by rw [leftL_nil]; exact List.Perm.refl _⟩
theorem Gone.step {es done : MEs} {seen : List Nat} {e : Value × AV × Nat} (hs : StOK es) (h : Gone es done seen) (he : e ∈ leftL es seen) : Gone es (done ++ [e]) (seen ++ [e.2.2]) ∧ (leftL es (seen ++ [e.2.2])).length + 1 = (leftL es seen).length := by
  have hp := filter_stp (leftL_stps hs.1 seen) he
  rw [leftL_snoc]
  refine ⟨⟨by rw [h.eq]; simp [stps], ?_⟩, by have := hp.length_eq; simp only [List.length_cons] at this; omega⟩
  rw [leftL_snoc, List.append_assoc]
  exact ((List.Perm.append_left done hp).symm).trans h.perm
theorem Gone.mem {es done : MEs} {seen : List Nat} {e : Value × AV × Nat} (h : Gone es done seen) (he : e ∈ leftL es seen) : e ∈ es := h.perm.mem_iff.1 (List.mem_append_right _ he)
theorem Gone.done {es done : MEs} {seen : List Nat} (h : Gone es done seen) (he : leftL es seen = []) : done.Perm es := by
  have := h.perm
  rwa [he, List.append_nil] at this
theorem Gone.sub {es done : MEs} {seen : List Nat} {e : Value × AV × Nat} (h : Gone es done seen) (he : e ∈ done) : e ∈ es := h.perm.mem_iff.1 (List.mem_append_left _ he)
theorem Gone.len {es done : MEs} {seen : List Nat} (h : Gone es done seen) : done.length + (leftL es seen).length = es.length := by
  have := h.perm.length_eq
  simpa using this
/-- What comes next has a key that none had that came. -/
theorem Gone.fresh {es done : MEs} {seen : List Nat} {e : Value × AV × Nat} (hs : StOK es) (h : Gone es done seen) (he : e ∈ leftL es seen) : ∀ x ∈ done, x.1 ≠ e.1 := by
  have hp := filter_stp (leftL_stps hs.1 seen) he
  have h1 : ((done ++ leftL es seen).map fun x => x.1).Nodup := ((h.perm.map fun x => x.1).nodup_iff).2 hs.2
  rw [List.map_append, List.nodup_append] at h1
  exact fun x hx => h1.2.2 x.1 (List.mem_map.2 ⟨x, hx, rfl⟩) e.1 (List.mem_map.2 ⟨e, he, rfl⟩)

/-! ### Maps keyed by texts -/
theorem keyB_inj {es : MEs} (hk : SKeys es) {x y : Value × AV × Nat} (hx : x ∈ es) (hy : y ∈ es) (h : keyB x.1 = keyB y.1) : x.1 = y.1 := by
  obtain ⟨s, hs⟩ := hk x hx
  obtain ⟨t, ht⟩ := hk y hy
  rw [hs, ht] at h ⊢
  simp only [keyB] at h
  rw [← mkS_bl s, h, mkS_bl]
theorem vFind_nodup {l : List (List UInt8 × AV)} : (l.map Prod.fst).Nodup → ∀ {i : Nat} {x : List UInt8 × AV}, l[i]? = some x → vFind x.1 l = some (i, x.2) := by
  induction l with
  | nil => intro _ i x h; simp at h
  | cons y r ih =>
    intro hn i x h
    simp only [List.map_cons, List.nodup_cons, List.mem_map, not_exists, not_and] at hn
    cases i with
    | zero => simp only [List.getElem?_cons_zero, Option.some.injEq] at h; subst h; simp [vFind]
    | succ i =>
      simp only [List.getElem?_cons_succ] at h
      have hne : x.1 ≠ y.1 := hn.1 x (List.mem_of_getElem? h)
      simp only [vFind, hne, if_false]
      rw [ih hn.2 h]
      rfl
theorem vPut_new {k : List UInt8} {c : AV} {l : List (List UInt8 × AV)} (h : ∀ x ∈ l, x.1 ≠ k) : vPut k c l = l ++ [(k, c)] := by
  have : vFind k l = none := by
    induction l with
    | nil => rfl
    | cons y r ih =>
      simp only [vFind]
      rw [if_neg (fun e => h y (by simp) e.symm), ih (fun x hx => h x (by simp [hx]))]
      rfl
  unfold vPut
  rw [this]
theorem KV_append (a b : MEs) : KV (a ++ b) = KV a ++ KV b := by simp [KV]
end Go.Proofs.Eng
