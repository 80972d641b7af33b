/- The engine, part AM: arguments of any plain type, as one value. -/
import Derived.Test.YtcmdnlpkplaapaaEngAJ
set_option linter.unusedVariables false
set_option linter.unusedSimpArgs false
namespace Go.Proofs.Eng
open Go Go.RowKit Go.ChangeShapes Go.WideShapes Go.ChangeAt
section
variable {P : Program} {W : World}
theorem cells_one {v : Value} (h : ∀ cs,v ≠ .agg cs) : v.cells = #[v] := by cases v <;> first | rfl | exact absurd rfl (h _)
theorem read_wst {H : Type} {enc : TypeId × Value -> H} {t : TypeId} {fs : Array Field} {v : Value} {d : DataW H} {p : List MemPlace} (n : Nat) (ht : P.underlying t = some (.struct fs)) (ho : okT P n t = true) (h1 : P.cellsOf t ≠ 1)
  (h : DataW.Trod enc P W 0 (fun _ => true) true t v d p) : ∃ xs,VRel io0 (fz0 W) (.agg xs) v /\ WT P n t xs := by
 obtain ⟨fuel,hf⟩ := h
 obtain ⟨xs,k1,k2⟩ := trod_read n hf ho
 refine ⟨xs,?_,k2⟩
 have hl : xs.length = P.cellsOf t := by
  cases n with
  | zero => simp [okT] at ho
  | succ n =>
   unfold WT at k2
   rw [ht] at k2
   exact k2.1
 have hv : ∃ cs,v = .agg cs := by
  by_cases hc : ∃ cs,v = .agg cs
  ·exact hc
  ·have := cells_one (v := v) fun cs e => hc ⟨cs,e⟩
   rw [this] at k1
   have := VRels_length k1
   simp at this
   omega
 obtain ⟨cs,rfl⟩ := hv
 simp only [VRel]
 exact ⟨cs,rfl,k1⟩

theorem wt_int {n : Nat} {t : TypeId} {k : IntKind} {y : AV} (ht : P.underlying t = some (.int k)) (h : WT P (n + 1) t [y]) : ∃ m,y = .lit (.int k m) /\ (Lit.int k m).wf = true := by
 unfold WT at h
 rw [ht] at h
 obtain ⟨m,h1,h2⟩ := h
 exact ⟨m,by simpa using h1,h2⟩
theorem wt_bool {n : Nat} {t : TypeId} {y : AV} (ht : P.underlying t = some .bool) (h : WT P (n + 1) t [y]) : ∃ b,y = avBool b := by
 unfold WT at h
 rw [ht] at h
 obtain ⟨m,h1⟩ := h
 exact ⟨m,by simpa using h1⟩
theorem wt_str {n : Nat} {t : TypeId} {y : AV} (ht : P.underlying t = some .string) (h : WT P (n + 1) t [y]) : ∃ s : List UInt8,y = avStr s /\ s.length <= maxLen := by
 unfold WT at h
 rw [ht] at h
 obtain ⟨m,h1,h2⟩ := h
 exact ⟨m,by simpa using h1,h2⟩
theorem wt_row {n : Nat} {t e : TypeId} {y : AV} (ht : P.underlying t = some (.slice e)) (hc : P.cellsOf e = 1) (hl : ∀ z : AV,elemA P e [z] = z) (h : WT P (n + 1) t [y]) : ∃ l : List AV,Fzr 1 y l /\ l.length <= maxLen /\ ∀ z ∈ l,WT P n e [z] := by
 unfold WT at h
 rw [ht] at h
 rcases h with h | ⟨yss,h1,h2,h3⟩
 ·exact ⟨[],.inl ⟨by simpa using h,rfl⟩,by simp,by simp⟩
 ·rw [hc] at h1
  refine ⟨yss.map (elemA P e),.inr (by simpa using h1),by simpa using h2,fun z hz => ?_⟩
  obtain ⟨ys,hy,rfl⟩ := List.mem_map.1 hz
  obtain ⟨h4,h5⟩ := h3 ys hy
  rw [hc] at h4
  cases ys with
  | nil => simp at h4
  | cons u r =>
   cases r with
   | cons _ _ => simp at h4
   | nil => rw [hl]; exact h5
theorem elemA_one {e : TypeId} (h : (match P.underlying e with | some (.struct _) => false | some (.array _ _) => false | _ => true) = true) (z : AV) : elemA P e [z] = z := by
 unfold elemA
 cases hu : P.underlying e with
 | none => rfl
 | some d =>
  rw [hu] at h
  cases d <;> first | rfl | (simp at h)
theorem map_of {α β : Type} {f : β -> α} {Q : β -> Prop} : ∀ {l : List α},(∀ z ∈ l,∃ b,z = f b /\ Q b) -> ∃ l' : List β,l = l'.map f /\ ∀ b ∈ l',Q b
 | [],_ => ⟨[],rfl,by simp⟩
 | a :: r,h => by
  obtain ⟨b,rfl,hb⟩ := h a (by simp)
  obtain ⟨l',rfl,hl⟩ := map_of (l := r) fun z hz => h z (by simp [hz])
  exact ⟨b :: l',rfl,by intro c hc; rcases List.mem_cons.1 hc with rfl | hc; exact hb; exact hl c hc⟩
theorem wt_strs {n : Nat} {t e : TypeId} {y : AV} (ht : P.underlying t = some (.slice e)) (he : P.underlying e = some .string) (hc : P.cellsOf e = 1) (h : WT P (n + 2) t [y]) : ∃ l : List (List UInt8),Fzr 1 y (l.map avStr) /\ l.length <= maxLen /\ ∀ s ∈ l,s.length <= maxLen := by
 obtain ⟨l,h1,h2,h3⟩ := wt_row ht hc (elemA_one (by rw [he])) h
 obtain ⟨l',rfl,h4⟩ := map_of (f := avStr) (Q := fun s => s.length <= maxLen) fun z hz => wt_str he (h3 z hz)
 exact ⟨l',h1,by simpa using h2,h4⟩
theorem wt_ints {n : Nat} {t e : TypeId} {k : IntKind} {y : AV} (ht : P.underlying t = some (.slice e)) (he : P.underlying e = some (.int k)) (hc : P.cellsOf e = 1) (h : WT P (n + 2) t [y]) : ∃ l : List Int,Fzr 1 y (l.map (avInt k)) /\ l.length <= maxLen /\ ∀ s ∈ l,(Lit.int k s).wf = true := by
 obtain ⟨l,h1,h2,h3⟩ := wt_row ht hc (elemA_one (by rw [he])) h
 obtain ⟨l',rfl,h4⟩ := map_of (f := avInt k) (Q := fun s => (Lit.int k s).wf = true) fun z hz => wt_int he (h3 z hz)
 exact ⟨l',h1,by simpa using h2,h4⟩
theorem wt_structs {n : Nat} {t e : TypeId} {fs : Array Field} {y : AV} (ht : P.underlying t = some (.slice e)) (he : P.underlying e = some (.struct fs)) (h : WT P (n + 1) t [y]) : ∃ l : List (List AV),Fzr (P.cellsOf e) y (l.map .agg) /\ l.length <= maxLen /\ ∀ ys ∈ l,ys.length = P.cellsOf e /\ WT P n e ys := by
 unfold WT at h
 rw [ht] at h
 rcases h with h | ⟨yss,h1,h2,h3⟩
 ·exact ⟨[],.inl ⟨by simpa using h,rfl⟩,by simp,by simp⟩
 ·have : elemA P e = AV.agg := by funext ys; unfold elemA; rw [he]
  rw [this] at h1
  exact ⟨yss,.inr (by simpa using h1),h2,h3⟩
theorem wt_fields {n : Nat} {t : TypeId} {fs : Array Field} {ys : List AV} (ht : P.underlying t = some (.struct fs)) (h : WT P (n + 1) t ys) : ys.length = P.cellsOf t /\ ∀ f ∈ fs.toList,WT P n f.type ((ys.drop f.offset).take (P.cellsOf f.type)) := by
 unfold WT at h
 rw [ht] at h
 exact h
end
end Go.Proofs.Eng
