/- The engine, part H: slices' heads, indexes, fields' addresses, conversions, lengths. -/
import Derived.Test.YtkofnmiopjnhiaaEngG
import Derived.Laws.DeepStrings4
set_option linter.unusedVariables false
set_option linter.unusedSimpArgs false
namespace Go.Proofs.Eng
open Go Go.RowKit

section
variable {P : Program} {w : World} {ι : Io} {fz : Fz}

/-! ### Bounds -/
theorem aBound_some {x : AV} {cx : Value} {dflt most n : Nat} (hx : VRel ι fz x cx) (h : aBound (some x) dflt most = some n) : ∃ k i, cx = .int k i ∧ 0 ≤ i ∧ i ≤ (most : Int) ∧ n = i.toNat := by
  unfold aBound at h
  split at h
  · rename_i e; cases e
  · rename_i k i e
    injection e with e; subst e
    simp only [VRel] at hx; subst hx
    split at h
    · rename_i hc
      simp at h
      exact ⟨k, i, rfl, hc.1, hc.2, h.symm⟩
    · simp at h
  · simp at h

theorem run_sliceBound {k : IntKind} {i : Int} {y : Nat} {code : BoundsCode} (h0 : 0 ≤ i) (h1 : i ≤ (y : Int)) : (Instr.sliceBound (.int k i) y code).run P w = .ok i.toNat w := by
  simp [Instr.sliceBound, asIntOf, h0, h1]

theorem run_bounds {isS : Bool} {len cap : Nat} {lo hi : Option AV} {clo chi : Option Value} {l h : Nat}
    (hlo : ∀ x, lo = some x → ∃ c, clo = some c ∧ VRel ι fz x c) (hlo' : lo = none → clo = none) (hhi : ∀ x, hi = some x → ∃ c, chi = some c ∧ VRel ι fz x c) (hhi' : hi = none → chi = none)
    (hcap : len ≤ cap) (e1 : aBound hi len len = some h) (e2 : aBound lo 0 h = some l) :
    (Instr.sliceBounds isS len cap clo chi none).run P w = .ok (l, h, cap) w ∧ l ≤ h ∧ h ≤ len := by
  have eh : ∀ code, (match chi with | some v => Instr.sliceBound v cap code | none => (pure len : Sem Nat)).run P w = .ok h w ∧ h ≤ len := by
    intro code
    cases hi with
    | none => rw [hhi' rfl]; simp [aBound] at e1; subst e1; exact ⟨rfl, Nat.le_refl _⟩
    | some x =>
      obtain ⟨c, rfl, hc⟩ := hhi x rfl
      obtain ⟨k, i, rfl, a, b, rfl⟩ := aBound_some hc e1
      exact ⟨run_sliceBound a (by omega), by omega⟩
  have el : ∀ code, (match clo with | some v => Instr.sliceBound v h code | none => (pure 0 : Sem Nat)).run P w = .ok l w ∧ l ≤ h := by
    intro code
    cases lo with
    | none => rw [hlo' rfl]; simp [aBound] at e2; subst e2; exact ⟨rfl, Nat.zero_le _⟩
    | some x =>
      obtain ⟨c, rfl, hc⟩ := hlo x rfl
      obtain ⟨k, i, rfl, a, b, rfl⟩ := aBound_some hc e2
      exact ⟨run_sliceBound a b, by omega⟩
  refine ⟨?_, (el .sliceB).2, (eh .sliceAcap).2⟩
  have h1 := (eh (if isS then .sliceAcap else .sliceAlen)).1
  have h2 := (el .sliceB).1
  cases chi with
  | none =>
    cases clo with
    | none => simp only [Sem.run_pure, Result.ok.injEq, and_true] at h1 h2; subst h1; subst h2; simp [Instr.sliceBounds]
    | some c => simp only [Sem.run_pure, Result.ok.injEq, and_true] at h1; subst h1; simp [Instr.sliceBounds, h2]
  | some d =>
    cases clo with
    | none => simp only [Sem.run_pure, Result.ok.injEq, and_true] at h2; subst h2; simp [Instr.sliceBounds, h1]
    | some c => simp [Instr.sliceBounds, h1, h2]

/-! ### Slices of strings and of slices -/
theorem aslstr_sound {t : TypeId} {x v : AV} {cx : Value} {lo hi : Option AV} {clo chi : Option Value} (ht : P.underlying t = some .string) (hx : VRel ι fz x cx)
    (hlo : ∀ x, lo = some x → ∃ c, clo = some c ∧ VRel ι fz x c) (hlo' : lo = none → clo = none) (hhi : ∀ x, hi = some x → ∃ c, chi = some c ∧ VRel ι fz x c) (hhi' : hi = none → chi = none)
    (h : aslstr x lo hi = some v) : ∃ cv, (Instr.slice t cx clo chi none).run P w = .ok cv w ∧ VRel ι fz v cv := by
  unfold aslstr at h
  split at h
  · rename_i s
    simp only [VRel] at hx; subst hx
    simp only [Option.bind_eq_bind, Option.pure_def] at h
    obtain ⟨hh, e1, h⟩ := Option.bind_eq_some_iff.1 h
    obtain ⟨ll, e2, h⟩ := Option.bind_eq_some_iff.1 h
    simp at h; subst h
    obtain ⟨hb, h1, h2⟩ := run_bounds (P := P) (w := w) (isS := false) hlo hlo' hhi hhi' (Nat.le_refl _) e1 e2
    rw [bl_length] at hb
    refine ⟨.string (s.extract ll hh), by simp [Instr.slice, run_underlying' ht, hb], ?_⟩
    simp only [VRel, mkS_extract]
  · simp at h

theorem laid_sub {a : Addr} {vs : List Value} {sz l n : Nat} (hs : ∀ u ∈ vs, u.cells.size = sz) (hl : Laid fz a (flat vs)) (hn : l + n ≤ vs.length) :
    Laid fz (a.add (l * sz)) (flat ((vs.drop l).take n)) := by
  intro j hj
  have hs2 : ∀ u ∈ vs.drop l, u.cells.size = sz := fun u hu => hs u (List.mem_of_mem_drop hu)
  rw [flat_take hs2, flat_drop hs] at hj ⊢
  have hlen := flat_length hs
  simp only [List.length_take, List.length_drop, hlen] at hj
  have hj1 : j < n * sz := by omega
  have hb : l * sz + n * sz ≤ vs.length * sz := by rw [← Nat.add_mul]; exact Nat.mul_le_mul_right _ hn
  have := hl (l * sz + j) (by rw [hlen]; omega)
  rw [List.getElem?_take, if_pos hj1, List.getElem?_drop, ← this]
  congr 1
  unfold Addr.add
  split <;> split <;> (try split) <;> simp_all <;> omega

theorem aslice_sound {t e : TypeId} {sz : Nat} {x v : AV} {cx : Value} {lo hi : Option AV} {clo chi : Option Value} (ht : P.underlying t = some (.slice e)) (hsz : pSize P e = some sz) (hx : VRel ι fz x cx)
    (hlo : ∀ x, lo = some x → ∃ c, clo = some c ∧ VRel ι fz x c) (hlo' : lo = none → clo = none) (hhi : ∀ x, hi = some x → ∃ c, chi = some c ∧ VRel ι fz x c) (hhi' : hi = none → chi = none)
    (h : aslice sz x lo hi = some v) : ∃ cv, (Instr.slice t cx clo chi none).run P w = .ok cv w ∧ VRel ι fz v cv := by
  unfold aslice at h
  split at h
  · simp only [VRel] at hx; subst hx
    simp only [Option.bind_eq_bind, Option.pure_def] at h
    obtain ⟨hh, e1, h⟩ := Option.bind_eq_some_iff.1 h
    obtain ⟨ll, e2, h⟩ := Option.bind_eq_some_iff.1 h
    simp at h; subst h
    obtain ⟨hb, h1, h2⟩ := run_bounds (P := P) (w := w) (isS := true) hlo hlo' hhi hhi' (Nat.le_refl _) e1 e2
    refine ⟨.slice none 0 0, ?_, by simp only [VRel]⟩
    have : ll = 0 := by omega
    have : hh = 0 := by omega
    subst_vars
    simp [Instr.slice, run_underlying' ht, hb, run_sizeOf' hsz]
  · rename_i sz' xs
    simp only [VRel] at hx
    obtain ⟨a, cap, vs, rfl, hcap, hvs, hcs, hl⟩ := hx
    simp only [Option.bind_eq_bind, Option.pure_def] at h
    obtain ⟨hh, e1, h⟩ := Option.bind_eq_some_iff.1 h
    obtain ⟨ll, e2, h⟩ := Option.bind_eq_some_iff.1 h
    split at h
    case isFalse => simp at h
    rename_i hszz; subst hszz
    simp at h; subst h
    obtain ⟨hb, h1, h2⟩ := run_bounds (P := P) (w := w) (isS := true) hlo hlo' hhi hhi' hcap e1 e2
    have hlen := hvs.length
    refine ⟨.slice (some (if cap = ll then a else a.add (ll * sz'))) (hh - ll) (cap - ll), by
      simp only [Instr.slice, Sem.run_bind, run_underlying' ht, Result.andThen_ok, hb, run_sizeOf' hsz, Sem.run_pure]
      split <;> rfl, ?_⟩
    simp only [VRel]
    have hl' : ((xs.drop ll).take (hh - ll)).length = hh - ll := by simp; omega
    refine ⟨_, _, (vs.drop ll).take (hh - ll), by rw [hl'], by rw [hl']; omega, (hvs.drop ll).take _, fun u hu => hcs u (List.mem_of_mem_drop (List.mem_of_mem_take hu)), ?_⟩
    by_cases hc : cap = ll
    · have : hh - ll = 0 := by omega
      rw [this]; intro j hj; simp [flat] at hj
    · rw [if_neg hc]
      exact laid_sub hcs hl (by omega)
  · rename_i sz' id off n
    simp only [VRel] at hx
    obtain ⟨p, a, cap, hp, hpsz, rfl, hcap, hroom⟩ := hx
    simp only [Option.bind_eq_bind, Option.pure_def] at h
    obtain ⟨hh, e1, h⟩ := Option.bind_eq_some_iff.1 h
    obtain ⟨ll, e2, h⟩ := Option.bind_eq_some_iff.1 h
    split at h
    case isFalse => simp at h
    rename_i hszz; subst hszz
    simp at h; subst h
    obtain ⟨hb, h1, h2⟩ := run_bounds (P := P) (w := w) (isS := true) hlo hlo' hhi hhi' hcap e1 e2
    refine ⟨.slice (some (if cap = ll then a else a.add (ll * sz'))) (hh - ll) (cap - ll), by
      simp only [Instr.slice, Sem.run_bind, run_underlying' ht, Result.andThen_ok, hb, run_sizeOf' hsz, Sem.run_pure]
      split <;> rfl, ?_⟩
    simp only [VRel]
    refine ⟨p, _, _, hp, hpsz, rfl, by omega, fun hc => ?_⟩
    obtain ⟨ha, hr⟩ := hroom (by omega)
    rw [if_neg (by omega), ha, addr_add]
    refine ⟨by rw [hpsz, Nat.add_mul, Nat.add_assoc], ?_⟩
    have : off + ll + (cap - ll) = off + cap := by omega
    rw [this]; exact hr
  · simp at h

/-! ### Addresses -/
theorem aiaddr_sound {t e : TypeId} {sz : Nat} {x i v : AV} {cx ci : Value} (ht : P.underlying t = some (.slice e)) (hsz : pSize P e = some sz) (hx : VRel ι fz x cx) (hi : VRel ι fz i ci)
    (h : aiaddr sz x i = some v) : ∃ cv, (Instr.indexAt t cx ci).run P w = .ok cv w ∧ VRel ι fz v cv := by
  unfold aiaddr at h
  split at h
  case h_2 => simp at h
  rename_i k j
  simp only [VRel] at hi; subst hi
  split at h
  case isFalse => simp at h
  rename_i hj
  split at h
  · rename_i sz' xs
    simp only [VRel] at hx
    obtain ⟨a, cap, vs, rfl, hcap, hvs, hcs, hl⟩ := hx
    split at h
    case h_2 => simp at h
    rename_i el hel
    split at h
    case isFalse => simp at h
    rename_i hg
    obtain ⟨hg, rfl⟩ := hg
    simp at h; subst h
    obtain ⟨u, hu, r⟩ := hvs.get hel
    have hlt : j.toNat < xs.length := (List.getElem?_eq_some_iff.1 hel).1
    have hlen := hvs.length
    refine ⟨.pointer (some (a.add (j.toNat * sz'))), by simp [Instr.indexAt, asIntOf, run_underlying' ht, hj, show j < (xs.length : Int) by omega, run_sizeOf' hsz], ?_⟩
    simp only [VRel]
    refine ⟨_, u.cells.toList, rfl, (r.cells hg).1, ?_⟩
    have := laid_sub (l := j.toNat) (n := 1) hcs hl (by omega)
    have e1 : (vs.drop j.toNat).take 1 = [u] := by
      rw [List.take_one, List.head?_drop, hu]; rfl
    rw [e1] at this
    simpa [flat] using this
  · rename_i sz' id off n
    split at h
    case isFalse => simp at h
    rename_i hc
    obtain ⟨hlt, rfl⟩ := hc
    simp at h; subst h
    simp only [VRel] at hx
    obtain ⟨p, a, cap, hp, hpsz, rfl, hcap, hroom⟩ := hx
    obtain ⟨ha, hr⟩ := hroom (by omega)
    refine ⟨.pointer (some (a.add (j.toNat * sz'))), by simp [Instr.indexAt, asIntOf, run_underlying' ht, hj, show j < (n : Int) by omega, run_sizeOf' hsz], ?_⟩
    simp only [VRel]
    refine ⟨p, hp, ?_⟩
    rw [ha, addr_add, hpsz, Nat.add_mul, Nat.add_assoc, Nat.add_zero]
  · simp at h

theorem laid_drop {a : Addr} {l : List Value} (hl : Laid fz a l) (n : Nat) : Laid fz (a.add n) (l.drop n) := by
  intro j hj
  simp at hj
  have := hl (n + j) (by omega)
  rw [List.getElem?_drop, ← this]
  congr 1
  unfold Addr.add
  split <;> split <;> (try split) <;> simp_all <;> omega

theorem afaddr_sound {s : TypeId} {fs : Array Field} {i : Nat} {f : Field} {z : Nat} {x v : AV} {cx : Value} (ht : P.underlying s = some (.struct fs)) (hf : fs[i]? = some f) (hz : pSize P f.type = some z) (hz0 : z ≠ 0)
    (hx : VRel ι fz x cx) (h : afaddr f.offset x = some v) : ∃ cv, (Instr.fieldAt s cx i).run P w = .ok cv w ∧ VRel ι fz v cv := by
  have hrun : ∀ a : Addr, (Instr.fieldAt s (.pointer (some a)) i).run P w = .ok (.pointer (some (a.add f.offset))) w := by
    intro a
    simp [Instr.fieldAt, run_underlying' ht, hf, Instr.sureAddr, fieldPlace, run_sizeOf' hz, hz0]
  unfold afaddr at h
  split at h
  · rename_i id o
    simp at h; subst h
    simp only [VRel] at hx
    obtain ⟨p, hp, rfl⟩ := hx
    exact ⟨_, hrun _, by simp only [VRel]; exact ⟨p, hp, by rw [addr_add, Nat.add_assoc]⟩⟩
  · rename_i id k o
    simp at h; subst h
    simp only [VRel] at hx
    obtain ⟨p, hp, rfl⟩ := hx
    exact ⟨_, hrun _, by simp only [VRel]; exact ⟨p, hp, by rw [addr_add, Nat.add_assoc]⟩⟩
  · rename_i xs
    simp at h; subst h
    simp only [VRel] at hx
    obtain ⟨a, vs, rfl, hv, hl⟩ := hx
    exact ⟨_, hrun _, by simp only [VRel]; exact ⟨_, _, rfl, hv.drop _, laid_drop hl _⟩⟩
  · simp at h

theorem afield_sound {s : TypeId} {fs : Array Field} {i : Nat} {f : Field} {n : Option Nat} {x v : AV} {cx : Value} (ht : P.underlying s = some (.struct fs)) (hf : fs[i]? = some f) (hl : pLay P f.type = some n)
    (hx : VRel ι fz x cx) (h : afield f.offset n x = some v) : ∃ cv, (Instr.field s cx i).run P w = .ok cv w ∧ VRel ι fz v cv := by
  unfold afield at h
  split at h
  · simp only [VRel] at hx
    obtain ⟨cs, rfl, hv⟩ := hx
    obtain ⟨cv, h1, h2⟩ := apart_sound (P := P) (w := w) hl hv h
    exact ⟨cv, by simp [Instr.field, run_underlying' ht, hf, asAgg, h1], h2⟩
  · rename_i cs
    simp only [VRel] at hx; subst hx
    obtain ⟨cv, h1, h2⟩ := apart_sound (P := P) (w := w) (fz := fz) (ι := ι) hl (VRels_lits _) h
    exact ⟨cv, by simp [Instr.field, run_underlying' ht, hf, asAgg, h1], h2⟩
  · simp at h

theorem asidx_sound {t : TypeId} {x i v : AV} {cx ci : Value} (ht : P.underlying t = some .string) (hx : VRel ι fz x cx) (hi : VRel ι fz i ci) (h : asidx x i = some v) :
    ∃ cv, (Instr.index t cx ci).run P w = .ok cv w ∧ VRel ι fz v cv := by
  unfold asidx at h
  split at h
  · rename_i s k j
    simp only [VRel] at hx hi; subst hx; subst hi
    split at h
    case isFalse => simp at h
    rename_i hj
    split at h
    · rename_i b hb
      simp at h; subst h
      have : s[j.toNat]? = some b := by
        have hlt : j.toNat < (bl s).length := (List.getElem?_eq_some_iff.1 hb).1
        rw [bl_length] at hlt
        have e : s[j.toNat]? = some s[j.toNat] := by simp [getElem?_def, hlt]
        rw [e]
        have hb' := (List.getElem?_eq_some_iff.1 hb).2
        simp only [bl, Array.getElem_toList] at hb'
        rw [← hb']; rfl
      exact ⟨.int .u8 b.toNat, by simp [Instr.index, asIntOf, run_underlying' ht, hj, this], by simp only [VRel]⟩
    · simp at h
  · simp at h

/-! ### Lengths, nil checks, parts of tuples, least and greatest -/
theorem asLen_sound {t ty : TypeId} {e : TypeId} {x : AV} {cx : Value} {n : Nat} (ht : P.underlying t = some (.slice e)) (hx : VRel ι fz x cx) (h : asLen x = some n) :
    (Builtin.len_ #[t] ty #[cx]).run P w = .ok (.int .i64 n) w := by
  unfold asLen at h
  split at h
  · simp at h; subst h; simp only [VRel] at hx; subst hx; simp [Builtin.len_, run_underlying' ht, goInt]
  · simp at h; subst h; simp only [VRel] at hx; obtain ⟨a, cap, vs, rfl, _⟩ := hx; simp [Builtin.len_, run_underlying' ht, goInt]
  · simp at h; subst h; simp only [VRel] at hx; obtain ⟨p, a, cap, _, _, rfl, _⟩ := hx; simp [Builtin.len_, run_underlying' ht, goInt]
  · simp at h

theorem len_str {t ty : TypeId} {s : ByteArray} (ht : P.underlying t = some .string) : (Builtin.len_ #[t] ty #[.string s]).run P w = .ok (.int .i64 (bl s).length) w := by
  simp [Builtin.len_, run_underlying' ht, goInt, bl_length]

theorem mn2_sound {mx : Bool} {x y v : AV} {cx cy : Value} (hx : VRel ι fz x cx) (hy : VRel ι fz y cy) (h : mn2 mx x y = some v) :
    ∃ cv, ((if mx then Builtin.max2 else Builtin.min2) cx cy).run P w = .ok cv w ∧ VRel ι fz v cv := by
  unfold mn2 at h
  split at h
  · simp only [VRel] at hx hy; subst hx; subst hy
    simp at h; subst h
    cases mx
    · exact ⟨_, rfl, by simp [VRel]⟩
    · exact ⟨_, rfl, by simp [VRel]⟩
  · simp at h

theorem mnmx_sound (mx : Bool) : ∀ {r : List AV} {x v : AV} {cx : Value} {cr : List Value}, VRel ι fz x cx → VRels ι fz r cr → mnmx mx x r = some v →
    ∃ cv, (cr.foldlM (if mx then Builtin.max2 else Builtin.min2) cx).run P w = .ok cv w ∧ VRel ι fz v cv
  | [], x, v, cx, cr, hx, hr, h => by
    simp at hr; subst hr
    simp [mnmx] at h; subst h
    exact ⟨cx, by simp, hx⟩
  | y :: r, x, v, cx, cr, hx, hr, h => by
    obtain ⟨u, us, rfl, h1, h2⟩ := VRels_cons_inv hr
    simp only [mnmx] at h
    obtain ⟨z, hz, h⟩ := Option.bind_eq_some_iff.1 h
    obtain ⟨cz, r1, r2⟩ := mn2_sound (P := P) (w := w) hx h1 hz
    obtain ⟨cv, h3, h4⟩ := mnmx_sound mx r2 h2 h
    exact ⟨cv, by simp [List.foldlM_cons, r1, h3], h4⟩
end
end Go.Proofs.Eng
