/- The engine, part G: equality, fields, indexes, slices' heads, conversions of numbers. -/
import Derived.Test.YtkofnmiopjnhiaaEngF
import Derived.Laws.StructEq
set_option linter.unusedVariables false
set_option linter.unusedSimpArgs false
namespace Go.Proofs.Eng
open Go Go.RowKit

section
variable {P : Program} {w : World} {ι : Io} {fz : Fz}

/-! ### Parts of a struct -/
theorem apart_sound {n : Option Nat} {xs : List AV} {cs : Array Value} {off : Nat} {t : TypeId} {v : AV} (hl : pLay P t = some n) (hr : VRels ι fz xs cs.toList) (h : apart n xs off = some v) :
    ∃ cv, (part t cs off).run P w = .ok cv w ∧ VRel ι fz v cv := by
  cases n with
  | none =>
    simp only [apart] at h
    obtain ⟨u, hu, r⟩ := hr.get h
    have hu' : cs[off]? = some u := by rw [← Array.getElem?_toList]; exact hu
    exact ⟨u, by simp [part, run_isAgg_none hl, hu'], r⟩
  | some k =>
    simp only [apart] at h
    split at h
    · rename_i hk
      simp at h; subst h
      refine ⟨.agg (cs.extract off (off + k)), by simp [part, (run_isAgg_some hl).1, (run_isAgg_some hl).2], ?_⟩
      simp only [VRel]
      refine ⟨_, rfl, ?_⟩
      rw [Array.toList_extract, List.extract_eq_take_drop]
      have := (hr.drop off).take k
      rwa [show off + k - off = k by omega]
    · simp at h

/-! ### Equality -/
theorem nilP_sound {z : AV} {cz : Value} {q : Bool} (hz : VRel ι fz z cz) (hq : nilP z = some q) : ∃ o, cz = .pointer o ∧ q = o.isNone := by
  unfold nilP at hq
  split at hq
  · simp only [VRel] at hz; subst hz; simp at hq; subst hq; exact ⟨none, rfl, rfl⟩
  · simp only [VRel] at hz; obtain ⟨p, _, rfl⟩ := hz; simp at hq; subst hq; exact ⟨_, rfl, rfl⟩
  · simp only [VRel] at hz; obtain ⟨p, _, rfl⟩ := hz; simp at hq; subst hq; exact ⟨_, rfl, rfl⟩
  · simp only [VRel] at hz; obtain ⟨p, _, rfl, _⟩ := hz; simp at hq; subst hq; exact ⟨_, rfl, rfl⟩
  · simp at hq
theorem nilS_sound {z : AV} {cz : Value} {q : Bool} (hz : VRel ι fz z cz) (hq : nilS z = some q) : ∃ o n c, cz = .slice o n c ∧ q = o.isNone := by
  unfold nilS at hq
  split at hq
  · simp only [VRel] at hz; subst hz; simp at hq; subst hq; exact ⟨none, _, _, rfl, rfl⟩
  · simp only [VRel] at hz; obtain ⟨p, c, _, rfl, _⟩ := hz; simp at hq; subst hq; exact ⟨_, _, _, rfl, rfl⟩
  · simp only [VRel] at hz; obtain ⟨p, a, c, _, _, rfl, _⟩ := hz; simp at hq; subst hq; exact ⟨_, _, _, rfl, rfl⟩
  · simp at hq
theorem nilM_sound {z : AV} {cz : Value} {q : Bool} (hz : VRel ι fz z cz) (hq : nilM z = some q) : ∃ o, cz = .map o ∧ q = o.isNone := by
  unfold nilM at hq
  split at hq
  · simp only [VRel] at hz; subst hz; simp at hq; subst hq; exact ⟨none, rfl, rfl⟩
  · simp only [VRel] at hz; obtain ⟨p, _, rfl⟩ := hz; simp at hq; subst hq; exact ⟨_, rfl, rfl⟩
  · simp at hq
theorem nilF_sound {z : AV} {cz : Value} {q : Bool} (hz : VRel ι fz z cz) (hq : nilF z = some q) : (cz = .nilFunc ∧ q = true) ∨ (∃ f a b, cz = .func f a b ∧ q = false) := by
  unfold nilF at hq
  split at hq
  · simp only [VRel] at hz; subst hz; simp at hq; subst hq; exact .inl ⟨rfl, rfl⟩
  · simp only [VRel] at hz; obtain ⟨p, q', rfl, _⟩ := hz; simp at hq; subst hq; exact .inr ⟨_, _, _, rfl, rfl⟩
  · simp only [VRel] at hz; obtain ⟨p, _, rfl⟩ := hz; simp at hq; subst hq; exact .inr ⟨_, _, _, rfl, rfl⟩
  · simp at hq
theorem nil2_inv {a b : Option Bool} {r : Bool} (h : nil2 a b = some r) : (a = some true ∧ b = some r) ∨ (a = some false ∧ b = some true ∧ r = false) := by
  unfold nil2 at h
  split at h
  · simp at h; subst h; exact .inl ⟨rfl, rfl⟩
  · simp at h; subst h; exact .inr ⟨rfl, rfl, rfl⟩
  · simp at h

theorem aprim_sound {d : EqD} {t : TypeId} {n fuel : Nat} {x y : AV} {cx cy : Value} {b : Bool} (hp : pEq P (n + 1) t = some d) (hx : VRel ι fz x cx) (hy : VRel ι fz y cy)
    (h : aprim d x y = some b) : (Op.equalIn (fuel + 1) t cx cy).run P w = .ok b w := by
  simp only [pEq] at hp
  split at hp
  · rename_i hu
    simp at hp; subst hp
    simp only [aprim] at h
    unfold eqB at h
    split at h
    · simp at h; simp only [VRel] at hx hy; subst hx; subst hy; subst h; exact run_equalIn_bool w fuel t _ _ hu
    · simp at h
  · rename_i k hu
    simp at hp; subst hp
    simp only [aprim] at h
    unfold eqI at h
    split at h
    · split at h
      · rename_i hk; subst hk
        simp at h; simp only [VRel] at hx hy; subst hx; subst hy; subst h; exact run_equalIn_int w fuel t _ _ _ _ hu
      · simp at h
    · simp at h
  · rename_i hu
    simp at hp; subst hp
    simp only [aprim] at h
    unfold eqSt at h
    split at h
    · simp at h; simp only [VRel] at hx hy; subst hx; subst hy; subst h
      rw [run_equalIn_string w fuel t _ _ hu, toList_eq_bl, toList_eq_bl]
    · simp at h
  · rename_i e hu
    simp at hp; subst hp
    simp only [aprim] at h
    rcases nil2_inv h with ⟨q1, q2⟩ | ⟨q1, q2, rfl⟩
    · obtain ⟨o1, rfl, e1⟩ := nilP_sound hx q1
      obtain ⟨o2, rfl, e2⟩ := nilP_sound hy q2
      cases o1 <;> simp at e1
      subst e2
      simp [Op.equalIn, run_underlying' hu]
    · obtain ⟨o1, rfl, e1⟩ := nilP_sound hx q1
      obtain ⟨o2, rfl, e2⟩ := nilP_sound hy q2
      cases o1 <;> simp at e1
      cases o2 <;> simp at e2
      simp [Op.equalIn, run_underlying' hu]
  · rename_i e hu
    simp at hp; subst hp
    simp only [aprim] at h
    rcases nil2_inv h with ⟨q1, q2⟩ | ⟨q1, q2, rfl⟩
    · obtain ⟨o1, n1, c1, rfl, e1⟩ := nilS_sound hx q1
      obtain ⟨o2, n2, c2, rfl, e2⟩ := nilS_sound hy q2
      cases o1 <;> simp at e1
      subst e2
      simp [Op.equalIn, run_underlying' hu]
    · obtain ⟨o1, n1, c1, rfl, e1⟩ := nilS_sound hx q1
      obtain ⟨o2, n2, c2, rfl, e2⟩ := nilS_sound hy q2
      cases o1 <;> simp at e1
      cases o2 <;> simp at e2
      simp [Op.equalIn, run_underlying' hu]
  · rename_i k e hu
    simp at hp; subst hp
    simp only [aprim] at h
    rcases nil2_inv h with ⟨q1, q2⟩ | ⟨q1, q2, rfl⟩
    · obtain ⟨o1, rfl, e1⟩ := nilM_sound hx q1
      obtain ⟨o2, rfl, e2⟩ := nilM_sound hy q2
      cases o1 <;> simp at e1
      subst e2
      simp [Op.equalIn, run_underlying' hu]
    · obtain ⟨o1, rfl, e1⟩ := nilM_sound hx q1
      obtain ⟨o2, rfl, e2⟩ := nilM_sound hy q2
      cases o1 <;> simp at e1
      cases o2 <;> simp at e2
      simp [Op.equalIn, run_underlying' hu]
  · rename_i a1 a2 a3 hu
    simp at hp; subst hp
    simp only [aprim] at h
    rcases nil2_inv h with ⟨q1, q2⟩ | ⟨q1, q2, rfl⟩
    · rcases nilF_sound hx q1 with ⟨rfl, e1⟩ | ⟨f, a, c, rfl, e1⟩
      · rcases nilF_sound hy q2 with ⟨rfl, rfl⟩ | ⟨f, a, c, rfl, rfl⟩
        · simp [Op.equalIn, run_underlying' hu]
        · simp [Op.equalIn, run_underlying' hu]
      · simp at e1
    · rcases nilF_sound hx q1 with ⟨rfl, e1⟩ | ⟨f, a, c, rfl, e1⟩
      · simp at e1
      · rcases nilF_sound hy q2 with ⟨rfl, e2⟩ | ⟨f, a, c, rfl, e2⟩
        · simp [Op.equalIn, run_underlying' hu]
        · simp at e2
  · rename_i k hu
    simp at hp; subst hp
    simp only [aprim] at h
    unfold eqFl at h
    split at h
    · split at h
      · rename_i hk; subst hk
        simp at h; simp only [VRel] at hx hy; subst hx; subst hy; subst h
        simp [Op.equalIn, run_underlying' hu]
      · simp at h
    · simp at h
  · split at hp
    · simp at hp
    · obtain ⟨q, _, rfl⟩ := Option.map_eq_some_iff.1 hp
      simp [aprim] at h
  · simp at hp

theorem aeq_sound : ∀ (n : Nat) {d : EqD} {t : TypeId} {fuel : Nat} {x y : AV} {cx cy : Value} {b : Bool}, n ≤ fuel → pEq P n t = some d → VRel ι fz x cx → VRel ι fz y cy → aeq d x y = some b →
    (Op.equalIn fuel t cx cy).run P w = .ok b w
  | 0, d, t, fuel, x, y, cx, cy, b, hn, hp, hx, hy, h => by simp [pEq] at hp
  | n + 1, d, t, fuel, x, y, cx, cy, b, hn, hp, hx, hy, h => by
    obtain ⟨fuel, rfl⟩ : ∃ m, fuel = m + 1 := ⟨fuel - 1, by omega⟩
    by_cases hs : ∃ fs, d = .struct fs
    · obtain ⟨ds, rfl⟩ := hs
      simp only [pEq] at hp
      split at hp <;> first
        | (simp at hp; done)
        | skip
      rename_i fs hu
      split at hp
      · simp at hp
      · rename_i hstood
        simp only [Bool.or_eq_true, not_or, Bool.not_eq_true] at hstood
        simp only [aeq] at h
        split at h
        · rename_i xs ys
          simp only [VRel] at hx hy
          obtain ⟨cs1, rfl, r1⟩ := hx
          obtain ⟨cs2, rfl, r2⟩ := hy
          obtain ⟨q, hq, e⟩ := Option.map_eq_some_iff.1 hp
          injection e with e; subst e
          have hf : P.fieldsOf t = fs := by simp [Program.fieldsOf, hu]
          rw [run_equalIn_struct w fuel t cs1 cs2 (by rw [hf]; exact hu) hstood.1, hf]
          clear hp hu hf hstood
          generalize fs.toList = l at hq
          induction l generalizing q with
          | nil =>
            simp at hq; subst hq
            simp [aeqs] at h; subst h
            simp [Op.eqFields]
          | cons f l ih =>
            by_cases hname : f.name = "_"
            · simp only [List.filter_cons, hname, ne_eq, not_true_eq_false, decide_false, Bool.false_eq_true, if_false] at hq
              simp only [Op.eqFields, hname, ne_eq, not_true_eq_false, if_false]
              exact ih q h hq
            · have hfil : List.filter (fun (f : Field) => decide (f.name ≠ "_")) (f :: l) = f :: List.filter (fun (f : Field) => decide (f.name ≠ "_")) l := by simp [List.filter_cons, hname]
              rw [hfil] at hq
              obtain ⟨y1, ys1, h1, h2, rfl⟩ := mapM_cons_some hq
              simp only [Option.bind_eq_bind, Option.pure_def] at h1
              obtain ⟨lay, hlay, h1⟩ := Option.bind_eq_some_iff.1 h1
              obtain ⟨d1, hd1, h1⟩ := Option.bind_eq_some_iff.1 h1
              simp at h1; subst h1
              simp only [aeqs] at h
              split at h
              · rename_i x1 y1 e1 e2
                obtain ⟨c1, p1, v1⟩ := apart_sound (P := P) (w := w) hlay r1 e1
                obtain ⟨c2, p2, v2⟩ := apart_sound (P := P) (w := w) hlay r2 e2
                simp only [Op.eqFields, hname, ne_eq, not_false_eq_true, if_true, Sem.run_bind, p1, p2, Result.andThen_ok]
                split at h
                · rename_i e3
                  have := aeq_sound n (fuel := fuel) (by omega) hd1 v1 v2 e3
                  simp only [this, Result.andThen_ok]
                  simpa using ih ys1 h h2
                · rename_i e3
                  have := aeq_sound n (fuel := fuel) (by omega) hd1 v1 v2 e3
                  simp at h; subst h
                  simp [this]
                · simp at h
              · simp at h
        · simp at h
    · have h' : aprim d x y = some b := by
        cases d <;> first
          | exact absurd ⟨_, rfl⟩ hs
          | simpa only [aeq] using h
      exact aprim_sound (n := n) hp hx hy h'
end
end Go.Proofs.Eng
