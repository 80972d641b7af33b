/- Plain laws of texts, sign by sign: joined, cut, encoded. -/
import Derived.Test.YtombplnoeikhoaaWRef01b
set_option linter.unusedVariables false
set_option linter.unusedSimpArgs false
set_option maxRecDepth 100000
namespace Go.Proofs.Eng
open Go

/-- Well formed: all of it is signs. -/
def wfB (b : List UInt8) : Prop := stopOf b = b.length

theorem rfirst_app {a b : List UInt8} (h : (rfirst a).2 ≠ 0) : rfirst (a ++ b) = rfirst a := by
  cases a with
  | nil => exact absurd rfl h
  | cons x l =>
    simp only [List.cons_append, rfirst] at h ⊢
    by_cases h1 : x.toNat < 128
    · simp only [h1, if_true]
    · simp only [h1, if_false] at h ⊢
      have hl : ¬ (lead x < 2 ∨ l.length + 1 < lead x ∨ 248 ≤ x.toNat) := by
        intro hc; rw [if_pos hc] at h; exact h rfl
      have hl2 : ¬ (lead x < 2 ∨ (l ++ b).length + 1 < lead x ∨ 248 ≤ x.toNat) := by
        rw [List.length_append]; omega
      have ht : (l ++ b).take (lead x - 1) = l.take (lead x - 1) := by
        rw [List.take_append_of_le_length (by omega)]
      rw [if_neg hl, if_neg hl2, ht]
theorem rfirst_take {b : List UInt8} {m : Nat} (h : (rfirst b).2 ≠ 0) (hm : (rfirst b).2 ≤ m) : rfirst (b.take m) = rfirst b := by
  rcases rfirst_bound b with h' | ⟨h1, h2, h3⟩
  · exact absurd h' h
  · -- the first bytes alone decide
    cases b with
    | nil => exact absurd rfl h
    | cons x l =>
      obtain ⟨m, rfl⟩ : ∃ k, m = k + 1 := ⟨m - 1, by omega⟩
      simp only [List.take_succ_cons, rfirst] at h hm ⊢
      by_cases g1 : x.toNat < 128
      · simp only [g1, if_true]
      · simp only [g1, if_false] at h hm ⊢
        have hl : ¬ (lead x < 2 ∨ l.length + 1 < lead x ∨ 248 ≤ x.toNat) := by
          intro hc; rw [if_pos hc] at h; exact h rfl
        rw [if_neg hl] at h hm ⊢
        by_cases g3 : ((l.take (lead x - 1)).all isCont) = true
        · rw [if_pos g3] at h hm ⊢
          by_cases g4 : runeSign (accB (headR x) (l.take (lead x - 1))) = true ∧ runeSize (accB (headR x) (l.take (lead x - 1))) = lead x
          · rw [if_pos g4] at hm ⊢
            simp only [] at hm
            have hl2 : ¬ (lead x < 2 ∨ (l.take m).length + 1 < lead x ∨ 248 ≤ x.toNat) := by
              rw [List.length_take]; omega
            have ht : (l.take m).take (lead x - 1) = l.take (lead x - 1) := by
              rw [List.take_take]; congr 1; omega
            rw [if_neg hl2, ht, if_pos g3, if_pos g4]
          · rw [if_neg g4] at h; exact absurd rfl h
        · rw [if_neg g3] at h; exact absurd rfl h
theorem rfirst_form {x : UInt8} {l : List UInt8} (h : (rfirst (x :: l)).2 ≠ 0) : (x.toNat < 128 ∧ (rfirst (x :: l)).2 = 1) ∨ (192 ≤ x.toNat ∧ (rfirst (x :: l)).2 = lead x ∧ 2 ≤ lead x ∧ lead x ≤ l.length + 1 ∧ (l.take (lead x - 1)).all isCont = true) := by
  simp only [rfirst] at h ⊢
  by_cases g1 : x.toNat < 128
  · simp [g1]
  · simp only [g1, if_false] at h ⊢
    have hl : ¬ (lead x < 2 ∨ l.length + 1 < lead x ∨ 248 ≤ x.toNat) := by
      intro hc; rw [if_pos hc] at h; exact h rfl
    rw [if_neg hl] at h ⊢
    by_cases g3 : ((l.take (lead x - 1)).all isCont) = true
    · rw [if_pos g3] at h ⊢
      by_cases g4 : runeSign (accB (headR x) (l.take (lead x - 1))) = true ∧ runeSize (accB (headR x) (l.take (lead x - 1))) = lead x
      · rw [if_pos g4]
        refine .inr ⟨?_, rfl, by omega, by omega, g3⟩
        rcases lead_cases x with h2 | h2 | h2 | h2 | h2 <;> omega
      · rw [if_neg g4] at h; exact absurd rfl h
    · rw [if_neg g3] at h; exact absurd rfl h
/-- Within a sign none begins. -/
theorem rfirst_mid {b : List UInt8} {m : Nat} (h : (rfirst b).2 ≠ 0) (h1 : 1 ≤ m) (hm : (m : Int) < (rfirst b).2) : (rfirst (b.drop m)).2 = 0 := by
  cases b with
  | nil => exact absurd rfl h
  | cons x l =>
    rcases rfirst_form h with ⟨_, g⟩ | ⟨_, g, g2, g3, g4⟩
    · omega
    · obtain ⟨k, rfl⟩ : ∃ k, m = k + 1 := ⟨m - 1, by omega⟩
      rw [List.drop_succ_cons]
      have hk : k < l.length := by omega
      rw [List.drop_eq_getElem_cons hk]
      have hc : isCont l[k] = true := by
        rw [List.all_eq_true] at g4
        apply g4
        rw [List.mem_take_iff_getElem]
        exact ⟨k, by omega, rfl⟩
      simp only [isCont, Bool.and_eq_true, decide_eq_true_eq] at hc
      simp only [rfirst]
      rw [if_neg (by omega), if_pos]
      left
      rcases lead_cases l[k] with h2 | h2 | h2 | h2 | h2 <;> omega
/-- A part of a sign is none. -/
theorem rfirst_short {b : List UInt8} {m : Nat} (h : (rfirst b).2 ≠ 0) (hm : (m : Int) < (rfirst b).2) : (rfirst (b.take m)).2 = 0 := by
  cases b with
  | nil => exact absurd rfl h
  | cons x l =>
    cases m with
    | zero => rfl
    | succ k =>
      rcases rfirst_form h with ⟨_, g⟩ | ⟨g0, g, g2, g3, g4⟩
      · omega
      · rw [List.take_succ_cons]
        simp only [rfirst]
        rw [if_neg (by omega), if_pos]
        right; left
        rw [List.length_take]; omega

theorem rstop_ge : ∀ (k at' : Nat) (b : List UInt8), at' ≤ rstop k at' b
  | 0, at', b => Nat.le_refl _
  | k + 1, at', b => by
    simp only [rstop]
    split
    · exact Nat.le_refl _
    · have := rstop_ge k (at' + (rfirst b).2.toNat) (b.drop (rfirst b).2.toNat)
      omega
theorem rstop_shift : ∀ (k at' : Nat) (b : List UInt8), rstop k at' b = at' + rstop k 0 b
  | 0, at', b => rfl
  | k + 1, at', b => by
    simp only [rstop]
    split
    · rfl
    · rw [rstop_shift k (at' + (rfirst b).2.toNat), rstop_shift k (0 + (rfirst b).2.toNat)]; omega
theorem rsigns_shift : ∀ (k at' : Nat) (b : List UInt8), rsigns k at' b = (rsigns k 0 b).map fun p => (at' + p.1, p.2)
  | 0, at', b => rfl
  | k + 1, at', b => by
    simp only [rsigns]
    split
    · rfl
    · rw [rsigns_shift k (at' + (rfirst b).2.toNat), rsigns_shift k (0 + (rfirst b).2.toNat)]
      simp [Nat.add_assoc]

theorem stopOf_step {b : List UInt8} (h : (rfirst b).2 ≠ 0) : stopOf b = (rfirst b).2.toNat + stopOf (b.drop (rfirst b).2.toNat) := by
  unfold stopOf
  rw [rstop_step h, rstop_shift]; omega
theorem stopOf_none {b : List UInt8} (h : (rfirst b).2 = 0) : stopOf b = 0 := rstop_stop h _
theorem allOf_step {b : List UInt8} (h : (rfirst b).2 ≠ 0) : allOf b = (0, (rfirst b).1) :: (allOf (b.drop (rfirst b).2.toNat)).map fun p => ((rfirst b).2.toNat + p.1, p.2) := by
  unfold allOf
  rw [rsigns_step h, rsigns_shift _ (0 + _)]
  simp
theorem allOf_none {b : List UInt8} (h : (rfirst b).2 = 0) : allOf b = [] := rsigns_stop h _

theorem wf_step {b : List UInt8} (h : wfB b) (hb : b ≠ []) : (rfirst b).2 ≠ 0 ∧ wfB (b.drop (rfirst b).2.toNat) := by
  have h1 : (rfirst b).2 ≠ 0 := by
    intro hz
    unfold wfB at h
    rw [stopOf_none hz] at h
    exact hb (List.length_eq_zero_iff.1 h.symm)
  refine ⟨h1, ?_⟩
  unfold wfB at *
  rw [stopOf_step h1] at h
  rcases rfirst_bound b with h' | ⟨g1, g2, g3⟩
  · exact absurd h' h1
  · rw [List.length_drop]; omega
theorem wf_cons {b : List UInt8} (h1 : (rfirst b).2 ≠ 0) (h : wfB (b.drop (rfirst b).2.toNat)) : wfB b := by
  unfold wfB at *
  rw [stopOf_step h1, h, List.length_drop]
  rcases rfirst_bound b with h' | ⟨g1, g2, g3⟩
  · exact absurd h' h1
  · omega
theorem wf_bad {b : List UInt8} : badOf b < 0 ↔ wfB b := by
  unfold badOf wfB
  split
  · rename_i h; simp [h]
  · rename_i h; simp [h]
theorem bad_wf {b : List UInt8} (h : wfB b) : badOf b = -1 := if_pos h

theorem wf_app : ∀ (k : Nat) {a b : List UInt8}, a.length ≤ k → wfB a → stopOf (a ++ b) = a.length + stopOf b ∧ (allOf (a ++ b)).length = (allOf a).length + (allOf b).length
  | k, [], b, _, h => by simp [allOf, rsigns]
  | 0, x :: a, b, hk, h => by simp at hk
  | k + 1, x :: a, b, hk, h => by
    obtain ⟨h1, h2⟩ := wf_step h (by simp)
    have e := rfirst_app (b := b) h1
    have h3 : (rfirst ((x :: a) ++ b)).2 ≠ 0 := by rw [e]; exact h1
    rcases rfirst_bound (x :: a) with h' | ⟨g1, g2, g3⟩
    · exact absurd h' h1
    · have hd : ((x :: a) ++ b).drop (rfirst (x :: a)).2.toNat = (x :: a).drop (rfirst (x :: a)).2.toNat ++ b := List.drop_append_of_le_length (by omega)
      have ih := wf_app k (a := (x :: a).drop (rfirst (x :: a)).2.toNat) (b := b) (by rw [List.length_drop]; omega) h2
      rw [stopOf_step h3, allOf_step h3, e, hd, ih.1, allOf_step h1]
      refine ⟨?_, ?_⟩
      · rw [List.length_drop]; omega
      · simp only [List.length_cons, List.length_map, ih.2]; omega

/-- Is a place one where a sign begins, or the end? -/
theorem cut_law : ∀ (k : Nat) {b : List UInt8} {m : Nat}, b.length ≤ k → wfB b → m ≤ b.length →
    ((m = b.length ∨ ∃ p ∈ allOf b, p.1 = m) → wfB (b.take m) ∧ wfB (b.drop m)) ∧ (¬ (m = b.length ∨ ∃ p ∈ allOf b, p.1 = m) → ¬ wfB (b.take m) ∧ (rfirst (b.drop m)).2 = 0)
  | k, [], m, _, h, hm => by
    have : m = 0 := by simp at hm; exact hm
    subst this
    exact ⟨fun _ => ⟨h, h⟩, fun hn => absurd (.inl rfl) hn⟩
  | 0, x :: a, m, hk, h, hm => by simp at hk
  | k + 1, x :: a, m, hk, h, hm => by
    obtain ⟨h1, h2⟩ := wf_step h (by simp)
    rcases rfirst_bound (x :: a) with h' | ⟨g1, g2, g3⟩
    · exact absurd h' h1
    · have hall := allOf_step h1
      by_cases hm0 : m = 0
      · subst hm0
        refine ⟨fun _ => ⟨rfl, by simpa using h⟩, fun hn => absurd (.inr ⟨(0, (rfirst (x :: a)).1), ?_, rfl⟩) hn⟩
        rw [hall]; simp
      · by_cases hmn : (m : Int) < (rfirst (x :: a)).2
        · refine ⟨fun hp => ?_, fun _ => ⟨fun hw => ?_, rfirst_mid h1 (by omega) hmn⟩⟩
          · exfalso
            rcases hp with hp | ⟨p, hp, hpm⟩
            · omega
            · rw [hall] at hp
              rcases List.mem_cons.1 hp with rfl | hp
              · simp only [] at hpm; omega
              · obtain ⟨q, _, rfl⟩ := List.mem_map.1 hp
                simp only [] at hpm; omega
          · have := rfirst_short h1 hmn
            unfold wfB at hw
            rw [stopOf_none this, List.length_take] at hw
            omega
        · have hle : (rfirst (x :: a)).2 ≤ m := by omega
          have e := rfirst_take h1 hle
          have h3 : (rfirst ((x :: a).take m)).2 ≠ 0 := by rw [e]; exact h1
          have hd1 : ((x :: a).take m).drop (rfirst (x :: a)).2.toNat = ((x :: a).drop (rfirst (x :: a)).2.toNat).take (m - (rfirst (x :: a)).2.toNat) := by rw [List.drop_take]
          have hd2 : ((x :: a).drop (rfirst (x :: a)).2.toNat).drop (m - (rfirst (x :: a)).2.toNat) = (x :: a).drop m := by rw [List.drop_drop]; congr 1; omega
          have ih := cut_law k (b := (x :: a).drop (rfirst (x :: a)).2.toNat) (m := m - (rfirst (x :: a)).2.toNat) (by rw [List.length_drop]; omega) h2 (by rw [List.length_drop]; omega)
          have hiff : (m = (x :: a).length ∨ ∃ p ∈ allOf (x :: a), p.1 = m) ↔ (m - (rfirst (x :: a)).2.toNat = ((x :: a).drop (rfirst (x :: a)).2.toNat).length ∨ ∃ p ∈ allOf ((x :: a).drop (rfirst (x :: a)).2.toNat), p.1 = m - (rfirst (x :: a)).2.toNat) := by
            rw [List.length_drop]
            constructor
            · rintro (hp | ⟨p, hp, hpm⟩)
              · left; omega
              · right
                rw [hall] at hp
                rcases List.mem_cons.1 hp with rfl | hp
                · simp only [] at hpm; omega
                · obtain ⟨q, hq, rfl⟩ := List.mem_map.1 hp
                  simp only [] at hpm
                  exact ⟨q, hq, by omega⟩
            · rintro (hp | ⟨p, hp, hpm⟩)
              · left; omega
              · right
                refine ⟨((rfirst (x :: a)).2.toNat + p.1, p.2), ?_, by simp only []; omega⟩
                rw [hall]
                exact List.mem_cons_of_mem _ (List.mem_map.2 ⟨p, hp, rfl⟩)
          rw [hd2] at ih
          refine ⟨fun hp => ?_, fun hp => ?_⟩
          · have := ih.1 (hiff.1 hp)
            refine ⟨wf_cons h3 ?_, this.2⟩
            rw [e, hd1]; exact this.1
          · have := ih.2 (fun hq => hp (hiff.2 hq))
            refine ⟨fun hw => this.1 ?_, this.2⟩
            have := (wf_step hw (by intro hn; rw [hn] at h3; exact h3 rfl)).2
            rw [e, hd1] at this
            exact this

theorem valN_enc {r : Nat} (h : validN r = true) : valN (encB r) = r := by
  simp only [validN, Bool.and_eq_true, decide_eq_true_eq, Bool.not_eq_true', Bool.and_eq_false_iff] at h
  unfold encB encN
  split
  · simp [valN]; omega
  · split
    · simp [valN]; omega
    · split
      · simp [valN]; omega
      · simp [valN]; omega
theorem enc_len (r : Nat) : 1 ≤ (encB r).length ∧ (encB r).length ≤ 4 := by
  unfold encB encN
  (repeat' split) <;> simp
theorem enc_first {r : Nat} (h : validN r = true) : rfirst (encB r) = ((r : Int), ((encB r).length : Int)) := by
  have hl := enc_len r
  have := (enc_iff (encB r) (encB r).length hl.1 hl.2 (Nat.le_refl _)).1 (by rw [List.take_length, valN_enc h]; exact ⟨h, rfl⟩)
  rw [List.take_length, valN_enc h] at this
  exact this
theorem enc_all {r : Nat} (h : validN r = true) : allOf (encB r) = [(0, (r : Int))] ∧ wfB (encB r) := by
  have hl := enc_len r
  have e := enc_first h
  have h1 : (rfirst (encB r)).2 ≠ 0 := by rw [e]; simp only []; omega
  have hd : (encB r).drop (rfirst (encB r)).2.toNat = [] := by rw [e]; simp
  refine ⟨?_, wf_cons h1 (by rw [hd]; rfl)⟩
  rw [allOf_step h1, hd, e]
  rfl
end Go.Proofs.Eng
