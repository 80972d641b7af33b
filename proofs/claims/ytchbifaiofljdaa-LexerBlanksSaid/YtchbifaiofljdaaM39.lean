import Derived.Test.YtchbifaiofljdaaM36
/- Plain laws of texts, sign by sign: joined, cut, encoded. -/
set_option linter.unusedVariables false
set_option linter.unusedSimpArgs false
set_option maxRecDepth 100000
namespace Go.Proofs.Eng
open Go

/-- Well formed: all of it is signs. -/
def wfB (b : List UInt8) : Prop := stopOf b = b.length

theorem rfirst_app {a b : List UInt8} (h : (rfirst a).2 ≠ 0) : rfirst (a ++ b) = rfirst a := by
  cases a with
  | nil => exact absurd rfl h
  | cons x l =>
    simp only [List.cons_append, rfirst] at h ⊢
    by_cases h1 : x.toNat < 128
    · simp only [h1, if_true]
    · simp only [h1, if_false] at h ⊢
      have hl : ¬ (lead x < 2 ∨ l.length + 1 < lead x ∨ 248 ≤ x.toNat) := by
        intro hc; rw [if_pos hc] at h; exact h rfl
      have hl2 : ¬ (lead x < 2 ∨ (l ++ b).length + 1 < lead x ∨ 248 ≤ x.toNat) := by
        rw [List.length_append]; omega
      have ht : (l ++ b).take (lead x - 1) = l.take (lead x - 1) := by
        rw [List.take_append_of_le_length (by omega)]
      rw [if_neg hl, if_neg hl2, ht]
theorem rfirst_take {b : List UInt8} {m : Nat} (h : (rfirst b).2 ≠ 0) (hm : (rfirst b).2 ≤ m) : rfirst (b.take m) = rfirst b := by
  rcases rfirst_bound b with h' | ⟨h1, h2, h3⟩
  · exact absurd h' h
  · -- the first bytes alone decide
    cases b with
    | nil => exact absurd rfl h
    | cons x l =>
      obtain ⟨m, rfl⟩ : ∃ k, m = k + 1 := ⟨m - 1, by omega⟩
      simp only [List.take_succ_cons, rfirst] at h hm ⊢
      by_cases g1 : x.toNat < 128
      · simp only [g1, if_true]
      · simp only [g1, if_false] at h hm ⊢
        have hl : ¬ (lead x < 2 ∨ l.length + 1 < lead x ∨ 248 ≤ x.toNat) := by
          intro hc; rw [if_pos hc] at h; exact h rfl
        rw [if_neg hl] at h hm ⊢
        by_cases g3 : ((l.take (lead x - 1)).all isCont) = true
        · rw [if_pos g3] at h hm ⊢
          by_cases g4 : runeSign (accB (headR x) (l.take (lead x - 1))) = true ∧ runeSize (accB (headR x) (l.take (lead x - 1))) = lead x
          · rw [if_pos g4] at hm ⊢
            simp only [] at hm
            have hl2 : ¬ (lead x < 2 ∨ (l.take m).length + 1 < lead x ∨ 248 ≤ x.toNat) := by
              rw [List.length_take]; omega
            have ht : (l.take m).take (lead x - 1) = l.take (lead x - 1) := by
              rw [List.take_take]; congr 1; omega
            rw [if_neg hl2, ht, if_pos g3, if_pos g4]
          · rw [if_neg g4] at h; exact absurd rfl h
        · rw [if_neg g3] at h; exact absurd rfl h
theorem rfirst_form {x : UInt8} {l : List UInt8} (h : (rfirst (x :: l)).2 ≠ 0) : (x.toNat < 128 ∧ (rfirst (x :: l)).2 = 1) ∨ (192 ≤ x.toNat ∧ (rfirst (x :: l)).2 = lead x ∧ 2 ≤ lead x ∧ lead x ≤ l.length + 1 ∧ (l.take (lead x - 1)).all isCont = true) := by
  simp only [rfirst] at h ⊢
  by_cases g1 : x.toNat < 128
  · simp [g1]
  · simp only [g1, if_false] at h ⊢
    have hl : ¬ (lead x < 2 ∨ l.length + 1 < lead x ∨ 248 ≤ x.toNat) := by
      intro hc; rw [if_pos hc] at h; exact h rfl
    rw [if_neg hl] at h ⊢
    by_cases g3 : ((l.take (lead x - 1)).all isCont) = true
    · rw [if_pos g3] at h ⊢
      by_cases g4 : runeSign (accB (headR x) (l.take (lead x - 1))) = true ∧ runeSize (accB (headR x) (l.take (lead x - 1))) = lead x
      · rw [if_pos g4]
        refine .inr ⟨?_, rfl, by omega, by omega, g3⟩
        rcases lead_cases x with h2 | h2 | h2 | h2 | h2 <;> omega
      · rw [if_neg g4] at h; exact absurd rfl h
    · rw [if_neg g3] at h; exact absurd rfl h
/-- Within a sign none begins. -/
theorem rfirst_mid {b : List UInt8} {m : Nat} (h : (rfirst b).2 ≠ 0) (h1 : 1 ≤ m) (hm : (m : Int) < (rfirst b).2) : (rfirst (b.drop m)).2 = 0 := by
  cases b with
  | nil => exact absurd rfl h
  | cons x l =>
    rcases rfirst_form h with ⟨_, g⟩ | ⟨_, g, g2, g3, g4⟩
    · omega
    · obtain ⟨k, rfl⟩ : ∃ k, m = k + 1 := ⟨m - 1, by omega⟩
      rw [List.drop_succ_cons]
      have hk : k < l.length := by omega
      rw [List.drop_eq_getElem_cons hk]
      have hc : isCont l[k] = true := by
        rw [List.all_eq_true] at g4
        apply g4
        rw [List.mem_take_iff_getElem]
        exact ⟨k, by omega, rfl⟩
      simp only [isCont, Bool.and_eq_true, decide_eq_true_eq] at hc
      simp only [rfirst]
      rw [if_neg (by omega), if_pos]
      left
      rcases lead_cases l[k] with h2 | h2 | h2 | h2 | h2 <;> omega
/-- A part of a sign is none. -/
theorem rfirst_short {b : List UInt8} {m : Nat} (h : (rfirst b).2 ≠ 0) (hm : (m : Int) < (rfirst b).2) : (rfirst (b.take m)).2 = 0 := by
  cases b with
  | nil => exact absurd rfl h
  | cons x l =>
    cases m with
    | zero => rfl
    | succ k =>
      rcases rfirst_form h with ⟨_, g⟩ | ⟨g0, g, g2, g3, g4⟩
      · omega
      · rw [List.take_succ_cons]
        simp only [rfirst]
        rw [if_neg (by omega), if_pos]
        right; left
        rw [List.length_take]; omega

theorem rstop_ge : ∀ (k at' : Nat) (b : List UInt8), at' ≤ rstop k at' b
  | 0, at', b => Nat.le_refl _
  | k + 1, at', b => by
    simp only [rstop]
    split
    · exact Nat.le_refl _
    · have := rstop_ge k (at' + (rfirst b).2.toNat) (b.drop (rfirst b).2.toNat)
      omega
theorem rstop_shift : ∀ (k at' : Nat) (b : List UInt8), rstop k at' b = at' + rstop k 0 b
  | 0, at', b => rfl
  | k + 1, at', b => by
    simp only [rstop]
    split
    · rfl
    · rw [rstop_shift k (at' + (rfirst b).2.toNat), rstop_shift k (0 + (rfirst b).2.toNat)]; omega
theorem rsigns_shift : ∀ (k at' : Nat) (b : List UInt8), rsigns k at' b = (rsigns k 0 b).map fun p => (at' + p.1, p.2)
  | 0, at', b => rfl
  | k + 1, at', b => by
    simp only [rsigns]
    split
    · rfl
    · rw [rsigns_shift k (at' + (rfirst b).2.toNat), rsigns_shift k (0 + (rfirst b).2.toNat)]
      simp [Nat.add_assoc]

theorem stopOf_step {b : List UInt8} (h : (rfirst b).2 ≠ 0) : stopOf b = (rfirst b).2.toNat + stopOf (b.drop (rfirst b).2.toNat) := by
  unfold stopOf
  rw [rstop_step h, rstop_shift]; omega
theorem stopOf_none {b : List UInt8} (h : (rfirst b).2 = 0) : stopOf b = 0 := rstop_stop h _
theorem allOf_step {b : List UInt8} (h : (rfirst b).2 ≠ 0) : allOf b = (0, (rfirst b).1) :: (allOf (b.drop (rfirst b).2.toNat)).map fun p => ((rfirst b).2.toNat + p.1, p.2) := by
  unfold allOf
  rw [rsigns_step h, rsigns_shift _ (0 + _)]
  simp
theorem allOf_none {b : List UInt8} (h : (rfirst b).2 = 0) : allOf b = [] := rsigns_stop h _

theorem wf_step {b : List UInt8} (h : wfB b) (hb : b ≠ []) : (rfirst b).2 ≠ 0 ∧ wfB (b.drop (rfirst b).2.toNat) := by
  have h1 : (rfirst b).2 ≠ 0 := by
    intro hz
    unfold wfB at h
    rw [stopOf_none hz] at h
    exact hb (List.length_eq_zero_iff.1 h.symm)
  refine ⟨h1, ?_⟩
  unfold wfB at *
  rw [stopOf_step h1] at h
  rcases rfirst_bound b with h' | ⟨g1, g2, g3⟩
  · exact absurd h' h1
  · rw [List.length_drop]; omega
theorem wf_cons {b : List UInt8} (h1 : (rfirst b).2 ≠ 0) (h : wfB (b.drop (rfirst b).2.toNat)) : wfB b := by
  unfold wfB at *
  rw [stopOf_step h1, h, List.length_drop]
  rcases rfirst_bound b with h' | ⟨g1, g2, g3⟩
  · exact absurd h' h1
  · omega
theorem wf_bad {b : List UInt8} : badOf b < 0 ↔ wfB b := by
  unfold badOf wfB
  split
  · rename_i h; simp [h]
  · rename_i h; simp [h]
theorem bad_wf {b : List UInt8} (h : wfB b) : badOf b = -1 := if_pos h

theorem wf_app : ∀ (k : Nat) {a b : List UInt8}, a.length ≤ k → wfB a → stopOf (a ++ b) = a.length + stopOf b ∧ (allOf (a ++ b)).length = (allOf a).length + (allOf b).length
  | k, [], b, _, h => by simp [allOf, rsigns]
  | 0, x :: a, b, hk, h => by simp at hk
  | k + 1, x :: a, b, hk, h => by
    obtain ⟨h1, h2⟩ := wf_step h (by simp)
    have e := rfirst_app (b := b) h1
    have h3 : (rfirst ((x :: a) ++ b)).2 ≠ 0 := by rw [e]; exact h1
    rcases rfirst_bound (x :: a) with h' | ⟨g1, g2, g3⟩
    · exact absurd h' h1
    · have hd : ((x :: a) ++ b).drop (rfirst (x :: a)).2.toNat = (x :: a).drop (rfirst (x :: a)).2.toNat ++ b := List.drop_append_of_le_length (by omega)
      have ih := wf_app k (a := (x :: a).drop (rfirst (x :: a)).2.toNat) (b := b) (by rw [List.length_drop]; omega) h2
      rw [stopOf_step h3, allOf_step h3, e, hd, ih.1, allOf_step h1]
      refine ⟨?_, ?_⟩
      · rw [List.length_drop]; omega
      · simp only [List.length_cons, List.length_map, ih.2]; omega

/-- Is a place one where a sign begins, or the end? -/
theorem cut_law : ∀ (k : Nat) {b : List UInt8} {m : Nat}, b.length ≤ k → wfB b → m ≤ b.length →
    ((m = b.length ∨ ∃ p ∈ allOf b, p.1 = m) → wfB (b.take m) ∧ wfB (b.drop m)) ∧ (¬ (m = b.length ∨ ∃ p ∈ allOf b, p.1 = m) → ¬ wfB (b.take m) ∧ (rfirst (b.drop m)).2 = 0)
  | k, [], m, _, h, hm => by
    have : m = 0 := by simp at hm; exact hm
    subst this
    exact ⟨fun _ => ⟨h, h⟩, fun hn => absurd (.inl rfl) hn⟩
  | 0, x :: a, m, hk, h, hm => by simp at hk
  | k + 1, x :: a, m, hk, h, hm => by
    obtain ⟨h1, h2⟩ := wf_step h (by simp)
    rcases rfirst_bound (x :: a) with h' | ⟨g1, g2, g3⟩
    · exact absurd h' h1
    · have hall := allOf_step h1
      by_cases hm0 : m = 0
      · subst hm0
        refine ⟨fun _ => ⟨rfl, by simpa using h⟩, fun hn => absurd (.inr ⟨(0, (rfirst (x :: a)).1), ?_, rfl⟩) hn⟩
        rw [hall]; simp
      · by_cases hmn : (m : Int) < (rfirst (x :: a)).2
        · refine ⟨fun hp => ?_, fun _ => ⟨fun hw => ?_, rfirst_mid h1 (by omega) hmn⟩⟩
          · exfalso
            rcases hp with hp | ⟨p, hp, hpm⟩
            · omega
            · rw [hall] at hp
              rcases List.mem_cons.1 hp with rfl | hp
              · simp only [] at hpm; omega
              · obtain ⟨q, _, rfl⟩ := List.mem_map.1 hp
                simp only [] at hpm; omega
          · have := rfirst_short h1 hmn
            unfold wfB at hw
            rw [stopOf_none this, List.length_take] at hw
            omega
        · have hle : (rfirst (x :: a)).2 ≤ m := by omega
          have e := rfirst_take h1 hle
          have h3 : (rfirst ((x :: a).take m)).2 ≠ 0 := by rw [e]; exact h1
          have hd1 : ((x :: a).take m).drop (rfirst (x :: a)).2.toNat = ((x :: a).drop (rfirst (x :: a)).2.toNat).take (m - (rfirst (x :: a)).2.toNat) := by rw [List.drop_take]
          have hd2 : ((x :: a).drop (rfirst (x :: a)).2.toNat).drop (m - (rfirst (x :: a)).2.toNat) = (x :: a).drop m := by rw [List.drop_drop]; congr 1; omega
          have ih := cut_law k (b := (x :: a).drop (rfirst (x :: a)).2.toNat) (m := m - (rfirst (x :: a)).2.toNat) (by rw [List.length_drop]; omega) h2 (by rw [List.length_drop]; omega)
          have hiff : (m = (x :: a).length ∨ ∃ p ∈ allOf (x :: a), p.1 = m) ↔ (m - (rfirst (x :: a)).2.toNat = ((x :: a).drop (rfirst (x :: a)).2.toNat).length ∨ ∃ p ∈ allOf ((x :: a).drop (rfirst (x :: a)).2.toNat), p.1 = m - (rfirst (x :: a)).2.toNat) := by
            rw [List.length_drop]
            constructor
            · rintro (hp | ⟨p, hp, hpm⟩)
              · left; omega
              · right
                rw [hall] at hp
                rcases List.mem_cons.1 hp with rfl | hp
                · simp only [] at hpm; omega
                · obtain ⟨q, hq, rfl⟩ := List.mem_map.1 hp
                  simp only [] at hpm
                  exact ⟨q, hq, by omega⟩
            · rintro (hp | ⟨p, hp, hpm⟩)
              · left; omega
              · right
                refine ⟨((rfirst (x :: a)).2.toNat + p.1, p.2), ?_, by simp only []; omega⟩
                rw [hall]
                exact List.mem_cons_of_mem _ (List.mem_map.2 ⟨p, hp, rfl⟩)
          rw [hd2] at ih
          refine ⟨fun hp => ?_, fun hp => ?_⟩
          · have := ih.1 (hiff.1 hp)
            refine ⟨wf_cons h3 ?_, this.2⟩
            rw [e, hd1]; exact this.1
          · have := ih.2 (fun hq => hp (hiff.2 hq))
            refine ⟨fun hw => this.1 ?_, this.2⟩
            have := (wf_step hw (by intro hn; rw [hn] at h3; exact h3 rfl)).2
            rw [e, hd1] at this
            exact this

theorem valN_enc {r : Nat} (h : validN r = true) : valN (encB r) = r := by
  simp only [validN, Bool.and_eq_true, decide_eq_true_eq, Bool.not_eq_true', Bool.and_eq_false_iff] at h
  unfold encB encN
  split
  · simp [valN]; omega
  · split
    · simp [valN]; omega
    · split
      · simp [valN]; omega
      · simp [valN]; omega
theorem enc_len (r : Nat) : 1 ≤ (encB r).length ∧ (encB r).length ≤ 4 := by
  unfold encB encN
  (repeat' split) <;> simp
theorem enc_first {r : Nat} (h : validN r = true) : rfirst (encB r) = ((r : Int), ((encB r).length : Int)) := by
  have hl := enc_len r
  have := (enc_iff (encB r) (encB r).length hl.1 hl.2 (Nat.le_refl _)).1 (by rw [List.take_length, valN_enc h]; exact ⟨h, rfl⟩)
  rw [List.take_length, valN_enc h] at this
  exact this
theorem enc_all {r : Nat} (h : validN r = true) : allOf (encB r) = [(0, (r : Int))] ∧ wfB (encB r) := by
  have hl := enc_len r
  have e := enc_first h
  have h1 : (rfirst (encB r)).2 ≠ 0 := by rw [e]; simp only []; omega
  have hd : (encB r).drop (rfirst (encB r)).2.toNat = [] := by rw [e]; simp
  refine ⟨?_, wf_cons h1 (by rw [hd]; rfl)⟩
  rw [allOf_step h1, hd, e]
  rfl
end Go.Proofs.Eng
/- The law LexerNames, run by the engine. -/
set_option linter.unusedVariables false
set_option linter.unusedSimpArgs false
set_option maxRecDepth 100000
namespace Go.Proofs.Eng
open Go
section
variable {Γ : Sums} {A : Tab} {N : Nat → Nat}

theorem rfirst_ascii {c : UInt8} {r : List UInt8} (h : c.toNat < 128) : (rfirst (c :: r)).2 = 1 := by
  simp [rfirst, lead, h]
theorem wf_ascii : ∀ (s : List UInt8), (∀ c ∈ s, c.toNat < 128) → wfB s
  | [], _ => by simp [wfB, stopOf, rstop]
  | c :: r, h => by
    have h1 := rfirst_ascii (r := r) (h c List.mem_cons_self)
    refine wf_cons (by rw [h1]; decide) ?_
    rw [h1]
    exact wf_ascii r fun d hd => h d (List.mem_cons_of_mem _ hd)
theorem inName_small {c : UInt8} (h : isInName c = true) : c.toNat < 128 ∧ c.toNat ≠ 39 ∧ isBlank c = false ∧ c.toNat ≠ 47 := by
  simp only [isInName, isLow, isDigit, Bool.or_eq_true, Bool.and_eq_true, decide_eq_true_eq] at h
  refine ⟨by omega, by omega, ?_, by omega⟩
  simp only [isBlank, Bool.or_eq_false_iff, decide_eq_false_iff_not]
  omega
theorem runB_all {p : UInt8 → Bool} {s : List UInt8} (h : runB p s = s.length) : ∀ c ∈ s, p c = true := by
  have h1 := runB_take p s
  rw [h, List.take_length] at h1
  intro c hc
  rw [h1] at hc
  exact List.all_eq_true.1 List.all_takeWhile c hc
/-- A name is its own only token. -/
theorem lexR_name {s : List UInt8} (h : isNameB s = true) (hl : s.length ≤ 1048576) : lexR s = ([(1, s, 0), (0, [], s.length)], 0, 0) := by
  cases s with
  | nil => simp [isNameB] at h
  | cons c r =>
    simp only [isNameB, List.isEmpty_cons, Bool.not_false, List.head?_cons, Option.map_some, Option.getD_some, Bool.true_and, Bool.and_eq_true, decide_eq_true_eq, Bool.not_eq_true'] at h
    obtain ⟨⟨h1, h2⟩, h3⟩ := h
    have hall := runB_all h2
    have hc := inName_small (hall c List.mem_cons_self)
    have hwf : stopOf (c :: r) = (c :: r).length := wf_ascii _ fun d hd => (inName_small (hall d hd)).1
    have hb : blankB (c :: r) = 0 := by
      rw [blankB_cons, hc.2.2.1]
      have : ([47, 47] : List UInt8).isPrefixOf (c :: r) = false := by
        simp only [List.isPrefixOf]
        have : ((47 : UInt8) == c) = false := by
          rw [beq_eq_false_iff_ne]; rintro rfl; exact hc.2.2.2 rfl
        rw [this]; rfl
      rw [this]; rfl
    have hp : ([102, 39] : List UInt8).isPrefixOf (c :: r) = false := by
      cases r with
      | nil => simp [List.isPrefixOf]
      | cons d r' =>
        have hd := inName_small (hall d (by simp))
        have : ((39 : UInt8) == d) = false := by
          rw [beq_eq_false_iff_ne]; rintro rfl; exact hd.2.1 rfl
        simp [List.isPrefixOf, this]
    have ho : oneB (c :: r) = some (1, c :: r, (c :: r).length) := by
      simp only [oneB, oneC]
      rw [hp, h1, h2, List.take_length, h3]
      simp
    unfold lexR
    rw [if_neg (by omega), if_neg (by simpa using hwf), hb, List.drop_zero, tokR_some (by simp) ho, List.drop_length]
    simp [tokR_nil, blankB_nil]
theorem lexR_isName {s : List UInt8} {q t : Tok} (h : (lexR s).1 = [q, t]) (h1 : q.1 = 1) (h2 : q.2.1 = s) : isNameB s = true := by
  unfold lexR at h
  split at h
  · simp at h
  · split at h
    · simp at h
    · have hble := blankB_le s
      by_cases hs : s.drop (blankB s) = []
      · rw [hs] at h
        simp [tokR_nil] at h
      · cases ho : oneB (s.drop (blankB s)) with
        | none => rw [tokR_none hs ho] at h; simp at h
        | some p =>
          obtain ⟨kd, u, n⟩ := p
          rw [tokR_some hs ho] at h
          have hq : q = (kd, u, blankB s) := by
            split at h
            · rename_i l e; simp only [Prod.mk.injEq] at e; rw [← e.1] at h; simp at h; exact h.1.symm
            · simp at h
          subst hq
          simp only at h1 h2
          subst h1; subst h2
          have hd : ∃ c r, u.drop (blankB u) = c :: r := by
            cases hh : u.drop (blankB u) with
            | nil => exact absurd hh hs
            | cons c r => exact ⟨c, r, rfl⟩
          obtain ⟨c, r, hd⟩ := hd
          rw [hd] at ho
          have hlen := congrArg List.length hd
          simp only [List.length_drop, List.length_cons] at hlen
          have key : isLow c = true ∧ isWordB ((c :: r).take (runB isInName (c :: r))) = false ∧ u = (c :: r).take (runB isInName (c :: r)) := by
            simp only [oneB, oneC] at ho
            split at ho
            · split at ho <;> simp at ho
            · split at ho
              · rename_i hl
                simp only [Option.some.injEq, Prod.mk.injEq] at ho
                refine ⟨hl, ?_, ho.2.1.symm⟩
                cases hw : isWordB ((c :: r).take (runB isInName (c :: r)))
                · rfl
                · rw [hw] at ho; simp at ho
              · split at ho
                · simp at ho
                · split at ho
                  · split at ho <;> simp at ho
                  · split at ho
                    · simp at ho
                    · split at ho
                      · simp only [Option.map_eq_some_iff, Prod.mk.injEq] at ho
                        obtain ⟨_, _, e, _⟩ := ho
                        simp at e
                      · simp only [Option.map_eq_some_iff, Prod.mk.injEq] at ho
                        obtain ⟨_, _, e, _⟩ := ho
                        simp at e
          obtain ⟨k1, k2, k3⟩ := key
          have hrl := runB_le isInName (c :: r)
          have hul := congrArg List.length k3
          rw [List.length_take, Nat.min_eq_left hrl] at hul
          rw [List.length_cons] at hrl
          have hb0 : blankB u = 0 := by omega
          rw [hb0, List.drop_zero] at hd
          rw [hd] at k3
          have hrun : runB isInName (c :: r) = (c :: r).length := by
            have := congrArg List.length k3
            rw [List.length_take, List.length_cons] at this
            rw [List.length_cons]
            omega
          rw [hrun, List.take_length] at k2
          rw [hd]
          simp [isNameB, k1, hrun, k2]
theorem lexR_name_iff {s : List UInt8} (hl : s.length ≤ 1048576) : isNameB s = (decide ((lexR s).2.1 = 0) && decide ((lexR s).1.length = 2) && (((lexR s).1[0]?).map fun t => decide (t.1 = 1) && decide (t.2.1 = s)).getD false) := by
  rw [Bool.eq_iff_iff]
  constructor
  · intro h
    rw [lexR_name h hl]
    simp
  · intro h
    simp only [Bool.and_eq_true, decide_eq_true_eq] at h
    obtain ⟨⟨_, h1⟩, h2⟩ := h
    obtain ⟨q, t, hqt⟩ : ∃ q t, (lexR s).1 = [q, t] := by
      match hh : (lexR s).1, h1 with
      | [q, t], _ => exact ⟨q, t, rfl⟩
    rw [hqt] at h2
    simp at h2
    exact lexR_isName hqt h2.1 h2.2

set_option maxHeartbeats 1000000 in
theorem law_LexerNames (hx1 : LexA Γ A N) (hr : Ref03A Γ A N) (h : Has Γ A (f_law03_LexerNames N) (C_law03_LexerNames N)) (hlives : (lim Γ A).call (f_law03_lives N) [] H00' = some (avBool true, none))
    (s : List UInt8) : ∃ r, (lim Γ A).ent (f_law03_LexerNames N) [avStr s] H00' = some r ∧ r.1 = avBool true := by
  apply h.entP (by rfl)
  by_cases h100 : 100 < s.length
  · have h100' : (100 : Int) < s.length := by omega
    simp [C_law03_LexerNames, hlives, h100']
  · have h100' : ¬ (100 : Int) < s.length := by omega
    have hroom : s.length ≤ roomMax := by simp [roomMax]; omega
    have hL : Loc H00' (halloc H00' (.arr 1 (s.map avByte) (t_uint8 N))) [(0, .arr 1 (s.map avByte) (t_uint8 N))] := (Loc.start H00').alloc (.arr 1 (s.map avByte) (t_uint8 N))
    have hrow := Row.mk (t_uint8 N) 1 0 (s.map avByte)
    have hv := hrow.vw (r := []) hL
    obtain ⟨u, e1, f1⟩ := ref03_Lex_call hr _ hv (by omega)
    rw [List.length_map] at e1
    have hw := fun H => lexer_IsWord_call hx1.toLexO.S s H
    have hw2 := fun H => ref03_IsWord_call hr.toRef03S s (by omega) H
    have hn := fun H => lexer_IsName_call hx1.toLexO.S s (by omega) H
    have hiff := lexR_name_iff (s := s) (by omega)
    have hul := f1.len
    rw [List.length_map] at hul
    simp only [diagV] at e1
    generalize (lexR s).2.1 = er at *
    generalize (lexR s).2.2 = ps at *
    generalize (lexR s).1 = l at *
    by_cases he : er = 0
    · subst he
      by_cases h2 : l.length = 2
      · obtain ⟨q, t, rfl⟩ : ∃ q t, l = [q, t] := by
          match l, h2 with
          | [q, t], _ => exact ⟨q, t, rfl⟩
        have ha := f1.iaddr (k := .i64) (i := 0) (e := tokA q) (by omega) (by simp) rfl
        have ha' : aiaddr 3 u (.lit (.int .i64 0)) = some (.vp [avInt .i64 q.1, avStr q.2.1, avInt .i64 q.2.2]) := ha
        simp at hiff
        by_cases hk : q.1 = 1
        · have hk' : (q.1 : Int) = 1 := by omega
          simp [hk] at hiff
          simp [C_law03_LexerNames, hlives, h100', hroom, e1, hul, ha', aload_ptr, astore, setFrom, hw, hw2, hn, hk', hiff, -Int.natCast_add]
          congr
        · have hk' : ¬ (q.1 : Int) = 1 := by omega
          simp [hk] at hiff
          simp [C_law03_LexerNames, hlives, h100', hroom, e1, hul, ha', aload_ptr, astore, setFrom, hw, hw2, hn, hk', hiff, -Int.natCast_add]
      · have h2' : ¬ (l.length : Int) = 2 := by omega
        simp [h2] at hiff
        simp [C_law03_LexerNames, hlives, h100', hroom, e1, hul, h2', aload_ptr, astore, setFrom, hw, hw2, hn, hiff, -Int.natCast_add]
    · have he' : ¬ (er : Int) = 0 := by omega
      simp [he] at hiff
      simp [C_law03_LexerNames, hlives, h100', hroom, e1, hul, he, aload_ptr, astore, setFrom, hw, hw2, hn, hiff, -Int.natCast_add]
end
end Go.Proofs.Eng
