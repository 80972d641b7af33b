import Derived.Test.YtchbifaiofljdaaM39
/- Plain laws of tokens: what a token was written as; a blank behind it. -/
set_option linter.unusedVariables false
set_option linter.unusedSimpArgs false
set_option maxRecDepth 100000
namespace Go.Proofs.Eng
open Go

def quoteB : List UInt8 → List UInt8
  | [] => []
  | c :: r => if c.toNat = 34 ∨ c.toNat = 92 then 92 :: c :: quoteB r else if c.toNat = 10 then 92 :: 110 :: quoteB r else c :: quoteB r
/-- A token as it is written. -/
def wsrc (t : Tok) : List UInt8 := if t.1 = 3 then 35 :: t.2.1 else if t.1 = 6 then 34 :: (quoteB t.2.1 ++ [34]) else t.2.1

theorem u8_of {c : UInt8} {n : Nat} (h : c.toNat = n) : c = UInt8.ofNat n := by rw [← h]; simp
theorem textB_src : ∀ (s : List UInt8) {t : List UInt8} {n : Nat}, textB s = some (t, n) → quoteB t ++ [34] = s.take n ∧ ∀ y, textB (s.take n ++ y) = some (t, n)
  | [], t, n, h => by simp [textB] at h
  | c :: r, t, n, h => by
    rw [textB_cons] at h
    split at h
    · rename_i h34
      simp only [Option.some.injEq, Prod.mk.injEq] at h
      obtain ⟨rfl, rfl⟩ := h
      have hc := u8_of h34
      subst hc
      refine ⟨rfl, fun y => ?_⟩
      simp [textB_cons]
    · rename_i h34
      split at h
      · simp at h
      · rename_i h32
        split at h
        · rename_i h92
          match r, h with
          | d :: r', h =>
            simp only [] at h
            split at h
            · simp at h
            · rename_i e he
              simp only [Option.map_eq_some_iff, Prod.mk.injEq, Prod.exists] at h
              obtain ⟨t', n', h1, rfl, rfl⟩ := h
              obtain ⟨ih1, ih2⟩ := textB_src r' h1
              have hq : quoteB (e :: t') = c :: d :: quoteB t' := by
                have hc := u8_of h92
                subst hc
                unfold escB at he
                split at he
                · rename_i hd; have := u8_of hd; subst this; simp only [Option.some.injEq] at he; subst he; rfl
                · split at he
                  · rename_i hd; have := u8_of hd; subst this; simp only [Option.some.injEq] at he; subst he; rfl
                  · split at he
                    · rename_i hd; have := u8_of hd; subst this; simp only [Option.some.injEq] at he; subst he; rfl
                    · simp at he
              refine ⟨?_, fun y => ?_⟩
              · rw [hq, List.take_succ_cons, List.take_succ_cons, ← ih1]; rfl
              · rw [List.take_succ_cons, List.take_succ_cons]
                simp only [List.cons_append]
                rw [textB_cons, if_neg h34, if_neg h32, if_pos h92]
                simp only [he, ih2 y, Option.map_some]
        · rename_i h92
          simp only [Option.map_eq_some_iff, Prod.mk.injEq, Prod.exists] at h
          obtain ⟨t', n', h1, rfl, rfl⟩ := h
          obtain ⟨ih1, ih2⟩ := textB_src r h1
          refine ⟨?_, fun y => ?_⟩
          · rw [quoteB, if_neg (by omega), if_neg (by omega), List.take_succ_cons, ← ih1]; rfl
          · rw [List.take_succ_cons]
            simp only [List.cons_append]
            rw [textB_cons, if_neg h34, if_neg h32, if_neg h92, ih2 y]
            rfl

theorem runB_app {p : UInt8 → Bool} {d : UInt8} {a x : List UInt8} (h : ∀ c ∈ a, p c = true) (hd : p d = false) : runB p (a ++ d :: x) = a.length := by
  induction a with
  | nil => exact runB_stop hd
  | cons c a ih =>
    have h1 := h c List.mem_cons_self
    have h2 := ih fun e he => h e (List.mem_cons_of_mem _ he)
    simp only [runB, List.cons_append, List.takeWhile_cons, h1, if_true, List.length_cons] at h2 ⊢
    omega
theorem noFloat {c d : UInt8} {a x : List UInt8} (h : ∀ e ∈ a, e.toNat ≠ 39) (hd : d.toNat ≠ 39) : ([102, 39] : List UInt8).isPrefixOf (c :: (a ++ d :: x)) = false := by
  have key : ∀ e : UInt8, e.toNat ≠ 39 → ((39 : UInt8) == e) = false := by
    intro e he; rw [beq_eq_false_iff_ne]; rintro rfl; exact he rfl
  cases a with
  | nil => simp [List.isPrefixOf, key d hd]
  | cons e a => simp [List.isPrefixOf, key e (h e (by simp))]
theorem blank0 {c : UInt8} {y : List UInt8} (h1 : isBlank c = false) (h2 : c.toNat ≠ 47) : blankB (c :: y) = 0 := by
  rw [blankB_cons, h1]
  have : ((47 : UInt8) == c) = false := by rw [beq_eq_false_iff_ne]; rintro rfl; exact h2 rfl
  simp [List.isPrefixOf, this]
theorem wf_cut {b : List UInt8} {m : Nat} (h : wfB b) (hm : m ≤ b.length) (hd : ∀ c, b[m]? = some c → c.toNat < 128) : wfB (b.take m) ∧ wfB (b.drop m) := by
  have hc := cut_law b.length (b := b) (m := m) (Nat.le_refl _) h hm
  by_cases hp : m = b.length ∨ ∃ p ∈ allOf b, p.1 = m
  · exact hc.1 hp
  · exfalso
    have h0 := (hc.2 hp).2
    have hlt : m < b.length := by
      rcases Nat.lt_or_ge m b.length with h1 | h1
      · exact h1
      · exact absurd (.inl (Nat.le_antisymm hm h1)) hp
    rw [List.drop_eq_getElem_cons hlt] at h0
    have := rfirst_ascii (r := b.drop (m + 1)) (hd b[m] (by simp [hlt]))
    omega
theorem wf_join {a b : List UInt8} (ha : wfB a) (hb : wfB b) : wfB (a ++ b) := by
  unfold wfB
  rw [(wf_app a.length (a := a) (b := b) (Nat.le_refl _) ha).1, hb, List.length_append]
theorem wf_right {a b : List UInt8} (ha : wfB a) (h : wfB (a ++ b)) : wfB b := by
  unfold wfB at h
  rw [(wf_app a.length (a := a) (b := b) (Nat.le_refl _) ha).1, List.length_append] at h
  unfold wfB; omega

theorem sign_facts : ∀ g ∈ signsL, ∀ x, oneB (g ++ 32 :: x) = some (8, g, g.length) ∧ blankB (g ++ 32 :: x) = 0 ∧ oneB (g ++ 10 :: x) = some (8, g, g.length) ∧ ∀ c ∈ g, c.toNat < 128 := by
  have two : ∀ x, blankB (47 :: 46 :: x) = 0 := fun x => by rw [blankB_cons]; rfl
  have onee : ∀ x, blankB (47 :: 32 :: x) = 0 := fun x => by rw [blankB_cons]; rfl
  unfold signsL
  repeat refine List.forall_mem_cons.2 ⟨fun x => ⟨rfl, by first | exact two _ | exact onee _ | exact blank0 rfl (by decide), rfl, by decide⟩, ?_⟩
  intro g hg
  cases hg

structure OneP (s p : List UInt8) (kd : Nat) (t : List UInt8) (n : Nat) : Prop where
  src : ∀ a, wsrc (kd, t, a) = p
  one : ∀ x, oneB (p ++ 32 :: x) = some (kd, t, n)
  blank : ∀ x, blankB (p ++ 32 :: x) = 0
  wf : wfB s → wfB p
  ne0 : kd ≠ 0
  asc : ∀ c r, s = c :: r → c.toNat < 128
def OneF (s : List UInt8) (kd : Nat) (t : List UInt8) (n : Nat) : Prop := OneP s (s.take n) kd t n

theorem oneB_run {p : UInt8 → Bool} {c : UInt8} {r : List UInt8} {kd : Nat} (hc : p c = true) (h32 : p 32 = false) (h39 : ∀ e, p e = true → e.toNat ≠ 39 ∧ e.toNat < 128) (hb : isBlank c = false ∧ c.toNat ≠ 47) (hk : kd ≠ 3 ∧ kd ≠ 6 ∧ kd ≠ 0)
    (h : ∀ y, ([102, 39] : List UInt8).isPrefixOf (c :: y) = false → (c :: y).take (runB p (c :: y)) = (c :: r).take (runB p (c :: r)) → oneB (c :: y) = some (kd, (c :: y).take (runB p (c :: y)), runB p (c :: y))) :
    OneF (c :: r) kd ((c :: r).take (runB p (c :: r))) (runB p (c :: r)) := by
  have hall : ∀ e ∈ (c :: r).take (runB p (c :: r)), p e = true := by
    rw [runB_take]; intro e he; exact List.all_eq_true.1 List.all_takeWhile e he
  have hrl := runB_le p (c :: r)
  have hpos := runB_pos (p := p) (c := c) (r := r) hc
  have hlen : ((c :: r).take (runB p (c :: r))).length = runB p (c :: r) := by rw [List.length_take]; omega
  obtain ⟨a, ha⟩ : ∃ a, (c :: r).take (runB p (c :: r)) = c :: a := by
    obtain ⟨m, hm⟩ : ∃ m, runB p (c :: r) = m + 1 := ⟨runB p (c :: r) - 1, by omega⟩
    rw [hm, List.take_succ_cons]; exact ⟨_, rfl⟩
  refine ⟨fun _ => ?_, fun x => ?_, fun x => ?_, fun _ => ?_, hk.2.2, fun c' r' e => by simp only [List.cons.injEq] at e; rw [← e.1]; exact (h39 c hc).2⟩
  · unfold wsrc; rw [if_neg hk.1, if_neg hk.2.1]
  · have hr : runB p ((c :: r).take (runB p (c :: r)) ++ 32 :: x) = runB p (c :: r) := by rw [runB_app hall h32, hlen]
    rw [ha] at hr
    have ht : ((c :: (a ++ 32 :: x)).take (runB p (c :: r))) = (c :: r).take (runB p (c :: r)) := by
      have e1 : c :: (a ++ 32 :: x) = (c :: r).take (runB p (c :: r)) ++ 32 :: x := by rw [ha]; rfl
      rw [e1, List.take_append_of_le_length (by omega), List.take_take, Nat.min_self]
    have e := h (a ++ 32 :: x) (noFloat (fun e he => (h39 e (hall e (by rw [ha]; exact List.mem_cons_of_mem _ he))).1) (by decide)) (by rw [show runB p (c :: (a ++ 32 :: x)) = runB p (c :: r) from hr, ht])
    rw [ha] at ht ⊢
    rw [show runB p (c :: (a ++ 32 :: x)) = runB p (c :: r) from hr, ht] at e
    exact e
  · rw [ha]; exact blank0 hb.1 hb.2
  · exact wf_ascii _ fun e he => (h39 e (hall e he)).2

theorem oneB_src {s : List UInt8} {kd n : Nat} {t : List UInt8} (h : oneB s = some (kd, t, n)) : OneF s kd t n := by
  cases s with
  | nil => simp [oneB] at h
  | cons c r =>
    have h0 := h
    simp only [oneB, oneC] at h
    split at h
    · rename_i hp
      split at h
      · rename_i hf
        simp only [Option.some.injEq, Prod.mk.injEq] at h
        obtain ⟨rfl, rfl, rfl⟩ := h
        simp only [floatOk, Bool.and_eq_true, decide_eq_true_eq] at hf
        obtain ⟨⟨_, hl⟩, hx⟩ := hf
        obtain ⟨q, hq⟩ := List.isPrefixOf_iff_prefix.1 hp
        rw [← hq] at hl hx ⊢
        simp only [List.cons_append, List.nil_append, List.length_cons, List.drop_succ_cons, List.drop_zero] at hl hx
        have hlq : (q.take 16).length = 16 := by rw [List.length_take]; omega
        have htk : (([102, 39] : List UInt8) ++ q).take 18 = 102 :: 39 :: q.take 16 := rfl
        have hex : ∀ e, isHex e = true → e.toNat < 128 := by
          intro e he
          simp only [isHex, isDigit, Bool.or_eq_true, Bool.and_eq_true, decide_eq_true_eq] at he
          omega
        unfold OneF; rw [htk]
        refine ⟨fun _ => rfl, fun x => ?_, fun x => blank0 rfl (by decide), fun _ => ?_, by omega, fun c' r' e => by simp only [List.cons_append, List.cons.injEq] at e; rw [← e.1]; decide⟩
        · have h2 : (q.take 16 ++ 32 :: x).take 16 = q.take 16 := by rw [List.take_append_of_le_length (by omega), List.take_take, Nat.min_self]
          have hok : floatOk (102 :: 39 :: (q.take 16 ++ 32 :: x)) = true := by
            simp only [floatOk, Bool.and_eq_true, decide_eq_true_eq]
            refine ⟨⟨rfl, ?_⟩, ?_⟩
            · simp only [List.length_cons, List.length_append, hlq]; omega
            · show ((q.take 16 ++ 32 :: x).take 16).all isHex = true
              rw [h2]; exact hx
          show oneB (102 :: 39 :: (q.take 16 ++ 32 :: x)) = _
          simp only [oneB, oneC]
          rw [if_pos (show ([102, 39] : List UInt8).isPrefixOf (102 :: 39 :: (q.take 16 ++ 32 :: x)) = true from by simp [List.isPrefixOf]), if_pos hok]
          simp only [List.take_succ_cons, h2]
        · refine wf_ascii _ fun e he => ?_
          rcases List.mem_cons.1 he with rfl | he
          · decide
          · rcases List.mem_cons.1 he with rfl | he
            · decide
            · exact hex e (List.all_eq_true.1 hx e he)
      · simp at h
    · rename_i hp
      split at h
      · rename_i hlow
        simp only [Option.some.injEq, Prod.mk.injEq] at h
        obtain ⟨hk, rfl, rfl⟩ := h
        have hin : isInName c = true := by simp [isInName, hlow]
        have hs := inName_small hin
        refine oneB_run (p := isInName) hin (by decide) (fun e he => ⟨(inName_small he).2.1, (inName_small he).1⟩) ⟨hs.2.2.1, hs.2.2.2⟩ ?_ ?_
        · split at hk <;> omega
        · intro y hy ht
          simp only [oneB, oneC, hy, hlow, Bool.false_eq_true, if_false, if_true]
          rw [ht, hk]
      · rename_i hlow
        split at h
        · rename_i hhigh
          simp only [Option.some.injEq, Prod.mk.injEq] at h
          obtain ⟨rfl, rfl, rfl⟩ := h
          have hin : isInAlias c = true := by simp [isInAlias, hhigh]
          have hsm : ∀ e, isInAlias e = true → e.toNat ≠ 39 ∧ e.toNat < 128 := by
            intro e he
            simp only [isInAlias, isHigh, isDigit, Bool.or_eq_true, Bool.and_eq_true, decide_eq_true_eq] at he
            omega
          refine oneB_run (p := isInAlias) hin (by decide) hsm ?_ (by omega) ?_
          · simp only [isHigh, Bool.and_eq_true, decide_eq_true_eq] at hhigh
            refine ⟨?_, by omega⟩
            simp only [isBlank, Bool.or_eq_false_iff, decide_eq_false_iff_not]; omega
          · intro y hy ht
            simp only [oneB, oneC, hy, hlow, hhigh, Bool.false_eq_true, if_false, if_true]
        · rename_i hhigh
          split at h
          · rename_i hdig
            split at h
            · rename_i hnum
              simp only [Option.some.injEq, Prod.mk.injEq] at h
              obtain ⟨rfl, rfl, rfl⟩ := h
              have hsm : ∀ e, isDigit e = true → e.toNat ≠ 39 ∧ e.toNat < 128 := by
                intro e he
                simp only [isDigit, Bool.and_eq_true, decide_eq_true_eq] at he
                omega
              refine oneB_run (p := isDigit) hdig (by decide) hsm ?_ (by omega) ?_
              · simp only [isDigit, Bool.and_eq_true, decide_eq_true_eq] at hdig
                refine ⟨?_, by omega⟩
                simp only [isBlank, Bool.or_eq_false_iff, decide_eq_false_iff_not]; omega
              · intro y hy ht
                simp only [oneB, oneC, hy, hlow, hhigh, hdig, Bool.false_eq_true, if_false, if_true]
                rw [ht, if_pos hnum]
            · simp at h
          · rename_i hdig
            split at h
            · rename_i htag
              simp only [Option.some.injEq, Prod.mk.injEq] at h
              obtain ⟨rfl, rfl, rfl⟩ := h
              simp only [Bool.and_eq_true, decide_eq_true_eq] at htag
              have hc := u8_of htag.1
              subst hc
              obtain ⟨d, r', rfl⟩ : ∃ d r', r = d :: r' := by
                cases r with
                | nil => simp at htag
                | cons d r' => exact ⟨d, r', rfl⟩
              have hd : isLow d = true := by simpa using htag.2
              have hin : isInName d = true := by simp [isInName, hd]
              have hall : ∀ e ∈ (d :: r').take (runB isInName (d :: r')), isInName e = true := by
                rw [runB_take]; intro e he; exact List.all_eq_true.1 List.all_takeWhile e he
              have hrl := runB_le isInName (d :: r')
              have hpos := runB_pos (p := isInName) (c := d) (r := r') hin
              have hlen : ((d :: r').take (runB isInName (d :: r'))).length = runB isInName (d :: r') := by rw [List.length_take]; omega
              have htk : ((UInt8.ofNat 35) :: d :: r').take (1 + runB isInName (d :: r')) = 35 :: (d :: r').take (runB isInName (d :: r')) := by rw [Nat.add_comm, List.take_succ_cons]; rfl
              unfold OneF; rw [htk]
              generalize runB isInName (d :: r') = m at *
              obtain ⟨a, ha⟩ : ∃ a, (d :: r').take m = d :: a := by
                obtain ⟨k, hk⟩ : ∃ k, m = k + 1 := ⟨m - 1, by omega⟩
                rw [hk, List.take_succ_cons]; exact ⟨_, rfl⟩
              refine ⟨fun _ => rfl, fun x => ?_, fun x => blank0 rfl (by decide), fun _ => ?_, by omega, fun c' r' e => by simp only [List.cons.injEq] at e; rw [← e.1]; decide⟩
              · have hr : runB isInName ((d :: r').take m ++ 32 :: x) = m := by rw [runB_app hall (by decide), hlen]
                have ht : (((d :: r').take m ++ 32 :: x)).take m = (d :: r').take m := by
                  rw [List.take_append_of_le_length (by omega), List.take_take, Nat.min_self]
                rw [ha] at hr ht ⊢
                simp only [List.cons_append] at hr ht ⊢
                simp only [oneB, oneC]
                rw [if_neg (by simp [List.isPrefixOf]), if_neg (by decide), if_neg (by decide), if_neg (by decide), if_pos (by simp [hd]), hr, ht]
              · refine wf_ascii _ fun e he => ?_
                rcases List.mem_cons.1 he with rfl | he
                · decide
                · exact (inName_small (hall e he)).1
            · rename_i htag
              split at h
              · rename_i h34
                simp only [Option.map_eq_some_iff, Prod.mk.injEq, Prod.exists] at h
                obtain ⟨t', n', h1, rfl, rfl, rfl⟩ := h
                have hc := u8_of h34
                subst hc
                obtain ⟨s1, s2⟩ := textB_src r h1
                have hn := textB_le r h1
                have htk : ((UInt8.ofNat 34) :: r).take (n' + 1) = 34 :: r.take n' := rfl
                unfold OneF; rw [htk]
                refine ⟨fun _ => ?_, fun x => ?_, fun x => blank0 rfl (by decide), fun hw => ?_, by omega, fun c' r' e => by simp only [List.cons.injEq] at e; rw [← e.1]; decide⟩
                · rw [← s1]; rfl
                · simp only [List.cons_append, oneB, oneC]
                  rw [if_neg (by simp [List.isPrefixOf]), if_neg (by decide), if_neg (by decide), if_neg (by decide), if_neg (by simp), if_pos (by decide), s2]
                  rfl
                · -- the text is cut behind a quote
                  have h0w : wfB r := wf_right (a := [UInt8.ofNat 34]) (wf_ascii _ (by decide)) (by simpa using hw)
                  refine wf_join (a := [34]) (wf_ascii _ (by decide)) ?_
                  rw [← s1]
                  have hcut := wf_cut (b := r) (m := n' - 1) h0w (by omega) (fun e he => by
                    have hx : (r.take n')[n' - 1]? = some e := by rw [List.getElem?_take, if_pos (by omega)]; exact he
                    rw [← s1] at hx
                    have hl := congrArg List.length s1
                    rw [List.length_append, List.length_take, List.length_singleton] at hl
                    rw [List.getElem?_append_right (by omega), show n' - 1 - (quoteB t').length = 0 from by omega] at hx
                    simp only [List.getElem?_cons_zero, Option.some.injEq] at hx
                    rw [← hx]; decide)
                  have hl := congrArg List.length s1
                  rw [List.length_append, List.length_take, List.length_singleton] at hl
                  have hq : r.take (n' - 1) = quoteB t' := by
                    have := congrArg (List.take (n' - 1)) s1
                    rw [List.take_take, Nat.min_eq_left (by omega), List.take_append_of_le_length (by omega), List.take_of_length_le (by omega)] at this
                    exact this.symm
                  rw [hq] at hcut
                  exact wf_join hcut.1 (wf_ascii _ (by decide))
              · rename_i h34
                simp only [Option.map_eq_some_iff, Prod.mk.injEq] at h
                obtain ⟨g, hg, rfl, rfl, rfl⟩ := h
                have hm := List.mem_of_find?_eq_some hg
                have hpre := List.find?_some hg
                have htk : (c :: r).take g.length = g := (List.prefix_iff_eq_take.1 (List.isPrefixOf_iff_prefix.1 hpre)).symm
                unfold OneF; rw [htk]
                have hf := sign_facts g hm
                refine ⟨fun _ => rfl, fun x => (hf x).1, fun x => (hf x).2.1, fun _ => wf_ascii _ (hf []).2.2.2, by omega, fun c' r' e => ?_⟩
                rw [e] at htk
                cases g with
                | nil => exact absurd hm (by decide)
                | cons a g' =>
                  simp only [List.length_cons, List.take_succ_cons, List.cons.injEq] at htk
                  exact (hf []).2.2.2 c' (by rw [htk.1]; exact List.mem_cons_self)
end Go.Proofs.Eng
/- The law LexerWrites. -/
set_option linter.unusedVariables false
set_option linter.unusedSimpArgs false
set_option maxRecDepth 100000
namespace Go.Proofs.Eng
open Go

def wr (l : List Tok) : List UInt8 := l.flatMap fun t => wsrc t ++ [32]
theorem wr_cons (t : Tok) (l : List Tok) : wr (t :: l) = wsrc t ++ 32 :: wr l := by simp [wr]
theorem wr_snoc (l : List Tok) (t : Tok) : wr (l ++ [t]) = wr l ++ (wsrc t ++ [32]) := by simp [wr]
def kt (t : Tok) : Nat × List UInt8 := (t.1, t.2.1)

theorem tok_head {s : List UInt8} {a : Nat} (h : (tokR a s).2 = none) : ∀ c r, s = c :: r → c.toNat < 128 := by
  intro c r e
  have hs : s ≠ [] := by rw [e]; simp
  cases ho : oneB s with
  | none => rw [tokR_none hs ho] at h; simp at h
  | some q => exact (oneB_src (kd := q.1) (t := q.2.1) (n := q.2.2) ho).asc c r e
theorem wf_rest {y : List UInt8} {a m : Nat} (hw : wfB y) (hm : m ≤ y.length) (h : (tokR a (y.drop m)).2 = none) : wfB (y.drop m) := by
  refine (wf_cut hw hm fun c hc => ?_).2
  have hlt : m < y.length := (List.getElem?_eq_some_iff.1 hc).1
  have hc' : y[m] = c := (List.getElem?_eq_some_iff.1 hc).2
  refine tok_head h c (y.drop (m + 1)) ?_
  rw [List.drop_eq_getElem_cons hlt, hc']

theorem writes_back : ∀ (k : Nat) (s : List UInt8) (a : Nat) (l : List Tok), s.length ≤ k → tokR a s = (l, none) → wfB s →
    wfB (wr l) ∧ (wr l).length ≤ 2 * s.length + 1 ∧ ∀ pos, ∃ m, tokR (pos + blankB (wr l)) ((wr l).drop (blankB (wr l))) = (m, none) ∧ m.map kt = l.map kt
  | k, [], a, l, hk, h, hw => by
    rw [tokR_nil] at h
    simp only [Prod.mk.injEq, and_true] at h
    subst h
    have hb : blankB (wr [((0, [], a) : Tok)]) = 1 := by
      show blankB [32] = 1
      rw [blankB_cons, blankB_nil]; rfl
    refine ⟨wf_ascii _ (by intro c hc; simp [wr, wsrc] at hc; rw [hc]; decide), by simp [wr, wsrc], fun pos => ⟨[(0, [], pos + 1)], ?_, rfl⟩⟩
    rw [hb]; exact rfl
  | 0, c :: r, a, l, hk, h, hw => by simp at hk
  | k + 1, c :: r, a, l, hk, h, hw => by
    cases ho : oneB (c :: r) with
    | none => rw [tokR_none (by simp) ho] at h; simp at h
    | some q =>
      obtain ⟨kd, t, n⟩ := q
      have hp := oneB_pos ho
      have F := oneB_src ho
      rw [tokR_some (by simp) ho] at h
      simp only [Prod.mk.injEq] at h
      obtain ⟨rfl, h2⟩ := h
      have w1 := F.wf hw
      have w2 : wfB ((c :: r).drop n) := wf_right w1 (by rw [List.take_append_drop]; exact hw)
      have hble := blankB_le ((c :: r).drop n)
      have w3 := wf_rest w2 hble h2
      have hlen : (((c :: r).drop n).drop (blankB ((c :: r).drop n))).length ≤ (c :: r).length - n := by simp only [List.length_drop]; omega
      obtain ⟨l', hl'⟩ : ∃ l', tokR (a + n + blankB ((c :: r).drop n)) (((c :: r).drop n).drop (blankB ((c :: r).drop n))) = (l', none) := ⟨_, Prod.ext rfl h2⟩
      obtain ⟨i1, i2, i3⟩ := writes_back k _ _ _ (by omega) hl' w3
      simp only [hl']
      have hpl : ((c :: r).take n).length = n := by rw [List.length_take]; omega
      have hwr : wr ((kd, t, a) :: l') = (c :: r).take n ++ 32 :: wr l' := by rw [wr_cons, F.src]
      have hb0 : blankB (wr ((kd, t, a) :: l')) = 0 := by rw [hwr]; exact F.blank _
      have hne : wr ((kd, t, a) :: l') ≠ [] := by rw [hwr]; simp
      have ho2 : oneB (wr ((kd, t, a) :: l')) = some (kd, t, n) := by rw [hwr]; exact F.one _
      have hdr : (wr ((kd, t, a) :: l')).drop n = 32 :: wr l' := by rw [hwr, List.drop_append_of_le_length (by omega), List.drop_of_length_le (by omega)]; rfl
      have hb1 : blankB (32 :: wr l') = 1 + blankB (wr l') := by rw [blankB_cons]; rfl
      refine ⟨?_, ?_, fun pos => ?_⟩
      · rw [hwr]; exact wf_join w1 (wf_join (a := [32]) (wf_ascii _ (by decide)) i1)
      · rw [hwr, List.length_append, List.length_cons]; omega
      · obtain ⟨m, m1, m2⟩ := i3 (pos + n + 1)
        refine ⟨(kd, t, pos) :: m, ?_, by simp [kt, m2]⟩
        rw [hb0, List.drop_zero, tokR_some hne ho2, hdr, hb1, show (32 :: wr l').drop (1 + blankB (wr l')) = (wr l').drop (blankB (wr l')) from by rw [Nat.add_comm]; rfl,
          show pos + 0 + n + (1 + blankB (wr l')) = pos + n + 1 + blankB (wr l') from by omega, m1]
        rfl

theorem lexR_ok {b : List UInt8} {l : List Tok} {p : Nat} (h : lexR b = (l, 0, p)) : wfB b ∧ tokR (blankB b) (b.drop (blankB b)) = (l, none) := by
  unfold lexR at h
  split at h
  · simp at h
  · split at h
    · simp at h
    · rename_i h1 h2
      refine ⟨Classical.byContradiction fun hn => h2 hn, ?_⟩
      split at h
      · rename_i l' e; simp only [Prod.mk.injEq] at h; rw [e, h.1]
      · simp at h
theorem lexR_of {b : List UInt8} {l : List Tok} (h1 : b.length ≤ 1048576) (h2 : wfB b) (h3 : tokR (blankB b) (b.drop (blankB b)) = (l, none)) : lexR b = (l, 0, 0) := by
  unfold lexR
  rw [if_neg (by omega), if_neg (fun hn => hn h2), h3]
theorem lexR_writes {b : List UInt8} {l : List Tok} {p : Nat} (hl : b.length ≤ 500) (h : lexR b = (l, 0, p)) : (wr l).length ≤ 1001 ∧ ∃ m, lexR (wr l) = (m, 0, 0) ∧ m.map kt = l.map kt := by
  obtain ⟨h1, h2⟩ := lexR_ok h
  have hb := blankB_le b
  obtain ⟨i1, i2, i3⟩ := writes_back _ _ _ _ (Nat.le_refl _) h2 (wf_rest h1 hb (by rw [h2]))
  obtain ⟨m, m1, m2⟩ := i3 0
  rw [List.length_drop] at i2
  rw [Nat.zero_add] at m1
  exact ⟨by omega, m, lexR_of (by omega) i1 m1, m2⟩
theorem lexR_err {b : List UInt8} (h : (lexR b).2.1 ≠ 0) : (lexR b).1 = [] := by
  unfold lexR at h ⊢
  split
  · rfl
  · split
    · rfl
    · rename_i h1 h2
      rw [if_neg h1, if_neg h2] at h
      split
      · rename_i l e; rw [e] at h; simp at h
      · rfl

section
variable {Γ : Sums} {A : Tab} {N : Nat → Nat}

theorem Row.pushes {e e' : TypeId} {sz bytes : Nat} {x : AV} {es ys : List AV} {os r : List (Nat × AObj)} {H0 H : Hp} (h : Row e sz x es os) (hl : Loc H0 H (os ++ r)) (hy : ys ≠ []) (hb : (es.length + ys.length) * bytes ≤ roomMax) (hg : ys.all (fun y => y.good && y.cells.length == sz) = true) :
    asElems (halloc H (.arr sz ys e')) (.ra sz H.l.length 0 ys.length) = some ys ∧
    ∃ v H' os', appendOn (halloc H (.arr sz ys e')) e sz bytes x ys = some (v, some H') ∧ Row e sz v (es ++ ys) os' ∧ Loc H0 H' (os' ++ r) := by
  refine ⟨by simp [asElems], ?_⟩
  have hL1 := (hl.alloc (.arr sz ys e')).perm (os' := os ++ (H.l.length, .arr sz ys e') :: r) List.perm_middle.symm
  obtain ⟨v, H', os', a1, a2, a3⟩ := h.append (bytes := bytes) (ys := ys) hL1 hy (by simpa using hb) (by simpa using hg)
  refine ⟨v, H', os', a1, a2, a3.sub (List.Sublist.append (List.Sublist.refl _) ((List.Sublist.refl _).cons _))⟩

theorem quoteB_take (s : List UInt8) (i : Nat) (hi : i < s.length) : quoteB (s.take (i + 1)) = quoteB (s.take i) ++ (if s[i].toNat = 34 ∨ s[i].toNat = 92 then [92, s[i]] else if s[i].toNat = 10 then [92, 110] else [s[i]]) := by
  induction s generalizing i with
  | nil => simp at hi
  | cons c r ih =>
    cases i with
    | zero => simp [quoteB]
    | succ i =>
      simp only [List.length_cons, Nat.add_lt_add_iff_right] at hi
      simp only [List.take_succ_cons, quoteB, List.getElem_cons_succ]
      rw [ih i hi]
      split
      · simp
      · split
        · simp
        · simp
theorem quoteB_len : ∀ s : List UInt8, (quoteB s).length ≤ 2 * s.length
  | [] => by simp [quoteB]
  | c :: r => by
    have := quoteB_len r
    unfold quoteB
    split
    · simp only [List.length_cons]; omega
    · split <;> simp only [List.length_cons] <;> omega

theorem lexer_Quote_call (h : Has Γ A (f_lexer_Quote N) (C_lexer_Quote N)) (s : List UInt8) (hs : s.length < 2 ^ 36) (H : Hp) : (lim Γ A).call (f_lexer_Quote N) [avStr s] H = some (avStr (34 :: (quoteB s ++ [34])), none) := by
  obtain ⟨R, hR⟩ : ∃ R : AV × Option Hp → Prop, R = fun r => r = (avStr (34 :: (quoteB s ++ [34])), none) := ⟨_, rfl⟩
  have key : ∃ r, (lim Γ A).call (f_lexer_Quote N) [avStr s] H = some r ∧ R r := by
    apply h.callP (by rfl)
    simp [C_lexer_Quote, fillA, repl, setFrom, chunk]
    refine wp_round (fun k ρ H' => ∃ (i : Nat) (p : AV) (os : List (Nat × AObj)), ρ 0 = avStr s ∧ ρ 3 = p ∧ ρ 7 = avInt .i64 s.length ∧ ρ 8 = avInt .i64 i ∧ i ≤ s.length ∧ Row (t_uint8 N) 1 p ((34 :: quoteB (s.take i)).map avByte) os ∧ Loc H H' (os ++ []) ∧ k = s.length - i) (n := s.length) ?_ ?_
    · refine ⟨0, _, [(H.l.length, .arr 1 [avByte 34] (t_uint8 N))], rfl, rfl, rfl, rfl, by omega, ?_, ?_, rfl⟩
      · exact .inr ⟨H.l.length, by simp [quoteB], by simp [quoteB]⟩
      · exact (Loc.start H).alloc _
    · rintro k ρ H' ⟨i, p, os, h0, h3, h7, h8, hi, hp, hL, rfl⟩
      have hql := quoteB_len (s.take i)
      rw [List.length_take] at hql
      by_cases hlt : i < s.length
      · have hlt' : (i : Int) < s.length := by omega
        have hx := asidx_nat (k := .i64) hlt
        have hq := quoteB_take s i hlt
        have hw : IntKind.wrap .i64 ((i : Int) + 1) = ((i + 1 : Nat) : Int) := by rw [wrap64 (by omega) (by omega)]; omega
        generalize hc : s[i] = c at *
        have push := fun (ys : List UInt8) (hy : ys ≠ []) (hyl : ys.length ≤ 2) => hp.pushes (e' := t_uint8 N) (bytes := 1) (ys := ys.map avByte) hL (by simpa using hy) (by simp [roomMax]; omega) (by simp)
        have fin : ∀ (ys : List UInt8) (v : AV) (H2 : Hp) (os' : List (Nat × AObj)), quoteB (s.take (i + 1)) = quoteB (s.take i) ++ ys → Row (t_uint8 N) 1 v (List.map avByte (34 :: quoteB (List.take i s)) ++ List.map avByte ys) os' → Loc H H2 (os' ++ []) →
            ∃ m, m < s.length - i ∧ ∃ x : Nat, ((i + 1 : Nat) : Int) = (x : Int) ∧ x ≤ s.length ∧ ∃ os, Row (t_uint8 N) 1 v (avByte 34 :: List.map avByte (quoteB (List.take x s))) os ∧ Loc H H2 os ∧ m = s.length - x :=
          fun ys v H2 os' hq q2 q3 => ⟨s.length - (i + 1), by omega, i + 1, rfl, by omega, os', by rw [hq]; simpa using q2, by simpa using q3, rfl⟩
        by_cases c1 : c.toNat = 34 ∨ c.toNat = 92
        · rw [if_pos c1] at hq
          obtain ⟨q0, v, H2, os', q1, q2, q3⟩ := push [92, c] (by simp) (by simp)
          simp only [List.map_cons, List.map_nil, List.length_cons, List.length_nil, Nat.zero_add, Nat.reduceAdd, show avByte 92 = .lit (.int .u8 92) from rfl] at q0 q1
          have fin := fin _ v H2 os' hq q2 q3
          by_cases c34 : c.toNat = 34
          · have c34' : (c.toNat : Int) = 34 := by omega
            simp [L_lexer_Quote_1, h0, h3, h7, h8, hlt', hx, c34', fillA, repl, setFrom, chunk, q0, q1, hw, -Int.natCast_add]
            exact fin
          · have c34' : ¬ (c.toNat : Int) = 34 := by omega
            have c92' : (c.toNat : Int) = 92 := by omega
            simp [L_lexer_Quote_1, h0, h3, h7, h8, hlt', hx, c34', c92', fillA, repl, setFrom, chunk, q0, q1, hw, -Int.natCast_add]
            exact fin
        · rw [if_neg c1] at hq
          have c34' : ¬ (c.toNat : Int) = 34 := by omega
          have c92' : ¬ (c.toNat : Int) = 92 := by omega
          by_cases c10 : c.toNat = 10
          · rw [if_pos c10] at hq
            have c10' : (c.toNat : Int) = 10 := by omega
            obtain ⟨q0, v, H2, os', q1, q2, q3⟩ := push [92, 110] (by simp) (by simp)
            simp only [List.map_cons, List.map_nil, List.length_cons, List.length_nil, Nat.zero_add, Nat.reduceAdd, show avByte 92 = .lit (.int .u8 92) from rfl, show avByte 110 = .lit (.int .u8 110) from rfl] at q0 q1
            have fin := fin _ v H2 os' hq q2 q3
            simp [L_lexer_Quote_1, h0, h3, h7, h8, hlt', hx, c34', c92', c10', fillA, repl, setFrom, chunk, q0, q1, hw, -Int.natCast_add]
            exact fin
          · rw [if_neg c10] at hq
            have c10' : ¬ (c.toNat : Int) = 10 := by omega
            obtain ⟨q0, v, H2, os', q1, q2, q3⟩ := push [c] (by simp) (by simp)
            simp only [List.map_cons, List.map_nil, List.length_cons, List.length_nil, Nat.zero_add, Nat.reduceAdd] at q0 q1
            have fin := fin _ v H2 os' hq q2 q3
            simp [L_lexer_Quote_1, h0, h3, h7, h8, hlt', hx, c34', c92', c10', fillA, repl, setFrom, chunk, q0, q1, hw, -Int.natCast_add]
            exact fin
      · have hlt' : ¬ (i : Int) < s.length := by omega
        have hts : s.take i = s := List.take_of_length_le (by omega)
        rw [hts] at hp
        obtain ⟨q0, v, H2, os', q1, q2, q3⟩ := hp.pushes (e' := t_uint8 N) (bytes := 1) (ys := [avByte 34]) hL (by simp) (by simp [roomMax]; rw [hts] at hql; omega) (by simp)
        simp only [List.length_cons, List.length_nil, Nat.zero_add, show avByte 34 = .lit (.int .u8 34) from rfl] at q0 q1
        have he : (asElems H2 v).bind bytesOf = some (34 :: (quoteB s ++ [34])) := by
          rw [Row.elems q2 q3]
          have : List.map avByte (34 :: quoteB s) ++ [avByte 34] = (34 :: (quoteB s ++ [34])).map avByte := by simp
          rw [this]; exact bytesOf_bytes _
        have hk := settle_keeps (v := avStr (34 :: (quoteB s ++ [34]))) q3.keeps (by simp)
        simp [L_lexer_Quote_1, K_lexer_Quote_1, h0, h3, h7, h8, hlt', fillA, repl, setFrom, chunk, q0, q1, he, hk, -Int.natCast_add]
        rw [hR]
  obtain ⟨r, e, hr⟩ := key
  rw [hR] at hr
  rw [e, hr]

theorem law03_write_call (h : Has Γ A (f_law03_write N) (C_law03_write N)) (hq : Has Γ A (f_lexer_Quote N) (C_lexer_Quote N)) (t : Tok) (hs : t.2.1.length < 2 ^ 36) (H : Hp) : (lim Γ A).call (f_law03_write N) [tokA t] H = some (avStr (wsrc t), none) := by
  have hqc := fun H => lexer_Quote_call hq t.2.1 hs H
  apply h.call (by rfl)
  have hk := fun (v : List UInt8) (o : AObj) => settle_keeps (H := H) (v := avStr v) ((Loc.start H).alloc o).keeps (by simp)
  by_cases h3 : t.1 = 3
  · have h3' : (t.1 : Int) = 3 := by omega
    have hadd : ([35] : List UInt8).length + t.2.1.length < 4611686018427387904 := by simp; omega
    have hst := abin_strAdd (s := mkS [35]) (t := mkS t.2.1) (by simpa using hadd)
    simp [C_law03_write, tokA, tokV, wsrc, aload_ptr, h3, h3', hst, hk]
  · have h3' : ¬ (t.1 : Int) = 3 := by omega
    by_cases h6 : t.1 = 6
    · have h6' : (t.1 : Int) = 6 := by omega
      simp [C_law03_write, tokA, tokV, wsrc, aload_ptr, h3, h3', h6, h6', hqc, hk]
    · have h6' : ¬ (t.1 : Int) = 6 := by omega
      simp [C_law03_write, tokA, tokV, wsrc, aload_ptr, h3, h3', h6, h6', hk]

theorem tok_len : ∀ (k : Nat) (a : Nat) (s : List UInt8), ∀ t ∈ (tokF k a s).1, t.2.1.length ≤ s.length
  | 0, a, s => by simp [tokF]
  | k + 1, a, s => by
    intro t ht
    simp only [tokF] at ht
    split at ht
    · simp at ht; subst ht; simp
    · cases ho : oneB s with
      | none => rw [ho] at ht; simp at ht
      | some q =>
        obtain ⟨kd, u, n⟩ := q
        rw [ho] at ht
        simp only [List.mem_cons] at ht
        have F := oneB_src ho
        rcases ht with rfl | ht
        · have h1 := congrArg List.length (F.src 0)
          rw [List.length_take] at h1
          have h2 : u.length ≤ (wsrc (kd, u, 0)).length := by
            have := quoteB_len u
            have hq : ∀ u : List UInt8, u.length ≤ (quoteB u).length := by
              intro u
              induction u with
              | nil => simp
              | cons c r ih => unfold quoteB; split <;> (try split) <;> simp only [List.length_cons] <;> omega
            have := hq u
            unfold wsrc
            simp only
            split
            · simp
            · split
              · simp only [List.length_cons, List.length_append]; omega
              · exact Nat.le_refl _
          simp only
          omega
        · have := tok_len k _ _ t ht
          simp only [List.length_drop] at this
          omega
theorem lexR_tok_len (b : List UInt8) : ∀ t ∈ (lexR b).1, t.2.1.length ≤ b.length := by
  unfold lexR
  split
  · simp
  · split
    · simp
    · intro t ht
      split at ht
      · rename_i l e
        have h1 : t ∈ (tokR (blankB b) (b.drop (blankB b))).1 := by rw [e]; exact ht
        have := tok_len _ _ _ t h1
        rw [List.length_drop] at this
        omega
      · simp at ht

theorem law_LexerWrites (hx1 : LexA Γ A N) (hw : Has Γ A (f_law03_write N) (C_law03_write N)) (hq : Has Γ A (f_lexer_Quote N) (C_lexer_Quote N)) (h : Has Γ A (f_law03_LexerWrites N) (C_law03_LexerWrites N)) (hlives : (lim Γ A).call (f_law03_lives N) [] H00' = some (avBool true, none))
    (x : AV) (b : List UInt8) (hx : IsBytes x b) : ∃ r, (lim Γ A).ent (f_law03_LexerWrites N) [x] H00' = some r ∧ r.1 = avBool true := by
  apply h.entP (by rfl)
  have hlen := hx.len
  rw [List.length_map] at hlen
  by_cases h500 : 500 < b.length
  · have h500' : (500 : Int) < b.length := by omega
    simp [C_law03_LexerWrites, hlives, hlen, h500']
  · have h500' : ¬ (500 : Int) < b.length := by omega
    obtain ⟨u, e1, f1⟩ := lexer_Lex_call hx1 H00' (IsBytes.v hx) (by omega)
    have hl := lexR_len b
    have herr := lexR_err (b := b)
    have htl := lexR_tok_len b
    have hwb := fun l p (e : lexR b = (l, 0, p)) => lexR_writes (by omega) e
    obtain ⟨l, er, ps, hR⟩ : ∃ l er ps, lexR b = (l, er, ps) := ⟨_, _, _, rfl⟩
    simp only [hR, diagV] at e1 f1 hl herr htl
    have hul := f1.len
    rw [List.length_map] at hul
    by_cases he : er = 0
    · subst he
      obtain ⟨w1, m, w2, w3⟩ := hwb l ps hR
      simp [C_law03_LexerWrites, hlives, hlen, h500', e1, aload_ptr, astore, setFrom, hul, -Int.natCast_add]
      refine wp_round (fun k ρ H' => ∃ (i : Nat) (os : List (Nat × AObj)), ρ 3 = u ∧ ρ 5 = avStr (wr (l.take i)) ∧ ρ 30 = u ∧ ρ 31 = avInt .i64 l.length ∧ ρ 32 = avInt .i64 i ∧ i ≤ l.length ∧ Loc H00' H' os ∧ k = l.length - i) (n := l.length) ?_ ?_
      · refine ⟨0, [(0, _)], rfl, rfl, rfl, rfl, rfl, by omega, ((Loc.start H00').alloc _).set _, rfl⟩
      · rintro k ρ H' ⟨i, os, r3, r5, r30, r31, r32, hi, hL, rfl⟩
        by_cases hlt : i < l.length
        · have hlt' : (i : Int) < l.length := by omega
          have ha : aiaddr 3 u (.lit (.int .i64 i)) = some (.vp [avInt .i64 (l[i]).1, avStr (l[i]).2.1, avInt .i64 (l[i]).2.2]) :=
            f1.iaddr (k := .i64) (i := (i : Int)) (e := tokA l[i]) (by omega) (by simp [hlt]) rfl
          have hwc := fun H => law03_write_call hw hq l[i] (by have := htl l[i] (List.getElem_mem _); omega) H
          have htk : l.take (i + 1) = l.take i ++ [l[i]] := by rw [List.take_add_one]; simp [hlt]
          have hws : wr (l.take (i + 1)) = wr (l.take i) ++ (wsrc l[i] ++ [32]) := by rw [htk, wr_snoc]
          have hwl : (wr (l.take (i + 1))).length ≤ 1001 := by
            have : wr l = wr (l.take (i + 1)) ++ wr (l.drop (i + 1)) := by unfold wr; rw [← List.flatMap_append, List.take_append_drop]
            rw [this, List.length_append] at w1; omega
          rw [hws, List.length_append] at hwl
          have hA1 : abin .add (avStr (wsrc l[i])) (avStr [32]) = some (avStr (wsrc l[i] ++ [32])) := by
            have := abin_strAdd (s := mkS (wsrc l[i])) (t := mkS [32]) (by simp only [bl_mkS]; rw [List.length_append] at hwl; omega)
            simpa using this
          have hA2 : abin .add (avStr (wr (l.take i))) (avStr (wsrc l[i] ++ [32])) = some (avStr (wr (l.take (i + 1)))) := by
            have := abin_strAdd (s := mkS (wr (l.take i))) (t := mkS (wsrc l[i] ++ [32])) (by simp only [bl_mkS]; omega)
            rw [hws]; simpa using this
          have hL1 := (hL.alloc (.cells [.lit (.int .i64 0), .lit (.string (mkS [])), .lit (.int .i64 0)] (t_api_Token N))).set (.cells [avInt .i64 (l[i]).1, avStr (l[i]).2.1, avInt .i64 (l[i]).2.2] (t_api_Token N))
          simp only [tokA, tokV] at hwc
          generalize l[i] = t at *
          have hwi : IntKind.wrap .i64 ((i : Int) + 1) = ((i + 1 : Nat) : Int) := by rw [wrap64 (by omega) (by omega)]; omega
          simp [L_law03_LexerWrites_1, r3, r5, r30, r31, r32, hlt', ha, loadC, aload_ptr, astore_ptr', setFrom, hwc, hA1, hA2, hwi, -Int.natCast_add]
          exact ⟨l.length - (i + 1), by omega, i + 1, rfl, rfl, by omega, ⟨_, hL1⟩, rfl⟩
        · have hlt' : ¬ (i : Int) < l.length := by omega
          rw [List.take_of_length_le (by omega)] at r5
          have hroom : (wr l).length ≤ roomMax := by simp [roomMax]; omega
          have hL1 := hL.alloc (.arr 1 ((wr l).map avByte) (t_uint8 N))
          have hv := (Row.mk (t_uint8 N) 1 H'.l.length ((wr l).map avByte)).vw (r := os) hL1
          obtain ⟨u2, e2, f2⟩ := lexer_Lex_call hx1 _ hv (by omega)
          rw [w2] at e2 f2
          rw [List.length_map] at e2
          simp only [diagV] at e2 f2
          have hul2 := f2.len
          have hml : m.length = l.length := by have := congrArg List.length w3; simpa using this
          rw [List.length_map, hml] at hul2
          simp [L_law03_LexerWrites_1, K_law03_LexerWrites_1, r3, r5, r30, r31, r32, hlt', hroom, e2, aload_ptr, astore_ptr', setFrom, hul, hul2, -Int.natCast_add]
          refine wp_round (fun k ρ H2 => H2 = H2 ∧ ∃ (j : Nat), ρ 3 = u ∧ ρ 8 = u2 ∧ ρ 59 = avInt .i64 l.length ∧ ρ 60 = avInt .i64 j ∧ j ≤ l.length ∧ k = l.length - j) (n := l.length) ?_ ?_
          · exact ⟨rfl, 0, r3, rfl, rfl, rfl, by omega, rfl⟩
          · rintro k ρ H2 ⟨_, j, r3, r8, r59, r60, hj, rfl⟩
            by_cases hjl : j < l.length
            · have hjl' : (j : Int) < l.length := by omega
              have ha : aiaddr 3 u (.lit (.int .i64 j)) = some (.vp [avInt .i64 (l[j]).1, avStr (l[j]).2.1, avInt .i64 (l[j]).2.2]) :=
                f1.iaddr (k := .i64) (i := (j : Int)) (e := tokA l[j]) (by omega) (by simp [hjl]) rfl
              have hjm : j < m.length := by omega
              have ha2 : aiaddr 3 u2 (.lit (.int .i64 j)) = some (.vp [avInt .i64 (m[j]).1, avStr (m[j]).2.1, avInt .i64 (m[j]).2.2]) :=
                f2.iaddr (k := .i64) (i := (j : Int)) (e := tokA m[j]) (by omega) (by simp [hjm]) rfl
              have hkt : kt m[j] = kt l[j] := by
                have := congrArg (fun y => y[j]?) w3
                simpa [hjl, hjm] using this
              simp only [kt, Prod.mk.injEq] at hkt
              rw [hkt.1, hkt.2] at ha2
              have hwi : IntKind.wrap .i64 ((j : Int) + 1) = ((j + 1 : Nat) : Int) := by rw [wrap64 (by omega) (by omega)]; omega
              simp [L_law03_LexerWrites_2, r3, r8, r59, r60, hjl', ha, ha2, hwi, -Int.natCast_add]
              exact ⟨l.length - (j + 1), by omega, j + 1, rfl, by omega, rfl⟩
            · have hjl' : ¬ (j : Int) < l.length := by omega
              simp [L_law03_LexerWrites_2, K_law03_LexerWrites_2, r3, r8, r59, r60, hjl', -Int.natCast_add]
    · have he' : ¬ (er : Int) = 0 := by omega
      rw [herr he] at hul
      simp at hul
      simp [C_law03_LexerWrites, hlives, hlen, h500', e1, he, aload_ptr, astore, setFrom, hul, -Int.natCast_add]
end
end Go.Proofs.Eng
/- The law LexerBlanks. -/
set_option linter.unusedVariables false
set_option linter.unusedSimpArgs false
set_option maxRecDepth 100000
namespace Go.Proofs.Eng
open Go

abbrev aheadB : List UInt8 := [9, 32, 47, 47, 32, 110, 111, 116, 101, 10]
abbrev behindT : List UInt8 := [32, 13, 47, 47, 32, 34, 63]
abbrev behindB : List UInt8 := 10 :: behindT

theorem runB_nl {p : UInt8 → Bool} (h : p 10 = false) (s z : List UInt8) : runB p (s ++ 10 :: z) = runB p s := by
  induction s with
  | nil => simp only [List.nil_append]; rw [runB_stop h]; rfl
  | cons c r ih =>
    simp only [runB, List.cons_append, List.takeWhile_cons] at ih ⊢
    cases p c
    · rfl
    · simp only [if_true, List.length_cons, ih]
theorem pre_nl : ∀ (g s z : List UInt8), (∀ c ∈ g, c.toNat ≠ 10) → g.isPrefixOf (s ++ 10 :: z) = g.isPrefixOf s
  | [], s, z, _ => by simp [List.isPrefixOf]
  | a :: g, [], z, h => by
    have : (a == (10 : UInt8)) = false := by rw [beq_eq_false_iff_ne]; rintro rfl; exact h 10 (by simp) rfl
    simp [List.isPrefixOf, this]
  | a :: g, c :: s, z, h => by
    simp only [List.cons_append, List.isPrefixOf]
    rw [pre_nl g s z fun d hd => h d (List.mem_cons_of_mem _ hd)]
theorem blankB_ahead (y : List UInt8) : blankB (aheadB ++ y) = 10 + blankB y := by
  have hr : runB notLine (47 :: 32 :: 110 :: 111 :: 116 :: 101 :: 10 :: y) = 6 := runB_app (a := [47, 32, 110, 111, 116, 101]) (by decide) (by decide)
  have e1 : blankB (10 :: y) = 1 + blankB y := by rw [blankB_cons]; rfl
  show blankB (9 :: 32 :: 47 :: 47 :: 32 :: 110 :: 111 :: 116 :: 101 :: 10 :: y) = _
  rw [blankB_cons, if_pos (by decide), blankB_cons, if_pos (by decide), blankB_cons, if_neg (by decide), if_pos (by simp [List.isPrefixOf]), hr]
  show 1 + (1 + (1 + 6 + blankB (10 :: y))) = _
  rw [e1]; omega
theorem blankB_behind : blankB behindB = 8 := by
  have hr : runB notLine [47, 32, 34, 63] = 4 := by decide
  show blankB [10, 32, 13, 47, 47, 32, 34, 63] = 8
  rw [blankB_cons, if_pos (by decide), blankB_cons, if_pos (by decide), blankB_cons, if_pos (by decide), blankB_cons, if_neg (by decide), if_pos (by simp [List.isPrefixOf]), hr]
  show 1 + (1 + (1 + (1 + 4 + blankB []))) = 8
  rw [blankB_nil]
theorem blankB_nl : ∀ (k : Nat) (s : List UInt8), s.length ≤ k → blankB (s ++ behindB) = if blankB s = s.length then s.length + 8 else blankB s
  | k, [], _ => by simp only [List.nil_append, blankB_behind, blankB_nil]; rfl
  | 0, c :: r, h => by simp at h
  | k + 1, c :: r, h => by
    simp only [List.length_cons] at h
    rw [List.cons_append, blankB_cons, blankB_cons]
    have hpre : ([47, 47] : List UInt8).isPrefixOf (c :: (r ++ behindB)) = ([47, 47] : List UInt8).isPrefixOf (c :: r) := pre_nl [47, 47] (c :: r) behindT (by decide)
    rw [hpre]
    by_cases h1 : isBlank c = true
    · rw [if_pos h1, if_pos h1, blankB_nl k r (by omega)]
      simp only [List.length_cons]
      split <;> split <;> omega
    · rw [if_neg h1, if_neg h1]
      by_cases h2 : ([47, 47] : List UInt8).isPrefixOf (c :: r) = true
      · have hrun := runB_nl (p := notLine) (by decide) r behindT
        have hle := runB_le notLine r
        rw [if_pos h2, if_pos h2, hrun, List.drop_append_of_le_length hle, blankB_nl k _ (by rw [List.length_drop]; omega)]
        simp only [List.length_cons, List.length_drop]
        split <;> split <;> omega
      · rw [if_neg h2, if_neg h2, if_neg (by simp)]
theorem textB_nl : ∀ (k : Nat) (s z : List UInt8), s.length ≤ k → textB (s ++ 10 :: z) = textB s
  | k, [], z, _ => by simp only [List.nil_append]; rw [textB_cons]; simp [textB]
  | 0, c :: r, z, h => by simp at h
  | k + 1, c :: r, z, h => by
    simp only [List.length_cons] at h
    rw [List.cons_append, textB_cons, textB_cons, textB_nl k r z (by omega)]
    cases r with
    | nil =>
      simp only [List.nil_append]
      have : escB 10 = none := by decide
      rw [this]
    | cons d r' =>
      simp only [List.cons_append]
      rw [textB_nl k r' z (by simp only [List.length_cons] at h; omega)]
theorem find_congr' {α : Type} {p q : α → Bool} : ∀ (l : List α), (∀ x ∈ l, p x = q x) → l.find? p = l.find? q
  | [], _ => rfl
  | a :: l, h => by
    simp only [List.find?_cons, h a List.mem_cons_self, find_congr' l fun x hx => h x (List.mem_cons_of_mem _ hx)]
theorem oneB_nl (s z : List UInt8) (hs : s ≠ []) : oneB (s ++ 10 :: z) = oneB s := by
  cases s with
  | nil => exact absurd rfl hs
  | cons c r =>
    have hpre := pre_nl [102, 39] (c :: r) z (by decide)
    have hfl : floatOk (c :: r ++ 10 :: z) = floatOk (c :: r) := by
      unfold floatOk
      rw [hpre]
      by_cases h18 : 18 ≤ (c :: r).length
      · have e2 : (((c :: r) ++ 10 :: z).drop 2).take 16 = ((c :: r).drop 2).take 16 := by
          rw [List.drop_append_of_le_length (by omega), List.take_append_of_le_length (by rw [List.length_drop]; omega)]
        rw [e2]
        have : 18 ≤ ((c :: r) ++ 10 :: z).length := by rw [List.length_append]; omega
        simp only [h18, this, decide_true]
      · have e1 : decide (18 ≤ (c :: r).length) = false := by simpa using h18
        rw [e1]
        by_cases h2 : 2 ≤ (c :: r).length
        · have hx : ((((c :: r) ++ 10 :: z).drop 2).take 16).all isHex = false := by
            rw [List.all_eq_false]
            refine ⟨10, ?_, by decide⟩
            rw [List.drop_append_of_le_length h2, List.take_append]
            refine List.mem_append_right _ ?_
            have : 16 - ((c :: r).drop 2).length = (16 - ((c :: r).drop 2).length - 1) + 1 := by rw [List.length_drop]; omega
            rw [this, List.take_succ_cons]
            exact List.mem_cons_self
          rw [hx]; simp
        · have : ([102, 39] : List UInt8).isPrefixOf (c :: r) = false := by
            cases r with
            | nil => simp [List.isPrefixOf]
            | cons d r' => simp only [List.length_cons] at h2; omega
          rw [this]; simp
    have hrun := fun (p : UInt8 → Bool) (h : p 10 = false) => runB_nl h (c :: r) z
    have htake := fun (p : UInt8 → Bool) => List.take_append_of_le_length (l₂ := 10 :: z) (runB_le p (c :: r))
    have hhead : ((r ++ 10 :: z).head?.map isLow).getD false = (r.head?.map isLow).getD false := by
      cases r with
      | nil => rfl
      | cons d r' => rfl
    have hfind : (signsL.find? fun x => x.isPrefixOf (c :: r ++ 10 :: z)) = signsL.find? fun x => x.isPrefixOf (c :: r) := by
      refine find_congr' _ fun g hg => pre_nl g (c :: r) z fun d hd => ?_
      have : ∀ g ∈ signsL, ∀ d ∈ g, d.toNat ≠ 10 := by decide
      exact this g hg d hd
    show oneC c (r ++ 10 :: z) (c :: r ++ 10 :: z) = oneC c r (c :: r)
    unfold oneC
    rw [hpre, hfl, hrun isInName (by decide), hrun isInAlias (by decide), hrun isDigit (by decide), htake, htake, htake, hhead, hfind, textB_nl _ r z (Nat.le_refl _), runB_nl (p := isInName) (by decide) r z,
      List.take_append_of_le_length (l₂ := 10 :: z) (runB_le isInName r)]
    by_cases hf : floatOk (c :: r) = true
    · have h18 : 18 ≤ (c :: r).length := by
        simp only [floatOk, Bool.and_eq_true, decide_eq_true_eq] at hf
        exact hf.1.2
      rw [List.take_append_of_le_length h18]
    · rw [if_neg hf, if_neg hf]

def joinB (s : List UInt8) : List UInt8 := if s = [] then [] else s ++ behindB
def shiftT (d : Nat) (t : Tok) : Tok := (t.1, t.2.1, t.2.2 + d)
theorem toks_join : ∀ (k : Nat) (s : List UInt8) (a a' d : Nat), s.length ≤ k → (s = [] ∨ a' = a + d) →
    ((tokR a s).2 ≠ none → (tokR a' (joinB s)).2 ≠ none) ∧
    ((tokR a s).2 = none → (tokR a' (joinB s)).2 = none ∧ (tokR a' (joinB s)).1.length = (tokR a s).1.length ∧ (tokR a' (joinB s)).1.dropLast = (tokR a s).1.dropLast.map (shiftT d) ∧ (tokR a s).1 ≠ [])
  | k, [], a, a', d, _, _ => by simp [joinB, tokR_nil]
  | 0, c :: r, a, a', d, h, _ => by simp at h
  | k + 1, c :: r, a, a', d, h, ha => by
    have ha' : a' = a + d := by simpa using ha
    subst ha'
    have hj : joinB (c :: r) = (c :: r) ++ behindB := by simp [joinB]
    have hne : (c :: r) ++ behindB ≠ [] := by simp
    have ho := oneB_nl (c :: r) behindT (by simp)
    cases ho1 : oneB (c :: r) with
    | none =>
      rw [ho1] at ho
      rw [hj, tokR_none hne ho, tokR_none (by simp) ho1]
      simp
    | some q =>
      obtain ⟨kd, t, n⟩ := q
      rw [ho1] at ho
      have hp := oneB_pos ho1
      rw [hj, tokR_some hne ho, tokR_some (by simp) ho1]
      rw [List.drop_append_of_le_length hp.2]
      have hble := blankB_le ((c :: r).drop n)
      have hnl := blankB_nl _ ((c :: r).drop n) (Nat.le_refl _)
      have hjoin : (((c :: r).drop n ++ behindB).drop (blankB ((c :: r).drop n ++ behindB))) = joinB (((c :: r).drop n).drop (blankB ((c :: r).drop n))) ∧ ((((c :: r).drop n).drop (blankB ((c :: r).drop n))) = [] ∨ a + d + n + blankB ((c :: r).drop n ++ behindB) = a + n + blankB ((c :: r).drop n) + d) := by
        by_cases hb : blankB ((c :: r).drop n) = ((c :: r).drop n).length
        · rw [if_pos hb] at hnl
          have e0 : ((c :: r).drop n).drop (blankB ((c :: r).drop n)) = [] := by rw [hb, List.drop_length]
          refine ⟨?_, .inl e0⟩
          rw [e0, hnl]
          simp only [joinB, if_true]
          exact List.drop_of_length_le (by rw [List.length_append]; exact Nat.le_refl _)
        · rw [if_neg hb] at hnl
          have e0 : ((c :: r).drop n).drop (blankB ((c :: r).drop n)) ≠ [] := by
            intro e
            have := congrArg List.length e
            rw [List.length_drop, List.length_nil] at this
            omega
          refine ⟨?_, .inr (by rw [hnl]; omega)⟩
          rw [hnl, List.drop_append_of_le_length hble]
          simp only [joinB, e0, if_false]
      rw [hjoin.1]
      obtain ⟨i1, i2⟩ := toks_join k (((c :: r).drop n).drop (blankB ((c :: r).drop n))) (a + n + blankB ((c :: r).drop n)) (a + d + n + blankB ((c :: r).drop n ++ behindB)) d (by simp only [List.length_drop, List.length_cons] at h ⊢; omega) hjoin.2
      refine ⟨fun h => i1 h, fun h => ?_⟩
      obtain ⟨j1, j2, j3, j4⟩ := i2 h
      generalize tokR (a + n + blankB ((c :: r).drop n)) (((c :: r).drop n).drop (blankB ((c :: r).drop n))) = X at *
      generalize tokR (a + d + n + blankB ((c :: r).drop n ++ behindB)) (joinB (((c :: r).drop n).drop (blankB ((c :: r).drop n)))) = Y at *
      have hY : Y.1 ≠ [] := by intro e; rw [e] at j2; exact j4 (List.length_eq_zero_iff.1 j2.symm)
      refine ⟨j1, by simp [j2], ?_, by simp⟩
      rw [List.dropLast_cons_of_ne_nil hY, List.dropLast_cons_of_ne_nil j4, j3]
      rfl

def lexW (r : List Tok × Option Nat) : List Tok × Nat × Nat := match r with | (l, none) => (l, 0, 0) | (_, some p) => ([], 3, p)
theorem lexR_wf {b : List UInt8} (h1 : b.length ≤ 1048576) (h2 : wfB b) : lexR b = lexW (tokR (blankB b) (b.drop (blankB b))) := by
  unfold lexR
  rw [if_neg (by omega), if_neg (fun hn => hn h2)]
  generalize tokR (blankB b) (b.drop (blankB b)) = X
  obtain ⟨l, e⟩ := X
  cases e <;> rfl
theorem lexR_bad {b : List UInt8} (h1 : b.length ≤ 1048576) (h2 : ¬ wfB b) : lexR b = ([], 2, stopOf b) := by
  unfold lexR
  rw [if_neg (by omega), if_pos (show stopOf b ≠ b.length from h2)]
theorem lexR_blanks {b : List UInt8} (hl : b.length ≤ 400) : ((lexR b).2.1 ≠ 0 → (lexR (aheadB ++ b ++ behindB)).2.1 ≠ 0) ∧
    ((lexR b).2.1 = 0 → (lexR (aheadB ++ b ++ behindB)).2.1 = 0 ∧ (lexR (aheadB ++ b ++ behindB)).1.length = (lexR b).1.length ∧ (lexR (aheadB ++ b ++ behindB)).1.dropLast = (lexR b).1.dropLast.map (shiftT 10) ∧ (lexR b).1 ≠ []) := by
  have hlen : (aheadB ++ b ++ behindB).length = b.length + 18 := by simp only [List.length_append, List.length_cons, List.length_nil]; omega
  have hwA : wfB aheadB := wf_ascii _ (by decide)
  have hwZ : wfB behindB := wf_ascii _ (by decide)
  by_cases hw : wfB b
  · have hwj : wfB (aheadB ++ b ++ behindB) := wf_join (wf_join hwA hw) hwZ
    have hnl := blankB_nl _ b (Nat.le_refl _)
    have hble := blankB_le b
    have hrest : ((aheadB ++ b ++ behindB).drop (blankB (aheadB ++ b ++ behindB))) = joinB (b.drop (blankB b)) ∧ (b.drop (blankB b) = [] ∨ blankB (aheadB ++ b ++ behindB) = blankB b + 10) := by
      rw [List.append_assoc, blankB_ahead]
      have hd : (aheadB ++ (b ++ behindB)).drop (10 + blankB (b ++ behindB)) = (b ++ behindB).drop (blankB (b ++ behindB)) := by
        rw [← List.drop_drop]; rfl
      rw [hd]
      by_cases hb : blankB b = b.length
      · rw [if_pos hb] at hnl
        have e0 : b.drop (blankB b) = [] := by rw [hb, List.drop_length]
        refine ⟨?_, .inl e0⟩
        rw [e0, hnl]
        simp only [joinB, if_true]
        exact List.drop_of_length_le (by rw [List.length_append]; exact Nat.le_refl _)
      · rw [if_neg hb] at hnl
        have e0 : b.drop (blankB b) ≠ [] := by
          intro e
          have := congrArg List.length e
          rw [List.length_drop, List.length_nil] at this
          omega
        refine ⟨?_, .inr (by rw [hnl]; omega)⟩
        rw [hnl, List.drop_append_of_le_length hble]
        simp only [joinB, e0, if_false]
    obtain ⟨i1, i2⟩ := toks_join _ (b.drop (blankB b)) (blankB b) (blankB (aheadB ++ b ++ behindB)) 10 (Nat.le_refl _) hrest.2
    rw [← hrest.1] at i1 i2
    have e1 := lexR_wf (b := b) (by omega) hw
    have e2 := lexR_wf (b := aheadB ++ b ++ behindB) (by omega) hwj
    generalize tokR (blankB b) (b.drop (blankB b)) = X at *
    generalize tokR (blankB (aheadB ++ b ++ behindB)) ((aheadB ++ b ++ behindB).drop (blankB (aheadB ++ b ++ behindB))) = Y at *
    obtain ⟨x1, x2⟩ := X
    obtain ⟨y1, y2⟩ := Y
    rw [e1, e2]
    cases x2 with
    | none =>
      obtain ⟨j1, j2⟩ := i2 rfl
      simp only at j1
      subst j1
      exact ⟨fun h => absurd rfl h, fun _ => ⟨rfl, j2⟩⟩
    | some p =>
      have := i1 (by simp)
      cases y2 with
      | none => exact absurd rfl this
      | some q => simp [lexW]
  · have hwj : ¬ wfB (aheadB ++ b ++ behindB) := by
      intro h
      rw [List.append_assoc] at h
      have h2 := wf_right hwA h
      have h3 := (wf_cut (m := b.length) h2 (by rw [List.length_append]; omega) (fun c hc => by
        rw [List.getElem?_append_right (Nat.le_refl _), Nat.sub_self] at hc
        simp only [List.getElem?_cons_zero, Option.some.injEq] at hc
        rw [← hc]; decide)).1
      rw [List.take_append_of_le_length (Nat.le_refl _), List.take_length] at h3
      exact hw h3
    have e1 := lexR_bad (b := b) (by omega) hw
    have e2 := lexR_bad (b := aheadB ++ b ++ behindB) (by omega) hwj
    rw [e1, e2]
    simp

theorem tok_pos : ∀ (k a : Nat) (s : List UInt8), ∀ t ∈ (tokF k a s).1, t.2.2 ≤ a + s.length
  | 0, a, s => by simp [tokF]
  | k + 1, a, s => by
    intro t ht
    simp only [tokF] at ht
    split at ht
    · simp at ht; subst ht; simp
    · cases ho : oneB s with
      | none => rw [ho] at ht; simp at ht
      | some q =>
        obtain ⟨kd, u, n⟩ := q
        rw [ho] at ht
        simp only [List.mem_cons] at ht
        have hp := oneB_pos ho
        rcases ht with rfl | ht
        · simp
        · have := tok_pos k _ _ t ht
          have hb := blankB_le (s.drop n)
          simp only [List.length_drop] at this hb
          omega
theorem lexR_pos (b : List UInt8) (h : b.length ≤ 1048576) : ∀ t ∈ (lexR b).1, t.2.2 ≤ 1048576 := by
  by_cases hw : wfB b
  · rw [lexR_wf h hw]
    intro t ht
    have hb := blankB_le b
    have h1 : t ∈ (tokR (blankB b) (b.drop (blankB b))).1 := by
      generalize tokR (blankB b) (b.drop (blankB b)) = X at *
      obtain ⟨l, e⟩ := X
      cases e with
      | none => exact ht
      | some p => simp [lexW] at ht
    have := tok_pos _ _ _ t h1
    rw [List.length_drop] at this
    omega
  · rw [lexR_bad h hw]; simp
section
variable {Γ : Sums} {A : Tab} {N : Nat → Nat}
theorem law_LexerBlanks (hx1 : LexA Γ A N) (h : Has Γ A (f_law03_LexerBlanks N) (C_law03_LexerBlanks N)) (hlives : (lim Γ A).call (f_law03_lives N) [] H00' = some (avBool true, none))
    (x : AV) (b : List UInt8) (hx : IsBytes x b) : ∃ r, (lim Γ A).ent (f_law03_LexerBlanks N) [x] H00' = some r ∧ r.1 = avBool true := by
  apply h.entP (by rfl)
  have hlen := hx.len
  rw [List.length_map] at hlen
  by_cases h400 : 400 < b.length
  · have h400' : (400 : Int) < b.length := by omega
    simp [C_law03_LexerBlanks, hlives, hlen, h400']
  · have h400' : ¬ (400 : Int) < b.length := by omega
    obtain ⟨u, e1, f1⟩ := lexer_Lex_call hx1 H00' (IsBytes.v hx) (by omega)
    have hbl := lexR_blanks (b := b) (by omega)
    have hll := lexR_len b
    have hposl := lexR_pos b (by omega)
    have hvs : ∀ H, (asElems H x).bind bytesOf = some b := fun H => VBytes.str (IsBytes.v hx)
    have hlj : (aheadB ++ b ++ behindB).length = b.length + 18 := by simp only [List.length_append, List.length_cons, List.length_nil]; omega
    have hA1 : abin .add (avStr aheadB) (avStr b) = some (avStr (aheadB ++ b)) := by
      have := abin_strAdd (s := mkS aheadB) (t := mkS b) (by simp only [bl_mkS, List.length_cons, List.length_nil]; omega)
      simpa using this
    have hA2 : abin .add (avStr (aheadB ++ b)) (avStr behindB) = some (avStr (aheadB ++ b ++ behindB)) := by
      have := abin_strAdd (s := mkS (aheadB ++ b)) (t := mkS behindB) (by simp only [bl_mkS, List.length_append, List.length_cons, List.length_nil]; omega)
      simpa using this
    have hroom : (aheadB ++ b ++ behindB).length ≤ roomMax := by rw [hlj]; simp [roomMax]; omega
    generalize hJ : aheadB ++ b ++ behindB = J at *
    generalize hI : aheadB ++ b = I at *
    have hL0 : Loc H00' (hset (halloc H00' (.cells [.lit (.int .i64 0), .lit (.int .i64 0), .lit (.string (mkS []))] (t_api_Diag N))) 0 (some (.cells [avInt .i64 (lexR b).2.1, avInt .i64 (lexR b).2.2, avStr []] (t_api_Diag N)))) _ := ((Loc.start H00').alloc _).set _
    have hL1 := hL0.alloc (.arr 1 (J.map avByte) (t_uint8 N))
    have hv := (Row.mk (t_uint8 N) 1 1 (J.map avByte)).vw (r := [(0, .cells [avInt .i64 (lexR b).2.1, avInt .i64 (lexR b).2.2, avStr []] (t_api_Diag N))]) hL1
    obtain ⟨u2, e2, f2⟩ := lexer_Lex_call hx1 _ hv (by omega)
    rw [List.length_map] at e2
    have hul := f1.len
    have hul2 := f2.len
    rw [List.length_map] at hul hul2
    simp only [diagV] at e1 e2
    generalize (lexR b).1 = l at *
    generalize (lexR J).1 = m at *
    generalize (lexR b).2.1 = er at *
    generalize (lexR b).2.2 = ps at *
    generalize (lexR J).2.1 = er2 at *
    generalize (lexR J).2.2 = ps2 at *
    by_cases he : er = 0
    · subst he
      obtain ⟨b1, b2, b3, b4⟩ := hbl.2 rfl
      subst b1
      simp only [Int.natCast_zero] at e1 e2
      have hlpos : 0 < l.length := List.length_pos_iff.2 b4
      have hw1 : IntKind.wrap .i64 ((l.length : Int) - 1) = ((l.length - 1 : Nat) : Int) := by rw [wrap64 (by omega) (by omega)]; omega
      obtain ⟨y, g1, g2⟩ := f1.upto (k' := .i64) (j := ((l.length - 1 : Nat) : Int)) (by omega) (by rw [List.length_map]; omega)
      have hyl := g2.len
      rw [List.length_take, List.length_map] at hyl
      rw [show min ((l.length - 1 : Nat) : Int).toNat l.length = l.length - 1 from by omega] at hyl
      rw [b2] at hul2
      simp [C_law03_LexerBlanks, hlives, hlen, h400', hvs, hA1, hA2, hroom, e1, e2, aload_ptr, astore_ptr', setFrom, hul, hul2, hw1, g1, hyl, -Int.natCast_add]
      refine wp_round (fun k ρ H2 => H2 = H2 ∧ ∃ (j : Nat), ρ 3 = u ∧ ρ 6 = u2 ∧ ρ 5 = avStr aheadB ∧ ρ 70 = avInt .i64 ((l.length - 1 : Nat) : Int) ∧ ρ 71 = avInt .i64 j ∧ j ≤ l.length - 1 ∧ k = l.length - 1 - j) (n := l.length - 1) ?_ ?_
      · exact ⟨rfl, 0, rfl, rfl, rfl, rfl, rfl, by omega, rfl⟩
      · rintro k ρ H2 ⟨_, j, r3, r6, r5, r70, r71, hj, rfl⟩
        by_cases hjl : j < l.length - 1
        · have hjl' : (j : Int) < ((l.length - 1 : Nat) : Int) := by omega
          have hj1 : j < l.length := by omega
          have hjm : j < m.length := by omega
          have ha : aiaddr 3 u (.lit (.int .i64 j)) = some (.vp [avInt .i64 (l[j]).1, avStr (l[j]).2.1, avInt .i64 (l[j]).2.2]) :=
            f1.iaddr (k := .i64) (i := (j : Int)) (e := tokA l[j]) (by omega) (by simp [hj1]) rfl
          have ha2 : aiaddr 3 u2 (.lit (.int .i64 j)) = some (.vp [avInt .i64 (m[j]).1, avStr (m[j]).2.1, avInt .i64 (m[j]).2.2]) :=
            f2.iaddr (k := .i64) (i := (j : Int)) (e := tokA m[j]) (by omega) (by simp [hjm]) rfl
          have hsh : m[j] = shiftT 10 l[j] := by
            have h1 : j < m.dropLast.length := by rw [List.length_dropLast]; omega
            have h2 : j < l.dropLast.length := by rw [List.length_dropLast]; omega
            have := congrArg (fun y => y[j]?) b3
            simp only [List.getElem?_map, List.getElem?_eq_getElem h1, List.getElem?_eq_getElem h2, List.getElem_dropLast, Option.map_some, Option.some.injEq] at this
            exact this
          have hpos := hposl l[j] (List.getElem_mem _)
          rw [hsh] at ha2
          simp only [shiftT] at ha2
          generalize l[j] = t at *
          have hwi : IntKind.wrap .i64 ((j : Int) + 1) = ((j + 1 : Nat) : Int) := by rw [wrap64 (by omega) (by omega)]; omega
          have hwp : IntKind.wrap .i64 ((t.2.2 : Int) + 10) = ((t.2.2 + 10 : Nat) : Int) := by rw [wrap64 (by omega) (by omega)]; omega
          simp [L_law03_LexerBlanks_1, r3, r6, r5, r70, r71, hjl', ha, ha2, hwi, hwp, -Int.natCast_add]
          exact ⟨l.length - 1 - (j + 1), by omega, j + 1, rfl, by omega, rfl⟩
        · have hjl' : ¬ (j : Int) < ((l.length - 1 : Nat) : Int) := by omega
          simp [L_law03_LexerBlanks_1, K_law03_LexerBlanks_1, r3, r6, r5, r70, r71, hjl', -Int.natCast_add]
    · have he' : ¬ (er : Int) = 0 := by omega
      have he2 := hbl.1 he
      have he2' : ¬ (er2 : Int) = 0 := by omega
      by_cases hee : er2 = er
      · by_cases hps : (ps2 : Int) = IntKind.wrap .i64 ((ps : Int) + 10)
        · simp [C_law03_LexerBlanks, hlives, hlen, h400', hvs, hA1, hA2, hroom, e1, e2, he, he2, hee, hps, aload_ptr, astore_ptr', setFrom, -Int.natCast_add]
        · simp [C_law03_LexerBlanks, hlives, hlen, h400', hvs, hA1, hA2, hroom, e1, e2, he, he2, hee, hps, aload_ptr, astore_ptr', setFrom, -Int.natCast_add]
      · have hee' : ¬ (er2 : Int) = er := by omega
        simp [C_law03_LexerBlanks, hlives, hlen, h400', hvs, hA1, hA2, hroom, e1, e2, he, he2, hee', aload_ptr, astore_ptr', setFrom, -Int.natCast_add]
end
end Go.Proofs.Eng
