/- Where, of package runes, run by the engine. -/
import Derived.Test.YtombplnoeikhoaaWWhere
set_option linter.unusedVariables false
set_option linter.unusedSimpArgs false
set_option maxRecDepth 100000
namespace Go.Proofs.Eng
open Go
section
variable {Γ : Sums} {A : Tab} {N : Nat → Nat}

theorem runes_Where1_call (h : Has Γ A (f_runes_Where_1 N) (C_runes_Where_1 N)) (r ln c : Int) (c4 c5 : Nat) (t : TypeId) {H : Hp} {H0 : Hp} {as bs : List (Nat × AObj)} (hL : Loc H0 H (as ++ (c5, .cells [avInt .i64 c] t) :: (c4, .cells [avInt .i64 ln] t) :: bs))
    (hc : 1 ≤ c ∧ c < 2 ^ 40) (hl : 1 ≤ ln ∧ ln < 2 ^ 40) :
    ∃ hh, (lim Γ A).call (f_runes_Where_1 N) [avInt .i32 r, .ptr c5 0, .ptr c4 0] H = some (.tup [], hh) ∧
      Loc H0 (hh.getD H) (as ++ (c5, .cells [avInt .i64 (wstep (ln, c) (decide (r = 10))).2] t) :: (c4, .cells [avInt .i64 (wstep (ln, c) (decide (r = 10))).1] t) :: bs) := by
  have a5 := hL.get (p := (c5, .cells [avInt .i64 c] t)) (by simp)
  have a4 := hL.get (p := (c4, .cells [avInt .i64 ln] t)) (by simp)
  simp only [] at a5 a4
  have l5 := hget_lt a5
  have l4 := hget_lt a4
  have hne : c4 ≠ c5 := by
    have := hL.nd
    rw [List.map_append, List.nodup_append] at this
    have := this.2.1
    simp at this
    exact fun e => this.1.1 e.symm
  have b5 : hget { l := H.l, d := none } c5 = some (.cells [avInt .i64 c] t) := a5
  have b4 : hget { l := H.l, d := none } c4 = some (.cells [avInt .i64 ln] t) := a4
  have hw1 : IntKind.wrap .i64 (c + 1) = c + 1 := wrap64 (by omega) (by omega)
  have hw2 : IntKind.wrap .i64 (ln + 1) = ln + 1 := wrap64 (by omega) (by omega)
  obtain ⟨R, hR⟩ : ∃ R : AV × Option Hp → Prop, R = fun q => ∃ hh, q = (.tup [], hh) ∧ Loc H0 (hh.getD H) (as ++ (c5, .cells [avInt .i64 (wstep (ln, c) (decide (r = 10))).2] t) :: (c4, .cells [avInt .i64 (wstep (ln, c) (decide (r = 10))).1] t) :: bs) := ⟨_, rfl⟩
  have key : ∃ q, (lim Γ A).call (f_runes_Where_1 N) [avInt .i32 r, .ptr c5 0, .ptr c4 0] H = some q ∧ R q := by
    apply h.callP (by rfl)
    by_cases hr : r = 10
    · simp [C_runes_Where_1, b5, b4, hw1, hw2, hr, hne, hne.symm, l5]
      rw [settle_wrote ⟨_, rfl, by omega⟩, hR]
      refine ⟨_, rfl, ?_⟩
      simp only [Option.getD_some, hr, decide_true, wstep, if_true]
      refine hL.redo ?_
      have h1 := hL.dnone.setMid (as := as) (.cells [avInt .i64 (c + 1)] t)
      exact (h1.setMid2 (.cells [avInt .i64 (ln + 1)] t)).setMid (.cells [avInt .i64 1] t)
    · simp [C_runes_Where_1, b5, b4, hw1, hw2, hr]
      rw [settle_wrote ⟨_, rfl, by omega⟩, hR]
      refine ⟨_, rfl, ?_⟩
      simp only [Option.getD_some, hr, decide_false, wstep, Bool.false_eq_true, if_false]
      exact hL.redo (hL.dnone.setMid (as := as) (.cells [avInt .i64 (c + 1)] t))
  obtain ⟨q, e, hq⟩ := key
  rw [hR] at hq
  obtain ⟨hh, rfl, hq⟩ := hq
  exact ⟨hh, e, hq⟩

theorem wgo_ge {at' : Int} {s : Int × Int} : ∀ {l : List (Nat × Bool)}, (∀ p ∈ l, at' ≤ p.1) → wgo at' s l = s
  | [], _ => rfl
  | p :: l, h => by simp only [wgo]; rw [if_neg (by have := h p (by simp); omega)]

theorem rsigns_stop_len : ∀ (k at' : Nat) (b : List UInt8), at' + (rsigns k at' b).length ≤ rstop k at' b
  | 0, at', b => by simp [rsigns, rstop]
  | k + 1, at', b => by
    simp only [rsigns, rstop]
    split
    · simp
    · have hb := rfirst_bound b
      have := rsigns_stop_len k (at' + (rfirst b).2.toNat) (b.drop (rfirst b).2.toNat)
      simp only [List.length_cons]
      omega
def tailP (b : List UInt8) (e : Nat) : List (Nat × Bool) := (List.range' e (b.length - e)).map fun i => (i, decide ((b.getD i 0).toNat = 10))
theorem tailP_step {b : List UInt8} {e : Nat} (h : e < b.length) : tailP b e = (e, decide ((b.getD e 0).toNat = 10)) :: tailP b (e + 1) := by
  unfold tailP
  have : b.length - e = (b.length - (e + 1)) + 1 := by omega
  rw [this, List.range'_succ]
  rfl

theorem runes_Where_call (hr : RunesAll Γ A N) (h : Has Γ A (f_runes_Where N) (C_runes_Where N)) (h1 : Has Γ A (f_runes_Where_1 N) (C_runes_Where_1 N)) (x : AV) (b : List UInt8) (at' : Int) (H : Hp) (hx : VBytes H x b) (hb : b.length < 2 ^ 34) :
    (lim Γ A).call (f_runes_Where N) [x, avInt .i64 at'] H = some (.tup [avInt .i64 (whereOf b at').1, avInt .i64 (whereOf b at').2], none) := by
  apply h.call (by rfl)
  have hlen := Vw.len hx
  rw [List.length_map] at hlen
  have hsl : stopOf b ≤ b.length := by have := rstop_le b.length 0 b; unfold stopOf; omega
  obtain ⟨am, ham⟩ : ∃ am : Int, am = min at' b.length := ⟨_, rfl⟩
  have hwm : wgo am (1, 1) (wplaces b) = whereOf b at' := by rw [ham]; exact wgo_min fun p hp => (wplaces_nl p hp).2
  have hmm : mnmx false (avInt .i64 at') [avInt .i64 (b.length : Int)] = some (avInt .i64 am) := by
    simp only [mnmx, mn2, Option.bind_some, Option.some.injEq, AV.lit.injEq, Value.int.injEq, true_and, ham]
    simp only [Bool.false_eq_true, if_false]
    split <;> omega
  let n := H.l.length
  have hL := ((((((((((((Loc.start H).alloc (.cells [avInt .i64 at'] (t_int N))).alloc (.cells [avInt .i64 0] (t_int N))).alloc (.cells [avInt .i64 0] (t_int N))).setMid (as := [_]) (.cells [avInt .i64 1] (t_int N))).set (.cells [avInt .i64 1] (t_int N))).setMid (as := [_, _]) (.cells [avInt .i64 am] (t_int N))).alloc (.cells [.lit .nilFunc] (t_func_int32 N))).set (.cells [.fn (f_runes_Where_1 N) [] [.ptr (H.l.length + 1 + 1) 0, .ptr (H.l.length + 1) 0]] (t_func_int32 N))).alloc (.cells [avInt .i64 0] (t_int N))).set (.cells [avInt .i64 0] (t_int N))))
  simp at hL
  have hxv := Vw.loc hx hL
  have hall := runes_All_call hr _ hxv
  simp [C_runes_Where, hlen, hmm, hall]
  have hf1 : ∀ {b : List UInt8} {i : Nat} (hi : i < (allOf b).length), (((allOf b).drop i).map fun p => (p.1, decide (p.2 = 10))) = ((allOf b)[i].1, decide ((allOf b)[i].2 = 10)) :: (((allOf b).drop (i + 1)).map fun p => (p.1, decide (p.2 = 10))) := by
    intro b i hi; rw [List.drop_eq_getElem_cons hi, List.map_cons]
  have hal : (allOf b).length ≤ b.length := rsigns_len _ _ _
  -- the last loop
  have last : ∀ (ρ : Rho) (H2 : Hp) (ln c : Int) (e : Nat), Loc H H2 [(H.l.length + 1 + 1 + 1 + 1, .cells [avInt .i64 e] (t_int N)), (H.l.length + 1 + 1 + 1, .cells [.fn (f_runes_Where_1 N) [] [.ptr (H.l.length + 1 + 1) 0, .ptr (H.l.length + 1) 0]] (t_func_int32 N)), (H.l.length + 1 + 1, .cells [avInt .i64 c] (t_int N)), (H.l.length + 1, .cells [avInt .i64 ln] (t_int N)), (H.l.length, .cells [avInt .i64 am] (t_int N))] →
      ρ 0 = x → ρ 3 = .ptr H.l.length 0 → ρ 4 = .ptr (H.l.length + 1) 0 → ρ 5 = .ptr (H.l.length + 1 + 1) 0 → ρ 6 = .ptr (H.l.length + 1 + 1 + 1) 0 → ρ 7 = .ptr (H.l.length + 1 + 1 + 1 + 1) 0 → e ≤ b.length → 1 ≤ ln → ln ≤ e + 1 → 1 ≤ c → c ≤ e + 1 → wgo am (ln, c) (tailP b e) = whereOf b at' →
      wp (lim Γ A) none (K_runes_Where_1 N) ρ H2 (Ends [.inr (4, none), .inr (5, none)] false H fun p => p = (.tup [avInt .i64 (whereOf b at').1, avInt .i64 (whereOf b at').2], none)) := by
    intro ρ H2 ln c e hL2 r0 r3 r4 r5 r6 r7 he hl1 hl2 hc1 hc2 hg
    simp [K_runes_Where_1]
    refine wp_round (fun k ρ H2 => ∃ (e : Nat) (ln c : Int), Loc H H2 [(H.l.length + 1 + 1 + 1 + 1, .cells [avInt .i64 e] (t_int N)), (H.l.length + 1 + 1 + 1, .cells [.fn (f_runes_Where_1 N) [] [.ptr (H.l.length + 1 + 1) 0, .ptr (H.l.length + 1) 0]] (t_func_int32 N)), (H.l.length + 1 + 1, .cells [avInt .i64 c] (t_int N)), (H.l.length + 1, .cells [avInt .i64 ln] (t_int N)), (H.l.length, .cells [avInt .i64 am] (t_int N))] ∧
      ρ 0 = x ∧ ρ 3 = .ptr H.l.length 0 ∧ ρ 4 = .ptr (H.l.length + 1) 0 ∧ ρ 5 = .ptr (H.l.length + 1 + 1) 0 ∧ ρ 6 = .ptr (H.l.length + 1 + 1 + 1) 0 ∧ ρ 7 = .ptr (H.l.length + 1 + 1 + 1 + 1) 0 ∧ e ≤ b.length ∧ 1 ≤ ln ∧ ln ≤ e + 1 ∧ 1 ≤ c ∧ c ≤ e + 1 ∧ wgo am (ln, c) (tailP b e) = whereOf b at' ∧ k = b.length - e) (n := b.length - e) ⟨e, ln, c, hL2, r0, r3, r4, r5, r6, r7, he, hl1, hl2, hc1, hc2, hg, rfl⟩ ?_
    rintro k ρ H2 ⟨e, ln, c, hL2, r0, r3, r4, r5, r6, r7, he, hl1, hl2, hc1, hc2, hg, rfl⟩
    have a7 := hL2.head
    have a6 := hL2.get (p := (H.l.length + 1 + 1 + 1, .cells [.fn (f_runes_Where_1 N) [] [.ptr (H.l.length + 1 + 1) 0, .ptr (H.l.length + 1) 0]] (t_func_int32 N))) (by simp)
    have a5 := hL2.get (p := (H.l.length + 1 + 1, .cells [avInt .i64 c] (t_int N))) (by simp)
    have a4 := hL2.get (p := (H.l.length + 1, .cells [avInt .i64 ln] (t_int N))) (by simp)
    have a3 := hL2.get (p := (H.l.length, .cells [avInt .i64 am] (t_int N))) (by simp)
    simp only [] at a3 a4 a5 a6
    by_cases hlt : (e : Int) < am
    · have hel : e < b.length := by omega
      rw [tailP_step hel] at hg
      simp only [wgo] at hg
      rw [if_pos hlt] at hg
      have hxv2 := Vw.loc hx hL2
      obtain ⟨p2, c1, c2⟩ := VBytes.at' hxv2 (k := .i64) (i := (e : Int)) (by omega) (by simpa using hel)
      simp only [Int.toNat_natCast] at c1 c2
      have hgd : b.getD e 0 = b[e] := by simp [List.getD_eq_getElem?_getD, List.getElem?_eq_getElem hel]
      rw [hgd] at hg
      have hb8 := b[e].toNat_lt
      have hw0 : IntKind.wrap .i32 (b[e].toNat : Int) = b[e].toNat := wrap32 (by omega) (by omega)
      obtain ⟨hh, d1, d2⟩ := runes_Where1_call h1 (b[e].toNat : Int) ln c (H.l.length + 1) (H.l.length + 1 + 1) (t_int N) (as := [(H.l.length + 1 + 1 + 1 + 1, .cells [avInt .i64 e] (t_int N)), (H.l.length + 1 + 1 + 1, .cells [.fn (f_runes_Where_1 N) [] [.ptr (H.l.length + 1 + 1) 0, .ptr (H.l.length + 1) 0]] (t_func_int32 N))]) (bs := [(H.l.length, .cells [avInt .i64 am] (t_int N))]) hL2 (by omega) (by omega)
      obtain ⟨G, hG⟩ : ∃ G, hh.getD H2 = G := ⟨_, rfl⟩
      rw [hG] at d2
      have f7 := d2.get (p := (H.l.length + 1 + 1 + 1 + 1, .cells [avInt .i64 e] (t_int N))) (by simp)
      simp only [] at f7
      have hw3 : IntKind.wrap .i64 ((e : Int) + 1) = ((e + 1 : Nat) : Int) := by rw [wrap64 (by omega) (by omega)]; omega
      have hdec : decide ((b[e].toNat : Int) = 10) = decide (b[e].toNat = 10) := by
        by_cases h : b[e].toNat = 10 <;> simp [h] <;> omega
      rw [hdec] at d2
      simp [L_runes_Where_3, r0, r3, r4, r5, r6, r7, a7, a6, a3, hlt, c1, c2, avByte, hw0, d1, bindH_opt, hG, f7, hw3, -Int.natCast_add]
      refine ⟨b.length - (e + 1), by omega, e + 1, (wstep (ln, c) (decide (b[e].toNat = 10))).1, (wstep (ln, c) (decide (b[e].toNat = 10))).2, d2.set (.cells [avInt .i64 ((e + 1 : Nat) : Int)] (t_int N)), by omega, ?_, ?_, ?_, ?_, hg, rfl⟩
      all_goals (simp only [wstep]; split <;> simp only [] <;> omega)
    · have hg2 : (ln, c) = whereOf b at' := by
        rw [← hg]
        refine (wgo_ge fun p hp => ?_).symm
        unfold tailP at hp
        obtain ⟨q, hq, rfl⟩ := List.mem_map.1 hp
        rw [List.mem_range'_1] at hq
        simp only []; omega
      have hne : (H.l.length + 1 + 1 = H.l.length + 1) = False := by simp
      simp [L_runes_Where_3, K_runes_Where_2, r0, r3, r4, r5, r6, r7, a7, a6, a3, a4, a5, hlt, difR]
      have b5 := hget_lt a5
      have b4 := hget_lt a4
      simp [b4, b5]
      rw [← hg2]
      refine settle_keeps ?_ (by simp [AV.under, AV.unders])
      have := (hL2.setMid (as := [_, _, _]) (.cells [avInt .i64 ln] (t_int N)))
      have := Loc.setMid (as := [_, _]) this (.cells [avInt .i64 c] (t_int N))
      exact this.keeps
  have hwp : wplaces b = ((allOf b).map fun p => (p.1, decide (p.2 = 10))) ++ tailP b (stopOf b) := rfl
  refine wp_rangeFn (H0 := H) (by simp) (runes_All_gen hr (x := x) (b := b) (by omega)) rfl hL (by intro x hx; obtain ⟨p, _, rfl⟩ := List.mem_map.1 hx; rfl)
    (fun i os => ∃ ln c : Int, os = [(H.l.length + 1 + 1 + 1 + 1, .cells [avInt .i64 (endOf 0 ((allOf b).take i))] (t_int N)), (H.l.length + 1 + 1 + 1, .cells [.fn (f_runes_Where_1 N) [] [.ptr (H.l.length + 1 + 1) 0, .ptr (H.l.length + 1) 0]] (t_func_int32 N)), (H.l.length + 1 + 1, .cells [avInt .i64 c] (t_int N)), (H.l.length + 1, .cells [avInt .i64 ln] (t_int N)), (H.l.length, .cells [avInt .i64 am] (t_int N))] ∧
      i ≤ (allOf b).length ∧ 1 ≤ ln ∧ ln ≤ i + 1 ∧ 1 ≤ c ∧ c ≤ i + 1 ∧ wgo am (ln, c) ((((allOf b).drop i).map fun p => (p.1, decide (p.2 = 10))) ++ tailP b (stopOf b)) = whereOf b at')
    (fun x' os => x' = .ret ∧ ∃ ln c e : Int, os = [(H.l.length + 1 + 1 + 1 + 1, .cells [avInt .i64 e] (t_int N)), (H.l.length + 1 + 1 + 1, .cells [.fn (f_runes_Where_1 N) [] [.ptr (H.l.length + 1 + 1) 0, .ptr (H.l.length + 1) 0]] (t_func_int32 N)), (H.l.length + 1 + 1, .cells [avInt .i64 c] (t_int N)), (H.l.length + 1, .cells [avInt .i64 ln] (t_int N)), (H.l.length, .cells [avInt .i64 am] (t_int N))] ∧ (ln, c) = whereOf b at')
    (fun _ _ _ _ _ hL _ => Vw.loc hx hL) ⟨1, 1, by simp [endOf], by omega, by omega, by omega, by omega, by omega, by rw [List.drop_zero, ← hwp]; exact hwm⟩ ?_ ?_
  · rintro i hi l lo lb H' os' hlb hL1 ⟨ln, c, rfl, hi', hl1, hl2, hc1, hc2, hg⟩
    simp only [List.length_map] at hi
    simp [L_runes_Where_1, encS]
    refine ⟨_, hL1, ?_⟩
    intro H1 hL2
    have a7 := hL2.get (p := (H.l.length + 1 + 1 + 1 + 1, .cells [avInt .i64 (endOf 0 ((allOf b).take i))] (t_int N))) (by simp)
    have a6 := hL2.get (p := (H.l.length + 1 + 1 + 1, .cells [.fn (f_runes_Where_1 N) [] [.ptr (H.l.length + 1 + 1) 0, .ptr (H.l.length + 1) 0]] (t_func_int32 N))) (by simp)
    have a5 := hL2.get (p := (H.l.length + 1 + 1, .cells [avInt .i64 c] (t_int N))) (by simp)
    have a4 := hL2.get (p := (H.l.length + 1, .cells [avInt .i64 ln] (t_int N))) (by simp)
    have a3 := hL2.get (p := (H.l.length, .cells [avInt .i64 am] (t_int N))) (by simp)
    simp only [] at a3 a4 a5 a6 a7
    rw [hf1 hi] at hg
    simp only [List.cons_append, wgo] at hg
    have hle := rsigns_le _ _ _ _ (List.getElem_mem hi)
    by_cases hpa : ((allOf b)[i].1 : Int) < am
    · rw [if_pos hpa] at hg
      have hpa' : ¬ am ≤ ((allOf b)[i].1 : Int) := by omega
      obtain ⟨hh, d1, d2⟩ := runes_Where1_call h1 (allOf b)[i].2 ln c (H.l.length + 1) (H.l.length + 1 + 1) (t_int N) (as := [(l, lb), (H.l.length + 1 + 1 + 1 + 1, .cells [avInt .i64 (endOf 0 ((allOf b).take i))] (t_int N)), (H.l.length + 1 + 1 + 1, .cells [.fn (f_runes_Where_1 N) [] [.ptr (H.l.length + 1 + 1) 0, .ptr (H.l.length + 1) 0]] (t_func_int32 N))]) (bs := [(H.l.length, .cells [avInt .i64 am] (t_int N))]) hL2 (by omega) (by omega)
      obtain ⟨G, hG⟩ : ∃ G, hh.getD H1 = G := ⟨_, rfl⟩
      rw [hG] at d2
      have f7 := d2.get (p := (H.l.length + 1 + 1 + 1 + 1, .cells [avInt .i64 (endOf 0 ((allOf b).take i))] (t_int N))) (by simp)
      simp only [] at f7
      have hsz : 1 ≤ runeSize (allOf b)[i].2 ∧ runeSize (allOf b)[i].2 ≤ 4 := by unfold runeSize; (repeat' split) <;> omega
      have hw : IntKind.wrap .i64 (((allOf b)[i].1 : Int) + runeSize (allOf b)[i].2) = endOf 0 ((allOf b).take (i + 1)) := by rw [wrap64 (by omega) (by omega), endOf_take hi]
      simp [L_runes_Where_2, a3, a6, hpa', d1, bindH_opt, hG, runes_size_call hr.size, f7, hw]
      refine ⟨_, d2.setMid (as := [_]) _, (wstep (ln, c) (decide ((allOf b)[i].2 = 10))).1, (wstep (ln, c) (decide ((allOf b)[i].2 = 10))).2, rfl, hi, ?_, ?_, ?_, ?_, ?_⟩
      · simp only [wstep]; split <;> simp only [] <;> omega
      · simp only [wstep]; split <;> simp only [] <;> omega
      · simp only [wstep]; split <;> simp only [] <;> omega
      · simp only [wstep]; split <;> simp only [] <;> omega
      · simpa using hg
    · rw [if_neg hpa] at hg
      have hpa' : am ≤ ((allOf b)[i].1 : Int) := by omega
      have b4 := hget_lt a4
      have b5 := hget_lt a5
      simp [L_runes_Where_2, a3, a4, a5, b4, b5, hpa', difR]
      have e1 := hL2.setMid (as := [_, _, _, _]) (.cells [avInt .i64 ln] (t_int N))
      have e2 := Loc.setMid (as := [_, _, _]) e1 (.cells [avInt .i64 c] (t_int N))
      exact ⟨_, e2, ln, c, ⟨_, rfl⟩, hg⟩
  · intro x' H2 os2' hL2 hx'
    rcases hx' with ⟨rfl, ln, c, rfl, _, hl1, hl2, hc1, hc2, hg⟩ | ⟨_, rfl, ln, c, e, rfl, hg⟩
    · rw [List.length_map] at *
      rw [List.drop_eq_nil_of_le (Nat.le_refl _)] at hg
      have he : endOf 0 ((allOf b).take (allOf b).length) = stopOf b := by rw [List.take_length]; exact endOf_rsigns _ _ _
      rw [he] at hL2
      have hll : (allOf b).length ≤ stopOf b := by
        have := rsigns_stop_len b.length 0 b
        simpa [allOf, stopOf] using this
      simp only [blockP_nrm, seqP_nrm]
      refine last _ H2 ln c (stopOf b) hL2 ?_ ?_ ?_ ?_ ?_ ?_ hsl hl1 (by omega) hc1 (by omega) (by simpa using hg) <;> simp
    · have a5 := hL2.get (p := (H.l.length + 1 + 1, .cells [avInt .i64 c] (t_int N))) (by simp)
      have a4 := hL2.get (p := (H.l.length + 1, .cells [avInt .i64 ln] (t_int N))) (by simp)
      simp only [] at a4 a5
      simp [a4, a5, ← hg]
      exact settle_keeps hL2.keeps (by simp [AV.under, AV.unders])
end
end Go.Proofs.Eng
