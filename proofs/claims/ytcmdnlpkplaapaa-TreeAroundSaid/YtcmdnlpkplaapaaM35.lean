import Derived.Test.YtcmdnlpkplaapaaEngAK
import Derived.Test.YtcmdnlpkplaapaaM32
import Derived.Test.YtcmdnlpkplaapaaEngAH
import Derived.Test.YtcmdnlpkplaapaaM26
import Derived.Test.YtcmdnlpkplaapaaM27
import Derived.Test.YtcmdnlpkplaapaaM30
/- Two maps with texts for keys, held against each other: one of rows of bytes, one of texts. -/
set_option linter.unusedVariables false
set_option linter.unusedSimpArgs false
set_option maxRecDepth 100000
namespace Go.Proofs.Eng
open Go

def kpos (k : List UInt8) : List (List UInt8) → Option Nat
  | [] => none
  | x :: r => if k = x then some 0 else (kpos k r).map (· + 1)
theorem kpos_lt {k : List UInt8} : ∀ {l : List (List UInt8)} {i : Nat}, kpos k l = some i → l[i]? = some k
  | [], i, h => by simp [kpos] at h
  | x :: r, i, h => by
    simp only [kpos] at h
    split at h
    · rename_i e; simp only [Option.some.injEq] at h; subst h; subst e; rfl
    · obtain ⟨j, hj, rfl⟩ := Option.map_eq_some_iff.1 h
      simpa using kpos_lt hj
theorem vFind_kpos (k : List UInt8) : ∀ l : List (List UInt8 × AV), vFind k l = (kpos k (l.map Prod.fst)).bind fun i => (l[i]?).map fun e => (i, e.2)
  | [] => rfl
  | x :: r => by
    simp only [vFind, List.map_cons, kpos]
    split
    · rename_i e; rfl
    · rw [vFind_kpos k r]
      cases kpos k (r.map Prod.fst) with
      | none => rfl
      | some i => simp only [Option.bind_some, Option.map_some, List.getElem?_cons_succ]; cases r[i]? <;> rfl

/-- A model's map: texts by texts. -/
abbrev SM := List (List UInt8 × List UInt8)
def sKeys (sm : SM) : List (List UInt8) := sm.map Prod.fst
def sFind (k : List UInt8) (sm : SM) : Option (List UInt8) := (kpos k (sKeys sm)).bind fun i => (sm[i]?).map Prod.snd
def sPut (k b : List UInt8) (sm : SM) : SM := match kpos k (sKeys sm) with
  | some i => sm.modify i fun _ => (k, b)
  | none => sm ++ [(k, b)]
theorem kpos_some {k : List UInt8} {sm : SM} {i : Nat} (h : kpos k (sKeys sm) = some i) : ∃ b, sm[i]? = some (k, b) ∧ i < sm.length := by
  have := kpos_lt h
  simp only [sKeys, List.getElem?_map, Option.map_eq_some_iff] at this
  obtain ⟨⟨a, b⟩, h1, rfl⟩ := this
  exact ⟨b, h1, (List.getElem?_eq_some_iff.1 h1).1⟩
/-- A map of rows of bytes, laid in a heap, has the texts of a model's map. -/
def R2 (H : Hp) (l : List (List UInt8 × AV)) (sm : SM) : Prop := l.map Prod.fst = sKeys sm ∧ ∀ (i : Nat) (x : List UInt8 × AV) (y : List UInt8 × List UInt8), l[i]? = some x → sm[i]? = some y → VBytes H x.2 y.2
namespace R2
variable {H H' : Hp} {l : List (List UInt8 × AV)} {sm : SM} {k b : List UInt8} {c : AV}
theorem nil : R2 H [] [] := ⟨rfl, by simp⟩
theorem len (h : R2 H l sm) : l.length = sm.length := by
  have := congrArg List.length h.1
  simpa [sKeys] using this
theorem keep (h : R2 H l sm) (k : ∀ x es, VBytes H x es → VBytes H' x es) : R2 H' l sm := ⟨h.1, fun i x y hx hy => k _ _ (h.2 i x y hx hy)⟩
theorem isSome (h : R2 H l sm) (k : List UInt8) : (vFind k l).isSome = (sFind k sm).isSome := by
  rw [vFind_kpos, h.1]
  unfold sFind
  cases hk : kpos k (sKeys sm) with
  | none => rfl
  | some i =>
    obtain ⟨c, hc, hi⟩ := kpos_some hk
    have hi2 : i < l.length := by rw [h.len]; exact hi
    simp [hc, List.getElem?_eq_getElem hi2]
theorem get (h : R2 H l sm) (k : List UInt8) : VBytes H (((vFind k l).map Prod.snd).getD avNilS) ((sFind k sm).getD []) := by
  rw [vFind_kpos, h.1]
  unfold sFind
  cases hk : kpos k (sKeys sm) with
  | none => exact .inl (.inl ⟨rfl, rfl⟩)
  | some i =>
    obtain ⟨c, hc, hi⟩ := kpos_some hk
    have hi2 : i < l.length := by rw [h.len]; exact hi
    have := h.2 i _ _ (List.getElem?_eq_getElem hi2) hc
    simpa [hc, List.getElem?_eq_getElem hi2] using this
theorem put (h : R2 H l sm) (hc : VBytes H c b) : R2 H (vPut k c l) (sPut k b sm) := by
  unfold vPut sPut
  rw [vFind_kpos, h.1]
  cases hk : kpos k (sKeys sm) with
  | none =>
    simp only [Option.bind_none]
    refine ⟨by simp [h.1, sKeys], fun i x y hx hy => ?_⟩
    by_cases hi : i < l.length
    · rw [List.getElem?_append_left hi] at hx
      rw [List.getElem?_append_left (by rw [← h.len]; exact hi)] at hy
      exact h.2 i x y hx hy
    · rw [List.getElem?_append_right (by omega)] at hx
      rw [List.getElem?_append_right (by rw [← h.len]; omega), ← h.len] at hy
      have h0 : i - l.length = 0 := by have := (List.getElem?_eq_some_iff.1 hx).1; simp at this; omega
      rw [h0] at hx hy
      simp at hx hy
      subst hx; subst hy; exact hc
  | some i =>
    obtain ⟨c', hc', hi⟩ := kpos_some hk
    have hi2 : i < l.length := by rw [h.len]; exact hi
    simp only [Option.bind_some, List.getElem?_eq_getElem hi2, Option.map_some]
    refine ⟨?_, fun j x y hx hy => ?_⟩
    · apply List.ext_getElem?
      intro j
      have hj : (l.map Prod.fst)[j]? = (sKeys sm)[j]? := by rw [h.1]
      simp only [sKeys, List.getElem?_map, List.getElem?_modify] at hj ⊢
      by_cases hij : i = j
      · subst hij; simp [List.getElem?_eq_getElem hi2, hc']
      · simp only [hij, if_false]
        cases h1 : l[j]? <;> cases h2 : sm[j]? <;> simp [h1, h2] at hj ⊢
        exact hj
    · rw [List.getElem?_modify] at hx hy
      cases h1 : l[j]? with
      | none => rw [h1] at hx; simp at hx
      | some u =>
        cases h2 : sm[j]? with
        | none => rw [h2] at hy; simp at hy
        | some v =>
          rw [h1] at hx; rw [h2] at hy
          by_cases hij : i = j
          · simp [hij] at hx hy; subst hx; subst hy; exact hc
          · simp [hij] at hx hy
            subst hx; subst hy; exact h.2 j u v h1 h2
end R2

/-! ### Sorted keys -/
end Go.Proofs.Eng
/- Templates of functions, as the engine takes them; numbers of functions and types by names. Printed by tm.py. -/
set_option linter.unusedVariables false
set_option maxRecDepth 100000
namespace Go.Proofs.Eng
open Go

end Go.Proofs.Eng
/- The store's functions, second part: Rename, Text, Len, Turn, All. -/
set_option linter.unusedVariables false
set_option linter.unusedSimpArgs false
set_option maxRecDepth 100000
namespace Go.Proofs.Eng
open Go
section
variable {Γ : Sums} {A : Tab} {N : Nat → Nat}

end
end Go.Proofs.Eng
/- The row of a tree's terms, run by the engine: the iterator of a row read backward. -/
set_option linter.unusedVariables false
set_option linter.unusedSimpArgs false
set_option maxRecDepth 100000
namespace Go.Proofs.Eng
open Go
section
variable {Γ : Sums} {A : Tab} {N : Nat → Nat}
theorem Vw.cg {H : Hp} {sz : Nat} {x : AV} {es : List AV} (h : Vw H sz x es) : x.cells = [x] ∧ x.good = true := by
  rcases h with (⟨rfl, _⟩ | rfl) | ⟨id, off, e, all, rfl, _⟩ <;> exact ⟨rfl, rfl⟩
theorem back_call (h : Has Γ A (f_slices_Backward_sl_int_int N) (C_slices_Backward_sl_int_int N)) (H : Hp) {x : AV} {ks : List Int} (hx : VI H x ks) : (lim Γ A).call (f_slices_Backward_sl_int_int N) [x] H = some (.fn (f_slices_Backward_sl_int_int_1 N) [] [.ptr H.l.length 0], some { l := H.l ++ [some (.cells [x] (t_sl_int N))], d := dminO H.d none }) := by
  obtain ⟨h1, h2⟩ := Vw.cg hx
  apply h.call (by rfl)
  simp [C_slices_Backward_sl_int_int, h1, h2]
  rw [settle_some (by simp [AV.under, AV.unders])]
  rfl
theorem walk_fn (h : Has Γ A (f_tree_Walk N) (C_tree_Walk N)) (H : Hp) {a b c : AV} {n : Int} (ha : a.one = true) (hb : b.one = true) (hc : c.one = true) : (lim Γ A).call (f_tree_Walk N) [.agg [a, b, c], avInt .i64 n] H = some (.fn (f_tree_Walk_1 N) [] [.ptr (H.l.length + 1) 0, .ptr H.l.length 0], some { l := H.l ++ [some (.cells [a, b, c] (t_api_Tree N)), some (.cells [avInt .i64 n] (t_int N))], d := dminO H.d none }) := by
  apply h.call (by rfl)
  simp [C_tree_Walk, ha, hb, hc]
  rw [settle_some (by simp [AV.under, AV.unders])]
  simp [halloc]
theorem back_gen (h : Has Γ A (f_slices_Backward_sl_int_int_1 N) (C_slices_Backward_sl_int_int_1 N)) {c : Nat} {tc : TypeId} {x : AV} {ks : List Int} (hl : ks.length < 2 ^ 60) :
    GenM (lim Γ A) (f_slices_Backward_sl_int_int_1 N) [] [.ptr c 0] (fun H => hget H c = some (.cells [x] tc) ∧ VI H x ks) ks.length
      (fun i H args => ∃ k j, ks.reverse[i]? = some k ∧ args = [avInt .i64 j, avInt .i64 k]) := by
  intro lp H K Kx S0 hlp hS0 hlS hst hV h00 hstep
  suffices hsuf : ∃ r, (lim Γ A).ent (f_slices_Backward_sl_int_int_1 N) ([] ++ [AV.yld lp] ++ [.ptr c 0]) H = some r ∧ ∃ H2, (r.2.getD H).l = H2.l ∧ (r.2.getD H).d = dminO H.d H2.d ∧ ((∃ S, K ks.length S H2) ∨ Kx H2) by
    obtain ⟨⟨v, g⟩, e, H2, r1, r2, r3⟩ := hsuf
    exact ⟨v, g, H2, e, r1, r2, r3⟩
  obtain ⟨R, hR⟩ : ∃ R : AV × Option Hp → Prop, R = fun r => ∃ H2, (r.2.getD H).l = H2.l ∧ (r.2.getD H).d = dminO H.d H2.d ∧ ((∃ S, K ks.length S H2) ∨ Kx H2) := ⟨_, rfl⟩
  suffices ∃ r, (lim Γ A).ent (f_slices_Backward_sl_int_int_1 N) ([] ++ [AV.yld lp] ++ [.ptr c 0]) H = some r ∧ R r by simpa [hR] using this
  obtain ⟨v1, v2⟩ := hV 0 S0 _ h00
  have hxl := VI.len v2
  have hx1 := Vw.one v2
  have hw0 : IntKind.wrap .i64 ((ks.length : Int) - 1) = (ks.length : Int) - 1 := by rw [wrap64 (by omega) (by omega)]
  apply h.entP (by rfl)
  simp [C_slices_Backward_sl_int_int_1, v1, hxl, hx1, hw0]
  refine wp_round (n := ks.length) (fun q ρ H' => ∃ (i : Nat) (S : List Nat) (j : Int), ρ 0 = .yld lp ∧ ρ 1 = .ptr c 0 ∧ ρ 3 = avInt .i64 j ∧ j = (ks.length : Int) - 1 - i ∧ i ≤ ks.length ∧ K i S H' ∧
    ((i = 0 ∧ H' = { l := H.l, d := none }) ∨ ∃ mm, H'.d = some mm ∧ mm ≤ lp) ∧ q = ks.length - i) ?_ ?_
  · exact ⟨0, S0, (ks.length : Int) - 1, rfl, rfl, rfl, by simp, by omega, h00, .inl ⟨rfl, rfl⟩, rfl⟩
  · rintro q ρ H' ⟨i, S, j, h0, h1, h3, hj, hi, hK, hd, rfl⟩
    obtain ⟨w1, w2⟩ := hV i S H' hK
    by_cases hlt : i < ks.length
    · have hge : (0 : Int) ≤ j := by omega
      have hge' : ¬ (j < 0) := by omega
      have hk0 : ks.reverse[i]? = some (ks[ks.length - 1 - i]'(by omega)) := by
        rw [List.getElem?_reverse (by omega), List.getElem?_eq_getElem]
      obtain ⟨p, p1, p2⟩ := w2.at' (k := .i64) (i := j) (e := avInt .i64 (ks[ks.length - 1 - i]'(by omega))) (by omega) (by
        have : j.toNat = ks.length - 1 - i := by omega
        rw [this]; simp) rfl rfl rfl
      obtain ⟨tt, H'', S', y1, y2, y3, y4, y5, y6⟩ := hstep i S H' [avInt .i64 j, avInt .i64 (ks[ks.length - 1 - i]'(by omega))] hlt hK ⟨_, _, hk0, rfl⟩
      have hw : IntKind.wrap .i64 (j - 1) = j - 1 := by rw [wrap64 (by omega) (by omega)]
      cases tt with
      | true =>
        simp [L_slices_Backward_sl_int_int_1_1, h0, h1, h3, hge, hge', p1, p2, w1, hx1, bindH_opt, y1, hw, -Int.natCast_add]
        exact ⟨ks.length - (i + 1), by omega, i + 1, by omega, by omega, ⟨S', y5 rfl⟩, .inr y2, rfl⟩
      | false =>
        obtain ⟨mm, d1, d2⟩ := y2
        have hsw := settle_wrote (H := H) (H' := H'') (v := .tup []) ⟨mm, d1, by omega⟩
        simp [L_slices_Backward_sl_int_int_1_1, h0, h1, h3, hge, hge', p1, p2, w1, hx1, bindH_opt, y1, hw, -Int.natCast_add]
        rw [hsw, hR]
        exact ⟨H'', rfl, rfl, .inr (y6 rfl)⟩
    · have hi2 : i = ks.length := by omega
      subst hi2
      have hge : ¬ (0 : Int) ≤ j := by omega
      have hge' : j < 0 := by omega
      rcases hd with ⟨i0, rfl⟩ | ⟨mm, d1, d2⟩
      · have hsw := settle_keeps (H := H) (H' := { l := H.l, d := none }) (v := .tup []) (by rfl) (by simp [AV.under, AV.unders])
        simp [L_slices_Backward_sl_int_int_1_1, h0, h1, h3, hge, hge']
        rw [hR]
        refine ⟨{ l := H.l, d := none }, rfl, rfl, .inl ⟨S0, ?_⟩⟩
        rw [i0]; exact h00
      · have hsw := settle_wrote (H := H) (H' := H') (v := .tup []) ⟨mm, d1, by omega⟩
        simp [L_slices_Backward_sl_int_int_1_1, h0, h1, h3, hge, hge']
        rw [hsw, hR]
        exact ⟨H', rfl, rfl, .inl ⟨S, hK⟩⟩
end
end Go.Proofs.Eng
/- The engine, part AN: loops over functions that lay objects of their own and write these; such loops where what the body writes was there ahead. -/
set_option linter.unusedVariables false
set_option linter.unusedSimpArgs false
namespace Go.Proofs.Eng
open Go Go.RowKit

/-- A function that tells n elements, one by one; it may lay objects, and writes these. S: what the loop's body may write. -/
def GenO (W : Env) (g : FuncId) (fs cs : List AV) (V : Hp → Prop) (n : Nat) (X : Nat → Hp → List AV → Prop) : Prop :=
  ∀ (l : Nat) (H : Hp) (K : Nat → List Nat → Hp → Prop) (Kx : Hp → Prop) (S0 : List Nat), l < H.l.length → (∀ s ∈ S0, s < H.l.length) → l ∈ S0 →
    (∀ i S H' H'' O, K i S H' → Mut H' H'' O → (∀ o ∈ O, H.l.length ≤ o ∧ o ∉ S) → K i S H'') → (∀ i S H', K i S H' → V H') → K 0 S0 { l := H.l, d := none } →
    (∀ i S H' args, i < n → K i S H' → X i H' args → ∃ t H'' S', W.yld l args H' = some (avBool t, some H'') ∧ (∃ m, H''.d = some m ∧ m ≤ l) ∧ Mut H' H'' S ∧ (∀ s ∈ S', s ∈ S ∨ H'.l.length ≤ s) ∧ (∀ s ∈ S', s < H''.l.length) ∧ (t = true → K (i + 1) S' H'') ∧ (t = false → Kx H'')) →
    ∃ v h H2, W.ent g (fs ++ [.yld l] ++ cs) H = some (v, h) ∧ (h.getD H).l = H2.l ∧ (h.getD H).d = dminO H.d H2.d ∧ ((∃ S, K n S H2) ∨ Kx H2)

section
variable {Γ : Sums} {A : Tab} {H0 : Hp}

theorem GenM.own {W : Env} {g : FuncId} {fs cs : List AV} {V : Hp → Prop} {n : Nat} {X : Nat → Hp → List AV → Prop} (h : GenM W g fs cs V n X) : GenO W g fs cs V n X := fun l H K Kx S0 a b c hst hV h0 step =>
  h l H K Kx S0 a b c (fun i S H' H'' hK hM => hst i S H' H'' [] hK hM (by simp)) hV h0 (fun i S H' args hi hK hX => by
    obtain ⟨t, H'', S', a1, a2, a3, a4, _, a5, a6⟩ := step i S H' args hi hK hX
    exact ⟨t, H'', S', a1, a2, a3, a4, a5, a6⟩)
theorem Loc.apart {H H' : Hp} {os : List (Nat × AObj)} {O : List Nat} (h : Loc H0 H os) (k : Mut H H' O) (ho : ∀ o ∈ O, H0.l.length ≤ o ∧ o ∉ os.map Prod.fst) : Loc H0 H' os :=
  h.mut k (fun i hi => (ho i hi).1) (fun p hp => ⟨k.get' (h.get hp) (fun hm => (ho _ hm).2 (List.mem_map.2 ⟨p, hp, rfl⟩)), h.ge hp⟩) h.nd

theorem range_locO {g : FuncId} {fs cs : List AV} {V : Hp → Prop} {n : Nat} {X : Nat → Hp → List AV → Prop} {rd : Option Nat} {ps : List Nat} {asg body : AC} {τ : List AV} {H : Hp} {os : List (Nat × AObj)} (hg : GenO (lim Γ A) g fs cs V n X) (hrd : rdAlive H rd = true) (hl : Loc H0 H os)
    (hps : ∀ p ∈ ps, p < τ.length) (hda : dstOK τ.length asg = true) (hdb : dstOK τ.length body = true)
    (I : Nat → List (Nat × AObj) → Prop) (Qx : AX → List (Nat × AObj) → Prop) (hV : ∀ i H' l o os', Loc H0 H' ((l, o) :: os') → I i os' → V H') (h0 : I 0 os)
    (step : ∀ i (hi : i < n) H' os' args, Loc H0 H' ((H.l.length, .loop .ready .nrm τ ps asg body) :: os') → I i os' → X i H' args → args.length = ps.length ∧
      wp (lim Γ A) (some H.l.length) asg (putR ps args (rho τ)) H' fun x ρ' H1 => x = .nrm ∧ ∃ os1, Loc H0 H1 ((H.l.length, .loop .ready .nrm τ ps asg body) :: os1) ∧ Mut H' H1 (H.l.length :: os'.map Prod.fst) ∧
        ∀ H1', Loc H0 H1' ((H.l.length, .loop .busy .nrm τ ps asg body) :: os1) → Mut H' H1' (H.l.length :: os'.map Prod.fst) → wp (lim Γ A) (some H.l.length) body ρ' H1' fun x ρ2 H2 =>
          ∃ os2, Loc H0 H2 ((H.l.length, .loop .busy .nrm τ ps asg body) :: os2) ∧ Mut H' H2 (H.l.length :: os'.map Prod.fst) ∧ (∀ s ∈ os2.map Prod.fst, s ∈ os'.map Prod.fst ∨ H'.l.length ≤ s) ∧ ((x = .nrm ∧ I (i + 1) os2) ∨ (x ≠ .nrm ∧ Qx x os2))) :
    ∃ x H2 os2, (lim Γ A).range rd (.fn g fs cs) ps asg body τ H = some (x, τ, H2) ∧ Loc H0 H2 os2 ∧ ((x = .nrm ∧ I n os2) ∨ (x ≠ .nrm ∧ Qx x os2)) := by
  let l := H.l.length
  have hl1 := hl.alloc (.loop .ready .nrm τ ps asg body)
  obtain ⟨v, h, H2, e1, e2, e3, hK⟩ := hg l (halloc H (.loop .ready .nrm τ ps asg body)) (fun i S H' => ∃ os', S = l :: os'.map Prod.fst ∧ Loc H0 H' ((l, .loop .ready .nrm τ ps asg body) :: os') ∧ I i os')
    (fun H' => ∃ x os', x ≠ AX.nrm ∧ Loc H0 H' ((l, .loop .done x τ ps asg body) :: os') ∧ Qx x os') (l :: os.map Prod.fst) (by simp [l]) (fun s hs => by
      rcases List.mem_cons.1 hs with rfl | hs
      · simp [l]
      · obtain ⟨p, hp, rfl⟩ := List.mem_map.1 hs
        have := hl.lt hp
        simp; omega) (by simp) (by rintro i S H' H'' O ⟨os', hS, hL, hI⟩ hm ho; exact ⟨os', hS, hL.apart hm (fun o h1 => ⟨by have := (ho o h1).1; have := hl.len; simp at *; omega, by have := (ho o h1).2; rw [hS] at this; simpa using this⟩), hI⟩) (by rintro i S H' ⟨os', hS, hL, hI⟩; exact hV i H' _ _ os' hL hI) ⟨os, rfl, hl1.dnone, h0⟩ (by
      rintro i S H' args hi ⟨os', rfl, hL, hI⟩ hX
      rw [lim_yld_eq]
      obtain ⟨hxl, hstep⟩ := step i hi H' os' args hL hI hX
      obtain ⟨x1, τ1, H1, f1, f2, rfl, os1, hL1, hM1, f3⟩ := wp_sound (τ := putAll ps args τ) asg (by rw [putAll_len]; exact hda) (by rw [rho_putAll _ _ _ hps]; exact hstep)
      rw [putAll_len] at f2
      obtain ⟨x2, τ2, H3, g1, g2, os2, hL2, hM2, hs2, g3⟩ := wp_sound (τ := τ1) body (by rw [f2]; exact hdb) (f3 _ (hL1.set _) (hM1.set (.inl (by simp [l]))))
      have a1 := hL.head
      have a2 := hL1.head
      have a3 := hL2.head
      refine ⟨x2 == .nrm, hset H3 l (some (.loop (if x2 = .nrm then .ready else .done) x2 τ ps asg body)), l :: os2.map Prod.fst, ?_, ⟨dmin' H3.d l, ?_, ?_⟩, hM2.set (.inl (by simp [l])), ?_, ?_, ?_, ?_⟩
      · unfold runY
        simp only [l, a1, hxl, if_true, f1, a2, g1, a3]
      · simp only [hset_d]; exact dmin'_eq _ _
      · exact dmin'_le _ _
      · intro s hs
        rcases List.mem_cons.1 hs with rfl | hs
        · exact .inl (by simp)
        · rcases hs2 s hs with hs | hs
          · exact .inl (by simp [hs])
          · exact .inr hs
      · intro s hs
        rcases List.mem_cons.1 hs with rfl | hs
        · simpa using hL2.lt (p := (l, .loop .busy .nrm τ ps asg body)) (by simp [l])
        · obtain ⟨p, hp, rfl⟩ := List.mem_map.1 hs
          simpa using hL2.lt (p := p) (by simp [hp])
      · intro ht
        have hx : x2 = .nrm := by simpa using ht
        subst hx
        rcases g3 with ⟨_, g3⟩ | ⟨g3, _⟩
        · exact ⟨os2, rfl, hL2.set _, g3⟩
        · exact absurd rfl g3
      · intro ht
        have hx : x2 ≠ .nrm := by simpa using ht
        rcases g3 with ⟨g3, _⟩ | ⟨_, g3⟩
        · exact absurd g3 hx
        · refine ⟨x2, os2, hx, ?_, g3⟩
          rw [if_neg hx]
          exact hL2.set _)
  have hmv : ∀ {o : AObj} {os' : List (Nat × AObj)}, Loc H0 H2 ((l, o) :: os') → Loc H0 (h.getD (halloc H (.loop .ready .nrm τ ps asg body))) ((l, o) :: os') := by
    intro o os' hL
    refine ⟨by rw [e2]; exact hL.len, fun m hm => ?_, fun i hi => by rw [e2]; exact hL.old i hi, fun p hp => ?_, hL.nd⟩
    · rw [e3] at hm
      simp only [halloc_d] at hm
      cases hd2 : H2.d with
      | none => rw [hd2] at hm; exact hl.d m (by simpa using hm)
      | some k =>
        rw [hd2] at hm
        have hk := hL.d k hd2
        simp only [dminO_some] at hm
        cases hd : H.d with
        | none => rw [hd] at hm; simp at hm; omega
        | some j => rw [hd] at hm; simp at hm; have := hl.d j hd; omega
    · have := hL.has p hp
      refine ⟨?_, this.2⟩
      unfold hget at this ⊢
      rw [e2]; exact this.1
  rw [lim_range_eq]
  unfold runR
  rw [if_pos hrd]
  simp only []
  show ∃ x H2' os2, (match (lim Γ A).ent g (fs ++ [AV.yld l] ++ cs) (halloc H (.loop .ready .nrm τ ps asg body)) with
      | some (_, h) =>
        match hget (h.getD (halloc H (.loop .ready .nrm τ ps asg body))) l with
        | some (.loop st pe _ _ _ _) => if st = .busy then none else some (pe, τ, hset (h.getD (halloc H (.loop .ready .nrm τ ps asg body))) l none)
        | _ => none
      | none => none) = some (x, τ, H2') ∧ _
  rw [e1]
  rcases hK with ⟨S, os', hS, hL, hI⟩ | ⟨x, os', hx, hL, hI⟩
  · have a1 := (hmv hL).head
    refine ⟨.nrm, _, os', by simp only [a1]; rfl, (hmv hL).kill, .inl ⟨rfl, hI⟩⟩
  · have a1 := (hmv hL).head
    refine ⟨x, _, os', by simp only [a1]; rfl, (hmv hL).kill, .inr ⟨hx, hI⟩⟩

/-- The same, as a step of code; the loop's own object stays shut. -/
theorem wp_rangeFnO {g : FuncId} {fs cs : List AV} {V : Hp → Prop} {n : Nat} {X : Nat → Hp → List AV → Prop} {rd : Option Nat} {f : Opd} {ps : List Nat} {asg body : AC} {ρ : Rho} {H : Hp} {os : List (Nat × AObj)} {Q : Post} (hf : evR ρ f = .fn g fs cs) (hg : GenO (lim Γ A) g fs cs V n X) (hrd : rdAlive H rd = true) (hl : Loc H0 H os)
    (I : Nat → List (Nat × AObj) → Prop) (Qx : AX → List (Nat × AObj) → Prop) (hV : ∀ i H' l o os', Loc H0 H' ((l, o) :: os') → I i os' → V H') (h0 : I 0 os)
    (step : ∀ i (hi : i < n) l lo lb H' os' args, isLoopO lo = true → isLoopO lb = true → Loc H0 H' ((l, lo) :: os') → I i os' → X i H' args → args.length = ps.length ∧
      wp (lim Γ A) (some l) asg (putR ps args ρ) H' fun x ρ' H1 => x = .nrm ∧ ∃ os1, Loc H0 H1 ((l, lo) :: os1) ∧ Mut H' H1 (l :: os'.map Prod.fst) ∧
        ∀ H1', Loc H0 H1' ((l, lb) :: os1) → Mut H' H1' (l :: os'.map Prod.fst) → wp (lim Γ A) (some l) body ρ' H1' fun x ρ2 H2 =>
          ∃ os2, Loc H0 H2 ((l, lb) :: os2) ∧ Mut H' H2 (l :: os'.map Prod.fst) ∧ (∀ s ∈ os2.map Prod.fst, s ∈ os'.map Prod.fst ∨ H'.l.length ≤ s) ∧ ((x = .nrm ∧ I (i + 1) os2) ∨ (x ≠ .nrm ∧ Qx x os2)))
    (hQ : ∀ x H2 os2, Loc H0 H2 os2 → ((x = .nrm ∧ I n os2) ∨ (x ≠ .nrm ∧ Qx x os2)) → Q x ρ H2) : wp (lim Γ A) rd (.rangeFn f ps asg body) ρ H Q := by
  simp only [wp]
  intro τ hτ hok
  subst hτ
  simp only [Bool.and_eq_true, List.all_eq_true, decide_eq_true_eq] at hok
  obtain ⟨x, H2, os2, e1, e2, e3⟩ := range_locO hg hrd hl hok.1.1 hok.1.2 hok.2 I Qx hV h0 (fun i hi H' os' args h1 h2 h3 => step i hi _ _ (.loop .busy .nrm τ ps asg body) H' os' args rfl rfl h1 h2 h3)
  rw [hf]
  exact ⟨x, H2, e1, hQ x H2 os2 e2 e3⟩

/-- A loop over a function; what its body writes was there ahead of it. -/
theorem range_mut {g : FuncId} {fs cs : List AV} {V : Hp → Prop} {n : Nat} {X : Nat → Hp → List AV → Prop} {rd : Option Nat} {ps : List Nat} {asg body : AC} {τ : List AV} {H : Hp} {S0 : List Nat} (hg : GenM (lim Γ A) g fs cs V n X) (hrd : rdAlive H rd = true) (hS0 : ∀ s ∈ S0, s < H.l.length)
    (hps : ∀ p ∈ ps, p < τ.length) (hda : dstOK τ.length asg = true) (hdb : dstOK τ.length body = true)
    (I : Nat → List Nat → Hp → Prop) (hst : ∀ i S H' H'', I i S H' → H'.l.length ≤ H''.l.length → (∀ id, id < H'.l.length → id ≠ H.l.length → hget H'' id = hget H' id) → I i S H'')
    (hV : ∀ i S H', I i S H' → V H') (h0 : I 0 S0 H)
    (step : ∀ i (hi : i < n) S H' args, H.l.length ∉ S → I i S H' → X i H' args → args.length = ps.length ∧
      wp (lim Γ A) (some H.l.length) asg (putR ps args (rho τ)) H' fun x ρ' H1 => x = .nrm ∧ H1 = H' ∧
        ∀ H1', I i S H1' → H1'.l.length = H'.l.length → (∃ o, isLoopO o = true ∧ hget H1' H.l.length = some o) → wp (lim Γ A) (some H.l.length) body ρ' H1' fun x ρ2 H2 =>
          x = .nrm ∧ ∃ S', Mut H1' H2 S ∧ (∀ s ∈ S', s ∈ S ∨ H'.l.length ≤ s) ∧ I (i + 1) S' H2) :
    ∃ H2 S, (lim Γ A).range rd (.fn g fs cs) ps asg body τ H = some (.nrm, τ, H2) ∧ I n S H2 ∧ Mut H H2 S0 ∧ (∀ s ∈ S, s ∈ S0 ∨ H.l.length < s) ∧ ∃ e, H2.d = dminO H.d e := by
  let l := H.l.length
  have hgl : hget (halloc H (.loop .ready .nrm τ ps asg body)) l = some (.loop .ready .nrm τ ps asg body) := by simp [l]
  obtain ⟨v, h, H2, e1, e2, e3, hK⟩ := hg l (halloc H (.loop .ready .nrm τ ps asg body)) (fun i S H' => ∃ S', S = l :: S' ∧ l ∉ S' ∧ I i S' H' ∧ hget H' l = some (.loop .ready .nrm τ ps asg body) ∧ Mut { l := (halloc H (.loop .ready .nrm τ ps asg body)).l, d := none } H' (l :: S0) ∧ (∀ s ∈ S', s ∈ S0 ∨ H.l.length < s))
    (fun H' => False) (l :: S0) (by simp [l]) (fun s hs => by
      rcases List.mem_cons.1 hs with rfl | hs
      · simp [l]
      · have := hS0 s hs
        simp; omega) (by simp) (by
        rintro i S H' H'' ⟨S', hS, hl', hI, hg', hM, hs'⟩ hm
        refine ⟨S', hS, hl', hst i S' H' H'' hI hm.len (fun id hid _ => hm.get hid (by simp)), ?_, hM.trans hm (by simp), hs'⟩
        exact hm.get' hg' (by simp)) (by rintro i S H' ⟨S', hS, hl', hI, _⟩; exact hV i S' H' hI) ⟨S0, rfl, fun hm => by have := hS0 l hm; simp [l] at this, hst 0 S0 H _ h0 (by simp) (fun id hid _ => by
          have : hget (halloc H (.loop .ready .nrm τ ps asg body)) id = hget H id := by rw [hget_halloc, if_neg (by omega)]
          exact this), hgl, Mut.refl _ _, fun s hs => .inl hs⟩ (by
      rintro i S H' args hi ⟨S', rfl, hl', hI, hg', hM, hs'⟩ hX
      rw [lim_yld_eq]
      obtain ⟨hxl, hstep⟩ := step i hi S' H' args hl' hI hX
      obtain ⟨x1, τ1, H1, f1, f2, rfl, rfl, f3⟩ := wp_sound (τ := putAll ps args τ) asg (by rw [putAll_len]; exact hda) (by rw [rho_putAll _ _ _ hps]; exact hstep)
      rw [putAll_len] at f2
      have hll : l < H1.l.length := hget_lt hg'
      have hI2 : I i S' (hset H1 l (some (.loop .busy .nrm τ ps asg body))) := hst i S' H1 _ hI (by simp) (fun id _ hne => by rw [hget_hset, if_neg hne])
      have hg2 : hget (hset H1 l (some (.loop .busy .nrm τ ps asg body))) l = some (.loop .busy .nrm τ ps asg body) := by rw [hget_hset, if_pos rfl]; simp [hll]
      obtain ⟨x2, τ2, H3, g1, g2, rfl, S2, hM2, hs2, hI3⟩ := wp_sound (τ := τ1) body (by rw [f2]; exact hdb) (f3 _ hI2 (by simp) ⟨_, rfl, hg2⟩)
      have a3 : hget H3 l = some (.loop .busy .nrm τ ps asg body) := hM2.get' hg2 hl'
      have hMh : Mut H1 (hset H1 l (some (.loop .busy .nrm τ ps asg body))) (l :: S') := (Mut.refl _ _).set (.inl (by simp))
      have hM3 : Mut H1 H3 (l :: S') := hMh.trans hM2 (fun s hs => .inl (by simp [hs]))
      refine ⟨true, hset H3 l (some (.loop .ready .nrm τ ps asg body)), l :: S2, ?_, ⟨dmin' H3.d l, ?_, ?_⟩, hM3.set (.inl (by simp)), ?_, ?_, ?_⟩
      · unfold runY
        simp only [l] at hg' a3 g1 f1 ⊢
        simp only [hg', hxl, if_true, f1, g1, a3]
        rfl
      · simp only [hset_d]; exact dmin'_eq _ _
      · exact dmin'_le _ _
      · intro s hs
        rcases List.mem_cons.1 hs with rfl | hs
        · exact .inl (by simp)
        · rcases hs2 s hs with hs | hs
          · exact .inl (by simp [hs])
          · exact .inr hs
      · intro _
        have hl3 : l < H3.l.length := hget_lt a3
        refine ⟨S2, rfl, fun hm => ?_, hst _ S2 H3 _ hI3 (by simp) (fun id _ hne => by rw [hget_hset, if_neg hne]), by rw [hget_hset, if_pos rfl]; simp [hl3], ?_, fun s hs => ?_⟩
        · rcases hs2 l hm with h | h
          · exact hl' h
          · omega
        · refine (hM.trans hM3 (fun s hs => ?_)).set (.inl (by simp))
          rcases List.mem_cons.1 hs with rfl | hs
          · exact .inl (by simp)
          · rcases hs' s hs with h | h
            · exact .inl (by simp [h])
            · exact .inr (by simp; omega)
        · rcases hs2 s hs with h | h
          · exact hs' s h
          · exact .inr (by simp only [l] at hll; omega)
      · intro ht; cases ht)
  rcases hK with ⟨S, S', rfl, hl', hI, hg', hM, hs'⟩ | hK
  · have hlen : (h.getD (halloc H (.loop .ready .nrm τ ps asg body))).l.length = H2.l.length := by rw [e2]
    have a1 : hget (h.getD (halloc H (.loop .ready .nrm τ ps asg body))) l = some (.loop .ready .nrm τ ps asg body) := by unfold hget at hg' ⊢; rw [e2]; exact hg'
    have hMs : Mut (halloc H (.loop .ready .nrm τ ps asg body)) (h.getD (halloc H (.loop .ready .nrm τ ps asg body))) (l :: S0) := by
      have := hM.settled (H := halloc H (.loop .ready .nrm τ ps asg body))
      have e : h.getD (halloc H (.loop .ready .nrm τ ps asg body)) = { l := H2.l, d := dminO (halloc H (.loop .ready .nrm τ ps asg body)).d H2.d } := by rw [← e2, ← e3]
      rw [e]; exact this
    refine ⟨hset (h.getD (halloc H (.loop .ready .nrm τ ps asg body))) l none, S', ?_, ?_, ?_, hs', ?_⟩
    · rw [lim_range_eq]
      unfold runR
      rw [if_pos hrd]
      simp only []
      show (match (lim Γ A).ent g (fs ++ [AV.yld l] ++ cs) (halloc H (.loop .ready .nrm τ ps asg body)) with
      | some (_, h) =>
        match hget (h.getD (halloc H (.loop .ready .nrm τ ps asg body))) l with
        | some (.loop st pe _ _ _ _) => if st = LoopState.busy then none else some (pe, τ, hset (h.getD (halloc H (.loop .ready .nrm τ ps asg body))) l none)
        | _ => none
      | none => none) = _
      rw [e1]
      simp only [a1]
      rfl
    · refine hst n S' H2 _ hI (by simp [hlen]) (fun id _ hne => ?_)
      rw [hget_hset, if_neg hne]
      unfold hget; rw [e2]
    · have := (((Mut.refl H S0).alloc (.loop .ready .nrm τ ps asg body)).trans hMs (fun s hs => by
        rcases List.mem_cons.1 hs with rfl | hs
        · exact .inr (Nat.le_refl _)
        · exact .inl hs)).set (i := l) (o := none) (.inr (Nat.le_refl _))
      exact this
    · simp only [hset_d, e3, halloc_d]
      refine ⟨some (dmin' H2.d l), ?_⟩
      cases H.d <;> cases H2.d <;> simp [dminO, dmin', dmin, Nat.min_assoc]
  · exact hK.elim

theorem wp_range_mut {g : FuncId} {fs cs : List AV} {V : Hp → Prop} {n : Nat} {X : Nat → Hp → List AV → Prop} {rd : Option Nat} {f : Opd} {ps : List Nat} {asg body : AC} {ρ : Rho} {H : Hp} {S0 : List Nat} {Q : Post} (hf : evR ρ f = .fn g fs cs) (hg : GenM (lim Γ A) g fs cs V n X) (hrd : rdAlive H rd = true) (hS0 : ∀ s ∈ S0, s < H.l.length)
    (I : Nat → List Nat → Hp → Prop) (hst : ∀ i S H' H'', I i S H' → H'.l.length ≤ H''.l.length → (∀ id, id < H'.l.length → id ≠ H.l.length → hget H'' id = hget H' id) → I i S H'')
    (hV : ∀ i S H', I i S H' → V H') (h0 : I 0 S0 H)
    (step : ∀ i (hi : i < n) S H' args, H.l.length ∉ S → I i S H' → X i H' args → args.length = ps.length ∧
      wp (lim Γ A) (some H.l.length) asg (putR ps args ρ) H' fun x ρ' H1 => x = .nrm ∧ H1 = H' ∧
        ∀ H1', I i S H1' → H1'.l.length = H'.l.length → (∃ o, isLoopO o = true ∧ hget H1' H.l.length = some o) → wp (lim Γ A) (some H.l.length) body ρ' H1' fun x ρ2 H2 =>
          x = .nrm ∧ ∃ S', Mut H1' H2 S ∧ (∀ s ∈ S', s ∈ S ∨ H'.l.length ≤ s) ∧ I (i + 1) S' H2)
    (hQ : ∀ H2 S, I n S H2 → Mut H H2 S0 → (∀ s ∈ S, s ∈ S0 ∨ H.l.length < s) → (∃ e, H2.d = dminO H.d e) → Q .nrm ρ H2) : wp (lim Γ A) rd (.rangeFn f ps asg body) ρ H Q := by
  simp only [wp]
  intro τ hτ hok
  subst hτ
  simp only [Bool.and_eq_true, List.all_eq_true, decide_eq_true_eq] at hok
  obtain ⟨H2, S, e1, e2, e3, e4, e5⟩ := range_mut hg hrd hS0 hok.1.1 hok.1.2 hok.2 I hst hV h0 step
  rw [hf]
  exact ⟨.nrm, H2, e1, hQ H2 S e2 e3 e4 e5⟩
end
end Go.Proofs.Eng
/- The row of a tree's terms, run by the engine. -/
set_option linter.unusedVariables false
set_option linter.unusedSimpArgs false
set_option maxRecDepth 100000
namespace Go.Proofs.Eng
open Go
def kidsT (t : Tr) (n : Int) : List Int := match t.nodes[n.toNat]? with
  | some nd => nd.kids
  | none => []
def walkF (t : Tr) : Nat → Int → List Int
  | 0, _ => []
  | f + 1, n => n :: (kidsT t n).flatMap (walkF t f)
/-- The terms within a term, it ahead of all. -/
def walkS (t : Tr) (n : Int) : List Int := walkF t (n.toNat + 1) n
/-- Kids stand ahead of what they are kids of. -/
def Kids (t : Tr) : Prop := ∀ (j : Nat) (nd : Nd), t.nodes[j]? = some nd → ∀ k ∈ nd.kids, 0 ≤ k ∧ k < (j : Int)
theorem kids_of_check {t : Tr} (h : checkB t = true) : Kids t := by
  obtain ⟨_, _, _, ct, cy, h1, _⟩ := checkB_parts h
  intro j nd hj k hk
  have := (nodesS_true h1 j nd hj).1 k hk
  simpa using this
theorem Kids.at {t : Tr} (h : Kids t) {n : Int} (hn : 0 ≤ n) : ∀ k ∈ kidsT t n, 0 ≤ k ∧ k < n := by
  intro k hk
  unfold kidsT at hk
  split at hk
  · rename_i nd hnd
    have := h _ _ hnd k hk
    omega
  · simp at hk
theorem flatMap_congr' {α β : Type} {l : List α} {f g : α → List β} (h : ∀ a ∈ l, f a = g a) : l.flatMap f = l.flatMap g := by
  induction l with
  | nil => rfl
  | cons a r ih => simp [h a (by simp), ih (fun b hb => h b (by simp [hb]))]
theorem walkF_eq {t : Tr} (h : Kids t) : ∀ (f g : Nat) (n : Int), 0 ≤ n → n.toNat < f → n.toNat < g → walkF t f n = walkF t g n
  | 0, _, n, _, hf, _ => by omega
  | f + 1, 0, n, _, _, hg => by omega
  | f + 1, g + 1, n, hn, hf, hg => by
    simp only [walkF]
    congr 1
    exact flatMap_congr' fun k hk => by
      have := h.at hn k hk
      exact walkF_eq h f g k this.1 (by omega) (by omega)
theorem walkS_eq {t : Tr} (h : Kids t) {n : Int} (hn : 0 ≤ n) : walkS t n = n :: (kidsT t n).flatMap (walkS t) := by
  show n :: (kidsT t n).flatMap (walkF t n.toNat) = _
  congr 1
  exact flatMap_congr' fun k hk => by
    have := h.at hn k hk
    exact walkF_eq h _ _ k this.1 (by omega) (by omega)
/-- A field of an element. -/
theorem Vw.atf {H : Hp} {sz : Nat} {x : AV} {es : List AV} {k : IntKind} {i off : Nat} {ys : List AV} {v : AV} (h : Vw H sz x es) (h1 : es[i]? = some (.agg ys)) (hl : ys.length = sz) (hg : ys.all AV.one = true) (hv : ys[off]? = some v) : ∃ p q, aiaddr sz x (.lit (.int k (i : Int))) = some p ∧ afaddr off p = some q ∧ aload H none q = some v := by
  have hi := (List.getElem?_eq_some_iff.1 h1).1
  have hd : ys.drop off = v :: ys.drop (off + 1) := by
    obtain ⟨ho, e⟩ := List.getElem?_eq_some_iff.1 hv
    rw [List.drop_eq_getElem_cons ho, e]
  rcases h with (⟨_, he⟩ | rfl) | ⟨id, o, t, all, rfl, h2, h3, h4⟩
  · rw [he] at h1; simp at h1
  · refine ⟨.vp ys, .vp (ys.drop off), by simpa [AV.cells] using aiaddr_sln (sz := sz) (k := k) h1 (by simpa [AV.good] using hg), rfl, ?_⟩
    simp [loadC, hd]
  · refine ⟨.ep id (o + i) 0, .ep id (o + i) (0 + off), by simp [aiaddr, hi], rfl, ?_⟩
    have he : all[o + i]? = some (.agg ys) := by
      rw [← h1, ← h4, List.getElem?_take, if_pos hi, List.getElem?_drop]
    simp only [aload, h2, he]
    rw [if_pos (by simpa [AV.good] using hg), if_neg (by simp), if_pos (by simpa [AV.cells] using hl)]
    simp [AV.cells, loadC, hd]
theorem TrR.kid {H : Hp} {a b c : AV} {t : Tr} (h : TrR H (.agg [a, b, c]) t) {i : Nat} {nd : Nd} (hi : t.nodes[i]? = some nd) {k : IntKind} : ∃ p q v, aiaddr 8 a (.lit (.int k (i : Int))) = some p ∧ afaddr 6 p = some q ∧ aload H none q = some v ∧ VI H v nd.kids := by
  obtain ⟨a', b', c', e, ⟨xs, x1, x2, x3⟩, _, _⟩ := h
  cases e
  have hlt : i < xs.length := by rw [x2]; exact (List.getElem?_eq_some_iff.1 hi).1
  obtain ⟨na, nb, nc, e, v1, v2, v3⟩ := x3 i xs[i] nd (List.getElem?_eq_getElem hlt) hi
  obtain ⟨p, q, h1, h2, h3⟩ := x1.atf (k := k) (i := i) (off := 6) (ys := [avInt .i64 nd.kind, avInt .i64 nd.pos, avStr nd.name, avInt .i64 nd.int, avInt .u64 nd.bits, na, nb, nc]) (v := nb) (by rw [List.getElem?_eq_getElem hlt, e]; rfl) rfl (by simp [v1.one, v2.one, v3.one]) rfl
  exact ⟨p, q, nb, h1, h2, h3, v2⟩
end Go.Proofs.Eng
/- Templates of functions, as the engine takes them; numbers of functions and types by names. Printed by tm.py. -/
set_option linter.unusedVariables false
set_option maxRecDepth 100000
namespace Go.Proofs.Eng
open Go

def L_tree_two_terms_1 (N : Nat → Nat) : AC :=
    .seq (
     .ops [⟨(some 70), .bin .lss (.t 69) (.t 68), none⟩]) (
    .seq (
     .cond (.t 70) (
      .skip) (
      .exit 0)) (
    .seq (
     .block 1 (
      .seq (
       .ops [⟨(some 71), .mov (.t 69), none⟩, ⟨(some 9), .mov (.t 71), none⟩]) (
      .seq (
       .dops 7 [⟨(some 72), .load (some 6) (.t 3), none⟩, ⟨(some 73), .faddr 7 (.t 7), none⟩, ⟨(some 74), .load none (.t 73), none⟩, ⟨(some 75), .mov (.t 9), none⟩, ⟨(some 76), .iaddr 1 (.t 74) (.t 75), none⟩, ⟨(some 77), .load none (.t 76), none⟩, ⟨(some 78), .faddr 7 (.t 8), none⟩, ⟨(some 79), .load none (.t 78), none⟩, ⟨(some 80), .mov (.t 9), none⟩, ⟨(some 81), .iaddr 1 (.t 79) (.t 80), none⟩, ⟨(some 82), .load none (.t 81), none⟩, ⟨(some 83), .call (.c (.fn (f_tree_two_types N) [] [])) [(.t 72), (.t 77), (.t 82)], none⟩, ⟨(some 84), .un .not (.t 83), none⟩] [2, 0, 2, 0, 0, 2, 0, 2, 0, 0, 2, 0, 0] []) (
      .cond (.t 84) (
       .seq (
        .ops [⟨(some 6), .mov (.c (.lit (.bool false))), none⟩]) (
       .ret)) (
       .skip))))) (
    .ops [⟨(some 85), .bin .add (.t 69) (.c (.lit (.int .i64 1))), none⟩, ⟨(some 69), .mov (.t 85), none⟩])))
def L_tree_two_terms_2 (N : Nat → Nat) : AC :=
    .seq (
     .ops [⟨(some 90), .bin .lss (.t 89) (.t 88), none⟩]) (
    .seq (
     .cond (.t 90) (
      .skip) (
      .exit 2)) (
    .seq (
     .block 3 (
      .seq (
       .ops [⟨(some 91), .mov (.t 89), none⟩, ⟨(some 10), .mov (.t 91), none⟩]) (
      .seq (
       .dops 13 [⟨(some 92), .load (some 6) (.t 3), none⟩, ⟨(some 93), .faddr 6 (.t 7), none⟩, ⟨(some 94), .load none (.t 93), none⟩, ⟨(some 95), .mov (.t 10), none⟩, ⟨(some 96), .iaddr 1 (.t 94) (.t 95), none⟩, ⟨(some 97), .load none (.t 96), none⟩, ⟨(some 98), .faddr 6 (.t 8), none⟩, ⟨(some 99), .load none (.t 98), none⟩, ⟨(some 100), .mov (.t 10), none⟩, ⟨(some 101), .iaddr 1 (.t 99) (.t 100), none⟩, ⟨(some 102), .load none (.t 101), none⟩, ⟨(some 103), .call (.c (.fn (f_tree_two_terms N) [] [])) [(.t 92), (.t 97), (.t 102)], none⟩, ⟨(some 104), .un .not (.t 103), none⟩] [2, 0, 2, 0, 0, 2, 0, 2, 0, 0, 2, 0, 0] []) (
      .cond (.t 104) (
       .seq (
        .ops [⟨(some 6), .mov (.c (.lit (.bool false))), none⟩]) (
       .ret)) (
       .skip))))) (
    .ops [⟨(some 105), .bin .add (.t 89) (.c (.lit (.int .i64 1))), none⟩, ⟨(some 89), .mov (.t 105), none⟩])))
def K_tree_two_terms_2 (N : Nat → Nat) : AC :=
 .seq (
  .ops [⟨(some 6), .mov (.c (.lit (.bool true))), none⟩]) (
 .ret)
def K_tree_two_terms_1 (N : Nat → Nat) : AC :=
 .seq (
  .seq (
   .ops [⟨(some 86), .faddr 6 (.t 7), none⟩, ⟨(some 87), .load none (.t 86), none⟩, ⟨(some 88), .len (.t 87), none⟩, ⟨(some 89), .mov (.c (.lit (.int .i64 0))), none⟩]) (
  .block 2 (
   .loop (L_tree_two_terms_2 N)))) (K_tree_two_terms_2 N)
/-- (azimuth/tree.two).terms -/
def C_tree_two_terms (N : Nat → Nat) : AFunc := ⟨106, [.inl 6],
 .seq (
  .ops [⟨(some 3), .box (t_tree_two N) (.t 0), none⟩, ⟨(some 6), .mov (.c (.lit (.bool false))), none⟩]) (
 .seq (
  .dops 1 [⟨(some 11), .faddr 0 (.t 3), none⟩, ⟨(some 12), .faddr 0 (.t 11), none⟩, ⟨(some 13), .load none (.t 12), none⟩, ⟨(some 14), .mov (.t 1), none⟩, ⟨(some 15), .iaddr 8 (.t 13) (.t 14), none⟩, ⟨(some 16), .load (some 8) (.t 15), none⟩, ⟨(some 17), .faddr 3 (.t 3), none⟩, ⟨(some 18), .faddr 0 (.t 17), none⟩, ⟨(some 19), .load none (.t 18), none⟩, ⟨(some 20), .mov (.t 2), none⟩, ⟨(some 21), .iaddr 8 (.t 19) (.t 20), none⟩, ⟨(some 22), .load (some 8) (.t 21), none⟩, ⟨(some 7), .new (t_api_Node N) (.agg [(.lit (.int .i64 0)), (.lit (.int .i64 0)), (.lit (.string (mkS []))), (.lit (.int .i64 0)), (.lit (.int .u64 0)), (.lit (.slice none 0 0)), (.lit (.slice none 0 0)), (.lit (.slice none 0 0))]), none⟩, ⟨(some 8), .new (t_api_Node N) (.agg [(.lit (.int .i64 0)), (.lit (.int .i64 0)), (.lit (.string (mkS []))), (.lit (.int .i64 0)), (.lit (.int .u64 0)), (.lit (.slice none 0 0)), (.lit (.slice none 0 0)), (.lit (.slice none 0 0))]), none⟩, ⟨none, .store 8 (.t 7) (.t 16), none⟩, ⟨none, .store 8 (.t 8) (.t 22), none⟩] [0, 0, 2, 0, 0, 2, 0, 0, 2, 0, 0, 2, 1, 1, 3, 0] []) (
 .seq (
  .seq (
   .ops [⟨(some 23), .faddr 0 (.t 7), none⟩, ⟨(some 24), .load none (.t 23), none⟩, ⟨(some 25), .faddr 0 (.t 8), none⟩, ⟨(some 26), .load none (.t 25), none⟩, ⟨(some 27), .eq true .pint (.t 24) (.t 26), none⟩, ⟨(some 28), .mov (.t 27), none⟩, ⟨(some 29), .faddr 2 (.t 7), (some (28, false))⟩, ⟨(some 30), .load none (.t 29), (some (28, false))⟩, ⟨(some 31), .faddr 2 (.t 8), (some (28, false))⟩, ⟨(some 32), .load none (.t 31), (some (28, false))⟩, ⟨(some 33), .eq true .pstr (.t 30) (.t 32), (some (28, false))⟩, ⟨(some 34), .pick (.t 28) (.c (.lit (.bool true))) (.t 33), none⟩, ⟨(some 35), .mov (.t 34), none⟩, ⟨(some 36), .faddr 3 (.t 7), (some (35, false))⟩, ⟨(some 37), .load none (.t 36), (some (35, false))⟩, ⟨(some 38), .faddr 3 (.t 8), (some (35, false))⟩, ⟨(some 39), .load none (.t 38), (some (35, false))⟩, ⟨(some 40), .eq true .pint (.t 37) (.t 39), (some (35, false))⟩, ⟨(some 41), .pick (.t 35) (.c (.lit (.bool true))) (.t 40), none⟩, ⟨(some 42), .mov (.t 41), none⟩, ⟨(some 43), .faddr 4 (.t 7), (some (42, false))⟩, ⟨(some 44), .load none (.t 43), (some (42, false))⟩, ⟨(some 45), .faddr 4 (.t 8), (some (42, false))⟩, ⟨(some 46), .load none (.t 45), (some (42, false))⟩, ⟨(some 47), .eq true .pint (.t 44) (.t 46), (some (42, false))⟩, ⟨(some 48), .pick (.t 42) (.c (.lit (.bool true))) (.t 47), none⟩, ⟨(some 49), .mov (.t 48), none⟩, ⟨(some 50), .faddr 5 (.t 7), (some (49, false))⟩, ⟨(some 51), .load none (.t 50), (some (49, false))⟩, ⟨(some 52), .faddr 5 (.t 8), (some (49, false))⟩, ⟨(some 53), .load none (.t 52), (some (49, false))⟩, ⟨(some 54), .call (.c (.fn (f_slices_Equal_sl_string_string N) [] [])) [(.t 51), (.t 53)], (some (49, false))⟩, ⟨(some 55), .un .not (.t 54), (some (49, false))⟩, ⟨(some 56), .pick (.t 49) (.c (.lit (.bool true))) (.t 55), none⟩, ⟨(some 57), .mov (.t 56), none⟩, ⟨(some 58), .faddr 6 (.t 7), (some (57, false))⟩, ⟨(some 59), .load none (.t 58), (some (57, false))⟩, ⟨(some 60), .len (.t 59), (some (57, false))⟩, ⟨(some 61), .faddr 6 (.t 8), (some (57, false))⟩, ⟨(some 62), .load none (.t 61), (some (57, false))⟩, ⟨(some 63), .len (.t 62), (some (57, false))⟩, ⟨(some 64), .eq true .pint (.t 60) (.t 63), (some (57, false))⟩, ⟨(some 65), .pick (.t 57) (.c (.lit (.bool true))) (.t 64), none⟩]) (
  .cond (.t 65) (
   .seq (
    .ops [⟨(some 6), .mov (.c (.lit (.bool false))), none⟩]) (
   .ret)) (
   .skip))) (
 .seq (
  .seq (
   .ops [⟨(some 66), .faddr 7 (.t 7), none⟩, ⟨(some 67), .load none (.t 66), none⟩, ⟨(some 68), .len (.t 67), none⟩, ⟨(some 69), .mov (.c (.lit (.int .i64 0))), none⟩]) (
  .block 0 (
   .loop (L_tree_two_terms_1 N)))) (K_tree_two_terms_1 N)))), false⟩

def L_tree_two_types_1 (N : Nat → Nat) : AC :=
    .seq (
     .ops [⟨(some 62), .bin .lss (.t 61) (.t 60), none⟩]) (
    .seq (
     .cond (.t 62) (
      .skip) (
      .exit 0)) (
    .seq (
     .block 1 (
      .seq (
       .ops [⟨(some 63), .mov (.t 61), none⟩, ⟨(some 9), .mov (.t 63), none⟩]) (
      .seq (
       .dops 7 [⟨(some 64), .load (some 6) (.t 3), none⟩, ⟨(some 65), .faddr 4 (.t 7), none⟩, ⟨(some 66), .load none (.t 65), none⟩, ⟨(some 67), .mov (.t 9), none⟩, ⟨(some 68), .iaddr 1 (.t 66) (.t 67), none⟩, ⟨(some 69), .load none (.t 68), none⟩, ⟨(some 70), .faddr 4 (.t 8), none⟩, ⟨(some 71), .load none (.t 70), none⟩, ⟨(some 72), .mov (.t 9), none⟩, ⟨(some 73), .iaddr 1 (.t 71) (.t 72), none⟩, ⟨(some 74), .load none (.t 73), none⟩, ⟨(some 75), .call (.c (.fn (f_tree_two_types N) [] [])) [(.t 64), (.t 69), (.t 74)], none⟩, ⟨(some 76), .un .not (.t 75), none⟩] [2, 0, 2, 0, 0, 2, 0, 2, 0, 0, 2, 0, 0] []) (
      .cond (.t 76) (
       .seq (
        .ops [⟨(some 6), .mov (.c (.lit (.bool false))), none⟩]) (
       .ret)) (
       .skip))))) (
    .ops [⟨(some 77), .bin .add (.t 61) (.c (.lit (.int .i64 1))), none⟩, ⟨(some 61), .mov (.t 77), none⟩])))
def K_tree_two_types_1 (N : Nat → Nat) : AC :=
 .seq (
  .ops [⟨(some 6), .mov (.c (.lit (.bool true))), none⟩]) (
 .ret)
/-- (azimuth/tree.two).types -/
def C_tree_two_types (N : Nat → Nat) : AFunc := ⟨78, [.inl 6],
 .seq (
  .ops [⟨(some 3), .box (t_tree_two N) (.t 0), none⟩, ⟨(some 6), .mov (.c (.lit (.bool false))), none⟩]) (
 .seq (
  .dops 1 [⟨(some 10), .faddr 0 (.t 3), none⟩, ⟨(some 11), .faddr 1 (.t 10), none⟩, ⟨(some 12), .load none (.t 11), none⟩, ⟨(some 13), .mov (.t 1), none⟩, ⟨(some 14), .iaddr 6 (.t 12) (.t 13), none⟩, ⟨(some 15), .load (some 6) (.t 14), none⟩, ⟨(some 16), .faddr 3 (.t 3), none⟩, ⟨(some 17), .faddr 1 (.t 16), none⟩, ⟨(some 18), .load none (.t 17), none⟩, ⟨(some 19), .mov (.t 2), none⟩, ⟨(some 20), .iaddr 6 (.t 18) (.t 19), none⟩, ⟨(some 21), .load (some 6) (.t 20), none⟩, ⟨(some 7), .new (t_api_TypeNode N) (.agg [(.lit (.int .i64 0)), (.lit (.int .i64 0)), (.lit (.string (mkS []))), (.lit (.slice none 0 0)), (.lit (.slice none 0 0)), (.lit (.bool false))]), none⟩, ⟨(some 8), .new (t_api_TypeNode N) (.agg [(.lit (.int .i64 0)), (.lit (.int .i64 0)), (.lit (.string (mkS []))), (.lit (.slice none 0 0)), (.lit (.slice none 0 0)), (.lit (.bool false))]), none⟩, ⟨none, .store 6 (.t 7) (.t 15), none⟩, ⟨none, .store 6 (.t 8) (.t 21), none⟩] [0, 0, 2, 0, 0, 2, 0, 0, 2, 0, 0, 2, 1, 1, 3, 0] []) (
 .seq (
  .seq (
   .ops [⟨(some 22), .faddr 0 (.t 7), none⟩, ⟨(some 23), .load none (.t 22), none⟩, ⟨(some 24), .faddr 0 (.t 8), none⟩, ⟨(some 25), .load none (.t 24), none⟩, ⟨(some 26), .eq true .pint (.t 23) (.t 25), none⟩, ⟨(some 27), .mov (.t 26), none⟩, ⟨(some 28), .faddr 2 (.t 7), (some (27, false))⟩, ⟨(some 29), .load none (.t 28), (some (27, false))⟩, ⟨(some 30), .faddr 2 (.t 8), (some (27, false))⟩, ⟨(some 31), .load none (.t 30), (some (27, false))⟩, ⟨(some 32), .eq true .pstr (.t 29) (.t 31), (some (27, false))⟩, ⟨(some 33), .pick (.t 27) (.c (.lit (.bool true))) (.t 32), none⟩, ⟨(some 34), .mov (.t 33), none⟩, ⟨(some 35), .faddr 5 (.t 7), (some (34, false))⟩, ⟨(some 36), .load none (.t 35), (some (34, false))⟩, ⟨(some 37), .faddr 5 (.t 8), (some (34, false))⟩, ⟨(some 38), .load none (.t 37), (some (34, false))⟩, ⟨(some 39), .eq true .pbool (.t 36) (.t 38), (some (34, false))⟩, ⟨(some 40), .pick (.t 34) (.c (.lit (.bool true))) (.t 39), none⟩, ⟨(some 41), .mov (.t 40), none⟩, ⟨(some 42), .faddr 3 (.t 7), (some (41, false))⟩, ⟨(some 43), .load none (.t 42), (some (41, false))⟩, ⟨(some 44), .faddr 3 (.t 8), (some (41, false))⟩, ⟨(some 45), .load none (.t 44), (some (41, false))⟩, ⟨(some 46), .call (.c (.fn (f_slices_Equal_sl_string_string N) [] [])) [(.t 43), (.t 45)], (some (41, false))⟩, ⟨(some 47), .un .not (.t 46), (some (41, false))⟩, ⟨(some 48), .pick (.t 41) (.c (.lit (.bool true))) (.t 47), none⟩, ⟨(some 49), .mov (.t 48), none⟩, ⟨(some 50), .faddr 4 (.t 7), (some (49, false))⟩, ⟨(some 51), .load none (.t 50), (some (49, false))⟩, ⟨(some 52), .len (.t 51), (some (49, false))⟩, ⟨(some 53), .faddr 4 (.t 8), (some (49, false))⟩, ⟨(some 54), .load none (.t 53), (some (49, false))⟩, ⟨(some 55), .len (.t 54), (some (49, false))⟩, ⟨(some 56), .eq true .pint (.t 52) (.t 55), (some (49, false))⟩, ⟨(some 57), .pick (.t 49) (.c (.lit (.bool true))) (.t 56), none⟩]) (
  .cond (.t 57) (
   .seq (
    .ops [⟨(some 6), .mov (.c (.lit (.bool false))), none⟩]) (
   .ret)) (
   .skip))) (
 .seq (
  .seq (
   .ops [⟨(some 58), .faddr 4 (.t 7), none⟩, ⟨(some 59), .load none (.t 58), none⟩, ⟨(some 60), .len (.t 59), none⟩, ⟨(some 61), .mov (.c (.lit (.int .i64 0))), none⟩]) (
  .block 0 (
   .loop (L_tree_two_types_1 N)))) (K_tree_two_types_1 N)))), false⟩
end Go.Proofs.Eng
/- The engine, part AO: drawn regions in which something must spare what was read: each operation by itself. Printed by a program. -/
set_option linter.unusedVariables false
namespace Go.Proofs.Eng
open Go
section
variable {E : Env} {ρ : Rho} {H : Hp}
@[simp ↓] theorem wpE_mov {v0 : Opd} {R : List Nat} {d : Option Nat} {r : List AOper} {q : Nat} {qs : List Nat} {Q : Rho → Hp → Prop} : wpE E R (⟨d, .mov v0, none⟩ :: r) (q :: qs) ρ H Q = wpA E (lvQ q) (.mov v0) ρ H (fun v H' => wpE E R r qs (updO ρ d v) H' Q) := wpE_other rfl rfl
@[simp ↓] theorem wpE_pick {v0 v1 v2 : Opd} {R : List Nat} {d : Option Nat} {r : List AOper} {q : Nat} {qs : List Nat} {Q : Rho → Hp → Prop} : wpE E R (⟨d, .pick v0 v1 v2, none⟩ :: r) (q :: qs) ρ H Q = wpA E (lvQ q) (.pick v0 v1 v2) ρ H (fun v H' => wpE E R r qs (updO ρ d v) H' Q) := wpE_other rfl rfl
@[simp ↓] theorem wpE_box {v0 : TypeId} {v1 : Opd} {R : List Nat} {d : Option Nat} {r : List AOper} {q : Nat} {qs : List Nat} {Q : Rho → Hp → Prop} : wpE E R (⟨d, .box v0 v1, none⟩ :: r) (q :: qs) ρ H Q = wpA E (lvQ q) (.box v0 v1) ρ H (fun v H' => wpE E R r qs (updO ρ d v) H' Q) := wpE_other rfl rfl
@[simp ↓] theorem wpE_new {v0 : TypeId} {v1 : AV} {R : List Nat} {d : Option Nat} {r : List AOper} {q : Nat} {qs : List Nat} {Q : Rho → Hp → Prop} : wpE E R (⟨d, .new v0 v1, none⟩ :: r) (q :: qs) ρ H Q = wpA E (lvQ q) (.new v0 v1) ρ H (fun v H' => wpE E R r qs (updO ρ d v) H' Q) := wpE_other rfl rfl
@[simp ↓] theorem wpE_build {v0 : List AV} {v1 : List (Nat × Nat × Opd)} {R : List Nat} {d : Option Nat} {r : List AOper} {q : Nat} {qs : List Nat} {Q : Rho → Hp → Prop} : wpE E R (⟨d, .build v0 v1, none⟩ :: r) (q :: qs) ρ H Q = wpA E (lvQ q) (.build v0 v1) ρ H (fun v H' => wpE E R r qs (updO ρ d v) H' Q) := wpE_other rfl rfl
@[simp ↓] theorem wpE_bslice {v0 : TypeId} {v1 : Nat} {v2 : Option Nat} {v3 : Nat} {v4 : List AV} {v5 : List (Nat × Nat × Opd)} {R : List Nat} {d : Option Nat} {r : List AOper} {q : Nat} {qs : List Nat} {Q : Rho → Hp → Prop} : wpE E R (⟨d, .bslice v0 v1 v2 v3 v4 v5, none⟩ :: r) (q :: qs) ρ H Q = wpA E (lvQ q) (.bslice v0 v1 v2 v3 v4 v5) ρ H (fun v H' => wpE E R r qs (updO ρ d v) H' Q) := wpE_other rfl rfl
@[simp ↓] theorem wpE_nilchk {v0 : Opd} {R : List Nat} {d : Option Nat} {r : List AOper} {q : Nat} {qs : List Nat} {Q : Rho → Hp → Prop} : wpE E R (⟨d, .nilchk v0, none⟩ :: r) (q :: qs) ρ H Q = wpA E (lvQ q) (.nilchk v0) ρ H (fun v H' => wpE E R r qs (updO ρ d v) H' Q) := wpE_other rfl rfl
@[simp ↓] theorem wpE_bin {v0 : BinOp} {v1 v2 : Opd} {R : List Nat} {d : Option Nat} {r : List AOper} {q : Nat} {qs : List Nat} {Q : Rho → Hp → Prop} : wpE E R (⟨d, .bin v0 v1 v2, none⟩ :: r) (q :: qs) ρ H Q = wpA E (lvQ q) (.bin v0 v1 v2) ρ H (fun v H' => wpE E R r qs (updO ρ d v) H' Q) := wpE_other rfl rfl
@[simp ↓] theorem wpE_eq {v0 : Bool} {v1 : EqD} {v2 v3 : Opd} {R : List Nat} {d : Option Nat} {r : List AOper} {q : Nat} {qs : List Nat} {Q : Rho → Hp → Prop} : wpE E R (⟨d, .eq v0 v1 v2 v3, none⟩ :: r) (q :: qs) ρ H Q = wpA E (lvQ q) (.eq v0 v1 v2 v3) ρ H (fun v H' => wpE E R r qs (updO ρ d v) H' Q) := wpE_other rfl rfl
@[simp ↓] theorem wpE_un {v0 : UnOp} {v1 : Opd} {R : List Nat} {d : Option Nat} {r : List AOper} {q : Nat} {qs : List Nat} {Q : Rho → Hp → Prop} : wpE E R (⟨d, .un v0 v1, none⟩ :: r) (q :: qs) ρ H Q = wpA E (lvQ q) (.un v0 v1) ρ H (fun v H' => wpE E R r qs (updO ρ d v) H' Q) := wpE_other rfl rfl
@[simp ↓] theorem wpE_conv {v0 : ConvD} {v1 : Opd} {R : List Nat} {d : Option Nat} {r : List AOper} {q : Nat} {qs : List Nat} {Q : Rho → Hp → Prop} : wpE E R (⟨d, .conv v0 v1, none⟩ :: r) (q :: qs) ρ H Q = wpA E (lvQ q) (.conv v0 v1) ρ H (fun v H' => wpE E R r qs (updO ρ d v) H' Q) := wpE_other rfl rfl
@[simp ↓] theorem wpE_mkfn {v0 : FuncId} {v1 v2 : List Opd} {R : List Nat} {d : Option Nat} {r : List AOper} {q : Nat} {qs : List Nat} {Q : Rho → Hp → Prop} : wpE E R (⟨d, .mkfn v0 v1 v2, none⟩ :: r) (q :: qs) ρ H Q = wpA E (lvQ q) (.mkfn v0 v1 v2) ρ H (fun v H' => wpE E R r qs (updO ρ d v) H' Q) := wpE_other rfl rfl
@[simp ↓] theorem wpE_mkmap  {R : List Nat} {d : Option Nat} {r : List AOper} {q : Nat} {qs : List Nat} {Q : Rho → Hp → Prop} : wpE E R (⟨d, .mkmap, none⟩ :: r) (q :: qs) ρ H Q = wpA E (lvQ q) (.mkmap) ρ H (fun v H' => wpE E R r qs (updO ρ d v) H' Q) := wpE_other rfl rfl
@[simp ↓] theorem wpE_mkslice {v0 : TypeId} {v1 v2 : Nat} {v3 : AV} {v4 v5 : Opd} {R : List Nat} {d : Option Nat} {r : List AOper} {q : Nat} {qs : List Nat} {Q : Rho → Hp → Prop} : wpE E R (⟨d, .mkslice v0 v1 v2 v3 v4 v5, none⟩ :: r) (q :: qs) ρ H Q = wpA E (lvQ q) (.mkslice v0 v1 v2 v3 v4 v5) ρ H (fun v H' => wpE E R r qs (updO ρ d v) H' Q) := wpE_other rfl rfl
@[simp ↓] theorem wpE_slstr {v0 : Opd} {v1 v2 : Option Opd} {R : List Nat} {d : Option Nat} {r : List AOper} {q : Nat} {qs : List Nat} {Q : Rho → Hp → Prop} : wpE E R (⟨d, .slstr v0 v1 v2, none⟩ :: r) (q :: qs) ρ H Q = wpA E (lvQ q) (.slstr v0 v1 v2) ρ H (fun v H' => wpE E R r qs (updO ρ d v) H' Q) := wpE_other rfl rfl
@[simp ↓] theorem wpE_slice {v0 : Nat} {v1 : Opd} {v2 v3 : Option Opd} {R : List Nat} {d : Option Nat} {r : List AOper} {q : Nat} {qs : List Nat} {Q : Rho → Hp → Prop} : wpE E R (⟨d, .slice v0 v1 v2 v3, none⟩ :: r) (q :: qs) ρ H Q = wpA E (lvQ q) (.slice v0 v1 v2 v3) ρ H (fun v H' => wpE E R r qs (updO ρ d v) H' Q) := wpE_other rfl rfl
@[simp ↓] theorem wpE_faddr {v0 : Nat} {v1 : Opd} {R : List Nat} {d : Option Nat} {r : List AOper} {q : Nat} {qs : List Nat} {Q : Rho → Hp → Prop} : wpE E R (⟨d, .faddr v0 v1, none⟩ :: r) (q :: qs) ρ H Q = wpA E (lvQ q) (.faddr v0 v1) ρ H (fun v H' => wpE E R r qs (updO ρ d v) H' Q) := wpE_other rfl rfl
@[simp ↓] theorem wpE_field {v0 : Nat} {v1 : Option Nat} {v2 : Opd} {R : List Nat} {d : Option Nat} {r : List AOper} {q : Nat} {qs : List Nat} {Q : Rho → Hp → Prop} : wpE E R (⟨d, .field v0 v1 v2, none⟩ :: r) (q :: qs) ρ H Q = wpA E (lvQ q) (.field v0 v1 v2) ρ H (fun v H' => wpE E R r qs (updO ρ d v) H' Q) := wpE_other rfl rfl
@[simp ↓] theorem wpE_iaddr {v0 : Nat} {v1 v2 : Opd} {R : List Nat} {d : Option Nat} {r : List AOper} {q : Nat} {qs : List Nat} {Q : Rho → Hp → Prop} : wpE E R (⟨d, .iaddr v0 v1 v2, none⟩ :: r) (q :: qs) ρ H Q = wpA E (lvQ q) (.iaddr v0 v1 v2) ρ H (fun v H' => wpE E R r qs (updO ρ d v) H' Q) := wpE_other rfl rfl
@[simp ↓] theorem wpE_sidx {v0 v1 : Opd} {R : List Nat} {d : Option Nat} {r : List AOper} {q : Nat} {qs : List Nat} {Q : Rho → Hp → Prop} : wpE E R (⟨d, .sidx v0 v1, none⟩ :: r) (q :: qs) ρ H Q = wpA E (lvQ q) (.sidx v0 v1) ρ H (fun v H' => wpE E R r qs (updO ρ d v) H' Q) := wpE_other rfl rfl
@[simp ↓] theorem wpE_lookup {v0 : KD} {v1 : AV} {v2 v3 : Opd} {v4 : Bool} {R : List Nat} {d : Option Nat} {r : List AOper} {q : Nat} {qs : List Nat} {Q : Rho → Hp → Prop} : wpE E R (⟨d, .lookup v0 v1 v2 v3 v4, none⟩ :: r) (q :: qs) ρ H Q = wpA E (lvQ q) (.lookup v0 v1 v2 v3 v4) ρ H (fun v H' => wpE E R r qs (updO ρ d v) H' Q) := wpE_other rfl rfl
@[simp ↓] theorem wpE_mapupd {v0 : KD} {v1 v2 v3 : Opd} {R : List Nat} {d : Option Nat} {r : List AOper} {q : Nat} {qs : List Nat} {Q : Rho → Hp → Prop} : wpE E R (⟨d, .mapupd v0 v1 v2 v3, none⟩ :: r) (q :: qs) ρ H Q = wpA E (lvQ q) (.mapupd v0 v1 v2 v3) ρ H (fun v H' => wpE E R r qs (updO ρ d v) H' Q) := wpE_other rfl rfl
@[simp ↓] theorem wpE_extract {v0 : Opd} {v1 : Nat} {R : List Nat} {d : Option Nat} {r : List AOper} {q : Nat} {qs : List Nat} {Q : Rho → Hp → Prop} : wpE E R (⟨d, .extract v0 v1, none⟩ :: r) (q :: qs) ρ H Q = wpA E (lvQ q) (.extract v0 v1) ρ H (fun v H' => wpE E R r qs (updO ρ d v) H' Q) := wpE_other rfl rfl
@[simp ↓] theorem wpE_len {v0 : Opd} {R : List Nat} {d : Option Nat} {r : List AOper} {q : Nat} {qs : List Nat} {Q : Rho → Hp → Prop} : wpE E R (⟨d, .len v0, none⟩ :: r) (q :: qs) ρ H Q = wpA E (lvQ q) (.len v0) ρ H (fun v H' => wpE E R r qs (updO ρ d v) H' Q) := wpE_other rfl rfl
@[simp ↓] theorem wpE_lens {v0 : Opd} {R : List Nat} {d : Option Nat} {r : List AOper} {q : Nat} {qs : List Nat} {Q : Rho → Hp → Prop} : wpE E R (⟨d, .lens v0, none⟩ :: r) (q :: qs) ρ H Q = wpA E (lvQ q) (.lens v0) ρ H (fun v H' => wpE E R r qs (updO ρ d v) H' Q) := wpE_other rfl rfl
@[simp ↓] theorem wpE_lenm {v0 : Opd} {R : List Nat} {d : Option Nat} {r : List AOper} {q : Nat} {qs : List Nat} {Q : Rho → Hp → Prop} : wpE E R (⟨d, .lenm v0, none⟩ :: r) (q :: qs) ρ H Q = wpA E (lvQ q) (.lenm v0) ρ H (fun v H' => wpE E R r qs (updO ρ d v) H' Q) := wpE_other rfl rfl
@[simp ↓] theorem wpE_delete {v0 : KD} {v1 v2 : Opd} {R : List Nat} {d : Option Nat} {r : List AOper} {q : Nat} {qs : List Nat} {Q : Rho → Hp → Prop} : wpE E R (⟨d, .delete v0 v1 v2, none⟩ :: r) (q :: qs) ρ H Q = wpA E (lvQ q) (.delete v0 v1 v2) ρ H (fun v H' => wpE E R r qs (updO ρ d v) H' Q) := wpE_other rfl rfl
@[simp ↓] theorem wpE_mnmx {v0 : Bool} {v1 : List Opd} {R : List Nat} {d : Option Nat} {r : List AOper} {q : Nat} {qs : List Nat} {Q : Rho → Hp → Prop} : wpE E R (⟨d, .mnmx v0 v1, none⟩ :: r) (q :: qs) ρ H Q = wpA E (lvQ q) (.mnmx v0 v1) ρ H (fun v H' => wpE E R r qs (updO ρ d v) H' Q) := wpE_other rfl rfl
@[simp ↓] theorem wpE_call {v0 : Opd} {v1 : List Opd} {R : List Nat} {d : Option Nat} {r : List AOper} {q : Nat} {qs : List Nat} {Q : Rho → Hp → Prop} : wpE E R (⟨d, .call v0 v1, none⟩ :: r) (q :: qs) ρ H Q = wpA E (lvQ q) (.call v0 v1) ρ H (fun v H' => wpE E R r qs (updO ρ d v) H' Q) := wpE_other rfl rfl
end
end Go.Proofs.Eng
/- Two trees of the same content are the same: run by the engine. -/
set_option linter.unusedVariables false
set_option linter.unusedSimpArgs false
set_option maxRecDepth 100000
namespace Go.Proofs.Eng
open Go
section
variable {Γ : Sums} {A : Tab} {N : Nat → Nat}
end
end Go.Proofs.Eng
/- A tree that may be is walked whole: as many terms as it has. -/
set_option linter.unusedVariables false
set_option linter.unusedSimpArgs false
namespace Go.Proofs.Eng
open Go
def wsum (s : Nat → Int) : List Int → Int
  | [] => 0
  | c :: r => c * s 0 + wsum (fun i => s (i + 1)) r
theorem wsum_modify : ∀ (ct : List Int) (s : Nat → Int) (k : Nat), k < ct.length → (∀ c ∈ ct, 0 ≤ c ∧ c < 2 ^ 62) → wsum s (ct.modify k bump) = wsum s ct + s k
  | [], s, k, hk, _ => by simp at hk
  | c :: r, s, 0, _, hc => by
    have := hc c (by simp)
    have hb : bump c = c + 1 := by unfold bump; rw [wrap64 (by omega) (by omega)]
    simp [List.modify, wsum, hb, Int.add_mul]
    omega
  | c :: r, s, k + 1, hk, hc => by
    have := wsum_modify r (fun i => s (i + 1)) k (by simpa using hk) (fun c' h => hc c' (by simp [h]))
    simp only [List.modify_succ_cons, wsum, this]
    omega
theorem wsum_zero : ∀ (n : Nat) (s : Nat → Int), wsum s (List.replicate n 0) = 0
  | 0, s => rfl
  | n + 1, s => by simp [List.replicate_succ, wsum, wsum_zero n]
theorem mem_modify {ct : List Int} {k : Nat} {B : Int} (h : ∀ c ∈ ct, 0 ≤ c ∧ c ≤ B) (hB : B < 2 ^ 62) : ∀ c ∈ ct.modify k bump, 0 ≤ c ∧ c ≤ B + 1 := by
  intro c hc
  obtain ⟨i, hi, rfl⟩ := List.mem_iff_getElem.1 hc
  rw [List.getElem_modify]
  have := h (ct[i]'(by simpa using hi)) (List.getElem_mem _)
  split
  · unfold bump; rw [wrap64 (by omega) (by omega)]; omega
  · omega
theorem noteS_sum {s : Nat → Int} {b : Int} : ∀ {ks ct ct' : List Int} {B : Int}, noteS ct ks b = (true, ct') → b ≤ ct.length → (∀ c ∈ ct, 0 ≤ c ∧ c ≤ B) → B + ks.length < 2 ^ 61 → wsum s ct' = wsum s ct + (ks.map fun k => s k.toNat).sum ∧ (∀ c ∈ ct', 0 ≤ c ∧ c ≤ B + ks.length) ∧ ct'.length = ct.length
  | [], ct, ct', B, h, hb, hc, hB => by
    simp [noteS] at h
    subst h
    simpa using hc
  | k :: r, ct, ct', B, h, hb, hc, hB => by
    unfold noteS at h
    split at h
    · cases h
    · rename_i hk
      have hlen : (k :: r).length = r.length + 1 := rfl
      have h1 := noteS_sum (s := s) (B := B + 1) h (by simpa using hb) (mem_modify hc (by omega)) (by omega)
      rw [wsum_modify ct s k.toNat (by omega) (fun c h => by have := hc c h; omega)] at h1
      refine ⟨by rw [h1.1]; simp; omega, fun c h => by have := h1.2.1 c h; omega, by rw [h1.2.2]; simp⟩
theorem nodesS_sum {ty : Nat} {sz : Nat → Int} {cap : Int} (hcap : 0 ≤ cap) (hcap2 : cap ≤ 2 ^ 31) : ∀ {l : List Nd} {i : Nat} {ct cy ct' cy' : List Int} {B : Int}, nodesS ty l i ct cy = some (ct', cy') → (∀ (j : Nat) (n : Nd), l[j]? = some n → sz (i + j) = 1 + (n.kids.map fun k => sz k.toNat).sum ∧ (n.kids.length : Int) ≤ cap) → i + l.length ≤ ct.length → (∀ c ∈ ct, 0 ≤ c ∧ c ≤ B) → B + l.length * cap < 2 ^ 60 →
    wsum sz ct' = wsum sz ct + wsum (fun j => sz (i + j)) (List.replicate l.length 1) - l.length ∧ ct'.length = ct.length ∧ (∀ c ∈ ct', 0 ≤ c ∧ c ≤ B + l.length * cap)
  | [], i, ct, cy, ct', cy', B, h, _, _, hc, _ => by
    simp [nodesS] at h
    obtain ⟨rfl, rfl⟩ := h
    simp [wsum]
    exact fun c h => hc c h
  | n :: r, i, ct, cy, ct', cy', B, h, hn, hi, hc, hB => by
    unfold nodesS at h
    have hll : (n :: r).length = r.length + 1 := rfl
    have hmul : ((r.length + 1 : Nat) : Int) * cap = r.length * cap + cap := by push_cast; rw [Int.add_mul]; simp
    rw [hll] at hB hi
    rw [hmul] at hB
    have hrc : 0 ≤ (r.length : Int) * cap := Int.mul_nonneg (by omega) hcap
    split at h
    · split at h
      · rename_i ct1 e1
        split at h
        · rename_i cy1 e2
          have h0 := hn 0 n rfl
          have s1 := noteS_sum (s := sz) e1 (by omega) hc (by omega)
          have s2 := nodesS_sum hcap hcap2 (B := B + cap) h (fun j m hm => by
            have := hn (j + 1) m (by simpa using hm)
            rw [show i + 1 + j = i + (j + 1) by omega]; exact this) (by rw [s1.2.2]; omega) (fun c hc' => by have := s1.2.1 c hc'; omega) (by omega)
          refine ⟨?_, by rw [s2.2.1, s1.2.2], fun c hc' => by have := s2.2.2 c hc'; rw [hll, hmul]; omega⟩
          rw [s2.1, s1.1, hll, List.replicate_succ, wsum]
          have e : (fun j => sz (i + 1 + j)) = fun j => sz (i + (j + 1)) := by funext j; congr 1; omega
          rw [e]
          have := h0.1
          simp only [Nat.add_zero] at this ⊢
          push_cast
          omega
        · cases h
      · cases h
    · cases h
end Go.Proofs.Eng
/- tree.Same of two trees of the same content: run by the engine. -/
set_option linter.unusedVariables false
set_option linter.unusedSimpArgs false
set_option maxRecDepth 100000
namespace Go.Proofs.Eng
open Go
section
variable {Γ : Sums} {A : Tab} {N : Nat → Nat}
end
end Go.Proofs.Eng
/- The tree's builder: what is built. -/
set_option linter.unusedVariables false
set_option linter.unusedSimpArgs false
set_option maxRecDepth 100000
namespace Go.Proofs.Eng
open Go
@[simp ↓] theorem wpA_bslice1 {E : Env} {ρ : Rho} {H : Hp} {Q : AV → Hp → Prop} {e : TypeId} {sz len : Nat} {lay : Option Nat} {z : List AV} {ps : List (Nat × Nat × Opd)} : wpA E 1 (.bslice e sz lay len z ps) ρ H Q =
    bindO (fillA (repl len z) (ps.map fun (o, s, x) => (o, s, evR ρ x))) fun cs => andQ ((chunk sz lay len cs).all (fun y => y.good && y.cells.length == sz && (lay.isSome || y.one)) = true) (Q (.ra sz H.l.length 0 len) (halloc H (.arr sz (chunk sz lay len cs) e))) := by
  rw [wpA_one_zero, wpA_bslice]
  have hd : ∀ d, aopER E ρ { l := H.l, d := d } (.bslice e sz lay len z ps) = ((fillA (repl len z) (ps.map fun (o, s, x) => (o, s, evR ρ x))).bind fun cs =>
      if (chunk sz lay len cs).all (fun y => y.good && y.cells.length == sz && (lay.isSome || y.one)) then some (AV.ra sz H.l.length 0 len, some (halloc { l := H.l, d := d } (.arr sz (chunk sz lay len cs) e))) else none) := fun d => _root_.id rfl
  simp only [hd]
  cases fillA (repl len z) (ps.map fun (o, s, x) => (o, s, evR ρ x)) with
  | none => exact .inl fun d => _root_.id rfl
  | some cs =>
    by_cases hc : ((chunk sz lay len cs).all (fun y => y.good && y.cells.length == sz && (lay.isSome || y.one))) = true
    · exact .inr ⟨_, _, fun d => if_pos hc⟩
    · exact .inl fun d => if_neg hc

section
variable {Γ : Sums} {A : Tab} {N : Nat → Nat}

/-- A row, laid in a heap, nil or all of an object. -/
def RowAt (H : Hp) (e : TypeId) (sz : Nat) (x : AV) (es : List AV) : Prop := (x = avNilS ∧ es = []) ∨ ∃ id, x = .ra sz id 0 es.length ∧ hget H id = some (.arr sz es e)
theorem RowAt.len {H : Hp} {e : TypeId} {sz : Nat} {x : AV} {es : List AV} (h : RowAt H e sz x es) : asLen x = some es.length := by
  rcases h with ⟨rfl, rfl⟩ | ⟨id, rfl, _⟩ <;> rfl
theorem RowAt.keep {H H' : Hp} {e : TypeId} {sz : Nat} {x : AV} {es : List AV} (h : RowAt H e sz x es) (k : ∀ id o, hget H id = some o → (kid x = some id) → hget H' id = some o) : RowAt H' e sz x es := by
  rcases h with h | ⟨id, rfl, h⟩
  · exact .inl h
  · exact .inr ⟨id, rfl, k id _ h rfl⟩
theorem RowAt.alloc {H : Hp} {e : TypeId} {sz : Nat} {x : AV} {es : List AV} (h : RowAt H e sz x es) (o : AObj) : RowAt (halloc H o) e sz x es :=
  h.keep fun id o' h' _ => by rw [hget_halloc, if_neg (Nat.ne_of_lt (hget_lt h'))]; exact h'
/-- A row more. -/
theorem RowAt.app {H : Hp} {e : TypeId} {sz bytes : Nat} {x : AV} {es ys : List AV} (h : RowAt H e sz x es) (hy : ys ≠ []) (hb : (es.length + ys.length) * bytes ≤ roomMax) (hg : ys.all (fun y => y.good && y.cells.length == sz) = true) :
    ∃ v H', appendOn H e sz bytes x ys = some (v, some H') ∧ v = .ra sz H.l.length 0 (es ++ ys).length ∧ hget H' H.l.length = some (.arr sz (es ++ ys) e) ∧ H'.l.length = H.l.length + 1 ∧ (∀ id o, hget H id = some o → kid x ≠ some id → hget H' id = some o) ∧ (∀ (H0 : Hp) (W : List Nat), Mut H0 H W → (∀ j, kid x = some j → H0.l.length ≤ j) → Mut H0 H' W) := by
  rcases h with ⟨rfl, rfl⟩ | ⟨id, rfl, h⟩
  · have : ys.isEmpty = false := by cases ys with | nil => exact absurd rfl hy | cons => rfl
    refine ⟨_, _, by simp only [appendOn]; rw [if_pos ⟨by simpa using hb, hg⟩, this]; rfl, by simp, by simp, by simp, fun id o ho _ => ?_, fun H0 W hm _ => hm.alloc _⟩
    rw [hget_halloc, if_neg (Nat.ne_of_lt (hget_lt ho))]; exact ho
  · refine ⟨_, _, appendOn_ra h hb hg, by simp, by simp, by simp, fun id' o ho hne => ?_, fun H0 W hm hj => (hm.set (.inr (hj id rfl))).alloc _⟩
    have hne' : id' ≠ id := fun e => hne (by rw [e]; rfl)
    rw [hget_halloc, if_neg (by simpa using Nat.ne_of_lt (hget_lt ho)), hget_hset, if_neg hne']; exact ho

end
end Go.Proofs.Eng
/- Terms and types, copied: run by the engine. -/
set_option linter.unusedVariables false
set_option linter.unusedSimpArgs false
set_option maxRecDepth 100000
namespace Go.Proofs.Eng
open Go
section
variable {Γ : Sums} {A : Tab} {N : Nat → Nat}
theorem Fresh.vw {H : Hp} {g : Option Hp} {c : AV} {es : List AV} {e : TypeId} {os : List (Nat × AObj)} (h : Fresh H g c es e os) : Vw (g.getD H) 1 c es := by
  rcases h.row with ⟨rfl, r2, rfl⟩ | ⟨id, rfl, rfl⟩
  · exact .inl (.inl ⟨rfl, r2⟩)
  · exact .inr ⟨id, 0, e, es, rfl, (h.has _ (List.mem_singleton.2 rfl)).1, by omega, List.take_of_length_le (by simp)⟩
end
end Go.Proofs.Eng
/- A term, copied: run by the engine. -/
set_option linter.unusedVariables false
set_option linter.unusedSimpArgs false
set_option maxRecDepth 100000
namespace Go.Proofs.Eng
open Go
section
variable {Γ : Sums} {A : Tab} {N : Nat → Nat}
end
end Go.Proofs.Eng
/- What is built of a tree: run by the engine. -/
set_option linter.unusedVariables false
set_option linter.unusedSimpArgs false
set_option maxRecDepth 100000
namespace Go.Proofs.Eng
open Go
/-- A row of a builder: its elements, laid. -/
structure BRow {α : Type} (Q : Hp → AV → α → Prop) (H : Hp) (n0 : Nat) (e : TypeId) (sz : Nat) (x : AV) (l : List α) : Prop where
  row : ∃ xs, RowAt H e sz x xs ∧ xs.length = l.length ∧ (∀ (i : Nat) (y : AV) (n : α), xs[i]? = some y → l[i]? = some n → Q H y n) ∧ xs.all (fun y => y.good && y.cells.length == sz) = true
  old : ∀ id, kid x = some id → n0 ≤ id
structure Bd (N : Nat → Nat) (n0 : Nat) (H : Hp) (p : Nat) (t : Tr) : Prop where
  cell : ∃ sn st sa, hget H p = some (.cells [sn, st, sa] (t_tree_Builder N)) ∧ BRow NdR H n0 (t_api_Node N) 8 sn t.nodes ∧ BRow TyR H n0 (t_api_TypeNode N) 6 st t.types ∧ BRow AlR H n0 (t_api_Alias N) 3 sa t.als
  p0 : n0 ≤ p
theorem Vw.keepA {H G : Hp} {sz : Nat} {x : AV} {es : List AV} (h : Vw H sz x es) (k : ∀ id es e, hget H id = some (.arr sz es e) → hget G id = some (.arr sz es e)) : Vw G sz x es := by
  rcases h with h | ⟨id, off, e, all, h0, h1, h2⟩
  · exact .inl h
  · exact .inr ⟨id, off, e, all, h0, k _ _ _ h1, h2⟩
theorem NdR.keepA {H G : Hp} {x : AV} {n : Nd} (h : NdR H x n) (k : ∀ id es e, hget H id = some (.arr 1 es e) → hget G id = some (.arr 1 es e)) : NdR G x n := by
  obtain ⟨a, b, c, e, h1, h2, h3⟩ := h
  exact ⟨a, b, c, e, h1.keepA k, h2.keepA k, h3.keepA k⟩
theorem TyR.keepA {H G : Hp} {x : AV} {n : Ty} (h : TyR H x n) (k : ∀ id es e, hget H id = some (.arr 1 es e) → hget G id = some (.arr 1 es e)) : TyR G x n := by
  obtain ⟨a, b, e, h1, h2⟩ := h
  exact ⟨a, b, e, h1.keepA k, h2.keepA k⟩
theorem BRow.keepA {α : Type} {Q : Hp → AV → α → Prop} {H G : Hp} {n0 : Nat} {e : TypeId} {sz : Nat} {x : AV} {l : List α} (h : BRow Q H n0 e sz x l) (hq : ∀ x n, Q H x n → Q G x n) (k : ∀ id es e, hget H id = some (.arr sz es e) → hget G id = some (.arr sz es e)) : BRow Q G n0 e sz x l := by
  obtain ⟨⟨xs, h1, h2, h3, h4⟩, h5⟩ := h
  exact ⟨⟨xs, h1.keep fun id o ho hk => by
    rcases h1 with ⟨rfl, _⟩ | ⟨id', rfl, h⟩
    · cases hk
    · simp only [kid, Option.some.injEq] at hk
      subst hk
      rw [h] at ho
      simp only [Option.some.injEq] at ho
      subst ho
      exact k _ _ _ h, h2, fun i y n a b => hq _ _ (h3 i y n a b), h4⟩, h5⟩
/-- One more element. -/
theorem BRow.push {α : Type} {Q : Hp → AV → α → Prop} {H : Hp} {n0 : Nat} {e : TypeId} {sz bytes : Nat} {x y : AV} {l : List α} {a : α} (h : BRow Q H n0 e sz x l) (hs : sz ≠ 1) (hn0 : n0 ≤ H.l.length) (hy : (y.good && y.cells.length == sz) = true) (hb : (l.length + 1) * bytes ≤ roomMax) (hqa : Q H y a) (hq : ∀ G x n, Q H x n → (∀ id es e, hget H id = some (.arr 1 es e) → hget G id = some (.arr 1 es e)) → Q G x n) :
    ∃ v H', appendOn (halloc H (.arr sz [y] e)) e sz bytes x [y] = some (v, some H') ∧ v.good = true ∧ v.cells = [v] ∧ asLen v = some (l.length + 1) ∧ BRow Q H' n0 e sz v (l ++ [a]) ∧ H.l.length + 2 ≤ H'.l.length ∧ (∀ id o, id < n0 → hget H id = some o → hget H' id = some o) ∧ (∀ id o, hget H id = some o → (∀ es, o ≠ .arr sz es e) → hget H' id = some o) ∧ (∀ B, Mut B H [] → B.l.length ≤ n0 → Mut B H' []) := by
  obtain ⟨⟨xs, h1, h2, h3, h4⟩, h5⟩ := h
  have h1' : RowAt (halloc H (.arr sz [y] e)) e sz x xs := h1.alloc _
  obtain ⟨v, G, a1, a2, a3, a4, a5, a6⟩ := h1'.app (bytes := bytes) (ys := [y]) (by simp) (by rw [h2]; simpa using hb) (by simpa using hy)
  have keep : ∀ id o, hget H id = some o → (∀ es, o ≠ .arr sz es e) → hget G id = some o := fun id o ho hne => by
    refine a5 id o ?_ ?_
    · rw [hget_halloc, if_neg (Nat.ne_of_lt (hget_lt ho))]; exact ho
    · intro hk
      rcases h1 with ⟨rfl, _⟩ | ⟨id', rfl, h⟩
      · cases hk
      · simp only [kid, Option.some.injEq] at hk
        subst hk
        rw [h] at ho
        simp only [Option.some.injEq] at ho
        exact hne _ ho.symm
  have keep1 : ∀ id es' e', hget H id = some (.arr 1 es' e') → hget G id = some (.arr 1 es' e') := fun id es' e' ho => keep id _ ho (fun es he => by
    simp only [AObj.arr.injEq] at he
    exact hs he.1.symm)
  refine ⟨v, G, a1, by rw [a2]; rfl, by rw [a2]; rfl, by rw [a2]; simp [asLen, h2], ⟨⟨xs ++ [y], .inr ⟨_, a2, a3⟩, by simp [h2], fun i z n hz hn => ?_, by rw [List.all_append, h4]; simpa using hy⟩, fun id hk => ?_⟩, by rw [a4]; simp, fun id o hid hg => ?_, keep, fun B hB hBn => a6 B [] (hB.alloc _) (fun j hj => Nat.le_trans hBn (h5 j hj))⟩
  · by_cases hi : i < xs.length
    · rw [List.getElem?_append_left hi] at hz
      rw [List.getElem?_append_left (by omega)] at hn
      exact hq _ _ _ (h3 i z n hz hn) keep1
    · have hlt := (List.getElem?_eq_some_iff.1 hz).1
      simp at hlt
      have hi2 : i = xs.length := by omega
      subst hi2
      rw [List.getElem?_append_right (Nat.le_refl _)] at hz
      rw [List.getElem?_append_right (by omega)] at hn
      simp [h2] at hz hn
      subst hz
      subst hn
      exact hq _ _ _ hqa keep1
  · rw [a2] at hk
    simp only [kid, Option.some.injEq] at hk
    subst hk
    simp; omega
  · refine a5 id o ?_ ?_
    · rw [hget_halloc, if_neg (Nat.ne_of_lt (hget_lt hg))]; exact hg
    · intro hk
      have := h5 id hk
      omega
theorem RowR.more {α : Type} {Q : Hp → AV → α → Prop} {sz : Nat} {H G : Hp} {x : AV} {l : List α} (h : RowR Q sz H x l) (k : ∀ id o, hget H id = some o → hget G id = some o) (hq : ∀ x n, Q H x n → Q G x n) : RowR Q sz G x l := by
  obtain ⟨xs, h1, h2, h3⟩ := h
  exact ⟨xs, h1.keepA fun id es e => k id _, h2, fun i y n a b => hq _ _ (h3 i y n a b)⟩
theorem TrR.more {H G : Hp} {x : AV} {t : Tr} (h : TrR H x t) (k : ∀ id o, hget H id = some o → hget G id = some o) : TrR G x t := by
  obtain ⟨a, b, c, e, h1, h2, h3⟩ := h
  exact ⟨a, b, c, e, h1.more k fun _ _ h => h.keepA fun id es e => k id _, h2.more k fun _ _ h => h.keepA fun id es e => k id _, h3.more k fun _ _ h => h⟩
end Go.Proofs.Eng
/- A builder's terms and types: run by the engine. -/
set_option linter.unusedVariables false
set_option linter.unusedSimpArgs false
set_option maxRecDepth 100000
namespace Go.Proofs.Eng
open Go
section
variable {Γ : Sums} {A : Tab} {N : Nat → Nat}
end
end Go.Proofs.Eng
/- Trees, copied: run by the engine. -/
set_option linter.unusedVariables false
set_option linter.unusedSimpArgs false
set_option maxRecDepth 100000
namespace Go.Proofs.Eng
open Go
section
variable {Γ : Sums} {A : Tab} {N : Nat → Nat}
end
end Go.Proofs.Eng
/- Trees, copied: a round of each loop. -/
set_option linter.unusedVariables false
set_option linter.unusedSimpArgs false
set_option maxRecDepth 100000
namespace Go.Proofs.Eng
open Go
section
variable {Γ : Sums} {A : Tab} {N : Nat → Nat}
end
end Go.Proofs.Eng
/- Trees, copied: the whole. -/
set_option linter.unusedVariables false
set_option linter.unusedSimpArgs false
set_option maxRecDepth 100000
namespace Go.Proofs.Eng
open Go
theorem RowR.nil {α : Type} {Q : Hp → AV → α → Prop} {H : Hp} {sz : Nat} : RowR Q sz H avNilS ([] : List α) := ⟨[], .inl (.inl ⟨rfl, rfl⟩), rfl, fun i y n h => by simp at h⟩
section
variable {Γ : Sums} {A : Tab} {N : Nat → Nat}
end
end Go.Proofs.Eng
/- A builder's tree: run by the engine. -/
set_option linter.unusedVariables false
set_option linter.unusedSimpArgs false
set_option maxRecDepth 100000
namespace Go.Proofs.Eng
open Go
section
variable {Γ : Sums} {A : Tab} {N : Nat → Nat}
end
end Go.Proofs.Eng
/- Templates of functions, as the engine takes them; numbers of functions and types by names. Printed by tm.py. -/
set_option linter.unusedVariables false
set_option maxRecDepth 100000
namespace Go.Proofs.Eng
open Go

def L_law04_Few_2 (N : Nat → Nat) : AC :=
        .seq (
         .ops [⟨(some 46), .bin .lss (.t 45) (.t 44), none⟩]) (
        .seq (
         .cond (.t 46) (
          .skip) (
          .exit 2)) (
        .seq (
         .block 3 (
          .seq (
           .ops [⟨(some 47), .iaddr 1 (.t 43) (.t 45), none⟩, ⟨(some 48), .load none (.t 47), none⟩, ⟨(some 6), .mov (.t 48), none⟩]) (
          .seq (
           .ops [⟨(some 49), .mov (.t 6), none⟩, ⟨(some 50), .lens (.t 49), none⟩, ⟨(some 51), .bin .gtr (.t 50) (.c (.lit (.int .i64 60))), none⟩]) (
          .cond (.t 51) (
           .seq (
            .ops [⟨(some 2), .mov (.c (.lit (.bool false))), none⟩]) (
           .ret)) (
           .skip))))) (
        .ops [⟨(some 52), .bin .add (.t 45) (.c (.lit (.int .i64 1))), none⟩, ⟨(some 45), .mov (.t 52), none⟩])))
def K_law04_Few_1 (N : Nat → Nat) : AC :=
 .ops [⟨(some 53), .bin .add (.t 16) (.c (.lit (.int .i64 1))), none⟩, ⟨(some 16), .mov (.t 53), none⟩]
def L_law04_Few_1 (N : Nat → Nat) : AC :=
    .seq (
     .ops [⟨(some 17), .bin .lss (.t 16) (.t 15), none⟩]) (
    .seq (
     .cond (.t 17) (
      .skip) (
      .exit 0)) (
    .seq (
     .block 1 (
      .seq (
       .ops [⟨(some 18), .iaddr 8 (.t 14) (.t 16), none⟩, ⟨(some 19), .load (some 8) (.t 18), none⟩, ⟨(some 4), .new (t_api_Node N) (.agg [(.lit (.int .i64 0)), (.lit (.int .i64 0)), (.lit (.string (mkS []))), (.lit (.int .i64 0)), (.lit (.int .u64 0)), (.lit (.slice none 0 0)), (.lit (.slice none 0 0)), (.lit (.slice none 0 0))]), none⟩, ⟨none, .store 8 (.t 4) (.t 19), none⟩]) (
      .seq (
       .seq (
        .ops [⟨(some 20), .faddr 5 (.t 4), none⟩, ⟨(some 21), .load none (.t 20), none⟩, ⟨(some 22), .len (.t 21), none⟩, ⟨(some 23), .bin .gtr (.t 22) (.c (.lit (.int .i64 20))), none⟩, ⟨(some 24), .mov (.t 23), none⟩, ⟨(some 25), .faddr 6 (.t 4), (some (24, false))⟩, ⟨(some 26), .load none (.t 25), (some (24, false))⟩, ⟨(some 27), .len (.t 26), (some (24, false))⟩, ⟨(some 28), .bin .gtr (.t 27) (.c (.lit (.int .i64 20))), (some (24, false))⟩, ⟨(some 29), .pick (.t 24) (.c (.lit (.bool true))) (.t 28), none⟩, ⟨(some 30), .mov (.t 29), none⟩, ⟨(some 31), .faddr 7 (.t 4), (some (30, false))⟩, ⟨(some 32), .load none (.t 31), (some (30, false))⟩, ⟨(some 33), .len (.t 32), (some (30, false))⟩, ⟨(some 34), .bin .gtr (.t 33) (.c (.lit (.int .i64 20))), (some (30, false))⟩, ⟨(some 35), .pick (.t 30) (.c (.lit (.bool true))) (.t 34), none⟩, ⟨(some 36), .mov (.t 35), none⟩, ⟨(some 37), .faddr 2 (.t 4), (some (36, false))⟩, ⟨(some 38), .load none (.t 37), (some (36, false))⟩, ⟨(some 39), .lens (.t 38), (some (36, false))⟩, ⟨(some 40), .bin .gtr (.t 39) (.c (.lit (.int .i64 60))), (some (36, false))⟩, ⟨(some 41), .pick (.t 36) (.c (.lit (.bool true))) (.t 40), none⟩]) (
       .cond (.t 41) (
        .seq (
         .ops [⟨(some 2), .mov (.c (.lit (.bool false))), none⟩]) (
        .ret)) (
        .skip))) (
      .seq (
       .ops [⟨(some 42), .faddr 5 (.t 4), none⟩, ⟨(some 43), .load none (.t 42), none⟩, ⟨(some 44), .len (.t 43), none⟩, ⟨(some 45), .mov (.c (.lit (.int .i64 0))), none⟩]) (
      .block 2 (
       .loop (L_law04_Few_2 N))))))) (K_law04_Few_1 N)))
def L_law04_Few_4 (N : Nat → Nat) : AC :=
        .seq (
         .ops [⟨(some 81), .bin .lss (.t 80) (.t 79), none⟩]) (
        .seq (
         .cond (.t 81) (
          .skip) (
          .exit 6)) (
        .seq (
         .block 7 (
          .seq (
           .ops [⟨(some 82), .iaddr 1 (.t 78) (.t 80), none⟩, ⟨(some 83), .load none (.t 82), none⟩, ⟨(some 10), .mov (.t 83), none⟩]) (
          .seq (
           .ops [⟨(some 84), .mov (.t 10), none⟩, ⟨(some 85), .lens (.t 84), none⟩, ⟨(some 86), .bin .gtr (.t 85) (.c (.lit (.int .i64 60))), none⟩]) (
          .cond (.t 86) (
           .seq (
            .ops [⟨(some 2), .mov (.c (.lit (.bool false))), none⟩]) (
           .ret)) (
           .skip))))) (
        .ops [⟨(some 87), .bin .add (.t 80) (.c (.lit (.int .i64 1))), none⟩, ⟨(some 80), .mov (.t 87), none⟩])))
def K_law04_Few_3 (N : Nat → Nat) : AC :=
 .ops [⟨(some 88), .bin .add (.t 57) (.c (.lit (.int .i64 1))), none⟩, ⟨(some 57), .mov (.t 88), none⟩]
def L_law04_Few_3 (N : Nat → Nat) : AC :=
    .seq (
     .ops [⟨(some 58), .bin .lss (.t 57) (.t 56), none⟩]) (
    .seq (
     .cond (.t 58) (
      .skip) (
      .exit 4)) (
    .seq (
     .block 5 (
      .seq (
       .ops [⟨(some 59), .iaddr 6 (.t 55) (.t 57), none⟩, ⟨(some 60), .load (some 6) (.t 59), none⟩, ⟨(some 8), .new (t_api_TypeNode N) (.agg [(.lit (.int .i64 0)), (.lit (.int .i64 0)), (.lit (.string (mkS []))), (.lit (.slice none 0 0)), (.lit (.slice none 0 0)), (.lit (.bool false))]), none⟩, ⟨none, .store 6 (.t 8) (.t 60), none⟩]) (
      .seq (
       .seq (
        .ops [⟨(some 61), .faddr 3 (.t 8), none⟩, ⟨(some 62), .load none (.t 61), none⟩, ⟨(some 63), .len (.t 62), none⟩, ⟨(some 64), .bin .gtr (.t 63) (.c (.lit (.int .i64 20))), none⟩, ⟨(some 65), .mov (.t 64), none⟩, ⟨(some 66), .faddr 4 (.t 8), (some (65, false))⟩, ⟨(some 67), .load none (.t 66), (some (65, false))⟩, ⟨(some 68), .len (.t 67), (some (65, false))⟩, ⟨(some 69), .bin .gtr (.t 68) (.c (.lit (.int .i64 20))), (some (65, false))⟩, ⟨(some 70), .pick (.t 65) (.c (.lit (.bool true))) (.t 69), none⟩, ⟨(some 71), .mov (.t 70), none⟩, ⟨(some 72), .faddr 2 (.t 8), (some (71, false))⟩, ⟨(some 73), .load none (.t 72), (some (71, false))⟩, ⟨(some 74), .lens (.t 73), (some (71, false))⟩, ⟨(some 75), .bin .gtr (.t 74) (.c (.lit (.int .i64 60))), (some (71, false))⟩, ⟨(some 76), .pick (.t 71) (.c (.lit (.bool true))) (.t 75), none⟩]) (
       .cond (.t 76) (
        .seq (
         .ops [⟨(some 2), .mov (.c (.lit (.bool false))), none⟩]) (
        .ret)) (
        .skip))) (
      .seq (
       .ops [⟨(some 77), .faddr 3 (.t 8), none⟩, ⟨(some 78), .load none (.t 77), none⟩, ⟨(some 79), .len (.t 78), none⟩, ⟨(some 80), .mov (.c (.lit (.int .i64 0))), none⟩]) (
      .block 6 (
       .loop (L_law04_Few_4 N))))))) (K_law04_Few_3 N)))
def L_law04_Few_5 (N : Nat → Nat) : AC :=
    .seq (
     .ops [⟨(some 93), .bin .lss (.t 92) (.t 91), none⟩]) (
    .seq (
     .cond (.t 93) (
      .skip) (
      .exit 8)) (
    .seq (
     .block 9 (
      .seq (
       .ops [⟨(some 94), .iaddr 3 (.t 90) (.t 92), none⟩, ⟨(some 95), .load (some 3) (.t 94), none⟩, ⟨(some 12), .new (t_api_Alias N) (.agg [(.lit (.string (mkS []))), (.lit (.int .i64 0)), (.lit (.int .i64 0))]), none⟩, ⟨none, .store 3 (.t 12) (.t 95), none⟩]) (
      .seq (
       .ops [⟨(some 96), .faddr 0 (.t 12), none⟩, ⟨(some 97), .load none (.t 96), none⟩, ⟨(some 98), .lens (.t 97), none⟩, ⟨(some 99), .bin .gtr (.t 98) (.c (.lit (.int .i64 60))), none⟩]) (
      .cond (.t 99) (
       .seq (
        .ops [⟨(some 2), .mov (.c (.lit (.bool false))), none⟩]) (
       .ret)) (
       .skip))))) (
    .ops [⟨(some 100), .bin .add (.t 92) (.c (.lit (.int .i64 1))), none⟩, ⟨(some 92), .mov (.t 100), none⟩])))
def K_law04_Few_5 (N : Nat → Nat) : AC :=
 .seq (
  .ops [⟨(some 101), .faddr 0 (.t 1), none⟩, ⟨(some 102), .load none (.t 101), none⟩, ⟨(some 103), .len (.t 102), none⟩, ⟨(some 104), .bin .leq (.t 103) (.c (.lit (.int .i64 60))), none⟩, ⟨(some 105), .mov (.t 104), none⟩, ⟨(some 106), .faddr 1 (.t 1), (some (105, true))⟩, ⟨(some 107), .load none (.t 106), (some (105, true))⟩, ⟨(some 108), .len (.t 107), (some (105, true))⟩, ⟨(some 109), .bin .leq (.t 108) (.c (.lit (.int .i64 60))), (some (105, true))⟩, ⟨(some 110), .pick (.t 105) (.t 109) (.c (.lit (.bool false))), none⟩, ⟨(some 111), .mov (.t 110), none⟩, ⟨(some 112), .faddr 2 (.t 1), (some (111, true))⟩, ⟨(some 113), .load none (.t 112), (some (111, true))⟩, ⟨(some 114), .len (.t 113), (some (111, true))⟩, ⟨(some 115), .bin .leq (.t 114) (.c (.lit (.int .i64 10))), (some (111, true))⟩, ⟨(some 116), .pick (.t 111) (.t 115) (.c (.lit (.bool false))), none⟩, ⟨(some 2), .mov (.t 116), none⟩]) (
 .ret)
def K_law04_Few_4 (N : Nat → Nat) : AC :=
 .seq (
  .seq (
   .ops [⟨(some 89), .faddr 2 (.t 1), none⟩, ⟨(some 90), .load none (.t 89), none⟩, ⟨(some 91), .len (.t 90), none⟩, ⟨(some 92), .mov (.c (.lit (.int .i64 0))), none⟩]) (
  .block 8 (
   .loop (L_law04_Few_5 N)))) (K_law04_Few_5 N)
def K_law04_Few_2 (N : Nat → Nat) : AC :=
 .seq (
  .seq (
   .ops [⟨(some 54), .faddr 1 (.t 1), none⟩, ⟨(some 55), .load none (.t 54), none⟩, ⟨(some 56), .len (.t 55), none⟩, ⟨(some 57), .mov (.c (.lit (.int .i64 0))), none⟩]) (
  .block 4 (
   .loop (L_law04_Few_3 N)))) (K_law04_Few_4 N)
/-- azimuth/azimuthlaw04.Few -/
def C_law04_Few (N : Nat → Nat) : AFunc := ⟨117, [.inl 2],
 .seq (
  .ops [⟨(some 1), .box (t_api_Tree N) (.t 0), none⟩, ⟨(some 2), .mov (.c (.lit (.bool false))), none⟩]) (
 .seq (
  .seq (
   .ops [⟨(some 13), .faddr 0 (.t 1), none⟩, ⟨(some 14), .load none (.t 13), none⟩, ⟨(some 15), .len (.t 14), none⟩, ⟨(some 16), .mov (.c (.lit (.int .i64 0))), none⟩]) (
  .block 0 (
   .loop (L_law04_Few_1 N)))) (K_law04_Few_2 N)), false⟩

/-- azimuth/azimuthlaw04.TreeAround -/
def C_law04_TreeAround (N : Nat → Nat) : AFunc := ⟨96, [.inl 4],
 .seq (
  .ops [⟨(some 2), .box (t_api_Tree N) (.t 0), none⟩, ⟨(some 4), .mov (.c (.lit (.bool false))), none⟩]) (
 .seq (
  .seq (
   .ops [⟨(some 10), .call (.c (.fn (f_law04_lives N) [] [])) [], none⟩, ⟨(some 11), .un .not (.t 10), none⟩, ⟨(some 12), .mov (.t 11), none⟩, ⟨(some 13), .load (some 3) (.t 2), (some (12, false))⟩, ⟨(some 14), .call (.c (.fn (f_law04_Few N) [] [])) [(.t 13)], (some (12, false))⟩, ⟨(some 15), .un .not (.t 14), (some (12, false))⟩, ⟨(some 16), .pick (.t 12) (.c (.lit (.bool true))) (.t 15), none⟩, ⟨(some 17), .mov (.t 16), none⟩, ⟨(some 18), .faddr 0 (.t 2), (some (17, false))⟩, ⟨(some 19), .load none (.t 18), (some (17, false))⟩, ⟨(some 20), .len (.t 19), (some (17, false))⟩, ⟨(some 21), .bin .gtr (.t 20) (.c (.lit (.int .i64 50))), (some (17, false))⟩, ⟨(some 22), .pick (.t 17) (.c (.lit (.bool true))) (.t 21), none⟩, ⟨(some 23), .mov (.t 22), none⟩, ⟨(some 24), .faddr 0 (.t 2), (some (23, false))⟩, ⟨(some 25), .load none (.t 24), (some (23, false))⟩, ⟨(some 26), .len (.t 25), (some (23, false))⟩, ⟨(some 27), .eq false .pint (.t 26) (.c (.lit (.int .i64 0))), (some (23, false))⟩, ⟨(some 28), .pick (.t 23) (.c (.lit (.bool true))) (.t 27), none⟩, ⟨(some 29), .mov (.t 28), none⟩, ⟨(some 30), .mov (.t 1), (some (29, false))⟩, ⟨(some 31), .lens (.t 30), (some (29, false))⟩, ⟨(some 32), .bin .gtr (.t 31) (.c (.lit (.int .i64 50))), (some (29, false))⟩, ⟨(some 33), .pick (.t 29) (.c (.lit (.bool true))) (.t 32), none⟩]) (
  .cond (.t 33) (
   .seq (
    .ops [⟨(some 34), .call (.c (.fn (f_law04_lives N) [] [])) [], none⟩, ⟨(some 4), .mov (.t 34), none⟩]) (
   .ret)) (
   .skip))) (
 .seq (
  .ops [⟨(some 35), .faddr 0 (.t 2), none⟩, ⟨(some 36), .load none (.t 35), none⟩, ⟨(some 37), .len (.t 36), none⟩, ⟨(some 5), .mov (.t 37), none⟩]) (
 .seq (
  .dops 4 [⟨(some 39), .faddr 0 (.t 2), none⟩, ⟨(some 40), .load none (.t 39), none⟩, ⟨(some 42), .mov (.t 1), none⟩, ⟨(some 43), .mov (.t 5), none⟩, ⟨(some 44), .bin .sub (.t 43) (.c (.lit (.int .i64 1))), none⟩, ⟨(some 49), .faddr 1 (.t 2), none⟩, ⟨(some 50), .load none (.t 49), none⟩, ⟨(some 51), .faddr 2 (.t 2), none⟩, ⟨(some 52), .load none (.t 51), none⟩, ⟨(some 38), .bslice (t_api_Node N) 8 (some 8) 0 [(.lit (.int .i64 0)), (.lit (.int .i64 0)), (.lit (.string (mkS []))), (.lit (.int .i64 0)), (.lit (.int .u64 0)), (.lit (.slice none 0 0)), (.lit (.slice none 0 0)), (.lit (.slice none 0 0))] [], none⟩, ⟨(some 41), .append (t_api_Node N) 8 120 (.t 38) (.t 40), none⟩, ⟨(some 45), .bslice (t_int N) 1 none 1 [(.lit (.int .i64 0))] [(0, 1, (.t 44))], none⟩, ⟨(some 46), .build [(.lit (.int .i64 0)), (.lit (.int .i64 0)), (.lit (.string (mkS []))), (.lit (.int .i64 0)), (.lit (.int .u64 0)), (.lit (.slice none 0 0)), (.lit (.slice none 0 0)), (.lit (.slice none 0 0))] [(0, 1, (.c (.lit (.int .i64 5)))), (2, 1, (.t 42)), (6, 1, (.t 45))], none⟩, ⟨(some 47), .bslice (t_api_Node N) 8 (some 8) 1 [(.lit (.int .i64 0)), (.lit (.int .i64 0)), (.lit (.string (mkS []))), (.lit (.int .i64 0)), (.lit (.int .u64 0)), (.lit (.slice none 0 0)), (.lit (.slice none 0 0)), (.lit (.slice none 0 0))] [(0, 8, (.t 46))], none⟩, ⟨(some 48), .append (t_api_Node N) 8 120 (.t 41) (.t 47), none⟩, ⟨(some 53), .build [(.lit (.slice none 0 0)), (.lit (.slice none 0 0)), (.lit (.slice none 0 0))] [(0, 1, (.t 48)), (1, 1, (.t 50)), (2, 1, (.t 52))], none⟩, ⟨(some 6), .new (t_api_Tree N) (.agg [(.lit (.slice none 0 0)), (.lit (.slice none 0 0)), (.lit (.slice none 0 0))]), none⟩, ⟨none, .store 3 (.t 6) (.t 53), none⟩] [0, 2, 0, 0, 0, 0, 2, 0, 2, 2, 2, 2, 0, 2, 3, 0, 1, 0] []) (
 .seq (
  .ops [⟨(some 54), .load (some 3) (.t 2), none⟩, ⟨(some 55), .call (.c (.fn (f_tree_Check N) [] [])) [(.t 54)], none⟩, ⟨(some 56), .eq false .pint (.t 55) (.c (.lit (.int .i64 0))), none⟩, ⟨(some 57), .mov (.t 56), none⟩, ⟨(some 58), .mov (.t 1), (some (57, true))⟩, ⟨(some 59), .call (.c (.fn (f_ref04_Name N) [] [])) [(.t 58)], (some (57, true))⟩, ⟨(some 60), .pick (.t 57) (.t 59) (.c (.lit (.bool false))), none⟩, ⟨(some 7), .mov (.t 60), none⟩]) (
 .seq (
  .seq (
   .ops [⟨(some 61), .load (some 3) (.t 6), none⟩, ⟨(some 62), .call (.c (.fn (f_tree_Check N) [] [])) [(.t 61)], none⟩, ⟨(some 63), .eq false .pint (.t 62) (.c (.lit (.int .i64 0))), none⟩, ⟨(some 64), .mov (.t 7), none⟩, ⟨(some 65), .eq true .pbool (.t 63) (.t 64), none⟩]) (
  .cond (.t 65) (
   .seq (
    .ops [⟨(some 4), .mov (.c (.lit (.bool false))), none⟩]) (
   .ret)) (
   .skip))) (
 .seq (
  .seq (
   .ops [⟨(some 66), .mov (.t 7), none⟩, ⟨(some 67), .un .not (.t 66), none⟩]) (
  .cond (.t 67) (
   .seq (
    .ops [⟨(some 4), .mov (.c (.lit (.bool true))), none⟩]) (
   .ret)) (
   .skip))) (
 .seq (
  .dops 10 [⟨(some 68), .load (some 3) (.t 2), none⟩, ⟨(some 70), .load (some 3) (.t 6), none⟩, ⟨(some 69), .call (.c (.fn (f_tree_Depth N) [] [])) [(.t 68)], none⟩, ⟨(some 71), .call (.c (.fn (f_tree_Depth N) [] [])) [(.t 70)], none⟩, ⟨(some 8), .mov (.t 69), none⟩, ⟨(some 9), .mov (.t 71), none⟩] [2, 2, 1, 0, 0, 0] []) (
 .seq (
  .dops 11 [⟨(some 72), .mov (.t 9), none⟩, ⟨(some 73), .mov (.t 8), none⟩, ⟨(some 74), .eq false .pint (.t 72) (.t 73), none⟩, ⟨(some 75), .mov (.t 74), none⟩, ⟨(some 76), .mov (.t 9), (some (75, false))⟩, ⟨(some 77), .mov (.t 8), (some (75, false))⟩, ⟨(some 78), .bin .add (.t 77) (.c (.lit (.int .i64 1))), (some (75, false))⟩, ⟨(some 79), .eq false .pint (.t 76) (.t 78), (some (75, false))⟩, ⟨(some 80), .pick (.t 75) (.c (.lit (.bool true))) (.t 79), none⟩, ⟨(some 81), .mov (.t 80), none⟩, ⟨(some 82), .load (some 3) (.t 6), (some (81, true))⟩, ⟨(some 83), .mov (.t 5), (some (81, true))⟩, ⟨(some 86), .mov (.t 5), (some (81, true))⟩, ⟨(some 88), .load (some 3) (.t 2), (some (81, true))⟩, ⟨(some 89), .mov (.t 5), (some (81, true))⟩, ⟨(some 90), .bin .sub (.t 89) (.c (.lit (.int .i64 1))), (some (81, true))⟩, ⟨(some 84), .call (.c (.fn (f_tree_Walk N) [] [])) [(.t 82), (.t 83)], (some (81, true))⟩, ⟨(some 85), .call (.c (.fn (f_law04_all N) [] [])) [(.t 84)], (some (81, true))⟩, ⟨(some 87), .bslice (t_int N) 1 none 1 [(.lit (.int .i64 0))] [(0, 1, (.t 86))], (some (81, true))⟩, ⟨(some 91), .call (.c (.fn (f_tree_Walk N) [] [])) [(.t 88), (.t 90)], (some (81, true))⟩, ⟨(some 92), .call (.c (.fn (f_law04_all N) [] [])) [(.t 91)], (some (81, true))⟩, ⟨(some 93), .append (t_int N) 1 8 (.t 87) (.t 92), (some (81, true))⟩, ⟨(some 94), .call (.c (.fn (f_law04_same N) [] [])) [(.t 85), (.t 93)], (some (81, true))⟩, ⟨(some 95), .pick (.t 81) (.t 94) (.c (.lit (.bool false))), none⟩, ⟨(some 4), .mov (.t 95), none⟩] [0, 0, 0, 0, 0, 0, 0, 0, 0, 0, 2, 0, 0, 2, 0, 0, 2, 2, 2, 2, 2, 0, 0, 0, 0] []) (
 .ret))))))))), false⟩

def L_law04_TreeBuilds_1 (N : Nat → Nat) : AC :=
    .seq (
     .ops [⟨(some 34), .bin .lss (.t 33) (.t 32), none⟩]) (
    .seq (
     .cond (.t 34) (
      .skip) (
      .exit 0)) (
    .seq (
     .block 1 (
      .seq (
       .ops [⟨(some 35), .mov (.t 33), none⟩, ⟨(some 36), .iaddr 6 (.t 31) (.t 33), none⟩, ⟨(some 37), .load (some 6) (.t 36), none⟩, ⟨(some 6), .new (t_api_TypeNode N) (.agg [(.lit (.int .i64 0)), (.lit (.int .i64 0)), (.lit (.string (mkS []))), (.lit (.slice none 0 0)), (.lit (.slice none 0 0)), (.lit (.bool false))]), none⟩, ⟨(some 5), .mov (.t 35), none⟩, ⟨none, .store 6 (.t 6) (.t 37), none⟩]) (
      .seq (
       .ops [⟨(some 39), .mov (.t 3), none⟩, ⟨(some 40), .load (some 6) (.t 6), none⟩, ⟨(some 41), .call (.c (.fn (f_p_tree_Builder_Type N) [] [])) [(.t 39), (.t 40)], none⟩, ⟨(some 38), .mov (.t 41), none⟩, ⟨(some 42), .extract (.t 38) 0, none⟩, ⟨(some 43), .extract (.t 38) 1, none⟩, ⟨(some 7), .mov (.t 42), none⟩, ⟨(some 8), .mov (.t 43), none⟩]) (
      .seq (
       .ops [⟨(some 45), .mov (.t 4), none⟩, ⟨(some 46), .load (some 6) (.t 6), none⟩, ⟨(some 47), .call (.c (.fn (f_p_tree_Builder_Type N) [] [])) [(.t 45), (.t 46)], none⟩, ⟨(some 44), .mov (.t 47), none⟩, ⟨(some 48), .extract (.t 44) 0, none⟩, ⟨(some 49), .extract (.t 44) 1, none⟩, ⟨(some 9), .mov (.t 48), none⟩, ⟨(some 10), .mov (.t 49), none⟩]) (
      .seq (
       .ops [⟨(some 50), .mov (.t 7), none⟩, ⟨(some 51), .mov (.t 5), none⟩, ⟨(some 52), .eq true .pint (.t 50) (.t 51), none⟩, ⟨(some 53), .mov (.t 52), none⟩, ⟨(some 54), .mov (.t 8), (some (53, false))⟩, ⟨(some 55), .eq true .pint (.t 54) (.c (.lit (.int .i64 0))), (some (53, false))⟩, ⟨(some 56), .pick (.t 53) (.c (.lit (.bool true))) (.t 55), none⟩, ⟨(some 57), .mov (.t 56), none⟩, ⟨(some 58), .mov (.t 10), (some (57, false))⟩, ⟨(some 59), .eq true .pint (.t 58) (.c (.lit (.int .i64 1))), (some (57, false))⟩, ⟨(some 60), .pick (.t 57) (.c (.lit (.bool true))) (.t 59), none⟩]) (
      .cond (.t 60) (
       .seq (
        .ops [⟨(some 2), .mov (.c (.lit (.bool false))), none⟩]) (
       .ret)) (
       .skip))))))) (
    .ops [⟨(some 61), .bin .add (.t 33) (.c (.lit (.int .i64 1))), none⟩, ⟨(some 33), .mov (.t 61), none⟩])))
def L_law04_TreeBuilds_2 (N : Nat → Nat) : AC :=
    .seq (
     .ops [⟨(some 66), .bin .lss (.t 65) (.t 64), none⟩]) (
    .seq (
     .cond (.t 66) (
      .skip) (
      .exit 2)) (
    .seq (
     .block 3 (
      .seq (
       .ops [⟨(some 67), .mov (.t 65), none⟩, ⟨(some 68), .iaddr 8 (.t 63) (.t 65), none⟩, ⟨(some 69), .load (some 8) (.t 68), none⟩, ⟨(some 12), .new (t_api_Node N) (.agg [(.lit (.int .i64 0)), (.lit (.int .i64 0)), (.lit (.string (mkS []))), (.lit (.int .i64 0)), (.lit (.int .u64 0)), (.lit (.slice none 0 0)), (.lit (.slice none 0 0)), (.lit (.slice none 0 0))]), none⟩, ⟨(some 11), .mov (.t 67), none⟩, ⟨none, .store 8 (.t 12) (.t 69), none⟩]) (
      .seq (
       .ops [⟨(some 71), .mov (.t 3), none⟩, ⟨(some 72), .load (some 8) (.t 12), none⟩, ⟨(some 73), .call (.c (.fn (f_p_tree_Builder_Term N) [] [])) [(.t 71), (.t 72)], none⟩, ⟨(some 70), .mov (.t 73), none⟩, ⟨(some 74), .extract (.t 70) 0, none⟩, ⟨(some 75), .extract (.t 70) 1, none⟩, ⟨(some 13), .mov (.t 74), none⟩, ⟨(some 14), .mov (.t 75), none⟩]) (
      .seq (
       .ops [⟨(some 77), .mov (.t 4), none⟩, ⟨(some 78), .load (some 8) (.t 12), none⟩, ⟨(some 79), .call (.c (.fn (f_p_tree_Builder_Term N) [] [])) [(.t 77), (.t 78)], none⟩, ⟨(some 76), .mov (.t 79), none⟩, ⟨(some 80), .extract (.t 76) 0, none⟩, ⟨(some 81), .extract (.t 76) 1, none⟩, ⟨(some 15), .mov (.t 80), none⟩, ⟨(some 16), .mov (.t 81), none⟩]) (
      .seq (
       .ops [⟨(some 82), .mov (.t 13), none⟩, ⟨(some 83), .mov (.t 11), none⟩, ⟨(some 84), .eq true .pint (.t 82) (.t 83), none⟩, ⟨(some 85), .mov (.t 84), none⟩, ⟨(some 86), .mov (.t 14), (some (85, false))⟩, ⟨(some 87), .eq true .pint (.t 86) (.c (.lit (.int .i64 0))), (some (85, false))⟩, ⟨(some 88), .pick (.t 85) (.c (.lit (.bool true))) (.t 87), none⟩, ⟨(some 89), .mov (.t 88), none⟩, ⟨(some 90), .mov (.t 16), (some (89, false))⟩, ⟨(some 91), .eq true .pint (.t 90) (.c (.lit (.int .i64 1))), (some (89, false))⟩, ⟨(some 92), .pick (.t 89) (.c (.lit (.bool true))) (.t 91), none⟩]) (
      .cond (.t 92) (
       .seq (
        .ops [⟨(some 2), .mov (.c (.lit (.bool false))), none⟩]) (
       .ret)) (
       .skip))))))) (
    .ops [⟨(some 93), .bin .add (.t 65) (.c (.lit (.int .i64 1))), none⟩, ⟨(some 65), .mov (.t 93), none⟩])))
def L_law04_TreeBuilds_3 (N : Nat → Nat) : AC :=
    .seq (
     .ops [⟨(some 98), .bin .lss (.t 97) (.t 96), none⟩]) (
    .seq (
     .cond (.t 98) (
      .skip) (
      .exit 4)) (
    .seq (
     .block 5 (
      .seq (
       .ops [⟨(some 99), .iaddr 3 (.t 95) (.t 97), none⟩, ⟨(some 100), .load (some 3) (.t 99), none⟩, ⟨(some 18), .new (t_api_Alias N) (.agg [(.lit (.string (mkS []))), (.lit (.int .i64 0)), (.lit (.int .i64 0))]), none⟩, ⟨none, .store 3 (.t 18) (.t 100), none⟩]) (
      .seq (
       .ops [⟨(some 101), .mov (.t 3), none⟩, ⟨(some 102), .load (some 3) (.t 18), none⟩, ⟨(some 103), .call (.c (.fn (f_p_tree_Builder_Alias N) [] [])) [(.t 101), (.t 102)], none⟩]) (
      .ops [⟨(some 104), .mov (.t 4), none⟩, ⟨(some 105), .load (some 3) (.t 18), none⟩, ⟨(some 106), .call (.c (.fn (f_p_tree_Builder_Alias N) [] [])) [(.t 104), (.t 105)], none⟩])))) (
    .ops [⟨(some 107), .bin .add (.t 97) (.c (.lit (.int .i64 1))), none⟩, ⟨(some 97), .mov (.t 107), none⟩])))
def L_law04_TreeBuilds_4 (N : Nat → Nat) : AC :=
    .seq (
     .ops [⟨(some 153), .bin .lss (.t 152) (.t 151), none⟩]) (
    .seq (
     .cond (.t 153) (
      .skip) (
      .exit 6)) (
    .seq (
     .block 7 (
      .seq (
       .ops [⟨(some 154), .mov (.t 152), none⟩, ⟨(some 20), .mov (.t 154), none⟩]) (
      .seq (
       .dops 33 [⟨(some 155), .faddr 0 (.t 19), none⟩, ⟨(some 156), .load none (.t 155), none⟩, ⟨(some 157), .mov (.t 20), none⟩, ⟨(some 158), .iaddr 8 (.t 156) (.t 157), none⟩, ⟨(some 159), .faddr 1 (.t 158), none⟩, ⟨(some 160), .load none (.t 159), none⟩, ⟨(some 161), .faddr 0 (.t 1), none⟩, ⟨(some 162), .load none (.t 161), none⟩, ⟨(some 163), .mov (.t 20), none⟩, ⟨(some 164), .iaddr 8 (.t 162) (.t 163), none⟩, ⟨(some 165), .faddr 1 (.t 164), none⟩, ⟨(some 166), .load none (.t 165), none⟩, ⟨(some 167), .eq true .pint (.t 160) (.t 166), none⟩, ⟨(some 168), .mov (.t 167), none⟩, ⟨(some 169), .faddr 0 (.t 19), (some (168, false))⟩, ⟨(some 170), .load none (.t 169), (some (168, false))⟩, ⟨(some 171), .mov (.t 20), (some (168, false))⟩, ⟨(some 172), .iaddr 8 (.t 170) (.t 171), (some (168, false))⟩, ⟨(some 173), .faddr 0 (.t 172), (some (168, false))⟩, ⟨(some 174), .load none (.t 173), (some (168, false))⟩, ⟨(some 175), .faddr 0 (.t 1), (some (168, false))⟩, ⟨(some 176), .load none (.t 175), (some (168, false))⟩, ⟨(some 177), .mov (.t 20), (some (168, false))⟩, ⟨(some 178), .iaddr 8 (.t 176) (.t 177), (some (168, false))⟩, ⟨(some 179), .faddr 0 (.t 178), (some (168, false))⟩, ⟨(some 180), .load none (.t 179), (some (168, false))⟩, ⟨(some 181), .eq true .pint (.t 174) (.t 180), (some (168, false))⟩, ⟨(some 182), .pick (.t 168) (.c (.lit (.bool true))) (.t 181), none⟩] [0, 2, 0, 0, 0, 2, 0, 2, 0, 0, 0, 2, 0, 0, 0, 2, 0, 0, 0, 2, 0, 2, 0, 0, 0, 2, 0, 0] []) (
      .cond (.t 182) (
       .seq (
        .ops [⟨(some 2), .mov (.c (.lit (.bool false))), none⟩]) (
       .ret)) (
       .skip))))) (
    .ops [⟨(some 183), .bin .add (.t 152) (.c (.lit (.int .i64 1))), none⟩, ⟨(some 152), .mov (.t 183), none⟩])))
def K_law04_TreeBuilds_4 (N : Nat → Nat) : AC :=
 .seq (
  .ops [⟨(some 184), .load (some 3) (.t 1), none⟩, ⟨(some 185), .call (.c (.fn (f_tree_Check N) [] [])) [(.t 184)], none⟩, ⟨(some 186), .eq true .pint (.t 185) (.c (.lit (.int .i64 0))), none⟩, ⟨(some 187), .mov (.t 186), none⟩, ⟨(some 188), .load (some 3) (.t 19), (some (187, false))⟩, ⟨(some 189), .load (some 3) (.t 1), (some (187, false))⟩, ⟨(some 190), .call (.c (.fn (f_tree_Same N) [] [])) [(.t 188), (.t 189)], (some (187, false))⟩, ⟨(some 191), .pick (.t 187) (.c (.lit (.bool true))) (.t 190), none⟩, ⟨(some 2), .mov (.t 191), none⟩]) (
 .ret)
def K_law04_TreeBuilds_3 (N : Nat → Nat) : AC :=
 .seq (
  .ops [⟨(some 108), .mov (.t 3), none⟩, ⟨(some 109), .call (.c (.fn (f_p_tree_Builder_Tree N) [] [])) [(.t 108)], none⟩, ⟨(some 19), .new (t_api_Tree N) (.agg [(.lit (.slice none 0 0)), (.lit (.slice none 0 0)), (.lit (.slice none 0 0))]), none⟩, ⟨none, .store 3 (.t 19) (.t 109), none⟩]) (
 .seq (
  .seq (
   .dops 28 [⟨(some 110), .load (some 3) (.t 19), none⟩, ⟨(some 112), .load (some 3) (.t 1), none⟩, ⟨(some 111), .call (.c (.fn (f_tree_Check N) [] [])) [(.t 110)], none⟩, ⟨(some 113), .call (.c (.fn (f_tree_Check N) [] [])) [(.t 112)], none⟩, ⟨(some 114), .eq true .pint (.t 111) (.t 113), none⟩, ⟨(some 115), .mov (.t 114), none⟩, ⟨(some 116), .faddr 0 (.t 19), (some (115, false))⟩, ⟨(some 117), .load none (.t 116), (some (115, false))⟩, ⟨(some 118), .len (.t 117), (some (115, false))⟩, ⟨(some 119), .faddr 0 (.t 1), (some (115, false))⟩, ⟨(some 120), .load none (.t 119), (some (115, false))⟩, ⟨(some 121), .len (.t 120), (some (115, false))⟩, ⟨(some 122), .eq true .pint (.t 118) (.t 121), (some (115, false))⟩, ⟨(some 123), .pick (.t 115) (.c (.lit (.bool true))) (.t 122), none⟩, ⟨(some 124), .mov (.t 123), none⟩, ⟨(some 125), .faddr 1 (.t 19), (some (124, false))⟩, ⟨(some 126), .load none (.t 125), (some (124, false))⟩, ⟨(some 127), .len (.t 126), (some (124, false))⟩, ⟨(some 128), .faddr 1 (.t 1), (some (124, false))⟩, ⟨(some 129), .load none (.t 128), (some (124, false))⟩, ⟨(some 130), .len (.t 129), (some (124, false))⟩, ⟨(some 131), .eq true .pint (.t 127) (.t 130), (some (124, false))⟩, ⟨(some 132), .pick (.t 124) (.c (.lit (.bool true))) (.t 131), none⟩, ⟨(some 133), .mov (.t 132), none⟩, ⟨(some 134), .faddr 2 (.t 19), (some (133, false))⟩, ⟨(some 135), .load none (.t 134), (some (133, false))⟩, ⟨(some 136), .len (.t 135), (some (133, false))⟩, ⟨(some 137), .faddr 2 (.t 1), (some (133, false))⟩, ⟨(some 138), .load none (.t 137), (some (133, false))⟩, ⟨(some 139), .len (.t 138), (some (133, false))⟩, ⟨(some 140), .eq true .pint (.t 136) (.t 139), (some (133, false))⟩, ⟨(some 141), .pick (.t 133) (.c (.lit (.bool true))) (.t 140), none⟩, ⟨(some 142), .mov (.t 141), none⟩, ⟨(some 143), .mov (.t 4), (some (142, false))⟩, ⟨(some 144), .call (.c (.fn (f_p_tree_Builder_Tree N) [] [])) [(.t 143)], (some (142, false))⟩, ⟨(some 145), .field 0 none (.t 144), (some (142, false))⟩, ⟨(some 146), .len (.t 145), (some (142, false))⟩, ⟨(some 147), .eq true .pint (.t 146) (.c (.lit (.int .i64 0))), (some (142, false))⟩, ⟨(some 148), .pick (.t 142) (.c (.lit (.bool true))) (.t 147), none⟩] [2, 2, 1, 0, 0, 0, 0, 2, 0, 0, 2, 0, 0, 0, 0, 0, 2, 0, 0, 2, 0, 0, 0, 0, 0, 2, 0, 0, 2, 0, 0, 0, 0, 0, 0, 0, 0, 0, 0] []) (
  .cond (.t 148) (
   .seq (
    .ops [⟨(some 2), .mov (.c (.lit (.bool false))), none⟩]) (
   .ret)) (
   .skip))) (
 .seq (
  .seq (
   .ops [⟨(some 149), .faddr 0 (.t 1), none⟩, ⟨(some 150), .load none (.t 149), none⟩, ⟨(some 151), .len (.t 150), none⟩, ⟨(some 152), .mov (.c (.lit (.int .i64 0))), none⟩]) (
  .block 6 (
   .loop (L_law04_TreeBuilds_4 N)))) (K_law04_TreeBuilds_4 N)))
def K_law04_TreeBuilds_2 (N : Nat → Nat) : AC :=
 .seq (
  .seq (
   .ops [⟨(some 94), .faddr 2 (.t 1), none⟩, ⟨(some 95), .load none (.t 94), none⟩, ⟨(some 96), .len (.t 95), none⟩, ⟨(some 97), .mov (.c (.lit (.int .i64 0))), none⟩]) (
  .block 4 (
   .loop (L_law04_TreeBuilds_3 N)))) (K_law04_TreeBuilds_3 N)
def K_law04_TreeBuilds_1 (N : Nat → Nat) : AC :=
 .seq (
  .seq (
   .ops [⟨(some 62), .faddr 0 (.t 1), none⟩, ⟨(some 63), .load none (.t 62), none⟩, ⟨(some 64), .len (.t 63), none⟩, ⟨(some 65), .mov (.c (.lit (.int .i64 0))), none⟩]) (
  .block 2 (
   .loop (L_law04_TreeBuilds_2 N)))) (K_law04_TreeBuilds_2 N)
/-- azimuth/azimuthlaw04.TreeBuilds -/
def C_law04_TreeBuilds (N : Nat → Nat) : AFunc := ⟨192, [.inl 2],
 .seq (
  .ops [⟨(some 1), .box (t_api_Tree N) (.t 0), none⟩, ⟨(some 2), .mov (.c (.lit (.bool false))), none⟩]) (
 .seq (
  .seq (
   .ops [⟨(some 21), .call (.c (.fn (f_law04_lives N) [] [])) [], none⟩, ⟨(some 22), .un .not (.t 21), none⟩, ⟨(some 23), .mov (.t 22), none⟩, ⟨(some 24), .load (some 3) (.t 1), (some (23, false))⟩, ⟨(some 25), .call (.c (.fn (f_law04_Few N) [] [])) [(.t 24)], (some (23, false))⟩, ⟨(some 26), .un .not (.t 25), (some (23, false))⟩, ⟨(some 27), .pick (.t 23) (.c (.lit (.bool true))) (.t 26), none⟩]) (
  .cond (.t 27) (
   .seq (
    .ops [⟨(some 28), .call (.c (.fn (f_law04_lives N) [] [])) [], none⟩, ⟨(some 2), .mov (.t 28), none⟩]) (
   .ret)) (
   .skip))) (
 .seq (
  .ops [⟨(some 29), .call (.c (.fn (f_tree_New N) [] [])) [], none⟩, ⟨(some 3), .mov (.t 29), none⟩]) (
 .seq (
  .ops [⟨(some 4), .mov (.c (.lit (.pointer none))), none⟩]) (
 .seq (
  .seq (
   .ops [⟨(some 30), .faddr 1 (.t 1), none⟩, ⟨(some 31), .load none (.t 30), none⟩, ⟨(some 32), .len (.t 31), none⟩, ⟨(some 33), .mov (.c (.lit (.int .i64 0))), none⟩]) (
  .block 0 (
   .loop (L_law04_TreeBuilds_1 N)))) (K_law04_TreeBuilds_1 N))))), false⟩

def L_law04_all_1 (N : Nat → Nat) : AC :=
    .ops [⟨(some 4), .mov (.t 6), none⟩]
def L_law04_all_2 (N : Nat → Nat) : AC :=
    .block 1 (
     .ops [⟨(some 7), .load none (.t 3), none⟩, ⟨(some 8), .mov (.t 4), none⟩, ⟨(some 9), .bslice (t_int N) 1 none 1 [(.lit (.int .i64 0))] [(0, 1, (.t 8))], none⟩, ⟨(some 10), .append (t_int N) 1 8 (.t 7) (.t 9), none⟩, ⟨none, .store 1 (.t 3) (.t 10), none⟩])
def K_law04_all_1 (N : Nat → Nat) : AC :=
 .seq (
  .ops [⟨(some 11), .load none (.t 3), none⟩, ⟨(some 2), .mov (.t 11), none⟩]) (
 .ret)
/-- azimuth/azimuthlaw04.all -/
def C_law04_all (N : Nat → Nat) : AFunc := ⟨12, [.inl 2],
 .seq (
  .ops [⟨(some 2), .mov (.c (.lit (.slice none 0 0))), none⟩]) (
 .seq (
  .ops [⟨(some 3), .new (t_sl_int N) (.lit (.slice none 0 0)), none⟩]) (
 .seq (
  .seq (
   .ops [⟨(some 5), .mov (.t 0), none⟩]) (
  .block 0 (
   .rangeFn (.t 5) [6] (L_law04_all_1 N) (L_law04_all_2 N)))) (K_law04_all_1 N))), false⟩

/-- azimuth/azimuthlaw04.lives -/
def C_law04_lives (N : Nat → Nat) : AFunc := ⟨40, [.inl 0],
 .seq (
  .ops [⟨(some 0), .mov (.c (.lit (.bool false))), none⟩]) (
 .seq (
  .ops [⟨(some 7), .call (.c (.fn (f_tree_New N) [] [])) [], none⟩, ⟨(some 1), .mov (.t 7), none⟩]) (
 .seq (
  .ops [⟨(some 9), .mov (.t 1), none⟩, ⟨(some 10), .build [(.lit (.int .i64 0)), (.lit (.int .i64 0)), (.lit (.string (mkS []))), (.lit (.int .i64 0)), (.lit (.int .u64 0)), (.lit (.slice none 0 0)), (.lit (.slice none 0 0)), (.lit (.slice none 0 0))] [(0, 1, (.c (.lit (.int .i64 0)))), (2, 1, (.c (.lit (.string (mkS [120])))))], none⟩, ⟨(some 11), .call (.c (.fn (f_p_tree_Builder_Term N) [] [])) [(.t 9), (.t 10)], none⟩, ⟨(some 8), .mov (.t 11), none⟩, ⟨(some 12), .extract (.t 8) 0, none⟩, ⟨(some 13), .extract (.t 8) 1, none⟩, ⟨(some 2), .mov (.t 12), none⟩, ⟨(some 3), .mov (.t 13), none⟩]) (
 .seq (
  .ops [⟨(some 15), .mov (.t 1), none⟩, ⟨(some 16), .mov (.t 2), none⟩, ⟨(some 17), .bslice (t_int N) 1 none 1 [(.lit (.int .i64 0))] [(0, 1, (.t 16))], none⟩, ⟨(some 18), .build [(.lit (.int .i64 0)), (.lit (.int .i64 0)), (.lit (.string (mkS []))), (.lit (.int .i64 0)), (.lit (.int .u64 0)), (.lit (.slice none 0 0)), (.lit (.slice none 0 0)), (.lit (.slice none 0 0))] [(0, 1, (.c (.lit (.int .i64 5)))), (2, 1, (.c (.lit (.string (mkS [120]))))), (6, 1, (.t 17))], none⟩, ⟨(some 19), .call (.c (.fn (f_p_tree_Builder_Term N) [] [])) [(.t 15), (.t 18)], none⟩, ⟨(some 14), .mov (.t 19), none⟩, ⟨(some 20), .extract (.t 14) 0, none⟩, ⟨(some 21), .extract (.t 14) 1, none⟩, ⟨(some 4), .mov (.t 20), none⟩, ⟨(some 5), .mov (.t 21), none⟩]) (
 .seq (
  .ops [⟨(some 22), .mov (.t 1), none⟩, ⟨(some 23), .call (.c (.fn (f_p_tree_Builder_Tree N) [] [])) [(.t 22)], none⟩, ⟨(some 6), .new (t_api_Tree N) (.agg [(.lit (.slice none 0 0)), (.lit (.slice none 0 0)), (.lit (.slice none 0 0))]), none⟩, ⟨none, .store 3 (.t 6) (.t 23), none⟩]) (
 .seq (
  .ops [⟨(some 24), .mov (.t 3), none⟩, ⟨(some 25), .eq false .pint (.t 24) (.c (.lit (.int .i64 0))), none⟩, ⟨(some 26), .mov (.t 25), none⟩, ⟨(some 27), .mov (.t 5), (some (26, true))⟩, ⟨(some 28), .eq false .pint (.t 27) (.c (.lit (.int .i64 0))), (some (26, true))⟩, ⟨(some 29), .pick (.t 26) (.t 28) (.c (.lit (.bool false))), none⟩, ⟨(some 30), .mov (.t 29), none⟩, ⟨(some 31), .load (some 3) (.t 6), (some (30, true))⟩, ⟨(some 32), .call (.c (.fn (f_tree_Check N) [] [])) [(.t 31)], (some (30, true))⟩, ⟨(some 33), .eq false .pint (.t 32) (.c (.lit (.int .i64 0))), (some (30, true))⟩, ⟨(some 34), .pick (.t 30) (.t 33) (.c (.lit (.bool false))), none⟩, ⟨(some 35), .mov (.t 34), none⟩, ⟨(some 36), .load (some 3) (.t 6), (some (35, true))⟩, ⟨(some 37), .call (.c (.fn (f_tree_Depth N) [] [])) [(.t 36)], (some (35, true))⟩, ⟨(some 38), .eq false .pint (.t 37) (.c (.lit (.int .i64 2))), (some (35, true))⟩, ⟨(some 39), .pick (.t 35) (.t 38) (.c (.lit (.bool false))), none⟩, ⟨(some 0), .mov (.t 39), none⟩]) (
 .ret)))))), false⟩

def L_law04_same_1 (N : Nat → Nat) : AC :=
    .seq (
     .ops [⟨(some 14), .bin .lss (.t 13) (.t 12), none⟩]) (
    .seq (
     .cond (.t 14) (
      .skip) (
      .exit 0)) (
    .seq (
     .block 1 (
      .seq (
       .ops [⟨(some 15), .mov (.t 13), none⟩, ⟨(some 5), .mov (.t 15), none⟩]) (
      .seq (
       .dops 6 [⟨(some 16), .mov (.t 0), none⟩, ⟨(some 17), .mov (.t 5), none⟩, ⟨(some 18), .iaddr 1 (.t 16) (.t 17), none⟩, ⟨(some 19), .load none (.t 18), none⟩, ⟨(some 20), .mov (.t 1), none⟩, ⟨(some 21), .mov (.t 5), none⟩, ⟨(some 22), .iaddr 1 (.t 20) (.t 21), none⟩, ⟨(some 23), .load none (.t 22), none⟩, ⟨(some 24), .eq true .pint (.t 19) (.t 23), none⟩] [0, 0, 0, 2, 0, 0, 0, 2, 0] []) (
      .cond (.t 24) (
       .seq (
        .ops [⟨(some 4), .mov (.c (.lit (.bool false))), none⟩]) (
       .ret)) (
       .skip))))) (
    .ops [⟨(some 25), .bin .add (.t 13) (.c (.lit (.int .i64 1))), none⟩, ⟨(some 13), .mov (.t 25), none⟩])))
def K_law04_same_1 (N : Nat → Nat) : AC :=
 .seq (
  .ops [⟨(some 4), .mov (.c (.lit (.bool true))), none⟩]) (
 .ret)
/-- azimuth/azimuthlaw04.same -/
def C_law04_same (N : Nat → Nat) : AFunc := ⟨26, [.inl 4],
 .seq (
  .ops [⟨(some 4), .mov (.c (.lit (.bool false))), none⟩]) (
 .seq (
  .seq (
   .ops [⟨(some 6), .mov (.t 0), none⟩, ⟨(some 7), .len (.t 6), none⟩, ⟨(some 8), .mov (.t 1), none⟩, ⟨(some 9), .len (.t 8), none⟩, ⟨(some 10), .eq true .pint (.t 7) (.t 9), none⟩]) (
  .cond (.t 10) (
   .seq (
    .ops [⟨(some 4), .mov (.c (.lit (.bool false))), none⟩]) (
   .ret)) (
   .skip))) (
 .seq (
  .seq (
   .ops [⟨(some 11), .mov (.t 0), none⟩, ⟨(some 12), .len (.t 11), none⟩, ⟨(some 13), .mov (.c (.lit (.int .i64 0))), none⟩]) (
  .block 0 (
   .loop (L_law04_same_1 N)))) (K_law04_same_1 N))), false⟩
end Go.Proofs.Eng
/- Is a tree little: run by the engine. -/
set_option linter.unusedVariables false
set_option linter.unusedSimpArgs false
set_option maxRecDepth 100000
namespace Go.Proofs.Eng
open Go
def le60 (s : List UInt8) : Bool := decide (s.length ≤ 60)
def fewN (n : Nd) : Bool := (decide (n.names.length ≤ 20) && decide (n.kids.length ≤ 20) && decide (n.types.length ≤ 20) && decide (n.name.length ≤ 60)) && n.names.all le60
def fewT (n : Ty) : Bool := (decide (n.names.length ≤ 20) && decide (n.kids.length ≤ 20) && decide (n.name.length ≤ 60)) && n.names.all le60
def fewA (n : Al) : Bool := decide (n.name.length ≤ 60)
def fewE (t : Tr) : Bool := decide (t.nodes.length ≤ 60) && decide (t.types.length ≤ 60) && decide (t.als.length ≤ 10)
def fewB (t : Tr) : Bool := t.nodes.all fewN && (t.types.all fewT && (t.als.all fewA && fewE t))
theorem drop_all {α : Type} {p : α → Bool} {l : List α} {i : Nat} (h : i < l.length) : (l.drop i).all p = (p l[i] && (l.drop (i + 1)).all p) := by
  rw [List.drop_eq_getElem_cons h, List.all_cons]
section
variable {Γ : Sums} {A : Tab} {N : Nat → Nat}
theorem few_end {H H' : Hp} {a b c : AV} {t : Tr} {ρ : Rho} (la : asLen a = some t.nodes.length) (lb : asLen b = some t.types.length) (lc : asLen c = some t.als.length) (hl : t.nodes.length < 2 ^ 63 ∧ t.types.length < 2 ^ 63 ∧ t.als.length < 2 ^ 63) (r1 : ρ 1 = .ptr H.l.length 0) (hL : Loc H H' [(H.l.length, .cells [a, b, c] (t_api_Tree N))]) :
    wp (lim Γ A) none (K_law04_Few_5 N) ρ H' (Ends [.inl 2] false H fun p => p = (avBool (fewE t), none)) := by
  have hbox := hL.head
  have f1 := fun b => settle_keeps (v := avBool b) hL.keeps (by simp [AV.under])
  unfold fewE
  by_cases c1 : t.nodes.length ≤ 60
  · have c1' : (t.nodes.length : Int) ≤ 60 := by omega
    by_cases c2 : t.types.length ≤ 60
    · have c2' : (t.types.length : Int) ≤ 60 := by omega
      by_cases c3 : t.als.length ≤ 10
      · have c3' : (t.als.length : Int) ≤ 10 := by omega
        simp [K_law04_Few_5, r1, hbox, la, lb, lc, c1, c1', c2, c2', c3, c3']
        exact f1 true
      · have c3' : ¬ (t.als.length : Int) ≤ 10 := by omega
        simp [K_law04_Few_5, r1, hbox, la, lb, lc, c1, c1', c2, c2', c3, c3']
        exact f1 false
    · have c2' : ¬ (t.types.length : Int) ≤ 60 := by omega
      simp [K_law04_Few_5, r1, hbox, la, lb, lc, c1, c1', c2, c2']
      exact f1 false
  · have c1' : ¬ (t.nodes.length : Int) ≤ 60 := by omega
    simp [K_law04_Few_5, r1, hbox, la, lb, lc, c1, c1']
    exact f1 false
theorem few_als {H H' : Hp} {a b c : AV} {t : Tr} {ρ : Rho} (la : asLen a = some t.nodes.length) (lb : asLen b = some t.types.length) {zs : List AV} (zs1 : Vw H 3 c zs) (zs2 : zs.length = t.als.length) (zs3 : ∀ (i : Nat) (y : AV) (n : Al), zs[i]? = some y → t.als[i]? = some n → AlR H y n) (hl : t.nodes.length < 2 ^ 63 ∧ t.types.length < 2 ^ 63 ∧ t.als.length < 2 ^ 63) (r1 : ρ 1 = .ptr H.l.length 0) (hL : Loc H H' [(H.l.length, .cells [a, b, c] (t_api_Tree N))]) :
    wp (lim Γ A) none (K_law04_Few_4 N) ρ H' (Ends [.inl 2] false H fun p => p = (avBool (t.als.all fewA && fewE t), none)) := by
  have lc : asLen c = some t.als.length := by rw [zs1.len, zs2]
  have hbox := hL.head
  generalize hE : (t.als.all fewA && fewE t) = E
  simp [K_law04_Few_4, r1, hbox, lc]
  refine wp_round (n := t.als.length) (fun q ρ H' => ∃ i : Nat, ρ 1 = .ptr H.l.length 0 ∧ ρ 90 = c ∧ ρ 91 = avInt .i64 (t.als.length : Nat) ∧ ρ 92 = avInt .i64 (i : Nat) ∧ i ≤ t.als.length ∧ ((t.als.drop i).all fewA && fewE t) = E ∧ Loc H H' [(H.l.length, .cells [a, b, c] (t_api_Tree N))] ∧ q = t.als.length - i) ?_ ?_
  · exact ⟨0, r1, rfl, rfl, rfl, by omega, hE, hL, rfl⟩
  · rintro q ρ H' ⟨i, r1, r90, r91, r92, hi, hE, hL, rfl⟩
    by_cases hlt : i < t.als.length
    · have hlt' : (i : Int) < t.als.length := by omega
      have hw : IntKind.wrap .i64 ((i : Int) + 1) = ((i + 1 : Nat) : Int) := by rw [wrap64 (by omega) (by omega)]; omega
      have hxi : zs[i]? = some zs[i] := List.getElem?_eq_getElem (by omega)
      have ey := zs3 i _ _ hxi (List.getElem?_eq_getElem hlt)
      unfold AlR alV at ey
      rw [ey] at hxi
      rw [drop_all hlt] at hE
      generalize t.als[i] = n at *
      obtain ⟨p, p1, p2⟩ := (zs1.loc hL).ats (k := .i64) hxi (by rfl) (by simp)
      have hLc := ((hL.alloc (.cells [.lit (.string (mkS [])), .lit (.int .i64 0), .lit (.int .i64 0)] (t_api_Alias N))).set (.cells [avStr n.name, avInt .i64 n.type, avInt .i64 n.pos] (t_api_Alias N))).sub (List.sublist_cons_self _ _)
      have f1 := settle_keeps (v := avBool false) hLc.keeps (by simp [AV.under])
      by_cases c1 : 60 < n.name.length
      · have c1' : (60 : Int) < n.name.length := by omega
        have hf : fewA n = false := decide_eq_false (by omega)
        have hE2 : E = false := by rw [← hE, hf, Bool.false_and, Bool.false_and]
        subst hE2
        simp [L_law04_Few_5, r1, r90, r91, r92, hlt', p1, p2, setFrom, c1, c1', -hset_d, -halloc_d]
        exact f1
      · have c1' : ¬ (60 : Int) < n.name.length := by omega
        have hf : fewA n = true := decide_eq_true (by omega)
        have hE2 : ((t.als.drop (i + 1)).all fewA && fewE t) = E := by rw [← hE, hf, Bool.true_and]
        simp [L_law04_Few_5, r1, r90, r91, r92, hlt', p1, p2, setFrom, c1, c1', hw, -hset_d, -halloc_d, -Int.natCast_add]
        exact ⟨t.als.length - (i + 1), by omega, i + 1, rfl, by omega, hE2, hLc, rfl⟩
    · have hlt' : ¬ (i : Int) < t.als.length := by omega
      rw [List.drop_of_length_le (by omega)] at hE
      simp only [List.all_nil, Bool.true_and] at hE
      subst hE
      simp [L_law04_Few_5, r1, r90, r91, r92, hlt']
      exact few_end la lb lc hl (by simp [r1]) hL

theorem few_types {H H' : Hp} {a b c : AV} {t : Tr} {ρ : Rho} (la : asLen a = some t.nodes.length) {xs : List AV} (xs1 : Vw H 6 b xs) (xs2 : xs.length = t.types.length) (xs3 : ∀ (i : Nat) (y : AV) (n : Ty), xs[i]? = some y → t.types[i]? = some n → TyR H y n) {zs : List AV} (zs1 : Vw H 3 c zs) (zs2 : zs.length = t.als.length) (zs3 : ∀ (i : Nat) (y : AV) (n : Al), zs[i]? = some y → t.als[i]? = some n → AlR H y n) (hl : t.nodes.length < 2 ^ 63 ∧ t.types.length < 2 ^ 63 ∧ t.als.length < 2 ^ 63) (hok : ∀ n ∈ t.types, n.names.length < 2 ^ 63) (r1 : ρ 1 = .ptr H.l.length 0) (hL : Loc H H' [(H.l.length, .cells [a, b, c] (t_api_Tree N))]) {E : Bool} (hE : (t.types.all fewT && (t.als.all fewA && fewE t)) = E)
    (rr : ρ 55 = b) (rl : ρ 56 = avInt .i64 (t.types.length : Nat)) (ri : ρ 57 = avInt .i64 (0 : Nat)) :
    wp (lim Γ A) none (.block 4 (.loop (L_law04_Few_3 N))) ρ H' (seqP (lim Γ A) none (K_law04_Few_4 N) (Ends [.inl 2] false H fun p => p = (avBool E, none))) := by
  simp only [wp_block]
  refine wp_round (n := t.types.length) (fun q ρ H' => ∃ i : Nat, ρ 1 = .ptr H.l.length 0 ∧ ρ 55 = b ∧ ρ 56 = avInt .i64 (t.types.length : Nat) ∧ ρ 57 = avInt .i64 (i : Nat) ∧ i ≤ t.types.length ∧ ((t.types.drop i).all fewT && (t.als.all fewA && fewE t)) = E ∧ Loc H H' [(H.l.length, .cells [a, b, c] (t_api_Tree N))] ∧ q = t.types.length - i) ?_ ?_
  · exact ⟨0, r1, rr, rl, ri, by omega, hE, hL, rfl⟩
  · rintro q ρ H' ⟨i, r1, rr, rl, ri, hi, hE, hL, rfl⟩
    by_cases hlt : i < t.types.length
    · have hlt' : (i : Int) < t.types.length := by omega
      have hw : IntKind.wrap .i64 ((i : Int) + 1) = ((i + 1 : Nat) : Int) := by rw [wrap64 (by omega) (by omega)]; omega
      have hxi : xs[i]? = some xs[i] := List.getElem?_eq_getElem (by omega)
      obtain ⟨sa, sb, ey, vsa, vsb⟩ := xs3 i _ _ hxi (List.getElem?_eq_getElem hlt)
      have okn := hok _ (List.getElem_mem hlt)
      rw [ey] at hxi
      rw [drop_all hlt] at hE
      generalize t.types[i] = n at *
      obtain ⟨p, p1, p2⟩ := (xs1.loc hL).ats (k := .i64) hxi (by rfl) (by simp [vsa.one, vsb.one])
      have hLc := (hL.alloc (.cells [.lit (.int .i64 0), .lit (.int .i64 0), .lit (.string (mkS [])), .lit (.slice none 0 0), .lit (.slice none 0 0), .lit (.bool false)] (t_api_TypeNode N))).set (.cells [avInt .i64 n.kind, avInt .i64 n.pos, avStr n.name, sa, sb, avBool n.opn] (t_api_TypeNode N))
      have hLd := hLc.sub (List.sublist_cons_self _ _)
      have f1 := settle_keeps (v := avBool false) hLd.keeps (by simp [AV.under])
      by_cases d0 : 20 < n.names.length
      · have d0' : (20 : Int) < n.names.length := by omega
        have hf : fewT n = false := by unfold fewT; simp; omega
        have hE2 : E = false := by rw [← hE, hf, Bool.false_and, Bool.false_and]
        subst hE2
        simp [L_law04_Few_3, r1, rr, rl, ri, hlt', p1, p2, vsa.one, vsb.one, VS.len vsa, VI.len vsb, setFrom, loadC, d0, d0', -hset_d, -halloc_d]
        exact f1
      have d0' : ¬ (20 : Int) < n.names.length := by omega
      by_cases d1 : 20 < n.kids.length
      · have d1' : (20 : Int) < n.kids.length := by omega
        have hf : fewT n = false := by unfold fewT; simp; omega
        have hE2 : E = false := by rw [← hE, hf, Bool.false_and, Bool.false_and]
        subst hE2
        simp [L_law04_Few_3, r1, rr, rl, ri, hlt', p1, p2, vsa.one, vsb.one, VS.len vsa, VI.len vsb, setFrom, loadC, d0, d0', d1, d1', -hset_d, -halloc_d]
        exact f1
      have d1' : ¬ (20 : Int) < n.kids.length := by omega
      by_cases d2 : 60 < n.name.length
      · have d2' : (60 : Int) < n.name.length := by omega
        have hf : fewT n = false := by unfold fewT; simp; omega
        have hE2 : E = false := by rw [← hE, hf, Bool.false_and, Bool.false_and]
        subst hE2
        simp [L_law04_Few_3, r1, rr, rl, ri, hlt', p1, p2, vsa.one, vsb.one, VS.len vsa, VI.len vsb, setFrom, loadC, d0, d0', d1, d1', d2, d2', -hset_d, -halloc_d]
        exact f1
      have d2' : ¬ (60 : Int) < n.name.length := by omega
      have hf : fewT n = n.names.all le60 := by
        have : (decide (n.names.length ≤ 20) && decide (n.kids.length ≤ 20) && decide (n.name.length ≤ 60)) = true := by simp; omega
        unfold fewT; rw [this, Bool.true_and]
      rw [hf] at hE
      simp [L_law04_Few_3, r1, rr, rl, ri, hlt', p1, p2, vsa.one, vsb.one, VS.len vsa, VI.len vsb, setFrom, loadC, d0, d0', d1, d1', d2, d2', -hset_d, -halloc_d]
      generalize hHc : hset (halloc H' _) H'.l.length _ = Hc
      rw [hHc] at hLc
      refine wp_round (n := n.names.length) (fun q ρ G => ∃ j : Nat, ρ 1 = .ptr H.l.length 0 ∧ ρ 55 = b ∧ ρ 56 = avInt .i64 (t.types.length : Nat) ∧ ρ 57 = avInt .i64 (i : Nat) ∧ ρ 78 = sa ∧ ρ 79 = avInt .i64 (n.names.length : Nat) ∧ ρ 80 = avInt .i64 (j : Nat) ∧ j ≤ n.names.length ∧ G = Hc ∧ ((n.names.drop j).all le60 && (t.types.drop (i + 1)).all fewT && (t.als.all fewA && fewE t)) = E ∧ q = n.names.length - j) ?_ ?_
      · exact ⟨0, r1, rr, rl, ri, rfl, rfl, rfl, by omega, rfl, hE, rfl⟩
      · rintro q ρ G ⟨j, r1, rr, rl, ri, s1, s2, s3, hj, rfl, hE, rfl⟩
        by_cases hjl : j < n.names.length
        · have hjl' : (j : Int) < n.names.length := by omega
          have hwj : IntKind.wrap .i64 ((j : Int) + 1) = ((j + 1 : Nat) : Int) := by have := okn; rw [wrap64 (by omega) (by omega)]; omega
          obtain ⟨pq, q1, q2⟩ := (vsa.loc hLc).at' (k := .i64) (i := (j : Int)) (e := avStr n.names[j]) (by omega) (by simp [List.getElem?_eq_getElem hjl]) rfl rfl rfl
          rw [drop_all hjl] at hE
          generalize n.names[j] = nm at *
          by_cases e1 : 60 < nm.length
          · have e1' : (60 : Int) < nm.length := by omega
            have hf2 : le60 nm = false := decide_eq_false (by omega)
            have hE2 : E = false := by rw [← hE, hf2, Bool.false_and, Bool.false_and, Bool.false_and]
            subst hE2
            have f2 := settle_keeps (v := avBool false) hLc.keeps (by simp [AV.under])
            simp [L_law04_Few_4, r1, rr, rl, ri, s1, s2, s3, hjl', q1, q2, e1, e1']
            exact f2
          · have e1' : ¬ (60 : Int) < nm.length := by omega
            have hf2 : le60 nm = true := decide_eq_true (by omega)
            rw [hf2, Bool.true_and] at hE
            simp [L_law04_Few_4, r1, rr, rl, ri, s1, s2, s3, hjl', q1, q2, e1, e1', hwj, -Int.natCast_add]
            exact ⟨n.names.length - (j + 1), by omega, j + 1, rfl, by omega, hE, rfl⟩
        · have hjl' : ¬ (j : Int) < n.names.length := by omega
          rw [List.drop_of_length_le (by omega)] at hE
          simp only [List.all_nil, Bool.true_and] at hE
          have hLe := hLc.sub (List.sublist_cons_self _ _)
          simp [L_law04_Few_4, K_law04_Few_3, r1, rr, rl, ri, s1, s2, s3, hjl', hw, -Int.natCast_add]
          exact ⟨t.types.length - (i + 1), by omega, i + 1, rfl, by omega, hE, hLe, rfl⟩
    · have hlt' : ¬ (i : Int) < t.types.length := by omega
      rw [List.drop_of_length_le (by omega)] at hE
      simp only [List.all_nil, Bool.true_and] at hE
      subst hE
      simp [L_law04_Few_3, r1, rr, rl, ri, hlt']
      exact few_als la (by rw [xs1.len, xs2]) zs1 zs2 zs3 hl (by simp [r1]) hL

theorem few_nodes {H H' : Hp} {a b c : AV} {t : Tr} {ρ : Rho} {xs : List AV} (xs1 : Vw H 8 a xs) (xs2 : xs.length = t.nodes.length) (xs3 : ∀ (i : Nat) (y : AV) (n : Nd), xs[i]? = some y → t.nodes[i]? = some n → NdR H y n) {ys : List AV} (ys1 : Vw H 6 b ys) (ys2 : ys.length = t.types.length) (ys3 : ∀ (i : Nat) (y : AV) (n : Ty), ys[i]? = some y → t.types[i]? = some n → TyR H y n) {zs : List AV} (zs1 : Vw H 3 c zs) (zs2 : zs.length = t.als.length) (zs3 : ∀ (i : Nat) (y : AV) (n : Al), zs[i]? = some y → t.als[i]? = some n → AlR H y n) (hokT : ∀ n ∈ t.types, n.names.length < 2 ^ 63) (hl : t.nodes.length < 2 ^ 63 ∧ t.types.length < 2 ^ 63 ∧ t.als.length < 2 ^ 63) (hok : ∀ n ∈ t.nodes, n.names.length < 2 ^ 63) (r1 : ρ 1 = .ptr H.l.length 0) (hL : Loc H H' [(H.l.length, .cells [a, b, c] (t_api_Tree N))]) {E : Bool} (hE : (t.nodes.all fewN && (t.types.all fewT && (t.als.all fewA && fewE t))) = E)
    (rr : ρ 14 = a) (rl : ρ 15 = avInt .i64 (t.nodes.length : Nat)) (ri : ρ 16 = avInt .i64 (0 : Nat)) :
    wp (lim Γ A) none (.block 0 (.loop (L_law04_Few_1 N))) ρ H' (seqP (lim Γ A) none (K_law04_Few_2 N) (Ends [.inl 2] false H fun p => p = (avBool E, none))) := by
  simp only [wp_block]
  refine wp_round (n := t.nodes.length) (fun q ρ H' => ∃ i : Nat, ρ 1 = .ptr H.l.length 0 ∧ ρ 14 = a ∧ ρ 15 = avInt .i64 (t.nodes.length : Nat) ∧ ρ 16 = avInt .i64 (i : Nat) ∧ i ≤ t.nodes.length ∧ ((t.nodes.drop i).all fewN && (t.types.all fewT && (t.als.all fewA && fewE t))) = E ∧ Loc H H' [(H.l.length, .cells [a, b, c] (t_api_Tree N))] ∧ q = t.nodes.length - i) ?_ ?_
  · exact ⟨0, r1, rr, rl, ri, by omega, hE, hL, rfl⟩
  · rintro q ρ H' ⟨i, r1, rr, rl, ri, hi, hE, hL, rfl⟩
    by_cases hlt : i < t.nodes.length
    · have hlt' : (i : Int) < t.nodes.length := by omega
      have hw : IntKind.wrap .i64 ((i : Int) + 1) = ((i + 1 : Nat) : Int) := by rw [wrap64 (by omega) (by omega)]; omega
      have hxi : xs[i]? = some xs[i] := List.getElem?_eq_getElem (by omega)
      obtain ⟨sa, sb, sc, ey, vsa, vsb, vsc⟩ := xs3 i _ _ hxi (List.getElem?_eq_getElem hlt)
      have okn := hok _ (List.getElem_mem hlt)
      rw [ey] at hxi
      rw [drop_all hlt] at hE
      generalize t.nodes[i] = n at *
      obtain ⟨p, p1, p2⟩ := (xs1.loc hL).ats (k := .i64) hxi (by rfl) (by simp [vsa.one, vsb.one, vsc.one])
      have hLc := (hL.alloc (.cells [.lit (.int .i64 0), .lit (.int .i64 0), .lit (.string (mkS [])), .lit (.int .i64 0), .lit (.int .u64 0), .lit (.slice none 0 0), .lit (.slice none 0 0), .lit (.slice none 0 0)] (t_api_Node N))).set (.cells [avInt .i64 n.kind, avInt .i64 n.pos, avStr n.name, avInt .i64 n.int, avInt .u64 n.bits, sa, sb, sc] (t_api_Node N))
      have hLd := hLc.sub (List.sublist_cons_self _ _)
      have f1 := settle_keeps (v := avBool false) hLd.keeps (by simp [AV.under])
      by_cases d0 : 20 < n.names.length
      · have d0' : (20 : Int) < n.names.length := by omega
        have hf : fewN n = false := by unfold fewN; simp; omega
        have hE2 : E = false := by rw [← hE, hf, Bool.false_and, Bool.false_and]
        subst hE2
        simp [L_law04_Few_1, r1, rr, rl, ri, hlt', p1, p2, vsa.one, vsb.one, vsc.one, VS.len vsa, VI.len vsb, VI.len vsc, setFrom, loadC, d0, d0', -hset_d, -halloc_d]
        exact f1
      have d0' : ¬ (20 : Int) < n.names.length := by omega
      by_cases d1 : 20 < n.kids.length
      · have d1' : (20 : Int) < n.kids.length := by omega
        have hf : fewN n = false := by unfold fewN; simp; omega
        have hE2 : E = false := by rw [← hE, hf, Bool.false_and, Bool.false_and]
        subst hE2
        simp [L_law04_Few_1, r1, rr, rl, ri, hlt', p1, p2, vsa.one, vsb.one, vsc.one, VS.len vsa, VI.len vsb, VI.len vsc, setFrom, loadC, d0, d0', d1, d1', -hset_d, -halloc_d]
        exact f1
      have d1' : ¬ (20 : Int) < n.kids.length := by omega
      by_cases d2 : 20 < n.types.length
      · have d2' : (20 : Int) < n.types.length := by omega
        have hf : fewN n = false := by unfold fewN; simp; omega
        have hE2 : E = false := by rw [← hE, hf, Bool.false_and, Bool.false_and]
        subst hE2
        simp [L_law04_Few_1, r1, rr, rl, ri, hlt', p1, p2, vsa.one, vsb.one, vsc.one, VS.len vsa, VI.len vsb, VI.len vsc, setFrom, loadC, d0, d0', d1, d1', d2, d2', -hset_d, -halloc_d]
        exact f1
      have d2' : ¬ (20 : Int) < n.types.length := by omega
      by_cases d3 : 60 < n.name.length
      · have d3' : (60 : Int) < n.name.length := by omega
        have hf : fewN n = false := by unfold fewN; simp; omega
        have hE2 : E = false := by rw [← hE, hf, Bool.false_and, Bool.false_and]
        subst hE2
        simp [L_law04_Few_1, r1, rr, rl, ri, hlt', p1, p2, vsa.one, vsb.one, vsc.one, VS.len vsa, VI.len vsb, VI.len vsc, setFrom, loadC, d0, d0', d1, d1', d2, d2', d3, d3', -hset_d, -halloc_d]
        exact f1
      have d3' : ¬ (60 : Int) < n.name.length := by omega
      have hf : fewN n = n.names.all le60 := by
        have : (decide (n.names.length ≤ 20) && decide (n.kids.length ≤ 20) && decide (n.types.length ≤ 20) && decide (n.name.length ≤ 60)) = true := by simp; omega
        unfold fewN; rw [this, Bool.true_and]
      rw [hf] at hE
      simp [L_law04_Few_1, r1, rr, rl, ri, hlt', p1, p2, vsa.one, vsb.one, vsc.one, VS.len vsa, VI.len vsb, VI.len vsc, setFrom, loadC, d0, d0', d1, d1', d2, d2', d3, d3', -hset_d, -halloc_d]
      generalize hHc : hset (halloc H' _) H'.l.length _ = Hc
      rw [hHc] at hLc
      refine wp_round (n := n.names.length) (fun q ρ G => ∃ j : Nat, ρ 1 = .ptr H.l.length 0 ∧ ρ 14 = a ∧ ρ 15 = avInt .i64 (t.nodes.length : Nat) ∧ ρ 16 = avInt .i64 (i : Nat) ∧ ρ 43 = sa ∧ ρ 44 = avInt .i64 (n.names.length : Nat) ∧ ρ 45 = avInt .i64 (j : Nat) ∧ j ≤ n.names.length ∧ G = Hc ∧ ((n.names.drop j).all le60 && (t.nodes.drop (i + 1)).all fewN && (t.types.all fewT && (t.als.all fewA && fewE t))) = E ∧ q = n.names.length - j) ?_ ?_
      · exact ⟨0, r1, rr, rl, ri, rfl, rfl, rfl, by omega, rfl, hE, rfl⟩
      · rintro q ρ G ⟨j, r1, rr, rl, ri, s1, s2, s3, hj, rfl, hE, rfl⟩
        by_cases hjl : j < n.names.length
        · have hjl' : (j : Int) < n.names.length := by omega
          have hwj : IntKind.wrap .i64 ((j : Int) + 1) = ((j + 1 : Nat) : Int) := by have := okn; rw [wrap64 (by omega) (by omega)]; omega
          obtain ⟨pq, q1, q2⟩ := (vsa.loc hLc).at' (k := .i64) (i := (j : Int)) (e := avStr n.names[j]) (by omega) (by simp [List.getElem?_eq_getElem hjl]) rfl rfl rfl
          rw [drop_all hjl] at hE
          generalize n.names[j] = nm at *
          by_cases e1 : 60 < nm.length
          · have e1' : (60 : Int) < nm.length := by omega
            have hf2 : le60 nm = false := decide_eq_false (by omega)
            have hE2 : E = false := by rw [← hE, hf2, Bool.false_and, Bool.false_and, Bool.false_and]
            subst hE2
            have f2 := settle_keeps (v := avBool false) hLc.keeps (by simp [AV.under])
            simp [L_law04_Few_2, r1, rr, rl, ri, s1, s2, s3, hjl', q1, q2, e1, e1']
            exact f2
          · have e1' : ¬ (60 : Int) < nm.length := by omega
            have hf2 : le60 nm = true := decide_eq_true (by omega)
            rw [hf2, Bool.true_and] at hE
            simp [L_law04_Few_2, r1, rr, rl, ri, s1, s2, s3, hjl', q1, q2, e1, e1', hwj, -Int.natCast_add]
            exact ⟨n.names.length - (j + 1), by omega, j + 1, rfl, by omega, hE, rfl⟩
        · have hjl' : ¬ (j : Int) < n.names.length := by omega
          rw [List.drop_of_length_le (by omega)] at hE
          simp only [List.all_nil, Bool.true_and] at hE
          have hLe := hLc.sub (List.sublist_cons_self _ _)
          simp [L_law04_Few_2, K_law04_Few_1, r1, rr, rl, ri, s1, s2, s3, hjl', hw, -Int.natCast_add]
          exact ⟨t.nodes.length - (i + 1), by omega, i + 1, rfl, by omega, hE, hLe, rfl⟩
    · have hlt' : ¬ (i : Int) < t.nodes.length := by omega
      rw [List.drop_of_length_le (by omega)] at hE
      simp only [List.all_nil, Bool.true_and] at hE
      subst hE
      simp [L_law04_Few_1, r1, rr, rl, ri, hlt']
      have hbox := hL.head
      have lb : asLen b = some t.types.length := by rw [ys1.len, ys2]
      simp [K_law04_Few_2, r1, hbox, lb]
      exact few_types (by rw [xs1.len, xs2]) ys1 ys2 ys3 zs1 zs2 zs3 hl hokT (by simp [r1]) hL rfl (by simp) (by simp) (by simp)

theorem few_call (h : Has Γ A (f_law04_Few N) (C_law04_Few N)) {H : Hp} {x : AV} {t : Tr} (hx : TrR H x t) (ok : (∀ n ∈ t.nodes, n.names.length < 2 ^ 63) ∧ ∀ n ∈ t.types, n.names.length < 2 ^ 63) (hl : t.nodes.length < 2 ^ 63 ∧ t.types.length < 2 ^ 63 ∧ t.als.length < 2 ^ 63) : (lim Γ A).call (f_law04_Few N) [x] H = some (avBool (fewB t), none) := by
  obtain ⟨a, b, c, rfl, ⟨xs, xs1, xs2, xs3⟩, ⟨ys, ys1, ys2, ys3⟩, zs, zs1, zs2, zs3⟩ := hx
  have la : asLen a = some t.nodes.length := by rw [xs1.len, xs2]
  have hL := (Loc.start H).alloc (.cells [a, b, c] (t_api_Tree N))
  apply h.call (by rfl)
  simp [C_law04_Few, xs1.one, ys1.one, zs1.one, la, -halloc_d]
  exact few_nodes xs1 xs2 xs3 ys1 ys2 ys3 zs1 zs2 zs3 ok.2 hl ok.1 (by simp) hL rfl (by simp) (by simp) (by simp)
end
end Go.Proofs.Eng
/- The law TreeBuilds, run by the engine: a round of each loop. -/
set_option linter.unusedVariables false
set_option linter.unusedSimpArgs false
set_option maxRecDepth 100000
namespace Go.Proofs.Eng
open Go
theorem TrR.any {H : Hp} {x : AV} {t : Tr} {d : Option Nat} (h : TrR { l := [], d := d } x t) : TrR H x t := h.more fun id o ho => by simp [hget] at ho
theorem Bd.more {N : Nat → Nat} {n0 p : Nat} {H G : Hp} {t : Tr} (h : Bd N n0 H p t) (k : ∀ id o, hget H id = some o → hget G id = some o) : Bd N n0 G p t := by
  obtain ⟨⟨sn, st, sa, hp, r1, r2, r3⟩, hp0⟩ := h
  exact ⟨⟨sn, st, sa, k _ _ hp, r1.keepA (fun _ _ h => h.keepA fun id es e => k id _) (fun id es e => k id _), r2.keepA (fun _ _ h => h.keepA fun id es e => k id _) (fun id es e => k id _), r3.keepA (fun _ _ h => h) (fun id es e => k id _)⟩, hp0⟩
theorem Bd.lt {N : Nat → Nat} {n0 p : Nat} {H : Hp} {t : Tr} (h : Bd N n0 H p t) : p < H.l.length := by
  obtain ⟨⟨sn, st, sa, hp, _⟩, _⟩ := h
  exact hget_lt hp
section
variable {Γ : Sums} {A : Tab} {N : Nat → Nat}
end
end Go.Proofs.Eng
/- The law TreeBuilds, run by the engine. -/
set_option linter.unusedVariables false
set_option linter.unusedSimpArgs false
set_option maxRecDepth 100000
namespace Go.Proofs.Eng
open Go
theorem few_ok {t : Tr} (h : fewB t = true) : (t.nodes.length < 65536 ∧ t.types.length < 65536 ∧ t.als.length < 2 ^ 30) ∧ t.ok := by
  unfold fewB fewE at h
  simp only [Bool.and_eq_true, decide_eq_true_eq, List.all_eq_true] at h
  obtain ⟨h1, h2, h3, h4⟩ := h
  refine ⟨by omega, fun n hn => ?_, fun n hn => ?_, fun n hn => ?_⟩
  · have := h1 n hn
    unfold fewN at this
    simp only [Bool.and_eq_true, decide_eq_true_eq, List.all_eq_true, le60] at this
    obtain ⟨⟨⟨⟨e1, e2⟩, e3⟩, e4⟩, e5⟩ := this
    exact ⟨by omega, fun s hs => by have := e5 s hs; omega, by omega, by omega, by omega⟩
  · have := h2 n hn
    unfold fewT at this
    simp only [Bool.and_eq_true, decide_eq_true_eq, List.all_eq_true, le60] at this
    obtain ⟨⟨⟨e1, e2⟩, e4⟩, e5⟩ := this
    exact ⟨by omega, fun s hs => by have := e5 s hs; omega, by omega, by omega⟩
  · have := h3 n hn
    unfold fewA at this
    simp only [decide_eq_true_eq] at this
    show n.name.length < 2 ^ 30
    omega
section
variable {Γ : Sums} {A : Tab} {N : Nat → Nat}
theorem BRow.empty {α : Type} {Q : Hp → AV → α → Prop} {H : Hp} {n0 : Nat} {e : TypeId} {sz : Nat} : BRow Q H n0 e sz avNilS ([] : List α) := ⟨⟨[], .inl ⟨rfl, rfl⟩, rfl, fun i y n h => by simp at h, rfl⟩, fun id hk => by cases hk⟩
end
end Go.Proofs.Eng
