import Derived.Test.YtkofnmiopjnhiaaM33
import Derived.Test.YtkofnmiopjnhiaaM31
/- Templates of functions, as the engine takes them; numbers of functions and types by names. Printed by tm.py. -/
set_option linter.unusedVariables false
set_option maxRecDepth 100000
namespace Go.Proofs.Eng
open Go

def L_law24_Few_2 (N : Nat → Nat) : AC :=
        .seq (
         .ops [⟨(some 27), .bin .lss (.t 26) (.t 25), none⟩]) (
        .seq (
         .cond (.t 27) (
          .skip) (
          .exit 2)) (
        .seq (
         .block 3 (
          .seq (
           .ops [⟨(some 28), .iaddr 1 (.t 24) (.t 26), none⟩, ⟨(some 29), .load none (.t 28), none⟩, ⟨(some 6), .mov (.t 29), none⟩]) (
          .seq (
           .ops [⟨(some 30), .mov (.t 6), none⟩, ⟨(some 31), .lens (.t 30), none⟩, ⟨(some 32), .bin .gtr (.t 31) (.c (.lit (.int .i64 30))), none⟩]) (
          .cond (.t 32) (
           .seq (
            .ops [⟨(some 2), .mov (.c (.lit (.bool false))), none⟩]) (
           .ret)) (
           .skip))))) (
        .ops [⟨(some 33), .bin .add (.t 26) (.c (.lit (.int .i64 1))), none⟩, ⟨(some 26), .mov (.t 33), none⟩])))
def K_law24_Few_1 (N : Nat → Nat) : AC :=
 .ops [⟨(some 34), .bin .add (.t 9) (.c (.lit (.int .i64 1))), none⟩, ⟨(some 9), .mov (.t 34), none⟩]
def L_law24_Few_1 (N : Nat → Nat) : AC :=
    .seq (
     .ops [⟨(some 10), .bin .lss (.t 9) (.t 8), none⟩]) (
    .seq (
     .cond (.t 10) (
      .skip) (
      .exit 0)) (
    .seq (
     .block 1 (
      .seq (
       .ops [⟨(some 11), .iaddr 2 (.t 7) (.t 9), none⟩, ⟨(some 12), .load (some 2) (.t 11), none⟩, ⟨(some 4), .new (t_law24_Row N) (.agg [(.lit (.string (mkS []))), (.lit (.slice none 0 0))]), none⟩, ⟨none, .store 2 (.t 4) (.t 12), none⟩]) (
      .seq (
       .seq (
        .ops [⟨(some 13), .faddr 1 (.t 4), none⟩, ⟨(some 14), .load none (.t 13), none⟩, ⟨(some 15), .len (.t 14), none⟩, ⟨(some 16), .bin .gtr (.t 15) (.c (.lit (.int .i64 8))), none⟩, ⟨(some 17), .mov (.t 16), none⟩, ⟨(some 18), .faddr 0 (.t 4), (some (17, false))⟩, ⟨(some 19), .load none (.t 18), (some (17, false))⟩, ⟨(some 20), .lens (.t 19), (some (17, false))⟩, ⟨(some 21), .bin .gtr (.t 20) (.c (.lit (.int .i64 30))), (some (17, false))⟩, ⟨(some 22), .pick (.t 17) (.c (.lit (.bool true))) (.t 21), none⟩]) (
       .cond (.t 22) (
        .seq (
         .ops [⟨(some 2), .mov (.c (.lit (.bool false))), none⟩]) (
        .ret)) (
        .skip))) (
      .seq (
       .ops [⟨(some 23), .faddr 1 (.t 4), none⟩, ⟨(some 24), .load none (.t 23), none⟩, ⟨(some 25), .len (.t 24), none⟩, ⟨(some 26), .mov (.c (.lit (.int .i64 0))), none⟩]) (
      .block 2 (
       .loop (L_law24_Few_2 N))))))) (K_law24_Few_1 N)))
def K_law24_Few_2 (N : Nat → Nat) : AC :=
 .seq (
  .ops [⟨(some 35), .mov (.t 0), none⟩, ⟨(some 36), .len (.t 35), none⟩, ⟨(some 37), .bin .leq (.t 36) (.c (.lit (.int .i64 20))), none⟩, ⟨(some 2), .mov (.t 37), none⟩]) (
 .ret)
/-- azimuth/azimuthlaw24.Few -/
def C_law24_Few (N : Nat → Nat) : AFunc := ⟨38, [.inl 2],
 .seq (
  .ops [⟨(some 2), .mov (.c (.lit (.bool false))), none⟩]) (
 .seq (
  .seq (
   .ops [⟨(some 7), .mov (.t 0), none⟩, ⟨(some 8), .len (.t 7), none⟩, ⟨(some 9), .mov (.c (.lit (.int .i64 0))), none⟩]) (
  .block 0 (
   .loop (L_law24_Few_1 N)))) (K_law24_Few_2 N)), false⟩
end Go.Proofs.Eng
/- The laws of nets: few rows; a model's map; what is put. -/
set_option linter.unusedVariables false
set_option linter.unusedSimpArgs false
set_option maxRecDepth 100000
namespace Go.Proofs.Eng
open Go
/-- A row as an argument. -/
def IsRow (e : AV) (name : Bs) (on : List Bs) : Prop := ∃ r, e = .agg [avStr name, r] ∧ Fzr 1 r (on.map avStr)
def IsRows (es : List AV) (rs : List (Bs × List Bs)) : Prop := es.length = rs.length ∧ ∀ (i : Nat) (e : AV) (r : Bs × List Bs), es[i]? = some e → rs[i]? = some r → IsRow e r.1 r.2
def FewR (rs : List (Bs × List Bs)) : Prop := rs.length ≤ 20 ∧ ∀ r ∈ rs, r.1.length ≤ 30 ∧ r.2.length ≤ 8 ∧ ∀ s ∈ r.2, s.length ≤ 30
section
variable {Γ : Sums} {A : Tab} {N : Nat → Nat} {C : DCalls} {X : Nat → Prop} {H H' : Hp} {t : TypeId} {p m mm : Nat} {l lm : List (Bs × AV)} {f : NF}
theorem fzr_one {sz : Nat} {x : AV} {es : List AV} (h : Fzr sz x es) : x.good = true ∧ x.cells = [x] ∧ x.one = true := by
  rcases h with ⟨rfl, _⟩ | rfl <;> exact ⟨rfl, rfl, rfl⟩
inductive FewI (x : AV) (len : Nat) (rs : List (Bs × List Bs)) (H0 : Hp) (q : Nat) (ρ : Rho) (H : Hp) : Prop where
  | mk (i : Nat) (h0 : ρ 0 = x) (h7 : ρ 7 = x) (h8 : ρ 8 = avInt .i64 (len : Nat)) (h9 : ρ 9 = avInt .i64 (i : Nat)) (hi : i ≤ len) (hM : Mut H0 H []) (hr : ∀ r ∈ rs.take i, r.1.length ≤ 30 ∧ r.2.length ≤ 8 ∧ ∀ s ∈ r.2, s.length ≤ 30) (hq : q = len - i)
inductive FewJ (x : AV) (len i : Nat) (row : AV) (on : List Bs) (K : Hp) (q : Nat) (ρ : Rho) (H : Hp) : Prop where
  | mk (j : Nat) (h0 : ρ 0 = x) (h7 : ρ 7 = x) (h8 : ρ 8 = avInt .i64 (len : Nat)) (h9 : ρ 9 = avInt .i64 (i : Nat)) (h24 : ρ 24 = row) (h25 : ρ 25 = avInt .i64 (on.length : Nat)) (h26 : ρ 26 = avInt .i64 (j : Nat)) (hj : j ≤ on.length) (hH : H = K) (hs : ∀ s ∈ on.take j, s.length ≤ 30) (hq : q = on.length - j)
theorem few_call (h : Has Γ A (f_law24_Few N) (C_law24_Few N)) {x : AV} {es : List AV} {rs : List (Bs × List Bs)} (hx : Fzr 2 x es) (hr : IsRows es rs) (hl : es.length < 2 ^ 63) (hb : ∀ r ∈ rs, r.1.length < 2 ^ 63 ∧ r.2.length < 2 ^ 63 ∧ ∀ s ∈ r.2, s.length < 2 ^ 63) (H : Hp) :
    ∃ b, (lim Γ A).call (f_law24_Few N) [x] H = some (avBool b, none) ∧ (b = true → FewR rs) := by
  obtain ⟨R, hR⟩ : ∃ R : AV × Option Hp → Prop, R = fun r => ∃ b, r = (avBool b, none) ∧ (b = true → FewR rs) := ⟨_, rfl⟩
  suffices ∃ r, (lim Γ A).call (f_law24_Few N) [x] H = some r ∧ R r by
    obtain ⟨r, e, hr⟩ := this
    rw [hR] at hr
    obtain ⟨b, rfl, h2⟩ := hr
    exact ⟨b, e, h2⟩
  have hxl : asLen x = some es.length := by rcases hx with ⟨rfl, rfl⟩ | rfl <;> rfl
  have no : R (avBool false, none) := by rw [hR]; exact ⟨false, rfl, fun h => by cases h⟩
  apply h.callP (by rfl)
  simp [C_law24_Few, hxl]
  have hno : ∀ K, Mut { l := H.l, d := none } K [] → R (settle H (avBool false) K) := fun K hK => by
    rw [settle_keeps (H := H) (hK.keeps rfl) (by simp [AV.under])]; exact no
  refine wp_round (n := es.length) (FewI x es.length rs { l := H.l, d := none }) ?_ ?_
  · exact ⟨0, rfl, rfl, rfl, rfl, by omega, Mut.refl _ _, by simp, rfl⟩
  · rintro q ρ K ⟨i, h0, h7, h8, h9, hi, hM, hrs, rfl⟩
    by_cases hil : i < es.length
    · have hil' : (i : Int) < es.length := by omega
      have hg := List.getElem?_eq_getElem hil
      have hir : i < rs.length := by rw [← hr.1]; exact hil
      have hgr := List.getElem?_eq_getElem hir
      obtain ⟨row, e1, e2⟩ := hr.2 i _ _ hg hgr
      obtain ⟨name, on, hrv⟩ : ∃ name on, rs[i] = (name, on) := ⟨_, _, rfl⟩
      rw [hrv] at hgr e1 e2
      simp only at e1 e2
      rw [e1] at hg
      have hbr := hb (name, on) (List.mem_of_getElem? hgr)
      have hro := fzr_one e2
      have hrl := e2.len
      simp only [List.length_map] at hrl
      have hxa : aiaddr 2 x (.lit (.int .i64 (i : Int))) = some (.vp [avStr name, row]) := by
        rcases hx with ⟨rfl, rfl⟩ | rfl
        · simp at hil
        · exact aiaddr_sln hg (by simp [hro.2.2])
      have htk : rs.take (i + 1) = rs.take i ++ [(name, on)] := by
        rw [List.take_succ_eq_append_getElem hir, hrv]
      have hwi : IntKind.wrap .i64 ((i : Int) + 1) = ((i + 1 : Nat) : Int) := by rw [wrap64 (by omega) (by omega)]; omega
      obtain ⟨K1, hK1⟩ : ∃ K1, K1 = hset (halloc K (.cells [.lit (.string (mkS [])), .lit (.slice none 0 0)] (t_law24_Row N))) K.l.length (some (.cells [avStr name, row] (t_law24_Row N))) := ⟨_, rfl⟩
      have hM1 : Mut { l := H.l, d := none } K1 [] := by rw [hK1]; exact (hM.alloc _).set (.inr hM.len)
      have hc1 : hget K1 K.l.length = some (.cells [avStr name, row] (t_law24_Row N)) := by rw [hK1, hget_hset, if_pos rfl, if_pos (by simp)]
      by_cases d1 : 8 < on.length
      · have d1' : (8 : Int) < on.length := by omega
        simp [L_law24_Few_1, h0, h7, h8, h9, hil', hxa, loadC, hro.2.2, -hset_d, -halloc_d]
        rw [← hK1]
        simp [hc1, hrl, d1, d1', -hset_d, -halloc_d]
        exact hno _ hM1
      have d1' : ¬ (8 : Int) < on.length := by omega
      by_cases d2 : 30 < name.length
      · have d2' : (30 : Int) < name.length := by omega
        simp [L_law24_Few_1, h0, h7, h8, h9, hil', hxa, loadC, hro.2.2, -hset_d, -halloc_d]
        rw [← hK1]
        simp [hc1, hrl, d1, d1', d2, d2', -hset_d, -halloc_d]
        exact hno _ hM1
      have d2' : ¬ (30 : Int) < name.length := by omega
      simp [L_law24_Few_1, h0, h7, h8, h9, hil', hxa, loadC, hro.2.2, -hset_d, -halloc_d]
      rw [← hK1]
      simp [hc1, hrl, d1, d1', d2, d2', h0, h7, h8, h9, -hset_d, -halloc_d]
      refine wp_round (n := on.length) (FewJ x es.length i row on K1) ?_ ?_
      · exact ⟨0, h0, h7, h8, h9, rfl, rfl, rfl, by omega, rfl, by simp, rfl⟩
      · rintro q ρ K2 ⟨j, h0, h7, h8, h9, h24, h25, h26, hj, rfl, hs, rfl⟩
        have hw : IntKind.wrap .i64 ((j : Int) + 1) = ((j + 1 : Nat) : Int) := by rw [wrap64 (by omega) (by omega)]; omega
        by_cases hjl : j < on.length
        · have hjl' : (j : Int) < on.length := by omega
          have hvr : Vw K2 1 row (on.map avStr) := .inl e2
          obtain ⟨qb, t1, t2⟩ := hvr.at' (k := .i64) (i := (j : Int)) (e := avStr on[j]) (by omega) (by simp [List.getElem?_eq_getElem hjl]) rfl rfl rfl
          by_cases d3 : 30 < on[j].length
          · have d3' : (30 : Int) < on[j].length := by omega
            simp [L_law24_Few_2, h0, h7, h8, h9, h24, h25, h26, hjl', t1, t2, d3, d3']
            exact hno _ hM1
          · have d3' : ¬ (30 : Int) < on[j].length := by omega
            simp [L_law24_Few_2, h0, h7, h8, h9, h24, h25, h26, hjl', t1, t2, d3, d3', hw, -Int.natCast_add]
            refine ⟨on.length - (j + 1), by omega, ⟨j + 1, h0, h7, h8, h9, h24, h25, rfl, by omega, rfl, fun s hs2 => ?_, rfl⟩⟩
            rw [List.take_succ_eq_append_getElem hjl, List.mem_append, List.mem_singleton] at hs2
            rcases hs2 with hs2 | rfl
            · exact hs s hs2
            · omega
        · have hjn : j = on.length := by omega
          subst hjn
          rw [List.take_length] at hs
          simp [L_law24_Few_2, K_law24_Few_1, h0, h7, h8, h9, h24, h25, h26, hwi, -Int.natCast_add]
          refine ⟨es.length - (i + 1), by omega, ⟨i + 1, h0, h7, h8, rfl, by omega, hM1, fun r hr2 => ?_, rfl⟩⟩
          rw [htk, List.mem_append, List.mem_singleton] at hr2
          rcases hr2 with hr2 | rfl
          · exact hrs r hr2
          · exact ⟨by simp only; omega, by simp only; omega, hs⟩
    · have hin : i = es.length := by omega
      subst hin
      rw [hr.1, List.take_length] at hrs
      simp [L_law24_Few_1, K_law24_Few_2, h0, h7, h8, h9, hxl]
      rw [settle_keeps (H := H) (hM.keeps rfl) (by simp [AV.under]), hR]
      exact ⟨_, rfl, fun hb => ⟨by rw [← hr.1]; have := of_decide_eq_true hb; omega, hrs⟩⟩

/-- A model's map whose rows no one writes. -/
structure ModF (H : Hp) (mm : Nat) (lm : List (Bs × AV)) (f : NF) : Prop where
  mp : ∃ es clk, hget H mm = some (.map es clk) ∧ SKeys es ∧ KV es = lm
  nd : (lm.map Prod.fst).Nodup
  dom : ∀ k, (aGet k lm).isSome = (f k).isSome
  row : ∀ k x on, aGet k lm = some x → f k = some on → Fzr 1 x (on.map avStr)
theorem ModF.frame (h : ModF H mm lm f) {W : List Nat} (k : Mut H H' W) (hw : mm ∉ W) : ModF H' mm lm f := by
  obtain ⟨es, clk, h1, h2⟩ := h.mp
  exact ⟨⟨es, clk, k.get' h1 hw, h2⟩, h.nd, h.dom, h.row⟩
theorem ModF.put (h : ModF H mm lm f) {name : Bs} {c : AV} {on : List Bs} {g : Hp} {es' : MEs} {clk' : Nat} (hg : hget g mm = some (.map es' clk')) (hk : SKeys es') (hv : KV es' = vPut name c lm) (hc : Fzr 1 c (on.map avStr)) : ModF g mm (vPut name c lm) (nPut f name on) := by
  refine ⟨⟨es', clk', hg, hk, hv⟩, keys_nodup_put h.nd, fun y => ?_, fun y x on' hx hy => ?_⟩
  · rw [aGet_put]
    unfold nPut
    split
    · rfl
    · exact h.dom y
  · rw [aGet_put] at hx
    unfold nPut at hy
    split at hx
    · rename_i e
      rw [if_pos e] at hy
      cases hx; cases hy
      exact hc
    · rename_i e
      rw [if_neg e] at hy
      exact h.row y x on' hx hy
end
end Go.Proofs.Eng
/- The law DepsPuts, run for whatever is drawn. -/
set_option linter.unusedVariables false
set_option linter.unusedSimpArgs false
set_option maxRecDepth 100000
namespace Go.Proofs.Eng
open Go
structure PutsC (C : DCalls) (Γ : Sums) (A : Tab) (N : Nat → Nat) : Prop where
  is : IsC Γ A N
  few : Has Γ A (f_law24_Few N) (C_law24_Few N)
  name : ∀ (s : List UInt8) (H : Hp), s.length < 2 ^ 36 → (lim Γ A).call (f_ref04_Name N) [avStr s] H = some (avBool (isNameB s), none)
  put : ∀ {X : Nat → Prop} {H : Hp} {t : TypeId} {p m : Nat} {l : List (Bs × AV)} {f : NF} {name : Bs} {on : List Bs} {x : AV}, NetI X H t p m l f → Vw H 1 x (on.map avStr) → name.length < 2 ^ 20 → on.length < 2 ^ 20 → (∀ s ∈ on, s.length < 2 ^ 20) → l.length + 1 < 2 ^ 20 →
    C.run (f_p_deps_Net_Put N) [.ptr p 0, avStr name, x] H (PutOut X H t p m l f name on)
section
variable {Γ : Sums} {A : Tab} {N : Nat → Nat} {C : DCalls} {X : Nat → Prop} {H H' : Hp} {t : TypeId} {p m mm : Nat} {l lm : List (Bs × AV)} {f : NF}
end
end Go.Proofs.Eng
/- A function that is run for whatever is drawn, as the engine takes it. Printed by tm.py. -/
set_option linter.unusedVariables false
set_option maxRecDepth 100000
namespace Go.Proofs.Eng
open Go

def DL_law24_DepsClosed_1 (N : Nat → Nat) : DC :=
    .seq (
     .base (
      .ops [⟨(some 31), .bin .lss (.t 30) (.t 29), none⟩])) (
    .seq (
     .base (
      .cond (.t 31) (
       .skip) (
       .exit 0))) (
    .seq (
     .block 1 (
      .seq (
       .base (
        .ops [⟨(some 32), .iaddr 2 (.t 28) (.t 30), none⟩, ⟨(some 33), .load (some 2) (.t 32), none⟩, ⟨(some 5), .new (t_law24_Row N) (.agg [(.lit (.string (mkS []))), (.lit (.slice none 0 0))]), none⟩, ⟨none, .store 2 (.t 5) (.t 33), none⟩])) (
      .regD [.op ⟨(some 34), .mov (.t 3), none⟩, .op ⟨(some 35), .faddr 0 (.t 5), none⟩, .op ⟨(some 36), .load none (.t 35), none⟩, .op ⟨(some 37), .faddr 1 (.t 5), none⟩, .op ⟨(some 38), .load none (.t 37), none⟩, .call (some 39) (f_p_deps_Net_Put N) [(.t 34), (.t 36), (.t 38)]]))) (
    .base (
     .ops [⟨(some 40), .bin .add (.t 30) (.c (.lit (.int .i64 1))), none⟩, ⟨(some 30), .mov (.t 40), none⟩]))))
def DM_law24_DepsClosed_1 (N : Nat → Nat) : AC :=
          .seq (
           .ops [⟨(some 54), .bin .lss (.t 53) (.t 52), none⟩]) (
          .seq (
           .cond (.t 54) (
            .skip) (
            .exit 4)) (
          .seq (
           .block 5 (
            .seq (
             .ops [⟨(some 55), .iaddr 1 (.t 51) (.t 53), none⟩, ⟨(some 56), .load none (.t 55), none⟩, ⟨(some 10), .mov (.t 56), none⟩]) (
            .ops [⟨(some 57), .mov (.t 8), none⟩, ⟨(some 58), .mov (.t 10), none⟩, ⟨none, .mapupd .string (.t 57) (.t 58) (.c (.lit (.bool true))), none⟩]))) (
          .ops [⟨(some 59), .bin .add (.t 53) (.c (.lit (.int .i64 1))), none⟩, ⟨(some 53), .mov (.t 59), none⟩])))
def DM_law24_DepsClosed_2 (N : Nat → Nat) : AC :=
        .seq (
         .ops [⟨(some 71), .bin .lss (.t 70) (.t 69), none⟩]) (
        .seq (
         .cond (.t 71) (
          .skip) (
          .exit 8)) (
        .seq (
         .block 9 (
          .seq (
           .ops [⟨(some 72), .iaddr 1 (.t 68) (.t 70), none⟩, ⟨(some 73), .load none (.t 72), none⟩, ⟨(some 13), .mov (.t 73), none⟩]) (
          .seq (
           .ops [⟨(some 74), .mov (.t 8), none⟩, ⟨(some 75), .mov (.t 13), none⟩, ⟨(some 76), .lookup .string (.lit (.bool false)) (.t 74) (.t 75) false, none⟩, ⟨(some 77), .un .not (.t 76), none⟩]) (
          .cond (.t 77) (
           .seq (
            .ops [⟨(some 2), .mov (.c (.lit (.bool false))), none⟩]) (
           .ret)) (
           .skip))))) (
        .ops [⟨(some 78), .bin .add (.t 70) (.c (.lit (.int .i64 1))), none⟩, ⟨(some 70), .mov (.t 78), none⟩])))
def DL_law24_DepsClosed_3 (N : Nat → Nat) : DC :=
    .seq (
     .regD [.next 62 (.t 61), .op ⟨(some 63), .extract (.t 62) 0, none⟩]) (
    .seq (
     .base (
      .cond (.t 63) (
       .skip) (
       .exit 6))) (
    .block 7 (
     .seq (
      .regD [.entry 64 (.t 61), .op ⟨(some 65), .extract (.t 64) 0, none⟩, .op ⟨(some 11), .mov (.t 65), none⟩]) (
     .base (
      .seq (
       .ops [⟨(some 66), .mov (.t 3), none⟩, ⟨(some 67), .mov (.t 11), none⟩, ⟨(some 68), .call (.c (.fn (f_p_deps_Net_Cone N) [] [])) [(.t 66), (.t 67)], none⟩, ⟨(some 69), .len (.t 68), none⟩, ⟨(some 70), .mov (.c (.lit (.int .i64 0))), none⟩]) (
      .block 8 (
       .loop (DM_law24_DepsClosed_2 N))))))))
def DM_law24_DepsClosed_4 (N : Nat → Nat) : AC :=
         .seq (
          .ops [⟨(some 92), .bin .lss (.t 91) (.t 90), none⟩]) (
         .seq (
          .cond (.t 92) (
           .skip) (
           .exit 12)) (
         .seq (
          .block 13 (
           .seq (
            .ops [⟨(some 93), .iaddr 1 (.t 89) (.t 91), none⟩, ⟨(some 94), .load none (.t 93), none⟩, ⟨(some 18), .mov (.t 94), none⟩]) (
           .ops [⟨(some 95), .mov (.t 16), none⟩, ⟨(some 96), .mov (.t 95), none⟩, ⟨(some 97), .mov (.t 18), (some (96, false))⟩, ⟨(some 98), .mov (.t 7), (some (96, false))⟩, ⟨(some 99), .eq false .pstr (.t 97) (.t 98), (some (96, false))⟩, ⟨(some 100), .pick (.t 96) (.c (.lit (.bool true))) (.t 99), none⟩, ⟨(some 16), .mov (.t 100), none⟩]))) (
         .ops [⟨(some 101), .bin .add (.t 91) (.c (.lit (.int .i64 1))), none⟩, ⟨(some 91), .mov (.t 101), none⟩])))
def DM_law24_DepsClosed_3 (N : Nat → Nat) : AC :=
    .seq (
     .ops [⟨(some 84), .bin .lss (.t 83) (.t 82), none⟩]) (
    .seq (
     .cond (.t 84) (
      .skip) (
      .exit 10)) (
    .seq (
     .block 11 (
      .seq (
       .ops [⟨(some 85), .iaddr 1 (.t 81) (.t 83), none⟩, ⟨(some 86), .load none (.t 85), none⟩, ⟨(some 15), .mov (.t 86), none⟩]) (
      .seq (
       .ops [⟨(some 16), .mov (.c (.lit (.bool false))), none⟩]) (
      .seq (
       .seq (
        .ops [⟨(some 87), .mov (.t 3), none⟩, ⟨(some 88), .mov (.t 15), none⟩, ⟨(some 89), .call (.c (.fn (f_p_deps_Net_Cone N) [] [])) [(.t 87), (.t 88)], none⟩, ⟨(some 90), .len (.t 89), none⟩, ⟨(some 91), .mov (.c (.lit (.int .i64 0))), none⟩]) (
       .block 12 (
        .loop (DM_law24_DepsClosed_4 N)))) (
      .seq (
       .ops [⟨(some 102), .mov (.t 16), none⟩, ⟨(some 103), .un .not (.t 102), none⟩]) (
      .cond (.t 103) (
       .seq (
        .ops [⟨(some 2), .mov (.c (.lit (.bool false))), none⟩]) (
       .ret)) (
       .skip))))))) (
    .ops [⟨(some 104), .bin .add (.t 83) (.c (.lit (.int .i64 1))), none⟩, ⟨(some 83), .mov (.t 104), none⟩])))
def DK_law24_DepsClosed_3 (N : Nat → Nat) : DC :=
 .base (
  .seq (
   .ops [⟨(some 79), .mov (.t 3), none⟩, ⟨(some 80), .mov (.t 7), none⟩, ⟨(some 81), .call (.c (.fn (f_p_deps_Net_Users N) [] [])) [(.t 79), (.t 80)], none⟩, ⟨(some 82), .len (.t 81), none⟩, ⟨(some 83), .mov (.c (.lit (.int .i64 0))), none⟩]) (
  .block 10 (
   .loop (DM_law24_DepsClosed_3 N))))
def DK_law24_DepsClosed_2 (N : Nat → Nat) : DC :=
 .seq (
  .seq (
   .regD [.op ⟨(some 60), .mov (.t 8), none⟩, .range 61 (.t 60)]) (
  .block 6 (
   .loop (DL_law24_DepsClosed_3 N)))) (DK_law24_DepsClosed_3 N)
def DK_law24_DepsClosed_4 (N : Nat → Nat) : DC :=
 .base (
  .ops [⟨(some 105), .bin .add (.t 44) (.c (.lit (.int .i64 1))), none⟩, ⟨(some 44), .mov (.t 105), none⟩])
def DL_law24_DepsClosed_2 (N : Nat → Nat) : DC :=
    .seq (
     .base (
      .ops [⟨(some 45), .bin .lss (.t 44) (.t 43), none⟩])) (
    .seq (
     .base (
      .cond (.t 45) (
       .skip) (
       .exit 2))) (
    .seq (
     .block 3 (
      .seq (
       .base (
        .ops [⟨(some 46), .iaddr 1 (.t 42) (.t 44), none⟩, ⟨(some 47), .load none (.t 46), none⟩, ⟨(some 7), .mov (.t 47), none⟩])) (
      .seq (
       .base (
        .ops [⟨(some 48), .mkmap, none⟩, ⟨(some 8), .mov (.t 48), none⟩])) (
      .seq (
       .base (
        .seq (
         .ops [⟨(some 49), .mov (.t 3), none⟩, ⟨(some 50), .mov (.t 7), none⟩, ⟨(some 51), .call (.c (.fn (f_p_deps_Net_Cone N) [] [])) [(.t 49), (.t 50)], none⟩, ⟨(some 52), .len (.t 51), none⟩, ⟨(some 53), .mov (.c (.lit (.int .i64 0))), none⟩]) (
        .block 4 (
         .loop (DM_law24_DepsClosed_1 N))))) (DK_law24_DepsClosed_2 N))))) (DK_law24_DepsClosed_4 N)))
def DK_law24_DepsClosed_5 (N : Nat → Nat) : DC :=
 .base (
  .seq (
   .ops [⟨(some 2), .mov (.c (.lit (.bool true))), none⟩]) (
  .ret))
def DK_law24_DepsClosed_1 (N : Nat → Nat) : DC :=
 .seq (
  .seq (
   .base (
    .ops [⟨(some 41), .mov (.t 3), none⟩, ⟨(some 42), .call (.c (.fn (f_p_deps_Net_Names N) [] [])) [(.t 41)], none⟩, ⟨(some 43), .len (.t 42), none⟩, ⟨(some 44), .mov (.c (.lit (.int .i64 0))), none⟩])) (
  .block 2 (
   .loop (DL_law24_DepsClosed_2 N)))) (DK_law24_DepsClosed_5 N)
def hint_law24_DepsClosed : Nat → Option AltT := fun k => match k with | 1000012 => some .leaf | _ => none
/-- azimuth/azimuthlaw24.DepsClosed -/
def D_law24_DepsClosed (N : Nat → Nat) : DFunc := ⟨106, [.inl 2],
 .seq (
  .base (
   .ops [⟨(some 2), .mov (.c (.lit (.bool false))), none⟩])) (
 .seq (
  .base (
   .seq (
    .ops [⟨(some 19), .call (.c (.fn (f_law24_lives N) [] [])) [], none⟩, ⟨(some 20), .un .not (.t 19), none⟩, ⟨(some 21), .mov (.t 20), none⟩, ⟨(some 22), .mov (.t 0), (some (21, false))⟩, ⟨(some 23), .call (.c (.fn (f_law24_Few N) [] [])) [(.t 22)], (some (21, false))⟩, ⟨(some 24), .un .not (.t 23), (some (21, false))⟩, ⟨(some 25), .pick (.t 21) (.c (.lit (.bool true))) (.t 24), none⟩]) (
   .cond (.t 25) (
    .seq (
     .ops [⟨(some 26), .call (.c (.fn (f_law24_lives N) [] [])) [], none⟩, ⟨(some 2), .mov (.t 26), none⟩]) (
    .ret)) (
    .skip)))) (
 .seq (
  .base (
   .ops [⟨(some 27), .call (.c (.fn (f_deps_New N) [] [])) [], none⟩, ⟨(some 3), .mov (.t 27), none⟩])) (
 .seq (
  .seq (
   .base (
    .ops [⟨(some 28), .mov (.t 0), none⟩, ⟨(some 29), .len (.t 28), none⟩, ⟨(some 30), .mov (.c (.lit (.int .i64 0))), none⟩])) (
  .block 0 (
   .loop (DL_law24_DepsClosed_1 N)))) (DK_law24_DepsClosed_1 N)))), false⟩
end Go.Proofs.Eng
/- The law DepsClosed, run for whatever is drawn. -/
set_option linter.unusedVariables false
set_option linter.unusedSimpArgs false
set_option maxRecDepth 100000
namespace Go.Proofs.Eng
open Go
theorem vw_offmap {K H : Hp} {x : AV} {es : List AV} {sm clk : Nat} {e : MEs} (hv : Vw K 1 x es) (hm : hget K sm = some (.map e clk)) (k : Mut K H [sm]) : Vw H 1 x es := by
  rcases hv with hv | ⟨id, off, e, all, h0, h1, h2⟩
  · exact .inl hv
  · exact .inr ⟨id, off, e, all, h0, k.get' h1 (fun hw => by rw [List.mem_singleton] at hw; subst hw; rw [hm] at h1; cases h1), h2⟩
/-- Rows are put. -/
inductive CloA (N : Nat → Nat) (x : AV) (len p m : Nat) (q : Nat) (ρ : Rho) (H : Hp) (its : Its) : Prop where
  | mk (i : Nat) (l : List (Bs × AV)) (f : NF) (h0 : ρ 0 = x) (h3 : ρ 3 = .ptr p 0) (h28 : ρ 28 = x) (h29 : ρ 29 = avInt .i64 (len : Nat)) (h30 : ρ 30 = avInt .i64 (i : Nat)) (hi : i ≤ len) (hN : NetI (fun _ => False) H (t_deps_Net N) p m l f) (hl : l.length ≤ i) (hq : q = len - i)
/-- Between two names. -/
inductive CloB (H0 : Hp) (p : Nat) (xn : AV) (n : Nat) (q : Nat) (ρ : Rho) (H : Hp) (its : Its) : Prop where
  | mk (i : Nat) (h3 : ρ 3 = .ptr p 0) (h42 : ρ 42 = xn) (h43 : ρ 43 = avInt .i64 (n : Nat)) (h44 : ρ 44 = avInt .i64 (i : Nat)) (hi : i ≤ n) (hM : Mut H0 H []) (hq : q = n - i)
/-- The cone is kept as a set. -/
inductive CloC (K1 : Hp) (p : Nat) (xn : AV) (n i : Nat) (name : Bs) (sm : Nat) (rv : AV) (L : List Bs) (q : Nat) (ρ : Rho) (H : Hp) : Prop where
  | mk (j : Nat) (h3 : ρ 3 = .ptr p 0) (h42 : ρ 42 = xn) (h43 : ρ 43 = avInt .i64 (n : Nat)) (h44 : ρ 44 = avInt .i64 (i : Nat)) (h7 : ρ 7 = avStr name) (h8 : ρ 8 = .map sm) (h51 : ρ 51 = rv) (h52 : ρ 52 = avInt .i64 (L.length : Nat)) (h53 : ρ 53 = avInt .i64 (j : Nat)) (hj : j ≤ L.length) (hM : Mut K1 H [sm]) (hS : SetM H sm (L.take j)) (hq : q = L.length - j)
/-- The set is gone through. -/
inductive CloD (K0 : Hp) (p : Nat) (xn : AV) (n i : Nat) (name : Bs) (sm : Nat) (es : MEs) (clk it : Nat) (q : Nat) (ρ : Rho) (H : Hp) (its : Its) : Prop where
  | mk (done : MEs) (seen : List Nat) (last : Option (Value × AV × Nat)) (hg : Gone es done seen) (h3 : ρ 3 = .ptr p 0) (h42 : ρ 42 = xn) (h43 : ρ 43 = avInt .i64 (n : Nat)) (h44 : ρ 44 = avInt .i64 (i : Nat)) (h7 : ρ 7 = avStr name) (h8 : ρ 8 = .map sm) (h61 : ρ 61 = .ptr it 0) (hl : its.lookup it = some ⟨sm, clk, seen, last⟩) (hM : Mut K0 H []) (hq : q = (leftL es seen).length)
inductive CloE (K : Hp) (p : Nat) (xn : AV) (n i : Nat) (name : Bs) (sm it : Nat) (rv : AV) (M : List Bs) (q : Nat) (ρ : Rho) (H : Hp) : Prop where
  | mk (j : Nat) (h3 : ρ 3 = .ptr p 0) (h42 : ρ 42 = xn) (h43 : ρ 43 = avInt .i64 (n : Nat)) (h44 : ρ 44 = avInt .i64 (i : Nat)) (h7 : ρ 7 = avStr name) (h8 : ρ 8 = .map sm) (h61 : ρ 61 = .ptr it 0) (h68 : ρ 68 = rv) (h69 : ρ 69 = avInt .i64 (M.length : Nat)) (h70 : ρ 70 = avInt .i64 (j : Nat)) (hj : j ≤ M.length) (hH : H = K) (hq : q = M.length - j)
/-- Users. -/
inductive CloF (H0 : Hp) (p : Nat) (xn : AV) (n i : Nat) (name : Bs) (xu : AV) (k : Nat) (q : Nat) (ρ : Rho) (H : Hp) : Prop where
  | mk (j : Nat) (h3 : ρ 3 = .ptr p 0) (h42 : ρ 42 = xn) (h43 : ρ 43 = avInt .i64 (n : Nat)) (h44 : ρ 44 = avInt .i64 (i : Nat)) (h7 : ρ 7 = avStr name) (h81 : ρ 81 = xu) (h82 : ρ 82 = avInt .i64 (k : Nat)) (h83 : ρ 83 = avInt .i64 (j : Nat)) (hj : j ≤ k) (hM : Mut H0 H []) (hq : q = k - j)
inductive CloG (K : Hp) (p : Nat) (xn : AV) (n i : Nat) (name : Bs) (xu : AV) (k j : Nat) (rv : AV) (M : List Bs) (q : Nat) (ρ : Rho) (H : Hp) : Prop where
  | mk (a : Nat) (h3 : ρ 3 = .ptr p 0) (h42 : ρ 42 = xn) (h43 : ρ 43 = avInt .i64 (n : Nat)) (h44 : ρ 44 = avInt .i64 (i : Nat)) (h7 : ρ 7 = avStr name) (h81 : ρ 81 = xu) (h82 : ρ 82 = avInt .i64 (k : Nat)) (h83 : ρ 83 = avInt .i64 (j : Nat)) (h16 : ρ 16 = avBool (decide (name ∈ M.take a))) (h89 : ρ 89 = rv) (h90 : ρ 90 = avInt .i64 (M.length : Nat)) (h91 : ρ 91 = avInt .i64 (a : Nat)) (ha : a ≤ M.length) (hH : H = K) (hq : q = M.length - a)
section
variable {Γ : Sums} {A : Tab} {N : Nat → Nat} {C : DCalls} {X : Nat → Prop} {H H' : Hp} {t : TypeId} {p m mm : Nat} {l lm : List (Bs × AV)} {f : NF}
set_option maxHeartbeats 1000000 in
theorem law_DepsClosed (h : PutsC C Γ A N) (hlives : (lim Γ A).call (f_law24_lives N) [] { l := [], d := none } = some (avBool true, none))
    {x : AV} {es : List AV} {rs : List (Bs × List Bs)} (hx : Fzr 2 x es) (hr : IsRows es rs) (hl : es.length < 2 ^ 63) (hb : ∀ r ∈ rs, r.1.length < 2 ^ 63 ∧ r.2.length < 2 ^ 63 ∧ ∀ s ∈ r.2, s.length < 2 ^ 63) :
    DRunP C Γ A (D_law24_DepsClosed N) [x] { l := [], d := none } fun r => r.1 = avBool true := by
  have hxl : asLen x = some es.length := by rcases hx with ⟨rfl, rfl⟩ | rfl <;> rfl
  obtain ⟨R, hR⟩ : ∃ R : AV × Option Hp → Prop, R = fun r => r.1 = avBool true := ⟨_, rfl⟩
  have hR3 : ∀ v H H', v = avBool true → R (settle H v H') := fun v H H' e => by rw [hR]; simpa using e
  have hR2 : ∀ v g, v = avBool true → R (v, g) := fun v g e => by rw [hR]; exact e
  rw [← hR]
  obtain ⟨fb, few1, few2⟩ := few_call h.few hx hr hl hb { l := [], d := none }
  apply DRunP.of (by rfl)
  cases fb
  · simp [D_law24_DepsClosed, hlives, few1]
    exact hR2 _ _ rfl
  obtain ⟨b1, b2⟩ := few2 rfl
  have hl20 : es.length ≤ 20 := by rw [hr.1]; exact b1
  obtain ⟨g, p, m, n1, n2, n3, n4, n5⟩ := new_call h.is.dep { l := [], d := none }
  simp [D_law24_DepsClosed, hlives, few1, n1, bindH_opt, hxl, -halloc_d, -hset_d]
  refine wpR_round (n := es.length) (CloA N x es.length p m) ?_ ?_
  · exact ⟨0, [], fun _ => none, rfl, rfl, rfl, rfl, rfl, by omega, n2, by simp, rfl⟩
  · rintro q ρ K its ⟨i, l, f, h0, h3, h28, h29, h30, hi, hN, hll, rfl⟩
    have hNl := hN.lt
    have hwi : IntKind.wrap .i64 ((i : Int) + 1) = ((i + 1 : Nat) : Int) := by rw [wrap64 (by omega) (by omega)]; omega
    by_cases hil : i < es.length
    · have hil' : (i : Int) < es.length := by omega
      have hg := List.getElem?_eq_getElem hil
      have hir : i < rs.length := by rw [← hr.1]; exact hil
      have hgr := List.getElem?_eq_getElem hir
      obtain ⟨row, e1, e2⟩ := hr.2 i _ _ hg hgr
      obtain ⟨name, on, hrv⟩ : ∃ name on, rs[i] = (name, on) := ⟨_, _, rfl⟩
      rw [hrv] at hgr e1 e2
      simp only at e1 e2
      rw [e1] at hg
      obtain ⟨br1, br2, br3⟩ := b2 (name, on) (List.mem_of_getElem? hgr)
      simp only at br1 br2 br3
      have hro := fzr_one e2
      have hvr : ∀ K, Vw K 1 row (on.map avStr) := fun K => .inl e2
      have hxa : aiaddr 2 x (.lit (.int .i64 (i : Int))) = some (.vp [avStr name, row]) := by
        rcases hx with ⟨rfl, rfl⟩ | rfl
        · simp at hil
        · exact aiaddr_sln hg (by simp [hro.2.2])
      obtain ⟨K1, hK1⟩ : ∃ K1, K1 = hset (halloc K (.cells [.lit (.string (mkS [])), .lit (.slice none 0 0)] (t_law24_Row N))) K.l.length (some (.cells [avStr name, row] (t_law24_Row N))) := ⟨_, rfl⟩
      have hM1 : Mut K K1 [] := by rw [hK1]; exact ((Mut.refl K []).alloc _).set (.inr (Nat.le_refl _))
      have hc1 : hget K1 K.l.length = some (.cells [avStr name, row] (t_law24_Row N)) := by rw [hK1, hget_hset, if_pos rfl, if_pos (by simp)]
      simp [DL_law24_DepsClosed_1, h0, h3, h28, h29, h30, hil', hxa, loadC, hro.2.2, -hset_d, -halloc_d]
      rw [← hK1]
      refine wpRO_call (h.put (hN.still hM1) (hvr K1) (by omega) (by omega) (fun s hs => by have := br3 s hs; omega) (by omega)) fun v gg hv => ?_
      have rest : ∃ K2 l2 f2, gg.getD K1 = K2 ∧ NetI (fun _ => False) K2 (t_deps_Net N) p m l2 f2 ∧ l2.length ≤ l.length + 1 := by
        unfold PutOut at hv
        split at hv
        · obtain ⟨g4, c4, e4, q1, q2⟩ := hv
          cases e4
          exact ⟨_, _, _, rfl, q1, keys_len_put⟩
        · cases hv
          exact ⟨_, l, f, rfl, hN.still hM1, by omega⟩
      obtain ⟨K2, l2, f2, hK2, hN2, hl2⟩ := rest
      rw [hK2]
      simp [h0, h3, h28, h29, h30, hwi, -Int.natCast_add]
      exact ⟨es.length - (i + 1), by omega, ⟨i + 1, l2, f2, h0, h3, h28, h29, rfl, by omega, hN2, by omega, rfl⟩⟩
    · have hin : i = es.length := by omega
      subst hin
      obtain ⟨xn, gn, nm1, nm2, nm3, nm4⟩ := Names_call h.is.dep hN
      obtain ⟨NS, hNS⟩ : ∃ NS, NS = sortB (l.map Prod.fst) := ⟨_, rfl⟩
      rw [← hNS] at nm3
      have hkeys : ∀ y, y ∈ NS ↔ (f y).isSome = true := fun y => by rw [hNS, (sortB_perm _).mem_iff, hN.keys_iff]
      have hNSl : NS.length = l.length := by rw [hNS, (sortB_perm _).length_eq]; simp
      have hnl := nm3.vw.len
      simp only [List.length_map] at hnl
      obtain ⟨G, hG⟩ : ∃ G, G = gn.getD K := ⟨_, rfl⟩
      rw [← hG] at nm2 nm3
      have hNG := hN.still nm2
      simp [DL_law24_DepsClosed_1, DK_law24_DepsClosed_1, h0, h3, h28, h29, h30, nm1, bindH_opt, hnl, -hset_d, -halloc_d]
      rw [← hG]
      refine wpR_round (n := NS.length) (CloB G p xn NS.length) ?_ ?_
      · exact ⟨0, h3, rfl, rfl, rfl, by omega, Mut.refl _ _, rfl⟩
      · rintro q ρ K its ⟨i, h3, h42, h43, h44, hi, hM, rfl⟩
        have hwi : IntKind.wrap .i64 ((i : Int) + 1) = ((i + 1 : Nat) : Int) := by rw [wrap64 (by omega) (by omega)]; omega
        by_cases hil : i < NS.length
        · have hil' : (i : Int) < NS.length := by omega
          obtain ⟨name, hnm⟩ : ∃ name, NS[i]? = some name := ⟨_, List.getElem?_eq_getElem hil⟩
          obtain ⟨qb, t1, t2⟩ := ((nm3.mut hM).vw).at' (k := .i64) (i := (i : Int)) (e := avStr name) (by omega) (by simp [hnm]) rfl rfl rfl
          have hsome : (f name).isSome = true := (hkeys name).1 (List.mem_of_getElem? hnm)
          have hdl : ∀ y, (f y).isSome = true → y.length < 2 ^ 20 := fun y hy => by
            obtain ⟨on, hon⟩ := Option.isSome_iff_exists.1 hy
            exact (hN.bd y on hon).1
          have hNK := hNG.still hM
          have hMa : Mut K (halloc K (.map [] 0)) [] := (Mut.refl K []).alloc _
          obtain ⟨xc, gc, L, c1, c2, c3, c4, c5, c6⟩ := Cone_call h.is.dep (hNK.still hMa) name (hdl name hsome)
          obtain ⟨K1, hK1⟩ : ∃ K1, K1 = gc.getD (halloc K (.map [] 0)) := ⟨_, rfl⟩
          rw [← hK1] at c2 c3
          have hsm1 : hget K1 K.l.length = some (.map [] 0) := c2.get' (by simp) (by simp)
          have hM1 : Mut K K1 [] := hMa.trans c2 (by simp)
          have hcl := c3.len
          simp only [List.length_map] at hcl
          have hsz := hN.sz
          simp [DL_law24_DepsClosed_2, h3, h42, h43, h44, hil', t1, t2, c1, bindH_opt, hcl, -hset_d, -halloc_d]
          rw [← hK1]
          refine wp_round (n := L.length) (CloC K1 p xn NS.length i name K.l.length xc L) ?_ ?_
          · exact ⟨0, h3, h42, h43, h44, rfl, rfl, rfl, rfl, rfl, by omega, Mut.refl _ _, ⟨[], 0, hsm1, by simp [SKeys], rfl⟩, rfl⟩
          · rintro q ρ K2 ⟨j, h3, h42, h43, h44, h7, h8, h51, h52, h53, hj, hM2, hS, rfl⟩
            have hwj : IntKind.wrap .i64 ((j : Int) + 1) = ((j + 1 : Nat) : Int) := by rw [wrap64 (by omega) (by omega)]; omega
            by_cases hjl : j < L.length
            · have hjl' : (j : Int) < L.length := by omega
              obtain ⟨z, hz⟩ : ∃ z, L[j]? = some z := ⟨_, List.getElem?_eq_getElem hjl⟩
              obtain ⟨qc, u1, u2⟩ := (vw_offmap c3 hsm1 hM2).at' (k := .i64) (i := (j : Int)) (e := avStr z) (by omega) (by simp [hz]) rfl rfl rfl
              have htz : L.take (j + 1) = L.take j ++ [z] := by
                rw [List.take_succ_eq_append_getElem hjl]
                rw [List.getElem?_eq_getElem hjl] at hz
                simp only [Option.some.injEq] at hz
                rw [hz]
              have hzn : z ∉ L.take j := by
                have hnd := c4.nodup
                intro hm
                have h1 : (L.take (j + 1)).Nodup := (List.take_sublist _ _).nodup hnd
                rw [htz] at h1
                exact (List.nodup_append.1 h1).2.2 z hm z (by simp) rfl
              obtain ⟨K3, v1, v2, o, v3⟩ := hS.put hzn
              rw [← htz] at v2
              simp [DM_law24_DepsClosed_1, h3, h42, h43, h44, h7, h8, h51, h52, h53, hjl', u1, u2, v1, hwj, -Int.natCast_add, -hset_d]
              exact ⟨L.length - (j + 1), by omega, ⟨j + 1, h3, h42, h43, h44, h7, h8, h51, h52, rfl, by omega, by rw [v3]; exact hM2.set (.inl (by simp)), v2, rfl⟩⟩
            · have hjn : j = L.length := by omega
              subst hjn
              rw [List.take_length] at hS
              obtain ⟨ms, clk, s1, s2, s3⟩ := hS
              have hS : SetM K2 K.l.length L := ⟨ms, clk, s1, s2, s3⟩
              have hMK : Mut K K2 [] := hM1.trans hM2 (by simp)
              simp [DM_law24_DepsClosed_1, DK_law24_DepsClosed_2, h3, h42, h43, h44, h7, h8, h51, h52, h53]
              refine wpRO_range (by simp [h8]) s1 fun hok => ?_
              obtain ⟨Gd, hGd⟩ : ∃ Gd, Gd = hdead K2 := ⟨_, rfl⟩
              have hMG : Mut K2 Gd [] := by rw [hGd]; exact (Mut.refl _ []).dead2
              rw [← hGd]
              simp
              refine wpR_round (n := ms.length) (CloD K2 p xn NS.length i name K.l.length ms clk K2.l.length) ?_ ?_
              · exact ⟨[], [], none, Gone.nil ms, h3, h42, h43, h44, h7, h8, rfl, by simp [List.lookup], hMG, by rw [leftL_nil]⟩
              · rintro q ρ K4 its ⟨done, seen, last, hg, h3, h42, h43, h44, h7, h8, h61, hlk, hM4, rfl⟩
                have hN4 := (hNK.still hMK).still hM4
                have hmp : hget K4 K.l.length = some (.map ms clk) := hM4.get' s1 (by simp)
                simp [DL_law24_DepsClosed_3]
                refine wpRO_next h61 hlk hmp (fun hz => ?_) (fun e he => ?_)
                · -- users
                  obtain ⟨xu, gu, us1, us2, us3⟩ := Users_call h.is.dep hN4 name
                  obtain ⟨U, hU⟩ : ∃ U, U = (sortB (l.map Prod.fst)).filter fun s => decide (name ∈ (f s).getD []) := ⟨_, rfl⟩
                  rw [← hU] at us3
                  have hUl : U.length ≤ l.length := by
                    rw [hU]
                    refine Nat.le_trans (List.length_filter_le _ _) ?_
                    rw [(sortB_perm _).length_eq]; simp
                  have hUm : ∀ u ∈ U, (f u).isSome = true ∧ Edge f u name := fun u hu => by
                    rw [hU, List.mem_filter, ← hNS, hkeys] at hu
                    exact ⟨hu.1, by simpa using hu.2, hsome⟩
                  obtain ⟨K5, hK5⟩ : ∃ K5, K5 = gu.getD K4 := ⟨_, rfl⟩
                  rw [← hK5] at us2 us3
                  have hul := us3.len
                  simp only [List.length_map] at hul
                  simp [DK_law24_DepsClosed_3, h3, h42, h43, h44, h7, h8, us1, bindH_opt, hul, -hset_d, -halloc_d]
                  rw [← hK5]
                  refine wp_round (n := U.length) (CloF K5 p xn NS.length i name xu U.length) ?_ ?_
                  · exact ⟨0, h3, h42, h43, h44, h7, rfl, rfl, rfl, by omega, Mut.refl _ _, rfl⟩
                  · rintro q ρ K6 ⟨j, h3, h42, h43, h44, h7, h81, h82, h83, hj, hM6, rfl⟩
                    have hwj : IntKind.wrap .i64 ((j : Int) + 1) = ((j + 1 : Nat) : Int) := by rw [wrap64 (by omega) (by omega)]; omega
                    by_cases hjl : j < U.length
                    · have hjl' : (j : Int) < U.length := by omega
                      obtain ⟨u, hu⟩ : ∃ u, U[j]? = some u := ⟨_, List.getElem?_eq_getElem hjl⟩
                      obtain ⟨qd, w1, w2⟩ := (hM6.vw us3 (by simp)).at' (k := .i64) (i := (j : Int)) (e := avStr u) (by omega) (by simp [hu]) rfl rfl rfl
                      obtain ⟨m1, m2⟩ := hUm u (List.mem_of_getElem? hu)
                      obtain ⟨xv, gv, M, d1, d2, d3, d4, d5, d6⟩ := Cone_call h.is.dep ((hN4.still us2).still hM6) u (hdl u m1)
                      obtain ⟨K7, hK7⟩ : ∃ K7, K7 = gv.getD K6 := ⟨_, rfl⟩
                      rw [← hK7] at d2 d3
                      have hvl := d3.len
                      simp only [List.length_map] at hvl
                      have hnM : name ∈ M := (d5 name).2 ⟨m1, (Reach.refl).step m2⟩
                      simp [DM_law24_DepsClosed_3, h3, h42, h43, h44, h7, h81, h82, h83, hjl', w1, w2, d1, bindH_opt, hvl, -hset_d, -halloc_d]
                      rw [← hK7]
                      refine wp_round (n := M.length) (CloG K7 p xn NS.length i name xu U.length j xv M) ?_ ?_
                      · exact ⟨0, h3, h42, h43, h44, h7, h81, h82, h83, by simp, rfl, rfl, rfl, by omega, rfl, rfl⟩
                      · rintro q ρ K8 ⟨a, h3, h42, h43, h44, h7, h81, h82, h83, h16, h89, h90, h91, ha, rfl, rfl⟩
                        have hwa : IntKind.wrap .i64 ((a : Int) + 1) = ((a + 1 : Nat) : Int) := by rw [wrap64 (by omega) (by omega)]; omega
                        by_cases hal : a < M.length
                        · have hal' : (a : Int) < M.length := by omega
                          obtain ⟨z, hz⟩ : ∃ z, M[a]? = some z := ⟨_, List.getElem?_eq_getElem hal⟩
                          obtain ⟨qe, y1, y2⟩ := d3.at' (k := .i64) (i := (a : Int)) (e := avStr z) (by omega) (by simp [hz]) rfl rfl rfl
                          have htz : M.take (a + 1) = M.take a ++ [z] := by
                            rw [List.take_succ_eq_append_getElem hal]
                            rw [List.getElem?_eq_getElem hal] at hz
                            simp only [Option.some.injEq] at hz
                            rw [hz]
                          have hmt : decide (name ∈ M.take (a + 1)) = (decide (name ∈ M.take a) || decide (z = name)) := by
                            rw [htz, Bool.eq_iff_iff]
                            simp only [List.mem_append, List.mem_singleton, decide_eq_true_eq, Bool.or_eq_true]
                            exact or_congr Iff.rfl eq_comm
                          by_cases hin : name ∈ M.take a
                          · have hd : decide (name ∈ M.take a) = true := by simp [hin]
                            rw [hd] at h16 hmt
                            simp [DM_law24_DepsClosed_4, h3, h42, h43, h44, h7, h81, h82, h83, h16, h89, h90, h91, hal', y1, y2, hwa, -Int.natCast_add]
                            exact ⟨M.length - (a + 1), by omega, ⟨a + 1, h3, h42, h43, h44, h7, h81, h82, h83, by rw [hmt]; rfl, h89, h90, rfl, by omega, rfl, rfl⟩⟩
                          · have hd : decide (name ∈ M.take a) = false := by simp [hin]
                            rw [hd] at h16 hmt
                            by_cases hzn : z = name
                            · simp [DM_law24_DepsClosed_4, h3, h42, h43, h44, h7, h81, h82, h83, h16, h89, h90, h91, hal', y1, y2, hwa, hzn, -Int.natCast_add]
                              exact ⟨M.length - (a + 1), by omega, ⟨a + 1, h3, h42, h43, h44, h7, h81, h82, h83, by rw [hmt]; simp [hzn], h89, h90, rfl, by omega, rfl, rfl⟩⟩
                            · simp [DM_law24_DepsClosed_4, h3, h42, h43, h44, h7, h81, h82, h83, h16, h89, h90, h91, hal', y1, y2, hwa, hzn, -Int.natCast_add]
                              exact ⟨M.length - (a + 1), by omega, ⟨a + 1, h3, h42, h43, h44, h7, h81, h82, h83, by rw [hmt]; simp [hzn], h89, h90, rfl, by omega, rfl, rfl⟩⟩
                        · have han : a = M.length := by omega
                          subst han
                          rw [List.take_length] at h16
                          simp only [hnM, decide_true] at h16
                          simp [DM_law24_DepsClosed_4, h3, h42, h43, h44, h7, h81, h82, h83, h16, h89, h90, h91, hwj, -Int.natCast_add]
                          exact ⟨U.length - (j + 1), by omega, ⟨j + 1, h3, h42, h43, h44, h7, h81, h82, rfl, by omega, hM6.trans d2 (by simp), rfl⟩⟩
                    · have hjn : j = U.length := by omega
                      subst hjn
                      simp [DM_law24_DepsClosed_3, DK_law24_DepsClosed_4, h3, h42, h43, h44, h7, h81, h82, h83, hwi, -Int.natCast_add]
                      exact ⟨NS.length - (i + 1), by omega, ⟨i + 1, h3, h42, h43, rfl, by omega, (((hM.trans hMK (by simp)).trans hM4 (by simp)).trans us2 (by simp)).trans hM6 (by simp), rfl⟩⟩
                · have hees := hg.mem he
                  obtain ⟨sB, hs1⟩ := s2 e hees
                  obtain ⟨hg2, hlen⟩ := hg.step hok he
                  obtain ⟨k, v, st⟩ := e
                  simp only at hs1
                  subst hs1
                  simp
                  refine wpRO_entry (id := K2.l.length) (I := ⟨K.l.length, clk, seen ++ [st], some (.string sB, v, st)⟩) (es := ms) (e := (.string sB, v, st)) (by simpa using h61) (by simp [List.lookup]) hmp rfl hees (by simp) ?_
                  have hsB : AV.lit (.string sB) = avStr (bl sB) := congrArg (fun z => AV.lit (.string z)) (mkS_bl sB).symm
                  obtain ⟨s, hs⟩ : ∃ s, s = bl sB := ⟨_, rfl⟩
                  rw [← hs] at hsB
                  have hsL : s ∈ L := by
                    have : (s, v) ∈ KV ms := by rw [hs]; exact List.mem_map.2 ⟨_, hees, rfl⟩
                    rw [s3] at this
                    obtain ⟨y, hy, e⟩ := List.mem_map.1 this
                    cases e
                    exact hy
                  obtain ⟨r1, r2⟩ := (c5 s).1 hsL
                  have r3 := r2.dom r1
                  obtain ⟨xv, gv, M, d1, d2, d3, d4, d5, d6⟩ := Cone_call h.is.dep hN4 s (hdl s r3)
                  obtain ⟨K7, hK7⟩ : ∃ K7, K7 = gv.getD K4 := ⟨_, rfl⟩
                  rw [← hK7] at d2 d3
                  have hvl := d3.len
                  simp only [List.length_map] at hvl
                  have hS7 : SetM K7 K.l.length L := ⟨ms, clk, (d2.get' hmp (by simp)), s2, s3⟩
                  rw [hsB]
                  simp [h3, h42, h43, h44, h7, h8, d1, bindH_opt, hvl, -hset_d, -halloc_d]
                  rw [← hK7]
                  refine wp_round (n := M.length) (CloE K7 p xn NS.length i name K.l.length K2.l.length xv M) ?_ ?_
                  · exact ⟨0, h3, h42, h43, h44, h7, h8, h61, rfl, rfl, rfl, by omega, rfl, rfl⟩
                  · rintro q ρ K8 ⟨j, h3, h42, h43, h44, h7, h8, h61, h68, h69, h70, hj, rfl, rfl⟩
                    have hwj : IntKind.wrap .i64 ((j : Int) + 1) = ((j + 1 : Nat) : Int) := by rw [wrap64 (by omega) (by omega)]; omega
                    by_cases hjl : j < M.length
                    · have hjl' : (j : Int) < M.length := by omega
                      obtain ⟨z, hz⟩ : ∃ z, M[j]? = some z := ⟨_, List.getElem?_eq_getElem hjl⟩
                      obtain ⟨qe, y1, y2⟩ := d3.at' (k := .i64) (i := (j : Int)) (e := avStr z) (by omega) (by simp [hz]) rfl rfl rfl
                      have hzL : z ∈ L := (c5 z).2 ⟨hsome, r2.trans ((d5 z).1 (List.mem_of_getElem? hz)).2⟩
                      have hlook := hS7.look z
                      simp only [hzL, decide_true] at hlook
                      simp [DM_law24_DepsClosed_2, h3, h42, h43, h44, h7, h8, h61, h68, h69, h70, hjl', y1, y2, hlook, hwj, -Int.natCast_add]
                      exact ⟨M.length - (j + 1), by omega, ⟨j + 1, h3, h42, h43, h44, h7, h8, h61, h68, h69, rfl, by omega, rfl, rfl⟩⟩
                    · have hjn : j = M.length := by omega
                      subst hjn
                      simp [DM_law24_DepsClosed_2, h3, h42, h43, h44, h7, h8, h61, h68, h69, h70]
                      exact ⟨_, by omega, ⟨_, _, some (.string sB, v, st), hg2, h3, h42, h43, h44, h7, h8, h61, by simp [List.lookup], hM4.trans d2 (by simp), rfl⟩⟩
        · have hin : i = NS.length := by omega
          subst hin
          simp [DL_law24_DepsClosed_2, DK_law24_DepsClosed_5, h3, h42, h43, h44]
          exact hR3 _ _ _ rfl
end
end Go.Proofs.Eng
