/- The law RunesReads, run by the engine. -/
import Derived.Test.YtombplnoeikhoaaWRef01b
import Derived.Test.YtombplnoeikhoaaEngFlaw01
set_option linter.unusedVariables false
set_option linter.unusedSimpArgs false
set_option maxRecDepth 100000
namespace Go.Proofs.Eng
open Go
section
variable {Γ : Sums} {A : Tab} {N : Nat → Nat}

structure Runes (Γ : Sums) (A : Tab) (N : Nat → Nat) : Prop extends RunesAll Γ A N where
  bad : Has Γ A (f_runes_Bad N) (C_runes_Bad N)
  count : Has Γ A (f_runes_Count N) (C_runes_Count N)

abbrev H00 : Hp := { l := [], d := none }

theorem law_RunesReads (hr : Runes Γ A N) (hf : Ref01 Γ A N) (h : Has Γ A (f_law01_RunesReads N) (C_law01_RunesReads N)) (hlives : (lim Γ A).call (f_law01_lives N) [] (halloc H00 (.cells [avBool false] (t_bool N))) = some (avBool true, none))
    (x : AV) (b : List UInt8) (hx : IsBytes x b) : ∃ r, (lim Γ A).ent (f_law01_RunesReads N) [x] H00 = some r ∧ r.1 = avBool true := by
  apply h.entP (by rfl)
  have hlen := hx.len
  rw [List.length_map] at hlen
  by_cases h400 : 400 < b.length
  · have h400' : (400 : Int) < b.length := by omega
    simp [C_law01_RunesReads, hlives, hlen, h400']
  · have h400' : ¬ (400 : Int) < b.length := by omega
    obtain ⟨p, s, hh, os1, os2, e1, hp, hs, hA⟩ := ref01_Signs_call hf x b (halloc H00 (.cells [avBool false] (t_bool N))) (IsBytes.v hx) (by omega)
    obtain ⟨G, hG⟩ : ∃ G, hh.getD (halloc H00 (.cells [avBool false] (t_bool N))) = G := ⟨_, rfl⟩
    have hL0 := hA.loc ((Loc.start H00).alloc (.cells [avBool false] (t_bool N)))
    rw [hG] at hL0
    have hL := (((((((hL0.alloc (.cells [avNilS] (t_sl_int N))).alloc (.cells [avNilS] (t_sl_int N))).setMid (as := [_]) (.cells [p] (t_sl_int N))).set (.cells [s] (t_sl_int N))).alloc (.cells [avInt .i64 0] (t_int N))).set (.cells [avInt .i64 0] (t_int N))))
    simp at hL
    have hvp := Vw.good (hp.vw (H := G) (by rw [List.append_assoc] at hL0; exact hL0))
    have hvs := Vw.good (hs.vw (H0 := H00) (r := os1 ++ [(0, .cells [avBool false] (t_bool N))]) (H := G) (hL0.perm (by
      simp only [List.append_assoc]
      exact List.perm_append_comm_assoc _ _ _)))
    have hall := fun H => runes_All_call hr.toRunesAll H (IsBytes.v hx)
    simp [C_law01_RunesReads, hlives, hlen, h400', e1, bindH_opt, hG, hvp, hvs, hall]
    refine wp_rangeFn (H0 := H00) (by simp) (runes_All_gen hr.toRunesAll (x := x) (b := b) (by omega)) rfl hL (by intro x hx; obtain ⟨p, _, rfl⟩ := List.mem_map.1 hx; rfl)
      (fun i os => i ≤ (allOf b).length ∧ os = (G.l.length + 1 + 1, AObj.cells [avInt .i64 i] (t_int N)) :: (G.l.length + 1, AObj.cells [s] (t_sl_int N)) ::
        (G.l.length, AObj.cells [p] (t_sl_int N)) :: (os1 ++ (os2 ++ [(0, AObj.cells [avBool false] (t_bool N))]))) (fun _ _ => False) (fun _ _ _ _ _ _ _ => IsBytes.v hx) ⟨Nat.zero_le _, rfl⟩ ?_ ?_
    · rintro i hi l lo lb H' os' _ hL1 ⟨hil, rfl⟩
      simp only [List.length_map] at hi
      simp [L_law01_RunesReads_1, encS]
      refine ⟨_, hL1, ?_⟩
      intro H1 hL2
      have a6 := hL2.get (p := (G.l.length + 1 + 1, AObj.cells [avInt .i64 i] (t_int N))) (by simp)
      have a4 := hL2.get (p := (G.l.length + 1, AObj.cells [s] (t_sl_int N))) (by simp)
      have a3 := hL2.get (p := (G.l.length, AObj.cells [p] (t_sl_int N))) (by simp)
      simp only [] at a6 a4 a3
      have vp := hp.vwm hL2 (by intro q hq; simp [hq])
      have vs := hs.vwm hL2 (by intro q hq; simp [hq])
      have lp := vp.len
      rw [List.length_map] at lp
      obtain ⟨p1, b1, b2⟩ := vp.at' (k := .i64) (i := (i : Int)) (e := avInt .i64 (allOf b)[i].1) (by omega) (by simp [hi]) rfl rfl rfl
      obtain ⟨p2, c1, c2⟩ := vs.at' (k := .i64) (i := (i : Int)) (e := avInt .i64 (allOf b)[i].2) (by omega) (by simp [hi]) rfl rfl rfl
      have hru := rsigns_rune _ _ _ _ (List.getElem_mem hi)
      have hw1 : IntKind.wrap .i64 (allOf b)[i].2 = (allOf b)[i].2 := wrap64 (by omega) (by omega)
      have hll : (allOf b).length ≤ b.length := rsigns_len _ _ _
      have hw : IntKind.wrap .i64 ((i : Int) + 1) = ((i + 1 : Nat) : Int) := by rw [wrap64 (by omega) (by omega)]; omega
      have hi' : ¬ ((allOf b).length : Int) ≤ i := by omega
      simp [L_law01_RunesReads_2, a6, a4, a3, lp, b1, b2, c1, c2, hw1, hw, hi', -Int.natCast_add]
      exact ⟨hL2.setMid (as := [_]) _, hi⟩
    · intro x' H2 os2' hL2 hx'
      rcases hx' with ⟨rfl, _, rfl⟩ | ⟨_, hf⟩
      · rw [List.length_map] at hL2
        have a6 := hL2.head
        have a3 := hL2.get (p := (G.l.length, AObj.cells [p] (t_sl_int N))) (by simp)
        have a2 := hL2.get (p := (0, AObj.cells [avBool false] (t_bool N))) (by simp)
        simp only [] at a3 a2
        have a0 := hget_lt a2
        have vp := hp.vwm hL2 (by intro q hq; simp [hq])
        have lp := vp.len
        rw [List.length_map] at lp
        have hcount := runes_Count_call hr.toRunesAll hr.count H2 (x := x) (b := b) (IsBytes.v hx) (by omega)
        have hbad := runes_Bad_call hr.toRunesAll hr.bad H2 (x := x) (b := b) (IsBytes.v hx) (by omega)
        by_cases hs : stopOf b < b.length
        · have hs1 : (stopOf b : Int) < b.length := by omega
          have hs2 : ¬ stopOf b = b.length := by omega
          simp [K_law01_RunesReads_1, a0, a6, a3, a2, lp, hlen, hcount, hbad, badOf, hs1, hs2]
        · have hs1 : ¬ (stopOf b : Int) < b.length := by omega
          have hs2 : stopOf b = b.length := by have := rstop_le b.length 0 b; unfold stopOf at hs ⊢; omega
          simp [K_law01_RunesReads_1, a0, a6, a3, a2, lp, hlen, hcount, hbad, badOf, hs1, hs2]
      · exact hf.elim
end
end Go.Proofs.Eng
