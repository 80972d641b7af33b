import Derived.Test.YtchbifaiofljdaaM34
import Derived.Test.YtchbifaiofljdaaEngAT
import Derived.Test.YtchbifaiofljdaaM37
import Derived.Test.YtchbifaiofljdaaEngAU
import Derived.KernelRfl
/- A function that is run for whatever is drawn, as the engine takes it. Printed by tm.py. -/
set_option linter.unusedVariables false
set_option maxRecDepth 100000
namespace Go.Proofs.Eng
open Go

def DL_p_store_Store_Copy_1 (N : Nat → Nat) : DC :=
    .seq (
     .regD [.next 21 (.t 20), .op ⟨(some 22), .extract (.t 21) 0, none⟩]) (
    .seq (
     .base (
      .cond (.t 22) (
       .skip) (
       .exit 0))) (
    .block 1 (
     .seq (
      .regD [.entry 23 (.t 20), .op ⟨(some 24), .extract (.t 23) 0, none⟩, .op ⟨(some 25), .extract (.t 23) 1, none⟩, .op ⟨(some 4), .mov (.t 24), none⟩, .op ⟨(some 5), .mov (.t 25), none⟩]) (
     .base (
      .dops 8 [⟨(some 26), .mov (.t 3), none⟩, ⟨(some 27), .nilchk (.t 26), none⟩, ⟨(some 28), .faddr 0 (.t 27), none⟩, ⟨(some 29), .load none (.t 28), none⟩, ⟨(some 30), .mov (.t 4), none⟩, ⟨(some 31), .mov (.t 5), none⟩, ⟨(some 32), .call (.c (.fn (f_slices_Clone_sl_byte_byte N) [] [])) [(.t 31)], none⟩, ⟨none, .mapupd .string (.t 29) (.t 30) (.t 32), none⟩] [0, 0, 0, 0, 0, 0, 1, 0] [])))))
def DK_p_store_Store_Copy_1 (N : Nat → Nat) : DC :=
 .base (
  .seq (
   .ops [⟨(some 33), .mov (.t 3), none⟩, ⟨(some 2), .mov (.t 33), none⟩]) (
  .ret))
def hint_p_store_Store_Copy : Nat → Option AltT := fun k => match k with | _ => none
/-- (*azimuth/store.Store).Copy -/
def D_p_store_Store_Copy (N : Nat → Nat) : DFunc := ⟨34, [.inl 2],
 .seq (
  .base (
   .ops [⟨(some 2), .mov (.c (.lit (.pointer none))), none⟩])) (
 .seq (
  .base (
   .seq (
    .ops [⟨(some 6), .mov (.t 0), none⟩, ⟨(some 7), .eq false .pptr (.t 6) (.c (.lit (.pointer none))), none⟩]) (
   .cond (.t 7) (
    .seq (
     .ops [⟨(some 2), .mov (.c (.lit (.pointer none))), none⟩]) (
    .ret)) (
    .skip)))) (
 .seq (
  .base (
   .ops [⟨(some 8), .call (.c (.fn (f_store_New N) [] [])) [], none⟩, ⟨(some 3), .mov (.t 8), none⟩])) (
 .seq (
  .base (
   .ops [⟨(some 9), .mov (.t 3), none⟩, ⟨(some 10), .mov (.t 0), none⟩, ⟨(some 11), .nilchk (.t 10), none⟩, ⟨(some 12), .faddr 1 (.t 11), none⟩, ⟨(some 13), .load none (.t 12), none⟩, ⟨(some 14), .nilchk (.t 9), none⟩, ⟨(some 15), .faddr 1 (.t 14), none⟩, ⟨none, .store 1 (.t 15) (.t 13), none⟩])) (
 .seq (
  .seq (
   .regD [.op ⟨(some 16), .mov (.t 0), none⟩, .op ⟨(some 17), .nilchk (.t 16), none⟩, .op ⟨(some 18), .faddr 0 (.t 17), none⟩, .op ⟨(some 19), .load none (.t 18), none⟩, .range 20 (.t 19)]) (
  .block 0 (
   .loop (DL_p_store_Store_Copy_1 N)))) (DK_p_store_Store_Copy_1 N))))), false⟩
end Go.Proofs.Eng
/- store.Copy, run for whatever is drawn: a store apart, with the same names and texts. -/
set_option linter.unusedVariables false
set_option linter.unusedSimpArgs false
set_option maxRecDepth 100000
namespace Go.Proofs.Eng
open Go
/-- The texts of a map's entries, in the order in which they came. -/
def cpS (sm : SM) (done : MEs) : SM := done.map fun e => (keyB e.1, (sFind (keyB e.1) sm).getD [])
theorem cpS_keys (sm : SM) (done : MEs) : sKeys (cpS sm done) = (KV done).map Prod.fst := by simp [cpS, sKeys, KV, Function.comp_def]
theorem cpS_snoc (sm : SM) (done : MEs) (e : Value × AV × Nat) : cpS sm (done ++ [e]) = cpS sm done ++ [(keyB e.1, (sFind (keyB e.1) sm).getD [])] := by simp [cpS]
theorem sPut_fresh {k b : List UInt8} {sm : SM} (h : k ∉ sKeys sm) : sPut k b sm = sm ++ [(k, b)] := by
  unfold sPut
  rw [kpos_none.2 h]
theorem sFind_some_iff {k b : List UInt8} {sm : SM} (hn : (sKeys sm).Nodup) : sFind k sm = some b ↔ (k, b) ∈ sm := by
  constructor
  · exact sFind_mem
  · intro h
    obtain ⟨i, hi⟩ := List.mem_iff_getElem?.1 h
    have hk : (sKeys sm)[i]? = some k := by simp [sKeys, hi]
    cases hp : kpos k (sKeys sm) with
    | none => exact absurd (List.mem_of_getElem? hk) (kpos_none.1 hp)
    | some j =>
      have hj := kpos_lt hp
      have : j = i := by
        have h1 := (List.getElem?_eq_some_iff.1 hj).1
        have h2 := (List.getElem?_eq_some_iff.1 hk).1
        exact (List.getElem_inj hn).1 (by rw [(List.getElem?_eq_some_iff.1 hj).2, (List.getElem?_eq_some_iff.1 hk).2])
      subst this
      unfold sFind
      rw [hp]
      simp [hi]
/-- All that came: the same names and texts. -/
theorem cpS_same {es done : MEs} {sm : SM} (hk : (KV es).map Prod.fst = sKeys sm) (hn : (sKeys sm).Nodup) (hp : done.Perm es) : (sKeys (cpS sm done)).Nodup ∧ (∀ k, sFind k (cpS sm done) = sFind k sm) ∧ (cpS sm done).length = sm.length ∧ ∀ x ∈ cpS sm done, x ∈ sm := by
  have hkp : (sKeys (cpS sm done)).Perm (sKeys sm) := by
    rw [cpS_keys, ← hk]
    exact (hp.map _).map _
  have hn2 := (hkp.nodup_iff).2 hn
  have hmem : ∀ x ∈ cpS sm done, x ∈ sm := by
    intro x hx
    have hxk : x.1 ∈ sKeys sm := hkp.mem_iff.1 (List.mem_map.2 ⟨x, hx, rfl⟩)
    obtain ⟨e, _, rfl⟩ := List.mem_map.1 hx
    cases hf : sFind (keyB e.1) sm with
    | none => exact absurd hxk (sFind_none.1 hf)
    | some b => simpa using sFind_mem hf
  refine ⟨hn2, fun k => ?_, by have := hkp.length_eq; simpa [sKeys] using this, hmem⟩
  cases hf : sFind k (cpS sm done) with
  | none =>
    have : k ∉ sKeys sm := fun h => sFind_none.1 hf (hkp.mem_iff.2 h)
    exact (sFind_none.2 this).symm
  | some b =>
    exact ((sFind_some_iff hn).2 (hmem _ (sFind_mem hf))).symm

/-- What Copy comes to. -/
def CopyOut (N : Nat → Nat) (H : Hp) (turn : Nat) (sm : SM) (r : AV × Option Hp) : Prop :=
  ∃ g p m l sm', r = (.ptr p 0, some g) ∧ St g (t_store_Store N) p m turn l ∧ R2 g l sm' ∧ Mut H g [] ∧ H.l.length ≤ p ∧ H.l.length ≤ m ∧ (sKeys sm').Nodup ∧ (∀ k, sFind k sm' = sFind k sm) ∧ sm'.length = sm.length ∧ ∀ x ∈ sm', x ∈ sm

theorem Mut.dead {H H' : Hp} {W : List Nat} (h : Mut H H' W) : Mut H (hdead H') W := by
  refine ⟨by have := h.len; simp [hdead]; omega, fun i hi hw => ?_, fun m hm => h.d m hm⟩
  rw [← h.old i hi hw]
  have := h.len
  simp only [hdead]
  rw [List.getElem?_append_left (by omega)]
/-- The heap behind a call that begins with nothing written. -/
def aft (H : Hp) (g : Option Hp) : Hp := match g with
  | none => H
  | some H' => { l := H'.l, d := dminO H.d H'.d }
theorem bindH1_aft {v : AV} {g : Option Hp} {H : Hp} {Q : AV → Hp → Prop} {m : Mk Q} {m' : Mk H} (k : Mut { l := H.l, d := none } (g.getD { l := H.l, d := none }) []) : bindH1 (some (v, g)) H Q m m' = Q v (aft H g) := by
  apply propext
  cases g with
  | none => rw [bindH1_none]; rfl
  | some H' =>
    have hk : keeps H H' = true := k.keeps rfl
    constructor
    · rintro ⟨u, h, e, k⟩
      simp only [Option.some.injEq, Prod.mk.injEq] at e
      obtain ⟨rfl, rfl⟩ := e
      exact k.2
    · intro k
      exact ⟨v, some H', rfl, hk, k⟩
theorem aft_mut {H : Hp} {g : Option Hp} (h : Mut { l := H.l, d := none } (g.getD { l := H.l, d := none }) []) : Mut H (aft H g) [] := by
  cases g with
  | none => exact Mut.refl _ _
  | some H' => exact h.settled
theorem aft_get {H : Hp} {g : Option Hp} {i : Nat} : hget (aft H g) i = hget (g.getD { l := H.l, d := none }) i := by cases g <;> rfl
/-- How far the copy has come. -/
inductive CopyI (N : Nat → Nat) (H : Hp) (sm : SM) (es : MEs) (m clk p' m' turn it : Nat) (n : Nat) (ρ : Rho) (H' : Hp) (its' : Its) : Prop where
  | mk (done : MEs) (seen : List Nat) (last : Option (Value × AV × Nat)) (l' : List (List UInt8 × AV)) (hg : Gone es done seen) (h3 : ρ 3 = .ptr p' 0) (h20 : ρ 20 = .ptr it 0) (hl : its'.lookup it = some ⟨m, clk, seen, last⟩)
      (hst : St H' (t_store_Store N) p' m' turn l') (hr : R2 H' l' (cpS sm done)) (hm : Mut { l := H.l, d := none } H' []) (hn : n = (leftL es seen).length)
section
variable {Γ : Sums} {A : Tab} {N : Nat → Nat} {C : DCalls}
theorem Copy_run (hs : StoreS Γ A N) {H : Hp} {t : TypeId} {p m turn : Nat} {l : List (List UInt8 × AV)} {sm : SM} (hst : St H t p m turn l) (hr : R2 H l sm) (hn : (sKeys sm).Nodup) (hb : ∀ x ∈ sm, x.2.length < 2 ^ 36) :
    DRunP C Γ A (D_p_store_Store_Copy N) [.ptr p 0] H (CopyOut N H turn sm) := by
  obtain ⟨g, p', m', n1, n2, n3, n4, n5⟩ := New_call hs { l := H.l, d := none }
  obtain ⟨es, clk, m1, m2, m3⟩ := id hst.mp
  have q1 : hget { l := H.l, d := none } p = some (.cells [.map m, avInt .i64 turn] t) := hst.cell
  have q2 : hget g p = some (.cells [.map m, avInt .i64 turn] t) := n3.get' q1 (by simp)
  have q3 := n2.cell
  have hpp : p ≠ p' := fun e => by have := hget_lt hst.cell; simp only at n4; omega
  have kb := fun {Q : AV → Hp → Prop} {ma : Mk Q} {mb : Mk ({ l := H.l, d := none } : Hp)} => bindH1_fresh (c := .ptr p' 0) (g := some g) (Q := Q) (ma := ma) (mb := mb) rfl n3
  have hp'lt := hget_lt q3
  obtain ⟨G, hG⟩ : ∃ G, G = hset g p' (some (.cells [.map m', avInt .i64 turn] (t_store_Store N))) := ⟨_, rfl⟩
  have hGp : hget G p = some (.cells [.map m, avInt .i64 turn] t) := by rw [hG, hget_hset, if_neg hpp]; exact q2
  have hGm : hget G m = some (.map es clk) := by
    have := hget_lt m1
    rw [hG, hget_hset, if_neg (by simp only at n4; omega)]
    exact n3.get' m1 (by simp)
  have hmu : Mut { l := H.l, d := none } G [] := by rw [hG]; exact n3.set (.inr n4)
  have hS : St G (t_store_Store N) p' m' turn [] := by
    obtain ⟨es', clk', k1, k2, k3⟩ := n2.mp
    refine ⟨by rw [hG, hget_hset, if_pos rfl, if_pos hp'lt], es', clk', ?_, k2, k3⟩
    rw [hG, hget_hset, if_neg (Ne.symm n2.ne)]
    exact k1
  apply DRunP.of (by rfl)
  simp [D_p_store_Store_Copy, n1, q2, q3, bindH_opt, -hget_hset, -hset_d]
  rw [← hG]
  simp [hGp, -hget_hset, -hset_d]
  refine wpRO_range rfl hGm fun hok => ?_
  have hitne : G.l.length ≠ m := by have := hget_lt hGm; omega
  have hmu2 : Mut { l := H.l, d := none } (hdead G) [] := hmu.dead
  have hS2 : St (hdead G) (t_store_Store N) p' m' turn [] := (Mut.refl G []).dead.stSt hS
  have hsame := fun done => cpS_same (es := es) (done := done) (sm := sm) (by rw [m3]; exact hr.1) hn
  have hbd : ∀ e ∈ es, ((sFind (keyB e.1) sm).getD []).length < 2 ^ 36 := fun e he => by
    cases hf : sFind (keyB e.1) sm with
    | none => simp
    | some b => exact hb _ (sFind_mem hf)
  have hvb : ∀ e ∈ es, VBytes H e.2.1 ((sFind (keyB e.1) sm).getD []) := fun e he => by
    obtain ⟨i, hi⟩ := List.mem_iff_getElem?.1 he
    have hi2 : l[i]? = some (keyB e.1, e.2.1) := by rw [← m3]; simp [KV, hi]
    have hnl : (l.map Prod.fst).Nodup := by rw [hr.1]; exact hn
    have := hr.get (keyB e.1)
    rw [vFind_nodup hnl hi2] at this
    exact this
  simp
  refine wpR_round (n := es.length) (CopyI N H sm es m clk p' m' turn G.l.length) ?_ ?_
  · exact ⟨[], [], none, [], Gone.nil es, rfl, rfl, by simp [List.lookup], hS2, R2.nil, hmu2, by rw [leftL_nil]⟩
  · rintro n ρ H' its' ⟨done, seen, last, l', hg, h3, h20, hl, hst', hr', hm', rfl⟩
    have hmm : hget H' m = some (.map es clk) := hm'.get' m1 (by simp)
    simp [DL_p_store_Store_Copy_1]
    refine wpRO_next h20 hl hmm (fun h0 => ?_) (fun e he => ?_)
    · simp [DK_p_store_Store_Copy_1, h3]
      rw [settle_some (by simp only [AV.under]; simp; omega)]
      obtain ⟨z1, z2, z3, z4⟩ := hsame done (hg.done h0)
      exact ⟨_, p', m', l', _, rfl, hst'.dd _, hr'.keep fun x b hx => hx.dd _, hm'.settled, n4, n5, z1, z2, z3, z4⟩
    · have hees := hg.mem he
      obtain ⟨s, hs1⟩ := m2 e hees
      obtain ⟨hg2, hlen⟩ := hg.step hok he
      have hfr := hg.fresh hok he
      have hve := vb_rows (W := []) (by simp) hm' ((hvb e hees).dd none)
      obtain ⟨k, v, st⟩ := e
      simp only at hs1
      subst hs1
      obtain ⟨c, gc, os, k1, k2, k3⟩ := clone_call hs.clone (hve.dd none) (hbd _ hees)
      have hst2 := hst'.cell
      obtain ⟨es', clk', u1, u2, u3⟩ := id hst'.mp
      have kc := fun {Q : AV → Hp → Prop} {ma : Mk Q} {mb : Mk H'} => bindH1_aft (v := c) (g := gc) (H := H') (Q := Q) (m := ma) (m' := mb) k2.wr
      obtain ⟨K, hK⟩ : ∃ K, K = aft H' gc := ⟨_, rfl⟩
      rw [← hK] at kc
      have kw : Mut H' K [] := by rw [hK]; exact aft_mut k2.wr
      have kcell := kw.get' hst2 (by simp)
      have kmap := kw.get' u1 (by simp)
      obtain ⟨es2, clk2, v1, v2, v3⟩ := aMapupd_str (s := s) (v := c) kmap u2
      simp
      refine wpRO_entry (id := G.l.length) (I := ⟨m, clk, seen ++ [st], some (.string s, v, st)⟩) (es := es) (e := (.string s, v, st)) (by simpa using h20) (by simp [List.lookup]) hmm rfl hees (by simp) ?_
      simp [h3, hst2, k1, kc, v1, -hset_d]
      have hltm := hget_lt kmap
      have hne := hst'.ne
      have hmu3 : Mut { l := H.l, d := none } (hset K m' (some (.map es2 clk2))) [] := (hm'.trans kw (by simp)).set (.inr n5)
      have hcb : VBytes K c ((sFind (keyB (.string s)) sm).getD []) := by
        rcases k2.row with ⟨rfl, r2, rfl⟩ | ⟨id, rfl, rfl⟩
        · exact .inl (.inl ⟨rfl, r2⟩)
        · refine .inr ⟨id, 0, t_uint8 N, _, rfl, ?_, by omega, List.take_of_length_le (by simp)⟩
          rw [hK, aft_get]
          exact (k2.has _ (List.mem_singleton.2 rfl)).1
      have hnomap : ∀ i ∈ [m'], ∀ sz es e, hget K i ≠ some (.arr sz es e) := fun i hi sz es e h1 => by
        rw [List.mem_singleton.1 hi, kmap] at h1; cases h1
      have kv : ∀ x b, VBytes K x b → VBytes (hset K m' (some (.map es2 clk2))) x b := fun x b hx => vb_rows hnomap ((Mut.refl K [m']).set (.inl (by simp))) hx
      have hfrk : ∀ x ∈ l', x.1 ≠ bl s := by
        intro x hx hxe
        have h1 : x.1 ∈ sKeys (cpS sm done) := by rw [← hr'.1]; exact List.mem_map.2 ⟨x, hx, rfl⟩
        rw [cpS_keys] at h1
        obtain ⟨y, hy, hye⟩ := List.mem_map.1 h1
        obtain ⟨z, hz, rfl⟩ := List.mem_map.1 hy
        exact hfr z hz (keyB_inj m2 (hg.sub hz) hees (hye.trans hxe))
      have hfrs : keyB (.string s) ∉ sKeys (cpS sm done) := by
        rw [← hr'.1]
        intro h1
        obtain ⟨x, hx, hxe⟩ := List.mem_map.1 h1
        exact hfrk x hx hxe
      refine ⟨_, ?_, ⟨done ++ [(.string s, v, st)], seen ++ [st], some (.string s, v, st), vPut (bl s) c l', hg2, h3, h20, by simp [List.lookup], ⟨?_, es2, clk2, ?_, v2, by rw [v3, u3]⟩, ?_, hmu3, rfl⟩⟩
      · have := hlen
        simp only at this
        omega
      · rw [hget_hset, if_neg hne]; exact kcell
      · rw [hget_hset, if_pos rfl, if_pos hltm]
      · have := ((hr'.keep fun x b hx => vb_rows (W := []) (by simp) kw hx).put (k := bl s) hcb).keep kv
        rw [cpS_snoc, ← sPut_fresh hfrs]
        exact this
end
end Go.Proofs.Eng
/- A function that is run for whatever is drawn, as the engine takes it. Printed by tm.py. -/
set_option linter.unusedVariables false
set_option maxRecDepth 100000
namespace Go.Proofs.Eng
open Go

def DM_law23_StorePlays_2 (N : Nat → Nat) : AC :=
          .seq (
           .ops [⟨(some 71), .bin .lss (.t 70) (.t 69), none⟩]) (
          .seq (
           .cond (.t 71) (
            .skip) (
            .exit 2)) (
          .seq (
           .block 3 (
            .seq (
             .ops [⟨(some 72), .mov (.t 70), none⟩, ⟨(some 11), .mov (.t 72), none⟩]) (
            .ops [⟨(some 73), .faddr 3 (.t 9), none⟩, ⟨(some 74), .load none (.t 73), none⟩, ⟨(some 75), .mov (.t 11), none⟩, ⟨(some 76), .iaddr 1 (.t 74) (.t 75), none⟩, ⟨(some 77), .load none (.t 76), none⟩, ⟨(some 78), .bin .xor (.t 77) (.c (.lit (.int .u8 255))), none⟩, ⟨(some 79), .iaddr 1 (.t 74) (.t 75), none⟩, ⟨none, .store 1 (.t 79) (.t 78), none⟩]))) (
          .ops [⟨(some 80), .bin .add (.t 70) (.c (.lit (.int .i64 1))), none⟩, ⟨(some 70), .mov (.t 80), none⟩])))
def DM_law23_StorePlays_1 (N : Nat → Nat) : AC :=
     .seq (
      .ops [⟨(some 36), .bin .lss (.t 35) (.t 34), none⟩]) (
     .seq (
      .cond (.t 36) (
       .skip) (
       .exit 0)) (
     .seq (
      .block 1 (
       .seq (
        .ops [⟨(some 37), .iaddr 4 (.t 33) (.t 35), none⟩, ⟨(some 38), .load (some 4) (.t 37), none⟩, ⟨(some 9), .new (t_law23_Act N) (.agg [(.lit (.int .i64 0)), (.lit (.string (mkS []))), (.lit (.string (mkS []))), (.lit (.slice none 0 0))]), none⟩, ⟨none, .store 4 (.t 9) (.t 38), none⟩]) (
       .seq (
        .seq (
         .ops [⟨(some 39), .faddr 3 (.t 9), none⟩, ⟨(some 40), .load none (.t 39), none⟩, ⟨(some 41), .len (.t 40), none⟩, ⟨(some 42), .bin .gtr (.t 41) (.c (.lit (.int .i64 200))), none⟩, ⟨(some 43), .mov (.t 42), none⟩, ⟨(some 44), .faddr 1 (.t 9), (some (43, false))⟩, ⟨(some 45), .load none (.t 44), (some (43, false))⟩, ⟨(some 46), .lens (.t 45), (some (43, false))⟩, ⟨(some 47), .bin .gtr (.t 46) (.c (.lit (.int .i64 50))), (some (43, false))⟩, ⟨(some 48), .pick (.t 43) (.c (.lit (.bool true))) (.t 47), none⟩, ⟨(some 49), .mov (.t 48), none⟩, ⟨(some 50), .faddr 2 (.t 9), (some (49, false))⟩, ⟨(some 51), .load none (.t 50), (some (49, false))⟩, ⟨(some 52), .lens (.t 51), (some (49, false))⟩, ⟨(some 53), .bin .gtr (.t 52) (.c (.lit (.int .i64 50))), (some (49, false))⟩, ⟨(some 54), .pick (.t 49) (.c (.lit (.bool true))) (.t 53), none⟩]) (
        .cond (.t 54) (
         .seq (
          .ops [⟨(some 4), .mov (.c (.lit (.bool true))), none⟩]) (
         .ret)) (
         .skip))) (
       .seq (
        .ops [⟨(some 55), .bslice (t_uint8 N) 1 none 0 [(.lit (.int .u8 0))] [], none⟩, ⟨(some 56), .faddr 3 (.t 9), none⟩, ⟨(some 57), .load none (.t 56), none⟩, ⟨(some 58), .append (t_uint8 N) 1 1 (.t 55) (.t 57), none⟩, ⟨(some 59), .faddr 3 (.t 9), none⟩, ⟨none, .store 1 (.t 59) (.t 58), none⟩]) (
       .seq (
        .ops [⟨(some 60), .mov (.t 5), none⟩, ⟨(some 61), .call (.c (.fn (f_p_store_Store_Turn N) [] [])) [(.t 60)], none⟩, ⟨(some 10), .mov (.t 61), none⟩]) (
       .seq (
        .seq (
         .ops [⟨(some 62), .mov (.t 5), none⟩, ⟨(some 63), .mov (.t 6), none⟩, ⟨(some 64), .load (some 4) (.t 9), none⟩, ⟨(some 65), .call (.c (.fn (f_law23_do N) [] [])) [(.t 62), (.t 63), (.t 64)], none⟩, ⟨(some 66), .un .not (.t 65), none⟩]) (
        .cond (.t 66) (
         .seq (
          .ops [⟨(some 4), .mov (.c (.lit (.bool false))), none⟩]) (
         .ret)) (
         .skip))) (
       .seq (
        .seq (
         .ops [⟨(some 67), .faddr 3 (.t 9), none⟩, ⟨(some 68), .load none (.t 67), none⟩, ⟨(some 69), .len (.t 68), none⟩, ⟨(some 70), .mov (.c (.lit (.int .i64 0))), none⟩]) (
        .block 2 (
         .loop (DM_law23_StorePlays_2 N)))) (
       .seq (
        .ops [⟨(some 81), .mov (.t 7), none⟩, ⟨(some 82), .mov (.t 5), none⟩, ⟨(some 83), .call (.c (.fn (f_p_store_Store_Turn N) [] [])) [(.t 82)], none⟩, ⟨(some 84), .mov (.t 10), none⟩, ⟨(some 85), .bin .sub (.t 83) (.t 84), none⟩, ⟨(some 86), .bin .add (.t 81) (.t 85), none⟩, ⟨(some 7), .mov (.t 86), none⟩]) (
       .seq (
        .ops [⟨(some 87), .mov (.t 5), none⟩, ⟨(some 88), .call (.c (.fn (f_p_store_Store_Turn N) [] [])) [(.t 87)], none⟩, ⟨(some 89), .mov (.t 10), none⟩, ⟨(some 90), .bin .sub (.t 88) (.t 89), none⟩, ⟨(some 91), .bin .gtr (.t 90) (.c (.lit (.int .i64 1))), none⟩, ⟨(some 92), .mov (.t 91), none⟩, ⟨(some 93), .mov (.t 5), (some (92, false))⟩, ⟨(some 94), .call (.c (.fn (f_p_store_Store_Turn N) [] [])) [(.t 93)], (some (92, false))⟩, ⟨(some 95), .mov (.t 10), (some (92, false))⟩, ⟨(some 96), .bin .lss (.t 94) (.t 95), (some (92, false))⟩, ⟨(some 97), .pick (.t 92) (.c (.lit (.bool true))) (.t 96), none⟩]) (
       .cond (.t 97) (
        .seq (
         .ops [⟨(some 4), .mov (.c (.lit (.bool false))), none⟩]) (
        .ret)) (
        .skip))))))))))) (
     .ops [⟨(some 98), .bin .add (.t 35) (.c (.lit (.int .i64 1))), none⟩, ⟨(some 35), .mov (.t 98), none⟩])))
def DL_law23_StorePlays_1 (N : Nat → Nat) : DC :=
    .seq (
     .regD [.next 104 (.t 103), .op ⟨(some 105), .extract (.t 104) 0, none⟩]) (
    .seq (
     .base (
      .cond (.t 105) (
       .skip) (
       .exit 4))) (
    .block 5 (
     .seq (
      .regD [.entry 106 (.t 103), .op ⟨(some 107), .extract (.t 106) 0, none⟩, .op ⟨(some 108), .extract (.t 106) 1, none⟩, .op ⟨(some 14), .mov (.t 107), none⟩, .op ⟨(some 15), .mov (.t 108), none⟩]) (
     .base (
      .ops [⟨(some 109), .mov (.t 13), none⟩, ⟨(some 110), .mov (.t 14), none⟩, ⟨(some 111), .mov (.t 15), none⟩, ⟨none, .mapupd .string (.t 109) (.t 110) (.t 111), none⟩])))))
def DM_law23_StorePlays_3 (N : Nat → Nat) : AC :=
     .seq (
      .ops [⟨(some 115), .bin .lss (.t 114) (.t 113), none⟩]) (
     .seq (
      .cond (.t 115) (
       .skip) (
       .exit 6)) (
     .seq (
      .block 7 (
       .seq (
        .ops [⟨(some 116), .iaddr 4 (.t 112) (.t 114), none⟩, ⟨(some 117), .load (some 4) (.t 116), none⟩, ⟨(some 17), .new (t_law23_Act N) (.agg [(.lit (.int .i64 0)), (.lit (.string (mkS []))), (.lit (.string (mkS []))), (.lit (.slice none 0 0))]), none⟩, ⟨none, .store 4 (.t 17) (.t 117), none⟩]) (
       .seq (
        .seq (
         .ops [⟨(some 118), .faddr 3 (.t 17), none⟩, ⟨(some 119), .load none (.t 118), none⟩, ⟨(some 120), .len (.t 119), none⟩, ⟨(some 121), .bin .gtr (.t 120) (.c (.lit (.int .i64 200))), none⟩, ⟨(some 122), .mov (.t 121), none⟩, ⟨(some 123), .faddr 1 (.t 17), (some (122, false))⟩, ⟨(some 124), .load none (.t 123), (some (122, false))⟩, ⟨(some 125), .lens (.t 124), (some (122, false))⟩, ⟨(some 126), .bin .gtr (.t 125) (.c (.lit (.int .i64 50))), (some (122, false))⟩, ⟨(some 127), .pick (.t 122) (.c (.lit (.bool true))) (.t 126), none⟩, ⟨(some 128), .mov (.t 127), none⟩, ⟨(some 129), .faddr 2 (.t 17), (some (128, false))⟩, ⟨(some 130), .load none (.t 129), (some (128, false))⟩, ⟨(some 131), .lens (.t 130), (some (128, false))⟩, ⟨(some 132), .bin .gtr (.t 131) (.c (.lit (.int .i64 50))), (some (128, false))⟩, ⟨(some 133), .pick (.t 128) (.c (.lit (.bool true))) (.t 132), none⟩]) (
        .cond (.t 133) (
         .seq (
          .ops [⟨(some 4), .mov (.c (.lit (.bool true))), none⟩]) (
         .ret)) (
         .skip))) (
       .seq (
        .ops [⟨(some 134), .mov (.t 12), none⟩, ⟨(some 135), .mov (.t 13), none⟩, ⟨(some 136), .load (some 4) (.t 17), none⟩, ⟨(some 137), .call (.c (.fn (f_law23_do N) [] [])) [(.t 134), (.t 135), (.t 136)], none⟩, ⟨(some 138), .un .not (.t 137), none⟩]) (
       .cond (.t 138) (
        .seq (
         .ops [⟨(some 4), .mov (.c (.lit (.bool false))), none⟩]) (
        .ret)) (
        .skip)))))) (
     .ops [⟨(some 139), .bin .add (.t 114) (.c (.lit (.int .i64 1))), none⟩, ⟨(some 114), .mov (.t 139), none⟩])))
def DK_law23_StorePlays_2 (N : Nat → Nat) : DC :=
 .base (
  .seq (
   .seq (
    .ops [⟨(some 112), .mov (.t 1), none⟩, ⟨(some 113), .len (.t 112), none⟩, ⟨(some 114), .mov (.c (.lit (.int .i64 0))), none⟩]) (
   .block 6 (
    .loop (DM_law23_StorePlays_3 N)))) (
  .seq (
   .ops [⟨(some 140), .mov (.t 5), none⟩, ⟨(some 141), .mov (.t 6), none⟩, ⟨(some 142), .call (.c (.fn (f_law23_is N) [] [])) [(.t 140), (.t 141)], none⟩, ⟨(some 143), .mov (.t 142), none⟩, ⟨(some 144), .mov (.t 12), (some (143, true))⟩, ⟨(some 145), .mov (.t 13), (some (143, true))⟩, ⟨(some 146), .call (.c (.fn (f_law23_is N) [] [])) [(.t 144), (.t 145)], (some (143, true))⟩, ⟨(some 147), .pick (.t 143) (.t 146) (.c (.lit (.bool false))), none⟩, ⟨(some 148), .mov (.t 147), none⟩, ⟨(some 149), .mov (.t 7), (some (148, true))⟩, ⟨(some 150), .mov (.t 5), (some (148, true))⟩, ⟨(some 151), .call (.c (.fn (f_p_store_Store_Turn N) [] [])) [(.t 150)], (some (148, true))⟩, ⟨(some 152), .eq false .pint (.t 149) (.t 151), (some (148, true))⟩, ⟨(some 153), .pick (.t 148) (.t 152) (.c (.lit (.bool false))), none⟩, ⟨(some 4), .mov (.t 153), none⟩]) (
  .ret)))
def DK_law23_StorePlays_1 (N : Nat → Nat) : DC :=
 .seq (
  .regD [.op ⟨(some 99), .mov (.t 5), none⟩, .call (some 100) (f_p_store_Store_Copy N) [(.t 99)], .op ⟨(some 12), .mov (.t 100), none⟩]) (
 .seq (
  .base (
   .ops [⟨(some 101), .mkmap, none⟩, ⟨(some 13), .mov (.t 101), none⟩])) (
 .seq (
  .seq (
   .regD [.op ⟨(some 102), .mov (.t 6), none⟩, .range 103 (.t 102)]) (
  .block 4 (
   .loop (DL_law23_StorePlays_1 N)))) (DK_law23_StorePlays_2 N)))
def hint_law23_StorePlays : Nat → Option AltT := fun k => match k with | 1000028 => some .leaf | _ => none
/-- azimuth/azimuthlaw23.StorePlays -/
def D_law23_StorePlays (N : Nat → Nat) : DFunc := ⟨154, [.inl 4],
 .seq (
  .base (
   .ops [⟨(some 4), .mov (.c (.lit (.bool false))), none⟩])) (
 .seq (
  .base (
   .seq (
    .ops [⟨(some 18), .call (.c (.fn (f_law23_lives N) [] [])) [], none⟩, ⟨(some 19), .un .not (.t 18), none⟩, ⟨(some 20), .mov (.t 19), none⟩, ⟨(some 21), .mov (.t 0), (some (20, false))⟩, ⟨(some 22), .len (.t 21), (some (20, false))⟩, ⟨(some 23), .bin .gtr (.t 22) (.c (.lit (.int .i64 60))), (some (20, false))⟩, ⟨(some 24), .pick (.t 20) (.c (.lit (.bool true))) (.t 23), none⟩, ⟨(some 25), .mov (.t 24), none⟩, ⟨(some 26), .mov (.t 1), (some (25, false))⟩, ⟨(some 27), .len (.t 26), (some (25, false))⟩, ⟨(some 28), .bin .gtr (.t 27) (.c (.lit (.int .i64 60))), (some (25, false))⟩, ⟨(some 29), .pick (.t 25) (.c (.lit (.bool true))) (.t 28), none⟩]) (
   .cond (.t 29) (
    .seq (
     .ops [⟨(some 30), .call (.c (.fn (f_law23_lives N) [] [])) [], none⟩, ⟨(some 4), .mov (.t 30), none⟩]) (
    .ret)) (
    .skip)))) (
 .seq (
  .base (
   .ops [⟨(some 31), .call (.c (.fn (f_store_New N) [] [])) [], none⟩, ⟨(some 32), .mkmap, none⟩, ⟨(some 5), .mov (.t 31), none⟩, ⟨(some 6), .mov (.t 32), none⟩])) (
 .seq (
  .base (
   .ops [⟨(some 7), .mov (.c (.lit (.int .i64 0))), none⟩])) (
 .seq (
  .base (
   .seq (
    .ops [⟨(some 33), .mov (.t 0), none⟩, ⟨(some 34), .len (.t 33), none⟩, ⟨(some 35), .mov (.c (.lit (.int .i64 0))), none⟩]) (
   .block 0 (
    .loop (DM_law23_StorePlays_1 N))))) (DK_law23_StorePlays_1 N))))), false⟩
end Go.Proofs.Eng
/- The law StorePlays, run for whatever is drawn. -/
set_option linter.unusedVariables false
set_option linter.unusedSimpArgs false
set_option maxRecDepth 100000
namespace Go.Proofs.Eng
open Go
section
variable {Γ : Sums} {A : Tab} {N : Nat → Nat} {C : DCalls}
/-- Between two acts of the first row. -/
inductive PlayI (N : Nat → Nat) (x y : AV) (len p m mm : Nat) (q : Nat) (ρ : Rho) (H : Hp) : Prop where
  | mk (i turn : Nat) (l : List (List UInt8 × AV)) (sm sm2 : SM) (h0 : ρ 0 = x) (h1 : ρ 1 = y) (h5 : ρ 5 = .ptr p 0) (h6 : ρ 6 = .map mm) (h7 : ρ 7 = avInt .i64 (turn : Nat)) (h33 : ρ 33 = x) (h34 : ρ 34 = avInt .i64 (len : Nat)) (h35 : ρ 35 = avInt .i64 (i : Nat)) (hi : i ≤ len)
      (hI : SInv2 (fun _ => False) H (t_store_Store N) p m mm turn l sm sm2) (ht : turn ≤ i) (hs : sm.length ≤ i) (hq : q = len - i)
/-- Within the loop that turns a text's bytes. -/
inductive XorI (N : Nat → Nat) (x y : AV) (len p m mm i turn turn' c0 tid n : Nat) (G : Hp) (k : Int) (a b : List UInt8) (q : Nat) (ρ : Rho) (H : Hp) : Prop where
  | mk (j : Nat) (es : List AV) (h0 : ρ 0 = x) (h1 : ρ 1 = y) (h5 : ρ 5 = .ptr p 0) (h6 : ρ 6 = .map mm) (h7 : ρ 7 = avInt .i64 (turn : Nat)) (h9 : ρ 9 = .ptr c0 0) (h10 : ρ 10 = avInt .i64 (turn : Nat)) (h33 : ρ 33 = x) (h34 : ρ 34 = avInt .i64 (len : Nat)) (h35 : ρ 35 = avInt .i64 (i : Nat))
      (h69 : ρ 69 = avInt .i64 (n : Nat)) (h70 : ρ 70 = avInt .i64 (j : Nat)) (hj : j ≤ n) (hM : Mut G H [tid]) (hc : hget H c0 = some (.cells [avInt .i64 k, avStr a, avStr b, .ra 1 tid 0 n] (t_law23_Act N))) (ht : hget H tid = some (.arr 1 es (t_uint8 N))) (he : es.length = n) (hz : ∀ e ∈ es, ∃ z : Int, e = .lit (.int .u8 z)) (hq : q = n - j)

theorem SInv2.noarr {X : Nat → Prop} {H : Hp} {t : TypeId} {p m mm turn : Nat} {l : List (List UInt8 × AV)} {sm sm2 : SM} (h : SInv2 X H t p m mm turn l sm sm2) : ∀ i ∈ [p, m, mm], ∀ sz es e, hget H i ≠ some (.arr sz es e) := by
  intro i hi sz es e h1
  simp only [List.mem_cons, List.not_mem_nil, or_false] at hi
  rcases hi with rfl | rfl | rfl
  · rw [h.st.cell] at h1; cases h1
  · obtain ⟨es, clk, c, _⟩ := h.st.mp
    rw [c] at h1; cases h1
  · obtain ⟨es, clk, c, _⟩ := h.mp
    rw [c] at h1; cases h1
/-- Between two acts of the second row. -/
inductive Play2I (N : Nat → Nat) (y : AV) (len p m mm p2 m2 mm2 turn : Nat) (l : List (List UInt8 × AV)) (sm sm2 : SM) (q : Nat) (ρ : Rho) (H : Hp) : Prop where
  | mk (i turn' : Nat) (l' : List (List UInt8 × AV)) (sm' sm2' : SM) (h1 : ρ 1 = y) (h5 : ρ 5 = .ptr p 0) (h6 : ρ 6 = .map mm) (h7 : ρ 7 = avInt .i64 (turn : Nat)) (h12 : ρ 12 = .ptr p2 0) (h13 : ρ 13 = .map mm2) (h112 : ρ 112 = y) (h113 : ρ 113 = avInt .i64 (len : Nat)) (h114 : ρ 114 = avInt .i64 (i : Nat)) (hi : i ≤ len)
      (hI : SInv2 (fun _ => False) H (t_store_Store N) p m mm turn l sm sm2) (hJ : SInv2 (fun _ => False) H (t_store_Store N) p2 m2 mm2 turn' l' sm' sm2') (ht : turn' ≤ turn + i) (hs : sm'.length ≤ sm.length + i) (hq : q = len - i)

theorem plays_tail2 (hs : StoreS Γ A N) (h2 : StoreS2 Γ A N) (hL : StoreL Γ A N) {y : AV} {es2 : List AV} (hy : Fzr 4 y es2) (hes2 : ∀ e ∈ es2, IsAct e) (hel2 : es2.length ≤ 60) {R : AV × Option Hp → Prop} (hR3 : ∀ v H H', v = avBool true → R (settle H v H'))
    {ρ : Rho} {H : Hp} {its : Its} {p m mm p2 m2 mm2 turn : Nat} {l l' : List (List UInt8 × AV)} {sm sm2 sm' sm2' : SM} (h1 : ρ 1 = y) (h5 : ρ 5 = .ptr p 0) (h6 : ρ 6 = .map mm) (h7 : ρ 7 = avInt .i64 (turn : Nat)) (h12 : ρ 12 = .ptr p2 0) (h13 : ρ 13 = .map mm2)
    (hI : SInv2 (fun _ => False) H (t_store_Store N) p m mm turn l sm sm2) (hJ : SInv2 (fun _ => False) H (t_store_Store N) p2 m2 mm2 turn l' sm' sm2') (hap : ∀ i ∈ [p2, m2, mm2], i ≠ p ∧ i ≠ m ∧ i ≠ mm) (ht : turn ≤ 60) (hsl : sm.length ≤ 60) (hsl' : sm'.length ≤ sm.length) :
    wpR C (lim Γ A) (DK_law23_StorePlays_2 N) ρ H its (EndsD [.inl 4] false { l := [], d := none } R) := by
  have hyl : asLen y = some es2.length := by rcases hy with ⟨rfl, rfl⟩ | rfl <;> rfl
  simp [DK_law23_StorePlays_2, h1, hyl]
  refine wp_round (n := es2.length) (Play2I N y es2.length p m mm p2 m2 mm2 turn l sm sm2) ?_ ?_
  · exact ⟨0, turn, l', sm', sm2', h1, h5, h6, h7, h12, h13, rfl, rfl, rfl, by omega, hI, hJ, by omega, by omega, rfl⟩
  · rintro q ρ H' ⟨i, turn', l'', sm'', sm2'', h1, h5, h6, h7, h12, h13, h112, h113, h114, hi, hI, hJ, htt, hss, rfl⟩
    by_cases hlt : i < es2.length
    · have hlt' : (i : Int) < es2.length := by omega
      have hg := List.getElem?_eq_getElem hlt
      obtain ⟨k, u, v, z, ty, e1, e2⟩ := hes2 _ (List.getElem_mem hlt)
      rw [e1] at hg
      have hzv : ∀ H, VBytes H z ty := fun H => e2.v
      have hzl : asLen z = some ty.length := by have := (hzv H').len; simpa using this
      have hzo : z.one = true := by rcases e2 with ⟨rfl, _⟩ | rfl <;> rfl
      have hxa : aiaddr 4 y (.lit (.int .i64 (i : Int))) = some (.vp [avInt .i64 k, avStr u, avStr v, z]) := by
        rcases hy with ⟨rfl, rfl⟩ | rfl
        · simp at hlt
        · exact aiaddr_sln hg (by simp [actV, hzo])
      have hw : IntKind.wrap .i64 ((i : Int) + 1) = ((i + 1 : Nat) : Int) := by rw [wrap64 (by omega) (by omega)]; omega
      by_cases d1 : 200 < ty.length
      · have d1' : (200 : Int) < ty.length := by omega
        simp [DM_law23_StorePlays_3, h1, h5, h6, h7, h12, h13, h112, h113, h114, hlt', hxa, loadC, hzo, hzl, d1, d1']
        exact hR3 _ _ _ rfl
      have d1' : ¬ (200 : Int) < ty.length := by omega
      by_cases d2 : 50 < u.length
      · have d2' : (50 : Int) < u.length := by omega
        simp [DM_law23_StorePlays_3, h1, h5, h6, h7, h12, h13, h112, h113, h114, hlt', hxa, loadC, hzo, hzl, d1, d1', d2, d2']
        exact hR3 _ _ _ rfl
      have d2' : ¬ (50 : Int) < u.length := by omega
      by_cases d3 : 50 < v.length
      · have d3' : (50 : Int) < v.length := by omega
        simp [DM_law23_StorePlays_3, h1, h5, h6, h7, h12, h13, h112, h113, h114, hlt', hxa, loadC, hzo, hzl, d1, d1', d2, d2', d3, d3']
        exact hR3 _ _ _ rfl
      have d3' : ¬ (50 : Int) < v.length := by omega
      have M0 : Mut H' (hset (halloc H' (.cells [.lit (.int .i64 0), .lit (.string (mkS [])), .lit (.string (mkS [])), .lit (.slice none 0 0)] (t_law23_Act N))) H'.l.length (some (.cells [avInt .i64 k, avStr u, avStr v, z] (t_law23_Act N)))) [] := ((Mut.refl H' []).alloc _).set (.inr (Nat.le_refl _))
      obtain ⟨gd, q1, l3, sm3, sm4, turn3, q2, q3, q4, q5, q6⟩ := do_call2 hs h2 hL (hJ.still M0) (by omega) (by omega) (k := k) (by omega) (by omega) (by omega) (hzv _) (a := u) (b := v) (x := z)
      unfold actV at q1
      have hI2 := (hI.still M0).frame (fun i hi => ⟨(hap i hi).1, (hap i hi).2.1, (hap i hi).2.2, .inr ((hJ.still M0).noarr i hi)⟩) q3
      simp [DM_law23_StorePlays_3, h1, h5, h6, h7, h12, h13, h112, h113, h114, hlt', hxa, loadC, hzo, hzl, d1, d1', d2, d2', d3, d3', q1, bindH_opt, hw, -hset_d, -halloc_d, -Int.natCast_add]
      exact ⟨es2.length - (i + 1), by omega, ⟨i + 1, turn3, l3, sm3, sm4, h1, h5, h6, h7, h12, h13, h112, h113, rfl, by omega, hI2, q2, by omega, by omega, rfl⟩⟩
    · have hi2 : i = es2.length := by omega
      subst hi2
      obtain ⟨b1, b2, b3, b4, b5⟩ := hI.mp
      obtain ⟨a1, a2, a3, a4, a5⟩ := hJ.mp
      have r1 := is_call hs h2 hL hI.st hI.r2 b3 b4 b5 hI.same hI.ln hI.nd hI.nm (by omega)
      have r2 := is_call hs h2 hL hJ.st hJ.r2 a3 a4 a5 hJ.same hJ.ln hJ.nd hJ.nm (by omega)
      have r3 := Turn_call h2 hI.st
      simp [DM_law23_StorePlays_3, h1, h5, h6, h7, h12, h13, h112, h113, h114, r1, r2, r3]
      exact hR3 _ _ _ rfl
theorem KV_cp {sm : SM} {es done : MEs} (hk : KV es = sA sm) (hn : (sKeys sm).Nodup) (hs : ∀ e ∈ done, e ∈ es) : KV done = sA (cpS sm done) := by
  simp only [KV, sA, cpS, List.map_map]
  apply List.map_congr_left
  intro e he
  have h1 : (keyB e.1, e.2.1) ∈ sA sm := by rw [← hk]; exact List.mem_map.2 ⟨e, hs e he, rfl⟩
  obtain ⟨⟨k, b⟩, hx, hxe⟩ := List.mem_map.1 h1
  simp only [Prod.mk.injEq] at hxe
  obtain ⟨rfl, h2⟩ := hxe
  have := (sFind_some_iff hn).2 hx
  simp only [Function.comp_apply, this, Option.getD_some, ← h2]
/-- How far the model's copy has come. -/
inductive CpmI (N : Nat → Nat) (y : AV) (p mm p2 nm turn : Nat) (H0 : Hp) (es : MEs) (clk it : Nat) (n : Nat) (ρ : Rho) (H : Hp) (its : Its) : Prop where
  | mk (done : MEs) (seen : List Nat) (last : Option (Value × AV × Nat)) (es' : MEs) (clk' : Nat) (hg : Gone es done seen) (h1 : ρ 1 = y) (h5 : ρ 5 = .ptr p 0) (h6 : ρ 6 = .map mm) (h7 : ρ 7 = avInt .i64 (turn : Nat)) (h12 : ρ 12 = .ptr p2 0) (h13 : ρ 13 = .map nm) (h103 : ρ 103 = .ptr it 0)
      (hl : its.lookup it = some ⟨mm, clk, seen, last⟩) (hm : Mut H0 H []) (hnm : hget H nm = some (.map es' clk')) (hsk : SKeys es') (hkv : KV es' = KV done) (hn : n = (leftL es seen).length)

theorem plays_tail1 (hs : StoreS Γ A N) (h2 : StoreS2 Γ A N) (hL : StoreL Γ A N)
    (hC : ∀ {H : Hp} {t : TypeId} {p m turn : Nat} {l : List (List UInt8 × AV)} {sm : SM}, St H t p m turn l → R2 H l sm → (sKeys sm).Nodup → (∀ x ∈ sm, x.2.length < 2 ^ 36) → C.run (f_p_store_Store_Copy N) [.ptr p 0] H (CopyOut N H turn sm))
    {y : AV} {es2 : List AV} (hy : Fzr 4 y es2) (hes2 : ∀ e ∈ es2, IsAct e) (hel2 : es2.length ≤ 60) {R : AV × Option Hp → Prop} (hR3 : ∀ v H H', v = avBool true → R (settle H v H'))
    {ρ : Rho} {H : Hp} {its : Its} {p m mm turn : Nat} {l : List (List UInt8 × AV)} {sm sm2 : SM} (h1 : ρ 1 = y) (h5 : ρ 5 = .ptr p 0) (h6 : ρ 6 = .map mm) (h7 : ρ 7 = avInt .i64 (turn : Nat))
    (hI : SInv2 (fun _ => False) H (t_store_Store N) p m mm turn l sm sm2) (ht : turn ≤ 60) (hsl : sm.length ≤ 60) :
    wpR C (lim Γ A) (DK_law23_StorePlays_1 N) ρ H its (EndsD [.inl 4] false { l := [], d := none } R) := by
  simp [DK_law23_StorePlays_1, h5]
  refine wpRO_call (hC (H := H) (p := p) hI.st hI.r2 hI.nd fun x hx => by have := (hI.nm x hx).2.1; omega) fun v g hv => ?_
  obtain ⟨G, p2, m2, l2, sm', e, c1, c2, c3, c4, c5, c6, c7, c8, c9⟩ := hv
  simp only [Prod.mk.injEq] at e
  obtain ⟨rfl, rfl⟩ := e
  have hltp := hget_lt hI.st.cell
  have hltm : m < H.l.length := by obtain ⟨_, _, c, _⟩ := hI.st.mp; exact hget_lt c
  have hltmm : mm < H.l.length := by obtain ⟨_, _, c, _⟩ := hI.mp; exact hget_lt c
  have hG := c3.len
  have hltp2 := hget_lt c1.cell
  have hltm2 : m2 < G.l.length := by obtain ⟨_, _, c, _⟩ := c1.mp; exact hget_lt c
  have hIG := hI.still c3
  obtain ⟨es, clk, b1, b2, b3⟩ := hIG.mp
  have hG1 : hget (halloc G (.map [] 0)) mm = some (.map es clk) := by rw [hget_halloc, if_neg (by omega)]; exact b1
  simp [h6, -halloc_d]
  refine wpRO_range rfl hG1 fun hok => ?_
  obtain ⟨H0, hH0⟩ : ∃ H0, H0 = hdead (halloc G (.map [] 0)) := ⟨_, rfl⟩
  have hM0 : Mut G H0 [] := by rw [hH0]; exact ((Mut.refl G []).alloc _).dead
  have hnm0 : hget H0 G.l.length = some (.map [] 0) := by rw [hH0]; exact (Mut.refl _ []).dead.get' (o := .map [] 0) (by simp) (by simp)
  rw [← hH0]
  simp [-halloc_d]
  refine wpR_round (n := es.length) (CpmI N y p mm p2 G.l.length turn G es clk (G.l.length + 1)) ?_ ?_
  · exact ⟨[], [], none, [], 0, Gone.nil es, h1, h5, h6, h7, rfl, rfl, rfl, by simp [List.lookup], hM0, hnm0, by simp [SKeys], rfl, by rw [leftL_nil]⟩
  · rintro n ρ H' its' ⟨done, seen, last, es', clk', hg, h1, h5, h6, h7, h12, h13, h103, hl, hm, hnm, hsk, hkv, rfl⟩
    have hmm : hget H' mm = some (.map es clk) := hm.get' b1 (by simp)
    simp [DL_law23_StorePlays_1]
    refine wpRO_next h103 hl hmm (fun h0 => ?_) (fun e he => ?_)
    · simp [-halloc_d]
      have hMG := hm
      have hk2 : (KV es).map Prod.fst = sKeys sm2 := by rw [b3, sA_keys]
      obtain ⟨z1, z2, z3, _⟩ := cpS_same hk2 hI.nd2 (hg.done h0)
      have hJ : SInv2 (fun _ => False) H' (t_store_Store N) p2 m2 G.l.length turn l2 sm' (cpS sm2 done) :=
        ⟨hMG.stSt c1, ⟨es', clk', hnm, hsk, hkv.trans (KV_cp b3 hI.nd2 fun e he => hg.sub he)⟩, c2.keep fun x b hx => vb_rows (W := []) (by simp) hMG hx, by omega, c6, z1, fun k => by rw [z2, hI.same, c7], by rw [z3, hI.ln, c8], fun x hx => hI.nm x (c9 x hx), fun _ _ _ _ _ _ h => h, fun _ h => h.elim⟩
      refine plays_tail2 hs h2 hL hy hes2 hel2 hR3 h1 h5 h6 h7 h12 h13 (hIG.still hMG) hJ (fun i hi => ?_) ht hsl (by omega)
      simp only [List.mem_cons, List.not_mem_nil, or_false] at hi
      rcases hi with rfl | rfl | rfl
      · exact ⟨by omega, by omega, by omega⟩
      · exact ⟨by omega, by omega, by omega⟩
      · exact ⟨by omega, by omega, by omega⟩
    · have hees := hg.mem he
      obtain ⟨s, hs1⟩ := b2 e hees
      obtain ⟨hg2, hlen⟩ := hg.step hok he
      have hfr := hg.fresh hok he
      obtain ⟨k, v, st⟩ := e
      simp only at hs1
      subst hs1
      simp
      refine wpRO_entry (id := G.l.length + 1) (I := ⟨mm, clk, seen ++ [st], some (.string s, v, st)⟩) (es := es) (e := (.string s, v, st)) (by simpa using h103) (by simp [List.lookup]) hmm rfl hees (by simp) ?_
      obtain ⟨es3, clk3, v1, v2, v3⟩ := aMapupd_str (s := s) (v := v) hnm hsk
      simp [h13, v1, -hset_d]
      have hlt1 := hget_lt hnm
      have hfrk : ∀ x ∈ KV es', x.1 ≠ bl s := by
        rw [hkv]
        intro x hx hxe
        obtain ⟨z, hz, rfl⟩ := List.mem_map.1 hx
        exact hfr z hz (keyB_inj b2 (hg.sub hz) hees hxe)
      refine ⟨_, ?_, ⟨done ++ [(.string s, v, st)], seen ++ [st], some (.string s, v, st), es3, clk3, hg2, h1, h5, h6, h7, h12, h13, h103, by simp [List.lookup], ?_, ?_, v2, ?_, rfl⟩⟩
      · have := hlen
        simp only at this
        omega
      · exact hm.set (.inr (Nat.le_refl _))
      · rw [hget_hset, if_pos rfl, if_pos hlt1]
      · rw [v3, vPut_new hfrk, KV_append, hkv]
        rfl

theorem law_StorePlays (hs : StoreS Γ A N) (h2 : StoreS2 Γ A N) (hL : StoreL Γ A N) (hlives : (lim Γ A).call (f_law23_lives N) [] { l := [], d := none } = some (avBool true, none))
    (hC : ∀ {H : Hp} {t : TypeId} {p m turn : Nat} {l : List (List UInt8 × AV)} {sm : SM}, St H t p m turn l → R2 H l sm → (sKeys sm).Nodup → (∀ x ∈ sm, x.2.length < 2 ^ 36) → C.run (f_p_store_Store_Copy N) [.ptr p 0] H (CopyOut N H turn sm))
    {x y : AV} {es es2 : List AV} (hx : Fzr 4 x es) (hes : ∀ e ∈ es, IsAct e) (hel : es.length < 2 ^ 63) (hy : Fzr 4 y es2) (hes2 : ∀ e ∈ es2, IsAct e) (hel2 : es2.length < 2 ^ 63) :
    DRunP C Γ A (D_law23_StorePlays N) [x, y] { l := [], d := none } fun r => r.1 = avBool true := by
  have hxl : asLen x = some es.length := by rcases hx with ⟨rfl, rfl⟩ | rfl <;> rfl
  have hyl : asLen y = some es2.length := by rcases hy with ⟨rfl, rfl⟩ | rfl <;> rfl
  obtain ⟨R, hR⟩ : ∃ R : AV × Option Hp → Prop, R = fun r => r.1 = avBool true := ⟨_, rfl⟩
  have hR3 : ∀ v H H', v = avBool true → R (settle H v H') := fun v H H' e => by rw [hR]; simpa using e
  have hR2 : ∀ v g, v = avBool true → R (v, g) := fun v g e => by rw [hR]; exact e
  rw [← hR]
  apply DRunP.of (by rfl)
  by_cases c1 : 60 < es.length
  · have c1' : (60 : Int) < es.length := by omega
    simp [D_law23_StorePlays, hlives, hxl, hyl, c1, c1']
    exact hR2 _ _ rfl
  have c1' : ¬ (60 : Int) < es.length := by omega
  by_cases c2 : 60 < es2.length
  · have c2' : (60 : Int) < es2.length := by omega
    simp [D_law23_StorePlays, hlives, hxl, hyl, c1, c1', c2, c2']
    exact hR2 _ _ rfl
  have c2' : ¬ (60 : Int) < es2.length := by omega
  obtain ⟨g, p, m, n1, n2, n3, n4, n5⟩ := New_call hs { l := [], d := none }
  simp [D_law23_StorePlays, hlives, hxl, hyl, c1, c1', c2, c2', n1, bindH_opt, -halloc_d, -hset_d]
  have s0 : SInv2 (fun _ => False) (halloc g (.map [] 0)) (t_store_Store N) p m g.l.length 0 [] [] [] := by
    have k1 := hget_lt n2.cell
    refine ⟨n2.alloc _, ⟨[], 0, by simp, by simp [SKeys], rfl⟩, R2.nil, ?_, by simp [sKeys], by simp [sKeys], fun _ => rfl, rfl, by simp, by simp [NX], fun _ h => h.elim⟩
    obtain ⟨_, _, c, _⟩ := n2.mp
    have := hget_lt c
    omega
  refine wp_round (n := es.length) (PlayI N x y es.length p m g.l.length) ?_ ?_
  · exact ⟨0, 0, [], [], [], rfl, rfl, rfl, rfl, rfl, rfl, rfl, rfl, by omega, s0, by omega, by simp, rfl⟩
  · rintro q ρ H' ⟨i, turn, l, sm, sm2, h0, h1, h5, h6, h7, h33, h34, h35, hi, hI, hti, hsi, rfl⟩
    by_cases hlt : i < es.length
    · have hlt' : (i : Int) < es.length := by omega
      have hg := List.getElem?_eq_getElem hlt
      obtain ⟨k, u, v, z, ty, e1, e2⟩ := hes _ (List.getElem_mem hlt)
      rw [e1] at hg
      have hzv : ∀ H, VBytes H z ty := fun H => e2.v
      have hzl : asLen z = some ty.length := by have := (hzv H').len; simpa using this
      have hzo : z.one = true := by rcases e2 with ⟨rfl, _⟩ | rfl <;> rfl
      have hxa : aiaddr 4 x (.lit (.int .i64 (i : Int))) = some (.vp [avInt .i64 k, avStr u, avStr v, z]) := by
        rcases hx with ⟨rfl, rfl⟩ | rfl
        · simp at hlt
        · exact aiaddr_sln hg (by simp [actV, hzo])
      have hw : IntKind.wrap .i64 ((i : Int) + 1) = ((i + 1 : Nat) : Int) := by rw [wrap64 (by omega) (by omega)]; omega
      by_cases d1 : 200 < ty.length
      · have d1' : (200 : Int) < ty.length := by omega
        simp [DM_law23_StorePlays_1, h0, h1, h5, h6, h7, h33, h34, h35, hlt', hxa, loadC, hzo, hzl, d1, d1']
        exact hR3 _ _ _ rfl
      have d1' : ¬ (200 : Int) < ty.length := by omega
      by_cases d2 : 50 < u.length
      · have d2' : (50 : Int) < u.length := by omega
        simp [DM_law23_StorePlays_1, h0, h1, h5, h6, h7, h33, h34, h35, hlt', hxa, loadC, hzo, hzl, d1, d1', d2, d2']
        exact hR3 _ _ _ rfl
      have d2' : ¬ (50 : Int) < u.length := by omega
      by_cases d3 : 50 < v.length
      · have d3' : (50 : Int) < v.length := by omega
        simp [DM_law23_StorePlays_1, h0, h1, h5, h6, h7, h33, h34, h35, hlt', hxa, loadC, hzo, hzl, d1, d1', d2, d2', d3, d3']
        exact hR3 _ _ _ rfl
      have d3' : ¬ (50 : Int) < v.length := by omega
      have hE := fun H => (hzv H).elems
      have ha : ∀ H : Hp, appendOn (halloc H (.arr 1 [] (t_uint8 N))) (t_uint8 N) 1 1 (.ra 1 H.l.length 0 0) (ty.map avByte) = some (.ra 1 (H.l.length + 1) 0 ty.length, some (halloc (hset (halloc H (.arr 1 [] (t_uint8 N))) H.l.length none) (.arr 1 (ty.map avByte) (t_uint8 N)))) := fun H => by
        have hr : ty.length ≤ roomMax := by unfold roomMax; omega
        have hq := appendOn_ra (H := halloc H (.arr 1 [] (t_uint8 N))) (e := t_uint8 N) (sz := 1) (bytes := 1) (id := H.l.length) (es := []) (ys := ty.map avByte) (by simp) (by simpa using hr) (by simp)
        simpa using hq
      obtain ⟨H1, hH1⟩ : ∃ H1, H1 = hset (halloc H' (.cells [.lit (.int .i64 0), .lit (.string (mkS [])), .lit (.string (mkS [])), .lit (.slice none 0 0)] (t_law23_Act N))) H'.l.length (some (.cells [avInt .i64 k, avStr u, avStr v, z] (t_law23_Act N))) := ⟨_, rfl⟩
      have hl1 : H1.l.length = H'.l.length + 1 := by rw [hH1]; simp
      have ha1 := ha H1
      rw [hl1] at ha1
      have M1 : Mut H' H1 [] := by rw [hH1]; exact ((Mut.refl H' []).alloc _).set (.inr (Nat.le_refl _))
      have hc1 : hget H1 H'.l.length = some (.cells [avInt .i64 k, avStr u, avStr v, z] (t_law23_Act N)) := by rw [hH1, hget_hset, if_pos rfl]; simp
      simp [DM_law23_StorePlays_1, h0, h1, h5, h6, h7, h33, h34, h35, hlt', hxa, loadC, hzo, hzl, d1, d1', d2, d2', d3, d3', fillA, repl, setFrom, chunk, hE, -hset_d, -halloc_d]
      rw [← hH1]
      obtain ⟨H2, hH2⟩ : ∃ H2, H2 = halloc (hset (halloc H1 (.arr 1 [] (t_uint8 N))) (H'.l.length + 1) none) (.arr 1 (ty.map avByte) (t_uint8 N)) := ⟨_, rfl⟩
      rw [← hH2] at ha1
      have M2 : Mut H' H2 [] := by rw [hH2]; exact (((M1.alloc _).set (.inr (by omega))).alloc _)
      have hc2 : hget H2 H'.l.length = some (.cells [avInt .i64 k, avStr u, avStr v, z] (t_law23_Act N)) := by
        rw [hH2, hget_halloc, if_neg (by simp [hl1]), hget_hset, if_neg (by omega), hget_halloc, if_neg (by omega)]
        exact hc1
      have ht2 : hget H2 (H'.l.length + 2) = some (.arr 1 (ty.map avByte) (t_uint8 N)) := by
        rw [hH2, hget_halloc, if_pos (by simp [hl1])]
      obtain ⟨H3, hH3⟩ : ∃ H3, H3 = hset H2 H'.l.length (some (.cells [avInt .i64 k, avStr u, avStr v, .ra 1 (H'.l.length + 1 + 1) 0 ty.length] (t_law23_Act N))) := ⟨_, rfl⟩
      have M3 : Mut H' H3 [] := by rw [hH3]; exact M2.set (.inr (Nat.le_refl _))
      have hc3 : hget H3 H'.l.length = some (.cells [avInt .i64 k, avStr u, avStr v, .ra 1 (H'.l.length + 1 + 1) 0 ty.length] (t_law23_Act N)) := by
        rw [hH3, hget_hset, if_pos rfl, if_pos (hget_lt hc2)]
      have ht3 : hget H3 (H'.l.length + 2) = some (.arr 1 (ty.map avByte) (t_uint8 N)) := by
        rw [hH3, hget_hset, if_neg (by omega)]; exact ht2
      have hI3 : SInv2 (fun j => j = H'.l.length + 2) H3 (t_store_Store N) p m g.l.length turn l sm sm2 := by
        refine (hI.still M3).weak (fun e he id off n e1 hX => ?_) (fun j hj => by rw [hj]; exact hget_lt ht3)
        have := hI.new e he id off n e1
        omega
      have hv3 : VBytes H3 (.ra 1 (H'.l.length + 1 + 1) 0 ty.length) ty := .inr ⟨H'.l.length + 2, 0, t_uint8 N, ty.map avByte, by simp, ht3, by simp, List.take_of_length_le (by simp)⟩
      have ta := Turn_call h2 hI3.st
      obtain ⟨gd, q1, l3, sm3, sm4, turn3, q2, q3, q4, q5, q6⟩ := do_call2 hs h2 hL hI3 (by omega) (by omega) (k := k) (by omega) (by omega) (by omega) hv3 (a := u) (b := v)
      unfold actV at q1
      simp [ha1, hc1, hc2, bindH_opt, -hset_d, -halloc_d]
      rw [← hH3]
      have hltp := hget_lt hI.st.cell
      have hltm : m < H'.l.length := by obtain ⟨_, _, c, _⟩ := hI.st.mp; exact hget_lt c
      have hltmm : g.l.length < H'.l.length := by obtain ⟨_, _, c, _⟩ := hI.mp; exact hget_lt c
      have hW : ∀ j, H'.l.length ≤ j → j ∉ [p, m, g.l.length] := fun j hj hm => by
        simp only [List.mem_cons, List.not_mem_nil, or_false] at hm
        omega
      have hcG := q3.get' hc3 (hW _ (Nat.le_refl _))
      have htG := q3.get' ht3 (hW _ (by omega))
      have hx2 : ∀ z : Int, ∃ z', abin .xor (.lit (.int .u8 z)) (.lit (.int .u8 255)) = some (.lit (.int .u8 z')) := fun z => ⟨_, rfl⟩
      simp [h0, h1, h5, h6, h7, h33, h34, h35, ta, hc3, loadC, q1, bindH_opt, -hset_d, -halloc_d]
      generalize hG : gd.getD H3 = G at *
      simp [hcG, -hset_d, -halloc_d]
      refine wp_round (n := ty.length) (XorI N x y es.length p m g.l.length i turn turn3 H'.l.length (H'.l.length + 2) ty.length G k u v) ?_ ?_
      · exact ⟨0, _, h0, h1, h5, h6, h7, rfl, rfl, h33, h34, h35, rfl, rfl, by omega, Mut.refl _ _, hcG, htG, by simp, fun e he => by obtain ⟨w, _, rfl⟩ := List.mem_map.1 he; exact ⟨_, rfl⟩, rfl⟩
      · rintro q ρ K ⟨j, bs, h0, h1, h5, h6, h7, h9, h10, h33, h34, h35, h69, h70, hj, hM, hc, ht, he, hz, rfl⟩
        by_cases hjl : j < ty.length
        · have hjl' : (j : Int) < ty.length := by omega
          have hjb : j < bs.length := by omega
          obtain ⟨w, hw2⟩ := hz bs[j] (List.getElem_mem hjb)
          obtain ⟨w', hx3⟩ := hx2 w
          have i1 : aiaddr 1 (.ra 1 (H'.l.length + 2) 0 ty.length) (avInt .i64 (j : Int)) = some (.ep (H'.l.length + 2) j 0) := by simp [aiaddr, hjl]
          have i2 : aload K none (.ep (H'.l.length + 2) j 0) = some (.lit (.int .u8 w)) := by
            simp [aload, ht, List.getElem?_eq_getElem hjb, hw2, loadC]
          have i3 : astore K 1 (.ep (H'.l.length + 2) j 0) (.lit (.int .u8 w')) = some (hset K (H'.l.length + 2) (some (.arr 1 (bs.set j (.lit (.int .u8 w'))) (t_uint8 N)))) := by
            simp [astore, ht, List.getElem?_eq_getElem hjb]
          have hwj : IntKind.wrap .i64 ((j : Int) + 1) = ((j + 1 : Nat) : Int) := by rw [wrap64 (by omega) (by omega)]; omega
          simp [DM_law23_StorePlays_2, h0, h1, h5, h6, h7, h9, h10, h33, h34, h35, h69, h70, hjl', hc, i1, i2, hx3, i3, hwj, -hset_d, -halloc_d, -Int.natCast_add]
          refine ⟨ty.length - (j + 1), by omega, ⟨j + 1, bs.set j (.lit (.int .u8 w')), h0, h1, h5, h6, h7, h9, h10, h33, h34, h35, h69, rfl, by omega, hM.set (.inl (by simp)), ?_, ?_, by simp [he], fun e he => ?_, rfl⟩⟩
          · rw [hget_hset, if_neg (by omega)]; exact hc
          · rw [hget_hset, if_pos rfl, if_pos (hget_lt ht)]
          · rcases List.mem_or_eq_of_mem_set he with h | h
            · exact hz e h
            · exact ⟨w', h⟩
        · have hj2 : j = ty.length := by omega
          subst hj2
          have hK : SInv2 (fun _ => False) K (t_store_Store N) p m g.l.length turn3 l3 sm3 sm4 := by
            refine (q2.frame (W := [H'.l.length + 2]) (fun j hj => ?_) hM).weak (fun _ _ _ _ _ _ h => h) (fun _ h => h.elim)
            rw [List.mem_singleton] at hj
            exact ⟨by omega, by omega, by omega, .inl hj⟩
          have tk := Turn_call h2 hK.st
          have w1 : IntKind.wrap .i64 ((turn3 : Int) - (turn : Int)) = (turn3 : Int) - turn := by rw [wrap64 (by omega) (by omega)]
          have w2 : IntKind.wrap .i64 ((turn : Int) + ((turn3 : Int) - (turn : Int))) = turn3 := by rw [wrap64 (by omega) (by omega)]; omega
          have w3 : ¬ (1 : Int) < (turn3 : Int) - turn := by omega
          have w4 : ¬ (turn3 : Int) < turn := by omega
          simp [DM_law23_StorePlays_2, h0, h1, h5, h6, h7, h9, h10, h33, h34, h35, h69, h70, tk, w1, w2, w3, w4, hw, -Int.natCast_add]
          exact ⟨es.length - (i + 1), by omega, ⟨i + 1, turn3, l3, sm3, sm4, h0, h1, h5, h6, rfl, h33, h34, rfl, by omega, hK, by omega, by omega, rfl⟩⟩
    · have hi2 : i = es.length := by omega
      subst hi2
      simp [DM_law23_StorePlays_1, h0, h1, h5, h6, h7, h33, h34, h35]
      exact plays_tail1 hs h2 hL hC hy hes2 (by omega) hR3 h1 h5 h6 h7 hI (by omega) (by omega)
end
end Go.Proofs.Eng
/- Templates of functions, as the engine takes them; numbers of functions and types by names. Printed by tm.py. -/
set_option linter.unusedVariables false
set_option maxRecDepth 100000
namespace Go.Proofs.Eng
open Go

/-- azimuth/azimuthref04.Name -/
def C_ref04_Name (N : Nat → Nat) : AFunc := ⟨10, [.inl 2],
 .seq (
  .ops [⟨(some 2), .mov (.c (.lit (.bool false))), none⟩]) (
 .seq (
  .ops [⟨(some 3), .mov (.t 0), none⟩, ⟨(some 4), .call (.c (.fn (f_ref04_Tag N) [] [])) [(.t 3)], none⟩, ⟨(some 5), .mov (.t 4), none⟩, ⟨(some 6), .mov (.t 0), (some (5, true))⟩, ⟨(some 7), .call (.c (.fn (f_ref03_IsWord N) [] [])) [(.t 6)], (some (5, true))⟩, ⟨(some 8), .un .not (.t 7), (some (5, true))⟩, ⟨(some 9), .pick (.t 5) (.t 8) (.c (.lit (.bool false))), none⟩, ⟨(some 2), .mov (.t 9), none⟩]) (
 .ret)), false⟩

def L_ref04_Tag_1 (N : Nat → Nat) : AC :=
    .seq (
     .seq (
      .ops [⟨(some 6), .mov (.t 3), none⟩, ⟨(some 7), .mov (.t 0), none⟩, ⟨(some 8), .lens (.t 7), none⟩, ⟨(some 9), .bin .lss (.t 6) (.t 8), none⟩]) (
     .cond (.t 9) (
      .skip) (
      .exit 0))) (
    .seq (
     .block 1 (
      .seq (
       .ops [⟨(some 12), .mov (.t 0), none⟩, ⟨(some 13), .mov (.t 3), none⟩, ⟨(some 14), .sidx (.t 12) (.t 13), none⟩, ⟨(some 4), .mov (.t 14), none⟩]) (
      .seq (
       .ops [⟨(some 15), .mov (.t 4), none⟩, ⟨(some 16), .bin .geq (.t 15) (.c (.lit (.int .u8 97))), none⟩, ⟨(some 17), .mov (.t 16), none⟩, ⟨(some 18), .mov (.t 4), (some (17, true))⟩, ⟨(some 19), .bin .leq (.t 18) (.c (.lit (.int .u8 122))), (some (17, true))⟩, ⟨(some 20), .pick (.t 17) (.t 19) (.c (.lit (.bool false))), none⟩, ⟨(some 21), .mov (.t 20), none⟩, ⟨(some 22), .mov (.t 4), (some (21, false))⟩, ⟨(some 23), .eq false .pint (.t 22) (.c (.lit (.int .u8 95))), (some (21, false))⟩, ⟨(some 24), .pick (.t 21) (.c (.lit (.bool true))) (.t 23), none⟩, ⟨(some 5), .mov (.t 24), none⟩]) (
      .seq (
       .ops [⟨(some 25), .mov (.t 5), none⟩, ⟨(some 26), .un .not (.t 25), none⟩, ⟨(some 27), .mov (.t 26), none⟩, ⟨(some 28), .mov (.t 3), (some (27, true))⟩, ⟨(some 29), .eq false .pint (.t 28) (.c (.lit (.int .i64 0))), (some (27, true))⟩, ⟨(some 30), .mov (.t 29), (some (27, true))⟩, ⟨(some 31), .mov (.t 4), (some (30, false))⟩, ⟨(some 32), .bin .lss (.t 31) (.c (.lit (.int .u8 48))), (some (30, false))⟩, ⟨(some 33), .pick (.t 30) (.c (.lit (.bool true))) (.t 32), (some (27, true))⟩, ⟨(some 34), .mov (.t 33), (some (27, true))⟩, ⟨(some 35), .mov (.t 4), (some (34, false))⟩, ⟨(some 36), .bin .gtr (.t 35) (.c (.lit (.int .u8 57))), (some (34, false))⟩, ⟨(some 37), .pick (.t 34) (.c (.lit (.bool true))) (.t 36), (some (27, true))⟩, ⟨(some 38), .pick (.t 27) (.t 37) (.c (.lit (.bool false))), none⟩]) (
      .cond (.t 38) (
       .seq (
        .ops [⟨(some 2), .mov (.c (.lit (.bool false))), none⟩]) (
       .ret)) (
       .skip)))))) (
    .ops [⟨(some 10), .mov (.t 3), none⟩, ⟨(some 11), .bin .add (.t 10) (.c (.lit (.int .i64 1))), none⟩, ⟨(some 3), .mov (.t 11), none⟩]))
def K_ref04_Tag_1 (N : Nat → Nat) : AC :=
 .seq (
  .ops [⟨(some 39), .mov (.t 0), none⟩, ⟨(some 40), .eq true .pstr (.t 39) (.c (.lit (.string (mkS [])))), none⟩, ⟨(some 2), .mov (.t 40), none⟩]) (
 .ret)
/-- azimuth/azimuthref04.Tag -/
def C_ref04_Tag (N : Nat → Nat) : AFunc := ⟨41, [.inl 2],
 .seq (
  .ops [⟨(some 2), .mov (.c (.lit (.bool false))), none⟩]) (
 .seq (
  .seq (
   .ops [⟨(some 3), .mov (.c (.lit (.int .i64 0))), none⟩]) (
  .block 0 (
   .loop (L_ref04_Tag_1 N)))) (K_ref04_Tag_1 N)), false⟩
end Go.Proofs.Eng
/- Templates of functions, as the engine takes them; numbers of functions and types by names. Printed by tm.py. -/
set_option linter.unusedVariables false
set_option maxRecDepth 100000
namespace Go.Proofs.Eng
open Go

def L_ref03_IsWord_1 (N : Nat → Nat) : AC :=
    .seq (
     .seq (
      .ops [⟨(some 7), .mov (.t 3), none⟩, ⟨(some 8), .mov (.t 0), none⟩, ⟨(some 9), .lens (.t 8), none⟩, ⟨(some 10), .bin .lss (.t 7) (.t 9), none⟩]) (
     .cond (.t 10) (
      .skip) (
      .exit 0))) (
    .seq (
     .block 1 (
      .seq (
       .ops [⟨(some 13), .mov (.t 0), none⟩, ⟨(some 14), .mov (.t 3), none⟩, ⟨(some 15), .sidx (.t 13) (.t 14), none⟩, ⟨(some 16), .bin .lss (.t 15) (.c (.lit (.int .u8 97))), none⟩, ⟨(some 17), .mov (.t 16), none⟩, ⟨(some 18), .mov (.t 0), (some (17, false))⟩, ⟨(some 19), .mov (.t 3), (some (17, false))⟩, ⟨(some 20), .sidx (.t 18) (.t 19), (some (17, false))⟩, ⟨(some 21), .bin .gtr (.t 20) (.c (.lit (.int .u8 122))), (some (17, false))⟩, ⟨(some 22), .pick (.t 17) (.c (.lit (.bool true))) (.t 21), none⟩]) (
      .cond (.t 22) (
       .seq (
        .ops [⟨(some 2), .mov (.c (.lit (.bool false))), none⟩]) (
       .ret)) (
       .skip)))) (
    .ops [⟨(some 11), .mov (.t 3), none⟩, ⟨(some 12), .bin .add (.t 11) (.c (.lit (.int .i64 1))), none⟩, ⟨(some 3), .mov (.t 12), none⟩]))
def L_ref03_IsWord_2 (N : Nat → Nat) : AC :=
    .seq (
     .seq (
      .ops [⟨(some 23), .mov (.t 4), none⟩, ⟨(some 24), .mov (.t 0), none⟩, ⟨(some 25), .lens (.t 24), none⟩, ⟨(some 26), .bin .add (.t 23) (.t 25), none⟩, ⟨(some 27), .bin .add (.t 26) (.c (.lit (.int .i64 2))), none⟩, ⟨(some 28), .bin .leq (.t 27) (.c (.lit (.int .i64 89))), none⟩]) (
     .cond (.t 28) (
      .skip) (
      .exit 2))) (
    .seq (
     .block 3 (
      .seq (
       .ops [⟨(some 31), .mov (.t 4), none⟩, ⟨(some 32), .mov (.t 4), none⟩, ⟨(some 33), .mov (.t 0), none⟩, ⟨(some 34), .lens (.t 33), none⟩, ⟨(some 35), .bin .add (.t 32) (.t 34), none⟩, ⟨(some 36), .bin .add (.t 35) (.c (.lit (.int .i64 2))), none⟩, ⟨(some 37), .slstr (.c (.lit (.string (mkS [32, 102, 117, 110, 32, 108, 101, 116, 32, 114, 101, 99, 32, 105, 110, 32, 105, 102, 32, 116, 104, 101, 110, 32, 101, 108, 115, 101, 32, 99, 97, 115, 101, 32, 111, 102, 32, 101, 110, 100, 32, 116, 114, 117, 101, 32, 102, 97, 108, 115, 101, 32, 105, 110, 116, 32, 98, 111, 111, 108, 32, 115, 116, 114, 32, 102, 108, 111, 97, 116, 32, 100, 121, 110, 32, 97, 110, 121, 32, 110, 111, 110, 101, 32, 116, 121, 112, 101, 32])))) (some (.t 31)) (some (.t 36)), none⟩, ⟨(some 38), .mov (.t 0), none⟩, ⟨(some 39), .bin .add (.c (.lit (.string (mkS [32])))) (.t 38), none⟩, ⟨(some 40), .bin .add (.t 39) (.c (.lit (.string (mkS [32])))), none⟩, ⟨(some 41), .eq false .pstr (.t 37) (.t 40), none⟩]) (
      .cond (.t 41) (
       .seq (
        .ops [⟨(some 2), .mov (.c (.lit (.bool true))), none⟩]) (
       .ret)) (
       .skip)))) (
    .ops [⟨(some 29), .mov (.t 4), none⟩, ⟨(some 30), .bin .add (.t 29) (.c (.lit (.int .i64 1))), none⟩, ⟨(some 4), .mov (.t 30), none⟩]))
def K_ref03_IsWord_2 (N : Nat → Nat) : AC :=
 .seq (
  .ops [⟨(some 2), .mov (.c (.lit (.bool false))), none⟩]) (
 .ret)
def K_ref03_IsWord_1 (N : Nat → Nat) : AC :=
 .seq (
  .seq (
   .ops [⟨(some 4), .mov (.c (.lit (.int .i64 0))), none⟩]) (
  .block 2 (
   .loop (L_ref03_IsWord_2 N)))) (K_ref03_IsWord_2 N)
/-- azimuth/azimuthref03.IsWord -/
def C_ref03_IsWord (N : Nat → Nat) : AFunc := ⟨42, [.inl 2],
 .seq (
  .ops [⟨(some 2), .mov (.c (.lit (.bool false))), none⟩]) (
 .seq (
  .seq (
   .ops [⟨(some 5), .mov (.t 0), none⟩, ⟨(some 6), .eq false .pstr (.t 5) (.c (.lit (.string (mkS [])))), none⟩]) (
  .cond (.t 6) (
   .seq (
    .ops [⟨(some 2), .mov (.c (.lit (.bool false))), none⟩]) (
   .ret)) (
   .skip))) (
 .seq (
  .seq (
   .ops [⟨(some 3), .mov (.c (.lit (.int .i64 0))), none⟩]) (
  .block 0 (
   .loop (L_ref03_IsWord_1 N)))) (K_ref03_IsWord_1 N))), false⟩

def L_ref03_Lex_2 (N : Nat → Nat) : AC :=
          .seq (
           .seq (
            .ops [⟨(some 80), .mov (.t 8), none⟩, ⟨(some 81), .mov (.t 0), none⟩, ⟨(some 82), .len (.t 81), none⟩, ⟨(some 83), .bin .lss (.t 80) (.t 82), none⟩, ⟨(some 84), .mov (.t 83), none⟩, ⟨(some 85), .mov (.t 0), (some (84, true))⟩, ⟨(some 86), .mov (.t 8), (some (84, true))⟩, ⟨(some 87), .iaddr 1 (.t 85) (.t 86), (some (84, true))⟩, ⟨(some 88), .load none (.t 87), (some (84, true))⟩, ⟨(some 89), .eq true .pint (.t 88) (.c (.lit (.int .u8 10))), (some (84, true))⟩, ⟨(some 90), .pick (.t 84) (.t 89) (.c (.lit (.bool false))), none⟩]) (
           .cond (.t 90) (
            .skip) (
            .exit 2))) (
          .block 3 (
           .ops [⟨(some 91), .mov (.t 8), none⟩, ⟨(some 92), .bin .add (.t 91) (.c (.lit (.int .i64 1))), none⟩, ⟨(some 8), .mov (.t 92), none⟩]))
def K_ref03_Lex_1 (N : Nat → Nat) : AC :=
 .exit 1
def K_ref03_Lex_2 (N : Nat → Nat) : AC :=
 .seq (
  .ops [⟨(some 94), .mov (.t 0), none⟩, ⟨(some 95), .mov (.t 8), none⟩, ⟨(some 96), .call (.c (.fn (f_ref03_one N) [] [])) [(.t 94), (.t 95)], none⟩, ⟨(some 93), .mov (.t 96), none⟩, ⟨(some 97), .extract (.t 93) 0, none⟩, ⟨(some 98), .extract (.t 93) 1, none⟩, ⟨(some 9), .new (t_api_Token N) (.agg [(.lit (.int .i64 0)), (.lit (.string (mkS []))), (.lit (.int .i64 0))]), none⟩, ⟨none, .store 3 (.t 9) (.t 97), none⟩, ⟨(some 10), .mov (.t 98), none⟩]) (
 .seq (
  .seq (
   .ops [⟨(some 99), .mov (.t 10), none⟩, ⟨(some 100), .eq false .pint (.t 99) (.c (.lit (.int .i64 0))), none⟩]) (
  .cond (.t 100) (
   .seq (
    .ops [⟨(some 101), .mov (.t 8), none⟩, ⟨(some 102), .build [(.lit (.int .i64 0)), (.lit (.int .i64 0)), (.lit (.string (mkS [])))] [(0, 1, (.c (.lit (.int .i64 3)))), (1, 1, (.t 101))], none⟩, ⟨(some 2), .mov (.c (.lit (.slice none 0 0))), none⟩, ⟨none, .store 3 (.t 3) (.t 102), none⟩]) (
   .ret)) (
   .skip))) (
 .seq (
  .ops [⟨(some 103), .mov (.t 8), none⟩, ⟨(some 104), .faddr 2 (.t 9), none⟩, ⟨none, .store 1 (.t 104) (.t 103), none⟩]) (
 .seq (
  .ops [⟨(some 105), .mov (.t 7), none⟩, ⟨(some 106), .load (some 3) (.t 9), none⟩, ⟨(some 107), .bslice (t_api_Token N) 3 (some 3) 1 [(.lit (.int .i64 0)), (.lit (.string (mkS []))), (.lit (.int .i64 0))] [(0, 3, (.t 106))], none⟩, ⟨(some 108), .append (t_api_Token N) 3 32 (.t 105) (.t 107), none⟩, ⟨(some 7), .mov (.t 108), none⟩]) (
 .ops [⟨(some 109), .mov (.t 8), none⟩, ⟨(some 110), .mov (.t 10), none⟩, ⟨(some 111), .bin .add (.t 109) (.t 110), none⟩, ⟨(some 8), .mov (.t 111), none⟩]))))
def L_ref03_Lex_1 (N : Nat → Nat) : AC :=
    .seq (
     .seq (
      .ops [⟨(some 28), .mov (.t 8), none⟩, ⟨(some 29), .mov (.t 0), none⟩, ⟨(some 30), .len (.t 29), none⟩, ⟨(some 31), .bin .lss (.t 28) (.t 30), none⟩]) (
     .cond (.t 31) (
      .skip) (
      .exit 0))) (
    .block 1 (
     .seq (
      .seq (
       .ops [⟨(some 32), .mov (.t 0), none⟩, ⟨(some 33), .mov (.t 8), none⟩, ⟨(some 34), .iaddr 1 (.t 32) (.t 33), none⟩, ⟨(some 35), .load none (.t 34), none⟩, ⟨(some 36), .eq false .pint (.t 35) (.c (.lit (.int .u8 32))), none⟩, ⟨(some 37), .mov (.t 36), none⟩, ⟨(some 38), .mov (.t 0), (some (37, false))⟩, ⟨(some 39), .mov (.t 8), (some (37, false))⟩, ⟨(some 40), .iaddr 1 (.t 38) (.t 39), (some (37, false))⟩, ⟨(some 41), .load none (.t 40), (some (37, false))⟩, ⟨(some 42), .eq false .pint (.t 41) (.c (.lit (.int .u8 9))), (some (37, false))⟩, ⟨(some 43), .pick (.t 37) (.c (.lit (.bool true))) (.t 42), none⟩, ⟨(some 44), .mov (.t 43), none⟩, ⟨(some 45), .mov (.t 0), (some (44, false))⟩, ⟨(some 46), .mov (.t 8), (some (44, false))⟩, ⟨(some 47), .iaddr 1 (.t 45) (.t 46), (some (44, false))⟩, ⟨(some 48), .load none (.t 47), (some (44, false))⟩, ⟨(some 49), .eq false .pint (.t 48) (.c (.lit (.int .u8 10))), (some (44, false))⟩, ⟨(some 50), .pick (.t 44) (.c (.lit (.bool true))) (.t 49), none⟩, ⟨(some 51), .mov (.t 50), none⟩, ⟨(some 52), .mov (.t 0), (some (51, false))⟩, ⟨(some 53), .mov (.t 8), (some (51, false))⟩, ⟨(some 54), .iaddr 1 (.t 52) (.t 53), (some (51, false))⟩, ⟨(some 55), .load none (.t 54), (some (51, false))⟩, ⟨(some 56), .eq false .pint (.t 55) (.c (.lit (.int .u8 13))), (some (51, false))⟩, ⟨(some 57), .pick (.t 51) (.c (.lit (.bool true))) (.t 56), none⟩]) (
      .cond (.t 57) (
       .seq (
        .ops [⟨(some 58), .mov (.t 8), none⟩, ⟨(some 59), .bin .add (.t 58) (.c (.lit (.int .i64 1))), none⟩, ⟨(some 8), .mov (.t 59), none⟩]) (
       .exit 1)) (
       .skip))) (
     .seq (
      .seq (
       .ops [⟨(some 60), .mov (.t 0), none⟩, ⟨(some 61), .mov (.t 8), none⟩, ⟨(some 62), .iaddr 1 (.t 60) (.t 61), none⟩, ⟨(some 63), .load none (.t 62), none⟩, ⟨(some 64), .eq false .pint (.t 63) (.c (.lit (.int .u8 47))), none⟩, ⟨(some 65), .mov (.t 64), none⟩, ⟨(some 66), .mov (.t 8), (some (65, true))⟩, ⟨(some 67), .bin .add (.t 66) (.c (.lit (.int .i64 1))), (some (65, true))⟩, ⟨(some 68), .mov (.t 0), (some (65, true))⟩, ⟨(some 69), .len (.t 68), (some (65, true))⟩, ⟨(some 70), .bin .lss (.t 67) (.t 69), (some (65, true))⟩, ⟨(some 71), .pick (.t 65) (.t 70) (.c (.lit (.bool false))), none⟩, ⟨(some 72), .mov (.t 71), none⟩, ⟨(some 73), .mov (.t 0), (some (72, true))⟩, ⟨(some 74), .mov (.t 8), (some (72, true))⟩, ⟨(some 75), .bin .add (.t 74) (.c (.lit (.int .i64 1))), (some (72, true))⟩, ⟨(some 76), .iaddr 1 (.t 73) (.t 75), (some (72, true))⟩, ⟨(some 77), .load none (.t 76), (some (72, true))⟩, ⟨(some 78), .eq false .pint (.t 77) (.c (.lit (.int .u8 47))), (some (72, true))⟩, ⟨(some 79), .pick (.t 72) (.t 78) (.c (.lit (.bool false))), none⟩]) (
      .cond (.t 79) (
       .seq (
        .block 2 (
         .loop (L_ref03_Lex_2 N))) (K_ref03_Lex_1 N)) (
       .skip))) (K_ref03_Lex_2 N))))
def K_ref03_Lex_3 (N : Nat → Nat) : AC :=
 .seq (
  .ops [⟨(some 112), .mov (.t 7), none⟩, ⟨(some 113), .mov (.t 8), none⟩, ⟨(some 114), .build [(.lit (.int .i64 0)), (.lit (.string (mkS []))), (.lit (.int .i64 0))] [(0, 1, (.c (.lit (.int .i64 0)))), (2, 1, (.t 113))], none⟩, ⟨(some 115), .bslice (t_api_Token N) 3 (some 3) 1 [(.lit (.int .i64 0)), (.lit (.string (mkS []))), (.lit (.int .i64 0))] [(0, 3, (.t 114))], none⟩, ⟨(some 116), .append (t_api_Token N) 3 32 (.t 112) (.t 115), none⟩, ⟨(some 117), .build [(.lit (.int .i64 0)), (.lit (.int .i64 0)), (.lit (.string (mkS [])))] [], none⟩, ⟨(some 2), .mov (.t 116), none⟩, ⟨none, .store 3 (.t 3) (.t 117), none⟩]) (
 .ret)
/-- azimuth/azimuthref03.Lex -/
def C_ref03_Lex (N : Nat → Nat) : AFunc := ⟨118, [.inl 2, .inr (3, (some 3))],
 .seq (
  .ops [⟨(some 2), .mov (.c (.lit (.slice none 0 0))), none⟩, ⟨(some 3), .new (t_api_Diag N) (.agg [(.lit (.int .i64 0)), (.lit (.int .i64 0)), (.lit (.string (mkS [])))]), none⟩]) (
 .seq (
  .seq (
   .ops [⟨(some 11), .mov (.t 0), none⟩, ⟨(some 12), .len (.t 11), none⟩, ⟨(some 13), .bin .gtr (.t 12) (.c (.lit (.int .i64 1048576))), none⟩]) (
  .cond (.t 13) (
   .seq (
    .ops [⟨(some 14), .build [(.lit (.int .i64 0)), (.lit (.int .i64 0)), (.lit (.string (mkS [])))] [(0, 1, (.c (.lit (.int .i64 6))))], none⟩, ⟨(some 2), .mov (.c (.lit (.slice none 0 0))), none⟩, ⟨none, .store 3 (.t 3) (.t 14), none⟩]) (
   .ret)) (
   .skip))) (
 .seq (
  .ops [⟨(some 16), .mov (.t 0), none⟩, ⟨(some 17), .call (.c (.fn (f_ref01_Signs N) [] [])) [(.t 16)], none⟩, ⟨(some 15), .mov (.t 17), none⟩, ⟨(some 18), .extract (.t 15) 0, none⟩, ⟨(some 19), .extract (.t 15) 1, none⟩, ⟨(some 20), .extract (.t 15) 2, none⟩, ⟨(some 4), .mov (.t 18), none⟩, ⟨(some 5), .mov (.t 19), none⟩, ⟨(some 6), .mov (.t 20), none⟩]) (
 .seq (
  .seq (
   .ops [⟨(some 21), .mov (.t 6), none⟩, ⟨(some 22), .mov (.t 0), none⟩, ⟨(some 23), .len (.t 22), none⟩, ⟨(some 24), .bin .lss (.t 21) (.t 23), none⟩]) (
  .cond (.t 24) (
   .seq (
    .ops [⟨(some 25), .mov (.t 6), none⟩, ⟨(some 26), .build [(.lit (.int .i64 0)), (.lit (.int .i64 0)), (.lit (.string (mkS [])))] [(0, 1, (.c (.lit (.int .i64 2)))), (1, 1, (.t 25))], none⟩, ⟨(some 2), .mov (.c (.lit (.slice none 0 0))), none⟩, ⟨none, .store 3 (.t 3) (.t 26), none⟩]) (
   .ret)) (
   .skip))) (
 .seq (
  .ops [⟨(some 27), .bslice (t_api_Token N) 3 (some 3) 0 [(.lit (.int .i64 0)), (.lit (.string (mkS []))), (.lit (.int .i64 0))] [], none⟩, ⟨(some 7), .mov (.t 27), none⟩]) (
 .seq (
  .ops [⟨(some 8), .mov (.c (.lit (.int .i64 0))), none⟩]) (
 .seq (
  .block 0 (
   .loop (L_ref03_Lex_1 N))) (K_ref03_Lex_3 N))))))), true⟩

/-- azimuth/azimuthref03.digit -/
def C_ref03_digit (N : Nat → Nat) : AFunc := ⟨9, [.inl 2],
 .seq (
  .ops [⟨(some 2), .mov (.c (.lit (.bool false))), none⟩]) (
 .seq (
  .ops [⟨(some 3), .mov (.t 0), none⟩, ⟨(some 4), .bin .geq (.t 3) (.c (.lit (.int .u8 48))), none⟩, ⟨(some 5), .mov (.t 4), none⟩, ⟨(some 6), .mov (.t 0), (some (5, true))⟩, ⟨(some 7), .bin .leq (.t 6) (.c (.lit (.int .u8 57))), (some (5, true))⟩, ⟨(some 8), .pick (.t 5) (.t 7) (.c (.lit (.bool false))), none⟩, ⟨(some 2), .mov (.t 8), none⟩]) (
 .ret)), false⟩

/-- azimuth/azimuthref03.hex -/
def C_ref03_hex (N : Nat → Nat) : AFunc := ⟨13, [.inl 2],
 .seq (
  .ops [⟨(some 2), .mov (.c (.lit (.bool false))), none⟩]) (
 .seq (
  .ops [⟨(some 3), .mov (.t 0), none⟩, ⟨(some 4), .call (.c (.fn (f_ref03_digit N) [] [])) [(.t 3)], none⟩, ⟨(some 5), .mov (.t 4), none⟩, ⟨(some 6), .mov (.t 0), (some (5, false))⟩, ⟨(some 7), .bin .geq (.t 6) (.c (.lit (.int .u8 97))), (some (5, false))⟩, ⟨(some 8), .mov (.t 7), (some (5, false))⟩, ⟨(some 9), .mov (.t 0), (some (8, true))⟩, ⟨(some 10), .bin .leq (.t 9) (.c (.lit (.int .u8 102))), (some (8, true))⟩, ⟨(some 11), .pick (.t 8) (.t 10) (.c (.lit (.bool false))), (some (5, false))⟩, ⟨(some 12), .pick (.t 5) (.c (.lit (.bool true))) (.t 11), none⟩, ⟨(some 2), .mov (.t 12), none⟩]) (
 .ret)), false⟩

/-- azimuth/azimuthref03.high -/
def C_ref03_high (N : Nat → Nat) : AFunc := ⟨9, [.inl 2],
 .seq (
  .ops [⟨(some 2), .mov (.c (.lit (.bool false))), none⟩]) (
 .seq (
  .ops [⟨(some 3), .mov (.t 0), none⟩, ⟨(some 4), .bin .geq (.t 3) (.c (.lit (.int .u8 65))), none⟩, ⟨(some 5), .mov (.t 4), none⟩, ⟨(some 6), .mov (.t 0), (some (5, true))⟩, ⟨(some 7), .bin .leq (.t 6) (.c (.lit (.int .u8 90))), (some (5, true))⟩, ⟨(some 8), .pick (.t 5) (.t 7) (.c (.lit (.bool false))), none⟩, ⟨(some 2), .mov (.t 8), none⟩]) (
 .ret)), false⟩

/-- azimuth/azimuthref03.low -/
def C_ref03_low (N : Nat → Nat) : AFunc := ⟨13, [.inl 2],
 .seq (
  .ops [⟨(some 2), .mov (.c (.lit (.bool false))), none⟩]) (
 .seq (
  .ops [⟨(some 3), .mov (.t 0), none⟩, ⟨(some 4), .bin .geq (.t 3) (.c (.lit (.int .u8 97))), none⟩, ⟨(some 5), .mov (.t 4), none⟩, ⟨(some 6), .mov (.t 0), (some (5, true))⟩, ⟨(some 7), .bin .leq (.t 6) (.c (.lit (.int .u8 122))), (some (5, true))⟩, ⟨(some 8), .pick (.t 5) (.t 7) (.c (.lit (.bool false))), none⟩, ⟨(some 9), .mov (.t 8), none⟩, ⟨(some 10), .mov (.t 0), (some (9, false))⟩, ⟨(some 11), .eq false .pint (.t 10) (.c (.lit (.int .u8 95))), (some (9, false))⟩, ⟨(some 12), .pick (.t 9) (.c (.lit (.bool true))) (.t 11), none⟩, ⟨(some 2), .mov (.t 12), none⟩]) (
 .ret)), false⟩

def L_ref03_name_1 (N : Nat → Nat) : AC :=
    .seq (
     .seq (
      .ops [⟨(some 18), .mov (.t 1), none⟩, ⟨(some 19), .mov (.t 5), none⟩, ⟨(some 20), .bin .add (.t 18) (.t 19), none⟩, ⟨(some 21), .mov (.t 0), none⟩, ⟨(some 22), .len (.t 21), none⟩, ⟨(some 23), .bin .lss (.t 20) (.t 22), none⟩, ⟨(some 24), .mov (.t 23), none⟩, ⟨(some 25), .mov (.t 0), (some (24, true))⟩, ⟨(some 26), .mov (.t 1), (some (24, true))⟩, ⟨(some 27), .mov (.t 5), (some (24, true))⟩, ⟨(some 28), .bin .add (.t 26) (.t 27), (some (24, true))⟩, ⟨(some 29), .iaddr 1 (.t 25) (.t 28), (some (24, true))⟩, ⟨(some 30), .load none (.t 29), (some (24, true))⟩, ⟨(some 31), .call (.c (.fn (f_ref03_low N) [] [])) [(.t 30)], (some (24, true))⟩, ⟨(some 32), .mov (.t 31), (some (24, true))⟩, ⟨(some 33), .mov (.t 0), (some (32, false))⟩, ⟨(some 34), .mov (.t 1), (some (32, false))⟩, ⟨(some 35), .mov (.t 5), (some (32, false))⟩, ⟨(some 36), .bin .add (.t 34) (.t 35), (some (32, false))⟩, ⟨(some 37), .iaddr 1 (.t 33) (.t 36), (some (32, false))⟩, ⟨(some 38), .load none (.t 37), (some (32, false))⟩, ⟨(some 39), .call (.c (.fn (f_ref03_digit N) [] [])) [(.t 38)], (some (32, false))⟩, ⟨(some 40), .pick (.t 32) (.c (.lit (.bool true))) (.t 39), (some (24, true))⟩, ⟨(some 41), .pick (.t 24) (.t 40) (.c (.lit (.bool false))), none⟩]) (
     .cond (.t 41) (
      .skip) (
      .exit 0))) (
    .block 1 (
     .ops [⟨(some 42), .mov (.t 5), none⟩, ⟨(some 43), .bin .add (.t 42) (.c (.lit (.int .i64 1))), none⟩, ⟨(some 5), .mov (.t 43), none⟩]))
def K_ref03_name_1 (N : Nat → Nat) : AC :=
 .seq (
  .ops [⟨(some 44), .mov (.t 5), none⟩, ⟨(some 4), .mov (.t 44), none⟩]) (
 .ret)
/-- azimuth/azimuthref03.name -/
def C_ref03_name (N : Nat → Nat) : AFunc := ⟨45, [.inl 4],
 .seq (
  .ops [⟨(some 4), .mov (.c (.lit (.int .i64 0))), none⟩]) (
 .seq (
  .seq (
   .ops [⟨(some 6), .mov (.t 1), none⟩, ⟨(some 7), .mov (.t 0), none⟩, ⟨(some 8), .len (.t 7), none⟩, ⟨(some 9), .bin .geq (.t 6) (.t 8), none⟩, ⟨(some 10), .mov (.t 9), none⟩, ⟨(some 11), .mov (.t 0), (some (10, false))⟩, ⟨(some 12), .mov (.t 1), (some (10, false))⟩, ⟨(some 13), .iaddr 1 (.t 11) (.t 12), (some (10, false))⟩, ⟨(some 14), .load none (.t 13), (some (10, false))⟩, ⟨(some 15), .call (.c (.fn (f_ref03_low N) [] [])) [(.t 14)], (some (10, false))⟩, ⟨(some 16), .un .not (.t 15), (some (10, false))⟩, ⟨(some 17), .pick (.t 10) (.c (.lit (.bool true))) (.t 16), none⟩]) (
  .cond (.t 17) (
   .seq (
    .ops [⟨(some 4), .mov (.c (.lit (.int .i64 0))), none⟩]) (
   .ret)) (
   .skip))) (
 .seq (
  .ops [⟨(some 5), .mov (.c (.lit (.int .i64 1))), none⟩]) (
 .seq (
  .block 0 (
   .loop (L_ref03_name_1 N))) (K_ref03_name_1 N)))), false⟩

def L_ref03_number_1 (N : Nat → Nat) : AC :=
    .seq (
     .seq (
      .ops [⟨(some 10), .mov (.t 1), none⟩, ⟨(some 11), .mov (.t 6), none⟩, ⟨(some 12), .bin .add (.t 10) (.t 11), none⟩, ⟨(some 13), .mov (.t 0), none⟩, ⟨(some 14), .len (.t 13), none⟩, ⟨(some 15), .bin .lss (.t 12) (.t 14), none⟩, ⟨(some 16), .mov (.t 15), none⟩, ⟨(some 17), .mov (.t 0), (some (16, true))⟩, ⟨(some 18), .mov (.t 1), (some (16, true))⟩, ⟨(some 19), .mov (.t 6), (some (16, true))⟩, ⟨(some 20), .bin .add (.t 18) (.t 19), (some (16, true))⟩, ⟨(some 21), .iaddr 1 (.t 17) (.t 20), (some (16, true))⟩, ⟨(some 22), .load none (.t 21), (some (16, true))⟩, ⟨(some 23), .call (.c (.fn (f_ref03_digit N) [] [])) [(.t 22)], (some (16, true))⟩, ⟨(some 24), .pick (.t 16) (.t 23) (.c (.lit (.bool false))), none⟩]) (
     .cond (.t 24) (
      .skip) (
      .exit 0))) (
    .block 1 (
     .seq (
      .ops [⟨(some 25), .mov (.t 0), none⟩, ⟨(some 26), .mov (.t 1), none⟩, ⟨(some 27), .mov (.t 6), none⟩, ⟨(some 28), .bin .add (.t 26) (.t 27), none⟩, ⟨(some 29), .iaddr 1 (.t 25) (.t 28), none⟩, ⟨(some 30), .load none (.t 29), none⟩, ⟨(some 31), .bin .sub (.t 30) (.c (.lit (.int .u8 48))), none⟩, ⟨(some 32), .conv (.toInt .u64) (.t 31), none⟩, ⟨(some 9), .mov (.t 32), none⟩]) (
     .seq (
      .seq (
       .ops [⟨(some 33), .mov (.t 7), none⟩, ⟨(some 34), .bin .gtr (.t 33) (.c (.lit (.int .u64 922337203685477580))), none⟩, ⟨(some 35), .mov (.t 34), none⟩, ⟨(some 36), .mov (.t 7), (some (35, false))⟩, ⟨(some 37), .eq false .pint (.t 36) (.c (.lit (.int .u64 922337203685477580))), (some (35, false))⟩, ⟨(some 38), .mov (.t 37), (some (35, false))⟩, ⟨(some 39), .mov (.t 9), (some (38, true))⟩, ⟨(some 40), .bin .gtr (.t 39) (.c (.lit (.int .u64 7))), (some (38, true))⟩, ⟨(some 41), .pick (.t 38) (.t 40) (.c (.lit (.bool false))), (some (35, false))⟩, ⟨(some 42), .pick (.t 35) (.c (.lit (.bool true))) (.t 41), none⟩]) (
      .cond (.t 42) (
       .ops [⟨(some 8), .mov (.c (.lit (.bool false))), none⟩]) (
       .skip))) (
     .seq (
      .seq (
       .ops [⟨(some 43), .mov (.t 8), none⟩]) (
      .cond (.t 43) (
       .ops [⟨(some 44), .mov (.t 7), none⟩, ⟨(some 45), .bin .mul (.t 44) (.c (.lit (.int .u64 10))), none⟩, ⟨(some 46), .mov (.t 9), none⟩, ⟨(some 47), .bin .add (.t 45) (.t 46), none⟩, ⟨(some 7), .mov (.t 47), none⟩]) (
       .skip))) (
     .ops [⟨(some 48), .mov (.t 6), none⟩, ⟨(some 49), .bin .add (.t 48) (.c (.lit (.int .i64 1))), none⟩, ⟨(some 6), .mov (.t 49), none⟩])))))
def K_ref03_number_1 (N : Nat → Nat) : AC :=
 .seq (
  .dops 11 [⟨(some 50), .mov (.t 6), none⟩, ⟨(some 51), .mov (.t 8), none⟩, ⟨(some 52), .mov (.t 51), none⟩, ⟨(some 53), .mov (.t 6), (some (52, true))⟩, ⟨(some 54), .eq false .pint (.t 53) (.c (.lit (.int .i64 1))), (some (52, true))⟩, ⟨(some 55), .mov (.t 54), (some (52, true))⟩, ⟨(some 56), .mov (.t 0), (some (55, false))⟩, ⟨(some 57), .mov (.t 1), (some (55, false))⟩, ⟨(some 58), .iaddr 1 (.t 56) (.t 57), (some (55, false))⟩, ⟨(some 59), .load none (.t 58), (some (55, false))⟩, ⟨(some 60), .eq true .pint (.t 59) (.c (.lit (.int .u8 48))), (some (55, false))⟩, ⟨(some 61), .pick (.t 55) (.c (.lit (.bool true))) (.t 60), (some (52, true))⟩, ⟨(some 62), .pick (.t 52) (.t 61) (.c (.lit (.bool false))), none⟩, ⟨(some 4), .mov (.t 50), none⟩, ⟨(some 5), .mov (.t 62), none⟩] [0, 0, 0, 0, 0, 0, 0, 0, 0, 0, 0, 0, 0, 0, 0] []) (
 .ret)
/-- azimuth/azimuthref03.number -/
def C_ref03_number (N : Nat → Nat) : AFunc := ⟨63, [.inl 4, .inl 5],
 .seq (
  .ops [⟨(some 4), .mov (.c (.lit (.int .i64 0))), none⟩, ⟨(some 5), .mov (.c (.lit (.bool false))), none⟩]) (
 .seq (
  .ops [⟨(some 6), .mov (.c (.lit (.int .i64 0))), none⟩]) (
 .seq (
  .ops [⟨(some 7), .mov (.c (.lit (.int .u64 0))), none⟩]) (
 .seq (
  .ops [⟨(some 8), .mov (.c (.lit (.bool true))), none⟩]) (
 .seq (
  .block 0 (
   .loop (L_ref03_number_1 N))) (K_ref03_number_1 N))))), false⟩

def L_ref03_one_1 (N : Nat → Nat) : AC :=
       .seq (
        .seq (
         .ops [⟨(some 45), .mov (.t 7), none⟩, ⟨(some 46), .bin .lss (.t 45) (.c (.lit (.int .i64 18))), none⟩]) (
        .cond (.t 46) (
         .skip) (
         .exit 1))) (
       .seq (
        .block 2 (
         .seq (
          .ops [⟨(some 49), .mov (.t 0), none⟩, ⟨(some 50), .mov (.t 1), none⟩, ⟨(some 51), .mov (.t 7), none⟩, ⟨(some 52), .bin .add (.t 50) (.t 51), none⟩, ⟨(some 53), .iaddr 1 (.t 49) (.t 52), none⟩, ⟨(some 54), .load none (.t 53), none⟩, ⟨(some 55), .call (.c (.fn (f_ref03_hex N) [] [])) [(.t 54)], none⟩, ⟨(some 56), .un .not (.t 55), none⟩]) (
         .cond (.t 56) (
          .seq (
           .ops [⟨(some 57), .build [(.lit (.int .i64 0)), (.lit (.string (mkS []))), (.lit (.int .i64 0))] [], none⟩, ⟨none, .store 3 (.t 4) (.t 57), none⟩, ⟨(some 5), .mov (.c (.lit (.int .i64 0))), none⟩]) (
          .ret)) (
          .skip)))) (
       .ops [⟨(some 47), .mov (.t 7), none⟩, ⟨(some 48), .bin .add (.t 47) (.c (.lit (.int .i64 1))), none⟩, ⟨(some 7), .mov (.t 48), none⟩]))
def K_ref03_one_1 (N : Nat → Nat) : AC :=
 .seq (
  .ops [⟨(some 58), .mov (.t 0), none⟩, ⟨(some 59), .mov (.t 1), none⟩, ⟨(some 60), .mov (.t 1), none⟩, ⟨(some 61), .bin .add (.t 60) (.c (.lit (.int .i64 18))), none⟩, ⟨(some 62), .slice 1 (.t 58) (some (.t 59)) (some (.t 61)), none⟩, ⟨(some 63), .conv .str (.t 62), none⟩, ⟨(some 64), .build [(.lit (.int .i64 0)), (.lit (.string (mkS []))), (.lit (.int .i64 0))] [(0, 1, (.c (.lit (.int .i64 5)))), (1, 1, (.t 63))], none⟩, ⟨none, .store 3 (.t 4) (.t 64), none⟩, ⟨(some 5), .mov (.c (.lit (.int .i64 18))), none⟩]) (
 .ret)
def L_ref03_one_2 (N : Nat → Nat) : AC :=
         .seq (
          .seq (
           .ops [⟨(some 89), .mov (.t 1), none⟩, ⟨(some 90), .mov (.t 10), none⟩, ⟨(some 91), .bin .add (.t 89) (.t 90), none⟩, ⟨(some 92), .mov (.t 0), none⟩, ⟨(some 93), .len (.t 92), none⟩, ⟨(some 94), .bin .lss (.t 91) (.t 93), none⟩, ⟨(some 95), .mov (.t 94), none⟩, ⟨(some 96), .mov (.t 0), (some (95, true))⟩, ⟨(some 97), .mov (.t 1), (some (95, true))⟩, ⟨(some 98), .mov (.t 10), (some (95, true))⟩, ⟨(some 99), .bin .add (.t 97) (.t 98), (some (95, true))⟩, ⟨(some 100), .iaddr 1 (.t 96) (.t 99), (some (95, true))⟩, ⟨(some 101), .load none (.t 100), (some (95, true))⟩, ⟨(some 102), .call (.c (.fn (f_ref03_high N) [] [])) [(.t 101)], (some (95, true))⟩, ⟨(some 103), .mov (.t 102), (some (95, true))⟩, ⟨(some 104), .mov (.t 0), (some (103, false))⟩, ⟨(some 105), .mov (.t 1), (some (103, false))⟩, ⟨(some 106), .mov (.t 10), (some (103, false))⟩, ⟨(some 107), .bin .add (.t 105) (.t 106), (some (103, false))⟩, ⟨(some 108), .iaddr 1 (.t 104) (.t 107), (some (103, false))⟩, ⟨(some 109), .load none (.t 108), (some (103, false))⟩, ⟨(some 110), .call (.c (.fn (f_ref03_digit N) [] [])) [(.t 109)], (some (103, false))⟩, ⟨(some 111), .pick (.t 103) (.c (.lit (.bool true))) (.t 110), (some (95, true))⟩, ⟨(some 112), .mov (.t 111), (some (95, true))⟩, ⟨(some 113), .mov (.t 0), (some (112, false))⟩, ⟨(some 114), .mov (.t 1), (some (112, false))⟩, ⟨(some 115), .mov (.t 10), (some (112, false))⟩, ⟨(some 116), .bin .add (.t 114) (.t 115), (some (112, false))⟩, ⟨(some 117), .iaddr 1 (.t 113) (.t 116), (some (112, false))⟩, ⟨(some 118), .load none (.t 117), (some (112, false))⟩, ⟨(some 119), .bin .geq (.t 118) (.c (.lit (.int .u8 97))), (some (112, false))⟩, ⟨(some 120), .mov (.t 119), (some (112, false))⟩, ⟨(some 121), .mov (.t 0), (some (120, true))⟩, ⟨(some 122), .mov (.t 1), (some (120, true))⟩, ⟨(some 123), .mov (.t 10), (some (120, true))⟩, ⟨(some 124), .bin .add (.t 122) (.t 123), (some (120, true))⟩, ⟨(some 125), .iaddr 1 (.t 121) (.t 124), (some (120, true))⟩, ⟨(some 126), .load none (.t 125), (some (120, true))⟩, ⟨(some 127), .bin .leq (.t 126) (.c (.lit (.int .u8 122))), (some (120, true))⟩, ⟨(some 128), .pick (.t 120) (.t 127) (.c (.lit (.bool false))), (some (112, false))⟩, ⟨(some 129), .pick (.t 112) (.c (.lit (.bool true))) (.t 128), (some (95, true))⟩, ⟨(some 130), .pick (.t 95) (.t 129) (.c (.lit (.bool false))), none⟩]) (
          .cond (.t 130) (
           .skip) (
           .exit 3))) (
         .block 4 (
          .ops [⟨(some 131), .mov (.t 10), none⟩, ⟨(some 132), .bin .add (.t 131) (.c (.lit (.int .i64 1))), none⟩, ⟨(some 10), .mov (.t 132), none⟩]))
def K_ref03_one_2 (N : Nat → Nat) : AC :=
 .seq (
  .ops [⟨(some 133), .mov (.t 0), none⟩, ⟨(some 134), .mov (.t 1), none⟩, ⟨(some 135), .mov (.t 1), none⟩, ⟨(some 136), .mov (.t 10), none⟩, ⟨(some 137), .bin .add (.t 135) (.t 136), none⟩, ⟨(some 138), .slice 1 (.t 133) (some (.t 134)) (some (.t 137)), none⟩, ⟨(some 139), .conv .str (.t 138), none⟩, ⟨(some 140), .build [(.lit (.int .i64 0)), (.lit (.string (mkS []))), (.lit (.int .i64 0))] [(0, 1, (.c (.lit (.int .i64 2)))), (1, 1, (.t 139))], none⟩, ⟨(some 141), .mov (.t 10), none⟩, ⟨none, .store 3 (.t 4) (.t 140), none⟩, ⟨(some 5), .mov (.t 141), none⟩]) (
 .ret)
def E_ref03_one_5 (N : Nat → Nat) : AC :=
        .seq (
         .ops [⟨(some 186), .mov (.t 6), none⟩, ⟨(some 187), .eq false .pint (.t 186) (.c (.lit (.int .u8 34))), none⟩, ⟨(some 185), .mov (.t 187), none⟩]) (
        .cond (.t 185) (
         .seq (
          .ops [⟨(some 189), .mov (.t 0), none⟩, ⟨(some 190), .mov (.t 1), none⟩, ⟨(some 191), .call (.c (.fn (f_ref03_str N) [] [])) [(.t 189), (.t 190)], none⟩, ⟨(some 188), .mov (.t 191), none⟩, ⟨(some 192), .extract (.t 188) 0, none⟩, ⟨(some 193), .extract (.t 188) 1, none⟩, ⟨(some 14), .mov (.t 192), none⟩, ⟨(some 15), .mov (.t 193), none⟩]) (
         .seq (
          .seq (
           .ops [⟨(some 194), .mov (.t 15), none⟩, ⟨(some 195), .eq false .pint (.t 194) (.c (.lit (.int .i64 0))), none⟩]) (
          .cond (.t 195) (
           .seq (
            .ops [⟨(some 196), .build [(.lit (.int .i64 0)), (.lit (.string (mkS []))), (.lit (.int .i64 0))] [], none⟩, ⟨none, .store 3 (.t 4) (.t 196), none⟩, ⟨(some 5), .mov (.c (.lit (.int .i64 0))), none⟩]) (
           .ret)) (
           .skip))) (
         .seq (
          .ops [⟨(some 197), .mov (.t 14), none⟩, ⟨(some 198), .build [(.lit (.int .i64 0)), (.lit (.string (mkS []))), (.lit (.int .i64 0))] [(0, 1, (.c (.lit (.int .i64 6)))), (1, 1, (.t 197))], none⟩, ⟨(some 199), .mov (.t 15), none⟩, ⟨none, .store 3 (.t 4) (.t 198), none⟩, ⟨(some 5), .mov (.t 199), none⟩]) (
         .ret)))) (
         .skip))
def E_ref03_one_4 (N : Nat → Nat) : AC :=
       .seq (
        .ops [⟨(some 164), .mov (.t 6), none⟩, ⟨(some 165), .eq false .pint (.t 164) (.c (.lit (.int .u8 35))), none⟩, ⟨(some 163), .mov (.t 165), none⟩]) (
       .cond (.t 163) (
        .seq (
         .ops [⟨(some 166), .mov (.t 0), none⟩, ⟨(some 167), .mov (.t 1), none⟩, ⟨(some 168), .bin .add (.t 167) (.c (.lit (.int .i64 1))), none⟩, ⟨(some 169), .call (.c (.fn (f_ref03_name N) [] [])) [(.t 166), (.t 168)], none⟩, ⟨(some 13), .mov (.t 169), none⟩]) (
        .seq (
         .seq (
          .ops [⟨(some 170), .mov (.t 13), none⟩, ⟨(some 171), .eq false .pint (.t 170) (.c (.lit (.int .i64 0))), none⟩]) (
         .cond (.t 171) (
          .seq (
           .ops [⟨(some 172), .build [(.lit (.int .i64 0)), (.lit (.string (mkS []))), (.lit (.int .i64 0))] [], none⟩, ⟨none, .store 3 (.t 4) (.t 172), none⟩, ⟨(some 5), .mov (.c (.lit (.int .i64 0))), none⟩]) (
          .ret)) (
          .skip))) (
        .seq (
         .ops [⟨(some 173), .mov (.t 0), none⟩, ⟨(some 174), .mov (.t 1), none⟩, ⟨(some 175), .bin .add (.t 174) (.c (.lit (.int .i64 1))), none⟩, ⟨(some 176), .mov (.t 1), none⟩, ⟨(some 177), .bin .add (.t 176) (.c (.lit (.int .i64 1))), none⟩, ⟨(some 178), .mov (.t 13), none⟩, ⟨(some 179), .bin .add (.t 177) (.t 178), none⟩, ⟨(some 180), .slice 1 (.t 173) (some (.t 175)) (some (.t 179)), none⟩, ⟨(some 181), .conv .str (.t 180), none⟩, ⟨(some 182), .build [(.lit (.int .i64 0)), (.lit (.string (mkS []))), (.lit (.int .i64 0))] [(0, 1, (.c (.lit (.int .i64 3)))), (1, 1, (.t 181))], none⟩, ⟨(some 183), .mov (.t 13), none⟩, ⟨(some 184), .bin .add (.t 183) (.c (.lit (.int .i64 1))), none⟩, ⟨none, .store 3 (.t 4) (.t 182), none⟩, ⟨(some 5), .mov (.t 184), none⟩]) (
        .ret)))) (E_ref03_one_5 N))
def E_ref03_one_3 (N : Nat → Nat) : AC :=
      .seq (
       .ops [⟨(some 143), .mov (.t 6), none⟩, ⟨(some 144), .call (.c (.fn (f_ref03_digit N) [] [])) [(.t 143)], none⟩, ⟨(some 142), .mov (.t 144), none⟩]) (
      .cond (.t 142) (
       .seq (
        .ops [⟨(some 146), .mov (.t 0), none⟩, ⟨(some 147), .mov (.t 1), none⟩, ⟨(some 148), .call (.c (.fn (f_ref03_number N) [] [])) [(.t 146), (.t 147)], none⟩, ⟨(some 145), .mov (.t 148), none⟩, ⟨(some 149), .extract (.t 145) 0, none⟩, ⟨(some 150), .extract (.t 145) 1, none⟩, ⟨(some 11), .mov (.t 149), none⟩, ⟨(some 12), .mov (.t 150), none⟩]) (
       .seq (
        .seq (
         .ops [⟨(some 151), .mov (.t 12), none⟩, ⟨(some 152), .un .not (.t 151), none⟩]) (
        .cond (.t 152) (
         .seq (
          .ops [⟨(some 153), .build [(.lit (.int .i64 0)), (.lit (.string (mkS []))), (.lit (.int .i64 0))] [], none⟩, ⟨none, .store 3 (.t 4) (.t 153), none⟩, ⟨(some 5), .mov (.c (.lit (.int .i64 0))), none⟩]) (
         .ret)) (
         .skip))) (
       .seq (
        .ops [⟨(some 154), .mov (.t 0), none⟩, ⟨(some 155), .mov (.t 1), none⟩, ⟨(some 156), .mov (.t 1), none⟩, ⟨(some 157), .mov (.t 11), none⟩, ⟨(some 158), .bin .add (.t 156) (.t 157), none⟩, ⟨(some 159), .slice 1 (.t 154) (some (.t 155)) (some (.t 158)), none⟩, ⟨(some 160), .conv .str (.t 159), none⟩, ⟨(some 161), .build [(.lit (.int .i64 0)), (.lit (.string (mkS []))), (.lit (.int .i64 0))] [(0, 1, (.c (.lit (.int .i64 4)))), (1, 1, (.t 160))], none⟩, ⟨(some 162), .mov (.t 11), none⟩, ⟨none, .store 3 (.t 4) (.t 161), none⟩, ⟨(some 5), .mov (.t 162), none⟩]) (
       .ret)))) (E_ref03_one_4 N))
def E_ref03_one_2 (N : Nat → Nat) : AC :=
     .seq (
      .ops [⟨(some 87), .mov (.t 6), none⟩, ⟨(some 88), .call (.c (.fn (f_ref03_high N) [] [])) [(.t 87)], none⟩, ⟨(some 86), .mov (.t 88), none⟩]) (
     .cond (.t 86) (
      .seq (
       .ops [⟨(some 10), .mov (.c (.lit (.int .i64 1))), none⟩]) (
      .seq (
       .block 3 (
        .loop (L_ref03_one_2 N))) (K_ref03_one_2 N))) (E_ref03_one_3 N))
def E_ref03_one_1 (N : Nat → Nat) : AC :=
    .seq (
     .ops [⟨(some 66), .mov (.t 6), none⟩, ⟨(some 67), .call (.c (.fn (f_ref03_low N) [] [])) [(.t 66)], none⟩, ⟨(some 65), .mov (.t 67), none⟩]) (
    .cond (.t 65) (
     .seq (
      .ops [⟨(some 68), .mov (.t 0), none⟩, ⟨(some 69), .mov (.t 1), none⟩, ⟨(some 70), .call (.c (.fn (f_ref03_name N) [] [])) [(.t 68), (.t 69)], none⟩, ⟨(some 8), .mov (.t 70), none⟩]) (
     .seq (
      .ops [⟨(some 71), .mov (.t 0), none⟩, ⟨(some 72), .mov (.t 1), none⟩, ⟨(some 73), .mov (.t 1), none⟩, ⟨(some 74), .mov (.t 8), none⟩, ⟨(some 75), .bin .add (.t 73) (.t 74), none⟩, ⟨(some 76), .slice 1 (.t 71) (some (.t 72)) (some (.t 75)), none⟩, ⟨(some 77), .conv .str (.t 76), none⟩, ⟨(some 9), .mov (.t 77), none⟩]) (
     .seq (
      .seq (
       .ops [⟨(some 78), .mov (.t 9), none⟩, ⟨(some 79), .call (.c (.fn (f_ref03_IsWord N) [] [])) [(.t 78)], none⟩]) (
      .cond (.t 79) (
       .seq (
        .ops [⟨(some 80), .mov (.t 9), none⟩, ⟨(some 81), .build [(.lit (.int .i64 0)), (.lit (.string (mkS []))), (.lit (.int .i64 0))] [(0, 1, (.c (.lit (.int .i64 7)))), (1, 1, (.t 80))], none⟩, ⟨(some 82), .mov (.t 8), none⟩, ⟨none, .store 3 (.t 4) (.t 81), none⟩, ⟨(some 5), .mov (.t 82), none⟩]) (
       .ret)) (
       .skip))) (
     .seq (
      .ops [⟨(some 83), .mov (.t 9), none⟩, ⟨(some 84), .build [(.lit (.int .i64 0)), (.lit (.string (mkS []))), (.lit (.int .i64 0))] [(0, 1, (.c (.lit (.int .i64 1)))), (1, 1, (.t 83))], none⟩, ⟨(some 85), .mov (.t 8), none⟩, ⟨none, .store 3 (.t 4) (.t 84), none⟩, ⟨(some 5), .mov (.t 85), none⟩]) (
     .ret))))) (E_ref03_one_2 N))
def K_ref03_one_3 (N : Nat → Nat) : AC :=
 .seq (
  .ops [⟨(some 200), .mov (.t 0), none⟩, ⟨(some 201), .mov (.t 1), none⟩, ⟨(some 202), .call (.c (.fn (f_ref03_sign N) [] [])) [(.t 200), (.t 201)], none⟩, ⟨(some 16), .mov (.t 202), none⟩]) (
 .seq (
  .seq (
   .ops [⟨(some 203), .mov (.t 16), none⟩, ⟨(some 204), .eq false .pint (.t 203) (.c (.lit (.int .i64 0))), none⟩]) (
  .cond (.t 204) (
   .seq (
    .ops [⟨(some 205), .build [(.lit (.int .i64 0)), (.lit (.string (mkS []))), (.lit (.int .i64 0))] [], none⟩, ⟨none, .store 3 (.t 4) (.t 205), none⟩, ⟨(some 5), .mov (.c (.lit (.int .i64 0))), none⟩]) (
   .ret)) (
   .skip))) (
 .seq (
  .ops [⟨(some 206), .mov (.t 0), none⟩, ⟨(some 207), .mov (.t 1), none⟩, ⟨(some 208), .mov (.t 1), none⟩, ⟨(some 209), .mov (.t 16), none⟩, ⟨(some 210), .bin .add (.t 208) (.t 209), none⟩, ⟨(some 211), .slice 1 (.t 206) (some (.t 207)) (some (.t 210)), none⟩, ⟨(some 212), .conv .str (.t 211), none⟩, ⟨(some 213), .build [(.lit (.int .i64 0)), (.lit (.string (mkS []))), (.lit (.int .i64 0))] [(0, 1, (.c (.lit (.int .i64 8)))), (1, 1, (.t 212))], none⟩, ⟨(some 214), .mov (.t 16), none⟩, ⟨none, .store 3 (.t 4) (.t 213), none⟩, ⟨(some 5), .mov (.t 214), none⟩]) (
 .ret)))
/-- azimuth/azimuthref03.one -/
def C_ref03_one (N : Nat → Nat) : AFunc := ⟨215, [.inr (4, (some 3)), .inl 5],
 .seq (
  .ops [⟨(some 4), .new (t_api_Token N) (.agg [(.lit (.int .i64 0)), (.lit (.string (mkS []))), (.lit (.int .i64 0))]), none⟩, ⟨(some 5), .mov (.c (.lit (.int .i64 0))), none⟩]) (
 .seq (
  .ops [⟨(some 17), .mov (.t 0), none⟩, ⟨(some 18), .mov (.t 1), none⟩, ⟨(some 19), .iaddr 1 (.t 17) (.t 18), none⟩, ⟨(some 20), .load none (.t 19), none⟩, ⟨(some 6), .mov (.t 20), none⟩]) (
 .seq (
  .block 0 (
   .seq (
    .ops [⟨(some 22), .mov (.t 6), none⟩, ⟨(some 23), .eq false .pint (.t 22) (.c (.lit (.int .u8 102))), none⟩, ⟨(some 24), .mov (.t 23), none⟩, ⟨(some 25), .mov (.t 1), (some (24, true))⟩, ⟨(some 26), .bin .add (.t 25) (.c (.lit (.int .i64 1))), (some (24, true))⟩, ⟨(some 27), .mov (.t 0), (some (24, true))⟩, ⟨(some 28), .len (.t 27), (some (24, true))⟩, ⟨(some 29), .bin .lss (.t 26) (.t 28), (some (24, true))⟩, ⟨(some 30), .pick (.t 24) (.t 29) (.c (.lit (.bool false))), none⟩, ⟨(some 31), .mov (.t 30), none⟩, ⟨(some 32), .mov (.t 0), (some (31, true))⟩, ⟨(some 33), .mov (.t 1), (some (31, true))⟩, ⟨(some 34), .bin .add (.t 33) (.c (.lit (.int .i64 1))), (some (31, true))⟩, ⟨(some 35), .iaddr 1 (.t 32) (.t 34), (some (31, true))⟩, ⟨(some 36), .load none (.t 35), (some (31, true))⟩, ⟨(some 37), .eq false .pint (.t 36) (.c (.lit (.int .u8 39))), (some (31, true))⟩, ⟨(some 38), .pick (.t 31) (.t 37) (.c (.lit (.bool false))), none⟩, ⟨(some 21), .mov (.t 38), none⟩]) (
   .cond (.t 21) (
    .seq (
     .seq (
      .ops [⟨(some 39), .mov (.t 1), none⟩, ⟨(some 40), .bin .add (.t 39) (.c (.lit (.int .i64 18))), none⟩, ⟨(some 41), .mov (.t 0), none⟩, ⟨(some 42), .len (.t 41), none⟩, ⟨(some 43), .bin .gtr (.t 40) (.t 42), none⟩]) (
     .cond (.t 43) (
      .seq (
       .ops [⟨(some 44), .build [(.lit (.int .i64 0)), (.lit (.string (mkS []))), (.lit (.int .i64 0))] [], none⟩, ⟨none, .store 3 (.t 4) (.t 44), none⟩, ⟨(some 5), .mov (.c (.lit (.int .i64 0))), none⟩]) (
      .ret)) (
      .skip))) (
    .seq (
     .seq (
      .ops [⟨(some 7), .mov (.c (.lit (.int .i64 2))), none⟩]) (
     .block 1 (
      .loop (L_ref03_one_1 N)))) (K_ref03_one_1 N))) (E_ref03_one_1 N)))) (K_ref03_one_3 N))), false⟩

/-- azimuth/azimuthref03.sign -/
def C_ref03_sign (N : Nat → Nat) : AFunc := ⟨49, [.inl 4],
 .seq (
  .ops [⟨(some 4), .mov (.c (.lit (.int .i64 0))), none⟩]) (
 .seq (
  .seq (
   .ops [⟨(some 5), .mov (.t 1), none⟩, ⟨(some 6), .bin .add (.t 5) (.c (.lit (.int .i64 2))), none⟩, ⟨(some 7), .mov (.t 0), none⟩, ⟨(some 8), .len (.t 7), none⟩, ⟨(some 9), .bin .leq (.t 6) (.t 8), none⟩]) (
  .cond (.t 9) (
   .seq (
    .ops [⟨(some 10), .mov (.t 0), none⟩, ⟨(some 11), .mov (.t 1), none⟩, ⟨(some 12), .mov (.t 1), none⟩, ⟨(some 13), .bin .add (.t 12) (.c (.lit (.int .i64 2))), none⟩, ⟨(some 14), .slice 1 (.t 10) (some (.t 11)) (some (.t 13)), none⟩, ⟨(some 15), .conv .str (.t 14), none⟩]) (
   .block 0 (
    .seq (
     .seq (
      .ops [⟨(some 17), .eq false .pstr (.t 15) (.c (.lit (.string (mkS [61, 62])))), none⟩, ⟨(some 16), .mov (.t 17), none⟩]) (
     .cond (.t 16) (
      .skip) (
      .seq (
       .ops [⟨(some 18), .eq false .pstr (.t 15) (.c (.lit (.string (mkS [45, 62])))), none⟩, ⟨(some 16), .mov (.t 18), none⟩]) (
      .cond (.t 16) (
       .skip) (
       .seq (
        .ops [⟨(some 19), .eq false .pstr (.t 15) (.c (.lit (.string (mkS [61, 61])))), none⟩, ⟨(some 16), .mov (.t 19), none⟩]) (
       .cond (.t 16) (
        .skip) (
        .seq (
         .ops [⟨(some 20), .eq false .pstr (.t 15) (.c (.lit (.string (mkS [46, 46])))), none⟩, ⟨(some 16), .mov (.t 20), none⟩]) (
        .cond (.t 16) (
         .skip) (
         .seq (
          .ops [⟨(some 21), .eq false .pstr (.t 15) (.c (.lit (.string (mkS [43, 46])))), none⟩, ⟨(some 16), .mov (.t 21), none⟩]) (
         .cond (.t 16) (
          .skip) (
          .seq (
           .ops [⟨(some 22), .eq false .pstr (.t 15) (.c (.lit (.string (mkS [45, 46])))), none⟩, ⟨(some 16), .mov (.t 22), none⟩]) (
          .cond (.t 16) (
           .skip) (
           .seq (
            .ops [⟨(some 23), .eq false .pstr (.t 15) (.c (.lit (.string (mkS [42, 46])))), none⟩, ⟨(some 16), .mov (.t 23), none⟩]) (
           .cond (.t 16) (
            .skip) (
            .seq (
             .ops [⟨(some 24), .eq false .pstr (.t 15) (.c (.lit (.string (mkS [47, 46])))), none⟩, ⟨(some 16), .mov (.t 24), none⟩]) (
            .cond (.t 16) (
             .skip) (
             .ops [⟨(some 25), .eq false .pstr (.t 15) (.c (.lit (.string (mkS [60, 46])))), none⟩, ⟨(some 16), .mov (.t 25), none⟩]))))))))))))))))) (
    .cond (.t 16) (
     .seq (
      .ops [⟨(some 4), .mov (.c (.lit (.int .i64 2))), none⟩]) (
     .ret)) (
     .skip))))) (
   .skip))) (
 .seq (
  .seq (
   .ops [⟨(some 26), .mov (.t 0), none⟩, ⟨(some 27), .mov (.t 1), none⟩, ⟨(some 28), .iaddr 1 (.t 26) (.t 27), none⟩, ⟨(some 29), .load none (.t 28), none⟩]) (
  .block 1 (
   .seq (
    .seq (
     .ops [⟨(some 31), .eq false .pint (.t 29) (.c (.lit (.int .u8 40))), none⟩, ⟨(some 30), .mov (.t 31), none⟩]) (
    .cond (.t 30) (
     .skip) (
     .seq (
      .ops [⟨(some 32), .eq false .pint (.t 29) (.c (.lit (.int .u8 41))), none⟩, ⟨(some 30), .mov (.t 32), none⟩]) (
     .cond (.t 30) (
      .skip) (
      .seq (
       .ops [⟨(some 33), .eq false .pint (.t 29) (.c (.lit (.int .u8 123))), none⟩, ⟨(some 30), .mov (.t 33), none⟩]) (
      .cond (.t 30) (
       .skip) (
       .seq (
        .ops [⟨(some 34), .eq false .pint (.t 29) (.c (.lit (.int .u8 125))), none⟩, ⟨(some 30), .mov (.t 34), none⟩]) (
       .cond (.t 30) (
        .skip) (
        .seq (
         .ops [⟨(some 35), .eq false .pint (.t 29) (.c (.lit (.int .u8 91))), none⟩, ⟨(some 30), .mov (.t 35), none⟩]) (
        .cond (.t 30) (
         .skip) (
         .seq (
          .ops [⟨(some 36), .eq false .pint (.t 29) (.c (.lit (.int .u8 93))), none⟩, ⟨(some 30), .mov (.t 36), none⟩]) (
         .cond (.t 30) (
          .skip) (
          .seq (
           .ops [⟨(some 37), .eq false .pint (.t 29) (.c (.lit (.int .u8 44))), none⟩, ⟨(some 30), .mov (.t 37), none⟩]) (
          .cond (.t 30) (
           .skip) (
           .seq (
            .ops [⟨(some 38), .eq false .pint (.t 29) (.c (.lit (.int .u8 59))), none⟩, ⟨(some 30), .mov (.t 38), none⟩]) (
           .cond (.t 30) (
            .skip) (
            .seq (
             .ops [⟨(some 39), .eq false .pint (.t 29) (.c (.lit (.int .u8 58))), none⟩, ⟨(some 30), .mov (.t 39), none⟩]) (
            .cond (.t 30) (
             .skip) (
             .seq (
              .ops [⟨(some 40), .eq false .pint (.t 29) (.c (.lit (.int .u8 46))), none⟩, ⟨(some 30), .mov (.t 40), none⟩]) (
             .cond (.t 30) (
              .skip) (
              .seq (
               .ops [⟨(some 41), .eq false .pint (.t 29) (.c (.lit (.int .u8 61))), none⟩, ⟨(some 30), .mov (.t 41), none⟩]) (
              .cond (.t 30) (
               .skip) (
               .seq (
                .ops [⟨(some 42), .eq false .pint (.t 29) (.c (.lit (.int .u8 124))), none⟩, ⟨(some 30), .mov (.t 42), none⟩]) (
               .cond (.t 30) (
                .skip) (
                .seq (
                 .ops [⟨(some 43), .eq false .pint (.t 29) (.c (.lit (.int .u8 43))), none⟩, ⟨(some 30), .mov (.t 43), none⟩]) (
                .cond (.t 30) (
                 .skip) (
                 .seq (
                  .ops [⟨(some 44), .eq false .pint (.t 29) (.c (.lit (.int .u8 45))), none⟩, ⟨(some 30), .mov (.t 44), none⟩]) (
                 .cond (.t 30) (
                  .skip) (
                  .seq (
                   .ops [⟨(some 45), .eq false .pint (.t 29) (.c (.lit (.int .u8 42))), none⟩, ⟨(some 30), .mov (.t 45), none⟩]) (
                  .cond (.t 30) (
                   .skip) (
                   .seq (
                    .ops [⟨(some 46), .eq false .pint (.t 29) (.c (.lit (.int .u8 47))), none⟩, ⟨(some 30), .mov (.t 46), none⟩]) (
                   .cond (.t 30) (
                    .skip) (
                    .seq (
                     .ops [⟨(some 47), .eq false .pint (.t 29) (.c (.lit (.int .u8 60))), none⟩, ⟨(some 30), .mov (.t 47), none⟩]) (
                    .cond (.t 30) (
                     .skip) (
                     .ops [⟨(some 48), .eq false .pint (.t 29) (.c (.lit (.int .u8 94))), none⟩, ⟨(some 30), .mov (.t 48), none⟩]))))))))))))))))))))))))))))))))))) (
   .cond (.t 30) (
    .seq (
     .ops [⟨(some 4), .mov (.c (.lit (.int .i64 1))), none⟩]) (
    .ret)) (
    .skip))))) (
 .seq (
  .ops [⟨(some 4), .mov (.c (.lit (.int .i64 0))), none⟩]) (
 .ret)))), false⟩

def L_ref03_str_1 (N : Nat → Nat) : AC :=
    .seq (
     .seq (
      .ops [⟨(some 10), .mov (.t 7), none⟩, ⟨(some 11), .mov (.t 0), none⟩, ⟨(some 12), .len (.t 11), none⟩, ⟨(some 13), .bin .lss (.t 10) (.t 12), none⟩]) (
     .cond (.t 13) (
      .skip) (
      .exit 0))) (
    .block 1 (
     .block 2 (
      .seq (
       .ops [⟨(some 25), .mov (.t 0), none⟩, ⟨(some 26), .mov (.t 7), none⟩, ⟨(some 27), .iaddr 1 (.t 25) (.t 26), none⟩, ⟨(some 28), .load none (.t 27), none⟩, ⟨(some 29), .eq false .pint (.t 28) (.c (.lit (.int .u8 34))), none⟩, ⟨(some 24), .mov (.t 29), none⟩]) (
      .cond (.t 24) (
       .seq (
        .ops [⟨(some 30), .mov (.t 6), none⟩, ⟨(some 31), .mov (.t 7), none⟩, ⟨(some 32), .bin .add (.t 31) (.c (.lit (.int .i64 1))), none⟩, ⟨(some 33), .mov (.t 1), none⟩, ⟨(some 34), .bin .sub (.t 32) (.t 33), none⟩, ⟨(some 4), .mov (.t 30), none⟩, ⟨(some 5), .mov (.t 34), none⟩]) (
       .ret)) (
       .seq (
        .ops [⟨(some 36), .mov (.t 0), none⟩, ⟨(some 37), .mov (.t 7), none⟩, ⟨(some 38), .iaddr 1 (.t 36) (.t 37), none⟩, ⟨(some 39), .load none (.t 38), none⟩, ⟨(some 40), .bin .lss (.t 39) (.c (.lit (.int .u8 32))), none⟩, ⟨(some 35), .mov (.t 40), none⟩]) (
       .cond (.t 35) (
        .seq (
         .ops [⟨(some 4), .mov (.c (.lit (.string (mkS [])))), none⟩, ⟨(some 5), .mov (.c (.lit (.int .i64 0))), none⟩]) (
        .ret)) (
        .seq (
         .ops [⟨(some 42), .mov (.t 0), none⟩, ⟨(some 43), .mov (.t 7), none⟩, ⟨(some 44), .iaddr 1 (.t 42) (.t 43), none⟩, ⟨(some 45), .load none (.t 44), none⟩, ⟨(some 46), .eq false .pint (.t 45) (.c (.lit (.int .u8 92))), none⟩, ⟨(some 41), .mov (.t 46), none⟩]) (
        .cond (.t 41) (
         .seq (
          .seq (
           .ops [⟨(some 47), .mov (.t 7), none⟩, ⟨(some 48), .bin .add (.t 47) (.c (.lit (.int .i64 1))), none⟩, ⟨(some 49), .mov (.t 0), none⟩, ⟨(some 50), .len (.t 49), none⟩, ⟨(some 51), .bin .geq (.t 48) (.t 50), none⟩]) (
          .cond (.t 51) (
           .seq (
            .ops [⟨(some 4), .mov (.c (.lit (.string (mkS [])))), none⟩, ⟨(some 5), .mov (.c (.lit (.int .i64 0))), none⟩]) (
           .ret)) (
           .skip))) (
         .seq (
          .seq (
           .ops [⟨(some 52), .mov (.t 0), none⟩, ⟨(some 53), .mov (.t 7), none⟩, ⟨(some 54), .bin .add (.t 53) (.c (.lit (.int .i64 1))), none⟩, ⟨(some 55), .iaddr 1 (.t 52) (.t 54), none⟩, ⟨(some 56), .load none (.t 55), none⟩]) (
          .block 3 (
           .seq (
            .ops [⟨(some 58), .eq false .pint (.t 56) (.c (.lit (.int .u8 34))), none⟩, ⟨(some 57), .mov (.t 58), none⟩]) (
           .cond (.t 57) (
            .ops [⟨(some 59), .mov (.t 6), none⟩, ⟨(some 60), .bslice (t_uint8 N) 1 none 1 [(.lit (.int .u8 0))] [(0, 1, (.c (.lit (.int .u8 34))))], none⟩, ⟨(some 61), .conv .str (.t 60), none⟩, ⟨(some 62), .bin .add (.t 59) (.t 61), none⟩, ⟨(some 6), .mov (.t 62), none⟩]) (
            .seq (
             .ops [⟨(some 64), .eq false .pint (.t 56) (.c (.lit (.int .u8 92))), none⟩, ⟨(some 63), .mov (.t 64), none⟩]) (
            .cond (.t 63) (
             .ops [⟨(some 65), .mov (.t 6), none⟩, ⟨(some 66), .bslice (t_uint8 N) 1 none 1 [(.lit (.int .u8 0))] [(0, 1, (.c (.lit (.int .u8 92))))], none⟩, ⟨(some 67), .conv .str (.t 66), none⟩, ⟨(some 68), .bin .add (.t 65) (.t 67), none⟩, ⟨(some 6), .mov (.t 68), none⟩]) (
             .seq (
              .ops [⟨(some 70), .eq false .pint (.t 56) (.c (.lit (.int .u8 110))), none⟩, ⟨(some 69), .mov (.t 70), none⟩]) (
             .cond (.t 69) (
              .ops [⟨(some 71), .mov (.t 6), none⟩, ⟨(some 72), .bslice (t_uint8 N) 1 none 1 [(.lit (.int .u8 0))] [(0, 1, (.c (.lit (.int .u8 10))))], none⟩, ⟨(some 73), .conv .str (.t 72), none⟩, ⟨(some 74), .bin .add (.t 71) (.t 73), none⟩, ⟨(some 6), .mov (.t 74), none⟩]) (
              .seq (
               .ops [⟨(some 4), .mov (.c (.lit (.string (mkS [])))), none⟩, ⟨(some 5), .mov (.c (.lit (.int .i64 0))), none⟩]) (
              .ret)))))))))) (
         .ops [⟨(some 75), .mov (.t 7), none⟩, ⟨(some 76), .bin .add (.t 75) (.c (.lit (.int .i64 2))), none⟩, ⟨(some 7), .mov (.t 76), none⟩]))) (
         .seq (
          .ops [⟨(some 14), .mov (.t 6), none⟩, ⟨(some 15), .mov (.t 0), none⟩, ⟨(some 16), .mov (.t 7), none⟩, ⟨(some 17), .mov (.t 7), none⟩, ⟨(some 18), .bin .add (.t 17) (.c (.lit (.int .i64 1))), none⟩, ⟨(some 19), .slice 1 (.t 15) (some (.t 16)) (some (.t 18)), none⟩, ⟨(some 20), .conv .str (.t 19), none⟩, ⟨(some 21), .bin .add (.t 14) (.t 20), none⟩, ⟨(some 6), .mov (.t 21), none⟩]) (
         .ops [⟨(some 22), .mov (.t 7), none⟩, ⟨(some 23), .bin .add (.t 22) (.c (.lit (.int .i64 1))), none⟩, ⟨(some 7), .mov (.t 23), none⟩]))))))))))
def K_ref03_str_1 (N : Nat → Nat) : AC :=
 .seq (
  .ops [⟨(some 4), .mov (.c (.lit (.string (mkS [])))), none⟩, ⟨(some 5), .mov (.c (.lit (.int .i64 0))), none⟩]) (
 .ret)
/-- azimuth/azimuthref03.str -/
def C_ref03_str (N : Nat → Nat) : AFunc := ⟨77, [.inl 4, .inl 5],
 .seq (
  .ops [⟨(some 4), .mov (.c (.lit (.string (mkS [])))), none⟩, ⟨(some 5), .mov (.c (.lit (.int .i64 0))), none⟩]) (
 .seq (
  .ops [⟨(some 6), .mov (.c (.lit (.string (mkS [])))), none⟩]) (
 .seq (
  .ops [⟨(some 8), .mov (.t 1), none⟩, ⟨(some 9), .bin .add (.t 8) (.c (.lit (.int .i64 1))), none⟩, ⟨(some 7), .mov (.t 9), none⟩]) (
 .seq (
  .block 0 (
   .loop (L_ref03_str_1 N))) (K_ref03_str_1 N)))), false⟩
end Go.Proofs.Eng
/- Strings' texts, run by the engine. -/
set_option linter.unusedVariables false
set_option linter.unusedSimpArgs false
set_option maxRecDepth 100000
namespace Go.Proofs.Eng
open Go
section
variable {Γ : Sums} {A : Tab} {N : Nat → Nat}

theorem Row.push {e e' : TypeId} {sz bytes : Nat} {x y : AV} {es : List AV} {os r : List (Nat × AObj)} {H0 H : Hp} (h : Row e sz x es os) (hl : Loc H0 H (os ++ r)) (hb : (es.length + 1) * bytes ≤ roomMax) (hg : (y.good && y.cells.length == sz) = true) :
    asElems (halloc H (.arr sz [y] e')) (.ra sz H.l.length 0 1) = some [y] ∧
    ∃ v H' os', appendOn (halloc H (.arr sz [y] e')) e sz bytes x [y] = some (v, some H') ∧ Row e sz v (es ++ [y]) os' ∧ Loc H0 H' (os' ++ r) := by
  refine ⟨by simp [asElems], ?_⟩
  have hL1 := (hl.alloc (.arr sz [y] e')).perm (os' := os ++ (H.l.length, .arr sz [y] e') :: r) List.perm_middle.symm
  obtain ⟨v, H', os', a1, a2, a3⟩ := h.append (bytes := bytes) (ys := [y]) hL1 (by simp) (by simpa using hb) (by simpa using hg)
  refine ⟨v, H', os', a1, a2, a3.sub (List.Sublist.append (List.Sublist.refl _) ((List.Sublist.refl _).cons _))⟩

end
end Go.Proofs.Eng
/- The reference of chapter 3, run by the engine: signs, names. -/
set_option linter.unusedVariables false
set_option linter.unusedSimpArgs false
set_option maxRecDepth 100000
namespace Go.Proofs.Eng
open Go
section
variable {Γ : Sums} {A : Tab} {N : Nat → Nat}
structure Ref03S (Γ : Sums) (A : Tab) (N : Nat → Nat) : Prop where
  low : Has Γ A (f_ref03_low N) (C_ref03_low N)
  high : Has Γ A (f_ref03_high N) (C_ref03_high N)
  digit : Has Γ A (f_ref03_digit N) (C_ref03_digit N)
  hex : Has Γ A (f_ref03_hex N) (C_ref03_hex N)
  name : Has Γ A (f_ref03_name N) (C_ref03_name N)
  number : Has Γ A (f_ref03_number N) (C_ref03_number N)
  str : Has Γ A (f_ref03_str N) (C_ref03_str N)
  sign : Has Γ A (f_ref03_sign N) (C_ref03_sign N)
  isWord : Has Γ A (f_ref03_IsWord N) (C_ref03_IsWord N)

end
end Go.Proofs.Eng
/- The reference of chapter 3, run by the engine: numbers, strings, signs. -/
set_option linter.unusedVariables false
set_option linter.unusedSimpArgs false
set_option maxRecDepth 100000
namespace Go.Proofs.Eng
open Go
section
variable {Γ : Sums} {A : Tab} {N : Nat → Nat}
@[simp] theorem abin_subB {c : UInt8} {n : Int} : abin .sub (avByte c) (.lit (.int .u8 n)) = some (avInt .u8 (IntKind.wrap .u8 (c.toNat - n))) := by simp [avByte]

end
end Go.Proofs.Eng
/- The reference of chapter 3, run by the engine: words. -/
set_option linter.unusedVariables false
set_option linter.unusedSimpArgs false
set_option maxRecDepth 100000
namespace Go.Proofs.Eng
open Go
section
variable {Γ : Sums} {A : Tab} {N : Nat → Nat}
def wordsC : List UInt8 := [32, 102, 117, 110, 32, 108, 101, 116, 32, 114, 101, 99, 32, 105, 110, 32, 105, 102, 32, 116, 104, 101, 110, 32, 101, 108, 115, 101, 32, 99, 97, 115, 101, 32, 111, 102, 32, 101, 110, 100, 32, 116, 114, 117, 101, 32, 102, 97, 108, 115, 101, 32, 105, 110, 116, 32, 98, 111, 111, 108, 32, 115, 116, 114, 32, 102, 108, 111, 97, 116, 32, 100, 121, 110, 32, 97, 110, 121, 32, 110, 111, 110, 101, 32, 116, 121, 112, 101, 32]
theorem wordsC_eq : (32 :: 102 :: 117 :: 110 :: 32 :: 108 :: 101 :: 116 :: 32 :: 114 :: 101 :: 99 :: 32 :: 105 :: 110 :: 32 :: 105 :: 102 :: 32 :: 116 :: 104 :: 101 :: 110 :: 32 :: 101 :: 108 :: 115 :: 101 :: 32 :: 99 :: 97 :: 115 :: 101 :: 32 :: 111 :: 102 :: 32 :: 101 :: 110 :: 100 :: 32 :: 116 :: 114 :: 117 :: 101 :: 32 :: 102 :: 97 :: 108 :: 115 :: 101 :: 32 :: 105 :: 110 :: 116 :: 32 :: 98 :: 111 :: 111 :: 108 :: 32 :: 115 :: 116 :: 114 :: 32 :: 102 :: 108 :: 111 :: 97 :: 116 :: 32 :: 100 :: 121 :: 110 :: 32 :: 97 :: 110 :: 121 :: 32 :: 110 :: 111 :: 110 :: 101 :: 32 :: 116 :: 121 :: 112 :: 101 :: 32 :: [] : List UInt8) = wordsC := by kernel_rfl
def az (c : UInt8) : Bool := decide (97 ≤ c.toNat) && decide (c.toNat ≤ 122)
theorem words_fwd (i n : Nat) (hi : i < 90) (hn : n < 90) (h1 : ((wordsC.drop (i + 1)).take n).all az = true) (h2 : (wordsC.drop (i + 1)).take n ≠ []) (h3 : (wordsC.drop i).take (n + 2) = 32 :: ((wordsC.drop (i + 1)).take n ++ [32])) : (wordsC.drop (i + 1)).take n ∈ wordsL := by
  have : (List.range 90).all (fun i => (List.range 90).all fun n => let s := (wordsC.drop (i + 1)).take n; !(s.all az && !s.isEmpty && (wordsC.drop i).take (n + 2) == 32 :: (s ++ [32])) || wordsL.contains s) = true := by decide +kernel
  rw [List.all_eq_true] at this
  have := this i (by simp; exact hi)
  rw [List.all_eq_true] at this
  have := this n (by simp; exact hn)
  have e : ((wordsC.drop (i + 1)).take n).isEmpty = false := by simpa using h2
  simp only [h1, e, h3, Bool.not_false, Bool.and_self, beq_self_eq_true, Bool.not_true, Bool.false_or, List.contains_iff_mem] at this
  exact this
theorem words_bwd {s : List UInt8} (h : s ∈ wordsL) : s.all az = true ∧ s ≠ [] ∧ ∃ i, i + s.length + 2 ≤ 89 ∧ (wordsC.drop i).take (s.length + 2) = 32 :: (s ++ [32]) := by
  have : ∀ s ∈ wordsL, s.all az = true ∧ s ≠ [] ∧ ((List.range 90).any fun i => decide (i + s.length + 2 ≤ 89) && (wordsC.drop i).take (s.length + 2) == 32 :: (s ++ [32])) = true := by decide +kernel
  obtain ⟨h1, h2, h3⟩ := this s h
  refine ⟨h1, h2, ?_⟩
  rw [List.any_eq_true] at h3
  obtain ⟨i, _, h4⟩ := h3
  rw [Bool.and_eq_true, decide_eq_true_eq, beq_iff_eq] at h4
  exact ⟨i, h4⟩
theorem words_iff {s : List UInt8} (h1 : s.all az = true) (h2 : s ≠ []) : (∃ i, i + s.length + 2 ≤ 89 ∧ (wordsC.drop i).take (s.length + 2) = 32 :: (s ++ [32])) ↔ s ∈ wordsL := by
  constructor
  · rintro ⟨i, hi, h3⟩
    have e : (wordsC.drop (i + 1)).take s.length = s := by
      have h4 := congrArg (fun l => (l.drop 1).take s.length) h3
      simpa [List.drop_take, List.take_take] using h4
    have := words_fwd i s.length (by omega) (by omega) (by rw [e]; exact h1) (by rw [e]; exact h2) (by rw [e]; exact h3)
    rwa [e] at this
  · intro h
    exact (words_bwd h).2.2

theorem ref03_IsWord_call (h : Ref03S Γ A N) (s : List UInt8) (hl : s.length < 2 ^ 36) (H : Hp) : (lim Γ A).call (f_ref03_IsWord N) [avStr s] H = some (avBool (isWordB s), none) := by
  apply h.isWord.call (by rfl)
  by_cases hne : s = []
  · subst hne
    simp [C_ref03_IsWord, isWordB]
    decide
  · have hne' : ¬ (s = []) := hne
    simp [C_ref03_IsWord, hne, -Int.natCast_add]
    refine wp_round (fun k ρ H' => H' = { l := H.l, d := none } ∧ ∃ i : Nat, ρ 0 = avStr s ∧ ρ 3 = avInt .i64 i ∧ i ≤ s.length ∧ (s.take i).all az = true ∧ k = s.length - i) (n := s.length) ⟨rfl, 0, rfl, rfl, by omega, by simp, rfl⟩ ?_
    rintro k ρ H' ⟨rfl, i, r0, r3, hi, ha, rfl⟩
    by_cases hlt : i < s.length
    · have hlt' : (i : Int) < s.length := by omega
      have hx := asidx_nat (k := .i64) hlt
      have hno : az s[i] = false → isWordB s = false := by
        intro hz
        unfold isWordB
        rw [decide_eq_false_iff_not]
        intro hm
        have := (words_bwd hm).1
        rw [List.all_eq_true] at this
        rw [this _ (List.getElem_mem hlt)] at hz
        cases hz
      have hgo : az s[i] = true → (s.take (i + 1)).all az = true := by
        intro hz
        rw [List.take_succ_eq_append_getElem hlt, List.all_append, ha]; simp [hz]
      generalize s[i] = c at *
      by_cases h97 : c.toNat < 97
      · have h97' : (c.toNat : Int) < 97 := by omega
        have hz := hno (by simp [az]; omega)
        simp [L_ref03_IsWord_1, r0, r3, hlt', hx, h97', hz]
      · have h97' : ¬ (c.toNat : Int) < 97 := by omega
        by_cases h122 : 122 < c.toNat
        · have h122' : (122 : Int) < c.toNat := by omega
          have hz := hno (by simp [az]; omega)
          simp [L_ref03_IsWord_1, r0, r3, hlt', hx, h97', h122', hz]
        · have h122' : ¬ (122 : Int) < c.toNat := by omega
          have hw : IntKind.wrap .i64 ((i : Int) + 1) = ((i + 1 : Nat) : Int) := by rw [wrap64 (by omega) (by omega)]; omega
          have hg := hgo (by simp [az]; omega)
          simp [L_ref03_IsWord_1, r0, r3, hlt', hx, h97', h122', hw, -Int.natCast_add]
          exact ⟨s.length - (i + 1), by omega, i + 1, rfl, by omega, List.all_eq_true.1 hg, rfl⟩
    · have hlt' : ¬ (i : Int) < s.length := by omega
      rw [List.take_of_length_le (by omega)] at ha
      have hiff := words_iff ha hne
      simp [L_ref03_IsWord_1, K_ref03_IsWord_1, r0, r3, hlt', -Int.natCast_add]
      refine wp_round (fun k ρ H' => H' = { l := H.l, d := none } ∧ ∃ j : Nat, ρ 0 = avStr s ∧ ρ 4 = avInt .i64 j ∧ j ≤ 90 ∧ (∀ i < j, ¬ (i + s.length + 2 ≤ 89 ∧ (wordsC.drop i).take (s.length + 2) = 32 :: (s ++ [32]))) ∧ k = 90 - j) (n := 90) ⟨rfl, 0, ?_, ?_, by omega, by omega, rfl⟩ ?_
      · simp [r0]
      · simp
      rintro k ρ H' ⟨rfl, j, r0, r4, hj, hn, rfl⟩
      have hw1 : IntKind.wrap .i64 ((j : Int) + (s.length : Int)) = ((j + s.length : Nat) : Int) := by rw [wrap64 (by omega) (by omega)]; omega
      have hw2 : IntKind.wrap .i64 (((j + s.length : Nat) : Int) + 2) = ((j + s.length + 2 : Nat) : Int) := by rw [wrap64 (by omega) (by omega)]; omega
      by_cases hle : j + s.length + 2 ≤ 89
      · have hle' : ((j + s.length + 2 : Nat) : Int) ≤ 89 := by omega
        have hcut : aslstr (avStr wordsC) (some (avInt .i64 (j : Int))) (some (avInt .i64 ((j + s.length + 2 : Nat) : Int))) = some (avStr ((wordsC.drop j).take (s.length + 2))) := by
          rw [aslstr_cut (by omega) (by omega) (by show _ ≤ 89; omega)]
          simp only [Int.toNat_natCast]
          rw [show j + s.length + 2 - j = s.length + 2 from by omega]
        have hadd1 := abin_strAdd (s := mkS [32]) (t := mkS s) (by simp; omega)
        have hadd2 := abin_strAdd (s := mkS ([32] ++ s)) (t := mkS [32]) (by simp; omega)
        simp only [bl_mkS, List.cons_append, List.nil_append] at hadd1 hadd2
        by_cases hm : (wordsC.drop j).take (s.length + 2) = 32 :: (s ++ [32])
        · have hmem : isWordB s = true := by simpa [isWordB] using hiff.1 ⟨j, hle, hm⟩
          rw [hm] at hcut
          simp [L_ref03_IsWord_2, wordsC_eq, r0, r4, hw1, hw2, hle', hcut, hadd1, hadd2, hmem, -Int.natCast_add]
        · have hw3 : IntKind.wrap .i64 ((j : Int) + 1) = ((j + 1 : Nat) : Int) := by rw [wrap64 (by omega) (by omega)]; omega
          generalize hgt : (wordsC.drop j).take (s.length + 2) = t at *
          simp [L_ref03_IsWord_2, wordsC_eq, r0, r4, hw1, hw2, hw3, hle', hcut, hadd1, hadd2, hm, -Int.natCast_add]
          refine ⟨90 - (j + 1), by omega, j + 1, rfl, by omega, ?_, rfl⟩
          intro i hi h1 h2
          have h1 : i + s.length + 2 ≤ 89 := by omega
          rcases Nat.lt_or_ge i j with h3 | h3
          · exact hn i h3 ⟨h1, h2⟩
          · have : i = j := by omega
            subst this
            rw [hgt] at h2
            exact hm h2
      · have hle' : ¬ ((j + s.length + 2 : Nat) : Int) ≤ 89 := by omega
        have hmem : isWordB s = false := by
          unfold isWordB
          rw [decide_eq_false_iff_not, ← hiff]
          rintro ⟨i, h1, h2⟩
          rcases Nat.lt_or_ge i j with h3 | h3
          · exact hn i h3 ⟨h1, h2⟩
          · omega
        simp [L_ref03_IsWord_2, K_ref03_IsWord_2, r0, r4, hw1, hw2, hle', hmem, -Int.natCast_add]
end
end Go.Proofs.Eng
/- The reference of chapter 4, run by the engine: tags and names. -/
set_option linter.unusedVariables false
set_option linter.unusedSimpArgs false
set_option maxRecDepth 100000
namespace Go.Proofs.Eng
open Go
section
variable {Γ : Sums} {A : Tab} {N : Nat → Nat}
/-- A name, or a word. -/
def tagB (s : List UInt8) : Bool := !s.isEmpty && (s.head?.map isLow).getD false && decide (runB isInName s = s.length)
theorem nameB_tag (s : List UInt8) : isNameB s = (tagB s && !isWordB s) := rfl
structure Ref04N (Γ : Sums) (A : Tab) (N : Nat → Nat) : Prop where
  tag : Has Γ A (f_ref04_Tag N) (C_ref04_Tag N)
  name : Has Γ A (f_ref04_Name N) (C_ref04_Name N)
theorem ref04_Tag_call (h : Ref04N Γ A N) (s : List UInt8) (hl : s.length < 2 ^ 40) (H : Hp) : (lim Γ A).call (f_ref04_Tag N) [avStr s] H = some (avBool (tagB s), none) := by
  apply h.tag.call (by rfl)
  simp [C_ref04_Tag, -Int.natCast_add]
  refine wp_round (fun k ρ H' => H' = { l := H.l, d := none } ∧ ∃ i : Nat, ρ 0 = avStr s ∧ ρ 3 = avInt .i64 i ∧ i ≤ s.length ∧ (s.take i).all isInName = true ∧ (0 < i → (s.head?.map isLow).getD false = true) ∧ k = s.length - i) (n := s.length) ⟨rfl, 0, rfl, rfl, by omega, by simp, by omega, rfl⟩ ?_
  rintro k ρ H' ⟨rfl, i, r0, r3, hi, ha, hp, rfl⟩
  have hrd := runB_drop isInName s i ha hi
  by_cases hlt : i < s.length
  · have hlt' : (i : Int) < s.length := by omega
    have hx := asidx_nat (k := .i64) hlt
    have hw : IntKind.wrap .i64 ((i : Int) + 1) = ((i + 1 : Nat) : Int) := by rw [wrap64 (by omega) (by omega)]; omega
    have hd : s.drop i = s[i] :: s.drop (i + 1) := List.drop_eq_getElem_cons hlt
    have hhd : i = 0 → (s.head?.map isLow).getD false = isLow s[i] := by
      rintro rfl
      simp [List.head?_eq_getElem?, List.getElem?_eq_getElem hlt]
    have stopN : isInName s[i] = false → tagB s = false := by
      intro hc
      unfold tagB
      have : runB isInName s = i := by rw [hrd, hd, runB_stop hc]; omega
      simp [this]; omega
    have stop0 : i = 0 → isLow s[i] = false → tagB s = false := by
      intro h0 hc
      unfold tagB
      rw [hhd h0, hc]; simp
    have go : isInName s[i] = true → (s.take (i + 1)).all isInName = true := by
      intro hz
      rw [List.take_succ_eq_append_getElem hlt, List.all_append, ha]; simp [hz]
    have gohd : (i = 0 → isLow s[i] = true) → (s.head?.map isLow).getD false = true := by
      intro hz
      by_cases h0 : i = 0
      · rw [hhd h0, hz h0]
      · exact hp (by omega)
    generalize s[i] = c at *
    have hlow : isLow c = (decide (97 ≤ c.toNat) && decide (c.toNat ≤ 122) || decide (c.toNat = 95)) := rfl
    have hnm : isInName c = (isLow c || (decide (48 ≤ c.toNat) && decide (c.toNat ≤ 57))) := rfl
    have step : isLow c = true ∨ (i ≠ 0 ∧ 48 ≤ c.toNat ∧ c.toNat ≤ 57) → isInName c = true ∧ (i = 0 → isLow c = true) := by
      rintro (h1 | ⟨h1, h2, h3⟩)
      · exact ⟨by rw [hnm, h1]; rfl, fun _ => h1⟩
      · exact ⟨by rw [hnm]; simp [h2, h3], fun h => absurd h h1⟩
    have fin : isLow c = true ∨ (i ≠ 0 ∧ 48 ≤ c.toNat ∧ c.toNat ≤ 57) → ∃ m, m < s.length - i ∧ ∃ i', avInt .i64 ((i + 1 : Nat) : Int) = avInt .i64 (i' : Nat) ∧ i' ≤ s.length ∧ (∀ x ∈ s.take i', isInName x = true) ∧ (0 < i' → (s.head?.map isLow).getD false = true) ∧ m = s.length - i' := by
      intro h1
      obtain ⟨h2, h3⟩ := step h1
      refine ⟨s.length - (i + 1), by omega, i + 1, rfl, by omega, List.all_eq_true.1 (go h2), fun _ => gohd h3, rfl⟩
    by_cases hlw : isLow c = true
    · have hlw2 := hlw
      rw [hlow] at hlw2
      by_cases h95 : c.toNat = 95
      · have a1 : ((c.toNat : Nat) : Int) = 95 := by omega
        simp [L_ref04_Tag_1, r0, r3, hlt', hx, a1, h95, hw, -Int.natCast_add]
        simpa using fin (.inl hlw)
      · have b1 : 97 ≤ c.toNat ∧ c.toNat ≤ 122 := by simpa [h95] using hlw2
        have a1 : (97 : Int) ≤ c.toNat := by omega
        have a2 : (c.toNat : Int) ≤ 122 := by omega
        simp [L_ref04_Tag_1, r0, r3, hlt', hx, a1, a2, b1.1, b1.2, hw, -Int.natCast_add]
        simpa using fin (.inl hlw)
    · have hlw' : isLow c = false := by simpa using hlw
      have hlw2 := hlw'
      rw [hlow] at hlw2
      have h95 : ¬ c.toNat = 95 := by intro h; simp [h] at hlw2
      have hno : ¬ (97 ≤ c.toNat ∧ c.toNat ≤ 122) := by rintro ⟨h1, h2⟩; simp [h1, h2] at hlw2
      have a1 : ¬ ((c.toNat : Nat) : Int) = 95 := by omega
      have key : ∀ (P : Prop), (97 ≤ c.toNat → ¬ c.toNat ≤ 122 → P) → (¬ 97 ≤ c.toNat → P) → P := fun P h1 h2 => by
        by_cases h : 97 ≤ c.toNat
        · exact h1 h fun h' => hno ⟨h, h'⟩
        · exact h2 h
      by_cases h0 : i = 0
      · have ht := stop0 h0 hlw'
        subst h0
        have hx0 : asidx (avStr s) (.lit (.int .i64 0)) = some (avByte c) := hx
        refine key _ (fun b1 b2 => ?_) (fun b1 => ?_)
        · have b1' : (97 : Int) ≤ c.toNat := by omega
          have b2' : ¬ (c.toNat : Int) ≤ 122 := by omega
          simp [L_ref04_Tag_1, r0, r3, hlt, hlt', hx0, a1, h95, b1, b2, b1', b2', ht]
        · have b1' : ¬ (97 : Int) ≤ c.toNat := by omega
          simp [L_ref04_Tag_1, r0, r3, hlt, hlt', hx0, a1, h95, b1, b1', ht]
      · have h0' : ¬ (i : Int) = 0 := by omega
        by_cases hdig : 48 ≤ c.toNat ∧ c.toNat ≤ 57
        · have b1 : ¬ 97 ≤ c.toNat := by omega
          have b1' : ¬ (97 : Int) ≤ c.toNat := by omega
          have c1 : ¬ (c.toNat : Int) < 48 := by omega
          have c2 : ¬ (57 : Int) < c.toNat := by omega
          have d1 : ¬ c.toNat < 48 := by omega
          have d2 : ¬ 57 < c.toNat := by omega
          simp [L_ref04_Tag_1, r0, r3, hlt', hx, a1, h95, b1, b1', h0, h0', c1, c2, d1, d2, hw, -Int.natCast_add]
          simpa using fin (.inr ⟨h0, hdig⟩)
        · have ht := stopN (by rw [hnm, hlw']; simp; omega)
          by_cases c1 : c.toNat < 48
          · have c1' : (c.toNat : Int) < 48 := by omega
            have b1 : ¬ 97 ≤ c.toNat := by omega
            have b1' : ¬ (97 : Int) ≤ c.toNat := by omega
            simp [L_ref04_Tag_1, r0, r3, hlt', hx, a1, h95, b1, b1', h0, h0', c1, c1', ht]
          · have c1' : ¬ (c.toNat : Int) < 48 := by omega
            have d1 : 57 < c.toNat := by omega
            have d1' : (57 : Int) < c.toNat := by omega
            refine key _ (fun b1 b2 => ?_) (fun b1 => ?_)
            · have b1' : (97 : Int) ≤ c.toNat := by omega
              have b2' : ¬ (c.toNat : Int) ≤ 122 := by omega
              simp [L_ref04_Tag_1, r0, r3, hlt', hx, a1, h95, b1, b2, b1', b2', h0, h0', c1, c1', d1, d1', ht]
            · have b1' : ¬ (97 : Int) ≤ c.toNat := by omega
              simp [L_ref04_Tag_1, r0, r3, hlt', hx, a1, h95, b1, b1', h0, h0', c1, c1', d1, d1', ht]
  · have hlt' : ¬ (i : Int) < s.length := by omega
    have hi2 : i = s.length := by omega
    have hrun : runB isInName s = s.length := by rw [hrd, List.drop_of_length_le (by omega)]; simp [runB]; omega
    have ht : tagB s = !decide (s = []) := by
      unfold tagB
      rw [hrun]
      cases s with
      | nil => rfl
      | cons a r => rw [hp (by simp at hi2; omega)]; simp
    simp [L_ref04_Tag_1, K_ref04_Tag_1, r0, r3, hlt', ht]
    try (cases s <;> simp)
theorem ref04_Name_call (h : Ref04N Γ A N) (h3 : Ref03S Γ A N) (s : List UInt8) (hl : s.length < 2 ^ 36) (H : Hp) : (lim Γ A).call (f_ref04_Name N) [avStr s] H = some (avBool (isNameB s), none) := by
  have e1 := fun H => ref04_Tag_call h s (by omega) H
  have e2 := fun H => ref03_IsWord_call h3 s hl H
  rw [nameB_tag]
  apply h.name.call (by rfl)
  cases ht : tagB s
  · simp [C_ref04_Name, e1, ht]
  · simp [C_ref04_Name, e1, e2, ht]
end
end Go.Proofs.Eng
