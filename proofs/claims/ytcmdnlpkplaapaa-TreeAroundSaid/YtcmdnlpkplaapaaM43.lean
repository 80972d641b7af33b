import Derived.Test.YtcmdnlpkplaapaaM35
import Derived.Test.YtcmdnlpkplaapaaM38
import Derived.Test.YtcmdnlpkplaapaaM28
import Derived.Test.YtcmdnlpkplaapaaM27
import Derived.KernelRfl
/- The row of a tree's terms, run by the engine: the iterator. -/
set_option linter.unusedVariables false
set_option linter.unusedSimpArgs false
set_option maxRecDepth 100000
namespace Go.Proofs.Eng
open Go
section
variable {Γ : Sums} {A : Tab} {N : Nat → Nat}
structure WalkC (Γ : Sums) (A : Tab) (N : Nat → Nat) : Prop where
  walk : Has Γ A (f_tree_Walk N) (C_tree_Walk N)
  walk1 : Has Γ A (f_tree_Walk_1 N) (C_tree_Walk_1 N)
  back : Has Γ A (f_slices_Backward_sl_int_int N) (C_slices_Backward_sl_int_int N)
  back1 : Has Γ A (f_slices_Backward_sl_int_int_1 N) (C_slices_Backward_sl_int_int_1 N)
/-- The stack of terms that are left, laid in a heap. -/
structure Todo (N : Nat → Nat) (H : Hp) (n0 q id : Nat) (stk : List Int) : Prop where
  cell : hget H q = some (.cells [.ra 1 id 0 stk.length] (t_sl_int N))
  arr : ∃ all, hget H id = some (.arr 1 all (t_int N)) ∧ all.take stk.length = stk.map (avInt .i64)
  q0 : n0 ≤ q
  id0 : n0 ≤ id
  ne : q ≠ id
theorem Todo.keep {H H' : Hp} {n0 q id : Nat} {stk : List Int} (h : Todo N H n0 q id stk) (k1 : ∀ o, hget H q = some o → hget H' q = some o) (k2 : ∀ o, hget H id = some o → hget H' id = some o) : Todo N H' n0 q id stk := by
  obtain ⟨a, ⟨all, b, c⟩, d, e, f⟩ := h
  exact ⟨k1 _ a, ⟨all, k2 _ b, c⟩, d, e, f⟩
theorem Todo.mut {H H' : Hp} {n0 q id : Nat} {stk : List Int} {W : List Nat} (h : Todo N H n0 q id stk) (k : Mut H H' W) (h1 : q ∉ W) (h2 : id ∉ W) : Todo N H' n0 q id stk :=
  h.keep (fun _ ho => k.get' ho h1) (fun _ ho => k.get' ho h2)
/-- One more, at its end. -/
theorem Todo.push {H : Hp} {n0 q id : Nat} {stk : List Int} (h : Todo N H n0 q id stk) (k : Int) (hl : stk.length < 2 ^ 36) (hn0 : n0 ≤ H.l.length) :
    ∃ v H', appendOn (halloc H (.arr 1 [avInt .i64 k] (t_int N))) (t_int N) 1 8 (.ra 1 id 0 stk.length) [avInt .i64 k] = some (v, some H') ∧ v.good = true ∧ v.cells = [v] ∧ hget H' q = some (.cells [.ra 1 id 0 stk.length] (t_sl_int N)) ∧ Mut H H' [q, id] ∧ H.l.length ≤ H'.l.length ∧
      Todo N (hset H' q (some (.cells [v] (t_sl_int N)))) n0 q (H.l.length + 1) (stk ++ [k]) ∧ Mut H (hset H' q (some (.cells [v] (t_sl_int N)))) [q, id] := by
  obtain ⟨a, ⟨all, b, c⟩, d, e, f⟩ := h
  have hid := hget_lt b
  have hq := hget_lt a
  have b' : hget (halloc H (.arr 1 [avInt .i64 k] (t_int N))) id = some (.arr 1 all (t_int N)) := by rw [hget_halloc, if_neg (by omega)]; exact b
  have hal : stk.length ≤ all.length := by
    have := congrArg List.length c
    simp only [List.length_take, List.length_map] at this
    omega
  have hm1 : Mut H (halloc (hset (halloc H (.arr 1 [avInt .i64 k] (t_int N))) id none) (.arr 1 (stk.map (avInt .i64) ++ [avInt .i64 k]) (t_int N))) [q, id] := (((Mut.refl H _).alloc _).set (.inl (by simp))).alloc _
  refine ⟨.ra 1 (H.l.length + 1) 0 (stk.length + 1), halloc (hset (halloc H (.arr 1 [avInt .i64 k] (t_int N))) id none) (.arr 1 (stk.map (avInt .i64) ++ [avInt .i64 k]) (t_int N)), ?_, rfl, rfl, ?_, hm1, hm1.len, ⟨?_, ⟨_, ?_, List.take_of_length_le (by simp)⟩, d, by omega, by omega⟩, hm1.set (.inl (by simp))⟩
  · simp only [appendOn, b']
    rw [if_pos ⟨trivial, trivial, by omega, by unfold roomMax; simp; omega, by simp⟩]
    simp [c]
  · rw [hget_halloc, if_neg (by simp; omega), hget_hset, if_neg (by omega), hget_halloc, if_neg (by omega)]
    exact a
  · rw [hget_hset, if_pos rfl]
    simp
    omega
  · rw [hget_hset, if_neg (by omega), hget_halloc]
    simp
theorem aload_more {H H' : Hp} {n : Option Nat} {p v : AV} (k : ∀ x o, hget H x = some o → hget H' x = some o) (h : aload H n p = some v) : aload H' n p = some v := by
  unfold aload at h ⊢
  split at h
  · split at h
    · rename_i e; rw [k _ _ e]; exact h
    · cases h
  · split at h
    · rename_i e; rw [k _ _ e]; exact h
    · cases h
  · exact h
  · cases h
theorem walk_gen (hc : TreeC Γ A N) (h : WalkC Γ A N) {cn ct : Nat} {tn tt : TypeId} {a b c : AV} {t : Tr} {n : Int} (ok : t.ok) (hb : t.nodes.length < 2 ^ 30 ∧ t.types.length < 2 ^ 30 ∧ t.als.length < 2 ^ 30) (hck : checkB t = true) (hn0 : 0 ≤ n) (hn1 : n < t.nodes.length) (hW : (walkS t n).length < 2 ^ 30) :
    GenO (lim Γ A) (f_tree_Walk_1 N) [] [.ptr cn 0, .ptr ct 0] (fun H => hget H cn = some (.cells [avInt .i64 n] tn) ∧ hget H ct = some (.cells [a, b, c] tt) ∧ TrR H (.agg [a, b, c]) t) (walkS t n).length
      (fun i H args => ∃ k, (walkS t n)[i]? = some k ∧ args = [avInt .i64 k]) := by
  intro lp H K Kx S0 hlp hS0 hlS hst hV h00 hstep
  have hkids := kids_of_check hck
  suffices hsuf : ∃ r, (lim Γ A).ent (f_tree_Walk_1 N) ([] ++ [AV.yld lp] ++ [.ptr cn 0, .ptr ct 0]) H = some r ∧ ∃ H2, (r.2.getD H).l = H2.l ∧ (r.2.getD H).d = dminO H.d H2.d ∧ ((∃ S, K (walkS t n).length S H2) ∨ Kx H2) by
    obtain ⟨⟨v, g⟩, e, H2, r1, r2, r3⟩ := hsuf
    exact ⟨v, g, H2, e, r1, r2, r3⟩
  obtain ⟨R, hR⟩ : ∃ R : AV × Option Hp → Prop, R = fun r => ∃ H2, (r.2.getD H).l = H2.l ∧ (r.2.getD H).d = dminO H.d H2.d ∧ ((∃ S, K (walkS t n).length S H2) ∨ Kx H2) := ⟨_, rfl⟩
  suffices ∃ r, (lim Γ A).ent (f_tree_Walk_1 N) ([] ++ [AV.yld lp] ++ [.ptr cn 0, .ptr ct 0]) H = some r ∧ R r by simpa [hR] using this
  obtain ⟨v1, v2, v3⟩ := hV 0 S0 _ h00
  have hcall := check_call hc v3 ok hb
  rw [hck] at hcall
  have hcall' : (lim Γ A).call (f_tree_Check N) [.agg [a, b, c]] { l := H.l, d := none } = some (avInt .i64 0, none) := hcall
  obtain ⟨a', b', c', e, ra, rb, rc⟩ := id v3
  cases e
  have la := ra.len
  have pa := ra.one
  have pb := rb.one
  have pc := rc.one
  have g1 : ¬ n < 0 := by omega
  have g2 : ¬ ((t.nodes.length : Int) ≤ n) := by omega
  obtain ⟨W, hWe⟩ : ∃ W, W = walkS t n := ⟨_, rfl⟩
  rw [← hWe] at hR hstep hW
  apply h.walk1.entP (by rfl)
  simp [C_tree_Walk_1, v1, v2, hcall', la, pa, pb, pc, g1, g2, loadC]
  refine wp_round (n := W.length) (fun m ρ H' => ∃ (i : Nat) (S : List Nat) (stk : List Int) (q id : Nat), ρ 0 = .yld lp ∧ ρ 1 = .ptr cn 0 ∧ ρ 2 = .ptr ct 0 ∧ ρ 4 = .ptr q 0 ∧ i ≤ W.length ∧ K i S H' ∧ Todo N H' H.l.length q id stk ∧ q ∉ S ∧ id ∉ S ∧ (∀ s ∈ S, s < H'.l.length) ∧ W.drop i = stk.reverse.flatMap (walkS t) ∧ (∀ k ∈ stk, 0 ≤ k ∧ k < (t.nodes.length : Int)) ∧ H.l.length ≤ H'.l.length ∧
    (i = 0 ∨ ∃ mm, H'.d = some mm ∧ mm ≤ lp) ∧ m = W.length - i) ?_ ?_
  · have hm : Mut { l := H.l, d := none } (hset (halloc (halloc { l := H.l, d := none } (.arr 1 [avInt .i64 n] (t_int N))) (.cells [.lit (.slice none 0 0)] (t_sl_int N))) (H.l.length + 1) (some (.cells [.ra 1 H.l.length 0 1] (t_sl_int N)))) [] :=
      (((Mut.refl _ []).alloc _).alloc _).set (.inr (by simp))
    refine ⟨0, S0, [n], H.l.length + 1, H.l.length, rfl, rfl, rfl, rfl, by omega, ?_, ⟨?_, ⟨[avInt .i64 n], ?_, rfl⟩, by omega, by omega, by omega⟩, ?_, ?_, ?_, ?_, ?_, ?_, .inl rfl, rfl⟩
    · exact hst 0 S0 _ _ [] h00 hm (by simp)
    · simp
    · simp
    · intro hs; have := hS0 _ hs; omega
    · intro hs; have := hS0 _ hs; omega
    · intro s hs; have := hS0 _ hs; simp; omega
    · simp [hWe]
    · intro k hk; simp at hk; subst hk; exact ⟨hn0, hn1⟩
    · simp; omega
  · rintro m ρ H' ⟨i, S, stk, q, id, r0, r1, r2, r4, hi, hK, hT, hqS, hidS, hSl, hD, hstk, hHl, hd, rfl⟩
    obtain ⟨w1, w2, w3⟩ := hV i S H' hK
    rcases List.eq_nil_or_concat stk with rfl | ⟨st, k, rfl⟩
    · have hiW : i = W.length := by
        have := congrArg List.length hD
        simp at this
        omega
      have q1 := hT.cell
      simp at q1
      simp [L_tree_Walk_1_1, r0, r1, r2, r4, q1]
      have hWpos : 0 < W.length := by rw [hWe]; simp [walkS, walkF]
      rcases hd with hd | ⟨mm, d1, d2⟩
      · omega
      · rw [settle_wrote (H := H) (H' := H') (v := .tup []) ⟨mm, d1, by omega⟩, hR]
        refine ⟨H', rfl, rfl, .inl ⟨S, ?_⟩⟩
        rw [← hiW]; exact hK
    · have hW1 : W.drop i = k :: ((kidsT t k).flatMap (walkS t) ++ st.reverse.flatMap (walkS t)) := by
        rw [hD]
        have := hstk k (by simp)
        simp [walkS_eq hkids this.1]
      have hlt : i < W.length := by
        have := congrArg List.length hW1
        simp at this
        omega
      have hWi : W[i]? = some k := by
        have := congrArg (·[0]?) hW1
        simpa using this
      have hk := hstk k (by simp)
      have q1 := hT.cell
      simp at q1
      obtain ⟨all, q2, q3⟩ := hT.arr
      simp at q3
      have hq := hget_lt q1
      have hid := hget_lt q2
      have hsl : st.length < W.length := by
        have := congrArg List.length hD
        simp at this
        have h2 : ∀ l : List Int, l.length ≤ (l.flatMap (walkS t)).length := by
          intro l
          induction l with
          | nil => simp
          | cons x r ih => simp [walkS, walkF] at ih ⊢; omega
        have := h2 st.reverse
        have h3 : (walkS t k).length ≥ 1 := by simp [walkS, walkF]
        simp at *
        omega
      have hg : (0 : Int) < (st.length : Int) + 1 := by omega
      have hal : all[st.length]? = some (avInt .i64 k) := by
        have := congrArg (·[st.length]?) q3
        simp [List.getElem?_take] at this
        exact this
      have hw : IntKind.wrap .i64 (st.length : Int) = (st.length : Int) := by rw [wrap64 (by omega) (by omega)]
      obtain ⟨H1, hH1⟩ : ∃ H1, H1 = hset H' q (some (.cells [.ra 1 id 0 st.length] (t_sl_int N))) := ⟨_, rfl⟩
      have hT1 : Todo N H1 H.l.length q id st := by
        subst hH1
        refine ⟨by rw [hget_hset, if_pos rfl]; simp [hq], ⟨all, by rw [hget_hset, if_neg (fun e => hT.ne e.symm)]; exact q2, ?_⟩, hT.q0, hT.id0, hT.ne⟩
        have := congrArg (List.take st.length) q3
        rw [List.take_take] at this
        simpa using this
      have hM1 : Mut H' H1 [q] := by subst hH1; exact (Mut.refl _ _).set (.inl (by simp))
      have hl1 : H1.l.length = H'.l.length := by subst hH1; simp
      have hK1 : K i S H1 := hst i S H' H1 [q] hK hM1 (by simp; exact ⟨hT.q0, hqS⟩)
      obtain ⟨tt', H'', S', y1, y2, y3, y4, y4', y5, y6⟩ := hstep i S H1 [avInt .i64 k] hlt hK1 ⟨k, hWi, rfl⟩
      have hsl2 : aslice 1 (.ra 1 id 0 (st.length + 1)) none (some (avInt .i64 (st.length : Int))) = some (.ra 1 id 0 st.length) := by
        simp [aslice, aBound]
        rw [if_pos (by omega)]; rfl
      have p1 : aiaddr 1 (.ra 1 id 0 (st.length + 1)) (avInt .i64 (st.length : Int)) = some (.ep id st.length 0) := by
        have := ra_iaddr (id := id) (n := st.length + 1) (k := .i64) (j := (st.length : Int)) (by omega) (by omega)
        simpa using this
      have p2 : aload H' none (.ep id st.length 0) = some (avInt .i64 k) := by simp [aload, q2, hal]
      rw [hH1] at y1
      cases tt' with
      | false =>
        obtain ⟨mm, d1, d2⟩ := y2
        have hsw := settle_wrote (H := H) (H' := H'') (v := .tup []) ⟨mm, d1, by omega⟩
        simp [L_tree_Walk_1_1, r0, r1, r2, r4, q1, hg, hw, p1, p2, hsl2, y1, bindH_opt, hq, -halloc_d, -hset_d]
        rw [hsw, hR]
        exact ⟨H'', rfl, rfl, .inr (y6 rfl)⟩
      | true =>
        obtain ⟨kn, rfl⟩ := Int.eq_ofNat_of_zero_le hk.1
        have hkn : kn < t.nodes.length := by omega
        obtain ⟨nd, hnd⟩ : ∃ nd, t.nodes[kn]? = some nd := ⟨_, List.getElem?_eq_getElem hkn⟩
        have hkk : kidsT t (kn : Int) = nd.kids := by simp [kidsT, hnd]
        have hndl : nd.kids.length < 2 ^ 30 := (ok.1 nd (List.mem_of_getElem? hnd)).2.2.2.1
        have hT2 : Todo N H'' H.l.length q id st := hT1.mut y3 hqS hidS
        have hqS' : q ∉ S' := fun hs => by
          rcases y4 q hs with h | h
          · exact hqS h
          · omega
        have hidS' : id ∉ S' := fun hs => by
          rcases y4 id hs with h | h
          · exact hidS h
          · omega
        obtain ⟨Hk, hHk⟩ : ∃ Hk, Hk = hset (hset H'' q none) id none := ⟨_, rfl⟩
        have hMk : Mut H'' Hk [q, id] := by subst hHk; exact ((Mut.refl _ _).set (.inl (by simp))).set (.inl (by simp))
        have hKk : K (i + 1) S' Hk := hst _ _ _ _ [q, id] (y5 rfl) hMk (by
          intro o ho
          rcases List.mem_cons.1 ho with rfl | ho
          · exact ⟨hT.q0, hqS'⟩
          · rw [List.mem_singleton.1 ho]; exact ⟨hT.id0, hidS'⟩)
        have hkq : ∀ x o, hget Hk x = some o → x ≠ q ∧ x ≠ id ∧ hget H'' x = some o := by
          intro x o hx
          rw [hHk, hget_hset] at hx
          split at hx
          · split at hx <;> cases hx
          · rename_i e1
            rw [hget_hset] at hx
            split at hx
            · split at hx <;> cases hx
            · rename_i e2
              exact ⟨e2, e1, hx⟩
        obtain ⟨p, p', v, f1, f2, f3, f4⟩ := (hV _ _ _ hKk).2.2.kid (k := .i64) hnd
        have f3' := aload_more (fun x o hx => (hkq x o hx).2.2) f3
        obtain ⟨u1, u2, u3⟩ := hV _ _ _ (y5 rfl)
        have f5 : ∀ Hj : Hp, (∀ x, x < H''.l.length → x ≠ q → x ≠ id → hget Hj x = hget H'' x) → VI Hj v nd.kids := by
          intro Hj hj
          rcases f4 with f4 | ⟨vid, off, et, va, e0, e1, e2⟩
          · exact .inl f4
          · obtain ⟨b1, b2, b3⟩ := hkq _ _ e1
            exact .inr ⟨vid, off, et, va, e0, by rw [hj vid (hget_lt b3) b1 b2]; exact b3, e2⟩
        obtain ⟨H3, hH3⟩ : ∃ H3, H3 = halloc H'' (.cells [v] (t_sl_int N)) := ⟨_, rfl⟩
        have hback : (lim Γ A).call (f_slices_Backward_sl_int_int N) [v] H'' = some (.fn (f_slices_Backward_sl_int_int_1 N) [] [.ptr H''.l.length 0], some H3) := by
          rw [back_call h.back H'' (f5 H'' (fun _ _ _ _ => rfl)), hH3]
          cases hd3 : H''.d <;> simp [halloc, dminO, hd3]
        have hM3 : Mut H'' H3 [] := by subst hH3; exact (Mut.refl _ _).alloc _
        have hl3 : H3.l.length = H''.l.length + 1 := by subst hH3; simp
        have hT3 : Todo N H3 H.l.length q id st := hT2.mut hM3 (by simp) (by simp)
        have hq2 := hget_lt hT2.cell
        obtain ⟨all2, q22, _⟩ := hT2.arr
        have hid2 := hget_lt q22
        have hb3 : hget H3 H''.l.length = some (.cells [v] (t_sl_int N)) := by subst hH3; simp
        have hfin : st.length + nd.kids.length < 2 ^ 31 := by omega
        obtain ⟨I, hI⟩ : ∃ I : Nat → List Nat → Hp → Prop, I = fun j Sj Hj => ∃ idj, Sj = [q, idj] ∧ Todo N Hj H.l.length q idj (st ++ nd.kids.reverse.take j) ∧ hget Hj H''.l.length = some (.cells [v] (t_sl_int N)) ∧ (∀ x, x < H''.l.length → x ≠ q → x ≠ id → hget Hj x = hget H'' x) ∧ H3.l.length ≤ Hj.l.length ∧ (idj = id ∨ H3.l.length < idj) := ⟨_, rfl⟩
        simp [L_tree_Walk_1_1, r0, r1, r2, r4, q1, hg, hw, p1, p2, hsl2, y1, bindH_opt, hq, u2, f1, f2, f3', hback, loadC, -halloc_d, -hset_d]
        refine wp_range_mut (S0 := [q, id]) rfl (back_gen h.back1 (c := H''.l.length) (tc := t_sl_int N) (x := v) (ks := nd.kids) (by omega)) rfl ?_ I ?_ ?_ ?_ ?_ ?_
        · intro s hs
          rcases List.mem_cons.1 hs with rfl | hs
          · omega
          · rw [List.mem_singleton.1 hs]; omega
        · rw [hI]
          rintro j Sj Ha Hb ⟨idj, z1, z2, z3, z4, z5, z6⟩ hle hsame
          have hqa := hget_lt z2.cell
          obtain ⟨allj, za, _⟩ := z2.arr
          have hia := hget_lt za
          refine ⟨idj, z1, z2.keep (fun o ho => by rw [hsame q hqa (by omega)]; exact ho) (fun o ho => by rw [hsame idj hia (by omega)]; exact ho), by rw [hsame _ (hget_lt z3) (by omega)]; exact z3, fun x hx h1 h2 => by rw [hsame x (by omega) (by omega)]; exact z4 x hx h1 h2, by omega, z6⟩
        · rw [hI]
          rintro j Sj Ha ⟨idj, z1, z2, z3, z4, z5, z6⟩
          exact ⟨z3, f5 _ z4⟩
        · rw [hI]
          exact ⟨id, rfl, by simpa using hT3, hb3, fun x hx h1 h2 => hM3.get hx (by simp), Nat.le_refl _, .inl rfl⟩
        · rintro j hj Sj Ha args hnS hIa ⟨k', jj, hk', rfl⟩
          refine ⟨rfl, ?_⟩
          simp [L_tree_Walk_1_2]
          intro H1' hI1 hle o ho hgo
          have hIb := hI1
          rw [hI] at hIb
          obtain ⟨idj, z1, z2, z3, z4, z5, z6⟩ := hIb
          have hjl : (st ++ nd.kids.reverse.take j).length < 2 ^ 36 := by simp; omega
          have hy3 := y3.len
          obtain ⟨v', Hp', e1, e2, e3, e4, e5, e6, e7, e8⟩ := z2.push k' hjl (by have := hget_lt z3; omega)
          have z2c := z2.cell
          have hqp := hget_lt e4
          generalize hxx : AV.ra 1 idj 0 (st ++ nd.kids.reverse.take j).length = xx at *
          have hxx1 : xx.good = true ∧ xx.cells = [xx] := by rw [← hxx]; exact ⟨rfl, rfl⟩
          have htk : st ++ nd.kids.reverse.take j ++ [k'] = st ++ nd.kids.reverse.take (j + 1) := by
            rw [List.append_assoc, List.take_add_one, hk']; rfl
          rw [htk] at e7
          simp [L_tree_Walk_1_3, r4, z2c, asElems, e1, e2, e3, e4, bindH_opt, loadC, -halloc_d, -hset_d]
          refine ⟨by rw [z1]; exact e8, [q, H1'.l.length + 1], ?_, ?_⟩
          · intro s hs
            rcases List.mem_cons.1 hs with rfl | hs
            · exact .inl (by rw [z1]; simp)
            · rw [List.mem_singleton.1 hs]; exact .inr (by omega)
          · rw [hI]
            have he8 := e8.len
            refine ⟨H1'.l.length + 1, rfl, e7, e8.get' z3 ?_, fun x hx h1 h2 => ?_, by omega, .inr (by omega)⟩
            · simp; omega
            · rw [e8.get (by omega) (by simp; omega)]; exact z4 x hx h1 h2
        · rintro H4 S4 hI4 hM4 hS4 ⟨e, he⟩
          rw [hI] at hI4
          obtain ⟨idj, z1, z2, z3, z4, z5, z6⟩ := hI4
          rw [List.take_of_length_le (l := nd.kids.reverse) (by simp)] at z2
          have z2c := z2.cell
          have hh := hget_lt z3
          have hy3 := y3.len
          simp [K_tree_Walk_1_1, r4, z2c, loadC, -halloc_d, -hset_d]
          have hMM : Mut H'' (hset (halloc H4 (.cells [.lit (.slice none 0 0)] (t_sl_int N))) H4.l.length (some (.cells [.ra 1 idj 0 (st.length + nd.kids.length)] (t_sl_int N)))) [q, id] := by
            have a1 : Mut H'' H3 [q, id] := by rw [hH3]; exact (Mut.refl _ _).alloc _
            exact ((a1.trans hM4 (fun s hs => .inl hs)).alloc _).set (.inr (by omega))
          obtain ⟨al, za, zb⟩ := z2.arr
          have hia := hget_lt za
          have hd3 : H3.d = H''.d := by rw [hH3]; simp
          have hdd : ∃ mm, (hset (halloc H4 (.cells [.lit (.slice none 0 0)] (t_sl_int N))) H4.l.length (some (.cells [.ra 1 idj 0 (st.length + nd.kids.length)] (t_sl_int N)))).d = some mm ∧ mm ≤ lp := by
            obtain ⟨mm, d1, d2⟩ := y2
            rw [hd3, d1] at he
            cases e with
            | none => simp [he, dminO] ; omega
            | some e' => simp [he, dminO]; omega
          refine ⟨W.length - (i + 1), by omega, r0, r1, r2, i + 1, by omega, S', hst _ _ _ _ [q, id] (y5 rfl) hMM ?_, st ++ nd.kids.reverse, idj, ⟨?_, ⟨al, ?_, zb⟩, by omega, z2.id0, by omega⟩, ?_, ?_, ?_, ?_, ?_, by omega, .inr hdd, rfl⟩
          · intro o ho
            rcases List.mem_cons.1 ho with rfl | ho
            · exact ⟨hT.q0, hqS'⟩
            · rw [List.mem_singleton.1 ho]; exact ⟨hT.id0, hidS'⟩
          · rw [hget_hset, if_pos rfl]; simp
          · rw [hget_hset, if_neg (by omega), hget_halloc, if_neg (by omega)]; exact za
          · intro hs; have := y4' _ hs; omega
          · intro hs
            have := y4' _ hs
            rcases z6 with rfl | z6
            · exact hidS' hs
            · omega
          · intro s hs; have := y4' _ hs; omega
          · have : W.drop (i + 1) = (W.drop i).drop 1 := by rw [List.drop_drop]
            rw [this, hW1, hkk]
            simp
          · intro k hk
            rcases List.mem_append.1 hk with hk | hk
            · exact hstk k (by simp [hk])
            · have := hkids kn nd hnd k (by simpa using hk)
              omega
end
end Go.Proofs.Eng
/- What an iterator tells, as a row; are two rows the same: run by the engine. -/
set_option linter.unusedVariables false
set_option linter.unusedSimpArgs false
set_option maxRecDepth 100000
namespace Go.Proofs.Eng
open Go
theorem Row.push2 {e e' : TypeId} {sz bytes : Nat} {x y : AV} {es : List AV} {os r : List (Nat × AObj)} {H0 H : Hp} (h : Row e sz x es os) (hl : Loc H0 H (os ++ r)) (hb : (es.length + 1) * bytes ≤ roomMax) (hg : (y.good && y.cells.length == sz) = true) :
    ∃ v H' os', appendOn (halloc H (.arr sz [y] e')) e sz bytes x [y] = some (v, some H') ∧ Row e sz v (es ++ [y]) os' ∧ Loc H0 H' (os' ++ r) ∧ Mut H H' (os.map Prod.fst) ∧ (∀ q ∈ os', H.l.length ≤ q.1) ∧ v.good = true ∧ v.cells = [v] := by
  have hL1 := (hl.alloc (.arr sz [y] e')).perm (os' := os ++ (H.l.length, .arr sz [y] e') :: r) List.perm_middle.symm
  have hr : (os ++ r).Sublist (os ++ (H.l.length, .arr sz [y] e') :: r) := List.Sublist.append (List.Sublist.refl _) (List.sublist_cons_self _ _)
  rcases h with ⟨rfl, rfl, rfl⟩ | ⟨id, rfl, rfl⟩
  · refine ⟨.ra sz (H.l.length + 1) 0 1, halloc (halloc H (.arr sz [y] e')) (.arr sz [y] e), [(H.l.length + 1, .arr sz [y] e)], ?_, .inr ⟨H.l.length + 1, by simp, by simp⟩, ?_, ((Mut.refl _ _).alloc _).alloc _, by simp, rfl, rfl⟩
    · simp only [appendOn, avNilS]
      rw [if_pos ⟨by simpa using hb, by simpa using hg⟩]
      simp
    · have := (hL1.sub hr).alloc (.arr sz [y] e)
      simpa using this
  · have h1 := hl.head
    have hid := hget_lt h1
    have h1' : hget (halloc H (.arr sz [y] e')) id = some (.arr sz es e) := by rw [hget_halloc, if_neg (by omega)]; exact h1
    refine ⟨.ra sz (H.l.length + 1) 0 (es.length + 1), halloc (hset (halloc H (.arr sz [y] e')) id none) (.arr sz (es ++ [y]) e), [(H.l.length + 1, .arr sz (es ++ [y]) e)], ?_, .inr ⟨H.l.length + 1, by simp, by simp⟩, ?_, (((Mut.refl _ _).alloc _).set (.inl (by simp))).alloc _, by simp, rfl, rfl⟩
    · simp only [appendOn, h1']
      rw [if_pos ⟨trivial, trivial, by omega, by simpa using hb, by simpa using hg⟩]
      simp
    · have := ((hL1.sub hr).kill).alloc (.arr sz (es ++ [y]) e)
      simpa using this
theorem Row.one' {e : TypeId} {sz : Nat} {x : AV} {es : List AV} {os : List (Nat × AObj)} (h : Row e sz x es os) : x.one = true := by
  rcases h with ⟨rfl, _⟩ | ⟨id, rfl, _⟩ <;> rfl
theorem Loc.toMut {H H' : Hp} {os : List (Nat × AObj)} (h : Loc H H' os) : Mut { l := H.l, d := none } H' [] := ⟨h.len, fun i hi _ => h.old i hi, fun m hm => .inr (.inl (h.d m hm))⟩
section
variable {Γ : Sums} {A : Tab} {N : Nat → Nat}
theorem lawAll_call (h : Has Γ A (f_law04_all N) (C_law04_all N)) {g : FuncId} {cs : List AV} {V : Hp → Prop} {ws : List Int} {H : Hp}
    (hg : GenO (lim Γ A) g [] cs V ws.length (fun i H args => ∃ k, ws[i]? = some k ∧ args = [avInt .i64 k])) (hV : ∀ H', Keep H H' → V H') (hw : ws.length < 2 ^ 30) (hw0 : ws ≠ []) :
    ∃ v g', (lim Γ A).call (f_law04_all N) [.fn g [] cs] H = some (v, some g') ∧ Mut H g' [] ∧ ∃ id, v = .ra 1 id 0 ws.length ∧ hget g' id = some (.arr 1 (ws.map (avInt .i64)) (t_int N)) ∧ H.l.length ≤ id := by
  obtain ⟨R, hR⟩ : ∃ R : AV × Option Hp → Prop, R = fun r => ∃ v g', r = (v, some g') ∧ Mut H g' [] ∧ ∃ id, v = .ra 1 id 0 ws.length ∧ hget g' id = some (.arr 1 (ws.map (avInt .i64)) (t_int N)) ∧ H.l.length ≤ id := ⟨_, rfl⟩
  suffices ∃ r, (lim Γ A).call (f_law04_all N) [.fn g [] cs] H = some r ∧ R r by
    obtain ⟨r, e, hr⟩ := this
    rw [hR] at hr
    obtain ⟨v, g', rfl, h1, h2⟩ := hr
    exact ⟨v, g', e, h1, h2⟩
  apply h.callP (by rfl)
  have L1 := (Loc.start H).alloc (.cells [avNilS] (t_sl_int N))
  obtain ⟨I, hI⟩ : ∃ I : Nat → List (Nat × AObj) → Prop, I = fun i os' => ∃ x os, os' = os ++ [(H.l.length, .cells [x] (t_sl_int N))] ∧ Row (t_int N) 1 x ((ws.take i).map (avInt .i64)) os := ⟨_, rfl⟩
  simp [C_law04_all, -halloc_d, -hset_d]
  refine wp_rangeFnO (g := g) (fs := []) (cs := cs) rfl hg rfl L1 I (fun _ _ => False) ?_ (by rw [hI]; exact ⟨avNilS, [], rfl, by simpa using Row.nil _ _⟩) ?_ ?_
  · rintro i H' l o os' hL _
    exact hV _ hL.kp
  · rintro i hi l lo lb H' os'' args hlo hlb hL hIi ⟨k, hk, rfl⟩
    refine ⟨rfl, ?_⟩
    simp [L_law04_all_1]
    refine ⟨os'', hL, Mut.refl _ _, fun H1 hL1 hM1 => ?_⟩
    rw [hI] at hIi
    obtain ⟨x, os, rfl, hrow⟩ := hIi
    have hL2 : Loc H H1 (os ++ [(l, lb), (H.l.length, .cells [x] (t_sl_int N))]) := hL1.perm (List.perm_middle (a := (l, lb)) (l₁ := os) (l₂ := [(H.l.length, .cells [x] (t_sl_int N))])).symm
    have hrl : ((ws.take i).map (avInt .i64)).length = i := by simp; omega
    obtain ⟨v, H2, os2, e1, e2, e3, e4, e5, e6, e7⟩ := hrow.push2 (e' := t_int N) (bytes := 8) (y := avInt .i64 k) hL2 (by rw [hrl]; unfold roomMax; omega) rfl
    have c1 := hL2.get (p := (H.l.length, .cells [x] (t_sl_int N))) (by simp)
    have c2 := e3.get (p := (H.l.length, .cells [x] (t_sl_int N))) (by simp)
    simp only at c1 c2
    have hrow' : (ws.take i).map (avInt .i64) ++ [avInt .i64 k] = (ws.take (i + 1)).map (avInt .i64) := by
      rw [List.take_add_one, hk]; simp
    rw [hrow'] at e2
    have e3' : Loc H H2 ((os2 ++ [(l, lb)]) ++ (H.l.length, .cells [x] (t_sl_int N)) :: []) := by simpa using e3
    have e8 := e3'.setMid (.cells [v] (t_sl_int N))
    have e9 : Loc H (hset H2 H.l.length (some (.cells [v] (t_sl_int N)))) ((l, lb) :: (os2 ++ [(H.l.length, .cells [v] (t_sl_int N))])) := by
      refine e8.perm ?_
      simp only [List.append_assoc, List.singleton_append]
      exact List.perm_middle
    have hM2 : Mut H' (hset H2 H.l.length (some (.cells [v] (t_sl_int N)))) (l :: (os ++ [(H.l.length, AObj.cells [x] (t_sl_int N))]).map Prod.fst) :=
      (hM1.trans e4 (fun s hs => .inl (by simp at hs ⊢; exact .inr (.inl hs)))).set (.inl (by simp))
    have hlen := hM1.len
    simp [L_law04_all_2, c1, asElems, e1, e6, e7, c2, bindH_opt, loadC, hrow.one', -halloc_d, -hset_d]
    refine ⟨_, e9, by simpa using hM2, fun s o hs => ?_, by rw [hI]; exact ⟨v, os2, rfl, e2⟩⟩
    rcases List.mem_append.1 hs with hs | hs
    · have := e5 _ hs
      simp only at this
      exact .inr (by omega)
    · simp at hs
      exact .inl ⟨.cells [x] (t_sl_int N), .inr ⟨hs.1, rfl⟩⟩
  · rintro x H2 os2 hL hx
    rcases hx with ⟨rfl, hx⟩ | ⟨_, hx⟩
    · rw [hI] at hx
      obtain ⟨x, os, rfl, hrow⟩ := hx
      rw [List.take_length] at hrow
      have c1 := hL.get (p := (H.l.length, .cells [x] (t_sl_int N))) (by simp)
      simp only at c1
      rcases hrow with ⟨rfl, h2, rfl⟩ | ⟨id, rfl, rfl⟩
      · simp at h2; exact absurd h2 hw0
      · have c2 := hL.get (p := (id, .arr 1 (ws.map (avInt .i64)) (t_int N))) (by simp)
        have c3 := hL.ge (p := (id, .arr 1 (ws.map (avInt .i64)) (t_int N))) (by simp)
        simp only at c2 c3
        simp [K_law04_all_1, c1, loadC]
        rw [settle_some (by simp [AV.under, AV.unders]; omega), hR]
        refine ⟨_, _, rfl, (hL.toMut).settled, id, by simp, c2, c3⟩
    · exact hx.elim
theorem lawSame_call (h : Has Γ A (f_law04_same N) (C_law04_same N)) {H : Hp} {x y : AV} {a b : List Int} (hx : VI H x a) (hy : VI H y b) (ha : a.length < 2 ^ 60) (hab : a = b) : (lim Γ A).call (f_law04_same N) [x, y] H = some (avBool true, none) := by
  subst hab
  have lx := VI.len hx
  have ly := VI.len hy
  apply h.call (by rfl)
  simp [C_law04_same, lx, ly, settle, keeps]
  refine wp_round (n := a.length) (fun m ρ H' => ∃ i : Nat, ρ 0 = x ∧ ρ 1 = y ∧ ρ 12 = avInt .i64 (a.length : Nat) ∧ ρ 13 = avInt .i64 (i : Nat) ∧ i ≤ a.length ∧ H' = { l := H.l, d := none } ∧ m = a.length - i) ⟨0, rfl, rfl, rfl, rfl, by omega, rfl, rfl⟩ ?_
  rintro m ρ H' ⟨i, r0, r1, r12, r13, hi, rfl, rfl⟩
  by_cases hlt : i < a.length
  · have hlt' : (i : Int) < a.length := by omega
    obtain ⟨p, p1, p2⟩ := (hx.dd none).at' (k := .i64) (i := (i : Int)) (e := avInt .i64 a[i]) (by omega) (by simp [hlt]) rfl rfl rfl
    obtain ⟨q, q1, q2⟩ := (hy.dd none).at' (k := .i64) (i := (i : Int)) (e := avInt .i64 a[i]) (by omega) (by simp [hlt]) rfl rfl rfl
    have hw : IntKind.wrap .i64 ((i : Int) + 1) = ((i + 1 : Nat) : Int) := by rw [wrap64 (by omega) (by omega)]; omega
    simp [L_law04_same_1, r0, r1, r12, r13, hlt', p1, p2, q1, q2, hw, -Int.natCast_add]
    exact ⟨a.length - (i + 1), by omega, i + 1, rfl, by omega, rfl⟩
  · have hlt' : ¬ (i : Int) < a.length := by omega
    simp [L_law04_same_1, K_law04_same_1, r0, r1, r12, r13, hlt', settle, keeps]
end
end Go.Proofs.Eng
/- A function around a tree: the plain laws. -/
set_option linter.unusedVariables false
set_option linter.unusedSimpArgs false
namespace Go.Proofs.Eng
open Go
def funN (name : List UInt8) (n : Nat) : Nd := ⟨5, 0, name, 0, 0, [], [(n : Int) - 1], []⟩
def around (t : Tr) (name : List UInt8) : Tr := ⟨t.nodes ++ [funN name t.nodes.length], t.types, t.als⟩
theorem funN_term (name : List UInt8) (n : Nat) : termB (funN name n) = isNameB name := by
  simp [termB, funN, shapeOf, namedB, fitB]
theorem noteS_app {b : Int} {r : List Int} : ∀ {ks ct : List Int}, b ≤ ct.length → noteS (ct ++ r) ks b = ((noteS ct ks b).1, (noteS ct ks b).2 ++ r)
  | [], ct, _ => rfl
  | k :: ks, ct, hb => by
    unfold noteS
    split
    · rfl
    · rename_i hk
      have : (ct ++ r).modify k.toNat bump = ct.modify k.toNat bump ++ r := by
        apply List.ext_getElem?
        intro y
        simp only [List.getElem?_modify, List.getElem?_append, List.length_modify]
        by_cases hy : y < ct.length
        · simp [hy]
        · have : k.toNat ≠ y := by omega
          simp [hy, this]
      rw [this, noteS_app (by simpa using hb)]
theorem nodesS_app {ty : Nat} {r : List Int} : ∀ {l : List Nd} {i : Nat} {ct cy : List Int}, i + l.length ≤ ct.length → nodesS ty l i (ct ++ r) cy = (nodesS ty l i ct cy).map fun p => (p.1 ++ r, p.2)
  | [], i, ct, cy, _ => rfl
  | n :: l, i, ct, cy, h => by
    have hl : (n :: l).length = l.length + 1 := rfl
    unfold nodesS
    rw [noteS_app (by omega)]
    split
    · rcases h1 : noteS ct n.kids i with ⟨b1, ct'⟩
      have hlen : ct'.length = ct.length := by have := noteS_len n.kids ct i; rw [h1] at this; exact this
      cases b1 with
      | false => rfl
      | true =>
        rcases h2 : noteS cy n.types ty with ⟨b2, cy'⟩
        cases b2 with
        | false => simp
        | true => simp only; exact nodesS_app (by omega)
    · rfl
theorem nodesS_snoc {ty : Nat} {x : Nd} : ∀ {l : List Nd} {i : Nat} {ct cy : List Int}, nodesS ty (l ++ [x]) i ct cy = (nodesS ty l i ct cy).bind fun p => nodesS ty [x] (i + l.length) p.1 p.2
  | [], i, ct, cy => by simp [nodesS]
  | n :: l, i, ct, cy => by
    simp only [List.cons_append]
    rw [nodesS]
    conv => rhs; rw [nodesS]
    split
    · rcases h1 : noteS ct n.kids i with ⟨b1, ct'⟩
      cases b1 with
      | false => rfl
      | true =>
        rcases h2 : noteS cy n.types ty with ⟨b2, cy'⟩
        cases b2 with
        | false => rfl
        | true => simp only; rw [nodesS_snoc]; congr 1; funext p; congr 1; simp; omega
    · rfl
theorem nodesS_len {ty : Nat} : ∀ {l : List Nd} {i : Nat} {ct cy : List Int} {p}, nodesS ty l i ct cy = some p → p.1.length = ct.length
  | [], i, ct, cy, p, h => by simp [nodesS] at h; rw [← h]
  | n :: l, i, ct, cy, p, h => by
    rw [nodesS] at h
    split at h
    · rcases h1 : noteS ct n.kids i with ⟨b1, ct'⟩
      have hlen : ct'.length = ct.length := by have := noteS_len n.kids ct i; rw [h1] at this; exact this
      rw [h1] at h
      cases b1 with
      | false => simp at h
      | true =>
        rcases h2 : noteS cy n.types ty with ⟨b2, cy'⟩
        rw [h2] at h
        cases b2 with
        | false => simp at h
        | true => simp only at h; rw [nodesS_len h, hlen]
    · cases h
theorem checkB_around {t : Tr} {name : List UInt8} (h0 : 0 < t.nodes.length) (h1 : t.nodes.length ≤ 50) : checkB (around t name) = (checkB t && isNameB name) := by
  have hrep : List.replicate (t.nodes.length + 1) (0 : Int) = List.replicate t.nodes.length 0 ++ [0] := by rw [List.replicate_succ']
  unfold checkB around
  simp only [List.length_append, List.length_singleton]
  rw [hrep, nodesS_snoc, nodesS_app (by simp)]
  have e1 : (t.nodes ++ [funN name t.nodes.length]).isEmpty = false := by simp
  have e2 : t.nodes.isEmpty = false := by cases hn : t.nodes with | nil => rw [hn] at h0; simp at h0 | cons => rfl
  have e3 : decide (t.nodes.length + 1 ≤ 65536) = true := by simp; omega
  have e4 : decide (t.nodes.length ≤ 65536) = true := by simp; omega
  rw [e1, e2, e3, e4]
  simp only [Bool.not_false, Bool.true_and]
  rw [Bool.and_assoc]
  congr 1
  cases hn : nodesS t.types.length t.nodes 0 (List.replicate t.nodes.length 0) (List.replicate t.types.length 0) with
  | none => simp
  | some p =>
    obtain ⟨ct, cy⟩ := p
    have hl := nodesS_len hn
    simp only [List.length_replicate] at hl
    simp only [Option.map_some, Option.bind_some]
    have hx : nodesS t.types.length [funN name t.nodes.length] (0 + t.nodes.length) (ct ++ [0]) cy = if isNameB name then some (lastUp ct ++ [0], cy) else none := by
      rw [nodesS, funN_term]
      split
      · have e5 : noteS (ct ++ [0]) (funN name t.nodes.length).kids ((0 + t.nodes.length : Nat) : Int) = (true, lastUp ct ++ [0]) := by
          rw [noteS_app (by omega)]
          have : (funN name t.nodes.length).kids = [(t.nodes.length : Int) - 1] := rfl
          rw [this]
          unfold noteS
          rw [if_neg (by omega)]
          simp only [noteS, lastUp]
          congr 3
          omega
        rw [e5]
        have e6 : noteS cy (funN name t.nodes.length).types (t.types.length : Int) = (true, cy) := rfl
        rw [e6]
        rfl
      · rfl
    rw [hx]
    cases hnm : isNameB name with
    | false => simp
    | true =>
      simp only [if_true, Bool.and_true]
      unfold endS
      simp only
      have hlu : lastUp (lastUp ct ++ [0]) = lastUp ct ++ [1] := by
        have hll : (lastUp ct).length = ct.length := by simp [lastUp]
        unfold lastUp at *
        apply List.ext_getElem?
        intro y
        have hb : bump 0 = 1 := by decide
        simp only [List.getElem?_modify, List.getElem?_append, List.length_append, List.length_modify, List.length_singleton]
        by_cases hy : y < ct.length
        · have h2 : ct.length + 1 - 1 ≠ y := by omega
          have h3 : ct.length ≠ y := by omega
          simp [hy, h2, h3]
        · by_cases hy2 : y = ct.length
          · subst hy2; simp [hb]
          · have h3 : y - ct.length ≠ 0 := by omega
            simp [hy, List.getElem?_eq_none, show 1 ≤ y - ct.length by omega]
      rw [hlu]
      split
      · split
        · simp
        · rfl
      · rfl
/-! ### Walks -/
theorem kidsT_around {t : Tr} {name : List UInt8} {k : Int} (hk : k.toNat < t.nodes.length) : kidsT (around t name) k = kidsT t k := by
  unfold kidsT around
  rw [List.getElem?_append_left hk]
theorem walkF_around {t : Tr} {name : List UInt8} (h : Kids t) : ∀ (f : Nat) (k : Int), 0 ≤ k → k.toNat < t.nodes.length → walkF (around t name) f k = walkF t f k
  | 0, _, _, _ => rfl
  | f + 1, k, h0, hk => by
    simp only [walkF]
    rw [kidsT_around hk]
    congr 1
    exact flatMap_congr' fun j hj => by
      have := h.at h0 j hj
      exact walkF_around h f j this.1 (by omega)
theorem walkS_around {t : Tr} {name : List UInt8} (h : Kids t) (hu : Kids (around t name)) (h0 : 0 < t.nodes.length) : walkS (around t name) t.nodes.length = (t.nodes.length : Int) :: walkS t ((t.nodes.length : Int) - 1) := by
  rw [walkS_eq hu (by omega)]
  have : kidsT (around t name) (t.nodes.length : Int) = [(t.nodes.length : Int) - 1] := by
    unfold kidsT around
    simp [funN]
  rw [this]
  simp only [List.flatMap_cons, List.flatMap_nil, List.append_nil]
  congr 1
  exact walkF_around h _ _ (by omega) (by omega)
theorem walkS_root {t : Tr} (ok : t.ok) (h : checkB t = true) : ((walkS t ((t.nodes.length : Int) - 1)).length : Int) = t.nodes.length := by
  have hk := kids_of_check h
  obtain ⟨h1, h2, _, ct, cy, h3, h4⟩ := checkB_parts h
  have h0 : 0 < t.nodes.length := List.length_pos_iff.2 h1
  obtain ⟨sz, hsz⟩ : ∃ sz : Nat → Int, sz = fun (k : Nat) => ((walkS t (k : Int)).length : Int) := ⟨_, rfl⟩
  have hsum := nodesS_sum (sz := sz) (cap := 2 ^ 30) (by omega) (by omega) (B := 0) h3 (fun j n hj => by
    refine ⟨?_, by have := (ok.1 n (List.mem_of_getElem? hj)).2.2.2.1; omega⟩
    rw [hsz]
    simp only [Nat.zero_add]
    rw [walkS_eq hk (by omega)]
    have hkk : kidsT t (j : Int) = n.kids := by unfold kidsT; simp [hj]
    rw [hkk]
    simp only [List.length_cons]
    have : ∀ l : List Int, (∀ k ∈ l, 0 ≤ k) → (((l.flatMap (walkS t)).length : Nat) : Int) = (l.map fun k => ((walkS t (k.toNat : Int)).length : Int)).sum := by
      intro l hl
      induction l with
      | nil => rfl
      | cons a r ih =>
        have := ih (fun k hk => hl k (by simp [hk]))
        have ha : ((a.toNat : Nat) : Int) = a := Int.toNat_of_nonneg (hl a (by simp))
        simp only [List.flatMap_cons, List.length_append, List.map_cons, List.sum_cons, ha]
        push_cast
        omega
    have h5 := this n.kids (fun k hk' => (hk j n hj k hk').1)
    push_cast
    omega) (by simp) (by simp) (by omega)
  obtain ⟨s1, s2, s3⟩ := hsum
  simp only [List.length_replicate] at s2
  have hall : lastUp ct = List.replicate t.nodes.length 1 := by
    unfold endS at h4
    split at h4
    · split at h4
      · rw [Bool.and_eq_true] at h4
        have ha := h4.1
        rw [List.all_eq_true] at ha
        refine List.eq_replicate_iff.2 ⟨by simp [lastUp, s2], fun c hc => by simpa using ha c hc⟩
      · cases h4
    · cases h4
  have hm := wsum_modify ct sz (ct.length - 1) (by omega) (fun c hc => by have := s3 c hc; omega)
  rw [show ct.modify (ct.length - 1) bump = lastUp ct from rfl, hall, s1, wsum_zero] at hm
  have e : (fun j => sz (0 + j)) = sz := by funext j; congr 1; omega
  rw [e, s2] at hm
  have hl : sz (t.nodes.length - 1) = t.nodes.length := by omega
  rw [hsz] at hl
  simp only at hl
  rw [show ((t.nodes.length : Int) - 1) = ((t.nodes.length - 1 : Nat) : Int) by omega]
  exact hl
/-! ### Depths -/
theorem snocInd {α : Type} {p : List α → Prop} (nil : p []) (append_singleton : ∀ (l : List α) (a : α), p l → p (l ++ [a])) (l : List α) : p l := by
  rw [← List.reverse_reverse l]
  induction l.reverse with
  | nil => exact nil
  | cons a r ih => rw [List.reverse_cons]; exact append_singleton _ _ ih
theorem kidsD_le {R : List Int} {B : Int} (hR : ∀ c ∈ R, c ≤ B) (hB : 0 ≤ B) : ∀ {ks : List Int} {acc : Int}, acc ≤ B → kidsD R acc ks ≤ B
  | [], acc, h => h
  | k :: r, acc, h => by
    unfold kidsD
    refine kidsD_le hR hB ?_
    rw [List.getD_eq_getElem?_getD]
    cases hk : R[k.toNat]? with
    | none => simp; omega
    | some c => have := hR c (List.mem_of_getElem? hk); simp; omega
theorem kidsD_ge {R : List Int} : ∀ {ks : List Int} {acc : Int}, acc ≤ kidsD R acc ks
  | [], acc => Int.le_refl _
  | k :: r, acc => by
    unfold kidsD
    have := kidsD_ge (R := R) (ks := r) (acc := max acc (R.getD k.toNat 0))
    omega
theorem bump_le {c B : Int} (h0 : 0 ≤ c) (h : c ≤ B) (hB : B < 2 ^ 60) : bump c ≤ B + 1 := by
  unfold bump; rw [wrap64 (by omega) (by omega)]; omega
theorem tyD_le : ∀ (l : List Ty), l.length < 2 ^ 30 → ∀ c ∈ tyD l, c ≤ l.length := by
  intro l
  induction l using snocInd with
  | nil => intro _ c hc; simp [tyD] at hc
  | append_singleton l n ih =>
    intro hl c hc
    simp only [List.length_append, List.length_singleton] at hl ⊢
    rw [tyD_snoc] at hc
    rcases List.mem_append.1 hc with hc | hc
    · have := ih (by omega) c hc; push_cast; omega
    · simp only [List.mem_singleton] at hc
      rw [hc]
      have := bump_le (c := kidsD (tyD l) 0 n.kids) (B := l.length) kidsD_ge (kidsD_le (ih (by omega)) (by omega) (by omega)) (by omega)
      push_cast; omega
theorem ndD_le {ty : List Int} {T : Int} (hT : ∀ c ∈ ty, c ≤ T) (hT0 : 0 ≤ T) (hT1 : T < 2 ^ 40) : ∀ (l : List Nd), l.length < 2 ^ 30 → ∀ c ∈ ndD ty l, c ≤ T + l.length := by
  intro l
  induction l using snocInd with
  | nil => intro _ c hc; simp [ndD] at hc
  | append_singleton l n ih =>
    intro hl c hc
    simp only [List.length_append, List.length_singleton] at hl ⊢
    rw [ndD_snoc] at hc
    rcases List.mem_append.1 hc with hc | hc
    · have := ih (by omega) c hc; push_cast; omega
    · simp only [List.mem_singleton] at hc
      rw [hc]
      have h1 := kidsD_le (R := ndD ty l) (B := T + l.length) (ih (by omega)) (by omega) (ks := n.kids) (acc := 0) (by omega)
      have h2 := kidsD_le (R := ty) (B := T + l.length) (fun c hc => by have := hT c hc; omega) (by omega) (ks := n.types) h1
      have h3 : (0 : Int) ≤ kidsD ty (kidsD (ndD ty l) 0 n.kids) n.types := Int.le_trans kidsD_ge kidsD_ge
      have := bump_le h3 h2 (by omega)
      push_cast; omega
theorem mostD_le {m : Int} : ∀ (l : List Int), m ≤ mostD m l ∧ ∀ c ∈ l, c ≤ mostD m l := by
  intro l
  induction l using snocInd with
  | nil => exact ⟨Int.le_refl _, by simp⟩
  | append_singleton l x ih =>
    rw [mostD_snoc]
    refine ⟨by omega, fun c hc => ?_⟩
    rcases List.mem_append.1 hc with hc | hc
    · have := ih.2 c hc; omega
    · simp only [List.mem_singleton] at hc; omega
theorem mostD_ub {m B : Int} (hm : m ≤ B) : ∀ (l : List Int), (∀ c ∈ l, c ≤ B) → mostD m l ≤ B := by
  intro l
  induction l using snocInd with
  | nil => intro _; exact hm
  | append_singleton l x ih =>
    intro h
    rw [mostD_snoc]
    have := ih (fun c hc => h c (by simp [hc]))
    have := h x (by simp)
    omega
theorem depth_around {t : Tr} {name : List UInt8} (h0 : 0 < t.nodes.length) (h1 : t.nodes.length < 2 ^ 29) (h2 : t.types.length < 2 ^ 29) :
    (depthS (around t name) = depthS t ∨ depthS (around t name) = depthS t + 1) ∧ 0 ≤ depthS t ∧ depthS t < 2 ^ 31 := by
  have hty := tyD_le t.types (by omega)
  have hnd := ndD_le hty (by omega) (by omega) t.nodes (by omega)
  have hm0 := mostD_le (m := 0) (tyD t.types)
  have hm1 := mostD_le (m := mostD 0 (tyD t.types)) (ndD (tyD t.types) t.nodes)
  have hub := mostD_ub (m := mostD 0 (tyD t.types)) (B := t.types.length + t.nodes.length) (by have := mostD_ub (m := 0) (B := t.types.length) (by omega) (tyD t.types) hty; omega) (ndD (tyD t.types) t.nodes) hnd
  have hD : depthS t = mostD (mostD 0 (tyD t.types)) (ndD (tyD t.types) t.nodes) := rfl
  have hU : depthS (around t name) = max (depthS t) (bump (kidsD (ndD (tyD t.types) t.nodes) 0 [(t.nodes.length : Int) - 1])) := by
    show mostD (mostD 0 (tyD t.types)) (ndD (tyD t.types) (t.nodes ++ [funN name t.nodes.length])) = _
    rw [ndD_snoc, mostD_snoc]
    rfl
  have hk := kidsD_le (R := ndD (tyD t.types) t.nodes) (B := depthS t) (by rw [hD]; exact hm1.2) (by rw [hD]; omega) (ks := [(t.nodes.length : Int) - 1]) (acc := 0) (by rw [hD]; omega)
  have hk0 : (0 : Int) ≤ kidsD (ndD (tyD t.types) t.nodes) 0 [(t.nodes.length : Int) - 1] := kidsD_ge
  have hb := bump_le hk0 hk (by rw [hD]; omega)
  rw [hD] at *
  refine ⟨by omega, by omega, by omega⟩
end Go.Proofs.Eng
/- The reference of chapter 3, run by the engine: signs, names. -/
set_option linter.unusedVariables false
set_option linter.unusedSimpArgs false
set_option maxRecDepth 100000
namespace Go.Proofs.Eng
open Go
section
variable {Γ : Sums} {A : Tab} {N : Nat → Nat}
end
end Go.Proofs.Eng
/- Digits' numbers. -/
set_option linter.unusedVariables false
set_option linter.unusedSimpArgs false
namespace Go.Proofs.Eng
open Go
end Go.Proofs.Eng
/- The reference of chapter 3, run by the engine: numbers, strings, signs. -/
set_option linter.unusedVariables false
set_option linter.unusedSimpArgs false
set_option maxRecDepth 100000
namespace Go.Proofs.Eng
open Go
section
variable {Γ : Sums} {A : Tab} {N : Nat → Nat}
@[simp] theorem abin_subB {c : UInt8} {n : Int} : abin .sub (avByte c) (.lit (.int .u8 n)) = some (avInt .u8 (IntKind.wrap .u8 (c.toNat - n))) := by simp [avByte]

end
end Go.Proofs.Eng
/- The reference of chapter 3, run by the engine: signs. -/
set_option linter.unusedVariables false
set_option linter.unusedSimpArgs false
set_option maxRecDepth 100000
namespace Go.Proofs.Eng
open Go
section
variable {Γ : Sums} {A : Tab} {N : Nat → Nat}
end
end Go.Proofs.Eng
/- The reference of chapter 3, run by the engine: words. -/
set_option linter.unusedVariables false
set_option linter.unusedSimpArgs false
set_option maxRecDepth 100000
namespace Go.Proofs.Eng
open Go
section
variable {Γ : Sums} {A : Tab} {N : Nat → Nat}
def wordsC : List UInt8 := [32, 102, 117, 110, 32, 108, 101, 116, 32, 114, 101, 99, 32, 105, 110, 32, 105, 102, 32, 116, 104, 101, 110, 32, 101, 108, 115, 101, 32, 99, 97, 115, 101, 32, 111, 102, 32, 101, 110, 100, 32, 116, 114, 117, 101, 32, 102, 97, 108, 115, 101, 32, 105, 110, 116, 32, 98, 111, 111, 108, 32, 115, 116, 114, 32, 102, 108, 111, 97, 116, 32, 100, 121, 110, 32, 97, 110, 121, 32, 110, 111, 110, 101, 32, 116, 121, 112, 101, 32]
theorem wordsC_eq : (32 :: 102 :: 117 :: 110 :: 32 :: 108 :: 101 :: 116 :: 32 :: 114 :: 101 :: 99 :: 32 :: 105 :: 110 :: 32 :: 105 :: 102 :: 32 :: 116 :: 104 :: 101 :: 110 :: 32 :: 101 :: 108 :: 115 :: 101 :: 32 :: 99 :: 97 :: 115 :: 101 :: 32 :: 111 :: 102 :: 32 :: 101 :: 110 :: 100 :: 32 :: 116 :: 114 :: 117 :: 101 :: 32 :: 102 :: 97 :: 108 :: 115 :: 101 :: 32 :: 105 :: 110 :: 116 :: 32 :: 98 :: 111 :: 111 :: 108 :: 32 :: 115 :: 116 :: 114 :: 32 :: 102 :: 108 :: 111 :: 97 :: 116 :: 32 :: 100 :: 121 :: 110 :: 32 :: 97 :: 110 :: 121 :: 32 :: 110 :: 111 :: 110 :: 101 :: 32 :: 116 :: 121 :: 112 :: 101 :: 32 :: [] : List UInt8) = wordsC := by kernel_rfl
def az (c : UInt8) : Bool := decide (97 ≤ c.toNat) && decide (c.toNat ≤ 122)
theorem words_fwd (i n : Nat) (hi : i < 90) (hn : n < 90) (h1 : ((wordsC.drop (i + 1)).take n).all az = true) (h2 : (wordsC.drop (i + 1)).take n ≠ []) (h3 : (wordsC.drop i).take (n + 2) = 32 :: ((wordsC.drop (i + 1)).take n ++ [32])) : (wordsC.drop (i + 1)).take n ∈ wordsL := by
  have : (List.range 90).all (fun i => (List.range 90).all fun n => let s := (wordsC.drop (i + 1)).take n; !(s.all az && !s.isEmpty && (wordsC.drop i).take (n + 2) == 32 :: (s ++ [32])) || wordsL.contains s) = true := by decide +kernel
  rw [List.all_eq_true] at this
  have := this i (by simp; exact hi)
  rw [List.all_eq_true] at this
  have := this n (by simp; exact hn)
  have e : ((wordsC.drop (i + 1)).take n).isEmpty = false := by simpa using h2
  simp only [h1, e, h3, Bool.not_false, Bool.and_self, beq_self_eq_true, Bool.not_true, Bool.false_or, List.contains_iff_mem] at this
  exact this
theorem words_bwd {s : List UInt8} (h : s ∈ wordsL) : s.all az = true ∧ s ≠ [] ∧ ∃ i, i + s.length + 2 ≤ 89 ∧ (wordsC.drop i).take (s.length + 2) = 32 :: (s ++ [32]) := by
  have : ∀ s ∈ wordsL, s.all az = true ∧ s ≠ [] ∧ ((List.range 90).any fun i => decide (i + s.length + 2 ≤ 89) && (wordsC.drop i).take (s.length + 2) == 32 :: (s ++ [32])) = true := by decide +kernel
  obtain ⟨h1, h2, h3⟩ := this s h
  refine ⟨h1, h2, ?_⟩
  rw [List.any_eq_true] at h3
  obtain ⟨i, _, h4⟩ := h3
  rw [Bool.and_eq_true, decide_eq_true_eq, beq_iff_eq] at h4
  exact ⟨i, h4⟩
theorem words_iff {s : List UInt8} (h1 : s.all az = true) (h2 : s ≠ []) : (∃ i, i + s.length + 2 ≤ 89 ∧ (wordsC.drop i).take (s.length + 2) = 32 :: (s ++ [32])) ↔ s ∈ wordsL := by
  constructor
  · rintro ⟨i, hi, h3⟩
    have e : (wordsC.drop (i + 1)).take s.length = s := by
      have h4 := congrArg (fun l => (l.drop 1).take s.length) h3
      simpa [List.drop_take, List.take_take] using h4
    have := words_fwd i s.length (by omega) (by omega) (by rw [e]; exact h1) (by rw [e]; exact h2) (by rw [e]; exact h3)
    rwa [e] at this
  · intro h
    exact (words_bwd h).2.2

end
end Go.Proofs.Eng
/- The reference of chapter 4, run by the engine: tags and names. -/
set_option linter.unusedVariables false
set_option linter.unusedSimpArgs false
set_option maxRecDepth 100000
namespace Go.Proofs.Eng
open Go
section
variable {Γ : Sums} {A : Tab} {N : Nat → Nat}
/-- A name, or a word. -/
def tagB (s : List UInt8) : Bool := !s.isEmpty && (s.head?.map isLow).getD false && decide (runB isInName s = s.length)
theorem nameB_tag (s : List UInt8) : isNameB s = (tagB s && !isWordB s) := rfl
structure Ref04N (Γ : Sums) (A : Tab) (N : Nat → Nat) : Prop where
  tag : Has Γ A (f_ref04_Tag N) (C_ref04_Tag N)
  name : Has Γ A (f_ref04_Name N) (C_ref04_Name N)
theorem ref04_Tag_call (h : Ref04N Γ A N) (s : List UInt8) (hl : s.length < 2 ^ 40) (H : Hp) : (lim Γ A).call (f_ref04_Tag N) [avStr s] H = some (avBool (tagB s), none) := by
  apply h.tag.call (by rfl)
  simp [C_ref04_Tag, -Int.natCast_add]
  refine wp_round (fun k ρ H' => H' = { l := H.l, d := none } ∧ ∃ i : Nat, ρ 0 = avStr s ∧ ρ 3 = avInt .i64 i ∧ i ≤ s.length ∧ (s.take i).all isInName = true ∧ (0 < i → (s.head?.map isLow).getD false = true) ∧ k = s.length - i) (n := s.length) ⟨rfl, 0, rfl, rfl, by omega, by simp, by omega, rfl⟩ ?_
  rintro k ρ H' ⟨rfl, i, r0, r3, hi, ha, hp, rfl⟩
  have hrd := runB_drop isInName s i ha hi
  by_cases hlt : i < s.length
  · have hlt' : (i : Int) < s.length := by omega
    have hx := asidx_nat (k := .i64) hlt
    have hw : IntKind.wrap .i64 ((i : Int) + 1) = ((i + 1 : Nat) : Int) := by rw [wrap64 (by omega) (by omega)]; omega
    have hd : s.drop i = s[i] :: s.drop (i + 1) := List.drop_eq_getElem_cons hlt
    have hhd : i = 0 → (s.head?.map isLow).getD false = isLow s[i] := by
      rintro rfl
      simp [List.head?_eq_getElem?, List.getElem?_eq_getElem hlt]
    have stopN : isInName s[i] = false → tagB s = false := by
      intro hc
      unfold tagB
      have : runB isInName s = i := by rw [hrd, hd, runB_stop hc]; omega
      simp [this]; omega
    have stop0 : i = 0 → isLow s[i] = false → tagB s = false := by
      intro h0 hc
      unfold tagB
      rw [hhd h0, hc]; simp
    have go : isInName s[i] = true → (s.take (i + 1)).all isInName = true := by
      intro hz
      rw [List.take_succ_eq_append_getElem hlt, List.all_append, ha]; simp [hz]
    have gohd : (i = 0 → isLow s[i] = true) → (s.head?.map isLow).getD false = true := by
      intro hz
      by_cases h0 : i = 0
      · rw [hhd h0, hz h0]
      · exact hp (by omega)
    generalize s[i] = c at *
    have hlow : isLow c = (decide (97 ≤ c.toNat) && decide (c.toNat ≤ 122) || decide (c.toNat = 95)) := rfl
    have hnm : isInName c = (isLow c || (decide (48 ≤ c.toNat) && decide (c.toNat ≤ 57))) := rfl
    have step : isLow c = true ∨ (i ≠ 0 ∧ 48 ≤ c.toNat ∧ c.toNat ≤ 57) → isInName c = true ∧ (i = 0 → isLow c = true) := by
      rintro (h1 | ⟨h1, h2, h3⟩)
      · exact ⟨by rw [hnm, h1]; rfl, fun _ => h1⟩
      · exact ⟨by rw [hnm]; simp [h2, h3], fun h => absurd h h1⟩
    have fin : isLow c = true ∨ (i ≠ 0 ∧ 48 ≤ c.toNat ∧ c.toNat ≤ 57) → ∃ m, m < s.length - i ∧ ∃ i', avInt .i64 ((i + 1 : Nat) : Int) = avInt .i64 (i' : Nat) ∧ i' ≤ s.length ∧ (∀ x ∈ s.take i', isInName x = true) ∧ (0 < i' → (s.head?.map isLow).getD false = true) ∧ m = s.length - i' := by
      intro h1
      obtain ⟨h2, h3⟩ := step h1
      refine ⟨s.length - (i + 1), by omega, i + 1, rfl, by omega, List.all_eq_true.1 (go h2), fun _ => gohd h3, rfl⟩
    by_cases hlw : isLow c = true
    · have hlw2 := hlw
      rw [hlow] at hlw2
      by_cases h95 : c.toNat = 95
      · have a1 : ((c.toNat : Nat) : Int) = 95 := by omega
        simp [L_ref04_Tag_1, r0, r3, hlt', hx, a1, h95, hw, -Int.natCast_add]
        simpa using fin (.inl hlw)
      · have b1 : 97 ≤ c.toNat ∧ c.toNat ≤ 122 := by simpa [h95] using hlw2
        have a1 : (97 : Int) ≤ c.toNat := by omega
        have a2 : (c.toNat : Int) ≤ 122 := by omega
        simp [L_ref04_Tag_1, r0, r3, hlt', hx, a1, a2, b1.1, b1.2, hw, -Int.natCast_add]
        simpa using fin (.inl hlw)
    · have hlw' : isLow c = false := by simpa using hlw
      have hlw2 := hlw'
      rw [hlow] at hlw2
      have h95 : ¬ c.toNat = 95 := by intro h; simp [h] at hlw2
      have hno : ¬ (97 ≤ c.toNat ∧ c.toNat ≤ 122) := by rintro ⟨h1, h2⟩; simp [h1, h2] at hlw2
      have a1 : ¬ ((c.toNat : Nat) : Int) = 95 := by omega
      have key : ∀ (P : Prop), (97 ≤ c.toNat → ¬ c.toNat ≤ 122 → P) → (¬ 97 ≤ c.toNat → P) → P := fun P h1 h2 => by
        by_cases h : 97 ≤ c.toNat
        · exact h1 h fun h' => hno ⟨h, h'⟩
        · exact h2 h
      by_cases h0 : i = 0
      · have ht := stop0 h0 hlw'
        subst h0
        have hx0 : asidx (avStr s) (.lit (.int .i64 0)) = some (avByte c) := hx
        refine key _ (fun b1 b2 => ?_) (fun b1 => ?_)
        · have b1' : (97 : Int) ≤ c.toNat := by omega
          have b2' : ¬ (c.toNat : Int) ≤ 122 := by omega
          simp [L_ref04_Tag_1, r0, r3, hlt, hlt', hx0, a1, h95, b1, b2, b1', b2', ht]
        · have b1' : ¬ (97 : Int) ≤ c.toNat := by omega
          simp [L_ref04_Tag_1, r0, r3, hlt, hlt', hx0, a1, h95, b1, b1', ht]
      · have h0' : ¬ (i : Int) = 0 := by omega
        by_cases hdig : 48 ≤ c.toNat ∧ c.toNat ≤ 57
        · have b1 : ¬ 97 ≤ c.toNat := by omega
          have b1' : ¬ (97 : Int) ≤ c.toNat := by omega
          have c1 : ¬ (c.toNat : Int) < 48 := by omega
          have c2 : ¬ (57 : Int) < c.toNat := by omega
          have d1 : ¬ c.toNat < 48 := by omega
          have d2 : ¬ 57 < c.toNat := by omega
          simp [L_ref04_Tag_1, r0, r3, hlt', hx, a1, h95, b1, b1', h0, h0', c1, c2, d1, d2, hw, -Int.natCast_add]
          simpa using fin (.inr ⟨h0, hdig⟩)
        · have ht := stopN (by rw [hnm, hlw']; simp; omega)
          by_cases c1 : c.toNat < 48
          · have c1' : (c.toNat : Int) < 48 := by omega
            have b1 : ¬ 97 ≤ c.toNat := by omega
            have b1' : ¬ (97 : Int) ≤ c.toNat := by omega
            simp [L_ref04_Tag_1, r0, r3, hlt', hx, a1, h95, b1, b1', h0, h0', c1, c1', ht]
          · have c1' : ¬ (c.toNat : Int) < 48 := by omega
            have d1 : 57 < c.toNat := by omega
            have d1' : (57 : Int) < c.toNat := by omega
            refine key _ (fun b1 b2 => ?_) (fun b1 => ?_)
            · have b1' : (97 : Int) ≤ c.toNat := by omega
              have b2' : ¬ (c.toNat : Int) ≤ 122 := by omega
              simp [L_ref04_Tag_1, r0, r3, hlt', hx, a1, h95, b1, b2, b1', b2', h0, h0', c1, c1', d1, d1', ht]
            · have b1' : ¬ (97 : Int) ≤ c.toNat := by omega
              simp [L_ref04_Tag_1, r0, r3, hlt', hx, a1, h95, b1, b1', h0, h0', c1, c1', d1, d1', ht]
  · have hlt' : ¬ (i : Int) < s.length := by omega
    have hi2 : i = s.length := by omega
    have hrun : runB isInName s = s.length := by rw [hrd, List.drop_of_length_le (by omega)]; simp [runB]; omega
    have ht : tagB s = !decide (s = []) := by
      unfold tagB
      rw [hrun]
      cases s with
      | nil => rfl
      | cons a r => rw [hp (by simp at hi2; omega)]; simp
    simp [L_ref04_Tag_1, K_ref04_Tag_1, r0, r3, hlt', ht]
    try (cases s <;> simp)
end
end Go.Proofs.Eng
/- The reference's names, with its words alone. -/
set_option linter.unusedVariables false
set_option linter.unusedSimpArgs false
set_option maxRecDepth 100000
namespace Go.Proofs.Eng
open Go
section
variable {Γ : Sums} {A : Tab} {N : Nat → Nat}
theorem ref03_IsWord_call' (h : Has Γ A (f_ref03_IsWord N) (C_ref03_IsWord N)) (s : List UInt8) (hl : s.length < 2 ^ 36) (H : Hp) : (lim Γ A).call (f_ref03_IsWord N) [avStr s] H = some (avBool (isWordB s), none) := by
  apply h.call (by rfl)
  by_cases hne : s = []
  · subst hne
    simp [C_ref03_IsWord, isWordB]
    decide
  · have hne' : ¬ (s = []) := hne
    simp [C_ref03_IsWord, hne, -Int.natCast_add]
    refine wp_round (fun k ρ H' => H' = { l := H.l, d := none } ∧ ∃ i : Nat, ρ 0 = avStr s ∧ ρ 3 = avInt .i64 i ∧ i ≤ s.length ∧ (s.take i).all az = true ∧ k = s.length - i) (n := s.length) ⟨rfl, 0, rfl, rfl, by omega, by simp, rfl⟩ ?_
    rintro k ρ H' ⟨rfl, i, r0, r3, hi, ha, rfl⟩
    by_cases hlt : i < s.length
    · have hlt' : (i : Int) < s.length := by omega
      have hx := asidx_nat (k := .i64) hlt
      have hno : az s[i] = false → isWordB s = false := by
        intro hz
        unfold isWordB
        rw [decide_eq_false_iff_not]
        intro hm
        have := (words_bwd hm).1
        rw [List.all_eq_true] at this
        rw [this _ (List.getElem_mem hlt)] at hz
        cases hz
      have hgo : az s[i] = true → (s.take (i + 1)).all az = true := by
        intro hz
        rw [List.take_succ_eq_append_getElem hlt, List.all_append, ha]; simp [hz]
      generalize s[i] = c at *
      by_cases h97 : c.toNat < 97
      · have h97' : (c.toNat : Int) < 97 := by omega
        have hz := hno (by simp [az]; omega)
        simp [L_ref03_IsWord_1, r0, r3, hlt', hx, h97', hz]
      · have h97' : ¬ (c.toNat : Int) < 97 := by omega
        by_cases h122 : 122 < c.toNat
        · have h122' : (122 : Int) < c.toNat := by omega
          have hz := hno (by simp [az]; omega)
          simp [L_ref03_IsWord_1, r0, r3, hlt', hx, h97', h122', hz]
        · have h122' : ¬ (122 : Int) < c.toNat := by omega
          have hw : IntKind.wrap .i64 ((i : Int) + 1) = ((i + 1 : Nat) : Int) := by rw [wrap64 (by omega) (by omega)]; omega
          have hg := hgo (by simp [az]; omega)
          simp [L_ref03_IsWord_1, r0, r3, hlt', hx, h97', h122', hw, -Int.natCast_add]
          exact ⟨s.length - (i + 1), by omega, i + 1, rfl, by omega, List.all_eq_true.1 hg, rfl⟩
    · have hlt' : ¬ (i : Int) < s.length := by omega
      rw [List.take_of_length_le (by omega)] at ha
      have hiff := words_iff ha hne
      simp [L_ref03_IsWord_1, K_ref03_IsWord_1, r0, r3, hlt', -Int.natCast_add]
      refine wp_round (fun k ρ H' => H' = { l := H.l, d := none } ∧ ∃ j : Nat, ρ 0 = avStr s ∧ ρ 4 = avInt .i64 j ∧ j ≤ 90 ∧ (∀ i < j, ¬ (i + s.length + 2 ≤ 89 ∧ (wordsC.drop i).take (s.length + 2) = 32 :: (s ++ [32]))) ∧ k = 90 - j) (n := 90) ⟨rfl, 0, ?_, ?_, by omega, by omega, rfl⟩ ?_
      · simp [r0]
      · simp
      rintro k ρ H' ⟨rfl, j, r0, r4, hj, hn, rfl⟩
      have hw1 : IntKind.wrap .i64 ((j : Int) + (s.length : Int)) = ((j + s.length : Nat) : Int) := by rw [wrap64 (by omega) (by omega)]; omega
      have hw2 : IntKind.wrap .i64 (((j + s.length : Nat) : Int) + 2) = ((j + s.length + 2 : Nat) : Int) := by rw [wrap64 (by omega) (by omega)]; omega
      by_cases hle : j + s.length + 2 ≤ 89
      · have hle' : ((j + s.length + 2 : Nat) : Int) ≤ 89 := by omega
        have hcut : aslstr (avStr wordsC) (some (avInt .i64 (j : Int))) (some (avInt .i64 ((j + s.length + 2 : Nat) : Int))) = some (avStr ((wordsC.drop j).take (s.length + 2))) := by
          rw [aslstr_cut (by omega) (by omega) (by show _ ≤ 89; omega)]
          simp only [Int.toNat_natCast]
          rw [show j + s.length + 2 - j = s.length + 2 from by omega]
        have hadd1 := abin_strAdd (s := mkS [32]) (t := mkS s) (by simp; omega)
        have hadd2 := abin_strAdd (s := mkS ([32] ++ s)) (t := mkS [32]) (by simp; omega)
        simp only [bl_mkS, List.cons_append, List.nil_append] at hadd1 hadd2
        by_cases hm : (wordsC.drop j).take (s.length + 2) = 32 :: (s ++ [32])
        · have hmem : isWordB s = true := by simpa [isWordB] using hiff.1 ⟨j, hle, hm⟩
          rw [hm] at hcut
          simp [L_ref03_IsWord_2, wordsC_eq, r0, r4, hw1, hw2, hle', hcut, hadd1, hadd2, hmem, -Int.natCast_add]
        · have hw3 : IntKind.wrap .i64 ((j : Int) + 1) = ((j + 1 : Nat) : Int) := by rw [wrap64 (by omega) (by omega)]; omega
          generalize hgt : (wordsC.drop j).take (s.length + 2) = t at *
          simp [L_ref03_IsWord_2, wordsC_eq, r0, r4, hw1, hw2, hw3, hle', hcut, hadd1, hadd2, hm, -Int.natCast_add]
          refine ⟨90 - (j + 1), by omega, j + 1, rfl, by omega, ?_, rfl⟩
          intro i hi h1 h2
          have h1 : i + s.length + 2 ≤ 89 := by omega
          rcases Nat.lt_or_ge i j with h3 | h3
          · exact hn i h3 ⟨h1, h2⟩
          · have : i = j := by omega
            subst this
            rw [hgt] at h2
            exact hm h2
      · have hle' : ¬ ((j + s.length + 2 : Nat) : Int) ≤ 89 := by omega
        have hmem : isWordB s = false := by
          unfold isWordB
          rw [decide_eq_false_iff_not, ← hiff]
          rintro ⟨i, h1, h2⟩
          rcases Nat.lt_or_ge i j with h3 | h3
          · exact hn i h3 ⟨h1, h2⟩
          · omega
        simp [L_ref03_IsWord_2, K_ref03_IsWord_2, r0, r4, hw1, hw2, hle', hmem, -Int.natCast_add]
theorem ref04_Name_call' (h : Ref04N Γ A N) (h3 : Has Γ A (f_ref03_IsWord N) (C_ref03_IsWord N)) (s : List UInt8) (hl : s.length < 2 ^ 36) (H : Hp) : (lim Γ A).call (f_ref04_Name N) [avStr s] H = some (avBool (isNameB s), none) := by
  have e1 := fun H => ref04_Tag_call h s (by omega) H
  have e2 := fun H => ref03_IsWord_call' h3 s hl H
  rw [nameB_tag]
  apply h.name.call (by rfl)
  cases ht : tagB s
  · simp [C_ref04_Name, e1, ht]
  · simp [C_ref04_Name, e1, e2, ht]
end
end Go.Proofs.Eng
/- The law TreeAround, run for whatever is drawn. -/
set_option linter.unusedVariables false
set_option linter.unusedSimpArgs false
set_option maxRecDepth 100000
namespace Go.Proofs.Eng
open Go
section
variable {Γ : Sums} {A : Tab} {N : Nat → Nat}
structure AroundC (Γ : Sums) (A : Tab) (N : Nat → Nat) : Prop where
  check : TreeC Γ A N
  depth : Has Γ A (f_tree_Depth N) (C_tree_Depth N)
  walk : WalkC Γ A N
  few : Has Γ A (f_law04_Few N) (C_law04_Few N)
  all : Has Γ A (f_law04_all N) (C_law04_all N)
  same : Has Γ A (f_law04_same N) (C_law04_same N)
  tag : Ref04N Γ A N
  word : Has Γ A (f_ref03_IsWord N) (C_ref03_IsWord N)
theorem asElems_ra {H : Hp} {sz id off n : Nat} : asElems H (.ra sz id off n) = (match hget H id with | some (.arr _ es _) => if off + n ≤ es.length then some ((es.drop off).take n) else none | _ => none) := rfl
theorem one_gc {x : AV} (h : x.one = true) : x.good = true ∧ x.cells = [x] := by
  cases x <;> first | exact ⟨h, rfl⟩ | (simp [AV.one] at h)
/-- A tree, and a function around it, laid. -/
theorem around_tr {H : Hp} {a b c : AV} {t : Tr} {name : List UInt8} {id kid : Nat} {xs : List AV} {e1 e2 : TypeId} (hx : TrR { l := [], d := none } (.agg [a, b, c]) t) (x1 : Vw { l := [], d := none } 8 a xs)
    (x2 : xs.length = t.nodes.length) (x3 : ∀ (i : Nat) (y : AV) (n : Nd), xs[i]? = some y → t.nodes[i]? = some n → NdR { l := [], d := none } y n)
    (h1 : hget H id = some (.arr 8 (xs ++ [.agg [avInt .i64 5, avInt .i64 0, avStr name, avInt .i64 0, avInt .u64 0, avNilS, .ra 1 kid 0 1, avNilS]]) e1)) (h2 : hget H kid = some (.arr 1 [avInt .i64 ((t.nodes.length : Int) - 1)] e2)) :
    TrR H (.agg [.ra 8 id 0 (xs.length + 1), b, c]) (around t name) := by
  have kb : Keep { l := [], d := none } H := fun id hid => by simp at hid
  obtain ⟨a', b', c', e, ra, rb, rc⟩ := kb.tr hx
  cases e
  refine ⟨_, _, _, rfl, ⟨xs ++ [.agg [avInt .i64 5, avInt .i64 0, avStr name, avInt .i64 0, avInt .u64 0, avNilS, .ra 1 kid 0 1, avNilS]], .inr ⟨id, 0, e1, _, by simp, h1, by simp, by rw [List.drop_zero, List.take_of_length_le (by simp)]⟩, by simp [around, x2], fun i y n hy hn => ?_⟩, rb, rc⟩
  by_cases hi : i < xs.length
  · rw [List.getElem?_append_left hi] at hy
    rw [around, List.getElem?_append_left (by omega)] at hn
    exact kb.nd (x3 i y n hy hn)
  · have hi2 := (List.getElem?_eq_some_iff.1 hy).1
    have : i = xs.length := by simp at hi2; omega
    subst this
    simp at hy
    rw [around, x2] at hn
    simp at hn
    subst hy; subst hn
    exact ⟨avNilS, .ra 1 kid 0 1, avNilS, rfl, .inl (.inl ⟨rfl, rfl⟩), .inr ⟨kid, 0, e2, _, rfl, h2, by simp [funN], by simp [funN]⟩, .inl (.inl ⟨rfl, rfl⟩)⟩
/-- All that was is as it was, and more may be there. -/
structure Gr (H H' : Hp) : Prop where
  kp : Keep H H'
  le : H.l.length ≤ H'.l.length
theorem Gr.trans {A B C : Hp} (h : Gr A B) (k : Gr B C) : Gr A C := ⟨h.kp.trans k.kp h.le, Nat.le_trans h.le k.le⟩
theorem Gr.old {H H' : Hp} (h : Gr H H') {i : Nat} {o : AObj} (e : hget H i = some o) : hget H' i = some o := by rw [h.kp i (hget_lt e), e]
theorem Gr.al (H : Hp) (o : AObj) : Gr H (halloc H o) := ⟨fun id hid => by simp [Nat.ne_of_lt hid], by simp⟩
theorem Gr.dd {H : Hp} {l : List (Option AObj)} {d d' : Option Nat} (h : Gr H { l := l, d := d }) : Gr H { l := l, d := d' } := ⟨h.kp, h.le⟩
/-- What tree.Walk hands on. -/
def WalkV (N : Nat → Nat) (a b c : AV) (n : Int) (v : AV) (g : Hp) : Prop := ∃ p q, v = .fn (f_tree_Walk_1 N) [] [.ptr p 0, .ptr q 0] ∧ hget g p = some (.cells [avInt .i64 n] (t_int N)) ∧ hget g q = some (.cells [a, b, c] (t_api_Tree N))
theorem WalkV.keep {a b c : AV} {n : Int} {v : AV} {g g' : Hp} (h : WalkV N a b c n v g) (k : Gr g g') : WalkV N a b c n v g' := by
  obtain ⟨p, q, e, h1, h2⟩ := h
  exact ⟨p, q, e, k.old h1, k.old h2⟩
theorem step_walk (h : WalkC Γ A N) {a b c : AV} {n : Int} {H : Hp} (ha : a.one = true) (hb : b.one = true) (hc : c.one = true) :
    ∃ v g, (lim Γ A).call (f_tree_Walk N) [.agg [a, b, c], avInt .i64 n] H = some (v, some g) ∧ WalkV N a b c n v g ∧ Gr H g := by
  refine ⟨_, _, walk_fn h.walk H ha hb hc, ⟨_, _, rfl, ?_, ?_⟩, ⟨fun id hid => ?_, by simp⟩⟩
  · simp [hget]
  · simp [hget]
  · simp [hget, List.getElem?_append_left hid]
theorem step_walk1 (h : WalkC Γ A N) {a b c : AV} {n : Int} {H : Hp} (ha : a.one = true) (hb : b.one = true) (hc : c.one = true) :
    ∃ v g, (lim Γ A).call (f_tree_Walk N) [.agg [a, b, c], avInt .i64 n] { l := H.l, d := none } = some (v, some g) ∧ keeps H g = true ∧ WalkV N a b c n v g ∧ Gr H g := by
  refine ⟨_, _, walk_fn h.walk _ ha hb hc, rfl, ⟨_, _, rfl, ?_, ?_⟩, ⟨fun id hid => ?_, by simp⟩⟩
  · simp [hget]
  · simp [hget]
  · simp [hget, List.getElem?_append_left hid]
/-- A row that was told. -/
def RowI (N : Nat → Nat) (ws : List Int) (v : AV) (g : Hp) : Prop := ∃ id, v = .ra 1 id 0 ws.length ∧ hget g id = some (.arr 1 (ws.map (avInt .i64)) (t_int N))
theorem RowI.keep {ws : List Int} {v : AV} {g g' : Hp} (h : RowI N ws v g) (k : Gr g g') : RowI N ws v g' := by
  obtain ⟨id, e, h1⟩ := h
  exact ⟨id, e, k.old h1⟩
theorem RowI.vi {ws : List Int} {v : AV} {g : Hp} (h : RowI N ws v g) : VI g v ws := by
  obtain ⟨id, e, h1⟩ := h
  subst e
  exact .inr ⟨id, 0, _, _, by simp, h1, by simp, by rw [List.drop_zero, List.take_of_length_le (by simp)]⟩
theorem step_all (hc : TreeC Γ A N) (h : WalkC Γ A N) (ha : Has Γ A (f_law04_all N) (C_law04_all N)) {a b c : AV} {t : Tr} {n : Int} {v : AV} {H : Hp} (hv : WalkV N a b c n v H) (hx : TrR H (.agg [a, b, c]) t) (ok : t.ok)
    (hb : t.nodes.length < 2 ^ 30 ∧ t.types.length < 2 ^ 30 ∧ t.als.length < 2 ^ 30) (hck : checkB t = true) (hn0 : 0 ≤ n) (hn1 : n < t.nodes.length) (hW : (walkS t n).length < 2 ^ 30) :
    ∃ u g, (lim Γ A).call (f_law04_all N) [v] H = some (u, some g) ∧ RowI N (walkS t n) u g ∧ Gr H g := by
  obtain ⟨p, q, rfl, h1, h2⟩ := hv
  have hk := kids_of_check hck
  obtain ⟨u, g, e, m, id, e1, e2, _⟩ := lawAll_call ha (H := H) (walk_gen hc h (cn := p) (ct := q) (tn := t_int N) (tt := t_api_Tree N) (a := a) (b := b) (c := c) ok hb hck hn0 hn1 hW)
    (fun H' k => ⟨by rw [k p (hget_lt h1), h1], by rw [k q (hget_lt h2), h2], k.tr hx⟩) hW (by rw [walkS_eq hk hn0]; simp)
  exact ⟨u, g, e, ⟨id, e1, e2⟩, m.kp, m.len⟩
theorem step_all1 (hc : TreeC Γ A N) (h : WalkC Γ A N) (ha : Has Γ A (f_law04_all N) (C_law04_all N)) {a b c : AV} {t : Tr} {n : Int} {v : AV} {H : Hp} (hv : WalkV N a b c n v H) (hx : TrR H (.agg [a, b, c]) t) (ok : t.ok)
    (hb : t.nodes.length < 2 ^ 30 ∧ t.types.length < 2 ^ 30 ∧ t.als.length < 2 ^ 30) (hck : checkB t = true) (hn0 : 0 ≤ n) (hn1 : n < t.nodes.length) (hW : (walkS t n).length < 2 ^ 30) :
    ∃ u g, (lim Γ A).call (f_law04_all N) [v] { l := H.l, d := none } = some (u, some g) ∧ keeps H g = true ∧ RowI N (walkS t n) u g ∧ Gr H g := by
  obtain ⟨p, q, rfl, h1, h2⟩ := hv
  have hk := kids_of_check hck
  have kd : Keep H { l := H.l, d := none } := Keep.dd H none
  obtain ⟨u, g, e, m, id, e1, e2, _⟩ := lawAll_call ha (H := { l := H.l, d := none }) (walk_gen hc h (cn := p) (ct := q) (tn := t_int N) (tt := t_api_Tree N) (a := a) (b := b) (c := c) ok hb hck hn0 hn1 hW)
    (fun H' k => ⟨by rw [k p (hget_lt (by exact h1))]; exact h1, by rw [k q (hget_lt (by exact h2))]; exact h2, k.tr (kd.tr hx)⟩) hW (by rw [walkS_eq hk hn0]; simp)
  exact ⟨u, g, e, Mut.keeps (H := { l := H.l, d := none }) m rfl, ⟨id, e1, e2⟩, m.kp, m.len⟩
theorem bindH_R {o : Option (AV × Option Hp)} {H : Hp} {Q : AV → Hp → Prop} {m : Mk Q} {m' : Mk H} {R : AV → Hp → Prop} (e : ∃ v g, o = some (v, some g) ∧ R v g ∧ Gr H g) (hq : ∀ v G, R v G → Gr H G → Q v G) : bindH o H Q m m' := by
  obtain ⟨v, g, e, h1, h2⟩ := e
  exact ⟨v, some g, e, hq v g h1 h2⟩
theorem bindH1_R {o : Option (AV × Option Hp)} {H : Hp} {Q : AV → Hp → Prop} {m : Mk Q} {m' : Mk H} {R : AV → Hp → Prop} (hR : ∀ v g g', R v g → Gr g g' → R v g') (e : ∃ v g, o = some (v, some g) ∧ keeps H g = true ∧ R v g ∧ Gr H g) (hq : ∀ v G, R v G → Gr H G → Q v G) : bindH1 o H Q m m' := by
  obtain ⟨v, g, e, h0, h1, h2⟩ := e
  have k : Gr g { l := g.l, d := dminO H.d g.d } := ⟨fun _ _ => rfl, Nat.le_refl _⟩
  exact ⟨v, some g, e, h0, hq v _ (hR _ _ _ h1 k) (h2.trans k)⟩
theorem around_fin (h : Has Γ A (f_law04_same N) (C_law04_same N)) {G : Hp} {idL : Nat} {u1 u2 : AV} {n : Int} {us ws : List Int} (hL : hget G idL = some (.arr 1 [avInt .i64 n] (t_int N))) (h1 : RowI N us u1 G) (h2 : RowI N ws u2 G) (e : us = n :: ws) (hne : ws ≠ []) (hl : us.length < 2 ^ 30) :
    ∃ Gf, asElems G u2 = some (ws.map (avInt .i64)) ∧ appendOn G (t_int N) 1 8 (.ra 1 idL 0 1) (ws.map (avInt .i64)) = some (.ra 1 G.l.length 0 (1 + ws.length), some Gf) ∧ (lim Γ A).call (f_law04_same N) [u1, .ra 1 G.l.length 0 (1 + ws.length)] Gf = some (avBool true, none) := by
  obtain ⟨i1, e1, g1⟩ := id h1
  have hlL := hget_lt hL
  have hl1 := hget_lt g1
  have hlen : us.length = ws.length + 1 := by rw [e]; rfl
  have hid : i1 ≠ idL := by
    rintro rfl
    rw [g1] at hL
    simp only [Option.some.injEq, AObj.arr.injEq, true_and, and_true] at hL
    have := congrArg List.length hL
    have h0 := List.length_pos_iff.2 hne
    simp at this
    omega
  refine ⟨halloc (hset G idL none) (.arr 1 ([avInt .i64 n] ++ ws.map (avInt .i64)) (t_int N)), h2.vi.elems, ?_, ?_⟩
  · have c1 : (1 + (ws.map (avInt .i64)).length) * 8 ≤ roomMax := by unfold roomMax; simp; omega
    have c2 : ((ws.map (avInt .i64)).all fun y => y.good && y.cells.length == 1) = true := by
      rw [List.all_eq_true]
      intro y hy
      obtain ⟨z, _, rfl⟩ := List.mem_map.1 hy
      rfl
    have c3 : 0 + 1 ≤ ([avInt .i64 n] : List AV).length := by simp
    simp only [appendOn, hL]
    rw [if_pos ⟨trivial, trivial, c3, c1, c2⟩]
    simp
  · refine lawSame_call h (a := us) (b := n :: ws) (.inr ⟨i1, 0, t_int N, us.map (avInt .i64), by simp [e1], ?_, by simp, by rw [List.drop_zero, List.take_of_length_le (by simp)]⟩) (.inr ⟨G.l.length, 0, t_int N, [avInt .i64 n] ++ ws.map (avInt .i64), by simp; omega, ?_, by simp, by rw [List.drop_zero, List.take_of_length_le (by simp)]; rfl⟩) (by omega) e
    · rw [hget_halloc, hget_hset]
      simp [hid, Nat.ne_of_lt hl1, g1]
    · simp
abbrev aroundK (H : Hp) : PostR := EndsD [.inl 4] false H fun r => r.1 = avBool true
theorem around_tail (h : AroundC Γ A N) {a b c x : AV} {t : Tr} {name : List UInt8} {H0 : Hp} {ρ : Rho} {H : Hp} {u : Nat} {tt tu : TypeId}
    (r1 : ρ 1 = avStr name) (r2 : ρ 2 = .ptr 0 0) (r5 : ρ 5 = avInt .i64 t.nodes.length) (r6 : ρ 6 = .ptr u 0) (h0 : hget H 0 = some (.cells [a, b, c] tt)) (hu : hget H u = some (.cells [x, b, c] tu))
    (tr : TrR H (.agg [a, b, c]) t) (ta : TrR H (.agg [x, b, c]) (around t name)) (ok : t.ok) (hb : t.nodes.length ≤ 50 ∧ t.types.length < 2 ^ 29 ∧ t.als.length < 2 ^ 30) (hp : 0 < t.nodes.length) (hn : name.length < 2 ^ 30) :
    wpR (lim Γ A) (DK_law04_TreeAround_1 N) ρ H [] (aroundK H0) := by
  have hbn : t.nodes.length < 2 ^ 30 ∧ t.types.length < 2 ^ 30 ∧ t.als.length < 2 ^ 30 := ⟨by omega, by omega, by omega⟩
  have oka : (around t name).ok := by
    refine ⟨fun n hm => ?_, ok.2⟩
    rcases List.mem_append.1 hm with hm | hm
    · exact ok.1 n hm
    · simp at hm; subst hm
      simp [funN, Nd.ok, hn]
  have hbu : (around t name).nodes.length < 2 ^ 30 ∧ (around t name).types.length < 2 ^ 30 ∧ (around t name).als.length < 2 ^ 30 := by
    refine ⟨?_, hbn.2⟩
    simp [around]; omega
  have ec1 := check_call h.check tr ok hbn
  have ec2 := check_call h.check ta oka hbu
  have en := ref04_Name_call' h.tag h.word name (by omega) H
  have eca := checkB_around (t := t) (name := name) hp hb.1
  have ed1 := depth_call h.check h.depth tr ok hbn
  have ed2 := depth_call h.check h.depth ta oka hbu
  obtain ⟨dd, dd0, dd1⟩ := depth_around (t := t) (name := name) hp (by omega) hb.2.1
  have ed3 : (lim Γ A).call (f_tree_Depth N) [.agg [a, b, c]] { l := H.l, d := none } = some (avInt .i64 (if checkB t then depthS t else 0), none) := depth_call h.check h.depth ((Keep.dd H none).tr tr) ok hbn
  rw [eca] at ec2 ed2
  rcases hcb : checkB t with _ | _
  · rw [hcb] at ec1 ec2 eca
    simp [DK_law04_TreeAround_1, r1, r2, r5, r6, h0, hu, loadC, ec1, ec2, errN, en, -halloc_d, -hset_d]
    done
  rcases hnb : isNameB name with _ | _
  · rw [hcb] at ec1
    rw [hcb, hnb] at ec2 eca
    rw [hnb] at en
    simp [DK_law04_TreeAround_1, r1, r2, r5, r6, h0, hu, loadC, ec1, ec2, errN, en, -halloc_d, -hset_d]
    done
  rw [hcb] at ec1 ed1 ed3
  rw [hcb, hnb] at ec2 eca ed2
  rw [hnb] at en
  simp [DK_law04_TreeAround_1, r1, r2, r5, r6, h0, hu, loadC, ec1, ec2, errN, en, ed1, ed2, ed3, -halloc_d, -hset_d]
  have hd1 : IntKind.wrap .i64 (depthS t + 1) = depthS t + 1 := by rw [wrap64 (by omega) (by omega)]
  have hw : IntKind.wrap .i64 ((t.nodes.length : Int) - 1) = (t.nodes.length : Int) - 1 := by rw [wrap64 (by omega) (by omega)]
  generalize depthS (around t name) = du at dd
  obtain ⟨ta', _, _, e, ta1, ta2, ta3⟩ := id ta
  cases e
  obtain ⟨_, _, _, e, tr1, _, _⟩ := id tr
  cases e
  have oa := tr1.one
  have ox := ta1.one
  have ob := ta2.one
  have oc := ta3.one
  have hbu' : (around t name).nodes.length = t.nodes.length + 1 := by simp [around]
  have hk := kids_of_check hcb
  have hcu : checkB (around t name) = true := eca
  have hku := kids_of_check hcu
  have hwa := walkS_around (name := name) hk hku hp
  have hroot := walkS_root ok hcb
  have hW1 : (walkS t ((t.nodes.length : Int) - 1)).length < 2 ^ 30 := by omega
  have hW2 : (walkS (around t name) t.nodes.length).length < 2 ^ 30 := by rw [hwa]; simp; omega
  have dd' : decide (du = depthS t) = true ∨ decide (du = depthS t + 1) = true := by simpa using dd
  refine wpR_alts (by simp) fun cc hcc => ?_
  simp only [List.mem_cons, List.not_mem_nil, or_false] at hcc
  have hdn : ¬ depthS t + 1 = depthS t := by omega
  have hne : walkS t ((t.nodes.length : Int) - 1) ≠ [] := by rw [walkS_eq hk (by omega)]; simp
  rcases hcc with rfl | rfl | rfl | rfl | rfl
  · rcases dd with rfl | rfl <;> (
      simp [DM_law04_TreeAround_7, h0, hu, loadC, r1, r2, r5, r6, hw, hd1, hdn, -halloc_d, -hset_d]
      have hL0 : hget (halloc H (.arr 1 [avInt .i64 t.nodes.length] (t_int N))) H.l.length = some (.arr 1 [avInt .i64 t.nodes.length] (t_int N)) := by simp
      refine bindH1_R (fun _ _ _ h k => h.keep k) (step_walk1 h.walk ox ob oc) fun v1 G1 w1 g1 => ?_
      simp [h0, hu, loadC, r1, r2, r5, r6, hw, hd1, hdn, -halloc_d, -hset_d]
      refine bindH1_R (fun _ _ _ h k => h.keep k) (step_all1 h.check h.walk h.all w1 (((Gr.al H (.arr 1 [avInt .i64 t.nodes.length] (t_int N))).trans g1).kp.tr ta) oka hbu hcu (by omega) (by omega) hW2) fun u1 G2 w2 g2 => ?_
      simp [h0, hu, loadC, r1, r2, r5, r6, hw, hd1, hdn, -halloc_d, -hset_d]
      refine bindH_R (step_walk h.walk oa ob oc) fun v2 G3 w3 g3 => ?_
      simp [h0, hu, loadC, r1, r2, r5, r6, hw, hd1, hdn, -halloc_d, -hset_d]
      refine bindH_R (step_all h.check h.walk h.all w3 (((((Gr.al H (.arr 1 [avInt .i64 t.nodes.length] (t_int N))).trans g1).trans g2).trans g3).kp.tr tr) ok hbn hcb (by omega) (by omega) hW1) fun u2 G4 w4 g4 => ?_
      obtain ⟨Gf, z1, z2, z3⟩ := around_fin h.same (idL := H.l.length) (g4.old (g3.old (g2.old (g1.old hL0)))) ((w2.keep g3).keep g4) w4 hwa hne hW2
      simp [h0, hu, loadC, r1, r2, r5, r6, hw, hd1, hdn, z1, z2, z3, DK_law04_TreeAround_2, -halloc_d, -hset_d])
  · rcases dd with rfl | rfl <;> (
      simp [DM_law04_TreeAround_8, h0, hu, loadC, r1, r2, r5, r6, hw, hd1, hdn, -halloc_d, -hset_d]
      refine bindH1_R (fun _ _ _ h k => h.keep k) (step_walk1 h.walk ox ob oc) fun v1 G1 w1 g1 => ?_
      simp [h0, hu, loadC, r1, r2, r5, r6, hw, hd1, hdn, -halloc_d, -hset_d]
      have hL0 : hget (halloc G1 (.arr 1 [avInt .i64 t.nodes.length] (t_int N))) G1.l.length = some (.arr 1 [avInt .i64 t.nodes.length] (t_int N)) := by simp
      refine bindH1_R (fun _ _ _ h k => h.keep k) (step_all1 h.check h.walk h.all (w1.keep (Gr.al G1 (.arr 1 [avInt .i64 t.nodes.length] (t_int N)))) ((g1.trans (Gr.al G1 (.arr 1 [avInt .i64 t.nodes.length] (t_int N)))).kp.tr ta) oka hbu hcu (by omega) (by omega) hW2) fun u1 G2 w2 g2 => ?_
      simp [h0, hu, loadC, r1, r2, r5, r6, hw, hd1, hdn, -halloc_d, -hset_d]
      refine bindH_R (step_walk h.walk oa ob oc) fun v2 G3 w3 g3 => ?_
      simp [h0, hu, loadC, r1, r2, r5, r6, hw, hd1, hdn, -halloc_d, -hset_d]
      refine bindH_R (step_all h.check h.walk h.all w3 ((((g1.trans (Gr.al G1 (.arr 1 [avInt .i64 t.nodes.length] (t_int N)))).trans g2).trans g3).kp.tr tr) ok hbn hcb (by omega) (by omega) hW1) fun u2 G4 w4 g4 => ?_
      obtain ⟨Gf, z1, z2, z3⟩ := around_fin h.same (idL := G1.l.length) (g4.old (g3.old (g2.old hL0))) ((w2.keep g3).keep g4) w4 hwa hne hW2
      simp [h0, hu, loadC, r1, r2, r5, r6, hw, hd1, hdn, z1, z2, z3, DK_law04_TreeAround_2, -halloc_d, -hset_d])
  · rcases dd with rfl | rfl <;> (
      simp [DM_law04_TreeAround_9, h0, hu, loadC, r1, r2, r5, r6, hw, hd1, hdn, -halloc_d, -hset_d]
      refine bindH1_R (fun _ _ _ h k => h.keep k) (step_walk1 h.walk ox ob oc) fun v1 G1 w1 g1 => ?_
      simp [h0, hu, loadC, r1, r2, r5, r6, hw, hd1, hdn, -halloc_d, -hset_d]
      refine bindH1_R (fun _ _ _ h k => h.keep k) (step_all1 h.check h.walk h.all w1 (g1.kp.tr ta) oka hbu hcu (by omega) (by omega) hW2) fun u1 G2 w2 g2 => ?_
      simp [h0, hu, loadC, r1, r2, r5, r6, hw, hd1, hdn, -halloc_d, -hset_d]
      have hL0 : hget (halloc G2 (.arr 1 [avInt .i64 t.nodes.length] (t_int N))) G2.l.length = some (.arr 1 [avInt .i64 t.nodes.length] (t_int N)) := by simp
      refine bindH_R (step_walk h.walk oa ob oc) fun v2 G3 w3 g3 => ?_
      simp [h0, hu, loadC, r1, r2, r5, r6, hw, hd1, hdn, -halloc_d, -hset_d]
      refine bindH_R (step_all h.check h.walk h.all w3 ((((g1.trans g2).trans (Gr.al G2 (.arr 1 [avInt .i64 t.nodes.length] (t_int N)))).trans g3).kp.tr tr) ok hbn hcb (by omega) (by omega) hW1) fun u2 G4 w4 g4 => ?_
      obtain ⟨Gf, z1, z2, z3⟩ := around_fin h.same (idL := G2.l.length) (g4.old (g3.old hL0)) (((w2.keep (Gr.al G2 (.arr 1 [avInt .i64 t.nodes.length] (t_int N)))).keep g3).keep g4) w4 hwa hne hW2
      simp [h0, hu, loadC, r1, r2, r5, r6, hw, hd1, hdn, z1, z2, z3, DK_law04_TreeAround_2, -halloc_d, -hset_d])
  · rcases dd with rfl | rfl <;> (
      simp [DM_law04_TreeAround_10, h0, hu, loadC, r1, r2, r5, r6, hw, hd1, hdn, -halloc_d, -hset_d]
      refine bindH1_R (fun _ _ _ h k => h.keep k) (step_walk1 h.walk ox ob oc) fun v1 G1 w1 g1 => ?_
      simp [h0, hu, loadC, r1, r2, r5, r6, hw, hd1, hdn, -halloc_d, -hset_d]
      refine bindH1_R (fun _ _ _ h k => h.keep k) (step_all1 h.check h.walk h.all w1 (g1.kp.tr ta) oka hbu hcu (by omega) (by omega) hW2) fun u1 G2 w2 g2 => ?_
      simp [h0, hu, loadC, r1, r2, r5, r6, hw, hd1, hdn, -halloc_d, -hset_d]
      refine bindH_R (step_walk h.walk oa ob oc) fun v2 G3 w3 g3 => ?_
      simp [h0, hu, loadC, r1, r2, r5, r6, hw, hd1, hdn, -halloc_d, -hset_d]
      have hL0 : hget (halloc G3 (.arr 1 [avInt .i64 t.nodes.length] (t_int N))) G3.l.length = some (.arr 1 [avInt .i64 t.nodes.length] (t_int N)) := by simp
      refine bindH_R (step_all h.check h.walk h.all (w3.keep (Gr.al G3 (.arr 1 [avInt .i64 t.nodes.length] (t_int N)))) ((((g1.trans g2).trans g3).trans (Gr.al G3 (.arr 1 [avInt .i64 t.nodes.length] (t_int N)))).kp.tr tr) ok hbn hcb (by omega) (by omega) hW1) fun u2 G4 w4 g4 => ?_
      obtain ⟨Gf, z1, z2, z3⟩ := around_fin h.same (idL := G3.l.length) (g4.old hL0) (((w2.keep g3).keep (Gr.al G3 (.arr 1 [avInt .i64 t.nodes.length] (t_int N)))).keep g4) w4 hwa hne hW2
      simp [h0, hu, loadC, r1, r2, r5, r6, hw, hd1, hdn, z1, z2, z3, DK_law04_TreeAround_2, -halloc_d, -hset_d])
  · rcases dd with rfl | rfl <;> (
      simp [DM_law04_TreeAround_11, h0, hu, loadC, r1, r2, r5, r6, hw, hd1, hdn, -halloc_d, -hset_d]
      refine bindH1_R (fun _ _ _ h k => h.keep k) (step_walk1 h.walk ox ob oc) fun v1 G1 w1 g1 => ?_
      simp [h0, hu, loadC, r1, r2, r5, r6, hw, hd1, hdn, -halloc_d, -hset_d]
      refine bindH1_R (fun _ _ _ h k => h.keep k) (step_all1 h.check h.walk h.all w1 (g1.kp.tr ta) oka hbu hcu (by omega) (by omega) hW2) fun u1 G2 w2 g2 => ?_
      simp [h0, hu, loadC, r1, r2, r5, r6, hw, hd1, hdn, -halloc_d, -hset_d]
      refine bindH_R (step_walk h.walk oa ob oc) fun v2 G3 w3 g3 => ?_
      simp [h0, hu, loadC, r1, r2, r5, r6, hw, hd1, hdn, -halloc_d, -hset_d]
      refine bindH_R (step_all h.check h.walk h.all w3 (((g1.trans g2).trans g3).kp.tr tr) ok hbn hcb (by omega) (by omega) hW1) fun u2 G4 w4 g4 => ?_
      simp [h0, hu, loadC, r1, r2, r5, r6, hw, hd1, hdn, -halloc_d, -hset_d]
      have hL0 : hget (halloc G4 (.arr 1 [avInt .i64 t.nodes.length] (t_int N))) G4.l.length = some (.arr 1 [avInt .i64 t.nodes.length] (t_int N)) := by simp
      obtain ⟨Gf, z1, z2, z3⟩ := around_fin h.same (idL := G4.l.length) hL0 (((w2.keep g3).keep g4).keep (Gr.al G4 (.arr 1 [avInt .i64 t.nodes.length] (t_int N)))) (w4.keep (Gr.al G4 (.arr 1 [avInt .i64 t.nodes.length] (t_int N)))) hwa hne hW2
      simp only [halloc_len] at z2 z3
      simp [h0, hu, loadC, r1, r2, r5, r6, hw, hd1, hdn, z1, z2, z3, DK_law04_TreeAround_2, -halloc_d, -hset_d])
theorem law_TreeAround (h : AroundC Γ A N) {a b c : AV} {t : Tr} (hlives : (lim Γ A).call (f_law04_lives N) [] { l := [some (.cells [a, b, c] (t_api_Tree N))], d := none } = some (avBool true, none)) (hx : TrR { l := [], d := none } (.agg [a, b, c]) t) (h2 : (∀ n ∈ t.nodes, n.names.length < 2 ^ 63) ∧ ∀ n ∈ t.types, n.names.length < 2 ^ 63)
    (h3 : t.nodes.length < 2 ^ 63 ∧ t.types.length < 2 ^ 63 ∧ t.als.length < 2 ^ 63) {name : List UInt8} :
    DRunP Γ A (D_law04_TreeAround N) [.agg [a, b, c], avStr name] { l := [], d := none } fun r => r.1 = avBool true := by
  obtain ⟨Hb, hHb⟩ : ∃ Hb, Hb = halloc { l := [], d := none } (.cells [a, b, c] (t_api_Tree N)) := ⟨_, rfl⟩
  have kb : Keep { l := [], d := none } Hb := fun id hid => by simp at hid
  have hxb := kb.tr hx
  have hl1 : (lim Γ A).call (f_law04_lives N) [] Hb = some (avBool true, none) := by rw [hHb]; exact hlives
  obtain ⟨a', b', c', e, ra, rb, rc⟩ := id hx
  cases e
  have la := ra.len
  have pa := ra.one
  have pb := rb.one
  have pc := rc.one
  have hbox : hget Hb 0 = some (.cells [a, b, c] (t_api_Tree N)) := by subst hHb; rfl
  have hHb' : halloc { l := [], d := none } (.cells [a, b, c] (t_api_Tree N)) = Hb := hHb.symm
  have hfew := few_call h.few hxb h2 h3
  apply DRunP.of (by rfl)
  by_cases c0 : fewB t = true ∧ t.nodes.length ≤ 50 ∧ 0 < t.nodes.length ∧ name.length ≤ 50
  · obtain ⟨c1, c2, c3, c4⟩ := c0
    obtain ⟨hb, ok⟩ := few_ok c1
    rw [c1] at hfew
    have d1 : ¬ (50 : Int) < t.nodes.length := by omega
    have d2 : ¬ t.nodes.length = 0 := by omega
    have d2' : ¬ t.nodes = [] := fun e => d2 (by rw [e]; rfl)
    have d3 : ¬ (50 : Int) < name.length := by omega
    obtain ⟨xs, x1, x2, x3⟩ := id ra
    have hel : ∀ H, asElems H a = some xs := fun H => (Vw.keep (H' := H) x1 (fun id hid => by simp at hid)).elems
    have hw : IntKind.wrap .i64 ((t.nodes.length : Int) - 1) = (t.nodes.length : Int) - 1 := by rw [wrap64 (by omega) (by omega)]
    have hgood : ∀ y ∈ xs, y.good = true ∧ y.cells.length = 8 := by
      intro y hy
      obtain ⟨i, hi, rfl⟩ := List.mem_iff_getElem.1 hy
      obtain ⟨na, nb, nc, e, v1, v2, v3⟩ := x3 i xs[i] (t.nodes[i]'(by omega)) (List.getElem?_eq_getElem hi) (List.getElem?_eq_getElem (by omega))
      rw [e]
      refine ⟨?_, rfl⟩
      have o1 := v1.one
      have o2 := v2.one
      have o3 := v3.one
      show ([avInt .i64 _, avInt .i64 _, avStr _, avInt .i64 _, avInt .u64 _, na, nb, nc] : List AV).all AV.one = true
      simp only [List.all_cons, List.all_nil, o1, o2, o3, Bool.and_true]
      rfl
    have hall : (xs.all fun y => y.good && y.cells.length == 8) = true := by
      rw [List.all_eq_true]
      intro y hy
      simp [hgood y hy]
    obtain ⟨hb1, hb2⟩ := one_gc pb
    obtain ⟨hc1, hc2⟩ := one_gc pc
    have hroom : xs.length * 120 ≤ roomMax := by unfold roomMax; omega
    simp [D_law04_TreeAround, pa, pb, pc, hHb', hl1, hbox, hfew, la, d1, d2, d2', d3, loadC, -halloc_d, -hset_d]
    refine wpR_alts (by simp) fun cc hcc => ?_
    simp only [List.mem_cons, List.not_mem_nil, or_false] at hcc
    have hroom1 : (xs.length + 1) * 120 ≤ roomMax := by unfold roomMax; omega
    have hne : ¬ Hb.l = [] := by subst hHb; simp [halloc]
    have hlen : Hb.l.length = 1 := by subst hHb; rfl
    have hal : ∀ (H : Hp) (o : AObj), (halloc H o).l ≠ [] := fun H o => by simp [halloc]
    have htr : ∀ H, TrR H (.agg [a, b, c]) t := fun H => (show Keep { l := [], d := none } H from fun id hid => by simp at hid).tr hx
    rcases hcc with rfl | rfl | rfl | rfl | rfl | rfl
    · simp [DM_law04_TreeAround_1, hbox, la, hel, hw, loadC, appendOn, asElems_ra, hall, hgood, hroom, hroom1, hne, hb1, hb2, hc1, hc2, pb, pc, setFrom, -halloc_d, -hset_d]
      exact around_tail h (name := name) (u := Hb.l.length + 1 + 1 + 1 + 1 + 1) (x := .ra 8 (Hb.l.length + 1 + 1 + 1 + 1) 0 (xs.length + 1)) (tt := t_api_Tree N) (tu := t_api_Tree N) (by simp) (by simp) (by simp) (by simp) (by simp [hlen, hbox]) (by simp [hlen]) (htr _)
        (around_tr (kid := Hb.l.length + 1 + 1) (e1 := t_api_Node N) (e2 := t_int N) hx x1 x2 x3 (by simp [hlen]) (by simp [hlen])) ok ⟨c2, by omega, by omega⟩ c3 (by omega)
    · simp [DM_law04_TreeAround_2, hbox, la, hel, hw, loadC, appendOn, asElems_ra, hall, hgood, hroom, hroom1, hne, hb1, hb2, hc1, hc2, pb, pc, setFrom, -halloc_d, -hset_d]
      exact around_tail h (name := name) (u := Hb.l.length + 1 + 1 + 1 + 1 + 1) (x := .ra 8 (Hb.l.length + 1 + 1 + 1 + 1) 0 (xs.length + 1)) (tt := t_api_Tree N) (tu := t_api_Tree N) (by simp) (by simp) (by simp) (by simp) (by simp [hlen, hbox]) (by simp [hlen]) (htr _)
        (around_tr (kid := Hb.l.length + 1) (e1 := t_api_Node N) (e2 := t_int N) hx x1 x2 x3 (by simp [hlen]) (by simp [hlen])) ok ⟨c2, by omega, by omega⟩ c3 (by omega)
    · simp [DM_law04_TreeAround_3, hbox, la, hel, hw, loadC, appendOn, asElems_ra, hall, hgood, hroom, hroom1, hne, hb1, hb2, hc1, hc2, pb, pc, setFrom, -halloc_d, -hset_d]
      exact around_tail h (name := name) (u := Hb.l.length + 1 + 1 + 1 + 1 + 1) (x := .ra 8 (Hb.l.length + 1 + 1 + 1 + 1) 0 (xs.length + 1)) (tt := t_api_Tree N) (tu := t_api_Tree N) (by simp) (by simp) (by simp) (by simp) (by simp [hlen, hbox]) (by simp [hlen]) (htr _)
        (around_tr (kid := Hb.l.length + 1) (e1 := t_api_Node N) (e2 := t_int N) hx x1 x2 x3 (by simp [hlen]) (by simp [hlen])) ok ⟨c2, by omega, by omega⟩ c3 (by omega)
    · simp [DM_law04_TreeAround_4, hal, hbox, la, hel, hw, loadC, appendOn, asElems_ra, hall, hgood, hroom, hroom1, hne, hb1, hb2, hc1, hc2, pb, pc, setFrom, -halloc_d, -hset_d]
      exact around_tail h (name := name) (u := Hb.l.length + 1 + 1 + 1 + 1 + 1) (x := .ra 8 (Hb.l.length + 1 + 1 + 1 + 1) 0 (xs.length + 1)) (tt := t_api_Tree N) (tu := t_api_Tree N) (by simp) (by simp) (by simp) (by simp) (by simp [hlen, hbox]) (by simp [hlen]) (htr _)
        (around_tr (kid := Hb.l.length) (e1 := t_api_Node N) (e2 := t_int N) hx x1 x2 x3 (by simp [hlen]) (by simp [hlen])) ok ⟨c2, by omega, by omega⟩ c3 (by omega)
    · simp [DM_law04_TreeAround_5, hal, hbox, la, hel, hw, loadC, appendOn, asElems_ra, hall, hgood, hroom, hroom1, hne, hb1, hb2, hc1, hc2, pb, pc, setFrom, -halloc_d, -hset_d]
      exact around_tail h (name := name) (u := Hb.l.length + 1 + 1 + 1 + 1 + 1) (x := .ra 8 (Hb.l.length + 1 + 1 + 1 + 1) 0 (xs.length + 1)) (tt := t_api_Tree N) (tu := t_api_Tree N) (by simp) (by simp) (by simp) (by simp) (by simp [hlen, hbox]) (by simp [hlen]) (htr _)
        (around_tr (kid := Hb.l.length) (e1 := t_api_Node N) (e2 := t_int N) hx x1 x2 x3 (by simp [hlen]) (by simp [hlen])) ok ⟨c2, by omega, by omega⟩ c3 (by omega)
    · simp [DM_law04_TreeAround_6, hal, hbox, la, hel, hw, loadC, appendOn, asElems_ra, hall, hgood, hroom, hroom1, hne, hb1, hb2, hc1, hc2, pb, pc, setFrom, -halloc_d, -hset_d]
      exact around_tail h (name := name) (u := Hb.l.length + 1 + 1 + 1 + 1 + 1) (x := .ra 8 (Hb.l.length + 1 + 1 + 1 + 1) 0 (xs.length + 1)) (tt := t_api_Tree N) (tu := t_api_Tree N) (by simp) (by simp) (by simp) (by simp) (by simp [hlen, hbox]) (by simp [hlen]) (htr _)
        (around_tr (kid := Hb.l.length) (e1 := t_api_Node N) (e2 := t_int N) hx x1 x2 x3 (by simp [hlen]) (by simp [hlen])) ok ⟨c2, by omega, by omega⟩ c3 (by omega)
  · rcases hf : fewB t with _ | _
    · rw [hf] at hfew
      simp [D_law04_TreeAround, pa, pb, pc, hHb', hl1, hbox, hfew, la, loadC, -halloc_d, -hset_d]
      done
    · rw [hf] at hfew
      by_cases d1 : t.nodes.length ≤ 50
      · have d1' : ¬ (50 : Int) < t.nodes.length := by omega
        by_cases d2 : 0 < t.nodes.length
        · have d2' : ¬ t.nodes.length = 0 := by omega
          have d2'' : ¬ t.nodes = [] := fun e => d2' (by rw [e]; rfl)
          have d3 : (50 : Int) < name.length := by
            by_cases d4 : name.length ≤ 50
            · exact absurd ⟨hf, d1, d2, d4⟩ c0
            · omega
          simp [D_law04_TreeAround, pa, pb, pc, hHb', hl1, hbox, hfew, la, d1', d2', d2'', d3, loadC, -halloc_d, -hset_d]
          done
        · have d2' : t.nodes = [] := List.eq_nil_of_length_eq_zero (by omega)
          simp [D_law04_TreeAround, pa, pb, pc, hHb', hl1, hbox, hfew, la, d1', d2', loadC, -halloc_d, -hset_d]
          done
      · have d1' : (50 : Int) < t.nodes.length := by omega
        simp [D_law04_TreeAround, pa, pb, pc, hHb', hl1, hbox, hfew, la, d1', loadC, -halloc_d, -hset_d]
        done
end
end Go.Proofs.Eng
