import Derived.Test.YtkofnmiopjnhiaaM33
import Derived.Test.YtkofnmiopjnhiaaM31
/- A name put into a rising row: run for whatever is drawn; it comes to one result. -/
set_option linter.unusedVariables false
set_option linter.unusedSimpArgs false
set_option maxRecDepth 100000
namespace Go.Proofs.Eng
open Go
section
variable {Γ : Sums} {A : Tab} {N : Nat → Nat} {C : DCalls} {H : Hp}
inductive InsI (x : AV) (ks : List Bs) (s : Bs) (H0 : Hp) (q : Nat) (ρ : Rho) (H : Hp) : Prop where
  | mk (i : Nat) (h0 : ρ 0 = x) (h1 : ρ 1 = avStr s) (h5 : ρ 5 = avInt .i64 (i : Nat)) (hi : i ≤ ks.length) (hH : H = H0) (hlt : ∀ j, j < i → ∃ y, ks[j]? = some y ∧ y < s) (hq : q = ks.length - i)
def insR (x : AV) (ks : List Bs) (s : Bs) : AV × Option Hp := if insF ks s = true then (x, none) else (.sl 1 ((insP ks s).map avStr), none)
theorem app_row {K : Hp} {id n : Nat} {es ys : List AV} (hg : hget K id = some (.arr 1 es (t_string N))) (hn : es.length = n) (hl : (n + ys.length) * 16 ≤ roomMax) (hy : ys.all (fun y => y.good && y.cells.length == 1) = true) :
    ∃ K', appendOn K (t_string N) 1 16 (.ra 1 id 0 n) ys = some (.ra 1 K.l.length 0 (n + ys.length), some K') ∧ hget K' K.l.length = some (.arr 1 (es ++ ys) (t_string N)) ∧ Mut K K' [id] ∧ K'.l.length = K.l.length + 1 ∧ ∀ j, j < K.l.length → j ≠ id → hget K' j = hget K j := by
  subst hn
  have hlt := hget_lt hg
  refine ⟨_, appendOn_ra (bytes := 16) hg hl hy, by rw [hget_halloc, if_pos (by simp)], ((Mut.refl K [id]).set (.inl (by simp))).alloc _, by simp, fun j hj hne => ?_⟩
  rw [hget_halloc, if_neg (by simp; omega), hget_hset, if_neg hne]
theorem all_str (l : List Bs) : (l.map avStr).all (fun y => y.good && y.cells.length == 1) = true := by
  rw [List.all_eq_true]
  intro y hy
  obtain ⟨b, _, rfl⟩ := List.mem_map.1 hy
  rfl
theorem settleZ_rowN {H H1 : Hp} {es : List AV} {t : TypeId} {id m : Nat} (hk : keeps H H1 = true) (h0 : H.l.length ≤ id) (h1 : hget H1 id = some (.arr 1 es t)) (hm : m = es.length) (hl : ∀ x ∈ es, ∃ v, x = .lit v) : settleZ true H (.ra 1 id 0 m) H1 = (.sl 1 es, none) := by
  subst hm
  have hL : H1.l[id]? = some (some (.arr 1 es t)) := hget_some h1
  have hmm : ∀ l : List AV, (∀ x ∈ l, ∃ v, x = .lit v) → l.mapM (frz H1.l H.l.length 15) = some l := by
    intro l
    induction l with
    | nil => intro _; rfl
    | cons a r ih =>
      intro h
      obtain ⟨v, rfl⟩ := h a (by simp)
      rw [List.mapM_cons, ih (fun x hx => h x (by simp [hx]))]
      rfl
  have hf : frz H1.l H.l.length 16 (.ra 1 id 0 es.length) = some (.sl 1 es) := by
    show (if id < H.l.length then _ else _) = _
    rw [if_neg (by omega), hL]
    simp only [Option.getD_some]
    rw [if_pos ⟨trivial, by omega⟩, List.drop_zero, List.take_length, hmm es hl]
    rfl
  simp [settleZ, hk, hf]
theorem ins_fin {y2 : AV} {ks : List Bs} {s : Bs} {i a c : Nat} {K1 : Hp} (hi : i ≤ ks.length) (hl : ks.length < 2 ^ 30) (b2 : Vw { l := H.l, d := none } 1 y2 ((ks.drop i).map avStr)) (hM : Mut { l := H.l, d := none } K1 []) (hc : hget K1 c = some (.arr 1 ((ks.take i).map avStr) (t_string N))) (ha : hget K1 a = some (.arr 1 [avStr s] (t_string N))) (hcl : H.l.length ≤ c) (hins : insP ks s = ks.take i ++ s :: ks.drop i) :
    ∃ K2 K3, asElems K1 (.ra 1 a 0 1) = some [avStr s] ∧ appendOn K1 (t_string N) 1 16 (.ra 1 c 0 i) [avStr s] = some (.ra 1 K1.l.length 0 (i + 1), some K2) ∧ asElems K2 y2 = some ((ks.drop i).map avStr) ∧
      appendOn K2 (t_string N) 1 16 (.ra 1 K1.l.length 0 (i + 1)) ((ks.drop i).map avStr) = some (.ra 1 K2.l.length 0 (i + 1 + (ks.length - i)), some K3) ∧ settleZ true H (.ra 1 K2.l.length 0 (i + 1 + (ks.length - i))) K3 = (.sl 1 ((insP ks s).map avStr), none) := by
  obtain ⟨K2, p1, p2, p3, p4, p5⟩ := app_row (n := i) hc (by simp; omega) (ys := [avStr s]) (by unfold roomMax; simp; omega) (by simp)
  have hM2 : Mut { l := H.l, d := none } K2 [] := hM.trans p3 (by simpa using hcl)
  have hK1 := hM.len
  simp only at hK1
  obtain ⟨K3, q1, q2, q3, q4, q5⟩ := app_row (n := i + 1) p2 (by simp; omega) (ys := (ks.drop i).map avStr) (by unfold roomMax; simp; omega) (all_str _)
  have hM3 : Mut { l := H.l, d := none } K3 [] := hM2.trans q3 (by simpa using hK1)
  have hK2 := hM2.len
  simp only at hK2
  refine ⟨K2, K3, by simp [asElems, ha], by simpa using p1, (hM2.vw b2 (by simp)).elems, by simpa using q1, ?_⟩
  have := settleZ_rowN (H := H) (m := i + 1 + (ks.length - i)) (hM3.keeps rfl) hK2 q2 (by simp; omega) (fun x hx => by
    simp only [List.mem_append, List.mem_map, List.mem_singleton] at hx
    rcases hx with (⟨_, _, rfl⟩ | rfl) | ⟨_, _, rfl⟩ <;> exact ⟨_, rfl⟩)
  rw [this, hins]
  simp
theorem insert_run {x : AV} {ks : List Bs} {s : Bs} (hx : Vw H 1 x (ks.map avStr)) (hl : ks.length < 2 ^ 30) :
    DRunP C Γ A (D_law24_insert N) [x, avStr s] H fun r => r = insR x ks s := by
  obtain ⟨R, hR⟩ : ∃ R : AV × Option Hp → Prop, R = fun r => r = insR x ks s := ⟨_, rfl⟩
  rw [← hR]
  have hlen := hx.len
  simp only [List.length_map] at hlen
  have hx0 := hx.dd none
  have hfz : frz H.l H.l.length 16 x = some x := hx.frz (fun e he => by obtain ⟨y, _, rfl⟩ := List.mem_map.1 he; exact ⟨_, rfl⟩)
  have alts : ∀ {ρ : Rho} {its : Its} (i : Nat), i ≤ ks.length → True → ρ 0 = x → ρ 1 = avStr s → ρ 5 = avInt .i64 (i : Nat) → True → insF ks s = false → insP ks s = ks.take i ++ s :: ks.drop i → wpR C (lim Γ A) (DC.alts [DM_law24_insert_2 N, DM_law24_insert_3 N, DM_law24_insert_4 N]) ρ { l := H.l, d := none } its (seqD C (lim Γ A) (DK_law24_insert_2 N) (EndsD [Sum.inl 4] true H R)) := by
    intro ρ its i hi _ h0 h1 h5 _ hf hins
    have hil : ks.length < 2 ^ 40 := by omega
    have hres : R (.sl 1 ((insP ks s).map avStr), none) := by rw [hR]; simp [insR, hf]
    obtain ⟨y1, a1, a2⟩ := hx0.upto (k' := .i64) (j := (i : Int)) (by omega) (by simp; omega)
    obtain ⟨y2, b1, b2⟩ := hx0.from' (k := .i64) (i := (i : Int)) (by omega) (by simp; omega)
    simp only [Int.toNat_natCast, ← List.map_take, ← List.map_drop] at a2 b2
    refine wpR_alts (by simp) fun cc hcc => ?_
    simp only [List.mem_cons, List.not_mem_nil, or_false] at hcc
    rcases hcc with rfl | rfl | rfl
    · have hA : Mut { l := H.l, d := none } (halloc (halloc { l := H.l, d := none } (.arr 1 [avStr s] (t_string N))) (.arr 1 [] (t_string N))) [] := ((Mut.refl _ []).alloc _).alloc _
      obtain ⟨K1, p1, p2, p3, p4, p5⟩ := app_row (N := N) (K := halloc (halloc { l := H.l, d := none } (.arr 1 [avStr s] (t_string N))) (.arr 1 [] (t_string N))) (id := H.l.length + 1) (n := 0) (es := []) (ys := (ks.take i).map avStr) (by simp) rfl (by unfold roomMax; simp; omega) (all_str _)
      have hM1 := hA.trans p3 (by simp)
      have e1 := (hA.vw a2 (by simp)).elems
      obtain ⟨K2, K3, g1, g2, g3, g4, g5⟩ := ins_fin (N := N) (a := H.l.length) (c := H.l.length + 1 + 1) hi hl b2 hM1 (by simpa using p2) (by rw [p5 _ (by simp) (by omega)]; simp) (by omega) hins
      have hmin : min i ks.length = i := Nat.min_eq_left hi
      simp [hmin, -List.map_take] at p1 p4
      rw [p4] at g2 g4
      simp [DM_law24_insert_2, DK_law24_insert_2, h0, h1, h5, a1, b1, fillA, repl, setFrom, chunk, e1, p1, bindH_opt, g1, g2, g3, g4, g5, -hset_d, -halloc_d, -List.map_drop, -List.map_take]
      exact hres
    · have hA : Mut { l := H.l, d := none } (halloc (halloc { l := H.l, d := none } (.arr 1 [] (t_string N))) (.arr 1 [avStr s] (t_string N))) [] := ((Mut.refl _ []).alloc _).alloc _
      obtain ⟨K1, p1, p2, p3, p4, p5⟩ := app_row (N := N) (K := halloc (halloc { l := H.l, d := none } (.arr 1 [] (t_string N))) (.arr 1 [avStr s] (t_string N))) (id := H.l.length) (n := 0) (es := []) (ys := (ks.take i).map avStr) (by simp) rfl (by unfold roomMax; simp; omega) (all_str _)
      have hM1 := hA.trans p3 (by simp)
      have e1 := (hA.vw a2 (by simp)).elems
      obtain ⟨K2, K3, g1, g2, g3, g4, g5⟩ := ins_fin (N := N) (a := H.l.length + 1) (c := H.l.length + 1 + 1) hi hl b2 hM1 (by simpa using p2) (by rw [p5 _ (by simp) (by omega)]; simp) (by omega) hins
      have hmin : min i ks.length = i := Nat.min_eq_left hi
      simp [hmin, -List.map_take] at p1 p4
      rw [p4] at g2 g4
      simp [DM_law24_insert_3, DK_law24_insert_2, h0, h1, h5, a1, b1, fillA, repl, setFrom, chunk, e1, p1, bindH_opt, g1, g2, g3, g4, g5, -hset_d, -halloc_d, -List.map_drop, -List.map_take]
      exact hres
    · have hA : Mut { l := H.l, d := none } (halloc { l := H.l, d := none } (.arr 1 [] (t_string N))) [] := (Mut.refl _ []).alloc _
      obtain ⟨K1, p1, p2, p3, p4, p5⟩ := app_row (N := N) (K := halloc { l := H.l, d := none } (.arr 1 [] (t_string N))) (id := H.l.length) (n := 0) (es := []) (ys := (ks.take i).map avStr) (by simp) rfl (by unfold roomMax; simp; omega) (all_str _)
      have hM1 := (hA.trans p3 (by simp)).alloc (.arr 1 [avStr s] (t_string N))
      have e1 := (hA.vw a2 (by simp)).elems
      obtain ⟨K2, K3, g1, g2, g3, g4, g5⟩ := ins_fin (N := N) (a := K1.l.length) (c := H.l.length + 1) hi hl b2 hM1 (by rw [hget_halloc, if_neg (by rw [p4]; simp)]; simpa using p2) (by simp) (by omega) hins
      have hmin : min i ks.length = i := Nat.min_eq_left hi
      simp [hmin, -List.map_take] at p1 p4
      simp [p4, -List.map_drop] at g1 g2 g4
      simp [DM_law24_insert_4, DK_law24_insert_2, h0, h1, h5, a1, b1, fillA, repl, setFrom, chunk, e1, p1, p4, bindH_opt, g1, g2, g3, g4, g5, -hset_d, -halloc_d, -List.map_drop, -List.map_take]
      exact hres
  apply DRunP.of (by rfl)
  simp [D_law24_insert]
  refine wp_round (n := ks.length) (InsI x ks s { l := H.l, d := none }) ?_ ?_
  · exact ⟨0, rfl, rfl, rfl, by omega, rfl, fun j hj => by omega, rfl⟩
  · rintro q ρ H' ⟨i, h0, h1, h5, hi, rfl, hlt, rfl⟩
    have hw : IntKind.wrap .i64 ((i : Int) + 1) = ((i + 1 : Nat) : Int) := by rw [wrap64 (by omega) (by omega)]; omega
    by_cases hil : i < ks.length
    · have hil' : (i : Int) < ks.length := by omega
      obtain ⟨qa, t1, t2⟩ := hx0.at' (k := .i64) (i := (i : Int)) (e := avStr ks[i]) (by omega) (by simp [List.getElem?_eq_getElem hil]) rfl rfl rfl
      by_cases hc : ks[i] < s
      · have hcb : Op.bytesLess ks[i] s = true := by rw [bytesLess_eq]; simpa using hc
        simp [DM_law24_insert_1, h0, h1, h5, hlen, hil', t1, t2, hcb, hw, -Int.natCast_add]
        refine ⟨ks.length - (i + 1), by omega, ⟨i + 1, h0, h1, rfl, by omega, rfl, fun j hj => ?_, rfl⟩⟩
        by_cases hji : j < i
        · exact hlt j hji
        · have : j = i := by omega
          subst this
          exact ⟨_, List.getElem?_eq_getElem hil, hc⟩
      · have hcb : Op.bytesLess ks[i] s = false := by rw [bytesLess_eq]; simpa using hc
        obtain ⟨c1, c2⟩ := insP_cut (s := s) hi hlt (fun x hx => by rw [List.getElem?_eq_getElem hil] at hx; cases hx; exact hc)
        rw [List.getElem?_eq_getElem hil, Option.some.injEq] at c1
        by_cases he : ks[i] = s
        · have hf : insF ks s = true := c1.2 he
          have hcs : Op.bytesLess s s = false := by rw [he] at hcb; exact hcb
          simp [DM_law24_insert_1, DK_law24_insert_1, h0, h1, h5, hlen, hil', t1, t2, he, hcs]
          rw [hR]
          simp [insR, hf, settleZ, keeps, hfz]
        · have hf : insF ks s = false := by
            cases hb : insF ks s
            · rfl
            · exact absurd (c1.1 hb) he
          simp [DM_law24_insert_1, DK_law24_insert_1, h0, h1, h5, hlen, hil', t1, t2, hcb, he]
          exact alts i hi trivial h0 h1 h5 trivial hf (c2 hf)
    · have hin : i = ks.length := by omega
      subst hin
      obtain ⟨c1, c2⟩ := insP_cut (s := s) hi hlt (fun x hx => by simp at hx)
      have hf : insF ks s = false := by
        cases hb : insF ks s
        · rfl
        · have := c1.1 hb; simp at this
      simp [DM_law24_insert_1, DK_law24_insert_1, h0, h1, h5, hlen]
      exact alts _ hi trivial h0 h1 h5 trivial hf (c2 hf)
end
end Go.Proofs.Eng
/- A function that is run for whatever is drawn, as the engine takes it. Printed by tm.py. -/
set_option linter.unusedVariables false
set_option maxRecDepth 100000
namespace Go.Proofs.Eng
open Go

def DM_law24_is_1 (N : Nat → Nat) : AC :=
         .seq (
          .ops [⟨(some 45), .bin .lss (.t 44) (.t 43), none⟩]) (
         .seq (
          .cond (.t 45) (
           .skip) (
           .exit 2)) (
         .seq (
          .block 3 (
           .seq (
            .ops [⟨(some 46), .iaddr 1 (.t 42) (.t 44), none⟩, ⟨(some 47), .load none (.t 46), none⟩, ⟨(some 13), .mov (.t 47), none⟩]) (
           .seq (
            .seq (
             .ops [⟨(some 49), .mov (.t 1), none⟩, ⟨(some 50), .mov (.t 13), none⟩, ⟨(some 51), .lookup .string (.lit (.slice none 0 0)) (.t 49) (.t 50) true, none⟩, ⟨(some 48), .mov (.t 51), none⟩, ⟨(some 52), .extract (.t 48) 0, none⟩, ⟨(some 53), .extract (.t 48) 1, none⟩, ⟨(some 14), .mov (.t 52), none⟩, ⟨(some 15), .mov (.t 53), none⟩]) (
            .seq (
             .ops [⟨(some 54), .mov (.t 15), none⟩, ⟨(some 55), .un .not (.t 54), none⟩]) (
            .cond (.t 55) (
             .ops [⟨(some 56), .mov (.t 8), none⟩, ⟨(some 57), .mov (.t 13), none⟩, ⟨(some 58), .call (.c (.fn (f_law24_insert N) [] [])) [(.t 56), (.t 57)], none⟩, ⟨(some 8), .mov (.t 58), none⟩]) (
             .skip)))) (
           .seq (
            .ops [⟨(some 59), .mov (.t 13), none⟩, ⟨(some 60), .mov (.t 2), none⟩, ⟨(some 61), .eq false .pstr (.t 59) (.t 60), none⟩]) (
           .cond (.t 61) (
            .ops [⟨(some 62), .mov (.t 9), none⟩, ⟨(some 63), .mov (.t 10), none⟩, ⟨(some 64), .call (.c (.fn (f_law24_insert N) [] [])) [(.t 62), (.t 63)], none⟩, ⟨(some 9), .mov (.t 64), none⟩]) (
            .skip)))))) (
         .ops [⟨(some 65), .bin .add (.t 44) (.c (.lit (.int .i64 1))), none⟩, ⟨(some 44), .mov (.t 65), none⟩])))
def DL_law24_is_1 (N : Nat → Nat) : DC :=
    .seq (
     .regD [.next 34 (.t 33), .op ⟨(some 35), .extract (.t 34) 0, none⟩]) (
    .seq (
     .base (
      .cond (.t 35) (
       .skip) (
       .exit 0))) (
    .block 1 (
     .seq (
      .regD [.entry 36 (.t 33), .op ⟨(some 37), .extract (.t 36) 0, none⟩, .op ⟨(some 38), .extract (.t 36) 1, none⟩, .op ⟨(some 10), .mov (.t 37), none⟩, .op ⟨(some 11), .mov (.t 38), none⟩]) (
     .base (
      .seq (
       .ops [⟨(some 39), .mov (.t 7), none⟩, ⟨(some 40), .mov (.t 10), none⟩, ⟨(some 41), .call (.c (.fn (f_law24_insert N) [] [])) [(.t 39), (.t 40)], none⟩, ⟨(some 7), .mov (.t 41), none⟩]) (
      .seq (
       .seq (
        .ops [⟨(some 42), .mov (.t 11), none⟩, ⟨(some 43), .len (.t 42), none⟩, ⟨(some 44), .mov (.c (.lit (.int .i64 0))), none⟩]) (
       .block 2 (
        .loop (DM_law24_is_1 N)))) (
      .seq (
       .ops [⟨(some 67), .mov (.t 0), none⟩, ⟨(some 68), .mov (.t 10), none⟩, ⟨(some 69), .call (.c (.fn (f_p_deps_Net_On N) [] [])) [(.t 67), (.t 68)], none⟩, ⟨(some 66), .mov (.t 69), none⟩, ⟨(some 70), .extract (.t 66) 0, none⟩, ⟨(some 71), .extract (.t 66) 1, none⟩, ⟨(some 16), .mov (.t 70), none⟩, ⟨(some 17), .mov (.t 71), none⟩]) (
      .seq (
       .ops [⟨(some 72), .mov (.t 17), none⟩, ⟨(some 73), .un .not (.t 72), none⟩, ⟨(some 74), .mov (.t 73), none⟩, ⟨(some 75), .mov (.t 16), (some (74, false))⟩, ⟨(some 76), .mov (.t 11), (some (74, false))⟩, ⟨(some 77), .call (.c (.fn (f_law07_Same N) [] [])) [(.t 75), (.t 76)], (some (74, false))⟩, ⟨(some 78), .un .not (.t 77), (some (74, false))⟩, ⟨(some 79), .pick (.t 74) (.c (.lit (.bool true))) (.t 78), none⟩]) (
      .cond (.t 79) (
       .seq (
        .ops [⟨(some 6), .mov (.c (.lit (.bool false))), none⟩]) (
       .ret)) (
       .skip))))))))))
def DM_law24_is_4 (N : Nat → Nat) : AC :=
            .seq (
             .ops [⟨(some 101), .bin .lss (.t 100) (.t 99), none⟩]) (
            .seq (
             .cond (.t 101) (
              .skip) (
              .exit 8)) (
            .seq (
             .block 9 (
              .seq (
               .ops [⟨(some 102), .iaddr 1 (.t 98) (.t 100), none⟩, ⟨(some 103), .load none (.t 102), none⟩, ⟨(some 25), .mov (.t 103), none⟩]) (
              .seq (
               .ops [⟨(some 105), .mov (.t 1), none⟩, ⟨(some 106), .mov (.t 25), none⟩, ⟨(some 107), .lookup .string (.lit (.slice none 0 0)) (.t 105) (.t 106) true, none⟩, ⟨(some 104), .mov (.t 107), none⟩, ⟨(some 108), .extract (.t 104) 0, none⟩, ⟨(some 109), .extract (.t 104) 1, none⟩, ⟨(some 26), .mov (.t 108), none⟩, ⟨(some 27), .mov (.t 109), none⟩]) (
              .seq (
               .ops [⟨(some 110), .mov (.t 27), none⟩, ⟨(some 111), .mov (.t 110), none⟩, ⟨(some 112), .mov (.t 18), (some (111, true))⟩, ⟨(some 113), .mov (.t 25), (some (111, true))⟩, ⟨(some 114), .call (.c (.fn (f_law24_insert N) [] [])) [(.t 112), (.t 113)], (some (111, true))⟩, ⟨(some 115), .len (.t 114), (some (111, true))⟩, ⟨(some 116), .mov (.t 18), (some (111, true))⟩, ⟨(some 117), .len (.t 116), (some (111, true))⟩, ⟨(some 118), .bin .gtr (.t 115) (.t 117), (some (111, true))⟩, ⟨(some 119), .pick (.t 111) (.t 118) (.c (.lit (.bool false))), none⟩]) (
              .cond (.t 119) (
               .seq (
                .ops [⟨(some 120), .mov (.t 18), none⟩, ⟨(some 121), .mov (.t 25), none⟩, ⟨(some 122), .call (.c (.fn (f_law24_insert N) [] [])) [(.t 120), (.t 121)], none⟩, ⟨(some 18), .mov (.t 122), none⟩]) (
               .ops [⟨(some 21), .mov (.c (.lit (.bool true))), none⟩])) (
               .skip)))))) (
            .ops [⟨(some 123), .bin .add (.t 100) (.c (.lit (.int .i64 1))), none⟩, ⟨(some 100), .mov (.t 123), none⟩])))
def DM_law24_is_3 (N : Nat → Nat) : AC :=
        .seq (
         .ops [⟨(some 93), .bin .lss (.t 92) (.t 91), none⟩]) (
        .seq (
         .cond (.t 93) (
          .skip) (
          .exit 6)) (
        .seq (
         .block 7 (
          .seq (
           .ops [⟨(some 94), .iaddr 1 (.t 90) (.t 92), none⟩, ⟨(some 95), .load none (.t 94), none⟩, ⟨(some 23), .mov (.t 95), none⟩]) (
          .seq (
           .ops [⟨(some 96), .mov (.t 1), none⟩, ⟨(some 97), .mov (.t 23), none⟩, ⟨(some 98), .lookup .string (.lit (.slice none 0 0)) (.t 96) (.t 97) false, none⟩, ⟨(some 99), .len (.t 98), none⟩, ⟨(some 100), .mov (.c (.lit (.int .i64 0))), none⟩]) (
          .block 8 (
           .loop (DM_law24_is_4 N)))))) (
        .ops [⟨(some 124), .bin .add (.t 92) (.c (.lit (.int .i64 1))), none⟩, ⟨(some 92), .mov (.t 124), none⟩])))
def DM_law24_is_2 (N : Nat → Nat) : AC :=
     .seq (
      .seq (
       .ops [⟨(some 89), .mov (.t 21), none⟩]) (
      .cond (.t 89) (
       .skip) (
       .exit 4))) (
     .block 5 (
      .seq (
       .ops [⟨(some 21), .mov (.c (.lit (.bool false))), none⟩]) (
      .seq (
       .ops [⟨(some 90), .mov (.t 18), none⟩, ⟨(some 91), .len (.t 90), none⟩, ⟨(some 92), .mov (.c (.lit (.int .i64 0))), none⟩]) (
      .block 6 (
       .loop (DM_law24_is_3 N))))))
def DK_law24_is_1 (N : Nat → Nat) : DC :=
 .base (
  .seq (
   .ops [⟨(some 18), .mov (.c (.lit (.slice none 0 0))), none⟩]) (
  .seq (
   .seq (
    .ops [⟨(some 81), .mov (.t 1), none⟩, ⟨(some 82), .mov (.t 2), none⟩, ⟨(some 83), .lookup .string (.lit (.slice none 0 0)) (.t 81) (.t 82) true, none⟩, ⟨(some 80), .mov (.t 83), none⟩, ⟨(some 84), .extract (.t 80) 0, none⟩, ⟨(some 85), .extract (.t 80) 1, none⟩, ⟨(some 19), .mov (.t 84), none⟩, ⟨(some 20), .mov (.t 85), none⟩]) (
   .seq (
    .ops [⟨(some 86), .mov (.t 20), none⟩]) (
   .cond (.t 86) (
    .ops [⟨(some 87), .mov (.t 2), none⟩, ⟨(some 88), .bslice (t_string N) 1 none 1 [(.lit (.string (mkS [])))] [(0, 1, (.t 87))], none⟩, ⟨(some 18), .mov (.t 88), none⟩]) (
    .skip)))) (
  .seq (
   .seq (
    .ops [⟨(some 21), .mov (.c (.lit (.bool true))), none⟩]) (
   .block 4 (
    .loop (DM_law24_is_2 N)))) (
  .seq (
   .ops [⟨(some 126), .mov (.t 1), none⟩, ⟨(some 127), .mov (.t 2), none⟩, ⟨(some 128), .lookup .string (.lit (.slice none 0 0)) (.t 126) (.t 127) true, none⟩, ⟨(some 125), .mov (.t 128), none⟩, ⟨(some 129), .extract (.t 125) 0, none⟩, ⟨(some 130), .extract (.t 125) 1, none⟩, ⟨(some 28), .mov (.t 129), none⟩, ⟨(some 29), .mov (.t 130), none⟩]) (
  .seq (
   .ops [⟨(some 132), .mov (.t 0), none⟩, ⟨(some 133), .mov (.t 2), none⟩, ⟨(some 134), .call (.c (.fn (f_p_deps_Net_On N) [] [])) [(.t 132), (.t 133)], none⟩, ⟨(some 131), .mov (.t 134), none⟩, ⟨(some 135), .extract (.t 131) 0, none⟩, ⟨(some 136), .extract (.t 131) 1, none⟩, ⟨(some 30), .mov (.t 135), none⟩, ⟨(some 31), .mov (.t 136), none⟩]) (
  .seq (
   .ops [⟨(some 137), .mov (.t 31), none⟩, ⟨(some 138), .mov (.t 29), none⟩, ⟨(some 139), .eq false .pbool (.t 137) (.t 138), none⟩, ⟨(some 140), .mov (.t 139), none⟩, ⟨(some 141), .mov (.t 0), (some (140, true))⟩, ⟨(some 142), .call (.c (.fn (f_p_deps_Net_Names N) [] [])) [(.t 141)], (some (140, true))⟩, ⟨(some 143), .mov (.t 7), (some (140, true))⟩, ⟨(some 144), .call (.c (.fn (f_law07_Same N) [] [])) [(.t 142), (.t 143)], (some (140, true))⟩, ⟨(some 145), .pick (.t 140) (.t 144) (.c (.lit (.bool false))), none⟩, ⟨(some 146), .mov (.t 145), none⟩, ⟨(some 147), .mov (.t 0), (some (146, true))⟩, ⟨(some 148), .call (.c (.fn (f_p_deps_Net_Missing N) [] [])) [(.t 147)], (some (146, true))⟩, ⟨(some 149), .mov (.t 8), (some (146, true))⟩, ⟨(some 150), .call (.c (.fn (f_law07_Same N) [] [])) [(.t 148), (.t 149)], (some (146, true))⟩, ⟨(some 151), .pick (.t 146) (.t 150) (.c (.lit (.bool false))), none⟩, ⟨(some 152), .mov (.t 151), none⟩, ⟨(some 153), .mov (.t 0), (some (152, true))⟩, ⟨(some 154), .mov (.t 2), (some (152, true))⟩, ⟨(some 155), .call (.c (.fn (f_p_deps_Net_Users N) [] [])) [(.t 153), (.t 154)], (some (152, true))⟩, ⟨(some 156), .mov (.t 9), (some (152, true))⟩, ⟨(some 157), .call (.c (.fn (f_law07_Same N) [] [])) [(.t 155), (.t 156)], (some (152, true))⟩, ⟨(some 158), .pick (.t 152) (.t 157) (.c (.lit (.bool false))), none⟩, ⟨(some 159), .mov (.t 158), none⟩, ⟨(some 160), .mov (.t 0), (some (159, true))⟩, ⟨(some 161), .mov (.t 2), (some (159, true))⟩, ⟨(some 162), .call (.c (.fn (f_p_deps_Net_Cone N) [] [])) [(.t 160), (.t 161)], (some (159, true))⟩, ⟨(some 163), .mov (.t 18), (some (159, true))⟩, ⟨(some 164), .call (.c (.fn (f_law07_Same N) [] [])) [(.t 162), (.t 163)], (some (159, true))⟩, ⟨(some 165), .pick (.t 159) (.t 164) (.c (.lit (.bool false))), none⟩, ⟨(some 6), .mov (.t 165), none⟩]) (
  .ret)))))))
def hint_law24_is : Nat → Option AltT := fun k => match k with | _ => none
/-- azimuth/azimuthlaw24.is -/
def D_law24_is (N : Nat → Nat) : DFunc := ⟨166, [.inl 6],
 .seq (
  .base (
   .ops [⟨(some 6), .mov (.c (.lit (.bool false))), none⟩])) (
 .seq (
  .base (
   .ops [⟨(some 7), .mov (.c (.lit (.slice none 0 0))), none⟩, ⟨(some 8), .mov (.c (.lit (.slice none 0 0))), none⟩, ⟨(some 9), .mov (.c (.lit (.slice none 0 0))), none⟩])) (
 .seq (
  .seq (
   .regD [.op ⟨(some 32), .mov (.t 1), none⟩, .range 33 (.t 32)]) (
  .block 0 (
   .loop (DL_law24_is_1 N)))) (DK_law24_is_1 N))), false⟩
end Go.Proofs.Eng
/- Does a net tell what a model has? Run for whatever is drawn. -/
set_option linter.unusedVariables false
set_option linter.unusedSimpArgs false
set_option maxRecDepth 100000
namespace Go.Proofs.Eng
open Go
/-- The model's map. -/
structure ModI (H : Hp) (mm : Nat) (lm : List (Bs × AV)) (f : NF) : Prop where
  mp : ∃ es clk, hget H mm = some (.map es clk) ∧ SKeys es ∧ KV es = lm
  nd : (lm.map Prod.fst).Nodup
  dom : ∀ k, (aGet k lm).isSome = (f k).isSome
  row : ∀ k x on, aGet k lm = some x → f k = some on → Vw H 1 x (on.map avStr)
section
variable {Γ : Sums} {A : Tab} {N : Nat → Nat} {C : DCalls} {X : Nat → Prop} {H H' : Hp} {t : TypeId} {p m mm : Nat} {l lm : List (Bs × AV)} {f : NF}
theorem ModI.still (h : ModI H mm lm f) (k : Mut H H' []) : ModI H' mm lm f := by
  obtain ⟨es, clk, h1, h2⟩ := h.mp
  exact ⟨⟨es, clk, k.get' h1 (by simp), h2⟩, h.nd, h.dom, fun y x on hx hy => k.vw (h.row y x on hx hy) (by simp)⟩
theorem ModI.dd (h : ModI H mm lm f) (d : Option Nat) : ModI { l := H.l, d := d } mm lm f :=
  ⟨h.mp, h.nd, h.dom, fun y x on hx hy => (h.row y x on hx hy).dd d⟩
theorem ModI.look (h : ModI H mm lm f) : ∃ es clk, hget H mm = some (.map es clk) ∧ SKeys es ∧ KV es = lm ∧ (∀ (s : Bs) (z : AV), aLookup H .string z true (.string (mkS s)) (.map mm) = some (.tup [(aGet s lm).getD z, avBool (f s).isSome])) ∧ ∀ (s : Bs) (z : AV), aLookup H .string z false (.string (mkS s)) (.map mm) = some ((aGet s lm).getD z) := by
  obtain ⟨es, clk, m1, m2, m3⟩ := h.mp
  refine ⟨es, clk, m1, m2, m3, fun s z => ?_, fun s z => ?_⟩
  · rw [aLookup_str m1 m2, m3, bl_mkS, ← h.dom s]
    unfold aGet
    cases vFind s lm <;> rfl
  · rw [aLookup_str' m1 m2, m3, bl_mkS]
    rfl
theorem ModI.rowOf (h : ModI H mm lm f) (s : Bs) : Vw H 1 ((aGet s lm).getD avNilS) (((f s).getD []).map avStr) := by
  have hd := h.dom s
  cases ha : aGet s lm with
  | none =>
    rw [ha] at hd
    cases hf : f s with
    | none => exact .inl (.inl ⟨rfl, rfl⟩)
    | some on => rw [hf] at hd; cases hd
  | some x =>
    rw [ha] at hd
    obtain ⟨on, hf⟩ := Option.isSome_iff_exists.1 hd.symm
    rw [hf]
    exact h.row s x on ha hf
theorem ModI.keys_iff (h : ModI H mm lm f) (k : Bs) : k ∈ lm.map Prod.fst ↔ (f k).isSome = true := by
  rw [← h.dom k]
  cases ha : aGet k lm with
  | none => simp only [Option.isSome_none, Bool.false_eq_true, iff_false]; exact aGet_none.1 ha
  | some x =>
    simp only [Option.isSome_some, iff_true]
    exact Decidable.byContradiction fun hk => by rw [aGet_none.2 hk] at ha; cases ha

structure IsC (Γ : Sums) (A : Tab) (N : Nat → Nat) : Prop where
  dep : DepC Γ A N
  ins : ∀ {H : Hp} {x : AV} {ks : List Bs}, Vw H 1 x (ks.map avStr) → ks.length < 2 ^ 30 → ∀ s, (lim Γ A).call (f_law24_insert N) [x, avStr s] H = some (insR x ks s)
  same : Has Γ A (f_law07_Same N) (C_law07_Same N)
theorem insR_vw {x : AV} {ks : List Bs} (h : Vw H 1 x (ks.map avStr)) (s : Bs) : ∃ v, insR x ks s = (v, none) ∧ Vw H 1 v ((insP ks s).map avStr) := by
  unfold insR
  cases hf : insF ks s
  · exact ⟨_, rfl, .inl (.inr rfl)⟩
  · exact ⟨x, rfl, by rw [insP_found hf]; exact h⟩

/-- One pass over the cone: ahead of a name; within its row. -/
inductive PasI (H0 : Hp) (p mm : Nat) (ask : Bs) (v7 v8 v9 : AV) (f : NF) (c0 : List Bs) (x0 : AV) (q : Nat) (ρ : Rho) (H : Hp) : Prop where
  | mk (i : Nat) (c : List Bs) (b : Bool) (h0 : ρ 0 = .ptr p 0) (h1 : ρ 1 = .map mm) (h2 : ρ 2 = avStr ask) (h7 : ρ 7 = v7) (h8 : ρ 8 = v8) (h9 : ρ 9 = v9) (h21 : ρ 21 = avBool b) (h90 : ρ 90 = x0) (h91 : ρ 91 = avInt .i64 (c0.length : Nat)) (h92 : ρ 92 = avInt .i64 (i : Nat)) (hi : i ≤ c0.length)
      (hH : H = H0) (hv : Vw H 1 (ρ 18) (c.map avStr)) (hu : Up c) (hr : ∀ y ∈ c, (f ask).isSome = true ∧ Reach f ask y) (hsub : ∀ y ∈ c0, y ∈ c) (hb0 : b = false → c = c0 ∧ ∀ s ∈ c0.take i, ∀ y, Edge f s y → y ∈ c0) (hb1 : b = true → c0.length < c.length) (hq : q = c0.length - i)
inductive PasJ (H0 : Hp) (p mm : Nat) (ask : Bs) (v7 v8 v9 : AV) (f : NF) (c0 : List Bs) (x0 : AV) (i : Nat) (s : Bs) (rv : AV) (on : List Bs) (q : Nat) (ρ : Rho) (H : Hp) : Prop where
  | mk (j : Nat) (c : List Bs) (b : Bool) (h0 : ρ 0 = .ptr p 0) (h1 : ρ 1 = .map mm) (h2 : ρ 2 = avStr ask) (h7 : ρ 7 = v7) (h8 : ρ 8 = v8) (h9 : ρ 9 = v9) (h21 : ρ 21 = avBool b) (h90 : ρ 90 = x0) (h91 : ρ 91 = avInt .i64 (c0.length : Nat)) (h92 : ρ 92 = avInt .i64 (i : Nat)) (h98 : ρ 98 = rv) (h99 : ρ 99 = avInt .i64 (on.length : Nat)) (h100 : ρ 100 = avInt .i64 (j : Nat)) (hj : j ≤ on.length)
      (hH : H = H0) (hv : Vw H 1 (ρ 18) (c.map avStr)) (hu : Up c) (hr : ∀ y ∈ c, (f ask).isSome = true ∧ Reach f ask y) (hsub : ∀ y ∈ c0, y ∈ c) (hb0 : b = false → c = c0 ∧ (∀ s ∈ c0.take i, ∀ y, Edge f s y → y ∈ c0) ∧ ∀ y ∈ on.take j, (f y).isSome = true → y ∈ c0) (hb1 : b = true → c0.length < c.length) (hq : q = on.length - j)
/-- Between passes. -/
inductive PasK (H0 : Hp) (p mm : Nat) (ask : Bs) (v7 v8 v9 : AV) (f : NF) (len : Nat) (q : Nat) (ρ : Rho) (H : Hp) : Prop where
  | mk (c : List Bs) (b : Bool) (h0 : ρ 0 = .ptr p 0) (h1 : ρ 1 = .map mm) (h2 : ρ 2 = avStr ask) (h7 : ρ 7 = v7) (h8 : ρ 8 = v8) (h9 : ρ 9 = v9) (h21 : ρ 21 = avBool b) (hH : H = H0) (hv : Vw H 1 (ρ 18) (c.map avStr)) (hu : Up c) (hr : ∀ y ∈ c, (f ask).isSome = true ∧ Reach f ask y) (ha : (f ask).isSome = true → ask ∈ c)
      (hb0 : b = false → ∀ s ∈ c, ∀ y, Edge f s y → y ∈ c) (hq : q = if b then len + 1 - c.length else 0)

theorem is_cone (h : IsC Γ A N) {K : Hp} (hm : ModI K mm lm f) {len : Nat} (hlen : len < 2 ^ 20) {ask : Bs} (hkl : ∀ c : List Bs, Up c → (∀ y ∈ c, (f ask).isSome = true ∧ Reach f ask y) → c.length ≤ len) (hrb : ∀ s, ((f s).getD []).length < 2 ^ 20) {v7 v8 v9 : AV} {n : Nat} {ρ : Rho} (hst : PasK K p mm ask v7 v8 v9 f len n ρ K) {Q : Post}
    (hQ : ∀ ρ' c, ρ' 0 = .ptr p 0 → ρ' 1 = .map mm → ρ' 2 = avStr ask → ρ' 7 = v7 → ρ' 8 = v8 → ρ' 9 = v9 → Vw K 1 (ρ' 18) (c.map avStr) → Up c → (∀ y ∈ c, (f ask).isSome = true ∧ Reach f ask y) → ((f ask).isSome = true → ask ∈ c) → (∀ s ∈ c, ∀ y, Edge f s y → y ∈ c) → Q (.exit 4) ρ' K) :
    wp (lim Γ A) none (.loop (DM_law24_is_2 N)) ρ K Q := by
  obtain ⟨es, clk, m1, m2, m3, k1, k2⟩ := hm.look
  refine wp_round (n := n) (PasK K p mm ask v7 v8 v9 f len) hst ?_
  rintro q ρ K' ⟨c0, b, h0, h1, h2, h7, h8, h9, h21, rfl, hvK, huK, hrK, haK, hb0K, rfl⟩
  cases b
  · simp [DM_law24_is_2, h21]
    exact hQ _ c0 h0 h1 h2 h7 h8 h9 hvK huK hrK haK (hb0K rfl)
  · have hcl := hkl c0 huK hrK
    have hvl := hvK.len
    simp only [List.length_map] at hvl
    simp [DM_law24_is_2, h21, hvl]
    obtain ⟨x0, hx0⟩ : ∃ x0, x0 = ρ 18 := ⟨_, rfl⟩
    have hv0 := hvK
    rw [← hx0] at hv0
    refine wp_round (n := c0.length) (PasI K' p mm ask v7 v8 v9 f c0 x0) ?_ ?_
    · exact ⟨0, c0, false, h0, h1, h2, h7, h8, h9, rfl, hx0.symm, rfl, rfl, by omega, rfl, hvK, huK, hrK, fun y hy => hy, fun _ => ⟨rfl, by simp⟩, fun hb => (by cases hb), rfl⟩
    · rintro q ρ K2 ⟨i, c, b, h0, h1, h2, h7, h8, h9, h21, h90, h91, h92, hi, rfl, hvI, huI, hrI, hsubI, hb0I, hb1I, rfl⟩
      by_cases hil : i < c0.length
      · have hil' : (i : Int) < c0.length := by omega
        obtain ⟨s, hs⟩ : ∃ s, c0[i]? = some s := ⟨_, List.getElem?_eq_getElem hil⟩
        obtain ⟨qa, t1, t2⟩ := hv0.at' (k := .i64) (i := (i : Int)) (e := avStr s) (by omega) (by simp [hs]) rfl rfl rfl
        have hrow := hm.rowOf s
        have hrl := hrow.len
        simp only [List.length_map] at hrl
        have hrs := hrb s
        have htk : c0.take (i + 1) = c0.take i ++ [s] := by
          rw [List.take_succ_eq_append_getElem hil]
          rw [List.getElem?_eq_getElem hil] at hs
          simp only [Option.some.injEq] at hs
          rw [hs]
        have hsm : s ∈ c := hsubI s (List.mem_of_getElem? hs)
        have hwi : IntKind.wrap .i64 ((i : Int) + 1) = ((i + 1 : Nat) : Int) := by rw [wrap64 (by omega) (by omega)]; omega
        simp [DM_law24_is_3, h0, h1, h2, h90, h91, h92, hil', t1, t2, k2, hrl, -Int.natCast_add]
        refine wp_round (n := ((f s).getD []).length) (PasJ K2 p mm ask v7 v8 v9 f c0 x0 i s ((aGet s lm).getD avNilS) ((f s).getD [])) ?_ ?_
        · exact ⟨0, c, b, h0, h1, h2, h7, h8, h9, h21, h90, h91, h92, rfl, rfl, rfl, by omega, rfl, hvI, huI, hrI, hsubI, fun hb => ⟨(hb0I hb).1, (hb0I hb).2, by simp⟩, hb1I, rfl⟩
        · rintro q ρ K3 ⟨j, c, b, h0, h1, h2, h7, h8, h9, h21, h90, h91, h92, h98, h99, h100, hj, rfl, hv, hu, hr, hsub, hb0, hb1, rfl⟩
          have hcl2 := hkl c hu hr
          have hvl2 := hv.len
          simp only [List.length_map] at hvl2
          have hw : IntKind.wrap .i64 ((j : Int) + 1) = ((j + 1 : Nat) : Int) := by rw [wrap64 (by omega) (by omega)]; omega
          by_cases hjl : j < ((f s).getD []).length
          · have hjl' : (j : Int) < ((f s).getD []).length := by omega
            obtain ⟨z, hz⟩ : ∃ z, ((f s).getD [])[j]? = some z := ⟨_, List.getElem?_eq_getElem hjl⟩
            have htz : ((f s).getD []).take (j + 1) = ((f s).getD []).take j ++ [z] := by
              rw [List.take_succ_eq_append_getElem hjl]
              rw [List.getElem?_eq_getElem hjl] at hz
              simp only [Option.some.injEq] at hz
              rw [hz]
            obtain ⟨qb, u1, u2⟩ := hrow.at' (k := .i64) (i := (j : Int)) (e := avStr z) (by omega) (by simp [hz]) rfl rfl rfl
            cases hdz : (f z).isSome
            · simp [DM_law24_is_4, h0, h1, h2, h90, h91, h92, h98, h99, h100, hjl', u1, u2, k1, hdz, hw, -Int.natCast_add]
              exact ⟨((f s).getD []).length - (j + 1), by omega, ⟨j + 1, c, b, h0, h1, h2, h7, h8, h9, h21, h90, h91, h92, h98, h99, rfl, by omega, rfl, hv, hu, hr, hsub, fun hb => ⟨(hb0 hb).1, (hb0 hb).2.1, fun y hy hfy => by
                rw [htz, List.mem_append, List.mem_singleton] at hy
                rcases hy with hy | rfl
                · exact (hb0 hb).2.2 y hy hfy
                · rw [hdz] at hfy; cases hfy⟩, hb1, rfl⟩⟩
            · have hins := h.ins hv (by omega) z
              obtain ⟨v, hv1, hv2⟩ := insR_vw hv z
              rw [hv1] at hins
              have hvl3 := hv2.len
              simp only [List.length_map] at hvl3
              rw [insP_len] at hvl3
              have hmz := insF_iff hu z
              have hzr : (f ask).isSome = true ∧ Reach f ask z := ⟨(hr s (hsub s (List.mem_of_getElem? hs))).1, (hr s (hsub s (List.mem_of_getElem? hs))).2.step ⟨List.mem_of_getElem? hz, hdz⟩⟩
              cases hf : insF c z
              · have hzc : z ∉ c := fun e => by rw [hmz.2 e] at hf; cases hf
                rw [hf] at hvl3
                simp only [Bool.false_eq_true, if_false] at hvl3
                have hgt : ((c.length : Nat) : Int) < ((c.length + 1 : Nat) : Int) := by omega
                have hil3 := insP_len c z
                rw [hf] at hil3
                simp only [Bool.false_eq_true, if_false] at hil3
                simp [DM_law24_is_4, h0, h1, h2, h90, h91, h92, h98, h99, h100, hjl', u1, u2, k1, hdz, hins, hvl3, hvl2, hgt, hw, -Int.natCast_add]
                refine ⟨((f s).getD []).length - (j + 1), by omega, ⟨j + 1, insP c z, true, h0, h1, h2, h7, h8, h9, rfl, h90, h91, h92, h98, h99, rfl, by omega, rfl, hv2, insP_up z hu, fun y hy => ?_, fun y hy => (insP_mem c z y).2 (.inr (hsub y hy)), fun hb => (by cases hb), fun _ => ?_, rfl⟩⟩
                · rcases (insP_mem c z y).1 hy with rfl | hy
                  · exact hzr
                  · exact hr y hy
                · have : c0.length ≤ c.length := by
                    cases b
                    · rw [(hb0 rfl).1]; exact Nat.le_refl _
                    · have := hb1 rfl; omega
                  omega
              · have hzc : z ∈ c := hmz.1 hf
                rw [hf] at hvl3
                simp only [if_true] at hvl3
                have hgt : ¬ ((c.length : Nat) : Int) < ((c.length : Nat) : Int) := by omega
                simp [DM_law24_is_4, h0, h1, h2, h90, h91, h92, h98, h99, h100, hjl', u1, u2, k1, hdz, hins, hvl3, hvl2, hw, -Int.natCast_add]
                exact ⟨((f s).getD []).length - (j + 1), by omega, ⟨j + 1, c, b, h0, h1, h2, h7, h8, h9, h21, h90, h91, h92, h98, h99, rfl, by omega, rfl, hv, hu, hr, hsub, fun hb => ⟨(hb0 hb).1, (hb0 hb).2.1, fun y hy hfy => by
                  rw [htz, List.mem_append, List.mem_singleton] at hy
                  rcases hy with hy | rfl
                  · exact (hb0 hb).2.2 y hy hfy
                  · have := (hb0 hb).1
                    rw [← this]; exact hzc⟩, hb1, rfl⟩⟩
          · have hjn : j = ((f s).getD []).length := by omega
            subst hjn
            rw [List.take_length] at hb0
            simp [DM_law24_is_4, h0, h1, h2, h90, h91, h92, h98, h99, h100, hwi, -Int.natCast_add]
            exact ⟨c0.length - (i + 1), by omega, ⟨i + 1, c, b, h0, h1, h2, h7, h8, h9, h21, h90, h91, rfl, by omega, rfl, hv, hu, hr, hsub, fun hb => ⟨(hb0 hb).1, fun s' hs' y hy => by
              rw [htk, List.mem_append, List.mem_singleton] at hs'
              rcases hs' with hs' | rfl
              · exact (hb0 hb).2.1 s' hs' y hy
              · exact (hb0 hb).2.2 y hy.1 hy.2⟩, hb1, rfl⟩⟩
      · have hin : i = c0.length := by omega
        subst hin
        rw [List.take_length] at hb0I
        simp [DM_law24_is_3, h0, h1, h2, h90, h91, h92]
        have hcl3 := hkl c huI hrI
        refine ⟨_, ?_, ⟨c, b, h0, h1, h2, h7, h8, h9, h21, rfl, hvI, huI, hrI, fun hd => hsubI _ (haK hd), fun hb => ?_, rfl⟩⟩
        · cases b
          · simp; omega
          · have := hb1I rfl
            simp; omega
        · obtain ⟨e1, e2⟩ := hb0I hb
          rw [e1]
          exact e2

theorem is_tail (h : IsC Γ A N) (hi : NetI X H t p m l f) (hm : ModI H mm lm f) (hmis : ∀ (L : List Bs), L.Nodup → (∀ y ∈ L, ∃ s ∈ l.map Prod.fst, y ∈ (f s).getD []) → L.length < 2 ^ 30) {ask : Bs} (hask : ask.length < 2 ^ 20) {v7 v8 v9 : AV} {nm ms us : List Bs} (w7 : Vw H 1 v7 (nm.map avStr)) (w8 : Vw H 1 v8 (ms.map avStr)) (w9 : Vw H 1 v9 (us.map avStr))
    (e7 : Up nm ∧ ∀ y, y ∈ nm ↔ y ∈ l.map Prod.fst) (e8 : Up ms ∧ ∀ y, y ∈ ms ↔ f y = none ∧ ∃ s ∈ l.map Prod.fst, y ∈ (f s).getD []) (e9 : Up us ∧ ∀ y, y ∈ us ↔ y ∈ l.map Prod.fst ∧ ask ∈ (f y).getD []) {ρ : Rho} {its : Its} {H0 : Hp} {R : AV × Option Hp → Prop} (hR : ∀ v Hx, v = avBool true → R (settle H0 v Hx))
    (h0 : ρ 0 = .ptr p 0) (h1 : ρ 1 = .map mm) (h2 : ρ 2 = avStr ask) (h7 : ρ 7 = v7) (h8 : ρ 8 = v8) (h9 : ρ 9 = v9) :
    wpR C (lim Γ A) (DK_law24_is_1 N) ρ H its (EndsD [.inl 6] false H0 R) := by
  obtain ⟨es, clk, m1, m2, m3, k1, k2⟩ := hm.look
  have hsz := hi.sz
  have hkl : ∀ c : List Bs, Up c → (∀ y ∈ c, (f ask).isSome = true ∧ Reach f ask y) → c.length ≤ l.length := fun c hu hr => by
    have := List.Nodup.length_le_of_subset (l₁ := c) (l₂ := l.map Prod.fst) hu.nodup (fun k hk => (hi.keys_iff k).2 ((hr k hk).2.dom (hr k hk).1))
    simpa using this
  have hrb := hi.rowb
  have hkeys := (sortB_perm (l.map Prod.fst))
  have key : ∀ {K : Hp} {c : List Bs} {v18 : AV}, Mut H K [] → Vw K 1 v18 (c.map avStr) → Up c → (∀ y, y ∈ c ↔ (f ask).isSome = true ∧ Reach f ask y) →
      ∃ c1 g1 x1 g2 x2 g3 x3 g4 x4 g5 K1 K2 K3 K4 K5, (lim Γ A).call (f_p_deps_Net_On N) [.ptr p 0, avStr ask] K = some (.tup [c1, avBool (f ask).isSome], g1) ∧ g1.getD K = K1 ∧
        (lim Γ A).call (f_p_deps_Net_Names N) [.ptr p 0] K1 = some (x1, g2) ∧ g2.getD K1 = K2 ∧ (lim Γ A).call (f_law07_Same N) [x1, v7] K2 = some (avBool true, none) ∧
        (lim Γ A).call (f_p_deps_Net_Missing N) [.ptr p 0] K2 = some (x2, g3) ∧ g3.getD K2 = K3 ∧ (lim Γ A).call (f_law07_Same N) [x2, v8] K3 = some (avBool true, none) ∧
        (lim Γ A).call (f_p_deps_Net_Users N) [.ptr p 0, avStr ask] K3 = some (x3, g4) ∧ g4.getD K3 = K4 ∧ (lim Γ A).call (f_law07_Same N) [x3, v9] K4 = some (avBool true, none) ∧
        (lim Γ A).call (f_p_deps_Net_Cone N) [.ptr p 0, avStr ask] K4 = some (x4, g5) ∧ g5.getD K4 = K5 ∧ (lim Γ A).call (f_law07_Same N) [x4, v18] K5 = some (avBool true, none) := by
    intro K c v18 hMK hv hu hc
    obtain ⟨c1, g1, a1, a2, a3⟩ := On_call h.dep (hi.still hMK) ask
    have M1 := hMK.trans a2 (by simp)
    obtain ⟨x1, g2, b1, b2, b3, b4⟩ := Names_call h.dep (hi.still M1)
    have M2 := M1.trans b2 (by simp)
    obtain ⟨x2, g3, L, d1, d2, d3, d4, d5⟩ := Missing_call h.dep (hi.still M2) hmis
    have M3 := M2.trans d2 (by simp)
    obtain ⟨x3, g4, u1, u2, u3⟩ := Users_call h.dep (hi.still M3) ask
    have M4 := M3.trans u2 (by simp)
    obtain ⟨x4, g5, L4, q1, q2, q3, q4, q5, q6⟩ := Cone_call h.dep (hi.still M4) ask hask
    have M5 := M4.trans q2 (by simp)
    have MK5 : Mut K (g5.getD (g4.getD (g3.getD (g2.getD (g1.getD K))))) [] := (((a2.trans b2 (by simp)).trans d2 (by simp)).trans u2 (by simp)).trans q2 (by simp)
    have s1 := Same_call h.same (b3.vw) (M2.vw w7 (by simp)) (by rw [hkeys.length_eq]; simp; omega)
    have s2 := Same_call h.same d3 (M3.vw w8 (by simp)) (by have := hmis L d4.nodup (fun y hy => ((d5 y).1 hy).2); omega)
    have s3 := Same_call h.same u3 (M4.vw w9 (by simp)) (by have := List.length_filter_le (fun s => decide (ask ∈ (f s).getD [])) (sortB (l.map Prod.fst)); rw [hkeys.length_eq] at this; simp at this; omega)
    have s4 := Same_call h.same q3 (MK5.vw hv (by simp)) (by omega)
    have hnd := hi.nd
    have t1 : sortB (l.map Prod.fst) = nm := (Up.sort hnd).eq e7.1 fun y => by rw [hkeys.mem_iff, e7.2]
    have t2 : L = ms := d4.eq e8.1 fun y => by rw [d5, e8.2]
    have t3 : (sortB (l.map Prod.fst)).filter (fun s => decide (ask ∈ (f s).getD [])) = us := (up_filter (Up.sort hnd) _).eq e9.1 fun y => by rw [List.mem_filter, hkeys.mem_iff, e9.2]; simp
    have t4 : L4 = c := q4.eq hu fun y => by rw [q5, hc]
    rw [decide_eq_true t1] at s1
    rw [decide_eq_true t2] at s2
    rw [decide_eq_true t3] at s3
    rw [decide_eq_true t4] at s4
    exact ⟨c1, g1, x1, g2, x2, g3, x3, g4, x4, g5, _, _, _, _, _, a1, rfl, b1, rfl, s1, d1, rfl, s2, u1, rfl, s3, q1, rfl, s4⟩
  have hclo : ∀ c : List Bs, (∀ y ∈ c, (f ask).isSome = true ∧ Reach f ask y) → ((f ask).isSome = true → ask ∈ c) → (∀ s ∈ c, ∀ y, Edge f s y → y ∈ c) → ∀ y, y ∈ c ↔ (f ask).isSome = true ∧ Reach f ask y := fun c hr ha hcl y =>
    ⟨hr y, fun hy => hy.2.closed (S := fun z => z ∈ c) (ha hy.1) fun a b h1 h2 => hcl a h1 b h2⟩
  cases hd : (f ask).isSome
  · simp [DK_law24_is_1, h0, h1, h2, k1, hd]
    refine is_cone (p := p) (mm := mm) (v7 := v7) (v8 := v8) (v9 := v9) h hm (len := l.length) hsz (ask := ask) (n := l.length + 1 - 0) hkl hrb ?_ ?_
    · exact ⟨[], true, h0, h1, h2, h7, h8, h9, rfl, rfl, .inl (.inl ⟨rfl, rfl⟩), by simp [Up], by simp, fun e => (by rw [hd] at e; cases e), fun e => (by cases e), rfl⟩
    intro ρ' c h0 h1 h2 h7 h8 h9 hv hu hr ha hcl
    obtain ⟨c1, g1, x1, g2, x2, g3, x3, g4, x4, g5, K1, K2, K3, K4, K5, a1, a2, b1, b2, b3, d1, d2, d3, u1, u2, u3, q1, q2, q3⟩ := key (Mut.refl H []) hv hu (hclo c hr ha hcl)
    rw [hd] at a1
    simp [h0, h1, h2, h7, h8, h9, k1, hd, a1, a2, b1, b2, b3, d1, d2, d3, u1, u2, u3, q1, q2, q3, bindH_opt]
    exact hR _ _ rfl
  · simp [DK_law24_is_1, h0, h1, h2, k1, hd, fillA, repl, setFrom, chunk, -halloc_d]
    have hMK : Mut H (halloc H (.arr 1 [avStr ask] (t_string N))) [] := (Mut.refl H []).alloc _
    obtain ⟨_, _, _, _, _, k3, _⟩ := (hm.still hMK).look
    refine is_cone (p := p) (mm := mm) (v7 := v7) (v8 := v8) (v9 := v9) h (hm.still hMK) (len := l.length) hsz (ask := ask) (n := l.length + 1 - 1) hkl hrb ?_ ?_
    · exact ⟨[ask], true, h0, h1, h2, h7, h8, h9, rfl, rfl, .inr ⟨H.l.length, 0, t_string N, [avStr ask], rfl, by simp, by simp, by simp⟩, by simp [Up], by simp only [List.mem_singleton, forall_eq]; exact ⟨hd, .refl⟩, by simp, fun e => (by cases e), rfl⟩
    intro ρ' c h0 h1 h2 h7 h8 h9 hv hu hr ha hcl
    obtain ⟨c1, g1, x1, g2, x2, g3, x3, g4, x4, g5, K1, K2, K3, K4, K5, a1, a2, b1, b2, b3, d1, d2, d3, u1, u2, u3, q1, q2, q3⟩ := key hMK hv hu (hclo c hr ha hcl)
    rw [hd] at a1
    simp [h0, h1, h2, h7, h8, h9, k3, hd, a1, a2, b1, b2, b3, d1, d2, d3, u1, u2, u3, q1, q2, q3, bindH_opt, -halloc_d]
    exact hR _ _ rfl

/-- How far the loop over the model has come. -/
inductive IsI (H0 : Hp) (p mm : Nat) (ask : Bs) (f : NF) (es : MEs) (clk it : Nat) (n : Nat) (ρ : Rho) (H : Hp) (its : Its) : Prop where
  | mk (done : MEs) (seen : List Nat) (last : Option (Value × AV × Nat)) (nm ms us : List Bs) (hg : Gone es done seen) (h0 : ρ 0 = .ptr p 0) (h1 : ρ 1 = .map mm) (h2 : ρ 2 = avStr ask) (h33 : ρ 33 = .ptr it 0) (hl : its.lookup it = some ⟨mm, clk, seen, last⟩) (hM : Mut H0 H [])
      (w7 : Vw H 1 (ρ 7) (nm.map avStr)) (w8 : Vw H 1 (ρ 8) (ms.map avStr)) (w9 : Vw H 1 (ρ 9) (us.map avStr)) (u7 : Up nm) (u8 : Up ms) (u9 : Up us) (e7 : ∀ y, y ∈ nm ↔ ∃ e ∈ done, keyB e.1 = y) (e8 : ∀ y, y ∈ ms ↔ f y = none ∧ ∃ e ∈ done, y ∈ (f (keyB e.1)).getD []) (e9 : ∀ y, y ∈ us ↔ (∃ e ∈ done, keyB e.1 = y) ∧ ask ∈ (f y).getD []) (hn : n = (leftL es seen).length)
/-- Within a row. -/
inductive IsJ (K : Hp) (p mm : Nat) (ask : Bs) (f : NF) (it : Nat) (v7 : AV) (s : Bs) (on : List Bs) (rv : AV) (ms0 us0 : List Bs) (q : Nat) (ρ : Rho) (H : Hp) : Prop where
  | mk (j : Nat) (ms us : List Bs) (h0 : ρ 0 = .ptr p 0) (h1 : ρ 1 = .map mm) (h2 : ρ 2 = avStr ask) (h33 : ρ 33 = .ptr it 0) (h7 : ρ 7 = v7) (h10 : ρ 10 = avStr s) (h11 : ρ 11 = rv) (h42 : ρ 42 = rv) (h43 : ρ 43 = avInt .i64 (on.length : Nat)) (h44 : ρ 44 = avInt .i64 (j : Nat)) (hj : j ≤ on.length) (hH : H = K)
      (w8 : Vw H 1 (ρ 8) (ms.map avStr)) (w9 : Vw H 1 (ρ 9) (us.map avStr)) (u8 : Up ms) (u9 : Up us) (e8 : ∀ y, y ∈ ms ↔ y ∈ ms0 ∨ (f y = none ∧ y ∈ on.take j)) (e9 : ∀ y, y ∈ us ↔ y ∈ us0 ∨ (y = s ∧ ask ∈ on.take j)) (hq : q = on.length - j)

theorem _root_.Go.Proofs.Eng.Mut.dead2 {H H' : Hp} {W : List Nat} (h : Mut H H' W) : Mut H (hdead H') W := by
  refine ⟨by have := h.len; simp [hdead]; omega, fun i hi hw => ?_, fun m hm => h.d m hm⟩
  rw [← h.old i hi hw]
  have := h.len
  simp only [hdead]
  rw [List.getElem?_append_left (by omega)]
theorem is_run (h : IsC Γ A N) (hi : NetI X H t p m l f) (hm : ModI H mm lm f) (hmis : ∀ (L : List Bs), L.Nodup → (∀ y ∈ L, ∃ s ∈ l.map Prod.fst, y ∈ (f s).getD []) → L.length < 2 ^ 30) {ask : Bs} (hask : ask.length < 2 ^ 20) :
    DRunP C Γ A (D_law24_is N) [.ptr p 0, .map mm, avStr ask] H fun r => r.1 = avBool true := by
  obtain ⟨R, hR⟩ : ∃ R : AV × Option Hp → Prop, R = fun r => r.1 = avBool true := ⟨_, rfl⟩
  have hR3 : ∀ v Hx, v = avBool true → R (settle H v Hx) := fun v Hx e => by rw [hR]; simpa using e
  rw [← hR]
  obtain ⟨es, clk, m1, m2, m3⟩ := hm.mp
  have hsz := hi.sz
  have hrb := hi.rowb
  have hlmk : ∀ k, k ∈ lm.map Prod.fst ↔ k ∈ l.map Prod.fst := fun k => by rw [hm.keys_iff, hi.keys_iff]
  have hlml : lm.length = l.length := by
    have := ((List.perm_ext_iff_of_nodup hm.nd hi.nd).2 hlmk).length_eq
    simpa using this
  apply DRunP.of (by rfl)
  simp [D_law24_is]
  refine wpRO_range rfl (show hget { l := H.l, d := none } mm = _ from m1) fun hok => ?_
  obtain ⟨G, hG⟩ : ∃ G, G = hdead { l := H.l, d := none } := ⟨_, rfl⟩
  have hMG : Mut { l := H.l, d := none } G [] := by rw [hG]; exact (Mut.refl _ []).dead2
  rw [← hG]
  simp
  refine wpR_round (n := es.length) (IsI { l := H.l, d := none } p mm ask f es clk H.l.length) ?_ ?_
  · exact ⟨[], [], none, [], [], [], Gone.nil es, rfl, rfl, rfl, rfl, by simp [List.lookup], hMG, .inl (.inl ⟨rfl, rfl⟩), .inl (.inl ⟨rfl, rfl⟩), .inl (.inl ⟨rfl, rfl⟩), by simp [Up], by simp [Up], by simp [Up], by simp, by simp, by simp, by rw [leftL_nil]⟩
  · rintro n ρ K its ⟨done, seen, last, nm, ms, us, hg, h0, h1, h2, h33, hl, hM, w7, w8, w9, u7, u8, u9, e7, e8, e9, rfl⟩
    have hiK := (hi.dd none).still hM
    have hmK := (hm.dd none).still hM
    have hmm : hget K mm = some (.map es clk) := hM.get' m1 (by simp)
    simp [DL_law24_is_1]
    refine wpRO_next h33 hl hmm (fun hz => ?_) (fun e he => ?_)
    · simp
      have hp := hg.done hz
      have hkey : ∀ y, (∃ e ∈ done, keyB e.1 = y) ↔ y ∈ l.map Prod.fst := fun y => by
        rw [← hlmk, ← m3]
        simp only [KV, List.map_map, List.mem_map, Function.comp_apply]
        constructor
        · rintro ⟨e, he, rfl⟩; exact ⟨e, hp.mem_iff.1 he, rfl⟩
        · rintro ⟨e, he, rfl⟩; exact ⟨e, hp.mem_iff.2 he, rfl⟩
      refine is_tail h hiK hmK hmis hask w7 w8 w9 ⟨u7, fun y => by rw [e7, hkey]⟩ ⟨u8, fun y => ?_⟩ ⟨u9, fun y => by rw [e9, hkey]⟩ hR3 h0 h1 h2 rfl rfl rfl
      rw [e8]
      constructor
      · rintro ⟨a1, e, a2, a3⟩; exact ⟨a1, keyB e.1, (hkey _).1 ⟨e, a2, rfl⟩, a3⟩
      · rintro ⟨a1, s, a2, a3⟩
        obtain ⟨e, b1, rfl⟩ := (hkey _).2 a2
        exact ⟨a1, e, b1, a3⟩
    · have hees := hg.mem he
      obtain ⟨sB, hs1⟩ := m2 e hees
      obtain ⟨hg2, hlen⟩ := hg.step hok he
      have hfr := hg.fresh hok he
      obtain ⟨k, v, st⟩ := e
      simp only at hs1
      subst hs1
      simp
      refine wpRO_entry (id := H.l.length) (I := ⟨mm, clk, seen ++ [st], some (.string sB, v, st)⟩) (es := es) (e := (.string sB, v, st)) (by simpa using h33) (by simp [List.lookup]) hmm rfl hees (by simp) ?_
      have hsB : AV.lit (.string sB) = avStr (bl sB) := congrArg (fun z => AV.lit (.string z)) (mkS_bl sB).symm
      obtain ⟨s, hs⟩ : ∃ s, s = bl sB := ⟨_, rfl⟩
      rw [← hs] at hsB
      have hag : aGet s lm = some v := by
        obtain ⟨ix, hix⟩ := List.mem_iff_getElem?.1 hees
        have hix2 : lm[ix]? = some (s, v) := by rw [← m3, hs]; simp [KV, hix, keyB]
        unfold aGet
        rw [vFind_nodup hm.nd hix2]
        rfl
      have hfs : ∃ on, f s = some on := by
        have := hm.dom s
        rw [hag] at this
        exact Option.isSome_iff_exists.1 this.symm
      obtain ⟨on, hfs⟩ := hfs
      have hrow : Vw K 1 v (on.map avStr) := hmK.row s v on hag hfs
      have hrl := hrow.len
      simp only [List.length_map] at hrl
      have honl := hi.bd s on hfs
      have hnml : nm.length < 2 ^ 30 := by
        have := List.Nodup.length_le_of_subset (l₁ := nm) (l₂ := l.map Prod.fst) u7.nodup (fun y hy => by
          obtain ⟨e, he, rfl⟩ := (e7 y).1 hy
          rw [← hlmk, ← m3]
          exact List.mem_map.2 ⟨(keyB e.1, e.2.1), List.mem_map.2 ⟨e, hg.sub he, rfl⟩, rfl⟩)
        simp at this
        omega
      have hins := h.ins w7 hnml s
      obtain ⟨v7, i1, i2⟩ := insR_vw w7 s
      rw [i1] at hins
      have hdsub : ∀ e ∈ done, keyB e.1 ∈ l.map Prod.fst := fun e he => by
        rw [← hlmk, ← m3]
        exact List.mem_map.2 ⟨(keyB e.1, e.2.1), List.mem_map.2 ⟨e, hg.sub he, rfl⟩, rfl⟩
      have hskey : s ∈ l.map Prod.fst := by rw [hi.keys_iff, hfs]; rfl
      rw [hsB]
      simp [hins, hrl]
      refine wp_round (n := on.length) (IsJ K p mm ask f H.l.length v7 s on v ms us) ?_ ?_
      · exact ⟨0, ms, us, h0, h1, h2, h33, rfl, rfl, rfl, rfl, rfl, rfl, by omega, rfl, w8, w9, u8, u9, by simp, by simp, rfl⟩
      · rintro q ρ K2 ⟨j, ms2, us2, h0, h1, h2, h33, h7, h10, h11, h42, h43, h44, hj, rfl, w8b, w9b, u8b, u9b, e8b, e9b, rfl⟩
        obtain ⟨_, _, _, _, _, k1, _⟩ := hmK.look
        have hw : IntKind.wrap .i64 ((j : Int) + 1) = ((j + 1 : Nat) : Int) := by rw [wrap64 (by omega) (by omega)]; omega
        by_cases hjl : j < on.length
        · have hjl' : (j : Int) < on.length := by omega
          obtain ⟨z, hz⟩ : ∃ z, on[j]? = some z := ⟨_, List.getElem?_eq_getElem hjl⟩
          have htz : on.take (j + 1) = on.take j ++ [z] := by
            rw [List.take_succ_eq_append_getElem hjl]
            rw [List.getElem?_eq_getElem hjl] at hz
            simp only [Option.some.injEq] at hz
            rw [hz]
          obtain ⟨qb, t1, t2⟩ := hrow.at' (k := .i64) (i := (j : Int)) (e := avStr z) (by omega) (by simp [hz]) rfl rfl rfl
          have hmsl : ms2.length < 2 ^ 30 := hmis ms2 u8b.nodup fun y hy => by
            rcases (e8b y).1 hy with hy | ⟨_, hy⟩
            · obtain ⟨_, e, he, hy2⟩ := (e8 y).1 hy
              exact ⟨keyB e.1, hdsub e he, hy2⟩
            · exact ⟨s, hskey, by rw [hfs]; exact List.mem_of_mem_take hy⟩
          have husl : us2.length < 2 ^ 30 := by
            have := List.Nodup.length_le_of_subset (l₁ := us2) (l₂ := l.map Prod.fst) u9b.nodup (fun y hy => by
              rcases (e9b y).1 hy with hy | ⟨rfl, _⟩
              · obtain ⟨⟨e, he, rfl⟩, _⟩ := (e9 y).1 hy
                exact hdsub e he
              · exact hskey)
            simp at this
            omega
          have hin8 := h.ins w8b hmsl z
          obtain ⟨v8, i3, i4⟩ := insR_vw w8b z
          rw [i3] at hin8
          have hin9 := h.ins w9b husl s
          obtain ⟨v9, i5, i6⟩ := insR_vw w9b s
          rw [i5] at hin9
          have step8 : ∀ ms3 : List Bs, (∀ y, y ∈ ms3 ↔ y ∈ ms2 ∨ (f z = none ∧ y = z)) → ∀ y, y ∈ ms3 ↔ y ∈ ms ∨ (f y = none ∧ y ∈ on.take (j + 1)) := fun ms3 h3 y => by
            rw [h3, e8b, htz, List.mem_append, List.mem_singleton]
            constructor
            · rintro ((a | ⟨a, b⟩) | ⟨a, rfl⟩)
              · exact .inl a
              · exact .inr ⟨a, .inl b⟩
              · exact .inr ⟨a, .inr rfl⟩
            · rintro (a | ⟨a, b | rfl⟩)
              · exact .inl (.inl a)
              · exact .inl (.inr ⟨a, b⟩)
              · exact .inr ⟨a, rfl⟩
          have step9 : ∀ us3 : List Bs, (∀ y, y ∈ us3 ↔ y ∈ us2 ∨ (z = ask ∧ y = s)) → ∀ y, y ∈ us3 ↔ y ∈ us ∨ (y = s ∧ ask ∈ on.take (j + 1)) := fun us3 h3 y => by
            rw [h3, e9b, htz, List.mem_append, List.mem_singleton]
            constructor
            · rintro ((a | ⟨a, b⟩) | ⟨rfl, rfl⟩)
              · exact .inl a
              · exact .inr ⟨a, .inl b⟩
              · exact .inr ⟨rfl, .inr rfl⟩
            · rintro (a | ⟨a, b | rfl⟩)
              · exact .inl (.inl a)
              · exact .inl (.inr ⟨a, b⟩)
              · exact .inr ⟨rfl, a⟩
          cases hfz : (f z).isSome
          · have hfz' : f z = none := by simpa using hfz
            by_cases hza : z = ask
            · subst hza
              simp [DM_law24_is_1, h0, h1, h2, h10, h42, h43, h44, hjl', t1, t2, k1, hfz, hin8, hin9, hw, -Int.natCast_add]
              refine ⟨on.length - (j + 1), by omega, ⟨j + 1, insP ms2 z, insP us2 s, h0, h1, h2, h33, h7, h10, h11, h42, h43, rfl, by omega, rfl, i4, i6, insP_up z u8b, insP_up s u9b, step8 _ fun y => ?_, step9 _ fun y => ?_, rfl⟩⟩
              · rw [insP_mem]
                exact ⟨fun h => h.elim (fun h => .inr ⟨hfz', h⟩) .inl, fun h => h.elim .inr (fun h => .inl h.2)⟩
              · rw [insP_mem]
                exact ⟨fun h => h.elim (fun h => .inr ⟨rfl, h⟩) .inl, fun h => h.elim .inr (fun h => .inl h.2)⟩
            · simp [DM_law24_is_1, h0, h1, h2, h10, h42, h43, h44, hjl', t1, t2, k1, hfz, hin8, hza, hw, -Int.natCast_add]
              refine ⟨on.length - (j + 1), by omega, ⟨j + 1, insP ms2 z, us2, h0, h1, h2, h33, h7, h10, h11, h42, h43, rfl, by omega, rfl, i4, w9b, insP_up z u8b, u9b, step8 _ fun y => ?_, step9 _ fun y => ?_, rfl⟩⟩
              · rw [insP_mem]
                exact ⟨fun h => h.elim (fun h => .inr ⟨hfz', h⟩) .inl, fun h => h.elim .inr (fun h => .inl h.2)⟩
              · exact ⟨fun h => .inl h, fun h => h.elim (fun h => h) (fun h => absurd h.1 hza)⟩
          · have hfz' : f z ≠ none := by intro e; rw [e] at hfz; cases hfz
            by_cases hza : z = ask
            · subst hza
              simp [DM_law24_is_1, h0, h1, h2, h10, h42, h43, h44, hjl', t1, t2, k1, hfz, hin9, hw, -Int.natCast_add]
              refine ⟨on.length - (j + 1), by omega, ⟨j + 1, ms2, insP us2 s, h0, h1, h2, h33, h7, h10, h11, h42, h43, rfl, by omega, rfl, w8b, i6, u8b, insP_up s u9b, step8 _ fun y => ?_, step9 _ fun y => ?_, rfl⟩⟩
              · exact ⟨fun h => .inl h, fun h => h.elim (fun h => h) (fun h => absurd h.1 hfz')⟩
              · rw [insP_mem]
                exact ⟨fun h => h.elim (fun h => .inr ⟨rfl, h⟩) .inl, fun h => h.elim .inr (fun h => .inl h.2)⟩
            · simp [DM_law24_is_1, h0, h1, h2, h10, h42, h43, h44, hjl', t1, t2, k1, hfz, hza, hw, -Int.natCast_add]
              refine ⟨on.length - (j + 1), by omega, ⟨j + 1, ms2, us2, h0, h1, h2, h33, h7, h10, h11, h42, h43, rfl, by omega, rfl, w8b, w9b, u8b, u9b, step8 _ fun y => ?_, step9 _ fun y => ?_, rfl⟩⟩
              · exact ⟨fun h => .inl h, fun h => h.elim (fun h => h) (fun h => absurd h.1 hfz')⟩
              · exact ⟨fun h => .inl h, fun h => h.elim (fun h => h) (fun h => absurd h.1 hza)⟩
        · have hjn : j = on.length := by omega
          subst hjn
          rw [List.take_length] at e8b e9b
          obtain ⟨c1, g1, a1, a2, a3⟩ := On_call h.dep hiK s
          rw [hfs] at a1 a3
          simp only [Option.isSome_some, Option.getD_some] at a1 a3
          obtain ⟨K3, hK3⟩ : ∃ K3, K3 = g1.getD K2 := ⟨_, rfl⟩
          rw [← hK3] at a2 a3
          have hsm := Same_call h.same a3 (a2.vw hrow (by simp)) (by omega)
          rw [decide_eq_true rfl] at hsm
          simp [DM_law24_is_1, h0, h1, h2, h10, h11, h42, h43, h44, a1, bindH_opt, ← hK3, hsm]
          refine ⟨_, ?_, ⟨done ++ [(.string sB, v, st)], seen ++ [st], some (.string sB, v, st), insP nm s, ms2, us2, hg2, h0, h1, h2, h33, by simp [List.lookup], hM.trans a2 (by simp), (by have h9 : Vw K3 1 v7 ((insP nm s).map avStr) := a2.vw i2 (by simp); rw [← h7] at h9; exact h9), a2.vw w8b (by simp), a2.vw w9b (by simp), insP_up s u7, u8b, u9b, fun y => ?_, fun y => ?_, fun y => ?_, rfl⟩⟩
          · have := hlen
            simp only at this
            omega
          · rw [insP_mem, e7]
            simp only [List.mem_append, List.mem_singleton]
            constructor
            · rintro (rfl | ⟨e, a, b⟩)
              · exact ⟨_, .inr rfl, hs.symm⟩
              · exact ⟨e, .inl a, b⟩
            · rintro ⟨e, a | rfl, b⟩
              · exact .inr ⟨e, a, b⟩
              · exact .inl (b.symm.trans hs.symm)
          · rw [e8b, e8]
            simp only [List.mem_append, List.mem_singleton]
            constructor
            · rintro (⟨a, e, b, c⟩ | ⟨a, b⟩)
              · exact ⟨a, e, .inl b, c⟩
              · refine ⟨a, _, .inr rfl, ?_⟩
                show y ∈ (f (bl sB)).getD []
                rw [← hs, hfs]; exact b
            · rintro ⟨a, e, b | rfl, c⟩
              · exact .inl ⟨a, e, b, c⟩
              · refine .inr ⟨a, ?_⟩
                have c : y ∈ (f (bl sB)).getD [] := c
                rw [← hs, hfs] at c; exact c
          · rw [e9b, e9]
            simp only [List.mem_append, List.mem_singleton]
            constructor
            · rintro (⟨⟨e, a, b⟩, c⟩ | ⟨rfl, c⟩)
              · exact ⟨⟨e, .inl a, b⟩, c⟩
              · exact ⟨⟨_, .inr rfl, hs.symm⟩, by rw [hfs]; exact c⟩
            · rintro ⟨⟨e, a | rfl, b⟩, c⟩
              · exact .inl ⟨⟨e, a, b⟩, c⟩
              · have b : bl sB = y := b
                rw [← hs] at b
                subst b
                exact .inr ⟨rfl, by rw [hfs] at c; exact c⟩
end
end Go.Proofs.Eng
/- Templates of functions, as the engine takes them; numbers of functions and types by names. Printed by tm.py. -/
set_option linter.unusedVariables false
set_option maxRecDepth 100000
namespace Go.Proofs.Eng
open Go

def L_law24_Few_2 (N : Nat → Nat) : AC :=
        .seq (
         .ops [⟨(some 27), .bin .lss (.t 26) (.t 25), none⟩]) (
        .seq (
         .cond (.t 27) (
          .skip) (
          .exit 2)) (
        .seq (
         .block 3 (
          .seq (
           .ops [⟨(some 28), .iaddr 1 (.t 24) (.t 26), none⟩, ⟨(some 29), .load none (.t 28), none⟩, ⟨(some 6), .mov (.t 29), none⟩]) (
          .seq (
           .ops [⟨(some 30), .mov (.t 6), none⟩, ⟨(some 31), .lens (.t 30), none⟩, ⟨(some 32), .bin .gtr (.t 31) (.c (.lit (.int .i64 30))), none⟩]) (
          .cond (.t 32) (
           .seq (
            .ops [⟨(some 2), .mov (.c (.lit (.bool false))), none⟩]) (
           .ret)) (
           .skip))))) (
        .ops [⟨(some 33), .bin .add (.t 26) (.c (.lit (.int .i64 1))), none⟩, ⟨(some 26), .mov (.t 33), none⟩])))
def K_law24_Few_1 (N : Nat → Nat) : AC :=
 .ops [⟨(some 34), .bin .add (.t 9) (.c (.lit (.int .i64 1))), none⟩, ⟨(some 9), .mov (.t 34), none⟩]
def L_law24_Few_1 (N : Nat → Nat) : AC :=
    .seq (
     .ops [⟨(some 10), .bin .lss (.t 9) (.t 8), none⟩]) (
    .seq (
     .cond (.t 10) (
      .skip) (
      .exit 0)) (
    .seq (
     .block 1 (
      .seq (
       .ops [⟨(some 11), .iaddr 2 (.t 7) (.t 9), none⟩, ⟨(some 12), .load (some 2) (.t 11), none⟩, ⟨(some 4), .new (t_law24_Row N) (.agg [(.lit (.string (mkS []))), (.lit (.slice none 0 0))]), none⟩, ⟨none, .store 2 (.t 4) (.t 12), none⟩]) (
      .seq (
       .seq (
        .ops [⟨(some 13), .faddr 1 (.t 4), none⟩, ⟨(some 14), .load none (.t 13), none⟩, ⟨(some 15), .len (.t 14), none⟩, ⟨(some 16), .bin .gtr (.t 15) (.c (.lit (.int .i64 8))), none⟩, ⟨(some 17), .mov (.t 16), none⟩, ⟨(some 18), .faddr 0 (.t 4), (some (17, false))⟩, ⟨(some 19), .load none (.t 18), (some (17, false))⟩, ⟨(some 20), .lens (.t 19), (some (17, false))⟩, ⟨(some 21), .bin .gtr (.t 20) (.c (.lit (.int .i64 30))), (some (17, false))⟩, ⟨(some 22), .pick (.t 17) (.c (.lit (.bool true))) (.t 21), none⟩]) (
       .cond (.t 22) (
        .seq (
         .ops [⟨(some 2), .mov (.c (.lit (.bool false))), none⟩]) (
        .ret)) (
        .skip))) (
      .seq (
       .ops [⟨(some 23), .faddr 1 (.t 4), none⟩, ⟨(some 24), .load none (.t 23), none⟩, ⟨(some 25), .len (.t 24), none⟩, ⟨(some 26), .mov (.c (.lit (.int .i64 0))), none⟩]) (
      .block 2 (
       .loop (L_law24_Few_2 N))))))) (K_law24_Few_1 N)))
def K_law24_Few_2 (N : Nat → Nat) : AC :=
 .seq (
  .ops [⟨(some 35), .mov (.t 0), none⟩, ⟨(some 36), .len (.t 35), none⟩, ⟨(some 37), .bin .leq (.t 36) (.c (.lit (.int .i64 20))), none⟩, ⟨(some 2), .mov (.t 37), none⟩]) (
 .ret)
/-- azimuth/azimuthlaw24.Few -/
def C_law24_Few (N : Nat → Nat) : AFunc := ⟨38, [.inl 2],
 .seq (
  .ops [⟨(some 2), .mov (.c (.lit (.bool false))), none⟩]) (
 .seq (
  .seq (
   .ops [⟨(some 7), .mov (.t 0), none⟩, ⟨(some 8), .len (.t 7), none⟩, ⟨(some 9), .mov (.c (.lit (.int .i64 0))), none⟩]) (
  .block 0 (
   .loop (L_law24_Few_1 N)))) (K_law24_Few_2 N)), false⟩
end Go.Proofs.Eng
/- A function that is run for whatever is drawn, as the engine takes it. Printed by tm.py. -/
set_option linter.unusedVariables false
set_option maxRecDepth 100000
namespace Go.Proofs.Eng
open Go

def DM_law24_DepsPuts_1 (N : Nat → Nat) : AC :=
          .seq (
           .ops [⟨(some 44), .bin .lss (.t 43) (.t 42), none⟩]) (
          .seq (
           .cond (.t 44) (
            .skip) (
            .exit 2)) (
          .seq (
           .block 3 (
            .seq (
             .ops [⟨(some 45), .iaddr 1 (.t 41) (.t 43), none⟩, ⟨(some 46), .load none (.t 45), none⟩, ⟨(some 12), .mov (.t 46), none⟩]) (
            .seq (
             .ops [⟨(some 47), .mov (.t 9), none⟩, ⟨(some 48), .mov (.t 47), none⟩, ⟨(some 49), .mov (.t 12), (some (48, true))⟩, ⟨(some 50), .call (.c (.fn (f_ref04_Name N) [] [])) [(.t 49)], (some (48, true))⟩, ⟨(some 51), .pick (.t 48) (.t 50) (.c (.lit (.bool false))), none⟩, ⟨(some 9), .mov (.t 51), none⟩]) (
            .ops [⟨(some 52), .mov (.t 10), none⟩, ⟨(some 53), .mov (.t 12), none⟩, ⟨(some 54), .call (.c (.fn (f_law24_insert N) [] [])) [(.t 52), (.t 53)], none⟩, ⟨(some 10), .mov (.t 54), none⟩])))) (
          .ops [⟨(some 55), .bin .add (.t 43) (.c (.lit (.int .i64 1))), none⟩, ⟨(some 43), .mov (.t 55), none⟩])))
def DM_law24_DepsPuts_2 (N : Nat → Nat) : AC :=
     .seq (
      .ops [⟨(some 68), .bin .lss (.t 67) (.t 66), none⟩]) (
     .seq (
      .cond (.t 68) (
       .skip) (
       .exit 4)) (
     .seq (
      .block 5 (
       .seq (
        .ops [⟨(some 69), .mov (.t 67), none⟩, ⟨(some 15), .mov (.t 69), none⟩]) (
       .ops [⟨(some 70), .mov (.t 13), none⟩, ⟨(some 71), .mov (.t 15), none⟩, ⟨(some 72), .iaddr 1 (.t 70) (.t 71), none⟩, ⟨none, .store 1 (.t 72) (.c (.lit (.string (mkS [63])))), none⟩]))) (
     .ops [⟨(some 73), .bin .add (.t 67) (.c (.lit (.int .i64 1))), none⟩, ⟨(some 67), .mov (.t 73), none⟩])))
def DK_law24_DepsPuts_1 (N : Nat → Nat) : DC :=
 .seq (
  .base (
   .ops [⟨(some 56), .bslice (t_string N) 1 none 0 [(.lit (.string (mkS [])))] [], none⟩, ⟨(some 57), .faddr 1 (.t 8), none⟩, ⟨(some 58), .load none (.t 57), none⟩, ⟨(some 59), .append (t_string N) 1 16 (.t 56) (.t 58), none⟩, ⟨(some 13), .mov (.t 59), none⟩])) (
 .seq (
  .regD [.op ⟨(some 60), .mov (.t 5), none⟩, .op ⟨(some 61), .faddr 0 (.t 8), none⟩, .op ⟨(some 62), .load none (.t 61), none⟩, .op ⟨(some 63), .mov (.t 13), none⟩, .call (some 64) (f_p_deps_Net_Put N) [(.t 60), (.t 62), (.t 63)], .op ⟨(some 14), .mov (.t 64), none⟩]) (
 .base (
  .seq (
   .seq (
    .ops [⟨(some 65), .mov (.t 13), none⟩, ⟨(some 66), .len (.t 65), none⟩, ⟨(some 67), .mov (.c (.lit (.int .i64 0))), none⟩]) (
   .block 4 (
    .loop (DM_law24_DepsPuts_2 N)))) (
  .seq (
   .seq (
    .ops [⟨(some 74), .mov (.t 9), none⟩, ⟨(some 75), .mov (.t 14), none⟩, ⟨(some 76), .eq false .pint (.t 75) (.c (.lit (.int .i64 0))), none⟩, ⟨(some 77), .eq true .pbool (.t 74) (.t 76), none⟩, ⟨(some 78), .mov (.t 77), none⟩, ⟨(some 79), .mov (.t 9), (some (78, false))⟩, ⟨(some 80), .un .not (.t 79), (some (78, false))⟩, ⟨(some 81), .mov (.t 80), (some (78, false))⟩, ⟨(some 82), .mov (.t 14), (some (81, true))⟩, ⟨(some 83), .eq true .pint (.t 82) (.c (.lit (.int .i64 7))), (some (81, true))⟩, ⟨(some 84), .pick (.t 81) (.t 83) (.c (.lit (.bool false))), (some (78, false))⟩, ⟨(some 85), .pick (.t 78) (.c (.lit (.bool true))) (.t 84), none⟩]) (
   .cond (.t 85) (
    .seq (
     .ops [⟨(some 4), .mov (.c (.lit (.bool false))), none⟩]) (
    .ret)) (
    .skip))) (
  .seq (
   .ops [⟨(some 86), .mov (.t 9), none⟩]) (
  .cond (.t 86) (
   .ops [⟨(some 87), .mov (.t 6), none⟩, ⟨(some 88), .faddr 0 (.t 8), none⟩, ⟨(some 89), .load none (.t 88), none⟩, ⟨(some 90), .mov (.t 10), none⟩, ⟨none, .mapupd .string (.t 87) (.t 89) (.t 90), none⟩]) (
   .skip)))))))
def DK_law24_DepsPuts_2 (N : Nat → Nat) : DC :=
 .base (
  .ops [⟨(some 91), .bin .add (.t 33) (.c (.lit (.int .i64 1))), none⟩, ⟨(some 33), .mov (.t 91), none⟩])
def DL_law24_DepsPuts_1 (N : Nat → Nat) : DC :=
    .seq (
     .base (
      .ops [⟨(some 34), .bin .lss (.t 33) (.t 32), none⟩])) (
    .seq (
     .base (
      .cond (.t 34) (
       .skip) (
       .exit 0))) (
    .seq (
     .block 1 (
      .seq (
       .base (
        .ops [⟨(some 35), .iaddr 2 (.t 31) (.t 33), none⟩, ⟨(some 36), .load (some 2) (.t 35), none⟩, ⟨(some 8), .new (t_law24_Row N) (.agg [(.lit (.string (mkS []))), (.lit (.slice none 0 0))]), none⟩, ⟨none, .store 2 (.t 8) (.t 36), none⟩])) (
      .seq (
       .base (
        .ops [⟨(some 37), .faddr 0 (.t 8), none⟩, ⟨(some 38), .load none (.t 37), none⟩, ⟨(some 39), .call (.c (.fn (f_ref04_Name N) [] [])) [(.t 38)], none⟩, ⟨(some 9), .mov (.t 39), none⟩])) (
      .seq (
       .base (
        .ops [⟨(some 10), .mov (.c (.lit (.slice none 0 0))), none⟩])) (
      .seq (
       .base (
        .seq (
         .ops [⟨(some 40), .faddr 1 (.t 8), none⟩, ⟨(some 41), .load none (.t 40), none⟩, ⟨(some 42), .len (.t 41), none⟩, ⟨(some 43), .mov (.c (.lit (.int .i64 0))), none⟩]) (
        .block 2 (
         .loop (DM_law24_DepsPuts_1 N))))) (DK_law24_DepsPuts_1 N)))))) (DK_law24_DepsPuts_2 N)))
def DK_law24_DepsPuts_3 (N : Nat → Nat) : DC :=
 .seq (
  .regD [.op ⟨(some 92), .mov (.t 5), none⟩, .op ⟨(some 93), .mov (.t 6), none⟩, .op ⟨(some 94), .mov (.t 1), none⟩, .call (some 95) (f_law24_is N) [(.t 92), (.t 93), (.t 94)], .op ⟨(some 4), .mov (.t 95), none⟩]) (
 .base (
  .ret))
def hint_law24_DepsPuts : Nat → Option AltT := fun k => match k with | 1000012 => some .leaf | 1000018 => some .leaf | _ => none
/-- azimuth/azimuthlaw24.DepsPuts -/
def D_law24_DepsPuts (N : Nat → Nat) : DFunc := ⟨96, [.inl 4],
 .seq (
  .base (
   .ops [⟨(some 4), .mov (.c (.lit (.bool false))), none⟩])) (
 .seq (
  .base (
   .seq (
    .ops [⟨(some 16), .call (.c (.fn (f_law24_lives N) [] [])) [], none⟩, ⟨(some 17), .un .not (.t 16), none⟩, ⟨(some 18), .mov (.t 17), none⟩, ⟨(some 19), .mov (.t 0), (some (18, false))⟩, ⟨(some 20), .call (.c (.fn (f_law24_Few N) [] [])) [(.t 19)], (some (18, false))⟩, ⟨(some 21), .un .not (.t 20), (some (18, false))⟩, ⟨(some 22), .pick (.t 18) (.c (.lit (.bool true))) (.t 21), none⟩, ⟨(some 23), .mov (.t 22), none⟩, ⟨(some 24), .mov (.t 1), (some (23, false))⟩, ⟨(some 25), .lens (.t 24), (some (23, false))⟩, ⟨(some 26), .bin .gtr (.t 25) (.c (.lit (.int .i64 30))), (some (23, false))⟩, ⟨(some 27), .pick (.t 23) (.c (.lit (.bool true))) (.t 26), none⟩]) (
   .cond (.t 27) (
    .seq (
     .ops [⟨(some 28), .call (.c (.fn (f_law24_lives N) [] [])) [], none⟩, ⟨(some 4), .mov (.t 28), none⟩]) (
    .ret)) (
    .skip)))) (
 .seq (
  .base (
   .ops [⟨(some 29), .call (.c (.fn (f_deps_New N) [] [])) [], none⟩, ⟨(some 5), .mov (.t 29), none⟩])) (
 .seq (
  .base (
   .ops [⟨(some 30), .mkmap, none⟩, ⟨(some 6), .mov (.t 30), none⟩])) (
 .seq (
  .seq (
   .base (
    .ops [⟨(some 31), .mov (.t 0), none⟩, ⟨(some 32), .len (.t 31), none⟩, ⟨(some 33), .mov (.c (.lit (.int .i64 0))), none⟩])) (
  .block 0 (
   .loop (DL_law24_DepsPuts_1 N)))) (DK_law24_DepsPuts_3 N))))), false⟩
end Go.Proofs.Eng
/- The laws of nets: few rows; a model's map; what is put. -/
set_option linter.unusedVariables false
set_option linter.unusedSimpArgs false
set_option maxRecDepth 100000
namespace Go.Proofs.Eng
open Go
/-- A row as an argument. -/
def IsRow (e : AV) (name : Bs) (on : List Bs) : Prop := ∃ r, e = .agg [avStr name, r] ∧ Fzr 1 r (on.map avStr)
def IsRows (es : List AV) (rs : List (Bs × List Bs)) : Prop := es.length = rs.length ∧ ∀ (i : Nat) (e : AV) (r : Bs × List Bs), es[i]? = some e → rs[i]? = some r → IsRow e r.1 r.2
def FewR (rs : List (Bs × List Bs)) : Prop := rs.length ≤ 20 ∧ ∀ r ∈ rs, r.1.length ≤ 30 ∧ r.2.length ≤ 8 ∧ ∀ s ∈ r.2, s.length ≤ 30
section
variable {Γ : Sums} {A : Tab} {N : Nat → Nat} {C : DCalls} {X : Nat → Prop} {H H' : Hp} {t : TypeId} {p m mm : Nat} {l lm : List (Bs × AV)} {f : NF}
theorem fzr_one {sz : Nat} {x : AV} {es : List AV} (h : Fzr sz x es) : x.good = true ∧ x.cells = [x] ∧ x.one = true := by
  rcases h with ⟨rfl, _⟩ | rfl <;> exact ⟨rfl, rfl, rfl⟩
inductive FewI (x : AV) (len : Nat) (rs : List (Bs × List Bs)) (H0 : Hp) (q : Nat) (ρ : Rho) (H : Hp) : Prop where
  | mk (i : Nat) (h0 : ρ 0 = x) (h7 : ρ 7 = x) (h8 : ρ 8 = avInt .i64 (len : Nat)) (h9 : ρ 9 = avInt .i64 (i : Nat)) (hi : i ≤ len) (hM : Mut H0 H []) (hr : ∀ r ∈ rs.take i, r.1.length ≤ 30 ∧ r.2.length ≤ 8 ∧ ∀ s ∈ r.2, s.length ≤ 30) (hq : q = len - i)
inductive FewJ (x : AV) (len i : Nat) (row : AV) (on : List Bs) (K : Hp) (q : Nat) (ρ : Rho) (H : Hp) : Prop where
  | mk (j : Nat) (h0 : ρ 0 = x) (h7 : ρ 7 = x) (h8 : ρ 8 = avInt .i64 (len : Nat)) (h9 : ρ 9 = avInt .i64 (i : Nat)) (h24 : ρ 24 = row) (h25 : ρ 25 = avInt .i64 (on.length : Nat)) (h26 : ρ 26 = avInt .i64 (j : Nat)) (hj : j ≤ on.length) (hH : H = K) (hs : ∀ s ∈ on.take j, s.length ≤ 30) (hq : q = on.length - j)
theorem few_call (h : Has Γ A (f_law24_Few N) (C_law24_Few N)) {x : AV} {es : List AV} {rs : List (Bs × List Bs)} (hx : Fzr 2 x es) (hr : IsRows es rs) (hl : es.length < 2 ^ 63) (hb : ∀ r ∈ rs, r.1.length < 2 ^ 63 ∧ r.2.length < 2 ^ 63 ∧ ∀ s ∈ r.2, s.length < 2 ^ 63) (H : Hp) :
    ∃ b, (lim Γ A).call (f_law24_Few N) [x] H = some (avBool b, none) ∧ (b = true → FewR rs) := by
  obtain ⟨R, hR⟩ : ∃ R : AV × Option Hp → Prop, R = fun r => ∃ b, r = (avBool b, none) ∧ (b = true → FewR rs) := ⟨_, rfl⟩
  suffices ∃ r, (lim Γ A).call (f_law24_Few N) [x] H = some r ∧ R r by
    obtain ⟨r, e, hr⟩ := this
    rw [hR] at hr
    obtain ⟨b, rfl, h2⟩ := hr
    exact ⟨b, e, h2⟩
  have hxl : asLen x = some es.length := by rcases hx with ⟨rfl, rfl⟩ | rfl <;> rfl
  have no : R (avBool false, none) := by rw [hR]; exact ⟨false, rfl, fun h => by cases h⟩
  apply h.callP (by rfl)
  simp [C_law24_Few, hxl]
  have hno : ∀ K, Mut { l := H.l, d := none } K [] → R (settle H (avBool false) K) := fun K hK => by
    rw [settle_keeps (H := H) (hK.keeps rfl) (by simp [AV.under])]; exact no
  refine wp_round (n := es.length) (FewI x es.length rs { l := H.l, d := none }) ?_ ?_
  · exact ⟨0, rfl, rfl, rfl, rfl, by omega, Mut.refl _ _, by simp, rfl⟩
  · rintro q ρ K ⟨i, h0, h7, h8, h9, hi, hM, hrs, rfl⟩
    by_cases hil : i < es.length
    · have hil' : (i : Int) < es.length := by omega
      have hg := List.getElem?_eq_getElem hil
      have hir : i < rs.length := by rw [← hr.1]; exact hil
      have hgr := List.getElem?_eq_getElem hir
      obtain ⟨row, e1, e2⟩ := hr.2 i _ _ hg hgr
      obtain ⟨name, on, hrv⟩ : ∃ name on, rs[i] = (name, on) := ⟨_, _, rfl⟩
      rw [hrv] at hgr e1 e2
      simp only at e1 e2
      rw [e1] at hg
      have hbr := hb (name, on) (List.mem_of_getElem? hgr)
      have hro := fzr_one e2
      have hrl := e2.len
      simp only [List.length_map] at hrl
      have hxa : aiaddr 2 x (.lit (.int .i64 (i : Int))) = some (.vp [avStr name, row]) := by
        rcases hx with ⟨rfl, rfl⟩ | rfl
        · simp at hil
        · exact aiaddr_sln hg (by simp [hro.2.2])
      have htk : rs.take (i + 1) = rs.take i ++ [(name, on)] := by
        rw [List.take_succ_eq_append_getElem hir, hrv]
      have hwi : IntKind.wrap .i64 ((i : Int) + 1) = ((i + 1 : Nat) : Int) := by rw [wrap64 (by omega) (by omega)]; omega
      obtain ⟨K1, hK1⟩ : ∃ K1, K1 = hset (halloc K (.cells [.lit (.string (mkS [])), .lit (.slice none 0 0)] (t_law24_Row N))) K.l.length (some (.cells [avStr name, row] (t_law24_Row N))) := ⟨_, rfl⟩
      have hM1 : Mut { l := H.l, d := none } K1 [] := by rw [hK1]; exact (hM.alloc _).set (.inr hM.len)
      have hc1 : hget K1 K.l.length = some (.cells [avStr name, row] (t_law24_Row N)) := by rw [hK1, hget_hset, if_pos rfl, if_pos (by simp)]
      by_cases d1 : 8 < on.length
      · have d1' : (8 : Int) < on.length := by omega
        simp [L_law24_Few_1, h0, h7, h8, h9, hil', hxa, loadC, hro.2.2, -hset_d, -halloc_d]
        rw [← hK1]
        simp [hc1, hrl, d1, d1', -hset_d, -halloc_d]
        exact hno _ hM1
      have d1' : ¬ (8 : Int) < on.length := by omega
      by_cases d2 : 30 < name.length
      · have d2' : (30 : Int) < name.length := by omega
        simp [L_law24_Few_1, h0, h7, h8, h9, hil', hxa, loadC, hro.2.2, -hset_d, -halloc_d]
        rw [← hK1]
        simp [hc1, hrl, d1, d1', d2, d2', -hset_d, -halloc_d]
        exact hno _ hM1
      have d2' : ¬ (30 : Int) < name.length := by omega
      simp [L_law24_Few_1, h0, h7, h8, h9, hil', hxa, loadC, hro.2.2, -hset_d, -halloc_d]
      rw [← hK1]
      simp [hc1, hrl, d1, d1', d2, d2', h0, h7, h8, h9, -hset_d, -halloc_d]
      refine wp_round (n := on.length) (FewJ x es.length i row on K1) ?_ ?_
      · exact ⟨0, h0, h7, h8, h9, rfl, rfl, rfl, by omega, rfl, by simp, rfl⟩
      · rintro q ρ K2 ⟨j, h0, h7, h8, h9, h24, h25, h26, hj, rfl, hs, rfl⟩
        have hw : IntKind.wrap .i64 ((j : Int) + 1) = ((j + 1 : Nat) : Int) := by rw [wrap64 (by omega) (by omega)]; omega
        by_cases hjl : j < on.length
        · have hjl' : (j : Int) < on.length := by omega
          have hvr : Vw K2 1 row (on.map avStr) := .inl e2
          obtain ⟨qb, t1, t2⟩ := hvr.at' (k := .i64) (i := (j : Int)) (e := avStr on[j]) (by omega) (by simp [List.getElem?_eq_getElem hjl]) rfl rfl rfl
          by_cases d3 : 30 < on[j].length
          · have d3' : (30 : Int) < on[j].length := by omega
            simp [L_law24_Few_2, h0, h7, h8, h9, h24, h25, h26, hjl', t1, t2, d3, d3']
            exact hno _ hM1
          · have d3' : ¬ (30 : Int) < on[j].length := by omega
            simp [L_law24_Few_2, h0, h7, h8, h9, h24, h25, h26, hjl', t1, t2, d3, d3', hw, -Int.natCast_add]
            refine ⟨on.length - (j + 1), by omega, ⟨j + 1, h0, h7, h8, h9, h24, h25, rfl, by omega, rfl, fun s hs2 => ?_, rfl⟩⟩
            rw [List.take_succ_eq_append_getElem hjl, List.mem_append, List.mem_singleton] at hs2
            rcases hs2 with hs2 | rfl
            · exact hs s hs2
            · omega
        · have hjn : j = on.length := by omega
          subst hjn
          rw [List.take_length] at hs
          simp [L_law24_Few_2, K_law24_Few_1, h0, h7, h8, h9, h24, h25, h26, hwi, -Int.natCast_add]
          refine ⟨es.length - (i + 1), by omega, ⟨i + 1, h0, h7, h8, rfl, by omega, hM1, fun r hr2 => ?_, rfl⟩⟩
          rw [htk, List.mem_append, List.mem_singleton] at hr2
          rcases hr2 with hr2 | rfl
          · exact hrs r hr2
          · exact ⟨by simp only; omega, by simp only; omega, hs⟩
    · have hin : i = es.length := by omega
      subst hin
      rw [hr.1, List.take_length] at hrs
      simp [L_law24_Few_1, K_law24_Few_2, h0, h7, h8, h9, hxl]
      rw [settle_keeps (H := H) (hM.keeps rfl) (by simp [AV.under]), hR]
      exact ⟨_, rfl, fun hb => ⟨by rw [← hr.1]; have := of_decide_eq_true hb; omega, hrs⟩⟩

/-- A model's map whose rows no one writes. -/
structure ModF (H : Hp) (mm : Nat) (lm : List (Bs × AV)) (f : NF) : Prop where
  mp : ∃ es clk, hget H mm = some (.map es clk) ∧ SKeys es ∧ KV es = lm
  nd : (lm.map Prod.fst).Nodup
  dom : ∀ k, (aGet k lm).isSome = (f k).isSome
  row : ∀ k x on, aGet k lm = some x → f k = some on → Fzr 1 x (on.map avStr)
theorem ModF.mod (h : ModF H mm lm f) : ModI H mm lm f := ⟨h.mp, h.nd, h.dom, fun k x on h1 h2 => .inl (h.row k x on h1 h2)⟩
theorem ModF.frame (h : ModF H mm lm f) {W : List Nat} (k : Mut H H' W) (hw : mm ∉ W) : ModF H' mm lm f := by
  obtain ⟨es, clk, h1, h2⟩ := h.mp
  exact ⟨⟨es, clk, k.get' h1 hw, h2⟩, h.nd, h.dom, h.row⟩
theorem ModF.put (h : ModF H mm lm f) {name : Bs} {c : AV} {on : List Bs} {g : Hp} {es' : MEs} {clk' : Nat} (hg : hget g mm = some (.map es' clk')) (hk : SKeys es') (hv : KV es' = vPut name c lm) (hc : Fzr 1 c (on.map avStr)) : ModF g mm (vPut name c lm) (nPut f name on) := by
  refine ⟨⟨es', clk', hg, hk, hv⟩, keys_nodup_put h.nd, fun y => ?_, fun y x on' hx hy => ?_⟩
  · rw [aGet_put]
    unfold nPut
    split
    · rfl
    · exact h.dom y
  · rw [aGet_put] at hx
    unfold nPut at hy
    split at hx
    · rename_i e
      rw [if_pos e] at hy
      cases hx; cases hy
      exact hc
    · rename_i e
      rw [if_neg e] at hy
      exact h.row y x on' hx hy
theorem insR_fzr {x : AV} {ks : List Bs} (h : Fzr 1 x (ks.map avStr)) (s : Bs) : ∃ v, insR x ks s = (v, none) ∧ Fzr 1 v ((insP ks s).map avStr) := by
  unfold insR
  cases hf : insF ks s
  · exact ⟨_, rfl, .inr rfl⟩
  · exact ⟨x, rfl, by rw [insP_found hf]; exact h⟩
/-- A row, name by name. -/
def insL (on : List Bs) : List Bs := on.foldl insP []
theorem insL_snoc (on : List Bs) (s : Bs) : insL (on ++ [s]) = insP (insL on) s := by simp [insL]
theorem insL_spec : ∀ n (on : List Bs), on.length = n → Up (insL on) ∧ (∀ y, y ∈ insL on ↔ y ∈ on) ∧ (insL on).length ≤ on.length
  | 0, on, h => by
    have : on = [] := List.length_eq_zero_iff.1 h
    subst this
    simp [insL, Up]
  | n + 1, on, h => by
    obtain ⟨l, s, rfl⟩ : ∃ l s, on = l ++ [s] := ⟨on.dropLast, on.getLast (by intro e; subst e; simp at h), (List.dropLast_concat_getLast _).symm⟩
    obtain ⟨h1, h2, h3⟩ := insL_spec n l (by simpa using h)
    rw [insL_snoc]
    refine ⟨insP_up s h1, fun y => ?_, ?_⟩
    · rw [insP_mem, h2]; simp [or_comm]
    · rw [insP_len]
      simp only [List.length_append, List.length_singleton]
      split <;> omega
theorem insL_dd (on : List Bs) : insL on = ddB (sortB on) := by
  obtain ⟨h1, h2, _⟩ := insL_spec _ on rfl
  exact h1.eq (ddB_sorted (sortB_sorted on)) fun y => by rw [h2, ddB_mem, (sortB_perm on).mem_iff]
/-- Few rows have few names. -/
theorem mis_bound {n : Nat} (hl : l.length ≤ 1000) (hf : ∀ k on, f k = some on → on.length ≤ 1000) : ∀ (L : List Bs), L.Nodup → (∀ y ∈ L, ∃ s ∈ l.map Prod.fst, y ∈ (f s).getD []) → L.length < 2 ^ 30 := by
  intro L hn h
  have h1 := List.Nodup.length_le_of_subset (l₁ := L) (l₂ := (l.map Prod.fst).flatMap fun s => (f s).getD []) hn (fun y hy => by
    obtain ⟨s, a, b⟩ := h y hy
    exact List.mem_flatMap.2 ⟨s, a, b⟩)
  have h2 : ∀ ks : List Bs, (ks.flatMap fun s => (f s).getD []).length ≤ ks.length * 1000 := by
    intro ks
    induction ks with
    | nil => simp
    | cons k r ih =>
      have : ((f k).getD []).length ≤ 1000 := by
        cases hk : f k with
        | none => simp
        | some on => exact hf k on hk
      simp only [List.flatMap_cons, List.length_append, List.length_cons]
      omega
  have h3 := h2 (l.map Prod.fst)
  simp only [List.length_map] at h3
  omega

/-- Between two rows. -/
inductive PutsI (N : Nat → Nat) (x : AV) (ask : Bs) (len p m mm : Nat) (q : Nat) (ρ : Rho) (H : Hp) (its : Its) : Prop where
  | mk (i : Nat) (l lm : List (Bs × AV)) (f : NF) (h0 : ρ 0 = x) (h1 : ρ 1 = avStr ask) (h5 : ρ 5 = .ptr p 0) (h6 : ρ 6 = .map mm) (h31 : ρ 31 = x) (h32 : ρ 32 = avInt .i64 (len : Nat)) (h33 : ρ 33 = avInt .i64 (i : Nat)) (hi : i ≤ len)
      (hN : NetI (fun _ => False) H (t_deps_Net N) p m l f) (hF : ModF H mm lm f) (hne : mm ≠ p ∧ mm ≠ m) (hl : l.length ≤ i) (hb : ∀ k on, f k = some on → on.length ≤ 8) (hq : q = len - i)
inductive PutsJ (x : AV) (ask : Bs) (len p mm i : Nat) (c0 : Nat) (row : AV) (name : Bs) (on : List Bs) (K : Hp) (q : Nat) (ρ : Rho) (H : Hp) : Prop where
  | mk (j : Nat) (h0 : ρ 0 = x) (h1 : ρ 1 = avStr ask) (h5 : ρ 5 = .ptr p 0) (h6 : ρ 6 = .map mm) (h31 : ρ 31 = x) (h32 : ρ 32 = avInt .i64 (len : Nat)) (h33 : ρ 33 = avInt .i64 (i : Nat)) (h8 : ρ 8 = .ptr c0 0) (h9 : ρ 9 = avBool (isNameB name && (on.take j).all isNameB)) (h41 : ρ 41 = row) (h42 : ρ 42 = avInt .i64 (on.length : Nat)) (h43 : ρ 43 = avInt .i64 (j : Nat)) (hj : j ≤ on.length)
      (hH : H = K) (hv : Fzr 1 (ρ 10) ((insL (on.take j)).map avStr)) (hq : q = on.length - j)
inductive PutsK (x : AV) (ask : Bs) (len p mm i : Nat) (c0 tid : Nat) (b : Bool) (err : Int) (v10 : AV) (name : Bs) (row : AV) (n : Nat) (tR tS : TypeId) (K : Hp) (q : Nat) (ρ : Rho) (H : Hp) : Prop where
  | mk (j : Nat) (all : List AV) (h0 : ρ 0 = x) (h1 : ρ 1 = avStr ask) (h5 : ρ 5 = .ptr p 0) (h6 : ρ 6 = .map mm) (h31 : ρ 31 = x) (h32 : ρ 32 = avInt .i64 (len : Nat)) (h33 : ρ 33 = avInt .i64 (i : Nat)) (h8 : ρ 8 = .ptr c0 0) (h9 : ρ 9 = avBool b) (h10 : ρ 10 = v10) (h13 : ρ 13 = .ra 1 tid 0 n) (h14 : ρ 14 = avInt .i64 err) (h66 : ρ 66 = avInt .i64 (n : Nat)) (h67 : ρ 67 = avInt .i64 (j : Nat)) (hj : j ≤ n)
      (hM : Mut K H [tid]) (hc : hget H c0 = some (.cells [avStr name, row] tR)) (ht : hget H tid = some (.arr 1 all tS)) (hal : all.length = n) (hz : ∀ e ∈ all, ∃ z : Bs, e = avStr z) (hq : q = n - j)
end
end Go.Proofs.Eng
/- The law DepsPuts, run for whatever is drawn. -/
set_option linter.unusedVariables false
set_option linter.unusedSimpArgs false
set_option maxRecDepth 100000
namespace Go.Proofs.Eng
open Go
structure PutsC (C : DCalls) (Γ : Sums) (A : Tab) (N : Nat → Nat) : Prop where
  is : IsC Γ A N
  few : Has Γ A (f_law24_Few N) (C_law24_Few N)
  name : ∀ (s : List UInt8) (H : Hp), s.length < 2 ^ 36 → (lim Γ A).call (f_ref04_Name N) [avStr s] H = some (avBool (isNameB s), none)
  put : ∀ {X : Nat → Prop} {H : Hp} {t : TypeId} {p m : Nat} {l : List (Bs × AV)} {f : NF} {name : Bs} {on : List Bs} {x : AV}, NetI X H t p m l f → Vw H 1 x (on.map avStr) → name.length < 2 ^ 20 → on.length < 2 ^ 20 → (∀ s ∈ on, s.length < 2 ^ 20) → l.length + 1 < 2 ^ 20 →
    C.run (f_p_deps_Net_Put N) [.ptr p 0, avStr name, x] H (PutOut X H t p m l f name on)
section
variable {Γ : Sums} {A : Tab} {N : Nat → Nat} {C : DCalls} {X : Nat → Prop} {H H' : Hp} {t : TypeId} {p m mm : Nat} {l lm : List (Bs × AV)} {f : NF}
theorem law_DepsPuts (h : PutsC C Γ A N) (hlives : (lim Γ A).call (f_law24_lives N) [] { l := [], d := none } = some (avBool true, none))
    (hCis : ∀ {X : Nat → Prop} {H : Hp} {t : TypeId} {p m mm : Nat} {l lm : List (Bs × AV)} {f : NF} {ask : Bs}, NetI X H t p m l f → ModI H mm lm f → (∀ (L : List Bs), L.Nodup → (∀ y ∈ L, ∃ s ∈ l.map Prod.fst, y ∈ (f s).getD []) → L.length < 2 ^ 30) → ask.length < 2 ^ 20 → C.run (f_law24_is N) [.ptr p 0, .map mm, avStr ask] H fun r => r.1 = avBool true)
    {x : AV} {es : List AV} {rs : List (Bs × List Bs)} (hx : Fzr 2 x es) (hr : IsRows es rs) (hl : es.length < 2 ^ 63) (hb : ∀ r ∈ rs, r.1.length < 2 ^ 63 ∧ r.2.length < 2 ^ 63 ∧ ∀ s ∈ r.2, s.length < 2 ^ 63) {ask : Bs} (hask : ask.length < 2 ^ 63) :
    DRunP C Γ A (D_law24_DepsPuts N) [x, avStr ask] { l := [], d := none } fun r => r.1 = avBool true := by
  have hxl : asLen x = some es.length := by rcases hx with ⟨rfl, rfl⟩ | rfl <;> rfl
  obtain ⟨R, hR⟩ : ∃ R : AV × Option Hp → Prop, R = fun r => r.1 = avBool true := ⟨_, rfl⟩
  have hR3 : ∀ v H H', v = avBool true → R (settle H v H') := fun v H H' e => by rw [hR]; simpa using e
  have hR2 : ∀ v g, v = avBool true → R (v, g) := fun v g e => by rw [hR]; exact e
  rw [← hR]
  obtain ⟨fb, few1, few2⟩ := few_call h.few hx hr hl hb { l := [], d := none }
  apply DRunP.of (by rfl)
  cases fb
  · simp [D_law24_DepsPuts, hlives, few1]
    exact hR2 _ _ rfl
  obtain ⟨b1, b2⟩ := few2 rfl
  have hl20 : es.length ≤ 20 := by rw [hr.1]; exact b1
  by_cases c1 : 30 < ask.length
  · have c1' : (30 : Int) < ask.length := by omega
    simp [D_law24_DepsPuts, hlives, few1, c1, c1']
    exact hR2 _ _ rfl
  have c1' : ¬ (30 : Int) < ask.length := by omega
  obtain ⟨g, p, m, n1, n2, n3, n4, n5⟩ := new_call h.is.dep { l := [], d := none }
  simp [D_law24_DepsPuts, hlives, few1, c1, c1', n1, bindH_opt, hxl, -halloc_d, -hset_d]
  have hlp := hget_lt n2.cell
  have s0 : NetI (fun _ => False) (halloc g (.map [] 0)) (t_deps_Net N) p m [] (fun _ => none) := n2.still ((Mut.refl g []).alloc _)
  have hnlt := n2.lt
  have f0 : ModF (halloc g (.map [] 0)) g.l.length [] (fun _ => none) := ⟨⟨[], 0, by simp, by simp [SKeys], rfl⟩, by simp, fun _ => rfl, by simp [aGet, vFind]⟩
  refine wpR_round (n := es.length) (PutsI N x ask es.length p m g.l.length) ?_ ?_
  · exact ⟨0, [], [], fun _ => none, rfl, rfl, rfl, rfl, rfl, rfl, rfl, by omega, s0, f0, ⟨by omega, by omega⟩, by simp, by simp, rfl⟩
  · rintro q ρ K its ⟨i, l, lm, f, h0, h1, h5, h6, h31, h32, h33, hi, hN, hF, hne, hll, hb8, rfl⟩
    have hNl := hN.lt
    have hwi : IntKind.wrap .i64 ((i : Int) + 1) = ((i + 1 : Nat) : Int) := by rw [wrap64 (by omega) (by omega)]; omega
    by_cases hil : i < es.length
    · have hil' : (i : Int) < es.length := by omega
      have hg := List.getElem?_eq_getElem hil
      have hir : i < rs.length := by rw [← hr.1]; exact hil
      have hgr := List.getElem?_eq_getElem hir
      obtain ⟨row, e1, e2⟩ := hr.2 i _ _ hg hgr
      obtain ⟨name, on, hrv⟩ : ∃ name on, rs[i] = (name, on) := ⟨_, _, rfl⟩
      rw [hrv] at hgr e1 e2
      simp only at e1 e2
      rw [e1] at hg
      obtain ⟨br1, br2, br3⟩ := b2 (name, on) (List.mem_of_getElem? hgr)
      simp only at br1 br2 br3
      have hro := fzr_one e2
      have hrl := e2.len
      simp only [List.length_map] at hrl
      have hvr : ∀ K, Vw K 1 row (on.map avStr) := fun K => .inl e2
      have hxa : aiaddr 2 x (.lit (.int .i64 (i : Int))) = some (.vp [avStr name, row]) := by
        rcases hx with ⟨rfl, rfl⟩ | rfl
        · simp at hil
        · exact aiaddr_sln hg (by simp [hro.2.2])
      have hnm := fun H => h.name name H (by omega)
      obtain ⟨K1, hK1⟩ : ∃ K1, K1 = hset (halloc K (.cells [.lit (.string (mkS [])), .lit (.slice none 0 0)] (t_law24_Row N))) K.l.length (some (.cells [avStr name, row] (t_law24_Row N))) := ⟨_, rfl⟩
      have hM1 : Mut K K1 [] := by rw [hK1]; exact ((Mut.refl K []).alloc _).set (.inr (Nat.le_refl _))
      have hc1 : hget K1 K.l.length = some (.cells [avStr name, row] (t_law24_Row N)) := by rw [hK1, hget_hset, if_pos rfl, if_pos (by simp)]
      have hK1l : K1.l.length = K.l.length + 1 := by rw [hK1]; simp
      simp [DL_law24_DepsPuts_1, h0, h1, h5, h6, h31, h32, h33, hil', hxa, loadC, hro.2.2, -hset_d, -halloc_d]
      rw [← hK1]
      simp [hc1, hnm, hrl, h0, h1, h5, h6, h31, h32, h33, -hset_d, -halloc_d]
      refine wp_round (n := on.length) (PutsJ x ask es.length p g.l.length i K.l.length row name on K1) ?_ ?_
      · exact ⟨0, h0, h1, h5, h6, h31, h32, h33, rfl, by simp, rfl, rfl, rfl, by omega, rfl, .inl ⟨rfl, by simp [insL]⟩, rfl⟩
      · rintro q ρ K2 ⟨j, h0, h1, h5, h6, h31, h32, h33, h8, h9, h41, h42, h43, hj, rfl, hv, rfl⟩
        have hwj : IntKind.wrap .i64 ((j : Int) + 1) = ((j + 1 : Nat) : Int) := by rw [wrap64 (by omega) (by omega)]; omega
        by_cases hjl : j < on.length
        · have hjl' : (j : Int) < on.length := by omega
          obtain ⟨qb, t1, t2⟩ := (hvr K2).at' (k := .i64) (i := (j : Int)) (e := avStr on[j]) (by omega) (by simp [List.getElem?_eq_getElem hjl]) rfl rfl rfl
          have hzb := br3 on[j] (List.getElem_mem hjl)
          have hnz := fun H => h.name on[j] H (by omega)
          have htz : on.take (j + 1) = on.take j ++ [on[j]] := List.take_succ_eq_append_getElem hjl
          have hil3 := (insL_spec _ (on.take j) rfl).2.2
          simp only [List.length_take] at hil3
          have hins := h.is.ins (H := K2) (.inl hv) (by omega) on[j]
          obtain ⟨v3, i3, i4⟩ := insR_fzr hv on[j]
          rw [i3] at hins
          rw [← insL_snoc, ← htz] at i4
          have hall : (isNameB name && (on.take (j + 1)).all isNameB) = ((isNameB name && (on.take j).all isNameB) && isNameB on[j]) := by
            rw [htz, List.all_append]; simp [Bool.and_assoc]
          generalize hbv : (isNameB name && (on.take j).all isNameB) = bv at *
          cases bv
          · simp [DM_law24_DepsPuts_1, h0, h1, h5, h6, h31, h32, h33, h8, h9, h41, h42, h43, hjl', t1, t2, hins, hwj, -Int.natCast_add]
            exact ⟨on.length - (j + 1), by omega, ⟨j + 1, h0, h1, h5, h6, h31, h32, h33, h8, by rw [hall]; rfl, h41, h42, rfl, by omega, rfl, i4, rfl⟩⟩
          · simp [DM_law24_DepsPuts_1, h0, h1, h5, h6, h31, h32, h33, h8, h9, h41, h42, h43, hjl', t1, t2, hnz, hins, hwj, -Int.natCast_add]
            exact ⟨on.length - (j + 1), by omega, ⟨j + 1, h0, h1, h5, h6, h31, h32, h33, h8, by rw [hall]; rfl, h41, h42, rfl, by omega, rfl, i4, rfl⟩⟩
        · have hjn : j = on.length := by omega
          subst hjn
          rw [List.take_length] at h9 hv
          have hE := (hvr (halloc K2 (.arr 1 [] (t_string N)))).elems
          obtain ⟨K3, p1, p2, p3, p4, p5⟩ := app_row (N := N) (K := halloc K2 (.arr 1 [] (t_string N))) (id := K2.l.length) (n := 0) (es := []) (ys := on.map avStr) (by simp) rfl (by unfold roomMax; simp; omega) (all_str _)
          have hM3 : Mut K K3 [] := (hM1.alloc _).trans p3 (by simp; omega)
          simp [-List.map_map] at p1 p2 p4
          have hKne : ¬ K.l.length = K2.l.length := by omega
          have hc3 : hget K3 K.l.length = some (.cells [avStr name, row] (t_law24_Row N)) := by
            rw [p5 _ (by simp; omega) (by omega), hget_halloc, if_neg hKne]; exact hc1
          simp [DM_law24_DepsPuts_1, DK_law24_DepsPuts_1, h0, h1, h5, h6, h31, h32, h33, h8, h9, h41, h42, h43, hc1, hKne, hE, fillA, repl, setFrom, chunk, p1, hc3, bindH_opt, -hset_d, -halloc_d]
          have hX : NetI (fun k => k = K2.l.length + 1) K3 (t_deps_Net N) p m l f := (hN.still hM3).weak (fun k y hy id off n e => by
            have := hN.new k y hy id off n e
            omega) (fun k hk => by rw [hk]; exact hget_lt p2)
          have hown : Vw K3 1 (.ra 1 (K2.l.length + 1) 0 on.length) (on.map avStr) := .inr ⟨K2.l.length + 1, 0, t_string N, on.map avStr, by simp, p2, by simp, List.take_of_length_le (by simp)⟩
          have hFK3 : ModF K3 g.l.length lm f := hF.frame hM3 (by simp)
          obtain ⟨es0, clk0, mm1, mm2, mm3⟩ := hF.mp
          have hltmm := hget_lt mm1
          obtain ⟨b, hbv⟩ : ∃ b, b = (isNameB name && on.all isNameB) := ⟨_, rfl⟩
          rw [← hbv] at h9
          have hbeq : (isNameB name && !(on.any fun s => !isNameB s)) = b := by
            rw [hbv]; congr 1
            rw [Bool.eq_iff_iff]; simp
          have hnd1 : (ddB (sortB on)).length ≤ 8 := by
            have h1 := ddB_len (sortB on)
            rw [(sortB_perm on).length_eq] at h1
            omega
          refine wpRO_call (h.put hX hown (by omega) (by omega) (fun s hs => by have := br3 s hs; omega) (by omega)) fun v gg hv => ?_
          unfold PutOut at hv
          rw [hbeq] at hv
          have rest : ∃ err K4 l2 f2, v = avInt .i64 err ∧ gg.getD K3 = K4 ∧ Mut K3 K4 [m] ∧ NetI (fun k => k = K2.l.length + 1) K4 (t_deps_Net N) p m l2 f2 ∧ ((b = true ∧ err = 0 ∧ f2 = nPut f name (ddB (sortB on)) ∧ l2.length ≤ l.length + 1) ∨ (b = false ∧ err = 7 ∧ f2 = f ∧ l2 = l)) := by
            cases b
            · simp only [Bool.false_eq_true, if_false, Prod.mk.injEq] at hv
              obtain ⟨rfl, rfl⟩ := hv
              exact ⟨7, K3, l, f, rfl, rfl, (Mut.refl K3 [m]), hX, .inr ⟨rfl, rfl, rfl, rfl⟩⟩
            · simp only [if_true, Prod.mk.injEq] at hv
              obtain ⟨g4, c4, ⟨rfl, rfl⟩, q1, q2⟩ := hv
              exact ⟨0, g4, _, _, rfl, rfl, q2, q1, .inl ⟨rfl, rfl, rfl, keys_len_put⟩⟩
          clear hv
          obtain ⟨err, K4, l2, f2, rfl, hK4, hM4, hN4, halt⟩ := rest
          rw [hK4]
          have hm3 : m < K.l.length := hNl.2
          have hne3 := hne
          have hFK4 : ModF K4 g.l.length lm f := hFK3.frame hM4 (by simp; exact hne.2)
          have hc4 : hget K4 K.l.length = some (.cells [avStr name, row] (t_law24_Row N)) := hM4.get' hc3 (by simp; omega)
          have ht4 : hget K4 (K2.l.length + 1) = some (.arr 1 (on.map avStr) (t_string N)) := hM4.get' (by simpa using p2) (by simp; omega)
          obtain ⟨es4, clk4, w1, w2, w3⟩ := hFK4.mp
          have hdd := insL_dd on
          simp [h0, h1, h5, h6, h31, h32, h33, h8, h9, h41, h42, h43, -hset_d, -halloc_d]
          refine wp_round (n := on.length) (PutsK x ask es.length p g.l.length i K.l.length (K2.l.length + 1) b err (ρ 10) name row on.length (t_law24_Row N) (t_string N) K4) ?_ ?_
          · exact ⟨0, on.map avStr, h0, h1, h5, h6, h31, h32, h33, h8, h9, rfl, rfl, rfl, rfl, rfl, by omega, Mut.refl _ _, hc4, ht4, by simp, fun e he => by obtain ⟨z, _, rfl⟩ := List.mem_map.1 he; exact ⟨z, rfl⟩, rfl⟩
          · rintro q ρk Kk ⟨j, all, h0, h1, h5, h6, h31, h32, h33, h8, h9, h10, h13, h14, h66, h67, hj, hMk, hck, htk, hal, hzk, rfl⟩
            have hwj : IntKind.wrap .i64 ((j : Int) + 1) = ((j + 1 : Nat) : Int) := by rw [wrap64 (by omega) (by omega)]; omega
            by_cases hjl : j < on.length
            · have hjl' : (j : Int) < on.length := by omega
              have ha1 := aiaddr_ra00 (sz := 1) (id := K2.l.length + 1) hjl
              have ha2 := astore_ep1 (s := [63]) htk (by rw [hal]; exact hjl)
              simp [DM_law24_DepsPuts_2, h0, h1, h5, h6, h31, h32, h33, h8, h9, h10, h13, h14, h66, h67, hjl', ha1, ha2, hwj, -Int.natCast_add, -hset_d]
              refine ⟨on.length - (j + 1), by omega, ⟨j + 1, all.set j (avStr [63]), h0, h1, h5, h6, h31, h32, h33, h8, h9, h10, h13, h14, h66, rfl, by omega, hMk.set (.inl (by simp)), ?_, ?_, by simpa using hal, ?_, rfl⟩⟩
              · rw [hget_hset, if_neg (by omega)]; exact hck
              · rw [hget_hset, if_pos rfl, if_pos (hget_lt htk)]
              · intro e he
                rcases List.mem_or_eq_of_mem_set he with he | rfl
                · exact hzk e he
                · exact ⟨_, rfl⟩
            · have hjn : j = on.length := by omega
              subst hjn
              have hNk : NetI (fun _ => False) Kk (t_deps_Net N) p m l2 f2 := (hN4.frame (W := [K2.l.length + 1]) (fun k hk => by
                rw [List.mem_singleton] at hk
                subst hk
                exact ⟨by omega, by omega, .inl rfl⟩) hMk).weak (fun _ _ _ _ _ _ _ hk => hk) (fun _ hk => hk.elim)
              have hFk := hFK4.frame hMk (by simp; omega)
              obtain ⟨es5, clk5, x1, x2, x3⟩ := hFk.mp
              rcases halt with ⟨rfl, rfl, rfl, hl2⟩ | ⟨rfl, rfl, rfl, rfl⟩
              · obtain ⟨es6, clk6, y1, y2, y3⟩ := aMapupd_str (s := mkS name) (v := ρ 10) x1 x2
                have hM6 : Mut Kk (hset Kk g.l.length (some (.map es6 clk6))) [g.l.length] := (Mut.refl Kk _).set (.inl (by simp))
                simp [DM_law24_DepsPuts_2, DK_law24_DepsPuts_2, h0, h1, h5, h6, h31, h32, h33, h8, h9, h10, h13, h14, h66, h67, hck, y1, hwi, -Int.natCast_add, -hset_d]
                refine ⟨es.length - (i + 1), by omega, ⟨i + 1, l2, vPut name (ρ 10) lm, _, h0, h1, h5, h6, h31, h32, rfl, by omega, hNk.frame (W := [g.l.length]) (fun k hk => ?_) hM6, hFk.put (on := ddB (sortB on)) (by rw [hget_hset, if_pos rfl, if_pos (hget_lt x1)]) y2 (by rw [y3, x3, bl_mkS]) (by rw [← hdd]; exact hv), hne, by omega, fun k on' hk => ?_, rfl⟩⟩
                · rw [List.mem_singleton] at hk
                  subst hk
                  exact ⟨hne.1, hne.2, .inr fun sz es e hc => by rw [x1] at hc; cases hc⟩
                · unfold nPut at hk
                  split at hk
                  · cases hk; exact hnd1
                  · exact hb8 k on' hk
              · simp [DM_law24_DepsPuts_2, DK_law24_DepsPuts_2, h0, h1, h5, h6, h31, h32, h33, h8, h9, h10, h13, h14, h66, h67, hck, hwi, -Int.natCast_add, -hset_d]
                exact ⟨es.length - (i + 1), by omega, ⟨i + 1, l2, lm, f2, h0, h1, h5, h6, h31, h32, rfl, by omega, hNk, hFk, hne, by omega, hb8, rfl⟩⟩
    · have hin : i = es.length := by omega
      subst hin
      simp [DL_law24_DepsPuts_1, DK_law24_DepsPuts_3, h0, h1, h5, h6, h31, h32, h33, -hset_d, -halloc_d]
      refine wpRO_call (R := fun r => r.1 = avBool true) ?_ fun v g hv => ?_
      · have := hCis (X := fun _ => False) hN hF.mod (mis_bound (n := 0) (by rw [hr.1] at hll; omega) (fun k on hk => by have := hb8 k on hk; omega)) (ask := ask) (by omega)
        simpa [h5, h6, h1] using this
      · simp only at hv
        subst hv
        simp
        exact hR3 _ _ _ rfl
end
end Go.Proofs.Eng
