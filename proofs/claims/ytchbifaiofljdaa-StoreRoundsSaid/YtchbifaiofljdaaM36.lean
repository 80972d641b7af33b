import Derived.Test.YtchbifaiofljdaaM34
import Derived.Test.YtchbifaiofljdaaEngAI
import Derived.Test.YtchbifaiofljdaaM33
import Derived.Test.YtchbifaiofljdaaM32
/- The store's functions: what they answer, and what they write. -/
set_option linter.unusedVariables false
set_option linter.unusedSimpArgs false
set_option maxRecDepth 100000
namespace Go.Proofs.Eng
open Go
section
variable {Γ : Sums} {A : Tab} {N : Nat → Nat}

theorem aeq_sl {sz : Nat} {xs : List AV} : aeq .pslice (.sl sz xs) (.lit (.slice none 0 0)) = some false := _root_.id rfl
theorem aeq_ra {a b c d : Nat} : aeq .pslice (.ra a b c d) (.lit (.slice none 0 0)) = some false := _root_.id rfl
theorem aeq_nilS : aeq .pslice (.lit (.slice none 0 0)) (.lit (.slice none 0 0)) = some true := _root_.id rfl

theorem appendOn_ra {H : Hp} {e : TypeId} {sz bytes id : Nat} {es ys : List AV} (h : hget H id = some (.arr sz es e)) (hb : (es.length + ys.length) * bytes ≤ roomMax) (hg : ys.all (fun y => y.good && y.cells.length == sz) = true) :
    appendOn H e sz bytes (.ra sz id 0 es.length) ys = some (.ra sz H.l.length 0 (es.length + ys.length), some (halloc (hset H id none) (.arr sz (es ++ ys) e))) := by
  simp only [appendOn, h]
  rw [if_pos ⟨trivial, trivial, by omega, hb, hg⟩]
  simp

/-- What a call lays: a row of bytes of its own. -/
structure Fresh (H : Hp) (g : Option Hp) (c : AV) (es : List AV) (e : TypeId) (os : List (Nat × AObj)) : Prop where
  row : Row e 1 c es os
  wr : Mut H (g.getD H) []
  has : ∀ q ∈ os, hget (g.getD H) q.1 = some q.2 ∧ H.l.length ≤ q.1

/-- A row of bytes apart. -/
theorem clone_call (h : Has Γ A (f_slices_Clone_sl_byte_byte N) (C_slices_Clone_sl_byte_byte N)) {x : AV} {b : List UInt8} {H : Hp} (hx : VBytes H x b) (hl : b.length < 2 ^ 36) :
    ∃ c g os, (lim Γ A).call (f_slices_Clone_sl_byte_byte N) [x] H = some (c, g) ∧ Fresh H g c (b.map avByte) (t_uint8 N) os ∧ (x = avNilS → c = avNilS) := by
  have key : ∃ r, (lim Γ A).call (f_slices_Clone_sl_byte_byte N) [x] H = some r ∧ ∃ os, Fresh H r.2 r.1 (b.map avByte) (t_uint8 N) os ∧ (x = avNilS → r.1 = avNilS) := by
    obtain ⟨R, hR⟩ : ∃ R : AV × Option Hp → Prop, R = fun r => ∃ os, Fresh H r.2 r.1 (b.map avByte) (t_uint8 N) os ∧ (x = avNilS → r.1 = avNilS) := ⟨_, rfl⟩
    suffices ∃ r, (lim Γ A).call (f_slices_Clone_sl_byte_byte N) [x] H = some r ∧ R r by simpa [hR] using this
    have live : aeq .pslice x (.lit (.slice none 0 0)) = some false → x ≠ avNilS → ∃ r, (lim Γ A).call (f_slices_Clone_sl_byte_byte N) [x] H = some r ∧ R r := by
      intro he hne
      apply h.callP (by rfl)
      have hE := (hx.dd none).keep (H' := halloc { l := H.l, d := none } (.arr 1 [] (t_uint8 N))) (fun id hid => by simp [hget_halloc, Nat.ne_of_lt hid])
      have hE' := hE.elems
      have ha : appendOn (halloc { l := H.l, d := none } (.arr 1 [] (t_uint8 N))) (t_uint8 N) 1 1 (.ra 1 H.l.length 0 0) (b.map avByte) = some (.ra 1 (H.l.length + 1) 0 b.length, some (halloc (hset (halloc { l := H.l, d := none } (.arr 1 [] (t_uint8 N))) H.l.length none) (.arr 1 (b.map avByte) (t_uint8 N)))) := by
        have hr : b.length ≤ roomMax := by unfold roomMax; omega
        have hq := appendOn_ra (H := halloc { l := H.l, d := none } (.arr 1 [] (t_uint8 N))) (e := t_uint8 N) (sz := 1) (bytes := 1) (id := H.l.length) (es := []) (ys := b.map avByte) (by simp) (by simpa using hr) (by simp)
        simpa using hq
      have hm : Mut { l := H.l, d := none } (halloc (hset (halloc { l := H.l, d := none } (.arr 1 [] (t_uint8 N))) H.l.length none) (.arr 1 (b.map avByte) (t_uint8 N))) [] := (((Mut.refl _ []).alloc _).set (.inr (Nat.le_refl _))).alloc _
      have hs := settle_some (H := H) (H' := halloc (hset (halloc { l := H.l, d := none } (.arr 1 [] (t_uint8 N))) H.l.length none) (.arr 1 (b.map avByte) (t_uint8 N))) (v := .ra 1 (H.l.length + 1) 0 b.length) (by simp [AV.under])
      simp [C_slices_Clone_sl_byte_byte, fillA, repl, setFrom, chunk, he, hE', ha, -halloc_d, -hset_d]
      rw [hs, hR]
      refine ⟨[(H.l.length + 1, .arr 1 (b.map avByte) (t_uint8 N))], ⟨.inr ⟨_, by simp, rfl⟩, hm.settled, ?_⟩, fun e => absurd e hne⟩
      simp only [List.mem_singleton, forall_eq, Option.getD_some]
      refine ⟨?_, by omega⟩
      rw [hget_l]
      simp
    rcases hx with (⟨rfl, hb⟩ | rfl) | ⟨id, off, e, all, rfl, h1⟩
    · apply h.callP (by rfl)
      simp [C_slices_Clone_sl_byte_byte, aeq_nilS]
      rw [hR]
      refine ⟨[], ⟨?_, Mut.refl _ _, by simp⟩, fun _ => rfl⟩
      exact .inl ⟨rfl, hb, rfl⟩
    · exact live aeq_sl (by simp)
    · exact live aeq_ra (by simp)
  obtain ⟨⟨c, g⟩, e, os, h1, h2⟩ := key
  exact ⟨c, g, os, e, h1, h2⟩

/-- A store, laid in a heap. -/
structure St (H : Hp) (t : TypeId) (p m turn : Nat) (l : List (List UInt8 × AV)) : Prop where
  cell : hget H p = some (.cells [.map m, avInt .i64 turn] t)
  mp : ∃ es clk, hget H m = some (.map es clk) ∧ SKeys es ∧ KV es = l
theorem St.dd {H : Hp} {t : TypeId} {p m turn : Nat} {l : List (List UInt8 × AV)} (h : St H t p m turn l) (d : Option Nat) : St { l := H.l, d := d } t p m turn l := ⟨h.cell, h.mp⟩
theorem St.ne {H : Hp} {t : TypeId} {p m turn : Nat} {l : List (List UInt8 × AV)} (h : St H t p m turn l) : p ≠ m := by
  rintro rfl
  obtain ⟨es, clk, h1, _⟩ := h.mp
  rw [h.cell] at h1
  cases h1

structure StoreS (Γ : Sums) (A : Tab) (N : Nat → Nat) : Prop where
  lex : LexS Γ A N
  clone : Has Γ A (f_slices_Clone_sl_byte_byte N) (C_slices_Clone_sl_byte_byte N)
  new : Has Γ A (f_store_New N) (C_store_New N)
  set : Has Γ A (f_p_store_Store_Set N) (C_p_store_Store_Set N)
  del : Has Γ A (f_p_store_Store_Delete N) (C_p_store_Store_Delete N)

def setE (s : List UInt8) (n : Nat) (l : List (List UInt8 × AV)) : Nat :=
  if !isNameB s then 7 else if 1048576 < n then 6 else if (vFind s l).isSome = false ∧ 256 ≤ l.length then 20 else 0

@[simp] theorem isRef_ptr {a b : Nat} : (AV.ptr a b).isRef = true := rfl
@[simp] theorem aeq_ptr {a b : Nat} : aeq .pptr (.ptr a b) (.lit (.pointer none)) = some false := _root_.id rfl
theorem Set_err (h : StoreS Γ A N) {H : Hp} {t : TypeId} {p m turn : Nat} {l : List (List UInt8 × AV)} (hs : St H t p m turn l) {s b : List UInt8} {x : AV} (hx : VBytes H x b) (hl : s.length < 2 ^ 40) (he : setE s b.length l ≠ 0) :
    (lim Γ A).call (f_p_store_Store_Set N) [.ptr p 0, avStr s, x] H = some (avInt .i64 (setE s b.length l), none) := by
  have e1 := fun H => lexer_IsName_call h.lex s hl H
  obtain ⟨es, clk, m1, m2, m3⟩ := hs.mp
  have hm : hget { l := H.l, d := none } m = some (.map es clk) := m1
  have q1 : hget { l := H.l, d := none } p = some (.cells [.map m, avInt .i64 turn] t) := hs.cell
  have q2 := aLookup_str (s := mkS s) (z := .lit (.slice none 0 0)) hm m2
  have q3 := aLenm_map hm
  have hn := hx.len
  rw [List.length_map] at hn
  rw [m3] at q2 q3
  apply h.set.call (by rfl)
  unfold setE at he ⊢
  cases c1 : isNameB s
  · simp [C_p_store_Store_Set, q1, q2, e1, c1]
  · by_cases c2 : 1048576 < b.length
    · have c2' : (1048576 : Int) < b.length := by omega
      simp [C_p_store_Store_Set, q1, q2, e1, c1, c2, c2', hn]
    · have c2' : ¬ (1048576 : Int) < b.length := by omega
      simp [c1, c2] at he
      have c3' : (256 : Int) ≤ l.length := by omega
      simp [C_p_store_Store_Set, q1, q2, q3, e1, c1, c2, c2', hn, he, c3']

theorem _root_.Go.Proofs.Eng.Mut.keeps {H H' : Hp} (h : Mut H H' []) (hd : H.d = none) : Eng.keeps H H' = true := by
  unfold Eng.keeps
  cases hm : H'.d with
  | none => rfl
  | some m =>
    rcases h.d m hm with ⟨k, hk, _⟩ | hk | ⟨i, hi, _⟩
    · rw [hd] at hk; cases hk
    · simpa using hk
    · simp at hi
theorem bindH1_fresh {c : AV} {g : Option Hp} {H : Hp} {Q : AV → Hp → Prop} {ma : Mk Q} {mb : Mk H} (hd : H.d = none) (h : Mut H (g.getD H) []) : bindH1 (some (c, g)) H Q ma mb = Q c (g.getD H) := by
  cases g with
  | none => simp
  | some G =>
    have hk := h.keeps hd
    unfold bindH1
    apply propext
    have hD : ({ l := G.l, d := dminO H.d G.d } : Hp) = G := by
      rw [hd]
      cases G with
      | mk gl gd => cases gd <;> rfl
    constructor
    · rintro ⟨v, h1, e, e2⟩
      simp only [Option.some.injEq, Prod.mk.injEq] at e
      obtain ⟨rfl, rfl⟩ := e
      simp only [hD] at e2
      exact e2.2
    · intro hq
      refine ⟨c, _, rfl, hk, ?_⟩
      simp only [hD]
      exact hq
theorem hset_wrote {H H' : Hp} {i : Nat} {o : Option AObj} (h : i < H.l.length) : ∃ m, (hset H' i o).d = some m ∧ m < H.l.length := by
  rw [hset_d]
  cases H'.d with
  | none => exact ⟨i, rfl, h⟩
  | some k => exact ⟨min k i, rfl, by omega⟩
theorem Set_ok (h : StoreS Γ A N) {H : Hp} {t : TypeId} {p m turn : Nat} {l : List (List UInt8 × AV)} (hs : St H t p m turn l) {s b : List UInt8} {x : AV} (hx : VBytes H x b) (hl : s.length < 2 ^ 40) (he : setE s b.length l = 0) (ht : turn < 2 ^ 60) :
    ∃ c g os, (lim Γ A).call (f_p_store_Store_Set N) [.ptr p 0, avStr s, x] H = some (avInt .i64 0, some g) ∧ St g t p m (turn + 1) (vPut s c l) ∧ Mut H g [p, m] ∧ Row (t_uint8 N) 1 c (b.map avByte) os ∧ (∀ q ∈ os, hget g q.1 = some q.2 ∧ H.l.length ≤ q.1) ∧ (x = avNilS → c = avNilS) := by
  have hpm := hs.ne
  have e1 := fun H => lexer_IsName_call h.lex s hl H
  obtain ⟨es, clk, m1, m2, m3⟩ := hs.mp
  have hm : hget { l := H.l, d := none } m = some (.map es clk) := m1
  have q1 : hget { l := H.l, d := none } p = some (.cells [.map m, avInt .i64 turn] t) := hs.cell
  have q2 := aLookup_str (s := mkS s) (z := .lit (.slice none 0 0)) hm m2
  have q3 := aLenm_map hm
  have hn := hx.len
  rw [List.length_map] at hn
  rw [m3] at q2 q3
  unfold setE at he
  have c1 : isNameB s = true := by
    cases c1 : isNameB s
    · simp [c1] at he
    · rfl
  have c2 : ¬ 1048576 < b.length := by intro c2; simp [c1, c2] at he
  have c2' : ¬ (1048576 : Int) < b.length := by omega
  simp only [c1, Bool.not_true, Bool.false_eq_true, if_false, c2] at he
  obtain ⟨c, g, os, k1, k2, k3⟩ := clone_call h.clone (H := { l := H.l, d := none }) (hx.dd none) (by omega)
  obtain ⟨R, hR⟩ : ∃ R : AV × Option Hp → Prop, R = fun r => ∃ g, r = (avInt .i64 0, some g) ∧ St g t p m (turn + 1) (vPut s c l) ∧ Mut H g [p, m] ∧ ∀ q ∈ os, hget g q.1 = some q.2 ∧ H.l.length ≤ q.1 := ⟨_, rfl⟩
  suffices ∃ r, (lim Γ A).call (f_p_store_Store_Set N) [.ptr p 0, avStr s, x] H = some r ∧ R r by
    obtain ⟨r, e, hr⟩ := this
    rw [hR] at hr
    obtain ⟨g, rfl, r1, r2, r3⟩ := hr
    exact ⟨c, g, os, e, r1, r2, k2.row, r3, k3⟩
  apply h.set.callP (by rfl)
  have hlt := hget_lt hs.cell
  have hltm := hget_lt m1
  have kb := fun {Q : AV → Hp → Prop} {ma : Mk Q} {mb : Mk ({ l := H.l, d := none } : Hp)} => bindH1_fresh (c := c) (Q := Q) (ma := ma) (mb := mb) rfl k2.wr
  have g1 := k2.wr.get' q1 (by simp)
  have g2 := k2.wr.get' hm (by simp)
  have kw := k2.wr
  generalize hG : g.getD { l := H.l, d := none } = G at kb g1 g2 kw
  obtain ⟨es', clk', u1, u2, u3⟩ := aMapupd_str (s := mkS s) (v := c) g2 m2
  have hgm : hget (hset G m (some (.map es' clk'))) p = some (.cells [.map m, avInt .i64 turn] t) := by
    rw [hget_hset, if_neg hpm]; exact g1
  have hw : IntKind.wrap .i64 ((turn : Int) + 1) = ((turn + 1 : Nat) : Int) := by rw [wrap64 (by omega) (by omega)]; omega
  have hG2 : G.l.length = G.l.length := rfl
  have hp2 : p < G.l.length := hget_lt g1
  have hm2 : m < G.l.length := hget_lt g2
  have hmu : Mut { l := H.l, d := none } (hset (hset G m (some (.map es' clk'))) p (some (.cells [.map m, avInt .i64 ((turn + 1 : Nat) : Int)] t))) [p, m] :=
    ((Mut.trans (Mut.refl _ [p, m]) kw (by simp)).set (i := m) (.inl (by simp))).set (i := p) (.inl (by simp))
  have fin : R (avInt .i64 0, some { l := (hset (hset G m (some (.map es' clk'))) p (some (.cells [.map m, avInt .i64 ((turn + 1 : Nat) : Int)] t))).l, d := dminO H.d (hset (hset G m (some (.map es' clk'))) p (some (.cells [.map m, avInt .i64 ((turn + 1 : Nat) : Int)] t))).d }) := by
    rw [hR]
    refine ⟨_, rfl, ⟨?_, es', clk', ?_, u2, by rw [u3, m3]; rfl⟩, hmu.settled, fun q hq => ?_⟩
    · rw [hget_l, hget_hset, if_pos rfl, if_pos (by simpa using hp2)]
    · rw [hget_l, hget_hset, if_neg (Ne.symm hpm), hget_hset, if_pos rfl, if_pos hm2]
    · obtain ⟨r1, r2⟩ := k2.has q hq
      rw [hG] at r1
      refine ⟨?_, r2⟩
      have r2' : H.l.length ≤ q.1 := r2
      rw [hget_l, hget_hset, if_neg (by omega), hget_hset, if_neg (by omega), r1]
  have hsw := settle_wrote (H := H) (H' := hset (hset G m (some (.map es' clk'))) p (some (.cells [.map m, avInt .i64 ((turn + 1 : Nat) : Int)] t))) (v := avInt .i64 0) (hset_wrote hlt)
  by_cases c3 : (vFind s l).isSome = true
  · simp [C_p_store_Store_Set, q1, q2, q3, e1, c1, c2, c2', hn, c3, k1, kb, u1, hgm, hw, -hset_d, -Int.natCast_add]
    rw [hsw]
    exact fin
  · have c3' : (vFind s l).isSome = false := by simpa using c3
    have c4 : ¬ (256 : Int) ≤ l.length := by
      simp [c3'] at he
      omega
    simp [C_p_store_Store_Set, q1, q2, q3, e1, c1, c2, c2', hn, c3', c4, k1, kb, u1, hgm, hw, -hset_d, -Int.natCast_add]
    rw [hsw]
    exact fin

theorem Delete_err (h : StoreS Γ A N) {H : Hp} {t : TypeId} {p m turn : Nat} {l : List (List UInt8 × AV)} (hs : St H t p m turn l) {s : List UInt8} (he : (vFind s l).isSome = false) :
    (lim Γ A).call (f_p_store_Store_Delete N) [.ptr p 0, avStr s] H = some (avInt .i64 13, none) := by
  obtain ⟨es, clk, m1, m2, m3⟩ := hs.mp
  have hm : hget { l := H.l, d := none } m = some (.map es clk) := m1
  have q1 : hget { l := H.l, d := none } p = some (.cells [.map m, avInt .i64 turn] t) := hs.cell
  have q2 := aLookup_str (s := mkS s) (z := .lit (.slice none 0 0)) hm m2
  rw [m3] at q2
  apply h.del.call (by rfl)
  simp [C_p_store_Store_Delete, q1, q2, he]

theorem Delete_ok (h : StoreS Γ A N) {H : Hp} {t : TypeId} {p m turn : Nat} {l : List (List UInt8 × AV)} (hs : St H t p m turn l) {s : List UInt8} (he : (vFind s l).isSome = true) (ht : turn < 2 ^ 60) :
    ∃ g, (lim Γ A).call (f_p_store_Store_Delete N) [.ptr p 0, avStr s] H = some (avInt .i64 0, some g) ∧ St g t p m (turn + 1) (vDel s l) ∧ Mut H g [p, m] := by
  have hpm := hs.ne
  obtain ⟨es, clk, m1, m2, m3⟩ := hs.mp
  have hm : hget { l := H.l, d := none } m = some (.map es clk) := m1
  have q1 : hget { l := H.l, d := none } p = some (.cells [.map m, avInt .i64 turn] t) := hs.cell
  have q2 := aLookup_str (s := mkS s) (z := .lit (.slice none 0 0)) hm m2
  rw [m3] at q2
  obtain ⟨es', u1, u2, u3⟩ := aDelete_str (s := mkS s) hm m2
  obtain ⟨R, hR⟩ : ∃ R : AV × Option Hp → Prop, R = fun r => ∃ g, r = (avInt .i64 0, some g) ∧ St g t p m (turn + 1) (vDel s l) ∧ Mut H g [p, m] := ⟨_, rfl⟩
  suffices ∃ r, (lim Γ A).call (f_p_store_Store_Delete N) [.ptr p 0, avStr s] H = some r ∧ R r by
    obtain ⟨r, e, hr⟩ := this
    rw [hR] at hr
    obtain ⟨g, rfl, r1, r2⟩ := hr
    exact ⟨g, e, r1, r2⟩
  have hlt := hget_lt hs.cell
  have hltm := hget_lt m1
  have hgm : hget (hset { l := H.l, d := none } m (some (.map es' clk))) p = some (.cells [.map m, avInt .i64 turn] t) := by
    rw [hget_hset, if_neg hpm]; exact q1
  have hw : IntKind.wrap .i64 ((turn : Int) + 1) = ((turn + 1 : Nat) : Int) := by rw [wrap64 (by omega) (by omega)]; omega
  have hmu : Mut { l := H.l, d := none } (hset (hset { l := H.l, d := none } m (some (.map es' clk))) p (some (.cells [.map m, avInt .i64 ((turn + 1 : Nat) : Int)] t))) [p, m] :=
    ((Mut.refl _ [p, m]).set (i := m) (.inl (by simp))).set (i := p) (.inl (by simp))
  have fin : R (avInt .i64 0, some { l := (hset (hset { l := H.l, d := none } m (some (.map es' clk))) p (some (.cells [.map m, avInt .i64 ((turn + 1 : Nat) : Int)] t))).l, d := dminO H.d (hset (hset { l := H.l, d := none } m (some (.map es' clk))) p (some (.cells [.map m, avInt .i64 ((turn + 1 : Nat) : Int)] t))).d }) := by
    rw [hR]
    refine ⟨_, rfl, ⟨?_, es', clk, ?_, u2, by rw [u3, m3]; rfl⟩, hmu.settled⟩
    · rw [hget_l, hget_hset, if_pos rfl, if_pos (by simpa using hlt)]
    · rw [hget_l, hget_hset, if_neg (Ne.symm hpm), hget_hset, if_pos rfl, if_pos (by simpa using hltm)]
  have hsw := settle_wrote (H := H) (H' := hset (hset { l := H.l, d := none } m (some (.map es' clk))) p (some (.cells [.map m, avInt .i64 ((turn + 1 : Nat) : Int)] t))) (v := avInt .i64 0) (hset_wrote hlt)
  apply h.del.callP (by rfl)
  simp [C_p_store_Store_Delete, q1, q2, he, u1, hgm, hw, -hset_d, -Int.natCast_add]
  rw [hsw]
  exact fin

theorem New_call (h : StoreS Γ A N) (H : Hp) : ∃ g p m, (lim Γ A).call (f_store_New N) [] H = some (.ptr p 0, some g) ∧ St g (t_store_Store N) p m 0 [] ∧ Mut H g [] ∧ H.l.length ≤ p ∧ H.l.length ≤ m := by
  obtain ⟨R, hR⟩ : ∃ R : AV × Option Hp → Prop, R = fun r => ∃ g p m, r = (.ptr p 0, some g) ∧ St g (t_store_Store N) p m 0 [] ∧ Mut H g [] ∧ H.l.length ≤ p ∧ H.l.length ≤ m := ⟨_, rfl⟩
  suffices ∃ r, (lim Γ A).call (f_store_New N) [] H = some r ∧ R r by
    obtain ⟨r, e, hr⟩ := this
    rw [hR] at hr
    obtain ⟨g, p, m, rfl, h1, h2⟩ := hr
    exact ⟨g, p, m, e, h1, h2⟩
  have hmu : Mut { l := H.l, d := none } (halloc (halloc { l := H.l, d := none } (.map [] 0)) (.cells [.map H.l.length, avInt .i64 0] (t_store_Store N))) [] := ((Mut.refl _ _).alloc _).alloc _
  apply h.new.callP (by rfl)
  simp [C_store_New, setFrom, -halloc_d]
  rw [settle_some (by simp [AV.under]), hR]
  refine ⟨_, _, _, rfl, ⟨?_, [], 0, ?_, by simp [SKeys], rfl⟩, hmu.settled, by omega, Nat.le_refl _⟩
  · rw [hget_l]; simp
  · rw [hget_l]; simp
end
end Go.Proofs.Eng
/- Templates of functions, as the engine takes them; numbers of functions and types by names. Printed by tm.py. -/
set_option linter.unusedVariables false
set_option maxRecDepth 100000
namespace Go.Proofs.Eng
open Go

def L_p_solve_Solver_Claim_1 (N : Nat → Nat) : AC :=
    .seq (
     .seq (
      .ops [⟨(some 51), .mov (.t 0), none⟩, ⟨(some 52), .nilchk (.t 51), none⟩, ⟨(some 53), .faddr 2 (.t 52), none⟩, ⟨(some 54), .load none (.t 53), none⟩, ⟨(some 55), .len (.t 54), none⟩, ⟨(some 56), .bin .gtr (.t 55) (.c (.lit (.int .i64 0))), none⟩]) (
     .cond (.t 56) (
      .skip) (
      .exit 1))) (
    .block 2 (
     .seq (
      .ops [⟨(some 57), .mov (.t 0), none⟩, ⟨(some 58), .nilchk (.t 57), none⟩, ⟨(some 59), .faddr 2 (.t 58), none⟩, ⟨(some 60), .load none (.t 59), none⟩, ⟨(some 61), .iaddr 2 (.t 60) (.c (.lit (.int .i64 0))), none⟩, ⟨(some 62), .load (some 2) (.t 61), none⟩, ⟨(some 7), .new (t_solve_claim N) (.agg [(.lit (.int .i64 0)), (.lit (.int .i64 0))]), none⟩, ⟨none, .store 2 (.t 7) (.t 62), none⟩]) (
     .seq (
      .ops [⟨(some 63), .mov (.t 0), none⟩, ⟨(some 64), .mov (.t 0), none⟩, ⟨(some 65), .nilchk (.t 64), none⟩, ⟨(some 66), .faddr 2 (.t 65), none⟩, ⟨(some 67), .load none (.t 66), none⟩, ⟨(some 68), .slice 2 (.t 67) (some (.c (.lit (.int .i64 1)))) none, none⟩, ⟨(some 69), .nilchk (.t 63), none⟩, ⟨(some 70), .faddr 2 (.t 69), none⟩, ⟨none, .store 1 (.t 70) (.t 68), none⟩]) (
     .seq (
      .ops [⟨(some 71), .mov (.t 0), none⟩, ⟨(some 72), .mov (.t 0), none⟩, ⟨(some 73), .load (some 2) (.t 7), none⟩, ⟨(some 74), .call (.c (.fn (f_p_solve_Solver_step N) [] [])) [(.t 72), (.t 73)], none⟩, ⟨(some 75), .nilchk (.t 71), none⟩, ⟨(some 76), .faddr 5 (.t 75), none⟩, ⟨none, .store 1 (.t 76) (.t 74), none⟩]) (
     .seq (
      .ops [⟨(some 77), .mov (.t 0), none⟩, ⟨(some 78), .nilchk (.t 77), none⟩, ⟨(some 79), .faddr 5 (.t 78), none⟩, ⟨(some 80), .load none (.t 79), none⟩, ⟨(some 81), .eq true .pint (.t 80) (.c (.lit (.int .i64 0))), none⟩]) (
     .cond (.t 81) (
      .seq (
       .ops [⟨(some 82), .mov (.t 0), none⟩, ⟨(some 83), .nilchk (.t 82), none⟩, ⟨(some 84), .faddr 5 (.t 83), none⟩, ⟨(some 85), .load none (.t 84), none⟩, ⟨(some 6), .mov (.t 85), none⟩]) (
      .ret)) (
      .skip)))))))
def K_p_solve_Solver_Claim_1 (N : Nat → Nat) : AC :=
 .seq (
  .ops [⟨(some 86), .mov (.t 0), none⟩, ⟨(some 87), .nilchk (.t 86), none⟩, ⟨(some 88), .faddr 4 (.t 87), none⟩, ⟨(some 89), .load none (.t 88), none⟩, ⟨(some 90), .bin .add (.t 89) (.c (.lit (.int .i64 1))), none⟩, ⟨(some 91), .nilchk (.t 86), none⟩, ⟨(some 92), .faddr 4 (.t 91), none⟩, ⟨none, .store 1 (.t 92) (.t 90), none⟩]) (
 .seq (
  .ops [⟨(some 6), .mov (.c (.lit (.int .i64 0))), none⟩]) (
 .ret))
/-- (*azimuth/solve.Solver).Claim -/
def C_p_solve_Solver_Claim (N : Nat → Nat) : AFunc := ⟨93, [.inl 6],
 .seq (
  .ops [⟨(some 6), .mov (.c (.lit (.int .i64 0))), none⟩]) (
 .seq (
  .block 0 (
   .seq (
    .ops [⟨(some 9), .mov (.t 0), none⟩, ⟨(some 10), .eq false .pptr (.t 9) (.c (.lit (.pointer none))), none⟩, ⟨(some 11), .mov (.t 10), none⟩, ⟨(some 12), .mov (.t 1), (some (11, false))⟩, ⟨(some 13), .bin .lss (.t 12) (.c (.lit (.int .i64 0))), (some (11, false))⟩, ⟨(some 14), .pick (.t 11) (.c (.lit (.bool true))) (.t 13), none⟩, ⟨(some 15), .mov (.t 14), none⟩, ⟨(some 16), .mov (.t 2), (some (15, false))⟩, ⟨(some 17), .bin .lss (.t 16) (.c (.lit (.int .i64 0))), (some (15, false))⟩, ⟨(some 18), .pick (.t 15) (.c (.lit (.bool true))) (.t 17), none⟩, ⟨(some 19), .mov (.t 18), none⟩, ⟨(some 20), .mov (.t 1), (some (19, false))⟩, ⟨(some 21), .mov (.t 0), (some (19, false))⟩, ⟨(some 22), .nilchk (.t 21), (some (19, false))⟩, ⟨(some 23), .faddr 0 (.t 22), (some (19, false))⟩, ⟨(some 24), .load none (.t 23), (some (19, false))⟩, ⟨(some 25), .call (.c (.fn (f_p_arena_Arena_Len N) [] [])) [(.t 24)], (some (19, false))⟩, ⟨(some 26), .bin .geq (.t 20) (.t 25), (some (19, false))⟩, ⟨(some 27), .pick (.t 19) (.c (.lit (.bool true))) (.t 26), none⟩, ⟨(some 28), .mov (.t 27), none⟩, ⟨(some 29), .mov (.t 2), (some (28, false))⟩, ⟨(some 30), .mov (.t 0), (some (28, false))⟩, ⟨(some 31), .nilchk (.t 30), (some (28, false))⟩, ⟨(some 32), .faddr 0 (.t 31), (some (28, false))⟩, ⟨(some 33), .load none (.t 32), (some (28, false))⟩, ⟨(some 34), .call (.c (.fn (f_p_arena_Arena_Len N) [] [])) [(.t 33)], (some (28, false))⟩, ⟨(some 35), .bin .geq (.t 29) (.t 34), (some (28, false))⟩, ⟨(some 36), .pick (.t 28) (.c (.lit (.bool true))) (.t 35), none⟩, ⟨(some 8), .mov (.t 36), none⟩]) (
   .cond (.t 8) (
    .seq (
     .ops [⟨(some 6), .mov (.c (.lit (.int .i64 1))), none⟩]) (
    .ret)) (
    .seq (
     .ops [⟨(some 38), .mov (.t 0), none⟩, ⟨(some 39), .nilchk (.t 38), none⟩, ⟨(some 40), .faddr 5 (.t 39), none⟩, ⟨(some 41), .load none (.t 40), none⟩, ⟨(some 42), .eq true .pint (.t 41) (.c (.lit (.int .i64 0))), none⟩, ⟨(some 37), .mov (.t 42), none⟩]) (
    .cond (.t 37) (
     .seq (
      .ops [⟨(some 43), .mov (.t 0), none⟩, ⟨(some 44), .nilchk (.t 43), none⟩, ⟨(some 45), .faddr 5 (.t 44), none⟩, ⟨(some 46), .load none (.t 45), none⟩, ⟨(some 6), .mov (.t 46), none⟩]) (
     .ret)) (
     .skip)))))) (
 .seq (
  .ops [⟨(some 47), .mov (.t 0), none⟩, ⟨(some 48), .mov (.t 1), none⟩, ⟨(some 49), .mov (.t 2), none⟩, ⟨(some 50), .call (.c (.fn (f_p_solve_Solver_ask N) [] [])) [(.t 47), (.t 48), (.t 49)], none⟩]) (
 .seq (
  .block 1 (
   .loop (L_p_solve_Solver_Claim_1 N))) (K_p_solve_Solver_Claim_1 N)))), false⟩

/-- (*azimuth/solve.Solver).Claims -/
def C_p_solve_Solver_Claims (N : Nat → Nat) : AFunc := ⟨9, [.inl 2],
 .seq (
  .ops [⟨(some 2), .mov (.c (.lit (.int .i64 0))), none⟩]) (
 .seq (
  .seq (
   .ops [⟨(some 3), .mov (.t 0), none⟩, ⟨(some 4), .eq false .pptr (.t 3) (.c (.lit (.pointer none))), none⟩]) (
  .cond (.t 4) (
   .seq (
    .ops [⟨(some 2), .mov (.c (.lit (.int .i64 0))), none⟩]) (
   .ret)) (
   .skip))) (
 .seq (
  .ops [⟨(some 5), .mov (.t 0), none⟩, ⟨(some 6), .nilchk (.t 5), none⟩, ⟨(some 7), .faddr 4 (.t 6), none⟩, ⟨(some 8), .load none (.t 7), none⟩, ⟨(some 2), .mov (.t 8), none⟩]) (
 .ret))), false⟩

/-- (*azimuth/solve.Solver).Clash -/
def C_p_solve_Solver_Clash (N : Nat → Nat) : AFunc := ⟨24, [.inl 2, .inl 3, .inl 4],
 .seq (
  .ops [⟨(some 2), .mov (.c (.lit (.int .i64 0))), none⟩, ⟨(some 3), .mov (.c (.lit (.int .i64 0))), none⟩, ⟨(some 4), .mov (.c (.lit (.bool false))), none⟩]) (
 .seq (
  .seq (
   .ops [⟨(some 5), .mov (.t 0), none⟩, ⟨(some 6), .eq false .pptr (.t 5) (.c (.lit (.pointer none))), none⟩, ⟨(some 7), .mov (.t 6), none⟩, ⟨(some 8), .mov (.t 0), (some (7, false))⟩, ⟨(some 9), .nilchk (.t 8), (some (7, false))⟩, ⟨(some 10), .faddr 5 (.t 9), (some (7, false))⟩, ⟨(some 11), .load none (.t 10), (some (7, false))⟩, ⟨(some 12), .eq true .pint (.t 11) (.c (.lit (.int .i64 10))), (some (7, false))⟩, ⟨(some 13), .pick (.t 7) (.c (.lit (.bool true))) (.t 12), none⟩]) (
  .cond (.t 13) (
   .seq (
    .ops [⟨(some 2), .mov (.c (.lit (.int .i64 0))), none⟩, ⟨(some 3), .mov (.c (.lit (.int .i64 0))), none⟩, ⟨(some 4), .mov (.c (.lit (.bool false))), none⟩]) (
   .ret)) (
   .skip))) (
 .seq (
  .dops 3 [⟨(some 14), .mov (.t 0), none⟩, ⟨(some 15), .nilchk (.t 14), none⟩, ⟨(some 16), .faddr 6 (.t 15), none⟩, ⟨(some 17), .faddr 0 (.t 16), none⟩, ⟨(some 18), .load none (.t 17), none⟩, ⟨(some 19), .mov (.t 0), none⟩, ⟨(some 20), .nilchk (.t 19), none⟩, ⟨(some 21), .faddr 6 (.t 20), none⟩, ⟨(some 22), .faddr 1 (.t 21), none⟩, ⟨(some 23), .load none (.t 22), none⟩, ⟨(some 2), .mov (.t 18), none⟩, ⟨(some 3), .mov (.t 23), none⟩, ⟨(some 4), .mov (.c (.lit (.bool true))), none⟩] [0, 0, 0, 0, 2, 0, 0, 0, 0, 2, 0, 0, 0] []) (
 .ret))), false⟩

/-- (*azimuth/solve.Solver).any -/
def C_p_solve_Solver_any (N : Nat → Nat) : AFunc := ⟨31, [.inl 2, .inl 3],
 .seq (
  .ops [⟨(some 2), .mov (.c (.lit (.int .i64 0))), none⟩, ⟨(some 3), .mov (.c (.lit (.int .i64 0))), none⟩]) (
 .seq (
  .seq (
   .ops [⟨(some 6), .mov (.t 0), none⟩, ⟨(some 7), .nilchk (.t 6), none⟩, ⟨(some 8), .faddr 3 (.t 7), none⟩, ⟨(some 9), .load none (.t 8), none⟩, ⟨(some 10), .bin .lss (.t 9) (.c (.lit (.int .i64 0))), none⟩]) (
  .cond (.t 10) (
   .seq (
    .ops [⟨(some 12), .mov (.t 0), none⟩, ⟨(some 13), .nilchk (.t 12), none⟩, ⟨(some 14), .faddr 0 (.t 13), none⟩, ⟨(some 15), .load none (.t 14), none⟩, ⟨(some 16), .build [(.lit (.int .i64 0)), (.lit (.slice none 0 0)), (.lit (.slice none 0 0)), (.lit (.bool false))] [(0, 1, (.c (.lit (.int .i64 5))))], none⟩, ⟨(some 17), .call (.c (.fn (f_p_arena_Arena_Head N) [] [])) [(.t 15), (.t 16)], none⟩, ⟨(some 11), .mov (.t 17), none⟩, ⟨(some 18), .extract (.t 11) 0, none⟩, ⟨(some 19), .extract (.t 11) 1, none⟩, ⟨(some 4), .mov (.t 18), none⟩, ⟨(some 5), .mov (.t 19), none⟩]) (
   .seq (
    .seq (
     .ops [⟨(some 20), .mov (.t 5), none⟩, ⟨(some 21), .eq true .pint (.t 20) (.c (.lit (.int .i64 0))), none⟩]) (
    .cond (.t 21) (
     .seq (
      .ops [⟨(some 22), .mov (.t 5), none⟩, ⟨(some 2), .mov (.c (.lit (.int .i64 0))), none⟩, ⟨(some 3), .mov (.t 22), none⟩]) (
     .ret)) (
     .skip))) (
   .ops [⟨(some 23), .mov (.t 0), none⟩, ⟨(some 24), .mov (.t 4), none⟩, ⟨(some 25), .nilchk (.t 23), none⟩, ⟨(some 26), .faddr 3 (.t 25), none⟩, ⟨none, .store 1 (.t 26) (.t 24), none⟩]))) (
   .skip))) (
 .seq (
  .ops [⟨(some 27), .mov (.t 0), none⟩, ⟨(some 28), .nilchk (.t 27), none⟩, ⟨(some 29), .faddr 3 (.t 28), none⟩, ⟨(some 30), .load none (.t 29), none⟩, ⟨(some 2), .mov (.t 30), none⟩, ⟨(some 3), .mov (.c (.lit (.int .i64 0))), none⟩]) (
 .ret))), false⟩

/-- (*azimuth/solve.Solver).ask -/
def C_p_solve_Solver_ask (N : Nat → Nat) : AFunc := ⟨37, [],
 .seq (
  .ops [⟨(some 7), .mov (.t 1), none⟩, ⟨(some 8), .mov (.t 2), none⟩, ⟨(some 9), .build [(.lit (.int .i64 0)), (.lit (.int .i64 0))] [(0, 1, (.t 7)), (1, 1, (.t 8))], none⟩, ⟨(some 6), .new (t_solve_claim N) (.agg [(.lit (.int .i64 0)), (.lit (.int .i64 0))]), none⟩, ⟨none, .store 2 (.t 6) (.t 9), none⟩]) (
 .seq (
  .dops 1 [⟨(some 10), .mov (.t 1), none⟩, ⟨(some 11), .mov (.t 2), none⟩, ⟨(some 12), .eq true .pint (.t 10) (.t 11), none⟩, ⟨(some 13), .mov (.t 12), none⟩, ⟨(some 14), .mov (.t 0), (some (13, true))⟩, ⟨(some 15), .nilchk (.t 14), (some (13, true))⟩, ⟨(some 16), .faddr 1 (.t 15), (some (13, true))⟩, ⟨(some 17), .load none (.t 16), (some (13, true))⟩, ⟨(some 18), .load (some 2) (.t 6), (some (13, true))⟩, ⟨(some 19), .lookup (.agg (.struct [(0, none, .pint), (1, none, .pint)])) (.lit (.bool false)) (.t 17) (.t 18) false, (some (13, true))⟩, ⟨(some 20), .un .not (.t 19), (some (13, true))⟩, ⟨(some 21), .pick (.t 13) (.t 20) (.c (.lit (.bool false))), none⟩] [0, 0, 0, 0, 0, 0, 0, 2, 2, 0, 0, 0] []) (
 .cond (.t 21) (
  .seq (
   .dops 2 [⟨(some 22), .mov (.t 0), none⟩, ⟨(some 23), .nilchk (.t 22), none⟩, ⟨(some 24), .faddr 1 (.t 23), none⟩, ⟨(some 25), .load none (.t 24), none⟩, ⟨(some 26), .load (some 2) (.t 6), none⟩, ⟨none, .mapupd (.agg (.struct [(0, none, .pint), (1, none, .pint)])) (.t 25) (.t 26) (.c (.lit (.bool true))), none⟩] [0, 0, 0, 2, 2, 0] []) (
  .dops 3 [⟨(some 27), .mov (.t 0), none⟩, ⟨(some 28), .mov (.t 0), none⟩, ⟨(some 29), .nilchk (.t 28), none⟩, ⟨(some 30), .faddr 2 (.t 29), none⟩, ⟨(some 31), .load none (.t 30), none⟩, ⟨(some 32), .load (some 2) (.t 6), none⟩, ⟨(some 33), .bslice (t_solve_claim N) 2 (some 2) 1 [(.lit (.int .i64 0)), (.lit (.int .i64 0))] [(0, 2, (.t 32))], none⟩, ⟨(some 34), .append (t_solve_claim N) 2 16 (.t 31) (.t 33), none⟩, ⟨(some 35), .nilchk (.t 27), none⟩, ⟨(some 36), .faddr 2 (.t 35), none⟩, ⟨none, .store 1 (.t 36) (.t 34), none⟩] [0, 0, 0, 0, 2, 2, 1, 0, 0, 0, 0] [])) (
  .skip))), false⟩

def L_p_solve_Solver_bind_1 (N : Nat → Nat) : AC :=
    .seq (
     .ops [⟨(some 72), .bin .lss (.t 71) (.t 70), none⟩]) (
    .seq (
     .cond (.t 72) (
      .skip) (
      .exit 0)) (
    .seq (
     .block 1 (
      .seq (
       .ops [⟨(some 73), .iaddr 1 (.t 69) (.t 71), none⟩, ⟨(some 74), .load none (.t 73), none⟩, ⟨(some 13), .mov (.t 74), none⟩]) (
      .seq (
       .ops [⟨(some 75), .mov (.t 3), none⟩]) (
      .cond (.t 75) (
       .ops [⟨(some 76), .mov (.t 0), none⟩, ⟨(some 77), .mov (.t 13), none⟩, ⟨(some 78), .mov (.t 2), none⟩, ⟨(some 79), .call (.c (.fn (f_p_solve_Solver_ask N) [] [])) [(.t 76), (.t 77), (.t 78)], none⟩]) (
       .ops [⟨(some 80), .mov (.t 0), none⟩, ⟨(some 81), .mov (.t 2), none⟩, ⟨(some 82), .mov (.t 13), none⟩, ⟨(some 83), .call (.c (.fn (f_p_solve_Solver_ask N) [] [])) [(.t 80), (.t 81), (.t 82)], none⟩]))))) (
    .ops [⟨(some 84), .bin .add (.t 71) (.c (.lit (.int .i64 1))), none⟩, ⟨(some 71), .mov (.t 84), none⟩])))
def K_p_solve_Solver_bind_1 (N : Nat → Nat) : AC :=
 .seq (
  .ops [⟨(some 8), .mov (.c (.lit (.int .i64 0))), none⟩]) (
 .ret)
/-- (*azimuth/solve.Solver).bind -/
def C_p_solve_Solver_bind (N : Nat → Nat) : AFunc := ⟨85, [.inl 8],
 .seq (
  .ops [⟨(some 8), .mov (.c (.lit (.int .i64 0))), none⟩]) (
 .seq (
  .seq (
   .dops 1 [⟨(some 14), .mov (.t 0), none⟩, ⟨(some 15), .nilchk (.t 14), none⟩, ⟨(some 16), .faddr 0 (.t 15), none⟩, ⟨(some 17), .load none (.t 16), none⟩, ⟨(some 18), .mov (.t 2), none⟩, ⟨(some 20), .mov (.t 0), none⟩, ⟨(some 21), .nilchk (.t 20), none⟩, ⟨(some 22), .faddr 0 (.t 21), none⟩, ⟨(some 23), .load none (.t 22), none⟩, ⟨(some 24), .mov (.t 1), none⟩, ⟨(some 19), .call (.c (.fn (f_p_arena_Arena_Level N) [] [])) [(.t 17), (.t 18)], none⟩, ⟨(some 25), .call (.c (.fn (f_p_arena_Arena_Level N) [] [])) [(.t 23), (.t 24)], none⟩, ⟨(some 26), .bin .gtr (.t 19) (.t 25), none⟩] [0, 0, 0, 2, 0, 0, 0, 0, 2, 0, 1, 0, 0] []) (
  .cond (.t 26) (
   .seq (
    .dops 2 [⟨(some 28), .mov (.t 0), none⟩, ⟨(some 29), .nilchk (.t 28), none⟩, ⟨(some 30), .faddr 0 (.t 29), none⟩, ⟨(some 31), .load none (.t 30), none⟩, ⟨(some 32), .mov (.t 2), none⟩, ⟨(some 33), .mov (.t 0), none⟩, ⟨(some 34), .nilchk (.t 33), none⟩, ⟨(some 35), .faddr 0 (.t 34), none⟩, ⟨(some 36), .load none (.t 35), none⟩, ⟨(some 37), .mov (.t 1), none⟩, ⟨(some 38), .call (.c (.fn (f_p_arena_Arena_Level N) [] [])) [(.t 36), (.t 37)], none⟩, ⟨(some 39), .mov (.t 3), none⟩, ⟨(some 40), .un .not (.t 39), none⟩, ⟨(some 41), .call (.c (.fn (f_solve_Raise N) [] [])) [(.t 31), (.t 32), (.t 38), (.t 40)], none⟩, ⟨(some 27), .mov (.t 41), none⟩, ⟨(some 42), .extract (.t 27) 0, none⟩, ⟨(some 43), .extract (.t 27) 1, none⟩, ⟨(some 9), .mov (.t 42), none⟩, ⟨(some 10), .mov (.t 43), none⟩] [0, 0, 0, 2, 0, 0, 0, 0, 2, 0, 1, 0, 0, 0, 0, 0, 0, 0, 0] []) (
   .seq (
    .seq (
     .ops [⟨(some 44), .mov (.t 10), none⟩, ⟨(some 45), .eq true .pint (.t 44) (.c (.lit (.int .i64 0))), none⟩]) (
    .cond (.t 45) (
     .seq (
      .ops [⟨(some 46), .mov (.t 10), none⟩, ⟨(some 8), .mov (.t 46), none⟩]) (
     .ret)) (
     .skip))) (
   .ops [⟨(some 47), .mov (.t 9), none⟩, ⟨(some 2), .mov (.t 47), none⟩]))) (
   .skip))) (
 .seq (
  .ops [⟨(some 48), .mov (.t 0), none⟩, ⟨(some 49), .nilchk (.t 48), none⟩, ⟨(some 50), .faddr 0 (.t 49), none⟩, ⟨(some 51), .load none (.t 50), none⟩, ⟨(some 52), .mov (.t 1), none⟩, ⟨(some 53), .mov (.t 2), none⟩, ⟨(some 54), .mov (.t 3), none⟩, ⟨(some 55), .call (.c (.fn (f_p_arena_Arena_Bound N) [] [])) [(.t 51), (.t 52), (.t 53), (.t 54)], none⟩]) (
 .seq (
  .ops [⟨(some 56), .mov (.t 0), none⟩, ⟨(some 57), .nilchk (.t 56), none⟩, ⟨(some 58), .faddr 0 (.t 57), none⟩, ⟨(some 59), .load none (.t 58), none⟩, ⟨(some 60), .mov (.t 1), none⟩, ⟨(some 61), .call (.c (.fn (f_p_arena_Arena_High N) [] [])) [(.t 59), (.t 60)], none⟩, ⟨(some 11), .mov (.t 61), none⟩]) (
 .seq (
  .seq (
   .ops [⟨(some 62), .mov (.t 3), none⟩]) (
  .cond (.t 62) (
   .ops [⟨(some 63), .mov (.t 0), none⟩, ⟨(some 64), .nilchk (.t 63), none⟩, ⟨(some 65), .faddr 0 (.t 64), none⟩, ⟨(some 66), .load none (.t 65), none⟩, ⟨(some 67), .mov (.t 1), none⟩, ⟨(some 68), .call (.c (.fn (f_p_arena_Arena_Low N) [] [])) [(.t 66), (.t 67)], none⟩, ⟨(some 11), .mov (.t 68), none⟩]) (
   .skip))) (
 .seq (
  .seq (
   .ops [⟨(some 69), .mov (.t 11), none⟩, ⟨(some 70), .len (.t 69), none⟩, ⟨(some 71), .mov (.c (.lit (.int .i64 0))), none⟩]) (
  .block 0 (
   .loop (L_p_solve_Solver_bind_1 N)))) (K_p_solve_Solver_bind_1 N)))))), false⟩

def L_p_solve_Solver_heads_1 (N : Nat → Nat) : AC :=
          .seq (
           .ops [⟨(some 65), .bin .lss (.t 64) (.t 63), none⟩]) (
          .seq (
           .cond (.t 65) (
            .skip) (
            .exit 1)) (
          .seq (
           .block 2 (
            .seq (
             .ops [⟨(some 66), .mov (.t 64), none⟩, ⟨(some 67), .iaddr 1 (.t 62) (.t 64), none⟩, ⟨(some 68), .load none (.t 67), none⟩, ⟨(some 7), .mov (.t 66), none⟩, ⟨(some 8), .mov (.t 68), none⟩]) (
            .seq (
             .ops [⟨(some 69), .load (some 4) (.t 4), none⟩, ⟨(some 70), .mov (.t 8), none⟩, ⟨(some 71), .call (.c (.fn (f_solve_kid N) [] [])) [(.t 69), (.t 70)], none⟩, ⟨(some 9), .mov (.t 71), none⟩]) (
            .seq (
             .seq (
              .ops [⟨(some 72), .mov (.t 9), none⟩, ⟨(some 73), .bin .lss (.t 72) (.c (.lit (.int .i64 0))), none⟩]) (
             .cond (.t 73) (
              .seq (
               .ops [⟨(some 6), .mov (.c (.lit (.int .i64 10))), none⟩]) (
              .ret)) (
              .skip))) (
            .ops [⟨(some 74), .mov (.t 0), none⟩, ⟨(some 75), .mov (.t 9), none⟩, ⟨(some 76), .faddr 2 (.t 5), none⟩, ⟨(some 77), .load none (.t 76), none⟩, ⟨(some 78), .mov (.t 7), none⟩, ⟨(some 79), .iaddr 1 (.t 77) (.t 78), none⟩, ⟨(some 80), .load none (.t 79), none⟩, ⟨(some 81), .call (.c (.fn (f_p_solve_Solver_ask N) [] [])) [(.t 74), (.t 75), (.t 80)], none⟩]))))) (
          .ops [⟨(some 82), .bin .add (.t 64) (.c (.lit (.int .i64 1))), none⟩, ⟨(some 64), .mov (.t 82), none⟩])))
def K_p_solve_Solver_heads_1 (N : Nat → Nat) : AC :=
 .seq (
  .ops [⟨(some 6), .mov (.c (.lit (.int .i64 0))), none⟩]) (
 .ret)
/-- (*azimuth/solve.Solver).heads -/
def C_p_solve_Solver_heads (N : Nat → Nat) : AFunc := ⟨83, [.inl 6],
 .seq (
  .ops [⟨(some 4), .box (t_api_Head N) (.t 1), none⟩, ⟨(some 5), .box (t_api_Head N) (.t 2), none⟩, ⟨(some 6), .mov (.c (.lit (.int .i64 0))), none⟩]) (
 .seq (
  .block 0 (
   .seq (
    .ops [⟨(some 11), .faddr 0 (.t 4), none⟩, ⟨(some 12), .load none (.t 11), none⟩, ⟨(some 13), .eq false .pint (.t 12) (.c (.lit (.int .i64 6))), none⟩, ⟨(some 14), .mov (.t 13), none⟩, ⟨(some 15), .faddr 0 (.t 5), (some (14, false))⟩, ⟨(some 16), .load none (.t 15), (some (14, false))⟩, ⟨(some 17), .eq false .pint (.t 16) (.c (.lit (.int .i64 5))), (some (14, false))⟩, ⟨(some 18), .pick (.t 14) (.c (.lit (.bool true))) (.t 17), none⟩, ⟨(some 10), .mov (.t 18), none⟩]) (
   .cond (.t 10) (
    .seq (
     .ops [⟨(some 6), .mov (.c (.lit (.int .i64 0))), none⟩]) (
    .ret)) (
    .seq (
     .ops [⟨(some 20), .faddr 0 (.t 4), none⟩, ⟨(some 21), .load none (.t 20), none⟩, ⟨(some 22), .faddr 0 (.t 5), none⟩, ⟨(some 23), .load none (.t 22), none⟩, ⟨(some 24), .eq true .pint (.t 21) (.t 23), none⟩, ⟨(some 19), .mov (.t 24), none⟩]) (
    .cond (.t 19) (
     .seq (
      .ops [⟨(some 6), .mov (.c (.lit (.int .i64 10))), none⟩]) (
     .ret)) (
     .seq (
      .ops [⟨(some 26), .faddr 0 (.t 4), none⟩, ⟨(some 27), .load none (.t 26), none⟩, ⟨(some 28), .eq false .pint (.t 27) (.c (.lit (.int .i64 7))), none⟩, ⟨(some 25), .mov (.t 28), none⟩]) (
     .cond (.t 25) (
      .seq (
       .dops 6 [⟨(some 29), .mov (.t 0), none⟩, ⟨(some 30), .faddr 2 (.t 5), none⟩, ⟨(some 31), .load none (.t 30), none⟩, ⟨(some 32), .iaddr 1 (.t 31) (.c (.lit (.int .i64 0))), none⟩, ⟨(some 33), .load none (.t 32), none⟩, ⟨(some 34), .faddr 2 (.t 4), none⟩, ⟨(some 35), .load none (.t 34), none⟩, ⟨(some 36), .iaddr 1 (.t 35) (.c (.lit (.int .i64 0))), none⟩, ⟨(some 37), .load none (.t 36), none⟩, ⟨(some 38), .call (.c (.fn (f_p_solve_Solver_ask N) [] [])) [(.t 29), (.t 33), (.t 37)], none⟩] [0, 0, 2, 0, 2, 0, 2, 0, 2, 0] []) (
      .dops 7 [⟨(some 39), .mov (.t 0), none⟩, ⟨(some 40), .faddr 2 (.t 4), none⟩, ⟨(some 41), .load none (.t 40), none⟩, ⟨(some 42), .iaddr 1 (.t 41) (.c (.lit (.int .i64 1))), none⟩, ⟨(some 43), .load none (.t 42), none⟩, ⟨(some 44), .faddr 2 (.t 5), none⟩, ⟨(some 45), .load none (.t 44), none⟩, ⟨(some 46), .iaddr 1 (.t 45) (.c (.lit (.int .i64 1))), none⟩, ⟨(some 47), .load none (.t 46), none⟩, ⟨(some 48), .call (.c (.fn (f_p_solve_Solver_ask N) [] [])) [(.t 39), (.t 43), (.t 47)], none⟩] [0, 0, 2, 0, 2, 0, 2, 0, 2, 0] [])) (
      .seq (
       .ops [⟨(some 50), .faddr 0 (.t 4), none⟩, ⟨(some 51), .load none (.t 50), none⟩, ⟨(some 52), .eq false .pint (.t 51) (.c (.lit (.int .i64 9))), none⟩, ⟨(some 49), .mov (.t 52), none⟩]) (
      .cond (.t 49) (
       .seq (
        .ops [⟨(some 53), .mov (.t 0), none⟩, ⟨(some 54), .load (some 4) (.t 4), none⟩, ⟨(some 55), .load (some 4) (.t 5), none⟩, ⟨(some 56), .call (.c (.fn (f_p_solve_Solver_variants N) [] [])) [(.t 53), (.t 54), (.t 55)], none⟩, ⟨(some 6), .mov (.t 56), none⟩]) (
       .ret)) (
       .seq (
        .ops [⟨(some 58), .faddr 0 (.t 4), none⟩, ⟨(some 59), .load none (.t 58), none⟩, ⟨(some 60), .eq false .pint (.t 59) (.c (.lit (.int .i64 8))), none⟩, ⟨(some 57), .mov (.t 60), none⟩]) (
       .cond (.t 57) (
        .seq (
         .ops [⟨(some 61), .faddr 1 (.t 5), none⟩, ⟨(some 62), .load none (.t 61), none⟩, ⟨(some 63), .len (.t 62), none⟩, ⟨(some 64), .mov (.c (.lit (.int .i64 0))), none⟩]) (
        .block 1 (
         .loop (L_p_solve_Solver_heads_1 N)))) (
        .skip)))))))))))) (K_p_solve_Solver_heads_1 N)), false⟩

/-- (*azimuth/solve.Solver).step -/
def C_p_solve_Solver_step (N : Nat → Nat) : AFunc := ⟨94, [.inl 4],
 .seq (
  .ops [⟨(some 3), .box (t_solve_claim N) (.t 1), none⟩, ⟨(some 4), .mov (.c (.lit (.int .i64 0))), none⟩]) (
 .seq (
  .dops 1 [⟨(some 12), .mov (.t 0), none⟩, ⟨(some 13), .nilchk (.t 12), none⟩, ⟨(some 14), .faddr 0 (.t 13), none⟩, ⟨(some 15), .load none (.t 14), none⟩, ⟨(some 16), .faddr 0 (.t 3), none⟩, ⟨(some 17), .load none (.t 16), none⟩, ⟨(some 19), .mov (.t 0), none⟩, ⟨(some 20), .nilchk (.t 19), none⟩, ⟨(some 21), .faddr 0 (.t 20), none⟩, ⟨(some 22), .load none (.t 21), none⟩, ⟨(some 23), .faddr 1 (.t 3), none⟩, ⟨(some 24), .load none (.t 23), none⟩, ⟨(some 18), .call (.c (.fn (f_p_arena_Arena_IsVar N) [] [])) [(.t 15), (.t 17)], none⟩, ⟨(some 25), .call (.c (.fn (f_p_arena_Arena_IsVar N) [] [])) [(.t 22), (.t 24)], none⟩, ⟨(some 5), .mov (.t 18), none⟩, ⟨(some 6), .mov (.t 25), none⟩] [0, 0, 0, 2, 0, 2, 0, 0, 0, 2, 0, 2, 1, 0, 0, 0] []) (
 .seq (
  .block 0 (
   .seq (
    .dops 2 [⟨(some 27), .mov (.t 5), none⟩, ⟨(some 28), .mov (.t 27), none⟩, ⟨(some 29), .mov (.t 6), (some (28, true))⟩, ⟨(some 30), .un .not (.t 29), (some (28, true))⟩, ⟨(some 31), .mov (.t 30), (some (28, true))⟩, ⟨(some 32), .mov (.t 0), (some (31, false))⟩, ⟨(some 33), .nilchk (.t 32), (some (31, false))⟩, ⟨(some 34), .faddr 0 (.t 33), (some (31, false))⟩, ⟨(some 35), .load none (.t 34), (some (31, false))⟩, ⟨(some 36), .faddr 1 (.t 3), (some (31, false))⟩, ⟨(some 37), .load none (.t 36), (some (31, false))⟩, ⟨(some 39), .mov (.t 0), (some (31, false))⟩, ⟨(some 40), .nilchk (.t 39), (some (31, false))⟩, ⟨(some 41), .faddr 0 (.t 40), (some (31, false))⟩, ⟨(some 42), .load none (.t 41), (some (31, false))⟩, ⟨(some 43), .faddr 0 (.t 3), (some (31, false))⟩, ⟨(some 44), .load none (.t 43), (some (31, false))⟩, ⟨(some 38), .call (.c (.fn (f_p_arena_Arena_Level N) [] [])) [(.t 35), (.t 37)], (some (31, false))⟩, ⟨(some 45), .call (.c (.fn (f_p_arena_Arena_Level N) [] [])) [(.t 42), (.t 44)], (some (31, false))⟩, ⟨(some 46), .bin .leq (.t 38) (.t 45), (some (31, false))⟩, ⟨(some 47), .pick (.t 31) (.c (.lit (.bool true))) (.t 46), (some (28, true))⟩, ⟨(some 48), .pick (.t 28) (.t 47) (.c (.lit (.bool false))), none⟩, ⟨(some 26), .mov (.t 48), none⟩] [0, 0, 0, 0, 0, 0, 0, 0, 2, 0, 2, 0, 0, 0, 2, 0, 2, 1, 0, 0, 0, 0, 0] []) (
   .cond (.t 26) (
    .seq (
     .ops [⟨(some 49), .mov (.t 0), none⟩, ⟨(some 50), .faddr 0 (.t 3), none⟩, ⟨(some 51), .load none (.t 50), none⟩, ⟨(some 52), .faddr 1 (.t 3), none⟩, ⟨(some 53), .load none (.t 52), none⟩, ⟨(some 54), .call (.c (.fn (f_p_solve_Solver_bind N) [] [])) [(.t 49), (.t 51), (.t 53), (.c (.lit (.bool true)))], none⟩, ⟨(some 4), .mov (.t 54), none⟩]) (
    .ret)) (
    .seq (
     .ops [⟨(some 56), .mov (.t 6), none⟩, ⟨(some 55), .mov (.t 56), none⟩]) (
    .cond (.t 55) (
     .seq (
      .ops [⟨(some 57), .mov (.t 0), none⟩, ⟨(some 58), .faddr 1 (.t 3), none⟩, ⟨(some 59), .load none (.t 58), none⟩, ⟨(some 60), .faddr 0 (.t 3), none⟩, ⟨(some 61), .load none (.t 60), none⟩, ⟨(some 62), .call (.c (.fn (f_p_solve_Solver_bind N) [] [])) [(.t 57), (.t 59), (.t 61), (.c (.lit (.bool false)))], none⟩, ⟨(some 4), .mov (.t 62), none⟩]) (
     .ret)) (
     .skip)))))) (
 .seq (
  .dops 6 [⟨(some 64), .mov (.t 0), none⟩, ⟨(some 65), .nilchk (.t 64), none⟩, ⟨(some 66), .faddr 0 (.t 65), none⟩, ⟨(some 67), .load none (.t 66), none⟩, ⟨(some 68), .faddr 0 (.t 3), none⟩, ⟨(some 69), .load none (.t 68), none⟩, ⟨(some 70), .call (.c (.fn (f_p_arena_Arena_At N) [] [])) [(.t 67), (.t 69)], none⟩, ⟨(some 63), .mov (.t 70), none⟩, ⟨(some 71), .extract (.t 63) 0, none⟩, ⟨(some 72), .extract (.t 63) 1, none⟩, ⟨(some 7), .new (t_api_Head N) (.agg [(.lit (.int .i64 0)), (.lit (.slice none 0 0)), (.lit (.slice none 0 0)), (.lit (.bool false))]), none⟩, ⟨none, .store 4 (.t 7) (.t 71), none⟩, ⟨(some 8), .mov (.t 72), none⟩] [0, 0, 0, 2, 0, 2, 0, 0, 0, 0, 1, 0, 0] []) (
 .seq (
  .dops 7 [⟨(some 74), .mov (.t 0), none⟩, ⟨(some 75), .nilchk (.t 74), none⟩, ⟨(some 76), .faddr 0 (.t 75), none⟩, ⟨(some 77), .load none (.t 76), none⟩, ⟨(some 78), .faddr 1 (.t 3), none⟩, ⟨(some 79), .load none (.t 78), none⟩, ⟨(some 80), .call (.c (.fn (f_p_arena_Arena_At N) [] [])) [(.t 77), (.t 79)], none⟩, ⟨(some 73), .mov (.t 80), none⟩, ⟨(some 81), .extract (.t 73) 0, none⟩, ⟨(some 82), .extract (.t 73) 1, none⟩, ⟨(some 9), .new (t_api_Head N) (.agg [(.lit (.int .i64 0)), (.lit (.slice none 0 0)), (.lit (.slice none 0 0)), (.lit (.bool false))]), none⟩, ⟨none, .store 4 (.t 9) (.t 81), none⟩, ⟨(some 10), .mov (.t 82), none⟩] [0, 0, 0, 2, 0, 2, 0, 0, 0, 0, 1, 0, 0] []) (
 .seq (
  .ops [⟨(some 83), .mov (.t 0), none⟩, ⟨(some 84), .load (some 4) (.t 7), none⟩, ⟨(some 85), .load (some 4) (.t 9), none⟩, ⟨(some 86), .call (.c (.fn (f_p_solve_Solver_heads N) [] [])) [(.t 83), (.t 84), (.t 85)], none⟩, ⟨(some 11), .mov (.t 86), none⟩]) (
 .seq (
  .seq (
   .ops [⟨(some 87), .mov (.t 11), none⟩, ⟨(some 88), .eq false .pint (.t 87) (.c (.lit (.int .i64 10))), none⟩]) (
  .cond (.t 88) (
   .ops [⟨(some 89), .mov (.t 0), none⟩, ⟨(some 90), .load (some 2) (.t 3), none⟩, ⟨(some 91), .nilchk (.t 89), none⟩, ⟨(some 92), .faddr 6 (.t 91), none⟩, ⟨none, .store 2 (.t 92) (.t 90), none⟩]) (
   .skip))) (
 .seq (
  .ops [⟨(some 93), .mov (.t 11), none⟩, ⟨(some 4), .mov (.t 93), none⟩]) (
 .ret)))))))), false⟩

def L_p_solve_Solver_variants_1 (N : Nat → Nat) : AC :=
    .seq (
     .ops [⟨(some 25), .bin .lss (.t 24) (.t 23), none⟩]) (
    .seq (
     .cond (.t 25) (
      .skip) (
      .exit 0)) (
    .seq (
     .block 1 (
      .seq (
       .ops [⟨(some 26), .mov (.t 24), none⟩, ⟨(some 27), .iaddr 1 (.t 22) (.t 24), none⟩, ⟨(some 28), .load none (.t 27), none⟩, ⟨(some 7), .mov (.t 26), none⟩, ⟨(some 8), .mov (.t 28), none⟩]) (
      .seq (
       .ops [⟨(some 29), .load (some 4) (.t 5), none⟩, ⟨(some 30), .mov (.t 8), none⟩, ⟨(some 31), .call (.c (.fn (f_solve_kid N) [] [])) [(.t 29), (.t 30)], none⟩, ⟨(some 9), .mov (.t 31), none⟩]) (
      .seq (
       .seq (
        .ops [⟨(some 32), .mov (.t 9), none⟩, ⟨(some 33), .bin .lss (.t 32) (.c (.lit (.int .i64 0))), none⟩, ⟨(some 34), .mov (.t 33), none⟩, ⟨(some 35), .faddr 3 (.t 5), (some (34, true))⟩, ⟨(some 36), .load none (.t 35), (some (34, true))⟩, ⟨(some 37), .un .not (.t 36), (some (34, true))⟩, ⟨(some 38), .pick (.t 34) (.t 37) (.c (.lit (.bool false))), none⟩]) (
       .cond (.t 38) (
        .seq (
         .ops [⟨(some 6), .mov (.c (.lit (.int .i64 10))), none⟩]) (
        .ret)) (
        .skip))) (
      .seq (
       .ops [⟨(some 39), .mov (.t 9), none⟩, ⟨(some 40), .bin .geq (.t 39) (.c (.lit (.int .i64 0))), none⟩]) (
      .cond (.t 40) (
       .ops [⟨(some 41), .mov (.t 0), none⟩, ⟨(some 42), .faddr 2 (.t 4), none⟩, ⟨(some 43), .load none (.t 42), none⟩, ⟨(some 44), .mov (.t 7), none⟩, ⟨(some 45), .iaddr 1 (.t 43) (.t 44), none⟩, ⟨(some 46), .load none (.t 45), none⟩, ⟨(some 47), .mov (.t 9), none⟩, ⟨(some 48), .call (.c (.fn (f_p_solve_Solver_ask N) [] [])) [(.t 41), (.t 46), (.t 47)], none⟩]) (
       .skip))))))) (
    .ops [⟨(some 49), .bin .add (.t 24) (.c (.lit (.int .i64 1))), none⟩, ⟨(some 24), .mov (.t 49), none⟩])))
def L_p_solve_Solver_variants_2 (N : Nat → Nat) : AC :=
    .seq (
     .ops [⟨(some 54), .bin .lss (.t 53) (.t 52), none⟩]) (
    .seq (
     .cond (.t 54) (
      .skip) (
      .exit 2)) (
    .seq (
     .block 3 (
      .seq (
       .ops [⟨(some 55), .mov (.t 53), none⟩, ⟨(some 56), .iaddr 1 (.t 51) (.t 53), none⟩, ⟨(some 57), .load none (.t 56), none⟩, ⟨(some 10), .mov (.t 55), none⟩, ⟨(some 11), .mov (.t 57), none⟩]) (
      .seq (
       .seq (
        .ops [⟨(some 58), .faddr 3 (.t 4), none⟩, ⟨(some 59), .load none (.t 58), none⟩, ⟨(some 60), .un .not (.t 59), none⟩, ⟨(some 61), .mov (.t 60), none⟩, ⟨(some 62), .load (some 4) (.t 4), (some (61, false))⟩, ⟨(some 63), .mov (.t 11), (some (61, false))⟩, ⟨(some 64), .call (.c (.fn (f_solve_kid N) [] [])) [(.t 62), (.t 63)], (some (61, false))⟩, ⟨(some 65), .bin .geq (.t 64) (.c (.lit (.int .i64 0))), (some (61, false))⟩, ⟨(some 66), .pick (.t 61) (.c (.lit (.bool true))) (.t 65), none⟩]) (
       .cond (.t 66) (
        .exit 3) (
        .skip))) (
      .seq (
       .ops [⟨(some 68), .mov (.t 0), none⟩, ⟨(some 69), .call (.c (.fn (f_p_solve_Solver_any N) [] [])) [(.t 68)], none⟩, ⟨(some 67), .mov (.t 69), none⟩, ⟨(some 70), .extract (.t 67) 0, none⟩, ⟨(some 71), .extract (.t 67) 1, none⟩, ⟨(some 12), .mov (.t 70), none⟩, ⟨(some 13), .mov (.t 71), none⟩]) (
      .seq (
       .seq (
        .ops [⟨(some 72), .mov (.t 13), none⟩, ⟨(some 73), .eq true .pint (.t 72) (.c (.lit (.int .i64 0))), none⟩]) (
       .cond (.t 73) (
        .seq (
         .ops [⟨(some 74), .mov (.t 13), none⟩, ⟨(some 6), .mov (.t 74), none⟩]) (
        .ret)) (
        .skip))) (
      .ops [⟨(some 75), .mov (.t 0), none⟩, ⟨(some 76), .mov (.t 12), none⟩, ⟨(some 77), .faddr 2 (.t 5), none⟩, ⟨(some 78), .load none (.t 77), none⟩, ⟨(some 79), .mov (.t 10), none⟩, ⟨(some 80), .iaddr 1 (.t 78) (.t 79), none⟩, ⟨(some 81), .load none (.t 80), none⟩, ⟨(some 82), .call (.c (.fn (f_p_solve_Solver_ask N) [] [])) [(.t 75), (.t 76), (.t 81)], none⟩])))))) (
    .ops [⟨(some 83), .bin .add (.t 53) (.c (.lit (.int .i64 1))), none⟩, ⟨(some 53), .mov (.t 83), none⟩])))
def K_p_solve_Solver_variants_2 (N : Nat → Nat) : AC :=
 .seq (
  .ops [⟨(some 6), .mov (.c (.lit (.int .i64 0))), none⟩]) (
 .ret)
def K_p_solve_Solver_variants_1 (N : Nat → Nat) : AC :=
 .seq (
  .seq (
   .ops [⟨(some 50), .faddr 1 (.t 5), none⟩, ⟨(some 51), .load none (.t 50), none⟩, ⟨(some 52), .len (.t 51), none⟩, ⟨(some 53), .mov (.c (.lit (.int .i64 0))), none⟩]) (
  .block 2 (
   .loop (L_p_solve_Solver_variants_2 N)))) (K_p_solve_Solver_variants_2 N)
/-- (*azimuth/solve.Solver).variants -/
def C_p_solve_Solver_variants (N : Nat → Nat) : AFunc := ⟨84, [.inl 6],
 .seq (
  .ops [⟨(some 4), .box (t_api_Head N) (.t 1), none⟩, ⟨(some 5), .box (t_api_Head N) (.t 2), none⟩, ⟨(some 6), .mov (.c (.lit (.int .i64 0))), none⟩]) (
 .seq (
  .seq (
   .ops [⟨(some 14), .faddr 3 (.t 4), none⟩, ⟨(some 15), .load none (.t 14), none⟩, ⟨(some 16), .mov (.t 15), none⟩, ⟨(some 17), .faddr 3 (.t 5), (some (16, true))⟩, ⟨(some 18), .load none (.t 17), (some (16, true))⟩, ⟨(some 19), .un .not (.t 18), (some (16, true))⟩, ⟨(some 20), .pick (.t 16) (.t 19) (.c (.lit (.bool false))), none⟩]) (
  .cond (.t 20) (
   .seq (
    .ops [⟨(some 6), .mov (.c (.lit (.int .i64 10))), none⟩]) (
   .ret)) (
   .skip))) (
 .seq (
  .seq (
   .ops [⟨(some 21), .faddr 1 (.t 4), none⟩, ⟨(some 22), .load none (.t 21), none⟩, ⟨(some 23), .len (.t 22), none⟩, ⟨(some 24), .mov (.c (.lit (.int .i64 0))), none⟩]) (
  .block 0 (
   .loop (L_p_solve_Solver_variants_1 N)))) (K_p_solve_Solver_variants_1 N))), false⟩

def L_p_solve_raiser_part_1 (N : Nat → Nat) : AC :=
    .seq (
     .ops [⟨(some 51), .bin .lss (.t 50) (.t 49), none⟩]) (
    .seq (
     .cond (.t 51) (
      .skip) (
      .exit 0)) (
    .seq (
     .block 1 (
      .seq (
       .ops [⟨(some 52), .mov (.t 50), none⟩, ⟨(some 53), .iaddr 1 (.t 48) (.t 50), none⟩, ⟨(some 54), .load none (.t 53), none⟩, ⟨(some 10), .mov (.t 52), none⟩, ⟨(some 11), .mov (.t 54), none⟩]) (
      .seq (
       .ops [⟨(some 56), .mov (.t 0), none⟩, ⟨(some 57), .mov (.t 11), none⟩, ⟨(some 58), .mov (.t 2), none⟩, ⟨(some 59), .faddr 0 (.t 8), none⟩, ⟨(some 60), .load none (.t 59), none⟩, ⟨(some 61), .eq false .pint (.t 60) (.c (.lit (.int .i64 7))), none⟩, ⟨(some 62), .mov (.t 61), none⟩, ⟨(some 63), .mov (.t 10), (some (62, true))⟩, ⟨(some 64), .eq false .pint (.t 63) (.c (.lit (.int .i64 0))), (some (62, true))⟩, ⟨(some 65), .pick (.t 62) (.t 64) (.c (.lit (.bool false))), none⟩, ⟨(some 66), .eq true .pbool (.t 58) (.t 65), none⟩, ⟨(some 67), .call (.c (.fn (f_p_solve_raiser_part N) [] [])) [(.t 56), (.t 57), (.t 66)], none⟩, ⟨(some 55), .mov (.t 67), none⟩, ⟨(some 68), .extract (.t 55) 0, none⟩, ⟨(some 69), .extract (.t 55) 1, none⟩, ⟨(some 12), .mov (.t 68), none⟩, ⟨(some 13), .mov (.t 69), none⟩]) (
      .seq (
       .seq (
        .ops [⟨(some 70), .mov (.t 13), none⟩, ⟨(some 71), .eq true .pint (.t 70) (.c (.lit (.int .i64 0))), none⟩]) (
       .cond (.t 71) (
        .seq (
         .ops [⟨(some 72), .mov (.t 13), none⟩, ⟨(some 6), .mov (.c (.lit (.int .i64 0))), none⟩, ⟨(some 7), .mov (.t 72), none⟩]) (
        .ret)) (
        .skip))) (
      .ops [⟨(some 73), .faddr 2 (.t 8), none⟩, ⟨(some 74), .load none (.t 73), none⟩, ⟨(some 75), .mov (.t 10), none⟩, ⟨(some 76), .mov (.t 12), none⟩, ⟨(some 77), .iaddr 1 (.t 74) (.t 75), none⟩, ⟨none, .store 1 (.t 77) (.t 76), none⟩]))))) (
    .ops [⟨(some 78), .bin .add (.t 50) (.c (.lit (.int .i64 1))), none⟩, ⟨(some 50), .mov (.t 78), none⟩])))
def K_p_solve_raiser_part_1 (N : Nat → Nat) : AC :=
 .seq (
  .dops 14 [⟨(some 79), .mov (.t 0), none⟩, ⟨(some 80), .nilchk (.t 79), none⟩, ⟨(some 81), .faddr 0 (.t 80), none⟩, ⟨(some 82), .load none (.t 81), none⟩, ⟨(some 83), .load (some 4) (.t 8), none⟩, ⟨(some 84), .call (.c (.fn (f_p_arena_Arena_Head N) [] [])) [(.t 82), (.t 83)], none⟩, ⟨(some 85), .extract (.t 84) 0, none⟩, ⟨(some 86), .extract (.t 84) 1, none⟩, ⟨(some 6), .mov (.t 85), none⟩, ⟨(some 7), .mov (.t 86), none⟩] [0, 0, 0, 2, 2, 0, 0, 0, 0, 0] []) (
 .ret)
/-- (*azimuth/solve.raiser).part -/
def C_p_solve_raiser_part (N : Nat → Nat) : AFunc := ⟨87, [.inl 6, .inl 7],
 .seq (
  .ops [⟨(some 6), .mov (.c (.lit (.int .i64 0))), none⟩, ⟨(some 7), .mov (.c (.lit (.int .i64 0))), none⟩]) (
 .seq (
  .seq (
   .dops 1 [⟨(some 14), .mov (.t 0), none⟩, ⟨(some 15), .nilchk (.t 14), none⟩, ⟨(some 16), .faddr 0 (.t 15), none⟩, ⟨(some 17), .load none (.t 16), none⟩, ⟨(some 18), .mov (.t 1), none⟩, ⟨(some 20), .mov (.t 0), none⟩, ⟨(some 21), .nilchk (.t 20), none⟩, ⟨(some 22), .faddr 1 (.t 21), none⟩, ⟨(some 23), .load none (.t 22), none⟩, ⟨(some 19), .call (.c (.fn (f_p_arena_Arena_Level N) [] [])) [(.t 17), (.t 18)], none⟩, ⟨(some 24), .bin .leq (.t 19) (.t 23), none⟩] [0, 0, 0, 2, 0, 0, 0, 0, 2, 1, 0] []) (
  .cond (.t 24) (
   .seq (
    .ops [⟨(some 25), .mov (.t 1), none⟩, ⟨(some 6), .mov (.t 25), none⟩, ⟨(some 7), .mov (.c (.lit (.int .i64 0))), none⟩]) (
   .ret)) (
   .skip))) (
 .seq (
  .seq (
   .ops [⟨(some 26), .mov (.t 0), none⟩, ⟨(some 27), .nilchk (.t 26), none⟩, ⟨(some 28), .faddr 0 (.t 27), none⟩, ⟨(some 29), .load none (.t 28), none⟩, ⟨(some 30), .mov (.t 1), none⟩, ⟨(some 31), .call (.c (.fn (f_p_arena_Arena_IsVar N) [] [])) [(.t 29), (.t 30)], none⟩]) (
  .cond (.t 31) (
   .seq (
    .ops [⟨(some 32), .mov (.t 0), none⟩, ⟨(some 33), .mov (.t 1), none⟩, ⟨(some 34), .mov (.t 2), none⟩, ⟨(some 35), .call (.c (.fn (f_p_solve_raiser_variable N) [] [])) [(.t 32), (.t 33), (.t 34)], none⟩, ⟨(some 36), .extract (.t 35) 0, none⟩, ⟨(some 37), .extract (.t 35) 1, none⟩, ⟨(some 6), .mov (.t 36), none⟩, ⟨(some 7), .mov (.t 37), none⟩]) (
   .ret)) (
   .skip))) (
 .seq (
  .ops [⟨(some 39), .mov (.t 0), none⟩, ⟨(some 40), .nilchk (.t 39), none⟩, ⟨(some 41), .faddr 0 (.t 40), none⟩, ⟨(some 42), .load none (.t 41), none⟩, ⟨(some 43), .mov (.t 1), none⟩, ⟨(some 44), .call (.c (.fn (f_p_arena_Arena_At N) [] [])) [(.t 42), (.t 43)], none⟩, ⟨(some 38), .mov (.t 44), none⟩, ⟨(some 45), .extract (.t 38) 0, none⟩, ⟨(some 46), .extract (.t 38) 1, none⟩, ⟨(some 8), .new (t_api_Head N) (.agg [(.lit (.int .i64 0)), (.lit (.slice none 0 0)), (.lit (.slice none 0 0)), (.lit (.bool false))]), none⟩, ⟨none, .store 4 (.t 8) (.t 45), none⟩, ⟨(some 9), .mov (.t 46), none⟩]) (
 .seq (
  .seq (
   .ops [⟨(some 47), .faddr 2 (.t 8), none⟩, ⟨(some 48), .load none (.t 47), none⟩, ⟨(some 49), .len (.t 48), none⟩, ⟨(some 50), .mov (.c (.lit (.int .i64 0))), none⟩]) (
  .block 0 (
   .loop (L_p_solve_raiser_part_1 N)))) (K_p_solve_raiser_part_1 N))))), false⟩

def L_p_solve_raiser_variable_1 (N : Nat → Nat) : AC :=
    .seq (
     .ops [⟨(some 78), .bin .lss (.t 77) (.t 76), none⟩]) (
    .seq (
     .cond (.t 78) (
      .skip) (
      .exit 0)) (
    .seq (
     .block 1 (
      .seq (
       .ops [⟨(some 79), .iaddr 1 (.t 75) (.t 77), none⟩, ⟨(some 80), .load none (.t 79), none⟩, ⟨(some 15), .mov (.t 80), none⟩]) (
      .seq (
       .ops [⟨(some 82), .mov (.t 0), none⟩, ⟨(some 83), .mov (.t 15), none⟩, ⟨(some 84), .mov (.t 2), none⟩, ⟨(some 85), .call (.c (.fn (f_p_solve_raiser_part N) [] [])) [(.t 82), (.t 83), (.t 84)], none⟩, ⟨(some 81), .mov (.t 85), none⟩, ⟨(some 86), .extract (.t 81) 0, none⟩, ⟨(some 87), .extract (.t 81) 1, none⟩, ⟨(some 16), .mov (.t 86), none⟩, ⟨(some 17), .mov (.t 87), none⟩]) (
      .seq (
       .seq (
        .ops [⟨(some 88), .mov (.t 17), none⟩, ⟨(some 89), .eq true .pint (.t 88) (.c (.lit (.int .i64 0))), none⟩]) (
       .cond (.t 89) (
        .seq (
         .ops [⟨(some 90), .mov (.t 17), none⟩, ⟨(some 6), .mov (.c (.lit (.int .i64 0))), none⟩, ⟨(some 7), .mov (.t 90), none⟩]) (
        .ret)) (
        .skip))) (
      .ops [⟨(some 91), .mov (.t 0), none⟩, ⟨(some 92), .nilchk (.t 91), none⟩, ⟨(some 93), .faddr 0 (.t 92), none⟩, ⟨(some 94), .load none (.t 93), none⟩, ⟨(some 95), .mov (.t 11), none⟩, ⟨(some 96), .mov (.t 16), none⟩, ⟨(some 97), .mov (.t 2), none⟩, ⟨(some 98), .un .not (.t 97), none⟩, ⟨(some 99), .call (.c (.fn (f_p_arena_Arena_Bound N) [] [])) [(.t 94), (.t 95), (.t 96), (.t 98)], none⟩]))))) (
    .ops [⟨(some 100), .bin .add (.t 77) (.c (.lit (.int .i64 1))), none⟩, ⟨(some 77), .mov (.t 100), none⟩])))
def K_p_solve_raiser_variable_1 (N : Nat → Nat) : AC :=
 .seq (
  .ops [⟨(some 101), .mov (.t 11), none⟩, ⟨(some 6), .mov (.t 101), none⟩, ⟨(some 7), .mov (.c (.lit (.int .i64 0))), none⟩]) (
 .ret)
/-- (*azimuth/solve.raiser).variable -/
def C_p_solve_raiser_variable (N : Nat → Nat) : AFunc := ⟨102, [.inl 6, .inl 7],
 .seq (
  .ops [⟨(some 6), .mov (.c (.lit (.int .i64 0))), none⟩, ⟨(some 7), .mov (.c (.lit (.int .i64 0))), none⟩]) (
 .seq (
  .ops [⟨(some 18), .mov (.t 1), none⟩, ⟨(some 19), .mov (.t 2), none⟩, ⟨(some 20), .call (.c (.fn (f_solve_way N) [] [])) [(.t 19)], none⟩, ⟨(some 21), .build [(.lit (.int .i64 0)), (.lit (.int .i64 0))] [(0, 1, (.t 18)), (1, 1, (.t 20))], none⟩, ⟨(some 8), .new (t_solve_claim N) (.agg [(.lit (.int .i64 0)), (.lit (.int .i64 0))]), none⟩, ⟨none, .store 2 (.t 8) (.t 21), none⟩]) (
 .seq (
  .seq (
   .dops 2 [⟨(some 23), .mov (.t 0), none⟩, ⟨(some 24), .nilchk (.t 23), none⟩, ⟨(some 25), .faddr 2 (.t 24), none⟩, ⟨(some 26), .load none (.t 25), none⟩, ⟨(some 27), .load (some 2) (.t 8), none⟩, ⟨(some 28), .lookup (.agg (.struct [(0, none, .pint), (1, none, .pint)])) (.lit (.int .i64 0)) (.t 26) (.t 27) true, none⟩, ⟨(some 22), .mov (.t 28), none⟩, ⟨(some 29), .extract (.t 22) 0, none⟩, ⟨(some 30), .extract (.t 22) 1, none⟩, ⟨(some 9), .mov (.t 29), none⟩, ⟨(some 10), .mov (.t 30), none⟩] [0, 0, 0, 2, 2, 0, 0, 0, 0, 0, 0] []) (
  .seq (
   .ops [⟨(some 31), .mov (.t 10), none⟩]) (
  .cond (.t 31) (
   .seq (
    .ops [⟨(some 32), .mov (.t 9), none⟩, ⟨(some 6), .mov (.t 32), none⟩, ⟨(some 7), .mov (.c (.lit (.int .i64 0))), none⟩]) (
   .ret)) (
   .skip)))) (
 .seq (
  .dops 5 [⟨(some 34), .mov (.t 0), none⟩, ⟨(some 35), .nilchk (.t 34), none⟩, ⟨(some 36), .faddr 0 (.t 35), none⟩, ⟨(some 37), .load none (.t 36), none⟩, ⟨(some 38), .mov (.t 0), none⟩, ⟨(some 39), .nilchk (.t 38), none⟩, ⟨(some 40), .faddr 1 (.t 39), none⟩, ⟨(some 41), .load none (.t 40), none⟩, ⟨(some 42), .call (.c (.fn (f_p_arena_Arena_Var N) [] [])) [(.t 37), (.t 41)], none⟩, ⟨(some 33), .mov (.t 42), none⟩, ⟨(some 43), .extract (.t 33) 0, none⟩, ⟨(some 44), .extract (.t 33) 1, none⟩, ⟨(some 11), .mov (.t 43), none⟩, ⟨(some 12), .mov (.t 44), none⟩] [0, 0, 0, 2, 0, 0, 0, 2, 0, 0, 0, 0, 0, 0] []) (
 .seq (
  .seq (
   .ops [⟨(some 45), .mov (.t 12), none⟩, ⟨(some 46), .eq true .pint (.t 45) (.c (.lit (.int .i64 0))), none⟩]) (
  .cond (.t 46) (
   .seq (
    .ops [⟨(some 47), .mov (.t 12), none⟩, ⟨(some 6), .mov (.c (.lit (.int .i64 0))), none⟩, ⟨(some 7), .mov (.t 47), none⟩]) (
   .ret)) (
   .skip))) (
 .seq (
  .dops 8 [⟨(some 48), .mov (.t 0), none⟩, ⟨(some 49), .nilchk (.t 48), none⟩, ⟨(some 50), .faddr 2 (.t 49), none⟩, ⟨(some 51), .load none (.t 50), none⟩, ⟨(some 52), .load (some 2) (.t 8), none⟩, ⟨(some 53), .mov (.t 11), none⟩, ⟨none, .mapupd (.agg (.struct [(0, none, .pint), (1, none, .pint)])) (.t 51) (.t 52) (.t 53), none⟩] [0, 0, 0, 2, 2, 0, 0] []) (
 .seq (
  .ops [⟨(some 54), .mov (.t 0), none⟩, ⟨(some 55), .nilchk (.t 54), none⟩, ⟨(some 56), .faddr 0 (.t 55), none⟩, ⟨(some 57), .load none (.t 56), none⟩, ⟨(some 58), .mov (.t 1), none⟩, ⟨(some 59), .call (.c (.fn (f_p_arena_Arena_High N) [] [])) [(.t 57), (.t 58)], none⟩, ⟨(some 13), .mov (.t 59), none⟩]) (
 .seq (
  .seq (
   .ops [⟨(some 60), .mov (.t 2), none⟩]) (
  .cond (.t 60) (
   .ops [⟨(some 61), .mov (.t 0), none⟩, ⟨(some 62), .nilchk (.t 61), none⟩, ⟨(some 63), .faddr 0 (.t 62), none⟩, ⟨(some 64), .load none (.t 63), none⟩, ⟨(some 65), .mov (.t 1), none⟩, ⟨(some 66), .call (.c (.fn (f_p_arena_Arena_Low N) [] [])) [(.t 64), (.t 65)], none⟩, ⟨(some 13), .mov (.t 66), none⟩]) (
   .skip))) (
 .seq (
  .ops [⟨(some 67), .mov (.t 0), none⟩, ⟨(some 68), .nilchk (.t 67), none⟩, ⟨(some 69), .faddr 0 (.t 68), none⟩, ⟨(some 70), .load none (.t 69), none⟩, ⟨(some 71), .mov (.t 1), none⟩, ⟨(some 72), .mov (.t 11), none⟩, ⟨(some 73), .mov (.t 2), none⟩, ⟨(some 74), .call (.c (.fn (f_p_arena_Arena_Bound N) [] [])) [(.t 70), (.t 71), (.t 72), (.t 73)], none⟩]) (
 .seq (
  .seq (
   .ops [⟨(some 75), .mov (.t 13), none⟩, ⟨(some 76), .len (.t 75), none⟩, ⟨(some 77), .mov (.c (.lit (.int .i64 0))), none⟩]) (
  .block 0 (
   .loop (L_p_solve_raiser_variable_1 N)))) (K_p_solve_raiser_variable_1 N)))))))))), false⟩

/-- azimuth/solve.New -/
def C_solve_New (N : Nat → Nat) : AFunc := ⟨9, [.inl 2],
 .seq (
  .ops [⟨(some 2), .mov (.c (.lit (.pointer none))), none⟩]) (
 .seq (
  .seq (
   .ops [⟨(some 3), .mov (.t 0), none⟩, ⟨(some 4), .eq false .pptr (.t 3) (.c (.lit (.pointer none))), none⟩]) (
  .cond (.t 4) (
   .seq (
    .ops [⟨(some 2), .mov (.c (.lit (.pointer none))), none⟩]) (
   .ret)) (
   .skip))) (
 .seq (
  .ops [⟨(some 5), .mov (.t 0), none⟩, ⟨(some 6), .mkmap, none⟩, ⟨(some 7), .build [(.lit (.pointer none)), (.lit (.map none)), (.lit (.slice none 0 0)), (.lit (.int .i64 0)), (.lit (.int .i64 0)), (.lit (.int .i64 0)), (.lit (.int .i64 0)), (.lit (.int .i64 0))] [(0, 1, (.t 5)), (1, 1, (.t 6)), (3, 1, (.c (.lit (.int .i64 (-1)))))], none⟩, ⟨(some 8), .box (t_solve_Solver N) (.t 7), none⟩, ⟨(some 2), .mov (.t 8), none⟩]) (
 .ret))), false⟩

/-- azimuth/solve.Raise -/
def C_solve_Raise (N : Nat → Nat) : AFunc := ⟨36, [.inl 8, .inl 9],
 .seq (
  .ops [⟨(some 8), .mov (.c (.lit (.int .i64 0))), none⟩, ⟨(some 9), .mov (.c (.lit (.int .i64 0))), none⟩]) (
 .seq (
  .seq (
   .ops [⟨(some 10), .mov (.t 0), none⟩, ⟨(some 11), .eq false .pptr (.t 10) (.c (.lit (.pointer none))), none⟩, ⟨(some 12), .mov (.t 11), none⟩, ⟨(some 13), .mov (.t 1), (some (12, false))⟩, ⟨(some 14), .bin .lss (.t 13) (.c (.lit (.int .i64 0))), (some (12, false))⟩, ⟨(some 15), .pick (.t 12) (.c (.lit (.bool true))) (.t 14), none⟩, ⟨(some 16), .mov (.t 15), none⟩, ⟨(some 17), .mov (.t 1), (some (16, false))⟩, ⟨(some 18), .mov (.t 0), (some (16, false))⟩, ⟨(some 19), .call (.c (.fn (f_p_arena_Arena_Len N) [] [])) [(.t 18)], (some (16, false))⟩, ⟨(some 20), .bin .geq (.t 17) (.t 19), (some (16, false))⟩, ⟨(some 21), .pick (.t 16) (.c (.lit (.bool true))) (.t 20), none⟩, ⟨(some 22), .mov (.t 21), none⟩, ⟨(some 23), .mov (.t 2), (some (22, false))⟩, ⟨(some 24), .bin .lss (.t 23) (.c (.lit (.int .i64 0))), (some (22, false))⟩, ⟨(some 25), .pick (.t 22) (.c (.lit (.bool true))) (.t 24), none⟩]) (
  .cond (.t 25) (
   .seq (
    .ops [⟨(some 8), .mov (.c (.lit (.int .i64 0))), none⟩, ⟨(some 9), .mov (.c (.lit (.int .i64 1))), none⟩]) (
   .ret)) (
   .skip))) (
 .seq (
  .ops [⟨(some 26), .mov (.t 0), none⟩, ⟨(some 27), .mov (.t 2), none⟩, ⟨(some 28), .mkmap, none⟩, ⟨(some 29), .build [(.lit (.pointer none)), (.lit (.int .i64 0)), (.lit (.map none))] [(0, 1, (.t 26)), (1, 1, (.t 27)), (2, 1, (.t 28))], none⟩, ⟨(some 30), .box (t_solve_raiser N) (.t 29), none⟩, ⟨(some 31), .mov (.t 1), none⟩, ⟨(some 32), .mov (.t 3), none⟩, ⟨(some 33), .call (.c (.fn (f_p_solve_raiser_part N) [] [])) [(.t 30), (.t 31), (.t 32)], none⟩, ⟨(some 34), .extract (.t 33) 0, none⟩, ⟨(some 35), .extract (.t 33) 1, none⟩, ⟨(some 8), .mov (.t 34), none⟩, ⟨(some 9), .mov (.t 35), none⟩]) (
 .ret))), false⟩

/-- azimuth/solve.kid -/
def C_solve_kid (N : Nat → Nat) : AFunc := ⟨21, [.inl 4],
 .seq (
  .ops [⟨(some 2), .box (t_api_Head N) (.t 0), none⟩, ⟨(some 4), .mov (.c (.lit (.int .i64 0))), none⟩]) (
 .seq (
  .ops [⟨(some 8), .faddr 1 (.t 2), none⟩, ⟨(some 9), .load none (.t 8), none⟩, ⟨(some 10), .mov (.t 1), none⟩, ⟨(some 11), .call (.c (.fn (f_slices_BinarySearch_sl_string_string N) [] [])) [(.t 9), (.t 10)], none⟩, ⟨(some 7), .mov (.t 11), none⟩, ⟨(some 12), .extract (.t 7) 0, none⟩, ⟨(some 13), .extract (.t 7) 1, none⟩, ⟨(some 5), .mov (.t 12), none⟩, ⟨(some 6), .mov (.t 13), none⟩]) (
 .seq (
  .seq (
   .ops [⟨(some 14), .mov (.t 6), none⟩, ⟨(some 15), .un .not (.t 14), none⟩]) (
  .cond (.t 15) (
   .seq (
    .ops [⟨(some 4), .mov (.c (.lit (.int .i64 (-1)))), none⟩]) (
   .ret)) (
   .skip))) (
 .seq (
  .ops [⟨(some 16), .faddr 2 (.t 2), none⟩, ⟨(some 17), .load none (.t 16), none⟩, ⟨(some 18), .mov (.t 5), none⟩, ⟨(some 19), .iaddr 1 (.t 17) (.t 18), none⟩, ⟨(some 20), .load none (.t 19), none⟩, ⟨(some 4), .mov (.t 20), none⟩]) (
 .ret)))), false⟩

/-- azimuth/solve.way -/
def C_solve_way (N : Nat → Nat) : AFunc := ⟨4, [.inl 2],
 .seq (
  .ops [⟨(some 2), .mov (.c (.lit (.int .i64 0))), none⟩]) (
 .seq (
  .seq (
   .ops [⟨(some 3), .mov (.t 0), none⟩]) (
  .cond (.t 3) (
   .seq (
    .ops [⟨(some 2), .mov (.c (.lit (.int .i64 1))), none⟩]) (
   .ret)) (
   .skip))) (
 .seq (
  .ops [⟨(some 2), .mov (.c (.lit (.int .i64 0))), none⟩]) (
 .ret))), false⟩
end Go.Proofs.Eng
/- Templates of functions, as the engine takes them; numbers of functions and types by names. Printed by tm.py. -/
set_option linter.unusedVariables false
set_option maxRecDepth 100000
namespace Go.Proofs.Eng
open Go

/-- azimuth/azimuthlaw13.SolveNone -/
def C_law13_SolveNone (N : Nat → Nat) : AFunc := ⟨35, [.inl 4],
 .seq (
  .ops [⟨(some 4), .mov (.c (.lit (.bool false))), none⟩]) (
 .seq (
  .seq (
   .ops [⟨(some 9), .call (.c (.fn (f_law13_lives N) [] [])) [], none⟩, ⟨(some 10), .un .not (.t 9), none⟩]) (
  .cond (.t 10) (
   .seq (
    .ops [⟨(some 4), .mov (.c (.lit (.bool false))), none⟩]) (
   .ret)) (
   .skip))) (
 .seq (
  .ops [⟨(some 5), .mov (.c (.lit (.pointer none))), none⟩]) (
 .seq (
  .ops [⟨(some 12), .mov (.t 5), none⟩, ⟨(some 13), .call (.c (.fn (f_p_solve_Solver_Clash N) [] [])) [(.t 12)], none⟩, ⟨(some 11), .mov (.t 13), none⟩, ⟨(some 14), .extract (.t 11) 0, none⟩, ⟨(some 15), .extract (.t 11) 1, none⟩, ⟨(some 16), .extract (.t 11) 2, none⟩, ⟨(some 6), .mov (.t 14), none⟩, ⟨(some 7), .mov (.t 15), none⟩, ⟨(some 8), .mov (.t 16), none⟩]) (
 .seq (
  .ops [⟨(some 17), .call (.c (.fn (f_solve_New N) [] [])) [(.c (.lit (.pointer none)))], none⟩, ⟨(some 18), .eq false .pptr (.t 17) (.c (.lit (.pointer none))), none⟩, ⟨(some 19), .mov (.t 18), none⟩, ⟨(some 20), .mov (.t 5), (some (19, true))⟩, ⟨(some 21), .mov (.t 0), (some (19, true))⟩, ⟨(some 22), .mov (.t 1), (some (19, true))⟩, ⟨(some 23), .call (.c (.fn (f_p_solve_Solver_Claim N) [] [])) [(.t 20), (.t 21), (.t 22)], (some (19, true))⟩, ⟨(some 24), .eq false .pint (.t 23) (.c (.lit (.int .i64 1))), (some (19, true))⟩, ⟨(some 25), .pick (.t 19) (.t 24) (.c (.lit (.bool false))), none⟩, ⟨(some 26), .mov (.t 25), none⟩, ⟨(some 27), .mov (.t 5), (some (26, true))⟩, ⟨(some 28), .call (.c (.fn (f_p_solve_Solver_Claims N) [] [])) [(.t 27)], (some (26, true))⟩, ⟨(some 29), .eq false .pint (.t 28) (.c (.lit (.int .i64 0))), (some (26, true))⟩, ⟨(some 30), .pick (.t 26) (.t 29) (.c (.lit (.bool false))), none⟩, ⟨(some 31), .mov (.t 30), none⟩, ⟨(some 32), .mov (.t 8), (some (31, true))⟩, ⟨(some 33), .un .not (.t 32), (some (31, true))⟩, ⟨(some 34), .pick (.t 31) (.t 33) (.c (.lit (.bool false))), none⟩, ⟨(some 4), .mov (.t 34), none⟩]) (
 .ret))))), false⟩

/-- azimuth/azimuthlaw13.lives -/
def C_law13_lives (N : Nat → Nat) : AFunc := ⟨54, [.inl 0],
 .seq (
  .ops [⟨(some 0), .mov (.c (.lit (.bool false))), none⟩]) (
 .seq (
  .ops [⟨(some 11), .call (.c (.fn (f_arena_New N) [] [])) [(.c (.lit (.int .i64 20)))], none⟩, ⟨(some 10), .mov (.t 11), none⟩, ⟨(some 12), .extract (.t 10) 0, none⟩, ⟨(some 13), .extract (.t 10) 1, none⟩, ⟨(some 1), .mov (.t 12), none⟩, ⟨(some 2), .mov (.t 13), none⟩]) (
 .seq (
  .ops [⟨(some 15), .mov (.t 1), none⟩, ⟨(some 16), .build [(.lit (.int .i64 0)), (.lit (.slice none 0 0)), (.lit (.slice none 0 0)), (.lit (.bool false))] [(0, 1, (.c (.lit (.int .i64 0))))], none⟩, ⟨(some 17), .call (.c (.fn (f_p_arena_Arena_Head N) [] [])) [(.t 15), (.t 16)], none⟩, ⟨(some 14), .mov (.t 17), none⟩, ⟨(some 18), .extract (.t 14) 0, none⟩, ⟨(some 19), .extract (.t 14) 1, none⟩, ⟨(some 3), .mov (.t 18), none⟩, ⟨(some 4), .mov (.t 19), none⟩]) (
 .seq (
  .ops [⟨(some 21), .mov (.t 1), none⟩, ⟨(some 22), .call (.c (.fn (f_p_arena_Arena_Var N) [] [])) [(.t 21), (.c (.lit (.int .i64 0)))], none⟩, ⟨(some 20), .mov (.t 22), none⟩, ⟨(some 23), .extract (.t 20) 0, none⟩, ⟨(some 24), .extract (.t 20) 1, none⟩, ⟨(some 5), .mov (.t 23), none⟩, ⟨(some 6), .mov (.t 24), none⟩]) (
 .seq (
  .ops [⟨(some 26), .mov (.t 1), none⟩, ⟨(some 27), .build [(.lit (.int .i64 0)), (.lit (.slice none 0 0)), (.lit (.slice none 0 0)), (.lit (.bool false))] [(0, 1, (.c (.lit (.int .i64 2))))], none⟩, ⟨(some 28), .call (.c (.fn (f_p_arena_Arena_Head N) [] [])) [(.t 26), (.t 27)], none⟩, ⟨(some 25), .mov (.t 28), none⟩, ⟨(some 29), .extract (.t 25) 0, none⟩, ⟨(some 30), .extract (.t 25) 1, none⟩, ⟨(some 7), .mov (.t 29), none⟩, ⟨(some 8), .mov (.t 30), none⟩]) (
 .seq (
  .ops [⟨(some 31), .mov (.t 1), none⟩, ⟨(some 32), .call (.c (.fn (f_solve_New N) [] [])) [(.t 31)], none⟩, ⟨(some 9), .mov (.t 32), none⟩]) (
 .seq (
  .ops [⟨(some 33), .mov (.t 2), none⟩, ⟨(some 34), .eq false .pint (.t 33) (.c (.lit (.int .i64 0))), none⟩, ⟨(some 35), .mov (.t 34), none⟩, ⟨(some 36), .mov (.t 9), (some (35, true))⟩, ⟨(some 37), .mov (.t 3), (some (35, true))⟩, ⟨(some 38), .mov (.t 5), (some (35, true))⟩, ⟨(some 39), .call (.c (.fn (f_p_solve_Solver_Claim N) [] [])) [(.t 36), (.t 37), (.t 38)], (some (35, true))⟩, ⟨(some 40), .eq false .pint (.t 39) (.c (.lit (.int .i64 0))), (some (35, true))⟩, ⟨(some 41), .pick (.t 35) (.t 40) (.c (.lit (.bool false))), none⟩, ⟨(some 42), .mov (.t 41), none⟩, ⟨(some 43), .mov (.t 9), (some (42, true))⟩, ⟨(some 44), .mov (.t 5), (some (42, true))⟩, ⟨(some 45), .mov (.t 7), (some (42, true))⟩, ⟨(some 46), .call (.c (.fn (f_p_solve_Solver_Claim N) [] [])) [(.t 43), (.t 44), (.t 45)], (some (42, true))⟩, ⟨(some 47), .eq false .pint (.t 46) (.c (.lit (.int .i64 10))), (some (42, true))⟩, ⟨(some 48), .pick (.t 42) (.t 47) (.c (.lit (.bool false))), none⟩, ⟨(some 49), .mov (.t 48), none⟩, ⟨(some 50), .mov (.t 9), (some (49, true))⟩, ⟨(some 51), .call (.c (.fn (f_p_solve_Solver_Claims N) [] [])) [(.t 50)], (some (49, true))⟩, ⟨(some 52), .eq false .pint (.t 51) (.c (.lit (.int .i64 1))), (some (49, true))⟩, ⟨(some 53), .pick (.t 49) (.t 52) (.c (.lit (.bool false))), none⟩, ⟨(some 0), .mov (.t 53), none⟩]) (
 .ret))))))), false⟩
end Go.Proofs.Eng
/- The law SolveNone, run by the engine. -/
set_option linter.unusedVariables false
set_option linter.unusedSimpArgs false
set_option maxRecDepth 100000
namespace Go.Proofs.Eng
open Go
section
variable {Γ : Sums} {A : Tab} {N : Nat → Nat}
@[simp] theorem aeq_nilp : aeq .pptr (.lit (.pointer none)) (.lit (.pointer none)) = some true := _root_.id rfl
theorem solve_New_nil (h : Has Γ A (f_solve_New N) (C_solve_New N)) (H : Hp) : (lim Γ A).call (f_solve_New N) [.lit (.pointer none)] H = some (.lit (.pointer none), none) := by
  apply h.call (by rfl)
  simp [C_solve_New]
theorem solve_Claim_nil (h : Has Γ A (f_p_solve_Solver_Claim N) (C_p_solve_Solver_Claim N)) (i j : Int) (H : Hp) : (lim Γ A).call (f_p_solve_Solver_Claim N) [.lit (.pointer none), avInt .i64 i, avInt .i64 j] H = some (avInt .i64 1, none) := by
  apply h.call (by rfl)
  simp [C_p_solve_Solver_Claim]
theorem solve_Claims_nil (h : Has Γ A (f_p_solve_Solver_Claims N) (C_p_solve_Solver_Claims N)) (H : Hp) : (lim Γ A).call (f_p_solve_Solver_Claims N) [.lit (.pointer none)] H = some (avInt .i64 0, none) := by
  apply h.call (by rfl)
  simp [C_p_solve_Solver_Claims]
theorem solve_Clash_nil (h : Has Γ A (f_p_solve_Solver_Clash N) (C_p_solve_Solver_Clash N)) (H : Hp) : (lim Γ A).call (f_p_solve_Solver_Clash N) [.lit (.pointer none)] H = some (.tup [avInt .i64 0, avInt .i64 0, avBool false], none) := by
  apply h.call (by rfl)
  simp [C_p_solve_Solver_Clash]
theorem law_SolveNone (h1 : Has Γ A (f_solve_New N) (C_solve_New N)) (h2 : Has Γ A (f_p_solve_Solver_Claim N) (C_p_solve_Solver_Claim N)) (h3 : Has Γ A (f_p_solve_Solver_Claims N) (C_p_solve_Solver_Claims N)) (h4 : Has Γ A (f_p_solve_Solver_Clash N) (C_p_solve_Solver_Clash N))
    (h : Has Γ A (f_law13_SolveNone N) (C_law13_SolveNone N)) (hlives : (lim Γ A).call (f_law13_lives N) [] { l := [], d := none } = some (avBool true, none)) (i j : Int) : ∃ r, (lim Γ A).ent (f_law13_SolveNone N) [avInt .i64 i, avInt .i64 j] { l := [], d := none } = some r ∧ r.1 = avBool true := by
  apply h.entP (by rfl)
  simp [C_law13_SolveNone, hlives, solve_New_nil h1, solve_Claim_nil h2, solve_Claims_nil h3, solve_Clash_nil h4]
end
end Go.Proofs.Eng
/- The law StoreFull: plain facts of its names. -/
set_option linter.unusedVariables false
set_option linter.unusedSimpArgs false
set_option maxRecDepth 100000
namespace Go.Proofs.Eng
open Go
section
variable {Γ : Sums} {A : Tab} {N : Nat → Nat}
def fullName (i : Nat) : List UInt8 := [110, UInt8.ofNat (97 + i / 16), UInt8.ofNat (97 + i % 16)]
def fullMap (n : Nat) : List (List UInt8 × AV) := (List.range n).map fun j => (fullName j, avNilS)

theorem full_w (i : Nat) (hi : i < 256) : IntKind.u8.wrap (97 + IntKind.u8.wrap (IntKind.i64.wrap ((i : Int) / 16))) = ((UInt8.ofNat (97 + i / 16)).toNat : Int) ∧ IntKind.u8.wrap (97 + IntKind.u8.wrap ((i : Int).tmod 16)) = ((UInt8.ofNat (97 + i % 16)).toNat : Int) ∧
    IntKind.u8.wrap (97 + IntKind.u8.wrap ((i : Int) / 16)) = ((UInt8.ofNat (97 + i / 16)).toNat : Int) ∧ IntKind.u8.wrap (97 + (i : Int).tmod 16) = ((UInt8.ofNat (97 + i % 16)).toNat : Int) := by
  have : ∀ i ∈ List.range 256, IntKind.u8.wrap (97 + IntKind.u8.wrap (IntKind.i64.wrap ((i : Int) / 16))) = ((UInt8.ofNat (97 + i / 16)).toNat : Int) ∧ IntKind.u8.wrap (97 + IntKind.u8.wrap ((i : Int).tmod 16)) = ((UInt8.ofNat (97 + i % 16)).toNat : Int) ∧
      IntKind.u8.wrap (97 + IntKind.u8.wrap ((i : Int) / 16)) = ((UInt8.ofNat (97 + i / 16)).toNat : Int) ∧ IntKind.u8.wrap (97 + (i : Int).tmod 16) = ((UInt8.ofNat (97 + i % 16)).toNat : Int) := by decide +kernel
  exact this i (by simpa using hi)
theorem full_name : ∀ i ∈ List.range 256, isNameB (fullName i) = true := by decide +kernel
def fullAt (i : Nat) : List (List UInt8) → Option Nat
  | [] => none
  | x :: r => if fullName i = x then some 0 else (fullAt i r).map (· + 1)
theorem vFind_full (i : Nat) : ∀ l : List Nat, vFind (fullName i) (l.map fun j => (fullName j, avNilS)) = (fullAt i (l.map fullName)).map fun p => (p, avNilS)
  | [] => rfl
  | j :: l => by
    simp only [List.map_cons, vFind, fullAt]
    split
    · rfl
    · rw [vFind_full i l]; cases fullAt i (l.map fullName) <;> rfl
theorem full_new : ∀ i ∈ List.range 256, fullAt i ((List.range i).map fullName) = none := by decide +kernel
theorem full_old : ∀ i ∈ List.range 256, (fullAt i ((List.range 256).map fullName)).isSome = true := by decide +kernel
theorem vPut_full (i : Nat) (hi : i < 256) : vPut (fullName i) avNilS (fullMap i) = fullMap (i + 1) := by
  unfold vPut fullMap
  rw [vFind_full, full_new i (by simpa using hi), List.range_succ, List.map_append]
  rfl
theorem bytes2 {H : Hp} {a b : UInt8} {t : TypeId} : (asElems (halloc H (.arr 1 [.lit (.int .u8 a.toNat), .lit (.int .u8 b.toNat)] t)) (.ra 1 H.l.length 0 2)).bind bytesOf = some [a, b] := by
  have := bytesOf_bytes [a, b]
  simp [asElems, avByte] at this ⊢
  exact this

theorem St.alloc {H : Hp} {t : TypeId} {p m turn : Nat} {l : List (List UInt8 × AV)} (h : St H t p m turn l) (o : AObj) : St (halloc H o) t p m turn l := by
  obtain ⟨c1, es, clk, c2, c3⟩ := h
  refine ⟨?_, es, clk, ?_, c3⟩
  · rw [hget_halloc, if_neg (Nat.ne_of_lt (hget_lt c1))]; exact c1
  · rw [hget_halloc, if_neg (Nat.ne_of_lt (hget_lt c2))]; exact c2
def otherB : List UInt8 := [111, 116, 104, 101, 114]
theorem other_name : isNameB otherB = true := by decide +kernel
theorem vFind_other : ∀ l : List Nat, vFind otherB (l.map fun j => (fullName j, avNilS)) = none
  | [] => rfl
  | j :: l => by
    have : otherB ≠ fullName j := by unfold otherB fullName; simp
    simp only [List.map_cons, vFind, if_neg this, vFind_other l]
    rfl
theorem other_full : setE otherB 0 (fullMap 256) = 20 := by
  unfold setE
  rw [other_name, fullMap, vFind_other]
  simp
theorem vbytes_rep {H : Hp} {e : TypeId} (n : Nat) : VBytes (halloc H (.arr 1 (List.replicate n (avByte 0)) e)) (.ra 1 H.l.length 0 n) (List.replicate n 0) := by
  refine .inr ⟨H.l.length, 0, e, List.replicate n (avByte 0), by simp, by simp, by simp, by simp⟩
theorem vFind_modify {k : List UInt8} {v : AV} : ∀ {l : List (List UInt8 × AV)} {p : Nat × AV}, vFind k l = some p → vFind k (l.modify p.1 fun _ => (k, v)) = some (p.1, v) ∧ p.1 < l.length
  | [], p, h => by simp [vFind] at h
  | e :: r, p, h => by
    simp only [vFind] at h
    split at h
    · simp only [Option.some.injEq] at h; subst h
      simp [vFind]
    · rename_i hne
      obtain ⟨q, hq, rfl⟩ := Option.map_eq_some_iff.1 h
      obtain ⟨i1, i2⟩ := vFind_modify (v := v) hq
      refine ⟨?_, by simpa using i2⟩
      simp only [List.modify_succ_cons, vFind, if_neg hne, i1]
      rfl
theorem vPut_old {k : List UInt8} {v : AV} {l : List (List UInt8 × AV)} (h : (vFind k l).isSome = true) : (vFind k (vPut k v l)).isSome = true ∧ (vPut k v l).length = l.length := by
  obtain ⟨p, hp⟩ := Option.isSome_iff_exists.1 h
  unfold vPut
  rw [hp]
  exact ⟨by rw [(vFind_modify hp).1]; rfl, by simp⟩
theorem vDel_len {k : List UInt8} {l : List (List UInt8 × AV)} (h : (vFind k l).isSome = true) : (vDel k l).length = l.length - 1 := by
  obtain ⟨p, hp⟩ := Option.isSome_iff_exists.1 h
  unfold vDel
  rw [hp]
  exact List.length_eraseIdx_of_lt (vFind_modify (v := avNilS) hp).2

end
end Go.Proofs.Eng
