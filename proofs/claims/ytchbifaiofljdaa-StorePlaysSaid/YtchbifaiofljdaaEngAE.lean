/- The engine, part AE: the heap's laws; what a call owns; rows that grow. -/
import Derived.Test.YtchbifaiofljdaaEngAD
set_option linter.unusedVariables false
set_option linter.unusedSimpArgs false
namespace Go.Proofs.Eng
open Go Go.RowKit

/-! ### The heap -/
theorem hget_ge {H : Hp} {i : Nat} (h : H.l.length ≤ i) : hget H i = none := by
  unfold hget; rw [List.getElem?_eq_none h]; rfl
theorem hget_lt {H : Hp} {i : Nat} {o : AObj} (h : hget H i = some o) : i < H.l.length := by
  rcases Nat.lt_or_ge i H.l.length with k | k
  · exact k
  · rw [hget_ge k] at h; simp at h
@[simp] theorem hget_halloc {H : Hp} {o : AObj} {i : Nat} : hget (halloc H o) i = if i = H.l.length then some o else hget H i := by
  unfold hget halloc
  by_cases h : i = H.l.length
  · subst h; simp
  · rw [if_neg h]
    simp only []
    rcases Nat.lt_or_ge i H.l.length with k | k
    · rw [List.getElem?_append_left k]
    · rw [List.getElem?_eq_none (by simp; omega), List.getElem?_eq_none k]
@[simp] theorem hget_hset {H : Hp} {o : Option AObj} {i j : Nat} : hget (hset H j o) i = if i = j then (if j < H.l.length then o else none) else hget H i := by
  unfold hget hset
  simp only [List.getElem?_set]
  by_cases h : i = j
  · subst h
    by_cases k : i < H.l.length <;> simp [k]
  · simp [h, Ne.symm h]
@[simp] theorem halloc_len {H : Hp} {o : AObj} : (halloc H o).l.length = H.l.length + 1 := by simp [halloc]
@[simp] theorem hset_len {H : Hp} {o : Option AObj} {i : Nat} : (hset H i o).l.length = H.l.length := by simp [hset]
@[simp] theorem halloc_d {H : Hp} {o : AObj} : (halloc H o).d = H.d := rfl
@[simp] theorem hset_d {H : Hp} {o : Option AObj} {i : Nat} : (hset H i o).d = dmin H.d i := rfl
@[simp] theorem dmin_none {n : Nat} : dmin none n = some n := rfl
@[simp] theorem dmin_some' {m n : Nat} : dmin (some m) n = some (min m n) := rfl
@[simp] theorem dminO_none {d : Option Nat} : dminO d none = d := rfl
@[simp] theorem dminO_some {d : Option Nat} {n : Nat} : dminO d (some n) = dmin d n := rfl
@[simp] theorem hget_same_l {l : List (Option AObj)} {d : Option Nat} {i : Nat} {H : Hp} (h : H.l = l) : hget { l := l, d := d } i = hget H i := by subst h; rfl
theorem hget_l (H : Hp) (d : Option Nat) (i : Nat) : hget { l := H.l, d := d } i = hget H i := rfl

theorem settle_keeps {H H' : Hp} {v : AV} (hk : keeps H H' = true) (hu : v.under H.l.length = true) : settle H v H' = (v, none) := by simp [settle, hk, hu]
@[simp] theorem settle_fst {H H' : Hp} {v : AV} : (settle H v H').1 = v := by unfold settle; split <;> rfl
theorem settle_some {H H' : Hp} {v : AV} (hu : v.under H.l.length = false) : settle H v H' = (v, some { l := H'.l, d := dminO H.d H'.d }) := by simp [settle, hu]
theorem settle_wrote {H H' : Hp} {v : AV} (h : ∃ m, H'.d = some m ∧ m < H.l.length) : settle H v H' = (v, some { l := H'.l, d := dminO H.d H'.d }) := by
  obtain ⟨m, h1, h2⟩ := h
  have : keeps H H' = false := by simp [keeps, h1]; omega
  simp [settle, this]
theorem settleZ_frz {H H' : Hp} {v u : AV} (hk : keeps H H' = true) (hf : frz H'.l H.l.length 16 v = some u) : settleZ true H v H' = (u, none) := by simp [settleZ, hk, hf]

section
variable {n : Nat}
@[simp] theorem ne_2 : (n = n + 1 + 1) = False := by apply propext; constructor; (intro h; omega); exact False.elim
@[simp] theorem ne_3 : (n = n + 1 + 1 + 1) = False := by apply propext; constructor; (intro h; omega); exact False.elim
@[simp] theorem ne_4 : (n = n + 1 + 1 + 1 + 1) = False := by apply propext; constructor; (intro h; omega); exact False.elim
@[simp] theorem ne_5 : (n = n + 1 + 1 + 1 + 1 + 1) = False := by apply propext; constructor; (intro h; omega); exact False.elim
@[simp] theorem ne_6 : (n = n + 1 + 1 + 1 + 1 + 1 + 1) = False := by apply propext; constructor; (intro h; omega); exact False.elim
@[simp] theorem ne_2' : (n + 1 + 1 = n) = False := by apply propext; constructor; (intro h; omega); exact False.elim
@[simp] theorem ne_3' : (n + 1 + 1 + 1 = n) = False := by apply propext; constructor; (intro h; omega); exact False.elim
@[simp] theorem ne_4' : (n + 1 + 1 + 1 + 1 = n) = False := by apply propext; constructor; (intro h; omega); exact False.elim
@[simp] theorem ne_5' : (n + 1 + 1 + 1 + 1 + 1 = n) = False := by apply propext; constructor; (intro h; omega); exact False.elim
@[simp] theorem ne_6' : (n + 1 + 1 + 1 + 1 + 1 + 1 = n) = False := by apply propext; constructor; (intro h; omega); exact False.elim
@[simp] theorem lt_2 : (n < n + 1 + 1) = True := by apply propext; constructor; (intro; trivial); (intro; omega)
@[simp] theorem lt_3 : (n < n + 1 + 1 + 1) = True := by apply propext; constructor; (intro; trivial); (intro; omega)
@[simp] theorem lt_4 : (n < n + 1 + 1 + 1 + 1) = True := by apply propext; constructor; (intro; trivial); (intro; omega)
@[simp] theorem lt_5 : (n < n + 1 + 1 + 1 + 1 + 1) = True := by apply propext; constructor; (intro; trivial); (intro; omega)
@[simp] theorem lt_6 : (n < n + 1 + 1 + 1 + 1 + 1 + 1) = True := by apply propext; constructor; (intro; trivial); (intro; omega)
end

/-! ### What a call owns -/
/-- os: new objects, by number. -/
structure Loc (H0 H : Hp) (os : List (Nat × AObj)) : Prop where
  len : H0.l.length ≤ H.l.length
  d : ∀ m, H.d = some m → H0.l.length ≤ m
  old : ∀ i, i < H0.l.length → H.l[i]? = H0.l[i]?
  has : ∀ p ∈ os, hget H p.1 = some p.2 ∧ H0.l.length ≤ p.1
  nd : (os.map Prod.fst).Nodup

namespace Loc
variable {H0 H : Hp} {os os' : List (Nat × AObj)} {i : Nat} {o o' : AObj}

theorem start (H : Hp) : Loc H { l := H.l, d := none } [] := ⟨Nat.le_refl _, fun m h => by simp at h, fun _ _ => rfl, fun p h => by simp at h, by simp⟩
theorem perm (h : Loc H0 H os) (p : os.Perm os') : Loc H0 H os' := ⟨h.len, h.d, h.old, fun q hq => h.has q (p.mem_iff.2 hq), (p.map Prod.fst).nodup_iff.1 h.nd⟩
theorem sub (h : Loc H0 H os) (p : os'.Sublist os) : Loc H0 H os' := ⟨h.len, h.d, h.old, fun q hq => h.has q (p.subset hq), (p.map Prod.fst).nodup h.nd⟩
theorem alloc (h : Loc H0 H os) (o : AObj) : Loc H0 (halloc H o) ((H.l.length, o) :: os) := by
  refine ⟨by simp; exact Nat.le_succ_of_le h.len, h.d, fun i hi => ?_, fun p hp => ?_, ?_⟩
  · rw [← h.old i hi]
    simp only [halloc]
    rw [List.getElem?_append_left (Nat.lt_of_lt_of_le hi h.len)]
  · rcases List.mem_cons.1 hp with rfl | hp
    · simp [h.len]
    · have := h.has p hp
      have hl := hget_lt this.1
      refine ⟨?_, this.2⟩
      rw [hget_halloc, if_neg (by omega)]; exact this.1
  · rw [List.map_cons, List.nodup_cons]
    refine ⟨fun hm => ?_, h.nd⟩
    obtain ⟨p, hp, e⟩ := List.mem_map.1 hm
    have := hget_lt (h.has p hp).1
    simp only [] at e
    omega
theorem get (h : Loc H0 H os) {p : Nat × AObj} (hp : p ∈ os) : hget H p.1 = some p.2 := (h.has p hp).1
theorem ge (h : Loc H0 H os) {p : Nat × AObj} (hp : p ∈ os) : H0.l.length ≤ p.1 := (h.has p hp).2
theorem lt (h : Loc H0 H os) {p : Nat × AObj} (hp : p ∈ os) : p.1 < H.l.length := hget_lt (h.get hp)
theorem head (h : Loc H0 H ((i, o) :: os)) : hget H i = some o := h.get (p := (i, o)) (by simp)
theorem headlt (h : Loc H0 H ((i, o) :: os)) : i < H.l.length := hget_lt h.head
theorem set (h : Loc H0 H ((i, o) :: os)) (o' : AObj) : Loc H0 (hset H i (some o')) ((i, o') :: os) := by
  have hi := h.ge (p := (i, o)) (by simp)
  have hnd := h.nd
  rw [List.map_cons, List.nodup_cons] at hnd
  refine ⟨by simp; exact h.len, fun m hm => ?_, fun j hj => ?_, fun p hp => ?_, by simpa using h.nd⟩
  · simp only [hset_d] at hm
    cases hd : H.d with
    | none => rw [hd] at hm; simp at hm; omega
    | some k => rw [hd] at hm; simp at hm; have := h.d k hd; simp only [] at hi; omega
  · rw [← h.old j hj]
    simp only [hset]
    rw [List.getElem?_set_ne (by simp only [] at hi; omega)]
  · rcases List.mem_cons.1 hp with rfl | hp
    · simp [h.headlt]; exact hi
    · have := h.has p (List.mem_cons_of_mem _ hp)
      refine ⟨?_, this.2⟩
      rw [hget_hset, if_neg]
      · exact this.1
      · intro e
        exact hnd.1 (List.mem_map.2 ⟨p, hp, e⟩)
theorem kill (h : Loc H0 H ((i, o) :: os)) : Loc H0 (hset H i none) os := by
  have hi := h.ge (p := (i, o)) (by simp)
  have hnd := h.nd
  rw [List.map_cons, List.nodup_cons] at hnd
  refine ⟨by simp; exact h.len, fun m hm => ?_, fun j hj => ?_, fun p hp => ?_, hnd.2⟩
  · simp only [hset_d] at hm
    cases hd : H.d with
    | none => rw [hd] at hm; simp at hm; omega
    | some k => rw [hd] at hm; simp at hm; have := h.d k hd; simp only [] at hi; omega
  · rw [← h.old j hj]
    simp only [hset]
    rw [List.getElem?_set_ne (by simp only [] at hi; omega)]
  · have := h.has p (List.mem_cons_of_mem _ hp)
    refine ⟨?_, this.2⟩
    rw [hget_hset, if_neg]
    · exact this.1
    · intro e
      exact hnd.1 (List.mem_map.2 ⟨p, hp, e⟩)
theorem keeps (h : Loc H0 H os) : Eng.keeps H0 H = true := by
  unfold Eng.keeps
  split
  · rfl
  · rename_i m hm; simpa using h.d m hm
theorem oldget (h : Loc H0 H os) (hi : i < H0.l.length) : hget H i = hget H0 i := by unfold hget; rw [h.old i hi]
theorem setMid {as bs : List (Nat × AObj)} (h : Loc H0 H (as ++ (i, o) :: bs)) (o' : AObj) : Loc H0 (hset H i (some o')) (as ++ (i, o') :: bs) :=
  ((h.perm List.perm_middle).set o').perm List.perm_middle.symm
/-- A call behind another one. -/
theorem trans {Hc : Hp} (h : Loc H0 H os) (k : Loc H Hc os') : Loc H0 { l := Hc.l, d := dminO H.d Hc.d } (os' ++ os) := by
  refine ⟨Nat.le_trans h.len k.len, fun m hm => ?_, fun i hi => ?_, fun p hp => ?_, ?_⟩
  · simp only [] at hm
    cases hd : Hc.d with
    | none => rw [hd] at hm; exact h.d m (by simpa using hm)
    | some j =>
      rw [hd] at hm
      have h1 := k.d j hd
      have h2 := h.len
      simp only [dminO_some] at hm
      cases hd2 : H.d with
      | none => rw [hd2] at hm; simp at hm; omega
      | some j2 => rw [hd2] at hm; simp at hm; have := h.d j2 hd2; omega
  · rw [← h.old i hi]; exact k.old i (Nat.lt_of_lt_of_le hi h.len)
  · rcases List.mem_append.1 hp with hp | hp
    · have := k.has p hp
      exact ⟨this.1, Nat.le_trans h.len this.2⟩
    · have := h.has p hp
      refine ⟨?_, this.2⟩
      have e := k.oldget (hget_lt this.1)
      show hget Hc p.1 = _
      rw [e]; exact this.1
  · rw [List.map_append, List.nodup_append]
    refine ⟨k.nd, h.nd, fun a ha b hb => ?_⟩
    obtain ⟨p, hp, rfl⟩ := List.mem_map.1 ha
    obtain ⟨q, hq, rfl⟩ := List.mem_map.1 hb
    have h1 := k.ge hp
    have h2 := hget_lt (h.get hq)
    omega
/-- A call that answers and gives the heap back. -/
theorem dnone (h : Loc H0 H os) : Loc H0 { l := H.l, d := none } os := ⟨h.len, fun m h => by simp at h, h.old, h.has, h.nd⟩
end Loc

theorem astore_ptr' {H : Hp} {n id off : Nat} {x : AV} : astore H n (.ptr id off) x = if x.good = true ∧ x.cells.length = n then
    (match hget H id with
      | some (.cells cs t) => if off + n ≤ cs.length then some (hset H id (some (.cells (setFrom cs off x.cells) t))) else none
      | _ => none) else none := _root_.id rfl
theorem aload_ptr' {H : Hp} {n : Option Nat} {id off : Nat} : aload H n (.ptr id off) = match hget H id with
    | some (.cells cs _) => loadC n (cs.drop off)
    | _ => none := _root_.id rfl
attribute [simp] astore_ptr' aload_ptr' setFrom

/-! ### Rows that grow -/
/-- A row of elements that a call owns; nil has no object. -/
def Row (e : TypeId) (sz : Nat) (x : AV) (es : List AV) (os : List (Nat × AObj)) : Prop :=
  (x = avNilS ∧ es = [] ∧ os = []) ∨ ∃ id, x = .ra sz id 0 es.length ∧ os = [(id, .arr sz es e)]

theorem Row.nil (e : TypeId) (sz : Nat) : Row e sz avNilS [] [] := .inl ⟨rfl, rfl, rfl⟩
theorem Row.mk (e : TypeId) (sz id : Nat) (es : List AV) : Row e sz (.ra sz id 0 es.length) es [(id, .arr sz es e)] := .inr ⟨id, rfl, rfl⟩
theorem Row.len {e : TypeId} {sz : Nat} {x : AV} {es : List AV} {os : List (Nat × AObj)} (h : Row e sz x es os) : asLen x = some es.length := by
  rcases h with ⟨rfl, rfl, rfl⟩ | ⟨id, rfl, rfl⟩ <;> rfl
theorem Row.elems {e : TypeId} {sz : Nat} {x : AV} {es : List AV} {os r : List (Nat × AObj)} {H0 H : Hp} (h : Row e sz x es os) (hl : Loc H0 H (os ++ r)) : asElems H x = some es := by
  rcases h with ⟨rfl, rfl, rfl⟩ | ⟨id, rfl, rfl⟩
  · rfl
  · have := hl.head
    simp only [asElems, this, Nat.zero_add, Nat.le_refl, if_true, List.drop_zero, List.take_length]
theorem Row.append {e : TypeId} {sz bytes : Nat} {x : AV} {es ys : List AV} {os r : List (Nat × AObj)} {H0 H : Hp} (h : Row e sz x es os) (hl : Loc H0 H (os ++ r)) (hy : ys ≠ []) (hb : (es.length + ys.length) * bytes ≤ roomMax)
    (hg : ys.all (fun y => y.good && y.cells.length == sz) = true) : ∃ v H' os', appendOn H e sz bytes x ys = some (v, some H') ∧ Row e sz v (es ++ ys) os' ∧ Loc H0 H' (os' ++ r) := by
  rcases h with ⟨rfl, rfl, rfl⟩ | ⟨id, rfl, rfl⟩
  · refine ⟨.ra sz H.l.length 0 ys.length, halloc H (.arr sz ys e), [(H.l.length, .arr sz ys e)], ?_, .inr ⟨H.l.length, by simp, by simp⟩, hl.alloc _⟩
    have : ys.isEmpty = false := by cases ys with | nil => exact absurd rfl hy | cons => rfl
    simp only [appendOn]
    rw [if_pos ⟨by simpa using hb, hg⟩, this]; rfl
  · refine ⟨.ra sz H.l.length 0 (es.length + ys.length), halloc (hset H id none) (.arr sz (es ++ ys) e), [(H.l.length, .arr sz (es ++ ys) e)], ?_, .inr ⟨H.l.length, by simp, by simp⟩, ?_⟩
    · have := hl.head
      simp only [appendOn, this]
      rw [if_pos ⟨trivial, trivial, by omega, hb, hg⟩]
      simp
    · have := (hl.kill).alloc (.arr sz (es ++ ys) e)
      simpa using this

/-- A row that nobody writes; nil, or frozen. -/
def Fzr (sz : Nat) (x : AV) (es : List AV) : Prop := (x = avNilS ∧ es = []) ∨ x = .sl sz es

theorem Row.frz {e : TypeId} {sz : Nat} {x : AV} {es fs : List AV} {os r : List (Nat × AObj)} {H0 H : Hp} {k : Nat} (h : Row e sz x es os) (hl : Loc H0 H (os ++ r)) (he : es.mapM (frz H.l H0.l.length k) = some fs) :
    ∃ u, frz H.l H0.l.length (k + 1) x = some u ∧ Fzr sz u fs := by
  rcases h with ⟨rfl, rfl, rfl⟩ | ⟨id, rfl, rfl⟩
  · simp at he
    exact ⟨avNilS, by simp [Eng.frz], .inl ⟨rfl, he⟩⟩
  · have h1 := hl.head
    have h2 := hl.ge (p := (id, .arr sz es e)) (by simp)
    unfold hget at h1
    simp only [] at h2
    refine ⟨.sl sz fs, ?_, .inr rfl⟩
    simp only [Eng.frz]
    rw [if_neg (by omega), h1]
    simp [he]

theorem mapM_some {α β : Type} {g : α → Option β} {k : α → β} : ∀ {l : List α}, (∀ x ∈ l, g x = some (k x)) → l.mapM g = some (l.map k)
  | [], _ => rfl
  | x :: l, h => by
    rw [List.mapM_cons, h x (by simp), mapM_some (fun y hy => h y (by simp [hy]))]
    rfl
theorem frz_lits {L : HL} {n k : Nat} {es : List AV} (h : ∀ x ∈ es, ∃ v, x = .lit v) : es.mapM (frz L n (k + 1)) = some es := by
  rw [mapM_some (k := id) (fun x hx => by obtain ⟨v, rfl⟩ := h x hx; rfl)]
  simp

/-! ### Frozen rows -/
/-- Reading a frozen element. -/
theorem aiaddr_sl {sz : Nat} {xs : List AV} {k : IntKind} {i : Int} {e : AV} (h0 : 0 ≤ i) (h : xs[i.toNat]? = some e) (hg : e.good = true) : aiaddr sz (.sl sz xs) (.lit (.int k i)) = some (.vp e.cells) := by
  simp [aiaddr, h0, h, hg]
@[simp] theorem aload_vp {H : Hp} {n : Option Nat} {xs : List AV} : aload H n (.vp xs) = loadC n xs := rfl
@[simp] theorem loadC_none {xs : List AV} : loadC none xs = xs[0]? := rfl
@[simp] theorem asLen_sl {sz : Nat} {xs : List AV} : asLen (.sl sz xs) = some xs.length := rfl
@[simp] theorem asLen_ra {sz id off n : Nat} : asLen (.ra sz id off n) = some n := rfl
@[simp] theorem asLen_nil : asLen avNilS = some 0 := rfl
@[simp] theorem asElems_sl {H : Hp} {sz : Nat} {xs : List AV} : asElems H (.sl sz xs) = some xs := rfl
@[simp] theorem asElems_nil {H : Hp} : asElems H avNilS = some [] := rfl
@[simp] theorem cells_lit {v : Value} : (AV.lit v).cells = [.lit v] := rfl
@[simp] theorem good_int {k : IntKind} {n : Int} : (AV.lit (.int k n)).good = true := rfl
@[simp] theorem good_str {s : ByteArray} : (AV.lit (.string s)).good = true := rfl
@[simp] theorem good_bool {b : Bool} : (AV.lit (.bool b)).good = true := rfl
@[simp] theorem one_int {k : IntKind} {n : Int} : (AV.lit (.int k n)).one = true := rfl
@[simp] theorem one_str {s : ByteArray} : (AV.lit (.string s)).one = true := rfl
@[simp] theorem one_bool {b : Bool} : (AV.lit (.bool b)).one = true := rfl
@[simp] theorem one_byte {b : UInt8} : (avByte b).one = true := rfl
@[simp] theorem one_sl {sz : Nat} {xs : List AV} : (AV.sl sz xs).one = true := rfl
@[simp] theorem one_ra {a b c d : Nat} : (AV.ra a b c d).one = true := rfl
@[simp] theorem one_nilS : (AV.lit (.slice none 0 0)).one = true := rfl
@[simp] theorem one_nilP : (AV.lit (.pointer none)).one = true := rfl
@[simp] theorem one_nilM : (AV.lit (.map none)).one = true := rfl
@[simp] theorem one_nilF : (AV.lit .nilFunc).one = true := rfl
@[simp] theorem one_map {i : Nat} : (AV.map i).one = true := rfl
@[simp] theorem one_ptr {i o : Nat} : (AV.ptr i o).one = true := rfl
@[simp] theorem one_fn {f : FuncId} {a b : List AV} : (AV.fn f a b).one = true := rfl
@[simp] theorem good_sl {sz : Nat} {xs : List AV} : (AV.sl sz xs).good = true := rfl
@[simp] theorem good_ra {a b c d : Nat} : (AV.ra a b c d).good = true := rfl
@[simp] theorem good_nilS : (AV.lit (.slice none 0 0)).good = true := rfl
@[simp] theorem good_nilP : (AV.lit (.pointer none)).good = true := rfl
@[simp] theorem good_nilM : (AV.lit (.map none)).good = true := rfl
@[simp] theorem good_nilF : (AV.lit .nilFunc).good = true := rfl
@[simp] theorem good_map {i : Nat} : (AV.map i).good = true := rfl
@[simp] theorem good_ptr {i o : Nat} : (AV.ptr i o).good = true := rfl
@[simp] theorem good_fn {f : FuncId} {a b : List AV} : (AV.fn f a b).good = true := rfl
@[simp] theorem good_agg {xs : List AV} : (AV.agg xs).good = xs.all AV.one := rfl
@[simp] theorem cells_agg {xs : List AV} : (AV.agg xs).cells = xs := rfl
@[simp] theorem cells_sl {sz : Nat} {xs : List AV} : (AV.sl sz xs).cells = [.sl sz xs] := rfl
@[simp] theorem cells_ra {a b c d : Nat} : (AV.ra a b c d).cells = [.ra a b c d] := rfl
@[simp] theorem cells_map {i : Nat} : (AV.map i).cells = [.map i] := rfl
@[simp] theorem cells_ptr {i o : Nat} : (AV.ptr i o).cells = [.ptr i o] := rfl
@[simp] theorem cells_fn {f : FuncId} {a b : List AV} : (AV.fn f a b).cells = [.fn f a b] := rfl
@[simp] theorem good_byte {b : UInt8} : (avByte b).good = true := rfl
@[simp] theorem cells_byte {b : UInt8} : (avByte b).cells = [avByte b] := rfl
@[simp] theorem afaddr_ptr {id o off : Nat} : afaddr off (.ptr id o) = some (.ptr id (o + off)) := rfl
@[simp] theorem afaddr_vp {xs : List AV} {off : Nat} : afaddr off (.vp xs) = some (.vp (xs.drop off)) := rfl
@[simp] theorem bytesOf_bytes : ∀ b : List UInt8, bytesOf (b.map avByte) = some b
  | [] => rfl
  | x :: b => by
    have := bytesOf_bytes b
    simp only [List.map_cons]
    show (bytesOf (b.map avByte)).map (UInt8.ofNat (x.toNat : Int).toNat :: ·) = _
    rw [this]
    simp

namespace Fzr
variable {sz : Nat} {x : AV} {es : List AV}
theorem len (h : Fzr sz x es) : asLen x = some es.length := by
  rcases h with ⟨rfl, rfl⟩ | rfl <;> rfl
theorem elems {H : Hp} (h : Fzr sz x es) : asElems H x = some es := by
  rcases h with ⟨rfl, rfl⟩ | rfl <;> rfl
theorem iaddr {k : IntKind} {i : Int} {e : AV} (h : Fzr sz x es) (h0 : 0 ≤ i) (h1 : es[i.toNat]? = some e) (hg : e.good = true) : aiaddr sz x (.lit (.int k i)) = some (.vp e.cells) := by
  rcases h with ⟨rfl, rfl⟩ | rfl
  · simp at h1
  · exact aiaddr_sl h0 h1 hg
theorem slice {lo hi : Option AV} {l m : Nat} (h : Fzr sz x es) (h1 : aBound hi es.length es.length = some m) (h2 : aBound lo 0 m = some l) : ∃ y, aslice sz x lo hi = some y ∧ Fzr sz y ((es.drop l).take (m - l)) := by
  rcases h with ⟨rfl, rfl⟩ | rfl
  · refine ⟨avNilS, ?_, .inl ⟨rfl, by simp⟩⟩
    have hm : m = 0 := by
      cases hi with
      | none => simp [aBound] at h1; exact h1.symm
      | some v =>
        cases v with
        | lit w => cases w <;> simp [aBound] at h1; obtain ⟨⟨a, b⟩, c⟩ := h1; omega
        | _ => simp [aBound] at h1
    subst hm
    simp only [List.length_nil] at h1
    simp [aslice, h1, h2]
  · refine ⟨.sl sz ((es.drop l).take (m - l)), ?_, .inr rfl⟩
    simp [aslice, h1, h2]
theorem cut {k k' : IntKind} {i j : Int} (h : Fzr sz x es) (h0 : 0 ≤ i) (h1 : i ≤ j) (h2 : j ≤ es.length) : ∃ y, aslice sz x (some (.lit (.int k i))) (some (.lit (.int k' j))) = some y ∧ Fzr sz y ((es.drop i.toNat).take (j.toNat - i.toNat)) := by
  have h3 : 0 ≤ j := by omega
  have h4 : i ≤ (j.toNat : Int) := by omega
  refine h.slice (m := j.toNat) (l := i.toNat) ?_ ?_
  · simp [aBound, h2, h3]
  · unfold aBound; simp only []; rw [if_pos ⟨h0, h4⟩]
theorem under {n : Nat} (h : Fzr sz x es) (hu : AV.unders n es = true) : x.under n = true := by
  rcases h with ⟨rfl, rfl⟩ | rfl
  · rfl
  · simpa [AV.under] using hu
end Fzr

section
variable {L : HL} {n k : Nat}
theorem frz_sl {sz : Nat} {xs : List AV} : Eng.frz L n (k + 1) (.sl sz xs) = (xs.mapM (Eng.frz L n k)).map (.sl sz) := rfl
theorem frz_ra {H : Hp} {sz id off m : Nat} {es : List AV} {t : TypeId} (h : hget H id = some (.arr sz es t)) (hn : n ≤ id) (ho : off + m ≤ es.length) : Eng.frz H.l n (k + 1) (.ra sz id off m) = (((es.drop off).take m).mapM (Eng.frz H.l n k)).map (.sl sz) := by
  unfold hget at h
  show (if id < n then _ else _) = _
  rw [if_neg (by omega), h]
  exact if_pos ⟨rfl, ho⟩
@[simp] theorem mapM_nil' {g : AV → Option AV} : List.mapM g [] = some [] := rfl
end
theorem Fzr.frz {sz : Nat} {x : AV} {es : List AV} {L : HL} {n k : Nat} (h : Fzr sz x es) (hl : ∀ e ∈ es, ∃ v, e = .lit v) : Eng.frz L n (k + 2) x = some x := by
  rcases h with ⟨rfl, rfl⟩ | rfl
  · rfl
  · rw [frz_sl, frz_lits hl]; rfl
theorem Fzr.good {sz : Nat} {x : AV} {es : List AV} (h : Fzr sz x es) : x.good = true ∧ x.cells = [x] := by
  rcases h with ⟨rfl, rfl⟩ | rfl <;> exact ⟨rfl, rfl⟩
/-- A row of bytes: nil, or frozen. -/
abbrev IsBytes (x : AV) (b : List UInt8) : Prop := Fzr 1 x (b.map avByte)
theorem IsBytes.iaddr {x : AV} {b : List UInt8} {k : IntKind} {i : Int} (h : IsBytes x b) (h0 : 0 ≤ i) (h1 : i.toNat < b.length) : aiaddr 1 x (.lit (.int k i)) = some (.vp [avByte b[i.toNat]]) := by
  refine (Fzr.iaddr h h0 (e := avByte b[i.toNat]) ?_ rfl)
  simp [List.getElem?_eq_getElem h1]
theorem IsBytes.of {x : AV} {b : List UInt8} (h : (x = avNilS ∧ b = []) ∨ x = bytesAV b) : IsBytes x b := by
  rcases h with ⟨rfl, rfl⟩ | rfl
  · exact .inl ⟨rfl, rfl⟩
  · exact .inr rfl

theorem chunk_zero {sz : Nat} {lay : Option Nat} {cs : List AV} : chunk sz lay 0 cs = [] := rfl
theorem chunk_cons {sz n : Nat} {c : AV} {cs : List AV} : chunk sz none (n + 1) (c :: cs) = c :: chunk sz none n ((c :: cs).drop sz) := rfl
theorem chunk_agg {sz k n : Nat} {cs : List AV} : chunk sz (some k) (n + 1) cs = .agg (cs.take sz) :: chunk sz (some k) n (cs.drop sz) := rfl
attribute [simp] chunk_zero chunk_cons chunk_agg fillA repl
theorem Row.under {e : TypeId} {sz : Nat} {x : AV} {es : List AV} {os : List (Nat × AObj)} {H0 H : Hp} {r : List (Nat × AObj)} (h : Row e sz x es os) (hl : Loc H0 H r) (hs : ∀ p ∈ os, p ∈ r) (hu : x.under H0.l.length = true) : os = [] := by
  rcases h with ⟨rfl, rfl, rfl⟩ | ⟨id, rfl, rfl⟩
  · rfl
  · have := hl.ge (hs (id, .arr sz es e) (by simp))
    simp [AV.under] at hu
    simp only [] at this
    omega

/-! ### Rows that can be read: frozen, or of a live object -/
def Vw (H : Hp) (sz : Nat) (x : AV) (es : List AV) : Prop :=
  Fzr sz x es ∨ ∃ id off e all, x = .ra sz id off es.length ∧ hget H id = some (.arr sz all e) ∧ off + es.length ≤ all.length ∧ (all.drop off).take es.length = es
namespace Vw
variable {H H' : Hp} {sz : Nat} {x : AV} {es : List AV}
theorem len (h : Vw H sz x es) : asLen x = some es.length := by
  rcases h with h | ⟨id, off, e, all, rfl, _⟩
  · exact h.len
  · rfl
theorem elems (h : Vw H sz x es) : asElems H x = some es := by
  rcases h with h | ⟨id, off, e, all, rfl, h1, h2, h3⟩
  · exact h.elems
  · simp only [asElems, h1, if_pos h2, h3]
theorem keep (h : Vw H sz x es) (hk : ∀ id, id < H.l.length → hget H' id = hget H id) : Vw H' sz x es := by
  rcases h with h | ⟨id, off, e, all, h0, h1, h2⟩
  · exact .inl h
  · exact .inr ⟨id, off, e, all, h0, by rw [hk id (hget_lt h1)]; exact h1, h2⟩
theorem dd (h : Vw H sz x es) (d : Option Nat) : Vw { l := H.l, d := d } sz x es := h.keep fun _ _ => rfl
theorem good (h : Vw H sz x es) : x.good = true ∧ x.cells = [x] := by
  rcases h with h | ⟨id, off, e, all, rfl, _⟩
  · exact h.good
  · exact ⟨rfl, rfl⟩
theorem at' {k : IntKind} {i : Int} {e : AV} (h : Vw H sz x es) (h0 : 0 ≤ i) (h1 : es[i.toNat]? = some e) (hg : e.good = true) (hs : sz = 1) (hc : e.cells = [e]) : ∃ p, aiaddr sz x (.lit (.int k i)) = some p ∧ aload H none p = some e := by
  rcases h with h | ⟨id, off, t, all, rfl, h2, h3, h4⟩
  · exact ⟨_, h.iaddr h0 h1 hg, by rw [hc]; rfl⟩
  · have hi : i.toNat < es.length := (List.getElem?_eq_some_iff.1 h1).1
    refine ⟨.ep id (off + i.toNat) 0, by simp [aiaddr, h0, hi], ?_⟩
    have he : all[off + i.toNat]? = some e := by
      rw [← h1, ← h4, List.getElem?_take, if_pos hi, List.getElem?_drop]
    subst hs
    simp only [aload, h2, he, hg, if_true]
    rw [if_neg (by simp), hc]
    simp
theorem slice {lo hi : Option AV} {l m : Nat} (h : Vw H sz x es) (h1 : aBound hi es.length es.length = some m) (h2 : aBound lo 0 m = some l) (hm : m ≤ es.length) : ∃ y, aslice sz x lo hi = some y ∧ Vw H sz y ((es.drop l).take (m - l)) := by
  rcases h with h | ⟨id, off, t, all, rfl, h3, h4, h5⟩
  · obtain ⟨y, e, f⟩ := h.slice h1 h2
    exact ⟨y, e, .inl f⟩
  · have hlm : l ≤ m := by
      cases lo with
      | none => simp [aBound] at h2; omega
      | some v =>
        cases v with
        | lit w => cases w <;> simp [aBound] at h2; obtain ⟨⟨a, b⟩, c⟩ := h2; omega
        | _ => simp [aBound] at h2
    have hl : ((es.drop l).take (m - l)).length = m - l := by simp; omega
    refine ⟨.ra sz id (off + l) (m - l), by simp [aslice, h1, h2], .inr ⟨id, off + l, t, all, by rw [hl], h3, by rw [hl]; omega, ?_⟩⟩
    rw [hl]
    conv => rhs; rw [← h5]
    rw [List.drop_take, List.drop_drop, List.take_take]
    congr 1
    omega
theorem cut {k k' : IntKind} {i j : Int} (h : Vw H sz x es) (h0 : 0 ≤ i) (h1 : i ≤ j) (h2 : j ≤ es.length) : ∃ y, aslice sz x (some (.lit (.int k i))) (some (.lit (.int k' j))) = some y ∧ Vw H sz y ((es.drop i.toNat).take (j.toNat - i.toNat)) := by
  have h3 : 0 ≤ j := by omega
  have h4 : i ≤ (j.toNat : Int) := by omega
  refine h.slice (m := j.toNat) (l := i.toNat) ?_ ?_ (by omega)
  · simp [aBound, h2, h3]
  · unfold aBound; simp only []; rw [if_pos ⟨h0, h4⟩]
theorem under (h : Vw H sz x es) (hu : AV.unders H.l.length es = true) : x.under H.l.length = true := by
  rcases h with h | ⟨id, off, t, all, rfl, h3, h4, h5⟩
  · exact h.under hu
  · simpa [AV.under] using hget_lt h3
theorem frz {L : HL} {k : Nat} (h : Vw H sz x es) (hl : ∀ e ∈ es, ∃ v, e = .lit v) : Eng.frz L H.l.length (k + 2) x = some x := by
  rcases h with h | ⟨id, off, t, all, rfl, h3, h4, h5⟩
  · exact h.frz hl
  · show (if id < H.l.length then _ else _) = _
    rw [if_pos (hget_lt h3)]
end Vw
theorem Row.vw {e : TypeId} {sz : Nat} {x : AV} {es : List AV} {os r : List (Nat × AObj)} {H0 H : Hp} (h : Row e sz x es os) (hl : Loc H0 H (os ++ r)) : Vw H sz x es := by
  rcases h with ⟨rfl, rfl, rfl⟩ | ⟨id, rfl, rfl⟩
  · exact .inl (.inl ⟨rfl, rfl⟩)
  · exact .inr ⟨id, 0, e, es, rfl, hl.head, by omega, by simp⟩
abbrev VBytes (H : Hp) (x : AV) (b : List UInt8) : Prop := Vw H 1 x (b.map avByte)
theorem VBytes.at' {H : Hp} {x : AV} {b : List UInt8} {k : IntKind} {i : Int} (h : VBytes H x b) (h0 : 0 ≤ i) (h1 : i.toNat < b.length) : ∃ p, aiaddr 1 x (.lit (.int k i)) = some p ∧ aload H none p = some (avByte b[i.toNat]) :=
  Vw.at' h h0 (by simp [List.getElem?_eq_getElem h1]) rfl rfl rfl
theorem VBytes.str {H : Hp} {x : AV} {b : List UInt8} (h : VBytes H x b) : (asElems H x).bind bytesOf = some b := by rw [Vw.elems h]; simp
theorem IsBytes.v {H : Hp} {x : AV} {b : List UInt8} (h : IsBytes x b) : VBytes H x b := .inl h
end Go.Proofs.Eng
