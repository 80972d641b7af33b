/- The engine, part AJ: arguments of any plain type read: numbers, texts, bools, slices, structs and arrays of these. -/
import Derived.Test.YtkofnmiopjnhiaaEngAG
import Derived.OpenShut
set_option linter.unusedVariables false
set_option linter.unusedSimpArgs false
namespace Go.Proofs.Eng
open Go Go.RowKit

/-! ### Types that can be read -/
def tileT (P : Program) : Nat → List Field → Option Nat
  | off, [] => some off
  | off, f :: fs => if f.offset = off then tileT P (off + P.cellsOf f.type) fs else none
def okT (P : Program) : Nat → TypeId → Bool
  | 0, _ => false
  | n + 1, t => match P.underlying t with
    | some .bool => true
    | some (.int _) => true
    | some .string => true
    | some (.slice e) => decide (P.cellsOf e ≠ 0) && okT P n e && (match P.underlying e with | some (.struct _) => true | some (.array _ _) => true | _ => decide (P.cellsOf e = 1))
    | some (.struct fs) => decide (tileT P 0 fs.toList = some (P.cellsOf t)) && fs.toList.all fun f => okT P n f.type
    | some (.array m e) => decide (P.cellsOf t = m * P.cellsOf e) && okT P n e
    | _ => false
/-- An element of a slice, of its cells. -/
def elemA (P : Program) (e : TypeId) (ys : List AV) : AV := match P.underlying e with
  | some (.struct _) => .agg ys
  | some (.array _ _) => .agg ys
  | _ => ys.headD avU
/-- Cells of a type. -/
def WT (P : Program) : Nat → TypeId → List AV → Prop
  | 0, _, _ => False
  | n + 1, t, xs => match P.underlying t with
    | some .bool => ∃ b, xs = [avBool b]
    | some (.int k) => ∃ m, xs = [.lit (.int k m)] ∧ (Lit.int k m).wf = true
    | some .string => ∃ s : List UInt8, xs = [avStr s] ∧ s.length ≤ maxLen
    | some (.slice e) => xs = [avNilS] ∨ ∃ yss : List (List AV), xs = [.sl (P.cellsOf e) (yss.map (elemA P e))] ∧ yss.length ≤ maxLen ∧ ∀ ys ∈ yss, ys.length = P.cellsOf e ∧ WT P n e ys
    | some (.struct fs) => xs.length = P.cellsOf t ∧ ∀ f ∈ fs.toList, WT P n f.type ((xs.drop f.offset).take (P.cellsOf f.type))
    | some (.array m e) => xs.length = P.cellsOf t ∧ ∀ i, i < m → WT P n e ((xs.drop (i * P.cellsOf e)).take (P.cellsOf e))
    | _ => False

theorem rows_of {α : Type} {Q : Nat → α → Prop} : ∀ n : Nat, (∀ i, i < n → ∃ y, Q i y) → ∃ l : List α, l.length = n ∧ ∀ i y, l[i]? = some y → Q i y
  | 0, _ => ⟨[], rfl, by simp⟩
  | n + 1, h => by
    obtain ⟨l, h1, h2⟩ := rows_of n fun i hi => h i (by omega)
    obtain ⟨y, hy⟩ := h n (by omega)
    refine ⟨l ++ [y], by simp [h1], fun i z hz => ?_⟩
    by_cases hi : i < n
    · rw [List.getElem?_append_left (by omega)] at hz
      exact h2 i z hz
    · rw [List.getElem?_append_right (by omega)] at hz
      have hi2 : i = n := by
        have := (List.getElem?_eq_some_iff.1 hz).1
        simp at this; omega
      subst hi2
      simp [h1] at hz
      subst hz; exact hy
theorem VRels_length {ι : Io} {fz : Fz} : ∀ {xs : List AV} {vs : List Value}, VRels ι fz xs vs → xs.length = vs.length
  | [], vs, h => by simp only [VRels] at h; subst h; rfl
  | x :: xs, vs, h => by
    simp only [VRels] at h
    obtain ⟨u, us, rfl, _, h⟩ := h
    simp [VRels_length h]
theorem VRels_app {ι : Io} {fz : Fz} : ∀ {xs : List AV} {vs : List Value} {ys : List AV} {us : List Value}, VRels ι fz xs vs → VRels ι fz ys us → VRels ι fz (xs ++ ys) (vs ++ us)
  | [], vs, ys, us, h, k => by simp only [VRels] at h; subst h; exact k
  | x :: xs, vs, ys, us, h, k => by
    simp only [VRels] at h
    obtain ⟨u, us', rfl, h1, h2⟩ := h
    simp only [List.cons_append, VRels]
    exact ⟨u, _, rfl, h1, VRels_app h2 k⟩
theorem VRels_get {ι : Io} {fz : Fz} : ∀ {xs : List AV} {vs : List Value}, xs.length = vs.length → (∀ (i : Nat) (x : AV) (v : Value), xs[i]? = some x → vs[i]? = some v → VRel ι fz x v) → VRels ι fz xs vs
  | [], vs, hl, h => by
    have : vs = [] := List.length_eq_zero_iff.1 hl.symm
    subst this; simp only [VRels]
  | x :: xs, vs, hl, h => by
    cases vs with
    | nil => simp at hl
    | cons v vs =>
      simp only [VRels]
      exact ⟨v, vs, rfl, h 0 x v rfl rfl, VRels_get (by simpa using hl) fun i y u hy hu => h (i + 1) y u (by simpa using hy) (by simpa using hu)⟩

theorem addr_add2 (a : Addr) (m n : Nat) : (a.add m).add n = a.add (m + n) := by
  unfold Addr.add
  by_cases hm : m = 0 <;> by_cases hn : n = 0 <;> simp [hm, hn, Nat.add_assoc]

section
variable {P : Program} {W : World}
/-- Pieces of cells, one behind the other. -/
theorem tiles {Q : Field → List AV → Prop} {ι : Io} {fz : Fz} {all : List Value} : ∀ (fs : List Field) (off tot : Nat) (pre : List AV), tileT P off fs = some tot → all.length = tot → VRels ι fz pre (all.take off) → off ≤ tot →
    (∀ f ∈ fs, ∃ ys, VRels ι fz ys ((all.drop f.offset).take (P.cellsOf f.type)) ∧ Q f ys) →
    ∃ xs, VRels ι fz xs all ∧ pre <+: xs ∧ ∀ f ∈ fs, Q f ((xs.drop f.offset).take (P.cellsOf f.type))
  | [], off, tot, pre, ht, hl, hp, ho, h => by
    simp only [tileT, Option.some.injEq] at ht
    subst ht
    rw [List.take_of_length_le (by omega)] at hp
    exact ⟨pre, hp, List.prefix_refl _, by simp⟩
  | f :: fs, off, tot, pre, ht, hl, hp, ho, h => by
    simp only [tileT] at ht
    split at ht
    · rename_i hf
      obtain ⟨ys, h1, h2⟩ := h f (by simp)
      rw [hf] at h1
      by_cases hle : off + P.cellsOf f.type ≤ tot
      · have hy : ys.length = P.cellsOf f.type := by rw [VRels_length h1]; simp; omega
        have hpl : pre.length = off := by rw [VRels_length hp]; simp; omega
        have hp2 : VRels ι fz (pre ++ ys) (all.take (off + P.cellsOf f.type)) := by
          rw [List.take_add]; exact VRels_app hp h1
        obtain ⟨xs, x1, x2, x3⟩ := tiles fs (off + P.cellsOf f.type) tot (pre ++ ys) ht hl hp2 hle (fun g hg => h g (by simp [hg]))
        refine ⟨xs, x1, (List.prefix_append _ _).trans x2, fun g hg => ?_⟩
        rcases List.mem_cons.1 hg with rfl | hg
        · obtain ⟨r, rfl⟩ := x2
          rw [hf, List.append_assoc, List.drop_append_of_le_length (by omega), List.drop_of_length_le (by omega), List.nil_append, List.take_append_of_le_length (by omega), List.take_of_length_le (by omega)]
          exact h2
        · exact x3 g hg
      · -- the rest is too long
        exfalso
        have : ∀ (fs : List Field) (o t : Nat), tileT P o fs = some t → o ≤ t := by
          intro fs
          induction fs with
          | nil => intro o t h; simp only [tileT, Option.some.injEq] at h; omega
          | cons g gs ih =>
            intro o t h
            simp only [tileT] at h
            split at h
            · have := ih _ _ h; omega
            · simp at h
        have := this _ _ _ ht
        omega
    · simp at ht

theorem tilesN {Q : List AV → Prop} {ι : Io} {fz : Fz} {all : List Value} {c : Nat} : ∀ m : Nat, m * c ≤ all.length → (∀ i, i < m → ∃ ys, VRels ι fz ys ((all.drop (i * c)).take c) ∧ Q ys) → ∃ xs, VRels ι fz xs (all.take (m * c)) ∧ ∀ i, i < m → Q ((xs.drop (i * c)).take c)
  | 0, hl, h => ⟨[], by simp only [Nat.zero_mul, List.take_zero, VRels], by omega⟩
  | m + 1, hl, h => by
    rw [Nat.succ_mul] at hl
    obtain ⟨xs, x1, x2⟩ := tilesN m (by omega) fun i hi => h i (by omega)
    obtain ⟨ys, y1, y2⟩ := h m (by omega)
    have hxl : xs.length = m * c := by rw [VRels_length x1]; simp; omega
    have hyl : ys.length = c := by rw [VRels_length y1]; simp; omega
    refine ⟨xs ++ ys, ?_, fun i hi => ?_⟩
    · rw [Nat.succ_mul, List.take_add]; exact VRels_app x1 y1
    · by_cases him : i < m
      · have hic : i * c + c ≤ m * c := by rw [← Nat.succ_mul]; exact Nat.mul_le_mul_right _ him
        rw [List.drop_append_of_le_length (by omega), List.take_append_of_le_length (by simp; omega)]
        exact x2 i him
      · have : i = m := by omega
        subst this
        rw [List.drop_append_of_le_length (by omega), List.drop_of_length_le (by omega), List.nil_append, List.take_of_length_le (by omega)]
        exact y2

/-- Rows of cells, one behind the other: each of c cells. -/
theorem flat_rows {c : Nat} : ∀ {vs : List Value} {i r : Nat} {v : Value}, (∀ u ∈ vs, u.cells.size = c) → vs[i]? = some v → r < c → (flat vs)[i * c + r]? = v.cells[r]?
  | [], i, r, v, _, h, _ => by simp at h
  | u :: us, 0, r, v, hc, h, hr => by
    simp only [List.getElem?_cons_zero, Option.some.injEq] at h
    subst h
    have := hc u (by simp)
    unfold flat
    simp only [List.flatMap_cons, Nat.zero_mul, Nat.zero_add]
    rw [List.getElem?_append_left (by simp; omega)]
    simp
  | u :: us, i + 1, r, v, hc, h, hr => by
    simp only [List.getElem?_cons_succ] at h
    have h1 := hc u (by simp)
    have ih := flat_rows (c := c) (fun x hx => hc x (by simp [hx])) h hr
    unfold flat at ih ⊢
    simp only [List.flatMap_cons]
    rw [List.getElem?_append_right (by simp only [Array.length_toList, h1, Nat.succ_mul]; omega)]
    rw [← ih]
    congr 1
    simp only [Array.length_toList, h1, Nat.succ_mul]
    omega
theorem flat_len {c : Nat} : ∀ {vs : List Value}, (∀ u ∈ vs, u.cells.size = c) → (flat vs).length = vs.length * c
  | [], _ => by simp [flat]
  | u :: us, h => by
    have h1 := h u (by simp)
    have ih := flat_len (c := c) fun x hx => h x (List.mem_cons_of_mem _ hx)
    unfold flat at ih ⊢
    simp only [List.flatMap_cons, List.length_append, List.length_cons, ih, Array.length_toList, h1, Nat.succ_mul]
    omega

def elemV (P : Program) (e : TypeId) (cs : List Value) : Value := match P.underlying e with
  | some (.struct _) => .agg cs.toArray
  | some (.array _ _) => .agg cs.toArray
  | _ => cs.headD .nilFunc
theorem elem_rel {ι : Io} {fz : Fz} {e : TypeId} {n : Nat} {ys : List AV} {cs : List Value} (h : VRels ι fz ys cs) (hw : WT P n e ys) (hl : (match P.underlying e with | some (.struct _) => true | some (.array _ _) => true | _ => decide (P.cellsOf e = 1)) = true) (hlen : cs.length = P.cellsOf e) :
    VRel ι fz (elemA P e ys) (elemV P e cs) ∧ (elemV P e cs).cells.toList = cs := by
  have one : P.cellsOf e = 1 → WT P n e ys → ((∃ b, ys = [avBool b]) ∨ (∃ k m, ys = [.lit (.int k m)]) ∨ (∃ s, ys = [avStr s]) ∨ ys = [avNilS] ∨ ∃ a b, ys = [.sl a b]) → VRel ι fz (ys.headD avU) (cs.headD .nilFunc) ∧ (cs.headD .nilFunc).cells.toList = cs := by
    intro _ _ hh
    have hc1 : ∃ c, cs = [c] := by
      have hyl : ys.length = 1 := by rcases hh with ⟨b, rfl⟩ | ⟨k, m, rfl⟩ | ⟨s, rfl⟩ | rfl | ⟨a, b, rfl⟩ <;> rfl
      have := VRels_length h
      rw [hyl] at this
      cases cs with
      | nil => simp at this
      | cons c r => 
        cases r with
        | nil => exact ⟨c, rfl⟩
        | cons _ _ => simp at this
    obtain ⟨c, rfl⟩ := hc1
    rcases hh with ⟨b, rfl⟩ | ⟨k, m, rfl⟩ | ⟨s, rfl⟩ | rfl | ⟨a, b, rfl⟩ <;> (obtain ⟨u, us, e1, h1, h2⟩ := VRels_cons_inv h; simp only [List.cons.injEq] at e1; obtain ⟨rfl, rfl⟩ := e1; refine ⟨h1, ?_⟩; simp only [VRel] at h1)
    · subst h1; rfl
    · subst h1; rfl
    · subst h1; rfl
    · subst h1; rfl
    · obtain ⟨a, cap, vs, rfl, _⟩ := h1; rfl
  cases n with
  | zero => simp [WT] at hw
  | succ n =>
  unfold elemA elemV
  have hw0 := hw
  unfold WT at hw
  cases hu : P.underlying e with
  | none => rw [hu] at hw; exact hw.elim
  | some d =>
    rw [hu] at hw hl
    cases d with
    | bool => obtain ⟨b, rfl⟩ := hw; exact one (by simpa using hl) hw0 (.inl ⟨b, rfl⟩)
    | int k => obtain ⟨m, rfl, _⟩ := hw; exact one (by simpa using hl) hw0 (.inr (.inl ⟨k, m, rfl⟩))
    | string => obtain ⟨s, rfl, _⟩ := hw; exact one (by simpa using hl) hw0 (.inr (.inr (.inl ⟨s, rfl⟩)))
    | slice e' =>
      rcases hw with rfl | ⟨yss, rfl, _⟩
      · exact one (by simpa using hl) hw0 (.inr (.inr (.inr (.inl rfl))))
      · exact one (by simpa using hl) hw0 (.inr (.inr (.inr (.inr ⟨_, _, rfl⟩))))
    | struct fs => exact ⟨by simp only [VRel]; exact ⟨_, rfl, h⟩, by simp [Value.cells]⟩
    | array m e' => exact ⟨by simp only [VRel]; exact ⟨_, rfl, h⟩, by simp [Value.cells]⟩
    | _ => exact hw.elim

theorem trod_read {H : Type} {enc : TypeId × Value → H} {sp : Nat → Bool} {held : Bool} : ∀ (n : Nat) {fuel : Nat} {t : TypeId} {cs : List Value} {x : DataW H × List MemPlace}, DataW.trod enc P W 0 sp held fuel t cs = some x → okT P n t = true → ∃ xs, VRels io0 (fz0 W) xs cs ∧ WT P n t xs
  | 0, fuel, t, cs, x, h, ho => by simp [okT] at ho
  | n + 1, fuel, t, cs, x, h, ho => by
    unfold okT at ho
    unfold WT
    cases hu : P.underlying t with
    | none => rw [hu] at ho; simp at ho
    | some d =>
      rw [hu] at ho
      cases d with
      | bool =>
        obtain ⟨b, rfl, _⟩ := DataW.trod_bool hu h
        exact ⟨[avBool b], by simp only [VRels_cons, VRels_nil, VRel, and_true], b, rfl⟩
      | int k =>
        obtain ⟨m, rfl, _, hw⟩ := DataW.trod_int hu h
        exact ⟨[.lit (.int k m)], by simp only [VRels_cons, VRels_nil, VRel, and_true], m, rfl, hw⟩
      | string =>
        obtain ⟨s, rfl, _, hs⟩ := DataW.trod_string hu h
        refine ⟨[avStr (bl s)], by simp only [VRels_cons, VRels_nil, VRel, and_true]; rfl, bl s, rfl, ?_⟩
        have : (bl s).length = s.size := by simp [bl]
        omega
      | slice e =>
        simp only [Bool.and_eq_true, decide_eq_true_eq] at ho
        obtain ⟨⟨hc0, hoe⟩, hl⟩ := ho
        rcases DataW.trod_slice hu h with ⟨rfl, _⟩ | ⟨a, len, cap, elems, rest, m, _, rfl, _, _, hlc, hcm, hel, hat, _⟩
        · exact ⟨[avNilS], by simp only [VRels_cons, VRels_nil, VRel, and_true], .inl rfl⟩
        · obtain ⟨prs, p1, p2⟩ := rows_of (α := List AV × List Value) (Q := fun i p => W.cells? 0 (a.add (i * P.cellsOf e)) (P.cellsOf e) = some p.2 ∧ VRels io0 (fz0 W) p.1 p.2 ∧ WT P n e p.1) len fun i hi => by
            have h1 := hat i hi
            rw [List.getElem?_eq_getElem (by omega : i < elems.length)] at h1
            obtain ⟨ci, c1, c2⟩ := Option.bind_eq_some_iff.1 h1
            obtain ⟨ys, y1, y2⟩ := trod_read n c2 hoe
            exact ⟨(ys, ci), c1, y1, y2⟩
          have key : ∀ (i : Nat) (p : List AV × List Value), prs[i]? = some p → p.1.length = P.cellsOf e ∧ VRel io0 (fz0 W) (elemA P e p.1) (elemV P e p.2) ∧ (elemV P e p.2).cells.toList = p.2 := by
            intro i p hp
            obtain ⟨q1, q2, q3⟩ := p2 i p hp
            have hlen := (World.cells?_some q1).2.1
            obtain ⟨r1, r2⟩ := elem_rel q2 q3 hl hlen
            exact ⟨by rw [VRels_length q2, hlen], r1, r2⟩
          have hsz : ∀ u ∈ prs.map (fun p => elemV P e p.2), u.cells.size = P.cellsOf e := by
            intro u hu2
            obtain ⟨p, hp, rfl⟩ := List.mem_map.1 hu2
            obtain ⟨i, hi⟩ := List.mem_iff_getElem?.1 hp
            obtain ⟨k1, k2, k3⟩ := key i p hi
            have : (elemV P e p.2).cells.toList.length = P.cellsOf e := by rw [k3]; exact (World.cells?_some (p2 i p hi).1).2.1
            simpa using this
          refine ⟨[.sl (P.cellsOf e) ((prs.map (·.1)).map (elemA P e))], ?_, .inr ⟨prs.map (·.1), rfl, by simp; omega, fun ys hy => ?_⟩⟩
          · simp only [VRels_cons, VRels_nil, and_true, VRel]
            refine ⟨a, cap, prs.map (fun p => elemV P e p.2), by simp [p1], by simp; omega, ?_, hsz, fun j hj => ?_⟩
            · refine VRels_get (by simp) fun i x v hx hv => ?_
              simp only [List.getElem?_map, Option.map_eq_some_iff] at hx hv
              obtain ⟨_, ⟨p, hp, rfl⟩, rfl⟩ := hx
              obtain ⟨p', hp', rfl⟩ := hv
              rw [hp] at hp'; cases hp'
              exact (key i p hp).2.1
            · rw [flat_len hsz] at hj
              simp only [List.length_map, p1] at hj
              have hi : j / P.cellsOf e < len := (Nat.div_lt_iff_lt_mul (by omega)).2 hj
              have hr : j % P.cellsOf e < P.cellsOf e := Nat.mod_lt _ (by omega)
              have hj2 : j = j / P.cellsOf e * P.cellsOf e + j % P.cellsOf e := (Nat.div_add_mod' _ _).symm
              have hp : prs[j / P.cellsOf e]? = some prs[j / P.cellsOf e] := List.getElem?_eq_getElem (by omega)
              obtain ⟨q1, _, _⟩ := p2 _ _ hp
              obtain ⟨_, _, q4⟩ := World.cells?_some q1
              rw [fzc0]
              conv => rhs; rw [hj2]
              rw [flat_rows hsz (by rw [List.getElem?_map, hp]; rfl) hr]
              have k3 := (key _ _ hp).2.2
              rw [← Array.getElem?_toList, k3, ← q4 _ hr]
              congr 1
              rw [addr_add2, ← hj2]
          · obtain ⟨p, hp, rfl⟩ := List.mem_map.1 hy
            obtain ⟨i, hi⟩ := List.mem_iff_getElem?.1 hp
            exact ⟨(key i p hi).1, (p2 i p hi).2.2⟩
      | struct fs =>
        simp only [Bool.and_eq_true, decide_eq_true_eq, List.all_eq_true] at ho
        obtain ⟨ys, m, _, _, hl, _, hat⟩ := DataW.trod_struct hu h
        obtain ⟨xs, x1, _, x3⟩ := tiles (P := P) (Q := fun f ys => WT P n f.type ys) (all := cs) fs.toList 0 (P.cellsOf t) [] ho.1 hl (by simp only [List.take_zero, VRels]) (Nat.zero_le _) fun f hf => by
          obtain ⟨i, hi⟩ := List.mem_iff_getElem?.1 hf
          have h1 := hat i f (by simpa using hi)
          have hlt : i < ys.length := by
            have := (List.getElem?_eq_some_iff.1 hi).1
            simp at this; omega
          rw [List.getElem?_eq_getElem hlt] at h1
          exact trod_read n h1 (ho.2 f hf)
        exact ⟨xs, x1, by rw [VRels_length x1, hl], x3⟩
      | array m e =>
        simp only [Bool.and_eq_true, decide_eq_true_eq] at ho
        obtain ⟨ys, f, _, _, hl, hyl, hat⟩ := DataW.trod_array hu h
        obtain ⟨xs, x1, x2⟩ := tilesN (ι := io0) (fz := fz0 W) (Q := fun ys => WT P n e ys) (all := cs) (c := P.cellsOf e) m (by omega) fun i hi => by
          have h1 := hat i hi
          rw [List.getElem?_eq_getElem (by omega : i < ys.length)] at h1
          exact trod_read n h1 ho.2
        rw [List.take_of_length_le (by omega)] at x1
        exact ⟨xs, x1, by rw [VRels_length x1, hl], x2⟩
      | _ => simp at ho
end
end Go.Proofs.Eng
