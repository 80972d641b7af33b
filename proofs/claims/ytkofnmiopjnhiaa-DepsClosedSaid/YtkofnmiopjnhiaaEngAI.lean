/- The engine, part AI: calls that write old objects; maps with texts for keys. -/
import Derived.Test.YtkofnmiopjnhiaaM26
set_option linter.unusedVariables false
set_option linter.unusedSimpArgs false
namespace Go.Proofs.Eng
open Go

/-! ### What a call writes -/
/-- Of the old objects those of W alone are written. -/
structure Mut (H H' : Hp) (W : List Nat) : Prop where
  len : H.l.length ≤ H'.l.length
  old : ∀ i, i < H.l.length → i ∉ W → H'.l[i]? = H.l[i]?
  d : ∀ m, H'.d = some m → (∃ k, H.d = some k ∧ k ≤ m) ∨ H.l.length ≤ m ∨ ∃ i ∈ W, i ≤ m

namespace Mut
variable {H H' H0 H1 : Hp} {W V : List Nat} {os os' : List (Nat × AObj)} {i : Nat} {o : AObj}
theorem refl (H : Hp) (W : List Nat) : Mut H H W := ⟨Nat.le_refl _, fun _ _ _ => rfl, fun m h => .inl ⟨m, h, Nat.le_refl _⟩⟩
theorem start (H : Hp) (W : List Nat) : Mut H { l := H.l, d := none } W := ⟨Nat.le_refl _, fun _ _ _ => rfl, fun m h => by simp at h⟩
theorem alloc (h : Mut H H' W) (o : AObj) : Mut H (halloc H' o) W := by
  refine ⟨by have := h.len; simp; omega, fun i hi hw => ?_, fun m hm => h.d m (by simpa using hm)⟩
  rw [← h.old i hi hw]
  have := h.len
  simp only [halloc]
  rw [List.getElem?_append_left (by omega)]
theorem set (h : Mut H H' W) {o : Option AObj} (hi : i ∈ W ∨ H.l.length ≤ i) : Mut H (hset H' i o) W := by
  refine ⟨by have := h.len; simp; omega, fun j hj hw => ?_, fun m hm => ?_⟩
  · rw [← h.old j hj hw]
    simp only [hset]
    rw [List.getElem?_set]
    have : i ≠ j := by
      rintro rfl
      rcases hi with hi | hi
      · exact hw hi
      · omega
    simp [this]
  · simp only [hset_d] at hm
    cases hd : H'.d with
    | none =>
      rw [hd] at hm
      simp only [dmin_none, Option.some.injEq] at hm
      subst hm
      rcases hi with hi | hi
      · exact .inr (.inr ⟨i, hi, Nat.le_refl _⟩)
      · exact .inr (.inl hi)
    | some k =>
      rw [hd] at hm
      simp only [dmin_some', Option.some.injEq] at hm
      by_cases hk : k ≤ i
      · exact h.d m (by rw [hd, ← hm]; congr 1; omega)
      · have : m = i := by omega
        subst this
        rcases hi with hi | hi
        · exact .inr (.inr ⟨m, hi, Nat.le_refl _⟩)
        · exact .inr (.inl hi)
theorem settled (h : Mut { l := H.l, d := none } H' W) : Mut H { l := H'.l, d := dminO H.d H'.d } W := by
  refine ⟨h.len, h.old, fun m hm => ?_⟩
  simp only at hm
  cases hd : H'.d with
  | none => rw [hd] at hm; exact .inl ⟨m, hm, Nat.le_refl _⟩
  | some k =>
    rw [hd] at hm
    have hk := h.d k hd
    simp only [Option.some.injEq, reduceCtorEq, false_and, exists_false, false_or] at hk
    cases hH : H.d with
    | none =>
      rw [hH] at hm
      simp only [dminO_some, dmin_none, Option.some.injEq] at hm
      subst hm
      exact .inr hk
    | some j =>
      rw [hH] at hm
      simp only [dminO_some, dmin_some', Option.some.injEq] at hm
      by_cases hj : j ≤ k
      · exact .inl ⟨j, rfl, by omega⟩
      · have : m = k := by omega
        subst this
        exact .inr hk
theorem trans (h : Mut H H1 W) (k : Mut H1 H' V) (hV : ∀ i ∈ V, i ∈ W ∨ H.l.length ≤ i) : Mut H H' W := by
  refine ⟨Nat.le_trans h.len k.len, fun i hi hw => ?_, fun m hm => ?_⟩
  · rw [k.old i (Nat.lt_of_lt_of_le hi h.len) (fun hv => ?_), h.old i hi hw]
    rcases hV i hv with hv | hv
    · exact hw hv
    · omega
  · rcases k.d m hm with ⟨j, hj, hle⟩ | hle | ⟨i, hi, hle⟩
    · rcases h.d j hj with ⟨q, hq, hq'⟩ | hq | ⟨q, hq, hq'⟩
      · exact .inl ⟨q, hq, by omega⟩
      · exact .inr (.inl (by omega))
      · exact .inr (.inr ⟨q, hq, by omega⟩)
    · exact .inr (.inl (Nat.le_trans h.len hle))
    · rcases hV i hi with hv | hv
      · exact .inr (.inr ⟨i, hv, hle⟩)
      · exact .inr (.inl (by omega))
theorem get (h : Mut H H' W) (hi : i < H.l.length) (hw : i ∉ W) : hget H' i = hget H i := by unfold hget; rw [h.old i hi hw]
theorem get' (h : Mut H H' W) (hg : hget H i = some o) (hw : i ∉ W) : hget H' i = some o := by rw [h.get (hget_lt hg) hw]; exact hg
theorem vw {sz : Nat} {x : AV} {es : List AV} (h : Mut H H' W) (hx : Vw H sz x es) (hw : ∀ id off n, x = .ra sz id off n → id ∉ W) : Vw H' sz x es := by
  rcases hx with hx | ⟨id, off, e, all, h0, h1, h2⟩
  · exact .inl hx
  · exact .inr ⟨id, off, e, all, h0, h.get' h1 (hw _ _ _ h0), h2⟩
end Mut

theorem Loc.mut {H H' H0 : Hp} {W : List Nat} {os os' : List (Nat × AObj)} (h : Loc H0 H os) (k : Mut H H' W) (hW : ∀ i ∈ W, H0.l.length ≤ i) (hos : ∀ p ∈ os', hget H' p.1 = some p.2 ∧ H0.l.length ≤ p.1) (hn : (os'.map Prod.fst).Nodup) : Loc H0 H' os' := by
  refine ⟨Nat.le_trans h.len k.len, fun m hm => ?_, fun i hi => ?_, hos, hn⟩
  · rcases k.d m hm with ⟨j, hj, hle⟩ | hle | ⟨i, hi, hle⟩
    · exact Nat.le_trans (h.d j hj) hle
    · exact Nat.le_trans h.len hle
    · exact Nat.le_trans (hW i hi) hle
  · rw [k.old i (Nat.lt_of_lt_of_le hi h.len) (fun hw => by have := hW i hw; omega), h.old i hi]

/-! ### Maps with texts for keys -/
def keyB : Value → List UInt8
  | .string s => bl s
  | _ => []
def SKeys (es : List (Value × AV × Nat)) : Prop := ∀ e ∈ es, ∃ s, e.1 = .string s
def KV (es : List (Value × AV × Nat)) : List (List UInt8 × AV) := es.map fun e => (keyB e.1, e.2.1)
def vFind (k : List UInt8) : List (List UInt8 × AV) → Option (Nat × AV)
  | [] => none
  | e :: r => if k = e.1 then some (0, e.2) else (vFind k r).map fun p => (p.1 + 1, p.2)
def vPut (k : List UInt8) (v : AV) (l : List (List UInt8 × AV)) : List (List UInt8 × AV) :=
  match vFind k l with
  | some p => l.modify p.1 fun _ => (k, v)
  | none => l ++ [(k, v)]
def vDel (k : List UInt8) (l : List (List UInt8 × AV)) : List (List UInt8 × AV) :=
  match vFind k l with
  | some p => l.eraseIdx p.1
  | none => l
theorem kFind_str {s : ByteArray} : ∀ {es : List (Value × AV × Nat)}, SKeys es → kFind .string (.string s) es = some (vFind (bl s) (KV es))
  | [], _ => rfl
  | e :: r, h => by
    obtain ⟨t, ht⟩ := h e (by simp)
    have ih := kFind_str (s := s) (es := r) fun x hx => h x (by simp [hx])
    simp only [kFind, KV, List.map_cons, vFind, ht, kSame, keyB]
    by_cases hc : bl s = bl t
    · simp [hc]
    · have : (bl s == bl t) = false := by simpa using hc
      rw [this]
      simp only [hc, if_false]
      rw [ih]
      rfl
theorem mPut_str {s : ByteArray} {v : AV} {es : List (Value × AV × Nat)} {clk : Nat} (h : SKeys es) : ∃ es' clk', mPut .string (.string s) v es clk = some (es', clk') ∧ SKeys es' ∧ KV es' = vPut (bl s) v (KV es) := by
  unfold mPut vPut
  rw [kFind_str h]
  cases hf : vFind (bl s) (KV es) with
  | none =>
    refine ⟨_, _, rfl, fun e he => ?_, by simp [KV, keyB]⟩
    rcases List.mem_append.1 he with he | he
    · exact h e he
    · simp only [List.mem_singleton] at he; subst he; exact ⟨_, rfl⟩
  | some p =>
    refine ⟨_, _, rfl, fun e he => ?_, ?_⟩
    · obtain ⟨i, hi, rfl⟩ := List.mem_iff_getElem.1 he
      rw [List.getElem_modify]
      split
      · exact ⟨_, rfl⟩
      · exact h _ (List.getElem_mem _)
    · simp only [KV]
      apply List.ext_getElem?
      intro i
      simp only [List.getElem?_map, List.getElem?_modify]
      cases es[i]? with
      | none => rfl
      | some e => by_cases hp : p.1 = i <;> simp [hp, keyB]
theorem SKeys.erase {es : List (Value × AV × Nat)} (h : SKeys es) (i : Nat) : SKeys (es.eraseIdx i) := fun e he => h e ((List.eraseIdx_sublist _ _).subset he)
@[simp] theorem asKey_str {s : ByteArray} : asKey .string (.lit (.string s)) = some (.string s) := rfl
theorem aLookup_str {H : Hp} {id clk : Nat} {es : List (Value × AV × Nat)} {s : ByteArray} {z : AV} (hg : hget H id = some (.map es clk)) (h : SKeys es) : aLookup H .string z true (.string s) (.map id) = some (.tup [((vFind (bl s) (KV es)).map Prod.snd).getD z, avBool (vFind (bl s) (KV es)).isSome]) := by
  simp only [aLookup, hg, kFind_str h]
  cases vFind (bl s) (KV es) <;> rfl
theorem aLookup_str' {H : Hp} {id clk : Nat} {es : List (Value × AV × Nat)} {s : ByteArray} {z : AV} (hg : hget H id = some (.map es clk)) (h : SKeys es) : aLookup H .string z false (.string s) (.map id) = some (((vFind (bl s) (KV es)).map Prod.snd).getD z) := by
  simp only [aLookup, hg, kFind_str h]
  cases vFind (bl s) (KV es) <;> rfl
theorem aMapupd_str {H : Hp} {id clk : Nat} {es : List (Value × AV × Nat)} {s : ByteArray} {v : AV} (hg : hget H id = some (.map es clk)) (h : SKeys es) :
    ∃ es' clk', aMapupd H .string (.string s) v (.map id) = some (hset H id (some (.map es' clk'))) ∧ SKeys es' ∧ KV es' = vPut (bl s) v (KV es) := by
  obtain ⟨es', clk', e, h1, h2⟩ := mPut_str (s := s) (v := v) (clk := clk) h
  exact ⟨es', clk', by simp [aMapupd, hg, e], h1, h2⟩
end Go.Proofs.Eng
