/- The engine, part Y: from an abstract call that comes to true to what a row asks; bytes and numbers read. -/
import Derived.Test.YtkofnmiopjnhiaaGreatDoorEngX
import Derived.ProofKit
set_option linter.unusedVariables false
set_option linter.unusedSimpArgs false
namespace Go.Proofs.Eng
open Go Go.RowKit Go.ChangeShapes Go.WideShapes Go.ChangeAt

section
variable {P : Program} {W : World}

/-- The memory as the call finds it: nothing is owned, all reads as it stands. -/
noncomputable abbrev fz0 (W : World) : Fz := fzOf io0 [] W

theorem relH0 {PC : Code → AC → Prop} : RelH PC io0 [] W := ⟨rfl, fun i o p h => by simp at h, fun i j oi oj p q h => by simp at h, fun k hk => by simp at hk, fun k hk => by simp at hk⟩

theorem fzc0 (a : Addr) : fzc (fz0 W) a = W.cell? a := by
  have h : ∀ k, fz0 W k = W.heap[k]? := by
    intro k
    unfold fz0 fzOf
    rw [if_neg]
    rintro (⟨i, o, p, h, _⟩ | h)
    · simp at h
    · simp at h
  simp only [fzc, World.cell?, h]
  by_cases hs : a.spot.isSome = true
  · simp only [hs, if_true]
    split <;> rfl
  · simp only [hs, if_false, Bool.false_eq_true]
    rfl

theorem ent_calls {Γ : Sums} {A : Tab} (hΓ : GOK P Γ) (hT : TOK P A) {n : Nat} {f : FuncId} {xs : List AV} {h : Option Hp} {args : Array Value} {b : Bool} (hx : VRels io0 (fz0 W) xs args.toList)
    (e : (env Γ A n).ent f xs ⟨[], none⟩ = some (.lit (.bool b), h)) : Calls P f args W fun en W' => en = .returned (.bool b) ∧ Below W.heap.size W W' := by
  obtain ⟨_, h2⟩ := (env_sound hΓ hT n).ent (H := ⟨[], none⟩) relH0 hx e
  refine (callsIn_wide.1 h2).mono fun en W' he => ?_
  cases en with
  | panicked c => exact he.elim
  | outgrown => exact he.elim
  | returned v =>
    obtain ⟨ι', s, _, hv⟩ := he
    simp only [VRel] at hv
    subst hv
    refine ⟨rfl, s.os, s.tape, s.output, s.size, fun k hk => (s.frame k hk ?_).2⟩
    rintro ⟨i, o, p, h, _⟩
    simp at h

theorem trodAll_stays {H : Type} {enc : TypeId × Value → H} (hl : laidOutB P = true) {W' : World} (hb : Below W.heap.size W W') : ∀ {ts : List TypeId} {vs : List Value} {ds : List (DataW H)} {ps : List MemPlace},
    (ts.all fun t => P.readableRec t && decide (t < P.types.size)) = true → DataW.TrodAll enc P W 0 (fun _ => true) true ts vs ds ps → (∀ x ∈ ps, x.block < W.heap.size) →
    DataW.TrodAll enc P W' 0 (fun b => decide (b < W.heap.size)) true ts vs ds ps
  | [], vs, ds, ps, _, h, _ => by
    obtain ⟨rfl, rfl, rfl⟩ := trodAll_nil h
    exact rfl
  | t :: ts, vs, ds, ps, hr, h, hlt => by
    obtain ⟨v, vs', d, ds', p, q, rfl, rfl, rfl, h1, h2⟩ := trodAll_cons h
    simp only [List.all_cons, Bool.and_eq_true, decide_eq_true_eq] at hr
    have a1 := Below.trod hl hr.1.1 hr.1.2 h1 hb (fun x hx => hlt x (by simp [hx]))
    have a2 := trodAll_stays hl hb (by simpa using hr.2) h2 (fun x hx => hlt x (by simp [hx]))
    exact ⟨p, q, a1, a2, rfl⟩

/-- A law: whatever the arguments, true; the arguments read as they did. -/
theorem law_contract {H : Type} {enc : TypeId × Value → H} {fn : Func} {s : ChangeSpec} {Γ : Sums} {A : Tab} (hΓ : GOK P Γ) (hT : TOK P A) (hl : laidOutB P = true) {f : FuncId} {n : Nat} {args : Array Value} {ds gs : List (DataW H)} {before : List MemPlace} {tb : TypeId}
    (hs0 : s.vars = []) (hrt : fn.resultTypes = #[tb]) (htb : P.underlying tb = some .bool) (hr : (fn.params.toList.all fun t => P.readableRec t && decide (t < P.types.size)) = true)
    (hW : DataW.Whole enc P fn.params.toList s.vars false W args.toList ds gs before) (hs : (s.fn H (ds ++ gs)).results = [.lit (.bool true)] ∧ (s.fn H (ds ++ gs)).args = ds ∧ (s.fn H (ds ++ gs)).vars = [])
    {xs : List AV} (hx : VRels io0 (fz0 W) xs args.toList) (e : ∃ h, (env Γ A n).ent f xs ⟨[], none⟩ = some (.lit (.bool true), h)) :
    Calls P f args W fun en W' => ∃ v, en = .returned v ∧ s.post enc P fn false true false false W args v W' := by
  obtain ⟨h, e⟩ := e
  refine (ent_calls hΓ hT hx e).mono fun en W' ⟨he, hb⟩ => ⟨_, he, ?_⟩
  have hW' := hW
  obtain ⟨p, q, hA, hV, rfl, _, _⟩ := hW
  refine ⟨ds, gs, p ++ q, [], p, [], hW', ?_, ?_, ?_, hb.frame _, fun hh => by cases hh⟩
  · rw [hs.1, hrt]
    exact trodAll_mk1 (shut_bool htb true)
  · rw [hs.2.1]
    exact trodAll_stays hl hb hr hA (fun x hx => hW'.lt x (by simp [hx]))
  · rw [hs.2.2, hs0]
    exact rfl

/-! ### Arguments read -/
def bytesAV (bs : List UInt8) : AV := .sl 1 (bs.map avByte)

theorem byte_of {n : Int} (h : (Lit.int .u8 n).wf = true) : n = (UInt8.ofNat n.toNat).toNat ∧ AV.lit (.int .u8 n) = avByte (UInt8.ofNat n.toNat) := by
  have h2 : 0 ≤ n ∧ n ≤ 255 := by
    simp [Lit.wf, IntKind.min, IntKind.max, IntKind.signed, IntKind.bits] at h
    omega
  have : n = (UInt8.ofNat n.toNat).toNat := by
    simp
    omega
  exact ⟨this, by unfold avByte; rw [← this]⟩

/-- A row of bytes, as an argument. -/
theorem read_bytes {H : Type} {enc : TypeId × Value → H} {t e : TypeId} {a0 : Option Addr} {ln cp : Nat} {d : DataW H} {p : List MemPlace} (ht : P.underlying t = some (.slice e)) (he : P.underlying e = some (.int .u8)) (hc : P.cellsOf e = 1)
    (h : DataW.Trod enc P W 0 (fun _ => true) true t (.slice a0 ln cp) d p) : ∃ (x : AV) (bs : List UInt8), VRel io0 (fz0 W) x (.slice a0 ln cp) ∧ bs.length ≤ maxLen ∧ ((x = avNilS ∧ bs = []) ∨ x = bytesAV bs) := by
  obtain ⟨fuel, hf⟩ := h
  rcases open_ints ht he hc hf with ⟨hcs, hx⟩ | ⟨a, len, cap, zs, hcs, _, hl, hm, hz, hx, hcell, hwz⟩
  · simp [Value.cells] at hcs
    obtain ⟨rfl, rfl, rfl⟩ := hcs
    exact ⟨avNilS, [], by simp only [VRel], by simp, .inl ⟨rfl, rfl⟩⟩
  · simp [Value.cells] at hcs
    obtain ⟨rfl, rfl, rfl⟩ := hcs
    simp only [if_true] at hz
    have hw : ∀ n ∈ zs.take ln, (Lit.int .u8 n).wf = true := fun n hn => hwz n (List.mem_of_mem_take hn)
    have hlen : ((zs.take ln).map fun n => UInt8.ofNat n.toNat).length = ln := by simp; omega
    have hbs : ((zs.take ln).map fun n => UInt8.ofNat n.toNat).map avByte = (zs.take ln).map fun n => AV.lit (.int .u8 n) := by
      rw [List.map_map]
      apply List.map_congr_left
      intro n hn
      exact ((byte_of (hw n hn)).2).symm
    refine ⟨bytesAV ((zs.take ln).map fun n => UInt8.ofNat n.toNat), (zs.take ln).map fun n => UInt8.ofNat n.toNat, ?_, by rw [hlen]; omega, .inr rfl⟩
    unfold bytesAV
    rw [hbs]
    simp only [VRel]
    have hl2 : ((zs.take ln).map fun n => AV.lit (.int .u8 n)).length = ln := by simp; omega
    have hflat : flat ((zs.take ln).map fun n => Value.int .u8 n) = (zs.take ln).map fun n => Value.int .u8 n := flat_ints _
    refine ⟨a, cp, (zs.take ln).map fun n => Value.int .u8 n, by rw [hl2], by rw [hl2]; exact hl, ?_, by intro u hu; obtain ⟨x, _, rfl⟩ := List.mem_map.1 hu; rfl, ?_⟩
    · have : ((zs.take ln).map fun n => AV.lit (.int .u8 n)) = ((zs.take ln).map fun n => Value.int .u8 n).map AV.lit := by rw [List.map_map]; rfl
      rw [this]
      exact VRels_lits _
    · intro j hj
      rw [hflat] at hj ⊢
      simp at hj
      rw [fzc0, hcell j (by omega)]
      have h1 : j < ln := by omega
      have h2 : j < zs.length := by omega
      simp [List.getElem?_take, h1, List.getD_eq_getElem?_getD, List.getElem?_eq_getElem h2]

end
end Go.Proofs.Eng
