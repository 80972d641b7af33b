import Derived.Test.YtkofnmiopjnhiaaEngAK
import Derived.Laws.IdiomRangeMap
/- The engine, part AN: loops over functions that lay objects of their own and write these; such loops where what the body writes was there ahead. -/
set_option linter.unusedVariables false
set_option linter.unusedSimpArgs false
namespace Go.Proofs.Eng
open Go Go.RowKit

/-- A function that tells n elements, one by one; it may lay objects, and writes these. S: what the loop's body may write. -/
def GenO (W : Env) (g : FuncId) (fs cs : List AV) (V : Hp → Prop) (n : Nat) (X : Nat → Hp → List AV → Prop) : Prop :=
  ∀ (l : Nat) (H : Hp) (K : Nat → List Nat → Hp → Prop) (Kx : Hp → Prop) (S0 : List Nat), l < H.l.length → (∀ s ∈ S0, s < H.l.length) → l ∈ S0 →
    (∀ i S H' H'' O, K i S H' → Mut H' H'' O → (∀ o ∈ O, H.l.length ≤ o ∧ o ∉ S) → K i S H'') → (∀ i S H', K i S H' → V H') → K 0 S0 { l := H.l, d := none } →
    (∀ i S H' args, i < n → K i S H' → X i H' args → ∃ t H'' S', W.yld l args H' = some (avBool t, some H'') ∧ (∃ m, H''.d = some m ∧ m ≤ l) ∧ Mut H' H'' S ∧ (∀ s ∈ S', s ∈ S ∨ H'.l.length ≤ s) ∧ (∀ s ∈ S', s < H''.l.length) ∧ (t = true → K (i + 1) S' H'') ∧ (t = false → Kx H'')) →
    ∃ v h H2, W.ent g (fs ++ [.yld l] ++ cs) H = some (v, h) ∧ (h.getD H).l = H2.l ∧ (h.getD H).d = dminO H.d H2.d ∧ ((∃ S, K n S H2) ∨ Kx H2)

section
variable {Γ : Sums} {A : Tab} {H0 : Hp}

theorem GenM.own {W : Env} {g : FuncId} {fs cs : List AV} {V : Hp → Prop} {n : Nat} {X : Nat → Hp → List AV → Prop} (h : GenM W g fs cs V n X) : GenO W g fs cs V n X := fun l H K Kx S0 a b c hst hV h0 step =>
  h l H K Kx S0 a b c (fun i S H' H'' hK hM => hst i S H' H'' [] hK hM (by simp)) hV h0 (fun i S H' args hi hK hX => by
    obtain ⟨t, H'', S', a1, a2, a3, a4, _, a5, a6⟩ := step i S H' args hi hK hX
    exact ⟨t, H'', S', a1, a2, a3, a4, a5, a6⟩)
theorem Loc.apart {H H' : Hp} {os : List (Nat × AObj)} {O : List Nat} (h : Loc H0 H os) (k : Mut H H' O) (ho : ∀ o ∈ O, H0.l.length ≤ o ∧ o ∉ os.map Prod.fst) : Loc H0 H' os :=
  h.mut k (fun i hi => (ho i hi).1) (fun p hp => ⟨k.get' (h.get hp) (fun hm => (ho _ hm).2 (List.mem_map.2 ⟨p, hp, rfl⟩)), h.ge hp⟩) h.nd

end
end Go.Proofs.Eng
/- The engine, part AO: drawn regions in which something must spare what was read: each operation by itself. Printed by a program. -/
set_option linter.unusedVariables false
namespace Go.Proofs.Eng
open Go
section
variable {E : Env} {ρ : Rho} {H : Hp}
@[simp ↓] theorem wpE_mov {v0 : Opd} {R : List Nat} {d : Option Nat} {r : List AOper} {q : Nat} {qs : List Nat} {Q : Rho → Hp → Prop} : wpE E R (⟨d, .mov v0, none⟩ :: r) (q :: qs) ρ H Q = wpA E (lvQ q) (.mov v0) ρ H (fun v H' => wpE E R r qs (updO ρ d v) H' Q) := wpE_other rfl rfl
@[simp ↓] theorem wpE_pick {v0 v1 v2 : Opd} {R : List Nat} {d : Option Nat} {r : List AOper} {q : Nat} {qs : List Nat} {Q : Rho → Hp → Prop} : wpE E R (⟨d, .pick v0 v1 v2, none⟩ :: r) (q :: qs) ρ H Q = wpA E (lvQ q) (.pick v0 v1 v2) ρ H (fun v H' => wpE E R r qs (updO ρ d v) H' Q) := wpE_other rfl rfl
@[simp ↓] theorem wpE_box {v0 : TypeId} {v1 : Opd} {R : List Nat} {d : Option Nat} {r : List AOper} {q : Nat} {qs : List Nat} {Q : Rho → Hp → Prop} : wpE E R (⟨d, .box v0 v1, none⟩ :: r) (q :: qs) ρ H Q = wpA E (lvQ q) (.box v0 v1) ρ H (fun v H' => wpE E R r qs (updO ρ d v) H' Q) := wpE_other rfl rfl
@[simp ↓] theorem wpE_new {v0 : TypeId} {v1 : AV} {R : List Nat} {d : Option Nat} {r : List AOper} {q : Nat} {qs : List Nat} {Q : Rho → Hp → Prop} : wpE E R (⟨d, .new v0 v1, none⟩ :: r) (q :: qs) ρ H Q = wpA E (lvQ q) (.new v0 v1) ρ H (fun v H' => wpE E R r qs (updO ρ d v) H' Q) := wpE_other rfl rfl
@[simp ↓] theorem wpE_build {v0 : List AV} {v1 : List (Nat × Nat × Opd)} {R : List Nat} {d : Option Nat} {r : List AOper} {q : Nat} {qs : List Nat} {Q : Rho → Hp → Prop} : wpE E R (⟨d, .build v0 v1, none⟩ :: r) (q :: qs) ρ H Q = wpA E (lvQ q) (.build v0 v1) ρ H (fun v H' => wpE E R r qs (updO ρ d v) H' Q) := wpE_other rfl rfl
@[simp ↓] theorem wpE_bslice {v0 : TypeId} {v1 : Nat} {v2 : Option Nat} {v3 : Nat} {v4 : List AV} {v5 : List (Nat × Nat × Opd)} {R : List Nat} {d : Option Nat} {r : List AOper} {q : Nat} {qs : List Nat} {Q : Rho → Hp → Prop} : wpE E R (⟨d, .bslice v0 v1 v2 v3 v4 v5, none⟩ :: r) (q :: qs) ρ H Q = wpA E (lvQ q) (.bslice v0 v1 v2 v3 v4 v5) ρ H (fun v H' => wpE E R r qs (updO ρ d v) H' Q) := wpE_other rfl rfl
@[simp ↓] theorem wpE_nilchk {v0 : Opd} {R : List Nat} {d : Option Nat} {r : List AOper} {q : Nat} {qs : List Nat} {Q : Rho → Hp → Prop} : wpE E R (⟨d, .nilchk v0, none⟩ :: r) (q :: qs) ρ H Q = wpA E (lvQ q) (.nilchk v0) ρ H (fun v H' => wpE E R r qs (updO ρ d v) H' Q) := wpE_other rfl rfl
@[simp ↓] theorem wpE_bin {v0 : BinOp} {v1 v2 : Opd} {R : List Nat} {d : Option Nat} {r : List AOper} {q : Nat} {qs : List Nat} {Q : Rho → Hp → Prop} : wpE E R (⟨d, .bin v0 v1 v2, none⟩ :: r) (q :: qs) ρ H Q = wpA E (lvQ q) (.bin v0 v1 v2) ρ H (fun v H' => wpE E R r qs (updO ρ d v) H' Q) := wpE_other rfl rfl
@[simp ↓] theorem wpE_eq {v0 : Bool} {v1 : EqD} {v2 v3 : Opd} {R : List Nat} {d : Option Nat} {r : List AOper} {q : Nat} {qs : List Nat} {Q : Rho → Hp → Prop} : wpE E R (⟨d, .eq v0 v1 v2 v3, none⟩ :: r) (q :: qs) ρ H Q = wpA E (lvQ q) (.eq v0 v1 v2 v3) ρ H (fun v H' => wpE E R r qs (updO ρ d v) H' Q) := wpE_other rfl rfl
@[simp ↓] theorem wpE_un {v0 : UnOp} {v1 : Opd} {R : List Nat} {d : Option Nat} {r : List AOper} {q : Nat} {qs : List Nat} {Q : Rho → Hp → Prop} : wpE E R (⟨d, .un v0 v1, none⟩ :: r) (q :: qs) ρ H Q = wpA E (lvQ q) (.un v0 v1) ρ H (fun v H' => wpE E R r qs (updO ρ d v) H' Q) := wpE_other rfl rfl
@[simp ↓] theorem wpE_conv {v0 : ConvD} {v1 : Opd} {R : List Nat} {d : Option Nat} {r : List AOper} {q : Nat} {qs : List Nat} {Q : Rho → Hp → Prop} : wpE E R (⟨d, .conv v0 v1, none⟩ :: r) (q :: qs) ρ H Q = wpA E (lvQ q) (.conv v0 v1) ρ H (fun v H' => wpE E R r qs (updO ρ d v) H' Q) := wpE_other rfl rfl
@[simp ↓] theorem wpE_mkfn {v0 : FuncId} {v1 v2 : List Opd} {R : List Nat} {d : Option Nat} {r : List AOper} {q : Nat} {qs : List Nat} {Q : Rho → Hp → Prop} : wpE E R (⟨d, .mkfn v0 v1 v2, none⟩ :: r) (q :: qs) ρ H Q = wpA E (lvQ q) (.mkfn v0 v1 v2) ρ H (fun v H' => wpE E R r qs (updO ρ d v) H' Q) := wpE_other rfl rfl
@[simp ↓] theorem wpE_mkmap  {R : List Nat} {d : Option Nat} {r : List AOper} {q : Nat} {qs : List Nat} {Q : Rho → Hp → Prop} : wpE E R (⟨d, .mkmap, none⟩ :: r) (q :: qs) ρ H Q = wpA E (lvQ q) (.mkmap) ρ H (fun v H' => wpE E R r qs (updO ρ d v) H' Q) := wpE_other rfl rfl
@[simp ↓] theorem wpE_mkslice {v0 : TypeId} {v1 v2 : Nat} {v3 : AV} {v4 v5 : Opd} {R : List Nat} {d : Option Nat} {r : List AOper} {q : Nat} {qs : List Nat} {Q : Rho → Hp → Prop} : wpE E R (⟨d, .mkslice v0 v1 v2 v3 v4 v5, none⟩ :: r) (q :: qs) ρ H Q = wpA E (lvQ q) (.mkslice v0 v1 v2 v3 v4 v5) ρ H (fun v H' => wpE E R r qs (updO ρ d v) H' Q) := wpE_other rfl rfl
@[simp ↓] theorem wpE_slstr {v0 : Opd} {v1 v2 : Option Opd} {R : List Nat} {d : Option Nat} {r : List AOper} {q : Nat} {qs : List Nat} {Q : Rho → Hp → Prop} : wpE E R (⟨d, .slstr v0 v1 v2, none⟩ :: r) (q :: qs) ρ H Q = wpA E (lvQ q) (.slstr v0 v1 v2) ρ H (fun v H' => wpE E R r qs (updO ρ d v) H' Q) := wpE_other rfl rfl
@[simp ↓] theorem wpE_slice {v0 : Nat} {v1 : Opd} {v2 v3 : Option Opd} {R : List Nat} {d : Option Nat} {r : List AOper} {q : Nat} {qs : List Nat} {Q : Rho → Hp → Prop} : wpE E R (⟨d, .slice v0 v1 v2 v3, none⟩ :: r) (q :: qs) ρ H Q = wpA E (lvQ q) (.slice v0 v1 v2 v3) ρ H (fun v H' => wpE E R r qs (updO ρ d v) H' Q) := wpE_other rfl rfl
@[simp ↓] theorem wpE_faddr {v0 : Nat} {v1 : Opd} {R : List Nat} {d : Option Nat} {r : List AOper} {q : Nat} {qs : List Nat} {Q : Rho → Hp → Prop} : wpE E R (⟨d, .faddr v0 v1, none⟩ :: r) (q :: qs) ρ H Q = wpA E (lvQ q) (.faddr v0 v1) ρ H (fun v H' => wpE E R r qs (updO ρ d v) H' Q) := wpE_other rfl rfl
@[simp ↓] theorem wpE_field {v0 : Nat} {v1 : Option Nat} {v2 : Opd} {R : List Nat} {d : Option Nat} {r : List AOper} {q : Nat} {qs : List Nat} {Q : Rho → Hp → Prop} : wpE E R (⟨d, .field v0 v1 v2, none⟩ :: r) (q :: qs) ρ H Q = wpA E (lvQ q) (.field v0 v1 v2) ρ H (fun v H' => wpE E R r qs (updO ρ d v) H' Q) := wpE_other rfl rfl
@[simp ↓] theorem wpE_iaddr {v0 : Nat} {v1 v2 : Opd} {R : List Nat} {d : Option Nat} {r : List AOper} {q : Nat} {qs : List Nat} {Q : Rho → Hp → Prop} : wpE E R (⟨d, .iaddr v0 v1 v2, none⟩ :: r) (q :: qs) ρ H Q = wpA E (lvQ q) (.iaddr v0 v1 v2) ρ H (fun v H' => wpE E R r qs (updO ρ d v) H' Q) := wpE_other rfl rfl
@[simp ↓] theorem wpE_sidx {v0 v1 : Opd} {R : List Nat} {d : Option Nat} {r : List AOper} {q : Nat} {qs : List Nat} {Q : Rho → Hp → Prop} : wpE E R (⟨d, .sidx v0 v1, none⟩ :: r) (q :: qs) ρ H Q = wpA E (lvQ q) (.sidx v0 v1) ρ H (fun v H' => wpE E R r qs (updO ρ d v) H' Q) := wpE_other rfl rfl
@[simp ↓] theorem wpE_lookup {v0 : KD} {v1 : AV} {v2 v3 : Opd} {v4 : Bool} {R : List Nat} {d : Option Nat} {r : List AOper} {q : Nat} {qs : List Nat} {Q : Rho → Hp → Prop} : wpE E R (⟨d, .lookup v0 v1 v2 v3 v4, none⟩ :: r) (q :: qs) ρ H Q = wpA E (lvQ q) (.lookup v0 v1 v2 v3 v4) ρ H (fun v H' => wpE E R r qs (updO ρ d v) H' Q) := wpE_other rfl rfl
@[simp ↓] theorem wpE_mapupd {v0 : KD} {v1 v2 v3 : Opd} {R : List Nat} {d : Option Nat} {r : List AOper} {q : Nat} {qs : List Nat} {Q : Rho → Hp → Prop} : wpE E R (⟨d, .mapupd v0 v1 v2 v3, none⟩ :: r) (q :: qs) ρ H Q = wpA E (lvQ q) (.mapupd v0 v1 v2 v3) ρ H (fun v H' => wpE E R r qs (updO ρ d v) H' Q) := wpE_other rfl rfl
@[simp ↓] theorem wpE_extract {v0 : Opd} {v1 : Nat} {R : List Nat} {d : Option Nat} {r : List AOper} {q : Nat} {qs : List Nat} {Q : Rho → Hp → Prop} : wpE E R (⟨d, .extract v0 v1, none⟩ :: r) (q :: qs) ρ H Q = wpA E (lvQ q) (.extract v0 v1) ρ H (fun v H' => wpE E R r qs (updO ρ d v) H' Q) := wpE_other rfl rfl
@[simp ↓] theorem wpE_len {v0 : Opd} {R : List Nat} {d : Option Nat} {r : List AOper} {q : Nat} {qs : List Nat} {Q : Rho → Hp → Prop} : wpE E R (⟨d, .len v0, none⟩ :: r) (q :: qs) ρ H Q = wpA E (lvQ q) (.len v0) ρ H (fun v H' => wpE E R r qs (updO ρ d v) H' Q) := wpE_other rfl rfl
@[simp ↓] theorem wpE_lens {v0 : Opd} {R : List Nat} {d : Option Nat} {r : List AOper} {q : Nat} {qs : List Nat} {Q : Rho → Hp → Prop} : wpE E R (⟨d, .lens v0, none⟩ :: r) (q :: qs) ρ H Q = wpA E (lvQ q) (.lens v0) ρ H (fun v H' => wpE E R r qs (updO ρ d v) H' Q) := wpE_other rfl rfl
@[simp ↓] theorem wpE_lenm {v0 : Opd} {R : List Nat} {d : Option Nat} {r : List AOper} {q : Nat} {qs : List Nat} {Q : Rho → Hp → Prop} : wpE E R (⟨d, .lenm v0, none⟩ :: r) (q :: qs) ρ H Q = wpA E (lvQ q) (.lenm v0) ρ H (fun v H' => wpE E R r qs (updO ρ d v) H' Q) := wpE_other rfl rfl
@[simp ↓] theorem wpE_delete {v0 : KD} {v1 v2 : Opd} {R : List Nat} {d : Option Nat} {r : List AOper} {q : Nat} {qs : List Nat} {Q : Rho → Hp → Prop} : wpE E R (⟨d, .delete v0 v1 v2, none⟩ :: r) (q :: qs) ρ H Q = wpA E (lvQ q) (.delete v0 v1 v2) ρ H (fun v H' => wpE E R r qs (updO ρ d v) H' Q) := wpE_other rfl rfl
@[simp ↓] theorem wpE_clear {v0 : Nat} {v1 : AV} {v2 : Opd} {R : List Nat} {d : Option Nat} {r : List AOper} {q : Nat} {qs : List Nat} {Q : Rho → Hp → Prop} : wpE E R (⟨d, .clear v0 v1 v2, none⟩ :: r) (q :: qs) ρ H Q = wpA E (lvQ q) (.clear v0 v1 v2) ρ H (fun v H' => wpE E R r qs (updO ρ d v) H' Q) := wpE_other rfl rfl
@[simp ↓] theorem wpE_mnmx {v0 : Bool} {v1 : List Opd} {R : List Nat} {d : Option Nat} {r : List AOper} {q : Nat} {qs : List Nat} {Q : Rho → Hp → Prop} : wpE E R (⟨d, .mnmx v0 v1, none⟩ :: r) (q :: qs) ρ H Q = wpA E (lvQ q) (.mnmx v0 v1) ρ H (fun v H' => wpE E R r qs (updO ρ d v) H' Q) := wpE_other rfl rfl
@[simp ↓] theorem wpE_call {v0 : Opd} {v1 : List Opd} {R : List Nat} {d : Option Nat} {r : List AOper} {q : Nat} {qs : List Nat} {Q : Rho → Hp → Prop} : wpE E R (⟨d, .call v0 v1, none⟩ :: r) (q :: qs) ρ H Q = wpA E (lvQ q) (.call v0 v1) ρ H (fun v H' => wpE E R r qs (updO ρ d v) H' Q) := wpE_other rfl rfl
end
end Go.Proofs.Eng
/- The engine, part AP: drawn regions told apart by the order of pairs; iterators over maps; code run for whatever is drawn. -/
set_option linter.unusedVariables false
set_option linter.unusedSimpArgs false
namespace Go.Proofs.Eng
open Go Go.RowKit

/-! ### Orders of a region -/
/-- An order in which the operations of a region may come. -/
def Vld (md : Region.Mode) (ops : Array Oper) : Array Bool → List Nat → Prop
  | listed, [] => ∀ i, i < ops.size → listed.getD i true = true
  | listed, i :: r => i ∈ Region.ready md ops listed ∧ Vld md ops (listed.setIfInBounds i true) r

theorem ready_iff {md : Region.Mode} {ops : Array Oper} {listed : Array Bool} {i : Nat} : i ∈ Region.ready md ops listed ↔ i < ops.size ∧ listed.getD i true = false ∧ ∃ o, ops[i]? = some o ∧ ∀ e ∈ o.after.toList, Region.binds md e = true → listed.getD e.on false = true := by
  unfold Region.ready
  rw [List.mem_filter]
  simp only [List.mem_range, Bool.and_eq_true, Bool.not_eq_true']
  constructor
  · rintro ⟨h1, h2, h3⟩
    refine ⟨h1, h2, ?_⟩
    rw [Array.getElem?_eq_getElem h1] at h3
    refine ⟨ops[i], Array.getElem?_eq_getElem h1, ?_⟩
    simp only [Option.map_some, Option.getD_some] at h3
    intro e he hb
    have := (Array.all_eq_true_iff_forall_mem.1 h3) e (by simpa using he)
    simpa [hb] using this
  · rintro ⟨h1, h2, o, ho, h3⟩
    refine ⟨h1, h2, ?_⟩
    rw [ho]
    simp only [Option.map_some, Option.getD_some]
    rw [Array.all_eq_true_iff_forall_mem]
    intro e he
    by_cases hb : Region.binds md e = true
    · simp [h3 e (by simpa using he) hb]
    · simp [hb]

theorem ready_ne {md : Region.Mode} {ops : Array Oper} {listed : Array Bool} (hord : orders ops.toList = true) (hs : listed.size = ops.size) {i : Nat} (hi : i < ops.size) (hl : listed.getD i true = false) : Region.ready md ops listed ≠ [] := by
  intro hnil
  obtain ⟨j, o, g1, g2, g3, g4⟩ := orders_go (md := md) hord (p := fun k => !listed.getD k true) ⟨i, by simpa using hi, by simp [hl]⟩ (fun k hk => by
    have : ¬ k < listed.size := by simp at hk; omega
    simp [Array.getD, this])
  have hmem : j ∈ Region.ready md ops listed := by
    rw [ready_iff]
    refine ⟨by simpa using g1, by simpa using g2, o, by simpa using g3, fun e he hb => ?_⟩
    obtain ⟨k1, k2⟩ := g4 e he hb
    have hsz : e.on < listed.size := by simp at k2; omega
    simp only [Array.getD, hsz, dite_true, Bool.not_eq_false'] at k1 ⊢
    exact k1
  rw [hnil] at hmem
  simp at hmem

theorem getD_setB {l : Array Bool} {i k : Nat} (hi : i < l.size) (d : Bool) : (l.setIfInBounds i true).getD k d = if k = i then true else l.getD k d := by
  simp only [Array.getD_eq_getD_getElem?, Array.getElem?_setIfInBounds]
  by_cases h : i = k
  · subst h; simp [hi]
  · have : ¬ k = i := fun e => h e.symm
    simp [h, this]

theorem lin_vld {md : Region.Mode} {ops : Array Oper} (hord : orders ops.toList = true) : ∀ (fuel t : Nat) (listed : Array Bool) (U : List Nat), U.length = fuel → U.Nodup → (∀ i, i ∈ U ↔ i < ops.size ∧ listed.getD i true = false) → listed.size = ops.size →
    Vld md ops listed (Region.linearise.go md ops fuel t listed []) := by
  intro fuel
  induction fuel with
  | zero =>
    intro t listed U hn hU0 hU hs
    have : U = [] := List.length_eq_zero_iff.1 hn
    subst this
    simp only [Region.linearise.go, List.reverse_nil, Vld]
    intro i hi
    cases hb : listed.getD i true with
    | true => rfl
    | false => exact absurd ((hU i).2 ⟨hi, hb⟩) (by simp)
  | succ fuel ih =>
    intro t listed U hn hU0 hU hs
    simp only [Region.linearise.go]
    change Vld md ops listed (match (Region.ready md ops listed)[t % (Region.ready md ops listed).length]? with
      | some i => Region.linearise.go md ops fuel (t / (Region.ready md ops listed).length) (listed.setIfInBounds i true) [i]
      | none => [].reverse)
    have hne : Region.ready md ops listed ≠ [] := by
      cases U with
      | nil => simp at hn
      | cons i U => exact ready_ne hord hs ((hU i).1 (by simp)).1 ((hU i).1 (by simp)).2
    cases hi : (Region.ready md ops listed)[t % (Region.ready md ops listed).length]? with
    | none =>
      have hpos : 0 < (Region.ready md ops listed).length := List.length_pos_iff.2 hne
      have := Nat.mod_lt t hpos
      rw [List.getElem?_eq_none_iff] at hi
      omega
    | some i =>
      simp only []
      rw [linearise_go_acc, List.reverse_singleton, List.singleton_append]
      have hm : i ∈ Region.ready md ops listed := List.mem_of_getElem? hi
      obtain ⟨h1, h2, _⟩ := ready_iff.1 hm
      have hiU : i ∈ U := (hU i).2 ⟨h1, h2⟩
      refine ⟨hm, ih _ _ (U.erase i) ?_ (hU0.erase i) (fun k => ?_) (by simpa using hs)⟩
      · rw [List.length_erase_of_mem hiU]; omega
      · rw [hU0.mem_erase_iff, hU, getD_setB (by omega)]
        by_cases hk : k = i
        · simp [hk]
        · simp [hk]

theorem wpAny_follow {F : Fence} {n : Nat} {P : Program} {md : Region.Mode} {ops : Array Oper} {Q : Exit → Act → World → Prop} : ∀ (σ : List Nat) (fuel : Nat) (listed : Array Bool) (a : Act) (w : World), Vld md ops listed σ → wpAnyIn F n P md ops Q fuel listed a w → wpOpsIn F n P ops Q σ a w
  | [], fuel, listed, a, w, hv, h => by
    have hr : Region.ready md ops listed = [] := by
      unfold Region.ready
      rw [List.filter_eq_nil_iff]
      intro i hi hh
      simp only [List.mem_range] at hi
      simp only [Bool.and_eq_true, Bool.not_eq_true'] at hh
      have := hv i hi
      rw [hh.1] at this
      cases this
    cases fuel with
    | zero => exact h.2
    | succ k => exact h.1 hr
  | i :: r, fuel, listed, a, w, hv, h => by
    obtain ⟨h1, h2⟩ := hv
    cases fuel with
    | zero => rw [h.1] at h1; simp at h1
    | succ k =>
      rw [wpOpsIn_cons]
      exact wpOpIn_mono (fun a w => wpAny_follow r k _ a w h2) (h.2 i h1)

/-- The same region, with i ahead of j. -/
def addE (ops : Array Oper) (j i : Nat) : Array Oper := ops.modify j fun o => { o with after := o.after.push { on := i, ground := .phase } }
@[simp] theorem addE_size (ops : Array Oper) (j i : Nat) : (addE ops j i).size = ops.size := by simp [addE]
theorem addE_get (ops : Array Oper) (j i x : Nat) : (addE ops j i)[x]? = if j = x then (ops[x]?).map (fun o => { o with after := o.after.push { on := i, ground := .phase } }) else ops[x]? := by
  unfold addE
  rw [Array.getElem?_modify]

/-- j does not come ahead of i. -/
def Bef (i j : Nat) : List Nat → Prop
  | [] => True
  | x :: r => x = i ∨ (x ≠ j ∧ Bef i j r)
theorem Bef_or {i j : Nat} (hij : i ≠ j) : ∀ σ : List Nat, Bef i j σ ∨ Bef j i σ
  | [] => .inl trivial
  | x :: r => by
    by_cases h1 : x = i
    · exact .inl (.inl h1)
    by_cases h2 : x = j
    · exact .inr (.inl h2)
    rcases Bef_or hij r with h | h
    · exact .inl (.inr ⟨h2, h⟩)
    · exact .inr (.inr ⟨h1, h⟩)

theorem Vld.add {md : Region.Mode} {ops : Array Oper} {i j : Nat} (hij : i ≠ j) : ∀ (σ : List Nat) (listed : Array Bool), listed.size = ops.size → Vld md ops listed σ → (listed.getD i false = true ∨ Bef i j σ) → Vld md (addE ops j i) listed σ
  | [], listed, hs, hv, hb => by simpa [Vld] using hv
  | x :: r, listed, hs, hv, hb => by
    obtain ⟨h1, h2⟩ := hv
    obtain ⟨k1, k2, o, k3, k4⟩ := ready_iff.1 h1
    refine ⟨?_, Vld.add hij r _ (by simpa using hs) h2 ?_⟩
    · rw [ready_iff]
      refine ⟨by simpa using k1, k2, ?_⟩
      rw [addE_get]
      by_cases hx : j = x
      · rw [if_pos hx, k3]
        refine ⟨_, rfl, fun e he hbd => ?_⟩
        simp only [Array.toList_push, List.mem_append, List.mem_singleton] at he
        rcases he with he | rfl
        · exact k4 e he hbd
        · rcases hb with hb | hb | hb
          · exact hb
          · exact absurd (hb.symm.trans hx.symm) hij
          · exact absurd hx.symm hb.1
      · rw [if_neg hx]
        exact ⟨o, k3, k4⟩
    · rw [getD_setB (by omega)]
      by_cases hx : i = x
      · simp [hx]
      · rcases hb with hb | hb | hb
        · exact .inl (by simp [hx, hb])
        · exact absurd hb.symm hx
        · exact .inr hb.2

/-- The operations numbered anew: p: the old number of each; q: the new one. -/
def remap (q : List Nat) (o : Oper) : Oper := { o with after := o.after.map (fun e => { e with on := q.getD e.on e.on }), guard := o.guard.map fun g => (q.getD g.1 g.1, g.2) }
def permOps (p q : List Nat) (ops : Array Oper) : Array Oper := (p.filterMap fun old => (ops[old]?).map (remap q)).toArray
def permOK (p q : List Nat) (ops : Array Oper) : Bool :=
  p.length == ops.size && q.length == ops.size && (List.range ops.size).all (fun k => decide (p.getD k 0 < ops.size) && q.getD (p.getD k 0) 0 == k && decide (q.getD k 0 < ops.size) && p.getD (q.getD k 0) 0 == k) &&
  ops.toList.all fun (o : Oper) => (o.after.toList.all fun (e : Edge) => decide (e.on < ops.size)) && (match o.guard with | some g => decide (g.1 < ops.size) | none => true)

structure PermS (p q : List Nat) (ops : Array Oper) : Prop where
  pl : p.length = ops.size
  ql : q.length = ops.size
  plt : ∀ k, k < ops.size → p.getD k 0 < ops.size
  qp : ∀ k, k < ops.size → q.getD (p.getD k 0) 0 = k
  qlt : ∀ k, k < ops.size → q.getD k 0 < ops.size
  pq : ∀ k, k < ops.size → p.getD (q.getD k 0) 0 = k
  aft : ∀ (i : Nat) (o : Oper), ops[i]? = some o → (∀ e ∈ o.after.toList, e.on < ops.size) ∧ ∀ g, o.guard = some g → g.1 < ops.size

theorem permOK_spec {p q : List Nat} {ops : Array Oper} (h : permOK p q ops = true) : PermS p q ops := by
  unfold permOK at h
  simp only [Bool.and_eq_true, beq_iff_eq, List.all_eq_true, List.mem_range, decide_eq_true_eq] at h
  obtain ⟨⟨⟨h1, h2⟩, h3⟩, h4⟩ := h
  refine ⟨h1, h2, fun k hk => (h3 k hk).1.1.1, fun k hk => (h3 k hk).1.1.2, fun k hk => (h3 k hk).1.2, fun k hk => (h3 k hk).2, fun i o ho => ?_⟩
  have := h4 o (by simpa using Array.mem_of_getElem? ho)
  refine ⟨this.1, fun g hg => ?_⟩
  have h2 := this.2
  rw [hg] at h2
  simpa using h2

section
variable {p q : List Nat} {ops : Array Oper}
theorem perm_list {ops : Array Oper} : ∀ (p : List Nat), (∀ x ∈ p, x < ops.size) → (p.filterMap fun old => (ops[old]?).map (remap q)).length = p.length ∧ ∀ k : Nat, (p.filterMap fun old => (ops[old]?).map (remap q))[k]? = (p[k]?).bind fun old => (ops[old]?).map (remap q)
  | [], _ => ⟨rfl, fun k => by simp⟩
  | x :: p, h => by
    have hx := h x (by simp)
    obtain ⟨h1, h2⟩ := perm_list p (fun y hy => h y (by simp [hy]))
    have e : (ops[x]?).map (remap q) = some (remap q ops[x]) := by rw [Array.getElem?_eq_getElem hx]; rfl
    rw [List.filterMap_cons, e]
    refine ⟨by simp [h1], fun k => ?_⟩
    cases k with
    | zero => simp [e]
    | succ k => simpa using h2 k

theorem PermS.mem (h : PermS p q ops) : ∀ x ∈ p, x < ops.size := by
  intro x hx
  obtain ⟨k, hk⟩ := List.getElem?_of_mem hx
  have hlt := (List.getElem?_eq_some_iff.1 hk).1
  have := h.plt k (by rw [← h.pl]; exact hlt)
  rwa [List.getD_eq_getElem?_getD, hk] at this

theorem PermS.size (h : PermS p q ops) : (permOps p q ops).size = ops.size := by
  unfold permOps
  rw [List.size_toArray, (perm_list p h.mem).1, h.pl]

theorem PermS.get (h : PermS p q ops) {i : Nat} (hi : i < ops.size) : (permOps p q ops)[q.getD i 0]? = (ops[i]?).map (remap q) := by
  unfold permOps
  rw [List.getElem?_toArray, (perm_list p h.mem).2]
  have h1 := h.qlt i hi
  have h2 := h.pq i hi
  rw [List.getD_eq_getElem?_getD] at h2
  have : p[q.getD i 0]? = some i := by
    rw [List.getElem?_eq_getElem (by rw [h.pl]; exact h1)] at h2 ⊢
    simpa using h2
  rw [this]
  rfl

theorem PermS.inj (h : PermS p q ops) {i j : Nat} (hi : i < ops.size) (hj : j < ops.size) (e : q.getD i 0 = q.getD j 0) : i = j := by
  rw [← h.pq i hi, ← h.pq j hj, e]

theorem PermS.q0 (h : PermS p q ops) {i d : Nat} (hi : i < ops.size) : q.getD i d = q.getD i 0 := by
  rw [List.getD_eq_getElem?_getD, List.getD_eq_getElem?_getD, List.getElem?_eq_getElem (by rw [h.ql]; exact hi)]
  rfl

theorem PermS.yields (h : PermS p q ops) {tmps : Array Value} {j : Nat} (hj : j < ops.size) : yielded (permOps p q ops) tmps (q.getD j 0) = yielded ops tmps j := by
  unfold yielded
  rw [h.get hj]
  cases ops[j]? <;> rfl

/-- What was listed, under the new numbers. -/
structure LstS (q : List Nat) (ops : Array Oper) (l l' : Array Bool) : Prop where
  s : l.size = ops.size
  s' : l'.size = ops.size
  g : ∀ i, i < ops.size → ∀ d, l'.getD (q.getD i 0) d = l.getD i d

theorem LstS.put (h : PermS p q ops) {l l' : Array Bool} (hl : LstS q ops l l') {i : Nat} (hi : i < ops.size) : LstS q ops (l.setIfInBounds i true) (l'.setIfInBounds (q.getD i 0) true) := by
  refine ⟨by simpa using hl.s, by simpa using hl.s', fun k hk d => ?_⟩
  rw [getD_setB (by rw [hl.s']; exact h.qlt i hi), getD_setB (by rw [hl.s]; exact hi), hl.g k hk]
  by_cases e : k = i
  · subst e; simp
  · rw [if_neg e, if_neg (fun k2 => e (h.inj hk hi k2))]

theorem Vld.perm {md : Region.Mode} (h : PermS p q ops) : ∀ (σ : List Nat) (l l' : Array Bool), LstS q ops l l' → Vld md ops l σ → Vld md (permOps p q ops) l' (σ.map fun i => q.getD i 0)
  | [], l, l', hl, hv => by
    simp only [List.map_nil, Vld]
    rw [h.size]
    intro i hi
    have := hl.g (p.getD i 0) (h.plt i hi) true
    rw [h.qp i hi] at this
    rw [this]
    exact hv _ (h.plt i hi)
  | i :: r, l, l', hl, hv => by
    obtain ⟨h1, h2⟩ := hv
    obtain ⟨k1, k2, o, k3, k4⟩ := ready_iff.1 h1
    refine ⟨?_, Vld.perm h r _ _ (hl.put h k1) h2⟩
    rw [ready_iff]
    refine ⟨by rw [h.size]; exact h.qlt i k1, by rw [hl.g i k1]; exact k2, remap q o, by rw [h.get k1, k3]; rfl, fun e he hb => ?_⟩
    simp only [remap, Array.toList_map, List.mem_map] at he
    obtain ⟨e0, he0, rfl⟩ := he
    have hlt := (h.aft i o k3).1 e0 he0
    rw [h.q0 hlt, hl.g _ hlt]
    exact k4 e0 he0 hb

theorem wpOps_perm {F : Fence} {n : Nat} {P : Program} {Q : Exit → Act → World → Prop} (h : PermS p q ops) : ∀ (σ : List Nat) (a : Act) (w : World), (∀ i ∈ σ, i < ops.size) → wpOpsIn F n P (permOps p q ops) Q (σ.map fun i => q.getD i 0) a w → wpOpsIn F n P ops Q σ a w
  | [], a, w, _, k => k
  | i :: r, a, w, hi, k => by
    have hi0 := hi i (by simp)
    rw [List.map_cons, wpOpsIn_cons] at k
    rw [wpOpsIn_cons]
    have k := wpOpIn_mono (fun a w => wpOps_perm h r a w (fun x hx => hi x (by simp [hx]))) k
    unfold wpOpIn at k ⊢
    rw [h.get hi0, Array.getElem?_eq_getElem hi0] at k
    rw [Array.getElem?_eq_getElem hi0]
    simp only [Option.map_some] at k ⊢
    have hw : Region.wanted (remap q ops[i]) (yielded (permOps p q ops) a.tmps) = Region.wanted ops[i] (yielded ops a.tmps) := by
      unfold Region.wanted
      cases hg : ops[i].guard with
      | none => simp [remap, hg]
      | some g =>
        obtain ⟨j, b⟩ := g
        have hj := (h.aft i ops[i] (Array.getElem?_eq_getElem hi0)).2 (j, b) hg
        simp only [remap, hg, Option.map_some]
        rw [h.q0 hj, h.yields hj]
    rw [hw] at k
    exact k
end

theorem yielded_add (ops : Array Oper) (j i : Nat) (tmps : Array Value) : yielded (addE ops j i) tmps = yielded ops tmps := by
  funext k
  unfold yielded
  rw [addE_get]
  by_cases h : j = k
  · rw [if_pos h]
    cases ops[k]? <;> rfl
  · rw [if_neg h]

theorem wpOps_add {F : Fence} {n : Nat} {P : Program} {ops : Array Oper} {Q : Exit → Act → World → Prop} {j i : Nat} : ∀ (σ : List Nat) (a : Act) (w : World), wpOpsIn F n P (addE ops j i) Q σ a w → wpOpsIn F n P ops Q σ a w
  | [], a, w, h => h
  | x :: r, a, w, h => by
    rw [wpOpsIn_cons] at h ⊢
    have h := wpOpIn_mono (fun a w => wpOps_add r a w) h
    unfold wpOpIn at h ⊢
    rw [addE_get, yielded_add] at h
    by_cases hx : j = x
    · rw [if_pos hx] at h
      cases ho : ops[x]? with
      | none => rw [ho] at h; exact h
      | some o => rw [ho] at h; exact h
    · rw [if_neg hx] at h
      exact h

inductive AltT where
  | leaf
  | split (i j : Nat) (a b : AltT)
  | perm (p q : List Nat) (a : AltT)
/-- The regions that a tree of pairs tells apart: a: i ahead of j. -/
def leaves : AltT → Array Oper → List (Array Oper)
  | .leaf, ops => [ops]
  | .split i j a b, ops => leaves a (addE ops j i) ++ leaves b (addE ops i j)
  | .perm p q a, ops => leaves a (permOps p q ops)
def altOK : AltT → Array Oper → Bool
  | .leaf, ops => true
  | .split i j a b, ops => i != j && decide (i < ops.size) && decide (j < ops.size) && altOK a (addE ops j i) && altOK b (addE ops i j)
  | .perm p q a, ops => permOK p q ops && altOK a (permOps p q ops)

theorem Vld.lt {md : Region.Mode} {ops : Array Oper} : ∀ (σ : List Nat) (l : Array Bool), Vld md ops l σ → ∀ i ∈ σ, i < ops.size
  | [], l, h, i, hi => by simp at hi
  | x :: r, l, h, i, hi => by
    rcases List.mem_cons.1 hi with rfl | hi
    · exact (ready_iff.1 h.1).1
    · exact Vld.lt r _ h.2 i hi

theorem lst0 {p q : List Nat} {ops : Array Oper} (h : PermS p q ops) : LstS q ops (Array.replicate ops.size false) (Array.replicate (permOps p q ops).size false) := by
  refine ⟨by simp, by simp [h.size], fun i hi d => ?_⟩
  have := h.qlt i hi
  simp only [Array.getD_eq_getD_getElem?, h.size]
  rw [Array.getElem?_eq_getElem (by simpa using this), Array.getElem?_eq_getElem (by simpa using hi)]
  simp

theorem alts_cover {F : Fence} {n : Nat} {P : Program} {md : Region.Mode} {Q : Exit → Act → World → Prop} {a : Act} {w : World} : ∀ (T : AltT) (ops : Array Oper) (σ : List Nat), altOK T ops = true → Vld md ops (Array.replicate ops.size false) σ →
    (∀ ops' ∈ leaves T ops, wpAnyIn F n P md ops' Q ops'.size (Array.replicate ops'.size false) a w) → wpOpsIn F n P ops Q σ a w
  | .leaf, ops, σ, _, hv, h => wpAny_follow _ _ _ _ _ hv (h ops (by simp [leaves]))
  | .split i j ta tb, ops, σ, hT, hv, h => by
    simp only [altOK, Bool.and_eq_true, bne_iff_ne, decide_eq_true_eq] at hT
    obtain ⟨⟨⟨⟨hij, hi⟩, hj⟩, ha⟩, hb⟩ := hT
    rcases Bef_or hij σ with k | k
    · exact wpOps_add σ a w (alts_cover ta (addE ops j i) σ ha (by simpa using hv.add hij _ _ (by simp) (.inr k)) fun o ho => h o (by simp [leaves, ho]))
    · exact wpOps_add σ a w (alts_cover tb (addE ops i j) σ hb (by simpa using hv.add (Ne.symm hij) _ _ (by simp) (.inr k)) fun o ho => h o (by simp [leaves, ho]))
  | .perm p q t, ops, σ, hT, hv, h => by
    simp only [altOK, Bool.and_eq_true] at hT
    have hp := permOK_spec hT.1
    exact wpOps_perm hp σ a w (Vld.lt σ _ hv) (alts_cover t (permOps p q ops) _ hT.2 (hv.perm hp _ _ _ (lst0 hp)) fun o ho => h o (by simp [leaves, ho]))

theorem region_alts {F : Fence} {n : Nat} {P : Program} {id : Nat} {ops : Array Oper} {Q : Exit → Act → World → Prop} {a : Act} {w : World} (T : AltT) (hT : altOK T ops = true) (hord : orders ops.toList = true)
    (h : ∀ ops' ∈ leaves T ops, ∀ md, wpAnyIn F n P md ops' Q ops'.size (Array.replicate ops'.size false) a { w with drawn := w.drawn + 1 }) : (Code.region id ops true).wpIn F n P Q a w := by
  refine wpIn_region_draw fun t => ?_
  have hany : ∀ (md : Region.Mode) (t : Nat), wpOpsIn F n P ops Q (Region.linearise md ops t) a { w with drawn := w.drawn + 1 } := by
    intro md t
    have hv : Vld md ops (Array.replicate ops.size false) (Region.linearise md ops t) := lin_vld hord ops.size t _ (List.range ops.size) (by simp) List.nodup_range (fun i => by
      simp only [List.mem_range, Array.getD_eq_getD_getElem?]
      constructor
      · intro hi; exact ⟨hi, by simp [hi]⟩
      · exact fun hi => hi.1) (by simp)
    exact alts_cover T ops _ hT hv fun o ho => h o ho md
  unfold Region.schedule
  split
  · exact hany _ _
  · exact hany _ _
end Go.Proofs.Eng
/- The engine, part AQ: code run for whatever is drawn: regions told apart, loops over maps; soundly. -/
set_option linter.unusedVariables false
set_option linter.unusedSimpArgs false
namespace Go.Proofs.Eng
open Go Go.RowKit

inductive DOp where
  | op (o : AOper)
  | range (dst : Nat) (m : Opd)
  | next (dst : Nat) (it : Opd)
  | entry (dst : Nat) (it : Opd)
  | call (dst : Option Nat) (f : FuncId) (args : List Opd)

inductive DC where
  | base (c : AC)
  | regD (l : List DOp)
  | alts (l : List AC)
  | seq (a b : DC)
  | cond (c : Opd) (a b : DC)
  | block (id : Nat) (b : DC)
  | loop (b : DC)

/-! ### Resolving -/
def isIt (o : Oper) : Bool := match o.op with | .range _ _ => true | .next _ _ => true | .entry _ => true | _ => false

/-- A call of a function that may come to this or that, as it is drawn. -/
def isDC (hint : Nat → Option AltT) (o : Oper) : Option FuncId := match o.op, o.guard with
  | .call c, none => match c.callee with
    | .value (.func f) => if (hint (1000000 + f)).isSome then some f else none
    | _ => none
  | _, _ => none
def isItH (hint : Nat → Option AltT) (o : Oper) : Bool := isIt o || (isDC hint o).isSome

def pDOp0 (P : Program) (ops : Array Oper) (o : Oper) : Option DOp :=
  match o.op, o.dst, o.guard with
  | .range t x, some d, none =>
    match P.underlying t, pOpd x with
    | some (.map _ _), some y => some (.range d y)
    | _, _ => none
  | .next x false, some d, none => (pOpd x).map (.next d)
  | .entry x, some d, none => (pOpd x).map (.entry d)
  | _, _, _ => (pOperE P ops o).map .op
def pDOp (P : Program) (hint : Nat → Option AltT) (ops : Array Oper) (o : Oper) : Option DOp :=
  match isDC hint o with
  | some f => match o.op with
    | .call c => (c.args.toList.mapM pOpd).map (.call o.dst f)
    | _ => none
  | none => pDOp0 P ops o

/-- Is there something in code that is run for whatever is drawn? -/
def needD (hint : Nat → Option AltT) : Code → Bool
  | .region id ops draw => if draw then (hint id).isSome else ops.toList.any (isItH hint)
  | .seq a b => needD hint a || needD hint b
  | .cond _ a b => needD hint a || needD hint b
  | .block _ b => needD hint b
  | .loop b => needD hint b
  | _ => false

def pD (P : Program) (hint : Nat → Option AltT) : Code → Option DC
  | .region id ops draw =>
    if draw then
      match hint id with
      | some T => if altOK T ops && orders ops.toList then ((leaves T ops).mapM fun o => pRegion P id o true).map .alts else none
      | none => (pRegion P id ops true).map .base
    else if ops.toList.any (isItH hint) then (ops.toList.mapM (pDOp P hint ops)).map .regD
    else (pRegion P id ops false).map .base
  | .seq a b =>
    if needD hint (.seq a b) then do
      let a ← pD P hint a
      let b ← pD P hint b
      pure (.seq a b)
    else (pCode P (.seq a b)).map .base
  | .cond c a b =>
    if needD hint (.cond c a b) then do
      let a ← pD P hint a
      let b ← pD P hint b
      pure (.cond ((pOpd c).getD (.c avU)) a b)
    else (pCode P (.cond c a b)).map .base
  | .block id b => if needD hint (.block id b) then (pD P hint b).map (.block id) else (pCode P (.block id b)).map .base
  | .loop b => if needD hint (.loop b) then (pD P hint b).map .loop else (pCode P (.loop b)).map .base
  | c => (pCode P c).map .base

/-! ### Running -/
/-- An iterator: over which map, its clock as the loop began, what was handed out. -/
structure Itr where
  m : Nat
  clk : Nat
  seen : List Nat
  last : Option (Value × AV × Nat)

abbrev Its := List (Nat × Itr)
abbrev DPost := AX → List AV → Hp → Its → Prop

def hdead (H : Hp) : Hp := { H with l := H.l ++ [none] }
/-- The stamps of a map's entries differ, and their keys. -/
def StOK (es : List (Value × AV × Nat)) : Prop := (es.map fun e => e.2.2).Nodup ∧ (es.map fun e => e.1).Nodup
def leftL (es : List (Value × AV × Nat)) (seen : List Nat) : List (Value × AV × Nat) := es.filter fun e => !seen.contains e.2.2

/-- Calls of functions that may come to this or that. -/
structure DCalls where
  run : FuncId → List AV → Hp → (AV × Option Hp → Prop) → Prop
  and : ∀ {f args H R R'}, run f args H R → run f args H R' → run f args H fun r => R r ∧ R' r
  le : ∀ {f args H R}, run f args H R → run f args H fun r => R r ∧ Le? H r.2
def noC : DCalls := ⟨fun _ _ _ _ => False, fun h => h.elim, fun h => h.elim⟩

def wpDO (C : DCalls) (E : Env) : List DOp → List AV → Hp → Its → (List AV → Hp → Its → Prop) → Prop
  | [], τ, H, its, K => K τ H its
  | .op o :: r, τ, H, its, K => ∃ v h, actO E o τ H = some (v, h) ∧ wpDO C E r (aput o.dst v τ) (h.getD H) its K
  | .range d m :: r, τ, H, its, K => ∃ id es clk, aeval τ m = .map id ∧ hget H id = some (.map es clk) ∧ (StOK es → wpDO C E r (aput (some d) (.ptr H.l.length 0) τ) (hdead H) ((H.l.length, ⟨id, clk, [], none⟩) :: its) K)
  | .next d it :: r, τ, H, its, K => ∃ id I es, aeval τ it = .ptr id 0 ∧ its.lookup id = some I ∧ hget H I.m = some (.map es I.clk) ∧
      (leftL es I.seen = [] → wpDO C E r (aput (some d) (.tup [avBool false]) τ) H its K) ∧
      ∀ e ∈ leftL es I.seen, wpDO C E r (aput (some d) (.tup [avBool true, .lit e.1, e.2.1]) τ) H ((id, { I with seen := I.seen ++ [e.2.2], last := some e }) :: its) K
  | .entry d it :: r, τ, H, its, K => ∃ id I es e, aeval τ it = .ptr id 0 ∧ its.lookup id = some I ∧ hget H I.m = some (.map es I.clk) ∧ I.last = some e ∧ e ∈ es ∧ I.seen.getLast? = some e.2.2 ∧
      wpDO C E r (aput (some d) (.tup [.lit e.1, e.2.1]) τ) H its K
  | .call d f args :: r, τ, H, its, K => ∃ R, C.run f (args.map (aeval τ)) H R ∧ ∀ v h, R (v, h) → wpDO C E r (aput d v τ) (h.getD H) its K

def iterD (step : List AV → Hp → Its → DPost → Prop) (K : DPost) : Nat → List AV → Hp → Its → Prop
  | 0, _, _, _ => False
  | k + 1, τ, H, its => step τ H its fun x τ' H' its' => match x with | .nrm => iterD step K k τ' H' its' | x => K x τ' H' its'

/-- For whatever is drawn: what code comes to. -/
def wpDC (C : DCalls) (E : Env) : DC → List AV → Hp → Its → DPost → Prop
  | .base c, τ, H, its, K => ∃ x τ' H', execC E none c τ H = some (x, τ', H') ∧ K x τ' H' its
  | .regD l, τ, H, its, K => wpDO C E l τ H its (K .nrm)
  | .alts l, τ, H, its, K => l ≠ [] ∧ ∀ c ∈ l, ∃ τ' H', execC E none c τ H = some (.nrm, τ', H') ∧ K .nrm τ' H' its
  | .seq a b, τ, H, its, K => wpDC C E a τ H its fun x τ' H' its' => match x with | .nrm => wpDC C E b τ' H' its' K | x => K x τ' H' its'
  | .cond c a b, τ, H, its, K => ∃ t, aeval τ c = avBool t ∧ (t = true → wpDC C E a τ H its K) ∧ (t = false → wpDC C E b τ H its K)
  | .block id b, τ, H, its, K => wpDC C E b τ H its fun x τ' H' its' => match x with | .exit i => if i = id then K .nrm τ' H' its' else K (.exit i) τ' H' its' | x => K x τ' H' its'
  | .loop b, τ, H, its, K => ∃ k, iterD (fun τ H its K => wpDC C E b τ H its K) K k τ H its

/-! ### Soundness -/
structure ItOK (base : Nat) (ι : Io) (L : HL) (w : World) (its : Its) : Prop where
  atI : ∀ id I, its.lookup id = some I → ∃ p pm, ι.l[id]? = some p ∧ p.sh = 0 ∧ ι.l[I.m]? = some pm ∧ w.heap[p.blk]? = some (.mapIter (some pm.blk) I.clk I.seen.toArray I.clk) ∧ ¬ Owned ι L p.blk ∧ base ≤ p.blk
  two : ∀ id id' I I' p p', its.lookup id = some I → its.lookup id' = some I' → ι.l[id]? = some p → ι.l[id']? = some p' → p.blk = p'.blk → id = id'

theorem ItOK.step {base : Nat} {ι ι' : Io} {L L' : HL} {w w' : World} {its : Its} (h : ItOK base ι L w its) (s : Stp ι L w ι' L' w') : ItOK base ι' L' w' its := by
  refine ⟨fun id I hl => ?_, fun id id' I I' p p' h1 h2 h3 h4 e => ?_⟩
  · obtain ⟨p, pm, h1, h2, h3, h4, h5, h6⟩ := h.atI id I hl
    have := s.frame p.blk (Array.getElem?_eq_some_iff.1 h4).1 h5
    exact ⟨p, pm, prefix_get s.pre h1, h2, prefix_get s.pre h3, this.2.trans h4, this.1, h6⟩
  · obtain ⟨q, _, k1, _⟩ := h.atI id I h1
    obtain ⟨q', _, k2, _⟩ := h.atI id' I' h2
    have e1 := prefix_get s.pre k1
    have e2 := prefix_get s.pre k2
    rw [h3] at e1; rw [h4] at e2
    cases e1; cases e2
    exact h.two id id' I I' p p' h1 h2 k1 k2 e

structure AtD (P : Program) (ι₀ : Io) (L₀ : HL) (w₀ : World) (ds : Nat) (τ : List AV) (L : HL) (its : Its) (a : Act) (w : World) : Prop where
  ex : ∃ ι, Stp ι₀ L₀ w₀ ι L w ∧ RelH (PCof P) ι L w ∧ VRels ι (fzOf ι L w) τ a.tmps.toList ∧ DfOK ds ι L w a.defers ∧ ItOK w₀.heap.size ι L w its

section
variable {P : Program} {ι : Io} {w : World}

/-- A place that no object has. -/
theorem RelH.dead {PC : Code → AC → Prop} {L : HL} (h : RelH PC ι L w) (p : Pl) :
    RelH PC (ι.add p) (L ++ [none]) w ∧ Stp ι L w (ι.add p) (L ++ [none]) w ∧ ∀ k, Owned (ι.add p) (L ++ [none]) k ↔ Owned ι L k := by
  have hlt : ∀ {i : Nat} {o : AObj}, (L ++ [none])[i]? = some (some o) → L[i]? = some (some o) ∧ i < L.length := by
    intro i o e
    by_cases hi : i < L.length
    · rw [List.getElem?_append_left hi] at e; exact ⟨e, hi⟩
    · have := (List.getElem?_eq_some_iff.1 e).1
      have : i = L.length := by simp at this; omega
      subst this
      simp at e
  have hget : ∀ {i : Nat} {q : Pl}, i < L.length → (ι.l ++ [p])[i]? = some q → ι.l[i]? = some q := by
    intro i q hi e
    rwa [List.getElem?_append_left (by rw [h.len]; exact hi)] at e
  have hown : ∀ k, Owned (ι.add p) (L ++ [none]) k ↔ Owned ι L k := by
    intro k
    constructor
    · rintro ⟨i, o, q, h1, h2, h3⟩
      obtain ⟨k1, k2⟩ := hlt h1
      exact ⟨i, o, q, k1, hget k2 h2, h3⟩
    · rintro ⟨i, o, q, h1, h2, h3⟩
      have hi := (List.getElem?_eq_some_iff.1 h1).1
      exact ⟨i, o, q, by rw [List.getElem?_append_left hi]; exact h1, by show (ι.l ++ [p])[i]? = _; rw [List.getElem?_append_left (by rw [h.len]; exact hi)]; exact h2, h3⟩
  have hst : Stp ι L w (ι.add p) (L ++ [none]) w := ⟨List.prefix_append _ _, rfl, rfl, rfl, Nat.le_refl _, fun k hk hn => ⟨fun ho => hn ((hown k).1 ho), rfl⟩, fun _ _ => Iff.rfl⟩
  refine ⟨⟨by simp [h.len], fun i o q h1 h2 => ?_, fun i j oi oj q r h1 h2 h3 h4 e => ?_, h.xlt, fun k hk ho => h.xno k hk ((hown k).1 ho)⟩, hst, hown⟩
  · obtain ⟨k1, k2⟩ := hlt h1
    exact (h.obj i o q k1 (hget k2 h2)).move hst.pre hst.fz rfl
  · obtain ⟨k1, k2⟩ := hlt h1
    obtain ⟨k3, k4⟩ := hlt h2
    exact h.inj i j oi oj q r k1 k3 (hget k2 h3) (hget k4 h4) e

theorem run_next_at {r bm clk : Nat} {seen : Array Nat} {es : Array MapEntry} (ty : TypeId) (hi : w.heap[r]? = some (.mapIter (some bm) clk seen clk)) (hb : w.heap[bm]? = some (.map es clk)) (hold : ∀ x ∈ es.toList, x.born < clk) :
    ((leftOf es seen).toList = [] ∧ (Instr.next (.pointer (some ⟨r, 0, none⟩)) false ty).run P w = .ok (.tuple #[.bool false]) w) ∨
    ∃ e ∈ (leftOf es seen).toList, ∃ w1 : World, w1.heap = w.heap ∧ w1.os = w.os ∧ w1.tape = w.tape ∧ w1.output = w.output ∧
      (Instr.next (.pointer (some ⟨r, 0, none⟩)) false ty).run P w = .ok (.tuple #[.bool true, e.key, e.val]) (setObjW w1 r (.mapIter (some bm) clk (seen.push e.born) clk)) := by
  simp only [Instr.next, getObj, Sem.run_bind, Sem.run, hi, hb, Result.andThen, next_test_false seen es clk clk hold (Nat.le_refl _), Bool.false_eq_true, if_false]
  unfold leftOf
  have hmem : ∀ x ∈ (Array.filter (fun e => !seen.contains e.born) es).toList, x.born < clk := fun x hx => hold x (by simp at hx ⊢; exact hx.1)
  generalize Array.filter (fun e => !seen.contains e.born) es = L at hmem ⊢
  have e1 : L.filter (fun x => decide (x.born < clk)) = L := Array.filter_eq_self.2 (fun x hx => by simpa using hmem x (by simpa using hx))
  have e2 : L.filter (fun x => decide (x.born ≥ clk)) = #[] := by
    rw [Array.filter_eq_empty_iff]
    intro x hx
    have := hmem x (by simpa using hx)
    simp
    omega
  simp only [e1, e2, Array.append_empty]
  by_cases h0 : L.size = 0
  · left
    have : L = #[] := Array.eq_empty_of_size_eq_zero h0
    subst this
    refine ⟨rfl, ?_⟩
    simp [choose, Sem.run, Question.forced]
  · right
    have hne : L.isEmpty = false := by simp [Array.isEmpty, h0]
    simp only [hne, Bool.false_eq_true, if_false, Array.empty_append, Array.size_map]
    have hch : ∃ (j : Nat) (w1 : World), j < L.size ∧ w1.heap = w.heap ∧ w1.os = w.os ∧ w1.tape = w.tape ∧ w1.output = w.output ∧ (choose (Question.mapNext L.size)).run P w = .ok j w1 := by
      by_cases hf : L.size ≤ 1
      · exact ⟨0, w, by omega, rfl, rfl, rfl, rfl, by simp [choose, Sem.run, Question.forced, hf]⟩
      · exact ⟨_, w.drew, Nat.mod_lt _ (by omega), rfl, rfl, rfl, rfl, by
          simp only [choose, Sem.run, Question.forced, decide_eq_true_eq, hf, if_false, Question.cut]
          rfl⟩
    obtain ⟨j, w1, hj, a1, a2, a3, a4, hrun⟩ := hch
    refine ⟨L[j], by simp, w1, a1, a2, a3, a4, ?_⟩
    have hset : ∀ (o' : Obj), (setObj r o').run P w1 = .ok () (setObjW w1 r o') := fun o' => by
      simp only [setObj, Sem.run, a1, hi]
      simp only [setObjW, a1]
    simp only [hrun, Array.getElem?_map, Array.getElem?_eq_getElem hj, Option.map_some, Sem.run_bind, hset, Result.andThen]
    rfl

theorem run_entry_at {r bm clk : Nat} {seen : Array Nat} {es : Array MapEntry} {e : MapEntry} (hi : w.heap[r]? = some (.mapIter (some bm) clk seen clk)) (hb : w.heap[bm]? = some (.map es clk)) (he : e ∈ es.toList) (hs : seen.back? = some e.born) (hn : (es.toList.map (·.born)).Nodup) :
    (Instr.entry (.pointer (some ⟨r, 0, none⟩))).run P w = .ok (.tuple #[e.key, e.val]) w := by
  have hf : es.find? (·.born == e.born) = some e := by rw [← Array.find?_toList]; exact find_born e es.toList hn he
  simp only [Instr.entry, getObj, Sem.run_bind, Sem.run, hi, hb, Result.andThen, hs, bne_self_eq_false, Bool.false_eq_true, if_false, hf]
  rfl

theorem MRel.mem {fz : Fz} : ∀ {xs : List (Value × AV × Nat)} {es : List MapEntry}, MRel ι fz xs es → ∀ e ∈ es, ∃ x ∈ xs, e.key = x.1 ∧ e.born = x.2.2 ∧ VRel ι fz x.2.1 e.val
  | [], es, h, e, he => by cases h; simp at he
  | x :: xs, es, h, e, he => by
    obtain ⟨e', r, rfl, h1, h2, h3, h4⟩ := h
    rcases List.mem_cons.1 he with rfl | he
    · exact ⟨x, by simp, h1, h2, h3⟩
    · obtain ⟨y, hy, k⟩ := h4.mem e he
      exact ⟨y, by simp [hy], k⟩
theorem MRel.mem' {fz : Fz} : ∀ {xs : List (Value × AV × Nat)} {es : List MapEntry}, MRel ι fz xs es → ∀ x ∈ xs, ∃ e ∈ es, e.key = x.1 ∧ e.born = x.2.2 ∧ VRel ι fz x.2.1 e.val
  | [], es, h, x, hx => by simp at hx
  | x :: xs, es, h, y, hy => by
    obtain ⟨e', r, rfl, h1, h2, h3, h4⟩ := h
    rcases List.mem_cons.1 hy with rfl | hy
    · exact ⟨e', by simp, h1, h2, h3⟩
    · obtain ⟨e, he, k⟩ := h4.mem' y hy
      exact ⟨e, by simp [he], k⟩
theorem MRel.stamps {fz : Fz} : ∀ {xs : List (Value × AV × Nat)} {es : List MapEntry}, MRel ι fz xs es → xs.map (fun e => e.2.2) = es.map (·.born)
  | [], es, h => by cases h; rfl
  | x :: xs, es, h => by
    obtain ⟨e', r, rfl, h1, h2, h3, h4⟩ := h
    rw [List.map_cons, List.map_cons, h4.stamps, h2]
theorem MRel.keys {fz : Fz} : ∀ {xs : List (Value × AV × Nat)} {es : List MapEntry}, MRel ι fz xs es → xs.map (fun e => e.1) = es.map (·.key)
  | [], es, h => by cases h; rfl
  | x :: xs, es, h => by
    obtain ⟨e', r, rfl, h1, h2, h3, h4⟩ := h
    rw [List.map_cons, List.map_cons, h4.keys, h1]
theorem MRel.stOK {fz : Fz} {xs : List (Value × AV × Nat)} {es : List MapEntry} (h : MRel ι fz xs es) (k : (es.map (·.born)).Nodup) (k2 : es.Pairwise fun x y => x.key ≠ y.key) : StOK xs := by
  unfold StOK
  rw [h.stamps, h.keys]
  exact ⟨k, List.pairwise_map.2 k2⟩
theorem MRel.left {fz : Fz} {seen : List Nat} : ∀ {xs : List (Value × AV × Nat)} {es : List MapEntry}, MRel ι fz xs es → MRel ι fz (leftL xs seen) (es.filter fun e => !seen.contains e.born)
  | [], es, h => by cases h; exact rfl
  | x :: xs, es, h => by
    obtain ⟨e', r, rfl, h1, h2, h3, h4⟩ := h
    have ih := h4.left (seen := seen)
    unfold leftL at ih ⊢
    rw [List.filter_cons, List.filter_cons, h2]
    split
    · exact ⟨e', _, rfl, h1, h2, h3, ih⟩
    · exact ih

/-- A block of the call's own that nobody owns and that holds no cells is written. -/
theorem stp_own {L L₀ : HL} {ι₀ : Io} {w₀ w1 : World} {r : Nat} {o ob : Obj} (hr : RelH (PCof P) ι L w) (s : Stp ι₀ L₀ w₀ ι L w) (hn : ¬ Owned ι L r) (hb : w.heap[r]? = some ob) (hc : ∀ c t f, ob ≠ .cells c t f) (hbase : w₀.heap.size ≤ r)
    (h1 : w1.heap = w.heap) (h2 : w1.os = w.os) (h3 : w1.tape = w.tape) (h4 : w1.output = w.output) :
    Stp ι₀ L₀ w₀ ι L (setObjW w1 r o) ∧ RelH (PCof P) ι L (setObjW w1 r o) ∧ FzLe (fzOf ι L w) (fzOf ι L (setObjW w1 r o)) := by
  obtain ⟨d1, d2⟩ := hr.draw h1 h2 h3 h4
  obtain ⟨r1, r2⟩ := d1.other (o := o) hn (by rw [h1]; exact hb) hc
  refine ⟨⟨s.pre, by simpa [setObjW] using h2.trans s.os, by simpa [setObjW] using h3.trans s.tape, by simpa [setObjW] using h4.trans s.output, by simpa [setObjW, h1] using s.size, fun k hk ho => ?_, s.xs⟩, r1, d2.fz.trans r2⟩
  have := s.frame k hk ho
  refine ⟨this.1, ?_⟩
  rw [setObjW_other (by omega), h1]
  exact this.2

theorem it_op {ops : Array Oper} {Q : Exit → Act → World → Prop} {i : Nat} {o : Oper} {d : Nat} {K : Act → World → Prop} {a : Act} {cv : Value} {w' : World} (ho : ops[i]? = some o) (hg : o.guard = none) (hd : o.dst = some d) (hnd : ∀ c, o.op ≠ .defer c)
    (hrun : (execOp a.eval o).run P w = .ok (.value cv) w') (hK : K (a.put (some d) cv) w') : wpOpIn (Fr none) 0 P ops Q i K a w := by
  unfold wpOpIn
  simp only [ho]
  have hw : Region.wanted o (yielded ops a.tmps) = true := by simp [Region.wanted, hg]
  rw [if_pos hw]
  refine ⟨fun _ _ => trivial, ?_⟩
  rw [Oper.semAt_eq _ _ _ hnd, hrun, Oper.uponIn_value, hd]
  exact hK

theorem pDOp_spec0 {ops : Array Oper} {o : Oper} {l : DOp} (h : pDOp0 P ops o = some l) :
    (∃ ao, l = .op ao ∧ pOperE P ops o = some ao) ∨
    (∃ d y t x k e, l = .range d y ∧ o.op = .range t x ∧ o.dst = some d ∧ o.guard = none ∧ P.underlying t = some (.map k e) ∧ pOpd x = some y) ∨
    (∃ d y x, l = .next d y ∧ o.op = .next x false ∧ o.dst = some d ∧ o.guard = none ∧ pOpd x = some y) ∨
    (∃ d y x, l = .entry d y ∧ o.op = .entry x ∧ o.dst = some d ∧ o.guard = none ∧ pOpd x = some y) := by
  unfold pDOp0 at h
  split at h
  · rename_i t x d h1 h2 h3
    split at h
    · rename_i k e y h4 h5
      simp only [Option.some.injEq] at h; subst h
      exact .inr (.inl ⟨d, y, t, x, k, e, rfl, h1, h2, h3, h4, h5⟩)
    · simp at h
  · rename_i x d h1 h2 h3
    obtain ⟨y, hy, rfl⟩ := Option.map_eq_some_iff.1 h
    exact .inr (.inr (.inl ⟨d, y, x, rfl, h1, h2, h3, hy⟩))
  · rename_i x d h1 h2 h3
    obtain ⟨y, hy, rfl⟩ := Option.map_eq_some_iff.1 h
    exact .inr (.inr (.inr ⟨d, y, x, rfl, h1, h2, h3, hy⟩))
  · obtain ⟨y, hy, rfl⟩ := Option.map_eq_some_iff.1 h
    exact .inl ⟨y, rfl, hy⟩

theorem pDOp_spec {hint : Nat → Option AltT} {ops : Array Oper} {o : Oper} {l : DOp} (h : pDOp P hint ops o = some l) :
    (∃ ao, l = .op ao ∧ pOperE P ops o = some ao) ∨
    (∃ d y t x k e, l = .range d y ∧ o.op = .range t x ∧ o.dst = some d ∧ o.guard = none ∧ P.underlying t = some (.map k e) ∧ pOpd x = some y) ∨
    (∃ d y x, l = .next d y ∧ o.op = .next x false ∧ o.dst = some d ∧ o.guard = none ∧ pOpd x = some y) ∨
    (∃ d y x, l = .entry d y ∧ o.op = .entry x ∧ o.dst = some d ∧ o.guard = none ∧ pOpd x = some y) ∨
    (∃ f c ys, l = .call o.dst f ys ∧ o.op = .call c ∧ c.callee = .value (.func f) ∧ o.guard = none ∧ c.args.toList.mapM pOpd = some ys) := by
  unfold pDOp at h
  split at h
  · rename_i f hf
    split at h
    · rename_i c hc
      obtain ⟨ys, hy, rfl⟩ := Option.map_eq_some_iff.1 h
      unfold isDC at hf
      split at hf
      · rename_i c' hc' hg
        rw [hc] at hc'
        cases hc'
        split at hf
        · rename_i f' hcal
          split at hf
          · simp only [Option.some.injEq] at hf
            subst hf
            exact .inr (.inr (.inr (.inr ⟨f', c, ys, rfl, hc, hcal, hg, hy⟩)))
          · cases hf
        · cases hf
      · cases hf
    · cases h
  · rcases pDOp_spec0 h with h | h | h | h
    · exact .inl h
    · exact .inr (.inl h)
    · exact .inr (.inr (.inl h))
    · exact .inr (.inr (.inr (.inl h)))
/-- The calls that may come to this or that do so in the machine. -/
def DCOK (P : Program) (C : DCalls) : Prop := ∀ {f : FuncId} {args : List AV} {H : Hp} {R : AV × Option Hp → Prop} {ι : Io} {w : World} {cargs : Array Value}, C.run f args H R → RelH (PCof P) ι H.l w → VRels ι (fzOf ι H.l w) args cargs.toList →
  Upon P (fun cv w' => ∃ v h, R (v, h) ∧ Left P ι H.l w v (h.getD H).l cv w') ((callFunc f cargs).run P w)
theorem noC_ok : DCOK P noC := fun h => h.elim

theorem MRel_nil_right {fz : Fz} : ∀ {xs : List (Value × AV × Nat)}, MRel ι fz xs [] → xs = []
  | [], _ => rfl
  | x :: xs, h => by obtain ⟨e, r, k, _⟩ := h; cases k

theorem lookup_cons_self {id : Nat} {I : Itr} {its : Its} : List.lookup id ((id, I) :: its) = some I := by simp [List.lookup]
theorem lookup_cons_ne {id id' : Nat} {I : Itr} {its : Its} (h : id' ≠ id) : List.lookup id' ((id, I) :: its) = List.lookup id' its := by
  have : (id' == id) = false := by simpa using h
  simp [List.lookup, this]

theorem dops_sound {Γ : Sums} {A : Tab} {C : DCalls} (hC : DCOK P C) (hE : ∀ n, EOK P (env Γ A n)) {hint : Nat → Option AltT} {ops : Array Oper} {Q : Exit → Act → World → Prop} : ∀ (is : List Nat) (ls : List DOp) {ι₀ : Io} {L₀ : HL} {w₀ : World} {ds : Nat} {τ : List AV} {H : Hp} {its : Its} {a : Act} {w : World} {K : List AV → Hp → Its → Prop},
    (∀ k : Nat, ((is[k]?).bind fun i => (ops[i]?).bind (pDOp P hint ops)) = ls[k]?) → is.length = ls.length → AtD P ι₀ L₀ w₀ ds τ H.l its a w → wpDO C (lim Γ A) ls τ H its K →
    (∀ τ' H' its' a' w', AtD P ι₀ L₀ w₀ ds τ' H'.l its' a' w' → K τ' H' its' → Q .normal a' w') → wpOpsIn (Fr none) 0 P ops Q is a w
  | [], ls, ι₀, L₀, w₀, ds, τ, H, its, a, w, K, hm, hl, hat, h, hQ => by
    have : ls = [] := by cases ls with | nil => rfl | cons => simp at hl
    subst this
    simpa [wpOpsIn] using hQ τ H its a w hat h
  | i :: is, ls, ι₀, L₀, w₀, ds, τ, H, its, a, w, K, hm, hl, hat, h, hQ => by
    cases ls with
    | nil => simp at hl
    | cons l ls =>
    have hm0 := hm 0
    simp only [List.getElem?_cons_zero, Option.bind_some] at hm0
    obtain ⟨o, ho, hp⟩ := Option.bind_eq_some_iff.1 hm0
    have hm' : ∀ k : Nat, ((is[k]?).bind fun i => (ops[i]?).bind (pDOp P hint ops)) = ls[k]? := fun k => by simpa using hm (k + 1)
    have hl' : is.length = ls.length := by simpa using hl
    obtain ⟨ι, q1, q2, q3, q4, q5⟩ := hat.ex
    rw [wpOpsIn_cons]
    rcases pDOp_spec hp with ⟨ao, rfl, hp2⟩ | ⟨d, y, t, x, k, e, rfl, h1, h2, h3, h4, h5⟩ | ⟨d, y, x, rfl, h1, h2, h3, h5⟩ | ⟨d, y, x, rfl, h1, h2, h3, h5⟩ | ⟨f, c, ys, rfl, h1, h2, h3, h5⟩
    · obtain ⟨v, h', hact, hk⟩ := h
      obtain ⟨n, hact⟩ := actO_cont hact
      exact actO_sound (hE n) ho hp2 q2 q3 hact fun ι' a' w' s r v df => dops_sound hC hE is ls hm' hl' ⟨ι', q1.trans s, r, v, by rw [df]; exact q4.step s, q5.step s⟩ hk hQ
    · obtain ⟨id, es, clk, e1, e2, hk⟩ := h
      have hv := aeval_rel q3 h5
      rw [e1] at hv
      simp only [VRel] at hv
      obtain ⟨p, hp1, hv⟩ := hv
      obtain ⟨ces, hb, hmr, hst⟩ := q2.obj _ _ _ (hget_some e2) hp1
      obtain ⟨b1, b2, b3⟩ := q2.bare (.mapIter (some p.blk) clk #[] clk)
      obtain ⟨c1, c2, c3⟩ := b1.dead ⟨w.heap.size, 0, 0, 0⟩
      have hs := b2.trans c2
      have hrun : (execOp a.eval o).run P w = .ok (.value (.pointer (some ⟨w.heap.size, 0, none⟩))) (w.alloc (.mapIter (some p.blk) clk #[] clk)) := by
        simp only [execOp, h1, Sem.run_bind, hv, run_range_map w t k e p.blk ces clk h4 hb, Result.andThen_ok, Sem.run_pure]
      refine it_op ho h3 h2 (by simp [h1]) hrun (dops_sound hC hE is ls hm' hl' (K := K) ⟨ι.add ⟨w.heap.size, 0, 0, 0⟩, q1.trans hs, c1, ?_, ?_, ?_⟩ (hk (hmr.stOK ((MapKept.stamped_iff _ _).1 hst).2.1 ((MapKept.stamped_iff _ _).1 hst).2.2)) hQ)
      · refine VRels.put (hs.vs q3) ?_
        simp only [VRel]
        exact ⟨⟨w.heap.size, 0, 0, 0⟩, by rw [← q2.len]; simp, rfl⟩
      · rw [put_defers]; exact q4.step hs
      · have q5' := q5.step hs
        have hnew : (ι.add ⟨w.heap.size, 0, 0, 0⟩).l[H.l.length]? = some ⟨w.heap.size, 0, 0, 0⟩ := by rw [← q2.len]; simp
        have hbig : ∀ id' I' p', its.lookup id' = some I' → (ι.add ⟨w.heap.size, 0, 0, 0⟩).l[id']? = some p' → p'.blk < w.heap.size := by
          intro id' I' p' k1 k2
          obtain ⟨p'', _, k3, _, _, k4, _⟩ := q5.atI id' I' k1
          have := prefix_get hs.pre k3
          rw [k2] at this; cases this
          exact (Array.getElem?_eq_some_iff.1 k4).1
        refine ⟨fun id' I' hl2 => ?_, fun id1 id2 I1 I2 p1 p2 k1 k2 k3 k4 e => ?_⟩
        · by_cases hid : id' = H.l.length
          · subst hid
            rw [lookup_cons_self] at hl2
            cases hl2
            exact ⟨_, p, hnew, rfl, prefix_get hs.pre hp1, alloc_heap_new _ _, fun ho2 => b3 ((c3 _).1 ho2), q1.size⟩
          · rw [lookup_cons_ne hid] at hl2
            exact q5'.atI id' I' hl2
        · by_cases hid1 : id1 = H.l.length <;> by_cases hid2 : id2 = H.l.length
          · rw [hid1, hid2]
          · subst hid1
            rw [lookup_cons_ne hid2] at k2
            rw [hnew] at k3; cases k3
            have := hbig _ _ _ k2 k4
            simp only at e; omega
          · subst hid2
            rw [lookup_cons_ne hid1] at k1
            rw [hnew] at k4; cases k4
            have := hbig _ _ _ k1 k3
            simp only at e; omega
          · rw [lookup_cons_ne hid1] at k1
            rw [lookup_cons_ne hid2] at k2
            exact q5'.two _ _ _ _ _ _ k1 k2 k3 k4 e
    · obtain ⟨id, I, es, e1, e2, e3, hk1, hk2⟩ := h
      have hv := aeval_rel q3 h5
      rw [e1] at hv
      simp only [VRel] at hv
      obtain ⟨p, hp1, hv⟩ := hv
      obtain ⟨p', pm, g1, g2, g3, g4, g5, g6⟩ := q5.atI id I e2
      rw [hp1] at g1; cases g1
      obtain ⟨ces, hb, hmr, hst⟩ := q2.obj _ _ _ (hget_some e3) g3
      have hst' := (MapKept.stamped_iff _ _).1 hst
      rw [g2] at hv
      have hleft : MRel ι (fzOf ι H.l w) (leftL es I.seen) (leftOf ces I.seen.toArray).toList := by
        have := hmr.left (seen := I.seen)
        unfold leftOf
        simpa using this
      rcases run_next_at (P := P) o.type g4 hb hst'.1 with ⟨r1, r2⟩ | ⟨c, r1, w1, a1, a2, a3, a4, r2⟩
      · rw [r1] at hleft
        have hrun : (execOp a.eval o).run P w = .ok (.value (.tuple #[.bool false])) w := by
          simp only [execOp, h1, Sem.run_bind, hv, Nat.add_zero, r2, Result.andThen_ok, Sem.run_pure]
        refine it_op ho h3 h2 (by simp [h1]) hrun (dops_sound hC hE is ls hm' hl' (K := K) ⟨ι, q1, q2, ?_, by rw [put_defers]; exact q4, q5⟩ (hk1 (MRel_nil_right hleft)) hQ)
        refine VRels.put q3 ?_
        simp only [VRel]
        exact ⟨_, rfl, by simp [VRel]⟩
      · obtain ⟨xe, hx, x1, x2, x3⟩ := hleft.mem c r1
        obtain ⟨s1, s2, s3⟩ := stp_own (o := .mapIter (some pm.blk) I.clk (I.seen.toArray.push c.born) I.clk) q2 q1 g5 g4 (fun _ _ _ k => by cases k) g6 a1 a2 a3 a4
        have hrun : (execOp a.eval o).run P w = .ok (.value (.tuple #[.bool true, c.key, c.val])) (setObjW w1 p.blk (.mapIter (some pm.blk) I.clk (I.seen.toArray.push c.born) I.clk)) := by
          simp only [execOp, h1, Sem.run_bind, hv, Nat.add_zero, r2, Result.andThen_ok, Sem.run_pure]
        have hlt := (Array.getElem?_eq_some_iff.1 g4).1
        have hoth : ∀ k, k ≠ p.blk → (setObjW w1 p.blk (.mapIter (some pm.blk) I.clk (I.seen.toArray.push c.born) I.clk)).heap[k]? = w.heap[k]? := fun k hk => by rw [setObjW_other hk, a1]
        have hsame : (setObjW w1 p.blk (.mapIter (some pm.blk) I.clk (I.seen.toArray.push c.born) I.clk)).heap[p.blk]? = some (.mapIter (some pm.blk) I.clk (I.seen.toArray.push c.born) I.clk) := setObjW_same (by rw [a1]; exact hlt)
        refine it_op ho h3 h2 (by simp [h1]) hrun (dops_sound hC hE is ls hm' hl' (K := K) ⟨ι, s1, s2, ?_, ?_, ?_⟩ (hk2 xe hx) hQ)
        · refine VRels.put (VRels.mono (List.prefix_refl _) s3 _ _ q3) ?_
          simp only [VRel]
          refine ⟨_, rfl, ?_⟩
          simp only [VRels_cons, VRels_nil, VRel, and_true, true_and]
          exact ⟨x1, VRel.mono (List.prefix_refl _) s3 _ _ x3⟩
        · rw [put_defers]
          obtain ⟨Ds, k1, k2, k3⟩ := q4
          refine ⟨Ds, k1, k2, fun D hD => ?_⟩
          obtain ⟨j1, j2, j3⟩ := k3 D hD
          refine ⟨j1, ?_, j3⟩
          rw [hoth D (by rintro rfl; rw [g4] at j2; cases j2)]
          exact j2
        · refine ⟨fun id' I' hl2 => ?_, fun id1 id2 I1 I2 p1 p2 k1 k2 k3 k4 e => ?_⟩
          · by_cases hid : id' = id
            · subst hid
              rw [lookup_cons_self] at hl2
              cases hl2
              refine ⟨p, pm, hp1, g2, g3, ?_, g5, g6⟩
              rw [hsame, ← x2]
              simp
            · rw [lookup_cons_ne hid] at hl2
              obtain ⟨p', pm', f1, f2, f3, f4, f5, f6⟩ := q5.atI id' I' hl2
              refine ⟨p', pm', f1, f2, f3, ?_, f5, f6⟩
              rw [hoth p'.blk (fun e => hid (q5.two _ _ _ _ _ _ hl2 e2 f1 hp1 e))]
              exact f4
          · have hL : ∀ id', ∀ I', List.lookup id' ((id, { I with seen := I.seen ++ [xe.2.2], last := some xe }) :: its) = some I' → ∃ I'', its.lookup id' = some I'' := by
              intro id' I' hl2
              by_cases hid : id' = id
              · subst hid; exact ⟨I, e2⟩
              · rw [lookup_cons_ne hid] at hl2; exact ⟨I', hl2⟩
            obtain ⟨_, m1⟩ := hL _ _ k1
            obtain ⟨_, m2⟩ := hL _ _ k2
            exact q5.two _ _ _ _ _ _ m1 m2 k3 k4 e
    · obtain ⟨id, I, es, en, e1, e2, e3, _, e4, e5, hk⟩ := h
      have hv := aeval_rel q3 h5
      rw [e1] at hv
      simp only [VRel] at hv
      obtain ⟨p, hp1, hv⟩ := hv
      obtain ⟨p', pm, g1, g2, g3, g4, g5, g6⟩ := q5.atI id I e2
      rw [hp1] at g1; cases g1
      obtain ⟨ces, hb, hmr, hst⟩ := q2.obj _ _ _ (hget_some e3) g3
      have hst' := (MapKept.stamped_iff _ _).1 hst
      rw [g2] at hv
      obtain ⟨c, hc, x1, x2, x3⟩ := hmr.mem' en e4
      have hrun : (execOp a.eval o).run P w = .ok (.value (.tuple #[c.key, c.val])) w := by
        simp only [execOp, h1, Sem.run_bind, hv, Nat.add_zero, run_entry_at (P := P) g4 hb hc (by rw [x2]; simpa using e5) hst'.2.1, Result.andThen_ok, Sem.run_pure]
      refine it_op ho h3 h2 (by simp [h1]) hrun (dops_sound hC hE is ls hm' hl' (K := K) ⟨ι, q1, q2, ?_, by rw [put_defers]; exact q4, q5⟩ hk hQ)
      refine VRels.put q3 ?_
      simp only [VRel]
      refine ⟨_, rfl, ?_⟩
      simp only [VRels_cons, VRels_nil, VRel, and_true]
      exact ⟨x1, x3⟩
    · obtain ⟨R, hR, hk⟩ := h
      unfold wpOpIn
      simp only [ho]
      have hw : Region.wanted o (yielded ops a.tmps) = true := by simp [Region.wanted, h3]
      rw [if_pos hw]
      refine ⟨fun _ _ => trivial, ?_⟩
      rw [Oper.semAt_eq _ _ _ (by simp [h1])]
      have hvf := aeval_rel (x := .func f) (y := .c (.fn f [] [])) q3 rfl
      have hva := aevals_rel q3 h5
      have hex : (execOp a.eval o).run P w = ((resolve a.eval c o.type).run P w).andThen fun d w => (invoke d.target d.args).run P w := by
        simp only [execOp, h1, Sem.run_bind]
      have hva' : VRels ι (fzOf ι H.l w) (ys.map (aeval τ)) (c.args.map a.eval).toList := by simpa using hva
      simp only [aeval, VRel] at hvf
      obtain ⟨as, bs, e3, r1, r2⟩ := hvf
      have hd : (resolve a.eval c o.type).run P w = .ok { target := .fn (.func f) bs, args := as ++ c.args.map a.eval } w := by
        simp only [resolve, h2, e3, Deferred.ofValue, Sem.run_pure]
      rw [hex, hd]
      simp only [Result.andThen_ok, invoke]
      have := hC (cargs := as ++ c.args.map a.eval ++ bs) hR q2 (by simpa using (r1.append hva').append r2)
      refine upon_uponIn this fun cv w' hh => ?_
      obtain ⟨v, g, hRv, ι', s1, s2, s3⟩ := hh
      exact dops_sound hC hE is ls hm' hl' (K := K) ⟨ι', q1.trans s1, s2, VRels.put (s1.vs q3) s3, by rw [put_defers]; exact q4.step s1, q5.step s1⟩ (hk v g hRv) hQ
end
end Go.Proofs.Eng
