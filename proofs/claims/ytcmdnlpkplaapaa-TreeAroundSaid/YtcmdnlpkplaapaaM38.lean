import Derived.Test.YtcmdnlpkplaapaaM26
import Derived.Test.YtcmdnlpkplaapaaM35
import Derived.Laws.IdiomRangeMap
import Derived.Test.YtcmdnlpkplaapaaEngAG
/- Templates of functions, as the engine takes them; numbers of functions and types by names. Printed by tm.py. -/
set_option linter.unusedVariables false
set_option maxRecDepth 100000
namespace Go.Proofs.Eng
open Go

def L_ref03_IsWord_1 (N : Nat → Nat) : AC :=
    .seq (
     .seq (
      .ops [⟨(some 7), .mov (.t 3), none⟩, ⟨(some 8), .mov (.t 0), none⟩, ⟨(some 9), .lens (.t 8), none⟩, ⟨(some 10), .bin .lss (.t 7) (.t 9), none⟩]) (
     .cond (.t 10) (
      .skip) (
      .exit 0))) (
    .seq (
     .block 1 (
      .seq (
       .ops [⟨(some 13), .mov (.t 0), none⟩, ⟨(some 14), .mov (.t 3), none⟩, ⟨(some 15), .sidx (.t 13) (.t 14), none⟩, ⟨(some 16), .bin .lss (.t 15) (.c (.lit (.int .u8 97))), none⟩, ⟨(some 17), .mov (.t 16), none⟩, ⟨(some 18), .mov (.t 0), (some (17, false))⟩, ⟨(some 19), .mov (.t 3), (some (17, false))⟩, ⟨(some 20), .sidx (.t 18) (.t 19), (some (17, false))⟩, ⟨(some 21), .bin .gtr (.t 20) (.c (.lit (.int .u8 122))), (some (17, false))⟩, ⟨(some 22), .pick (.t 17) (.c (.lit (.bool true))) (.t 21), none⟩]) (
      .cond (.t 22) (
       .seq (
        .ops [⟨(some 2), .mov (.c (.lit (.bool false))), none⟩]) (
       .ret)) (
       .skip)))) (
    .ops [⟨(some 11), .mov (.t 3), none⟩, ⟨(some 12), .bin .add (.t 11) (.c (.lit (.int .i64 1))), none⟩, ⟨(some 3), .mov (.t 12), none⟩]))
def L_ref03_IsWord_2 (N : Nat → Nat) : AC :=
    .seq (
     .seq (
      .ops [⟨(some 23), .mov (.t 4), none⟩, ⟨(some 24), .mov (.t 0), none⟩, ⟨(some 25), .lens (.t 24), none⟩, ⟨(some 26), .bin .add (.t 23) (.t 25), none⟩, ⟨(some 27), .bin .add (.t 26) (.c (.lit (.int .i64 2))), none⟩, ⟨(some 28), .bin .leq (.t 27) (.c (.lit (.int .i64 89))), none⟩]) (
     .cond (.t 28) (
      .skip) (
      .exit 2))) (
    .seq (
     .block 3 (
      .seq (
       .ops [⟨(some 31), .mov (.t 4), none⟩, ⟨(some 32), .mov (.t 4), none⟩, ⟨(some 33), .mov (.t 0), none⟩, ⟨(some 34), .lens (.t 33), none⟩, ⟨(some 35), .bin .add (.t 32) (.t 34), none⟩, ⟨(some 36), .bin .add (.t 35) (.c (.lit (.int .i64 2))), none⟩, ⟨(some 37), .slstr (.c (.lit (.string (mkS [32, 102, 117, 110, 32, 108, 101, 116, 32, 114, 101, 99, 32, 105, 110, 32, 105, 102, 32, 116, 104, 101, 110, 32, 101, 108, 115, 101, 32, 99, 97, 115, 101, 32, 111, 102, 32, 101, 110, 100, 32, 116, 114, 117, 101, 32, 102, 97, 108, 115, 101, 32, 105, 110, 116, 32, 98, 111, 111, 108, 32, 115, 116, 114, 32, 102, 108, 111, 97, 116, 32, 100, 121, 110, 32, 97, 110, 121, 32, 110, 111, 110, 101, 32, 116, 121, 112, 101, 32])))) (some (.t 31)) (some (.t 36)), none⟩, ⟨(some 38), .mov (.t 0), none⟩, ⟨(some 39), .bin .add (.c (.lit (.string (mkS [32])))) (.t 38), none⟩, ⟨(some 40), .bin .add (.t 39) (.c (.lit (.string (mkS [32])))), none⟩, ⟨(some 41), .eq false .pstr (.t 37) (.t 40), none⟩]) (
      .cond (.t 41) (
       .seq (
        .ops [⟨(some 2), .mov (.c (.lit (.bool true))), none⟩]) (
       .ret)) (
       .skip)))) (
    .ops [⟨(some 29), .mov (.t 4), none⟩, ⟨(some 30), .bin .add (.t 29) (.c (.lit (.int .i64 1))), none⟩, ⟨(some 4), .mov (.t 30), none⟩]))
def K_ref03_IsWord_2 (N : Nat → Nat) : AC :=
 .seq (
  .ops [⟨(some 2), .mov (.c (.lit (.bool false))), none⟩]) (
 .ret)
def K_ref03_IsWord_1 (N : Nat → Nat) : AC :=
 .seq (
  .seq (
   .ops [⟨(some 4), .mov (.c (.lit (.int .i64 0))), none⟩]) (
  .block 2 (
   .loop (L_ref03_IsWord_2 N)))) (K_ref03_IsWord_2 N)
/-- azimuth/azimuthref03.IsWord -/
def C_ref03_IsWord (N : Nat → Nat) : AFunc := ⟨42, [.inl 2],
 .seq (
  .ops [⟨(some 2), .mov (.c (.lit (.bool false))), none⟩]) (
 .seq (
  .seq (
   .ops [⟨(some 5), .mov (.t 0), none⟩, ⟨(some 6), .eq false .pstr (.t 5) (.c (.lit (.string (mkS [])))), none⟩]) (
  .cond (.t 6) (
   .seq (
    .ops [⟨(some 2), .mov (.c (.lit (.bool false))), none⟩]) (
   .ret)) (
   .skip))) (
 .seq (
  .seq (
   .ops [⟨(some 3), .mov (.c (.lit (.int .i64 0))), none⟩]) (
  .block 0 (
   .loop (L_ref03_IsWord_1 N)))) (K_ref03_IsWord_1 N))), false⟩

end Go.Proofs.Eng
/- Templates of functions, as the engine takes them; numbers of functions and types by names. Printed by tm.py. -/
set_option linter.unusedVariables false
set_option maxRecDepth 100000
namespace Go.Proofs.Eng
open Go

/-- azimuth/azimuthref04.Name -/
def C_ref04_Name (N : Nat → Nat) : AFunc := ⟨10, [.inl 2],
 .seq (
  .ops [⟨(some 2), .mov (.c (.lit (.bool false))), none⟩]) (
 .seq (
  .ops [⟨(some 3), .mov (.t 0), none⟩, ⟨(some 4), .call (.c (.fn (f_ref04_Tag N) [] [])) [(.t 3)], none⟩, ⟨(some 5), .mov (.t 4), none⟩, ⟨(some 6), .mov (.t 0), (some (5, true))⟩, ⟨(some 7), .call (.c (.fn (f_ref03_IsWord N) [] [])) [(.t 6)], (some (5, true))⟩, ⟨(some 8), .un .not (.t 7), (some (5, true))⟩, ⟨(some 9), .pick (.t 5) (.t 8) (.c (.lit (.bool false))), none⟩, ⟨(some 2), .mov (.t 9), none⟩]) (
 .ret)), false⟩

def L_ref04_Tag_1 (N : Nat → Nat) : AC :=
    .seq (
     .seq (
      .ops [⟨(some 6), .mov (.t 3), none⟩, ⟨(some 7), .mov (.t 0), none⟩, ⟨(some 8), .lens (.t 7), none⟩, ⟨(some 9), .bin .lss (.t 6) (.t 8), none⟩]) (
     .cond (.t 9) (
      .skip) (
      .exit 0))) (
    .seq (
     .block 1 (
      .seq (
       .ops [⟨(some 12), .mov (.t 0), none⟩, ⟨(some 13), .mov (.t 3), none⟩, ⟨(some 14), .sidx (.t 12) (.t 13), none⟩, ⟨(some 4), .mov (.t 14), none⟩]) (
      .seq (
       .ops [⟨(some 15), .mov (.t 4), none⟩, ⟨(some 16), .bin .geq (.t 15) (.c (.lit (.int .u8 97))), none⟩, ⟨(some 17), .mov (.t 16), none⟩, ⟨(some 18), .mov (.t 4), (some (17, true))⟩, ⟨(some 19), .bin .leq (.t 18) (.c (.lit (.int .u8 122))), (some (17, true))⟩, ⟨(some 20), .pick (.t 17) (.t 19) (.c (.lit (.bool false))), none⟩, ⟨(some 21), .mov (.t 20), none⟩, ⟨(some 22), .mov (.t 4), (some (21, false))⟩, ⟨(some 23), .eq false .pint (.t 22) (.c (.lit (.int .u8 95))), (some (21, false))⟩, ⟨(some 24), .pick (.t 21) (.c (.lit (.bool true))) (.t 23), none⟩, ⟨(some 5), .mov (.t 24), none⟩]) (
      .seq (
       .ops [⟨(some 25), .mov (.t 5), none⟩, ⟨(some 26), .un .not (.t 25), none⟩, ⟨(some 27), .mov (.t 26), none⟩, ⟨(some 28), .mov (.t 3), (some (27, true))⟩, ⟨(some 29), .eq false .pint (.t 28) (.c (.lit (.int .i64 0))), (some (27, true))⟩, ⟨(some 30), .mov (.t 29), (some (27, true))⟩, ⟨(some 31), .mov (.t 4), (some (30, false))⟩, ⟨(some 32), .bin .lss (.t 31) (.c (.lit (.int .u8 48))), (some (30, false))⟩, ⟨(some 33), .pick (.t 30) (.c (.lit (.bool true))) (.t 32), (some (27, true))⟩, ⟨(some 34), .mov (.t 33), (some (27, true))⟩, ⟨(some 35), .mov (.t 4), (some (34, false))⟩, ⟨(some 36), .bin .gtr (.t 35) (.c (.lit (.int .u8 57))), (some (34, false))⟩, ⟨(some 37), .pick (.t 34) (.c (.lit (.bool true))) (.t 36), (some (27, true))⟩, ⟨(some 38), .pick (.t 27) (.t 37) (.c (.lit (.bool false))), none⟩]) (
      .cond (.t 38) (
       .seq (
        .ops [⟨(some 2), .mov (.c (.lit (.bool false))), none⟩]) (
       .ret)) (
       .skip)))))) (
    .ops [⟨(some 10), .mov (.t 3), none⟩, ⟨(some 11), .bin .add (.t 10) (.c (.lit (.int .i64 1))), none⟩, ⟨(some 3), .mov (.t 11), none⟩]))
def K_ref04_Tag_1 (N : Nat → Nat) : AC :=
 .seq (
  .ops [⟨(some 39), .mov (.t 0), none⟩, ⟨(some 40), .eq true .pstr (.t 39) (.c (.lit (.string (mkS [])))), none⟩, ⟨(some 2), .mov (.t 40), none⟩]) (
 .ret)
/-- azimuth/azimuthref04.Tag -/
def C_ref04_Tag (N : Nat → Nat) : AFunc := ⟨41, [.inl 2],
 .seq (
  .ops [⟨(some 2), .mov (.c (.lit (.bool false))), none⟩]) (
 .seq (
  .seq (
   .ops [⟨(some 3), .mov (.c (.lit (.int .i64 0))), none⟩]) (
  .block 0 (
   .loop (L_ref04_Tag_1 N)))) (K_ref04_Tag_1 N)), false⟩
end Go.Proofs.Eng
/- The engine, part AP: drawn regions told apart by the order of pairs; iterators over maps; code run for whatever is drawn. -/
set_option linter.unusedVariables false
set_option linter.unusedSimpArgs false
namespace Go.Proofs.Eng
open Go Go.RowKit

/-! ### Orders of a region -/
/-- An order in which the operations of a region may come. -/
def Vld (md : Region.Mode) (ops : Array Oper) : Array Bool → List Nat → Prop
  | listed, [] => ∀ i, i < ops.size → listed.getD i true = true
  | listed, i :: r => i ∈ Region.ready md ops listed ∧ Vld md ops (listed.setIfInBounds i true) r

theorem ready_iff {md : Region.Mode} {ops : Array Oper} {listed : Array Bool} {i : Nat} : i ∈ Region.ready md ops listed ↔ i < ops.size ∧ listed.getD i true = false ∧ ∃ o, ops[i]? = some o ∧ ∀ e ∈ o.after.toList, Region.binds md e = true → listed.getD e.on false = true := by
  unfold Region.ready
  rw [List.mem_filter]
  simp only [List.mem_range, Bool.and_eq_true, Bool.not_eq_true']
  constructor
  · rintro ⟨h1, h2, h3⟩
    refine ⟨h1, h2, ?_⟩
    rw [Array.getElem?_eq_getElem h1] at h3
    refine ⟨ops[i], Array.getElem?_eq_getElem h1, ?_⟩
    simp only [Option.map_some, Option.getD_some] at h3
    intro e he hb
    have := (Array.all_eq_true_iff_forall_mem.1 h3) e (by simpa using he)
    simpa [hb] using this
  · rintro ⟨h1, h2, o, ho, h3⟩
    refine ⟨h1, h2, ?_⟩
    rw [ho]
    simp only [Option.map_some, Option.getD_some]
    rw [Array.all_eq_true_iff_forall_mem]
    intro e he
    by_cases hb : Region.binds md e = true
    · simp [h3 e (by simpa using he) hb]
    · simp [hb]

theorem ready_ne {md : Region.Mode} {ops : Array Oper} {listed : Array Bool} (hord : orders ops.toList = true) (hs : listed.size = ops.size) {i : Nat} (hi : i < ops.size) (hl : listed.getD i true = false) : Region.ready md ops listed ≠ [] := by
  intro hnil
  obtain ⟨j, o, g1, g2, g3, g4⟩ := orders_go (md := md) hord (p := fun k => !listed.getD k true) ⟨i, by simpa using hi, by simp [hl]⟩ (fun k hk => by
    have : ¬ k < listed.size := by simp at hk; omega
    simp [Array.getD, this])
  have hmem : j ∈ Region.ready md ops listed := by
    rw [ready_iff]
    refine ⟨by simpa using g1, by simpa using g2, o, by simpa using g3, fun e he hb => ?_⟩
    obtain ⟨k1, k2⟩ := g4 e he hb
    have hsz : e.on < listed.size := by simp at k2; omega
    simp only [Array.getD, hsz, dite_true, Bool.not_eq_false'] at k1 ⊢
    exact k1
  rw [hnil] at hmem
  simp at hmem

theorem getD_setB {l : Array Bool} {i k : Nat} (hi : i < l.size) (d : Bool) : (l.setIfInBounds i true).getD k d = if k = i then true else l.getD k d := by
  simp only [Array.getD_eq_getD_getElem?, Array.getElem?_setIfInBounds]
  by_cases h : i = k
  · subst h; simp [hi]
  · have : ¬ k = i := fun e => h e.symm
    simp [h, this]

theorem lin_vld {md : Region.Mode} {ops : Array Oper} (hord : orders ops.toList = true) : ∀ (fuel t : Nat) (listed : Array Bool) (U : List Nat), U.length = fuel → U.Nodup → (∀ i, i ∈ U ↔ i < ops.size ∧ listed.getD i true = false) → listed.size = ops.size →
    Vld md ops listed (Region.linearise.go md ops fuel t listed []) := by
  intro fuel
  induction fuel with
  | zero =>
    intro t listed U hn hU0 hU hs
    have : U = [] := List.length_eq_zero_iff.1 hn
    subst this
    simp only [Region.linearise.go, List.reverse_nil, Vld]
    intro i hi
    cases hb : listed.getD i true with
    | true => rfl
    | false => exact absurd ((hU i).2 ⟨hi, hb⟩) (by simp)
  | succ fuel ih =>
    intro t listed U hn hU0 hU hs
    simp only [Region.linearise.go]
    change Vld md ops listed (match (Region.ready md ops listed)[t % (Region.ready md ops listed).length]? with
      | some i => Region.linearise.go md ops fuel (t / (Region.ready md ops listed).length) (listed.setIfInBounds i true) [i]
      | none => [].reverse)
    have hne : Region.ready md ops listed ≠ [] := by
      cases U with
      | nil => simp at hn
      | cons i U => exact ready_ne hord hs ((hU i).1 (by simp)).1 ((hU i).1 (by simp)).2
    cases hi : (Region.ready md ops listed)[t % (Region.ready md ops listed).length]? with
    | none =>
      have hpos : 0 < (Region.ready md ops listed).length := List.length_pos_iff.2 hne
      have := Nat.mod_lt t hpos
      rw [List.getElem?_eq_none_iff] at hi
      omega
    | some i =>
      simp only []
      rw [linearise_go_acc, List.reverse_singleton, List.singleton_append]
      have hm : i ∈ Region.ready md ops listed := List.mem_of_getElem? hi
      obtain ⟨h1, h2, _⟩ := ready_iff.1 hm
      have hiU : i ∈ U := (hU i).2 ⟨h1, h2⟩
      refine ⟨hm, ih _ _ (U.erase i) ?_ (hU0.erase i) (fun k => ?_) (by simpa using hs)⟩
      · rw [List.length_erase_of_mem hiU]; omega
      · rw [hU0.mem_erase_iff, hU, getD_setB (by omega)]
        by_cases hk : k = i
        · simp [hk]
        · simp [hk]

theorem wpAny_follow {F : Fence} {n : Nat} {P : Program} {md : Region.Mode} {ops : Array Oper} {Q : Exit → Act → World → Prop} : ∀ (σ : List Nat) (fuel : Nat) (listed : Array Bool) (a : Act) (w : World), Vld md ops listed σ → wpAnyIn F n P md ops Q fuel listed a w → wpOpsIn F n P ops Q σ a w
  | [], fuel, listed, a, w, hv, h => by
    have hr : Region.ready md ops listed = [] := by
      unfold Region.ready
      rw [List.filter_eq_nil_iff]
      intro i hi hh
      simp only [List.mem_range] at hi
      simp only [Bool.and_eq_true, Bool.not_eq_true'] at hh
      have := hv i hi
      rw [hh.1] at this
      cases this
    cases fuel with
    | zero => exact h.2
    | succ k => exact h.1 hr
  | i :: r, fuel, listed, a, w, hv, h => by
    obtain ⟨h1, h2⟩ := hv
    cases fuel with
    | zero => rw [h.1] at h1; simp at h1
    | succ k =>
      rw [wpOpsIn_cons]
      exact wpOpIn_mono (fun a w => wpAny_follow r k _ a w h2) (h.2 i h1)

/-- The same region, with i ahead of j. -/
def addE (ops : Array Oper) (j i : Nat) : Array Oper := ops.modify j fun o => { o with after := o.after.push { on := i, ground := .phase } }
@[simp] theorem addE_size (ops : Array Oper) (j i : Nat) : (addE ops j i).size = ops.size := by simp [addE]
theorem addE_get (ops : Array Oper) (j i x : Nat) : (addE ops j i)[x]? = if j = x then (ops[x]?).map (fun o => { o with after := o.after.push { on := i, ground := .phase } }) else ops[x]? := by
  unfold addE
  rw [Array.getElem?_modify]

/-- j does not come ahead of i. -/
def Bef (i j : Nat) : List Nat → Prop
  | [] => True
  | x :: r => x = i ∨ (x ≠ j ∧ Bef i j r)
theorem Bef_or {i j : Nat} (hij : i ≠ j) : ∀ σ : List Nat, Bef i j σ ∨ Bef j i σ
  | [] => .inl trivial
  | x :: r => by
    by_cases h1 : x = i
    · exact .inl (.inl h1)
    by_cases h2 : x = j
    · exact .inr (.inl h2)
    rcases Bef_or hij r with h | h
    · exact .inl (.inr ⟨h2, h⟩)
    · exact .inr (.inr ⟨h1, h⟩)

theorem Vld.add {md : Region.Mode} {ops : Array Oper} {i j : Nat} (hij : i ≠ j) : ∀ (σ : List Nat) (listed : Array Bool), listed.size = ops.size → Vld md ops listed σ → (listed.getD i false = true ∨ Bef i j σ) → Vld md (addE ops j i) listed σ
  | [], listed, hs, hv, hb => by simpa [Vld] using hv
  | x :: r, listed, hs, hv, hb => by
    obtain ⟨h1, h2⟩ := hv
    obtain ⟨k1, k2, o, k3, k4⟩ := ready_iff.1 h1
    refine ⟨?_, Vld.add hij r _ (by simpa using hs) h2 ?_⟩
    · rw [ready_iff]
      refine ⟨by simpa using k1, k2, ?_⟩
      rw [addE_get]
      by_cases hx : j = x
      · rw [if_pos hx, k3]
        refine ⟨_, rfl, fun e he hbd => ?_⟩
        simp only [Array.toList_push, List.mem_append, List.mem_singleton] at he
        rcases he with he | rfl
        · exact k4 e he hbd
        · rcases hb with hb | hb | hb
          · exact hb
          · exact absurd (hb.symm.trans hx.symm) hij
          · exact absurd hx.symm hb.1
      · rw [if_neg hx]
        exact ⟨o, k3, k4⟩
    · rw [getD_setB (by omega)]
      by_cases hx : i = x
      · simp [hx]
      · rcases hb with hb | hb | hb
        · exact .inl (by simp [hx, hb])
        · exact absurd hb.symm hx
        · exact .inr hb.2

/-- The operations numbered anew: p: the old number of each; q: the new one. -/
def remap (q : List Nat) (o : Oper) : Oper := { o with after := o.after.map (fun e => { e with on := q.getD e.on e.on }), guard := o.guard.map fun g => (q.getD g.1 g.1, g.2) }
def permOps (p q : List Nat) (ops : Array Oper) : Array Oper := (p.filterMap fun old => (ops[old]?).map (remap q)).toArray
def permOK (p q : List Nat) (ops : Array Oper) : Bool :=
  p.length == ops.size && q.length == ops.size && (List.range ops.size).all (fun k => decide (p.getD k 0 < ops.size) && q.getD (p.getD k 0) 0 == k && decide (q.getD k 0 < ops.size) && p.getD (q.getD k 0) 0 == k) &&
  ops.toList.all fun (o : Oper) => (o.after.toList.all fun (e : Edge) => decide (e.on < ops.size)) && (match o.guard with | some g => decide (g.1 < ops.size) | none => true)

structure PermS (p q : List Nat) (ops : Array Oper) : Prop where
  pl : p.length = ops.size
  ql : q.length = ops.size
  plt : ∀ k, k < ops.size → p.getD k 0 < ops.size
  qp : ∀ k, k < ops.size → q.getD (p.getD k 0) 0 = k
  qlt : ∀ k, k < ops.size → q.getD k 0 < ops.size
  pq : ∀ k, k < ops.size → p.getD (q.getD k 0) 0 = k
  aft : ∀ (i : Nat) (o : Oper), ops[i]? = some o → (∀ e ∈ o.after.toList, e.on < ops.size) ∧ ∀ g, o.guard = some g → g.1 < ops.size

theorem permOK_spec {p q : List Nat} {ops : Array Oper} (h : permOK p q ops = true) : PermS p q ops := by
  unfold permOK at h
  simp only [Bool.and_eq_true, beq_iff_eq, List.all_eq_true, List.mem_range, decide_eq_true_eq] at h
  obtain ⟨⟨⟨h1, h2⟩, h3⟩, h4⟩ := h
  refine ⟨h1, h2, fun k hk => (h3 k hk).1.1.1, fun k hk => (h3 k hk).1.1.2, fun k hk => (h3 k hk).1.2, fun k hk => (h3 k hk).2, fun i o ho => ?_⟩
  have := h4 o (by simpa using Array.mem_of_getElem? ho)
  refine ⟨this.1, fun g hg => ?_⟩
  have h2 := this.2
  rw [hg] at h2
  simpa using h2

section
variable {p q : List Nat} {ops : Array Oper}
theorem perm_list {ops : Array Oper} : ∀ (p : List Nat), (∀ x ∈ p, x < ops.size) → (p.filterMap fun old => (ops[old]?).map (remap q)).length = p.length ∧ ∀ k : Nat, (p.filterMap fun old => (ops[old]?).map (remap q))[k]? = (p[k]?).bind fun old => (ops[old]?).map (remap q)
  | [], _ => ⟨rfl, fun k => by simp⟩
  | x :: p, h => by
    have hx := h x (by simp)
    obtain ⟨h1, h2⟩ := perm_list p (fun y hy => h y (by simp [hy]))
    have e : (ops[x]?).map (remap q) = some (remap q ops[x]) := by rw [Array.getElem?_eq_getElem hx]; rfl
    rw [List.filterMap_cons, e]
    refine ⟨by simp [h1], fun k => ?_⟩
    cases k with
    | zero => simp [e]
    | succ k => simpa using h2 k

theorem PermS.mem (h : PermS p q ops) : ∀ x ∈ p, x < ops.size := by
  intro x hx
  obtain ⟨k, hk⟩ := List.getElem?_of_mem hx
  have hlt := (List.getElem?_eq_some_iff.1 hk).1
  have := h.plt k (by rw [← h.pl]; exact hlt)
  rwa [List.getD_eq_getElem?_getD, hk] at this

theorem PermS.size (h : PermS p q ops) : (permOps p q ops).size = ops.size := by
  unfold permOps
  rw [List.size_toArray, (perm_list p h.mem).1, h.pl]

theorem PermS.get (h : PermS p q ops) {i : Nat} (hi : i < ops.size) : (permOps p q ops)[q.getD i 0]? = (ops[i]?).map (remap q) := by
  unfold permOps
  rw [List.getElem?_toArray, (perm_list p h.mem).2]
  have h1 := h.qlt i hi
  have h2 := h.pq i hi
  rw [List.getD_eq_getElem?_getD] at h2
  have : p[q.getD i 0]? = some i := by
    rw [List.getElem?_eq_getElem (by rw [h.pl]; exact h1)] at h2 ⊢
    simpa using h2
  rw [this]
  rfl

theorem PermS.inj (h : PermS p q ops) {i j : Nat} (hi : i < ops.size) (hj : j < ops.size) (e : q.getD i 0 = q.getD j 0) : i = j := by
  rw [← h.pq i hi, ← h.pq j hj, e]

theorem PermS.q0 (h : PermS p q ops) {i d : Nat} (hi : i < ops.size) : q.getD i d = q.getD i 0 := by
  rw [List.getD_eq_getElem?_getD, List.getD_eq_getElem?_getD, List.getElem?_eq_getElem (by rw [h.ql]; exact hi)]
  rfl

theorem PermS.yields (h : PermS p q ops) {tmps : Array Value} {j : Nat} (hj : j < ops.size) : yielded (permOps p q ops) tmps (q.getD j 0) = yielded ops tmps j := by
  unfold yielded
  rw [h.get hj]
  cases ops[j]? <;> rfl

/-- What was listed, under the new numbers. -/
structure LstS (q : List Nat) (ops : Array Oper) (l l' : Array Bool) : Prop where
  s : l.size = ops.size
  s' : l'.size = ops.size
  g : ∀ i, i < ops.size → ∀ d, l'.getD (q.getD i 0) d = l.getD i d

theorem LstS.put (h : PermS p q ops) {l l' : Array Bool} (hl : LstS q ops l l') {i : Nat} (hi : i < ops.size) : LstS q ops (l.setIfInBounds i true) (l'.setIfInBounds (q.getD i 0) true) := by
  refine ⟨by simpa using hl.s, by simpa using hl.s', fun k hk d => ?_⟩
  rw [getD_setB (by rw [hl.s']; exact h.qlt i hi), getD_setB (by rw [hl.s]; exact hi), hl.g k hk]
  by_cases e : k = i
  · subst e; simp
  · rw [if_neg e, if_neg (fun k2 => e (h.inj hk hi k2))]

theorem Vld.perm {md : Region.Mode} (h : PermS p q ops) : ∀ (σ : List Nat) (l l' : Array Bool), LstS q ops l l' → Vld md ops l σ → Vld md (permOps p q ops) l' (σ.map fun i => q.getD i 0)
  | [], l, l', hl, hv => by
    simp only [List.map_nil, Vld]
    rw [h.size]
    intro i hi
    have := hl.g (p.getD i 0) (h.plt i hi) true
    rw [h.qp i hi] at this
    rw [this]
    exact hv _ (h.plt i hi)
  | i :: r, l, l', hl, hv => by
    obtain ⟨h1, h2⟩ := hv
    obtain ⟨k1, k2, o, k3, k4⟩ := ready_iff.1 h1
    refine ⟨?_, Vld.perm h r _ _ (hl.put h k1) h2⟩
    rw [ready_iff]
    refine ⟨by rw [h.size]; exact h.qlt i k1, by rw [hl.g i k1]; exact k2, remap q o, by rw [h.get k1, k3]; rfl, fun e he hb => ?_⟩
    simp only [remap, Array.toList_map, List.mem_map] at he
    obtain ⟨e0, he0, rfl⟩ := he
    have hlt := (h.aft i o k3).1 e0 he0
    rw [h.q0 hlt, hl.g _ hlt]
    exact k4 e0 he0 hb

theorem wpOps_perm {F : Fence} {n : Nat} {P : Program} {Q : Exit → Act → World → Prop} (h : PermS p q ops) : ∀ (σ : List Nat) (a : Act) (w : World), (∀ i ∈ σ, i < ops.size) → wpOpsIn F n P (permOps p q ops) Q (σ.map fun i => q.getD i 0) a w → wpOpsIn F n P ops Q σ a w
  | [], a, w, _, k => k
  | i :: r, a, w, hi, k => by
    have hi0 := hi i (by simp)
    rw [List.map_cons, wpOpsIn_cons] at k
    rw [wpOpsIn_cons]
    have k := wpOpIn_mono (fun a w => wpOps_perm h r a w (fun x hx => hi x (by simp [hx]))) k
    unfold wpOpIn at k ⊢
    rw [h.get hi0, Array.getElem?_eq_getElem hi0] at k
    rw [Array.getElem?_eq_getElem hi0]
    simp only [Option.map_some] at k ⊢
    have hw : Region.wanted (remap q ops[i]) (yielded (permOps p q ops) a.tmps) = Region.wanted ops[i] (yielded ops a.tmps) := by
      unfold Region.wanted
      cases hg : ops[i].guard with
      | none => simp [remap, hg]
      | some g =>
        obtain ⟨j, b⟩ := g
        have hj := (h.aft i ops[i] (Array.getElem?_eq_getElem hi0)).2 (j, b) hg
        simp only [remap, hg, Option.map_some]
        rw [h.q0 hj, h.yields hj]
    rw [hw] at k
    exact k
end

theorem yielded_add (ops : Array Oper) (j i : Nat) (tmps : Array Value) : yielded (addE ops j i) tmps = yielded ops tmps := by
  funext k
  unfold yielded
  rw [addE_get]
  by_cases h : j = k
  · rw [if_pos h]
    cases ops[k]? <;> rfl
  · rw [if_neg h]

theorem wpOps_add {F : Fence} {n : Nat} {P : Program} {ops : Array Oper} {Q : Exit → Act → World → Prop} {j i : Nat} : ∀ (σ : List Nat) (a : Act) (w : World), wpOpsIn F n P (addE ops j i) Q σ a w → wpOpsIn F n P ops Q σ a w
  | [], a, w, h => h
  | x :: r, a, w, h => by
    rw [wpOpsIn_cons] at h ⊢
    have h := wpOpIn_mono (fun a w => wpOps_add r a w) h
    unfold wpOpIn at h ⊢
    rw [addE_get, yielded_add] at h
    by_cases hx : j = x
    · rw [if_pos hx] at h
      cases ho : ops[x]? with
      | none => rw [ho] at h; exact h
      | some o => rw [ho] at h; exact h
    · rw [if_neg hx] at h
      exact h

inductive AltT where
  | leaf
  | split (i j : Nat) (a b : AltT)
  | perm (p q : List Nat) (a : AltT)
/-- The regions that a tree of pairs tells apart: a: i ahead of j. -/
def leaves : AltT → Array Oper → List (Array Oper)
  | .leaf, ops => [ops]
  | .split i j a b, ops => leaves a (addE ops j i) ++ leaves b (addE ops i j)
  | .perm p q a, ops => leaves a (permOps p q ops)
def altOK : AltT → Array Oper → Bool
  | .leaf, ops => true
  | .split i j a b, ops => i != j && decide (i < ops.size) && decide (j < ops.size) && altOK a (addE ops j i) && altOK b (addE ops i j)
  | .perm p q a, ops => permOK p q ops && altOK a (permOps p q ops)

theorem Vld.lt {md : Region.Mode} {ops : Array Oper} : ∀ (σ : List Nat) (l : Array Bool), Vld md ops l σ → ∀ i ∈ σ, i < ops.size
  | [], l, h, i, hi => by simp at hi
  | x :: r, l, h, i, hi => by
    rcases List.mem_cons.1 hi with rfl | hi
    · exact (ready_iff.1 h.1).1
    · exact Vld.lt r _ h.2 i hi

theorem lst0 {p q : List Nat} {ops : Array Oper} (h : PermS p q ops) : LstS q ops (Array.replicate ops.size false) (Array.replicate (permOps p q ops).size false) := by
  refine ⟨by simp, by simp [h.size], fun i hi d => ?_⟩
  have := h.qlt i hi
  simp only [Array.getD_eq_getD_getElem?, h.size]
  rw [Array.getElem?_eq_getElem (by simpa using this), Array.getElem?_eq_getElem (by simpa using hi)]
  simp

theorem alts_cover {F : Fence} {n : Nat} {P : Program} {md : Region.Mode} {Q : Exit → Act → World → Prop} {a : Act} {w : World} : ∀ (T : AltT) (ops : Array Oper) (σ : List Nat), altOK T ops = true → Vld md ops (Array.replicate ops.size false) σ →
    (∀ ops' ∈ leaves T ops, wpAnyIn F n P md ops' Q ops'.size (Array.replicate ops'.size false) a w) → wpOpsIn F n P ops Q σ a w
  | .leaf, ops, σ, _, hv, h => wpAny_follow _ _ _ _ _ hv (h ops (by simp [leaves]))
  | .split i j ta tb, ops, σ, hT, hv, h => by
    simp only [altOK, Bool.and_eq_true, bne_iff_ne, decide_eq_true_eq] at hT
    obtain ⟨⟨⟨⟨hij, hi⟩, hj⟩, ha⟩, hb⟩ := hT
    rcases Bef_or hij σ with k | k
    · exact wpOps_add σ a w (alts_cover ta (addE ops j i) σ ha (by simpa using hv.add hij _ _ (by simp) (.inr k)) fun o ho => h o (by simp [leaves, ho]))
    · exact wpOps_add σ a w (alts_cover tb (addE ops i j) σ hb (by simpa using hv.add (Ne.symm hij) _ _ (by simp) (.inr k)) fun o ho => h o (by simp [leaves, ho]))
  | .perm p q t, ops, σ, hT, hv, h => by
    simp only [altOK, Bool.and_eq_true] at hT
    have hp := permOK_spec hT.1
    exact wpOps_perm hp σ a w (Vld.lt σ _ hv) (alts_cover t (permOps p q ops) _ hT.2 (hv.perm hp _ _ _ (lst0 hp)) fun o ho => h o (by simp [leaves, ho]))

theorem region_alts {F : Fence} {n : Nat} {P : Program} {id : Nat} {ops : Array Oper} {Q : Exit → Act → World → Prop} {a : Act} {w : World} (T : AltT) (hT : altOK T ops = true) (hord : orders ops.toList = true)
    (h : ∀ ops' ∈ leaves T ops, ∀ md, wpAnyIn F n P md ops' Q ops'.size (Array.replicate ops'.size false) a { w with drawn := w.drawn + 1 }) : (Code.region id ops true).wpIn F n P Q a w := by
  refine wpIn_region_draw fun t => ?_
  have hany : ∀ (md : Region.Mode) (t : Nat), wpOpsIn F n P ops Q (Region.linearise md ops t) a { w with drawn := w.drawn + 1 } := by
    intro md t
    have hv : Vld md ops (Array.replicate ops.size false) (Region.linearise md ops t) := lin_vld hord ops.size t _ (List.range ops.size) (by simp) List.nodup_range (fun i => by
      simp only [List.mem_range, Array.getD_eq_getD_getElem?]
      constructor
      · intro hi; exact ⟨hi, by simp [hi]⟩
      · exact fun hi => hi.1) (by simp)
    exact alts_cover T ops _ hT hv fun o ho => h o ho md
  unfold Region.schedule
  split
  · exact hany _ _
  · exact hany _ _
end Go.Proofs.Eng
/- The engine, part AQ: code run for whatever is drawn: regions told apart, loops over maps; soundly. -/
set_option linter.unusedVariables false
set_option linter.unusedSimpArgs false
namespace Go.Proofs.Eng
open Go Go.RowKit

inductive DOp where
  | op (o : AOper)
  | range (dst : Nat) (m : Opd)
  | next (dst : Nat) (it : Opd)
  | entry (dst : Nat) (it : Opd)

inductive DC where
  | base (c : AC)
  | regD (l : List DOp)
  | alts (l : List AC)
  | seq (a b : DC)
  | cond (c : Opd) (a b : DC)
  | block (id : Nat) (b : DC)
  | loop (b : DC)

/-! ### Resolving -/
def isIt (o : Oper) : Bool := match o.op with | .range _ _ => true | .next _ _ => true | .entry _ => true | _ => false

def pDOp (P : Program) (ops : Array Oper) (o : Oper) : Option DOp :=
  match o.op, o.dst, o.guard with
  | .range t x, some d, none =>
    match P.underlying t, pOpd x with
    | some (.map _ _), some y => some (.range d y)
    | _, _ => none
  | .next x false, some d, none => (pOpd x).map (.next d)
  | .entry x, some d, none => (pOpd x).map (.entry d)
  | _, _, _ => (pOperE P ops o).map .op

/-- Is there something in code that is run for whatever is drawn? -/
def needD (hint : Nat → Option AltT) : Code → Bool
  | .region id ops draw => if draw then (hint id).isSome else ops.toList.any isIt
  | .seq a b => needD hint a || needD hint b
  | .cond _ a b => needD hint a || needD hint b
  | .block _ b => needD hint b
  | .loop b => needD hint b
  | _ => false

def pD (P : Program) (hint : Nat → Option AltT) : Code → Option DC
  | .region id ops draw =>
    if draw then
      match hint id with
      | some T => if altOK T ops && orders ops.toList then ((leaves T ops).mapM fun o => pRegion P id o true).map .alts else none
      | none => (pRegion P id ops true).map .base
    else if ops.toList.any isIt then (ops.toList.mapM (pDOp P ops)).map .regD
    else (pRegion P id ops false).map .base
  | .seq a b =>
    if needD hint (.seq a b) then do
      let a ← pD P hint a
      let b ← pD P hint b
      pure (.seq a b)
    else (pCode P (.seq a b)).map .base
  | .cond c a b =>
    if needD hint (.cond c a b) then do
      let a ← pD P hint a
      let b ← pD P hint b
      pure (.cond ((pOpd c).getD (.c avU)) a b)
    else (pCode P (.cond c a b)).map .base
  | .block id b => if needD hint (.block id b) then (pD P hint b).map (.block id) else (pCode P (.block id b)).map .base
  | .loop b => if needD hint (.loop b) then (pD P hint b).map .loop else (pCode P (.loop b)).map .base
  | c => (pCode P c).map .base

/-! ### Running -/
/-- An iterator: over which map, its clock as the loop began, what was handed out. -/
structure Itr where
  m : Nat
  clk : Nat
  seen : List Nat
  last : Option (Value × AV × Nat)

abbrev Its := List (Nat × Itr)
abbrev DPost := AX → List AV → Hp → Its → Prop

def hdead (H : Hp) : Hp := { H with l := H.l ++ [none] }
def leftL (es : List (Value × AV × Nat)) (seen : List Nat) : List (Value × AV × Nat) := es.filter fun e => !seen.contains e.2.2

def wpDO (E : Env) : List DOp → List AV → Hp → Its → (List AV → Hp → Its → Prop) → Prop
  | [], τ, H, its, K => K τ H its
  | .op o :: r, τ, H, its, K => ∃ v h, actO E o τ H = some (v, h) ∧ wpDO E r (aput o.dst v τ) (h.getD H) its K
  | .range d m :: r, τ, H, its, K => ∃ id es clk, aeval τ m = .map id ∧ hget H id = some (.map es clk) ∧ wpDO E r (aput (some d) (.ptr H.l.length 0) τ) (hdead H) ((H.l.length, ⟨id, clk, [], none⟩) :: its) K
  | .next d it :: r, τ, H, its, K => ∃ id I es, aeval τ it = .ptr id 0 ∧ its.lookup id = some I ∧ hget H I.m = some (.map es I.clk) ∧
      (leftL es I.seen = [] → wpDO E r (aput (some d) (.tup [avBool false]) τ) H its K) ∧
      ∀ e ∈ leftL es I.seen, wpDO E r (aput (some d) (.tup [avBool true, .lit e.1, e.2.1]) τ) H ((id, { I with seen := I.seen ++ [e.2.2], last := some e }) :: its) K
  | .entry d it :: r, τ, H, its, K => ∃ id I es e, aeval τ it = .ptr id 0 ∧ its.lookup id = some I ∧ hget H I.m = some (.map es I.clk) ∧ I.last = some e ∧ e ∈ es ∧ I.seen.getLast? = some e.2.2 ∧
      wpDO E r (aput (some d) (.tup [.lit e.1, e.2.1]) τ) H its K

def iterD (step : List AV → Hp → Its → DPost → Prop) (K : DPost) : Nat → List AV → Hp → Its → Prop
  | 0, _, _, _ => False
  | k + 1, τ, H, its => step τ H its fun x τ' H' its' => match x with | .nrm => iterD step K k τ' H' its' | x => K x τ' H' its'

/-- For whatever is drawn: what code comes to. -/
def wpDC (E : Env) : DC → List AV → Hp → Its → DPost → Prop
  | .base c, τ, H, its, K => ∃ x τ' H', execC E none c τ H = some (x, τ', H') ∧ K x τ' H' its
  | .regD l, τ, H, its, K => wpDO E l τ H its (K .nrm)
  | .alts l, τ, H, its, K => l ≠ [] ∧ ∀ c ∈ l, ∃ τ' H', execC E none c τ H = some (.nrm, τ', H') ∧ K .nrm τ' H' its
  | .seq a b, τ, H, its, K => wpDC E a τ H its fun x τ' H' its' => match x with | .nrm => wpDC E b τ' H' its' K | x => K x τ' H' its'
  | .cond c a b, τ, H, its, K => ∃ t, aeval τ c = avBool t ∧ (t = true → wpDC E a τ H its K) ∧ (t = false → wpDC E b τ H its K)
  | .block id b, τ, H, its, K => wpDC E b τ H its fun x τ' H' its' => match x with | .exit i => if i = id then K .nrm τ' H' its' else K (.exit i) τ' H' its' | x => K x τ' H' its'
  | .loop b, τ, H, its, K => ∃ k, iterD (fun τ H its K => wpDC E b τ H its K) K k τ H its

/-! ### Soundness -/
structure ItOK (base : Nat) (ι : Io) (L : HL) (w : World) (its : Its) : Prop where
  atI : ∀ id I, its.lookup id = some I → ∃ p pm, ι.l[id]? = some p ∧ p.sh = 0 ∧ ι.l[I.m]? = some pm ∧ w.heap[p.blk]? = some (.mapIter (some pm.blk) I.clk I.seen.toArray I.clk) ∧ ¬ Owned ι L p.blk ∧ base ≤ p.blk
  two : ∀ id id' I I' p p', its.lookup id = some I → its.lookup id' = some I' → ι.l[id]? = some p → ι.l[id']? = some p' → p.blk = p'.blk → id = id'

theorem ItOK.step {base : Nat} {ι ι' : Io} {L L' : HL} {w w' : World} {its : Its} (h : ItOK base ι L w its) (s : Stp ι L w ι' L' w') : ItOK base ι' L' w' its := by
  refine ⟨fun id I hl => ?_, fun id id' I I' p p' h1 h2 h3 h4 e => ?_⟩
  · obtain ⟨p, pm, h1, h2, h3, h4, h5, h6⟩ := h.atI id I hl
    have := s.frame p.blk (Array.getElem?_eq_some_iff.1 h4).1 h5
    exact ⟨p, pm, prefix_get s.pre h1, h2, prefix_get s.pre h3, this.2.trans h4, this.1, h6⟩
  · obtain ⟨q, _, k1, _⟩ := h.atI id I h1
    obtain ⟨q', _, k2, _⟩ := h.atI id' I' h2
    have e1 := prefix_get s.pre k1
    have e2 := prefix_get s.pre k2
    rw [h3] at e1; rw [h4] at e2
    cases e1; cases e2
    exact h.two id id' I I' p p' h1 h2 k1 k2 e

structure AtD (P : Program) (ι₀ : Io) (L₀ : HL) (w₀ : World) (ds : Nat) (τ : List AV) (L : HL) (its : Its) (a : Act) (w : World) : Prop where
  ex : ∃ ι, Stp ι₀ L₀ w₀ ι L w ∧ RelH (PCof P) ι L w ∧ VRels ι (fzOf ι L w) τ a.tmps.toList ∧ DfOK ds ι L w a.defers ∧ ItOK w₀.heap.size ι L w its

section
variable {P : Program} {ι : Io} {w : World}

/-- A place that no object has. -/
theorem RelH.dead {PC : Code → AC → Prop} {L : HL} (h : RelH PC ι L w) (p : Pl) :
    RelH PC (ι.add p) (L ++ [none]) w ∧ Stp ι L w (ι.add p) (L ++ [none]) w ∧ ∀ k, Owned (ι.add p) (L ++ [none]) k ↔ Owned ι L k := by
  have hlt : ∀ {i : Nat} {o : AObj}, (L ++ [none])[i]? = some (some o) → L[i]? = some (some o) ∧ i < L.length := by
    intro i o e
    by_cases hi : i < L.length
    · rw [List.getElem?_append_left hi] at e; exact ⟨e, hi⟩
    · have := (List.getElem?_eq_some_iff.1 e).1
      have : i = L.length := by simp at this; omega
      subst this
      simp at e
  have hget : ∀ {i : Nat} {q : Pl}, i < L.length → (ι.l ++ [p])[i]? = some q → ι.l[i]? = some q := by
    intro i q hi e
    rwa [List.getElem?_append_left (by rw [h.len]; exact hi)] at e
  have hown : ∀ k, Owned (ι.add p) (L ++ [none]) k ↔ Owned ι L k := by
    intro k
    constructor
    · rintro ⟨i, o, q, h1, h2, h3⟩
      obtain ⟨k1, k2⟩ := hlt h1
      exact ⟨i, o, q, k1, hget k2 h2, h3⟩
    · rintro ⟨i, o, q, h1, h2, h3⟩
      have hi := (List.getElem?_eq_some_iff.1 h1).1
      exact ⟨i, o, q, by rw [List.getElem?_append_left hi]; exact h1, by show (ι.l ++ [p])[i]? = _; rw [List.getElem?_append_left (by rw [h.len]; exact hi)]; exact h2, h3⟩
  have hst : Stp ι L w (ι.add p) (L ++ [none]) w := ⟨List.prefix_append _ _, rfl, rfl, rfl, Nat.le_refl _, fun k hk hn => ⟨fun ho => hn ((hown k).1 ho), rfl⟩, fun _ _ => Iff.rfl⟩
  refine ⟨⟨by simp [h.len], fun i o q h1 h2 => ?_, fun i j oi oj q r h1 h2 h3 h4 e => ?_, h.xlt, fun k hk ho => h.xno k hk ((hown k).1 ho)⟩, hst, hown⟩
  · obtain ⟨k1, k2⟩ := hlt h1
    exact (h.obj i o q k1 (hget k2 h2)).move hst.pre hst.fz rfl
  · obtain ⟨k1, k2⟩ := hlt h1
    obtain ⟨k3, k4⟩ := hlt h2
    exact h.inj i j oi oj q r k1 k3 (hget k2 h3) (hget k4 h4) e

theorem run_next_at {r bm clk : Nat} {seen : Array Nat} {es : Array MapEntry} (ty : TypeId) (hi : w.heap[r]? = some (.mapIter (some bm) clk seen clk)) (hb : w.heap[bm]? = some (.map es clk)) (hold : ∀ x ∈ es.toList, x.born < clk) :
    ((leftOf es seen).toList = [] ∧ (Instr.next (.pointer (some ⟨r, 0, none⟩)) false ty).run P w = .ok (.tuple #[.bool false]) w) ∨
    ∃ e ∈ (leftOf es seen).toList, ∃ w1 : World, w1.heap = w.heap ∧ w1.os = w.os ∧ w1.tape = w.tape ∧ w1.output = w.output ∧
      (Instr.next (.pointer (some ⟨r, 0, none⟩)) false ty).run P w = .ok (.tuple #[.bool true, e.key, e.val]) (setObjW w1 r (.mapIter (some bm) clk (seen.push e.born) clk)) := by
  simp only [Instr.next, getObj, Sem.run_bind, Sem.run, hi, hb, Result.andThen, next_test_false seen es clk clk hold (Nat.le_refl _), Bool.false_eq_true, if_false]
  unfold leftOf
  have hmem : ∀ x ∈ (Array.filter (fun e => !seen.contains e.born) es).toList, x.born < clk := fun x hx => hold x (by simp at hx ⊢; exact hx.1)
  generalize Array.filter (fun e => !seen.contains e.born) es = L at hmem ⊢
  have e1 : L.filter (fun x => decide (x.born < clk)) = L := Array.filter_eq_self.2 (fun x hx => by simpa using hmem x (by simpa using hx))
  have e2 : L.filter (fun x => decide (x.born ≥ clk)) = #[] := by
    rw [Array.filter_eq_empty_iff]
    intro x hx
    have := hmem x (by simpa using hx)
    simp
    omega
  simp only [e1, e2, Array.append_empty]
  by_cases h0 : L.size = 0
  · left
    have : L = #[] := Array.eq_empty_of_size_eq_zero h0
    subst this
    refine ⟨rfl, ?_⟩
    simp [choose, Sem.run, Question.forced]
  · right
    have hne : L.isEmpty = false := by simp [Array.isEmpty, h0]
    simp only [hne, Bool.false_eq_true, if_false, Array.empty_append, Array.size_map]
    have hch : ∃ (j : Nat) (w1 : World), j < L.size ∧ w1.heap = w.heap ∧ w1.os = w.os ∧ w1.tape = w.tape ∧ w1.output = w.output ∧ (choose (Question.mapNext L.size)).run P w = .ok j w1 := by
      by_cases hf : L.size ≤ 1
      · exact ⟨0, w, by omega, rfl, rfl, rfl, rfl, by simp [choose, Sem.run, Question.forced, hf]⟩
      · exact ⟨_, w.drew, Nat.mod_lt _ (by omega), rfl, rfl, rfl, rfl, by
          simp only [choose, Sem.run, Question.forced, decide_eq_true_eq, hf, if_false, Question.cut]
          rfl⟩
    obtain ⟨j, w1, hj, a1, a2, a3, a4, hrun⟩ := hch
    refine ⟨L[j], by simp, w1, a1, a2, a3, a4, ?_⟩
    have hset : ∀ (o' : Obj), (setObj r o').run P w1 = .ok () (setObjW w1 r o') := fun o' => by
      simp only [setObj, Sem.run, a1, hi]
      simp only [setObjW, a1]
    simp only [hrun, Array.getElem?_map, Array.getElem?_eq_getElem hj, Option.map_some, Sem.run_bind, hset, Result.andThen]
    rfl

theorem run_entry_at {r bm clk : Nat} {seen : Array Nat} {es : Array MapEntry} {e : MapEntry} (hi : w.heap[r]? = some (.mapIter (some bm) clk seen clk)) (hb : w.heap[bm]? = some (.map es clk)) (he : e ∈ es.toList) (hs : seen.back? = some e.born) (hn : (es.toList.map (·.born)).Nodup) :
    (Instr.entry (.pointer (some ⟨r, 0, none⟩))).run P w = .ok (.tuple #[e.key, e.val]) w := by
  have hf : es.find? (·.born == e.born) = some e := by rw [← Array.find?_toList]; exact find_born e es.toList hn he
  simp only [Instr.entry, getObj, Sem.run_bind, Sem.run, hi, hb, Result.andThen, hs, bne_self_eq_false, Bool.false_eq_true, if_false, hf]
  rfl

theorem MRel.mem {fz : Fz} : ∀ {xs : List (Value × AV × Nat)} {es : List MapEntry}, MRel ι fz xs es → ∀ e ∈ es, ∃ x ∈ xs, e.key = x.1 ∧ e.born = x.2.2 ∧ VRel ι fz x.2.1 e.val
  | [], es, h, e, he => by cases h; simp at he
  | x :: xs, es, h, e, he => by
    obtain ⟨e', r, rfl, h1, h2, h3, h4⟩ := h
    rcases List.mem_cons.1 he with rfl | he
    · exact ⟨x, by simp, h1, h2, h3⟩
    · obtain ⟨y, hy, k⟩ := h4.mem e he
      exact ⟨y, by simp [hy], k⟩
theorem MRel.mem' {fz : Fz} : ∀ {xs : List (Value × AV × Nat)} {es : List MapEntry}, MRel ι fz xs es → ∀ x ∈ xs, ∃ e ∈ es, e.key = x.1 ∧ e.born = x.2.2 ∧ VRel ι fz x.2.1 e.val
  | [], es, h, x, hx => by simp at hx
  | x :: xs, es, h, y, hy => by
    obtain ⟨e', r, rfl, h1, h2, h3, h4⟩ := h
    rcases List.mem_cons.1 hy with rfl | hy
    · exact ⟨e', by simp, h1, h2, h3⟩
    · obtain ⟨e, he, k⟩ := h4.mem' y hy
      exact ⟨e, by simp [he], k⟩
theorem MRel.left {fz : Fz} {seen : List Nat} : ∀ {xs : List (Value × AV × Nat)} {es : List MapEntry}, MRel ι fz xs es → MRel ι fz (leftL xs seen) (es.filter fun e => !seen.contains e.born)
  | [], es, h => by cases h; exact rfl
  | x :: xs, es, h => by
    obtain ⟨e', r, rfl, h1, h2, h3, h4⟩ := h
    have ih := h4.left (seen := seen)
    unfold leftL at ih ⊢
    rw [List.filter_cons, List.filter_cons, h2]
    split
    · exact ⟨e', _, rfl, h1, h2, h3, ih⟩
    · exact ih

/-- A block of the call's own that nobody owns and that holds no cells is written. -/
theorem stp_own {L L₀ : HL} {ι₀ : Io} {w₀ w1 : World} {r : Nat} {o ob : Obj} (hr : RelH (PCof P) ι L w) (s : Stp ι₀ L₀ w₀ ι L w) (hn : ¬ Owned ι L r) (hb : w.heap[r]? = some ob) (hc : ∀ c t f, ob ≠ .cells c t f) (hbase : w₀.heap.size ≤ r)
    (h1 : w1.heap = w.heap) (h2 : w1.os = w.os) (h3 : w1.tape = w.tape) (h4 : w1.output = w.output) :
    Stp ι₀ L₀ w₀ ι L (setObjW w1 r o) ∧ RelH (PCof P) ι L (setObjW w1 r o) ∧ FzLe (fzOf ι L w) (fzOf ι L (setObjW w1 r o)) := by
  obtain ⟨d1, d2⟩ := hr.draw h1 h2 h3 h4
  obtain ⟨r1, r2⟩ := d1.other (o := o) hn (by rw [h1]; exact hb) hc
  refine ⟨⟨s.pre, by simpa [setObjW] using h2.trans s.os, by simpa [setObjW] using h3.trans s.tape, by simpa [setObjW] using h4.trans s.output, by simpa [setObjW, h1] using s.size, fun k hk ho => ?_, s.xs⟩, r1, d2.fz.trans r2⟩
  have := s.frame k hk ho
  refine ⟨this.1, ?_⟩
  rw [setObjW_other (by omega), h1]
  exact this.2

theorem it_op {ops : Array Oper} {Q : Exit → Act → World → Prop} {i : Nat} {o : Oper} {d : Nat} {K : Act → World → Prop} {a : Act} {cv : Value} {w' : World} (ho : ops[i]? = some o) (hg : o.guard = none) (hd : o.dst = some d) (hnd : ∀ c, o.op ≠ .defer c)
    (hrun : (execOp a.eval o).run P w = .ok (.value cv) w') (hK : K (a.put (some d) cv) w') : wpOpIn (Fr none) 0 P ops Q i K a w := by
  unfold wpOpIn
  simp only [ho]
  have hw : Region.wanted o (yielded ops a.tmps) = true := by simp [Region.wanted, hg]
  rw [if_pos hw]
  refine ⟨fun _ _ => trivial, ?_⟩
  rw [Oper.semAt_eq _ _ _ hnd, hrun, Oper.uponIn_value, hd]
  exact hK

theorem pDOp_spec {ops : Array Oper} {o : Oper} {l : DOp} (h : pDOp P ops o = some l) :
    (∃ ao, l = .op ao ∧ pOperE P ops o = some ao) ∨
    (∃ d y t x k e, l = .range d y ∧ o.op = .range t x ∧ o.dst = some d ∧ o.guard = none ∧ P.underlying t = some (.map k e) ∧ pOpd x = some y) ∨
    (∃ d y x, l = .next d y ∧ o.op = .next x false ∧ o.dst = some d ∧ o.guard = none ∧ pOpd x = some y) ∨
    (∃ d y x, l = .entry d y ∧ o.op = .entry x ∧ o.dst = some d ∧ o.guard = none ∧ pOpd x = some y) := by
  unfold pDOp at h
  split at h
  · rename_i t x d h1 h2 h3
    split at h
    · rename_i k e y h4 h5
      simp only [Option.some.injEq] at h; subst h
      exact .inr (.inl ⟨d, y, t, x, k, e, rfl, h1, h2, h3, h4, h5⟩)
    · simp at h
  · rename_i x d h1 h2 h3
    obtain ⟨y, hy, rfl⟩ := Option.map_eq_some_iff.1 h
    exact .inr (.inr (.inl ⟨d, y, x, rfl, h1, h2, h3, hy⟩))
  · rename_i x d h1 h2 h3
    obtain ⟨y, hy, rfl⟩ := Option.map_eq_some_iff.1 h
    exact .inr (.inr (.inr ⟨d, y, x, rfl, h1, h2, h3, hy⟩))
  · obtain ⟨y, hy, rfl⟩ := Option.map_eq_some_iff.1 h
    exact .inl ⟨y, rfl, hy⟩

theorem MRel_nil_right {fz : Fz} : ∀ {xs : List (Value × AV × Nat)}, MRel ι fz xs [] → xs = []
  | [], _ => rfl
  | x :: xs, h => by obtain ⟨e, r, k, _⟩ := h; cases k

theorem lookup_cons_self {id : Nat} {I : Itr} {its : Its} : List.lookup id ((id, I) :: its) = some I := by simp [List.lookup]
theorem lookup_cons_ne {id id' : Nat} {I : Itr} {its : Its} (h : id' ≠ id) : List.lookup id' ((id, I) :: its) = List.lookup id' its := by
  have : (id' == id) = false := by simpa using h
  simp [List.lookup, this]

theorem dops_sound {Γ : Sums} {A : Tab} (hE : ∀ n, EOK P (env Γ A n)) {ops : Array Oper} {Q : Exit → Act → World → Prop} : ∀ (is : List Nat) (ls : List DOp) {ι₀ : Io} {L₀ : HL} {w₀ : World} {ds : Nat} {τ : List AV} {H : Hp} {its : Its} {a : Act} {w : World} {K : List AV → Hp → Its → Prop},
    (∀ k : Nat, ((is[k]?).bind fun i => (ops[i]?).bind (pDOp P ops)) = ls[k]?) → is.length = ls.length → AtD P ι₀ L₀ w₀ ds τ H.l its a w → wpDO (lim Γ A) ls τ H its K →
    (∀ τ' H' its' a' w', AtD P ι₀ L₀ w₀ ds τ' H'.l its' a' w' → K τ' H' its' → Q .normal a' w') → wpOpsIn (Fr none) 0 P ops Q is a w
  | [], ls, ι₀, L₀, w₀, ds, τ, H, its, a, w, K, hm, hl, hat, h, hQ => by
    have : ls = [] := by cases ls with | nil => rfl | cons => simp at hl
    subst this
    simpa [wpOpsIn] using hQ τ H its a w hat h
  | i :: is, ls, ι₀, L₀, w₀, ds, τ, H, its, a, w, K, hm, hl, hat, h, hQ => by
    cases ls with
    | nil => simp at hl
    | cons l ls =>
    have hm0 := hm 0
    simp only [List.getElem?_cons_zero, Option.bind_some] at hm0
    obtain ⟨o, ho, hp⟩ := Option.bind_eq_some_iff.1 hm0
    have hm' : ∀ k : Nat, ((is[k]?).bind fun i => (ops[i]?).bind (pDOp P ops)) = ls[k]? := fun k => by simpa using hm (k + 1)
    have hl' : is.length = ls.length := by simpa using hl
    obtain ⟨ι, q1, q2, q3, q4, q5⟩ := hat.ex
    rw [wpOpsIn_cons]
    rcases pDOp_spec hp with ⟨ao, rfl, hp2⟩ | ⟨d, y, t, x, k, e, rfl, h1, h2, h3, h4, h5⟩ | ⟨d, y, x, rfl, h1, h2, h3, h5⟩ | ⟨d, y, x, rfl, h1, h2, h3, h5⟩
    · obtain ⟨v, h', hact, hk⟩ := h
      obtain ⟨n, hact⟩ := actO_cont hact
      exact actO_sound (hE n) ho hp2 q2 q3 hact fun ι' a' w' s r v df => dops_sound hE is ls hm' hl' ⟨ι', q1.trans s, r, v, by rw [df]; exact q4.step s, q5.step s⟩ hk hQ
    · obtain ⟨id, es, clk, e1, e2, hk⟩ := h
      have hv := aeval_rel q3 h5
      rw [e1] at hv
      simp only [VRel] at hv
      obtain ⟨p, hp1, hv⟩ := hv
      obtain ⟨ces, hb, hmr, hst⟩ := q2.obj _ _ _ (hget_some e2) hp1
      obtain ⟨b1, b2, b3⟩ := q2.bare (.mapIter (some p.blk) clk #[] clk)
      obtain ⟨c1, c2, c3⟩ := b1.dead ⟨w.heap.size, 0, 0, 0⟩
      have hs := b2.trans c2
      have hrun : (execOp a.eval o).run P w = .ok (.value (.pointer (some ⟨w.heap.size, 0, none⟩))) (w.alloc (.mapIter (some p.blk) clk #[] clk)) := by
        simp only [execOp, h1, Sem.run_bind, hv, run_range_map w t k e p.blk ces clk h4 hb, Result.andThen_ok, Sem.run_pure]
      refine it_op ho h3 h2 (by simp [h1]) hrun (dops_sound hE is ls hm' hl' (K := K) ⟨ι.add ⟨w.heap.size, 0, 0, 0⟩, q1.trans hs, c1, ?_, ?_, ?_⟩ hk hQ)
      · refine VRels.put (hs.vs q3) ?_
        simp only [VRel]
        exact ⟨⟨w.heap.size, 0, 0, 0⟩, by rw [← q2.len]; simp, rfl⟩
      · rw [put_defers]; exact q4.step hs
      · have q5' := q5.step hs
        have hnew : (ι.add ⟨w.heap.size, 0, 0, 0⟩).l[H.l.length]? = some ⟨w.heap.size, 0, 0, 0⟩ := by rw [← q2.len]; simp
        have hbig : ∀ id' I' p', its.lookup id' = some I' → (ι.add ⟨w.heap.size, 0, 0, 0⟩).l[id']? = some p' → p'.blk < w.heap.size := by
          intro id' I' p' k1 k2
          obtain ⟨p'', _, k3, _, _, k4, _⟩ := q5.atI id' I' k1
          have := prefix_get hs.pre k3
          rw [k2] at this; cases this
          exact (Array.getElem?_eq_some_iff.1 k4).1
        refine ⟨fun id' I' hl2 => ?_, fun id1 id2 I1 I2 p1 p2 k1 k2 k3 k4 e => ?_⟩
        · by_cases hid : id' = H.l.length
          · subst hid
            rw [lookup_cons_self] at hl2
            cases hl2
            exact ⟨_, p, hnew, rfl, prefix_get hs.pre hp1, alloc_heap_new _ _, fun ho2 => b3 ((c3 _).1 ho2), q1.size⟩
          · rw [lookup_cons_ne hid] at hl2
            exact q5'.atI id' I' hl2
        · by_cases hid1 : id1 = H.l.length <;> by_cases hid2 : id2 = H.l.length
          · rw [hid1, hid2]
          · subst hid1
            rw [lookup_cons_ne hid2] at k2
            rw [hnew] at k3; cases k3
            have := hbig _ _ _ k2 k4
            simp only at e; omega
          · subst hid2
            rw [lookup_cons_ne hid1] at k1
            rw [hnew] at k4; cases k4
            have := hbig _ _ _ k1 k3
            simp only at e; omega
          · rw [lookup_cons_ne hid1] at k1
            rw [lookup_cons_ne hid2] at k2
            exact q5'.two _ _ _ _ _ _ k1 k2 k3 k4 e
    · obtain ⟨id, I, es, e1, e2, e3, hk1, hk2⟩ := h
      have hv := aeval_rel q3 h5
      rw [e1] at hv
      simp only [VRel] at hv
      obtain ⟨p, hp1, hv⟩ := hv
      obtain ⟨p', pm, g1, g2, g3, g4, g5, g6⟩ := q5.atI id I e2
      rw [hp1] at g1; cases g1
      obtain ⟨ces, hb, hmr, hst⟩ := q2.obj _ _ _ (hget_some e3) g3
      have hst' := (MapKept.stamped_iff _ _).1 hst
      rw [g2] at hv
      have hleft : MRel ι (fzOf ι H.l w) (leftL es I.seen) (leftOf ces I.seen.toArray).toList := by
        have := hmr.left (seen := I.seen)
        unfold leftOf
        simpa using this
      rcases run_next_at (P := P) o.type g4 hb hst'.1 with ⟨r1, r2⟩ | ⟨c, r1, w1, a1, a2, a3, a4, r2⟩
      · rw [r1] at hleft
        have hrun : (execOp a.eval o).run P w = .ok (.value (.tuple #[.bool false])) w := by
          simp only [execOp, h1, Sem.run_bind, hv, Nat.add_zero, r2, Result.andThen_ok, Sem.run_pure]
        refine it_op ho h3 h2 (by simp [h1]) hrun (dops_sound hE is ls hm' hl' (K := K) ⟨ι, q1, q2, ?_, by rw [put_defers]; exact q4, q5⟩ (hk1 (MRel_nil_right hleft)) hQ)
        refine VRels.put q3 ?_
        simp only [VRel]
        exact ⟨_, rfl, by simp [VRel]⟩
      · obtain ⟨xe, hx, x1, x2, x3⟩ := hleft.mem c r1
        obtain ⟨s1, s2, s3⟩ := stp_own (o := .mapIter (some pm.blk) I.clk (I.seen.toArray.push c.born) I.clk) q2 q1 g5 g4 (fun _ _ _ k => by cases k) g6 a1 a2 a3 a4
        have hrun : (execOp a.eval o).run P w = .ok (.value (.tuple #[.bool true, c.key, c.val])) (setObjW w1 p.blk (.mapIter (some pm.blk) I.clk (I.seen.toArray.push c.born) I.clk)) := by
          simp only [execOp, h1, Sem.run_bind, hv, Nat.add_zero, r2, Result.andThen_ok, Sem.run_pure]
        have hlt := (Array.getElem?_eq_some_iff.1 g4).1
        have hoth : ∀ k, k ≠ p.blk → (setObjW w1 p.blk (.mapIter (some pm.blk) I.clk (I.seen.toArray.push c.born) I.clk)).heap[k]? = w.heap[k]? := fun k hk => by rw [setObjW_other hk, a1]
        have hsame : (setObjW w1 p.blk (.mapIter (some pm.blk) I.clk (I.seen.toArray.push c.born) I.clk)).heap[p.blk]? = some (.mapIter (some pm.blk) I.clk (I.seen.toArray.push c.born) I.clk) := setObjW_same (by rw [a1]; exact hlt)
        refine it_op ho h3 h2 (by simp [h1]) hrun (dops_sound hE is ls hm' hl' (K := K) ⟨ι, s1, s2, ?_, ?_, ?_⟩ (hk2 xe hx) hQ)
        · refine VRels.put (VRels.mono (List.prefix_refl _) s3 _ _ q3) ?_
          simp only [VRel]
          refine ⟨_, rfl, ?_⟩
          simp only [VRels_cons, VRels_nil, VRel, and_true, true_and]
          exact ⟨x1, VRel.mono (List.prefix_refl _) s3 _ _ x3⟩
        · rw [put_defers]
          obtain ⟨Ds, k1, k2, k3⟩ := q4
          refine ⟨Ds, k1, k2, fun D hD => ?_⟩
          obtain ⟨j1, j2, j3⟩ := k3 D hD
          refine ⟨j1, ?_, j3⟩
          rw [hoth D (by rintro rfl; rw [g4] at j2; cases j2)]
          exact j2
        · refine ⟨fun id' I' hl2 => ?_, fun id1 id2 I1 I2 p1 p2 k1 k2 k3 k4 e => ?_⟩
          · by_cases hid : id' = id
            · subst hid
              rw [lookup_cons_self] at hl2
              cases hl2
              refine ⟨p, pm, hp1, g2, g3, ?_, g5, g6⟩
              rw [hsame, ← x2]
              simp
            · rw [lookup_cons_ne hid] at hl2
              obtain ⟨p', pm', f1, f2, f3, f4, f5, f6⟩ := q5.atI id' I' hl2
              refine ⟨p', pm', f1, f2, f3, ?_, f5, f6⟩
              rw [hoth p'.blk (fun e => hid (q5.two _ _ _ _ _ _ hl2 e2 f1 hp1 e))]
              exact f4
          · have hL : ∀ id', ∀ I', List.lookup id' ((id, { I with seen := I.seen ++ [xe.2.2], last := some xe }) :: its) = some I' → ∃ I'', its.lookup id' = some I'' := by
              intro id' I' hl2
              by_cases hid : id' = id
              · subst hid; exact ⟨I, e2⟩
              · rw [lookup_cons_ne hid] at hl2; exact ⟨I', hl2⟩
            obtain ⟨_, m1⟩ := hL _ _ k1
            obtain ⟨_, m2⟩ := hL _ _ k2
            exact q5.two _ _ _ _ _ _ m1 m2 k3 k4 e
    · obtain ⟨id, I, es, en, e1, e2, e3, _, e4, e5, hk⟩ := h
      have hv := aeval_rel q3 h5
      rw [e1] at hv
      simp only [VRel] at hv
      obtain ⟨p, hp1, hv⟩ := hv
      obtain ⟨p', pm, g1, g2, g3, g4, g5, g6⟩ := q5.atI id I e2
      rw [hp1] at g1; cases g1
      obtain ⟨ces, hb, hmr, hst⟩ := q2.obj _ _ _ (hget_some e3) g3
      have hst' := (MapKept.stamped_iff _ _).1 hst
      rw [g2] at hv
      obtain ⟨c, hc, x1, x2, x3⟩ := hmr.mem' en e4
      have hrun : (execOp a.eval o).run P w = .ok (.value (.tuple #[c.key, c.val])) w := by
        simp only [execOp, h1, Sem.run_bind, hv, Nat.add_zero, run_entry_at (P := P) g4 hb hc (by rw [x2]; simpa using e5) hst'.2.1, Result.andThen_ok, Sem.run_pure]
      refine it_op ho h3 h2 (by simp [h1]) hrun (dops_sound hE is ls hm' hl' (K := K) ⟨ι, q1, q2, ?_, by rw [put_defers]; exact q4, q5⟩ hk hQ)
      refine VRels.put q3 ?_
      simp only [VRel]
      refine ⟨_, rfl, ?_⟩
      simp only [VRels_cons, VRels_nil, VRel, and_true]
      exact ⟨x1, x3⟩
end
end Go.Proofs.Eng
/- The engine, part AR: code run for whatever is drawn, soundly; functions of such code; laws. -/
set_option linter.unusedVariables false
set_option linter.unusedSimpArgs false
namespace Go.Proofs.Eng
open Go Go.RowKit

section
variable {P : Program} {ι : Io} {w : World}

theorem region_any {E : Env} {ro : Option Nat} {id : Nat} {ops : Array Oper} {ac : AC} {Q : Exit → Act → World → Prop} {ι₀ : Io} {L₀ : HL} {w₀ : World} {ds : Nat} {τ τ' : List AV} {H H' : Hp} {a : Act} {x : AX} (hE : EOK P E) (hp : pRegion P id ops true = some ac)
    (hat : At P ι₀ L₀ w₀ ds τ H.l a w) (h : execC E none ac τ H = some (x, τ', H')) (hQ : ∀ a' w', At P ι₀ L₀ w₀ ds τ' H'.l a' w' → Q .normal a' w') (md : Region.Mode) :
    wpAnyIn (Fr ro) 0 P md ops Q ops.size (Array.replicate ops.size false) a { w with drawn := w.drawn + 1 } := by
  simp only [pRegion, Option.bind_eq_bind, Option.pure_def] at hp
  obtain ⟨l, hl, hp⟩ := Option.bind_eq_some_iff.1 hp
  have hlen : l.length = ops.size := by rw [mapM_length hl]; simp
  simp only [if_true] at hp
  split at hp
  · rename_i hc
    simp only [Bool.and_eq_true] at hc
    obtain ⟨⟨c1, c2⟩, c3⟩ := hc
    simp only [Option.some.injEq] at hp
    subst hp
    generalize planOf ops.toList l = pl at *
    obtain ⟨q, π, als⟩ := pl
    simp only at c1 c2 h
    generalize hdf : difOf (maskTab ops.toList []) l = df at *
    simp only [execC] at h
    split at h
    · rename_i hdo
      obtain ⟨pr, h9, h2⟩ := Option.map_eq_some_iff.1 h
      simp only [Prod.mk.injEq] at h2
      obtain ⟨rfl, rfl, rfl⟩ := h2
      have hq : q.length = l.length := by simpa using c2
      have hlq : (l.zip q).length = ops.size := by simp [hq, hlen]
      have hpl := plan_of hlq c1
      have hzip : ∀ π : List Nat, (π.filterMap (l[·]?)).zip (π.filterMap (q[·]?)) = π.filterMap ((l.zip q)[·]?) := by
        intro π
        induction π with
        | nil => rfl
        | cons k π ih =>
          by_cases hk : k < l.length
          · have hk2 : k < q.length := by omega
            have e1 : l[k]? = some l[k] := List.getElem?_eq_getElem hk
            have e2 : q[k]? = some q[k] := List.getElem?_eq_getElem hk2
            have e3 : (l.zip q)[k]? = some (l[k], q[k]) := by rw [List.getElem?_zip_eq_some]; exact ⟨e1, e2⟩
            rw [List.filterMap_cons, List.filterMap_cons, List.filterMap_cons, e1, e2, e3]
            simp only [List.zip_cons_cons, ih]
          · have e1 : l[k]? = none := List.getElem?_eq_none (by omega)
            have e2 : q[k]? = none := List.getElem?_eq_none (by omega)
            have e3 : (l.zip q)[k]? = none := List.getElem?_eq_none (by simp; omega)
            rw [List.filterMap_cons, List.filterMap_cons, List.filterMap_cons, e1, e2, e3]
            exact ih
      obtain ⟨ι, q1, q2, q3, q4⟩ := hat.ex
      obtain ⟨d1, d2⟩ := q2.draw (w' := { w with drawn := w.drawn + 1 }) rfl rfl rfl rfl
      have hlenπ : π.length = ops.size := by
        have h1 : π.length ≤ (List.range ops.size).length := List.Nodup.length_le_of_subset hpl.nod (fun i hi => by simpa using (hpl.cov i).1 hi)
        have h2 : (List.range ops.size).length ≤ π.length := List.Nodup.length_le_of_subset List.nodup_range (fun i hi => (hpl.cov i).2 (by simpa using hi))
        simp at h1 h2; omega
      refine any_sound (md := md) hE hpl ?_ c3 hQ ops.size π π [] [] _ τ H a _ hlenπ hpl.nod ?_ (List.Sublist.refl _) (by simp) (by simp) (by simp) ?_ hdo ⟨⟨ι, τ, q1.trans d2, d1, d2.vs q3, q4.step d2, rfl, fun _ _ => rfl, by simp, by simp⟩⟩ ?_
      · intro i o x ho hx
        have := mapM_get hl i
        rw [show ops.toList[i]? = some o by simpa using ho, Option.bind_some] at this
        rw [this]
        rw [List.getElem?_zip_eq_some] at hx
        exact hx.1
      · intro i
        rw [hpl.cov]
        simp only [Array.getD_eq_getD_getElem?]
        constructor
        · intro hi; exact ⟨hi, by simp [hi]⟩
        · exact fun hi => hi.1
      · intro i o ho hi e he hb
        have hi' := (Array.getElem?_eq_some_iff.1 ho).1
        simp [Array.getD_eq_getD_getElem?, hi'] at hi
      · rw [← hzip]; exact h9
    · simp at h
  · simp only [Option.some.injEq] at hp
    subst hp
    simp only [execC, execOps, bad_none] at h
    simp at h

variable {Γ : Sums} {A : Tab}

/-- From a run that is known to a run for whatever is drawn. -/
theorem AtD.start {ι₀ : Io} {L₀ : HL} {w₀ : World} {ds : Nat} {τ : List AV} {L : HL} {its : Its} {a : Act} (h : AtD P ι₀ L₀ w₀ ds τ L its a w) (hds : ds ≤ w₀.heap.size) :
    ∃ ι, At P ι L w ds τ L a w ∧ ds ≤ w.heap.size ∧ ∀ {τ' : List AV} {L' : HL} {a' : Act} {w' : World}, At P ι L w ds τ' L' a' w' → AtD P ι₀ L₀ w₀ ds τ' L' its a' w' := by
  obtain ⟨ι, q1, q2, q3, q4, q5⟩ := h.ex
  refine ⟨ι, ⟨ι, Stp.refl _ _ _, q2, q3, q4⟩, Nat.le_trans hds q1.size, fun hat => ?_⟩
  obtain ⟨ι', s1, s2, s3, s4⟩ := hat.ex
  exact ⟨ι', q1.trans s1, s2, s3, s4, q5.step s1⟩

theorem base_sound (hΓ : GOK P Γ) (hT : TOK P A) {ι₀ : Io} {L₀ : HL} {w₀ : World} {ds : Nat} (hds : ds ≤ w₀.heap.size) {c : Code} {ac : AC} {Q : Exit → Act → World → Prop} {τ τ' : List AV} {H H' : Hp} {its : Its} {a : Act} {x : AX} (hp : pCode P c = some ac)
    (hat : AtD P ι₀ L₀ w₀ ds τ H.l its a w) (h : execC (lim Γ A) none ac τ H = some (x, τ', H')) (hQ : ∀ a' w', AtD P ι₀ L₀ w₀ ds τ' H'.l its a' w' → Q x.ex a' w') : c.wpIn (Fr none) 0 P Q a w := by
  obtain ⟨n, h⟩ := execC_cont ac h
  obtain ⟨ι, h1, h2, h3⟩ := hat.start hds
  exact execC_sound (rd := none) (ro := none) (env_sound hΓ hT n) rfl h2 c hp h1 h fun a' w' hat' => hQ a' w' (h3 hat')

theorem wpDC_sound (hΓ : GOK P Γ) (hT : TOK P A) {hint : Nat → Option AltT} {ι₀ : Io} {L₀ : HL} {w₀ : World} {ds : Nat} (hds : ds ≤ w₀.heap.size) :
    ∀ (c : Code) {dc : DC} {Q : Exit → Act → World → Prop} {τ : List AV} {H : Hp} {its : Its} {a : Act} {w : World} {K : DPost}, pD P hint c = some dc → AtD P ι₀ L₀ w₀ ds τ H.l its a w → wpDC (lim Γ A) dc τ H its K →
    (∀ x τ' H' its' a' w', AtD P ι₀ L₀ w₀ ds τ' H'.l its' a' w' → K x τ' H' its' → Q x.ex a' w') → c.wpIn (Fr none) 0 P Q a w
  | .region id ops draw, dc, Q, τ, H, its, a, w, K, hp, hat, h, hQ => by
    simp only [pD] at hp
    split at hp
    · rename_i hdr
      subst hdr
      split at hp
      · rename_i T hT'
        split at hp
        · rename_i hc
          simp only [Bool.and_eq_true] at hc
          obtain ⟨l, hl, rfl⟩ := Option.map_eq_some_iff.1 hp
          refine region_alts T hc.1 hc.2 fun ops' hm md => ?_
          obtain ⟨k, hk⟩ := List.getElem?_of_mem hm
          have hg := mapM_get hl k
          rw [hk, Option.bind_some] at hg
          have hmem : ∃ ac, l[k]? = some ac := by
            have h1 := mapM_length hl
            have h2 := (List.getElem?_eq_some_iff.1 hk).1
            exact ⟨l[k]'(by omega), List.getElem?_eq_getElem (by omega)⟩
          obtain ⟨ac, hac⟩ := hmem
          rw [hac] at hg
          obtain ⟨τ', H', he, hK⟩ := h.2 ac (List.mem_of_getElem? hac)
          obtain ⟨n, he⟩ := execC_cont ac he
          obtain ⟨ι, h1, h2, h3⟩ := hat.start hds
          exact region_any (ro := none) (env_sound hΓ hT n).toEOK hg h1 he (fun a' w' hat' => hQ .nrm τ' H' its a' w' (h3 hat') hK) md
        · simp at hp
      · obtain ⟨ac, hac, rfl⟩ := Option.map_eq_some_iff.1 hp
        obtain ⟨x, τ', H', he, hK⟩ := h
        exact base_sound hΓ hT hds (c := .region id ops true) (by simp only [pCode]; exact hac) hat he fun a' w' hat' => hQ _ _ _ _ _ _ hat' hK
    · rename_i hdr
      have hdr : draw = false := by simpa using hdr
      subst hdr
      split at hp
      · obtain ⟨l, hl, rfl⟩ := Option.map_eq_some_iff.1 hp
        refine wpIn_region (dops_sound (fun n => (env_sound hΓ hT n).toEOK) _ l (K := K .nrm) (fun k => ?_) (by rw [mapM_length hl]; simp) hat h (fun τ' H' its' a' w' hat' hk => hQ .nrm _ _ _ _ _ hat' hk))
        have := mapM_get hl k
        by_cases hk : k < ops.size
        · rw [List.getElem?_range hk]
          simpa using this
        · have hlen := mapM_length hl
          simp only [Array.length_toList] at hlen
          rw [List.getElem?_eq_none (by simp; omega), List.getElem?_eq_none (by omega)]; rfl
      · obtain ⟨ac, hac, rfl⟩ := Option.map_eq_some_iff.1 hp
        obtain ⟨x, τ', H', he, hK⟩ := h
        exact base_sound hΓ hT hds (c := .region id ops false) (by simp only [pCode]; exact hac) hat he fun a' w' hat' => hQ _ _ _ _ _ _ hat' hK
  | .seq c d, dc, Q, τ, H, its, a, w, K, hp, hat, h, hQ => by
    simp only [pD] at hp
    split at hp
    · simp only [Option.bind_eq_bind, Option.pure_def] at hp
      obtain ⟨ac1, h1, hp⟩ := Option.bind_eq_some_iff.1 hp
      obtain ⟨ac2, h2, hp⟩ := Option.bind_eq_some_iff.1 hp
      simp only [Option.some.injEq] at hp; subst hp
      refine wpIn_seq ?_
      refine wpDC_sound hΓ hT hds c h1 hat h fun x τ' H' its' a' w' hat' hk => ?_
      cases x with
      | nrm => exact wpDC_sound hΓ hT hds d h2 hat' hk hQ
      | ret => exact hQ _ _ _ _ _ _ hat' hk
      | exit i => exact hQ _ _ _ _ _ _ hat' hk
    · obtain ⟨ac, hac, rfl⟩ := Option.map_eq_some_iff.1 hp
      obtain ⟨x, τ', H', he, hK⟩ := h
      exact base_sound hΓ hT hds hac hat he fun a' w' hat' => hQ _ _ _ _ _ _ hat' hK
  | .cond g c d, dc, Q, τ, H, its, a, w, K, hp, hat, h, hQ => by
    simp only [pD] at hp
    split at hp
    · simp only [Option.bind_eq_bind, Option.pure_def] at hp
      obtain ⟨ac1, h1, hp⟩ := Option.bind_eq_some_iff.1 hp
      obtain ⟨ac2, h2, hp⟩ := Option.bind_eq_some_iff.1 hp
      simp only [Option.some.injEq] at hp; subst hp
      obtain ⟨t, ht, k1, k2⟩ := h
      obtain ⟨ι, q1, q2, q3, q4, q5⟩ := hat.ex
      cases hy : pOpd g with
      | none => rw [hy] at ht; simp [aeval] at ht
      | some y =>
      rw [hy] at ht
      simp only [Option.getD_some] at ht
      have hv := aeval_rel q3 hy
      rw [ht] at hv
      simp only [VRel] at hv
      cases t with
      | true => exact wpIn_cond_true hv (wpDC_sound hΓ hT hds c h1 hat (k1 rfl) hQ)
      | false => exact wpIn_cond_false hv (wpDC_sound hΓ hT hds d h2 hat (k2 rfl) hQ)
    · obtain ⟨ac, hac, rfl⟩ := Option.map_eq_some_iff.1 hp
      obtain ⟨x, τ', H', he, hK⟩ := h
      exact base_sound hΓ hT hds hac hat he fun a' w' hat' => hQ _ _ _ _ _ _ hat' hK
  | .block id c, dc, Q, τ, H, its, a, w, K, hp, hat, h, hQ => by
    simp only [pD] at hp
    split at hp
    · obtain ⟨b, hb, rfl⟩ := Option.map_eq_some_iff.1 hp
      refine wpIn_block ?_
      refine wpDC_sound hΓ hT hds c hb hat h fun x τ' H' its' a' w' hat' hk => ?_
      cases x with
      | nrm => exact hQ _ _ _ _ _ _ hat' hk
      | ret => exact hQ _ _ _ _ _ _ hat' hk
      | exit i =>
        simp only [] at hk
        by_cases hi : i = id
        · rw [if_pos hi] at hk
          simp only [AX.ex, Exit.inBlock, hi, if_true]
          exact hQ _ _ _ _ _ _ hat' hk
        · rw [if_neg hi] at hk
          simp only [AX.ex, Exit.inBlock, hi, if_false]
          exact hQ _ _ _ _ _ _ hat' hk
    · obtain ⟨ac, hac, rfl⟩ := Option.map_eq_some_iff.1 hp
      obtain ⟨x, τ', H', he, hK⟩ := h
      exact base_sound hΓ hT hds hac hat he fun a' w' hat' => hQ _ _ _ _ _ _ hat' hK
  | .loop c, dc, Q, τ, H, its, a, w, K, hp, hat, h, hQ => by
    simp only [pD] at hp
    split at hp
    · obtain ⟨b, hb, rfl⟩ := Option.map_eq_some_iff.1 hp
      obtain ⟨k, h⟩ := h
      refine wpIn_loop_rounds k ?_
      have key : ∀ k {τ : List AV} {H : Hp} {its : Its} {a : Act} {w : World}, AtD P ι₀ L₀ w₀ ds τ H.l its a w → iterD (fun τ H its K => wpDC (lim Γ A) b τ H its K) K k τ H its → Code.roundsIn (Fr none) 0 P c Q k a w := by
        intro k
        induction k with
        | zero => intro τ H its a w _ h; exact h.elim
        | succ k ih =>
          intro τ H its a w hat h
          rw [roundsIn_succ]
          refine wpDC_sound hΓ hT hds c hb hat h fun x τ' H' its' a' w' hat' hk => ?_
          cases x with
          | nrm => exact ih hat' hk
          | ret => exact hQ _ _ _ _ _ _ hat' hk
          | exit i => exact hQ _ _ _ _ _ _ hat' hk
      exact key k hat h
    · obtain ⟨ac, hac, rfl⟩ := Option.map_eq_some_iff.1 hp
      obtain ⟨x, τ', H', he, hK⟩ := h
      exact base_sound hΓ hT hds hac hat he fun a' w' hat' => hQ _ _ _ _ _ _ hat' hK
  | .skip, dc, Q, τ, H, its, a, w, K, hp, hat, h, hQ => by
    simp only [pD] at hp
    obtain ⟨ac, hac, rfl⟩ := Option.map_eq_some_iff.1 hp
    obtain ⟨x, τ', H', he, hK⟩ := h
    exact base_sound hΓ hT hds hac hat he fun a' w' hat' => hQ _ _ _ _ _ _ hat' hK
  | .rangeFunc g ps ca cb, dc, Q, τ, H, its, a, w, K, hp, hat, h, hQ => by
    simp only [pD] at hp
    obtain ⟨ac, hac, rfl⟩ := Option.map_eq_some_iff.1 hp
    obtain ⟨x, τ', H', he, hK⟩ := h
    exact base_sound hΓ hT hds hac hat he fun a' w' hat' => hQ _ _ _ _ _ _ hat' hK
  | .exit id, dc, Q, τ, H, its, a, w, K, hp, hat, h, hQ => by
    simp only [pD] at hp
    obtain ⟨ac, hac, rfl⟩ := Option.map_eq_some_iff.1 hp
    obtain ⟨x, τ', H', he, hK⟩ := h
    exact base_sound hΓ hT hds hac hat he fun a' w' hat' => hQ _ _ _ _ _ _ hat' hK
  | .scope c, dc, Q, τ, H, its, a, w, K, hp, hat, h, hQ => by
    simp only [pD] at hp
    obtain ⟨ac, hac, rfl⟩ := Option.map_eq_some_iff.1 hp
    obtain ⟨x, τ', H', he, hK⟩ := h
    exact base_sound hΓ hT hds hac hat he fun a' w' hat' => hQ _ _ _ _ _ _ hat' hK
  | .label l, dc, Q, τ, H, its, a, w, K, hp, hat, h, hQ => by
    simp only [pD] at hp
    obtain ⟨ac, hac, rfl⟩ := Option.map_eq_some_iff.1 hp
    obtain ⟨x, τ', H', he, hK⟩ := h
    exact base_sound hΓ hT hds hac hat he fun a' w' hat' => hQ _ _ _ _ _ _ hat' hK
  | .goto l, dc, Q, τ, H, its, a, w, K, hp, hat, h, hQ => by
    simp only [pD] at hp
    obtain ⟨ac, hac, rfl⟩ := Option.map_eq_some_iff.1 hp
    obtain ⟨x, τ', H', he, hK⟩ := h
    exact base_sound hΓ hT hds hac hat he fun a' w' hat' => hQ _ _ _ _ _ _ hat' hK
  | .ret, dc, Q, τ, H, its, a, w, K, hp, hat, h, hQ => by
    simp only [pD] at hp
    obtain ⟨ac, hac, rfl⟩ := Option.map_eq_some_iff.1 hp
    obtain ⟨x, τ', H', he, hK⟩ := h
    exact base_sound hΓ hT hds hac hat he fun a' w' hat' => hQ _ _ _ _ _ _ hat' hK
  | .refuse s, dc, Q, τ, H, its, a, w, K, hp, hat, h, hQ => by
    simp only [pD] at hp
    obtain ⟨ac, hac, rfl⟩ := Option.map_eq_some_iff.1 hp
    obtain ⟨x, τ', H', he, hK⟩ := h
    exact base_sound hΓ hT hds hac hat he fun a' w' hat' => hQ _ _ _ _ _ _ hat' hK
end
end Go.Proofs.Eng
/- The engine, part AS: functions run for whatever is drawn; their summaries; laws. -/
set_option linter.unusedVariables false
set_option linter.unusedSimpArgs false
namespace Go.Proofs.Eng
open Go Go.RowKit

section
variable {E : Env}

theorem wpDO_mono : ∀ {l : List DOp} {τ : List AV} {H : Hp} {its : Its} {K K' : List AV → Hp → Its → Prop}, (∀ τ H its, K τ H its → K' τ H its) → wpDO E l τ H its K → wpDO E l τ H its K'
  | [], τ, H, its, K, K', hk, h => hk _ _ _ h
  | .op o :: r, τ, H, its, K, K', hk, h => by
    obtain ⟨v, g, e, h⟩ := h
    exact ⟨v, g, e, wpDO_mono hk h⟩
  | .range d m :: r, τ, H, its, K, K', hk, h => by
    obtain ⟨id, es, clk, e1, e2, h⟩ := h
    exact ⟨id, es, clk, e1, e2, wpDO_mono hk h⟩
  | .next d it :: r, τ, H, its, K, K', hk, h => by
    obtain ⟨id, I, es, e1, e2, e3, h1, h2⟩ := h
    exact ⟨id, I, es, e1, e2, e3, fun e => wpDO_mono hk (h1 e), fun e he => wpDO_mono hk (h2 e he)⟩
  | .entry d it :: r, τ, H, its, K, K', hk, h => by
    obtain ⟨id, I, es, e, e1, e2, e3, e4, e5, e6, h⟩ := h
    exact ⟨id, I, es, e, e1, e2, e3, e4, e5, e6, wpDO_mono hk h⟩

theorem wpDC_mono : ∀ (c : DC) {τ : List AV} {H : Hp} {its : Its} {K K' : DPost}, (∀ x τ H its, K x τ H its → K' x τ H its) → wpDC E c τ H its K → wpDC E c τ H its K'
  | .base c, τ, H, its, K, K', hk, h => by obtain ⟨x, τ', H', e, h⟩ := h; exact ⟨x, τ', H', e, hk _ _ _ _ h⟩
  | .regD l, τ, H, its, K, K', hk, h => wpDO_mono (fun τ H its => hk .nrm τ H its) h
  | .alts l, τ, H, its, K, K', hk, h => ⟨h.1, fun c hc => by obtain ⟨τ', H', e, h⟩ := h.2 c hc; exact ⟨τ', H', e, hk _ _ _ _ h⟩⟩
  | .seq a b, τ, H, its, K, K', hk, h => by
    refine wpDC_mono a (fun x τ H its h => ?_) h
    cases x with
    | nrm => exact wpDC_mono b hk h
    | ret => exact hk _ _ _ _ h
    | exit i => exact hk _ _ _ _ h
  | .cond c a b, τ, H, its, K, K', hk, h => by
    obtain ⟨t, e, h1, h2⟩ := h
    exact ⟨t, e, fun k => wpDC_mono a hk (h1 k), fun k => wpDC_mono b hk (h2 k)⟩
  | .block id b, τ, H, its, K, K', hk, h => by
    refine wpDC_mono b (fun x τ H its h => ?_) h
    cases x with
    | nrm => exact hk _ _ _ _ h
    | ret => exact hk _ _ _ _ h
    | exit i =>
      simp only [] at h ⊢
      by_cases hi : i = id
      · rw [if_pos hi] at h ⊢; exact hk _ _ _ _ h
      · rw [if_neg hi] at h ⊢; exact hk _ _ _ _ h
  | .loop b, τ, H, its, K, K', hk, h => by
    obtain ⟨k, h⟩ := h
    refine ⟨k, ?_⟩
    have key : ∀ (k : Nat) (τ : List AV) (H : Hp) (its : Its), iterD (fun τ H its K => wpDC E b τ H its K) K k τ H its → iterD (fun τ H its K => wpDC E b τ H its K) K' k τ H its := by
      intro k
      induction k with
      | zero => intro τ H its h; exact h
      | succ k ih =>
        intro τ H its h
        simp only [iterD] at h ⊢
        refine wpDC_mono b (fun x τ H its h => ?_) h
        cases x with
        | nrm => exact ih _ _ _ h
        | ret => exact hk _ _ _ _ h
        | exit i => exact hk _ _ _ _ h
    exact key k _ _ _ h

theorem wpDO_and : ∀ {l : List DOp} {τ : List AV} {H : Hp} {its : Its} {K K' : List AV → Hp → Its → Prop}, wpDO E l τ H its K → wpDO E l τ H its K' → wpDO E l τ H its fun τ H its => K τ H its ∧ K' τ H its
  | [], τ, H, its, K, K', h, h' => ⟨h, h'⟩
  | .op o :: r, τ, H, its, K, K', h, h' => by
    obtain ⟨v, g, e, h⟩ := h
    obtain ⟨v', g', e', h'⟩ := h'
    rw [e] at e'; cases e'
    exact ⟨v, g, e, wpDO_and h h'⟩
  | .range d m :: r, τ, H, its, K, K', h, h' => by
    obtain ⟨id, es, clk, e1, e2, h⟩ := h
    obtain ⟨id', es', clk', e1', e2', h'⟩ := h'
    rw [e1] at e1'; cases e1'
    rw [e2] at e2'; cases e2'
    exact ⟨id, es, clk, e1, e2, wpDO_and h h'⟩
  | .next d it :: r, τ, H, its, K, K', h, h' => by
    obtain ⟨id, I, es, e1, e2, e3, h1, h2⟩ := h
    obtain ⟨id', I', es', e1', e2', e3', h1', h2'⟩ := h'
    rw [e1] at e1'; cases e1'
    rw [e2] at e2'; cases e2'
    rw [e3] at e3'; cases e3'
    exact ⟨id, I, es, e1, e2, e3, fun e => wpDO_and (h1 e) (h1' e), fun e he => wpDO_and (h2 e he) (h2' e he)⟩
  | .entry d it :: r, τ, H, its, K, K', h, h' => by
    obtain ⟨id, I, es, e, e1, e2, e3, e4, e5, e6, h⟩ := h
    obtain ⟨id', I', es', e', e1', e2', e3', e4', e5', e6', h'⟩ := h'
    rw [e1] at e1'; cases e1'
    rw [e2] at e2'; cases e2'
    rw [e3] at e3'; cases e3'
    rw [e4] at e4'; cases e4'
    exact ⟨id, I, es, e, e1, e2, e3, e4, e5, e6, wpDO_and h h'⟩

theorem iterD_mono {step : List AV → Hp → Its → DPost → Prop} (hs : ∀ (τ : List AV) (H : Hp) (its : Its) (K K' : DPost), (∀ x τ H its, K x τ H its → K' x τ H its) → step τ H its K → step τ H its K') {K : DPost} :
    ∀ (k j : Nat), k ≤ j → ∀ (τ : List AV) (H : Hp) (its : Its), iterD step K k τ H its → iterD step K j τ H its
  | 0, j, _, τ, H, its, h => h.elim
  | k + 1, 0, hkj, τ, H, its, h => by omega
  | k + 1, j + 1, hkj, τ, H, its, h => by
    simp only [iterD] at h ⊢
    refine hs _ _ _ _ _ (fun x τ H its h => ?_) h
    cases x with
    | nrm => exact iterD_mono hs k j (by omega) _ _ _ h
    | ret => exact h
    | exit i => exact h

theorem wpDC_and : ∀ (c : DC) {τ : List AV} {H : Hp} {its : Its} {K K' : DPost}, wpDC E c τ H its K → wpDC E c τ H its K' → wpDC E c τ H its fun x τ H its => K x τ H its ∧ K' x τ H its
  | .base c, τ, H, its, K, K', h, h' => by
    obtain ⟨x, τ', H', e, h⟩ := h
    obtain ⟨x', τ'', H'', e', h'⟩ := h'
    rw [e] at e'; cases e'
    exact ⟨x, τ', H', e, h, h'⟩
  | .regD l, τ, H, its, K, K', h, h' => wpDO_and h h'
  | .alts l, τ, H, its, K, K', h, h' => ⟨h.1, fun c hc => by
    obtain ⟨τ', H', e, h⟩ := h.2 c hc
    obtain ⟨τ'', H'', e', h'⟩ := h'.2 c hc
    rw [e] at e'; cases e'
    exact ⟨τ', H', e, h, h'⟩⟩
  | .seq a b, τ, H, its, K, K', h, h' => by
    refine wpDC_mono a (fun x τ H its h => ?_) (wpDC_and a h h')
    cases x with
    | nrm => exact wpDC_and b h.1 h.2
    | ret => exact h
    | exit i => exact h
  | .cond c a b, τ, H, its, K, K', h, h' => by
    obtain ⟨t, e, h1, h2⟩ := h
    obtain ⟨t', e', h1', h2'⟩ := h'
    rw [e] at e'; cases e'
    exact ⟨t, e, fun k => wpDC_and a (h1 k) (h1' k), fun k => wpDC_and b (h2 k) (h2' k)⟩
  | .block id b, τ, H, its, K, K', h, h' => by
    refine wpDC_mono b (fun x τ H its h => ?_) (wpDC_and b h h')
    cases x with
    | nrm => exact h
    | ret => exact h
    | exit i =>
      simp only [] at h ⊢
      by_cases hi : i = id
      · rw [if_pos hi] at h ⊢; rw [if_pos hi] at h; exact h
      · rw [if_neg hi] at h ⊢; rw [if_neg hi] at h; exact h
  | .loop b, τ, H, its, K, K', h, h' => by
    obtain ⟨k, h⟩ := h
    obtain ⟨k', h'⟩ := h'
    have g := iterD_mono (step := fun τ H its K => wpDC E b τ H its K) (fun _ _ _ _ _ hk h => wpDC_mono b hk h) _ _ (Nat.le_max_left k k') _ _ _ h
    have g' := iterD_mono (step := fun τ H its K => wpDC E b τ H its K) (fun _ _ _ _ _ hk h => wpDC_mono b hk h) _ _ (Nat.le_max_right k k') _ _ _ h'
    refine ⟨max k k', ?_⟩
    have key : ∀ (m : Nat) (τ : List AV) (H : Hp) (its : Its), iterD (fun τ H its K => wpDC E b τ H its K) K m τ H its → iterD (fun τ H its K => wpDC E b τ H its K) K' m τ H its →
        iterD (fun τ H its K => wpDC E b τ H its K) (fun x τ H its => K x τ H its ∧ K' x τ H its) m τ H its := by
      intro m
      induction m with
      | zero => intro τ H its g _; exact g
      | succ m ih =>
        intro τ H its g g'
        simp only [iterD] at g g' ⊢
        refine wpDC_mono b (fun x τ H its h => ?_) (wpDC_and b g g')
        cases x with
        | nrm => exact ih _ _ _ h.1 h.2
        | ret => exact h
        | exit i => exact h
    exact key _ _ _ _ g g'

theorem wpDO_ex : ∀ {l : List DOp} {τ : List AV} {H : Hp} {its : Its} {K : List AV → Hp → Its → Prop}, wpDO E l τ H its K → ∃ τ H its, K τ H its
  | [], τ, H, its, K, h => ⟨τ, H, its, h⟩
  | .op o :: r, τ, H, its, K, h => by obtain ⟨v, g, e, h⟩ := h; exact wpDO_ex h
  | .range d m :: r, τ, H, its, K, h => by obtain ⟨id, es, clk, e1, e2, h⟩ := h; exact wpDO_ex h
  | .next d it :: r, τ, H, its, K, h => by
    obtain ⟨id, I, es, e1, e2, e3, h1, h2⟩ := h
    cases hl : leftL es I.seen with
    | nil => exact wpDO_ex (h1 hl)
    | cons e t => exact wpDO_ex (h2 e (by rw [hl]; simp))
  | .entry d it :: r, τ, H, its, K, h => by obtain ⟨id, I, es, e, e1, e2, e3, e4, e5, e6, h⟩ := h; exact wpDO_ex h

theorem wpDC_ex : ∀ (c : DC) {τ : List AV} {H : Hp} {its : Its} {K : DPost}, wpDC E c τ H its K → ∃ x τ H its, K x τ H its
  | .base c, τ, H, its, K, h => by obtain ⟨x, τ', H', e, h⟩ := h; exact ⟨_, _, _, _, h⟩
  | .regD l, τ, H, its, K, h => by obtain ⟨τ', H', its', h⟩ := wpDO_ex h; exact ⟨_, _, _, _, h⟩
  | .alts l, τ, H, its, K, h => by
    obtain ⟨h0, h⟩ := h
    cases l with
    | nil => exact absurd rfl h0
    | cons c l => obtain ⟨τ', H', e, h⟩ := h c (by simp); exact ⟨_, _, _, _, h⟩
  | .seq a b, τ, H, its, K, h => by
    obtain ⟨x, τ', H', its', h⟩ := wpDC_ex a h
    cases x with
    | nrm => exact wpDC_ex b h
    | ret => exact ⟨_, _, _, _, h⟩
    | exit i => exact ⟨_, _, _, _, h⟩
  | .cond c a b, τ, H, its, K, h => by
    obtain ⟨t, e, h1, h2⟩ := h
    cases t with
    | true => exact wpDC_ex a (h1 rfl)
    | false => exact wpDC_ex b (h2 rfl)
  | .block id b, τ, H, its, K, h => by
    obtain ⟨x, τ', H', its', h⟩ := wpDC_ex b h
    cases x with
    | nrm => exact ⟨_, _, _, _, h⟩
    | ret => exact ⟨_, _, _, _, h⟩
    | exit i =>
      simp only [] at h
      by_cases hi : i = id
      · rw [if_pos hi] at h; exact ⟨_, _, _, _, h⟩
      · rw [if_neg hi] at h; exact ⟨_, _, _, _, h⟩
  | .loop b, τ, H, its, K, h => by
    obtain ⟨k, h⟩ := h
    have key : ∀ (k : Nat) (τ : List AV) (H : Hp) (its : Its), iterD (fun τ H its K => wpDC E b τ H its K) K k τ H its → ∃ x τ H its, K x τ H its := by
      intro k
      induction k with
      | zero => intro τ H its h; exact h.elim
      | succ k ih =>
        intro τ H its h
        simp only [iterD] at h
        obtain ⟨x, τ', H', its', h⟩ := wpDC_ex b h
        cases x with
        | nrm => exact ih _ _ _ h
        | ret => exact ⟨_, _, _, _, h⟩
        | exit i => exact ⟨_, _, _, _, h⟩
    exact key k _ _ _ h
end

/-! ### The heap grows -/
theorem HLe.dead (H : Hp) : HLe H (hdead H) := ⟨by simp [hdead], fun m h => ⟨m, h, Nat.le_refl _⟩, fun i hi _ => by simp [hdead, List.getElem?_append_left hi]⟩

section
variable {P : Program} {Γ : Sums} {A : Tab}

theorem wpDO_le (hΓ : GOK P Γ) : ∀ {l : List DOp} {τ : List AV} {H : Hp} {its : Its} {K : List AV → Hp → Its → Prop}, wpDO (lim Γ A) l τ H its K → wpDO (lim Γ A) l τ H its fun τ' H' its' => K τ' H' its' ∧ HLe H H'
  | [], τ, H, its, K, h => ⟨h, HLe.refl _⟩
  | .op o :: r, τ, H, its, K, h => by
    obtain ⟨v, g, e, h⟩ := h
    obtain ⟨n, e'⟩ := actO_cont e
    have := actO_le (env_le hΓ.le n).toCLe e'
    exact ⟨v, g, e, wpDO_mono (fun _ _ _ h => ⟨h.1, HLe.trans this h.2⟩) (wpDO_le hΓ h)⟩
  | .range d m :: r, τ, H, its, K, h => by
    obtain ⟨id, es, clk, e1, e2, h⟩ := h
    exact ⟨id, es, clk, e1, e2, wpDO_mono (fun _ _ _ h => ⟨h.1, (HLe.dead H).trans h.2⟩) (wpDO_le hΓ h)⟩
  | .next d it :: r, τ, H, its, K, h => by
    obtain ⟨id, I, es, e1, e2, e3, h1, h2⟩ := h
    exact ⟨id, I, es, e1, e2, e3, fun e => wpDO_le hΓ (h1 e), fun e he => wpDO_le hΓ (h2 e he)⟩
  | .entry d it :: r, τ, H, its, K, h => by
    obtain ⟨id, I, es, e, e1, e2, e3, e4, e5, e6, h⟩ := h
    exact ⟨id, I, es, e, e1, e2, e3, e4, e5, e6, wpDO_le hΓ h⟩

theorem limC_le (hΓ : GOK P Γ) {c : AC} {τ τ' : List AV} {H H' : Hp} {x : AX} (e : execC (lim Γ A) none c τ H = some (x, τ', H')) : HLe H H' := by
  obtain ⟨n, e⟩ := execC_cont c e
  exact execC_le (env_le hΓ.le n) c e

theorem wpDC_le (hΓ : GOK P Γ) : ∀ (c : DC) {τ : List AV} {H : Hp} {its : Its} {K : DPost}, wpDC (lim Γ A) c τ H its K → wpDC (lim Γ A) c τ H its fun x τ' H' its' => K x τ' H' its' ∧ HLe H H'
  | .base c, τ, H, its, K, h => by obtain ⟨x, τ', H', e, h⟩ := h; exact ⟨x, τ', H', e, h, limC_le hΓ e⟩
  | .regD l, τ, H, its, K, h => wpDO_le hΓ h
  | .alts l, τ, H, its, K, h => ⟨h.1, fun c hc => by obtain ⟨τ', H', e, h⟩ := h.2 c hc; exact ⟨τ', H', e, h, limC_le hΓ e⟩⟩
  | .seq a b, τ, H, its, K, h => by
    refine wpDC_mono a (fun x τ' H' its h => ?_) (wpDC_le hΓ a h)
    cases x with
    | nrm => exact wpDC_mono b (fun _ _ _ _ k => ⟨k.1, h.2.trans k.2⟩) (wpDC_le hΓ b h.1)
    | ret => exact h
    | exit i => exact h
  | .cond c a b, τ, H, its, K, h => by
    obtain ⟨t, e, h1, h2⟩ := h
    exact ⟨t, e, fun k => wpDC_le hΓ a (h1 k), fun k => wpDC_le hΓ b (h2 k)⟩
  | .block id b, τ, H, its, K, h => by
    refine wpDC_mono b (fun x τ' H' its h => ?_) (wpDC_le hΓ b h)
    cases x with
    | nrm => exact h
    | ret => exact h
    | exit i =>
      simp only [] at h ⊢
      by_cases hi : i = id
      · rw [if_pos hi] at h ⊢; exact h
      · rw [if_neg hi] at h ⊢; exact h
  | .loop b, τ, H, its, K, h => by
    obtain ⟨k, h⟩ := h
    refine ⟨k, ?_⟩
    have key : ∀ (k : Nat) {τ : List AV} {H0 H : Hp} {its : Its}, HLe H0 H → iterD (fun τ H its K => wpDC (lim Γ A) b τ H its K) K k τ H its → iterD (fun τ H its K => wpDC (lim Γ A) b τ H its K) (fun x τ' H' its' => K x τ' H' its' ∧ HLe H0 H') k τ H its := by
      intro k
      induction k with
      | zero => intro τ H0 H its _ h; exact h
      | succ k ih =>
        intro τ H0 H its hl h
        simp only [iterD] at h ⊢
        refine wpDC_mono b (fun x τ' H' its h => ?_) (wpDC_le hΓ b h)
        cases x with
        | nrm => exact ih (hl.trans h.2) h.1
        | ret => exact ⟨h.1, hl.trans h.2⟩
        | exit i => exact ⟨h.1, hl.trans h.2⟩
    exact key k (HLe.refl _) h

/-! ### Functions -/
structure DFunc where
  ntmps : Nat
  results : List (Sum Nat (Nat × Option Nat))
  body : DC
  frz : Bool := false

def pDFunc (P : Program) (hint : Nat → Option AltT) (fn : Func) : Option DFunc := do
  let body ← fn.body
  let dc ← pD P hint body
  let rs ← fn.results.toList.mapM (pRes P)
  if fn.name == "runtime.NumGoroutine" then none else some { ntmps := fn.ntmps, results := rs, body := dc }

/-- A function, run for whatever is drawn: what it comes to. -/
def DRunP (Γ : Sums) (A : Tab) (fn : DFunc) (args : List AV) (H : Hp) (R : AV × Option Hp → Prop) : Prop :=
  wpDC (lim Γ A) fn.body (args ++ List.replicate (fn.ntmps - args.length) avU) { l := H.l, d := none } [] fun x τ' H' _ => (x = .nrm ∨ x = .ret) ∧ ∃ v, resA fn.results τ' H' = some v ∧ R (settleZ fn.frz H v H')
/-- It comes to one and the same. -/
def DRun (Γ : Sums) (A : Tab) (fn : DFunc) (args : List AV) (H : Hp) (r : AV × Option Hp) : Prop := DRunP Γ A fn args H (· = r)

theorem DRun.one {fn : DFunc} {args : List AV} {H : Hp} {r r' : AV × Option Hp} (h : DRun Γ A fn args H r) (h' : DRun Γ A fn args H r') : r = r' := by
  obtain ⟨x, τ, H', its, ⟨_, v, k1, k2⟩, ⟨_, v', k3, k4⟩⟩ := wpDC_ex _ (wpDC_and _ h h')
  rw [k1] at k3; cases k3
  exact k2.symm.trans k4

theorem entDP_sound (hΓ : GOK P Γ) (hT : TOK P A) {hint : Nat → Option AltT} {fn : Func} {f : FuncId} {df : DFunc} (hf : P.funcs[f]? = some fn) (hp : pDFunc P hint fn = some { df with frz := false }) {args : List AV} {H : Hp} {R : AV × Option Hp → Prop} {ι : Io} {w : World} {cargs : Array Value}
    (hr : RelH (PCof P) ι H.l w) (ha : VRels ι (fzOf ι H.l w) args cargs.toList) (e : DRunP Γ A df args H R) : Enters P (fun cv w' => ∃ v h, R (v, h) ∧ Left P ι H.l w v (h.getD H).l cv w') f cargs w := by
  have hsp : ∃ c, fn.body = some c ∧ pD P hint c = some df.body ∧ fn.ntmps = df.ntmps ∧ fn.results.toList.mapM (pRes P) = some df.results ∧ (fn.name == "runtime.NumGoroutine") = false := by
    simp only [pDFunc, Option.bind_eq_bind, Option.pure_def] at hp
    obtain ⟨c, hc, hp⟩ := Option.bind_eq_some_iff.1 hp
    obtain ⟨ac, hac, hp⟩ := Option.bind_eq_some_iff.1 hp
    obtain ⟨rs, hrs, hp⟩ := Option.bind_eq_some_iff.1 hp
    split at hp
    · simp at hp
    · rename_i hn
      simp only [Option.some.injEq, DFunc.mk.injEq] at hp
      obtain ⟨p1, p2, p3, _⟩ := hp
      exact ⟨c, hc, by rw [hac, p3], p1, by rw [hrs, p2], by simpa using hn⟩
  obtain ⟨c, hc, hac, hnt, hrs, hname⟩ := hsp
  refine ⟨?_, ?_⟩
  · simp only [callFunc, Sem.run_bind, run_program, Result.andThen_ok, hf, hname, Bool.false_eq_true, if_false, hc, Option.isNone_some]
    rfl
  · refine callsIn_of_wp_marks hf hc trivial ?_
    have hlen : args.length = cargs.size := by rw [ha.length]; simp
    have hat : AtD P ι H.l w w.heap.size (args ++ List.replicate (df.ntmps - args.length) avU) H.l [] { tmps := cargs ++ Array.replicate (fn.ntmps - cargs.size) undef, defers := [] } w := by
      refine ⟨ι, Stp.refl _ _ _, hr, ?_, ⟨[], rfl, by simp, by simp⟩, ⟨fun id I h => by simp at h, fun id id' I I' p p' h => by simp at h⟩⟩
      simp only [Array.toList_append, Array.toList_replicate]
      rw [hnt, hlen]
      exact ha.append (VRels.replicate (by simp only [VRel, undef]) _)
    refine wpDC_sound hΓ hT (Nat.le_refl _) c (H := { l := H.l, d := none }) hac hat (wpDC_le hΓ _ e) fun x τ' H' its' a' w' hat' hk => ?_
    obtain ⟨⟨hxx, u, hu, hR⟩, hle⟩ := hk
    have hfin : LeavesInM Fence.wide 0 P fn a'.tmps (fun
        | .returned v', w'' => ∃ v h, R (v, h) ∧ Left P ι H.l w v (h.getD H).l v' w''
        | _, _ => False) a'.defers .returning w' := by
      obtain ⟨ι', q1, q2, q3, ⟨Ds, e1, e2, e3⟩, _⟩ := hat'.ex
      rw [e1]
      refine leaves_sound (τ := τ') (H' := H') (fun w'' s hr' ht' => ?_) Ds e2 e3 q1 q2 q3
      obtain ⟨cv, r1, r2⟩ := results_sound hr' ht' hrs hu
      exact ⟨cv, r1, _, _, hR, settleZ_sound hr hle s hr' r2 rfl⟩
    rcases hxx with rfl | rfl
    · exact hfin
    · exact hfin

end
end Go.Proofs.Eng
/- The engine, part AT: the weakest precondition of code that is run for whatever is drawn; laws of such functions. -/
set_option linter.unusedVariables false
set_option linter.unusedSimpArgs false
namespace Go.Proofs.Eng
open Go Go.RowKit Go.ChangeShapes Go.WideShapes Go.ChangeAt

abbrev PostR := AX → Rho → Hp → Its → Prop

def wpRO (E : Env) : List DOp → Rho → Hp → Its → (Rho → Hp → Its → Prop) → Prop
  | [], ρ, H, its, K => K ρ H its
  | .op o :: r, ρ, H, its, K => wpO E [(o, 0)] ρ H fun ρ' H' => wpRO E r ρ' H' its K
  | .range d m :: r, ρ, H, its, K => ∃ id es clk, evR ρ m = .map id ∧ hget H id = some (.map es clk) ∧ wpRO E r (updO ρ (some d) (.ptr H.l.length 0)) (hdead H) ((H.l.length, ⟨id, clk, [], none⟩) :: its) K
  | .next d it :: r, ρ, H, its, K => ∃ id I es, evR ρ it = .ptr id 0 ∧ its.lookup id = some I ∧ hget H I.m = some (.map es I.clk) ∧
      (leftL es I.seen = [] → wpRO E r (updO ρ (some d) (.tup [avBool false])) H its K) ∧
      ∀ e ∈ leftL es I.seen, wpRO E r (updO ρ (some d) (.tup [avBool true, .lit e.1, e.2.1])) H ((id, { I with seen := I.seen ++ [e.2.2], last := some e }) :: its) K
  | .entry d it :: r, ρ, H, its, K => ∃ id I es e, evR ρ it = .ptr id 0 ∧ its.lookup id = some I ∧ hget H I.m = some (.map es I.clk) ∧ I.last = some e ∧ e ∈ es ∧ I.seen.getLast? = some e.2.2 ∧
      wpRO E r (updO ρ (some d) (.tup [.lit e.1, e.2.1])) H its K

def iterR (step : Rho → Hp → Its → PostR → Prop) (K : PostR) : Nat → Rho → Hp → Its → Prop
  | 0, _, _, _ => False
  | k + 1, ρ, H, its => step ρ H its fun x ρ' H' its' => match x with | .nrm => iterR step K k ρ' H' its' | x => K x ρ' H' its'

def postD (K : PostR) (its : Its) : Post := fun x ρ H => K x ρ H its
@[simp ↓] theorem postD_ap {K : PostR} {its : Its} {x : AX} {ρ : Rho} {H : Hp} : postD K its x ρ H = K x ρ H its := _root_.id rfl

def altsP (E : Env) : List AC → Rho → Hp → Its → PostR → Prop
  | [], _, _, _, _ => True
  | c :: l, ρ, H, its, K => wp E none c ρ H (fun x ρ' H' => x = .nrm ∧ K .nrm ρ' H' its) ∧ altsP E l ρ H its K

def wpR (E : Env) : DC → Rho → Hp → Its → PostR → Prop
  | .base c, ρ, H, its, K => wp E none c ρ H (postD K its)
  | .regD l, ρ, H, its, K => wpRO E l ρ H its (K .nrm)
  | .alts l, ρ, H, its, K => l ≠ [] ∧ altsP E l ρ H its K
  | .seq a b, ρ, H, its, K => wpR E a ρ H its fun x ρ' H' its' => match x with | .nrm => wpR E b ρ' H' its' K | x => K x ρ' H' its'
  | .cond c a b, ρ, H, its, K => ∃ t, evR ρ c = avBool t ∧ (t = true → wpR E a ρ H its K) ∧ (t = false → wpR E b ρ H its K)
  | .block id b, ρ, H, its, K => wpR E b ρ H its fun x ρ' H' its' => match x with | .exit i => if i = id then K .nrm ρ' H' its' else K (.exit i) ρ' H' its' | x => K x ρ' H' its'
  | .loop b, ρ, H, its, K => ∃ k, iterR (fun ρ H its K => wpR E b ρ H its K) K k ρ H its

/-- Are all temporaries that are written below n? -/
def dstDO (n : Nat) : DOp → Bool
  | .op o => dstO n o.dst
  | .range d _ => decide (d < n)
  | .next d _ => decide (d < n)
  | .entry d _ => decide (d < n)
def dstDC (n : Nat) : DC → Bool
  | .base c => dstOK n c
  | .regD l => l.all (dstDO n)
  | .alts l => l.all (dstOK n)
  | .seq a b => dstDC n a && dstDC n b
  | .cond _ a b => dstDC n a && dstDC n b
  | .block _ b => dstDC n b
  | .loop b => dstDC n b

section
variable {Γ : Sums} {A : Tab}

theorem wpRO_sound : ∀ {l : List DOp} {τ : List AV} {H : Hp} {its : Its} {K : Rho → Hp → Its → Prop}, l.all (dstDO τ.length) = true → wpRO (lim Γ A) l (rho τ) H its K → wpDO (lim Γ A) l τ H its fun τ' H' its' => τ'.length = τ.length ∧ K (rho τ') H' its'
  | [], τ, H, its, K, _, h => ⟨rfl, h⟩
  | .op o :: r, τ, H, its, K, hd, h => by
    simp only [List.all_cons, Bool.and_eq_true, dstDO] at hd
    obtain ⟨τ', H', e1, e2, e3⟩ := wpO_sound (R := []) (by simpa using hd.1) (by simp) h
    simp only [execQ] at e1
    split at e1
    · split at e1
      · rename_i v g hg
        simp only [Option.some.injEq, Prod.mk.injEq] at e1
        obtain ⟨rfl, rfl⟩ := e1
        refine ⟨v, g, ?_, ?_⟩
        · simpa only [actQ] using hg
        · refine wpDO_mono (fun τ2 H2 its2 k => ⟨by rw [k.1, e2], k.2⟩) (wpRO_sound (l := r) (by rw [e2]; exact hd.2) e3)
      · simp at e1
    · simp at e1
  | .range d m :: r, τ, H, its, K, hd, h => by
    simp only [List.all_cons, Bool.and_eq_true, dstDO, decide_eq_true_eq] at hd
    obtain ⟨id, es, clk, e1, e2, h⟩ := h
    refine ⟨id, es, clk, by rw [aeval_rho]; exact e1, e2, ?_⟩
    rw [← rho_aput (fun n e => by cases e; exact hd.1)] at h
    exact wpDO_mono (fun τ2 H2 its2 k => ⟨by rw [k.1, aput_length], k.2⟩) (wpRO_sound (l := r) (by rw [aput_length]; exact hd.2) h)
  | .next d it :: r, τ, H, its, K, hd, h => by
    simp only [List.all_cons, Bool.and_eq_true, dstDO, decide_eq_true_eq] at hd
    obtain ⟨id, I, es, e1, e2, e3, h1, h2⟩ := h
    refine ⟨id, I, es, by rw [aeval_rho]; exact e1, e2, e3, fun e => ?_, fun e he => ?_⟩
    · have h := h1 e
      rw [← rho_aput (fun n e => by cases e; exact hd.1)] at h
      exact wpDO_mono (fun τ2 H2 its2 k => ⟨by rw [k.1, aput_length], k.2⟩) (wpRO_sound (l := r) (by rw [aput_length]; exact hd.2) h)
    · have h := h2 e he
      rw [← rho_aput (fun n e => by cases e; exact hd.1)] at h
      exact wpDO_mono (fun τ2 H2 its2 k => ⟨by rw [k.1, aput_length], k.2⟩) (wpRO_sound (l := r) (by rw [aput_length]; exact hd.2) h)
  | .entry d it :: r, τ, H, its, K, hd, h => by
    simp only [List.all_cons, Bool.and_eq_true, dstDO, decide_eq_true_eq] at hd
    obtain ⟨id, I, es, e, e1, e2, e3, e4, e5, e6, h⟩ := h
    refine ⟨id, I, es, e, by rw [aeval_rho]; exact e1, e2, e3, e4, e5, e6, ?_⟩
    rw [← rho_aput (fun n e => by cases e; exact hd.1)] at h
    exact wpDO_mono (fun τ2 H2 its2 k => ⟨by rw [k.1, aput_length], k.2⟩) (wpRO_sound (l := r) (by rw [aput_length]; exact hd.2) h)

theorem altsP_mem {E : Env} : ∀ {l : List AC} {ρ : Rho} {H : Hp} {its : Its} {K : PostR}, altsP E l ρ H its K → ∀ c ∈ l, wp E none c ρ H (fun x ρ' H' => x = .nrm ∧ K .nrm ρ' H' its)
  | [], ρ, H, its, K, h, c, hc => by simp at hc
  | d :: l, ρ, H, its, K, h, c, hc => by
    rcases List.mem_cons.1 hc with rfl | hc
    · exact h.1
    · exact altsP_mem h.2 c hc

theorem wpR_sound : ∀ (c : DC) {τ : List AV} {H : Hp} {its : Its} {K : PostR}, dstDC τ.length c = true → wpR (lim Γ A) c (rho τ) H its K → wpDC (lim Γ A) c τ H its fun x τ' H' its' => τ'.length = τ.length ∧ K x (rho τ') H' its'
  | .base c, τ, H, its, K, hd, h => by
    obtain ⟨x, τ', H', e1, e2, e3⟩ := wp_sound c hd h
    exact ⟨x, τ', H', e1, e2, e3⟩
  | .regD l, τ, H, its, K, hd, h => wpRO_sound hd h
  | .alts l, τ, H, its, K, hd, h => ⟨h.1, fun c hc => by
    simp only [dstDC, List.all_eq_true] at hd
    obtain ⟨x, τ', H', e1, e2, e3, e4⟩ := wp_sound c (hd c hc) (altsP_mem h.2 c hc)
    subst e3
    exact ⟨τ', H', e1, e2, e4⟩⟩
  | .seq a b, τ, H, its, K, hd, h => by
    simp only [dstDC, Bool.and_eq_true] at hd
    refine wpDC_mono a (fun x τ' H' its' k => ?_) (wpR_sound a hd.1 h)
    cases x with
    | nrm => exact wpDC_mono b (fun _ _ _ _ j => ⟨by rw [j.1, k.1], j.2⟩) (wpR_sound b (by rw [k.1]; exact hd.2) k.2)
    | ret => exact k
    | exit i => exact k
  | .cond c a b, τ, H, its, K, hd, h => by
    simp only [dstDC, Bool.and_eq_true] at hd
    obtain ⟨t, e, h1, h2⟩ := h
    exact ⟨t, by rw [aeval_rho]; exact e, fun k => wpR_sound a hd.1 (h1 k), fun k => wpR_sound b hd.2 (h2 k)⟩
  | .block id b, τ, H, its, K, hd, h => by
    refine wpDC_mono b (fun x τ' H' its' k => ?_) (wpR_sound b hd h)
    cases x with
    | nrm => exact k
    | ret => exact k
    | exit i =>
      simp only [] at k ⊢
      by_cases hi : i = id
      · rw [if_pos hi] at k ⊢; exact k
      · rw [if_neg hi] at k ⊢; exact k
  | .loop b, τ, H, its, K, hd, h => by
    obtain ⟨k, h⟩ := h
    refine ⟨k, ?_⟩
    have key : ∀ (k : Nat) {n : Nat} {τ : List AV} {H : Hp} {its : Its}, τ.length = n → dstDC n b = true → iterR (fun ρ H its K => wpR (lim Γ A) b ρ H its K) K k (rho τ) H its →
        iterD (fun τ H its K => wpDC (lim Γ A) b τ H its K) (fun x τ' H' its' => τ'.length = n ∧ K x (rho τ') H' its') k τ H its := by
      intro k
      induction k with
      | zero => intro n τ H its _ _ h; exact h
      | succ k ih =>
        intro n τ H its hn hd h
        simp only [iterR, iterD] at h ⊢
        refine wpDC_mono b (fun x τ' H' its' j => ?_) (wpR_sound b (by rw [hn]; exact hd) h)
        cases x with
        | nrm => exact ih (j.1.trans hn) hd j.2
        | ret => exact ⟨j.1.trans hn, j.2⟩
        | exit i => exact ⟨j.1.trans hn, j.2⟩
    exact key k rfl hd h
end

/-! ### Step by step -/
section
variable {E : Env} {ρ : Rho} {H : Hp} {its : Its}
def seqD (E : Env) (b : DC) (K : PostR) : PostR := fun x ρ' H' its' => match x with | .nrm => wpR E b ρ' H' its' K | x => K x ρ' H' its'
@[simp ↓] theorem seqD_nrm {b : DC} {K : PostR} : seqD E b K .nrm ρ H its = wpR E b ρ H its K := _root_.id rfl
@[simp ↓] theorem seqD_ret {b : DC} {K : PostR} : seqD E b K .ret ρ H its = K .ret ρ H its := _root_.id rfl
@[simp ↓] theorem seqD_exit {b : DC} {K : PostR} {i : Nat} : seqD E b K (.exit i) ρ H its = K (.exit i) ρ H its := _root_.id rfl
def blockD (id : Nat) (K : PostR) : PostR := fun x ρ' H' its' => match x with | .exit i => if i = id then K .nrm ρ' H' its' else K (.exit i) ρ' H' its' | x => K x ρ' H' its'
@[simp ↓] theorem blockD_nrm {id : Nat} {K : PostR} : blockD id K .nrm ρ H its = K .nrm ρ H its := _root_.id rfl
@[simp ↓] theorem blockD_ret {id : Nat} {K : PostR} : blockD id K .ret ρ H its = K .ret ρ H its := _root_.id rfl
@[simp ↓] theorem blockD_exit {id i : Nat} {K : PostR} : blockD id K (.exit i) ρ H its = if i = id then K .nrm ρ H its else K (.exit i) ρ H its := _root_.id rfl
@[simp ↓] theorem wpR_base {c : AC} {K : PostR} : wpR E (.base c) ρ H its K = wp E none c ρ H (postD K its) := _root_.id rfl
@[simp ↓] theorem wpR_seq {a b : DC} {K : PostR} : wpR E (.seq a b) ρ H its K = wpR E a ρ H its (seqD E b K) := _root_.id rfl
@[simp ↓] theorem wpR_block {id : Nat} {b : DC} {K : PostR} : wpR E (.block id b) ρ H its K = wpR E b ρ H its (blockD id K) := _root_.id rfl
@[simp ↓] theorem wpR_cond {c : Opd} {a b : DC} {K : PostR} : wpR E (.cond c a b) ρ H its K = bindB (evR ρ c) fun t => iteP t (wpR E a ρ H its K) (wpR E b ρ H its K) := _root_.id rfl
def altP (K : PostR) (its : Its) : Post := fun x ρ' H' => x = .nrm ∧ K .nrm ρ' H' its
@[simp ↓] theorem altP_nrm {K : PostR} : altP K its .nrm ρ H = K .nrm ρ H its := by simp [altP]
theorem wpR_alts {l : List AC} {K : PostR} (h0 : l ≠ []) (h : ∀ c ∈ l, wp E none c ρ H (altP K its)) : wpR E (.alts l) ρ H its K := by
  refine ⟨h0, ?_⟩
  clear h0
  induction l with
  | nil => trivial
  | cons c l ih => exact ⟨h c (by simp), ih fun c hc => h c (by simp [hc])⟩

/-- What a round owes. -/
def roundD (I : Nat → Rho → Hp → Its → Prop) (n : Nat) (K : PostR) : PostR := fun x ρ' H' its' => match x with | .nrm => ∃ m, m < n ∧ I m ρ' H' its' | x => K x ρ' H' its'
@[simp ↓] theorem roundD_nrm {I : Nat → Rho → Hp → Its → Prop} {n : Nat} {K : PostR} : roundD I n K .nrm ρ H its = ∃ m, m < n ∧ I m ρ H its := _root_.id rfl
@[simp ↓] theorem roundD_ret {I : Nat → Rho → Hp → Its → Prop} {n : Nat} {K : PostR} : roundD I n K .ret ρ H its = K .ret ρ H its := _root_.id rfl
@[simp ↓] theorem roundD_exit {I : Nat → Rho → Hp → Its → Prop} {n i : Nat} {K : PostR} : roundD I n K (.exit i) ρ H its = K (.exit i) ρ H its := _root_.id rfl
@[simp ↓] theorem wpA_bsliceD {e : TypeId} {sz len : Nat} {lay : Option Nat} {z : List AV} {ps : List (Nat × Nat × Opd)} {Q : AV → Hp → Prop} : wpA E 1 (.bslice e sz lay len z ps) ρ H Q =
    bindO (fillA (repl len z) (ps.map fun (o, s, x) => (o, s, evR ρ x))) fun cs => andQ ((chunk sz lay len cs).all (fun y => y.good && y.cells.length == sz && (lay.isSome || y.one)) = true) (Q (.ra sz H.l.length 0 len) (halloc H (.arr sz (chunk sz lay len cs) e))) := by
  rw [← wpA_bslice]
  refine wpA_one_zero ?_
  simp only [aopER, aopR]
  cases hf : fillA (repl len z) (ps.map fun (o, s, x) => (o, s, evR ρ x)) with
  | none => exact .inl fun d => rfl
  | some cs =>
    simp only [Option.bind_some]
    by_cases hc : (chunk sz lay len cs).all (fun y => y.good && y.cells.length == sz && (lay.isSome || y.one)) = true
    · simp only [hc, if_true]
      exact .inr ⟨_, _, fun d => rfl⟩
    · simp only [hc, if_false]
      exact .inl fun d => rfl
end

/-! ### Functions and laws -/
section
variable {P : Program} {W : World} {Γ : Sums} {A : Tab}

/-- A function's end. -/
def EndsD (rs : List (Sum Nat (Nat × Option Nat))) (fz : Bool) (H : Hp) (R : AV × Option Hp → Prop) : PostR := fun x ρ H' _ => Ends rs fz H R x ρ H'
@[simp ↓] theorem EndsD_nrm {rs : List (Sum Nat (Nat × Option Nat))} {z : Bool} {H : Hp} {R : AV × Option Hp → Prop} {ρ : Rho} {H' : Hp} {its : Its} : EndsD rs z H R .nrm ρ H' its = bindO (resR rs ρ H') fun v => R (settleZ z H v H') := Ends_nrm
@[simp ↓] theorem EndsD_ret {rs : List (Sum Nat (Nat × Option Nat))} {z : Bool} {H : Hp} {R : AV × Option Hp → Prop} {ρ : Rho} {H' : Hp} {its : Its} : EndsD rs z H R .ret ρ H' its = bindO (resR rs ρ H') fun v => R (settleZ z H v H') := Ends_ret
@[simp ↓] theorem EndsD_exit {rs : List (Sum Nat (Nat × Option Nat))} {z : Bool} {H : Hp} {R : AV × Option Hp → Prop} {ρ : Rho} {H' : Hp} {its : Its} {i : Nat} : EndsD rs z H R (.exit i) ρ H' its = False := Ends_exit

def okD (fn : DFunc) (k : Nat) : Bool := dstDC (k + (fn.ntmps - k)) fn.body

theorem DRunP.of {fn : DFunc} {args : List AV} {H : Hp} {R : AV × Option Hp → Prop} (hd : okD fn args.length = true) (h : wpR (lim Γ A) fn.body (rho0 args) { l := H.l, d := none } [] (EndsD fn.results fn.frz H R)) : DRunP Γ A fn args H R := by
  rw [← rho_args args (fn.ntmps - args.length)] at h
  refine wpDC_mono _ (fun x τ' H' its k => ?_) (wpR_sound fn.body (by simpa [okD] using hd) h)
  obtain ⟨_, hx, v, h1, h2⟩ := k
  exact ⟨hx, v, by rw [resA_rho, h1], h2⟩

theorem calls_d (hΓ : GOK P Γ) (hT : TOK P A) {hint : Nat → Option AltT} {fn : Func} {f : FuncId} {df : DFunc} (hf : P.funcs[f]? = some fn) (hp : pDFunc P hint fn = some { df with frz := false }) {xs : List AV} {args : Array Value} {b : Bool} (hx : VRels io0 (fz0 W) xs args.toList)
    (e : DRunP Γ A df xs ⟨[], none⟩ fun r => r.1 = avBool b) : Calls P f args W fun en W' => en = .returned (.bool b) ∧ Below W.heap.size W W' := by
  obtain ⟨_, h2⟩ := entDP_sound (H := ⟨[], none⟩) hΓ hT hf hp relH0 hx e
  refine (callsIn_wide.1 h2).mono fun en W' he => ?_
  cases en with
  | panicked c => exact he.elim
  | outgrown => exact he.elim
  | returned v =>
    obtain ⟨u, g, hu, ι', s, _, hv⟩ := he
    simp only at hu
    subst hu
    simp only [VRel] at hv
    subst hv
    refine ⟨rfl, s.os, s.tape, s.output, s.size, fun k hk => (s.frame k hk ?_).2⟩
    rintro ⟨i, o, p, h, _⟩
    simp at h

/-- A law that comes to true whatever is drawn. -/
theorem law_limD {H : Type} {enc : TypeId × Value → H} {fn : Func} {s : ChangeSpec} (hΓ : GOK P Γ) (hT : TOK P A) (hl : laidOutB P = true) {f : FuncId} {hint : Nat → Option AltT} {df : DFunc} (hf : P.funcs[f]? = some fn) (hp : pDFunc P hint fn = some { df with frz := false })
    {args : Array Value} {ds gs : List (DataW H)} {before : List MemPlace} {tb : TypeId}
    (hs0 : s.vars = []) (hrt : fn.resultTypes = #[tb]) (htb : P.underlying tb = some .bool) (hr : (fn.params.toList.all fun t => P.readableRec t && decide (t < P.types.size)) = true)
    (hW : DataW.Whole enc P fn.params.toList s.vars false W args.toList ds gs before) (hs : (s.fn H (ds ++ gs)).results = [.lit (.bool true)] ∧ (s.fn H (ds ++ gs)).args = ds ∧ (s.fn H (ds ++ gs)).vars = [])
    {xs : List AV} (hx : VRels io0 (fz0 W) xs args.toList) (e : DRunP Γ A df xs ⟨[], none⟩ fun r => r.1 = avBool true) :
    Calls P f args W fun en W' => ∃ v, en = .returned v ∧ s.post enc P fn false true false false W args v W' := by
  refine (calls_d hΓ hT hf hp hx e).mono fun en W' ⟨he, hb⟩ => ⟨_, he, ?_⟩
  have hW' := hW
  obtain ⟨p, q, hA, hV, rfl, _, _⟩ := hW
  refine ⟨ds, gs, p ++ q, [], p, [], hW', ?_, ?_, ?_, hb.frame _, fun hh => by cases hh⟩
  · rw [hs.1, hrt]
    exact trodAll_mk1 (shut_bool htb true)
  · rw [hs.2.1]
    exact trodAll_stays hl hb hr hA (fun x hx => hW'.lt x (by simp [hx]))
  · rw [hs.2.2, hs0]
    exact rfl
end
end Go.Proofs.Eng
/- A function that is run for whatever is drawn, as the engine takes it. Printed by tm.py. -/
set_option linter.unusedVariables false
set_option maxRecDepth 100000
namespace Go.Proofs.Eng
open Go

def DM_law04_TreeAround_1 (N : Nat → Nat) : AC :=
   .dops 4 [⟨(some 39), .faddr 0 (.t 2), none⟩, ⟨(some 40), .load none (.t 39), none⟩, ⟨(some 42), .mov (.t 1), none⟩, ⟨(some 43), .mov (.t 5), none⟩, ⟨(some 44), .bin .sub (.t 43) (.c (.lit (.int .i64 1))), none⟩, ⟨(some 49), .faddr 1 (.t 2), none⟩, ⟨(some 50), .load none (.t 49), none⟩, ⟨(some 51), .faddr 2 (.t 2), none⟩, ⟨(some 52), .load none (.t 51), none⟩, ⟨(some 38), .bslice (t_api_Node N) 8 (some 8) 0 [(.lit (.int .i64 0)), (.lit (.int .i64 0)), (.lit (.string (mkS []))), (.lit (.int .i64 0)), (.lit (.int .u64 0)), (.lit (.slice none 0 0)), (.lit (.slice none 0 0)), (.lit (.slice none 0 0))] [], none⟩, ⟨(some 41), .append (t_api_Node N) 8 120 (.t 38) (.t 40), none⟩, ⟨(some 45), .bslice (t_int N) 1 none 1 [(.lit (.int .i64 0))] [(0, 1, (.t 44))], none⟩, ⟨(some 46), .build [(.lit (.int .i64 0)), (.lit (.int .i64 0)), (.lit (.string (mkS []))), (.lit (.int .i64 0)), (.lit (.int .u64 0)), (.lit (.slice none 0 0)), (.lit (.slice none 0 0)), (.lit (.slice none 0 0))] [(0, 1, (.c (.lit (.int .i64 5)))), (2, 1, (.t 42)), (6, 1, (.t 45))], none⟩, ⟨(some 47), .bslice (t_api_Node N) 8 (some 8) 1 [(.lit (.int .i64 0)), (.lit (.int .i64 0)), (.lit (.string (mkS []))), (.lit (.int .i64 0)), (.lit (.int .u64 0)), (.lit (.slice none 0 0)), (.lit (.slice none 0 0)), (.lit (.slice none 0 0))] [(0, 8, (.t 46))], none⟩, ⟨(some 48), .append (t_api_Node N) 8 120 (.t 41) (.t 47), none⟩, ⟨(some 53), .build [(.lit (.slice none 0 0)), (.lit (.slice none 0 0)), (.lit (.slice none 0 0))] [(0, 1, (.t 48)), (1, 1, (.t 50)), (2, 1, (.t 52))], none⟩, ⟨(some 6), .new (t_api_Tree N) (.agg [(.lit (.slice none 0 0)), (.lit (.slice none 0 0)), (.lit (.slice none 0 0))]), none⟩, ⟨none, .store 3 (.t 6) (.t 53), none⟩] [0, 2, 0, 0, 0, 0, 2, 0, 2, 1, 3, 1, 0, 1, 3, 0, 1, 0] []
def DM_law04_TreeAround_2 (N : Nat → Nat) : AC :=
   .dops 4 [⟨(some 39), .faddr 0 (.t 2), none⟩, ⟨(some 40), .load none (.t 39), none⟩, ⟨(some 42), .mov (.t 1), none⟩, ⟨(some 43), .mov (.t 5), none⟩, ⟨(some 44), .bin .sub (.t 43) (.c (.lit (.int .i64 1))), none⟩, ⟨(some 49), .faddr 1 (.t 2), none⟩, ⟨(some 50), .load none (.t 49), none⟩, ⟨(some 51), .faddr 2 (.t 2), none⟩, ⟨(some 52), .load none (.t 51), none⟩, ⟨(some 38), .bslice (t_api_Node N) 8 (some 8) 0 [(.lit (.int .i64 0)), (.lit (.int .i64 0)), (.lit (.string (mkS []))), (.lit (.int .i64 0)), (.lit (.int .u64 0)), (.lit (.slice none 0 0)), (.lit (.slice none 0 0)), (.lit (.slice none 0 0))] [], none⟩, ⟨(some 45), .bslice (t_int N) 1 none 1 [(.lit (.int .i64 0))] [(0, 1, (.t 44))], none⟩, ⟨(some 46), .build [(.lit (.int .i64 0)), (.lit (.int .i64 0)), (.lit (.string (mkS []))), (.lit (.int .i64 0)), (.lit (.int .u64 0)), (.lit (.slice none 0 0)), (.lit (.slice none 0 0)), (.lit (.slice none 0 0))] [(0, 1, (.c (.lit (.int .i64 5)))), (2, 1, (.t 42)), (6, 1, (.t 45))], none⟩, ⟨(some 41), .append (t_api_Node N) 8 120 (.t 38) (.t 40), none⟩, ⟨(some 47), .bslice (t_api_Node N) 8 (some 8) 1 [(.lit (.int .i64 0)), (.lit (.int .i64 0)), (.lit (.string (mkS []))), (.lit (.int .i64 0)), (.lit (.int .u64 0)), (.lit (.slice none 0 0)), (.lit (.slice none 0 0)), (.lit (.slice none 0 0))] [(0, 8, (.t 46))], none⟩, ⟨(some 48), .append (t_api_Node N) 8 120 (.t 41) (.t 47), none⟩, ⟨(some 53), .build [(.lit (.slice none 0 0)), (.lit (.slice none 0 0)), (.lit (.slice none 0 0))] [(0, 1, (.t 48)), (1, 1, (.t 50)), (2, 1, (.t 52))], none⟩, ⟨(some 6), .new (t_api_Tree N) (.agg [(.lit (.slice none 0 0)), (.lit (.slice none 0 0)), (.lit (.slice none 0 0))]), none⟩, ⟨none, .store 3 (.t 6) (.t 53), none⟩] [0, 2, 0, 0, 0, 0, 2, 0, 2, 1, 1, 0, 3, 1, 3, 0, 1, 0] []
def DM_law04_TreeAround_3 (N : Nat → Nat) : AC :=
   .dops 4 [⟨(some 39), .faddr 0 (.t 2), none⟩, ⟨(some 40), .load none (.t 39), none⟩, ⟨(some 42), .mov (.t 1), none⟩, ⟨(some 43), .mov (.t 5), none⟩, ⟨(some 44), .bin .sub (.t 43) (.c (.lit (.int .i64 1))), none⟩, ⟨(some 49), .faddr 1 (.t 2), none⟩, ⟨(some 50), .load none (.t 49), none⟩, ⟨(some 51), .faddr 2 (.t 2), none⟩, ⟨(some 52), .load none (.t 51), none⟩, ⟨(some 38), .bslice (t_api_Node N) 8 (some 8) 0 [(.lit (.int .i64 0)), (.lit (.int .i64 0)), (.lit (.string (mkS []))), (.lit (.int .i64 0)), (.lit (.int .u64 0)), (.lit (.slice none 0 0)), (.lit (.slice none 0 0)), (.lit (.slice none 0 0))] [], none⟩, ⟨(some 45), .bslice (t_int N) 1 none 1 [(.lit (.int .i64 0))] [(0, 1, (.t 44))], none⟩, ⟨(some 46), .build [(.lit (.int .i64 0)), (.lit (.int .i64 0)), (.lit (.string (mkS []))), (.lit (.int .i64 0)), (.lit (.int .u64 0)), (.lit (.slice none 0 0)), (.lit (.slice none 0 0)), (.lit (.slice none 0 0))] [(0, 1, (.c (.lit (.int .i64 5)))), (2, 1, (.t 42)), (6, 1, (.t 45))], none⟩, ⟨(some 47), .bslice (t_api_Node N) 8 (some 8) 1 [(.lit (.int .i64 0)), (.lit (.int .i64 0)), (.lit (.string (mkS []))), (.lit (.int .i64 0)), (.lit (.int .u64 0)), (.lit (.slice none 0 0)), (.lit (.slice none 0 0)), (.lit (.slice none 0 0))] [(0, 8, (.t 46))], none⟩, ⟨(some 41), .append (t_api_Node N) 8 120 (.t 38) (.t 40), none⟩, ⟨(some 48), .append (t_api_Node N) 8 120 (.t 41) (.t 47), none⟩, ⟨(some 53), .build [(.lit (.slice none 0 0)), (.lit (.slice none 0 0)), (.lit (.slice none 0 0))] [(0, 1, (.t 48)), (1, 1, (.t 50)), (2, 1, (.t 52))], none⟩, ⟨(some 6), .new (t_api_Tree N) (.agg [(.lit (.slice none 0 0)), (.lit (.slice none 0 0)), (.lit (.slice none 0 0))]), none⟩, ⟨none, .store 3 (.t 6) (.t 53), none⟩] [0, 2, 0, 0, 0, 0, 2, 0, 2, 1, 1, 0, 1, 3, 3, 0, 1, 0] []
def DM_law04_TreeAround_4 (N : Nat → Nat) : AC :=
   .dops 4 [⟨(some 39), .faddr 0 (.t 2), none⟩, ⟨(some 40), .load none (.t 39), none⟩, ⟨(some 42), .mov (.t 1), none⟩, ⟨(some 43), .mov (.t 5), none⟩, ⟨(some 44), .bin .sub (.t 43) (.c (.lit (.int .i64 1))), none⟩, ⟨(some 49), .faddr 1 (.t 2), none⟩, ⟨(some 50), .load none (.t 49), none⟩, ⟨(some 51), .faddr 2 (.t 2), none⟩, ⟨(some 52), .load none (.t 51), none⟩, ⟨(some 45), .bslice (t_int N) 1 none 1 [(.lit (.int .i64 0))] [(0, 1, (.t 44))], none⟩, ⟨(some 46), .build [(.lit (.int .i64 0)), (.lit (.int .i64 0)), (.lit (.string (mkS []))), (.lit (.int .i64 0)), (.lit (.int .u64 0)), (.lit (.slice none 0 0)), (.lit (.slice none 0 0)), (.lit (.slice none 0 0))] [(0, 1, (.c (.lit (.int .i64 5)))), (2, 1, (.t 42)), (6, 1, (.t 45))], none⟩, ⟨(some 47), .bslice (t_api_Node N) 8 (some 8) 1 [(.lit (.int .i64 0)), (.lit (.int .i64 0)), (.lit (.string (mkS []))), (.lit (.int .i64 0)), (.lit (.int .u64 0)), (.lit (.slice none 0 0)), (.lit (.slice none 0 0)), (.lit (.slice none 0 0))] [(0, 8, (.t 46))], none⟩, ⟨(some 38), .bslice (t_api_Node N) 8 (some 8) 0 [(.lit (.int .i64 0)), (.lit (.int .i64 0)), (.lit (.string (mkS []))), (.lit (.int .i64 0)), (.lit (.int .u64 0)), (.lit (.slice none 0 0)), (.lit (.slice none 0 0)), (.lit (.slice none 0 0))] [], none⟩, ⟨(some 41), .append (t_api_Node N) 8 120 (.t 38) (.t 40), none⟩, ⟨(some 48), .append (t_api_Node N) 8 120 (.t 41) (.t 47), none⟩, ⟨(some 53), .build [(.lit (.slice none 0 0)), (.lit (.slice none 0 0)), (.lit (.slice none 0 0))] [(0, 1, (.t 48)), (1, 1, (.t 50)), (2, 1, (.t 52))], none⟩, ⟨(some 6), .new (t_api_Tree N) (.agg [(.lit (.slice none 0 0)), (.lit (.slice none 0 0)), (.lit (.slice none 0 0))]), none⟩, ⟨none, .store 3 (.t 6) (.t 53), none⟩] [0, 2, 0, 0, 0, 0, 2, 0, 2, 1, 0, 1, 1, 3, 3, 0, 1, 0] []
def DM_law04_TreeAround_5 (N : Nat → Nat) : AC :=
   .dops 4 [⟨(some 39), .faddr 0 (.t 2), none⟩, ⟨(some 40), .load none (.t 39), none⟩, ⟨(some 42), .mov (.t 1), none⟩, ⟨(some 43), .mov (.t 5), none⟩, ⟨(some 44), .bin .sub (.t 43) (.c (.lit (.int .i64 1))), none⟩, ⟨(some 49), .faddr 1 (.t 2), none⟩, ⟨(some 50), .load none (.t 49), none⟩, ⟨(some 51), .faddr 2 (.t 2), none⟩, ⟨(some 52), .load none (.t 51), none⟩, ⟨(some 45), .bslice (t_int N) 1 none 1 [(.lit (.int .i64 0))] [(0, 1, (.t 44))], none⟩, ⟨(some 46), .build [(.lit (.int .i64 0)), (.lit (.int .i64 0)), (.lit (.string (mkS []))), (.lit (.int .i64 0)), (.lit (.int .u64 0)), (.lit (.slice none 0 0)), (.lit (.slice none 0 0)), (.lit (.slice none 0 0))] [(0, 1, (.c (.lit (.int .i64 5)))), (2, 1, (.t 42)), (6, 1, (.t 45))], none⟩, ⟨(some 38), .bslice (t_api_Node N) 8 (some 8) 0 [(.lit (.int .i64 0)), (.lit (.int .i64 0)), (.lit (.string (mkS []))), (.lit (.int .i64 0)), (.lit (.int .u64 0)), (.lit (.slice none 0 0)), (.lit (.slice none 0 0)), (.lit (.slice none 0 0))] [], none⟩, ⟨(some 41), .append (t_api_Node N) 8 120 (.t 38) (.t 40), none⟩, ⟨(some 47), .bslice (t_api_Node N) 8 (some 8) 1 [(.lit (.int .i64 0)), (.lit (.int .i64 0)), (.lit (.string (mkS []))), (.lit (.int .i64 0)), (.lit (.int .u64 0)), (.lit (.slice none 0 0)), (.lit (.slice none 0 0)), (.lit (.slice none 0 0))] [(0, 8, (.t 46))], none⟩, ⟨(some 48), .append (t_api_Node N) 8 120 (.t 41) (.t 47), none⟩, ⟨(some 53), .build [(.lit (.slice none 0 0)), (.lit (.slice none 0 0)), (.lit (.slice none 0 0))] [(0, 1, (.t 48)), (1, 1, (.t 50)), (2, 1, (.t 52))], none⟩, ⟨(some 6), .new (t_api_Tree N) (.agg [(.lit (.slice none 0 0)), (.lit (.slice none 0 0)), (.lit (.slice none 0 0))]), none⟩, ⟨none, .store 3 (.t 6) (.t 53), none⟩] [0, 2, 0, 0, 0, 0, 2, 0, 2, 1, 0, 1, 3, 1, 3, 0, 1, 0] []
def DM_law04_TreeAround_6 (N : Nat → Nat) : AC :=
   .dops 4 [⟨(some 39), .faddr 0 (.t 2), none⟩, ⟨(some 40), .load none (.t 39), none⟩, ⟨(some 42), .mov (.t 1), none⟩, ⟨(some 43), .mov (.t 5), none⟩, ⟨(some 44), .bin .sub (.t 43) (.c (.lit (.int .i64 1))), none⟩, ⟨(some 49), .faddr 1 (.t 2), none⟩, ⟨(some 50), .load none (.t 49), none⟩, ⟨(some 51), .faddr 2 (.t 2), none⟩, ⟨(some 52), .load none (.t 51), none⟩, ⟨(some 45), .bslice (t_int N) 1 none 1 [(.lit (.int .i64 0))] [(0, 1, (.t 44))], none⟩, ⟨(some 46), .build [(.lit (.int .i64 0)), (.lit (.int .i64 0)), (.lit (.string (mkS []))), (.lit (.int .i64 0)), (.lit (.int .u64 0)), (.lit (.slice none 0 0)), (.lit (.slice none 0 0)), (.lit (.slice none 0 0))] [(0, 1, (.c (.lit (.int .i64 5)))), (2, 1, (.t 42)), (6, 1, (.t 45))], none⟩, ⟨(some 38), .bslice (t_api_Node N) 8 (some 8) 0 [(.lit (.int .i64 0)), (.lit (.int .i64 0)), (.lit (.string (mkS []))), (.lit (.int .i64 0)), (.lit (.int .u64 0)), (.lit (.slice none 0 0)), (.lit (.slice none 0 0)), (.lit (.slice none 0 0))] [], none⟩, ⟨(some 47), .bslice (t_api_Node N) 8 (some 8) 1 [(.lit (.int .i64 0)), (.lit (.int .i64 0)), (.lit (.string (mkS []))), (.lit (.int .i64 0)), (.lit (.int .u64 0)), (.lit (.slice none 0 0)), (.lit (.slice none 0 0)), (.lit (.slice none 0 0))] [(0, 8, (.t 46))], none⟩, ⟨(some 41), .append (t_api_Node N) 8 120 (.t 38) (.t 40), none⟩, ⟨(some 48), .append (t_api_Node N) 8 120 (.t 41) (.t 47), none⟩, ⟨(some 53), .build [(.lit (.slice none 0 0)), (.lit (.slice none 0 0)), (.lit (.slice none 0 0))] [(0, 1, (.t 48)), (1, 1, (.t 50)), (2, 1, (.t 52))], none⟩, ⟨(some 6), .new (t_api_Tree N) (.agg [(.lit (.slice none 0 0)), (.lit (.slice none 0 0)), (.lit (.slice none 0 0))]), none⟩, ⟨none, .store 3 (.t 6) (.t 53), none⟩] [0, 2, 0, 0, 0, 0, 2, 0, 2, 1, 0, 1, 1, 3, 3, 0, 1, 0] []
def DM_law04_TreeAround_7 (N : Nat → Nat) : AC :=
   .dops 11 [⟨(some 72), .mov (.t 9), none⟩, ⟨(some 73), .mov (.t 8), none⟩, ⟨(some 74), .eq false .pint (.t 72) (.t 73), none⟩, ⟨(some 75), .mov (.t 74), none⟩, ⟨(some 76), .mov (.t 9), (some (75, false))⟩, ⟨(some 77), .mov (.t 8), (some (75, false))⟩, ⟨(some 78), .bin .add (.t 77) (.c (.lit (.int .i64 1))), (some (75, false))⟩, ⟨(some 79), .eq false .pint (.t 76) (.t 78), (some (75, false))⟩, ⟨(some 80), .pick (.t 75) (.c (.lit (.bool true))) (.t 79), none⟩, ⟨(some 81), .mov (.t 80), none⟩, ⟨(some 82), .load (some 3) (.t 6), (some (81, true))⟩, ⟨(some 83), .mov (.t 5), (some (81, true))⟩, ⟨(some 86), .mov (.t 5), (some (81, true))⟩, ⟨(some 88), .load (some 3) (.t 2), (some (81, true))⟩, ⟨(some 89), .mov (.t 5), (some (81, true))⟩, ⟨(some 90), .bin .sub (.t 89) (.c (.lit (.int .i64 1))), (some (81, true))⟩, ⟨(some 87), .bslice (t_int N) 1 none 1 [(.lit (.int .i64 0))] [(0, 1, (.t 86))], (some (81, true))⟩, ⟨(some 84), .call (.c (.fn (f_tree_Walk N) [] [])) [(.t 82), (.t 83)], (some (81, true))⟩, ⟨(some 85), .call (.c (.fn (f_law04_all N) [] [])) [(.t 84)], (some (81, true))⟩, ⟨(some 91), .call (.c (.fn (f_tree_Walk N) [] [])) [(.t 88), (.t 90)], (some (81, true))⟩, ⟨(some 92), .call (.c (.fn (f_law04_all N) [] [])) [(.t 91)], (some (81, true))⟩, ⟨(some 93), .append (t_int N) 1 8 (.t 87) (.t 92), (some (81, true))⟩, ⟨(some 94), .call (.c (.fn (f_law04_same N) [] [])) [(.t 85), (.t 93)], (some (81, true))⟩, ⟨(some 95), .pick (.t 81) (.t 94) (.c (.lit (.bool false))), none⟩, ⟨(some 4), .mov (.t 95), none⟩] [0, 0, 0, 0, 0, 0, 0, 0, 0, 0, 2, 0, 0, 2, 0, 0, 1, 1, 1, 0, 0, 0, 0, 0, 0] []
def DM_law04_TreeAround_8 (N : Nat → Nat) : AC :=
   .dops 11 [⟨(some 72), .mov (.t 9), none⟩, ⟨(some 73), .mov (.t 8), none⟩, ⟨(some 74), .eq false .pint (.t 72) (.t 73), none⟩, ⟨(some 75), .mov (.t 74), none⟩, ⟨(some 76), .mov (.t 9), (some (75, false))⟩, ⟨(some 77), .mov (.t 8), (some (75, false))⟩, ⟨(some 78), .bin .add (.t 77) (.c (.lit (.int .i64 1))), (some (75, false))⟩, ⟨(some 79), .eq false .pint (.t 76) (.t 78), (some (75, false))⟩, ⟨(some 80), .pick (.t 75) (.c (.lit (.bool true))) (.t 79), none⟩, ⟨(some 81), .mov (.t 80), none⟩, ⟨(some 82), .load (some 3) (.t 6), (some (81, true))⟩, ⟨(some 83), .mov (.t 5), (some (81, true))⟩, ⟨(some 86), .mov (.t 5), (some (81, true))⟩, ⟨(some 88), .load (some 3) (.t 2), (some (81, true))⟩, ⟨(some 89), .mov (.t 5), (some (81, true))⟩, ⟨(some 90), .bin .sub (.t 89) (.c (.lit (.int .i64 1))), (some (81, true))⟩, ⟨(some 84), .call (.c (.fn (f_tree_Walk N) [] [])) [(.t 82), (.t 83)], (some (81, true))⟩, ⟨(some 87), .bslice (t_int N) 1 none 1 [(.lit (.int .i64 0))] [(0, 1, (.t 86))], (some (81, true))⟩, ⟨(some 85), .call (.c (.fn (f_law04_all N) [] [])) [(.t 84)], (some (81, true))⟩, ⟨(some 91), .call (.c (.fn (f_tree_Walk N) [] [])) [(.t 88), (.t 90)], (some (81, true))⟩, ⟨(some 92), .call (.c (.fn (f_law04_all N) [] [])) [(.t 91)], (some (81, true))⟩, ⟨(some 93), .append (t_int N) 1 8 (.t 87) (.t 92), (some (81, true))⟩, ⟨(some 94), .call (.c (.fn (f_law04_same N) [] [])) [(.t 85), (.t 93)], (some (81, true))⟩, ⟨(some 95), .pick (.t 81) (.t 94) (.c (.lit (.bool false))), none⟩, ⟨(some 4), .mov (.t 95), none⟩] [0, 0, 0, 0, 0, 0, 0, 0, 0, 0, 2, 0, 0, 2, 0, 0, 1, 1, 1, 0, 0, 0, 0, 0, 0] []
def DM_law04_TreeAround_9 (N : Nat → Nat) : AC :=
   .dops 11 [⟨(some 72), .mov (.t 9), none⟩, ⟨(some 73), .mov (.t 8), none⟩, ⟨(some 74), .eq false .pint (.t 72) (.t 73), none⟩, ⟨(some 75), .mov (.t 74), none⟩, ⟨(some 76), .mov (.t 9), (some (75, false))⟩, ⟨(some 77), .mov (.t 8), (some (75, false))⟩, ⟨(some 78), .bin .add (.t 77) (.c (.lit (.int .i64 1))), (some (75, false))⟩, ⟨(some 79), .eq false .pint (.t 76) (.t 78), (some (75, false))⟩, ⟨(some 80), .pick (.t 75) (.c (.lit (.bool true))) (.t 79), none⟩, ⟨(some 81), .mov (.t 80), none⟩, ⟨(some 82), .load (some 3) (.t 6), (some (81, true))⟩, ⟨(some 83), .mov (.t 5), (some (81, true))⟩, ⟨(some 86), .mov (.t 5), (some (81, true))⟩, ⟨(some 88), .load (some 3) (.t 2), (some (81, true))⟩, ⟨(some 89), .mov (.t 5), (some (81, true))⟩, ⟨(some 90), .bin .sub (.t 89) (.c (.lit (.int .i64 1))), (some (81, true))⟩, ⟨(some 84), .call (.c (.fn (f_tree_Walk N) [] [])) [(.t 82), (.t 83)], (some (81, true))⟩, ⟨(some 85), .call (.c (.fn (f_law04_all N) [] [])) [(.t 84)], (some (81, true))⟩, ⟨(some 87), .bslice (t_int N) 1 none 1 [(.lit (.int .i64 0))] [(0, 1, (.t 86))], (some (81, true))⟩, ⟨(some 91), .call (.c (.fn (f_tree_Walk N) [] [])) [(.t 88), (.t 90)], (some (81, true))⟩, ⟨(some 92), .call (.c (.fn (f_law04_all N) [] [])) [(.t 91)], (some (81, true))⟩, ⟨(some 93), .append (t_int N) 1 8 (.t 87) (.t 92), (some (81, true))⟩, ⟨(some 94), .call (.c (.fn (f_law04_same N) [] [])) [(.t 85), (.t 93)], (some (81, true))⟩, ⟨(some 95), .pick (.t 81) (.t 94) (.c (.lit (.bool false))), none⟩, ⟨(some 4), .mov (.t 95), none⟩] [0, 0, 0, 0, 0, 0, 0, 0, 0, 0, 2, 0, 0, 2, 0, 0, 1, 1, 1, 0, 0, 0, 0, 0, 0] []
def DM_law04_TreeAround_10 (N : Nat → Nat) : AC :=
   .dops 11 [⟨(some 72), .mov (.t 9), none⟩, ⟨(some 73), .mov (.t 8), none⟩, ⟨(some 74), .eq false .pint (.t 72) (.t 73), none⟩, ⟨(some 75), .mov (.t 74), none⟩, ⟨(some 76), .mov (.t 9), (some (75, false))⟩, ⟨(some 77), .mov (.t 8), (some (75, false))⟩, ⟨(some 78), .bin .add (.t 77) (.c (.lit (.int .i64 1))), (some (75, false))⟩, ⟨(some 79), .eq false .pint (.t 76) (.t 78), (some (75, false))⟩, ⟨(some 80), .pick (.t 75) (.c (.lit (.bool true))) (.t 79), none⟩, ⟨(some 81), .mov (.t 80), none⟩, ⟨(some 82), .load (some 3) (.t 6), (some (81, true))⟩, ⟨(some 83), .mov (.t 5), (some (81, true))⟩, ⟨(some 86), .mov (.t 5), (some (81, true))⟩, ⟨(some 88), .load (some 3) (.t 2), (some (81, true))⟩, ⟨(some 89), .mov (.t 5), (some (81, true))⟩, ⟨(some 90), .bin .sub (.t 89) (.c (.lit (.int .i64 1))), (some (81, true))⟩, ⟨(some 84), .call (.c (.fn (f_tree_Walk N) [] [])) [(.t 82), (.t 83)], (some (81, true))⟩, ⟨(some 85), .call (.c (.fn (f_law04_all N) [] [])) [(.t 84)], (some (81, true))⟩, ⟨(some 91), .call (.c (.fn (f_tree_Walk N) [] [])) [(.t 88), (.t 90)], (some (81, true))⟩, ⟨(some 87), .bslice (t_int N) 1 none 1 [(.lit (.int .i64 0))] [(0, 1, (.t 86))], (some (81, true))⟩, ⟨(some 92), .call (.c (.fn (f_law04_all N) [] [])) [(.t 91)], (some (81, true))⟩, ⟨(some 93), .append (t_int N) 1 8 (.t 87) (.t 92), (some (81, true))⟩, ⟨(some 94), .call (.c (.fn (f_law04_same N) [] [])) [(.t 85), (.t 93)], (some (81, true))⟩, ⟨(some 95), .pick (.t 81) (.t 94) (.c (.lit (.bool false))), none⟩, ⟨(some 4), .mov (.t 95), none⟩] [0, 0, 0, 0, 0, 0, 0, 0, 0, 0, 2, 0, 0, 2, 0, 0, 1, 1, 0, 0, 0, 0, 0, 0, 0] []
def DM_law04_TreeAround_11 (N : Nat → Nat) : AC :=
   .dops 11 [⟨(some 72), .mov (.t 9), none⟩, ⟨(some 73), .mov (.t 8), none⟩, ⟨(some 74), .eq false .pint (.t 72) (.t 73), none⟩, ⟨(some 75), .mov (.t 74), none⟩, ⟨(some 76), .mov (.t 9), (some (75, false))⟩, ⟨(some 77), .mov (.t 8), (some (75, false))⟩, ⟨(some 78), .bin .add (.t 77) (.c (.lit (.int .i64 1))), (some (75, false))⟩, ⟨(some 79), .eq false .pint (.t 76) (.t 78), (some (75, false))⟩, ⟨(some 80), .pick (.t 75) (.c (.lit (.bool true))) (.t 79), none⟩, ⟨(some 81), .mov (.t 80), none⟩, ⟨(some 82), .load (some 3) (.t 6), (some (81, true))⟩, ⟨(some 83), .mov (.t 5), (some (81, true))⟩, ⟨(some 86), .mov (.t 5), (some (81, true))⟩, ⟨(some 88), .load (some 3) (.t 2), (some (81, true))⟩, ⟨(some 89), .mov (.t 5), (some (81, true))⟩, ⟨(some 90), .bin .sub (.t 89) (.c (.lit (.int .i64 1))), (some (81, true))⟩, ⟨(some 84), .call (.c (.fn (f_tree_Walk N) [] [])) [(.t 82), (.t 83)], (some (81, true))⟩, ⟨(some 85), .call (.c (.fn (f_law04_all N) [] [])) [(.t 84)], (some (81, true))⟩, ⟨(some 91), .call (.c (.fn (f_tree_Walk N) [] [])) [(.t 88), (.t 90)], (some (81, true))⟩, ⟨(some 92), .call (.c (.fn (f_law04_all N) [] [])) [(.t 91)], (some (81, true))⟩, ⟨(some 87), .bslice (t_int N) 1 none 1 [(.lit (.int .i64 0))] [(0, 1, (.t 86))], (some (81, true))⟩, ⟨(some 93), .append (t_int N) 1 8 (.t 87) (.t 92), (some (81, true))⟩, ⟨(some 94), .call (.c (.fn (f_law04_same N) [] [])) [(.t 85), (.t 93)], (some (81, true))⟩, ⟨(some 95), .pick (.t 81) (.t 94) (.c (.lit (.bool false))), none⟩, ⟨(some 4), .mov (.t 95), none⟩] [0, 0, 0, 0, 0, 0, 0, 0, 0, 0, 2, 0, 0, 2, 0, 0, 1, 1, 0, 0, 0, 0, 0, 0, 0] []
def DK_law04_TreeAround_2 (N : Nat → Nat) : DC :=
 .base (
  .ret)
def DK_law04_TreeAround_1 (N : Nat → Nat) : DC :=
 .seq (
  .base (
   .ops [⟨(some 54), .load (some 3) (.t 2), none⟩, ⟨(some 55), .call (.c (.fn (f_tree_Check N) [] [])) [(.t 54)], none⟩, ⟨(some 56), .eq false .pint (.t 55) (.c (.lit (.int .i64 0))), none⟩, ⟨(some 57), .mov (.t 56), none⟩, ⟨(some 58), .mov (.t 1), (some (57, true))⟩, ⟨(some 59), .call (.c (.fn (f_ref04_Name N) [] [])) [(.t 58)], (some (57, true))⟩, ⟨(some 60), .pick (.t 57) (.t 59) (.c (.lit (.bool false))), none⟩, ⟨(some 7), .mov (.t 60), none⟩])) (
 .seq (
  .base (
   .seq (
    .ops [⟨(some 61), .load (some 3) (.t 6), none⟩, ⟨(some 62), .call (.c (.fn (f_tree_Check N) [] [])) [(.t 61)], none⟩, ⟨(some 63), .eq false .pint (.t 62) (.c (.lit (.int .i64 0))), none⟩, ⟨(some 64), .mov (.t 7), none⟩, ⟨(some 65), .eq true .pbool (.t 63) (.t 64), none⟩]) (
   .cond (.t 65) (
    .seq (
     .ops [⟨(some 4), .mov (.c (.lit (.bool false))), none⟩]) (
    .ret)) (
    .skip)))) (
 .seq (
  .base (
   .seq (
    .ops [⟨(some 66), .mov (.t 7), none⟩, ⟨(some 67), .un .not (.t 66), none⟩]) (
   .cond (.t 67) (
    .seq (
     .ops [⟨(some 4), .mov (.c (.lit (.bool true))), none⟩]) (
    .ret)) (
    .skip)))) (
 .seq (
  .base (
   .dops 10 [⟨(some 68), .load (some 3) (.t 2), none⟩, ⟨(some 70), .load (some 3) (.t 6), none⟩, ⟨(some 69), .call (.c (.fn (f_tree_Depth N) [] [])) [(.t 68)], none⟩, ⟨(some 71), .call (.c (.fn (f_tree_Depth N) [] [])) [(.t 70)], none⟩, ⟨(some 8), .mov (.t 69), none⟩, ⟨(some 9), .mov (.t 71), none⟩] [2, 2, 1, 0, 0, 0] [])) (
 .seq (
  .alts [(DM_law04_TreeAround_7 N),
(DM_law04_TreeAround_8 N),
(DM_law04_TreeAround_9 N),
(DM_law04_TreeAround_10 N),
(DM_law04_TreeAround_11 N)]) (DK_law04_TreeAround_2 N)))))
def hint_law04_TreeAround : Nat → Option AltT := fun k => match k with | 4 => some (.split 3 7 .leaf (.split 0 7 (.split 3 9 (.perm [0, 1, 2, 4, 5, 6, 7, 3, 8, 9, 10, 11, 12, 13, 14, 15, 16, 17] [0, 1, 2, 7, 3, 4, 5, 6, 8, 9, 10, 11, 12, 13, 14, 15, 16, 17] .leaf) (.perm [0, 1, 2, 4, 5, 6, 7, 8, 9, 3, 10, 11, 12, 13, 14, 15, 16, 17] [0, 1, 2, 9, 3, 4, 5, 6, 7, 8, 10, 11, 12, 13, 14, 15, 16, 17] .leaf)) (.split 9 0 (.perm [1, 2, 4, 5, 6, 7, 8, 9, 0, 3, 10, 11, 12, 13, 14, 15, 16, 17] [8, 0, 1, 9, 2, 3, 4, 5, 6, 7, 10, 11, 12, 13, 14, 15, 16, 17] .leaf) (.split 3 9 (.perm [1, 2, 4, 5, 6, 7, 0, 3, 8, 9, 10, 11, 12, 13, 14, 15, 16, 17] [6, 0, 1, 7, 2, 3, 4, 5, 8, 9, 10, 11, 12, 13, 14, 15, 16, 17] .leaf) (.perm [1, 2, 4, 5, 6, 7, 0, 8, 9, 3, 10, 11, 12, 13, 14, 15, 16, 17] [6, 0, 1, 9, 2, 3, 4, 5, 7, 8, 10, 11, 12, 13, 14, 15, 16, 17] .leaf))))) | 11 => some (.split 15 12 (.perm [0, 1, 2, 3, 4, 5, 6, 7, 8, 9, 10, 11, 14, 15, 12, 13, 16, 17, 18, 19, 20, 21, 22, 23, 24] [0, 1, 2, 3, 4, 5, 6, 7, 8, 9, 10, 11, 14, 15, 12, 13, 16, 17, 18, 19, 20, 21, 22, 23, 24] .leaf) (.split 15 13 (.perm [0, 1, 2, 3, 4, 5, 6, 7, 8, 9, 10, 11, 12, 14, 15, 13, 16, 17, 18, 19, 20, 21, 22, 23, 24] [0, 1, 2, 3, 4, 5, 6, 7, 8, 9, 10, 11, 12, 15, 13, 14, 16, 17, 18, 19, 20, 21, 22, 23, 24] .leaf) (.split 15 19 .leaf (.split 15 20 (.perm [0, 1, 2, 3, 4, 5, 6, 7, 8, 9, 10, 11, 12, 13, 14, 16, 17, 18, 19, 15, 20, 21, 22, 23, 24] [0, 1, 2, 3, 4, 5, 6, 7, 8, 9, 10, 11, 12, 13, 14, 19, 15, 16, 17, 18, 20, 21, 22, 23, 24] .leaf) (.perm [0, 1, 2, 3, 4, 5, 6, 7, 8, 9, 10, 11, 12, 13, 14, 16, 17, 18, 19, 20, 15, 21, 22, 23, 24] [0, 1, 2, 3, 4, 5, 6, 7, 8, 9, 10, 11, 12, 13, 14, 20, 15, 16, 17, 18, 19, 21, 22, 23, 24] .leaf))))) | _ => none
/-- azimuth/azimuthlaw04.TreeAround -/
def D_law04_TreeAround (N : Nat → Nat) : DFunc := ⟨96, [.inl 4],
 .seq (
  .base (
   .ops [⟨(some 2), .box (t_api_Tree N) (.t 0), none⟩, ⟨(some 4), .mov (.c (.lit (.bool false))), none⟩])) (
 .seq (
  .base (
   .seq (
    .ops [⟨(some 10), .call (.c (.fn (f_law04_lives N) [] [])) [], none⟩, ⟨(some 11), .un .not (.t 10), none⟩, ⟨(some 12), .mov (.t 11), none⟩, ⟨(some 13), .load (some 3) (.t 2), (some (12, false))⟩, ⟨(some 14), .call (.c (.fn (f_law04_Few N) [] [])) [(.t 13)], (some (12, false))⟩, ⟨(some 15), .un .not (.t 14), (some (12, false))⟩, ⟨(some 16), .pick (.t 12) (.c (.lit (.bool true))) (.t 15), none⟩, ⟨(some 17), .mov (.t 16), none⟩, ⟨(some 18), .faddr 0 (.t 2), (some (17, false))⟩, ⟨(some 19), .load none (.t 18), (some (17, false))⟩, ⟨(some 20), .len (.t 19), (some (17, false))⟩, ⟨(some 21), .bin .gtr (.t 20) (.c (.lit (.int .i64 50))), (some (17, false))⟩, ⟨(some 22), .pick (.t 17) (.c (.lit (.bool true))) (.t 21), none⟩, ⟨(some 23), .mov (.t 22), none⟩, ⟨(some 24), .faddr 0 (.t 2), (some (23, false))⟩, ⟨(some 25), .load none (.t 24), (some (23, false))⟩, ⟨(some 26), .len (.t 25), (some (23, false))⟩, ⟨(some 27), .eq false .pint (.t 26) (.c (.lit (.int .i64 0))), (some (23, false))⟩, ⟨(some 28), .pick (.t 23) (.c (.lit (.bool true))) (.t 27), none⟩, ⟨(some 29), .mov (.t 28), none⟩, ⟨(some 30), .mov (.t 1), (some (29, false))⟩, ⟨(some 31), .lens (.t 30), (some (29, false))⟩, ⟨(some 32), .bin .gtr (.t 31) (.c (.lit (.int .i64 50))), (some (29, false))⟩, ⟨(some 33), .pick (.t 29) (.c (.lit (.bool true))) (.t 32), none⟩]) (
   .cond (.t 33) (
    .seq (
     .ops [⟨(some 34), .call (.c (.fn (f_law04_lives N) [] [])) [], none⟩, ⟨(some 4), .mov (.t 34), none⟩]) (
    .ret)) (
    .skip)))) (
 .seq (
  .base (
   .ops [⟨(some 35), .faddr 0 (.t 2), none⟩, ⟨(some 36), .load none (.t 35), none⟩, ⟨(some 37), .len (.t 36), none⟩, ⟨(some 5), .mov (.t 37), none⟩])) (
 .seq (
  .alts [(DM_law04_TreeAround_1 N),
(DM_law04_TreeAround_2 N),
(DM_law04_TreeAround_3 N),
(DM_law04_TreeAround_4 N),
(DM_law04_TreeAround_5 N),
(DM_law04_TreeAround_6 N)]) (DK_law04_TreeAround_1 N)))), false⟩
end Go.Proofs.Eng
