import Derived.Test.YtkofnmiopjnhiaaEngAL
import Derived.Test.YtkofnmiopjnhiaaEngAH
import Derived.Test.YtkofnmiopjnhiaaM33
/- The engine, part AV: slices.Sort of a row of the program's own, of texts or of numbers: the kit's contract as a summary. -/
set_option linter.unusedVariables false
set_option linter.unusedSimpArgs false
namespace Go.Proofs.Eng
open Go Go.RowKit Go.Sort

/-- What the kit says of a sort. -/
structure SortRun {α : Type} [Inhabited α] (P : Program) (fS : Nat) (cv : α → Value) (srt : List α → List α) : Prop where
  enters : ∀ args w, (callFunc fS args).run P w = .ok (.enter fS args) w
  run : ∀ (blk off cap : Nat) (zs : List α) (w : World), Holds cv w blk off zs.toArray → blk < w.heap.size → zs.length < 4611686018427387904 →
    Calls P fS #[.slice (some ⟨blk, off, none⟩) zs.length cap] w fun e w' => e = .returned (.tuple #[]) ∧ ∃ n os, w' = grow (putRow cv (Sort.ahead w n) blk off (srt zs).toArray) os
  none : ∀ (p : Option Addr) (cap : Nat) (w : World), Calls P fS #[.slice p 0 cap] w fun e w' => e = .returned (.tuple #[]) ∧ w' = w
  len : ∀ l, (srt l).length = l.length

def litsOf {α : Type} (dec : AV → Option α) : List AV → Option (List α)
  | [] => some []
  | x :: r => match dec x, litsOf dec r with
    | some a, some l => some (a :: l)
    | _, _ => none

def gSort {α : Type} (fS : Nat) (cv : α → Value) (dec : AV → Option α) (srt : List α → List α) : Sums := fun f args H =>
  if f = fS then
    match args with
    | [.lit (.slice none 0 0)] => some (.tup [], none)
    | [.ra 1 id off len] => match hget H id with
      | some (.arr 1 es t) => match litsOf dec ((es.drop off).take len) with
        | some ks => if off + len ≤ es.length ∧ len < 4611686018427387904 then some (.tup [], some (hset H id (some (.arr 1 (es.take off ++ (srt ks).map (fun a => .lit (cv a)) ++ es.drop (off + len)) t)))) else none
        | none => none
      | _ => none
    | _ => none
  else none

theorem gSort_inv {α : Type} {fS : Nat} {cv : α → Value} {dec : AV → Option α} {srt : List α → List α} {f : FuncId} {args : List AV} {H : Hp} {v : AV} {h : Option Hp} (e : gSort fS cv dec srt f args H = some (v, h)) :
    f = fS ∧ v = .tup [] ∧ ((args = [avNilS] ∧ h = none) ∨ ∃ id off len es t ks, args = [.ra 1 id off len] ∧ hget H id = some (.arr 1 es t) ∧ litsOf dec ((es.drop off).take len) = some ks ∧ off + len ≤ es.length ∧ len < 4611686018427387904 ∧
      h = some (hset H id (some (.arr 1 (es.take off ++ (srt ks).map (fun a => .lit (cv a)) ++ es.drop (off + len)) t)))) := by
  unfold gSort at e
  split at e
  · rename_i hf
    refine ⟨hf, ?_⟩
    split at e
    · simp only [Option.some.injEq, Prod.mk.injEq] at e
      exact ⟨e.1.symm, .inl ⟨rfl, e.2.symm⟩⟩
    · rename_i id off len
      split at e
      · rename_i es t ho
        split at e
        · rename_i ks hk
          split at e
          · rename_i hc
            simp only [Option.some.injEq, Prod.mk.injEq] at e
            exact ⟨e.1.symm, .inr ⟨id, off, len, es, t, ks, rfl, ho, hk, hc.1, hc.2, e.2.symm⟩⟩
          · simp at e
        · simp at e
      · simp at e
    · simp at e
  · simp at e

section
variable {α : Type} {cv : α → Value} {dec : AV → Option α} {ι : Io} {fz : Fz}
theorem litsOf_map (hdec : ∀ x a, dec x = some a → x = .lit (cv a)) : ∀ {xs : List AV} {ks : List α}, litsOf dec xs = some ks → xs = ks.map fun a => .lit (cv a)
  | [], ks, h => by simp only [litsOf, Option.some.injEq] at h; subst h; rfl
  | x :: r, ks, h => by
    simp only [litsOf] at h
    split at h
    · rename_i a l h1 h2
      simp only [Option.some.injEq] at h
      subst h
      rw [List.map_cons, ← litsOf_map hdec h2, ← hdec x a h1]
    · simp at h
theorem vrels_lit (ks : List α) {vs : List Value} (h : VRels ι fz (ks.map fun a => AV.lit (cv a)) vs) : vs = ks.map cv := by
  induction ks generalizing vs with
  | nil => simpa using h
  | cons a r ih =>
    obtain ⟨u, us, rfl, h1, h2⟩ := VRels_cons_inv h
    simp only [VRel] at h1
    rw [List.map_cons, ← ih h2, h1]
theorem vrels_lit' (ks : List α) : VRels ι fz (ks.map fun a => AV.lit (cv a)) (ks.map cv) := by
  induction ks with
  | nil => simp
  | cons a r ih => simp only [List.map_cons, VRels_cons, VRel, true_and]; exact ih
end

theorem putCells_get {α : Type} [Inhabited α] (cv : α → Value) (off : Nat) (zs : List α) (c : Array Value) (j : Nat) : (putCells cv off zs.toArray c)[j]? = if off ≤ j ∧ j < off + zs.length ∧ j < c.size then (zs.map cv)[j - off]? else c[j]? := by
  unfold putCells
  rw [Array.getElem?_mapIdx]
  by_cases hj : j < c.size
  · rw [Array.getElem?_eq_getElem hj]
    simp only [Option.map_some, List.size_toArray, hj, and_true]
    split
    · rename_i h
      have h2 : j - off < zs.length := by omega
      rw [List.getElem?_map, List.getElem?_eq_getElem h2]
      simp [h2]
    · rfl
  · rw [Array.getElem?_eq_none (by omega)]
    simp [hj]

theorem sort_ok {α : Type} [Inhabited α] {P : Program} {fS : Nat} {cv : α → Value} {dec : AV → Option α} {srt : List α → List α} (S : SortRun P fS cv srt) (hdec : ∀ x a, dec x = some a → x = .lit (cv a)) (hcell : ∀ a, (cv a).cells = #[cv a]) : GOK P (gSort fS cv dec srt) := by
  refine ⟨fun f args H v h e => ?_, fun {f args H v h ι w cargs} hr ha e => ?_⟩
  · obtain ⟨_, _, ⟨_, rfl⟩ | ⟨id, off, len, es, t, ks, _, _, _, _, _, rfl⟩⟩ := gSort_inv e
    · exact Le?.none H
    · exact Le?.some (HLe.set H _ _)
  · obtain ⟨rfl, rfl, ⟨rfl, rfl⟩ | ⟨id, off, len, es, t, ks, rfl, ho, hk, hl, hl2, rfl⟩⟩ := gSort_inv e
    · obtain ⟨u, us, e1, v1, v2⟩ := VRels_cons_inv ha
      simp only [VRels_nil] at v2
      subst v2
      simp only [VRel] at v1
      subst v1
      have hc : cargs = #[.slice none 0 0] := by apply Array.ext'; rw [e1]
      subst hc
      rw [S.enters]
      show CallsIn Fence.wide 0 P f _ w _
      refine (callsIn_wide.2 (S.none none 0 w)).mono fun en w' hh => ?_
      obtain ⟨rfl, rfl⟩ := hh
      exact ⟨ι, Stp.refl _ _ _, hr, by simp only [VRel]; exact ⟨#[], rfl, by simp⟩⟩
    · obtain ⟨u, us, e1, v1, v2⟩ := VRels_cons_inv ha
      simp only [VRels_nil] at v2
      subst v2
      simp only [VRel] at v1
      obtain ⟨p, a, cap, hp, hsz, rfl, hcap, haddr⟩ := v1
      have hc : cargs = #[.slice (some a) len cap] := by apply Array.ext'; rw [e1]
      subst hc
      rw [S.enters]
      have ho' := hget_some ho
      have hlt : id < H.l.length := (List.getElem?_eq_some_iff.1 ho').1
      obtain ⟨c, fr, vs, h1, h2, h3, h4, h5, h6, h7, h8⟩ := hr.obj id _ p ho' hp
      have hseg := litsOf_map hdec hk
      have hkl : ks.length = len := by
        have := congrArg List.length hseg
        simp at this; omega
      have hvseg : VRels ι (fzOf ι H.l w) ((es.drop off).take len) ((vs.drop off).take len) := (h5.drop off).take len
      rw [hseg] at hvseg
      have hvs := vrels_lit ks hvseg
      have hall : ∀ u ∈ vs, u.cells = #[u] ∨ True := fun _ _ => .inr trivial
      have hvl := h5.length
      show CallsIn Fence.wide 0 P f _ w _
      by_cases h0 : len = 0
      · subst h0
        have hks : ks = [] := List.length_eq_zero_iff.1 hkl
        subst hks
        have hsr : srt [] = [] := List.length_eq_zero_iff.1 (S.len [])
        refine (callsIn_wide.2 (S.none (some a) cap w)).mono fun en w' hh => ?_
        obtain ⟨rfl, rfl⟩ := hh
        have hsame : es.take off ++ (srt []).map (fun a => AV.lit (cv a)) ++ es.drop (off + 0) = es := by simp [hsr]
        refine ⟨ι, ?_⟩
        have hl2 : (hset H id (some (.arr 1 es t))).l = H.l := by
          show H.l.set id _ = H.l
          apply List.ext_getElem?
          intro k
          rw [List.getElem?_set]
          by_cases hk : id = k
          · subst hk; rw [if_pos rfl, if_pos hlt, ho']
          · simp [hk]
        simp only [Option.getD_some, hsame]
        rw [hl2]
        exact ⟨Stp.refl _ _ _, hr, by simp only [VRel]; exact ⟨#[], rfl, by simp⟩⟩
      · have hcap0 : cap ≠ 0 := by omega
        obtain ⟨ha1, ha2⟩ := haddr hcap0
        subst ha1
        have hszz := hsz
        simp only [hsz, Nat.mul_one] at h7 haddr ha2 ⊢
        have hb : p.blk < w.heap.size := (Array.getElem?_eq_some_iff.1 h1).1
        have hsz1 : ∀ u ∈ vs, u.cells.size = 1 := fun u hu => by rw [h6 u hu]
        have hfl : (flat vs).length = vs.length := by rw [flat_length hsz1]; simp
        have hfg : ∀ (i : Nat) (u : Value), vs[i]? = some u → (flat vs)[i]? = u.cells[0]? := fun i u hu => by
          have := flat_get hsz1 hu 0 (by omega)
          simpa using this
        have hks_get : ∀ j, j < len → ∃ a, ks[j]? = some a ∧ vs[off + j]? = some (cv a) := by
          intro j hj
          have hj2 : j < ks.length := by omega
          refine ⟨ks[j], List.getElem?_eq_getElem hj2, ?_⟩
          have := congrArg (fun l => l[j]?) hvs
          simp only [List.getElem?_map, List.getElem?_eq_getElem hj2, Option.map_some] at this
          rw [List.getElem?_take, if_pos hj, List.getElem?_drop] at this
          exact this
        have hH : Holds cv w p.blk (p.sh + off) ks.toArray := by
          intro j hj
          simp only [List.size_toArray] at hj
          obtain ⟨a, k1, k2⟩ := hks_get j (by omega)
          have k3 := h8 (off + j) (by rw [hfl]; exact (List.getElem?_eq_some_iff.1 k2).1)
          rw [hfg _ _ k2, hcell a] at k3
          have hcl : p.sh + (off + j) < c.size := (Array.getElem?_eq_some_iff.1 (by simpa using k3)).1
          refine ⟨?_, ?_⟩
          · rw [cell_of_row' h1, Nat.add_assoc, k3]
            have : ks.toArray[j]! = a := by
              rw [getElem!_pos _ j (by simpa using hj)]
              have := (List.getElem?_eq_some_iff.1 k1).2
              simpa using this
            rw [this]
            rfl
          · simp only [World.frozen?, h1]
            exact h2.no _ (by omega)
        have hcall := S.run p.blk (p.sh + off) cap ks w hH hb (by omega)
        rw [hkl] at hcall
        refine (callsIn_wide.2 hcall).mono fun en w' hh => ?_
        obtain ⟨rfl, n, os, rfl⟩ := hh
        have hsl := S.len ks
        have hbl : (grow (putRow cv (Sort.ahead w n) p.blk (p.sh + off) (srt ks).toArray) os).heap[p.blk]? = some (.cells (putCells cv (p.sh + off) (srt ks).toArray c) t fr) := by
          rw [heap_grow_old _ _ (by simpa using hb)]
          simp only [putRow, mapBlock, Sort.ahead]
          rw [Array.getElem?_modify, if_pos rfl, h1]
          rfl
        have hoth : ∀ k, k < w.heap.size → k ≠ p.blk → (grow (putRow cv (Sort.ahead w n) p.blk (p.sh + off) (srt ks).toArray) os).heap[k]? = w.heap[k]? := fun k hk hne => by
          rw [heap_grow_old _ _ (by simpa using hk)]
          simp [putRow, mapBlock, Array.getElem?_modify, Ne.symm hne]
        have hss : (putCells cv (p.sh + off) (srt ks).toArray c).size = c.size := by simp [putCells]
        have hset := RelH.set (o' := .arr 1 (es.take off ++ (srt ks).map (fun a => .lit (cv a)) ++ es.drop (off + len)) t) hr ho' hp (w' := grow (putRow cv (Sort.ahead w n) p.blk (p.sh + off) (srt ks).toArray) os) rfl rfl rfl (by simp) hoth (fun hle => by
          have hv' : VRels ι (fzOf ι (H.l.set id (some (.arr 1 (es.take off ++ (srt ks).map (fun a => .lit (cv a)) ++ es.drop (off + len)) t))) (grow (putRow cv (Sort.ahead w n) p.blk (p.sh + off) (srt ks).toArray) os)) es vs := VRels.mono (List.prefix_refl _) hle _ _ h5
          have hvl2 : vs.length = es.length := hvl.symm
          have hnew1 : ∀ u ∈ vs.take off ++ (srt ks).map cv ++ vs.drop (off + len), u.cells.size = 1 := by
            intro u hu
            simp only [List.mem_append, List.mem_map] at hu
            rcases hu with (hu | ⟨a, _, rfl⟩) | hu
            · exact hsz1 u (List.mem_of_mem_take hu)
            · rw [hcell]; rfl
            · exact hsz1 u (List.mem_of_mem_drop hu)
          refine ⟨_, fr, vs.take off ++ (srt ks).map cv ++ vs.drop (off + len), hbl, by rw [hss]; exact h2, by rw [hss]; exact h3, hsz, ((hv'.take off).append (vrels_lit' _)).append (hv'.drop _), hnew1, ?_, fun j hj => ?_⟩
          · rw [hss]
            simp only [List.length_append, List.length_take, List.length_map, List.length_drop]
            omega
          · have hfl2 := flat_length hnew1
            have hnl : (vs.take off ++ (srt ks).map cv ++ vs.drop (off + len)).length = vs.length := by
              simp only [List.length_append, List.length_take, List.length_map, List.length_drop]
              omega
            rw [hnl] at hfl2
            have hj2 : j < vs.length := by omega
            obtain ⟨u, hu⟩ : ∃ u, (vs.take off ++ (srt ks).map cv ++ vs.drop (off + len))[j]? = some u := ⟨_, List.getElem?_eq_getElem (by rw [hnl]; exact hj2)⟩
            have hg := flat_get hnew1 hu 0 (by omega)
            simp only [Nat.mul_one, Nat.add_zero] at hg
            rw [hg, putCells_get]
            have hj3 := h8 j (by rw [hfl]; exact hj2)
            rw [hfg j _ (List.getElem?_eq_getElem hj2)] at hj3
            have hcs : p.sh + j < c.size := by omega
            by_cases hr : off ≤ j ∧ j < off + len
            · rw [if_pos ⟨by omega, by omega, hcs⟩]
              rw [List.getElem?_append_left (by simp; omega), List.getElem?_append_right (by simp; omega)] at hu
              have hm : j - (vs.take off).length = p.sh + j - (p.sh + off) := by simp; omega
              rw [hm] at hu
              rw [hu]
              rw [List.getElem?_map] at hu
              obtain ⟨a, _, rfl⟩ := Option.map_eq_some_iff.1 hu
              rw [hcell]
              rfl
            · rw [if_neg (by omega), hj3]
              have : vs[j]? = some u := by
                by_cases hlo : j < off
                · rw [List.getElem?_append_left (by simp; omega), List.getElem?_append_left (by simp; omega), List.getElem?_take, if_pos hlo] at hu
                  exact hu
                · rw [List.getElem?_append_right (by simp; omega)] at hu
                  rw [List.getElem?_drop] at hu
                  rw [← hu]
                  congr 1
                  simp; omega
              have hu2 := (List.getElem?_eq_some_iff.1 this).2
              rw [hu2]
              simp)
        refine ⟨ι, ?_⟩
        simp only [Option.getD_some]
        exact ⟨hset.2, hset.1, by simp only [VRel]; exact ⟨#[], rfl, by simp⟩⟩
end Go.Proofs.Eng
/- The engine, part AX: slices.Sort of a row of texts and insert, as summaries. -/
set_option linter.unusedVariables false
set_option linter.unusedSimpArgs false
set_option maxRecDepth 100000
namespace Go.Proofs.Eng
open Go Go.RowKit Go.Sort Go.Shelf
def decStr : AV → Option Bs
  | .lit (.string s) => some (bl s)
  | _ => none
theorem decStr_av (b : Bs) : decStr (avStr b) = some b := by
  show some (bl (mkS b)) = some b
  rw [bl_mkS]
theorem decStr_inv : ∀ x a, decStr x = some a → x = avStr a := by
  intro x a h
  unfold decStr at h
  split at h
  · rename_i s
    simp only [Option.some.injEq] at h
    subst h
    exact congrArg (fun z => AV.lit (.string z)) (mkS_bl s).symm
  · cases h
theorem decStr_lit : ∀ x a, decStr x = some a → x = .lit (encStr a) := decStr_inv
theorem litsOf_strs (ks : List Bs) : litsOf decStr (ks.map avStr) = some ks := by
  induction ks with
  | nil => rfl
  | cons a r ih => rw [List.map_cons, litsOf, decStr_av, ih]
theorem litsOf_inv {xs : List AV} {ks : List Bs} (h : litsOf decStr xs = some ks) : xs = ks.map avStr := litsOf_map decStr_lit h
theorem strSort {P : Program} {μ : Ren} (M : SlLaysM.n6 P μ) : SortRun P (μ.f 6) encStr sortB where
  enters := M.f6.enters rfl
  run := fun blk off cap zs w hH hb hl => by
    have := AnyM.slices_Sort_string M blk off cap zs w hH hb hl
    have e := sortB_eq (l := zs) (l' := zs) (.refl _)
    rw [← e]
    exact this
  none := fun p cap w => AnyM.slices_Sort_string_none M p cap w
  len := fun l => (sortB_perm l).length_eq
theorem strSort_ok {P : Program} {fS : Nat} (S : SortRun P fS encStr sortB) : GOK P (gSort fS encStr decStr sortB) := sort_ok S decStr_lit (fun _ => rfl)
theorem gSort_str (fS : Nat) (H : Hp) (id : Nat) (es : List Bs) (t : TypeId) (h : hget H id = some (.arr 1 (es.map avStr) t)) (hl : es.length < 2 ^ 40) :
    gSort fS encStr decStr sortB fS [.ra 1 id 0 es.length] H = some (.tup [], some (hset H id (some (.arr 1 ((sortB es).map avStr) t)))) := by
  have e1 : ((es.map avStr).drop 0).take es.length = es.map avStr := by
    rw [List.drop_zero, List.take_of_length_le (by simp)]
  have e2 : litsOf decStr ((es.map avStr).drop 0 |>.take es.length) = some es := by rw [e1, litsOf_strs]
  simp only [gSort, if_true, h, e2]
  rw [if_pos ⟨by simp, by omega⟩]
  have e3 : (es.map avStr).take 0 ++ (sortB es).map (fun a => AV.lit (encStr a)) ++ (es.map avStr).drop (0 + es.length) = (sortB es).map avStr := by
    rw [List.take_zero, List.nil_append, List.drop_of_length_le (by simp), List.append_nil]
    rfl
  rw [e3]
theorem gSort_nil (fS : Nat) (H : Hp) : gSort fS encStr decStr sortB fS [avNilS] H = some (.tup [], none) := by simp [gSort]

/-! ### insert -/
def rowStr (H : Hp) : AV → Option (List Bs)
  | .lit (.slice none 0 0) => some []
  | .sl 1 es => litsOf decStr es
  | .ra 1 id off n => match hget H id with
    | some (.arr 1 all _) => if off + n ≤ all.length then litsOf decStr ((all.drop off).take n) else none
    | _ => none
  | _ => none
theorem rowStr_vw {H : Hp} {x : AV} {ks : List Bs} (h : rowStr H x = some ks) : Vw H 1 x (ks.map avStr) := by
  unfold rowStr at h
  split at h
  · simp only [Option.some.injEq] at h
    subst h
    exact .inl (.inl ⟨rfl, rfl⟩)
  · rw [litsOf_inv h]
    exact .inl (.inr rfl)
  · rename_i id off n
    split at h
    · rename_i all e hg
      split at h
      · rename_i hc
        have e1 := litsOf_inv h
        have e2 : ks.length = n := by
          have := congrArg List.length e1
          simp only [List.length_take, List.length_drop, List.length_map] at this
          omega
        exact .inr ⟨id, off, e, all, by simp [e2], hg, by simpa [e2] using hc, by simp only [List.length_map, e2]; exact e1⟩
      · cases h
    · cases h
  · cases h
theorem vw_rowStr {H : Hp} {x : AV} {ks : List Bs} (h : Vw H 1 x (ks.map avStr)) : rowStr H x = some ks := by
  rcases h with (⟨rfl, h2⟩ | rfl) | ⟨id, off, e, all, rfl, hg, hc, hr⟩
  · have : ks = [] := by simpa using h2
    subst this; rfl
  · exact litsOf_strs ks
  · simp only [rowStr, hg]
    rw [if_pos hc, hr, litsOf_strs]
def gIns (fI : Nat) : Sums := fun f args H =>
  if f = fI then
    match args with
    | [x, .lit (.string s)] => match rowStr H x with
      | some ks => if ks.length < 2 ^ 30 then some (insR x ks (bl s)) else none
      | none => none
    | _ => none
  else none
theorem gIns_ok {P : Program} {Γ : Sums} {A : Tab} {N : Nat → Nat} {D : FuncId → Option DFunc} {fI : Nat} (hΓ : GOK P Γ) (hT : TOK P A) (hD : TOKD P D) (hI : D fI = some (D_law24_insert N)) : GOK P (gIns fI) := by
  refine spec_ok hΓ hT hD fun f args H v g e => ?_
  unfold gIns at e
  split at e
  · rename_i hf
    split at e
    · rename_i x s
      split at e
      · rename_i ks hk
        split at e
        · rename_i hl
          simp only [Option.some.injEq] at e
          have hg : g = none := by
            unfold insR at e
            split at e <;> (cases e; rfl)
          subst hg
          refine ⟨Le?.none H, _, by rw [hf]; exact hI, ?_⟩
          have := insert_run (C := noC) (Γ := Γ) (A := A) (N := N) (s := bl s) (rowStr_vw hk) hl
          rw [e] at this
          rw [show AV.lit (.string s) = avStr (bl s) from congrArg (fun z => AV.lit (.string z)) (mkS_bl s).symm]
          exact this
        · cases e
      · cases e
    · cases e
  · cases e
theorem gIns_call {fI : Nat} {H : Hp} {x : AV} {ks : List Bs} (h : Vw H 1 x (ks.map avStr)) (hl : ks.length < 2 ^ 30) (s : Bs) : gIns fI fI [x, avStr s] H = some (insR x ks s) := by
  show (if fI = fI then _ else _) = _
  rw [if_pos rfl]
  show (match rowStr H x with | some ks => if ks.length < 2 ^ 30 then some (insR x ks (bl (mkS s))) else none | none => none) = _
  rw [vw_rowStr h]
  simp only
  rw [if_pos hl, bl_mkS]
end Go.Proofs.Eng
