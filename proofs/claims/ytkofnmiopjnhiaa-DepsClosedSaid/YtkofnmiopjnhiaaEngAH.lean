/- The engine, part AH: a summary: slices.Sorted(maps.Keys(m)), of a map keyed by texts. -/
import Derived.Test.YtkofnmiopjnhiaaEngAG
import Derived.Test.YtkofnmiopjnhiaaEngAI
import Derived.Shelf.SlIter.Nil
import Derived.Shelf.SortM.Plain
import Derived.Shelf.SortM.SortNone
set_option linter.unusedVariables false
set_option linter.unusedSimpArgs false
namespace Go.Proofs.Eng
open Go Go.RowKit Go.Shelf

/-! ### The plain sort -/
def insB (x : List UInt8) : List (List UInt8) → List (List UInt8)
  | [] => [x]
  | y :: r => if Op.bytesLess y x then y :: insB x r else x :: y :: r
def sortB : List (List UInt8) → List (List UInt8)
  | [] => []
  | x :: r => insB x (sortB r)
theorem insB_perm (x : List UInt8) : ∀ l, (insB x l).Perm (x :: l)
  | [] => List.Perm.refl _
  | y :: r => by
    unfold insB
    split
    · exact ((insB_perm x r).cons y).trans (List.Perm.swap x y r)
    · exact List.Perm.refl _
theorem sortB_perm : ∀ l, (sortB l).Perm l
  | [] => List.Perm.refl _
  | x :: r => (insB_perm x (sortB r)).trans ((sortB_perm r).cons x)
theorem insB_sorted (x : List UInt8) : ∀ l, l.Pairwise (fun a b => a ≤ b) → (insB x l).Pairwise (fun a b => a ≤ b)
  | [], _ => by simp [insB]
  | y :: r, h => by
    unfold insB
    rw [List.pairwise_cons] at h
    split
    · rename_i hc
      rw [bytesLess_eq, decide_eq_true_eq] at hc
      refine List.pairwise_cons.2 ⟨fun b hb => ?_, insB_sorted x r h.2⟩
      rcases List.mem_cons.1 ((insB_perm x r).mem_iff.1 hb) with rfl | hb
      · exact List.le_of_lt hc
      · exact h.1 b hb
    · rename_i hc
      rw [bytesLess_eq, decide_eq_true_eq] at hc
      have hxy : x ≤ y := List.not_lt.1 hc
      refine List.pairwise_cons.2 ⟨fun b hb => ?_, List.pairwise_cons.2 h⟩
      rcases List.mem_cons.1 hb with rfl | hb
      · exact hxy
      · exact List.le_trans hxy (h.1 b hb)
theorem sortB_sorted : ∀ l, (sortB l).Pairwise (fun a b => a ≤ b)
  | [] => List.Pairwise.nil
  | x :: r => insB_sorted x _ (sortB_sorted r)
theorem sortB_eq {l l' : List (List UInt8)} (h : l.Perm l') : l.mergeSort leB = sortB l' := by
  have tr : ∀ a b c : List UInt8, leB a b = true → leB b c = true → leB a c = true := fun a b c h1 h2 => by simp only [leB, decide_eq_true_eq] at *; exact List.le_trans h1 h2
  have to : ∀ a b : List UInt8, (leB a b || leB b a) = true := fun a b => by simp only [leB, Bool.or_eq_true, decide_eq_true_eq]; exact List.le_total a b
  refine List.Perm.eq_of_pairwise (le := fun a b => leB a b = true) (fun a b _ _ h1 h2 => ?_) (List.pairwise_mergeSort tr to l) ((sortB_sorted l').imp fun h => by simpa [leB] using h) (((List.mergeSort_perm l leB).trans h).trans (sortB_perm l').symm)
  simp only [leB, decide_eq_true_eq] at h1 h2
  exact List.le_antisymm h1 h2

/-! ### The contract, as the kit has it -/
structure SortedOK (P : Program) (fS fK tS : Nat) : Prop where
  enters : ∀ args w, (callFunc fS args).run P w = .ok (.enter fS args) w
  str : P.underlying tS = some .string
  run : ∀ (Bm b nn : Nat) (D0 : DataW Unit) (R : Value → Option (DataW Unit × List MemPlace)) (w : World), Bm < w.heap.size → w.cell? ⟨Bm, 0, none⟩ = some (.map (some b)) → w.ownsMap P tS R b nn D0 → Maps.size D0 ≤ maxLen → Maps.size D0 * 16 ≤ 140737488355328 →
    Calls P fS #[.func (.func fK) #[] #[.pointer (some ⟨Bm, 0, none⟩)]] w fun e w' => ∃ (v : Value) (ss : List (List UInt8)), e = .returned v ∧ ss.Perm (strKeys D0) ∧ w'.ownsRow w.heap.size tS 1 v ss.length ((ss.mergeSort leB).map encStr) ∧ (v = .slice none 0 0 ↔ ss = []) ∧ Below w.heap.size w w'
  runNil : ∀ (Bm : Nat) (w : World), Bm < w.heap.size → w.cell? ⟨Bm, 0, none⟩ = some (.map none) →
    Calls P fS #[.func (.func fK) #[] #[.pointer (some ⟨Bm, 0, none⟩)]] w fun e w' => ∃ (v : Value) (ss : List (List UInt8)), e = .returned v ∧ ss = [] ∧ w'.ownsRow w.heap.size tS 1 v ss.length ((ss.mergeSort leB).map encStr) ∧ (v = .slice none 0 0 ↔ ss = []) ∧ Below w.heap.size w w'

/-! ### The summary -/
def keysB : List (Value × AV × Nat) → Option (List (List UInt8))
  | [] => some []
  | e :: r => match e.1 with
    | .string s => if s.size ≤ maxLen then (keysB r).map (bl s :: ·) else none
    | _ => none
def sortedR (H : Hp) (tS : TypeId) (ks : List (List UInt8)) : AV × Option Hp :=
  match sortB ks with
  | [] => (avNilS, none)
  | l => (.ra 1 H.l.length 0 l.length, some (halloc H (.arr 1 (l.map avStr) tS)))
def gSorted (fS fK tS : Nat) : Sums := fun f args H =>
  if f = fS then
    match args with
    | [.fn g [] [.ptr id 0]] =>
      if g = fK then
        match hget H id with
        | some (.cells [.lit (.map none)] _) => some (avNilS, none)
        | some (.cells [.map mid] _) =>
          match hget H mid with
          | some (.map es _) =>
            match keysB es with
            | some ks => if ks.length ≤ maxLen ∧ ks.length * 16 ≤ 140737488355328 then some (sortedR H tS ks) else none
            | none => none
          | _ => none
        | _ => none
      else none
    | _ => none
  else none
theorem gSorted_inv {fS fK tS : Nat} {f : FuncId} {args : List AV} {H : Hp} {v : AV} {h : Option Hp} (e : gSorted fS fK tS f args H = some (v, h)) :
    f = fS ∧ ∃ id, args = [.fn fK [] [.ptr id 0]] ∧ ((∃ t, hget H id = some (.cells [.lit (.map none)] t) ∧ v = avNilS ∧ h = none) ∨
      ∃ t mid es clk ks, hget H id = some (.cells [.map mid] t) ∧ hget H mid = some (.map es clk) ∧ keysB es = some ks ∧ ks.length ≤ maxLen ∧ ks.length * 16 ≤ 140737488355328 ∧ (v, h) = sortedR H tS ks) := by
  unfold gSorted at e
  split at e
  · rename_i hf
    refine ⟨hf, ?_⟩
    split at e
    · rename_i g id
      split at e
      · rename_i hg
        subst hg
        refine ⟨id, rfl, ?_⟩
        split at e
        · rename_i t ho
          simp only [Option.some.injEq, Prod.mk.injEq] at e
          exact .inl ⟨t, ho, e.1.symm, e.2.symm⟩
        · rename_i mid t ho
          split at e
          · rename_i es clk hm
            split at e
            · rename_i ks hk
              split at e
              · rename_i hc
                simp only [Option.some.injEq] at e
                exact .inr ⟨t, mid, es, clk, ks, ho, hm, hk, hc.1, hc.2, e.symm⟩
              · simp at e
            · simp at e
          · simp at e
        · simp at e
      · simp at e
    · simp at e
  · simp at e

/-- New blocks, that no object stands for; some hidden. -/
theorem RelH.grown {PC : Code → AC → Prop} {ι : Io} {L : HL} {w w' : World} {xs : List Nat} (h : RelH PC ι L w) (hb : Below w.heap.size w w') (hx : ∀ k ∈ xs, w.heap.size ≤ k ∧ k < w'.heap.size) :
    RelH PC ⟨ι.l, xs ++ ι.x⟩ L w' ∧ FzLe (fzOf ι L w) (fzOf ⟨ι.l, xs ++ ι.x⟩ L w') := by
  have hf : FzLe (fzOf ι L w) (fzOf ⟨ι.l, xs ++ ι.x⟩ L w') := by
    refine ⟨fun k c t f e => ?_⟩
    rw [fzOf_some'] at e ⊢
    have hk : k < w.heap.size := (Array.getElem?_eq_some_iff.1 e.2).1
    refine ⟨⟨e.1.1, fun hm => ?_⟩, (hb.block k hk).trans e.2⟩
    rcases List.mem_append.1 hm with hm | hm
    · have := (hx k hm).1; omega
    · exact e.1.2 hm
  have hlt : ∀ (i : Nat) (o : AObj) (p : Pl), L[i]? = some (some o) → ι.l[i]? = some p → p.blk < w.heap.size := by
    intro i o p h1 h2
    have := h.obj i o p h1 h2
    cases o with
    | cells cs t => obtain ⟨c, fr, e, _⟩ := this; exact (Array.getElem?_eq_some_iff.1 e).1
    | arr sz es t => obtain ⟨c, fr, vs, e, _⟩ := this; exact (Array.getElem?_eq_some_iff.1 e).1
    | map es clk => obtain ⟨ces, e, _⟩ := this; exact (Array.getElem?_eq_some_iff.1 e).1
    | loop st pend τ ps asg body => obtain ⟨l, e, _⟩ := this; exact (Array.getElem?_eq_some_iff.1 e).1
  refine ⟨⟨h.len, fun i o p h1 h2 => ?_, h.inj, fun k hk => ?_, fun k hk => ?_⟩, hf⟩
  · exact ORel.move (ι := ι) (ι' := ⟨ι.l, xs ++ ι.x⟩) (List.prefix_refl ι.l) hf (hb.block _ (hlt i o p h1 h2)) (h.obj i o p h1 h2)
  · rcases List.mem_append.1 hk with hk | hk
    · exact (hx k hk).2
    · exact Nat.lt_of_lt_of_le (h.xlt k hk) hb.size
  · rcases List.mem_append.1 hk with hk | hk
    · rintro ⟨i, o, p, h1, h2, rfl⟩
      have := hlt i o p h1 h2
      have := (hx _ hk).1
      omega
    · exact h.xno k hk
theorem Stp.grown {PC : Code → AC → Prop} {ι : Io} {L : HL} {w w' : World} (h : RelH PC ι L w) (hb : Below w.heap.size w w') : Stp ι L w ι L w' :=
  ⟨List.prefix_refl _, hb.os, hb.tape, hb.output, hb.size, fun k hk ho => ⟨ho, hb.block k hk⟩, fun _ _ => Iff.rfl⟩

theorem keysB_rel {P : Program} {tS : Nat} (hs : P.underlying tS = some .string) {ι : Io} {fz : Fz} {R : Value → Option (DataW Unit × List MemPlace)} {d : DataW Unit × List MemPlace} (hR : ∀ v, R v = some d) : ∀ {es : List (Value × AV × Nat)} {ces : List MapEntry} {ks : List (List UInt8)}, MRel ι fz es ces → keysB es = some ks →
    (∀ x ∈ ces, ∃ y, WideElems.rd P tS R x = some y) ∧ (ces.map (WideElems.rg P tS R)).map (fun p => strOf p.1) = ks ∧ ces.length = ks.length
  | [], ces, ks, hm, hk => by
    simp only [MRel] at hm
    subst hm
    simp only [keysB, Option.some.injEq] at hk
    subst hk
    simp
  | e :: r, ces, ks, hm, hk => by
    obtain ⟨c, cr, rfl, h1, h2, h3, h4⟩ := hm
    unfold keysB at hk
    split at hk
    · rename_i s he
      split at hk
      · rename_i hsz
        obtain ⟨ks', hk', rfl⟩ := Option.map_eq_some_iff.1 hk
        obtain ⟨i1, i2, i3⟩ := keysB_rel hs hR h4 hk'
        have hc : WideElems.rd P tS R c = some (.string s.data.toList, d.1) := by
          have := WideElems.rd_mk (born := c.born) (WideMaps.keyOf_string_mk hs hsz) (hR c.val)
          rw [← this]
          congr 1
          obtain ⟨ck, cv, cb⟩ := c
          simp only at h1
          simp only [MapEntry.mk.injEq, and_true]
          rw [h1, he]
        refine ⟨fun x hx => ?_, ?_, by simp [i3]⟩
        · rcases List.mem_cons.1 hx with rfl | hx
          · exact ⟨_, hc⟩
          · exact i1 x hx
        · simp only [List.map_cons, i2]
          congr 1
          unfold WideElems.rg
          rw [hc]
          rfl
      · simp at hk
    · simp at hk

theorem flat_str : ∀ l : List (List UInt8), flat (l.map encStr) = l.map encStr
  | [] => rfl
  | x :: r => by
    have ih := flat_str r
    unfold flat at ih ⊢
    simp only [List.map_cons, List.flatMap_cons, ih]
    rfl
theorem vrels_str {ι : Io} {fz : Fz} : ∀ l : List (List UInt8), VRels ι fz (l.map avStr) (l.map encStr)
  | [] => by simp only [List.map_nil, VRels]
  | x :: r => by
    simp only [List.map_cons, VRels]
    exact ⟨_, _, rfl, by simp only [VRel]; rfl, vrels_str r⟩

theorem sorted_left {P : Program} {ι : Io} {H : Hp} {w w' : World} {tS : Nat} {ks ss : List (List UInt8)} {v : Value} (hr : RelH (PCof P) ι H.l w) (hp : ss.Perm ks) (hrow : w'.ownsRow w.heap.size tS 1 v ss.length ((ss.mergeSort leB).map encStr))
    (hn : v = .slice none 0 0 ↔ ss = []) (hb : Below w.heap.size w w') : Left P ι H.l w (sortedR H tS ks).1 ((sortedR H tS ks).2.getD H).l v w' := by
  rw [sortB_eq hp] at hrow
  have hlen : (sortB ks).length = ss.length := ((sortB_perm ks).trans hp.symm).length_eq
  unfold sortedR
  cases hk : sortB ks with
  | nil =>
    rw [hk] at hlen
    have hss : ss = [] := List.length_eq_zero_iff.1 hlen.symm
    have := hn.2 hss
    subst this
    exact ⟨ι, Stp.grown hr hb, (hr.grown (xs := []) hb (by simp)).1, by simp only [VRel]⟩
  | cons x r =>
    rw [hk] at hlen hrow
    have hss : ss ≠ [] := by rintro rfl; simp at hlen
    obtain ⟨_, hrow⟩ := hrow
    rcases hrow with ⟨rfl, _⟩ | ⟨g, cap, cur, rfl, hg, hcur, hcap, hmax, hsz, hxs⟩
    · exact absurd (hn.1 rfl) hss
    · have hlt : g < w'.heap.size := (Array.getElem?_eq_some_iff.1 hcur).1
      obtain ⟨g1, _⟩ := hr.grown (xs := [g]) hb (by simp only [List.mem_singleton, forall_eq]; exact ⟨hg, hlt⟩)
      obtain ⟨a1, a2⟩ := RelH.adopt (p := ⟨g, 0, 1, cur.size⟩) (ob := .arr 1 ((x :: r).map avStr) tS) g1 (by simp) (fun ι1 fz1 => by
        refine ⟨cur, (0, 0), (x :: r).map encStr, hcur, .inl rfl, rfl, rfl, vrels_str _, fun u hu => ?_, ?_, fun j hj => ?_⟩
        · obtain ⟨y, _, rfl⟩ := List.mem_map.1 hu
          rfl
        · simp only [List.length_map]
          omega
        · rw [flat_str] at hj ⊢
          have hj2 : j < (x :: r).length := by simpa using hj
          rw [← hxs, List.getElem?_take, if_pos (by omega)]
          simp)
      have hg0 : g ∉ ι.x := fun hm => by have := hr.xlt g hm; omega
      refine ⟨_, ⟨List.prefix_append _ _, hb.os, hb.tape, hb.output, hb.size, fun k hk2 ho => ⟨fun hc => ?_, hb.block k hk2⟩, fun k hk2 => ?_⟩, a1, ?_⟩
      · rcases (owned_alloc (ι := ι) hr.len).1 hc with hc | hc
        · exact ho hc
        · simp only at hc; omega
      · rw [List.mem_filter]
        simp only [List.cons_append, List.nil_append, List.mem_cons, bne_iff_ne, ne_eq]
        constructor
        · rintro ⟨h1 | h1, h2⟩
          · exact absurd h1 h2
          · exact h1
        · exact fun h1 => ⟨.inr h1, fun e => hg0 (e ▸ h1)⟩
      · simp only [VRel]
        refine ⟨⟨g, 0, 1, cur.size⟩, ⟨g, 0, none⟩, cap, ?_, rfl, by rw [hlen], by rw [hlen]; exact hcap, fun _ => ⟨by simp, ?_⟩⟩
        · rw [← hr.len]; simp
        · simp only; omega

theorem sorted_ok {P : Program} {fS fK tS : Nat} (S : SortedOK P fS fK tS) : GOK P (gSorted fS fK tS) := by
  refine ⟨fun f args H v h e => ?_, fun {f args H v h ι w cargs} hr ha e => ?_⟩
  · obtain ⟨_, id, _, ⟨t, _, _, rfl⟩ | ⟨t, mid, es, clk, ks, _, _, _, _, _, e⟩⟩ := gSorted_inv e
    · exact Le?.none H
    · unfold sortedR at e
      split at e
      · simp only [Prod.mk.injEq] at e; obtain ⟨_, rfl⟩ := e; exact Le?.none H
      · simp only [Prod.mk.injEq] at e; obtain ⟨_, rfl⟩ := e
        exact Le?.some (HLe.alloc H _)
  · obtain ⟨rfl, id, rfl, ee⟩ := gSorted_inv e
    clear e
    obtain ⟨u, us, e1, v1, v2⟩ := VRels_cons_inv ha
    simp only [VRels_nil] at v2
    subst v2
    simp only [VRel] at v1
    obtain ⟨fa, fb, rfl, v3, v4⟩ := v1
    simp only [VRels_nil] at v3
    obtain ⟨u2, us2, e2, v5, v6⟩ := VRels_cons_inv v4
    simp only [VRels_nil] at v6
    subst v6
    simp only [VRel] at v5
    obtain ⟨p, hp, rfl⟩ := v5
    have has : fa = #[] := by apply Array.ext'; simpa using v3
    have hbs : fb = #[.pointer (some ⟨p.blk, p.sh + 0, none⟩)] := by apply Array.ext'; simpa using e2
    have hc : cargs = #[.func (.func fK) #[] #[.pointer (some ⟨p.blk, p.sh + 0, none⟩)]] := by apply Array.ext'; rw [e1, has, hbs]
    subst hc
    rw [S.enters]
    have cell : ∀ {x : AV} {t : TypeId}, hget H id = some (.cells [x] t) → ∃ cv, VRel ι (fzOf ι H.l w) x cv ∧ p.sh = 0 ∧ p.blk < w.heap.size ∧ w.cell? ⟨p.blk, 0, none⟩ = some cv := by
      intro x t ho
      obtain ⟨c, fr, h1, h2, h3, h4, h5⟩ := hr.obj id _ p (hget_some ho) hp
      obtain ⟨cv, cs, h6, h7, h8⟩ := VRels_cons_inv h5
      simp only [VRels_nil] at h8
      subst h8
      have hcc : c = #[cv] := by apply Array.ext'; simpa using h6
      subst hcc
      exact ⟨cv, h7, h3, (Array.getElem?_eq_some_iff.1 h1).1, by simp [World.cell?, h1]⟩
    show CallsIn Fence.wide 0 P f _ w _
    rcases ee with ⟨t, ho, rfl, rfl⟩ | ⟨t, mid, es, clk, ks, ho, hm, hk, hl1, hl2, e⟩
    · obtain ⟨cv, c1, c2, c3, c4⟩ := cell ho
      simp only [VRel] at c1
      subst c1
      rw [c2]
      refine (callsIn_wide.2 (S.runNil p.blk w c3 c4)).mono fun en w' hh => ?_
      obtain ⟨v, ss, rfl, rfl, r1, r2, r3⟩ := hh
      exact sorted_left (tS := tS) (ks := []) hr (List.Perm.refl _) r1 r2 r3
    · obtain ⟨cv, c1, c2, c3, c4⟩ := cell ho
      simp only [VRel] at c1
      obtain ⟨q, hq, rfl⟩ := c1
      obtain ⟨ces, m1, m2, m3⟩ := hr.obj mid _ q (hget_some hm) hq
      obtain ⟨k1, k2, k3⟩ := keysB_rel S.str (R := fun _ => some (.lit (.bool false), [])) (fun _ => rfl) m2 hk
      have hsize : ces.size = ks.length := by rw [← k3]; simp
      have hown : w.ownsMap P tS (fun _ => some (.lit (.bool false), [])) q.blk ces.size (.map ((ces.toList.map (WideElems.rg P tS (fun _ => some ((.lit (.bool false) : DataW Unit), [])))).foldr DataW.insert [])) :=
        ⟨ces, clk, m1, ⟨by rw [hsize]; exact hl1, m3, k1⟩, Nat.le_refl _, rfl⟩
      have hlen : Maps.size (DataW.map ((ces.toList.map (WideElems.rg P tS (fun _ => some ((.lit (.bool false) : DataW Unit), [])))).foldr DataW.insert [])) = ks.length := by
        rw [Maps.size_eq, (WideShapes.sorted_perm _).length_eq, List.length_map, k3]
      have hperm : (strKeys (DataW.map ((ces.toList.map (WideElems.rg P tS (fun _ => some ((.lit (.bool false) : DataW Unit), [])))).foldr DataW.insert []))).Perm ks := by
        rw [← k2]
        exact (WideShapes.sorted_perm _).map _
      rw [c2]
      refine (callsIn_wide.2 (S.run p.blk q.blk ces.size _ _ w c3 c4 hown (by rw [hlen]; exact hl1) (by rw [hlen]; exact hl2))).mono fun en w' hh => ?_
      obtain ⟨v', ss, rfl, r0, r1, r2, r3⟩ := hh
      have := sorted_left (tS := tS) (ks := ks) hr (r0.trans hperm) r1 r2 r3
      rw [← e] at this
      exact this
end Go.Proofs.Eng
