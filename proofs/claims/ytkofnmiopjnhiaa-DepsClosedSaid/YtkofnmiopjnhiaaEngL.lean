/- The engine, part L: maps. -/
import Derived.Test.YtkofnmiopjnhiaaEngK
set_option linter.unusedVariables false
set_option linter.unusedSimpArgs false
namespace Go.Proofs.Eng
open Go Go.RowKit

section
variable {P : Program} {PC : Code → AC → Prop} {ι : Io} {w : World} {fz : Fz}

theorem pKD_prim {kt : TypeId} {kd : KD} (h : pKD P kt = some kd) : (∃ desc, P.underlying kt = some desc ∧ (∀ k e b, kSame kd k e = some b → Instr.sameNow desc k e = some b) ∧ (∀ k, kOk kd k = true → ∀ b n w, (Instr.checkKey b (n + 1) kt k).run P w = .ok () w)) ∨
    ∃ d fs, kd = .agg d ∧ P.underlying kt = some (.struct fs) ∧ pEq P 16 kt = some d := by
  unfold pKD at h
  split at h
  · rename_i j hu
    simp only [Option.some.injEq] at h; subst h
    refine .inl ⟨_, hu, fun k e b h => ?_, fun k h b n w => ?_⟩
    · cases k <;> cases e <;> first | exact h | simp [kSame] at h
    · cases k <;> first | (simp [Instr.checkKey, run_underlying' hu]; done) | simp [kOk] at h
  · rename_i hu
    simp only [Option.some.injEq] at h; subst h
    refine .inl ⟨_, hu, fun k e b h => ?_, fun k h b n w => ?_⟩
    · cases k <;> cases e <;> first
        | (simp only [kSame, Option.some.injEq] at h; simp only [Instr.sameNow, Option.some.injEq]; rw [beq_toListBytes, toList_eq_bl, toList_eq_bl]; exact h)
        | simp [kSame] at h
    · cases k <;> first | (simp [Instr.checkKey, run_underlying' hu]; done) | simp [kOk] at h
  · rename_i hu
    simp only [Option.some.injEq] at h; subst h
    refine .inl ⟨_, hu, fun k e b h => ?_, fun k h b n w => ?_⟩
    · cases k <;> cases e <;> first | exact h | simp [kSame] at h
    · cases k <;> first | (simp [Instr.checkKey, run_underlying' hu]; done) | simp [kOk] at h
  · rename_i fs hu
    obtain ⟨d, hd, rfl⟩ := Option.map_eq_some_iff.1 h
    exact .inr ⟨d, fs, rfl, hu, hd⟩
  · simp at h

theorem kSame_bits {kd : KD} {k e : Value} (h : kSame kd k e = some true) : Instr.sameBits 10000 e k = true := by
  unfold kSame at h
  split at h
  · split at h
    · rename_i hk; subst hk
      simp at h; subst h
      simp [Instr.sameBits]
    · simp at h
  · simp at h
    rename_i a b
    have : a = b := by
      have := congrArg mkS h
      simpa using this
    subst this
    simp only [Instr.sameBits, beq_toListBytes, beq_self_eq_true]
  · simp at h; subst h; simp [Instr.sameBits]
  · split at h
    · split at h
      · assumption
      · simp at h
    · simp at h
    · simp at h
  · simp at h

theorem eq_of_zip {α : Type} : ∀ {l m : List α}, l.length = m.length → (∀ a b, (a, b) ∈ l.zip m → a = b) → l = m
  | [], [], _, _ => rfl
  | [], _ :: _, h, _ => by simp at h
  | _ :: _, [], h, _ => by simp at h
  | x :: l, y :: m, h, hz => by
    rw [hz x y (by simp), eq_of_zip (l := l) (m := m) (by simpa using h) fun a b hab => hz a b (by simp [hab])]

theorem sameBits_eq : ∀ (n : Nat) (a b : Value), Instr.sameBits n a b = true → a = b := by
  have hstr : ∀ s t : ByteArray, (s == t) = true → s = t := by
    intro s t h
    rw [beq_toListBytes, toList_eq_bl, toList_eq_bl] at h
    have := congrArg mkS (eq_of_beq h)
    simpa using this
  intro n
  induction n with
  | zero =>
    intro a b h
    cases a <;> cases b <;> simp_all [Instr.sameBits]
    exact hstr _ _ h
  | succ n ih =>
    intro a b h
    cases a <;> cases b <;> simp_all [Instr.sameBits]
    · exact hstr _ _ h
    · exact ih _ _ h.2
    · exact Array.ext' (eq_of_zip (by simpa using h.1) fun a b hab => ih a b (h.2 a b hab))

theorem aeqs_refl {xs : List AV} : ∀ (fs : List (Nat × Option Nat × EqD)), (fs.all fun f => f.2.1.isNone && f.2.2.plain) = true → aeqs fs xs xs ≠ some false
  | [], _ => by simp [aeqs]
  | (off, n, d) :: r, h => by
    simp only [List.all_cons, Bool.and_eq_true] at h
    have ih := aeqs_refl (xs := xs) r h.2
    simp only [aeqs]
    split
    · rename_i x y e1 e2
      rw [e1] at e2; cases e2
      split
      · exact ih
      · rename_i hf
        exfalso
        have hp := h.1.2
        cases d <;> first
          | (simp [EqD.plain] at hp; done)
          | skip
        all_goals
          simp only [aeq, aprim] at hf
          cases x <;> first
            | (simp [eqB, eqI, eqSt] at hf; done)
            | skip
          rename_i v
          cases v <;> simp [eqB, eqI, eqSt] at hf
      · simp
    · simp

theorem kSame_refl {kd : KD} {k : Value} (hok : kOk kd k = true) : kSame kd k k ≠ some false := by
  unfold kSame
  split
  · simp
  · simp
  · simp
  · rename_i d
    have : aeq d (AV.ofV k) (AV.ofV k) ≠ some false := by
      obtain ⟨fs, rfl⟩ : ∃ fs, d = .struct fs := by
        cases d <;> first
          | exact ⟨_, rfl⟩
          | (exfalso; cases k <;> simp [kOk] at hok)
      obtain ⟨cs, rfl⟩ : ∃ cs, k = .agg cs := by
        cases k <;> first
          | exact ⟨_, rfl⟩
          | (exfalso; simp [kOk] at hok; done)
      simp only [kOk] at hok
      simp only [AV.ofV, aeq]
      refine aeqs_refl fs (List.all_eq_true.2 fun f hf => ?_)
      have := List.all_eq_true.1 hok f hf
      simp only [Bool.and_eq_true] at this ⊢
      exact this.1
    split
    · split <;> simp
    · rename_i h; exact absurd h this
    · simp
  · simp

/-- A key that isn't found is none of those that are there. -/
theorem kFind_ne {kd : KD} {k : Value} (hok : kOk kd k = true) : ∀ {es : List (Value × AV × Nat)} {ces : List MapEntry}, MRel ι fz es ces → kFind kd k es = some none → ∀ x ∈ ces, x.key ≠ k
  | [], ces, h, _ => by simp only [MRel] at h; subst h; simp
  | e :: es, ces, h, hf => by
    obtain ⟨c, r, rfl, h1, h2, h3, h4⟩ := h
    simp only [kFind] at hf
    split at hf
    · simp at hf
    · rename_i hs
      intro x hx
      rcases List.mem_cons.1 hx with rfl | hx
      · intro he
        rw [h1] at he
        rw [he] at hs
        exact kSame_refl hok hs
      · refine kFind_ne hok h4 ?_ x hx
        cases hk : kFind kd k es with
        | none => rw [hk] at hf; simp at hf
        | some q => rw [hk] at hf; simp at hf; cases q <;> simp at hf; rfl
    · simp at hf

theorem EqD.plain_run {n m : Nat} {t : TypeId} {d : EqD} {v : Value} {b : Bool} (hp : pEq P n t = some d) (hd : d.plain = true) : (Instr.checkKey b (m + 1) t v).run P w = .ok () w := by
  cases n with
  | zero => simp [pEq] at hp
  | succ n =>
    simp only [pEq] at hp
    split at hp <;> first
      | (rename_i hu; simp only [Option.some.injEq] at hp; subst hp; first | (simp [EqD.plain] at hd; done) | (cases v <;> simp [Instr.checkKey, run_underlying' hu]))
      | skip
    · split at hp
      · simp at hp
      · obtain ⟨q, _, rfl⟩ := Option.map_eq_some_iff.1 hp
        simp [EqD.plain] at hd
    · simp at hp

theorem run_checkFields {n : Nat} {b : Bool} {m : Nat} {xs : List AV} {cs : Array Value} (hx : VRels ι fz xs cs.toList) : ∀ (l : List Field) (q : List (Nat × Option Nat × EqD)),
    (l.filter (fun (f : Field) => f.name ≠ "_")).mapM (fun (f : Field) => (pLay P f.type).bind fun lay => (pEq P n f.type).bind fun d => some (f.offset, lay, d)) = some q →
    (q.all fun f => f.2.1.isNone && f.2.2.plain && decide (f.1 < cs.size)) = true →
    (forIn (m := Sem) l PUnit.unit fun f _ => do
      if f.name ≠ "_" then
        let v ← part f.type cs f.offset
        Instr.checkKey b (m + 1) f.type v
        pure (.yield PUnit.unit)
      else pure (.yield PUnit.unit)).run P w = .ok PUnit.unit w
  | [], q, _, _ => by simp
  | f :: l, q, hq, ha => by
    by_cases hname : f.name = "_"
    · simp only [List.filter_cons, hname, ne_eq, not_true_eq_false, decide_false, Bool.false_eq_true, if_false] at hq
      have := run_checkFields (b := b) (m := m) hx l q hq ha
      simp only [List.forIn_cons, hname, ne_eq, not_true_eq_false, if_false, Sem.run_bind, Sem.run_pure, Result.andThen_ok]
      exact this
    · have hfil : List.filter (fun (f : Field) => decide (f.name ≠ "_")) (f :: l) = f :: List.filter (fun (f : Field) => decide (f.name ≠ "_")) l := by simp [List.filter_cons, hname]
      rw [hfil] at hq
      obtain ⟨y1, ys1, h1, h2, rfl⟩ := mapM_cons_some hq
      obtain ⟨lay, hlay, h1⟩ := Option.bind_eq_some_iff.1 h1
      obtain ⟨d1, hd1, h1⟩ := Option.bind_eq_some_iff.1 h1
      simp at h1; subst h1
      simp only [List.all_cons, Bool.and_eq_true] at ha
      obtain ⟨⟨⟨a1, a2⟩, a3⟩, a4⟩ := ha
      have ih := run_checkFields (b := b) (m := m) hx l ys1 h2 a4
      have hlt : f.offset < xs.length := by rw [hx.length]; simpa using a3
      simp only [Option.isNone_iff_eq_none] at a1
      subst a1
      obtain ⟨c1, p1, v1⟩ := apart_sound (P := P) (w := w) (off := f.offset) (v := xs[f.offset]) hlay hx (by simp [apart, hlt])
      simp only [List.forIn_cons, hname, ne_eq, not_false_eq_true, if_true, Sem.run_bind, p1, Result.andThen_ok, EqD.plain_run hd1 a2, Sem.run_pure]
      exact ih

theorem run_checkKey' {kt : TypeId} {kd : KD} {k : Value} (ht : pKD P kt = some kd) (h : kOk kd k = true) (b : Bool) (n : Nat) : (Instr.checkKey b (n + 2) kt k).run P w = .ok () w := by
  rcases pKD_prim ht with ⟨desc, hu, _, h2⟩ | ⟨d, fs, rfl, hu, hd⟩
  · exact h2 k h b (n + 1) w
  · obtain ⟨ds, rfl⟩ : ∃ ds, d = .struct ds := by
      cases d <;> first | exact ⟨_, rfl⟩ | (cases k <;> exact absurd h (by simp [kOk]))
    obtain ⟨cs, rfl⟩ : ∃ cs, k = .agg cs := by
      cases k <;> first | exact ⟨_, rfl⟩ | exact absurd h (by simp [kOk])
    simp only [kOk] at h
    obtain ⟨m16, hm16⟩ : ∃ m, 16 = m + 1 := ⟨15, rfl⟩
    rw [hm16] at hd
    simp only [pEq, hu] at hd
    split at hd
    · simp at hd
    · obtain ⟨q, hq, e⟩ := Option.map_eq_some_iff.1 hd
      injection e with e; subst e
      have := run_checkFields (P := P) (w := w) (ι := ⟨[], []⟩) (fz := fun _ => none) (n := m16) (b := b) (m := n) (xs := cs.toList.map .lit) (cs := cs) (VRels_lits _) fs.toList q (by simpa using hq) h
      rw [Instr.checkKey]
      rw [Sem.run_bind, run_underlying' hu, Result.andThen_ok]
      simp only [Array.forIn_toList] at this
      simpa using this

theorem findAsking_none {kt : TypeId} {d : EqD} {k : Value} (hd : pEq P 16 kt = some d) : ∀ {es : List (Value × AV × Nat)} {ces : List MapEntry} (i : Nat), MRel ι fz es ces → kFind (.agg d) k es = some none → (Instr.findAsking kt k ces i).run P w = .ok none w
  | [], ces, i, h, _ => by simp only [MRel] at h; subst h; simp [Instr.findAsking]
  | e :: es, ces, i, h, hf => by
    obtain ⟨c, r, rfl, h1, h2, h3, h4⟩ := h
    simp only [kFind] at hf
    split at hf
    · simp at hf
    · rename_i hs
      have hq : aeq d (AV.ofV k) (AV.ofV e.1) = some false := by
        unfold kSame at hs; simp only at hs
        split at hs
        · split at hs <;> simp at hs
        · assumption
        · simp at hs
      have := aeq_sound (P := P) (w := w) 16 (fuel := Op.maxDepth) (by decide) hd (VRel_ofV (ι := ι) (fz := fz) k) (VRel_ofV (ι := ι) (fz := fz) e.1) hq
      simp only [Instr.findAsking, Op.equal, h1, Sem.run_bind, this, Result.andThen_ok, Bool.false_eq_true, if_false]
      refine findAsking_none hd (i + 1) h4 ?_
      cases hk : kFind (.agg d) k es with
      | none => rw [hk] at hf; simp at hf
      | some q => rw [hk] at hf; simp at hf; cases q <;> simp at hf; rfl
    · simp at hf

theorem findKey_none {kt : TypeId} {kd : KD} {k : Value} (ht : pKD P kt = some kd) {es : List (Value × AV × Nat)} {ces : List MapEntry} (hM : MRel ι fz es ces) (hf : kFind kd k es = some none) : (Instr.findKey kt k ces).run P w = .ok none w := by
  rcases pKD_prim ht with ⟨desc, hu, h1, h2⟩ | ⟨d, fs, rfl, hu, hd⟩
  · have key : ∀ {es : List (Value × AV × Nat)} {ces : List MapEntry} (i : Nat), MRel ι fz es ces → kFind kd k es = some none → Instr.findNow desc k ces i = some none := by
      intro es
      induction es with
      | nil => intro ces i h _; simp only [MRel] at h; subst h; rfl
      | cons e es ih =>
        intro ces i h hf
        obtain ⟨c, r, rfl, g1, g2, g3, g4⟩ := h
        simp only [kFind] at hf
        split at hf
        · simp at hf
        · rename_i hs
          simp only [Instr.findNow, g1, h1 _ _ _ hs]
          refine ih (i + 1) g4 ?_
          cases hk : kFind kd k es with
          | none => rw [hk] at hf; simp at hf
          | some q => rw [hk] at hf; simp at hf; cases q <;> simp at hf; rfl
        · simp at hf
    simp [Instr.findKey, run_underlying' hu, key 0 hM hf]
  · have hn : Instr.findNow (.struct fs) k ces 0 = some none ∨ Instr.findNow (.struct fs) k ces 0 = none := by
      cases ces with
      | nil => exact .inl rfl
      | cons c r => right; simp [Instr.findNow, Instr.sameNow]
    rcases hn with hn | hn
    · simp [Instr.findKey, run_underlying' hu, hn]
    · simp [Instr.findKey, run_underlying' hu, hn, findAsking_none hd 0 hM hf]

structure Found (ι : Io) (fz : Fz) (kd : KD) (k : Value) (es : List (Value × AV × Nat)) (ces : List MapEntry) (j : Nat) (v : AV) (c : MapEntry) (q : Value × AV × Nat) : Prop where
  ce : ces[j]? = some c
  ee : es[j]? = some q
  key : c.key = q.1
  born : c.born = q.2.2
  val : q.2.1 = v
  rel : VRel ι fz v c.val
  same : kSame kd k q.1 = some true

theorem findKey_some {kt : TypeId} {kd : KD} {k : Value} (ht : pKD P kt = some kd) {es : List (Value × AV × Nat)} {ces : List MapEntry} {j : Nat} {v : AV} (hM : MRel ι fz es ces) (hf : kFind kd k es = some (some (j, v))) :
    ∃ c q, Found ι fz kd k es ces j v c q ∧ (Instr.findKey kt k ces).run P w = .ok (some (j, c.val)) w := by
  have key : ∀ {es : List (Value × AV × Nat)} {ces : List MapEntry} {j : Nat} {v : AV} (i : Nat), MRel ι fz es ces → kFind kd k es = some (some (j, v)) →
      ∃ c q, Found ι fz kd k es ces j v c q ∧ (∀ desc, (∀ k e b, kSame kd k e = some b → Instr.sameNow desc k e = some b) → Instr.findNow desc k ces i = some (some (i + j, c.val))) ∧
        (∀ d, kd = .agg d → pEq P 16 kt = some d → (Instr.findAsking kt k ces i).run P w = .ok (some (i + j, c.val)) w) := by
    intro es
    induction es with
    | nil => intro ces j v i h hf; simp [kFind] at hf
    | cons e es ih =>
      intro ces j v i h hf
      obtain ⟨c, r, rfl, g1, g2, g3, g4⟩ := h
      simp only [kFind] at hf
      split at hf
      · rename_i hs
        simp at hf
        obtain ⟨rfl, rfl⟩ := hf
        refine ⟨c, e, ⟨by simp, by simp, g1, g2, rfl, g3, hs⟩, fun desc hd => by simp [Instr.findNow, g1, hd _ _ _ hs], fun d hkd hd => ?_⟩
        subst hkd
        have hq : aeq d (AV.ofV k) (AV.ofV e.1) = some true := by
          unfold kSame at hs; simp only at hs
          split at hs
          · assumption
          · simp at hs
          · simp at hs
        have := aeq_sound (P := P) (w := w) 16 (fuel := Op.maxDepth) (by decide) hd (VRel_ofV (ι := ι) (fz := fz) k) (VRel_ofV (ι := ι) (fz := fz) e.1) hq
        simp [Instr.findAsking, Op.equal, g1, Sem.run_bind, this]
      · rename_i hs
        cases hk : kFind kd k es with
        | none => rw [hk] at hf; simp at hf
        | some q =>
          rw [hk] at hf
          simp at hf
          cases q with
          | none => simp at hf
          | some q =>
            simp at hf
            obtain ⟨w0, rfl, rfl⟩ := hf
            obtain ⟨c', q', a1, a2, a3⟩ := ih (i + 1) g4 hk
            refine ⟨c', q', ⟨by simpa using a1.ce, by simpa using a1.ee, a1.key, a1.born, a1.val, a1.rel, a1.same⟩, fun desc hd => ?_, fun d hkd hd => ?_⟩
            · simp only [Instr.findNow, g1, hd _ _ _ hs, a2 desc hd]
              congr 3; omega
            · have a4 := a3 d hkd hd
              subst hkd
              have hq : aeq d (AV.ofV k) (AV.ofV e.1) = some false := by
                unfold kSame at hs; simp only at hs
                split at hs
                · split at hs <;> simp at hs
                · assumption
                · simp at hs
              have := aeq_sound (P := P) (w := w) 16 (fuel := Op.maxDepth) (by decide) hd (VRel_ofV (ι := ι) (fz := fz) k) (VRel_ofV (ι := ι) (fz := fz) e.1) hq
              simp only [Instr.findAsking, Op.equal, g1, Sem.run_bind, this, Result.andThen_ok, Bool.false_eq_true, if_false, a4]
              congr 3; omega
      · simp at hf
  rcases pKD_prim ht with ⟨desc, hu, h1, h2⟩ | ⟨d, fs, rfl, hu, hd⟩
  · obtain ⟨c, q, a1, a2, a3⟩ := key 0 hM hf
    refine ⟨c, q, a1, ?_⟩
    have := a2 desc h1
    rw [Nat.zero_add] at this
    simp [Instr.findKey, run_underlying' hu, this]
  · obtain ⟨c, q, a1, a2, a3⟩ := key 0 hM hf
    refine ⟨c, q, a1, ?_⟩
    have a4 := a3 d rfl hd
    rw [Nat.zero_add] at a4
    have hn : Instr.findNow (.struct fs) k ces 0 = none := by
      cases ces with
      | nil => have := a1.ce; simp at this
      | cons c r => simp [Instr.findNow, Instr.sameNow]
    simp [Instr.findKey, run_underlying' hu, hn, a4]

theorem MRel.length : ∀ {es : List (Value × AV × Nat)} {ces : List MapEntry}, MRel ι fz es ces → es.length = ces.length
  | [], ces, h => by simp only [MRel] at h; subst h; rfl
  | e :: es, ces, h => by
    obtain ⟨c, r, rfl, h1, h2, h3, h4⟩ := h
    simp [h4.length]

theorem MRel.push : ∀ {es : List (Value × AV × Nat)} {ces : List MapEntry} {k : Value} {v : AV} {cv : Value} {n : Nat}, MRel ι fz es ces → VRel ι fz v cv → MRel ι fz (es ++ [(k, v, n)]) (ces ++ [{ key := k, val := cv, born := n }])
  | [], ces, k, v, cv, n, h, hv => by
    simp only [MRel] at h; subst h
    exact ⟨_, _, rfl, rfl, rfl, hv, rfl⟩
  | e :: es, ces, k, v, cv, n, h, hv => by
    obtain ⟨c, r, rfl, h1, h2, h3, h4⟩ := h
    exact ⟨c, _, rfl, h1, h2, h3, h4.push hv⟩

theorem MRel.modify : ∀ {es : List (Value × AV × Nat)} {ces : List MapEntry} {k : Value} {v : AV} {cv : Value} (j : Nat), MRel ι fz es ces → VRel ι fz v cv →
    MRel ι fz (es.modify j fun e => (k, v, e.2.2)) (ces.modify j fun e => { e with key := k, val := cv })
  | [], ces, k, v, cv, j, h, hv => by simp only [MRel] at h; subst h; simp [MRel]
  | e :: es, ces, k, v, cv, 0, h, hv => by
    obtain ⟨c, r, rfl, h1, h2, h3, h4⟩ := h
    simp only [List.modify_zero_cons]
    exact ⟨_, _, rfl, rfl, h2, hv, h4⟩
  | e :: es, ces, k, v, cv, j + 1, h, hv => by
    obtain ⟨c, r, rfl, h1, h2, h3, h4⟩ := h
    simp only [List.modify_succ_cons]
    exact ⟨c, _, rfl, h1, h2, h3, h4.modify j hv⟩

theorem MRel.erase : ∀ {es : List (Value × AV × Nat)} {ces : List MapEntry} (j : Nat), MRel ι fz es ces → MRel ι fz (es.eraseIdx j) (ces.eraseIdx j)
  | [], ces, j, h => by simp only [MRel] at h; subst h; simp [MRel]
  | e :: es, ces, 0, h => by
    obtain ⟨c, r, rfl, h1, h2, h3, h4⟩ := h
    simpa using h4
  | e :: es, ces, j + 1, h => by
    obtain ⟨c, r, rfl, h1, h2, h3, h4⟩ := h
    simp only [List.eraseIdx_cons_succ]
    exact ⟨c, _, rfl, h1, h2, h3, h4.erase j⟩

/-- The block of a map. -/
theorem map_at {H : Hp} {id : Nat} {es : List (Value × AV × Nat)} {clk : Nat} {m : AV} {cm : Value} (hr : RelH PC ι H.l w) (hm : VRel ι (fzOf ι H.l w) (.map id) cm) (ho : hget H id = some (.map es clk)) :
    ∃ p ces, ι.l[id]? = some p ∧ cm = .map (some p.blk) ∧ w.heap[p.blk]? = some (.map ces clk) ∧ MRel ι (fzOf ι H.l w) es ces.toList ∧ MapKept.Stamped ces clk := by
  simp only [VRel] at hm
  obtain ⟨p, hp, rfl⟩ := hm
  obtain ⟨ces, h1, h2, h3⟩ := hr.obj _ _ _ (hget_some ho) hp
  exact ⟨p, ces, hp, rfl, h1, h2, h3⟩

theorem run_getMap {r : Nat} {es : Array MapEntry} {clk : Nat} (h : w.heap[r]? = some (.map es clk)) : (getObj r).run P w = .ok (.map es clk) w := by
  simp [getObj, Sem.run, h]

def setObjW (w : World) (r : Nat) (o : Obj) : World := { w with heap := w.heap.setIfInBounds r o }
theorem run_setMap {r : Nat} {es : Array MapEntry} {clk : Nat} {o : Obj} (h : w.heap[r]? = some (.map es clk)) : (setObj r o).run P w = .ok () (setObjW w r o) := by
  simp [setObj, Sem.run, h, setObjW]
theorem setObjW_same {r : Nat} {o : Obj} (h : r < w.heap.size) : (setObjW w r o).heap[r]? = some o := by simp [setObjW, h]
theorem setObjW_other {r k : Nat} {o : Obj} (h : k ≠ r) : (setObjW w r o).heap[k]? = w.heap[k]? := by
  simp only [setObjW]
  rw [Array.getElem?_setIfInBounds_ne (by omega)]

/-- A map's block written. -/
theorem map_put {H : Hp} {id : Nat} {es es' : List (Value × AV × Nat)} {clk clk' : Nat} {p : Pl} {ces ces' : Array MapEntry} (hr : RelH PC ι H.l w) (ho : hget H id = some (.map es clk)) (hp : ι.l[id]? = some p)
    (hb : w.heap[p.blk]? = some (.map ces clk)) (hm : MRel ι (fzOf ι H.l w) es' ces'.toList) (hs : MapKept.Stamped ces' clk') :
    RelH PC ι (H.l.set id (some (.map es' clk'))) (setObjW w p.blk (.map ces' clk')) ∧ Stp ι H.l w ι (H.l.set id (some (.map es' clk'))) (setObjW w p.blk (.map ces' clk')) := by
  have hlt := (Array.getElem?_eq_some_iff.1 hb).1
  exact hr.set (o' := .map es' clk') (hget_some ho) hp rfl rfl rfl (by simp [setObjW]) (fun k _ hne => setObjW_other hne) (fun hle => ⟨ces', setObjW_same hlt, hm.mono (List.prefix_refl _) hle, hs⟩)

theorem lookup_sound {H : Hp} {t kt e : TypeId} {kd : KD} {z : Value} {k : Value} {m v : AV} {cm : Value} {ok : Bool} (hr : RelH PC ι H.l w) (ht : P.underlying t = some (.map kt e)) (hk : pKD P kt = some kd)
    (hz : pZero P e = some z) (hok : kOk kd k = true) (hm : VRel ι (fzOf ι H.l w) m cm) (h : aLookup H kd (AV.ofV z) ok k m = some v) :
    ∃ cv, (Instr.lookup t cm k ok).run P w = .ok cv w ∧ VRel ι (fzOf ι H.l w) v cv := by
  have fin : ∀ (x : AV) (cx : Value) (b : Bool), VRel ι (fzOf ι H.l w) x cx → VRel ι (fzOf ι H.l w) (if ok then .tup [x, avBool b] else x) (if ok then .tuple #[cx, .bool b] else cx) := by
    intro x cx b hx
    cases ok
    · simpa using hx
    · simp only [if_true, VRel]
      exact ⟨_, rfl, by simp [hx, VRel]⟩
  unfold aLookup at h
  split at h
  · simp only [VRel] at hm; subst hm
    simp only [Option.some.injEq] at h; subst h
    exact ⟨_, by simp [Instr.lookup, run_underlying' ht, run_checkKey' hk hok, findKey_none (ι := ι) (fz := fzOf ι H.l w) (w := w) hk (es := []) (ces := []) rfl rfl, run_zero' hz], fin _ _ _ (VRel_ofV z)⟩
  · rename_i id
    split at h
    case h_2 => simp at h
    rename_i es clk ho
    obtain ⟨p, ces, hp, rfl, hb, hM, hS⟩ := map_at (m := .map id) hr hm ho
    split at h
    · rename_i q hq
      obtain ⟨j, x⟩ := q
      simp only [Option.some.injEq] at h; subst h
      obtain ⟨c, q', hF, a8⟩ := findKey_some (P := P) (w := w) hk hM hq
      exact ⟨_, by simp [Instr.lookup, run_underlying' ht, run_getMap hb, run_checkKey' hk hok, a8], fin _ _ _ hF.rel⟩
    · rename_i hq
      simp only [Option.some.injEq] at h; subst h
      have := findKey_none (P := P) (w := w) hk hM hq
      exact ⟨_, by simp [Instr.lookup, run_underlying' ht, run_getMap hb, run_checkKey' hk hok, this, run_zero' hz], fin _ _ _ (VRel_ofV z)⟩
    · simp at h
  · simp at h

theorem mapupd_sound {H H' : Hp} {t kt e : TypeId} {kd : KD} {k : Value} {v m : AV} {cm cv : Value} (hr : RelH PC ι H.l w) (ht : P.underlying t = some (.map kt e)) (hk : pKD P kt = some kd)
    (hok : kOk kd k = true) (hm : VRel ι (fzOf ι H.l w) m cm) (hv : VRel ι (fzOf ι H.l w) v cv) (h : aMapupd H kd k v m = some H') :
    ∃ w', (Instr.mapUpdate t cm k cv).run P w = .ok () w' ∧ Stp ι H.l w ι H'.l w' ∧ RelH PC ι H'.l w' := by
  unfold aMapupd at h
  split at h
  case h_2 => simp at h
  rename_i id
  split at h
  case h_2 => simp at h
  rename_i es clk ho
  obtain ⟨q, hq, rfl⟩ := Option.map_eq_some_iff.1 h
  obtain ⟨es', clk'⟩ := q
  obtain ⟨p, ces, hp, rfl, hb, hM, hS⟩ := map_at (m := .map id) hr hm ho
  unfold mPut at hq
  split at hq
  · rename_i q hf
    obtain ⟨j, x⟩ := q
    simp only [Option.some.injEq, Prod.mk.injEq] at hq
    obtain ⟨rfl, rfl⟩ := hq
    obtain ⟨c, q', hF, a8⟩ := findKey_some (P := P) (w := w) hk hM hf
    have a1 := hF.ce
    have a1' : ces[j]? = some c := by rw [← Array.getElem?_toList]; exact a1
    obtain ⟨r1, r2⟩ := map_put (clk' := clk) (es' := es.modify j fun e => (k, v, e.2.2)) (ces' := ces.modify j fun e => { e with key := k, val := cv }) hr ho hp hb (by rw [Array.toList_modify]; exact hM.modify j hv)
      (MapKept.stamped_modify hS j _ (fun _ _ => rfl) (fun e _ hj => by rw [a1'] at hj; cases hj; exact (sameBits_eq _ _ _ (by rw [hF.key]; exact kSame_bits hF.same)).symm))
    refine ⟨_, ?_, r2, r1⟩
    have hbits := kSame_bits hF.same
    rw [← hF.key] at hbits
    simp [Instr.mapUpdate, run_underlying' ht, run_getMap hb, run_checkKey' hk hok, a8, a1', Instr.keyThatStays, hbits, run_setMap hb]
  · rename_i hf
    simp only [Option.some.injEq, Prod.mk.injEq] at hq
    obtain ⟨rfl, rfl⟩ := hq
    have := findKey_none (P := P) (w := w) hk hM hf
    obtain ⟨r1, r2⟩ := map_put (clk' := clk + 1) (es' := es ++ [(k, v, clk)]) (ces' := ces.push { key := k, val := cv, born := clk }) hr ho hp hb (by rw [Array.toList_push]; exact hM.push hv)
      (MapKept.stamped_push hS (kFind_ne hok hM hf))
    refine ⟨_, ?_, r2, r1⟩
    simp [Instr.mapUpdate, run_underlying' ht, run_getMap hb, run_checkKey' hk hok, this, run_setMap hb]
  · simp at hq

theorem delete_sound {H : Hp} {t ty kt e : TypeId} {kd : KD} {k : Value} {m : AV} {cm : Value} {H' : Option Hp} (ats : Array TypeId) (h0 : ats[0]? = some t) (hr : RelH PC ι H.l w) (ht : P.underlying t = some (.map kt e)) (hk : pKD P kt = some kd)
    (hok : kOk kd k = true) (hm : VRel ι (fzOf ι H.l w) m cm) (h : aDelete H kd k m = some H') :
    OkS P PC ι H.l w (Builtin.delete_ ats ty #[cm, k]) avU (H'.getD H).l := by
  unfold aDelete at h
  split at h
  · simp only [VRel] at hm; subst hm
    simp only [Option.some.injEq] at h; subst h
    exact OkS.of (cv := .tuple #[]) hr (by simp [Builtin.delete_, h0, run_underlying' ht, run_checkKey' hk hok]) (by simp only [VRel])
  · rename_i id
    split at h
    case h_2 => simp at h
    rename_i es clk ho
    obtain ⟨p, ces, hp, rfl, hb, hM, hS⟩ := map_at (m := .map id) hr hm ho
    split at h
    · rename_i q hq
      obtain ⟨j, x⟩ := q
      simp only [Option.some.injEq] at h; subst h
      obtain ⟨c, q', hF, a8⟩ := findKey_some (P := P) (w := w) hk hM hq
      obtain ⟨r1, r2⟩ := map_put (clk' := clk) (es' := es.eraseIdx j) (ces' := ces.eraseIdxIfInBounds j) hr ho hp hb (by
        have hj : j < ces.size := by have := (List.getElem?_eq_some_iff.1 hF.ce).1; simpa using this
        simp only [Array.eraseIdxIfInBounds, hj, dif_pos, Array.toList_eraseIdx]
        exact hM.erase j) (MapKept.stamped_erase hS j)
      exact ⟨.tuple #[], _, _, by simp [Builtin.delete_, h0, run_underlying' ht, run_getMap hb, run_checkKey' hk hok, a8, run_setMap hb], r2, r1, by simp only [VRel]⟩
    · rename_i hq
      simp only [Option.some.injEq] at h; subst h
      have := findKey_none (P := P) (w := w) hk hM hq
      obtain ⟨r1, r2⟩ := map_put (clk' := clk) (es' := es) (ces' := ces) hr ho hp hb hM hS
      exact ⟨.tuple #[], _, _, by simp [Builtin.delete_, h0, run_underlying' ht, run_getMap hb, run_checkKey' hk hok, this, run_setMap hb], r2, r1, by simp only [VRel]⟩
    · simp at h
  · simp at h

theorem repl_flat (z : Value) : ∀ n, repl n z.cells.toList = flat (List.replicate n z)
  | 0 => by simp [repl, flat]
  | n + 1 => by
    have ih := repl_flat z n
    simp only [repl, List.replicate_succ, flat, List.flatMap_cons] at ih ⊢
    rw [ih]
theorem clear_sound {H : Hp} {t ty e : TypeId} {i : TypeInfo} {z : Value} {x : AV} {cx : Value} {H' : Option Hp} (hr : RelH PC ι H.l w) (ht : P.underlying t = some (.slice e)) (hi : P.info? e = some i) (hz : i.zero = some z) (hs0 : i.size ≠ 0) (hzs : z.cells.size = i.size)
    (hx : VRel ι (fzOf ι H.l w) x cx) (h : aClear H i.size (AV.ofV z) x = some H') :
    OkS P PC ι H.l w (Builtin.clear_ #[t] ty #[cx]) avU (H'.getD H).l := by
  unfold aClear at h
  split at h
  · simp only [VRel] at hx; subst hx
    simp only [Option.some.injEq] at h; subst h
    exact OkS.of (cv := .tuple #[]) hr (by simp [Builtin.clear_, run_underlying' ht]) (by simp only [VRel])
  · rename_i sz' id off len
    split at h
    case isFalse => simp at h
    rename_i hc
    obtain ⟨hsz', hg, hcl⟩ := hc
    subst hsz'
    simp only [VRel] at hx
    obtain ⟨p, a, cap, hp, hpz, rfl, hcap, haddr⟩ := hx
    split at h
    · rename_i h0
      subst h0
      simp only [Option.some.injEq] at h; subst h
      exact OkS.of (cv := .tuple #[]) hr (by simp [Builtin.clear_, run_underlying' ht]) (by simp only [VRel])
    · rename_i h0
      split at h
      case h_2 => simp at h
      rename_i sz2 es t' ho
      split at h
      case isFalse => simp at h
      rename_i hfit
      simp only [Option.some.injEq] at h; subst h
      obtain ⟨ha1, ha2⟩ := haddr (by omega)
      subst ha1
      have ho' := hget_some ho
      obtain ⟨c, fr, vs, hb, hf, hro, hsz2, hv, hcs, hfit2, hlay⟩ := hr.obj _ _ _ ho' hp
      rw [hpz] at hsz2
      subst hsz2
      rw [hpz] at ha2 ⊢
      obtain ⟨hcells, hones⟩ := (VRel_ofV (ι := ι) (fz := fzOf ι H.l w) z).cells hg
      obtain ⟨F, hF⟩ : ∃ F, F = flat (List.replicate len z) := ⟨_, rfl⟩
      have hFz : (Builtin.zeroCells z.cells len).toList = F := by
        have e1 := range_zero len z.cells
        rw [hF]
        unfold Builtin.zeroCells
        rw [e1]
        exact repl_flat z len
      have hrep : ∀ u ∈ List.replicate len z, u.cells.size = i.size := fun u hu => by rw [(List.mem_replicate.1 hu).2]; exact hzs
      have hFl : F.length = len * i.size := by rw [hF, flat_length hrep, List.length_replicate]
      have hFo : ∀ v ∈ F, v.oneCell' = true := by
        intro v hv
        rw [hF] at hv
        obtain ⟨u, hu, hv⟩ := List.mem_flatMap.1 hv
        rw [(List.mem_replicate.1 hu).2] at hv
        exact hones v hv
      have hvl := hv.length
      have hfl := flat_length hcs
      have hm1 : (off + len) * i.size ≤ vs.length * i.size := Nat.mul_le_mul_right _ (by omega)
      rw [Nat.add_mul] at hm1
      rw [hvl] at hfit2
      have hs := run_storeCells_free P p.blk (p.sh + off * i.size) t' fr F 0 c w hb hf (by omega) hFo
      have hnew : ∀ u ∈ vs.take off ++ List.replicate len z ++ vs.drop (off + len), u.cells.size = i.size := by
        intro u hu
        simp only [List.mem_append] at hu
        rcases hu with (hu | hu) | hu
        · exact hcs u (List.mem_of_mem_take hu)
        · exact hrep u hu
        · exact hcs u (List.mem_of_mem_drop hu)
      have hfnew : flat (vs.take off ++ List.replicate len z ++ vs.drop (off + len)) = (flat vs).take (off * i.size) ++ F ++ (flat vs).drop ((off + len) * i.size) := by
        rw [flat_append, flat_append, flat_take hcs, flat_drop hcs, hF]
      obtain ⟨r1, r2⟩ := RelH.set (o' := .arr i.size (es.take off ++ List.replicate len (AV.ofV z) ++ es.drop (off + len)) t') hr ho' hp (w' := w.setRow p.blk (setFrom c.toList (p.sh + off * i.size + 0) F).toArray) rfl rfl rfl (by rw [setRow_size]; exact Nat.le_refl _) (fun k hk hne => setRow_other w _ _ hne) (fun hle => by
        have hv' := VRels.mono (List.prefix_refl _) hle _ _ hv
        refine ⟨_, fr, vs.take off ++ List.replicate len z ++ vs.drop (off + len), setRow_heap w _ _ _ _ _ hb, by simpa [setFrom_length] using hf, by simp [setFrom_length, hro], hpz, ((hv'.take off).append (VRels.replicate (VRel_ofV z) len)).append (hv'.drop _), hnew, ?_, fun j hj => ?_⟩
        · simp only [List.length_append, List.length_take, List.length_replicate, List.length_drop, List.size_toArray, setFrom_length, Array.length_toList]
          have : min off es.length + len + (es.length - (off + len)) = vs.length := by omega
          rw [this]
          exact hfit2
        · rw [hfnew] at hj ⊢
          simp only [List.length_append, List.length_take, List.length_drop, hFl, hfl, Nat.add_mul] at hj
          have hj2 : j < vs.length * i.size := by omega
          have hl := hlay j (by rw [hfl]; exact hj2)
          simp only [List.getElem?_toArray]
          rw [setFrom_get _ _ _ _ (by simp [hFl]; omega)]
          simp only [Nat.add_zero, Array.getElem?_toList, hFl]
          by_cases h1 : j < off * i.size
          · rw [if_neg (by omega), List.append_assoc, List.getElem?_append_left (by simp only [List.length_take, hfl]; omega), List.getElem?_take, if_pos h1]
            exact hl
          · by_cases h2 : j < off * i.size + len * i.size
            · rw [if_pos (by omega), List.getElem?_append_left (by simp only [List.length_append, List.length_take, hFl, hfl]; omega), List.getElem?_append_right (by simp only [List.length_take, hfl]; omega)]
              congr 1
              simp only [List.length_take, hfl]; omega
            · rw [if_neg (by omega), List.getElem?_append_right (by simp only [List.length_append, List.length_take, hFl, hfl]; omega), List.getElem?_drop, hl]
              congr 1
              simp only [List.length_append, List.length_take, hFl, hfl, Nat.add_mul]; omega)
      refine ⟨.tuple #[], _, _, ?_, r2, r1, by simp only [VRel]⟩
      have hlen0 : len ≠ 0 := h0
      simp only [Builtin.clear_]
      simp [run_underlying' ht, run_zero' (show pZero P e = some z by simp [pZero, hi, hz])]
      rw [hFz, hs]
      rfl
  · simp at h

theorem lenm_sound {H : Hp} {t kt e ty : TypeId} {m v : AV} {cm : Value} (hr : RelH PC ι H.l w) (ht : P.underlying t = some (.map kt e)) (hm : VRel ι (fzOf ι H.l w) m cm) (h : aLenm H m = some v) :
    ∃ cv, (Builtin.len_ #[t] ty #[cm]).run P w = .ok cv w ∧ VRel ι (fzOf ι H.l w) v cv := by
  unfold aLenm at h
  split at h
  · simp only [VRel] at hm; subst hm
    simp only [Option.some.injEq] at h; subst h
    exact ⟨.int .i64 0, by simp [Builtin.len_, run_underlying' ht, goInt], by simp only [VRel]⟩
  · rename_i id
    split at h
    case h_2 => simp at h
    rename_i es clk ho
    simp only [Option.some.injEq] at h; subst h
    obtain ⟨p, ces, hp, rfl, hb, hM, hS⟩ := map_at (m := .map id) hr hm ho
    have hl := hM.length
    simp at hl
    exact ⟨.int .i64 ces.size, by simp [Builtin.len_, run_underlying' ht, run_getMap hb, goInt], by simp only [VRel, hl]⟩
  · simp at h

theorem allLit_rel : ∀ {xs : List AV} {vs cs : List Value}, allLit xs = some vs → VRels ι fz xs cs → cs = vs
  | [], vs, cs, h, hr => by simp [allLit] at h; subst h; simpa using hr
  | x :: xs, vs, cs, h, hr => by
    obtain ⟨u, us, rfl, h1, h2⟩ := VRels_cons_inv hr
    cases x <;> first
      | (simp [allLit] at h; done)
      | skip
    rename_i v
    simp only [allLit] at h
    obtain ⟨r, hr', rfl⟩ := Option.map_eq_some_iff.1 h
    simp only [VRel] at h1
    rw [h1, allLit_rel hr' h2]
theorem asKey_form {kd : KD} {x : AV} {cx k : Value} (hx : VRel ι fz x cx) (h : asKey kd x = some k) : cx = k ∧ kOk kd k = true := by
  unfold asKey at h
  split at h
  · split at h
    · rename_i hok
      simp only [Option.some.injEq] at h; subst h
      simp only [VRel] at hx
      exact ⟨hx, hok⟩
    · simp at h
  · obtain ⟨vs, hvs, h⟩ := Option.bind_eq_some_iff.1 h
    split at h
    · rename_i hok
      simp only [Option.some.injEq] at h; subst h
      simp only [VRel] at hx
      obtain ⟨cs, rfl, hr⟩ := hx
      have := allLit_rel hvs hr
      refine ⟨?_, hok⟩
      rw [← this]
    · simp at h
  · simp at h

theorem mkmap_sound {H : Hp} {t : TypeId} (hr : RelH PC ι H.l w) : OkS P PC ι H.l w (Instr.makeMap t none) (.map H.l.length) (halloc H (.map [] 0)).l := by
  obtain ⟨r1, r2⟩ := hr.alloc (.map #[] 0) ⟨w.heap.size, 0, 0, 0⟩ (.map [] 0) rfl ⟨#[], alloc_heap_new w _, rfl, MapKept.stamped_empty 0⟩
  refine ⟨.map (some w.heap.size), _, _, ?_, r2, r1, ?_⟩
  · simp only [Instr.makeMap, Sem.run_bind, run_newObj, Result.andThen_ok, Sem.run_pure]
    rfl
  · simp only [VRel]
    exact ⟨⟨w.heap.size, 0, 0, 0⟩, by rw [← hr.len]; simp, rfl⟩
end
end Go.Proofs.Eng
