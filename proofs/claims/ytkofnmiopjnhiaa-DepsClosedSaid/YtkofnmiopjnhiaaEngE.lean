/- The engine, part E: what the scalar operations do in the model is what they do on abstract values. -/
import Derived.Test.YtkofnmiopjnhiaaEngD
import Derived.OwnWalk
import Derived.Laws.CopyRow
set_option linter.unusedVariables false
set_option linter.unusedSimpArgs false
namespace Go.Proofs.Eng
open Go Go.RowKit

/-- A step of the model that gives a value related to v, the heap becoming one related to L'. -/
def OkS (P : Program) (PC : Code → AC → Prop) (ι : Io) (L : HL) (w : World) (s : Sem Value) (v : AV) (L' : HL) : Prop :=
  ∃ cv w' ι', s.run P w = .ok cv w' ∧ Stp ι L w ι' L' w' ∧ RelH PC ι' L' w' ∧ VRel ι' (fzOf ι' L' w') v cv

theorem OkS.of {P : Program} {PC : Code → AC → Prop} {ι : Io} {L : HL} {w : World} {s : Sem Value} {v : AV} {cv : Value} (hr : RelH PC ι L w) (h : s.run P w = .ok cv w) (hv : VRel ι (fzOf ι L w) v cv) :
    OkS P PC ι L w s v L := ⟨cv, w, ι, h, Stp.refl _ _ _, hr, hv⟩

/-! ### Operands -/
section
variable {ι : Io} {fz : Fz} {τ : List AV} {a : Act}

theorem aeval_rel (ht : VRels ι fz τ a.tmps.toList) {x : Operand} {y : Opd} (hx : pOpd x = some y) : VRel ι fz (aeval τ y) (a.eval x) := by
  cases x with
  | tmp t =>
    simp [pOpd] at hx; subst hx
    simp only [aeval, Act.eval]
    by_cases h : t < τ.length
    · have hg : τ[t]? = some τ[t] := List.getElem?_eq_getElem h
      obtain ⟨v, hv, hr⟩ := ht.get hg
      have e1 : τ.getD t avU = τ[t] := by simp [List.getD, hg]
      have e2 : a.tmps.getD t undef = v := by
        have : a.tmps[t]? = some v := by rw [← Array.getElem?_toList]; exact hv
        simp [Array.getD_eq_getD_getElem?, this]
      rw [e1, e2]; exact hr
    · have e1 : τ.getD t avU = avU := by simp [List.getD, List.getElem?_eq_none (Nat.le_of_not_lt h)]
      have e2 : a.tmps.getD t undef = undef := by
        have hl := ht.length
        simp at hl
        have : a.tmps[t]? = none := Array.getElem?_eq_none (by simp at h; omega)
        simp [Array.getD_eq_getD_getElem?, this]
      rw [e1, e2]; simp only [VRel, undef]
  | const v => simp [pOpd] at hx; subst hx; exact VRel_ofV v
  | global g => simp [pOpd] at hx
  | func f => simp [pOpd] at hx; subst hx; simp only [aeval, Act.eval, VRel]; exact ⟨#[], #[], rfl, by simp, by simp⟩

theorem mapM_cons_some {α β : Type} {f : α → Option β} {x : α} {xs : List α} {r : List β} (h : (x :: xs).mapM f = some r) : ∃ y ys, f x = some y ∧ xs.mapM f = some ys ∧ r = y :: ys := by
  simp only [List.mapM_cons, Option.bind_eq_bind, Option.pure_def] at h
  obtain ⟨y, h1, h⟩ := Option.bind_eq_some_iff.1 h
  obtain ⟨ys, h2, h⟩ := Option.bind_eq_some_iff.1 h
  exact ⟨y, ys, h1, h2, (Option.some.inj h).symm⟩

theorem aevals_rel (ht : VRels ι fz τ a.tmps.toList) : ∀ {xs : List Operand} {ys : List Opd}, xs.mapM pOpd = some ys → VRels ι fz (ys.map (aeval τ)) (xs.map a.eval)
  | [], ys, h => by simp at h; subst h; simp
  | x :: xs, ys, h => by
    obtain ⟨y, r, h1, h2, rfl⟩ := mapM_cons_some h
    simp [aeval_rel ht h1, aevals_rel ht h2]
end

/-! ### Strings -/
theorem toList_eq_bl (s : ByteArray) : s.toList = bl s := by
  unfold ByteArray.toList bl
  have key : ∀ (n i : Nat) (r : List UInt8), s.size - i = n → ByteArray.toList.loop s i r = r.reverse ++ s.data.toList.drop i := by
    intro n
    induction n with
    | zero =>
      intro i r h
      unfold ByteArray.toList.loop
      rw [if_neg (by omega)]
      have : s.data.toList.drop i = [] := by
        apply List.drop_eq_nil_of_le
        show s.size ≤ i
        omega
      simp [this]
    | succ n ih =>
      intro i r h
      unfold ByteArray.toList.loop
      have hi : i < s.size := by omega
      rw [if_pos hi, ih (i + 1) _ (by omega)]
      have hd : s.data.toList.drop i = s.data.toList[i]'(by simpa using hi) :: s.data.toList.drop (i + 1) := List.drop_eq_getElem_cons _
      rw [hd]
      have : s.get! i = s.data.toList[i]'(by simpa using hi) := by
        simp [ByteArray.get!, Array.getElem!_eq_getD, Array.getD, show i < s.data.size from hi, hi]
      simp [this]
  simpa using key s.size 0 [] rfl

theorem mkS_append (x y : ByteArray) : x ++ y = mkS (bl x ++ bl y) := by
  apply ByteArray.ext
  simp [mkS, bl]
theorem mkS_extract (s : ByteArray) (l h : Nat) : s.extract l h = mkS (((bl s).drop l).take (h - l)) := by
  apply ByteArray.ext
  simp only [mkS, bl, ByteArray.data_extract]
  apply Array.ext'
  rw [Array.toList_extract, List.extract_eq_take_drop]

/-! ### The scalar operations -/
section
variable {P : Program} {w : World}

theorem run_shift {op : BinOp} {k yk : IntKind} {x y : Int} {v : AV} (h : ashift op k x y = some v) : ∃ cv, (Op.shift op k x yk y).run P w = .ok cv w ∧ v = .lit cv := by
  unfold ashift at h
  unfold Op.shift
  split at h
  · simp at h
  · rename_i hy
    rw [if_neg hy]
    cases op <;> simp at h <;> subst h <;> exact ⟨_, rfl, rfl⟩

theorem run_binI {op : BinOp} {k : IntKind} {x y : Int} {v : AV} (h : abinI op k x y = some v) (hop : op ≠ .shl ∧ op ≠ .shr) :
    ∃ cv, (binOp op 0 (.int k x) (.int k y)).run P w = .ok cv w ∧ v = .lit cv := by
  cases op with
  | add => simp [abinI] at h; subst h; exact ⟨_, by simp [binOp, Op.intArith], rfl⟩
  | sub => simp [abinI] at h; subst h; exact ⟨_, by simp [binOp, Op.intArith], rfl⟩
  | mul => simp [abinI] at h; subst h; exact ⟨_, by simp [binOp, Op.intArith], rfl⟩
  | quo =>
    simp only [abinI] at h
    split at h
    · simp at h
    · rename_i hy; simp at h; subst h; exact ⟨_, by simp [binOp, Op.intDiv, hy], rfl⟩
  | rem =>
    simp only [abinI] at h
    split at h
    · simp at h
    · rename_i hy; simp at h; subst h; exact ⟨_, by simp [binOp, Op.intDiv, hy], rfl⟩
  | and => simp [abinI, ibits] at h; subst h; exact ⟨_, by simp [binOp, Op.intBits], rfl⟩
  | or => simp [abinI, ibits] at h; subst h; exact ⟨_, by simp [binOp, Op.intBits], rfl⟩
  | xor => simp [abinI, ibits] at h; subst h; exact ⟨_, by simp [binOp, Op.intBits], rfl⟩
  | andNot => simp [abinI, ibits] at h; subst h; exact ⟨_, by simp [binOp, Op.intBits], rfl⟩
  | shl => simp at hop
  | shr => simp at hop
  | eql => simp [abinI] at h; subst h; exact ⟨_, by simp [binOp, Op.intCmp], rfl⟩
  | neq => simp [abinI] at h; subst h; exact ⟨_, by simp [binOp, Op.intCmp], rfl⟩
  | lss => simp [abinI] at h; subst h; exact ⟨_, by simp [binOp, Op.intCmp], rfl⟩
  | leq => simp [abinI] at h; subst h; exact ⟨_, by simp [binOp, Op.intCmp], rfl⟩
  | gtr => simp [abinI] at h; subst h; exact ⟨_, by simp [binOp, Op.intCmp], rfl⟩
  | geq => simp [abinI] at h; subst h; exact ⟨_, by simp [binOp, Op.intCmp], rfl⟩

theorem run_binS {op : BinOp} {x y : ByteArray} {v : AV} (h : abinS op (bl x) (bl y) = some v) : ∃ cv, (binOp op 0 (.string x) (.string y)).run P w = .ok cv w ∧ v = .lit cv := by
  cases op with
  | add =>
    simp only [abinS] at h
    split at h
    · rename_i hl
      simp at h; subst h
      refine ⟨_, ?_, rfl⟩
      rw [bl_length, bl_length] at hl
      have : ¬ (((x.size + y.size : Nat) : Int) > IntKind.i64.max) := by simp [IntKind.max, IntKind.signed, IntKind.bits]; omega
      simp only [binOp, Op.stringOp, if_neg this, Sem.run_pure, mkS_append]
    · simp at h
  | eql => simp [abinS] at h; subst h; exact ⟨_, by simp [binOp, Op.stringOp, toList_eq_bl], rfl⟩
  | neq => simp [abinS] at h; subst h; exact ⟨_, by simp [binOp, Op.stringOp, toList_eq_bl], rfl⟩
  | lss => simp [abinS] at h; subst h; exact ⟨_, by simp [binOp, Op.stringOp, toList_eq_bl], rfl⟩
  | leq => simp [abinS] at h; subst h; exact ⟨_, by simp [binOp, Op.stringOp, toList_eq_bl], rfl⟩
  | gtr => simp [abinS] at h; subst h; exact ⟨_, by simp [binOp, Op.stringOp, toList_eq_bl], rfl⟩
  | geq => simp [abinS] at h; subst h; exact ⟨_, by simp [binOp, Op.stringOp, toList_eq_bl], rfl⟩
  | sub => simp [abinS] at h
  | mul => simp [abinS] at h
  | quo => simp [abinS] at h
  | rem => simp [abinS] at h
  | and => simp [abinS] at h
  | or => simp [abinS] at h
  | xor => simp [abinS] at h
  | andNot => simp [abinS] at h
  | shl => simp [abinS] at h
  | shr => simp [abinS] at h

/-- The type of the operands counts for nothing at numbers and strings. -/
theorem binOp_type_int (op : BinOp) (t : TypeId) (k k' : IntKind) (x y : Int) : binOp op t (.int k x) (.int k' y) = binOp op 0 (.int k x) (.int k' y) := by
  cases op <;> simp [binOp]
theorem binOp_type_str (op : BinOp) (t : TypeId) (x y : ByteArray) : binOp op t (.string x) (.string y) = binOp op 0 (.string x) (.string y) := by
  cases op <;> simp [binOp]

theorem run_abin {op : BinOp} {t : TypeId} {x y v : AV} {cx cy : Value} {ι : Io} {fz : Fz} (hx : VRel ι fz x cx) (hy : VRel ι fz y cy) (h : abin op x y = some v) :
    ∃ cv, (binOp op t cx cy).run P w = .ok cv w ∧ v = .lit cv := by
  unfold abin at h
  split at h
  · rename_i k a k' b
    simp only [VRel] at hx hy; subst hx; subst hy
    split at h
    · rename_i hop
      rcases hop with rfl | rfl
      · have := run_shift (P := P) (w := w) (yk := k') h
        simpa [binOp] using this
      · have := run_shift (P := P) (w := w) (yk := k') h
        simpa [binOp] using this
    · rename_i hop
      split at h
      · rename_i hk; subst hk
        rw [binOp_type_int]
        exact run_binI h (by simpa using hop)
      · simp at h
  · rename_i a b
    simp only [VRel] at hx hy; subst hx; subst hy
    rw [binOp_type_str]
    exact run_binS h
  · simp at h

theorem run_aun {op : UnOp} {x v : AV} {cx : Value} {ι : Io} {fz : Fz} (hx : VRel ι fz x cx) (h : aun op x = some v) : ∃ cv, (Op.unary op cx).run P w = .ok cv w ∧ v = .lit cv := by
  unfold aun at h
  split at h
  · simp only [VRel] at hx; subst hx; simp at h; subst h; exact ⟨_, by simp [Op.unary, Op.intArith], rfl⟩
  · simp only [VRel] at hx; subst hx; simp [ibits] at h; subst h; exact ⟨_, by simp [Op.unary, Op.intBits], rfl⟩
  · simp only [VRel] at hx; subst hx; simp at h; subst h; exact ⟨_, by simp [Op.unary], rfl⟩
  · simp at h
end
end Go.Proofs.Eng
