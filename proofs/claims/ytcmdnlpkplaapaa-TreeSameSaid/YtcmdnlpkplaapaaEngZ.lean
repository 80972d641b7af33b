/- The engine, part Z: summaries: the index of a byte in a text. -/
import Derived.Test.YtcmdnlpkplaapaaEngY
set_option linter.unusedVariables false
set_option linter.unusedSimpArgs false
namespace Go.Proofs.Eng
open Go Go.RowKit

def idxOf (s : ByteArray) (c : Int) : Int :=
 match (List.range s.size).find? fun i => s[i]! == c.toNat.toUInt8 with
 | some i => (i : Int)
 | none => -1

def gIndexByte (f0 : FuncId) : Sums := fun f args _ =>
 if f = f0 then
  match args with
  | [.lit (.string s),.lit (.int .u8 c)] => some (avInt .i64 (idxOf s c),none)
  | _ => none
 else none

theorem gIndexByte_inv {f0 f : FuncId} {args : List AV} {H : Hp} {v : AV} {h : Option Hp} (e : gIndexByte f0 f args H = some (v,h)) :
  f = f0 /\ ∃ s c,args = [.lit (.string s),.lit (.int .u8 c)] /\ v = avInt .i64 (idxOf s c) /\ h = none := by
 unfold gIndexByte at e
 split at e
 ·rename_i hf
  split at e
  ·simp only [Option.some.injEq,Prod.mk.injEq] at e
   exact ⟨hf,_,_,rfl,e.1.symm,e.2.symm⟩
  ·simp at e
 ·simp at e

theorem indexByte_ok {P : Program} {f0 : FuncId} {fn : Func} (hf : P.funcs[f0]? = some fn) (hb : fn.body = none) (hn : (fn.name == "runtime.NumGoroutine") = false) (h1 : Extern.findNext fn = none)
  (h2 : Extern.find fn = some Extern.BytealgIndexByte.indexByte) : GOK P (gIndexByte f0) := by
 refine ⟨fun f args H v h e => ?_,fun {f args H v h ι w cargs} hr ha e => ?_⟩
 ·obtain ⟨_,s,c,_,_,rfl⟩ := gIndexByte_inv e
  exact Le?.none H
 ·obtain ⟨rfl,s,c,rfl,rfl,rfl⟩ := gIndexByte_inv e
  obtain ⟨u,us,e1,v1,v2⟩ := VRels_cons_inv ha
  obtain ⟨u',us',rfl,v3,v4⟩ := VRels_cons_inv v2
  simp only [VRels_nil] at v4
  subst v4
  simp only [VRel] at v1 v3
  subst v1; subst v3
  have hc : cargs = #[.string s,.int .u8 c] := by apply Array.ext'; simpa using e1
  subst hc
  have hrun : (callFunc f #[.string s,.int .u8 c]).run P w = .ok (.value (.int .i64 (idxOf s c))) w := by
   simp only [callFunc,Sem.run_bind,run_program,Result.andThen_ok,hf,hn,hb,Option.isNone_none,if_true,run_mark,h1,h2,Bool.false_eq_true,if_false]
   have hi : Extern.BytealgIndexByte.indexByte #[.string s,.int .u8 c] = (match (List.range s.size).find? fun i => s[i]! == c.toNat.toUInt8 with
     | some i => pure (goInt i)
     | none => pure (goInt (-1))) := rfl
   rw [hi]
   unfold idxOf
   split <;> simp [goInt]
  rw [hrun]
  exact ⟨ι,Stp.refl _ _ _,hr,by simp only [VRel]⟩

def gFromBits (f0 : FuncId) : Sums := fun f args _ =>
 if f = f0 then
  match args with
  | [.lit (.int .u64 n)] => some (.lit (.float .f64 n.toNat),none)
  | _ => none
 else none
theorem gFromBits_inv {f0 f : FuncId} {args : List AV} {H : Hp} {v : AV} {h : Option Hp} (e : gFromBits f0 f args H = some (v,h)) :
  f = f0 /\ ∃ n,args = [.lit (.int .u64 n)] /\ v = .lit (.float .f64 n.toNat) /\ h = none := by
 unfold gFromBits at e
 split at e
 ·rename_i hf
  split at e
  ·simp only [Option.some.injEq,Prod.mk.injEq] at e
   exact ⟨hf,_,rfl,e.1.symm,e.2.symm⟩
  ·simp at e
 ·simp at e
theorem fromBits_ok {P : Program} {f0 : FuncId} {fn : Func} (hf : P.funcs[f0]? = some fn) (hb : fn.body = none) (hn : (fn.name == "runtime.NumGoroutine") = false) (h1 : Extern.findNext fn = none)
  (h2 : Extern.find fn = some Extern.MathFloatBits.float64frombits) : GOK P (gFromBits f0) := by
 refine ⟨fun f args H v h e => ?_,fun {f args H v h ι w cargs} hr ha e => ?_⟩
 ·obtain ⟨_,n,_,_,rfl⟩ := gFromBits_inv e
  exact Le?.none H
 ·obtain ⟨rfl,n,rfl,rfl,rfl⟩ := gFromBits_inv e
  obtain ⟨u,us,e1,v1,v2⟩ := VRels_cons_inv ha
  simp only [VRels_nil] at v2
  subst v2
  simp only [VRel] at v1
  subst v1
  have hc : cargs = #[.int .u64 n] := by apply Array.ext'; simpa using e1
  subst hc
  have hrun : (callFunc f #[.int .u64 n]).run P w = .ok (.value (.float .f64 n.toNat)) w := by
   simp only [callFunc,Sem.run_bind,run_program,Result.andThen_ok,hf,hn,hb,Option.isNone_none,if_true,run_mark,h1,h2,Bool.false_eq_true,if_false]
   have hi : Extern.MathFloatBits.float64frombits #[.int .u64 n] = pure (.float .f64 n.toNat) := rfl
   rw [hi]
   simp
  rw [hrun]
  exact ⟨ι,Stp.refl _ _ _,hr,by simp only [VRel]⟩

def gOr (Γ Δ : Sums) : Sums := fun f args H => match Γ f args H with | some r => some r | none => Δ f args H
theorem gOr_ok {P : Program} {Γ Δ : Sums} (h : GOK P Γ) (k : GOK P Δ) : GOK P (gOr Γ Δ) := by
 refine ⟨fun f args H v h' e => ?_,fun {f args H v h' ι w cargs} hr ha e => ?_⟩
 ·unfold gOr at e
  split at e
  ·rename_i r hr; rw [e] at hr; exact h.le _ _ _ _ _ hr
  ·exact k.le _ _ _ _ _ e
 ·unfold gOr at e
  split at e
  ·rename_i r hΓ; rw [e] at hΓ; exact h.call hr ha hΓ
  ·exact k.call hr ha e
end Go.Proofs.Eng
