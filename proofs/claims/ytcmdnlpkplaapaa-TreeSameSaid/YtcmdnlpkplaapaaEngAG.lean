/- The engine, part AG: arguments read; from the limit to what a row asks. -/
import Derived.Test.YtcmdnlpkplaapaaM26
set_option linter.unusedVariables false
set_option linter.unusedSimpArgs false
namespace Go.Proofs.Eng
open Go Go.RowKit Go.ChangeShapes Go.WideShapes Go.ChangeAt

def isT : Option (AV × Option Hp) -> Bool
 | some (.lit (.bool true),none) => true
 | _ => false
theorem isT_spec {r : Option (AV × Option Hp)} (h : isT r = true) : r = some (avBool true,none) := by
 unfold isT at h
 split at h
 ·rfl
 ·simp at h

section
variable {P : Program} {W : World}

theorem law_lim {H : Type} {enc : TypeId × Value -> H} {fn : Func} {s : ChangeSpec} {Γ : Sums} {A : Tab} (hΓ : GOK P Γ) (hT : TOK P A) (hl : laidOutB P = true) {f : FuncId} {args : Array Value} {ds gs : List (DataW H)} {before : List MemPlace} {tb : TypeId}
  (hs0 : s.vars = []) (hrt : fn.resultTypes = #[tb]) (htb : P.underlying tb = some .bool) (hr : (fn.params.toList.all fun t => P.readableRec t && decide (t < P.types.size)) = true)
  (hW : DataW.Whole enc P fn.params.toList s.vars false W args.toList ds gs before) (hs : (s.fn H (ds ++ gs)).results = [.lit (.bool true)] /\ (s.fn H (ds ++ gs)).args = ds /\ (s.fn H (ds ++ gs)).vars = [])
  {xs : List AV} (hx : VRels io0 (fz0 W) xs args.toList) (e : ∃ r,(lim Γ A).ent f xs ⟨[],none⟩ = some r /\ r.1 = avBool true) :
  Calls P f args W fun en W' => ∃ v,en = .returned v /\ s.post enc P fn false true false false W args v W' := by
 obtain ⟨⟨v,h⟩,e,hv⟩ := e
 simp only [] at hv
 subst hv
 obtain ⟨n,e⟩ := lim_ent.1 e
 exact law_contract hΓ hT hl hs0 hrt htb hr hW hs hx ⟨h,e⟩
end
end Go.Proofs.Eng
