/- The engine, part Y: from an abstract call that comes to true to what a row asks; bytes and numbers read. -/
import Derived.Test.YtcmdnlpkplaapaaEngX
import Derived.ProofKit
set_option linter.unusedVariables false
set_option linter.unusedSimpArgs false
namespace Go.Proofs.Eng
open Go Go.RowKit Go.ChangeShapes Go.WideShapes Go.ChangeAt

section
variable {P : Program} {W : World}

noncomputable abbrev fz0 (W : World) : Fz := fzOf io0 [] W

theorem relH0 {PC : Code -> AC -> Prop} : RelH PC io0 [] W := ⟨rfl,fun i o p h => by simp at h,fun i j oi oj p q h => by simp at h,fun k hk => by simp at hk,fun k hk => by simp at hk⟩

theorem fzc0 (a : Addr) : fzc (fz0 W) a = W.cell? a := by
 have h : ∀ k,fz0 W k = W.heap[k]? := by
  intro k
  unfold fz0 fzOf
  rw [if_neg]
  rintro (⟨i,o,p,h,_⟩ | h)
  ·simp at h
  ·simp at h
 simp only [fzc,World.cell?,h]
 by_cases hs : a.spot.isSome = true
 ·simp only [hs,if_true]
  split <;> rfl
 ·simp only [hs,if_false,Bool.false_eq_true]
  rfl

theorem ent_calls {Γ : Sums} {A : Tab} (hΓ : GOK P Γ) (hT : TOK P A) {n : Nat} {f : FuncId} {xs : List AV} {h : Option Hp} {args : Array Value} {b : Bool} (hx : VRels io0 (fz0 W) xs args.toList)
  (e : (env Γ A n).ent f xs ⟨[],none⟩ = some (.lit (.bool b),h)) : Calls P f args W fun en W' => en = .returned (.bool b) /\ Below W.heap.size W W' := by
 obtain ⟨_,h2⟩ := (env_sound hΓ hT n).ent (H := ⟨[],none⟩) relH0 hx e
 refine (callsIn_wide.1 h2).mono fun en W' he => ?_
 cases en with
 | panicked c => exact he.elim
 | outgrown => exact he.elim
 | returned v =>
  obtain ⟨ι',s,_,hv⟩ := he
  simp only [VRel] at hv
  subst hv
  refine ⟨rfl,s.os,s.tape,s.output,s.size,fun k hk => (s.frame k hk ?_).2⟩
  rintro ⟨i,o,p,h,_⟩
  simp at h

theorem trodAll_stays {H : Type} {enc : TypeId × Value -> H} (hl : laidOutB P = true) {W' : World} (hb : Below W.heap.size W W') : ∀ {ts : List TypeId} {vs : List Value} {ds : List (DataW H)} {ps : List MemPlace},
  (ts.all fun t => P.readableRec t && decide (t < P.types.size)) = true -> DataW.TrodAll enc P W 0 (fun _ => true) true ts vs ds ps -> (∀ x ∈ ps,x.block < W.heap.size) ->
  DataW.TrodAll enc P W' 0 (fun b => decide (b < W.heap.size)) true ts vs ds ps
 | [],vs,ds,ps,_,h,_ => by
  obtain ⟨rfl,rfl,rfl⟩ := trodAll_nil h
  exact rfl
 | t :: ts,vs,ds,ps,hr,h,hlt => by
  obtain ⟨v,vs',d,ds',p,q,rfl,rfl,rfl,h1,h2⟩ := trodAll_cons h
  simp only [List.all_cons,Bool.and_eq_true,decide_eq_true_eq] at hr
  have a1 := Below.trod hl hr.1.1 hr.1.2 h1 hb (fun x hx => hlt x (by simp [hx]))
  have a2 := trodAll_stays hl hb (by simpa using hr.2) h2 (fun x hx => hlt x (by simp [hx]))
  exact ⟨p,q,a1,a2,rfl⟩

theorem law_contract {H : Type} {enc : TypeId × Value -> H} {fn : Func} {s : ChangeSpec} {Γ : Sums} {A : Tab} (hΓ : GOK P Γ) (hT : TOK P A) (hl : laidOutB P = true) {f : FuncId} {n : Nat} {args : Array Value} {ds gs : List (DataW H)} {before : List MemPlace} {tb : TypeId}
  (hs0 : s.vars = []) (hrt : fn.resultTypes = #[tb]) (htb : P.underlying tb = some .bool) (hr : (fn.params.toList.all fun t => P.readableRec t && decide (t < P.types.size)) = true)
  (hW : DataW.Whole enc P fn.params.toList s.vars false W args.toList ds gs before) (hs : (s.fn H (ds ++ gs)).results = [.lit (.bool true)] /\ (s.fn H (ds ++ gs)).args = ds /\ (s.fn H (ds ++ gs)).vars = [])
  {xs : List AV} (hx : VRels io0 (fz0 W) xs args.toList) (e : ∃ h,(env Γ A n).ent f xs ⟨[],none⟩ = some (.lit (.bool true),h)) :
  Calls P f args W fun en W' => ∃ v,en = .returned v /\ s.post enc P fn false true false false W args v W' := by
 obtain ⟨h,e⟩ := e
 refine (ent_calls hΓ hT hx e).mono fun en W' ⟨he,hb⟩ => ⟨_,he,?_⟩
 have hW' := hW
 obtain ⟨p,q,hA,hV,rfl,_,_⟩ := hW
 refine ⟨ds,gs,p ++ q,[],p,[],hW',?_,?_,?_,hb.frame _,fun hh => by cases hh⟩
 ·rw [hs.1,hrt]
  exact trodAll_mk1 (shut_bool htb true)
 ·rw [hs.2.1]
  exact trodAll_stays hl hb hr hA (fun x hx => hW'.lt x (by simp [hx]))
 ·rw [hs.2.2,hs0]
  exact rfl

end
end Go.Proofs.Eng
