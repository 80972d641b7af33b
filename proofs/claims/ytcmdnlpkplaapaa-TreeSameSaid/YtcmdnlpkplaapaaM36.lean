import Derived.Test.YtcmdnlpkplaapaaM35
import Derived.Test.YtcmdnlpkplaapaaM30
import Derived.Test.YtcmdnlpkplaapaaM26
/- The reference of chapter 4: is each there once, run by the engine. -/
set_option linter.unusedVariables false
set_option linter.unusedSimpArgs false
set_option maxRecDepth 100000
namespace Go.Proofs.Eng
open Go
theorem once_false {l : List (List UInt8)} {i j : Nat} (hi : i < l.length) (hj : j < i) (h : l[i] = l[j]) : onceB l = false := by
 unfold onceB
 rw [decide_eq_false_iff_not]
 intro hn
 exact List.pairwise_iff_getElem.1 hn j i (by omega) hi hj h.symm
theorem once_step {l : List (List UInt8)} {i : Nat} (hi : i < l.length) (h : (l.take i).Nodup) (h2 : ∀ m,m < i -> l[m]? ≠ some l[i]) : (l.take (i + 1)).Nodup := by
 rw [List.take_succ_eq_append_getElem hi,List.nodup_append]
 refine ⟨h,by simp,?_⟩
 rintro a ha b hb rfl
 simp at hb
 obtain ⟨m,hm,rfl⟩ := List.mem_iff_getElem.1 ha
 rw [List.getElem_take] at hb
 have hm' : m < i := by simp at hm; omega
 exact h2 m hm' (by rw [List.getElem?_eq_getElem (by omega),hb])
section
variable {Γ : Sums} {A : Tab} {N : Nat -> Nat}
theorem ref04_once_call (h : RefK Γ A N) {H : Hp} {x : AV} {l : List (List UInt8)} (hx : VS H x l) (hl : l.length < 2 ^ 60) : (lim Γ A).call (f_ref04_once N) [x] H = some (avBool (onceB l),none) := by
 have hlen := VS.len hx
 have hx' : VS { l := H.l,d := none } x l := hx.keep fun id hid => rfl
 apply h.once.call (by rfl)
 simp [C_ref04_once,hlen,-Int.natCast_add]
 refine wp_round (fun k ρ H' => H' = { l := H.l,d := none } /\ ∃ i : Nat,ρ 0 = x /\ ρ 5 = x /\ ρ 6 = avInt .i64 l.length /\ ρ 7 = avInt .i64 i /\ i <= l.length /\ (l.take i).Nodup /\ k = l.length - i) (n := l.length) ⟨rfl,0,rfl,rfl,rfl,rfl,by omega,by simp,rfl⟩ ?_
 rintro k ρ H' ⟨rfl,i,r0,r5,r6,r7,hi,ha,rfl⟩
 by_cases hlt : i < l.length
 ·have hlt' : (i : Int) < l.length := by omega
  have hw : IntKind.wrap .i64 ((i : Int) + 1) = ((i + 1 : Nat) : Int) := by rw [wrap64 (by omega) (by omega)]; omega
  simp [L_ref04_once_1,r0,r5,r6,r7,hlt',-Int.natCast_add]
  refine wp_round (fun k ρ H' => H' = { l := H.l,d := none } /\ ∃ j : Nat,ρ 0 = x /\ ρ 5 = x /\ ρ 6 = avInt .i64 l.length /\ ρ 7 = avInt .i64 i /\ ρ 3 = avInt .i64 i /\ ρ 4 = avInt .i64 j /\ j <= i /\ (∀ m,m < j -> l[m]? ≠ some l[i]) /\ k = i - j) (n := i) ⟨rfl,0,by simp [r0],by simp [r5],by simp [r6],by simp [r7],by simp,by simp,by omega,fun m hm => by omega,rfl⟩ ?_
  rintro k ρ H' ⟨rfl,j,s0,s5,s6,s7,s3,s4,hj,hb,rfl⟩
  by_cases hjl : j < i
  ·have hjl' : (j : Int) < i := by omega
   obtain ⟨q,q1,q2⟩ := hx'.at' (k := .i64) (i := (i : Int)) (e := avStr l[i]) (by omega) (by simp [List.getElem?_eq_getElem hlt]) rfl rfl rfl
   obtain ⟨p,p1,p2⟩ := hx'.at' (k := .i64) (i := (j : Int)) (e := avStr l[j]) (by omega) (by simp [List.getElem?_eq_getElem (show j < l.length by omega)]) rfl rfl rfl
   have hw2 : IntKind.wrap .i64 ((j : Int) + 1) = ((j + 1 : Nat) : Int) := by rw [wrap64 (by omega) (by omega)]; omega
   by_cases he : l[i] = l[j]
   ·have := once_false hlt hjl he
    simp [L_ref04_once_2,s0,s5,s6,s7,s3,s4,hjl',q1,q2,p1,p2,he,this,settle,keeps]
   ·simp [L_ref04_once_2,s0,s5,s6,s7,s3,s4,hjl',q1,q2,p1,p2,he,hw2,-Int.natCast_add]
    refine ⟨i - (j + 1),by omega,j + 1,rfl,by omega,fun m hm => ?_,rfl⟩
    by_cases hmj : m = j
    ·subst hmj; rw [List.getElem?_eq_getElem (show m < l.length by omega)]; simpa using fun e => he e.symm
    ·exact hb m (by omega)
  ·have hjl' : ¬ (j : Int) < i := by omega
   have hji : j = i := by omega
   subst hji
   have hjl'' : ¬ (j : Int) < j := by omega
   simp [L_ref04_once_2,K_ref04_once_1,s0,s5,s6,s7,s3,s4,hw,-Int.natCast_add]
   exact ⟨l.length - (j + 1),by omega,j + 1,rfl,by omega,once_step hlt ha hb,rfl⟩
 ·have hlt' : ¬ (i : Int) < l.length := by omega
  have hie : i = l.length := by omega
  subst hie
  rw [List.take_length] at ha
  have : onceB l = true := by unfold onceB; exact decide_eq_true ha
  simp [L_ref04_once_1,K_ref04_once_2,r0,r5,r6,r7,this,settle,keeps]
end
end Go.Proofs.Eng
namespace Go.Proofs.Eng
open Go
@[simp] theorem resR_five {t u v w x : Nat} {ρ : Rho} {H : Hp} : resR [.inl t,.inl u,.inl v,.inl w,.inl x] ρ H = some (.tup [ρ t,ρ u,ρ v,ρ w,ρ x]) := _root_.id rfl
def noneB (w : Nat) : Bool := decide (w / 4503599627370496 % 2048 = 2047) && !decide (w % 4503599627370496 = 0)
theorem floatEq_none (w : Nat) : Op.floatEq .f64 w w = !noneB w := by
 have hself : ∀ d : Ieee.Datum,(d.order d == some .eq) = !d.isNaN := by
  intro d
  cases d with
  | nan s f => rfl
  | infinity s => cases s <;> rfl
  | number s m i => simp [Ieee.Datum.order,Ieee.Datum.isNaN,compare,compareOfLessAndEq]
 show ((FloatKind.f64.format.read w).order (FloatKind.f64.format.read w) == some .eq) = _
 rw [hself]
 congr 1
 unfold noneB
 have e1 : FloatKind.f64.format.signWeight = 9223372036854775808 := by decide
 have e2 : FloatKind.f64.format.binade = 4503599627370496 := by decide
 have e3 : FloatKind.f64.format.infRung = 9218868437227405312 := by decide
 unfold Ieee.Format.read
 simp only [e1,e2,e3]
 by_cases c1 : w % 9223372036854775808 < 4503599627370496
 ·rw [if_pos c1]
  have : ¬ w / 4503599627370496 % 2048 = 2047 := by omega
  simp [Ieee.Datum.isNaN,this]
 ·rw [if_neg c1]
  by_cases c2 : w % 9223372036854775808 < 9218868437227405312
  ·rw [if_pos c2]
   have : ¬ w / 4503599627370496 % 2048 = 2047 := by omega
   simp [Ieee.Datum.isNaN,this]
  ·rw [if_neg c2]
   by_cases c3 : w % 9223372036854775808 = 9218868437227405312
   ·rw [if_pos c3]
    have : w % 4503599627370496 = 0 := by omega
    simp [Ieee.Datum.isNaN,this]
   ·rw [if_neg c3]
    have h1 : w / 4503599627370496 % 2048 = 2047 := by omega
    have h2 : ¬ w % 4503599627370496 = 0 := by omega
    simp [Ieee.Datum.isNaN,h1,h2]
theorem ofB_none (w : Nat) : decide (ofB (w : Int) = w) = (!noneB w || decide ((w : Int) = 9221120237041090561)) := by
 unfold ofB
 rw [Int.toNat_natCast,floatEq_none]
 cases noneB w with
 | false => simp
 | true => simp [eq_comm]
section
variable {Γ : Sums} {A : Tab} {N : Nat -> Nat}
theorem ref02_Parts_call (h : RefK Γ A N) (w : Nat) (hw : w < 2 ^ 64) (H : Hp) : ∃ a b c d,(lim Γ A).call (f_ref02_Parts N) [avInt .u64 w] H = some (.tup [a,b,c,d,avBool (noneB w)],none) := by
 have q1 : bShr .u64 (w : Int) 52 = (w : Int) / 4503599627370496 := by show Int.fdiv (w : Int) 4503599627370496 = _; rw [Int.fdiv_eq_ediv_of_nonneg _ (by omega)]
 have q2 : bShr .u64 (w : Int) 63 = (w : Int) / 9223372036854775808 := by show Int.fdiv (w : Int) 9223372036854775808 = _; rw [Int.fdiv_eq_ediv_of_nonneg _ (by omega)]
 have q3 : Int.tmod ((w : Int) / 4503599627370496) 2048 = ((w / 4503599627370496 % 2048 : Nat) : Int) := by rw [Int.tmod_eq_emod_of_nonneg (by omega)]; rfl
 have q4 : Int.tmod (w : Int) 4503599627370496 = ((w % 4503599627370496 : Nat) : Int) := by rw [Int.tmod_eq_emod_of_nonneg (by omega)]; rfl
 have q5 : IntKind.wrap .i64 ((w / 4503599627370496 % 2048 : Nat) : Int) = ((w / 4503599627370496 % 2048 : Nat) : Int) := by rw [wrap64 (by omega) (by omega)]
 have q6 : IntKind.wrap .i64 2047 = 2047 := by decide
 have q7 : IntKind.wrap .i64 0 = 0 := by decide
 suffices hs : ∃ r,(lim Γ A).call (f_ref02_Parts N) [avInt .u64 w] H = some r /\ ∃ a b c d,r = (.tup [a,b,c,d,avBool (noneB w)],none) by
  obtain ⟨r,e,a,b,c,d,rfl⟩ := hs
  exact ⟨a,b,c,d,e⟩
 apply h.parts.callP (by rfl)
 unfold noneB
 generalize hE : w / 4503599627370496 % 2048 = E at *
 generalize hM : w % 4503599627370496 = M at *
 by_cases c1 : E = 2047
 ·subst c1
  by_cases c2 : M = 0
  ·subst c2
   simp [C_ref02_Parts,q1,q2,q3,q4,q5,q6,q7,abinI,settle,keeps,AV.under,AV.unders]
   done
  ·have c2' : ¬ ((M : Nat) : Int) = 0 := by omega
   simp [C_ref02_Parts,q1,q2,q3,q4,q5,q6,q7,c2,c2',abinI,settle,keeps,AV.under,AV.unders]
   done
 ·have c1' : ¬ ((E : Nat) : Int) = 2047 := by omega
  by_cases c3 : E = 0
  ·subst c3
   simp [C_ref02_Parts,q1,q2,q3,q4,q5,q6,q7,c1,abinI,settle,keeps,AV.under,AV.unders]
   done
  ·have c3' : ¬ ((E : Nat) : Int) = 0 := by omega
   simp [C_ref02_Parts,q1,q2,q3,q4,q5,q6,q7,c1,c1',c3,c3',abinI,settle,keeps,AV.under,AV.unders]
   done
end
end Go.Proofs.Eng
namespace Go.Proofs.Eng
open Go
theorem stop_bad (s : List UInt8) : (stopOf s < s.length) \/ (badOf s < 0 /\ ¬ stopOf s < s.length) := by
 have : stopOf s <= s.length := by have := rstop_le s.length 0 s; unfold stopOf; omega
 unfold badOf
 by_cases h : stopOf s = s.length
 ·right; rw [if_pos h]; omega
 ·left; omega
theorem stop_bad' {s : List UInt8} (h : stopOf s < s.length) : ¬ badOf s < 0 := by
 unfold badOf
 rw [if_neg (by omega)]
 omega
section
variable {Γ : Sums} {A : Tab} {N : Nat -> Nat}
theorem ref04_text_call (h : RefK Γ A N) (s : List UInt8) (hl : s.length < 2 ^ 36) (H : Hp) : (lim Γ A).call (f_ref04_text N) [avStr s] H = some (avBool (textB' s),none) := by
 have hr : s.length <= roomMax := by unfold roomMax; omega
 obtain ⟨p,q,hh,os1,os2,e1,_,_,had⟩ := ref01_Signs_call h.signs _ s (halloc { l := H.l,d := none } (.arr 1 (s.map avByte) (t_uint8 N))) (vb_new { l := H.l,d := none } s (t_uint8 N)) hl
 have hL := had.loc ((Loc.start H).alloc (.arr 1 (s.map avByte) (t_uint8 N)))
 have hk := hL.keeps
 have hset : ∀ b : Bool,settle H (avBool b) (hh.getD (halloc { l := H.l,d := none } (.arr 1 (s.map avByte) (t_uint8 N)))) = (avBool b,none) := fun b => settle_keeps hk rfl
 generalize hG : hh.getD (halloc { l := H.l,d := none } (.arr 1 (s.map avByte) (t_uint8 N))) = G at *
 apply h.text.call (by rfl)
 rcases stop_bad s with hs | ⟨hb,hs⟩
 ·have hs' : (stopOf s : Int) < s.length := by omega
  have hb : textB' s = false := by unfold textB'; simp [stop_bad' hs]
  simp [C_ref04_text,hr,e1,bindH_opt,hG,hs,hs',hb,hset]
 ·have hs' : ¬ (stopOf s : Int) < s.length := by omega
  simp [C_ref04_text,hr,e1,bindH_opt,hG,hs,hs',-Int.natCast_add]
  refine wp_round (fun k ρ H' => H' = G /\ ∃ i : Nat,ρ 0 = avStr s /\ ρ 6 = avInt .i64 i /\ i <= s.length /\ (s.take i).all (fun c => !oddB c) = true /\ k = s.length - i) (n := s.length) ⟨rfl,0,rfl,by simp,by omega,by simp,rfl⟩ ?_
  rintro k ρ H' ⟨rfl,i,r0,r6,hi,ha,rfl⟩
  by_cases hlt : i < s.length
  ·have hlt' : (i : Int) < s.length := by omega
   have hx := asidx_nat (k := .i64) hlt
   have hw : IntKind.wrap .i64 ((i : Int) + 1) = ((i + 1 : Nat) : Int) := by rw [wrap64 (by omega) (by omega)]; omega
   have ht := all_take hlt ha
   have hf : oddB s[i] = true -> textB' s = false := fun hh => by
    unfold textB'
    have : s.any oddB = true := List.any_eq_true.2 ⟨_,List.getElem_mem hlt,hh⟩
    simp [this]
   generalize s[i] = c at *
   by_cases h1 : c.toNat < 32
   ·have h1' : (c.toNat : Int) < 32 := by omega
    by_cases h2 : c.toNat = 10
    ·have h2' : (c.toNat : Int) = 10 := by omega
     have ho : oddB c = false := by simp [oddB,h2]
     rw [ho] at ht
     simp [L_ref04_text_1,r0,r6,hlt',hx,avByte,h2,hw,-Int.natCast_add]
     exact ⟨s.length - (i + 1),by omega,i + 1,rfl,by omega,by simpa using ht,rfl⟩
    ·have h2' : ¬ (c.toNat : Int) = 10 := by omega
     have ho : oddB c = true := by simp [oddB,h1,h2]
     simp [L_ref04_text_1,r0,r6,hlt',hx,avByte,h1,h1',h2,h2',hf ho,hset]
   ·have h1' : ¬ (c.toNat : Int) < 32 := by omega
    have ho : oddB c = false := by simp [oddB,h1]
    rw [ho] at ht
    simp [L_ref04_text_1,r0,r6,hlt',hx,avByte,h1,h1',hw,-Int.natCast_add]
    exact ⟨s.length - (i + 1),by omega,i + 1,rfl,by omega,by simpa using ht,rfl⟩
  ·have hlt' : ¬ (i : Int) < s.length := by omega
   have hie : i = s.length := by omega
   subst hie
   rw [List.take_length] at ha
   have : textB' s = true := by
    unfold textB'
    have h2 : s.any oddB = false := by
     rw [Bool.eq_false_iff]
     intro hh
     obtain ⟨c,hc,ho⟩ := List.any_eq_true.1 hh
     have := List.all_eq_true.1 ha c hc
     simp [ho] at this
    simp [h2,hb]
   simp [L_ref04_text_1,K_ref04_text_1,r0,r6,this,hset]
end
end Go.Proofs.Eng
namespace Go.Proofs.Eng
open Go

def wfB (b : List UInt8) : Prop := stopOf b = b.length

theorem rstop_shift : ∀ (k at' : Nat) (b : List UInt8),rstop k at' b = at' + rstop k 0 b
 | 0,at',b => rfl
 | k + 1,at',b => by
  simp only [rstop]
  split
  ·rfl
  ·rw [rstop_shift k (at' + (rfirst b).2.toNat),rstop_shift k (0 + (rfirst b).2.toNat)]; omega
theorem stopOf_step {b : List UInt8} (h : (rfirst b).2 ≠ 0) : stopOf b = (rfirst b).2.toNat + stopOf (b.drop (rfirst b).2.toNat) := by
 unfold stopOf
 rw [rstop_step h,rstop_shift]; omega
theorem wf_cons {b : List UInt8} (h1 : (rfirst b).2 ≠ 0) (h : wfB (b.drop (rfirst b).2.toNat)) : wfB b := by
 unfold wfB at *
 rw [stopOf_step h1,h,List.length_drop]
 rcases rfirst_bound b with h' | ⟨g1,g2,g3⟩
 ·exact absurd h' h1
 ·omega
end Go.Proofs.Eng
namespace Go.Proofs.Eng
open Go
section
variable {Γ : Sums} {A : Tab} {N : Nat -> Nat}

theorem rfirst_ascii {c : UInt8} {r : List UInt8} (h : c.toNat < 128) : (rfirst (c :: r)).2 = 1 := by
 simp [rfirst,lead,h]
theorem wf_ascii : ∀ (s : List UInt8),(∀ c ∈ s,c.toNat < 128) -> wfB s
 | [],_ => by simp [wfB,stopOf,rstop]
 | c :: r,h => by
  have h1 := rfirst_ascii (r := r) (h c List.mem_cons_self)
  refine wf_cons (by rw [h1]; decide) ?_
  rw [h1]
  exact wf_ascii r fun d hd => h d (List.mem_cons_of_mem _ hd)
end
end Go.Proofs.Eng
namespace Go.Proofs.Eng
open Go

theorem blank0 {c : UInt8} {y : List UInt8} (h1 : isBlank c = false) (h2 : c.toNat ≠ 47) : blankB (c :: y) = 0 := by
 rw [blankB_cons,h1]
 have : ((47 : UInt8) == c) = false := by rw [beq_eq_false_iff_ne]; rintro rfl; exact h2 rfl
 simp [List.isPrefixOf,this]
end Go.Proofs.Eng
namespace Go.Proofs.Eng
open Go

def kt (t : Tok) : Nat × List UInt8 := (t.1,t.2.1)

theorem lexR_ok {b : List UInt8} {l : List Tok} {p : Nat} (h : lexR b = (l,0,p)) : wfB b /\ tokR (blankB b) (b.drop (blankB b)) = (l,none) := by
 unfold lexR at h
 split at h
 ·simp at h
 ·split at h
  ·simp at h
  ·rename_i h1 h2
   refine ⟨Classical.byContradiction fun hn => h2 hn,?_⟩
   split at h
   ·rename_i l' e; simp only [Prod.mk.injEq] at h; rw [e,h.1]
   ·simp at h
section
variable {Γ : Sums} {A : Tab} {N : Nat -> Nat}

end
end Go.Proofs.Eng
namespace Go.Proofs.Eng
open Go
def rAliasB (s : List UInt8) : Bool := (s.head?.map isHigh).getD false && s.all isInAlias
section
variable {Γ : Sums} {A : Tab} {N : Nat -> Nat}
theorem ref04_Alias_call (h : RefK Γ A N) (s : List UInt8) (hl : s.length < 2 ^ 40) (H : Hp) : (lim Γ A).call (f_ref04_Alias N) [avStr s] H = some (avBool (rAliasB s),none) := by
 apply h.alias.call (by rfl)
 simp [C_ref04_Alias,-Int.natCast_add]
 refine wp_round (fun k ρ H' => H' = { l := H.l,d := none } /\ ∃ i : Nat,ρ 0 = avStr s /\ ρ 3 = avInt .i64 i /\ i <= s.length /\ (s.take i).all isInAlias = true /\ (0 < i -> (s.head?.map isHigh).getD false = true) /\ k = s.length - i) (n := s.length) ⟨rfl,0,rfl,rfl,by omega,by simp,by omega,rfl⟩ ?_
 rintro k ρ H' ⟨rfl,i,r0,r3,hi,ha,hp,rfl⟩
 by_cases hlt : i < s.length
 ·have hlt' : (i : Int) < s.length := by omega
  have hx := asidx_nat (k := .i64) hlt
  have hw : IntKind.wrap .i64 ((i : Int) + 1) = ((i + 1 : Nat) : Int) := by rw [wrap64 (by omega) (by omega)]; omega
  have ht := all_take hlt ha
  have stN : isInAlias s[i] = false -> rAliasB s = false := fun hc => by
   unfold rAliasB
   rw [all_false hlt hc,Bool.and_false]
  have hhd : i = 0 -> (s.head?.map isHigh).getD false = isHigh s[i] := by
   rintro rfl
   simp [List.head?_eq_getElem?,List.getElem?_eq_getElem hlt]
  have st0 : i = 0 -> isHigh s[i] = false -> rAliasB s = false := fun h0 hc => by
   unfold rAliasB
   rw [hhd h0,hc,Bool.false_and]
  have hd0 : i = 0 -> isHigh s[i] = true -> (s.head?.map isHigh).getD false = true := fun h0 hc => by rw [hhd h0,hc]
  have hc256 := (s[i]).toNat_lt
  generalize s[i] = c at *
  have hcases : c.toNat < 48 \/ (48 <= c.toNat /\ c.toNat < 58) \/ (58 <= c.toNat /\ c.toNat < 65) \/ (65 <= c.toNat /\ c.toNat < 91) \/ (91 <= c.toNat /\ c.toNat < 97) \/ (97 <= c.toNat /\ c.toNat < 123) \/ 123 <= c.toNat := by omega
  rcases hcases with hc | hc | hc | hc | hc | hc | hc
  ·have hr : 0 <= c.toNat /\ c.toNat < 48 := by omega
   have n65 : ¬ 65 <= c.toNat := by omega
   have z65 : ¬ 65 <= (c.toNat : Int) := by omega
   have n90 : c.toNat <= 90 := by omega
   have z90 : (c.toNat : Int) <= 90 := by omega
   have n97 : c.toNat < 97 := by omega
   have z97 : (c.toNat : Int) < 97 := by omega
   have n122 : ¬ 122 < c.toNat := by omega
   have z122 : ¬ 122 < (c.toNat : Int) := by omega
   have n48 : c.toNat < 48 := by omega
   have z48 : (c.toNat : Int) < 48 := by omega
   have n57 : ¬ 57 < c.toNat := by omega
   have z57 : ¬ 57 < (c.toNat : Int) := by omega
   have hh : isHigh c = false := by simp [isHigh]; omega
   have hi2 : isInAlias c = false := by simp [isInAlias,isHigh,isDigit]; omega
   by_cases h0 : i = 0
   ·subst h0
    have hx0 : asidx (avStr s) (.lit (.int .i64 0)) = some (avByte c) := hx
    simp [L_ref04_Alias_1,r0,r3,avByte,hlt',hlt,n65,z65,n90,z90,n97,z97,n122,z122,n48,z48,n57,z57,hx0,avByte,st0 rfl hh,settle,keeps,-Int.natCast_add]
   ·have h0' : ¬ (i : Int) = 0 := by omega
    simp [L_ref04_Alias_1,r0,r3,avByte,hlt',hlt,n65,z65,n90,z90,n97,z97,n122,z122,n48,z48,n57,z57,hx,h0,h0',stN hi2,settle,keeps,-Int.natCast_add]
  ·have hr : 48 <= c.toNat /\ c.toNat < 58 := by omega
   have n65 : ¬ 65 <= c.toNat := by omega
   have z65 : ¬ 65 <= (c.toNat : Int) := by omega
   have n90 : c.toNat <= 90 := by omega
   have z90 : (c.toNat : Int) <= 90 := by omega
   have n97 : c.toNat < 97 := by omega
   have z97 : (c.toNat : Int) < 97 := by omega
   have n122 : ¬ 122 < c.toNat := by omega
   have z122 : ¬ 122 < (c.toNat : Int) := by omega
   have n48 : ¬ c.toNat < 48 := by omega
   have z48 : ¬ (c.toNat : Int) < 48 := by omega
   have n57 : ¬ 57 < c.toNat := by omega
   have z57 : ¬ 57 < (c.toNat : Int) := by omega
   have hh : isHigh c = false := by simp [isHigh]; omega
   have hi2 : isInAlias c = true := by simp [isInAlias,isHigh,isDigit]; omega
   by_cases h0 : i = 0
   ·subst h0
    have hx0 : asidx (avStr s) (.lit (.int .i64 0)) = some (avByte c) := hx
    simp [L_ref04_Alias_1,r0,r3,avByte,hlt',hlt,n65,z65,n90,z90,n97,z97,n122,z122,n48,z48,n57,z57,hx0,avByte,st0 rfl hh,settle,keeps,-Int.natCast_add]
   ·have h0' : ¬ (i : Int) = 0 := by omega
    simp [L_ref04_Alias_1,r0,r3,avByte,hlt',hlt,n65,z65,n90,z90,n97,z97,n122,z122,n48,z48,n57,z57,hx,h0,h0',hw,-Int.natCast_add]
    exact ⟨s.length - (i + 1),by omega,i + 1,rfl,by omega,by simpa using ht.trans hi2,fun _ => hp (by omega),rfl⟩
  ·have hr : 58 <= c.toNat /\ c.toNat < 65 := by omega
   have n65 : ¬ 65 <= c.toNat := by omega
   have z65 : ¬ 65 <= (c.toNat : Int) := by omega
   have n90 : c.toNat <= 90 := by omega
   have z90 : (c.toNat : Int) <= 90 := by omega
   have n97 : c.toNat < 97 := by omega
   have z97 : (c.toNat : Int) < 97 := by omega
   have n122 : ¬ 122 < c.toNat := by omega
   have z122 : ¬ 122 < (c.toNat : Int) := by omega
   have n48 : ¬ c.toNat < 48 := by omega
   have z48 : ¬ (c.toNat : Int) < 48 := by omega
   have n57 : 57 < c.toNat := by omega
   have z57 : 57 < (c.toNat : Int) := by omega
   have hh : isHigh c = false := by simp [isHigh]; omega
   have hi2 : isInAlias c = false := by simp [isInAlias,isHigh,isDigit]; omega
   by_cases h0 : i = 0
   ·subst h0
    have hx0 : asidx (avStr s) (.lit (.int .i64 0)) = some (avByte c) := hx
    simp [L_ref04_Alias_1,r0,r3,avByte,hlt',hlt,n65,z65,n90,z90,n97,z97,n122,z122,n48,z48,n57,z57,hx0,avByte,st0 rfl hh,settle,keeps,-Int.natCast_add]
   ·have h0' : ¬ (i : Int) = 0 := by omega
    simp [L_ref04_Alias_1,r0,r3,avByte,hlt',hlt,n65,z65,n90,z90,n97,z97,n122,z122,n48,z48,n57,z57,hx,h0,h0',stN hi2,settle,keeps,-Int.natCast_add]
  ·have hr : 65 <= c.toNat /\ c.toNat < 91 := by omega
   have n65 : 65 <= c.toNat := by omega
   have z65 : 65 <= (c.toNat : Int) := by omega
   have n90 : c.toNat <= 90 := by omega
   have z90 : (c.toNat : Int) <= 90 := by omega
   have n97 : c.toNat < 97 := by omega
   have z97 : (c.toNat : Int) < 97 := by omega
   have n122 : ¬ 122 < c.toNat := by omega
   have z122 : ¬ 122 < (c.toNat : Int) := by omega
   have n48 : ¬ c.toNat < 48 := by omega
   have z48 : ¬ (c.toNat : Int) < 48 := by omega
   have n57 : 57 < c.toNat := by omega
   have z57 : 57 < (c.toNat : Int) := by omega
   have hh : isHigh c = true := by simp [isHigh]; omega
   have hi2 : isInAlias c = true := by simp [isInAlias,isHigh,isDigit]; omega
   by_cases h0 : i = 0
   ·subst h0
    have hx0 : asidx (avStr s) (.lit (.int .i64 0)) = some (avByte c) := hx
    simp [L_ref04_Alias_1,r0,r3,avByte,hlt',hlt,n65,z65,n90,z90,n97,z97,n122,z122,n48,z48,n57,z57,hx0,avByte,hw,-Int.natCast_add]
    exact ⟨s.length - (0 + 1),by omega,0 + 1,rfl,by omega,by simpa using ht.trans hi2,fun _ => hd0 rfl hh,rfl⟩
   ·have h0' : ¬ (i : Int) = 0 := by omega
    simp [L_ref04_Alias_1,r0,r3,avByte,hlt',hlt,n65,z65,n90,z90,n97,z97,n122,z122,n48,z48,n57,z57,hx,h0,h0',hw,-Int.natCast_add]
    exact ⟨s.length - (i + 1),by omega,i + 1,rfl,by omega,by simpa using ht.trans hi2,fun _ => hp (by omega),rfl⟩
  ·have hr : 91 <= c.toNat /\ c.toNat < 97 := by omega
   have n65 : 65 <= c.toNat := by omega
   have z65 : 65 <= (c.toNat : Int) := by omega
   have n90 : ¬ c.toNat <= 90 := by omega
   have z90 : ¬ (c.toNat : Int) <= 90 := by omega
   have n97 : c.toNat < 97 := by omega
   have z97 : (c.toNat : Int) < 97 := by omega
   have n122 : ¬ 122 < c.toNat := by omega
   have z122 : ¬ 122 < (c.toNat : Int) := by omega
   have n48 : ¬ c.toNat < 48 := by omega
   have z48 : ¬ (c.toNat : Int) < 48 := by omega
   have n57 : 57 < c.toNat := by omega
   have z57 : 57 < (c.toNat : Int) := by omega
   have hh : isHigh c = false := by simp [isHigh]; omega
   have hi2 : isInAlias c = false := by simp [isInAlias,isHigh,isDigit]; omega
   by_cases h0 : i = 0
   ·subst h0
    have hx0 : asidx (avStr s) (.lit (.int .i64 0)) = some (avByte c) := hx
    simp [L_ref04_Alias_1,r0,r3,avByte,hlt',hlt,n65,z65,n90,z90,n97,z97,n122,z122,n48,z48,n57,z57,hx0,avByte,st0 rfl hh,settle,keeps,-Int.natCast_add]
   ·have h0' : ¬ (i : Int) = 0 := by omega
    simp [L_ref04_Alias_1,r0,r3,avByte,hlt',hlt,n65,z65,n90,z90,n97,z97,n122,z122,n48,z48,n57,z57,hx,h0,h0',stN hi2,settle,keeps,-Int.natCast_add]
  ·have hr : 97 <= c.toNat /\ c.toNat < 123 := by omega
   have n65 : 65 <= c.toNat := by omega
   have z65 : 65 <= (c.toNat : Int) := by omega
   have n90 : ¬ c.toNat <= 90 := by omega
   have z90 : ¬ (c.toNat : Int) <= 90 := by omega
   have n97 : ¬ c.toNat < 97 := by omega
   have z97 : ¬ (c.toNat : Int) < 97 := by omega
   have n122 : ¬ 122 < c.toNat := by omega
   have z122 : ¬ 122 < (c.toNat : Int) := by omega
   have n48 : ¬ c.toNat < 48 := by omega
   have z48 : ¬ (c.toNat : Int) < 48 := by omega
   have n57 : 57 < c.toNat := by omega
   have z57 : 57 < (c.toNat : Int) := by omega
   have hh : isHigh c = false := by simp [isHigh]; omega
   have hi2 : isInAlias c = true := by simp [isInAlias,isHigh,isDigit]; omega
   by_cases h0 : i = 0
   ·subst h0
    have hx0 : asidx (avStr s) (.lit (.int .i64 0)) = some (avByte c) := hx
    simp [L_ref04_Alias_1,r0,r3,avByte,hlt',hlt,n65,z65,n90,z90,n97,z97,n122,z122,n48,z48,n57,z57,hx0,avByte,st0 rfl hh,settle,keeps,-Int.natCast_add]
   ·have h0' : ¬ (i : Int) = 0 := by omega
    simp [L_ref04_Alias_1,r0,r3,avByte,hlt',hlt,n65,z65,n90,z90,n97,z97,n122,z122,n48,z48,n57,z57,hx,h0,h0',hw,-Int.natCast_add]
    exact ⟨s.length - (i + 1),by omega,i + 1,rfl,by omega,by simpa using ht.trans hi2,fun _ => hp (by omega),rfl⟩
  ·have hr : 123 <= c.toNat /\ c.toNat < 256 := by omega
   have n65 : 65 <= c.toNat := by omega
   have z65 : 65 <= (c.toNat : Int) := by omega
   have n90 : ¬ c.toNat <= 90 := by omega
   have z90 : ¬ (c.toNat : Int) <= 90 := by omega
   have n97 : ¬ c.toNat < 97 := by omega
   have z97 : ¬ (c.toNat : Int) < 97 := by omega
   have n122 : 122 < c.toNat := by omega
   have z122 : 122 < (c.toNat : Int) := by omega
   have n48 : ¬ c.toNat < 48 := by omega
   have z48 : ¬ (c.toNat : Int) < 48 := by omega
   have n57 : 57 < c.toNat := by omega
   have z57 : 57 < (c.toNat : Int) := by omega
   have hh : isHigh c = false := by simp [isHigh]; omega
   have hi2 : isInAlias c = false := by simp [isInAlias,isHigh,isDigit]; omega
   by_cases h0 : i = 0
   ·subst h0
    have hx0 : asidx (avStr s) (.lit (.int .i64 0)) = some (avByte c) := hx
    simp [L_ref04_Alias_1,r0,r3,avByte,hlt',hlt,n65,z65,n90,z90,n97,z97,n122,z122,n48,z48,n57,z57,hx0,avByte,st0 rfl hh,settle,keeps,-Int.natCast_add]
   ·have h0' : ¬ (i : Int) = 0 := by omega
    simp [L_ref04_Alias_1,r0,r3,avByte,hlt',hlt,n65,z65,n90,z90,n97,z97,n122,z122,n48,z48,n57,z57,hx,h0,h0',stN hi2,settle,keeps,-Int.natCast_add]
 ·have hlt' : ¬ (i : Int) < s.length := by omega
  have hie : i = s.length := by omega
  subst hie
  rw [List.take_length] at ha
  have : rAliasB s = !decide (s = []) := by
   unfold rAliasB
   cases s with
   | nil => rfl
   | cons a r => rw [hp (by simp),ha]; simp
  simp [L_ref04_Alias_1,K_ref04_Alias_1,r0,r3,this,settle,keeps]
  try (cases s <;> simp)
end
end Go.Proofs.Eng
namespace Go.Proofs.Eng
open Go
theorem inAlias_small {c : UInt8} (h : isInAlias c = true) : c.toNat < 128 /\ c.toNat ≠ 39 /\ isBlank c = false /\ c.toNat ≠ 47 := by
 simp only [isInAlias,isHigh,isDigit,Bool.or_eq_true,Bool.and_eq_true,decide_eq_true_eq] at h
 refine ⟨by omega,by omega,?_,by omega⟩
 simp only [isBlank,Bool.or_eq_false_iff,decide_eq_false_iff_not]
 omega
theorem high_inAlias {c : UInt8} (h : isHigh c = true) : isInAlias c = true := by simp [isInAlias,h]
theorem one_alias {s : List UInt8} {t : List UInt8} {n : Nat} (h : oneB s = some (2,t,n)) : rAliasB t = true := by
 cases s with
 | nil => simp [oneB] at h
 | cons c r =>
  simp only [oneB,oneC] at h
  split at h
  ·split at h <;> simp at h
  ·split at h
   ·split at h <;> simp at h
   ·split at h
    ·rename_i hh
     simp only [Option.some.injEq,Prod.mk.injEq,true_and] at h
     obtain ⟨rfl,rfl⟩ := h
     rw [runB_take]
     unfold rAliasB
     have hc := high_inAlias hh
     have e : (c :: r).takeWhile isInAlias = c :: r.takeWhile isInAlias := by simp [List.takeWhile_cons,hc]
     rw [e]
     simp only [List.head?_cons,Option.map_some,Option.getD_some,hh,Bool.true_and]
     rw [<- e]
     exact List.all_takeWhile
    ·split at h
     ·split at h <;> simp at h
     ·split at h
      ·simp at h
      ·split at h
       ·obtain ⟨q,_,e⟩ := Option.map_eq_some_iff.1 h
        simp at e
       ·obtain ⟨q,_,e⟩ := Option.map_eq_some_iff.1 h
        simp at e
theorem tok_alias : ∀ (k : Nat) (a : Nat) (s : List UInt8),∀ t ∈ (tokF k a s).1,t.1 = 2 -> rAliasB t.2.1 = true
 | 0,a,s => by simp [tokF]
 | k + 1,a,s => by
  intro t ht h2
  simp only [tokF] at ht
  split at ht
  ·simp at ht; subst ht; simp at h2
  ·cases ho : oneB s with
   | none => rw [ho] at ht; simp at ht
   | some q =>
    obtain ⟨kd,u,n⟩ := q
    rw [ho] at ht
    simp only [List.mem_cons] at ht
    rcases ht with rfl | ht
    ·simp only at h2
     subst h2
     exact one_alias ho
    ·exact tok_alias k _ _ t ht h2
theorem lexR_alias {s : List UInt8} (h : rAliasB s = true) (hl : s.length <= 1048576) : lexR s = ([(2,s,0),(0,[],s.length)],0,0) := by
 cases s with
 | nil => simp [rAliasB] at h
 | cons c r =>
  simp only [rAliasB,List.head?_cons,Option.map_some,Option.getD_some,Bool.and_eq_true] at h
  obtain ⟨h1,h2⟩ := h
  have hall : ∀ d ∈ c :: r,isInAlias d = true := List.all_eq_true.1 h2
  have hc := inAlias_small (hall c List.mem_cons_self)
  have hwf : stopOf (c :: r) = (c :: r).length := wf_ascii _ fun d hd => (inAlias_small (hall d hd)).1
  have hb : blankB (c :: r) = 0 := blank0 hc.2.2.1 hc.2.2.2
  have hp : ([102,39] : List UInt8).isPrefixOf (c :: r) = false := by
   cases r with
   | nil => simp [List.isPrefixOf]
   | cons d r' =>
    have hd := inAlias_small (hall d (by simp))
    have : ((39 : UInt8) == d) = false := by
     rw [beq_eq_false_iff_ne]; rintro rfl; exact hd.2.1 rfl
    simp [List.isPrefixOf,this]
  have hlow : isLow c = false := by
   simp only [isHigh,Bool.and_eq_true,decide_eq_true_eq] at h1
   simp only [isLow,Bool.or_eq_false_iff,Bool.and_eq_false_iff,decide_eq_false_iff_not]
   omega
  have hrun : runB isInAlias (c :: r) = (c :: r).length := by
   have key : ∀ l : List UInt8,(∀ d ∈ l,isInAlias d = true) -> l.takeWhile isInAlias = l := by
    intro l
    induction l with
    | nil => intro _; rfl
    | cons a l ih => intro h; rw [List.takeWhile_cons,h a (by simp)]; simp only [if_true]; rw [ih fun d hd => h d (by simp [hd])]
   unfold runB
   rw [key _ hall]
  have ho : oneB (c :: r) = some (2,c :: r,(c :: r).length) := by
   simp only [oneB,oneC]
   rw [hp,hlow,h1,hrun,List.take_length]
   simp
  unfold lexR
  rw [if_neg (by omega),if_neg (by simpa using hwf),hb,List.drop_zero,tokR_some (by simp) ho,List.drop_length]
  simp [tokR_nil,blankB_nil]
theorem alias_eq {s : List UInt8} (hl : s.length <= 1048576) : aliasB s = rAliasB s := by
 cases hr : rAliasB s with
 | true =>
  unfold aliasB
  rw [lexR_alias hr hl]
  simp
 | false =>
  rw [Bool.eq_false_iff]
  intro ha
  unfold aliasB at ha
  simp only [Bool.and_eq_true,decide_eq_true_eq] at ha
  obtain ⟨h0,h1⟩ := ha
  split at h1
  ·rename_i t u he
   simp only [Bool.and_eq_true,decide_eq_true_eq] at h1
   have hok := lexR_ok (b := s) (l := (lexR s).1) (p := (lexR s).2.2) (by rw [<- h0])
   have hm : t ∈ (tokR (blankB s) (s.drop (blankB s))).1 := by rw [hok.2,he]; simp
   have := tok_alias _ _ _ t hm h1.1
   rw [h1.2,hr] at this
   cases this
  ·cases h1
end Go.Proofs.Eng
namespace Go.Proofs.Eng
open Go
def asksB (k : Int) : Bool := !(decide (k = 1) || decide (k = 2) || decide (k = 4) || decide (k = 6) || decide (k = 9) || decide (k = 15) || decide (k = 16))
def tailB (n : Nd) (nm nu bi : Bool) (kk tt : Int) : Bool :=
 !((asksB n.kind && !nm) || (!asksB n.kind && !decide (n.name = []))) &&
 !(((decide (n.kind = 1) || decide (n.kind = 2)) != nu) || (!nu && !decide (n.int = 0)) || (decide (n.kind = 4) != bi) || (!decide (n.kind = 4) && !decide (n.bits = 0))) &&
 (decide (n.names = []) && decide ((n.kids.length : Int) = kk) && decide ((n.types.length : Int) = tt))
section
variable {Γ : Sums} {A : Tab} {N : Nat -> Nat}
set_option maxHeartbeats 4000000 in
theorem term_end {H : Hp} {n : Nd} {a b c : AV} {nm nu bi : Bool} {kk tt : Int} {ρ : Rho} (ha : asLen a = some n.names.length) (hb : asLen b = some n.kids.length) (hc : asLen c = some n.types.length)
  (hk : n.kind = 0 \/ n.kind = 1 \/ n.kind = 2 \/ n.kind = 3 \/ n.kind = 4 \/ n.kind = 5 \/ n.kind = 6 \/ n.kind = 7 \/ n.kind = 8 \/ n.kind = 9 \/ n.kind = 11 \/ n.kind = 13 \/ n.kind = 14 \/ n.kind = 15 \/ n.kind = 16)
  (r1 : ρ 1 = .ptr H.l.length 0) (r3 : ρ 3 = avBool nm) (r4 : ρ 4 = avBool nu) (r5 : ρ 5 = avBool bi) (r6 : ρ 6 = avInt .i64 kk) (r7 : ρ 7 = avInt .i64 tt) {G : Hp}
  (hbox : hget G H.l.length = some (.cells [avInt .i64 n.kind,avInt .i64 n.pos,avStr n.name,avInt .i64 n.int,avInt .u64 n.bits,a,b,c] (t_api_Node N))) (hset : ∀ b : Bool,settle H (avBool b) G = (avBool b,none)) :
  wp (lim Γ A) none (K_ref04_term_2 N) ρ G (Ends [.inl 2] false H fun p => p = (avBool (tailB n nm nu bi kk tt),none)) := by
 have e0 : ∀ l : List (List UInt8),decide ((l.length : Int) = 0) = decide (l = []) := fun l => by cases l <;> simp; omega
 unfold tailB
 generalize e1 : decide (n.name = []) = b1
 generalize e2 : decide (n.int = 0) = b2
 generalize e3 : decide (n.bits = 0) = b3
 generalize e4 : decide (n.names = []) = b4
 generalize e5 : decide ((n.kids.length : Int) = kk) = b5
 generalize e6 : decide ((n.types.length : Int) = tt) = b6
 rcases hk with hk | hk | hk | hk | hk | hk | hk | hk | hk | hk | hk | hk | hk | hk | hk <;> (
  rw [hk] at hbox ⊢
  simp [K_ref04_term_2,r1,r3,r4,r5,r6,r7,hbox,ha,hb,hc,asksB,loadC,e0,e1,e2,e3,e4,e5,e6,hset]
  repeat' (first | (apply guardP_intro <;> intro hg <;> (try simp at hg) <;> simp [*]) | (apply iteP_intro <;> intro hg <;> (try simp at hg) <;> simp [*])))
end
end Go.Proofs.Eng
namespace Go.Proofs.Eng
open Go
theorem tagB_tagW (s : List UInt8) : tagB s = tagW s := by
 unfold tagW
 rw [nameB_tag]
 cases hw : isWordB s with
 | false => simp
 | true =>
  have : tagB s = true := by
   unfold isWordB at hw
   have hm := of_decide_eq_true hw
   have key : ∀ w ∈ wordsL,tagB w = true := by decide
   exact key s hm
  rw [this]; rfl
def plainB (n : Nd) : Bool :=
 if n.kind = 0 then tailB n (isNameB n.name) false false 0 0
 else if n.kind = 1 then tailB n false (decide (0 <= n.int)) false 0 0
 else if n.kind = 2 then tailB n false (decide (n.int = 0) || decide (n.int = 1)) false 0 0
 else if n.kind = 3 then tailB n (textB' n.name) false false 0 0
 else if n.kind = 4 then tailB n false false (decide (ofB n.bits = n.bits)) 0 0
 else if n.kind = 5 \/ n.kind = 13 then tailB n (isNameB n.name) false false 1 0
 else if n.kind = 6 then tailB n false false false 2 0
 else if n.kind = 7 \/ n.kind = 8 then tailB n (isNameB n.name) false false 2 0
 else if n.kind = 9 then tailB n false false false 3 0
 else if n.kind = 11 then tailB n (tagB n.name) false false 1 0
 else if n.kind = 14 then tailB n (decide (n.name ∈ opsL)) false false 2 0
 else if n.kind = 15 then tailB n false false false 1 1
 else if n.kind = 16 then tailB n false false false 1 2
 else false
def Nd.wf (n : Nd) : Prop := 0 <= n.bits /\ n.bits < 2 ^ 64
section
variable {Γ : Sums} {A : Tab} {N : Nat -> Nat}
set_option maxHeartbeats 4000000 in
theorem ref04_term_plain (h : RefK Γ A N) {H : Hp} {x : AV} {n : Nd} (hn : NdR H x n) (ok : n.ok) (wf : n.wf) (h10 : n.kind ≠ 10) (h12 : n.kind ≠ 12) : (lim Γ A).call (f_ref04_term N) [x] H = some (avBool (plainB n),none) := by
 obtain ⟨a,b,c,rfl,va,vb,vc⟩ := hn
 obtain ⟨o1,o2,o3,o4,o5⟩ := ok
 have la := VS.len va
 have lb := VI.len vb
 have lc := VI.len vc
 have pa := va.one
 have pb := vb.one
 have pc := vc.one
 obtain ⟨w,hw,hwl⟩ : ∃ w : Nat,n.bits = (w : Int) /\ w < 2 ^ 64 := ⟨n.bits.toNat,by have := wf.1; omega,by have := wf.1; have := wf.2; omega⟩
 have e1 := fun H => ref04_Name_call' h.tag h.word n.name (by omega) H
 have e2 := fun H => ref04_Tag_call h.tag n.name (by omega) H
 have e3 := fun H => ref04_text_call h n.name (by omega) H
 have e4 := fun H => ref04_op_call h n.name H
 obtain ⟨Hb,hHb⟩ : ∃ Hb,Hb = halloc { l := H.l,d := none } (.cells [avInt .i64 n.kind,avInt .i64 n.pos,avStr n.name,avInt .i64 n.int,avInt .u64 n.bits,a,b,c] (t_api_Node N)) := ⟨_,rfl⟩
 have hbox : hget Hb H.l.length = some (.cells [avInt .i64 n.kind,avInt .i64 n.pos,avStr n.name,avInt .i64 n.int,avInt .u64 n.bits,a,b,c] (t_api_Node N)) := by subst hHb; simp
 have hset : ∀ b : Bool,settle H (avBool b) Hb = (avBool b,none) := fun b => by subst hHb; simp [settle,keeps]
 obtain ⟨p1,p2,p3,p4,e5⟩ := ref02_Parts_call h w hwl Hb
 rw [<- hw] at e5
 have e6 := ofB_none w
 rw [<- hw] at e6
 have fin := fun {nm nu bi : Bool} {kk tt : Int} {ρ : Rho} (hk) (r1 : ρ 1 = .ptr H.l.length 0) (r3 : ρ 3 = avBool nm) (r4 : ρ 4 = avBool nu) (r5 : ρ 5 = avBool bi) (r6 : ρ 6 = avInt .i64 kk) (r7 : ρ 7 = avInt .i64 tt) => term_end (Γ := Γ) (A := A) (N := N) (H := H) (n := n) la lb lc hk r1 r3 r4 r5 r6 r7 hbox hset
 apply h.term.call (by rfl)
 unfold plainB
 unfold ndV
 have hk : (n.kind = 0 \/ n.kind = 1 \/ n.kind = 2 \/ n.kind = 3 \/ n.kind = 4 \/ n.kind = 5 \/ n.kind = 6 \/ n.kind = 7 \/ n.kind = 8 \/ n.kind = 9 \/ n.kind = 11 \/ n.kind = 13 \/ n.kind = 14 \/ n.kind = 15 \/ n.kind = 16) \/ (n.kind < 0 \/ 16 < n.kind) := by omega
 have f10 : (n.kind = 10) = False := by simp [h10]
 have f12 : (n.kind = 12) = False := by simp [h12]
 rcases hk with hk | hk
 ·have hk' := hk
  rcases hk' with k | k | k | k | k | k | k | k | k | k | k | k | k | k | k
  ·have d0 : (n.kind = 0) = True := by simp [k]
   have d1 : (n.kind = 1) = False := by simp [k]
   have d2 : (n.kind = 2) = False := by simp [k]
   have d3 : (n.kind = 3) = False := by simp [k]
   have d4 : (n.kind = 4) = False := by simp [k]
   have d5 : (n.kind = 5) = False := by simp [k]
   have d6 : (n.kind = 6) = False := by simp [k]
   have d7 : (n.kind = 7) = False := by simp [k]
   have d8 : (n.kind = 8) = False := by simp [k]
   have d9 : (n.kind = 9) = False := by simp [k]
   have d11 : (n.kind = 11) = False := by simp [k]
   have d13 : (n.kind = 13) = False := by simp [k]
   have d14 : (n.kind = 14) = False := by simp [k]
   have d15 : (n.kind = 15) = False := by simp [k]
   have d16 : (n.kind = 16) = False := by simp [k]
   simp [C_ref04_term,pa,pb,pc,<- hHb,hbox,d0,d1,d2,d3,d4,d5,d6,d7,d8,d9,d11,d13,d14,d15,d16,f10,f12,loadC,e1,e2,e3,e4,e5,e6,ge_iff_le]
   exact fin hk (by simp) (by simp) (by simp) (by simp) (by simp) (by simp)
  ·have d0 : (n.kind = 0) = False := by simp [k]
   have d1 : (n.kind = 1) = True := by simp [k]
   have d2 : (n.kind = 2) = False := by simp [k]
   have d3 : (n.kind = 3) = False := by simp [k]
   have d4 : (n.kind = 4) = False := by simp [k]
   have d5 : (n.kind = 5) = False := by simp [k]
   have d6 : (n.kind = 6) = False := by simp [k]
   have d7 : (n.kind = 7) = False := by simp [k]
   have d8 : (n.kind = 8) = False := by simp [k]
   have d9 : (n.kind = 9) = False := by simp [k]
   have d11 : (n.kind = 11) = False := by simp [k]
   have d13 : (n.kind = 13) = False := by simp [k]
   have d14 : (n.kind = 14) = False := by simp [k]
   have d15 : (n.kind = 15) = False := by simp [k]
   have d16 : (n.kind = 16) = False := by simp [k]
   simp [C_ref04_term,pa,pb,pc,<- hHb,hbox,d0,d1,d2,d3,d4,d5,d6,d7,d8,d9,d11,d13,d14,d15,d16,f10,f12,loadC,e1,e2,e3,e4,e5,e6,ge_iff_le]
   exact fin hk (by simp) (by simp) (by simp) (by simp) (by simp) (by simp)
  ·have d0 : (n.kind = 0) = False := by simp [k]
   have d1 : (n.kind = 1) = False := by simp [k]
   have d2 : (n.kind = 2) = True := by simp [k]
   have d3 : (n.kind = 3) = False := by simp [k]
   have d4 : (n.kind = 4) = False := by simp [k]
   have d5 : (n.kind = 5) = False := by simp [k]
   have d6 : (n.kind = 6) = False := by simp [k]
   have d7 : (n.kind = 7) = False := by simp [k]
   have d8 : (n.kind = 8) = False := by simp [k]
   have d9 : (n.kind = 9) = False := by simp [k]
   have d11 : (n.kind = 11) = False := by simp [k]
   have d13 : (n.kind = 13) = False := by simp [k]
   have d14 : (n.kind = 14) = False := by simp [k]
   have d15 : (n.kind = 15) = False := by simp [k]
   have d16 : (n.kind = 16) = False := by simp [k]
   by_cases i0 : n.int = 0
   ·have z0 : (n.int = 0) = True := by simp [i0]
    simp [C_ref04_term,pa,pb,pc,<- hHb,hbox,d0,d1,d2,d3,d4,d5,d6,d7,d8,d9,d11,d13,d14,d15,d16,f10,f12,loadC,z0]
    exact fin hk (by simp) (by simp) (by simp) (by simp) (by simp) (by simp)
   ·have z0 : (n.int = 0) = False := by simp [i0]
    simp [C_ref04_term,pa,pb,pc,<- hHb,hbox,d0,d1,d2,d3,d4,d5,d6,d7,d8,d9,d11,d13,d14,d15,d16,f10,f12,loadC,z0]
    exact fin hk (by simp) (by simp) (by simp) (by simp) (by simp) (by simp)
  ·have d0 : (n.kind = 0) = False := by simp [k]
   have d1 : (n.kind = 1) = False := by simp [k]
   have d2 : (n.kind = 2) = False := by simp [k]
   have d3 : (n.kind = 3) = True := by simp [k]
   have d4 : (n.kind = 4) = False := by simp [k]
   have d5 : (n.kind = 5) = False := by simp [k]
   have d6 : (n.kind = 6) = False := by simp [k]
   have d7 : (n.kind = 7) = False := by simp [k]
   have d8 : (n.kind = 8) = False := by simp [k]
   have d9 : (n.kind = 9) = False := by simp [k]
   have d11 : (n.kind = 11) = False := by simp [k]
   have d13 : (n.kind = 13) = False := by simp [k]
   have d14 : (n.kind = 14) = False := by simp [k]
   have d15 : (n.kind = 15) = False := by simp [k]
   have d16 : (n.kind = 16) = False := by simp [k]
   simp [C_ref04_term,pa,pb,pc,<- hHb,hbox,d0,d1,d2,d3,d4,d5,d6,d7,d8,d9,d11,d13,d14,d15,d16,f10,f12,loadC,e1,e2,e3,e4,e5,e6,ge_iff_le]
   exact fin hk (by simp) (by simp) (by simp) (by simp) (by simp) (by simp)
  ·have d0 : (n.kind = 0) = False := by simp [k]
   have d1 : (n.kind = 1) = False := by simp [k]
   have d2 : (n.kind = 2) = False := by simp [k]
   have d3 : (n.kind = 3) = False := by simp [k]
   have d4 : (n.kind = 4) = True := by simp [k]
   have d5 : (n.kind = 5) = False := by simp [k]
   have d6 : (n.kind = 6) = False := by simp [k]
   have d7 : (n.kind = 7) = False := by simp [k]
   have d8 : (n.kind = 8) = False := by simp [k]
   have d9 : (n.kind = 9) = False := by simp [k]
   have d11 : (n.kind = 11) = False := by simp [k]
   have d13 : (n.kind = 13) = False := by simp [k]
   have d14 : (n.kind = 14) = False := by simp [k]
   have d15 : (n.kind = 15) = False := by simp [k]
   have d16 : (n.kind = 16) = False := by simp [k]
   rcases hnb : noneB w with _ | _
   ·rw [hnb] at e5 e6
    simp [C_ref04_term,pa,pb,pc,<- hHb,hbox,d0,d1,d2,d3,d4,d5,d6,d7,d8,d9,d11,d13,d14,d15,d16,f10,f12,loadC,e5,e6]
    exact fin hk (by simp) (by simp) (by simp) (by simp) (by simp) (by simp)
   ·rw [hnb] at e5 e6
    simp [C_ref04_term,pa,pb,pc,<- hHb,hbox,d0,d1,d2,d3,d4,d5,d6,d7,d8,d9,d11,d13,d14,d15,d16,f10,f12,loadC,e5,e6]
    exact fin hk (by simp) (by simp) (by simp) (by simp) (by simp) (by simp)
  ·have d0 : (n.kind = 0) = False := by simp [k]
   have d1 : (n.kind = 1) = False := by simp [k]
   have d2 : (n.kind = 2) = False := by simp [k]
   have d3 : (n.kind = 3) = False := by simp [k]
   have d4 : (n.kind = 4) = False := by simp [k]
   have d5 : (n.kind = 5) = True := by simp [k]
   have d6 : (n.kind = 6) = False := by simp [k]
   have d7 : (n.kind = 7) = False := by simp [k]
   have d8 : (n.kind = 8) = False := by simp [k]
   have d9 : (n.kind = 9) = False := by simp [k]
   have d11 : (n.kind = 11) = False := by simp [k]
   have d13 : (n.kind = 13) = False := by simp [k]
   have d14 : (n.kind = 14) = False := by simp [k]
   have d15 : (n.kind = 15) = False := by simp [k]
   have d16 : (n.kind = 16) = False := by simp [k]
   simp [C_ref04_term,pa,pb,pc,<- hHb,hbox,d0,d1,d2,d3,d4,d5,d6,d7,d8,d9,d11,d13,d14,d15,d16,f10,f12,loadC,e1,e2,e3,e4,e5,e6,ge_iff_le]
   exact fin hk (by simp) (by simp) (by simp) (by simp) (by simp) (by simp)
  ·have d0 : (n.kind = 0) = False := by simp [k]
   have d1 : (n.kind = 1) = False := by simp [k]
   have d2 : (n.kind = 2) = False := by simp [k]
   have d3 : (n.kind = 3) = False := by simp [k]
   have d4 : (n.kind = 4) = False := by simp [k]
   have d5 : (n.kind = 5) = False := by simp [k]
   have d6 : (n.kind = 6) = True := by simp [k]
   have d7 : (n.kind = 7) = False := by simp [k]
   have d8 : (n.kind = 8) = False := by simp [k]
   have d9 : (n.kind = 9) = False := by simp [k]
   have d11 : (n.kind = 11) = False := by simp [k]
   have d13 : (n.kind = 13) = False := by simp [k]
   have d14 : (n.kind = 14) = False := by simp [k]
   have d15 : (n.kind = 15) = False := by simp [k]
   have d16 : (n.kind = 16) = False := by simp [k]
   simp [C_ref04_term,pa,pb,pc,<- hHb,hbox,d0,d1,d2,d3,d4,d5,d6,d7,d8,d9,d11,d13,d14,d15,d16,f10,f12,loadC,e1,e2,e3,e4,e5,e6,ge_iff_le]
   exact fin hk (by simp) (by simp) (by simp) (by simp) (by simp) (by simp)
  ·have d0 : (n.kind = 0) = False := by simp [k]
   have d1 : (n.kind = 1) = False := by simp [k]
   have d2 : (n.kind = 2) = False := by simp [k]
   have d3 : (n.kind = 3) = False := by simp [k]
   have d4 : (n.kind = 4) = False := by simp [k]
   have d5 : (n.kind = 5) = False := by simp [k]
   have d6 : (n.kind = 6) = False := by simp [k]
   have d7 : (n.kind = 7) = True := by simp [k]
   have d8 : (n.kind = 8) = False := by simp [k]
   have d9 : (n.kind = 9) = False := by simp [k]
   have d11 : (n.kind = 11) = False := by simp [k]
   have d13 : (n.kind = 13) = False := by simp [k]
   have d14 : (n.kind = 14) = False := by simp [k]
   have d15 : (n.kind = 15) = False := by simp [k]
   have d16 : (n.kind = 16) = False := by simp [k]
   simp [C_ref04_term,pa,pb,pc,<- hHb,hbox,d0,d1,d2,d3,d4,d5,d6,d7,d8,d9,d11,d13,d14,d15,d16,f10,f12,loadC,e1,e2,e3,e4,e5,e6,ge_iff_le]
   exact fin hk (by simp) (by simp) (by simp) (by simp) (by simp) (by simp)
  ·have d0 : (n.kind = 0) = False := by simp [k]
   have d1 : (n.kind = 1) = False := by simp [k]
   have d2 : (n.kind = 2) = False := by simp [k]
   have d3 : (n.kind = 3) = False := by simp [k]
   have d4 : (n.kind = 4) = False := by simp [k]
   have d5 : (n.kind = 5) = False := by simp [k]
   have d6 : (n.kind = 6) = False := by simp [k]
   have d7 : (n.kind = 7) = False := by simp [k]
   have d8 : (n.kind = 8) = True := by simp [k]
   have d9 : (n.kind = 9) = False := by simp [k]
   have d11 : (n.kind = 11) = False := by simp [k]
   have d13 : (n.kind = 13) = False := by simp [k]
   have d14 : (n.kind = 14) = False := by simp [k]
   have d15 : (n.kind = 15) = False := by simp [k]
   have d16 : (n.kind = 16) = False := by simp [k]
   simp [C_ref04_term,pa,pb,pc,<- hHb,hbox,d0,d1,d2,d3,d4,d5,d6,d7,d8,d9,d11,d13,d14,d15,d16,f10,f12,loadC,e1,e2,e3,e4,e5,e6,ge_iff_le]
   exact fin hk (by simp) (by simp) (by simp) (by simp) (by simp) (by simp)
  ·have d0 : (n.kind = 0) = False := by simp [k]
   have d1 : (n.kind = 1) = False := by simp [k]
   have d2 : (n.kind = 2) = False := by simp [k]
   have d3 : (n.kind = 3) = False := by simp [k]
   have d4 : (n.kind = 4) = False := by simp [k]
   have d5 : (n.kind = 5) = False := by simp [k]
   have d6 : (n.kind = 6) = False := by simp [k]
   have d7 : (n.kind = 7) = False := by simp [k]
   have d8 : (n.kind = 8) = False := by simp [k]
   have d9 : (n.kind = 9) = True := by simp [k]
   have d11 : (n.kind = 11) = False := by simp [k]
   have d13 : (n.kind = 13) = False := by simp [k]
   have d14 : (n.kind = 14) = False := by simp [k]
   have d15 : (n.kind = 15) = False := by simp [k]
   have d16 : (n.kind = 16) = False := by simp [k]
   simp [C_ref04_term,pa,pb,pc,<- hHb,hbox,d0,d1,d2,d3,d4,d5,d6,d7,d8,d9,d11,d13,d14,d15,d16,f10,f12,loadC,e1,e2,e3,e4,e5,e6,ge_iff_le]
   exact fin hk (by simp) (by simp) (by simp) (by simp) (by simp) (by simp)
  ·have d0 : (n.kind = 0) = False := by simp [k]
   have d1 : (n.kind = 1) = False := by simp [k]
   have d2 : (n.kind = 2) = False := by simp [k]
   have d3 : (n.kind = 3) = False := by simp [k]
   have d4 : (n.kind = 4) = False := by simp [k]
   have d5 : (n.kind = 5) = False := by simp [k]
   have d6 : (n.kind = 6) = False := by simp [k]
   have d7 : (n.kind = 7) = False := by simp [k]
   have d8 : (n.kind = 8) = False := by simp [k]
   have d9 : (n.kind = 9) = False := by simp [k]
   have d11 : (n.kind = 11) = True := by simp [k]
   have d13 : (n.kind = 13) = False := by simp [k]
   have d14 : (n.kind = 14) = False := by simp [k]
   have d15 : (n.kind = 15) = False := by simp [k]
   have d16 : (n.kind = 16) = False := by simp [k]
   simp [C_ref04_term,pa,pb,pc,<- hHb,hbox,d0,d1,d2,d3,d4,d5,d6,d7,d8,d9,d11,d13,d14,d15,d16,f10,f12,loadC,e1,e2,e3,e4,e5,e6,ge_iff_le]
   exact fin hk (by simp) (by simp) (by simp) (by simp) (by simp) (by simp)
  ·have d0 : (n.kind = 0) = False := by simp [k]
   have d1 : (n.kind = 1) = False := by simp [k]
   have d2 : (n.kind = 2) = False := by simp [k]
   have d3 : (n.kind = 3) = False := by simp [k]
   have d4 : (n.kind = 4) = False := by simp [k]
   have d5 : (n.kind = 5) = False := by simp [k]
   have d6 : (n.kind = 6) = False := by simp [k]
   have d7 : (n.kind = 7) = False := by simp [k]
   have d8 : (n.kind = 8) = False := by simp [k]
   have d9 : (n.kind = 9) = False := by simp [k]
   have d11 : (n.kind = 11) = False := by simp [k]
   have d13 : (n.kind = 13) = True := by simp [k]
   have d14 : (n.kind = 14) = False := by simp [k]
   have d15 : (n.kind = 15) = False := by simp [k]
   have d16 : (n.kind = 16) = False := by simp [k]
   simp [C_ref04_term,pa,pb,pc,<- hHb,hbox,d0,d1,d2,d3,d4,d5,d6,d7,d8,d9,d11,d13,d14,d15,d16,f10,f12,loadC,e1,e2,e3,e4,e5,e6,ge_iff_le]
   exact fin hk (by simp) (by simp) (by simp) (by simp) (by simp) (by simp)
  ·have d0 : (n.kind = 0) = False := by simp [k]
   have d1 : (n.kind = 1) = False := by simp [k]
   have d2 : (n.kind = 2) = False := by simp [k]
   have d3 : (n.kind = 3) = False := by simp [k]
   have d4 : (n.kind = 4) = False := by simp [k]
   have d5 : (n.kind = 5) = False := by simp [k]
   have d6 : (n.kind = 6) = False := by simp [k]
   have d7 : (n.kind = 7) = False := by simp [k]
   have d8 : (n.kind = 8) = False := by simp [k]
   have d9 : (n.kind = 9) = False := by simp [k]
   have d11 : (n.kind = 11) = False := by simp [k]
   have d13 : (n.kind = 13) = False := by simp [k]
   have d14 : (n.kind = 14) = True := by simp [k]
   have d15 : (n.kind = 15) = False := by simp [k]
   have d16 : (n.kind = 16) = False := by simp [k]
   simp [C_ref04_term,pa,pb,pc,<- hHb,hbox,d0,d1,d2,d3,d4,d5,d6,d7,d8,d9,d11,d13,d14,d15,d16,f10,f12,loadC,e1,e2,e3,e4,e5,e6,ge_iff_le]
   exact fin hk (by simp) (by simp) (by simp) (by simp) (by simp) (by simp)
  ·have d0 : (n.kind = 0) = False := by simp [k]
   have d1 : (n.kind = 1) = False := by simp [k]
   have d2 : (n.kind = 2) = False := by simp [k]
   have d3 : (n.kind = 3) = False := by simp [k]
   have d4 : (n.kind = 4) = False := by simp [k]
   have d5 : (n.kind = 5) = False := by simp [k]
   have d6 : (n.kind = 6) = False := by simp [k]
   have d7 : (n.kind = 7) = False := by simp [k]
   have d8 : (n.kind = 8) = False := by simp [k]
   have d9 : (n.kind = 9) = False := by simp [k]
   have d11 : (n.kind = 11) = False := by simp [k]
   have d13 : (n.kind = 13) = False := by simp [k]
   have d14 : (n.kind = 14) = False := by simp [k]
   have d15 : (n.kind = 15) = True := by simp [k]
   have d16 : (n.kind = 16) = False := by simp [k]
   simp [C_ref04_term,pa,pb,pc,<- hHb,hbox,d0,d1,d2,d3,d4,d5,d6,d7,d8,d9,d11,d13,d14,d15,d16,f10,f12,loadC,e1,e2,e3,e4,e5,e6,ge_iff_le]
   exact fin hk (by simp) (by simp) (by simp) (by simp) (by simp) (by simp)
  ·have d0 : (n.kind = 0) = False := by simp [k]
   have d1 : (n.kind = 1) = False := by simp [k]
   have d2 : (n.kind = 2) = False := by simp [k]
   have d3 : (n.kind = 3) = False := by simp [k]
   have d4 : (n.kind = 4) = False := by simp [k]
   have d5 : (n.kind = 5) = False := by simp [k]
   have d6 : (n.kind = 6) = False := by simp [k]
   have d7 : (n.kind = 7) = False := by simp [k]
   have d8 : (n.kind = 8) = False := by simp [k]
   have d9 : (n.kind = 9) = False := by simp [k]
   have d11 : (n.kind = 11) = False := by simp [k]
   have d13 : (n.kind = 13) = False := by simp [k]
   have d14 : (n.kind = 14) = False := by simp [k]
   have d15 : (n.kind = 15) = False := by simp [k]
   have d16 : (n.kind = 16) = True := by simp [k]
   simp [C_ref04_term,pa,pb,pc,<- hHb,hbox,d0,d1,d2,d3,d4,d5,d6,d7,d8,d9,d11,d13,d14,d15,d16,f10,f12,loadC,e1,e2,e3,e4,e5,e6,ge_iff_le]
   exact fin hk (by simp) (by simp) (by simp) (by simp) (by simp) (by simp)
 ·have d0 : (n.kind = 0) = False := by simp; omega
  have d1 : (n.kind = 1) = False := by simp; omega
  have d2 : (n.kind = 2) = False := by simp; omega
  have d3 : (n.kind = 3) = False := by simp; omega
  have d4 : (n.kind = 4) = False := by simp; omega
  have d5 : (n.kind = 5) = False := by simp; omega
  have d6 : (n.kind = 6) = False := by simp; omega
  have d7 : (n.kind = 7) = False := by simp; omega
  have d8 : (n.kind = 8) = False := by simp; omega
  have d9 : (n.kind = 9) = False := by simp; omega
  have d11 : (n.kind = 11) = False := by simp; omega
  have d13 : (n.kind = 13) = False := by simp; omega
  have d14 : (n.kind = 14) = False := by simp; omega
  have d15 : (n.kind = 15) = False := by simp; omega
  have d16 : (n.kind = 16) = False := by simp; omega
  simp [C_ref04_term,pa,pb,pc,<- hHb,hbox,d0,d1,d2,d3,d4,d5,d6,d7,d8,d9,d11,d13,d14,d15,d16,f10,f12,loadC,hset]
end
end Go.Proofs.Eng
namespace Go.Proofs.Eng
open Go
def recB (n : Nd) : Bool := decide (n.name = []) && (decide (n.int = 0) && (decide (n.bits = 0) && (decide (n.types = []) && (decide ((n.names.length : Int) = n.kids.length) && (n.names.all isNameB && onceB n.names)))))
section
variable {Γ : Sums} {A : Tab} {N : Nat -> Nat}
set_option maxHeartbeats 1000000 in
theorem ref04_term_record (h : RefK Γ A N) {H : Hp} {x : AV} {n : Nd} (hn : NdR H x n) (ok : n.ok) (k : n.kind = 12) : (lim Γ A).call (f_ref04_term N) [x] H = some (avBool (recB n),none) := by
 obtain ⟨a,b,c,rfl,va,vb,vc⟩ := hn
 obtain ⟨o1,o2,o3,o4,o5⟩ := ok
 have la := VS.len va
 have lb := VI.len vb
 have lc := VI.len vc
 have pa := va.one
 have pb := vb.one
 have pc := vc.one
 have hset : ∀ (b : Bool) (o : AObj),settle H (avBool b) (halloc { l := H.l,d := none } o) = (avBool b,none) := fun b o => by simp [settle,keeps]
 have va' : ∀ o,VS (halloc { l := H.l,d := none } o) a n.names := fun o => va.keep fun id hid => by rw [hget_halloc,if_neg (by simp; omega)]; rfl
 have e1 := fun o => ref04_names_call h (va' o) (by omega) (fun s hs => by have := o2 s hs; omega)
 have e2 := fun o => ref04_once_call h (va' o) (by omega)
 have e0 : ∀ l : List Int,decide ((l.length : Int) = 0) = decide (l = []) := fun l => by cases l <;> simp; omega
 apply h.term.call (by rfl)
 unfold ndV recB
 generalize q1 : decide (n.name = []) = b1
 generalize q2 : decide (n.int = 0) = b2
 generalize q3 : decide (n.bits = 0) = b3
 generalize q4 : decide (n.types = []) = b4
 generalize q5 : decide ((n.names.length : Int) = n.kids.length) = b5
 generalize q6 : n.names.all isNameB = b6 at *
 generalize q7 : onceB n.names = b7 at *
 have d0 : (n.kind = 0) = False := by simp [k]
 have d1 : (n.kind = 1) = False := by simp [k]
 have d2 : (n.kind = 2) = False := by simp [k]
 have d3 : (n.kind = 3) = False := by simp [k]
 have d4 : (n.kind = 4) = False := by simp [k]
 have d5 : (n.kind = 5) = False := by simp [k]
 have d6 : (n.kind = 6) = False := by simp [k]
 have d7 : (n.kind = 7) = False := by simp [k]
 have d8 : (n.kind = 8) = False := by simp [k]
 have d9 : (n.kind = 9) = False := by simp [k]
 have d10 : (n.kind = 10) = False := by simp [k]
 have d11 : (n.kind = 11) = False := by simp [k]
 have d12 : (n.kind = 12) = True := by simp [k]
 have d13 : (n.kind = 13) = False := by simp [k]
 have d14 : (n.kind = 14) = False := by simp [k]
 have d15 : (n.kind = 15) = False := by simp [k]
 have d16 : (n.kind = 16) = False := by simp [k]
 simp [C_ref04_term,pa,pb,pc,d0,d1,d2,d3,d4,d5,d6,d7,d8,d9,d10,d11,d12,d13,d14,d15,d16,loadC,la,lb,lc,e0,e1,e2,q1,q2,q3,q4,q5,hset]
 clear k
 all_goals skip
 repeat' (first | (apply guardP_intro <;> intro hg <;> (try simp at hg) <;> simp [*]) | (apply iteP_intro <;> intro hg <;> (try simp at hg) <;> simp [*]))
end
end Go.Proofs.Eng
namespace Go.Proofs.Eng
open Go
def caseE (n : Nd) : Bool := decide (n.name = []) && (decide (n.int = 0) && (decide (n.bits = 0) && (decide (n.types = []) && (decide ((n.names.length : Int) % 2 = 0) && ((decide ((n.kids.length : Int) - (evens n.names).length = 1) || decide ((n.kids.length : Int) - (evens n.names).length = 2)) && onceB (evens n.names))))))
def caseB (n : Nd) : Bool := ((evens n.names).all tagB && (odds n.names).all isNameB) && caseE n
theorem evens_in : ∀ (l : List (List UInt8)) (i : Nat),∀ x ∈ evens (l.take i),x ∈ evens l
 | [],i,x,hx => by simp [evens] at hx
 | a :: l,0,x,hx => by simp [evens] at hx
 | [a],i + 1,x,hx => by simpa [evens] using hx
 | a :: b :: l,1,x,hx => by simp [evens] at hx ⊢; exact .inl hx
 | a :: b :: l,i + 2,x,hx => by
  simp [evens] at hx ⊢
  rcases hx with hx | hx
  ·exact .inl hx
  ·exact .inr (evens_in l i x hx)
theorem odds_in : ∀ (l : List (List UInt8)) (i : Nat),∀ x ∈ odds (l.take i),x ∈ odds l
 | [],i,x,hx => by simp [odds] at hx
 | a :: l,0,x,hx => by simp [odds] at hx
 | [a],i + 1,x,hx => by simp [odds] at hx
 | a :: b :: l,1,x,hx => by simp [odds] at hx
 | a :: b :: l,i + 2,x,hx => by
  simp [odds] at hx ⊢
  rcases hx with hx | hx
  ·exact .inl hx
  ·exact .inr (odds_in l i x hx)
theorem all_of_false {p : List UInt8 -> Bool} {l : List (List UInt8)} {x : List UInt8} (hm : x ∈ l) (h : p x = false) : l.all p = false := by
 rw [Bool.eq_false_iff]
 intro hh
 rw [List.all_eq_true.1 hh x hm] at h
 cases h
section
variable {Γ : Sums} {A : Tab} {N : Nat -> Nat}
set_option maxHeartbeats 1000000 in
theorem case_end (h : RefK Γ A N) {H G : Hp} {n : Nd} {a b c v : AV} {ρ : Rho} (la : asLen a = some n.names.length) (lb : asLen b = some n.kids.length) (lc : asLen c = some n.types.length) (o3 : n.names.length < 2 ^ 30) (o4 : n.kids.length < 2 ^ 30)
  (hv : VS G v (evens n.names)) (r1 : ρ 1 = .ptr H.l.length 0) (r13 : ρ 13 = v)
  (hbox : hget G H.l.length = some (.cells [avInt .i64 n.kind,avInt .i64 n.pos,avStr n.name,avInt .i64 n.int,avInt .u64 n.bits,a,b,c] (t_api_Node N))) (hset : ∀ b : Bool,settle H (avBool b) G = (avBool b,none)) :
  wp (lim Γ A) none (K_ref04_term_1 N) ρ G fun x ρ' G' => x = .ret /\ G' = G /\ ρ' 2 = avBool (caseE n) := by
 have hle := evens_len n.names
 have lv := VS.len hv
 have e1 := ref04_once_call h hv (by omega)
 have e0 : ∀ l : List Int,decide ((l.length : Int) = 0) = decide (l = []) := fun l => by cases l <;> simp; omega
 have hw : IntKind.wrap .i64 ((n.kids.length : Int) - (evens n.names).length) = (n.kids.length : Int) - (evens n.names).length := by rw [wrap64 (by omega) (by omega)]
 have htm : Int.tmod (n.names.length : Int) 2 = (n.names.length : Int) % 2 := Int.tmod_eq_emod_of_nonneg (by omega)
 unfold caseE
 generalize q1 : decide (n.name = []) = b1
 generalize q2 : decide (n.int = 0) = b2
 generalize q3 : decide (n.bits = 0) = b3
 generalize q4 : decide (n.types = []) = b4
 generalize q5 : decide ((n.names.length : Int) % 2 = 0) = b5
 generalize q6 : decide ((n.kids.length : Int) - (evens n.names).length = 1) = b6
 generalize q7 : decide ((n.kids.length : Int) - (evens n.names).length = 2) = b7
 generalize q8 : onceB (evens n.names) = b8 at *
 simp [K_ref04_term_1,r1,r13,hbox,loadC,la,lb,lc,lv,e0,e1,hw,htm,q1,q2,q3,q4,q5,q6,q7,hset]
 repeat' (first | (apply guardP_intro <;> intro hg <;> (try simp at hg) <;> simp [*]) | (apply iteP_intro <;> intro hg <;> (try simp at hg) <;> simp [*]))
set_option maxHeartbeats 1000000 in
theorem ref04_term_case (h : RefK Γ A N) {H : Hp} {x : AV} {n : Nd} (hn : NdR H x n) (ok : n.ok) (k : n.kind = 10) : (lim Γ A).call (f_ref04_term N) [x] H = some (avBool (caseB n),none) := by
 obtain ⟨a,b,c,rfl,va,vb,vc⟩ := hn
 obtain ⟨o1,o2,o3,o4,o5⟩ := ok
 have la := VS.len va
 have lb := VI.len vb
 have lc := VI.len vc
 have pa := va.one
 have pb := vb.one
 have pc := vc.one
 apply h.term.call (by rfl)
 unfold ndV
 have d0 : (n.kind = 0) = False := by simp [k]
 have d1 : (n.kind = 1) = False := by simp [k]
 have d2 : (n.kind = 2) = False := by simp [k]
 have d3 : (n.kind = 3) = False := by simp [k]
 have d4 : (n.kind = 4) = False := by simp [k]
 have d5 : (n.kind = 5) = False := by simp [k]
 have d6 : (n.kind = 6) = False := by simp [k]
 have d7 : (n.kind = 7) = False := by simp [k]
 have d8 : (n.kind = 8) = False := by simp [k]
 have d9 : (n.kind = 9) = False := by simp [k]
 have d10 : (n.kind = 10) = True := by simp [k]
 have d11 : (n.kind = 11) = False := by simp [k]
 have d12 : (n.kind = 12) = False := by simp [k]
 have d13 : (n.kind = 13) = False := by simp [k]
 have d14 : (n.kind = 14) = False := by simp [k]
 have d15 : (n.kind = 15) = False := by simp [k]
 have d16 : (n.kind = 16) = False := by simp [k]
 simp [C_ref04_term,pa,pb,pc,d0,d1,d2,d3,d4,d5,d6,d7,d8,d9,d10,d11,d12,d13,d14,d15,d16,loadC,la,-Int.natCast_add,-halloc_d]
 refine wp_round (fun q ρ G => ∃ (i : Nat) (v : AV) (os : List (Nat × AObj)),ρ 1 = .ptr H.l.length 0 /\ ρ 13 = v /\ ρ 133 = avInt .i64 n.names.length /\ ρ 134 = avInt .i64 i /\ i <= n.names.length /\ Row (t_string N) 1 v ((evens (n.names.take i)).map avStr) os /\
   Loc H G (os ++ [(H.l.length,.cells [avInt .i64 n.kind,avInt .i64 n.pos,avStr n.name,avInt .i64 n.int,avInt .u64 n.bits,a,b,c] (t_api_Node N))]) /\ (evens (n.names.take i)).all tagB = true /\ (odds (n.names.take i)).all isNameB = true /\ q = n.names.length - i) (n := n.names.length)
  ⟨0,_,[(H.l.length + 1,.arr 1 [] (t_string N))],by simp,rfl,by simp,by simp,by omega,by simp [evens]; exact .inr ⟨H.l.length + 1,by simp,rfl⟩,?_,by simp [evens],by simp [odds],rfl⟩ ?_
 ·have hl0 := (((Loc.start H).alloc (.cells [avInt .i64 n.kind,avInt .i64 n.pos,avStr n.name,avInt .i64 n.int,avInt .u64 n.bits,a,b,c] (t_api_Node N))).alloc (.arr 1 [] (t_string N)))
  simpa using hl0
 rintro q ρ G ⟨i,v,os,r1,r13,r133,r134,hi,hv,hL,hE,hO,rfl⟩
 have hbox : hget G H.l.length = some (.cells [avInt .i64 n.kind,avInt .i64 n.pos,avStr n.name,avInt .i64 n.int,avInt .u64 n.bits,a,b,c] (t_api_Node N)) := hL.get (p := (H.l.length,_)) (by simp)
 have hx' : VS G a n.names := va.loc hL
 have hset : ∀ b : Bool,settle H (avBool b) G = (avBool b,none) := fun b => settle_keeps hL.keeps rfl
 by_cases hlt : i < n.names.length
 ·have hlt' : (i : Int) < n.names.length := by omega
  obtain ⟨q,q1,q2⟩ := hx'.at' (k := .i64) (i := (i : Int)) (e := avStr n.names[i]) (by omega) (by simp [List.getElem?_eq_getElem hlt]) rfl rfl rfl
  have hw : IntKind.wrap .i64 ((i : Int) + 1) = ((i + 1 : Nat) : Int) := by rw [wrap64 (by omega) (by omega)]; omega
  have htk : n.names.take (i + 1) = n.names.take i ++ [n.names[i]] := List.take_succ_eq_append_getElem hlt
  have hti : (n.names.take i).length = i := by simp; omega
  have hev := evens_snoc (n.names.take i) n.names[i]
  have hod := odds_snoc (n.names.take i) n.names[i]
  rw [<- htk,hti] at hev hod
  have hle := evens_len (n.names.take i)
  rw [hti] at hle
  have htm : Int.tmod (i : Int) 2 = ((i % 2 : Nat) : Int) := by rfl
  have hlen := o2 _ (List.getElem_mem hlt)
  have eT := fun H => ref04_Tag_call h.tag n.names[i] (by omega) H
  have eN := fun H => ref04_Name_call' h.tag h.word n.names[i] (by omega) H
  have hgi : (n.names.map avStr)[((i : Int)).toNat]? = some (avStr n.names[i]) := by simp [List.getElem?_eq_getElem hlt]
  have hinE : i % 2 = 0 -> n.names[i] ∈ evens n.names := fun hm => evens_in n.names (i + 1) _ (by rw [hev,if_pos hm]; simp)
  have hinO : ¬ i % 2 = 0 -> n.names[i] ∈ odds n.names := fun hm => odds_in n.names (i + 1) _ (by rw [hod,if_neg hm]; simp)
  generalize n.names[i] = s at *
  by_cases hm : i % 2 = 0
  ·rw [if_pos hm] at hev hod
   have hm' : (i : Int) % 2 = 0 := by omega
   have hL1 := (hL.alloc (.arr 1 [avStr s] (t_string N))).perm (os' := os ++ ([(H.l.length,.cells [avInt .i64 n.kind,avInt .i64 n.pos,avStr n.name,avInt .i64 n.int,avInt .u64 n.bits,a,b,c] (t_api_Node N))] ++ [(G.l.length,.arr 1 [avStr s] (t_string N))])) (by rw [<- List.append_assoc]; exact (List.perm_append_singleton _ _).symm)
   obtain ⟨u',G',ou,a1,a2,a3⟩ := hv.append (bytes := 16) (ys := [avStr s]) hL1 (by simp) (by simp [roomMax]; omega) (by simp)
   rw [show (evens (n.names.take i)).map avStr ++ [avStr s] = (evens (n.names.take (i + 1))).map avStr from by rw [hev]; simp] at a2
   have a4 : Loc H G' (ou ++ [(H.l.length,.cells [avInt .i64 n.kind,avInt .i64 n.pos,avStr n.name,avInt .i64 n.int,avInt .u64 n.bits,a,b,c] (t_api_Node N))]) := a3.sub (by simp)
   have hbox' : hget G' H.l.length = some (.cells [avInt .i64 n.kind,avInt .i64 n.pos,avStr n.name,avInt .i64 n.int,avInt .u64 n.bits,a,b,c] (t_api_Node N)) := a4.get (p := (H.l.length,_)) (by simp)
   have hx2 : VS G' a n.names := va.loc a4
   obtain ⟨q',q1',q2'⟩ := hx2.at' (k := .i64) (i := (i : Int)) (e := avStr s) (by omega) hgi rfl rfl rfl
   obtain rfl : q = q' := by rw [q1] at q1'; simpa using q1'
   have hset' : ∀ b : Bool,settle H (avBool b) G' = (avBool b,none) := fun b => settle_keeps a4.keeps rfl
   rcases ht : tagB s with _ | _
   ·have : caseB n = false := by unfold caseB; rw [all_of_false (hinE hm) ht]; rfl
    rw [ht] at eT
    simp [L_ref04_term_1,r1,r13,r133,r134,hbox,hbox',hlt',loadC,q1,q2,q1',q2',htm,hm,hm',fillA,repl,setFrom,chunk,asElems,a1,eT,this,hset',-halloc_d,-Int.natCast_add]
   ·rw [ht] at eT
    simp [L_ref04_term_1,r1,r13,r133,r134,hbox,hbox',hlt',loadC,q1,q2,q1',q2',htm,hm,hm',fillA,repl,setFrom,chunk,asElems,a1,eT,hw,-halloc_d,-Int.natCast_add]
    exact ⟨n.names.length - (i + 1),by omega,i + 1,rfl,by omega,ou,a2,a4,List.all_eq_true.1 (by rw [hev,List.all_append,hE]; simp [ht]),List.all_eq_true.1 (by rw [hod]; exact hO),rfl⟩
  ·rw [if_neg hm] at hev hod
   have hm' : ¬ (i : Int) % 2 = 0 := by omega
   rcases ht : isNameB s with _ | _
   ·have : caseB n = false := by unfold caseB; rw [all_of_false (hinO hm) ht,Bool.and_false]; rfl
    rw [ht] at eN
    simp [L_ref04_term_1,r1,r13,r133,r134,hbox,hlt',loadC,q1,q2,htm,hm,hm',eN,this,hset,-halloc_d,-Int.natCast_add]
   ·rw [ht] at eN
    simp [L_ref04_term_1,r1,r13,r133,r134,hbox,hlt',loadC,q1,q2,htm,hm,hm',eN,hw,-halloc_d,-Int.natCast_add]
    exact ⟨n.names.length - (i + 1),by omega,i + 1,rfl,by omega,os,by rw [hev]; exact hv,hL,List.all_eq_true.1 (by rw [hev]; exact hE),List.all_eq_true.1 (by rw [hod,List.all_append,hO]; simp [ht]),rfl⟩
 ·have hlt' : ¬ (i : Int) < n.names.length := by omega
  rw [List.take_of_length_le (by omega)] at hv hE hO
  have : caseB n = caseE n := by unfold caseB; rw [hE,hO]; rfl
  rw [this]
  simp [L_ref04_term_1,r1,r13,r133,r134,hlt',-halloc_d]
  refine wp_mono _ (fun x ρ' G' hp => ?_) (case_end h (H := H) (n := n) (v := v) la lb lc (by omega) (by omega) (hv.vw hL) (by simp [r1]) (by simp [r13]) hbox hset)
  obtain ⟨rfl,rfl,e2⟩ := hp
  simp [e2,hset]
end
end Go.Proofs.Eng
namespace Go.Proofs.Eng
open Go
def refTermB (n : Nd) : Bool := if n.kind = 10 then caseB n else if n.kind = 12 then recB n else plainB n
theorem evens_odds {α : Type} : ∀ (l : List α),l.length % 2 = 0 -> (evens l).length = (odds l).length
 | [],_ => rfl
 | [a],h => by simp at h
 | a :: b :: r,h => by simp only [evens,odds,List.length_cons]; rw [evens_odds r (by simp at h; omega)]
theorem len0 {α : Type} (l : List α) : decide ((l.length : Int) = 0) = decide (l = []) := by cases l <;> simp; omega
theorem term_eq (n : Nd) : refTermB n = termB n := by
 have hk : n.kind = 0 \/ n.kind = 1 \/ n.kind = 2 \/ n.kind = 3 \/ n.kind = 4 \/ n.kind = 5 \/ n.kind = 6 \/ n.kind = 7 \/ n.kind = 8 \/ n.kind = 9 \/ n.kind = 10 \/ n.kind = 11 \/ n.kind = 12 \/ n.kind = 13 \/ n.kind = 14 \/ n.kind = 15 \/ n.kind = 16 \/ (n.kind < 0 \/ 16 < n.kind) := by omega
 have i1 : decide (0 <= n.int) = !decide (n.int < 0) := by
  by_cases h : n.int < 0
  ·have : ¬ 0 <= n.int := by omega
   simp [h,this]
  ·have : 0 <= n.int := by omega
   simp [h,this]
 have i2 : (decide (n.int = 0) || decide (n.int = 1)) = (!decide (n.int < 0) && !decide (1 < n.int)) := by
  by_cases h : n.int < 0
  ·have h1 : ¬ n.int = 0 := by omega
   have h2 : ¬ n.int = 1 := by omega
   simp [h,h1,h2]
  ·by_cases h3 : 1 < n.int
   ·have h1 : ¬ n.int = 0 := by omega
    have h2 : ¬ n.int = 1 := by omega
    simp [h,h3,h1,h2]
   ·have : n.int = 0 \/ n.int = 1 := by omega
    rcases this with e | e <;> simp [e]
 unfold refTermB plainB tailB termB namedB fitB
 rcases hk with k | k | k | k | k | k | k | k | k | k | k | k | k | k | k | k | k | k
 ·simp [k,asksB,shapeOf,len0,tagB_tagW,i1,i2]
  try simp [Bool.and_comm,Bool.and_left_comm,Bool.and_assoc]
 ·simp [k,asksB,shapeOf,len0,tagB_tagW,i1,i2]
  rcases Bool.eq_false_or_eq_true (decide (n.int < 0)) with e | e <;> rcases Bool.eq_false_or_eq_true (decide (1 < n.int)) with e' | e' <;> simp [e,e',Bool.and_comm,Bool.and_left_comm,Bool.and_assoc]
 ·simp [k,asksB,shapeOf,len0,tagB_tagW,i1,i2]
  rcases Bool.eq_false_or_eq_true (decide (n.int < 0)) with e | e <;> rcases Bool.eq_false_or_eq_true (decide (1 < n.int)) with e' | e' <;> simp [e,e',Bool.and_comm,Bool.and_left_comm,Bool.and_assoc]
 ·simp [k,asksB,shapeOf,len0,tagB_tagW,i1,i2]
  try simp [Bool.and_comm,Bool.and_left_comm,Bool.and_assoc]
 ·simp [k,asksB,shapeOf,len0,tagB_tagW,i1,i2]
  try simp [Bool.and_comm,Bool.and_left_comm,Bool.and_assoc]
 ·simp [k,asksB,shapeOf,len0,tagB_tagW,i1,i2]
  try simp [Bool.and_comm,Bool.and_left_comm,Bool.and_assoc]
 ·simp [k,asksB,shapeOf,len0,tagB_tagW,i1,i2]
  try simp [Bool.and_comm,Bool.and_left_comm,Bool.and_assoc]
 ·simp [k,asksB,shapeOf,len0,tagB_tagW,i1,i2]
  try simp [Bool.and_comm,Bool.and_left_comm,Bool.and_assoc]
 ·simp [k,asksB,shapeOf,len0,tagB_tagW,i1,i2]
  try simp [Bool.and_comm,Bool.and_left_comm,Bool.and_assoc]
 ·simp [k,asksB,shapeOf,len0,tagB_tagW,i1,i2]
  try simp [Bool.and_comm,Bool.and_left_comm,Bool.and_assoc]
 ·by_cases hm : n.names.length % 2 = 0
  ·have hm' : (n.names.length : Int) % 2 = 0 := by omega
   have he := evens_odds n.names hm
   simp [k,caseB,caseE,shapeOf,len0,tagB_tagW,hm,hm',he]
   have ht : tagB = tagW := funext tagB_tagW
   rw [ht]
   simp [Bool.and_comm,Bool.and_left_comm,Bool.and_assoc]
  ·have hm' : ¬ (n.names.length : Int) % 2 = 0 := by omega
   simp [k,caseB,caseE,shapeOf,hm,hm']
 ·simp [k,asksB,shapeOf,len0,tagB_tagW,i1,i2]
  try simp [Bool.and_comm,Bool.and_left_comm,Bool.and_assoc]
 ·have hc : decide ((n.names.length : Int) = n.kids.length) = decide ((n.kids.length : Int) = n.names.length) := by
   by_cases h : n.names.length = n.kids.length <;> simp [h,eq_comm]
  simp only [k,recB,hc]
  simp [shapeOf,len0]
  simp [Bool.and_comm,Bool.and_left_comm,Bool.and_assoc]
 ·simp [k,asksB,shapeOf,len0,tagB_tagW,i1,i2]
  try simp [Bool.and_comm,Bool.and_left_comm,Bool.and_assoc]
 ·simp [k,asksB,shapeOf,len0,tagB_tagW,i1,i2]
  try simp [Bool.and_comm,Bool.and_left_comm,Bool.and_assoc]
 ·simp [k,asksB,shapeOf,len0,tagB_tagW,i1,i2]
  try simp [Bool.and_comm,Bool.and_left_comm,Bool.and_assoc]
 ·simp [k,asksB,shapeOf,len0,tagB_tagW,i1,i2]
  try simp [Bool.and_comm,Bool.and_left_comm,Bool.and_assoc]
 ·have d0 : ¬ n.kind = 0 := by omega
  have d1 : ¬ n.kind = 1 := by omega
  have d2 : ¬ n.kind = 2 := by omega
  have d3 : ¬ n.kind = 3 := by omega
  have d4 : ¬ n.kind = 4 := by omega
  have d5 : ¬ n.kind = 5 := by omega
  have d6 : ¬ n.kind = 6 := by omega
  have d7 : ¬ n.kind = 7 := by omega
  have d8 : ¬ n.kind = 8 := by omega
  have d9 : ¬ n.kind = 9 := by omega
  have d10 : ¬ n.kind = 10 := by omega
  have d11 : ¬ n.kind = 11 := by omega
  have d12 : ¬ n.kind = 12 := by omega
  have d13 : ¬ n.kind = 13 := by omega
  have d14 : ¬ n.kind = 14 := by omega
  have d15 : ¬ n.kind = 15 := by omega
  have d16 : ¬ n.kind = 16 := by omega
  simp [shapeOf,d0,d1,d2,d3,d4,d5,d6,d7,d8,d9,d10,d11,d12,d13,d14,d15,d16]
end Go.Proofs.Eng
namespace Go.Proofs.Eng
open Go
def refTypB (n : Ty) : Bool :=
 if 0 <= n.kind /\ n.kind <= 6 then decide (n.name = []) && (!n.opn && (decide (n.names = []) && decide (n.kids = [])))
 else if n.kind = 7 then decide (n.name = []) && (!n.opn && (decide (n.names = []) && decide ((n.kids.length : Int) = 2)))
 else if n.kind = 8 then decide (n.name = []) && (!n.opn && (n.names.all isNameB && (onceB n.names && decide ((n.kids.length : Int) = n.names.length))))
 else if n.kind = 9 then n.names.all tagB && (decide (n.name = []) && (onceB n.names && decide ((n.kids.length : Int) = n.names.length)))
 else if n.kind = 10 then rAliasB n.name && (!n.opn && (decide (n.names = []) && decide (n.kids = [])))
 else false
section
variable {Γ : Sums} {A : Tab} {N : Nat -> Nat}
theorem ref04_term_call (h : RefK Γ A N) {H : Hp} {x : AV} {n : Nd} (hn : NdR H x n) (ok : n.ok) (wf : n.wf) : (lim Γ A).call (f_ref04_term N) [x] H = some (avBool (termB n),none) := by
 rw [<- term_eq]
 unfold refTermB
 by_cases k10 : n.kind = 10
 ·rw [if_pos k10]; exact ref04_term_case h hn ok k10
 ·rw [if_neg k10]
  by_cases k12 : n.kind = 12
  ·rw [if_pos k12]; exact ref04_term_record h hn ok k12
  ·rw [if_neg k12]; exact ref04_term_plain h hn ok wf k10 k12
set_option maxHeartbeats 4000000 in
theorem ref04_typ_call' (h : RefK Γ A N) {H : Hp} {x : AV} {n : Ty} (hn : TyR H x n) (ok : n.ok) : (lim Γ A).call (f_ref04_typ N) [x] H = some (avBool (refTypB n),none) := by
 obtain ⟨a,b,rfl,va,vb⟩ := hn
 obtain ⟨o1,o2,o3,o4⟩ := ok
 have la := VS.len va
 have lb := VI.len vb
 have pa := va.one
 have pb := vb.one
 have hset : ∀ (b : Bool) (o : AObj),settle H (avBool b) (halloc { l := H.l,d := none } o) = (avBool b,none) := fun b o => by simp [settle,keeps]
 have va' : ∀ o,VS (halloc { l := H.l,d := none } o) a n.names := fun o => va.keep fun id hid => by rw [hget_halloc,if_neg (by simp; omega)]; rfl
 have e1 := fun o => ref04_names_call h (va' o) (by omega) (fun s hs => by have := o2 s hs; omega)
 have e2 := fun o => ref04_once_call h (va' o) (by omega)
 have e3 := fun H => ref04_Alias_call h n.name (by omega) H
 have e0 : ∀ l : List Int,decide ((l.length : Int) = 0) = decide (l = []) := len0
 have e0' : ∀ l : List (List UInt8),decide ((l.length : Int) = 0) = decide (l = []) := len0
 have hk : n.kind = 0 \/ n.kind = 1 \/ n.kind = 2 \/ n.kind = 3 \/ n.kind = 4 \/ n.kind = 5 \/ n.kind = 6 \/ n.kind = 7 \/ n.kind = 8 \/ n.kind = 9 \/ n.kind = 10 \/ (n.kind < 0 \/ 10 < n.kind) := by omega
 apply h.typ.call (by rfl)
 unfold tyV refTypB
 rcases hk with k | k | k | k | k | k | k | k | k | k | k | k
 ·have d0 : (n.kind = 0) = True := by simp [k]
  have d1 : (n.kind = 1) = False := by simp [k]
  have d2 : (n.kind = 2) = False := by simp [k]
  have d3 : (n.kind = 3) = False := by simp [k]
  have d4 : (n.kind = 4) = False := by simp [k]
  have d5 : (n.kind = 5) = False := by simp [k]
  have d6 : (n.kind = 6) = False := by simp [k]
  have d7 : (n.kind = 7) = False := by simp [k]
  have d8 : (n.kind = 8) = False := by simp [k]
  have d9 : (n.kind = 9) = False := by simp [k]
  have d10 : (n.kind = 10) = False := by simp [k]
  have c06 : (0 <= n.kind /\ n.kind <= 6) = True := by simp [k]
  simp only [c06,d7,d8,d9,d10,if_false,if_true]
  generalize q1 : decide (n.name = []) = b1
  generalize q2 : decide (n.names = []) = b2
  generalize q3 : decide (n.kids = []) = b3
  generalize q4 : decide ((n.kids.length : Int) = 2) = b4
  generalize q5 : decide ((n.kids.length : Int) = n.names.length) = b5
  generalize q6 : n.names.all isNameB = b6 at *
  generalize q7 : onceB n.names = b7 at *
  generalize q8 : rAliasB n.name = b8 at *
  simp [C_ref04_typ,pa,pb,d0,d1,d2,d3,d4,d5,d6,d7,d8,d9,d10,loadC,la,lb,e0,e0',e1,e2,e3,q1,q2,q3,q4,q5,hset]
  clear k
  repeat' (first | (apply guardP_intro <;> intro hg <;> (try simp at hg) <;> simp [*]) | (apply iteP_intro <;> intro hg <;> (try simp at hg) <;> simp [*]))
 ·have d0 : (n.kind = 0) = False := by simp [k]
  have d1 : (n.kind = 1) = True := by simp [k]
  have d2 : (n.kind = 2) = False := by simp [k]
  have d3 : (n.kind = 3) = False := by simp [k]
  have d4 : (n.kind = 4) = False := by simp [k]
  have d5 : (n.kind = 5) = False := by simp [k]
  have d6 : (n.kind = 6) = False := by simp [k]
  have d7 : (n.kind = 7) = False := by simp [k]
  have d8 : (n.kind = 8) = False := by simp [k]
  have d9 : (n.kind = 9) = False := by simp [k]
  have d10 : (n.kind = 10) = False := by simp [k]
  have c06 : (0 <= n.kind /\ n.kind <= 6) = True := by simp [k]
  simp only [c06,d7,d8,d9,d10,if_false,if_true]
  generalize q1 : decide (n.name = []) = b1
  generalize q2 : decide (n.names = []) = b2
  generalize q3 : decide (n.kids = []) = b3
  generalize q4 : decide ((n.kids.length : Int) = 2) = b4
  generalize q5 : decide ((n.kids.length : Int) = n.names.length) = b5
  generalize q6 : n.names.all isNameB = b6 at *
  generalize q7 : onceB n.names = b7 at *
  generalize q8 : rAliasB n.name = b8 at *
  simp [C_ref04_typ,pa,pb,d0,d1,d2,d3,d4,d5,d6,d7,d8,d9,d10,loadC,la,lb,e0,e0',e1,e2,e3,q1,q2,q3,q4,q5,hset]
  clear k
  repeat' (first | (apply guardP_intro <;> intro hg <;> (try simp at hg) <;> simp [*]) | (apply iteP_intro <;> intro hg <;> (try simp at hg) <;> simp [*]))
 ·have d0 : (n.kind = 0) = False := by simp [k]
  have d1 : (n.kind = 1) = False := by simp [k]
  have d2 : (n.kind = 2) = True := by simp [k]
  have d3 : (n.kind = 3) = False := by simp [k]
  have d4 : (n.kind = 4) = False := by simp [k]
  have d5 : (n.kind = 5) = False := by simp [k]
  have d6 : (n.kind = 6) = False := by simp [k]
  have d7 : (n.kind = 7) = False := by simp [k]
  have d8 : (n.kind = 8) = False := by simp [k]
  have d9 : (n.kind = 9) = False := by simp [k]
  have d10 : (n.kind = 10) = False := by simp [k]
  have c06 : (0 <= n.kind /\ n.kind <= 6) = True := by simp [k]
  simp only [c06,d7,d8,d9,d10,if_false,if_true]
  generalize q1 : decide (n.name = []) = b1
  generalize q2 : decide (n.names = []) = b2
  generalize q3 : decide (n.kids = []) = b3
  generalize q4 : decide ((n.kids.length : Int) = 2) = b4
  generalize q5 : decide ((n.kids.length : Int) = n.names.length) = b5
  generalize q6 : n.names.all isNameB = b6 at *
  generalize q7 : onceB n.names = b7 at *
  generalize q8 : rAliasB n.name = b8 at *
  simp [C_ref04_typ,pa,pb,d0,d1,d2,d3,d4,d5,d6,d7,d8,d9,d10,loadC,la,lb,e0,e0',e1,e2,e3,q1,q2,q3,q4,q5,hset]
  clear k
  repeat' (first | (apply guardP_intro <;> intro hg <;> (try simp at hg) <;> simp [*]) | (apply iteP_intro <;> intro hg <;> (try simp at hg) <;> simp [*]))
 ·have d0 : (n.kind = 0) = False := by simp [k]
  have d1 : (n.kind = 1) = False := by simp [k]
  have d2 : (n.kind = 2) = False := by simp [k]
  have d3 : (n.kind = 3) = True := by simp [k]
  have d4 : (n.kind = 4) = False := by simp [k]
  have d5 : (n.kind = 5) = False := by simp [k]
  have d6 : (n.kind = 6) = False := by simp [k]
  have d7 : (n.kind = 7) = False := by simp [k]
  have d8 : (n.kind = 8) = False := by simp [k]
  have d9 : (n.kind = 9) = False := by simp [k]
  have d10 : (n.kind = 10) = False := by simp [k]
  have c06 : (0 <= n.kind /\ n.kind <= 6) = True := by simp [k]
  simp only [c06,d7,d8,d9,d10,if_false,if_true]
  generalize q1 : decide (n.name = []) = b1
  generalize q2 : decide (n.names = []) = b2
  generalize q3 : decide (n.kids = []) = b3
  generalize q4 : decide ((n.kids.length : Int) = 2) = b4
  generalize q5 : decide ((n.kids.length : Int) = n.names.length) = b5
  generalize q6 : n.names.all isNameB = b6 at *
  generalize q7 : onceB n.names = b7 at *
  generalize q8 : rAliasB n.name = b8 at *
  simp [C_ref04_typ,pa,pb,d0,d1,d2,d3,d4,d5,d6,d7,d8,d9,d10,loadC,la,lb,e0,e0',e1,e2,e3,q1,q2,q3,q4,q5,hset]
  clear k
  repeat' (first | (apply guardP_intro <;> intro hg <;> (try simp at hg) <;> simp [*]) | (apply iteP_intro <;> intro hg <;> (try simp at hg) <;> simp [*]))
 ·have d0 : (n.kind = 0) = False := by simp [k]
  have d1 : (n.kind = 1) = False := by simp [k]
  have d2 : (n.kind = 2) = False := by simp [k]
  have d3 : (n.kind = 3) = False := by simp [k]
  have d4 : (n.kind = 4) = True := by simp [k]
  have d5 : (n.kind = 5) = False := by simp [k]
  have d6 : (n.kind = 6) = False := by simp [k]
  have d7 : (n.kind = 7) = False := by simp [k]
  have d8 : (n.kind = 8) = False := by simp [k]
  have d9 : (n.kind = 9) = False := by simp [k]
  have d10 : (n.kind = 10) = False := by simp [k]
  have c06 : (0 <= n.kind /\ n.kind <= 6) = True := by simp [k]
  simp only [c06,d7,d8,d9,d10,if_false,if_true]
  generalize q1 : decide (n.name = []) = b1
  generalize q2 : decide (n.names = []) = b2
  generalize q3 : decide (n.kids = []) = b3
  generalize q4 : decide ((n.kids.length : Int) = 2) = b4
  generalize q5 : decide ((n.kids.length : Int) = n.names.length) = b5
  generalize q6 : n.names.all isNameB = b6 at *
  generalize q7 : onceB n.names = b7 at *
  generalize q8 : rAliasB n.name = b8 at *
  simp [C_ref04_typ,pa,pb,d0,d1,d2,d3,d4,d5,d6,d7,d8,d9,d10,loadC,la,lb,e0,e0',e1,e2,e3,q1,q2,q3,q4,q5,hset]
  clear k
  repeat' (first | (apply guardP_intro <;> intro hg <;> (try simp at hg) <;> simp [*]) | (apply iteP_intro <;> intro hg <;> (try simp at hg) <;> simp [*]))
 ·have d0 : (n.kind = 0) = False := by simp [k]
  have d1 : (n.kind = 1) = False := by simp [k]
  have d2 : (n.kind = 2) = False := by simp [k]
  have d3 : (n.kind = 3) = False := by simp [k]
  have d4 : (n.kind = 4) = False := by simp [k]
  have d5 : (n.kind = 5) = True := by simp [k]
  have d6 : (n.kind = 6) = False := by simp [k]
  have d7 : (n.kind = 7) = False := by simp [k]
  have d8 : (n.kind = 8) = False := by simp [k]
  have d9 : (n.kind = 9) = False := by simp [k]
  have d10 : (n.kind = 10) = False := by simp [k]
  have c06 : (0 <= n.kind /\ n.kind <= 6) = True := by simp [k]
  simp only [c06,d7,d8,d9,d10,if_false,if_true]
  generalize q1 : decide (n.name = []) = b1
  generalize q2 : decide (n.names = []) = b2
  generalize q3 : decide (n.kids = []) = b3
  generalize q4 : decide ((n.kids.length : Int) = 2) = b4
  generalize q5 : decide ((n.kids.length : Int) = n.names.length) = b5
  generalize q6 : n.names.all isNameB = b6 at *
  generalize q7 : onceB n.names = b7 at *
  generalize q8 : rAliasB n.name = b8 at *
  simp [C_ref04_typ,pa,pb,d0,d1,d2,d3,d4,d5,d6,d7,d8,d9,d10,loadC,la,lb,e0,e0',e1,e2,e3,q1,q2,q3,q4,q5,hset]
  clear k
  repeat' (first | (apply guardP_intro <;> intro hg <;> (try simp at hg) <;> simp [*]) | (apply iteP_intro <;> intro hg <;> (try simp at hg) <;> simp [*]))
 ·have d0 : (n.kind = 0) = False := by simp [k]
  have d1 : (n.kind = 1) = False := by simp [k]
  have d2 : (n.kind = 2) = False := by simp [k]
  have d3 : (n.kind = 3) = False := by simp [k]
  have d4 : (n.kind = 4) = False := by simp [k]
  have d5 : (n.kind = 5) = False := by simp [k]
  have d6 : (n.kind = 6) = True := by simp [k]
  have d7 : (n.kind = 7) = False := by simp [k]
  have d8 : (n.kind = 8) = False := by simp [k]
  have d9 : (n.kind = 9) = False := by simp [k]
  have d10 : (n.kind = 10) = False := by simp [k]
  have c06 : (0 <= n.kind /\ n.kind <= 6) = True := by simp [k]
  simp only [c06,d7,d8,d9,d10,if_false,if_true]
  generalize q1 : decide (n.name = []) = b1
  generalize q2 : decide (n.names = []) = b2
  generalize q3 : decide (n.kids = []) = b3
  generalize q4 : decide ((n.kids.length : Int) = 2) = b4
  generalize q5 : decide ((n.kids.length : Int) = n.names.length) = b5
  generalize q6 : n.names.all isNameB = b6 at *
  generalize q7 : onceB n.names = b7 at *
  generalize q8 : rAliasB n.name = b8 at *
  simp [C_ref04_typ,pa,pb,d0,d1,d2,d3,d4,d5,d6,d7,d8,d9,d10,loadC,la,lb,e0,e0',e1,e2,e3,q1,q2,q3,q4,q5,hset]
  clear k
  repeat' (first | (apply guardP_intro <;> intro hg <;> (try simp at hg) <;> simp [*]) | (apply iteP_intro <;> intro hg <;> (try simp at hg) <;> simp [*]))
 ·have d0 : (n.kind = 0) = False := by simp [k]
  have d1 : (n.kind = 1) = False := by simp [k]
  have d2 : (n.kind = 2) = False := by simp [k]
  have d3 : (n.kind = 3) = False := by simp [k]
  have d4 : (n.kind = 4) = False := by simp [k]
  have d5 : (n.kind = 5) = False := by simp [k]
  have d6 : (n.kind = 6) = False := by simp [k]
  have d7 : (n.kind = 7) = True := by simp [k]
  have d8 : (n.kind = 8) = False := by simp [k]
  have d9 : (n.kind = 9) = False := by simp [k]
  have d10 : (n.kind = 10) = False := by simp [k]
  have c06 : (0 <= n.kind /\ n.kind <= 6) = False := by simp [k]
  simp only [c06,d7,d8,d9,d10,if_false,if_true]
  generalize q1 : decide (n.name = []) = b1
  generalize q2 : decide (n.names = []) = b2
  generalize q3 : decide (n.kids = []) = b3
  generalize q4 : decide ((n.kids.length : Int) = 2) = b4
  generalize q5 : decide ((n.kids.length : Int) = n.names.length) = b5
  generalize q6 : n.names.all isNameB = b6 at *
  generalize q7 : onceB n.names = b7 at *
  generalize q8 : rAliasB n.name = b8 at *
  simp [C_ref04_typ,pa,pb,d0,d1,d2,d3,d4,d5,d6,d7,d8,d9,d10,loadC,la,lb,e0,e0',e1,e2,e3,q1,q2,q3,q4,q5,hset]
  clear k
  repeat' (first | (apply guardP_intro <;> intro hg <;> (try simp at hg) <;> simp [*]) | (apply iteP_intro <;> intro hg <;> (try simp at hg) <;> simp [*]))
 ·have d0 : (n.kind = 0) = False := by simp [k]
  have d1 : (n.kind = 1) = False := by simp [k]
  have d2 : (n.kind = 2) = False := by simp [k]
  have d3 : (n.kind = 3) = False := by simp [k]
  have d4 : (n.kind = 4) = False := by simp [k]
  have d5 : (n.kind = 5) = False := by simp [k]
  have d6 : (n.kind = 6) = False := by simp [k]
  have d7 : (n.kind = 7) = False := by simp [k]
  have d8 : (n.kind = 8) = True := by simp [k]
  have d9 : (n.kind = 9) = False := by simp [k]
  have d10 : (n.kind = 10) = False := by simp [k]
  have c06 : (0 <= n.kind /\ n.kind <= 6) = False := by simp [k]
  simp only [c06,d7,d8,d9,d10,if_false,if_true]
  generalize q1 : decide (n.name = []) = b1
  generalize q2 : decide (n.names = []) = b2
  generalize q3 : decide (n.kids = []) = b3
  generalize q4 : decide ((n.kids.length : Int) = 2) = b4
  generalize q5 : decide ((n.kids.length : Int) = n.names.length) = b5
  generalize q6 : n.names.all isNameB = b6 at *
  generalize q7 : onceB n.names = b7 at *
  generalize q8 : rAliasB n.name = b8 at *
  simp [C_ref04_typ,pa,pb,d0,d1,d2,d3,d4,d5,d6,d7,d8,d9,d10,loadC,la,lb,e0,e0',e1,e2,e3,q1,q2,q3,q4,q5,hset]
  clear k
  repeat' (first | (apply guardP_intro <;> intro hg <;> (try simp at hg) <;> simp [*]) | (apply iteP_intro <;> intro hg <;> (try simp at hg) <;> simp [*]))
 ·have d0 : (n.kind = 0) = False := by simp [k]
  have d1 : (n.kind = 1) = False := by simp [k]
  have d2 : (n.kind = 2) = False := by simp [k]
  have d3 : (n.kind = 3) = False := by simp [k]
  have d4 : (n.kind = 4) = False := by simp [k]
  have d5 : (n.kind = 5) = False := by simp [k]
  have d6 : (n.kind = 6) = False := by simp [k]
  have d7 : (n.kind = 7) = False := by simp [k]
  have d8 : (n.kind = 8) = False := by simp [k]
  have d9 : (n.kind = 9) = True := by simp [k]
  have d10 : (n.kind = 10) = False := by simp [k]
  have c06 : (0 <= n.kind /\ n.kind <= 6) = False := by simp [k]
  simp only [c06,d7,d8,d9,if_false,if_true]
  obtain ⟨o,ho⟩ : ∃ o,o = AObj.cells [avInt .i64 n.kind,avInt .i64 n.pos,avStr n.name,a,b,avBool n.opn] (t_api_TypeNode N) := ⟨_,rfl⟩
  simp [C_ref04_typ,pa,pb,d0,d1,d2,d3,d4,d5,d6,d7,d8,d9,d10,loadC,la,-Int.natCast_add,-halloc_d]
  refine wp_round (fun q ρ G => G = halloc { l := H.l,d := none } o /\ ∃ i : Nat,ρ 1 = .ptr H.l.length 0 /\ ρ 89 = a /\ ρ 90 = avInt .i64 n.names.length /\ ρ 91 = avInt .i64 i /\ i <= n.names.length /\ (n.names.take i).all tagB = true /\ q = n.names.length - i) (n := n.names.length) ⟨by rw [ho],0,by simp,by simp,by simp,by simp,by omega,by simp,rfl⟩ ?_
  rintro q ρ G ⟨rfl,i,r1,r89,r90,r91,hi,hA,rfl⟩
  have hbox : hget (halloc { l := H.l,d := none } o) H.l.length = some (.cells [avInt .i64 n.kind,avInt .i64 n.pos,avStr n.name,a,b,avBool n.opn] (t_api_TypeNode N)) := by rw [ho]; simp
  by_cases hlt : i < n.names.length
  ·have hlt' : (i : Int) < n.names.length := by omega
   obtain ⟨q,q1,q2⟩ := (va' o).at' (k := .i64) (i := (i : Int)) (e := avStr n.names[i]) (by omega) (by simp [List.getElem?_eq_getElem hlt]) rfl rfl rfl
   have hw : IntKind.wrap .i64 ((i : Int) + 1) = ((i + 1 : Nat) : Int) := by rw [wrap64 (by omega) (by omega)]; omega
   have hlen := o2 _ (List.getElem_mem hlt)
   have eT := fun H => ref04_Tag_call h.tag n.names[i] (by omega) H
   have ht := all_take hlt hA
   have hf : tagB n.names[i] = false -> n.names.all tagB = false := fun hh => all_false hlt hh
   generalize n.names[i] = s at *
   rcases hb : tagB s with _ | _
   ·rw [hb] at eT
    have hf := hf hb
    simp [L_ref04_typ_1,r1,r89,r90,r91,hlt',q1,q2,eT,hf,hset]
   ·rw [hb] at eT ht
    simp [L_ref04_typ_1,r1,r89,r90,r91,hlt',q1,q2,eT,hw,-Int.natCast_add,-halloc_d]
    exact ⟨n.names.length - (i + 1),by omega,i + 1,rfl,by omega,List.all_eq_true.1 ht,rfl⟩
  ·have hlt' : ¬ (i : Int) < n.names.length := by omega
   have hie : i = n.names.length := by omega
   subst hie
   rw [List.take_length] at hA
   rw [hA]
   generalize q1 : decide (n.name = []) = b1
   generalize q5 : decide ((n.kids.length : Int) = n.names.length) = b5
   generalize q7 : onceB n.names = b7 at *
   simp [L_ref04_typ_1,K_ref04_typ_1,r1,r89,r90,r91,hbox,loadC,la,lb,e2,q1,q5,hset]
   repeat' (first | (apply guardP_intro <;> intro hg <;> (try simp at hg) <;> simp [*]) | (apply iteP_intro <;> intro hg <;> (try simp at hg) <;> simp [*]))
 ·have d0 : (n.kind = 0) = False := by simp [k]
  have d1 : (n.kind = 1) = False := by simp [k]
  have d2 : (n.kind = 2) = False := by simp [k]
  have d3 : (n.kind = 3) = False := by simp [k]
  have d4 : (n.kind = 4) = False := by simp [k]
  have d5 : (n.kind = 5) = False := by simp [k]
  have d6 : (n.kind = 6) = False := by simp [k]
  have d7 : (n.kind = 7) = False := by simp [k]
  have d8 : (n.kind = 8) = False := by simp [k]
  have d9 : (n.kind = 9) = False := by simp [k]
  have d10 : (n.kind = 10) = True := by simp [k]
  have c06 : (0 <= n.kind /\ n.kind <= 6) = False := by simp [k]
  simp only [c06,d7,d8,d9,d10,if_false,if_true]
  generalize q1 : decide (n.name = []) = b1
  generalize q2 : decide (n.names = []) = b2
  generalize q3 : decide (n.kids = []) = b3
  generalize q4 : decide ((n.kids.length : Int) = 2) = b4
  generalize q5 : decide ((n.kids.length : Int) = n.names.length) = b5
  generalize q6 : n.names.all isNameB = b6 at *
  generalize q7 : onceB n.names = b7 at *
  generalize q8 : rAliasB n.name = b8 at *
  simp [C_ref04_typ,pa,pb,d0,d1,d2,d3,d4,d5,d6,d7,d8,d9,d10,loadC,la,lb,e0,e0',e1,e2,e3,q1,q2,q3,q4,q5,hset]
  clear k
  repeat' (first | (apply guardP_intro <;> intro hg <;> (try simp at hg) <;> simp [*]) | (apply iteP_intro <;> intro hg <;> (try simp at hg) <;> simp [*]))
 ·have d0 : (n.kind = 0) = False := by simp; omega
  have d1 : (n.kind = 1) = False := by simp; omega
  have d2 : (n.kind = 2) = False := by simp; omega
  have d3 : (n.kind = 3) = False := by simp; omega
  have d4 : (n.kind = 4) = False := by simp; omega
  have d5 : (n.kind = 5) = False := by simp; omega
  have d6 : (n.kind = 6) = False := by simp; omega
  have d7 : (n.kind = 7) = False := by simp; omega
  have d8 : (n.kind = 8) = False := by simp; omega
  have d9 : (n.kind = 9) = False := by simp; omega
  have d10 : (n.kind = 10) = False := by simp; omega
  have c06 : (0 <= n.kind /\ n.kind <= 6) = False := by simp; omega
  simp [C_ref04_typ,K_ref04_typ_2,pa,pb,d0,d1,d2,d3,d4,d5,d6,d7,d8,d9,d10,c06,loadC,hset]
end
theorem typ_eq {n : Ty} (hl : n.name.length <= 1048576) : refTypB n = typB n := by
 unfold refTypB typB
 have hal := alias_eq hl
 have hs : decide (n.names.length + n.kids.length = 0) = (decide (n.names = []) && decide (n.kids = [])) := by
  cases n.names <;> cases n.kids <;> simp
 by_cases c : 0 <= n.kind /\ n.kind <= 6
 ·have d7 : ¬ n.kind = 7 := by omega
  have d8 : ¬ n.kind = 8 := by omega
  have d9 : ¬ n.kind = 9 := by omega
  have d10 : ¬ n.kind = 10 := by omega
  rw [if_pos c]
  simp only [d7,d8,d9,d10,c.1,c.2,hs,decide_false,decide_true,Bool.not_false,Bool.and_true,Bool.true_and,if_false]
  cases n.opn <;> simp
 ·rw [if_neg c]
  by_cases d7 : n.kind = 7
  ·simp only [d7,if_true]
   cases n.opn <;> simp [Bool.and_assoc]
  ·simp only [d7,if_false]
   by_cases d8 : n.kind = 8
   ·have hc : decide ((n.names.length : Int) = n.kids.length) = decide ((n.kids.length : Int) = n.names.length) := by
     by_cases h : n.names.length = n.kids.length <;> simp [h,eq_comm]
    simp only [d8,if_true,hc]
    cases n.opn <;> simp [Bool.and_comm,Bool.and_left_comm,Bool.and_assoc]
   ·simp only [d8,if_false]
    by_cases d9 : n.kind = 9
    ·have hc : decide ((n.names.length : Int) = n.kids.length) = decide ((n.kids.length : Int) = n.names.length) := by
      by_cases h : n.names.length = n.kids.length <;> simp [h,eq_comm]
     have ht : tagB = tagW := funext tagB_tagW
     simp only [d9,if_true,hc,ht]
     cases n.opn <;> simp [Bool.and_comm,Bool.and_left_comm,Bool.and_assoc]
    ·simp only [d9,if_false]
     by_cases d10 : n.kind = 10
     ·simp only [d10,if_true,hs,hal]
      cases n.opn <;> simp
     ·have hz : (decide (0 <= n.kind) && decide (n.kind <= 6)) = false := by
       rw [Bool.eq_false_iff]
       intro hh
       simp only [Bool.and_eq_true,decide_eq_true_eq] at hh
       exact c hh
      simp only [d10,if_false,hz,Bool.false_and]
      cases n.opn <;> simp
section
variable {Γ : Sums} {A : Tab} {N : Nat -> Nat}
theorem ref04_typ_call (h : RefK Γ A N) {H : Hp} {x : AV} {n : Ty} (hn : TyR H x n) (ok : n.ok) (hl : n.name.length <= 1048576) : (lim Γ A).call (f_ref04_typ N) [x] H = some (avBool (typB n),none) := by
 rw [<- typ_eq hl]
 exact ref04_typ_call' h hn ok
end
end Go.Proofs.Eng
namespace Go.Proofs.Eng
open Go

def L_law04_Few_2 (N : Nat -> Nat) : AC :=
 .seq (
 .ops [⟨some 46,.bin .lss (.t 45) (.t 44),none⟩]) (
 .seq (
 .cond (.t 46) (
 .skip) (
 .exit 2)) (
 .seq (
 .block 3 (
 .seq (
 .ops [⟨some 47,.iaddr 1 (.t 43) (.t 45),none⟩,⟨some 48,.load none (.t 47),none⟩,⟨some 6,.mov (.t 48),none⟩]) (
 .seq (
 .ops [⟨some 49,.mov (.t 6),none⟩,⟨some 50,.lens (.t 49),none⟩,⟨some 51,.bin .gtr (.t 50) (.c (.lit (.int .i64 60))),none⟩]) (
 .cond (.t 51) (
 .seq (
 .ops [⟨some 2,.mov (.c (.lit (.bool false))),none⟩]) (
 .ret)) (
 .skip))))) (
 .ops [⟨some 52,.bin .add (.t 45) (.c (.lit (.int .i64 1))),none⟩,⟨some 45,.mov (.t 52),none⟩])))
def K_law04_Few_1 (N : Nat -> Nat) : AC :=
 .ops [⟨some 53,.bin .add (.t 16) (.c (.lit (.int .i64 1))),none⟩,⟨some 16,.mov (.t 53),none⟩]
def L_law04_Few_1 (N : Nat -> Nat) : AC :=
 .seq (
 .ops [⟨some 17,.bin .lss (.t 16) (.t 15),none⟩]) (
 .seq (
 .cond (.t 17) (
 .skip) (
 .exit 0)) (
 .seq (
 .block 1 (
 .seq (
 .ops [⟨some 18,.iaddr 8 (.t 14) (.t 16),none⟩,⟨some 19,.load (some 8) (.t 18),none⟩,⟨some 4,.new (t_api_Node N) (.agg [(.lit (.int .i64 0)),(.lit (.int .i64 0)),(.lit (.string (mkS []))),(.lit (.int .i64 0)),(.lit (.int .u64 0)),(.lit (.slice none 0 0)),(.lit (.slice none 0 0)),(.lit (.slice none 0 0))]),none⟩,⟨none,.store 8 (.t 4) (.t 19),none⟩]) (
 .seq (
 .seq (
 .ops [⟨some 20,.faddr 5 (.t 4),none⟩,⟨some 21,.load none (.t 20),none⟩,⟨some 22,.len (.t 21),none⟩,⟨some 23,.bin .gtr (.t 22) (.c (.lit (.int .i64 20))),none⟩,⟨some 24,.mov (.t 23),none⟩,⟨some 25,.faddr 6 (.t 4),(some (24,false))⟩,⟨some 26,.load none (.t 25),(some (24,false))⟩,⟨some 27,.len (.t 26),(some (24,false))⟩,⟨some 28,.bin .gtr (.t 27) (.c (.lit (.int .i64 20))),(some (24,false))⟩,⟨some 29,.pick (.t 24) (.c (.lit (.bool true))) (.t 28),none⟩,⟨some 30,.mov (.t 29),none⟩,⟨some 31,.faddr 7 (.t 4),(some (30,false))⟩,⟨some 32,.load none (.t 31),(some (30,false))⟩,⟨some 33,.len (.t 32),(some (30,false))⟩,⟨some 34,.bin .gtr (.t 33) (.c (.lit (.int .i64 20))),(some (30,false))⟩,⟨some 35,.pick (.t 30) (.c (.lit (.bool true))) (.t 34),none⟩,⟨some 36,.mov (.t 35),none⟩,⟨some 37,.faddr 2 (.t 4),(some (36,false))⟩,⟨some 38,.load none (.t 37),(some (36,false))⟩,⟨some 39,.lens (.t 38),(some (36,false))⟩,⟨some 40,.bin .gtr (.t 39) (.c (.lit (.int .i64 60))),(some (36,false))⟩,⟨some 41,.pick (.t 36) (.c (.lit (.bool true))) (.t 40),none⟩]) (
 .cond (.t 41) (
 .seq (
 .ops [⟨some 2,.mov (.c (.lit (.bool false))),none⟩]) (
 .ret)) (
 .skip))) (
 .seq (
 .ops [⟨some 42,.faddr 5 (.t 4),none⟩,⟨some 43,.load none (.t 42),none⟩,⟨some 44,.len (.t 43),none⟩,⟨some 45,.mov (.c (.lit (.int .i64 0))),none⟩]) (
 .block 2 (
 .loop (L_law04_Few_2 N))))))) (K_law04_Few_1 N)))
def L_law04_Few_4 (N : Nat -> Nat) : AC :=
 .seq (
 .ops [⟨some 81,.bin .lss (.t 80) (.t 79),none⟩]) (
 .seq (
 .cond (.t 81) (
 .skip) (
 .exit 6)) (
 .seq (
 .block 7 (
 .seq (
 .ops [⟨some 82,.iaddr 1 (.t 78) (.t 80),none⟩,⟨some 83,.load none (.t 82),none⟩,⟨some 10,.mov (.t 83),none⟩]) (
 .seq (
 .ops [⟨some 84,.mov (.t 10),none⟩,⟨some 85,.lens (.t 84),none⟩,⟨some 86,.bin .gtr (.t 85) (.c (.lit (.int .i64 60))),none⟩]) (
 .cond (.t 86) (
 .seq (
 .ops [⟨some 2,.mov (.c (.lit (.bool false))),none⟩]) (
 .ret)) (
 .skip))))) (
 .ops [⟨some 87,.bin .add (.t 80) (.c (.lit (.int .i64 1))),none⟩,⟨some 80,.mov (.t 87),none⟩])))
def K_law04_Few_3 (N : Nat -> Nat) : AC :=
 .ops [⟨some 88,.bin .add (.t 57) (.c (.lit (.int .i64 1))),none⟩,⟨some 57,.mov (.t 88),none⟩]
def L_law04_Few_3 (N : Nat -> Nat) : AC :=
 .seq (
 .ops [⟨some 58,.bin .lss (.t 57) (.t 56),none⟩]) (
 .seq (
 .cond (.t 58) (
 .skip) (
 .exit 4)) (
 .seq (
 .block 5 (
 .seq (
 .ops [⟨some 59,.iaddr 6 (.t 55) (.t 57),none⟩,⟨some 60,.load (some 6) (.t 59),none⟩,⟨some 8,.new (t_api_TypeNode N) (.agg [(.lit (.int .i64 0)),(.lit (.int .i64 0)),(.lit (.string (mkS []))),(.lit (.slice none 0 0)),(.lit (.slice none 0 0)),(.lit (.bool false))]),none⟩,⟨none,.store 6 (.t 8) (.t 60),none⟩]) (
 .seq (
 .seq (
 .ops [⟨some 61,.faddr 3 (.t 8),none⟩,⟨some 62,.load none (.t 61),none⟩,⟨some 63,.len (.t 62),none⟩,⟨some 64,.bin .gtr (.t 63) (.c (.lit (.int .i64 20))),none⟩,⟨some 65,.mov (.t 64),none⟩,⟨some 66,.faddr 4 (.t 8),(some (65,false))⟩,⟨some 67,.load none (.t 66),(some (65,false))⟩,⟨some 68,.len (.t 67),(some (65,false))⟩,⟨some 69,.bin .gtr (.t 68) (.c (.lit (.int .i64 20))),(some (65,false))⟩,⟨some 70,.pick (.t 65) (.c (.lit (.bool true))) (.t 69),none⟩,⟨some 71,.mov (.t 70),none⟩,⟨some 72,.faddr 2 (.t 8),(some (71,false))⟩,⟨some 73,.load none (.t 72),(some (71,false))⟩,⟨some 74,.lens (.t 73),(some (71,false))⟩,⟨some 75,.bin .gtr (.t 74) (.c (.lit (.int .i64 60))),(some (71,false))⟩,⟨some 76,.pick (.t 71) (.c (.lit (.bool true))) (.t 75),none⟩]) (
 .cond (.t 76) (
 .seq (
 .ops [⟨some 2,.mov (.c (.lit (.bool false))),none⟩]) (
 .ret)) (
 .skip))) (
 .seq (
 .ops [⟨some 77,.faddr 3 (.t 8),none⟩,⟨some 78,.load none (.t 77),none⟩,⟨some 79,.len (.t 78),none⟩,⟨some 80,.mov (.c (.lit (.int .i64 0))),none⟩]) (
 .block 6 (
 .loop (L_law04_Few_4 N))))))) (K_law04_Few_3 N)))
def L_law04_Few_5 (N : Nat -> Nat) : AC :=
 .seq (
 .ops [⟨some 93,.bin .lss (.t 92) (.t 91),none⟩]) (
 .seq (
 .cond (.t 93) (
 .skip) (
 .exit 8)) (
 .seq (
 .block 9 (
 .seq (
 .ops [⟨some 94,.iaddr 3 (.t 90) (.t 92),none⟩,⟨some 95,.load (some 3) (.t 94),none⟩,⟨some 12,.new (t_api_Alias N) (.agg [(.lit (.string (mkS []))),(.lit (.int .i64 0)),(.lit (.int .i64 0))]),none⟩,⟨none,.store 3 (.t 12) (.t 95),none⟩]) (
 .seq (
 .ops [⟨some 96,.faddr 0 (.t 12),none⟩,⟨some 97,.load none (.t 96),none⟩,⟨some 98,.lens (.t 97),none⟩,⟨some 99,.bin .gtr (.t 98) (.c (.lit (.int .i64 60))),none⟩]) (
 .cond (.t 99) (
 .seq (
 .ops [⟨some 2,.mov (.c (.lit (.bool false))),none⟩]) (
 .ret)) (
 .skip))))) (
 .ops [⟨some 100,.bin .add (.t 92) (.c (.lit (.int .i64 1))),none⟩,⟨some 92,.mov (.t 100),none⟩])))
def K_law04_Few_5 (N : Nat -> Nat) : AC :=
 .seq (
 .ops [⟨some 101,.faddr 0 (.t 1),none⟩,⟨some 102,.load none (.t 101),none⟩,⟨some 103,.len (.t 102),none⟩,⟨some 104,.bin .leq (.t 103) (.c (.lit (.int .i64 60))),none⟩,⟨some 105,.mov (.t 104),none⟩,⟨some 106,.faddr 1 (.t 1),(some (105,true))⟩,⟨some 107,.load none (.t 106),(some (105,true))⟩,⟨some 108,.len (.t 107),(some (105,true))⟩,⟨some 109,.bin .leq (.t 108) (.c (.lit (.int .i64 60))),(some (105,true))⟩,⟨some 110,.pick (.t 105) (.t 109) (.c (.lit (.bool false))),none⟩,⟨some 111,.mov (.t 110),none⟩,⟨some 112,.faddr 2 (.t 1),(some (111,true))⟩,⟨some 113,.load none (.t 112),(some (111,true))⟩,⟨some 114,.len (.t 113),(some (111,true))⟩,⟨some 115,.bin .leq (.t 114) (.c (.lit (.int .i64 10))),(some (111,true))⟩,⟨some 116,.pick (.t 111) (.t 115) (.c (.lit (.bool false))),none⟩,⟨some 2,.mov (.t 116),none⟩]) (
 .ret)
def K_law04_Few_4 (N : Nat -> Nat) : AC :=
 .seq (
 .seq (
 .ops [⟨some 89,.faddr 2 (.t 1),none⟩,⟨some 90,.load none (.t 89),none⟩,⟨some 91,.len (.t 90),none⟩,⟨some 92,.mov (.c (.lit (.int .i64 0))),none⟩]) (
 .block 8 (
 .loop (L_law04_Few_5 N)))) (K_law04_Few_5 N)
def K_law04_Few_2 (N : Nat -> Nat) : AC :=
 .seq (
 .seq (
 .ops [⟨some 54,.faddr 1 (.t 1),none⟩,⟨some 55,.load none (.t 54),none⟩,⟨some 56,.len (.t 55),none⟩,⟨some 57,.mov (.c (.lit (.int .i64 0))),none⟩]) (
 .block 4 (
 .loop (L_law04_Few_3 N)))) (K_law04_Few_4 N)
def C_law04_Few (N : Nat -> Nat) : AFunc := ⟨117,[.inl 2],
 .seq (
 .ops [⟨some 1,.box (t_api_Tree N) (.t 0),none⟩,⟨some 2,.mov (.c (.lit (.bool false))),none⟩]) (
 .seq (
 .seq (
 .ops [⟨some 13,.faddr 0 (.t 1),none⟩,⟨some 14,.load none (.t 13),none⟩,⟨some 15,.len (.t 14),none⟩,⟨some 16,.mov (.c (.lit (.int .i64 0))),none⟩]) (
 .block 0 (
 .loop (L_law04_Few_1 N)))) (K_law04_Few_2 N)),false⟩

def L_law04_TreeSame_2 (N : Nat -> Nat) : AC :=
 .seq (
 .ops [⟨some 65,.bin .lss (.t 64) (.t 63),none⟩]) (
 .seq (
 .cond (.t 65) (
 .skip) (
 .exit 2)) (
 .seq (
 .block 3 (
 .seq (
 .ops [⟨some 66,.mov (.t 64),none⟩,⟨some 9,.mov (.t 66),none⟩]) (
 .ops [⟨some 67,.faddr 0 (.t 7),none⟩,⟨some 68,.load none (.t 67),none⟩,⟨some 69,.mov (.t 8),none⟩,⟨some 70,.iaddr 8 (.t 68) (.t 69),none⟩,⟨some 71,.faddr 6 (.t 70),none⟩,⟨some 72,.load none (.t 71),none⟩,⟨some 73,.mov (.t 9),none⟩,⟨some 74,.iaddr 1 (.t 72) (.t 73),none⟩,⟨none,.store 1 (.t 74) (.c (.lit (.int .i64 (-1)))),none⟩]))) (
 .ops [⟨some 75,.bin .add (.t 64) (.c (.lit (.int .i64 1))),none⟩,⟨some 64,.mov (.t 75),none⟩])))
def L_law04_TreeSame_3 (N : Nat -> Nat) : AC :=
 .seq (
 .ops [⟨some 84,.bin .lss (.t 83) (.t 82),none⟩]) (
 .seq (
 .cond (.t 84) (
 .skip) (
 .exit 4)) (
 .seq (
 .block 5 (
 .seq (
 .ops [⟨some 85,.mov (.t 83),none⟩,⟨some 10,.mov (.t 85),none⟩]) (
 .ops [⟨some 86,.faddr 0 (.t 7),none⟩,⟨some 87,.load none (.t 86),none⟩,⟨some 88,.mov (.t 8),none⟩,⟨some 89,.iaddr 8 (.t 87) (.t 88),none⟩,⟨some 90,.faddr 5 (.t 89),none⟩,⟨some 91,.load none (.t 90),none⟩,⟨some 92,.mov (.t 10),none⟩,⟨some 93,.iaddr 1 (.t 91) (.t 92),none⟩,⟨none,.store 1 (.t 93) (.c (.lit (.string (mkS [63])))),none⟩]))) (
 .ops [⟨some 94,.bin .add (.t 83) (.c (.lit (.int .i64 1))),none⟩,⟨some 83,.mov (.t 94),none⟩])))
def K_law04_TreeSame_1 (N : Nat -> Nat) : AC :=
 .seq (
 .ops [⟨some 76,.faddr 0 (.t 7),none⟩,⟨some 77,.load none (.t 76),none⟩,⟨some 78,.mov (.t 8),none⟩,⟨some 79,.iaddr 8 (.t 77) (.t 78),none⟩,⟨some 80,.faddr 5 (.t 79),none⟩,⟨some 81,.load none (.t 80),none⟩,⟨some 82,.len (.t 81),none⟩,⟨some 83,.mov (.c (.lit (.int .i64 0))),none⟩]) (
 .block 4 (
 .loop (L_law04_TreeSame_3 N)))
def K_law04_TreeSame_2 (N : Nat -> Nat) : AC :=
 .ops [⟨some 95,.bin .add (.t 54) (.c (.lit (.int .i64 1))),none⟩,⟨some 54,.mov (.t 95),none⟩]
def L_law04_TreeSame_1 (N : Nat -> Nat) : AC :=
 .seq (
 .ops [⟨some 55,.bin .lss (.t 54) (.t 53),none⟩]) (
 .seq (
 .cond (.t 55) (
 .skip) (
 .exit 0)) (
 .seq (
 .block 1 (
 .seq (
 .ops [⟨some 56,.mov (.t 54),none⟩,⟨some 8,.mov (.t 56),none⟩]) (
 .seq (
 .seq (
 .ops [⟨some 57,.faddr 0 (.t 7),none⟩,⟨some 58,.load none (.t 57),none⟩,⟨some 59,.mov (.t 8),none⟩,⟨some 60,.iaddr 8 (.t 58) (.t 59),none⟩,⟨some 61,.faddr 6 (.t 60),none⟩,⟨some 62,.load none (.t 61),none⟩,⟨some 63,.len (.t 62),none⟩,⟨some 64,.mov (.c (.lit (.int .i64 0))),none⟩]) (
 .block 2 (
 .loop (L_law04_TreeSame_2 N)))) (K_law04_TreeSame_1 N)))) (K_law04_TreeSame_2 N)))
def L_law04_TreeSame_5 (N : Nat -> Nat) : AC :=
 .seq (
 .ops [⟨some 110,.bin .lss (.t 109) (.t 108),none⟩]) (
 .seq (
 .cond (.t 110) (
 .skip) (
 .exit 8)) (
 .seq (
 .block 9 (
 .seq (
 .ops [⟨some 111,.mov (.t 109),none⟩,⟨some 12,.mov (.t 111),none⟩]) (
 .ops [⟨some 112,.faddr 1 (.t 7),none⟩,⟨some 113,.load none (.t 112),none⟩,⟨some 114,.mov (.t 11),none⟩,⟨some 115,.iaddr 6 (.t 113) (.t 114),none⟩,⟨some 116,.faddr 4 (.t 115),none⟩,⟨some 117,.load none (.t 116),none⟩,⟨some 118,.mov (.t 12),none⟩,⟨some 119,.iaddr 1 (.t 117) (.t 118),none⟩,⟨none,.store 1 (.t 119) (.c (.lit (.int .i64 (-1)))),none⟩]))) (
 .ops [⟨some 120,.bin .add (.t 109) (.c (.lit (.int .i64 1))),none⟩,⟨some 109,.mov (.t 120),none⟩])))
def K_law04_TreeSame_4 (N : Nat -> Nat) : AC :=
 .ops [⟨some 121,.bin .add (.t 99) (.c (.lit (.int .i64 1))),none⟩,⟨some 99,.mov (.t 121),none⟩]
def L_law04_TreeSame_4 (N : Nat -> Nat) : AC :=
 .seq (
 .ops [⟨some 100,.bin .lss (.t 99) (.t 98),none⟩]) (
 .seq (
 .cond (.t 100) (
 .skip) (
 .exit 6)) (
 .seq (
 .block 7 (
 .seq (
 .ops [⟨some 101,.mov (.t 99),none⟩,⟨some 11,.mov (.t 101),none⟩]) (
 .seq (
 .ops [⟨some 102,.faddr 1 (.t 7),none⟩,⟨some 103,.load none (.t 102),none⟩,⟨some 104,.mov (.t 11),none⟩,⟨some 105,.iaddr 6 (.t 103) (.t 104),none⟩,⟨some 106,.faddr 4 (.t 105),none⟩,⟨some 107,.load none (.t 106),none⟩,⟨some 108,.len (.t 107),none⟩,⟨some 109,.mov (.c (.lit (.int .i64 0))),none⟩]) (
 .block 8 (
 .loop (L_law04_TreeSame_5 N)))))) (K_law04_TreeSame_4 N)))
def K_law04_TreeSame_5 (N : Nat -> Nat) : AC :=
 .seq (
 .ops [⟨some 122,.load (some 3) (.t 3),none⟩,⟨some 123,.call (.c (.fn (f_ref04_Right N) [] [])) [(.t 122)],none⟩,⟨some 6,.mov (.t 123),none⟩]) (
 .ret)
def K_law04_TreeSame_3 (N : Nat -> Nat) : AC :=
 .seq (
 .seq (
 .ops [⟨some 96,.faddr 1 (.t 7),none⟩,⟨some 97,.load none (.t 96),none⟩,⟨some 98,.len (.t 97),none⟩,⟨some 99,.mov (.c (.lit (.int .i64 0))),none⟩]) (
 .block 6 (
 .loop (L_law04_TreeSame_4 N)))) (K_law04_TreeSame_5 N)
def C_law04_TreeSame (N : Nat -> Nat) : AFunc := ⟨124,[.inl 6],
 .seq (
 .ops [⟨some 3,.box (t_api_Tree N) (.t 0),none⟩,⟨some 4,.box (t_api_Tree N) (.t 1),none⟩,⟨some 6,.mov (.c (.lit (.bool false))),none⟩]) (
 .seq (
 .seq (
 .ops [⟨some 13,.call (.c (.fn (f_law04_lives N) [] [])) [],none⟩,⟨some 14,.un .not (.t 13),none⟩,⟨some 15,.mov (.t 14),none⟩,⟨some 16,.load (some 3) (.t 3),(some (15,false))⟩,⟨some 17,.call (.c (.fn (f_law04_Few N) [] [])) [(.t 16)],(some (15,false))⟩,⟨some 18,.un .not (.t 17),(some (15,false))⟩,⟨some 19,.pick (.t 15) (.c (.lit (.bool true))) (.t 18),none⟩,⟨some 20,.mov (.t 19),none⟩,⟨some 21,.load (some 3) (.t 4),(some (20,false))⟩,⟨some 22,.call (.c (.fn (f_law04_Few N) [] [])) [(.t 21)],(some (20,false))⟩,⟨some 23,.un .not (.t 22),(some (20,false))⟩,⟨some 24,.pick (.t 20) (.c (.lit (.bool true))) (.t 23),none⟩]) (
 .cond (.t 24) (
 .seq (
 .ops [⟨some 25,.call (.c (.fn (f_law04_lives N) [] [])) [],none⟩,⟨some 6,.mov (.t 25),none⟩]) (
 .ret)) (
 .skip))) (
 .seq (
 .seq (
 .dops 3 [⟨some 26,.load (some 3) (.t 3),none⟩,⟨some 27,.load (some 3) (.t 4),none⟩,⟨some 29,.load (some 3) (.t 3),none⟩,⟨some 30,.load (some 3) (.t 4),none⟩,⟨some 28,.call (.c (.fn (f_tree_Same N) [] [])) [(.t 26),(.t 27)],none⟩,⟨some 31,.call (.c (.fn (f_ref04_Same N) [] [])) [(.t 29),(.t 30)],none⟩,⟨some 32,.eq true .pbool (.t 28) (.t 31),none⟩,⟨some 33,.mov (.t 32),none⟩,⟨some 34,.load (some 3) (.t 3),(some (33,false))⟩,⟨some 35,.load (some 3) (.t 4),(some (33,false))⟩,⟨some 37,.load (some 3) (.t 4),(some (33,false))⟩,⟨some 38,.load (some 3) (.t 3),(some (33,false))⟩,⟨some 36,.call (.c (.fn (f_tree_Same N) [] [])) [(.t 34),(.t 35)],(some (33,false))⟩,⟨some 39,.call (.c (.fn (f_tree_Same N) [] [])) [(.t 37),(.t 38)],(some (33,false))⟩,⟨some 40,.eq true .pbool (.t 36) (.t 39),(some (33,false))⟩,⟨some 41,.pick (.t 33) (.c (.lit (.bool true))) (.t 40),none⟩] [2,2,2,2,1,0,0,0,2,2,2,2,1,0,0,0] []) (
 .cond (.t 41) (
 .seq (
 .ops [⟨some 6,.mov (.c (.lit (.bool false))),none⟩]) (
 .ret)) (
 .skip))) (
 .seq (
 .seq (
 .ops [⟨some 42,.load (some 3) (.t 3),none⟩,⟨some 43,.call (.c (.fn (f_ref04_Right N) [] [])) [(.t 42)],none⟩,⟨some 44,.un .not (.t 43),none⟩]) (
 .cond (.t 44) (
 .seq (
 .ops [⟨some 6,.mov (.c (.lit (.bool true))),none⟩]) (
 .ret)) (
 .skip))) (
 .seq (
 .ops [⟨some 45,.load (some 3) (.t 3),none⟩,⟨some 46,.call (.c (.fn (f_tree_Clone N) [] [])) [(.t 45)],none⟩,⟨some 7,.new (t_api_Tree N) (.agg [(.lit (.slice none 0 0)),(.lit (.slice none 0 0)),(.lit (.slice none 0 0))]),none⟩,⟨none,.store 3 (.t 7) (.t 46),none⟩]) (
 .seq (
 .seq (
 .ops [⟨some 47,.load (some 3) (.t 3),none⟩,⟨some 48,.load (some 3) (.t 7),none⟩,⟨some 49,.call (.c (.fn (f_tree_Same N) [] [])) [(.t 47),(.t 48)],none⟩,⟨some 50,.un .not (.t 49),none⟩]) (
 .cond (.t 50) (
 .seq (
 .ops [⟨some 6,.mov (.c (.lit (.bool false))),none⟩]) (
 .ret)) (
 .skip))) (
 .seq (
 .seq (
 .ops [⟨some 51,.faddr 0 (.t 7),none⟩,⟨some 52,.load none (.t 51),none⟩,⟨some 53,.len (.t 52),none⟩,⟨some 54,.mov (.c (.lit (.int .i64 0))),none⟩]) (
 .block 0 (
 .loop (L_law04_TreeSame_1 N)))) (K_law04_TreeSame_3 N))))))),false⟩

def C_law04_lives (N : Nat -> Nat) : AFunc := ⟨40,[.inl 0],
 .seq (
 .ops [⟨some 0,.mov (.c (.lit (.bool false))),none⟩]) (
 .seq (
 .ops [⟨some 7,.call (.c (.fn (f_tree_New N) [] [])) [],none⟩,⟨some 1,.mov (.t 7),none⟩]) (
 .seq (
 .ops [⟨some 9,.mov (.t 1),none⟩,⟨some 10,.build [(.lit (.int .i64 0)),(.lit (.int .i64 0)),(.lit (.string (mkS []))),(.lit (.int .i64 0)),(.lit (.int .u64 0)),(.lit (.slice none 0 0)),(.lit (.slice none 0 0)),(.lit (.slice none 0 0))] [(0,1,(.c (.lit (.int .i64 0)))),(2,1,(.c (.lit (.string (mkS [120])))))],none⟩,⟨some 11,.call (.c (.fn (f_p_tree_Builder_Term N) [] [])) [(.t 9),(.t 10)],none⟩,⟨some 8,.mov (.t 11),none⟩,⟨some 12,.extract (.t 8) 0,none⟩,⟨some 13,.extract (.t 8) 1,none⟩,⟨some 2,.mov (.t 12),none⟩,⟨some 3,.mov (.t 13),none⟩]) (
 .seq (
 .ops [⟨some 15,.mov (.t 1),none⟩,⟨some 16,.mov (.t 2),none⟩,⟨some 17,.bslice (t_int N) 1 none 1 [(.lit (.int .i64 0))] [(0,1,(.t 16))],none⟩,⟨some 18,.build [(.lit (.int .i64 0)),(.lit (.int .i64 0)),(.lit (.string (mkS []))),(.lit (.int .i64 0)),(.lit (.int .u64 0)),(.lit (.slice none 0 0)),(.lit (.slice none 0 0)),(.lit (.slice none 0 0))] [(0,1,(.c (.lit (.int .i64 5)))),(2,1,(.c (.lit (.string (mkS [120]))))),(6,1,(.t 17))],none⟩,⟨some 19,.call (.c (.fn (f_p_tree_Builder_Term N) [] [])) [(.t 15),(.t 18)],none⟩,⟨some 14,.mov (.t 19),none⟩,⟨some 20,.extract (.t 14) 0,none⟩,⟨some 21,.extract (.t 14) 1,none⟩,⟨some 4,.mov (.t 20),none⟩,⟨some 5,.mov (.t 21),none⟩]) (
 .seq (
 .ops [⟨some 22,.mov (.t 1),none⟩,⟨some 23,.call (.c (.fn (f_p_tree_Builder_Tree N) [] [])) [(.t 22)],none⟩,⟨some 6,.new (t_api_Tree N) (.agg [(.lit (.slice none 0 0)),(.lit (.slice none 0 0)),(.lit (.slice none 0 0))]),none⟩,⟨none,.store 3 (.t 6) (.t 23),none⟩]) (
 .seq (
 .ops [⟨some 24,.mov (.t 3),none⟩,⟨some 25,.eq false .pint (.t 24) (.c (.lit (.int .i64 0))),none⟩,⟨some 26,.mov (.t 25),none⟩,⟨some 27,.mov (.t 5),(some (26,true))⟩,⟨some 28,.eq false .pint (.t 27) (.c (.lit (.int .i64 0))),(some (26,true))⟩,⟨some 29,.pick (.t 26) (.t 28) (.c (.lit (.bool false))),none⟩,⟨some 30,.mov (.t 29),none⟩,⟨some 31,.load (some 3) (.t 6),(some (30,true))⟩,⟨some 32,.call (.c (.fn (f_tree_Check N) [] [])) [(.t 31)],(some (30,true))⟩,⟨some 33,.eq false .pint (.t 32) (.c (.lit (.int .i64 0))),(some (30,true))⟩,⟨some 34,.pick (.t 30) (.t 33) (.c (.lit (.bool false))),none⟩,⟨some 35,.mov (.t 34),none⟩,⟨some 36,.load (some 3) (.t 6),(some (35,true))⟩,⟨some 37,.call (.c (.fn (f_tree_Depth N) [] [])) [(.t 36)],(some (35,true))⟩,⟨some 38,.eq false .pint (.t 37) (.c (.lit (.int .i64 2))),(some (35,true))⟩,⟨some 39,.pick (.t 35) (.t 38) (.c (.lit (.bool false))),none⟩,⟨some 0,.mov (.t 39),none⟩]) (
 .ret)))))),false⟩

end Go.Proofs.Eng
namespace Go.Proofs.Eng
open Go
theorem Row.push2 {e e' : TypeId} {sz bytes : Nat} {x y : AV} {es : List AV} {os r : List (Nat × AObj)} {H0 H : Hp} (h : Row e sz x es os) (hl : Loc H0 H (os ++ r)) (hb : (es.length + 1) * bytes <= roomMax) (hg : (y.good && y.cells.length == sz) = true) :
  ∃ v H' os',appendOn (halloc H (.arr sz [y] e')) e sz bytes x [y] = some (v,some H') /\ Row e sz v (es ++ [y]) os' /\ Loc H0 H' (os' ++ r) /\ Mut H H' (os.map Prod.fst) /\ (∀ q ∈ os',H.l.length <= q.1) /\ v.good = true /\ v.cells = [v] := by
 have hL1 := (hl.alloc (.arr sz [y] e')).perm (os' := os ++ (H.l.length,.arr sz [y] e') :: r) List.perm_middle.symm
 have hr : (os ++ r).Sublist (os ++ (H.l.length,.arr sz [y] e') :: r) := List.Sublist.append (List.Sublist.refl _) (List.sublist_cons_self _ _)
 rcases h with ⟨rfl,rfl,rfl⟩ | ⟨id,rfl,rfl⟩
 ·refine ⟨.ra sz (H.l.length + 1) 0 1,halloc (halloc H (.arr sz [y] e')) (.arr sz [y] e),[(H.l.length + 1,.arr sz [y] e)],?_,.inr ⟨H.l.length + 1,by simp,by simp⟩,?_,((Mut.refl _ _).alloc _).alloc _,by simp,rfl,rfl⟩
  ·simp only [appendOn,avNilS]
   rw [if_pos ⟨by simpa using hb,by simpa using hg⟩]
   simp
  ·have := (hL1.sub hr).alloc (.arr sz [y] e)
   simpa using this
 ·have h1 := hl.head
  have hid := hget_lt h1
  have h1' : hget (halloc H (.arr sz [y] e')) id = some (.arr sz es e) := by rw [hget_halloc,if_neg (by omega)]; exact h1
  refine ⟨.ra sz (H.l.length + 1) 0 (es.length + 1),halloc (hset (halloc H (.arr sz [y] e')) id none) (.arr sz (es ++ [y]) e),[(H.l.length + 1,.arr sz (es ++ [y]) e)],?_,.inr ⟨H.l.length + 1,by simp,by simp⟩,?_,(((Mut.refl _ _).alloc _).set (.inl (by simp))).alloc _,by simp,rfl,rfl⟩
  ·simp only [appendOn,h1']
   rw [if_pos ⟨trivial,trivial,by omega,by simpa using hb,by simpa using hg⟩]
   simp
  ·have := ((hL1.sub hr).kill).alloc (.arr sz (es ++ [y]) e)
   simpa using this
theorem Loc.toMut {H H' : Hp} {os : List (Nat × AObj)} (h : Loc H H' os) : Mut { l := H.l,d := none } H' [] := ⟨h.len,fun i hi _ => h.old i hi,fun m hm => .inr (.inl (h.d m hm))⟩
section
variable {Γ : Sums} {A : Tab} {N : Nat -> Nat}
end
end Go.Proofs.Eng
namespace Go.Proofs.Eng
open Go
theorem one_gc' {x : AV} (h : x.one = true) : x.good = true /\ x.cells = [x] := by
 cases x <;> first | exact ⟨h,rfl⟩ | (simp [AV.one] at h)
def useK (ct : List Int) (k : Int) : List Int := if 0 <= k /\ k < ct.length then ct.modify k.toNat bump else ct
def useR (ct : List Int) (ks : List Int) : List Int := ks.foldl useK ct
def usesS (n : Nat) (rs : List (List Int)) : List Int := rs.foldl useR (List.replicate n 0)
theorem useK_len (ct : List Int) (k : Int) : (useK ct k).length = ct.length := by unfold useK; split <;> simp
theorem useR_len : ∀ (ks ct : List Int),(useR ct ks).length = ct.length
 | [],ct => rfl
 | k :: r,ct => by show (useR (useK ct k) r).length = _; rw [useR_len r,useK_len]
theorem usesF_len : ∀ (rs : List (List Int)) (ct : List Int),(rs.foldl useR ct).length = ct.length
 | [],ct => rfl
 | r :: rs,ct => by rw [List.foldl_cons,usesF_len rs,useR_len]
theorem fold_take {α β : Type} (f : β -> α -> β) (b : β) (l : List α) {i : Nat} (h : i < l.length) : (l.take (i + 1)).foldl f b = f ((l.take i).foldl f b) l[i] := by
 rw [List.take_succ_eq_append_getElem h,List.foldl_append]; rfl
def RowsI (H : Hp) (x : AV) (rs : List (List Int)) : Prop := ∃ xs,Vw H 1 x xs /\ xs.length = rs.length /\ ∀ (i : Nat) (y : AV) (r : List Int),xs[i]? = some y -> rs[i]? = some r -> VI H y r
section
variable {Γ : Sums} {A : Tab} {N : Nat -> Nat}
theorem ref04_uses_call (h : RefK Γ A N) {H : Hp} {x : AV} {rs : List (List Int)} {n : Nat} (hx : RowsI H x rs) (hn : n < 2 ^ 30) (hl : rs.length < 2 ^ 40) (hr : ∀ r ∈ rs,r.length < 2 ^ 40) :
  ∃ g,(lim Γ A).call (f_ref04_uses N) [avInt .i64 n,x] H = some (.ra 1 H.l.length 0 n,some g) /\ Mut H g [] /\ hget g H.l.length = some (.arr 1 ((usesS n rs).map (avInt .i64)) (t_int N)) := by
 obtain ⟨R,hR⟩ : ∃ R : AV × Option Hp -> Prop,R = fun r => ∃ g,r = (.ra 1 H.l.length 0 n,some g) /\ Mut H g [] /\ hget g H.l.length = some (.arr 1 ((usesS n rs).map (avInt .i64)) (t_int N)) := ⟨_,rfl⟩
 suffices ∃ r,(lim Γ A).call (f_ref04_uses N) [avInt .i64 n,x] H = some r /\ R r by
  obtain ⟨r,e,hr⟩ := this
  rw [hR] at hr
  obtain ⟨g,rfl,h1⟩ := hr
  exact ⟨g,e,h1⟩
 obtain ⟨xs,x1,x2,x3⟩ := hx
 have hlen := x1.len
 rw [x2] at hlen
 have hroom : n * 8 <= roomMax := by unfold roomMax; omega
 have hL0 := (Loc.start H).alloc (.arr 1 (List.replicate n (avInt .i64 0)) (t_int N))
 apply h.uses.callP (by rfl)
 simp [C_ref04_uses,hlen,hroom,-Int.natCast_add,-halloc_d]
 refine wp_round (fun q ρ G => ∃ i : Nat,ρ 0 = avInt .i64 n /\ ρ 5 = .ra 1 H.l.length 0 n /\ ρ 12 = x /\ ρ 13 = avInt .i64 rs.length /\ ρ 14 = avInt .i64 i /\ i <= rs.length /\
   Loc H G [(H.l.length,.arr 1 (((rs.take i).foldl useR (List.replicate n 0)).map (avInt .i64)) (t_int N))] /\ q = rs.length - i) (n := rs.length)
  ⟨0,by simp,by simp,by simp,by simp,by simp,by omega,by simpa using hL0,rfl⟩ ?_
 rintro q ρ G ⟨i,r0,r5,r12,r13,r14,hi,hL,rfl⟩
 by_cases hlt : i < rs.length
 ·have hlt' : (i : Int) < rs.length := by omega
  have x1' : Vw G 1 x xs := x1.loc hL
  obtain ⟨y,hy⟩ : ∃ y,xs[i]? = some y := ⟨xs[i]'(by omega),List.getElem?_eq_getElem (by omega)⟩
  have hrow := x3 i y rs[i] hy (List.getElem?_eq_getElem hlt)
  have hy1 := hrow.one
  obtain ⟨z1,z2⟩ := one_gc' hy1
  obtain ⟨p,p1,p2⟩ := x1'.at' (k := .i64) (i := (i : Int)) (e := y) (by omega) (by simpa using hy) z1 rfl z2
  have hly := VI.len hrow
  have hrl := hr _ (List.getElem_mem hlt)
  have hft := fold_take useR (List.replicate n 0) rs hlt
  have hw : IntKind.wrap .i64 ((i : Int) + 1) = ((i + 1 : Nat) : Int) := by rw [wrap64 (by omega) (by omega)]; omega
  generalize rs[i] = row at *
  obtain ⟨ct,hct⟩ : ∃ ct,ct = (rs.take i).foldl useR (List.replicate n 0) := ⟨_,rfl⟩
  rw [<- hct] at hL hft
  have hcl : ct.length = n := by rw [hct,usesF_len]; simp
  simp [L_ref04_uses_1,r0,r5,r12,r13,r14,hlt',p1,p2,hly,-Int.natCast_add,-halloc_d]
  refine wp_round (fun q ρ G => ∃ j : Nat,ρ 0 = avInt .i64 n /\ ρ 5 = .ra 1 H.l.length 0 n /\ ρ 12 = x /\ ρ 13 = avInt .i64 rs.length /\ ρ 14 = avInt .i64 i /\ ρ 18 = y /\ ρ 19 = avInt .i64 row.length /\ ρ 20 = avInt .i64 j /\ j <= row.length /\
   Loc H G [(H.l.length,.arr 1 (((row.take j).foldl useK ct).map (avInt .i64)) (t_int N))] /\ q = row.length - j) (n := row.length)
   ⟨0,by simp [r0],by simp [r5],by simp [r12],by simp [r13],by simp [r14],by simp,by simp,by simp,by omega,by simpa using hL,rfl⟩ ?_
  rintro q ρ G ⟨j,s0,s5,s12,s13,s14,s18,s19,s20,hj,hL,rfl⟩
  by_cases hjl : j < row.length
  ·have hjl' : (j : Int) < row.length := by omega
   have hrow' : VI G y row := hrow.loc hL
   obtain ⟨q,q1,q2⟩ := hrow'.at' (k := .i64) (i := (j : Int)) (e := avInt .i64 row[j]) (by omega) (by simp [List.getElem?_eq_getElem hjl]) rfl rfl rfl
   have hw2 : IntKind.wrap .i64 ((j : Int) + 1) = ((j + 1 : Nat) : Int) := by rw [wrap64 (by omega) (by omega)]; omega
   have hft2 := fold_take useK ct row hjl
   generalize row[j] = k at *
   obtain ⟨c2,hc2⟩ : ∃ c2,c2 = (row.take j).foldl useK ct := ⟨_,rfl⟩
   rw [<- hc2] at hL hft2
   have hc2l : c2.length = n := by
    have := useR_len (row.take j) ct
    rw [hc2,<- hcl]; exact this
   have hg : hget G H.l.length = some (.arr 1 (c2.map (avInt .i64)) (t_int N)) := hL.head
   by_cases hk : 0 <= k /\ k < n
   ·have hkn : k.toNat < c2.length := by omega
    have g1 := ra_iaddr (id := H.l.length) (n := n) (k := .i64) hk.1 hk.2
    have g2 := ep_load hg hkn
    have g3 := ep_store hg hkn (bump c2[k.toNat])
    have hu : useK c2 k = c2.set k.toNat (bump c2[k.toNat]) := by
     unfold useK
     rw [if_pos ⟨hk.1,by omega⟩]
     apply List.ext_getElem?
     intro y
     simp only [List.getElem?_modify,List.getElem?_set]
     by_cases hy : k.toNat = y
     ·subst hy; simp [hkn]
     ·simp [hy]
    rw [<- hu,<- hft2] at g3
    have hL2 := hL.set (.arr 1 (((row.take (j + 1)).foldl useK ct).map (avInt .i64)) (t_int N))
    have g3' : astore G 1 (.ep H.l.length k.toNat 0) (avInt .i64 (IntKind.wrap .i64 (c2[k.toNat] + 1))) = some _ := g3
    simp [L_ref04_uses_2,s0,s5,s12,s13,s14,s18,s19,s20,hjl',q1,q2,hk.1,hk.2,g1,g2,g3',hw2,-Int.natCast_add,-halloc_d,-hset_d]
    exact ⟨row.length - (j + 1),by omega,j + 1,rfl,by omega,hL2,rfl⟩
   ·have hf : useK c2 k = c2 := by
     unfold useK
     rw [if_neg (by rw [hc2l]; exact hk)]
    rw [hf] at hft2
    by_cases h0 : 0 <= k
    ·have h1 : ¬ k < n := fun h1 => hk ⟨h0,h1⟩
     simp [L_ref04_uses_2,s0,s5,s12,s13,s14,s18,s19,s20,hjl',q1,q2,h0,h1,hw2,-Int.natCast_add,-halloc_d,-hset_d]
     exact ⟨row.length - (j + 1),by omega,j + 1,rfl,by omega,by rw [hft2]; exact hL,rfl⟩
    ·simp [L_ref04_uses_2,s0,s5,s12,s13,s14,s18,s19,s20,hjl',q1,q2,h0,hw2,-Int.natCast_add,-halloc_d,-hset_d]
     exact ⟨row.length - (j + 1),by omega,j + 1,rfl,by omega,by rw [hft2]; exact hL,rfl⟩
  ·have hjl' : ¬ (j : Int) < row.length := by omega
   have hje : j = row.length := by omega
   subst hje
   rw [List.take_length] at hL
   simp [L_ref04_uses_2,K_ref04_uses_1,s0,s5,s12,s13,s14,s18,s19,s20,hw,-Int.natCast_add,-halloc_d,-hset_d]
   exact ⟨rs.length - (i + 1),by omega,i + 1,rfl,by omega,by rw [hft]; exact hL,rfl⟩
 ·have hlt' : ¬ (i : Int) < rs.length := by omega
  have hie : i = rs.length := by omega
  subst hie
  rw [List.take_length] at hL
  simp [L_ref04_uses_1,K_ref04_uses_2,r0,r5,r12,r13,r14,-Int.natCast_add,-halloc_d,-hset_d]
  rw [settle_some (by simp [AV.under]),hR]
  exact ⟨_,rfl,hL.toMut.settled,hL.head⟩
end
end Go.Proofs.Eng
namespace Go.Proofs.Eng
open Go
def Elem (H : Hp) (rest : List (Nat × AObj)) (y : AV) (r : List Int) : Prop := VI H y r \/ ∃ id k t,y = .ra 1 id 0 1 /\ r = [k] /\ (id,AObj.arr 1 [avInt .i64 k] t) ∈ rest
theorem Elem.mono {H : Hp} {rest rest' : List (Nat × AObj)} {y : AV} {r : List Int} (h : Elem H rest y r) (hs : ∀ q ∈ rest,q ∈ rest') : Elem H rest' y r := by
 rcases h with h | ⟨id,k,t,e1,e2,hm⟩
 ·exact .inl h
 ·exact .inr ⟨id,k,t,e1,e2,hs _ hm⟩
theorem Elem.vi {H G : Hp} {rest all : List (Nat × AObj)} {y : AV} {r : List Int} (h : Elem H rest y r) (hL : Loc H G all) (hs : ∀ q ∈ rest,q ∈ all) : VI G y r := by
 rcases h with h | ⟨id,k,t,rfl,rfl,hm⟩
 ·exact Vw.loc h hL
 ·have := hL.get (hs _ hm)
  exact .inr ⟨id,0,t,_,rfl,this,by simp,by simp⟩
structure Els (H : Hp) (rest : List (Nat × AObj)) (es : List AV) (rs : List (List Int)) : Prop where
 len : es.length = rs.length
 el : ∀ (i : Nat) (y : AV) (r : List Int),es[i]? = some y -> rs[i]? = some r -> Elem H rest y r
theorem Els.mono {H : Hp} {rest rest' : List (Nat × AObj)} {es : List AV} {rs : List (List Int)} (h : Els H rest es rs) (hs : ∀ q ∈ rest,q ∈ rest') : Els H rest' es rs := ⟨h.len,fun i y r h1 h2 => (h.el i y r h1 h2).mono hs⟩
theorem Els.snoc {H : Hp} {rest : List (Nat × AObj)} {es : List AV} {rs : List (List Int)} {y : AV} {r : List Int} (h : Els H rest es rs) (hy : Elem H rest y r) : Els H rest (es ++ [y]) (rs ++ [r]) := by
 refine ⟨by simp [h.len],fun i z s h1 h2 => ?_⟩
 by_cases hi : i < es.length
 ·rw [List.getElem?_append_left hi] at h1
  rw [List.getElem?_append_left (by rw [<- h.len]; exact hi)] at h2
  exact h.el i z s h1 h2
 ·have hlt := (List.getElem?_eq_some_iff.1 h1).1
  have : i = es.length := by simp at hlt; omega
  subst this
  simp at h1
  rw [h.len] at h2
  simp at h2
  subst h1; subst h2
  exact hy
theorem Els.rows {H G : Hp} {rest os r : List (Nat × AObj)} {es : List AV} {rs : List (List Int)} {v : AV} {e : TypeId} (h : Els H rest es rs) (hv : Row e 1 v es os) (hL : Loc H G (os ++ r)) (hs : ∀ q ∈ rest,q ∈ os ++ r) : RowsI G v rs :=
 ⟨es,hv.vw hL,h.len,fun i y r h1 h2 => (h.el i y r h1 h2).vi hL hs⟩
structure RSt (N : Nat -> Nat) (H : Hp) (a b c : AV) (v3 v4 : AV) (G : Hp) (rs3 rs4 : List (List Int)) (X : List (Nat × AObj)) : Prop where
 ex : ∃ es3 os3 es4 os4 rest,(∀ q ∈ X,q ∈ rest) /\ Row (t_sl_int N) 1 v3 es3 os3 /\ Row (t_sl_int N) 1 v4 es4 os4 /\ Loc H G (os3 ++ (os4 ++ rest)) /\ (H.l.length,AObj.cells [a,b,c] (t_api_Tree N)) ∈ rest /\ Els H rest es3 rs3 /\ Els H rest es4 rs4
section
variable {N : Nat -> Nat} {H G : Hp} {a b c v3 v4 : AV} {rs3 rs4 : List (List Int)} {X : List (Nat × AObj)}
theorem RSt.box (h : RSt N H a b c v3 v4 G rs3 rs4 X) : hget G H.l.length = some (.cells [a,b,c] (t_api_Tree N)) := by
 obtain ⟨es3,os3,es4,os4,rest,hX,h1,h2,h3,h4,h5,h6⟩ := h.ex
 exact h3.get (p := (H.l.length,_)) (by simp [h4])
theorem RSt.loc (h : RSt N H a b c v3 v4 G rs3 rs4 X) : Loc H G [] := by
 obtain ⟨es3,os3,es4,os4,rest,hX,h1,h2,h3,h4,h5,h6⟩ := h.ex
 exact h3.sub (List.nil_sublist _)
theorem RSt.alloc (h : RSt N H a b c v3 v4 G rs3 rs4 X) (o : AObj) : RSt N H a b c v3 v4 (halloc G o) rs3 rs4 X := by
 obtain ⟨es3,os3,es4,os4,rest,hX,h1,h2,h3,h4,h5,h6⟩ := h.ex
 exact ⟨es3,os3,es4,os4,rest,hX,h1,h2,(h3.alloc o).sub (List.sublist_cons_self _ _),h4,h5,h6⟩
theorem RSt.cell (h : RSt N H a b c v3 v4 G rs3 rs4 X) (o o' : AObj) : RSt N H a b c v3 v4 (hset (halloc G o) G.l.length (some o')) rs3 rs4 ((G.l.length,o') :: X) := by
 obtain ⟨es3,os3,es4,os4,rest,hX,h1,h2,h3,h4,h5,h6⟩ := h.ex
 have hsub : ∀ q ∈ rest,q ∈ (G.l.length,o') :: rest := fun q hq => List.mem_cons_of_mem _ hq
 refine ⟨es3,os3,es4,os4,(G.l.length,o') :: rest,fun q hq => ?_,h1,h2,((h3.alloc o).set o').perm ?_,hsub _ h4,h5.mono hsub,h6.mono hsub⟩
 ·rcases List.mem_cons.1 hq with rfl | hq
  ·simp
  ·exact hsub _ (hX q hq)
 ·rw [<- List.append_assoc,<- List.append_assoc]
  exact List.perm_middle.symm
theorem RSt.kept (h : RSt N H a b c v3 v4 G rs3 rs4 X) {id : Nat} {o : AObj} (hm : (id,o) ∈ X) : hget G id = some o := by
 obtain ⟨es3,os3,es4,os4,rest,hX,h1,h2,h3,h4,h5,h6⟩ := h.ex
 exact h3.get (p := (id,o)) (by simp [hX _ hm])
theorem RSt.drop (h : RSt N H a b c v3 v4 G rs3 rs4 X) : RSt N H a b c v3 v4 G rs3 rs4 [] := by
 obtain ⟨es3,os3,es4,os4,rest,hX,h1,h2,h3,h4,h5,h6⟩ := h.ex
 exact ⟨es3,os3,es4,os4,rest,by simp,h1,h2,h3,h4,h5,h6⟩
theorem RSt.push3 (h : RSt N H a b c v3 v4 G rs3 rs4 X) {y : AV} {r : List Int} (hy : VI H y r) (hl : rs3.length < 2 ^ 30) :
  ∃ v G',appendOn (halloc G (.arr 1 [y] (t_sl_int N))) (t_sl_int N) 1 24 v3 [y] = some (v,some G') /\ RSt N H a b c v v4 G' (rs3 ++ [r]) rs4 X := by
 obtain ⟨es3,os3,es4,os4,rest,hX,h1,h2,h3,h4,h5,h6⟩ := h.ex
 obtain ⟨g1,g2⟩ := one_gc' hy.one
 have hel := h5.len
 obtain ⟨v,G',os',e1,e2,e3,_⟩ := h1.push2 (e' := t_sl_int N) (bytes := 24) (y := y) h3 (by unfold roomMax; omega) (by simp [g1,g2])
 exact ⟨v,G',e1,⟨_,_,es4,os4,rest,hX,e2,h2,e3,h4,h5.snoc (.inl hy),h6⟩⟩
theorem RSt.push4 (h : RSt N H a b c v3 v4 G rs3 rs4 X) {y : AV} {r : List Int} (hy : VI H y r) (hl : rs4.length < 2 ^ 30) :
  ∃ v G',appendOn (halloc G (.arr 1 [y] (t_sl_int N))) (t_sl_int N) 1 24 v4 [y] = some (v,some G') /\ RSt N H a b c v3 v G' rs3 (rs4 ++ [r]) X := by
 obtain ⟨es3,os3,es4,os4,rest,hX,h1,h2,h3,h4,h5,h6⟩ := h.ex
 obtain ⟨g1,g2⟩ := one_gc' hy.one
 have hel := h6.len
 have h3' : Loc H G (os4 ++ (os3 ++ rest)) := h3.perm (by rw [<- List.append_assoc,<- List.append_assoc]; exact List.Perm.append_right _ List.perm_append_comm)
 obtain ⟨v,G',os',e1,e2,e3,_⟩ := h2.push2 (e' := t_sl_int N) (bytes := 24) (y := y) h3' (by unfold roomMax; omega) (by simp [g1,g2])
 have e3' : Loc H G' (os3 ++ (os' ++ rest)) := e3.perm (by rw [<- List.append_assoc,<- List.append_assoc]; exact List.Perm.append_right _ List.perm_append_comm)
 exact ⟨v,G',e1,⟨es3,os3,_,_,rest,hX,h1,e2,e3',h4,h5,h6.snoc (.inl hy)⟩⟩
theorem RSt.push4n (h : RSt N H a b c v3 v4 G rs3 rs4 X) (k : Int) (t : TypeId) (hl : rs4.length < 2 ^ 30) :
  ∃ v G',appendOn (halloc (halloc G (.arr 1 [avInt .i64 k] t)) (.arr 1 [.ra 1 G.l.length 0 1] (t_sl_int N))) (t_sl_int N) 1 24 v4 [.ra 1 G.l.length 0 1] = some (v,some G') /\ RSt N H a b c v3 v G' rs3 (rs4 ++ [[k]]) X := by
 obtain ⟨es3,os3,es4,os4,rest,hX,h1,h2,h3,h4,h5,h6⟩ := h.ex
 have hel := h6.len
 have hsub : ∀ q ∈ rest,q ∈ (G.l.length,AObj.arr 1 [avInt .i64 k] t) :: rest := fun q hq => List.mem_cons_of_mem _ hq
 have h3a := h3.alloc (.arr 1 [avInt .i64 k] t)
 have h3' : Loc H (halloc G (.arr 1 [avInt .i64 k] t)) (os4 ++ (os3 ++ ((G.l.length,AObj.arr 1 [avInt .i64 k] t) :: rest))) := h3a.perm (by
  have p1 : List.Perm ((G.l.length,AObj.arr 1 [avInt .i64 k] t) :: (os3 ++ (os4 ++ rest))) ((G.l.length,AObj.arr 1 [avInt .i64 k] t) :: (os4 ++ (os3 ++ rest))) := List.Perm.cons _ (by rw [<- List.append_assoc,<- List.append_assoc]; exact List.Perm.append_right _ List.perm_append_comm)
  refine p1.trans ?_
  rw [<- List.append_assoc,<- List.append_assoc]
  exact List.perm_middle.symm)
 obtain ⟨v,G',os',e1,e2,e3,_⟩ := h2.push2 (e' := t_sl_int N) (bytes := 24) (y := .ra 1 G.l.length 0 1) h3' (by unfold roomMax; omega) (by rfl)
 have e3' : Loc H G' (os3 ++ (os' ++ ((G.l.length,AObj.arr 1 [avInt .i64 k] t) :: rest))) := e3.perm (by rw [<- List.append_assoc,<- List.append_assoc]; exact List.Perm.append_right _ List.perm_append_comm)
 exact ⟨v,G',e1,⟨es3,os3,_,_,_,fun q hq => hsub _ (hX q hq),h1,e2,e3',List.mem_cons_of_mem _ h4,h5.mono hsub,(h6.mono hsub).snoc (.inr ⟨_,k,t,rfl,rfl,by simp⟩)⟩⟩
theorem RSt.rows3 (h : RSt N H a b c v3 v4 G rs3 rs4 X) : RowsI G v3 rs3 := by
 obtain ⟨es3,os3,es4,os4,rest,hX,h1,h2,h3,h4,h5,h6⟩ := h.ex
 exact h5.rows h1 h3 (fun q hq => by simp [hq])
theorem RSt.rows4 (h : RSt N H a b c v3 v4 G rs3 rs4 X) : RowsI G v4 rs4 := by
 obtain ⟨es3,os3,es4,os4,rest,hX,h1,h2,h3,h4,h5,h6⟩ := h.ex
 have h3' : Loc H G (os4 ++ (os3 ++ rest)) := h3.perm (by rw [<- List.append_assoc,<- List.append_assoc]; exact List.Perm.append_right _ List.perm_append_comm)
 exact h6.rows h2 h3' (fun q hq => by simp [hq])
end
end Go.Proofs.Eng
namespace Go.Proofs.Eng
open Go
theorem asElems_ra' {H : Hp} {sz id off n : Nat} : asElems H (.ra sz id off n) = (match hget H id with | some (.arr _ es _) => if off + n <= es.length then some ((es.drop off).take n) else none | _ => none) := rfl
def okN (T i : Nat) (n : Nd) : Bool := termB n && (belowB n.kids i && belowB n.types T)
section
variable {Γ : Sums} {A : Tab} {N : Nat -> Nat}
set_option maxHeartbeats 1000000 in
theorem right_loop1 (h : RefK Γ A N) {H : Hp} {a b c : AV} {l : List Nd} {T : Nat} (ra : RowR NdR 8 H a l) (ok : ∀ n ∈ l,n.ok) (wf : ∀ n ∈ l,n.wf) (lb : asLen b = some T) (hl : l.length < 2 ^ 20) {rs3 : List (List Int)} (h3 : rs3.length < 2 ^ 20) {ρ : Rho} {G : Hp}
  (r1 : ρ 1 = .ptr H.l.length 0) (r39 : ρ 39 = a) (r40 : ρ 40 = avInt .i64 l.length) (r41 : ρ 41 = avInt .i64 (0 : Nat)) (hS : RSt N H a b c (ρ 3) (ρ 4) G rs3 [] []) {Q : Post}
  (hF : (∃ (i : Nat) (n : Nd),l[i]? = some n /\ okN T i n = false) -> ∀ ρ' G',Loc H G' [] -> ρ' 2 = avBool false -> Q .ret ρ' G')
  (hD : (∀ (i : Nat) (n : Nd),l[i]? = some n -> okN T i n = true) -> ∀ ρ' G',ρ' 1 = .ptr H.l.length 0 -> RSt N H a b c (ρ' 3) (ρ' 4) G' (rs3 ++ l.map (·.kids)) (l.map (·.types)) [] -> Q (.exit 0) ρ' G') :
  wp (lim Γ A) none (.loop (L_ref04_Right_1 N)) ρ G Q := by
 obtain ⟨xs,x1,x2,x3⟩ := ra
 refine wp_round (fun q ρ G => ∃ i : Nat,ρ 1 = .ptr H.l.length 0 /\ ρ 39 = a /\ ρ 40 = avInt .i64 l.length /\ ρ 41 = avInt .i64 i /\ i <= l.length /\ RSt N H a b c (ρ 3) (ρ 4) G (rs3 ++ (l.take i).map (·.kids)) ((l.take i).map (·.types)) [] /\
   (∀ (j : Nat) (n : Nd),j < i -> l[j]? = some n -> okN T j n = true) /\ q = l.length - i) (n := l.length)
  ⟨0,r1,r39,r40,r41,by omega,by simpa using hS,by omega,rfl⟩ ?_
 rintro q ρ G ⟨i,r1,r39,r40,r41,hi,hS,hok,rfl⟩
 by_cases hlt : i < l.length
 ·have hlt' : (i : Int) < l.length := by omega
  have hw : IntKind.wrap .i64 ((i : Int) + 1) = ((i + 1 : Nat) : Int) := by rw [wrap64 (by omega) (by omega)]; omega
  have hgi : l[i]? = some l[i] := List.getElem?_eq_getElem hlt
  have htk : l.take (i + 1) = l.take i ++ [l[i]] := List.take_succ_eq_append_getElem hlt
  have okn := ok _ (List.getElem_mem hlt)
  have wfn := wf _ (List.getElem_mem hlt)
  obtain ⟨y,hy⟩ : ∃ y,xs[i]? = some y := ⟨xs[i]'(by omega),List.getElem?_eq_getElem (by omega)⟩
  have hnd := x3 i y l[i] hy hgi
  generalize l[i] = n at *
  obtain ⟨na,nb,nc,rfl,v1,v2,v3⟩ := id hnd
  have o1 := Vw.one v1
  have o2 := Vw.one v2
  have o3 := Vw.one v3
  have hG := hS.loc
  have x1' : Vw G 8 a xs := x1.loc hG
  have hall : ([avInt .i64 n.kind,avInt .i64 n.pos,avStr n.name,avInt .i64 n.int,avInt .u64 n.bits,na,nb,nc] : List AV).all AV.one = true := by
   simp only [List.all_cons,List.all_nil,o1,o2,o3,Bool.and_true]; rfl
  obtain ⟨p,p1,p2⟩ := x1'.ats (k := .i64) hy rfl hall
  obtain ⟨G1,hG1⟩ : ∃ G1,G1 = hset (halloc G (.cells [.lit (.int .i64 0),.lit (.int .i64 0),.lit (.string (mkS [])),.lit (.int .i64 0),.lit (.int .u64 0),.lit (.slice none 0 0),.lit (.slice none 0 0),.lit (.slice none 0 0)] (t_api_Node N))) G.l.length (some (.cells [avInt .i64 n.kind,avInt .i64 n.pos,avStr n.name,avInt .i64 n.int,avInt .u64 n.bits,na,nb,nc] (t_api_Node N))) := ⟨_,rfl⟩
  have hS1 : RSt N H a b c (ρ 3) (ρ 4) G1 (rs3 ++ (l.take i).map (·.kids)) ((l.take i).map (·.types)) [(G.l.length,.cells [avInt .i64 n.kind,avInt .i64 n.pos,avStr n.name,avInt .i64 n.int,avInt .u64 n.bits,na,nb,nc] (t_api_Node N))] := by rw [hG1]; exact hS.cell _ _
  have hb1 := hS1.box
  have hb6 : hget G1 G.l.length = some (.cells [avInt .i64 n.kind,avInt .i64 n.pos,avStr n.name,avInt .i64 n.int,avInt .u64 n.bits,na,nb,nc] (t_api_Node N)) := by rw [hG1]; simp
  have hk1 := hS1.loc.kp
  have e1 := ref04_term_call h (hk1.nd hnd) okn wfn
  have e2 := ref04_below_call h.below (n := (i : Int)) (hk1.vw v2) (by have := okn.2.2.2.1; omega)
  have e3 := ref04_below_call h.below (n := (T : Int)) (hk1.vw v3) (by have := okn.2.2.2.2; omega)
  have hbad : okN T i n = false -> ∀ ρ',ρ' 2 = avBool false -> Q .ret ρ' G1 := fun hh ρ' r2 => hF ⟨i,n,hgi,hh⟩ ρ' G1 hS1.loc r2
  unfold ndV at e1
  rcases c1 : termB n with _ | _
  ·rw [c1] at e1
   have hb := hbad (by unfold okN; rw [c1]; rfl)
   simp [L_ref04_Right_1,r1,r39,r40,r41,hlt',p1,p2,setFrom,o1,o2,o3,<- hG1,hb6,hb1,e1,loadC,lb,-halloc_d,-hset_d]
   exact hb _ (by simp)
  rcases c2 : belowB n.kids i with _ | _
  ·rw [c1] at e1
   rw [c2] at e2
   have hb := hbad (by unfold okN; rw [c1,c2]; rfl)
   simp [L_ref04_Right_1,r1,r39,r40,r41,hlt',p1,p2,setFrom,o1,o2,o3,<- hG1,hb6,hb1,loadC,lb,e1,e2,-halloc_d,-hset_d]
   exact hb _ (by simp)
  rcases c3 : belowB n.types T with _ | _
  ·rw [c1] at e1
   rw [c2] at e2
   rw [c3] at e3
   have hb := hbad (by unfold okN; rw [c1,c2,c3]; rfl)
   simp [L_ref04_Right_1,r1,r39,r40,r41,hlt',p1,p2,setFrom,o1,o2,o3,<- hG1,hb6,hb1,loadC,lb,e1,e2,e3,-halloc_d,-hset_d]
   exact hb _ (by simp)
  rw [c1] at e1
  rw [c2] at e2
  rw [c3] at e3
  obtain ⟨g2a,g2b⟩ := one_gc' o2
  obtain ⟨g3a,g3b⟩ := one_gc' o3
  obtain ⟨w3,G2,f1,hS2⟩ := hS1.push3 v2 (by simp; omega)
  have hb6' : hget G2 G.l.length = some (.cells [avInt .i64 n.kind,avInt .i64 n.pos,avStr n.name,avInt .i64 n.int,avInt .u64 n.bits,na,nb,nc] (t_api_Node N)) := hS2.kept (by simp)
  obtain ⟨w4,G3,f2,hS3⟩ := hS2.push4 v3 (by simp; omega)
  simp [L_ref04_Right_1,r1,r39,r40,r41,hlt',p1,p2,setFrom,o1,o2,o3,<- hG1,hb6,hb1,loadC,lb,e1,e2,e3,chunk,fillA,repl,asElems_ra',g2a,g2b,g3a,g3b,f1,f2,hb6',hw,-Int.natCast_add,-halloc_d,-hset_d]
  refine ⟨l.length - (i + 1),by omega,i + 1,rfl,by omega,?_,fun j m hj hm => ?_,rfl⟩
  ·have := hS3.drop
   rw [<- List.map_take,<- List.map_take,htk,List.map_append,List.map_append,<- List.append_assoc]
   simpa using this
  ·by_cases hji : j = i
   ·subst hji
    rw [hgi] at hm
    cases hm
    unfold okN
    rw [c1,c2,c3]
    rfl
   ·exact hok j m (by omega) hm
 ·have hlt' : ¬ (i : Int) < l.length := by omega
  have hie : i = l.length := by omega
  subst hie
  rw [List.take_length] at hS
  have hd := hD (fun j n hj => hok j n (List.getElem?_eq_some_iff.1 hj).1 hj)
  simp [L_ref04_Right_1,r1,r39,r40,r41,-Int.natCast_add,-halloc_d,-hset_d]
  exact hd _ _ (by simp [r1]) (by simpa using hS)
end
end Go.Proofs.Eng
namespace Go.Proofs.Eng
open Go
def okTyp (i : Nat) (n : Ty) : Bool := typB n && belowB n.kids i
section
variable {Γ : Sums} {A : Tab} {N : Nat -> Nat}
set_option maxHeartbeats 1000000 in
theorem right_loop2 (h : RefK Γ A N) {H : Hp} {a b c : AV} {l : List Ty} (ra : RowR TyR 6 H b l) (ok : ∀ n ∈ l,n.ok) (wf : ∀ n ∈ l,n.name.length <= 1048576) (hl : l.length < 2 ^ 20) {rs3 rs4 : List (List Int)} (h4 : rs4.length < 2 ^ 20) {ρ : Rho} {G : Hp}
  (r1 : ρ 1 = .ptr H.l.length 0) (r77 : ρ 77 = b) (r78 : ρ 78 = avInt .i64 l.length) (r79 : ρ 79 = avInt .i64 (0 : Nat)) (hS : RSt N H a b c (ρ 3) (ρ 4) G rs3 rs4 []) {Q : Post}
  (hF : (∃ (i : Nat) (n : Ty),l[i]? = some n /\ okTyp i n = false) -> ∀ ρ' G',Loc H G' [] -> ρ' 2 = avBool false -> Q .ret ρ' G')
  (hD : (∀ (i : Nat) (n : Ty),l[i]? = some n -> okTyp i n = true) -> ∀ ρ' G',ρ' 1 = .ptr H.l.length 0 -> RSt N H a b c (ρ' 3) (ρ' 4) G' rs3 (rs4 ++ l.map (·.kids)) [] -> Q (.exit 2) ρ' G') :
  wp (lim Γ A) none (.loop (L_ref04_Right_2 N)) ρ G Q := by
 obtain ⟨xs,x1,x2,x3⟩ := ra
 refine wp_round (fun q ρ G => ∃ i : Nat,ρ 1 = .ptr H.l.length 0 /\ ρ 77 = b /\ ρ 78 = avInt .i64 l.length /\ ρ 79 = avInt .i64 i /\ i <= l.length /\ RSt N H a b c (ρ 3) (ρ 4) G rs3 (rs4 ++ (l.take i).map (·.kids)) [] /\
   (∀ (j : Nat) (n : Ty),j < i -> l[j]? = some n -> okTyp j n = true) /\ q = l.length - i) (n := l.length)
  ⟨0,r1,r77,r78,r79,by omega,by simpa using hS,by omega,rfl⟩ ?_
 rintro q ρ G ⟨i,r1,r77,r78,r79,hi,hS,hok,rfl⟩
 by_cases hlt : i < l.length
 ·have hlt' : (i : Int) < l.length := by omega
  have hw : IntKind.wrap .i64 ((i : Int) + 1) = ((i + 1 : Nat) : Int) := by rw [wrap64 (by omega) (by omega)]; omega
  have hgi : l[i]? = some l[i] := List.getElem?_eq_getElem hlt
  have htk : l.take (i + 1) = l.take i ++ [l[i]] := List.take_succ_eq_append_getElem hlt
  have okn := ok _ (List.getElem_mem hlt)
  have wfn := wf _ (List.getElem_mem hlt)
  obtain ⟨y,hy⟩ : ∃ y,xs[i]? = some y := ⟨xs[i]'(by omega),List.getElem?_eq_getElem (by omega)⟩
  have hnd := x3 i y l[i] hy hgi
  generalize l[i] = n at *
  obtain ⟨na,nb,rfl,v1,v2⟩ := id hnd
  have o1 := Vw.one v1
  have o2 := Vw.one v2
  have hG := hS.loc
  have x1' : Vw G 6 b xs := x1.loc hG
  have hall : ([avInt .i64 n.kind,avInt .i64 n.pos,avStr n.name,na,nb,avBool n.opn] : List AV).all AV.one = true := by
   simp only [List.all_cons,List.all_nil,o1,o2,Bool.and_true]; rfl
  obtain ⟨p,p1,p2⟩ := x1'.ats (k := .i64) hy rfl hall
  obtain ⟨G1,hG1⟩ : ∃ G1,G1 = hset (halloc G (.cells [.lit (.int .i64 0),.lit (.int .i64 0),.lit (.string (mkS [])),.lit (.slice none 0 0),.lit (.slice none 0 0),.lit (.bool false)] (t_api_TypeNode N))) G.l.length (some (.cells [avInt .i64 n.kind,avInt .i64 n.pos,avStr n.name,na,nb,avBool n.opn] (t_api_TypeNode N))) := ⟨_,rfl⟩
  have hS1 : RSt N H a b c (ρ 3) (ρ 4) G1 rs3 (rs4 ++ (l.take i).map (·.kids)) [(G.l.length,.cells [avInt .i64 n.kind,avInt .i64 n.pos,avStr n.name,na,nb,avBool n.opn] (t_api_TypeNode N))] := by rw [hG1]; exact hS.cell _ _
  have hb6 : hget G1 G.l.length = some (.cells [avInt .i64 n.kind,avInt .i64 n.pos,avStr n.name,na,nb,avBool n.opn] (t_api_TypeNode N)) := by rw [hG1]; simp
  have hk1 := hS1.loc.kp
  have e1 := ref04_typ_call h (hk1.ty hnd) okn wfn
  have e2 := ref04_below_call h.below (n := (i : Int)) (hk1.vw v2) (by have := okn.2.2.2; omega)
  have hbad : okTyp i n = false -> ∀ ρ',ρ' 2 = avBool false -> Q .ret ρ' G1 := fun hh ρ' r2 => hF ⟨i,n,hgi,hh⟩ ρ' G1 hS1.loc r2
  unfold tyV at e1
  rcases c1 : typB n with _ | _
  ·rw [c1] at e1
   have hb := hbad (by unfold okTyp; rw [c1]; rfl)
   simp [L_ref04_Right_2,r1,r77,r78,r79,hlt',p1,p2,setFrom,o1,o2,<- hG1,hb6,e1,loadC,-halloc_d,-hset_d]
   exact hb _ (by simp)
  rcases c2 : belowB n.kids i with _ | _
  ·rw [c1] at e1
   rw [c2] at e2
   have hb := hbad (by unfold okTyp; rw [c1,c2]; rfl)
   simp [L_ref04_Right_2,r1,r77,r78,r79,hlt',p1,p2,setFrom,o1,o2,<- hG1,hb6,e1,e2,loadC,-halloc_d,-hset_d]
   exact hb _ (by simp)
  rw [c1] at e1
  rw [c2] at e2
  obtain ⟨g2a,g2b⟩ := one_gc' o2
  obtain ⟨w4,G3,f2,hS3⟩ := hS1.push4 v2 (by simp; omega)
  simp [L_ref04_Right_2,r1,r77,r78,r79,hlt',p1,p2,setFrom,o1,o2,<- hG1,hb6,e1,e2,loadC,chunk,fillA,repl,asElems_ra',g2a,g2b,f2,hw,-Int.natCast_add,-halloc_d,-hset_d]
  refine ⟨l.length - (i + 1),by omega,i + 1,rfl,by omega,?_,fun j m hj hm => ?_,rfl⟩
  ·have := hS3.drop
   rw [<- List.map_take,htk,List.map_append,<- List.append_assoc]
   simpa using this
  ·by_cases hji : j = i
   ·subst hji
    rw [hgi] at hm
    cases hm
    unfold okTyp
    rw [c1,c2]
    rfl
   ·exact hok j m (by omega) hm
 ·have hlt' : ¬ (i : Int) < l.length := by omega
  have hie : i = l.length := by omega
  subst hie
  rw [List.take_length] at hS
  have hd := hD (fun j n hj => hok j n (List.getElem?_eq_some_iff.1 hj).1 hj)
  simp [L_ref04_Right_2,r1,r77,r78,r79,-Int.natCast_add,-halloc_d,-hset_d]
  exact hd _ _ (by simp [r1]) (by simpa using hS)
end
end Go.Proofs.Eng
namespace Go.Proofs.Eng
open Go
def okA (T : Nat) (n : Al) : Bool := aliasB n.name && belowB [n.type] T
section
variable {Γ : Sums} {A : Tab} {N : Nat -> Nat}
set_option maxHeartbeats 1000000 in
theorem right_loop3 (h : RefK Γ A N) {H : Hp} {a b c : AV} {l : List Al} {T : Nat} (ra : RowR AlR 3 H c l) (wf : ∀ n ∈ l,n.name.length <= 1048576) (lb : asLen b = some T) (hl : l.length < 2 ^ 20) {rs3 rs4 : List (List Int)} (h4 : rs4.length < 2 ^ 22) {ρ : Rho} {G : Hp}
  (r1 : ρ 1 = .ptr H.l.length 0) (r101 : ρ 101 = c) (r102 : ρ 102 = avInt .i64 l.length) (r103 : ρ 103 = avInt .i64 (0 : Nat)) (hS : RSt N H a b c (ρ 3) (ρ 4) G rs3 rs4 []) {Q : Post}
  (hF : (∃ (i : Nat) (n : Al),l[i]? = some n /\ okA T n = false) -> ∀ ρ' G',Loc H G' [] -> ρ' 2 = avBool false -> Q .ret ρ' G')
  (hD : (∀ (i : Nat) (n : Al),l[i]? = some n -> okA T n = true) -> ∀ ρ' G',ρ' 1 = .ptr H.l.length 0 -> RSt N H a b c (ρ' 3) (ρ' 4) G' rs3 (rs4 ++ l.map (fun n => [n.type])) [] -> Q (.exit 4) ρ' G') :
  wp (lim Γ A) none (.loop (L_ref04_Right_3 N)) ρ G Q := by
 obtain ⟨xs,x1,x2,x3⟩ := ra
 refine wp_round (fun q ρ G => ∃ i : Nat,ρ 1 = .ptr H.l.length 0 /\ ρ 101 = c /\ ρ 102 = avInt .i64 l.length /\ ρ 103 = avInt .i64 i /\ i <= l.length /\ RSt N H a b c (ρ 3) (ρ 4) G rs3 (rs4 ++ (l.take i).map (fun n => [n.type])) [] /\
   (∀ (j : Nat) (n : Al),j < i -> l[j]? = some n -> okA T n = true) /\ q = l.length - i) (n := l.length)
  ⟨0,r1,r101,r102,r103,by omega,by simpa using hS,by omega,rfl⟩ ?_
 rintro q ρ G ⟨i,r1,r101,r102,r103,hi,hS,hok,rfl⟩
 by_cases hlt : i < l.length
 ·have hlt' : (i : Int) < l.length := by omega
  have hw : IntKind.wrap .i64 ((i : Int) + 1) = ((i + 1 : Nat) : Int) := by rw [wrap64 (by omega) (by omega)]; omega
  have hgi : l[i]? = some l[i] := List.getElem?_eq_getElem hlt
  have htk : l.take (i + 1) = l.take i ++ [l[i]] := List.take_succ_eq_append_getElem hlt
  have wfn := wf _ (List.getElem_mem hlt)
  obtain ⟨y,hy⟩ : ∃ y,xs[i]? = some y := ⟨xs[i]'(by omega),List.getElem?_eq_getElem (by omega)⟩
  have hnd := x3 i y l[i] hy hgi
  generalize l[i] = n at *
  cases hnd
  have hG := hS.loc
  have x1' : Vw G 3 c xs := x1.loc hG
  obtain ⟨p,p1,p2⟩ := x1'.ats (k := .i64) (ys := [avStr n.name,avInt .i64 n.type,avInt .i64 n.pos]) hy rfl rfl
  obtain ⟨G1,hG1⟩ : ∃ G1,G1 = hset (halloc G (.cells [.lit (.string (mkS [])),.lit (.int .i64 0),.lit (.int .i64 0)] (t_api_Alias N))) G.l.length (some (.cells [avStr n.name,avInt .i64 n.type,avInt .i64 n.pos] (t_api_Alias N))) := ⟨_,rfl⟩
  have hS1 : RSt N H a b c (ρ 3) (ρ 4) G1 rs3 (rs4 ++ (l.take i).map (fun n => [n.type])) [(G.l.length,.cells [avStr n.name,avInt .i64 n.type,avInt .i64 n.pos] (t_api_Alias N))] := by rw [hG1]; exact hS.cell _ _
  have hb1 := hS1.box
  have hb6 : hget G1 G.l.length = some (.cells [avStr n.name,avInt .i64 n.type,avInt .i64 n.pos] (t_api_Alias N)) := by rw [hG1]; simp
  have e1 := ref04_Alias_call h n.name (by omega) G1
  rw [<- alias_eq wfn] at e1
  obtain ⟨G2,hG2⟩ : ∃ G2,G2 = halloc G1 (.arr 1 [avInt .i64 n.type] (t_int N)) := ⟨_,rfl⟩
  have hS2 : RSt N H a b c (ρ 3) (ρ 4) G2 rs3 (rs4 ++ (l.take i).map (fun n => [n.type])) [(G.l.length,.cells [avStr n.name,avInt .i64 n.type,avInt .i64 n.pos] (t_api_Alias N))] := by rw [hG2]; exact hS1.alloc _
  have hb2 := hS2.box
  have hb7 := hS2.kept (id := G.l.length) (o := .cells [avStr n.name,avInt .i64 n.type,avInt .i64 n.pos] (t_api_Alias N)) (by simp)
  have hvi : VI G2 (.ra 1 G1.l.length 0 1) [n.type] := by rw [hG2]; exact .inr ⟨G1.l.length,0,t_int N,[avInt .i64 n.type],rfl,by simp,by simp,by simp⟩
  have e2 := ref04_below_call h.below (n := (T : Int)) hvi (by simp)
  rcases c1 : aliasB n.name with _ | _
  ·rw [c1] at e1
   have hb := hF ⟨i,n,hgi,by unfold okA; rw [c1]; rfl⟩
   simp [L_ref04_Right_3,r1,r101,r102,r103,hlt',p1,p2,setFrom,<- hG1,hb6,e1,loadC,-halloc_d,-hset_d]
   exact hb _ _ hS1.loc (by simp)
  rcases c2 : belowB [n.type] T with _ | _
  ·rw [c1] at e1
   rw [c2] at e2
   have hb := hF ⟨i,n,hgi,by unfold okA; rw [c1,c2]; rfl⟩
   simp [L_ref04_Right_3,r1,r101,r102,r103,hlt',p1,p2,setFrom,<- hG1,hb6,e1,loadC,chunk,fillA,repl,<- hG2,hb2,lb,e2,-halloc_d,-hset_d]
   exact hb _ _ hS2.loc (by simp)
  rw [c1] at e1
  rw [c2] at e2
  obtain ⟨w4,G3,f2,hS3⟩ := hS2.push4n n.type (t_int N) (by simp; omega)
  simp [L_ref04_Right_3,r1,r101,r102,r103,hlt',p1,p2,setFrom,<- hG1,hb6,e1,loadC,chunk,fillA,repl,<- hG2,hb2,hb7,lb,e2,asElems_ra',f2,hw,-Int.natCast_add,-halloc_d,-hset_d]
  refine ⟨l.length - (i + 1),by omega,i + 1,rfl,by omega,?_,fun j m hj hm => ?_,rfl⟩
  ·have := hS3.drop
   rw [<- List.map_take,htk,List.map_append,<- List.append_assoc]
   simpa using this
  ·by_cases hji : j = i
   ·subst hji
    rw [hgi] at hm
    cases hm
    unfold okA
    rw [c1,c2]
    rfl
   ·exact hok j m (by omega) hm
 ·have hlt' : ¬ (i : Int) < l.length := by omega
  have hie : i = l.length := by omega
  subst hie
  rw [List.take_length] at hS
  have hd := hD (fun j n hj => hok j n (List.getElem?_eq_some_iff.1 hj).1 hj)
  simp [L_ref04_Right_3,r1,r101,r102,r103,-Int.natCast_add,-halloc_d,-hset_d]
  exact hd _ _ (by simp [r1]) (by simpa using hS)
end
end Go.Proofs.Eng
namespace Go.Proofs.Eng
open Go
def onesB (l : List Int) : Bool := l.all fun c => decide (c = 1)
structure RightP (t : Tr) : Prop where
 ne : t.nodes ≠ []
 l1 : t.nodes.length <= 65536
 l2 : t.types.length <= 65536
 n : ∀ (i : Nat) (n : Nd),t.nodes[i]? = some n -> okN t.types.length i n = true
 y : ∀ (i : Nat) (n : Ty),t.types[i]? = some n -> okTyp i n = true
 a : ∀ (i : Nat) (n : Al),t.als[i]? = some n -> okA t.types.length n = true
 u1 : onesB (usesS t.nodes.length ([(t.nodes.length : Int) - 1] :: t.nodes.map (·.kids))) = true
 u2 : onesB (usesS t.types.length (t.nodes.map (·.types) ++ t.types.map (·.kids) ++ t.als.map (fun n => [n.type]))) = true
section
variable {Γ : Sums} {A : Tab} {N : Nat -> Nat}
theorem ones_loop4 {G : Hp} {u : AV} {l : List Int} (hu : VI G u l) (hl : l.length < 2 ^ 40) {ρ : Rho} (r132 : ρ 132 = u) (r133 : ρ 133 = avInt .i64 l.length) (r134 : ρ 134 = avInt .i64 (0 : Nat)) {p4 : AV} (r4 : ρ 4 = p4) {p1 : AV} (r1 : ρ 1 = p1) {Q : Post}
  (hF : onesB l = false -> ∀ ρ',ρ' 2 = avBool false -> Q .ret ρ' G) (hD : onesB l = true -> ∀ ρ',ρ' 1 = p1 -> ρ' 4 = p4 -> Q (.exit 6) ρ' G) : wp (lim Γ A) none (.loop (L_ref04_Right_4 N)) ρ G Q := by
 refine wp_round (fun q ρ G' => G' = G /\ ∃ i : Nat,ρ 1 = p1 /\ ρ 4 = p4 /\ ρ 132 = u /\ ρ 133 = avInt .i64 l.length /\ ρ 134 = avInt .i64 i /\ i <= l.length /\ (l.take i).all (fun c => decide (c = 1)) = true /\ q = l.length - i) (n := l.length) ⟨rfl,0,r1,r4,r132,r133,r134,by omega,by simp,rfl⟩ ?_
 rintro q ρ G' ⟨rfl,i,r1,r4,r132,r133,r134,hi,ha,rfl⟩
 by_cases hlt : i < l.length
 ·have hlt' : (i : Int) < l.length := by omega
  obtain ⟨q,q1,q2⟩ := hu.at' (k := .i64) (i := (i : Int)) (e := avInt .i64 l[i]) (by omega) (by simp [List.getElem?_eq_getElem hlt]) rfl rfl rfl
  have hw : IntKind.wrap .i64 ((i : Int) + 1) = ((i + 1 : Nat) : Int) := by rw [wrap64 (by omega) (by omega)]; omega
  have ht := all_take hlt ha
  have hf : decide (l[i] = 1) = false -> onesB l = false := fun hh => all_false hlt hh
  generalize l[i] = e at *
  by_cases c1 : e = 1
  ·simp [L_ref04_Right_4,r1,r4,r132,r133,r134,hlt',q1,q2,c1,hw,-Int.natCast_add]
   exact ⟨l.length - (i + 1),by omega,i + 1,rfl,by omega,by simpa using List.all_eq_true.1 (ht.trans (by simp [c1])),rfl⟩
  ·have hb := hF (hf (by simp [c1]))
   simp [L_ref04_Right_4,r1,r4,r132,r133,r134,hlt',q1,q2,c1,-Int.natCast_add]
   exact hb _ (by simp)
 ·have hlt' : ¬ (i : Int) < l.length := by omega
  have hie : i = l.length := by omega
  subst hie
  rw [List.take_length] at ha
  have hd := hD ha
  simp [L_ref04_Right_4,r1,r4,r132,r133,r134,-Int.natCast_add]
  exact hd _ (by simp [r1]) (by simp [r4])
theorem ones_loop5 {G : Hp} {u : AV} {l : List Int} (hu : VI G u l) (hl : l.length < 2 ^ 40) {ρ : Rho} (r132 : ρ 145 = u) (r133 : ρ 146 = avInt .i64 l.length) (r134 : ρ 147 = avInt .i64 (0 : Nat)) {Q : Post}
  (hF : onesB l = false -> ∀ ρ',ρ' 2 = avBool false -> Q .ret ρ' G) (hD : onesB l = true -> ∀ ρ',Q (.exit 8) ρ' G) : wp (lim Γ A) none (.loop (L_ref04_Right_5 N)) ρ G Q := by
 refine wp_round (fun q ρ G' => G' = G /\ ∃ i : Nat,ρ 145 = u /\ ρ 146 = avInt .i64 l.length /\ ρ 147 = avInt .i64 i /\ i <= l.length /\ (l.take i).all (fun c => decide (c = 1)) = true /\ q = l.length - i) (n := l.length) ⟨rfl,0,r132,r133,r134,by omega,by simp,rfl⟩ ?_
 rintro q ρ G' ⟨rfl,i,r132,r133,r134,hi,ha,rfl⟩
 by_cases hlt : i < l.length
 ·have hlt' : (i : Int) < l.length := by omega
  obtain ⟨q,q1,q2⟩ := hu.at' (k := .i64) (i := (i : Int)) (e := avInt .i64 l[i]) (by omega) (by simp [List.getElem?_eq_getElem hlt]) rfl rfl rfl
  have hw : IntKind.wrap .i64 ((i : Int) + 1) = ((i + 1 : Nat) : Int) := by rw [wrap64 (by omega) (by omega)]; omega
  have ht := all_take hlt ha
  have hf : decide (l[i] = 1) = false -> onesB l = false := fun hh => all_false hlt hh
  generalize l[i] = e at *
  by_cases c1 : e = 1
  ·simp [L_ref04_Right_5,r132,r133,r134,hlt',q1,q2,c1,hw,-Int.natCast_add]
   exact ⟨l.length - (i + 1),by omega,i + 1,rfl,by omega,by simpa using List.all_eq_true.1 (ht.trans (by simp [c1])),rfl⟩
  ·have hb := hF (hf (by simp [c1]))
   simp [L_ref04_Right_5,r132,r133,r134,hlt',q1,q2,c1,-Int.natCast_add]
   exact hb _ (by simp)
 ·have hlt' : ¬ (i : Int) < l.length := by omega
  have hie : i = l.length := by omega
  subst hie
  rw [List.take_length] at ha
  have hd := hD ha
  simp [L_ref04_Right_5,r132,r133,r134,-Int.natCast_add]
  exact hd _
end
end Go.Proofs.Eng
namespace Go.Proofs.Eng
open Go
theorem RowsI.keep {G G' : Hp} {x : AV} {rs : List (List Int)} (h : RowsI G x rs) (k : Keep G G') : RowsI G' x rs := by
 obtain ⟨xs,h1,h2,h3⟩ := h
 exact ⟨xs,k.vw h1,h2,fun i y r a b => k.vw (h3 i y r a b)⟩
section
variable {Γ : Sums} {A : Tab} {N : Nat -> Nat}
theorem ref04_Right_call (h : RefK Γ A N) {H : Hp} {x : AV} {t : Tr} (hx : TrR H x t) (ok : t.ok) (wf : ∀ n ∈ t.nodes,n.wf) (wt : ∀ n ∈ t.types,n.name.length <= 1048576) (wa : ∀ n ∈ t.als,n.name.length <= 1048576) (hb : t.nodes.length < 2 ^ 20 /\ t.types.length < 2 ^ 20 /\ t.als.length < 2 ^ 20) :
  ∃ b : Bool,(lim Γ A).call (f_ref04_Right N) [x] H = some (avBool b,none) /\ (b = true ↔ RightP t) := by
 obtain ⟨R,hR⟩ : ∃ R : AV × Option Hp -> Prop,R = fun r => ∃ b : Bool,r = (avBool b,none) /\ (b = true ↔ RightP t) := ⟨_,rfl⟩
 suffices ∃ r,(lim Γ A).call (f_ref04_Right N) [x] H = some r /\ R r by
  obtain ⟨r,e,hr⟩ := this
  rw [hR] at hr
  obtain ⟨b,rfl,h1⟩ := hr
  exact ⟨b,e,h1⟩
 have yes : RightP t -> R (avBool true,none) := fun hp => by rw [hR]; exact ⟨true,rfl,by simp [hp]⟩
 have no : ¬ RightP t -> R (avBool false,none) := fun hp => by rw [hR]; exact ⟨false,rfl,by simp [hp]⟩
 obtain ⟨a,b,c,rfl,ra,rb,rc⟩ := id hx
 have la := ra.len
 have lb := rb.len
 have lc := rc.len
 have pa := ra.one
 have pb := rb.one
 have pc := rc.one
 have hset0 : ∀ (b : Bool) (o : AObj),settle H (avBool b) (halloc { l := H.l,d := none } o) = (avBool b,none) := fun b o => by simp [settle,keeps]
 apply h.right.callP (by rfl)
 by_cases c1 : t.nodes = []
 ·have := no (fun hp => hp.ne c1)
  simp [C_ref04_Right,pa,pb,pc,la,lb,lc,loadC,c1,hset0,this,-halloc_d]
 have c1' : ¬ t.nodes.length = 0 := fun e => c1 (List.eq_nil_of_length_eq_zero e)
 rcases Nat.lt_or_ge 65536 t.nodes.length with c2 | c2
 ·have c2' : (65536 : Int) < t.nodes.length := by omega
  have := no (fun hp => by have := hp.l1; omega)
  simp [C_ref04_Right,pa,pb,pc,la,lb,lc,loadC,c1,c1',c2',hset0,this,-halloc_d]
 have c2' : ¬ (65536 : Int) < t.nodes.length := by omega
 rcases Nat.lt_or_ge 65536 t.types.length with c3 | c3
 ·have c3' : (65536 : Int) < t.types.length := by omega
  have := no (fun hp => by have := hp.l2; omega)
  simp [C_ref04_Right,pa,pb,pc,la,lb,lc,loadC,c1,c1',c2',c3',hset0,this,-halloc_d]
 have c3' : ¬ (65536 : Int) < t.types.length := by omega
 have hw : IntKind.wrap .i64 ((t.nodes.length : Int) - 1) = (t.nodes.length : Int) - 1 := by rw [wrap64 (by omega) (by omega)]
 have z0 : (0 : Int) = ((0 : Nat) : Int) := rfl
 simp [C_ref04_Right,pa,pb,pc,la,lb,lc,loadC,c1,c1',c2',c3',hw,fillA,repl,chunk,setFrom,-halloc_d,-hset_d]
 obtain ⟨G0,hG0⟩ : ∃ G0,G0 = halloc (halloc (halloc (halloc { l := H.l,d := none } (.cells [a,b,c] (t_api_Tree N))) (.arr 1 [avInt .i64 ((t.nodes.length : Int) - 1)] (t_int N))) (.arr 1 [.ra 1 (H.l.length + 1) 0 1] (t_sl_int N))) (.arr 1 [] (t_sl_int N)) := ⟨_,rfl⟩
 have hS0 : RSt N H a b c (.ra 1 (H.l.length + 1 + 1) 0 1) (.ra 1 (H.l.length + 1 + 1 + 1) 0 0) G0 [[(t.nodes.length : Int) - 1]] [] [] := by
  have hL := ((((Loc.start H).alloc (.cells [a,b,c] (t_api_Tree N))).alloc (.arr 1 [avInt .i64 ((t.nodes.length : Int) - 1)] (t_int N))).alloc (.arr 1 [.ra 1 (H.l.length + 1) 0 1] (t_sl_int N))).alloc (.arr 1 [] (t_sl_int N))
  rw [<- hG0] at hL
  simp only [halloc_len] at hL
  refine ⟨[.ra 1 (H.l.length + 1) 0 1],[(H.l.length + 1 + 1,.arr 1 [.ra 1 (H.l.length + 1) 0 1] (t_sl_int N))],[],[(H.l.length + 1 + 1 + 1,.arr 1 [] (t_sl_int N))],[(H.l.length + 1,.arr 1 [avInt .i64 ((t.nodes.length : Int) - 1)] (t_int N)),(H.l.length,.cells [a,b,c] (t_api_Tree N))],by simp,.inr ⟨_,rfl,rfl⟩,.inr ⟨_,rfl,rfl⟩,hL.perm (List.Perm.swap _ _ _),by simp,⟨rfl,fun i y r h1 h2 => ?_⟩,⟨rfl,fun i y r h1 h2 => by simp at h1⟩⟩
  cases i with
  | zero =>
   simp at h1 h2
   subst h1; subst h2
   exact .inr ⟨_,_,t_int N,rfl,rfl,by simp⟩
  | succ i => simp at h1
 have hret : ∀ {ρ' : Rho} {G' : Hp} {b' : Bool},Loc H G' [] -> ρ' 2 = avBool b' -> R (avBool b',none) -> R (settle H (ρ' 2) G') := fun hl r2 hr => by
  rw [r2,settle_keeps hl.keeps rfl]; exact hr
 refine right_loop1 h (a := a) (b := b) (c := c) (l := t.nodes) (T := t.types.length) ra ok.1 wf lb hb.1 (rs3 := [[(t.nodes.length : Int) - 1]]) (by simp) (by simp) (by simp) (by simp) (by simp) (by rw [<- hG0]; simpa using hS0) ?_ ?_
 ·rintro ⟨i,n,h1,h2⟩ ρ' G' hL r2
  have := no (fun hp => by have := hp.n i n h1; rw [h2] at this; cases this)
  simp
  exact hret hL r2 this
 intro hn1 ρ1 G1 s1 hS1
 have hb1 := hS1.box
 simp [K_ref04_Right_1,s1,hb1,lb,loadC,-halloc_d,-hset_d]
 refine right_loop2 h (a := a) (b := b) (c := c) (l := t.types) rb ok.2.1 wt hb.2.1 (rs3 := [[(t.nodes.length : Int) - 1]] ++ t.nodes.map (·.kids)) (rs4 := t.nodes.map (·.types)) (by simp; omega) (by simp [s1]) (by simp) (by simp) (by simp) (by simpa using hS1) ?_ ?_
 ·rintro ⟨i,n,h1,h2⟩ ρ' G' hL r2
  have := no (fun hp => by have := hp.y i n h1; rw [h2] at this; cases this)
  simp
  exact hret hL r2 this
 intro hy1 ρ2 G2 s2 hS2
 have hb2 := hS2.box
 simp [K_ref04_Right_2,s2,hb2,lc,loadC,-halloc_d,-hset_d]
 refine right_loop3 h (a := a) (b := b) (c := c) (l := t.als) (T := t.types.length) rc wa lb hb.2.2 (rs3 := [[(t.nodes.length : Int) - 1]] ++ t.nodes.map (·.kids)) (rs4 := t.nodes.map (·.types) ++ t.types.map (·.kids)) (by simp; omega) (by simp [s2]) (by simp) (by simp) (by simp) (by simpa using hS2) ?_ ?_
 ·rintro ⟨i,n,h1,h2⟩ ρ' G' hL r2
  have := no (fun hp => by have := hp.a i n h1; rw [h2] at this; cases this)
  simp
  exact hret hL r2 this
 intro ha1 ρ3 G3 s3 hS3
 have hb3 := hS3.box
 have lk : ∀ r ∈ [[(t.nodes.length : Int) - 1]] ++ t.nodes.map (·.kids),r.length < 2 ^ 40 := by
  intro r hr
  rcases List.mem_append.1 hr with hr | hr
  ·simp at hr; subst hr; simp
  ·obtain ⟨n,hn,rfl⟩ := List.mem_map.1 hr
   have := (ok.1 n hn).2.2.2.1; omega
 have lk4 : ∀ r ∈ t.nodes.map (·.types) ++ t.types.map (·.kids) ++ t.als.map (fun n => [n.type]),r.length < 2 ^ 40 := by
  intro r hr
  rcases List.mem_append.1 hr with hr | hr
  ·rcases List.mem_append.1 hr with hr | hr
   ·obtain ⟨n,hn,rfl⟩ := List.mem_map.1 hr
    have := (ok.1 n hn).2.2.2.2; omega
   ·obtain ⟨n,hn,rfl⟩ := List.mem_map.1 hr
    have := (ok.2.1 n hn).2.2.2; omega
  ·obtain ⟨n,hn,rfl⟩ := List.mem_map.1 hr
   simp
 have hl3 : (([[(t.nodes.length : Int) - 1]] ++ t.nodes.map (·.kids)) : List (List Int)).length < 2 ^ 40 := by simp; omega
 have hl4 : ((t.nodes.map (·.types) ++ t.types.map (·.kids) ++ t.als.map (fun n => [n.type])) : List (List Int)).length < 2 ^ 40 := by simp; omega
 obtain ⟨g4,f4,m4,u4⟩ := ref04_uses_call h (n := t.nodes.length) hS3.rows3 (by omega) hl3 lk
 have hS4 : Loc H g4 [] := hS3.loc.mut m4 (by simp) (by simp) (by simp)
 have hb4 : hget g4 H.l.length = some (.cells [a,b,c] (t_api_Tree N)) := by rw [m4.kp _ (hget_lt hb3)]; exact hb3
 have hrow4 := hS3.rows4.keep m4.kp
 have ul : (usesS t.nodes.length ([[(t.nodes.length : Int) - 1]] ++ t.nodes.map (·.kids))).length = t.nodes.length := by unfold usesS; rw [usesF_len]; simp
 have v4 := ra_vi u4
 rw [ul] at v4
 simp [K_ref04_Right_3,s3,hb3,la,loadC,f4,-halloc_d,-hset_d]
 refine ones_loop4 (p1 := .ptr H.l.length 0) (p4 := ρ3 4) v4 (by rw [ul]; omega) (by simp) (by rw [ul]; simp) (by simp) (by simp) (by simp [s3]) ?_ ?_
 ·intro ho ρ' r2
  have := no (fun hp => by
   have h3 : onesB (usesS t.nodes.length ([[(t.nodes.length : Int) - 1]] ++ t.nodes.map (·.kids))) = true := hp.u1
   rw [ho] at h3; cases h3)
  simp
  exact hret hS4 r2 this
 intro ho1 ρ4 s4 s44
 obtain ⟨g5,f5,m5,u5⟩ := ref04_uses_call h (n := t.types.length) hrow4 (by omega) hl4 lk4
 have hS5 : Loc H g5 [] := hS4.mut m5 (by simp) (by simp) (by simp)
 have ul5 : (usesS t.types.length (t.nodes.map (·.types) ++ t.types.map (·.kids) ++ t.als.map (fun n => [n.type]))).length = t.types.length := by unfold usesS; rw [usesF_len]; simp
 have v5 := ra_vi u5
 rw [ul5] at v5
 simp [K_ref04_Right_4,s4,s44,hb4,lb,loadC,f5,-halloc_d,-hset_d]
 refine ones_loop5 v5 (by rw [ul5]; omega) (by simp) (by rw [ul5]; simp) (by simp) ?_ ?_
 ·intro ho ρ' r2
  have := no (fun hp => by
   have h3 := hp.u2
   rw [ho] at h3; cases h3)
  simp
  exact hret hS5 r2 this
 intro ho2 ρ5
 have := yes ⟨c1,c2,c3,hn1,hy1,ha1,ho1,ho2⟩
 simp [K_ref04_Right_5]
 rw [settle_keeps hS5.keeps rfl]
 exact this
end
end Go.Proofs.Eng
namespace Go.Proofs.Eng
open Go
theorem useK_comm (ct : List Int) (a b : Int) : useK (useK ct a) b = useK (useK ct b) a := by
 by_cases ha : 0 <= a /\ a < ct.length
 ·by_cases hb : 0 <= b /\ b < ct.length
  ·have e1 : useK ct a = ct.modify a.toNat bump := if_pos ha
   have e2 : useK ct b = ct.modify b.toNat bump := if_pos hb
   rw [e1,e2]
   have e3 : useK (ct.modify a.toNat bump) b = (ct.modify a.toNat bump).modify b.toNat bump := if_pos (by simpa using hb)
   have e4 : useK (ct.modify b.toNat bump) a = (ct.modify b.toNat bump).modify a.toNat bump := if_pos (by simpa using ha)
   rw [e3,e4]
   apply List.ext_getElem?
   intro y
   simp only [List.getElem?_modify]
   by_cases h1 : b.toNat = y <;> by_cases h2 : a.toNat = y <;> simp [h1,h2]
  ·have e2 : useK ct b = ct := if_neg hb
   have e1 : useK (useK ct a) b = useK ct a := if_neg (by rw [useK_len]; exact hb)
   rw [e1,e2]
 ·have e1 : useK ct a = ct := if_neg ha
  have e2 : useK (useK ct b) a = useK ct b := if_neg (by rw [useK_len]; exact ha)
  rw [e1,e2]
theorem useR_comm (k : Int) : ∀ (ks ct : List Int),useR (useK ct k) ks = useK (useR ct ks) k
 | [],ct => rfl
 | a :: r,ct => by
  show useR (useK (useK ct k) a) r = useK (useR (useK ct a) r) k
  rw [useK_comm,useR_comm k r]
theorem usesF_comm (k : Int) : ∀ (rs : List (List Int)) (ct : List Int),rs.foldl useR (useK ct k) = useK (rs.foldl useR ct) k
 | [],ct => rfl
 | a :: r,ct => by rw [List.foldl_cons,List.foldl_cons,useR_comm,usesF_comm k r]
theorem note_use {b : Int} : ∀ (ks cnt : List Int),b <= cnt.length -> (noteS cnt ks b).1 = belowB ks b /\ (belowB ks b = true -> (noteS cnt ks b).2 = useR cnt ks)
 | [],cnt,_ => ⟨rfl,fun _ => rfl⟩
 | k :: r,cnt,hb => by
  unfold noteS
  by_cases hk : k < 0 \/ b <= k
  ·rw [if_pos hk]
   have hf : belowB (k :: r) b = false := by
    unfold belowB
    rw [List.all_cons]
    have : (decide (0 <= k) && decide (k < b)) = false := by simp; omega
    rw [this]; rfl
   exact ⟨hf.symm,fun h => by rw [hf] at h; cases h⟩
  ·rw [if_neg hk]
   have ih := note_use r (cnt.modify k.toNat bump) (by simpa using hb)
   have ht : belowB (k :: r) b = belowB r b := by
    unfold belowB
    rw [List.all_cons]
    have : (decide (0 <= k) && decide (k < b)) = true := by simp; omega
    rw [this]; rfl
   have hu : useK cnt k = cnt.modify k.toNat bump := if_pos (by omega)
   rw [ht]
   refine ⟨ih.1,fun h => ?_⟩
   rw [ih.2 h,<- hu]
   rfl
theorem nodes_use {T : Nat} : ∀ (l : List Nd) (i : Nat) (ct cy : List Int),i + l.length <= ct.length -> T <= cy.length ->
  (∀ p,nodesS T l i ct cy = some p -> (∀ (j : Nat) (n : Nd),l[j]? = some n -> okN T (i + j) n = true) /\ p = ((l.map (·.kids)).foldl useR ct,(l.map (·.types)).foldl useR cy)) /\
  ((∀ (j : Nat) (n : Nd),l[j]? = some n -> okN T (i + j) n = true) -> nodesS T l i ct cy = some ((l.map (·.kids)).foldl useR ct,(l.map (·.types)).foldl useR cy))
 | [],i,ct,cy,_,_ => ⟨fun p h => by simp [nodesS] at h; subst h; exact ⟨fun j n h => by simp at h,rfl⟩,fun _ => rfl⟩
 | n :: r,i,ct,cy,h1,h2 => by
  have hn1 := note_use (b := (i : Int)) n.kids ct (by simp at h1; omega)
  have hn2 := note_use (b := (T : Int)) n.types cy (by omega)
  have ih := nodes_use (T := T) r (i + 1) (useR ct n.kids) (useR cy n.types) (by rw [useR_len]; simp at h1; omega) (by rw [useR_len]; exact h2)
  have hstep : okN T i n = true -> nodesS T (n :: r) i ct cy = nodesS T r (i + 1) (useR ct n.kids) (useR cy n.types) := by
   intro hok
   unfold okN at hok
   simp only [Bool.and_eq_true] at hok
   obtain ⟨a1,a2,a3⟩ := hok
   have b1 : noteS ct n.kids i = (true,useR ct n.kids) := Prod.ext (by rw [hn1.1,a2]) (hn1.2 a2)
   have b2 : noteS cy n.types T = (true,useR cy n.types) := Prod.ext (by rw [hn2.1,a3]) (hn2.2 a3)
   simp only [nodesS,a1,if_true,b1,b2]
  have hbad : okN T i n = false -> nodesS T (n :: r) i ct cy = none := by
   intro hok
   unfold nodesS
   unfold okN at hok
   split
   ·rename_i a1
    rw [a1,Bool.true_and,Bool.and_eq_false_iff] at hok
    split
    ·rename_i ct' e1
     have a2 : belowB n.kids i = true := by rw [<- hn1.1,e1]
     rcases hok with hok | hok
     ·rw [a2] at hok; cases hok
     ·split
      ·rename_i cy' e2
       have a3 : belowB n.types T = true := by rw [<- hn2.1,e2]
       rw [a3] at hok; cases hok
      ·rfl
    ·rfl
   ·rfl
  refine ⟨fun p h => ?_,fun hall => ?_⟩
  ·cases hok : okN T i n with
   | false => rw [hbad hok] at h; cases h
   | true =>
    rw [hstep hok] at h
    obtain ⟨k1,k2⟩ := ih.1 p h
    refine ⟨fun j m hj => ?_,k2⟩
    cases j with
    | zero => simp at hj; subst hj; exact hok
    | succ j => have := k1 j m (by simpa using hj); rwa [show i + 1 + j = i + (j + 1) from by omega] at this
  ·rw [hstep (by simpa using hall 0 n rfl)]
   exact ih.2 fun j m hj => by have := hall (j + 1) m (by simpa using hj); rwa [show i + (j + 1) = i + 1 + j from by omega] at this
theorem types_use : ∀ (l : List Ty) (i : Nat) (cy : List Int),i + l.length <= cy.length ->
  (∀ p,typesS l i cy = some p -> (∀ (j : Nat) (n : Ty),l[j]? = some n -> okTyp (i + j) n = true) /\ p = (l.map (·.kids)).foldl useR cy) /\
  ((∀ (j : Nat) (n : Ty),l[j]? = some n -> okTyp (i + j) n = true) -> typesS l i cy = some ((l.map (·.kids)).foldl useR cy))
 | [],i,cy,_ => ⟨fun p h => by simp [typesS] at h; subst h; exact ⟨fun j n h => by simp at h,rfl⟩,fun _ => rfl⟩
 | n :: r,i,cy,h1 => by
  have hn1 := note_use (b := (i : Int)) n.kids cy (by simp at h1; omega)
  have ih := types_use r (i + 1) (useR cy n.kids) (by rw [useR_len]; simp at h1; omega)
  have hstep : okTyp i n = true -> typesS (n :: r) i cy = typesS r (i + 1) (useR cy n.kids) := by
   intro hok
   unfold okTyp at hok
   simp only [Bool.and_eq_true] at hok
   obtain ⟨a1,a2⟩ := hok
   have b1 : noteS cy n.kids i = (true,useR cy n.kids) := Prod.ext (by rw [hn1.1,a2]) (hn1.2 a2)
   simp only [typesS,a1,if_true,b1]
  have hbad : okTyp i n = false -> typesS (n :: r) i cy = none := by
   intro hok
   unfold typesS
   unfold okTyp at hok
   split
   ·rename_i a1
    rw [a1,Bool.true_and] at hok
    split
    ·rename_i ct' e1
     have a2 : belowB n.kids i = true := by rw [<- hn1.1,e1]
     rw [a2] at hok; cases hok
    ·rfl
   ·rfl
  refine ⟨fun p h => ?_,fun hall => ?_⟩
  ·cases hok : okTyp i n with
   | false => rw [hbad hok] at h; cases h
   | true =>
    rw [hstep hok] at h
    obtain ⟨k1,k2⟩ := ih.1 p h
    refine ⟨fun j m hj => ?_,k2⟩
    cases j with
    | zero => simp at hj; subst hj; exact hok
    | succ j => have := k1 j m (by simpa using hj); rwa [show i + 1 + j = i + (j + 1) from by omega] at this
  ·rw [hstep (by simpa using hall 0 n rfl)]
   exact ih.2 fun j m hj => by have := hall (j + 1) m (by simpa using hj); rwa [show i + (j + 1) = i + 1 + j from by omega] at this
theorem als_use {T : Nat} : ∀ (l : List Al) (cy : List Int),T <= cy.length ->
  (∀ p,alsS T l cy = some p -> (∀ (j : Nat) (n : Al),l[j]? = some n -> okA T n = true) /\ p = (l.map (fun n => [n.type])).foldl useR cy) /\
  ((∀ (j : Nat) (n : Al),l[j]? = some n -> okA T n = true) -> alsS T l cy = some ((l.map (fun n => [n.type])).foldl useR cy))
 | [],cy,_ => ⟨fun p h => by simp [alsS] at h; subst h; exact ⟨fun j n h => by simp at h,rfl⟩,fun _ => rfl⟩
 | n :: r,cy,h1 => by
  have hn1 := note_use (b := (T : Int)) [n.type] cy (by omega)
  have ih := als_use (T := T) r (useR cy [n.type]) (by rw [useR_len]; omega)
  have hstep : okA T n = true -> alsS T (n :: r) cy = alsS T r (useR cy [n.type]) := by
   intro hok
   unfold okA at hok
   simp only [Bool.and_eq_true] at hok
   obtain ⟨a1,a2⟩ := hok
   have b1 : noteS cy [n.type] T = (true,useR cy [n.type]) := Prod.ext (by rw [hn1.1,a2]) (hn1.2 a2)
   simp only [alsS,a1,if_true,b1]
  have hbad : okA T n = false -> alsS T (n :: r) cy = none := by
   intro hok
   unfold alsS
   unfold okA at hok
   split
   ·rename_i a1
    rw [a1,Bool.true_and] at hok
    split
    ·rename_i ct' e1
     have a2 : belowB [n.type] T = true := by rw [<- hn1.1,e1]
     rw [a2] at hok; cases hok
    ·rfl
   ·rfl
  refine ⟨fun p h => ?_,fun hall => ?_⟩
  ·cases hok : okA T n with
   | false => rw [hbad hok] at h; cases h
   | true =>
    rw [hstep hok] at h
    obtain ⟨k1,k2⟩ := ih.1 p h
    refine ⟨fun j m hj => ?_,k2⟩
    cases j with
    | zero => simp at hj; subst hj; exact hok
    | succ j => exact k1 j m (by simpa using hj)
  ·rw [hstep (hall 0 n rfl)]
   exact ih.2 fun j m hj => hall (j + 1) m (by simpa using hj)
theorem check_right (t : Tr) : checkB t = true ↔ RightP t := by
 have hlast : t.nodes ≠ [] -> ∀ rs : List (List Int),lastUp (rs.foldl useR (List.replicate t.nodes.length 0)) = usesS t.nodes.length ([(t.nodes.length : Int) - 1] :: rs) := by
  intro hne rs
  have hl : 0 < t.nodes.length := List.length_pos_iff.2 hne
  have e : (rs.foldl useR (List.replicate t.nodes.length (0 : Int))).length = t.nodes.length := by rw [usesF_len]; simp
  unfold lastUp usesS
  rw [List.foldl_cons]
  show _ = rs.foldl useR (useK (List.replicate t.nodes.length 0) ((t.nodes.length : Int) - 1))
  rw [usesF_comm]
  unfold useK
  rw [if_pos (by rw [e]; omega),e]
  congr 1
  omega
 have hcy : (t.als.map (fun n => [n.type])).foldl useR ((t.types.map (·.kids)).foldl useR ((t.nodes.map (·.types)).foldl useR (List.replicate t.types.length 0))) = usesS t.types.length (t.nodes.map (·.types) ++ t.types.map (·.kids) ++ t.als.map (fun n => [n.type])) := by
  unfold usesS
  rw [List.foldl_append,List.foldl_append]
 have l1 : ((t.nodes.map (·.types)).foldl useR (List.replicate t.types.length (0 : Int))).length = t.types.length := by rw [usesF_len]; simp
 have l2 : ((t.types.map (·.kids)).foldl useR ((t.nodes.map (·.types)).foldl useR (List.replicate t.types.length (0 : Int)))).length = t.types.length := by rw [usesF_len,l1]
 have n1 := nodes_use (T := t.types.length) t.nodes 0 (List.replicate t.nodes.length 0) (List.replicate t.types.length 0) (by simp) (by simp)
 have n2 := types_use t.types 0 ((t.nodes.map (·.types)).foldl useR (List.replicate t.types.length 0)) (by rw [l1]; omega)
 have n3 := als_use (T := t.types.length) t.als ((t.types.map (·.kids)).foldl useR ((t.nodes.map (·.types)).foldl useR (List.replicate t.types.length 0))) (by rw [l2]; exact Nat.le_refl _)
 simp only [Nat.zero_add] at n1 n2
 constructor
 ·intro hc
  unfold checkB at hc
  simp only [Bool.and_eq_true,Bool.not_eq_true',decide_eq_true_eq] at hc
  obtain ⟨⟨⟨h1,h2⟩,h3⟩,h4⟩ := hc
  have hne : t.nodes ≠ [] := by intro e; rw [e] at h1; simp at h1
  split at h4
  ·rename_i ct cy e1
   obtain ⟨k1,k2⟩ := n1.1 _ e1
   simp only [Prod.mk.injEq] at k2
   obtain ⟨rfl,rfl⟩ := k2
   unfold endS at h4
   split at h4
   ·rename_i cy' e2
    obtain ⟨k3,rfl⟩ := n2.1 _ e2
    split at h4
    ·rename_i cy'' e3
     obtain ⟨k4,rfl⟩ := n3.1 _ e3
     simp only [Bool.and_eq_true] at h4
     rw [hlast hne,hcy] at h4
     exact ⟨hne,h2,h3,k1,k3,k4,h4.1,h4.2⟩
    ·cases h4
   ·cases h4
  ·cases h4
 ·intro hp
  unfold checkB endS
  rw [n1.2 hp.n]
  simp only []
  rw [n2.2 hp.y]
  simp only []
  rw [n3.2 hp.a]
  simp only []
  rw [hlast hp.ne,hcy]
  have e1 := hp.u1
  have e2 := hp.u2
  unfold onesB at e1 e2
  have e3 : t.nodes.isEmpty = false := by cases hn : t.nodes with | nil => exact absurd hn hp.ne | cons => rfl
  simp only [e1,e2,e3,hp.l1,hp.l2,decide_true,Bool.not_false,Bool.and_self]
section
variable {Γ : Sums} {A : Tab} {N : Nat -> Nat}
theorem ref04_Right_check (h : RefK Γ A N) {H : Hp} {x : AV} {t : Tr} (hx : TrR H x t) (ok : t.ok) (wf : ∀ n ∈ t.nodes,n.wf) (wt : ∀ n ∈ t.types,n.name.length <= 1048576) (wa : ∀ n ∈ t.als,n.name.length <= 1048576) (hb : t.nodes.length < 2 ^ 20 /\ t.types.length < 2 ^ 20 /\ t.als.length < 2 ^ 20) :
  (lim Γ A).call (f_ref04_Right N) [x] H = some (avBool (checkB t),none) := by
 obtain ⟨b,e,hb'⟩ := ref04_Right_call h hx ok wf wt wa hb
 rw [e]
 have : b = checkB t := by
  rw [Bool.eq_iff_iff,hb',check_right]
 rw [this]
end
end Go.Proofs.Eng
namespace Go.Proofs.Eng
open Go
def KidsN (T : Nat) (l : List Nd) : Prop := ∀ (i : Nat) (n : Nd),l[i]? = some n -> (∀ k ∈ n.kids,0 <= k /\ k < i) /\ ∀ k ∈ n.types,0 <= k /\ k < T
theorem TrR.tys {H : Hp} {a b c : AV} {t : Tr} (h : TrR H (.agg [a,b,c]) t) {i : Nat} {nd : Nd} (hi : t.nodes[i]? = some nd) {k : IntKind} : ∃ p q v,aiaddr 8 a (.lit (.int k (i : Int))) = some p /\ afaddr 7 p = some q /\ aload H none q = some v /\ VI H v nd.types := by
 obtain ⟨a',b',c',e,⟨xs,x1,x2,x3⟩,_,_⟩ := h
 cases e
 have hlt : i < xs.length := by rw [x2]; exact (List.getElem?_eq_some_iff.1 hi).1
 obtain ⟨na,nb,nc,e,v1,v2,v3⟩ := x3 i xs[i] nd (List.getElem?_eq_getElem hlt) hi
 obtain ⟨p,q,h1,h2,h3⟩ := x1.atf (k := k) (i := i) (off := 7) (ys := [avInt .i64 nd.kind,avInt .i64 nd.pos,avStr nd.name,avInt .i64 nd.int,avInt .u64 nd.bits,na,nb,nc]) (v := nc) (by rw [List.getElem?_eq_getElem hlt,e]; rfl) rfl (by simp [v1.one,v2.one,v3.one]) rfl
 exact ⟨p,q,nc,h1,h2,h3,v3⟩
section
variable {Γ : Sums} {A : Tab} {N : Nat -> Nat}
end
end Go.Proofs.Eng
namespace Go.Proofs.Eng
open Go
theorem belowB_spec {ks : List Int} {b : Int} (h : belowB ks b = true) : ∀ k ∈ ks,0 <= k /\ k < b := by
 intro k hk
 have := List.all_eq_true.1 h k hk
 simpa using this
theorem RightP.kidsY {t : Tr} (h : RightP t) : KidsY t.types := fun i n hi => by
 have := h.y i n hi
 unfold okTyp at this
 simp only [Bool.and_eq_true] at this
 exact belowB_spec this.2
theorem RightP.kidsN {t : Tr} (h : RightP t) : KidsN t.types.length t.nodes := fun i n hi => by
 have := h.n i n hi
 unfold okN at this
 simp only [Bool.and_eq_true] at this
 exact ⟨belowB_spec this.2.1,belowB_spec this.2.2⟩
theorem RightP.kidsA {t : Tr} (h : RightP t) : ∀ n ∈ t.als,0 <= n.type /\ n.type < t.types.length := fun n hn => by
 obtain ⟨i,hi⟩ := List.getElem?_of_mem hn
 have := h.a i n hi
 unfold okA at this
 simp only [Bool.and_eq_true] at this
 exact belowB_spec this.2 n.type (by simp)
end Go.Proofs.Eng
namespace Go.Proofs.Eng
open Go
def allZ {α : Type} (p : α -> α -> Bool) (a b : List α) : Bool := (a.zip b).all fun q => p q.1 q.2
theorem allZ_take {α : Type} {p : α -> α -> Bool} {a b : List α} {i : Nat} (h1 : i < a.length) (h2 : i < b.length) : allZ p (a.take (i + 1)) (b.take (i + 1)) = (allZ p (a.take i) (b.take i) && p a[i] b[i]) := by
 unfold allZ
 rw [List.take_succ_eq_append_getElem h1,List.take_succ_eq_append_getElem h2,List.zip_append (by simp; omega),List.all_append]
 simp
theorem allZ_false {α : Type} {p : α -> α -> Bool} {a b : List α} {i : Nat} (h1 : i < a.length) (h2 : i < b.length) (h : p a[i] b[i] = false) : allZ p a b = false := by
 unfold allZ
 rw [Bool.eq_false_iff]
 intro hh
 have := List.all_eq_true.1 hh (a[i],b[i]) (List.mem_of_getElem (i := i) (h := by simp; omega) (by simp))
 simp only [h] at this
 cases this
def alP (a b : Tr) (x y : Al) : Bool := decide (x.name = y.name) && sameTy a.types b.types x.type y.type
def sameS (a b : Tr) : Bool := decide (a.als.length = b.als.length) && allZ (alP a b) a.als b.als && sameNd a b ((a.nodes.length : Int) - 1) ((b.nodes.length : Int) - 1)
def sameG (a b : Tr) : Bool := checkB a && (checkB b && sameS a b)
theorem pair_of {a b : Tr} (oa : a.ok) (ha : checkB a = true) (hb : checkB b = true) : Pair a b := by
 have ra := (check_right a).1 ha
 have rb := (check_right b).1 hb
 refine ⟨oa,ra.kidsY,rb.kidsY,ra.kidsN,rb.kidsN,fun m hm n hn hk => ?_⟩
 obtain ⟨i,hi⟩ := List.getElem?_of_mem hm
 obtain ⟨j,hj⟩ := List.getElem?_of_mem hn
 have h1 := ra.n i m hi
 have h2 := rb.n j n hj
 unfold okN at h1 h2
 simp only [Bool.and_eq_true] at h1 h2
 have t1 := h1.1
 have t2 := h2.1
 unfold termB at t1 t2
 rw [hk] at t1
 split at t1
 ·cases t1
 ·rename_i e
  rw [e] at t2
  simp only [Bool.and_eq_true,decide_eq_true_eq] at t1 t2
  have := t1.1.1.2
  have := t2.1.1.2
  omega
section
variable {Γ : Sums} {A : Tab} {N : Nat -> Nat}
theorem same_gen (hc : TreeC Γ A N) (h2 : TwoC Γ A N) (h : Has Γ A (f_tree_Same N) (C_tree_Same N)) {H : Hp} {x y : AV} {t u : Tr} (hx : TrR H x t) (hy : TrR H y u) (ok : t.ok) (ok2 : u.ok) (hb : t.nodes.length < 2 ^ 30 /\ t.types.length < 2 ^ 30 /\ t.als.length < 2 ^ 30) (hb2 : u.nodes.length < 2 ^ 30 /\ u.types.length < 2 ^ 30 /\ u.als.length < 2 ^ 30) : (lim Γ A).call (f_tree_Same N) [x,y] H = some (avBool (sameG t u),none) := by
 obtain ⟨a1,b1,c1,rfl,ra1,rb1,rc1⟩ := id hx
 obtain ⟨a2,b2,c2,rfl,ra2,rb2,rc2⟩ := id hy
 have o1 := ra1.one
 have o2 := rb1.one
 have o3 := rc1.one
 have o4 := ra2.one
 have o5 := rb2.one
 have o6 := rc2.one
 have la1 := ra1.len
 have la2 := ra2.len
 have lc1 := rc1.len
 have lc2 := rc2.len
 obtain ⟨H2,hH2⟩ : ∃ H2,H2 = halloc (halloc { l := H.l,d := none } (.cells [a1,b1,c1] (t_api_Tree N))) (.cells [a2,b2,c2] (t_api_Tree N)) := ⟨_,rfl⟩
 have hM2 : Mut { l := H.l,d := none } H2 [] := by rw [hH2]; exact ((Mut.refl _ _).alloc _).alloc _
 have k2 : Keep H H2 := fun id hid => hM2.get hid (by simp)
 have hl2 : H2.l.length = H.l.length + 2 := by rw [hH2]; simp
 have f1 : hget H2 H.l.length = some (.cells [a1,b1,c1] (t_api_Tree N)) := by rw [hH2]; simp
 have f2 : hget H2 (H.l.length + 1) = some (.cells [a2,b2,c2] (t_api_Tree N)) := by rw [hH2]; simp
 have e1 := check_call hc (k2.tr hx) ok hb
 have e2 := check_call hc (k2.tr hy) ok2 hb2
 have hH2' := hH2.symm
 obtain ⟨H3,hH3⟩ : ∃ H3,H3 = hset (halloc H2 (.cells [.lit (.slice none 0 0),.lit (.slice none 0 0),.lit (.slice none 0 0),.lit (.slice none 0 0),.lit (.slice none 0 0),.lit (.slice none 0 0)] (t_tree_two N))) H2.l.length (some (.cells [a1,b1,c1,a2,b2,c2] (t_tree_two N))) := ⟨_,rfl⟩
 have hM3 : Mut { l := H.l,d := none } H3 [] := by rw [hH3]; exact (hM2.alloc _).set (.inr (by simp only [hl2]; omega))
 have k3 : Keep H H3 := fun id hid => hM3.get hid (by simp)
 have g1 : hget H3 H.l.length = some (.cells [a1,b1,c1] (t_api_Tree N)) := by rw [hH3,hget_hset,if_neg (by omega),hget_halloc,if_neg (by omega)]; exact f1
 have g2 : hget H3 (H.l.length + 1) = some (.cells [a2,b2,c2] (t_api_Tree N)) := by rw [hH3,hget_hset,if_neg (by omega),hget_halloc,if_neg (by omega)]; exact f2
 have g3 : hget H3 H2.l.length = some (.cells [a1,b1,c1,a2,b2,c2] (t_tree_two N)) := by rw [hH3,hget_hset,if_pos rfl]; simp
 have hH3' := hH3.symm
 have hfin : ∀ b,settle H (avBool b) H3 = (avBool b,none) := fun b => settle_keeps (H := H) (H' := H3) (hM3.keeps rfl) (by rfl)
 have hfin2 : ∀ b,settle H (avBool b) H2 = (avBool b,none) := fun b => settle_keeps (H := H) (H' := H2) (hM2.keeps rfl) (by rfl)
 obtain ⟨xs,x1,x2,x3⟩ := id (k3.row (fun _ _ h => h) rc1)
 obtain ⟨ys,y1,y2,y3⟩ := id (k3.row (fun _ _ h => h) rc2)
 unfold sameG
 apply h.call (by rfl)
 rcases hck : checkB t with _ | _
 ·rw [hck] at e1
  simp [C_tree_Same,o1,o2,o3,o4,o5,o6,hH2',f1,f2,e1,errN,hfin2,loadC,-halloc_d,-hset_d]
 rcases hck2 : checkB u with _ | _
 ·rw [hck] at e1
  rw [hck2] at e2
  simp [C_tree_Same,o1,o2,o3,o4,o5,o6,hH2',f1,f2,e1,e2,errN,hfin2,loadC,-halloc_d,-hset_d]
 rw [hck] at e1
 rw [hck2] at e2
 by_cases hal : ¬ t.als.length = u.als.length
 ·have hal' : ¬ (t.als.length : Int) = u.als.length := by omega
  have hs : sameS t u = false := by unfold sameS; simp [hal]
  simp [C_tree_Same,o1,o2,o3,o4,o5,o6,hH2',f1,f2,e1,e2,errN,lc1,lc2,hal,hal',hs,hfin2,loadC,-halloc_d,-hset_d]
 replace hal := Classical.not_not.1 hal
 have hal' : (t.als.length : Int) = u.als.length := by omega
 have hp := pair_of ok hck hck2
 have rt := (check_right t).1 hck
 have ru := (check_right u).1 hck2
 have h0 : 0 < t.nodes.length := List.length_pos_iff.2 rt.ne
 have h0' : 0 < u.nodes.length := List.length_pos_iff.2 ru.ne
 have et := two_terms_gen h2 ⟨o3,o6⟩ hp t.nodes.length (t.nodes.length - 1) (u.nodes.length - 1) H3 (by omega) (by omega) (by omega) (k3.row (fun _ _ => k3.nd) ra1) (k3.row (fun _ _ => k3.nd) ra2) (k3.row (fun _ _ => k3.ty) rb1) (k3.row (fun _ _ => k3.ty) rb2)
 have n1 : ((t.nodes.length - 1 : Nat) : Int) = (t.nodes.length : Int) - 1 := by omega
 have n2 : ((u.nodes.length - 1 : Nat) : Int) = (u.nodes.length : Int) - 1 := by omega
 rw [n1,n2] at et
 have hwn : IntKind.wrap .i64 ((t.nodes.length : Int) - 1) = (t.nodes.length : Int) - 1 := by rw [wrap64 (by omega) (by omega)]
 have hwm : IntKind.wrap .i64 ((u.nodes.length : Int) - 1) = (u.nodes.length : Int) - 1 := by rw [wrap64 (by omega) (by omega)]
 have hS : sameS t u = (allZ (alP t u) t.als u.als && sameNd t u ((t.nodes.length : Int) - 1) ((u.nodes.length : Int) - 1)) := by unfold sameS; simp [hal]
 rw [hS]
 simp [C_tree_Same,o1,o2,o3,o4,o5,o6,hH2',f1,f2,e1,e2,errN,lc1,lc2,eq_true hal,eq_true hal',hH3',g1,g2,loadC,-halloc_d,-hset_d]
 refine wp_round (n := t.als.length) (fun m ρ H' => ∃ i : Nat,ρ 2 = .ptr H.l.length 0 /\ ρ 3 = .ptr (H.l.length + 1) 0 /\ ρ 5 = .ptr H2.l.length 0 /\ ρ 29 = avInt .i64 (t.als.length : Nat) /\ ρ 30 = avInt .i64 (i : Nat) /\ i <= t.als.length /\ H' = H3 /\ allZ (alP t u) (t.als.take i) (u.als.take i) = true /\ m = t.als.length - i) ⟨0,rfl,rfl,rfl,rfl,rfl,by omega,rfl,rfl,rfl⟩ ?_
 rintro m ρ H' ⟨i,r2,r3,r5,r29,r30,hi,rfl,hz,rfl⟩
 by_cases hlt : i < t.als.length
 ·have hlt' : (i : Int) < t.als.length := by omega
  have hlu : i < u.als.length := by omega
  have hat := allZ_take (p := alP t u) hlt hlu
  have haf := allZ_false (p := alP t u) hlt hlu
  have q1 : t.als[i]? = some t.als[i] := List.getElem?_eq_getElem hlt
  have q2 : u.als[i]? = some u.als[i] := List.getElem?_eq_getElem hlu
  obtain ⟨k0,k1⟩ := rt.kidsA t.als[i] (List.getElem_mem hlt)
  obtain ⟨l0,l1⟩ := ru.kidsA u.als[i] (List.getElem_mem hlu)
  generalize t.als[i] = al at *
  generalize u.als[i] = bl at *
  have p1 : xs[i]? = some (.agg [avStr al.name,avInt .i64 al.type,avInt .i64 al.pos]) := by
   rw [List.getElem?_eq_getElem (by omega)]; have := x3 i xs[i] al (List.getElem?_eq_getElem (by omega)) q1; unfold AlR alV at this; rw [this]
  have p2 : ys[i]? = some (.agg [avStr bl.name,avInt .i64 bl.type,avInt .i64 bl.pos]) := by
   rw [List.getElem?_eq_getElem (by omega)]; have := y3 i ys[i] bl (List.getElem?_eq_getElem (by omega)) q2; unfold AlR alV at this; rw [this]
  obtain ⟨u1,v1,s1,s2,s3⟩ := x1.atf (k := .i64) (off := 0) p1 rfl rfl rfl
  obtain ⟨u2,v2,s4,s5,s6⟩ := x1.atf (k := .i64) (off := 1) p1 rfl rfl rfl
  obtain ⟨u3,v3,s7,s8,s9⟩ := y1.atf (k := .i64) (off := 0) p2 rfl rfl rfl
  obtain ⟨u4,v4,s10,s11,s12⟩ := y1.atf (k := .i64) (off := 1) p2 rfl rfl rfl
  have hu : u1 = u2 := by rw [s1] at s4; exact Option.some.inj s4
  have hu' : u3 = u4 := by rw [s7] at s10; exact Option.some.inj s10
  subst hu
  subst hu'
  have ih := two_types_gen h2 ⟨o1,o3,o4,o6⟩ ok.2.1 hp.ya hp.yb (al.type.toNat + 1) al.type.toNat bl.type.toNat H' (by omega) (by omega) (by omega) (k3.row (fun _ _ => k3.ty) rb1) (k3.row (fun _ _ => k3.ty) rb2)
  rw [Int.toNat_of_nonneg k0,Int.toNat_of_nonneg l0] at ih
  have hw : IntKind.wrap .i64 ((i : Int) + 1) = ((i + 1 : Nat) : Int) := by rw [wrap64 (by omega) (by omega)]; omega
  by_cases hn : ¬ al.name = bl.name
  ·have hf := haf (by unfold alP; simp [hn])
   simp [L_tree_Same_1,r2,r3,r5,r29,r30,hlt',g1,g2,g3,s1,s2,s3,s5,s6,s7,s8,s9,s11,s12,o1,o2,o3,o4,o5,o6,loadC,hn,hf,hfin,hw,-Int.natCast_add]
  replace hn := Classical.not_not.1 hn
  rcases hs : sameTy t.types u.types al.type bl.type with _ | _
  ·have hf := haf (by unfold alP; simp [hs])
   rw [hs] at ih
   simp [L_tree_Same_1,r2,r3,r5,r29,r30,hlt',g1,g2,g3,s1,s2,s3,s5,s6,s7,s8,s9,s11,s12,o1,o2,o3,o4,o5,o6,loadC,hn,ih,hf,hfin,hw,-Int.natCast_add]
  ·have hf : alP t u al bl = true := by unfold alP; simp [hs,hn]
   rw [hs] at ih
   simp [L_tree_Same_1,r2,r3,r5,r29,r30,hlt',g1,g2,g3,s1,s2,s3,s5,s6,s7,s8,s9,s11,s12,o1,o2,o3,o4,o5,o6,loadC,hn,ih,hw,-Int.natCast_add]
   exact ⟨t.als.length - (i + 1),by omega,i + 1,rfl,by omega,by rw [hat,hz,hf]; rfl,rfl⟩
 ·have hlt' : ¬ (i : Int) < t.als.length := by omega
  rw [List.take_of_length_le (by omega),List.take_of_length_le (by omega)] at hz
  simp [L_tree_Same_1,K_tree_Same_1,r2,r3,r5,r29,r30,hlt',g1,g2,g3,la1,la2,o1,o2,o3,o4,o5,o6,loadC,hwn,hwm,et,hfin,hz]
end
end Go.Proofs.Eng
namespace Go.Proofs.Eng
open Go
section
variable {Γ : Sums} {A : Tab} {N : Nat -> Nat}
structure SmallT (t : Tr) : Prop where
 ok : t.ok
 wf : ∀ n ∈ t.nodes,n.wf
 wt : ∀ n ∈ t.types,n.name.length <= 1048576
 wa : ∀ n ∈ t.als,n.name.length <= 1048576
 hb : t.nodes.length < 2 ^ 20 /\ t.types.length < 2 ^ 20 /\ t.als.length < 2 ^ 20
set_option maxHeartbeats 1000000 in
theorem ref04_Same_call (hc : RefK Γ A N) (h2 : RefS Γ A N) (h : Has Γ A (f_ref04_Same N) (C_ref04_Same N)) {H : Hp} {x y : AV} {t u : Tr} (hx : TrR H x t) (hy : TrR H y u) (st : SmallT t) (su : SmallT u) : (lim Γ A).call (f_ref04_Same N) [x,y] H = some (avBool (sameG t u),none) := by
 have ok := st.ok
 have hb := st.hb
 have hb2 := su.hb
 obtain ⟨a1,b1,c1,rfl,ra1,rb1,rc1⟩ := id hx
 obtain ⟨a2,b2,c2,rfl,ra2,rb2,rc2⟩ := id hy
 have o1 := ra1.one
 have o2 := rb1.one
 have o3 := rc1.one
 have o4 := ra2.one
 have o5 := rb2.one
 have o6 := rc2.one
 have la1 := ra1.len
 have la2 := ra2.len
 have lc1 := rc1.len
 have lc2 := rc2.len
 obtain ⟨H2,hH2⟩ : ∃ H2,H2 = halloc (halloc { l := H.l,d := none } (.cells [a1,b1,c1] (t_api_Tree N))) (.cells [a2,b2,c2] (t_api_Tree N)) := ⟨_,rfl⟩
 have hM2 : Mut { l := H.l,d := none } H2 [] := by rw [hH2]; exact ((Mut.refl _ _).alloc _).alloc _
 have k2 : Keep H H2 := fun id hid => hM2.get hid (by simp)
 have hl2 : H2.l.length = H.l.length + 2 := by rw [hH2]; simp
 have f1 : hget H2 H.l.length = some (.cells [a1,b1,c1] (t_api_Tree N)) := by rw [hH2]; simp
 have f2 : hget H2 (H.l.length + 1) = some (.cells [a2,b2,c2] (t_api_Tree N)) := by rw [hH2]; simp
 have e1 := ref04_Right_check hc (k2.tr hx) st.ok st.wf st.wt st.wa st.hb
 have e2 := ref04_Right_check hc (k2.tr hy) su.ok su.wf su.wt su.wa su.hb
 have hH2' := hH2.symm
 have hfin : ∀ b,settle H (avBool b) H2 = (avBool b,none) := fun b => settle_keeps (H := H) (H' := H2) (hM2.keeps rfl) (by rfl)
 obtain ⟨xs,x1,x2,x3⟩ := id (k2.row (fun _ _ h => h) rc1)
 obtain ⟨ys,y1,y2,y3⟩ := id (k2.row (fun _ _ h => h) rc2)
 unfold sameG
 apply h.call (by rfl)
 rcases hck : checkB t with _ | _
 ·rw [hck] at e1
  simp [C_ref04_Same,o1,o2,o3,o4,o5,o6,hH2',f1,f2,e1,hfin,loadC,-halloc_d,-hset_d]
 rcases hck2 : checkB u with _ | _
 ·rw [hck] at e1
  rw [hck2] at e2
  simp [C_ref04_Same,o1,o2,o3,o4,o5,o6,hH2',f1,f2,e1,e2,hfin,loadC,-halloc_d,-hset_d]
 rw [hck] at e1
 rw [hck2] at e2
 by_cases hal : ¬ t.als.length = u.als.length
 ·have hal' : ¬ (t.als.length : Int) = u.als.length := by omega
  have hs : sameS t u = false := by unfold sameS; simp [hal]
  simp [C_ref04_Same,o1,o2,o3,o4,o5,o6,hH2',f1,f2,e1,e2,lc1,lc2,hal,hal',hs,hfin,loadC,-halloc_d,-hset_d]
 replace hal := Classical.not_not.1 hal
 have hal' : (t.als.length : Int) = u.als.length := by omega
 have hp := pair_of ok hck hck2
 have rt := (check_right t).1 hck
 have ru := (check_right u).1 hck2
 have h0 : 0 < t.nodes.length := List.length_pos_iff.2 rt.ne
 have h0' : 0 < u.nodes.length := List.length_pos_iff.2 ru.ne
 have et := ref04_SameTerm_call h2 ⟨o3,o6⟩ hp t.nodes.length (t.nodes.length - 1) (u.nodes.length - 1) H2 (by omega) (by omega) (by omega) (k2.row (fun _ _ => k2.nd) ra1) (k2.row (fun _ _ => k2.nd) ra2) (k2.row (fun _ _ => k2.ty) rb1) (k2.row (fun _ _ => k2.ty) rb2)
 have n1 : ((t.nodes.length - 1 : Nat) : Int) = (t.nodes.length : Int) - 1 := by omega
 have n2 : ((u.nodes.length - 1 : Nat) : Int) = (u.nodes.length : Int) - 1 := by omega
 rw [n1,n2] at et
 have hwn : IntKind.wrap .i64 ((t.nodes.length : Int) - 1) = (t.nodes.length : Int) - 1 := by rw [wrap64 (by omega) (by omega)]
 have hwm : IntKind.wrap .i64 ((u.nodes.length : Int) - 1) = (u.nodes.length : Int) - 1 := by rw [wrap64 (by omega) (by omega)]
 have hS : sameS t u = (allZ (alP t u) t.als u.als && sameNd t u ((t.nodes.length : Int) - 1) ((u.nodes.length : Int) - 1)) := by unfold sameS; simp [hal]
 rw [hS]
 simp [C_ref04_Same,o1,o2,o3,o4,o5,o6,hH2',f1,f2,e1,e2,lc1,lc2,eq_true hal,eq_true hal',loadC,-halloc_d,-hset_d]
 refine wp_round (n := t.als.length) (fun m ρ H' => ∃ i : Nat,ρ 2 = .ptr H.l.length 0 /\ ρ 3 = .ptr (H.l.length + 1) 0 /\ ρ 25 = avInt .i64 (t.als.length : Nat) /\ ρ 26 = avInt .i64 (i : Nat) /\ i <= t.als.length /\ H' = H2 /\ allZ (alP t u) (t.als.take i) (u.als.take i) = true /\ m = t.als.length - i) ⟨0,rfl,rfl,rfl,rfl,by omega,rfl,rfl,rfl⟩ ?_
 rintro m ρ H' ⟨i,r2,r3,r25,r26,hi,rfl,hz,rfl⟩
 by_cases hlt : i < t.als.length
 ·have hlt' : (i : Int) < t.als.length := by omega
  have hlu : i < u.als.length := by omega
  have hat := allZ_take (p := alP t u) hlt hlu
  have haf := allZ_false (p := alP t u) hlt hlu
  have q1 : t.als[i]? = some t.als[i] := List.getElem?_eq_getElem hlt
  have q2 : u.als[i]? = some u.als[i] := List.getElem?_eq_getElem hlu
  obtain ⟨k0,k1⟩ := rt.kidsA t.als[i] (List.getElem_mem hlt)
  obtain ⟨l0,l1⟩ := ru.kidsA u.als[i] (List.getElem_mem hlu)
  generalize t.als[i] = al at *
  generalize u.als[i] = bl at *
  have p1 : xs[i]? = some (.agg [avStr al.name,avInt .i64 al.type,avInt .i64 al.pos]) := by
   rw [List.getElem?_eq_getElem (by omega)]; have := x3 i xs[i] al (List.getElem?_eq_getElem (by omega)) q1; unfold AlR alV at this; rw [this]
  have p2 : ys[i]? = some (.agg [avStr bl.name,avInt .i64 bl.type,avInt .i64 bl.pos]) := by
   rw [List.getElem?_eq_getElem (by omega)]; have := y3 i ys[i] bl (List.getElem?_eq_getElem (by omega)) q2; unfold AlR alV at this; rw [this]
  obtain ⟨u1,v1,s1,s2,s3⟩ := x1.atf (k := .i64) (off := 0) p1 rfl rfl rfl
  obtain ⟨u2,v2,s4,s5,s6⟩ := x1.atf (k := .i64) (off := 1) p1 rfl rfl rfl
  obtain ⟨u3,v3,s7,s8,s9⟩ := y1.atf (k := .i64) (off := 0) p2 rfl rfl rfl
  obtain ⟨u4,v4,s10,s11,s12⟩ := y1.atf (k := .i64) (off := 1) p2 rfl rfl rfl
  have hu : u1 = u2 := by rw [s1] at s4; exact Option.some.inj s4
  have hu' : u3 = u4 := by rw [s7] at s10; exact Option.some.inj s10
  subst hu
  subst hu'
  have ih := ref04_SameType_call h2 ⟨o1,o3,o4,o6⟩ ok.2.1 hp.ya hp.yb (al.type.toNat + 1) al.type.toNat bl.type.toNat H' (by omega) (by omega) (by omega) (k2.row (fun _ _ => k2.ty) rb1) (k2.row (fun _ _ => k2.ty) rb2)
  rw [Int.toNat_of_nonneg k0,Int.toNat_of_nonneg l0] at ih
  have hw : IntKind.wrap .i64 ((i : Int) + 1) = ((i + 1 : Nat) : Int) := by rw [wrap64 (by omega) (by omega)]; omega
  by_cases hn : ¬ al.name = bl.name
  ·have hf := haf (by unfold alP; simp [hn])
   simp [L_ref04_Same_1,r2,r3,r25,r26,hlt',f1,f2,s1,s2,s3,s5,s6,s7,s8,s9,s11,s12,o1,o2,o3,o4,o5,o6,loadC,hn,hf,hfin,hw,-Int.natCast_add]
  replace hn := Classical.not_not.1 hn
  rcases hs : sameTy t.types u.types al.type bl.type with _ | _
  ·have hf := haf (by unfold alP; simp [hs])
   rw [hs] at ih
   simp [L_ref04_Same_1,r2,r3,r25,r26,hlt',f1,f2,s1,s2,s3,s5,s6,s7,s8,s9,s11,s12,o1,o2,o3,o4,o5,o6,loadC,hn,ih,hf,hfin,hw,-Int.natCast_add]
  ·have hf : alP t u al bl = true := by unfold alP; simp [hs,hn]
   rw [hs] at ih
   simp [L_ref04_Same_1,r2,r3,r25,r26,hlt',f1,f2,s1,s2,s3,s5,s6,s7,s8,s9,s11,s12,o1,o2,o3,o4,o5,o6,loadC,hn,ih,hw,-Int.natCast_add]
   exact ⟨t.als.length - (i + 1),by omega,i + 1,rfl,by omega,by rw [hat,hz,hf]; rfl,rfl⟩
 ·have hlt' : ¬ (i : Int) < t.als.length := by omega
  rw [List.take_of_length_le (by omega),List.take_of_length_le (by omega)] at hz
  simp [L_ref04_Same_1,K_ref04_Same_1,r2,r3,r25,r26,hlt',f1,f2,la1,la2,o1,o2,o3,o4,o5,o6,loadC,hwn,hwm,et,hfin,hz]
end
end Go.Proofs.Eng
