import Derived.Test.YtcmdnlpkplaapaaGreatM34
import Derived.Test.YtcmdnlpkplaapaaGreatM26
import Derived.Test.YtcmdnlpkplaapaaGreatM31
/- The reference of chapter 4: an alias's text, run by the engine; it is the program's. -/
set_option linter.unusedVariables false
set_option linter.unusedSimpArgs false
set_option maxRecDepth 100000
namespace Go.Proofs.Eng
open Go
def rAliasB (s : List UInt8) : Bool := (s.head?.map isHigh).getD false && s.all isInAlias
section
variable {Γ : Sums} {A : Tab} {N : Nat -> Nat}
theorem ref04_Alias_call (h : RefK Γ A N) (s : List UInt8) (hl : s.length < 2 ^ 40) (H : Hp) : (lim Γ A).call (f_ref04_Alias N) [avStr s] H = some (avBool (rAliasB s),none) := by
 apply h.alias.call (by rfl)
 simp [C_ref04_Alias,-Int.natCast_add]
 refine wp_round (fun k ρ H' => H' = { l := H.l,d := none } /\ ∃ i : Nat,ρ 0 = avStr s /\ ρ 3 = avInt .i64 i /\ i <= s.length /\ (s.take i).all isInAlias = true /\ (0 < i -> (s.head?.map isHigh).getD false = true) /\ k = s.length - i) (n := s.length) ⟨rfl,0,rfl,rfl,by omega,by simp,by omega,rfl⟩ ?_
 rintro k ρ H' ⟨rfl,i,r0,r3,hi,ha,hp,rfl⟩
 by_cases hlt : i < s.length
 ·have hlt' : (i : Int) < s.length := by omega
  have hx := asidx_nat (k := .i64) hlt
  have hw : IntKind.wrap .i64 ((i : Int) + 1) = ((i + 1 : Nat) : Int) := by rw [wrap64 (by omega) (by omega)]; omega
  have ht := all_take hlt ha
  have stN : isInAlias s[i] = false -> rAliasB s = false := fun hc => by
   unfold rAliasB
   rw [all_false hlt hc,Bool.and_false]
  have hhd : i = 0 -> (s.head?.map isHigh).getD false = isHigh s[i] := by
   rintro rfl
   simp [List.head?_eq_getElem?,List.getElem?_eq_getElem hlt]
  have st0 : i = 0 -> isHigh s[i] = false -> rAliasB s = false := fun h0 hc => by
   unfold rAliasB
   rw [hhd h0,hc,Bool.false_and]
  have hd0 : i = 0 -> isHigh s[i] = true -> (s.head?.map isHigh).getD false = true := fun h0 hc => by rw [hhd h0,hc]
  have hc256 := (s[i]).toNat_lt
  generalize s[i] = c at *
  have hcases : c.toNat < 48 \/ (48 <= c.toNat /\ c.toNat < 58) \/ (58 <= c.toNat /\ c.toNat < 65) \/ (65 <= c.toNat /\ c.toNat < 91) \/ (91 <= c.toNat /\ c.toNat < 97) \/ (97 <= c.toNat /\ c.toNat < 123) \/ 123 <= c.toNat := by omega
  rcases hcases with hc | hc | hc | hc | hc | hc | hc
  ·have hr : 0 <= c.toNat /\ c.toNat < 48 := by omega
   have n65 : ¬ 65 <= c.toNat := by omega
   have z65 : ¬ 65 <= (c.toNat : Int) := by omega
   have n90 : c.toNat <= 90 := by omega
   have z90 : (c.toNat : Int) <= 90 := by omega
   have n97 : c.toNat < 97 := by omega
   have z97 : (c.toNat : Int) < 97 := by omega
   have n122 : ¬ 122 < c.toNat := by omega
   have z122 : ¬ 122 < (c.toNat : Int) := by omega
   have n48 : c.toNat < 48 := by omega
   have z48 : (c.toNat : Int) < 48 := by omega
   have n57 : ¬ 57 < c.toNat := by omega
   have z57 : ¬ 57 < (c.toNat : Int) := by omega
   have hh : isHigh c = false := by simp [isHigh]; omega
   have hi2 : isInAlias c = false := by simp [isInAlias,isHigh,isDigit]; omega
   by_cases h0 : i = 0
   ·subst h0
    have hx0 : asidx (avStr s) (.lit (.int .i64 0)) = some (avByte c) := hx
    simp [L_ref04_Alias_1,r0,r3,avByte,hlt',hlt,n65,z65,n90,z90,n97,z97,n122,z122,n48,z48,n57,z57,hx0,avByte,st0 rfl hh,settle,keeps,-Int.natCast_add]
   ·have h0' : ¬ (i : Int) = 0 := by omega
    simp [L_ref04_Alias_1,r0,r3,avByte,hlt',hlt,n65,z65,n90,z90,n97,z97,n122,z122,n48,z48,n57,z57,hx,h0,h0',stN hi2,settle,keeps,-Int.natCast_add]
  ·have hr : 48 <= c.toNat /\ c.toNat < 58 := by omega
   have n65 : ¬ 65 <= c.toNat := by omega
   have z65 : ¬ 65 <= (c.toNat : Int) := by omega
   have n90 : c.toNat <= 90 := by omega
   have z90 : (c.toNat : Int) <= 90 := by omega
   have n97 : c.toNat < 97 := by omega
   have z97 : (c.toNat : Int) < 97 := by omega
   have n122 : ¬ 122 < c.toNat := by omega
   have z122 : ¬ 122 < (c.toNat : Int) := by omega
   have n48 : ¬ c.toNat < 48 := by omega
   have z48 : ¬ (c.toNat : Int) < 48 := by omega
   have n57 : ¬ 57 < c.toNat := by omega
   have z57 : ¬ 57 < (c.toNat : Int) := by omega
   have hh : isHigh c = false := by simp [isHigh]; omega
   have hi2 : isInAlias c = true := by simp [isInAlias,isHigh,isDigit]; omega
   by_cases h0 : i = 0
   ·subst h0
    have hx0 : asidx (avStr s) (.lit (.int .i64 0)) = some (avByte c) := hx
    simp [L_ref04_Alias_1,r0,r3,avByte,hlt',hlt,n65,z65,n90,z90,n97,z97,n122,z122,n48,z48,n57,z57,hx0,avByte,st0 rfl hh,settle,keeps,-Int.natCast_add]
   ·have h0' : ¬ (i : Int) = 0 := by omega
    simp [L_ref04_Alias_1,r0,r3,avByte,hlt',hlt,n65,z65,n90,z90,n97,z97,n122,z122,n48,z48,n57,z57,hx,h0,h0',hw,-Int.natCast_add]
    exact ⟨s.length - (i + 1),by omega,i + 1,rfl,by omega,by simpa using ht.trans hi2,fun _ => hp (by omega),rfl⟩
  ·have hr : 58 <= c.toNat /\ c.toNat < 65 := by omega
   have n65 : ¬ 65 <= c.toNat := by omega
   have z65 : ¬ 65 <= (c.toNat : Int) := by omega
   have n90 : c.toNat <= 90 := by omega
   have z90 : (c.toNat : Int) <= 90 := by omega
   have n97 : c.toNat < 97 := by omega
   have z97 : (c.toNat : Int) < 97 := by omega
   have n122 : ¬ 122 < c.toNat := by omega
   have z122 : ¬ 122 < (c.toNat : Int) := by omega
   have n48 : ¬ c.toNat < 48 := by omega
   have z48 : ¬ (c.toNat : Int) < 48 := by omega
   have n57 : 57 < c.toNat := by omega
   have z57 : 57 < (c.toNat : Int) := by omega
   have hh : isHigh c = false := by simp [isHigh]; omega
   have hi2 : isInAlias c = false := by simp [isInAlias,isHigh,isDigit]; omega
   by_cases h0 : i = 0
   ·subst h0
    have hx0 : asidx (avStr s) (.lit (.int .i64 0)) = some (avByte c) := hx
    simp [L_ref04_Alias_1,r0,r3,avByte,hlt',hlt,n65,z65,n90,z90,n97,z97,n122,z122,n48,z48,n57,z57,hx0,avByte,st0 rfl hh,settle,keeps,-Int.natCast_add]
   ·have h0' : ¬ (i : Int) = 0 := by omega
    simp [L_ref04_Alias_1,r0,r3,avByte,hlt',hlt,n65,z65,n90,z90,n97,z97,n122,z122,n48,z48,n57,z57,hx,h0,h0',stN hi2,settle,keeps,-Int.natCast_add]
  ·have hr : 65 <= c.toNat /\ c.toNat < 91 := by omega
   have n65 : 65 <= c.toNat := by omega
   have z65 : 65 <= (c.toNat : Int) := by omega
   have n90 : c.toNat <= 90 := by omega
   have z90 : (c.toNat : Int) <= 90 := by omega
   have n97 : c.toNat < 97 := by omega
   have z97 : (c.toNat : Int) < 97 := by omega
   have n122 : ¬ 122 < c.toNat := by omega
   have z122 : ¬ 122 < (c.toNat : Int) := by omega
   have n48 : ¬ c.toNat < 48 := by omega
   have z48 : ¬ (c.toNat : Int) < 48 := by omega
   have n57 : 57 < c.toNat := by omega
   have z57 : 57 < (c.toNat : Int) := by omega
   have hh : isHigh c = true := by simp [isHigh]; omega
   have hi2 : isInAlias c = true := by simp [isInAlias,isHigh,isDigit]; omega
   by_cases h0 : i = 0
   ·subst h0
    have hx0 : asidx (avStr s) (.lit (.int .i64 0)) = some (avByte c) := hx
    simp [L_ref04_Alias_1,r0,r3,avByte,hlt',hlt,n65,z65,n90,z90,n97,z97,n122,z122,n48,z48,n57,z57,hx0,avByte,hw,-Int.natCast_add]
    exact ⟨s.length - (0 + 1),by omega,0 + 1,rfl,by omega,by simpa using ht.trans hi2,fun _ => hd0 rfl hh,rfl⟩
   ·have h0' : ¬ (i : Int) = 0 := by omega
    simp [L_ref04_Alias_1,r0,r3,avByte,hlt',hlt,n65,z65,n90,z90,n97,z97,n122,z122,n48,z48,n57,z57,hx,h0,h0',hw,-Int.natCast_add]
    exact ⟨s.length - (i + 1),by omega,i + 1,rfl,by omega,by simpa using ht.trans hi2,fun _ => hp (by omega),rfl⟩
  ·have hr : 91 <= c.toNat /\ c.toNat < 97 := by omega
   have n65 : 65 <= c.toNat := by omega
   have z65 : 65 <= (c.toNat : Int) := by omega
   have n90 : ¬ c.toNat <= 90 := by omega
   have z90 : ¬ (c.toNat : Int) <= 90 := by omega
   have n97 : c.toNat < 97 := by omega
   have z97 : (c.toNat : Int) < 97 := by omega
   have n122 : ¬ 122 < c.toNat := by omega
   have z122 : ¬ 122 < (c.toNat : Int) := by omega
   have n48 : ¬ c.toNat < 48 := by omega
   have z48 : ¬ (c.toNat : Int) < 48 := by omega
   have n57 : 57 < c.toNat := by omega
   have z57 : 57 < (c.toNat : Int) := by omega
   have hh : isHigh c = false := by simp [isHigh]; omega
   have hi2 : isInAlias c = false := by simp [isInAlias,isHigh,isDigit]; omega
   by_cases h0 : i = 0
   ·subst h0
    have hx0 : asidx (avStr s) (.lit (.int .i64 0)) = some (avByte c) := hx
    simp [L_ref04_Alias_1,r0,r3,avByte,hlt',hlt,n65,z65,n90,z90,n97,z97,n122,z122,n48,z48,n57,z57,hx0,avByte,st0 rfl hh,settle,keeps,-Int.natCast_add]
   ·have h0' : ¬ (i : Int) = 0 := by omega
    simp [L_ref04_Alias_1,r0,r3,avByte,hlt',hlt,n65,z65,n90,z90,n97,z97,n122,z122,n48,z48,n57,z57,hx,h0,h0',stN hi2,settle,keeps,-Int.natCast_add]
  ·have hr : 97 <= c.toNat /\ c.toNat < 123 := by omega
   have n65 : 65 <= c.toNat := by omega
   have z65 : 65 <= (c.toNat : Int) := by omega
   have n90 : ¬ c.toNat <= 90 := by omega
   have z90 : ¬ (c.toNat : Int) <= 90 := by omega
   have n97 : ¬ c.toNat < 97 := by omega
   have z97 : ¬ (c.toNat : Int) < 97 := by omega
   have n122 : ¬ 122 < c.toNat := by omega
   have z122 : ¬ 122 < (c.toNat : Int) := by omega
   have n48 : ¬ c.toNat < 48 := by omega
   have z48 : ¬ (c.toNat : Int) < 48 := by omega
   have n57 : 57 < c.toNat := by omega
   have z57 : 57 < (c.toNat : Int) := by omega
   have hh : isHigh c = false := by simp [isHigh]; omega
   have hi2 : isInAlias c = true := by simp [isInAlias,isHigh,isDigit]; omega
   by_cases h0 : i = 0
   ·subst h0
    have hx0 : asidx (avStr s) (.lit (.int .i64 0)) = some (avByte c) := hx
    simp [L_ref04_Alias_1,r0,r3,avByte,hlt',hlt,n65,z65,n90,z90,n97,z97,n122,z122,n48,z48,n57,z57,hx0,avByte,st0 rfl hh,settle,keeps,-Int.natCast_add]
   ·have h0' : ¬ (i : Int) = 0 := by omega
    simp [L_ref04_Alias_1,r0,r3,avByte,hlt',hlt,n65,z65,n90,z90,n97,z97,n122,z122,n48,z48,n57,z57,hx,h0,h0',hw,-Int.natCast_add]
    exact ⟨s.length - (i + 1),by omega,i + 1,rfl,by omega,by simpa using ht.trans hi2,fun _ => hp (by omega),rfl⟩
  ·have hr : 123 <= c.toNat /\ c.toNat < 256 := by omega
   have n65 : 65 <= c.toNat := by omega
   have z65 : 65 <= (c.toNat : Int) := by omega
   have n90 : ¬ c.toNat <= 90 := by omega
   have z90 : ¬ (c.toNat : Int) <= 90 := by omega
   have n97 : ¬ c.toNat < 97 := by omega
   have z97 : ¬ (c.toNat : Int) < 97 := by omega
   have n122 : 122 < c.toNat := by omega
   have z122 : 122 < (c.toNat : Int) := by omega
   have n48 : ¬ c.toNat < 48 := by omega
   have z48 : ¬ (c.toNat : Int) < 48 := by omega
   have n57 : 57 < c.toNat := by omega
   have z57 : 57 < (c.toNat : Int) := by omega
   have hh : isHigh c = false := by simp [isHigh]; omega
   have hi2 : isInAlias c = false := by simp [isInAlias,isHigh,isDigit]; omega
   by_cases h0 : i = 0
   ·subst h0
    have hx0 : asidx (avStr s) (.lit (.int .i64 0)) = some (avByte c) := hx
    simp [L_ref04_Alias_1,r0,r3,avByte,hlt',hlt,n65,z65,n90,z90,n97,z97,n122,z122,n48,z48,n57,z57,hx0,avByte,st0 rfl hh,settle,keeps,-Int.natCast_add]
   ·have h0' : ¬ (i : Int) = 0 := by omega
    simp [L_ref04_Alias_1,r0,r3,avByte,hlt',hlt,n65,z65,n90,z90,n97,z97,n122,z122,n48,z48,n57,z57,hx,h0,h0',stN hi2,settle,keeps,-Int.natCast_add]
 ·have hlt' : ¬ (i : Int) < s.length := by omega
  have hie : i = s.length := by omega
  subst hie
  rw [List.take_length] at ha
  have : rAliasB s = !decide (s = []) := by
   unfold rAliasB
   cases s with
   | nil => rfl
   | cons a r => rw [hp (by simp),ha]; simp
  simp [L_ref04_Alias_1,K_ref04_Alias_1,r0,r3,this,settle,keeps]
  try (cases s <;> simp)
end
end Go.Proofs.Eng
namespace Go.Proofs.Eng
open Go
theorem inAlias_small {c : UInt8} (h : isInAlias c = true) : c.toNat < 128 /\ c.toNat ≠ 39 /\ isBlank c = false /\ c.toNat ≠ 47 := by
 simp only [isInAlias,isHigh,isDigit,Bool.or_eq_true,Bool.and_eq_true,decide_eq_true_eq] at h
 refine ⟨by omega,by omega,?_,by omega⟩
 simp only [isBlank,Bool.or_eq_false_iff,decide_eq_false_iff_not]
 omega
theorem high_inAlias {c : UInt8} (h : isHigh c = true) : isInAlias c = true := by simp [isInAlias,h]
theorem one_alias {s : List UInt8} {t : List UInt8} {n : Nat} (h : oneB s = some (2,t,n)) : rAliasB t = true := by
 cases s with
 | nil => simp [oneB] at h
 | cons c r =>
  simp only [oneB,oneC] at h
  split at h
  ·split at h <;> simp at h
  ·split at h
   ·split at h <;> simp at h
   ·split at h
    ·rename_i hh
     simp only [Option.some.injEq,Prod.mk.injEq,true_and] at h
     obtain ⟨rfl,rfl⟩ := h
     rw [runB_take]
     unfold rAliasB
     have hc := high_inAlias hh
     have e : (c :: r).takeWhile isInAlias = c :: r.takeWhile isInAlias := by simp [List.takeWhile_cons,hc]
     rw [e]
     simp only [List.head?_cons,Option.map_some,Option.getD_some,hh,Bool.true_and]
     rw [<- e]
     exact List.all_takeWhile
    ·split at h
     ·split at h <;> simp at h
     ·split at h
      ·simp at h
      ·split at h
       ·obtain ⟨q,_,e⟩ := Option.map_eq_some_iff.1 h
        simp at e
       ·obtain ⟨q,_,e⟩ := Option.map_eq_some_iff.1 h
        simp at e
theorem tok_alias : ∀ (k : Nat) (a : Nat) (s : List UInt8),∀ t ∈ (tokF k a s).1,t.1 = 2 -> rAliasB t.2.1 = true
 | 0,a,s => by simp [tokF]
 | k + 1,a,s => by
  intro t ht h2
  simp only [tokF] at ht
  split at ht
  ·simp at ht; subst ht; simp at h2
  ·cases ho : oneB s with
   | none => rw [ho] at ht; simp at ht
   | some q =>
    obtain ⟨kd,u,n⟩ := q
    rw [ho] at ht
    simp only [List.mem_cons] at ht
    rcases ht with rfl | ht
    ·simp only at h2
     subst h2
     exact one_alias ho
    ·exact tok_alias k _ _ t ht h2
theorem lexR_alias {s : List UInt8} (h : rAliasB s = true) (hl : s.length <= 1048576) : lexR s = ([(2,s,0),(0,[],s.length)],0,0) := by
 cases s with
 | nil => simp [rAliasB] at h
 | cons c r =>
  simp only [rAliasB,List.head?_cons,Option.map_some,Option.getD_some,Bool.and_eq_true] at h
  obtain ⟨h1,h2⟩ := h
  have hall : ∀ d ∈ c :: r,isInAlias d = true := List.all_eq_true.1 h2
  have hc := inAlias_small (hall c List.mem_cons_self)
  have hwf : stopOf (c :: r) = (c :: r).length := wf_ascii _ fun d hd => (inAlias_small (hall d hd)).1
  have hb : blankB (c :: r) = 0 := blank0 hc.2.2.1 hc.2.2.2
  have hp : ([102,39] : List UInt8).isPrefixOf (c :: r) = false := by
   cases r with
   | nil => simp [List.isPrefixOf]
   | cons d r' =>
    have hd := inAlias_small (hall d (by simp))
    have : ((39 : UInt8) == d) = false := by
     rw [beq_eq_false_iff_ne]; rintro rfl; exact hd.2.1 rfl
    simp [List.isPrefixOf,this]
  have hlow : isLow c = false := by
   simp only [isHigh,Bool.and_eq_true,decide_eq_true_eq] at h1
   simp only [isLow,Bool.or_eq_false_iff,Bool.and_eq_false_iff,decide_eq_false_iff_not]
   omega
  have hrun : runB isInAlias (c :: r) = (c :: r).length := by
   have key : ∀ l : List UInt8,(∀ d ∈ l,isInAlias d = true) -> l.takeWhile isInAlias = l := by
    intro l
    induction l with
    | nil => intro _; rfl
    | cons a l ih => intro h; rw [List.takeWhile_cons,h a (by simp)]; simp only [if_true]; rw [ih fun d hd => h d (by simp [hd])]
   unfold runB
   rw [key _ hall]
  have ho : oneB (c :: r) = some (2,c :: r,(c :: r).length) := by
   simp only [oneB,oneC]
   rw [hp,hlow,h1,hrun,List.take_length]
   simp
  unfold lexR
  rw [if_neg (by omega),if_neg (by simpa using hwf),hb,List.drop_zero,tokR_some (by simp) ho,List.drop_length]
  simp [tokR_nil,blankB_nil]
theorem alias_eq {s : List UInt8} (hl : s.length <= 1048576) : aliasB s = rAliasB s := by
 cases hr : rAliasB s with
 | true =>
  unfold aliasB
  rw [lexR_alias hr hl]
  simp
 | false =>
  rw [Bool.eq_false_iff]
  intro ha
  unfold aliasB at ha
  simp only [Bool.and_eq_true,decide_eq_true_eq] at ha
  obtain ⟨h0,h1⟩ := ha
  split at h1
  ·rename_i t u he
   simp only [Bool.and_eq_true,decide_eq_true_eq] at h1
   have hok := lexR_ok (b := s) (l := (lexR s).1) (p := (lexR s).2.2) (by rw [<- h0])
   have hm : t ∈ (tokR (blankB s) (s.drop (blankB s))).1 := by rw [hok.2,he]; simp
   have := tok_alias _ _ _ t hm h1.1
   rw [h1.2,hr] at this
   cases this
  ·cases h1
end Go.Proofs.Eng
namespace Go.Proofs.Eng
open Go
def asksB (k : Int) : Bool := !(decide (k = 1) || decide (k = 2) || decide (k = 4) || decide (k = 6) || decide (k = 9) || decide (k = 15) || decide (k = 16))
def tailB (n : Nd) (nm nu bi : Bool) (kk tt : Int) : Bool :=
 !((asksB n.kind && !nm) || (!asksB n.kind && !decide (n.name = []))) &&
 !(((decide (n.kind = 1) || decide (n.kind = 2)) != nu) || (!nu && !decide (n.int = 0)) || (decide (n.kind = 4) != bi) || (!decide (n.kind = 4) && !decide (n.bits = 0))) &&
 (decide (n.names = []) && decide ((n.kids.length : Int) = kk) && decide ((n.types.length : Int) = tt))
section
variable {Γ : Sums} {A : Tab} {N : Nat -> Nat}
set_option maxHeartbeats 4000000 in
theorem term_end {H : Hp} {n : Nd} {a b c : AV} {nm nu bi : Bool} {kk tt : Int} {ρ : Rho} (ha : asLen a = some n.names.length) (hb : asLen b = some n.kids.length) (hc : asLen c = some n.types.length)
  (hk : n.kind = 0 \/ n.kind = 1 \/ n.kind = 2 \/ n.kind = 3 \/ n.kind = 4 \/ n.kind = 5 \/ n.kind = 6 \/ n.kind = 7 \/ n.kind = 8 \/ n.kind = 9 \/ n.kind = 11 \/ n.kind = 13 \/ n.kind = 14 \/ n.kind = 15 \/ n.kind = 16)
  (r1 : ρ 1 = .ptr H.l.length 0) (r3 : ρ 3 = avBool nm) (r4 : ρ 4 = avBool nu) (r5 : ρ 5 = avBool bi) (r6 : ρ 6 = avInt .i64 kk) (r7 : ρ 7 = avInt .i64 tt) {G : Hp}
  (hbox : hget G H.l.length = some (.cells [avInt .i64 n.kind,avInt .i64 n.pos,avStr n.name,avInt .i64 n.int,avInt .u64 n.bits,a,b,c] (t_api_Node N))) (hset : ∀ b : Bool,settle H (avBool b) G = (avBool b,none)) :
  wp (lim Γ A) none (K_ref04_term_2 N) ρ G (Ends [.inl 2] false H fun p => p = (avBool (tailB n nm nu bi kk tt),none)) := by
 have e0 : ∀ l : List (List UInt8),decide ((l.length : Int) = 0) = decide (l = []) := fun l => by cases l <;> simp; omega
 unfold tailB
 generalize e1 : decide (n.name = []) = b1
 generalize e2 : decide (n.int = 0) = b2
 generalize e3 : decide (n.bits = 0) = b3
 generalize e4 : decide (n.names = []) = b4
 generalize e5 : decide ((n.kids.length : Int) = kk) = b5
 generalize e6 : decide ((n.types.length : Int) = tt) = b6
 rcases hk with hk | hk | hk | hk | hk | hk | hk | hk | hk | hk | hk | hk | hk | hk | hk <;> (
  rw [hk] at hbox ⊢
  simp [K_ref04_term_2,r1,r3,r4,r5,r6,r7,hbox,ha,hb,hc,asksB,loadC,e0,e1,e2,e3,e4,e5,e6,hset]
  repeat' (first | (apply guardP_intro <;> intro hg <;> (try simp at hg) <;> simp [*]) | (apply iteP_intro <;> intro hg <;> (try simp at hg) <;> simp [*])))
end
end Go.Proofs.Eng
namespace Go.Proofs.Eng
open Go
theorem tagB_tagW (s : List UInt8) : tagB s = tagW s := by
 unfold tagW
 rw [nameB_tag]
 cases hw : isWordB s with
 | false => simp
 | true =>
  have : tagB s = true := by
   unfold isWordB at hw
   have hm := of_decide_eq_true hw
   have key : ∀ w ∈ wordsL,tagB w = true := by decide
   exact key s hm
  rw [this]; rfl
def plainB (n : Nd) : Bool :=
 if n.kind = 0 then tailB n (isNameB n.name) false false 0 0
 else if n.kind = 1 then tailB n false (decide (0 <= n.int)) false 0 0
 else if n.kind = 2 then tailB n false (decide (n.int = 0) || decide (n.int = 1)) false 0 0
 else if n.kind = 3 then tailB n (textB' n.name) false false 0 0
 else if n.kind = 4 then tailB n false false (decide (ofB n.bits = n.bits)) 0 0
 else if n.kind = 5 \/ n.kind = 13 then tailB n (isNameB n.name) false false 1 0
 else if n.kind = 6 then tailB n false false false 2 0
 else if n.kind = 7 \/ n.kind = 8 then tailB n (isNameB n.name) false false 2 0
 else if n.kind = 9 then tailB n false false false 3 0
 else if n.kind = 11 then tailB n (tagB n.name) false false 1 0
 else if n.kind = 14 then tailB n (decide (n.name ∈ opsL)) false false 2 0
 else if n.kind = 15 then tailB n false false false 1 1
 else if n.kind = 16 then tailB n false false false 1 2
 else false
def Nd.wf (n : Nd) : Prop := 0 <= n.bits /\ n.bits < 2 ^ 64
section
variable {Γ : Sums} {A : Tab} {N : Nat -> Nat}
set_option maxHeartbeats 4000000 in
theorem ref04_term_plain (h : RefK Γ A N) {H : Hp} {x : AV} {n : Nd} (hn : NdR H x n) (ok : n.ok) (wf : n.wf) (h10 : n.kind ≠ 10) (h12 : n.kind ≠ 12) : (lim Γ A).call (f_ref04_term N) [x] H = some (avBool (plainB n),none) := by
 obtain ⟨a,b,c,rfl,va,vb,vc⟩ := hn
 obtain ⟨o1,o2,o3,o4,o5⟩ := ok
 have la := VS.len va
 have lb := VI.len vb
 have lc := VI.len vc
 have pa := va.one
 have pb := vb.one
 have pc := vc.one
 obtain ⟨w,hw,hwl⟩ : ∃ w : Nat,n.bits = (w : Int) /\ w < 2 ^ 64 := ⟨n.bits.toNat,by have := wf.1; omega,by have := wf.1; have := wf.2; omega⟩
 have e1 := fun H => ref04_Name_call' h.tag h.word n.name (by omega) H
 have e2 := fun H => ref04_Tag_call h.tag n.name (by omega) H
 have e3 := fun H => ref04_text_call h n.name (by omega) H
 have e4 := fun H => ref04_op_call h n.name H
 obtain ⟨Hb,hHb⟩ : ∃ Hb,Hb = halloc { l := H.l,d := none } (.cells [avInt .i64 n.kind,avInt .i64 n.pos,avStr n.name,avInt .i64 n.int,avInt .u64 n.bits,a,b,c] (t_api_Node N)) := ⟨_,rfl⟩
 have hbox : hget Hb H.l.length = some (.cells [avInt .i64 n.kind,avInt .i64 n.pos,avStr n.name,avInt .i64 n.int,avInt .u64 n.bits,a,b,c] (t_api_Node N)) := by subst hHb; simp
 have hset : ∀ b : Bool,settle H (avBool b) Hb = (avBool b,none) := fun b => by subst hHb; simp [settle,keeps]
 obtain ⟨p1,p2,p3,p4,e5⟩ := ref02_Parts_call h w hwl Hb
 rw [<- hw] at e5
 have e6 := ofB_none w
 rw [<- hw] at e6
 have fin := fun {nm nu bi : Bool} {kk tt : Int} {ρ : Rho} (hk) (r1 : ρ 1 = .ptr H.l.length 0) (r3 : ρ 3 = avBool nm) (r4 : ρ 4 = avBool nu) (r5 : ρ 5 = avBool bi) (r6 : ρ 6 = avInt .i64 kk) (r7 : ρ 7 = avInt .i64 tt) => term_end (Γ := Γ) (A := A) (N := N) (H := H) (n := n) la lb lc hk r1 r3 r4 r5 r6 r7 hbox hset
 apply h.term.call (by rfl)
 unfold plainB
 unfold ndV
 have hk : (n.kind = 0 \/ n.kind = 1 \/ n.kind = 2 \/ n.kind = 3 \/ n.kind = 4 \/ n.kind = 5 \/ n.kind = 6 \/ n.kind = 7 \/ n.kind = 8 \/ n.kind = 9 \/ n.kind = 11 \/ n.kind = 13 \/ n.kind = 14 \/ n.kind = 15 \/ n.kind = 16) \/ (n.kind < 0 \/ 16 < n.kind) := by omega
 have f10 : (n.kind = 10) = False := by simp [h10]
 have f12 : (n.kind = 12) = False := by simp [h12]
 rcases hk with hk | hk
 ·have hk' := hk
  rcases hk' with k | k | k | k | k | k | k | k | k | k | k | k | k | k | k
  ·have d0 : (n.kind = 0) = True := by simp [k]
   have d1 : (n.kind = 1) = False := by simp [k]
   have d2 : (n.kind = 2) = False := by simp [k]
   have d3 : (n.kind = 3) = False := by simp [k]
   have d4 : (n.kind = 4) = False := by simp [k]
   have d5 : (n.kind = 5) = False := by simp [k]
   have d6 : (n.kind = 6) = False := by simp [k]
   have d7 : (n.kind = 7) = False := by simp [k]
   have d8 : (n.kind = 8) = False := by simp [k]
   have d9 : (n.kind = 9) = False := by simp [k]
   have d11 : (n.kind = 11) = False := by simp [k]
   have d13 : (n.kind = 13) = False := by simp [k]
   have d14 : (n.kind = 14) = False := by simp [k]
   have d15 : (n.kind = 15) = False := by simp [k]
   have d16 : (n.kind = 16) = False := by simp [k]
   simp [C_ref04_term,pa,pb,pc,<- hHb,hbox,d0,d1,d2,d3,d4,d5,d6,d7,d8,d9,d11,d13,d14,d15,d16,f10,f12,loadC,e1,e2,e3,e4,e5,e6,ge_iff_le]
   exact fin hk (by simp) (by simp) (by simp) (by simp) (by simp) (by simp)
  ·have d0 : (n.kind = 0) = False := by simp [k]
   have d1 : (n.kind = 1) = True := by simp [k]
   have d2 : (n.kind = 2) = False := by simp [k]
   have d3 : (n.kind = 3) = False := by simp [k]
   have d4 : (n.kind = 4) = False := by simp [k]
   have d5 : (n.kind = 5) = False := by simp [k]
   have d6 : (n.kind = 6) = False := by simp [k]
   have d7 : (n.kind = 7) = False := by simp [k]
   have d8 : (n.kind = 8) = False := by simp [k]
   have d9 : (n.kind = 9) = False := by simp [k]
   have d11 : (n.kind = 11) = False := by simp [k]
   have d13 : (n.kind = 13) = False := by simp [k]
   have d14 : (n.kind = 14) = False := by simp [k]
   have d15 : (n.kind = 15) = False := by simp [k]
   have d16 : (n.kind = 16) = False := by simp [k]
   simp [C_ref04_term,pa,pb,pc,<- hHb,hbox,d0,d1,d2,d3,d4,d5,d6,d7,d8,d9,d11,d13,d14,d15,d16,f10,f12,loadC,e1,e2,e3,e4,e5,e6,ge_iff_le]
   exact fin hk (by simp) (by simp) (by simp) (by simp) (by simp) (by simp)
  ·have d0 : (n.kind = 0) = False := by simp [k]
   have d1 : (n.kind = 1) = False := by simp [k]
   have d2 : (n.kind = 2) = True := by simp [k]
   have d3 : (n.kind = 3) = False := by simp [k]
   have d4 : (n.kind = 4) = False := by simp [k]
   have d5 : (n.kind = 5) = False := by simp [k]
   have d6 : (n.kind = 6) = False := by simp [k]
   have d7 : (n.kind = 7) = False := by simp [k]
   have d8 : (n.kind = 8) = False := by simp [k]
   have d9 : (n.kind = 9) = False := by simp [k]
   have d11 : (n.kind = 11) = False := by simp [k]
   have d13 : (n.kind = 13) = False := by simp [k]
   have d14 : (n.kind = 14) = False := by simp [k]
   have d15 : (n.kind = 15) = False := by simp [k]
   have d16 : (n.kind = 16) = False := by simp [k]
   by_cases i0 : n.int = 0
   ·have z0 : (n.int = 0) = True := by simp [i0]
    simp [C_ref04_term,pa,pb,pc,<- hHb,hbox,d0,d1,d2,d3,d4,d5,d6,d7,d8,d9,d11,d13,d14,d15,d16,f10,f12,loadC,z0]
    exact fin hk (by simp) (by simp) (by simp) (by simp) (by simp) (by simp)
   ·have z0 : (n.int = 0) = False := by simp [i0]
    simp [C_ref04_term,pa,pb,pc,<- hHb,hbox,d0,d1,d2,d3,d4,d5,d6,d7,d8,d9,d11,d13,d14,d15,d16,f10,f12,loadC,z0]
    exact fin hk (by simp) (by simp) (by simp) (by simp) (by simp) (by simp)
  ·have d0 : (n.kind = 0) = False := by simp [k]
   have d1 : (n.kind = 1) = False := by simp [k]
   have d2 : (n.kind = 2) = False := by simp [k]
   have d3 : (n.kind = 3) = True := by simp [k]
   have d4 : (n.kind = 4) = False := by simp [k]
   have d5 : (n.kind = 5) = False := by simp [k]
   have d6 : (n.kind = 6) = False := by simp [k]
   have d7 : (n.kind = 7) = False := by simp [k]
   have d8 : (n.kind = 8) = False := by simp [k]
   have d9 : (n.kind = 9) = False := by simp [k]
   have d11 : (n.kind = 11) = False := by simp [k]
   have d13 : (n.kind = 13) = False := by simp [k]
   have d14 : (n.kind = 14) = False := by simp [k]
   have d15 : (n.kind = 15) = False := by simp [k]
   have d16 : (n.kind = 16) = False := by simp [k]
   simp [C_ref04_term,pa,pb,pc,<- hHb,hbox,d0,d1,d2,d3,d4,d5,d6,d7,d8,d9,d11,d13,d14,d15,d16,f10,f12,loadC,e1,e2,e3,e4,e5,e6,ge_iff_le]
   exact fin hk (by simp) (by simp) (by simp) (by simp) (by simp) (by simp)
  ·have d0 : (n.kind = 0) = False := by simp [k]
   have d1 : (n.kind = 1) = False := by simp [k]
   have d2 : (n.kind = 2) = False := by simp [k]
   have d3 : (n.kind = 3) = False := by simp [k]
   have d4 : (n.kind = 4) = True := by simp [k]
   have d5 : (n.kind = 5) = False := by simp [k]
   have d6 : (n.kind = 6) = False := by simp [k]
   have d7 : (n.kind = 7) = False := by simp [k]
   have d8 : (n.kind = 8) = False := by simp [k]
   have d9 : (n.kind = 9) = False := by simp [k]
   have d11 : (n.kind = 11) = False := by simp [k]
   have d13 : (n.kind = 13) = False := by simp [k]
   have d14 : (n.kind = 14) = False := by simp [k]
   have d15 : (n.kind = 15) = False := by simp [k]
   have d16 : (n.kind = 16) = False := by simp [k]
   rcases hnb : noneB w with _ | _
   ·rw [hnb] at e5 e6
    simp [C_ref04_term,pa,pb,pc,<- hHb,hbox,d0,d1,d2,d3,d4,d5,d6,d7,d8,d9,d11,d13,d14,d15,d16,f10,f12,loadC,e5,e6]
    exact fin hk (by simp) (by simp) (by simp) (by simp) (by simp) (by simp)
   ·rw [hnb] at e5 e6
    simp [C_ref04_term,pa,pb,pc,<- hHb,hbox,d0,d1,d2,d3,d4,d5,d6,d7,d8,d9,d11,d13,d14,d15,d16,f10,f12,loadC,e5,e6]
    exact fin hk (by simp) (by simp) (by simp) (by simp) (by simp) (by simp)
  ·have d0 : (n.kind = 0) = False := by simp [k]
   have d1 : (n.kind = 1) = False := by simp [k]
   have d2 : (n.kind = 2) = False := by simp [k]
   have d3 : (n.kind = 3) = False := by simp [k]
   have d4 : (n.kind = 4) = False := by simp [k]
   have d5 : (n.kind = 5) = True := by simp [k]
   have d6 : (n.kind = 6) = False := by simp [k]
   have d7 : (n.kind = 7) = False := by simp [k]
   have d8 : (n.kind = 8) = False := by simp [k]
   have d9 : (n.kind = 9) = False := by simp [k]
   have d11 : (n.kind = 11) = False := by simp [k]
   have d13 : (n.kind = 13) = False := by simp [k]
   have d14 : (n.kind = 14) = False := by simp [k]
   have d15 : (n.kind = 15) = False := by simp [k]
   have d16 : (n.kind = 16) = False := by simp [k]
   simp [C_ref04_term,pa,pb,pc,<- hHb,hbox,d0,d1,d2,d3,d4,d5,d6,d7,d8,d9,d11,d13,d14,d15,d16,f10,f12,loadC,e1,e2,e3,e4,e5,e6,ge_iff_le]
   exact fin hk (by simp) (by simp) (by simp) (by simp) (by simp) (by simp)
  ·have d0 : (n.kind = 0) = False := by simp [k]
   have d1 : (n.kind = 1) = False := by simp [k]
   have d2 : (n.kind = 2) = False := by simp [k]
   have d3 : (n.kind = 3) = False := by simp [k]
   have d4 : (n.kind = 4) = False := by simp [k]
   have d5 : (n.kind = 5) = False := by simp [k]
   have d6 : (n.kind = 6) = True := by simp [k]
   have d7 : (n.kind = 7) = False := by simp [k]
   have d8 : (n.kind = 8) = False := by simp [k]
   have d9 : (n.kind = 9) = False := by simp [k]
   have d11 : (n.kind = 11) = False := by simp [k]
   have d13 : (n.kind = 13) = False := by simp [k]
   have d14 : (n.kind = 14) = False := by simp [k]
   have d15 : (n.kind = 15) = False := by simp [k]
   have d16 : (n.kind = 16) = False := by simp [k]
   simp [C_ref04_term,pa,pb,pc,<- hHb,hbox,d0,d1,d2,d3,d4,d5,d6,d7,d8,d9,d11,d13,d14,d15,d16,f10,f12,loadC,e1,e2,e3,e4,e5,e6,ge_iff_le]
   exact fin hk (by simp) (by simp) (by simp) (by simp) (by simp) (by simp)
  ·have d0 : (n.kind = 0) = False := by simp [k]
   have d1 : (n.kind = 1) = False := by simp [k]
   have d2 : (n.kind = 2) = False := by simp [k]
   have d3 : (n.kind = 3) = False := by simp [k]
   have d4 : (n.kind = 4) = False := by simp [k]
   have d5 : (n.kind = 5) = False := by simp [k]
   have d6 : (n.kind = 6) = False := by simp [k]
   have d7 : (n.kind = 7) = True := by simp [k]
   have d8 : (n.kind = 8) = False := by simp [k]
   have d9 : (n.kind = 9) = False := by simp [k]
   have d11 : (n.kind = 11) = False := by simp [k]
   have d13 : (n.kind = 13) = False := by simp [k]
   have d14 : (n.kind = 14) = False := by simp [k]
   have d15 : (n.kind = 15) = False := by simp [k]
   have d16 : (n.kind = 16) = False := by simp [k]
   simp [C_ref04_term,pa,pb,pc,<- hHb,hbox,d0,d1,d2,d3,d4,d5,d6,d7,d8,d9,d11,d13,d14,d15,d16,f10,f12,loadC,e1,e2,e3,e4,e5,e6,ge_iff_le]
   exact fin hk (by simp) (by simp) (by simp) (by simp) (by simp) (by simp)
  ·have d0 : (n.kind = 0) = False := by simp [k]
   have d1 : (n.kind = 1) = False := by simp [k]
   have d2 : (n.kind = 2) = False := by simp [k]
   have d3 : (n.kind = 3) = False := by simp [k]
   have d4 : (n.kind = 4) = False := by simp [k]
   have d5 : (n.kind = 5) = False := by simp [k]
   have d6 : (n.kind = 6) = False := by simp [k]
   have d7 : (n.kind = 7) = False := by simp [k]
   have d8 : (n.kind = 8) = True := by simp [k]
   have d9 : (n.kind = 9) = False := by simp [k]
   have d11 : (n.kind = 11) = False := by simp [k]
   have d13 : (n.kind = 13) = False := by simp [k]
   have d14 : (n.kind = 14) = False := by simp [k]
   have d15 : (n.kind = 15) = False := by simp [k]
   have d16 : (n.kind = 16) = False := by simp [k]
   simp [C_ref04_term,pa,pb,pc,<- hHb,hbox,d0,d1,d2,d3,d4,d5,d6,d7,d8,d9,d11,d13,d14,d15,d16,f10,f12,loadC,e1,e2,e3,e4,e5,e6,ge_iff_le]
   exact fin hk (by simp) (by simp) (by simp) (by simp) (by simp) (by simp)
  ·have d0 : (n.kind = 0) = False := by simp [k]
   have d1 : (n.kind = 1) = False := by simp [k]
   have d2 : (n.kind = 2) = False := by simp [k]
   have d3 : (n.kind = 3) = False := by simp [k]
   have d4 : (n.kind = 4) = False := by simp [k]
   have d5 : (n.kind = 5) = False := by simp [k]
   have d6 : (n.kind = 6) = False := by simp [k]
   have d7 : (n.kind = 7) = False := by simp [k]
   have d8 : (n.kind = 8) = False := by simp [k]
   have d9 : (n.kind = 9) = True := by simp [k]
   have d11 : (n.kind = 11) = False := by simp [k]
   have d13 : (n.kind = 13) = False := by simp [k]
   have d14 : (n.kind = 14) = False := by simp [k]
   have d15 : (n.kind = 15) = False := by simp [k]
   have d16 : (n.kind = 16) = False := by simp [k]
   simp [C_ref04_term,pa,pb,pc,<- hHb,hbox,d0,d1,d2,d3,d4,d5,d6,d7,d8,d9,d11,d13,d14,d15,d16,f10,f12,loadC,e1,e2,e3,e4,e5,e6,ge_iff_le]
   exact fin hk (by simp) (by simp) (by simp) (by simp) (by simp) (by simp)
  ·have d0 : (n.kind = 0) = False := by simp [k]
   have d1 : (n.kind = 1) = False := by simp [k]
   have d2 : (n.kind = 2) = False := by simp [k]
   have d3 : (n.kind = 3) = False := by simp [k]
   have d4 : (n.kind = 4) = False := by simp [k]
   have d5 : (n.kind = 5) = False := by simp [k]
   have d6 : (n.kind = 6) = False := by simp [k]
   have d7 : (n.kind = 7) = False := by simp [k]
   have d8 : (n.kind = 8) = False := by simp [k]
   have d9 : (n.kind = 9) = False := by simp [k]
   have d11 : (n.kind = 11) = True := by simp [k]
   have d13 : (n.kind = 13) = False := by simp [k]
   have d14 : (n.kind = 14) = False := by simp [k]
   have d15 : (n.kind = 15) = False := by simp [k]
   have d16 : (n.kind = 16) = False := by simp [k]
   simp [C_ref04_term,pa,pb,pc,<- hHb,hbox,d0,d1,d2,d3,d4,d5,d6,d7,d8,d9,d11,d13,d14,d15,d16,f10,f12,loadC,e1,e2,e3,e4,e5,e6,ge_iff_le]
   exact fin hk (by simp) (by simp) (by simp) (by simp) (by simp) (by simp)
  ·have d0 : (n.kind = 0) = False := by simp [k]
   have d1 : (n.kind = 1) = False := by simp [k]
   have d2 : (n.kind = 2) = False := by simp [k]
   have d3 : (n.kind = 3) = False := by simp [k]
   have d4 : (n.kind = 4) = False := by simp [k]
   have d5 : (n.kind = 5) = False := by simp [k]
   have d6 : (n.kind = 6) = False := by simp [k]
   have d7 : (n.kind = 7) = False := by simp [k]
   have d8 : (n.kind = 8) = False := by simp [k]
   have d9 : (n.kind = 9) = False := by simp [k]
   have d11 : (n.kind = 11) = False := by simp [k]
   have d13 : (n.kind = 13) = True := by simp [k]
   have d14 : (n.kind = 14) = False := by simp [k]
   have d15 : (n.kind = 15) = False := by simp [k]
   have d16 : (n.kind = 16) = False := by simp [k]
   simp [C_ref04_term,pa,pb,pc,<- hHb,hbox,d0,d1,d2,d3,d4,d5,d6,d7,d8,d9,d11,d13,d14,d15,d16,f10,f12,loadC,e1,e2,e3,e4,e5,e6,ge_iff_le]
   exact fin hk (by simp) (by simp) (by simp) (by simp) (by simp) (by simp)
  ·have d0 : (n.kind = 0) = False := by simp [k]
   have d1 : (n.kind = 1) = False := by simp [k]
   have d2 : (n.kind = 2) = False := by simp [k]
   have d3 : (n.kind = 3) = False := by simp [k]
   have d4 : (n.kind = 4) = False := by simp [k]
   have d5 : (n.kind = 5) = False := by simp [k]
   have d6 : (n.kind = 6) = False := by simp [k]
   have d7 : (n.kind = 7) = False := by simp [k]
   have d8 : (n.kind = 8) = False := by simp [k]
   have d9 : (n.kind = 9) = False := by simp [k]
   have d11 : (n.kind = 11) = False := by simp [k]
   have d13 : (n.kind = 13) = False := by simp [k]
   have d14 : (n.kind = 14) = True := by simp [k]
   have d15 : (n.kind = 15) = False := by simp [k]
   have d16 : (n.kind = 16) = False := by simp [k]
   simp [C_ref04_term,pa,pb,pc,<- hHb,hbox,d0,d1,d2,d3,d4,d5,d6,d7,d8,d9,d11,d13,d14,d15,d16,f10,f12,loadC,e1,e2,e3,e4,e5,e6,ge_iff_le]
   exact fin hk (by simp) (by simp) (by simp) (by simp) (by simp) (by simp)
  ·have d0 : (n.kind = 0) = False := by simp [k]
   have d1 : (n.kind = 1) = False := by simp [k]
   have d2 : (n.kind = 2) = False := by simp [k]
   have d3 : (n.kind = 3) = False := by simp [k]
   have d4 : (n.kind = 4) = False := by simp [k]
   have d5 : (n.kind = 5) = False := by simp [k]
   have d6 : (n.kind = 6) = False := by simp [k]
   have d7 : (n.kind = 7) = False := by simp [k]
   have d8 : (n.kind = 8) = False := by simp [k]
   have d9 : (n.kind = 9) = False := by simp [k]
   have d11 : (n.kind = 11) = False := by simp [k]
   have d13 : (n.kind = 13) = False := by simp [k]
   have d14 : (n.kind = 14) = False := by simp [k]
   have d15 : (n.kind = 15) = True := by simp [k]
   have d16 : (n.kind = 16) = False := by simp [k]
   simp [C_ref04_term,pa,pb,pc,<- hHb,hbox,d0,d1,d2,d3,d4,d5,d6,d7,d8,d9,d11,d13,d14,d15,d16,f10,f12,loadC,e1,e2,e3,e4,e5,e6,ge_iff_le]
   exact fin hk (by simp) (by simp) (by simp) (by simp) (by simp) (by simp)
  ·have d0 : (n.kind = 0) = False := by simp [k]
   have d1 : (n.kind = 1) = False := by simp [k]
   have d2 : (n.kind = 2) = False := by simp [k]
   have d3 : (n.kind = 3) = False := by simp [k]
   have d4 : (n.kind = 4) = False := by simp [k]
   have d5 : (n.kind = 5) = False := by simp [k]
   have d6 : (n.kind = 6) = False := by simp [k]
   have d7 : (n.kind = 7) = False := by simp [k]
   have d8 : (n.kind = 8) = False := by simp [k]
   have d9 : (n.kind = 9) = False := by simp [k]
   have d11 : (n.kind = 11) = False := by simp [k]
   have d13 : (n.kind = 13) = False := by simp [k]
   have d14 : (n.kind = 14) = False := by simp [k]
   have d15 : (n.kind = 15) = False := by simp [k]
   have d16 : (n.kind = 16) = True := by simp [k]
   simp [C_ref04_term,pa,pb,pc,<- hHb,hbox,d0,d1,d2,d3,d4,d5,d6,d7,d8,d9,d11,d13,d14,d15,d16,f10,f12,loadC,e1,e2,e3,e4,e5,e6,ge_iff_le]
   exact fin hk (by simp) (by simp) (by simp) (by simp) (by simp) (by simp)
 ·have d0 : (n.kind = 0) = False := by simp; omega
  have d1 : (n.kind = 1) = False := by simp; omega
  have d2 : (n.kind = 2) = False := by simp; omega
  have d3 : (n.kind = 3) = False := by simp; omega
  have d4 : (n.kind = 4) = False := by simp; omega
  have d5 : (n.kind = 5) = False := by simp; omega
  have d6 : (n.kind = 6) = False := by simp; omega
  have d7 : (n.kind = 7) = False := by simp; omega
  have d8 : (n.kind = 8) = False := by simp; omega
  have d9 : (n.kind = 9) = False := by simp; omega
  have d11 : (n.kind = 11) = False := by simp; omega
  have d13 : (n.kind = 13) = False := by simp; omega
  have d14 : (n.kind = 14) = False := by simp; omega
  have d15 : (n.kind = 15) = False := by simp; omega
  have d16 : (n.kind = 16) = False := by simp; omega
  simp [C_ref04_term,pa,pb,pc,<- hHb,hbox,d0,d1,d2,d3,d4,d5,d6,d7,d8,d9,d11,d13,d14,d15,d16,f10,f12,loadC,hset]
end
end Go.Proofs.Eng
namespace Go.Proofs.Eng
open Go
def recB (n : Nd) : Bool := decide (n.name = []) && (decide (n.int = 0) && (decide (n.bits = 0) && (decide (n.types = []) && (decide ((n.names.length : Int) = n.kids.length) && (n.names.all isNameB && onceB n.names)))))
section
variable {Γ : Sums} {A : Tab} {N : Nat -> Nat}
set_option maxHeartbeats 1000000 in
theorem ref04_term_record (h : RefK Γ A N) {H : Hp} {x : AV} {n : Nd} (hn : NdR H x n) (ok : n.ok) (k : n.kind = 12) : (lim Γ A).call (f_ref04_term N) [x] H = some (avBool (recB n),none) := by
 obtain ⟨a,b,c,rfl,va,vb,vc⟩ := hn
 obtain ⟨o1,o2,o3,o4,o5⟩ := ok
 have la := VS.len va
 have lb := VI.len vb
 have lc := VI.len vc
 have pa := va.one
 have pb := vb.one
 have pc := vc.one
 have hset : ∀ (b : Bool) (o : AObj),settle H (avBool b) (halloc { l := H.l,d := none } o) = (avBool b,none) := fun b o => by simp [settle,keeps]
 have va' : ∀ o,VS (halloc { l := H.l,d := none } o) a n.names := fun o => va.keep fun id hid => by rw [hget_halloc,if_neg (by simp; omega)]; rfl
 have e1 := fun o => ref04_names_call h (va' o) (by omega) (fun s hs => by have := o2 s hs; omega)
 have e2 := fun o => ref04_once_call h (va' o) (by omega)
 have e0 : ∀ l : List Int,decide ((l.length : Int) = 0) = decide (l = []) := fun l => by cases l <;> simp; omega
 apply h.term.call (by rfl)
 unfold ndV recB
 generalize q1 : decide (n.name = []) = b1
 generalize q2 : decide (n.int = 0) = b2
 generalize q3 : decide (n.bits = 0) = b3
 generalize q4 : decide (n.types = []) = b4
 generalize q5 : decide ((n.names.length : Int) = n.kids.length) = b5
 generalize q6 : n.names.all isNameB = b6 at *
 generalize q7 : onceB n.names = b7 at *
 have d0 : (n.kind = 0) = False := by simp [k]
 have d1 : (n.kind = 1) = False := by simp [k]
 have d2 : (n.kind = 2) = False := by simp [k]
 have d3 : (n.kind = 3) = False := by simp [k]
 have d4 : (n.kind = 4) = False := by simp [k]
 have d5 : (n.kind = 5) = False := by simp [k]
 have d6 : (n.kind = 6) = False := by simp [k]
 have d7 : (n.kind = 7) = False := by simp [k]
 have d8 : (n.kind = 8) = False := by simp [k]
 have d9 : (n.kind = 9) = False := by simp [k]
 have d10 : (n.kind = 10) = False := by simp [k]
 have d11 : (n.kind = 11) = False := by simp [k]
 have d12 : (n.kind = 12) = True := by simp [k]
 have d13 : (n.kind = 13) = False := by simp [k]
 have d14 : (n.kind = 14) = False := by simp [k]
 have d15 : (n.kind = 15) = False := by simp [k]
 have d16 : (n.kind = 16) = False := by simp [k]
 simp [C_ref04_term,pa,pb,pc,d0,d1,d2,d3,d4,d5,d6,d7,d8,d9,d10,d11,d12,d13,d14,d15,d16,loadC,la,lb,lc,e0,e1,e2,q1,q2,q3,q4,q5,hset]
 clear k
 all_goals skip
 repeat' (first | (apply guardP_intro <;> intro hg <;> (try simp at hg) <;> simp [*]) | (apply iteP_intro <;> intro hg <;> (try simp at hg) <;> simp [*]))
end
end Go.Proofs.Eng
namespace Go.Proofs.Eng
open Go
def caseE (n : Nd) : Bool := decide (n.name = []) && (decide (n.int = 0) && (decide (n.bits = 0) && (decide (n.types = []) && (decide ((n.names.length : Int) % 2 = 0) && ((decide ((n.kids.length : Int) - (evens n.names).length = 1) || decide ((n.kids.length : Int) - (evens n.names).length = 2)) && onceB (evens n.names))))))
def caseB (n : Nd) : Bool := ((evens n.names).all tagB && (odds n.names).all isNameB) && caseE n
theorem evens_in : ∀ (l : List (List UInt8)) (i : Nat),∀ x ∈ evens (l.take i),x ∈ evens l
 | [],i,x,hx => by simp [evens] at hx
 | a :: l,0,x,hx => by simp [evens] at hx
 | [a],i + 1,x,hx => by simpa [evens] using hx
 | a :: b :: l,1,x,hx => by simp [evens] at hx ⊢; exact .inl hx
 | a :: b :: l,i + 2,x,hx => by
  simp [evens] at hx ⊢
  rcases hx with hx | hx
  ·exact .inl hx
  ·exact .inr (evens_in l i x hx)
theorem odds_in : ∀ (l : List (List UInt8)) (i : Nat),∀ x ∈ odds (l.take i),x ∈ odds l
 | [],i,x,hx => by simp [odds] at hx
 | a :: l,0,x,hx => by simp [odds] at hx
 | [a],i + 1,x,hx => by simp [odds] at hx
 | a :: b :: l,1,x,hx => by simp [odds] at hx
 | a :: b :: l,i + 2,x,hx => by
  simp [odds] at hx ⊢
  rcases hx with hx | hx
  ·exact .inl hx
  ·exact .inr (odds_in l i x hx)
theorem all_of_false {p : List UInt8 -> Bool} {l : List (List UInt8)} {x : List UInt8} (hm : x ∈ l) (h : p x = false) : l.all p = false := by
 rw [Bool.eq_false_iff]
 intro hh
 rw [List.all_eq_true.1 hh x hm] at h
 cases h
section
variable {Γ : Sums} {A : Tab} {N : Nat -> Nat}
set_option maxHeartbeats 1000000 in
theorem case_end (h : RefK Γ A N) {H G : Hp} {n : Nd} {a b c v : AV} {ρ : Rho} (la : asLen a = some n.names.length) (lb : asLen b = some n.kids.length) (lc : asLen c = some n.types.length) (o3 : n.names.length < 2 ^ 30) (o4 : n.kids.length < 2 ^ 30)
  (hv : VS G v (evens n.names)) (r1 : ρ 1 = .ptr H.l.length 0) (r13 : ρ 13 = v)
  (hbox : hget G H.l.length = some (.cells [avInt .i64 n.kind,avInt .i64 n.pos,avStr n.name,avInt .i64 n.int,avInt .u64 n.bits,a,b,c] (t_api_Node N))) (hset : ∀ b : Bool,settle H (avBool b) G = (avBool b,none)) :
  wp (lim Γ A) none (K_ref04_term_1 N) ρ G fun x ρ' G' => x = .ret /\ G' = G /\ ρ' 2 = avBool (caseE n) := by
 have hle := evens_len n.names
 have lv := VS.len hv
 have e1 := ref04_once_call h hv (by omega)
 have e0 : ∀ l : List Int,decide ((l.length : Int) = 0) = decide (l = []) := fun l => by cases l <;> simp; omega
 have hw : IntKind.wrap .i64 ((n.kids.length : Int) - (evens n.names).length) = (n.kids.length : Int) - (evens n.names).length := by rw [wrap64 (by omega) (by omega)]
 have htm : Int.tmod (n.names.length : Int) 2 = (n.names.length : Int) % 2 := Int.tmod_eq_emod_of_nonneg (by omega)
 unfold caseE
 generalize q1 : decide (n.name = []) = b1
 generalize q2 : decide (n.int = 0) = b2
 generalize q3 : decide (n.bits = 0) = b3
 generalize q4 : decide (n.types = []) = b4
 generalize q5 : decide ((n.names.length : Int) % 2 = 0) = b5
 generalize q6 : decide ((n.kids.length : Int) - (evens n.names).length = 1) = b6
 generalize q7 : decide ((n.kids.length : Int) - (evens n.names).length = 2) = b7
 generalize q8 : onceB (evens n.names) = b8 at *
 simp [K_ref04_term_1,r1,r13,hbox,loadC,la,lb,lc,lv,e0,e1,hw,htm,q1,q2,q3,q4,q5,q6,q7,hset]
 repeat' (first | (apply guardP_intro <;> intro hg <;> (try simp at hg) <;> simp [*]) | (apply iteP_intro <;> intro hg <;> (try simp at hg) <;> simp [*]))
set_option maxHeartbeats 1000000 in
theorem ref04_term_case (h : RefK Γ A N) {H : Hp} {x : AV} {n : Nd} (hn : NdR H x n) (ok : n.ok) (k : n.kind = 10) : (lim Γ A).call (f_ref04_term N) [x] H = some (avBool (caseB n),none) := by
 obtain ⟨a,b,c,rfl,va,vb,vc⟩ := hn
 obtain ⟨o1,o2,o3,o4,o5⟩ := ok
 have la := VS.len va
 have lb := VI.len vb
 have lc := VI.len vc
 have pa := va.one
 have pb := vb.one
 have pc := vc.one
 apply h.term.call (by rfl)
 unfold ndV
 have d0 : (n.kind = 0) = False := by simp [k]
 have d1 : (n.kind = 1) = False := by simp [k]
 have d2 : (n.kind = 2) = False := by simp [k]
 have d3 : (n.kind = 3) = False := by simp [k]
 have d4 : (n.kind = 4) = False := by simp [k]
 have d5 : (n.kind = 5) = False := by simp [k]
 have d6 : (n.kind = 6) = False := by simp [k]
 have d7 : (n.kind = 7) = False := by simp [k]
 have d8 : (n.kind = 8) = False := by simp [k]
 have d9 : (n.kind = 9) = False := by simp [k]
 have d10 : (n.kind = 10) = True := by simp [k]
 have d11 : (n.kind = 11) = False := by simp [k]
 have d12 : (n.kind = 12) = False := by simp [k]
 have d13 : (n.kind = 13) = False := by simp [k]
 have d14 : (n.kind = 14) = False := by simp [k]
 have d15 : (n.kind = 15) = False := by simp [k]
 have d16 : (n.kind = 16) = False := by simp [k]
 simp [C_ref04_term,pa,pb,pc,d0,d1,d2,d3,d4,d5,d6,d7,d8,d9,d10,d11,d12,d13,d14,d15,d16,loadC,la,-Int.natCast_add,-halloc_d]
 refine wp_round (fun q ρ G => ∃ (i : Nat) (v : AV) (os : List (Nat × AObj)),ρ 1 = .ptr H.l.length 0 /\ ρ 13 = v /\ ρ 133 = avInt .i64 n.names.length /\ ρ 134 = avInt .i64 i /\ i <= n.names.length /\ Row (t_string N) 1 v ((evens (n.names.take i)).map avStr) os /\
   Loc H G (os ++ [(H.l.length,.cells [avInt .i64 n.kind,avInt .i64 n.pos,avStr n.name,avInt .i64 n.int,avInt .u64 n.bits,a,b,c] (t_api_Node N))]) /\ (evens (n.names.take i)).all tagB = true /\ (odds (n.names.take i)).all isNameB = true /\ q = n.names.length - i) (n := n.names.length)
  ⟨0,_,[(H.l.length + 1,.arr 1 [] (t_string N))],by simp,rfl,by simp,by simp,by omega,by simp [evens]; exact .inr ⟨H.l.length + 1,by simp,rfl⟩,?_,by simp [evens],by simp [odds],rfl⟩ ?_
 ·have hl0 := (((Loc.start H).alloc (.cells [avInt .i64 n.kind,avInt .i64 n.pos,avStr n.name,avInt .i64 n.int,avInt .u64 n.bits,a,b,c] (t_api_Node N))).alloc (.arr 1 [] (t_string N)))
  simpa using hl0
 rintro q ρ G ⟨i,v,os,r1,r13,r133,r134,hi,hv,hL,hE,hO,rfl⟩
 have hbox : hget G H.l.length = some (.cells [avInt .i64 n.kind,avInt .i64 n.pos,avStr n.name,avInt .i64 n.int,avInt .u64 n.bits,a,b,c] (t_api_Node N)) := hL.get (p := (H.l.length,_)) (by simp)
 have hx' : VS G a n.names := va.loc hL
 have hset : ∀ b : Bool,settle H (avBool b) G = (avBool b,none) := fun b => settle_keeps hL.keeps rfl
 by_cases hlt : i < n.names.length
 ·have hlt' : (i : Int) < n.names.length := by omega
  obtain ⟨q,q1,q2⟩ := hx'.at' (k := .i64) (i := (i : Int)) (e := avStr n.names[i]) (by omega) (by simp [List.getElem?_eq_getElem hlt]) rfl rfl rfl
  have hw : IntKind.wrap .i64 ((i : Int) + 1) = ((i + 1 : Nat) : Int) := by rw [wrap64 (by omega) (by omega)]; omega
  have htk : n.names.take (i + 1) = n.names.take i ++ [n.names[i]] := List.take_succ_eq_append_getElem hlt
  have hti : (n.names.take i).length = i := by simp; omega
  have hev := evens_snoc (n.names.take i) n.names[i]
  have hod := odds_snoc (n.names.take i) n.names[i]
  rw [<- htk,hti] at hev hod
  have hle := evens_len (n.names.take i)
  rw [hti] at hle
  have htm : Int.tmod (i : Int) 2 = ((i % 2 : Nat) : Int) := by rfl
  have hlen := o2 _ (List.getElem_mem hlt)
  have eT := fun H => ref04_Tag_call h.tag n.names[i] (by omega) H
  have eN := fun H => ref04_Name_call' h.tag h.word n.names[i] (by omega) H
  have hgi : (n.names.map avStr)[((i : Int)).toNat]? = some (avStr n.names[i]) := by simp [List.getElem?_eq_getElem hlt]
  have hinE : i % 2 = 0 -> n.names[i] ∈ evens n.names := fun hm => evens_in n.names (i + 1) _ (by rw [hev,if_pos hm]; simp)
  have hinO : ¬ i % 2 = 0 -> n.names[i] ∈ odds n.names := fun hm => odds_in n.names (i + 1) _ (by rw [hod,if_neg hm]; simp)
  generalize n.names[i] = s at *
  by_cases hm : i % 2 = 0
  ·rw [if_pos hm] at hev hod
   have hm' : (i : Int) % 2 = 0 := by omega
   have hL1 := (hL.alloc (.arr 1 [avStr s] (t_string N))).perm (os' := os ++ ([(H.l.length,.cells [avInt .i64 n.kind,avInt .i64 n.pos,avStr n.name,avInt .i64 n.int,avInt .u64 n.bits,a,b,c] (t_api_Node N))] ++ [(G.l.length,.arr 1 [avStr s] (t_string N))])) (by rw [<- List.append_assoc]; exact (List.perm_append_singleton _ _).symm)
   obtain ⟨u',G',ou,a1,a2,a3⟩ := hv.append (bytes := 16) (ys := [avStr s]) hL1 (by simp) (by simp [roomMax]; omega) (by simp)
   rw [show (evens (n.names.take i)).map avStr ++ [avStr s] = (evens (n.names.take (i + 1))).map avStr from by rw [hev]; simp] at a2
   have a4 : Loc H G' (ou ++ [(H.l.length,.cells [avInt .i64 n.kind,avInt .i64 n.pos,avStr n.name,avInt .i64 n.int,avInt .u64 n.bits,a,b,c] (t_api_Node N))]) := a3.sub (by simp)
   have hbox' : hget G' H.l.length = some (.cells [avInt .i64 n.kind,avInt .i64 n.pos,avStr n.name,avInt .i64 n.int,avInt .u64 n.bits,a,b,c] (t_api_Node N)) := a4.get (p := (H.l.length,_)) (by simp)
   have hx2 : VS G' a n.names := va.loc a4
   obtain ⟨q',q1',q2'⟩ := hx2.at' (k := .i64) (i := (i : Int)) (e := avStr s) (by omega) hgi rfl rfl rfl
   obtain rfl : q = q' := by rw [q1] at q1'; simpa using q1'
   have hset' : ∀ b : Bool,settle H (avBool b) G' = (avBool b,none) := fun b => settle_keeps a4.keeps rfl
   rcases ht : tagB s with _ | _
   ·have : caseB n = false := by unfold caseB; rw [all_of_false (hinE hm) ht]; rfl
    rw [ht] at eT
    simp [L_ref04_term_1,r1,r13,r133,r134,hbox,hbox',hlt',loadC,q1,q2,q1',q2',htm,hm,hm',fillA,repl,setFrom,chunk,asElems,a1,eT,this,hset',-halloc_d,-Int.natCast_add]
   ·rw [ht] at eT
    simp [L_ref04_term_1,r1,r13,r133,r134,hbox,hbox',hlt',loadC,q1,q2,q1',q2',htm,hm,hm',fillA,repl,setFrom,chunk,asElems,a1,eT,hw,-halloc_d,-Int.natCast_add]
    exact ⟨n.names.length - (i + 1),by omega,i + 1,rfl,by omega,ou,a2,a4,List.all_eq_true.1 (by rw [hev,List.all_append,hE]; simp [ht]),List.all_eq_true.1 (by rw [hod]; exact hO),rfl⟩
  ·rw [if_neg hm] at hev hod
   have hm' : ¬ (i : Int) % 2 = 0 := by omega
   rcases ht : isNameB s with _ | _
   ·have : caseB n = false := by unfold caseB; rw [all_of_false (hinO hm) ht,Bool.and_false]; rfl
    rw [ht] at eN
    simp [L_ref04_term_1,r1,r13,r133,r134,hbox,hlt',loadC,q1,q2,htm,hm,hm',eN,this,hset,-halloc_d,-Int.natCast_add]
   ·rw [ht] at eN
    simp [L_ref04_term_1,r1,r13,r133,r134,hbox,hlt',loadC,q1,q2,htm,hm,hm',eN,hw,-halloc_d,-Int.natCast_add]
    exact ⟨n.names.length - (i + 1),by omega,i + 1,rfl,by omega,os,by rw [hev]; exact hv,hL,List.all_eq_true.1 (by rw [hev]; exact hE),List.all_eq_true.1 (by rw [hod,List.all_append,hO]; simp [ht]),rfl⟩
 ·have hlt' : ¬ (i : Int) < n.names.length := by omega
  rw [List.take_of_length_le (by omega)] at hv hE hO
  have : caseB n = caseE n := by unfold caseB; rw [hE,hO]; rfl
  rw [this]
  simp [L_ref04_term_1,r1,r13,r133,r134,hlt',-halloc_d]
  refine wp_mono _ (fun x ρ' G' hp => ?_) (case_end h (H := H) (n := n) (v := v) la lb lc (by omega) (by omega) (hv.vw hL) (by simp [r1]) (by simp [r13]) hbox hset)
  obtain ⟨rfl,rfl,e2⟩ := hp
  simp [e2,hset]
end
end Go.Proofs.Eng
namespace Go.Proofs.Eng
open Go
def refTermB (n : Nd) : Bool := if n.kind = 10 then caseB n else if n.kind = 12 then recB n else plainB n
theorem evens_odds {α : Type} : ∀ (l : List α),l.length % 2 = 0 -> (evens l).length = (odds l).length
 | [],_ => rfl
 | [a],h => by simp at h
 | a :: b :: r,h => by simp only [evens,odds,List.length_cons]; rw [evens_odds r (by simp at h; omega)]
theorem len0 {α : Type} (l : List α) : decide ((l.length : Int) = 0) = decide (l = []) := by cases l <;> simp; omega
theorem term_eq (n : Nd) : refTermB n = termB n := by
 have hk : n.kind = 0 \/ n.kind = 1 \/ n.kind = 2 \/ n.kind = 3 \/ n.kind = 4 \/ n.kind = 5 \/ n.kind = 6 \/ n.kind = 7 \/ n.kind = 8 \/ n.kind = 9 \/ n.kind = 10 \/ n.kind = 11 \/ n.kind = 12 \/ n.kind = 13 \/ n.kind = 14 \/ n.kind = 15 \/ n.kind = 16 \/ (n.kind < 0 \/ 16 < n.kind) := by omega
 have i1 : decide (0 <= n.int) = !decide (n.int < 0) := by
  by_cases h : n.int < 0
  ·have : ¬ 0 <= n.int := by omega
   simp [h,this]
  ·have : 0 <= n.int := by omega
   simp [h,this]
 have i2 : (decide (n.int = 0) || decide (n.int = 1)) = (!decide (n.int < 0) && !decide (1 < n.int)) := by
  by_cases h : n.int < 0
  ·have h1 : ¬ n.int = 0 := by omega
   have h2 : ¬ n.int = 1 := by omega
   simp [h,h1,h2]
  ·by_cases h3 : 1 < n.int
   ·have h1 : ¬ n.int = 0 := by omega
    have h2 : ¬ n.int = 1 := by omega
    simp [h,h3,h1,h2]
   ·have : n.int = 0 \/ n.int = 1 := by omega
    rcases this with e | e <;> simp [e]
 unfold refTermB plainB tailB termB namedB fitB
 rcases hk with k | k | k | k | k | k | k | k | k | k | k | k | k | k | k | k | k | k
 ·simp [k,asksB,shapeOf,len0,tagB_tagW,i1,i2]
  try simp [Bool.and_comm,Bool.and_left_comm,Bool.and_assoc]
 ·simp [k,asksB,shapeOf,len0,tagB_tagW,i1,i2]
  rcases Bool.eq_false_or_eq_true (decide (n.int < 0)) with e | e <;> rcases Bool.eq_false_or_eq_true (decide (1 < n.int)) with e' | e' <;> simp [e,e',Bool.and_comm,Bool.and_left_comm,Bool.and_assoc]
 ·simp [k,asksB,shapeOf,len0,tagB_tagW,i1,i2]
  rcases Bool.eq_false_or_eq_true (decide (n.int < 0)) with e | e <;> rcases Bool.eq_false_or_eq_true (decide (1 < n.int)) with e' | e' <;> simp [e,e',Bool.and_comm,Bool.and_left_comm,Bool.and_assoc]
 ·simp [k,asksB,shapeOf,len0,tagB_tagW,i1,i2]
  try simp [Bool.and_comm,Bool.and_left_comm,Bool.and_assoc]
 ·simp [k,asksB,shapeOf,len0,tagB_tagW,i1,i2]
  try simp [Bool.and_comm,Bool.and_left_comm,Bool.and_assoc]
 ·simp [k,asksB,shapeOf,len0,tagB_tagW,i1,i2]
  try simp [Bool.and_comm,Bool.and_left_comm,Bool.and_assoc]
 ·simp [k,asksB,shapeOf,len0,tagB_tagW,i1,i2]
  try simp [Bool.and_comm,Bool.and_left_comm,Bool.and_assoc]
 ·simp [k,asksB,shapeOf,len0,tagB_tagW,i1,i2]
  try simp [Bool.and_comm,Bool.and_left_comm,Bool.and_assoc]
 ·simp [k,asksB,shapeOf,len0,tagB_tagW,i1,i2]
  try simp [Bool.and_comm,Bool.and_left_comm,Bool.and_assoc]
 ·simp [k,asksB,shapeOf,len0,tagB_tagW,i1,i2]
  try simp [Bool.and_comm,Bool.and_left_comm,Bool.and_assoc]
 ·by_cases hm : n.names.length % 2 = 0
  ·have hm' : (n.names.length : Int) % 2 = 0 := by omega
   have he := evens_odds n.names hm
   simp [k,caseB,caseE,shapeOf,len0,tagB_tagW,hm,hm',he]
   have ht : tagB = tagW := funext tagB_tagW
   rw [ht]
   simp [Bool.and_comm,Bool.and_left_comm,Bool.and_assoc]
  ·have hm' : ¬ (n.names.length : Int) % 2 = 0 := by omega
   simp [k,caseB,caseE,shapeOf,hm,hm']
 ·simp [k,asksB,shapeOf,len0,tagB_tagW,i1,i2]
  try simp [Bool.and_comm,Bool.and_left_comm,Bool.and_assoc]
 ·have hc : decide ((n.names.length : Int) = n.kids.length) = decide ((n.kids.length : Int) = n.names.length) := by
   by_cases h : n.names.length = n.kids.length <;> simp [h,eq_comm]
  simp only [k,recB,hc]
  simp [shapeOf,len0]
  simp [Bool.and_comm,Bool.and_left_comm,Bool.and_assoc]
 ·simp [k,asksB,shapeOf,len0,tagB_tagW,i1,i2]
  try simp [Bool.and_comm,Bool.and_left_comm,Bool.and_assoc]
 ·simp [k,asksB,shapeOf,len0,tagB_tagW,i1,i2]
  try simp [Bool.and_comm,Bool.and_left_comm,Bool.and_assoc]
 ·simp [k,asksB,shapeOf,len0,tagB_tagW,i1,i2]
  try simp [Bool.and_comm,Bool.and_left_comm,Bool.and_assoc]
 ·simp [k,asksB,shapeOf,len0,tagB_tagW,i1,i2]
  try simp [Bool.and_comm,Bool.and_left_comm,Bool.and_assoc]
 ·have d0 : ¬ n.kind = 0 := by omega
  have d1 : ¬ n.kind = 1 := by omega
  have d2 : ¬ n.kind = 2 := by omega
  have d3 : ¬ n.kind = 3 := by omega
  have d4 : ¬ n.kind = 4 := by omega
  have d5 : ¬ n.kind = 5 := by omega
  have d6 : ¬ n.kind = 6 := by omega
  have d7 : ¬ n.kind = 7 := by omega
  have d8 : ¬ n.kind = 8 := by omega
  have d9 : ¬ n.kind = 9 := by omega
  have d10 : ¬ n.kind = 10 := by omega
  have d11 : ¬ n.kind = 11 := by omega
  have d12 : ¬ n.kind = 12 := by omega
  have d13 : ¬ n.kind = 13 := by omega
  have d14 : ¬ n.kind = 14 := by omega
  have d15 : ¬ n.kind = 15 := by omega
  have d16 : ¬ n.kind = 16 := by omega
  simp [shapeOf,d0,d1,d2,d3,d4,d5,d6,d7,d8,d9,d10,d11,d12,d13,d14,d15,d16]
end Go.Proofs.Eng
namespace Go.Proofs.Eng
open Go
def refTypB (n : Ty) : Bool :=
 if 0 <= n.kind /\ n.kind <= 6 then decide (n.name = []) && (!n.opn && (decide (n.names = []) && decide (n.kids = [])))
 else if n.kind = 7 then decide (n.name = []) && (!n.opn && (decide (n.names = []) && decide ((n.kids.length : Int) = 2)))
 else if n.kind = 8 then decide (n.name = []) && (!n.opn && (n.names.all isNameB && (onceB n.names && decide ((n.kids.length : Int) = n.names.length))))
 else if n.kind = 9 then n.names.all tagB && (decide (n.name = []) && (onceB n.names && decide ((n.kids.length : Int) = n.names.length)))
 else if n.kind = 10 then rAliasB n.name && (!n.opn && (decide (n.names = []) && decide (n.kids = [])))
 else false
section
variable {Γ : Sums} {A : Tab} {N : Nat -> Nat}
theorem ref04_term_call (h : RefK Γ A N) {H : Hp} {x : AV} {n : Nd} (hn : NdR H x n) (ok : n.ok) (wf : n.wf) : (lim Γ A).call (f_ref04_term N) [x] H = some (avBool (termB n),none) := by
 rw [<- term_eq]
 unfold refTermB
 by_cases k10 : n.kind = 10
 ·rw [if_pos k10]; exact ref04_term_case h hn ok k10
 ·rw [if_neg k10]
  by_cases k12 : n.kind = 12
  ·rw [if_pos k12]; exact ref04_term_record h hn ok k12
  ·rw [if_neg k12]; exact ref04_term_plain h hn ok wf k10 k12
set_option maxHeartbeats 4000000 in
theorem ref04_typ_call' (h : RefK Γ A N) {H : Hp} {x : AV} {n : Ty} (hn : TyR H x n) (ok : n.ok) : (lim Γ A).call (f_ref04_typ N) [x] H = some (avBool (refTypB n),none) := by
 obtain ⟨a,b,rfl,va,vb⟩ := hn
 obtain ⟨o1,o2,o3,o4⟩ := ok
 have la := VS.len va
 have lb := VI.len vb
 have pa := va.one
 have pb := vb.one
 have hset : ∀ (b : Bool) (o : AObj),settle H (avBool b) (halloc { l := H.l,d := none } o) = (avBool b,none) := fun b o => by simp [settle,keeps]
 have va' : ∀ o,VS (halloc { l := H.l,d := none } o) a n.names := fun o => va.keep fun id hid => by rw [hget_halloc,if_neg (by simp; omega)]; rfl
 have e1 := fun o => ref04_names_call h (va' o) (by omega) (fun s hs => by have := o2 s hs; omega)
 have e2 := fun o => ref04_once_call h (va' o) (by omega)
 have e3 := fun H => ref04_Alias_call h n.name (by omega) H
 have e0 : ∀ l : List Int,decide ((l.length : Int) = 0) = decide (l = []) := len0
 have e0' : ∀ l : List (List UInt8),decide ((l.length : Int) = 0) = decide (l = []) := len0
 have hk : n.kind = 0 \/ n.kind = 1 \/ n.kind = 2 \/ n.kind = 3 \/ n.kind = 4 \/ n.kind = 5 \/ n.kind = 6 \/ n.kind = 7 \/ n.kind = 8 \/ n.kind = 9 \/ n.kind = 10 \/ (n.kind < 0 \/ 10 < n.kind) := by omega
 apply h.typ.call (by rfl)
 unfold tyV refTypB
 rcases hk with k | k | k | k | k | k | k | k | k | k | k | k
 ·have d0 : (n.kind = 0) = True := by simp [k]
  have d1 : (n.kind = 1) = False := by simp [k]
  have d2 : (n.kind = 2) = False := by simp [k]
  have d3 : (n.kind = 3) = False := by simp [k]
  have d4 : (n.kind = 4) = False := by simp [k]
  have d5 : (n.kind = 5) = False := by simp [k]
  have d6 : (n.kind = 6) = False := by simp [k]
  have d7 : (n.kind = 7) = False := by simp [k]
  have d8 : (n.kind = 8) = False := by simp [k]
  have d9 : (n.kind = 9) = False := by simp [k]
  have d10 : (n.kind = 10) = False := by simp [k]
  have c06 : (0 <= n.kind /\ n.kind <= 6) = True := by simp [k]
  simp only [c06,d7,d8,d9,d10,if_false,if_true]
  generalize q1 : decide (n.name = []) = b1
  generalize q2 : decide (n.names = []) = b2
  generalize q3 : decide (n.kids = []) = b3
  generalize q4 : decide ((n.kids.length : Int) = 2) = b4
  generalize q5 : decide ((n.kids.length : Int) = n.names.length) = b5
  generalize q6 : n.names.all isNameB = b6 at *
  generalize q7 : onceB n.names = b7 at *
  generalize q8 : rAliasB n.name = b8 at *
  simp [C_ref04_typ,pa,pb,d0,d1,d2,d3,d4,d5,d6,d7,d8,d9,d10,loadC,la,lb,e0,e0',e1,e2,e3,q1,q2,q3,q4,q5,hset]
  clear k
  repeat' (first | (apply guardP_intro <;> intro hg <;> (try simp at hg) <;> simp [*]) | (apply iteP_intro <;> intro hg <;> (try simp at hg) <;> simp [*]))
 ·have d0 : (n.kind = 0) = False := by simp [k]
  have d1 : (n.kind = 1) = True := by simp [k]
  have d2 : (n.kind = 2) = False := by simp [k]
  have d3 : (n.kind = 3) = False := by simp [k]
  have d4 : (n.kind = 4) = False := by simp [k]
  have d5 : (n.kind = 5) = False := by simp [k]
  have d6 : (n.kind = 6) = False := by simp [k]
  have d7 : (n.kind = 7) = False := by simp [k]
  have d8 : (n.kind = 8) = False := by simp [k]
  have d9 : (n.kind = 9) = False := by simp [k]
  have d10 : (n.kind = 10) = False := by simp [k]
  have c06 : (0 <= n.kind /\ n.kind <= 6) = True := by simp [k]
  simp only [c06,d7,d8,d9,d10,if_false,if_true]
  generalize q1 : decide (n.name = []) = b1
  generalize q2 : decide (n.names = []) = b2
  generalize q3 : decide (n.kids = []) = b3
  generalize q4 : decide ((n.kids.length : Int) = 2) = b4
  generalize q5 : decide ((n.kids.length : Int) = n.names.length) = b5
  generalize q6 : n.names.all isNameB = b6 at *
  generalize q7 : onceB n.names = b7 at *
  generalize q8 : rAliasB n.name = b8 at *
  simp [C_ref04_typ,pa,pb,d0,d1,d2,d3,d4,d5,d6,d7,d8,d9,d10,loadC,la,lb,e0,e0',e1,e2,e3,q1,q2,q3,q4,q5,hset]
  clear k
  repeat' (first | (apply guardP_intro <;> intro hg <;> (try simp at hg) <;> simp [*]) | (apply iteP_intro <;> intro hg <;> (try simp at hg) <;> simp [*]))
 ·have d0 : (n.kind = 0) = False := by simp [k]
  have d1 : (n.kind = 1) = False := by simp [k]
  have d2 : (n.kind = 2) = True := by simp [k]
  have d3 : (n.kind = 3) = False := by simp [k]
  have d4 : (n.kind = 4) = False := by simp [k]
  have d5 : (n.kind = 5) = False := by simp [k]
  have d6 : (n.kind = 6) = False := by simp [k]
  have d7 : (n.kind = 7) = False := by simp [k]
  have d8 : (n.kind = 8) = False := by simp [k]
  have d9 : (n.kind = 9) = False := by simp [k]
  have d10 : (n.kind = 10) = False := by simp [k]
  have c06 : (0 <= n.kind /\ n.kind <= 6) = True := by simp [k]
  simp only [c06,d7,d8,d9,d10,if_false,if_true]
  generalize q1 : decide (n.name = []) = b1
  generalize q2 : decide (n.names = []) = b2
  generalize q3 : decide (n.kids = []) = b3
  generalize q4 : decide ((n.kids.length : Int) = 2) = b4
  generalize q5 : decide ((n.kids.length : Int) = n.names.length) = b5
  generalize q6 : n.names.all isNameB = b6 at *
  generalize q7 : onceB n.names = b7 at *
  generalize q8 : rAliasB n.name = b8 at *
  simp [C_ref04_typ,pa,pb,d0,d1,d2,d3,d4,d5,d6,d7,d8,d9,d10,loadC,la,lb,e0,e0',e1,e2,e3,q1,q2,q3,q4,q5,hset]
  clear k
  repeat' (first | (apply guardP_intro <;> intro hg <;> (try simp at hg) <;> simp [*]) | (apply iteP_intro <;> intro hg <;> (try simp at hg) <;> simp [*]))
 ·have d0 : (n.kind = 0) = False := by simp [k]
  have d1 : (n.kind = 1) = False := by simp [k]
  have d2 : (n.kind = 2) = False := by simp [k]
  have d3 : (n.kind = 3) = True := by simp [k]
  have d4 : (n.kind = 4) = False := by simp [k]
  have d5 : (n.kind = 5) = False := by simp [k]
  have d6 : (n.kind = 6) = False := by simp [k]
  have d7 : (n.kind = 7) = False := by simp [k]
  have d8 : (n.kind = 8) = False := by simp [k]
  have d9 : (n.kind = 9) = False := by simp [k]
  have d10 : (n.kind = 10) = False := by simp [k]
  have c06 : (0 <= n.kind /\ n.kind <= 6) = True := by simp [k]
  simp only [c06,d7,d8,d9,d10,if_false,if_true]
  generalize q1 : decide (n.name = []) = b1
  generalize q2 : decide (n.names = []) = b2
  generalize q3 : decide (n.kids = []) = b3
  generalize q4 : decide ((n.kids.length : Int) = 2) = b4
  generalize q5 : decide ((n.kids.length : Int) = n.names.length) = b5
  generalize q6 : n.names.all isNameB = b6 at *
  generalize q7 : onceB n.names = b7 at *
  generalize q8 : rAliasB n.name = b8 at *
  simp [C_ref04_typ,pa,pb,d0,d1,d2,d3,d4,d5,d6,d7,d8,d9,d10,loadC,la,lb,e0,e0',e1,e2,e3,q1,q2,q3,q4,q5,hset]
  clear k
  repeat' (first | (apply guardP_intro <;> intro hg <;> (try simp at hg) <;> simp [*]) | (apply iteP_intro <;> intro hg <;> (try simp at hg) <;> simp [*]))
 ·have d0 : (n.kind = 0) = False := by simp [k]
  have d1 : (n.kind = 1) = False := by simp [k]
  have d2 : (n.kind = 2) = False := by simp [k]
  have d3 : (n.kind = 3) = False := by simp [k]
  have d4 : (n.kind = 4) = True := by simp [k]
  have d5 : (n.kind = 5) = False := by simp [k]
  have d6 : (n.kind = 6) = False := by simp [k]
  have d7 : (n.kind = 7) = False := by simp [k]
  have d8 : (n.kind = 8) = False := by simp [k]
  have d9 : (n.kind = 9) = False := by simp [k]
  have d10 : (n.kind = 10) = False := by simp [k]
  have c06 : (0 <= n.kind /\ n.kind <= 6) = True := by simp [k]
  simp only [c06,d7,d8,d9,d10,if_false,if_true]
  generalize q1 : decide (n.name = []) = b1
  generalize q2 : decide (n.names = []) = b2
  generalize q3 : decide (n.kids = []) = b3
  generalize q4 : decide ((n.kids.length : Int) = 2) = b4
  generalize q5 : decide ((n.kids.length : Int) = n.names.length) = b5
  generalize q6 : n.names.all isNameB = b6 at *
  generalize q7 : onceB n.names = b7 at *
  generalize q8 : rAliasB n.name = b8 at *
  simp [C_ref04_typ,pa,pb,d0,d1,d2,d3,d4,d5,d6,d7,d8,d9,d10,loadC,la,lb,e0,e0',e1,e2,e3,q1,q2,q3,q4,q5,hset]
  clear k
  repeat' (first | (apply guardP_intro <;> intro hg <;> (try simp at hg) <;> simp [*]) | (apply iteP_intro <;> intro hg <;> (try simp at hg) <;> simp [*]))
 ·have d0 : (n.kind = 0) = False := by simp [k]
  have d1 : (n.kind = 1) = False := by simp [k]
  have d2 : (n.kind = 2) = False := by simp [k]
  have d3 : (n.kind = 3) = False := by simp [k]
  have d4 : (n.kind = 4) = False := by simp [k]
  have d5 : (n.kind = 5) = True := by simp [k]
  have d6 : (n.kind = 6) = False := by simp [k]
  have d7 : (n.kind = 7) = False := by simp [k]
  have d8 : (n.kind = 8) = False := by simp [k]
  have d9 : (n.kind = 9) = False := by simp [k]
  have d10 : (n.kind = 10) = False := by simp [k]
  have c06 : (0 <= n.kind /\ n.kind <= 6) = True := by simp [k]
  simp only [c06,d7,d8,d9,d10,if_false,if_true]
  generalize q1 : decide (n.name = []) = b1
  generalize q2 : decide (n.names = []) = b2
  generalize q3 : decide (n.kids = []) = b3
  generalize q4 : decide ((n.kids.length : Int) = 2) = b4
  generalize q5 : decide ((n.kids.length : Int) = n.names.length) = b5
  generalize q6 : n.names.all isNameB = b6 at *
  generalize q7 : onceB n.names = b7 at *
  generalize q8 : rAliasB n.name = b8 at *
  simp [C_ref04_typ,pa,pb,d0,d1,d2,d3,d4,d5,d6,d7,d8,d9,d10,loadC,la,lb,e0,e0',e1,e2,e3,q1,q2,q3,q4,q5,hset]
  clear k
  repeat' (first | (apply guardP_intro <;> intro hg <;> (try simp at hg) <;> simp [*]) | (apply iteP_intro <;> intro hg <;> (try simp at hg) <;> simp [*]))
 ·have d0 : (n.kind = 0) = False := by simp [k]
  have d1 : (n.kind = 1) = False := by simp [k]
  have d2 : (n.kind = 2) = False := by simp [k]
  have d3 : (n.kind = 3) = False := by simp [k]
  have d4 : (n.kind = 4) = False := by simp [k]
  have d5 : (n.kind = 5) = False := by simp [k]
  have d6 : (n.kind = 6) = True := by simp [k]
  have d7 : (n.kind = 7) = False := by simp [k]
  have d8 : (n.kind = 8) = False := by simp [k]
  have d9 : (n.kind = 9) = False := by simp [k]
  have d10 : (n.kind = 10) = False := by simp [k]
  have c06 : (0 <= n.kind /\ n.kind <= 6) = True := by simp [k]
  simp only [c06,d7,d8,d9,d10,if_false,if_true]
  generalize q1 : decide (n.name = []) = b1
  generalize q2 : decide (n.names = []) = b2
  generalize q3 : decide (n.kids = []) = b3
  generalize q4 : decide ((n.kids.length : Int) = 2) = b4
  generalize q5 : decide ((n.kids.length : Int) = n.names.length) = b5
  generalize q6 : n.names.all isNameB = b6 at *
  generalize q7 : onceB n.names = b7 at *
  generalize q8 : rAliasB n.name = b8 at *
  simp [C_ref04_typ,pa,pb,d0,d1,d2,d3,d4,d5,d6,d7,d8,d9,d10,loadC,la,lb,e0,e0',e1,e2,e3,q1,q2,q3,q4,q5,hset]
  clear k
  repeat' (first | (apply guardP_intro <;> intro hg <;> (try simp at hg) <;> simp [*]) | (apply iteP_intro <;> intro hg <;> (try simp at hg) <;> simp [*]))
 ·have d0 : (n.kind = 0) = False := by simp [k]
  have d1 : (n.kind = 1) = False := by simp [k]
  have d2 : (n.kind = 2) = False := by simp [k]
  have d3 : (n.kind = 3) = False := by simp [k]
  have d4 : (n.kind = 4) = False := by simp [k]
  have d5 : (n.kind = 5) = False := by simp [k]
  have d6 : (n.kind = 6) = False := by simp [k]
  have d7 : (n.kind = 7) = True := by simp [k]
  have d8 : (n.kind = 8) = False := by simp [k]
  have d9 : (n.kind = 9) = False := by simp [k]
  have d10 : (n.kind = 10) = False := by simp [k]
  have c06 : (0 <= n.kind /\ n.kind <= 6) = False := by simp [k]
  simp only [c06,d7,d8,d9,d10,if_false,if_true]
  generalize q1 : decide (n.name = []) = b1
  generalize q2 : decide (n.names = []) = b2
  generalize q3 : decide (n.kids = []) = b3
  generalize q4 : decide ((n.kids.length : Int) = 2) = b4
  generalize q5 : decide ((n.kids.length : Int) = n.names.length) = b5
  generalize q6 : n.names.all isNameB = b6 at *
  generalize q7 : onceB n.names = b7 at *
  generalize q8 : rAliasB n.name = b8 at *
  simp [C_ref04_typ,pa,pb,d0,d1,d2,d3,d4,d5,d6,d7,d8,d9,d10,loadC,la,lb,e0,e0',e1,e2,e3,q1,q2,q3,q4,q5,hset]
  clear k
  repeat' (first | (apply guardP_intro <;> intro hg <;> (try simp at hg) <;> simp [*]) | (apply iteP_intro <;> intro hg <;> (try simp at hg) <;> simp [*]))
 ·have d0 : (n.kind = 0) = False := by simp [k]
  have d1 : (n.kind = 1) = False := by simp [k]
  have d2 : (n.kind = 2) = False := by simp [k]
  have d3 : (n.kind = 3) = False := by simp [k]
  have d4 : (n.kind = 4) = False := by simp [k]
  have d5 : (n.kind = 5) = False := by simp [k]
  have d6 : (n.kind = 6) = False := by simp [k]
  have d7 : (n.kind = 7) = False := by simp [k]
  have d8 : (n.kind = 8) = True := by simp [k]
  have d9 : (n.kind = 9) = False := by simp [k]
  have d10 : (n.kind = 10) = False := by simp [k]
  have c06 : (0 <= n.kind /\ n.kind <= 6) = False := by simp [k]
  simp only [c06,d7,d8,d9,d10,if_false,if_true]
  generalize q1 : decide (n.name = []) = b1
  generalize q2 : decide (n.names = []) = b2
  generalize q3 : decide (n.kids = []) = b3
  generalize q4 : decide ((n.kids.length : Int) = 2) = b4
  generalize q5 : decide ((n.kids.length : Int) = n.names.length) = b5
  generalize q6 : n.names.all isNameB = b6 at *
  generalize q7 : onceB n.names = b7 at *
  generalize q8 : rAliasB n.name = b8 at *
  simp [C_ref04_typ,pa,pb,d0,d1,d2,d3,d4,d5,d6,d7,d8,d9,d10,loadC,la,lb,e0,e0',e1,e2,e3,q1,q2,q3,q4,q5,hset]
  clear k
  repeat' (first | (apply guardP_intro <;> intro hg <;> (try simp at hg) <;> simp [*]) | (apply iteP_intro <;> intro hg <;> (try simp at hg) <;> simp [*]))
 ·have d0 : (n.kind = 0) = False := by simp [k]
  have d1 : (n.kind = 1) = False := by simp [k]
  have d2 : (n.kind = 2) = False := by simp [k]
  have d3 : (n.kind = 3) = False := by simp [k]
  have d4 : (n.kind = 4) = False := by simp [k]
  have d5 : (n.kind = 5) = False := by simp [k]
  have d6 : (n.kind = 6) = False := by simp [k]
  have d7 : (n.kind = 7) = False := by simp [k]
  have d8 : (n.kind = 8) = False := by simp [k]
  have d9 : (n.kind = 9) = True := by simp [k]
  have d10 : (n.kind = 10) = False := by simp [k]
  have c06 : (0 <= n.kind /\ n.kind <= 6) = False := by simp [k]
  simp only [c06,d7,d8,d9,if_false,if_true]
  obtain ⟨o,ho⟩ : ∃ o,o = AObj.cells [avInt .i64 n.kind,avInt .i64 n.pos,avStr n.name,a,b,avBool n.opn] (t_api_TypeNode N) := ⟨_,rfl⟩
  simp [C_ref04_typ,pa,pb,d0,d1,d2,d3,d4,d5,d6,d7,d8,d9,d10,loadC,la,-Int.natCast_add,-halloc_d]
  refine wp_round (fun q ρ G => G = halloc { l := H.l,d := none } o /\ ∃ i : Nat,ρ 1 = .ptr H.l.length 0 /\ ρ 89 = a /\ ρ 90 = avInt .i64 n.names.length /\ ρ 91 = avInt .i64 i /\ i <= n.names.length /\ (n.names.take i).all tagB = true /\ q = n.names.length - i) (n := n.names.length) ⟨by rw [ho],0,by simp,by simp,by simp,by simp,by omega,by simp,rfl⟩ ?_
  rintro q ρ G ⟨rfl,i,r1,r89,r90,r91,hi,hA,rfl⟩
  have hbox : hget (halloc { l := H.l,d := none } o) H.l.length = some (.cells [avInt .i64 n.kind,avInt .i64 n.pos,avStr n.name,a,b,avBool n.opn] (t_api_TypeNode N)) := by rw [ho]; simp
  by_cases hlt : i < n.names.length
  ·have hlt' : (i : Int) < n.names.length := by omega
   obtain ⟨q,q1,q2⟩ := (va' o).at' (k := .i64) (i := (i : Int)) (e := avStr n.names[i]) (by omega) (by simp [List.getElem?_eq_getElem hlt]) rfl rfl rfl
   have hw : IntKind.wrap .i64 ((i : Int) + 1) = ((i + 1 : Nat) : Int) := by rw [wrap64 (by omega) (by omega)]; omega
   have hlen := o2 _ (List.getElem_mem hlt)
   have eT := fun H => ref04_Tag_call h.tag n.names[i] (by omega) H
   have ht := all_take hlt hA
   have hf : tagB n.names[i] = false -> n.names.all tagB = false := fun hh => all_false hlt hh
   generalize n.names[i] = s at *
   rcases hb : tagB s with _ | _
   ·rw [hb] at eT
    have hf := hf hb
    simp [L_ref04_typ_1,r1,r89,r90,r91,hlt',q1,q2,eT,hf,hset]
   ·rw [hb] at eT ht
    simp [L_ref04_typ_1,r1,r89,r90,r91,hlt',q1,q2,eT,hw,-Int.natCast_add,-halloc_d]
    exact ⟨n.names.length - (i + 1),by omega,i + 1,rfl,by omega,List.all_eq_true.1 ht,rfl⟩
  ·have hlt' : ¬ (i : Int) < n.names.length := by omega
   have hie : i = n.names.length := by omega
   subst hie
   rw [List.take_length] at hA
   rw [hA]
   generalize q1 : decide (n.name = []) = b1
   generalize q5 : decide ((n.kids.length : Int) = n.names.length) = b5
   generalize q7 : onceB n.names = b7 at *
   simp [L_ref04_typ_1,K_ref04_typ_1,r1,r89,r90,r91,hbox,loadC,la,lb,e2,q1,q5,hset]
   repeat' (first | (apply guardP_intro <;> intro hg <;> (try simp at hg) <;> simp [*]) | (apply iteP_intro <;> intro hg <;> (try simp at hg) <;> simp [*]))
 ·have d0 : (n.kind = 0) = False := by simp [k]
  have d1 : (n.kind = 1) = False := by simp [k]
  have d2 : (n.kind = 2) = False := by simp [k]
  have d3 : (n.kind = 3) = False := by simp [k]
  have d4 : (n.kind = 4) = False := by simp [k]
  have d5 : (n.kind = 5) = False := by simp [k]
  have d6 : (n.kind = 6) = False := by simp [k]
  have d7 : (n.kind = 7) = False := by simp [k]
  have d8 : (n.kind = 8) = False := by simp [k]
  have d9 : (n.kind = 9) = False := by simp [k]
  have d10 : (n.kind = 10) = True := by simp [k]
  have c06 : (0 <= n.kind /\ n.kind <= 6) = False := by simp [k]
  simp only [c06,d7,d8,d9,d10,if_false,if_true]
  generalize q1 : decide (n.name = []) = b1
  generalize q2 : decide (n.names = []) = b2
  generalize q3 : decide (n.kids = []) = b3
  generalize q4 : decide ((n.kids.length : Int) = 2) = b4
  generalize q5 : decide ((n.kids.length : Int) = n.names.length) = b5
  generalize q6 : n.names.all isNameB = b6 at *
  generalize q7 : onceB n.names = b7 at *
  generalize q8 : rAliasB n.name = b8 at *
  simp [C_ref04_typ,pa,pb,d0,d1,d2,d3,d4,d5,d6,d7,d8,d9,d10,loadC,la,lb,e0,e0',e1,e2,e3,q1,q2,q3,q4,q5,hset]
  clear k
  repeat' (first | (apply guardP_intro <;> intro hg <;> (try simp at hg) <;> simp [*]) | (apply iteP_intro <;> intro hg <;> (try simp at hg) <;> simp [*]))
 ·have d0 : (n.kind = 0) = False := by simp; omega
  have d1 : (n.kind = 1) = False := by simp; omega
  have d2 : (n.kind = 2) = False := by simp; omega
  have d3 : (n.kind = 3) = False := by simp; omega
  have d4 : (n.kind = 4) = False := by simp; omega
  have d5 : (n.kind = 5) = False := by simp; omega
  have d6 : (n.kind = 6) = False := by simp; omega
  have d7 : (n.kind = 7) = False := by simp; omega
  have d8 : (n.kind = 8) = False := by simp; omega
  have d9 : (n.kind = 9) = False := by simp; omega
  have d10 : (n.kind = 10) = False := by simp; omega
  have c06 : (0 <= n.kind /\ n.kind <= 6) = False := by simp; omega
  simp [C_ref04_typ,K_ref04_typ_2,pa,pb,d0,d1,d2,d3,d4,d5,d6,d7,d8,d9,d10,c06,loadC,hset]
end
theorem typ_eq {n : Ty} (hl : n.name.length <= 1048576) : refTypB n = typB n := by
 unfold refTypB typB
 have hal := alias_eq hl
 have hs : decide (n.names.length + n.kids.length = 0) = (decide (n.names = []) && decide (n.kids = [])) := by
  cases n.names <;> cases n.kids <;> simp
 by_cases c : 0 <= n.kind /\ n.kind <= 6
 ·have d7 : ¬ n.kind = 7 := by omega
  have d8 : ¬ n.kind = 8 := by omega
  have d9 : ¬ n.kind = 9 := by omega
  have d10 : ¬ n.kind = 10 := by omega
  rw [if_pos c]
  simp only [d7,d8,d9,d10,c.1,c.2,hs,decide_false,decide_true,Bool.not_false,Bool.and_true,Bool.true_and,if_false]
  cases n.opn <;> simp
 ·rw [if_neg c]
  by_cases d7 : n.kind = 7
  ·simp only [d7,if_true]
   cases n.opn <;> simp [Bool.and_assoc]
  ·simp only [d7,if_false]
   by_cases d8 : n.kind = 8
   ·have hc : decide ((n.names.length : Int) = n.kids.length) = decide ((n.kids.length : Int) = n.names.length) := by
     by_cases h : n.names.length = n.kids.length <;> simp [h,eq_comm]
    simp only [d8,if_true,hc]
    cases n.opn <;> simp [Bool.and_comm,Bool.and_left_comm,Bool.and_assoc]
   ·simp only [d8,if_false]
    by_cases d9 : n.kind = 9
    ·have hc : decide ((n.names.length : Int) = n.kids.length) = decide ((n.kids.length : Int) = n.names.length) := by
      by_cases h : n.names.length = n.kids.length <;> simp [h,eq_comm]
     have ht : tagB = tagW := funext tagB_tagW
     simp only [d9,if_true,hc,ht]
     cases n.opn <;> simp [Bool.and_comm,Bool.and_left_comm,Bool.and_assoc]
    ·simp only [d9,if_false]
     by_cases d10 : n.kind = 10
     ·simp only [d10,if_true,hs,hal]
      cases n.opn <;> simp
     ·have hz : (decide (0 <= n.kind) && decide (n.kind <= 6)) = false := by
       rw [Bool.eq_false_iff]
       intro hh
       simp only [Bool.and_eq_true,decide_eq_true_eq] at hh
       exact c hh
      simp only [d10,if_false,hz,Bool.false_and]
      cases n.opn <;> simp
section
variable {Γ : Sums} {A : Tab} {N : Nat -> Nat}
theorem ref04_typ_call (h : RefK Γ A N) {H : Hp} {x : AV} {n : Ty} (hn : TyR H x n) (ok : n.ok) (hl : n.name.length <= 1048576) : (lim Γ A).call (f_ref04_typ N) [x] H = some (avBool (typB n),none) := by
 rw [<- typ_eq hl]
 exact ref04_typ_call' h hn ok
end
end Go.Proofs.Eng
namespace Go.Proofs.Eng
open Go
theorem one_gc' {x : AV} (h : x.one = true) : x.good = true /\ x.cells = [x] := by
 cases x <;> first | exact ⟨h,rfl⟩ | (simp [AV.one] at h)
def useK (ct : List Int) (k : Int) : List Int := if 0 <= k /\ k < ct.length then ct.modify k.toNat bump else ct
def useR (ct : List Int) (ks : List Int) : List Int := ks.foldl useK ct
def usesS (n : Nat) (rs : List (List Int)) : List Int := rs.foldl useR (List.replicate n 0)
theorem useK_len (ct : List Int) (k : Int) : (useK ct k).length = ct.length := by unfold useK; split <;> simp
theorem useR_len : ∀ (ks ct : List Int),(useR ct ks).length = ct.length
 | [],ct => rfl
 | k :: r,ct => by show (useR (useK ct k) r).length = _; rw [useR_len r,useK_len]
theorem usesF_len : ∀ (rs : List (List Int)) (ct : List Int),(rs.foldl useR ct).length = ct.length
 | [],ct => rfl
 | r :: rs,ct => by rw [List.foldl_cons,usesF_len rs,useR_len]
theorem fold_take {α β : Type} (f : β -> α -> β) (b : β) (l : List α) {i : Nat} (h : i < l.length) : (l.take (i + 1)).foldl f b = f ((l.take i).foldl f b) l[i] := by
 rw [List.take_succ_eq_append_getElem h,List.foldl_append]; rfl
def RowsI (H : Hp) (x : AV) (rs : List (List Int)) : Prop := ∃ xs,Vw H 1 x xs /\ xs.length = rs.length /\ ∀ (i : Nat) (y : AV) (r : List Int),xs[i]? = some y -> rs[i]? = some r -> VI H y r
section
variable {Γ : Sums} {A : Tab} {N : Nat -> Nat}
theorem ref04_uses_call (h : RefK Γ A N) {H : Hp} {x : AV} {rs : List (List Int)} {n : Nat} (hx : RowsI H x rs) (hn : n < 2 ^ 30) (hl : rs.length < 2 ^ 40) (hr : ∀ r ∈ rs,r.length < 2 ^ 40) :
  ∃ g,(lim Γ A).call (f_ref04_uses N) [avInt .i64 n,x] H = some (.ra 1 H.l.length 0 n,some g) /\ Mut H g [] /\ hget g H.l.length = some (.arr 1 ((usesS n rs).map (avInt .i64)) (t_int N)) := by
 obtain ⟨R,hR⟩ : ∃ R : AV × Option Hp -> Prop,R = fun r => ∃ g,r = (.ra 1 H.l.length 0 n,some g) /\ Mut H g [] /\ hget g H.l.length = some (.arr 1 ((usesS n rs).map (avInt .i64)) (t_int N)) := ⟨_,rfl⟩
 suffices ∃ r,(lim Γ A).call (f_ref04_uses N) [avInt .i64 n,x] H = some r /\ R r by
  obtain ⟨r,e,hr⟩ := this
  rw [hR] at hr
  obtain ⟨g,rfl,h1⟩ := hr
  exact ⟨g,e,h1⟩
 obtain ⟨xs,x1,x2,x3⟩ := hx
 have hlen := x1.len
 rw [x2] at hlen
 have hroom : n * 8 <= roomMax := by unfold roomMax; omega
 have hL0 := (Loc.start H).alloc (.arr 1 (List.replicate n (avInt .i64 0)) (t_int N))
 apply h.uses.callP (by rfl)
 simp [C_ref04_uses,hlen,hroom,-Int.natCast_add,-halloc_d]
 refine wp_round (fun q ρ G => ∃ i : Nat,ρ 0 = avInt .i64 n /\ ρ 5 = .ra 1 H.l.length 0 n /\ ρ 12 = x /\ ρ 13 = avInt .i64 rs.length /\ ρ 14 = avInt .i64 i /\ i <= rs.length /\
   Loc H G [(H.l.length,.arr 1 (((rs.take i).foldl useR (List.replicate n 0)).map (avInt .i64)) (t_int N))] /\ q = rs.length - i) (n := rs.length)
  ⟨0,by simp,by simp,by simp,by simp,by simp,by omega,by simpa using hL0,rfl⟩ ?_
 rintro q ρ G ⟨i,r0,r5,r12,r13,r14,hi,hL,rfl⟩
 by_cases hlt : i < rs.length
 ·have hlt' : (i : Int) < rs.length := by omega
  have x1' : Vw G 1 x xs := x1.loc hL
  obtain ⟨y,hy⟩ : ∃ y,xs[i]? = some y := ⟨xs[i]'(by omega),List.getElem?_eq_getElem (by omega)⟩
  have hrow := x3 i y rs[i] hy (List.getElem?_eq_getElem hlt)
  have hy1 := hrow.one
  obtain ⟨z1,z2⟩ := one_gc' hy1
  obtain ⟨p,p1,p2⟩ := x1'.at' (k := .i64) (i := (i : Int)) (e := y) (by omega) (by simpa using hy) z1 rfl z2
  have hly := VI.len hrow
  have hrl := hr _ (List.getElem_mem hlt)
  have hft := fold_take useR (List.replicate n 0) rs hlt
  have hw : IntKind.wrap .i64 ((i : Int) + 1) = ((i + 1 : Nat) : Int) := by rw [wrap64 (by omega) (by omega)]; omega
  generalize rs[i] = row at *
  obtain ⟨ct,hct⟩ : ∃ ct,ct = (rs.take i).foldl useR (List.replicate n 0) := ⟨_,rfl⟩
  rw [<- hct] at hL hft
  have hcl : ct.length = n := by rw [hct,usesF_len]; simp
  simp [L_ref04_uses_1,r0,r5,r12,r13,r14,hlt',p1,p2,hly,-Int.natCast_add,-halloc_d]
  refine wp_round (fun q ρ G => ∃ j : Nat,ρ 0 = avInt .i64 n /\ ρ 5 = .ra 1 H.l.length 0 n /\ ρ 12 = x /\ ρ 13 = avInt .i64 rs.length /\ ρ 14 = avInt .i64 i /\ ρ 18 = y /\ ρ 19 = avInt .i64 row.length /\ ρ 20 = avInt .i64 j /\ j <= row.length /\
   Loc H G [(H.l.length,.arr 1 (((row.take j).foldl useK ct).map (avInt .i64)) (t_int N))] /\ q = row.length - j) (n := row.length)
   ⟨0,by simp [r0],by simp [r5],by simp [r12],by simp [r13],by simp [r14],by simp,by simp,by simp,by omega,by simpa using hL,rfl⟩ ?_
  rintro q ρ G ⟨j,s0,s5,s12,s13,s14,s18,s19,s20,hj,hL,rfl⟩
  by_cases hjl : j < row.length
  ·have hjl' : (j : Int) < row.length := by omega
   have hrow' : VI G y row := hrow.loc hL
   obtain ⟨q,q1,q2⟩ := hrow'.at' (k := .i64) (i := (j : Int)) (e := avInt .i64 row[j]) (by omega) (by simp [List.getElem?_eq_getElem hjl]) rfl rfl rfl
   have hw2 : IntKind.wrap .i64 ((j : Int) + 1) = ((j + 1 : Nat) : Int) := by rw [wrap64 (by omega) (by omega)]; omega
   have hft2 := fold_take useK ct row hjl
   generalize row[j] = k at *
   obtain ⟨c2,hc2⟩ : ∃ c2,c2 = (row.take j).foldl useK ct := ⟨_,rfl⟩
   rw [<- hc2] at hL hft2
   have hc2l : c2.length = n := by
    have := useR_len (row.take j) ct
    rw [hc2,<- hcl]; exact this
   have hg : hget G H.l.length = some (.arr 1 (c2.map (avInt .i64)) (t_int N)) := hL.head
   by_cases hk : 0 <= k /\ k < n
   ·have hkn : k.toNat < c2.length := by omega
    have g1 := ra_iaddr (id := H.l.length) (n := n) (k := .i64) hk.1 hk.2
    have g2 := ep_load hg hkn
    have g3 := ep_store hg hkn (bump c2[k.toNat])
    have hu : useK c2 k = c2.set k.toNat (bump c2[k.toNat]) := by
     unfold useK
     rw [if_pos ⟨hk.1,by omega⟩]
     apply List.ext_getElem?
     intro y
     simp only [List.getElem?_modify,List.getElem?_set]
     by_cases hy : k.toNat = y
     ·subst hy; simp [hkn]
     ·simp [hy]
    rw [<- hu,<- hft2] at g3
    have hL2 := hL.set (.arr 1 (((row.take (j + 1)).foldl useK ct).map (avInt .i64)) (t_int N))
    have g3' : astore G 1 (.ep H.l.length k.toNat 0) (avInt .i64 (IntKind.wrap .i64 (c2[k.toNat] + 1))) = some _ := g3
    simp [L_ref04_uses_2,s0,s5,s12,s13,s14,s18,s19,s20,hjl',q1,q2,hk.1,hk.2,g1,g2,g3',hw2,-Int.natCast_add,-halloc_d,-hset_d]
    exact ⟨row.length - (j + 1),by omega,j + 1,rfl,by omega,hL2,rfl⟩
   ·have hf : useK c2 k = c2 := by
     unfold useK
     rw [if_neg (by rw [hc2l]; exact hk)]
    rw [hf] at hft2
    by_cases h0 : 0 <= k
    ·have h1 : ¬ k < n := fun h1 => hk ⟨h0,h1⟩
     simp [L_ref04_uses_2,s0,s5,s12,s13,s14,s18,s19,s20,hjl',q1,q2,h0,h1,hw2,-Int.natCast_add,-halloc_d,-hset_d]
     exact ⟨row.length - (j + 1),by omega,j + 1,rfl,by omega,by rw [hft2]; exact hL,rfl⟩
    ·simp [L_ref04_uses_2,s0,s5,s12,s13,s14,s18,s19,s20,hjl',q1,q2,h0,hw2,-Int.natCast_add,-halloc_d,-hset_d]
     exact ⟨row.length - (j + 1),by omega,j + 1,rfl,by omega,by rw [hft2]; exact hL,rfl⟩
  ·have hjl' : ¬ (j : Int) < row.length := by omega
   have hje : j = row.length := by omega
   subst hje
   rw [List.take_length] at hL
   simp [L_ref04_uses_2,K_ref04_uses_1,s0,s5,s12,s13,s14,s18,s19,s20,hw,-Int.natCast_add,-halloc_d,-hset_d]
   exact ⟨rs.length - (i + 1),by omega,i + 1,rfl,by omega,by rw [hft]; exact hL,rfl⟩
 ·have hlt' : ¬ (i : Int) < rs.length := by omega
  have hie : i = rs.length := by omega
  subst hie
  rw [List.take_length] at hL
  simp [L_ref04_uses_1,K_ref04_uses_2,r0,r5,r12,r13,r14,-Int.natCast_add,-halloc_d,-hset_d]
  rw [settle_some (by simp [AV.under]),hR]
  exact ⟨_,rfl,hL.toMut.settled,hL.head⟩
end
end Go.Proofs.Eng
namespace Go.Proofs.Eng
open Go
def Elem (H : Hp) (rest : List (Nat × AObj)) (y : AV) (r : List Int) : Prop := VI H y r \/ ∃ id k t,y = .ra 1 id 0 1 /\ r = [k] /\ (id,AObj.arr 1 [avInt .i64 k] t) ∈ rest
theorem Elem.mono {H : Hp} {rest rest' : List (Nat × AObj)} {y : AV} {r : List Int} (h : Elem H rest y r) (hs : ∀ q ∈ rest,q ∈ rest') : Elem H rest' y r := by
 rcases h with h | ⟨id,k,t,e1,e2,hm⟩
 ·exact .inl h
 ·exact .inr ⟨id,k,t,e1,e2,hs _ hm⟩
theorem Elem.vi {H G : Hp} {rest all : List (Nat × AObj)} {y : AV} {r : List Int} (h : Elem H rest y r) (hL : Loc H G all) (hs : ∀ q ∈ rest,q ∈ all) : VI G y r := by
 rcases h with h | ⟨id,k,t,rfl,rfl,hm⟩
 ·exact Vw.loc h hL
 ·have := hL.get (hs _ hm)
  exact .inr ⟨id,0,t,_,rfl,this,by simp,by simp⟩
structure Els (H : Hp) (rest : List (Nat × AObj)) (es : List AV) (rs : List (List Int)) : Prop where
 len : es.length = rs.length
 el : ∀ (i : Nat) (y : AV) (r : List Int),es[i]? = some y -> rs[i]? = some r -> Elem H rest y r
theorem Els.mono {H : Hp} {rest rest' : List (Nat × AObj)} {es : List AV} {rs : List (List Int)} (h : Els H rest es rs) (hs : ∀ q ∈ rest,q ∈ rest') : Els H rest' es rs := ⟨h.len,fun i y r h1 h2 => (h.el i y r h1 h2).mono hs⟩
theorem Els.snoc {H : Hp} {rest : List (Nat × AObj)} {es : List AV} {rs : List (List Int)} {y : AV} {r : List Int} (h : Els H rest es rs) (hy : Elem H rest y r) : Els H rest (es ++ [y]) (rs ++ [r]) := by
 refine ⟨by simp [h.len],fun i z s h1 h2 => ?_⟩
 by_cases hi : i < es.length
 ·rw [List.getElem?_append_left hi] at h1
  rw [List.getElem?_append_left (by rw [<- h.len]; exact hi)] at h2
  exact h.el i z s h1 h2
 ·have hlt := (List.getElem?_eq_some_iff.1 h1).1
  have : i = es.length := by simp at hlt; omega
  subst this
  simp at h1
  rw [h.len] at h2
  simp at h2
  subst h1; subst h2
  exact hy
theorem Els.rows {H G : Hp} {rest os r : List (Nat × AObj)} {es : List AV} {rs : List (List Int)} {v : AV} {e : TypeId} (h : Els H rest es rs) (hv : Row e 1 v es os) (hL : Loc H G (os ++ r)) (hs : ∀ q ∈ rest,q ∈ os ++ r) : RowsI G v rs :=
 ⟨es,hv.vw hL,h.len,fun i y r h1 h2 => (h.el i y r h1 h2).vi hL hs⟩
structure RSt (N : Nat -> Nat) (H : Hp) (a b c : AV) (v3 v4 : AV) (G : Hp) (rs3 rs4 : List (List Int)) (X : List (Nat × AObj)) : Prop where
 ex : ∃ es3 os3 es4 os4 rest,(∀ q ∈ X,q ∈ rest) /\ Row (t_sl_int N) 1 v3 es3 os3 /\ Row (t_sl_int N) 1 v4 es4 os4 /\ Loc H G (os3 ++ (os4 ++ rest)) /\ (H.l.length,AObj.cells [a,b,c] (t_api_Tree N)) ∈ rest /\ Els H rest es3 rs3 /\ Els H rest es4 rs4
section
variable {N : Nat -> Nat} {H G : Hp} {a b c v3 v4 : AV} {rs3 rs4 : List (List Int)} {X : List (Nat × AObj)}
theorem RSt.box (h : RSt N H a b c v3 v4 G rs3 rs4 X) : hget G H.l.length = some (.cells [a,b,c] (t_api_Tree N)) := by
 obtain ⟨es3,os3,es4,os4,rest,hX,h1,h2,h3,h4,h5,h6⟩ := h.ex
 exact h3.get (p := (H.l.length,_)) (by simp [h4])
theorem RSt.loc (h : RSt N H a b c v3 v4 G rs3 rs4 X) : Loc H G [] := by
 obtain ⟨es3,os3,es4,os4,rest,hX,h1,h2,h3,h4,h5,h6⟩ := h.ex
 exact h3.sub (List.nil_sublist _)
theorem RSt.alloc (h : RSt N H a b c v3 v4 G rs3 rs4 X) (o : AObj) : RSt N H a b c v3 v4 (halloc G o) rs3 rs4 X := by
 obtain ⟨es3,os3,es4,os4,rest,hX,h1,h2,h3,h4,h5,h6⟩ := h.ex
 exact ⟨es3,os3,es4,os4,rest,hX,h1,h2,(h3.alloc o).sub (List.sublist_cons_self _ _),h4,h5,h6⟩
theorem RSt.cell (h : RSt N H a b c v3 v4 G rs3 rs4 X) (o o' : AObj) : RSt N H a b c v3 v4 (hset (halloc G o) G.l.length (some o')) rs3 rs4 ((G.l.length,o') :: X) := by
 obtain ⟨es3,os3,es4,os4,rest,hX,h1,h2,h3,h4,h5,h6⟩ := h.ex
 have hsub : ∀ q ∈ rest,q ∈ (G.l.length,o') :: rest := fun q hq => List.mem_cons_of_mem _ hq
 refine ⟨es3,os3,es4,os4,(G.l.length,o') :: rest,fun q hq => ?_,h1,h2,((h3.alloc o).set o').perm ?_,hsub _ h4,h5.mono hsub,h6.mono hsub⟩
 ·rcases List.mem_cons.1 hq with rfl | hq
  ·simp
  ·exact hsub _ (hX q hq)
 ·rw [<- List.append_assoc,<- List.append_assoc]
  exact List.perm_middle.symm
theorem RSt.kept (h : RSt N H a b c v3 v4 G rs3 rs4 X) {id : Nat} {o : AObj} (hm : (id,o) ∈ X) : hget G id = some o := by
 obtain ⟨es3,os3,es4,os4,rest,hX,h1,h2,h3,h4,h5,h6⟩ := h.ex
 exact h3.get (p := (id,o)) (by simp [hX _ hm])
theorem RSt.drop (h : RSt N H a b c v3 v4 G rs3 rs4 X) : RSt N H a b c v3 v4 G rs3 rs4 [] := by
 obtain ⟨es3,os3,es4,os4,rest,hX,h1,h2,h3,h4,h5,h6⟩ := h.ex
 exact ⟨es3,os3,es4,os4,rest,by simp,h1,h2,h3,h4,h5,h6⟩
theorem RSt.push3 (h : RSt N H a b c v3 v4 G rs3 rs4 X) {y : AV} {r : List Int} (hy : VI H y r) (hl : rs3.length < 2 ^ 30) :
  ∃ v G',appendOn (halloc G (.arr 1 [y] (t_sl_int N))) (t_sl_int N) 1 24 v3 [y] = some (v,some G') /\ RSt N H a b c v v4 G' (rs3 ++ [r]) rs4 X := by
 obtain ⟨es3,os3,es4,os4,rest,hX,h1,h2,h3,h4,h5,h6⟩ := h.ex
 obtain ⟨g1,g2⟩ := one_gc' hy.one
 have hel := h5.len
 obtain ⟨v,G',os',e1,e2,e3,_⟩ := h1.push2 (e' := t_sl_int N) (bytes := 24) (y := y) h3 (by unfold roomMax; omega) (by simp [g1,g2])
 exact ⟨v,G',e1,⟨_,_,es4,os4,rest,hX,e2,h2,e3,h4,h5.snoc (.inl hy),h6⟩⟩
theorem RSt.push4 (h : RSt N H a b c v3 v4 G rs3 rs4 X) {y : AV} {r : List Int} (hy : VI H y r) (hl : rs4.length < 2 ^ 30) :
  ∃ v G',appendOn (halloc G (.arr 1 [y] (t_sl_int N))) (t_sl_int N) 1 24 v4 [y] = some (v,some G') /\ RSt N H a b c v3 v G' rs3 (rs4 ++ [r]) X := by
 obtain ⟨es3,os3,es4,os4,rest,hX,h1,h2,h3,h4,h5,h6⟩ := h.ex
 obtain ⟨g1,g2⟩ := one_gc' hy.one
 have hel := h6.len
 have h3' : Loc H G (os4 ++ (os3 ++ rest)) := h3.perm (by rw [<- List.append_assoc,<- List.append_assoc]; exact List.Perm.append_right _ List.perm_append_comm)
 obtain ⟨v,G',os',e1,e2,e3,_⟩ := h2.push2 (e' := t_sl_int N) (bytes := 24) (y := y) h3' (by unfold roomMax; omega) (by simp [g1,g2])
 have e3' : Loc H G' (os3 ++ (os' ++ rest)) := e3.perm (by rw [<- List.append_assoc,<- List.append_assoc]; exact List.Perm.append_right _ List.perm_append_comm)
 exact ⟨v,G',e1,⟨es3,os3,_,_,rest,hX,h1,e2,e3',h4,h5,h6.snoc (.inl hy)⟩⟩
theorem RSt.push4n (h : RSt N H a b c v3 v4 G rs3 rs4 X) (k : Int) (t : TypeId) (hl : rs4.length < 2 ^ 30) :
  ∃ v G',appendOn (halloc (halloc G (.arr 1 [avInt .i64 k] t)) (.arr 1 [.ra 1 G.l.length 0 1] (t_sl_int N))) (t_sl_int N) 1 24 v4 [.ra 1 G.l.length 0 1] = some (v,some G') /\ RSt N H a b c v3 v G' rs3 (rs4 ++ [[k]]) X := by
 obtain ⟨es3,os3,es4,os4,rest,hX,h1,h2,h3,h4,h5,h6⟩ := h.ex
 have hel := h6.len
 have hsub : ∀ q ∈ rest,q ∈ (G.l.length,AObj.arr 1 [avInt .i64 k] t) :: rest := fun q hq => List.mem_cons_of_mem _ hq
 have h3a := h3.alloc (.arr 1 [avInt .i64 k] t)
 have h3' : Loc H (halloc G (.arr 1 [avInt .i64 k] t)) (os4 ++ (os3 ++ ((G.l.length,AObj.arr 1 [avInt .i64 k] t) :: rest))) := h3a.perm (by
  have p1 : List.Perm ((G.l.length,AObj.arr 1 [avInt .i64 k] t) :: (os3 ++ (os4 ++ rest))) ((G.l.length,AObj.arr 1 [avInt .i64 k] t) :: (os4 ++ (os3 ++ rest))) := List.Perm.cons _ (by rw [<- List.append_assoc,<- List.append_assoc]; exact List.Perm.append_right _ List.perm_append_comm)
  refine p1.trans ?_
  rw [<- List.append_assoc,<- List.append_assoc]
  exact List.perm_middle.symm)
 obtain ⟨v,G',os',e1,e2,e3,_⟩ := h2.push2 (e' := t_sl_int N) (bytes := 24) (y := .ra 1 G.l.length 0 1) h3' (by unfold roomMax; omega) (by rfl)
 have e3' : Loc H G' (os3 ++ (os' ++ ((G.l.length,AObj.arr 1 [avInt .i64 k] t) :: rest))) := e3.perm (by rw [<- List.append_assoc,<- List.append_assoc]; exact List.Perm.append_right _ List.perm_append_comm)
 exact ⟨v,G',e1,⟨es3,os3,_,_,_,fun q hq => hsub _ (hX q hq),h1,e2,e3',List.mem_cons_of_mem _ h4,h5.mono hsub,(h6.mono hsub).snoc (.inr ⟨_,k,t,rfl,rfl,by simp⟩)⟩⟩
theorem RSt.rows3 (h : RSt N H a b c v3 v4 G rs3 rs4 X) : RowsI G v3 rs3 := by
 obtain ⟨es3,os3,es4,os4,rest,hX,h1,h2,h3,h4,h5,h6⟩ := h.ex
 exact h5.rows h1 h3 (fun q hq => by simp [hq])
theorem RSt.rows4 (h : RSt N H a b c v3 v4 G rs3 rs4 X) : RowsI G v4 rs4 := by
 obtain ⟨es3,os3,es4,os4,rest,hX,h1,h2,h3,h4,h5,h6⟩ := h.ex
 have h3' : Loc H G (os4 ++ (os3 ++ rest)) := h3.perm (by rw [<- List.append_assoc,<- List.append_assoc]; exact List.Perm.append_right _ List.perm_append_comm)
 exact h6.rows h2 h3' (fun q hq => by simp [hq])
end
end Go.Proofs.Eng
namespace Go.Proofs.Eng
open Go
theorem asElems_ra' {H : Hp} {sz id off n : Nat} : asElems H (.ra sz id off n) = (match hget H id with | some (.arr _ es _) => if off + n <= es.length then some ((es.drop off).take n) else none | _ => none) := rfl
def okN (T i : Nat) (n : Nd) : Bool := termB n && (belowB n.kids i && belowB n.types T)
section
variable {Γ : Sums} {A : Tab} {N : Nat -> Nat}
set_option maxHeartbeats 1000000 in
theorem right_loop1 (h : RefK Γ A N) {H : Hp} {a b c : AV} {l : List Nd} {T : Nat} (ra : RowR NdR 8 H a l) (ok : ∀ n ∈ l,n.ok) (wf : ∀ n ∈ l,n.wf) (lb : asLen b = some T) (hl : l.length < 2 ^ 20) {rs3 : List (List Int)} (h3 : rs3.length < 2 ^ 20) {ρ : Rho} {G : Hp}
  (r1 : ρ 1 = .ptr H.l.length 0) (r39 : ρ 39 = a) (r40 : ρ 40 = avInt .i64 l.length) (r41 : ρ 41 = avInt .i64 (0 : Nat)) (hS : RSt N H a b c (ρ 3) (ρ 4) G rs3 [] []) {Q : Post}
  (hF : (∃ (i : Nat) (n : Nd),l[i]? = some n /\ okN T i n = false) -> ∀ ρ' G',Loc H G' [] -> ρ' 2 = avBool false -> Q .ret ρ' G')
  (hD : (∀ (i : Nat) (n : Nd),l[i]? = some n -> okN T i n = true) -> ∀ ρ' G',ρ' 1 = .ptr H.l.length 0 -> RSt N H a b c (ρ' 3) (ρ' 4) G' (rs3 ++ l.map (·.kids)) (l.map (·.types)) [] -> Q (.exit 0) ρ' G') :
  wp (lim Γ A) none (.loop (L_ref04_Right_1 N)) ρ G Q := by
 obtain ⟨xs,x1,x2,x3⟩ := ra
 refine wp_round (fun q ρ G => ∃ i : Nat,ρ 1 = .ptr H.l.length 0 /\ ρ 39 = a /\ ρ 40 = avInt .i64 l.length /\ ρ 41 = avInt .i64 i /\ i <= l.length /\ RSt N H a b c (ρ 3) (ρ 4) G (rs3 ++ (l.take i).map (·.kids)) ((l.take i).map (·.types)) [] /\
   (∀ (j : Nat) (n : Nd),j < i -> l[j]? = some n -> okN T j n = true) /\ q = l.length - i) (n := l.length)
  ⟨0,r1,r39,r40,r41,by omega,by simpa using hS,by omega,rfl⟩ ?_
 rintro q ρ G ⟨i,r1,r39,r40,r41,hi,hS,hok,rfl⟩
 by_cases hlt : i < l.length
 ·have hlt' : (i : Int) < l.length := by omega
  have hw : IntKind.wrap .i64 ((i : Int) + 1) = ((i + 1 : Nat) : Int) := by rw [wrap64 (by omega) (by omega)]; omega
  have hgi : l[i]? = some l[i] := List.getElem?_eq_getElem hlt
  have htk : l.take (i + 1) = l.take i ++ [l[i]] := List.take_succ_eq_append_getElem hlt
  have okn := ok _ (List.getElem_mem hlt)
  have wfn := wf _ (List.getElem_mem hlt)
  obtain ⟨y,hy⟩ : ∃ y,xs[i]? = some y := ⟨xs[i]'(by omega),List.getElem?_eq_getElem (by omega)⟩
  have hnd := x3 i y l[i] hy hgi
  generalize l[i] = n at *
  obtain ⟨na,nb,nc,rfl,v1,v2,v3⟩ := id hnd
  have o1 := Vw.one v1
  have o2 := Vw.one v2
  have o3 := Vw.one v3
  have hG := hS.loc
  have x1' : Vw G 8 a xs := x1.loc hG
  have hall : ([avInt .i64 n.kind,avInt .i64 n.pos,avStr n.name,avInt .i64 n.int,avInt .u64 n.bits,na,nb,nc] : List AV).all AV.one = true := by
   simp only [List.all_cons,List.all_nil,o1,o2,o3,Bool.and_true]; rfl
  obtain ⟨p,p1,p2⟩ := x1'.ats (k := .i64) hy rfl hall
  obtain ⟨G1,hG1⟩ : ∃ G1,G1 = hset (halloc G (.cells [.lit (.int .i64 0),.lit (.int .i64 0),.lit (.string (mkS [])),.lit (.int .i64 0),.lit (.int .u64 0),.lit (.slice none 0 0),.lit (.slice none 0 0),.lit (.slice none 0 0)] (t_api_Node N))) G.l.length (some (.cells [avInt .i64 n.kind,avInt .i64 n.pos,avStr n.name,avInt .i64 n.int,avInt .u64 n.bits,na,nb,nc] (t_api_Node N))) := ⟨_,rfl⟩
  have hS1 : RSt N H a b c (ρ 3) (ρ 4) G1 (rs3 ++ (l.take i).map (·.kids)) ((l.take i).map (·.types)) [(G.l.length,.cells [avInt .i64 n.kind,avInt .i64 n.pos,avStr n.name,avInt .i64 n.int,avInt .u64 n.bits,na,nb,nc] (t_api_Node N))] := by rw [hG1]; exact hS.cell _ _
  have hb1 := hS1.box
  have hb6 : hget G1 G.l.length = some (.cells [avInt .i64 n.kind,avInt .i64 n.pos,avStr n.name,avInt .i64 n.int,avInt .u64 n.bits,na,nb,nc] (t_api_Node N)) := by rw [hG1]; simp
  have hk1 := hS1.loc.kp
  have e1 := ref04_term_call h (hk1.nd hnd) okn wfn
  have e2 := ref04_below_call h.below (n := (i : Int)) (hk1.vw v2) (by have := okn.2.2.2.1; omega)
  have e3 := ref04_below_call h.below (n := (T : Int)) (hk1.vw v3) (by have := okn.2.2.2.2; omega)
  have hbad : okN T i n = false -> ∀ ρ',ρ' 2 = avBool false -> Q .ret ρ' G1 := fun hh ρ' r2 => hF ⟨i,n,hgi,hh⟩ ρ' G1 hS1.loc r2
  unfold ndV at e1
  rcases c1 : termB n with _ | _
  ·rw [c1] at e1
   have hb := hbad (by unfold okN; rw [c1]; rfl)
   simp [L_ref04_Right_1,r1,r39,r40,r41,hlt',p1,p2,setFrom,o1,o2,o3,<- hG1,hb6,hb1,e1,loadC,lb,-halloc_d,-hset_d]
   exact hb _ (by simp)
  rcases c2 : belowB n.kids i with _ | _
  ·rw [c1] at e1
   rw [c2] at e2
   have hb := hbad (by unfold okN; rw [c1,c2]; rfl)
   simp [L_ref04_Right_1,r1,r39,r40,r41,hlt',p1,p2,setFrom,o1,o2,o3,<- hG1,hb6,hb1,loadC,lb,e1,e2,-halloc_d,-hset_d]
   exact hb _ (by simp)
  rcases c3 : belowB n.types T with _ | _
  ·rw [c1] at e1
   rw [c2] at e2
   rw [c3] at e3
   have hb := hbad (by unfold okN; rw [c1,c2,c3]; rfl)
   simp [L_ref04_Right_1,r1,r39,r40,r41,hlt',p1,p2,setFrom,o1,o2,o3,<- hG1,hb6,hb1,loadC,lb,e1,e2,e3,-halloc_d,-hset_d]
   exact hb _ (by simp)
  rw [c1] at e1
  rw [c2] at e2
  rw [c3] at e3
  obtain ⟨g2a,g2b⟩ := one_gc' o2
  obtain ⟨g3a,g3b⟩ := one_gc' o3
  obtain ⟨w3,G2,f1,hS2⟩ := hS1.push3 v2 (by simp; omega)
  have hb6' : hget G2 G.l.length = some (.cells [avInt .i64 n.kind,avInt .i64 n.pos,avStr n.name,avInt .i64 n.int,avInt .u64 n.bits,na,nb,nc] (t_api_Node N)) := hS2.kept (by simp)
  obtain ⟨w4,G3,f2,hS3⟩ := hS2.push4 v3 (by simp; omega)
  simp [L_ref04_Right_1,r1,r39,r40,r41,hlt',p1,p2,setFrom,o1,o2,o3,<- hG1,hb6,hb1,loadC,lb,e1,e2,e3,chunk,fillA,repl,asElems_ra',g2a,g2b,g3a,g3b,f1,f2,hb6',hw,-Int.natCast_add,-halloc_d,-hset_d]
  refine ⟨l.length - (i + 1),by omega,i + 1,rfl,by omega,?_,fun j m hj hm => ?_,rfl⟩
  ·have := hS3.drop
   rw [<- List.map_take,<- List.map_take,htk,List.map_append,List.map_append,<- List.append_assoc]
   simpa using this
  ·by_cases hji : j = i
   ·subst hji
    rw [hgi] at hm
    cases hm
    unfold okN
    rw [c1,c2,c3]
    rfl
   ·exact hok j m (by omega) hm
 ·have hlt' : ¬ (i : Int) < l.length := by omega
  have hie : i = l.length := by omega
  subst hie
  rw [List.take_length] at hS
  have hd := hD (fun j n hj => hok j n (List.getElem?_eq_some_iff.1 hj).1 hj)
  simp [L_ref04_Right_1,r1,r39,r40,r41,-Int.natCast_add,-halloc_d,-hset_d]
  exact hd _ _ (by simp [r1]) (by simpa using hS)
end
end Go.Proofs.Eng
namespace Go.Proofs.Eng
open Go
def okTyp (i : Nat) (n : Ty) : Bool := typB n && belowB n.kids i
section
variable {Γ : Sums} {A : Tab} {N : Nat -> Nat}
set_option maxHeartbeats 1000000 in
theorem right_loop2 (h : RefK Γ A N) {H : Hp} {a b c : AV} {l : List Ty} (ra : RowR TyR 6 H b l) (ok : ∀ n ∈ l,n.ok) (wf : ∀ n ∈ l,n.name.length <= 1048576) (hl : l.length < 2 ^ 20) {rs3 rs4 : List (List Int)} (h4 : rs4.length < 2 ^ 20) {ρ : Rho} {G : Hp}
  (r1 : ρ 1 = .ptr H.l.length 0) (r77 : ρ 77 = b) (r78 : ρ 78 = avInt .i64 l.length) (r79 : ρ 79 = avInt .i64 (0 : Nat)) (hS : RSt N H a b c (ρ 3) (ρ 4) G rs3 rs4 []) {Q : Post}
  (hF : (∃ (i : Nat) (n : Ty),l[i]? = some n /\ okTyp i n = false) -> ∀ ρ' G',Loc H G' [] -> ρ' 2 = avBool false -> Q .ret ρ' G')
  (hD : (∀ (i : Nat) (n : Ty),l[i]? = some n -> okTyp i n = true) -> ∀ ρ' G',ρ' 1 = .ptr H.l.length 0 -> RSt N H a b c (ρ' 3) (ρ' 4) G' rs3 (rs4 ++ l.map (·.kids)) [] -> Q (.exit 2) ρ' G') :
  wp (lim Γ A) none (.loop (L_ref04_Right_2 N)) ρ G Q := by
 obtain ⟨xs,x1,x2,x3⟩ := ra
 refine wp_round (fun q ρ G => ∃ i : Nat,ρ 1 = .ptr H.l.length 0 /\ ρ 77 = b /\ ρ 78 = avInt .i64 l.length /\ ρ 79 = avInt .i64 i /\ i <= l.length /\ RSt N H a b c (ρ 3) (ρ 4) G rs3 (rs4 ++ (l.take i).map (·.kids)) [] /\
   (∀ (j : Nat) (n : Ty),j < i -> l[j]? = some n -> okTyp j n = true) /\ q = l.length - i) (n := l.length)
  ⟨0,r1,r77,r78,r79,by omega,by simpa using hS,by omega,rfl⟩ ?_
 rintro q ρ G ⟨i,r1,r77,r78,r79,hi,hS,hok,rfl⟩
 by_cases hlt : i < l.length
 ·have hlt' : (i : Int) < l.length := by omega
  have hw : IntKind.wrap .i64 ((i : Int) + 1) = ((i + 1 : Nat) : Int) := by rw [wrap64 (by omega) (by omega)]; omega
  have hgi : l[i]? = some l[i] := List.getElem?_eq_getElem hlt
  have htk : l.take (i + 1) = l.take i ++ [l[i]] := List.take_succ_eq_append_getElem hlt
  have okn := ok _ (List.getElem_mem hlt)
  have wfn := wf _ (List.getElem_mem hlt)
  obtain ⟨y,hy⟩ : ∃ y,xs[i]? = some y := ⟨xs[i]'(by omega),List.getElem?_eq_getElem (by omega)⟩
  have hnd := x3 i y l[i] hy hgi
  generalize l[i] = n at *
  obtain ⟨na,nb,rfl,v1,v2⟩ := id hnd
  have o1 := Vw.one v1
  have o2 := Vw.one v2
  have hG := hS.loc
  have x1' : Vw G 6 b xs := x1.loc hG
  have hall : ([avInt .i64 n.kind,avInt .i64 n.pos,avStr n.name,na,nb,avBool n.opn] : List AV).all AV.one = true := by
   simp only [List.all_cons,List.all_nil,o1,o2,Bool.and_true]; rfl
  obtain ⟨p,p1,p2⟩ := x1'.ats (k := .i64) hy rfl hall
  obtain ⟨G1,hG1⟩ : ∃ G1,G1 = hset (halloc G (.cells [.lit (.int .i64 0),.lit (.int .i64 0),.lit (.string (mkS [])),.lit (.slice none 0 0),.lit (.slice none 0 0),.lit (.bool false)] (t_api_TypeNode N))) G.l.length (some (.cells [avInt .i64 n.kind,avInt .i64 n.pos,avStr n.name,na,nb,avBool n.opn] (t_api_TypeNode N))) := ⟨_,rfl⟩
  have hS1 : RSt N H a b c (ρ 3) (ρ 4) G1 rs3 (rs4 ++ (l.take i).map (·.kids)) [(G.l.length,.cells [avInt .i64 n.kind,avInt .i64 n.pos,avStr n.name,na,nb,avBool n.opn] (t_api_TypeNode N))] := by rw [hG1]; exact hS.cell _ _
  have hb6 : hget G1 G.l.length = some (.cells [avInt .i64 n.kind,avInt .i64 n.pos,avStr n.name,na,nb,avBool n.opn] (t_api_TypeNode N)) := by rw [hG1]; simp
  have hk1 := hS1.loc.kp
  have e1 := ref04_typ_call h (hk1.ty hnd) okn wfn
  have e2 := ref04_below_call h.below (n := (i : Int)) (hk1.vw v2) (by have := okn.2.2.2; omega)
  have hbad : okTyp i n = false -> ∀ ρ',ρ' 2 = avBool false -> Q .ret ρ' G1 := fun hh ρ' r2 => hF ⟨i,n,hgi,hh⟩ ρ' G1 hS1.loc r2
  unfold tyV at e1
  rcases c1 : typB n with _ | _
  ·rw [c1] at e1
   have hb := hbad (by unfold okTyp; rw [c1]; rfl)
   simp [L_ref04_Right_2,r1,r77,r78,r79,hlt',p1,p2,setFrom,o1,o2,<- hG1,hb6,e1,loadC,-halloc_d,-hset_d]
   exact hb _ (by simp)
  rcases c2 : belowB n.kids i with _ | _
  ·rw [c1] at e1
   rw [c2] at e2
   have hb := hbad (by unfold okTyp; rw [c1,c2]; rfl)
   simp [L_ref04_Right_2,r1,r77,r78,r79,hlt',p1,p2,setFrom,o1,o2,<- hG1,hb6,e1,e2,loadC,-halloc_d,-hset_d]
   exact hb _ (by simp)
  rw [c1] at e1
  rw [c2] at e2
  obtain ⟨g2a,g2b⟩ := one_gc' o2
  obtain ⟨w4,G3,f2,hS3⟩ := hS1.push4 v2 (by simp; omega)
  simp [L_ref04_Right_2,r1,r77,r78,r79,hlt',p1,p2,setFrom,o1,o2,<- hG1,hb6,e1,e2,loadC,chunk,fillA,repl,asElems_ra',g2a,g2b,f2,hw,-Int.natCast_add,-halloc_d,-hset_d]
  refine ⟨l.length - (i + 1),by omega,i + 1,rfl,by omega,?_,fun j m hj hm => ?_,rfl⟩
  ·have := hS3.drop
   rw [<- List.map_take,htk,List.map_append,<- List.append_assoc]
   simpa using this
  ·by_cases hji : j = i
   ·subst hji
    rw [hgi] at hm
    cases hm
    unfold okTyp
    rw [c1,c2]
    rfl
   ·exact hok j m (by omega) hm
 ·have hlt' : ¬ (i : Int) < l.length := by omega
  have hie : i = l.length := by omega
  subst hie
  rw [List.take_length] at hS
  have hd := hD (fun j n hj => hok j n (List.getElem?_eq_some_iff.1 hj).1 hj)
  simp [L_ref04_Right_2,r1,r77,r78,r79,-Int.natCast_add,-halloc_d,-hset_d]
  exact hd _ _ (by simp [r1]) (by simpa using hS)
end
end Go.Proofs.Eng
namespace Go.Proofs.Eng
open Go
def okA (T : Nat) (n : Al) : Bool := aliasB n.name && belowB [n.type] T
section
variable {Γ : Sums} {A : Tab} {N : Nat -> Nat}
set_option maxHeartbeats 1000000 in
theorem right_loop3 (h : RefK Γ A N) {H : Hp} {a b c : AV} {l : List Al} {T : Nat} (ra : RowR AlR 3 H c l) (wf : ∀ n ∈ l,n.name.length <= 1048576) (lb : asLen b = some T) (hl : l.length < 2 ^ 20) {rs3 rs4 : List (List Int)} (h4 : rs4.length < 2 ^ 22) {ρ : Rho} {G : Hp}
  (r1 : ρ 1 = .ptr H.l.length 0) (r101 : ρ 101 = c) (r102 : ρ 102 = avInt .i64 l.length) (r103 : ρ 103 = avInt .i64 (0 : Nat)) (hS : RSt N H a b c (ρ 3) (ρ 4) G rs3 rs4 []) {Q : Post}
  (hF : (∃ (i : Nat) (n : Al),l[i]? = some n /\ okA T n = false) -> ∀ ρ' G',Loc H G' [] -> ρ' 2 = avBool false -> Q .ret ρ' G')
  (hD : (∀ (i : Nat) (n : Al),l[i]? = some n -> okA T n = true) -> ∀ ρ' G',ρ' 1 = .ptr H.l.length 0 -> RSt N H a b c (ρ' 3) (ρ' 4) G' rs3 (rs4 ++ l.map (fun n => [n.type])) [] -> Q (.exit 4) ρ' G') :
  wp (lim Γ A) none (.loop (L_ref04_Right_3 N)) ρ G Q := by
 obtain ⟨xs,x1,x2,x3⟩ := ra
 refine wp_round (fun q ρ G => ∃ i : Nat,ρ 1 = .ptr H.l.length 0 /\ ρ 101 = c /\ ρ 102 = avInt .i64 l.length /\ ρ 103 = avInt .i64 i /\ i <= l.length /\ RSt N H a b c (ρ 3) (ρ 4) G rs3 (rs4 ++ (l.take i).map (fun n => [n.type])) [] /\
   (∀ (j : Nat) (n : Al),j < i -> l[j]? = some n -> okA T n = true) /\ q = l.length - i) (n := l.length)
  ⟨0,r1,r101,r102,r103,by omega,by simpa using hS,by omega,rfl⟩ ?_
 rintro q ρ G ⟨i,r1,r101,r102,r103,hi,hS,hok,rfl⟩
 by_cases hlt : i < l.length
 ·have hlt' : (i : Int) < l.length := by omega
  have hw : IntKind.wrap .i64 ((i : Int) + 1) = ((i + 1 : Nat) : Int) := by rw [wrap64 (by omega) (by omega)]; omega
  have hgi : l[i]? = some l[i] := List.getElem?_eq_getElem hlt
  have htk : l.take (i + 1) = l.take i ++ [l[i]] := List.take_succ_eq_append_getElem hlt
  have wfn := wf _ (List.getElem_mem hlt)
  obtain ⟨y,hy⟩ : ∃ y,xs[i]? = some y := ⟨xs[i]'(by omega),List.getElem?_eq_getElem (by omega)⟩
  have hnd := x3 i y l[i] hy hgi
  generalize l[i] = n at *
  cases hnd
  have hG := hS.loc
  have x1' : Vw G 3 c xs := x1.loc hG
  obtain ⟨p,p1,p2⟩ := x1'.ats (k := .i64) (ys := [avStr n.name,avInt .i64 n.type,avInt .i64 n.pos]) hy rfl rfl
  obtain ⟨G1,hG1⟩ : ∃ G1,G1 = hset (halloc G (.cells [.lit (.string (mkS [])),.lit (.int .i64 0),.lit (.int .i64 0)] (t_api_Alias N))) G.l.length (some (.cells [avStr n.name,avInt .i64 n.type,avInt .i64 n.pos] (t_api_Alias N))) := ⟨_,rfl⟩
  have hS1 : RSt N H a b c (ρ 3) (ρ 4) G1 rs3 (rs4 ++ (l.take i).map (fun n => [n.type])) [(G.l.length,.cells [avStr n.name,avInt .i64 n.type,avInt .i64 n.pos] (t_api_Alias N))] := by rw [hG1]; exact hS.cell _ _
  have hb1 := hS1.box
  have hb6 : hget G1 G.l.length = some (.cells [avStr n.name,avInt .i64 n.type,avInt .i64 n.pos] (t_api_Alias N)) := by rw [hG1]; simp
  have e1 := ref04_Alias_call h n.name (by omega) G1
  rw [<- alias_eq wfn] at e1
  obtain ⟨G2,hG2⟩ : ∃ G2,G2 = halloc G1 (.arr 1 [avInt .i64 n.type] (t_int N)) := ⟨_,rfl⟩
  have hS2 : RSt N H a b c (ρ 3) (ρ 4) G2 rs3 (rs4 ++ (l.take i).map (fun n => [n.type])) [(G.l.length,.cells [avStr n.name,avInt .i64 n.type,avInt .i64 n.pos] (t_api_Alias N))] := by rw [hG2]; exact hS1.alloc _
  have hb2 := hS2.box
  have hb7 := hS2.kept (id := G.l.length) (o := .cells [avStr n.name,avInt .i64 n.type,avInt .i64 n.pos] (t_api_Alias N)) (by simp)
  have hvi : VI G2 (.ra 1 G1.l.length 0 1) [n.type] := by rw [hG2]; exact .inr ⟨G1.l.length,0,t_int N,[avInt .i64 n.type],rfl,by simp,by simp,by simp⟩
  have e2 := ref04_below_call h.below (n := (T : Int)) hvi (by simp)
  rcases c1 : aliasB n.name with _ | _
  ·rw [c1] at e1
   have hb := hF ⟨i,n,hgi,by unfold okA; rw [c1]; rfl⟩
   simp [L_ref04_Right_3,r1,r101,r102,r103,hlt',p1,p2,setFrom,<- hG1,hb6,e1,loadC,-halloc_d,-hset_d]
   exact hb _ _ hS1.loc (by simp)
  rcases c2 : belowB [n.type] T with _ | _
  ·rw [c1] at e1
   rw [c2] at e2
   have hb := hF ⟨i,n,hgi,by unfold okA; rw [c1,c2]; rfl⟩
   simp [L_ref04_Right_3,r1,r101,r102,r103,hlt',p1,p2,setFrom,<- hG1,hb6,e1,loadC,chunk,fillA,repl,<- hG2,hb2,lb,e2,-halloc_d,-hset_d]
   exact hb _ _ hS2.loc (by simp)
  rw [c1] at e1
  rw [c2] at e2
  obtain ⟨w4,G3,f2,hS3⟩ := hS2.push4n n.type (t_int N) (by simp; omega)
  simp [L_ref04_Right_3,r1,r101,r102,r103,hlt',p1,p2,setFrom,<- hG1,hb6,e1,loadC,chunk,fillA,repl,<- hG2,hb2,hb7,lb,e2,asElems_ra',f2,hw,-Int.natCast_add,-halloc_d,-hset_d]
  refine ⟨l.length - (i + 1),by omega,i + 1,rfl,by omega,?_,fun j m hj hm => ?_,rfl⟩
  ·have := hS3.drop
   rw [<- List.map_take,htk,List.map_append,<- List.append_assoc]
   simpa using this
  ·by_cases hji : j = i
   ·subst hji
    rw [hgi] at hm
    cases hm
    unfold okA
    rw [c1,c2]
    rfl
   ·exact hok j m (by omega) hm
 ·have hlt' : ¬ (i : Int) < l.length := by omega
  have hie : i = l.length := by omega
  subst hie
  rw [List.take_length] at hS
  have hd := hD (fun j n hj => hok j n (List.getElem?_eq_some_iff.1 hj).1 hj)
  simp [L_ref04_Right_3,r1,r101,r102,r103,-Int.natCast_add,-halloc_d,-hset_d]
  exact hd _ _ (by simp [r1]) (by simpa using hS)
end
end Go.Proofs.Eng
namespace Go.Proofs.Eng
open Go
def onesB (l : List Int) : Bool := l.all fun c => decide (c = 1)
structure RightP (t : Tr) : Prop where
 ne : t.nodes ≠ []
 l1 : t.nodes.length <= 65536
 l2 : t.types.length <= 65536
 n : ∀ (i : Nat) (n : Nd),t.nodes[i]? = some n -> okN t.types.length i n = true
 y : ∀ (i : Nat) (n : Ty),t.types[i]? = some n -> okTyp i n = true
 a : ∀ (i : Nat) (n : Al),t.als[i]? = some n -> okA t.types.length n = true
 u1 : onesB (usesS t.nodes.length ([(t.nodes.length : Int) - 1] :: t.nodes.map (·.kids))) = true
 u2 : onesB (usesS t.types.length (t.nodes.map (·.types) ++ t.types.map (·.kids) ++ t.als.map (fun n => [n.type]))) = true
section
variable {Γ : Sums} {A : Tab} {N : Nat -> Nat}
theorem ones_loop4 {G : Hp} {u : AV} {l : List Int} (hu : VI G u l) (hl : l.length < 2 ^ 40) {ρ : Rho} (r132 : ρ 132 = u) (r133 : ρ 133 = avInt .i64 l.length) (r134 : ρ 134 = avInt .i64 (0 : Nat)) {p4 : AV} (r4 : ρ 4 = p4) {p1 : AV} (r1 : ρ 1 = p1) {Q : Post}
  (hF : onesB l = false -> ∀ ρ',ρ' 2 = avBool false -> Q .ret ρ' G) (hD : onesB l = true -> ∀ ρ',ρ' 1 = p1 -> ρ' 4 = p4 -> Q (.exit 6) ρ' G) : wp (lim Γ A) none (.loop (L_ref04_Right_4 N)) ρ G Q := by
 refine wp_round (fun q ρ G' => G' = G /\ ∃ i : Nat,ρ 1 = p1 /\ ρ 4 = p4 /\ ρ 132 = u /\ ρ 133 = avInt .i64 l.length /\ ρ 134 = avInt .i64 i /\ i <= l.length /\ (l.take i).all (fun c => decide (c = 1)) = true /\ q = l.length - i) (n := l.length) ⟨rfl,0,r1,r4,r132,r133,r134,by omega,by simp,rfl⟩ ?_
 rintro q ρ G' ⟨rfl,i,r1,r4,r132,r133,r134,hi,ha,rfl⟩
 by_cases hlt : i < l.length
 ·have hlt' : (i : Int) < l.length := by omega
  obtain ⟨q,q1,q2⟩ := hu.at' (k := .i64) (i := (i : Int)) (e := avInt .i64 l[i]) (by omega) (by simp [List.getElem?_eq_getElem hlt]) rfl rfl rfl
  have hw : IntKind.wrap .i64 ((i : Int) + 1) = ((i + 1 : Nat) : Int) := by rw [wrap64 (by omega) (by omega)]; omega
  have ht := all_take hlt ha
  have hf : decide (l[i] = 1) = false -> onesB l = false := fun hh => all_false hlt hh
  generalize l[i] = e at *
  by_cases c1 : e = 1
  ·simp [L_ref04_Right_4,r1,r4,r132,r133,r134,hlt',q1,q2,c1,hw,-Int.natCast_add]
   exact ⟨l.length - (i + 1),by omega,i + 1,rfl,by omega,by simpa using List.all_eq_true.1 (ht.trans (by simp [c1])),rfl⟩
  ·have hb := hF (hf (by simp [c1]))
   simp [L_ref04_Right_4,r1,r4,r132,r133,r134,hlt',q1,q2,c1,-Int.natCast_add]
   exact hb _ (by simp)
 ·have hlt' : ¬ (i : Int) < l.length := by omega
  have hie : i = l.length := by omega
  subst hie
  rw [List.take_length] at ha
  have hd := hD ha
  simp [L_ref04_Right_4,r1,r4,r132,r133,r134,-Int.natCast_add]
  exact hd _ (by simp [r1]) (by simp [r4])
theorem ones_loop5 {G : Hp} {u : AV} {l : List Int} (hu : VI G u l) (hl : l.length < 2 ^ 40) {ρ : Rho} (r132 : ρ 145 = u) (r133 : ρ 146 = avInt .i64 l.length) (r134 : ρ 147 = avInt .i64 (0 : Nat)) {Q : Post}
  (hF : onesB l = false -> ∀ ρ',ρ' 2 = avBool false -> Q .ret ρ' G) (hD : onesB l = true -> ∀ ρ',Q (.exit 8) ρ' G) : wp (lim Γ A) none (.loop (L_ref04_Right_5 N)) ρ G Q := by
 refine wp_round (fun q ρ G' => G' = G /\ ∃ i : Nat,ρ 145 = u /\ ρ 146 = avInt .i64 l.length /\ ρ 147 = avInt .i64 i /\ i <= l.length /\ (l.take i).all (fun c => decide (c = 1)) = true /\ q = l.length - i) (n := l.length) ⟨rfl,0,r132,r133,r134,by omega,by simp,rfl⟩ ?_
 rintro q ρ G' ⟨rfl,i,r132,r133,r134,hi,ha,rfl⟩
 by_cases hlt : i < l.length
 ·have hlt' : (i : Int) < l.length := by omega
  obtain ⟨q,q1,q2⟩ := hu.at' (k := .i64) (i := (i : Int)) (e := avInt .i64 l[i]) (by omega) (by simp [List.getElem?_eq_getElem hlt]) rfl rfl rfl
  have hw : IntKind.wrap .i64 ((i : Int) + 1) = ((i + 1 : Nat) : Int) := by rw [wrap64 (by omega) (by omega)]; omega
  have ht := all_take hlt ha
  have hf : decide (l[i] = 1) = false -> onesB l = false := fun hh => all_false hlt hh
  generalize l[i] = e at *
  by_cases c1 : e = 1
  ·simp [L_ref04_Right_5,r132,r133,r134,hlt',q1,q2,c1,hw,-Int.natCast_add]
   exact ⟨l.length - (i + 1),by omega,i + 1,rfl,by omega,by simpa using List.all_eq_true.1 (ht.trans (by simp [c1])),rfl⟩
  ·have hb := hF (hf (by simp [c1]))
   simp [L_ref04_Right_5,r132,r133,r134,hlt',q1,q2,c1,-Int.natCast_add]
   exact hb _ (by simp)
 ·have hlt' : ¬ (i : Int) < l.length := by omega
  have hie : i = l.length := by omega
  subst hie
  rw [List.take_length] at ha
  have hd := hD ha
  simp [L_ref04_Right_5,r132,r133,r134,-Int.natCast_add]
  exact hd _
end
end Go.Proofs.Eng
namespace Go.Proofs.Eng
open Go
theorem RowsI.keep {G G' : Hp} {x : AV} {rs : List (List Int)} (h : RowsI G x rs) (k : Keep G G') : RowsI G' x rs := by
 obtain ⟨xs,h1,h2,h3⟩ := h
 exact ⟨xs,k.vw h1,h2,fun i y r a b => k.vw (h3 i y r a b)⟩
section
variable {Γ : Sums} {A : Tab} {N : Nat -> Nat}
theorem ref04_Right_call (h : RefK Γ A N) {H : Hp} {x : AV} {t : Tr} (hx : TrR H x t) (ok : t.ok) (wf : ∀ n ∈ t.nodes,n.wf) (wt : ∀ n ∈ t.types,n.name.length <= 1048576) (wa : ∀ n ∈ t.als,n.name.length <= 1048576) (hb : t.nodes.length < 2 ^ 20 /\ t.types.length < 2 ^ 20 /\ t.als.length < 2 ^ 20) :
  ∃ b : Bool,(lim Γ A).call (f_ref04_Right N) [x] H = some (avBool b,none) /\ (b = true ↔ RightP t) := by
 obtain ⟨R,hR⟩ : ∃ R : AV × Option Hp -> Prop,R = fun r => ∃ b : Bool,r = (avBool b,none) /\ (b = true ↔ RightP t) := ⟨_,rfl⟩
 suffices ∃ r,(lim Γ A).call (f_ref04_Right N) [x] H = some r /\ R r by
  obtain ⟨r,e,hr⟩ := this
  rw [hR] at hr
  obtain ⟨b,rfl,h1⟩ := hr
  exact ⟨b,e,h1⟩
 have yes : RightP t -> R (avBool true,none) := fun hp => by rw [hR]; exact ⟨true,rfl,by simp [hp]⟩
 have no : ¬ RightP t -> R (avBool false,none) := fun hp => by rw [hR]; exact ⟨false,rfl,by simp [hp]⟩
 obtain ⟨a,b,c,rfl,ra,rb,rc⟩ := id hx
 have la := ra.len
 have lb := rb.len
 have lc := rc.len
 have pa := ra.one
 have pb := rb.one
 have pc := rc.one
 have hset0 : ∀ (b : Bool) (o : AObj),settle H (avBool b) (halloc { l := H.l,d := none } o) = (avBool b,none) := fun b o => by simp [settle,keeps]
 apply h.right.callP (by rfl)
 by_cases c1 : t.nodes = []
 ·have := no (fun hp => hp.ne c1)
  simp [C_ref04_Right,pa,pb,pc,la,lb,lc,loadC,c1,hset0,this,-halloc_d]
 have c1' : ¬ t.nodes.length = 0 := fun e => c1 (List.eq_nil_of_length_eq_zero e)
 rcases Nat.lt_or_ge 65536 t.nodes.length with c2 | c2
 ·have c2' : (65536 : Int) < t.nodes.length := by omega
  have := no (fun hp => by have := hp.l1; omega)
  simp [C_ref04_Right,pa,pb,pc,la,lb,lc,loadC,c1,c1',c2',hset0,this,-halloc_d]
 have c2' : ¬ (65536 : Int) < t.nodes.length := by omega
 rcases Nat.lt_or_ge 65536 t.types.length with c3 | c3
 ·have c3' : (65536 : Int) < t.types.length := by omega
  have := no (fun hp => by have := hp.l2; omega)
  simp [C_ref04_Right,pa,pb,pc,la,lb,lc,loadC,c1,c1',c2',c3',hset0,this,-halloc_d]
 have c3' : ¬ (65536 : Int) < t.types.length := by omega
 have hw : IntKind.wrap .i64 ((t.nodes.length : Int) - 1) = (t.nodes.length : Int) - 1 := by rw [wrap64 (by omega) (by omega)]
 have z0 : (0 : Int) = ((0 : Nat) : Int) := rfl
 simp [C_ref04_Right,pa,pb,pc,la,lb,lc,loadC,c1,c1',c2',c3',hw,fillA,repl,chunk,setFrom,-halloc_d,-hset_d]
 obtain ⟨G0,hG0⟩ : ∃ G0,G0 = halloc (halloc (halloc (halloc { l := H.l,d := none } (.cells [a,b,c] (t_api_Tree N))) (.arr 1 [avInt .i64 ((t.nodes.length : Int) - 1)] (t_int N))) (.arr 1 [.ra 1 (H.l.length + 1) 0 1] (t_sl_int N))) (.arr 1 [] (t_sl_int N)) := ⟨_,rfl⟩
 have hS0 : RSt N H a b c (.ra 1 (H.l.length + 1 + 1) 0 1) (.ra 1 (H.l.length + 1 + 1 + 1) 0 0) G0 [[(t.nodes.length : Int) - 1]] [] [] := by
  have hL := ((((Loc.start H).alloc (.cells [a,b,c] (t_api_Tree N))).alloc (.arr 1 [avInt .i64 ((t.nodes.length : Int) - 1)] (t_int N))).alloc (.arr 1 [.ra 1 (H.l.length + 1) 0 1] (t_sl_int N))).alloc (.arr 1 [] (t_sl_int N))
  rw [<- hG0] at hL
  simp only [halloc_len] at hL
  refine ⟨[.ra 1 (H.l.length + 1) 0 1],[(H.l.length + 1 + 1,.arr 1 [.ra 1 (H.l.length + 1) 0 1] (t_sl_int N))],[],[(H.l.length + 1 + 1 + 1,.arr 1 [] (t_sl_int N))],[(H.l.length + 1,.arr 1 [avInt .i64 ((t.nodes.length : Int) - 1)] (t_int N)),(H.l.length,.cells [a,b,c] (t_api_Tree N))],by simp,.inr ⟨_,rfl,rfl⟩,.inr ⟨_,rfl,rfl⟩,hL.perm (List.Perm.swap _ _ _),by simp,⟨rfl,fun i y r h1 h2 => ?_⟩,⟨rfl,fun i y r h1 h2 => by simp at h1⟩⟩
  cases i with
  | zero =>
   simp at h1 h2
   subst h1; subst h2
   exact .inr ⟨_,_,t_int N,rfl,rfl,by simp⟩
  | succ i => simp at h1
 have hret : ∀ {ρ' : Rho} {G' : Hp} {b' : Bool},Loc H G' [] -> ρ' 2 = avBool b' -> R (avBool b',none) -> R (settle H (ρ' 2) G') := fun hl r2 hr => by
  rw [r2,settle_keeps hl.keeps rfl]; exact hr
 refine right_loop1 h (a := a) (b := b) (c := c) (l := t.nodes) (T := t.types.length) ra ok.1 wf lb hb.1 (rs3 := [[(t.nodes.length : Int) - 1]]) (by simp) (by simp) (by simp) (by simp) (by simp) (by rw [<- hG0]; simpa using hS0) ?_ ?_
 ·rintro ⟨i,n,h1,h2⟩ ρ' G' hL r2
  have := no (fun hp => by have := hp.n i n h1; rw [h2] at this; cases this)
  simp
  exact hret hL r2 this
 intro hn1 ρ1 G1 s1 hS1
 have hb1 := hS1.box
 simp [K_ref04_Right_1,s1,hb1,lb,loadC,-halloc_d,-hset_d]
 refine right_loop2 h (a := a) (b := b) (c := c) (l := t.types) rb ok.2.1 wt hb.2.1 (rs3 := [[(t.nodes.length : Int) - 1]] ++ t.nodes.map (·.kids)) (rs4 := t.nodes.map (·.types)) (by simp; omega) (by simp [s1]) (by simp) (by simp) (by simp) (by simpa using hS1) ?_ ?_
 ·rintro ⟨i,n,h1,h2⟩ ρ' G' hL r2
  have := no (fun hp => by have := hp.y i n h1; rw [h2] at this; cases this)
  simp
  exact hret hL r2 this
 intro hy1 ρ2 G2 s2 hS2
 have hb2 := hS2.box
 simp [K_ref04_Right_2,s2,hb2,lc,loadC,-halloc_d,-hset_d]
 refine right_loop3 h (a := a) (b := b) (c := c) (l := t.als) (T := t.types.length) rc wa lb hb.2.2 (rs3 := [[(t.nodes.length : Int) - 1]] ++ t.nodes.map (·.kids)) (rs4 := t.nodes.map (·.types) ++ t.types.map (·.kids)) (by simp; omega) (by simp [s2]) (by simp) (by simp) (by simp) (by simpa using hS2) ?_ ?_
 ·rintro ⟨i,n,h1,h2⟩ ρ' G' hL r2
  have := no (fun hp => by have := hp.a i n h1; rw [h2] at this; cases this)
  simp
  exact hret hL r2 this
 intro ha1 ρ3 G3 s3 hS3
 have hb3 := hS3.box
 have lk : ∀ r ∈ [[(t.nodes.length : Int) - 1]] ++ t.nodes.map (·.kids),r.length < 2 ^ 40 := by
  intro r hr
  rcases List.mem_append.1 hr with hr | hr
  ·simp at hr; subst hr; simp
  ·obtain ⟨n,hn,rfl⟩ := List.mem_map.1 hr
   have := (ok.1 n hn).2.2.2.1; omega
 have lk4 : ∀ r ∈ t.nodes.map (·.types) ++ t.types.map (·.kids) ++ t.als.map (fun n => [n.type]),r.length < 2 ^ 40 := by
  intro r hr
  rcases List.mem_append.1 hr with hr | hr
  ·rcases List.mem_append.1 hr with hr | hr
   ·obtain ⟨n,hn,rfl⟩ := List.mem_map.1 hr
    have := (ok.1 n hn).2.2.2.2; omega
   ·obtain ⟨n,hn,rfl⟩ := List.mem_map.1 hr
    have := (ok.2.1 n hn).2.2.2; omega
  ·obtain ⟨n,hn,rfl⟩ := List.mem_map.1 hr
   simp
 have hl3 : (([[(t.nodes.length : Int) - 1]] ++ t.nodes.map (·.kids)) : List (List Int)).length < 2 ^ 40 := by simp; omega
 have hl4 : ((t.nodes.map (·.types) ++ t.types.map (·.kids) ++ t.als.map (fun n => [n.type])) : List (List Int)).length < 2 ^ 40 := by simp; omega
 obtain ⟨g4,f4,m4,u4⟩ := ref04_uses_call h (n := t.nodes.length) hS3.rows3 (by omega) hl3 lk
 have hS4 : Loc H g4 [] := hS3.loc.mut m4 (by simp) (by simp) (by simp)
 have hb4 : hget g4 H.l.length = some (.cells [a,b,c] (t_api_Tree N)) := by rw [m4.kp _ (hget_lt hb3)]; exact hb3
 have hrow4 := hS3.rows4.keep m4.kp
 have ul : (usesS t.nodes.length ([[(t.nodes.length : Int) - 1]] ++ t.nodes.map (·.kids))).length = t.nodes.length := by unfold usesS; rw [usesF_len]; simp
 have v4 := ra_vi u4
 rw [ul] at v4
 simp [K_ref04_Right_3,s3,hb3,la,loadC,f4,-halloc_d,-hset_d]
 refine ones_loop4 (p1 := .ptr H.l.length 0) (p4 := ρ3 4) v4 (by rw [ul]; omega) (by simp) (by rw [ul]; simp) (by simp) (by simp) (by simp [s3]) ?_ ?_
 ·intro ho ρ' r2
  have := no (fun hp => by
   have h3 : onesB (usesS t.nodes.length ([[(t.nodes.length : Int) - 1]] ++ t.nodes.map (·.kids))) = true := hp.u1
   rw [ho] at h3; cases h3)
  simp
  exact hret hS4 r2 this
 intro ho1 ρ4 s4 s44
 obtain ⟨g5,f5,m5,u5⟩ := ref04_uses_call h (n := t.types.length) hrow4 (by omega) hl4 lk4
 have hS5 : Loc H g5 [] := hS4.mut m5 (by simp) (by simp) (by simp)
 have ul5 : (usesS t.types.length (t.nodes.map (·.types) ++ t.types.map (·.kids) ++ t.als.map (fun n => [n.type]))).length = t.types.length := by unfold usesS; rw [usesF_len]; simp
 have v5 := ra_vi u5
 rw [ul5] at v5
 simp [K_ref04_Right_4,s4,s44,hb4,lb,loadC,f5,-halloc_d,-hset_d]
 refine ones_loop5 v5 (by rw [ul5]; omega) (by simp) (by rw [ul5]; simp) (by simp) ?_ ?_
 ·intro ho ρ' r2
  have := no (fun hp => by
   have h3 := hp.u2
   rw [ho] at h3; cases h3)
  simp
  exact hret hS5 r2 this
 intro ho2 ρ5
 have := yes ⟨c1,c2,c3,hn1,hy1,ha1,ho1,ho2⟩
 simp [K_ref04_Right_5]
 rw [settle_keeps hS5.keeps rfl]
 exact this
end
end Go.Proofs.Eng
namespace Go.Proofs.Eng
open Go
theorem useK_comm (ct : List Int) (a b : Int) : useK (useK ct a) b = useK (useK ct b) a := by
 by_cases ha : 0 <= a /\ a < ct.length
 ·by_cases hb : 0 <= b /\ b < ct.length
  ·have e1 : useK ct a = ct.modify a.toNat bump := if_pos ha
   have e2 : useK ct b = ct.modify b.toNat bump := if_pos hb
   rw [e1,e2]
   have e3 : useK (ct.modify a.toNat bump) b = (ct.modify a.toNat bump).modify b.toNat bump := if_pos (by simpa using hb)
   have e4 : useK (ct.modify b.toNat bump) a = (ct.modify b.toNat bump).modify a.toNat bump := if_pos (by simpa using ha)
   rw [e3,e4]
   apply List.ext_getElem?
   intro y
   simp only [List.getElem?_modify]
   by_cases h1 : b.toNat = y <;> by_cases h2 : a.toNat = y <;> simp [h1,h2]
  ·have e2 : useK ct b = ct := if_neg hb
   have e1 : useK (useK ct a) b = useK ct a := if_neg (by rw [useK_len]; exact hb)
   rw [e1,e2]
 ·have e1 : useK ct a = ct := if_neg ha
  have e2 : useK (useK ct b) a = useK ct b := if_neg (by rw [useK_len]; exact ha)
  rw [e1,e2]
theorem useR_comm (k : Int) : ∀ (ks ct : List Int),useR (useK ct k) ks = useK (useR ct ks) k
 | [],ct => rfl
 | a :: r,ct => by
  show useR (useK (useK ct k) a) r = useK (useR (useK ct a) r) k
  rw [useK_comm,useR_comm k r]
theorem usesF_comm (k : Int) : ∀ (rs : List (List Int)) (ct : List Int),rs.foldl useR (useK ct k) = useK (rs.foldl useR ct) k
 | [],ct => rfl
 | a :: r,ct => by rw [List.foldl_cons,List.foldl_cons,useR_comm,usesF_comm k r]
theorem note_use {b : Int} : ∀ (ks cnt : List Int),b <= cnt.length -> (noteS cnt ks b).1 = belowB ks b /\ (belowB ks b = true -> (noteS cnt ks b).2 = useR cnt ks)
 | [],cnt,_ => ⟨rfl,fun _ => rfl⟩
 | k :: r,cnt,hb => by
  unfold noteS
  by_cases hk : k < 0 \/ b <= k
  ·rw [if_pos hk]
   have hf : belowB (k :: r) b = false := by
    unfold belowB
    rw [List.all_cons]
    have : (decide (0 <= k) && decide (k < b)) = false := by simp; omega
    rw [this]; rfl
   exact ⟨hf.symm,fun h => by rw [hf] at h; cases h⟩
  ·rw [if_neg hk]
   have ih := note_use r (cnt.modify k.toNat bump) (by simpa using hb)
   have ht : belowB (k :: r) b = belowB r b := by
    unfold belowB
    rw [List.all_cons]
    have : (decide (0 <= k) && decide (k < b)) = true := by simp; omega
    rw [this]; rfl
   have hu : useK cnt k = cnt.modify k.toNat bump := if_pos (by omega)
   rw [ht]
   refine ⟨ih.1,fun h => ?_⟩
   rw [ih.2 h,<- hu]
   rfl
theorem nodes_use {T : Nat} : ∀ (l : List Nd) (i : Nat) (ct cy : List Int),i + l.length <= ct.length -> T <= cy.length ->
  (∀ p,nodesS T l i ct cy = some p -> (∀ (j : Nat) (n : Nd),l[j]? = some n -> okN T (i + j) n = true) /\ p = ((l.map (·.kids)).foldl useR ct,(l.map (·.types)).foldl useR cy)) /\
  ((∀ (j : Nat) (n : Nd),l[j]? = some n -> okN T (i + j) n = true) -> nodesS T l i ct cy = some ((l.map (·.kids)).foldl useR ct,(l.map (·.types)).foldl useR cy))
 | [],i,ct,cy,_,_ => ⟨fun p h => by simp [nodesS] at h; subst h; exact ⟨fun j n h => by simp at h,rfl⟩,fun _ => rfl⟩
 | n :: r,i,ct,cy,h1,h2 => by
  have hn1 := note_use (b := (i : Int)) n.kids ct (by simp at h1; omega)
  have hn2 := note_use (b := (T : Int)) n.types cy (by omega)
  have ih := nodes_use (T := T) r (i + 1) (useR ct n.kids) (useR cy n.types) (by rw [useR_len]; simp at h1; omega) (by rw [useR_len]; exact h2)
  have hstep : okN T i n = true -> nodesS T (n :: r) i ct cy = nodesS T r (i + 1) (useR ct n.kids) (useR cy n.types) := by
   intro hok
   unfold okN at hok
   simp only [Bool.and_eq_true] at hok
   obtain ⟨a1,a2,a3⟩ := hok
   have b1 : noteS ct n.kids i = (true,useR ct n.kids) := Prod.ext (by rw [hn1.1,a2]) (hn1.2 a2)
   have b2 : noteS cy n.types T = (true,useR cy n.types) := Prod.ext (by rw [hn2.1,a3]) (hn2.2 a3)
   simp only [nodesS,a1,if_true,b1,b2]
  have hbad : okN T i n = false -> nodesS T (n :: r) i ct cy = none := by
   intro hok
   unfold nodesS
   unfold okN at hok
   split
   ·rename_i a1
    rw [a1,Bool.true_and,Bool.and_eq_false_iff] at hok
    split
    ·rename_i ct' e1
     have a2 : belowB n.kids i = true := by rw [<- hn1.1,e1]
     rcases hok with hok | hok
     ·rw [a2] at hok; cases hok
     ·split
      ·rename_i cy' e2
       have a3 : belowB n.types T = true := by rw [<- hn2.1,e2]
       rw [a3] at hok; cases hok
      ·rfl
    ·rfl
   ·rfl
  refine ⟨fun p h => ?_,fun hall => ?_⟩
  ·cases hok : okN T i n with
   | false => rw [hbad hok] at h; cases h
   | true =>
    rw [hstep hok] at h
    obtain ⟨k1,k2⟩ := ih.1 p h
    refine ⟨fun j m hj => ?_,k2⟩
    cases j with
    | zero => simp at hj; subst hj; exact hok
    | succ j => have := k1 j m (by simpa using hj); rwa [show i + 1 + j = i + (j + 1) from by omega] at this
  ·rw [hstep (by simpa using hall 0 n rfl)]
   exact ih.2 fun j m hj => by have := hall (j + 1) m (by simpa using hj); rwa [show i + (j + 1) = i + 1 + j from by omega] at this
theorem types_use : ∀ (l : List Ty) (i : Nat) (cy : List Int),i + l.length <= cy.length ->
  (∀ p,typesS l i cy = some p -> (∀ (j : Nat) (n : Ty),l[j]? = some n -> okTyp (i + j) n = true) /\ p = (l.map (·.kids)).foldl useR cy) /\
  ((∀ (j : Nat) (n : Ty),l[j]? = some n -> okTyp (i + j) n = true) -> typesS l i cy = some ((l.map (·.kids)).foldl useR cy))
 | [],i,cy,_ => ⟨fun p h => by simp [typesS] at h; subst h; exact ⟨fun j n h => by simp at h,rfl⟩,fun _ => rfl⟩
 | n :: r,i,cy,h1 => by
  have hn1 := note_use (b := (i : Int)) n.kids cy (by simp at h1; omega)
  have ih := types_use r (i + 1) (useR cy n.kids) (by rw [useR_len]; simp at h1; omega)
  have hstep : okTyp i n = true -> typesS (n :: r) i cy = typesS r (i + 1) (useR cy n.kids) := by
   intro hok
   unfold okTyp at hok
   simp only [Bool.and_eq_true] at hok
   obtain ⟨a1,a2⟩ := hok
   have b1 : noteS cy n.kids i = (true,useR cy n.kids) := Prod.ext (by rw [hn1.1,a2]) (hn1.2 a2)
   simp only [typesS,a1,if_true,b1]
  have hbad : okTyp i n = false -> typesS (n :: r) i cy = none := by
   intro hok
   unfold typesS
   unfold okTyp at hok
   split
   ·rename_i a1
    rw [a1,Bool.true_and] at hok
    split
    ·rename_i ct' e1
     have a2 : belowB n.kids i = true := by rw [<- hn1.1,e1]
     rw [a2] at hok; cases hok
    ·rfl
   ·rfl
  refine ⟨fun p h => ?_,fun hall => ?_⟩
  ·cases hok : okTyp i n with
   | false => rw [hbad hok] at h; cases h
   | true =>
    rw [hstep hok] at h
    obtain ⟨k1,k2⟩ := ih.1 p h
    refine ⟨fun j m hj => ?_,k2⟩
    cases j with
    | zero => simp at hj; subst hj; exact hok
    | succ j => have := k1 j m (by simpa using hj); rwa [show i + 1 + j = i + (j + 1) from by omega] at this
  ·rw [hstep (by simpa using hall 0 n rfl)]
   exact ih.2 fun j m hj => by have := hall (j + 1) m (by simpa using hj); rwa [show i + (j + 1) = i + 1 + j from by omega] at this
theorem als_use {T : Nat} : ∀ (l : List Al) (cy : List Int),T <= cy.length ->
  (∀ p,alsS T l cy = some p -> (∀ (j : Nat) (n : Al),l[j]? = some n -> okA T n = true) /\ p = (l.map (fun n => [n.type])).foldl useR cy) /\
  ((∀ (j : Nat) (n : Al),l[j]? = some n -> okA T n = true) -> alsS T l cy = some ((l.map (fun n => [n.type])).foldl useR cy))
 | [],cy,_ => ⟨fun p h => by simp [alsS] at h; subst h; exact ⟨fun j n h => by simp at h,rfl⟩,fun _ => rfl⟩
 | n :: r,cy,h1 => by
  have hn1 := note_use (b := (T : Int)) [n.type] cy (by omega)
  have ih := als_use (T := T) r (useR cy [n.type]) (by rw [useR_len]; omega)
  have hstep : okA T n = true -> alsS T (n :: r) cy = alsS T r (useR cy [n.type]) := by
   intro hok
   unfold okA at hok
   simp only [Bool.and_eq_true] at hok
   obtain ⟨a1,a2⟩ := hok
   have b1 : noteS cy [n.type] T = (true,useR cy [n.type]) := Prod.ext (by rw [hn1.1,a2]) (hn1.2 a2)
   simp only [alsS,a1,if_true,b1]
  have hbad : okA T n = false -> alsS T (n :: r) cy = none := by
   intro hok
   unfold alsS
   unfold okA at hok
   split
   ·rename_i a1
    rw [a1,Bool.true_and] at hok
    split
    ·rename_i ct' e1
     have a2 : belowB [n.type] T = true := by rw [<- hn1.1,e1]
     rw [a2] at hok; cases hok
    ·rfl
   ·rfl
  refine ⟨fun p h => ?_,fun hall => ?_⟩
  ·cases hok : okA T n with
   | false => rw [hbad hok] at h; cases h
   | true =>
    rw [hstep hok] at h
    obtain ⟨k1,k2⟩ := ih.1 p h
    refine ⟨fun j m hj => ?_,k2⟩
    cases j with
    | zero => simp at hj; subst hj; exact hok
    | succ j => exact k1 j m (by simpa using hj)
  ·rw [hstep (hall 0 n rfl)]
   exact ih.2 fun j m hj => hall (j + 1) m (by simpa using hj)
theorem check_right (t : Tr) : checkB t = true ↔ RightP t := by
 have hlast : t.nodes ≠ [] -> ∀ rs : List (List Int),lastUp (rs.foldl useR (List.replicate t.nodes.length 0)) = usesS t.nodes.length ([(t.nodes.length : Int) - 1] :: rs) := by
  intro hne rs
  have hl : 0 < t.nodes.length := List.length_pos_iff.2 hne
  have e : (rs.foldl useR (List.replicate t.nodes.length (0 : Int))).length = t.nodes.length := by rw [usesF_len]; simp
  unfold lastUp usesS
  rw [List.foldl_cons]
  show _ = rs.foldl useR (useK (List.replicate t.nodes.length 0) ((t.nodes.length : Int) - 1))
  rw [usesF_comm]
  unfold useK
  rw [if_pos (by rw [e]; omega),e]
  congr 1
  omega
 have hcy : (t.als.map (fun n => [n.type])).foldl useR ((t.types.map (·.kids)).foldl useR ((t.nodes.map (·.types)).foldl useR (List.replicate t.types.length 0))) = usesS t.types.length (t.nodes.map (·.types) ++ t.types.map (·.kids) ++ t.als.map (fun n => [n.type])) := by
  unfold usesS
  rw [List.foldl_append,List.foldl_append]
 have l1 : ((t.nodes.map (·.types)).foldl useR (List.replicate t.types.length (0 : Int))).length = t.types.length := by rw [usesF_len]; simp
 have l2 : ((t.types.map (·.kids)).foldl useR ((t.nodes.map (·.types)).foldl useR (List.replicate t.types.length (0 : Int)))).length = t.types.length := by rw [usesF_len,l1]
 have n1 := nodes_use (T := t.types.length) t.nodes 0 (List.replicate t.nodes.length 0) (List.replicate t.types.length 0) (by simp) (by simp)
 have n2 := types_use t.types 0 ((t.nodes.map (·.types)).foldl useR (List.replicate t.types.length 0)) (by rw [l1]; omega)
 have n3 := als_use (T := t.types.length) t.als ((t.types.map (·.kids)).foldl useR ((t.nodes.map (·.types)).foldl useR (List.replicate t.types.length 0))) (by rw [l2]; exact Nat.le_refl _)
 simp only [Nat.zero_add] at n1 n2
 constructor
 ·intro hc
  unfold checkB at hc
  simp only [Bool.and_eq_true,Bool.not_eq_true',decide_eq_true_eq] at hc
  obtain ⟨⟨⟨h1,h2⟩,h3⟩,h4⟩ := hc
  have hne : t.nodes ≠ [] := by intro e; rw [e] at h1; simp at h1
  split at h4
  ·rename_i ct cy e1
   obtain ⟨k1,k2⟩ := n1.1 _ e1
   simp only [Prod.mk.injEq] at k2
   obtain ⟨rfl,rfl⟩ := k2
   unfold endS at h4
   split at h4
   ·rename_i cy' e2
    obtain ⟨k3,rfl⟩ := n2.1 _ e2
    split at h4
    ·rename_i cy'' e3
     obtain ⟨k4,rfl⟩ := n3.1 _ e3
     simp only [Bool.and_eq_true] at h4
     rw [hlast hne,hcy] at h4
     exact ⟨hne,h2,h3,k1,k3,k4,h4.1,h4.2⟩
    ·cases h4
   ·cases h4
  ·cases h4
 ·intro hp
  unfold checkB endS
  rw [n1.2 hp.n]
  simp only []
  rw [n2.2 hp.y]
  simp only []
  rw [n3.2 hp.a]
  simp only []
  rw [hlast hp.ne,hcy]
  have e1 := hp.u1
  have e2 := hp.u2
  unfold onesB at e1 e2
  have e3 : t.nodes.isEmpty = false := by cases hn : t.nodes with | nil => exact absurd hn hp.ne | cons => rfl
  simp only [e1,e2,e3,hp.l1,hp.l2,decide_true,Bool.not_false,Bool.and_self]
section
variable {Γ : Sums} {A : Tab} {N : Nat -> Nat}
theorem ref04_Right_check (h : RefK Γ A N) {H : Hp} {x : AV} {t : Tr} (hx : TrR H x t) (ok : t.ok) (wf : ∀ n ∈ t.nodes,n.wf) (wt : ∀ n ∈ t.types,n.name.length <= 1048576) (wa : ∀ n ∈ t.als,n.name.length <= 1048576) (hb : t.nodes.length < 2 ^ 20 /\ t.types.length < 2 ^ 20 /\ t.als.length < 2 ^ 20) :
  (lim Γ A).call (f_ref04_Right N) [x] H = some (avBool (checkB t),none) := by
 obtain ⟨b,e,hb'⟩ := ref04_Right_call h hx ok wf wt wa hb
 rw [e]
 have : b = checkB t := by
  rw [Bool.eq_iff_iff,hb',check_right]
 rw [this]
end
end Go.Proofs.Eng
namespace Go.Proofs.Eng
open Go
def wsum (s : Nat -> Int) : List Int -> Int
 | [] => 0
 | c :: r => c * s 0 + wsum (fun i => s (i + 1)) r
theorem wsum_modify : ∀ (ct : List Int) (s : Nat -> Int) (k : Nat),k < ct.length -> (∀ c ∈ ct,0 <= c /\ c < 2 ^ 62) -> wsum s (ct.modify k bump) = wsum s ct + s k
 | [],s,k,hk,_ => by simp at hk
 | c :: r,s,0,_,hc => by
  have := hc c (by simp)
  have hb : bump c = c + 1 := by unfold bump; rw [wrap64 (by omega) (by omega)]
  simp [List.modify,wsum,hb,Int.add_mul]
  omega
 | c :: r,s,k + 1,hk,hc => by
  have := wsum_modify r (fun i => s (i + 1)) k (by simpa using hk) (fun c' h => hc c' (by simp [h]))
  simp only [List.modify_succ_cons,wsum,this]
  omega
theorem wsum_zero : ∀ (n : Nat) (s : Nat -> Int),wsum s (List.replicate n 0) = 0
 | 0,s => rfl
 | n + 1,s => by simp [List.replicate_succ,wsum,wsum_zero n]
theorem mem_modify {ct : List Int} {k : Nat} {B : Int} (h : ∀ c ∈ ct,0 <= c /\ c <= B) (hB : B < 2 ^ 62) : ∀ c ∈ ct.modify k bump,0 <= c /\ c <= B + 1 := by
 intro c hc
 obtain ⟨i,hi,rfl⟩ := List.mem_iff_getElem.1 hc
 rw [List.getElem_modify]
 have := h (ct[i]'(by simpa using hi)) (List.getElem_mem _)
 split
 ·unfold bump; rw [wrap64 (by omega) (by omega)]; omega
 ·omega
theorem noteS_sum {s : Nat -> Int} {b : Int} : ∀ {ks ct ct' : List Int} {B : Int},noteS ct ks b = (true,ct') -> b <= ct.length -> (∀ c ∈ ct,0 <= c /\ c <= B) -> B + ks.length < 2 ^ 61 -> wsum s ct' = wsum s ct + (ks.map fun k => s k.toNat).sum /\ (∀ c ∈ ct',0 <= c /\ c <= B + ks.length) /\ ct'.length = ct.length
 | [],ct,ct',B,h,hb,hc,hB => by
  simp [noteS] at h
  subst h
  simpa using hc
 | k :: r,ct,ct',B,h,hb,hc,hB => by
  unfold noteS at h
  split at h
  ·cases h
  ·rename_i hk
   have hlen : (k :: r).length = r.length + 1 := rfl
   have h1 := noteS_sum (s := s) (B := B + 1) h (by simpa using hb) (mem_modify hc (by omega)) (by omega)
   rw [wsum_modify ct s k.toNat (by omega) (fun c h => by have := hc c h; omega)] at h1
   refine ⟨by rw [h1.1]; simp; omega,fun c h => by have := h1.2.1 c h; omega,by rw [h1.2.2]; simp⟩
theorem nodesS_sum {ty : Nat} {sz : Nat -> Int} {cap : Int} (hcap : 0 <= cap) (hcap2 : cap <= 2 ^ 31) : ∀ {l : List Nd} {i : Nat} {ct cy ct' cy' : List Int} {B : Int},nodesS ty l i ct cy = some (ct',cy') -> (∀ (j : Nat) (n : Nd),l[j]? = some n -> sz (i + j) = 1 + (n.kids.map fun k => sz k.toNat).sum /\ (n.kids.length : Int) <= cap) -> i + l.length <= ct.length -> (∀ c ∈ ct,0 <= c /\ c <= B) -> B + l.length * cap < 2 ^ 60 ->
  wsum sz ct' = wsum sz ct + wsum (fun j => sz (i + j)) (List.replicate l.length 1) - l.length /\ ct'.length = ct.length /\ (∀ c ∈ ct',0 <= c /\ c <= B + l.length * cap)
 | [],i,ct,cy,ct',cy',B,h,_,_,hc,_ => by
  simp [nodesS] at h
  obtain ⟨rfl,rfl⟩ := h
  simp [wsum]
  exact fun c h => hc c h
 | n :: r,i,ct,cy,ct',cy',B,h,hn,hi,hc,hB => by
  unfold nodesS at h
  have hll : (n :: r).length = r.length + 1 := rfl
  have hmul : ((r.length + 1 : Nat) : Int) * cap = r.length * cap + cap := by push_cast; rw [Int.add_mul]; simp
  rw [hll] at hB hi
  rw [hmul] at hB
  have hrc : 0 <= (r.length : Int) * cap := Int.mul_nonneg (by omega) hcap
  split at h
  ·split at h
   ·rename_i ct1 e1
    split at h
    ·rename_i cy1 e2
     have h0 := hn 0 n rfl
     have s1 := noteS_sum (s := sz) e1 (by omega) hc (by omega)
     have s2 := nodesS_sum hcap hcap2 (B := B + cap) h (fun j m hm => by
      have := hn (j + 1) m (by simpa using hm)
      rw [show i + 1 + j = i + (j + 1) by omega]; exact this) (by rw [s1.2.2]; omega) (fun c hc' => by have := s1.2.1 c hc'; omega) (by omega)
     refine ⟨?_,by rw [s2.2.1,s1.2.2],fun c hc' => by have := s2.2.2 c hc'; rw [hll,hmul]; omega⟩
     rw [s2.1,s1.1,hll,List.replicate_succ,wsum]
     have e : (fun j => sz (i + 1 + j)) = fun j => sz (i + (j + 1)) := by funext j; congr 1; omega
     rw [e]
     have := h0.1
     simp only [Nat.add_zero] at this ⊢
     push_cast
     omega
    ·cases h
   ·cases h
  ·cases h
end Go.Proofs.Eng
namespace Go.Proofs.Eng
open Go
theorem walkS_root {t : Tr} (ok : t.ok) (h : checkB t = true) : ((walkS t ((t.nodes.length : Int) - 1)).length : Int) = t.nodes.length := by
 have hk := kids_of_check h
 obtain ⟨h1,h2,_,ct,cy,h3,h4⟩ := checkB_parts h
 have h0 : 0 < t.nodes.length := List.length_pos_iff.2 h1
 obtain ⟨sz,hsz⟩ : ∃ sz : Nat -> Int,sz = fun (k : Nat) => ((walkS t (k : Int)).length : Int) := ⟨_,rfl⟩
 have hsum := nodesS_sum (sz := sz) (cap := 2 ^ 30) (by omega) (by omega) (B := 0) h3 (fun j n hj => by
  refine ⟨?_,by have := (ok.1 n (List.mem_of_getElem? hj)).2.2.2.1; omega⟩
  rw [hsz]
  simp only [Nat.zero_add]
  rw [walkS_eq hk (by omega)]
  have hkk : kidsT t (j : Int) = n.kids := by unfold kidsT; simp [hj]
  rw [hkk]
  simp only [List.length_cons]
  have : ∀ l : List Int,(∀ k ∈ l,0 <= k) -> (((l.flatMap (walkS t)).length : Nat) : Int) = (l.map fun k => ((walkS t (k.toNat : Int)).length : Int)).sum := by
   intro l hl
   induction l with
   | nil => rfl
   | cons a r ih =>
    have := ih (fun k hk => hl k (by simp [hk]))
    have ha : ((a.toNat : Nat) : Int) = a := Int.toNat_of_nonneg (hl a (by simp))
    simp only [List.flatMap_cons,List.length_append,List.map_cons,List.sum_cons,ha]
    push_cast
    omega
  have h5 := this n.kids (fun k hk' => (hk j n hj k hk').1)
  push_cast
  omega) (by simp) (by simp) (by omega)
 obtain ⟨s1,s2,s3⟩ := hsum
 simp only [List.length_replicate] at s2
 have hall : lastUp ct = List.replicate t.nodes.length 1 := by
  unfold endS at h4
  split at h4
  ·split at h4
   ·rw [Bool.and_eq_true] at h4
    have ha := h4.1
    rw [List.all_eq_true] at ha
    refine List.eq_replicate_iff.2 ⟨by simp [lastUp,s2],fun c hc => by simpa using ha c hc⟩
   ·cases h4
  ·cases h4
 have hm := wsum_modify ct sz (ct.length - 1) (by omega) (fun c hc => by have := s3 c hc; omega)
 rw [show ct.modify (ct.length - 1) bump = lastUp ct from rfl,hall,s1,wsum_zero] at hm
 have e : (fun j => sz (0 + j)) = sz := by funext j; congr 1; omega
 rw [e,s2] at hm
 have hl : sz (t.nodes.length - 1) = t.nodes.length := by omega
 rw [hsz] at hl
 simp only at hl
 rw [show ((t.nodes.length : Int) - 1) = ((t.nodes.length - 1 : Nat) : Int) by omega]
 exact hl
theorem snocInd {α : Type} {p : List α -> Prop} (nil : p []) (append_singleton : ∀ (l : List α) (a : α),p l -> p (l ++ [a])) (l : List α) : p l := by
 rw [<- List.reverse_reverse l]
 induction l.reverse with
 | nil => exact nil
 | cons a r ih => rw [List.reverse_cons]; exact append_singleton _ _ ih
theorem kidsD_le {R : List Int} {B : Int} (hR : ∀ c ∈ R,c <= B) (hB : 0 <= B) : ∀ {ks : List Int} {acc : Int},acc <= B -> kidsD R acc ks <= B
 | [],acc,h => h
 | k :: r,acc,h => by
  unfold kidsD
  refine kidsD_le hR hB ?_
  rw [List.getD_eq_getElem?_getD]
  cases hk : R[k.toNat]? with
  | none => simp; omega
  | some c => have := hR c (List.mem_of_getElem? hk); simp; omega
theorem kidsD_ge {R : List Int} : ∀ {ks : List Int} {acc : Int},acc <= kidsD R acc ks
 | [],acc => Int.le_refl _
 | k :: r,acc => by
  unfold kidsD
  have := kidsD_ge (R := R) (ks := r) (acc := max acc (R.getD k.toNat 0))
  omega
theorem bump_le {c B : Int} (h0 : 0 <= c) (h : c <= B) (hB : B < 2 ^ 60) : bump c <= B + 1 := by
 unfold bump; rw [wrap64 (by omega) (by omega)]; omega
theorem tyD_le : ∀ (l : List Ty),l.length < 2 ^ 30 -> ∀ c ∈ tyD l,c <= l.length := by
 intro l
 induction l using snocInd with
 | nil => intro _ c hc; simp [tyD] at hc
 | append_singleton l n ih =>
  intro hl c hc
  simp only [List.length_append,List.length_singleton] at hl ⊢
  rw [tyD_snoc] at hc
  rcases List.mem_append.1 hc with hc | hc
  ·have := ih (by omega) c hc; push_cast; omega
  ·simp only [List.mem_singleton] at hc
   rw [hc]
   have := bump_le (c := kidsD (tyD l) 0 n.kids) (B := l.length) kidsD_ge (kidsD_le (ih (by omega)) (by omega) (by omega)) (by omega)
   push_cast; omega
theorem ndD_le {ty : List Int} {T : Int} (hT : ∀ c ∈ ty,c <= T) (hT0 : 0 <= T) (hT1 : T < 2 ^ 40) : ∀ (l : List Nd),l.length < 2 ^ 30 -> ∀ c ∈ ndD ty l,c <= T + l.length := by
 intro l
 induction l using snocInd with
 | nil => intro _ c hc; simp [ndD] at hc
 | append_singleton l n ih =>
  intro hl c hc
  simp only [List.length_append,List.length_singleton] at hl ⊢
  rw [ndD_snoc] at hc
  rcases List.mem_append.1 hc with hc | hc
  ·have := ih (by omega) c hc; push_cast; omega
  ·simp only [List.mem_singleton] at hc
   rw [hc]
   have h1 := kidsD_le (R := ndD ty l) (B := T + l.length) (ih (by omega)) (by omega) (ks := n.kids) (acc := 0) (by omega)
   have h2 := kidsD_le (R := ty) (B := T + l.length) (fun c hc => by have := hT c hc; omega) (by omega) (ks := n.types) h1
   have h3 : (0 : Int) <= kidsD ty (kidsD (ndD ty l) 0 n.kids) n.types := Int.le_trans kidsD_ge kidsD_ge
   have := bump_le h3 h2 (by omega)
   push_cast; omega
end Go.Proofs.Eng
namespace Go.Proofs.Eng
open Go

def L_tree_two_terms_1 (N : Nat -> Nat) : AC :=
 .seq (
 .ops [⟨some 70,.bin .lss (.t 69) (.t 68),none⟩]) (
 .seq (
 .cond (.t 70) (
 .skip) (
 .exit 0)) (
 .seq (
 .block 1 (
 .seq (
 .ops [⟨some 71,.mov (.t 69),none⟩,⟨some 9,.mov (.t 71),none⟩]) (
 .seq (
 .dops 7 [⟨some 72,.load (some 6) (.t 3),none⟩,⟨some 73,.faddr 7 (.t 7),none⟩,⟨some 74,.load none (.t 73),none⟩,⟨some 75,.mov (.t 9),none⟩,⟨some 76,.iaddr 1 (.t 74) (.t 75),none⟩,⟨some 77,.load none (.t 76),none⟩,⟨some 78,.faddr 7 (.t 8),none⟩,⟨some 79,.load none (.t 78),none⟩,⟨some 80,.mov (.t 9),none⟩,⟨some 81,.iaddr 1 (.t 79) (.t 80),none⟩,⟨some 82,.load none (.t 81),none⟩,⟨some 83,.call (.c (.fn (f_tree_two_types N) [] [])) [(.t 72),(.t 77),(.t 82)],none⟩,⟨some 84,.un .not (.t 83),none⟩] [2,0,2,0,0,2,0,2,0,0,2,0,0] []) (
 .cond (.t 84) (
 .seq (
 .ops [⟨some 6,.mov (.c (.lit (.bool false))),none⟩]) (
 .ret)) (
 .skip))))) (
 .ops [⟨some 85,.bin .add (.t 69) (.c (.lit (.int .i64 1))),none⟩,⟨some 69,.mov (.t 85),none⟩])))
def L_tree_two_terms_2 (N : Nat -> Nat) : AC :=
 .seq (
 .ops [⟨some 90,.bin .lss (.t 89) (.t 88),none⟩]) (
 .seq (
 .cond (.t 90) (
 .skip) (
 .exit 2)) (
 .seq (
 .block 3 (
 .seq (
 .ops [⟨some 91,.mov (.t 89),none⟩,⟨some 10,.mov (.t 91),none⟩]) (
 .seq (
 .dops 13 [⟨some 92,.load (some 6) (.t 3),none⟩,⟨some 93,.faddr 6 (.t 7),none⟩,⟨some 94,.load none (.t 93),none⟩,⟨some 95,.mov (.t 10),none⟩,⟨some 96,.iaddr 1 (.t 94) (.t 95),none⟩,⟨some 97,.load none (.t 96),none⟩,⟨some 98,.faddr 6 (.t 8),none⟩,⟨some 99,.load none (.t 98),none⟩,⟨some 100,.mov (.t 10),none⟩,⟨some 101,.iaddr 1 (.t 99) (.t 100),none⟩,⟨some 102,.load none (.t 101),none⟩,⟨some 103,.call (.c (.fn (f_tree_two_terms N) [] [])) [(.t 92),(.t 97),(.t 102)],none⟩,⟨some 104,.un .not (.t 103),none⟩] [2,0,2,0,0,2,0,2,0,0,2,0,0] []) (
 .cond (.t 104) (
 .seq (
 .ops [⟨some 6,.mov (.c (.lit (.bool false))),none⟩]) (
 .ret)) (
 .skip))))) (
 .ops [⟨some 105,.bin .add (.t 89) (.c (.lit (.int .i64 1))),none⟩,⟨some 89,.mov (.t 105),none⟩])))
def K_tree_two_terms_2 (N : Nat -> Nat) : AC :=
 .seq (
 .ops [⟨some 6,.mov (.c (.lit (.bool true))),none⟩]) (
 .ret)
def K_tree_two_terms_1 (N : Nat -> Nat) : AC :=
 .seq (
 .seq (
 .ops [⟨some 86,.faddr 6 (.t 7),none⟩,⟨some 87,.load none (.t 86),none⟩,⟨some 88,.len (.t 87),none⟩,⟨some 89,.mov (.c (.lit (.int .i64 0))),none⟩]) (
 .block 2 (
 .loop (L_tree_two_terms_2 N)))) (K_tree_two_terms_2 N)
def C_tree_two_terms (N : Nat -> Nat) : AFunc := ⟨106,[.inl 6],
 .seq (
 .ops [⟨some 3,.box (t_tree_two N) (.t 0),none⟩,⟨some 6,.mov (.c (.lit (.bool false))),none⟩]) (
 .seq (
 .dops 1 [⟨some 11,.faddr 0 (.t 3),none⟩,⟨some 12,.faddr 0 (.t 11),none⟩,⟨some 13,.load none (.t 12),none⟩,⟨some 14,.mov (.t 1),none⟩,⟨some 15,.iaddr 8 (.t 13) (.t 14),none⟩,⟨some 16,.load (some 8) (.t 15),none⟩,⟨some 17,.faddr 3 (.t 3),none⟩,⟨some 18,.faddr 0 (.t 17),none⟩,⟨some 19,.load none (.t 18),none⟩,⟨some 20,.mov (.t 2),none⟩,⟨some 21,.iaddr 8 (.t 19) (.t 20),none⟩,⟨some 22,.load (some 8) (.t 21),none⟩,⟨some 7,.new (t_api_Node N) (.agg [(.lit (.int .i64 0)),(.lit (.int .i64 0)),(.lit (.string (mkS []))),(.lit (.int .i64 0)),(.lit (.int .u64 0)),(.lit (.slice none 0 0)),(.lit (.slice none 0 0)),(.lit (.slice none 0 0))]),none⟩,⟨some 8,.new (t_api_Node N) (.agg [(.lit (.int .i64 0)),(.lit (.int .i64 0)),(.lit (.string (mkS []))),(.lit (.int .i64 0)),(.lit (.int .u64 0)),(.lit (.slice none 0 0)),(.lit (.slice none 0 0)),(.lit (.slice none 0 0))]),none⟩,⟨none,.store 8 (.t 7) (.t 16),none⟩,⟨none,.store 8 (.t 8) (.t 22),none⟩] [0,0,2,0,0,2,0,0,2,0,0,2,1,1,3,0] []) (
 .seq (
 .seq (
 .ops [⟨some 23,.faddr 0 (.t 7),none⟩,⟨some 24,.load none (.t 23),none⟩,⟨some 25,.faddr 0 (.t 8),none⟩,⟨some 26,.load none (.t 25),none⟩,⟨some 27,.eq true .pint (.t 24) (.t 26),none⟩,⟨some 28,.mov (.t 27),none⟩,⟨some 29,.faddr 2 (.t 7),(some (28,false))⟩,⟨some 30,.load none (.t 29),(some (28,false))⟩,⟨some 31,.faddr 2 (.t 8),(some (28,false))⟩,⟨some 32,.load none (.t 31),(some (28,false))⟩,⟨some 33,.eq true .pstr (.t 30) (.t 32),(some (28,false))⟩,⟨some 34,.pick (.t 28) (.c (.lit (.bool true))) (.t 33),none⟩,⟨some 35,.mov (.t 34),none⟩,⟨some 36,.faddr 3 (.t 7),(some (35,false))⟩,⟨some 37,.load none (.t 36),(some (35,false))⟩,⟨some 38,.faddr 3 (.t 8),(some (35,false))⟩,⟨some 39,.load none (.t 38),(some (35,false))⟩,⟨some 40,.eq true .pint (.t 37) (.t 39),(some (35,false))⟩,⟨some 41,.pick (.t 35) (.c (.lit (.bool true))) (.t 40),none⟩,⟨some 42,.mov (.t 41),none⟩,⟨some 43,.faddr 4 (.t 7),(some (42,false))⟩,⟨some 44,.load none (.t 43),(some (42,false))⟩,⟨some 45,.faddr 4 (.t 8),(some (42,false))⟩,⟨some 46,.load none (.t 45),(some (42,false))⟩,⟨some 47,.eq true .pint (.t 44) (.t 46),(some (42,false))⟩,⟨some 48,.pick (.t 42) (.c (.lit (.bool true))) (.t 47),none⟩,⟨some 49,.mov (.t 48),none⟩,⟨some 50,.faddr 5 (.t 7),(some (49,false))⟩,⟨some 51,.load none (.t 50),(some (49,false))⟩,⟨some 52,.faddr 5 (.t 8),(some (49,false))⟩,⟨some 53,.load none (.t 52),(some (49,false))⟩,⟨some 54,.call (.c (.fn (f_slices_Equal_sl_string_string N) [] [])) [(.t 51),(.t 53)],(some (49,false))⟩,⟨some 55,.un .not (.t 54),(some (49,false))⟩,⟨some 56,.pick (.t 49) (.c (.lit (.bool true))) (.t 55),none⟩,⟨some 57,.mov (.t 56),none⟩,⟨some 58,.faddr 6 (.t 7),(some (57,false))⟩,⟨some 59,.load none (.t 58),(some (57,false))⟩,⟨some 60,.len (.t 59),(some (57,false))⟩,⟨some 61,.faddr 6 (.t 8),(some (57,false))⟩,⟨some 62,.load none (.t 61),(some (57,false))⟩,⟨some 63,.len (.t 62),(some (57,false))⟩,⟨some 64,.eq true .pint (.t 60) (.t 63),(some (57,false))⟩,⟨some 65,.pick (.t 57) (.c (.lit (.bool true))) (.t 64),none⟩]) (
 .cond (.t 65) (
 .seq (
 .ops [⟨some 6,.mov (.c (.lit (.bool false))),none⟩]) (
 .ret)) (
 .skip))) (
 .seq (
 .seq (
 .ops [⟨some 66,.faddr 7 (.t 7),none⟩,⟨some 67,.load none (.t 66),none⟩,⟨some 68,.len (.t 67),none⟩,⟨some 69,.mov (.c (.lit (.int .i64 0))),none⟩]) (
 .block 0 (
 .loop (L_tree_two_terms_1 N)))) (K_tree_two_terms_1 N)))),false⟩

def L_tree_two_types_1 (N : Nat -> Nat) : AC :=
 .seq (
 .ops [⟨some 62,.bin .lss (.t 61) (.t 60),none⟩]) (
 .seq (
 .cond (.t 62) (
 .skip) (
 .exit 0)) (
 .seq (
 .block 1 (
 .seq (
 .ops [⟨some 63,.mov (.t 61),none⟩,⟨some 9,.mov (.t 63),none⟩]) (
 .seq (
 .dops 7 [⟨some 64,.load (some 6) (.t 3),none⟩,⟨some 65,.faddr 4 (.t 7),none⟩,⟨some 66,.load none (.t 65),none⟩,⟨some 67,.mov (.t 9),none⟩,⟨some 68,.iaddr 1 (.t 66) (.t 67),none⟩,⟨some 69,.load none (.t 68),none⟩,⟨some 70,.faddr 4 (.t 8),none⟩,⟨some 71,.load none (.t 70),none⟩,⟨some 72,.mov (.t 9),none⟩,⟨some 73,.iaddr 1 (.t 71) (.t 72),none⟩,⟨some 74,.load none (.t 73),none⟩,⟨some 75,.call (.c (.fn (f_tree_two_types N) [] [])) [(.t 64),(.t 69),(.t 74)],none⟩,⟨some 76,.un .not (.t 75),none⟩] [2,0,2,0,0,2,0,2,0,0,2,0,0] []) (
 .cond (.t 76) (
 .seq (
 .ops [⟨some 6,.mov (.c (.lit (.bool false))),none⟩]) (
 .ret)) (
 .skip))))) (
 .ops [⟨some 77,.bin .add (.t 61) (.c (.lit (.int .i64 1))),none⟩,⟨some 61,.mov (.t 77),none⟩])))
def K_tree_two_types_1 (N : Nat -> Nat) : AC :=
 .seq (
 .ops [⟨some 6,.mov (.c (.lit (.bool true))),none⟩]) (
 .ret)
def C_tree_two_types (N : Nat -> Nat) : AFunc := ⟨78,[.inl 6],
 .seq (
 .ops [⟨some 3,.box (t_tree_two N) (.t 0),none⟩,⟨some 6,.mov (.c (.lit (.bool false))),none⟩]) (
 .seq (
 .dops 1 [⟨some 10,.faddr 0 (.t 3),none⟩,⟨some 11,.faddr 1 (.t 10),none⟩,⟨some 12,.load none (.t 11),none⟩,⟨some 13,.mov (.t 1),none⟩,⟨some 14,.iaddr 6 (.t 12) (.t 13),none⟩,⟨some 15,.load (some 6) (.t 14),none⟩,⟨some 16,.faddr 3 (.t 3),none⟩,⟨some 17,.faddr 1 (.t 16),none⟩,⟨some 18,.load none (.t 17),none⟩,⟨some 19,.mov (.t 2),none⟩,⟨some 20,.iaddr 6 (.t 18) (.t 19),none⟩,⟨some 21,.load (some 6) (.t 20),none⟩,⟨some 7,.new (t_api_TypeNode N) (.agg [(.lit (.int .i64 0)),(.lit (.int .i64 0)),(.lit (.string (mkS []))),(.lit (.slice none 0 0)),(.lit (.slice none 0 0)),(.lit (.bool false))]),none⟩,⟨some 8,.new (t_api_TypeNode N) (.agg [(.lit (.int .i64 0)),(.lit (.int .i64 0)),(.lit (.string (mkS []))),(.lit (.slice none 0 0)),(.lit (.slice none 0 0)),(.lit (.bool false))]),none⟩,⟨none,.store 6 (.t 7) (.t 15),none⟩,⟨none,.store 6 (.t 8) (.t 21),none⟩] [0,0,2,0,0,2,0,0,2,0,0,2,1,1,3,0] []) (
 .seq (
 .seq (
 .ops [⟨some 22,.faddr 0 (.t 7),none⟩,⟨some 23,.load none (.t 22),none⟩,⟨some 24,.faddr 0 (.t 8),none⟩,⟨some 25,.load none (.t 24),none⟩,⟨some 26,.eq true .pint (.t 23) (.t 25),none⟩,⟨some 27,.mov (.t 26),none⟩,⟨some 28,.faddr 2 (.t 7),(some (27,false))⟩,⟨some 29,.load none (.t 28),(some (27,false))⟩,⟨some 30,.faddr 2 (.t 8),(some (27,false))⟩,⟨some 31,.load none (.t 30),(some (27,false))⟩,⟨some 32,.eq true .pstr (.t 29) (.t 31),(some (27,false))⟩,⟨some 33,.pick (.t 27) (.c (.lit (.bool true))) (.t 32),none⟩,⟨some 34,.mov (.t 33),none⟩,⟨some 35,.faddr 5 (.t 7),(some (34,false))⟩,⟨some 36,.load none (.t 35),(some (34,false))⟩,⟨some 37,.faddr 5 (.t 8),(some (34,false))⟩,⟨some 38,.load none (.t 37),(some (34,false))⟩,⟨some 39,.eq true .pbool (.t 36) (.t 38),(some (34,false))⟩,⟨some 40,.pick (.t 34) (.c (.lit (.bool true))) (.t 39),none⟩,⟨some 41,.mov (.t 40),none⟩,⟨some 42,.faddr 3 (.t 7),(some (41,false))⟩,⟨some 43,.load none (.t 42),(some (41,false))⟩,⟨some 44,.faddr 3 (.t 8),(some (41,false))⟩,⟨some 45,.load none (.t 44),(some (41,false))⟩,⟨some 46,.call (.c (.fn (f_slices_Equal_sl_string_string N) [] [])) [(.t 43),(.t 45)],(some (41,false))⟩,⟨some 47,.un .not (.t 46),(some (41,false))⟩,⟨some 48,.pick (.t 41) (.c (.lit (.bool true))) (.t 47),none⟩,⟨some 49,.mov (.t 48),none⟩,⟨some 50,.faddr 4 (.t 7),(some (49,false))⟩,⟨some 51,.load none (.t 50),(some (49,false))⟩,⟨some 52,.len (.t 51),(some (49,false))⟩,⟨some 53,.faddr 4 (.t 8),(some (49,false))⟩,⟨some 54,.load none (.t 53),(some (49,false))⟩,⟨some 55,.len (.t 54),(some (49,false))⟩,⟨some 56,.eq true .pint (.t 52) (.t 55),(some (49,false))⟩,⟨some 57,.pick (.t 49) (.c (.lit (.bool true))) (.t 56),none⟩]) (
 .cond (.t 57) (
 .seq (
 .ops [⟨some 6,.mov (.c (.lit (.bool false))),none⟩]) (
 .ret)) (
 .skip))) (
 .seq (
 .seq (
 .ops [⟨some 58,.faddr 4 (.t 7),none⟩,⟨some 59,.load none (.t 58),none⟩,⟨some 60,.len (.t 59),none⟩,⟨some 61,.mov (.c (.lit (.int .i64 0))),none⟩]) (
 .block 0 (
 .loop (L_tree_two_types_1 N)))) (K_tree_two_types_1 N)))),false⟩
end Go.Proofs.Eng
namespace Go.Proofs.Eng
open Go
section
variable {E : Env} {ρ : Rho} {H : Hp}
@[simp ↓] theorem wpE_mov {v0 : Opd} {R : List Nat} {d : Option Nat} {r : List AOper} {q : Nat} {qs : List Nat} {Q : Rho -> Hp -> Prop} : wpE E R (⟨d,.mov v0,none⟩ :: r) (q :: qs) ρ H Q = wpA E (lvQ q) (.mov v0) ρ H (fun v H' => wpE E R r qs (updO ρ d v) H' Q) := wpE_other rfl rfl
@[simp ↓] theorem wpE_new {v0 : TypeId} {v1 : AV} {R : List Nat} {d : Option Nat} {r : List AOper} {q : Nat} {qs : List Nat} {Q : Rho -> Hp -> Prop} : wpE E R (⟨d,.new v0 v1,none⟩ :: r) (q :: qs) ρ H Q = wpA E (lvQ q) (.new v0 v1) ρ H (fun v H' => wpE E R r qs (updO ρ d v) H' Q) := wpE_other rfl rfl
@[simp ↓] theorem wpE_faddr {v0 : Nat} {v1 : Opd} {R : List Nat} {d : Option Nat} {r : List AOper} {q : Nat} {qs : List Nat} {Q : Rho -> Hp -> Prop} : wpE E R (⟨d,.faddr v0 v1,none⟩ :: r) (q :: qs) ρ H Q = wpA E (lvQ q) (.faddr v0 v1) ρ H (fun v H' => wpE E R r qs (updO ρ d v) H' Q) := wpE_other rfl rfl
@[simp ↓] theorem wpE_iaddr {v0 : Nat} {v1 v2 : Opd} {R : List Nat} {d : Option Nat} {r : List AOper} {q : Nat} {qs : List Nat} {Q : Rho -> Hp -> Prop} : wpE E R (⟨d,.iaddr v0 v1 v2,none⟩ :: r) (q :: qs) ρ H Q = wpA E (lvQ q) (.iaddr v0 v1 v2) ρ H (fun v H' => wpE E R r qs (updO ρ d v) H' Q) := wpE_other rfl rfl
end
end Go.Proofs.Eng
namespace Go.Proofs.Eng
open Go
section
variable {Γ : Sums} {A : Tab} {N : Nat -> Nat}
structure TwoC (Γ : Sums) (A : Tab) (N : Nat -> Nat) : Prop where
 types : Has Γ A (f_tree_two_types N) (C_tree_two_types N)
 terms : Has Γ A (f_tree_two_terms N) (C_tree_two_terms N)
 equal : Has Γ A (f_slices_Equal_sl_string_string N) (C_slices_Equal_sl_string_string N)
theorem sliceEq_call (h : Has Γ A (f_slices_Equal_sl_string_string N) (C_slices_Equal_sl_string_string N)) {H : Hp} {x y : AV} {a : List (List UInt8)} (hx : VS H x a) (hy : VS H y a) (ha : a.length < 2 ^ 60) : (lim Γ A).call (f_slices_Equal_sl_string_string N) [x,y] H = some (avBool true,none) := by
 have lx := VS.len hx
 have ly := VS.len hy
 apply h.call (by rfl)
 simp [C_slices_Equal_sl_string_string,lx,ly,settle,keeps]
 refine wp_round (n := a.length) (fun m ρ H' => ∃ i : Nat,ρ 0 = x /\ ρ 1 = y /\ ρ 12 = avInt .i64 (a.length : Nat) /\ ρ 13 = avInt .i64 (i : Nat) /\ i <= a.length /\ H' = { l := H.l,d := none } /\ m = a.length - i) ⟨0,rfl,rfl,rfl,rfl,by omega,rfl,rfl⟩ ?_
 rintro m ρ H' ⟨i,r0,r1,r12,r13,hi,rfl,rfl⟩
 by_cases hlt : i < a.length
 ·have hlt' : (i : Int) < a.length := by omega
  obtain ⟨p,p1,p2⟩ := (hx.dd none).at' (k := .i64) (i := (i : Int)) (e := avStr a[i]) (by omega) (by simp [hlt]) rfl rfl rfl
  obtain ⟨q,q1,q2⟩ := (hy.dd none).at' (k := .i64) (i := (i : Int)) (e := avStr a[i]) (by omega) (by simp [hlt]) rfl rfl rfl
  have hw : IntKind.wrap .i64 ((i : Int) + 1) = ((i + 1 : Nat) : Int) := by rw [wrap64 (by omega) (by omega)]; omega
  simp [L_slices_Equal_sl_string_string_1,r0,r1,r12,r13,hlt',p1,p2,q1,q2,hw,-Int.natCast_add]
  exact ⟨a.length - (i + 1),by omega,i + 1,rfl,by omega,rfl⟩
 ·have hlt' : ¬ (i : Int) < a.length := by omega
  simp [L_slices_Equal_sl_string_string_1,K_slices_Equal_sl_string_string_1,r0,r1,r12,r13,hlt',settle,keeps]
theorem rid_lt {H : Hp} {n : Option Nat} {p v : AV} (h : aload H n p = some v) : ∀ id ∈ ridOf p,id < H.l.length := by
 intro id hid
 unfold aload at h
 split at h
 ·split at h
  ·rename_i e; simp [ridOf] at hid; subst hid; exact hget_lt e
  ·cases h
 ·split at h
  ·rename_i e; simp [ridOf] at hid; subst hid; exact hget_lt e
  ·cases h
 ·simp [ridOf] at hid
 ·cases h
def KidsY (l : List Ty) : Prop := ∀ (j : Nat) (n : Ty),l[j]? = some n -> ∀ k ∈ n.kids,0 <= k /\ k < (j : Int)
theorem two_types_call (h : TwoC Γ A N) {a1 b1 c1 a2 b2 c2 : AV} {ty : List Ty} (ho : a1.one = true /\ c1.one = true /\ a2.one = true /\ c2.one = true) (ok : ∀ n ∈ ty,n.ok) (hk : KidsY ty) : ∀ (f j : Nat) (H : Hp),j < f -> j < ty.length -> RowR TyR 6 H b1 ty -> RowR TyR 6 H b2 ty ->
  (lim Γ A).call (f_tree_two_types N) [.agg [a1,b1,c1,a2,b2,c2],avInt .i64 (j : Nat),avInt .i64 (j : Nat)] H = some (avBool true,none)
 | 0,j,H,hf,_,_,_ => by omega
 | f + 1,j,H,hf,hj,h1,h2 => by
  obtain ⟨o1,o2,o3,o4⟩ := ho
  obtain ⟨xs,x1,x2,x3⟩ := id h1
  obtain ⟨ys,y1,y2,y3⟩ := id h2
  obtain ⟨n,hn⟩ : ∃ n,ty[j]? = some n := ⟨_,List.getElem?_eq_getElem hj⟩
  have okn := ok n (List.mem_of_getElem? hn)
  obtain ⟨na,nb,e1,va,vb⟩ := x3 j xs[j] n (List.getElem?_eq_getElem (by omega)) hn
  obtain ⟨ma,mb,e2,wa,wb⟩ := y3 j ys[j] n (List.getElem?_eq_getElem (by omega)) hn
  have hx : xs[j]? = some (tyV n na nb) := by rw [List.getElem?_eq_getElem (by omega),e1]
  have hy : ys[j]? = some (tyV n ma mb) := by rw [List.getElem?_eq_getElem (by omega),e2]
  have pa := va.one
  have pb := vb.one
  have qa := wa.one
  have qb := wb.one
  have u1 := x1.one
  have u2 := y1.one
  obtain ⟨Hb,hHb⟩ : ∃ Hb,Hb = halloc { l := H.l,d := none } (.cells [a1,b1,c1,a2,b2,c2] (t_tree_two N)) := ⟨_,rfl⟩
  have kb : Keep H Hb := by rw [hHb]; exact keep_box H none _
  have hbox : hget Hb H.l.length = some (.cells [a1,b1,c1,a2,b2,c2] (t_tree_two N)) := by subst hHb; simp
  have hHb' := hHb.symm
  have hlb : Hb.l.length = H.l.length + 1 := by subst hHb; simp
  obtain ⟨p,p1,p2⟩ := (kb.vw x1).ats (k := .i64) (ys := [avInt .i64 n.kind,avInt .i64 n.pos,avStr n.name,na,nb,avBool n.opn]) hx rfl (by simp [pa,pb])
  obtain ⟨q,q1,q2⟩ := (kb.vw y1).ats (k := .i64) (ys := [avInt .i64 n.kind,avInt .i64 n.pos,avStr n.name,ma,mb,avBool n.opn]) hy rfl (by simp [qa,qb])
  have np : ¬ Hb.l.length ∈ ridOf p := fun hm => Nat.lt_irrefl _ (rid_lt p2 _ hm)
  have nq : ¬ Hb.l.length ∈ ridOf q := fun hm => Nat.lt_irrefl _ (rid_lt q2 _ hm)
  simp only [ridOf] at np nq
  have nb0 : ¬ Hb.l.length = H.l.length := by omega
  obtain ⟨cz,hcz⟩ : ∃ cz,cz = AObj.cells [.lit (.int .i64 0),.lit (.int .i64 0),.lit (.string (mkS [])),.lit (.slice none 0 0),.lit (.slice none 0 0),.lit (.bool false)] (t_api_TypeNode N) := ⟨_,rfl⟩
  obtain ⟨cm,hcm⟩ : ∃ cm,cm = AObj.cells [avInt .i64 n.kind,avInt .i64 n.pos,avStr n.name,na,nb,avBool n.opn] (t_api_TypeNode N) := ⟨_,rfl⟩
  obtain ⟨cn,hcn⟩ : ∃ cn,cn = AObj.cells [avInt .i64 n.kind,avInt .i64 n.pos,avStr n.name,ma,mb,avBool n.opn] (t_api_TypeNode N) := ⟨_,rfl⟩
  obtain ⟨H3,hH3⟩ : ∃ H3,H3 = hset (hset (halloc (halloc Hb cz) cz) Hb.l.length (some cm)) (Hb.l.length + 1) (some cn) := ⟨_,rfl⟩
  have hM0 : Mut { l := H.l,d := none } Hb [] := by rw [hHb]; exact (Mut.refl _ _).alloc _
  have hM3 : Mut { l := H.l,d := none } H3 [] := by
   rw [hH3]
   exact (((hM0.alloc _).alloc _).set (.inr (by simp only [hlb]; omega))).set (.inr (by simp only [hlb]; omega))
  have k3 : Keep H H3 := fun id hid => hM3.get hid (by simp)
  have f1 : hget H3 H.l.length = some (.cells [a1,b1,c1,a2,b2,c2] (t_tree_two N)) := by
   rw [hH3,hget_hset,if_neg (by omega),hget_hset,if_neg (by omega),hget_halloc,if_neg (by simp; omega),hget_halloc,if_neg (by omega)]
   exact hbox
  have f2 : hget H3 Hb.l.length = some cm := by
   rw [hH3,hget_hset,if_neg (by omega),hget_hset,if_pos rfl]
   simp
  have f3 : hget H3 (Hb.l.length + 1) = some cn := by
   rw [hH3,hget_hset,if_pos rfl]
   simp
  have hfin := settle_keeps (H := H) (H' := H3) (v := avBool true) (hM3.keeps rfl) (by rfl)
  have ee := sliceEq_call h.equal (k3.vw va) (k3.vw wa) (by have := okn.2.2.1; omega)
  have ln := VI.len vb
  have lm := VI.len wb
  have hkl := okn.2.2.2
  have hH3' := hH3.symm
  rw [hcz,hcm,hcn] at hH3'
  rw [hcm] at f2
  rw [hcn] at f3
  apply h.types.call (by rfl)
  simp [C_tree_two_types,o1,o2,o3,o4,u1,u2,hHb',hbox,loadC,p1,p2,q1,q2,pa,pb,qa,qb,np,nq,nb0,hH3',ee,f2,f3,ln,lm,-halloc_d,-hset_d]
  refine wp_round (n := n.kids.length) (fun m ρ H' => ∃ i : Nat,ρ 3 = .ptr H.l.length 0 /\ ρ 7 = .ptr Hb.l.length 0 /\ ρ 8 = .ptr (Hb.l.length + 1) 0 /\ ρ 60 = avInt .i64 (n.kids.length : Nat) /\ ρ 61 = avInt .i64 (i : Nat) /\ i <= n.kids.length /\ H' = H3 /\ m = n.kids.length - i) ⟨0,rfl,rfl,rfl,rfl,rfl,by omega,rfl,rfl⟩ ?_
  rintro m ρ H' ⟨i,r3,r7,r8,r60,r61,hi,rfl,rfl⟩
  by_cases hlt : i < n.kids.length
  ·have hlt' : (i : Int) < n.kids.length := by omega
   obtain ⟨k0,k1⟩ := hk j n hn n.kids[i] (List.getElem_mem hlt)
   obtain ⟨kn,hkn⟩ := Int.eq_ofNat_of_zero_le k0
   obtain ⟨p',t1,t2⟩ := (k3.vw vb).at' (k := .i64) (i := (i : Int)) (e := avInt .i64 (kn : Nat)) (by omega) (by simp [hlt,hkn]) rfl rfl rfl
   obtain ⟨q',s1,s2⟩ := (k3.vw wb).at' (k := .i64) (i := (i : Int)) (e := avInt .i64 (kn : Nat)) (by omega) (by simp [hlt,hkn]) rfl rfl rfl
   have ih := two_types_call h ⟨o1,o2,o3,o4⟩ ok hk f kn H' (by omega) (by omega) (k3.row (fun _ _ => k3.ty) h1) (k3.row (fun _ _ => k3.ty) h2)
   have hw : IntKind.wrap .i64 ((i : Int) + 1) = ((i + 1 : Nat) : Int) := by rw [wrap64 (by omega) (by omega)]; omega
   simp [L_tree_two_types_1,r3,r7,r8,r60,r61,hlt',f1,f2,f3,t1,t2,s1,s2,o1,o2,o3,o4,u1,u2,loadC,ih,hw,-Int.natCast_add]
   exact ⟨n.kids.length - (i + 1),by omega,i + 1,rfl,by omega,rfl⟩
  ·have hlt' : ¬ (i : Int) < n.kids.length := by omega
   simp [L_tree_two_types_1,K_tree_two_types_1,r3,r7,r8,r60,r61,hlt',hfin]
theorem two_terms_call (h : TwoC Γ A N) {a1 b1 c1 a2 b2 c2 : AV} {ty : List Ty} {nd : List Nd} (ho : c1.one = true /\ c2.one = true) (ok : ∀ n ∈ ty,n.ok) (okN : ∀ n ∈ nd,n.ok) (hk : KidsY ty) (hkN : ∀ (j : Nat) (n : Nd),nd[j]? = some n -> (∀ k ∈ n.kids,0 <= k /\ k < (j : Int)) /\ ∀ k ∈ n.types,0 <= k /\ k < (ty.length : Int)) : ∀ (f j : Nat) (H : Hp),j < f -> j < nd.length -> RowR NdR 8 H a1 nd -> RowR NdR 8 H a2 nd -> RowR TyR 6 H b1 ty -> RowR TyR 6 H b2 ty ->
  (lim Γ A).call (f_tree_two_terms N) [.agg [a1,b1,c1,a2,b2,c2],avInt .i64 (j : Nat),avInt .i64 (j : Nat)] H = some (avBool true,none)
 | 0,j,H,hf,_,_,_,_,_ => by omega
 | f + 1,j,H,hf,hj,h1,h2,g1,g2 => by
  obtain ⟨o2,o4⟩ := ho
  have o1 := g1.one
  have o3 := g2.one
  obtain ⟨xs,x1,x2,x3⟩ := id h1
  obtain ⟨ys,y1,y2,y3⟩ := id h2
  obtain ⟨n,hn⟩ : ∃ n,nd[j]? = some n := ⟨_,List.getElem?_eq_getElem hj⟩
  have okn := okN n (List.mem_of_getElem? hn)
  obtain ⟨na,nb,nc,e1,va,vb,vc⟩ := x3 j xs[j] n (List.getElem?_eq_getElem (by omega)) hn
  obtain ⟨ma,mb,mc,e2,wa,wb,wc⟩ := y3 j ys[j] n (List.getElem?_eq_getElem (by omega)) hn
  have hx : xs[j]? = some (ndV n na nb nc) := by rw [List.getElem?_eq_getElem (by omega),e1]
  have hy : ys[j]? = some (ndV n ma mb mc) := by rw [List.getElem?_eq_getElem (by omega),e2]
  have pa := va.one
  have pb := vb.one
  have pc := vc.one
  have qa := wa.one
  have qb := wb.one
  have qc := wc.one
  have u1 := x1.one
  have u2 := y1.one
  obtain ⟨Hb,hHb⟩ : ∃ Hb,Hb = halloc { l := H.l,d := none } (.cells [a1,b1,c1,a2,b2,c2] (t_tree_two N)) := ⟨_,rfl⟩
  have kb : Keep H Hb := by rw [hHb]; exact keep_box H none _
  have hbox : hget Hb H.l.length = some (.cells [a1,b1,c1,a2,b2,c2] (t_tree_two N)) := by subst hHb; simp
  have hHb' := hHb.symm
  have hlb : Hb.l.length = H.l.length + 1 := by subst hHb; simp
  obtain ⟨p,p1,p2⟩ := (kb.vw x1).ats (k := .i64) (ys := [avInt .i64 n.kind,avInt .i64 n.pos,avStr n.name,avInt .i64 n.int,avInt .u64 n.bits,na,nb,nc]) hx rfl (by simp [pa,pb,pc])
  obtain ⟨q,q1,q2⟩ := (kb.vw y1).ats (k := .i64) (ys := [avInt .i64 n.kind,avInt .i64 n.pos,avStr n.name,avInt .i64 n.int,avInt .u64 n.bits,ma,mb,mc]) hy rfl (by simp [qa,qb,qc])
  have np : ¬ Hb.l.length ∈ ridOf p := fun hm => Nat.lt_irrefl _ (rid_lt p2 _ hm)
  have nq : ¬ Hb.l.length ∈ ridOf q := fun hm => Nat.lt_irrefl _ (rid_lt q2 _ hm)
  simp only [ridOf] at np nq
  have nb0 : ¬ Hb.l.length = H.l.length := by omega
  obtain ⟨cz,hcz⟩ : ∃ cz,cz = AObj.cells [.lit (.int .i64 0),.lit (.int .i64 0),.lit (.string (mkS [])),.lit (.int .i64 0),.lit (.int .u64 0),.lit (.slice none 0 0),.lit (.slice none 0 0),.lit (.slice none 0 0)] (t_api_Node N) := ⟨_,rfl⟩
  obtain ⟨cm,hcm⟩ : ∃ cm,cm = AObj.cells [avInt .i64 n.kind,avInt .i64 n.pos,avStr n.name,avInt .i64 n.int,avInt .u64 n.bits,na,nb,nc] (t_api_Node N) := ⟨_,rfl⟩
  obtain ⟨cn,hcn⟩ : ∃ cn,cn = AObj.cells [avInt .i64 n.kind,avInt .i64 n.pos,avStr n.name,avInt .i64 n.int,avInt .u64 n.bits,ma,mb,mc] (t_api_Node N) := ⟨_,rfl⟩
  obtain ⟨H3,hH3⟩ : ∃ H3,H3 = hset (hset (halloc (halloc Hb cz) cz) Hb.l.length (some cm)) (Hb.l.length + 1) (some cn) := ⟨_,rfl⟩
  have hM0 : Mut { l := H.l,d := none } Hb [] := by rw [hHb]; exact (Mut.refl _ _).alloc _
  have hM3 : Mut { l := H.l,d := none } H3 [] := by
   rw [hH3]
   exact (((hM0.alloc _).alloc _).set (.inr (by simp only [hlb]; omega))).set (.inr (by simp only [hlb]; omega))
  have k3 : Keep H H3 := fun id hid => hM3.get hid (by simp)
  have f1 : hget H3 H.l.length = some (.cells [a1,b1,c1,a2,b2,c2] (t_tree_two N)) := by
   rw [hH3,hget_hset,if_neg (by omega),hget_hset,if_neg (by omega),hget_halloc,if_neg (by simp; omega),hget_halloc,if_neg (by omega)]
   exact hbox
  have f2 : hget H3 Hb.l.length = some cm := by
   rw [hH3,hget_hset,if_neg (by omega),hget_hset,if_pos rfl]
   simp
  have f3 : hget H3 (Hb.l.length + 1) = some cn := by
   rw [hH3,hget_hset,if_pos rfl]
   simp
  have hfin := settle_keeps (H := H) (H' := H3) (v := avBool true) (hM3.keeps rfl) (by rfl)
  have ee := sliceEq_call h.equal (k3.vw va) (k3.vw wa) (by have := okn.2.2.1; omega)
  have ln := VI.len vb
  have lm := VI.len wb
  have lc := VI.len vc
  have hkl := okn.2.2.2.1
  have hkt := okn.2.2.2.2
  have hH3' := hH3.symm
  rw [hcz,hcm,hcn] at hH3'
  rw [hcm] at f2
  rw [hcn] at f3
  apply h.terms.call (by rfl)
  simp [C_tree_two_terms,o1,o2,o3,o4,u1,u2,hHb',hbox,loadC,p1,p2,q1,q2,pa,pb,pc,qa,qb,qc,np,nq,nb0,hH3',ee,f2,f3,ln,lm,lc,-halloc_d,-hset_d]
  refine wp_round (n := n.types.length) (fun m ρ H' => ∃ i : Nat,ρ 3 = .ptr H.l.length 0 /\ ρ 7 = .ptr Hb.l.length 0 /\ ρ 8 = .ptr (Hb.l.length + 1) 0 /\ ρ 68 = avInt .i64 (n.types.length : Nat) /\ ρ 69 = avInt .i64 (i : Nat) /\ i <= n.types.length /\ H' = H3 /\ m = n.types.length - i) ⟨0,rfl,rfl,rfl,rfl,rfl,by omega,rfl,rfl⟩ ?_
  rintro m ρ H' ⟨i,r3,r7,r8,r68,r69,hi,rfl,rfl⟩
  by_cases hlt : i < n.types.length
  ·have hlt' : (i : Int) < n.types.length := by omega
   obtain ⟨k0,k1⟩ := (hkN j n hn).2 n.types[i] (List.getElem_mem hlt)
   obtain ⟨kn,hkn⟩ := Int.eq_ofNat_of_zero_le k0
   obtain ⟨p',t1,t2⟩ := (k3.vw vc).at' (k := .i64) (i := (i : Int)) (e := avInt .i64 (kn : Nat)) (by omega) (by simp [hlt,hkn]) rfl rfl rfl
   obtain ⟨q',s1,s2⟩ := (k3.vw wc).at' (k := .i64) (i := (i : Int)) (e := avInt .i64 (kn : Nat)) (by omega) (by simp [hlt,hkn]) rfl rfl rfl
   have ih := two_types_call h ⟨u1,o2,u2,o4⟩ ok hk (kn + 1) kn H' (by omega) (by omega) (k3.row (fun _ _ => k3.ty) g1) (k3.row (fun _ _ => k3.ty) g2)
   have hw : IntKind.wrap .i64 ((i : Int) + 1) = ((i + 1 : Nat) : Int) := by rw [wrap64 (by omega) (by omega)]; omega
   simp [L_tree_two_terms_1,r3,r7,r8,r68,r69,hlt',f1,f2,f3,t1,t2,s1,s2,o1,o2,o3,o4,u1,u2,loadC,ih,hw,-Int.natCast_add]
   exact ⟨n.types.length - (i + 1),by omega,i + 1,rfl,by omega,rfl⟩
  ·have hlt' : ¬ (i : Int) < n.types.length := by omega
   simp [L_tree_two_terms_1,K_tree_two_terms_1,r3,r7,r8,r68,r69,hlt',f2,ln,loadC]
   refine wp_round (n := n.kids.length) (fun m ρ H'' => ∃ i : Nat,ρ 3 = .ptr H.l.length 0 /\ ρ 7 = .ptr Hb.l.length 0 /\ ρ 8 = .ptr (Hb.l.length + 1) 0 /\ ρ 88 = avInt .i64 (n.kids.length : Nat) /\ ρ 89 = avInt .i64 (i : Nat) /\ i <= n.kids.length /\ H'' = H' /\ m = n.kids.length - i) ⟨0,r3,r7,r8,rfl,rfl,by omega,rfl,rfl⟩ ?_
   rintro m2 ρ2 H'' ⟨i2,r3,r7,r8,r88,r89,hi2,rfl,rfl⟩
   by_cases hlt2 : i2 < n.kids.length
   ·have hlt2' : (i2 : Int) < n.kids.length := by omega
    obtain ⟨k0,k1⟩ := (hkN j n hn).1 n.kids[i2] (List.getElem_mem hlt2)
    obtain ⟨kn,hkn⟩ := Int.eq_ofNat_of_zero_le k0
    obtain ⟨p',t1,t2⟩ := (k3.vw vb).at' (k := .i64) (i := (i2 : Int)) (e := avInt .i64 (kn : Nat)) (by omega) (by simp [hlt2,hkn]) rfl rfl rfl
    obtain ⟨q',s1,s2⟩ := (k3.vw wb).at' (k := .i64) (i := (i2 : Int)) (e := avInt .i64 (kn : Nat)) (by omega) (by simp [hlt2,hkn]) rfl rfl rfl
    have ih := two_terms_call h ⟨o2,o4⟩ ok okN hk hkN f kn H'' (by omega) (by omega) (k3.row (fun _ _ => k3.nd) h1) (k3.row (fun _ _ => k3.nd) h2) (k3.row (fun _ _ => k3.ty) g1) (k3.row (fun _ _ => k3.ty) g2)
    have hw : IntKind.wrap .i64 ((i2 : Int) + 1) = ((i2 + 1 : Nat) : Int) := by rw [wrap64 (by omega) (by omega)]; omega
    simp [L_tree_two_terms_2,r3,r7,r8,r88,r89,hlt2',f1,f2,f3,t1,t2,s1,s2,o1,o2,o3,o4,u1,u2,loadC,ih,hw,-Int.natCast_add]
    exact ⟨n.kids.length - (i2 + 1),by omega,i2 + 1,rfl,by omega,rfl⟩
   ·have hlt2' : ¬ (i2 : Int) < n.kids.length := by omega
    simp [L_tree_two_terms_2,K_tree_two_terms_2,r3,r7,r8,r88,r89,hlt2',hfin]
end
end Go.Proofs.Eng
namespace Go.Proofs.Eng
open Go
theorem alsS_true {ty : Nat} : ∀ {l : List Al} {cy r : List Int},alsS ty l cy = some r -> ∀ n ∈ l,0 <= n.type /\ n.type < (ty : Int)
 | [],cy,r,h => by simp
 | a :: l,cy,r,h => by
  unfold alsS at h
  split at h
  ·split at h
   ·rename_i cy' e
    have := noteS_true e a.type (by simp)
    intro n hn
    rcases List.mem_cons.1 hn with rfl | hn
    ·exact this
    ·exact alsS_true h n hn
   ·cases h
  ·cases h
theorem endS_als {t : Tr} {ct cy : List Int} (h : endS t ct cy = true) : ∀ n ∈ t.als,0 <= n.type /\ n.type < (t.types.length : Int) := by
 unfold endS at h
 split at h
 ·split at h
  ·rename_i e; exact alsS_true e
  ·cases h
 ·cases h
section
variable {Γ : Sums} {A : Tab} {N : Nat -> Nat}
theorem same_call (hc : TreeC Γ A N) (h2 : TwoC Γ A N) (h : Has Γ A (f_tree_Same N) (C_tree_Same N)) {H : Hp} {x y : AV} {t : Tr} (hx : TrR H x t) (hy : TrR H y t) (ok : t.ok) (hb : t.nodes.length < 2 ^ 30 /\ t.types.length < 2 ^ 30 /\ t.als.length < 2 ^ 30) (hck : checkB t = true) : (lim Γ A).call (f_tree_Same N) [x,y] H = some (avBool true,none) := by
 obtain ⟨a1,b1,c1,rfl,ra1,rb1,rc1⟩ := id hx
 obtain ⟨a2,b2,c2,rfl,ra2,rb2,rc2⟩ := id hy
 obtain ⟨hne,_,_,ct,cy,hn1,hn2⟩ := checkB_parts hck
 have hkN : ∀ (j : Nat) (n : Nd),t.nodes[j]? = some n -> (∀ k ∈ n.kids,0 <= k /\ k < (j : Int)) /\ ∀ k ∈ n.types,0 <= k /\ k < (t.types.length : Int) := fun j n hj => by
  have := nodesS_true hn1 j n hj
  exact ⟨by simpa using this.1,this.2.1⟩
 obtain ⟨_,hty⟩ := endS_types hn2
 have hkY : KidsY t.types := fun j n hj => by have := (typesS_true hty j n hj).1; simpa using this
 have hal := endS_als hn2
 have o1 := ra1.one
 have o2 := rb1.one
 have o3 := rc1.one
 have o4 := ra2.one
 have o5 := rb2.one
 have o6 := rc2.one
 have la1 := ra1.len
 have la2 := ra2.len
 have lc1 := rc1.len
 have lc2 := rc2.len
 obtain ⟨H2,hH2⟩ : ∃ H2,H2 = halloc (halloc { l := H.l,d := none } (.cells [a1,b1,c1] (t_api_Tree N))) (.cells [a2,b2,c2] (t_api_Tree N)) := ⟨_,rfl⟩
 have hM2 : Mut { l := H.l,d := none } H2 [] := by rw [hH2]; exact ((Mut.refl _ _).alloc _).alloc _
 have k2 : Keep H H2 := fun id hid => hM2.get hid (by simp)
 have hl2 : H2.l.length = H.l.length + 2 := by rw [hH2]; simp
 have f1 : hget H2 H.l.length = some (.cells [a1,b1,c1] (t_api_Tree N)) := by rw [hH2]; simp
 have f2 : hget H2 (H.l.length + 1) = some (.cells [a2,b2,c2] (t_api_Tree N)) := by rw [hH2]; simp
 have e1 := check_call hc (k2.tr hx) ok hb
 have e2 := check_call hc (k2.tr hy) ok hb
 rw [hck] at e1 e2
 have e1' : (lim Γ A).call (f_tree_Check N) [.agg [a1,b1,c1]] H2 = some (avInt .i64 0,none) := e1
 have e2' : (lim Γ A).call (f_tree_Check N) [.agg [a2,b2,c2]] H2 = some (avInt .i64 0,none) := e2
 have hH2' := hH2.symm
 obtain ⟨H3,hH3⟩ : ∃ H3,H3 = hset (halloc H2 (.cells [.lit (.slice none 0 0),.lit (.slice none 0 0),.lit (.slice none 0 0),.lit (.slice none 0 0),.lit (.slice none 0 0),.lit (.slice none 0 0)] (t_tree_two N))) H2.l.length (some (.cells [a1,b1,c1,a2,b2,c2] (t_tree_two N))) := ⟨_,rfl⟩
 have hM3 : Mut { l := H.l,d := none } H3 [] := by rw [hH3]; exact (hM2.alloc _).set (.inr (by simp only [hl2]; omega))
 have k3 : Keep H H3 := fun id hid => hM3.get hid (by simp)
 have g1 : hget H3 H.l.length = some (.cells [a1,b1,c1] (t_api_Tree N)) := by rw [hH3,hget_hset,if_neg (by omega),hget_halloc,if_neg (by omega)]; exact f1
 have g2 : hget H3 (H.l.length + 1) = some (.cells [a2,b2,c2] (t_api_Tree N)) := by rw [hH3,hget_hset,if_neg (by omega),hget_halloc,if_neg (by omega)]; exact f2
 have g3 : hget H3 H2.l.length = some (.cells [a1,b1,c1,a2,b2,c2] (t_tree_two N)) := by rw [hH3,hget_hset,if_pos rfl]; simp
 have hH3' := hH3.symm
 have hfin := settle_keeps (H := H) (H' := H3) (v := avBool true) (hM3.keeps rfl) (by rfl)
 obtain ⟨xs,x1,x2,x3⟩ := id (k3.row (fun _ _ h => h) rc1)
 obtain ⟨ys,y1,y2,y3⟩ := id (k3.row (fun _ _ h => h) rc2)
 have h0 : 0 < t.nodes.length := List.length_pos_iff.2 hne
 have et := two_terms_call h2 ⟨o3,o6⟩ ok.2.1 ok.1 hkY hkN t.nodes.length (t.nodes.length - 1) H3 (by omega) (by omega) (k3.row (fun _ _ => k3.nd) ra1) (k3.row (fun _ _ => k3.nd) ra2) (k3.row (fun _ _ => k3.ty) rb1) (k3.row (fun _ _ => k3.ty) rb2)
 have hwn : IntKind.wrap .i64 ((t.nodes.length : Int) - 1) = ((t.nodes.length - 1 : Nat) : Int) := by rw [wrap64 (by omega) (by omega)]; omega
 apply h.call (by rfl)
 simp [C_tree_Same,o1,o2,o3,o4,o5,o6,hH2',f1,f2,e1',e2',lc1,lc2,hH3',g1,g2,loadC,-halloc_d,-hset_d]
 refine wp_round (n := t.als.length) (fun m ρ H' => ∃ i : Nat,ρ 2 = .ptr H.l.length 0 /\ ρ 3 = .ptr (H.l.length + 1) 0 /\ ρ 5 = .ptr H2.l.length 0 /\ ρ 29 = avInt .i64 (t.als.length : Nat) /\ ρ 30 = avInt .i64 (i : Nat) /\ i <= t.als.length /\ H' = H3 /\ m = t.als.length - i) ⟨0,rfl,rfl,rfl,rfl,rfl,by omega,rfl,rfl⟩ ?_
 rintro m ρ H' ⟨i,r2,r3,r5,r29,r30,hi,rfl,rfl⟩
 by_cases hlt : i < t.als.length
 ·have hlt' : (i : Int) < t.als.length := by omega
  obtain ⟨al,hal1⟩ : ∃ al,t.als[i]? = some al := ⟨_,List.getElem?_eq_getElem hlt⟩
  obtain ⟨k0,k1⟩ := hal al (List.mem_of_getElem? hal1)
  obtain ⟨kn,hkn⟩ := Int.eq_ofNat_of_zero_le k0
  have p1 : xs[i]? = some (.agg [avStr al.name,avInt .i64 (kn : Nat),avInt .i64 al.pos]) := by
   rw [List.getElem?_eq_getElem (by omega)]; have := x3 i xs[i] al (List.getElem?_eq_getElem (by omega)) hal1; unfold AlR alV at this; rw [this,hkn]
  have p2 : ys[i]? = some (.agg [avStr al.name,avInt .i64 (kn : Nat),avInt .i64 al.pos]) := by
   rw [List.getElem?_eq_getElem (by omega)]; have := y3 i ys[i] al (List.getElem?_eq_getElem (by omega)) hal1; unfold AlR alV at this; rw [this,hkn]
  obtain ⟨u1,v1,s1,s2,s3⟩ := x1.atf (k := .i64) (off := 0) p1 rfl rfl rfl
  obtain ⟨u2,v2,s4,s5,s6⟩ := x1.atf (k := .i64) (off := 1) p1 rfl rfl rfl
  obtain ⟨u3,v3,s7,s8,s9⟩ := y1.atf (k := .i64) (off := 0) p2 rfl rfl rfl
  obtain ⟨u4,v4,s10,s11,s12⟩ := y1.atf (k := .i64) (off := 1) p2 rfl rfl rfl
  have hu : u1 = u2 := by rw [s1] at s4; exact Option.some.inj s4
  have hu' : u3 = u4 := by rw [s7] at s10; exact Option.some.inj s10
  subst hu
  subst hu'
  have ih := two_types_call h2 ⟨o1,o3,o4,o6⟩ ok.2.1 hkY (kn + 1) kn H' (by omega) (by omega) (k3.row (fun _ _ => k3.ty) rb1) (k3.row (fun _ _ => k3.ty) rb2)
  have hw : IntKind.wrap .i64 ((i : Int) + 1) = ((i + 1 : Nat) : Int) := by rw [wrap64 (by omega) (by omega)]; omega
  simp [L_tree_Same_1,r2,r3,r5,r29,r30,hlt',g1,g2,g3,s1,s2,s3,s5,s6,s7,s8,s9,s11,s12,o1,o2,o3,o4,o5,o6,loadC,ih,hw,-Int.natCast_add]
  exact ⟨t.als.length - (i + 1),by omega,i + 1,rfl,by omega,rfl⟩
 ·have hlt' : ¬ (i : Int) < t.als.length := by omega
  simp [L_tree_Same_1,K_tree_Same_1,r2,r3,r5,r29,r30,hlt',g1,g2,g3,la1,la2,o1,o2,o3,o4,o5,o6,loadC,hwn,et,hfin]
end
end Go.Proofs.Eng
namespace Go.Proofs.Eng
open Go
theorem kidsD_snoc {R : List Int} {k : Int} : ∀ {ks : List Int} {acc : Int},kidsD R acc (ks ++ [k]) = max (kidsD R acc ks) (R.getD k.toNat 0)
 | [],acc => rfl
 | a :: r,acc => by
  show kidsD R (max acc (R.getD a.toNat 0)) (r ++ [k]) = max (kidsD R (max acc (R.getD a.toNat 0)) r) (R.getD k.toNat 0)
  exact kidsD_snoc
theorem getD_left {l r : List Int} {i : Nat} (h : i < l.length) : (l ++ r).getD i 0 = l.getD i 0 := by
 rw [List.getD_eq_getElem?_getD,List.getD_eq_getElem?_getD,List.getElem?_append_left h]
theorem getD_last {l : List Int} {x : Int} {i : Nat} (h : i = l.length) : (l ++ [x]).getD i 0 = x := by
 subst h
 rw [List.getD_eq_getElem?_getD]; simp
def KidsN (T : Nat) (l : List Nd) : Prop := ∀ (i : Nat) (n : Nd),l[i]? = some n -> (∀ k ∈ n.kids,0 <= k /\ k < i) /\ ∀ k ∈ n.types,0 <= k /\ k < T
theorem tyD_get : ∀ (l : List Ty),KidsY l -> ∀ (i : Nat) (n : Ty),l[i]? = some n -> (tyD l).getD i 0 = bump (kidsD (tyD l) 0 n.kids) := by
 intro l
 induction l using snocInd with
 | nil => intro _ i n h; simp at h
 | append_singleton l x ih =>
  intro hk i n hi
  have hk' : KidsY l := fun j m hj => hk j m (by rw [List.getElem?_append_left (List.getElem?_eq_some_iff.1 hj).1]; exact hj)
  have hkn := hk i n hi
  rw [tyD_snoc]
  by_cases hlt : i < l.length
  ·rw [List.getElem?_append_left hlt] at hi
   rw [getD_left (by rw [tyD_len]; exact hlt),ih hk' i n hi,kidsD_app (fun k hk2 => by have := hkn k hk2; rw [tyD_len]; omega)]
  ·have h2 := (List.getElem?_eq_some_iff.1 hi).1
   have : i = l.length := by simp at h2; omega
   subst this
   simp at hi
   subst hi
   rw [getD_last (tyD_len l).symm,kidsD_app (fun k hk2 => by have := hkn k hk2; rw [tyD_len]; omega)]
theorem ndD_get {ty : List Int} : ∀ (l : List Nd),KidsN ty.length l -> ∀ (i : Nat) (n : Nd),l[i]? = some n -> (ndD ty l).getD i 0 = bump (kidsD ty (kidsD (ndD ty l) 0 n.kids) n.types) := by
 intro l
 induction l using snocInd with
 | nil => intro _ i n h; simp at h
 | append_singleton l x ih =>
  intro hk i n hi
  have hk' : KidsN ty.length l := fun j m hj => hk j m (by rw [List.getElem?_append_left (List.getElem?_eq_some_iff.1 hj).1]; exact hj)
  have hkn := (hk i n hi).1
  rw [ndD_snoc]
  by_cases hlt : i < l.length
  ·rw [List.getElem?_append_left hlt] at hi
   rw [getD_left (by rw [ndD_len]; exact hlt),ih hk' i n hi,kidsD_app (fun k hk2 => by have := hkn k hk2; rw [ndD_len]; omega)]
  ·have h2 := (List.getElem?_eq_some_iff.1 hi).1
   have : i = l.length := by simp at h2; omega
   subst this
   simp at hi
   subst hi
   rw [getD_last (ndD_len ty l).symm,kidsD_app (fun k hk2 => by have := hkn k hk2; rw [ndD_len]; omega)]
theorem TrR.kidY {H : Hp} {a b c : AV} {t : Tr} (h : TrR H (.agg [a,b,c]) t) {i : Nat} {n : Ty} (hi : t.types[i]? = some n) {k : IntKind} : ∃ p q v,aiaddr 6 b (.lit (.int k (i : Int))) = some p /\ afaddr 4 p = some q /\ aload H none q = some v /\ VI H v n.kids := by
 obtain ⟨a',b',c',e,_,⟨xs,x1,x2,x3⟩,_⟩ := h
 cases e
 have hlt : i < xs.length := by rw [x2]; exact (List.getElem?_eq_some_iff.1 hi).1
 obtain ⟨na,nb,e,v1,v2⟩ := x3 i xs[i] n (List.getElem?_eq_getElem hlt) hi
 obtain ⟨p,q,h1,h2,h3⟩ := x1.atf (k := k) (i := i) (off := 4) (ys := [avInt .i64 n.kind,avInt .i64 n.pos,avStr n.name,na,nb,avBool n.opn]) (v := nb) (by rw [List.getElem?_eq_getElem hlt,e]; rfl) rfl (by simp [v1.one,v2.one]) rfl
 exact ⟨p,q,nb,h1,h2,h3,v2⟩
theorem TrR.tys {H : Hp} {a b c : AV} {t : Tr} (h : TrR H (.agg [a,b,c]) t) {i : Nat} {nd : Nd} (hi : t.nodes[i]? = some nd) {k : IntKind} : ∃ p q v,aiaddr 8 a (.lit (.int k (i : Int))) = some p /\ afaddr 7 p = some q /\ aload H none q = some v /\ VI H v nd.types := by
 obtain ⟨a',b',c',e,⟨xs,x1,x2,x3⟩,_,_⟩ := h
 cases e
 have hlt : i < xs.length := by rw [x2]; exact (List.getElem?_eq_some_iff.1 hi).1
 obtain ⟨na,nb,nc,e,v1,v2,v3⟩ := x3 i xs[i] nd (List.getElem?_eq_getElem hlt) hi
 obtain ⟨p,q,h1,h2,h3⟩ := x1.atf (k := k) (i := i) (off := 7) (ys := [avInt .i64 nd.kind,avInt .i64 nd.pos,avStr nd.name,avInt .i64 nd.int,avInt .u64 nd.bits,na,nb,nc]) (v := nc) (by rw [List.getElem?_eq_getElem hlt,e]; rfl) rfl (by simp [v1.one,v2.one,v3.one]) rfl
 exact ⟨p,q,nc,h1,h2,h3,v3⟩
section
variable {Γ : Sums} {A : Tab} {N : Nat -> Nat}
theorem ref04_depthType_call (h : Has Γ A (f_ref04_depthType N) (C_ref04_depthType N)) {t : Tr} (hkt : KidsY t.types) (ok : ∀ n ∈ t.types,n.ok) (hT : t.types.length < 2 ^ 30) : ∀ (i : Nat) (H : Hp) {a b c : AV},TrR H (.agg [a,b,c]) t -> i < t.types.length ->
  (lim Γ A).call (f_ref04_depthType N) [.agg [a,b,c],avInt .i64 i] H = some (avInt .i64 ((tyD t.types).getD i 0),none) := by
 intro i
 induction i using Nat.strongRecOn with
 | _ i ih =>
 intro H a b c hx hi
 obtain ⟨_,_,_,e,ra,rb,rc⟩ := id hx
 cases e
 have pa := ra.one
 have pb := rb.one
 have pc := rc.one
 obtain ⟨Hb,hHb⟩ : ∃ Hb,Hb = halloc { l := H.l,d := none } (.cells [a,b,c] (t_api_Tree N)) := ⟨_,rfl⟩
 have hxb : TrR Hb (.agg [a,b,c]) t := by rw [hHb]; exact (keep_box H none _).tr hx
 have hbox : hget Hb H.l.length = some (.cells [a,b,c] (t_api_Tree N)) := by rw [hHb]; simp
 have hset : ∀ n : Int,settle H (avInt .i64 n) Hb = (avInt .i64 n,none) := fun n => by rw [hHb]; simp [settle,keeps]
 obtain ⟨n,hn⟩ : ∃ n,t.types[i]? = some n := ⟨t.types[i],List.getElem?_eq_getElem hi⟩
 obtain ⟨p,q,v,p1,p2,p3,hv⟩ := hxb.kidY hn (k := .i64)
 have lv := VI.len hv
 have okn := (ok n (List.mem_of_getElem? hn)).2.2.2
 have hkn := hkt i n hn
 have hgd := tyD_get t.types hkt i n hn
 apply h.call (by rfl)
 simp [C_ref04_depthType,pa,pb,pc,<- hHb,hbox,loadC,p1,p2,p3,lv,-Int.natCast_add,-halloc_d]
 refine wp_round (fun k ρ G => G = Hb /\ ∃ j : Nat,ρ 2 = .ptr H.l.length 0 /\ ρ 5 = avInt .i64 (kidsD (tyD t.types) 0 (n.kids.take j)) /\ ρ 13 = v /\ ρ 14 = avInt .i64 n.kids.length /\ ρ 15 = avInt .i64 j /\ j <= n.kids.length /\ k = n.kids.length - j) (n := n.kids.length)
  ⟨rfl,0,by simp,by simp [kidsD],by simp,by simp,by simp,by omega,rfl⟩ ?_
 rintro k ρ G ⟨rfl,j,r2,r5,r13,r14,r15,hj,rfl⟩
 by_cases hlt : j < n.kids.length
 ·have hlt' : (j : Int) < n.kids.length := by omega
  obtain ⟨s,s1,s2⟩ := hv.at' (k := .i64) (i := (j : Int)) (e := avInt .i64 n.kids[j]) (by omega) (by simp [List.getElem?_eq_getElem hlt]) rfl rfl rfl
  have hkj := hkn _ (List.getElem_mem hlt)
  have hw : IntKind.wrap .i64 ((j : Int) + 1) = ((j + 1 : Nat) : Int) := by rw [wrap64 (by omega) (by omega)]; omega
  have htk : n.kids.take (j + 1) = n.kids.take j ++ [n.kids[j]] := List.take_succ_eq_append_getElem hlt
  generalize n.kids[j] = kk at *
  have ec := ih kk.toNat (by omega) _ hxb (by omega)
  rw [Int.toNat_of_nonneg hkj.1] at ec
  simp [L_ref04_depthType_1,r2,r5,r13,r14,r15,hlt',s1,s2,hbox,loadC,ec,hw,-Int.natCast_add]
  exact ⟨n.kids.length - (j + 1),by omega,j + 1,by rw [htk,kidsD_snoc]; rfl,rfl,by omega,rfl⟩
 ·have hlt' : ¬ (j : Int) < n.kids.length := by omega
  have hje : j = n.kids.length := by omega
  subst hje
  rw [List.take_length] at r5
  simp [L_ref04_depthType_1,K_ref04_depthType_1,r2,r5,r13,r14,r15,-Int.natCast_add]
  rw [show IntKind.wrap .i64 (kidsD (tyD t.types) 0 n.kids + 1) = (tyD t.types).getD i 0 from hgd.symm]
  simp [hset]
end
end Go.Proofs.Eng
