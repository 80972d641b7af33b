import Derived.Test.YtcmdnlpkplaapaaM27
/- One token: strings and signs. -/
set_option linter.unusedVariables false
set_option linter.unusedSimpArgs false
set_option maxRecDepth 100000
namespace Go.Proofs.Eng
open Go
section
variable {Γ : Sums} {A : Tab} {N : Nat -> Nat}

theorem signs_loop (h : LexO Γ A N) {s : List UInt8} {ρ : Rho} {H : Hp} {Q : Post} {a b c : AV} {p : Nat} {t : TypeId} (h0 : ρ 0 = avStr s) (h2 : ρ 2 = .ptr p 0) (h115 : ρ 115 = .sl 1 (signsL.map avStr)) (h116 : ρ 116 = avInt .i64 27) (h117 : ρ 117 = avInt .i64 0)
  (hg : hget H p = some (.cells [a,b,c] t)) (hp : p < H.l.length)
  (hR : ∀ (ρ' : Rho) (x : List UInt8),signsL.find? (fun x => x.isPrefixOf s) = some x -> ρ' 2 = .ptr p 0 -> ρ' 3 = avInt .i64 x.length -> Q .ret ρ' (hset H p (some (.cells [avInt .i64 8,avStr x,avInt .i64 0] t))))
  (hE : signsL.find? (fun x => x.isPrefixOf s) = none -> ∀ ρ' : Rho,ρ' 2 = .ptr p 0 -> Q (.exit 1) ρ' H) : wp (lim Γ A) none (.loop (L_lexer_one_1 N)) ρ H Q := by
 refine wp_round (fun k ρ H' => H' = H /\ ∃ i : Nat,ρ 0 = avStr s /\ ρ 2 = .ptr p 0 /\ ρ 115 = .sl 1 (signsL.map avStr) /\ ρ 116 = avInt .i64 27 /\ ρ 117 = avInt .i64 i /\ i <= 27 /\ signsL.find? (fun x => x.isPrefixOf s) = (signsL.drop i).find? (fun x => x.isPrefixOf s) /\ k = 27 - i) (n := 27)
  ⟨rfl,0,h0,h2,h115,h116,h117,by omega,rfl,rfl⟩ ?_
 rintro k ρ H' ⟨rfl,i,h0,h2,h115,h116,h117,hi,hf,rfl⟩
 have h27 : signsL.length = 27 := rfl
 by_cases hlt : i < 27
 ·have hlt' : (i : Int) < 27 := by omega
  have hls : i < signsL.length := by omega
  have ha := aiaddr_sln (sz := 1) (xs := signsL.map avStr) (k := .i64) (i := i) (x := avStr signsL[i]) (by simp [hls]) rfl
  rw [List.drop_eq_getElem_cons hls] at hf
  have hpre := HasPrefix_call h.T.strs s signsL[i]
  generalize signsL[i] = x at *
  cases hx : x.isPrefixOf s
  ·rw [hx] at hpre
   rw [List.find?_cons,hx] at hf
   have hw : IntKind.wrap .i64 ((i : Int) + 1) = ((i + 1 : Nat) : Int) := by rw [wrap64 (by omega) (by omega)]; omega
   simp [L_lexer_one_1,h0,h2,h115,h116,h117,hlt',ha,aload,hpre,hw,-Int.natCast_add]
   refine ⟨27 - (i + 1),by omega,i + 1,rfl,by omega,hf,rfl⟩
  ·rw [hx] at hpre
   rw [List.find?_cons,hx] at hf
   simp [L_lexer_one_1,h0,h2,h115,h116,h117,hlt',ha,aload,hpre,astore,hg,setFrom,-Int.natCast_add]
   refine hR _ x hf ?_ ?_
   ·simp [h2]
   ·simp
 ·have hlt' : ¬ (i : Int) < 27 := by omega
  rw [List.drop_of_length_le (by omega)] at hf
  simp [L_lexer_one_1,h0,h2,h115,h116,h117,hlt']
  refine hE hf _ ?_
  simp [h2]

section
variable (h : LexO Γ A N) {c : UInt8} {r s : List UInt8} (hsd : c :: r = s) (hl : s.length < 2 ^ 36) (H : Hp)
variable (hp : [102,39].isPrefixOf s = false) (h1 : isLow c = false) (h2 : isHigh c = false) (h3 : isDigit c = false)
include h hsd hl hp h1 h2 h3
theorem lone_str (h4 : c.toNat = 34) : (lim Γ A).call (f_lexer_one N) [avStr s] H = some (match textB r with | none => .tup [tokV 0 [] 0,avInt .i64 0] | some (t,n) => .tup [tokV 6 t 0,avInt .i64 ((n + 1 : Nat) : Int)],none) := by
 have hx : asidx (avStr s) (.lit (.int .i64 0)) = some (avByte c) := by
  subst hsd
  exact asidx_nat (k := .i64) (s := c :: r) (i := 0) (by simp)
 have hsl : s.length = r.length + 1 := by rw [<- hsd]; rfl
 have hpre := HasPrefix_call h.T.strs s [102,39]
 rw [hp] at hpre
 have hlow := lexer_low_call h.S c
 rw [h1] at hlow
 have hhigh := lexer_high_call h.S c
 rw [h2] at hhigh
 have hdig := lexer_digit_call h.S c
 rw [h3] at hdig
 have h4' : (c.toNat : Int) = 34 := by omega
 have hfr : aslstr (avStr s) (some (.lit (.int .i64 1))) none = some (avStr r) := by
  have := aslstr_from (k := .i64) (s := s) (i := 1) (by omega) (by show 1 <= _; omega)
  rw [this,<- hsd]; rfl
 have htx := lexer_text_call h.T r (by omega)
 apply h.one.call (by rfl)
 cases ht : textB r with
 | none =>
  rw [textV,ht] at htx
  simp only [] at htx
  simp [C_lexer_one,hx,hpre,hlow,hhigh,hdig,h4',hfr,htx,tokV,settle_cell,-Int.natCast_add]
 | some q =>
  obtain ⟨t,n⟩ := q
  rw [textV,ht] at htx
  simp only [] at htx
  have hn := textB_le r ht
  have hn' : ¬ (n : Int) < 0 := by omega
  have hw : IntKind.wrap .i64 ((n : Int) + 1) = ((n + 1 : Nat) : Int) := by rw [wrap64 (by omega) (by omega)]; omega
  simp [C_lexer_one,hx,hpre,hlow,hhigh,hdig,h4',hfr,htx,hn',hw,tokV,settle_cell,-Int.natCast_add]
theorem lone_signs (h4 : c.toNat ≠ 34) (h5 : (decide (c.toNat = 35) && (r.head?.map isLow).getD false) = false) :
  (lim Γ A).call (f_lexer_one N) [avStr s] H = some (match signsL.find? (fun x => x.isPrefixOf s) with | none => .tup [tokV 0 [] 0,avInt .i64 0] | some x => .tup [tokV 8 x 0,avInt .i64 x.length],none) := by
 have hx : asidx (avStr s) (.lit (.int .i64 0)) = some (avByte c) := by
  subst hsd
  exact asidx_nat (k := .i64) (s := c :: r) (i := 0) (by simp)
 have hsl : s.length = r.length + 1 := by rw [<- hsd]; rfl
 have hpre := HasPrefix_call h.T.strs s [102,39]
 rw [hp] at hpre
 have hlow := lexer_low_call h.S c
 rw [h1] at hlow
 have hhigh := lexer_high_call h.S c
 rw [h2] at hhigh
 have hdig := lexer_digit_call h.S c
 rw [h3] at hdig
 have h4' : ¬ (c.toNat : Int) = 34 := by omega
 have hsg := lexer_signs_call h.S
 apply h.one.call (by rfl)
 have tail : ∀ ρ : Rho,ρ 0 = avStr s -> ρ 2 = .ptr H.l.length 0 -> ρ 115 = .sl 1 (signsL.map avStr) -> ρ 116 = avInt .i64 27 -> ρ 117 = avInt .i64 0 ->
   wp (lim Γ A) none (.loop (L_lexer_one_1 N)) ρ (halloc { l := H.l,d := none } (.cells [.lit (.int .i64 0),.lit (.string (mkS [])),.lit (.int .i64 0)] (t_api_Token N)))
    (blockP 1 (seqP (lim Γ A) none (K_lexer_one_1 N) (Ends (C_lexer_one N).results (C_lexer_one N).frz H fun p => p = (match signsL.find? (fun x => x.isPrefixOf s) with | none => .tup [tokV 0 [] 0,avInt .i64 0] | some x => .tup [tokV 8 x 0,avInt .i64 x.length],none)))) := by
  intro ρ r0 r2 r115 r116 r117
  refine signs_loop h r0 r2 r115 r116 r117 (a := .lit (.int .i64 0)) (b := .lit (.string (mkS []))) (c := .lit (.int .i64 0)) (t := t_api_Token N) (by simp) (by simp) ?_ ?_
  ·intro ρ' x hx r2 r3
   simp [C_lexer_one,hx,r2,r3,aload,tokV,settle_cell]
  ·intro hx ρ' r2
   simp [C_lexer_one,K_lexer_one_1,hx,r2,aload,astore,setFrom,tokV,settle_cell]
 by_cases c35 : c.toNat = 35
 ·have c35' : (c.toNat : Int) = 35 := by omega
  by_cases hr : r.length = 0
  ·have hl1 : ¬ (1 : Int) < s.length := by omega
   simp [C_lexer_one,hx,hpre,hlow,hhigh,hdig,c35',hl1,hsg,asLen]
   refine tail _ ?_ ?_ ?_ ?_ ?_ <;> simp [signsL]
  ·obtain ⟨d,r',rfl⟩ : ∃ d r',r = d :: r' := by cases r with | nil => exact absurd rfl hr | cons d r' => exact ⟨d,r',rfl⟩
   have hl1 : (1 : Int) < s.length := by omega
   have hx1 : asidx (avStr s) (.lit (.int .i64 1)) = some (avByte d) := by
    have := asidx_nat (k := .i64) (s := s) (i := 1) (by omega)
    subst hsd
    exact this
   have hd : isLow d = false := by simpa [c35] using h5
   have hlowd := lexer_low_call h.S d
   rw [hd] at hlowd
   simp [C_lexer_one,hx,hpre,hlow,hhigh,hdig,c35',hl1,hx1,hlowd,hsg,asLen]
   refine tail _ ?_ ?_ ?_ ?_ ?_ <;> simp [signsL]
 ·have c35' : ¬ (c.toNat : Int) = 35 := by omega
  simp [C_lexer_one,hx,hpre,hlow,hhigh,hdig,c35',h4',hsg,asLen]
  refine tail _ ?_ ?_ ?_ ?_ ?_ <;> simp [signsL]
end
theorem lexer_one_call (h : LexO Γ A N) (s : List UInt8) (hne : s ≠ []) (hl : s.length < 2 ^ 36) (H : Hp) : (lim Γ A).call (f_lexer_one N) [avStr s] H = some (oneV s,none) := by
 obtain ⟨c,r,hsd⟩ : ∃ c r,c :: r = s := by cases s with | nil => exact absurd rfl hne | cons c r => exact ⟨c,r,rfl⟩
 have hone : oneB s = oneC c r s := by rw [<- hsd]; rfl
 unfold oneV
 rw [hone]
 unfold oneC
 cases hp : [102,39].isPrefixOf s
 ·cases h1 : isLow c
  ·cases h2 : isHigh c
   ·cases h3 : isDigit c
    ·cases h5 : (decide (c.toNat = 35) && (r.head?.map isLow).getD false)
     ·by_cases h4 : c.toNat = 34
      ·rw [lone_str h hsd hl H hp h1 h2 h3 h4]
       simp only [Bool.false_eq_true,if_false,h4,if_true]
       cases textB r <;> rfl
      ·rw [lone_signs h hsd hl H hp h1 h2 h3 h4 h5]
       simp only [Bool.false_eq_true,if_false,h4]
       cases signsL.find? (fun x => x.isPrefixOf s) <;> rfl
     ·rw [Bool.and_eq_true,decide_eq_true_eq] at h5
      obtain ⟨d,r',hr⟩ : ∃ d r',r = d :: r' := by
       cases r with
       | nil => simp at h5
       | cons d r' => exact ⟨d,r',rfl⟩
      rw [one_tag h hsd hl H hp h1 h2 h3 h5.1 hr (by rw [hr] at h5; simpa using h5.2)]
      simp
    ·rw [one_digit h hsd hl H hp h1 h2 h3]
     cases numberB (s.take (runB isDigit s)) <;> simp
   ·rw [one_high h hsd hl H hp h1 h2]
    simp
  ·rw [one_low h hsd hl H hp h1]
   simp
 ·rw [one_float h hsd hl H hp]
  cases floatOk s <;> simp
end
end Go.Proofs.Eng
namespace Go.Proofs.Eng
open Go
section
variable {Γ : Sums} {A : Tab} {N : Nat -> Nat}

abbrev Tok := Nat × List UInt8 × Nat
def tokA (t : Tok) : AV := tokV t.1 t.2.1 t.2.2
theorem tokA_good (t : Tok) : ((tokA t).good && (tokA t).cells.length == 3) = true := rfl
theorem runB_pos {p : UInt8 -> Bool} {c : UInt8} {r : List UInt8} (h : p c = true) : 1 <= runB p (c :: r) := by simp [runB,h]
theorem oneB_pos {s : List UInt8} {k : Nat} {t : List UInt8} {n : Nat} (h : oneB s = some (k,t,n)) : 1 <= n /\ n <= s.length := by
 cases s with
 | nil => simp [oneB] at h
 | cons c r =>
  simp only [oneB,oneC] at h
  have rl := fun p => runB_le p (c :: r)
  split at h
  ·split at h
   ·rename_i hf
    simp only [Option.some.injEq,Prod.mk.injEq] at h
    simp only [floatOk,Bool.and_eq_true,decide_eq_true_eq] at hf
    omega
   ·simp at h
  ·split at h
   ·rename_i h1
    simp only [Option.some.injEq,Prod.mk.injEq] at h
    have := runB_pos (p := isInName) (c := c) (r := r) (by simp [isInName,h1])
    have := rl isInName
    omega
   ·split at h
    ·rename_i h1
     simp only [Option.some.injEq,Prod.mk.injEq] at h
     have := runB_pos (p := isInAlias) (c := c) (r := r) (by simp [isInAlias,h1])
     have := rl isInAlias
     omega
    ·split at h
     ·rename_i h1
      split at h
      ·simp only [Option.some.injEq,Prod.mk.injEq] at h
       have := runB_pos (p := isDigit) (c := c) (r := r) h1
       have := rl isDigit
       omega
      ·simp at h
     ·split at h
      ·simp only [Option.some.injEq,Prod.mk.injEq] at h
       have := runB_le isInName r
       simp only [List.length_cons]
       omega
      ·split at h
       ·simp only [Option.map_eq_some_iff,Prod.mk.injEq,Prod.exists] at h
        obtain ⟨t',n',h1,h2,h3,h4⟩ := h
        have := textB_le r h1
        simp only [List.length_cons]
        omega
       ·simp only [Option.map_eq_some_iff,Prod.mk.injEq] at h
        obtain ⟨x,h1,h2,h3,h4⟩ := h
        have h5 := List.mem_of_find?_eq_some h1
        have h6 := List.find?_some h1
        have h7 := (List.isPrefixOf_iff_prefix.1 h6).length_le
        have h8 : ∀ x ∈ signsL,1 <= x.length := by decide
        have := h8 x h5
        omega

theorem hget_small {H : Hp} {i : Nat} {o : AObj} (h : hget H i = some o) : i < H.l.length := by
 rcases Nat.lt_or_ge i H.l.length with h1 | h1
 ·exact h1
 ·simp [hget,List.getElem?_eq_none h1] at h
def tokF : Nat -> Nat -> List UInt8 -> List Tok × Option Nat
 | 0,_,_ => ([],none)
 | k + 1,at',s =>
  if s = [] then ([(0,[],at')],none)
  else match oneB s with
   | none => ([],some at')
   | some (kd,t,n) =>
    let q := tokF k (at' + n + blankB (s.drop n)) ((s.drop n).drop (blankB (s.drop n)))
    ((kd,t,at') :: q.1,q.2)
theorem tokF_fuel : ∀ (k j at' : Nat) (s : List UInt8),s.length < k -> s.length < j -> tokF k at' s = tokF j at' s
 | 0,_,_,_,h,_ => by omega
 | _,0,_,_,_,h => by omega
 | k + 1,j + 1,at',s,h1,h2 => by
  simp only [tokF]
  split
  ·rfl
  ·cases h : oneB s with
   | none => rfl
   | some q =>
    obtain ⟨kd,t,n⟩ := q
    have hp := oneB_pos h
    simp only []
    rw [tokF_fuel k j _ _ (by simp only [List.length_drop]; omega) (by simp only [List.length_drop]; omega)]
theorem tokF_some {k at' : Nat} {s : List UInt8} {kd n : Nat} {t : List UInt8} (hs : s ≠ []) (h : oneB s = some (kd,t,n)) :
  tokF (k + 1) at' s = ((kd,t,at') :: (tokF k (at' + n + blankB (s.drop n)) ((s.drop n).drop (blankB (s.drop n)))).1,(tokF k (at' + n + blankB (s.drop n)) ((s.drop n).drop (blankB (s.drop n)))).2) := by
 simp only [tokF,hs,if_false,h]
def tokR (at' : Nat) (s : List UInt8) : List Tok × Option Nat := tokF (s.length + 1) at' s
theorem tokR_nil (at' : Nat) : tokR at' [] = ([(0,[],at')],none) := rfl
theorem tokR_none {at' : Nat} {s : List UInt8} (hs : s ≠ []) (h : oneB s = none) : tokR at' s = ([],some at') := by
 simp [tokR,tokF,hs,h]
theorem tokR_some {at' : Nat} {s : List UInt8} {kd n : Nat} {t : List UInt8} (hs : s ≠ []) (h : oneB s = some (kd,t,n)) :
  tokR at' s = ((kd,t,at') :: (tokR (at' + n + blankB (s.drop n)) ((s.drop n).drop (blankB (s.drop n)))).1,(tokR (at' + n + blankB (s.drop n)) ((s.drop n).drop (blankB (s.drop n)))).2) := by
 have hp := oneB_pos h
 unfold tokR
 rw [tokF_some hs h,tokF_fuel s.length (((s.drop n).drop (blankB (s.drop n))).length + 1) _ _ (by simp only [List.length_drop]; omega) (by omega)]
def lexR (b : List UInt8) : List Tok × Nat × Nat :=
 if 1048576 < b.length then ([],6,0)
 else if stopOf b ≠ b.length then ([],2,stopOf b)
 else match tokR (blankB b) (b.drop (blankB b)) with
  | (l,none) => (l,0,0)
  | (_,some p) => ([],3,p)
def diagV (e p : Nat) : AV := .agg [avInt .i64 e,avInt .i64 p,avStr []]

theorem frz_tok {L : HL} {n k : Nat} (t : Tok) : frz L n (k + 2) (tokA t) = some (tokA t) := by
 simp [tokA,tokV,frz,List.mapM_cons]
theorem frz_diag {L : HL} {n k e p : Nat} : frz L n (k + 2) (diagV e p) = some (diagV e p) := by
 simp [diagV,frz,List.mapM_cons]
theorem mapM_self {α : Type} {f : α -> Option α} : ∀ {l : List α},(∀ x ∈ l,f x = some x) -> l.mapM f = some l
 | [],_ => by simp
 | a :: l,h => by
  rw [List.mapM_cons,h a List.mem_cons_self,mapM_self (l := l) fun x hx => h x (List.mem_cons_of_mem _ hx)]
  rfl

structure LexA (Γ : Sums) (A : Tab) (N : Nat -> Nat) : Prop extends LexO Γ A N where
 runes : RunesAll Γ A N
 bad : Has Γ A (f_runes_Bad N) (C_runes_Bad N)
 lex : Has Γ A (f_lexer_Lex N) (C_lexer_Lex N)

theorem lexer_Lex_call (h : LexA Γ A N) {x : AV} {b : List UInt8} (H : Hp) (hx : VBytes H x b) (hl : b.length < 2 ^ 36) :
  ∃ u,(lim Γ A).call (f_lexer_Lex N) [x] H = some (.tup [u,diagV (lexR b).2.1 (lexR b).2.2],none) /\ Fzr 3 u ((lexR b).1.map tokA) := by
 obtain ⟨R,hR⟩ : ∃ R : AV × Option Hp -> Prop,R = fun r => ∃ u,r = (.tup [u,diagV (lexR b).2.1 (lexR b).2.2],none) /\ Fzr 3 u ((lexR b).1.map tokA) := ⟨_,rfl⟩
 have key : ∃ r,(lim Γ A).call (f_lexer_Lex N) [x] H = some r /\ R r := by
  apply h.lex.callP (by rfl)
  have hlen := Vw.len hx
  rw [List.length_map] at hlen
  have fail : ∀ (e p : Nat) (H' : Hp) (os : List (Nat × AObj)),Loc H H' os -> lexR b = ([],e,p) -> R (settleZ true H (.tup [avNilS,diagV e p]) H') := by
   intro e p H' os hL hr
   rw [settleZ_frz (u := .tup [avNilS,diagV e p]) hL.keeps (by rw [frz_tup,mapM_cons',mapM_cons',frz_diag]; simp [frz]),hR]
   exact ⟨_,by rw [hr],.inl ⟨rfl,by rw [hr]; rfl⟩⟩
  by_cases hlong : 1048576 < b.length
  ·have hlong' : (1048576 : Int) < b.length := by omega
   simp [C_lexer_Lex,hlen,hlong',aload,astore,setFrom]
   exact fail 6 0 _ _ (((Loc.start H).alloc _).set _) (by simp [lexR,hlong])
  ·have hlong' : ¬ (1048576 : Int) < b.length := by omega
   have hL0 := (Loc.start H).alloc (.cells [.lit (.int .i64 0),.lit (.int .i64 0),.lit (.string (mkS []))] (t_api_Diag N))
   have hx0 := Vw.loc hx hL0
   have hbad := runes_Bad_call h.runes h.bad _ hx0 (by omega)
   by_cases hst : stopOf b = b.length
   ·have hb0 : badOf b = -1 := by simp [badOf,hst]
    rw [hb0] at hbad
    have hstr := VBytes.str hx0
    have hbl := lexer_blank_call h.T h.S b hl
    simp [C_lexer_Lex,hlen,hlong',hbad,hstr,hbl]
    have hz := blankB_le b
    refine wp_round (fun k ρ H' => ∃ (at' : Nat) (l : List Tok) (p : AV) (os : List (Nat × AObj)),ρ 3 = .ptr H.l.length 0 /\ ρ 5 = p /\ ρ 6 = avStr b /\ ρ 7 = avInt .i64 at' /\ at' <= b.length /\ l.length <= at' /\ Row (t_api_Token N) 3 p (l.map tokA) os /\
      Loc H H' (os ++ [(H.l.length,.cells [.lit (.int .i64 0),.lit (.int .i64 0),.lit (.string (mkS []))] (t_api_Diag N))]) /\
      tokR (blankB b) (b.drop (blankB b)) = (l ++ (tokR at' (b.drop at')).1,(tokR at' (b.drop at')).2) /\ k = b.length - at') (n := b.length - blankB b) ?_ ?_
    ·refine ⟨blankB b,[],_,[],?_,rfl,?_,?_,hz,by simp,Row.nil _ _,hL0,by simp,rfl⟩ <;> simp
    ·rintro k ρ H' ⟨at',l,p,os,h3,h5,h6,h7,hat,hll,hp,hL,ht,rfl⟩
     have hgd := hL.get (List.mem_append_right _ List.mem_cons_self)
     simp only [] at hgd
     have hnl : ¬ H.l.length = H'.l.length := by
      intro e
      rw [e] at hgd
      simp [hget] at hgd
     by_cases hlt : at' < b.length
     ·have hlt' : (at' : Int) < b.length := by omega
      have hne : b.drop at' ≠ [] := by
       intro e
       have := congrArg List.length e
       simp at this
       omega
      have hone := lexer_one_call h.toLexO (b.drop at') hne (by simp; omega) H'
      have hf := aslstr_from (k := .i64) (s := b) (i := (at' : Int)) (by omega) (by simpa using hat)
      simp only [Int.toNat_natCast] at hf
      unfold oneV at hone
      cases ho : oneB (b.drop at') with
      | none =>
       rw [ho] at hone
       simp only [] at hone
       rw [tokR_none hne ho] at ht
       have hL1 := (hL.alloc (.cells [.lit (.int .i64 0),.lit (.string (mkS [])),.lit (.int .i64 0)] (t_api_Token N))).set (.cells [avInt .i64 0,avStr [],avInt .i64 0] (t_api_Token N))
       have hlt3 : H.l.length < H'.l.length + 1 := by have := hget_small hgd; omega
       have hL2 := Loc.setMid (as := (H'.l.length,_) :: os) (bs := []) hL1 (.cells [avInt .i64 3,avInt .i64 at',avStr []] (t_api_Diag N))
       have hlx : lexR b = ([],3,at') := by
        unfold lexR
        rw [if_neg hlong,if_neg (by simpa using hst),ht]
       simp [L_lexer_Lex_1,h3,h5,h6,h7,hlt',hf,hone,aload,astore,setFrom,tokV,hgd,hnl,hlt3,-Int.natCast_add]
       exact fail 3 at' _ _ hL2 hlx
      | some q =>
       obtain ⟨kd,t,n⟩ := q
       rw [ho] at hone
       simp only [] at hone
       have hpos := oneB_pos ho
       rw [tokR_some hne ho] at ht
       have hn0 : ¬ n = 0 := by omega
       rw [List.length_drop] at hpos
       have hL1 := ((hL.alloc (.cells [.lit (.int .i64 0),.lit (.string (mkS [])),.lit (.int .i64 0)] (t_api_Token N))).set (.cells [avInt .i64 kd,avStr t,avInt .i64 (0 : Nat)] (t_api_Token N))).set (.cells [avInt .i64 kd,avStr t,avInt .i64 at'] (t_api_Token N))
       have hL2 := hL1.perm (os' := os ++ (H'.l.length,.cells [avInt .i64 kd,avStr t,avInt .i64 at'] (t_api_Token N)) :: [(H.l.length,.cells [.lit (.int .i64 0),.lit (.int .i64 0),.lit (.string (mkS []))] (t_api_Diag N))]) List.perm_middle.symm
       obtain ⟨q0,v,H2,os',q1,q2,q3⟩ := hp.push (e' := t_api_Token N) (bytes := 32) (y := tokA (kd,t,at')) hL2 (by simp [roomMax]; omega) (tokA_good _)
       have hll : (hset (hset (halloc H' (.cells [.lit (.int .i64 0),.lit (.string (mkS [])),.lit (.int .i64 0)] (t_api_Token N))) H'.l.length (some (.cells [avInt .i64 kd,avStr t,avInt .i64 (0 : Nat)] (t_api_Token N)))) H'.l.length (some (.cells [avInt .i64 kd,avStr t,avInt .i64 at'] (t_api_Token N)))).l.length = H'.l.length + 1 := by simp
       rw [hll] at q0
       simp only [tokA,tokV,Int.natCast_zero] at q0 q1
       have hw : IntKind.wrap .i64 ((at' : Int) + (n : Int)) = ((at' + n : Nat) : Int) := by rw [wrap64 (by omega) (by omega)]; omega
       have hf2 := aslstr_from (k := .i64) (s := b) (i := ((at' + n : Nat) : Int)) (by omega) (by omega)
       simp only [Int.toNat_natCast] at hf2
       have hb2 := lexer_blank_call h.T h.S (b.drop (at' + n)) (by simp; omega)
       have hble := blankB_le (b.drop (at' + n))
       rw [List.length_drop] at hble
       have hw2 : IntKind.wrap .i64 (((at' + n : Nat) : Int) + (blankB (b.drop (at' + n)) : Int)) = ((at' + n + blankB (b.drop (at' + n)) : Nat) : Int) := by rw [wrap64 (by omega) (by omega)]; omega
       simp [L_lexer_Lex_1,h3,h5,h6,h7,hlt',hf,hone,aload,astore,setFrom,tokV,hn0,afaddr,q0,q1,hw,hf2,hb2,hw2,-Int.natCast_add]
       refine ⟨_,?_,at' + n + blankB (b.drop (at' + n)),rfl,by omega,l ++ [(kd,t,at')],by simp; omega,os',by simpa [tokA,tokV] using q2,?_,?_,rfl⟩
       ·omega
       ·exact q3.sub (List.Sublist.append (List.Sublist.refl _) ((List.Sublist.refl _).cons _))
       ·rw [ht]
        simp [List.drop_drop,Nat.add_assoc]
     ·have hlt' : ¬ (at' : Int) < b.length := by omega
      have hab : at' = b.length := by omega
      rw [show b.drop at' = [] from List.drop_of_length_le (by omega),tokR_nil] at ht
      obtain ⟨q0,v,H2,os',q1,q2,q3⟩ := hp.push (e' := t_api_Token N) (bytes := 32) (y := tokA (0,[],b.length)) hL (by simp [roomMax]; omega) (tokA_good _)
      have hgd2 := q3.get (List.mem_append_right _ List.mem_cons_self)
      simp only [] at hgd2
      simp only [tokA,tokV,Int.natCast_zero] at q0 q1
      have hlt4 := hget_small hgd2
      have fin : R (settleZ true H (.tup [v,diagV 0 0]) (hset H2 H.l.length (some (.cells [.lit (.int .i64 0),.lit (.int .i64 0),.lit (.string (mkS []))] (t_api_Diag N))))) := by
       have hL2 := q3.setMid (.cells [.lit (.int .i64 0),.lit (.int .i64 0),.lit (.string (mkS []))] (t_api_Diag N))
       obtain ⟨u,f1,f2⟩ := Row.frz (k := 14) q2 hL2 (mapM_self (by
        intro y hy
        have hy2 : y ∈ (l ++ [((0,[],b.length) : Tok)]).map tokA := by simpa using hy
        obtain ⟨t,_,rfl⟩ := List.mem_map.1 hy2
        exact frz_tok t))
       rw [settleZ_frz (u := .tup [u,diagV 0 0]) hL2.keeps (by rw [frz_tup,mapM_cons',mapM_cons',f1,frz_diag]; simp),hR]
       have hr : lexR b = (l ++ [(0,[],b.length)],0,0) := by
        unfold lexR
        rw [if_neg hlong,if_neg (by simpa using hst),ht,hab]
       exact ⟨u,by rw [hr],by rw [hr]; simpa using f2⟩
      simp [L_lexer_Lex_1,K_lexer_Lex_1,h3,h5,h6,h7,hlt',aload,astore,setFrom,hgd,hgd2,hlt4,q0,q1,-Int.natCast_add]
      exact fin
   ·have hb0 : badOf b = stopOf b := by simp [badOf,hst]
    have hb1 : 0 <= badOf b := by rw [hb0]; omega
    simp [C_lexer_Lex,hlen,hlong',hbad,hb1,aload,astore,setFrom]
    rw [hb0]
    exact fail 2 (stopOf b) _ _ (hL0.set _) (by simp [lexR,hlong,hst])
 obtain ⟨r,e,hr⟩ := key
 rw [hR] at hr
 obtain ⟨u,rfl,hu⟩ := hr
 exact ⟨u,e,hu⟩
end
end Go.Proofs.Eng
namespace Go.Proofs.Eng
open Go
@[simp high] theorem aeq_strM {a b : List UInt8} : aeq .pstr (.lit (.string (mkS a))) (.lit (.string (mkS b))) = some (decide (a = b)) := by rw [aeq_str]; rfl
theorem guardP_intro {t b : Bool} {A B : Prop} {m : Mk A} {m' : Mk B} (h1 : t = b -> A) (h2 : t ≠ b -> B) : guardP t b A B m m' := ⟨h1,h2⟩
theorem iteP_intro {t : Bool} {A B : Prop} {m : Mk A} {m' : Mk B} (h1 : t = true -> A) (h2 : t = false -> B) : iteP t A B m m' := ⟨h1,h2⟩
section
variable {Γ : Sums} {A : Tab} {N : Nat -> Nat}

theorem indexFunc_call {f : FuncId} (h : Has Γ A f (C_slices_IndexFunc_sl_string_string N)) {H : Hp} {x fv : AV} {es : List AV} (p : AV -> Bool) (hx : Vw H 1 x es) (hone : ∀ e ∈ es,e.good = true /\ e.cells = [e])
  (hp : ∀ e ∈ es,callV (lim Γ A) fv [e] { l := H.l,d := none } = some (avBool (p e),none)) (hl : es.length < 2 ^ 62) : ∃ r : Int,(lim Γ A).call f [x,fv] H = some (avInt .i64 r,none) /\ decide (0 <= r) = es.any p := by
 obtain ⟨R,hR⟩ : ∃ R : AV × Option Hp -> Prop,R = fun r => ∃ n : Int,r = (avInt .i64 n,none) /\ decide (0 <= n) = es.any p := ⟨_,rfl⟩
 suffices ∃ r,(lim Γ A).call f [x,fv] H = some r /\ R r by
  obtain ⟨r,e,hr⟩ := this
  rw [hR] at hr
  obtain ⟨n,rfl,hn⟩ := hr
  exact ⟨n,e,hn⟩
 have hlen := hx.len
 apply h.callP (by rfl)
 simp [C_slices_IndexFunc_sl_string_string,hlen,-Int.natCast_add]
 refine wp_round (fun k ρ H' => H' = { l := H.l,d := none } /\ ∃ i : Nat,ρ 0 = x /\ ρ 1 = fv /\ ρ 7 = avInt .i64 es.length /\ ρ 8 = avInt .i64 i /\ i <= es.length /\ (es.take i).any p = false /\ k = es.length - i) (n := es.length) ⟨rfl,0,rfl,rfl,rfl,rfl,by omega,by simp,rfl⟩ ?_
 rintro k ρ H' ⟨rfl,i,r0,r1,r7,r8,hi,ha,rfl⟩
 by_cases hlt : i < es.length
 ·have hlt' : (i : Int) < es.length := by omega
  have hm := List.getElem_mem hlt
  obtain ⟨q,q1,q2⟩ := (hx.dd none).at' (k := .i64) (i := (i : Int)) (e := es[i]) (by omega) (by simp [List.getElem?_eq_getElem hlt]) (hone _ hm).1 rfl (hone _ hm).2
  have q3 := hp _ hm
  have hw : IntKind.wrap .i64 ((i : Int) + 1) = ((i + 1 : Nat) : Int) := by rw [wrap64 (by omega) (by omega)]; omega
  have htk : (es.take (i + 1)).any p = p es[i] := by rw [List.take_succ_eq_append_getElem hlt,List.any_append,ha]; simp
  have hsp : es.any p = (p es[i] || (es.drop (i + 1)).any p) := by
   conv => lhs; rw [<- List.take_append_drop (i + 1) es]
   rw [List.any_append,htk]
  generalize es[i] = e at *
  cases hc : p e
  ·rw [hc] at q3 htk
   simp [L_slices_IndexFunc_sl_string_string_1,r0,r1,r7,r8,hlt',q1,q2,q3,hw,-Int.natCast_add]
   refine ⟨es.length - (i + 1),by omega,i + 1,rfl,by omega,?_,rfl⟩
   simpa using htk
  ·rw [hc] at q3 hsp
   have fin : R (avInt .i64 (i : Int),none) := by rw [hR]; exact ⟨i,rfl,by rw [hsp]; simp⟩
   simp [L_slices_IndexFunc_sl_string_string_1,r0,r1,r7,r8,hlt',q1,q2,q3,hw,-Int.natCast_add]
   exact fin
 ·have hlt' : ¬ (i : Int) < es.length := by omega
  have ha2 : es.any p = false := by rw [<- ha,List.take_of_length_le (by omega)]
  have fin : R (avInt .i64 (-1),none) := by rw [hR]; exact ⟨-1,rfl,by rw [ha2]; rfl⟩
  simp [L_slices_IndexFunc_sl_string_string_1,K_slices_IndexFunc_sl_string_string_1,r0,r1,r7,r8,hlt']
  exact fin

structure TreeC (Γ : Sums) (A : Tab) (N : Nat -> Nat) : Prop where
 lex : LexA Γ A N
 isS : Has Γ A (f_slices_IndexFunc_sl_string_string N) (C_slices_IndexFunc_sl_string_string N)
 isB : Has Γ A (f_slices_IndexFunc_sl_byte_byte N) (C_slices_IndexFunc_sl_byte_byte N)
 isU : Has Γ A (f_slices_IndexFunc_tree_uses_int N) (C_slices_IndexFunc_tree_uses_int N)
 csS : Has Γ A (f_slices_ContainsFunc_sl_string_string N) (C_slices_ContainsFunc_sl_string_string N)
 csB : Has Γ A (f_slices_ContainsFunc_sl_byte_byte N) (C_slices_ContainsFunc_sl_byte_byte N)
 csU : Has Γ A (f_slices_ContainsFunc_tree_uses_int N) (C_slices_ContainsFunc_tree_uses_int N)
 shapes : Has Γ A (f_tree_shapes N) (C_tree_shapes N)
 ops : Has Γ A (f_tree_ops N) (C_tree_ops N)
 tag : Has Γ A (f_tree_tag N) (C_tree_tag N)
 alias : Has Γ A (f_tree_alias N) (C_tree_alias N)
 text : Has Γ A (f_tree_text N) (C_tree_text N)
 text1 : Has Γ A (f_tree_text_1 N) (C_tree_text_1 N)
 once : Has Γ A (f_tree_once N) (C_tree_once N)
 all : Has Γ A (f_tree_all N) (C_tree_all N)
 all1 : Has Γ A (f_tree_all_1 N) (C_tree_all_1 N)
 halves : Has Γ A (f_tree_halves N) (C_tree_halves N)
 named : Has Γ A (f_tree_named N) (C_tree_named N)
 term : Has Γ A (f_tree_term N) (C_tree_term N)
 typ : Has Γ A (f_tree_typ N) (C_tree_typ N)
 note : Has Γ A (f_tree_uses_note N) (C_tree_uses_note N)
 odd : Has Γ A (f_tree_Check_1 N) (C_tree_Check_1 N)
 check : Has Γ A (f_tree_Check N) (C_tree_Check N)

theorem containsS_call (h : TreeC Γ A N) {H : Hp} {x fv : AV} {es : List AV} (p : AV -> Bool) (hx : Vw H 1 x es) (hone : ∀ e ∈ es,e.good = true /\ e.cells = [e])
  (hp : ∀ e ∈ es,callV (lim Γ A) fv [e] { l := H.l,d := none } = some (avBool (p e),none)) (hl : es.length < 2 ^ 62) : (lim Γ A).call (f_slices_ContainsFunc_sl_string_string N) [x,fv] H = some (avBool (es.any p),none) := by
 obtain ⟨r,e,hr⟩ := indexFunc_call h.isS (H := { l := H.l,d := none }) p (hx.dd none) hone hp hl
 apply h.csS.call (by rfl)
 simp [C_slices_ContainsFunc_sl_string_string,e,hr]
theorem containsB_call (h : TreeC Γ A N) {H : Hp} {x fv : AV} {es : List AV} (p : AV -> Bool) (hx : Vw H 1 x es) (hone : ∀ e ∈ es,e.good = true /\ e.cells = [e])
  (hp : ∀ e ∈ es,callV (lim Γ A) fv [e] { l := H.l,d := none } = some (avBool (p e),none)) (hl : es.length < 2 ^ 62) : (lim Γ A).call (f_slices_ContainsFunc_sl_byte_byte N) [x,fv] H = some (avBool (es.any p),none) := by
 have hi : Has Γ A (f_slices_IndexFunc_sl_byte_byte N) (C_slices_IndexFunc_sl_string_string N) := h.isB
 obtain ⟨r,e,hr⟩ := indexFunc_call hi (H := { l := H.l,d := none }) p (hx.dd none) hone hp hl
 apply h.csB.call (by rfl)
 simp [C_slices_ContainsFunc_sl_byte_byte,e,hr]
theorem containsU_call (h : TreeC Γ A N) {H : Hp} {x fv : AV} {es : List AV} (p : AV -> Bool) (hx : Vw H 1 x es) (hone : ∀ e ∈ es,e.good = true /\ e.cells = [e])
  (hp : ∀ e ∈ es,callV (lim Γ A) fv [e] { l := H.l,d := none } = some (avBool (p e),none)) (hl : es.length < 2 ^ 62) : (lim Γ A).call (f_slices_ContainsFunc_tree_uses_int N) [x,fv] H = some (avBool (es.any p),none) := by
 have hi : Has Γ A (f_slices_IndexFunc_tree_uses_int N) (C_slices_IndexFunc_sl_string_string N) := h.isU
 obtain ⟨r,e,hr⟩ := indexFunc_call hi (H := { l := H.l,d := none }) p (hx.dd none) hone hp hl
 apply h.csU.call (by rfl)
 simp [C_slices_ContainsFunc_tree_uses_int,e,hr]

def shapeV (nm nu bi tx : Bool) (k t : Int) : AV := .agg [avBool nm,avBool nu,avBool bi,avBool tx,avInt .i64 k,avInt .i64 t]
def shapeOf (k : Int) : Option (Bool × Bool × Bool × Bool × Int × Int) :=
 if k = 0 then some (true,false,false,false,0,0) else if k = 1 \/ k = 2 then some (false,true,false,false,0,0) else if k = 3 then some (false,false,false,true,0,0)
 else if k = 4 then some (false,false,true,false,0,0) else if k = 5 \/ k = 11 \/ k = 13 then some (true,false,false,false,1,0) else if k = 6 then some (false,false,false,false,2,0)
 else if k = 7 \/ k = 8 \/ k = 14 then some (true,false,false,false,2,0) else if k = 9 then some (false,false,false,false,3,0) else if k = 10 \/ k = 12 then some (false,false,false,false,-1,0)
 else if k = 15 then some (false,false,false,false,1,1) else if k = 16 then some (false,false,false,false,1,2) else none
def shapeR (k : Int) : AV := match shapeOf k with
 | some (a,b,c,d,m,n) => .tup [shapeV a b c d m n,avBool true]
 | none => .tup [shapeV false false false false 0 0,avBool false]
theorem shapes_call (h : TreeC Γ A N) (k : Int) (H : Hp) : (lim Γ A).call (f_tree_shapes N) [avInt .i64 k] H = some (shapeR k,none) := by
 apply h.shapes.call (by rfl)
 by_cases h0 : k = 0
 ·subst h0; simp [C_tree_shapes,shapeR,shapeOf,shapeV,fillA,setFrom,repl,loadC,settle,keeps]
 by_cases h1 : k = 1
 ·subst h1; simp [C_tree_shapes,shapeR,shapeOf,shapeV,fillA,setFrom,repl,loadC,settle,keeps]
 by_cases h2 : k = 2
 ·subst h2; simp [C_tree_shapes,shapeR,shapeOf,shapeV,fillA,setFrom,repl,loadC,settle,keeps]
 by_cases h3 : k = 3
 ·subst h3; simp [C_tree_shapes,shapeR,shapeOf,shapeV,fillA,setFrom,repl,loadC,settle,keeps]
 by_cases h4 : k = 4
 ·subst h4; simp [C_tree_shapes,shapeR,shapeOf,shapeV,fillA,setFrom,repl,loadC,settle,keeps]
 by_cases h5 : k = 5
 ·subst h5; simp [C_tree_shapes,shapeR,shapeOf,shapeV,fillA,setFrom,repl,loadC,settle,keeps]
 by_cases h6 : k = 6
 ·subst h6; simp [C_tree_shapes,shapeR,shapeOf,shapeV,fillA,setFrom,repl,loadC,settle,keeps]
 by_cases h7 : k = 7
 ·subst h7; simp [C_tree_shapes,shapeR,shapeOf,shapeV,fillA,setFrom,repl,loadC,settle,keeps]
 by_cases h8 : k = 8
 ·subst h8; simp [C_tree_shapes,shapeR,shapeOf,shapeV,fillA,setFrom,repl,loadC,settle,keeps]
 by_cases h9 : k = 9
 ·subst h9; simp [C_tree_shapes,shapeR,shapeOf,shapeV,fillA,setFrom,repl,loadC,settle,keeps]
 by_cases h10 : k = 10
 ·subst h10; simp [C_tree_shapes,shapeR,shapeOf,shapeV,fillA,setFrom,repl,loadC,settle,keeps]
 by_cases h11 : k = 11
 ·subst h11; simp [C_tree_shapes,shapeR,shapeOf,shapeV,fillA,setFrom,repl,loadC,settle,keeps]
 by_cases h12 : k = 12
 ·subst h12; simp [C_tree_shapes,shapeR,shapeOf,shapeV,fillA,setFrom,repl,loadC,settle,keeps]
 by_cases h13 : k = 13
 ·subst h13; simp [C_tree_shapes,shapeR,shapeOf,shapeV,fillA,setFrom,repl,loadC,settle,keeps]
 by_cases h14 : k = 14
 ·subst h14; simp [C_tree_shapes,shapeR,shapeOf,shapeV,fillA,setFrom,repl,loadC,settle,keeps]
 by_cases h15 : k = 15
 ·subst h15; simp [C_tree_shapes,shapeR,shapeOf,shapeV,fillA,setFrom,repl,loadC,settle,keeps]
 by_cases h16 : k = 16
 ·subst h16; simp [C_tree_shapes,shapeR,shapeOf,shapeV,fillA,setFrom,repl,loadC,settle,keeps]
 simp [C_tree_shapes,shapeR,shapeOf,shapeV,fillA,setFrom,repl,loadC,settle,keeps,h0,h1,h2,h3,h4,h5,h6,h7,h8,h9,h10,h11,h12,h13,h14,h15,h16]

def opsL : List (List UInt8) := [[43],[45],[42],[47],[43,46],[45,46],[42,46],[47,46],[60],[60,46],[61,61],[94]]
def tagW (s : List UInt8) : Bool := isNameB s || isWordB s
theorem tag_call (h : TreeC Γ A N) (s : List UInt8) (hl : s.length < 2 ^ 40) (H : Hp) : (lim Γ A).call (f_tree_tag N) [avStr s] H = some (avBool (tagW s),none) := by
 have e1 := fun H => lexer_IsName_call h.lex.S s hl H
 have e2 := fun H => lexer_IsWord_call h.lex.S s H
 unfold tagW
 apply h.tag.call (by rfl)
 cases hn : isNameB s <;> simp [C_tree_tag,e1,e2,hn]
end
end Go.Proofs.Eng
