import Derived.Test.YtcmdnlpkplaapaaM28
import Derived.Test.YtcmdnlpkplaapaaEngAI
import Derived.Test.YtcmdnlpkplaapaaM26
import Derived.Test.YtcmdnlpkplaapaaM27
/- Terms and types, as data; what their kinds ask, run by the engine. -/
set_option linter.unusedVariables false
set_option linter.unusedSimpArgs false
set_option maxRecDepth 100000
namespace Go.Proofs.Eng
open Go
structure Nd where
 kind : Int
 pos : Int
 name : List UInt8
 int : Int
 bits : Int
 names : List (List UInt8)
 kids : List Int
 types : List Int
structure Ty where
 kind : Int
 pos : Int
 name : List UInt8
 names : List (List UInt8)
 kids : List Int
 opn : Bool
structure Al where
 name : List UInt8
 type : Int
 pos : Int
structure Tr where
 nodes : List Nd
 types : List Ty
 als : List Al
def ndV (n : Nd) (a b c : AV) : AV := .agg [avInt .i64 n.kind,avInt .i64 n.pos,avStr n.name,avInt .i64 n.int,avInt .u64 n.bits,a,b,c]
def tyV (n : Ty) (a b : AV) : AV := .agg [avInt .i64 n.kind,avInt .i64 n.pos,avStr n.name,a,b,avBool n.opn]
def alV (n : Al) : AV := .agg [avStr n.name,avInt .i64 n.type,avInt .i64 n.pos]
abbrev VS (H : Hp) (x : AV) (l : List (List UInt8)) : Prop := Vw H 1 x (l.map avStr)
abbrev VI (H : Hp) (x : AV) (l : List Int) : Prop := Vw H 1 x (l.map (avInt .i64))
def NdR (H : Hp) (x : AV) (n : Nd) : Prop := ∃ a b c,x = ndV n a b c /\ VS H a n.names /\ VI H b n.kids /\ VI H c n.types
def TyR (H : Hp) (x : AV) (n : Ty) : Prop := ∃ a b,x = tyV n a b /\ VS H a n.names /\ VI H b n.kids
def Nd.ok (n : Nd) : Prop := n.name.length < 2 ^ 30 /\ (∀ s ∈ n.names,s.length < 2 ^ 30) /\ n.names.length < 2 ^ 30 /\ n.kids.length < 2 ^ 30 /\ n.types.length < 2 ^ 30
def Ty.ok (n : Ty) : Prop := n.name.length < 2 ^ 30 /\ (∀ s ∈ n.names,s.length < 2 ^ 30) /\ n.names.length < 2 ^ 30 /\ n.kids.length < 2 ^ 30
def Al.ok (n : Al) : Prop := n.name.length < 2 ^ 30

theorem Vw.one {H : Hp} {sz : Nat} {x : AV} {es : List AV} (h : Vw H sz x es) : x.one = true := by
 rcases h with (⟨rfl,_⟩ | rfl) | ⟨id,off,e,all,rfl,_⟩ <;> rfl
theorem str_one {l : List (List UInt8)} : ∀ e ∈ l.map avStr,e.good = true /\ e.cells = [e] := by
 intro e he; obtain ⟨s,_,rfl⟩ := List.mem_map.1 he; exact ⟨rfl,rfl⟩
theorem int_one {k : IntKind} {l : List Int} : ∀ e ∈ l.map (avInt k),e.good = true /\ e.cells = [e] := by
 intro e he; obtain ⟨s,_,rfl⟩ := List.mem_map.1 he; exact ⟨rfl,rfl⟩
theorem byte_one {l : List UInt8} : ∀ e ∈ l.map avByte,e.good = true /\ e.cells = [e] := by
 intro e he; obtain ⟨s,_,rfl⟩ := List.mem_map.1 he; exact ⟨rfl,rfl⟩
theorem VS.len {H : Hp} {x : AV} {l : List (List UInt8)} (h : VS H x l) : asLen x = some l.length := by have := Vw.len h; simpa using this
theorem VI.len {H : Hp} {x : AV} {l : List Int} (h : VI H x l) : asLen x = some l.length := by have := Vw.len h; simpa using this

def strO : AV -> List UInt8
 | .lit (.string s) => bl s
 | _ => []
@[simp] theorem strO_str (s : List UInt8) : strO (avStr s) = s := rfl
def byteO : AV -> UInt8
 | .lit (.int _ n) => UInt8.ofNat n.toNat
 | _ => 0
@[simp] theorem byteO_byte (c : UInt8) : byteO (avByte c) = c := by simp [byteO,avByte]

section
variable {Γ : Sums} {A : Tab} {N : Nat -> Nat}

theorem all_call (h : TreeC Γ A N) {H : Hp} {x : AV} {l : List (List UInt8)} (hx : VS H x l) {g : FuncId} (p : List UInt8 -> Bool) (hp : ∀ s ∈ l,∀ H,(lim Γ A).call g [avStr s] H = some (avBool (p s),none)) (hl : l.length < 2 ^ 60) :
  (lim Γ A).call (f_tree_all N) [x,.fn g [] []] H = some (avBool (l.all p),none) := by
 obtain ⟨H1,hH1⟩ : ∃ H1,H1 = halloc { l := H.l,d := none } (.cells [.fn g [] []] (t_func_string_bool N)) := ⟨_,rfl⟩
 have hx1 : VS H1 x l := hx.keep fun id hid => by rw [hH1,hget_halloc,if_neg (by simp; omega)]; rfl
 have hc : hget { l := H1.l,d := none } H.l.length = some (.cells [.fn g [] []] (t_func_string_bool N)) := by rw [hget_l,hH1]; simp
 have e := containsS_call h (H := H1) (fv := .fn (f_tree_all_1 N) [] [.ptr H.l.length 0]) (fun e => !p (strO e)) hx1 str_one (fun e he => by
  obtain ⟨s,hs,rfl⟩ := List.mem_map.1 he
  have e1 := hp s hs
  simp only [callV_fn,strO_str]
  apply h.all1.call (by rfl)
  simp [C_tree_all_1,hc,e1]) (by simpa using Nat.lt_of_lt_of_le hl (by decide))
 have hany : ((l.map avStr).any fun e => !p (strO e)) = !l.all p := by
  rw [List.any_map]
  induction l with
  | nil => rfl
  | cons s r ih => simp [List.all_eq_not_any_not,Function.comp_def]
 rw [hany] at e
 rw [hH1] at e
 apply h.all.call (by rfl)
 simp [C_tree_all,e,settle,keeps]

def onceB (l : List (List UInt8)) : Bool := decide l.Nodup
def evens {α : Type} : List α -> List α
 | [] => []
 | [a] => [a]
 | a :: _ :: r => a :: evens r
def odds {α : Type} : List α -> List α
 | [] => []
 | [_] => []
 | _ :: b :: r => b :: odds r
theorem once_call (h : TreeC Γ A N) {H : Hp} {x : AV} {l : List (List UInt8)} (hx : VS H x l) (hl : l.length < 2 ^ 60) : (lim Γ A).call (f_tree_once N) [x] H = some (avBool (onceB l),none) := by
 have hlen := VS.len hx
 apply h.once.call (by rfl)
 simp [C_tree_once,hlen,-Int.natCast_add]
 refine wp_round (fun k ρ H' => ∃ (i : Nat) (es : List (Value × AV × Nat)) (clk : Nat),ρ 0 = x /\ ρ 3 = .map H.l.length /\ ρ 7 = x /\ ρ 8 = avInt .i64 l.length /\ ρ 9 = avInt .i64 i /\ i <= l.length /\ Loc H H' [(H.l.length,.map es clk)] /\ SKeys es /\ (KV es).map Prod.fst = l.take i /\ (∀ e ∈ KV es,e.2 = avBool true) /\ (l.take i).Nodup /\ k = l.length - i) (n := l.length)
  ⟨0,[],0,rfl,rfl,rfl,rfl,rfl,by omega,(Loc.start H).alloc _,by simp [SKeys],rfl,by simp [KV],by simp,rfl⟩ ?_
 rintro k ρ H' ⟨i,es,clk,r0,r3,r7,r8,r9,hi,hL,hs,hk,hv,hn,rfl⟩
 have hx' : VS H' x l := hx.loc hL
 by_cases hlt : i < l.length
 ·have hlt' : (i : Int) < l.length := by omega
  obtain ⟨q,q1,q2⟩ := hx'.at' (k := .i64) (i := (i : Int)) (e := avStr l[i]) (by omega) (by simp [List.getElem?_eq_getElem hlt]) rfl rfl rfl
  have hg := hL.head
  have hw : IntKind.wrap .i64 ((i : Int) + 1) = ((i + 1 : Nat) : Int) := by rw [wrap64 (by omega) (by omega)]; omega
  have lk := aLookup_str' (s := mkS l[i]) (z := avBool false) hg hs
  have htk : l.take (i + 1) = l.take i ++ [l[i]] := List.take_succ_eq_append_getElem hlt
  have hfs : vFind l[i] (KV es) = none ↔ l[i] ∉ l.take i := by
   rw [<- hk]
   generalize KV es = kv
   induction kv with
   | nil => simp [vFind]
   | cons e r ih =>
    simp only [vFind,List.map_cons,List.mem_cons]
    by_cases he : l[i] = e.1
    ·simp [he]
    ·simp only [he,if_false,false_or,Option.map_eq_none_iff,ih]
  have hvt : ∀ r,vFind l[i] (KV es) = some r -> r.2 = avBool true := by
   generalize KV es = kv at hv
   induction kv with
   | nil => intro r h; simp [vFind] at h
   | cons e r ih =>
    intro y hy
    simp only [vFind] at hy
    split at hy
    ·simp only [Option.some.injEq] at hy; subst hy; exact hv e (by simp)
    ·obtain ⟨z,hz,rfl⟩ := Option.map_eq_some_iff.1 hy
     exact ih (fun e he => hv e (by simp [he])) z hz
  obtain ⟨es',clk',u1,u2,u3⟩ := aMapupd_str (s := mkS l[i]) (v := avBool true) hg hs
  have hL2 := hL.set (.map es' clk')
  have hnd : (l.take (i + 1)).Nodup ↔ l[i] ∉ l.take i := by
   rw [htk,List.nodup_append]
   constructor
   ·intro h1 hm; exact h1.2.2 _ hm _ (by simp) rfl
   ·intro h1; exact ⟨hn,by simp,by rintro a ha b hb rfl; simp at hb; exact h1 (hb ▸ ha)⟩
  have hpf : onceB l = true -> (l.take (i + 1)).Nodup := fun h1 => (List.take_sublist (i + 1) l).nodup (of_decide_eq_true h1)
  simp only [bl_mkS] at lk u3
  generalize l[i] = s at *
  cases hf : vFind s (KV es) with
  | some r =>
   have hr := hvt r hf
   have ho : onceB l = false := by
    cases ho : onceB l
    ·rfl
    ·have := hnd.1 (hpf ho)
     rw [<- hfs,hf] at this
     cases this
   rw [hf] at lk
   simp only [Option.map_some,Option.getD_some,hr] at lk
   have hse := settle_keeps (v := avBool false) hL.keeps (by simp [AV.under])
   simp [L_tree_once_1,r0,r3,r7,r8,r9,hlt',q1,q2,lk,ho,hse]
  | none =>
   rw [hf] at lk
   simp only [Option.map_none,Option.getD_none] at lk
   have hns := hfs.1 hf
   have hput : vPut s (avBool true) (KV es) = KV es ++ [(s,avBool true)] := by unfold vPut; rw [hf]
   rw [hput] at u3
   simp [L_tree_once_1,r0,r3,r7,r8,r9,hlt',q1,q2,lk,u1,hw,-hset_d,-Int.natCast_add]
   refine ⟨l.length - (i + 1),by omega,i + 1,rfl,by omega,es',⟨clk',hL2⟩,u2,?_,?_,hnd.2 hns,rfl⟩
   ·rw [u3,List.map_append,hk,htk]; rfl
   ·intro a b hab
    rw [u3] at hab
    rcases List.mem_append.1 hab with hab | hab
    ·exact hv _ hab
    ·simp at hab; exact hab.2
 ·have hlt' : ¬ (i : Int) < l.length := by omega
  have ho : onceB l = true := by
   rw [List.take_of_length_le (by omega)] at hn
   exact decide_eq_true hn
  have hse := settle_keeps (v := avBool true) hL.keeps (by simp [AV.under])
  simp [L_tree_once_1,K_tree_once_1,r0,r3,r7,r8,r9,hlt',ho,hse]

theorem evens_snoc {α : Type} : ∀ (l : List α) (a : α),evens (l ++ [a]) = if l.length % 2 = 0 then evens l ++ [a] else evens l
 | [],a => rfl
 | [b],a => rfl
 | b :: c :: r,a => by
  have ih := evens_snoc r a
  have e2 : (r.length + 1 + 1) % 2 = r.length % 2 := by omega
  simp only [List.cons_append,evens,List.length_cons,ih,e2]
  split <;> rfl
theorem odds_snoc {α : Type} : ∀ (l : List α) (a : α),odds (l ++ [a]) = if l.length % 2 = 0 then odds l else odds l ++ [a]
 | [],a => rfl
 | [b],a => rfl
 | b :: c :: r,a => by
  have ih := odds_snoc r a
  have e2 : (r.length + 1 + 1) % 2 = r.length % 2 := by omega
  simp only [List.cons_append,odds,List.length_cons,ih,e2]
  split <;> rfl
theorem evens_len {α : Type} : ∀ l : List α,(evens l).length <= l.length
 | [] => by simp [evens]
 | [a] => by simp [evens]
 | a :: b :: r => by have := evens_len r; simp [evens]; omega
theorem odds_len {α : Type} : ∀ l : List α,(odds l).length <= l.length
 | [] => by simp [odds]
 | [a] => by simp [odds]
 | a :: b :: r => by have := odds_len r; simp [odds]; omega
theorem evens_mem {α : Type} {x : α} : ∀ {l : List α},x ∈ evens l -> x ∈ l
 | [],h => by simp [evens] at h
 | [a],h => h
 | a :: b :: r,h => by
  simp only [evens,List.mem_cons] at h ⊢
  rcases h with h | h
  ·exact .inl h
  ·exact .inr (.inr (evens_mem h))
theorem odds_mem {α : Type} {x : α} : ∀ {l : List α},x ∈ odds l -> x ∈ l
 | [],h => by simp [odds] at h
 | [a],h => by simp [odds] at h
 | a :: b :: r,h => by
  simp only [odds,List.mem_cons] at h ⊢
  rcases h with h | h
  ·exact .inr (.inl h)
  ·exact .inr (.inr (odds_mem h))
theorem Fzr.vw {H : Hp} {sz : Nat} {x : AV} {es : List AV} (h : Fzr sz x es) : Vw H sz x es := .inl h

theorem halves_call (h : TreeC Γ A N) {H : Hp} {x : AV} {l : List (List UInt8)} (hx : VS H x l) (hl : l.length < 2 ^ 34) :
  ∃ u v,(lim Γ A).call (f_tree_halves N) [x] H = some (.tup [u,v],none) /\ Fzr 1 u ((evens l).map avStr) /\ Fzr 1 v ((odds l).map avStr) := by
 obtain ⟨R,hR⟩ : ∃ R : AV × Option Hp -> Prop,R = fun r => ∃ u v,r = (.tup [u,v],none) /\ Fzr 1 u ((evens l).map avStr) /\ Fzr 1 v ((odds l).map avStr) := ⟨_,rfl⟩
 suffices ∃ r,(lim Γ A).call (f_tree_halves N) [x] H = some r /\ R r by
  obtain ⟨r,e,hr⟩ := this
  rw [hR] at hr
  obtain ⟨u,v,rfl,h1,h2⟩ := hr
  exact ⟨u,v,e,h1,h2⟩
 have hlen := VS.len hx
 apply h.halves.callP (by rfl)
 simp [C_tree_halves,hlen,-Int.natCast_add]
 refine wp_round (fun k ρ H' => ∃ (i : Nat) (u v : AV) (os os' : List (Nat × AObj)),ρ 0 = x /\ ρ 2 = u /\ ρ 3 = v /\ ρ 6 = x /\ ρ 7 = avInt .i64 l.length /\ ρ 8 = avInt .i64 i /\ i <= l.length /\ Row (t_string N) 1 u ((evens (l.take i)).map avStr) os /\ Row (t_string N) 1 v ((odds (l.take i)).map avStr) os' /\ Loc H H' (os ++ os') /\ k = l.length - i) (n := l.length)
  ⟨0,_,_,[],[],rfl,rfl,rfl,rfl,rfl,rfl,by omega,Row.nil _ _,Row.nil _ _,Loc.start H,rfl⟩ ?_
 rintro k ρ H' ⟨i,u,v,os,os',r0,r2,r3,r6,r7,r8,hi,hu,hv,hL,rfl⟩
 have hx' : VS H' x l := hx.loc hL
 by_cases hlt : i < l.length
 ·have hlt' : (i : Int) < l.length := by omega
  obtain ⟨q,q1,q2⟩ := hx'.at' (k := .i64) (i := (i : Int)) (e := avStr l[i]) (by omega) (by simp [List.getElem?_eq_getElem hlt]) rfl rfl rfl
  have hw : IntKind.wrap .i64 ((i : Int) + 1) = ((i + 1 : Nat) : Int) := by rw [wrap64 (by omega) (by omega)]; omega
  have htk : l.take (i + 1) = l.take i ++ [l[i]] := List.take_succ_eq_append_getElem hlt
  have hti : (l.take i).length = i := by simp; omega
  have hev := evens_snoc (l.take i) l[i]
  have hod := odds_snoc (l.take i) l[i]
  rw [<- htk,hti] at hev hod
  have hle := evens_len (l.take i)
  have hlo := odds_len (l.take i)
  rw [hti] at hle hlo
  have htm : Int.tmod (i : Int) 2 = ((i % 2 : Nat) : Int) := by rfl
  generalize l[i] = s at *
  have hL1 := hL.alloc (.arr 1 [avStr s] (t_string N))
  by_cases hm : i % 2 = 0
  ·rw [if_pos hm] at hev hod
   have hp1 : Loc H (halloc H' (.arr 1 [avStr s] (t_string N))) (os ++ (os' ++ [(H'.l.length,.arr 1 [avStr s] (t_string N))])) := hL1.perm (by rw [<- List.append_assoc]; exact (List.perm_append_singleton _ _).symm)
   obtain ⟨u',G,ou,a1,a2,a3⟩ := hu.append (bytes := 16) (ys := [avStr s]) hp1 (by simp) (by simp [roomMax]; omega) (by simp)
   rw [show (evens (l.take i)).map avStr ++ [avStr s] = (evens (l.take (i + 1))).map avStr from by rw [hev]; simp] at a2
   rw [<- hod] at hv
   have a4 : Loc H G (ou ++ os') := a3.sub (by simp)
   have hm' : (i : Int) % 2 = 0 := by omega
   simp [L_tree_halves_1,r0,r2,r3,r6,r7,r8,hlt',q1,q2,htm,hm,hm',fillA,repl,setFrom,chunk,asElems,a1,hw,-halloc_d,-Int.natCast_add]
   exact ⟨l.length - (i + 1),by omega,i + 1,rfl,by omega,ou,a2,os',hv,a4,rfl⟩
  ·rw [if_neg hm] at hev hod
   have hp1 : Loc H (halloc H' (.arr 1 [avStr s] (t_string N))) (os' ++ (os ++ [(H'.l.length,.arr 1 [avStr s] (t_string N))])) := hL1.perm (by
    refine (List.perm_append_singleton _ _).symm.trans ?_
    rw [<- List.append_assoc]
    exact List.Perm.append_right _ List.perm_append_comm)
   obtain ⟨v',G,ov,a1,a2,a3⟩ := hv.append (bytes := 16) (ys := [avStr s]) hp1 (by simp) (by simp [roomMax]; omega) (by simp)
   rw [show (odds (l.take i)).map avStr ++ [avStr s] = (odds (l.take (i + 1))).map avStr from by rw [hod]; simp] at a2
   rw [<- hev] at hu
   have a4 : Loc H G (os ++ ov) := (a3.sub (by simp) : Loc H G (ov ++ os)).perm List.perm_append_comm
   have hm' : ¬ (i : Int) % 2 = 0 := by omega
   simp [L_tree_halves_1,r0,r2,r3,r6,r7,r8,hlt',q1,q2,htm,hm,hm',fillA,repl,setFrom,chunk,asElems,a1,hw,-halloc_d,-Int.natCast_add]
   exact ⟨l.length - (i + 1),by omega,i + 1,rfl,by omega,os,hu,ov,a2,a4,rfl⟩
 ·have hlt' : ¬ (i : Int) < l.length := by omega
  rw [List.take_of_length_le (by omega)] at hu hv
  have flit : ∀ (ll : List (List UInt8)) k,(ll.map avStr).mapM (frz H'.l H.l.length (k + 1)) = some (ll.map avStr) := fun ll k => frz_lits fun y hy => by obtain ⟨t,_,rfl⟩ := List.mem_map.1 hy; exact ⟨_,rfl⟩
  obtain ⟨u',u1,u2⟩ := hu.frz (k := 14) hL (flit _ 13)
  obtain ⟨v',v1,v2⟩ := hv.frz (k := 14) (hL.perm List.perm_append_comm) (flit _ 13)
  have hse : settleZ true H (.tup [u,v]) H' = (.tup [u',v'],none) := settleZ_frz hL.keeps (by
   have e : [u,v].mapM (frz H'.l H.l.length 15) = some [u',v'] := by simp only [List.mapM_cons,List.mapM_nil,u1,v1]; rfl
   show ([u,v].mapM (frz H'.l H.l.length 15)).map AV.tup = _
   rw [e]; rfl)
  have fin : R (.tup [u',v'],none) := by rw [hR]; exact ⟨u',v',rfl,u2,v2⟩
  simp [L_tree_halves_1,K_tree_halves_1,r0,r2,r3,r6,r7,r8,hlt']
  rw [hse]
  exact fin

theorem ops_call (h : TreeC Γ A N) (H : Hp) : (lim Γ A).call (f_tree_ops N) [] H = some (.sl 1 (opsL.map avStr),none) := by
 apply h.ops.call (by rfl)
 simp [C_tree_ops,opsL]
 exact settleZ_ra rfl rfl (by simp)
theorem containsO_call (h : TreeC Γ A N) (s : List UInt8) (H : Hp) : (lim Γ A).call (f_slices_Contains_sl_string_string N) [.sl 1 (opsL.map avStr),avStr s] H = some (avBool (decide (s ∈ opsL)),none) := by
 obtain ⟨i,e1,e2⟩ := index_call h.lex.S opsL s (by decide) { l := H.l,d := none }
 apply h.lex.S.contains.call (by rfl)
 simp [C_slices_Contains_sl_string_string,e1,e2]

def namedB (n : Nd) : Bool :=
 if n.kind = 10 then decide ((n.names.length : Int) % 2 = 0) && (decide ((n.kids.length : Int) - (odds n.names).length = 1) || decide ((n.kids.length : Int) - (odds n.names).length = 2)) && (evens n.names).all tagW && (odds n.names).all isNameB && onceB (evens n.names)
 else if n.kind = 12 then decide ((n.kids.length : Int) = n.names.length) && n.names.all isNameB && onceB n.names
 else if n.kind = 11 then tagW n.name && decide (n.names = [])
 else if n.kind = 14 then decide (n.name ∈ opsL) && decide (n.names = [])
 else decide (n.names = [])
theorem named_call (h : TreeC Γ A N) {H : Hp} {x : AV} {n : Nd} (hn : NdR H x n) (ok : n.ok) : (lim Γ A).call (f_tree_named N) [x] H = some (avBool (namedB n),none) := by
 obtain ⟨a,b,c,rfl,ha,hb,hc⟩ := hn
 obtain ⟨o1,o2,o3,o4,o5⟩ := ok
 have la := VS.len ha
 have lb := VI.len hb
 have pa := ha.one
 have pb := hb.one
 have pc := hc.one
 have ha' : ∀ o,VS (halloc { l := H.l,d := none } o) a n.names := fun o => ha.keep fun id hid => by rw [hget_halloc,if_neg (by simp; omega)]; rfl
 have eN : ∀ s ∈ n.names,∀ H,(lim Γ A).call (f_lexer_IsName N) [avStr s] H = some (avBool (isNameB s),none) := fun s hs H => lexer_IsName_call h.lex.S s (by have := o2 s hs; omega) H
 have eT : ∀ s ∈ n.names,∀ H,(lim Γ A).call (f_tree_tag N) [avStr s] H = some (avBool (tagW s),none) := fun s hs H => tag_call h s (by have := o2 s hs; omega) H
 apply h.named.call (by rfl)
 unfold ndV
 by_cases k10 : n.kind = 10
 ·obtain ⟨u,v,e1,fu,fv⟩ := halves_call h (ha' (.cells [avInt .i64 n.kind,avInt .i64 n.pos,avStr n.name,avInt .i64 n.int,avInt .u64 n.bits,a,b,c] (t_api_Node N))) (by omega)
  rw [k10] at e1
  have lv : asLen v = some (odds n.names).length := VS.len (H := H) fv.vw
  have hle := odds_len n.names
  have hw : IntKind.wrap .i64 ((n.kids.length : Int) - (odds n.names).length) = (n.kids.length : Int) - (odds n.names).length := wrap64 (by omega) (by omega)
  have htm : Int.tmod (n.names.length : Int) 2 = ((n.names.length % 2 : Nat) : Int) := by rfl
  have hle2 := evens_len n.names
  have e2 : ∀ H,(lim Γ A).call (f_tree_all N) [u,.fn (f_tree_tag N) [] []] H = some (avBool ((evens n.names).all tagW),none) := fun H => all_call h (Fzr.vw fu) tagW (fun s hs H => eT s (evens_mem hs) H) (by omega)
  have e3 : ∀ H,(lim Γ A).call (f_tree_all N) [v,.fn (f_lexer_IsName N) [] []] H = some (avBool ((odds n.names).all isNameB),none) := fun H => all_call h (Fzr.vw fv) isNameB (fun s hs H => eN s (odds_mem hs) H) (by omega)
  have e4 : ∀ H,(lim Γ A).call (f_tree_once N) [u] H = some (avBool (onceB (evens n.names)),none) := fun H => once_call h (Fzr.vw fu) (by omega)
  unfold namedB
  rw [if_pos k10]
  generalize (evens n.names).all tagW = b1 at *
  generalize (odds n.names).all isNameB = b2 at *
  generalize onceB (evens n.names) = b3 at *
  simp [settle,keeps,C_tree_named,k10,e1,lv,hw,htm,e2,e3,e4,pa,pb,pc,la,lb]
  repeat' (first | (apply guardP_intro <;> intro hg <;> (try simp at hg) <;> simp [settle,keeps, *]) | (apply iteP_intro <;> intro hg <;> (try simp at hg) <;> simp [settle,keeps, *]))
 ·have e5 : ∀ o,(lim Γ A).call (f_tree_all N) [a,.fn (f_lexer_IsName N) [] []] (halloc { l := H.l,d := none } o) = some (avBool (n.names.all isNameB),none) := fun o => all_call h (ha' o) isNameB (fun s hs H => eN s hs H) (by omega)
  have e6 : ∀ o,(lim Γ A).call (f_tree_once N) [a] (halloc { l := H.l,d := none } o) = some (avBool (onceB n.names),none) := fun o => once_call h (ha' o) (by omega)
  have e7 := fun H => tag_call h n.name (by omega) H
  have e8 := fun H => containsO_call h n.name H
  have e9 := fun H => ops_call h H
  unfold namedB
  rw [if_neg k10]
  generalize n.names.all isNameB = b1 at *
  generalize onceB n.names = b2 at *
  generalize tagW n.name = b3 at *
  generalize decide (n.name ∈ opsL) = b4 at *
  by_cases k12 : n.kind = 12
  ·simp [settle,keeps,C_tree_named,k12,e5,e6,pa,pb,pc,la,lb]
   repeat' (first | (apply guardP_intro <;> intro hg <;> (try simp at hg) <;> simp [settle,keeps, *]) | (apply iteP_intro <;> intro hg <;> (try simp at hg) <;> simp [settle,keeps, *]))
  ·by_cases k11 : n.kind = 11
   ·simp [settle,keeps,C_tree_named,k11,e7,pa,pb,pc,la,lb]
    repeat' (first | (apply guardP_intro <;> intro hg <;> (try simp at hg) <;> simp [settle,keeps, *]) | (apply iteP_intro <;> intro hg <;> (try simp at hg) <;> simp [settle,keeps, *]))
   ·by_cases k14 : n.kind = 14
    ·simp [settle,keeps,C_tree_named,k14,e8,e9,pa,pb,pc,la,lb]
     repeat' (first | (apply guardP_intro <;> intro hg <;> (try simp at hg) <;> simp [settle,keeps, *]) | (apply iteP_intro <;> intro hg <;> (try simp at hg) <;> simp [settle,keeps, *]))
    ·simp [settle,keeps,C_tree_named,k10,k11,k12,k14,pa,pb,pc,la,lb]
end
end Go.Proofs.Eng
namespace Go.Proofs.Eng
open Go
theorem vb_new (H : Hp) (s : List UInt8) (t : TypeId) : VBytes (halloc H (.arr 1 (s.map avByte) t)) (.ra 1 H.l.length 0 s.length) s :=
 .inr ⟨H.l.length,0,t,s.map avByte,by simp,by simp,by simp,List.take_of_length_le (by simp)⟩
section
variable {Γ : Sums} {A : Tab} {N : Nat -> Nat}
def oddB (c : UInt8) : Bool := decide (c.toNat < 32) && !decide (c.toNat = 10)
def textB' (s : List UInt8) : Bool := decide (badOf s < 0) && !s.any oddB
theorem text1_call (h : TreeC Γ A N) (c : UInt8) (H : Hp) : (lim Γ A).call (f_tree_text_1 N) [avByte c] H = some (avBool (oddB c),none) := by
 apply h.text1.call (by rfl)
 unfold oddB
 by_cases h1 : c.toNat < 32
 ·have h1' : (c.toNat : Int) < 32 := by omega
  by_cases h2 : c.toNat = 10
  ·have h2' : (c.toNat : Int) = 10 := by omega
   simp [C_tree_text_1,avByte,h2]
  ·have h2' : ¬ (c.toNat : Int) = 10 := by omega
   simp [C_tree_text_1,avByte,h1,h1',h2,h2']
 ·have h1' : ¬ (c.toNat : Int) < 32 := by omega
  simp [C_tree_text_1,avByte,h1,h1']
theorem text_call (h : TreeC Γ A N) (s : List UInt8) (hl : s.length < 2 ^ 36) (H : Hp) : (lim Γ A).call (f_tree_text N) [avStr s] H = some (avBool (textB' s),none) := by
 have hr : s.length <= roomMax := by unfold roomMax; omega
 have e1 := fun (H : Hp) (t : TypeId) => runes_Bad_call h.lex.runes h.lex.bad (halloc H (.arr 1 (s.map avByte) t)) (vb_new H s t) (by omega)
 have e2 := fun (H : Hp) (t : TypeId) => containsB_call h (H := halloc H (.arr 1 (s.map avByte) t)) (fv := .fn (f_tree_text_1 N) [] []) (fun e => oddB (byteO e)) (vb_new H s t) byte_one (fun e he => by
  obtain ⟨c,_,rfl⟩ := List.mem_map.1 he
  simp only [callV_fn,byteO_byte]
  exact text1_call h c _) (by simp; omega)
 have ha : ((s.map avByte).any fun e => oddB (byteO e)) = s.any oddB := by
  rw [List.any_map]
  congr 1
  funext c; simp
 rw [ha] at e2
 have e1' := e1 { l := H.l,d := none } (t_uint8 N)
 have e2' := e2 (halloc { l := H.l,d := none } (.arr 1 (s.map avByte) (t_uint8 N))) (t_uint8 N)
 simp only [halloc_len] at e1' e2'
 apply h.text.call (by rfl)
 unfold textB'
 by_cases hb : badOf s < 0
 ·simp [settle,keeps,C_tree_text,hr,e1',hb,e2']
 ·simp [settle,keeps,C_tree_text,hr,e1',hb]
def aliasB (s : List UInt8) : Bool := decide ((lexR s).2.1 = 0) && match (lexR s).1 with
 | [t,_] => decide (t.1 = 2) && decide (t.2.1 = s)
 | _ => false
theorem alias_call (h : TreeC Γ A N) (s : List UInt8) (hl : s.length < 2 ^ 36) (H : Hp) : (lim Γ A).call (f_tree_alias N) [avStr s] H = some (avBool (aliasB s),none) := by
 have hr : s.length <= roomMax := by unfold roomMax; omega
 obtain ⟨u,e1,hu⟩ := lexer_Lex_call h.lex (halloc { l := H.l,d := none } (.arr 1 (s.map avByte) (t_uint8 N))) (vb_new _ s _) hl
 have hlu : asLen u = some (lexR s).1.length := by rcases hu with ⟨rfl,hu⟩ | rfl <;> simp_all
 apply h.alias.call (by rfl)
 unfold aliasB
 by_cases h0 : (lexR s).2.1 = 0
 ·rw [h0] at e1
  match ht : (lexR s).1 with
  | [] =>
   rw [ht] at hlu
   simp [settle,keeps,C_tree_alias,hr,e1,diagV,setFrom,h0,hlu]
  | [a] =>
   rw [ht] at hlu
   simp [settle,keeps,C_tree_alias,hr,e1,diagV,setFrom,h0,hlu]
  | a :: b :: c :: r =>
   rw [ht] at hlu
   have : ¬ ((r.length : Int) + 1 + 1 + 1 = 2) := by omega
   simp [settle,keeps,C_tree_alias,hr,e1,diagV,setFrom,h0,hlu,this]
  | [a,b] =>
   rw [ht] at hlu hu
   have hu2 : u = .sl 3 [tokA a,tokA b] := by rcases hu with ⟨_,hu⟩ | rfl; simp at hu; rfl
   subst hu2
   by_cases hk : a.1 = 2
   ·by_cases hs : a.2.1 = s
    ·simp [settle,keeps,C_tree_alias,hr,e1,diagV,setFrom,h0,aiaddr,tokA,tokV,afaddr,hk,hs]
    ·simp [settle,keeps,C_tree_alias,hr,e1,diagV,setFrom,h0,aiaddr,tokA,tokV,afaddr,hk,hs]
   ·have hk' : ¬ ((a.1 : Nat) : Int) = 2 := by omega
    simp [settle,keeps,C_tree_alias,hr,e1,diagV,setFrom,h0,aiaddr,tokA,tokV,afaddr,hk,hk']
 ·have h0' : ¬ (((lexR s).2.1 : Nat) : Int) = 0 := by omega
  simp [settle,keeps,C_tree_alias,hr,e1,diagV,setFrom,h0,h0']
def ofB (n : Int) : Int := if Op.floatEq .f64 n.toNat n.toNat = true then n else 9221120237041090561
theorem floats_Of_call' (h : LexT Γ A N) (n : Int) (H : Hp) : (lim Γ A).call (f_floats_Of N) [avInt .u64 n] H = some (avInt .u64 (ofB n),none) := by
 apply h.of.call (by rfl)
 simp [C_floats_Of,h.bits]
 have e : aeq .pfloat (.lit (.float .f64 n.toNat)) (.lit (.float .f64 n.toNat)) = some (Op.floatEq .f64 n.toNat n.toNat) := by simp [aeq,aprim,eqFl]
 rw [e,bindO_some]
 unfold ofB
 cases Op.floatEq .f64 n.toNat n.toNat <;> simp
end
end Go.Proofs.Eng
namespace Go.Proofs.Eng
open Go
section
variable {Γ : Sums} {A : Tab} {N : Nat -> Nat}

theorem aeq_sl {sz : Nat} {xs : List AV} : aeq .pslice (.sl sz xs) (.lit (.slice none 0 0)) = some false := _root_.id rfl
theorem aeq_ra {a b c d : Nat} : aeq .pslice (.ra a b c d) (.lit (.slice none 0 0)) = some false := _root_.id rfl
theorem aeq_nilS : aeq .pslice (.lit (.slice none 0 0)) (.lit (.slice none 0 0)) = some true := _root_.id rfl

theorem appendOn_ra {H : Hp} {e : TypeId} {sz bytes id : Nat} {es ys : List AV} (h : hget H id = some (.arr sz es e)) (hb : (es.length + ys.length) * bytes <= roomMax) (hg : ys.all (fun y => y.good && y.cells.length == sz) = true) :
  appendOn H e sz bytes (.ra sz id 0 es.length) ys = some (.ra sz H.l.length 0 (es.length + ys.length),some (halloc (hset H id none) (.arr sz (es ++ ys) e))) := by
 simp only [appendOn,h]
 rw [if_pos ⟨trivial,trivial,by omega,hb,hg⟩]
 simp

structure Fresh (H : Hp) (g : Option Hp) (c : AV) (es : List AV) (e : TypeId) (os : List (Nat × AObj)) : Prop where
 row : Row e 1 c es os
 wr : Mut H (g.getD H) []
 has : ∀ q ∈ os,hget (g.getD H) q.1 = some q.2 /\ H.l.length <= q.1

@[simp] theorem isRef_ptr {a b : Nat} : (AV.ptr a b).isRef = true := rfl
@[simp] theorem aeq_ptr {a b : Nat} : aeq .pptr (.ptr a b) (.lit (.pointer none)) = some false := _root_.id rfl
theorem _root_.Go.Proofs.Eng.Mut.keeps {H H' : Hp} (h : Mut H H' []) (hd : H.d = none) : Eng.keeps H H' = true := by
 unfold Eng.keeps
 cases hm : H'.d with
 | none => rfl
 | some m =>
  rcases h.d m hm with ⟨k,hk,_⟩ | hk | ⟨i,hi,_⟩
  ·rw [hd] at hk; cases hk
  ·simpa using hk
  ·simp at hi
theorem hset_wrote {H H' : Hp} {i : Nat} {o : Option AObj} (h : i < H.l.length) : ∃ m,(hset H' i o).d = some m /\ m < H.l.length := by
 rw [hset_d]
 cases H'.d with
 | none => exact ⟨i,rfl,h⟩
 | some k => exact ⟨min k i,rfl,by omega⟩
end
end Go.Proofs.Eng
namespace Go.Proofs.Eng
open Go
def bump (c : Int) : Int := IntKind.wrap .i64 (c + 1)
def noteS : List Int -> List Int -> Int -> Bool × List Int
 | cnt,[],_ => (true,cnt)
 | cnt,k :: r,b => if k < 0 \/ b <= k then (false,cnt) else noteS (cnt.modify k.toNat bump) r b
theorem noteS_len : ∀ (ks cnt : List Int) (b : Int),(noteS cnt ks b).2.length = cnt.length
 | [],cnt,b => rfl
 | k :: r,cnt,b => by
  unfold noteS
  split
  ·rfl
  ·rw [noteS_len r]; simp
theorem ep_load {H : Hp} {id k : Nat} {t : TypeId} {cnt : List Int} (h : hget H id = some (.arr 1 (cnt.map (avInt .i64)) t)) (hk : k < cnt.length) : aload H none (.ep id k 0) = some (avInt .i64 cnt[k]) := by
 simp [aload,h,hk]
theorem ep_store {H : Hp} {id k : Nat} {t : TypeId} {cnt : List Int} (h : hget H id = some (.arr 1 (cnt.map (avInt .i64)) t)) (hk : k < cnt.length) (v : Int) : astore H 1 (.ep id k 0) (avInt .i64 v) = some (hset H id (some (.arr 1 ((cnt.set k v).map (avInt .i64)) t))) := by
 simp [astore,h,hk,List.map_set]
theorem ra_iaddr {id n : Nat} {k : IntKind} {j : Int} (h0 : 0 <= j) (h1 : j < n) : aiaddr 1 (.ra 1 id 0 n) (.lit (.int k j)) = some (.ep id j.toNat 0) := by
 have : j.toNat < n := by omega
 simp [aiaddr,h0,this]
section
variable {Γ : Sums} {A : Tab} {N : Nat -> Nat}
theorem note_call (h : TreeC Γ A N) {H : Hp} {id : Nat} {t : TypeId} {cnt ks : List Int} {x : AV} {b : Int} (hu : hget H id = some (.arr 1 (cnt.map (avInt .i64)) t)) (hx : VI H x ks) (hne : ∀ off n,x ≠ .ra 1 id off n) (hb : b <= cnt.length) (hl : ks.length < 2 ^ 60) :
  ∃ g,(lim Γ A).call (f_tree_uses_note N) [.ra 1 id 0 cnt.length,x,avInt .i64 b] H = some (avBool (noteS cnt ks b).1,g) /\ hget (g.getD H) id = some (.arr 1 ((noteS cnt ks b).2.map (avInt .i64)) t) /\ Mut H (g.getD H) [id] := by
 obtain ⟨R,hR⟩ : ∃ R : AV × Option Hp -> Prop,R = fun r => ∃ g,r = (avBool (noteS cnt ks b).1,g) /\ hget (g.getD H) id = some (.arr 1 ((noteS cnt ks b).2.map (avInt .i64)) t) /\ Mut H (g.getD H) [id] := ⟨_,rfl⟩
 suffices ∃ r,(lim Γ A).call (f_tree_uses_note N) [.ra 1 id 0 cnt.length,x,avInt .i64 b] H = some r /\ R r by
  obtain ⟨r,e,hr⟩ := this
  rw [hR] at hr
  obtain ⟨g,rfl,h1⟩ := hr
  exact ⟨g,e,h1⟩
 have hlen := VI.len hx
 have hid := hget_lt hu
 have fin : ∀ (H' : Hp) (cnt' : List Int) (r : Bool),hget H' id = some (.arr 1 (cnt'.map (avInt .i64)) t) -> Mut { l := H.l,d := none } H' [id] -> ((H' = { l := H.l,d := none } /\ cnt' = cnt) \/ ∃ m,H'.d = some m /\ m < H.l.length) -> (r,cnt') = noteS cnt ks b -> R (settle H (avBool r) H') := by
  intro H' cnt' r h1 h2 h3 h4
  rw [hR]
  rcases h3 with ⟨rfl,rfl⟩ | h3
  ·refine ⟨none,?_,?_,Mut.refl _ _⟩
   ·rw [settle_keeps (by rfl) (by simp [AV.under]),<- h4]
   ·rw [<- h4]; exact hu
  ·refine ⟨some { l := H'.l,d := dminO H.d H'.d },?_,?_,h2.settled⟩
   ·rw [settle_wrote h3,<- h4]
   ·rw [<- h4]; exact h1
 apply h.note.callP (by rfl)
 simp [C_tree_uses_note,hlen,-Int.natCast_add]
 refine wp_round (fun k ρ H' => ∃ (i : Nat) (cnt' : List Int),ρ 0 = .ra 1 id 0 cnt.length /\ ρ 2 = avInt .i64 b /\ ρ 9 = x /\ ρ 10 = avInt .i64 ks.length /\ ρ 11 = avInt .i64 i /\ i <= ks.length /\ noteS cnt' (ks.drop i) b = noteS cnt ks b /\ cnt'.length = cnt.length /\ hget H' id = some (.arr 1 (cnt'.map (avInt .i64)) t) /\ Mut { l := H.l,d := none } H' [id] /\
  ((H' = { l := H.l,d := none } /\ cnt' = cnt) \/ ∃ m,H'.d = some m /\ m < H.l.length) /\ k = ks.length - i) (n := ks.length)
  ⟨0,cnt,rfl,rfl,rfl,rfl,rfl,by omega,rfl,rfl,hu,Mut.refl _ _,.inl ⟨rfl,rfl⟩,rfl⟩ ?_
 rintro k ρ H' ⟨i,cnt',r0,r2,r9,r10,r11,hi,hn,hcl,hg,hM,hd,rfl⟩
 have hx' : VI H' x ks := hM.vw (hx.dd none) (fun id' off n e => by
  simp only [List.mem_singleton]
  rintro rfl
  exact hne off n e)
 by_cases hlt : i < ks.length
 ·have hlt' : (i : Int) < ks.length := by omega
  obtain ⟨q,q1,q2⟩ := hx'.at' (k := .i64) (i := (i : Int)) (e := avInt .i64 ks[i]) (by omega) (by simp [List.getElem?_eq_getElem hlt]) rfl rfl rfl
  have hw : IntKind.wrap .i64 ((i : Int) + 1) = ((i + 1 : Nat) : Int) := by rw [wrap64 (by omega) (by omega)]; omega
  have hd2 : ks.drop i = ks[i] :: ks.drop (i + 1) := List.drop_eq_getElem_cons hlt
  rw [hd2] at hn
  rw [show noteS cnt' (ks[i] :: ks.drop (i + 1)) b = (if ks[i] < 0 \/ b <= ks[i] then (false,cnt') else noteS (cnt'.modify ks[i].toNat bump) (ks.drop (i + 1)) b) from rfl] at hn
  generalize ks[i] = j at *
  by_cases hj : j < 0 \/ b <= j
  ·rw [if_pos hj] at hn
   have hf := fin H' cnt' false hg hM hd hn
   have hr : (noteS cnt ks b).1 = false := by rw [<- hn]
   rcases hj with hj | hj
   ·simp [L_tree_uses_note_1,r0,r2,r9,r10,r11,hlt',q1,q2,hj]
    exact hf
   ·by_cases hj0 : j < 0
    ·simp [L_tree_uses_note_1,r0,r2,r9,r10,r11,hlt',q1,q2,hj0]
     exact hf
    ·simp [L_tree_uses_note_1,r0,r2,r9,r10,r11,hlt',q1,q2,hj0,hj]
     exact hf
  ·rw [if_neg hj] at hn
   have hj0 : ¬ j < 0 := fun e => hj (.inl e)
   have hj1 : ¬ b <= j := fun e => hj (.inr e)
   have hjn : j.toNat < cnt'.length := by omega
   have p1 := ra_iaddr (id := id) (n := cnt.length) (k := .i64) (j := j) (by omega) (by omega)
   have p2 := ep_load hg hjn
   have p3 : astore H' 1 (.ep id j.toNat 0) (avInt .i64 (IntKind.wrap .i64 (cnt'[j.toNat] + 1))) = some (hset H' id (some (.arr 1 ((cnt'.set j.toNat (bump cnt'[j.toNat])).map (avInt .i64)) t))) := ep_store hg hjn _
   have hmod : cnt'.modify j.toNat bump = cnt'.set j.toNat (bump cnt'[j.toNat]) := by
    apply List.ext_getElem?
    intro y
    simp only [List.getElem?_modify,List.getElem?_set]
    by_cases hy : j.toNat = y
    ·subst hy; simp [hjn]
    ·simp [hy]
   rw [hmod] at hn
   simp [L_tree_uses_note_1,r0,r2,r9,r10,r11,hlt',q1,q2,hj0,hj1,p1,p2,p3,hw,-hset_d,-Int.natCast_add,-hget_hset]
   refine ⟨ks.length - (i + 1),by omega,i + 1,rfl,by omega,cnt'.set j.toNat (bump cnt'[j.toNat]),hn,by simpa using hcl,?_,hM.set (.inl (by simp)),?_,rfl⟩
   ·rw [hget_hset,if_pos rfl,if_pos (hget_lt hg),List.map_set]
   ·exact .inr (hset_wrote hid)
 ·have hlt' : ¬ (i : Int) < ks.length := by omega
  rw [List.drop_of_length_le (by omega)] at hn
  have hf := fin H' cnt' true hg hM hd hn
  simp [L_tree_uses_note_1,K_tree_uses_note_1,r0,r2,r9,r10,r11,hlt']
  exact hf
end
end Go.Proofs.Eng
namespace Go.Proofs.Eng
open Go
def fitB (n : Nd) (nm nu bi tx : Bool) : Bool :=
 (if tx then textB' n.name else if !nm then decide (n.name = []) else (decide (n.kind = 11) || decide (n.kind = 14) || isNameB n.name)) &&
 (if nu then !decide (n.int < 0) && (!decide (n.kind = 2) || !decide (1 < n.int)) else decide (n.int = 0)) && (if bi then decide (ofB n.bits = n.bits) else decide (n.bits = 0))
def termB (n : Nd) : Bool := match shapeOf n.kind with
 | none => false
 | some (nm,nu,bi,tx,k,t) => (!decide (0 <= k) || decide ((n.kids.length : Int) = k)) && decide ((n.types.length : Int) = t) && namedB n && fitB n nm nu bi tx
def typB (n : Ty) : Bool :=
 if n.opn && !decide (n.kind = 9) then false
 else if n.kind = 7 then decide (n.name = []) && decide (n.names = []) && decide ((n.kids.length : Int) = 2)
 else if n.kind = 8 then decide (n.name = []) && decide ((n.names.length : Int) = n.kids.length) && onceB n.names && n.names.all isNameB
 else if n.kind = 9 then decide (n.name = []) && decide ((n.names.length : Int) = n.kids.length) && onceB n.names && n.names.all tagW
 else if n.kind = 10 then aliasB n.name && decide (n.names.length + n.kids.length = 0)
 else decide (0 <= n.kind) && decide (n.kind <= 6) && decide (n.name = []) && decide (n.names.length + n.kids.length = 0)
section
variable {Γ : Sums} {A : Tab} {N : Nat -> Nat}
theorem typ_call (h : TreeC Γ A N) {H : Hp} {x : AV} {n : Ty} (hn : TyR H x n) (ok : n.ok) : (lim Γ A).call (f_tree_typ N) [x] H = some (avBool (typB n),none) := by
 obtain ⟨a,b,rfl,ha,hb⟩ := hn
 obtain ⟨o1,o2,o3,o4⟩ := ok
 have la := VS.len ha
 have lb := VI.len hb
 have pa := ha.one
 have pb := hb.one
 have ha' : ∀ o,VS (halloc { l := H.l,d := none } o) a n.names := fun o => ha.keep fun id hid => by rw [hget_halloc,if_neg (by simp; omega)]; rfl
 have eN : ∀ s ∈ n.names,∀ H,(lim Γ A).call (f_lexer_IsName N) [avStr s] H = some (avBool (isNameB s),none) := fun s hs H => lexer_IsName_call h.lex.S s (by have := o2 s hs; omega) H
 have eT : ∀ s ∈ n.names,∀ H,(lim Γ A).call (f_tree_tag N) [avStr s] H = some (avBool (tagW s),none) := fun s hs H => tag_call h s (by have := o2 s hs; omega) H
 have e5 : ∀ o,(lim Γ A).call (f_tree_all N) [a,.fn (f_lexer_IsName N) [] []] (halloc { l := H.l,d := none } o) = some (avBool (n.names.all isNameB),none) := fun o => all_call h (ha' o) isNameB (fun s hs H => eN s hs H) (by omega)
 have e6 : ∀ o,(lim Γ A).call (f_tree_once N) [a] (halloc { l := H.l,d := none } o) = some (avBool (onceB n.names),none) := fun o => once_call h (ha' o) (by omega)
 have e7 : ∀ o,(lim Γ A).call (f_tree_all N) [a,.fn (f_tree_tag N) [] []] (halloc { l := H.l,d := none } o) = some (avBool (n.names.all tagW),none) := fun o => all_call h (ha' o) tagW (fun s hs H => eT s hs H) (by omega)
 have e8 := fun H => alias_call h n.name (by omega) H
 have hw : IntKind.wrap .i64 ((n.names.length : Int) + n.kids.length) = ((n.names.length + n.kids.length : Nat) : Int) := by rw [wrap64 (by omega) (by omega)]; omega
 have hz : ((n.names.length : Int) + n.kids.length = 0) ↔ (n.names = [] /\ n.kids = []) := by
  rw [<- List.length_eq_zero_iff,<- List.length_eq_zero_iff]; omega
 unfold typB
 generalize n.names.all isNameB = b1 at *
 generalize n.names.all tagW = b2 at *
 generalize onceB n.names = b3 at *
 generalize aliasB n.name = b4 at *
 apply h.typ.call (by rfl)
 unfold tyV
 by_cases k9 : n.kind = 9
 ·simp [settle,keeps,C_tree_typ,k9,pa,pb,la,lb]
  repeat' (first | (apply guardP_intro <;> intro hg <;> (try simp only [decide_eq_true_eq,decide_eq_false_iff_not,ne_eq,Bool.not_eq_true,Bool.not_eq_false,Bool.not_eq_eq_eq_not,Bool.not_true,Bool.not_false,Bool.not_not,decide_not,Decidable.not_not] at hg) <;> simp [settle,keeps, *]) | (apply iteP_intro <;> intro hg <;> (try simp only [decide_eq_true_eq,decide_eq_false_iff_not,ne_eq,Bool.not_eq_true,Bool.not_eq_false,Bool.not_eq_eq_eq_not,Bool.not_true,Bool.not_false,Bool.not_not,decide_not,Decidable.not_not] at hg) <;> simp [settle,keeps, *]))
 ·cases ho : n.opn
  ·by_cases k7 : n.kind = 7
   ·simp [settle,keeps,C_tree_typ,ho,k7,pa,pb,la,lb]
    repeat' (first | (apply guardP_intro <;> intro hg <;> (try simp only [decide_eq_true_eq,decide_eq_false_iff_not,ne_eq,Bool.not_eq_true,Bool.not_eq_false,Bool.not_eq_eq_eq_not,Bool.not_true,Bool.not_false,Bool.not_not,decide_not,Decidable.not_not] at hg) <;> simp [settle,keeps, *]) | (apply iteP_intro <;> intro hg <;> (try simp only [decide_eq_true_eq,decide_eq_false_iff_not,ne_eq,Bool.not_eq_true,Bool.not_eq_false,Bool.not_eq_eq_eq_not,Bool.not_true,Bool.not_false,Bool.not_not,decide_not,Decidable.not_not] at hg) <;> simp [settle,keeps, *]))
   ·by_cases k8 : n.kind = 8
    ·simp [settle,keeps,C_tree_typ,ho,k8,pa,pb,la,lb]
     repeat' (first | (apply guardP_intro <;> intro hg <;> (try simp only [decide_eq_true_eq,decide_eq_false_iff_not,ne_eq,Bool.not_eq_true,Bool.not_eq_false,Bool.not_eq_eq_eq_not,Bool.not_true,Bool.not_false,Bool.not_not,decide_not,Decidable.not_not] at hg) <;> simp [settle,keeps, *]) | (apply iteP_intro <;> intro hg <;> (try simp only [decide_eq_true_eq,decide_eq_false_iff_not,ne_eq,Bool.not_eq_true,Bool.not_eq_false,Bool.not_eq_eq_eq_not,Bool.not_true,Bool.not_false,Bool.not_not,decide_not,Decidable.not_not] at hg) <;> simp [settle,keeps, *]))
    ·by_cases k10 : n.kind = 10
     ·simp [settle,keeps,C_tree_typ,ho,k10,pa,pb,la,lb,e8]
      repeat' (first | (apply guardP_intro <;> intro hg <;> (try simp only [decide_eq_true_eq,decide_eq_false_iff_not,ne_eq,Bool.not_eq_true,Bool.not_eq_false,Bool.not_eq_eq_eq_not,Bool.not_true,Bool.not_false,Bool.not_not,decide_not,Decidable.not_not] at hg) <;> simp [settle,keeps, *]) | (apply iteP_intro <;> intro hg <;> (try simp only [decide_eq_true_eq,decide_eq_false_iff_not,ne_eq,Bool.not_eq_true,Bool.not_eq_false,Bool.not_eq_eq_eq_not,Bool.not_true,Bool.not_false,Bool.not_not,decide_not,Decidable.not_not] at hg) <;> simp [settle,keeps, *]))
     ·simp [settle,keeps,C_tree_typ,ho,k7,k8,k9,k10,pa,pb,la,lb]
      repeat' (first | (apply guardP_intro <;> intro hg <;> (try simp only [decide_eq_true_eq,decide_eq_false_iff_not,ne_eq,Bool.not_eq_true,Bool.not_eq_false,Bool.not_eq_eq_eq_not,Bool.not_true,Bool.not_false,Bool.not_not,decide_not,Decidable.not_not] at hg) <;> simp [settle,keeps, *]) | (apply iteP_intro <;> intro hg <;> (try simp only [decide_eq_true_eq,decide_eq_false_iff_not,ne_eq,Bool.not_eq_true,Bool.not_eq_false,Bool.not_eq_eq_eq_not,Bool.not_true,Bool.not_false,Bool.not_not,decide_not,Decidable.not_not] at hg) <;> simp [settle,keeps, *]))
  ·simp [settle,keeps,C_tree_typ,ho,k9,pa,pb,la,lb]

set_option maxHeartbeats 8000000 in
theorem term_call (h : TreeC Γ A N) {H : Hp} {x : AV} {n : Nd} (hn : NdR H x n) (ok : n.ok) : (lim Γ A).call (f_tree_term N) [x] H = some (avBool (termB n),none) := by
 have hn0 := hn
 obtain ⟨a,b,c,rfl,ha,hb,hc⟩ := hn
 obtain ⟨o1,o2,o3,o4,o5⟩ := ok
 have la := VS.len ha
 have lb := VI.len hb
 have lc := VI.len hc
 have pa := ha.one
 have pb := hb.one
 have pc := hc.one
 have e1 := fun H => shapes_call h n.kind H
 have e3 := fun H => text_call h n.name (by omega) H
 have e4 := fun H => lexer_IsName_call h.lex.S n.name (by omega) H
 have e5 := fun H => floats_Of_call' h.lex.T n.bits H
 have e2 : ∀ o o' o'',(lim Γ A).call (f_tree_named N) [ndV n a b c] (hset (halloc (halloc { l := H.l,d := none } o) o') (H.l.length + 1) (some o'')) = some (avBool (namedB n),none) := fun o o' o'' => by
  have k : ∀ id,id < H.l.length -> hget (hset (halloc (halloc { l := H.l,d := none } o) o') (H.l.length + 1) (some o'')) id = hget H id := fun id hid => by
   rw [hget_hset,if_neg (by omega),hget_halloc,if_neg (by simp; omega),hget_halloc,if_neg (by simp; omega)]; rfl
  exact named_call h ⟨a,b,c,rfl,ha.keep k,hb.keep k,hc.keep k⟩ ⟨o1,o2,o3,o4,o5⟩
 unfold ndV at e2
 unfold shapeR at e1
 unfold termB fitB
 generalize namedB n = b1 at *
 generalize textB' n.name = b2 at *
 generalize isNameB n.name = b3 at *
 generalize ofB n.bits = bv at *
 apply h.term.call (by rfl)
 unfold ndV
 cases hs : shapeOf n.kind with
 | none =>
  simp only [hs] at e1
  simp [settle,keeps,C_tree_term,pa,pb,pc,la,lb,lc,e1,shapeV,setFrom,loadC]
 | some p =>
  obtain ⟨nm,nu,bi,tx,k,t⟩ := p
  simp only [hs] at e1
  clear hs hn0
  simp [settle,keeps,C_tree_term,pa,pb,pc,la,lb,lc,e1,shapeV,setFrom,loadC]
  repeat' (first | (apply guardP_intro <;> intro hg <;> (try simp only [decide_eq_true_eq,decide_eq_false_iff_not,ne_eq,Bool.not_eq_true,Bool.not_eq_false,Bool.not_eq_eq_eq_not,Bool.not_true,Bool.not_false,Bool.not_not,decide_not,Decidable.not_not] at hg) <;> simp [settle,keeps,loadC, *]) | (apply iteP_intro <;> intro hg <;> (try simp only [decide_eq_true_eq,decide_eq_false_iff_not,ne_eq,Bool.not_eq_true,Bool.not_eq_false,Bool.not_eq_eq_eq_not,Bool.not_true,Bool.not_false,Bool.not_not,decide_not,Decidable.not_not] at hg) <;> simp [settle,keeps,loadC, *]))
end
end Go.Proofs.Eng
