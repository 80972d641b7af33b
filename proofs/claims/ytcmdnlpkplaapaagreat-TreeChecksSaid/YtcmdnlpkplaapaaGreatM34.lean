import Derived.Test.YtcmdnlpkplaapaaGreatEngAK
import Derived.Test.YtcmdnlpkplaapaaGreatM31
import Derived.Test.YtcmdnlpkplaapaaGreatEngAH
import Derived.Test.YtcmdnlpkplaapaaGreatM26
import Derived.Test.YtcmdnlpkplaapaaGreatM27
import Derived.KernelRfl
import Derived.Test.YtcmdnlpkplaapaaGreatM29
set_option linter.unusedVariables false
set_option linter.unusedSimpArgs false
set_option maxRecDepth 100000
namespace Go.Proofs.Eng
open Go
section
variable {Γ : Sums} {A : Tab} {N : Nat -> Nat}
theorem Vw.cg {H : Hp} {sz : Nat} {x : AV} {es : List AV} (h : Vw H sz x es) : x.cells = [x] /\ x.good = true := by
 rcases h with (⟨rfl,_⟩ | rfl) | ⟨id,off,e,all,rfl,_⟩ <;> exact ⟨rfl,rfl⟩
theorem back_call (h : Has Γ A (f_slices_Backward_sl_int_int N) (C_slices_Backward_sl_int_int N)) (H : Hp) {x : AV} {ks : List Int} (hx : VI H x ks) : (lim Γ A).call (f_slices_Backward_sl_int_int N) [x] H = some (.fn (f_slices_Backward_sl_int_int_1 N) [] [.ptr H.l.length 0],some { l := H.l ++ [some (.cells [x] (t_sl_int N))],d := dminO H.d none }) := by
 obtain ⟨h1,h2⟩ := Vw.cg hx
 apply h.call (by rfl)
 simp [C_slices_Backward_sl_int_int,h1,h2]
 rw [settle_some (by simp [AV.under,AV.unders])]
 rfl
theorem walk_fn (h : Has Γ A (f_tree_Walk N) (C_tree_Walk N)) (H : Hp) {a b c : AV} {n : Int} (ha : a.one = true) (hb : b.one = true) (hc : c.one = true) : (lim Γ A).call (f_tree_Walk N) [.agg [a,b,c],avInt .i64 n] H = some (.fn (f_tree_Walk_1 N) [] [.ptr (H.l.length + 1) 0,.ptr H.l.length 0],some { l := H.l ++ [some (.cells [a,b,c] (t_api_Tree N)),some (.cells [avInt .i64 n] (t_int N))],d := dminO H.d none }) := by
 apply h.call (by rfl)
 simp [C_tree_Walk,ha,hb,hc]
 rw [settle_some (by simp [AV.under,AV.unders])]
 simp [halloc]
theorem back_gen (h : Has Γ A (f_slices_Backward_sl_int_int_1 N) (C_slices_Backward_sl_int_int_1 N)) {c : Nat} {tc : TypeId} {x : AV} {ks : List Int} (hl : ks.length < 2 ^ 60) :
  GenM (lim Γ A) (f_slices_Backward_sl_int_int_1 N) [] [.ptr c 0] (fun H => hget H c = some (.cells [x] tc) /\ VI H x ks) ks.length
   (fun i H args => ∃ k j,ks.reverse[i]? = some k /\ args = [avInt .i64 j,avInt .i64 k]) := by
 intro lp H K Kx S0 hlp hS0 hlS hst hV h00 hstep
 suffices hsuf : ∃ r,(lim Γ A).ent (f_slices_Backward_sl_int_int_1 N) ([] ++ [AV.yld lp] ++ [.ptr c 0]) H = some r /\ ∃ H2,(r.2.getD H).l = H2.l /\ (r.2.getD H).d = dminO H.d H2.d /\ ((∃ S,K ks.length S H2) \/ Kx H2) by
  obtain ⟨⟨v,g⟩,e,H2,r1,r2,r3⟩ := hsuf
  exact ⟨v,g,H2,e,r1,r2,r3⟩
 obtain ⟨R,hR⟩ : ∃ R : AV × Option Hp -> Prop,R = fun r => ∃ H2,(r.2.getD H).l = H2.l /\ (r.2.getD H).d = dminO H.d H2.d /\ ((∃ S,K ks.length S H2) \/ Kx H2) := ⟨_,rfl⟩
 suffices ∃ r,(lim Γ A).ent (f_slices_Backward_sl_int_int_1 N) ([] ++ [AV.yld lp] ++ [.ptr c 0]) H = some r /\ R r by simpa [hR] using this
 obtain ⟨v1,v2⟩ := hV 0 S0 _ h00
 have hxl := VI.len v2
 have hx1 := Vw.one v2
 have hw0 : IntKind.wrap .i64 ((ks.length : Int) - 1) = (ks.length : Int) - 1 := by rw [wrap64 (by omega) (by omega)]
 apply h.entP (by rfl)
 simp [C_slices_Backward_sl_int_int_1,v1,hxl,hx1,hw0]
 refine wp_round (n := ks.length) (fun q ρ H' => ∃ (i : Nat) (S : List Nat) (j : Int),ρ 0 = .yld lp /\ ρ 1 = .ptr c 0 /\ ρ 3 = avInt .i64 j /\ j = (ks.length : Int) - 1 - i /\ i <= ks.length /\ K i S H' /\
  ((i = 0 /\ H' = { l := H.l,d := none }) \/ ∃ mm,H'.d = some mm /\ mm <= lp) /\ q = ks.length - i) ?_ ?_
 ·exact ⟨0,S0,(ks.length : Int) - 1,rfl,rfl,rfl,by simp,by omega,h00,.inl ⟨rfl,rfl⟩,rfl⟩
 ·rintro q ρ H' ⟨i,S,j,h0,h1,h3,hj,hi,hK,hd,rfl⟩
  obtain ⟨w1,w2⟩ := hV i S H' hK
  by_cases hlt : i < ks.length
  ·have hge : (0 : Int) <= j := by omega
   have hge' : ¬ (j < 0) := by omega
   have hk0 : ks.reverse[i]? = some (ks[ks.length - 1 - i]'(by omega)) := by
    rw [List.getElem?_reverse (by omega),List.getElem?_eq_getElem]
   obtain ⟨p,p1,p2⟩ := w2.at' (k := .i64) (i := j) (e := avInt .i64 (ks[ks.length - 1 - i]'(by omega))) (by omega) (by
    have : j.toNat = ks.length - 1 - i := by omega
    rw [this]; simp) rfl rfl rfl
   obtain ⟨tt,H'',S',y1,y2,y3,y4,y5,y6⟩ := hstep i S H' [avInt .i64 j,avInt .i64 (ks[ks.length - 1 - i]'(by omega))] hlt hK ⟨_,_,hk0,rfl⟩
   have hw : IntKind.wrap .i64 (j - 1) = j - 1 := by rw [wrap64 (by omega) (by omega)]
   cases tt with
   | true =>
    simp [L_slices_Backward_sl_int_int_1_1,h0,h1,h3,hge,hge',p1,p2,w1,hx1,bindH_opt,y1,hw,-Int.natCast_add]
    exact ⟨ks.length - (i + 1),by omega,i + 1,by omega,by omega,⟨S',y5 rfl⟩,.inr y2,rfl⟩
   | false =>
    obtain ⟨mm,d1,d2⟩ := y2
    have hsw := settle_wrote (H := H) (H' := H'') (v := .tup []) ⟨mm,d1,by omega⟩
    simp [L_slices_Backward_sl_int_int_1_1,h0,h1,h3,hge,hge',p1,p2,w1,hx1,bindH_opt,y1,hw,-Int.natCast_add]
    rw [hsw,hR]
    exact ⟨H'',rfl,rfl,.inr (y6 rfl)⟩
  ·have hi2 : i = ks.length := by omega
   subst hi2
   have hge : ¬ (0 : Int) <= j := by omega
   have hge' : j < 0 := by omega
   rcases hd with ⟨i0,rfl⟩ | ⟨mm,d1,d2⟩
   ·have hsw := settle_keeps (H := H) (H' := { l := H.l,d := none }) (v := .tup []) (by rfl) (by simp [AV.under,AV.unders])
    simp [L_slices_Backward_sl_int_int_1_1,h0,h1,h3,hge,hge']
    rw [hR]
    refine ⟨{ l := H.l,d := none },rfl,rfl,.inl ⟨S0,?_⟩⟩
    rw [i0]; exact h00
   ·have hsw := settle_wrote (H := H) (H' := H') (v := .tup []) ⟨mm,d1,by omega⟩
    simp [L_slices_Backward_sl_int_int_1_1,h0,h1,h3,hge,hge']
    rw [hsw,hR]
    exact ⟨H',rfl,rfl,.inl ⟨S,hK⟩⟩
end
end Go.Proofs.Eng
namespace Go.Proofs.Eng
open Go Go.RowKit

def GenO (W : Env) (g : FuncId) (fs cs : List AV) (V : Hp -> Prop) (n : Nat) (X : Nat -> Hp -> List AV -> Prop) : Prop :=
 ∀ (l : Nat) (H : Hp) (K : Nat -> List Nat -> Hp -> Prop) (Kx : Hp -> Prop) (S0 : List Nat),l < H.l.length -> (∀ s ∈ S0,s < H.l.length) -> l ∈ S0 ->
  (∀ i S H' H'' O,K i S H' -> Mut H' H'' O -> (∀ o ∈ O,H.l.length <= o /\ o ∉ S) -> K i S H'') -> (∀ i S H',K i S H' -> V H') -> K 0 S0 { l := H.l,d := none } ->
  (∀ i S H' args,i < n -> K i S H' -> X i H' args -> ∃ t H'' S',W.yld l args H' = some (avBool t,some H'') /\ (∃ m,H''.d = some m /\ m <= l) /\ Mut H' H'' S /\ (∀ s ∈ S',s ∈ S \/ H'.l.length <= s) /\ (∀ s ∈ S',s < H''.l.length) /\ (t = true -> K (i + 1) S' H'') /\ (t = false -> Kx H'')) ->
  ∃ v h H2,W.ent g (fs ++ [.yld l] ++ cs) H = some (v,h) /\ (h.getD H).l = H2.l /\ (h.getD H).d = dminO H.d H2.d /\ ((∃ S,K n S H2) \/ Kx H2)

section
variable {Γ : Sums} {A : Tab} {H0 : Hp}

theorem GenM.own {W : Env} {g : FuncId} {fs cs : List AV} {V : Hp -> Prop} {n : Nat} {X : Nat -> Hp -> List AV -> Prop} (h : GenM W g fs cs V n X) : GenO W g fs cs V n X := fun l H K Kx S0 a b c hst hV h0 step =>
 h l H K Kx S0 a b c (fun i S H' H'' hK hM => hst i S H' H'' [] hK hM (by simp)) hV h0 (fun i S H' args hi hK hX => by
  obtain ⟨t,H'',S',a1,a2,a3,a4,_,a5,a6⟩ := step i S H' args hi hK hX
  exact ⟨t,H'',S',a1,a2,a3,a4,a5,a6⟩)
theorem Loc.apart {H H' : Hp} {os : List (Nat × AObj)} {O : List Nat} (h : Loc H0 H os) (k : Mut H H' O) (ho : ∀ o ∈ O,H0.l.length <= o /\ o ∉ os.map Prod.fst) : Loc H0 H' os :=
 h.mut k (fun i hi => (ho i hi).1) (fun p hp => ⟨k.get' (h.get hp) (fun hm => (ho _ hm).2 (List.mem_map.2 ⟨p,hp,rfl⟩)),h.ge hp⟩) h.nd

theorem range_locO {g : FuncId} {fs cs : List AV} {V : Hp -> Prop} {n : Nat} {X : Nat -> Hp -> List AV -> Prop} {rd : Option Nat} {ps : List Nat} {asg body : AC} {τ : List AV} {H : Hp} {os : List (Nat × AObj)} (hg : GenO (lim Γ A) g fs cs V n X) (hrd : rdAlive H rd = true) (hl : Loc H0 H os)
  (hps : ∀ p ∈ ps,p < τ.length) (hda : dstOK τ.length asg = true) (hdb : dstOK τ.length body = true)
  (I : Nat -> List (Nat × AObj) -> Prop) (Qx : AX -> List (Nat × AObj) -> Prop) (hV : ∀ i H' l o os',Loc H0 H' ((l,o) :: os') -> I i os' -> V H') (h0 : I 0 os)
  (step : ∀ i (hi : i < n) H' os' args,Loc H0 H' ((H.l.length,.loop .ready .nrm τ ps asg body) :: os') -> I i os' -> X i H' args -> args.length = ps.length /\
   wp (lim Γ A) (some H.l.length) asg (putR ps args (rho τ)) H' fun x ρ' H1 => x = .nrm /\ ∃ os1,Loc H0 H1 ((H.l.length,.loop .ready .nrm τ ps asg body) :: os1) /\ Mut H' H1 (H.l.length :: os'.map Prod.fst) /\
    ∀ H1',Loc H0 H1' ((H.l.length,.loop .busy .nrm τ ps asg body) :: os1) -> Mut H' H1' (H.l.length :: os'.map Prod.fst) -> wp (lim Γ A) (some H.l.length) body ρ' H1' fun x ρ2 H2 =>
     ∃ os2,Loc H0 H2 ((H.l.length,.loop .busy .nrm τ ps asg body) :: os2) /\ Mut H' H2 (H.l.length :: os'.map Prod.fst) /\ (∀ s ∈ os2.map Prod.fst,s ∈ os'.map Prod.fst \/ H'.l.length <= s) /\ ((x = .nrm /\ I (i + 1) os2) \/ (x ≠ .nrm /\ Qx x os2))) :
  ∃ x H2 os2,(lim Γ A).range rd (.fn g fs cs) ps asg body τ H = some (x,τ,H2) /\ Loc H0 H2 os2 /\ ((x = .nrm /\ I n os2) \/ (x ≠ .nrm /\ Qx x os2)) := by
 let l := H.l.length
 have hl1 := hl.alloc (.loop .ready .nrm τ ps asg body)
 obtain ⟨v,h,H2,e1,e2,e3,hK⟩ := hg l (halloc H (.loop .ready .nrm τ ps asg body)) (fun i S H' => ∃ os',S = l :: os'.map Prod.fst /\ Loc H0 H' ((l,.loop .ready .nrm τ ps asg body) :: os') /\ I i os')
  (fun H' => ∃ x os',x ≠ AX.nrm /\ Loc H0 H' ((l,.loop .done x τ ps asg body) :: os') /\ Qx x os') (l :: os.map Prod.fst) (by simp [l]) (fun s hs => by
   rcases List.mem_cons.1 hs with rfl | hs
   ·simp [l]
   ·obtain ⟨p,hp,rfl⟩ := List.mem_map.1 hs
    have := hl.lt hp
    simp; omega) (by simp) (by rintro i S H' H'' O ⟨os',hS,hL,hI⟩ hm ho; exact ⟨os',hS,hL.apart hm (fun o h1 => ⟨by have := (ho o h1).1; have := hl.len; simp at *; omega,by have := (ho o h1).2; rw [hS] at this; simpa using this⟩),hI⟩) (by rintro i S H' ⟨os',hS,hL,hI⟩; exact hV i H' _ _ os' hL hI) ⟨os,rfl,hl1.dnone,h0⟩ (by
   rintro i S H' args hi ⟨os',rfl,hL,hI⟩ hX
   rw [lim_yld_eq]
   obtain ⟨hxl,hstep⟩ := step i hi H' os' args hL hI hX
   obtain ⟨x1,τ1,H1,f1,f2,rfl,os1,hL1,hM1,f3⟩ := wp_sound (τ := putAll ps args τ) asg (by rw [putAll_len]; exact hda) (by rw [rho_putAll _ _ _ hps]; exact hstep)
   rw [putAll_len] at f2
   obtain ⟨x2,τ2,H3,g1,g2,os2,hL2,hM2,hs2,g3⟩ := wp_sound (τ := τ1) body (by rw [f2]; exact hdb) (f3 _ (hL1.set _) (hM1.set (.inl (by simp [l]))))
   have a1 := hL.head
   have a2 := hL1.head
   have a3 := hL2.head
   refine ⟨x2 == .nrm,hset H3 l (some (.loop (if x2 = .nrm then .ready else .done) x2 τ ps asg body)),l :: os2.map Prod.fst,?_,⟨dmin' H3.d l,?_,?_⟩,hM2.set (.inl (by simp [l])),?_,?_,?_,?_⟩
   ·unfold runY
    simp only [l,a1,hxl,if_true,f1,a2,g1,a3]
   ·simp only [hset_d]; exact dmin'_eq _ _
   ·exact dmin'_le _ _
   ·intro s hs
    rcases List.mem_cons.1 hs with rfl | hs
    ·exact .inl (by simp)
    ·rcases hs2 s hs with hs | hs
     ·exact .inl (by simp [hs])
     ·exact .inr hs
   ·intro s hs
    rcases List.mem_cons.1 hs with rfl | hs
    ·simpa using hL2.lt (p := (l,.loop .busy .nrm τ ps asg body)) (by simp [l])
    ·obtain ⟨p,hp,rfl⟩ := List.mem_map.1 hs
     simpa using hL2.lt (p := p) (by simp [hp])
   ·intro ht
    have hx : x2 = .nrm := by simpa using ht
    subst hx
    rcases g3 with ⟨_,g3⟩ | ⟨g3,_⟩
    ·exact ⟨os2,rfl,hL2.set _,g3⟩
    ·exact absurd rfl g3
   ·intro ht
    have hx : x2 ≠ .nrm := by simpa using ht
    rcases g3 with ⟨g3,_⟩ | ⟨_,g3⟩
    ·exact absurd g3 hx
    ·refine ⟨x2,os2,hx,?_,g3⟩
     rw [if_neg hx]
     exact hL2.set _)
 have hmv : ∀ {o : AObj} {os' : List (Nat × AObj)},Loc H0 H2 ((l,o) :: os') -> Loc H0 (h.getD (halloc H (.loop .ready .nrm τ ps asg body))) ((l,o) :: os') := by
  intro o os' hL
  refine ⟨by rw [e2]; exact hL.len,fun m hm => ?_,fun i hi => by rw [e2]; exact hL.old i hi,fun p hp => ?_,hL.nd⟩
  ·rw [e3] at hm
   simp only [halloc_d] at hm
   cases hd2 : H2.d with
   | none => rw [hd2] at hm; exact hl.d m (by simpa using hm)
   | some k =>
    rw [hd2] at hm
    have hk := hL.d k hd2
    simp only [dminO_some] at hm
    cases hd : H.d with
    | none => rw [hd] at hm; simp at hm; omega
    | some j => rw [hd] at hm; simp at hm; have := hl.d j hd; omega
  ·have := hL.has p hp
   refine ⟨?_,this.2⟩
   unfold hget at this ⊢
   rw [e2]; exact this.1
 rw [lim_range_eq]
 unfold runR
 rw [if_pos hrd]
 simp only []
 show ∃ x H2' os2,(match (lim Γ A).ent g (fs ++ [AV.yld l] ++ cs) (halloc H (.loop .ready .nrm τ ps asg body)) with
   | some (_,h) =>
    match hget (h.getD (halloc H (.loop .ready .nrm τ ps asg body))) l with
    | some (.loop st pe _ _ _ _) => if st = .busy then none else some (pe,τ,hset (h.getD (halloc H (.loop .ready .nrm τ ps asg body))) l none)
    | _ => none
   | none => none) = some (x,τ,H2') /\ _
 rw [e1]
 rcases hK with ⟨S,os',hS,hL,hI⟩ | ⟨x,os',hx,hL,hI⟩
 ·have a1 := (hmv hL).head
  refine ⟨.nrm,_,os',by simp only [a1]; rfl,(hmv hL).kill,.inl ⟨rfl,hI⟩⟩
 ·have a1 := (hmv hL).head
  refine ⟨x,_,os',by simp only [a1]; rfl,(hmv hL).kill,.inr ⟨hx,hI⟩⟩

theorem wp_rangeFnO {g : FuncId} {fs cs : List AV} {V : Hp -> Prop} {n : Nat} {X : Nat -> Hp -> List AV -> Prop} {rd : Option Nat} {f : Opd} {ps : List Nat} {asg body : AC} {ρ : Rho} {H : Hp} {os : List (Nat × AObj)} {Q : Post} (hf : evR ρ f = .fn g fs cs) (hg : GenO (lim Γ A) g fs cs V n X) (hrd : rdAlive H rd = true) (hl : Loc H0 H os)
  (I : Nat -> List (Nat × AObj) -> Prop) (Qx : AX -> List (Nat × AObj) -> Prop) (hV : ∀ i H' l o os',Loc H0 H' ((l,o) :: os') -> I i os' -> V H') (h0 : I 0 os)
  (step : ∀ i (hi : i < n) l lo lb H' os' args,isLoopO lo = true -> isLoopO lb = true -> Loc H0 H' ((l,lo) :: os') -> I i os' -> X i H' args -> args.length = ps.length /\
   wp (lim Γ A) (some l) asg (putR ps args ρ) H' fun x ρ' H1 => x = .nrm /\ ∃ os1,Loc H0 H1 ((l,lo) :: os1) /\ Mut H' H1 (l :: os'.map Prod.fst) /\
    ∀ H1',Loc H0 H1' ((l,lb) :: os1) -> Mut H' H1' (l :: os'.map Prod.fst) -> wp (lim Γ A) (some l) body ρ' H1' fun x ρ2 H2 =>
     ∃ os2,Loc H0 H2 ((l,lb) :: os2) /\ Mut H' H2 (l :: os'.map Prod.fst) /\ (∀ s ∈ os2.map Prod.fst,s ∈ os'.map Prod.fst \/ H'.l.length <= s) /\ ((x = .nrm /\ I (i + 1) os2) \/ (x ≠ .nrm /\ Qx x os2)))
  (hQ : ∀ x H2 os2,Loc H0 H2 os2 -> ((x = .nrm /\ I n os2) \/ (x ≠ .nrm /\ Qx x os2)) -> Q x ρ H2) : wp (lim Γ A) rd (.rangeFn f ps asg body) ρ H Q := by
 simp only [wp]
 intro τ hτ hok
 subst hτ
 simp only [Bool.and_eq_true,List.all_eq_true,decide_eq_true_eq] at hok
 obtain ⟨x,H2,os2,e1,e2,e3⟩ := range_locO hg hrd hl hok.1.1 hok.1.2 hok.2 I Qx hV h0 (fun i hi H' os' args h1 h2 h3 => step i hi _ _ (.loop .busy .nrm τ ps asg body) H' os' args rfl rfl h1 h2 h3)
 rw [hf]
 exact ⟨x,H2,e1,hQ x H2 os2 e2 e3⟩

theorem range_mut {g : FuncId} {fs cs : List AV} {V : Hp -> Prop} {n : Nat} {X : Nat -> Hp -> List AV -> Prop} {rd : Option Nat} {ps : List Nat} {asg body : AC} {τ : List AV} {H : Hp} {S0 : List Nat} (hg : GenM (lim Γ A) g fs cs V n X) (hrd : rdAlive H rd = true) (hS0 : ∀ s ∈ S0,s < H.l.length)
  (hps : ∀ p ∈ ps,p < τ.length) (hda : dstOK τ.length asg = true) (hdb : dstOK τ.length body = true)
  (I : Nat -> List Nat -> Hp -> Prop) (hst : ∀ i S H' H'',I i S H' -> H'.l.length <= H''.l.length -> (∀ id,id < H'.l.length -> id ≠ H.l.length -> hget H'' id = hget H' id) -> I i S H'')
  (hV : ∀ i S H',I i S H' -> V H') (h0 : I 0 S0 H)
  (step : ∀ i (hi : i < n) S H' args,H.l.length ∉ S -> I i S H' -> X i H' args -> args.length = ps.length /\
   wp (lim Γ A) (some H.l.length) asg (putR ps args (rho τ)) H' fun x ρ' H1 => x = .nrm /\ H1 = H' /\
    ∀ H1',I i S H1' -> H1'.l.length = H'.l.length -> (∃ o,isLoopO o = true /\ hget H1' H.l.length = some o) -> wp (lim Γ A) (some H.l.length) body ρ' H1' fun x ρ2 H2 =>
     x = .nrm /\ ∃ S',Mut H1' H2 S /\ (∀ s ∈ S',s ∈ S \/ H'.l.length <= s) /\ I (i + 1) S' H2) :
  ∃ H2 S,(lim Γ A).range rd (.fn g fs cs) ps asg body τ H = some (.nrm,τ,H2) /\ I n S H2 /\ Mut H H2 S0 /\ (∀ s ∈ S,s ∈ S0 \/ H.l.length < s) /\ ∃ e,H2.d = dminO H.d e := by
 let l := H.l.length
 have hgl : hget (halloc H (.loop .ready .nrm τ ps asg body)) l = some (.loop .ready .nrm τ ps asg body) := by simp [l]
 obtain ⟨v,h,H2,e1,e2,e3,hK⟩ := hg l (halloc H (.loop .ready .nrm τ ps asg body)) (fun i S H' => ∃ S',S = l :: S' /\ l ∉ S' /\ I i S' H' /\ hget H' l = some (.loop .ready .nrm τ ps asg body) /\ Mut { l := (halloc H (.loop .ready .nrm τ ps asg body)).l,d := none } H' (l :: S0) /\ (∀ s ∈ S',s ∈ S0 \/ H.l.length < s))
  (fun H' => False) (l :: S0) (by simp [l]) (fun s hs => by
   rcases List.mem_cons.1 hs with rfl | hs
   ·simp [l]
   ·have := hS0 s hs
    simp; omega) (by simp) (by
    rintro i S H' H'' ⟨S',hS,hl',hI,hg',hM,hs'⟩ hm
    refine ⟨S',hS,hl',hst i S' H' H'' hI hm.len (fun id hid _ => hm.get hid (by simp)),?_,hM.trans hm (by simp),hs'⟩
    exact hm.get' hg' (by simp)) (by rintro i S H' ⟨S',hS,hl',hI,_⟩; exact hV i S' H' hI) ⟨S0,rfl,fun hm => by have := hS0 l hm; simp [l] at this,hst 0 S0 H _ h0 (by simp) (fun id hid _ => by
     have : hget (halloc H (.loop .ready .nrm τ ps asg body)) id = hget H id := by rw [hget_halloc,if_neg (by omega)]
     exact this),hgl,Mut.refl _ _,fun s hs => .inl hs⟩ (by
   rintro i S H' args hi ⟨S',rfl,hl',hI,hg',hM,hs'⟩ hX
   rw [lim_yld_eq]
   obtain ⟨hxl,hstep⟩ := step i hi S' H' args hl' hI hX
   obtain ⟨x1,τ1,H1,f1,f2,rfl,rfl,f3⟩ := wp_sound (τ := putAll ps args τ) asg (by rw [putAll_len]; exact hda) (by rw [rho_putAll _ _ _ hps]; exact hstep)
   rw [putAll_len] at f2
   have hll : l < H1.l.length := hget_lt hg'
   have hI2 : I i S' (hset H1 l (some (.loop .busy .nrm τ ps asg body))) := hst i S' H1 _ hI (by simp) (fun id _ hne => by rw [hget_hset,if_neg hne])
   have hg2 : hget (hset H1 l (some (.loop .busy .nrm τ ps asg body))) l = some (.loop .busy .nrm τ ps asg body) := by rw [hget_hset,if_pos rfl]; simp [hll]
   obtain ⟨x2,τ2,H3,g1,g2,rfl,S2,hM2,hs2,hI3⟩ := wp_sound (τ := τ1) body (by rw [f2]; exact hdb) (f3 _ hI2 (by simp) ⟨_,rfl,hg2⟩)
   have a3 : hget H3 l = some (.loop .busy .nrm τ ps asg body) := hM2.get' hg2 hl'
   have hMh : Mut H1 (hset H1 l (some (.loop .busy .nrm τ ps asg body))) (l :: S') := (Mut.refl _ _).set (.inl (by simp))
   have hM3 : Mut H1 H3 (l :: S') := hMh.trans hM2 (fun s hs => .inl (by simp [hs]))
   refine ⟨true,hset H3 l (some (.loop .ready .nrm τ ps asg body)),l :: S2,?_,⟨dmin' H3.d l,?_,?_⟩,hM3.set (.inl (by simp)),?_,?_,?_⟩
   ·unfold runY
    simp only [l] at hg' a3 g1 f1 ⊢
    simp only [hg',hxl,if_true,f1,g1,a3]
    rfl
   ·simp only [hset_d]; exact dmin'_eq _ _
   ·exact dmin'_le _ _
   ·intro s hs
    rcases List.mem_cons.1 hs with rfl | hs
    ·exact .inl (by simp)
    ·rcases hs2 s hs with hs | hs
     ·exact .inl (by simp [hs])
     ·exact .inr hs
   ·intro _
    have hl3 : l < H3.l.length := hget_lt a3
    refine ⟨S2,rfl,fun hm => ?_,hst _ S2 H3 _ hI3 (by simp) (fun id _ hne => by rw [hget_hset,if_neg hne]),by rw [hget_hset,if_pos rfl]; simp [hl3],?_,fun s hs => ?_⟩
    ·rcases hs2 l hm with h | h
     ·exact hl' h
     ·omega
    ·refine (hM.trans hM3 (fun s hs => ?_)).set (.inl (by simp))
     rcases List.mem_cons.1 hs with rfl | hs
     ·exact .inl (by simp)
     ·rcases hs' s hs with h | h
      ·exact .inl (by simp [h])
      ·exact .inr (by simp; omega)
    ·rcases hs2 s hs with h | h
     ·exact hs' s h
     ·exact .inr (by simp only [l] at hll; omega)
   ·intro ht; cases ht)
 rcases hK with ⟨S,S',rfl,hl',hI,hg',hM,hs'⟩ | hK
 ·have hlen : (h.getD (halloc H (.loop .ready .nrm τ ps asg body))).l.length = H2.l.length := by rw [e2]
  have a1 : hget (h.getD (halloc H (.loop .ready .nrm τ ps asg body))) l = some (.loop .ready .nrm τ ps asg body) := by unfold hget at hg' ⊢; rw [e2]; exact hg'
  have hMs : Mut (halloc H (.loop .ready .nrm τ ps asg body)) (h.getD (halloc H (.loop .ready .nrm τ ps asg body))) (l :: S0) := by
   have := hM.settled (H := halloc H (.loop .ready .nrm τ ps asg body))
   have e : h.getD (halloc H (.loop .ready .nrm τ ps asg body)) = { l := H2.l,d := dminO (halloc H (.loop .ready .nrm τ ps asg body)).d H2.d } := by rw [<- e2,<- e3]
   rw [e]; exact this
  refine ⟨hset (h.getD (halloc H (.loop .ready .nrm τ ps asg body))) l none,S',?_,?_,?_,hs',?_⟩
  ·rw [lim_range_eq]
   unfold runR
   rw [if_pos hrd]
   simp only []
   show (match (lim Γ A).ent g (fs ++ [AV.yld l] ++ cs) (halloc H (.loop .ready .nrm τ ps asg body)) with
   | some (_,h) =>
    match hget (h.getD (halloc H (.loop .ready .nrm τ ps asg body))) l with
    | some (.loop st pe _ _ _ _) => if st = LoopState.busy then none else some (pe,τ,hset (h.getD (halloc H (.loop .ready .nrm τ ps asg body))) l none)
    | _ => none
   | none => none) = _
   rw [e1]
   simp only [a1]
   rfl
  ·refine hst n S' H2 _ hI (by simp [hlen]) (fun id _ hne => ?_)
   rw [hget_hset,if_neg hne]
   unfold hget; rw [e2]
  ·have := (((Mut.refl H S0).alloc (.loop .ready .nrm τ ps asg body)).trans hMs (fun s hs => by
    rcases List.mem_cons.1 hs with rfl | hs
    ·exact .inr (Nat.le_refl _)
    ·exact .inl hs)).set (i := l) (o := none) (.inr (Nat.le_refl _))
   exact this
  ·simp only [hset_d,e3,halloc_d]
   refine ⟨some (dmin' H2.d l),?_⟩
   cases H.d <;> cases H2.d <;> simp [dminO,dmin',dmin,Nat.min_assoc]
 ·exact hK.elim

theorem wp_range_mut {g : FuncId} {fs cs : List AV} {V : Hp -> Prop} {n : Nat} {X : Nat -> Hp -> List AV -> Prop} {rd : Option Nat} {f : Opd} {ps : List Nat} {asg body : AC} {ρ : Rho} {H : Hp} {S0 : List Nat} {Q : Post} (hf : evR ρ f = .fn g fs cs) (hg : GenM (lim Γ A) g fs cs V n X) (hrd : rdAlive H rd = true) (hS0 : ∀ s ∈ S0,s < H.l.length)
  (I : Nat -> List Nat -> Hp -> Prop) (hst : ∀ i S H' H'',I i S H' -> H'.l.length <= H''.l.length -> (∀ id,id < H'.l.length -> id ≠ H.l.length -> hget H'' id = hget H' id) -> I i S H'')
  (hV : ∀ i S H',I i S H' -> V H') (h0 : I 0 S0 H)
  (step : ∀ i (hi : i < n) S H' args,H.l.length ∉ S -> I i S H' -> X i H' args -> args.length = ps.length /\
   wp (lim Γ A) (some H.l.length) asg (putR ps args ρ) H' fun x ρ' H1 => x = .nrm /\ H1 = H' /\
    ∀ H1',I i S H1' -> H1'.l.length = H'.l.length -> (∃ o,isLoopO o = true /\ hget H1' H.l.length = some o) -> wp (lim Γ A) (some H.l.length) body ρ' H1' fun x ρ2 H2 =>
     x = .nrm /\ ∃ S',Mut H1' H2 S /\ (∀ s ∈ S',s ∈ S \/ H'.l.length <= s) /\ I (i + 1) S' H2)
  (hQ : ∀ H2 S,I n S H2 -> Mut H H2 S0 -> (∀ s ∈ S,s ∈ S0 \/ H.l.length < s) -> (∃ e,H2.d = dminO H.d e) -> Q .nrm ρ H2) : wp (lim Γ A) rd (.rangeFn f ps asg body) ρ H Q := by
 simp only [wp]
 intro τ hτ hok
 subst hτ
 simp only [Bool.and_eq_true,List.all_eq_true,decide_eq_true_eq] at hok
 obtain ⟨H2,S,e1,e2,e3,e4,e5⟩ := range_mut hg hrd hS0 hok.1.1 hok.1.2 hok.2 I hst hV h0 step
 rw [hf]
 exact ⟨.nrm,H2,e1,hQ H2 S e2 e3 e4 e5⟩
end
end Go.Proofs.Eng
namespace Go.Proofs.Eng
open Go
def kidsT (t : Tr) (n : Int) : List Int := match t.nodes[n.toNat]? with
 | some nd => nd.kids
 | none => []
def walkF (t : Tr) : Nat -> Int -> List Int
 | 0,_ => []
 | f + 1,n => n :: (kidsT t n).flatMap (walkF t f)
def walkS (t : Tr) (n : Int) : List Int := walkF t (n.toNat + 1) n
def Kids (t : Tr) : Prop := ∀ (j : Nat) (nd : Nd),t.nodes[j]? = some nd -> ∀ k ∈ nd.kids,0 <= k /\ k < (j : Int)
theorem kids_of_check {t : Tr} (h : checkB t = true) : Kids t := by
 obtain ⟨_,_,_,ct,cy,h1,_⟩ := checkB_parts h
 intro j nd hj k hk
 have := (nodesS_true h1 j nd hj).1 k hk
 simpa using this
theorem Kids.at {t : Tr} (h : Kids t) {n : Int} (hn : 0 <= n) : ∀ k ∈ kidsT t n,0 <= k /\ k < n := by
 intro k hk
 unfold kidsT at hk
 split at hk
 ·rename_i nd hnd
  have := h _ _ hnd k hk
  omega
 ·simp at hk
theorem flatMap_congr' {α β : Type} {l : List α} {f g : α -> List β} (h : ∀ a ∈ l,f a = g a) : l.flatMap f = l.flatMap g := by
 induction l with
 | nil => rfl
 | cons a r ih => simp [h a (by simp),ih (fun b hb => h b (by simp [hb]))]
theorem walkF_eq {t : Tr} (h : Kids t) : ∀ (f g : Nat) (n : Int),0 <= n -> n.toNat < f -> n.toNat < g -> walkF t f n = walkF t g n
 | 0,_,n,_,hf,_ => by omega
 | f + 1,0,n,_,_,hg => by omega
 | f + 1,g + 1,n,hn,hf,hg => by
  simp only [walkF]
  congr 1
  exact flatMap_congr' fun k hk => by
   have := h.at hn k hk
   exact walkF_eq h f g k this.1 (by omega) (by omega)
theorem walkS_eq {t : Tr} (h : Kids t) {n : Int} (hn : 0 <= n) : walkS t n = n :: (kidsT t n).flatMap (walkS t) := by
 show n :: (kidsT t n).flatMap (walkF t n.toNat) = _
 congr 1
 exact flatMap_congr' fun k hk => by
  have := h.at hn k hk
  exact walkF_eq h _ _ k this.1 (by omega) (by omega)
theorem Vw.atf {H : Hp} {sz : Nat} {x : AV} {es : List AV} {k : IntKind} {i off : Nat} {ys : List AV} {v : AV} (h : Vw H sz x es) (h1 : es[i]? = some (.agg ys)) (hl : ys.length = sz) (hg : ys.all AV.one = true) (hv : ys[off]? = some v) : ∃ p q,aiaddr sz x (.lit (.int k (i : Int))) = some p /\ afaddr off p = some q /\ aload H none q = some v := by
 have hi := (List.getElem?_eq_some_iff.1 h1).1
 have hd : ys.drop off = v :: ys.drop (off + 1) := by
  obtain ⟨ho,e⟩ := List.getElem?_eq_some_iff.1 hv
  rw [List.drop_eq_getElem_cons ho,e]
 rcases h with (⟨_,he⟩ | rfl) | ⟨id,o,t,all,rfl,h2,h3,h4⟩
 ·rw [he] at h1; simp at h1
 ·refine ⟨.vp ys,.vp (ys.drop off),by simpa [AV.cells] using aiaddr_sln (sz := sz) (k := k) h1 (by simpa [AV.good] using hg),rfl,?_⟩
  simp [loadC,hd]
 ·refine ⟨.ep id (o + i) 0,.ep id (o + i) (0 + off),by simp [aiaddr,hi],rfl,?_⟩
  have he : all[o + i]? = some (.agg ys) := by
   rw [<- h1,<- h4,List.getElem?_take,if_pos hi,List.getElem?_drop]
  simp only [aload,h2,he]
  rw [if_pos (by simpa [AV.good] using hg),if_neg (by simp),if_pos (by simpa [AV.cells] using hl)]
  simp [AV.cells,loadC,hd]
theorem TrR.kid {H : Hp} {a b c : AV} {t : Tr} (h : TrR H (.agg [a,b,c]) t) {i : Nat} {nd : Nd} (hi : t.nodes[i]? = some nd) {k : IntKind} : ∃ p q v,aiaddr 8 a (.lit (.int k (i : Int))) = some p /\ afaddr 6 p = some q /\ aload H none q = some v /\ VI H v nd.kids := by
 obtain ⟨a',b',c',e,⟨xs,x1,x2,x3⟩,_,_⟩ := h
 cases e
 have hlt : i < xs.length := by rw [x2]; exact (List.getElem?_eq_some_iff.1 hi).1
 obtain ⟨na,nb,nc,e,v1,v2,v3⟩ := x3 i xs[i] nd (List.getElem?_eq_getElem hlt) hi
 obtain ⟨p,q,h1,h2,h3⟩ := x1.atf (k := k) (i := i) (off := 6) (ys := [avInt .i64 nd.kind,avInt .i64 nd.pos,avStr nd.name,avInt .i64 nd.int,avInt .u64 nd.bits,na,nb,nc]) (v := nb) (by rw [List.getElem?_eq_getElem hlt,e]; rfl) rfl (by simp [v1.one,v2.one,v3.one]) rfl
 exact ⟨p,q,nb,h1,h2,h3,v2⟩
end Go.Proofs.Eng
namespace Go.Proofs.Eng
open Go
section
variable {Γ : Sums} {A : Tab} {N : Nat -> Nat}
structure WalkC (Γ : Sums) (A : Tab) (N : Nat -> Nat) : Prop where
 walk : Has Γ A (f_tree_Walk N) (C_tree_Walk N)
 walk1 : Has Γ A (f_tree_Walk_1 N) (C_tree_Walk_1 N)
 back : Has Γ A (f_slices_Backward_sl_int_int N) (C_slices_Backward_sl_int_int N)
 back1 : Has Γ A (f_slices_Backward_sl_int_int_1 N) (C_slices_Backward_sl_int_int_1 N)
structure Todo (N : Nat -> Nat) (H : Hp) (n0 q id : Nat) (stk : List Int) : Prop where
 cell : hget H q = some (.cells [.ra 1 id 0 stk.length] (t_sl_int N))
 arr : ∃ all,hget H id = some (.arr 1 all (t_int N)) /\ all.take stk.length = stk.map (avInt .i64)
 q0 : n0 <= q
 id0 : n0 <= id
 ne : q ≠ id
theorem Todo.keep {H H' : Hp} {n0 q id : Nat} {stk : List Int} (h : Todo N H n0 q id stk) (k1 : ∀ o,hget H q = some o -> hget H' q = some o) (k2 : ∀ o,hget H id = some o -> hget H' id = some o) : Todo N H' n0 q id stk := by
 obtain ⟨a,⟨all,b,c⟩,d,e,f⟩ := h
 exact ⟨k1 _ a,⟨all,k2 _ b,c⟩,d,e,f⟩
theorem Todo.mut {H H' : Hp} {n0 q id : Nat} {stk : List Int} {W : List Nat} (h : Todo N H n0 q id stk) (k : Mut H H' W) (h1 : q ∉ W) (h2 : id ∉ W) : Todo N H' n0 q id stk :=
 h.keep (fun _ ho => k.get' ho h1) (fun _ ho => k.get' ho h2)
theorem Todo.push {H : Hp} {n0 q id : Nat} {stk : List Int} (h : Todo N H n0 q id stk) (k : Int) (hl : stk.length < 2 ^ 36) (hn0 : n0 <= H.l.length) :
  ∃ v H',appendOn (halloc H (.arr 1 [avInt .i64 k] (t_int N))) (t_int N) 1 8 (.ra 1 id 0 stk.length) [avInt .i64 k] = some (v,some H') /\ v.good = true /\ v.cells = [v] /\ hget H' q = some (.cells [.ra 1 id 0 stk.length] (t_sl_int N)) /\ Mut H H' [q,id] /\ H.l.length <= H'.l.length /\
   Todo N (hset H' q (some (.cells [v] (t_sl_int N)))) n0 q (H.l.length + 1) (stk ++ [k]) /\ Mut H (hset H' q (some (.cells [v] (t_sl_int N)))) [q,id] := by
 obtain ⟨a,⟨all,b,c⟩,d,e,f⟩ := h
 have hid := hget_lt b
 have hq := hget_lt a
 have b' : hget (halloc H (.arr 1 [avInt .i64 k] (t_int N))) id = some (.arr 1 all (t_int N)) := by rw [hget_halloc,if_neg (by omega)]; exact b
 have hal : stk.length <= all.length := by
  have := congrArg List.length c
  simp only [List.length_take,List.length_map] at this
  omega
 have hm1 : Mut H (halloc (hset (halloc H (.arr 1 [avInt .i64 k] (t_int N))) id none) (.arr 1 (stk.map (avInt .i64) ++ [avInt .i64 k]) (t_int N))) [q,id] := (((Mut.refl H _).alloc _).set (.inl (by simp))).alloc _
 refine ⟨.ra 1 (H.l.length + 1) 0 (stk.length + 1),halloc (hset (halloc H (.arr 1 [avInt .i64 k] (t_int N))) id none) (.arr 1 (stk.map (avInt .i64) ++ [avInt .i64 k]) (t_int N)),?_,rfl,rfl,?_,hm1,hm1.len,⟨?_,⟨_,?_,List.take_of_length_le (by simp)⟩,d,by omega,by omega⟩,hm1.set (.inl (by simp))⟩
 ·simp only [appendOn,b']
  rw [if_pos ⟨trivial,trivial,by omega,by unfold roomMax; simp; omega,by simp⟩]
  simp [c]
 ·rw [hget_halloc,if_neg (by simp; omega),hget_hset,if_neg (by omega),hget_halloc,if_neg (by omega)]
  exact a
 ·rw [hget_hset,if_pos rfl]
  simp
  omega
 ·rw [hget_hset,if_neg (by omega),hget_halloc]
  simp
theorem aload_more {H H' : Hp} {n : Option Nat} {p v : AV} (k : ∀ x o,hget H x = some o -> hget H' x = some o) (h : aload H n p = some v) : aload H' n p = some v := by
 unfold aload at h ⊢
 split at h
 ·split at h
  ·rename_i e; rw [k _ _ e]; exact h
  ·cases h
 ·split at h
  ·rename_i e; rw [k _ _ e]; exact h
  ·cases h
 ·exact h
 ·cases h
theorem walk_gen (hc : TreeC Γ A N) (h : WalkC Γ A N) {cn ct : Nat} {tn tt : TypeId} {a b c : AV} {t : Tr} {n : Int} (ok : t.ok) (hb : t.nodes.length < 2 ^ 30 /\ t.types.length < 2 ^ 30 /\ t.als.length < 2 ^ 30) (hck : checkB t = true) (hn0 : 0 <= n) (hn1 : n < t.nodes.length) (hW : (walkS t n).length < 2 ^ 30) :
  GenO (lim Γ A) (f_tree_Walk_1 N) [] [.ptr cn 0,.ptr ct 0] (fun H => hget H cn = some (.cells [avInt .i64 n] tn) /\ hget H ct = some (.cells [a,b,c] tt) /\ TrR H (.agg [a,b,c]) t) (walkS t n).length
   (fun i H args => ∃ k,(walkS t n)[i]? = some k /\ args = [avInt .i64 k]) := by
 intro lp H K Kx S0 hlp hS0 hlS hst hV h00 hstep
 have hkids := kids_of_check hck
 suffices hsuf : ∃ r,(lim Γ A).ent (f_tree_Walk_1 N) ([] ++ [AV.yld lp] ++ [.ptr cn 0,.ptr ct 0]) H = some r /\ ∃ H2,(r.2.getD H).l = H2.l /\ (r.2.getD H).d = dminO H.d H2.d /\ ((∃ S,K (walkS t n).length S H2) \/ Kx H2) by
  obtain ⟨⟨v,g⟩,e,H2,r1,r2,r3⟩ := hsuf
  exact ⟨v,g,H2,e,r1,r2,r3⟩
 obtain ⟨R,hR⟩ : ∃ R : AV × Option Hp -> Prop,R = fun r => ∃ H2,(r.2.getD H).l = H2.l /\ (r.2.getD H).d = dminO H.d H2.d /\ ((∃ S,K (walkS t n).length S H2) \/ Kx H2) := ⟨_,rfl⟩
 suffices ∃ r,(lim Γ A).ent (f_tree_Walk_1 N) ([] ++ [AV.yld lp] ++ [.ptr cn 0,.ptr ct 0]) H = some r /\ R r by simpa [hR] using this
 obtain ⟨v1,v2,v3⟩ := hV 0 S0 _ h00
 have hcall := check_call hc v3 ok hb
 rw [hck] at hcall
 have hcall' : (lim Γ A).call (f_tree_Check N) [.agg [a,b,c]] { l := H.l,d := none } = some (avInt .i64 0,none) := hcall
 obtain ⟨a',b',c',e,ra,rb,rc⟩ := id v3
 cases e
 have la := ra.len
 have pa := ra.one
 have pb := rb.one
 have pc := rc.one
 have g1 : ¬ n < 0 := by omega
 have g2 : ¬ ((t.nodes.length : Int) <= n) := by omega
 obtain ⟨W,hWe⟩ : ∃ W,W = walkS t n := ⟨_,rfl⟩
 rw [<- hWe] at hR hstep hW
 apply h.walk1.entP (by rfl)
 simp [C_tree_Walk_1,v1,v2,hcall',la,pa,pb,pc,g1,g2,loadC]
 refine wp_round (n := W.length) (fun m ρ H' => ∃ (i : Nat) (S : List Nat) (stk : List Int) (q id : Nat),ρ 0 = .yld lp /\ ρ 1 = .ptr cn 0 /\ ρ 2 = .ptr ct 0 /\ ρ 4 = .ptr q 0 /\ i <= W.length /\ K i S H' /\ Todo N H' H.l.length q id stk /\ q ∉ S /\ id ∉ S /\ (∀ s ∈ S,s < H'.l.length) /\ W.drop i = stk.reverse.flatMap (walkS t) /\ (∀ k ∈ stk,0 <= k /\ k < (t.nodes.length : Int)) /\ H.l.length <= H'.l.length /\
  (i = 0 \/ ∃ mm,H'.d = some mm /\ mm <= lp) /\ m = W.length - i) ?_ ?_
 ·have hm : Mut { l := H.l,d := none } (hset (halloc (halloc { l := H.l,d := none } (.arr 1 [avInt .i64 n] (t_int N))) (.cells [.lit (.slice none 0 0)] (t_sl_int N))) (H.l.length + 1) (some (.cells [.ra 1 H.l.length 0 1] (t_sl_int N)))) [] :=
   (((Mut.refl _ []).alloc _).alloc _).set (.inr (by simp))
  refine ⟨0,S0,[n],H.l.length + 1,H.l.length,rfl,rfl,rfl,rfl,by omega,?_,⟨?_,⟨[avInt .i64 n],?_,rfl⟩,by omega,by omega,by omega⟩,?_,?_,?_,?_,?_,?_,.inl rfl,rfl⟩
  ·exact hst 0 S0 _ _ [] h00 hm (by simp)
  ·simp
  ·simp
  ·intro hs; have := hS0 _ hs; omega
  ·intro hs; have := hS0 _ hs; omega
  ·intro s hs; have := hS0 _ hs; simp; omega
  ·simp [hWe]
  ·intro k hk; simp at hk; subst hk; exact ⟨hn0,hn1⟩
  ·simp; omega
 ·rintro m ρ H' ⟨i,S,stk,q,id,r0,r1,r2,r4,hi,hK,hT,hqS,hidS,hSl,hD,hstk,hHl,hd,rfl⟩
  obtain ⟨w1,w2,w3⟩ := hV i S H' hK
  rcases List.eq_nil_or_concat stk with rfl | ⟨st,k,rfl⟩
  ·have hiW : i = W.length := by
    have := congrArg List.length hD
    simp at this
    omega
   have q1 := hT.cell
   simp at q1
   simp [L_tree_Walk_1_1,r0,r1,r2,r4,q1]
   have hWpos : 0 < W.length := by rw [hWe]; simp [walkS,walkF]
   rcases hd with hd | ⟨mm,d1,d2⟩
   ·omega
   ·rw [settle_wrote (H := H) (H' := H') (v := .tup []) ⟨mm,d1,by omega⟩,hR]
    refine ⟨H',rfl,rfl,.inl ⟨S,?_⟩⟩
    rw [<- hiW]; exact hK
  ·have hW1 : W.drop i = k :: ((kidsT t k).flatMap (walkS t) ++ st.reverse.flatMap (walkS t)) := by
    rw [hD]
    have := hstk k (by simp)
    simp [walkS_eq hkids this.1]
   have hlt : i < W.length := by
    have := congrArg List.length hW1
    simp at this
    omega
   have hWi : W[i]? = some k := by
    have := congrArg (·[0]?) hW1
    simpa using this
   have hk := hstk k (by simp)
   have q1 := hT.cell
   simp at q1
   obtain ⟨all,q2,q3⟩ := hT.arr
   simp at q3
   have hq := hget_lt q1
   have hid := hget_lt q2
   have hsl : st.length < W.length := by
    have := congrArg List.length hD
    simp at this
    have h2 : ∀ l : List Int,l.length <= (l.flatMap (walkS t)).length := by
     intro l
     induction l with
     | nil => simp
     | cons x r ih => simp [walkS,walkF] at ih ⊢; omega
    have := h2 st.reverse
    have h3 : (walkS t k).length >= 1 := by simp [walkS,walkF]
    simp at *
    omega
   have hg : (0 : Int) < (st.length : Int) + 1 := by omega
   have hal : all[st.length]? = some (avInt .i64 k) := by
    have := congrArg (·[st.length]?) q3
    simp [List.getElem?_take] at this
    exact this
   have hw : IntKind.wrap .i64 (st.length : Int) = (st.length : Int) := by rw [wrap64 (by omega) (by omega)]
   obtain ⟨H1,hH1⟩ : ∃ H1,H1 = hset H' q (some (.cells [.ra 1 id 0 st.length] (t_sl_int N))) := ⟨_,rfl⟩
   have hT1 : Todo N H1 H.l.length q id st := by
    subst hH1
    refine ⟨by rw [hget_hset,if_pos rfl]; simp [hq],⟨all,by rw [hget_hset,if_neg (fun e => hT.ne e.symm)]; exact q2,?_⟩,hT.q0,hT.id0,hT.ne⟩
    have := congrArg (List.take st.length) q3
    rw [List.take_take] at this
    simpa using this
   have hM1 : Mut H' H1 [q] := by subst hH1; exact (Mut.refl _ _).set (.inl (by simp))
   have hl1 : H1.l.length = H'.l.length := by subst hH1; simp
   have hK1 : K i S H1 := hst i S H' H1 [q] hK hM1 (by simp; exact ⟨hT.q0,hqS⟩)
   obtain ⟨tt',H'',S',y1,y2,y3,y4,y4',y5,y6⟩ := hstep i S H1 [avInt .i64 k] hlt hK1 ⟨k,hWi,rfl⟩
   have hsl2 : aslice 1 (.ra 1 id 0 (st.length + 1)) none (some (avInt .i64 (st.length : Int))) = some (.ra 1 id 0 st.length) := by
    simp [aslice,aBound]
    rw [if_pos (by omega)]; rfl
   have p1 : aiaddr 1 (.ra 1 id 0 (st.length + 1)) (avInt .i64 (st.length : Int)) = some (.ep id st.length 0) := by
    have := ra_iaddr (id := id) (n := st.length + 1) (k := .i64) (j := (st.length : Int)) (by omega) (by omega)
    simpa using this
   have p2 : aload H' none (.ep id st.length 0) = some (avInt .i64 k) := by simp [aload,q2,hal]
   rw [hH1] at y1
   cases tt' with
   | false =>
    obtain ⟨mm,d1,d2⟩ := y2
    have hsw := settle_wrote (H := H) (H' := H'') (v := .tup []) ⟨mm,d1,by omega⟩
    simp [L_tree_Walk_1_1,r0,r1,r2,r4,q1,hg,hw,p1,p2,hsl2,y1,bindH_opt,hq,-halloc_d,-hset_d]
    rw [hsw,hR]
    exact ⟨H'',rfl,rfl,.inr (y6 rfl)⟩
   | true =>
    obtain ⟨kn,rfl⟩ := Int.eq_ofNat_of_zero_le hk.1
    have hkn : kn < t.nodes.length := by omega
    obtain ⟨nd,hnd⟩ : ∃ nd,t.nodes[kn]? = some nd := ⟨_,List.getElem?_eq_getElem hkn⟩
    have hkk : kidsT t (kn : Int) = nd.kids := by simp [kidsT,hnd]
    have hndl : nd.kids.length < 2 ^ 30 := (ok.1 nd (List.mem_of_getElem? hnd)).2.2.2.1
    have hT2 : Todo N H'' H.l.length q id st := hT1.mut y3 hqS hidS
    have hqS' : q ∉ S' := fun hs => by
     rcases y4 q hs with h | h
     ·exact hqS h
     ·omega
    have hidS' : id ∉ S' := fun hs => by
     rcases y4 id hs with h | h
     ·exact hidS h
     ·omega
    obtain ⟨Hk,hHk⟩ : ∃ Hk,Hk = hset (hset H'' q none) id none := ⟨_,rfl⟩
    have hMk : Mut H'' Hk [q,id] := by subst hHk; exact ((Mut.refl _ _).set (.inl (by simp))).set (.inl (by simp))
    have hKk : K (i + 1) S' Hk := hst _ _ _ _ [q,id] (y5 rfl) hMk (by
     intro o ho
     rcases List.mem_cons.1 ho with rfl | ho
     ·exact ⟨hT.q0,hqS'⟩
     ·rw [List.mem_singleton.1 ho]; exact ⟨hT.id0,hidS'⟩)
    have hkq : ∀ x o,hget Hk x = some o -> x ≠ q /\ x ≠ id /\ hget H'' x = some o := by
     intro x o hx
     rw [hHk,hget_hset] at hx
     split at hx
     ·split at hx <;> cases hx
     ·rename_i e1
      rw [hget_hset] at hx
      split at hx
      ·split at hx <;> cases hx
      ·rename_i e2
       exact ⟨e2,e1,hx⟩
    obtain ⟨p,p',v,f1,f2,f3,f4⟩ := (hV _ _ _ hKk).2.2.kid (k := .i64) hnd
    have f3' := aload_more (fun x o hx => (hkq x o hx).2.2) f3
    obtain ⟨u1,u2,u3⟩ := hV _ _ _ (y5 rfl)
    have f5 : ∀ Hj : Hp,(∀ x,x < H''.l.length -> x ≠ q -> x ≠ id -> hget Hj x = hget H'' x) -> VI Hj v nd.kids := by
     intro Hj hj
     rcases f4 with f4 | ⟨vid,off,et,va,e0,e1,e2⟩
     ·exact .inl f4
     ·obtain ⟨b1,b2,b3⟩ := hkq _ _ e1
      exact .inr ⟨vid,off,et,va,e0,by rw [hj vid (hget_lt b3) b1 b2]; exact b3,e2⟩
    obtain ⟨H3,hH3⟩ : ∃ H3,H3 = halloc H'' (.cells [v] (t_sl_int N)) := ⟨_,rfl⟩
    have hback : (lim Γ A).call (f_slices_Backward_sl_int_int N) [v] H'' = some (.fn (f_slices_Backward_sl_int_int_1 N) [] [.ptr H''.l.length 0],some H3) := by
     rw [back_call h.back H'' (f5 H'' (fun _ _ _ _ => rfl)),hH3]
     cases hd3 : H''.d <;> simp [halloc,dminO,hd3]
    have hM3 : Mut H'' H3 [] := by subst hH3; exact (Mut.refl _ _).alloc _
    have hl3 : H3.l.length = H''.l.length + 1 := by subst hH3; simp
    have hT3 : Todo N H3 H.l.length q id st := hT2.mut hM3 (by simp) (by simp)
    have hq2 := hget_lt hT2.cell
    obtain ⟨all2,q22,_⟩ := hT2.arr
    have hid2 := hget_lt q22
    have hb3 : hget H3 H''.l.length = some (.cells [v] (t_sl_int N)) := by subst hH3; simp
    have hfin : st.length + nd.kids.length < 2 ^ 31 := by omega
    obtain ⟨I,hI⟩ : ∃ I : Nat -> List Nat -> Hp -> Prop,I = fun j Sj Hj => ∃ idj,Sj = [q,idj] /\ Todo N Hj H.l.length q idj (st ++ nd.kids.reverse.take j) /\ hget Hj H''.l.length = some (.cells [v] (t_sl_int N)) /\ (∀ x,x < H''.l.length -> x ≠ q -> x ≠ id -> hget Hj x = hget H'' x) /\ H3.l.length <= Hj.l.length /\ (idj = id \/ H3.l.length < idj) := ⟨_,rfl⟩
    simp [L_tree_Walk_1_1,r0,r1,r2,r4,q1,hg,hw,p1,p2,hsl2,y1,bindH_opt,hq,u2,f1,f2,f3',hback,loadC,-halloc_d,-hset_d]
    refine wp_range_mut (S0 := [q,id]) rfl (back_gen h.back1 (c := H''.l.length) (tc := t_sl_int N) (x := v) (ks := nd.kids) (by omega)) rfl ?_ I ?_ ?_ ?_ ?_ ?_
    ·intro s hs
     rcases List.mem_cons.1 hs with rfl | hs
     ·omega
     ·rw [List.mem_singleton.1 hs]; omega
    ·rw [hI]
     rintro j Sj Ha Hb ⟨idj,z1,z2,z3,z4,z5,z6⟩ hle hsame
     have hqa := hget_lt z2.cell
     obtain ⟨allj,za,_⟩ := z2.arr
     have hia := hget_lt za
     refine ⟨idj,z1,z2.keep (fun o ho => by rw [hsame q hqa (by omega)]; exact ho) (fun o ho => by rw [hsame idj hia (by omega)]; exact ho),by rw [hsame _ (hget_lt z3) (by omega)]; exact z3,fun x hx h1 h2 => by rw [hsame x (by omega) (by omega)]; exact z4 x hx h1 h2,by omega,z6⟩
    ·rw [hI]
     rintro j Sj Ha ⟨idj,z1,z2,z3,z4,z5,z6⟩
     exact ⟨z3,f5 _ z4⟩
    ·rw [hI]
     exact ⟨id,rfl,by simpa using hT3,hb3,fun x hx h1 h2 => hM3.get hx (by simp),Nat.le_refl _,.inl rfl⟩
    ·rintro j hj Sj Ha args hnS hIa ⟨k',jj,hk',rfl⟩
     refine ⟨rfl,?_⟩
     simp [L_tree_Walk_1_2]
     intro H1' hI1 hle o ho hgo
     have hIb := hI1
     rw [hI] at hIb
     obtain ⟨idj,z1,z2,z3,z4,z5,z6⟩ := hIb
     have hjl : (st ++ nd.kids.reverse.take j).length < 2 ^ 36 := by simp; omega
     have hy3 := y3.len
     obtain ⟨v',Hp',e1,e2,e3,e4,e5,e6,e7,e8⟩ := z2.push k' hjl (by have := hget_lt z3; omega)
     have z2c := z2.cell
     have hqp := hget_lt e4
     generalize hxx : AV.ra 1 idj 0 (st ++ nd.kids.reverse.take j).length = xx at *
     have hxx1 : xx.good = true /\ xx.cells = [xx] := by rw [<- hxx]; exact ⟨rfl,rfl⟩
     have htk : st ++ nd.kids.reverse.take j ++ [k'] = st ++ nd.kids.reverse.take (j + 1) := by
      rw [List.append_assoc,List.take_add_one,hk']; rfl
     rw [htk] at e7
     simp [L_tree_Walk_1_3,r4,z2c,asElems,e1,e2,e3,e4,bindH_opt,loadC,-halloc_d,-hset_d]
     refine ⟨by rw [z1]; exact e8,[q,H1'.l.length + 1],?_,?_⟩
     ·intro s hs
      rcases List.mem_cons.1 hs with rfl | hs
      ·exact .inl (by rw [z1]; simp)
      ·rw [List.mem_singleton.1 hs]; exact .inr (by omega)
     ·rw [hI]
      have he8 := e8.len
      refine ⟨H1'.l.length + 1,rfl,e7,e8.get' z3 ?_,fun x hx h1 h2 => ?_,by omega,.inr (by omega)⟩
      ·simp; omega
      ·rw [e8.get (by omega) (by simp; omega)]; exact z4 x hx h1 h2
    ·rintro H4 S4 hI4 hM4 hS4 ⟨e,he⟩
     rw [hI] at hI4
     obtain ⟨idj,z1,z2,z3,z4,z5,z6⟩ := hI4
     rw [List.take_of_length_le (l := nd.kids.reverse) (by simp)] at z2
     have z2c := z2.cell
     have hh := hget_lt z3
     have hy3 := y3.len
     simp [K_tree_Walk_1_1,r4,z2c,loadC,-halloc_d,-hset_d]
     have hMM : Mut H'' (hset (halloc H4 (.cells [.lit (.slice none 0 0)] (t_sl_int N))) H4.l.length (some (.cells [.ra 1 idj 0 (st.length + nd.kids.length)] (t_sl_int N)))) [q,id] := by
      have a1 : Mut H'' H3 [q,id] := by rw [hH3]; exact (Mut.refl _ _).alloc _
      exact ((a1.trans hM4 (fun s hs => .inl hs)).alloc _).set (.inr (by omega))
     obtain ⟨al,za,zb⟩ := z2.arr
     have hia := hget_lt za
     have hd3 : H3.d = H''.d := by rw [hH3]; simp
     have hdd : ∃ mm,(hset (halloc H4 (.cells [.lit (.slice none 0 0)] (t_sl_int N))) H4.l.length (some (.cells [.ra 1 idj 0 (st.length + nd.kids.length)] (t_sl_int N)))).d = some mm /\ mm <= lp := by
      obtain ⟨mm,d1,d2⟩ := y2
      rw [hd3,d1] at he
      cases e with
      | none => simp [he,dminO] ; omega
      | some e' => simp [he,dminO]; omega
     refine ⟨W.length - (i + 1),by omega,r0,r1,r2,i + 1,by omega,S',hst _ _ _ _ [q,id] (y5 rfl) hMM ?_,st ++ nd.kids.reverse,idj,⟨?_,⟨al,?_,zb⟩,by omega,z2.id0,by omega⟩,?_,?_,?_,?_,?_,by omega,.inr hdd,rfl⟩
     ·intro o ho
      rcases List.mem_cons.1 ho with rfl | ho
      ·exact ⟨hT.q0,hqS'⟩
      ·rw [List.mem_singleton.1 ho]; exact ⟨hT.id0,hidS'⟩
     ·rw [hget_hset,if_pos rfl]; simp
     ·rw [hget_hset,if_neg (by omega),hget_halloc,if_neg (by omega)]; exact za
     ·intro hs; have := y4' _ hs; omega
     ·intro hs
      have := y4' _ hs
      rcases z6 with rfl | z6
      ·exact hidS' hs
      ·omega
     ·intro s hs; have := y4' _ hs; omega
     ·have : W.drop (i + 1) = (W.drop i).drop 1 := by rw [List.drop_drop]
      rw [this,hW1,hkk]
      simp
     ·intro k hk
      rcases List.mem_append.1 hk with hk | hk
      ·exact hstk k (by simp [hk])
      ·have := hkids kn nd hnd k (by simpa using hk)
       omega
end
end Go.Proofs.Eng
namespace Go.Proofs.Eng
open Go
theorem Row.push2 {e e' : TypeId} {sz bytes : Nat} {x y : AV} {es : List AV} {os r : List (Nat × AObj)} {H0 H : Hp} (h : Row e sz x es os) (hl : Loc H0 H (os ++ r)) (hb : (es.length + 1) * bytes <= roomMax) (hg : (y.good && y.cells.length == sz) = true) :
  ∃ v H' os',appendOn (halloc H (.arr sz [y] e')) e sz bytes x [y] = some (v,some H') /\ Row e sz v (es ++ [y]) os' /\ Loc H0 H' (os' ++ r) /\ Mut H H' (os.map Prod.fst) /\ (∀ q ∈ os',H.l.length <= q.1) /\ v.good = true /\ v.cells = [v] := by
 have hL1 := (hl.alloc (.arr sz [y] e')).perm (os' := os ++ (H.l.length,.arr sz [y] e') :: r) List.perm_middle.symm
 have hr : (os ++ r).Sublist (os ++ (H.l.length,.arr sz [y] e') :: r) := List.Sublist.append (List.Sublist.refl _) (List.sublist_cons_self _ _)
 rcases h with ⟨rfl,rfl,rfl⟩ | ⟨id,rfl,rfl⟩
 ·refine ⟨.ra sz (H.l.length + 1) 0 1,halloc (halloc H (.arr sz [y] e')) (.arr sz [y] e),[(H.l.length + 1,.arr sz [y] e)],?_,.inr ⟨H.l.length + 1,by simp,by simp⟩,?_,((Mut.refl _ _).alloc _).alloc _,by simp,rfl,rfl⟩
  ·simp only [appendOn,avNilS]
   rw [if_pos ⟨by simpa using hb,by simpa using hg⟩]
   simp
  ·have := (hL1.sub hr).alloc (.arr sz [y] e)
   simpa using this
 ·have h1 := hl.head
  have hid := hget_lt h1
  have h1' : hget (halloc H (.arr sz [y] e')) id = some (.arr sz es e) := by rw [hget_halloc,if_neg (by omega)]; exact h1
  refine ⟨.ra sz (H.l.length + 1) 0 (es.length + 1),halloc (hset (halloc H (.arr sz [y] e')) id none) (.arr sz (es ++ [y]) e),[(H.l.length + 1,.arr sz (es ++ [y]) e)],?_,.inr ⟨H.l.length + 1,by simp,by simp⟩,?_,(((Mut.refl _ _).alloc _).set (.inl (by simp))).alloc _,by simp,rfl,rfl⟩
  ·simp only [appendOn,h1']
   rw [if_pos ⟨trivial,trivial,by omega,by simpa using hb,by simpa using hg⟩]
   simp
  ·have := ((hL1.sub hr).kill).alloc (.arr sz (es ++ [y]) e)
   simpa using this
theorem Row.one' {e : TypeId} {sz : Nat} {x : AV} {es : List AV} {os : List (Nat × AObj)} (h : Row e sz x es os) : x.one = true := by
 rcases h with ⟨rfl,_⟩ | ⟨id,rfl,_⟩ <;> rfl
theorem Loc.toMut {H H' : Hp} {os : List (Nat × AObj)} (h : Loc H H' os) : Mut { l := H.l,d := none } H' [] := ⟨h.len,fun i hi _ => h.old i hi,fun m hm => .inr (.inl (h.d m hm))⟩
section
variable {Γ : Sums} {A : Tab} {N : Nat -> Nat}
theorem lawAll_call (h : Has Γ A (f_law04_all N) (C_law04_all N)) {g : FuncId} {cs : List AV} {V : Hp -> Prop} {ws : List Int} {H : Hp}
  (hg : GenO (lim Γ A) g [] cs V ws.length (fun i H args => ∃ k,ws[i]? = some k /\ args = [avInt .i64 k])) (hV : ∀ H',Keep H H' -> V H') (hw : ws.length < 2 ^ 30) (hw0 : ws ≠ []) :
  ∃ v g',(lim Γ A).call (f_law04_all N) [.fn g [] cs] H = some (v,some g') /\ Mut H g' [] /\ ∃ id,v = .ra 1 id 0 ws.length /\ hget g' id = some (.arr 1 (ws.map (avInt .i64)) (t_int N)) /\ H.l.length <= id := by
 obtain ⟨R,hR⟩ : ∃ R : AV × Option Hp -> Prop,R = fun r => ∃ v g',r = (v,some g') /\ Mut H g' [] /\ ∃ id,v = .ra 1 id 0 ws.length /\ hget g' id = some (.arr 1 (ws.map (avInt .i64)) (t_int N)) /\ H.l.length <= id := ⟨_,rfl⟩
 suffices ∃ r,(lim Γ A).call (f_law04_all N) [.fn g [] cs] H = some r /\ R r by
  obtain ⟨r,e,hr⟩ := this
  rw [hR] at hr
  obtain ⟨v,g',rfl,h1,h2⟩ := hr
  exact ⟨v,g',e,h1,h2⟩
 apply h.callP (by rfl)
 have L1 := (Loc.start H).alloc (.cells [avNilS] (t_sl_int N))
 obtain ⟨I,hI⟩ : ∃ I : Nat -> List (Nat × AObj) -> Prop,I = fun i os' => ∃ x os,os' = os ++ [(H.l.length,.cells [x] (t_sl_int N))] /\ Row (t_int N) 1 x ((ws.take i).map (avInt .i64)) os := ⟨_,rfl⟩
 simp [C_law04_all,-halloc_d,-hset_d]
 refine wp_rangeFnO (g := g) (fs := []) (cs := cs) rfl hg rfl L1 I (fun _ _ => False) ?_ (by rw [hI]; exact ⟨avNilS,[],rfl,by simpa using Row.nil _ _⟩) ?_ ?_
 ·rintro i H' l o os' hL _
  exact hV _ hL.kp
 ·rintro i hi l lo lb H' os'' args hlo hlb hL hIi ⟨k,hk,rfl⟩
  refine ⟨rfl,?_⟩
  simp [L_law04_all_1]
  refine ⟨os'',hL,Mut.refl _ _,fun H1 hL1 hM1 => ?_⟩
  rw [hI] at hIi
  obtain ⟨x,os,rfl,hrow⟩ := hIi
  have hL2 : Loc H H1 (os ++ [(l,lb),(H.l.length,.cells [x] (t_sl_int N))]) := hL1.perm (List.perm_middle (a := (l,lb)) (l₁ := os) (l₂ := [(H.l.length,.cells [x] (t_sl_int N))])).symm
  have hrl : ((ws.take i).map (avInt .i64)).length = i := by simp; omega
  obtain ⟨v,H2,os2,e1,e2,e3,e4,e5,e6,e7⟩ := hrow.push2 (e' := t_int N) (bytes := 8) (y := avInt .i64 k) hL2 (by rw [hrl]; unfold roomMax; omega) rfl
  have c1 := hL2.get (p := (H.l.length,.cells [x] (t_sl_int N))) (by simp)
  have c2 := e3.get (p := (H.l.length,.cells [x] (t_sl_int N))) (by simp)
  simp only at c1 c2
  have hrow' : (ws.take i).map (avInt .i64) ++ [avInt .i64 k] = (ws.take (i + 1)).map (avInt .i64) := by
   rw [List.take_add_one,hk]; simp
  rw [hrow'] at e2
  have e3' : Loc H H2 ((os2 ++ [(l,lb)]) ++ (H.l.length,.cells [x] (t_sl_int N)) :: []) := by simpa using e3
  have e8 := e3'.setMid (.cells [v] (t_sl_int N))
  have e9 : Loc H (hset H2 H.l.length (some (.cells [v] (t_sl_int N)))) ((l,lb) :: (os2 ++ [(H.l.length,.cells [v] (t_sl_int N))])) := by
   refine e8.perm ?_
   simp only [List.append_assoc,List.singleton_append]
   exact List.perm_middle
  have hM2 : Mut H' (hset H2 H.l.length (some (.cells [v] (t_sl_int N)))) (l :: (os ++ [(H.l.length,AObj.cells [x] (t_sl_int N))]).map Prod.fst) :=
   (hM1.trans e4 (fun s hs => .inl (by simp at hs ⊢; exact .inr (.inl hs)))).set (.inl (by simp))
  have hlen := hM1.len
  simp [L_law04_all_2,c1,asElems,e1,e6,e7,c2,bindH_opt,loadC,hrow.one',-halloc_d,-hset_d]
  refine ⟨_,e9,by simpa using hM2,fun s o hs => ?_,by rw [hI]; exact ⟨v,os2,rfl,e2⟩⟩
  rcases List.mem_append.1 hs with hs | hs
  ·have := e5 _ hs
   simp only at this
   exact .inr (by omega)
  ·simp at hs
   exact .inl ⟨.cells [x] (t_sl_int N),.inr ⟨hs.1,rfl⟩⟩
 ·rintro x H2 os2 hL hx
  rcases hx with ⟨rfl,hx⟩ | ⟨_,hx⟩
  ·rw [hI] at hx
   obtain ⟨x,os,rfl,hrow⟩ := hx
   rw [List.take_length] at hrow
   have c1 := hL.get (p := (H.l.length,.cells [x] (t_sl_int N))) (by simp)
   simp only at c1
   rcases hrow with ⟨rfl,h2,rfl⟩ | ⟨id,rfl,rfl⟩
   ·simp at h2; exact absurd h2 hw0
   ·have c2 := hL.get (p := (id,.arr 1 (ws.map (avInt .i64)) (t_int N))) (by simp)
    have c3 := hL.ge (p := (id,.arr 1 (ws.map (avInt .i64)) (t_int N))) (by simp)
    simp only at c2 c3
    simp [K_law04_all_1,c1,loadC]
    rw [settle_some (by simp [AV.under,AV.unders]; omega),hR]
    refine ⟨_,_,rfl,(hL.toMut).settled,id,by simp,c2,c3⟩
  ·exact hx.elim
theorem lawSame_call (h : Has Γ A (f_law04_same N) (C_law04_same N)) {H : Hp} {x y : AV} {a b : List Int} (hx : VI H x a) (hy : VI H y b) (ha : a.length < 2 ^ 60) (hab : a = b) : (lim Γ A).call (f_law04_same N) [x,y] H = some (avBool true,none) := by
 subst hab
 have lx := VI.len hx
 have ly := VI.len hy
 apply h.call (by rfl)
 simp [C_law04_same,lx,ly,settle,keeps]
 refine wp_round (n := a.length) (fun m ρ H' => ∃ i : Nat,ρ 0 = x /\ ρ 1 = y /\ ρ 12 = avInt .i64 (a.length : Nat) /\ ρ 13 = avInt .i64 (i : Nat) /\ i <= a.length /\ H' = { l := H.l,d := none } /\ m = a.length - i) ⟨0,rfl,rfl,rfl,rfl,by omega,rfl,rfl⟩ ?_
 rintro m ρ H' ⟨i,r0,r1,r12,r13,hi,rfl,rfl⟩
 by_cases hlt : i < a.length
 ·have hlt' : (i : Int) < a.length := by omega
  obtain ⟨p,p1,p2⟩ := (hx.dd none).at' (k := .i64) (i := (i : Int)) (e := avInt .i64 a[i]) (by omega) (by simp [hlt]) rfl rfl rfl
  obtain ⟨q,q1,q2⟩ := (hy.dd none).at' (k := .i64) (i := (i : Int)) (e := avInt .i64 a[i]) (by omega) (by simp [hlt]) rfl rfl rfl
  have hw : IntKind.wrap .i64 ((i : Int) + 1) = ((i + 1 : Nat) : Int) := by rw [wrap64 (by omega) (by omega)]; omega
  simp [L_law04_same_1,r0,r1,r12,r13,hlt',p1,p2,q1,q2,hw,-Int.natCast_add]
  exact ⟨a.length - (i + 1),by omega,i + 1,rfl,by omega,rfl⟩
 ·have hlt' : ¬ (i : Int) < a.length := by omega
  simp [L_law04_same_1,K_law04_same_1,r0,r1,r12,r13,hlt',settle,keeps]
end
end Go.Proofs.Eng
namespace Go.Proofs.Eng
open Go
section
variable {Γ : Sums} {A : Tab} {N : Nat -> Nat}
structure Gr (H H' : Hp) : Prop where
 kp : Keep H H'
 le : H.l.length <= H'.l.length
theorem Gr.old {H H' : Hp} (h : Gr H H') {i : Nat} {o : AObj} (e : hget H i = some o) : hget H' i = some o := by rw [h.kp i (hget_lt e),e]
theorem Gr.al (H : Hp) (o : AObj) : Gr H (halloc H o) := ⟨fun id hid => by simp [Nat.ne_of_lt hid],by simp⟩
def WalkV (N : Nat -> Nat) (a b c : AV) (n : Int) (v : AV) (g : Hp) : Prop := ∃ p q,v = .fn (f_tree_Walk_1 N) [] [.ptr p 0,.ptr q 0] /\ hget g p = some (.cells [avInt .i64 n] (t_int N)) /\ hget g q = some (.cells [a,b,c] (t_api_Tree N))
theorem step_walk (h : WalkC Γ A N) {a b c : AV} {n : Int} {H : Hp} (ha : a.one = true) (hb : b.one = true) (hc : c.one = true) :
  ∃ v g,(lim Γ A).call (f_tree_Walk N) [.agg [a,b,c],avInt .i64 n] H = some (v,some g) /\ WalkV N a b c n v g /\ Gr H g := by
 refine ⟨_,_,walk_fn h.walk H ha hb hc,⟨_,_,rfl,?_,?_⟩,⟨fun id hid => ?_,by simp⟩⟩
 ·simp [hget]
 ·simp [hget]
 ·simp [hget,List.getElem?_append_left hid]
def RowI (N : Nat -> Nat) (ws : List Int) (v : AV) (g : Hp) : Prop := ∃ id,v = .ra 1 id 0 ws.length /\ hget g id = some (.arr 1 (ws.map (avInt .i64)) (t_int N))
theorem RowI.keep {ws : List Int} {v : AV} {g g' : Hp} (h : RowI N ws v g) (k : Gr g g') : RowI N ws v g' := by
 obtain ⟨id,e,h1⟩ := h
 exact ⟨id,e,k.old h1⟩
theorem RowI.vi {ws : List Int} {v : AV} {g : Hp} (h : RowI N ws v g) : VI g v ws := by
 obtain ⟨id,e,h1⟩ := h
 subst e
 exact .inr ⟨id,0,_,_,by simp,h1,by simp,by rw [List.drop_zero,List.take_of_length_le (by simp)]⟩
theorem step_all (hc : TreeC Γ A N) (h : WalkC Γ A N) (ha : Has Γ A (f_law04_all N) (C_law04_all N)) {a b c : AV} {t : Tr} {n : Int} {v : AV} {H : Hp} (hv : WalkV N a b c n v H) (hx : TrR H (.agg [a,b,c]) t) (ok : t.ok)
  (hb : t.nodes.length < 2 ^ 30 /\ t.types.length < 2 ^ 30 /\ t.als.length < 2 ^ 30) (hck : checkB t = true) (hn0 : 0 <= n) (hn1 : n < t.nodes.length) (hW : (walkS t n).length < 2 ^ 30) :
  ∃ u g,(lim Γ A).call (f_law04_all N) [v] H = some (u,some g) /\ RowI N (walkS t n) u g /\ Gr H g := by
 obtain ⟨p,q,rfl,h1,h2⟩ := hv
 have hk := kids_of_check hck
 obtain ⟨u,g,e,m,id,e1,e2,_⟩ := lawAll_call ha (H := H) (walk_gen hc h (cn := p) (ct := q) (tn := t_int N) (tt := t_api_Tree N) (a := a) (b := b) (c := c) ok hb hck hn0 hn1 hW)
  (fun H' k => ⟨by rw [k p (hget_lt h1),h1],by rw [k q (hget_lt h2),h2],k.tr hx⟩) hW (by rw [walkS_eq hk hn0]; simp)
 exact ⟨u,g,e,⟨id,e1,e2⟩,m.kp,m.len⟩
theorem bindH_R {o : Option (AV × Option Hp)} {H : Hp} {Q : AV -> Hp -> Prop} {m : Mk Q} {m' : Mk H} {R : AV -> Hp -> Prop} (e : ∃ v g,o = some (v,some g) /\ R v g /\ Gr H g) (hq : ∀ v G,R v G -> Gr H G -> Q v G) : bindH o H Q m m' := by
 obtain ⟨v,g,e,h1,h2⟩ := e
 exact ⟨v,some g,e,hq v g h1 h2⟩
end
end Go.Proofs.Eng
namespace Go.Proofs.Eng
open Go

def C_ref04_Name (N : Nat -> Nat) : AFunc := ⟨10,[.inl 2],
 .seq (
 .ops [⟨some 2,.mov (.c (.lit (.bool false))),none⟩]) (
 .seq (
 .ops [⟨some 3,.mov (.t 0),none⟩,⟨some 4,.call (.c (.fn (f_ref04_Tag N) [] [])) [(.t 3)],none⟩,⟨some 5,.mov (.t 4),none⟩,⟨some 6,.mov (.t 0),(some (5,true))⟩,⟨some 7,.call (.c (.fn (f_ref03_IsWord N) [] [])) [(.t 6)],(some (5,true))⟩,⟨some 8,.un .not (.t 7),(some (5,true))⟩,⟨some 9,.pick (.t 5) (.t 8) (.c (.lit (.bool false))),none⟩,⟨some 2,.mov (.t 9),none⟩]) (
 .ret)),false⟩

def L_ref04_Tag_1 (N : Nat -> Nat) : AC :=
 .seq (
 .seq (
 .ops [⟨some 6,.mov (.t 3),none⟩,⟨some 7,.mov (.t 0),none⟩,⟨some 8,.lens (.t 7),none⟩,⟨some 9,.bin .lss (.t 6) (.t 8),none⟩]) (
 .cond (.t 9) (
 .skip) (
 .exit 0))) (
 .seq (
 .block 1 (
 .seq (
 .ops [⟨some 12,.mov (.t 0),none⟩,⟨some 13,.mov (.t 3),none⟩,⟨some 14,.sidx (.t 12) (.t 13),none⟩,⟨some 4,.mov (.t 14),none⟩]) (
 .seq (
 .ops [⟨some 15,.mov (.t 4),none⟩,⟨some 16,.bin .geq (.t 15) (.c (.lit (.int .u8 97))),none⟩,⟨some 17,.mov (.t 16),none⟩,⟨some 18,.mov (.t 4),(some (17,true))⟩,⟨some 19,.bin .leq (.t 18) (.c (.lit (.int .u8 122))),(some (17,true))⟩,⟨some 20,.pick (.t 17) (.t 19) (.c (.lit (.bool false))),none⟩,⟨some 21,.mov (.t 20),none⟩,⟨some 22,.mov (.t 4),(some (21,false))⟩,⟨some 23,.eq false .pint (.t 22) (.c (.lit (.int .u8 95))),(some (21,false))⟩,⟨some 24,.pick (.t 21) (.c (.lit (.bool true))) (.t 23),none⟩,⟨some 5,.mov (.t 24),none⟩]) (
 .seq (
 .ops [⟨some 25,.mov (.t 5),none⟩,⟨some 26,.un .not (.t 25),none⟩,⟨some 27,.mov (.t 26),none⟩,⟨some 28,.mov (.t 3),(some (27,true))⟩,⟨some 29,.eq false .pint (.t 28) (.c (.lit (.int .i64 0))),(some (27,true))⟩,⟨some 30,.mov (.t 29),(some (27,true))⟩,⟨some 31,.mov (.t 4),(some (30,false))⟩,⟨some 32,.bin .lss (.t 31) (.c (.lit (.int .u8 48))),(some (30,false))⟩,⟨some 33,.pick (.t 30) (.c (.lit (.bool true))) (.t 32),(some (27,true))⟩,⟨some 34,.mov (.t 33),(some (27,true))⟩,⟨some 35,.mov (.t 4),(some (34,false))⟩,⟨some 36,.bin .gtr (.t 35) (.c (.lit (.int .u8 57))),(some (34,false))⟩,⟨some 37,.pick (.t 34) (.c (.lit (.bool true))) (.t 36),(some (27,true))⟩,⟨some 38,.pick (.t 27) (.t 37) (.c (.lit (.bool false))),none⟩]) (
 .cond (.t 38) (
 .seq (
 .ops [⟨some 2,.mov (.c (.lit (.bool false))),none⟩]) (
 .ret)) (
 .skip)))))) (
 .ops [⟨some 10,.mov (.t 3),none⟩,⟨some 11,.bin .add (.t 10) (.c (.lit (.int .i64 1))),none⟩,⟨some 3,.mov (.t 11),none⟩]))
def K_ref04_Tag_1 (N : Nat -> Nat) : AC :=
 .seq (
 .ops [⟨some 39,.mov (.t 0),none⟩,⟨some 40,.eq true .pstr (.t 39) (.c (.lit (.string (mkS [])))),none⟩,⟨some 2,.mov (.t 40),none⟩]) (
 .ret)
def C_ref04_Tag (N : Nat -> Nat) : AFunc := ⟨41,[.inl 2],
 .seq (
 .ops [⟨some 2,.mov (.c (.lit (.bool false))),none⟩]) (
 .seq (
 .seq (
 .ops [⟨some 3,.mov (.c (.lit (.int .i64 0))),none⟩]) (
 .block 0 (
 .loop (L_ref04_Tag_1 N)))) (K_ref04_Tag_1 N)),false⟩
end Go.Proofs.Eng
namespace Go.Proofs.Eng
open Go

def L_ref03_IsWord_1 (N : Nat -> Nat) : AC :=
 .seq (
 .seq (
 .ops [⟨some 7,.mov (.t 3),none⟩,⟨some 8,.mov (.t 0),none⟩,⟨some 9,.lens (.t 8),none⟩,⟨some 10,.bin .lss (.t 7) (.t 9),none⟩]) (
 .cond (.t 10) (
 .skip) (
 .exit 0))) (
 .seq (
 .block 1 (
 .seq (
 .ops [⟨some 13,.mov (.t 0),none⟩,⟨some 14,.mov (.t 3),none⟩,⟨some 15,.sidx (.t 13) (.t 14),none⟩,⟨some 16,.bin .lss (.t 15) (.c (.lit (.int .u8 97))),none⟩,⟨some 17,.mov (.t 16),none⟩,⟨some 18,.mov (.t 0),(some (17,false))⟩,⟨some 19,.mov (.t 3),(some (17,false))⟩,⟨some 20,.sidx (.t 18) (.t 19),(some (17,false))⟩,⟨some 21,.bin .gtr (.t 20) (.c (.lit (.int .u8 122))),(some (17,false))⟩,⟨some 22,.pick (.t 17) (.c (.lit (.bool true))) (.t 21),none⟩]) (
 .cond (.t 22) (
 .seq (
 .ops [⟨some 2,.mov (.c (.lit (.bool false))),none⟩]) (
 .ret)) (
 .skip)))) (
 .ops [⟨some 11,.mov (.t 3),none⟩,⟨some 12,.bin .add (.t 11) (.c (.lit (.int .i64 1))),none⟩,⟨some 3,.mov (.t 12),none⟩]))
def L_ref03_IsWord_2 (N : Nat -> Nat) : AC :=
 .seq (
 .seq (
 .ops [⟨some 23,.mov (.t 4),none⟩,⟨some 24,.mov (.t 0),none⟩,⟨some 25,.lens (.t 24),none⟩,⟨some 26,.bin .add (.t 23) (.t 25),none⟩,⟨some 27,.bin .add (.t 26) (.c (.lit (.int .i64 2))),none⟩,⟨some 28,.bin .leq (.t 27) (.c (.lit (.int .i64 89))),none⟩]) (
 .cond (.t 28) (
 .skip) (
 .exit 2))) (
 .seq (
 .block 3 (
 .seq (
 .ops [⟨some 31,.mov (.t 4),none⟩,⟨some 32,.mov (.t 4),none⟩,⟨some 33,.mov (.t 0),none⟩,⟨some 34,.lens (.t 33),none⟩,⟨some 35,.bin .add (.t 32) (.t 34),none⟩,⟨some 36,.bin .add (.t 35) (.c (.lit (.int .i64 2))),none⟩,⟨some 37,.slstr (.c (.lit (.string (mkS [32,102,117,110,32,108,101,116,32,114,101,99,32,105,110,32,105,102,32,116,104,101,110,32,101,108,115,101,32,99,97,115,101,32,111,102,32,101,110,100,32,116,114,117,101,32,102,97,108,115,101,32,105,110,116,32,98,111,111,108,32,115,116,114,32,102,108,111,97,116,32,100,121,110,32,97,110,121,32,110,111,110,101,32,116,121,112,101,32])))) (some (.t 31)) (some (.t 36)),none⟩,⟨some 38,.mov (.t 0),none⟩,⟨some 39,.bin .add (.c (.lit (.string (mkS [32])))) (.t 38),none⟩,⟨some 40,.bin .add (.t 39) (.c (.lit (.string (mkS [32])))),none⟩,⟨some 41,.eq false .pstr (.t 37) (.t 40),none⟩]) (
 .cond (.t 41) (
 .seq (
 .ops [⟨some 2,.mov (.c (.lit (.bool true))),none⟩]) (
 .ret)) (
 .skip)))) (
 .ops [⟨some 29,.mov (.t 4),none⟩,⟨some 30,.bin .add (.t 29) (.c (.lit (.int .i64 1))),none⟩,⟨some 4,.mov (.t 30),none⟩]))
def K_ref03_IsWord_2 (N : Nat -> Nat) : AC :=
 .seq (
 .ops [⟨some 2,.mov (.c (.lit (.bool false))),none⟩]) (
 .ret)
def K_ref03_IsWord_1 (N : Nat -> Nat) : AC :=
 .seq (
 .seq (
 .ops [⟨some 4,.mov (.c (.lit (.int .i64 0))),none⟩]) (
 .block 2 (
 .loop (L_ref03_IsWord_2 N)))) (K_ref03_IsWord_2 N)
def C_ref03_IsWord (N : Nat -> Nat) : AFunc := ⟨42,[.inl 2],
 .seq (
 .ops [⟨some 2,.mov (.c (.lit (.bool false))),none⟩]) (
 .seq (
 .seq (
 .ops [⟨some 5,.mov (.t 0),none⟩,⟨some 6,.eq false .pstr (.t 5) (.c (.lit (.string (mkS [])))),none⟩]) (
 .cond (.t 6) (
 .seq (
 .ops [⟨some 2,.mov (.c (.lit (.bool false))),none⟩]) (
 .ret)) (
 .skip))) (
 .seq (
 .seq (
 .ops [⟨some 3,.mov (.c (.lit (.int .i64 0))),none⟩]) (
 .block 0 (
 .loop (L_ref03_IsWord_1 N)))) (K_ref03_IsWord_1 N))),false⟩

end Go.Proofs.Eng
namespace Go.Proofs.Eng
open Go
section
variable {Γ : Sums} {A : Tab} {N : Nat -> Nat}
def wordsC : List UInt8 := [32,102,117,110,32,108,101,116,32,114,101,99,32,105,110,32,105,102,32,116,104,101,110,32,101,108,115,101,32,99,97,115,101,32,111,102,32,101,110,100,32,116,114,117,101,32,102,97,108,115,101,32,105,110,116,32,98,111,111,108,32,115,116,114,32,102,108,111,97,116,32,100,121,110,32,97,110,121,32,110,111,110,101,32,116,121,112,101,32]
theorem wordsC_eq : (32 :: 102 :: 117 :: 110 :: 32 :: 108 :: 101 :: 116 :: 32 :: 114 :: 101 :: 99 :: 32 :: 105 :: 110 :: 32 :: 105 :: 102 :: 32 :: 116 :: 104 :: 101 :: 110 :: 32 :: 101 :: 108 :: 115 :: 101 :: 32 :: 99 :: 97 :: 115 :: 101 :: 32 :: 111 :: 102 :: 32 :: 101 :: 110 :: 100 :: 32 :: 116 :: 114 :: 117 :: 101 :: 32 :: 102 :: 97 :: 108 :: 115 :: 101 :: 32 :: 105 :: 110 :: 116 :: 32 :: 98 :: 111 :: 111 :: 108 :: 32 :: 115 :: 116 :: 114 :: 32 :: 102 :: 108 :: 111 :: 97 :: 116 :: 32 :: 100 :: 121 :: 110 :: 32 :: 97 :: 110 :: 121 :: 32 :: 110 :: 111 :: 110 :: 101 :: 32 :: 116 :: 121 :: 112 :: 101 :: 32 :: [] : List UInt8) = wordsC := by kernel_rfl
def az (c : UInt8) : Bool := decide (97 <= c.toNat) && decide (c.toNat <= 122)
theorem words_fwd (i n : Nat) (hi : i < 90) (hn : n < 90) (h1 : ((wordsC.drop (i + 1)).take n).all az = true) (h2 : (wordsC.drop (i + 1)).take n ≠ []) (h3 : (wordsC.drop i).take (n + 2) = 32 :: ((wordsC.drop (i + 1)).take n ++ [32])) : (wordsC.drop (i + 1)).take n ∈ wordsL := by
 have : (List.range 90).all (fun i => (List.range 90).all fun n => let s := (wordsC.drop (i + 1)).take n; !(s.all az && !s.isEmpty && (wordsC.drop i).take (n + 2) == 32 :: (s ++ [32])) || wordsL.contains s) = true := by decide +kernel
 rw [List.all_eq_true] at this
 have := this i (by simp; exact hi)
 rw [List.all_eq_true] at this
 have := this n (by simp; exact hn)
 have e : ((wordsC.drop (i + 1)).take n).isEmpty = false := by simpa using h2
 simp only [h1,e,h3,Bool.not_false,Bool.and_self,beq_self_eq_true,Bool.not_true,Bool.false_or,List.contains_iff_mem] at this
 exact this
theorem words_bwd {s : List UInt8} (h : s ∈ wordsL) : s.all az = true /\ s ≠ [] /\ ∃ i,i + s.length + 2 <= 89 /\ (wordsC.drop i).take (s.length + 2) = 32 :: (s ++ [32]) := by
 have : ∀ s ∈ wordsL,s.all az = true /\ s ≠ [] /\ ((List.range 90).any fun i => decide (i + s.length + 2 <= 89) && (wordsC.drop i).take (s.length + 2) == 32 :: (s ++ [32])) = true := by decide +kernel
 obtain ⟨h1,h2,h3⟩ := this s h
 refine ⟨h1,h2,?_⟩
 rw [List.any_eq_true] at h3
 obtain ⟨i,_,h4⟩ := h3
 rw [Bool.and_eq_true,decide_eq_true_eq,beq_iff_eq] at h4
 exact ⟨i,h4⟩
theorem words_iff {s : List UInt8} (h1 : s.all az = true) (h2 : s ≠ []) : (∃ i,i + s.length + 2 <= 89 /\ (wordsC.drop i).take (s.length + 2) = 32 :: (s ++ [32])) ↔ s ∈ wordsL := by
 constructor
 ·rintro ⟨i,hi,h3⟩
  have e : (wordsC.drop (i + 1)).take s.length = s := by
   have h4 := congrArg (fun l => (l.drop 1).take s.length) h3
   simpa [List.drop_take,List.take_take] using h4
  have := words_fwd i s.length (by omega) (by omega) (by rw [e]; exact h1) (by rw [e]; exact h2) (by rw [e]; exact h3)
  rwa [e] at this
 ·intro h
  exact (words_bwd h).2.2

end
end Go.Proofs.Eng
namespace Go.Proofs.Eng
open Go
section
variable {Γ : Sums} {A : Tab} {N : Nat -> Nat}
def tagB (s : List UInt8) : Bool := !s.isEmpty && (s.head?.map isLow).getD false && decide (runB isInName s = s.length)
theorem nameB_tag (s : List UInt8) : isNameB s = (tagB s && !isWordB s) := rfl
structure Ref04N (Γ : Sums) (A : Tab) (N : Nat -> Nat) : Prop where
 tag : Has Γ A (f_ref04_Tag N) (C_ref04_Tag N)
 name : Has Γ A (f_ref04_Name N) (C_ref04_Name N)
theorem ref04_Tag_call (h : Ref04N Γ A N) (s : List UInt8) (hl : s.length < 2 ^ 40) (H : Hp) : (lim Γ A).call (f_ref04_Tag N) [avStr s] H = some (avBool (tagB s),none) := by
 apply h.tag.call (by rfl)
 simp [C_ref04_Tag,-Int.natCast_add]
 refine wp_round (fun k ρ H' => H' = { l := H.l,d := none } /\ ∃ i : Nat,ρ 0 = avStr s /\ ρ 3 = avInt .i64 i /\ i <= s.length /\ (s.take i).all isInName = true /\ (0 < i -> (s.head?.map isLow).getD false = true) /\ k = s.length - i) (n := s.length) ⟨rfl,0,rfl,rfl,by omega,by simp,by omega,rfl⟩ ?_
 rintro k ρ H' ⟨rfl,i,r0,r3,hi,ha,hp,rfl⟩
 have hrd := runB_drop isInName s i ha hi
 by_cases hlt : i < s.length
 ·have hlt' : (i : Int) < s.length := by omega
  have hx := asidx_nat (k := .i64) hlt
  have hw : IntKind.wrap .i64 ((i : Int) + 1) = ((i + 1 : Nat) : Int) := by rw [wrap64 (by omega) (by omega)]; omega
  have hd : s.drop i = s[i] :: s.drop (i + 1) := List.drop_eq_getElem_cons hlt
  have hhd : i = 0 -> (s.head?.map isLow).getD false = isLow s[i] := by
   rintro rfl
   simp [List.head?_eq_getElem?,List.getElem?_eq_getElem hlt]
  have stopN : isInName s[i] = false -> tagB s = false := by
   intro hc
   unfold tagB
   have : runB isInName s = i := by rw [hrd,hd,runB_stop hc]; omega
   simp [this]; omega
  have stop0 : i = 0 -> isLow s[i] = false -> tagB s = false := by
   intro h0 hc
   unfold tagB
   rw [hhd h0,hc]; simp
  have go : isInName s[i] = true -> (s.take (i + 1)).all isInName = true := by
   intro hz
   rw [List.take_succ_eq_append_getElem hlt,List.all_append,ha]; simp [hz]
  have gohd : (i = 0 -> isLow s[i] = true) -> (s.head?.map isLow).getD false = true := by
   intro hz
   by_cases h0 : i = 0
   ·rw [hhd h0,hz h0]
   ·exact hp (by omega)
  generalize s[i] = c at *
  have hlow : isLow c = (decide (97 <= c.toNat) && decide (c.toNat <= 122) || decide (c.toNat = 95)) := rfl
  have hnm : isInName c = (isLow c || (decide (48 <= c.toNat) && decide (c.toNat <= 57))) := rfl
  have step : isLow c = true \/ (i ≠ 0 /\ 48 <= c.toNat /\ c.toNat <= 57) -> isInName c = true /\ (i = 0 -> isLow c = true) := by
   rintro (h1 | ⟨h1,h2,h3⟩)
   ·exact ⟨by rw [hnm,h1]; rfl,fun _ => h1⟩
   ·exact ⟨by rw [hnm]; simp [h2,h3],fun h => absurd h h1⟩
  have fin : isLow c = true \/ (i ≠ 0 /\ 48 <= c.toNat /\ c.toNat <= 57) -> ∃ m,m < s.length - i /\ ∃ i',avInt .i64 ((i + 1 : Nat) : Int) = avInt .i64 (i' : Nat) /\ i' <= s.length /\ (∀ x ∈ s.take i',isInName x = true) /\ (0 < i' -> (s.head?.map isLow).getD false = true) /\ m = s.length - i' := by
   intro h1
   obtain ⟨h2,h3⟩ := step h1
   refine ⟨s.length - (i + 1),by omega,i + 1,rfl,by omega,List.all_eq_true.1 (go h2),fun _ => gohd h3,rfl⟩
  by_cases hlw : isLow c = true
  ·have hlw2 := hlw
   rw [hlow] at hlw2
   by_cases h95 : c.toNat = 95
   ·have a1 : ((c.toNat : Nat) : Int) = 95 := by omega
    simp [L_ref04_Tag_1,r0,r3,hlt',hx,a1,h95,hw,-Int.natCast_add]
    simpa using fin (.inl hlw)
   ·have b1 : 97 <= c.toNat /\ c.toNat <= 122 := by simpa [h95] using hlw2
    have a1 : (97 : Int) <= c.toNat := by omega
    have a2 : (c.toNat : Int) <= 122 := by omega
    simp [L_ref04_Tag_1,r0,r3,hlt',hx,a1,a2,b1.1,b1.2,hw,-Int.natCast_add]
    simpa using fin (.inl hlw)
  ·have hlw' : isLow c = false := by simpa using hlw
   have hlw2 := hlw'
   rw [hlow] at hlw2
   have h95 : ¬ c.toNat = 95 := by intro h; simp [h] at hlw2
   have hno : ¬ (97 <= c.toNat /\ c.toNat <= 122) := by rintro ⟨h1,h2⟩; simp [h1,h2] at hlw2
   have a1 : ¬ ((c.toNat : Nat) : Int) = 95 := by omega
   have key : ∀ (P : Prop),(97 <= c.toNat -> ¬ c.toNat <= 122 -> P) -> (¬ 97 <= c.toNat -> P) -> P := fun P h1 h2 => by
    by_cases h : 97 <= c.toNat
    ·exact h1 h fun h' => hno ⟨h,h'⟩
    ·exact h2 h
   by_cases h0 : i = 0
   ·have ht := stop0 h0 hlw'
    subst h0
    have hx0 : asidx (avStr s) (.lit (.int .i64 0)) = some (avByte c) := hx
    refine key _ (fun b1 b2 => ?_) (fun b1 => ?_)
    ·have b1' : (97 : Int) <= c.toNat := by omega
     have b2' : ¬ (c.toNat : Int) <= 122 := by omega
     simp [L_ref04_Tag_1,r0,r3,hlt,hlt',hx0,a1,h95,b1,b2,b1',b2',ht]
    ·have b1' : ¬ (97 : Int) <= c.toNat := by omega
     simp [L_ref04_Tag_1,r0,r3,hlt,hlt',hx0,a1,h95,b1,b1',ht]
   ·have h0' : ¬ (i : Int) = 0 := by omega
    by_cases hdig : 48 <= c.toNat /\ c.toNat <= 57
    ·have b1 : ¬ 97 <= c.toNat := by omega
     have b1' : ¬ (97 : Int) <= c.toNat := by omega
     have c1 : ¬ (c.toNat : Int) < 48 := by omega
     have c2 : ¬ (57 : Int) < c.toNat := by omega
     have d1 : ¬ c.toNat < 48 := by omega
     have d2 : ¬ 57 < c.toNat := by omega
     simp [L_ref04_Tag_1,r0,r3,hlt',hx,a1,h95,b1,b1',h0,h0',c1,c2,d1,d2,hw,-Int.natCast_add]
     simpa using fin (.inr ⟨h0,hdig⟩)
    ·have ht := stopN (by rw [hnm,hlw']; simp; omega)
     by_cases c1 : c.toNat < 48
     ·have c1' : (c.toNat : Int) < 48 := by omega
      have b1 : ¬ 97 <= c.toNat := by omega
      have b1' : ¬ (97 : Int) <= c.toNat := by omega
      simp [L_ref04_Tag_1,r0,r3,hlt',hx,a1,h95,b1,b1',h0,h0',c1,c1',ht]
     ·have c1' : ¬ (c.toNat : Int) < 48 := by omega
      have d1 : 57 < c.toNat := by omega
      have d1' : (57 : Int) < c.toNat := by omega
      refine key _ (fun b1 b2 => ?_) (fun b1 => ?_)
      ·have b1' : (97 : Int) <= c.toNat := by omega
       have b2' : ¬ (c.toNat : Int) <= 122 := by omega
       simp [L_ref04_Tag_1,r0,r3,hlt',hx,a1,h95,b1,b2,b1',b2',h0,h0',c1,c1',d1,d1',ht]
      ·have b1' : ¬ (97 : Int) <= c.toNat := by omega
       simp [L_ref04_Tag_1,r0,r3,hlt',hx,a1,h95,b1,b1',h0,h0',c1,c1',d1,d1',ht]
 ·have hlt' : ¬ (i : Int) < s.length := by omega
  have hi2 : i = s.length := by omega
  have hrun : runB isInName s = s.length := by rw [hrd,List.drop_of_length_le (by omega)]; simp [runB]; omega
  have ht : tagB s = !decide (s = []) := by
   unfold tagB
   rw [hrun]
   cases s with
   | nil => rfl
   | cons a r => rw [hp (by simp at hi2; omega)]; simp
  simp [L_ref04_Tag_1,K_ref04_Tag_1,r0,r3,hlt',ht]
  try (cases s <;> simp)
end
end Go.Proofs.Eng
namespace Go.Proofs.Eng
open Go
section
variable {Γ : Sums} {A : Tab} {N : Nat -> Nat}
theorem ref03_IsWord_call' (h : Has Γ A (f_ref03_IsWord N) (C_ref03_IsWord N)) (s : List UInt8) (hl : s.length < 2 ^ 36) (H : Hp) : (lim Γ A).call (f_ref03_IsWord N) [avStr s] H = some (avBool (isWordB s),none) := by
 apply h.call (by rfl)
 by_cases hne : s = []
 ·subst hne
  simp [C_ref03_IsWord,isWordB]
  decide
 ·have hne' : ¬ (s = []) := hne
  simp [C_ref03_IsWord,hne,-Int.natCast_add]
  refine wp_round (fun k ρ H' => H' = { l := H.l,d := none } /\ ∃ i : Nat,ρ 0 = avStr s /\ ρ 3 = avInt .i64 i /\ i <= s.length /\ (s.take i).all az = true /\ k = s.length - i) (n := s.length) ⟨rfl,0,rfl,rfl,by omega,by simp,rfl⟩ ?_
  rintro k ρ H' ⟨rfl,i,r0,r3,hi,ha,rfl⟩
  by_cases hlt : i < s.length
  ·have hlt' : (i : Int) < s.length := by omega
   have hx := asidx_nat (k := .i64) hlt
   have hno : az s[i] = false -> isWordB s = false := by
    intro hz
    unfold isWordB
    rw [decide_eq_false_iff_not]
    intro hm
    have := (words_bwd hm).1
    rw [List.all_eq_true] at this
    rw [this _ (List.getElem_mem hlt)] at hz
    cases hz
   have hgo : az s[i] = true -> (s.take (i + 1)).all az = true := by
    intro hz
    rw [List.take_succ_eq_append_getElem hlt,List.all_append,ha]; simp [hz]
   generalize s[i] = c at *
   by_cases h97 : c.toNat < 97
   ·have h97' : (c.toNat : Int) < 97 := by omega
    have hz := hno (by simp [az]; omega)
    simp [L_ref03_IsWord_1,r0,r3,hlt',hx,h97',hz]
   ·have h97' : ¬ (c.toNat : Int) < 97 := by omega
    by_cases h122 : 122 < c.toNat
    ·have h122' : (122 : Int) < c.toNat := by omega
     have hz := hno (by simp [az]; omega)
     simp [L_ref03_IsWord_1,r0,r3,hlt',hx,h97',h122',hz]
    ·have h122' : ¬ (122 : Int) < c.toNat := by omega
     have hw : IntKind.wrap .i64 ((i : Int) + 1) = ((i + 1 : Nat) : Int) := by rw [wrap64 (by omega) (by omega)]; omega
     have hg := hgo (by simp [az]; omega)
     simp [L_ref03_IsWord_1,r0,r3,hlt',hx,h97',h122',hw,-Int.natCast_add]
     exact ⟨s.length - (i + 1),by omega,i + 1,rfl,by omega,List.all_eq_true.1 hg,rfl⟩
  ·have hlt' : ¬ (i : Int) < s.length := by omega
   rw [List.take_of_length_le (by omega)] at ha
   have hiff := words_iff ha hne
   simp [L_ref03_IsWord_1,K_ref03_IsWord_1,r0,r3,hlt',-Int.natCast_add]
   refine wp_round (fun k ρ H' => H' = { l := H.l,d := none } /\ ∃ j : Nat,ρ 0 = avStr s /\ ρ 4 = avInt .i64 j /\ j <= 90 /\ (∀ i < j,¬ (i + s.length + 2 <= 89 /\ (wordsC.drop i).take (s.length + 2) = 32 :: (s ++ [32]))) /\ k = 90 - j) (n := 90) ⟨rfl,0,?_,?_,by omega,by omega,rfl⟩ ?_
   ·simp [r0]
   ·simp
   rintro k ρ H' ⟨rfl,j,r0,r4,hj,hn,rfl⟩
   have hw1 : IntKind.wrap .i64 ((j : Int) + (s.length : Int)) = ((j + s.length : Nat) : Int) := by rw [wrap64 (by omega) (by omega)]; omega
   have hw2 : IntKind.wrap .i64 (((j + s.length : Nat) : Int) + 2) = ((j + s.length + 2 : Nat) : Int) := by rw [wrap64 (by omega) (by omega)]; omega
   by_cases hle : j + s.length + 2 <= 89
   ·have hle' : ((j + s.length + 2 : Nat) : Int) <= 89 := by omega
    have hcut : aslstr (avStr wordsC) (some (avInt .i64 (j : Int))) (some (avInt .i64 ((j + s.length + 2 : Nat) : Int))) = some (avStr ((wordsC.drop j).take (s.length + 2))) := by
     rw [aslstr_cut (by omega) (by omega) (by show _ <= 89; omega)]
     simp only [Int.toNat_natCast]
     rw [show j + s.length + 2 - j = s.length + 2 from by omega]
    have hadd1 := abin_strAdd (s := mkS [32]) (t := mkS s) (by simp; omega)
    have hadd2 := abin_strAdd (s := mkS ([32] ++ s)) (t := mkS [32]) (by simp; omega)
    simp only [bl_mkS,List.cons_append,List.nil_append] at hadd1 hadd2
    by_cases hm : (wordsC.drop j).take (s.length + 2) = 32 :: (s ++ [32])
    ·have hmem : isWordB s = true := by simpa [isWordB] using hiff.1 ⟨j,hle,hm⟩
     rw [hm] at hcut
     simp [L_ref03_IsWord_2,wordsC_eq,r0,r4,hw1,hw2,hle',hcut,hadd1,hadd2,hmem,-Int.natCast_add]
    ·have hw3 : IntKind.wrap .i64 ((j : Int) + 1) = ((j + 1 : Nat) : Int) := by rw [wrap64 (by omega) (by omega)]; omega
     generalize hgt : (wordsC.drop j).take (s.length + 2) = t at *
     simp [L_ref03_IsWord_2,wordsC_eq,r0,r4,hw1,hw2,hw3,hle',hcut,hadd1,hadd2,hm,-Int.natCast_add]
     refine ⟨90 - (j + 1),by omega,j + 1,rfl,by omega,?_,rfl⟩
     intro i hi h1 h2
     have h1 : i + s.length + 2 <= 89 := by omega
     rcases Nat.lt_or_ge i j with h3 | h3
     ·exact hn i h3 ⟨h1,h2⟩
     ·have : i = j := by omega
      subst this
      rw [hgt] at h2
      exact hm h2
   ·have hle' : ¬ ((j + s.length + 2 : Nat) : Int) <= 89 := by omega
    have hmem : isWordB s = false := by
     unfold isWordB
     rw [decide_eq_false_iff_not,<- hiff]
     rintro ⟨i,h1,h2⟩
     rcases Nat.lt_or_ge i j with h3 | h3
     ·exact hn i h3 ⟨h1,h2⟩
     ·omega
    simp [L_ref03_IsWord_2,K_ref03_IsWord_2,r0,r4,hw1,hw2,hle',hmem,-Int.natCast_add]
theorem ref04_Name_call' (h : Ref04N Γ A N) (h3 : Has Γ A (f_ref03_IsWord N) (C_ref03_IsWord N)) (s : List UInt8) (hl : s.length < 2 ^ 36) (H : Hp) : (lim Γ A).call (f_ref04_Name N) [avStr s] H = some (avBool (isNameB s),none) := by
 have e1 := fun H => ref04_Tag_call h s (by omega) H
 have e2 := fun H => ref03_IsWord_call' h3 s hl H
 rw [nameB_tag]
 apply h.name.call (by rfl)
 cases ht : tagB s
 ·simp [C_ref04_Name,e1,ht]
 ·simp [C_ref04_Name,e1,e2,ht]
end
end Go.Proofs.Eng
namespace Go.Proofs.Eng
open Go

def valN : List UInt8 -> Nat
 | [a] => a.toNat
 | [a,b] => a.toNat % 32 * 64 + b.toNat % 64
 | [a,b,c] => a.toNat % 16 * 4096 + b.toNat % 64 * 64 + c.toNat % 64
 | [a,b,c,d] => a.toNat % 8 * 262144 + b.toNat % 64 * 4096 + c.toNat % 64 * 64 + d.toNat % 64
 | _ => 0
def validN (r : Nat) : Bool := decide (r <= 1114111) && !(decide (55296 <= r) && decide (r <= 57343))
def encN (r : Nat) : List Nat :=
 if r < 128 then [r] else if r < 2048 then [192 + r / 64,128 + r % 64] else if r < 65536 then [224 + r / 4096,128 + r / 64 % 64,128 + r % 64]
 else [240 + r / 262144,128 + r / 4096 % 64,128 + r / 64 % 64,128 + r % 64]
def encB (r : Nat) : List UInt8 := (encN r).map UInt8.ofNat

theorem ofNat_eq {n : Nat} {b : UInt8} : UInt8.ofNat n = b ↔ n % 256 = b.toNat := by
 constructor
 ·rintro rfl; simp
 ·intro h
  apply UInt8.toNat_inj.1
  simpa using h

theorem enc1 (a : UInt8) : (validN (valN [a]) = true /\ encB (valN [a]) = [a]) ↔ a.toNat < 128 := by
 have ha := a.toNat_lt
 simp only [valN]
 constructor
 ·rintro ⟨_,h⟩
  unfold encB encN at h
  split at h
  ·assumption
  ·split at h
   ·simp at h
   ·omega
 ·intro h
  refine ⟨by simp [validN]; omega,?_⟩
  unfold encB encN
  rw [if_pos h]
  simp
theorem enc2 (a c : UInt8) : (validN (valN [a,c]) = true /\ encB (valN [a,c]) = [a,c]) ↔ (194 <= a.toNat /\ a.toNat < 224 /\ 128 <= c.toNat /\ c.toNat < 192) := by
 have ha := a.toNat_lt
 have hc := c.toNat_lt
 simp only [valN]
 constructor
 ·rintro ⟨_,h⟩
  unfold encB encN at h
  split at h
  ·simp at h
  ·split at h
   ·simp only [List.map_cons,List.map_nil,List.cons.injEq,and_true,ofNat_eq] at h
    omega
   ·split at h <;> simp at h
 ·intro h
  refine ⟨by simp [validN]; omega,?_⟩
  unfold encB encN
  rw [if_neg (by omega),if_pos (by omega)]
  simp only [List.map_cons,List.map_nil,List.cons.injEq,and_true,ofNat_eq]
  omega
theorem enc3 (a c d : UInt8) : (validN (valN [a,c,d]) = true /\ encB (valN [a,c,d]) = [a,c,d]) ↔ (224 <= a.toNat /\ a.toNat < 240 /\ 128 <= c.toNat /\ c.toNat < 192 /\ 128 <= d.toNat /\ d.toNat < 192 /\ 2048 <= valN [a,c,d] /\ (valN [a,c,d] < 55296 \/ 57343 < valN [a,c,d])) := by
 have ha := a.toNat_lt
 have hc := c.toNat_lt
 have hd := d.toNat_lt
 simp only [valN]
 constructor
 ·rintro ⟨hv,h⟩
  unfold encB encN at h
  split at h
  ·simp at h
  ·split at h
   ·simp at h
   ·split at h
    ·simp only [List.map_cons,List.map_nil,List.cons.injEq,and_true,ofNat_eq] at h
     simp [validN] at hv
     omega
    ·simp at h
 ·intro h
  refine ⟨by simp [validN]; omega,?_⟩
  unfold encB encN
  rw [if_neg (by omega),if_neg (by omega),if_pos (by omega)]
  simp only [List.map_cons,List.map_nil,List.cons.injEq,and_true,ofNat_eq]
  omega
theorem enc4 (a c d e : UInt8) : (validN (valN [a,c,d,e]) = true /\ encB (valN [a,c,d,e]) = [a,c,d,e]) ↔ (240 <= a.toNat /\ a.toNat < 248 /\ 128 <= c.toNat /\ c.toNat < 192 /\ 128 <= d.toNat /\ d.toNat < 192 /\ 128 <= e.toNat /\ e.toNat < 192 /\ 65536 <= valN [a,c,d,e] /\ valN [a,c,d,e] <= 1114111) := by
 have ha := a.toNat_lt
 have hc := c.toNat_lt
 have hd := d.toNat_lt
 have he := e.toNat_lt
 simp only [valN]
 constructor
 ·rintro ⟨hv,h⟩
  unfold encB encN at h
  split at h
  ·simp at h
  ·split at h
   ·simp at h
   ·split at h
    ·simp at h
    ·simp only [List.map_cons,List.map_nil,List.cons.injEq,and_true,ofNat_eq] at h
     simp [validN] at hv
     omega
 ·intro h
  refine ⟨by simp [validN]; omega,?_⟩
  unfold encB encN
  rw [if_neg (by omega),if_neg (by omega),if_neg (by omega)]
  simp only [List.map_cons,List.map_nil,List.cons.injEq,and_true,ofNat_eq]
  omega

theorem lead_cases (a : UInt8) : (a.toNat < 128 /\ lead a = 0) \/ (128 <= a.toNat /\ a.toNat < 192 /\ lead a = 1) \/ (192 <= a.toNat /\ a.toNat < 224 /\ lead a = 2) \/ (224 <= a.toNat /\ a.toNat < 240 /\ lead a = 3) \/ (240 <= a.toNat /\ lead a = 4) := by
 unfold lead
 (repeat' split) <;> omega

theorem rfirst_snd (a : UInt8) (l : List UInt8) : (rfirst (a :: l)).2 = 0 \/ ((rfirst (a :: l)).2 = 1 /\ lead a = 0) \/ ((rfirst (a :: l)).2 = lead a /\ 2 <= lead a) := by
 simp only [rfirst]
 rcases lead_cases a with ⟨h,h'⟩ | ⟨h,_,h'⟩ | ⟨h,_,h'⟩ | ⟨h,_,h'⟩ | ⟨h,h'⟩
 ·rw [if_pos h]; exact .inr (.inl ⟨rfl,h'⟩)
 ·rw [if_neg (by omega),if_pos (by omega)]; exact .inl rfl
 all_goals
  rw [if_neg (by omega)]
  split
  ·exact .inl rfl
  ·split
   ·split
    ·exact .inr (.inr ⟨rfl,by omega⟩)
    ·exact .inl rfl
   ·exact .inl rfl

theorem enc_iff (b : List UInt8) (n : Nat) (h1 : 1 <= n) (h4 : n <= 4) (hl : n <= b.length) : (validN (valN (b.take n)) = true /\ encB (valN (b.take n)) = b.take n) ↔ rfirst b = ((valN (b.take n) : Int),(n : Int)) := by
 have bad : ∀ (a : UInt8) (l : List UInt8) (m : Nat),1 <= m -> (m = 1 -> lead a ≠ 0) -> (2 <= m -> lead a ≠ m) -> ∀ x : Int,rfirst (a :: l) ≠ (x,(m : Int)) := by
  intro a l m hm h0 h2 x e
  have := rfirst_snd a l
  rw [e] at this
  simp only [] at this
  omega
 match n,b,hl with
 | 1,a :: l,_ =>
  simp only [List.take_succ_cons,List.take_zero]
  rw [enc1]
  constructor
  ·intro h; simp [rfirst,h,valN]
  ·intro h
   rcases lead_cases a with ⟨h2,_⟩ | ⟨_,_,h2⟩ | ⟨_,_,h2⟩ | ⟨_,_,h2⟩ | ⟨_,h2⟩
   ·exact h2
   all_goals exact absurd h (bad a l 1 (by omega) (by omega) (by omega) _)
 | 2,a :: c :: l,_ =>
  simp only [List.take_succ_cons,List.take_zero]
  rw [enc2]
  have ha := a.toNat_lt
  rcases lead_cases a with ⟨h2,h3⟩ | ⟨h2,h2',h3⟩ | ⟨h2,h2',h3⟩ | ⟨h2,h2',h3⟩ | ⟨h2,h3⟩
  ·exact ⟨fun h => by omega,fun h => absurd h (bad a _ 2 (by omega) (by omega) (by omega) _)⟩
  ·exact ⟨fun h => by omega,fun h => absurd h (bad a _ 2 (by omega) (by omega) (by omega) _)⟩
  ·simp only [rfirst,h3,headR,accB,runeSign,runeSize,isCont,valN,List.take_succ_cons,List.take_zero,List.all_cons,List.all_nil,List.length_cons]
   rw [if_neg (by omega),if_neg (by omega)]
   simp only [Bool.and_true,Bool.and_eq_true,Bool.or_eq_true,decide_eq_true_eq]
   by_cases hc : 128 <= c.toNat /\ c.toNat < 192
   ·rw [if_pos hc]
    by_cases hv : 194 <= a.toNat
    ·rw [if_pos (by refine ⟨?_,?_⟩ <;> (try (repeat' split)) <;> omega)]
     simp; omega
    ·rw [if_neg (by rintro ⟨_,h⟩; (repeat' split at h) <;> omega)]
     simp; omega
   ·rw [if_neg hc]
    simp; omega
  ·exact ⟨fun h => by omega,fun h => absurd h (bad a _ 2 (by omega) (by omega) (by omega) _)⟩
  ·exact ⟨fun h => by omega,fun h => absurd h (bad a _ 2 (by omega) (by omega) (by omega) _)⟩
 | 3,a :: c :: d :: l,_ =>
  simp only [List.take_succ_cons,List.take_zero]
  rw [enc3]
  have ha := a.toNat_lt
  rcases lead_cases a with ⟨h2,h3⟩ | ⟨h2,h2',h3⟩ | ⟨h2,h2',h3⟩ | ⟨h2,h2',h3⟩ | ⟨h2,h3⟩
  ·exact ⟨fun h => by omega,fun h => absurd h (bad a _ 3 (by omega) (by omega) (by omega) _)⟩
  ·exact ⟨fun h => by omega,fun h => absurd h (bad a _ 3 (by omega) (by omega) (by omega) _)⟩
  ·exact ⟨fun h => by omega,fun h => absurd h (bad a _ 3 (by omega) (by omega) (by omega) _)⟩
  ·simp only [rfirst,h3,headR,accB,runeSign,runeSize,isCont,valN,List.take_succ_cons,List.take_zero,List.all_cons,List.all_nil,List.length_cons]
   rw [if_neg (by omega),if_neg (by omega)]
   simp only [Bool.and_true,Bool.and_eq_true,Bool.or_eq_true,decide_eq_true_eq]
   by_cases hc : (128 <= c.toNat /\ c.toNat < 192) /\ 128 <= d.toNat /\ d.toNat < 192
   ·rw [if_pos hc]
    by_cases hv : 2048 <= a.toNat % 16 * 4096 + c.toNat % 64 * 64 + d.toNat % 64 /\ (a.toNat % 16 * 4096 + c.toNat % 64 * 64 + d.toNat % 64 < 55296 \/ 57343 < a.toNat % 16 * 4096 + c.toNat % 64 * 64 + d.toNat % 64)
    ·rw [if_pos (by refine ⟨?_,?_⟩ <;> (try (repeat' split)) <;> omega)]
     simp; omega
    ·rw [if_neg (by rintro ⟨_,h⟩; (repeat' split at h) <;> omega)]
     simp; omega
   ·rw [if_neg hc]
    simp; omega
  ·exact ⟨fun h => by omega,fun h => absurd h (bad a _ 3 (by omega) (by omega) (by omega) _)⟩
 | 4,a :: c :: d :: e :: l,_ =>
  simp only [List.take_succ_cons,List.take_zero]
  rw [enc4]
  have ha := a.toNat_lt
  rcases lead_cases a with ⟨h2,h3⟩ | ⟨h2,h2',h3⟩ | ⟨h2,h2',h3⟩ | ⟨h2,h2',h3⟩ | ⟨h2,h3⟩
  ·exact ⟨fun h => by omega,fun h => absurd h (bad a _ 4 (by omega) (by omega) (by omega) _)⟩
  ·exact ⟨fun h => by omega,fun h => absurd h (bad a _ 4 (by omega) (by omega) (by omega) _)⟩
  ·exact ⟨fun h => by omega,fun h => absurd h (bad a _ 4 (by omega) (by omega) (by omega) _)⟩
  ·exact ⟨fun h => by omega,fun h => absurd h (bad a _ 4 (by omega) (by omega) (by omega) _)⟩
  ·by_cases h248 : 248 <= a.toNat
   ·simp only [rfirst]
    rw [if_neg (by omega),if_pos (by omega)]
    simp; omega
   ·simp only [rfirst,h3,headR,accB,runeSign,runeSize,isCont,valN,List.take_succ_cons,List.take_zero,List.all_cons,List.all_nil,List.length_cons]
    rw [if_neg (by omega),if_neg (by omega)]
    simp only [Bool.and_true,Bool.and_eq_true,Bool.or_eq_true,decide_eq_true_eq]
    by_cases hc : (128 <= c.toNat /\ c.toNat < 192) /\ (128 <= d.toNat /\ d.toNat < 192) /\ 128 <= e.toNat /\ e.toNat < 192
    ·rw [if_pos hc]
     by_cases hv : 65536 <= a.toNat % 8 * 262144 + c.toNat % 64 * 4096 + d.toNat % 64 * 64 + e.toNat % 64 /\ a.toNat % 8 * 262144 + c.toNat % 64 * 4096 + d.toNat % 64 * 64 + e.toNat % 64 <= 1114111
     ·rw [if_pos (by refine ⟨?_,?_⟩ <;> (try (repeat' split)) <;> omega)]
      simp; omega
     ·rw [if_neg (by rintro ⟨hs,h⟩; (repeat' split at h) <;> omega)]
      simp; omega
    ·rw [if_neg hc]
     simp; omega

section
variable {Γ : Sums} {A : Tab} {N : Nat -> Nat}

theorem ref01_value_call (h : Has Γ A (f_ref01_value N) (C_ref01_value N)) (x : AV) (l : List UInt8) (H : Hp) (hx : VBytes H x l) (h1 : 1 <= l.length) (h4 : l.length <= 4) : (lim Γ A).call (f_ref01_value N) [x] H = some (avInt .i64 (valN l),none) := by
 apply h.call (by rfl)
 replace hx : VBytes { l := H.l,d := none } x l := Vw.dd hx none
 have hlen := hx.len
 match l,h1,h4 with
 | [a],_,_ =>
  obtain ⟨p0,a0,b0⟩ := VBytes.at' hx (k := .i64) (i := 0) (by omega) (by simp)
  have ha := a.toNat_lt
  simp at a0 b0 hlen
  simp (disch := omega) [C_ref01_value,hlen,a0,b0,avByte,wrap64,valN]
 | [a,b],_,_ =>
  obtain ⟨p0,a0,b0⟩ := VBytes.at' hx (k := .i64) (i := 0) (by omega) (by simp)
  obtain ⟨p1,a1,b1⟩ := VBytes.at' hx (k := .i64) (i := 1) (by omega) (by simp)
  have ha := a.toNat_lt
  have hb := b.toNat_lt
  simp at a0 b0 a1 b1 hlen
  simp (disch := omega) [C_ref01_value,hlen,a0,b0,a1,b1,avByte,wrap64,valN,Int.tmod_eq_emod_of_nonneg]
 | [a,b,c],_,_ =>
  obtain ⟨p0,a0,b0⟩ := VBytes.at' hx (k := .i64) (i := 0) (by omega) (by simp)
  obtain ⟨p1,a1,b1⟩ := VBytes.at' hx (k := .i64) (i := 1) (by omega) (by simp)
  obtain ⟨p2,a2,b2⟩ := VBytes.at' hx (k := .i64) (i := 2) (by omega) (by simp)
  have ha := a.toNat_lt
  have hb := b.toNat_lt
  have hc := c.toNat_lt
  simp at a0 b0 a1 b1 a2 b2 hlen
  simp (disch := omega) [C_ref01_value,hlen,a0,b0,a1,b1,a2,b2,avByte,wrap64,valN,Int.tmod_eq_emod_of_nonneg]
 | [a,b,c,d],_,_ =>
  obtain ⟨p0,a0,b0⟩ := VBytes.at' hx (k := .i64) (i := 0) (by omega) (by simp)
  obtain ⟨p1,a1,b1⟩ := VBytes.at' hx (k := .i64) (i := 1) (by omega) (by simp)
  obtain ⟨p2,a2,b2⟩ := VBytes.at' hx (k := .i64) (i := 2) (by omega) (by simp)
  obtain ⟨p3,a3,b3⟩ := VBytes.at' hx (k := .i64) (i := 3) (by omega) (by simp)
  have ha := a.toNat_lt
  have hb := b.toNat_lt
  have hc := c.toNat_lt
  have hd := d.toNat_lt
  simp at a0 b0 a1 b1 a2 b2 a3 b3 hlen
  simp (disch := omega) [C_ref01_value,hlen,a0,b0,a1,b1,a2,b2,a3,b3,avByte,wrap64,valN,Int.tmod_eq_emod_of_nonneg]

theorem ref01_Encode_call (h : Has Γ A (f_ref01_Encode N) (C_ref01_Encode N)) (r : Int) (H : Hp) : (lim Γ A).call (f_ref01_Encode N) [avInt .i64 r] H =
  some (if 0 <= r /\ validN r.toNat = true then .tup [.sl 1 ((encB r.toNat).map avByte),avBool true] else .tup [avNilS,avBool false],none) := by
 apply h.call (by rfl)
 by_cases h0 : r < 0
 ·have : ¬ (0 <= r) := by omega
  simp [C_ref01_Encode,h0,this]
  rw [settleZ_frz (u := .tup [avNilS,avBool false]) rfl rfl]
 ·obtain ⟨n,rfl⟩ : ∃ n : Nat,r = n := ⟨r.toNat,by omega⟩
  have h0' : ¬ ((n : Int) < 0) := by omega
  by_cases h1 : 1114111 < (n : Int)
  ·have hv : validN n = false := by simp [validN]; omega
   simp [C_ref01_Encode,h0',h1,hv]
   rw [settleZ_frz (u := .tup [avNilS,avBool false]) rfl rfl]
  ·by_cases h2 : 55296 <= (n : Int) /\ (n : Int) <= 57343
   ·have hv : validN n = false := by simp [validN]; omega
    simp [C_ref01_Encode,h0',h1,h2.1,h2.2,hv]
    rw [settleZ_frz (u := .tup [avNilS,avBool false]) rfl rfl]
   ·have hv : validN n = true := by simp [validN]; omega
    have hn0 : (0 : Int) <= n := by omega
    by_cases h5 : n < 128
    ·have g1 : (n : Int) < 128 := by omega
     have g2 : ¬ 55296 <= (n : Int) := by omega
     simp (disch := omega) [C_ref01_Encode,h0',h1,g1,g2,hv,wrap8,true_and]
     refine (settleZ_row (es := [avInt .u8 ((n : Int) % 256)]) (t := t_uint8 N) rfl rfl (by simp)).trans ?_
     simp [encB,encN,h5,avByte]
    ·by_cases h6 : n < 2048
     ·have g1 : ¬ (n : Int) < 128 := by omega
      have g3 : (n : Int) < 2048 := by omega
      have g2 : ¬ 55296 <= (n : Int) := by omega
      simp (disch := omega) [C_ref01_Encode,h0',h1,g1,g2,g3,hv,wrap8,wrap64,true_and,Int.tmod_eq_emod_of_nonneg,Int.tdiv_eq_ediv_of_nonneg]
      refine (settleZ_row (es := [avInt .u8 ((192 + (n : Int) / 64) % 256),avInt .u8 ((128 + (n : Int) % 64) % 256)]) (t := t_uint8 N) rfl rfl (by simp)).trans ?_
      simp [encB,encN,h5,h6,avByte]
     ·have g1 : ¬ (n : Int) < 128 := by omega
      have g3 : ¬ (n : Int) < 2048 := by omega
      by_cases h7 : n < 65536
      ·have g4 : (n : Int) < 65536 := by omega
       have fin : ∀ H',H' = halloc { l := H.l,d := none } (.arr 1 [avInt .u8 ((224 + (n : Int) / 4096) % 256),avInt .u8 ((128 + (n : Int) / 64 % 64) % 256),avInt .u8 ((128 + (n : Int) % 64) % 256)] (t_uint8 N)) ->
         settleZ true H (.tup [.ra 1 H.l.length 0 3,avBool true]) H' = (.tup [.sl 1 ((encB n).map avByte),avBool true],none) := by
        rintro H' rfl
        refine (settleZ_row (es := [avInt .u8 ((224 + (n : Int) / 4096) % 256),avInt .u8 ((128 + (n : Int) / 64 % 64) % 256),avInt .u8 ((128 + (n : Int) % 64) % 256)]) (t := t_uint8 N) rfl rfl (by simp)).trans ?_
        simp [encB,encN,h5,h6,h7,avByte]
       by_cases h3 : 55296 <= (n : Int)
       ·have h4 : ¬ (n : Int) <= 57343 := by omega
        simp (disch := omega) [C_ref01_Encode,h0',h1,g1,h3,h4,g3,g4,hv,wrap8,wrap64,true_and,Int.tmod_eq_emod_of_nonneg,Int.tdiv_eq_ediv_of_nonneg]
        exact fin _ rfl
       ·simp (disch := omega) [C_ref01_Encode,h0',h1,g1,h3,g3,g4,hv,wrap8,wrap64,true_and,Int.tmod_eq_emod_of_nonneg,Int.tdiv_eq_ediv_of_nonneg]
        exact fin _ rfl
      ·have g4 : ¬ (n : Int) < 65536 := by omega
       have h3 : 55296 <= (n : Int) := by omega
       have h4 : ¬ (n : Int) <= 57343 := by omega
       simp (disch := omega) [C_ref01_Encode,h0',h1,g1,h3,h4,g3,g4,hv,wrap8,wrap64,true_and,Int.tmod_eq_emod_of_nonneg,Int.tdiv_eq_ediv_of_nonneg]
       refine (settleZ_row (es := [avInt .u8 ((240 + (n : Int) / 262144) % 256),avInt .u8 ((128 + (n : Int) / 4096 % 64) % 256),avInt .u8 ((128 + (n : Int) / 64 % 64) % 256),avInt .u8 ((128 + (n : Int) % 64) % 256)]) (t := t_uint8 N) rfl rfl (by simp)).trans ?_
       simp [encB,encN,h5,h6,h7,avByte]

theorem rfirst_val {b : List UInt8} {n : Nat} (h1 : 1 <= n) (h4 : n <= 4) (hl : n <= b.length) (h : (rfirst b).2 = n) : rfirst b = ((valN (b.take n) : Int),(n : Int)) := by
 refine Prod.ext ?_ h
 cases b with
 | nil => simp at hl; omega
 | cons a l =>
  have ha := a.toNat_lt
  simp only [rfirst] at h ⊢
  split at h
  ·rename_i q; rw [if_pos q]; simp only [] at h; have : n = 1 := by omega
   subst this; simp [valN]
  ·rename_i q
   rw [if_neg q]
   split at h
   ·simp at h; omega
   ·rename_i q2
    rw [if_neg q2]
    split at h
    ·rename_i q3
     rw [if_pos q3]
     split at h
     ·rename_i q4
      rw [if_pos q4]
      simp only [] at h
      have hln : lead a = n := by omega
      rw [hln] at q4 q2
      simp only [hln,headR]
      have hn : n = 2 \/ n = 3 \/ n = 4 := by omega
      rcases hn with rfl | rfl | rfl
      ·obtain ⟨c,l,rfl⟩ : ∃ c l',l = c :: l' := by cases l with | nil => simp at hl | cons c l => exact ⟨c,l,rfl⟩
       simp [accB,valN]
      ·obtain ⟨c,l,rfl⟩ : ∃ c l',l = c :: l' := by cases l with | nil => simp at hl | cons c l => exact ⟨c,l,rfl⟩
       obtain ⟨d,l,rfl⟩ : ∃ c l',l = c :: l' := by cases l with | nil => simp at hl | cons c l => exact ⟨c,l,rfl⟩
       simp [accB,valN]; omega
      ·obtain ⟨c,l,rfl⟩ : ∃ c l',l = c :: l' := by cases l with | nil => simp at hl | cons c l => exact ⟨c,l,rfl⟩
       obtain ⟨d,l,rfl⟩ : ∃ c l',l = c :: l' := by cases l with | nil => simp at hl | cons c l => exact ⟨c,l,rfl⟩
       obtain ⟨e,l,rfl⟩ : ∃ c l',l = c :: l' := by cases l with | nil => simp at hl | cons c l => exact ⟨c,l,rfl⟩
       simp [accB,valN]; omega
     ·simp at h; omega
    ·simp at h; omega

structure Ref01 (Γ : Sums) (A : Tab) (N : Nat -> Nat) : Prop where
 value : Has Γ A (f_ref01_value N) (C_ref01_value N)
 enc : Has Γ A (f_ref01_Encode N) (C_ref01_Encode N)
 first : Has Γ A (f_ref01_First N) (C_ref01_First N)
 signs : Has Γ A (f_ref01_Signs N) (C_ref01_Signs N)

theorem ref01_First_call (h : Ref01 Γ A N) (x : AV) (b : List UInt8) (H : Hp) (hx : VBytes H x b) (hbl : b.length < 2 ^ 62) : (lim Γ A).call (f_ref01_First N) [x] H = some (.tup [avInt .i64 (rfirst b).1,avInt .i64 (rfirst b).2],none) := by
 apply h.first.call (by rfl)
 replace hx : VBytes { l := H.l,d := none } x b := Vw.dd hx none
 have hlen := hx.len
 rw [List.length_map] at hlen
 simp [C_ref01_First]
 refine wp_round (fun k ρ H' => H' = { l := H.l,d := none } /\ ∃ n : Nat,ρ 0 = x /\ ρ 4 = avInt .i64 n /\ 1 <= n /\ n <= 5 /\ n <= b.length + 1 /\ (∀ m : Nat,1 <= m -> m < n -> (rfirst b).2 ≠ m) /\ k = 5 - n) (n := 4) ⟨rfl,1,by simp,by simp,by omega,by omega,by omega,by omega,rfl⟩ ?_
 rintro k ρ H' ⟨rfl,n,r0,r4,hn1,hn5,hnl,hno,rfl⟩
 have stop : ¬ (n <= 4 /\ n <= b.length) -> rfirst b = (0,0) := by
  intro hs
  have hz : (rfirst b).2 = 0 := by
   rcases rfirst_bound b with hz | ⟨h1,h2,h3⟩
   ·exact hz
   ·exfalso
    have := hno (rfirst b).2.toNat (by omega) (by omega)
    omega
  cases b with
  | nil => rfl
  | cons a l =>
   simp only [rfirst] at hz ⊢
   split at hz
   ·simp at hz
   ·rename_i q1
    rw [if_neg q1]
    split at hz
    ·rename_i q2; rw [if_pos q2]
    ·rename_i q2
     rw [if_neg q2]
     split at hz
     ·rename_i q3
      rw [if_pos q3]
      split at hz
      ·simp only [] at hz; omega
      ·rename_i q4; rw [if_neg q4]
     ·rename_i q3; rw [if_neg q3]
 by_cases hn4 : n <= 4
 ·have g4 : (n : Int) <= 4 := by omega
  by_cases hnb : n <= b.length
  ·have gb : (n : Int) <= b.length := by omega
   obtain ⟨y,hy1,hy2⟩ := Vw.upto hx (k' := .i64) (j := (n : Int)) (by omega) (by simp; omega)
   rw [Int.toNat_natCast,<- List.map_take] at hy2
   have htl : (b.take n).length = n := by simp; omega
   have e1 := ref01_value_call h.value y (b.take n) { l := H.l,d := none } hy2 (by omega) (by omega)
   have e2 := ref01_Encode_call h.enc (valN (b.take n)) { l := H.l,d := none }
   have hei := enc_iff b n hn1 hn4 hnb
   have hel := VBytes.str hy2
   have hw : IntKind.wrap .i64 ((n : Int) + 1) = ((n + 1 : Nat) : Int) := by rw [wrap64 (by omega) (by omega)]; omega
   have hv0 : (0 : Int) <= valN (b.take n) := by omega
   by_cases hv : validN (valN (b.take n)) = true
   ·rw [if_pos ⟨hv0,by simpa using hv⟩,Int.toNat_natCast] at e2
    by_cases he : encB (valN (b.take n)) = b.take n
    ·have hr := hei.1 ⟨hv,he⟩
     simp [L_ref01_First_1,r0,r4,hlen,g4,gb,hy1,e1,e2,hel,he,hr,-List.map_take]
    ·have hne := he
     simp [L_ref01_First_1,r0,r4,hlen,g4,gb,hy1,e1,e2,hel,hne,hw,-Int.natCast_add]
     refine ⟨5 - (n + 1),by omega,n + 1,rfl,by omega,by omega,by omega,?_,rfl⟩
     intro m hm1 hm2
     by_cases hm : m = n
     ·subst hm
      intro hc
      exact he (hei.2 (rfirst_val hn1 hn4 hnb hc)).2
     ·exact hno m hm1 (by omega)
   ·rw [if_neg (by rintro ⟨_,h⟩; exact hv (by simpa using h))] at e2
    simp [L_ref01_First_1,r0,r4,hlen,g4,gb,hy1,e1,e2,hw,-Int.natCast_add]
    refine ⟨5 - (n + 1),by omega,n + 1,rfl,by omega,by omega,by omega,?_,rfl⟩
    intro m hm1 hm2
    by_cases hm : m = n
    ·subst hm
     intro hc
     exact hv (hei.2 (rfirst_val hn1 hn4 hnb hc)).1
    ·exact hno m hm1 (by omega)
  ·have gb : ¬ (n : Int) <= b.length := by omega
   simp [L_ref01_First_1,r0,r4,hlen,g4,gb,K_ref01_First_1,stop (by omega)]
 ·have g4 : ¬ (n : Int) <= 4 := by omega
  simp [L_ref01_First_1,r0,r4,hlen,g4,K_ref01_First_1,stop (by omega)]
end
end Go.Proofs.Eng
namespace Go.Proofs.Eng
open Go
section
variable {Γ : Sums} {A : Tab} {N : Nat -> Nat}

theorem rstop_fuel : ∀ (k j at' : Nat) (b : List UInt8),b.length <= k -> b.length <= j -> rstop k at' b = rstop j at' b
 | 0,0,_,_,_,_ => rfl
 | 0,j + 1,at',b,h,_ => by
  have : b = [] := by cases b with | nil => rfl | cons => simp at h
  subst this; simp [rstop,rfirst]
 | k + 1,0,at',b,_,h => by
  have : b = [] := by cases b with | nil => rfl | cons => simp at h
  subst this; simp [rstop,rfirst]
 | k + 1,j + 1,at',b,h1,h2 => by
  simp only [rstop]
  rcases rfirst_bound b with h | ⟨h3,h4,h5⟩
  ·simp [h]
  ·have hne : ¬ (rfirst b).2 = 0 := by omega
   rw [if_neg hne,if_neg hne,rstop_fuel k j _ _ (by simp; omega) (by simp; omega)]
theorem rstop_stop {at' : Nat} {b : List UInt8} (h : (rfirst b).2 = 0) (k : Nat) : rstop k at' b = at' := by
 cases k with
 | zero => rfl
 | succ k => simp [rstop,h]
theorem rstop_step {at' : Nat} {b : List UInt8} (h : (rfirst b).2 ≠ 0) : rstop b.length at' b = rstop (b.drop (rfirst b).2.toNat).length (at' + (rfirst b).2.toNat) (b.drop (rfirst b).2.toNat) := by
 rcases rfirst_bound b with h' | ⟨h3,h4,h5⟩
 ·exact absurd h' h
 ·obtain ⟨k,hk⟩ : ∃ k,b.length = k + 1 := ⟨b.length - 1,by omega⟩
  rw [hk]
  simp only [rstop]
  rw [if_neg h,rstop_fuel k _ _ _ (by simp; omega) (Nat.le_refl _)]

theorem ref01_Signs_call (h : Ref01 Γ A N) (x : AV) (b : List UInt8) (H : Hp) (hx : VBytes H x b) (hbl : b.length < 2 ^ 36) :
  ∃ p s hh os1 os2,(lim Γ A).call (f_ref01_Signs N) [x] H = some (.tup [p,s,avInt .i64 (stopOf b)],hh) /\ Row (t_int N) 1 p ((allOf b).map fun q => avInt .i64 q.1) os1 /\ Row (t_int N) 1 s ((allOf b).map fun q => avInt .i64 q.2) os2 /\ Adds H hh (os1 ++ os2) := by
 have hlen := Vw.len hx
 rw [List.length_map] at hlen
 obtain ⟨R,hR⟩ : ∃ R : AV × Option Hp -> Prop,R = fun r => ∃ p s hh os1 os2,r = (.tup [p,s,avInt .i64 (stopOf b)],hh) /\ Row (t_int N) 1 p ((allOf b).map fun q => avInt .i64 q.1) os1 /\ Row (t_int N) 1 s ((allOf b).map fun q => avInt .i64 q.2) os2 /\ Adds H hh (os1 ++ os2) := ⟨_,rfl⟩
 have key : ∃ r,(lim Γ A).call (f_ref01_Signs N) [x] H = some r /\ R r := by
  apply h.signs.callP (by rfl)
  simp [C_ref01_Signs]
  refine wp_round (fun k ρ H' => ∃ (i at' : Nat) (p s : AV) (os1 os2 : List (Nat × AObj)),ρ 0 = x /\ ρ 5 = p /\ ρ 6 = s /\ ρ 7 = avInt .i64 at' /\ at' <= b.length /\ i <= at' /\
    Row (t_int N) 1 p (((allOf b).take i).map fun q => avInt .i64 q.1) os1 /\ Row (t_int N) 1 s (((allOf b).take i).map fun q => avInt .i64 q.2) os2 /\ Loc H H' (os1 ++ os2) /\
    (allOf b).drop i = rsigns (b.drop at').length at' (b.drop at') /\ rstop (b.drop at').length at' (b.drop at') = stopOf b /\ k = b.length - at') (n := b.length) ?_ ?_
  ·refine ⟨0,0,_,_,[(H.l.length,.arr 1 [] (t_int N))],[(H.l.length + 1,.arr 1 [] (t_int N))],by simp,by simp; rfl,by simp; rfl,by simp,by omega,by omega,?_,?_,?_,by simp [allOf],by simp [stopOf],by simp⟩
   ·exact Row.mk _ _ _ []
   ·exact Row.mk _ _ _ []
   ·have := (((Loc.start H).alloc (.arr 1 [] (t_int N))).alloc (.arr 1 [] (t_int N)))
    simp at this
    exact this.perm (List.Perm.swap _ _ _)
  ·rintro k ρ H' ⟨i,at',p,s,os1,os2,r0,r5,r6,r7,hat,hia,hp,hs,hL,hd,hst,rfl⟩
   have fin' : ∀ ρ : Rho,ρ 0 = x -> ρ 5 = p -> ρ 6 = s -> ρ 7 = avInt .i64 at' -> rsigns (b.drop at').length at' (b.drop at') = [] -> rstop (b.drop at').length at' (b.drop at') = at' -> wp (lim Γ A) none (K_ref01_Signs_1 N) ρ H' (Ends [.inl 2,.inl 3,.inl 4] false H R) := by
    intro ρ r0 r5 r6 r7 e1 e2
    rw [e1] at hd
    rw [e2] at hst
    have hti : (allOf b).take i = allOf b := List.take_of_length_le (List.drop_eq_nil_iff.1 hd)
    rw [hti] at hp hs
    obtain ⟨hh,f1,f2⟩ := settle_adds (v := .tup [p,s,avInt .i64 at']) hL (by
     intro hu
     simp only [AV.under,AV.unders,Bool.and_true,Bool.and_eq_true] at hu
     rw [hp.under hL (fun q hq => List.mem_append_left _ hq) hu.1,hs.under hL (fun q hq => List.mem_append_right _ hq) hu.2]; rfl)
    simp [K_ref01_Signs_1,r5,r6,r7]
    rw [f1,hR,hst]
    exact ⟨p,s,hh,os1,os2,rfl,hp,hs,f2⟩
   by_cases hlt : at' < b.length
   ·have hlt' : (at' : Int) < b.length := by omega
    have hxv := Vw.loc hx hL
    obtain ⟨y,hy1,hy2⟩ := Vw.from' hxv (k := .i64) (i := (at' : Int)) (by omega) (by simp; omega)
    rw [Int.toNat_natCast,<- List.map_drop] at hy2
    have hf := ref01_First_call h y (b.drop at') H' hy2 (by rw [List.length_drop]; omega)
    rcases rfirst_bound (b.drop at') with hz | ⟨h3,h4,h5⟩
    ·simp [L_ref01_Signs_1,r0,r5,r6,r7,hlen,hlt',hy1,hf,hz]
     refine fin' _ ?_ ?_ ?_ ?_ (rsigns_stop hz _) ?_ <;> try simp [r0,r5,r6,r7]
     exact rstop_stop hz _
    ·have hz : ¬ (rfirst (b.drop at')).2 = 0 := by omega
     have hd2 := hd
     rw [rsigns_step hz] at hd2
     have hi : i < (allOf b).length := by
      rcases Nat.lt_or_ge i (allOf b).length with h | h
      ·exact h
      ·rw [List.drop_eq_nil_of_le h] at hd2; cases hd2
     rw [List.drop_eq_getElem_cons hi] at hd2
     injection hd2 with hs1 hs2
     have htk : (allOf b).take (i + 1) = (allOf b).take i ++ [(at',(rfirst (b.drop at')).1)] := by rw [List.take_succ_eq_append_getElem hi,hs1]
     rw [List.length_drop] at h5
     have hil : ((allOf b).take i).length = i := by simp; omega
     have hL1 := (hL.alloc (.arr 1 [avInt .i64 at'] (t_int N))).perm (os' := os1 ++ (H'.l.length,.arr 1 [avInt .i64 at'] (t_int N)) :: os2) List.perm_middle.symm
     obtain ⟨p2,H2,os1',a1,a2,a3⟩ := hp.append (bytes := 8) (ys := [avInt .i64 at']) hL1 (by simp) (by simp [roomMax]; omega) (by simp)
     have hL2 := (a3.perm (os' := os2 ++ (H'.l.length,.arr 1 [avInt .i64 at'] (t_int N)) :: os1') (by
      refine (List.perm_append_comm).trans ?_
      simp only [List.cons_append]
      exact List.perm_middle.symm)).alloc (.arr 1 [avInt .i64 (rfirst (b.drop at')).1] (t_int N))
     have hL3 := hL2.perm (os' := os2 ++ (H2.l.length,.arr 1 [avInt .i64 (rfirst (b.drop at')).1] (t_int N)) :: (H'.l.length,.arr 1 [avInt .i64 at'] (t_int N)) :: os1') List.perm_middle.symm
     obtain ⟨s2,H3,os2',b1,b2,b3⟩ := hs.append (bytes := 8) (ys := [avInt .i64 (rfirst (b.drop at')).1]) hL3 (by simp) (by simp [roomMax]; omega) (by simp)
     have e1 : asElems (halloc H' (.arr 1 [avInt .i64 at'] (t_int N))) (.ra 1 H'.l.length 0 1) = some [avInt .i64 at'] := by simp [asElems]
     have e2 : asElems (halloc H2 (.arr 1 [avInt .i64 (rfirst (b.drop at')).1] (t_int N))) (.ra 1 H2.l.length 0 1) = some [avInt .i64 (rfirst (b.drop at')).1] := by simp [asElems]
     have hw : IntKind.wrap .i64 ((at' : Int) + (rfirst (b.drop at')).2) = ((at' + (rfirst (b.drop at')).2.toNat : Nat) : Int) := by rw [wrap64 (by omega) (by omega)]; omega
     simp [L_ref01_Signs_1,r0,r5,r6,r7,hlen,hlt',hy1,hf,hz,e1,a1,e2,b1,hw,-Int.natCast_add]
     refine ⟨b.length - (at' + (rfirst (b.drop at')).2.toNat),by omega,i + 1,at' + (rfirst (b.drop at')).2.toNat,rfl,by omega,by omega,os1',?_,os2',?_,?_,?_,?_,rfl⟩
     ·rw [<- List.map_take,htk]; simpa using a2
     ·rw [<- List.map_take,htk]; simpa using b2
     ·refine (b3.sub (os' := os2' ++ os1') ?_).perm List.perm_append_comm
      refine List.Sublist.append (List.Sublist.refl _) ?_
      exact ((List.Sublist.refl _).cons _).cons _
     ·rw [hs2,List.drop_drop,List.length_drop]
     ·rw [<- hst,rstop_step hz,List.drop_drop,List.length_drop]
   ·have hlt' : ¬ (at' : Int) < b.length := by omega
    simp [L_ref01_Signs_1,r0,r5,r6,r7,hlen,hlt']
    refine fin' _ ?_ ?_ ?_ ?_ ?_ ?_ <;> try simp [r0,r5,r6,r7]
    ·rw [List.drop_eq_nil_of_le (by omega)]; exact rsigns_stop rfl _
    ·rw [List.drop_eq_nil_of_le (by omega)]; exact rstop_stop rfl _
 obtain ⟨r,e,e2⟩ := key
 rw [hR] at e2
 obtain ⟨p,s,hh,os1,os2,rfl,e2⟩ := e2
 exact ⟨p,s,hh,os1,os2,e,e2⟩
end
end Go.Proofs.Eng
namespace Go.Proofs.Eng
open Go

def C_ref02_Parts (N : Nat -> Nat) : AFunc := ⟨35,[.inl 2,.inl 3,.inl 4,.inl 5,.inl 6],
 .seq (
 .ops [⟨some 2,.mov (.c (.lit (.bool false))),none⟩,⟨some 3,.mov (.c (.lit (.int .i64 0))),none⟩,⟨some 4,.mov (.c (.lit (.int .u64 0))),none⟩,⟨some 5,.mov (.c (.lit (.bool false))),none⟩,⟨some 6,.mov (.c (.lit (.bool false))),none⟩]) (
 .seq (
 .ops [⟨some 10,.mov (.t 0),none⟩,⟨some 11,.bin .shr (.t 10) (.c (.lit (.int .u64 63))),none⟩,⟨some 12,.eq false .pint (.t 11) (.c (.lit (.int .u64 1))),none⟩,⟨some 7,.mov (.t 12),none⟩]) (
 .seq (
 .ops [⟨some 13,.mov (.t 0),none⟩,⟨some 14,.bin .shr (.t 13) (.c (.lit (.int .u64 52))),none⟩,⟨some 15,.bin .rem (.t 14) (.c (.lit (.int .u64 2048))),none⟩,⟨some 16,.conv (.toInt .i64) (.t 15),none⟩,⟨some 8,.mov (.t 16),none⟩]) (
 .seq (
 .ops [⟨some 17,.mov (.t 0),none⟩,⟨some 18,.bin .rem (.t 17) (.c (.lit (.int .u64 4503599627370496))),none⟩,⟨some 9,.mov (.t 18),none⟩]) (
 .seq (
 .seq (
 .ops [⟨some 19,.mov (.t 8),none⟩,⟨some 20,.eq false .pint (.t 19) (.c (.lit (.int .i64 2047))),none⟩]) (
 .cond (.t 20) (
 .seq (
 .ops [⟨some 21,.mov (.t 7),none⟩,⟨some 22,.mov (.t 9),none⟩,⟨some 23,.eq false .pint (.t 22) (.c (.lit (.int .u64 0))),none⟩,⟨some 24,.mov (.t 9),none⟩,⟨some 25,.eq true .pint (.t 24) (.c (.lit (.int .u64 0))),none⟩,⟨some 2,.mov (.t 21),none⟩,⟨some 3,.mov (.c (.lit (.int .i64 0))),none⟩,⟨some 4,.mov (.c (.lit (.int .u64 0))),none⟩,⟨some 5,.mov (.t 23),none⟩,⟨some 6,.mov (.t 25),none⟩]) (
 .ret)) (
 .skip))) (
 .seq (
 .seq (
 .ops [⟨some 26,.mov (.t 8),none⟩,⟨some 27,.eq false .pint (.t 26) (.c (.lit (.int .i64 0))),none⟩]) (
 .cond (.t 27) (
 .seq (
 .ops [⟨some 28,.mov (.t 7),none⟩,⟨some 29,.mov (.t 9),none⟩,⟨some 2,.mov (.t 28),none⟩,⟨some 3,.mov (.c (.lit (.int .i64 (-1074)))),none⟩,⟨some 4,.mov (.t 29),none⟩,⟨some 5,.mov (.c (.lit (.bool false))),none⟩,⟨some 6,.mov (.c (.lit (.bool false))),none⟩]) (
 .ret)) (
 .skip))) (
 .seq (
 .ops [⟨some 30,.mov (.t 7),none⟩,⟨some 31,.mov (.t 8),none⟩,⟨some 32,.bin .sub (.t 31) (.c (.lit (.int .i64 1075))),none⟩,⟨some 33,.mov (.t 9),none⟩,⟨some 34,.bin .add (.t 33) (.c (.lit (.int .u64 4503599627370496))),none⟩,⟨some 2,.mov (.t 30),none⟩,⟨some 3,.mov (.t 32),none⟩,⟨some 4,.mov (.t 34),none⟩,⟨some 5,.mov (.c (.lit (.bool false))),none⟩,⟨some 6,.mov (.c (.lit (.bool false))),none⟩]) (
 .ret))))))),false⟩

def L_ref04_Alias_1 (N : Nat -> Nat) : AC :=
 .seq (
 .seq (
 .ops [⟨some 6,.mov (.t 3),none⟩,⟨some 7,.mov (.t 0),none⟩,⟨some 8,.lens (.t 7),none⟩,⟨some 9,.bin .lss (.t 6) (.t 8),none⟩]) (
 .cond (.t 9) (
 .skip) (
 .exit 0))) (
 .seq (
 .block 1 (
 .seq (
 .ops [⟨some 12,.mov (.t 0),none⟩,⟨some 13,.mov (.t 3),none⟩,⟨some 14,.sidx (.t 12) (.t 13),none⟩,⟨some 4,.mov (.t 14),none⟩]) (
 .seq (
 .ops [⟨some 15,.mov (.t 4),none⟩,⟨some 16,.bin .geq (.t 15) (.c (.lit (.int .u8 65))),none⟩,⟨some 17,.mov (.t 16),none⟩,⟨some 18,.mov (.t 4),(some (17,true))⟩,⟨some 19,.bin .leq (.t 18) (.c (.lit (.int .u8 90))),(some (17,true))⟩,⟨some 20,.pick (.t 17) (.t 19) (.c (.lit (.bool false))),none⟩,⟨some 5,.mov (.t 20),none⟩]) (
 .seq (
 .ops [⟨some 21,.mov (.t 5),none⟩,⟨some 22,.un .not (.t 21),none⟩,⟨some 23,.mov (.t 22),none⟩,⟨some 24,.mov (.t 3),(some (23,true))⟩,⟨some 25,.eq false .pint (.t 24) (.c (.lit (.int .i64 0))),(some (23,true))⟩,⟨some 26,.mov (.t 25),(some (23,true))⟩,⟨some 27,.mov (.t 4),(some (26,false))⟩,⟨some 28,.bin .lss (.t 27) (.c (.lit (.int .u8 97))),(some (26,false))⟩,⟨some 29,.mov (.t 28),(some (26,false))⟩,⟨some 30,.mov (.t 4),(some (29,false))⟩,⟨some 31,.bin .gtr (.t 30) (.c (.lit (.int .u8 122))),(some (29,false))⟩,⟨some 32,.pick (.t 29) (.c (.lit (.bool true))) (.t 31),(some (26,false))⟩,⟨some 33,.mov (.t 32),(some (26,false))⟩,⟨some 34,.mov (.t 4),(some (33,true))⟩,⟨some 35,.bin .lss (.t 34) (.c (.lit (.int .u8 48))),(some (33,true))⟩,⟨some 36,.mov (.t 35),(some (33,true))⟩,⟨some 37,.mov (.t 4),(some (36,false))⟩,⟨some 38,.bin .gtr (.t 37) (.c (.lit (.int .u8 57))),(some (36,false))⟩,⟨some 39,.pick (.t 36) (.c (.lit (.bool true))) (.t 38),(some (33,true))⟩,⟨some 40,.pick (.t 33) (.t 39) (.c (.lit (.bool false))),(some (26,false))⟩,⟨some 41,.pick (.t 26) (.c (.lit (.bool true))) (.t 40),(some (23,true))⟩,⟨some 42,.pick (.t 23) (.t 41) (.c (.lit (.bool false))),none⟩]) (
 .cond (.t 42) (
 .seq (
 .ops [⟨some 2,.mov (.c (.lit (.bool false))),none⟩]) (
 .ret)) (
 .skip)))))) (
 .ops [⟨some 10,.mov (.t 3),none⟩,⟨some 11,.bin .add (.t 10) (.c (.lit (.int .i64 1))),none⟩,⟨some 3,.mov (.t 11),none⟩]))
def K_ref04_Alias_1 (N : Nat -> Nat) : AC :=
 .seq (
 .ops [⟨some 43,.mov (.t 0),none⟩,⟨some 44,.eq true .pstr (.t 43) (.c (.lit (.string (mkS [])))),none⟩,⟨some 2,.mov (.t 44),none⟩]) (
 .ret)
def C_ref04_Alias (N : Nat -> Nat) : AFunc := ⟨45,[.inl 2],
 .seq (
 .ops [⟨some 2,.mov (.c (.lit (.bool false))),none⟩]) (
 .seq (
 .seq (
 .ops [⟨some 3,.mov (.c (.lit (.int .i64 0))),none⟩]) (
 .block 0 (
 .loop (L_ref04_Alias_1 N)))) (K_ref04_Alias_1 N)),false⟩

def L_ref04_Depth_1 (N : Nat -> Nat) : AC :=
 .seq (
 .ops [⟨some 16,.bin .lss (.t 15) (.t 14),none⟩]) (
 .seq (
 .cond (.t 16) (
 .skip) (
 .exit 0)) (
 .seq (
 .block 1 (
 .seq (
 .ops [⟨some 17,.iaddr 3 (.t 13) (.t 15),none⟩,⟨some 18,.load (some 3) (.t 17),none⟩,⟨some 5,.new (t_api_Alias N) (.agg [(.lit (.string (mkS []))),(.lit (.int .i64 0)),(.lit (.int .i64 0))]),none⟩,⟨none,.store 3 (.t 5) (.t 18),none⟩]) (
 .ops [⟨some 19,.mov (.t 3),none⟩,⟨some 20,.load (some 3) (.t 1),none⟩,⟨some 21,.faddr 1 (.t 5),none⟩,⟨some 22,.load none (.t 21),none⟩,⟨some 23,.call (.c (.fn (f_ref04_depthType N) [] [])) [(.t 20),(.t 22)],none⟩,⟨some 24,.mnmx true [(.t 19),(.t 23)],none⟩,⟨some 3,.mov (.t 24),none⟩]))) (
 .ops [⟨some 25,.bin .add (.t 15) (.c (.lit (.int .i64 1))),none⟩,⟨some 15,.mov (.t 25),none⟩])))
def K_ref04_Depth_1 (N : Nat -> Nat) : AC :=
 .seq (
 .ops [⟨some 26,.mov (.t 3),none⟩,⟨some 2,.mov (.t 26),none⟩]) (
 .ret)
def C_ref04_Depth (N : Nat -> Nat) : AFunc := ⟨27,[.inl 2],
 .seq (
 .ops [⟨some 1,.box (t_api_Tree N) (.t 0),none⟩,⟨some 2,.mov (.c (.lit (.int .i64 0))),none⟩]) (
 .seq (
 .ops [⟨some 6,.load (some 3) (.t 1),none⟩,⟨some 7,.faddr 0 (.t 1),none⟩,⟨some 8,.load none (.t 7),none⟩,⟨some 9,.len (.t 8),none⟩,⟨some 10,.bin .sub (.t 9) (.c (.lit (.int .i64 1))),none⟩,⟨some 11,.call (.c (.fn (f_ref04_depthTerm N) [] [])) [(.t 6),(.t 10)],none⟩,⟨some 3,.mov (.t 11),none⟩]) (
 .seq (
 .seq (
 .ops [⟨some 12,.faddr 2 (.t 1),none⟩,⟨some 13,.load none (.t 12),none⟩,⟨some 14,.len (.t 13),none⟩,⟨some 15,.mov (.c (.lit (.int .i64 0))),none⟩]) (
 .block 0 (
 .loop (L_ref04_Depth_1 N)))) (K_ref04_Depth_1 N))),false⟩

def L_ref04_Right_1 (N : Nat -> Nat) : AC :=
 .seq (
 .ops [⟨some 42,.bin .lss (.t 41) (.t 40),none⟩]) (
 .seq (
 .cond (.t 42) (
 .skip) (
 .exit 0)) (
 .seq (
 .block 1 (
 .seq (
 .ops [⟨some 43,.mov (.t 41),none⟩,⟨some 44,.iaddr 8 (.t 39) (.t 41),none⟩,⟨some 45,.load (some 8) (.t 44),none⟩,⟨some 6,.new (t_api_Node N) (.agg [(.lit (.int .i64 0)),(.lit (.int .i64 0)),(.lit (.string (mkS []))),(.lit (.int .i64 0)),(.lit (.int .u64 0)),(.lit (.slice none 0 0)),(.lit (.slice none 0 0)),(.lit (.slice none 0 0))]),none⟩,⟨some 5,.mov (.t 43),none⟩,⟨none,.store 8 (.t 6) (.t 45),none⟩]) (
 .seq (
 .seq (
 .ops [⟨some 46,.load (some 8) (.t 6),none⟩,⟨some 47,.call (.c (.fn (f_ref04_term N) [] [])) [(.t 46)],none⟩,⟨some 48,.un .not (.t 47),none⟩,⟨some 49,.mov (.t 48),none⟩,⟨some 50,.faddr 6 (.t 6),(some (49,false))⟩,⟨some 51,.load none (.t 50),(some (49,false))⟩,⟨some 52,.mov (.t 5),(some (49,false))⟩,⟨some 53,.call (.c (.fn (f_ref04_below N) [] [])) [(.t 51),(.t 52)],(some (49,false))⟩,⟨some 54,.un .not (.t 53),(some (49,false))⟩,⟨some 55,.pick (.t 49) (.c (.lit (.bool true))) (.t 54),none⟩,⟨some 56,.mov (.t 55),none⟩,⟨some 57,.faddr 7 (.t 6),(some (56,false))⟩,⟨some 58,.load none (.t 57),(some (56,false))⟩,⟨some 59,.faddr 1 (.t 1),(some (56,false))⟩,⟨some 60,.load none (.t 59),(some (56,false))⟩,⟨some 61,.len (.t 60),(some (56,false))⟩,⟨some 62,.call (.c (.fn (f_ref04_below N) [] [])) [(.t 58),(.t 61)],(some (56,false))⟩,⟨some 63,.un .not (.t 62),(some (56,false))⟩,⟨some 64,.pick (.t 56) (.c (.lit (.bool true))) (.t 63),none⟩]) (
 .cond (.t 64) (
 .seq (
 .ops [⟨some 2,.mov (.c (.lit (.bool false))),none⟩]) (
 .ret)) (
 .skip))) (
 .seq (
 .ops [⟨some 65,.mov (.t 3),none⟩,⟨some 66,.faddr 6 (.t 6),none⟩,⟨some 67,.load none (.t 66),none⟩,⟨some 68,.bslice (t_sl_int N) 1 none 1 [(.lit (.slice none 0 0))] [(0,1,(.t 67))],none⟩,⟨some 69,.append (t_sl_int N) 1 24 (.t 65) (.t 68),none⟩,⟨some 3,.mov (.t 69),none⟩]) (
 .ops [⟨some 70,.mov (.t 4),none⟩,⟨some 71,.faddr 7 (.t 6),none⟩,⟨some 72,.load none (.t 71),none⟩,⟨some 73,.bslice (t_sl_int N) 1 none 1 [(.lit (.slice none 0 0))] [(0,1,(.t 72))],none⟩,⟨some 74,.append (t_sl_int N) 1 24 (.t 70) (.t 73),none⟩,⟨some 4,.mov (.t 74),none⟩]))))) (
 .ops [⟨some 75,.bin .add (.t 41) (.c (.lit (.int .i64 1))),none⟩,⟨some 41,.mov (.t 75),none⟩])))
def L_ref04_Right_2 (N : Nat -> Nat) : AC :=
 .seq (
 .ops [⟨some 80,.bin .lss (.t 79) (.t 78),none⟩]) (
 .seq (
 .cond (.t 80) (
 .skip) (
 .exit 2)) (
 .seq (
 .block 3 (
 .seq (
 .ops [⟨some 81,.mov (.t 79),none⟩,⟨some 82,.iaddr 6 (.t 77) (.t 79),none⟩,⟨some 83,.load (some 6) (.t 82),none⟩,⟨some 8,.new (t_api_TypeNode N) (.agg [(.lit (.int .i64 0)),(.lit (.int .i64 0)),(.lit (.string (mkS []))),(.lit (.slice none 0 0)),(.lit (.slice none 0 0)),(.lit (.bool false))]),none⟩,⟨some 7,.mov (.t 81),none⟩,⟨none,.store 6 (.t 8) (.t 83),none⟩]) (
 .seq (
 .seq (
 .ops [⟨some 84,.load (some 6) (.t 8),none⟩,⟨some 85,.call (.c (.fn (f_ref04_typ N) [] [])) [(.t 84)],none⟩,⟨some 86,.un .not (.t 85),none⟩,⟨some 87,.mov (.t 86),none⟩,⟨some 88,.faddr 4 (.t 8),(some (87,false))⟩,⟨some 89,.load none (.t 88),(some (87,false))⟩,⟨some 90,.mov (.t 7),(some (87,false))⟩,⟨some 91,.call (.c (.fn (f_ref04_below N) [] [])) [(.t 89),(.t 90)],(some (87,false))⟩,⟨some 92,.un .not (.t 91),(some (87,false))⟩,⟨some 93,.pick (.t 87) (.c (.lit (.bool true))) (.t 92),none⟩]) (
 .cond (.t 93) (
 .seq (
 .ops [⟨some 2,.mov (.c (.lit (.bool false))),none⟩]) (
 .ret)) (
 .skip))) (
 .ops [⟨some 94,.mov (.t 4),none⟩,⟨some 95,.faddr 4 (.t 8),none⟩,⟨some 96,.load none (.t 95),none⟩,⟨some 97,.bslice (t_sl_int N) 1 none 1 [(.lit (.slice none 0 0))] [(0,1,(.t 96))],none⟩,⟨some 98,.append (t_sl_int N) 1 24 (.t 94) (.t 97),none⟩,⟨some 4,.mov (.t 98),none⟩])))) (
 .ops [⟨some 99,.bin .add (.t 79) (.c (.lit (.int .i64 1))),none⟩,⟨some 79,.mov (.t 99),none⟩])))
def L_ref04_Right_3 (N : Nat -> Nat) : AC :=
 .seq (
 .ops [⟨some 104,.bin .lss (.t 103) (.t 102),none⟩]) (
 .seq (
 .cond (.t 104) (
 .skip) (
 .exit 4)) (
 .seq (
 .block 5 (
 .seq (
 .ops [⟨some 105,.iaddr 3 (.t 101) (.t 103),none⟩,⟨some 106,.load (some 3) (.t 105),none⟩,⟨some 10,.new (t_api_Alias N) (.agg [(.lit (.string (mkS []))),(.lit (.int .i64 0)),(.lit (.int .i64 0))]),none⟩,⟨none,.store 3 (.t 10) (.t 106),none⟩]) (
 .seq (
 .seq (
 .ops [⟨some 107,.faddr 0 (.t 10),none⟩,⟨some 108,.load none (.t 107),none⟩,⟨some 109,.call (.c (.fn (f_ref04_Alias N) [] [])) [(.t 108)],none⟩,⟨some 110,.un .not (.t 109),none⟩,⟨some 111,.mov (.t 110),none⟩,⟨some 112,.faddr 1 (.t 10),(some (111,false))⟩,⟨some 113,.load none (.t 112),(some (111,false))⟩,⟨some 114,.bslice (t_int N) 1 none 1 [(.lit (.int .i64 0))] [(0,1,(.t 113))],(some (111,false))⟩,⟨some 115,.faddr 1 (.t 1),(some (111,false))⟩,⟨some 116,.load none (.t 115),(some (111,false))⟩,⟨some 117,.len (.t 116),(some (111,false))⟩,⟨some 118,.call (.c (.fn (f_ref04_below N) [] [])) [(.t 114),(.t 117)],(some (111,false))⟩,⟨some 119,.un .not (.t 118),(some (111,false))⟩,⟨some 120,.pick (.t 111) (.c (.lit (.bool true))) (.t 119),none⟩]) (
 .cond (.t 120) (
 .seq (
 .ops [⟨some 2,.mov (.c (.lit (.bool false))),none⟩]) (
 .ret)) (
 .skip))) (
 .ops [⟨some 121,.mov (.t 4),none⟩,⟨some 122,.faddr 1 (.t 10),none⟩,⟨some 123,.load none (.t 122),none⟩,⟨some 124,.bslice (t_int N) 1 none 1 [(.lit (.int .i64 0))] [(0,1,(.t 123))],none⟩,⟨some 125,.bslice (t_sl_int N) 1 none 1 [(.lit (.slice none 0 0))] [(0,1,(.t 124))],none⟩,⟨some 126,.append (t_sl_int N) 1 24 (.t 121) (.t 125),none⟩,⟨some 4,.mov (.t 126),none⟩])))) (
 .ops [⟨some 127,.bin .add (.t 103) (.c (.lit (.int .i64 1))),none⟩,⟨some 103,.mov (.t 127),none⟩])))
def L_ref04_Right_4 (N : Nat -> Nat) : AC :=
 .seq (
 .ops [⟨some 135,.bin .lss (.t 134) (.t 133),none⟩]) (
 .seq (
 .cond (.t 135) (
 .skip) (
 .exit 6)) (
 .seq (
 .block 7 (
 .seq (
 .ops [⟨some 136,.iaddr 1 (.t 132) (.t 134),none⟩,⟨some 137,.load none (.t 136),none⟩,⟨some 12,.mov (.t 137),none⟩]) (
 .seq (
 .ops [⟨some 138,.mov (.t 12),none⟩,⟨some 139,.eq true .pint (.t 138) (.c (.lit (.int .i64 1))),none⟩]) (
 .cond (.t 139) (
 .seq (
 .ops [⟨some 2,.mov (.c (.lit (.bool false))),none⟩]) (
 .ret)) (
 .skip))))) (
 .ops [⟨some 140,.bin .add (.t 134) (.c (.lit (.int .i64 1))),none⟩,⟨some 134,.mov (.t 140),none⟩])))
def L_ref04_Right_5 (N : Nat -> Nat) : AC :=
 .seq (
 .ops [⟨some 148,.bin .lss (.t 147) (.t 146),none⟩]) (
 .seq (
 .cond (.t 148) (
 .skip) (
 .exit 8)) (
 .seq (
 .block 9 (
 .seq (
 .ops [⟨some 149,.iaddr 1 (.t 145) (.t 147),none⟩,⟨some 150,.load none (.t 149),none⟩,⟨some 14,.mov (.t 150),none⟩]) (
 .seq (
 .ops [⟨some 151,.mov (.t 14),none⟩,⟨some 152,.eq true .pint (.t 151) (.c (.lit (.int .i64 1))),none⟩]) (
 .cond (.t 152) (
 .seq (
 .ops [⟨some 2,.mov (.c (.lit (.bool false))),none⟩]) (
 .ret)) (
 .skip))))) (
 .ops [⟨some 153,.bin .add (.t 147) (.c (.lit (.int .i64 1))),none⟩,⟨some 147,.mov (.t 153),none⟩])))
def K_ref04_Right_5 (N : Nat -> Nat) : AC :=
 .seq (
 .ops [⟨some 2,.mov (.c (.lit (.bool true))),none⟩]) (
 .ret)
def K_ref04_Right_4 (N : Nat -> Nat) : AC :=
 .seq (
 .seq (
 .ops [⟨some 141,.faddr 1 (.t 1),none⟩,⟨some 142,.load none (.t 141),none⟩,⟨some 143,.len (.t 142),none⟩,⟨some 144,.mov (.t 4),none⟩,⟨some 145,.call (.c (.fn (f_ref04_uses N) [] [])) [(.t 143),(.t 144)],none⟩,⟨some 146,.len (.t 145),none⟩,⟨some 147,.mov (.c (.lit (.int .i64 0))),none⟩]) (
 .block 8 (
 .loop (L_ref04_Right_5 N)))) (K_ref04_Right_5 N)
def K_ref04_Right_3 (N : Nat -> Nat) : AC :=
 .seq (
 .seq (
 .ops [⟨some 128,.faddr 0 (.t 1),none⟩,⟨some 129,.load none (.t 128),none⟩,⟨some 130,.len (.t 129),none⟩,⟨some 131,.mov (.t 3),none⟩,⟨some 132,.call (.c (.fn (f_ref04_uses N) [] [])) [(.t 130),(.t 131)],none⟩,⟨some 133,.len (.t 132),none⟩,⟨some 134,.mov (.c (.lit (.int .i64 0))),none⟩]) (
 .block 6 (
 .loop (L_ref04_Right_4 N)))) (K_ref04_Right_4 N)
def K_ref04_Right_2 (N : Nat -> Nat) : AC :=
 .seq (
 .seq (
 .ops [⟨some 100,.faddr 2 (.t 1),none⟩,⟨some 101,.load none (.t 100),none⟩,⟨some 102,.len (.t 101),none⟩,⟨some 103,.mov (.c (.lit (.int .i64 0))),none⟩]) (
 .block 4 (
 .loop (L_ref04_Right_3 N)))) (K_ref04_Right_3 N)
def K_ref04_Right_1 (N : Nat -> Nat) : AC :=
 .seq (
 .seq (
 .ops [⟨some 76,.faddr 1 (.t 1),none⟩,⟨some 77,.load none (.t 76),none⟩,⟨some 78,.len (.t 77),none⟩,⟨some 79,.mov (.c (.lit (.int .i64 0))),none⟩]) (
 .block 2 (
 .loop (L_ref04_Right_2 N)))) (K_ref04_Right_2 N)
def C_ref04_Right (N : Nat -> Nat) : AFunc := ⟨154,[.inl 2],
 .seq (
 .ops [⟨some 1,.box (t_api_Tree N) (.t 0),none⟩,⟨some 2,.mov (.c (.lit (.bool false))),none⟩]) (
 .seq (
 .seq (
 .ops [⟨some 15,.faddr 0 (.t 1),none⟩,⟨some 16,.load none (.t 15),none⟩,⟨some 17,.len (.t 16),none⟩,⟨some 18,.eq false .pint (.t 17) (.c (.lit (.int .i64 0))),none⟩,⟨some 19,.mov (.t 18),none⟩,⟨some 20,.faddr 0 (.t 1),(some (19,false))⟩,⟨some 21,.load none (.t 20),(some (19,false))⟩,⟨some 22,.len (.t 21),(some (19,false))⟩,⟨some 23,.bin .gtr (.t 22) (.c (.lit (.int .i64 65536))),(some (19,false))⟩,⟨some 24,.pick (.t 19) (.c (.lit (.bool true))) (.t 23),none⟩,⟨some 25,.mov (.t 24),none⟩,⟨some 26,.faddr 1 (.t 1),(some (25,false))⟩,⟨some 27,.load none (.t 26),(some (25,false))⟩,⟨some 28,.len (.t 27),(some (25,false))⟩,⟨some 29,.bin .gtr (.t 28) (.c (.lit (.int .i64 65536))),(some (25,false))⟩,⟨some 30,.pick (.t 25) (.c (.lit (.bool true))) (.t 29),none⟩]) (
 .cond (.t 30) (
 .seq (
 .ops [⟨some 2,.mov (.c (.lit (.bool false))),none⟩]) (
 .ret)) (
 .skip))) (
 .seq (
 .ops [⟨some 31,.faddr 0 (.t 1),none⟩,⟨some 32,.load none (.t 31),none⟩,⟨some 33,.len (.t 32),none⟩,⟨some 34,.bin .sub (.t 33) (.c (.lit (.int .i64 1))),none⟩,⟨some 35,.bslice (t_int N) 1 none 1 [(.lit (.int .i64 0))] [(0,1,(.t 34))],none⟩,⟨some 36,.bslice (t_sl_int N) 1 none 1 [(.lit (.slice none 0 0))] [(0,1,(.t 35))],none⟩,⟨some 37,.bslice (t_sl_int N) 1 none 0 [(.lit (.slice none 0 0))] [],none⟩,⟨some 3,.mov (.t 36),none⟩,⟨some 4,.mov (.t 37),none⟩]) (
 .seq (
 .seq (
 .ops [⟨some 38,.faddr 0 (.t 1),none⟩,⟨some 39,.load none (.t 38),none⟩,⟨some 40,.len (.t 39),none⟩,⟨some 41,.mov (.c (.lit (.int .i64 0))),none⟩]) (
 .block 0 (
 .loop (L_ref04_Right_1 N)))) (K_ref04_Right_1 N)))),false⟩

def L_ref04_Walk_1 (N : Nat -> Nat) : AC :=
 .seq (
 .ops [⟨some 18,.bin .lss (.t 17) (.t 16),none⟩]) (
 .seq (
 .cond (.t 18) (
 .skip) (
 .exit 0)) (
 .seq (
 .block 1 (
 .seq (
 .ops [⟨some 19,.iaddr 1 (.t 15) (.t 17),none⟩,⟨some 20,.load none (.t 19),none⟩,⟨some 7,.mov (.t 20),none⟩]) (
 .ops [⟨some 21,.mov (.t 5),none⟩,⟨some 22,.load (some 3) (.t 2),none⟩,⟨some 23,.mov (.t 7),none⟩,⟨some 24,.call (.c (.fn (f_ref04_Walk N) [] [])) [(.t 22),(.t 23)],none⟩,⟨some 25,.append (t_int N) 1 8 (.t 21) (.t 24),none⟩,⟨some 5,.mov (.t 25),none⟩]))) (
 .ops [⟨some 26,.bin .add (.t 17) (.c (.lit (.int .i64 1))),none⟩,⟨some 17,.mov (.t 26),none⟩])))
def K_ref04_Walk_1 (N : Nat -> Nat) : AC :=
 .seq (
 .ops [⟨some 27,.mov (.t 5),none⟩,⟨some 4,.mov (.t 27),none⟩]) (
 .ret)
def C_ref04_Walk (N : Nat -> Nat) : AFunc := ⟨28,[.inl 4],
 .seq (
 .ops [⟨some 2,.box (t_api_Tree N) (.t 0),none⟩,⟨some 4,.mov (.c (.lit (.slice none 0 0))),none⟩]) (
 .seq (
 .ops [⟨some 8,.mov (.t 1),none⟩,⟨some 9,.bslice (t_int N) 1 none 1 [(.lit (.int .i64 0))] [(0,1,(.t 8))],none⟩,⟨some 5,.mov (.t 9),none⟩]) (
 .seq (
 .seq (
 .ops [⟨some 10,.faddr 0 (.t 2),none⟩,⟨some 11,.load none (.t 10),none⟩,⟨some 12,.mov (.t 1),none⟩,⟨some 13,.iaddr 8 (.t 11) (.t 12),none⟩,⟨some 14,.faddr 6 (.t 13),none⟩,⟨some 15,.load none (.t 14),none⟩,⟨some 16,.len (.t 15),none⟩,⟨some 17,.mov (.c (.lit (.int .i64 0))),none⟩]) (
 .block 0 (
 .loop (L_ref04_Walk_1 N)))) (K_ref04_Walk_1 N))),false⟩

def L_ref04_below_1 (N : Nat -> Nat) : AC :=
 .seq (
 .ops [⟨some 10,.bin .lss (.t 9) (.t 8),none⟩]) (
 .seq (
 .cond (.t 10) (
 .skip) (
 .exit 0)) (
 .seq (
 .block 1 (
 .seq (
 .ops [⟨some 11,.iaddr 1 (.t 7) (.t 9),none⟩,⟨some 12,.load none (.t 11),none⟩,⟨some 6,.mov (.t 12),none⟩]) (
 .seq (
 .ops [⟨some 13,.mov (.t 6),none⟩,⟨some 14,.bin .lss (.t 13) (.c (.lit (.int .i64 0))),none⟩,⟨some 15,.mov (.t 14),none⟩,⟨some 16,.mov (.t 6),(some (15,false))⟩,⟨some 17,.mov (.t 1),(some (15,false))⟩,⟨some 18,.bin .geq (.t 16) (.t 17),(some (15,false))⟩,⟨some 19,.pick (.t 15) (.c (.lit (.bool true))) (.t 18),none⟩]) (
 .cond (.t 19) (
 .seq (
 .ops [⟨some 4,.mov (.c (.lit (.bool false))),none⟩]) (
 .ret)) (
 .skip))))) (
 .ops [⟨some 20,.bin .add (.t 9) (.c (.lit (.int .i64 1))),none⟩,⟨some 9,.mov (.t 20),none⟩])))
def K_ref04_below_1 (N : Nat -> Nat) : AC :=
 .seq (
 .ops [⟨some 4,.mov (.c (.lit (.bool true))),none⟩]) (
 .ret)
def C_ref04_below (N : Nat -> Nat) : AFunc := ⟨21,[.inl 4],
 .seq (
 .ops [⟨some 4,.mov (.c (.lit (.bool false))),none⟩]) (
 .seq (
 .seq (
 .ops [⟨some 7,.mov (.t 0),none⟩,⟨some 8,.len (.t 7),none⟩,⟨some 9,.mov (.c (.lit (.int .i64 0))),none⟩]) (
 .block 0 (
 .loop (L_ref04_below_1 N)))) (K_ref04_below_1 N)),false⟩

def L_ref04_depthTerm_1 (N : Nat -> Nat) : AC :=
 .seq (
 .ops [⟨some 18,.bin .lss (.t 17) (.t 16),none⟩]) (
 .seq (
 .cond (.t 18) (
 .skip) (
 .exit 0)) (
 .seq (
 .block 1 (
 .seq (
 .ops [⟨some 19,.iaddr 1 (.t 15) (.t 17),none⟩,⟨some 20,.load none (.t 19),none⟩,⟨some 7,.mov (.t 20),none⟩]) (
 .ops [⟨some 21,.mov (.t 5),none⟩,⟨some 22,.load (some 3) (.t 2),none⟩,⟨some 23,.mov (.t 7),none⟩,⟨some 24,.call (.c (.fn (f_ref04_depthTerm N) [] [])) [(.t 22),(.t 23)],none⟩,⟨some 25,.mnmx true [(.t 21),(.t 24)],none⟩,⟨some 5,.mov (.t 25),none⟩]))) (
 .ops [⟨some 26,.bin .add (.t 17) (.c (.lit (.int .i64 1))),none⟩,⟨some 17,.mov (.t 26),none⟩])))
def L_ref04_depthTerm_2 (N : Nat -> Nat) : AC :=
 .seq (
 .ops [⟨some 35,.bin .lss (.t 34) (.t 33),none⟩]) (
 .seq (
 .cond (.t 35) (
 .skip) (
 .exit 2)) (
 .seq (
 .block 3 (
 .seq (
 .ops [⟨some 36,.iaddr 1 (.t 32) (.t 34),none⟩,⟨some 37,.load none (.t 36),none⟩,⟨some 9,.mov (.t 37),none⟩]) (
 .ops [⟨some 38,.mov (.t 5),none⟩,⟨some 39,.load (some 3) (.t 2),none⟩,⟨some 40,.mov (.t 9),none⟩,⟨some 41,.call (.c (.fn (f_ref04_depthType N) [] [])) [(.t 39),(.t 40)],none⟩,⟨some 42,.mnmx true [(.t 38),(.t 41)],none⟩,⟨some 5,.mov (.t 42),none⟩]))) (
 .ops [⟨some 43,.bin .add (.t 34) (.c (.lit (.int .i64 1))),none⟩,⟨some 34,.mov (.t 43),none⟩])))
def K_ref04_depthTerm_2 (N : Nat -> Nat) : AC :=
 .seq (
 .ops [⟨some 44,.mov (.t 5),none⟩,⟨some 45,.bin .add (.t 44) (.c (.lit (.int .i64 1))),none⟩,⟨some 4,.mov (.t 45),none⟩]) (
 .ret)
def K_ref04_depthTerm_1 (N : Nat -> Nat) : AC :=
 .seq (
 .seq (
 .ops [⟨some 27,.faddr 0 (.t 2),none⟩,⟨some 28,.load none (.t 27),none⟩,⟨some 29,.mov (.t 1),none⟩,⟨some 30,.iaddr 8 (.t 28) (.t 29),none⟩,⟨some 31,.faddr 7 (.t 30),none⟩,⟨some 32,.load none (.t 31),none⟩,⟨some 33,.len (.t 32),none⟩,⟨some 34,.mov (.c (.lit (.int .i64 0))),none⟩]) (
 .block 2 (
 .loop (L_ref04_depthTerm_2 N)))) (K_ref04_depthTerm_2 N)
def C_ref04_depthTerm (N : Nat -> Nat) : AFunc := ⟨46,[.inl 4],
 .seq (
 .ops [⟨some 2,.box (t_api_Tree N) (.t 0),none⟩,⟨some 4,.mov (.c (.lit (.int .i64 0))),none⟩]) (
 .seq (
 .ops [⟨some 5,.mov (.c (.lit (.int .i64 0))),none⟩]) (
 .seq (
 .seq (
 .ops [⟨some 10,.faddr 0 (.t 2),none⟩,⟨some 11,.load none (.t 10),none⟩,⟨some 12,.mov (.t 1),none⟩,⟨some 13,.iaddr 8 (.t 11) (.t 12),none⟩,⟨some 14,.faddr 6 (.t 13),none⟩,⟨some 15,.load none (.t 14),none⟩,⟨some 16,.len (.t 15),none⟩,⟨some 17,.mov (.c (.lit (.int .i64 0))),none⟩]) (
 .block 0 (
 .loop (L_ref04_depthTerm_1 N)))) (K_ref04_depthTerm_1 N))),false⟩

def L_ref04_depthType_1 (N : Nat -> Nat) : AC :=
 .seq (
 .ops [⟨some 16,.bin .lss (.t 15) (.t 14),none⟩]) (
 .seq (
 .cond (.t 16) (
 .skip) (
 .exit 0)) (
 .seq (
 .block 1 (
 .seq (
 .ops [⟨some 17,.iaddr 1 (.t 13) (.t 15),none⟩,⟨some 18,.load none (.t 17),none⟩,⟨some 7,.mov (.t 18),none⟩]) (
 .ops [⟨some 19,.mov (.t 5),none⟩,⟨some 20,.load (some 3) (.t 2),none⟩,⟨some 21,.mov (.t 7),none⟩,⟨some 22,.call (.c (.fn (f_ref04_depthType N) [] [])) [(.t 20),(.t 21)],none⟩,⟨some 23,.mnmx true [(.t 19),(.t 22)],none⟩,⟨some 5,.mov (.t 23),none⟩]))) (
 .ops [⟨some 24,.bin .add (.t 15) (.c (.lit (.int .i64 1))),none⟩,⟨some 15,.mov (.t 24),none⟩])))
def K_ref04_depthType_1 (N : Nat -> Nat) : AC :=
 .seq (
 .ops [⟨some 25,.mov (.t 5),none⟩,⟨some 26,.bin .add (.t 25) (.c (.lit (.int .i64 1))),none⟩,⟨some 4,.mov (.t 26),none⟩]) (
 .ret)
def C_ref04_depthType (N : Nat -> Nat) : AFunc := ⟨27,[.inl 4],
 .seq (
 .ops [⟨some 2,.box (t_api_Tree N) (.t 0),none⟩,⟨some 4,.mov (.c (.lit (.int .i64 0))),none⟩]) (
 .seq (
 .ops [⟨some 5,.mov (.c (.lit (.int .i64 0))),none⟩]) (
 .seq (
 .seq (
 .ops [⟨some 8,.faddr 1 (.t 2),none⟩,⟨some 9,.load none (.t 8),none⟩,⟨some 10,.mov (.t 1),none⟩,⟨some 11,.iaddr 6 (.t 9) (.t 10),none⟩,⟨some 12,.faddr 4 (.t 11),none⟩,⟨some 13,.load none (.t 12),none⟩,⟨some 14,.len (.t 13),none⟩,⟨some 15,.mov (.c (.lit (.int .i64 0))),none⟩]) (
 .block 0 (
 .loop (L_ref04_depthType_1 N)))) (K_ref04_depthType_1 N))),false⟩

def L_ref04_names_1 (N : Nat -> Nat) : AC :=
 .seq (
 .ops [⟨some 8,.bin .lss (.t 7) (.t 6),none⟩]) (
 .seq (
 .cond (.t 8) (
 .skip) (
 .exit 0)) (
 .seq (
 .block 1 (
 .seq (
 .ops [⟨some 9,.iaddr 1 (.t 5) (.t 7),none⟩,⟨some 10,.load none (.t 9),none⟩,⟨some 4,.mov (.t 10),none⟩]) (
 .seq (
 .ops [⟨some 11,.mov (.t 4),none⟩,⟨some 12,.call (.c (.fn (f_ref04_Name N) [] [])) [(.t 11)],none⟩,⟨some 13,.un .not (.t 12),none⟩]) (
 .cond (.t 13) (
 .seq (
 .ops [⟨some 2,.mov (.c (.lit (.bool false))),none⟩]) (
 .ret)) (
 .skip))))) (
 .ops [⟨some 14,.bin .add (.t 7) (.c (.lit (.int .i64 1))),none⟩,⟨some 7,.mov (.t 14),none⟩])))
def K_ref04_names_1 (N : Nat -> Nat) : AC :=
 .seq (
 .ops [⟨some 2,.mov (.c (.lit (.bool true))),none⟩]) (
 .ret)
def C_ref04_names (N : Nat -> Nat) : AFunc := ⟨15,[.inl 2],
 .seq (
 .ops [⟨some 2,.mov (.c (.lit (.bool false))),none⟩]) (
 .seq (
 .seq (
 .ops [⟨some 5,.mov (.t 0),none⟩,⟨some 6,.len (.t 5),none⟩,⟨some 7,.mov (.c (.lit (.int .i64 0))),none⟩]) (
 .block 0 (
 .loop (L_ref04_names_1 N)))) (K_ref04_names_1 N)),false⟩

def L_ref04_once_2 (N : Nat -> Nat) : AC :=
 .seq (
 .seq (
 .ops [⟨some 10,.mov (.t 4),none⟩,⟨some 11,.mov (.t 3),none⟩,⟨some 12,.bin .lss (.t 10) (.t 11),none⟩]) (
 .cond (.t 12) (
 .skip) (
 .exit 2))) (
 .seq (
 .block 3 (
 .seq (
 .dops 7 [⟨some 15,.mov (.t 0),none⟩,⟨some 16,.mov (.t 3),none⟩,⟨some 17,.iaddr 1 (.t 15) (.t 16),none⟩,⟨some 18,.load none (.t 17),none⟩,⟨some 19,.mov (.t 0),none⟩,⟨some 20,.mov (.t 4),none⟩,⟨some 21,.iaddr 1 (.t 19) (.t 20),none⟩,⟨some 22,.load none (.t 21),none⟩,⟨some 23,.eq false .pstr (.t 18) (.t 22),none⟩] [0,0,0,2,0,0,0,2,0] []) (
 .cond (.t 23) (
 .seq (
 .ops [⟨some 2,.mov (.c (.lit (.bool false))),none⟩]) (
 .ret)) (
 .skip)))) (
 .ops [⟨some 13,.mov (.t 4),none⟩,⟨some 14,.bin .add (.t 13) (.c (.lit (.int .i64 1))),none⟩,⟨some 4,.mov (.t 14),none⟩]))
def K_ref04_once_1 (N : Nat -> Nat) : AC :=
 .ops [⟨some 24,.bin .add (.t 7) (.c (.lit (.int .i64 1))),none⟩,⟨some 7,.mov (.t 24),none⟩]
def L_ref04_once_1 (N : Nat -> Nat) : AC :=
 .seq (
 .ops [⟨some 8,.bin .lss (.t 7) (.t 6),none⟩]) (
 .seq (
 .cond (.t 8) (
 .skip) (
 .exit 0)) (
 .seq (
 .block 1 (
 .seq (
 .ops [⟨some 9,.mov (.t 7),none⟩,⟨some 3,.mov (.t 9),none⟩]) (
 .seq (
 .ops [⟨some 4,.mov (.c (.lit (.int .i64 0))),none⟩]) (
 .block 2 (
 .loop (L_ref04_once_2 N)))))) (K_ref04_once_1 N)))
def K_ref04_once_2 (N : Nat -> Nat) : AC :=
 .seq (
 .ops [⟨some 2,.mov (.c (.lit (.bool true))),none⟩]) (
 .ret)
def C_ref04_once (N : Nat -> Nat) : AFunc := ⟨25,[.inl 2],
 .seq (
 .ops [⟨some 2,.mov (.c (.lit (.bool false))),none⟩]) (
 .seq (
 .seq (
 .ops [⟨some 5,.mov (.t 0),none⟩,⟨some 6,.len (.t 5),none⟩,⟨some 7,.mov (.c (.lit (.int .i64 0))),none⟩]) (
 .block 0 (
 .loop (L_ref04_once_1 N)))) (K_ref04_once_2 N)),false⟩

def C_ref04_op (N : Nat -> Nat) : AFunc := ⟨17,[.inl 2],
 .seq (
 .ops [⟨some 2,.mov (.c (.lit (.bool false))),none⟩]) (
 .seq (
 .seq (
 .ops [⟨some 3,.mov (.t 0),none⟩]) (
 .block 0 (
 .seq (
 .seq (
 .ops [⟨some 5,.eq false .pstr (.t 3) (.c (.lit (.string (mkS [43])))),none⟩,⟨some 4,.mov (.t 5),none⟩]) (
 .cond (.t 4) (
 .skip) (
 .seq (
 .ops [⟨some 6,.eq false .pstr (.t 3) (.c (.lit (.string (mkS [45])))),none⟩,⟨some 4,.mov (.t 6),none⟩]) (
 .cond (.t 4) (
 .skip) (
 .seq (
 .ops [⟨some 7,.eq false .pstr (.t 3) (.c (.lit (.string (mkS [42])))),none⟩,⟨some 4,.mov (.t 7),none⟩]) (
 .cond (.t 4) (
 .skip) (
 .seq (
 .ops [⟨some 8,.eq false .pstr (.t 3) (.c (.lit (.string (mkS [47])))),none⟩,⟨some 4,.mov (.t 8),none⟩]) (
 .cond (.t 4) (
 .skip) (
 .seq (
 .ops [⟨some 9,.eq false .pstr (.t 3) (.c (.lit (.string (mkS [43,46])))),none⟩,⟨some 4,.mov (.t 9),none⟩]) (
 .cond (.t 4) (
 .skip) (
 .seq (
 .ops [⟨some 10,.eq false .pstr (.t 3) (.c (.lit (.string (mkS [45,46])))),none⟩,⟨some 4,.mov (.t 10),none⟩]) (
 .cond (.t 4) (
 .skip) (
 .seq (
 .ops [⟨some 11,.eq false .pstr (.t 3) (.c (.lit (.string (mkS [42,46])))),none⟩,⟨some 4,.mov (.t 11),none⟩]) (
 .cond (.t 4) (
 .skip) (
 .seq (
 .ops [⟨some 12,.eq false .pstr (.t 3) (.c (.lit (.string (mkS [47,46])))),none⟩,⟨some 4,.mov (.t 12),none⟩]) (
 .cond (.t 4) (
 .skip) (
 .seq (
 .ops [⟨some 13,.eq false .pstr (.t 3) (.c (.lit (.string (mkS [60])))),none⟩,⟨some 4,.mov (.t 13),none⟩]) (
 .cond (.t 4) (
 .skip) (
 .seq (
 .ops [⟨some 14,.eq false .pstr (.t 3) (.c (.lit (.string (mkS [60,46])))),none⟩,⟨some 4,.mov (.t 14),none⟩]) (
 .cond (.t 4) (
 .skip) (
 .seq (
 .ops [⟨some 15,.eq false .pstr (.t 3) (.c (.lit (.string (mkS [61,61])))),none⟩,⟨some 4,.mov (.t 15),none⟩]) (
 .cond (.t 4) (
 .skip) (
 .ops [⟨some 16,.eq false .pstr (.t 3) (.c (.lit (.string (mkS [94])))),none⟩,⟨some 4,.mov (.t 16),none⟩]))))))))))))))))))))))) (
 .cond (.t 4) (
 .seq (
 .ops [⟨some 2,.mov (.c (.lit (.bool true))),none⟩]) (
 .ret)) (
 .skip))))) (
 .seq (
 .ops [⟨some 2,.mov (.c (.lit (.bool false))),none⟩]) (
 .ret))),false⟩

def L_ref04_term_1 (N : Nat -> Nat) : AC :=
 .seq (
 .ops [⟨some 135,.bin .lss (.t 134) (.t 133),none⟩]) (
 .seq (
 .cond (.t 135) (
 .skip) (
 .exit 1)) (
 .seq (
 .block 2 (
 .seq (
 .ops [⟨some 136,.mov (.t 134),none⟩,⟨some 14,.mov (.t 136),none⟩]) (
 .seq (
 .ops [⟨some 137,.mov (.t 14),none⟩,⟨some 138,.bin .rem (.t 137) (.c (.lit (.int .i64 2))),none⟩,⟨some 139,.eq false .pint (.t 138) (.c (.lit (.int .i64 0))),none⟩]) (
 .cond (.t 139) (
 .seq (
 .ops [⟨some 140,.mov (.t 13),none⟩,⟨some 141,.faddr 5 (.t 1),none⟩,⟨some 142,.load none (.t 141),none⟩,⟨some 143,.mov (.t 14),none⟩,⟨some 144,.iaddr 1 (.t 142) (.t 143),none⟩,⟨some 145,.load none (.t 144),none⟩,⟨some 146,.bslice (t_string N) 1 none 1 [(.lit (.string (mkS [])))] [(0,1,(.t 145))],none⟩,⟨some 147,.append (t_string N) 1 16 (.t 140) (.t 146),none⟩,⟨some 13,.mov (.t 147),none⟩]) (
 .seq (
 .ops [⟨some 148,.faddr 5 (.t 1),none⟩,⟨some 149,.load none (.t 148),none⟩,⟨some 150,.mov (.t 14),none⟩,⟨some 151,.iaddr 1 (.t 149) (.t 150),none⟩,⟨some 152,.load none (.t 151),none⟩,⟨some 153,.call (.c (.fn (f_ref04_Tag N) [] [])) [(.t 152)],none⟩,⟨some 154,.un .not (.t 153),none⟩]) (
 .cond (.t 154) (
 .seq (
 .ops [⟨some 2,.mov (.c (.lit (.bool false))),none⟩]) (
 .ret)) (
 .skip)))) (
 .seq (
 .ops [⟨some 155,.faddr 5 (.t 1),none⟩,⟨some 156,.load none (.t 155),none⟩,⟨some 157,.mov (.t 14),none⟩,⟨some 158,.iaddr 1 (.t 156) (.t 157),none⟩,⟨some 159,.load none (.t 158),none⟩,⟨some 160,.call (.c (.fn (f_ref04_Name N) [] [])) [(.t 159)],none⟩,⟨some 161,.un .not (.t 160),none⟩]) (
 .cond (.t 161) (
 .seq (
 .ops [⟨some 2,.mov (.c (.lit (.bool false))),none⟩]) (
 .ret)) (
 .skip))))))) (
 .ops [⟨some 162,.bin .add (.t 134) (.c (.lit (.int .i64 1))),none⟩,⟨some 134,.mov (.t 162),none⟩])))
def K_ref04_term_1 (N : Nat -> Nat) : AC :=
 .seq (
 .ops [⟨some 163,.faddr 6 (.t 1),none⟩,⟨some 164,.load none (.t 163),none⟩,⟨some 165,.len (.t 164),none⟩,⟨some 166,.mov (.t 13),none⟩,⟨some 167,.len (.t 166),none⟩,⟨some 168,.bin .sub (.t 165) (.t 167),none⟩,⟨some 15,.mov (.t 168),none⟩]) (
 .seq (
 .ops [⟨some 169,.faddr 2 (.t 1),none⟩,⟨some 170,.load none (.t 169),none⟩,⟨some 171,.eq false .pstr (.t 170) (.c (.lit (.string (mkS [])))),none⟩,⟨some 172,.mov (.t 171),none⟩,⟨some 173,.faddr 3 (.t 1),(some (172,true))⟩,⟨some 174,.load none (.t 173),(some (172,true))⟩,⟨some 175,.eq false .pint (.t 174) (.c (.lit (.int .i64 0))),(some (172,true))⟩,⟨some 176,.pick (.t 172) (.t 175) (.c (.lit (.bool false))),none⟩,⟨some 177,.mov (.t 176),none⟩,⟨some 178,.faddr 4 (.t 1),(some (177,true))⟩,⟨some 179,.load none (.t 178),(some (177,true))⟩,⟨some 180,.eq false .pint (.t 179) (.c (.lit (.int .u64 0))),(some (177,true))⟩,⟨some 181,.pick (.t 177) (.t 180) (.c (.lit (.bool false))),none⟩,⟨some 182,.mov (.t 181),none⟩,⟨some 183,.faddr 7 (.t 1),(some (182,true))⟩,⟨some 184,.load none (.t 183),(some (182,true))⟩,⟨some 185,.len (.t 184),(some (182,true))⟩,⟨some 186,.eq false .pint (.t 185) (.c (.lit (.int .i64 0))),(some (182,true))⟩,⟨some 187,.pick (.t 182) (.t 186) (.c (.lit (.bool false))),none⟩,⟨some 188,.mov (.t 187),none⟩,⟨some 189,.faddr 5 (.t 1),(some (188,true))⟩,⟨some 190,.load none (.t 189),(some (188,true))⟩,⟨some 191,.len (.t 190),(some (188,true))⟩,⟨some 192,.bin .rem (.t 191) (.c (.lit (.int .i64 2))),(some (188,true))⟩,⟨some 193,.eq false .pint (.t 192) (.c (.lit (.int .i64 0))),(some (188,true))⟩,⟨some 194,.pick (.t 188) (.t 193) (.c (.lit (.bool false))),none⟩,⟨some 195,.mov (.t 194),none⟩,⟨some 196,.mov (.t 15),(some (195,true))⟩,⟨some 197,.eq false .pint (.t 196) (.c (.lit (.int .i64 1))),(some (195,true))⟩,⟨some 198,.mov (.t 197),(some (195,true))⟩,⟨some 199,.mov (.t 15),(some (198,false))⟩,⟨some 200,.eq false .pint (.t 199) (.c (.lit (.int .i64 2))),(some (198,false))⟩,⟨some 201,.pick (.t 198) (.c (.lit (.bool true))) (.t 200),(some (195,true))⟩,⟨some 202,.pick (.t 195) (.t 201) (.c (.lit (.bool false))),none⟩,⟨some 203,.mov (.t 202),none⟩,⟨some 204,.mov (.t 13),(some (203,true))⟩,⟨some 205,.call (.c (.fn (f_ref04_once N) [] [])) [(.t 204)],(some (203,true))⟩,⟨some 206,.pick (.t 203) (.t 205) (.c (.lit (.bool false))),none⟩,⟨some 2,.mov (.t 206),none⟩]) (
 .ret))
def K_ref04_term_2 (N : Nat -> Nat) : AC :=
 .seq (
 .ops [⟨some 211,.faddr 0 (.t 1),none⟩,⟨some 212,.load none (.t 211),none⟩,⟨some 213,.eq true .pint (.t 212) (.c (.lit (.int .i64 1))),none⟩,⟨some 214,.mov (.t 213),none⟩,⟨some 215,.faddr 0 (.t 1),(some (214,true))⟩,⟨some 216,.load none (.t 215),(some (214,true))⟩,⟨some 217,.eq true .pint (.t 216) (.c (.lit (.int .i64 2))),(some (214,true))⟩,⟨some 218,.pick (.t 214) (.t 217) (.c (.lit (.bool false))),none⟩,⟨some 219,.mov (.t 218),none⟩,⟨some 220,.faddr 0 (.t 1),(some (219,true))⟩,⟨some 221,.load none (.t 220),(some (219,true))⟩,⟨some 222,.eq true .pint (.t 221) (.c (.lit (.int .i64 4))),(some (219,true))⟩,⟨some 223,.pick (.t 219) (.t 222) (.c (.lit (.bool false))),none⟩,⟨some 224,.mov (.t 223),none⟩,⟨some 225,.faddr 0 (.t 1),(some (224,true))⟩,⟨some 226,.load none (.t 225),(some (224,true))⟩,⟨some 227,.eq true .pint (.t 226) (.c (.lit (.int .i64 6))),(some (224,true))⟩,⟨some 228,.pick (.t 224) (.t 227) (.c (.lit (.bool false))),none⟩,⟨some 229,.mov (.t 228),none⟩,⟨some 230,.faddr 0 (.t 1),(some (229,true))⟩,⟨some 231,.load none (.t 230),(some (229,true))⟩,⟨some 232,.eq true .pint (.t 231) (.c (.lit (.int .i64 9))),(some (229,true))⟩,⟨some 233,.pick (.t 229) (.t 232) (.c (.lit (.bool false))),none⟩,⟨some 234,.mov (.t 233),none⟩,⟨some 235,.faddr 0 (.t 1),(some (234,true))⟩,⟨some 236,.load none (.t 235),(some (234,true))⟩,⟨some 237,.eq true .pint (.t 236) (.c (.lit (.int .i64 15))),(some (234,true))⟩,⟨some 238,.pick (.t 234) (.t 237) (.c (.lit (.bool false))),none⟩,⟨some 239,.mov (.t 238),none⟩,⟨some 240,.faddr 0 (.t 1),(some (239,true))⟩,⟨some 241,.load none (.t 240),(some (239,true))⟩,⟨some 242,.eq true .pint (.t 241) (.c (.lit (.int .i64 16))),(some (239,true))⟩,⟨some 243,.pick (.t 239) (.t 242) (.c (.lit (.bool false))),none⟩,⟨some 16,.mov (.t 243),none⟩]) (
 .seq (
 .seq (
 .ops [⟨some 244,.mov (.t 16),none⟩,⟨some 245,.mov (.t 244),none⟩,⟨some 246,.mov (.t 3),(some (245,true))⟩,⟨some 247,.un .not (.t 246),(some (245,true))⟩,⟨some 248,.pick (.t 245) (.t 247) (.c (.lit (.bool false))),none⟩,⟨some 249,.mov (.t 248),none⟩,⟨some 250,.mov (.t 16),(some (249,false))⟩,⟨some 251,.un .not (.t 250),(some (249,false))⟩,⟨some 252,.mov (.t 251),(some (249,false))⟩,⟨some 253,.faddr 2 (.t 1),(some (252,true))⟩,⟨some 254,.load none (.t 253),(some (252,true))⟩,⟨some 255,.eq true .pstr (.t 254) (.c (.lit (.string (mkS [])))),(some (252,true))⟩,⟨some 256,.pick (.t 252) (.t 255) (.c (.lit (.bool false))),(some (249,false))⟩,⟨some 257,.pick (.t 249) (.c (.lit (.bool true))) (.t 256),none⟩]) (
 .cond (.t 257) (
 .seq (
 .ops [⟨some 2,.mov (.c (.lit (.bool false))),none⟩]) (
 .ret)) (
 .skip))) (
 .seq (
 .seq (
 .ops [⟨some 258,.faddr 0 (.t 1),none⟩,⟨some 259,.load none (.t 258),none⟩,⟨some 260,.eq false .pint (.t 259) (.c (.lit (.int .i64 1))),none⟩,⟨some 261,.mov (.t 260),none⟩,⟨some 262,.faddr 0 (.t 1),(some (261,false))⟩,⟨some 263,.load none (.t 262),(some (261,false))⟩,⟨some 264,.eq false .pint (.t 263) (.c (.lit (.int .i64 2))),(some (261,false))⟩,⟨some 265,.pick (.t 261) (.c (.lit (.bool true))) (.t 264),none⟩,⟨some 266,.mov (.t 4),none⟩,⟨some 267,.eq true .pbool (.t 265) (.t 266),none⟩,⟨some 268,.mov (.t 267),none⟩,⟨some 269,.mov (.t 4),(some (268,false))⟩,⟨some 270,.un .not (.t 269),(some (268,false))⟩,⟨some 271,.mov (.t 270),(some (268,false))⟩,⟨some 272,.faddr 3 (.t 1),(some (271,true))⟩,⟨some 273,.load none (.t 272),(some (271,true))⟩,⟨some 274,.eq true .pint (.t 273) (.c (.lit (.int .i64 0))),(some (271,true))⟩,⟨some 275,.pick (.t 271) (.t 274) (.c (.lit (.bool false))),(some (268,false))⟩,⟨some 276,.pick (.t 268) (.c (.lit (.bool true))) (.t 275),none⟩,⟨some 277,.mov (.t 276),none⟩,⟨some 278,.faddr 0 (.t 1),(some (277,false))⟩,⟨some 279,.load none (.t 278),(some (277,false))⟩,⟨some 280,.eq false .pint (.t 279) (.c (.lit (.int .i64 4))),(some (277,false))⟩,⟨some 281,.mov (.t 5),(some (277,false))⟩,⟨some 282,.eq true .pbool (.t 280) (.t 281),(some (277,false))⟩,⟨some 283,.pick (.t 277) (.c (.lit (.bool true))) (.t 282),none⟩,⟨some 284,.mov (.t 283),none⟩,⟨some 285,.faddr 0 (.t 1),(some (284,false))⟩,⟨some 286,.load none (.t 285),(some (284,false))⟩,⟨some 287,.eq true .pint (.t 286) (.c (.lit (.int .i64 4))),(some (284,false))⟩,⟨some 288,.mov (.t 287),(some (284,false))⟩,⟨some 289,.faddr 4 (.t 1),(some (288,true))⟩,⟨some 290,.load none (.t 289),(some (288,true))⟩,⟨some 291,.eq true .pint (.t 290) (.c (.lit (.int .u64 0))),(some (288,true))⟩,⟨some 292,.pick (.t 288) (.t 291) (.c (.lit (.bool false))),(some (284,false))⟩,⟨some 293,.pick (.t 284) (.c (.lit (.bool true))) (.t 292),none⟩]) (
 .cond (.t 293) (
 .seq (
 .ops [⟨some 2,.mov (.c (.lit (.bool false))),none⟩]) (
 .ret)) (
 .skip))) (
 .seq (
 .ops [⟨some 294,.faddr 5 (.t 1),none⟩,⟨some 295,.load none (.t 294),none⟩,⟨some 296,.len (.t 295),none⟩,⟨some 297,.eq false .pint (.t 296) (.c (.lit (.int .i64 0))),none⟩,⟨some 298,.mov (.t 297),none⟩,⟨some 299,.faddr 6 (.t 1),(some (298,true))⟩,⟨some 300,.load none (.t 299),(some (298,true))⟩,⟨some 301,.len (.t 300),(some (298,true))⟩,⟨some 302,.mov (.t 6),(some (298,true))⟩,⟨some 303,.eq false .pint (.t 301) (.t 302),(some (298,true))⟩,⟨some 304,.pick (.t 298) (.t 303) (.c (.lit (.bool false))),none⟩,⟨some 305,.mov (.t 304),none⟩,⟨some 306,.faddr 7 (.t 1),(some (305,true))⟩,⟨some 307,.load none (.t 306),(some (305,true))⟩,⟨some 308,.len (.t 307),(some (305,true))⟩,⟨some 309,.mov (.t 7),(some (305,true))⟩,⟨some 310,.eq false .pint (.t 308) (.t 309),(some (305,true))⟩,⟨some 311,.pick (.t 305) (.t 310) (.c (.lit (.bool false))),none⟩,⟨some 2,.mov (.t 311),none⟩]) (
 .ret))))
def C_ref04_term (N : Nat -> Nat) : AFunc := ⟨312,[.inl 2],
 .seq (
 .ops [⟨some 1,.box (t_api_Node N) (.t 0),none⟩,⟨some 2,.mov (.c (.lit (.bool false))),none⟩]) (
 .seq (
 .ops [⟨some 3,.mov (.c (.lit (.bool false))),none⟩,⟨some 4,.mov (.c (.lit (.bool false))),none⟩,⟨some 5,.mov (.c (.lit (.bool false))),none⟩]) (
 .seq (
 .ops [⟨some 6,.mov (.c (.lit (.int .i64 0))),none⟩,⟨some 7,.mov (.c (.lit (.int .i64 0))),none⟩]) (
 .seq (
 .seq (
 .ops [⟨some 17,.faddr 0 (.t 1),none⟩,⟨some 18,.load none (.t 17),none⟩]) (
 .block 0 (
 .seq (
 .ops [⟨some 20,.eq false .pint (.t 18) (.c (.lit (.int .i64 0))),none⟩,⟨some 19,.mov (.t 20),none⟩]) (
 .cond (.t 19) (
 .ops [⟨some 21,.faddr 2 (.t 1),none⟩,⟨some 22,.load none (.t 21),none⟩,⟨some 23,.call (.c (.fn (f_ref04_Name N) [] [])) [(.t 22)],none⟩,⟨some 3,.mov (.t 23),none⟩]) (
 .seq (
 .ops [⟨some 25,.eq false .pint (.t 18) (.c (.lit (.int .i64 1))),none⟩,⟨some 24,.mov (.t 25),none⟩]) (
 .cond (.t 24) (
 .ops [⟨some 26,.faddr 3 (.t 1),none⟩,⟨some 27,.load none (.t 26),none⟩,⟨some 28,.bin .geq (.t 27) (.c (.lit (.int .i64 0))),none⟩,⟨some 4,.mov (.t 28),none⟩]) (
 .seq (
 .ops [⟨some 30,.eq false .pint (.t 18) (.c (.lit (.int .i64 2))),none⟩,⟨some 29,.mov (.t 30),none⟩]) (
 .cond (.t 29) (
 .ops [⟨some 31,.faddr 3 (.t 1),none⟩,⟨some 32,.load none (.t 31),none⟩,⟨some 33,.eq false .pint (.t 32) (.c (.lit (.int .i64 0))),none⟩,⟨some 34,.mov (.t 33),none⟩,⟨some 35,.faddr 3 (.t 1),(some (34,false))⟩,⟨some 36,.load none (.t 35),(some (34,false))⟩,⟨some 37,.eq false .pint (.t 36) (.c (.lit (.int .i64 1))),(some (34,false))⟩,⟨some 38,.pick (.t 34) (.c (.lit (.bool true))) (.t 37),none⟩,⟨some 4,.mov (.t 38),none⟩]) (
 .seq (
 .ops [⟨some 40,.eq false .pint (.t 18) (.c (.lit (.int .i64 3))),none⟩,⟨some 39,.mov (.t 40),none⟩]) (
 .cond (.t 39) (
 .ops [⟨some 41,.faddr 2 (.t 1),none⟩,⟨some 42,.load none (.t 41),none⟩,⟨some 43,.call (.c (.fn (f_ref04_text N) [] [])) [(.t 42)],none⟩,⟨some 3,.mov (.t 43),none⟩]) (
 .seq (
 .ops [⟨some 45,.eq false .pint (.t 18) (.c (.lit (.int .i64 4))),none⟩,⟨some 44,.mov (.t 45),none⟩]) (
 .cond (.t 44) (
 .seq (
 .ops [⟨some 47,.faddr 4 (.t 1),none⟩,⟨some 48,.load none (.t 47),none⟩,⟨some 49,.call (.c (.fn (f_ref02_Parts N) [] [])) [(.t 48)],none⟩,⟨some 46,.mov (.t 49),none⟩,⟨some 50,.extract (.t 46) 0,none⟩,⟨some 51,.extract (.t 46) 1,none⟩,⟨some 52,.extract (.t 46) 2,none⟩,⟨some 53,.extract (.t 46) 3,none⟩,⟨some 54,.extract (.t 46) 4,none⟩,⟨some 8,.mov (.t 50),none⟩,⟨some 9,.mov (.t 51),none⟩,⟨some 10,.mov (.t 52),none⟩,⟨some 11,.mov (.t 53),none⟩,⟨some 12,.mov (.t 54),none⟩]) (
 .ops [⟨some 55,.mov (.t 12),none⟩,⟨some 56,.un .not (.t 55),none⟩,⟨some 57,.mov (.t 56),none⟩,⟨some 58,.faddr 4 (.t 1),(some (57,false))⟩,⟨some 59,.load none (.t 58),(some (57,false))⟩,⟨some 60,.eq false .pint (.t 59) (.c (.lit (.int .u64 9221120237041090561))),(some (57,false))⟩,⟨some 61,.pick (.t 57) (.c (.lit (.bool true))) (.t 60),none⟩,⟨some 5,.mov (.t 61),none⟩])) (
 .seq (
 .seq (
 .ops [⟨some 63,.eq false .pint (.t 18) (.c (.lit (.int .i64 5))),none⟩,⟨some 62,.mov (.t 63),none⟩]) (
 .cond (.t 62) (
 .skip) (
 .ops [⟨some 64,.eq false .pint (.t 18) (.c (.lit (.int .i64 13))),none⟩,⟨some 62,.mov (.t 64),none⟩]))) (
 .cond (.t 62) (
 .ops [⟨some 65,.faddr 2 (.t 1),none⟩,⟨some 66,.load none (.t 65),none⟩,⟨some 67,.call (.c (.fn (f_ref04_Name N) [] [])) [(.t 66)],none⟩,⟨some 3,.mov (.t 67),none⟩,⟨some 6,.mov (.c (.lit (.int .i64 1))),none⟩]) (
 .seq (
 .ops [⟨some 69,.eq false .pint (.t 18) (.c (.lit (.int .i64 11))),none⟩,⟨some 68,.mov (.t 69),none⟩]) (
 .cond (.t 68) (
 .ops [⟨some 70,.faddr 2 (.t 1),none⟩,⟨some 71,.load none (.t 70),none⟩,⟨some 72,.call (.c (.fn (f_ref04_Tag N) [] [])) [(.t 71)],none⟩,⟨some 3,.mov (.t 72),none⟩,⟨some 6,.mov (.c (.lit (.int .i64 1))),none⟩]) (
 .seq (
 .ops [⟨some 74,.eq false .pint (.t 18) (.c (.lit (.int .i64 6))),none⟩,⟨some 73,.mov (.t 74),none⟩]) (
 .cond (.t 73) (
 .ops [⟨some 6,.mov (.c (.lit (.int .i64 2))),none⟩]) (
 .seq (
 .seq (
 .ops [⟨some 76,.eq false .pint (.t 18) (.c (.lit (.int .i64 7))),none⟩,⟨some 75,.mov (.t 76),none⟩]) (
 .cond (.t 75) (
 .skip) (
 .ops [⟨some 77,.eq false .pint (.t 18) (.c (.lit (.int .i64 8))),none⟩,⟨some 75,.mov (.t 77),none⟩]))) (
 .cond (.t 75) (
 .ops [⟨some 78,.faddr 2 (.t 1),none⟩,⟨some 79,.load none (.t 78),none⟩,⟨some 80,.call (.c (.fn (f_ref04_Name N) [] [])) [(.t 79)],none⟩,⟨some 3,.mov (.t 80),none⟩,⟨some 6,.mov (.c (.lit (.int .i64 2))),none⟩]) (
 .seq (
 .ops [⟨some 82,.eq false .pint (.t 18) (.c (.lit (.int .i64 14))),none⟩,⟨some 81,.mov (.t 82),none⟩]) (
 .cond (.t 81) (
 .ops [⟨some 83,.faddr 2 (.t 1),none⟩,⟨some 84,.load none (.t 83),none⟩,⟨some 85,.call (.c (.fn (f_ref04_op N) [] [])) [(.t 84)],none⟩,⟨some 3,.mov (.t 85),none⟩,⟨some 6,.mov (.c (.lit (.int .i64 2))),none⟩]) (
 .seq (
 .ops [⟨some 87,.eq false .pint (.t 18) (.c (.lit (.int .i64 9))),none⟩,⟨some 86,.mov (.t 87),none⟩]) (
 .cond (.t 86) (
 .ops [⟨some 6,.mov (.c (.lit (.int .i64 3))),none⟩]) (
 .seq (
 .ops [⟨some 89,.eq false .pint (.t 18) (.c (.lit (.int .i64 12))),none⟩,⟨some 88,.mov (.t 89),none⟩]) (
 .cond (.t 88) (
 .seq (
 .ops [⟨some 90,.faddr 2 (.t 1),none⟩,⟨some 91,.load none (.t 90),none⟩,⟨some 92,.eq false .pstr (.t 91) (.c (.lit (.string (mkS [])))),none⟩,⟨some 93,.mov (.t 92),none⟩,⟨some 94,.faddr 3 (.t 1),(some (93,true))⟩,⟨some 95,.load none (.t 94),(some (93,true))⟩,⟨some 96,.eq false .pint (.t 95) (.c (.lit (.int .i64 0))),(some (93,true))⟩,⟨some 97,.pick (.t 93) (.t 96) (.c (.lit (.bool false))),none⟩,⟨some 98,.mov (.t 97),none⟩,⟨some 99,.faddr 4 (.t 1),(some (98,true))⟩,⟨some 100,.load none (.t 99),(some (98,true))⟩,⟨some 101,.eq false .pint (.t 100) (.c (.lit (.int .u64 0))),(some (98,true))⟩,⟨some 102,.pick (.t 98) (.t 101) (.c (.lit (.bool false))),none⟩,⟨some 103,.mov (.t 102),none⟩,⟨some 104,.faddr 7 (.t 1),(some (103,true))⟩,⟨some 105,.load none (.t 104),(some (103,true))⟩,⟨some 106,.len (.t 105),(some (103,true))⟩,⟨some 107,.eq false .pint (.t 106) (.c (.lit (.int .i64 0))),(some (103,true))⟩,⟨some 108,.pick (.t 103) (.t 107) (.c (.lit (.bool false))),none⟩,⟨some 109,.mov (.t 108),none⟩,⟨some 110,.faddr 5 (.t 1),(some (109,true))⟩,⟨some 111,.load none (.t 110),(some (109,true))⟩,⟨some 112,.len (.t 111),(some (109,true))⟩,⟨some 113,.faddr 6 (.t 1),(some (109,true))⟩,⟨some 114,.load none (.t 113),(some (109,true))⟩,⟨some 115,.len (.t 114),(some (109,true))⟩,⟨some 116,.eq false .pint (.t 112) (.t 115),(some (109,true))⟩,⟨some 117,.pick (.t 109) (.t 116) (.c (.lit (.bool false))),none⟩,⟨some 118,.mov (.t 117),none⟩,⟨some 119,.faddr 5 (.t 1),(some (118,true))⟩,⟨some 120,.load none (.t 119),(some (118,true))⟩,⟨some 121,.call (.c (.fn (f_ref04_names N) [] [])) [(.t 120)],(some (118,true))⟩,⟨some 122,.pick (.t 118) (.t 121) (.c (.lit (.bool false))),none⟩,⟨some 123,.mov (.t 122),none⟩,⟨some 124,.faddr 5 (.t 1),(some (123,true))⟩,⟨some 125,.load none (.t 124),(some (123,true))⟩,⟨some 126,.call (.c (.fn (f_ref04_once N) [] [])) [(.t 125)],(some (123,true))⟩,⟨some 127,.pick (.t 123) (.t 126) (.c (.lit (.bool false))),none⟩,⟨some 2,.mov (.t 127),none⟩]) (
 .ret)) (
 .seq (
 .ops [⟨some 129,.eq false .pint (.t 18) (.c (.lit (.int .i64 10))),none⟩,⟨some 128,.mov (.t 129),none⟩]) (
 .cond (.t 128) (
 .seq (
 .ops [⟨some 130,.bslice (t_string N) 1 none 0 [(.lit (.string (mkS [])))] [],none⟩,⟨some 13,.mov (.t 130),none⟩]) (
 .seq (
 .seq (
 .ops [⟨some 131,.faddr 5 (.t 1),none⟩,⟨some 132,.load none (.t 131),none⟩,⟨some 133,.len (.t 132),none⟩,⟨some 134,.mov (.c (.lit (.int .i64 0))),none⟩]) (
 .block 1 (
 .loop (L_ref04_term_1 N)))) (K_ref04_term_1 N))) (
 .seq (
 .ops [⟨some 208,.eq false .pint (.t 18) (.c (.lit (.int .i64 15))),none⟩,⟨some 207,.mov (.t 208),none⟩]) (
 .cond (.t 207) (
 .ops [⟨some 6,.mov (.c (.lit (.int .i64 1))),none⟩,⟨some 7,.mov (.c (.lit (.int .i64 1))),none⟩]) (
 .seq (
 .ops [⟨some 210,.eq false .pint (.t 18) (.c (.lit (.int .i64 16))),none⟩,⟨some 209,.mov (.t 210),none⟩]) (
 .cond (.t 209) (
 .ops [⟨some 6,.mov (.c (.lit (.int .i64 1))),none⟩,⟨some 7,.mov (.c (.lit (.int .i64 2))),none⟩]) (
 .seq (
 .ops [⟨some 2,.mov (.c (.lit (.bool false))),none⟩]) (
 .ret)))))))))))))))))))))))))))))))))) (K_ref04_term_2 N)))),false⟩

def L_ref04_text_1 (N : Nat -> Nat) : AC :=
 .seq (
 .seq (
 .ops [⟨some 18,.mov (.t 6),none⟩,⟨some 19,.mov (.t 0),none⟩,⟨some 20,.lens (.t 19),none⟩,⟨some 21,.bin .lss (.t 18) (.t 20),none⟩]) (
 .cond (.t 21) (
 .skip) (
 .exit 0))) (
 .seq (
 .block 1 (
 .seq (
 .ops [⟨some 24,.mov (.t 0),none⟩,⟨some 25,.mov (.t 6),none⟩,⟨some 26,.sidx (.t 24) (.t 25),none⟩,⟨some 27,.bin .lss (.t 26) (.c (.lit (.int .u8 32))),none⟩,⟨some 28,.mov (.t 27),none⟩,⟨some 29,.mov (.t 0),(some (28,true))⟩,⟨some 30,.mov (.t 6),(some (28,true))⟩,⟨some 31,.sidx (.t 29) (.t 30),(some (28,true))⟩,⟨some 32,.eq true .pint (.t 31) (.c (.lit (.int .u8 10))),(some (28,true))⟩,⟨some 33,.pick (.t 28) (.t 32) (.c (.lit (.bool false))),none⟩]) (
 .cond (.t 33) (
 .seq (
 .ops [⟨some 2,.mov (.c (.lit (.bool false))),none⟩]) (
 .ret)) (
 .skip)))) (
 .ops [⟨some 22,.mov (.t 6),none⟩,⟨some 23,.bin .add (.t 22) (.c (.lit (.int .i64 1))),none⟩,⟨some 6,.mov (.t 23),none⟩]))
def K_ref04_text_1 (N : Nat -> Nat) : AC :=
 .seq (
 .ops [⟨some 2,.mov (.c (.lit (.bool true))),none⟩]) (
 .ret)
def C_ref04_text (N : Nat -> Nat) : AFunc := ⟨34,[.inl 2],
 .seq (
 .ops [⟨some 2,.mov (.c (.lit (.bool false))),none⟩]) (
 .seq (
 .ops [⟨some 8,.mov (.t 0),none⟩,⟨some 9,.conv (.bytes (t_uint8 N)) (.t 8),none⟩,⟨some 10,.call (.c (.fn (f_ref01_Signs N) [] [])) [(.t 9)],none⟩,⟨some 7,.mov (.t 10),none⟩,⟨some 11,.extract (.t 7) 0,none⟩,⟨some 12,.extract (.t 7) 1,none⟩,⟨some 13,.extract (.t 7) 2,none⟩,⟨some 3,.mov (.t 11),none⟩,⟨some 4,.mov (.t 12),none⟩,⟨some 5,.mov (.t 13),none⟩]) (
 .seq (
 .seq (
 .ops [⟨some 14,.mov (.t 5),none⟩,⟨some 15,.mov (.t 0),none⟩,⟨some 16,.lens (.t 15),none⟩,⟨some 17,.bin .lss (.t 14) (.t 16),none⟩]) (
 .cond (.t 17) (
 .seq (
 .ops [⟨some 2,.mov (.c (.lit (.bool false))),none⟩]) (
 .ret)) (
 .skip))) (
 .seq (
 .seq (
 .ops [⟨some 6,.mov (.c (.lit (.int .i64 0))),none⟩]) (
 .block 0 (
 .loop (L_ref04_text_1 N)))) (K_ref04_text_1 N)))),false⟩

def L_ref04_typ_1 (N : Nat -> Nat) : AC :=
 .seq (
 .ops [⟨some 92,.bin .lss (.t 91) (.t 90),none⟩]) (
 .seq (
 .cond (.t 92) (
 .skip) (
 .exit 1)) (
 .seq (
 .block 2 (
 .seq (
 .ops [⟨some 93,.iaddr 1 (.t 89) (.t 91),none⟩,⟨some 94,.load none (.t 93),none⟩,⟨some 4,.mov (.t 94),none⟩]) (
 .seq (
 .ops [⟨some 95,.mov (.t 4),none⟩,⟨some 96,.call (.c (.fn (f_ref04_Tag N) [] [])) [(.t 95)],none⟩,⟨some 97,.un .not (.t 96),none⟩]) (
 .cond (.t 97) (
 .seq (
 .ops [⟨some 2,.mov (.c (.lit (.bool false))),none⟩]) (
 .ret)) (
 .skip))))) (
 .ops [⟨some 98,.bin .add (.t 91) (.c (.lit (.int .i64 1))),none⟩,⟨some 91,.mov (.t 98),none⟩])))
def K_ref04_typ_1 (N : Nat -> Nat) : AC :=
 .seq (
 .ops [⟨some 99,.faddr 2 (.t 1),none⟩,⟨some 100,.load none (.t 99),none⟩,⟨some 101,.eq false .pstr (.t 100) (.c (.lit (.string (mkS [])))),none⟩,⟨some 102,.mov (.t 101),none⟩,⟨some 103,.faddr 3 (.t 1),(some (102,true))⟩,⟨some 104,.load none (.t 103),(some (102,true))⟩,⟨some 105,.call (.c (.fn (f_ref04_once N) [] [])) [(.t 104)],(some (102,true))⟩,⟨some 106,.pick (.t 102) (.t 105) (.c (.lit (.bool false))),none⟩,⟨some 107,.mov (.t 106),none⟩,⟨some 108,.faddr 4 (.t 1),(some (107,true))⟩,⟨some 109,.load none (.t 108),(some (107,true))⟩,⟨some 110,.len (.t 109),(some (107,true))⟩,⟨some 111,.faddr 3 (.t 1),(some (107,true))⟩,⟨some 112,.load none (.t 111),(some (107,true))⟩,⟨some 113,.len (.t 112),(some (107,true))⟩,⟨some 114,.eq false .pint (.t 110) (.t 113),(some (107,true))⟩,⟨some 115,.pick (.t 107) (.t 114) (.c (.lit (.bool false))),none⟩,⟨some 2,.mov (.t 115),none⟩]) (
 .ret)
def K_ref04_typ_2 (N : Nat -> Nat) : AC :=
 .seq (
 .ops [⟨some 2,.mov (.c (.lit (.bool false))),none⟩]) (
 .ret)
def C_ref04_typ (N : Nat -> Nat) : AFunc := ⟨138,[.inl 2],
 .seq (
 .ops [⟨some 1,.box (t_api_TypeNode N) (.t 0),none⟩,⟨some 2,.mov (.c (.lit (.bool false))),none⟩]) (
 .seq (
 .seq (
 .ops [⟨some 5,.faddr 0 (.t 1),none⟩,⟨some 6,.load none (.t 5),none⟩]) (
 .block 0 (
 .seq (
 .seq (
 .ops [⟨some 8,.eq false .pint (.t 6) (.c (.lit (.int .i64 0))),none⟩,⟨some 7,.mov (.t 8),none⟩]) (
 .cond (.t 7) (
 .skip) (
 .seq (
 .ops [⟨some 9,.eq false .pint (.t 6) (.c (.lit (.int .i64 1))),none⟩,⟨some 7,.mov (.t 9),none⟩]) (
 .cond (.t 7) (
 .skip) (
 .seq (
 .ops [⟨some 10,.eq false .pint (.t 6) (.c (.lit (.int .i64 2))),none⟩,⟨some 7,.mov (.t 10),none⟩]) (
 .cond (.t 7) (
 .skip) (
 .seq (
 .ops [⟨some 11,.eq false .pint (.t 6) (.c (.lit (.int .i64 3))),none⟩,⟨some 7,.mov (.t 11),none⟩]) (
 .cond (.t 7) (
 .skip) (
 .seq (
 .ops [⟨some 12,.eq false .pint (.t 6) (.c (.lit (.int .i64 4))),none⟩,⟨some 7,.mov (.t 12),none⟩]) (
 .cond (.t 7) (
 .skip) (
 .seq (
 .ops [⟨some 13,.eq false .pint (.t 6) (.c (.lit (.int .i64 5))),none⟩,⟨some 7,.mov (.t 13),none⟩]) (
 .cond (.t 7) (
 .skip) (
 .ops [⟨some 14,.eq false .pint (.t 6) (.c (.lit (.int .i64 6))),none⟩,⟨some 7,.mov (.t 14),none⟩]))))))))))))) (
 .cond (.t 7) (
 .seq (
 .ops [⟨some 15,.faddr 2 (.t 1),none⟩,⟨some 16,.load none (.t 15),none⟩,⟨some 17,.eq false .pstr (.t 16) (.c (.lit (.string (mkS [])))),none⟩,⟨some 18,.mov (.t 17),none⟩,⟨some 19,.faddr 5 (.t 1),(some (18,true))⟩,⟨some 20,.load none (.t 19),(some (18,true))⟩,⟨some 21,.un .not (.t 20),(some (18,true))⟩,⟨some 22,.pick (.t 18) (.t 21) (.c (.lit (.bool false))),none⟩,⟨some 23,.mov (.t 22),none⟩,⟨some 24,.faddr 3 (.t 1),(some (23,true))⟩,⟨some 25,.load none (.t 24),(some (23,true))⟩,⟨some 26,.len (.t 25),(some (23,true))⟩,⟨some 27,.eq false .pint (.t 26) (.c (.lit (.int .i64 0))),(some (23,true))⟩,⟨some 28,.pick (.t 23) (.t 27) (.c (.lit (.bool false))),none⟩,⟨some 29,.mov (.t 28),none⟩,⟨some 30,.faddr 4 (.t 1),(some (29,true))⟩,⟨some 31,.load none (.t 30),(some (29,true))⟩,⟨some 32,.len (.t 31),(some (29,true))⟩,⟨some 33,.eq false .pint (.t 32) (.c (.lit (.int .i64 0))),(some (29,true))⟩,⟨some 34,.pick (.t 29) (.t 33) (.c (.lit (.bool false))),none⟩,⟨some 2,.mov (.t 34),none⟩]) (
 .ret)) (
 .seq (
 .ops [⟨some 36,.eq false .pint (.t 6) (.c (.lit (.int .i64 7))),none⟩,⟨some 35,.mov (.t 36),none⟩]) (
 .cond (.t 35) (
 .seq (
 .ops [⟨some 37,.faddr 2 (.t 1),none⟩,⟨some 38,.load none (.t 37),none⟩,⟨some 39,.eq false .pstr (.t 38) (.c (.lit (.string (mkS [])))),none⟩,⟨some 40,.mov (.t 39),none⟩,⟨some 41,.faddr 5 (.t 1),(some (40,true))⟩,⟨some 42,.load none (.t 41),(some (40,true))⟩,⟨some 43,.un .not (.t 42),(some (40,true))⟩,⟨some 44,.pick (.t 40) (.t 43) (.c (.lit (.bool false))),none⟩,⟨some 45,.mov (.t 44),none⟩,⟨some 46,.faddr 3 (.t 1),(some (45,true))⟩,⟨some 47,.load none (.t 46),(some (45,true))⟩,⟨some 48,.len (.t 47),(some (45,true))⟩,⟨some 49,.eq false .pint (.t 48) (.c (.lit (.int .i64 0))),(some (45,true))⟩,⟨some 50,.pick (.t 45) (.t 49) (.c (.lit (.bool false))),none⟩,⟨some 51,.mov (.t 50),none⟩,⟨some 52,.faddr 4 (.t 1),(some (51,true))⟩,⟨some 53,.load none (.t 52),(some (51,true))⟩,⟨some 54,.len (.t 53),(some (51,true))⟩,⟨some 55,.eq false .pint (.t 54) (.c (.lit (.int .i64 2))),(some (51,true))⟩,⟨some 56,.pick (.t 51) (.t 55) (.c (.lit (.bool false))),none⟩,⟨some 2,.mov (.t 56),none⟩]) (
 .ret)) (
 .seq (
 .ops [⟨some 58,.eq false .pint (.t 6) (.c (.lit (.int .i64 8))),none⟩,⟨some 57,.mov (.t 58),none⟩]) (
 .cond (.t 57) (
 .seq (
 .ops [⟨some 59,.faddr 2 (.t 1),none⟩,⟨some 60,.load none (.t 59),none⟩,⟨some 61,.eq false .pstr (.t 60) (.c (.lit (.string (mkS [])))),none⟩,⟨some 62,.mov (.t 61),none⟩,⟨some 63,.faddr 5 (.t 1),(some (62,true))⟩,⟨some 64,.load none (.t 63),(some (62,true))⟩,⟨some 65,.un .not (.t 64),(some (62,true))⟩,⟨some 66,.pick (.t 62) (.t 65) (.c (.lit (.bool false))),none⟩,⟨some 67,.mov (.t 66),none⟩,⟨some 68,.faddr 3 (.t 1),(some (67,true))⟩,⟨some 69,.load none (.t 68),(some (67,true))⟩,⟨some 70,.call (.c (.fn (f_ref04_names N) [] [])) [(.t 69)],(some (67,true))⟩,⟨some 71,.pick (.t 67) (.t 70) (.c (.lit (.bool false))),none⟩,⟨some 72,.mov (.t 71),none⟩,⟨some 73,.faddr 3 (.t 1),(some (72,true))⟩,⟨some 74,.load none (.t 73),(some (72,true))⟩,⟨some 75,.call (.c (.fn (f_ref04_once N) [] [])) [(.t 74)],(some (72,true))⟩,⟨some 76,.pick (.t 72) (.t 75) (.c (.lit (.bool false))),none⟩,⟨some 77,.mov (.t 76),none⟩,⟨some 78,.faddr 4 (.t 1),(some (77,true))⟩,⟨some 79,.load none (.t 78),(some (77,true))⟩,⟨some 80,.len (.t 79),(some (77,true))⟩,⟨some 81,.faddr 3 (.t 1),(some (77,true))⟩,⟨some 82,.load none (.t 81),(some (77,true))⟩,⟨some 83,.len (.t 82),(some (77,true))⟩,⟨some 84,.eq false .pint (.t 80) (.t 83),(some (77,true))⟩,⟨some 85,.pick (.t 77) (.t 84) (.c (.lit (.bool false))),none⟩,⟨some 2,.mov (.t 85),none⟩]) (
 .ret)) (
 .seq (
 .ops [⟨some 87,.eq false .pint (.t 6) (.c (.lit (.int .i64 9))),none⟩,⟨some 86,.mov (.t 87),none⟩]) (
 .cond (.t 86) (
 .seq (
 .seq (
 .ops [⟨some 88,.faddr 3 (.t 1),none⟩,⟨some 89,.load none (.t 88),none⟩,⟨some 90,.len (.t 89),none⟩,⟨some 91,.mov (.c (.lit (.int .i64 0))),none⟩]) (
 .block 1 (
 .loop (L_ref04_typ_1 N)))) (K_ref04_typ_1 N)) (
 .seq (
 .ops [⟨some 117,.eq false .pint (.t 6) (.c (.lit (.int .i64 10))),none⟩,⟨some 116,.mov (.t 117),none⟩]) (
 .cond (.t 116) (
 .seq (
 .ops [⟨some 118,.faddr 2 (.t 1),none⟩,⟨some 119,.load none (.t 118),none⟩,⟨some 120,.call (.c (.fn (f_ref04_Alias N) [] [])) [(.t 119)],none⟩,⟨some 121,.mov (.t 120),none⟩,⟨some 122,.faddr 5 (.t 1),(some (121,true))⟩,⟨some 123,.load none (.t 122),(some (121,true))⟩,⟨some 124,.un .not (.t 123),(some (121,true))⟩,⟨some 125,.pick (.t 121) (.t 124) (.c (.lit (.bool false))),none⟩,⟨some 126,.mov (.t 125),none⟩,⟨some 127,.faddr 3 (.t 1),(some (126,true))⟩,⟨some 128,.load none (.t 127),(some (126,true))⟩,⟨some 129,.len (.t 128),(some (126,true))⟩,⟨some 130,.eq false .pint (.t 129) (.c (.lit (.int .i64 0))),(some (126,true))⟩,⟨some 131,.pick (.t 126) (.t 130) (.c (.lit (.bool false))),none⟩,⟨some 132,.mov (.t 131),none⟩,⟨some 133,.faddr 4 (.t 1),(some (132,true))⟩,⟨some 134,.load none (.t 133),(some (132,true))⟩,⟨some 135,.len (.t 134),(some (132,true))⟩,⟨some 136,.eq false .pint (.t 135) (.c (.lit (.int .i64 0))),(some (132,true))⟩,⟨some 137,.pick (.t 132) (.t 136) (.c (.lit (.bool false))),none⟩,⟨some 2,.mov (.t 137),none⟩]) (
 .ret)) (
 .skip))))))))))))) (K_ref04_typ_2 N)),false⟩

def L_ref04_uses_2 (N : Nat -> Nat) : AC :=
 .seq (
 .ops [⟨some 21,.bin .lss (.t 20) (.t 19),none⟩]) (
 .seq (
 .cond (.t 21) (
 .skip) (
 .exit 2)) (
 .seq (
 .block 3 (
 .seq (
 .ops [⟨some 22,.iaddr 1 (.t 18) (.t 20),none⟩,⟨some 23,.load none (.t 22),none⟩,⟨some 9,.mov (.t 23),none⟩]) (
 .seq (
 .ops [⟨some 24,.mov (.t 9),none⟩,⟨some 25,.bin .geq (.t 24) (.c (.lit (.int .i64 0))),none⟩,⟨some 26,.mov (.t 25),none⟩,⟨some 27,.mov (.t 9),(some (26,true))⟩,⟨some 28,.mov (.t 0),(some (26,true))⟩,⟨some 29,.bin .lss (.t 27) (.t 28),(some (26,true))⟩,⟨some 30,.pick (.t 26) (.t 29) (.c (.lit (.bool false))),none⟩]) (
 .cond (.t 30) (
 .ops [⟨some 31,.mov (.t 5),none⟩,⟨some 32,.mov (.t 9),none⟩,⟨some 33,.iaddr 1 (.t 31) (.t 32),none⟩,⟨some 34,.load none (.t 33),none⟩,⟨some 35,.bin .add (.t 34) (.c (.lit (.int .i64 1))),none⟩,⟨some 36,.iaddr 1 (.t 31) (.t 32),none⟩,⟨none,.store 1 (.t 36) (.t 35),none⟩]) (
 .skip))))) (
 .ops [⟨some 37,.bin .add (.t 20) (.c (.lit (.int .i64 1))),none⟩,⟨some 20,.mov (.t 37),none⟩])))
def K_ref04_uses_1 (N : Nat -> Nat) : AC :=
 .ops [⟨some 38,.bin .add (.t 14) (.c (.lit (.int .i64 1))),none⟩,⟨some 14,.mov (.t 38),none⟩]
def L_ref04_uses_1 (N : Nat -> Nat) : AC :=
 .seq (
 .ops [⟨some 15,.bin .lss (.t 14) (.t 13),none⟩]) (
 .seq (
 .cond (.t 15) (
 .skip) (
 .exit 0)) (
 .seq (
 .block 1 (
 .seq (
 .ops [⟨some 16,.iaddr 1 (.t 12) (.t 14),none⟩,⟨some 17,.load none (.t 16),none⟩,⟨some 7,.mov (.t 17),none⟩]) (
 .seq (
 .ops [⟨some 18,.mov (.t 7),none⟩,⟨some 19,.len (.t 18),none⟩,⟨some 20,.mov (.c (.lit (.int .i64 0))),none⟩]) (
 .block 2 (
 .loop (L_ref04_uses_2 N)))))) (K_ref04_uses_1 N)))
def K_ref04_uses_2 (N : Nat -> Nat) : AC :=
 .seq (
 .ops [⟨some 39,.mov (.t 5),none⟩,⟨some 4,.mov (.t 39),none⟩]) (
 .ret)
def C_ref04_uses (N : Nat -> Nat) : AFunc := ⟨40,[.inl 4],
 .seq (
 .ops [⟨some 4,.mov (.c (.lit (.slice none 0 0))),none⟩]) (
 .seq (
 .ops [⟨some 10,.mov (.t 0),none⟩,⟨some 11,.mkslice (t_int N) 1 8 (.lit (.int .i64 0)) (.t 10) (.t 10),none⟩,⟨some 5,.mov (.t 11),none⟩]) (
 .seq (
 .seq (
 .ops [⟨some 12,.mov (.t 1),none⟩,⟨some 13,.len (.t 12),none⟩,⟨some 14,.mov (.c (.lit (.int .i64 0))),none⟩]) (
 .block 0 (
 .loop (L_ref04_uses_1 N)))) (K_ref04_uses_2 N))),false⟩
end Go.Proofs.Eng
namespace Go.Proofs.Eng
open Go
structure RefK (Γ : Sums) (A : Tab) (N : Nat -> Nat) : Prop where
 signs : Ref01 Γ A N
 tag : Ref04N Γ A N
 word : Has Γ A (f_ref03_IsWord N) (C_ref03_IsWord N)
 names : Has Γ A (f_ref04_names N) (C_ref04_names N)
 once : Has Γ A (f_ref04_once N) (C_ref04_once N)
 below : Has Γ A (f_ref04_below N) (C_ref04_below N)
 op : Has Γ A (f_ref04_op N) (C_ref04_op N)
 alias : Has Γ A (f_ref04_Alias N) (C_ref04_Alias N)
 parts : Has Γ A (f_ref02_Parts N) (C_ref02_Parts N)
 text : Has Γ A (f_ref04_text N) (C_ref04_text N)
 term : Has Γ A (f_ref04_term N) (C_ref04_term N)
 typ : Has Γ A (f_ref04_typ N) (C_ref04_typ N)
 uses : Has Γ A (f_ref04_uses N) (C_ref04_uses N)
 right : Has Γ A (f_ref04_Right N) (C_ref04_Right N)
theorem all_take {α : Type} {p : α -> Bool} {l : List α} {i : Nat} (hi : i < l.length) (h : (l.take i).all p = true) : (l.take (i + 1)).all p = p l[i] := by
 rw [List.take_succ_eq_append_getElem hi,List.all_append,h]
 simp
theorem all_false {α : Type} {p : α -> Bool} {l : List α} {i : Nat} (hi : i < l.length) (h : p l[i] = false) : l.all p = false := by
 rw [Bool.eq_false_iff]
 intro hh
 have := List.all_eq_true.1 hh l[i] (List.getElem_mem hi)
 rw [h] at this
 cases this
def belowB (row : List Int) (n : Int) : Bool := row.all fun k => decide (0 <= k) && decide (k < n)
section
variable {Γ : Sums} {A : Tab} {N : Nat -> Nat}
theorem ref04_below_call (h : Has Γ A (f_ref04_below N) (C_ref04_below N)) {H : Hp} {x : AV} {row : List Int} {n : Int} (hx : VI H x row) (hl : row.length < 2 ^ 60) : (lim Γ A).call (f_ref04_below N) [x,avInt .i64 n] H = some (avBool (belowB row n),none) := by
 have hlen := VI.len hx
 apply h.call (by rfl)
 simp [C_ref04_below,hlen,-Int.natCast_add]
 refine wp_round (fun k ρ H' => H' = { l := H.l,d := none } /\ ∃ i : Nat,ρ 1 = avInt .i64 n /\ ρ 7 = x /\ ρ 8 = avInt .i64 row.length /\ ρ 9 = avInt .i64 i /\ i <= row.length /\ (row.take i).all (fun k => decide (0 <= k) && decide (k < n)) = true /\ k = row.length - i) (n := row.length) ⟨rfl,0,rfl,rfl,rfl,rfl,by omega,by simp,rfl⟩ ?_
 rintro k ρ H' ⟨rfl,i,r1,r7,r8,r9,hi,ha,rfl⟩
 have hx' : VI { l := H.l,d := none } x row := hx.keep fun id hid => rfl
 by_cases hlt : i < row.length
 ·have hlt' : (i : Int) < row.length := by omega
  obtain ⟨q,q1,q2⟩ := hx'.at' (k := .i64) (i := (i : Int)) (e := avInt .i64 row[i]) (by omega) (by simp [List.getElem?_eq_getElem hlt]) rfl rfl rfl
  have hw : IntKind.wrap .i64 ((i : Int) + 1) = ((i + 1 : Nat) : Int) := by rw [wrap64 (by omega) (by omega)]; omega
  have ht := all_take hlt ha
  have hf : (decide (0 <= row[i]) && decide (row[i] < n)) = false -> belowB row n = false := fun hh => all_false hlt hh
  generalize row[i] = e at *
  by_cases c1 : e < 0
  ·have : belowB row n = false := hf (by simp; omega)
   simp [L_ref04_below_1,r1,r7,r8,r9,hlt',q1,q2,c1,this,settle,keeps]
  ·by_cases c2 : n <= e
   ·have : belowB row n = false := hf (by simp; omega)
    simp [L_ref04_below_1,r1,r7,r8,r9,hlt',q1,q2,c1,c2,this,settle,keeps]
   ·simp [L_ref04_below_1,r1,r7,r8,r9,hlt',q1,q2,c1,c2,hw,-Int.natCast_add]
    refine ⟨row.length - (i + 1),by omega,i + 1,rfl,by omega,?_,rfl⟩
    have := ht.trans (show _ = true by simp; omega)
    simpa using this
 ·have hlt' : ¬ (i : Int) < row.length := by omega
  have hie : i = row.length := by omega
  subst hie
  rw [List.take_length] at ha
  have : belowB row n = true := ha
  simp [L_ref04_below_1,K_ref04_below_1,r1,r7,r8,r9,this,settle,keeps]
theorem ref04_names_call (h : RefK Γ A N) {H : Hp} {x : AV} {l : List (List UInt8)} (hx : VS H x l) (hl : l.length < 2 ^ 60) (hs : ∀ s ∈ l,s.length < 2 ^ 36) : (lim Γ A).call (f_ref04_names N) [x] H = some (avBool (l.all isNameB),none) := by
 have hlen := VS.len hx
 apply h.names.call (by rfl)
 simp [C_ref04_names,hlen,-Int.natCast_add]
 refine wp_round (fun k ρ H' => H' = { l := H.l,d := none } /\ ∃ i : Nat,ρ 5 = x /\ ρ 6 = avInt .i64 l.length /\ ρ 7 = avInt .i64 i /\ i <= l.length /\ (l.take i).all isNameB = true /\ k = l.length - i) (n := l.length) ⟨rfl,0,rfl,rfl,rfl,by omega,by simp,rfl⟩ ?_
 rintro k ρ H' ⟨rfl,i,r5,r6,r7,hi,ha,rfl⟩
 have hx' : VS { l := H.l,d := none } x l := hx.keep fun id hid => rfl
 by_cases hlt : i < l.length
 ·have hlt' : (i : Int) < l.length := by omega
  obtain ⟨q,q1,q2⟩ := hx'.at' (k := .i64) (i := (i : Int)) (e := avStr l[i]) (by omega) (by simp [List.getElem?_eq_getElem hlt]) rfl rfl rfl
  have hw : IntKind.wrap .i64 ((i : Int) + 1) = ((i + 1 : Nat) : Int) := by rw [wrap64 (by omega) (by omega)]; omega
  have ht := all_take hlt ha
  have ec := ref04_Name_call' h.tag h.word l[i] (hs _ (List.getElem_mem hlt)) { l := H.l,d := none }
  have hf : isNameB l[i] = false -> l.all isNameB = false := fun hh => all_false hlt hh
  generalize l[i] = e at *
  rcases hb : isNameB e with _ | _
  ·rw [hb] at ec
   simp [L_ref04_names_1,r5,r6,r7,hlt',q1,q2,ec,hf hb,settle,keeps]
  ·rw [hb] at ec ht
   simp [L_ref04_names_1,r5,r6,r7,hlt',q1,q2,ec,hw,-Int.natCast_add]
   exact ⟨l.length - (i + 1),by omega,i + 1,rfl,by omega,by simpa using ht,rfl⟩
 ·have hlt' : ¬ (i : Int) < l.length := by omega
  have hie : i = l.length := by omega
  subst hie
  rw [List.take_length] at ha
  simp [L_ref04_names_1,K_ref04_names_1,r5,r6,r7,ha,settle,keeps]
theorem ref04_op_call (h : RefK Γ A N) (s : List UInt8) (H : Hp) : (lim Γ A).call (f_ref04_op N) [avStr s] H = some (avBool (decide (s ∈ opsL)),none) := by
 apply h.op.call (by rfl)
 by_cases hm : s ∈ opsL
 ·have hm2 := hm
  simp only [opsL,List.mem_cons,List.not_mem_nil,or_false] at hm2
  rcases hm2 with rfl | rfl | rfl | rfl | rfl | rfl | rfl | rfl | rfl | rfl | rfl | rfl <;> simp [C_ref04_op,opsL,settle,keeps]
 ·have hm2 := hm
  simp only [opsL,List.mem_cons,List.not_mem_nil,or_false,not_or] at hm2
  obtain ⟨h1,h2,h3,h4,h5,h6,h7,h8,h9,h10,h11,h12⟩ := hm2
  simp [C_ref04_op,hm,h1,h2,h3,h4,h5,h6,h7,h8,h9,h10,h11,h12,settle,keeps]
end
end Go.Proofs.Eng
namespace Go.Proofs.Eng
open Go
theorem once_false {l : List (List UInt8)} {i j : Nat} (hi : i < l.length) (hj : j < i) (h : l[i] = l[j]) : onceB l = false := by
 unfold onceB
 rw [decide_eq_false_iff_not]
 intro hn
 exact List.pairwise_iff_getElem.1 hn j i (by omega) hi hj h.symm
theorem once_step {l : List (List UInt8)} {i : Nat} (hi : i < l.length) (h : (l.take i).Nodup) (h2 : ∀ m,m < i -> l[m]? ≠ some l[i]) : (l.take (i + 1)).Nodup := by
 rw [List.take_succ_eq_append_getElem hi,List.nodup_append]
 refine ⟨h,by simp,?_⟩
 rintro a ha b hb rfl
 simp at hb
 obtain ⟨m,hm,rfl⟩ := List.mem_iff_getElem.1 ha
 rw [List.getElem_take] at hb
 have hm' : m < i := by simp at hm; omega
 exact h2 m hm' (by rw [List.getElem?_eq_getElem (by omega),hb])
section
variable {Γ : Sums} {A : Tab} {N : Nat -> Nat}
theorem ref04_once_call (h : RefK Γ A N) {H : Hp} {x : AV} {l : List (List UInt8)} (hx : VS H x l) (hl : l.length < 2 ^ 60) : (lim Γ A).call (f_ref04_once N) [x] H = some (avBool (onceB l),none) := by
 have hlen := VS.len hx
 have hx' : VS { l := H.l,d := none } x l := hx.keep fun id hid => rfl
 apply h.once.call (by rfl)
 simp [C_ref04_once,hlen,-Int.natCast_add]
 refine wp_round (fun k ρ H' => H' = { l := H.l,d := none } /\ ∃ i : Nat,ρ 0 = x /\ ρ 5 = x /\ ρ 6 = avInt .i64 l.length /\ ρ 7 = avInt .i64 i /\ i <= l.length /\ (l.take i).Nodup /\ k = l.length - i) (n := l.length) ⟨rfl,0,rfl,rfl,rfl,rfl,by omega,by simp,rfl⟩ ?_
 rintro k ρ H' ⟨rfl,i,r0,r5,r6,r7,hi,ha,rfl⟩
 by_cases hlt : i < l.length
 ·have hlt' : (i : Int) < l.length := by omega
  have hw : IntKind.wrap .i64 ((i : Int) + 1) = ((i + 1 : Nat) : Int) := by rw [wrap64 (by omega) (by omega)]; omega
  simp [L_ref04_once_1,r0,r5,r6,r7,hlt',-Int.natCast_add]
  refine wp_round (fun k ρ H' => H' = { l := H.l,d := none } /\ ∃ j : Nat,ρ 0 = x /\ ρ 5 = x /\ ρ 6 = avInt .i64 l.length /\ ρ 7 = avInt .i64 i /\ ρ 3 = avInt .i64 i /\ ρ 4 = avInt .i64 j /\ j <= i /\ (∀ m,m < j -> l[m]? ≠ some l[i]) /\ k = i - j) (n := i) ⟨rfl,0,by simp [r0],by simp [r5],by simp [r6],by simp [r7],by simp,by simp,by omega,fun m hm => by omega,rfl⟩ ?_
  rintro k ρ H' ⟨rfl,j,s0,s5,s6,s7,s3,s4,hj,hb,rfl⟩
  by_cases hjl : j < i
  ·have hjl' : (j : Int) < i := by omega
   obtain ⟨q,q1,q2⟩ := hx'.at' (k := .i64) (i := (i : Int)) (e := avStr l[i]) (by omega) (by simp [List.getElem?_eq_getElem hlt]) rfl rfl rfl
   obtain ⟨p,p1,p2⟩ := hx'.at' (k := .i64) (i := (j : Int)) (e := avStr l[j]) (by omega) (by simp [List.getElem?_eq_getElem (show j < l.length by omega)]) rfl rfl rfl
   have hw2 : IntKind.wrap .i64 ((j : Int) + 1) = ((j + 1 : Nat) : Int) := by rw [wrap64 (by omega) (by omega)]; omega
   by_cases he : l[i] = l[j]
   ·have := once_false hlt hjl he
    simp [L_ref04_once_2,s0,s5,s6,s7,s3,s4,hjl',q1,q2,p1,p2,he,this,settle,keeps]
   ·simp [L_ref04_once_2,s0,s5,s6,s7,s3,s4,hjl',q1,q2,p1,p2,he,hw2,-Int.natCast_add]
    refine ⟨i - (j + 1),by omega,j + 1,rfl,by omega,fun m hm => ?_,rfl⟩
    by_cases hmj : m = j
    ·subst hmj; rw [List.getElem?_eq_getElem (show m < l.length by omega)]; simpa using fun e => he e.symm
    ·exact hb m (by omega)
  ·have hjl' : ¬ (j : Int) < i := by omega
   have hji : j = i := by omega
   subst hji
   have hjl'' : ¬ (j : Int) < j := by omega
   simp [L_ref04_once_2,K_ref04_once_1,s0,s5,s6,s7,s3,s4,hw,-Int.natCast_add]
   exact ⟨l.length - (j + 1),by omega,j + 1,rfl,by omega,once_step hlt ha hb,rfl⟩
 ·have hlt' : ¬ (i : Int) < l.length := by omega
  have hie : i = l.length := by omega
  subst hie
  rw [List.take_length] at ha
  have : onceB l = true := by unfold onceB; exact decide_eq_true ha
  simp [L_ref04_once_1,K_ref04_once_2,r0,r5,r6,r7,this,settle,keeps]
end
end Go.Proofs.Eng
namespace Go.Proofs.Eng
open Go
@[simp] theorem resR_five {t u v w x : Nat} {ρ : Rho} {H : Hp} : resR [.inl t,.inl u,.inl v,.inl w,.inl x] ρ H = some (.tup [ρ t,ρ u,ρ v,ρ w,ρ x]) := _root_.id rfl
def noneB (w : Nat) : Bool := decide (w / 4503599627370496 % 2048 = 2047) && !decide (w % 4503599627370496 = 0)
theorem floatEq_none (w : Nat) : Op.floatEq .f64 w w = !noneB w := by
 have hself : ∀ d : Ieee.Datum,(d.order d == some .eq) = !d.isNaN := by
  intro d
  cases d with
  | nan s f => rfl
  | infinity s => cases s <;> rfl
  | number s m i => simp [Ieee.Datum.order,Ieee.Datum.isNaN,compare,compareOfLessAndEq]
 show ((FloatKind.f64.format.read w).order (FloatKind.f64.format.read w) == some .eq) = _
 rw [hself]
 congr 1
 unfold noneB
 have e1 : FloatKind.f64.format.signWeight = 9223372036854775808 := by decide
 have e2 : FloatKind.f64.format.binade = 4503599627370496 := by decide
 have e3 : FloatKind.f64.format.infRung = 9218868437227405312 := by decide
 unfold Ieee.Format.read
 simp only [e1,e2,e3]
 by_cases c1 : w % 9223372036854775808 < 4503599627370496
 ·rw [if_pos c1]
  have : ¬ w / 4503599627370496 % 2048 = 2047 := by omega
  simp [Ieee.Datum.isNaN,this]
 ·rw [if_neg c1]
  by_cases c2 : w % 9223372036854775808 < 9218868437227405312
  ·rw [if_pos c2]
   have : ¬ w / 4503599627370496 % 2048 = 2047 := by omega
   simp [Ieee.Datum.isNaN,this]
  ·rw [if_neg c2]
   by_cases c3 : w % 9223372036854775808 = 9218868437227405312
   ·rw [if_pos c3]
    have : w % 4503599627370496 = 0 := by omega
    simp [Ieee.Datum.isNaN,this]
   ·rw [if_neg c3]
    have h1 : w / 4503599627370496 % 2048 = 2047 := by omega
    have h2 : ¬ w % 4503599627370496 = 0 := by omega
    simp [Ieee.Datum.isNaN,h1,h2]
theorem ofB_none (w : Nat) : decide (ofB (w : Int) = w) = (!noneB w || decide ((w : Int) = 9221120237041090561)) := by
 unfold ofB
 rw [Int.toNat_natCast,floatEq_none]
 cases noneB w with
 | false => simp
 | true => simp [eq_comm]
section
variable {Γ : Sums} {A : Tab} {N : Nat -> Nat}
theorem ref02_Parts_call (h : RefK Γ A N) (w : Nat) (hw : w < 2 ^ 64) (H : Hp) : ∃ a b c d,(lim Γ A).call (f_ref02_Parts N) [avInt .u64 w] H = some (.tup [a,b,c,d,avBool (noneB w)],none) := by
 have q1 : bShr .u64 (w : Int) 52 = (w : Int) / 4503599627370496 := by show Int.fdiv (w : Int) 4503599627370496 = _; rw [Int.fdiv_eq_ediv_of_nonneg _ (by omega)]
 have q2 : bShr .u64 (w : Int) 63 = (w : Int) / 9223372036854775808 := by show Int.fdiv (w : Int) 9223372036854775808 = _; rw [Int.fdiv_eq_ediv_of_nonneg _ (by omega)]
 have q3 : Int.tmod ((w : Int) / 4503599627370496) 2048 = ((w / 4503599627370496 % 2048 : Nat) : Int) := by rw [Int.tmod_eq_emod_of_nonneg (by omega)]; rfl
 have q4 : Int.tmod (w : Int) 4503599627370496 = ((w % 4503599627370496 : Nat) : Int) := by rw [Int.tmod_eq_emod_of_nonneg (by omega)]; rfl
 have q5 : IntKind.wrap .i64 ((w / 4503599627370496 % 2048 : Nat) : Int) = ((w / 4503599627370496 % 2048 : Nat) : Int) := by rw [wrap64 (by omega) (by omega)]
 have q6 : IntKind.wrap .i64 2047 = 2047 := by decide
 have q7 : IntKind.wrap .i64 0 = 0 := by decide
 suffices hs : ∃ r,(lim Γ A).call (f_ref02_Parts N) [avInt .u64 w] H = some r /\ ∃ a b c d,r = (.tup [a,b,c,d,avBool (noneB w)],none) by
  obtain ⟨r,e,a,b,c,d,rfl⟩ := hs
  exact ⟨a,b,c,d,e⟩
 apply h.parts.callP (by rfl)
 unfold noneB
 generalize hE : w / 4503599627370496 % 2048 = E at *
 generalize hM : w % 4503599627370496 = M at *
 by_cases c1 : E = 2047
 ·subst c1
  by_cases c2 : M = 0
  ·subst c2
   simp [C_ref02_Parts,q1,q2,q3,q4,q5,q6,q7,abinI,settle,keeps,AV.under,AV.unders]
   done
  ·have c2' : ¬ ((M : Nat) : Int) = 0 := by omega
   simp [C_ref02_Parts,q1,q2,q3,q4,q5,q6,q7,c2,c2',abinI,settle,keeps,AV.under,AV.unders]
   done
 ·have c1' : ¬ ((E : Nat) : Int) = 2047 := by omega
  by_cases c3 : E = 0
  ·subst c3
   simp [C_ref02_Parts,q1,q2,q3,q4,q5,q6,q7,c1,abinI,settle,keeps,AV.under,AV.unders]
   done
  ·have c3' : ¬ ((E : Nat) : Int) = 0 := by omega
   simp [C_ref02_Parts,q1,q2,q3,q4,q5,q6,q7,c1,c1',c3,c3',abinI,settle,keeps,AV.under,AV.unders]
   done
end
end Go.Proofs.Eng
namespace Go.Proofs.Eng
open Go
theorem stop_bad (s : List UInt8) : (stopOf s < s.length) \/ (badOf s < 0 /\ ¬ stopOf s < s.length) := by
 have : stopOf s <= s.length := by have := rstop_le s.length 0 s; unfold stopOf; omega
 unfold badOf
 by_cases h : stopOf s = s.length
 ·right; rw [if_pos h]; omega
 ·left; omega
theorem stop_bad' {s : List UInt8} (h : stopOf s < s.length) : ¬ badOf s < 0 := by
 unfold badOf
 rw [if_neg (by omega)]
 omega
section
variable {Γ : Sums} {A : Tab} {N : Nat -> Nat}
theorem ref04_text_call (h : RefK Γ A N) (s : List UInt8) (hl : s.length < 2 ^ 36) (H : Hp) : (lim Γ A).call (f_ref04_text N) [avStr s] H = some (avBool (textB' s),none) := by
 have hr : s.length <= roomMax := by unfold roomMax; omega
 obtain ⟨p,q,hh,os1,os2,e1,_,_,had⟩ := ref01_Signs_call h.signs _ s (halloc { l := H.l,d := none } (.arr 1 (s.map avByte) (t_uint8 N))) (vb_new { l := H.l,d := none } s (t_uint8 N)) hl
 have hL := had.loc ((Loc.start H).alloc (.arr 1 (s.map avByte) (t_uint8 N)))
 have hk := hL.keeps
 have hset : ∀ b : Bool,settle H (avBool b) (hh.getD (halloc { l := H.l,d := none } (.arr 1 (s.map avByte) (t_uint8 N)))) = (avBool b,none) := fun b => settle_keeps hk rfl
 generalize hG : hh.getD (halloc { l := H.l,d := none } (.arr 1 (s.map avByte) (t_uint8 N))) = G at *
 apply h.text.call (by rfl)
 rcases stop_bad s with hs | ⟨hb,hs⟩
 ·have hs' : (stopOf s : Int) < s.length := by omega
  have hb : textB' s = false := by unfold textB'; simp [stop_bad' hs]
  simp [C_ref04_text,hr,e1,bindH_opt,hG,hs,hs',hb,hset]
 ·have hs' : ¬ (stopOf s : Int) < s.length := by omega
  simp [C_ref04_text,hr,e1,bindH_opt,hG,hs,hs',-Int.natCast_add]
  refine wp_round (fun k ρ H' => H' = G /\ ∃ i : Nat,ρ 0 = avStr s /\ ρ 6 = avInt .i64 i /\ i <= s.length /\ (s.take i).all (fun c => !oddB c) = true /\ k = s.length - i) (n := s.length) ⟨rfl,0,rfl,by simp,by omega,by simp,rfl⟩ ?_
  rintro k ρ H' ⟨rfl,i,r0,r6,hi,ha,rfl⟩
  by_cases hlt : i < s.length
  ·have hlt' : (i : Int) < s.length := by omega
   have hx := asidx_nat (k := .i64) hlt
   have hw : IntKind.wrap .i64 ((i : Int) + 1) = ((i + 1 : Nat) : Int) := by rw [wrap64 (by omega) (by omega)]; omega
   have ht := all_take hlt ha
   have hf : oddB s[i] = true -> textB' s = false := fun hh => by
    unfold textB'
    have : s.any oddB = true := List.any_eq_true.2 ⟨_,List.getElem_mem hlt,hh⟩
    simp [this]
   generalize s[i] = c at *
   by_cases h1 : c.toNat < 32
   ·have h1' : (c.toNat : Int) < 32 := by omega
    by_cases h2 : c.toNat = 10
    ·have h2' : (c.toNat : Int) = 10 := by omega
     have ho : oddB c = false := by simp [oddB,h2]
     rw [ho] at ht
     simp [L_ref04_text_1,r0,r6,hlt',hx,avByte,h2,hw,-Int.natCast_add]
     exact ⟨s.length - (i + 1),by omega,i + 1,rfl,by omega,by simpa using ht,rfl⟩
    ·have h2' : ¬ (c.toNat : Int) = 10 := by omega
     have ho : oddB c = true := by simp [oddB,h1,h2]
     simp [L_ref04_text_1,r0,r6,hlt',hx,avByte,h1,h1',h2,h2',hf ho,hset]
   ·have h1' : ¬ (c.toNat : Int) < 32 := by omega
    have ho : oddB c = false := by simp [oddB,h1]
    rw [ho] at ht
    simp [L_ref04_text_1,r0,r6,hlt',hx,avByte,h1,h1',hw,-Int.natCast_add]
    exact ⟨s.length - (i + 1),by omega,i + 1,rfl,by omega,by simpa using ht,rfl⟩
  ·have hlt' : ¬ (i : Int) < s.length := by omega
   have hie : i = s.length := by omega
   subst hie
   rw [List.take_length] at ha
   have : textB' s = true := by
    unfold textB'
    have h2 : s.any oddB = false := by
     rw [Bool.eq_false_iff]
     intro hh
     obtain ⟨c,hc,ho⟩ := List.any_eq_true.1 hh
     have := List.all_eq_true.1 ha c hc
     simp [ho] at this
    simp [h2,hb]
   simp [L_ref04_text_1,K_ref04_text_1,r0,r6,this,hset]
end
end Go.Proofs.Eng
namespace Go.Proofs.Eng
open Go

def wfB (b : List UInt8) : Prop := stopOf b = b.length

theorem rstop_shift : ∀ (k at' : Nat) (b : List UInt8),rstop k at' b = at' + rstop k 0 b
 | 0,at',b => rfl
 | k + 1,at',b => by
  simp only [rstop]
  split
  ·rfl
  ·rw [rstop_shift k (at' + (rfirst b).2.toNat),rstop_shift k (0 + (rfirst b).2.toNat)]; omega
theorem stopOf_step {b : List UInt8} (h : (rfirst b).2 ≠ 0) : stopOf b = (rfirst b).2.toNat + stopOf (b.drop (rfirst b).2.toNat) := by
 unfold stopOf
 rw [rstop_step h,rstop_shift]; omega
theorem wf_cons {b : List UInt8} (h1 : (rfirst b).2 ≠ 0) (h : wfB (b.drop (rfirst b).2.toNat)) : wfB b := by
 unfold wfB at *
 rw [stopOf_step h1,h,List.length_drop]
 rcases rfirst_bound b with h' | ⟨g1,g2,g3⟩
 ·exact absurd h' h1
 ·omega
end Go.Proofs.Eng
namespace Go.Proofs.Eng
open Go
section
variable {Γ : Sums} {A : Tab} {N : Nat -> Nat}

theorem rfirst_ascii {c : UInt8} {r : List UInt8} (h : c.toNat < 128) : (rfirst (c :: r)).2 = 1 := by
 simp [rfirst,lead,h]
theorem wf_ascii : ∀ (s : List UInt8),(∀ c ∈ s,c.toNat < 128) -> wfB s
 | [],_ => by simp [wfB,stopOf,rstop]
 | c :: r,h => by
  have h1 := rfirst_ascii (r := r) (h c List.mem_cons_self)
  refine wf_cons (by rw [h1]; decide) ?_
  rw [h1]
  exact wf_ascii r fun d hd => h d (List.mem_cons_of_mem _ hd)
end
end Go.Proofs.Eng
namespace Go.Proofs.Eng
open Go

theorem blank0 {c : UInt8} {y : List UInt8} (h1 : isBlank c = false) (h2 : c.toNat ≠ 47) : blankB (c :: y) = 0 := by
 rw [blankB_cons,h1]
 have : ((47 : UInt8) == c) = false := by rw [beq_eq_false_iff_ne]; rintro rfl; exact h2 rfl
 simp [List.isPrefixOf,this]
end Go.Proofs.Eng
namespace Go.Proofs.Eng
open Go

def kt (t : Tok) : Nat × List UInt8 := (t.1,t.2.1)

theorem lexR_ok {b : List UInt8} {l : List Tok} {p : Nat} (h : lexR b = (l,0,p)) : wfB b /\ tokR (blankB b) (b.drop (blankB b)) = (l,none) := by
 unfold lexR at h
 split at h
 ·simp at h
 ·split at h
  ·simp at h
  ·rename_i h1 h2
   refine ⟨Classical.byContradiction fun hn => h2 hn,?_⟩
   split at h
   ·rename_i l' e; simp only [Prod.mk.injEq] at h; rw [e,h.1]
   ·simp at h
section
variable {Γ : Sums} {A : Tab} {N : Nat -> Nat}

end
end Go.Proofs.Eng
