import Derived.Test.YtcmdnlpkplaapaaM27
import Derived.Test.YtcmdnlpkplaapaaM26
import Derived.Test.YtcmdnlpkplaapaaM30
import Derived.Test.YtcmdnlpkplaapaaM32
import Derived.Test.YtcmdnlpkplaapaaM35
import Derived.Test.YtcmdnlpkplaapaaM36
/- The tree's builder: what is built. -/
set_option linter.unusedVariables false
set_option linter.unusedSimpArgs false
set_option maxRecDepth 100000
namespace Go.Proofs.Eng
open Go
@[simp ↓] theorem wpA_bslice1 {E : Env} {ρ : Rho} {H : Hp} {Q : AV -> Hp -> Prop} {e : TypeId} {sz len : Nat} {lay : Option Nat} {z : List AV} {ps : List (Nat × Nat × Opd)} : wpA E 1 (.bslice e sz lay len z ps) ρ H Q =
  bindO (fillA (repl len z) (ps.map fun (o,s,x) => (o,s,evR ρ x))) fun cs => andQ ((chunk sz lay len cs).all (fun y => y.good && y.cells.length == sz && (lay.isSome || y.one)) = true) (Q (.ra sz H.l.length 0 len) (halloc H (.arr sz (chunk sz lay len cs) e))) := by
 rw [wpA_one_zero,wpA_bslice]
 have hd : ∀ d,aopER E ρ { l := H.l,d := d } (.bslice e sz lay len z ps) = ((fillA (repl len z) (ps.map fun (o,s,x) => (o,s,evR ρ x))).bind fun cs =>
   if (chunk sz lay len cs).all (fun y => y.good && y.cells.length == sz && (lay.isSome || y.one)) then some (AV.ra sz H.l.length 0 len,some (halloc { l := H.l,d := d } (.arr sz (chunk sz lay len cs) e))) else none) := fun d => _root_.id rfl
 simp only [hd]
 cases fillA (repl len z) (ps.map fun (o,s,x) => (o,s,evR ρ x)) with
 | none => exact .inl fun d => _root_.id rfl
 | some cs =>
  by_cases hc : ((chunk sz lay len cs).all (fun y => y.good && y.cells.length == sz && (lay.isSome || y.one))) = true
  ·exact .inr ⟨_,_,fun d => if_pos hc⟩
  ·exact .inl fun d => if_neg hc

section
variable {Γ : Sums} {A : Tab} {N : Nat -> Nat}

def RowAt (H : Hp) (e : TypeId) (sz : Nat) (x : AV) (es : List AV) : Prop := (x = avNilS /\ es = []) \/ ∃ id,x = .ra sz id 0 es.length /\ hget H id = some (.arr sz es e)
theorem RowAt.keep {H H' : Hp} {e : TypeId} {sz : Nat} {x : AV} {es : List AV} (h : RowAt H e sz x es) (k : ∀ id o,hget H id = some o -> (kid x = some id) -> hget H' id = some o) : RowAt H' e sz x es := by
 rcases h with h | ⟨id,rfl,h⟩
 ·exact .inl h
 ·exact .inr ⟨id,rfl,k id _ h rfl⟩
theorem RowAt.alloc {H : Hp} {e : TypeId} {sz : Nat} {x : AV} {es : List AV} (h : RowAt H e sz x es) (o : AObj) : RowAt (halloc H o) e sz x es :=
 h.keep fun id o' h' _ => by rw [hget_halloc,if_neg (Nat.ne_of_lt (hget_lt h'))]; exact h'
theorem RowAt.app {H : Hp} {e : TypeId} {sz bytes : Nat} {x : AV} {es ys : List AV} (h : RowAt H e sz x es) (hy : ys ≠ []) (hb : (es.length + ys.length) * bytes <= roomMax) (hg : ys.all (fun y => y.good && y.cells.length == sz) = true) :
  ∃ v H',appendOn H e sz bytes x ys = some (v,some H') /\ v = .ra sz H.l.length 0 (es ++ ys).length /\ hget H' H.l.length = some (.arr sz (es ++ ys) e) /\ H'.l.length = H.l.length + 1 /\ (∀ id o,hget H id = some o -> kid x ≠ some id -> hget H' id = some o) /\ (∀ (H0 : Hp) (W : List Nat),Mut H0 H W -> (∀ j,kid x = some j -> H0.l.length <= j) -> Mut H0 H' W) := by
 rcases h with ⟨rfl,rfl⟩ | ⟨id,rfl,h⟩
 ·have : ys.isEmpty = false := by cases ys with | nil => exact absurd rfl hy | cons => rfl
  refine ⟨_,_,by simp only [appendOn]; rw [if_pos ⟨by simpa using hb,hg⟩,this]; rfl,by simp,by simp,by simp,fun id o ho _ => ?_,fun H0 W hm _ => hm.alloc _⟩
  rw [hget_halloc,if_neg (Nat.ne_of_lt (hget_lt ho))]; exact ho
 ·refine ⟨_,_,appendOn_ra h hb hg,by simp,by simp,by simp,fun id' o ho hne => ?_,fun H0 W hm hj => (hm.set (.inr (hj id rfl))).alloc _⟩
  have hne' : id' ≠ id := fun e => hne (by rw [e]; rfl)
  rw [hget_halloc,if_neg (by simpa using Nat.ne_of_lt (hget_lt ho)),hget_hset,if_neg hne']; exact ho

theorem cloneA_nil (h : Has Γ A (f_slices_Clone_sl_api_Alias_api_Alias N) (C_slices_Clone_sl_api_Alias_api_Alias N)) (H : Hp) : (lim Γ A).call (f_slices_Clone_sl_api_Alias_api_Alias N) [.lit (.slice none 0 0)] H = some (.lit (.slice none 0 0),none) := by
 apply h.call (by rfl)
 simp [C_slices_Clone_sl_api_Alias_api_Alias,aeq_nilS]

structure TreeB (Γ : Sums) (A : Tab) (N : Nat -> Nat) : Prop where
 cs : Has Γ A (f_slices_Clone_sl_string_string N) (C_slices_Clone_sl_string_string N)
 ci : Has Γ A (f_slices_Clone_sl_int_int N) (C_slices_Clone_sl_int_int N)
 ca : Has Γ A (f_slices_Clone_sl_api_Alias_api_Alias N) (C_slices_Clone_sl_api_Alias_api_Alias N)
 ct : Has Γ A (f_tree_cloneTerm N) (C_tree_cloneTerm N)
 cy : Has Γ A (f_tree_cloneType N) (C_tree_cloneType N)
 term : Has Γ A (f_p_tree_Builder_Term N) (C_p_tree_Builder_Term N)
 type : Has Γ A (f_p_tree_Builder_Type N) (C_p_tree_Builder_Type N)
 new : Has Γ A (f_tree_New N) (C_tree_New N)
 clone : Has Γ A (f_tree_Clone N) (C_tree_Clone N)
 tree : Has Γ A (f_p_tree_Builder_Tree N) (C_p_tree_Builder_Tree N)

end
end Go.Proofs.Eng
namespace Go.Proofs.Eng
open Go
section
variable {Γ : Sums} {A : Tab} {N : Nat -> Nat}
theorem cloneS_call (h : Has Γ A (f_slices_Clone_sl_string_string N) (C_slices_Clone_sl_string_string N)) {x : AV} {b : List (List UInt8)} {H : Hp} (hx : VS H x b) (hl : b.length < 2 ^ 36) :
  ∃ c g os,(lim Γ A).call (f_slices_Clone_sl_string_string N) [x] H = some (c,g) /\ Fresh H g c (b.map avStr) (t_string N) os /\ (x = avNilS -> c = avNilS) := by
 have key : ∃ r,(lim Γ A).call (f_slices_Clone_sl_string_string N) [x] H = some r /\ ∃ os,Fresh H r.2 r.1 (b.map avStr) (t_string N) os /\ (x = avNilS -> r.1 = avNilS) := by
  obtain ⟨R,hR⟩ : ∃ R : AV × Option Hp -> Prop,R = fun r => ∃ os,Fresh H r.2 r.1 (b.map avStr) (t_string N) os /\ (x = avNilS -> r.1 = avNilS) := ⟨_,rfl⟩
  suffices ∃ r,(lim Γ A).call (f_slices_Clone_sl_string_string N) [x] H = some r /\ R r by simpa [hR] using this
  have live : aeq .pslice x (.lit (.slice none 0 0)) = some false -> x ≠ avNilS -> ∃ r,(lim Γ A).call (f_slices_Clone_sl_string_string N) [x] H = some r /\ R r := by
   intro he hne
   apply h.callP (by rfl)
   have hE := (hx.dd none).keep (H' := halloc { l := H.l,d := none } (.arr 1 [] (t_string N))) (fun id hid => by simp [hget_halloc,Nat.ne_of_lt hid])
   have hE' := hE.elems
   have ha : appendOn (halloc { l := H.l,d := none } (.arr 1 [] (t_string N))) (t_string N) 1 16 (.ra 1 H.l.length 0 0) (b.map avStr) = some (.ra 1 (H.l.length + 1) 0 b.length,some (halloc (hset (halloc { l := H.l,d := none } (.arr 1 [] (t_string N))) H.l.length none) (.arr 1 (b.map avStr) (t_string N)))) := by
    have hr : b.length * 16 <= roomMax := by unfold roomMax; omega
    have hq := appendOn_ra (H := halloc { l := H.l,d := none } (.arr 1 [] (t_string N))) (e := t_string N) (sz := 1) (bytes := 16) (id := H.l.length) (es := []) (ys := b.map avStr) (by simp) (by simpa using hr) (by simp)
    simpa using hq
   have hm : Mut { l := H.l,d := none } (halloc (hset (halloc { l := H.l,d := none } (.arr 1 [] (t_string N))) H.l.length none) (.arr 1 (b.map avStr) (t_string N))) [] := (((Mut.refl _ []).alloc _).set (.inr (Nat.le_refl _))).alloc _
   have hs := settle_some (H := H) (H' := halloc (hset (halloc { l := H.l,d := none } (.arr 1 [] (t_string N))) H.l.length none) (.arr 1 (b.map avStr) (t_string N))) (v := .ra 1 (H.l.length + 1) 0 b.length) (by simp [AV.under])
   simp [C_slices_Clone_sl_string_string,fillA,repl,setFrom,chunk,he,hE',ha,-halloc_d,-hset_d]
   rw [hs,hR]
   refine ⟨[(H.l.length + 1,.arr 1 (b.map avStr) (t_string N))],⟨.inr ⟨_,by simp,rfl⟩,hm.settled,?_⟩,fun e => absurd e hne⟩
   simp only [List.mem_singleton,forall_eq,Option.getD_some]
   refine ⟨?_,by omega⟩
   rw [hget_l]
   simp
  rcases hx with (⟨rfl,hb⟩ | rfl) | ⟨id,off,e,all,rfl,h1⟩
  ·apply h.callP (by rfl)
   simp [C_slices_Clone_sl_string_string,aeq_nilS]
   rw [hR]
   refine ⟨[],⟨?_,Mut.refl _ _,by simp⟩,fun _ => rfl⟩
   exact .inl ⟨rfl,hb,rfl⟩
  ·exact live aeq_sl (by simp)
  ·exact live aeq_ra (by simp)
 obtain ⟨⟨c,g⟩,e,os,h1,h2⟩ := key
 exact ⟨c,g,os,e,h1,h2⟩

theorem cloneI_call (h : Has Γ A (f_slices_Clone_sl_int_int N) (C_slices_Clone_sl_int_int N)) {x : AV} {b : List Int} {H : Hp} (hx : VI H x b) (hl : b.length < 2 ^ 36) :
  ∃ c g os,(lim Γ A).call (f_slices_Clone_sl_int_int N) [x] H = some (c,g) /\ Fresh H g c (b.map (avInt .i64)) (t_int N) os /\ (x = avNilS -> c = avNilS) := by
 have key : ∃ r,(lim Γ A).call (f_slices_Clone_sl_int_int N) [x] H = some r /\ ∃ os,Fresh H r.2 r.1 (b.map (avInt .i64)) (t_int N) os /\ (x = avNilS -> r.1 = avNilS) := by
  obtain ⟨R,hR⟩ : ∃ R : AV × Option Hp -> Prop,R = fun r => ∃ os,Fresh H r.2 r.1 (b.map (avInt .i64)) (t_int N) os /\ (x = avNilS -> r.1 = avNilS) := ⟨_,rfl⟩
  suffices ∃ r,(lim Γ A).call (f_slices_Clone_sl_int_int N) [x] H = some r /\ R r by simpa [hR] using this
  have live : aeq .pslice x (.lit (.slice none 0 0)) = some false -> x ≠ avNilS -> ∃ r,(lim Γ A).call (f_slices_Clone_sl_int_int N) [x] H = some r /\ R r := by
   intro he hne
   apply h.callP (by rfl)
   have hE := (hx.dd none).keep (H' := halloc { l := H.l,d := none } (.arr 1 [] (t_int N))) (fun id hid => by simp [hget_halloc,Nat.ne_of_lt hid])
   have hE' := hE.elems
   have ha : appendOn (halloc { l := H.l,d := none } (.arr 1 [] (t_int N))) (t_int N) 1 8 (.ra 1 H.l.length 0 0) (b.map (avInt .i64)) = some (.ra 1 (H.l.length + 1) 0 b.length,some (halloc (hset (halloc { l := H.l,d := none } (.arr 1 [] (t_int N))) H.l.length none) (.arr 1 (b.map (avInt .i64)) (t_int N)))) := by
    have hr : b.length * 8 <= roomMax := by unfold roomMax; omega
    have hq := appendOn_ra (H := halloc { l := H.l,d := none } (.arr 1 [] (t_int N))) (e := t_int N) (sz := 1) (bytes := 8) (id := H.l.length) (es := []) (ys := b.map (avInt .i64)) (by simp) (by simpa using hr) (by simp)
    simpa using hq
   have hm : Mut { l := H.l,d := none } (halloc (hset (halloc { l := H.l,d := none } (.arr 1 [] (t_int N))) H.l.length none) (.arr 1 (b.map (avInt .i64)) (t_int N))) [] := (((Mut.refl _ []).alloc _).set (.inr (Nat.le_refl _))).alloc _
   have hs := settle_some (H := H) (H' := halloc (hset (halloc { l := H.l,d := none } (.arr 1 [] (t_int N))) H.l.length none) (.arr 1 (b.map (avInt .i64)) (t_int N))) (v := .ra 1 (H.l.length + 1) 0 b.length) (by simp [AV.under])
   simp [C_slices_Clone_sl_int_int,fillA,repl,setFrom,chunk,he,hE',ha,-halloc_d,-hset_d]
   rw [hs,hR]
   refine ⟨[(H.l.length + 1,.arr 1 (b.map (avInt .i64)) (t_int N))],⟨.inr ⟨_,by simp,rfl⟩,hm.settled,?_⟩,fun e => absurd e hne⟩
   simp only [List.mem_singleton,forall_eq,Option.getD_some]
   refine ⟨?_,by omega⟩
   rw [hget_l]
   simp
  rcases hx with (⟨rfl,hb⟩ | rfl) | ⟨id,off,e,all,rfl,h1⟩
  ·apply h.callP (by rfl)
   simp [C_slices_Clone_sl_int_int,aeq_nilS]
   rw [hR]
   refine ⟨[],⟨?_,Mut.refl _ _,by simp⟩,fun _ => rfl⟩
   exact .inl ⟨rfl,hb,rfl⟩
  ·exact live aeq_sl (by simp)
  ·exact live aeq_ra (by simp)
 obtain ⟨⟨c,g⟩,e,os,h1,h2⟩ := key
 exact ⟨c,g,os,e,h1,h2⟩

theorem Fresh.vw {H : Hp} {g : Option Hp} {c : AV} {es : List AV} {e : TypeId} {os : List (Nat × AObj)} (h : Fresh H g c es e os) : Vw (g.getD H) 1 c es := by
 rcases h.row with ⟨rfl,r2,rfl⟩ | ⟨id,rfl,rfl⟩
 ·exact .inl (.inl ⟨rfl,r2⟩)
 ·exact .inr ⟨id,0,e,es,rfl,(h.has _ (List.mem_singleton.2 rfl)).1,by omega,List.take_of_length_le (by simp)⟩
end
end Go.Proofs.Eng
namespace Go.Proofs.Eng
open Go
def nxt (H : Hp) : Option Hp -> Hp
 | none => H
 | some H' => { l := H'.l,d := dminO H.d H'.d }
theorem bindH1_nxt {v : AV} {g : Option Hp} {H : Hp} {Q : AV -> Hp -> Prop} {m : Mk Q} {m' : Mk H} (hk : ∀ H',g = some H' -> keeps H H' = true) : bindH1 (some (v,g)) H Q m m' = Q v (nxt H g) := by
 apply propext
 cases g with
 | none => rw [bindH1_none]; rfl
 | some H' =>
  constructor
  ·rintro ⟨u,h,e,k⟩
   simp only [Option.some.injEq,Prod.mk.injEq] at e
   obtain ⟨rfl,rfl⟩ := e
   exact k.2
  ·intro k
   exact ⟨v,some H',rfl,hk H' rfl,k⟩
theorem nxt_mut {H : Hp} {g : Option Hp} (h : Mut { l := H.l,d := none } (g.getD { l := H.l,d := none }) []) : Mut H (nxt H g) [] := by
 cases g with
 | none => exact Mut.refl _ _
 | some H' => exact Mut.settled h
theorem nxt_l {H : Hp} {g : Option Hp} : (nxt H g).l = (g.getD { l := H.l,d := none }).l := by cases g <;> rfl
theorem nxt_keeps {H : Hp} {g : Option Hp} (h : Mut { l := H.l,d := none } (g.getD { l := H.l,d := none }) []) : ∀ H',g = some H' -> keeps H H' = true := by
 rintro H' rfl
 exact Mut.keeps (H := { l := H.l,d := none }) h rfl
theorem Vw.of_l {H H' : Hp} {sz : Nat} {x : AV} {es : List AV} (h : Vw H sz x es) (e : H.l = H'.l) : Vw H' sz x es := h.keep fun id _ => by unfold hget; rw [e]
theorem settle_row {H H' : Hp} {x v : AV} {es : List AV} {g : Option Hp} (hm : Mut { l := H.l,d := none } H' []) (e : settle H v H' = (v,g)) (hx : Vw H' 1 x es) (hu : g = none -> x.under H.l.length = true) : Vw (g.getD H) 1 x es := by
 unfold settle at e
 split at e
 ·simp only [Prod.mk.injEq,true_and] at e
  subst e
  have := hu rfl
  rcases hx with hx | ⟨id,off,t,all,rfl,h1,h2⟩
  ·exact .inl hx
  ·refine .inr ⟨id,off,t,all,rfl,?_,h2⟩
   have hid : id < H.l.length := by simpa [AV.under] using this
   rw [<- h1]
   exact (hm.get (i := id) hid (by simp)).symm
 ·simp only [Prod.mk.injEq,true_and] at e
  subst e
  exact hx.keep fun id _ => rfl
theorem settle_mut0 {H H' : Hp} {v : AV} {g : Option Hp} (hm : Mut { l := H.l,d := none } H' []) (e : settle H v H' = (v,g)) : Mut H (g.getD H) [] := by
 unfold settle at e
 split at e
 ·simp only [Prod.mk.injEq,true_and] at e
  subst e
  exact Mut.refl _ _
 ·simp only [Prod.mk.injEq,true_and] at e
  subst e
  exact Mut.settled hm
theorem settle_under {H H' : Hp} {v y : AV} {g : Option Hp} (e : settle H v H' = (y,g)) : y = v /\ (g = none -> v.under H.l.length = true) := by
 unfold settle at e
 split at e
 ·rename_i h
  simp only [Prod.mk.injEq] at e
  rw [Bool.and_eq_true] at h
  exact ⟨e.1.symm,fun _ => h.2⟩
 ·simp only [Prod.mk.injEq] at e
  refine ⟨e.1.symm,fun h => ?_⟩
  rw [<- e.2] at h
  cases h
theorem Vw.setC {H : Hp} {sz p : Nat} {x : AV} {es cs : List AV} {t : TypeId} {o : Option AObj} (h : Vw H sz x es) (hp : hget H p = some (.cells cs t)) : Vw (hset H p o) sz x es := by
 rcases h with h | ⟨id,off,e,all,h0,h1,h2⟩
 ·exact .inl h
 ·refine .inr ⟨id,off,e,all,h0,?_,h2⟩
  rw [hget_hset,if_neg]
  ·exact h1
  ·rintro rfl
   rw [h1] at hp
   cases hp
section
variable {Γ : Sums} {A : Tab} {N : Nat -> Nat}
def liveV (v : AV) : Prop := v = avNilS \/ ∃ id n,v = .ra 1 id 0 n
def liveN (y : AV) : Prop := ∃ k p s i b na nb nc,y = .agg [k,p,s,i,b,na,nb,nc] /\ liveV na /\ liveV nb
def liveT (y : AV) : Prop := ∃ k p s na nb o,y = .agg [k,p,s,na,nb,o] /\ liveV nb
theorem Row.live {e : TypeId} {x : AV} {es : List AV} {os : List (Nat × AObj)} (h : Row e 1 x es os) : liveV x := by
 rcases h with ⟨h,_⟩ | ⟨id,h,_⟩
 ·exact .inl h
 ·exact .inr ⟨id,_,h⟩
theorem cloneTerm_call (h : TreeB Γ A N) {H : Hp} {x : AV} {n : Nd} (hx : NdR H x n) (ok : n.ok) : ∃ y g,(lim Γ A).call (f_tree_cloneTerm N) [x] H = some (y,g) /\ NdR (g.getD H) y n /\ Mut H (g.getD H) [] /\ liveN y := by
 obtain ⟨a,b,c,rfl,ha,hb,hc⟩ := hx
 obtain ⟨o1,o2,o3,o4,o5⟩ := ok
 obtain ⟨R,hR⟩ : ∃ R : AV × Option Hp -> Prop,R = fun r => NdR (r.2.getD H) r.1 n /\ Mut H (r.2.getD H) [] /\ liveN r.1 := ⟨_,rfl⟩
 suffices ∃ r,(lim Γ A).call (f_tree_cloneTerm N) [ndV n a b c] H = some r /\ R r by
  obtain ⟨⟨y,g⟩,e,hr⟩ := this
  rw [hR] at hr
  exact ⟨y,g,e,hr⟩
 have pa := ha.one
 have pb := hb.one
 have pc := hc.one
 obtain ⟨Hb,hHb⟩ : ∃ Hb,Hb = halloc (halloc { l := H.l,d := none } (.cells [avInt .i64 n.kind,avInt .i64 n.pos,avStr n.name,avInt .i64 n.int,avInt .u64 n.bits,a,b,c] (t_api_Node N))) (.cells [.lit (.int .i64 0),.lit (.int .i64 0),.lit (.string (mkS [])),.lit (.int .i64 0),.lit (.int .u64 0),.lit (.slice none 0 0),.lit (.slice none 0 0),.lit (.slice none 0 0)] (t_api_Node N)) := ⟨_,rfl⟩
 have hMb : Mut { l := H.l,d := none } Hb [] := by rw [hHb]; exact ((Mut.refl _ _).alloc _).alloc _
 have kb : Keep H Hb := fun id hid => hMb.get hid (by simp)
 have hlb : Hb.l.length = H.l.length + 2 := by rw [hHb]; simp
 have f1 : hget Hb H.l.length = some (.cells [avInt .i64 n.kind,avInt .i64 n.pos,avStr n.name,avInt .i64 n.int,avInt .u64 n.bits,a,b,c] (t_api_Node N)) := by rw [hHb]; simp
 have f2 : hget Hb (H.l.length + 1) = some (.cells [.lit (.int .i64 0),.lit (.int .i64 0),.lit (.string (mkS [])),.lit (.int .i64 0),.lit (.int .u64 0),.lit (.slice none 0 0),.lit (.slice none 0 0),.lit (.slice none 0 0)] (t_api_Node N)) := by rw [hHb]; simp
 have hHb' := hHb.symm
 obtain ⟨c1,g1,os1,e1,F1,_⟩ := cloneS_call h.cs (H := { l := Hb.l,d := none }) ((kb.vw ha).of_l rfl) (by omega)
 have hM1 := nxt_mut (H := Hb) F1.wr
 obtain ⟨N1,hN1⟩ : ∃ N1,N1 = nxt Hb g1 := ⟨_,rfl⟩
 rw [<- hN1] at hM1
 have k1 : Keep Hb N1 := hM1.kp
 obtain ⟨c2,g2,os2,e2,F2,_⟩ := cloneI_call h.ci (H := { l := N1.l,d := none }) ((k1.vw (kb.vw hb)).of_l rfl) (by omega)
 have hM2 := nxt_mut (H := N1) F2.wr
 obtain ⟨N2,hN2⟩ : ∃ N2,N2 = nxt N1 g2 := ⟨_,rfl⟩
 rw [<- hN2] at hM2
 have k2 : Keep N1 N2 := hM2.kp
 obtain ⟨c3,g3,os3,e3,F3,_⟩ := cloneI_call h.ci (H := N2) (k2.vw (k1.vw (kb.vw hc))) (by omega)
 obtain ⟨N3,hN3⟩ : ∃ N3,N3 = g3.getD N2 := ⟨_,rfl⟩
 have hM3 := F3.wr
 rw [<- hN3] at hM3
 have V1 : VS N1 c1 n.names := by rw [hN1]; exact F1.vw.of_l nxt_l.symm
 have V2 : VI N2 c2 n.kids := by rw [hN2]; exact F2.vw.of_l nxt_l.symm
 have V3 : VI N3 c3 n.types := by rw [hN3]; exact F3.vw
 have l1 := hM1.len
 have l2 := hM2.len
 have l3 := hM3.len
 have V1' : VS N3 c1 n.names := hM3.kp.vw (hM2.kp.vw V1)
 have V2' : VI N3 c2 n.kids := hM3.kp.vw V2
 have hMall : Mut { l := H.l,d := none } N3 [] := ((hMb.trans hM1 (by simp)).trans hM2 (by simp)).trans hM3 (by simp)
 have t1 : hget N3 H.l.length = some (.cells [avInt .i64 n.kind,avInt .i64 n.pos,avStr n.name,avInt .i64 n.int,avInt .u64 n.bits,a,b,c] (t_api_Node N)) := hM3.get' (hM2.get' (hM1.get' f1 (by simp)) (by simp)) (by simp)
 have t2 : hget N3 (H.l.length + 1) = some (.cells [.lit (.int .i64 0),.lit (.int .i64 0),.lit (.string (mkS [])),.lit (.int .i64 0),.lit (.int .u64 0),.lit (.slice none 0 0),.lit (.slice none 0 0),.lit (.slice none 0 0)] (t_api_Node N)) := hM3.get' (hM2.get' (hM1.get' f2 (by simp)) (by simp)) (by simp)
 have t1l := hget_lt t1
 have t2l := hget_lt t2
 have q1 := Vw.cg V1
 have q2 := Vw.cg V2
 have q3 := Vw.cg V3
 have q4 := V1.one
 have q5 := V2.one
 have q6 := V3.one
 have b1 : ∀ (Hx : Hp) (Q : AV -> Hp -> Prop) (m : Mk Q) (m' : Mk Hx),Hx = Hb -> bindH1 (some (c1,g1)) Hx Q m m' = Q c1 N1 := by
  rintro Hx Q m m' rfl
  rw [bindH1_nxt (nxt_keeps F1.wr),hN1]
 have b2 : ∀ (Hx : Hp) (Q : AV -> Hp -> Prop) (m : Mk Q) (m' : Mk Hx),Hx = N1 -> bindH1 (some (c2,g2)) Hx Q m m' = Q c2 N2 := by
  rintro Hx Q m m' rfl
  rw [bindH1_nxt (nxt_keeps F2.wr),hN2]
 have u1 : hget Hb H.l.length = some (.cells [avInt .i64 n.kind,avInt .i64 n.pos,avStr n.name,avInt .i64 n.int,avInt .u64 n.bits,a,b,c] (t_api_Node N)) := f1
 apply h.ct.callP (by rfl)
 unfold ndV
 simp [C_tree_cloneTerm,pa,pb,pc,hHb',f1,loadC,e1,b1,e2,b2,e3,bindH_opt,hN3.symm,t1,t2,t1l,t2l,q1,q2,q3,q4,q5,q6,-halloc_d,-hset_d]
 have fin : ∀ cA cB cC cD : AObj,∀ csA csB csC,∀ tA tB tC,cA = .cells csA tA -> cB = .cells csB tB -> cC = .cells csC tC -> R (settle H (ndV n c1 c2 c3) (hset (hset (hset (hset N3 H.l.length (some cA)) H.l.length (some cB)) H.l.length (some cC)) (H.l.length + 1) (some cD))) := by
  rintro cA cB cC cD csA csB csC tA tB tC rfl rfl rfl
  have m1 := (((hMall.set (i := H.l.length) (o := some (.cells csA tA)) (.inr (Nat.le_refl _))).set (i := H.l.length) (o := some (.cells csB tB)) (.inr (Nat.le_refl _))).set (i := H.l.length) (o := some (.cells csC tC)) (.inr (Nat.le_refl _))).set (i := H.l.length + 1) (o := some cD) (.inr (Nat.le_succ _))
  have vv : ∀ {z : AV} {es : List AV},Vw N3 1 z es -> Vw (hset (hset (hset (hset N3 H.l.length (some (.cells csA tA))) H.l.length (some (.cells csB tB))) H.l.length (some (.cells csC tC))) (H.l.length + 1) (some cD)) 1 z es := by
   intro z es hz
   have w1 := hz.setC (o := some (.cells csA tA)) t1
   have w2 := w1.setC (p := H.l.length) (o := some (.cells csB tB)) (cs := csA) (t := tA) (by rw [hget_hset,if_pos rfl]; simp [t1l])
   have w3 := w2.setC (p := H.l.length) (o := some (.cells csC tC)) (cs := csB) (t := tB) (by rw [hget_hset,if_pos rfl]; simp [t1l])
   exact w3.setC (p := H.l.length + 1) (cs := _) (t := _) (by
    rw [hget_hset,if_neg (by omega),hget_hset,if_neg (by omega),hget_hset,if_neg (by omega)]
    exact t2)
  rcases es : settle H (ndV n c1 c2 c3) (hset (hset (hset (hset N3 H.l.length (some (.cells csA tA))) H.l.length (some (.cells csB tB))) H.l.length (some (.cells csC tC))) (H.l.length + 1) (some cD)) with ⟨y,g⟩
  obtain ⟨rfl,hu⟩ := settle_under es
  have hu' : g = none -> c1.under H.l.length = true /\ c2.under H.l.length = true /\ c3.under H.l.length = true := fun hg => by
   have := hu hg
   simp [ndV,AV.under,AV.unders] at this
   exact ⟨this.1,this.2.1,this.2.2⟩
  rw [hR]
  exact ⟨⟨c1,c2,c3,rfl,settle_row m1 es (vv V1') (fun hg => (hu' hg).1),settle_row m1 es (vv V2') (fun hg => (hu' hg).2.1),settle_row m1 es (vv V3) (fun hg => (hu' hg).2.2)⟩,settle_mut0 m1 es,_,_,_,_,_,_,_,_,rfl,F1.row.live,F2.row.live⟩
 exact fin _ _ _ _ _ _ _ _ _ _ rfl rfl rfl
theorem cloneType_call (h : TreeB Γ A N) {H : Hp} {x : AV} {n : Ty} (hx : TyR H x n) (ok : n.ok) : ∃ y g,(lim Γ A).call (f_tree_cloneType N) [x] H = some (y,g) /\ TyR (g.getD H) y n /\ Mut H (g.getD H) [] /\ liveT y := by
 obtain ⟨a,b,rfl,ha,hb⟩ := hx
 obtain ⟨o1,o2,o3,o4⟩ := ok
 obtain ⟨R,hR⟩ : ∃ R : AV × Option Hp -> Prop,R = fun r => TyR (r.2.getD H) r.1 n /\ Mut H (r.2.getD H) [] /\ liveT r.1 := ⟨_,rfl⟩
 suffices ∃ r,(lim Γ A).call (f_tree_cloneType N) [tyV n a b] H = some r /\ R r by
  obtain ⟨⟨y,g⟩,e,hr⟩ := this
  rw [hR] at hr
  exact ⟨y,g,e,hr⟩
 have pa := ha.one
 have pb := hb.one
 obtain ⟨Hb,hHb⟩ : ∃ Hb,Hb = halloc (halloc { l := H.l,d := none } (.cells [avInt .i64 n.kind,avInt .i64 n.pos,avStr n.name,a,b,avBool n.opn] (t_api_TypeNode N))) (.cells [.lit (.int .i64 0),.lit (.int .i64 0),.lit (.string (mkS [])),.lit (.slice none 0 0),.lit (.slice none 0 0),.lit (.bool false)] (t_api_TypeNode N)) := ⟨_,rfl⟩
 have hMb : Mut { l := H.l,d := none } Hb [] := by rw [hHb]; exact ((Mut.refl _ _).alloc _).alloc _
 have kb : Keep H Hb := fun id hid => hMb.get hid (by simp)
 have hlb : Hb.l.length = H.l.length + 2 := by rw [hHb]; simp
 have f1 : hget Hb H.l.length = some (.cells [avInt .i64 n.kind,avInt .i64 n.pos,avStr n.name,a,b,avBool n.opn] (t_api_TypeNode N)) := by rw [hHb]; simp
 have f2 : hget Hb (H.l.length + 1) = some (.cells [.lit (.int .i64 0),.lit (.int .i64 0),.lit (.string (mkS [])),.lit (.slice none 0 0),.lit (.slice none 0 0),.lit (.bool false)] (t_api_TypeNode N)) := by rw [hHb]; simp
 have hHb' := hHb.symm
 obtain ⟨c1,g1,os1,e1,F1,_⟩ := cloneS_call h.cs (H := { l := Hb.l,d := none }) ((kb.vw ha).of_l rfl) (by omega)
 have hM1 := nxt_mut (H := Hb) F1.wr
 obtain ⟨N1,hN1⟩ : ∃ N1,N1 = nxt Hb g1 := ⟨_,rfl⟩
 rw [<- hN1] at hM1
 have k1 : Keep Hb N1 := hM1.kp
 obtain ⟨c2,g2,os2,e2,F2,_⟩ := cloneI_call h.ci (H := N1) (k1.vw (kb.vw hb)) (by omega)
 obtain ⟨N3,hN3⟩ : ∃ N3,N3 = g2.getD N1 := ⟨_,rfl⟩
 have hM2 := F2.wr
 rw [<- hN3] at hM2
 have V1 : VS N1 c1 n.names := by rw [hN1]; exact F1.vw.of_l nxt_l.symm
 have V2' : VI N3 c2 n.kids := by rw [hN3]; exact F2.vw
 have l1 := hM1.len
 have l2 := hM2.len
 have V1' : VS N3 c1 n.names := hM2.kp.vw V1
 have hMall : Mut { l := H.l,d := none } N3 [] := (hMb.trans hM1 (by simp)).trans hM2 (by simp)
 have t1 : hget N3 H.l.length = some (.cells [avInt .i64 n.kind,avInt .i64 n.pos,avStr n.name,a,b,avBool n.opn] (t_api_TypeNode N)) := hM2.get' (hM1.get' f1 (by simp)) (by simp)
 have t2 : hget N3 (H.l.length + 1) = some (.cells [.lit (.int .i64 0),.lit (.int .i64 0),.lit (.string (mkS [])),.lit (.slice none 0 0),.lit (.slice none 0 0),.lit (.bool false)] (t_api_TypeNode N)) := hM2.get' (hM1.get' f2 (by simp)) (by simp)
 have t1l := hget_lt t1
 have t2l := hget_lt t2
 have q1 := Vw.cg V1
 have q2 := Vw.cg V2'
 have q4 := V1.one
 have q5 := V2'.one
 have b1 : ∀ (Hx : Hp) (Q : AV -> Hp -> Prop) (m : Mk Q) (m' : Mk Hx),Hx = Hb -> bindH1 (some (c1,g1)) Hx Q m m' = Q c1 N1 := by
  rintro Hx Q m m' rfl
  rw [bindH1_nxt (nxt_keeps F1.wr),hN1]
 have u1 : hget Hb H.l.length = some (.cells [avInt .i64 n.kind,avInt .i64 n.pos,avStr n.name,a,b,avBool n.opn] (t_api_TypeNode N)) := f1
 apply h.cy.callP (by rfl)
 unfold tyV
 simp [C_tree_cloneType,pa,pb,hHb',f1,loadC,e1,b1,e2,bindH_opt,hN3.symm,t1,t2,t1l,t2l,q1,q2,q4,q5,-halloc_d,-hset_d]
 have fin : ∀ cA cB cD : AObj,∀ csA csB,∀ tA tB,cA = .cells csA tA -> cB = .cells csB tB -> R (settle H (tyV n c1 c2) (hset (hset (hset N3 H.l.length (some cA)) H.l.length (some cB)) (H.l.length + 1) (some cD))) := by
  rintro cA cB cD csA csB tA tB rfl rfl
  have m1 := ((hMall.set (i := H.l.length) (o := some (.cells csA tA)) (.inr (Nat.le_refl _))).set (i := H.l.length) (o := some (.cells csB tB)) (.inr (Nat.le_refl _))).set (i := H.l.length + 1) (o := some cD) (.inr (Nat.le_succ _))
  have vv : ∀ {z : AV} {es : List AV},Vw N3 1 z es -> Vw (hset (hset (hset N3 H.l.length (some (.cells csA tA))) H.l.length (some (.cells csB tB))) (H.l.length + 1) (some cD)) 1 z es := by
   intro z es hz
   have w1 := hz.setC (o := some (.cells csA tA)) t1
   have w2 := w1.setC (p := H.l.length) (o := some (.cells csB tB)) (cs := csA) (t := tA) (by rw [hget_hset,if_pos rfl]; simp [t1l])
   exact w2.setC (p := H.l.length + 1) (cs := _) (t := _) (by
    rw [hget_hset,if_neg (by omega),hget_hset,if_neg (by omega)]
    exact t2)
  rcases es : settle H (tyV n c1 c2) (hset (hset (hset N3 H.l.length (some (.cells csA tA))) H.l.length (some (.cells csB tB))) (H.l.length + 1) (some cD)) with ⟨y,g⟩
  obtain ⟨rfl,hu⟩ := settle_under es
  have hu' : g = none -> c1.under H.l.length = true /\ c2.under H.l.length = true := fun hg => by
   have := hu hg
   simp [tyV,AV.under,AV.unders] at this
   exact ⟨this.1,this.2⟩
  rw [hR]
  exact ⟨⟨c1,c2,rfl,settle_row m1 es (vv V1') (fun hg => (hu' hg).1),settle_row m1 es (vv V2') (fun hg => (hu' hg).2)⟩,settle_mut0 m1 es,_,_,_,_,_,_,rfl,F2.row.live⟩
 exact fin _ _ _ _ _ _ _ rfl rfl
end
end Go.Proofs.Eng
namespace Go.Proofs.Eng
open Go
structure BRow {α : Type} (Q : Hp -> AV -> α -> Prop) (H : Hp) (n0 : Nat) (e : TypeId) (sz : Nat) (x : AV) (l : List α) : Prop where
 row : ∃ xs,RowAt H e sz x xs /\ xs.length = l.length /\ (∀ (i : Nat) (y : AV) (n : α),xs[i]? = some y -> l[i]? = some n -> Q H y n) /\ xs.all (fun y => y.good && y.cells.length == sz) = true
 old : ∀ id,kid x = some id -> n0 <= id
theorem Vw.keepA {H G : Hp} {sz : Nat} {x : AV} {es : List AV} (h : Vw H sz x es) (k : ∀ id es e,hget H id = some (.arr sz es e) -> hget G id = some (.arr sz es e)) : Vw G sz x es := by
 rcases h with h | ⟨id,off,e,all,h0,h1,h2⟩
 ·exact .inl h
 ·exact .inr ⟨id,off,e,all,h0,k _ _ _ h1,h2⟩
theorem NdR.keepA {H G : Hp} {x : AV} {n : Nd} (h : NdR H x n) (k : ∀ id es e,hget H id = some (.arr 1 es e) -> hget G id = some (.arr 1 es e)) : NdR G x n := by
 obtain ⟨a,b,c,e,h1,h2,h3⟩ := h
 exact ⟨a,b,c,e,h1.keepA k,h2.keepA k,h3.keepA k⟩
theorem TyR.keepA {H G : Hp} {x : AV} {n : Ty} (h : TyR H x n) (k : ∀ id es e,hget H id = some (.arr 1 es e) -> hget G id = some (.arr 1 es e)) : TyR G x n := by
 obtain ⟨a,b,e,h1,h2⟩ := h
 exact ⟨a,b,e,h1.keepA k,h2.keepA k⟩
theorem BRow.keepA {α : Type} {Q : Hp -> AV -> α -> Prop} {H G : Hp} {n0 : Nat} {e : TypeId} {sz : Nat} {x : AV} {l : List α} (h : BRow Q H n0 e sz x l) (hq : ∀ x n,Q H x n -> Q G x n) (k : ∀ id es e,hget H id = some (.arr sz es e) -> hget G id = some (.arr sz es e)) : BRow Q G n0 e sz x l := by
 obtain ⟨⟨xs,h1,h2,h3,h4⟩,h5⟩ := h
 exact ⟨⟨xs,h1.keep fun id o ho hk => by
  rcases h1 with ⟨rfl,_⟩ | ⟨id',rfl,h⟩
  ·cases hk
  ·simp only [kid,Option.some.injEq] at hk
   subst hk
   rw [h] at ho
   simp only [Option.some.injEq] at ho
   subst ho
   exact k _ _ _ h,h2,fun i y n a b => hq _ _ (h3 i y n a b),h4⟩,h5⟩
theorem BRow.push {α : Type} {Q : Hp -> AV -> α -> Prop} {H : Hp} {n0 : Nat} {e : TypeId} {sz bytes : Nat} {x y : AV} {l : List α} {a : α} (h : BRow Q H n0 e sz x l) (hs : sz ≠ 1) (hn0 : n0 <= H.l.length) (hy : (y.good && y.cells.length == sz) = true) (hb : (l.length + 1) * bytes <= roomMax) (hqa : Q H y a) (hq : ∀ G x n,Q H x n -> (∀ id es e,hget H id = some (.arr 1 es e) -> hget G id = some (.arr 1 es e)) -> Q G x n) :
  ∃ v H',appendOn (halloc H (.arr sz [y] e)) e sz bytes x [y] = some (v,some H') /\ v.good = true /\ v.cells = [v] /\ asLen v = some (l.length + 1) /\ BRow Q H' n0 e sz v (l ++ [a]) /\ H.l.length + 2 <= H'.l.length /\ (∀ id o,id < n0 -> hget H id = some o -> hget H' id = some o) /\ (∀ id o,hget H id = some o -> (∀ es,o ≠ .arr sz es e) -> hget H' id = some o) /\ (∀ B,Mut B H [] -> B.l.length <= n0 -> Mut B H' []) := by
 obtain ⟨⟨xs,h1,h2,h3,h4⟩,h5⟩ := h
 have h1' : RowAt (halloc H (.arr sz [y] e)) e sz x xs := h1.alloc _
 obtain ⟨v,G,a1,a2,a3,a4,a5,a6⟩ := h1'.app (bytes := bytes) (ys := [y]) (by simp) (by rw [h2]; simpa using hb) (by simpa using hy)
 have keep : ∀ id o,hget H id = some o -> (∀ es,o ≠ .arr sz es e) -> hget G id = some o := fun id o ho hne => by
  refine a5 id o ?_ ?_
  ·rw [hget_halloc,if_neg (Nat.ne_of_lt (hget_lt ho))]; exact ho
  ·intro hk
   rcases h1 with ⟨rfl,_⟩ | ⟨id',rfl,h⟩
   ·cases hk
   ·simp only [kid,Option.some.injEq] at hk
    subst hk
    rw [h] at ho
    simp only [Option.some.injEq] at ho
    exact hne _ ho.symm
 have keep1 : ∀ id es' e',hget H id = some (.arr 1 es' e') -> hget G id = some (.arr 1 es' e') := fun id es' e' ho => keep id _ ho (fun es he => by
  simp only [AObj.arr.injEq] at he
  exact hs he.1.symm)
 refine ⟨v,G,a1,by rw [a2]; rfl,by rw [a2]; rfl,by rw [a2]; simp [asLen,h2],⟨⟨xs ++ [y],.inr ⟨_,a2,a3⟩,by simp [h2],fun i z n hz hn => ?_,by rw [List.all_append,h4]; simpa using hy⟩,fun id hk => ?_⟩,by rw [a4]; simp,fun id o hid hg => ?_,keep,fun B hB hBn => a6 B [] (hB.alloc _) (fun j hj => Nat.le_trans hBn (h5 j hj))⟩
 ·by_cases hi : i < xs.length
  ·rw [List.getElem?_append_left hi] at hz
   rw [List.getElem?_append_left (by omega)] at hn
   exact hq _ _ _ (h3 i z n hz hn) keep1
  ·have hlt := (List.getElem?_eq_some_iff.1 hz).1
   simp at hlt
   have hi2 : i = xs.length := by omega
   subst hi2
   rw [List.getElem?_append_right (Nat.le_refl _)] at hz
   rw [List.getElem?_append_right (by omega)] at hn
   simp [h2] at hz hn
   subst hz
   subst hn
   exact hq _ _ _ hqa keep1
 ·rw [a2] at hk
  simp only [kid,Option.some.injEq] at hk
  subst hk
  simp; omega
 ·refine a5 id o ?_ ?_
  ·rw [hget_halloc,if_neg (Nat.ne_of_lt (hget_lt hg))]; exact hg
  ·intro hk
   have := h5 id hk
   omega
theorem RowR.more {α : Type} {Q : Hp -> AV -> α -> Prop} {sz : Nat} {H G : Hp} {x : AV} {l : List α} (h : RowR Q sz H x l) (k : ∀ id o,hget H id = some o -> hget G id = some o) (hq : ∀ x n,Q H x n -> Q G x n) : RowR Q sz G x l := by
 obtain ⟨xs,h1,h2,h3⟩ := h
 exact ⟨xs,h1.keepA fun id es e => k id _,h2,fun i y n a b => hq _ _ (h3 i y n a b)⟩
theorem TrR.more {H G : Hp} {x : AV} {t : Tr} (h : TrR H x t) (k : ∀ id o,hget H id = some o -> hget G id = some o) : TrR G x t := by
 obtain ⟨a,b,c,e,h1,h2,h3⟩ := h
 exact ⟨a,b,c,e,h1.more k fun _ _ h => h.keepA fun id es e => k id _,h2.more k fun _ _ h => h.keepA fun id es e => k id _,h3.more k fun _ _ h => h⟩
end Go.Proofs.Eng
namespace Go.Proofs.Eng
open Go
theorem al_row {H : Hp} {x : AV} {l : List Al} (h : RowR AlR 3 H x l) : Vw H 3 x (l.map alV) := by
 obtain ⟨xs,h1,h2,h3⟩ := h
 have : xs = l.map alV := by
  apply List.ext_getElem?
  intro i
  by_cases hi : i < xs.length
  ·rw [List.getElem?_eq_getElem hi,List.getElem?_map,List.getElem?_eq_getElem (by omega)]
   have := h3 i xs[i] l[i] (List.getElem?_eq_getElem hi) (List.getElem?_eq_getElem (by omega))
   rw [this]; rfl
  ·rw [List.getElem?_eq_none (by omega),List.getElem?_eq_none (by simp; omega)]
 rw [<- this]; exact h1
theorem row_al {H : Hp} {x : AV} {l : List Al} (h : Vw H 3 x (l.map alV)) : RowR AlR 3 H x l :=
 ⟨_,h,by simp,fun i y n hy hn => by rw [List.getElem?_map,hn] at hy; show y = alV n; simpa using hy.symm⟩
section
variable {Γ : Sums} {A : Tab} {N : Nat -> Nat}
theorem cloneA_call (h : Has Γ A (f_slices_Clone_sl_api_Alias_api_Alias N) (C_slices_Clone_sl_api_Alias_api_Alias N)) {H : Hp} {x : AV} {l : List Al} (hx : RowR AlR 3 H x l) (hl : l.length < 2 ^ 30) :
  ∃ c g,(lim Γ A).call (f_slices_Clone_sl_api_Alias_api_Alias N) [x] H = some (c,g) /\ RowR AlR 3 (g.getD H) c l /\ Mut H (g.getD H) [] := by
 have hv := al_row hx
 obtain ⟨R,hR⟩ : ∃ R : AV × Option Hp -> Prop,R = fun r => RowR AlR 3 (r.2.getD H) r.1 l /\ Mut H (r.2.getD H) [] := ⟨_,rfl⟩
 suffices ∃ r,(lim Γ A).call (f_slices_Clone_sl_api_Alias_api_Alias N) [x] H = some r /\ R r by
  obtain ⟨⟨y,g⟩,e,hr⟩ := this
  rw [hR] at hr
  exact ⟨y,g,e,hr⟩
 have live : aeq .pslice x (.lit (.slice none 0 0)) = some false -> ∃ r,(lim Γ A).call (f_slices_Clone_sl_api_Alias_api_Alias N) [x] H = some r /\ R r := by
  intro he
  apply h.callP (by rfl)
  have hE := (hv.dd none).keep (H' := halloc { l := H.l,d := none } (.arr 3 [] (t_api_Alias N))) (fun id hid => by simp [hget_halloc,Nat.ne_of_lt hid])
  have hE' := hE.elems
  have ha : appendOn (halloc { l := H.l,d := none } (.arr 3 [] (t_api_Alias N))) (t_api_Alias N) 3 32 (.ra 3 H.l.length 0 0) (l.map alV) = some (.ra 3 (H.l.length + 1) 0 l.length,some (halloc (hset (halloc { l := H.l,d := none } (.arr 3 [] (t_api_Alias N))) H.l.length none) (.arr 3 (l.map alV) (t_api_Alias N)))) := by
   have hr : l.length * 32 <= roomMax := by unfold roomMax; omega
   have hq := appendOn_ra (H := halloc { l := H.l,d := none } (.arr 3 [] (t_api_Alias N))) (e := t_api_Alias N) (sz := 3) (bytes := 32) (id := H.l.length) (es := []) (ys := l.map alV) (by simp) (by simpa using hr) (by simp [alV])
   simpa using hq
  have hm : Mut { l := H.l,d := none } (halloc (hset (halloc { l := H.l,d := none } (.arr 3 [] (t_api_Alias N))) H.l.length none) (.arr 3 (l.map alV) (t_api_Alias N))) [] := (((Mut.refl _ []).alloc _).set (.inr (Nat.le_refl _))).alloc _
  have hs := settle_some (H := H) (H' := halloc (hset (halloc { l := H.l,d := none } (.arr 3 [] (t_api_Alias N))) H.l.length none) (.arr 3 (l.map alV) (t_api_Alias N))) (v := .ra 3 (H.l.length + 1) 0 l.length) (by simp [AV.under])
  simp [C_slices_Clone_sl_api_Alias_api_Alias,fillA,repl,setFrom,chunk,he,hE',ha,-halloc_d,-hset_d]
  rw [hs,hR]
  refine ⟨row_al (.inr ⟨H.l.length + 1,0,t_api_Alias N,l.map alV,by simp,?_,by omega,List.take_of_length_le (by simp)⟩),hm.settled⟩
  simp only [Option.getD_some]
  rw [hget_l]
  simp
 rcases hv with (⟨rfl,hb⟩ | rfl) | ⟨id,off,e,all,rfl,h1⟩
 ·have e := cloneA_nil h H
  refine ⟨_,e,?_⟩
  rw [hR]
  exact ⟨hx,Mut.refl _ _⟩
 ·exact live aeq_sl
 ·exact live aeq_ra
end
end Go.Proofs.Eng
namespace Go.Proofs.Eng
open Go
section
variable {Γ : Sums} {A : Tab} {N : Nat -> Nat}
abbrev NdC (H : Hp) (y : AV) (n : Nd) : Prop := NdR H y n /\ liveN y
abbrev TyC (H : Hp) (y : AV) (n : Ty) : Prop := TyR H y n /\ liveT y
theorem NdC.keepA {H G : Hp} {x : AV} {n : Nd} (h : NdC H x n) (k : ∀ id es e,hget H id = some (.arr 1 es e) -> hget G id = some (.arr 1 es e)) : NdC G x n := ⟨NdR.keepA h.1 k,h.2⟩
theorem TyC.keepA {H G : Hp} {x : AV} {n : Ty} (h : TyC H x n) (k : ∀ id es e,hget H id = some (.arr 1 es e) -> hget G id = some (.arr 1 es e)) : TyC G x n := ⟨TyR.keepA h.1 k,h.2⟩
structure Cp (N : Nat -> Nat) (B : Hp) (q : Nat) (H : Hp) (sn st sa : AV) (nd : List Nd) (ty : List Ty) (al : List Al) : Prop where
 cell : hget H q = some (.cells [sn,st,sa] (t_api_Tree N))
 nds : BRow NdC H B.l.length (t_api_Node N) 8 sn nd
 tys : BRow TyC H B.l.length (t_api_TypeNode N) 6 st ty
 als : RowR AlR 3 H sa al
 mt : Mut { l := B.l,d := none } H []
 q0 : B.l.length <= q
theorem clone_round1 (h : TreeB Γ A N) {B H : Hp} {q b0 b1 : Nat} {sn st sa a b c : AV} {t : Tr} {i : Nat} {al : List Al} (hc : Cp N B q H sn st sa (t.nodes.take i) [] al) (ha : RowR NdR 8 B a t.nodes) (ok : ∀ n ∈ t.nodes,n.ok) (hl : t.nodes.length < 2 ^ 30) (hi : i < t.nodes.length)
  {ρ : Rho} {QQ : AX -> Rho -> Hp -> Prop} (r3 : ρ 3 = .ptr q 0) (r13 : ρ 13 = a) (r14 : ρ 14 = avInt .i64 (t.nodes.length : Nat)) (r15 : ρ 15 = avInt .i64 (i : Nat))
  (hQ : ∀ (ρ' : Rho) (G : Hp) (sn' : AV),Cp N B q G sn' st sa (t.nodes.take (i + 1)) [] al -> (∀ id cs tt,hget H id = some (.cells cs tt) -> id ≠ q -> hget G id = some (.cells cs tt)) -> ρ' 1 = ρ 1 -> ρ' 2 = ρ 2 -> ρ' 3 = ρ 3 -> ρ' 13 = ρ 13 -> ρ' 14 = ρ 14 -> ρ' 15 = avInt .i64 ((i + 1 : Nat) : Int) -> QQ .nrm ρ' G) :
  wp (lim Γ A) none (L_tree_Clone_1 N) ρ H QQ := by
 obtain ⟨cell,nds,tys,als,hmut,hq0⟩ := hc
 have hBl := hmut.len
 obtain ⟨xs,x1,x2,x3⟩ := id ha
 obtain ⟨n,hn⟩ : ∃ n,t.nodes[i]? = some n := ⟨_,List.getElem?_eq_getElem hi⟩
 obtain ⟨na,nb,nc,e0,va,vb,vc⟩ := x3 i xs[i] n (List.getElem?_eq_getElem (by omega)) hn
 have hx : xs[i]? = some (ndV n na nb nc) := by rw [List.getElem?_eq_getElem (by omega),e0]
 have kB : Keep B H := fun id hid => hmut.get (i := id) hid (by simp)
 have pa := va.one
 have pb := vb.one
 have pc := vc.one
 obtain ⟨p,p1,p2⟩ := (kB.vw x1).ats (k := .i64) (ys := [avInt .i64 n.kind,avInt .i64 n.pos,avStr n.name,avInt .i64 n.int,avInt .u64 n.bits,na,nb,nc]) hx rfl (by simp [pa,pb,pc])
 obtain ⟨Hc,hHc⟩ : ∃ Hc,Hc = hset (halloc H (.cells [.lit (.int .i64 0),.lit (.int .i64 0),.lit (.string (mkS [])),.lit (.int .i64 0),.lit (.int .u64 0),.lit (.slice none 0 0),.lit (.slice none 0 0),.lit (.slice none 0 0)] (t_api_Node N))) H.l.length (some (.cells [avInt .i64 n.kind,avInt .i64 n.pos,avStr n.name,avInt .i64 n.int,avInt .u64 n.bits,na,nb,nc] (t_api_Node N))) := ⟨_,rfl⟩
 have hHc' := hHc.symm
 have kHc : ∀ id o,hget H id = some o -> hget Hc id = some o := fun id o ho => by
  rw [hHc,hget_hset,if_neg (Nat.ne_of_lt (hget_lt ho)),hget_halloc,if_neg (Nat.ne_of_lt (hget_lt ho))]; exact ho
 have hMc : Mut { l := B.l,d := none } Hc [] := by rw [hHc]; exact (hmut.alloc _).set (.inr (by simpa using hBl))
 have fc : hget Hc H.l.length = some (.cells [avInt .i64 n.kind,avInt .i64 n.pos,avStr n.name,avInt .i64 n.int,avInt .u64 n.bits,na,nb,nc] (t_api_Node N)) := by rw [hHc,hget_hset,if_pos rfl]; simp
 have fq : hget Hc q = some (.cells [sn,st,sa] (t_api_Tree N)) := kHc q _ cell
 have kBc : Keep B Hc := fun id hid => hMc.get (i := id) hid (by simp)
 have hx' : NdR { l := Hc.l,d := none } (ndV n na nb nc) n := ⟨na,nb,nc,rfl,(kBc.vw va).of_l rfl,(kBc.vw vb).of_l rfl,(kBc.vw vc).of_l rfl⟩
 obtain ⟨y,g1,e1,y1,y2,yl⟩ := cloneTerm_call h hx' (ok n (List.mem_of_getElem? hn))
 have hM1 := nxt_mut (H := Hc) y2
 obtain ⟨N1,hN1⟩ : ∃ N1,N1 = nxt Hc g1 := ⟨_,rfl⟩
 rw [<- hN1] at hM1
 have yN : NdR N1 y n := y1.keepA fun id es e ho => by
  rw [hN1]
  unfold hget at ho ⊢
  rw [nxt_l]; exact ho
 have b1' : ∀ (Hx : Hp) (Q : AV -> Hp -> Prop) (m : Mk Q) (m' : Mk Hx),Hx = Hc -> bindH1 (some (y,g1)) Hx Q m m' = Q y N1 := by
  rintro Hx Q m m' rfl
  rw [bindH1_nxt (nxt_keeps y2),hN1]
 obtain ⟨a',b',c',rfl,wa,wb,wc⟩ := id yN
 have qa := wa.one
 have qb := wb.one
 have qc := wc.one
 have kN1 : ∀ id o,hget H id = some o -> hget N1 id = some o := fun id o ho => hM1.get' (kHc id o ho) (by simp)
 have hMN : Mut { l := B.l,d := none } N1 [] := hMc.trans hM1 (by simp)
 have nds' : BRow NdC N1 B.l.length (t_api_Node N) 8 sn (t.nodes.take i) := nds.keepA (fun _ _ h => h.keepA fun id es e => kN1 id _) (fun id es e => kN1 id _)
 have tys' : BRow TyC N1 B.l.length (t_api_TypeNode N) 6 st [] := tys.keepA (fun _ _ h => h.keepA fun id es e => kN1 id _) (fun id es e => kN1 id _)
 have htl : (t.nodes.take i).length = i := by simp; omega
 have hlN := hMN.len
 obtain ⟨v,G,s1,s2,s3,s4,s5,s6,s7,s8,s9⟩ := nds'.push (bytes := 120) (y := ndV n a' b' c') (a := n) (by simp) (by simpa using hlN) (by simp [ndV,qa,qb,qc]) (by rw [htl]; unfold roomMax; omega) ⟨yN,yl⟩ (fun G x n hq k => hq.keepA k)
 have gq : hget G q = some (.cells [sn,st,sa] (t_api_Tree N)) := s8 q _ (kN1 q _ cell) (by simp)
 have hlG := hget_lt gq
 have htake : t.nodes.take i ++ [n] = t.nodes.take (i + 1) := by rw [List.take_add_one,hn]; rfl
 rw [htake] at s5
 have kG : ∀ sz id es e,hget G id = some (.arr sz es e) -> hget (hset G q (some (.cells [v,st,sa] (t_api_Tree N)))) id = some (.arr sz es e) := fun sz id es e ho => by
  rw [hget_hset,if_neg]
  ·exact ho
  ·rintro rfl; rw [gq] at ho; cases ho
 have kN : ∀ sz id es e,sz ≠ 8 -> hget N1 id = some (.arr sz es e) -> hget (hset G q (some (.cells [v,st,sa] (t_api_Tree N)))) id = some (.arr sz es e) := fun sz id es e hs ho => kG sz id es e (s8 id _ ho (by simp [hs]))
 have hcp : Cp N B q (hset G q (some (.cells [v,st,sa] (t_api_Tree N)))) v st sa (t.nodes.take (i + 1)) [] al := by
  refine ⟨by rw [hget_hset,if_pos rfl,if_pos hlG],s5.keepA (fun _ _ h => h.keepA fun id es e => kG 1 id es e) (kG 8),tys'.keepA (fun _ _ h => h.keepA fun id es e => kN 1 id es e (by simp)) (fun id es e => kN 6 id es e (by simp)),?_,(s9 _ hMN (Nat.le_refl _)).set (.inr hq0),hq0⟩
  obtain ⟨zs,z1,z2,z3⟩ := als
  exact ⟨zs,z1.keepA fun id es e ho => kN 3 id es e (by simp) (kN1 id _ ho),z2,z3⟩
 have hcell : ∀ id cs tt,hget H id = some (.cells cs tt) -> id ≠ q -> hget (hset G q (some (.cells [v,st,sa] (t_api_Tree N)))) id = some (.cells cs tt) := fun id cs tt ho hne => by
  rw [hget_hset,if_neg hne]
  exact s8 id _ (kN1 id _ ho) (by simp)
 have hlt' : (i : Int) < t.nodes.length := by omega
 have hw : IntKind.wrap .i64 ((i : Int) + 1) = ((i + 1 : Nat) : Int) := by rw [wrap64 (by omega) (by omega)]; omega
 unfold ndV at e1 s1
 simp only [ndV] at b1'
 simp [L_tree_Clone_1,r3,r13,r14,r15,hlt',p1,p2,pa,pb,pc,hHc',fc,fq,e1,b1',qa,qb,qc,loadC,fillA,repl,setFrom,chunk,asElems,s1,s2,s3,gq,hlG,hw,-hset_d,-halloc_d,-Int.natCast_add]
 exact hQ _ _ _ hcp hcell (by simp [upd_at]) (by simp [upd_at]) (by simp [upd_at,r3]) (by simp [upd_at,r13]) (by simp [upd_at,r14]) (by simp [upd_at])
theorem clone_round2 (h : TreeB Γ A N) {B H : Hp} {q b0 b1 : Nat} {sn st sa a b c : AV} {t : Tr} {i : Nat} {nd : List Nd} {al : List Al} (hc : Cp N B q H sn st sa nd (t.types.take i) al) (ha : RowR TyR 6 B a t.types) (ok : ∀ n ∈ t.types,n.ok) (hl : t.types.length < 2 ^ 30) (hi : i < t.types.length)
  {ρ : Rho} {QQ : AX -> Rho -> Hp -> Prop} (r3 : ρ 3 = .ptr q 0) (r13 : ρ 28 = a) (r14 : ρ 29 = avInt .i64 (t.types.length : Nat)) (r15 : ρ 30 = avInt .i64 (i : Nat))
  (hQ : ∀ (ρ' : Rho) (G : Hp) (st' : AV),Cp N B q G sn st' sa nd (t.types.take (i + 1)) al -> (∀ id cs tt,hget H id = some (.cells cs tt) -> id ≠ q -> hget G id = some (.cells cs tt)) -> ρ' 1 = ρ 1 -> ρ' 2 = ρ 2 -> ρ' 3 = ρ 3 -> ρ' 28 = ρ 28 -> ρ' 29 = ρ 29 -> ρ' 30 = avInt .i64 ((i + 1 : Nat) : Int) -> QQ .nrm ρ' G) :
  wp (lim Γ A) none (L_tree_Clone_2 N) ρ H QQ := by
 obtain ⟨cell,nds,tys,als,hmut,hq0⟩ := hc
 have hBl := hmut.len
 obtain ⟨xs,x1,x2,x3⟩ := id ha
 obtain ⟨n,hn⟩ : ∃ n,t.types[i]? = some n := ⟨_,List.getElem?_eq_getElem hi⟩
 obtain ⟨na,nb,e0,va,vb⟩ := x3 i xs[i] n (List.getElem?_eq_getElem (by omega)) hn
 have hx : xs[i]? = some (tyV n na nb) := by rw [List.getElem?_eq_getElem (by omega),e0]
 have kB : Keep B H := fun id hid => hmut.get (i := id) hid (by simp)
 have pa := va.one
 have pb := vb.one
 obtain ⟨p,p1,p2⟩ := (kB.vw x1).ats (k := .i64) (ys := [avInt .i64 n.kind,avInt .i64 n.pos,avStr n.name,na,nb,avBool n.opn]) hx rfl (by simp [pa,pb])
 obtain ⟨Hc,hHc⟩ : ∃ Hc,Hc = hset (halloc H (.cells [.lit (.int .i64 0),.lit (.int .i64 0),.lit (.string (mkS [])),.lit (.slice none 0 0),.lit (.slice none 0 0),.lit (.bool false)] (t_api_TypeNode N))) H.l.length (some (.cells [avInt .i64 n.kind,avInt .i64 n.pos,avStr n.name,na,nb,avBool n.opn] (t_api_TypeNode N))) := ⟨_,rfl⟩
 have hHc' := hHc.symm
 have kHc : ∀ id o,hget H id = some o -> hget Hc id = some o := fun id o ho => by
  rw [hHc,hget_hset,if_neg (Nat.ne_of_lt (hget_lt ho)),hget_halloc,if_neg (Nat.ne_of_lt (hget_lt ho))]; exact ho
 have hMc : Mut { l := B.l,d := none } Hc [] := by rw [hHc]; exact (hmut.alloc _).set (.inr (by simpa using hBl))
 have fc : hget Hc H.l.length = some (.cells [avInt .i64 n.kind,avInt .i64 n.pos,avStr n.name,na,nb,avBool n.opn] (t_api_TypeNode N)) := by rw [hHc,hget_hset,if_pos rfl]; simp
 have fq : hget Hc q = some (.cells [sn,st,sa] (t_api_Tree N)) := kHc q _ cell
 have kBc : Keep B Hc := fun id hid => hMc.get (i := id) hid (by simp)
 have hx' : TyR { l := Hc.l,d := none } (tyV n na nb) n := ⟨na,nb,rfl,(kBc.vw va).of_l rfl,(kBc.vw vb).of_l rfl⟩
 obtain ⟨y,g1,e1,y1,y2,yl⟩ := cloneType_call h hx' (ok n (List.mem_of_getElem? hn))
 have hM1 := nxt_mut (H := Hc) y2
 obtain ⟨N1,hN1⟩ : ∃ N1,N1 = nxt Hc g1 := ⟨_,rfl⟩
 rw [<- hN1] at hM1
 have yN : TyR N1 y n := y1.keepA fun id es e ho => by
  rw [hN1]
  unfold hget at ho ⊢
  rw [nxt_l]; exact ho
 have b1' : ∀ (Hx : Hp) (Q : AV -> Hp -> Prop) (m : Mk Q) (m' : Mk Hx),Hx = Hc -> bindH1 (some (y,g1)) Hx Q m m' = Q y N1 := by
  rintro Hx Q m m' rfl
  rw [bindH1_nxt (nxt_keeps y2),hN1]
 obtain ⟨a',b',rfl,wa,wb⟩ := id yN
 have qa := wa.one
 have qb := wb.one
 have kN1 : ∀ id o,hget H id = some o -> hget N1 id = some o := fun id o ho => hM1.get' (kHc id o ho) (by simp)
 have hMN : Mut { l := B.l,d := none } N1 [] := hMc.trans hM1 (by simp)
 have nds' : BRow NdC N1 B.l.length (t_api_Node N) 8 sn nd := nds.keepA (fun _ _ h => h.keepA fun id es e => kN1 id _) (fun id es e => kN1 id _)
 have tys' : BRow TyC N1 B.l.length (t_api_TypeNode N) 6 st (t.types.take i) := tys.keepA (fun _ _ h => h.keepA fun id es e => kN1 id _) (fun id es e => kN1 id _)
 have htl : (t.types.take i).length = i := by simp; omega
 have hlN := hMN.len
 obtain ⟨v,G,s1,s2,s3,s4,s5,s6,s7,s8,s9⟩ := tys'.push (bytes := 88) (y := tyV n a' b') (a := n) (by simp) (by simpa using hlN) (by simp [tyV,qa,qb]) (by rw [htl]; unfold roomMax; omega) ⟨yN,yl⟩ (fun G x n hq k => hq.keepA k)
 have gq : hget G q = some (.cells [sn,st,sa] (t_api_Tree N)) := s8 q _ (kN1 q _ cell) (by simp)
 have hlG := hget_lt gq
 have htake : t.types.take i ++ [n] = t.types.take (i + 1) := by rw [List.take_add_one,hn]; rfl
 rw [htake] at s5
 have kG : ∀ sz id es e,hget G id = some (.arr sz es e) -> hget (hset G q (some (.cells [sn,v,sa] (t_api_Tree N)))) id = some (.arr sz es e) := fun sz id es e ho => by
  rw [hget_hset,if_neg]
  ·exact ho
  ·rintro rfl; rw [gq] at ho; cases ho
 have kN : ∀ sz id es e,sz ≠ 6 -> hget N1 id = some (.arr sz es e) -> hget (hset G q (some (.cells [sn,v,sa] (t_api_Tree N)))) id = some (.arr sz es e) := fun sz id es e hs ho => kG sz id es e (s8 id _ ho (by simp [hs]))
 have hcp : Cp N B q (hset G q (some (.cells [sn,v,sa] (t_api_Tree N)))) sn v sa nd (t.types.take (i + 1)) al := by
  refine ⟨by rw [hget_hset,if_pos rfl,if_pos hlG],nds'.keepA (fun _ _ h => h.keepA fun id es e => kN 1 id es e (by simp)) (fun id es e => kN 8 id es e (by simp)),s5.keepA (fun _ _ h => h.keepA fun id es e => kG 1 id es e) (kG 6),?_,(s9 _ hMN (Nat.le_refl _)).set (.inr hq0),hq0⟩
  obtain ⟨zs,z1,z2,z3⟩ := als
  exact ⟨zs,z1.keepA fun id es e ho => kN 3 id es e (by simp) (kN1 id _ ho),z2,z3⟩
 have hcell : ∀ id cs tt,hget H id = some (.cells cs tt) -> id ≠ q -> hget (hset G q (some (.cells [sn,v,sa] (t_api_Tree N)))) id = some (.cells cs tt) := fun id cs tt ho hne => by
  rw [hget_hset,if_neg hne]
  exact s8 id _ (kN1 id _ ho) (by simp)
 have hlt' : (i : Int) < t.types.length := by omega
 have hw : IntKind.wrap .i64 ((i : Int) + 1) = ((i + 1 : Nat) : Int) := by rw [wrap64 (by omega) (by omega)]; omega
 unfold tyV at e1 s1
 simp only [tyV] at b1'
 simp [L_tree_Clone_2,r3,r13,r14,r15,hlt',p1,p2,pa,pb,hHc',fc,fq,e1,b1',qa,qb,loadC,fillA,repl,setFrom,chunk,asElems,s1,s2,s3,gq,hlG,hw,-hset_d,-halloc_d,-Int.natCast_add]
 exact hQ _ _ _ hcp hcell (by simp [upd_at]) (by simp [upd_at]) (by simp [upd_at,r3]) (by simp [upd_at,r13]) (by simp [upd_at,r14]) (by simp [upd_at])
end
end Go.Proofs.Eng
namespace Go.Proofs.Eng
open Go
theorem BRow.toRow {α : Type} {Q : Hp -> AV -> α -> Prop} {H : Hp} {n0 : Nat} {e : TypeId} {sz : Nat} {x : AV} {l : List α} (h : BRow Q H n0 e sz x l) : RowR Q sz H x l := by
 obtain ⟨⟨xs,h1,h2,h3,h4⟩,_⟩ := h
 refine ⟨xs,?_,h2,h3⟩
 rcases h1 with ⟨rfl,rfl⟩ | ⟨id,rfl,h⟩
 ·exact .inl (.inl ⟨rfl,rfl⟩)
 ·exact .inr ⟨id,0,e,xs,rfl,h,by omega,List.take_of_length_le (by simp)⟩
theorem BRow.weak {α : Type} {Q Q' : Hp -> AV -> α -> Prop} {H : Hp} {n0 : Nat} {e : TypeId} {sz : Nat} {x : AV} {l : List α} (h : BRow Q H n0 e sz x l) (hq : ∀ y n,Q H y n -> Q' H y n) : BRow Q' H n0 e sz x l := by
 obtain ⟨⟨xs,h1,h2,h3,h4⟩,h5⟩ := h
 exact ⟨⟨xs,h1,h2,fun i y n a b => hq _ _ (h3 i y n a b),h4⟩,h5⟩
theorem BRow.none {α : Type} {Q : Hp -> AV -> α -> Prop} {H : Hp} {n0 : Nat} {e : TypeId} {sz : Nat} : BRow Q H n0 e sz avNilS ([] : List α) := ⟨⟨[],.inl ⟨rfl,rfl⟩,rfl,fun i y n h => by simp at h,rfl⟩,fun id hk => by cases hk⟩
theorem settle_brow {α : Type} {Q : Hp -> AV -> α -> Prop} {H H' : Hp} {v y x : AV} {g : Option Hp} {n0 : Nat} {e : TypeId} {sz : Nat} {l : List α} (es : settle H v H' = (y,g)) (h : BRow Q H' n0 e sz x l) (hn : g = none -> x = avNilS /\ l = []) (hq : ∀ G y n,G.l = H'.l -> Q H' y n -> Q G y n) : BRow Q (g.getD H) n0 e sz x l := by
 cases g with
 | none =>
  obtain ⟨rfl,rfl⟩ := hn rfl
  exact BRow.none
 | some G =>
  unfold settle at es
  split at es
  ·simp at es
  ·simp only [Prod.mk.injEq,Option.some.injEq] at es
   obtain ⟨_,rfl⟩ := es
   exact h.keepA (fun y n k => hq _ y n rfl k) fun id es e ho => ho
theorem BRow.young {α : Type} {Q : Hp -> AV -> α -> Prop} {H : Hp} {n0 : Nat} {e : TypeId} {sz : Nat} {x : AV} {l : List α} (h : BRow Q H n0 e sz x l) (hu : x.under n0 = true) : x = avNilS /\ l = [] := by
 obtain ⟨⟨xs,h1,h2,h3,h4⟩,h5⟩ := h
 rcases h1 with ⟨rfl,rfl⟩ | ⟨id,rfl,h⟩
 ·exact ⟨rfl,List.eq_nil_of_length_eq_zero (by simpa using h2.symm)⟩
 ·have := h5 id rfl
  simp [AV.under] at hu
  omega
theorem RowR.nil {α : Type} {Q : Hp -> AV -> α -> Prop} {H : Hp} {sz : Nat} : RowR Q sz H avNilS ([] : List α) := ⟨[],.inl (.inl ⟨rfl,rfl⟩),rfl,fun i y n h => by simp at h⟩
theorem BRow.youngs {α : Type} {Q : Hp -> AV -> α -> Prop} {H : Hp} {n0 : Nat} {e : TypeId} {sz : Nat} {x : AV} {l : List α} (h : BRow Q H n0 e sz x l) : ∀ m,m <= n0 -> x.under m = true -> x = avNilS /\ l = [] := by
 intro m hm hu
 obtain ⟨⟨xs,h1,h2,h3,h4⟩,h5⟩ := h
 rcases h1 with ⟨rfl,rfl⟩ | ⟨id,rfl,h⟩
 ·exact ⟨rfl,List.eq_nil_of_length_eq_zero (by simpa using h2.symm)⟩
 ·have := h5 id rfl
  simp [AV.under] at hu
  omega
theorem settle_tree {H H' : Hp} {sn st sa y : AV} {t : Tr} {g : Option Hp} (hm : Mut { l := H.l,d := none } H' []) (e : settle H (.agg [sn,st,sa]) H' = (y,g)) (h1 : RowR NdR 8 H' sn t.nodes) (h2 : RowR TyR 6 H' st t.types) (w1 : sn.under H.l.length = true -> sn = avNilS /\ t.nodes = []) (w2 : st.under H.l.length = true -> st = avNilS /\ t.types = []) (h3 : RowR AlR 3 H' sa t.als) :
  y = .agg [sn,st,sa] /\ TrR (g.getD H) y t /\ Mut H (g.getD H) [] := by
 obtain ⟨rfl,hu⟩ := settle_under e
 refine ⟨rfl,?_,settle_mut0 hm e⟩
 cases g with
 | none =>
  have := hu rfl
  simp [AV.under,AV.unders] at this
  obtain ⟨u1,u2,u3⟩ := this
  obtain ⟨rfl,hn⟩ := w1 u1
  obtain ⟨rfl,hy⟩ := w2 u2
  refine ⟨_,_,_,rfl,by rw [hn]; exact RowR.nil,by rw [hy]; exact RowR.nil,?_⟩
  obtain ⟨zs,z1,z2,z3⟩ := h3
  refine ⟨zs,?_,z2,z3⟩
  rcases z1 with z1 | ⟨id,off,tt,all,rfl,k1,k2⟩
  ·exact .inl z1
  ·refine .inr ⟨id,off,tt,all,rfl,?_,k2⟩
   have hid : id < H.l.length := by simpa [AV.under] using u3
   rw [<- k1]
   exact (hm.get (i := id) hid (by simp)).symm
 | some g' =>
  unfold settle at e
  split at e
  ·simp at e
  ·simp only [Prod.mk.injEq,true_and,Option.some.injEq] at e
   subst e
   exact (show TrR H' _ t from ⟨_,_,_,rfl,h1,h2,h3⟩).more fun id o ho => ho
section
variable {Γ : Sums} {A : Tab} {N : Nat -> Nat}
theorem CloneT_call (h : TreeB Γ A N) {H : Hp} {x : AV} {t : Tr} (hx : TrR H x t) (ok : t.ok) (hb : t.nodes.length < 2 ^ 30 /\ t.types.length < 2 ^ 30 /\ t.als.length < 2 ^ 30) : ∃ y g,(lim Γ A).call (f_tree_Clone N) [x] H = some (y,g) /\ TrR (g.getD H) y t /\ Mut H (g.getD H) [] /\ ∃ a b c,y = .agg [a,b,c] /\ (∀ m,m <= H.l.length -> a.under m = true -> a = avNilS /\ t.nodes = []) /\ (∀ m,m <= H.l.length -> b.under m = true -> b = avNilS /\ t.types = []) /\
   BRow NdC (g.getD H) H.l.length (t_api_Node N) 8 a t.nodes /\ BRow TyC (g.getD H) H.l.length (t_api_TypeNode N) 6 b t.types := by
 obtain ⟨a,b,c,rfl,ra,rb,rc⟩ := hx
 obtain ⟨R,hR⟩ : ∃ R : AV × Option Hp -> Prop,R = fun r => TrR (r.2.getD H) r.1 t /\ Mut H (r.2.getD H) [] /\ ∃ a b c,r.1 = .agg [a,b,c] /\ (∀ m,m <= H.l.length -> a.under m = true -> a = avNilS /\ t.nodes = []) /\ (∀ m,m <= H.l.length -> b.under m = true -> b = avNilS /\ t.types = []) /\ BRow NdC (r.2.getD H) H.l.length (t_api_Node N) 8 a t.nodes /\ BRow TyC (r.2.getD H) H.l.length (t_api_TypeNode N) 6 b t.types := ⟨_,rfl⟩
 suffices ∃ r,(lim Γ A).call (f_tree_Clone N) [.agg [a,b,c]] H = some r /\ R r by
  obtain ⟨⟨y,g⟩,e,hr⟩ := this
  rw [hR] at hr
  exact ⟨y,g,e,hr⟩
 have pa := ra.one
 have pb := rb.one
 have pc := rc.one
 have la := ra.len
 have lb := rb.len
 obtain ⟨Hb,hHb⟩ : ∃ Hb,Hb = halloc (halloc { l := H.l,d := none } (.cells [a,b,c] (t_api_Tree N))) (.cells [avNilS,avNilS,avNilS] (t_api_Tree N)) := ⟨_,rfl⟩
 have hMb : Mut { l := H.l,d := none } Hb [] := by rw [hHb]; exact ((Mut.refl _ _).alloc _).alloc _
 have kb : Keep H Hb := fun id hid => hMb.get hid (by simp)
 have hlb : Hb.l.length = H.l.length + 2 := by rw [hHb]; simp
 have f1 : hget Hb H.l.length = some (.cells [a,b,c] (t_api_Tree N)) := by rw [hHb]; simp
 have f2 : hget Hb (H.l.length + 1) = some (.cells [avNilS,avNilS,avNilS] (t_api_Tree N)) := by rw [hHb]; simp
 have hHb' := hHb.symm
 obtain ⟨c',g1,e1,c1,c2⟩ := cloneA_call h.ca (H := Hb) (kb.row (fun _ _ h => h) rc) hb.2.2
 obtain ⟨N1,hN1⟩ : ∃ N1,N1 = g1.getD Hb := ⟨_,rfl⟩
 have hN1' := hN1.symm
 rw [<- hN1] at c1 c2
 have pc' := c1.one
 have qc' : c'.cells = [c'] /\ c'.good = true := by obtain ⟨zs,z1,_⟩ := c1; exact Vw.cg z1
 obtain ⟨H0,hH0⟩ : ∃ H0,H0 = hset (halloc N1 (.cells [avNilS,avNilS,avNilS] (t_api_Tree N))) N1.l.length (some (.cells [avNilS,avNilS,c'] (t_api_Tree N))) := ⟨_,rfl⟩
 have hH0' := hH0.symm
 have hMN : Mut { l := H.l,d := none } N1 [] := hMb.trans c2 (by simp)
 have hlN := hMN.len
 have hM0 : Mut { l := H.l,d := none } H0 [] := by rw [hH0]; exact (hMN.alloc _).set (.inr (by simpa using hlN))
 have kN : ∀ id o,hget N1 id = some o -> hget H0 id = some o := fun id o ho => by
  rw [hH0,hget_hset,if_neg (Nat.ne_of_lt (hget_lt ho)),hget_halloc,if_neg (Nat.ne_of_lt (hget_lt ho))]; exact ho
 have t1 : hget H0 H.l.length = some (.cells [a,b,c] (t_api_Tree N)) := kN _ _ (c2.get' f1 (by simp))
 have t2 : hget H0 (H.l.length + 1) = some (.cells [avNilS,avNilS,avNilS] (t_api_Tree N)) := kN _ _ (c2.get' f2 (by simp))
 have t3 : hget H0 N1.l.length = some (.cells [avNilS,avNilS,c'] (t_api_Tree N)) := by rw [hH0,hget_hset,if_pos rfl]; simp
 have hNb := c2.len
 have cp0 : Cp N H N1.l.length H0 avNilS avNilS c' (t.nodes.take 0) [] t.als := by
  refine ⟨t3,⟨⟨[],.inl ⟨rfl,rfl⟩,rfl,fun i y n h => by simp at h,rfl⟩,fun id hk => by cases hk⟩,⟨⟨[],.inl ⟨rfl,rfl⟩,rfl,fun i y n h => by simp at h,rfl⟩,fun id hk => by cases hk⟩,?_,hM0,by simpa using hlN⟩
  obtain ⟨zs,z1,z2,z3⟩ := c1
  exact ⟨zs,z1.keepA fun id es e => kN id _,z2,z3⟩
 apply h.clone.callP (by rfl)
 simp only [avNilS] at hHb' hH0' f2
 have la' := la
 simp [C_tree_Clone,pa,pb,pc,hHb',f1,loadC,e1,bindH_opt,hN1',pc',qc',setFrom,hH0',t1,la,-halloc_d,-hset_d]
 refine wp_round (n := t.nodes.length) (fun m ρ H' => ∃ (i : Nat) (sn : AV),ρ 1 = .ptr H.l.length 0 /\ ρ 2 = .ptr (H.l.length + 1) 0 /\ ρ 3 = .ptr N1.l.length 0 /\ ρ 13 = a /\ ρ 14 = avInt .i64 (t.nodes.length : Nat) /\ ρ 15 = avInt .i64 (i : Nat) /\ i <= t.nodes.length /\ Cp N H N1.l.length H' sn avNilS c' (t.nodes.take i) [] t.als /\ hget H' H.l.length = some (.cells [a,b,c] (t_api_Tree N)) /\ hget H' (H.l.length + 1) = some (.cells [avNilS,avNilS,avNilS] (t_api_Tree N)) /\ m = t.nodes.length - i) ?_ ?_
 ·exact ⟨0,avNilS,rfl,rfl,rfl,rfl,rfl,rfl,by omega,cp0,t1,t2,rfl⟩
 rintro m ρ H' ⟨i,sn,r1,r2,r3,r13,r14,r15,hi,hcp,b1,b2,rfl⟩
 by_cases hlt : i < t.nodes.length
 ·refine clone_round1 (b0 := 0) (b1 := 0) (b := b) (c := c) (a := a) h hcp ra ok.1 hb.1 hlt r3 r13 r14 r15 ?_
  intro ρ' G sn' k1 k2 k3 k4 k5 k6 k7 k8
  refine ⟨t.nodes.length - (i + 1),by omega,i + 1,sn',by rw [k3]; exact r1,by rw [k4]; exact r2,by rw [k5]; exact r3,by rw [k6]; exact r13,by rw [k7]; exact r14,k8,by omega,k1,k2 _ _ _ b1 (by omega),k2 _ _ _ b2 (by omega),rfl⟩
 ·have hlt' : ¬ (i : Int) < t.nodes.length := by omega
  have hi2 : i = t.nodes.length := by omega
  subst hi2
  rw [List.take_length] at hcp
  simp [L_tree_Clone_1,K_tree_Clone_1,r1,r2,r3,r13,r14,r15,hlt',b1,lb,loadC]
  refine wp_round (n := t.types.length) (fun m ρ H' => ∃ (i : Nat) (st : AV),ρ 1 = .ptr H.l.length 0 /\ ρ 2 = .ptr (H.l.length + 1) 0 /\ ρ 3 = .ptr N1.l.length 0 /\ ρ 28 = b /\ ρ 29 = avInt .i64 (t.types.length : Nat) /\ ρ 30 = avInt .i64 (i : Nat) /\ i <= t.types.length /\ Cp N H N1.l.length H' sn st c' t.nodes (t.types.take i) t.als /\ hget H' H.l.length = some (.cells [a,b,c] (t_api_Tree N)) /\ hget H' (H.l.length + 1) = some (.cells [avNilS,avNilS,avNilS] (t_api_Tree N)) /\ m = t.types.length - i) ?_ ?_
  ·exact ⟨0,avNilS,r1,r2,r3,rfl,rfl,rfl,by omega,hcp,b1,b2,rfl⟩
  rintro m ρ H'' ⟨i,st,r1,r2,r3,r28,r29,r30,hi,hcp,b1,b2,rfl⟩
  by_cases hlt : i < t.types.length
  ·refine clone_round2 (b0 := 0) (b1 := 0) (b := b) (c := c) (a := b) h hcp rb ok.2.1 hb.2.1 hlt r3 r28 r29 r30 ?_
   intro ρ' G st' k1 k2 k3 k4 k5 k6 k7 k8
   refine ⟨t.types.length - (i + 1),by omega,i + 1,st',by rw [k3]; exact r1,by rw [k4]; exact r2,by rw [k5]; exact r3,by rw [k6]; exact r28,by rw [k7]; exact r29,k8,by omega,k1,k2 _ _ _ b1 (by omega),k2 _ _ _ b2 (by omega),rfl⟩
  ·have hlt' : ¬ (i : Int) < t.types.length := by omega
   have hi2 : i = t.types.length := by omega
   subst hi2
   rw [List.take_length] at hcp
   have g1 := hcp.cell
   have p1 := (hcp.nds.weak fun _ _ h => h.1).toRow.one
   have p2 := (hcp.tys.weak fun _ _ h => h.1).toRow.one
   have p3 := hcp.als.one
   have hl2 := hget_lt b2
   simp [L_tree_Clone_2,K_tree_Clone_2,r1,r2,r3,r28,r29,r30,hlt',g1,b2,p1,p2,p3,hl2,loadC,-halloc_d,-hset_d]
   have kS : ∀ sz id es e,hget H'' id = some (.arr sz es e) -> hget (hset H'' (H.l.length + 1) (some (.cells [sn,st,c'] (t_api_Tree N)))) id = some (.arr sz es e) := fun sz id es e ho => by
    rw [hget_hset,if_neg]
    ·exact ho
    ·rintro rfl; rw [b2] at ho; cases ho
   rcases es : settle H (.agg [sn,st,c']) (hset H'' (H.l.length + 1) (some (.cells [sn,st,c'] (t_api_Tree N)))) with ⟨y,g⟩
   obtain ⟨zs,z1,z2,z3⟩ := hcp.als
   have bn := hcp.nds.keepA (fun _ _ h => h.keepA fun id es e => kS 1 id es e) (kS 8)
   have bt := hcp.tys.keepA (fun _ _ h => h.keepA fun id es e => kS 1 id es e) (kS 6)
   obtain ⟨rfl,q1,q2⟩ := settle_tree (t := t) (hcp.mt.set (.inr (by simp))) es (bn.weak fun _ _ h => h.1).toRow (bt.weak fun _ _ h => h.1).toRow hcp.nds.young hcp.tys.young ⟨zs,z1.keepA (kS 3),z2,z3⟩
   have hu : g = none -> sn.under H.l.length = true /\ st.under H.l.length = true := fun hg => by
    have := (settle_under es).2 hg
    simp [AV.under,AV.unders] at this
    exact ⟨this.1,this.2.1⟩
   rw [hR]
   exact ⟨q1,q2,sn,st,c',rfl,hcp.nds.youngs,hcp.tys.youngs,settle_brow es bn (fun hg => hcp.nds.young (hu hg).1) (fun G y n e h => h.keepA fun id es e' ho => by unfold hget at ho ⊢; rw [e]; exact ho),settle_brow es bt (fun hg => hcp.tys.young (hu hg).2) (fun G y n e h => h.keepA fun id es e' ho => by unfold hget at ho ⊢; rw [e]; exact ho)⟩
end
end Go.Proofs.Eng
namespace Go.Proofs.Eng
open Go
theorem dec_comm {α : Type} [DecidableEq α] (a b : α) : decide (a = b) = decide (b = a) := decide_eq_decide.2 eq_comm
theorem tyEq_comm (m n : Ty) : tyEq m n = tyEq n m := by
 unfold tyEq
 rw [dec_comm m.kind,dec_comm m.name,dec_comm m.opn,dec_comm m.names,dec_comm m.kids.length]
theorem ndEq_comm (m n : Nd) : ndEq m n = ndEq n m := by
 unfold ndEq
 rw [dec_comm m.kind,dec_comm m.name,dec_comm m.int,dec_comm m.bits,dec_comm m.names,dec_comm m.kids.length,dec_comm m.types.length]
theorem allP_comm {p q : Int -> Int -> Bool} : ∀ {a b : List Int},(∀ x ∈ a,∀ y ∈ b,p x y = q y x) -> allP p a b = allP q b a
 | [],[],_ => rfl
 | [],_ :: _,_ => rfl
 | _ :: _,[],_ => rfl
 | x :: a,y :: b,h => by
  have h1 := h x (by simp) y (by simp)
  have h2 := allP_comm (a := a) (b := b) fun u hu v hv => h u (by simp [hu]) v (by simp [hv])
  unfold allP at h2 ⊢
  simp only [List.zip_cons_cons,List.all_cons,h1,h2]
theorem sameTy_comm {a b : List Ty} (ha : KidsY a) (hb : KidsY b) : ∀ (i j : Nat),i < a.length -> j < b.length -> sameTy a b i j = sameTy b a j i := by
 intro i
 induction i using Nat.strongRecOn with
 | _ i ih =>
 intro j hi hj
 obtain ⟨m,hm⟩ : ∃ m,a[i]? = some m := ⟨_,List.getElem?_eq_getElem hi⟩
 obtain ⟨n,hn⟩ : ∃ n,b[j]? = some n := ⟨_,List.getElem?_eq_getElem hj⟩
 rw [sameTy_eq ha hm hn,sameTy_eq hb hn hm,tyEq_comm]
 congr 1
 refine allP_comm fun x hx y hy => ?_
 have h1 := ha _ _ hm x hx
 have h2 := hb _ _ hn y hy
 have := ih x.toNat (by omega) y.toNat (by omega) (by omega)
 rw [Int.toNat_of_nonneg h1.1,Int.toNat_of_nonneg h2.1] at this
 exact this
theorem sameNd_comm {a b : Tr} (h : Pair a b) : ∀ (i j : Nat),i < a.nodes.length -> j < b.nodes.length -> sameNd a b i j = sameNd b a j i := by
 intro i
 induction i using Nat.strongRecOn with
 | _ i ih =>
 intro j hi hj
 obtain ⟨m,hm⟩ : ∃ m,a.nodes[i]? = some m := ⟨_,List.getElem?_eq_getElem hi⟩
 obtain ⟨n,hn⟩ : ∃ n,b.nodes[j]? = some n := ⟨_,List.getElem?_eq_getElem hj⟩
 rw [sameNd_eq h.na hm hn,sameNd_eq h.nb hn hm,ndEq_comm]
 congr 1
 ·congr 1
  refine allP_comm fun x hx y hy => ?_
  have h1 := (h.na _ _ hm).2 x hx
  have h2 := (h.nb _ _ hn).2 y hy
  have := sameTy_comm h.ya h.yb x.toNat y.toNat (by omega) (by omega)
  rw [Int.toNat_of_nonneg h1.1,Int.toNat_of_nonneg h2.1] at this
  exact this
 ·refine allP_comm fun x hx y hy => ?_
  have h1 := (h.na _ _ hm).1 x hx
  have h2 := (h.nb _ _ hn).1 y hy
  have := ih x.toNat (by omega) y.toNat (by omega) (by omega)
  rw [Int.toNat_of_nonneg h1.1,Int.toNat_of_nonneg h2.1] at this
  exact this
theorem allZ_comm {α : Type} {p q : α -> α -> Bool} : ∀ {a b : List α},(∀ x ∈ a,∀ y ∈ b,p x y = q y x) -> allZ p a b = allZ q b a
 | [],[],_ => rfl
 | [],_ :: _,_ => rfl
 | _ :: _,[],_ => rfl
 | x :: a,y :: b,h => by
  have h1 := h x (by simp) y (by simp)
  have h2 := allZ_comm (a := a) (b := b) fun u hu v hv => h u (by simp [hu]) v (by simp [hv])
  unfold allZ at h2 ⊢
  simp only [List.zip_cons_cons,List.all_cons,h1,h2]
theorem sameG_comm {a b : Tr} (oa : a.ok) : sameG a b = sameG b a := by
 unfold sameG
 rcases ha : checkB a with _ | _
 ·rcases hb : checkB b with _ | _ <;> rfl
 rcases hb : checkB b with _ | _
 ·rfl
 have hp := pair_of oa ha hb
 have ra := (check_right a).1 ha
 have rb := (check_right b).1 hb
 have h0 : 0 < a.nodes.length := List.length_pos_iff.2 ra.ne
 have h1 : 0 < b.nodes.length := List.length_pos_iff.2 rb.ne
 show sameS a b = sameS b a
 unfold sameS
 have e1 : sameNd a b ((a.nodes.length : Int) - 1) ((b.nodes.length : Int) - 1) = sameNd b a ((b.nodes.length : Int) - 1) ((a.nodes.length : Int) - 1) := by
  have := sameNd_comm hp (a.nodes.length - 1) (b.nodes.length - 1) (by omega) (by omega)
  rw [show ((a.nodes.length - 1 : Nat) : Int) = (a.nodes.length : Int) - 1 by omega,show ((b.nodes.length - 1 : Nat) : Int) = (b.nodes.length : Int) - 1 by omega] at this
  exact this
 have e2 : allZ (alP a b) a.als b.als = allZ (alP b a) b.als a.als := allZ_comm fun x hx y hy => by
  unfold alP
  have k1 := ra.kidsA x hx
  have k2 := rb.kidsA y hy
  have := sameTy_comm hp.ya hp.yb x.type.toNat y.type.toNat (by omega) (by omega)
  rw [Int.toNat_of_nonneg k1.1,Int.toNat_of_nonneg k2.1] at this
  rw [this,dec_comm x.name]
 rw [e1,e2,dec_comm a.als.length]
theorem zip_refl {α : Type} {p : α × α -> Bool} : ∀ {a : List α},(∀ x ∈ a,p (x,x) = true) -> (a.zip a).all p = true
 | [],_ => rfl
 | x :: r,h => by
  rw [List.zip_cons_cons,List.all_cons,h x (by simp),zip_refl fun y hy => h y (by simp [hy])]
  rfl
theorem sameTy_refl {a : List Ty} (ha : KidsY a) : ∀ (i : Nat),i < a.length -> sameTy a a i i = true := by
 intro i
 induction i using Nat.strongRecOn with
 | _ i ih =>
 intro hi
 obtain ⟨m,hm⟩ : ∃ m,a[i]? = some m := ⟨_,List.getElem?_eq_getElem hi⟩
 rw [sameTy_eq ha hm hm]
 have e : tyEq m m = true := by unfold tyEq; simp
 rw [e,Bool.true_and]
 refine zip_refl fun x hx => ?_
 have h1 := ha _ _ hm x hx
 have := ih x.toNat (by omega) (by omega)
 rw [Int.toNat_of_nonneg h1.1] at this
 exact this
theorem sameNd_refl {a : Tr} (h : Pair a a) : ∀ (i : Nat),i < a.nodes.length -> sameNd a a i i = true := by
 intro i
 induction i using Nat.strongRecOn with
 | _ i ih =>
 intro hi
 obtain ⟨m,hm⟩ : ∃ m,a.nodes[i]? = some m := ⟨_,List.getElem?_eq_getElem hi⟩
 rw [sameNd_eq h.na hm hm]
 have e : ndEq m m = true := by unfold ndEq; simp
 have e1 : allP (sameTy a.types a.types) m.types m.types = true := zip_refl fun x hx => by
  have h1 := (h.na _ _ hm).2 x hx
  have := sameTy_refl h.ya x.toNat (by omega)
  rw [Int.toNat_of_nonneg h1.1] at this
  exact this
 rw [e,e1,Bool.true_and,Bool.true_and]
 refine zip_refl fun x hx => ?_
 have h1 := (h.na _ _ hm).1 x hx
 have := ih x.toNat (by omega) (by omega)
 rw [Int.toNat_of_nonneg h1.1] at this
 exact this
theorem sameG_refl {a : Tr} (oa : a.ok) (ha : checkB a = true) : sameG a a = true := by
 have hp := pair_of oa ha ha
 have ra := (check_right a).1 ha
 have h0 : 0 < a.nodes.length := List.length_pos_iff.2 ra.ne
 have e1 := sameNd_refl hp (a.nodes.length - 1) (by omega)
 rw [show ((a.nodes.length - 1 : Nat) : Int) = (a.nodes.length : Int) - 1 by omega] at e1
 have e2 : allZ (alP a a) a.als a.als = true := zip_refl fun x hx => by
  have k1 := ra.kidsA x hx
  have := sameTy_refl hp.ya x.type.toNat (by omega)
  rw [Int.toNat_of_nonneg k1.1] at this
  unfold alP
  simp [this]
 unfold sameG sameS
 rw [ha,e1,e2]
 simp
def WV (H : Hp) (v : AV) (len : Nat) : Prop := (v = avNilS /\ len = 0) \/ ∃ id es e,v = .ra 1 id 0 len /\ hget H id = some (.arr 1 es e) /\ len <= es.length
theorem Vw.wv {H : Hp} {v : AV} {es : List AV} (h : Vw H 1 v es) (hl : liveV v) : WV H v es.length := by
 rcases hl with rfl | ⟨id,n,rfl⟩
 ·have := h.len
  simp [asLen] at this
  exact .inl ⟨rfl,by omega⟩
 ·have hn := h.len
  simp only [asLen,Option.some.injEq] at hn
  subst hn
  rcases h with (⟨h1,_⟩ | h1) | ⟨id',off,e,all,h1,h2,h3⟩
  ·cases h1
  ·cases h1
  ·simp only [AV.ra.injEq,true_and] at h1
   obtain ⟨rfl,rfl,_⟩ := h1
   exact .inr ⟨id,all,e,rfl,h2,by have := h3.1; omega⟩
theorem WV.len {H : Hp} {v : AV} {n : Nat} (h : WV H v n) : asLen v = some n := by
 rcases h with ⟨rfl,rfl⟩ | ⟨id,es,e,rfl,_⟩ <;> rfl
def Wr (H G : Hp) : Prop := (∀ id es e,hget H id = some (.arr 1 es e) -> ∃ es',hget G id = some (.arr 1 es' e) /\ es'.length = es.length) /\ (∀ id o,hget H id = some o -> (∀ es e,o ≠ .arr 1 es e) -> hget G id = some o)
theorem Wr.refl (H : Hp) : Wr H H := ⟨fun id es e h => ⟨es,h,rfl⟩,fun id o h _ => h⟩
theorem Wr.trans {A B C : Hp} (h : Wr A B) (k : Wr B C) : Wr A C := by
 refine ⟨fun id es e h1 => ?_,fun id o h1 h2 => k.2 id o (h.2 id o h1 h2) h2⟩
 obtain ⟨es1,h2,h3⟩ := h.1 id es e h1
 obtain ⟨es2,h4,h5⟩ := k.1 id es1 e h2
 exact ⟨es2,h4,by omega⟩
theorem WV.wr {H G : Hp} {v : AV} {n : Nat} (h : WV H v n) (k : Wr H G) : WV G v n := by
 rcases h with h | ⟨id,es,e,h1,h2,h3⟩
 ·exact .inl h
 ·obtain ⟨es',k1,k2⟩ := k.1 id es e h2
  exact .inr ⟨id,es',e,h1,k1,by omega⟩
theorem WV.put {H : Hp} {v : AV} {n : Nat} (h : WV H v n) {k : Nat} (hk : k < n) {x : AV} (hx : x.good = true /\ x.cells.length = 1) {kd : IntKind} : ∃ p G,aiaddr 1 v (.lit (.int kd (k : Int))) = some p /\ astore H 1 p x = some G /\ Wr H G := by
 rcases h with ⟨_,h⟩ | ⟨id,es,e,rfl,h2,h3⟩
 ·omega
 ·have hid := hget_lt h2
  have hke : k < es.length := by omega
  refine ⟨.ep id k 0,hset H id (some (.arr 1 (es.set k x) e)),?_,?_,?_⟩
  ·have := ra_iaddr (id := id) (n := n) (k := kd) (j := (k : Int)) (by omega) (by omega)
   simpa using this
  ·simp [astore,h2,hx,List.getElem?_eq_getElem hke]
  ·refine ⟨fun i es1 e1 h => ?_,fun i o h ho => ?_⟩
   ·rw [hget_hset]
    split
    ·rename_i hi
     subst hi
     rw [h2] at h
     simp only [Option.some.injEq,AObj.arr.injEq,true_and] at h
     obtain ⟨rfl,rfl⟩ := h
     exact ⟨_,rfl,by simp⟩
    ·exact ⟨es1,h,rfl⟩
   ·rw [hget_hset]
    split
    ·rename_i hi
     subst hi
     rw [h2] at h
     simp only [Option.some.injEq] at h
     exact absurd h.symm (ho _ _)
    ·exact h
end Go.Proofs.Eng
namespace Go.Proofs.Eng
open Go
def le60 (s : List UInt8) : Bool := decide (s.length <= 60)
def fewN (n : Nd) : Bool := (decide (n.names.length <= 20) && decide (n.kids.length <= 20) && decide (n.types.length <= 20) && decide (n.name.length <= 60)) && n.names.all le60
def fewT (n : Ty) : Bool := (decide (n.names.length <= 20) && decide (n.kids.length <= 20) && decide (n.name.length <= 60)) && n.names.all le60
def fewA (n : Al) : Bool := decide (n.name.length <= 60)
def fewE (t : Tr) : Bool := decide (t.nodes.length <= 60) && decide (t.types.length <= 60) && decide (t.als.length <= 10)
def fewB (t : Tr) : Bool := t.nodes.all fewN && (t.types.all fewT && (t.als.all fewA && fewE t))
theorem drop_all {α : Type} {p : α -> Bool} {l : List α} {i : Nat} (h : i < l.length) : (l.drop i).all p = (p l[i] && (l.drop (i + 1)).all p) := by
 rw [List.drop_eq_getElem_cons h,List.all_cons]
section
variable {Γ : Sums} {A : Tab} {N : Nat -> Nat}
theorem few_end {H H' : Hp} {a b c : AV} {t : Tr} {ρ : Rho} (la : asLen a = some t.nodes.length) (lb : asLen b = some t.types.length) (lc : asLen c = some t.als.length) (hl : t.nodes.length < 2 ^ 63 /\ t.types.length < 2 ^ 63 /\ t.als.length < 2 ^ 63) (r1 : ρ 1 = .ptr H.l.length 0) (hL : Loc H H' [(H.l.length,.cells [a,b,c] (t_api_Tree N))]) :
  wp (lim Γ A) none (K_law04_Few_5 N) ρ H' (Ends [.inl 2] false H fun p => p = (avBool (fewE t),none)) := by
 have hbox := hL.head
 have f1 := fun b => settle_keeps (v := avBool b) hL.keeps (by simp [AV.under])
 unfold fewE
 by_cases c1 : t.nodes.length <= 60
 ·have c1' : (t.nodes.length : Int) <= 60 := by omega
  by_cases c2 : t.types.length <= 60
  ·have c2' : (t.types.length : Int) <= 60 := by omega
   by_cases c3 : t.als.length <= 10
   ·have c3' : (t.als.length : Int) <= 10 := by omega
    simp [K_law04_Few_5,r1,hbox,la,lb,lc,c1,c1',c2,c2',c3,c3']
    exact f1 true
   ·have c3' : ¬ (t.als.length : Int) <= 10 := by omega
    simp [K_law04_Few_5,r1,hbox,la,lb,lc,c1,c1',c2,c2',c3,c3']
    exact f1 false
  ·have c2' : ¬ (t.types.length : Int) <= 60 := by omega
   simp [K_law04_Few_5,r1,hbox,la,lb,lc,c1,c1',c2,c2']
   exact f1 false
 ·have c1' : ¬ (t.nodes.length : Int) <= 60 := by omega
  simp [K_law04_Few_5,r1,hbox,la,lb,lc,c1,c1']
  exact f1 false
theorem few_als {H H' : Hp} {a b c : AV} {t : Tr} {ρ : Rho} (la : asLen a = some t.nodes.length) (lb : asLen b = some t.types.length) {zs : List AV} (zs1 : Vw H 3 c zs) (zs2 : zs.length = t.als.length) (zs3 : ∀ (i : Nat) (y : AV) (n : Al),zs[i]? = some y -> t.als[i]? = some n -> AlR H y n) (hl : t.nodes.length < 2 ^ 63 /\ t.types.length < 2 ^ 63 /\ t.als.length < 2 ^ 63) (r1 : ρ 1 = .ptr H.l.length 0) (hL : Loc H H' [(H.l.length,.cells [a,b,c] (t_api_Tree N))]) :
  wp (lim Γ A) none (K_law04_Few_4 N) ρ H' (Ends [.inl 2] false H fun p => p = (avBool (t.als.all fewA && fewE t),none)) := by
 have lc : asLen c = some t.als.length := by rw [zs1.len,zs2]
 have hbox := hL.head
 generalize hE : (t.als.all fewA && fewE t) = E
 simp [K_law04_Few_4,r1,hbox,lc]
 refine wp_round (n := t.als.length) (fun q ρ H' => ∃ i : Nat,ρ 1 = .ptr H.l.length 0 /\ ρ 90 = c /\ ρ 91 = avInt .i64 (t.als.length : Nat) /\ ρ 92 = avInt .i64 (i : Nat) /\ i <= t.als.length /\ ((t.als.drop i).all fewA && fewE t) = E /\ Loc H H' [(H.l.length,.cells [a,b,c] (t_api_Tree N))] /\ q = t.als.length - i) ?_ ?_
 ·exact ⟨0,r1,rfl,rfl,rfl,by omega,hE,hL,rfl⟩
 ·rintro q ρ H' ⟨i,r1,r90,r91,r92,hi,hE,hL,rfl⟩
  by_cases hlt : i < t.als.length
  ·have hlt' : (i : Int) < t.als.length := by omega
   have hw : IntKind.wrap .i64 ((i : Int) + 1) = ((i + 1 : Nat) : Int) := by rw [wrap64 (by omega) (by omega)]; omega
   have hxi : zs[i]? = some zs[i] := List.getElem?_eq_getElem (by omega)
   have ey := zs3 i _ _ hxi (List.getElem?_eq_getElem hlt)
   unfold AlR alV at ey
   rw [ey] at hxi
   rw [drop_all hlt] at hE
   generalize t.als[i] = n at *
   obtain ⟨p,p1,p2⟩ := (zs1.loc hL).ats (k := .i64) hxi (by rfl) (by simp)
   have hLc := ((hL.alloc (.cells [.lit (.string (mkS [])),.lit (.int .i64 0),.lit (.int .i64 0)] (t_api_Alias N))).set (.cells [avStr n.name,avInt .i64 n.type,avInt .i64 n.pos] (t_api_Alias N))).sub (List.sublist_cons_self _ _)
   have f1 := settle_keeps (v := avBool false) hLc.keeps (by simp [AV.under])
   by_cases c1 : 60 < n.name.length
   ·have c1' : (60 : Int) < n.name.length := by omega
    have hf : fewA n = false := decide_eq_false (by omega)
    have hE2 : E = false := by rw [<- hE,hf,Bool.false_and,Bool.false_and]
    subst hE2
    simp [L_law04_Few_5,r1,r90,r91,r92,hlt',p1,p2,setFrom,c1,c1',-hset_d,-halloc_d]
    exact f1
   ·have c1' : ¬ (60 : Int) < n.name.length := by omega
    have hf : fewA n = true := decide_eq_true (by omega)
    have hE2 : ((t.als.drop (i + 1)).all fewA && fewE t) = E := by rw [<- hE,hf,Bool.true_and]
    simp [L_law04_Few_5,r1,r90,r91,r92,hlt',p1,p2,setFrom,c1,c1',hw,-hset_d,-halloc_d,-Int.natCast_add]
    exact ⟨t.als.length - (i + 1),by omega,i + 1,rfl,by omega,hE2,hLc,rfl⟩
  ·have hlt' : ¬ (i : Int) < t.als.length := by omega
   rw [List.drop_of_length_le (by omega)] at hE
   simp only [List.all_nil,Bool.true_and] at hE
   subst hE
   simp [L_law04_Few_5,r1,r90,r91,r92,hlt']
   exact few_end la lb lc hl (by simp [r1]) hL

theorem few_types {H H' : Hp} {a b c : AV} {t : Tr} {ρ : Rho} (la : asLen a = some t.nodes.length) {xs : List AV} (xs1 : Vw H 6 b xs) (xs2 : xs.length = t.types.length) (xs3 : ∀ (i : Nat) (y : AV) (n : Ty),xs[i]? = some y -> t.types[i]? = some n -> TyR H y n) {zs : List AV} (zs1 : Vw H 3 c zs) (zs2 : zs.length = t.als.length) (zs3 : ∀ (i : Nat) (y : AV) (n : Al),zs[i]? = some y -> t.als[i]? = some n -> AlR H y n) (hl : t.nodes.length < 2 ^ 63 /\ t.types.length < 2 ^ 63 /\ t.als.length < 2 ^ 63) (hok : ∀ n ∈ t.types,n.names.length < 2 ^ 63) (r1 : ρ 1 = .ptr H.l.length 0) (hL : Loc H H' [(H.l.length,.cells [a,b,c] (t_api_Tree N))]) {E : Bool} (hE : (t.types.all fewT && (t.als.all fewA && fewE t)) = E)
  (rr : ρ 55 = b) (rl : ρ 56 = avInt .i64 (t.types.length : Nat)) (ri : ρ 57 = avInt .i64 (0 : Nat)) :
  wp (lim Γ A) none (.block 4 (.loop (L_law04_Few_3 N))) ρ H' (seqP (lim Γ A) none (K_law04_Few_4 N) (Ends [.inl 2] false H fun p => p = (avBool E,none))) := by
 simp only [wp_block]
 refine wp_round (n := t.types.length) (fun q ρ H' => ∃ i : Nat,ρ 1 = .ptr H.l.length 0 /\ ρ 55 = b /\ ρ 56 = avInt .i64 (t.types.length : Nat) /\ ρ 57 = avInt .i64 (i : Nat) /\ i <= t.types.length /\ ((t.types.drop i).all fewT && (t.als.all fewA && fewE t)) = E /\ Loc H H' [(H.l.length,.cells [a,b,c] (t_api_Tree N))] /\ q = t.types.length - i) ?_ ?_
 ·exact ⟨0,r1,rr,rl,ri,by omega,hE,hL,rfl⟩
 ·rintro q ρ H' ⟨i,r1,rr,rl,ri,hi,hE,hL,rfl⟩
  by_cases hlt : i < t.types.length
  ·have hlt' : (i : Int) < t.types.length := by omega
   have hw : IntKind.wrap .i64 ((i : Int) + 1) = ((i + 1 : Nat) : Int) := by rw [wrap64 (by omega) (by omega)]; omega
   have hxi : xs[i]? = some xs[i] := List.getElem?_eq_getElem (by omega)
   obtain ⟨sa,sb,ey,vsa,vsb⟩ := xs3 i _ _ hxi (List.getElem?_eq_getElem hlt)
   have okn := hok _ (List.getElem_mem hlt)
   rw [ey] at hxi
   rw [drop_all hlt] at hE
   generalize t.types[i] = n at *
   obtain ⟨p,p1,p2⟩ := (xs1.loc hL).ats (k := .i64) hxi (by rfl) (by simp [vsa.one,vsb.one])
   have hLc := (hL.alloc (.cells [.lit (.int .i64 0),.lit (.int .i64 0),.lit (.string (mkS [])),.lit (.slice none 0 0),.lit (.slice none 0 0),.lit (.bool false)] (t_api_TypeNode N))).set (.cells [avInt .i64 n.kind,avInt .i64 n.pos,avStr n.name,sa,sb,avBool n.opn] (t_api_TypeNode N))
   have hLd := hLc.sub (List.sublist_cons_self _ _)
   have f1 := settle_keeps (v := avBool false) hLd.keeps (by simp [AV.under])
   by_cases d0 : 20 < n.names.length
   ·have d0' : (20 : Int) < n.names.length := by omega
    have hf : fewT n = false := by unfold fewT; simp; omega
    have hE2 : E = false := by rw [<- hE,hf,Bool.false_and,Bool.false_and]
    subst hE2
    simp [L_law04_Few_3,r1,rr,rl,ri,hlt',p1,p2,vsa.one,vsb.one,VS.len vsa,VI.len vsb,setFrom,loadC,d0,d0',-hset_d,-halloc_d]
    exact f1
   have d0' : ¬ (20 : Int) < n.names.length := by omega
   by_cases d1 : 20 < n.kids.length
   ·have d1' : (20 : Int) < n.kids.length := by omega
    have hf : fewT n = false := by unfold fewT; simp; omega
    have hE2 : E = false := by rw [<- hE,hf,Bool.false_and,Bool.false_and]
    subst hE2
    simp [L_law04_Few_3,r1,rr,rl,ri,hlt',p1,p2,vsa.one,vsb.one,VS.len vsa,VI.len vsb,setFrom,loadC,d0,d0',d1,d1',-hset_d,-halloc_d]
    exact f1
   have d1' : ¬ (20 : Int) < n.kids.length := by omega
   by_cases d2 : 60 < n.name.length
   ·have d2' : (60 : Int) < n.name.length := by omega
    have hf : fewT n = false := by unfold fewT; simp; omega
    have hE2 : E = false := by rw [<- hE,hf,Bool.false_and,Bool.false_and]
    subst hE2
    simp [L_law04_Few_3,r1,rr,rl,ri,hlt',p1,p2,vsa.one,vsb.one,VS.len vsa,VI.len vsb,setFrom,loadC,d0,d0',d1,d1',d2,d2',-hset_d,-halloc_d]
    exact f1
   have d2' : ¬ (60 : Int) < n.name.length := by omega
   have hf : fewT n = n.names.all le60 := by
    have : (decide (n.names.length <= 20) && decide (n.kids.length <= 20) && decide (n.name.length <= 60)) = true := by simp; omega
    unfold fewT; rw [this,Bool.true_and]
   rw [hf] at hE
   simp [L_law04_Few_3,r1,rr,rl,ri,hlt',p1,p2,vsa.one,vsb.one,VS.len vsa,VI.len vsb,setFrom,loadC,d0,d0',d1,d1',d2,d2',-hset_d,-halloc_d]
   generalize hHc : hset (halloc H' _) H'.l.length _ = Hc
   rw [hHc] at hLc
   refine wp_round (n := n.names.length) (fun q ρ G => ∃ j : Nat,ρ 1 = .ptr H.l.length 0 /\ ρ 55 = b /\ ρ 56 = avInt .i64 (t.types.length : Nat) /\ ρ 57 = avInt .i64 (i : Nat) /\ ρ 78 = sa /\ ρ 79 = avInt .i64 (n.names.length : Nat) /\ ρ 80 = avInt .i64 (j : Nat) /\ j <= n.names.length /\ G = Hc /\ ((n.names.drop j).all le60 && (t.types.drop (i + 1)).all fewT && (t.als.all fewA && fewE t)) = E /\ q = n.names.length - j) ?_ ?_
   ·exact ⟨0,r1,rr,rl,ri,rfl,rfl,rfl,by omega,rfl,hE,rfl⟩
   ·rintro q ρ G ⟨j,r1,rr,rl,ri,s1,s2,s3,hj,rfl,hE,rfl⟩
    by_cases hjl : j < n.names.length
    ·have hjl' : (j : Int) < n.names.length := by omega
     have hwj : IntKind.wrap .i64 ((j : Int) + 1) = ((j + 1 : Nat) : Int) := by have := okn; rw [wrap64 (by omega) (by omega)]; omega
     obtain ⟨pq,q1,q2⟩ := (vsa.loc hLc).at' (k := .i64) (i := (j : Int)) (e := avStr n.names[j]) (by omega) (by simp [List.getElem?_eq_getElem hjl]) rfl rfl rfl
     rw [drop_all hjl] at hE
     generalize n.names[j] = nm at *
     by_cases e1 : 60 < nm.length
     ·have e1' : (60 : Int) < nm.length := by omega
      have hf2 : le60 nm = false := decide_eq_false (by omega)
      have hE2 : E = false := by rw [<- hE,hf2,Bool.false_and,Bool.false_and,Bool.false_and]
      subst hE2
      have f2 := settle_keeps (v := avBool false) hLc.keeps (by simp [AV.under])
      simp [L_law04_Few_4,r1,rr,rl,ri,s1,s2,s3,hjl',q1,q2,e1,e1']
      exact f2
     ·have e1' : ¬ (60 : Int) < nm.length := by omega
      have hf2 : le60 nm = true := decide_eq_true (by omega)
      rw [hf2,Bool.true_and] at hE
      simp [L_law04_Few_4,r1,rr,rl,ri,s1,s2,s3,hjl',q1,q2,e1,e1',hwj,-Int.natCast_add]
      exact ⟨n.names.length - (j + 1),by omega,j + 1,rfl,by omega,hE,rfl⟩
    ·have hjl' : ¬ (j : Int) < n.names.length := by omega
     rw [List.drop_of_length_le (by omega)] at hE
     simp only [List.all_nil,Bool.true_and] at hE
     have hLe := hLc.sub (List.sublist_cons_self _ _)
     simp [L_law04_Few_4,K_law04_Few_3,r1,rr,rl,ri,s1,s2,s3,hjl',hw,-Int.natCast_add]
     exact ⟨t.types.length - (i + 1),by omega,i + 1,rfl,by omega,hE,hLe,rfl⟩
  ·have hlt' : ¬ (i : Int) < t.types.length := by omega
   rw [List.drop_of_length_le (by omega)] at hE
   simp only [List.all_nil,Bool.true_and] at hE
   subst hE
   simp [L_law04_Few_3,r1,rr,rl,ri,hlt']
   exact few_als la (by rw [xs1.len,xs2]) zs1 zs2 zs3 hl (by simp [r1]) hL

theorem few_nodes {H H' : Hp} {a b c : AV} {t : Tr} {ρ : Rho} {xs : List AV} (xs1 : Vw H 8 a xs) (xs2 : xs.length = t.nodes.length) (xs3 : ∀ (i : Nat) (y : AV) (n : Nd),xs[i]? = some y -> t.nodes[i]? = some n -> NdR H y n) {ys : List AV} (ys1 : Vw H 6 b ys) (ys2 : ys.length = t.types.length) (ys3 : ∀ (i : Nat) (y : AV) (n : Ty),ys[i]? = some y -> t.types[i]? = some n -> TyR H y n) {zs : List AV} (zs1 : Vw H 3 c zs) (zs2 : zs.length = t.als.length) (zs3 : ∀ (i : Nat) (y : AV) (n : Al),zs[i]? = some y -> t.als[i]? = some n -> AlR H y n) (hokT : ∀ n ∈ t.types,n.names.length < 2 ^ 63) (hl : t.nodes.length < 2 ^ 63 /\ t.types.length < 2 ^ 63 /\ t.als.length < 2 ^ 63) (hok : ∀ n ∈ t.nodes,n.names.length < 2 ^ 63) (r1 : ρ 1 = .ptr H.l.length 0) (hL : Loc H H' [(H.l.length,.cells [a,b,c] (t_api_Tree N))]) {E : Bool} (hE : (t.nodes.all fewN && (t.types.all fewT && (t.als.all fewA && fewE t))) = E)
  (rr : ρ 14 = a) (rl : ρ 15 = avInt .i64 (t.nodes.length : Nat)) (ri : ρ 16 = avInt .i64 (0 : Nat)) :
  wp (lim Γ A) none (.block 0 (.loop (L_law04_Few_1 N))) ρ H' (seqP (lim Γ A) none (K_law04_Few_2 N) (Ends [.inl 2] false H fun p => p = (avBool E,none))) := by
 simp only [wp_block]
 refine wp_round (n := t.nodes.length) (fun q ρ H' => ∃ i : Nat,ρ 1 = .ptr H.l.length 0 /\ ρ 14 = a /\ ρ 15 = avInt .i64 (t.nodes.length : Nat) /\ ρ 16 = avInt .i64 (i : Nat) /\ i <= t.nodes.length /\ ((t.nodes.drop i).all fewN && (t.types.all fewT && (t.als.all fewA && fewE t))) = E /\ Loc H H' [(H.l.length,.cells [a,b,c] (t_api_Tree N))] /\ q = t.nodes.length - i) ?_ ?_
 ·exact ⟨0,r1,rr,rl,ri,by omega,hE,hL,rfl⟩
 ·rintro q ρ H' ⟨i,r1,rr,rl,ri,hi,hE,hL,rfl⟩
  by_cases hlt : i < t.nodes.length
  ·have hlt' : (i : Int) < t.nodes.length := by omega
   have hw : IntKind.wrap .i64 ((i : Int) + 1) = ((i + 1 : Nat) : Int) := by rw [wrap64 (by omega) (by omega)]; omega
   have hxi : xs[i]? = some xs[i] := List.getElem?_eq_getElem (by omega)
   obtain ⟨sa,sb,sc,ey,vsa,vsb,vsc⟩ := xs3 i _ _ hxi (List.getElem?_eq_getElem hlt)
   have okn := hok _ (List.getElem_mem hlt)
   rw [ey] at hxi
   rw [drop_all hlt] at hE
   generalize t.nodes[i] = n at *
   obtain ⟨p,p1,p2⟩ := (xs1.loc hL).ats (k := .i64) hxi (by rfl) (by simp [vsa.one,vsb.one,vsc.one])
   have hLc := (hL.alloc (.cells [.lit (.int .i64 0),.lit (.int .i64 0),.lit (.string (mkS [])),.lit (.int .i64 0),.lit (.int .u64 0),.lit (.slice none 0 0),.lit (.slice none 0 0),.lit (.slice none 0 0)] (t_api_Node N))).set (.cells [avInt .i64 n.kind,avInt .i64 n.pos,avStr n.name,avInt .i64 n.int,avInt .u64 n.bits,sa,sb,sc] (t_api_Node N))
   have hLd := hLc.sub (List.sublist_cons_self _ _)
   have f1 := settle_keeps (v := avBool false) hLd.keeps (by simp [AV.under])
   by_cases d0 : 20 < n.names.length
   ·have d0' : (20 : Int) < n.names.length := by omega
    have hf : fewN n = false := by unfold fewN; simp; omega
    have hE2 : E = false := by rw [<- hE,hf,Bool.false_and,Bool.false_and]
    subst hE2
    simp [L_law04_Few_1,r1,rr,rl,ri,hlt',p1,p2,vsa.one,vsb.one,vsc.one,VS.len vsa,VI.len vsb,VI.len vsc,setFrom,loadC,d0,d0',-hset_d,-halloc_d]
    exact f1
   have d0' : ¬ (20 : Int) < n.names.length := by omega
   by_cases d1 : 20 < n.kids.length
   ·have d1' : (20 : Int) < n.kids.length := by omega
    have hf : fewN n = false := by unfold fewN; simp; omega
    have hE2 : E = false := by rw [<- hE,hf,Bool.false_and,Bool.false_and]
    subst hE2
    simp [L_law04_Few_1,r1,rr,rl,ri,hlt',p1,p2,vsa.one,vsb.one,vsc.one,VS.len vsa,VI.len vsb,VI.len vsc,setFrom,loadC,d0,d0',d1,d1',-hset_d,-halloc_d]
    exact f1
   have d1' : ¬ (20 : Int) < n.kids.length := by omega
   by_cases d2 : 20 < n.types.length
   ·have d2' : (20 : Int) < n.types.length := by omega
    have hf : fewN n = false := by unfold fewN; simp; omega
    have hE2 : E = false := by rw [<- hE,hf,Bool.false_and,Bool.false_and]
    subst hE2
    simp [L_law04_Few_1,r1,rr,rl,ri,hlt',p1,p2,vsa.one,vsb.one,vsc.one,VS.len vsa,VI.len vsb,VI.len vsc,setFrom,loadC,d0,d0',d1,d1',d2,d2',-hset_d,-halloc_d]
    exact f1
   have d2' : ¬ (20 : Int) < n.types.length := by omega
   by_cases d3 : 60 < n.name.length
   ·have d3' : (60 : Int) < n.name.length := by omega
    have hf : fewN n = false := by unfold fewN; simp; omega
    have hE2 : E = false := by rw [<- hE,hf,Bool.false_and,Bool.false_and]
    subst hE2
    simp [L_law04_Few_1,r1,rr,rl,ri,hlt',p1,p2,vsa.one,vsb.one,vsc.one,VS.len vsa,VI.len vsb,VI.len vsc,setFrom,loadC,d0,d0',d1,d1',d2,d2',d3,d3',-hset_d,-halloc_d]
    exact f1
   have d3' : ¬ (60 : Int) < n.name.length := by omega
   have hf : fewN n = n.names.all le60 := by
    have : (decide (n.names.length <= 20) && decide (n.kids.length <= 20) && decide (n.types.length <= 20) && decide (n.name.length <= 60)) = true := by simp; omega
    unfold fewN; rw [this,Bool.true_and]
   rw [hf] at hE
   simp [L_law04_Few_1,r1,rr,rl,ri,hlt',p1,p2,vsa.one,vsb.one,vsc.one,VS.len vsa,VI.len vsb,VI.len vsc,setFrom,loadC,d0,d0',d1,d1',d2,d2',d3,d3',-hset_d,-halloc_d]
   generalize hHc : hset (halloc H' _) H'.l.length _ = Hc
   rw [hHc] at hLc
   refine wp_round (n := n.names.length) (fun q ρ G => ∃ j : Nat,ρ 1 = .ptr H.l.length 0 /\ ρ 14 = a /\ ρ 15 = avInt .i64 (t.nodes.length : Nat) /\ ρ 16 = avInt .i64 (i : Nat) /\ ρ 43 = sa /\ ρ 44 = avInt .i64 (n.names.length : Nat) /\ ρ 45 = avInt .i64 (j : Nat) /\ j <= n.names.length /\ G = Hc /\ ((n.names.drop j).all le60 && (t.nodes.drop (i + 1)).all fewN && (t.types.all fewT && (t.als.all fewA && fewE t))) = E /\ q = n.names.length - j) ?_ ?_
   ·exact ⟨0,r1,rr,rl,ri,rfl,rfl,rfl,by omega,rfl,hE,rfl⟩
   ·rintro q ρ G ⟨j,r1,rr,rl,ri,s1,s2,s3,hj,rfl,hE,rfl⟩
    by_cases hjl : j < n.names.length
    ·have hjl' : (j : Int) < n.names.length := by omega
     have hwj : IntKind.wrap .i64 ((j : Int) + 1) = ((j + 1 : Nat) : Int) := by have := okn; rw [wrap64 (by omega) (by omega)]; omega
     obtain ⟨pq,q1,q2⟩ := (vsa.loc hLc).at' (k := .i64) (i := (j : Int)) (e := avStr n.names[j]) (by omega) (by simp [List.getElem?_eq_getElem hjl]) rfl rfl rfl
     rw [drop_all hjl] at hE
     generalize n.names[j] = nm at *
     by_cases e1 : 60 < nm.length
     ·have e1' : (60 : Int) < nm.length := by omega
      have hf2 : le60 nm = false := decide_eq_false (by omega)
      have hE2 : E = false := by rw [<- hE,hf2,Bool.false_and,Bool.false_and,Bool.false_and]
      subst hE2
      have f2 := settle_keeps (v := avBool false) hLc.keeps (by simp [AV.under])
      simp [L_law04_Few_2,r1,rr,rl,ri,s1,s2,s3,hjl',q1,q2,e1,e1']
      exact f2
     ·have e1' : ¬ (60 : Int) < nm.length := by omega
      have hf2 : le60 nm = true := decide_eq_true (by omega)
      rw [hf2,Bool.true_and] at hE
      simp [L_law04_Few_2,r1,rr,rl,ri,s1,s2,s3,hjl',q1,q2,e1,e1',hwj,-Int.natCast_add]
      exact ⟨n.names.length - (j + 1),by omega,j + 1,rfl,by omega,hE,rfl⟩
    ·have hjl' : ¬ (j : Int) < n.names.length := by omega
     rw [List.drop_of_length_le (by omega)] at hE
     simp only [List.all_nil,Bool.true_and] at hE
     have hLe := hLc.sub (List.sublist_cons_self _ _)
     simp [L_law04_Few_2,K_law04_Few_1,r1,rr,rl,ri,s1,s2,s3,hjl',hw,-Int.natCast_add]
     exact ⟨t.nodes.length - (i + 1),by omega,i + 1,rfl,by omega,hE,hLe,rfl⟩
  ·have hlt' : ¬ (i : Int) < t.nodes.length := by omega
   rw [List.drop_of_length_le (by omega)] at hE
   simp only [List.all_nil,Bool.true_and] at hE
   subst hE
   simp [L_law04_Few_1,r1,rr,rl,ri,hlt']
   have hbox := hL.head
   have lb : asLen b = some t.types.length := by rw [ys1.len,ys2]
   simp [K_law04_Few_2,r1,hbox,lb]
   exact few_types (by rw [xs1.len,xs2]) ys1 ys2 ys3 zs1 zs2 zs3 hl hokT (by simp [r1]) hL rfl (by simp) (by simp) (by simp)

theorem few_call (h : Has Γ A (f_law04_Few N) (C_law04_Few N)) {H : Hp} {x : AV} {t : Tr} (hx : TrR H x t) (ok : (∀ n ∈ t.nodes,n.names.length < 2 ^ 63) /\ ∀ n ∈ t.types,n.names.length < 2 ^ 63) (hl : t.nodes.length < 2 ^ 63 /\ t.types.length < 2 ^ 63 /\ t.als.length < 2 ^ 63) : (lim Γ A).call (f_law04_Few N) [x] H = some (avBool (fewB t),none) := by
 obtain ⟨a,b,c,rfl,⟨xs,xs1,xs2,xs3⟩,⟨ys,ys1,ys2,ys3⟩,zs,zs1,zs2,zs3⟩ := hx
 have la : asLen a = some t.nodes.length := by rw [xs1.len,xs2]
 have hL := (Loc.start H).alloc (.cells [a,b,c] (t_api_Tree N))
 apply h.call (by rfl)
 simp [C_law04_Few,xs1.one,ys1.one,zs1.one,la,-halloc_d]
 exact few_nodes xs1 xs2 xs3 ys1 ys2 ys3 zs1 zs2 zs3 ok.2 hl ok.1 (by simp) hL rfl (by simp) (by simp) (by simp)
end
end Go.Proofs.Eng
namespace Go.Proofs.Eng
open Go
theorem few_ok {t : Tr} (h : fewB t = true) : (t.nodes.length < 65536 /\ t.types.length < 65536 /\ t.als.length < 2 ^ 30) /\ t.ok := by
 unfold fewB fewE at h
 simp only [Bool.and_eq_true,decide_eq_true_eq,List.all_eq_true] at h
 obtain ⟨h1,h2,h3,h4⟩ := h
 refine ⟨by omega,fun n hn => ?_,fun n hn => ?_,fun n hn => ?_⟩
 ·have := h1 n hn
  unfold fewN at this
  simp only [Bool.and_eq_true,decide_eq_true_eq,List.all_eq_true,le60] at this
  obtain ⟨⟨⟨⟨e1,e2⟩,e3⟩,e4⟩,e5⟩ := this
  exact ⟨by omega,fun s hs => by have := e5 s hs; omega,by omega,by omega,by omega⟩
 ·have := h2 n hn
  unfold fewT at this
  simp only [Bool.and_eq_true,decide_eq_true_eq,List.all_eq_true,le60] at this
  obtain ⟨⟨⟨e1,e2⟩,e4⟩,e5⟩ := this
  exact ⟨by omega,fun s hs => by have := e5 s hs; omega,by omega,by omega⟩
 ·have := h3 n hn
  unfold fewA at this
  simp only [decide_eq_true_eq] at this
  show n.name.length < 2 ^ 30
  omega
end Go.Proofs.Eng
namespace Go.Proofs.Eng
open Go
theorem few_names {t : Tr} (h : fewB t = true) : (∀ n ∈ t.types,n.name.length <= 1048576) /\ (∀ n ∈ t.als,n.name.length <= 1048576) /\ (t.nodes.length < 2 ^ 20 /\ t.types.length < 2 ^ 20 /\ t.als.length < 2 ^ 20) := by
 unfold fewB fewE at h
 simp only [Bool.and_eq_true,decide_eq_true_eq,List.all_eq_true] at h
 obtain ⟨h1,h2,h3,h4⟩ := h
 refine ⟨fun n hn => ?_,fun n hn => ?_,by omega⟩
 ·have := h2 n hn
  unfold fewT at this
  simp only [Bool.and_eq_true,decide_eq_true_eq,List.all_eq_true,le60] at this
  obtain ⟨⟨⟨e1,e2⟩,e4⟩,e5⟩ := this
  omega
 ·have := h3 n hn
  unfold fewA at this
  simp only [decide_eq_true_eq] at this
  omega
section
variable {Γ : Sums} {A : Tab} {N : Nat -> Nat}
end
end Go.Proofs.Eng
namespace Go.Proofs.Eng
open Go
def NodeW (H : Hp) (y : AV) (n : Nd) : Prop := ∃ k p s i b na nb nc,y = .agg [k,p,s,i,b,na,nb,nc] /\ [k,p,s,i,b,na,nb,nc].all AV.one = true /\ WV H na n.names.length /\ WV H nb n.kids.length
def TypeW (H : Hp) (y : AV) (n : Ty) : Prop := ∃ k p s na nb o,y = .agg [k,p,s,na,nb,o] /\ [k,p,s,na,nb,o].all AV.one = true /\ WV H nb n.kids.length
theorem NdC.w {H : Hp} {y : AV} {n : Nd} (h : NdC H y n) : NodeW H y n := by
 obtain ⟨⟨na,nb,nc,rfl,v1,v2,v3⟩,k,p,s,i,b,na',nb',nc',e,l1,l2⟩ := h
 unfold ndV at e
 simp only [AV.agg.injEq,List.cons.injEq,and_true] at e
 obtain ⟨_,_,_,_,_,rfl,rfl,rfl⟩ := e
 have w1 := v1.wv l1
 have w2 := v2.wv l2
 rw [List.length_map] at w1 w2
 have o1 := v1.one
 have o2 := v2.one
 have o3 := v3.one
 exact ⟨_,_,_,_,_,na,nb,nc,rfl,by simp [o1,o2,o3],w1,w2⟩
theorem TyC.w {H : Hp} {y : AV} {n : Ty} (h : TyC H y n) : TypeW H y n := by
 obtain ⟨⟨na,nb,rfl,v1,v2⟩,k,p,s,na',nb',o,e,l2⟩ := h
 unfold tyV at e
 simp only [AV.agg.injEq,List.cons.injEq,and_true] at e
 obtain ⟨_,_,_,rfl,rfl,_⟩ := e
 have w2 := v2.wv l2
 rw [List.length_map] at w2
 have o1 := v1.one
 have o2 := v2.one
 exact ⟨_,_,_,na,nb,_,rfl,by simp [o1,o2],w2⟩
structure CopyW (H : Hp) (ya yb : AV) (t : Tr) : Prop where
 nd : ∃ xs,Vw H 8 ya xs /\ xs.length = t.nodes.length /\ ∀ (i : Nat) (n : Nd),t.nodes[i]? = some n -> ∃ y,xs[i]? = some y /\ NodeW H y n
 ty : ∃ xs,Vw H 6 yb xs /\ xs.length = t.types.length /\ ∀ (i : Nat) (n : Ty),t.types[i]? = some n -> ∃ y,xs[i]? = some y /\ TypeW H y n
theorem CopyW.wr {H G : Hp} {ya yb : AV} {t : Tr} (h : CopyW H ya yb t) (k : Wr H G) : CopyW G ya yb t := by
 obtain ⟨⟨xs,x1,x2,x3⟩,⟨ys,y1,y2,y3⟩⟩ := h
 refine ⟨⟨xs,x1.keepA fun id es e ho => k.2 id _ ho (by simp),x2,fun i n hn => ?_⟩,⟨ys,y1.keepA fun id es e ho => k.2 id _ ho (by simp),y2,fun i n hn => ?_⟩⟩
 ·obtain ⟨y,h1,kk,p,s,i',b,na,nb,nc,e,h2,h3,h4⟩ := x3 i n hn
  exact ⟨y,h1,kk,p,s,i',b,na,nb,nc,e,h2,h3.wr k,h4.wr k⟩
 ·obtain ⟨y,h1,kk,p,s,na,nb,o,e,h2,h4⟩ := y3 i n hn
  exact ⟨y,h1,kk,p,s,na,nb,o,e,h2,h4.wr k⟩
theorem brow_copy {N : Nat -> Nat} {H : Hp} {n0 : Nat} {ya yb : AV} {t : Tr} (h1 : BRow NdC H n0 (t_api_Node N) 8 ya t.nodes) (h2 : BRow TyC H n0 (t_api_TypeNode N) 6 yb t.types) : CopyW H ya yb t := by
 obtain ⟨xs,x1,x2,x3⟩ := h1.toRow
 obtain ⟨ys,y1,y2,y3⟩ := h2.toRow
 refine ⟨⟨xs,x1,x2,fun i n hn => ?_⟩,⟨ys,y1,y2,fun i n hn => ?_⟩⟩
 ·have hi : i < xs.length := by rw [x2]; exact (List.getElem?_eq_some_iff.1 hn).1
  exact ⟨xs[i],List.getElem?_eq_getElem hi,(x3 i xs[i] n (List.getElem?_eq_getElem hi) hn).w⟩
 ·have hi : i < ys.length := by rw [y2]; exact (List.getElem?_eq_some_iff.1 hn).1
  exact ⟨ys[i],List.getElem?_eq_getElem hi,(y3 i ys[i] n (List.getElem?_eq_getElem hi) hn).w⟩
theorem CopyW.kids {H : Hp} {ya yb : AV} {t : Tr} (h : CopyW H ya yb t) {i : Nat} {n : Nd} (hn : t.nodes[i]? = some n) {k : IntKind} : ∃ p q v,aiaddr 8 ya (.lit (.int k (i : Int))) = some p /\ afaddr 6 p = some q /\ aload H none q = some v /\ WV H v n.kids.length := by
 obtain ⟨⟨xs,x1,x2,x3⟩,_⟩ := h
 obtain ⟨y,h1,kk,pp,s,i',b,na,nb,nc,rfl,h2,h3,h4⟩ := x3 i n hn
 obtain ⟨p,q,e1,e2,e3⟩ := x1.atf (k := k) (i := i) (off := 6) h1 rfl h2 rfl
 exact ⟨p,q,nb,e1,e2,e3,h4⟩
theorem CopyW.names {H : Hp} {ya yb : AV} {t : Tr} (h : CopyW H ya yb t) {i : Nat} {n : Nd} (hn : t.nodes[i]? = some n) {k : IntKind} : ∃ p q v,aiaddr 8 ya (.lit (.int k (i : Int))) = some p /\ afaddr 5 p = some q /\ aload H none q = some v /\ WV H v n.names.length := by
 obtain ⟨⟨xs,x1,x2,x3⟩,_⟩ := h
 obtain ⟨y,h1,kk,pp,s,i',b,na,nb,nc,rfl,h2,h3,h4⟩ := x3 i n hn
 obtain ⟨p,q,e1,e2,e3⟩ := x1.atf (k := k) (i := i) (off := 5) h1 rfl h2 rfl
 exact ⟨p,q,na,e1,e2,e3,h3⟩
theorem CopyW.tkids {H : Hp} {ya yb : AV} {t : Tr} (h : CopyW H ya yb t) {i : Nat} {n : Ty} (hn : t.types[i]? = some n) {k : IntKind} : ∃ p q v,aiaddr 6 yb (.lit (.int k (i : Int))) = some p /\ afaddr 4 p = some q /\ aload H none q = some v /\ WV H v n.kids.length := by
 obtain ⟨_,⟨xs,x1,x2,x3⟩⟩ := h
 obtain ⟨y,h1,kk,pp,s,na,nb,o,rfl,h2,h4⟩ := x3 i n hn
 obtain ⟨p,q,e1,e2,e3⟩ := x1.atf (k := k) (i := i) (off := 4) h1 rfl h2 rfl
 exact ⟨p,q,nb,e1,e2,e3,h4⟩
theorem CopyW.len {H : Hp} {ya yb : AV} {t : Tr} (h : CopyW H ya yb t) : (asLen ya = some t.nodes.length /\ ya.one = true) /\ asLen yb = some t.types.length /\ yb.one = true := by
 obtain ⟨⟨xs,x1,x2,x3⟩,⟨ys,y1,y2,y3⟩⟩ := h
 exact ⟨⟨by rw [x1.len,x2],x1.one⟩,by rw [y1.len,y2],y1.one⟩
end Go.Proofs.Eng
namespace Go.Proofs.Eng
open Go
section
variable {Γ : Sums} {A : Tab} {N : Nat -> Nat}
structure SamesC (Γ : Sums) (A : Tab) (N : Nat -> Nat) : Prop where
 check : TreeC Γ A N
 two : TwoC Γ A N
 sameT : Has Γ A (f_tree_Same N) (C_tree_Same N)
 b : TreeB Γ A N
 few : Has Γ A (f_law04_Few N) (C_law04_Few N)
 ref : RefK Γ A N
 refS : RefS Γ A N
 rSame : Has Γ A (f_ref04_Same N) (C_ref04_Same N)
 law : Has Γ A (f_law04_TreeSame N) (C_law04_TreeSame N)
theorem few_small {t : Tr} (h : fewB t = true) (wf : ∀ n ∈ t.nodes,n.wf) : SmallT t := by
 obtain ⟨n1,n2,n3⟩ := few_names h
 exact ⟨(few_ok h).2,wf,n1,n2,n3⟩
theorem ts_loops (h : SamesC Γ A N) {a b c ya yb yc : AV} {t : Tr} {q : Nat} {tt tu : TypeId} {G : Hp} {ρ : Rho} {Q : Post} (ok : t.ok) (hb : t.nodes.length < 2 ^ 30 /\ t.types.length < 2 ^ 30)
  (hc : CopyW G ya yb t) (h0 : hget G 0 = some (.cells [a,b,c] tt)) (hq : hget G q = some (.cells [ya,yb,yc] tu)) (r3 : ρ 3 = .ptr 0 0) (r7 : ρ 7 = .ptr q 0) (r53 : ρ 53 = avInt .i64 (t.nodes.length : Nat)) (r54 : ρ 54 = avInt .i64 (0 : Nat))
  (hQ : ∀ ρ' G',ρ' 3 = .ptr 0 0 -> hget G' 0 = some (.cells [a,b,c] tt) -> wp (lim Γ A) none (K_law04_TreeSame_5 N) ρ' G' Q) :
  wp (lim Γ A) none (.loop (L_law04_TreeSame_1 N)) ρ G (blockP 0 (seqP (lim Γ A) none (K_law04_TreeSame_3 N) Q)) := by
 refine wp_round (n := t.nodes.length) (fun m ρ H' => ∃ i : Nat,ρ 3 = .ptr 0 0 /\ ρ 7 = .ptr q 0 /\ ρ 53 = avInt .i64 (t.nodes.length : Nat) /\ ρ 54 = avInt .i64 (i : Nat) /\ i <= t.nodes.length /\ Wr G H' /\ m = t.nodes.length - i) ⟨0,r3,r7,r53,r54,by omega,Wr.refl _,rfl⟩ ?_
 rintro m ρ H' ⟨i,r3,r7,r53,r54,hi,hw,rfl⟩
 have hcl := (hc.wr hw).len
 obtain ⟨⟨ly,oy⟩,lz,oz⟩ := hcl
 have hq1 := hw.2 q _ hq (by simp)
 have h01 := hw.2 0 _ h0 (by simp)
 by_cases hlt : i < t.nodes.length
 ·have hlt' : (i : Int) < t.nodes.length := by omega
  obtain ⟨n,hn⟩ : ∃ n,t.nodes[i]? = some n := ⟨_,List.getElem?_eq_getElem hlt⟩
  have okn := ok.1 n (List.mem_of_getElem? hn)
  have okk := okn.2.2.2.1
  have okl := okn.2.2.1
  obtain ⟨p,p',v,p1,p2,p3,wv⟩ := (hc.wr hw).kids hn (k := .i64)
  have lv := wv.len
  simp [L_law04_TreeSame_1,r3,r7,r53,r54,hlt',hq1,oy,oz,p1,p2,p3,lv,loadC,-Int.natCast_add]
  refine wp_round (n := n.kids.length) (fun m ρ H'' => ∃ x : Nat,ρ 3 = .ptr 0 0 /\ ρ 7 = .ptr q 0 /\ ρ 8 = avInt .i64 (i : Nat) /\ ρ 53 = avInt .i64 (t.nodes.length : Nat) /\ ρ 54 = avInt .i64 (i : Nat) /\ ρ 63 = avInt .i64 (n.kids.length : Nat) /\ ρ 64 = avInt .i64 (x : Nat) /\ x <= n.kids.length /\ Wr G H'' /\ m = n.kids.length - x) ⟨0,r3,r7,rfl,r53,r54,rfl,rfl,by omega,hw,rfl⟩ ?_
  rintro m ρ H'' ⟨x,r3,r7,r8,r53,r54,r63,r64,hx,hw2,rfl⟩
  have hq2 := hw2.2 q _ hq (by simp)
  by_cases hlx : x < n.kids.length
  ·have hlx' : (x : Int) < n.kids.length := by omega
   obtain ⟨p,p',v,p1,p2,p3,wv⟩ := (hc.wr hw2).kids hn (k := .i64)
   obtain ⟨s,G2,s1,s2,s3⟩ := wv.put hlx (x := avInt .i64 (-1)) ⟨rfl,rfl⟩ (kd := .i64)
   have hww : IntKind.wrap .i64 ((x : Int) + 1) = ((x + 1 : Nat) : Int) := by rw [wrap64 (by omega) (by omega)]; omega
   simp [L_law04_TreeSame_2,r3,r7,r8,r53,r54,r63,r64,hlx',hq2,oy,oz,p1,p2,p3,s1,s2,hww,loadC,-Int.natCast_add]
   exact ⟨n.kids.length - (x + 1),by omega,x + 1,rfl,by omega,hw2.trans s3,rfl⟩
  have hlx' : ¬ (x : Int) < n.kids.length := by omega
  obtain ⟨p,p',v,p1,p2,p3,wv⟩ := (hc.wr hw2).names hn (k := .i64)
  have lv := wv.len
  simp [L_law04_TreeSame_2,K_law04_TreeSame_1,r3,r7,r8,r53,r54,r63,r64,hlx',hq2,oy,oz,p1,p2,p3,lv,loadC,-Int.natCast_add]
  refine wp_round (n := n.names.length) (fun m ρ H3 => ∃ x : Nat,ρ 3 = .ptr 0 0 /\ ρ 7 = .ptr q 0 /\ ρ 8 = avInt .i64 (i : Nat) /\ ρ 53 = avInt .i64 (t.nodes.length : Nat) /\ ρ 54 = avInt .i64 (i : Nat) /\ ρ 82 = avInt .i64 (n.names.length : Nat) /\ ρ 83 = avInt .i64 (x : Nat) /\ x <= n.names.length /\ Wr G H3 /\ m = n.names.length - x) ⟨0,r3,r7,r8,r53,r54,rfl,rfl,by omega,hw2,rfl⟩ ?_
  rintro m ρ H3 ⟨x,r3,r7,r8,r53,r54,r82,r83,hx,hw3,rfl⟩
  have hq3 := hw3.2 q _ hq (by simp)
  by_cases hly : x < n.names.length
  ·have hly' : (x : Int) < n.names.length := by omega
   obtain ⟨p,p',v,p1,p2,p3,wv⟩ := (hc.wr hw3).names hn (k := .i64)
   obtain ⟨s,G2,s1,s2,s3⟩ := wv.put hly (x := avStr [63]) ⟨rfl,rfl⟩ (kd := .i64)
   have hww : IntKind.wrap .i64 ((x : Int) + 1) = ((x + 1 : Nat) : Int) := by rw [wrap64 (by omega) (by omega)]; omega
   simp [L_law04_TreeSame_3,r3,r7,r8,r53,r54,r82,r83,hly',hq3,oy,oz,p1,p2,p3,s1,s2,hww,loadC,-Int.natCast_add]
   exact ⟨n.names.length - (x + 1),by omega,x + 1,rfl,by omega,hw3.trans s3,rfl⟩
  have hly' : ¬ (x : Int) < n.names.length := by omega
  have hww : IntKind.wrap .i64 ((i : Int) + 1) = ((i + 1 : Nat) : Int) := by rw [wrap64 (by omega) (by omega)]; omega
  simp [L_law04_TreeSame_3,K_law04_TreeSame_2,r3,r7,r8,r53,r54,r82,r83,hly',hww,-Int.natCast_add]
  exact ⟨t.nodes.length - (i + 1),by omega,i + 1,rfl,by omega,hw3,rfl⟩
 have hlt' : ¬ (i : Int) < t.nodes.length := by omega
 simp [L_law04_TreeSame_1,K_law04_TreeSame_3,r3,r7,r53,r54,hlt',hq1,oy,oz,lz,loadC,-Int.natCast_add]
 refine wp_round (n := t.types.length) (fun m ρ H' => ∃ i : Nat,ρ 3 = .ptr 0 0 /\ ρ 7 = .ptr q 0 /\ ρ 98 = avInt .i64 (t.types.length : Nat) /\ ρ 99 = avInt .i64 (i : Nat) /\ i <= t.types.length /\ Wr G H' /\ m = t.types.length - i) ⟨0,r3,r7,rfl,rfl,by omega,hw,rfl⟩ ?_
 rintro m ρ H' ⟨i,r3,r7,r98,r99,hi,hw,rfl⟩
 have hq1 := hw.2 q _ hq (by simp)
 have h01 := hw.2 0 _ h0 (by simp)
 by_cases hlt : i < t.types.length
 ·have hlt' : (i : Int) < t.types.length := by omega
  obtain ⟨n,hn⟩ : ∃ n,t.types[i]? = some n := ⟨_,List.getElem?_eq_getElem hlt⟩
  have okk := (ok.2.1 n (List.mem_of_getElem? hn)).2.2.2
  obtain ⟨p,p',v,p1,p2,p3,wv⟩ := (hc.wr hw).tkids hn (k := .i64)
  have lv := wv.len
  simp [L_law04_TreeSame_4,r3,r7,r98,r99,hlt',hq1,oy,oz,p1,p2,p3,lv,loadC,-Int.natCast_add]
  refine wp_round (n := n.kids.length) (fun m ρ H'' => ∃ x : Nat,ρ 3 = .ptr 0 0 /\ ρ 7 = .ptr q 0 /\ ρ 11 = avInt .i64 (i : Nat) /\ ρ 98 = avInt .i64 (t.types.length : Nat) /\ ρ 99 = avInt .i64 (i : Nat) /\ ρ 108 = avInt .i64 (n.kids.length : Nat) /\ ρ 109 = avInt .i64 (x : Nat) /\ x <= n.kids.length /\ Wr G H'' /\ m = n.kids.length - x) ⟨0,r3,r7,rfl,r98,r99,rfl,rfl,by omega,hw,rfl⟩ ?_
  rintro m ρ H'' ⟨x,r3,r7,r11,r98,r99,r108,r109,hx,hw2,rfl⟩
  have hq2 := hw2.2 q _ hq (by simp)
  by_cases hlx : x < n.kids.length
  ·have hlx' : (x : Int) < n.kids.length := by omega
   obtain ⟨p,p',v,p1,p2,p3,wv⟩ := (hc.wr hw2).tkids hn (k := .i64)
   obtain ⟨s,G2,s1,s2,s3⟩ := wv.put hlx (x := avInt .i64 (-1)) ⟨rfl,rfl⟩ (kd := .i64)
   have hww : IntKind.wrap .i64 ((x : Int) + 1) = ((x + 1 : Nat) : Int) := by rw [wrap64 (by omega) (by omega)]; omega
   simp [L_law04_TreeSame_5,r3,r7,r11,r98,r99,r108,r109,hlx',hq2,oy,oz,p1,p2,p3,s1,s2,hww,loadC,-Int.natCast_add]
   exact ⟨n.kids.length - (x + 1),by omega,x + 1,rfl,by omega,hw2.trans s3,rfl⟩
  have hlx' : ¬ (x : Int) < n.kids.length := by omega
  have hww : IntKind.wrap .i64 ((i : Int) + 1) = ((i + 1 : Nat) : Int) := by rw [wrap64 (by omega) (by omega)]; omega
  simp [L_law04_TreeSame_5,K_law04_TreeSame_4,r3,r7,r11,r98,r99,r108,r109,hlx',hww,-Int.natCast_add]
  exact ⟨t.types.length - (i + 1),by omega,i + 1,rfl,by omega,hw2,rfl⟩
 have hlt' : ¬ (i : Int) < t.types.length := by omega
 simp [L_law04_TreeSame_4,r3,r7,r98,r99,hlt',-Int.natCast_add]
 exact hQ _ _ (by simp [r3]) h01
end
end Go.Proofs.Eng
namespace Go.Proofs.Eng
open Go
section
variable {Γ : Sums} {A : Tab} {N : Nat -> Nat}
theorem bindH_C {o : Option (AV × Option Hp)} {H : Hp} {Q : AV -> Hp -> Prop} {m : Mk Q} {m' : Mk H} {v : AV} {g : Option Hp} (e : o = some (v,g)) (hq : ∀ G,G = g.getD H -> Q v G) : bindH o H Q m m' := ⟨v,g,e,hq _ rfl⟩
set_option maxHeartbeats 1000000 in
theorem law_TreeSame (h : SamesC Γ A N) {a b c a2 b2 c2 : AV} {t u : Tr} (hlives : (lim Γ A).call (f_law04_lives N) [] { l := [some (.cells [a,b,c] (t_api_Tree N)),some (.cells [a2,b2,c2] (t_api_Tree N))],d := none } = some (avBool true,none))
  (hx : TrR { l := [],d := none } (.agg [a,b,c]) t) (hy : TrR { l := [],d := none } (.agg [a2,b2,c2]) u) (wf : ∀ n ∈ t.nodes,n.wf) (wf2 : ∀ n ∈ u.nodes,n.wf)
  (ok0 : (∀ n ∈ t.nodes,n.names.length < 2 ^ 63) /\ ∀ n ∈ t.types,n.names.length < 2 ^ 63) (hb0 : t.nodes.length < 2 ^ 63 /\ t.types.length < 2 ^ 63 /\ t.als.length < 2 ^ 63)
  (ok1 : (∀ n ∈ u.nodes,n.names.length < 2 ^ 63) /\ ∀ n ∈ u.types,n.names.length < 2 ^ 63) (hb1 : u.nodes.length < 2 ^ 63 /\ u.types.length < 2 ^ 63 /\ u.als.length < 2 ^ 63) (at' : Int) :
  ∃ r,(lim Γ A).ent (f_law04_TreeSame N) [.agg [a,b,c],.agg [a2,b2,c2],avInt .i64 at'] { l := [],d := none } = some r /\ r.1 = avBool true := by
 have hxa : ∀ G,TrR G (.agg [a,b,c]) t := fun G => (show Keep { l := [],d := none } G from fun id hid => by simp at hid).tr hx
 have hya : ∀ G,TrR G (.agg [a2,b2,c2]) u := fun G => (show Keep { l := [],d := none } G from fun id hid => by simp at hid).tr hy
 obtain ⟨Hb,hHb⟩ : ∃ Hb,Hb = halloc (halloc { l := [],d := none } (.cells [a,b,c] (t_api_Tree N))) (.cells [a2,b2,c2] (t_api_Tree N)) := ⟨_,rfl⟩
 have hl1 : (lim Γ A).call (f_law04_lives N) [] Hb = some (avBool true,none) := by rw [hHb]; exact hlives
 obtain ⟨a',b',c',e,ra,rb,rc⟩ := id hx
 cases e
 obtain ⟨a',b',c',e,ra2,rb2,rc2⟩ := id hy
 cases e
 have pa := ra.one
 have pb := rb.one
 have pc := rc.one
 have qa := ra2.one
 have qb := rb2.one
 have qc := rc2.one
 have hbox : hget Hb 0 = some (.cells [a,b,c] (t_api_Tree N)) := by subst hHb; rfl
 have hbox2 : hget Hb 1 = some (.cells [a2,b2,c2] (t_api_Tree N)) := by subst hHb; rfl
 have hfew := few_call h.few (hxa Hb) ok0 hb0
 have hfew2 := few_call h.few (hya Hb) ok1 hb1
 have hHb' := hHb.symm
 apply h.law.entP (by rfl)
 rcases hf : fewB t with _ | _
 ·rw [hf] at hfew
  simp [C_law04_TreeSame,pa,pb,pc,qa,qb,qc,hHb',hl1,hbox,hbox2,hfew,loadC,-halloc_d,-hset_d]
 rcases hf2 : fewB u with _ | _
 ·rw [hf] at hfew
  rw [hf2] at hfew2
  simp [C_law04_TreeSame,pa,pb,pc,qa,qb,qc,hHb',hl1,hbox,hbox2,hfew,hfew2,loadC,-halloc_d,-hset_d]
 rw [hf] at hfew
 rw [hf2] at hfew2
 obtain ⟨hb,ok⟩ := few_ok hf
 obtain ⟨hb2,ok2⟩ := few_ok hf2
 have st := few_small hf wf
 have su := few_small hf2 wf2
 have hbn : t.nodes.length < 2 ^ 30 /\ t.types.length < 2 ^ 30 /\ t.als.length < 2 ^ 30 := ⟨by omega,by omega,hb.2.2⟩
 have hbm : u.nodes.length < 2 ^ 30 /\ u.types.length < 2 ^ 30 /\ u.als.length < 2 ^ 30 := ⟨by omega,by omega,hb2.2.2⟩
 have eS1 := fun G => same_gen h.check h.two h.sameT (hxa G) (hya G) ok ok2 hbn hbm
 have eS2 := fun G => same_gen h.check h.two h.sameT (hya G) (hxa G) ok2 ok hbm hbn
 have eS3 := fun G => ref04_Same_call h.ref h.refS h.rSame (hxa G) (hya G) st su
 have eR := fun G => ref04_Right_check h.ref (hxa G) st.ok st.wf st.wt st.wa st.hb
 rw [<- sameG_comm ok] at eS2
 simp only [hHb] at *
 rcases hck : checkB t with _ | _
 ·rw [hck] at eR
  simp [C_law04_TreeSame,pa,pb,pc,qa,qb,qc,hl1,hbox,hbox2,hfew,hfew2,eS1,eS2,eS3,eR,loadC,-halloc_d,-hset_d]
  done
 rw [hck] at eR
 simp [C_law04_TreeSame,pa,pb,pc,qa,qb,qc,hl1,hbox,hbox2,hfew,hfew2,eS1,eS2,eS3,eR,loadC,-halloc_d,-hset_d]
 obtain ⟨y,g,e1,y1,y2,ya,yb,yc,rfl,_,_,w1,w2⟩ := CloneT_call h.b (hxa (halloc (halloc { l := [],d := none } (.cells [a,b,c] (t_api_Tree N))) (.cells [a2,b2,c2] (t_api_Tree N)))) ok hbn
 refine bindH_C e1 fun G hG => ?_
 replace hG : G = g.getD (halloc (halloc { l := [],d := none } (.cells [a,b,c] (t_api_Tree N))) (.cells [a2,b2,c2] (t_api_Tree N))) := hG
 rw [<- hG] at y1 y2 w1 w2
 have g0 : hget G 0 = some (.cells [a,b,c] (t_api_Tree N)) := y2.get' hbox (by simp)
 have hc := brow_copy w1 w2
 obtain ⟨⟨ly,oy⟩,lz,oz⟩ := hc.len
 have oc : yc.one = true := by
  obtain ⟨_,_,_,e,_,_,r⟩ := y1
  cases e
  exact r.one
 obtain ⟨G2,hG2⟩ : ∃ G2,G2 = hset (halloc G (.cells [.lit (.slice none 0 0),.lit (.slice none 0 0),.lit (.slice none 0 0)] (t_api_Tree N))) G.l.length (some (.cells [ya,yb,yc] (t_api_Tree N))) := ⟨_,rfl⟩
 have hM : Mut G G2 [] := by rw [hG2]; exact ((Mut.refl _ _).alloc _).set (.inr (Nat.le_refl _))
 have t1 : hget G2 0 = some (.cells [a,b,c] (t_api_Tree N)) := hM.get' g0 (by simp)
 have t2 : hget G2 G.l.length = some (.cells [ya,yb,yc] (t_api_Tree N)) := by rw [hG2,hget_hset,if_pos rfl]; simp
 have hW : Wr G G2 := ⟨fun id es e ho => ⟨es,hM.get' ho (by simp),rfl⟩,fun id o ho _ => hM.get' ho (by simp)⟩
 have eq1 := same_gen h.check h.two h.sameT (hxa G2) (y1.more fun id o ho => hM.get' ho (by simp)) ok ok hbn hbn
 rw [sameG_refl ok hck] at eq1
 have hG2' := hG2.symm
 simp [pa,pb,pc,oy,oz,oc,hG2',t1,t2,eq1,ly,loadC,-halloc_d,-hset_d]
 refine ts_loops h (a := a) (b := b) (c := c) (ya := ya) (yb := yb) (yc := yc) (tt := t_api_Tree N) (tu := t_api_Tree N) (q := G.l.length) ok ⟨hbn.1,hbn.2.1⟩ (hc.wr hW) t1 t2 rfl rfl rfl rfl ?_
 intro ρ' G' r3 f0
 simp [K_law04_TreeSame_5,r3,f0,pa,pb,pc,eR,loadC]
end
end Go.Proofs.Eng
