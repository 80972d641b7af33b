import Derived.Test.YtcmdnlpkplaapaaM30
import Derived.Test.YtcmdnlpkplaapaaEngAK
import Derived.Test.YtcmdnlpkplaapaaM26
import Derived.Test.YtcmdnlpkplaapaaM27
/- May a tree be: the whole, run by the engine. -/
set_option linter.unusedVariables false
set_option linter.unusedSimpArgs false
set_option maxRecDepth 100000
namespace Go.Proofs.Eng
open Go
def RowR {α : Type} (Q : Hp -> AV -> α -> Prop) (sz : Nat) (H : Hp) (x : AV) (l : List α) : Prop := ∃ xs,Vw H sz x xs /\ xs.length = l.length /\ ∀ (i : Nat) (y : AV) (n : α),xs[i]? = some y -> l[i]? = some n -> Q H y n
def AlR (H : Hp) (x : AV) (n : Al) : Prop := x = alV n
def TrR (H : Hp) (x : AV) (t : Tr) : Prop := ∃ a b c,x = .agg [a,b,c] /\ RowR NdR 8 H a t.nodes /\ RowR TyR 6 H b t.types /\ RowR AlR 3 H c t.als
def Tr.ok (t : Tr) : Prop := (∀ n ∈ t.nodes,n.ok) /\ (∀ n ∈ t.types,n.ok) /\ (∀ n ∈ t.als,n.ok)
theorem RowR.len {α : Type} {Q : Hp -> AV -> α -> Prop} {sz : Nat} {H : Hp} {x : AV} {l : List α} (h : RowR Q sz H x l) : asLen x = some l.length := by
 obtain ⟨xs,h1,h2,_⟩ := h
 rw [h1.len,h2]
theorem RowR.one {α : Type} {Q : Hp -> AV -> α -> Prop} {sz : Nat} {H : Hp} {x : AV} {l : List α} (h : RowR Q sz H x l) : x.one = true := by
 obtain ⟨xs,h1,_⟩ := h; exact h1.one
def Keep (H H' : Hp) : Prop := ∀ id,id < H.l.length -> hget H' id = hget H id
theorem Keep.vw {H H' : Hp} (k : Keep H H') {sz : Nat} {x : AV} {es : List AV} (h : Vw H sz x es) : Vw H' sz x es := h.keep k
theorem Keep.nd {H H' : Hp} (k : Keep H H') {x : AV} {n : Nd} (h : NdR H x n) : NdR H' x n := by
 obtain ⟨a,b,c,e,h1,h2,h3⟩ := h
 exact ⟨a,b,c,e,k.vw h1,k.vw h2,k.vw h3⟩
theorem Keep.ty {H H' : Hp} (k : Keep H H') {x : AV} {n : Ty} (h : TyR H x n) : TyR H' x n := by
 obtain ⟨a,b,e,h1,h2⟩ := h
 exact ⟨a,b,e,k.vw h1,k.vw h2⟩
theorem Keep.row {α : Type} {Q : Hp -> AV -> α -> Prop} {H H' : Hp} (k : Keep H H') (hq : ∀ x n,Q H x n -> Q H' x n) {sz : Nat} {x : AV} {l : List α} (h : RowR Q sz H x l) : RowR Q sz H' x l := by
 obtain ⟨xs,h1,h2,h3⟩ := h
 exact ⟨xs,k.vw h1,h2,fun i y n hy hn => hq _ _ (h3 i y n hy hn)⟩
theorem Keep.tr {H H' : Hp} (k : Keep H H') {x : AV} {t : Tr} (h : TrR H x t) : TrR H' x t := by
 obtain ⟨a,b,c,e,h1,h2,h3⟩ := h
 exact ⟨a,b,c,e,k.row (fun _ _ => k.nd) h1,k.row (fun _ _ => k.ty) h2,k.row (fun _ _ h => h) h3⟩
theorem Loc.kp {H0 H : Hp} {os : List (Nat × AObj)} (h : Loc H0 H os) : Keep H0 H := fun _ hi => h.oldget hi
theorem Mut.kp {H H' : Hp} (h : Mut H H' []) : Keep H H' := fun _ hi => h.get hi (by simp)
theorem Vw.ats {H : Hp} {sz : Nat} {x : AV} {es : List AV} {k : IntKind} {i : Nat} {ys : List AV} (h : Vw H sz x es) (h1 : es[i]? = some (.agg ys)) (hl : ys.length = sz) (hg : ys.all AV.one = true) : ∃ p,aiaddr sz x (.lit (.int k (i : Int))) = some p /\ aload H (some sz) p = some (.agg ys) := by
 have hi := (List.getElem?_eq_some_iff.1 h1).1
 rcases h with (⟨_,he⟩ | rfl) | ⟨id,off,t,all,rfl,h2,h3,h4⟩
 ·rw [he] at h1; simp at h1
 ·refine ⟨.vp ys,by simpa [AV.cells] using aiaddr_sln (sz := sz) (k := k) h1 (by simpa [AV.good] using hg),?_⟩
  simp [loadC,hl]
  rw [<- hl,List.take_length]
 ·refine ⟨.ep id (off + i) 0,by simp [aiaddr,hi],?_⟩
  have he : all[off + i]? = some (.agg ys) := by
   rw [<- h1,<- h4,List.getElem?_take,if_pos hi,List.getElem?_drop]
  simp only [aload,h2,he]
  rw [if_pos (by simpa [AV.good] using hg),if_pos (by simp)]

def nodesS (ty : Nat) : List Nd -> Nat -> List Int -> List Int -> Option (List Int × List Int)
 | [],_,ct,cy => some (ct,cy)
 | n :: r,i,ct,cy => if termB n then (match noteS ct n.kids i with
  | (true,ct') => (match noteS cy n.types ty with
   | (true,cy') => nodesS ty r (i + 1) ct' cy'
   | _ => none)
  | _ => none) else none
def typesS : List Ty -> Nat -> List Int -> Option (List Int)
 | [],_,cy => some cy
 | n :: r,i,cy => if typB n then (match noteS cy n.kids i with
  | (true,cy') => typesS r (i + 1) cy'
  | _ => none) else none
def alsS (ty : Nat) : List Al -> List Int -> Option (List Int)
 | [],cy => some cy
 | n :: r,cy => if aliasB n.name then (match noteS cy [n.type] ty with
  | (true,cy') => alsS ty r cy'
  | _ => none) else none
def lastUp (ct : List Int) : List Int := ct.modify (ct.length - 1) bump
def endS (t : Tr) (ct cy : List Int) : Bool := match typesS t.types 0 cy with
 | some cy' => (match alsS t.types.length t.als cy' with
  | some cy'' => (lastUp ct).all (fun c => decide (c = 1)) && cy''.all (fun c => decide (c = 1))
  | none => false)
 | none => false
def checkB (t : Tr) : Bool := !t.nodes.isEmpty && decide (t.nodes.length <= 65536) && decide (t.types.length <= 65536) && match nodesS t.types.length t.nodes 0 (List.replicate t.nodes.length 0) (List.replicate t.types.length 0) with
 | some (ct,cy) => endS t ct cy
 | none => false

section
variable {Γ : Sums} {A : Tab} {N : Nat -> Nat}
theorem keep_box (H : Hp) (d : Option Nat) (o : AObj) : Keep H (halloc { l := H.l,d := d } o) := fun id hid => by rw [hget_halloc,if_neg (by simp; omega)]; rfl
theorem note_loc (h : TreeC Γ A N) {H0 H : Hp} {id : Nat} {t : TypeId} {cnt ks : List Int} {x : AV} {b : Int} {os : List (Nat × AObj)} (hL : Loc H0 H ((id,.arr 1 (cnt.map (avInt .i64)) t) :: os)) (hx : VI H x ks) (hne : ∀ off n,x ≠ .ra 1 id off n) (hb : b <= cnt.length) (hl : ks.length < 2 ^ 60) :
  ∃ g,(lim Γ A).call (f_tree_uses_note N) [.ra 1 id 0 cnt.length,x,avInt .i64 b] H = some (avBool (noteS cnt ks b).1,g) /\ Loc H0 (g.getD H) ((id,.arr 1 ((noteS cnt ks b).2.map (avInt .i64)) t) :: os) /\ Mut H (g.getD H) [id] := by
 obtain ⟨g,e1,e2,e3⟩ := note_call h hL.head hx hne hb hl
 refine ⟨g,e1,?_,e3⟩
 have hge := hL.ge (p := (id,.arr 1 (cnt.map (avInt .i64)) t)) (by simp)
 refine hL.mut e3 (by simp; exact hge) (fun p hp => ?_) (by simpa using hL.nd)
 rcases List.mem_cons.1 hp with rfl | hp
 ·exact ⟨e2,hL.ge (p := (id,.arr 1 (cnt.map (avInt .i64)) t)) (by simp)⟩
 ·have hnd := hL.nd
  rw [List.map_cons,List.nodup_cons] at hnd
  refine ⟨e3.get' (hL.get (List.mem_cons_of_mem _ hp)) (by simp; intro e; exact hnd.1 (List.mem_map.2 ⟨p,hp,e⟩)),hL.ge (List.mem_cons_of_mem _ hp)⟩
theorem odd_call (h : TreeC Γ A N) (c : Int) (H : Hp) : (lim Γ A).call (f_tree_Check_1 N) [avInt .i64 c] H = some (avBool (!decide (c = 1)),none) := by
 apply h.odd.call (by rfl)
 simp [C_tree_Check_1,settle,keeps]
def intO : AV -> Int
 | .lit (.int _ n) => n
 | _ => 0
theorem oddU_call (h : TreeC Γ A N) {H : Hp} {x : AV} {l : List Int} (hx : VI H x l) (hl : l.length < 2 ^ 60) : (lim Γ A).call (f_slices_ContainsFunc_tree_uses_int N) [x,.fn (f_tree_Check_1 N) [] []] H = some (avBool (!l.all fun c => decide (c = 1)),none) := by
 have e := containsU_call h (H := H) (x := x) (fv := .fn (f_tree_Check_1 N) [] []) (fun e => !decide (intO e = 1)) hx int_one (fun e he => by
  obtain ⟨c,_,rfl⟩ := List.mem_map.1 he
  simp only [callV_fn]
  exact odd_call h c _) (by simp; omega)
 have ha : ((l.map (avInt .i64)).any fun e => !decide (intO e = 1)) = !l.all fun c => decide (c = 1) := by
  rw [List.any_map,List.all_eq_not_any_not,Bool.not_not]
  rfl
 rw [ha] at e
 exact e
theorem ra_vi {H : Hp} {id : Nat} {cnt : List Int} {t : TypeId} (h : hget H id = some (.arr 1 (cnt.map (avInt .i64)) t)) : VI H (.ra 1 id 0 cnt.length) cnt :=
 .inr ⟨id,0,t,cnt.map (avInt .i64),by simp,h,by simp,List.take_of_length_le (by simp)⟩
theorem vi_ne {H0 : Hp} {x : AV} {l : List Int} (h : VI H0 x l) {id : Nat} (hid : H0.l.length <= id) : ∀ off n,x ≠ .ra 1 id off n := by
 rintro off n rfl
 rcases h with (⟨h,_⟩ | h) | ⟨id',off',t,all,e,h2,_⟩
 ·cases h
 ·cases h
 ·simp only [AV.ra.injEq] at e
  have := hget_lt h2
  omega

def errN (b : Bool) : AV := avInt .i64 (if b then 0 else 14)
def ckO (N : Nat -> Nat) (n : Nat) (a b c : AV) (ct cy : List Int) : List (Nat × AObj) := [(n + 1,.arr 1 (ct.map (avInt .i64)) (t_int N)),(n + 1 + 1,.arr 1 (cy.map (avInt .i64)) (t_int N)),(n,.cells [a,b,c] (t_api_Tree N))]
theorem check_k3 (h : TreeC Γ A N) {H H' : Hp} {a b c : AV} {ct cy : List Int} {ρ : Rho} {E : Bool} (r3 : ρ 3 = .ra 1 (H.l.length + 1) 0 ct.length) (r4 : ρ 4 = .ra 1 (H.l.length + 1 + 1) 0 cy.length) (hL : Loc H H' (ckO N H.l.length a b c ct cy)) (hne : 0 < ct.length) (hl1 : ct.length < 2 ^ 30) (hl2 : cy.length < 2 ^ 30)
  (hE : E = ((lastUp ct).all (fun c => decide (c = 1)) && cy.all (fun c => decide (c = 1)))) :
  wp (lim Γ A) none (K_tree_Check_3 N) ρ H' (Ends [.inl 2] false H fun p => p = (errN E,none)) := by
 have hlt : ct.length - 1 < ct.length := by omega
 have hw : IntKind.wrap .i64 ((ct.length : Int) - 1) = ((ct.length - 1 : Nat) : Int) := by rw [wrap64 (by omega) (by omega)]; omega
 have hg1 : hget H' (H.l.length + 1) = some (.arr 1 (ct.map (avInt .i64)) (t_int N)) := hL.get (p := (H.l.length + 1,.arr 1 (ct.map (avInt .i64)) (t_int N))) (by simp [ckO])
 have p1 := ra_iaddr (id := H.l.length + 1) (n := ct.length) (k := .i64) (j := ((ct.length - 1 : Nat) : Int)) (by omega) (by omega)
 rw [Int.toNat_natCast] at p1
 have p2 := ep_load hg1 hlt
 have p3 : astore H' 1 (.ep (H.l.length + 1) (ct.length - 1) 0) (avInt .i64 (IntKind.wrap .i64 (ct[ct.length - 1] + 1))) = some (hset H' (H.l.length + 1) (some (.arr 1 ((ct.set (ct.length - 1) (bump ct[ct.length - 1])).map (avInt .i64)) (t_int N)))) := ep_store hg1 hlt _
 have hup : ct.set (ct.length - 1) (bump ct[ct.length - 1]) = lastUp ct := by
  unfold lastUp
  apply List.ext_getElem?
  intro y
  simp only [List.getElem?_modify,List.getElem?_set]
  by_cases hy : ct.length - 1 = y
  ·subst hy; simp [hlt]
  ·simp [hy]
 rw [hup] at p3
 have hL2 : Loc H (hset H' (H.l.length + 1) (some (.arr 1 ((lastUp ct).map (avInt .i64)) (t_int N)))) ((H.l.length + 1,.arr 1 ((lastUp ct).map (avInt .i64)) (t_int N)) :: [(H.l.length + 1 + 1,.arr 1 (cy.map (avInt .i64)) (t_int N)),(H.l.length,.cells [a,b,c] (t_api_Tree N))]) := Loc.set hL _
 have hll : (lastUp ct).length = ct.length := by simp [lastUp]
 have v1 := ra_vi hL2.head
 have v2 := ra_vi (hL2.get (p := (H.l.length + 1 + 1,.arr 1 (cy.map (avInt .i64)) (t_int N))) (by simp))
 rw [hll] at v1
 have q1 := oddU_call h v1 (by omega)
 have q2 := oddU_call h v2 (by omega)
 have f1 := fun n => settle_keeps (v := avInt .i64 n) hL2.keeps (by simp [AV.under])
 unfold errN
 subst hE
 generalize (lastUp ct).all (fun c => decide (c = 1)) = b1 at *
 generalize cy.all (fun c => decide (c = 1)) = b2 at *
 cases b1
 ·simp [K_tree_Check_3,r3,r4,hw,p1,p2,p3,q1,-hset_d,-halloc_d]
  exact f1 14
 ·cases b2
  ·simp [K_tree_Check_3,r3,r4,hw,p1,p2,p3,q1,q2,-hset_d,-halloc_d]
   exact f1 14
  ·simp [K_tree_Check_3,r3,r4,hw,p1,p2,p3,q1,q2,-hset_d,-halloc_d]
   exact f1 0

theorem check_k2 (h : TreeC Γ A N) {H H' : Hp} {a b c : AV} {t : Tr} {ct cy : List Int} {ρ : Rho} {E : Bool} (lb : asLen b = some t.types.length) {zs : List AV} (zs1 : Vw H 3 c zs) (zs2 : zs.length = t.als.length) (zs3 : ∀ (i : Nat) (y : AV) (n : Al),zs[i]? = some y -> t.als[i]? = some n -> AlR H y n) (ok3 : ∀ n ∈ t.als,n.ok)
  (r1 : ρ 1 = .ptr H.l.length 0) (r3 : ρ 3 = .ra 1 (H.l.length + 1) 0 ct.length) (r4 : ρ 4 = .ra 1 (H.l.length + 1 + 1) 0 t.types.length) (hcy : cy.length = t.types.length) (hL : Loc H H' (ckO N H.l.length a b c ct cy)) (hne : 0 < ct.length) (hl1 : ct.length < 2 ^ 30) (hl2 : t.types.length < 2 ^ 30) (hl3 : t.als.length < 2 ^ 30)
  (hE : E = match alsS t.types.length t.als cy with | some cy'' => (lastUp ct).all (fun c => decide (c = 1)) && cy''.all (fun c => decide (c = 1)) | none => false) :
  wp (lim Γ A) none (K_tree_Check_2 N) ρ H' (Ends [.inl 2] false H fun p => p = (errN E,none)) := by
 have lc : asLen c = some t.als.length := by rw [zs1.len,zs2]
 have hbox : hget H' H.l.length = some (.cells [a,b,c] (t_api_Tree N)) := hL.get (p := (H.l.length,.cells [a,b,c] (t_api_Tree N))) (by simp [ckO])
 generalize hNS : alsS t.types.length t.als cy = NS at hE
 simp [K_tree_Check_2,r1,hbox,lc]
 refine wp_round (n := t.als.length) (fun q ρ H' => ∃ (i : Nat) (cy' : List Int),ρ 1 = .ptr H.l.length 0 /\ ρ 3 = .ra 1 (H.l.length + 1) 0 ct.length /\ ρ 4 = .ra 1 (H.l.length + 1 + 1) 0 t.types.length /\ ρ 87 = c /\ ρ 88 = avInt .i64 (t.als.length : Nat) /\ ρ 89 = avInt .i64 (i : Nat) /\ i <= t.als.length /\ cy'.length = t.types.length /\
  alsS t.types.length (t.als.drop i) cy' = NS /\ Loc H H' (ckO N H.l.length a b c ct cy') /\ q = t.als.length - i) ?_ ?_
 ·exact ⟨0,cy,r1,r3,r4,rfl,rfl,rfl,by omega,hcy,hNS,hL,rfl⟩
 ·rintro q ρ H' ⟨i,cy',r1,r3,r4,r87,r88,r89,hi,hcy',hns,hL,rfl⟩
  have hbox : hget H' H.l.length = some (.cells [a,b,c] (t_api_Tree N)) := hL.get (p := (H.l.length,.cells [a,b,c] (t_api_Tree N))) (by simp [ckO])
  have fin14 : ∀ {G : Hp} {os : List (Nat × AObj)},Loc H G os -> settle H (avInt .i64 14) G = (avInt .i64 14,none) := fun hG => settle_keeps hG.keeps (by simp [AV.under])
  by_cases hlt : i < t.als.length
  ·have hlt' : (i : Int) < t.als.length := by omega
   have hw : IntKind.wrap .i64 ((i : Int) + 1) = ((i + 1 : Nat) : Int) := by rw [wrap64 (by omega) (by omega)]; omega
   have hxi : zs[i]? = some zs[i] := List.getElem?_eq_getElem (by omega)
   have hni : t.als[i]? = some t.als[i] := List.getElem?_eq_getElem hlt
   have ey := zs3 i _ _ hxi hni
   have okn := ok3 _ (List.getElem_mem hlt)
   unfold AlR alV at ey
   rw [ey] at hxi
   have hd2 : t.als.drop i = t.als[i] :: t.als.drop (i + 1) := List.drop_eq_getElem_cons hlt
   rw [hd2] at hns
   generalize t.als[i] = n at *
   obtain ⟨p,p1,p2⟩ := (zs1.loc hL).ats (k := .i64) hxi (by rfl) (by simp)
   obtain ⟨Hc,hHc⟩ : ∃ Hc,Hc = hset (halloc H' (.cells [.lit (.string (mkS [])),.lit (.int .i64 0),.lit (.int .i64 0)] (t_api_Alias N))) H'.l.length (some (.cells [avStr n.name,avInt .i64 n.type,avInt .i64 n.pos] (t_api_Alias N))) := ⟨_,rfl⟩
   have MC : Mut H' Hc [] := by rw [hHc]; exact ((Mut.refl _ _).alloc _).set (.inr (Nat.le_refl _))
   have hcell : hget Hc H'.l.length = some (.cells [avStr n.name,avInt .i64 n.type,avInt .i64 n.pos] (t_api_Alias N)) := by rw [hHc]; simp
   have hcl : Hc.l.length = H'.l.length + 1 := by rw [hHc]; simp
   have hLc := hL.still MC
   have eT := alias_call h n.name (by unfold Al.ok at okn; omega) Hc
   rw [show alsS t.types.length (n :: t.als.drop (i + 1)) cy' = (if aliasB n.name then (match noteS cy' [n.type] t.types.length with
    | (true,cy') => alsS t.types.length (t.als.drop (i + 1)) cy'
    | _ => none) else none) from rfl] at hns
   cases hT : aliasB n.name
   ·rw [hT] at hns eT
    simp only [Bool.false_eq_true,if_false] at hns
    subst hns
    subst hE
    have f1 := fin14 hLc
    simp [L_tree_Check_3,errN,r1,r3,r4,r87,r88,r89,hlt',p1,p2,<- hHc,hcell,eT,-hset_d,-halloc_d]
    exact f1
   ·rw [hT] at hns eT
    simp only [if_true] at hns
    have hLd := hLc.alloc (.arr 1 [avInt .i64 n.type] (t_int N))
    obtain ⟨Hd,hHd⟩ : ∃ Hd,Hd = halloc Hc (.arr 1 [avInt .i64 n.type] (t_int N)) := ⟨_,rfl⟩
    rw [<- hHd] at hLd
    have hv : VI Hd (.ra 1 Hc.l.length 0 1) [n.type] := .inr ⟨Hc.l.length,0,t_int N,[avInt .i64 n.type],rfl,by rw [hHd]; simp,by simp,by simp⟩
    have hHl : H.l.length + 1 + 1 < H'.l.length := hL.lt (p := (H.l.length + 1 + 1,.arr 1 (cy'.map (avInt .i64)) (t_int N))) (by simp [ckO])
    have hLe : Loc H Hd ((H.l.length + 1 + 1,.arr 1 (cy'.map (avInt .i64)) (t_int N)) :: [(H.l.length + 1,.arr 1 (ct.map (avInt .i64)) (t_int N)),(H.l.length,.cells [a,b,c] (t_api_Tree N))]) := (hLd.sub (List.sublist_cons_self _ _)).perm (List.Perm.swap _ _ _)
    obtain ⟨g1,n1,n2,n3⟩ := note_loc h hLe (ks := [n.type]) (b := (t.types.length : Int)) hv (by intro off m e; simp only [AV.ra.injEq] at e; omega) (by omega) (by simp)
    rw [hcy'] at n1
    have hboxd : hget Hd H.l.length = some (.cells [a,b,c] (t_api_Tree N)) := hLe.get (p := (H.l.length,.cells [a,b,c] (t_api_Tree N))) (by simp)
    have hs1 := noteS_len [n.type] cy' (t.types.length : Int)
    cases hN1 : noteS cy' [n.type] (t.types.length : Int) with
    | mk r1b cy2 =>
     rw [hN1] at hns n1 n2 hs1
     cases r1b
     ·simp only at hns
      subst hns
      subst hE
      have f1 := fin14 n2
      simp [L_tree_Check_3,errN,r1,r3,r4,r87,r88,r89,hlt',p1,p2,<- hHc,hcell,eT,fillA,repl,setFrom,chunk,<- hHd,hboxd,lb,n1,bindH_opt,-hset_d,-halloc_d]
      exact f1
     ·simp only at hns
      have m4 : Loc H (g1.getD Hd) (ckO N H.l.length a b c ct cy2) := n2.perm (List.Perm.swap _ _ _)
      simp [L_tree_Check_3,r1,r3,r4,r87,r88,r89,hlt',p1,p2,<- hHc,hcell,eT,fillA,repl,setFrom,chunk,<- hHd,hboxd,lb,n1,bindH_opt,hw,-hset_d,-halloc_d,-Int.natCast_add]
      exact ⟨t.als.length - (i + 1),by omega,i + 1,rfl,by omega,cy2,(by simp only at hs1; omega),hns,m4,rfl⟩
  ·have hlt' : ¬ (i : Int) < t.als.length := by omega
   rw [List.drop_of_length_le (by omega)] at hns
   simp only [alsS] at hns
   subst hns
   simp [L_tree_Check_3,r1,r3,r4,r87,r88,r89,hlt']
   exact check_k3 h (by simp [r3]) (by simp [r4,hcy']) hL hne hl1 (by omega) hE

theorem check_k1 (h : TreeC Γ A N) {H H' : Hp} {a b c : AV} {t : Tr} {ct cy : List Int} {ρ : Rho} {E : Bool} {ys : List AV} (ys1 : Vw H 6 b ys) (ys2 : ys.length = t.types.length) (ys3 : ∀ (i : Nat) (y : AV) (n : Ty),ys[i]? = some y -> t.types[i]? = some n -> TyR H y n) (ok2 : ∀ n ∈ t.types,n.ok)
  {zs : List AV} (zs1 : Vw H 3 c zs) (zs2 : zs.length = t.als.length) (zs3 : ∀ (i : Nat) (y : AV) (n : Al),zs[i]? = some y -> t.als[i]? = some n -> AlR H y n) (ok3 : ∀ n ∈ t.als,n.ok)
  (r1 : ρ 1 = .ptr H.l.length 0) (r3 : ρ 3 = .ra 1 (H.l.length + 1) 0 ct.length) (r4 : ρ 4 = .ra 1 (H.l.length + 1 + 1) 0 t.types.length) (hcy : cy.length = t.types.length) (hL : Loc H H' (ckO N H.l.length a b c ct cy)) (hne : 0 < ct.length) (hl1 : ct.length < 2 ^ 30) (hl2 : t.types.length < 2 ^ 30) (hl3 : t.als.length < 2 ^ 30)
  (hE : E = endS t ct cy) :
  wp (lim Γ A) none (K_tree_Check_1 N) ρ H' (Ends [.inl 2] false H fun p => p = (errN E,none)) := by
 have lb : asLen b = some t.types.length := by rw [ys1.len,ys2]
 have hbox : hget H' H.l.length = some (.cells [a,b,c] (t_api_Tree N)) := hL.get (p := (H.l.length,.cells [a,b,c] (t_api_Tree N))) (by simp [ckO])
 unfold endS at hE
 generalize hNS : typesS t.types 0 cy = NS at hE
 simp [K_tree_Check_1,r1,hbox,lb]
 refine wp_round (n := t.types.length) (fun q ρ H' => ∃ (i : Nat) (cy' : List Int),ρ 1 = .ptr H.l.length 0 /\ ρ 3 = .ra 1 (H.l.length + 1) 0 ct.length /\ ρ 4 = .ra 1 (H.l.length + 1 + 1) 0 t.types.length /\ ρ 67 = b /\ ρ 68 = avInt .i64 (t.types.length : Nat) /\ ρ 69 = avInt .i64 (i : Nat) /\ i <= t.types.length /\ cy'.length = t.types.length /\
  typesS (t.types.drop i) i cy' = NS /\ Loc H H' (ckO N H.l.length a b c ct cy') /\ q = t.types.length - i) ?_ ?_
 ·exact ⟨0,cy,r1,r3,r4,rfl,rfl,rfl,by omega,hcy,hNS,hL,rfl⟩
 ·rintro q ρ H' ⟨i,cy',r1,r3,r4,r67,r68,r69,hi,hcy',hns,hL,rfl⟩
  have fin14 : ∀ {G : Hp} {os : List (Nat × AObj)},Loc H G os -> settle H (avInt .i64 14) G = (avInt .i64 14,none) := fun hG => settle_keeps hG.keeps (by simp [AV.under])
  by_cases hlt : i < t.types.length
  ·have hlt' : (i : Int) < t.types.length := by omega
   have hw : IntKind.wrap .i64 ((i : Int) + 1) = ((i + 1 : Nat) : Int) := by rw [wrap64 (by omega) (by omega)]; omega
   have hxi : ys[i]? = some ys[i] := List.getElem?_eq_getElem (by omega)
   have hni : t.types[i]? = some t.types[i] := List.getElem?_eq_getElem hlt
   obtain ⟨sa,sb,ey,va,vb⟩ := ys3 i _ _ hxi hni
   have okn := ok2 _ (List.getElem_mem hlt)
   unfold tyV at ey
   rw [ey] at hxi
   have hd2 : t.types.drop i = t.types[i] :: t.types.drop (i + 1) := List.drop_eq_getElem_cons hlt
   rw [hd2] at hns
   generalize t.types[i] = n at *
   obtain ⟨p,p1,p2⟩ := (ys1.loc hL).ats (k := .i64) hxi (by rfl) (by simp [va.one,vb.one])
   obtain ⟨Hc,hHc⟩ : ∃ Hc,Hc = hset (halloc H' (.cells [.lit (.int .i64 0),.lit (.int .i64 0),.lit (.string (mkS [])),.lit (.slice none 0 0),.lit (.slice none 0 0),.lit (.bool false)] (t_api_TypeNode N))) H'.l.length (some (.cells [avInt .i64 n.kind,avInt .i64 n.pos,avStr n.name,sa,sb,avBool n.opn] (t_api_TypeNode N))) := ⟨_,rfl⟩
   have MC : Mut H' Hc [] := by rw [hHc]; exact ((Mut.refl _ _).alloc _).set (.inr (Nat.le_refl _))
   have hcell : hget Hc H'.l.length = some (.cells [avInt .i64 n.kind,avInt .i64 n.pos,avStr n.name,sa,sb,avBool n.opn] (t_api_TypeNode N)) := by rw [hHc]; simp
   have hLc := hL.still MC
   have eT := typ_call h (H := Hc) (hLc.kp.ty ⟨sa,sb,rfl,va,vb⟩) okn
   unfold tyV at eT
   rw [show typesS (n :: t.types.drop (i + 1)) i cy' = (if typB n then (match noteS cy' n.kids i with
    | (true,cy') => typesS (t.types.drop (i + 1)) (i + 1) cy'
    | _ => none) else none) from rfl] at hns
   cases hT : typB n
   ·rw [hT] at hns eT
    simp only [Bool.false_eq_true,if_false] at hns
    subst hns
    subst hE
    have f1 := fin14 hLc
    simp [L_tree_Check_2,errN,r1,r3,r4,r67,r68,r69,hlt',p1,p2,va.one,vb.one,loadC,<- hHc,hcell,eT,-hset_d,-halloc_d]
    exact f1
   ·rw [hT] at hns eT
    simp only [if_true] at hns
    have hHl : H.l.length + 1 + 1 < H'.l.length := hL.lt (p := (H.l.length + 1 + 1,.arr 1 (cy'.map (avInt .i64)) (t_int N))) (by simp [ckO])
    have hLe : Loc H Hc ((H.l.length + 1 + 1,.arr 1 (cy'.map (avInt .i64)) (t_int N)) :: [(H.l.length + 1,.arr 1 (ct.map (avInt .i64)) (t_int N)),(H.l.length,.cells [a,b,c] (t_api_Tree N))]) := hLc.perm (List.Perm.swap _ _ _)
    obtain ⟨g1,n1,n2,n3⟩ := note_loc h hLe (ks := n.kids) (b := (i : Int)) (hLe.kp.vw vb) (vi_ne vb (by omega)) (by omega) (by have := okn.2.2.2; omega)
    rw [hcy'] at n1
    have hs1 := noteS_len n.kids cy' (i : Int)
    cases hN1 : noteS cy' n.kids (i : Int) with
    | mk r1b cy2 =>
     rw [hN1] at hns n1 n2 hs1
     cases r1b
     ·simp only at hns
      subst hns
      subst hE
      have f1 := fin14 n2
      simp [L_tree_Check_2,errN,r1,r3,r4,r67,r68,r69,hlt',p1,p2,va.one,vb.one,loadC,<- hHc,hcell,eT,n1,bindH_opt,-hset_d,-halloc_d]
      exact f1
     ·simp only at hns
      have m4 : Loc H (g1.getD Hc) (ckO N H.l.length a b c ct cy2) := n2.perm (List.Perm.swap _ _ _)
      simp [L_tree_Check_2,r1,r3,r4,r67,r68,r69,hlt',p1,p2,va.one,vb.one,loadC,<- hHc,hcell,eT,n1,bindH_opt,hw,-hset_d,-halloc_d,-Int.natCast_add]
      exact ⟨t.types.length - (i + 1),by omega,i + 1,rfl,by omega,cy2,(by simp only at hs1; omega),hns,m4,rfl⟩
  ·have hlt' : ¬ (i : Int) < t.types.length := by omega
   rw [List.drop_of_length_le (by omega)] at hns
   simp only [typesS] at hns
   subst hns
   simp [L_tree_Check_2,r1,r3,r4,r67,r68,r69,hlt']
   exact check_k2 h lb zs1 zs2 zs3 ok3 (by simp [r1]) (by simp [r3]) (by simp [r4]) hcy' hL hne hl1 hl2 hl3 hE

theorem check_call (h : TreeC Γ A N) {H : Hp} {x : AV} {t : Tr} (hx : TrR H x t) (ok : t.ok) (hb : t.nodes.length < 2 ^ 30 /\ t.types.length < 2 ^ 30 /\ t.als.length < 2 ^ 30) : (lim Γ A).call (f_tree_Check N) [x] H = some (errN (checkB t),none) := by
 obtain ⟨a,b,c,rfl,ha,hb',hc⟩ := hx
 obtain ⟨ok1,ok2,ok3⟩ := ok
 obtain ⟨xs,xs1,xs2,xs3⟩ := ha
 have la : asLen a = some t.nodes.length := by rw [xs1.len,xs2]
 obtain ⟨ys,ys1,ys2,ys3⟩ := hb'
 have lb : asLen b = some t.types.length := by rw [ys1.len,ys2]
 obtain ⟨zs,zs1,zs2,zs3⟩ := hc
 have lc : asLen c = some t.als.length := by rw [zs1.len,zs2]
 have pa := xs1.one
 have pb := ys1.one
 have pc := zs1.one
 apply h.check.call (by rfl)
 unfold checkB errN
 by_cases c1 : t.nodes = []
 ·simp [C_tree_Check,pa,pb,pc,la,lb,c1,settle,keeps]
 by_cases c2 : t.nodes.length <= 65536
 ·have c2' : ¬ (65536 : Int) < t.nodes.length := by omega
  by_cases c3 : t.types.length <= 65536
  ·have c3' : ¬ (65536 : Int) < t.types.length := by omega
   have hi1 : t.nodes.isEmpty = false := by cases ht : t.nodes with | nil => exact absurd ht c1 | cons => rfl
   simp only [hi1,c2,c3,decide_true,Bool.not_false,Bool.true_and]
   have r1 : t.nodes.length * 8 <= roomMax := by unfold roomMax; omega
   have r2 : t.types.length * 8 <= roomMax := by unfold roomMax; omega
   obtain ⟨oo,hoo⟩ : ∃ oo : List Int -> List Int -> List (Nat × AObj),∀ ct cy,oo ct cy = [(H.l.length + 1,.arr 1 (ct.map (avInt .i64)) (t_int N)),(H.l.length + 1 + 1,.arr 1 (cy.map (avInt .i64)) (t_int N)),(H.l.length,.cells [a,b,c] (t_api_Tree N))] := ⟨_,fun _ _ => rfl⟩
   have L3 := (((Loc.start H).alloc (.cells [a,b,c] (t_api_Tree N))).alloc (.arr 1 (List.replicate t.nodes.length (avInt .i64 0)) (t_int N))).alloc (.arr 1 (List.replicate t.types.length (avInt .i64 0)) (t_int N))
   have L4 : Loc H (halloc (halloc (halloc { l := H.l,d := none } (.cells [a,b,c] (t_api_Tree N))) (.arr 1 (List.replicate t.nodes.length (avInt .i64 0)) (t_int N))) (.arr 1 (List.replicate t.types.length (avInt .i64 0)) (t_int N))) (oo (List.replicate t.nodes.length 0) (List.replicate t.types.length 0)) := by
    rw [hoo]
    refine L3.perm ?_
    simp only [halloc_len,List.map_replicate]
    exact List.Perm.swap _ _ _
   generalize hNS : nodesS t.types.length t.nodes 0 (List.replicate t.nodes.length 0) (List.replicate t.types.length 0) = NS
   simp [C_tree_Check,pa,pb,pc,la,lb,c1,c2,c2',c3,c3',r1,r2,-halloc_d]
   refine wp_round (n := t.nodes.length) (fun q ρ H' => ∃ (i : Nat) (ct cy : List Int),ρ 1 = .ptr H.l.length 0 /\ ρ 3 = .ra 1 (H.l.length + 1) 0 t.nodes.length /\ ρ 4 = .ra 1 (H.l.length + 1 + 1) 0 t.types.length /\ ρ 37 = a /\ ρ 38 = avInt .i64 (t.nodes.length : Nat) /\ ρ 39 = avInt .i64 (i : Nat) /\ i <= t.nodes.length /\ ct.length = t.nodes.length /\ cy.length = t.types.length /\
    nodesS t.types.length (t.nodes.drop i) i ct cy = NS /\ Loc H H' (oo ct cy) /\ q = t.nodes.length - i) ?_ ?_
   ·exact ⟨0,_,_,rfl,rfl,rfl,rfl,rfl,rfl,by omega,by simp,by simp,hNS,L4,rfl⟩
   ·rintro q ρ H' ⟨i,ct,cy,r1',r3,r4,r37,r38,r39,hi,hct,hcy,hns,hL,rfl⟩
    by_cases hlt : i < t.nodes.length
    ·have hlt' : (i : Int) < t.nodes.length := by omega
     have hw : IntKind.wrap .i64 ((i : Int) + 1) = ((i + 1 : Nat) : Int) := by rw [wrap64 (by omega) (by omega)]; omega
     have hxi : xs[i]? = some xs[i] := List.getElem?_eq_getElem (by omega)
     have hni : t.nodes[i]? = some t.nodes[i] := List.getElem?_eq_getElem hlt
     obtain ⟨sa,sb,sc,ey,va,vb,vc⟩ := xs3 i _ _ hxi hni
     have okn := ok1 _ (List.getElem_mem hlt)
     rw [ey] at hxi
     have hd2 : t.nodes.drop i = t.nodes[i] :: t.nodes.drop (i + 1) := List.drop_eq_getElem_cons hlt
     rw [hd2] at hns
     generalize t.nodes[i] = n at *
     obtain ⟨p,p1,p2⟩ := (xs1.loc hL).ats (k := .i64) hxi (by rfl) (by simp [va.one,vb.one,vc.one])
     obtain ⟨Hc,hHc⟩ : ∃ Hc,Hc = hset (halloc H' (.cells [.lit (.int .i64 0),.lit (.int .i64 0),.lit (.string (mkS [])),.lit (.int .i64 0),.lit (.int .u64 0),.lit (.slice none 0 0),.lit (.slice none 0 0),.lit (.slice none 0 0)] (t_api_Node N))) H'.l.length (some (.cells [avInt .i64 n.kind,avInt .i64 n.pos,avStr n.name,avInt .i64 n.int,avInt .u64 n.bits,sa,sb,sc] (t_api_Node N))) := ⟨_,rfl⟩
     have MC : Mut H' Hc [] := by rw [hHc]; exact ((Mut.refl _ _).alloc _).set (.inr (Nat.le_refl _))
     have hcell : hget Hc H'.l.length = some (.cells [avInt .i64 n.kind,avInt .i64 n.pos,avStr n.name,avInt .i64 n.int,avInt .u64 n.bits,sa,sb,sc] (t_api_Node N)) := by rw [hHc]; simp
     have hLc := hL.still MC
     have eT := term_call h (H := Hc) (hLc.kp.nd ⟨sa,sb,sc,rfl,va,vb,vc⟩) okn
     unfold ndV at eT
     unfold nodesS at hns
     have hbox : hget H' H.l.length = some (.cells [a,b,c] (t_api_Tree N)) := hL.get (p := (H.l.length,.cells [a,b,c] (t_api_Tree N))) (by simp [hoo])
     have fin14 : ∀ {G : Hp} {os : List (Nat × AObj)},Loc H G os -> settle H (avInt .i64 14) G = (avInt .i64 14,none) := fun hG => settle_keeps hG.keeps (by simp [AV.under])
     cases hT : termB n
     ·rw [hT] at hns eT
      simp only [Bool.false_eq_true,if_false] at hns
      subst hns
      have f1 := fin14 hLc
      simp [L_tree_Check_1,r1',r3,r4,r37,r38,r39,hlt',p1,p2,va.one,vb.one,vc.one,<- hHc,hcell,loadC,eT,-hset_d,-halloc_d]
      exact f1
     ·rw [hT] at hns eT
      simp only [if_true] at hns
      rw [hoo] at hLc
      obtain ⟨g1,n1,n2,n3⟩ := note_loc h hLc (ks := n.kids) (b := (i : Int)) (hLc.kp.vw vb) (vi_ne vb (by omega)) (by omega) (by have := okn.2.2.2.1; omega)
      rw [hct] at n1
      have hHl : H.l.length + 1 + 1 < H'.l.length := hL.lt (p := (H.l.length + 1 + 1,.arr 1 (cy.map (avInt .i64)) (t_int N))) (by simp [hoo])
      have hcell1 := n3.get' hcell (by simp; omega)
      have hs1 := noteS_len n.kids ct (i : Int)
      cases hN1 : noteS ct n.kids (i : Int) with
      | mk r1b ct' =>
       rw [hN1] at hns n1 n2 hs1
       cases r1b
       ·simp only at hns
        subst hns
        have f1 := fin14 n2
        simp [L_tree_Check_1,r1',r3,r4,r37,r38,r39,hlt',p1,p2,va.one,vb.one,vc.one,<- hHc,hcell,loadC,eT,n1,bindH_opt,-hset_d,-halloc_d]
        exact f1
       ·simp only at hns
        have n2' := n2.perm (List.Perm.swap _ _ _)
        obtain ⟨g2,m1,m2,m3⟩ := note_loc h n2' (ks := n.types) (b := (t.types.length : Int)) (n2'.kp.vw vc) (vi_ne vc (by omega)) (by omega) (by have := okn.2.2.2.2; omega)
        rw [hcy] at m1
        have hs2 := noteS_len n.types cy (t.types.length : Int)
        have hbox1 := n2.get (p := (H.l.length,.cells [a,b,c] (t_api_Tree N))) (by simp)
        simp only at hbox1
        cases hN2 : noteS cy n.types (t.types.length : Int) with
        | mk r2b cy' =>
         rw [hN2] at hns m1 m2 hs2
         cases r2b
         ·simp only at hns
          subst hns
          have f1 := fin14 m2
          simp [L_tree_Check_1,r1',r3,r4,r37,r38,r39,hlt',p1,p2,va.one,vb.one,vc.one,<- hHc,hcell,hcell1,hbox1,lb,loadC,eT,n1,m1,bindH_opt,-hset_d,-halloc_d]
          exact f1
         ·simp only at hns
          have m4 : Loc H (g2.getD (g1.getD Hc)) (oo ct' cy') := by
           rw [hoo]; exact m2.perm (List.Perm.swap _ _ _)
          simp [L_tree_Check_1,r1',r3,r4,r37,r38,r39,hlt',p1,p2,va.one,vb.one,vc.one,<- hHc,hcell,hcell1,hbox1,lb,loadC,eT,n1,m1,bindH_opt,hw,-hset_d,-halloc_d,-Int.natCast_add]
          exact ⟨t.nodes.length - (i + 1),by omega,i + 1,rfl,by omega,ct',(by simp only at hs1; omega),cy',(by simp only at hs2; omega),hns,m4,rfl⟩
    ·have hlt' : ¬ (i : Int) < t.nodes.length := by omega
     rw [List.drop_of_length_le (by omega)] at hns
     simp only [nodesS] at hns
     subst hns
     rw [hoo] at hL
     have hpos : 0 < t.nodes.length := by cases ht : t.nodes with | nil => exact absurd ht c1 | cons => simp
     simp [L_tree_Check_1,r1',r3,r4,r37,r38,r39,hlt']
     exact check_k1 h ys1 ys2 ys3 ok2 zs1 zs2 zs3 ok3 (by simp [r1']) (by simp [r3,hct]) (by simp [r4]) hcy hL (by omega) (by omega) hb.2.1 hb.2.2 rfl
  ·have c3' : (65536 : Int) < t.types.length := by omega
   have c3n : 65536 < t.types.length := by omega
   simp [C_tree_Check,pa,pb,pc,la,lb,c1,c2,c2',c3,c3',c3n,settle,keeps]
 ·have c2' : (65536 : Int) < t.nodes.length := by omega
  have c2n : 65536 < t.nodes.length := by omega
  simp [C_tree_Check,pa,pb,pc,la,lb,c1,c2,c2',c2n,settle,keeps]
end
end Go.Proofs.Eng
namespace Go.Proofs.Eng
open Go

def L_slices_Equal_sl_string_string_1 (N : Nat -> Nat) : AC :=
 .seq (
 .ops [⟨some 14,.bin .lss (.t 13) (.t 12),none⟩]) (
 .seq (
 .cond (.t 14) (
 .skip) (
 .exit 0)) (
 .seq (
 .block 1 (
 .seq (
 .ops [⟨some 15,.mov (.t 13),none⟩,⟨some 5,.mov (.t 15),none⟩]) (
 .seq (
 .dops 6 [⟨some 16,.mov (.t 0),none⟩,⟨some 17,.mov (.t 5),none⟩,⟨some 18,.iaddr 1 (.t 16) (.t 17),none⟩,⟨some 19,.load none (.t 18),none⟩,⟨some 20,.mov (.t 1),none⟩,⟨some 21,.mov (.t 5),none⟩,⟨some 22,.iaddr 1 (.t 20) (.t 21),none⟩,⟨some 23,.load none (.t 22),none⟩,⟨some 24,.eq true .pstr (.t 19) (.t 23),none⟩] [0,0,0,2,0,0,0,2,0] []) (
 .cond (.t 24) (
 .seq (
 .ops [⟨some 4,.mov (.c (.lit (.bool false))),none⟩]) (
 .ret)) (
 .skip))))) (
 .ops [⟨some 25,.bin .add (.t 13) (.c (.lit (.int .i64 1))),none⟩,⟨some 13,.mov (.t 25),none⟩])))
def K_slices_Equal_sl_string_string_1 (N : Nat -> Nat) : AC :=
 .seq (
 .ops [⟨some 4,.mov (.c (.lit (.bool true))),none⟩]) (
 .ret)
def C_slices_Equal_sl_string_string (N : Nat -> Nat) : AFunc := ⟨26,[.inl 4],
 .seq (
 .ops [⟨some 4,.mov (.c (.lit (.bool false))),none⟩]) (
 .seq (
 .seq (
 .ops [⟨some 6,.mov (.t 0),none⟩,⟨some 7,.len (.t 6),none⟩,⟨some 8,.mov (.t 1),none⟩,⟨some 9,.len (.t 8),none⟩,⟨some 10,.eq true .pint (.t 7) (.t 9),none⟩]) (
 .cond (.t 10) (
 .seq (
 .ops [⟨some 4,.mov (.c (.lit (.bool false))),none⟩]) (
 .ret)) (
 .skip))) (
 .seq (
 .seq (
 .ops [⟨some 11,.mov (.t 0),none⟩,⟨some 12,.len (.t 11),none⟩,⟨some 13,.mov (.c (.lit (.int .i64 0))),none⟩]) (
 .block 0 (
 .loop (L_slices_Equal_sl_string_string_1 N)))) (K_slices_Equal_sl_string_string_1 N))),false⟩
end Go.Proofs.Eng
namespace Go.Proofs.Eng
open Go
section
variable {Γ : Sums} {A : Tab} {N : Nat -> Nat}
@[simp] theorem aeq_nilp : aeq .pptr (.lit (.pointer none)) (.lit (.pointer none)) = some true := _root_.id rfl
end
end Go.Proofs.Eng
