import Derived.Test.YtcmdnlpkplaapaaGreatM29
import Derived.Test.YtcmdnlpkplaapaaGreatEngAK
import Derived.Test.YtcmdnlpkplaapaaGreatM26
import Derived.Test.YtcmdnlpkplaapaaGreatM27
/- May a tree be: the whole, run by the engine. -/
set_option linter.unusedVariables false
set_option linter.unusedSimpArgs false
set_option maxRecDepth 100000
namespace Go.Proofs.Eng
open Go
def RowR {α : Type} (Q : Hp -> AV -> α -> Prop) (sz : Nat) (H : Hp) (x : AV) (l : List α) : Prop := ∃ xs,Vw H sz x xs /\ xs.length = l.length /\ ∀ (i : Nat) (y : AV) (n : α),xs[i]? = some y -> l[i]? = some n -> Q H y n
def AlR (H : Hp) (x : AV) (n : Al) : Prop := x = alV n
def TrR (H : Hp) (x : AV) (t : Tr) : Prop := ∃ a b c,x = .agg [a,b,c] /\ RowR NdR 8 H a t.nodes /\ RowR TyR 6 H b t.types /\ RowR AlR 3 H c t.als
def Tr.ok (t : Tr) : Prop := (∀ n ∈ t.nodes,n.ok) /\ (∀ n ∈ t.types,n.ok) /\ (∀ n ∈ t.als,n.ok)
theorem RowR.len {α : Type} {Q : Hp -> AV -> α -> Prop} {sz : Nat} {H : Hp} {x : AV} {l : List α} (h : RowR Q sz H x l) : asLen x = some l.length := by
 obtain ⟨xs,h1,h2,_⟩ := h
 rw [h1.len,h2]
theorem RowR.one {α : Type} {Q : Hp -> AV -> α -> Prop} {sz : Nat} {H : Hp} {x : AV} {l : List α} (h : RowR Q sz H x l) : x.one = true := by
 obtain ⟨xs,h1,_⟩ := h; exact h1.one
def Keep (H H' : Hp) : Prop := ∀ id,id < H.l.length -> hget H' id = hget H id
theorem Keep.vw {H H' : Hp} (k : Keep H H') {sz : Nat} {x : AV} {es : List AV} (h : Vw H sz x es) : Vw H' sz x es := h.keep k
theorem Keep.nd {H H' : Hp} (k : Keep H H') {x : AV} {n : Nd} (h : NdR H x n) : NdR H' x n := by
 obtain ⟨a,b,c,e,h1,h2,h3⟩ := h
 exact ⟨a,b,c,e,k.vw h1,k.vw h2,k.vw h3⟩
theorem Keep.ty {H H' : Hp} (k : Keep H H') {x : AV} {n : Ty} (h : TyR H x n) : TyR H' x n := by
 obtain ⟨a,b,e,h1,h2⟩ := h
 exact ⟨a,b,e,k.vw h1,k.vw h2⟩
theorem Keep.row {α : Type} {Q : Hp -> AV -> α -> Prop} {H H' : Hp} (k : Keep H H') (hq : ∀ x n,Q H x n -> Q H' x n) {sz : Nat} {x : AV} {l : List α} (h : RowR Q sz H x l) : RowR Q sz H' x l := by
 obtain ⟨xs,h1,h2,h3⟩ := h
 exact ⟨xs,k.vw h1,h2,fun i y n hy hn => hq _ _ (h3 i y n hy hn)⟩
theorem Keep.tr {H H' : Hp} (k : Keep H H') {x : AV} {t : Tr} (h : TrR H x t) : TrR H' x t := by
 obtain ⟨a,b,c,e,h1,h2,h3⟩ := h
 exact ⟨a,b,c,e,k.row (fun _ _ => k.nd) h1,k.row (fun _ _ => k.ty) h2,k.row (fun _ _ h => h) h3⟩
theorem Loc.kp {H0 H : Hp} {os : List (Nat × AObj)} (h : Loc H0 H os) : Keep H0 H := fun _ hi => h.oldget hi
theorem Mut.kp {H H' : Hp} (h : Mut H H' []) : Keep H H' := fun _ hi => h.get hi (by simp)
theorem Vw.ats {H : Hp} {sz : Nat} {x : AV} {es : List AV} {k : IntKind} {i : Nat} {ys : List AV} (h : Vw H sz x es) (h1 : es[i]? = some (.agg ys)) (hl : ys.length = sz) (hg : ys.all AV.one = true) : ∃ p,aiaddr sz x (.lit (.int k (i : Int))) = some p /\ aload H (some sz) p = some (.agg ys) := by
 have hi := (List.getElem?_eq_some_iff.1 h1).1
 rcases h with (⟨_,he⟩ | rfl) | ⟨id,off,t,all,rfl,h2,h3,h4⟩
 ·rw [he] at h1; simp at h1
 ·refine ⟨.vp ys,by simpa [AV.cells] using aiaddr_sln (sz := sz) (k := k) h1 (by simpa [AV.good] using hg),?_⟩
  simp [loadC,hl]
  rw [<- hl,List.take_length]
 ·refine ⟨.ep id (off + i) 0,by simp [aiaddr,hi],?_⟩
  have he : all[off + i]? = some (.agg ys) := by
   rw [<- h1,<- h4,List.getElem?_take,if_pos hi,List.getElem?_drop]
  simp only [aload,h2,he]
  rw [if_pos (by simpa [AV.good] using hg),if_pos (by simp)]

def nodesS (ty : Nat) : List Nd -> Nat -> List Int -> List Int -> Option (List Int × List Int)
 | [],_,ct,cy => some (ct,cy)
 | n :: r,i,ct,cy => if termB n then (match noteS ct n.kids i with
  | (true,ct') => (match noteS cy n.types ty with
   | (true,cy') => nodesS ty r (i + 1) ct' cy'
   | _ => none)
  | _ => none) else none
def typesS : List Ty -> Nat -> List Int -> Option (List Int)
 | [],_,cy => some cy
 | n :: r,i,cy => if typB n then (match noteS cy n.kids i with
  | (true,cy') => typesS r (i + 1) cy'
  | _ => none) else none
def alsS (ty : Nat) : List Al -> List Int -> Option (List Int)
 | [],cy => some cy
 | n :: r,cy => if aliasB n.name then (match noteS cy [n.type] ty with
  | (true,cy') => alsS ty r cy'
  | _ => none) else none
def lastUp (ct : List Int) : List Int := ct.modify (ct.length - 1) bump
def endS (t : Tr) (ct cy : List Int) : Bool := match typesS t.types 0 cy with
 | some cy' => (match alsS t.types.length t.als cy' with
  | some cy'' => (lastUp ct).all (fun c => decide (c = 1)) && cy''.all (fun c => decide (c = 1))
  | none => false)
 | none => false
def checkB (t : Tr) : Bool := !t.nodes.isEmpty && decide (t.nodes.length <= 65536) && decide (t.types.length <= 65536) && match nodesS t.types.length t.nodes 0 (List.replicate t.nodes.length 0) (List.replicate t.types.length 0) with
 | some (ct,cy) => endS t ct cy
 | none => false

section
variable {Γ : Sums} {A : Tab} {N : Nat -> Nat}
theorem keep_box (H : Hp) (d : Option Nat) (o : AObj) : Keep H (halloc { l := H.l,d := d } o) := fun id hid => by rw [hget_halloc,if_neg (by simp; omega)]; rfl
theorem note_loc (h : TreeC Γ A N) {H0 H : Hp} {id : Nat} {t : TypeId} {cnt ks : List Int} {x : AV} {b : Int} {os : List (Nat × AObj)} (hL : Loc H0 H ((id,.arr 1 (cnt.map (avInt .i64)) t) :: os)) (hx : VI H x ks) (hne : ∀ off n,x ≠ .ra 1 id off n) (hb : b <= cnt.length) (hl : ks.length < 2 ^ 60) :
  ∃ g,(lim Γ A).call (f_tree_uses_note N) [.ra 1 id 0 cnt.length,x,avInt .i64 b] H = some (avBool (noteS cnt ks b).1,g) /\ Loc H0 (g.getD H) ((id,.arr 1 ((noteS cnt ks b).2.map (avInt .i64)) t) :: os) /\ Mut H (g.getD H) [id] := by
 obtain ⟨g,e1,e2,e3⟩ := note_call h hL.head hx hne hb hl
 refine ⟨g,e1,?_,e3⟩
 have hge := hL.ge (p := (id,.arr 1 (cnt.map (avInt .i64)) t)) (by simp)
 refine hL.mut e3 (by simp; exact hge) (fun p hp => ?_) (by simpa using hL.nd)
 rcases List.mem_cons.1 hp with rfl | hp
 ·exact ⟨e2,hL.ge (p := (id,.arr 1 (cnt.map (avInt .i64)) t)) (by simp)⟩
 ·have hnd := hL.nd
  rw [List.map_cons,List.nodup_cons] at hnd
  refine ⟨e3.get' (hL.get (List.mem_cons_of_mem _ hp)) (by simp; intro e; exact hnd.1 (List.mem_map.2 ⟨p,hp,e⟩)),hL.ge (List.mem_cons_of_mem _ hp)⟩
theorem odd_call (h : TreeC Γ A N) (c : Int) (H : Hp) : (lim Γ A).call (f_tree_Check_1 N) [avInt .i64 c] H = some (avBool (!decide (c = 1)),none) := by
 apply h.odd.call (by rfl)
 simp [C_tree_Check_1,settle,keeps]
def intO : AV -> Int
 | .lit (.int _ n) => n
 | _ => 0
theorem oddU_call (h : TreeC Γ A N) {H : Hp} {x : AV} {l : List Int} (hx : VI H x l) (hl : l.length < 2 ^ 60) : (lim Γ A).call (f_slices_ContainsFunc_tree_uses_int N) [x,.fn (f_tree_Check_1 N) [] []] H = some (avBool (!l.all fun c => decide (c = 1)),none) := by
 have e := containsU_call h (H := H) (x := x) (fv := .fn (f_tree_Check_1 N) [] []) (fun e => !decide (intO e = 1)) hx int_one (fun e he => by
  obtain ⟨c,_,rfl⟩ := List.mem_map.1 he
  simp only [callV_fn]
  exact odd_call h c _) (by simp; omega)
 have ha : ((l.map (avInt .i64)).any fun e => !decide (intO e = 1)) = !l.all fun c => decide (c = 1) := by
  rw [List.any_map,List.all_eq_not_any_not,Bool.not_not]
  rfl
 rw [ha] at e
 exact e
theorem ra_vi {H : Hp} {id : Nat} {cnt : List Int} {t : TypeId} (h : hget H id = some (.arr 1 (cnt.map (avInt .i64)) t)) : VI H (.ra 1 id 0 cnt.length) cnt :=
 .inr ⟨id,0,t,cnt.map (avInt .i64),by simp,h,by simp,List.take_of_length_le (by simp)⟩
theorem vi_ne {H0 : Hp} {x : AV} {l : List Int} (h : VI H0 x l) {id : Nat} (hid : H0.l.length <= id) : ∀ off n,x ≠ .ra 1 id off n := by
 rintro off n rfl
 rcases h with (⟨h,_⟩ | h) | ⟨id',off',t,all,e,h2,_⟩
 ·cases h
 ·cases h
 ·simp only [AV.ra.injEq] at e
  have := hget_lt h2
  omega

def errN (b : Bool) : AV := avInt .i64 (if b then 0 else 14)
def ckO (N : Nat -> Nat) (n : Nat) (a b c : AV) (ct cy : List Int) : List (Nat × AObj) := [(n + 1,.arr 1 (ct.map (avInt .i64)) (t_int N)),(n + 1 + 1,.arr 1 (cy.map (avInt .i64)) (t_int N)),(n,.cells [a,b,c] (t_api_Tree N))]
theorem check_k3 (h : TreeC Γ A N) {H H' : Hp} {a b c : AV} {ct cy : List Int} {ρ : Rho} {E : Bool} (r3 : ρ 3 = .ra 1 (H.l.length + 1) 0 ct.length) (r4 : ρ 4 = .ra 1 (H.l.length + 1 + 1) 0 cy.length) (hL : Loc H H' (ckO N H.l.length a b c ct cy)) (hne : 0 < ct.length) (hl1 : ct.length < 2 ^ 30) (hl2 : cy.length < 2 ^ 30)
  (hE : E = ((lastUp ct).all (fun c => decide (c = 1)) && cy.all (fun c => decide (c = 1)))) :
  wp (lim Γ A) none (K_tree_Check_3 N) ρ H' (Ends [.inl 2] false H fun p => p = (errN E,none)) := by
 have hlt : ct.length - 1 < ct.length := by omega
 have hw : IntKind.wrap .i64 ((ct.length : Int) - 1) = ((ct.length - 1 : Nat) : Int) := by rw [wrap64 (by omega) (by omega)]; omega
 have hg1 : hget H' (H.l.length + 1) = some (.arr 1 (ct.map (avInt .i64)) (t_int N)) := hL.get (p := (H.l.length + 1,.arr 1 (ct.map (avInt .i64)) (t_int N))) (by simp [ckO])
 have p1 := ra_iaddr (id := H.l.length + 1) (n := ct.length) (k := .i64) (j := ((ct.length - 1 : Nat) : Int)) (by omega) (by omega)
 rw [Int.toNat_natCast] at p1
 have p2 := ep_load hg1 hlt
 have p3 : astore H' 1 (.ep (H.l.length + 1) (ct.length - 1) 0) (avInt .i64 (IntKind.wrap .i64 (ct[ct.length - 1] + 1))) = some (hset H' (H.l.length + 1) (some (.arr 1 ((ct.set (ct.length - 1) (bump ct[ct.length - 1])).map (avInt .i64)) (t_int N)))) := ep_store hg1 hlt _
 have hup : ct.set (ct.length - 1) (bump ct[ct.length - 1]) = lastUp ct := by
  unfold lastUp
  apply List.ext_getElem?
  intro y
  simp only [List.getElem?_modify,List.getElem?_set]
  by_cases hy : ct.length - 1 = y
  ·subst hy; simp [hlt]
  ·simp [hy]
 rw [hup] at p3
 have hL2 : Loc H (hset H' (H.l.length + 1) (some (.arr 1 ((lastUp ct).map (avInt .i64)) (t_int N)))) ((H.l.length + 1,.arr 1 ((lastUp ct).map (avInt .i64)) (t_int N)) :: [(H.l.length + 1 + 1,.arr 1 (cy.map (avInt .i64)) (t_int N)),(H.l.length,.cells [a,b,c] (t_api_Tree N))]) := Loc.set hL _
 have hll : (lastUp ct).length = ct.length := by simp [lastUp]
 have v1 := ra_vi hL2.head
 have v2 := ra_vi (hL2.get (p := (H.l.length + 1 + 1,.arr 1 (cy.map (avInt .i64)) (t_int N))) (by simp))
 rw [hll] at v1
 have q1 := oddU_call h v1 (by omega)
 have q2 := oddU_call h v2 (by omega)
 have f1 := fun n => settle_keeps (v := avInt .i64 n) hL2.keeps (by simp [AV.under])
 unfold errN
 subst hE
 generalize (lastUp ct).all (fun c => decide (c = 1)) = b1 at *
 generalize cy.all (fun c => decide (c = 1)) = b2 at *
 cases b1
 ·simp [K_tree_Check_3,r3,r4,hw,p1,p2,p3,q1,-hset_d,-halloc_d]
  exact f1 14
 ·cases b2
  ·simp [K_tree_Check_3,r3,r4,hw,p1,p2,p3,q1,q2,-hset_d,-halloc_d]
   exact f1 14
  ·simp [K_tree_Check_3,r3,r4,hw,p1,p2,p3,q1,q2,-hset_d,-halloc_d]
   exact f1 0

theorem check_k2 (h : TreeC Γ A N) {H H' : Hp} {a b c : AV} {t : Tr} {ct cy : List Int} {ρ : Rho} {E : Bool} (lb : asLen b = some t.types.length) {zs : List AV} (zs1 : Vw H 3 c zs) (zs2 : zs.length = t.als.length) (zs3 : ∀ (i : Nat) (y : AV) (n : Al),zs[i]? = some y -> t.als[i]? = some n -> AlR H y n) (ok3 : ∀ n ∈ t.als,n.ok)
  (r1 : ρ 1 = .ptr H.l.length 0) (r3 : ρ 3 = .ra 1 (H.l.length + 1) 0 ct.length) (r4 : ρ 4 = .ra 1 (H.l.length + 1 + 1) 0 t.types.length) (hcy : cy.length = t.types.length) (hL : Loc H H' (ckO N H.l.length a b c ct cy)) (hne : 0 < ct.length) (hl1 : ct.length < 2 ^ 30) (hl2 : t.types.length < 2 ^ 30) (hl3 : t.als.length < 2 ^ 30)
  (hE : E = match alsS t.types.length t.als cy with | some cy'' => (lastUp ct).all (fun c => decide (c = 1)) && cy''.all (fun c => decide (c = 1)) | none => false) :
  wp (lim Γ A) none (K_tree_Check_2 N) ρ H' (Ends [.inl 2] false H fun p => p = (errN E,none)) := by
 have lc : asLen c = some t.als.length := by rw [zs1.len,zs2]
 have hbox : hget H' H.l.length = some (.cells [a,b,c] (t_api_Tree N)) := hL.get (p := (H.l.length,.cells [a,b,c] (t_api_Tree N))) (by simp [ckO])
 generalize hNS : alsS t.types.length t.als cy = NS at hE
 simp [K_tree_Check_2,r1,hbox,lc]
 refine wp_round (n := t.als.length) (fun q ρ H' => ∃ (i : Nat) (cy' : List Int),ρ 1 = .ptr H.l.length 0 /\ ρ 3 = .ra 1 (H.l.length + 1) 0 ct.length /\ ρ 4 = .ra 1 (H.l.length + 1 + 1) 0 t.types.length /\ ρ 87 = c /\ ρ 88 = avInt .i64 (t.als.length : Nat) /\ ρ 89 = avInt .i64 (i : Nat) /\ i <= t.als.length /\ cy'.length = t.types.length /\
  alsS t.types.length (t.als.drop i) cy' = NS /\ Loc H H' (ckO N H.l.length a b c ct cy') /\ q = t.als.length - i) ?_ ?_
 ·exact ⟨0,cy,r1,r3,r4,rfl,rfl,rfl,by omega,hcy,hNS,hL,rfl⟩
 ·rintro q ρ H' ⟨i,cy',r1,r3,r4,r87,r88,r89,hi,hcy',hns,hL,rfl⟩
  have hbox : hget H' H.l.length = some (.cells [a,b,c] (t_api_Tree N)) := hL.get (p := (H.l.length,.cells [a,b,c] (t_api_Tree N))) (by simp [ckO])
  have fin14 : ∀ {G : Hp} {os : List (Nat × AObj)},Loc H G os -> settle H (avInt .i64 14) G = (avInt .i64 14,none) := fun hG => settle_keeps hG.keeps (by simp [AV.under])
  by_cases hlt : i < t.als.length
  ·have hlt' : (i : Int) < t.als.length := by omega
   have hw : IntKind.wrap .i64 ((i : Int) + 1) = ((i + 1 : Nat) : Int) := by rw [wrap64 (by omega) (by omega)]; omega
   have hxi : zs[i]? = some zs[i] := List.getElem?_eq_getElem (by omega)
   have hni : t.als[i]? = some t.als[i] := List.getElem?_eq_getElem hlt
   have ey := zs3 i _ _ hxi hni
   have okn := ok3 _ (List.getElem_mem hlt)
   unfold AlR alV at ey
   rw [ey] at hxi
   have hd2 : t.als.drop i = t.als[i] :: t.als.drop (i + 1) := List.drop_eq_getElem_cons hlt
   rw [hd2] at hns
   generalize t.als[i] = n at *
   obtain ⟨p,p1,p2⟩ := (zs1.loc hL).ats (k := .i64) hxi (by rfl) (by simp)
   obtain ⟨Hc,hHc⟩ : ∃ Hc,Hc = hset (halloc H' (.cells [.lit (.string (mkS [])),.lit (.int .i64 0),.lit (.int .i64 0)] (t_api_Alias N))) H'.l.length (some (.cells [avStr n.name,avInt .i64 n.type,avInt .i64 n.pos] (t_api_Alias N))) := ⟨_,rfl⟩
   have MC : Mut H' Hc [] := by rw [hHc]; exact ((Mut.refl _ _).alloc _).set (.inr (Nat.le_refl _))
   have hcell : hget Hc H'.l.length = some (.cells [avStr n.name,avInt .i64 n.type,avInt .i64 n.pos] (t_api_Alias N)) := by rw [hHc]; simp
   have hcl : Hc.l.length = H'.l.length + 1 := by rw [hHc]; simp
   have hLc := hL.still MC
   have eT := alias_call h n.name (by unfold Al.ok at okn; omega) Hc
   rw [show alsS t.types.length (n :: t.als.drop (i + 1)) cy' = (if aliasB n.name then (match noteS cy' [n.type] t.types.length with
    | (true,cy') => alsS t.types.length (t.als.drop (i + 1)) cy'
    | _ => none) else none) from rfl] at hns
   cases hT : aliasB n.name
   ·rw [hT] at hns eT
    simp only [Bool.false_eq_true,if_false] at hns
    subst hns
    subst hE
    have f1 := fin14 hLc
    simp [L_tree_Check_3,errN,r1,r3,r4,r87,r88,r89,hlt',p1,p2,<- hHc,hcell,eT,-hset_d,-halloc_d]
    exact f1
   ·rw [hT] at hns eT
    simp only [if_true] at hns
    have hLd := hLc.alloc (.arr 1 [avInt .i64 n.type] (t_int N))
    obtain ⟨Hd,hHd⟩ : ∃ Hd,Hd = halloc Hc (.arr 1 [avInt .i64 n.type] (t_int N)) := ⟨_,rfl⟩
    rw [<- hHd] at hLd
    have hv : VI Hd (.ra 1 Hc.l.length 0 1) [n.type] := .inr ⟨Hc.l.length,0,t_int N,[avInt .i64 n.type],rfl,by rw [hHd]; simp,by simp,by simp⟩
    have hHl : H.l.length + 1 + 1 < H'.l.length := hL.lt (p := (H.l.length + 1 + 1,.arr 1 (cy'.map (avInt .i64)) (t_int N))) (by simp [ckO])
    have hLe : Loc H Hd ((H.l.length + 1 + 1,.arr 1 (cy'.map (avInt .i64)) (t_int N)) :: [(H.l.length + 1,.arr 1 (ct.map (avInt .i64)) (t_int N)),(H.l.length,.cells [a,b,c] (t_api_Tree N))]) := (hLd.sub (List.sublist_cons_self _ _)).perm (List.Perm.swap _ _ _)
    obtain ⟨g1,n1,n2,n3⟩ := note_loc h hLe (ks := [n.type]) (b := (t.types.length : Int)) hv (by intro off m e; simp only [AV.ra.injEq] at e; omega) (by omega) (by simp)
    rw [hcy'] at n1
    have hboxd : hget Hd H.l.length = some (.cells [a,b,c] (t_api_Tree N)) := hLe.get (p := (H.l.length,.cells [a,b,c] (t_api_Tree N))) (by simp)
    have hs1 := noteS_len [n.type] cy' (t.types.length : Int)
    cases hN1 : noteS cy' [n.type] (t.types.length : Int) with
    | mk r1b cy2 =>
     rw [hN1] at hns n1 n2 hs1
     cases r1b
     ·simp only at hns
      subst hns
      subst hE
      have f1 := fin14 n2
      simp [L_tree_Check_3,errN,r1,r3,r4,r87,r88,r89,hlt',p1,p2,<- hHc,hcell,eT,fillA,repl,setFrom,chunk,<- hHd,hboxd,lb,n1,bindH_opt,-hset_d,-halloc_d]
      exact f1
     ·simp only at hns
      have m4 : Loc H (g1.getD Hd) (ckO N H.l.length a b c ct cy2) := n2.perm (List.Perm.swap _ _ _)
      simp [L_tree_Check_3,r1,r3,r4,r87,r88,r89,hlt',p1,p2,<- hHc,hcell,eT,fillA,repl,setFrom,chunk,<- hHd,hboxd,lb,n1,bindH_opt,hw,-hset_d,-halloc_d,-Int.natCast_add]
      exact ⟨t.als.length - (i + 1),by omega,i + 1,rfl,by omega,cy2,(by simp only at hs1; omega),hns,m4,rfl⟩
  ·have hlt' : ¬ (i : Int) < t.als.length := by omega
   rw [List.drop_of_length_le (by omega)] at hns
   simp only [alsS] at hns
   subst hns
   simp [L_tree_Check_3,r1,r3,r4,r87,r88,r89,hlt']
   exact check_k3 h (by simp [r3]) (by simp [r4,hcy']) hL hne hl1 (by omega) hE

theorem check_k1 (h : TreeC Γ A N) {H H' : Hp} {a b c : AV} {t : Tr} {ct cy : List Int} {ρ : Rho} {E : Bool} {ys : List AV} (ys1 : Vw H 6 b ys) (ys2 : ys.length = t.types.length) (ys3 : ∀ (i : Nat) (y : AV) (n : Ty),ys[i]? = some y -> t.types[i]? = some n -> TyR H y n) (ok2 : ∀ n ∈ t.types,n.ok)
  {zs : List AV} (zs1 : Vw H 3 c zs) (zs2 : zs.length = t.als.length) (zs3 : ∀ (i : Nat) (y : AV) (n : Al),zs[i]? = some y -> t.als[i]? = some n -> AlR H y n) (ok3 : ∀ n ∈ t.als,n.ok)
  (r1 : ρ 1 = .ptr H.l.length 0) (r3 : ρ 3 = .ra 1 (H.l.length + 1) 0 ct.length) (r4 : ρ 4 = .ra 1 (H.l.length + 1 + 1) 0 t.types.length) (hcy : cy.length = t.types.length) (hL : Loc H H' (ckO N H.l.length a b c ct cy)) (hne : 0 < ct.length) (hl1 : ct.length < 2 ^ 30) (hl2 : t.types.length < 2 ^ 30) (hl3 : t.als.length < 2 ^ 30)
  (hE : E = endS t ct cy) :
  wp (lim Γ A) none (K_tree_Check_1 N) ρ H' (Ends [.inl 2] false H fun p => p = (errN E,none)) := by
 have lb : asLen b = some t.types.length := by rw [ys1.len,ys2]
 have hbox : hget H' H.l.length = some (.cells [a,b,c] (t_api_Tree N)) := hL.get (p := (H.l.length,.cells [a,b,c] (t_api_Tree N))) (by simp [ckO])
 unfold endS at hE
 generalize hNS : typesS t.types 0 cy = NS at hE
 simp [K_tree_Check_1,r1,hbox,lb]
 refine wp_round (n := t.types.length) (fun q ρ H' => ∃ (i : Nat) (cy' : List Int),ρ 1 = .ptr H.l.length 0 /\ ρ 3 = .ra 1 (H.l.length + 1) 0 ct.length /\ ρ 4 = .ra 1 (H.l.length + 1 + 1) 0 t.types.length /\ ρ 67 = b /\ ρ 68 = avInt .i64 (t.types.length : Nat) /\ ρ 69 = avInt .i64 (i : Nat) /\ i <= t.types.length /\ cy'.length = t.types.length /\
  typesS (t.types.drop i) i cy' = NS /\ Loc H H' (ckO N H.l.length a b c ct cy') /\ q = t.types.length - i) ?_ ?_
 ·exact ⟨0,cy,r1,r3,r4,rfl,rfl,rfl,by omega,hcy,hNS,hL,rfl⟩
 ·rintro q ρ H' ⟨i,cy',r1,r3,r4,r67,r68,r69,hi,hcy',hns,hL,rfl⟩
  have fin14 : ∀ {G : Hp} {os : List (Nat × AObj)},Loc H G os -> settle H (avInt .i64 14) G = (avInt .i64 14,none) := fun hG => settle_keeps hG.keeps (by simp [AV.under])
  by_cases hlt : i < t.types.length
  ·have hlt' : (i : Int) < t.types.length := by omega
   have hw : IntKind.wrap .i64 ((i : Int) + 1) = ((i + 1 : Nat) : Int) := by rw [wrap64 (by omega) (by omega)]; omega
   have hxi : ys[i]? = some ys[i] := List.getElem?_eq_getElem (by omega)
   have hni : t.types[i]? = some t.types[i] := List.getElem?_eq_getElem hlt
   obtain ⟨sa,sb,ey,va,vb⟩ := ys3 i _ _ hxi hni
   have okn := ok2 _ (List.getElem_mem hlt)
   unfold tyV at ey
   rw [ey] at hxi
   have hd2 : t.types.drop i = t.types[i] :: t.types.drop (i + 1) := List.drop_eq_getElem_cons hlt
   rw [hd2] at hns
   generalize t.types[i] = n at *
   obtain ⟨p,p1,p2⟩ := (ys1.loc hL).ats (k := .i64) hxi (by rfl) (by simp [va.one,vb.one])
   obtain ⟨Hc,hHc⟩ : ∃ Hc,Hc = hset (halloc H' (.cells [.lit (.int .i64 0),.lit (.int .i64 0),.lit (.string (mkS [])),.lit (.slice none 0 0),.lit (.slice none 0 0),.lit (.bool false)] (t_api_TypeNode N))) H'.l.length (some (.cells [avInt .i64 n.kind,avInt .i64 n.pos,avStr n.name,sa,sb,avBool n.opn] (t_api_TypeNode N))) := ⟨_,rfl⟩
   have MC : Mut H' Hc [] := by rw [hHc]; exact ((Mut.refl _ _).alloc _).set (.inr (Nat.le_refl _))
   have hcell : hget Hc H'.l.length = some (.cells [avInt .i64 n.kind,avInt .i64 n.pos,avStr n.name,sa,sb,avBool n.opn] (t_api_TypeNode N)) := by rw [hHc]; simp
   have hLc := hL.still MC
   have eT := typ_call h (H := Hc) (hLc.kp.ty ⟨sa,sb,rfl,va,vb⟩) okn
   unfold tyV at eT
   rw [show typesS (n :: t.types.drop (i + 1)) i cy' = (if typB n then (match noteS cy' n.kids i with
    | (true,cy') => typesS (t.types.drop (i + 1)) (i + 1) cy'
    | _ => none) else none) from rfl] at hns
   cases hT : typB n
   ·rw [hT] at hns eT
    simp only [Bool.false_eq_true,if_false] at hns
    subst hns
    subst hE
    have f1 := fin14 hLc
    simp [L_tree_Check_2,errN,r1,r3,r4,r67,r68,r69,hlt',p1,p2,va.one,vb.one,loadC,<- hHc,hcell,eT,-hset_d,-halloc_d]
    exact f1
   ·rw [hT] at hns eT
    simp only [if_true] at hns
    have hHl : H.l.length + 1 + 1 < H'.l.length := hL.lt (p := (H.l.length + 1 + 1,.arr 1 (cy'.map (avInt .i64)) (t_int N))) (by simp [ckO])
    have hLe : Loc H Hc ((H.l.length + 1 + 1,.arr 1 (cy'.map (avInt .i64)) (t_int N)) :: [(H.l.length + 1,.arr 1 (ct.map (avInt .i64)) (t_int N)),(H.l.length,.cells [a,b,c] (t_api_Tree N))]) := hLc.perm (List.Perm.swap _ _ _)
    obtain ⟨g1,n1,n2,n3⟩ := note_loc h hLe (ks := n.kids) (b := (i : Int)) (hLe.kp.vw vb) (vi_ne vb (by omega)) (by omega) (by have := okn.2.2.2; omega)
    rw [hcy'] at n1
    have hs1 := noteS_len n.kids cy' (i : Int)
    cases hN1 : noteS cy' n.kids (i : Int) with
    | mk r1b cy2 =>
     rw [hN1] at hns n1 n2 hs1
     cases r1b
     ·simp only at hns
      subst hns
      subst hE
      have f1 := fin14 n2
      simp [L_tree_Check_2,errN,r1,r3,r4,r67,r68,r69,hlt',p1,p2,va.one,vb.one,loadC,<- hHc,hcell,eT,n1,bindH_opt,-hset_d,-halloc_d]
      exact f1
     ·simp only at hns
      have m4 : Loc H (g1.getD Hc) (ckO N H.l.length a b c ct cy2) := n2.perm (List.Perm.swap _ _ _)
      simp [L_tree_Check_2,r1,r3,r4,r67,r68,r69,hlt',p1,p2,va.one,vb.one,loadC,<- hHc,hcell,eT,n1,bindH_opt,hw,-hset_d,-halloc_d,-Int.natCast_add]
      exact ⟨t.types.length - (i + 1),by omega,i + 1,rfl,by omega,cy2,(by simp only at hs1; omega),hns,m4,rfl⟩
  ·have hlt' : ¬ (i : Int) < t.types.length := by omega
   rw [List.drop_of_length_le (by omega)] at hns
   simp only [typesS] at hns
   subst hns
   simp [L_tree_Check_2,r1,r3,r4,r67,r68,r69,hlt']
   exact check_k2 h lb zs1 zs2 zs3 ok3 (by simp [r1]) (by simp [r3]) (by simp [r4]) hcy' hL hne hl1 hl2 hl3 hE

theorem check_call (h : TreeC Γ A N) {H : Hp} {x : AV} {t : Tr} (hx : TrR H x t) (ok : t.ok) (hb : t.nodes.length < 2 ^ 30 /\ t.types.length < 2 ^ 30 /\ t.als.length < 2 ^ 30) : (lim Γ A).call (f_tree_Check N) [x] H = some (errN (checkB t),none) := by
 obtain ⟨a,b,c,rfl,ha,hb',hc⟩ := hx
 obtain ⟨ok1,ok2,ok3⟩ := ok
 obtain ⟨xs,xs1,xs2,xs3⟩ := ha
 have la : asLen a = some t.nodes.length := by rw [xs1.len,xs2]
 obtain ⟨ys,ys1,ys2,ys3⟩ := hb'
 have lb : asLen b = some t.types.length := by rw [ys1.len,ys2]
 obtain ⟨zs,zs1,zs2,zs3⟩ := hc
 have lc : asLen c = some t.als.length := by rw [zs1.len,zs2]
 have pa := xs1.one
 have pb := ys1.one
 have pc := zs1.one
 apply h.check.call (by rfl)
 unfold checkB errN
 by_cases c1 : t.nodes = []
 ·simp [C_tree_Check,pa,pb,pc,la,lb,c1,settle,keeps]
 by_cases c2 : t.nodes.length <= 65536
 ·have c2' : ¬ (65536 : Int) < t.nodes.length := by omega
  by_cases c3 : t.types.length <= 65536
  ·have c3' : ¬ (65536 : Int) < t.types.length := by omega
   have hi1 : t.nodes.isEmpty = false := by cases ht : t.nodes with | nil => exact absurd ht c1 | cons => rfl
   simp only [hi1,c2,c3,decide_true,Bool.not_false,Bool.true_and]
   have r1 : t.nodes.length * 8 <= roomMax := by unfold roomMax; omega
   have r2 : t.types.length * 8 <= roomMax := by unfold roomMax; omega
   obtain ⟨oo,hoo⟩ : ∃ oo : List Int -> List Int -> List (Nat × AObj),∀ ct cy,oo ct cy = [(H.l.length + 1,.arr 1 (ct.map (avInt .i64)) (t_int N)),(H.l.length + 1 + 1,.arr 1 (cy.map (avInt .i64)) (t_int N)),(H.l.length,.cells [a,b,c] (t_api_Tree N))] := ⟨_,fun _ _ => rfl⟩
   have L3 := (((Loc.start H).alloc (.cells [a,b,c] (t_api_Tree N))).alloc (.arr 1 (List.replicate t.nodes.length (avInt .i64 0)) (t_int N))).alloc (.arr 1 (List.replicate t.types.length (avInt .i64 0)) (t_int N))
   have L4 : Loc H (halloc (halloc (halloc { l := H.l,d := none } (.cells [a,b,c] (t_api_Tree N))) (.arr 1 (List.replicate t.nodes.length (avInt .i64 0)) (t_int N))) (.arr 1 (List.replicate t.types.length (avInt .i64 0)) (t_int N))) (oo (List.replicate t.nodes.length 0) (List.replicate t.types.length 0)) := by
    rw [hoo]
    refine L3.perm ?_
    simp only [halloc_len,List.map_replicate]
    exact List.Perm.swap _ _ _
   generalize hNS : nodesS t.types.length t.nodes 0 (List.replicate t.nodes.length 0) (List.replicate t.types.length 0) = NS
   simp [C_tree_Check,pa,pb,pc,la,lb,c1,c2,c2',c3,c3',r1,r2,-halloc_d]
   refine wp_round (n := t.nodes.length) (fun q ρ H' => ∃ (i : Nat) (ct cy : List Int),ρ 1 = .ptr H.l.length 0 /\ ρ 3 = .ra 1 (H.l.length + 1) 0 t.nodes.length /\ ρ 4 = .ra 1 (H.l.length + 1 + 1) 0 t.types.length /\ ρ 37 = a /\ ρ 38 = avInt .i64 (t.nodes.length : Nat) /\ ρ 39 = avInt .i64 (i : Nat) /\ i <= t.nodes.length /\ ct.length = t.nodes.length /\ cy.length = t.types.length /\
    nodesS t.types.length (t.nodes.drop i) i ct cy = NS /\ Loc H H' (oo ct cy) /\ q = t.nodes.length - i) ?_ ?_
   ·exact ⟨0,_,_,rfl,rfl,rfl,rfl,rfl,rfl,by omega,by simp,by simp,hNS,L4,rfl⟩
   ·rintro q ρ H' ⟨i,ct,cy,r1',r3,r4,r37,r38,r39,hi,hct,hcy,hns,hL,rfl⟩
    by_cases hlt : i < t.nodes.length
    ·have hlt' : (i : Int) < t.nodes.length := by omega
     have hw : IntKind.wrap .i64 ((i : Int) + 1) = ((i + 1 : Nat) : Int) := by rw [wrap64 (by omega) (by omega)]; omega
     have hxi : xs[i]? = some xs[i] := List.getElem?_eq_getElem (by omega)
     have hni : t.nodes[i]? = some t.nodes[i] := List.getElem?_eq_getElem hlt
     obtain ⟨sa,sb,sc,ey,va,vb,vc⟩ := xs3 i _ _ hxi hni
     have okn := ok1 _ (List.getElem_mem hlt)
     rw [ey] at hxi
     have hd2 : t.nodes.drop i = t.nodes[i] :: t.nodes.drop (i + 1) := List.drop_eq_getElem_cons hlt
     rw [hd2] at hns
     generalize t.nodes[i] = n at *
     obtain ⟨p,p1,p2⟩ := (xs1.loc hL).ats (k := .i64) hxi (by rfl) (by simp [va.one,vb.one,vc.one])
     obtain ⟨Hc,hHc⟩ : ∃ Hc,Hc = hset (halloc H' (.cells [.lit (.int .i64 0),.lit (.int .i64 0),.lit (.string (mkS [])),.lit (.int .i64 0),.lit (.int .u64 0),.lit (.slice none 0 0),.lit (.slice none 0 0),.lit (.slice none 0 0)] (t_api_Node N))) H'.l.length (some (.cells [avInt .i64 n.kind,avInt .i64 n.pos,avStr n.name,avInt .i64 n.int,avInt .u64 n.bits,sa,sb,sc] (t_api_Node N))) := ⟨_,rfl⟩
     have MC : Mut H' Hc [] := by rw [hHc]; exact ((Mut.refl _ _).alloc _).set (.inr (Nat.le_refl _))
     have hcell : hget Hc H'.l.length = some (.cells [avInt .i64 n.kind,avInt .i64 n.pos,avStr n.name,avInt .i64 n.int,avInt .u64 n.bits,sa,sb,sc] (t_api_Node N)) := by rw [hHc]; simp
     have hLc := hL.still MC
     have eT := term_call h (H := Hc) (hLc.kp.nd ⟨sa,sb,sc,rfl,va,vb,vc⟩) okn
     unfold ndV at eT
     unfold nodesS at hns
     have hbox : hget H' H.l.length = some (.cells [a,b,c] (t_api_Tree N)) := hL.get (p := (H.l.length,.cells [a,b,c] (t_api_Tree N))) (by simp [hoo])
     have fin14 : ∀ {G : Hp} {os : List (Nat × AObj)},Loc H G os -> settle H (avInt .i64 14) G = (avInt .i64 14,none) := fun hG => settle_keeps hG.keeps (by simp [AV.under])
     cases hT : termB n
     ·rw [hT] at hns eT
      simp only [Bool.false_eq_true,if_false] at hns
      subst hns
      have f1 := fin14 hLc
      simp [L_tree_Check_1,r1',r3,r4,r37,r38,r39,hlt',p1,p2,va.one,vb.one,vc.one,<- hHc,hcell,loadC,eT,-hset_d,-halloc_d]
      exact f1
     ·rw [hT] at hns eT
      simp only [if_true] at hns
      rw [hoo] at hLc
      obtain ⟨g1,n1,n2,n3⟩ := note_loc h hLc (ks := n.kids) (b := (i : Int)) (hLc.kp.vw vb) (vi_ne vb (by omega)) (by omega) (by have := okn.2.2.2.1; omega)
      rw [hct] at n1
      have hHl : H.l.length + 1 + 1 < H'.l.length := hL.lt (p := (H.l.length + 1 + 1,.arr 1 (cy.map (avInt .i64)) (t_int N))) (by simp [hoo])
      have hcell1 := n3.get' hcell (by simp; omega)
      have hs1 := noteS_len n.kids ct (i : Int)
      cases hN1 : noteS ct n.kids (i : Int) with
      | mk r1b ct' =>
       rw [hN1] at hns n1 n2 hs1
       cases r1b
       ·simp only at hns
        subst hns
        have f1 := fin14 n2
        simp [L_tree_Check_1,r1',r3,r4,r37,r38,r39,hlt',p1,p2,va.one,vb.one,vc.one,<- hHc,hcell,loadC,eT,n1,bindH_opt,-hset_d,-halloc_d]
        exact f1
       ·simp only at hns
        have n2' := n2.perm (List.Perm.swap _ _ _)
        obtain ⟨g2,m1,m2,m3⟩ := note_loc h n2' (ks := n.types) (b := (t.types.length : Int)) (n2'.kp.vw vc) (vi_ne vc (by omega)) (by omega) (by have := okn.2.2.2.2; omega)
        rw [hcy] at m1
        have hs2 := noteS_len n.types cy (t.types.length : Int)
        have hbox1 := n2.get (p := (H.l.length,.cells [a,b,c] (t_api_Tree N))) (by simp)
        simp only at hbox1
        cases hN2 : noteS cy n.types (t.types.length : Int) with
        | mk r2b cy' =>
         rw [hN2] at hns m1 m2 hs2
         cases r2b
         ·simp only at hns
          subst hns
          have f1 := fin14 m2
          simp [L_tree_Check_1,r1',r3,r4,r37,r38,r39,hlt',p1,p2,va.one,vb.one,vc.one,<- hHc,hcell,hcell1,hbox1,lb,loadC,eT,n1,m1,bindH_opt,-hset_d,-halloc_d]
          exact f1
         ·simp only at hns
          have m4 : Loc H (g2.getD (g1.getD Hc)) (oo ct' cy') := by
           rw [hoo]; exact m2.perm (List.Perm.swap _ _ _)
          simp [L_tree_Check_1,r1',r3,r4,r37,r38,r39,hlt',p1,p2,va.one,vb.one,vc.one,<- hHc,hcell,hcell1,hbox1,lb,loadC,eT,n1,m1,bindH_opt,hw,-hset_d,-halloc_d,-Int.natCast_add]
          exact ⟨t.nodes.length - (i + 1),by omega,i + 1,rfl,by omega,ct',(by simp only at hs1; omega),cy',(by simp only at hs2; omega),hns,m4,rfl⟩
    ·have hlt' : ¬ (i : Int) < t.nodes.length := by omega
     rw [List.drop_of_length_le (by omega)] at hns
     simp only [nodesS] at hns
     subst hns
     rw [hoo] at hL
     have hpos : 0 < t.nodes.length := by cases ht : t.nodes with | nil => exact absurd ht c1 | cons => simp
     simp [L_tree_Check_1,r1',r3,r4,r37,r38,r39,hlt']
     exact check_k1 h ys1 ys2 ys3 ok2 zs1 zs2 zs3 ok3 (by simp [r1']) (by simp [r3,hct]) (by simp [r4]) hcy hL (by omega) (by omega) hb.2.1 hb.2.2 rfl
  ·have c3' : (65536 : Int) < t.types.length := by omega
   have c3n : 65536 < t.types.length := by omega
   simp [C_tree_Check,pa,pb,pc,la,lb,c1,c2,c2',c3,c3',c3n,settle,keeps]
 ·have c2' : (65536 : Int) < t.nodes.length := by omega
  have c2n : 65536 < t.nodes.length := by omega
  simp [C_tree_Check,pa,pb,pc,la,lb,c1,c2,c2',c2n,settle,keeps]
end
end Go.Proofs.Eng
namespace Go.Proofs.Eng
open Go
def le60 (s : List UInt8) : Bool := decide (s.length <= 60)
def fewN (n : Nd) : Bool := (decide (n.names.length <= 20) && decide (n.kids.length <= 20) && decide (n.types.length <= 20) && decide (n.name.length <= 60)) && n.names.all le60
def fewT (n : Ty) : Bool := (decide (n.names.length <= 20) && decide (n.kids.length <= 20) && decide (n.name.length <= 60)) && n.names.all le60
def fewA (n : Al) : Bool := decide (n.name.length <= 60)
def fewE (t : Tr) : Bool := decide (t.nodes.length <= 60) && decide (t.types.length <= 60) && decide (t.als.length <= 10)
def fewB (t : Tr) : Bool := t.nodes.all fewN && (t.types.all fewT && (t.als.all fewA && fewE t))
theorem drop_all {α : Type} {p : α -> Bool} {l : List α} {i : Nat} (h : i < l.length) : (l.drop i).all p = (p l[i] && (l.drop (i + 1)).all p) := by
 rw [List.drop_eq_getElem_cons h,List.all_cons]
section
variable {Γ : Sums} {A : Tab} {N : Nat -> Nat}
theorem few_end {H H' : Hp} {a b c : AV} {t : Tr} {ρ : Rho} (la : asLen a = some t.nodes.length) (lb : asLen b = some t.types.length) (lc : asLen c = some t.als.length) (hl : t.nodes.length < 2 ^ 63 /\ t.types.length < 2 ^ 63 /\ t.als.length < 2 ^ 63) (r1 : ρ 1 = .ptr H.l.length 0) (hL : Loc H H' [(H.l.length,.cells [a,b,c] (t_api_Tree N))]) :
  wp (lim Γ A) none (K_law04_Few_5 N) ρ H' (Ends [.inl 2] false H fun p => p = (avBool (fewE t),none)) := by
 have hbox := hL.head
 have f1 := fun b => settle_keeps (v := avBool b) hL.keeps (by simp [AV.under])
 unfold fewE
 by_cases c1 : t.nodes.length <= 60
 ·have c1' : (t.nodes.length : Int) <= 60 := by omega
  by_cases c2 : t.types.length <= 60
  ·have c2' : (t.types.length : Int) <= 60 := by omega
   by_cases c3 : t.als.length <= 10
   ·have c3' : (t.als.length : Int) <= 10 := by omega
    simp [K_law04_Few_5,r1,hbox,la,lb,lc,c1,c1',c2,c2',c3,c3']
    exact f1 true
   ·have c3' : ¬ (t.als.length : Int) <= 10 := by omega
    simp [K_law04_Few_5,r1,hbox,la,lb,lc,c1,c1',c2,c2',c3,c3']
    exact f1 false
  ·have c2' : ¬ (t.types.length : Int) <= 60 := by omega
   simp [K_law04_Few_5,r1,hbox,la,lb,lc,c1,c1',c2,c2']
   exact f1 false
 ·have c1' : ¬ (t.nodes.length : Int) <= 60 := by omega
  simp [K_law04_Few_5,r1,hbox,la,lb,lc,c1,c1']
  exact f1 false
theorem few_als {H H' : Hp} {a b c : AV} {t : Tr} {ρ : Rho} (la : asLen a = some t.nodes.length) (lb : asLen b = some t.types.length) {zs : List AV} (zs1 : Vw H 3 c zs) (zs2 : zs.length = t.als.length) (zs3 : ∀ (i : Nat) (y : AV) (n : Al),zs[i]? = some y -> t.als[i]? = some n -> AlR H y n) (hl : t.nodes.length < 2 ^ 63 /\ t.types.length < 2 ^ 63 /\ t.als.length < 2 ^ 63) (r1 : ρ 1 = .ptr H.l.length 0) (hL : Loc H H' [(H.l.length,.cells [a,b,c] (t_api_Tree N))]) :
  wp (lim Γ A) none (K_law04_Few_4 N) ρ H' (Ends [.inl 2] false H fun p => p = (avBool (t.als.all fewA && fewE t),none)) := by
 have lc : asLen c = some t.als.length := by rw [zs1.len,zs2]
 have hbox := hL.head
 generalize hE : (t.als.all fewA && fewE t) = E
 simp [K_law04_Few_4,r1,hbox,lc]
 refine wp_round (n := t.als.length) (fun q ρ H' => ∃ i : Nat,ρ 1 = .ptr H.l.length 0 /\ ρ 90 = c /\ ρ 91 = avInt .i64 (t.als.length : Nat) /\ ρ 92 = avInt .i64 (i : Nat) /\ i <= t.als.length /\ ((t.als.drop i).all fewA && fewE t) = E /\ Loc H H' [(H.l.length,.cells [a,b,c] (t_api_Tree N))] /\ q = t.als.length - i) ?_ ?_
 ·exact ⟨0,r1,rfl,rfl,rfl,by omega,hE,hL,rfl⟩
 ·rintro q ρ H' ⟨i,r1,r90,r91,r92,hi,hE,hL,rfl⟩
  by_cases hlt : i < t.als.length
  ·have hlt' : (i : Int) < t.als.length := by omega
   have hw : IntKind.wrap .i64 ((i : Int) + 1) = ((i + 1 : Nat) : Int) := by rw [wrap64 (by omega) (by omega)]; omega
   have hxi : zs[i]? = some zs[i] := List.getElem?_eq_getElem (by omega)
   have ey := zs3 i _ _ hxi (List.getElem?_eq_getElem hlt)
   unfold AlR alV at ey
   rw [ey] at hxi
   rw [drop_all hlt] at hE
   generalize t.als[i] = n at *
   obtain ⟨p,p1,p2⟩ := (zs1.loc hL).ats (k := .i64) hxi (by rfl) (by simp)
   have hLc := ((hL.alloc (.cells [.lit (.string (mkS [])),.lit (.int .i64 0),.lit (.int .i64 0)] (t_api_Alias N))).set (.cells [avStr n.name,avInt .i64 n.type,avInt .i64 n.pos] (t_api_Alias N))).sub (List.sublist_cons_self _ _)
   have f1 := settle_keeps (v := avBool false) hLc.keeps (by simp [AV.under])
   by_cases c1 : 60 < n.name.length
   ·have c1' : (60 : Int) < n.name.length := by omega
    have hf : fewA n = false := decide_eq_false (by omega)
    have hE2 : E = false := by rw [<- hE,hf,Bool.false_and,Bool.false_and]
    subst hE2
    simp [L_law04_Few_5,r1,r90,r91,r92,hlt',p1,p2,setFrom,c1,c1',-hset_d,-halloc_d]
    exact f1
   ·have c1' : ¬ (60 : Int) < n.name.length := by omega
    have hf : fewA n = true := decide_eq_true (by omega)
    have hE2 : ((t.als.drop (i + 1)).all fewA && fewE t) = E := by rw [<- hE,hf,Bool.true_and]
    simp [L_law04_Few_5,r1,r90,r91,r92,hlt',p1,p2,setFrom,c1,c1',hw,-hset_d,-halloc_d,-Int.natCast_add]
    exact ⟨t.als.length - (i + 1),by omega,i + 1,rfl,by omega,hE2,hLc,rfl⟩
  ·have hlt' : ¬ (i : Int) < t.als.length := by omega
   rw [List.drop_of_length_le (by omega)] at hE
   simp only [List.all_nil,Bool.true_and] at hE
   subst hE
   simp [L_law04_Few_5,r1,r90,r91,r92,hlt']
   exact few_end la lb lc hl (by simp [r1]) hL

theorem few_types {H H' : Hp} {a b c : AV} {t : Tr} {ρ : Rho} (la : asLen a = some t.nodes.length) {xs : List AV} (xs1 : Vw H 6 b xs) (xs2 : xs.length = t.types.length) (xs3 : ∀ (i : Nat) (y : AV) (n : Ty),xs[i]? = some y -> t.types[i]? = some n -> TyR H y n) {zs : List AV} (zs1 : Vw H 3 c zs) (zs2 : zs.length = t.als.length) (zs3 : ∀ (i : Nat) (y : AV) (n : Al),zs[i]? = some y -> t.als[i]? = some n -> AlR H y n) (hl : t.nodes.length < 2 ^ 63 /\ t.types.length < 2 ^ 63 /\ t.als.length < 2 ^ 63) (hok : ∀ n ∈ t.types,n.names.length < 2 ^ 63) (r1 : ρ 1 = .ptr H.l.length 0) (hL : Loc H H' [(H.l.length,.cells [a,b,c] (t_api_Tree N))]) {E : Bool} (hE : (t.types.all fewT && (t.als.all fewA && fewE t)) = E)
  (rr : ρ 55 = b) (rl : ρ 56 = avInt .i64 (t.types.length : Nat)) (ri : ρ 57 = avInt .i64 (0 : Nat)) :
  wp (lim Γ A) none (.block 4 (.loop (L_law04_Few_3 N))) ρ H' (seqP (lim Γ A) none (K_law04_Few_4 N) (Ends [.inl 2] false H fun p => p = (avBool E,none))) := by
 simp only [wp_block]
 refine wp_round (n := t.types.length) (fun q ρ H' => ∃ i : Nat,ρ 1 = .ptr H.l.length 0 /\ ρ 55 = b /\ ρ 56 = avInt .i64 (t.types.length : Nat) /\ ρ 57 = avInt .i64 (i : Nat) /\ i <= t.types.length /\ ((t.types.drop i).all fewT && (t.als.all fewA && fewE t)) = E /\ Loc H H' [(H.l.length,.cells [a,b,c] (t_api_Tree N))] /\ q = t.types.length - i) ?_ ?_
 ·exact ⟨0,r1,rr,rl,ri,by omega,hE,hL,rfl⟩
 ·rintro q ρ H' ⟨i,r1,rr,rl,ri,hi,hE,hL,rfl⟩
  by_cases hlt : i < t.types.length
  ·have hlt' : (i : Int) < t.types.length := by omega
   have hw : IntKind.wrap .i64 ((i : Int) + 1) = ((i + 1 : Nat) : Int) := by rw [wrap64 (by omega) (by omega)]; omega
   have hxi : xs[i]? = some xs[i] := List.getElem?_eq_getElem (by omega)
   obtain ⟨sa,sb,ey,vsa,vsb⟩ := xs3 i _ _ hxi (List.getElem?_eq_getElem hlt)
   have okn := hok _ (List.getElem_mem hlt)
   rw [ey] at hxi
   rw [drop_all hlt] at hE
   generalize t.types[i] = n at *
   obtain ⟨p,p1,p2⟩ := (xs1.loc hL).ats (k := .i64) hxi (by rfl) (by simp [vsa.one,vsb.one])
   have hLc := (hL.alloc (.cells [.lit (.int .i64 0),.lit (.int .i64 0),.lit (.string (mkS [])),.lit (.slice none 0 0),.lit (.slice none 0 0),.lit (.bool false)] (t_api_TypeNode N))).set (.cells [avInt .i64 n.kind,avInt .i64 n.pos,avStr n.name,sa,sb,avBool n.opn] (t_api_TypeNode N))
   have hLd := hLc.sub (List.sublist_cons_self _ _)
   have f1 := settle_keeps (v := avBool false) hLd.keeps (by simp [AV.under])
   by_cases d0 : 20 < n.names.length
   ·have d0' : (20 : Int) < n.names.length := by omega
    have hf : fewT n = false := by unfold fewT; simp; omega
    have hE2 : E = false := by rw [<- hE,hf,Bool.false_and,Bool.false_and]
    subst hE2
    simp [L_law04_Few_3,r1,rr,rl,ri,hlt',p1,p2,vsa.one,vsb.one,VS.len vsa,VI.len vsb,setFrom,loadC,d0,d0',-hset_d,-halloc_d]
    exact f1
   have d0' : ¬ (20 : Int) < n.names.length := by omega
   by_cases d1 : 20 < n.kids.length
   ·have d1' : (20 : Int) < n.kids.length := by omega
    have hf : fewT n = false := by unfold fewT; simp; omega
    have hE2 : E = false := by rw [<- hE,hf,Bool.false_and,Bool.false_and]
    subst hE2
    simp [L_law04_Few_3,r1,rr,rl,ri,hlt',p1,p2,vsa.one,vsb.one,VS.len vsa,VI.len vsb,setFrom,loadC,d0,d0',d1,d1',-hset_d,-halloc_d]
    exact f1
   have d1' : ¬ (20 : Int) < n.kids.length := by omega
   by_cases d2 : 60 < n.name.length
   ·have d2' : (60 : Int) < n.name.length := by omega
    have hf : fewT n = false := by unfold fewT; simp; omega
    have hE2 : E = false := by rw [<- hE,hf,Bool.false_and,Bool.false_and]
    subst hE2
    simp [L_law04_Few_3,r1,rr,rl,ri,hlt',p1,p2,vsa.one,vsb.one,VS.len vsa,VI.len vsb,setFrom,loadC,d0,d0',d1,d1',d2,d2',-hset_d,-halloc_d]
    exact f1
   have d2' : ¬ (60 : Int) < n.name.length := by omega
   have hf : fewT n = n.names.all le60 := by
    have : (decide (n.names.length <= 20) && decide (n.kids.length <= 20) && decide (n.name.length <= 60)) = true := by simp; omega
    unfold fewT; rw [this,Bool.true_and]
   rw [hf] at hE
   simp [L_law04_Few_3,r1,rr,rl,ri,hlt',p1,p2,vsa.one,vsb.one,VS.len vsa,VI.len vsb,setFrom,loadC,d0,d0',d1,d1',d2,d2',-hset_d,-halloc_d]
   generalize hHc : hset (halloc H' _) H'.l.length _ = Hc
   rw [hHc] at hLc
   refine wp_round (n := n.names.length) (fun q ρ G => ∃ j : Nat,ρ 1 = .ptr H.l.length 0 /\ ρ 55 = b /\ ρ 56 = avInt .i64 (t.types.length : Nat) /\ ρ 57 = avInt .i64 (i : Nat) /\ ρ 78 = sa /\ ρ 79 = avInt .i64 (n.names.length : Nat) /\ ρ 80 = avInt .i64 (j : Nat) /\ j <= n.names.length /\ G = Hc /\ ((n.names.drop j).all le60 && (t.types.drop (i + 1)).all fewT && (t.als.all fewA && fewE t)) = E /\ q = n.names.length - j) ?_ ?_
   ·exact ⟨0,r1,rr,rl,ri,rfl,rfl,rfl,by omega,rfl,hE,rfl⟩
   ·rintro q ρ G ⟨j,r1,rr,rl,ri,s1,s2,s3,hj,rfl,hE,rfl⟩
    by_cases hjl : j < n.names.length
    ·have hjl' : (j : Int) < n.names.length := by omega
     have hwj : IntKind.wrap .i64 ((j : Int) + 1) = ((j + 1 : Nat) : Int) := by have := okn; rw [wrap64 (by omega) (by omega)]; omega
     obtain ⟨pq,q1,q2⟩ := (vsa.loc hLc).at' (k := .i64) (i := (j : Int)) (e := avStr n.names[j]) (by omega) (by simp [List.getElem?_eq_getElem hjl]) rfl rfl rfl
     rw [drop_all hjl] at hE
     generalize n.names[j] = nm at *
     by_cases e1 : 60 < nm.length
     ·have e1' : (60 : Int) < nm.length := by omega
      have hf2 : le60 nm = false := decide_eq_false (by omega)
      have hE2 : E = false := by rw [<- hE,hf2,Bool.false_and,Bool.false_and,Bool.false_and]
      subst hE2
      have f2 := settle_keeps (v := avBool false) hLc.keeps (by simp [AV.under])
      simp [L_law04_Few_4,r1,rr,rl,ri,s1,s2,s3,hjl',q1,q2,e1,e1']
      exact f2
     ·have e1' : ¬ (60 : Int) < nm.length := by omega
      have hf2 : le60 nm = true := decide_eq_true (by omega)
      rw [hf2,Bool.true_and] at hE
      simp [L_law04_Few_4,r1,rr,rl,ri,s1,s2,s3,hjl',q1,q2,e1,e1',hwj,-Int.natCast_add]
      exact ⟨n.names.length - (j + 1),by omega,j + 1,rfl,by omega,hE,rfl⟩
    ·have hjl' : ¬ (j : Int) < n.names.length := by omega
     rw [List.drop_of_length_le (by omega)] at hE
     simp only [List.all_nil,Bool.true_and] at hE
     have hLe := hLc.sub (List.sublist_cons_self _ _)
     simp [L_law04_Few_4,K_law04_Few_3,r1,rr,rl,ri,s1,s2,s3,hjl',hw,-Int.natCast_add]
     exact ⟨t.types.length - (i + 1),by omega,i + 1,rfl,by omega,hE,hLe,rfl⟩
  ·have hlt' : ¬ (i : Int) < t.types.length := by omega
   rw [List.drop_of_length_le (by omega)] at hE
   simp only [List.all_nil,Bool.true_and] at hE
   subst hE
   simp [L_law04_Few_3,r1,rr,rl,ri,hlt']
   exact few_als la (by rw [xs1.len,xs2]) zs1 zs2 zs3 hl (by simp [r1]) hL

theorem few_nodes {H H' : Hp} {a b c : AV} {t : Tr} {ρ : Rho} {xs : List AV} (xs1 : Vw H 8 a xs) (xs2 : xs.length = t.nodes.length) (xs3 : ∀ (i : Nat) (y : AV) (n : Nd),xs[i]? = some y -> t.nodes[i]? = some n -> NdR H y n) {ys : List AV} (ys1 : Vw H 6 b ys) (ys2 : ys.length = t.types.length) (ys3 : ∀ (i : Nat) (y : AV) (n : Ty),ys[i]? = some y -> t.types[i]? = some n -> TyR H y n) {zs : List AV} (zs1 : Vw H 3 c zs) (zs2 : zs.length = t.als.length) (zs3 : ∀ (i : Nat) (y : AV) (n : Al),zs[i]? = some y -> t.als[i]? = some n -> AlR H y n) (hokT : ∀ n ∈ t.types,n.names.length < 2 ^ 63) (hl : t.nodes.length < 2 ^ 63 /\ t.types.length < 2 ^ 63 /\ t.als.length < 2 ^ 63) (hok : ∀ n ∈ t.nodes,n.names.length < 2 ^ 63) (r1 : ρ 1 = .ptr H.l.length 0) (hL : Loc H H' [(H.l.length,.cells [a,b,c] (t_api_Tree N))]) {E : Bool} (hE : (t.nodes.all fewN && (t.types.all fewT && (t.als.all fewA && fewE t))) = E)
  (rr : ρ 14 = a) (rl : ρ 15 = avInt .i64 (t.nodes.length : Nat)) (ri : ρ 16 = avInt .i64 (0 : Nat)) :
  wp (lim Γ A) none (.block 0 (.loop (L_law04_Few_1 N))) ρ H' (seqP (lim Γ A) none (K_law04_Few_2 N) (Ends [.inl 2] false H fun p => p = (avBool E,none))) := by
 simp only [wp_block]
 refine wp_round (n := t.nodes.length) (fun q ρ H' => ∃ i : Nat,ρ 1 = .ptr H.l.length 0 /\ ρ 14 = a /\ ρ 15 = avInt .i64 (t.nodes.length : Nat) /\ ρ 16 = avInt .i64 (i : Nat) /\ i <= t.nodes.length /\ ((t.nodes.drop i).all fewN && (t.types.all fewT && (t.als.all fewA && fewE t))) = E /\ Loc H H' [(H.l.length,.cells [a,b,c] (t_api_Tree N))] /\ q = t.nodes.length - i) ?_ ?_
 ·exact ⟨0,r1,rr,rl,ri,by omega,hE,hL,rfl⟩
 ·rintro q ρ H' ⟨i,r1,rr,rl,ri,hi,hE,hL,rfl⟩
  by_cases hlt : i < t.nodes.length
  ·have hlt' : (i : Int) < t.nodes.length := by omega
   have hw : IntKind.wrap .i64 ((i : Int) + 1) = ((i + 1 : Nat) : Int) := by rw [wrap64 (by omega) (by omega)]; omega
   have hxi : xs[i]? = some xs[i] := List.getElem?_eq_getElem (by omega)
   obtain ⟨sa,sb,sc,ey,vsa,vsb,vsc⟩ := xs3 i _ _ hxi (List.getElem?_eq_getElem hlt)
   have okn := hok _ (List.getElem_mem hlt)
   rw [ey] at hxi
   rw [drop_all hlt] at hE
   generalize t.nodes[i] = n at *
   obtain ⟨p,p1,p2⟩ := (xs1.loc hL).ats (k := .i64) hxi (by rfl) (by simp [vsa.one,vsb.one,vsc.one])
   have hLc := (hL.alloc (.cells [.lit (.int .i64 0),.lit (.int .i64 0),.lit (.string (mkS [])),.lit (.int .i64 0),.lit (.int .u64 0),.lit (.slice none 0 0),.lit (.slice none 0 0),.lit (.slice none 0 0)] (t_api_Node N))).set (.cells [avInt .i64 n.kind,avInt .i64 n.pos,avStr n.name,avInt .i64 n.int,avInt .u64 n.bits,sa,sb,sc] (t_api_Node N))
   have hLd := hLc.sub (List.sublist_cons_self _ _)
   have f1 := settle_keeps (v := avBool false) hLd.keeps (by simp [AV.under])
   by_cases d0 : 20 < n.names.length
   ·have d0' : (20 : Int) < n.names.length := by omega
    have hf : fewN n = false := by unfold fewN; simp; omega
    have hE2 : E = false := by rw [<- hE,hf,Bool.false_and,Bool.false_and]
    subst hE2
    simp [L_law04_Few_1,r1,rr,rl,ri,hlt',p1,p2,vsa.one,vsb.one,vsc.one,VS.len vsa,VI.len vsb,VI.len vsc,setFrom,loadC,d0,d0',-hset_d,-halloc_d]
    exact f1
   have d0' : ¬ (20 : Int) < n.names.length := by omega
   by_cases d1 : 20 < n.kids.length
   ·have d1' : (20 : Int) < n.kids.length := by omega
    have hf : fewN n = false := by unfold fewN; simp; omega
    have hE2 : E = false := by rw [<- hE,hf,Bool.false_and,Bool.false_and]
    subst hE2
    simp [L_law04_Few_1,r1,rr,rl,ri,hlt',p1,p2,vsa.one,vsb.one,vsc.one,VS.len vsa,VI.len vsb,VI.len vsc,setFrom,loadC,d0,d0',d1,d1',-hset_d,-halloc_d]
    exact f1
   have d1' : ¬ (20 : Int) < n.kids.length := by omega
   by_cases d2 : 20 < n.types.length
   ·have d2' : (20 : Int) < n.types.length := by omega
    have hf : fewN n = false := by unfold fewN; simp; omega
    have hE2 : E = false := by rw [<- hE,hf,Bool.false_and,Bool.false_and]
    subst hE2
    simp [L_law04_Few_1,r1,rr,rl,ri,hlt',p1,p2,vsa.one,vsb.one,vsc.one,VS.len vsa,VI.len vsb,VI.len vsc,setFrom,loadC,d0,d0',d1,d1',d2,d2',-hset_d,-halloc_d]
    exact f1
   have d2' : ¬ (20 : Int) < n.types.length := by omega
   by_cases d3 : 60 < n.name.length
   ·have d3' : (60 : Int) < n.name.length := by omega
    have hf : fewN n = false := by unfold fewN; simp; omega
    have hE2 : E = false := by rw [<- hE,hf,Bool.false_and,Bool.false_and]
    subst hE2
    simp [L_law04_Few_1,r1,rr,rl,ri,hlt',p1,p2,vsa.one,vsb.one,vsc.one,VS.len vsa,VI.len vsb,VI.len vsc,setFrom,loadC,d0,d0',d1,d1',d2,d2',d3,d3',-hset_d,-halloc_d]
    exact f1
   have d3' : ¬ (60 : Int) < n.name.length := by omega
   have hf : fewN n = n.names.all le60 := by
    have : (decide (n.names.length <= 20) && decide (n.kids.length <= 20) && decide (n.types.length <= 20) && decide (n.name.length <= 60)) = true := by simp; omega
    unfold fewN; rw [this,Bool.true_and]
   rw [hf] at hE
   simp [L_law04_Few_1,r1,rr,rl,ri,hlt',p1,p2,vsa.one,vsb.one,vsc.one,VS.len vsa,VI.len vsb,VI.len vsc,setFrom,loadC,d0,d0',d1,d1',d2,d2',d3,d3',-hset_d,-halloc_d]
   generalize hHc : hset (halloc H' _) H'.l.length _ = Hc
   rw [hHc] at hLc
   refine wp_round (n := n.names.length) (fun q ρ G => ∃ j : Nat,ρ 1 = .ptr H.l.length 0 /\ ρ 14 = a /\ ρ 15 = avInt .i64 (t.nodes.length : Nat) /\ ρ 16 = avInt .i64 (i : Nat) /\ ρ 43 = sa /\ ρ 44 = avInt .i64 (n.names.length : Nat) /\ ρ 45 = avInt .i64 (j : Nat) /\ j <= n.names.length /\ G = Hc /\ ((n.names.drop j).all le60 && (t.nodes.drop (i + 1)).all fewN && (t.types.all fewT && (t.als.all fewA && fewE t))) = E /\ q = n.names.length - j) ?_ ?_
   ·exact ⟨0,r1,rr,rl,ri,rfl,rfl,rfl,by omega,rfl,hE,rfl⟩
   ·rintro q ρ G ⟨j,r1,rr,rl,ri,s1,s2,s3,hj,rfl,hE,rfl⟩
    by_cases hjl : j < n.names.length
    ·have hjl' : (j : Int) < n.names.length := by omega
     have hwj : IntKind.wrap .i64 ((j : Int) + 1) = ((j + 1 : Nat) : Int) := by have := okn; rw [wrap64 (by omega) (by omega)]; omega
     obtain ⟨pq,q1,q2⟩ := (vsa.loc hLc).at' (k := .i64) (i := (j : Int)) (e := avStr n.names[j]) (by omega) (by simp [List.getElem?_eq_getElem hjl]) rfl rfl rfl
     rw [drop_all hjl] at hE
     generalize n.names[j] = nm at *
     by_cases e1 : 60 < nm.length
     ·have e1' : (60 : Int) < nm.length := by omega
      have hf2 : le60 nm = false := decide_eq_false (by omega)
      have hE2 : E = false := by rw [<- hE,hf2,Bool.false_and,Bool.false_and,Bool.false_and]
      subst hE2
      have f2 := settle_keeps (v := avBool false) hLc.keeps (by simp [AV.under])
      simp [L_law04_Few_2,r1,rr,rl,ri,s1,s2,s3,hjl',q1,q2,e1,e1']
      exact f2
     ·have e1' : ¬ (60 : Int) < nm.length := by omega
      have hf2 : le60 nm = true := decide_eq_true (by omega)
      rw [hf2,Bool.true_and] at hE
      simp [L_law04_Few_2,r1,rr,rl,ri,s1,s2,s3,hjl',q1,q2,e1,e1',hwj,-Int.natCast_add]
      exact ⟨n.names.length - (j + 1),by omega,j + 1,rfl,by omega,hE,rfl⟩
    ·have hjl' : ¬ (j : Int) < n.names.length := by omega
     rw [List.drop_of_length_le (by omega)] at hE
     simp only [List.all_nil,Bool.true_and] at hE
     have hLe := hLc.sub (List.sublist_cons_self _ _)
     simp [L_law04_Few_2,K_law04_Few_1,r1,rr,rl,ri,s1,s2,s3,hjl',hw,-Int.natCast_add]
     exact ⟨t.nodes.length - (i + 1),by omega,i + 1,rfl,by omega,hE,hLe,rfl⟩
  ·have hlt' : ¬ (i : Int) < t.nodes.length := by omega
   rw [List.drop_of_length_le (by omega)] at hE
   simp only [List.all_nil,Bool.true_and] at hE
   subst hE
   simp [L_law04_Few_1,r1,rr,rl,ri,hlt']
   have hbox := hL.head
   have lb : asLen b = some t.types.length := by rw [ys1.len,ys2]
   simp [K_law04_Few_2,r1,hbox,lb]
   exact few_types (by rw [xs1.len,xs2]) ys1 ys2 ys3 zs1 zs2 zs3 hl hokT (by simp [r1]) hL rfl (by simp) (by simp) (by simp)

theorem few_call (h : Has Γ A (f_law04_Few N) (C_law04_Few N)) {H : Hp} {x : AV} {t : Tr} (hx : TrR H x t) (ok : (∀ n ∈ t.nodes,n.names.length < 2 ^ 63) /\ ∀ n ∈ t.types,n.names.length < 2 ^ 63) (hl : t.nodes.length < 2 ^ 63 /\ t.types.length < 2 ^ 63 /\ t.als.length < 2 ^ 63) : (lim Γ A).call (f_law04_Few N) [x] H = some (avBool (fewB t),none) := by
 obtain ⟨a,b,c,rfl,⟨xs,xs1,xs2,xs3⟩,⟨ys,ys1,ys2,ys3⟩,zs,zs1,zs2,zs3⟩ := hx
 have la : asLen a = some t.nodes.length := by rw [xs1.len,xs2]
 have hL := (Loc.start H).alloc (.cells [a,b,c] (t_api_Tree N))
 apply h.call (by rfl)
 simp [C_law04_Few,xs1.one,ys1.one,zs1.one,la,-halloc_d]
 exact few_nodes xs1 xs2 xs3 ys1 ys2 ys3 zs1 zs2 zs3 ok.2 hl ok.1 (by simp) hL rfl (by simp) (by simp) (by simp)
end
end Go.Proofs.Eng
namespace Go.Proofs.Eng
open Go
theorem few_ok {t : Tr} (h : fewB t = true) : (t.nodes.length < 65536 /\ t.types.length < 65536 /\ t.als.length < 2 ^ 30) /\ t.ok := by
 unfold fewB fewE at h
 simp only [Bool.and_eq_true,decide_eq_true_eq,List.all_eq_true] at h
 obtain ⟨h1,h2,h3,h4⟩ := h
 refine ⟨by omega,fun n hn => ?_,fun n hn => ?_,fun n hn => ?_⟩
 ·have := h1 n hn
  unfold fewN at this
  simp only [Bool.and_eq_true,decide_eq_true_eq,List.all_eq_true,le60] at this
  obtain ⟨⟨⟨⟨e1,e2⟩,e3⟩,e4⟩,e5⟩ := this
  exact ⟨by omega,fun s hs => by have := e5 s hs; omega,by omega,by omega,by omega⟩
 ·have := h2 n hn
  unfold fewT at this
  simp only [Bool.and_eq_true,decide_eq_true_eq,List.all_eq_true,le60] at this
  obtain ⟨⟨⟨e1,e2⟩,e4⟩,e5⟩ := this
  exact ⟨by omega,fun s hs => by have := e5 s hs; omega,by omega,by omega⟩
 ·have := h3 n hn
  unfold fewA at this
  simp only [decide_eq_true_eq] at this
  show n.name.length < 2 ^ 30
  omega
end Go.Proofs.Eng
namespace Go.Proofs.Eng
open Go

def C_p_tree_Builder_Term (N : Nat -> Nat) : AFunc := ⟨37,[.inl 4,.inl 5],
 .seq (
 .ops [⟨some 3,.box (t_api_Node N) (.t 1),none⟩,⟨some 4,.mov (.c (.lit (.int .i64 0))),none⟩,⟨some 5,.mov (.c (.lit (.int .i64 0))),none⟩]) (
 .seq (
 .block 0 (
 .seq (
 .ops [⟨some 7,.mov (.t 0),none⟩,⟨some 8,.eq false .pptr (.t 7) (.c (.lit (.pointer none))),none⟩,⟨some 6,.mov (.t 8),none⟩]) (
 .cond (.t 6) (
 .seq (
 .ops [⟨some 4,.mov (.c (.lit (.int .i64 0))),none⟩,⟨some 5,.mov (.c (.lit (.int .i64 1))),none⟩]) (
 .ret)) (
 .seq (
 .ops [⟨some 10,.mov (.t 0),none⟩,⟨some 11,.nilchk (.t 10),none⟩,⟨some 12,.faddr 0 (.t 11),none⟩,⟨some 13,.faddr 0 (.t 12),none⟩,⟨some 14,.load none (.t 13),none⟩,⟨some 15,.len (.t 14),none⟩,⟨some 16,.bin .geq (.t 15) (.c (.lit (.int .i64 65536))),none⟩,⟨some 9,.mov (.t 16),none⟩]) (
 .cond (.t 9) (
 .seq (
 .ops [⟨some 4,.mov (.c (.lit (.int .i64 0))),none⟩,⟨some 5,.mov (.c (.lit (.int .i64 6))),none⟩]) (
 .ret)) (
 .skip)))))) (
 .seq (
 .dops 5 [⟨some 17,.mov (.t 0),none⟩,⟨some 18,.mov (.t 0),none⟩,⟨some 19,.nilchk (.t 18),none⟩,⟨some 20,.faddr 0 (.t 19),none⟩,⟨some 21,.faddr 0 (.t 20),none⟩,⟨some 22,.load none (.t 21),none⟩,⟨some 23,.load (some 8) (.t 3),none⟩,⟨some 24,.call (.c (.fn (f_tree_cloneTerm N) [] [])) [(.t 23)],none⟩,⟨some 25,.bslice (t_api_Node N) 8 (some 8) 1 [(.lit (.int .i64 0)),(.lit (.int .i64 0)),(.lit (.string (mkS []))),(.lit (.int .i64 0)),(.lit (.int .u64 0)),(.lit (.slice none 0 0)),(.lit (.slice none 0 0)),(.lit (.slice none 0 0))] [(0,8,(.t 24))],none⟩,⟨some 26,.append (t_api_Node N) 8 120 (.t 22) (.t 25),none⟩,⟨some 27,.nilchk (.t 17),none⟩,⟨some 28,.faddr 0 (.t 27),none⟩,⟨some 29,.faddr 0 (.t 28),none⟩,⟨none,.store 1 (.t 29) (.t 26),none⟩] [0,0,0,0,0,2,2,1,1,0,0,0,0,0] []) (
 .seq (
 .ops [⟨some 30,.mov (.t 0),none⟩,⟨some 31,.nilchk (.t 30),none⟩,⟨some 32,.faddr 0 (.t 31),none⟩,⟨some 33,.faddr 0 (.t 32),none⟩,⟨some 34,.load none (.t 33),none⟩,⟨some 35,.len (.t 34),none⟩,⟨some 36,.bin .sub (.t 35) (.c (.lit (.int .i64 1))),none⟩,⟨some 4,.mov (.t 36),none⟩,⟨some 5,.mov (.c (.lit (.int .i64 0))),none⟩]) (
 .ret)))),false⟩

def C_p_tree_Builder_Tree (N : Nat -> Nat) : AFunc := ⟨11,[.inr (2,(some 3))],
 .seq (
 .ops [⟨some 2,.new (t_api_Tree N) (.agg [(.lit (.slice none 0 0)),(.lit (.slice none 0 0)),(.lit (.slice none 0 0))]),none⟩]) (
 .seq (
 .seq (
 .ops [⟨some 3,.mov (.t 0),none⟩,⟨some 4,.eq false .pptr (.t 3) (.c (.lit (.pointer none))),none⟩]) (
 .cond (.t 4) (
 .seq (
 .ops [⟨some 5,.build [(.lit (.slice none 0 0)),(.lit (.slice none 0 0)),(.lit (.slice none 0 0))] [],none⟩,⟨none,.store 3 (.t 2) (.t 5),none⟩]) (
 .ret)) (
 .skip))) (
 .seq (
 .ops [⟨some 6,.mov (.t 0),none⟩,⟨some 7,.nilchk (.t 6),none⟩,⟨some 8,.faddr 0 (.t 7),none⟩,⟨some 9,.load (some 3) (.t 8),none⟩,⟨some 10,.call (.c (.fn (f_tree_Clone N) [] [])) [(.t 9)],none⟩,⟨none,.store 3 (.t 2) (.t 10),none⟩]) (
 .ret))),false⟩

def L_tree_Clone_1 (N : Nat -> Nat) : AC :=
 .seq (
 .ops [⟨some 16,.bin .lss (.t 15) (.t 14),none⟩]) (
 .seq (
 .cond (.t 16) (
 .skip) (
 .exit 0)) (
 .seq (
 .block 1 (
 .seq (
 .ops [⟨some 17,.iaddr 8 (.t 13) (.t 15),none⟩,⟨some 18,.load (some 8) (.t 17),none⟩,⟨some 5,.new (t_api_Node N) (.agg [(.lit (.int .i64 0)),(.lit (.int .i64 0)),(.lit (.string (mkS []))),(.lit (.int .i64 0)),(.lit (.int .u64 0)),(.lit (.slice none 0 0)),(.lit (.slice none 0 0)),(.lit (.slice none 0 0))]),none⟩,⟨none,.store 8 (.t 5) (.t 18),none⟩]) (
 .dops 5 [⟨some 19,.faddr 0 (.t 3),none⟩,⟨some 20,.load none (.t 19),none⟩,⟨some 21,.load (some 8) (.t 5),none⟩,⟨some 22,.call (.c (.fn (f_tree_cloneTerm N) [] [])) [(.t 21)],none⟩,⟨some 23,.bslice (t_api_Node N) 8 (some 8) 1 [(.lit (.int .i64 0)),(.lit (.int .i64 0)),(.lit (.string (mkS []))),(.lit (.int .i64 0)),(.lit (.int .u64 0)),(.lit (.slice none 0 0)),(.lit (.slice none 0 0)),(.lit (.slice none 0 0))] [(0,8,(.t 22))],none⟩,⟨some 24,.append (t_api_Node N) 8 120 (.t 20) (.t 23),none⟩,⟨some 25,.faddr 0 (.t 3),none⟩,⟨none,.store 1 (.t 25) (.t 24),none⟩] [0,2,2,1,1,0,0,0] []))) (
 .ops [⟨some 26,.bin .add (.t 15) (.c (.lit (.int .i64 1))),none⟩,⟨some 15,.mov (.t 26),none⟩])))
def L_tree_Clone_2 (N : Nat -> Nat) : AC :=
 .seq (
 .ops [⟨some 31,.bin .lss (.t 30) (.t 29),none⟩]) (
 .seq (
 .cond (.t 31) (
 .skip) (
 .exit 2)) (
 .seq (
 .block 3 (
 .seq (
 .ops [⟨some 32,.iaddr 6 (.t 28) (.t 30),none⟩,⟨some 33,.load (some 6) (.t 32),none⟩,⟨some 7,.new (t_api_TypeNode N) (.agg [(.lit (.int .i64 0)),(.lit (.int .i64 0)),(.lit (.string (mkS []))),(.lit (.slice none 0 0)),(.lit (.slice none 0 0)),(.lit (.bool false))]),none⟩,⟨none,.store 6 (.t 7) (.t 33),none⟩]) (
 .dops 10 [⟨some 34,.faddr 1 (.t 3),none⟩,⟨some 35,.load none (.t 34),none⟩,⟨some 36,.load (some 6) (.t 7),none⟩,⟨some 37,.call (.c (.fn (f_tree_cloneType N) [] [])) [(.t 36)],none⟩,⟨some 38,.bslice (t_api_TypeNode N) 6 (some 6) 1 [(.lit (.int .i64 0)),(.lit (.int .i64 0)),(.lit (.string (mkS []))),(.lit (.slice none 0 0)),(.lit (.slice none 0 0)),(.lit (.bool false))] [(0,6,(.t 37))],none⟩,⟨some 39,.append (t_api_TypeNode N) 6 88 (.t 35) (.t 38),none⟩,⟨some 40,.faddr 1 (.t 3),none⟩,⟨none,.store 1 (.t 40) (.t 39),none⟩] [0,2,2,1,1,0,0,0] []))) (
 .ops [⟨some 41,.bin .add (.t 30) (.c (.lit (.int .i64 1))),none⟩,⟨some 30,.mov (.t 41),none⟩])))
def K_tree_Clone_2 (N : Nat -> Nat) : AC :=
 .seq (
 .ops [⟨some 42,.load (some 3) (.t 3),none⟩,⟨none,.store 3 (.t 2) (.t 42),none⟩]) (
 .ret)
def K_tree_Clone_1 (N : Nat -> Nat) : AC :=
 .seq (
 .seq (
 .ops [⟨some 27,.faddr 1 (.t 1),none⟩,⟨some 28,.load none (.t 27),none⟩,⟨some 29,.len (.t 28),none⟩,⟨some 30,.mov (.c (.lit (.int .i64 0))),none⟩]) (
 .block 2 (
 .loop (L_tree_Clone_2 N)))) (K_tree_Clone_2 N)
def C_tree_Clone (N : Nat -> Nat) : AFunc := ⟨43,[.inr (2,(some 3))],
 .seq (
 .ops [⟨some 1,.box (t_api_Tree N) (.t 0),none⟩,⟨some 2,.new (t_api_Tree N) (.agg [(.lit (.slice none 0 0)),(.lit (.slice none 0 0)),(.lit (.slice none 0 0))]),none⟩]) (
 .seq (
 .ops [⟨some 8,.faddr 2 (.t 1),none⟩,⟨some 9,.load none (.t 8),none⟩,⟨some 10,.call (.c (.fn (f_slices_Clone_sl_api_Alias_api_Alias N) [] [])) [(.t 9)],none⟩,⟨some 11,.build [(.lit (.slice none 0 0)),(.lit (.slice none 0 0)),(.lit (.slice none 0 0))] [(2,1,(.t 10))],none⟩,⟨some 3,.new (t_api_Tree N) (.agg [(.lit (.slice none 0 0)),(.lit (.slice none 0 0)),(.lit (.slice none 0 0))]),none⟩,⟨none,.store 3 (.t 3) (.t 11),none⟩]) (
 .seq (
 .seq (
 .ops [⟨some 12,.faddr 0 (.t 1),none⟩,⟨some 13,.load none (.t 12),none⟩,⟨some 14,.len (.t 13),none⟩,⟨some 15,.mov (.c (.lit (.int .i64 0))),none⟩]) (
 .block 0 (
 .loop (L_tree_Clone_1 N)))) (K_tree_Clone_1 N))),false⟩

def L_tree_Depth_2 (N : Nat -> Nat) : AC :=
 .seq (
 .ops [⟨some 35,.bin .lss (.t 34) (.t 33),none⟩]) (
 .seq (
 .cond (.t 35) (
 .skip) (
 .exit 2)) (
 .seq (
 .block 3 (
 .seq (
 .ops [⟨some 36,.iaddr 1 (.t 32) (.t 34),none⟩,⟨some 37,.load none (.t 36),none⟩,⟨some 8,.mov (.t 37),none⟩]) (
 .dops 10 [⟨some 38,.mov (.t 3),none⟩,⟨some 39,.mov (.t 5),none⟩,⟨some 40,.mov (.t 3),none⟩,⟨some 41,.mov (.t 5),none⟩,⟨some 42,.iaddr 1 (.t 40) (.t 41),none⟩,⟨some 43,.load none (.t 42),none⟩,⟨some 44,.mov (.t 3),none⟩,⟨some 45,.mov (.t 8),none⟩,⟨some 46,.iaddr 1 (.t 44) (.t 45),none⟩,⟨some 47,.load none (.t 46),none⟩,⟨some 48,.mnmx true [(.t 43),(.t 47)],none⟩,⟨some 49,.iaddr 1 (.t 38) (.t 39),none⟩,⟨none,.store 1 (.t 49) (.t 48),none⟩] [0,0,0,0,0,2,0,0,0,2,0,0,0] []))) (
 .ops [⟨some 50,.bin .add (.t 34) (.c (.lit (.int .i64 1))),none⟩,⟨some 34,.mov (.t 50),none⟩])))
def K_tree_Depth_1 (N : Nat -> Nat) : AC :=
 .seq (
 .ops [⟨some 51,.mov (.t 3),none⟩,⟨some 52,.mov (.t 5),none⟩,⟨some 53,.iaddr 1 (.t 51) (.t 52),none⟩,⟨some 54,.load none (.t 53),none⟩,⟨some 55,.bin .add (.t 54) (.c (.lit (.int .i64 1))),none⟩,⟨some 56,.iaddr 1 (.t 51) (.t 52),none⟩,⟨none,.store 1 (.t 56) (.t 55),none⟩]) (
 .ops [⟨some 57,.mov (.t 4),none⟩,⟨some 58,.mov (.t 3),none⟩,⟨some 59,.mov (.t 5),none⟩,⟨some 60,.iaddr 1 (.t 58) (.t 59),none⟩,⟨some 61,.load none (.t 60),none⟩,⟨some 62,.mnmx true [(.t 57),(.t 61)],none⟩,⟨some 4,.mov (.t 62),none⟩])
def K_tree_Depth_2 (N : Nat -> Nat) : AC :=
 .ops [⟨some 63,.bin .add (.t 26) (.c (.lit (.int .i64 1))),none⟩,⟨some 26,.mov (.t 63),none⟩]
def L_tree_Depth_1 (N : Nat -> Nat) : AC :=
 .seq (
 .ops [⟨some 27,.bin .lss (.t 26) (.t 25),none⟩]) (
 .seq (
 .cond (.t 27) (
 .skip) (
 .exit 0)) (
 .seq (
 .block 1 (
 .seq (
 .ops [⟨some 28,.mov (.t 26),none⟩,⟨some 29,.iaddr 6 (.t 24) (.t 26),none⟩,⟨some 30,.load (some 6) (.t 29),none⟩,⟨some 6,.new (t_api_TypeNode N) (.agg [(.lit (.int .i64 0)),(.lit (.int .i64 0)),(.lit (.string (mkS []))),(.lit (.slice none 0 0)),(.lit (.slice none 0 0)),(.lit (.bool false))]),none⟩,⟨some 5,.mov (.t 28),none⟩,⟨none,.store 6 (.t 6) (.t 30),none⟩]) (
 .seq (
 .seq (
 .ops [⟨some 31,.faddr 4 (.t 6),none⟩,⟨some 32,.load none (.t 31),none⟩,⟨some 33,.len (.t 32),none⟩,⟨some 34,.mov (.c (.lit (.int .i64 0))),none⟩]) (
 .block 2 (
 .loop (L_tree_Depth_2 N)))) (K_tree_Depth_1 N)))) (K_tree_Depth_2 N)))
def L_tree_Depth_4 (N : Nat -> Nat) : AC :=
 .seq (
 .ops [⟨some 80,.bin .lss (.t 79) (.t 78),none⟩]) (
 .seq (
 .cond (.t 80) (
 .skip) (
 .exit 6)) (
 .seq (
 .block 7 (
 .seq (
 .ops [⟨some 81,.iaddr 1 (.t 77) (.t 79),none⟩,⟨some 82,.load none (.t 81),none⟩,⟨some 13,.mov (.t 82),none⟩]) (
 .dops 22 [⟨some 83,.mov (.t 9),none⟩,⟨some 84,.mov (.t 10),none⟩,⟨some 85,.mov (.t 9),none⟩,⟨some 86,.mov (.t 10),none⟩,⟨some 87,.iaddr 1 (.t 85) (.t 86),none⟩,⟨some 88,.load none (.t 87),none⟩,⟨some 89,.mov (.t 9),none⟩,⟨some 90,.mov (.t 13),none⟩,⟨some 91,.iaddr 1 (.t 89) (.t 90),none⟩,⟨some 92,.load none (.t 91),none⟩,⟨some 93,.mnmx true [(.t 88),(.t 92)],none⟩,⟨some 94,.iaddr 1 (.t 83) (.t 84),none⟩,⟨none,.store 1 (.t 94) (.t 93),none⟩] [0,0,0,0,0,2,0,0,0,2,0,0,0] []))) (
 .ops [⟨some 95,.bin .add (.t 79) (.c (.lit (.int .i64 1))),none⟩,⟨some 79,.mov (.t 95),none⟩])))
def L_tree_Depth_5 (N : Nat -> Nat) : AC :=
 .seq (
 .ops [⟨some 100,.bin .lss (.t 99) (.t 98),none⟩]) (
 .seq (
 .cond (.t 100) (
 .skip) (
 .exit 8)) (
 .seq (
 .block 9 (
 .seq (
 .ops [⟨some 101,.iaddr 1 (.t 97) (.t 99),none⟩,⟨some 102,.load none (.t 101),none⟩,⟨some 15,.mov (.t 102),none⟩]) (
 .dops 27 [⟨some 103,.mov (.t 9),none⟩,⟨some 104,.mov (.t 10),none⟩,⟨some 105,.mov (.t 9),none⟩,⟨some 106,.mov (.t 10),none⟩,⟨some 107,.iaddr 1 (.t 105) (.t 106),none⟩,⟨some 108,.load none (.t 107),none⟩,⟨some 109,.mov (.t 3),none⟩,⟨some 110,.mov (.t 15),none⟩,⟨some 111,.iaddr 1 (.t 109) (.t 110),none⟩,⟨some 112,.load none (.t 111),none⟩,⟨some 113,.mnmx true [(.t 108),(.t 112)],none⟩,⟨some 114,.iaddr 1 (.t 103) (.t 104),none⟩,⟨none,.store 1 (.t 114) (.t 113),none⟩] [0,0,0,0,0,2,0,0,0,2,0,0,0] []))) (
 .ops [⟨some 115,.bin .add (.t 99) (.c (.lit (.int .i64 1))),none⟩,⟨some 99,.mov (.t 115),none⟩])))
def K_tree_Depth_5 (N : Nat -> Nat) : AC :=
 .seq (
 .ops [⟨some 116,.mov (.t 9),none⟩,⟨some 117,.mov (.t 10),none⟩,⟨some 118,.iaddr 1 (.t 116) (.t 117),none⟩,⟨some 119,.load none (.t 118),none⟩,⟨some 120,.bin .add (.t 119) (.c (.lit (.int .i64 1))),none⟩,⟨some 121,.iaddr 1 (.t 116) (.t 117),none⟩,⟨none,.store 1 (.t 121) (.t 120),none⟩]) (
 .ops [⟨some 122,.mov (.t 4),none⟩,⟨some 123,.mov (.t 9),none⟩,⟨some 124,.mov (.t 10),none⟩,⟨some 125,.iaddr 1 (.t 123) (.t 124),none⟩,⟨some 126,.load none (.t 125),none⟩,⟨some 127,.mnmx true [(.t 122),(.t 126)],none⟩,⟨some 4,.mov (.t 127),none⟩])
def K_tree_Depth_4 (N : Nat -> Nat) : AC :=
 .seq (
 .seq (
 .ops [⟨some 96,.faddr 7 (.t 11),none⟩,⟨some 97,.load none (.t 96),none⟩,⟨some 98,.len (.t 97),none⟩,⟨some 99,.mov (.c (.lit (.int .i64 0))),none⟩]) (
 .block 8 (
 .loop (L_tree_Depth_5 N)))) (K_tree_Depth_5 N)
def K_tree_Depth_6 (N : Nat -> Nat) : AC :=
 .ops [⟨some 128,.bin .add (.t 71) (.c (.lit (.int .i64 1))),none⟩,⟨some 71,.mov (.t 128),none⟩]
def L_tree_Depth_3 (N : Nat -> Nat) : AC :=
 .seq (
 .ops [⟨some 72,.bin .lss (.t 71) (.t 70),none⟩]) (
 .seq (
 .cond (.t 72) (
 .skip) (
 .exit 4)) (
 .seq (
 .block 5 (
 .seq (
 .ops [⟨some 73,.mov (.t 71),none⟩,⟨some 74,.iaddr 8 (.t 69) (.t 71),none⟩,⟨some 75,.load (some 8) (.t 74),none⟩,⟨some 11,.new (t_api_Node N) (.agg [(.lit (.int .i64 0)),(.lit (.int .i64 0)),(.lit (.string (mkS []))),(.lit (.int .i64 0)),(.lit (.int .u64 0)),(.lit (.slice none 0 0)),(.lit (.slice none 0 0)),(.lit (.slice none 0 0))]),none⟩,⟨some 10,.mov (.t 73),none⟩,⟨none,.store 8 (.t 11) (.t 75),none⟩]) (
 .seq (
 .seq (
 .ops [⟨some 76,.faddr 6 (.t 11),none⟩,⟨some 77,.load none (.t 76),none⟩,⟨some 78,.len (.t 77),none⟩,⟨some 79,.mov (.c (.lit (.int .i64 0))),none⟩]) (
 .block 6 (
 .loop (L_tree_Depth_4 N)))) (K_tree_Depth_4 N)))) (K_tree_Depth_6 N)))
def K_tree_Depth_7 (N : Nat -> Nat) : AC :=
 .seq (
 .ops [⟨some 129,.mov (.t 4),none⟩,⟨some 2,.mov (.t 129),none⟩]) (
 .ret)
def K_tree_Depth_3 (N : Nat -> Nat) : AC :=
 .seq (
 .ops [⟨some 64,.faddr 0 (.t 1),none⟩,⟨some 65,.load none (.t 64),none⟩,⟨some 66,.len (.t 65),none⟩,⟨some 67,.mkslice (t_int N) 1 8 (.lit (.int .i64 0)) (.t 66) (.t 66),none⟩,⟨some 9,.mov (.t 67),none⟩]) (
 .seq (
 .seq (
 .ops [⟨some 68,.faddr 0 (.t 1),none⟩,⟨some 69,.load none (.t 68),none⟩,⟨some 70,.len (.t 69),none⟩,⟨some 71,.mov (.c (.lit (.int .i64 0))),none⟩]) (
 .block 4 (
 .loop (L_tree_Depth_3 N)))) (K_tree_Depth_7 N))
def C_tree_Depth (N : Nat -> Nat) : AFunc := ⟨130,[.inl 2],
 .seq (
 .ops [⟨some 1,.box (t_api_Tree N) (.t 0),none⟩,⟨some 2,.mov (.c (.lit (.int .i64 0))),none⟩]) (
 .seq (
 .seq (
 .ops [⟨some 16,.load (some 3) (.t 1),none⟩,⟨some 17,.call (.c (.fn (f_tree_Check N) [] [])) [(.t 16)],none⟩,⟨some 18,.eq true .pint (.t 17) (.c (.lit (.int .i64 0))),none⟩]) (
 .cond (.t 18) (
 .seq (
 .ops [⟨some 2,.mov (.c (.lit (.int .i64 0))),none⟩]) (
 .ret)) (
 .skip))) (
 .seq (
 .ops [⟨some 19,.faddr 1 (.t 1),none⟩,⟨some 20,.load none (.t 19),none⟩,⟨some 21,.len (.t 20),none⟩,⟨some 22,.mkslice (t_int N) 1 8 (.lit (.int .i64 0)) (.t 21) (.t 21),none⟩,⟨some 3,.mov (.t 22),none⟩,⟨some 4,.mov (.c (.lit (.int .i64 0))),none⟩]) (
 .seq (
 .seq (
 .ops [⟨some 23,.faddr 1 (.t 1),none⟩,⟨some 24,.load none (.t 23),none⟩,⟨some 25,.len (.t 24),none⟩,⟨some 26,.mov (.c (.lit (.int .i64 0))),none⟩]) (
 .block 0 (
 .loop (L_tree_Depth_1 N)))) (K_tree_Depth_3 N)))),false⟩

def C_tree_New (N : Nat -> Nat) : AFunc := ⟨3,[.inl 0],
 .seq (
 .ops [⟨some 0,.mov (.c (.lit (.pointer none))),none⟩]) (
 .seq (
 .ops [⟨some 1,.build [(.lit (.slice none 0 0)),(.lit (.slice none 0 0)),(.lit (.slice none 0 0))] [],none⟩,⟨some 2,.box (t_tree_Builder N) (.t 1),none⟩,⟨some 0,.mov (.t 2),none⟩]) (
 .ret)),false⟩

def L_tree_Same_1 (N : Nat -> Nat) : AC :=
 .seq (
 .ops [⟨some 31,.bin .lss (.t 30) (.t 29),none⟩]) (
 .seq (
 .cond (.t 31) (
 .skip) (
 .exit 0)) (
 .seq (
 .block 1 (
 .seq (
 .ops [⟨some 32,.mov (.t 30),none⟩,⟨some 6,.mov (.t 32),none⟩]) (
 .seq (
 .dops 7 [⟨some 33,.faddr 2 (.t 2),none⟩,⟨some 34,.load none (.t 33),none⟩,⟨some 35,.mov (.t 6),none⟩,⟨some 36,.iaddr 3 (.t 34) (.t 35),none⟩,⟨some 37,.faddr 0 (.t 36),none⟩,⟨some 38,.load none (.t 37),none⟩,⟨some 39,.faddr 2 (.t 3),none⟩,⟨some 40,.load none (.t 39),none⟩,⟨some 41,.mov (.t 6),none⟩,⟨some 42,.iaddr 3 (.t 40) (.t 41),none⟩,⟨some 43,.faddr 0 (.t 42),none⟩,⟨some 44,.load none (.t 43),none⟩,⟨some 45,.eq true .pstr (.t 38) (.t 44),none⟩,⟨some 46,.mov (.t 45),none⟩,⟨some 47,.load (some 6) (.t 5),(some (46,false))⟩,⟨some 48,.faddr 2 (.t 2),(some (46,false))⟩,⟨some 49,.load none (.t 48),(some (46,false))⟩,⟨some 50,.mov (.t 6),(some (46,false))⟩,⟨some 51,.iaddr 3 (.t 49) (.t 50),(some (46,false))⟩,⟨some 52,.faddr 1 (.t 51),(some (46,false))⟩,⟨some 53,.load none (.t 52),(some (46,false))⟩,⟨some 54,.faddr 2 (.t 3),(some (46,false))⟩,⟨some 55,.load none (.t 54),(some (46,false))⟩,⟨some 56,.mov (.t 6),(some (46,false))⟩,⟨some 57,.iaddr 3 (.t 55) (.t 56),(some (46,false))⟩,⟨some 58,.faddr 1 (.t 57),(some (46,false))⟩,⟨some 59,.load none (.t 58),(some (46,false))⟩,⟨some 60,.call (.c (.fn (f_tree_two_types N) [] [])) [(.t 47),(.t 53),(.t 59)],(some (46,false))⟩,⟨some 61,.un .not (.t 60),(some (46,false))⟩,⟨some 62,.pick (.t 46) (.c (.lit (.bool true))) (.t 61),none⟩] [0,2,0,0,0,2,0,2,0,0,0,2,0,0,2,0,2,0,0,0,2,0,2,0,0,0,2,0,0,0] []) (
 .cond (.t 62) (
 .seq (
 .ops [⟨some 4,.mov (.c (.lit (.bool false))),none⟩]) (
 .ret)) (
 .skip))))) (
 .ops [⟨some 63,.bin .add (.t 30) (.c (.lit (.int .i64 1))),none⟩,⟨some 30,.mov (.t 63),none⟩])))
def K_tree_Same_1 (N : Nat -> Nat) : AC :=
 .seq (
 .ops [⟨some 64,.load (some 6) (.t 5),none⟩,⟨some 65,.faddr 0 (.t 2),none⟩,⟨some 66,.load none (.t 65),none⟩,⟨some 67,.len (.t 66),none⟩,⟨some 68,.bin .sub (.t 67) (.c (.lit (.int .i64 1))),none⟩,⟨some 69,.faddr 0 (.t 3),none⟩,⟨some 70,.load none (.t 69),none⟩,⟨some 71,.len (.t 70),none⟩,⟨some 72,.bin .sub (.t 71) (.c (.lit (.int .i64 1))),none⟩,⟨some 73,.call (.c (.fn (f_tree_two_terms N) [] [])) [(.t 64),(.t 68),(.t 72)],none⟩,⟨some 4,.mov (.t 73),none⟩]) (
 .ret)
def C_tree_Same (N : Nat -> Nat) : AFunc := ⟨74,[.inl 4],
 .seq (
 .ops [⟨some 2,.box (t_api_Tree N) (.t 0),none⟩,⟨some 3,.box (t_api_Tree N) (.t 1),none⟩,⟨some 4,.mov (.c (.lit (.bool false))),none⟩]) (
 .seq (
 .seq (
 .ops [⟨some 7,.load (some 3) (.t 2),none⟩,⟨some 8,.call (.c (.fn (f_tree_Check N) [] [])) [(.t 7)],none⟩,⟨some 9,.eq true .pint (.t 8) (.c (.lit (.int .i64 0))),none⟩,⟨some 10,.mov (.t 9),none⟩,⟨some 11,.load (some 3) (.t 3),(some (10,false))⟩,⟨some 12,.call (.c (.fn (f_tree_Check N) [] [])) [(.t 11)],(some (10,false))⟩,⟨some 13,.eq true .pint (.t 12) (.c (.lit (.int .i64 0))),(some (10,false))⟩,⟨some 14,.pick (.t 10) (.c (.lit (.bool true))) (.t 13),none⟩,⟨some 15,.mov (.t 14),none⟩,⟨some 16,.faddr 2 (.t 2),(some (15,false))⟩,⟨some 17,.load none (.t 16),(some (15,false))⟩,⟨some 18,.len (.t 17),(some (15,false))⟩,⟨some 19,.faddr 2 (.t 3),(some (15,false))⟩,⟨some 20,.load none (.t 19),(some (15,false))⟩,⟨some 21,.len (.t 20),(some (15,false))⟩,⟨some 22,.eq true .pint (.t 18) (.t 21),(some (15,false))⟩,⟨some 23,.pick (.t 15) (.c (.lit (.bool true))) (.t 22),none⟩]) (
 .cond (.t 23) (
 .seq (
 .ops [⟨some 4,.mov (.c (.lit (.bool false))),none⟩]) (
 .ret)) (
 .skip))) (
 .seq (
 .ops [⟨some 24,.load (some 3) (.t 2),none⟩,⟨some 25,.load (some 3) (.t 3),none⟩,⟨some 26,.build [(.lit (.slice none 0 0)),(.lit (.slice none 0 0)),(.lit (.slice none 0 0)),(.lit (.slice none 0 0)),(.lit (.slice none 0 0)),(.lit (.slice none 0 0))] [(0,3,(.t 24)),(3,3,(.t 25))],none⟩,⟨some 5,.new (t_tree_two N) (.agg [(.lit (.slice none 0 0)),(.lit (.slice none 0 0)),(.lit (.slice none 0 0)),(.lit (.slice none 0 0)),(.lit (.slice none 0 0)),(.lit (.slice none 0 0))]),none⟩,⟨none,.store 6 (.t 5) (.t 26),none⟩]) (
 .seq (
 .seq (
 .ops [⟨some 27,.faddr 2 (.t 2),none⟩,⟨some 28,.load none (.t 27),none⟩,⟨some 29,.len (.t 28),none⟩,⟨some 30,.mov (.c (.lit (.int .i64 0))),none⟩]) (
 .block 0 (
 .loop (L_tree_Same_1 N)))) (K_tree_Same_1 N)))),false⟩

def C_tree_Walk (N : Nat -> Nat) : AFunc := ⟨6,[.inl 4],
 .seq (
 .ops [⟨some 2,.box (t_api_Tree N) (.t 0),none⟩,⟨some 3,.box (t_int N) (.t 1),none⟩,⟨some 4,.mov (.c (.lit .nilFunc)),none⟩]) (
 .seq (
 .ops [⟨some 5,.mkfn (f_tree_Walk_1 N) [] [(.t 3),(.t 2)],none⟩,⟨some 4,.mov (.t 5),none⟩]) (
 .ret)),false⟩

def L_tree_Walk_1_2 (N : Nat -> Nat) : AC :=
 .ops [⟨some 7,.mov (.t 50),none⟩]
def L_tree_Walk_1_3 (N : Nat -> Nat) : AC :=
 .block 3 (
 .ops [⟨some 51,.load none (.t 4),none⟩,⟨some 52,.mov (.t 7),none⟩,⟨some 53,.bslice (t_int N) 1 none 1 [(.lit (.int .i64 0))] [(0,1,(.t 52))],none⟩,⟨some 54,.append (t_int N) 1 8 (.t 51) (.t 53),none⟩,⟨none,.store 1 (.t 4) (.t 54),none⟩])
def K_tree_Walk_1_1 (N : Nat -> Nat) : AC :=
 .seq (
 .ops [⟨some 55,.load none (.t 4),none⟩]) (
 .ops [⟨some 4,.new (t_sl_int N) (.lit (.slice none 0 0)),none⟩,⟨none,.store 1 (.t 4) (.t 55),none⟩])
def L_tree_Walk_1_1 (N : Nat -> Nat) : AC :=
 .seq (
 .seq (
 .ops [⟨some 24,.load none (.t 4),none⟩,⟨some 25,.len (.t 24),none⟩,⟨some 26,.bin .gtr (.t 25) (.c (.lit (.int .i64 0))),none⟩]) (
 .cond (.t 26) (
 .skip) (
 .exit 0))) (
 .seq (
 .block 1 (
 .seq (
 .ops [⟨some 27,.load none (.t 4),none⟩,⟨some 28,.load none (.t 4),none⟩,⟨some 29,.len (.t 28),none⟩,⟨some 30,.bin .sub (.t 29) (.c (.lit (.int .i64 1))),none⟩,⟨some 31,.iaddr 1 (.t 27) (.t 30),none⟩,⟨some 32,.load none (.t 31),none⟩,⟨some 5,.mov (.t 32),none⟩]) (
 .seq (
 .ops [⟨some 33,.load none (.t 4),none⟩,⟨some 34,.load none (.t 4),none⟩,⟨some 35,.len (.t 34),none⟩,⟨some 36,.bin .sub (.t 35) (.c (.lit (.int .i64 1))),none⟩,⟨some 37,.slice 1 (.t 33) none (some (.t 36)),none⟩,⟨none,.store 1 (.t 4) (.t 37),none⟩]) (
 .seq (
 .seq (
 .ops [⟨some 38,.mov (.t 0),none⟩,⟨some 39,.mov (.t 5),none⟩,⟨some 40,.call (.t 38) [(.t 39)],none⟩,⟨some 41,.un .not (.t 40),none⟩]) (
 .cond (.t 41) (
 .ret) (
 .skip))) (
 .seq (
 .ops [⟨some 42,.faddr 0 (.t 2),none⟩,⟨some 43,.load none (.t 42),none⟩,⟨some 44,.mov (.t 5),none⟩,⟨some 45,.iaddr 8 (.t 43) (.t 44),none⟩,⟨some 46,.faddr 6 (.t 45),none⟩,⟨some 47,.load none (.t 46),none⟩,⟨some 48,.call (.c (.fn (f_slices_Backward_sl_int_int N) [] [])) [(.t 47)],none⟩]) (
 .block 2 (
 .rangeFn (.t 48) [49,50] (L_tree_Walk_1_2 N) (L_tree_Walk_1_3 N)))))))) (K_tree_Walk_1_1 N))
def C_tree_Walk_1 (N : Nat -> Nat) : AFunc := ⟨56,[],
 .seq (
 .seq (
 .ops [⟨some 8,.load none (.t 1),none⟩,⟨some 9,.bin .lss (.t 8) (.c (.lit (.int .i64 0))),none⟩,⟨some 10,.mov (.t 9),none⟩,⟨some 11,.load none (.t 1),(some (10,false))⟩,⟨some 12,.faddr 0 (.t 2),(some (10,false))⟩,⟨some 13,.load none (.t 12),(some (10,false))⟩,⟨some 14,.len (.t 13),(some (10,false))⟩,⟨some 15,.bin .geq (.t 11) (.t 14),(some (10,false))⟩,⟨some 16,.pick (.t 10) (.c (.lit (.bool true))) (.t 15),none⟩,⟨some 17,.mov (.t 16),none⟩,⟨some 18,.load (some 3) (.t 2),(some (17,false))⟩,⟨some 19,.call (.c (.fn (f_tree_Check N) [] [])) [(.t 18)],(some (17,false))⟩,⟨some 20,.eq true .pint (.t 19) (.c (.lit (.int .i64 0))),(some (17,false))⟩,⟨some 21,.pick (.t 17) (.c (.lit (.bool true))) (.t 20),none⟩]) (
 .cond (.t 21) (
 .ret) (
 .skip))) (
 .seq (
 .ops [⟨some 22,.load none (.t 1),none⟩,⟨some 23,.bslice (t_int N) 1 none 1 [(.lit (.int .i64 0))] [(0,1,(.t 22))],none⟩,⟨some 4,.new (t_sl_int N) (.lit (.slice none 0 0)),none⟩,⟨none,.store 1 (.t 4) (.t 23),none⟩]) (
 .block 0 (
 .loop (L_tree_Walk_1_1 N)))),false⟩

def C_tree_cloneTerm (N : Nat -> Nat) : AFunc := ⟨16,[.inr (2,(some 8))],
 .seq (
 .ops [⟨some 1,.box (t_api_Node N) (.t 0),none⟩,⟨some 2,.new (t_api_Node N) (.agg [(.lit (.int .i64 0)),(.lit (.int .i64 0)),(.lit (.string (mkS []))),(.lit (.int .i64 0)),(.lit (.int .u64 0)),(.lit (.slice none 0 0)),(.lit (.slice none 0 0)),(.lit (.slice none 0 0))]),none⟩]) (
 .seq (
 .dops 1 [⟨some 3,.faddr 5 (.t 1),none⟩,⟨some 4,.load none (.t 3),none⟩,⟨some 6,.faddr 6 (.t 1),none⟩,⟨some 7,.load none (.t 6),none⟩,⟨some 9,.faddr 7 (.t 1),none⟩,⟨some 10,.load none (.t 9),none⟩,⟨some 5,.call (.c (.fn (f_slices_Clone_sl_string_string N) [] [])) [(.t 4)],none⟩,⟨some 12,.faddr 5 (.t 1),none⟩,⟨some 8,.call (.c (.fn (f_slices_Clone_sl_int_int N) [] [])) [(.t 7)],none⟩,⟨some 11,.call (.c (.fn (f_slices_Clone_sl_int_int N) [] [])) [(.t 10)],none⟩,⟨none,.store 1 (.t 12) (.t 5),none⟩,⟨some 13,.faddr 6 (.t 1),none⟩,⟨none,.store 1 (.t 13) (.t 8),none⟩,⟨some 14,.faddr 7 (.t 1),none⟩,⟨none,.store 1 (.t 14) (.t 11),none⟩] [0,2,0,2,0,2,1,0,1,0,0,0,0,0,0] []) (
 .seq (
 .ops [⟨some 15,.load (some 8) (.t 1),none⟩,⟨none,.store 8 (.t 2) (.t 15),none⟩]) (
 .ret))),false⟩

def C_tree_cloneType (N : Nat -> Nat) : AFunc := ⟨12,[.inr (2,(some 6))],
 .seq (
 .ops [⟨some 1,.box (t_api_TypeNode N) (.t 0),none⟩,⟨some 2,.new (t_api_TypeNode N) (.agg [(.lit (.int .i64 0)),(.lit (.int .i64 0)),(.lit (.string (mkS []))),(.lit (.slice none 0 0)),(.lit (.slice none 0 0)),(.lit (.bool false))]),none⟩]) (
 .seq (
 .dops 1 [⟨some 3,.faddr 3 (.t 1),none⟩,⟨some 4,.load none (.t 3),none⟩,⟨some 6,.faddr 4 (.t 1),none⟩,⟨some 7,.load none (.t 6),none⟩,⟨some 5,.call (.c (.fn (f_slices_Clone_sl_string_string N) [] [])) [(.t 4)],none⟩,⟨some 9,.faddr 3 (.t 1),none⟩,⟨some 8,.call (.c (.fn (f_slices_Clone_sl_int_int N) [] [])) [(.t 7)],none⟩,⟨none,.store 1 (.t 9) (.t 5),none⟩,⟨some 10,.faddr 4 (.t 1),none⟩,⟨none,.store 1 (.t 10) (.t 8),none⟩] [0,2,0,2,1,0,0,0,0,0] []) (
 .seq (
 .ops [⟨some 11,.load (some 6) (.t 1),none⟩,⟨none,.store 6 (.t 2) (.t 11),none⟩]) (
 .ret))),false⟩

def C_slices_Clone_sl_api_Alias_api_Alias (N : Nat -> Nat) : AFunc := ⟨8,[.inl 2],
 .seq (
 .ops [⟨some 2,.mov (.c (.lit (.slice none 0 0))),none⟩]) (
 .seq (
 .seq (
 .ops [⟨some 3,.mov (.t 0),none⟩,⟨some 4,.eq false .pslice (.t 3) (.c (.lit (.slice none 0 0))),none⟩]) (
 .cond (.t 4) (
 .seq (
 .ops [⟨some 2,.mov (.c (.lit (.slice none 0 0))),none⟩]) (
 .ret)) (
 .skip))) (
 .seq (
 .ops [⟨some 5,.bslice (t_api_Alias N) 3 (some 3) 0 [(.lit (.string (mkS []))),(.lit (.int .i64 0)),(.lit (.int .i64 0))] [],none⟩,⟨some 6,.mov (.t 0),none⟩,⟨some 7,.append (t_api_Alias N) 3 32 (.t 5) (.t 6),none⟩,⟨some 2,.mov (.t 7),none⟩]) (
 .ret))),false⟩
end Go.Proofs.Eng
namespace Go.Proofs.Eng
open Go
def kidsD (R : List Int) : Int -> List Int -> Int
 | acc,[] => acc
 | acc,k :: r => kidsD R (max acc (R.getD k.toNat 0)) r
@[simp] theorem mnmx_int {k : IntKind} {a b : Int} : mnmx true (.lit (.int k a)) [.lit (.int k b)] = some (.lit (.int k (max a b))) := by
 simp only [mnmx,mn2,Option.bind_some,if_true,Option.some.injEq,AV.lit.injEq,Value.int.injEq,true_and]
 split <;> omega
theorem getD_nat {R : List Int} {k : Int} (h0 : 0 <= k) (h1 : k < R.length) : ∃ h : k.toNat < R.length,R.getD k.toNat 0 = R[k.toNat] := by
 refine ⟨by omega,?_⟩
 rw [List.getD_eq_getElem?_getD,List.getElem?_eq_getElem (by omega)]; rfl
section
variable {Γ : Sums} {A : Tab} {N : Nat -> Nat}

theorem dep_in2 {H0 H' : Hp} {ρ : Rho} {QQ : Post} {id i : Nat} {R ks : List Int} {acc : Int} {sb : AV} {os : List (Nat × AObj)} {v1 v4 v24 v25 v26 : AV} (vb : VI H0 sb ks) (hi : i < R.length) (hl : ks.length < 2 ^ 60) (hRl : R.length < 2 ^ 60) (hk : ∀ k ∈ ks,0 <= k /\ k < i)
  (hL : Loc H0 H' ((id,.arr 1 ((R.set i acc).map (avInt .i64)) (t_int N)) :: os)) (r3 : ρ 3 = .ra 1 id 0 R.length) (r5 : ρ 5 = avInt .i64 (i : Nat)) (k1 : ρ 1 = v1) (k4 : ρ 4 = v4) (k24 : ρ 24 = v24) (k25 : ρ 25 = v25) (k26 : ρ 26 = v26) (ra : ρ 32 = sb) (rb : ρ 33 = avInt .i64 (ks.length : Nat)) (rc : ρ 34 = avInt .i64 (0 : Nat))
  (hQ : ∀ ρ' H'',ρ' 3 = .ra 1 id 0 R.length -> ρ' 5 = avInt .i64 (i : Nat) -> ρ' 1 = v1 /\ ρ' 4 = v4 /\ ρ' 24 = v24 /\ ρ' 25 = v25 /\ ρ' 26 = v26 -> Loc H0 H'' ((id,.arr 1 ((R.set i (kidsD R acc ks)).map (avInt .i64)) (t_int N)) :: os) -> QQ .nrm ρ' H'') :
  wp (lim Γ A) none (.loop (L_tree_Depth_2 N)) ρ H' (blockP 2 QQ) := by
 refine wp_round (n := ks.length) (fun q ρ H' => ∃ (j : Nat) (acc' : Int),ρ 3 = .ra 1 id 0 R.length /\ ρ 5 = avInt .i64 (i : Nat) /\ (ρ 1 = v1 /\ ρ 4 = v4 /\ ρ 24 = v24 /\ ρ 25 = v25 /\ ρ 26 = v26) /\ ρ 32 = sb /\ ρ 33 = avInt .i64 (ks.length : Nat) /\ ρ 34 = avInt .i64 (j : Nat) /\ j <= ks.length /\ kidsD R acc' (ks.drop j) = kidsD R acc ks /\ Loc H0 H' ((id,.arr 1 ((R.set i acc').map (avInt .i64)) (t_int N)) :: os) /\ q = ks.length - j) ?_ ?_
 ·exact ⟨0,acc,r3,r5,⟨k1,k4,k24,k25,k26⟩,ra,rb,rc,by omega,rfl,hL,rfl⟩
 ·rintro q ρ H' ⟨j,acc',r3,r5,⟨k1,k4,k24,k25,k26⟩,ra,rb,rc,hj,hacc,hL,rfl⟩
  by_cases hlt : j < ks.length
  ·have hlt' : (j : Int) < ks.length := by omega
   have hw : IntKind.wrap .i64 ((j : Int) + 1) = ((j + 1 : Nat) : Int) := by rw [wrap64 (by omega) (by omega)]; omega
   obtain ⟨q,q1,q2⟩ := (vb.loc hL).at' (k := .i64) (i := (j : Int)) (e := avInt .i64 ks[j]) (by omega) (by simp [List.getElem?_eq_getElem hlt]) rfl rfl rfl
   have hkj := hk _ (List.getElem_mem hlt)
   have hd : ks.drop j = ks[j] :: ks.drop (j + 1) := List.drop_eq_getElem_cons hlt
   rw [hd] at hacc
   generalize ks[j] = k at *
   have hg := hL.head
   have hil : i < (R.set i acc').length := by simpa using hi
   have hsl : (R.set i acc').length = R.length := by simp
   have p1 := ra_iaddr (id := id) (n := R.length) (k := .i64) (j := (i : Int)) (by omega) (by omega)
   rw [Int.toNat_natCast] at p1
   have p2 := ep_load hg hil
   simp only [List.getElem_set_self] at p2
   have p3 := ra_iaddr (id := id) (n := R.length) (k := .i64) (j := k) (by omega) (by omega)
   have p4 := ep_load hg (k := k.toNat) (by rw [hsl]; omega)
   obtain ⟨hkl,hgd⟩ := getD_nat (R := R) (k := k) (by omega) (by omega)
   rw [List.getElem_set_ne (by omega),<- hgd] at p4
   have p5 := ep_store hg hil (max acc' (R.getD k.toNat 0))
   rw [List.set_set] at p5
   have hL2 := hL.set (.arr 1 ((R.set i (max acc' (R.getD k.toNat 0))).map (avInt .i64)) (t_int N))
   generalize hM : max acc' (R.getD k.toNat 0) = M at *
   rw [show kidsD R acc' (k :: ks.drop (j + 1)) = kidsD R (max acc' (R.getD k.toNat 0)) (ks.drop (j + 1)) from rfl,hM] at hacc
   simp [L_tree_Depth_2,r3,r5,ra,rb,rc,hlt',q1,q2,p1,p2,p3,p4,hM,p5,hw,-hset_d,-Int.natCast_add,-List.getD_eq_getElem?_getD,-List.map_set]
   exact ⟨ks.length - (j + 1),by omega,⟨k1,k4,k24,k25,k26⟩,j + 1,rfl,by omega,M,hacc,hL2,rfl⟩
  ·have hlt' : ¬ (j : Int) < ks.length := by omega
   rw [List.drop_of_length_le (by omega)] at hacc
   simp only [kidsD] at hacc
   rw [hacc] at hL
   simp [L_tree_Depth_2,r3,r5,ra,rb,rc,hlt']
   exact hQ _ _ (by simp [r3]) (by simp [r5]) (by simp [k1,k4,k24,k25,k26]) hL

theorem dep_in4 {H0 H' : Hp} {ρ : Rho} {QQ : Post} {id i : Nat} {R ks : List Int} {acc : Int} {sb : AV} {os : List (Nat × AObj)} {v1 v3 v4 v11 v69 v70 v71 : AV} (vb : VI H0 sb ks) (hi : i < R.length) (hl : ks.length < 2 ^ 60) (hRl : R.length < 2 ^ 60) (hk : ∀ k ∈ ks,0 <= k /\ k < i)
  (hL : Loc H0 H' ((id,.arr 1 ((R.set i acc).map (avInt .i64)) (t_int N)) :: os)) (r9 : ρ 9 = .ra 1 id 0 R.length) (r10 : ρ 10 = avInt .i64 (i : Nat)) (k1 : ρ 1 = v1) (k3 : ρ 3 = v3) (k4 : ρ 4 = v4) (k11 : ρ 11 = v11) (k69 : ρ 69 = v69) (k70 : ρ 70 = v70) (k71 : ρ 71 = v71) (ra : ρ 77 = sb) (rb : ρ 78 = avInt .i64 (ks.length : Nat)) (rc : ρ 79 = avInt .i64 (0 : Nat))
  (hQ : ∀ ρ' H'',ρ' 9 = .ra 1 id 0 R.length -> ρ' 10 = avInt .i64 (i : Nat) -> ρ' 1 = v1 /\ ρ' 3 = v3 /\ ρ' 4 = v4 /\ ρ' 11 = v11 /\ ρ' 69 = v69 /\ ρ' 70 = v70 /\ ρ' 71 = v71 -> Loc H0 H'' ((id,.arr 1 ((R.set i (kidsD R acc ks)).map (avInt .i64)) (t_int N)) :: os) -> QQ .nrm ρ' H'') :
  wp (lim Γ A) none (.loop (L_tree_Depth_4 N)) ρ H' (blockP 6 QQ) := by
 refine wp_round (n := ks.length) (fun q ρ H' => ∃ (j : Nat) (acc' : Int),ρ 9 = .ra 1 id 0 R.length /\ ρ 10 = avInt .i64 (i : Nat) /\ (ρ 1 = v1 /\ ρ 3 = v3 /\ ρ 4 = v4 /\ ρ 11 = v11 /\ ρ 69 = v69 /\ ρ 70 = v70 /\ ρ 71 = v71) /\ ρ 77 = sb /\ ρ 78 = avInt .i64 (ks.length : Nat) /\ ρ 79 = avInt .i64 (j : Nat) /\ j <= ks.length /\ kidsD R acc' (ks.drop j) = kidsD R acc ks /\ Loc H0 H' ((id,.arr 1 ((R.set i acc').map (avInt .i64)) (t_int N)) :: os) /\ q = ks.length - j) ?_ ?_
 ·exact ⟨0,acc,r9,r10,⟨k1,k3,k4,k11,k69,k70,k71⟩,ra,rb,rc,by omega,rfl,hL,rfl⟩
 ·rintro q ρ H' ⟨j,acc',r9,r10,⟨k1,k3,k4,k11,k69,k70,k71⟩,ra,rb,rc,hj,hacc,hL,rfl⟩
  by_cases hlt : j < ks.length
  ·have hlt' : (j : Int) < ks.length := by omega
   have hw : IntKind.wrap .i64 ((j : Int) + 1) = ((j + 1 : Nat) : Int) := by rw [wrap64 (by omega) (by omega)]; omega
   obtain ⟨q,q1,q2⟩ := (vb.loc hL).at' (k := .i64) (i := (j : Int)) (e := avInt .i64 ks[j]) (by omega) (by simp [List.getElem?_eq_getElem hlt]) rfl rfl rfl
   have hkj := hk _ (List.getElem_mem hlt)
   have hd : ks.drop j = ks[j] :: ks.drop (j + 1) := List.drop_eq_getElem_cons hlt
   rw [hd] at hacc
   generalize ks[j] = k at *
   have hg := hL.head
   have hil : i < (R.set i acc').length := by simpa using hi
   have hsl : (R.set i acc').length = R.length := by simp
   have p1 := ra_iaddr (id := id) (n := R.length) (k := .i64) (j := (i : Int)) (by omega) (by omega)
   rw [Int.toNat_natCast] at p1
   have p2 := ep_load hg hil
   simp only [List.getElem_set_self] at p2
   have p3 := ra_iaddr (id := id) (n := R.length) (k := .i64) (j := k) (by omega) (by omega)
   have p4 := ep_load hg (k := k.toNat) (by rw [hsl]; omega)
   obtain ⟨hkl,hgd⟩ := getD_nat (R := R) (k := k) (by omega) (by omega)
   rw [List.getElem_set_ne (by omega),<- hgd] at p4
   have p5 := ep_store hg hil (max acc' (R.getD k.toNat 0))
   rw [List.set_set] at p5
   have hL2 := hL.set (.arr 1 ((R.set i (max acc' (R.getD k.toNat 0))).map (avInt .i64)) (t_int N))
   generalize hM : max acc' (R.getD k.toNat 0) = M at *
   rw [show kidsD R acc' (k :: ks.drop (j + 1)) = kidsD R (max acc' (R.getD k.toNat 0)) (ks.drop (j + 1)) from rfl,hM] at hacc
   simp [L_tree_Depth_4,r9,r10,ra,rb,rc,hlt',q1,q2,p1,p2,p3,p4,hM,p5,hw,-hset_d,-Int.natCast_add,-List.getD_eq_getElem?_getD,-List.map_set]
   exact ⟨ks.length - (j + 1),by omega,⟨k1,k3,k4,k11,k69,k70,k71⟩,j + 1,rfl,by omega,M,hacc,hL2,rfl⟩
  ·have hlt' : ¬ (j : Int) < ks.length := by omega
   rw [List.drop_of_length_le (by omega)] at hacc
   simp only [kidsD] at hacc
   rw [hacc] at hL
   simp [L_tree_Depth_4,r9,r10,ra,rb,rc,hlt']
   exact hQ _ _ (by simp [r9]) (by simp [r10]) (by simp [k1,k3,k4,k11,k69,k70,k71]) hL

theorem dep_in5 {H0 H' : Hp} {ρ : Rho} {QQ : Post} {id id2 i : Nat} {R S ks : List Int} {acc : Int} {sb : AV} {os : List (Nat × AObj)} {v1 v4 v69 v70 v71 : AV} (vb : VI H0 sb ks) (hi : i < R.length) (hl : ks.length < 2 ^ 60) (hRl : R.length < 2 ^ 60) (hk : ∀ k ∈ ks,0 <= k /\ k < S.length)
  (hL : Loc H0 H' ((id,.arr 1 ((R.set i acc).map (avInt .i64)) (t_int N)) :: (id2,.arr 1 (S.map (avInt .i64)) (t_int N)) :: os)) (r9 : ρ 9 = .ra 1 id 0 R.length) (r3 : ρ 3 = .ra 1 id2 0 S.length) (r10 : ρ 10 = avInt .i64 (i : Nat)) (k1 : ρ 1 = v1) (k4 : ρ 4 = v4) (k69 : ρ 69 = v69) (k70 : ρ 70 = v70) (k71 : ρ 71 = v71) (ra : ρ 97 = sb) (rb : ρ 98 = avInt .i64 (ks.length : Nat)) (rc : ρ 99 = avInt .i64 (0 : Nat))
  (hQ : ∀ ρ' H'',ρ' 9 = .ra 1 id 0 R.length -> ρ' 3 = .ra 1 id2 0 S.length -> ρ' 10 = avInt .i64 (i : Nat) -> ρ' 1 = v1 /\ ρ' 4 = v4 /\ ρ' 69 = v69 /\ ρ' 70 = v70 /\ ρ' 71 = v71 -> Loc H0 H'' ((id,.arr 1 ((R.set i (kidsD S acc ks)).map (avInt .i64)) (t_int N)) :: (id2,.arr 1 (S.map (avInt .i64)) (t_int N)) :: os) -> QQ .nrm ρ' H'') :
  wp (lim Γ A) none (.loop (L_tree_Depth_5 N)) ρ H' (blockP 8 QQ) := by
 refine wp_round (n := ks.length) (fun q ρ H' => ∃ (j : Nat) (acc' : Int),ρ 9 = .ra 1 id 0 R.length /\ ρ 3 = .ra 1 id2 0 S.length /\ ρ 10 = avInt .i64 (i : Nat) /\ (ρ 1 = v1 /\ ρ 4 = v4 /\ ρ 69 = v69 /\ ρ 70 = v70 /\ ρ 71 = v71) /\ ρ 97 = sb /\ ρ 98 = avInt .i64 (ks.length : Nat) /\ ρ 99 = avInt .i64 (j : Nat) /\ j <= ks.length /\ kidsD S acc' (ks.drop j) = kidsD S acc ks /\ Loc H0 H' ((id,.arr 1 ((R.set i acc').map (avInt .i64)) (t_int N)) :: (id2,.arr 1 (S.map (avInt .i64)) (t_int N)) :: os) /\ q = ks.length - j) ?_ ?_
 ·exact ⟨0,acc,r9,r3,r10,⟨k1,k4,k69,k70,k71⟩,ra,rb,rc,by omega,rfl,hL,rfl⟩
 ·rintro q ρ H' ⟨j,acc',r9,r3,r10,⟨k1,k4,k69,k70,k71⟩,ra,rb,rc,hj,hacc,hL,rfl⟩
  by_cases hlt : j < ks.length
  ·have hlt' : (j : Int) < ks.length := by omega
   have hw : IntKind.wrap .i64 ((j : Int) + 1) = ((j + 1 : Nat) : Int) := by rw [wrap64 (by omega) (by omega)]; omega
   obtain ⟨q,q1,q2⟩ := (vb.loc hL).at' (k := .i64) (i := (j : Int)) (e := avInt .i64 ks[j]) (by omega) (by simp [List.getElem?_eq_getElem hlt]) rfl rfl rfl
   have hkj := hk _ (List.getElem_mem hlt)
   have hd : ks.drop j = ks[j] :: ks.drop (j + 1) := List.drop_eq_getElem_cons hlt
   rw [hd] at hacc
   generalize ks[j] = k at *
   have hg := hL.head
   have hil : i < (R.set i acc').length := by simpa using hi
   have hsl : (R.set i acc').length = R.length := by simp
   have p1 := ra_iaddr (id := id) (n := R.length) (k := .i64) (j := (i : Int)) (by omega) (by omega)
   rw [Int.toNat_natCast] at p1
   have p2 := ep_load hg hil
   simp only [List.getElem_set_self] at p2
   have hg2 := hL.get (p := (id2,.arr 1 (S.map (avInt .i64)) (t_int N))) (by simp)
   have p3 := ra_iaddr (id := id2) (n := S.length) (k := .i64) (j := k) (by omega) (by omega)
   have p4 := ep_load hg2 (k := k.toNat) (by omega)
   obtain ⟨hkl,hgd⟩ := getD_nat (R := S) (k := k) (by omega) (by omega)
   rw [<- hgd] at p4
   have p5 := ep_store hg hil (max acc' (S.getD k.toNat 0))
   rw [List.set_set] at p5
   have hL2 := hL.set (.arr 1 ((R.set i (max acc' (S.getD k.toNat 0))).map (avInt .i64)) (t_int N))
   generalize hM : max acc' (S.getD k.toNat 0) = M at *
   rw [show kidsD S acc' (k :: ks.drop (j + 1)) = kidsD S (max acc' (S.getD k.toNat 0)) (ks.drop (j + 1)) from rfl,hM] at hacc
   simp [L_tree_Depth_5,r9,r3,r10,ra,rb,rc,hlt',q1,q2,p1,p2,p3,p4,hM,p5,hw,-hset_d,-Int.natCast_add,-List.getD_eq_getElem?_getD,-List.map_set]
   exact ⟨ks.length - (j + 1),by omega,⟨k1,k4,k69,k70,k71⟩,j + 1,rfl,by omega,M,hacc,hL2,rfl⟩
  ·have hlt' : ¬ (j : Int) < ks.length := by omega
   rw [List.drop_of_length_le (by omega)] at hacc
   simp only [kidsD] at hacc
   rw [hacc] at hL
   simp [L_tree_Depth_5,r9,r10,ra,rb,rc,hlt']
   exact hQ _ _ (by simp [r9]) (by simp [r3]) (by simp [r10]) (by simp [k1,k4,k69,k70,k71]) hL

theorem kidsD_app {ds r : List Int} : ∀ {ks : List Int} {acc : Int},(∀ k ∈ ks,0 <= k /\ k < ds.length) -> kidsD (ds ++ r) acc ks = kidsD ds acc ks
 | [],_,_ => rfl
 | k :: ks,acc,h => by
  have h1 := h k (by simp)
  have h2 := kidsD_app (ds := ds) (r := r) (ks := ks) (acc := max acc (ds.getD k.toNat 0)) fun x hx => h x (by simp [hx])
  simp only [kidsD]
  rw [show (ds ++ r).getD k.toNat 0 = ds.getD k.toNat 0 from by
   rw [List.getD_eq_getElem?_getD,List.getD_eq_getElem?_getD,List.getElem?_append_left (by omega)]]
  exact h2
theorem set_app {ds : List Int} {m : Nat} {x : Int} : (ds ++ List.replicate (m + 1) 0).set ds.length x = (ds ++ [x]) ++ List.replicate m 0 := by
 rw [List.set_append_right _ _ (Nat.le_refl _)]
 simp [List.replicate_succ]
theorem set_zero {ds : List Int} {m : Nat} : (ds ++ List.replicate (m + 1) 0).set ds.length 0 = ds ++ List.replicate (m + 1) 0 := by
 rw [set_app,List.replicate_succ]; simp
def tyD1 (ds : List Int) (n : Ty) : List Int := ds ++ [bump (kidsD ds 0 n.kids)]
def tyD (l : List Ty) : List Int := l.foldl tyD1 []
def ndD1 (ty ds : List Int) (n : Nd) : List Int := ds ++ [bump (kidsD ty (kidsD ds 0 n.kids) n.types)]
def ndD (ty : List Int) (l : List Nd) : List Int := l.foldl (ndD1 ty) []
def mostD (m : Int) (l : List Int) : Int := l.foldl max m
theorem tyD_snoc (l : List Ty) (n : Ty) : tyD (l ++ [n]) = tyD l ++ [bump (kidsD (tyD l) 0 n.kids)] := by simp [tyD,tyD1]
theorem ndD_snoc (ty : List Int) (l : List Nd) (n : Nd) : ndD ty (l ++ [n]) = ndD ty l ++ [bump (kidsD ty (kidsD (ndD ty l) 0 n.kids) n.types)] := by simp [ndD,ndD1]
theorem mostD_snoc (m : Int) (l : List Int) (x : Int) : mostD m (l ++ [x]) = max (mostD m l) x := by simp [mostD]
theorem foldl_len {α : Type} {f : List Int -> α -> List Int} (hf : ∀ ds n,(f ds n).length = ds.length + 1) : ∀ (l : List α) (ds : List Int),(l.foldl f ds).length = ds.length + l.length
 | [],ds => by simp
 | n :: l,ds => by rw [List.foldl_cons,foldl_len hf l,hf]; simp; omega
theorem tyD_len (l : List Ty) : (tyD l).length = l.length := by unfold tyD; rw [foldl_len (fun ds n => by simp [tyD1])]; simp
theorem ndD_len (ty : List Int) (l : List Nd) : (ndD ty l).length = l.length := by unfold ndD; rw [foldl_len (fun ds n => by simp [ndD1])]; simp

theorem dep_types {H H' : Hp} {b : AV} {t : Tr} {ρ : Rho} {QQ : Post} {id : Nat} {os : List (Nat × AObj)} {v1 : AV} {xs : List AV} (xs1 : Vw H 6 b xs) (xs2 : xs.length = t.types.length) (xs3 : ∀ (i : Nat) (y : AV) (n : Ty),xs[i]? = some y -> t.types[i]? = some n -> TyR H y n)
  (hok : ∀ n ∈ t.types,n.ok) (hl : t.types.length < 2 ^ 40) (hsh : ∀ (i : Nat) (n : Ty),t.types[i]? = some n -> ∀ k ∈ n.kids,0 <= k /\ k < i)
  (hL : Loc H H' ((id,.arr 1 ((List.replicate t.types.length 0).map (avInt .i64)) (t_int N)) :: os)) (r1 : ρ 1 = v1) (r3 : ρ 3 = .ra 1 id 0 t.types.length) (r4 : ρ 4 = avInt .i64 0) (r24 : ρ 24 = b) (r25 : ρ 25 = avInt .i64 (t.types.length : Nat)) (r26 : ρ 26 = avInt .i64 (0 : Nat))
  (hQ : ∀ ρ' H'',ρ' 1 = v1 -> ρ' 3 = .ra 1 id 0 t.types.length -> ρ' 4 = avInt .i64 (mostD 0 (tyD t.types)) -> Loc H H'' ((id,.arr 1 ((tyD t.types).map (avInt .i64)) (t_int N)) :: os) -> QQ .nrm ρ' H'') :
  wp (lim Γ A) none (.loop (L_tree_Depth_1 N)) ρ H' (blockP 0 QQ) := by
 refine wp_round (n := t.types.length) (fun q ρ H' => ∃ i : Nat,ρ 1 = v1 /\ ρ 3 = .ra 1 id 0 t.types.length /\ ρ 4 = avInt .i64 (mostD 0 (tyD (t.types.take i))) /\ ρ 24 = b /\ ρ 25 = avInt .i64 (t.types.length : Nat) /\ ρ 26 = avInt .i64 (i : Nat) /\ i <= t.types.length /\
  Loc H H' ((id,.arr 1 ((tyD (t.types.take i) ++ List.replicate (t.types.length - i) 0).map (avInt .i64)) (t_int N)) :: os) /\ q = t.types.length - i) ?_ ?_
 ·exact ⟨0,r1,r3,r4,r24,r25,r26,by omega,hL,rfl⟩
 ·rintro q ρ H' ⟨i,r1,r3,r4,r24,r25,r26,hi,hL,rfl⟩
  by_cases hlt : i < t.types.length
  ·have hlt' : (i : Int) < t.types.length := by omega
   have hw : IntKind.wrap .i64 ((i : Int) + 1) = ((i + 1 : Nat) : Int) := by rw [wrap64 (by omega) (by omega)]; omega
   have hxi : xs[i]? = some xs[i] := List.getElem?_eq_getElem (by omega)
   have hni : t.types[i]? = some t.types[i] := List.getElem?_eq_getElem hlt
   obtain ⟨sa,sb,ey,vsa,vsb⟩ := xs3 i _ _ hxi hni
   have okn := hok _ (List.getElem_mem hlt)
   have hkn := hsh i _ hni
   have htk : t.types.take (i + 1) = t.types.take i ++ [t.types[i]] := List.take_succ_eq_append_getElem hlt
   rw [ey] at hxi
   generalize t.types[i] = n at *
   obtain ⟨p,p1,p2⟩ := (xs1.loc hL).ats (k := .i64) hxi (by rfl) (by simp [vsa.one,vsb.one])
   obtain ⟨ds,hds⟩ : ∃ ds,ds = tyD (t.types.take i) := ⟨_,rfl⟩
   have hdl : ds.length = i := by rw [hds,tyD_len]; simp; omega
   have hsn := tyD_snoc (t.types.take i) n
   rw [<- htk,<- hds] at hsn
   rw [<- hds] at hL r4
   obtain ⟨m,hm⟩ : ∃ m,t.types.length - i = m + 1 := ⟨t.types.length - i - 1,by omega⟩
   have hm2 : t.types.length - (i + 1) = m := by omega
   rw [hm] at hL
   obtain ⟨R,hR⟩ : ∃ R,R = ds ++ List.replicate (m + 1) (0 : Int) := ⟨_,rfl⟩
   have hRl : R.length = t.types.length := by rw [hR]; simp; omega
   have hR0 : R.set i 0 = R := by rw [hR,<- hdl]; exact set_zero
   rw [<- hR] at hL
   have hLc := ((hL.alloc (.cells [.lit (.int .i64 0),.lit (.int .i64 0),.lit (.string (mkS [])),.lit (.slice none 0 0),.lit (.slice none 0 0),.lit (.bool false)] (t_api_TypeNode N))).set (.cells [avInt .i64 n.kind,avInt .i64 n.pos,avStr n.name,sa,sb,avBool n.opn] (t_api_TypeNode N))).sub (List.sublist_cons_self _ _)
   rw [<- hR0] at hLc
   have lk := VI.len vsb
   simp [L_tree_Depth_1,r1,r3,r4,r24,r25,r26,hlt',p1,p2,vsa.one,vsb.one,setFrom,loadC,lk,-hset_d,-halloc_d]
   refine dep_in2 (R := R) (acc := 0) (v1 := v1) (v4 := avInt .i64 (mostD 0 ds)) (v24 := b) (v25 := avInt .i64 (t.types.length : Nat)) (v26 := avInt .i64 (i : Nat)) vsb (by omega) (by have := okn.2.2.2; omega) (by omega) (fun k hk => hkn k hk) hLc (by simp [r3,hRl]) (by simp) (by simp [r1]) (by simp [r4]) (by simp [r24]) (by simp [r25]) (by simp [r26]) (by simp) (by simp) (by simp) ?_
   intro ρ' H2 s3 s5 ⟨s1,s4,s24,s25,s26⟩ hL2
   have hkd : kidsD R 0 n.kids = kidsD ds 0 n.kids := by rw [hR]; exact kidsD_app fun k hk => by rw [hdl]; exact hkn k hk
   rw [hkd] at hL2
   generalize kidsD ds 0 n.kids = v at *
   have hil : i < (R.set i v).length := by simp; omega
   have q1 := ra_iaddr (id := id) (n := R.length) (k := .i64) (j := (i : Int)) (by omega) (by omega)
   rw [Int.toNat_natCast] at q1
   have q2 := ep_load hL2.head hil
   simp only [List.getElem_set_self] at q2
   have q3 : astore H2 1 (.ep id i 0) (avInt .i64 (IntKind.wrap .i64 (v + 1))) = some (hset H2 id (some (.arr 1 ((R.set i (bump v)).map (avInt .i64)) (t_int N)))) := by
    have := ep_store hL2.head hil (bump v)
    rw [List.set_set] at this
    exact this
   have hL3 := hL2.set (.arr 1 ((R.set i (bump v)).map (avInt .i64)) (t_int N))
   have hil3 : i < (R.set i (bump v)).length := by simp; omega
   have q4 := ep_load hL3.head hil3
   simp only [List.getElem_set_self] at q4
   have hfin : R.set i (bump v) = tyD (t.types.take (i + 1)) ++ List.replicate (t.types.length - (i + 1)) 0 := by
    rw [hsn,hm2,hR,<- hdl]; exact set_app
   have hL4 : Loc H (hset H2 id (some (.arr 1 ((R.set i (bump v)).map (avInt .i64)) (t_int N)))) ((id,.arr 1 ((tyD (t.types.take (i + 1)) ++ List.replicate (t.types.length - (i + 1)) 0).map (avInt .i64)) (t_int N)) :: os) := by rw [<- hfin]; exact hL3
   have hmx : mostD 0 (tyD (t.types.take (i + 1))) = max (mostD 0 ds) (bump v) := by rw [hsn,mostD_snoc]
   rw [hRl] at s3
   rw [hRl] at q1
   simp [K_tree_Depth_1,K_tree_Depth_2,s1,s3,s4,s5,s24,s25,s26,q1,q2,q3,q4,hw,-hset_d,-Int.natCast_add,-List.map_set]
   exact ⟨t.types.length - (i + 1),by omega,i + 1,by rw [hmx],rfl,by omega,by simpa [-List.map_set] using hL4,rfl⟩
  ·have hlt' : ¬ (i : Int) < t.types.length := by omega
   have hi2 : i = t.types.length := by omega
   subst hi2
   rw [List.take_length] at hL r4
   simp only [Nat.sub_self,List.replicate_zero,List.append_nil] at hL
   simp [L_tree_Depth_1,r1,r3,r4,r24,r25,r26]
   exact hQ _ _ (by simp [r1]) (by simp [r3]) (by simp [r4]) hL

theorem dep_nodes {H H' : Hp} {a : AV} {t : Tr} {ρ : Rho} {QQ : Post} {id id2 : Nat} {os : List (Nat × AObj)} {v1 : AV} {S : List Int} {M0 : Int} {xs : List AV} (xs1 : Vw H 8 a xs) (xs2 : xs.length = t.nodes.length) (xs3 : ∀ (i : Nat) (y : AV) (n : Nd),xs[i]? = some y -> t.nodes[i]? = some n -> NdR H y n)
  (hok : ∀ n ∈ t.nodes,n.ok) (hl : t.nodes.length < 2 ^ 40) (hSl : S.length < 2 ^ 40) (hsh : ∀ (i : Nat) (n : Nd),t.nodes[i]? = some n -> (∀ k ∈ n.kids,0 <= k /\ k < i) /\ ∀ k ∈ n.types,0 <= k /\ k < S.length)
  (hL : Loc H H' ((id,.arr 1 ((List.replicate t.nodes.length 0).map (avInt .i64)) (t_int N)) :: (id2,.arr 1 (S.map (avInt .i64)) (t_int N)) :: os)) (r1 : ρ 1 = v1) (r9 : ρ 9 = .ra 1 id 0 t.nodes.length) (r3 : ρ 3 = .ra 1 id2 0 S.length) (r4 : ρ 4 = avInt .i64 M0) (r69 : ρ 69 = a) (r70 : ρ 70 = avInt .i64 (t.nodes.length : Nat)) (r71 : ρ 71 = avInt .i64 (0 : Nat))
  (hQ : ∀ ρ' H'',ρ' 4 = avInt .i64 (mostD M0 (ndD S t.nodes)) -> (∃ os',Loc H H'' os') -> QQ .nrm ρ' H'') :
  wp (lim Γ A) none (.loop (L_tree_Depth_3 N)) ρ H' (blockP 4 QQ) := by
 refine wp_round (n := t.nodes.length) (fun q ρ H' => ∃ i : Nat,ρ 1 = v1 /\ ρ 9 = .ra 1 id 0 t.nodes.length /\ ρ 3 = .ra 1 id2 0 S.length /\ ρ 4 = avInt .i64 (mostD M0 (ndD S (t.nodes.take i))) /\ ρ 69 = a /\ ρ 70 = avInt .i64 (t.nodes.length : Nat) /\ ρ 71 = avInt .i64 (i : Nat) /\ i <= t.nodes.length /\
  Loc H H' ((id,.arr 1 ((ndD S (t.nodes.take i) ++ List.replicate (t.nodes.length - i) 0).map (avInt .i64)) (t_int N)) :: (id2,.arr 1 (S.map (avInt .i64)) (t_int N)) :: os) /\ q = t.nodes.length - i) ?_ ?_
 ·exact ⟨0,r1,r9,r3,r4,r69,r70,r71,by omega,hL,rfl⟩
 ·rintro q ρ H' ⟨i,r1,r9,r3,r4,r69,r70,r71,hi,hL,rfl⟩
  by_cases hlt : i < t.nodes.length
  ·have hlt' : (i : Int) < t.nodes.length := by omega
   have hw : IntKind.wrap .i64 ((i : Int) + 1) = ((i + 1 : Nat) : Int) := by rw [wrap64 (by omega) (by omega)]; omega
   have hxi : xs[i]? = some xs[i] := List.getElem?_eq_getElem (by omega)
   have hni : t.nodes[i]? = some t.nodes[i] := List.getElem?_eq_getElem hlt
   obtain ⟨sa,sb,sc,ey,vsa,vsb,vsc⟩ := xs3 i _ _ hxi hni
   have okn := hok _ (List.getElem_mem hlt)
   obtain ⟨hkn,hkt⟩ := hsh i _ hni
   have htk : t.nodes.take (i + 1) = t.nodes.take i ++ [t.nodes[i]] := List.take_succ_eq_append_getElem hlt
   rw [ey] at hxi
   generalize t.nodes[i] = n at *
   obtain ⟨p,p1,p2⟩ := (xs1.loc hL).ats (k := .i64) hxi (by rfl) (by simp [vsa.one,vsb.one,vsc.one])
   obtain ⟨ds,hds⟩ : ∃ ds,ds = ndD S (t.nodes.take i) := ⟨_,rfl⟩
   have hdl : ds.length = i := by rw [hds,ndD_len]; simp; omega
   have hsn := ndD_snoc S (t.nodes.take i) n
   rw [<- htk,<- hds] at hsn
   rw [<- hds] at hL r4
   obtain ⟨m,hm⟩ : ∃ m,t.nodes.length - i = m + 1 := ⟨t.nodes.length - i - 1,by omega⟩
   have hm2 : t.nodes.length - (i + 1) = m := by omega
   rw [hm] at hL
   obtain ⟨R,hR⟩ : ∃ R,R = ds ++ List.replicate (m + 1) (0 : Int) := ⟨_,rfl⟩
   have hRl : R.length = t.nodes.length := by rw [hR]; simp; omega
   have hR0 : R.set i 0 = R := by rw [hR,<- hdl]; exact set_zero
   rw [<- hR] at hL
   have hLc0 := (hL.alloc (.cells [.lit (.int .i64 0),.lit (.int .i64 0),.lit (.string (mkS [])),.lit (.int .i64 0),.lit (.int .u64 0),.lit (.slice none 0 0),.lit (.slice none 0 0),.lit (.slice none 0 0)] (t_api_Node N))).set (.cells [avInt .i64 n.kind,avInt .i64 n.pos,avStr n.name,avInt .i64 n.int,avInt .u64 n.bits,sa,sb,sc] (t_api_Node N))
   rw [<- hR0] at hLc0
   have hLc := hLc0.perm (os' := (id,.arr 1 ((R.set i 0).map (avInt .i64)) (t_int N)) :: (id2,.arr 1 (S.map (avInt .i64)) (t_int N)) :: (H'.l.length,.cells [avInt .i64 n.kind,avInt .i64 n.pos,avStr n.name,avInt .i64 n.int,avInt .u64 n.bits,sa,sb,sc] (t_api_Node N)) :: os) ((List.Perm.swap _ _ _).trans ((List.Perm.swap _ _ _).cons _))
   have lk := VI.len vsb
   have lt := VI.len vsc
   simp [L_tree_Depth_3,r1,r9,r3,r4,r69,r70,r71,hlt',p1,p2,vsa.one,vsb.one,vsc.one,setFrom,loadC,lk,-hset_d,-halloc_d]
   refine dep_in4 (R := R) (acc := 0) (v1 := v1) (v3 := .ra 1 id2 0 S.length) (v4 := avInt .i64 (mostD M0 ds)) (v11 := .ptr H'.l.length 0) (v69 := a) (v70 := avInt .i64 (t.nodes.length : Nat)) (v71 := avInt .i64 (i : Nat)) vsb (by omega) (by have := okn.2.2.2.1; omega) (by omega) (fun k hk => hkn k hk) hLc (by simp [r9,hRl]) (by simp) (by simp [r1]) (by simp [r3]) (by simp [r4]) (by simp) (by simp [r69]) (by simp [r70]) (by simp [r71]) (by simp) (by simp) (by simp) ?_
   intro ρ' H2 s9 s10 ⟨s1,s3,s4,s11,s69,s70,s71⟩ hL2
   have hkd : kidsD R 0 n.kids = kidsD ds 0 n.kids := by rw [hR]; exact kidsD_app fun k hk => by rw [hdl]; exact hkn k hk
   rw [hkd] at hL2
   have hcell := hL2.get (p := (H'.l.length,.cells [avInt .i64 n.kind,avInt .i64 n.pos,avStr n.name,avInt .i64 n.int,avInt .u64 n.bits,sa,sb,sc] (t_api_Node N))) (by simp)
   simp only at hcell
   generalize kidsD ds 0 n.kids = u at *
   simp [K_tree_Depth_4,s1,s3,s4,s9,s10,s11,s69,s70,s71,hcell,lt]
   refine dep_in5 (R := R) (S := S) (acc := u) (v1 := v1) (v4 := avInt .i64 (mostD M0 ds)) (v69 := a) (v70 := avInt .i64 (t.nodes.length : Nat)) (v71 := avInt .i64 (i : Nat)) vsc (by omega) (by have := okn.2.2.2.2; omega) (by omega) (fun k hk => hkt k hk) hL2 (by simp [s9]) (by simp [s3]) (by simp [s10]) (by simp [s1]) (by simp [s4]) (by simp [s69]) (by simp [s70]) (by simp [s71]) (by simp) (by simp) (by simp) ?_
   clear s9 s10 s1 s3 s4 s11 s69 s70 s71
   intro ρ'' H3 s9 s3 s10 ⟨s1,s4,s69,s70,s71⟩ hL3
   generalize kidsD S u n.types = v at *
   have hil : i < (R.set i v).length := by simp; omega
   have q1 := ra_iaddr (id := id) (n := R.length) (k := .i64) (j := (i : Int)) (by omega) (by omega)
   rw [Int.toNat_natCast] at q1
   have q2 := ep_load hL3.head hil
   simp only [List.getElem_set_self] at q2
   have q3 : astore H3 1 (.ep id i 0) (avInt .i64 (IntKind.wrap .i64 (v + 1))) = some (hset H3 id (some (.arr 1 ((R.set i (bump v)).map (avInt .i64)) (t_int N)))) := by
    have := ep_store hL3.head hil (bump v)
    rw [List.set_set] at this
    exact this
   have hL4 := hL3.set (.arr 1 ((R.set i (bump v)).map (avInt .i64)) (t_int N))
   have hil3 : i < (R.set i (bump v)).length := by simp; omega
   have q4 := ep_load hL4.head hil3
   simp only [List.getElem_set_self] at q4
   have hfin : R.set i (bump v) = ndD S (t.nodes.take (i + 1)) ++ List.replicate (t.nodes.length - (i + 1)) 0 := by
    rw [hsn,hm2,hR,<- hdl]; exact set_app
   have hL5 : Loc H (hset H3 id (some (.arr 1 ((R.set i (bump v)).map (avInt .i64)) (t_int N)))) ((id,.arr 1 ((ndD S (t.nodes.take (i + 1)) ++ List.replicate (t.nodes.length - (i + 1)) 0).map (avInt .i64)) (t_int N)) :: (id2,.arr 1 (S.map (avInt .i64)) (t_int N)) :: os) := by
    rw [<- hfin]; exact hL4.sub (((List.sublist_cons_self _ _).cons_cons _).cons_cons _)
   have hmx : mostD M0 (ndD S (t.nodes.take (i + 1))) = max (mostD M0 ds) (bump v) := by rw [hsn,mostD_snoc]
   rw [hRl] at s9
   rw [hRl] at q1
   simp [K_tree_Depth_5,K_tree_Depth_6,s1,s3,s4,s9,s10,s69,s70,s71,q1,q2,q3,q4,hw,-hset_d,-Int.natCast_add,-List.map_set]
   exact ⟨t.nodes.length - (i + 1),by omega,i + 1,by rw [hmx],rfl,by omega,by simpa [-List.map_set] using hL5,rfl⟩
  ·have hlt' : ¬ (i : Int) < t.nodes.length := by omega
   have hi2 : i = t.nodes.length := by omega
   subst hi2
   rw [List.take_length] at hL r4
   simp [L_tree_Depth_3,r1,r9,r3,r4,r69,r70,r71]
   exact hQ _ _ (by simp [r4]) ⟨_,hL⟩

theorem noteS_true : ∀ {ks cnt cnt' : List Int} {b : Int},noteS cnt ks b = (true,cnt') -> ∀ k ∈ ks,0 <= k /\ k < b
 | [],_,_,_,_ => by simp
 | k :: r,cnt,cnt',b,h => by
  unfold noteS at h
  split at h
  ·simp at h
  ·rename_i hc
   intro x hx
   rcases List.mem_cons.1 hx with rfl | hx
   ·omega
   ·exact noteS_true h x hx
theorem nodesS_true {ty : Nat} : ∀ {l : List Nd} {i : Nat} {ct cy : List Int} {r},nodesS ty l i ct cy = some r -> ∀ (j : Nat) (n : Nd),l[j]? = some n -> (∀ k ∈ n.kids,0 <= k /\ k < ((i + j : Nat) : Int)) /\ (∀ k ∈ n.types,0 <= k /\ k < (ty : Int)) /\ termB n = true
 | [],_,_,_,_,_ => by simp
 | m :: l,i,ct,cy,r,h => by
  unfold nodesS at h
  split at h
  ·rename_i hT
   split at h
   ·rename_i ct' h1
    split at h
    ·rename_i cy' h2
     intro j n hn
     cases j with
     | zero =>
      simp only [List.getElem?_cons_zero,Option.some.injEq] at hn
      subst hn
      exact ⟨by simpa using noteS_true h1,noteS_true h2,hT⟩
     | succ j =>
      simp only [List.getElem?_cons_succ] at hn
      have := nodesS_true h j n hn
      rw [show i + 1 + j = i + (j + 1) from by omega] at this
      exact this
    ·simp at h
   ·simp at h
  ·simp at h
theorem typesS_true : ∀ {l : List Ty} {i : Nat} {cy : List Int} {r},typesS l i cy = some r -> ∀ (j : Nat) (n : Ty),l[j]? = some n -> (∀ k ∈ n.kids,0 <= k /\ k < ((i + j : Nat) : Int)) /\ typB n = true
 | [],_,_,_,_ => by simp
 | m :: l,i,cy,r,h => by
  unfold typesS at h
  split at h
  ·rename_i hT
   split at h
   ·rename_i cy' h1
    intro j n hn
    cases j with
    | zero =>
     simp only [List.getElem?_cons_zero,Option.some.injEq] at hn
     subst hn
     exact ⟨by simpa using noteS_true h1,hT⟩
    | succ j =>
     simp only [List.getElem?_cons_succ] at hn
     have := typesS_true h j n hn
     rw [show i + 1 + j = i + (j + 1) from by omega] at this
     exact this
   ·simp at h
  ·simp at h
theorem checkB_parts {t : Tr} (h : checkB t = true) : t.nodes ≠ [] /\ t.nodes.length <= 65536 /\ t.types.length <= 65536 /\ ∃ ct cy,nodesS t.types.length t.nodes 0 (List.replicate t.nodes.length 0) (List.replicate t.types.length 0) = some (ct,cy) /\ endS t ct cy = true := by
 unfold checkB at h
 simp only [Bool.and_eq_true,Bool.not_eq_true',decide_eq_true_eq] at h
 obtain ⟨⟨⟨h1,h2⟩,h3⟩,h4⟩ := h
 split at h4
 ·rename_i ct cy h5
  exact ⟨by rintro e; rw [e] at h1; simp at h1,h2,h3,ct,cy,h5,h4⟩
 ·simp at h4
theorem endS_types {t : Tr} {ct cy : List Int} (h : endS t ct cy = true) : ∃ r,typesS t.types 0 cy = some r := by
 unfold endS at h
 split at h
 ·rename_i r hr; exact ⟨r,hr⟩
 ·simp at h
def depthS (t : Tr) : Int := mostD (mostD 0 (tyD t.types)) (ndD (tyD t.types) t.nodes)
theorem depth_call (hc : TreeC Γ A N) (h : Has Γ A (f_tree_Depth N) (C_tree_Depth N)) {H : Hp} {x : AV} {t : Tr} (hx : TrR H x t) (ok : t.ok) (hb : t.nodes.length < 2 ^ 30 /\ t.types.length < 2 ^ 30 /\ t.als.length < 2 ^ 30) : (lim Γ A).call (f_tree_Depth N) [x] H = some (avInt .i64 (if checkB t then depthS t else 0),none) := by
 have ec := fun o => check_call hc (H := halloc { l := H.l,d := none } o) ((keep_box H none o).tr hx) ok hb
 obtain ⟨a,b,c,rfl,⟨xs,xs1,xs2,xs3⟩,⟨ys,ys1,ys2,ys3⟩,zs,zs1,zs2,zs3⟩ := hx
 have la : asLen a = some t.nodes.length := by rw [xs1.len,xs2]
 have lb : asLen b = some t.types.length := by rw [ys1.len,ys2]
 apply h.call (by rfl)
 unfold errN at ec
 cases hcb : checkB t
 ·simp [hcb] at ec
  simp [C_tree_Depth,xs1.one,ys1.one,zs1.one,loadC,ec,settle,keeps]
 ·simp [hcb] at ec
  obtain ⟨c1,c2,c3,ct,cy,c4,c5⟩ := checkB_parts hcb
  obtain ⟨r,c6⟩ := endS_types c5
  have r1 : t.nodes.length * 8 <= roomMax := by unfold roomMax; omega
  have r2 : t.types.length * 8 <= roomMax := by unfold roomMax; omega
  have L2 := ((Loc.start H).alloc (.cells [a,b,c] (t_api_Tree N))).alloc (.arr 1 (List.replicate t.types.length (avInt .i64 0)) (t_int N))
  simp [C_tree_Depth,xs1.one,ys1.one,zs1.one,loadC,ec,lb,r2,-halloc_d]
  refine dep_types (t := t) (id := H.l.length + 1) (os := [(H.l.length,.cells [a,b,c] (t_api_Tree N))]) (v1 := .ptr H.l.length 0) ys1 ys2 ys3 ok.2.1 (by omega) (fun i n hn => by simpa using (typesS_true c6 i n hn).1) (by simpa [List.map_replicate] using L2) (by simp) (by simp) (by simp) (by simp) (by simp) (by simp) ?_
  intro ρ' H2 s1 s3 s4 hL2
  have hbox := hL2.get (p := (H.l.length,.cells [a,b,c] (t_api_Tree N))) (by simp)
  simp only at hbox
  have hL3 := hL2.alloc (.arr 1 (List.replicate t.nodes.length (avInt .i64 0)) (t_int N))
  have hlt2 : H.l.length < H2.l.length := hL2.lt (p := (H.l.length,.cells [a,b,c] (t_api_Tree N))) (by simp)
  have hbox3 := hL3.get (p := (H.l.length,.cells [a,b,c] (t_api_Tree N))) (by simp)
  simp only at hbox3
  simp [K_tree_Depth_3,s1,s3,s4,hbox,la,r1,Nat.ne_of_lt hlt2,-halloc_d]
  refine dep_nodes (t := t) (id := H2.l.length) (id2 := H.l.length + 1) (os := [(H.l.length,.cells [a,b,c] (t_api_Tree N))]) (S := tyD t.types) (M0 := mostD 0 (tyD t.types)) (v1 := .ptr H.l.length 0) xs1 xs2 xs3 ok.1 (by omega) (by rw [tyD_len]; omega) (fun i n hn => ?_) (by simpa [List.map_replicate] using hL3) (by simp [s1]) (by simp) (by simp [s3,tyD_len]) (by simp [s4]) (by simp) (by simp) (by simp) ?_
  ·have := nodesS_true c4 i n hn
   rw [tyD_len]
   exact ⟨by simpa using this.1,this.2.1⟩
  ·intro ρ'' H4 u4 ⟨os',hL4⟩
   have f1 := settle_keeps (v := avInt .i64 (depthS t)) hL4.keeps (by simp [AV.under])
   simp [K_tree_Depth_7,u4]
   exact f1
end
end Go.Proofs.Eng
namespace Go.Proofs.Eng
open Go

def C_slices_Backward_sl_int_int (N : Nat -> Nat) : AFunc := ⟨4,[.inl 2],
 .seq (
 .ops [⟨some 1,.box (t_sl_int N) (.t 0),none⟩,⟨some 2,.mov (.c (.lit .nilFunc)),none⟩]) (
 .seq (
 .ops [⟨some 3,.mkfn (f_slices_Backward_sl_int_int_1 N) [] [(.t 1)],none⟩,⟨some 2,.mov (.t 3),none⟩]) (
 .ret)),false⟩

def L_slices_Backward_sl_int_int_1_1 (N : Nat -> Nat) : AC :=
 .seq (
 .seq (
 .ops [⟨some 7,.mov (.t 3),none⟩,⟨some 8,.bin .geq (.t 7) (.c (.lit (.int .i64 0))),none⟩]) (
 .cond (.t 8) (
 .skip) (
 .exit 0))) (
 .seq (
 .block 1 (
 .seq (
 .ops [⟨some 11,.mov (.t 0),none⟩,⟨some 12,.mov (.t 3),none⟩,⟨some 13,.load none (.t 1),none⟩,⟨some 14,.mov (.t 3),none⟩,⟨some 15,.iaddr 1 (.t 13) (.t 14),none⟩,⟨some 16,.load none (.t 15),none⟩,⟨some 17,.call (.t 11) [(.t 12),(.t 16)],none⟩,⟨some 18,.un .not (.t 17),none⟩]) (
 .cond (.t 18) (
 .ret) (
 .skip)))) (
 .ops [⟨some 9,.mov (.t 3),none⟩,⟨some 10,.bin .sub (.t 9) (.c (.lit (.int .i64 1))),none⟩,⟨some 3,.mov (.t 10),none⟩]))
def C_slices_Backward_sl_int_int_1 (N : Nat -> Nat) : AFunc := ⟨19,[],
 .seq (
 .ops [⟨some 4,.load none (.t 1),none⟩,⟨some 5,.len (.t 4),none⟩,⟨some 6,.bin .sub (.t 5) (.c (.lit (.int .i64 1))),none⟩,⟨some 3,.mov (.t 6),none⟩]) (
 .block 0 (
 .loop (L_slices_Backward_sl_int_int_1_1 N))),false⟩

def L_slices_Equal_sl_string_string_1 (N : Nat -> Nat) : AC :=
 .seq (
 .ops [⟨some 14,.bin .lss (.t 13) (.t 12),none⟩]) (
 .seq (
 .cond (.t 14) (
 .skip) (
 .exit 0)) (
 .seq (
 .block 1 (
 .seq (
 .ops [⟨some 15,.mov (.t 13),none⟩,⟨some 5,.mov (.t 15),none⟩]) (
 .seq (
 .dops 6 [⟨some 16,.mov (.t 0),none⟩,⟨some 17,.mov (.t 5),none⟩,⟨some 18,.iaddr 1 (.t 16) (.t 17),none⟩,⟨some 19,.load none (.t 18),none⟩,⟨some 20,.mov (.t 1),none⟩,⟨some 21,.mov (.t 5),none⟩,⟨some 22,.iaddr 1 (.t 20) (.t 21),none⟩,⟨some 23,.load none (.t 22),none⟩,⟨some 24,.eq true .pstr (.t 19) (.t 23),none⟩] [0,0,0,2,0,0,0,2,0] []) (
 .cond (.t 24) (
 .seq (
 .ops [⟨some 4,.mov (.c (.lit (.bool false))),none⟩]) (
 .ret)) (
 .skip))))) (
 .ops [⟨some 25,.bin .add (.t 13) (.c (.lit (.int .i64 1))),none⟩,⟨some 13,.mov (.t 25),none⟩])))
def K_slices_Equal_sl_string_string_1 (N : Nat -> Nat) : AC :=
 .seq (
 .ops [⟨some 4,.mov (.c (.lit (.bool true))),none⟩]) (
 .ret)
def C_slices_Equal_sl_string_string (N : Nat -> Nat) : AFunc := ⟨26,[.inl 4],
 .seq (
 .ops [⟨some 4,.mov (.c (.lit (.bool false))),none⟩]) (
 .seq (
 .seq (
 .ops [⟨some 6,.mov (.t 0),none⟩,⟨some 7,.len (.t 6),none⟩,⟨some 8,.mov (.t 1),none⟩,⟨some 9,.len (.t 8),none⟩,⟨some 10,.eq true .pint (.t 7) (.t 9),none⟩]) (
 .cond (.t 10) (
 .seq (
 .ops [⟨some 4,.mov (.c (.lit (.bool false))),none⟩]) (
 .ret)) (
 .skip))) (
 .seq (
 .seq (
 .ops [⟨some 11,.mov (.t 0),none⟩,⟨some 12,.len (.t 11),none⟩,⟨some 13,.mov (.c (.lit (.int .i64 0))),none⟩]) (
 .block 0 (
 .loop (L_slices_Equal_sl_string_string_1 N)))) (K_slices_Equal_sl_string_string_1 N))),false⟩
end Go.Proofs.Eng
namespace Go.Proofs.Eng
open Go
section
variable {Γ : Sums} {A : Tab} {N : Nat -> Nat}
@[simp] theorem aeq_nilp : aeq .pptr (.lit (.pointer none)) (.lit (.pointer none)) = some true := _root_.id rfl
end
end Go.Proofs.Eng
