import Derived.Test.YtcmdnlpkplaapaaGreatM35
import Derived.Test.YtcmdnlpkplaapaaGreatM34
import Derived.Test.YtcmdnlpkplaapaaGreatM26
import Derived.Test.YtcmdnlpkplaapaaGreatM31
/- The reference of chapter 4: depths of terms, of a tree, run by the engine. -/
set_option linter.unusedVariables false
set_option linter.unusedSimpArgs false
set_option maxRecDepth 100000
namespace Go.Proofs.Eng
open Go
def refDepth (t : Tr) : Int := (t.als.map fun n => (tyD t.types).getD n.type.toNat 0).foldl max ((ndD (tyD t.types) t.nodes).getD (t.nodes.length - 1) 0)
section
variable {Γ : Sums} {A : Tab} {N : Nat -> Nat}
set_option maxHeartbeats 1000000 in
theorem ref04_depthTerm_call (hy : Has Γ A (f_ref04_depthType N) (C_ref04_depthType N)) (h : Has Γ A (f_ref04_depthTerm N) (C_ref04_depthTerm N)) {t : Tr} (hkt : KidsY t.types) (hkn : KidsN t.types.length t.nodes) (ok : t.ok) (hT : t.types.length < 2 ^ 30) (hN : t.nodes.length < 2 ^ 30) :
  ∀ (i : Nat) (H : Hp) {a b c : AV},TrR H (.agg [a,b,c]) t -> i < t.nodes.length ->
  (lim Γ A).call (f_ref04_depthTerm N) [.agg [a,b,c],avInt .i64 i] H = some (avInt .i64 ((ndD (tyD t.types) t.nodes).getD i 0),none) := by
 intro i
 induction i using Nat.strongRecOn with
 | _ i ih =>
 intro H a b c hx hi
 obtain ⟨_,_,_,e,ra,rb,rc⟩ := id hx
 cases e
 have pa := ra.one
 have pb := rb.one
 have pc := rc.one
 obtain ⟨Hb,hHb⟩ : ∃ Hb,Hb = halloc { l := H.l,d := none } (.cells [a,b,c] (t_api_Tree N)) := ⟨_,rfl⟩
 have hxb : TrR Hb (.agg [a,b,c]) t := by rw [hHb]; exact (keep_box H none _).tr hx
 have hbox : hget Hb H.l.length = some (.cells [a,b,c] (t_api_Tree N)) := by rw [hHb]; simp
 have hset : ∀ n : Int,settle H (avInt .i64 n) Hb = (avInt .i64 n,none) := fun n => by rw [hHb]; simp [settle,keeps]
 obtain ⟨n,hn⟩ : ∃ n,t.nodes[i]? = some n := ⟨t.nodes[i],List.getElem?_eq_getElem hi⟩
 obtain ⟨p,q,v,p1,p2,p3,hv⟩ := hxb.kid hn (k := .i64)
 obtain ⟨p',q',u,p1',p2',p3',hu⟩ := hxb.tys hn (k := .i64)
 have lv := VI.len hv
 have lu := VI.len hu
 have okn := (ok.1 n (List.mem_of_getElem? hn)).2.2.2
 have hkids := hkn i n hn
 have hgd := ndD_get t.nodes (by rw [tyD_len]; exact hkn) i n hn
 apply h.call (by rfl)
 simp [C_ref04_depthTerm,pa,pb,pc,<- hHb,hbox,loadC,p1,p2,p3,lv,-Int.natCast_add,-halloc_d]
 refine wp_round (fun k ρ G => G = Hb /\ ∃ j : Nat,ρ 1 = avInt .i64 i /\ ρ 2 = .ptr H.l.length 0 /\ ρ 5 = avInt .i64 (kidsD (ndD (tyD t.types) t.nodes) 0 (n.kids.take j)) /\ ρ 15 = v /\ ρ 16 = avInt .i64 n.kids.length /\ ρ 17 = avInt .i64 j /\ j <= n.kids.length /\ k = n.kids.length - j) (n := n.kids.length)
  ⟨rfl,0,by simp,by simp,by simp [kidsD],by simp,by simp,by simp,by omega,rfl⟩ ?_
 rintro k ρ G ⟨hGe,j,r1,r2,r5,r13,r14,r15,hj,rfl⟩
 subst hGe
 by_cases hlt : j < n.kids.length
 ·have hlt' : (j : Int) < n.kids.length := by omega
  obtain ⟨s,s1,s2⟩ := hv.at' (k := .i64) (i := (j : Int)) (e := avInt .i64 n.kids[j]) (by omega) (by simp [List.getElem?_eq_getElem hlt]) rfl rfl rfl
  have hkj := hkids.1 _ (List.getElem_mem hlt)
  have hw : IntKind.wrap .i64 ((j : Int) + 1) = ((j + 1 : Nat) : Int) := by rw [wrap64 (by omega) (by omega)]; omega
  have htk : n.kids.take (j + 1) = n.kids.take j ++ [n.kids[j]] := List.take_succ_eq_append_getElem hlt
  generalize n.kids[j] = kk at *
  have ec := ih kk.toNat (by omega) _ hxb (by omega)
  rw [Int.toNat_of_nonneg hkj.1] at ec
  simp [L_ref04_depthTerm_1,r1,r2,r5,r13,r14,r15,hlt',s1,s2,hbox,loadC,ec,hw,-Int.natCast_add]
  exact ⟨n.kids.length - (j + 1),by omega,j + 1,by rw [htk,kidsD_snoc]; rfl,rfl,by omega,rfl⟩
 have hlt' : ¬ (j : Int) < n.kids.length := by omega
 have hje : j = n.kids.length := by omega
 subst hje
 rw [List.take_length] at r5
 simp [L_ref04_depthTerm_1,K_ref04_depthTerm_1,r1,r2,r5,r13,r14,r15,hbox,loadC,p1',p2',p3',lu,-Int.natCast_add]
 obtain ⟨acc,hacc⟩ : ∃ acc,acc = kidsD (ndD (tyD t.types) t.nodes) 0 n.kids := ⟨_,rfl⟩
 rw [<- hacc] at hgd r5
 refine wp_round (fun k ρ G' => G' = G /\ ∃ j : Nat,ρ 2 = .ptr H.l.length 0 /\ ρ 5 = avInt .i64 (kidsD (tyD t.types) acc (n.types.take j)) /\ ρ 32 = u /\ ρ 33 = avInt .i64 n.types.length /\ ρ 34 = avInt .i64 j /\ j <= n.types.length /\ k = n.types.length - j) (n := n.types.length)
  ⟨rfl,0,by simp [r2],by simp [r5,kidsD],by simp,by simp,by simp,by omega,rfl⟩ ?_
 rintro k ρ' G' ⟨hGe,j,s2',s5,s32,s33,s34,hj,rfl⟩
 subst hGe
 by_cases hlt : j < n.types.length
 ·have hlt' : (j : Int) < n.types.length := by omega
  obtain ⟨s,s1,s2⟩ := hu.at' (k := .i64) (i := (j : Int)) (e := avInt .i64 n.types[j]) (by omega) (by simp [List.getElem?_eq_getElem hlt]) rfl rfl rfl
  have hkj := hkids.2 _ (List.getElem_mem hlt)
  have hw : IntKind.wrap .i64 ((j : Int) + 1) = ((j + 1 : Nat) : Int) := by rw [wrap64 (by omega) (by omega)]; omega
  have htk : n.types.take (j + 1) = n.types.take j ++ [n.types[j]] := List.take_succ_eq_append_getElem hlt
  generalize n.types[j] = kk at *
  have ec := ref04_depthType_call hy hkt ok.2.1 hT kk.toNat _ hxb (by omega)
  rw [Int.toNat_of_nonneg hkj.1] at ec
  simp [L_ref04_depthTerm_2,s2',s5,s32,s33,s34,hlt',s1,s2,hbox,loadC,ec,hw,-Int.natCast_add]
  exact ⟨n.types.length - (j + 1),by omega,j + 1,by rw [htk,kidsD_snoc]; rfl,rfl,by omega,rfl⟩
 have hlt2 : ¬ (j : Int) < n.types.length := by omega
 have hje : j = n.types.length := by omega
 subst hje
 rw [List.take_length] at s5
 simp [L_ref04_depthTerm_2,K_ref04_depthTerm_2,s2',s5,s32,s33,s34,-Int.natCast_add]
 rw [show IntKind.wrap .i64 (kidsD (tyD t.types) acc n.types + 1) = (ndD (tyD t.types) t.nodes).getD i 0 from hgd.symm]
 simp [hset]
set_option maxHeartbeats 1000000 in
theorem ref04_Depth_call (hy : Has Γ A (f_ref04_depthType N) (C_ref04_depthType N)) (ht : Has Γ A (f_ref04_depthTerm N) (C_ref04_depthTerm N)) (h : Has Γ A (f_ref04_Depth N) (C_ref04_Depth N)) {t : Tr} (hkt : KidsY t.types) (hkn : KidsN t.types.length t.nodes)
  (hka : ∀ n ∈ t.als,0 <= n.type /\ n.type < t.types.length) (ok : t.ok) (hT : t.types.length < 2 ^ 30) (hN : t.nodes.length < 2 ^ 30) (hA : t.als.length < 2 ^ 30) (h0 : 0 < t.nodes.length) {H : Hp} {x : AV} (hx : TrR H x t) :
  (lim Γ A).call (f_ref04_Depth N) [x] H = some (avInt .i64 (refDepth t),none) := by
 obtain ⟨a,b,c,rfl,ra,rb,rc⟩ := id hx
 have la := ra.len
 have pa := ra.one
 have pb := rb.one
 have pc := rc.one
 have lc := rc.len
 obtain ⟨Hb,hHb⟩ : ∃ Hb,Hb = halloc { l := H.l,d := none } (.cells [a,b,c] (t_api_Tree N)) := ⟨_,rfl⟩
 have hxb : TrR Hb (.agg [a,b,c]) t := by rw [hHb]; exact (keep_box H none _).tr hx
 have hbox : hget Hb H.l.length = some (.cells [a,b,c] (t_api_Tree N)) := by rw [hHb]; simp
 have hLb : Loc H Hb [(H.l.length,.cells [a,b,c] (t_api_Tree N))] := by rw [hHb]; exact (Loc.start H).alloc _
 have hw0 : IntKind.wrap .i64 ((t.nodes.length : Int) - 1) = ((t.nodes.length - 1 : Nat) : Int) := by rw [wrap64 (by omega) (by omega)]; omega
 have e1 := ref04_depthTerm_call hy ht hkt hkn ok hT hN (t.nodes.length - 1) Hb hxb (by omega)
 obtain ⟨xs,x1,x2,x3⟩ := rc
 apply h.call (by rfl)
 simp [C_ref04_Depth,pa,pb,pc,<- hHb,hbox,loadC,la,lc,hw0,e1,-Int.natCast_add,-halloc_d]
 refine wp_round (fun k ρ G => ∃ j : Nat,ρ 1 = .ptr H.l.length 0 /\ ρ 3 = avInt .i64 (((t.als.take j).map fun n => (tyD t.types).getD n.type.toNat 0).foldl max ((ndD (tyD t.types) t.nodes).getD (t.nodes.length - 1) 0)) /\ ρ 13 = c /\ ρ 14 = avInt .i64 t.als.length /\ ρ 15 = avInt .i64 j /\ j <= t.als.length /\ Loc H G [(H.l.length,.cells [a,b,c] (t_api_Tree N))] /\ k = t.als.length - j) (n := t.als.length)
  ⟨0,by simp,by simp,by simp,by simp,by simp,by omega,hLb,rfl⟩ ?_
 rintro k ρ G ⟨j,r1,r3,r13,r14,r15,hj,hL,rfl⟩
 by_cases hlt : j < t.als.length
 ·have hlt' : (j : Int) < t.als.length := by omega
  have hgi : t.als[j]? = some t.als[j] := List.getElem?_eq_getElem hlt
  have hw : IntKind.wrap .i64 ((j : Int) + 1) = ((j + 1 : Nat) : Int) := by rw [wrap64 (by omega) (by omega)]; omega
  have htk : t.als.take (j + 1) = t.als.take j ++ [t.als[j]] := List.take_succ_eq_append_getElem hlt
  have hkj := hka _ (List.getElem_mem hlt)
  obtain ⟨y,hy'⟩ : ∃ y,xs[j]? = some y := ⟨xs[j]'(by omega),List.getElem?_eq_getElem (by omega)⟩
  have hnd := x3 j y t.als[j] hy' hgi
  generalize t.als[j] = n at *
  cases hnd
  have x1' : Vw G 3 c xs := x1.loc hL
  obtain ⟨p,p1,p2⟩ := x1'.ats (k := .i64) (ys := [avStr n.name,avInt .i64 n.type,avInt .i64 n.pos]) hy' rfl rfl
  obtain ⟨G1,hG1⟩ : ∃ G1,G1 = hset (halloc G (.cells [.lit (.string (mkS [])),.lit (.int .i64 0),.lit (.int .i64 0)] (t_api_Alias N))) G.l.length (some (.cells [avStr n.name,avInt .i64 n.type,avInt .i64 n.pos] (t_api_Alias N))) := ⟨_,rfl⟩
  have hL1 : Loc H G1 [(G.l.length,.cells [avStr n.name,avInt .i64 n.type,avInt .i64 n.pos] (t_api_Alias N)),(H.l.length,.cells [a,b,c] (t_api_Tree N))] := by rw [hG1]; exact (hL.alloc _).set _
  have hb6 := hL1.head
  have hb1 : hget G1 H.l.length = some (.cells [a,b,c] (t_api_Tree N)) := hL1.get (p := (H.l.length,_)) (by simp)
  have ec := ref04_depthType_call hy hkt ok.2.1 hT n.type.toNat G1 (hL1.kp.tr hx) (by omega)
  rw [Int.toNat_of_nonneg hkj.1] at ec
  simp [L_ref04_Depth_1,r1,r3,r13,r14,r15,hlt',p1,p2,setFrom,<- hG1,hb6,hb1,loadC,ec,hw,-Int.natCast_add,-halloc_d,-hset_d]
  exact ⟨t.als.length - (j + 1),by omega,j + 1,by rw [<- List.map_take,<- List.map_take,htk,List.map_append,List.foldl_append]; rfl,rfl,by omega,hL1.sub (List.sublist_cons_self _ _),rfl⟩
 ·have hlt' : ¬ (j : Int) < t.als.length := by omega
  have hje : j = t.als.length := by omega
  subst hje
  rw [List.take_length] at r3
  have : ∀ n : Int,settle H (avInt .i64 n) G = (avInt .i64 n,none) := fun n => settle_keeps hL.keeps rfl
  simp [L_ref04_Depth_1,K_ref04_Depth_1,r1,r3,r13,r14,r15,this,refDepth,-Int.natCast_add]
end
end Go.Proofs.Eng
namespace Go.Proofs.Eng
open Go
theorem fmax_le {B : Int} : ∀ (l : List Int) (m : Int),m <= B -> (∀ x ∈ l,x <= B) -> l.foldl max m <= B
 | [],m,h,_ => h
 | a :: l,m,h,hl => fmax_le l (max m a) (by have := hl a (by simp); omega) (fun x hx => hl x (by simp [hx]))
theorem fmax_ge : ∀ (l : List Int) (m : Int),m <= l.foldl max m
 | [],m => Int.le_refl _
 | a :: l,m => by have := fmax_ge l (max m a); rw [List.foldl_cons]; omega
theorem fmax_mem : ∀ (l : List Int) (m x : Int),x ∈ l -> x <= l.foldl max m
 | a :: l,m,x,hx => by
  rw [List.foldl_cons]
  rcases List.mem_cons.1 hx with rfl | hx
  ·have := fmax_ge l (max m x); omega
  ·exact fmax_mem l (max m a) x hx
theorem getD_mem {l : List Int} {i : Nat} (h : i < l.length) : l.getD i 0 ∈ l := by
 rw [List.getD_eq_getElem?_getD,List.getElem?_eq_getElem h]; exact List.getElem_mem h
theorem kidsD_mem {R : List Int} {k : Int} : ∀ (ks : List Int) (acc : Int),k ∈ ks -> R.getD k.toNat 0 <= kidsD R acc ks
 | a :: r,acc,hk => by
  unfold kidsD
  rcases List.mem_cons.1 hk with rfl | hk
  ·have := kidsD_ge (R := R) (ks := r) (acc := max acc (R.getD k.toNat 0)); omega
  ·exact kidsD_mem r _ hk
theorem useK_get {ct : List Int} {k : Int} {i : Nat} (h : k ≠ (i : Int)) : (useK ct k)[i]? = ct[i]? := by
 unfold useK
 split
 ·rename_i hk
  rw [List.getElem?_modify]
  have : ¬ k.toNat = i := by omega
  simp [this]
 ·rfl
theorem useR_get {i : Nat} : ∀ (ks ct : List Int),(i : Int) ∉ ks -> (useR ct ks)[i]? = ct[i]?
 | [],ct,_ => rfl
 | k :: r,ct,h => by
  show (useR (useK ct k) r)[i]? = _
  rw [useR_get r _ (fun hm => h (by simp [hm])),useK_get (fun e => h (by simp [e]))]
theorem usesF_get {i : Nat} : ∀ (rs : List (List Int)) (ct : List Int),(∀ r ∈ rs,(i : Int) ∉ r) -> (rs.foldl useR ct)[i]? = ct[i]?
 | [],ct,_ => rfl
 | r :: rs,ct,h => by rw [List.foldl_cons,usesF_get rs _ (fun s hs => h s (by simp [hs])),useR_get r ct (h r (by simp))]
theorem used {n : Nat} {rs : List (List Int)} (h : onesB (usesS n rs) = true) {i : Nat} (hi : i < n) : ∃ r ∈ rs,(i : Int) ∈ r := by
 apply Classical.byContradiction
 intro hn
 have hno : ∀ r ∈ rs,(i : Int) ∉ r := fun r hr hm => hn ⟨r,hr,hm⟩
 have hg : (usesS n rs)[i]? = some 0 := by
  unfold usesS
  rw [usesF_get rs _ hno]
  simp [hi]
 have hm := List.mem_of_getElem? hg
 have := List.all_eq_true.1 h 0 hm
 simp at this
theorem belowB_spec {ks : List Int} {b : Int} (h : belowB ks b = true) : ∀ k ∈ ks,0 <= k /\ k < b := by
 intro k hk
 have := List.all_eq_true.1 h k hk
 simpa using this
theorem RightP.kidsY {t : Tr} (h : RightP t) : KidsY t.types := fun i n hi => by
 have := h.y i n hi
 unfold okTyp at this
 simp only [Bool.and_eq_true] at this
 exact belowB_spec this.2
theorem RightP.kidsN {t : Tr} (h : RightP t) : KidsN t.types.length t.nodes := fun i n hi => by
 have := h.n i n hi
 unfold okN at this
 simp only [Bool.and_eq_true] at this
 exact ⟨belowB_spec this.2.1,belowB_spec this.2.2⟩
theorem RightP.kidsA {t : Tr} (h : RightP t) : ∀ n ∈ t.als,0 <= n.type /\ n.type < t.types.length := fun n hn => by
 obtain ⟨i,hi⟩ := List.getElem?_of_mem hn
 have := h.a i n hi
 unfold okA at this
 simp only [Bool.and_eq_true] at this
 exact belowB_spec this.2 n.type (by simp)
theorem depth_eq {t : Tr} (h : RightP t) : refDepth t = depthS t := by
 have hkY := h.kidsY
 have hkN := h.kidsN
 have hkA := h.kidsA
 have l1 := h.l1
 have l2 := h.l2
 have hT := tyD_le t.types (by omega)
 have hNd := ndD_le hT (by omega) (by omega) t.nodes (by omega)
 have h0 : 0 < t.nodes.length := List.length_pos_iff.2 h.ne
 have kb : ∀ (ks : List Int) (acc : Int),acc <= t.types.length -> kidsD (tyD t.types) acc ks <= t.types.length := fun ks acc ha => kidsD_le hT (by omega) ha
 have kbN : ∀ (ks : List Int) (acc : Int),acc <= (t.types.length : Int) + t.nodes.length -> kidsD (ndD (tyD t.types) t.nodes) acc ks <= (t.types.length : Int) + t.nodes.length := fun ks acc ha => kidsD_le hNd (by omega) ha
 have kbT : ∀ (ks : List Int) (acc : Int),acc <= (t.types.length : Int) + t.nodes.length -> kidsD (tyD t.types) acc ks <= (t.types.length : Int) + t.nodes.length := fun ks acc ha => kidsD_le (fun c hc => by have := hT c hc; omega) (by omega) ha
 have ty1 : ∀ (j : Nat) (n : Ty),t.types[j]? = some n -> (tyD t.types).getD j 0 = kidsD (tyD t.types) 0 n.kids + 1 := fun j n hj => by
  rw [tyD_get t.types hkY j n hj]
  have a1 := kb n.kids 0 (by omega)
  have a2 := kidsD_ge (R := tyD t.types) (ks := n.kids) (acc := 0)
  unfold bump
  rw [wrap64 (by omega) (by omega)]
 have nd1 : ∀ (j : Nat) (n : Nd),t.nodes[j]? = some n -> (ndD (tyD t.types) t.nodes).getD j 0 = kidsD (tyD t.types) (kidsD (ndD (tyD t.types) t.nodes) 0 n.kids) n.types + 1 := fun j n hj => by
  rw [ndD_get t.nodes (by rw [tyD_len]; exact hkN) j n hj]
  have a0 := kbN n.kids 0 (by omega)
  have a1 := kbT n.types (kidsD (ndD (tyD t.types) t.nodes) 0 n.kids) a0
  have a2 := kidsD_ge (R := ndD (tyD t.types) t.nodes) (ks := n.kids) (acc := 0)
  have a3 := kidsD_ge (R := tyD t.types) (ks := n.types) (acc := kidsD (ndD (tyD t.types) t.nodes) 0 n.kids)
  unfold bump
  rw [wrap64 (by omega) (by omega)]
 obtain ⟨root,hroot⟩ : ∃ root,root = (ndD (tyD t.types) t.nodes).getD (t.nodes.length - 1) 0 := ⟨_,rfl⟩
 have hrM : root <= refDepth t := by rw [hroot]; exact fmax_ge _ _
 have hN : ∀ (m i : Nat),t.nodes.length - i <= m -> i < t.nodes.length -> (ndD (tyD t.types) t.nodes).getD i 0 <= root := by
  intro m
  induction m with
  | zero => intro i hm hi; omega
  | succ m ih =>
   intro i hm hi
   obtain ⟨r,hr,him⟩ := used h.u1 hi
   rcases List.mem_cons.1 hr with rfl | hr
   ·simp at him
    have : i = t.nodes.length - 1 := by omega
    subst this
    rw [hroot]
    exact Int.le_refl _
   ·obtain ⟨n,hn,rfl⟩ := List.mem_map.1 hr
    obtain ⟨j,hj⟩ := List.getElem?_of_mem hn
    have hji := (hkN j n hj).1 _ him
    have hjl := (List.getElem?_eq_some_iff.1 hj).1
    have h1 := ih j (by omega) hjl
    have h2 := nd1 j n hj
    have h3 := kidsD_mem (R := ndD (tyD t.types) t.nodes) n.kids 0 him
    have h4 := kidsD_ge (R := tyD t.types) (ks := n.types) (acc := kidsD (ndD (tyD t.types) t.nodes) 0 n.kids)
    rw [Int.toNat_natCast] at h3
    omega
 have hN' : ∀ i,i < t.nodes.length -> (ndD (tyD t.types) t.nodes).getD i 0 <= root := fun i hi => hN _ i (Nat.le_refl _) hi
 have hY : ∀ (m i : Nat),t.types.length - i <= m -> i < t.types.length -> (tyD t.types).getD i 0 <= refDepth t := by
  intro m
  induction m with
  | zero => intro i hm hi; omega
  | succ m ih =>
   intro i hm hi
   obtain ⟨r,hr,him⟩ := used h.u2 hi
   rcases List.mem_append.1 hr with hr | hr
   ·rcases List.mem_append.1 hr with hr | hr
    ·obtain ⟨n,hn,rfl⟩ := List.mem_map.1 hr
     obtain ⟨j,hj⟩ := List.getElem?_of_mem hn
     have hjl := (List.getElem?_eq_some_iff.1 hj).1
     have h1 := hN' j hjl
     have h2 := nd1 j n hj
     have h3 := kidsD_mem (R := tyD t.types) n.types (kidsD (ndD (tyD t.types) t.nodes) 0 n.kids) him
     rw [Int.toNat_natCast] at h3
     omega
    ·obtain ⟨n,hn,rfl⟩ := List.mem_map.1 hr
     obtain ⟨j,hj⟩ := List.getElem?_of_mem hn
     have hji := hkY j n hj _ him
     have hjl := (List.getElem?_eq_some_iff.1 hj).1
     have h1 := ih j (by omega) hjl
     have h2 := ty1 j n hj
     have h3 := kidsD_mem (R := tyD t.types) n.kids 0 him
     rw [Int.toNat_natCast] at h3
     omega
   ·obtain ⟨n,hn,rfl⟩ := List.mem_map.1 hr
    simp at him
    have hm := fmax_mem (t.als.map fun n => (tyD t.types).getD n.type.toNat 0) ((ndD (tyD t.types) t.nodes).getD (t.nodes.length - 1) 0) ((tyD t.types).getD i 0) (List.mem_map.2 ⟨n,hn,by rw [<- him,Int.toNat_natCast]⟩)
    exact hm
 have hrootpos : 0 <= root := by
  obtain ⟨n,hn⟩ : ∃ n,t.nodes[t.nodes.length - 1]? = some n := ⟨t.nodes[t.nodes.length - 1]'(by omega),List.getElem?_eq_getElem (by omega)⟩
  have h2 := nd1 _ n hn
  have a2 := kidsD_ge (R := ndD (tyD t.types) t.nodes) (ks := n.kids) (acc := 0)
  have a3 := kidsD_ge (R := tyD t.types) (ks := n.types) (acc := kidsD (ndD (tyD t.types) t.nodes) 0 n.kids)
  rw [hroot]
  omega
 apply Int.le_antisymm
 ·unfold refDepth
  have hsub : ∀ x ∈ tyD t.types,x <= depthS t := fun x hx => by
   unfold depthS mostD
   exact Int.le_trans (fmax_mem _ 0 x hx) (fmax_ge _ _)
  refine fmax_le _ _ ?_ fun x hx => ?_
  ·unfold depthS mostD
   exact fmax_mem _ _ _ (getD_mem (by rw [ndD_len]; omega))
  ·obtain ⟨n,hn,rfl⟩ := List.mem_map.1 hx
   have := hkA n hn
   exact hsub _ (getD_mem (by rw [tyD_len]; omega))
 ·unfold depthS mostD
  refine fmax_le _ _ (fmax_le _ _ (by omega) fun x hx => ?_) fun x hx => ?_
  ·obtain ⟨i,hi,rfl⟩ := List.mem_iff_getElem.1 hx
   have h1 := hY _ i (Nat.le_refl _) (by rw [tyD_len] at hi; exact hi)
   rw [List.getD_eq_getElem?_getD,List.getElem?_eq_getElem hi] at h1
   exact h1
  ·obtain ⟨i,hi,rfl⟩ := List.mem_iff_getElem.1 hx
   have h1 := hN' i (by rw [ndD_len] at hi; exact hi)
   rw [List.getD_eq_getElem?_getD,List.getElem?_eq_getElem hi] at h1
   exact Int.le_trans h1 hrM
end Go.Proofs.Eng
namespace Go.Proofs.Eng
open Go
theorem flatMap_mem_len {β : Type} {g : Int -> List β} : ∀ (l : List Int) (k : Int),k ∈ l -> (g k).length <= (l.flatMap g).length
 | a :: r,k,hk => by
  rw [List.flatMap_cons,List.length_append]
  rcases List.mem_cons.1 hk with rfl | hk
  ·omega
  ·have := flatMap_mem_len (g := g) r k hk; omega
theorem walk_len {t : Tr} (ok : t.ok) (hck : checkB t = true) : ∀ (m i : Nat),t.nodes.length - i <= m -> i < t.nodes.length -> (walkS t (i : Int)).length <= t.nodes.length := by
 have hr := (check_right t).1 hck
 have hroot := walkS_root ok hck
 have hkN := hr.kidsN
 have hK := kids_of_check hck
 intro m
 induction m with
 | zero => intro i hm hi; omega
 | succ m ih =>
  intro i hm hi
  obtain ⟨r,hr',him⟩ := used hr.u1 hi
  rcases List.mem_cons.1 hr' with rfl | hr'
  ·simp at him
   rw [him]
   omega
  ·obtain ⟨n,hn,rfl⟩ := List.mem_map.1 hr'
   obtain ⟨j,hj⟩ := List.getElem?_of_mem hn
   have hji := (hkN j n hj).1 _ him
   have hjl := (List.getElem?_eq_some_iff.1 hj).1
   have h1 := ih j (by omega) hjl
   rw [walkS_eq hK (by omega)] at h1
   have hkk : kidsT t (j : Int) = n.kids := by simp [kidsT,hj]
   rw [hkk] at h1
   have h2 := flatMap_mem_len (g := walkS t) n.kids (i : Int) him
   rw [List.length_cons] at h1
   omega
theorem flatMap_pre_len {β : Type} {g : Int -> List β} (l : List Int) (j : Nat) : ((l.take j).flatMap g).length <= (l.flatMap g).length := by
 conv => rhs; rw [<- List.take_append_drop j l]
 rw [List.flatMap_append,List.length_append]; omega
section
variable {Γ : Sums} {A : Tab} {N : Nat -> Nat}
set_option maxHeartbeats 1000000 in
theorem ref04_Walk_call (h : Has Γ A (f_ref04_Walk N) (C_ref04_Walk N)) {t : Tr} (ok : t.ok) (hck : checkB t = true) (hN : t.nodes.length < 2 ^ 30) :
  ∀ (i : Nat) (H : Hp) {a b c : AV},TrR H (.agg [a,b,c]) t -> i < t.nodes.length ->
  ∃ v g,(lim Γ A).call (f_ref04_Walk N) [.agg [a,b,c],avInt .i64 i] H = some (v,some g) /\ Mut H g [] /\ ∃ id,v = .ra 1 id 0 (walkS t i).length /\ hget g id = some (.arr 1 ((walkS t i).map (avInt .i64)) (t_int N)) /\ H.l.length <= id := by
 have hK := kids_of_check hck
 intro i
 induction i using Nat.strongRecOn with
 | _ i ih =>
 intro H a b c hx hi
 obtain ⟨R,hR⟩ : ∃ R : AV × Option Hp -> Prop,R = fun r => ∃ v g,r = (v,some g) /\ Mut H g [] /\ ∃ id,v = .ra 1 id 0 (walkS t i).length /\ hget g id = some (.arr 1 ((walkS t i).map (avInt .i64)) (t_int N)) /\ H.l.length <= id := ⟨_,rfl⟩
 suffices ∃ r,(lim Γ A).call (f_ref04_Walk N) [.agg [a,b,c],avInt .i64 i] H = some r /\ R r by
  obtain ⟨r,e,hr⟩ := this
  rw [hR] at hr
  obtain ⟨v,g',rfl,h1,h2⟩ := hr
  exact ⟨v,g',e,h1,h2⟩
 obtain ⟨_,_,_,e,ra,rb,rc⟩ := id hx
 cases e
 have pa := ra.one
 have pb := rb.one
 have pc := rc.one
 obtain ⟨B,hB⟩ : ∃ B,B = AObj.cells [a,b,c] (t_api_Tree N) := ⟨_,rfl⟩
 have hL1 := ((Loc.start H).alloc B).alloc (.arr 1 [avInt .i64 i] (t_int N))
 obtain ⟨Hb,hHb⟩ : ∃ Hb,Hb = halloc (halloc { l := H.l,d := none } B) (.arr 1 [avInt .i64 i] (t_int N)) := ⟨_,rfl⟩
 rw [<- hHb] at hL1
 have hxb : TrR Hb (.agg [a,b,c]) t := hL1.kp.tr hx
 have hbox : hget Hb H.l.length = some B := by
  have := hL1.get (p := (H.l.length,B)) (by simp); exact this
 obtain ⟨n,hn⟩ : ∃ n,t.nodes[i]? = some n := ⟨t.nodes[i],List.getElem?_eq_getElem hi⟩
 obtain ⟨p,q,v,p1,p2,p3',hv⟩ := hx.kid hn (k := .i64)
 have p3 : aload Hb none q = some v := aload_more (fun x o ho => by rw [hL1.kp x (hget_lt ho)]; exact ho) p3'
 have lv := VI.len hv
 have okn := (ok.1 n (List.mem_of_getElem? hn)).2.2.2
 have hkk : kidsT t (i : Int) = n.kids := by simp [kidsT,hn]
 have hW : walkS t (i : Int) = (i : Int) :: n.kids.flatMap (walkS t) := by rw [walkS_eq hK (by omega),hkk]
 have hWl := walk_len ok hck _ i (Nat.le_refl _) hi
 rw [hW,List.length_cons] at hWl
 obtain ⟨W,hWe⟩ : ∃ W : Nat -> List Int,W = fun j => (i : Int) :: (n.kids.take j).flatMap (walkS t) := ⟨_,rfl⟩
 have hW0 : W 0 = [(i : Int)] := by rw [hWe]; rfl
 have hWj : ∀ j,(W j).length <= t.nodes.length := fun j => by
  have := flatMap_pre_len (g := walkS t) n.kids j
  rw [hWe,List.length_cons]; omega
 have hbox' : hget Hb H.l.length = some (.cells [a,b,c] (t_api_Tree N)) := by rw [hbox,hB]
 have hHb' := hHb.symm
 rw [hB] at hHb'
 apply h.callP (by rfl)
 simp [C_ref04_Walk,pa,pb,pc,fillA,repl,setFrom,chunk,hHb',hbox',loadC,p1,p2,p3,lv,-Int.natCast_add,-halloc_d,-hset_d]
 refine wp_round (fun k ρ G => ∃ j id : Nat,ρ 2 = .ptr H.l.length 0 /\ ρ 5 = .ra 1 id 0 (W j).length /\ ρ 15 = v /\ ρ 16 = avInt .i64 n.kids.length /\ ρ 17 = avInt .i64 j /\ j <= n.kids.length /\ Loc H G [(id,.arr 1 ((W j).map (avInt .i64)) (t_int N)),(H.l.length,B)] /\ k = n.kids.length - j) (n := n.kids.length)
  ⟨0,H.l.length + 1,by simp,by simp [hW0],by simp,by simp,by simp,by omega,by simpa [hW0] using hL1,rfl⟩ ?_
 rintro k ρ G ⟨j,id,r2,r5,r15,r16,r17,hj,hL,rfl⟩
 by_cases hlt : j < n.kids.length
 ·have hlt' : (j : Int) < n.kids.length := by omega
  have hvG : VI G v n.kids := hv.loc hL
  obtain ⟨s,s1,s2⟩ := hvG.at' (k := .i64) (i := (j : Int)) (e := avInt .i64 n.kids[j]) (by omega) (by simp [List.getElem?_eq_getElem hlt]) rfl rfl rfl
  have hkj := hK i n hn _ (List.getElem_mem hlt)
  have hw : IntKind.wrap .i64 ((j : Int) + 1) = ((j + 1 : Nat) : Int) := by rw [wrap64 (by omega) (by omega)]; omega
  have htk : n.kids.take (j + 1) = n.kids.take j ++ [n.kids[j]] := List.take_succ_eq_append_getElem hlt
  generalize n.kids[j] = kk at *
  obtain ⟨u,g,ec,hm,id',rfl,hg,hid'⟩ := ih kk.toNat (by omega) G (hL.kp.tr hx) (by omega)
  rw [Int.toNat_of_nonneg hkj.1] at ec hg
  have hb2 := hL.get (p := (H.l.length,B)) (by simp)
  simp only [hB] at hb2
  have hL2 := hL.still hm
  have hW1 : W (j + 1) = W j ++ walkS t kk := by rw [hWe]; simp [htk]
  have hwl := hWj (j + 1)
  rw [hW1,List.length_append] at hwl
  have hwne : walkS t kk ≠ [] := by simp [walkS,walkF]
  obtain ⟨v',H',os',e1,e2,e3⟩ := (Row.mk (t_int N) 1 id ((W j).map (avInt .i64))).append (bytes := 8) (ys := (walkS t kk).map (avInt .i64)) (r := [(H.l.length,B)]) hL2 (by simpa using hwne) (by simp only [List.length_map]; unfold roomMax; omega) (by simp)
  have he : asElems g (.ra 1 id' 0 (walkS t kk).length) = some ((walkS t kk).map (avInt .i64)) := by
   simp only [asElems,hg]
   rw [if_pos (by simp),List.drop_zero,List.take_of_length_le (by simp)]
  rw [<- List.map_append,<- hW1] at e2
  rw [List.length_map] at e1
  have hrow : ∃ id2,v' = .ra 1 id2 0 (W (j + 1)).length /\ os' = [(id2,.arr 1 ((W (j + 1)).map (avInt .i64)) (t_int N))] := by
   rcases e2 with ⟨_,h2,_⟩ | ⟨id2,h2,h3⟩
   ·rw [hWe] at h2; simp at h2
   ·exact ⟨id2,by simpa using h2,h3⟩
  obtain ⟨id2,rfl,rfl⟩ := hrow
  simp [L_ref04_Walk_1,r2,r5,r15,r16,r17,hlt',s1,s2,hb2,loadC,ec,he,e1,bindH_opt,hw,-Int.natCast_add,-halloc_d,-hset_d]
  exact ⟨n.kids.length - (j + 1),by omega,j + 1,id2,⟨rfl,rfl⟩,rfl,by omega,e3,rfl⟩
 ·have hlt' : ¬ (j : Int) < n.kids.length := by omega
  have hje : j = n.kids.length := by omega
  subst hje
  have hWW : W n.kids.length = walkS t i := by rw [hWe,hW]; simp
  rw [hWW] at r5 hL
  have hid := hL.ge (p := (id,.arr 1 ((walkS t i).map (avInt .i64)) (t_int N))) (by simp)
  simp only at hid
  simp [L_ref04_Walk_1,K_ref04_Walk_1,r2,r5,r15,r16,r17,-Int.natCast_add]
  rw [settle_some (by simp [AV.under,AV.unders]; omega),hR]
  exact ⟨_,_,rfl,hL.toMut.settled,id,rfl,hL.get (p := (id,_)) (by simp),hid⟩
end
end Go.Proofs.Eng
namespace Go.Proofs.Eng
open Go
section
variable {Γ : Sums} {A : Tab} {N : Nat -> Nat}
theorem same_none (hc : TreeC Γ A N) (h : Has Γ A (f_tree_Same N) (C_tree_Same N)) {H : Hp} {x y : AV} {t u : Tr} (hx : TrR H x t) (hy : TrR H y u) (ok : t.ok) (hb : t.nodes.length < 2 ^ 30 /\ t.types.length < 2 ^ 30 /\ t.als.length < 2 ^ 30) (hck : checkB t = false) : (lim Γ A).call (f_tree_Same N) [x,y] H = some (avBool false,none) := by
 obtain ⟨a1,b1,c1,rfl,ra1,rb1,rc1⟩ := id hx
 obtain ⟨a2,b2,c2,rfl,ra2,rb2,rc2⟩ := id hy
 have o1 := ra1.one
 have o2 := rb1.one
 have o3 := rc1.one
 have o4 := ra2.one
 have o5 := rb2.one
 have o6 := rc2.one
 obtain ⟨H2,hH2⟩ : ∃ H2,H2 = halloc (halloc { l := H.l,d := none } (.cells [a1,b1,c1] (t_api_Tree N))) (.cells [a2,b2,c2] (t_api_Tree N)) := ⟨_,rfl⟩
 have hM2 : Mut { l := H.l,d := none } H2 [] := by rw [hH2]; exact ((Mut.refl _ _).alloc _).alloc _
 have k2 : Keep H H2 := fun id hid => hM2.get hid (by simp)
 have f1 : hget H2 H.l.length = some (.cells [a1,b1,c1] (t_api_Tree N)) := by rw [hH2]; simp
 have e1 := check_call hc (k2.tr hx) ok hb
 rw [hck] at e1
 have e1' : (lim Γ A).call (f_tree_Check N) [.agg [a1,b1,c1]] H2 = some (avInt .i64 14,none) := e1
 have hH2' := hH2.symm
 have hfin := settle_keeps (H := H) (H' := H2) (v := avBool false) (hM2.keeps rfl) (by rfl)
 apply h.call (by rfl)
 simp [C_tree_Same,o1,o2,o3,o4,o5,o6,hH2',f1,e1',hfin,loadC,-halloc_d,-hset_d]
theorem walk_none (hc : TreeC Γ A N) (h : WalkC Γ A N) {cn ct : Nat} {tn tt : TypeId} {a b c : AV} {t : Tr} {n : Int} (ok : t.ok) (hb : t.nodes.length < 2 ^ 30 /\ t.types.length < 2 ^ 30 /\ t.als.length < 2 ^ 30) (hno : n < 0 \/ (t.nodes.length : Int) <= n \/ checkB t = false) {X : Nat -> Hp -> List AV -> Prop} :
  GenO (lim Γ A) (f_tree_Walk_1 N) [] [.ptr cn 0,.ptr ct 0] (fun H => hget H cn = some (.cells [avInt .i64 n] tn) /\ hget H ct = some (.cells [a,b,c] tt) /\ TrR H (.agg [a,b,c]) t) 0 X := by
 intro lp H K Kx S0 hlp hS0 hlS hst hV h00 hstep
 suffices hsuf : ∃ r,(lim Γ A).ent (f_tree_Walk_1 N) ([] ++ [AV.yld lp] ++ [.ptr cn 0,.ptr ct 0]) H = some r /\ r = (.tup [],none) by
  obtain ⟨r,e,rfl⟩ := hsuf
  exact ⟨.tup [],none,{ l := H.l,d := none },e,rfl,by cases hd : H.d <;> simp [dminO,hd],.inl ⟨S0,h00⟩⟩
 obtain ⟨v1,v2,v3⟩ := hV 0 S0 _ h00
 have hcall := check_call hc v3 ok hb
 obtain ⟨a',b',c',e,ra,rb,rc⟩ := id v3
 cases e
 have la := ra.len
 have pa := ra.one
 have pb := rb.one
 have pc := rc.one
 apply h.walk1.entP (by rfl)
 by_cases g1 : n < 0
 ·simp [C_tree_Walk_1,v1,v2,la,pa,pb,pc,g1,loadC,settle,keeps]
 ·by_cases g2 : (t.nodes.length : Int) <= n
  ·simp [C_tree_Walk_1,v1,v2,la,pa,pb,pc,g1,g2,loadC,settle,keeps]
  ·have g3 : checkB t = false := by
    rcases hno with h | h | h
    ·exact absurd h g1
    ·exact absurd h g2
    ·exact h
   rw [g3] at hcall
   have hcall' : (lim Γ A).call (f_tree_Check N) [.agg [a,b,c]] { l := H.l,d := none } = some (avInt .i64 14,none) := hcall
   simp [C_tree_Walk_1,v1,v2,hcall',la,pa,pb,pc,g1,g2,loadC,settle,keeps]
theorem lawAll_nil (h : Has Γ A (f_law04_all N) (C_law04_all N)) {g : FuncId} {cs : List AV} {V : Hp -> Prop} {H : Hp} {X : Nat -> Hp -> List AV -> Prop}
  (hg : GenO (lim Γ A) g [] cs V 0 X) (hV : ∀ H',Keep H H' -> V H') : (lim Γ A).call (f_law04_all N) [.fn g [] cs] H = some (avNilS,none) := by
 suffices ∃ r,(lim Γ A).call (f_law04_all N) [.fn g [] cs] H = some r /\ r = (avNilS,none) by
  obtain ⟨r,e,rfl⟩ := this
  exact e
 apply h.callP (by rfl)
 have L1 := (Loc.start H).alloc (.cells [avNilS] (t_sl_int N))
 simp [C_law04_all,-halloc_d,-hset_d]
 refine wp_rangeFnO (g := g) (fs := []) (cs := cs) rfl hg rfl L1 (fun i os' => os' = [(H.l.length,.cells [avNilS] (t_sl_int N))]) (fun _ _ => False) ?_ (by simp) ?_ ?_
 ·rintro i H' l o os' hL _
  exact hV _ hL.kp
 ·rintro i hi
  omega
 ·rintro x H2 os2 hL hx
  rcases hx with ⟨rfl,rfl⟩ | ⟨_,hx⟩
  ·have c1 := hL.get (p := (H.l.length,.cells [avNilS] (t_sl_int N))) (by simp)
   simp only at c1
   have hk : settle H avNilS H2 = (avNilS,none) := settle_keeps hL.keeps rfl
   simp [K_law04_all_1,c1,loadC,hk]
  ·exact hx.elim
end
end Go.Proofs.Eng
namespace Go.Proofs.Eng
open Go

def C_law04_TreeChecks (N : Nat -> Nat) : AFunc := ⟨76,[.inl 4],
 .seq (
 .ops [⟨some 2,.box (t_api_Tree N) (.t 0),none⟩,⟨some 4,.mov (.c (.lit (.bool false))),none⟩]) (
 .seq (
 .seq (
 .ops [⟨some 7,.call (.c (.fn (f_law04_lives N) [] [])) [],none⟩,⟨some 8,.un .not (.t 7),none⟩,⟨some 9,.mov (.t 8),none⟩,⟨some 10,.load (some 3) (.t 2),(some (9,false))⟩,⟨some 11,.call (.c (.fn (f_law04_Few N) [] [])) [(.t 10)],(some (9,false))⟩,⟨some 12,.un .not (.t 11),(some (9,false))⟩,⟨some 13,.pick (.t 9) (.c (.lit (.bool true))) (.t 12),none⟩]) (
 .cond (.t 13) (
 .seq (
 .ops [⟨some 14,.call (.c (.fn (f_law04_lives N) [] [])) [],none⟩,⟨some 4,.mov (.t 14),none⟩]) (
 .ret)) (
 .skip))) (
 .seq (
 .ops [⟨some 15,.load (some 3) (.t 2),none⟩,⟨some 16,.call (.c (.fn (f_ref04_Right N) [] [])) [(.t 15)],none⟩,⟨some 5,.mov (.t 16),none⟩]) (
 .seq (
 .seq (
 .ops [⟨some 17,.load (some 3) (.t 2),none⟩,⟨some 18,.call (.c (.fn (f_tree_Check N) [] [])) [(.t 17)],none⟩,⟨some 19,.eq false .pint (.t 18) (.c (.lit (.int .i64 0))),none⟩,⟨some 20,.mov (.t 5),none⟩,⟨some 21,.eq true .pbool (.t 19) (.t 20),none⟩]) (
 .cond (.t 21) (
 .seq (
 .ops [⟨some 4,.mov (.c (.lit (.bool false))),none⟩]) (
 .ret)) (
 .skip))) (
 .seq (
 .seq (
 .ops [⟨some 22,.mov (.t 5),none⟩,⟨some 23,.un .not (.t 22),none⟩]) (
 .cond (.t 23) (
 .seq (
 .ops [⟨some 24,.load (some 3) (.t 2),none⟩,⟨some 25,.call (.c (.fn (f_tree_Check N) [] [])) [(.t 24)],none⟩,⟨some 26,.eq false .pint (.t 25) (.c (.lit (.int .i64 14))),none⟩,⟨some 27,.mov (.t 26),none⟩,⟨some 28,.load (some 3) (.t 2),(some (27,true))⟩,⟨some 29,.call (.c (.fn (f_tree_Depth N) [] [])) [(.t 28)],(some (27,true))⟩,⟨some 30,.eq false .pint (.t 29) (.c (.lit (.int .i64 0))),(some (27,true))⟩,⟨some 31,.pick (.t 27) (.t 30) (.c (.lit (.bool false))),none⟩,⟨some 32,.mov (.t 31),none⟩,⟨some 33,.load (some 3) (.t 2),(some (32,true))⟩,⟨some 34,.mov (.t 1),(some (32,true))⟩,⟨some 35,.call (.c (.fn (f_tree_Walk N) [] [])) [(.t 33),(.t 34)],(some (32,true))⟩,⟨some 36,.call (.c (.fn (f_law04_all N) [] [])) [(.t 35)],(some (32,true))⟩,⟨some 37,.len (.t 36),(some (32,true))⟩,⟨some 38,.eq false .pint (.t 37) (.c (.lit (.int .i64 0))),(some (32,true))⟩,⟨some 39,.pick (.t 32) (.t 38) (.c (.lit (.bool false))),none⟩,⟨some 40,.mov (.t 39),none⟩,⟨some 41,.load (some 3) (.t 2),(some (40,true))⟩,⟨some 42,.load (some 3) (.t 2),(some (40,true))⟩,⟨some 43,.call (.c (.fn (f_tree_Same N) [] [])) [(.t 41),(.t 42)],(some (40,true))⟩,⟨some 44,.un .not (.t 43),(some (40,true))⟩,⟨some 45,.pick (.t 40) (.t 44) (.c (.lit (.bool false))),none⟩,⟨some 4,.mov (.t 45),none⟩]) (
 .ret)) (
 .skip))) (
 .seq (
 .ops [⟨some 6,.mov (.c (.lit (.slice none 0 0))),none⟩]) (
 .seq (
 .seq (
 .ops [⟨some 46,.mov (.t 1),none⟩,⟨some 47,.bin .geq (.t 46) (.c (.lit (.int .i64 0))),none⟩,⟨some 48,.mov (.t 47),none⟩,⟨some 49,.mov (.t 1),(some (48,true))⟩,⟨some 50,.faddr 0 (.t 2),(some (48,true))⟩,⟨some 51,.load none (.t 50),(some (48,true))⟩,⟨some 52,.len (.t 51),(some (48,true))⟩,⟨some 53,.bin .lss (.t 49) (.t 52),(some (48,true))⟩,⟨some 54,.pick (.t 48) (.t 53) (.c (.lit (.bool false))),none⟩]) (
 .cond (.t 54) (
 .ops [⟨some 55,.load (some 3) (.t 2),none⟩,⟨some 56,.mov (.t 1),none⟩,⟨some 57,.call (.c (.fn (f_ref04_Walk N) [] [])) [(.t 55),(.t 56)],none⟩,⟨some 6,.mov (.t 57),none⟩]) (
 .skip))) (
 .seq (
 .dops 11 [⟨some 58,.load (some 3) (.t 2),none⟩,⟨some 60,.load (some 3) (.t 2),none⟩,⟨some 59,.call (.c (.fn (f_tree_Depth N) [] [])) [(.t 58)],none⟩,⟨some 61,.call (.c (.fn (f_ref04_Depth N) [] [])) [(.t 60)],none⟩,⟨some 62,.eq false .pint (.t 59) (.t 61),none⟩,⟨some 63,.mov (.t 62),none⟩,⟨some 64,.load (some 3) (.t 2),(some (63,true))⟩,⟨some 65,.mov (.t 1),(some (63,true))⟩,⟨some 68,.mov (.t 6),(some (63,true))⟩,⟨some 66,.call (.c (.fn (f_tree_Walk N) [] [])) [(.t 64),(.t 65)],(some (63,true))⟩,⟨some 67,.call (.c (.fn (f_law04_all N) [] [])) [(.t 66)],(some (63,true))⟩,⟨some 69,.call (.c (.fn (f_law04_same N) [] [])) [(.t 67),(.t 68)],(some (63,true))⟩,⟨some 70,.pick (.t 63) (.t 69) (.c (.lit (.bool false))),none⟩,⟨some 71,.mov (.t 70),none⟩,⟨some 72,.load (some 3) (.t 2),(some (71,true))⟩,⟨some 73,.load (some 3) (.t 2),(some (71,true))⟩,⟨some 74,.call (.c (.fn (f_tree_Same N) [] [])) [(.t 72),(.t 73)],(some (71,true))⟩,⟨some 75,.pick (.t 71) (.t 74) (.c (.lit (.bool false))),none⟩,⟨some 4,.mov (.t 75),none⟩] [2,2,1,0,0,0,0,0,0,0,0,0,0,0,2,2,0,0,0] []) (
 .ret)))))))),false⟩
end Go.Proofs.Eng
namespace Go.Proofs.Eng
open Go
theorem few_names {t : Tr} (h : fewB t = true) : (∀ n ∈ t.types,n.name.length <= 1048576) /\ (∀ n ∈ t.als,n.name.length <= 1048576) /\ (t.nodes.length < 2 ^ 20 /\ t.types.length < 2 ^ 20 /\ t.als.length < 2 ^ 20) := by
 unfold fewB fewE at h
 simp only [Bool.and_eq_true,decide_eq_true_eq,List.all_eq_true] at h
 obtain ⟨h1,h2,h3,h4⟩ := h
 refine ⟨fun n hn => ?_,fun n hn => ?_,by omega⟩
 ·have := h2 n hn
  unfold fewT at this
  simp only [Bool.and_eq_true,decide_eq_true_eq,List.all_eq_true,le60] at this
  obtain ⟨⟨⟨e1,e2⟩,e4⟩,e5⟩ := this
  omega
 ·have := h3 n hn
  unfold fewA at this
  simp only [decide_eq_true_eq] at this
  omega
section
variable {Γ : Sums} {A : Tab} {N : Nat -> Nat}
structure ChecksC (Γ : Sums) (A : Tab) (N : Nat -> Nat) : Prop where
 check : TreeC Γ A N
 two : TwoC Γ A N
 sameT : Has Γ A (f_tree_Same N) (C_tree_Same N)
 depth : Has Γ A (f_tree_Depth N) (C_tree_Depth N)
 walk : WalkC Γ A N
 few : Has Γ A (f_law04_Few N) (C_law04_Few N)
 all : Has Γ A (f_law04_all N) (C_law04_all N)
 same : Has Γ A (f_law04_same N) (C_law04_same N)
 ref : RefK Γ A N
 dType : Has Γ A (f_ref04_depthType N) (C_ref04_depthType N)
 dTerm : Has Γ A (f_ref04_depthTerm N) (C_ref04_depthTerm N)
 dTree : Has Γ A (f_ref04_Depth N) (C_ref04_Depth N)
 rWalk : Has Γ A (f_ref04_Walk N) (C_ref04_Walk N)
 law : Has Γ A (f_law04_TreeChecks N) (C_law04_TreeChecks N)
theorem step_none (hc : TreeC Γ A N) (h : WalkC Γ A N) (ha : Has Γ A (f_law04_all N) (C_law04_all N)) {a b c : AV} {t : Tr} {n : Int} {v : AV} {H : Hp} (hv : WalkV N a b c n v H) (hx : TrR H (.agg [a,b,c]) t) (ok : t.ok)
  (hb : t.nodes.length < 2 ^ 30 /\ t.types.length < 2 ^ 30 /\ t.als.length < 2 ^ 30) (hno : n < 0 \/ (t.nodes.length : Int) <= n \/ checkB t = false) :
  (lim Γ A).call (f_law04_all N) [v] H = some (avNilS,none) := by
 obtain ⟨p,q,rfl,h1,h2⟩ := hv
 exact lawAll_nil ha (H := H) (X := fun _ _ _ => True) (walk_none hc h (cn := p) (ct := q) (tn := t_int N) (tt := t_api_Tree N) (a := a) (b := b) (c := c) ok hb hno)
  (fun H' k => ⟨by rw [k p (hget_lt h1),h1],by rw [k q (hget_lt h2),h2],k.tr hx⟩)
set_option maxHeartbeats 1000000 in
theorem law_TreeChecks (h : ChecksC Γ A N) {a b c : AV} {t : Tr} (hlives : (lim Γ A).call (f_law04_lives N) [] { l := [some (.cells [a,b,c] (t_api_Tree N))],d := none } = some (avBool true,none)) (hx : TrR { l := [],d := none } (.agg [a,b,c]) t) (wf : ∀ n ∈ t.nodes,n.wf) (ok0 : (∀ n ∈ t.nodes,n.names.length < 2 ^ 63) /\ ∀ n ∈ t.types,n.names.length < 2 ^ 63)
  (hb0 : t.nodes.length < 2 ^ 63 /\ t.types.length < 2 ^ 63 /\ t.als.length < 2 ^ 63) (root : Int) :
  ∃ r,(lim Γ A).ent (f_law04_TreeChecks N) [.agg [a,b,c],avInt .i64 root] { l := [],d := none } = some r /\ r.1 = avBool true := by
 have hxa : ∀ G,TrR G (.agg [a,b,c]) t := fun G => (show Keep { l := [],d := none } G from fun id hid => by simp at hid).tr hx
 obtain ⟨Hb,hHb⟩ : ∃ Hb,Hb = halloc { l := [],d := none } (.cells [a,b,c] (t_api_Tree N)) := ⟨_,rfl⟩
 have hl1 : (lim Γ A).call (f_law04_lives N) [] Hb = some (avBool true,none) := by rw [hHb]; exact hlives
 obtain ⟨a',b',c',e,ra,rb,rc⟩ := id hx
 cases e
 have pa := ra.one
 have pb := rb.one
 have pc := rc.one
 have la := ra.len
 have hbox : hget Hb 0 = some (.cells [a,b,c] (t_api_Tree N)) := by subst hHb; rfl
 have hHb' : halloc { l := [],d := none } (.cells [a,b,c] (t_api_Tree N)) = Hb := hHb.symm
 have hlb : Hb.l.length = 1 := by subst hHb; rfl
 have hfew := few_call h.few (hxa Hb) ok0 hb0
 apply h.law.entP (by rfl)
 rcases hf : fewB t with _ | _
 ·rw [hf] at hfew
  simp [C_law04_TreeChecks,pa,pb,pc,hHb',hl1,hbox,hfew,loadC,-halloc_d,-hset_d]
 rw [hf] at hfew
 obtain ⟨hb,ok⟩ := few_ok hf
 have hbn : t.nodes.length < 2 ^ 30 /\ t.types.length < 2 ^ 30 /\ t.als.length < 2 ^ 30 := ⟨by omega,by omega,hb.2.2⟩
 obtain ⟨n1,n2,n3⟩ := few_names hf
 have eR := fun G => ref04_Right_check h.ref (hxa G) ok wf n1 n2 n3
 have eC := fun G => check_call h.check (hxa G) ok hbn
 have eD := fun G => depth_call h.check h.depth (hxa G) ok hbn
 rcases hck : checkB t with _ | _
 ·rw [hck] at eR eC eD
  have eS := fun G => same_none h.check h.sameT (hxa G) (hxa G) ok hbn hck
  simp only [hHb] at *
  simp [C_law04_TreeChecks,pa,pb,pc,hl1,hbox,hfew,eR,eC,eD,errN,loadC,-halloc_d,-hset_d]
  refine bindH_R (R := WalkV N a b c root) (step_walk h.walk  pa pb pc) fun v G hv hG => ?_
  have hbG : hget G 0 = some (.cells [a,b,c] (t_api_Tree N)) := hG.old hbox
  have eN := step_none h.check h.walk h.all hv (hxa G) ok hbn (.inr (.inr hck))
  simp [eN,hbG,eS,loadC,-halloc_d,-hset_d]
 ·rw [hck] at eR eC eD
  have eS := fun G => same_call h.check h.two h.sameT (hxa G) (hxa G) ok hbn hck
  have hr := (check_right t).1 hck
  have eE := fun G => ref04_Depth_call h.dType h.dTerm h.dTree hr.kidsY hr.kidsN hr.kidsA ok hbn.2.1 hbn.1 hbn.2.2 (List.length_pos_iff.2 hr.ne) (hxa G)
  rw [depth_eq hr] at eE
  simp only [hHb] at *
  simp [C_law04_TreeChecks,pa,pb,pc,hl1,hbox,hfew,eR,eC,eD,errN,la,loadC,-halloc_d,-hset_d]
  by_cases g1 : 0 <= root /\ root < t.nodes.length
  ·obtain ⟨g1,g2⟩ := g1
   obtain ⟨rt,rfl⟩ := Int.eq_ofNat_of_zero_le g1
   have g3 : rt < t.nodes.length := by omega
   have hW := walk_len ok hck _ rt (Nat.le_refl _) g3
   have eW : ∃ v g,(lim Γ A).call (f_ref04_Walk N) [.agg [a,b,c],avInt .i64 rt] (halloc { l := [],d := none } (.cells [a,b,c] (t_api_Tree N))) = some (v,some g) /\ RowI N (walkS t rt) v g /\ Gr (halloc { l := [],d := none } (.cells [a,b,c] (t_api_Tree N))) g := by
    obtain ⟨v,g,e,m,id,e1,e2,_⟩ := ref04_Walk_call h.rWalk ok hck hbn.1 rt _ (hxa _) g3
    exact ⟨v,g,e,⟨id,e1,e2⟩,m.kp,m.len⟩
   simp [g1,g2,hbox,la,loadC,-halloc_d,-hset_d]
   refine bindH_R (R := RowI N (walkS t rt)) eW fun v G hv hG => ?_
   have hbG : hget G 0 = some (.cells [a,b,c] (t_api_Tree N)) := hG.old hbox
   simp [hbG,eD,eE,loadC,-halloc_d,-hset_d]
   refine bindH_R (R := WalkV N a b c rt) (step_walk h.walk pa pb pc) fun v2 G2 hv2 hG2 => ?_
   simp [-halloc_d,-hset_d]
   refine bindH_R (R := RowI N (walkS t rt)) (step_all h.check h.walk h.all hv2 (hxa G2) ok hbn hck (by omega) (by omega) (by omega)) fun v3 G3 hv3 hG3 => ?_
   simp [-halloc_d,-hset_d]
   have e3 := lawSame_call h.same (H := G3) hv3.vi (((hv.keep hG2).keep hG3).vi) (by omega) rfl
   have hbG3 : hget G3 0 = some (.cells [a,b,c] (t_api_Tree N)) := hG3.old (hG2.old hbG)
   simp [e3,hbG3,eS,loadC,-halloc_d,-hset_d]
  ·have g4 : root < 0 \/ (t.nodes.length : Int) <= root := by omega
   have g4' : root < 0 \/ (t.nodes.length : Int) <= root \/ checkB t = false := g4.elim .inl fun h => .inr (.inl h)
   by_cases g5 : 0 <= root
   ·have g6 : ¬ root < t.nodes.length := by omega
    simp [g5,g6,hbox,la,eD,eE,loadC,-halloc_d,-hset_d]
    refine bindH_R (R := WalkV N a b c root) (step_walk h.walk pa pb pc) fun v2 G2 hv2 hG2 => ?_
    have eN := step_none h.check h.walk h.all hv2 (hxa G2) ok hbn g4'
    have e3 := lawSame_call h.same (H := G2) (x := avNilS) (y := avNilS) (a := []) (b := []) (.inl (.inl ⟨rfl,rfl⟩)) (.inl (.inl ⟨rfl,rfl⟩)) (by simp) rfl
    have hbG3 : hget G2 0 = some (.cells [a,b,c] (t_api_Tree N)) := hG2.old hbox
    simp [eN,e3,hbG3,eS,loadC,-halloc_d,-hset_d]
   ·simp [g5,hbox,la,eD,eE,loadC,-halloc_d,-hset_d]
    refine bindH_R (R := WalkV N a b c root) (step_walk h.walk pa pb pc) fun v2 G2 hv2 hG2 => ?_
    have eN := step_none h.check h.walk h.all hv2 (hxa G2) ok hbn g4'
    have e3 := lawSame_call h.same (H := G2) (x := avNilS) (y := avNilS) (a := []) (b := []) (.inl (.inl ⟨rfl,rfl⟩)) (.inl (.inl ⟨rfl,rfl⟩)) (by simp) rfl
    have hbG3 : hget G2 0 = some (.cells [a,b,c] (t_api_Tree N)) := hG2.old hbox
    simp [eN,e3,hbG3,eS,loadC,-halloc_d,-hset_d]
end
end Go.Proofs.Eng
